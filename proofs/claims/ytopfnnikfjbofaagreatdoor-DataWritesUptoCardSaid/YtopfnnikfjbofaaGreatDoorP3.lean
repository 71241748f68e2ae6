/- A part of the proofs of the laws of this seat: the engine that reads the program's code, plain functions, or facts of the program's functions. Conditions: none. -/
import Derived.Test.YtopfnnikfjbofaaGreatDoorP2
import Derived.Test.YtopfnnikfjbofaaGreatDoorP1
import Derived.Test.YtopfnnikfjbofaaGreatDoorE5
set_option linter.unusedSectionVars false
set_option linter.unusedVariables false
set_option linter.unusedSimpArgs false
set_option linter.unnecessarySimpa false
set_option linter.unusedSimpArgs false
set_option linter.unusedVariables false
set_option linter.unusedSectionVars false
namespace Go.Eng
open Go
inductive Way (l : List Inode) (i : Int) : Int → Nat → Prop where
  | here : Way l i i 0
  | step {k : Int} {n : Nat} {x : Inode} {e : Entry} : Way l i k n → findI k l = some x → e ∈ x.entries → Way l i e.ino (n + 1)
theorem Reach.way {l : List Inode} {k : Int} (h : Reach l k) : ∃ n, Way l 1 k n := by
  induction h with
  | root => exact ⟨0, .here⟩
  | step _ hf he ih => obtain ⟨n, hn⟩ := ih; exact ⟨n + 1, .step hn hf he⟩
theorem Way.trans {l : List Inode} {i j k : Int} {n m : Nat} (h1 : Way l i j n) (h2 : Way l j k m) : Way l i k (n + m) := by
  induction h2 with
  | here => exact h1
  | step _ hf he ih => exact .step ih hf he
theorem Way.first {l : List Inode} {i k : Int} {n : Nat} {x : Inode} {e : Entry} (hf : findI i l = some x) (he : e ∈ x.entries) (h : Way l e.ino k n) : Way l i k (n + 1) := by
  have := Way.trans (.step .here hf he) h
  rwa [Nat.add_comm] at this
theorem Way.head {l : List Inode} {i k : Int} {n : Nat} (h : Way l i k n) : (n = 0 ∧ k = i) ∨ ∃ m x e, n = m + 1 ∧ findI i l = some x ∧ e ∈ x.entries ∧ Way l e.ino k m := by
  induction h with
  | here => exact Or.inl ⟨rfl, rfl⟩
  | step h hf he ih =>
    rcases ih with ⟨rfl, rfl⟩ | ⟨m, y, e', rfl, h1, h2, h3⟩
    · exact Or.inr ⟨0, _, _, rfl, hf, he, .here⟩
    · exact Or.inr ⟨m + 1, y, e', rfl, h1, h2, .step h3 hf he⟩
section
variable {f : Fs}
theorem kind_ents {x : Inode} (h : kindB x = true) {e : Entry} (he : e ∈ x.entries) : x.kind = 2 := by
  unfold kindB at h
  simp only [Bool.or_eq_true, Bool.and_eq_true, decide_eq_true_eq] at h
  rcases h with ⟨_, h, _⟩ | ⟨h, _⟩ | ⟨_, h, _⟩
  · have : x.entries = [] := by simpa using h
    rw [this] at he; cases he
  · exact h
  · have : x.entries = [] := by simpa using h
    rw [this] at he; cases he
theorem Tree.ents (h : Tree f) {k : Int} {x : Inode} {e : Entry} (hf : findI k f.inodes = some x) (he : e ∈ x.entries) : x.kind = 2 := kind_ents (h.kind x (findK_some hf).1) he
theorem Tree.up (h : Tree f) {k k' : Int} {x x' y : Inode} {e e' : Entry} (hf : findI k f.inodes = some x) (he : e ∈ x.entries) (hf' : findI k' f.inodes = some x') (he' : e' ∈ x'.entries) (hn : e.ino = e'.ino) (hy : findI e.ino f.inodes = some y) (hd : y.kind = 2) : k = k' ∧ x = x' ∧ e = e' := by
  obtain ⟨y1, y2⟩ := findK_some hy
  obtain ⟨x1, x2⟩ := findK_some hf
  obtain ⟨x1', x2'⟩ := findK_some hf'
  have h1 := fc_uniq (h.dirs y y1 hd) x1 he y2.symm x1' he' (hn ▸ y2.symm)
  refine ⟨?_, h1.1, h1.2⟩
  rw [← x2, ← x2', h1.1]
theorem Tree.no_up (h : Tree f) {k : Int} {x : Inode} {e : Entry} (hf : findI k f.inodes = some x) (he : e ∈ x.entries) : e.ino ≠ 1 := by
  intro h1
  have := fc_mem (findK_some hf).1 he h1
  rw [h.rootn] at this; omega
theorem Tree.deep (h : Tree f) {k : Int} {n : Nat} (hw : Way f.inodes 1 k n) : ∀ {m : Nat} {y : Inode}, findI k f.inodes = some y → y.kind = 2 → Way f.inodes 1 k m → n = m := by
  induction hw with
  | here =>
    intro m y _ _ hm
    generalize hk : (1 : Int) = k at hm
    cases hm with
    | here => rfl
    | step h1 hf he => exact absurd hk.symm (h.no_up hf he)
  | step hw hf he ih =>
    rename_i k' n' x e
    intro m y hy hd hm
    generalize hk : e.ino = k at hm
    cases hm with
    | here => exact absurd hk (h.no_up hf he)
    | step h1 hf' he' =>
      obtain ⟨rfl, rfl, rfl⟩ := h.up hf he hf' he' hk hy hd
      rw [ih hf (h.ents hf he) h1]
theorem Tree.one_way (h : Tree f) {i j : Int} {a : Nat} {x y : Inode} (hi : Way f.inodes 1 i a) (hx : findI i f.inodes = some x) (hy : findI j f.inodes = some y) (hd : y.kind = 2) :
    ∀ {n1 n2 : Nat} {e1 e2 : Entry}, e1 ∈ x.entries → e2 ∈ x.entries → Way f.inodes e1.ino j n1 → Way f.inodes e2.ino j n2 → e1 = e2 := by
  have key : ∀ (n : Nat) (j : Int) (y : Inode) (e1 e2 : Entry), findI j f.inodes = some y → y.kind = 2 → e1 ∈ x.entries → e2 ∈ x.entries → Way f.inodes e1.ino j n → Way f.inodes e2.ino j n → e1 = e2 := by
    intro n
    induction n with
    | zero =>
      intro j y e1 e2 hy hd h1 h2 w1 w2
      generalize hk : e1.ino = k1 at w1
      generalize hk2 : e2.ino = k2 at w2
      cases w1
      cases w2
      subst hk
      exact (h.up hx h1 hx h2 hk2.symm hy hd).2.2
    | succ n ih =>
      intro j y e1 e2 hy hd h1 h2 w1 w2
      cases w1 with
      | step w1 hf he =>
        rename_i k1 x1 e
        generalize hj : e.ino = j' at w2
        cases w2 with
        | step w2 hf' he' =>
          obtain ⟨rfl, rfl, rfl⟩ := h.up hf he hf' he' hj hy hd
          exact ih _ _ _ _ hf (h.ents hf he) h1 h2 w1 w2
  intro n1 n2 e1 e2 h1 h2 w1 w2
  have e := h.deep (hi.trans (w1.first hx h1)) hy hd (hi.trans (w2.first hx h2))
  have : n1 = n2 := by omega
  subst this
  exact key n1 j y e1 e2 hy hd h1 h2 w1 w2
theorem Tree.no_loop (h : Tree f) {i : Int} {a n : Nat} {x : Inode} {e : Entry} (hi : Way f.inodes 1 i a) (hx : findI i f.inodes = some x) (he : e ∈ x.entries) : ¬ Way f.inodes e.ino i n := fun w => by
  have := h.deep hi hx (h.ents hx he) (hi.trans (w.first hx he))
  omega
end
def underP (p n : Str) : Str := if p = [47] then p ++ n else (p ++ [47]) ++ n
def belowP (l : List Inode) : Nat → Int → Str → List Seen
  | 0, _, _ => []
  | m + 1, i, p => match findI i l with
    | none => []
    | some x => ⟨p, i⟩ :: x.entries.flatMap fun e => belowP l m e.ino (underP p e.name)
def listP (f : Fs) : List Seen := belowP f.inodes (f.inodes.length + 1) 1 [47]
theorem flatMap_congr' {α β : Type} {l : List α} {f g : α → List β} (h : ∀ x ∈ l, f x = g x) : l.flatMap f = l.flatMap g := by
  induction l with
  | nil => rfl
  | cons x l ih => rw [List.flatMap_cons, List.flatMap_cons, h x (by simp), ih (fun y hy => h y (by simp [hy]))]
theorem below_congr {l l' : List Inode} : ∀ (m : Nat) (i : Int) (p : Str), (∀ j n, Way l i j n → (findI j l').map Inode.entries = (findI j l).map Inode.entries) → belowP l m i p = belowP l' m i p
  | 0, i, p, _ => rfl
  | m + 1, i, p, h => by
    have h0 := h i 0 .here
    rw [belowP, belowP]
    cases hf : findI i l with
    | none =>
      rw [hf] at h0
      cases hf' : findI i l' with
      | none => rfl
      | some y => rw [hf'] at h0; cases h0
    | some x =>
      rw [hf] at h0
      cases hf' : findI i l' with
      | none => rw [hf'] at h0; cases h0
      | some y =>
        rw [hf'] at h0
        simp only [Option.map_some, Option.some.injEq] at h0
        simp only
        rw [h0]
        congr 1
        exact flatMap_congr' fun e he => below_congr m e.ino _ fun j n hw => h j (n + 1) (hw.first hf he)
def Ins1 {α : Type} (l m : List α) : Prop := ∃ a b s, l = a ++ b ∧ m = a ++ s :: b
theorem Ins1.len {α : Type} {l m : List α} (h : Ins1 l m) : m.length = l.length + 1 := by
  obtain ⟨a, b, s, rfl, rfl⟩ := h; simp; omega
theorem Ins1.sub {α : Type} {l m : List α} (h : Ins1 l m) : List.Sublist l m := by
  obtain ⟨a, b, s, rfl, rfl⟩ := h
  exact (List.Sublist.refl a).append (List.sublist_cons_self s b)
theorem msum_comm {α β : Type} (μ : α → β → Int) (l : List α) (m : List β) : msum (fun a => msum (μ a) m) l = msum (fun b => msum (fun a => μ a b) l) m := by
  induction l with
  | nil =>
    rw [msum_nil]
    induction m with
    | nil => rfl
    | cons b m ih => rw [msum_cons, ← ih]; rfl
  | cons a l ih =>
    rw [msum_cons, ih]
    clear ih
    induction m with
    | nil => rfl
    | cons b m ih => rw [msum_cons, msum_cons, msum_cons, ← ih, msum_cons]; omega
theorem msum_add {α : Type} (μ ν : α → Int) (l : List α) : msum (fun x => μ x + ν x) l = msum μ l + msum ν l := by
  induction l with
  | nil => rfl
  | cons x l ih => rw [msum_cons, msum_cons, msum_cons, ih]; omega
theorem msum_mono {α : Type} {μ ν : α → Int} {l : List α} (h : ∀ x ∈ l, μ x ≤ ν x) : msum μ l ≤ msum ν l := by
  induction l with
  | nil => exact Int.le_refl _
  | cons x l ih => rw [msum_cons, msum_cons]; have := ih (fun y hy => h y (by simp [hy])); have := h x (by simp); omega
theorem msum_zero {α : Type} : ∀ l : List α, msum (fun _ => 0) l = 0
  | [] => rfl
  | x :: l => by rw [msum_cons, msum_zero l]; rfl
theorem msum_once {α : Type} {μ : α → Int} {c : Int} (hc : 0 ≤ c) : ∀ {l : List α}, l.Nodup → (∀ x ∈ l, 0 ≤ μ x ∧ μ x ≤ c) → (∀ x ∈ l, ∀ y ∈ l, 0 < μ x → 0 < μ y → x = y) → msum μ l ≤ c
  | [], _, _, _ => hc
  | x :: l, hn, h1, h2 => by
    rw [msum_cons]
    rw [List.nodup_cons] at hn
    have hx := h1 x (by simp)
    by_cases hp : 0 < μ x
    · have : msum μ l = 0 := by
        rw [msum_congr (ν := fun _ => 0) fun y hy => by
          have hy1 := h1 y (by simp [hy])
          by_cases hy2 : 0 < μ y
          · have := h2 x (by simp) y (by simp [hy]) hp hy2
            subst this
            exact absurd hy hn.1
          · omega]
        exact msum_zero l
      omega
    · have := msum_once hc hn.2 (fun y hy => h1 y (by simp [hy])) (fun y hy z hz => h2 y (by simp [hy]) z (by simp [hz]))
      omega
open Classical in
noncomputable def subI (l : List Inode) (i : Int) (x : Inode) : Int := if ∃ n, Way l i x.ino n then (x.entries.length : Int) else 0
theorem subI_nn (l : List Inode) (i : Int) (x : Inode) : 0 ≤ subI l i x := by unfold subI; split <;> omega
theorem subI_le (l : List Inode) (i : Int) (x : Inode) : subI l i x ≤ x.entries.length := by unfold subI; split <;> omega
theorem flat_len {α β : Type} (g : α → List β) (l : List α) : ((l.flatMap g).length : Int) = msum (fun x => ((g x).length : Int)) l := by
  induction l with
  | nil => rfl
  | cons x l ih => rw [List.flatMap_cons, List.length_append, msum_cons, ← ih]; omega
theorem Tree.ent_nodup {f : Fs} (h : Tree f) {x : Inode} (hx : x ∈ f.inodes) : x.entries.Nodup := by
  have := ((rightE_iff _).1 (kind_right (h.kind x hx))).1
  unfold SortE SortK at this
  exact this.imp fun {a b} hab e => by subst e; rw [ltS_irrefl] at hab; cases hab
theorem below_len {f : Fs} (h : Tree f) : ∀ (m : Nat) (i : Int) (k : Nat) (p : Str), Way f.inodes 1 i k → ((belowP f.inodes m i p).length : Int) ≤ 1 + msum (subI f.inodes i) f.inodes
  | 0, i, k, p, hw => by
    have := msum_nn (subI_nn f.inodes i) f.inodes
    simp only [belowP, List.length_nil]; omega
  | m + 1, i, k, p, hw => by
    rw [belowP]
    cases hf : findI i f.inodes with
    | none =>
      have := msum_nn (subI_nn f.inodes i) f.inodes
      simp only [List.length_nil]; omega
    | some x =>
      obtain ⟨hx1, hx2⟩ := findK_some hf
      simp only [List.length_cons]
      have h1 := flat_len (fun e : Entry => belowP f.inodes m e.ino (underP p e.name)) x.entries
      have h2 : msum (fun e : Entry => ((belowP f.inodes m e.ino (underP p e.name)).length : Int)) x.entries ≤ msum (fun e : Entry => 1 + msum (subI f.inodes e.ino) f.inodes) x.entries :=
        msum_mono fun e he => below_len h m e.ino (k + 1) _ (.step hw hf he)
      rw [msum_add, msum_one, msum_comm] at h2
      have h3 : (x.entries.length : Int) + msum (fun y => msum (fun e : Entry => subI f.inodes e.ino y) x.entries) f.inodes ≤ msum (subI f.inodes i) f.inodes := by
        have h4 : msum (fun y => (if y = x then (x.entries.length : Int) else 0) + msum (fun e : Entry => subI f.inodes e.ino y) x.entries) f.inodes ≤ msum (subI f.inodes i) f.inodes := by
          refine msum_mono fun y hy => ?_
          by_cases hyx : y = x
          · subst hyx
            rw [if_pos rfl]
            have e1 : msum (fun e : Entry => subI f.inodes e.ino y) y.entries = msum (fun _ => 0) y.entries := msum_congr fun e he => by
              unfold subI
              rw [if_neg]
              rintro ⟨n, hn⟩
              rw [hx2] at hn
              exact h.no_loop hw hf he hn
            rw [e1, msum_zero]
            unfold subI
            rw [if_pos ⟨0, by rw [hx2]; exact .here⟩]
            omega
          · rw [if_neg hyx, Int.zero_add]
            refine msum_once (subI_nn _ _ _) (h.ent_nodup hx1) (fun e he => ⟨subI_nn _ _ _, ?_⟩) (fun e1 he1 e2 he2 p1 p2 => ?_)
            · unfold subI
              split
              · rename_i hw'
                obtain ⟨n, hn⟩ := hw'
                rw [if_pos ⟨n + 1, hn.first hf he⟩]; omega
              · split <;> omega
            · unfold subI at p1 p2
              split at p1
              · rename_i w1
                split at p2
                · rename_i w2
                  obtain ⟨n1, hn1⟩ := w1
                  obtain ⟨n2, hn2⟩ := w2
                  have hyf := findI_mem h.sort hy
                  have hyd : y.kind = 2 := by
                    cases hye : y.entries with
                    | nil => rw [hye] at p1; simp at p1
                    | cons e l => exact kind_ents (h.kind y hy) (e := e) (by rw [hye]; simp)
                  exact h.one_way hw hf hyf hyd he1 he2 hn1 hn2
                · omega
              · omega
        rw [msum_add] at h4
        have h5 : (x.entries.length : Int) ≤ msum (fun y => if y = x then (x.entries.length : Int) else 0) f.inodes := by
          have := msum_le1 (μ := fun y : Inode => if y = x then (x.entries.length : Int) else 0) (fun y => by split <;> omega) hx1
          simpa using this
        omega
      omega
structure Lil (f : Fs) : Prop where
  len : f.inodes.length ≤ 10000
  ents : ∀ x ∈ f.inodes, x.entries.length ≤ 10000
theorem Lil.of_few {f : Fs} (h : fewF f = true) : Lil f := by
  obtain ⟨h1, h2⟩ := fewF_sm h
  exact ⟨by omega, fun x hx => by have := (h2 x hx).2.1; omega⟩
theorem msum_bound {α : Type} {μ : α → Int} {c : Int} {l : List α} (h : ∀ x ∈ l, μ x ≤ c) : msum μ l ≤ l.length * c := by
  induction l with
  | nil => simp [msum]
  | cons x l ih =>
    rw [msum_cons, List.length_cons]
    have h1 := ih (fun y hy => h y (by simp [hy]))
    have h2 := h x (by simp)
    have : ((l.length + 1 : Nat) : Int) * c = (l.length : Int) * c + c := by
      rw [Int.natCast_add, Int.add_mul]; simp
    omega
theorem below_le {f : Fs} (h : Tree f) (hl : Lil f) {m : Nat} {i : Int} {k : Nat} {p : Str} (hw : Way f.inodes 1 i k) : (belowP f.inodes m i p).length ≤ 1000000001 := by
  have h1 := below_len h m i k p hw
  have h2 : msum (subI f.inodes i) f.inodes ≤ f.inodes.length * 10000 := msum_bound fun x hx => by
    have := subI_le f.inodes i x
    have := hl.ents x hx
    omega
  have h3 := hl.len
  omega
end Go.Eng
set_option linter.unusedVariables false
set_option maxRecDepth 100000
namespace Go.Eng
open Go
end Go.Eng
set_option linter.unusedSimpArgs false
set_option linter.unusedVariables false
namespace Go.Eng
open Go
structure InF (f : Fs) : Prop where
  len : f.inodes.length ≤ 1073741824
  ents : ∀ x ∈ f.inodes, x.entries.length ≤ 1073741824
end Go.Eng
set_option linter.unusedSimpArgs false
set_option linter.unusedVariables false
set_option linter.unusedSectionVars false
namespace Go.Eng
open Go
def Nm (x : Str) : Prop := x ≠ [] ∧ ∀ c ∈ x, c ≠ 47
theorem mayN_nm {x : Str} (h : mayN x = true) : Nm x := by
  unfold mayN at h
  simp only [Bool.and_eq_true, Bool.not_eq_true', beq_eq_false_iff_ne] at h
  obtain ⟨h1, _, h3, _⟩ := h
  refine ⟨h1, fun c hc e => ?_⟩
  rw [List.any_eq_false] at h3
  have := h3 c hc
  unfold badB at this
  rw [e] at this
  exact this rfl
theorem mayN_len {x : Str} (h : mayN x = true) : x.length ≤ 255 := by
  unfold mayN at h
  simp only [Bool.and_eq_true, decide_eq_true_eq] at h
  exact h.2.1
theorem mayN_dot {x : Str} (h : mayN x = true) : x ≠ [46] ∧ x ≠ [46, 46] := by
  unfold mayN at h
  simp only [Bool.and_eq_true, Bool.not_eq_true', beq_eq_false_iff_ne] at h
  exact h.2.2.2
theorem flat_47 (ns : List Str) (b : Str) : ∃ r, (ns.flatMap fun x => 47 :: x) ++ 47 :: b = 47 :: r := by
  cases ns with
  | nil => exact ⟨b, rfl⟩
  | cons x ns => exact ⟨x ++ ((ns.flatMap fun x => 47 :: x) ++ 47 :: b), by simp⟩
theorem splitN_47 (b : Str) : splitN [] (47 :: b) = splitN [] b := by simp [splitN]
theorem splitN_flat (b : Str) : ∀ ns : List Str, (∀ x ∈ ns, Nm x) → splitN [] ((ns.flatMap fun x => 47 :: x) ++ 47 :: b) = (ns ++ (splitN [] b).1, (splitN [] b).2)
  | [], _ => by simp [splitN_47]
  | x :: ns, h => by
    have hx := h x (by simp)
    obtain ⟨r, hr⟩ := flat_47 ns b
    have ih := splitN_flat b ns (fun y hy => h y (by simp [hy]))
    rw [hr, splitN_47] at ih
    have e : ((x :: ns).flatMap fun x => 47 :: x) ++ 47 :: b = 47 :: (x ++ 47 :: r) := by
      rw [List.flatMap_cons, List.append_assoc, hr]; simp
    rw [e, splitN_47, splitN_app x [] r hx.2, ih, List.nil_append, if_neg hx.1]
    simp
theorem namesP_flat (b : Str) {ns : List Str} (h : ∀ x ∈ ns, Nm x) : namesP ((ns.flatMap fun x => 47 :: x) ++ 47 :: b) = ns ++ namesP b := by
  unfold namesP
  rw [splitN_flat b ns h]
  unfold withLast
  simp only
  split <;> simp
theorem namesP_one {x : Str} (h : Nm x) : namesP x = [x] := by
  unfold namesP
  rw [splitN_none x [] h.2]
  unfold withLast
  rw [List.nil_append, if_neg h.1]; rfl
theorem namesP_join {ns : List Str} (h : ∀ x ∈ ns, Nm x) : namesP (joinP ns) = ns := by
  unfold joinP
  rcases List.eq_nil_or_concat ns with rfl | ⟨ns', x, rfl⟩
  · rfl
  · rw [List.concat_eq_append] at h ⊢
    rw [if_neg (by simp), List.flatMap_append]
    have e : ([x].flatMap fun x => (47 : UInt8) :: x) = 47 :: x := by simp
    rw [e, namesP_flat x (fun y hy => h y (by simp [hy])), namesP_one (h x (by simp))]
theorem joinP_ne {ns : List Str} (h : ∀ x ∈ ns, Nm x) (h0 : ns ≠ []) : joinP ns ≠ [47] := by
  intro e
  have := namesP_join h
  rw [e] at this
  exact h0 this.symm
theorem joinP_cons (x : Str) (ns : List Str) : joinP (x :: ns) = 47 :: x ++ (ns.flatMap fun x => 47 :: x) := by unfold joinP; simp
theorem underP_join {ns : List Str} (h : ∀ x ∈ ns, Nm x) (x : Str) : underP (joinP ns) x = joinP (ns ++ [x]) := by
  unfold underP
  by_cases h0 : ns = []
  · subst h0; simp [joinP]
  · rw [if_neg (joinP_ne h h0)]
    unfold joinP
    rw [if_neg h0, if_neg (by simp)]
    simp
theorem foldl_under {ns : List Str} : ∀ {ms : List Str}, (∀ x ∈ ms, Nm x) → (∀ x ∈ ns, Nm x) → ns.foldl underP (joinP ms) = joinP (ms ++ ns) := by
  induction ns with
  | nil => intro ms _ _; simp
  | cons x ns ih =>
    intro ms h1 h2
    rw [List.foldl_cons, underP_join h1, ih (fun y hy => by
      simp only [List.mem_append, List.mem_singleton] at hy
      rcases hy with hy | rfl
      · exact h1 y hy
      · exact h2 y (by simp)) (fun y hy => h2 y (by simp [hy]))]
    simp
theorem plainP_join {ns : List Str} (h : ∀ x ∈ ns, mayN x = true) : plainP (joinP ns) = (ns, true) := by
  have := namesP_join (fun x hx => mayN_nm (h x hx))
  unfold plainP
  rw [this, if_pos ⟨rfl, by rw [List.all_eq_true]; exact h⟩]
theorem goAt_none {l : List Inode} {n : Str} {ns : List Str} {s : Spotted} (hf : findI s.ino l = none) : goAt l (n :: ns) s = (zeroS, 1) := by
  simp only [goAt]; rw [hf]
theorem goAt_dir {l : List Inode} {n : Str} {ns : List Str} {s : Spotted} {d : Inode} (hf : findI s.ino l = some d) (hk : d.kind = 2) : goAt l (n :: ns) s = goAt l ns ⟨d.ino, n, inoE n d.entries⟩ := by
  simp only [goAt]; rw [hf]; simp only; rw [if_pos hk]
theorem goAt_file {l : List Inode} {n : Str} {ns : List Str} {s : Spotted} {d : Inode} (hf : findI s.ino l = some d) (hk : d.kind ≠ 2) : goAt l (n :: ns) s = (zeroS, 3) := by
  simp only [goAt]; rw [hf]; simp only; rw [if_neg hk]
theorem inoE_mem {f : Fs} (h : Tree f) {x : Inode} (hx : x ∈ f.inodes) {e : Entry} (he : e ∈ x.entries) : inoE e.name x.entries = e.ino := by
  have := findK_mem loS ((rightE_iff _).1 (kind_right (h.kind x hx))).1 he
  unfold inoE
  show (match findK Entry.name e.name x.entries with | some e => e.ino | none => 0) = _
  rw [this]
theorem inoE_find {x : Inode} {n : Str} (h : inoE n x.entries ≠ 0) : ∃ e ∈ x.entries, e.name = n ∧ e.ino = inoE n x.entries ∧ findE n x.entries = some e := by
  unfold inoE at h ⊢
  cases hf : findE n x.entries with
  | none => rw [hf] at h; exact absurd rfl h
  | some e => exact ⟨e, (findK_some hf).1, (findK_some hf).2, rfl, rfl⟩
structure OnW (f : Fs) (m : Nat) (i : Int) (p : Str) (s : Seen) (ns : List Str) : Prop where
  may : ∀ n ∈ ns, mayN n = true
  len : ns.length ≤ m
  path : s.path = ns.foldl underP p
  there : ∃ x, findI s.ino f.inodes = some x
  go : ∀ sp : Spotted, sp.ino = i → ∃ t, goAt f.inodes ns sp = (t, 0) ∧ t.ino = s.ino ∧ (ns = [] → t = sp)
  way : Way f.inodes i s.ino ns.length
theorem below_at {f : Fs} (h : Tree f) : ∀ (m : Nat) (i : Int) (p : Str) (s : Seen), s ∈ belowP f.inodes m i p → ∃ ns, OnW f m i p s ns
  | 0, i, p, s, hs => by simp [belowP] at hs
  | m + 1, i, p, s, hs => by
    rw [belowP] at hs
    cases hf : findI i f.inodes with
    | none => rw [hf] at hs; cases hs
    | some x =>
      rw [hf] at hs
      simp only [List.mem_cons] at hs
      rcases hs with rfl | hs
      · exact ⟨[], by simp, by simp, rfl, ⟨x, hf⟩, fun sp he => ⟨sp, rfl, he, fun _ => rfl⟩, .here⟩
      · rw [List.mem_flatMap] at hs
        obtain ⟨e, he, hs⟩ := hs
        obtain ⟨ns, ha⟩ := below_at h m e.ino (underP p e.name) s hs
        have hx := findK_some hf
        have hr := (rightE_iff _).1 (kind_right (h.kind x hx.1))
        refine ⟨e.name :: ns, fun n hn => ?_, by have := ha.len; simp; exact this, ha.path, ha.there, fun sp hsp => ?_, ha.way.first hf he⟩
        · simp only [List.mem_cons] at hn
          rcases hn with rfl | hn
          · exact (hr.2 e he).1
          · exact ha.may n hn
        · obtain ⟨t, h1, h2, _⟩ := ha.go ⟨x.ino, e.name, inoE e.name x.entries⟩ (inoE_mem h hx.1 he)
          refine ⟨t, ?_, h2, fun h0 => by cases h0⟩
          simp only [goAt]
          rw [hsp, hf]
          simp only
          rw [if_pos (h.ents hf he), h1]
theorem below_tail {f : Fs} (h : Tree f) {m : Nat} {i : Int} {p : Str} {k : Nat} {s : Seen} (hs : (belowP f.inodes m i p)[k]? = some s) : ∃ ns, OnW f m i p s ns ∧ (k = 0 → s = ⟨p, i⟩ ∧ ns = []) ∧ (0 < k → ns ≠ []) := by
  cases m with
  | zero => simp [belowP] at hs
  | succ m =>
    rw [belowP] at hs
    cases hf : findI i f.inodes with
    | none => rw [hf] at hs; simp at hs
    | some x =>
      rw [hf] at hs
      cases k with
      | zero =>
        simp at hs
        subst hs
        exact ⟨[], ⟨by simp, by simp, rfl, ⟨x, hf⟩, fun sp he => ⟨sp, rfl, he, fun _ => rfl⟩, .here⟩, fun _ => ⟨rfl, rfl⟩, fun h => by omega⟩
      | succ k =>
        simp only [List.getElem?_cons_succ] at hs
        have hs := List.mem_of_getElem? hs
        rw [List.mem_flatMap] at hs
        obtain ⟨e, he, hs⟩ := hs
        obtain ⟨ns, ha⟩ := below_at h m e.ino (underP p e.name) s hs
        have hx := findK_some hf
        have hr := (rightE_iff _).1 (kind_right (h.kind x hx.1))
        refine ⟨e.name :: ns, ⟨fun n hn => ?_, by have := ha.len; simp; exact this, ha.path, ha.there, fun sp hsp => ?_, ha.way.first hf he⟩, fun h => by omega, fun _ => by simp⟩
        · simp only [List.mem_cons] at hn
          rcases hn with rfl | hn
          · exact (hr.2 e he).1
          · exact ha.may n hn
        · obtain ⟨t, h1, h2, _⟩ := ha.go ⟨x.ino, e.name, inoE e.name x.entries⟩ (inoE_mem h hx.1 he)
          refine ⟨t, ?_, h2, fun h0 => by cases h0⟩
          simp only [goAt]
          rw [hsp, hf]
          simp only
          rw [if_pos (h.ents hf he), h1]
structure AtR (f : Fs) (s : Seen) (ns : List Str) (x : Inode) (t : Spotted) : Prop where
  may : ∀ n ∈ ns, mayN n = true
  len : ns.length ≤ f.inodes.length + 1
  path : s.path = joinP ns
  there : findI s.ino f.inodes = some x
  go : goAt f.inodes ns rootS = (t, 0)
  ino : t.ino = s.ino
  nil : ns = [] → t = rootS
theorem list_at {f : Fs} (h : Tree f) {k : Nat} {s : Seen} (hs : (listP f)[k]? = some s) : ∃ ns x t, AtR f s ns x t ∧ (k = 0 → s = ⟨[47], 1⟩ ∧ ns = []) ∧ (0 < k → ns ≠ []) := by
  obtain ⟨ns, ha, h1, h2⟩ := below_tail h hs
  obtain ⟨x, hx⟩ := ha.there
  obtain ⟨t, g1, g2, g3⟩ := ha.go rootS rfl
  refine ⟨ns, x, t, ⟨ha.may, ha.len, ?_, hx, g1, g2, g3⟩, h1, h2⟩
  rw [ha.path]
  exact foldl_under (ms := []) (by simp) (fun n hn => mayN_nm (ha.may n hn))
theorem AtR.atP {f : Fs} {s : Seen} {ns : List Str} {x : Inode} {t : Spotted} (h : AtR f s ns x t) : atP f s.path = (t, 0) := by
  unfold Go.Eng.atP
  rw [h.path, plainP_join h.may, if_pos rfl, h.go]
theorem AtR.getP {f : Fs} {s : Seen} {ns : List Str} {x : Inode} {t : Spotted} (h : AtR f s ns x t) : getP f s.path = (x, 0) := by
  unfold Go.Eng.getP
  rw [h.atP, if_pos rfl, h.ino, h.there]
theorem ref08_under_eq {p n : Str} (h : p.length + n.length ≤ 4294967290) : ref08_under p n = some (underP p n) := by
  unfold ref08_under underP
  by_cases h0 : p = [47]
  · subst h0
    rw [bc_t (by simp), lcase_le (by unfold LIM; omega), if_pos rfl]
  · rw [bc_f (by simp [h0]), if_neg h0, lcase_le (by unfold LIM; simp; omega), lcase_le (by unfold LIM; simp; omega)]
theorem below_r {f : Fs} (h : Tree f) (hl : Lil f) : ∀ (m n : Nat) (i : Int) (k : Nat) (p : Str), m < n → m ≤ 1099511627775 → Way f.inodes 1 i k → p.length + m * 256 ≤ 4294960000 → ref08_Below_r n f i p ((m : Int) - 1) = some (belowP f.inodes m i p) := by
  have hlen := hl.len
  intro m
  induction m with
  | zero =>
    intro n i k p hn _ hw hp
    obtain ⟨n, rfl⟩ : ∃ n', n = n' + 1 := ⟨n - 1, by omega⟩
    simp only [ref08_Below_r]
    rw [ref05_Get_eq (by omega), ocase_some']
    cases (findI i f.inodes).isSome
    · rfl
    · rfl
  | succ m ih =>
    intro n i k p hn hm hw hp
    obtain ⟨n, rfl⟩ : ∃ n', n = n' + 1 := ⟨n - 1, by omega⟩
    have e1 : ((m + 1 : Nat) : Int) - 1 = (m : Int) := by omega
    rw [e1]
    simp only [ref08_Below_r]
    rw [ref05_Get_eq (by omega), ocase_some']
    have htot := below_le h hl (m := m + 1) (p := p) hw
    rw [belowP] at htot ⊢
    cases hf : findI i f.inodes with
    | none => rfl
    | some x =>
      rw [hf] at htot
      simp only [Option.isSome_some, Bool.not_true, bcase_false]
      rw [bc_f (by simp), getI_some hf]
      have hx := findK_some hf
      have hxl := hl.ents x hx.1
      refine loop_post (l := x.entries) (fun q j s => ref08_Below_L6 (ref08_Below_r n) p (m : Int) f x (fun z13 => some z13) q j s) (fun j s => s = ⟨p, i⟩ :: (x.entries.take j).flatMap fun e => belowP f.inodes m e.ino (underP p e.name)) (fun r => r = some (⟨p, i⟩ :: x.entries.flatMap fun e => belowP f.inodes m e.ino (underP p e.name))) (by omega) (fun q j e s hj he hi hr => ?_) (fun q s hi => ?_) [⟨p, i⟩] (by simp)
      · simp only [ref08_Below_L6]
        have hem := List.mem_of_getElem? he
        have hnl := mayN_len ((((rightE_iff _).1 (kind_right (h.kind x hx.1))).2 e hem).1)
        rw [dec_lt hj, bcase_true, dec_nn, bcase_true, toNat_cast, he, ocase_some', bcase_true, ocase_some', ref08_under_eq (by omega), ocase_some', wrap_id (by omega) (by omega)]
        have hul : (underP p e.name).length ≤ p.length + 256 := by unfold underP; split <;> simp <;> omega
        rw [ih n e.ino (k + 1) (underP p e.name) (by omega) (by omega) (.step hw hf hem) (by omega), ocase_some', wrap_succ (by omega)]
        have hs' : s ++ belowP f.inodes m e.ino (underP p e.name) = ⟨p, i⟩ :: (x.entries.take (j + 1)).flatMap fun e => belowP f.inodes m e.ino (underP p e.name) := by
          rw [hi, List.take_add_one, he]; simp
        rw [lcase_le, hs']
        · exact hr _ rfl
        · have h9 : (s ++ belowP f.inodes m e.ino (underP p e.name)).length ≤ 1000000001 := by
            rw [hs']
            refine Nat.le_trans ?_ htot
            show _ ≤ (⟨p, i⟩ :: x.entries.flatMap fun e => belowP f.inodes m e.ino (underP p e.name)).length
            conv => rhs; rw [← List.take_append_drop (j + 1) x.entries]
            simp only [List.flatMap_append, List.length_cons, List.length_append]
            omega
          rw [List.length_append] at h9
          unfold LIM; omega
      · simp only [ref08_Below_L6]
        rw [List.take_length] at hi
        rw [dec_ge (Nat.le_refl _), bcase_false, hi]
theorem ref08_Below_eq {f : Fs} (h : Tree f) (hl : Lil f) {m : Nat} {i : Int} {k : Nat} {p : Str} (hm : m ≤ 200000) (hw : Way f.inodes 1 i k) (hp : p.length ≤ 100000) : ref08_Below f i p (m : Int) = some (belowP f.inodes (m + 1) i p) := by
  unfold ref08_Below
  have e : (m : Int) = ((m + 1 : Nat) : Int) - 1 := by omega
  rw [e]
  exact below_r h hl (m + 1) FUEL i k p (fuel_ok (by omega)) (by omega) hw (by omega)
theorem ref08_List_eq {f : Fs} (h : Tree f) (hl : Lil f) : ref08_List f = some (listP f) := by
  unfold ref08_List listP
  have := hl.len
  rw [ref08_Below_eq h hl (by omega) .here (by simp)]; rfl
theorem listP_len {f : Fs} (h : Tree f) (hl : Lil f) : (listP f).length ≤ 1000000001 := below_le h hl .here
theorem eqSeen (a b : Seen) : ((a.path == b.path) && (a.ino == b.ino)) = true ↔ a = b := by cases a; cases b; simp
instance seenDec : DecidableEq Seen := fun a b =>
  if h : a.path = b.path ∧ a.ino = b.ino then isTrue (by cases a; cases b; simp at h; simp [h]) else isFalse (by intro e; subst e; exact h ⟨rfl, rfl⟩)
theorem ref08_Same_eq {a b : List Seen} (hl : a.length ≤ 1099511627775) : ref08_Same a b = some (decide (a = b)) := by
  unfold ref08_Same
  rw [bcase_ite]
  by_cases h : a.length = b.length
  · have e : ((List.length a : Int) != (List.length b : Int)) = false := by rw [h]; simp
    rw [e, if_neg (by simp)]
    refine (loop_all (l := a) (fun m i (_ : Unit) => ref08_Same_L4 a b (some false) (some true) m i) (fun k x (_ : Unit) K => ocase ([] ++ b)[k]? fun y => if decide (x = y) then K () else some false) (fun _ => some true) hl (fun m k x u hk hx => ?_) (fun m u => ?_) ()).trans ?_
    · simp only [ref08_Same_L4]
      rw [dec_lt hk, dec_nn, toNat_cast, hx, wrap_succ (by omega)]
      simp only [bcase_true, ocase_some', bcase_ite, if_true, List.nil_append]
      have hk' : k < b.length := by omega
      rw [List.getElem?_eq_getElem hk']
      simp only [ocase_some']
      have e2 : ((x.path == b[k].path) && (x.ino == b[k].ino)) = decide (x = b[k]) := by rw [Bool.eq_iff_iff, eqSeen, decide_eq_true_eq]
      rw [e2]
      by_cases hxy : x = b[k] <;> simp [hxy]
    · simp only [ref08_Same_L4]
      rw [dec_ge (Nat.le_refl _)]
      rfl
    · rw [same_fold _ _ a b 0 [] h rfl]
      by_cases hab : a = b <;> simp [hab]
  · have e : ((List.length a : Int) != (List.length b : Int)) = true := by rw [bne_iff_ne]; omega
    rw [e, if_pos rfl]
    have : ¬ a = b := fun e => h (by rw [e])
    simp [this]
end Go.Eng
set_option linter.unusedSimpArgs false
set_option linter.unusedVariables false
set_option linter.unusedSectionVars false
namespace Go.Eng
open Go
theorem consI {α : Type} (a : α) (l : List α) : ((List.length (a :: l) : Int) == (0 : Int)) = false := by
  rw [beq_eq_false_iff_ne]; simp only [List.length_cons]; omega
theorem consP {α : Type} (a : α) (l : List α) : decide ((List.length (a :: l) : Int) > (0 : Int)) = true := by
  simp only [List.length_cons, decide_eq_true_eq]; omega
theorem concat_L11 {R : Type} (a b r : List Str) (hr : r.length = a.length + b.length) (hl : a.length + b.length ≤ 1000000) (k2 : Nat → List Str → Option R) : slices_Concat_string_L11 0 [a, b] ((List.length [a, b] : Nat) : Int) k2 FUEL 0 (0 : Int) r = k2 (a.length + b.length) (a ++ b) := by
  obtain ⟨m, hm⟩ := fuel3
  rw [hm]
  have w1 : IntKind.i64.wrap ((0 : Int) + 1) = 1 := by rw [wrap_id (by omega) (by omega)]; rfl
  have w2 : IntKind.i64.wrap ((1 : Int) + 1) = 2 := by rw [wrap_id (by omega) (by omega)]; rfl
  simp only [slices_Concat_string_L11]
  have g0 : ([a, b] : List (List Str))[Int.toNat (0 : Int)]? = some a := rfl
  have g1 : ([a, b] : List (List Str))[Int.toNat (1 : Int)]? = some b := rfl
  rw [bc_t (by simp), bc_t (by decide), g0, ocase_some', bc_t (by simp; omega), w1, bc_t (by simp), bc_t (by decide), g1, ocase_some', w2]
  have e1 : (r.take (0 + 0) ++ (a ++ r.drop (0 + 0 + a.length))) = a ++ r.drop a.length := by simp
  rw [e1]
  have hl1 : (a ++ r.drop a.length).length = a.length + b.length := by simp; omega
  rw [bc_t (by rw [hl1]; simp), bc_f (by simp)]
  congr 1
  · omega
  · have e2 : (a ++ r.drop a.length).take (0 + (0 + a.length)) = a := by simp
    have e3 : (a ++ r.drop a.length).drop (0 + (0 + a.length) + b.length) = [] := by rw [List.drop_eq_nil_of_le]; rw [hl1]; omega
    rw [e2, e3]; simp
theorem concat_eq (a b : List Str) (hl : a.length + b.length ≤ 1000000) : slices_Concat_string [a, b] = some (a ++ b) := by
  unfold slices_Concat_string
  have w1 : IntKind.i64.wrap ((0 : Int) + 1) = 1 := by rw [wrap_id (by omega) (by omega)]; rfl
  have w2 : IntKind.i64.wrap ((1 : Int) + 1) = 2 := by rw [wrap_id (by omega) (by omega)]; rfl
  have g0 : ([a, b] : List (List Str))[Int.toNat (0 : Int)]? = some a := rfl
  have g1 : ([a, b] : List (List Str))[Int.toNat (1 : Int)]? = some b := rfl
  have key : ∀ (k0 : Int → Option (List Str)), slices_Concat_string_L3 [a, b] (List.length [a, b] : Int) k0 FUEL (0 : Int) (0 : Int) = k0 ((a.length + b.length : Nat) : Int) := by
    intro k0
    obtain ⟨m, hm⟩ := fuel3
    rw [hm]
    simp only [slices_Concat_string_L3]
    have s1 : IntKind.i64.wrap ((0 : Int) + (List.length a : Int)) = (a.length : Int) := by rw [wrap_id (by omega) (by omega)]; omega
    have s2 : IntKind.i64.wrap ((List.length a : Int) + (List.length b : Int)) = ((a.length + b.length : Nat) : Int) := by rw [wrap_id (by omega) (by omega)]; omega
    rw [bc_t (by simp), bc_t (by decide), g0, ocase_some', s1, bc_f (by simp), w1, bc_t (by simp), bc_t (by decide), g1, ocase_some', s2, bc_f (by simp; omega), w2, bc_f (by simp)]
  rw [key]
  have s0 : IntKind.i64.wrap ((0 : Int) - (List.length ([] : List Str) : Int)) = 0 := by rw [wrap_id (by simp) (by simp)]; rfl
  rw [s0]
  have s1 : IntKind.i64.wrap (((a.length + b.length : Nat) : Int) - 0) = ((a.length + b.length : Nat) : Int) := by rw [wrap_id (by omega) (by omega)]; omega
  rw [s1, bc_f (by simp; omega)]
  have fin : ∀ (r : List Str), r.length = a.length + b.length → slices_Concat_string_L11 0 [a, b] (List.length [a, b] : Int) (fun z22 z23 => bcase (Nat.ble (0 + z22) z23.length) (some ((z23.drop 0).take z22)) (none)) FUEL 0 (0 : Int) r = some (a ++ b) := by
    intro r hr
    rw [concat_L11 a b r hr hl, bc_t (by simp)]
    rw [List.drop_zero, List.take_of_length_le (by simp)]
  by_cases h0 : a.length + b.length = 0
  · rw [bc_f (by simp; omega)]
    exact fin [] (by simp; omega)
  · rw [bc_t (by simp; omega), bc_t (by simp; omega), lcase_le (by unfold LIM; simp; omega), bc_t (by simp; omega)]
    exact fin _ (by simp; omega)
structure WS (f : Fs) : Prop where
  wf : WF f
  par : ∀ x ∈ f.inodes, x.kind = 2 → ∃ y, findI x.parent f.inodes = some y ∧ y.kind = 2
  sym : ∀ x ∈ f.inodes, x.kind = 3 → x.data.length ≤ 4095
  rootk : ∃ r, findI 1 f.inodes = some r ∧ r.kind = 2
theorem kind_sym {x : Inode} (h : kindB x = true) (hk : x.kind = 3) : x.data.length ≤ 4095 ∧ 1 ≤ x.data.length := by
  rw [kind3 hk] at h
  simp only [Bool.and_eq_true, decide_eq_true_eq] at h
  exact ⟨h.2.2.1.2, h.2.2.1.1⟩
theorem Tree.ws {f : Fs} (h : Tree f) (hw : WF f) : WS f where
  wf := hw
  par := fun x hx hk => by
    obtain ⟨r, hr, hk', hp⟩ := h.root
    by_cases h1 : x.ino = 1
    · have := findI_mem' h.sort hx h1
      rw [hr] at this
      cases this
      exact ⟨_, by rw [hp]; exact hr, hk'⟩
    · obtain ⟨d, hd, e, he, hn⟩ := (h.led x hx).named h1
      have := h.par x hx hk d hd e he hn
      exact ⟨d, by rw [this]; exact findI_mem h.sort hd, kind_ents (h.kind d hd) he⟩
  sym := fun x hx hk => (kind_sym (h.kind x hx) hk).1
  rootk := by obtain ⟨r, hr, hk, _⟩ := h.root; exact ⟨r, hr, hk⟩
def endP (l : List Inode) (dir : Bool) (s : Spotted) : Spotted × Int := match findI s.ino l with
  | some x => if dir = true ∧ x.kind ≠ 2 then (zeroS, 3) else (s, 0)
  | none => (s, 0)
def stepIn (l : List Inode) (fol : Bool) (lnk : Bool → Inode → Inode → List Str → Spotted × Int) (dir : Bool) : List Str → Spotted → Spotted × Int
  | [], s => endP l dir s
  | n :: rest, s => match findI s.ino l with
    | none => (zeroS, 1)
    | some d => if d.kind = 2 then (if n = [46] then stepIn l fol lnk dir rest ⟨0, [], d.ino⟩ else if n = [46, 46] then stepIn l fol lnk dir rest ⟨0, [], d.parent⟩
        else if (getI (inoE n d.entries) l).kind = 3 ∧ (rest ≠ [] ∨ fol = true ∨ dir = true) then lnk dir (getI (inoE n d.entries) l) d rest
        else stepIn l fol lnk dir rest ⟨d.ino, n, inoE n d.entries⟩) else (zeroS, 3)
def onK (l : List Inode) (fol : Bool) : Nat → Bool → List Str → Spotted → Spotted × Int
  | 0 => stepIn l fol fun _ _ _ _ => (zeroS, 6)
  | k + 1 => stepIn l fol fun dir x d rest => if longP x.data = true then (zeroS, 7) else onK l fol k (dir || ((readP x.data).slash && rest.isEmpty)) ((readP x.data).names ++ rest) ⟨0, [], if (readP x.data).abs = true then 1 else d.ino⟩
def homeP (f : Fs) (base : Str) : Int × Int := if (getP f base).2 = 0 then (if (getP f base).1.kind = 2 then ((getP f base).1.ino, 0) else (0, 3)) else (0, (getP f base).2)
def seekP (f : Fs) (base p : Str) (fol : Bool) : Spotted × Int :=
  if p = [] then (zeroS, 1) else if longP p = true then (zeroS, 7) else
  if (readP p).abs = true then onK f.inodes fol 40 (readP p).slash (readP p).names rootS else
  if (homeP f base).2 = 0 then onK f.inodes fol 40 (readP p).slash (readP p).names ⟨0, [], (homeP f base).1⟩ else (zeroS, (homeP f base).2)
def lnkK (l : List Inode) (fol : Bool) : Nat → Bool → Inode → Inode → List Str → Spotted × Int
  | 0 => fun _ _ _ _ => (zeroS, 6)
  | k + 1 => fun dir x d rest => if longP x.data = true then (zeroS, 7) else onK l fol k (dir || ((readP x.data).slash && rest.isEmpty)) ((readP x.data).names ++ rest) ⟨0, [], if (readP x.data).abs = true then 1 else d.ino⟩
theorem onK_eq (l : List Inode) (fol : Bool) (k : Nat) : onK l fol k = stepIn l fol (lnkK l fol k) := by cases k <;> rfl
section
variable {l : List Inode} {fol dir : Bool} {lnk : Bool → Inode → Inode → List Str → Spotted × Int} {n : Str} {rest : List Str} {s : Spotted} {d : Inode}
theorem stepIn_none (hf : findI s.ino l = none) : stepIn l fol lnk dir (n :: rest) s = (zeroS, 1) := by simp only [stepIn]; rw [hf]
theorem stepIn_file (hf : findI s.ino l = some d) (hk : d.kind ≠ 2) : stepIn l fol lnk dir (n :: rest) s = (zeroS, 3) := by simp only [stepIn]; rw [hf]; simp only; rw [if_neg hk]
theorem stepIn_dot (hf : findI s.ino l = some d) (hk : d.kind = 2) (hn : n = [46]) : stepIn l fol lnk dir (n :: rest) s = stepIn l fol lnk dir rest ⟨0, [], d.ino⟩ := by simp only [stepIn]; rw [hf]; simp only; rw [if_pos hk, if_pos hn]
theorem stepIn_up (hf : findI s.ino l = some d) (hk : d.kind = 2) (hn : n = [46, 46]) : stepIn l fol lnk dir (n :: rest) s = stepIn l fol lnk dir rest ⟨0, [], d.parent⟩ := by simp only [stepIn]; rw [hf]; simp only; rw [if_pos hk, if_neg (by rw [hn]; decide), if_pos hn]
theorem stepIn_link (hf : findI s.ino l = some d) (hk : d.kind = 2) (h1 : n ≠ [46]) (h2 : n ≠ [46, 46]) (h3 : (getI (inoE n d.entries) l).kind = 3 ∧ (rest ≠ [] ∨ fol = true ∨ dir = true)) : stepIn l fol lnk dir (n :: rest) s = lnk dir (getI (inoE n d.entries) l) d rest := by simp only [stepIn]; rw [hf]; simp only; rw [if_pos hk, if_neg h1, if_neg h2, if_pos h3]
theorem stepIn_on (hf : findI s.ino l = some d) (hk : d.kind = 2) (h1 : n ≠ [46]) (h2 : n ≠ [46, 46]) (h3 : ¬ ((getI (inoE n d.entries) l).kind = 3 ∧ (rest ≠ [] ∨ fol = true ∨ dir = true))) : stepIn l fol lnk dir (n :: rest) s = stepIn l fol lnk dir rest ⟨d.ino, n, inoE n d.entries⟩ := by simp only [stepIn]; rw [hf]; simp only; rw [if_pos hk, if_neg h1, if_neg h2, if_neg h3]
end
theorem readP_names (s : Str) : (readP s).names = namesP s := rfl
theorem namesP_len' (s : Str) : (namesP s).length ≤ s.length + 1 := by have := namesP_len s; omega
theorem getI_kind3 {f : Fs} {i : Int} (h : (getI i f.inodes).kind = 3) : ∃ x, findI i f.inodes = some x ∧ getI i f.inodes = x := by
  cases hf : findI i f.inodes with
  | none => rw [getI_none hf] at h; cases h
  | some x => exact ⟨x, rfl, getI_some hf⟩
def wt : Nat → Nat
  | 0 => 0
  | k + 1 => wt k + 210000
theorem wt40 : wt 40 = 8400000 := rfl
theorem seek_loop {f : Fs} (h : WS f) (fol : Bool) (kr : Int → Option (Spotted × Int)) (k0 : Bool → (List Str) → Int → Str → Int → Int → Option (Spotted × Int)) (hkr : ∀ z, kr z = some (zeroS, z)) (hk0 : ∀ dir s z, k0 dir [] s.dir s.name s.ino z = some (endP f.inodes dir s)) :
    ∀ (n k : Nat) (dir : Bool) (todo : List Str) (s : Spotted), k ≤ 40 → todo.length ≤ 5000 * (41 - k) → wt k + todo.length < n →
      seek_Seek_25_L1 f.maxInodes f.maxBytes f.next f.inodes fol kr k0 n dir todo s.dir s.name s.ino ((40 - k : Nat) : Int) = some (onK f.inodes fol k dir todo s) := by
  intro n
  induction n with
  | zero => intro k dir todo s _ _ h; omega
  | succ n ih =>
    intro k dir todo s hk ht hn
    simp only [seek_Seek_25_L1]
    rw [onK_eq]
    cases todo with
    | nil => rw [bc_f (by simp)]; exact hk0 _ _ _
    | cons nm rest =>
      have hti : Int.toNat (0 : Int) = 0 := rfl
      have ht1 : Int.toNat (1 : Int) = 1 := rfl
      simp only [List.length_cons] at ht hn
      have ih' : ∀ (s' : Spotted), seek_Seek_25_L1 f.maxInodes f.maxBytes f.next f.inodes fol kr k0 n dir rest s'.dir s'.name s'.ino ((40 - k : Nat) : Int) = some (stepIn f.inodes fol (lnkK f.inodes fol k) dir rest s') := fun s' => by
        rw [ih k dir rest s' hk (by omega) (by omega), onK_eq]
      rw [bc_t (consP _ _), bc_t (by decide), hti, List.getElem?_cons_zero, ocase_some', ht1, bc_t (by simp; omega), List.drop_one, List.tail_cons]
      have hget : ∀ m, table_Get (⟨f.maxInodes, f.maxBytes, f.next, f.inodes⟩ : Fs) m = some (getI m f.inodes, (findI m f.inodes).isSome) := fun m => h.wf.get m
      rw [hget, ocase_some']
      cases hf : findI s.ino f.inodes with
      | none => rw [stepIn_none hf, bc_t (by simp), hkr]
      | some d =>
        simp only [Option.isSome_some, Bool.not_true, bcase_false]
        rw [getI_some hf, bneI]
        by_cases hk2 : d.kind = 2
        case neg => rw [stepIn_file hf hk2, bc_t (by simp [hk2]), hkr]
        rw [bc_f (by simp [hk2])]
        by_cases hd1 : nm = [46]
        · rw [stepIn_dot hf hk2 hd1, bc_t (by simp [hd1])]; exact ih' ⟨0, [], d.ino⟩
        rw [bc_f (by simp [hd1])]
        by_cases hd2 : nm = [46, 46]
        · rw [stepIn_up hf hk2 hd2, bc_t (by simp [hd2])]; exact ih' ⟨0, [], d.parent⟩
        have hdm := h.wf.found hf
        rw [bc_f (by simp [hd2]), entry_Find_ino (h.wf.sortE hdm.1) (h.wf.sm.ents d hdm.1), ocase_some', hget, ocase_some']
        simp only
        rw [beqI]
        by_cases hk3 : (getI (inoE nm d.entries) f.inodes).kind = 3
        · obtain ⟨x, hx, hgx⟩ := getI_kind3 hk3
          rw [hgx] at hk3
          have hxm := h.wf.found hx
          have hxl := h.sym x hxm.1 hk3
          rw [hgx, bc_t (by simp [hk3])]
          have hnl : (namesP x.data).length ≤ 4096 := by have := namesP_len' x.data; omega
          have blk : bcase (decide ((IntKind.i64.wrap (((40 - k : Nat) : Int) + (1 : Int))) > (40 : Int))) ((kr (6 : Int))) (ocase (path_Long x.data) fun y26 =>
    bcase y26 ((kr (7 : Int))) (ocase (path_Read x.data) fun y27 =>
    bcase dir (ocase (slices_Concat_string [y27.names, rest]) fun y28 =>
    bcase y27.abs ((seek_Seek_25_L1 f.maxInodes f.maxBytes f.next f.inodes fol kr k0 n true y28 0 [] (1 : Int) (IntKind.i64.wrap (((40 - k : Nat) : Int) + (1 : Int))))) ((seek_Seek_25_L1 f.maxInodes f.maxBytes f.next f.inodes fol kr k0 n true y28 0 [] d.ino (IntKind.i64.wrap (((40 - k : Nat) : Int) + (1 : Int)))))) (
    bcase y27.slash (ocase (slices_Concat_string [y27.names, rest]) fun y29 =>
    bcase y27.abs ((seek_Seek_25_L1 f.maxInodes f.maxBytes f.next f.inodes fol kr k0 n ((List.length rest : Int) == (0 : Int)) y29 0 [] (1 : Int) (IntKind.i64.wrap (((40 - k : Nat) : Int) + (1 : Int))))) ((seek_Seek_25_L1 f.maxInodes f.maxBytes f.next f.inodes fol kr k0 n ((List.length rest : Int) == (0 : Int)) y29 0 [] d.ino (IntKind.i64.wrap (((40 - k : Nat) : Int) + (1 : Int)))))) (ocase (slices_Concat_string [y27.names, rest]) fun y30 =>
    bcase y27.abs ((seek_Seek_25_L1 f.maxInodes f.maxBytes f.next f.inodes fol kr k0 n false y30 0 [] (1 : Int) (IntKind.i64.wrap (((40 - k : Nat) : Int) + (1 : Int))))) ((seek_Seek_25_L1 f.maxInodes f.maxBytes f.next f.inodes fol kr k0 n false y30 0 [] d.ino (IntKind.i64.wrap (((40 - k : Nat) : Int) + (1 : Int))))))))) = some (lnkK f.inodes fol k dir x d rest) := by
            cases k with
            | zero =>
              have e : IntKind.i64.wrap (((40 - 0 : Nat) : Int) + 1) = 41 := by rw [wrap_id (by omega) (by omega)]; rfl
              rw [e, bc_t (by decide), hkr]; rfl
            | succ k =>
              have e : IntKind.i64.wrap (((40 - (k + 1) : Nat) : Int) + 1) = ((40 - k : Nat) : Int) := by rw [wrap_id (by omega) (by omega)]; omega
              rw [e, bc_f (by simp; omega), path_Long_eq (by omega), ocase_some']
              simp only [lnkK]
              cases hlong : longP x.data
              case true => rw [bcase_true, hkr, if_pos rfl]
              rw [bcase_false, path_Read_eq (by omega), ocase_some', if_neg (by simp)]
              have hcat : slices_Concat_string [(readP x.data).names, rest] = some ((readP x.data).names ++ rest) := concat_eq _ _ (by rw [readP_names]; omega)
              have go : ∀ (dir' : Bool), bcase (readP x.data).abs (seek_Seek_25_L1 f.maxInodes f.maxBytes f.next f.inodes fol kr k0 n dir' ((readP x.data).names ++ rest) 0 [] (1 : Int) ((40 - k : Nat) : Int)) (seek_Seek_25_L1 f.maxInodes f.maxBytes f.next f.inodes fol kr k0 n dir' ((readP x.data).names ++ rest) 0 [] d.ino ((40 - k : Nat) : Int)) = some (onK f.inodes fol k dir' ((readP x.data).names ++ rest) ⟨0, [], if (readP x.data).abs = true then 1 else d.ino⟩) := by
                intro dir'
                have hlen : ((readP x.data).names ++ rest).length ≤ rest.length + 4096 := by rw [List.length_append, readP_names]; omega
                have b1 : ((readP x.data).names ++ rest).length ≤ 5000 * (41 - k) := by clear ih ih'; omega
                have b2 : wt k + ((readP x.data).names ++ rest).length < n := by clear ih ih'; simp only [wt] at hn; omega
                cases (readP x.data).abs
                · exact ih k dir' _ ⟨0, [], d.ino⟩ (by omega) b1 b2
                · exact ih k dir' _ ⟨0, [], 1⟩ (by omega) b1 b2
              simp only [hcat, ocase_some', go]
              cases dir
              · rw [bcase_false]
                cases (readP x.data).slash
                · simp
                · rw [bcase_true]
                  congr 2
                  cases rest <;> simp <;> omega
              · rw [bcase_true, Bool.true_or]
          by_cases hr : rest = []
          · subst hr
            rw [bc_f (by simp)]
            cases fol
            · rw [bcase_false]
              cases dir
              · rw [bcase_false, stepIn_on hf hk2 hd1 hd2 (by simp)]
                exact ih' ⟨d.ino, nm, inoE nm d.entries⟩
              · rw [bcase_true, stepIn_link hf hk2 hd1 hd2 ⟨by rw [hgx]; exact hk3, Or.inr (Or.inr rfl)⟩, hgx]
                exact blk
            · rw [bcase_true, stepIn_link hf hk2 hd1 hd2 ⟨by rw [hgx]; exact hk3, Or.inr (Or.inl rfl)⟩, hgx]
              exact blk
          · rw [bc_t (by cases rest with | nil => exact absurd rfl hr | cons a b => exact consP _ _), stepIn_link hf hk2 hd1 hd2 ⟨by rw [hgx]; exact hk3, Or.inl hr⟩, hgx]
            exact blk
        · rw [bc_f (by simp [hk3]), stepIn_on hf hk2 hd1 hd2 (fun h9 => hk3 h9.1)]
          exact ih' ⟨d.ino, nm, inoE nm d.entries⟩
theorem seek_Home_eq {f : Fs} (h : WF f) {base : Str} (hb : base.length ≤ 8388608) : seek_Home f base = some (homeP f base) := by
  unfold seek_Home homeP
  rw [place_Get_eq h hb, ocase_some', bneI, bneI]
  by_cases h1 : (getP f base).2 = 0
  · rw [bc_f (by simp [h1]), if_pos h1]
    by_cases h2 : (getP f base).1.kind = 2
    · rw [bc_f (by simp [h2]), if_pos h2]
    · rw [bc_t (by simp [h2]), if_neg h2]
  · rw [bc_t (by simp [h1]), if_neg h1]
theorem ref10_Home_eq {f : Fs} (h : WF f) {base : Str} (hb : base.length ≤ 8388608) : ref10_Home f base = some (homeP f base) := by
  unfold ref10_Home homeP
  rw [ref09_Get_eq h hb, ocase_some', bneI, bneI]
  by_cases h1 : (getP f base).2 = 0
  · rw [bc_f (by simp [h1]), if_pos h1]
    by_cases h2 : (getP f base).1.kind = 2
    · rw [bc_f (by simp [h2]), if_pos h2]
    · rw [bc_t (by simp [h2]), if_neg h2]
  · rw [bc_t (by simp [h1]), if_neg h1]
theorem longP_len {p : Str} (h : longP p = false) : p.length ≤ 4095 := by
  unfold longP at h
  simp only [Bool.or_eq_false_iff, decide_eq_false_iff_not] at h
  omega
theorem seek_Seek_eq {f : Fs} (h : WS f) {base p : Str} {fol : Bool} (hb : base.length ≤ 8388608) (hp : p.length ≤ 1073741823) : seek_Seek f base p fol = some (seekP f base p fol) := by
  unfold seek_Seek seekP
  by_cases h0 : p = []
  · rw [bc_t (by simp [h0]), if_pos h0]; rfl
  rw [bc_f (by simp [h0]), if_neg h0, path_Long_eq hp, ocase_some']
  cases hl : longP p
  case true => rw [bcase_true, if_pos rfl]; rfl
  have hlen := longP_len hl
  rw [bcase_false, if_neg (by simp), path_Read_eq hp, ocase_some']
  have hjudge : ∀ (z53 : Bool) (s : Spotted), (ocase (table_Get f s.ino) fun y59 => bcase y59.2 (bcase z53 (bcase (y59.1.kind != (2 : Int)) (some ((⟨0, [], 0⟩ : Spotted), (3 : Int))) (some ((⟨s.dir, s.name, s.ino⟩ : Spotted), (0 : Int)))) (some ((⟨s.dir, s.name, s.ino⟩ : Spotted), (0 : Int)))) (some ((⟨s.dir, s.name, s.ino⟩ : Spotted), (0 : Int)))) = some (endP f.inodes z53 s) := by
    intro z s
    rw [h.wf.get, ocase_some']
    unfold endP
    cases hf : findI s.ino f.inodes with
    | none => rfl
    | some x =>
      rw [getI_some hf, bneI]
      simp only [Option.isSome_some, bcase_true]
      cases z
      · simp
      · by_cases hk : x.kind = 2
        · simp [hk]
        · simp [hk]; rfl
  have hnm : (readP p).names.length ≤ 4096 := by rw [readP_names]; have := namesP_len' p; omega
  have go : ∀ (s : Spotted), seek_Seek_25_L1 f.maxInodes f.maxBytes f.next f.inodes fol (fun z52 => some ((⟨((⟨0, [], 0⟩ : Spotted).dir), ((⟨0, [], 0⟩ : Spotted).name), ((⟨0, [], 0⟩ : Spotted).ino)⟩ : Spotted), z52)) (fun z53 z54 z55 z56 z57 z58 => ocase (table_Get f z57) fun y59 =>
    bcase y59.2 (
    bcase z53 (
    bcase (y59.1.kind != (2 : Int)) (some ((⟨0, [], 0⟩ : Spotted), (3 : Int))) (some ((⟨z55, z56, z57⟩ : Spotted), (0 : Int)))) (some ((⟨z55, z56, z57⟩ : Spotted), (0 : Int)))) (some ((⟨z55, z56, z57⟩ : Spotted), (0 : Int)))) FUEL (readP p).slash (readP p).names s.dir s.name s.ino (0 : Int) = some (onK f.inodes fol 40 (readP p).slash (readP p).names s) := fun s =>
    seek_loop h fol _ _ (fun z => rfl) (fun dir s z => hjudge dir s) FUEL 40 (readP p).slash (readP p).names s (Nat.le_refl _) (by omega) (fuel_ok (by rw [wt40]; omega))
  cases (readP p).abs
  · simp only [Bool.not_false, bcase_true, Bool.false_eq_true, if_false]
    rw [seek_Home_eq h.wf hb, ocase_some', bneI]
    by_cases h2 : (homeP f base).2 = 0
    · rw [bc_f (by simp [h2]), if_pos h2]
      exact go ⟨0, [], (homeP f base).1⟩
    · rw [bc_t (by simp [h2]), bc_t (by simp [h2]), if_neg h2]; rfl
  · simp only [Bool.not_true, bcase_false, if_true]
    exact go rootS
theorem on_r {f : Fs} (h : WS f) (fol : Bool) : ∀ (n k : Nat) (dir : Bool) (todo : List Str) (s : Spotted), (s.ino = 0 ∨ (findI s.ino f.inodes).isSome = true) → k ≤ 40 → todo.length ≤ 5000 * (41 - k) → wt k + todo.length < n →
      ref10_on_r n f s todo fol dir ((40 - k : Nat) : Int) = some (onK f.inodes fol k dir todo s) := by
  intro n
  induction n with
  | zero => intro k dir todo s _ _ _ h; omega
  | succ n ih =>
    intro k dir todo s hs hk ht hn
    simp only [ref10_on_r]
    rw [onK_eq]
    cases todo with
    | nil =>
      rw [bc_t (by simp), h.wf.rget, ocase_some']
      show _ = some (endP f.inodes dir s)
      unfold endP
      cases hf : findI s.ino f.inodes with
      | none => rfl
      | some x =>
        rw [getI_some hf, bneI]
        simp only [Option.isSome_some, bcase_true]
        cases dir
        · simp
        · by_cases hk : x.kind = 2
          · simp [hk]
          · simp [hk]; rfl
    | cons nm rest =>
      have hti : Int.toNat (0 : Int) = 0 := rfl
      have ht1 : Int.toNat (1 : Int) = 1 := rfl
      simp only [List.length_cons] at ht hn
      have ih' : ∀ (s' : Spotted), (s'.ino = 0 ∨ (findI s'.ino f.inodes).isSome = true) → (ocase (ref10_on_r n f s' rest fol dir ((40 - k : Nat) : Int)) fun y4 => some (y4.1, y4.2)) = some (stepIn f.inodes fol (lnkK f.inodes fol k) dir rest s') := fun s' hs' => by
        rw [ih k dir rest s' hs' hk (by omega) (by omega), onK_eq]; rfl
      rw [bc_f (consI _ _), beqI]
      by_cases h0 : s.ino = 0
      · rw [bc_t (by simp [h0]), stepIn_none (by rw [h0]; exact h.wf.zero)]; rfl
      rw [bc_f (by simp [h0]), h.wf.rget, ocase_some']
      obtain ⟨d, hf⟩ := Option.isSome_iff_exists.1 (hs.resolve_left h0)
      rw [getI_some hf, bneI]
      by_cases hk2 : d.kind = 2
      case neg => rw [stepIn_file hf hk2, bc_t (by simp [hk2])]; rfl
      rw [bc_f (by simp [hk2]), bc_t (by decide), hti, List.getElem?_cons_zero, ocase_some', ht1, bc_t (by simp; omega), List.drop_one, List.tail_cons]
      have hdm := h.wf.found hf
      by_cases hd1 : nm = [46]
      · rw [stepIn_dot hf hk2 hd1, bc_t (by simp [hd1])]
        exact ih' ⟨0, [], d.ino⟩ (Or.inr (by rw [hdm.2, hf]; rfl))
      rw [bc_f (by simp [hd1])]
      by_cases hd2 : nm = [46, 46]
      · rw [stepIn_up hf hk2 hd2, bc_t (by simp [hd2])]
        exact ih' ⟨0, [], d.parent⟩ (Or.inr (by obtain ⟨y, hy, _⟩ := h.par d hdm.1 hk2; rw [hy]; rfl))
      rw [bc_f (by simp [hd2]), ref04_Find_ino (h.wf.sm.ents d hdm.1), ocase_some', h.wf.rget, ocase_some']
      simp only
      have hon := ih' ⟨d.ino, nm, inoE nm d.entries⟩ (inoE_there h.wf hdm.1 nm)
      rw [bneI]
      by_cases hk3 : (getI (inoE nm d.entries) f.inodes).kind = 3
      · obtain ⟨x, hx, hgx⟩ := getI_kind3 hk3
        rw [hgx] at hk3
        have hxm := h.wf.found hx
        have hxl := h.sym x hxm.1 hk3
        have hne : inoE nm d.entries ≠ 0 := by intro e; rw [e, h.wf.zero] at hx; cases hx
        obtain ⟨e, _, _, _, he4⟩ := inoE_find hne
        rw [he4, hgx, bc_f (by simp), bc_f (by simp [hk3])]
        have hnl : (namesP x.data).length ≤ 4096 := by have := namesP_len' x.data; omega
        have blk : bcase ((((40 - k : Nat) : Int)) == (40 : Int)) (some ((⟨0, [], 0⟩ : Spotted), (6 : Int))) (ocase (ref03_Long x.data) fun y11 =>
    bcase y11 (some ((⟨0, [], 0⟩ : Spotted), (7 : Int))) (ocase (ref03_Read x.data) fun y12 =>
    bcase y12.abs (
    bcase y12.slash (
    bcase ((List.length rest : Int) == (0 : Int)) (lcase (([] : List Str).length + y12.names.length) (lcase (y12.names.length + rest.length) (ocase (ref10_on_r n f (⟨0, [], (1 : Int)⟩ : Spotted) (y12.names ++ rest) fol true (IntKind.i64.wrap (((40 - k : Nat) : Int) + (1 : Int)))) fun y13 => some (y13.1, y13.2)))) (lcase (([] : List Str).length + y12.names.length) (lcase (y12.names.length + rest.length) (ocase (ref10_on_r n f (⟨0, [], (1 : Int)⟩ : Spotted) (y12.names ++ rest) fol dir (IntKind.i64.wrap (((40 - k : Nat) : Int) + (1 : Int)))) fun y14 => some (y14.1, y14.2))))) (lcase (([] : List Str).length + y12.names.length) (lcase (y12.names.length + rest.length) (ocase (ref10_on_r n f (⟨0, [], (1 : Int)⟩ : Spotted) (y12.names ++ rest) fol dir (IntKind.i64.wrap (((40 - k : Nat) : Int) + (1 : Int)))) fun y15 => some (y15.1, y15.2))))) (
    bcase y12.slash (
    bcase ((List.length rest : Int) == (0 : Int)) (lcase (([] : List Str).length + y12.names.length) (lcase (y12.names.length + rest.length) (ocase (ref10_on_r n f (⟨0, [], d.ino⟩ : Spotted) (y12.names ++ rest) fol true (IntKind.i64.wrap (((40 - k : Nat) : Int) + (1 : Int)))) fun y16 => some (y16.1, y16.2)))) (lcase (([] : List Str).length + y12.names.length) (lcase (y12.names.length + rest.length) (ocase (ref10_on_r n f (⟨0, [], d.ino⟩ : Spotted) (y12.names ++ rest) fol dir (IntKind.i64.wrap (((40 - k : Nat) : Int) + (1 : Int)))) fun y17 => some (y17.1, y17.2))))) (lcase (([] : List Str).length + y12.names.length) (lcase (y12.names.length + rest.length) (ocase (ref10_on_r n f (⟨0, [], d.ino⟩ : Spotted) (y12.names ++ rest) fol dir (IntKind.i64.wrap (((40 - k : Nat) : Int) + (1 : Int)))) fun y18 => some (y18.1, y18.2))))))) = some (lnkK f.inodes fol k dir x d rest) := by
          cases k with
          | zero => rw [bc_t (by simp)]; rfl
          | succ k =>
            have e : IntKind.i64.wrap (((40 - (k + 1) : Nat) : Int) + 1) = ((40 - k : Nat) : Int) := by rw [wrap_id (by omega) (by omega)]; omega
            rw [e, bc_f (by rw [beqI]; simp; omega), ref03_Long_eq (by omega), ocase_some']
            simp only [lnkK]
            cases hlong : longP x.data
            case true => rw [bcase_true, if_pos rfl]; rfl
            rw [bcase_false, ref03_Read_eq (by omega), ocase_some', if_neg (by simp)]
            have hlen : ((readP x.data).names ++ rest).length ≤ rest.length + 4096 := by rw [List.length_append, readP_names]; omega
            have go : ∀ (dir' : Bool) (s' : Spotted), (s'.ino = 0 ∨ (findI s'.ino f.inodes).isSome = true) → lcase (([] : List Str).length + (readP x.data).names.length) (lcase ((readP x.data).names.length + rest.length) (ocase (ref10_on_r n f s' ((readP x.data).names ++ rest) fol dir' ((40 - k : Nat) : Int)) fun y13 => some (y13.1, y13.2))) = some (onK f.inodes fol k dir' ((readP x.data).names ++ rest) s') := by
              intro dir' s' hs'
              have h7 : (readP x.data).names.length ≤ 4096 := by rw [readP_names]; omega
              rw [lcase_le (by unfold LIM; simp; omega), lcase_le (by unfold LIM; omega), ih k dir' _ s' hs' (by omega) (by clear ih ih'; omega) (by clear ih ih'; simp only [wt] at hn; omega)]; rfl
            have r1 := fun dir' => go dir' ⟨0, [], 1⟩ (Or.inr h.wf.root)
            have r2 := fun dir' => go dir' ⟨0, [], d.ino⟩ (Or.inr (by rw [hdm.2, hf]; rfl))
            simp only [r1, r2]
            cases (readP x.data).abs
            · cases (readP x.data).slash
              · simp
              · cases rest
                · simp
                · simp only [bcase_true, bcase_false, consI]; simp
            · cases (readP x.data).slash
              · simp
              · cases rest
                · simp
                · simp only [bcase_true, bcase_false, consI]; simp
        by_cases hr : rest = []
        · subst hr
          rw [bc_t (by simp)]
          cases fol
          · cases dir
            · simp only [Bool.not_false, bcase_true]
              rw [stepIn_on hf hk2 hd1 hd2 (by simp)]
              exact hon
            · simp only [Bool.not_false, bcase_true, Bool.not_true, bcase_false]
              rw [stepIn_link hf hk2 hd1 hd2 ⟨by rw [hgx]; exact hk3, Or.inr (Or.inr rfl)⟩, hgx]
              exact blk
          · simp only [Bool.not_true, bcase_false]
            rw [stepIn_link hf hk2 hd1 hd2 ⟨by rw [hgx]; exact hk3, Or.inr (Or.inl rfl)⟩, hgx]
            exact blk
        · rw [bc_f (by cases rest with | nil => exact absurd rfl hr | cons a b => exact consI _ _), stepIn_link hf hk2 hd1 hd2 ⟨by rw [hgx]; exact hk3, Or.inl hr⟩, hgx]
          exact blk
      · rw [bc_t (b := !decide _) (by simp [hk3]), stepIn_on hf hk2 hd1 hd2 (fun h9 => hk3 h9.1)]
        cases hfe : (findE nm d.entries).isSome
        · rw [bc_t (by simp)]; exact hon
        · rw [bc_f (by simp)]; exact hon
theorem homeP_there {f : Fs} (h : WF f) {base : Str} : (homeP f base).1 = 0 ∨ (findI (homeP f base).1 f.inodes).isSome = true := by
  unfold homeP getP
  by_cases h1 : (atP f base).2 = 0
  · simp only [h1, if_true]
    cases hf : findI (atP f base).1.ino f.inodes with
    | none => left; rfl
    | some x =>
      simp only [if_true]
      split
      · right
        simp only
        have := h.found hf
        rw [this.2, hf]; rfl
      · left; rfl
  · left
    simp only [h1, if_false]
theorem ref10_Seek_eq {f : Fs} (h : WS f) {base p : Str} {fol : Bool} (hb : base.length ≤ 8388608) (hp : p.length ≤ 1073741823) : ref10_Seek f base p fol = some (seekP f base p fol) := by
  unfold ref10_Seek seekP
  by_cases h0 : p = []
  · rw [bc_t (by simp [h0]), if_pos h0]; rfl
  rw [bc_f (by simp [h0]), if_neg h0, ref03_Long_eq hp, ocase_some']
  cases hl : longP p
  case true => rw [bcase_true, if_pos rfl]; rfl
  have hlen := longP_len hl
  rw [bcase_false, if_neg (by simp), ref03_Read_eq hp, ocase_some']
  have hnm : (readP p).names.length ≤ 4096 := by rw [readP_names]; have := namesP_len' p; omega
  have go : ∀ (s : Spotted), (s.ino = 0 ∨ (findI s.ino f.inodes).isSome = true) → (ocase (ref10_on f s (readP p).names fol (readP p).slash (0 : Int)) fun y4 => some (y4.1, y4.2)) = some (onK f.inodes fol 40 (readP p).slash (readP p).names s) := fun s hs => by
    unfold ref10_on
    have := on_r h fol FUEL 40 (readP p).slash (readP p).names s hs (Nat.le_refl _) (by omega) (fuel_ok (by rw [wt40]; omega))
    have e : ((40 - 40 : Nat) : Int) = 0 := rfl
    rw [e] at this
    rw [this]; rfl
  cases (readP p).abs
  · simp only [Bool.not_false, bcase_true, Bool.false_eq_true, if_false]
    rw [ref10_Home_eq h.wf hb, ocase_some', bneI]
    by_cases h2 : (homeP f base).2 = 0
    · rw [bc_f (by simp [h2]), if_pos h2]
      exact go ⟨0, [], (homeP f base).1⟩ (homeP_there h.wf)
    · rw [bc_t (by simp [h2]), if_neg h2]; rfl
  · simp only [Bool.not_true, bcase_false, if_true]
    exact go rootS (Or.inr h.wf.root)
end Go.Eng
set_option linter.unusedVariables false
set_option maxRecDepth 100000
namespace Go.Eng
open Go
end Go.Eng
set_option linter.unusedSimpArgs false
set_option linter.unusedVariables false
set_option linter.unusedSectionVars false
namespace Go.Eng
open Go
def wsB (f : Fs) : Bool := wfB f && (f.inodes.all (fun x => !decide (x.kind = 2) || ((findI x.parent f.inodes).isSome && decide ((getI x.parent f.inodes).kind = 2))) && (f.inodes.all (fun x => !decide (x.kind = 3) || decide (x.data.length ≤ 4095)) && decide ((getI 1 f.inodes).kind = 2)))
theorem ws_of {f : Fs} (h : wsB f = true) : WS f := by
  unfold wsB at h
  simp only [Bool.and_eq_true, List.all_eq_true, Bool.or_eq_true, Bool.not_eq_true', decide_eq_false_iff_not, decide_eq_true_eq] at h
  obtain ⟨h1, h2, h3, h4⟩ := h
  have w := wf_of h1
  refine ⟨w, fun x hx hk => ?_, fun x hx hk => (h3 x hx).resolve_left (fun h => h hk), ?_⟩
  · have := (h2 x hx).resolve_left (fun h => h hk)
    obtain ⟨y, hy⟩ := Option.isSome_iff_exists.1 this.1
    rw [getI_some hy] at this
    exact ⟨y, hy, this.2⟩
  · obtain ⟨y, hy⟩ := Option.isSome_iff_exists.1 w.root
    rw [getI_some hy] at h4
    exact ⟨y, hy, h4⟩
theorem last_drop {s : Str} (h : s ≠ []) : s.drop (s.length - 1) = [s.getLast h] := by
  have := List.dropLast_concat_getLast h
  conv => lhs; rw [← this]
  rw [List.drop_append_of_le_length (by simp)]
  simp
theorem last_app {a b : Str} (h : b ≠ []) : (a ++ b).drop ((a ++ b).length - 1) = b.drop (b.length - 1) := by
  have hb : 0 < b.length := List.length_pos_iff.2 h
  rw [List.drop_append, List.drop_eq_nil_of_le (by simp; omega), List.nil_append]
  congr 1
  simp; omega
theorem nm_last {x : Str} (h : Nm x) : (x.drop (x.length - 1) == [47]) = false := by
  rw [last_drop h.1, beq_eq_false_iff_ne]
  intro e
  have := h.2 (x.getLast h.1) (List.getLast_mem h.1)
  simp at e
  exact this e
theorem joinP_47 (ns : List Str) : ∃ r, joinP ns = 47 :: r := by
  cases ns with
  | nil => exact ⟨[], rfl⟩
  | cons x ns => exact ⟨_, joinP_cons x ns⟩
theorem joinP_ne_nil (ns : List Str) : joinP ns ≠ [] := by obtain ⟨r, hr⟩ := joinP_47 ns; rw [hr]; simp
theorem joinP_last {ns : List Str} (h : ∀ x ∈ ns, Nm x) (h0 : ns ≠ []) : ((joinP ns).drop ((joinP ns).length - 1) == [47]) = false := by
  rcases List.eq_nil_or_concat ns with rfl | ⟨ns', x, rfl⟩
  · exact absurd rfl h0
  · rw [List.concat_eq_append] at h ⊢
    have hx := h x (by simp)
    have e : joinP (ns' ++ [x]) = ((ns'.flatMap fun x => 47 :: x) ++ [47]) ++ x := by
      unfold joinP
      rw [if_neg (by simp)]
      simp
    rw [e, last_app hx.1]
    exact nm_last hx
theorem readP_join {ns : List Str} (h : ∀ x ∈ ns, Nm x) : readP (joinP ns) = ⟨true, ns, false⟩ := by
  obtain ⟨r, hr⟩ := joinP_47 ns
  unfold readP
  rw [namesP_join h]
  have e1 : ((joinP ns).take 1 == [47]) = true := by rw [hr]; simp
  rw [e1]
  by_cases h0 : ns = []
  · subst h0; rfl
  · rw [joinP_last h h0]; simp
theorem longP_of {p : Str} (h : ∀ x ∈ namesP p, x.length ≤ 255) (hl : p.length ≤ 4095) : longP p = false := by
  unfold longP
  rw [Bool.or_eq_false_iff, List.any_eq_false, decide_eq_false_iff_not]
  exact ⟨fun x hx => by have := h x hx; simp; omega, by omega⟩
theorem stepIn_app {f : Fs} {fol dir : Bool} {lnk : Bool → Inode → Inode → List Str → Spotted × Int} {rest : List Str} {t : Spotted} : ∀ {ns : List Str} {s : Spotted}, (∀ n ∈ ns, mayN n = true) → goAt f.inodes ns s = (t, 0) → (ns ≠ [] → (rest ≠ [] ∨ fol = true ∨ dir = true) → (getI t.ino f.inodes).kind ≠ 3) →
    stepIn f.inodes fol lnk dir (ns ++ rest) s = stepIn f.inodes fol lnk dir rest t
  | [], s, _, hg, _ => by simp [goAt] at hg; rw [hg]; rfl
  | n :: ns, s, hm, hg, h3 => by
    have hn := mayN_dot (hm n (by simp))
    cases hf : findI s.ino f.inodes with
    | none => rw [goAt_none hf] at hg; simp at hg
    | some d =>
      by_cases hk : d.kind = 2
      · rw [goAt_dir hf hk] at hg
        rw [List.cons_append, stepIn_on hf hk hn.1 hn.2]
        · exact stepIn_app (fun m hm' => hm m (by simp [hm'])) hg (fun h1 h2 => h3 (by simp) h2)
        · rintro ⟨k3, hc⟩
          cases ns with
          | nil =>
            simp [goAt] at hg
            rw [← hg] at h3
            exact h3 (by simp) (by simpa using hc) k3
          | cons m ns =>
            obtain ⟨x, hx, hgx⟩ := getI_kind3 k3
            rw [hgx] at k3
            rw [goAt_file (d := x) (by exact hx) (by omega)] at hg
            simp at hg
      · rw [goAt_file hf hk] at hg; simp at hg
theorem ref10_Short_eq {f : Fs} {base p : Str} (hl : f.inodes.length ≤ 1073741824) : ref10_Short f base p = some ((f.inodes.take 100).all (fun x => !decide (x.kind = 3) || decide (x.data.length ≤ 300)) && (decide (base.length ≤ 1000) && decide (p.length ≤ 5000))) := by
  unfold ref10_Short
  have e0 : (bcase (decide ((List.length base : Int) ≤ (1000 : Int))) (some (decide ((List.length p : Int) ≤ (5000 : Int)))) (some false)) = some (decide (base.length ≤ 1000) && decide (p.length ≤ 5000)) := by
    by_cases h1 : base.length ≤ 1000
    · rw [bc_t (by simp; omega)]
      congr 1
      rw [Bool.eq_iff_iff]; simp [h1]; omega
    · rw [bc_f (by simp; omega)]; simp [h1]
  rw [e0]
  refine (loop_all (l := f.inodes.take 100) (fun n i (s : Unit) => ref10_Short_L2 f (some false) (some (decide (base.length ≤ 1000) && decide (p.length ≤ 5000))) n i) (fun _ x s K => if (!decide (x.kind = 3) || decide (x.data.length ≤ 300)) then K s else some false) (fun _ => some (decide (base.length ≤ 1000) && decide (p.length ≤ 5000))) (by simp; omega) (fun n k x s hk hx => ?_) (fun n s => ?_) ()).trans ?_
  · have hk' : k < f.inodes.length ∧ k < 100 := by simp at hk; omega
    have hx' : f.inodes[k]? = some x := by rw [List.getElem?_take_of_lt hk'.2] at hx; exact hx
    simp only [ref10_Short_L2]
    have h100 : decide ((k : Int) < (100 : Int)) = true := by simp; omega
    rw [dec_lt hk'.1, h100, dec_nn, toNat_cast, hx', wrap_succ (by omega)]
    simp only [bcase_true, ocase_some', beqI]
    by_cases h3 : x.kind = 3
    · rw [bc_t (by simp [h3])]
      by_cases h4 : x.data.length ≤ 300
      · rw [bc_f (by simp; omega)]; simp [h4]
      · rw [bc_t (by simp; omega)]; simp [h3, h4]
    · rw [bc_f (by simp [h3])]; simp [h3]
  · simp only [ref10_Short_L2]
    by_cases h : f.inodes.length ≤ 100
    · have e : (f.inodes.take 100).length = f.inodes.length := by simp; omega
      rw [e, dec_ge (Nat.le_refl _)]
      rfl
    · have e : (f.inodes.take 100).length = 100 := by simp; omega
      rw [e]
      have h1 : decide (((100 : Nat) : Int) < (f.inodes.length : Int)) = true := by simp; omega
      rw [h1]
      rfl
  · rw [all_foldT]
    by_cases h9 : (f.inodes.take 100).all (fun x => !decide (x.kind = 3) || decide (x.data.length ≤ 300)) = true
    · rw [if_pos h9, h9]; rfl
    · rw [if_neg h9]
      have : (f.inodes.take 100).all (fun x => !decide (x.kind = 3) || decide (x.data.length ≤ 300)) = false := by simpa using h9
      rw [this]; rfl
theorem short_le {f : Fs} {base p : Str} (hl : f.inodes.length ≤ 1073741824) (h : ref10_Short f base p = some true) : base.length ≤ 1000 ∧ p.length ≤ 5000 := by
  rw [ref10_Short_eq hl] at h
  simp only [Option.some.injEq, Bool.and_eq_true, decide_eq_true_eq] at h
  exact h.2
theorem ref10_Short_some {f : Fs} (base p : Str) (hl : f.inodes.length ≤ 1073741824) : ∃ b, ref10_Short f base p = some b ∧ (b = true → base.length ≤ 1000 ∧ p.length ≤ 5000) := by
  refine ⟨_, ref10_Short_eq hl, fun h => short_le (f := f) hl ?_⟩
  rw [ref10_Short_eq hl, h]
def Gd (f : Fs) (fol : Bool) (s : Spotted) : Prop := (s.name = [] ∧ s.dir = 0 ∧ ∃ d, findI s.ino f.inodes = some d ∧ d.kind = 2) ∨ (s.name ≠ [] ∧ ∃ d, findI s.dir f.inodes = some d ∧ d.kind = 2 ∧ s.ino = inoE s.name d.entries ∧ (fol = true → (getI s.ino f.inodes).kind ≠ 3))
def Res (f : Fs) (fol : Bool) (r : Spotted × Int) : Prop := (r.2 = 0 → Gd f fol r.1) ∧ (r.2 ≠ 0 → r.1 = zeroS)
theorem stepIn_res {f : Fs} (h : WS f) {fol : Bool} {lnk : Bool → Inode → Inode → List Str → Spotted × Int} {dir : Bool} (hl : ∀ x d rest, x ∈ f.inodes → x.kind = 3 → d ∈ f.inodes → d.kind = 2 → (∀ n ∈ rest, n ≠ []) → Res f fol (lnk dir x d rest)) : ∀ (todo : List Str) (s : Spotted), (∀ n ∈ todo, n ≠ []) → Gd f fol s → Res f fol (stepIn f.inodes fol lnk dir todo s)
  | [], s, _, hs => by
    show Res f fol (endP f.inodes dir s)
    unfold endP
    split
    · split
      · exact ⟨fun h => by simp at h, fun _ => rfl⟩
      · exact ⟨fun _ => hs, fun h => absurd rfl h⟩
    · exact ⟨fun _ => hs, fun h => absurd rfl h⟩
  | n :: rest, s, hn, hs => by
    have hrest : ∀ m ∈ rest, m ≠ [] := fun m hm => hn m (by simp [hm])
    cases hf : findI s.ino f.inodes with
    | none => rw [stepIn_none hf]; exact ⟨fun h => by simp at h, fun _ => rfl⟩
    | some d =>
      have hd := findI_some hf
      by_cases hk : d.kind = 2
      · by_cases h1 : n = [46]
        · rw [stepIn_dot hf hk h1]
          exact stepIn_res h hl rest _ hrest (Or.inl ⟨rfl, rfl, d, by rw [hd.2]; exact hf, hk⟩)
        · by_cases h2 : n = [46, 46]
          · rw [stepIn_up hf hk h2]
            exact stepIn_res h hl rest _ hrest (Or.inl ⟨rfl, rfl, h.par d hd.1 hk⟩)
          · by_cases h3 : (getI (inoE n d.entries) f.inodes).kind = 3 ∧ (rest ≠ [] ∨ fol = true ∨ dir = true)
            · rw [stepIn_link hf hk h1 h2 h3]
              obtain ⟨x, hx, hgx⟩ := getI_kind3 h3.1
              rw [hgx] at h3 ⊢
              exact hl x d rest (findI_some hx).1 h3.1 hd.1 hk hrest
            · rw [stepIn_on hf hk h1 h2 h3]
              refine stepIn_res h hl rest _ hrest (Or.inr ⟨hn n (by simp), d, by rw [hd.2]; exact hf, hk, rfl, fun hfol k3 => h3 ⟨k3, Or.inr (Or.inl hfol)⟩⟩)
      · rw [stepIn_file hf hk]; exact ⟨fun h => by simp at h, fun _ => rfl⟩
theorem splitN_ne : ∀ (s cur : Str), ∀ x ∈ (splitN cur s).1, x ≠ []
  | [], cur, x, hx => by simp [splitN] at hx
  | c :: s, cur, x, hx => by
    simp only [splitN] at hx
    split at hx
    · split at hx
      · exact splitN_ne s [] x hx
      · simp only [List.mem_cons] at hx
        rcases hx with rfl | hx
        · assumption
        · exact splitN_ne s [] x hx
    · exact splitN_ne s _ x hx
theorem namesP_ne (s : Str) : ∀ x ∈ namesP s, x ≠ [] := by
  intro x hx
  unfold namesP withLast at hx
  split at hx
  · exact splitN_ne s [] x hx
  · rename_i h
    simp only [List.mem_append, List.mem_singleton] at hx
    rcases hx with hx | rfl
    · exact splitN_ne s [] x hx
    · exact h
theorem onK_res {f : Fs} (h : WS f) {fol : Bool} : ∀ (k : Nat) (dir : Bool) (todo : List Str) (s : Spotted), (∀ n ∈ todo, n ≠ []) → Gd f fol s → Res f fol (onK f.inodes fol k dir todo s)
  | 0, dir, todo, s, hn, hs => stepIn_res h (fun x d rest _ _ _ _ _ => ⟨fun h => by simp at h, fun _ => rfl⟩) todo s hn hs
  | k + 1, dir, todo, s, hn, hs => by
    refine stepIn_res h (fun x d rest hx hk3 hd hk2 hrest => ?_) todo s hn hs
    split
    · exact ⟨fun h => by simp at h, fun _ => rfl⟩
    · refine onK_res h k _ _ _ (fun n hn' => ?_) (Or.inl ⟨rfl, rfl, ?_⟩)
      · simp only [List.mem_append] at hn'
        rcases hn' with hn' | hn'
        · exact namesP_ne _ n hn'
        · exact hrest n hn'
      · split
        · exact h.rootk
        · exact ⟨d, findI_mem h.wf.sort hd, hk2⟩
theorem homeP_dir {f : Fs} (h : WF f) {base : Str} (h0 : (homeP f base).2 = 0) : ∃ d, findI (homeP f base).1 f.inodes = some d ∧ d.kind = 2 := by
  unfold homeP at h0 ⊢
  by_cases h1 : (getP f base).2 = 0
  · rw [if_pos h1] at h0 ⊢
    by_cases h2 : (getP f base).1.kind = 2
    · rw [if_pos h2]
      unfold getP at h1 h2 ⊢
      by_cases h3 : (atP f base).2 = 0
      · rw [if_pos h3] at h1 h2 ⊢
        cases hf : findI (atP f base).1.ino f.inodes with
        | none => rw [hf] at h1; simp at h1
        | some x =>
          rw [hf] at h2
          simp only at h2 ⊢
          exact ⟨x, by rw [(findI_some hf).2]; exact hf, h2⟩
      · rw [if_neg h3] at h1; exact absurd h1 h3
    · rw [if_neg h2] at h0; simp at h0
  · rw [if_neg h1] at h0; exact absurd h0 h1
theorem seekP_res {f : Fs} (h : WS f) (base p : Str) (fol : Bool) : Res f fol (seekP f base p fol) := by
  unfold seekP
  split
  · exact ⟨fun h => by simp at h, fun _ => rfl⟩
  · split
    · exact ⟨fun h => by simp at h, fun _ => rfl⟩
    · split
      · exact onK_res h 40 _ _ _ (namesP_ne p) (Or.inl ⟨rfl, rfl, h.rootk⟩)
      · split
        · rename_i h0
          exact onK_res h 40 _ _ _ (namesP_ne p) (Or.inl ⟨rfl, rfl, homeP_dir h.wf h0⟩)
        · rename_i h0
          exact ⟨fun h => absurd h h0, fun _ => rfl⟩
end Go.Eng
set_option linter.unusedSimpArgs false
set_option linter.unusedVariables false
set_option linter.unusedSectionVars false
namespace Go.Eng
open Go
def statP (f : Fs) (base p : Str) (fol : Bool) : Inode × Int := if (seekP f base p fol).2 = 0 then (match findI (seekP f base p fol).1.ino f.inodes with | some x => (x, 0) | none => (zeroI, 1)) else (zeroI, (seekP f base p fol).2)
def fileP (f : Fs) (base p : Str) : Inode × Int := if (statP f base p true).2 = 0 then (if (statP f base p true).1.kind = 2 then (zeroI, 4) else ((statP f base p true).1, 0)) else (zeroI, (statP f base p true).2)
def linkP (f : Fs) (base p : Str) : Str × Int := if (statP f base p false).2 = 0 then (if (statP f base p false).1.kind = 3 then ((statP f base p false).1.data, 0) else ([], 9)) else ([], (statP f base p false).2)
def Inode.withD (x : Inode) (d : Str) : Inode := ⟨x.ino, x.kind, x.links, d, x.parent, x.entries⟩
def dsetP (f : Fs) (ino : Int) (d : Str) : Fs × Int := if fitsI f 0 ((d.length : Int) - ((getI ino f.inodes).data.length : Int)) = true then (f.set ((getI ino f.inodes).withD d), 0) else (f, 8)
def writeP (f : Fs) (base p d : Str) : Fs × Int := if (fileP f base p).2 = 0 then dsetP f (fileP f base p).1.ino d else (f, (fileP f base p).2)
section
variable {f : Fs} {base p : Str}
theorem data_Stat_eq (h : WS f) {fol : Bool} (hb : base.length ≤ 8388608) (hp : p.length ≤ 1073741823) : data_Stat f base p fol = some (statP f base p fol) := by
  unfold data_Stat statP
  rw [seek_Seek_eq h hb hp, ocase_some', bneI]
  by_cases h0 : (seekP f base p fol).2 = 0
  · rw [bc_f (by simp [h0]), if_pos h0, h.wf.get, ocase_some']
    cases hf : findI (seekP f base p fol).1.ino f.inodes with
    | none => rfl
    | some x => rw [getI_some hf]; rfl
  · rw [bc_t (by simp [h0]), if_neg h0]; rfl
theorem ref13_Stat_eq (h : WS f) {fol : Bool} (hb : base.length ≤ 8388608) (hp : p.length ≤ 1073741823) : ref13_Stat f base p fol = some (statP f base p fol) := by
  unfold ref13_Stat statP
  rw [ref10_Seek_eq h hb hp, ocase_some', bneI]
  by_cases h0 : (seekP f base p fol).2 = 0
  · rw [bc_f (by simp [h0]), if_pos h0, h.wf.rget, ocase_some']
    cases hf : findI (seekP f base p fol).1.ino f.inodes with
    | none => rfl
    | some x => rw [getI_some hf]; rfl
  · rw [bc_t (by simp [h0]), if_neg h0]; rfl
theorem data_file_eq (h : WS f) (hb : base.length ≤ 8388608) (hp : p.length ≤ 1073741823) : data_file f base p = some (fileP f base p) := by
  unfold data_file fileP
  rw [data_Stat_eq h hb hp, ocase_some', bneI, beqI]
  by_cases h0 : (statP f base p true).2 = 0
  · rw [bc_f (by simp [h0]), if_pos h0]
    by_cases h1 : (statP f base p true).1.kind = 2
    · rw [bc_t (by simp [h1]), if_pos h1]; rfl
    · rw [bc_f (by simp [h1]), if_neg h1]
  · rw [bc_t (by simp [h0]), if_neg h0]; rfl
theorem data_Read_eq (h : WS f) (hb : base.length ≤ 8388608) (hp : p.length ≤ 1073741823) : data_Read f base p = some ((fileP f base p).1.data, (fileP f base p).2) := by
  unfold data_Read
  rw [data_file_eq h hb hp, ocase_some']
theorem ref13_Read_eq (h : WS f) (hb : base.length ≤ 8388608) (hp : p.length ≤ 1073741823) : ref13_Read f base p = some ((fileP f base p).1.data, (fileP f base p).2) := by
  unfold ref13_Read fileP
  rw [ref13_Stat_eq h hb hp, ocase_some', bneI, beqI]
  by_cases h0 : (statP f base p true).2 = 0
  · rw [bc_f (by simp [h0]), if_pos h0]
    by_cases h1 : (statP f base p true).1.kind = 2
    · rw [bc_t (by simp [h1]), if_pos h1]; rfl
    · rw [bc_f (by simp [h1]), if_neg h1]
  · rw [bc_t (by simp [h0]), if_neg h0]; rfl
theorem data_Readlink_eq (h : WS f) (hb : base.length ≤ 8388608) (hp : p.length ≤ 1073741823) : data_Readlink f base p = some (linkP f base p) := by
  unfold data_Readlink linkP
  rw [data_Stat_eq h hb hp, ocase_some', bneI, bneI]
  by_cases h0 : (statP f base p false).2 = 0
  · rw [bc_f (by simp [h0]), if_pos h0]
    by_cases h1 : (statP f base p false).1.kind = 3
    · rw [bc_f (by simp [h1]), if_pos h1]
    · rw [bc_t (by simp [h1]), if_neg h1]
  · rw [bc_t (by simp [h0]), if_neg h0]
theorem ref13_Readlink_eq (h : WS f) (hb : base.length ≤ 8388608) (hp : p.length ≤ 1073741823) : ref13_Readlink f base p = some (linkP f base p) := by
  unfold ref13_Readlink linkP
  rw [ref13_Stat_eq h hb hp, ocase_some', bneI, bneI]
  by_cases h0 : (statP f base p false).2 = 0
  · rw [bc_f (by simp [h0]), if_pos h0]
    by_cases h1 : (statP f base p false).1.kind = 3
    · rw [bc_f (by simp [h1]), if_pos h1]
    · rw [bc_t (by simp [h1]), if_neg h1]
  · rw [bc_t (by simp [h0]), if_neg h0]
theorem getI_data (h : WF f) (i : Int) : (getI i f.inodes).data.length ≤ 1073741824 := by
  cases hf : findI i f.inodes with
  | none => rw [getI_none hf]; simp [zeroI]
  | some x => rw [getI_some hf]; exact h.sm.data x (findI_some hf).1
theorem data_Set_eq (h : WF f) {i : Int} {d : Str} (hd : d.length ≤ 1073741824) : data_Set f i d = some (dsetP f i d) := by
  unfold data_Set dsetP
  have hg := getI_data h i
  rw [h.get, ocase_some']
  simp only
  rw [wrap_id (by omega) (by omega), room_Fits_eq h.sm (by unfold Far; omega) (by unfold Far; omega), ocase_some']
  cases hfit : fitsI f 0 ((d.length : Int) - ((getI i f.inodes).data.length : Int))
  · rfl
  · rw [Bool.not_true, bcase_false, h.set, ocase_some']; rfl
theorem ref13_Set_eq (h : WF f) {i : Int} {d : Str} (hd : d.length ≤ 1073741824) : ref13_Set f i d = some (dsetP f i d) := by
  unfold ref13_Set dsetP
  have hg := getI_data h i
  rw [h.rget, ocase_some']
  simp only
  rw [wrap_id (by omega) (by omega), ref06_Fits_eq h.sm (by unfold Far; omega) (by unfold Far; omega), ocase_some']
  cases hfit : fitsI f 0 ((d.length : Int) - ((getI i f.inodes).data.length : Int))
  · rfl
  · rw [Bool.not_true, bcase_false, h.rset, ocase_some']; rfl
theorem data_Write_eq (h : WS f) {d : Str} (hb : base.length ≤ 8388608) (hp : p.length ≤ 1073741823) (hd : d.length ≤ 1073741824) : data_Write f base p d = some (writeP f base p d) := by
  unfold data_Write writeP
  rw [data_file_eq h hb hp, ocase_some', bneI]
  by_cases h0 : (fileP f base p).2 = 0
  · rw [bc_f (by simp [h0]), if_pos h0, data_Set_eq h.wf hd, ocase_some']
  · rw [bc_t (by simp [h0]), if_neg h0]
theorem fileP_stat (h0 : (fileP f base p).2 = 0) : fileP f base p = statP f base p true ∧ (statP f base p true).2 = 0 ∧ (statP f base p true).1.kind ≠ 2 := by
  unfold fileP at h0 ⊢
  by_cases h1 : (statP f base p true).2 = 0
  · rw [if_pos h1] at h0 ⊢
    by_cases h2 : (statP f base p true).1.kind = 2
    · rw [if_pos h2] at h0; simp at h0
    · rw [if_neg h2]
      exact ⟨by rw [← h1], h1, h2⟩
  · rw [if_neg h1] at h0; exact absurd h0 h1
theorem ref13_Write_eq (h : WS f) {d : Str} (hb : base.length ≤ 8388608) (hp : p.length ≤ 1073741823) (hd : d.length ≤ 1073741824) : ref13_Write f base p d = some (writeP f base p d) := by
  unfold ref13_Write writeP
  rw [ref13_Read_eq h hb hp, ocase_some', bneI]
  by_cases h0 : (fileP f base p).2 = 0
  · rw [bc_f (by simp [h0]), if_pos h0, ref13_Stat_eq h hb hp, ocase_some', (fileP_stat h0).1, ref13_Set_eq h.wf hd, ocase_some']
  · rw [bc_t (by simp [h0]), if_neg h0]
theorem statP_find (h0 : (statP f base p true).2 = 0) : findI (statP f base p true).1.ino f.inodes = some (statP f base p true).1 ∧ (seekP f base p true).2 = 0 ∧ findI (seekP f base p true).1.ino f.inodes = some (statP f base p true).1 := by
  unfold statP at h0 ⊢
  by_cases h1 : (seekP f base p true).2 = 0
  · rw [if_pos h1] at h0 ⊢
    cases hf : findI (seekP f base p true).1.ino f.inodes with
    | none => rw [hf] at h0; simp at h0
    | some x => exact ⟨by simp only; rw [(findI_some hf).2]; exact hf, h1, rfl⟩
  · rw [if_neg h1] at h0; exact absurd h0 h1
theorem fileP_kind (h : WS f) (hk : ∀ x ∈ f.inodes, kindB x = true) (h0 : (fileP f base p).2 = 0) : ∃ x, fileP f base p = (x, 0) ∧ findI x.ino f.inodes = some x ∧ x.kind = 1 ∧ (statP f base p true) = (x, 0) ∧ (seekP f base p true).2 = 0 ∧ (seekP f base p true).1.ino = x.ino := by
  obtain ⟨h1, h2, h3⟩ := fileP_stat h0
  obtain ⟨h4, h5, h6⟩ := statP_find h2
  have hr := (seekP_res h base p true).1 h5
  have hne : (statP f base p true).1.kind ≠ 3 := by
    rcases hr with ⟨_, _, d, g3, g4⟩ | ⟨_, d, _, _, _, g6⟩
    · rw [h6] at g3; cases g3; exact fun _ => h3 g4
    · have := g6 rfl
      rw [getI_some h6] at this
      exact this
  have hkk := hk _ (findI_some h4).1
  have hk1 : (statP f base p true).1.kind = 1 := by
    by_cases e : (statP f base p true).1.kind = 1
    · exact e
    · rw [kind0 e h3 hne] at hkk; cases hkk
  refine ⟨(statP f base p true).1, by rw [h1, ← h2], h4, hk1, by rw [← h2], h5, ((findI_some h6).2).symm⟩
end
def Sim1 : Option Inode → Option Inode → Prop
  | none, none => True
  | some x, some y => x.ino = y.ino ∧ x.kind = y.kind ∧ x.parent = y.parent ∧ x.entries = y.entries ∧ (x.kind = 3 → x.data = y.data)
  | _, _ => False
def SimI (l m : List Inode) : Prop := ∀ k, Sim1 (findI k l) (findI k m)
section
variable {l m : List Inode}
theorem SimI.none (h : SimI l m) {k : Int} (hf : findI k l = none) : findI k m = none := by
  have := h k
  rw [hf] at this
  cases hm : findI k m with
  | none => rfl
  | some y => rw [hm] at this; exact this.elim
theorem SimI.some (h : SimI l m) {k : Int} {x : Inode} (hf : findI k l = some x) : ∃ y, findI k m = some y ∧ x.ino = y.ino ∧ x.kind = y.kind ∧ x.parent = y.parent ∧ x.entries = y.entries ∧ (x.kind = 3 → x.data = y.data) := by
  have := h k
  rw [hf] at this
  cases hm : findI k m with
  | none => rw [hm] at this; exact this.elim
  | some y => rw [hm] at this; exact ⟨y, rfl, this⟩
theorem SimI.kind (h : SimI l m) (k : Int) : (getI k l).kind = (getI k m).kind := by
  cases hf : findI k l with
  | none => rw [getI_none hf, getI_none (h.none hf)]
  | some x => obtain ⟨y, hy, h1⟩ := h.some hf; rw [getI_some hf, getI_some hy]; exact h1.2.1
theorem goAt_sim (h : SimI l m) : ∀ (ns : List Str) (s : Spotted), goAt l ns s = goAt m ns s
  | [], s => rfl
  | n :: ns, s => by
    cases hf : findI s.ino l with
    | none => rw [goAt_none hf, goAt_none (h.none hf)]
    | some x =>
      obtain ⟨y, hy, h1, h2, h3, h4, h5⟩ := h.some hf
      by_cases hk : x.kind = 2
      · rw [goAt_dir hf hk, goAt_dir hy (h2 ▸ hk), h1, h4]; exact goAt_sim h ns _
      · rw [goAt_file hf hk, goAt_file hy (h2 ▸ hk)]
theorem endP_sim (h : SimI l m) (dir : Bool) (s : Spotted) : endP l dir s = endP m dir s := by
  unfold endP
  cases hf : findI s.ino l with
  | none => rw [h.none hf]
  | some x => obtain ⟨y, hy, h1, h2, _⟩ := h.some hf; rw [hy]; simp only [h2]
theorem stepIn_sim (h : SimI l m) {fol : Bool} {lnk lnk' : Bool → Inode → Inode → List Str → Spotted × Int} (hl : ∀ dir x y d d' rest, x.data = y.data → d.ino = d'.ino → lnk dir x d rest = lnk' dir y d' rest) (dir : Bool) : ∀ (todo : List Str) (s : Spotted), stepIn l fol lnk dir todo s = stepIn m fol lnk' dir todo s
  | [], s => endP_sim h dir s
  | n :: rest, s => by
    cases hf : findI s.ino l with
    | none => rw [stepIn_none hf, stepIn_none (h.none hf)]
    | some d =>
      obtain ⟨d', hy, h1, h2, h3, h4, h5⟩ := h.some hf
      by_cases hk : d.kind = 2
      · have hk' : d'.kind = 2 := h2 ▸ hk
        by_cases n1 : n = [46]
        · rw [stepIn_dot hf hk n1, stepIn_dot hy hk' n1, h1]; exact stepIn_sim h hl dir rest _
        · by_cases n2 : n = [46, 46]
          · rw [stepIn_up hf hk n2, stepIn_up hy hk' n2, h3]; exact stepIn_sim h hl dir rest _
          · have hkk := h.kind (inoE n d.entries)
            by_cases c : (getI (inoE n d.entries) l).kind = 3 ∧ (rest ≠ [] ∨ fol = true ∨ dir = true)
            · rw [stepIn_link hf hk n1 n2 c, stepIn_link hy hk' n1 n2 (by rw [← h4, ← hkk]; exact c)]
              refine hl _ _ _ _ _ _ ?_ h1
              rw [← h4]
              have c3 := c.1
              cases hx : findI (inoE n d.entries) l with
              | none => rw [getI_none hx] at c3; cases c3
              | some x =>
                obtain ⟨y, hy', g1, g2, g3, g4, g5⟩ := h.some hx
                rw [getI_some hx] at c3 ⊢
                rw [getI_some hy']
                exact g5 c3
            · rw [stepIn_on hf hk n1 n2 c, stepIn_on hy hk' n1 n2 (by rw [← h4, ← hkk]; exact c), h1, h4]; exact stepIn_sim h hl dir rest _
      · rw [stepIn_file hf hk, stepIn_file hy (h2 ▸ hk)]
theorem onK_sim (h : SimI l m) (fol : Bool) : ∀ (k : Nat) (dir : Bool) (todo : List Str) (s : Spotted), onK l fol k dir todo s = onK m fol k dir todo s
  | 0, dir, todo, s => stepIn_sim h (fun _ _ _ _ _ _ _ _ => rfl) dir todo s
  | k + 1, dir, todo, s => stepIn_sim h (fun dir x y d d' rest hd hi => by
      rw [hd, hi]
      split
      · rfl
      · exact onK_sim h fol k _ _ _) dir todo s
end
theorem atP_sim {f g : Fs} (h : SimI f.inodes g.inodes) (p : Str) : atP f p = atP g p := by
  unfold atP; rw [goAt_sim h]
theorem homeP_sim {f g : Fs} (h : SimI f.inodes g.inodes) (p : Str) : homeP f p = homeP g p := by
  unfold homeP getP
  rw [atP_sim h]
  by_cases h1 : (atP g p).2 = 0
  · simp only [h1, if_true]
    cases hf : findI (atP g p).1.ino f.inodes with
    | none => rw [h.none hf]
    | some x => obtain ⟨y, hy, e1, e2, _⟩ := h.some hf; rw [hy]; simp only [e1, e2]
  · simp only [h1, if_false]
theorem seekP_sim {f g : Fs} (h : SimI f.inodes g.inodes) (base p : Str) (fol : Bool) : seekP f base p fol = seekP g base p fol := by
  unfold seekP
  rw [homeP_sim h]
  simp only [onK_sim h]
section
variable {f : Fs} {x : Inode} {d : Str}
theorem findI_set {l : List Inode} {x : Inode} {k : Int} : findI k (setI x l) = if x.ino = k then some x else findI k l := findK_set
theorem mem_setI {l : List Inode} {x y : Inode} : y ∈ setI x l ↔ y = x ∨ (y ∈ l ∧ y.ino ≠ x.ino) := setK_mem
theorem setI_sort {l : List Inode} {x : Inode} (h : SortI l) : SortI (setI x l) := setK_sort loI h
theorem setI_len {l : List Inode} {x : Inode} (h : SortI l) : (setI x l).length = if (findI x.ino l).isSome then l.length else l.length + 1 := len_set loI h
def byt (x : Inode) : Int := if x.kind = 1 then (x.data.length : Int) else 0
theorem bytes_setI {l : List Inode} {x : Inode} (h : SortI l) : bytesOf (setI x l) + fval byt (findI x.ino l) = bytesOf l + byt x := msum_set loI byt h
theorem fc_setI {l : List Inode} {x : Inode} (h : SortI l) (n : Int) : fc n (setI x l) + fval (fun y : Inode => ec n y.entries) (findI x.ino l) = fc n l + ec n x.entries := msum_set loI _ h
theorem sim_data (hx : findI x.ino f.inodes = some x) (hk : x.kind = 1) : SimI f.inodes (f.set (x.withD d)).inodes := by
  intro k
  show Sim1 _ (findI k (setI (x.withD d) f.inodes))
  rw [findI_set]
  by_cases e : (x.withD d).ino = k
  · rw [if_pos e]
    have e : x.ino = k := e
    subst e
    rw [hx]
    exact ⟨rfl, rfl, rfl, rfl, fun h => by rw [hk] at h; cases h⟩
  · rw [if_neg e]
    cases findI k f.inodes with
    | none => trivial
    | some y => exact ⟨rfl, rfl, rfl, rfl, fun _ => rfl⟩
theorem Reach.mono {l m : List Inode} (h : ∀ k x, findI k l = some x → ∃ y, findI k m = some y ∧ ∀ e ∈ x.entries, ∃ e' ∈ y.entries, e'.ino = e.ino) {k : Int} (hr : Reach l k) : Reach m k := by
  induction hr with
  | root => exact .root
  | step _ hf he ih =>
    obtain ⟨y, hy, h2⟩ := h _ _ hf
    obtain ⟨e', he', hn⟩ := h2 _ he
    rw [← hn]
    exact .step ih hy he'
theorem Tree.setData (h : Tree f) (hx : findI x.ino f.inodes = some x) (hk : x.kind = 1) (hfit : fitsI f 0 ((d.length : Int) - (x.data.length : Int)) = true) : Tree (f.set (x.withD d)) := by
  have hxm := (findI_some hx).1
  have hfc : ∀ n, fc n (f.set (x.withD d)).inodes = fc n f.inodes := fun n => by
    have := fc_setI (x := x.withD d) h.sort n
    rw [show (x.withD d).ino = x.ino from rfl, hx] at this
    have e : (x.withD d).entries = x.entries := rfl
    simp only [fval, e] at this
    show fc n (setI (x.withD d) f.inodes) = _
    omega
  have hmem : ∀ y ∈ (f.set (x.withD d)).inodes, ∃ z ∈ f.inodes, z.ino = y.ino ∧ z.kind = y.kind ∧ z.links = y.links ∧ z.parent = y.parent ∧ z.entries = y.entries ∧ (y.kind ≠ 1 → y = z) := fun y hy => by
    rcases mem_setI.1 hy with rfl | ⟨hy, _⟩
    · exact ⟨x, hxm, rfl, rfl, rfl, rfl, rfl, fun hn => absurd hk hn⟩
    · exact ⟨y, hy, rfl, rfl, rfl, rfl, rfl, fun _ => rfl⟩
  have hsim := sim_data (d := d) hx hk
  obtain ⟨r, hr, hrk, hrp⟩ := h.root
  refine ⟨h.maxI, h.maxB, h.next, fun y hy => ?_, setI_sort h.sort, ?_, fun y hy => ?_, fun y hy e he => ?_, fun y hy => ?_, ?_, fun y hy hd => ?_, fun y hy hd z hz e he hn => ?_, fun y hy => ?_, ?_⟩
  · obtain ⟨z, hz, e1, _⟩ := hmem y hy
    rw [← e1]; exact h.ino z hz
  · obtain ⟨y, hy, e1, e2, e3, _⟩ := hsim.some hr
    exact ⟨y, hy, by rw [← e2]; exact hrk, by rw [← e3]; exact hrp⟩
  · rcases mem_setI.1 hy with rfl | ⟨hy, _⟩
    · have := h.kind x hxm
      rw [kind1 hk] at this
      rw [kind1 (show (x.withD d).kind = 1 from hk)]
      exact this
    · exact h.kind y hy
  · obtain ⟨z, hz, _, _, _, _, e5, _⟩ := hmem y hy
    obtain ⟨u, hu⟩ := h.there z hz e (by rw [e5]; exact he)
    obtain ⟨v, hv, _⟩ := hsim.some hu
    exact ⟨v, hv⟩
  · obtain ⟨z, hz, e1, _, e3, _⟩ := hmem y hy
    rw [hfc, ← e1, ← e3]; exact h.links z hz
  · rw [hfc]; exact h.rootn
  · obtain ⟨z, hz, e1, e2, _⟩ := hmem y hy
    rw [hfc, ← e1]; exact h.dirs z hz (by rw [e2]; exact hd)
  · obtain ⟨z', hz', e1, e2, _, e4, _⟩ := hmem y hy
    obtain ⟨w, hw, f1, _, _, _, f5, _⟩ := hmem z hz
    rw [← e4, ← f1]
    exact h.par z' hz' (by rw [e2]; exact hd) w hw e (by rw [f5]; exact he) (by rw [e1]; exact hn)
  · obtain ⟨z, hz, e1, _⟩ := hmem y hy
    rw [← e1]
    refine Reach.mono (fun k u hu => ?_) (h.led z hz)
    obtain ⟨v, hv, _, _, _, e4, _⟩ := hsim.some hu
    exact ⟨v, hv, fun e he => ⟨e, by rw [← e4]; exact he, rfl⟩⟩
  · have hb := bytes_setI (x := x.withD d) h.sort
    have hl := setI_len (x := x.withD d) h.sort
    rw [show (x.withD d).ino = x.ino from rfl, hx] at hb hl
    have e1 : byt x = x.data.length := by unfold byt; rw [if_pos hk]
    have e2 : byt (x.withD d) = d.length := by unfold byt; rw [if_pos (show (x.withD d).kind = 1 from hk)]; rfl
    simp only [fval, e1, e2] at hb
    simp only [Option.isSome_some, if_true] at hl
    unfold fitsI at hfit ⊢
    simp only [Bool.and_eq_true, decide_eq_true_eq] at hfit ⊢
    show ((setI (x.withD d) f.inodes).length : Int) + 0 ≤ f.maxInodes ∧ bytesOf (setI (x.withD d) f.inodes) + 0 ≤ f.maxBytes
    omega
theorem set_set {a b : Inode} (h : a.ino = b.ino) (hs : SortI f.inodes) : (f.set a).set b = f.set b := by
  unfold Fs.set
  congr 1
  refine sort_ext_find loI (setI_sort (setI_sort hs)) (setI_sort hs) fun k => ?_
  show findI k (setI b (setI a f.inodes)) = findI k (setI b f.inodes)
  rw [findI_set, findI_set, findI_set]
  by_cases e : b.ino = k
  · rw [if_pos e, if_pos e]
  · rw [if_neg e, if_neg e, if_neg (by rw [h]; exact e)]
theorem set_same (hs : SortI f.inodes) (hx : findI x.ino f.inodes = some x) : f.set x = f := by
  cases f with
  | mk a b c l =>
    unfold Fs.set
    congr 1
    refine sort_ext_find loI (setI_sort hs) hs fun k => ?_
    show findI k (setI x l) = findI k l
    rw [findI_set]
    by_cases e : x.ino = k
    · rw [if_pos e, ← e]; exact hx.symm
    · rw [if_neg e]
theorem set_sm (h : SmF f) (hs : SortI f.inodes) {y : Inode} (hl : f.inodes.length ≤ 1073741823) (h1 : y.data.length ≤ 1073741824) (h2 : y.entries.length ≤ 1073741824) (h3 : ∀ e ∈ y.entries, e.name.length ≤ 1099511627775) : SmF (f.set y) where
  len := by
    have := setK_length_le (lt := ltI) (key := Inode.ino) (x := y) (l := f.inodes)
    show (setI y f.inodes).length ≤ _
    have e : (setI y f.inodes).length ≤ f.inodes.length + 1 := this
    omega
  data := fun z hz => by
    rcases mem_setI.1 hz with rfl | ⟨hz, _⟩
    · exact h1
    · exact h.data z hz
  ents := fun z hz => by
    rcases mem_setI.1 hz with rfl | ⟨hz, _⟩
    · exact h2
    · exact h.ents z hz
  names := fun z hz => by
    rcases mem_setI.1 hz with rfl | ⟨hz, _⟩
    · exact h3
    · exact h.names z hz
end
theorem Tree.wf {f : Fs} (h : Tree f) (hs : SmF f) : WF f := ((tr_iff f).2 h).wf hs
theorem Tree.check {f : Fs} (h : Tree f) : checkF f = 0 := (checkF_iff f).2 ((tr_iff f).2 h)
end Go.Eng
set_option linter.unusedSimpArgs false
set_option linter.unusedVariables false
set_option linter.unusedSectionVars false
namespace Go.Eng
open Go
structure Ev (f : Fs) : Prop where
  tr : Tree f
  sm : SmF f
  wf : WF f
  ws : WS f
  lil : Lil f
  len : f.inodes.length ≤ 40
  few : ∀ x ∈ f.inodes, x.data.length ≤ 5000 ∧ x.entries.length ≤ 40 ∧ ∀ e ∈ x.entries, e.name.length ≤ 300
theorem ev_of {f : Fs} (ho : okF f = true) : Ev f := by
  obtain ⟨hs, hm, h⟩ := ok_sound ho
  have hfew := ((okF_iff f).1 ho).1
  have htr := (tr_iff f).1 hs
  exact ⟨htr, hm, h, htr.ws h, Lil.of_few hfew, (fewF_sm hfew).1, (fewF_sm hfew).2⟩
def small13 : Fs := ⟨9, 4, 9, [⟨1, 2, 0, [], 1, [⟨[102], 4⟩, ⟨[115], 5⟩]⟩, ⟨4, 1, 1, [97, 98], 0, []⟩, ⟨5, 3, 1, [102], 0, []⟩]⟩
theorem small13_eq : law13_small = some small13 := by
  unfold law13_small
  have e1 : ref05_New 9 4 = some ⟨9, 4, 2, [⟨1, 2, 0, [], 1, []⟩]⟩ := rfl
  rw [e1, ocase_some', ref05_Set_eq (by decide), ocase_some', ref05_Set_eq (by decide), ocase_some', ref05_Set_eq (by decide), ocase_some']
  rfl
theorem awake13 : law13_awake = some true := by
  unfold law13_awake
  rw [small13_eq, ocase_some']
  have w : WS small13 := ws_of (by decide +kernel)
  rw [data_Write_eq w (by decide) (by decide) (by decide), ocase_some']
  have w2 : WS (writeP small13 [47] [115] [119, 120, 121, 122]).1 := ws_of (by decide +kernel)
  rw [data_Read_eq w2 (by decide) (by decide), ocase_some', data_Write_eq w (by decide) (by decide) (by decide), ocase_some', data_Readlink_eq w (by decide) (by decide), ocase_some', data_Readlink_eq w (by decide) (by decide), ocase_some', data_Read_eq w (by decide) (by decide), ocase_some', data_Stat_eq w (by decide) (by decide), ocase_some', data_Stat_eq w (by decide) (by decide), ocase_some', data_Set_eq w.wf (by decide), ocase_some']
  simp only [bcase_ite]
  rw [if_pos (by decide +kernel), if_pos (by decide +kernel), if_pos (by decide +kernel), if_pos (by decide +kernel), if_pos (by decide +kernel), if_pos (by decide +kernel), if_pos (by decide +kernel), if_pos (by decide +kernel), if_pos (by decide +kernel), if_pos (by decide +kernel), if_pos (by decide +kernel)]
  congr 1
theorem fits13 {f : Fs} {base p d : Str} (hi : InF f) : ∃ b, law13_fits f base p d = some b ∧ (b = true → Ev f ∧ base.length ≤ 1000 ∧ p.length ≤ 5000 ∧ d.length ≤ 5000) := by
  unfold law13_fits
  rw [ref07_Ok_eq hi.len hi.ents, ocase_some']
  cases ho : okF f
  · exact ⟨false, rfl, by simp⟩
  obtain ⟨b, hb1, hb2⟩ := ref10_Short_some (f := f) base p hi.len
  rw [bcase_true, hb1, ocase_some']
  cases b
  · exact ⟨false, rfl, by simp⟩
  · refine ⟨_, rfl, fun hd => ⟨ev_of ho, (hb2 rfl).1, (hb2 rfl).2, ?_⟩⟩
    have := of_decide_eq_true hd
    omega
section
variable {f : Fs} {base p d : Str}
theorem statP_ents (h : SmF f) {fol : Bool} : (statP f base p fol).1.entries.length ≤ 1073741824 := by
  unfold statP
  split
  · cases hf : findI (seekP f base p fol).1.ino f.inodes with
    | none => simp [zeroI]
    | some x => exact h.ents x (findI_some hf).1
  · simp [zeroI]
theorem getI_ents' (h : SmF f) (i : Int) : (getI i f.inodes).entries.length ≤ 1073741824 := by
  cases hf : findI i f.inodes with
  | none => rw [getI_none hf]; simp [zeroI]
  | some x => rw [getI_some hf]; exact h.ents x (findI_some hf).1
theorem dsetP_sm (h : SmF f) (hl : f.inodes.length ≤ 1000000) {i : Int} : (dsetP f i d).1.inodes.length ≤ 1073741824 ∧ ∀ x ∈ (dsetP f i d).1.inodes, x.entries.length ≤ 1073741824 := by
  unfold dsetP
  split
  · have := @set_len f ((getI i f.inodes).withD d)
    refine ⟨by show (f.set _).inodes.length ≤ _; omega, set_ents h.ents (getI_ents' h i)⟩
  · exact ⟨h.len, h.ents⟩
theorem writeP_sm (h : SmF f) (hl : f.inodes.length ≤ 1000000) : (writeP f base p d).1.inodes.length ≤ 1073741824 ∧ ∀ x ∈ (writeP f base p d).1.inodes, x.entries.length ≤ 1073741824 := by
  unfold writeP
  split
  · exact dsetP_sm h hl
  · exact ⟨h.len, h.ents⟩
theorem DataReads_true {fol : Bool} (hi : InF f) : law13_DataReads f base p fol = some true := by
  unfold law13_DataReads
  rw [awake13]
  simp only [ocase_some', Bool.not_true, bcase_false]
  obtain ⟨b, hb, hb2⟩ := fits13 (base := base) (p := p) (d := []) hi
  rw [hb, ocase_some']
  cases b
  · rfl
  obtain ⟨e, h1, h2, _⟩ := hb2 rfl
  rw [Bool.not_true, bcase_false, data_Stat_eq e.ws (by omega) (by omega), ocase_some', ref13_Stat_eq e.ws (by omega) (by omega), ocase_some', data_Read_eq e.ws (by omega) (by omega), ocase_some', ref13_Read_eq e.ws (by omega) (by omega), ocase_some', data_Readlink_eq e.ws (by omega) (by omega), ocase_some', ref13_Readlink_eq e.ws (by omega) (by omega), ocase_some', ref05_One_eq (statP_ents e.sm), ocase_some']
  simp
theorem DataWrites_true (hi : InF f) : law13_DataWrites f base p d = some true := by
  unfold law13_DataWrites
  rw [awake13]
  simp only [ocase_some', Bool.not_true, bcase_false]
  obtain ⟨b, hb, hb2⟩ := fits13 (base := base) (p := p) (d := d) hi
  rw [hb, ocase_some']
  cases b
  · rfl
  obtain ⟨e, h1, h2, h3⟩ := hb2 rfl
  have hl := e.len
  obtain ⟨s1, s2⟩ := writeP_sm (base := base) (p := p) (d := d) e.sm (by omega)
  rw [Bool.not_true, bcase_false, data_Write_eq e.ws (by omega) (by omega) (by omega), ocase_some', ref13_Write_eq e.ws (by omega) (by omega) (by omega), ocase_some', ref05_Same_eq s1 s2, ocase_some']
  simp
theorem DataSets_true {i : Int} (hi : InF f) : law13_DataSets f i d = some true := by
  unfold law13_DataSets
  rw [awake13]
  simp only [ocase_some', Bool.not_true, bcase_false]
  obtain ⟨b, hb, hb2⟩ := fits13 (base := [47]) (p := [47]) (d := d) hi
  rw [hb, ocase_some']
  cases b
  · rfl
  obtain ⟨e, h1, h2, h3⟩ := hb2 rfl
  have hl := e.len
  obtain ⟨s1, s2⟩ := dsetP_sm (d := d) (i := i) e.sm (by omega)
  rw [Bool.not_true, bcase_false, e.wf.rget, ocase_some']
  simp only
  cases (findI i f.inodes).isSome
  · rfl
  rw [Bool.not_true, bcase_false]
  by_cases hk : (getI i f.inodes).kind = 1
  · rw [bc_f (by simp [hk]), data_Set_eq e.wf (by omega), ocase_some', ref13_Set_eq e.wf (by omega), ocase_some', ref05_Same_eq s1 s2, ocase_some']
    simp
  · rw [bc_t (by simp [hk])]
theorem fs_eta (f : Fs) : (⟨f.maxInodes, f.maxBytes, f.next, f.inodes⟩ : Fs) = f := rfl
theorem DataKeeps_true (hi : InF f) : law13_DataKeeps f base p d = some true := by
  unfold law13_DataKeeps
  rw [awake13]
  simp only [ocase_some', Bool.not_true, bcase_false]
  obtain ⟨b, hb, hb2⟩ := fits13 (base := base) (p := p) (d := d) hi
  rw [hb, ocase_some']
  cases b
  · rfl
  obtain ⟨e, h1, h2, h3⟩ := hb2 rfl
  have hl := e.len
  obtain ⟨s1, s2⟩ := writeP_sm (base := base) (p := p) (d := d) e.sm (by omega)
  rw [Bool.not_true, bcase_false, lcase_le (by unfold LIM; simp; omega), List.nil_append, fs_eta, data_Write_eq e.ws (by omega) (by omega) (by omega), ocase_some', ref05_Same_eq e.sm.len e.sm.ents, ocase_some', ref13_Write_eq e.ws (by omega) (by omega) (by omega), ocase_some']
  rw [bc_f (by simp), bc_t (by simp), ref05_Same_eq s1 s2]
  simp
theorem seekP_plainT {ns : List Str} {t : Spotted} (hm : ∀ n ∈ ns, mayN n = true) (hg : goAt f.inodes ns rootS = (t, 0)) (hl : (joinP ns).length ≤ 4095) (h3 : (getI t.ino f.inodes).kind ≠ 3) : seekP f base (joinP ns) true = (t, 0) := by
  have hnm := fun x hx => mayN_nm (hm x hx)
  unfold seekP
  rw [if_neg (joinP_ne_nil ns), if_neg (by rw [longP_of (by rw [namesP_join hnm]; exact fun x hx => mayN_len (hm x hx)) hl]; simp), readP_join hnm]
  simp only [if_true]
  rw [onK_eq]
  have := stepIn_app (f := f) (fol := true) (dir := false) (lnk := lnkK f.inodes true 40) (rest := []) hm hg (fun _ _ => h3)
  rw [List.append_nil] at this
  rw [this]
  show endP f.inodes false t = (t, 0)
  unfold endP
  split <;> simp
theorem fileP_plain {ns : List Str} {t : Spotted} {x : Inode} (hm : ∀ n ∈ ns, mayN n = true) (hg : goAt f.inodes ns rootS = (t, 0)) (hl : (joinP ns).length ≤ 4095) (hx : findI t.ino f.inodes = some x) (hk : x.kind = 1) : fileP f base (joinP ns) = (x, 0) := by
  have hs : seekP f base (joinP ns) true = (t, 0) := seekP_plainT hm hg hl (by rw [getI_some hx, hk]; decide)
  have h1 : statP f base (joinP ns) true = (x, 0) := by
    unfold statP
    rw [hs]
    simp only [if_true]
    rw [hx]
  unfold fileP
  rw [h1]
  simp only [if_true]
  rw [if_neg (by rw [hk]; decide)]
theorem fileP_bad (h : (fileP f base p).2 ≠ 0) : (fileP f base p).1 = zeroI := by
  unfold fileP at h ⊢
  by_cases h1 : (statP f base p true).2 = 0
  · rw [if_pos h1] at h ⊢
    by_cases h2 : (statP f base p true).1.kind = 2
    · rw [if_pos h2]
    · rw [if_neg h2] at h; exact absurd rfl h
  · rw [if_neg h1]
theorem SimI.maps {l m : List Inode} (h : SimI l m) (k : Int) : (findI k m).map Inode.entries = (findI k l).map Inode.entries := by
  cases hf : findI k l with
  | none => rw [h.none hf]
  | some x => obtain ⟨y, hy, _, _, _, h4, _⟩ := h.some hf; rw [hy]; simp [h4]
structure Wr (f : Fs) (x : Inode) (d : Str) (g : Fs) : Prop where
  tr : Tree g
  sm : SmF g
  ws : WS g
  lil : Lil g
  len : g.inodes.length = f.inodes.length
  sim : SimI f.inodes g.inodes
  find : ∀ k, findI k g.inodes = if x.ino = k then some (x.withD d) else findI k f.inodes
theorem wr_of (e : Ev f) {x : Inode} (hx : findI x.ino f.inodes = some x) (hk : x.kind = 1) (hd : d.length ≤ 5000) (hfit : fitsI f 0 ((d.length : Int) - (x.data.length : Int)) = true) : Wr f x d (f.set (x.withD d)) := by
  have hl := e.len
  have hf := e.few x (findI_some hx).1
  have ht := e.tr.setData hx hk hfit
  have hm : SmF (f.set (x.withD d)) := set_sm e.sm e.tr.sort (by omega) (by show d.length ≤ _; omega) (by show x.entries.length ≤ _; omega) (fun y hy => by have := hf.2.2 y hy; omega)
  have hlen : (f.set (x.withD d)).inodes.length = f.inodes.length := by
    have := setI_len (x := x.withD d) e.tr.sort
    rw [show (x.withD d).ino = x.ino from rfl, hx] at this
    exact this
  refine ⟨ht, hm, ht.ws (ht.wf hm), ⟨by omega, fun y hy => ?_⟩, hlen, sim_data hx hk, fun k => findI_set⟩
  rcases mem_setI.1 hy with rfl | ⟨hy, _⟩
  · show x.entries.length ≤ _; omega
  · have := (e.few y hy).2.1; omega
theorem DataBack_true (hi : InF f) : law13_DataBack f base p d = some true := by
  unfold law13_DataBack
  rw [awake13]
  simp only [ocase_some', Bool.not_true, bcase_false]
  obtain ⟨b, hb, hb2⟩ := fits13 (base := base) (p := p) (d := d) hi
  rw [hb, ocase_some']
  cases b
  · rfl
  obtain ⟨e, h1, h2, h3⟩ := hb2 rfl
  have hl := e.len
  rw [Bool.not_true, bcase_false, data_Read_eq e.ws (by omega) (by omega), ocase_some']
  simp only
  rw [bneI]
  by_cases h0 : (fileP f base p).2 = 0
  · rw [bc_f (by simp [h0]), data_Write_eq e.ws (by omega) (by omega) (by omega), ocase_some', ref13_Stat_eq e.ws (by omega) (by omega), ocase_some']
    obtain ⟨x, q1, q2, q3, q4, q5, q6⟩ := fileP_kind e.ws e.tr.kind h0
    have hw : writeP f base p d = dsetP f x.ino d := by unfold writeP; rw [q1, if_pos rfl]
    rw [hw, q1, q4]
    simp only
    unfold dsetP
    rw [getI_some q2]
    cases hfit : fitsI f 0 ((d.length : Int) - (x.data.length : Int))
    · simp only [Bool.false_eq_true, if_false]
      rw [bc_t (by simp), bc_t (by simp), ref05_Same_eq e.sm.len e.sm.ents]
      simp
    · simp only [if_true]
      have w := wr_of (d := d) e q2 q3 h3 hfit
      generalize hg : f.set (x.withD d) = g at w
      have hlist : listP g = listP f := by
        unfold listP
        rw [w.len]
        exact (below_congr _ _ _ fun j n _ => w.sim.maps j).symm
      have hll := listP_len e.tr e.lil
      have hfg : fitsI g 0 ((x.data.length : Int) - (d.length : Int)) = true := by
        have hb := bytes_setI (x := x.withD d) e.tr.sort
        rw [show (x.withD d).ino = x.ino from rfl, q2] at hb
        have e1 : byt x = x.data.length := by unfold byt; rw [if_pos q3]
        have e2 : byt (x.withD d) = d.length := by unfold byt; rw [if_pos (show (x.withD d).kind = 1 from q3)]; rfl
        simp only [fval, e1, e2] at hb
        have hff := e.tr.fits
        have hgl := w.len
        rw [← hg] at hgl ⊢
        unfold fitsI at hff ⊢
        simp only [Bool.and_eq_true, decide_eq_true_eq] at hff ⊢
        have hgl' : (setI (x.withD d) f.inodes).length = f.inodes.length := hgl
        show ((setI (x.withD d) f.inodes).length : Int) + 0 ≤ f.maxInodes ∧ bytesOf (setI (x.withD d) f.inodes) + _ ≤ f.maxBytes
        omega
      have hback : writeP g base p x.data = (f, 0) := by
        have hs : seekP g base p true = seekP f base p true := (seekP_sim w.sim base p true).symm
        have hst : statP g base p true = (x.withD d, 0) := by
          unfold statP
          rw [hs, if_pos q5, q6, w.find, if_pos rfl]
        have hfi : fileP g base p = (x.withD d, 0) := by
          unfold fileP
          rw [hst, if_pos rfl, if_neg (by show x.kind ≠ 2; rw [q3]; decide)]
        unfold writeP
        rw [hfi, if_pos rfl]
        show dsetP g x.ino x.data = _
        unfold dsetP
        have hgx : findI x.ino g.inodes = some (x.withD d) := by rw [w.find, if_pos rfl]
        rw [getI_some hgx, if_pos (by exact hfg), ← hg, set_set (show (x.withD d).ino = ((x.withD d).withD x.data).ino from rfl) e.tr.sort]
        have hxx : (x.withD d).withD x.data = x := rfl
        rw [hxx, set_same e.tr.sort q2]
      rw [bc_f (by simp), ref08_List_eq e.tr e.lil, ocase_some', ref08_List_eq w.tr w.lil, ocase_some', hlist, ref08_Same_eq (by omega), ocase_some', decide_eq_true rfl, Bool.not_true, bcase_false, ref07_Check_eq w.sm ?_, ocase_some', w.tr.check, bc_f (by simp)]
      · refine loop_post (l := listP f) (fun n i (_ : Unit) => law13_DataBack_L14 d (listP f) f g x (some false) (ocase (data_Write g base p x.data) fun y36 => bcase (y36.2 == (0 : Int)) (ocase (ref05_Same y36.1 f) fun y37 => some y37) (some false)) n i) (fun _ _ => True) (fun r => r = some true) (by omega) (fun n k s u hk hx _ hr => ?_) (fun n u _ => ?_) () trivial
        · have hr := hr () trivial
          obtain ⟨ns, z, t, ha, _, _⟩ := list_at e.tr hx
          simp only [law13_DataBack_L14]
          rw [dec_lt hk, dec_nn, toNat_cast, hx, wrap_succ (by omega)]
          simp only [bcase_true, ocase_some']
          by_cases hp : s.path.length > 4095
          · rw [bc_t (by simp; omega)]; exact hr
          · rw [bc_f (by simp; omega), e.wf.rget, ocase_some', data_Read_eq w.ws (by simp) (by omega), ocase_some']
            have hgz : getI s.ino f.inodes = z := getI_some ha.there
            have hgo : goAt g.inodes ns rootS = (t, 0) := by rw [← goAt_sim w.sim]; exact ha.go
            have hpl : (joinP ns).length ≤ 4095 := by rw [← ha.path]; omega
            simp only
            rw [hgz]
            by_cases hsx : s.ino = x.ino
            · have hfp : fileP g [47] s.path = (x.withD d, 0) := by
                rw [ha.path]
                exact fileP_plain ha.may hgo hpl (by rw [ha.ino, hsx, w.find, if_pos rfl]) q3
              rw [hfp, bc_t (by simp [hsx]), bc_f (by simp [Inode.withD]), bc_f (by simp), bc_f (by simp [hsx])]
              exact hr
            · rw [bc_f (by simp [hsx]), bc_t (by simp [hsx])]
              by_cases hz : z.kind = 1
              · have hfp : fileP g [47] s.path = (z, 0) := by
                  rw [ha.path]
                  exact fileP_plain ha.may hgo hpl (by rw [ha.ino, w.find, if_neg (fun h => hsx h.symm)]; exact ha.there) hz
                rw [hfp, bc_t (by simp [hz]), bc_f (by simp)]
                exact hr
              · rw [bc_f (by simp [hz])]
                exact hr
        · simp only [law13_DataBack_L14]
          have hxd : x.data.length ≤ 5000 := (e.few x (findI_some q2).1).1
          rw [dec_ge (Nat.le_refl _), bcase_false, data_Write_eq w.ws (by omega) (by omega) (by omega), ocase_some', hback, bc_t (by simp), ref05_Same_eq e.sm.len e.sm.ents]
          simp
      · have := allInos_le (N := 10000) w.lil.ents
        have := w.lil.len
        have : g.inodes.length * 10000 ≤ 10000 * 10000 := Nat.mul_le_mul_right _ this
        omega
  · rw [bc_t (by simp [h0]), fileP_bad h0]; rfl
end
end Go.Eng
namespace Go.Eng
open Go
theorem inF_in {a b c : Int} {l : List Inode} (h : HL.ok 1048576 [.int .i64, .int .i64, .int .i64, .sl .inode] (a, b, c, l, ())) : InF ⟨a, b, c, l⟩ := by
  obtain ⟨_, _, _, ⟨h1, h2⟩, _⟩ := h
  have h3 : l.length ≤ 1048576 := h1
  exact ⟨by show l.length ≤ 1073741824; omega, fun x hx => by have : x.ok 1048576 := h2 x hx; have := this.2.2.2.2.2.1; omega⟩
theorem fs_in {v : HL.V [.int .i64, .int .i64, .int .i64, .sl .inode]} (h : HL.ok 1048576 [.int .i64, .int .i64, .int .i64, .sl .inode] v) : InF ⟨v.1, v.2.1, v.2.2.1, v.2.2.2.1⟩ := by
  obtain ⟨a, b, c, l, u⟩ := v
  exact inF_in h
end Go.Eng
