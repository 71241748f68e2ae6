/- A part of the proofs of the laws of this seat: the engine that reads the program's code, plain functions, or facts of the program's functions. Conditions: none. -/
import Derived.Test.YtopfnnikfjbofaaGreatDoorP2
import Derived.Test.YtopfnnikfjbofaaGreatDoorP1
import Derived.Test.YtopfnnikfjbofaaGreatDoorE5
set_option linter.unusedSectionVars false
set_option linter.unusedVariables false
set_option linter.unusedSimpArgs false
set_option linter.unnecessarySimpa false
set_option linter.unusedSimpArgs false
set_option linter.unusedVariables false
set_option linter.unusedSectionVars false
namespace Go.Eng
open Go
def msum {α : Type} (μ : α → Int) (l : List α) : Int := (l.map μ).sum
section
variable {α : Type} {μ : α → Int}
theorem msum_nil (μ : α → Int) : msum μ [] = 0 := rfl
theorem msum_cons (μ : α → Int) (x : α) (l : List α) : msum μ (x :: l) = μ x + msum μ l := by simp [msum]
theorem msum_nn (h : ∀ x, 0 ≤ μ x) : ∀ l : List α, 0 ≤ msum μ l
  | [] => by simp [msum]
  | x :: l => by rw [msum_cons]; have := h x; have := msum_nn h l; omega
theorem msum_le1 (h : ∀ x, 0 ≤ μ x) {x : α} : ∀ {l : List α}, x ∈ l → μ x ≤ msum μ l
  | y :: l, hx => by
    rw [msum_cons]
    have h1 := h y
    have h2 := msum_nn h l
    simp only [List.mem_cons] at hx
    rcases hx with rfl | hx
    · omega
    · have := msum_le1 h hx; omega
theorem msum_le2 (h : ∀ x, 0 ≤ μ x) {x y : α} (hne : x ≠ y) : ∀ {l : List α}, x ∈ l → y ∈ l → μ x + μ y ≤ msum μ l
  | z :: l, hx, hy => by
    rw [msum_cons]
    have h1 := h z
    simp only [List.mem_cons] at hx hy
    rcases hx with rfl | hx
    · rcases hy with rfl | hy
      · exact absurd rfl hne
      · have := msum_le1 h hy; omega
    · rcases hy with rfl | hy
      · have := msum_le1 h hx; omega
      · have := msum_le2 h hne hx hy; omega
theorem msum_pos (h : ∀ x, 0 ≤ μ x) : ∀ {l : List α}, 0 < msum μ l → ∃ x ∈ l, 0 < μ x
  | [], hp => by simp [msum] at hp
  | z :: l, hp => by
    rw [msum_cons] at hp
    by_cases hz : 0 < μ z
    · exact ⟨z, by simp, hz⟩
    · obtain ⟨x, hx, h2⟩ := msum_pos h (l := l) (by omega)
      exact ⟨x, by simp [hx], h2⟩
theorem msum_one (l : List α) : msum (fun _ => 1) l = (l.length : Int) := by
  induction l with
  | nil => rfl
  | cons x l ih => rw [msum_cons, ih, List.length_cons]; omega
theorem msum_congr {ν : α → Int} {l : List α} (h : ∀ x ∈ l, μ x = ν x) : msum μ l = msum ν l := by
  unfold msum; rw [List.map_congr_left h]
end
section
variable {α κ : Type} [DecidableEq κ] {lt : κ → κ → Bool} {key : α → κ}
end
def one (n : Int) (e : Entry) : Int := if e.ino = n then 1 else 0
def ec (n : Int) (l : List Entry) : Int := msum (one n) l
def fc (n : Int) (l : List Inode) : Int := msum (fun x => ec n x.entries) l
theorem one_nn (n : Int) (e : Entry) : 0 ≤ one n e := by unfold one; split <;> omega
theorem ec_nn (n : Int) (l : List Entry) : 0 ≤ ec n l := msum_nn (one_nn n) l
theorem fc_nn (n : Int) (l : List Inode) : 0 ≤ fc n l := msum_nn (μ := fun x : Inode => ec n x.entries) (fun x => ec_nn n x.entries) l
theorem ec_mem {n : Int} {l : List Entry} {e : Entry} (h : e ∈ l) (he : e.ino = n) : 1 ≤ ec n l := by
  have := msum_le1 (one_nn n) h
  unfold one at this; rw [if_pos he] at this; exact this
theorem ec_pos {n : Int} {l : List Entry} (h : 0 < ec n l) : ∃ e ∈ l, e.ino = n := by
  obtain ⟨e, he, h2⟩ := msum_pos (one_nn n) h
  refine ⟨e, he, ?_⟩
  unfold one at h2
  split at h2
  · assumption
  · omega
theorem fc_mem {n : Int} {l : List Inode} {x : Inode} {e : Entry} (hx : x ∈ l) (h : e ∈ x.entries) (he : e.ino = n) : 1 ≤ fc n l := by
  have h1 := msum_le1 (μ := fun x : Inode => ec n x.entries) (fun x => ec_nn n x.entries) hx
  have h2 := ec_mem h he
  unfold fc; omega
theorem fc_uniq {n : Int} {l : List Inode} (h : fc n l ≤ 1) {x y : Inode} {e e' : Entry} (hx : x ∈ l) (he : e ∈ x.entries) (hn : e.ino = n) (hy : y ∈ l) (he' : e' ∈ y.entries) (hn' : e'.ino = n) : x = y ∧ e = e' := by
  have hxy : x = y := by
    rcases Classical.em (x = y) with h' | h'
    · exact h'
    · have h1 := msum_le2 (μ := fun x : Inode => ec n x.entries) (fun x => ec_nn n x.entries) h' hx hy
      have h2 := ec_mem he hn
      have h3 := ec_mem he' hn'
      unfold fc at h; omega
  subst hxy
  refine ⟨rfl, ?_⟩
  rcases Classical.em (e = e') with h' | h'
  · exact h'
  · have h1 := msum_le2 (one_nn n) h' he he'
    unfold one at h1
    rw [if_pos hn, if_pos hn'] at h1
    have h2 := msum_le1 (μ := fun x : Inode => ec n x.entries) (fun x => ec_nn n x.entries) hx
    unfold fc at h
    unfold ec at h h2
    unfold one at h h2
    omega
theorem ec_cntN (n : Int) (l : List Entry) : ec n l = (cntN n l : Int) := by
  induction l with
  | nil => rfl
  | cons e l ih =>
    unfold ec at ih ⊢
    rw [msum_cons, ih, cntN_cons]
    unfold one
    split <;> omega
theorem namesN_fc (n : Int) : ∀ (l : List Inode) (s : Nat × Int), ((namesN n l s).1 : Int) = s.1 + fc n l
  | [], s => by simp [namesN, fc, msum]
  | x :: l, s => by
    simp only [namesN]
    rw [namesN_fc n l]
    unfold fc
    rw [msum_cons, ec_cntN]
    simp only
    omega
theorem namesF_fc (f : Fs) (n : Int) : ((namesF f n).1 : Int) = fc n f.inodes := by
  unfold namesF; rw [namesN_fc]; simp
theorem namesN_in (n : Int) : ∀ (l : List Inode) (s : Nat × Int) (k : Int), (∀ x ∈ l, ∀ e ∈ x.entries, e.ino = n → x.ino = k) → (namesN n l s).2 = if fc n l = 0 then s.2 else k
  | [], s, k, _ => by simp [namesN, fc, msum]
  | x :: l, s, k, h => by
    simp only [namesN]
    rw [namesN_in n l _ k (fun y hy => h y (by simp [hy]))]
    have h1 := ec_nn n x.entries
    have h2 := fc_nn n l
    have h3 : fc n (x :: l) = ec n x.entries + fc n l := by unfold fc; rw [msum_cons]
    rw [h3]
    by_cases h0 : cntN n x.entries = 0
    · have : ec n x.entries = 0 := by rw [ec_cntN, h0]; rfl
      simp only [h0, if_true, this, Int.zero_add]
    · have h4 : 0 < ec n x.entries := by rw [ec_cntN]; omega
      obtain ⟨e, he, hn⟩ := ec_pos h4
      have h5 := h x (by simp) e he hn
      have h6 : ¬ ec n x.entries + fc n l = 0 := by omega
      simp only [h0, if_false, h6, h5]
      split <;> rfl
theorem findI_mem {l : List Inode} {x : Inode} (hs : SortI l) (hx : x ∈ l) : findI x.ino l = some x := findK_mem loI hs hx
theorem findI_mem' {l : List Inode} {x : Inode} {k : Int} (hs : SortI l) (hx : x ∈ l) (hk : x.ino = k) : findI k l = some x := hk ▸ findK_mem loI hs hx
theorem findI_some {l : List Inode} {k : Int} {x : Inode} (h : findI k l = some x) : x ∈ l ∧ x.ino = k := findK_some h
inductive Reach (l : List Inode) : Int → Prop where
  | root : Reach l 1
  | step {k : Int} {x : Inode} {e : Entry} : Reach l k → findI k l = some x → e ∈ x.entries → Reach l e.ino
theorem getI_some {k : Int} {l : List Inode} {x : Inode} (h : findI k l = some x) : getI k l = x := by unfold getI; rw [h]; rfl
theorem getI_none {k : Int} {l : List Inode} (h : findI k l = none) : getI k l = zeroI := by unfold getI; rw [h]; rfl
theorem Reach.get {l : List Inode} {k : Int} {e : Entry} (h : Reach l k) (he : e ∈ (getI k l).entries) : Reach l e.ino := by
  cases hf : findI k l with
  | none => rw [getI_none hf] at he; simp [zeroI] at he
  | some x => rw [getI_some hf] at he; exact .step h hf he
theorem foldl_visit_mem : ∀ (es : List Entry) (s : List Int) (n : Int), n ∈ es.foldl visit s ↔ n ∈ s ∨ ∃ e ∈ es, e.ino = n
  | [], s, n => by simp
  | e :: es, s, n => by
    simp only [List.foldl_cons]
    rw [foldl_visit_mem es (visit s e) n]
    have : n ∈ visit s e ↔ n ∈ s ∨ e.ino = n := by
      unfold visit
      split
      · rename_i h
        constructor
        · exact Or.inl
        · rintro (h' | rfl)
          · exact h'
          · exact h
      · simp [eq_comm]
    rw [this]
    simp only [List.mem_cons]
    constructor
    · rintro ((h | h) | ⟨e', h1, h2⟩)
      · exact Or.inl h
      · exact Or.inr ⟨e, Or.inl rfl, h⟩
      · exact Or.inr ⟨e', Or.inr h1, h2⟩
    · rintro (h | ⟨e', rfl | h1, h2⟩)
      · exact Or.inl (Or.inl h)
      · exact Or.inl (Or.inr h2)
      · exact Or.inr ⟨e', h1, h2⟩
theorem rounds_reach (l : List Inode) : ∀ (n i : Nat) (s : List Int), (∀ k ∈ s, Reach l k) → ∀ k ∈ roundsL l n i s, Reach l k
  | 0, _, s, h => h
  | n + 1, i, s, h => by
    simp only [roundsL]
    cases hi : s[i]? with
    | none => exact h
    | some k =>
      refine rounds_reach l n (i + 1) _ fun m hm => ?_
      unfold visits at hm
      rw [foldl_visit_mem] at hm
      rcases hm with hm | ⟨e, he, rfl⟩
      · exact h m hm
      · exact (h k (List.mem_of_getElem? hi)).get he
theorem rounds_closed (l : List Inode) : ∀ (n i : Nat) (s : List Int), VisOK l s → (allInos l).length + 1 - i ≤ n → i ≤ s.length → (∀ j k, j < i → s[j]? = some k → ∀ e ∈ (getI k l).entries, e.ino ∈ s) →
    (∀ k ∈ s, k ∈ roundsL l n i s) ∧ ∀ k ∈ roundsL l n i s, ∀ e ∈ (getI k l).entries, e.ino ∈ roundsL l n i s
  | 0, i, s, hv, hn, hi, h => by
    have := hv.len
    omega
  | n + 1, i, s, hv, hn, hi, h => by
    simp only [roundsL]
    cases hk : s[i]? with
    | none =>
      refine ⟨fun k hk => hk, fun k hk2 e he => ?_⟩
      obtain ⟨j, hj⟩ := List.mem_iff_getElem?.1 hk2
      have h1 : j < s.length := (List.getElem?_eq_some_iff.1 hj).1
      have h2 : s.length ≤ i := List.getElem?_eq_none_iff.1 hk
      exact h j k (by omega) hj e he
    | some k =>
      have hlt : i < s.length := (List.getElem?_eq_some_iff.1 hk).1
      obtain ⟨t, ht⟩ := foldl_visit_pre (getI k l).entries s
      have h3 := rounds_closed l n (i + 1) (visits (getI k l) s) (visits_ok hv) (by omega) (by unfold visits; rw [ht]; simp; omega) (by
        intro j m hj hm e he
        unfold visits at hm ⊢
        rw [foldl_visit_mem]
        rw [ht, List.getElem?_append_left (by omega)] at hm
        by_cases hji : j = i
        · subst hji
          rw [hk] at hm
          cases hm
          exact Or.inr ⟨e, he, rfl⟩
        · exact Or.inl (h j m (by omega) hm e he))
      refine ⟨fun m hm => h3.1 m ?_, h3.2⟩
      unfold visits
      rw [ht]; simp [hm]
theorem mem_ledL {l : List Inode} {n : Int} : n ∈ ledL l ↔ Reach l n := by
  unfold ledL
  constructor
  · exact rounds_reach l _ _ _ (fun k hk => by simp at hk; subst hk; exact .root) n
  · intro h
    have hc := rounds_closed l ((allInos l).length + 1) 0 [1] (visOK1 l) (by omega) (by simp) (fun j k hj => by omega)
    induction h with
    | root => exact hc.1 1 (by simp)
    | step h hf he ih => exact hc.2 _ ih _ (by rw [getI_some hf]; exact he)
theorem rounds_nodup (l : List Inode) : ∀ (n i : Nat) (s : List Int), VisOK l s → (roundsL l n i s).Nodup
  | 0, _, s, h => h.nodup
  | n + 1, i, s, h => by
    simp only [roundsL]
    cases hi : s[i]? with
    | none => exact h.nodup
    | some k => exact rounds_nodup l n (i + 1) _ (visits_ok h)
theorem ledL_nodup (l : List Inode) : (ledL l).Nodup := rounds_nodup l _ _ _ (visOK1 l)
theorem sort_nodup {l : List Inode} (h : SortI l) : (l.map Inode.ino).Nodup := by
  unfold List.Nodup
  rw [List.pairwise_map]
  unfold SortI SortK at h
  exact h.imp fun {a b} hab e => by simp only [ltI, decide_eq_true_eq] at hab; omega
theorem nodup_full {a b : List Int} (ha : a.Nodup) (hs : ∀ x ∈ a, x ∈ b) (hl : b.length ≤ a.length) : ∀ x ∈ b, x ∈ a := by
  intro x hx
  rcases Classical.em (x ∈ a) with h | h
  · exact h
  · have := nodup_len (m := b.erase x) ha (fun y hy => (List.mem_erase_of_ne (by intro e; subst e; exact h hy)).2 (hs y hy))
    rw [List.length_erase_of_mem hx] at this
    have := List.length_pos_of_mem hx
    omega
structure Tree (f : Fs) : Prop where
  maxI : 1 ≤ f.maxInodes ∧ f.maxInodes ≤ 1073741824
  maxB : 0 ≤ f.maxBytes ∧ f.maxBytes ≤ 1073741824
  next : f.next ≤ 1099511627776
  ino : ∀ x ∈ f.inodes, 1 ≤ x.ino ∧ x.ino < f.next
  sort : SortI f.inodes
  root : ∃ r, findI 1 f.inodes = some r ∧ r.kind = 2 ∧ r.parent = 1
  kind : ∀ x ∈ f.inodes, kindB x = true
  there : ∀ x ∈ f.inodes, ∀ e ∈ x.entries, ∃ y, findI e.ino f.inodes = some y
  links : ∀ x ∈ f.inodes, x.links = fc x.ino f.inodes
  rootn : fc 1 f.inodes = 0
  dirs : ∀ x ∈ f.inodes, x.kind = 2 → fc x.ino f.inodes ≤ 1
  par : ∀ x ∈ f.inodes, x.kind = 2 → ∀ d ∈ f.inodes, ∀ e ∈ d.entries, e.ino = x.ino → x.parent = d.ino
  led : ∀ x ∈ f.inodes, Reach f.inodes x.ino
  fits : fitsI f 0 0 = true
theorem Reach.there {f : Fs} (ht : ∀ x ∈ f.inodes, ∀ e ∈ x.entries, ∃ y, findI e.ino f.inodes = some y) (hr : ∃ r, findI 1 f.inodes = some r) {k : Int} (h : Reach f.inodes k) : ∃ y, findI k f.inodes = some y := by
  cases h with
  | root => exact hr
  | step h hf he => exact ht _ (findK_some hf).1 _ he
theorem Reach.named {l : List Inode} {k : Int} (h : Reach l k) (h1 : k ≠ 1) : ∃ x ∈ l, ∃ e ∈ x.entries, e.ino = k := by
  cases h with
  | root => exact absurd rfl h1
  | step h hf he => exact ⟨_, (findK_some hf).1, _, he, rfl⟩
theorem led_iff {f : Fs} (hs : SortI f.inodes) (ht : ∀ x ∈ f.inodes, ∀ e ∈ x.entries, ∃ y, findI e.ino f.inodes = some y) (hr : ∃ r, findI 1 f.inodes = some r) : (ledL f.inodes).length = f.inodes.length ↔ ∀ x ∈ f.inodes, Reach f.inodes x.ino := by
  have hsub : ∀ k ∈ ledL f.inodes, k ∈ f.inodes.map Inode.ino := fun k hk => by
    obtain ⟨y, hy⟩ := Reach.there ht hr (mem_ledL.1 hk)
    obtain ⟨h1, h2⟩ := findK_some hy
    exact List.mem_map.2 ⟨y, h1, h2⟩
  constructor
  · intro h x hx
    exact mem_ledL.1 (nodup_full (ledL_nodup _) hsub (by rw [List.length_map]; omega) x.ino (List.mem_map.2 ⟨x, hx, rfl⟩))
  · intro h
    have h1 := nodup_len (ledL_nodup f.inodes) hsub
    have h2 := nodup_len (m := ledL f.inodes) (sort_nodup hs) (fun k hk => by
      obtain ⟨x, hx, rfl⟩ := List.mem_map.1 hk
      exact mem_ledL.2 (h x hx))
    rw [List.length_map] at h1 h2
    omega
theorem tr_iff (f : Fs) : Sound f ↔ Tree f := by
  constructor
  · intro h
    obtain ⟨r, hr, hk⟩ := h.root
    have hrm := findK_some hr
    have hlink : ∀ x ∈ f.inodes, x.links = fc x.ino f.inodes ∧ (x.ino = 1 → fc 1 f.inodes = 0 ∧ x.parent = 1) ∧ (x.ino ≠ 1 → x.kind = 2 → fc x.ino f.inodes = 1 ∧ x.parent = (namesF f x.ino).2) := by
      intro x hx
      have hl := h.link x hx
      unfold linkB at hl
      simp only [Bool.and_eq_true, decide_eq_true_eq] at hl
      obtain ⟨h1, h2⟩ := hl
      have h3 := namesF_fc f x.ino
      refine ⟨by omega, fun e => ?_, fun e e2 => ?_⟩
      · rw [if_pos e] at h2
        simp only [Bool.and_eq_true, decide_eq_true_eq] at h2
        rw [e] at h3 h2
        exact ⟨by omega, h2.2⟩
      · rw [if_neg e] at h2
        simp only [Bool.and_eq_true, decide_eq_true_eq, e2, if_true] at h2
        exact ⟨by omega, h2.2.2⟩
    have hrl := hlink r hrm.1
    have hr1 : r.ino = 1 := hrm.2
    have hr0 := hrl.2.1 hr1
    refine ⟨h.maxI, h.maxB, h.next, h.ino, h.sort, ⟨r, hr, hk, hr0.2⟩, h.kind, h.there, fun x hx => (hlink x hx).1, hr0.1, fun x hx hk2 => ?_, fun x hx hk2 d hd e he hn => ?_, (led_iff h.sort h.there ⟨r, hr⟩).1 h.led, h.fits⟩
    · by_cases h1 : x.ino = 1
      · rw [h1, hr0.1]; omega
      · rw [((hlink x hx).2.2 h1 hk2).1]; omega
    · by_cases h1 : x.ino = 1
      · have := fc_mem hd he hn
        rw [h1, hr0.1] at this; omega
      · obtain ⟨h2, h3⟩ := (hlink x hx).2.2 h1 hk2
        rw [h3]
        unfold namesF
        rw [namesN_in x.ino f.inodes (0, 0) d.ino (fun y hy e' he' hn' => by rw [(fc_uniq (by omega) hy he' hn' hd he hn).1]), if_neg (by omega)]
  · intro h
    obtain ⟨r, hr, hk, hp⟩ := h.root
    refine ⟨h.maxI, h.maxB, h.next, h.ino, h.sort, ⟨r, hr, hk⟩, h.kind, h.there, fun x hx => ?_, (led_iff h.sort h.there ⟨r, hr⟩).2 h.led, h.fits⟩
    have h3 := namesF_fc f x.ino
    have h4 := h.links x hx
    unfold linkB
    simp only [Bool.and_eq_true, decide_eq_true_eq]
    refine ⟨by omega, ?_⟩
    by_cases h1 : x.ino = 1
    · have h5 := h.rootn
      have : x = r := by
        have := findI_mem h.sort hx
        rw [h1, hr] at this
        exact (Option.some.inj this).symm
      rw [if_pos h1]
      simp only [Bool.and_eq_true, decide_eq_true_eq]
      rw [h1] at h3 ⊢
      exact ⟨by omega, by rw [this]; exact hp⟩
    · rw [if_neg h1]
      obtain ⟨d, hd, e, he, hn⟩ := (h.led x hx).named h1
      have h5 := fc_mem hd he hn
      simp only [Bool.and_eq_true, decide_eq_true_eq]
      refine ⟨by omega, ?_⟩
      by_cases hk2 : x.kind = 2
      · rw [if_pos hk2]
        simp only [Bool.and_eq_true, decide_eq_true_eq]
        have h6 := h.dirs x hx hk2
        refine ⟨by omega, ?_⟩
        unfold namesF
        rw [namesN_in x.ino f.inodes (0, 0) d.ino (fun y hy e' he' hn' => by rw [(fc_uniq h6 hy he' hn' hd he hn).1]), if_neg (by omega)]
        exact h.par x hx hk2 d hd e he hn
      · rw [if_neg hk2]
end Go.Eng
set_option linter.unusedSimpArgs false
set_option linter.unusedVariables false
set_option linter.unusedSectionVars false
namespace Go.Eng
open Go
inductive Way (l : List Inode) (i : Int) : Int → Nat → Prop where
  | here : Way l i i 0
  | step {k : Int} {n : Nat} {x : Inode} {e : Entry} : Way l i k n → findI k l = some x → e ∈ x.entries → Way l i e.ino (n + 1)
theorem Reach.way {l : List Inode} {k : Int} (h : Reach l k) : ∃ n, Way l 1 k n := by
  induction h with
  | root => exact ⟨0, .here⟩
  | step _ hf he ih => obtain ⟨n, hn⟩ := ih; exact ⟨n + 1, .step hn hf he⟩
theorem Way.trans {l : List Inode} {i j k : Int} {n m : Nat} (h1 : Way l i j n) (h2 : Way l j k m) : Way l i k (n + m) := by
  induction h2 with
  | here => exact h1
  | step _ hf he ih => exact .step ih hf he
theorem Way.first {l : List Inode} {i k : Int} {n : Nat} {x : Inode} {e : Entry} (hf : findI i l = some x) (he : e ∈ x.entries) (h : Way l e.ino k n) : Way l i k (n + 1) := by
  have := Way.trans (.step .here hf he) h
  rwa [Nat.add_comm] at this
theorem Way.head {l : List Inode} {i k : Int} {n : Nat} (h : Way l i k n) : (n = 0 ∧ k = i) ∨ ∃ m x e, n = m + 1 ∧ findI i l = some x ∧ e ∈ x.entries ∧ Way l e.ino k m := by
  induction h with
  | here => exact Or.inl ⟨rfl, rfl⟩
  | step h hf he ih =>
    rcases ih with ⟨rfl, rfl⟩ | ⟨m, y, e', rfl, h1, h2, h3⟩
    · exact Or.inr ⟨0, _, _, rfl, hf, he, .here⟩
    · exact Or.inr ⟨m + 1, y, e', rfl, h1, h2, .step h3 hf he⟩
section
variable {f : Fs}
theorem kind_ents {x : Inode} (h : kindB x = true) {e : Entry} (he : e ∈ x.entries) : x.kind = 2 := by
  unfold kindB at h
  simp only [Bool.or_eq_true, Bool.and_eq_true, decide_eq_true_eq] at h
  rcases h with ⟨_, h, _⟩ | ⟨h, _⟩ | ⟨_, h, _⟩
  · have : x.entries = [] := by simpa using h
    rw [this] at he; cases he
  · exact h
  · have : x.entries = [] := by simpa using h
    rw [this] at he; cases he
theorem Tree.ents (h : Tree f) {k : Int} {x : Inode} {e : Entry} (hf : findI k f.inodes = some x) (he : e ∈ x.entries) : x.kind = 2 := kind_ents (h.kind x (findK_some hf).1) he
theorem Tree.up (h : Tree f) {k k' : Int} {x x' y : Inode} {e e' : Entry} (hf : findI k f.inodes = some x) (he : e ∈ x.entries) (hf' : findI k' f.inodes = some x') (he' : e' ∈ x'.entries) (hn : e.ino = e'.ino) (hy : findI e.ino f.inodes = some y) (hd : y.kind = 2) : k = k' ∧ x = x' ∧ e = e' := by
  obtain ⟨y1, y2⟩ := findK_some hy
  obtain ⟨x1, x2⟩ := findK_some hf
  obtain ⟨x1', x2'⟩ := findK_some hf'
  have h1 := fc_uniq (h.dirs y y1 hd) x1 he y2.symm x1' he' (hn ▸ y2.symm)
  refine ⟨?_, h1.1, h1.2⟩
  rw [← x2, ← x2', h1.1]
theorem Tree.no_up (h : Tree f) {k : Int} {x : Inode} {e : Entry} (hf : findI k f.inodes = some x) (he : e ∈ x.entries) : e.ino ≠ 1 := by
  intro h1
  have := fc_mem (findK_some hf).1 he h1
  rw [h.rootn] at this; omega
theorem Tree.deep (h : Tree f) {k : Int} {n : Nat} (hw : Way f.inodes 1 k n) : ∀ {m : Nat} {y : Inode}, findI k f.inodes = some y → y.kind = 2 → Way f.inodes 1 k m → n = m := by
  induction hw with
  | here =>
    intro m y _ _ hm
    generalize hk : (1 : Int) = k at hm
    cases hm with
    | here => rfl
    | step h1 hf he => exact absurd hk.symm (h.no_up hf he)
  | step hw hf he ih =>
    rename_i k' n' x e
    intro m y hy hd hm
    generalize hk : e.ino = k at hm
    cases hm with
    | here => exact absurd hk (h.no_up hf he)
    | step h1 hf' he' =>
      obtain ⟨rfl, rfl, rfl⟩ := h.up hf he hf' he' hk hy hd
      rw [ih hf (h.ents hf he) h1]
theorem Tree.one_way (h : Tree f) {i j : Int} {a : Nat} {x y : Inode} (hi : Way f.inodes 1 i a) (hx : findI i f.inodes = some x) (hy : findI j f.inodes = some y) (hd : y.kind = 2) :
    ∀ {n1 n2 : Nat} {e1 e2 : Entry}, e1 ∈ x.entries → e2 ∈ x.entries → Way f.inodes e1.ino j n1 → Way f.inodes e2.ino j n2 → e1 = e2 := by
  have key : ∀ (n : Nat) (j : Int) (y : Inode) (e1 e2 : Entry), findI j f.inodes = some y → y.kind = 2 → e1 ∈ x.entries → e2 ∈ x.entries → Way f.inodes e1.ino j n → Way f.inodes e2.ino j n → e1 = e2 := by
    intro n
    induction n with
    | zero =>
      intro j y e1 e2 hy hd h1 h2 w1 w2
      generalize hk : e1.ino = k1 at w1
      generalize hk2 : e2.ino = k2 at w2
      cases w1
      cases w2
      subst hk
      exact (h.up hx h1 hx h2 hk2.symm hy hd).2.2
    | succ n ih =>
      intro j y e1 e2 hy hd h1 h2 w1 w2
      cases w1 with
      | step w1 hf he =>
        rename_i k1 x1 e
        generalize hj : e.ino = j' at w2
        cases w2 with
        | step w2 hf' he' =>
          obtain ⟨rfl, rfl, rfl⟩ := h.up hf he hf' he' hj hy hd
          exact ih _ _ _ _ hf (h.ents hf he) h1 h2 w1 w2
  intro n1 n2 e1 e2 h1 h2 w1 w2
  have e := h.deep (hi.trans (w1.first hx h1)) hy hd (hi.trans (w2.first hx h2))
  have : n1 = n2 := by omega
  subst this
  exact key n1 j y e1 e2 hy hd h1 h2 w1 w2
theorem Tree.no_loop (h : Tree f) {i : Int} {a n : Nat} {x : Inode} {e : Entry} (hi : Way f.inodes 1 i a) (hx : findI i f.inodes = some x) (he : e ∈ x.entries) : ¬ Way f.inodes e.ino i n := fun w => by
  have := h.deep hi hx (h.ents hx he) (hi.trans (w.first hx he))
  omega
end
def underP (p n : Str) : Str := if p = [47] then p ++ n else (p ++ [47]) ++ n
def belowP (l : List Inode) : Nat → Int → Str → List Seen
  | 0, _, _ => []
  | m + 1, i, p => match findI i l with
    | none => []
    | some x => ⟨p, i⟩ :: x.entries.flatMap fun e => belowP l m e.ino (underP p e.name)
def listP (f : Fs) : List Seen := belowP f.inodes (f.inodes.length + 1) 1 [47]
def Ins1 {α : Type} (l m : List α) : Prop := ∃ a b s, l = a ++ b ∧ m = a ++ s :: b
theorem Ins1.len {α : Type} {l m : List α} (h : Ins1 l m) : m.length = l.length + 1 := by
  obtain ⟨a, b, s, rfl, rfl⟩ := h; simp; omega
theorem Ins1.sub {α : Type} {l m : List α} (h : Ins1 l m) : List.Sublist l m := by
  obtain ⟨a, b, s, rfl, rfl⟩ := h
  exact (List.Sublist.refl a).append (List.sublist_cons_self s b)
theorem msum_comm {α β : Type} (μ : α → β → Int) (l : List α) (m : List β) : msum (fun a => msum (μ a) m) l = msum (fun b => msum (fun a => μ a b) l) m := by
  induction l with
  | nil =>
    rw [msum_nil]
    induction m with
    | nil => rfl
    | cons b m ih => rw [msum_cons, ← ih]; rfl
  | cons a l ih =>
    rw [msum_cons, ih]
    clear ih
    induction m with
    | nil => rfl
    | cons b m ih => rw [msum_cons, msum_cons, msum_cons, ← ih, msum_cons]; omega
theorem msum_add {α : Type} (μ ν : α → Int) (l : List α) : msum (fun x => μ x + ν x) l = msum μ l + msum ν l := by
  induction l with
  | nil => rfl
  | cons x l ih => rw [msum_cons, msum_cons, msum_cons, ih]; omega
theorem msum_mono {α : Type} {μ ν : α → Int} {l : List α} (h : ∀ x ∈ l, μ x ≤ ν x) : msum μ l ≤ msum ν l := by
  induction l with
  | nil => exact Int.le_refl _
  | cons x l ih => rw [msum_cons, msum_cons]; have := ih (fun y hy => h y (by simp [hy])); have := h x (by simp); omega
theorem msum_zero {α : Type} : ∀ l : List α, msum (fun _ => 0) l = 0
  | [] => rfl
  | x :: l => by rw [msum_cons, msum_zero l]; rfl
theorem msum_once {α : Type} {μ : α → Int} {c : Int} (hc : 0 ≤ c) : ∀ {l : List α}, l.Nodup → (∀ x ∈ l, 0 ≤ μ x ∧ μ x ≤ c) → (∀ x ∈ l, ∀ y ∈ l, 0 < μ x → 0 < μ y → x = y) → msum μ l ≤ c
  | [], _, _, _ => hc
  | x :: l, hn, h1, h2 => by
    rw [msum_cons]
    rw [List.nodup_cons] at hn
    have hx := h1 x (by simp)
    by_cases hp : 0 < μ x
    · have : msum μ l = 0 := by
        rw [msum_congr (ν := fun _ => 0) fun y hy => by
          have hy1 := h1 y (by simp [hy])
          by_cases hy2 : 0 < μ y
          · have := h2 x (by simp) y (by simp [hy]) hp hy2
            subst this
            exact absurd hy hn.1
          · omega]
        exact msum_zero l
      omega
    · have := msum_once hc hn.2 (fun y hy => h1 y (by simp [hy])) (fun y hy z hz => h2 y (by simp [hy]) z (by simp [hz]))
      omega
open Classical in
noncomputable def subI (l : List Inode) (i : Int) (x : Inode) : Int := if ∃ n, Way l i x.ino n then (x.entries.length : Int) else 0
theorem subI_nn (l : List Inode) (i : Int) (x : Inode) : 0 ≤ subI l i x := by unfold subI; split <;> omega
theorem subI_le (l : List Inode) (i : Int) (x : Inode) : subI l i x ≤ x.entries.length := by unfold subI; split <;> omega
theorem flat_len {α β : Type} (g : α → List β) (l : List α) : ((l.flatMap g).length : Int) = msum (fun x => ((g x).length : Int)) l := by
  induction l with
  | nil => rfl
  | cons x l ih => rw [List.flatMap_cons, List.length_append, msum_cons, ← ih]; omega
theorem Tree.ent_nodup {f : Fs} (h : Tree f) {x : Inode} (hx : x ∈ f.inodes) : x.entries.Nodup := by
  have := ((rightE_iff _).1 (kind_right (h.kind x hx))).1
  unfold SortE SortK at this
  exact this.imp fun {a b} hab e => by subst e; rw [ltS_irrefl] at hab; cases hab
theorem below_len {f : Fs} (h : Tree f) : ∀ (m : Nat) (i : Int) (k : Nat) (p : Str), Way f.inodes 1 i k → ((belowP f.inodes m i p).length : Int) ≤ 1 + msum (subI f.inodes i) f.inodes
  | 0, i, k, p, hw => by
    have := msum_nn (subI_nn f.inodes i) f.inodes
    simp only [belowP, List.length_nil]; omega
  | m + 1, i, k, p, hw => by
    rw [belowP]
    cases hf : findI i f.inodes with
    | none =>
      have := msum_nn (subI_nn f.inodes i) f.inodes
      simp only [List.length_nil]; omega
    | some x =>
      obtain ⟨hx1, hx2⟩ := findK_some hf
      simp only [List.length_cons]
      have h1 := flat_len (fun e : Entry => belowP f.inodes m e.ino (underP p e.name)) x.entries
      have h2 : msum (fun e : Entry => ((belowP f.inodes m e.ino (underP p e.name)).length : Int)) x.entries ≤ msum (fun e : Entry => 1 + msum (subI f.inodes e.ino) f.inodes) x.entries :=
        msum_mono fun e he => below_len h m e.ino (k + 1) _ (.step hw hf he)
      rw [msum_add, msum_one, msum_comm] at h2
      have h3 : (x.entries.length : Int) + msum (fun y => msum (fun e : Entry => subI f.inodes e.ino y) x.entries) f.inodes ≤ msum (subI f.inodes i) f.inodes := by
        have h4 : msum (fun y => (if y = x then (x.entries.length : Int) else 0) + msum (fun e : Entry => subI f.inodes e.ino y) x.entries) f.inodes ≤ msum (subI f.inodes i) f.inodes := by
          refine msum_mono fun y hy => ?_
          by_cases hyx : y = x
          · subst hyx
            rw [if_pos rfl]
            have e1 : msum (fun e : Entry => subI f.inodes e.ino y) y.entries = msum (fun _ => 0) y.entries := msum_congr fun e he => by
              unfold subI
              rw [if_neg]
              rintro ⟨n, hn⟩
              rw [hx2] at hn
              exact h.no_loop hw hf he hn
            rw [e1, msum_zero]
            unfold subI
            rw [if_pos ⟨0, by rw [hx2]; exact .here⟩]
            omega
          · rw [if_neg hyx, Int.zero_add]
            refine msum_once (subI_nn _ _ _) (h.ent_nodup hx1) (fun e he => ⟨subI_nn _ _ _, ?_⟩) (fun e1 he1 e2 he2 p1 p2 => ?_)
            · unfold subI
              split
              · rename_i hw'
                obtain ⟨n, hn⟩ := hw'
                rw [if_pos ⟨n + 1, hn.first hf he⟩]; omega
              · split <;> omega
            · unfold subI at p1 p2
              split at p1
              · rename_i w1
                split at p2
                · rename_i w2
                  obtain ⟨n1, hn1⟩ := w1
                  obtain ⟨n2, hn2⟩ := w2
                  have hyf := findI_mem h.sort hy
                  have hyd : y.kind = 2 := by
                    cases hye : y.entries with
                    | nil => rw [hye] at p1; simp at p1
                    | cons e l => exact kind_ents (h.kind y hy) (e := e) (by rw [hye]; simp)
                  exact h.one_way hw hf hyf hyd he1 he2 hn1 hn2
                · omega
              · omega
        rw [msum_add] at h4
        have h5 : (x.entries.length : Int) ≤ msum (fun y => if y = x then (x.entries.length : Int) else 0) f.inodes := by
          have := msum_le1 (μ := fun y : Inode => if y = x then (x.entries.length : Int) else 0) (fun y => by split <;> omega) hx1
          simpa using this
        omega
      omega
structure Lil (f : Fs) : Prop where
  len : f.inodes.length ≤ 10000
  ents : ∀ x ∈ f.inodes, x.entries.length ≤ 10000
theorem Lil.of_few {f : Fs} (h : fewF f = true) : Lil f := by
  obtain ⟨h1, h2⟩ := fewF_sm h
  exact ⟨by omega, fun x hx => by have := (h2 x hx).2.1; omega⟩
theorem msum_bound {α : Type} {μ : α → Int} {c : Int} {l : List α} (h : ∀ x ∈ l, μ x ≤ c) : msum μ l ≤ l.length * c := by
  induction l with
  | nil => simp [msum]
  | cons x l ih =>
    rw [msum_cons, List.length_cons]
    have h1 := ih (fun y hy => h y (by simp [hy]))
    have h2 := h x (by simp)
    have : ((l.length + 1 : Nat) : Int) * c = (l.length : Int) * c + c := by
      rw [Int.natCast_add, Int.add_mul]; simp
    omega
theorem below_le {f : Fs} (h : Tree f) (hl : Lil f) {m : Nat} {i : Int} {k : Nat} {p : Str} (hw : Way f.inodes 1 i k) : (belowP f.inodes m i p).length ≤ 1000000001 := by
  have h1 := below_len h m i k p hw
  have h2 : msum (subI f.inodes i) f.inodes ≤ f.inodes.length * 10000 := msum_bound fun x hx => by
    have := subI_le f.inodes i x
    have := hl.ents x hx
    omega
  have h3 := hl.len
  omega
end Go.Eng
set_option linter.unusedVariables false
set_option maxRecDepth 100000
namespace Go.Eng
open Go
noncomputable def law09_awake : Option (Bool) :=
    ocase (ref05_New (9 : Int) (9 : Int)) fun y1 => ocase (ref05_Set (⟨y1.maxInodes, y1.maxBytes, (9 : Int), y1.inodes⟩ : Fs) (⟨(1 : Int), (2 : Int), 0, [], (1 : Int), [(⟨([100] : Str), (3 : Int)⟩ : Entry)]⟩ : Inode)) fun y2 => ocase (ref05_Set y2 (⟨(3 : Int), (2 : Int), (1 : Int), [], (1 : Int), ([] : List Entry)⟩ : Inode)) fun y3 => ocase (place_At y3 ([47, 100, 47, 102] : Str)) fun y4 => ocase (place_At y3 ([47] : Str)) fun y5 => ocase (place_At y3 ([100] : Str)) fun y6 => ocase (place_At y3 ([47, 120, 47, 121] : Str)) fun y7 => ocase (place_Get y3 ([47, 100] : Str)) fun y8 => ocase (place_Get y3 ([47, 100, 47, 102] : Str)) fun y9 => ocase (place_Put y3 ([47, 100, 47, 102] : Str) (3 : Int)) fun y10 => ocase (ref05_Get y10 (3 : Int)) fun y11 =>
    bcase ((y4.1.dir == (3 : Int)) && ((y4.1.name == ([102] : Str)) && (y4.1.ino == 0))) (
    bcase (y4.2 == (0 : Int)) (
    bcase ((y5.1.dir == 0) && ((y5.1.name == []) && (y5.1.ino == (1 : Int)))) (
    bcase (y5.2 == (0 : Int)) (
    bcase (y6.2 == (9 : Int)) (
    bcase (y7.2 == (1 : Int)) (
    bcase (y8.1.ino == (3 : Int)) (
    bcase (y8.2 == (0 : Int)) (
    bcase (y9.2 == (1 : Int)) (
    bcase ((List.length y11.1.entries : Int) == (1 : Int)) (ocase (place_Take y10 ([47, 100, 47, 102] : Str)) fun y12 => ocase (ref05_Same y12 y3) fun y13 => some y13) (some false)) (some false)) (some false)) (some false)) (some false)) (some false)) (some false)) (some false)) (some false)) (some false)
noncomputable def law09_PlaceAts (w0 : Fs) (w1 : Str) : Option (Bool) :=
    ocase (law09_awake) fun y1 =>
    bcase (!y1) (ocase (law09_awake) fun y2 => some y2) (ocase (ref07_Ok w0) fun y3 =>
    bcase (!y3) (ocase (law09_awake) fun y4 => some y4) (
    bcase (decide ((List.length w1 : Int) > (1000 : Int))) (ocase (law09_awake) fun y5 => some y5) (ocase (place_At w0 w1) fun y6 => ocase (ref09_At w0 w1) fun y7 => ocase (place_Get w0 w1) fun y8 => ocase (ref09_Get w0 w1) fun y9 =>
    bcase ((y6.1.dir == y7.1.dir) && ((y6.1.name == y7.1.name) && (y6.1.ino == y7.1.ino))) (
    bcase (y6.2 == y7.2) (ocase (ref05_One y8.1 y9.1) fun y10 =>
    bcase y10 (some (y8.2 == y9.2)) (some false)) (some false)) (some false))))
noncomputable def law09_PlacePuts (w0 : Fs) (w1 : Str) (w2 : Int) : Option (Bool) :=
    ocase (law09_awake) fun y1 =>
    bcase (!y1) (ocase (law09_awake) fun y2 => some y2) (ocase (ref07_Ok w0) fun y3 =>
    bcase (!y3) (ocase (law09_awake) fun y4 => some y4) (
    bcase (decide ((List.length w1 : Int) > (1000 : Int))) (ocase (law09_awake) fun y5 => some y5) (
    bcase (decide (w2 < (1 : Int))) (ocase (law09_awake) fun y6 => some y6) (ocase (ref09_At w0 w1) fun y7 =>
    bcase (y7.2 != (0 : Int)) (some true) (
    bcase (y7.1.dir == (0 : Int)) (some true) (ocase (place_Put w0 w1 w2) fun y8 => ocase (ref09_Put w0 w1 w2) fun y9 => ocase (ref05_Same y8 y9) fun y10 =>
    bcase y10 (ocase (place_Take w0 w1) fun y11 => ocase (ref09_Take w0 w1) fun y12 => ocase (ref05_Same y11 y12) fun y13 => some y13) (some false)))))))
noncomputable def law09_PlaceBack_L5 {R : Type} (x7 : Str) (x8 : List Seen) (x10 : Fs) (kr : Option R) (k0 : Option R) : Nat → Int → Option R
  | 0, _ => none
  | n + 1, x9 =>
    bcase (decide (x9 < (List.length x8 : Int))) (
    bcase (decide (0 ≤ x9)) (ocase x8[Int.toNat x9]? fun e11 => ocase (place_Get x10 e11.path) fun y12 =>
    bcase (decide (0 ≤ x9)) (ocase x8[Int.toNat x9]? fun e13 => ocase (place_At x10 e13.path) fun y14 =>
    bcase (y12.2 != (0 : Int)) ((kr)) (
    bcase (y14.2 != (0 : Int)) ((kr)) (
    bcase (decide (0 ≤ x9)) (ocase x8[Int.toNat x9]? fun e15 =>
    bcase (y12.1.ino != e15.ino) ((kr)) (
    bcase (decide (0 ≤ x9)) (ocase x8[Int.toNat x9]? fun e16 =>
    bcase (y14.1.ino != e16.ino) ((kr)) (
    bcase (decide (x9 > (0 : Int))) (ocase (ref05_Get x10 y14.1.dir) fun y17 => ocase (ref04_Find y17.1.entries y14.1.name) fun y18 =>
    bcase (!y17.2) ((kr)) (
    bcase (!y18.2) ((kr)) (
    bcase (y18.1 != y14.1.ino) ((kr)) (
    bcase (decide (0 ≤ x9)) (ocase x8[Int.toNat x9]? fun e19 => lcase (e19.path.length + ([47] : Str).length) (lcase ((e19.path ++ ([47] : Str)).length + x7.length) (
    bcase (x9 == (0 : Int)) (lcase (([47] : Str).length + x7.length) (ocase (place_At x10 (([47] : Str) ++ x7)) fun y20 =>
    bcase (y12.1.kind != (2 : Int)) (
    bcase (y20.2 == (0 : Int)) ((kr)) ((law09_PlaceBack_L5 x7 x8 x10 kr k0 n (IntKind.i64.wrap (x9 + (1 : Int)))))) ((law09_PlaceBack_L5 x7 x8 x10 kr k0 n (IntKind.i64.wrap (x9 + (1 : Int))))))) (ocase (place_At x10 ((e19.path ++ ([47] : Str)) ++ x7)) fun y21 =>
    bcase (y12.1.kind != (2 : Int)) (
    bcase (y21.2 == (0 : Int)) ((kr)) ((law09_PlaceBack_L5 x7 x8 x10 kr k0 n (IntKind.i64.wrap (x9 + (1 : Int)))))) ((law09_PlaceBack_L5 x7 x8 x10 kr k0 n (IntKind.i64.wrap (x9 + (1 : Int))))))))) (none))))) (
    bcase (decide (0 ≤ x9)) (ocase x8[Int.toNat x9]? fun e22 => lcase (e22.path.length + ([47] : Str).length) (lcase ((e22.path ++ ([47] : Str)).length + x7.length) (
    bcase (x9 == (0 : Int)) (lcase (([47] : Str).length + x7.length) (ocase (place_At x10 (([47] : Str) ++ x7)) fun y23 =>
    bcase (y12.1.kind != (2 : Int)) (
    bcase (y23.2 == (0 : Int)) ((kr)) ((law09_PlaceBack_L5 x7 x8 x10 kr k0 n (IntKind.i64.wrap (x9 + (1 : Int)))))) ((law09_PlaceBack_L5 x7 x8 x10 kr k0 n (IntKind.i64.wrap (x9 + (1 : Int))))))) (ocase (place_At x10 ((e22.path ++ ([47] : Str)) ++ x7)) fun y24 =>
    bcase (y12.1.kind != (2 : Int)) (
    bcase (y24.2 == (0 : Int)) ((kr)) ((law09_PlaceBack_L5 x7 x8 x10 kr k0 n (IntKind.i64.wrap (x9 + (1 : Int)))))) ((law09_PlaceBack_L5 x7 x8 x10 kr k0 n (IntKind.i64.wrap (x9 + (1 : Int))))))))) (none)))) (none))) (none)))) (none)) (none)) ((k0))
noncomputable def law09_PlaceBack (w0 : Fs) (w1 : Str) : Option (Bool) :=
    ocase (law09_awake) fun y1 =>
    bcase (!y1) (ocase (law09_awake) fun y2 => some y2) (ocase (ref07_Ok w0) fun y3 =>
    bcase (!y3) (ocase (law09_awake) fun y4 => some y4) (
    bcase (decide ((List.length w1 : Int) > (300 : Int))) (ocase (law09_awake) fun y5 => some y5) (ocase (ref08_List w0) fun y6 => law09_PlaceBack_L5 w1 y6 w0 (some false) (some true) FUEL (0 : Int))))
end Go.Eng
set_option linter.unusedSimpArgs false
set_option linter.unusedVariables false
namespace Go.Eng
open Go
def small09 : Fs := ⟨9, 9, 9, [⟨1, 2, 0, [], 1, [⟨[100], 3⟩]⟩, ⟨3, 2, 1, [], 1, []⟩]⟩
theorem awake09 : law09_awake = some true := by
  unfold law09_awake
  have e1 : ref05_New 9 9 = some ⟨9, 9, 2, [⟨1, 2, 0, [], 1, []⟩]⟩ := rfl
  rw [e1, ocase_some', ref05_Set_eq (by decide), ocase_some', ref05_Set_eq (by decide), ocase_some']
  have e2 : (Fs.set (Fs.set (⟨9, 9, 9, [⟨1, 2, 0, [], 1, []⟩]⟩ : Fs) (⟨1, 2, 0, [], 1, [⟨[100], 3⟩]⟩ : Inode)) (⟨3, 2, 1, [], 1, []⟩ : Inode)) = small09 := by decide
  have e3 : (⟨(⟨9, 9, 2, [⟨1, 2, 0, [], 1, []⟩]⟩ : Fs).maxInodes, (⟨9, 9, 2, [⟨1, 2, 0, [], 1, []⟩]⟩ : Fs).maxBytes, 9, (⟨9, 9, 2, [⟨1, 2, 0, [], 1, []⟩]⟩ : Fs).inodes⟩ : Fs) = ⟨9, 9, 9, [⟨1, 2, 0, [], 1, []⟩]⟩ := rfl
  rw [e3, e2]
  have w : WF small09 := wf_of (by decide)
  rw [place_At_eq w (by decide), ocase_some', place_At_eq w (by decide), ocase_some', place_At_eq w (by decide), ocase_some', place_At_eq w (by decide), ocase_some', place_Get_eq w (by decide), ocase_some', place_Get_eq w (by decide), ocase_some']
  obtain ⟨d, hd, hp, _⟩ := place_Put_eq (p := [47, 100, 47, 102]) (i := 3) w (by decide) (by decide) (by decide)
  have hd' : findI (atP small09 [47, 100, 47, 102]).1.dir small09.inodes = some ⟨3, 2, 1, [], 1, []⟩ := by decide
  rw [hd'] at hd
  cases hd
  rw [hp, ocase_some']
  have e4 : (small09.set ((⟨3, 2, 1, [], 1, []⟩ : Inode).withE (setE ⟨(atP small09 [47, 100, 47, 102]).1.name, 3⟩ (⟨3, 2, 1, [], 1, []⟩ : Inode).entries))) = ⟨9, 9, 9, [⟨1, 2, 0, [], 1, [⟨[100], 3⟩]⟩, ⟨3, 2, 1, [], 1, [⟨[102], 3⟩]⟩]⟩ := by decide
  rw [e4]
  have w2 : WF ⟨9, 9, 9, [⟨1, 2, 0, [], 1, [⟨[100], 3⟩]⟩, ⟨3, 2, 1, [], 1, [⟨[102], 3⟩]⟩]⟩ := wf_of (by decide)
  rw [w2.rget, ocase_some']
  obtain ⟨d, hd, hp, _⟩ := place_Take_eq (p := [47, 100, 47, 102]) w2 (by decide) (by decide) (by decide)
  have hd' : findI (atP ⟨9, 9, 9, [⟨1, 2, 0, [], 1, [⟨[100], 3⟩]⟩, ⟨3, 2, 1, [], 1, [⟨[102], 3⟩]⟩]⟩ [47, 100, 47, 102]).1.dir [⟨1, 2, 0, [], 1, [⟨[100], 3⟩]⟩, ⟨3, 2, 1, [], 1, [⟨[102], 3⟩]⟩] = some ⟨3, 2, 1, [], 1, [⟨[102], 3⟩]⟩ := by decide
  rw [hd'] at hd
  cases hd
  rw [hp, ocase_some', ref05_Same_eq (by decide) (by decide)]
  decide
theorem spotEq (a b : Spotted) : ((a.dir == b.dir) && ((a.name == b.name) && (a.ino == b.ino))) = true ↔ a = b := by
  cases a; cases b; simp
theorem getP_ents {f : Fs} {p : Str} (h : SmF f) : (getP f p).1.entries.length ≤ 1073741824 := by
  unfold getP
  split
  · cases hf : findI (atP f p).1.ino f.inodes with
    | none => simp [zeroI]
    | some x => exact h.ents x (findK_some hf).1
  · simp [zeroI]
structure InF (f : Fs) : Prop where
  len : f.inodes.length ≤ 1073741824
  ents : ∀ x ∈ f.inodes, x.entries.length ≤ 1073741824
theorem PlaceAts_true {f : Fs} {p : Str} (hi : InF f) : law09_PlaceAts f p = some true := by
  unfold law09_PlaceAts
  rw [awake09]
  simp only [ocase_some', Bool.not_true, bcase_false]
  rw [ref07_Ok_eq hi.len hi.ents, ocase_some']
  cases ho : okF f
  · rfl
  · obtain ⟨hs, hm, h⟩ := ok_sound ho
    rw [Bool.not_true, bcase_false]
    by_cases hp : p.length > 1000
    · rw [bc_t (by simp; omega)]
    · rw [bc_f (by simp; omega), place_At_eq h (by omega), ocase_some', ref09_At_eq h (by omega), ocase_some', place_Get_eq h (by omega), ocase_some', ref09_Get_eq h (by omega), ocase_some', bc_t ((spotEq _ _).2 rfl), beqI, bc_t (by simp), ref05_One_eq (getP_ents hm), ocase_some', beqI]
      simp
theorem withE_ents (d : Inode) (l : List Entry) : (d.withE l).entries = l := rfl
theorem PlacePuts_true {f : Fs} {p : Str} {i : Int} (hi : InF f) : law09_PlacePuts f p i = some true := by
  unfold law09_PlacePuts
  rw [awake09]
  simp only [ocase_some', Bool.not_true, bcase_false]
  rw [ref07_Ok_eq hi.len hi.ents, ocase_some']
  cases ho : okF f
  · rfl
  · obtain ⟨hs, hm, h⟩ := ok_sound ho
    obtain ⟨hf1, hf2⟩ := fewF_sm ((okF_iff f).1 ho).1
    rw [Bool.not_true, bcase_false]
    by_cases hp : p.length > 1000
    · rw [bc_t (by simp; omega)]
    · rw [bc_f (by simp; omega)]
      by_cases hi1 : i < 1
      · rw [bc_t (by simp; omega)]
      · rw [bc_f (by simp; omega), ref09_At_eq h (by omega), ocase_some', bneI, beqI]
        by_cases h0 : (atP f p).2 = 0
        · rw [bc_f (by simp [h0])]
          by_cases hd0 : (atP f p).1.dir = 0
          · rw [bc_t (by simp [hd0])]
          · rw [bc_f (by simp [hd0])]
            obtain ⟨d, hd, e1, e2⟩ := place_Put_eq (i := i) h (by omega) h0 hd0
            obtain ⟨d', hd', e3, e4⟩ := place_Take_eq h (by omega) h0 hd0
            have hdm := (h.found hd).1
            have hdm' := (h.found hd').1
            have hl1 := setK_length_le (lt := ltS) (key := Entry.name) (x := (⟨(atP f p).1.name, i⟩ : Entry)) (l := d.entries)
            have hl2 := dropK_length_le (key := Entry.name) (k := (atP f p).1.name) (l := d'.entries)
            have := (hf2 d hdm).2.1
            have := (hf2 d' hdm').2.1
            have hsl1 := set_len (f := f) (x := d.withE (setE ⟨(atP f p).1.name, i⟩ d.entries))
            have hsl2 := set_len (f := f) (x := d'.withE (dropE (atP f p).1.name d'.entries))
            rw [e1, ocase_some', e2, ocase_some', ref05_Same_eq (by omega) (set_ents hm.ents (by rw [withE_ents]; show (setK ltS Entry.name ⟨(atP f p).1.name, i⟩ d.entries).length ≤ _; omega)), ocase_some']
            rw [bc_t (by simp), e3, ocase_some', e4, ocase_some', ref05_Same_eq (by omega) (set_ents hm.ents (by rw [withE_ents]; show (dropK Entry.name (atP f p).1.name d'.entries).length ≤ _; omega)), ocase_some']
            simp
        · rw [bc_t (by simp [h0])]
end Go.Eng
set_option linter.unusedSimpArgs false
set_option linter.unusedVariables false
set_option linter.unusedSectionVars false
namespace Go.Eng
open Go
def Nm (x : Str) : Prop := x ≠ [] ∧ ∀ c ∈ x, c ≠ 47
theorem mayN_nm {x : Str} (h : mayN x = true) : Nm x := by
  unfold mayN at h
  simp only [Bool.and_eq_true, Bool.not_eq_true', beq_eq_false_iff_ne] at h
  obtain ⟨h1, _, h3, _⟩ := h
  refine ⟨h1, fun c hc e => ?_⟩
  rw [List.any_eq_false] at h3
  have := h3 c hc
  unfold badB at this
  rw [e] at this
  exact this rfl
theorem mayN_len {x : Str} (h : mayN x = true) : x.length ≤ 255 := by
  unfold mayN at h
  simp only [Bool.and_eq_true, decide_eq_true_eq] at h
  exact h.2.1
theorem mayN_dot {x : Str} (h : mayN x = true) : x ≠ [46] ∧ x ≠ [46, 46] := by
  unfold mayN at h
  simp only [Bool.and_eq_true, Bool.not_eq_true', beq_eq_false_iff_ne] at h
  exact h.2.2.2
theorem flat_47 (ns : List Str) (b : Str) : ∃ r, (ns.flatMap fun x => 47 :: x) ++ 47 :: b = 47 :: r := by
  cases ns with
  | nil => exact ⟨b, rfl⟩
  | cons x ns => exact ⟨x ++ ((ns.flatMap fun x => 47 :: x) ++ 47 :: b), by simp⟩
theorem splitN_47 (b : Str) : splitN [] (47 :: b) = splitN [] b := by simp [splitN]
theorem splitN_flat (b : Str) : ∀ ns : List Str, (∀ x ∈ ns, Nm x) → splitN [] ((ns.flatMap fun x => 47 :: x) ++ 47 :: b) = (ns ++ (splitN [] b).1, (splitN [] b).2)
  | [], _ => by simp [splitN_47]
  | x :: ns, h => by
    have hx := h x (by simp)
    obtain ⟨r, hr⟩ := flat_47 ns b
    have ih := splitN_flat b ns (fun y hy => h y (by simp [hy]))
    rw [hr, splitN_47] at ih
    have e : ((x :: ns).flatMap fun x => 47 :: x) ++ 47 :: b = 47 :: (x ++ 47 :: r) := by
      rw [List.flatMap_cons, List.append_assoc, hr]; simp
    rw [e, splitN_47, splitN_app x [] r hx.2, ih, List.nil_append, if_neg hx.1]
    simp
theorem namesP_flat (b : Str) {ns : List Str} (h : ∀ x ∈ ns, Nm x) : namesP ((ns.flatMap fun x => 47 :: x) ++ 47 :: b) = ns ++ namesP b := by
  unfold namesP
  rw [splitN_flat b ns h]
  unfold withLast
  simp only
  split <;> simp
theorem namesP_one {x : Str} (h : Nm x) : namesP x = [x] := by
  unfold namesP
  rw [splitN_none x [] h.2]
  unfold withLast
  rw [List.nil_append, if_neg h.1]; rfl
theorem namesP_47 (b : Str) : namesP (47 :: b) = namesP b := by unfold namesP; rw [splitN_47]
theorem namesP_join {ns : List Str} (h : ∀ x ∈ ns, Nm x) : namesP (joinP ns) = ns := by
  unfold joinP
  rcases List.eq_nil_or_concat ns with rfl | ⟨ns', x, rfl⟩
  · rfl
  · rw [List.concat_eq_append] at h ⊢
    rw [if_neg (by simp), List.flatMap_append]
    have e : ([x].flatMap fun x => (47 : UInt8) :: x) = 47 :: x := by simp
    rw [e, namesP_flat x (fun y hy => h y (by simp [hy])), namesP_one (h x (by simp))]
theorem joinP_ne {ns : List Str} (h : ∀ x ∈ ns, Nm x) (h0 : ns ≠ []) : joinP ns ≠ [47] := by
  intro e
  have := namesP_join h
  rw [e] at this
  exact h0 this.symm
theorem joinP_cons (x : Str) (ns : List Str) : joinP (x :: ns) = 47 :: x ++ (ns.flatMap fun x => 47 :: x) := by unfold joinP; simp
theorem namesP_join_app {ns : List Str} (h : ∀ x ∈ ns, Nm x) (b : Str) : namesP (joinP ns ++ 47 :: b) = ns ++ namesP b := by
  unfold joinP
  by_cases h0 : ns = []
  · subst h0
    show namesP (47 :: 47 :: b) = _
    rw [namesP_47, namesP_47]; rfl
  · rw [if_neg h0, namesP_flat b h]
theorem underP_join {ns : List Str} (h : ∀ x ∈ ns, Nm x) (x : Str) : underP (joinP ns) x = joinP (ns ++ [x]) := by
  unfold underP
  by_cases h0 : ns = []
  · subst h0; simp [joinP]
  · rw [if_neg (joinP_ne h h0)]
    unfold joinP
    rw [if_neg h0, if_neg (by simp)]
    simp
theorem foldl_under {ns : List Str} : ∀ {ms : List Str}, (∀ x ∈ ms, Nm x) → (∀ x ∈ ns, Nm x) → ns.foldl underP (joinP ms) = joinP (ms ++ ns) := by
  induction ns with
  | nil => intro ms _ _; simp
  | cons x ns ih =>
    intro ms h1 h2
    rw [List.foldl_cons, underP_join h1, ih (fun y hy => by
      simp only [List.mem_append, List.mem_singleton] at hy
      rcases hy with hy | rfl
      · exact h1 y hy
      · exact h2 y (by simp)) (fun y hy => h2 y (by simp [hy]))]
    simp
theorem plainP_join {ns : List Str} (h : ∀ x ∈ ns, mayN x = true) : plainP (joinP ns) = (ns, true) := by
  have := namesP_join (fun x hx => mayN_nm (h x hx))
  unfold plainP
  rw [this, if_pos ⟨rfl, by rw [List.all_eq_true]; exact h⟩]
theorem joinP_bound {ns : List Str} (h : ∀ x ∈ ns, mayN x = true) : (joinP ns).length ≤ ns.length * 256 + 1 := by
  have h1 := joinP_len ns
  have h2 : ns.flatten.length ≤ ns.length * 255 := by
    induction ns with
    | nil => simp
    | cons x ns ih =>
      have := ih (fun y hy => h y (by simp [hy])) (joinP_len ns)
      have := mayN_len (h x (by simp))
      simp only [List.flatten_cons, List.length_append, List.length_cons, Nat.succ_mul]
      omega
  omega
theorem plainP_true {p : Str} (h : (plainP p).2 = true) : joinP (plainP p).1 = p ∧ (∀ x ∈ (plainP p).1, mayN x = true) ∧ (plainP p).1 = namesP p := by
  unfold plainP at h ⊢
  split
  · rename_i h1
    refine ⟨h1.1, ?_, rfl⟩
    have := h1.2
    rw [List.all_eq_true] at this
    exact this
  · rename_i h1
    rw [if_neg h1] at h; cases h
theorem goAt_none {l : List Inode} {n : Str} {ns : List Str} {s : Spotted} (hf : findI s.ino l = none) : goAt l (n :: ns) s = (zeroS, 1) := by
  simp only [goAt]; rw [hf]
theorem goAt_dir {l : List Inode} {n : Str} {ns : List Str} {s : Spotted} {d : Inode} (hf : findI s.ino l = some d) (hk : d.kind = 2) : goAt l (n :: ns) s = goAt l ns ⟨d.ino, n, inoE n d.entries⟩ := by
  simp only [goAt]; rw [hf]; simp only; rw [if_pos hk]
theorem goAt_file {l : List Inode} {n : Str} {ns : List Str} {s : Spotted} {d : Inode} (hf : findI s.ino l = some d) (hk : d.kind ≠ 2) : goAt l (n :: ns) s = (zeroS, 3) := by
  simp only [goAt]; rw [hf]; simp only; rw [if_neg hk]
theorem goAt_app (l : List Inode) : ∀ (a b : List Str) (s : Spotted), goAt l (a ++ b) s = if (goAt l a s).2 = 0 then goAt l b (goAt l a s).1 else (zeroS, (goAt l a s).2)
  | [], b, s => by simp [goAt]
  | n :: a, b, s => by
    rw [List.cons_append]
    cases hf : findI s.ino l with
    | none => rw [goAt_none hf, goAt_none hf]; rfl
    | some d =>
      by_cases hk : d.kind = 2
      · rw [goAt_dir hf hk, goAt_dir hf hk]; exact goAt_app l a b _
      · rw [goAt_file hf hk, goAt_file hf hk]; rfl
theorem inoE_mem {f : Fs} (h : Tree f) {x : Inode} (hx : x ∈ f.inodes) {e : Entry} (he : e ∈ x.entries) : inoE e.name x.entries = e.ino := by
  have := findK_mem loS ((rightE_iff _).1 (kind_right (h.kind x hx))).1 he
  unfold inoE
  show (match findK Entry.name e.name x.entries with | some e => e.ino | none => 0) = _
  rw [this]
theorem inoE_find {x : Inode} {n : Str} (h : inoE n x.entries ≠ 0) : ∃ e ∈ x.entries, e.name = n ∧ e.ino = inoE n x.entries ∧ findE n x.entries = some e := by
  unfold inoE at h ⊢
  cases hf : findE n x.entries with
  | none => rw [hf] at h; exact absurd rfl h
  | some e => exact ⟨e, (findK_some hf).1, (findK_some hf).2, rfl, rfl⟩
structure OnW (f : Fs) (m : Nat) (i : Int) (p : Str) (s : Seen) (ns : List Str) : Prop where
  may : ∀ n ∈ ns, mayN n = true
  len : ns.length ≤ m
  path : s.path = ns.foldl underP p
  there : ∃ x, findI s.ino f.inodes = some x
  go : ∀ sp : Spotted, sp.ino = i → ∃ t, goAt f.inodes ns sp = (t, 0) ∧ t.ino = s.ino ∧ (ns = [] → t = sp)
  way : Way f.inodes i s.ino ns.length
theorem below_at {f : Fs} (h : Tree f) : ∀ (m : Nat) (i : Int) (p : Str) (s : Seen), s ∈ belowP f.inodes m i p → ∃ ns, OnW f m i p s ns
  | 0, i, p, s, hs => by simp [belowP] at hs
  | m + 1, i, p, s, hs => by
    rw [belowP] at hs
    cases hf : findI i f.inodes with
    | none => rw [hf] at hs; cases hs
    | some x =>
      rw [hf] at hs
      simp only [List.mem_cons] at hs
      rcases hs with rfl | hs
      · exact ⟨[], by simp, by simp, rfl, ⟨x, hf⟩, fun sp he => ⟨sp, rfl, he, fun _ => rfl⟩, .here⟩
      · rw [List.mem_flatMap] at hs
        obtain ⟨e, he, hs⟩ := hs
        obtain ⟨ns, ha⟩ := below_at h m e.ino (underP p e.name) s hs
        have hx := findK_some hf
        have hr := (rightE_iff _).1 (kind_right (h.kind x hx.1))
        refine ⟨e.name :: ns, fun n hn => ?_, by have := ha.len; simp; exact this, ha.path, ha.there, fun sp hsp => ?_, ha.way.first hf he⟩
        · simp only [List.mem_cons] at hn
          rcases hn with rfl | hn
          · exact (hr.2 e he).1
          · exact ha.may n hn
        · obtain ⟨t, h1, h2, _⟩ := ha.go ⟨x.ino, e.name, inoE e.name x.entries⟩ (inoE_mem h hx.1 he)
          refine ⟨t, ?_, h2, fun h0 => by cases h0⟩
          simp only [goAt]
          rw [hsp, hf]
          simp only
          rw [if_pos (h.ents hf he), h1]
theorem below_tail {f : Fs} (h : Tree f) {m : Nat} {i : Int} {p : Str} {k : Nat} {s : Seen} (hs : (belowP f.inodes m i p)[k]? = some s) : ∃ ns, OnW f m i p s ns ∧ (k = 0 → s = ⟨p, i⟩ ∧ ns = []) ∧ (0 < k → ns ≠ []) := by
  cases m with
  | zero => simp [belowP] at hs
  | succ m =>
    rw [belowP] at hs
    cases hf : findI i f.inodes with
    | none => rw [hf] at hs; simp at hs
    | some x =>
      rw [hf] at hs
      cases k with
      | zero =>
        simp at hs
        subst hs
        exact ⟨[], ⟨by simp, by simp, rfl, ⟨x, hf⟩, fun sp he => ⟨sp, rfl, he, fun _ => rfl⟩, .here⟩, fun _ => ⟨rfl, rfl⟩, fun h => by omega⟩
      | succ k =>
        simp only [List.getElem?_cons_succ] at hs
        have hs := List.mem_of_getElem? hs
        rw [List.mem_flatMap] at hs
        obtain ⟨e, he, hs⟩ := hs
        obtain ⟨ns, ha⟩ := below_at h m e.ino (underP p e.name) s hs
        have hx := findK_some hf
        have hr := (rightE_iff _).1 (kind_right (h.kind x hx.1))
        refine ⟨e.name :: ns, ⟨fun n hn => ?_, by have := ha.len; simp; exact this, ha.path, ha.there, fun sp hsp => ?_, ha.way.first hf he⟩, fun h => by omega, fun _ => by simp⟩
        · simp only [List.mem_cons] at hn
          rcases hn with rfl | hn
          · exact (hr.2 e he).1
          · exact ha.may n hn
        · obtain ⟨t, h1, h2, _⟩ := ha.go ⟨x.ino, e.name, inoE e.name x.entries⟩ (inoE_mem h hx.1 he)
          refine ⟨t, ?_, h2, fun h0 => by cases h0⟩
          simp only [goAt]
          rw [hsp, hf]
          simp only
          rw [if_pos (h.ents hf he), h1]
structure AtR (f : Fs) (s : Seen) (ns : List Str) (x : Inode) (t : Spotted) : Prop where
  may : ∀ n ∈ ns, mayN n = true
  len : ns.length ≤ f.inodes.length + 1
  path : s.path = joinP ns
  there : findI s.ino f.inodes = some x
  go : goAt f.inodes ns rootS = (t, 0)
  ino : t.ino = s.ino
  nil : ns = [] → t = rootS
theorem list_at {f : Fs} (h : Tree f) {k : Nat} {s : Seen} (hs : (listP f)[k]? = some s) : ∃ ns x t, AtR f s ns x t ∧ (k = 0 → s = ⟨[47], 1⟩ ∧ ns = []) ∧ (0 < k → ns ≠ []) := by
  obtain ⟨ns, ha, h1, h2⟩ := below_tail h hs
  obtain ⟨x, hx⟩ := ha.there
  obtain ⟨t, g1, g2, g3⟩ := ha.go rootS rfl
  refine ⟨ns, x, t, ⟨ha.may, ha.len, ?_, hx, g1, g2, g3⟩, h1, h2⟩
  rw [ha.path]
  exact foldl_under (ms := []) (by simp) (fun n hn => mayN_nm (ha.may n hn))
theorem AtR.atP {f : Fs} {s : Seen} {ns : List Str} {x : Inode} {t : Spotted} (h : AtR f s ns x t) : atP f s.path = (t, 0) := by
  unfold Go.Eng.atP
  rw [h.path, plainP_join h.may, if_pos rfl, h.go]
theorem AtR.getP {f : Fs} {s : Seen} {ns : List Str} {x : Inode} {t : Spotted} (h : AtR f s ns x t) : getP f s.path = (x, 0) := by
  unfold Go.Eng.getP
  rw [h.atP, if_pos rfl, h.ino, h.there]
theorem listP_root {f : Fs} (h : Tree f) : ∃ l, listP f = ⟨[47], 1⟩ :: l := by
  obtain ⟨r, hr, _⟩ := h.root
  unfold listP
  rw [belowP, hr]
  exact ⟨_, rfl⟩
theorem ref08_under_eq {p n : Str} (h : p.length + n.length ≤ 4294967290) : ref08_under p n = some (underP p n) := by
  unfold ref08_under underP
  by_cases h0 : p = [47]
  · subst h0
    rw [bc_t (by simp), lcase_le (by unfold LIM; omega), if_pos rfl]
  · rw [bc_f (by simp [h0]), if_neg h0, lcase_le (by unfold LIM; simp; omega), lcase_le (by unfold LIM; simp; omega)]
theorem below_r {f : Fs} (h : Tree f) (hl : Lil f) : ∀ (m n : Nat) (i : Int) (k : Nat) (p : Str), m < n → m ≤ 1099511627775 → Way f.inodes 1 i k → p.length + m * 256 ≤ 4294960000 → ref08_Below_r n f i p ((m : Int) - 1) = some (belowP f.inodes m i p) := by
  have hlen := hl.len
  intro m
  induction m with
  | zero =>
    intro n i k p hn _ hw hp
    obtain ⟨n, rfl⟩ : ∃ n', n = n' + 1 := ⟨n - 1, by omega⟩
    simp only [ref08_Below_r]
    rw [ref05_Get_eq (by omega), ocase_some']
    cases (findI i f.inodes).isSome
    · rfl
    · rfl
  | succ m ih =>
    intro n i k p hn hm hw hp
    obtain ⟨n, rfl⟩ : ∃ n', n = n' + 1 := ⟨n - 1, by omega⟩
    have e1 : ((m + 1 : Nat) : Int) - 1 = (m : Int) := by omega
    rw [e1]
    simp only [ref08_Below_r]
    rw [ref05_Get_eq (by omega), ocase_some']
    have htot := below_le h hl (m := m + 1) (p := p) hw
    rw [belowP] at htot ⊢
    cases hf : findI i f.inodes with
    | none => rfl
    | some x =>
      rw [hf] at htot
      simp only [Option.isSome_some, Bool.not_true, bcase_false]
      rw [bc_f (by simp), getI_some hf]
      have hx := findK_some hf
      have hxl := hl.ents x hx.1
      refine loop_post (l := x.entries) (fun q j s => ref08_Below_L6 (ref08_Below_r n) p (m : Int) f x (fun z13 => some z13) q j s) (fun j s => s = ⟨p, i⟩ :: (x.entries.take j).flatMap fun e => belowP f.inodes m e.ino (underP p e.name)) (fun r => r = some (⟨p, i⟩ :: x.entries.flatMap fun e => belowP f.inodes m e.ino (underP p e.name))) (by omega) (fun q j e s hj he hi hr => ?_) (fun q s hi => ?_) [⟨p, i⟩] (by simp)
      · simp only [ref08_Below_L6]
        have hem := List.mem_of_getElem? he
        have hnl := mayN_len ((((rightE_iff _).1 (kind_right (h.kind x hx.1))).2 e hem).1)
        rw [dec_lt hj, bcase_true, dec_nn, bcase_true, toNat_cast, he, ocase_some', bcase_true, ocase_some', ref08_under_eq (by omega), ocase_some', wrap_id (by omega) (by omega)]
        have hul : (underP p e.name).length ≤ p.length + 256 := by unfold underP; split <;> simp <;> omega
        rw [ih n e.ino (k + 1) (underP p e.name) (by omega) (by omega) (.step hw hf hem) (by omega), ocase_some', wrap_succ (by omega)]
        have hs' : s ++ belowP f.inodes m e.ino (underP p e.name) = ⟨p, i⟩ :: (x.entries.take (j + 1)).flatMap fun e => belowP f.inodes m e.ino (underP p e.name) := by
          rw [hi, List.take_add_one, he]; simp
        rw [lcase_le, hs']
        · exact hr _ rfl
        · have h9 : (s ++ belowP f.inodes m e.ino (underP p e.name)).length ≤ 1000000001 := by
            rw [hs']
            refine Nat.le_trans ?_ htot
            show _ ≤ (⟨p, i⟩ :: x.entries.flatMap fun e => belowP f.inodes m e.ino (underP p e.name)).length
            conv => rhs; rw [← List.take_append_drop (j + 1) x.entries]
            simp only [List.flatMap_append, List.length_cons, List.length_append]
            omega
          rw [List.length_append] at h9
          unfold LIM; omega
      · simp only [ref08_Below_L6]
        rw [List.take_length] at hi
        rw [dec_ge (Nat.le_refl _), bcase_false, hi]
theorem ref08_Below_eq {f : Fs} (h : Tree f) (hl : Lil f) {m : Nat} {i : Int} {k : Nat} {p : Str} (hm : m ≤ 200000) (hw : Way f.inodes 1 i k) (hp : p.length ≤ 100000) : ref08_Below f i p (m : Int) = some (belowP f.inodes (m + 1) i p) := by
  unfold ref08_Below
  have e : (m : Int) = ((m + 1 : Nat) : Int) - 1 := by omega
  rw [e]
  exact below_r h hl (m + 1) FUEL i k p (fuel_ok (by omega)) (by omega) hw (by omega)
theorem ref08_List_eq {f : Fs} (h : Tree f) (hl : Lil f) : ref08_List f = some (listP f) := by
  unfold ref08_List listP
  have := hl.len
  rw [ref08_Below_eq h hl (by omega) .here (by simp)]; rfl
theorem listP_len {f : Fs} (h : Tree f) (hl : Lil f) : (listP f).length ≤ 1000000001 := below_le h hl .here
instance seenDec : DecidableEq Seen := fun a b =>
  if h : a.path = b.path ∧ a.ino = b.ino then isTrue (by cases a; cases b; simp at h; simp [h]) else isFalse (by intro e; subst e; exact h ⟨rfl, rfl⟩)
theorem atP_more {f : Fs} {s : Seen} {ns : List Str} {x : Inode} {t : Spotted} (h : AtR f s ns x t) (hk : x.kind ≠ 2) (name : Str) : (atP f (s.path ++ [47] ++ name)).2 ≠ 0 := by
  intro h0
  unfold atP at h0
  split at h0
  · rename_i hp
    obtain ⟨p1, p2, p3⟩ := plainP_true hp
    have e : s.path ++ [47] ++ name = joinP ns ++ 47 :: name := by rw [h.path]; simp
    have hn := namesP_join_app (fun x hx => mayN_nm (h.may x hx)) name
    rw [e] at p1 p3 h0
    rw [p3, hn] at p1 h0
    cases hm : namesP name with
    | nil =>
      rw [hm, List.append_nil] at p1
      have := congrArg List.length p1
      simp at this
    | cons n r =>
      rw [hm, goAt_app, h.go, if_pos rfl] at h0
      simp only [goAt] at h0
      rw [h.ino, h.there] at h0
      simp only [if_neg hk] at h0
      cases h0
  · cases h0
theorem PlaceBack_true {f : Fs} {name : Str} (hi : InF f) : law09_PlaceBack f name = some true := by
  unfold law09_PlaceBack
  rw [awake09]
  simp only [ocase_some', Bool.not_true, bcase_false]
  rw [ref07_Ok_eq hi.len hi.ents, ocase_some']
  cases ho : okF f
  · rfl
  · obtain ⟨hs, hm, h⟩ := ok_sound ho
    have hfew := ((okF_iff f).1 ho).1
    have hl := Lil.of_few hfew
    have htr := (tr_iff f).1 hs
    have hf1 := (fewF_sm hfew).1
    rw [Bool.not_true, bcase_false]
    by_cases hp : name.length > 300
    · rw [bc_t (by simp; omega)]
    · rw [bc_f (by simp; omega), ref08_List_eq htr hl, ocase_some']
      have hll := listP_len htr hl
      refine loop_post (l := listP f) (fun n i (_ : Unit) => law09_PlaceBack_L5 name (listP f) f (some false) (some true) n i) (fun _ _ => True) (fun r => r = some true) (by omega) (fun n k s u hk hx _ hr => ?_) (fun n u _ => ?_) () trivial
      · have hr := hr () trivial
        obtain ⟨ns, x, t, ha, h1, h2⟩ := list_at htr hx
        have hpl : s.path.length ≤ 20000 := by
          have := joinP_bound ha.may
          have := ha.len
          rw [ha.path]; omega
        have hti : t.ino = s.ino := ha.ino
        have hxi : x.ino = s.ino := (findK_some ha.there).2
        simp only [law09_PlaceBack_L5]
        rw [dec_lt hk, dec_nn, toNat_cast, hx, wrap_succ (by omega)]
        simp only [bcase_true, ocase_some']
        rw [place_Get_eq h (by omega), ha.getP, ocase_some', place_At_eq h (by omega), ha.atP, ocase_some']
        have f0 : ((0 : Int) != (0 : Int)) = false := rfl
        have f1 : (x.ino != s.ino) = false := by rw [hxi]; simp
        have f2 : (t.ino != s.ino) = false := by rw [hti]; simp
        simp only [f0, f1, f2, bcase_false]
        by_cases hk0 : 0 < k
        · have hne := h2 hk0
          rcases goAt_ok ha.go with ⟨e0, _⟩ | ⟨d, n', ns', _, g2, g3, g4, g5, g6⟩
          · exact absurd e0 hne
          · have hd := findK_some g2
            have hino : inoE t.name d.entries ≠ 0 := by
              rw [g5, ← g6, hti]
              have := h.pos x (findK_some ha.there).1
              rw [hxi] at this; omega
            obtain ⟨e, _, _, _, he4⟩ := inoE_find hino
            rw [bc_t (by simp; omega), h.rget, ocase_some', getI_some g2, ref04_Find_ino (h.sm.ents d hd.1), ocase_some', he4, g2]
            simp only [Option.isSome_some, Bool.not_true, bcase_false]
            have f3 : (inoE t.name d.entries != t.ino) = false := by rw [g5, ← g6]; simp
            rw [f3, bcase_false, lcase_le (by unfold LIM; simp; omega), lcase_le (by unfold LIM; simp; omega)]
            rw [bc_f (by simp; omega), place_At_eq h (by simp; omega), ocase_some']
            by_cases hk2 : x.kind = 2
            · rw [bc_f (by simp [hk2])]; exact hr
            · rw [bc_t (by simp [hk2]), bc_f (by rw [beqI]; simpa using atP_more ha hk2 name)]; exact hr
        · have hk0' : k = 0 := by omega
          subst hk0'
          obtain ⟨rfl, rfl⟩ := h1 rfl
          have hk2 : x.kind = 2 := by
            obtain ⟨r, hr1, hr2, _⟩ := htr.root
            have := ha.there
            simp only at this
            rw [hr1] at this
            cases this
            exact hr2
          rw [bc_f (by simp), lcase_le (by unfold LIM; simp), lcase_le (by unfold LIM; simp; omega), bc_t (by simp), lcase_le (by unfold LIM; simp; omega), place_At_eq h (by simp; omega), ocase_some', bc_f (by simp [hk2])]
          exact hr
      · simp only [law09_PlaceBack_L5]
        rw [dec_ge (Nat.le_refl _), bcase_false]
end Go.Eng
set_option linter.unusedSimpArgs false
set_option linter.unusedVariables false
set_option linter.unusedSectionVars false
namespace Go.Eng
open Go
theorem consP {α : Type} (a : α) (l : List α) : decide ((List.length (a :: l) : Int) > (0 : Int)) = true := by
  simp only [List.length_cons, decide_eq_true_eq]; omega
theorem concat_L11 {R : Type} (a b r : List Str) (hr : r.length = a.length + b.length) (hl : a.length + b.length ≤ 1000000) (k2 : Nat → List Str → Option R) : slices_Concat_string_L11 0 [a, b] ((List.length [a, b] : Nat) : Int) k2 FUEL 0 (0 : Int) r = k2 (a.length + b.length) (a ++ b) := by
  obtain ⟨m, hm⟩ := fuel3
  rw [hm]
  have w1 : IntKind.i64.wrap ((0 : Int) + 1) = 1 := by rw [wrap_id (by omega) (by omega)]; rfl
  have w2 : IntKind.i64.wrap ((1 : Int) + 1) = 2 := by rw [wrap_id (by omega) (by omega)]; rfl
  simp only [slices_Concat_string_L11]
  have g0 : ([a, b] : List (List Str))[Int.toNat (0 : Int)]? = some a := rfl
  have g1 : ([a, b] : List (List Str))[Int.toNat (1 : Int)]? = some b := rfl
  rw [bc_t (by simp), bc_t (by decide), g0, ocase_some', bc_t (by simp; omega), w1, bc_t (by simp), bc_t (by decide), g1, ocase_some', w2]
  have e1 : (r.take (0 + 0) ++ (a ++ r.drop (0 + 0 + a.length))) = a ++ r.drop a.length := by simp
  rw [e1]
  have hl1 : (a ++ r.drop a.length).length = a.length + b.length := by simp; omega
  rw [bc_t (by rw [hl1]; simp), bc_f (by simp)]
  congr 1
  · omega
  · have e2 : (a ++ r.drop a.length).take (0 + (0 + a.length)) = a := by simp
    have e3 : (a ++ r.drop a.length).drop (0 + (0 + a.length) + b.length) = [] := by rw [List.drop_eq_nil_of_le]; rw [hl1]; omega
    rw [e2, e3]; simp
theorem concat_eq (a b : List Str) (hl : a.length + b.length ≤ 1000000) : slices_Concat_string [a, b] = some (a ++ b) := by
  unfold slices_Concat_string
  have w1 : IntKind.i64.wrap ((0 : Int) + 1) = 1 := by rw [wrap_id (by omega) (by omega)]; rfl
  have w2 : IntKind.i64.wrap ((1 : Int) + 1) = 2 := by rw [wrap_id (by omega) (by omega)]; rfl
  have g0 : ([a, b] : List (List Str))[Int.toNat (0 : Int)]? = some a := rfl
  have g1 : ([a, b] : List (List Str))[Int.toNat (1 : Int)]? = some b := rfl
  have key : ∀ (k0 : Int → Option (List Str)), slices_Concat_string_L3 [a, b] (List.length [a, b] : Int) k0 FUEL (0 : Int) (0 : Int) = k0 ((a.length + b.length : Nat) : Int) := by
    intro k0
    obtain ⟨m, hm⟩ := fuel3
    rw [hm]
    simp only [slices_Concat_string_L3]
    have s1 : IntKind.i64.wrap ((0 : Int) + (List.length a : Int)) = (a.length : Int) := by rw [wrap_id (by omega) (by omega)]; omega
    have s2 : IntKind.i64.wrap ((List.length a : Int) + (List.length b : Int)) = ((a.length + b.length : Nat) : Int) := by rw [wrap_id (by omega) (by omega)]; omega
    rw [bc_t (by simp), bc_t (by decide), g0, ocase_some', s1, bc_f (by simp), w1, bc_t (by simp), bc_t (by decide), g1, ocase_some', s2, bc_f (by simp; omega), w2, bc_f (by simp)]
  rw [key]
  have s0 : IntKind.i64.wrap ((0 : Int) - (List.length ([] : List Str) : Int)) = 0 := by rw [wrap_id (by simp) (by simp)]; rfl
  rw [s0]
  have s1 : IntKind.i64.wrap (((a.length + b.length : Nat) : Int) - 0) = ((a.length + b.length : Nat) : Int) := by rw [wrap_id (by omega) (by omega)]; omega
  rw [s1, bc_f (by simp; omega)]
  have fin : ∀ (r : List Str), r.length = a.length + b.length → slices_Concat_string_L11 0 [a, b] (List.length [a, b] : Int) (fun z22 z23 => bcase (Nat.ble (0 + z22) z23.length) (some ((z23.drop 0).take z22)) (none)) FUEL 0 (0 : Int) r = some (a ++ b) := by
    intro r hr
    rw [concat_L11 a b r hr hl, bc_t (by simp)]
    rw [List.drop_zero, List.take_of_length_le (by simp)]
  by_cases h0 : a.length + b.length = 0
  · rw [bc_f (by simp; omega)]
    exact fin [] (by simp; omega)
  · rw [bc_t (by simp; omega), bc_t (by simp; omega), lcase_le (by unfold LIM; simp; omega), bc_t (by simp; omega)]
    exact fin _ (by simp; omega)
structure WS (f : Fs) : Prop where
  wf : WF f
  par : ∀ x ∈ f.inodes, x.kind = 2 → ∃ y, findI x.parent f.inodes = some y ∧ y.kind = 2
  sym : ∀ x ∈ f.inodes, x.kind = 3 → x.data.length ≤ 4095
  rootk : ∃ r, findI 1 f.inodes = some r ∧ r.kind = 2
theorem kind_sym {x : Inode} (h : kindB x = true) (hk : x.kind = 3) : x.data.length ≤ 4095 ∧ 1 ≤ x.data.length := by
  rw [kind3 hk] at h
  simp only [Bool.and_eq_true, decide_eq_true_eq] at h
  exact ⟨h.2.2.1.2, h.2.2.1.1⟩
theorem Tree.ws {f : Fs} (h : Tree f) (hw : WF f) : WS f where
  wf := hw
  par := fun x hx hk => by
    obtain ⟨r, hr, hk', hp⟩ := h.root
    by_cases h1 : x.ino = 1
    · have := findI_mem' h.sort hx h1
      rw [hr] at this
      cases this
      exact ⟨_, by rw [hp]; exact hr, hk'⟩
    · obtain ⟨d, hd, e, he, hn⟩ := (h.led x hx).named h1
      have := h.par x hx hk d hd e he hn
      exact ⟨d, by rw [this]; exact findI_mem h.sort hd, kind_ents (h.kind d hd) he⟩
  sym := fun x hx hk => (kind_sym (h.kind x hx) hk).1
  rootk := by obtain ⟨r, hr, hk, _⟩ := h.root; exact ⟨r, hr, hk⟩
def endP (l : List Inode) (dir : Bool) (s : Spotted) : Spotted × Int := match findI s.ino l with
  | some x => if dir = true ∧ x.kind ≠ 2 then (zeroS, 3) else (s, 0)
  | none => (s, 0)
def stepIn (l : List Inode) (fol : Bool) (lnk : Bool → Inode → Inode → List Str → Spotted × Int) (dir : Bool) : List Str → Spotted → Spotted × Int
  | [], s => endP l dir s
  | n :: rest, s => match findI s.ino l with
    | none => (zeroS, 1)
    | some d => if d.kind = 2 then (if n = [46] then stepIn l fol lnk dir rest ⟨0, [], d.ino⟩ else if n = [46, 46] then stepIn l fol lnk dir rest ⟨0, [], d.parent⟩
        else if (getI (inoE n d.entries) l).kind = 3 ∧ (rest ≠ [] ∨ fol = true ∨ dir = true) then lnk dir (getI (inoE n d.entries) l) d rest
        else stepIn l fol lnk dir rest ⟨d.ino, n, inoE n d.entries⟩) else (zeroS, 3)
def onK (l : List Inode) (fol : Bool) : Nat → Bool → List Str → Spotted → Spotted × Int
  | 0 => stepIn l fol fun _ _ _ _ => (zeroS, 6)
  | k + 1 => stepIn l fol fun dir x d rest => if longP x.data = true then (zeroS, 7) else onK l fol k (dir || ((readP x.data).slash && rest.isEmpty)) ((readP x.data).names ++ rest) ⟨0, [], if (readP x.data).abs = true then 1 else d.ino⟩
def homeP (f : Fs) (base : Str) : Int × Int := if (getP f base).2 = 0 then (if (getP f base).1.kind = 2 then ((getP f base).1.ino, 0) else (0, 3)) else (0, (getP f base).2)
def seekP (f : Fs) (base p : Str) (fol : Bool) : Spotted × Int :=
  if p = [] then (zeroS, 1) else if longP p = true then (zeroS, 7) else
  if (readP p).abs = true then onK f.inodes fol 40 (readP p).slash (readP p).names rootS else
  if (homeP f base).2 = 0 then onK f.inodes fol 40 (readP p).slash (readP p).names ⟨0, [], (homeP f base).1⟩ else (zeroS, (homeP f base).2)
def lnkK (l : List Inode) (fol : Bool) : Nat → Bool → Inode → Inode → List Str → Spotted × Int
  | 0 => fun _ _ _ _ => (zeroS, 6)
  | k + 1 => fun dir x d rest => if longP x.data = true then (zeroS, 7) else onK l fol k (dir || ((readP x.data).slash && rest.isEmpty)) ((readP x.data).names ++ rest) ⟨0, [], if (readP x.data).abs = true then 1 else d.ino⟩
theorem onK_eq (l : List Inode) (fol : Bool) (k : Nat) : onK l fol k = stepIn l fol (lnkK l fol k) := by cases k <;> rfl
section
variable {l : List Inode} {fol dir : Bool} {lnk : Bool → Inode → Inode → List Str → Spotted × Int} {n : Str} {rest : List Str} {s : Spotted} {d : Inode}
theorem stepIn_none (hf : findI s.ino l = none) : stepIn l fol lnk dir (n :: rest) s = (zeroS, 1) := by simp only [stepIn]; rw [hf]
theorem stepIn_file (hf : findI s.ino l = some d) (hk : d.kind ≠ 2) : stepIn l fol lnk dir (n :: rest) s = (zeroS, 3) := by simp only [stepIn]; rw [hf]; simp only; rw [if_neg hk]
theorem stepIn_dot (hf : findI s.ino l = some d) (hk : d.kind = 2) (hn : n = [46]) : stepIn l fol lnk dir (n :: rest) s = stepIn l fol lnk dir rest ⟨0, [], d.ino⟩ := by simp only [stepIn]; rw [hf]; simp only; rw [if_pos hk, if_pos hn]
theorem stepIn_up (hf : findI s.ino l = some d) (hk : d.kind = 2) (hn : n = [46, 46]) : stepIn l fol lnk dir (n :: rest) s = stepIn l fol lnk dir rest ⟨0, [], d.parent⟩ := by simp only [stepIn]; rw [hf]; simp only; rw [if_pos hk, if_neg (by rw [hn]; decide), if_pos hn]
theorem stepIn_link (hf : findI s.ino l = some d) (hk : d.kind = 2) (h1 : n ≠ [46]) (h2 : n ≠ [46, 46]) (h3 : (getI (inoE n d.entries) l).kind = 3 ∧ (rest ≠ [] ∨ fol = true ∨ dir = true)) : stepIn l fol lnk dir (n :: rest) s = lnk dir (getI (inoE n d.entries) l) d rest := by simp only [stepIn]; rw [hf]; simp only; rw [if_pos hk, if_neg h1, if_neg h2, if_pos h3]
theorem stepIn_on (hf : findI s.ino l = some d) (hk : d.kind = 2) (h1 : n ≠ [46]) (h2 : n ≠ [46, 46]) (h3 : ¬ ((getI (inoE n d.entries) l).kind = 3 ∧ (rest ≠ [] ∨ fol = true ∨ dir = true))) : stepIn l fol lnk dir (n :: rest) s = stepIn l fol lnk dir rest ⟨d.ino, n, inoE n d.entries⟩ := by simp only [stepIn]; rw [hf]; simp only; rw [if_pos hk, if_neg h1, if_neg h2, if_neg h3]
end
theorem readP_names (s : Str) : (readP s).names = namesP s := rfl
theorem namesP_len' (s : Str) : (namesP s).length ≤ s.length + 1 := by have := namesP_len s; omega
theorem getI_kind3 {f : Fs} {i : Int} (h : (getI i f.inodes).kind = 3) : ∃ x, findI i f.inodes = some x ∧ getI i f.inodes = x := by
  cases hf : findI i f.inodes with
  | none => rw [getI_none hf] at h; cases h
  | some x => exact ⟨x, rfl, getI_some hf⟩
def wt : Nat → Nat
  | 0 => 0
  | k + 1 => wt k + 210000
theorem wt40 : wt 40 = 8400000 := rfl
theorem seek_loop {f : Fs} (h : WS f) (fol : Bool) (kr : Int → Option (Spotted × Int)) (k0 : Bool → (List Str) → Int → Str → Int → Int → Option (Spotted × Int)) (hkr : ∀ z, kr z = some (zeroS, z)) (hk0 : ∀ dir s z, k0 dir [] s.dir s.name s.ino z = some (endP f.inodes dir s)) :
    ∀ (n k : Nat) (dir : Bool) (todo : List Str) (s : Spotted), k ≤ 40 → todo.length ≤ 5000 * (41 - k) → wt k + todo.length < n →
      seek_Seek_25_L1 f.maxInodes f.maxBytes f.next f.inodes fol kr k0 n dir todo s.dir s.name s.ino ((40 - k : Nat) : Int) = some (onK f.inodes fol k dir todo s) := by
  intro n
  induction n with
  | zero => intro k dir todo s _ _ h; omega
  | succ n ih =>
    intro k dir todo s hk ht hn
    simp only [seek_Seek_25_L1]
    rw [onK_eq]
    cases todo with
    | nil => rw [bc_f (by simp)]; exact hk0 _ _ _
    | cons nm rest =>
      have hti : Int.toNat (0 : Int) = 0 := rfl
      have ht1 : Int.toNat (1 : Int) = 1 := rfl
      simp only [List.length_cons] at ht hn
      have ih' : ∀ (s' : Spotted), seek_Seek_25_L1 f.maxInodes f.maxBytes f.next f.inodes fol kr k0 n dir rest s'.dir s'.name s'.ino ((40 - k : Nat) : Int) = some (stepIn f.inodes fol (lnkK f.inodes fol k) dir rest s') := fun s' => by
        rw [ih k dir rest s' hk (by omega) (by omega), onK_eq]
      rw [bc_t (consP _ _), bc_t (by decide), hti, List.getElem?_cons_zero, ocase_some', ht1, bc_t (by simp; omega), List.drop_one, List.tail_cons]
      have hget : ∀ m, table_Get (⟨f.maxInodes, f.maxBytes, f.next, f.inodes⟩ : Fs) m = some (getI m f.inodes, (findI m f.inodes).isSome) := fun m => h.wf.get m
      rw [hget, ocase_some']
      cases hf : findI s.ino f.inodes with
      | none => rw [stepIn_none hf, bc_t (by simp), hkr]
      | some d =>
        simp only [Option.isSome_some, Bool.not_true, bcase_false]
        rw [getI_some hf, bneI]
        by_cases hk2 : d.kind = 2
        case neg => rw [stepIn_file hf hk2, bc_t (by simp [hk2]), hkr]
        rw [bc_f (by simp [hk2])]
        by_cases hd1 : nm = [46]
        · rw [stepIn_dot hf hk2 hd1, bc_t (by simp [hd1])]; exact ih' ⟨0, [], d.ino⟩
        rw [bc_f (by simp [hd1])]
        by_cases hd2 : nm = [46, 46]
        · rw [stepIn_up hf hk2 hd2, bc_t (by simp [hd2])]; exact ih' ⟨0, [], d.parent⟩
        have hdm := h.wf.found hf
        rw [bc_f (by simp [hd2]), entry_Find_ino (h.wf.sortE hdm.1) (h.wf.sm.ents d hdm.1), ocase_some', hget, ocase_some']
        simp only
        rw [beqI]
        by_cases hk3 : (getI (inoE nm d.entries) f.inodes).kind = 3
        · obtain ⟨x, hx, hgx⟩ := getI_kind3 hk3
          rw [hgx] at hk3
          have hxm := h.wf.found hx
          have hxl := h.sym x hxm.1 hk3
          rw [hgx, bc_t (by simp [hk3])]
          have hnl : (namesP x.data).length ≤ 4096 := by have := namesP_len' x.data; omega
          have blk : bcase (decide ((IntKind.i64.wrap (((40 - k : Nat) : Int) + (1 : Int))) > (40 : Int))) ((kr (6 : Int))) (ocase (path_Long x.data) fun y26 =>
    bcase y26 ((kr (7 : Int))) (ocase (path_Read x.data) fun y27 =>
    bcase dir (ocase (slices_Concat_string [y27.names, rest]) fun y28 =>
    bcase y27.abs ((seek_Seek_25_L1 f.maxInodes f.maxBytes f.next f.inodes fol kr k0 n true y28 0 [] (1 : Int) (IntKind.i64.wrap (((40 - k : Nat) : Int) + (1 : Int))))) ((seek_Seek_25_L1 f.maxInodes f.maxBytes f.next f.inodes fol kr k0 n true y28 0 [] d.ino (IntKind.i64.wrap (((40 - k : Nat) : Int) + (1 : Int)))))) (
    bcase y27.slash (ocase (slices_Concat_string [y27.names, rest]) fun y29 =>
    bcase y27.abs ((seek_Seek_25_L1 f.maxInodes f.maxBytes f.next f.inodes fol kr k0 n ((List.length rest : Int) == (0 : Int)) y29 0 [] (1 : Int) (IntKind.i64.wrap (((40 - k : Nat) : Int) + (1 : Int))))) ((seek_Seek_25_L1 f.maxInodes f.maxBytes f.next f.inodes fol kr k0 n ((List.length rest : Int) == (0 : Int)) y29 0 [] d.ino (IntKind.i64.wrap (((40 - k : Nat) : Int) + (1 : Int)))))) (ocase (slices_Concat_string [y27.names, rest]) fun y30 =>
    bcase y27.abs ((seek_Seek_25_L1 f.maxInodes f.maxBytes f.next f.inodes fol kr k0 n false y30 0 [] (1 : Int) (IntKind.i64.wrap (((40 - k : Nat) : Int) + (1 : Int))))) ((seek_Seek_25_L1 f.maxInodes f.maxBytes f.next f.inodes fol kr k0 n false y30 0 [] d.ino (IntKind.i64.wrap (((40 - k : Nat) : Int) + (1 : Int))))))))) = some (lnkK f.inodes fol k dir x d rest) := by
            cases k with
            | zero =>
              have e : IntKind.i64.wrap (((40 - 0 : Nat) : Int) + 1) = 41 := by rw [wrap_id (by omega) (by omega)]; rfl
              rw [e, bc_t (by decide), hkr]; rfl
            | succ k =>
              have e : IntKind.i64.wrap (((40 - (k + 1) : Nat) : Int) + 1) = ((40 - k : Nat) : Int) := by rw [wrap_id (by omega) (by omega)]; omega
              rw [e, bc_f (by simp; omega), path_Long_eq (by omega), ocase_some']
              simp only [lnkK]
              cases hlong : longP x.data
              case true => rw [bcase_true, hkr, if_pos rfl]
              rw [bcase_false, path_Read_eq (by omega), ocase_some', if_neg (by simp)]
              have hcat : slices_Concat_string [(readP x.data).names, rest] = some ((readP x.data).names ++ rest) := concat_eq _ _ (by rw [readP_names]; omega)
              have go : ∀ (dir' : Bool), bcase (readP x.data).abs (seek_Seek_25_L1 f.maxInodes f.maxBytes f.next f.inodes fol kr k0 n dir' ((readP x.data).names ++ rest) 0 [] (1 : Int) ((40 - k : Nat) : Int)) (seek_Seek_25_L1 f.maxInodes f.maxBytes f.next f.inodes fol kr k0 n dir' ((readP x.data).names ++ rest) 0 [] d.ino ((40 - k : Nat) : Int)) = some (onK f.inodes fol k dir' ((readP x.data).names ++ rest) ⟨0, [], if (readP x.data).abs = true then 1 else d.ino⟩) := by
                intro dir'
                have hlen : ((readP x.data).names ++ rest).length ≤ rest.length + 4096 := by rw [List.length_append, readP_names]; omega
                have b1 : ((readP x.data).names ++ rest).length ≤ 5000 * (41 - k) := by clear ih ih'; omega
                have b2 : wt k + ((readP x.data).names ++ rest).length < n := by clear ih ih'; simp only [wt] at hn; omega
                cases (readP x.data).abs
                · exact ih k dir' _ ⟨0, [], d.ino⟩ (by omega) b1 b2
                · exact ih k dir' _ ⟨0, [], 1⟩ (by omega) b1 b2
              simp only [hcat, ocase_some', go]
              cases dir
              · rw [bcase_false]
                cases (readP x.data).slash
                · simp
                · rw [bcase_true]
                  congr 2
                  cases rest <;> simp <;> omega
              · rw [bcase_true, Bool.true_or]
          by_cases hr : rest = []
          · subst hr
            rw [bc_f (by simp)]
            cases fol
            · rw [bcase_false]
              cases dir
              · rw [bcase_false, stepIn_on hf hk2 hd1 hd2 (by simp)]
                exact ih' ⟨d.ino, nm, inoE nm d.entries⟩
              · rw [bcase_true, stepIn_link hf hk2 hd1 hd2 ⟨by rw [hgx]; exact hk3, Or.inr (Or.inr rfl)⟩, hgx]
                exact blk
            · rw [bcase_true, stepIn_link hf hk2 hd1 hd2 ⟨by rw [hgx]; exact hk3, Or.inr (Or.inl rfl)⟩, hgx]
              exact blk
          · rw [bc_t (by cases rest with | nil => exact absurd rfl hr | cons a b => exact consP _ _), stepIn_link hf hk2 hd1 hd2 ⟨by rw [hgx]; exact hk3, Or.inl hr⟩, hgx]
            exact blk
        · rw [bc_f (by simp [hk3]), stepIn_on hf hk2 hd1 hd2 (fun h9 => hk3 h9.1)]
          exact ih' ⟨d.ino, nm, inoE nm d.entries⟩
theorem seek_Home_eq {f : Fs} (h : WF f) {base : Str} (hb : base.length ≤ 8388608) : seek_Home f base = some (homeP f base) := by
  unfold seek_Home homeP
  rw [place_Get_eq h hb, ocase_some', bneI, bneI]
  by_cases h1 : (getP f base).2 = 0
  · rw [bc_f (by simp [h1]), if_pos h1]
    by_cases h2 : (getP f base).1.kind = 2
    · rw [bc_f (by simp [h2]), if_pos h2]
    · rw [bc_t (by simp [h2]), if_neg h2]
  · rw [bc_t (by simp [h1]), if_neg h1]
theorem longP_len {p : Str} (h : longP p = false) : p.length ≤ 4095 := by
  unfold longP at h
  simp only [Bool.or_eq_false_iff, decide_eq_false_iff_not] at h
  omega
theorem seek_Seek_eq {f : Fs} (h : WS f) {base p : Str} {fol : Bool} (hb : base.length ≤ 8388608) (hp : p.length ≤ 1073741823) : seek_Seek f base p fol = some (seekP f base p fol) := by
  unfold seek_Seek seekP
  by_cases h0 : p = []
  · rw [bc_t (by simp [h0]), if_pos h0]; rfl
  rw [bc_f (by simp [h0]), if_neg h0, path_Long_eq hp, ocase_some']
  cases hl : longP p
  case true => rw [bcase_true, if_pos rfl]; rfl
  have hlen := longP_len hl
  rw [bcase_false, if_neg (by simp), path_Read_eq hp, ocase_some']
  have hjudge : ∀ (z53 : Bool) (s : Spotted), (ocase (table_Get f s.ino) fun y59 => bcase y59.2 (bcase z53 (bcase (y59.1.kind != (2 : Int)) (some ((⟨0, [], 0⟩ : Spotted), (3 : Int))) (some ((⟨s.dir, s.name, s.ino⟩ : Spotted), (0 : Int)))) (some ((⟨s.dir, s.name, s.ino⟩ : Spotted), (0 : Int)))) (some ((⟨s.dir, s.name, s.ino⟩ : Spotted), (0 : Int)))) = some (endP f.inodes z53 s) := by
    intro z s
    rw [h.wf.get, ocase_some']
    unfold endP
    cases hf : findI s.ino f.inodes with
    | none => rfl
    | some x =>
      rw [getI_some hf, bneI]
      simp only [Option.isSome_some, bcase_true]
      cases z
      · simp
      · by_cases hk : x.kind = 2
        · simp [hk]
        · simp [hk]; rfl
  have hnm : (readP p).names.length ≤ 4096 := by rw [readP_names]; have := namesP_len' p; omega
  have go : ∀ (s : Spotted), seek_Seek_25_L1 f.maxInodes f.maxBytes f.next f.inodes fol (fun z52 => some ((⟨((⟨0, [], 0⟩ : Spotted).dir), ((⟨0, [], 0⟩ : Spotted).name), ((⟨0, [], 0⟩ : Spotted).ino)⟩ : Spotted), z52)) (fun z53 z54 z55 z56 z57 z58 => ocase (table_Get f z57) fun y59 =>
    bcase y59.2 (
    bcase z53 (
    bcase (y59.1.kind != (2 : Int)) (some ((⟨0, [], 0⟩ : Spotted), (3 : Int))) (some ((⟨z55, z56, z57⟩ : Spotted), (0 : Int)))) (some ((⟨z55, z56, z57⟩ : Spotted), (0 : Int)))) (some ((⟨z55, z56, z57⟩ : Spotted), (0 : Int)))) FUEL (readP p).slash (readP p).names s.dir s.name s.ino (0 : Int) = some (onK f.inodes fol 40 (readP p).slash (readP p).names s) := fun s =>
    seek_loop h fol _ _ (fun z => rfl) (fun dir s z => hjudge dir s) FUEL 40 (readP p).slash (readP p).names s (Nat.le_refl _) (by omega) (fuel_ok (by rw [wt40]; omega))
  cases (readP p).abs
  · simp only [Bool.not_false, bcase_true, Bool.false_eq_true, if_false]
    rw [seek_Home_eq h.wf hb, ocase_some', bneI]
    by_cases h2 : (homeP f base).2 = 0
    · rw [bc_f (by simp [h2]), if_pos h2]
      exact go ⟨0, [], (homeP f base).1⟩
    · rw [bc_t (by simp [h2]), bc_t (by simp [h2]), if_neg h2]; rfl
  · simp only [Bool.not_true, bcase_false, if_true]
    exact go rootS
theorem seek_Dir_eq {f : Fs} (h : WS f) {base p : Str} (hb : base.length ≤ 8388608) (hp : p.length ≤ 1073741823) : seek_Dir f base p = some (decide ((seekP f base p true).2 = 0) && ((findI (seekP f base p true).1.ino f.inodes).isSome && decide ((getI (seekP f base p true).1.ino f.inodes).kind = 2))) := by
  unfold seek_Dir
  rw [seek_Seek_eq h hb hp, ocase_some', h.wf.get, ocase_some', beqI, beqI]
  by_cases h1 : (seekP f base p true).2 = 0
  · rw [bc_t (by simp [h1])]
    cases (findI (seekP f base p true).1.ino f.inodes).isSome <;> simp [h1]
  · rw [bc_f (by simp [h1])]; simp [h1]
end Go.Eng
set_option linter.unusedSimpArgs false
set_option linter.unusedVariables false
set_option linter.unusedSectionVars false
namespace Go.Eng
open Go
def wsB (f : Fs) : Bool := wfB f && (f.inodes.all (fun x => !decide (x.kind = 2) || ((findI x.parent f.inodes).isSome && decide ((getI x.parent f.inodes).kind = 2))) && (f.inodes.all (fun x => !decide (x.kind = 3) || decide (x.data.length ≤ 4095)) && decide ((getI 1 f.inodes).kind = 2)))
theorem ws_of {f : Fs} (h : wsB f = true) : WS f := by
  unfold wsB at h
  simp only [Bool.and_eq_true, List.all_eq_true, Bool.or_eq_true, Bool.not_eq_true', decide_eq_false_iff_not, decide_eq_true_eq] at h
  obtain ⟨h1, h2, h3, h4⟩ := h
  have w := wf_of h1
  refine ⟨w, fun x hx hk => ?_, fun x hx hk => (h3 x hx).resolve_left (fun h => h hk), ?_⟩
  · have := (h2 x hx).resolve_left (fun h => h hk)
    obtain ⟨y, hy⟩ := Option.isSome_iff_exists.1 this.1
    rw [getI_some hy] at this
    exact ⟨y, hy, this.2⟩
  · obtain ⟨y, hy⟩ := Option.isSome_iff_exists.1 w.root
    rw [getI_some hy] at h4
    exact ⟨y, hy, h4⟩
def small10 : Fs := ⟨9, 9, 9, [⟨1, 2, 0, [], 1, [⟨[100], 3⟩, ⟨[115], 5⟩]⟩, ⟨3, 2, 1, [], 1, [⟨[102], 4⟩]⟩, ⟨4, 1, 1, [], 0, []⟩, ⟨5, 3, 1, [100, 47], 0, []⟩]⟩
theorem small10_eq : law10_small = some small10 := by
  unfold law10_small
  have e1 : ref05_New 9 9 = some ⟨9, 9, 2, [⟨1, 2, 0, [], 1, []⟩]⟩ := rfl
  rw [e1, ocase_some', ref05_Set_eq (by decide), ocase_some', ref05_Set_eq (by decide), ocase_some', ref05_Set_eq (by decide), ocase_some', ref05_Set_eq (by decide), ocase_some']
  rfl
theorem awake10 : law10_awake = some true := by
  unfold law10_awake
  rw [small10_eq, ocase_some']
  have w : WS small10 := ws_of (by decide +kernel)
  rw [seek_Seek_eq w (by decide) (by decide), ocase_some', seek_Seek_eq w (by decide) (by decide), ocase_some', seek_Seek_eq w (by decide) (by decide), ocase_some', seek_Seek_eq w (by decide) (by decide), ocase_some', seek_Seek_eq w (by decide) (by decide), ocase_some', seek_Seek_eq w (by decide) (by decide), ocase_some', seek_Home_eq w.wf (by decide), ocase_some', seek_Dir_eq w (by decide) (by decide), seek_Dir_eq w (by decide) (by decide)]
  simp only [ocase_some', bcase_ite]
  rw [if_pos (by decide +kernel), if_pos (by decide +kernel), if_pos (by decide +kernel), if_pos (by decide +kernel), if_pos (by decide +kernel), if_pos (by decide +kernel), if_pos (by decide +kernel), if_pos (by decide +kernel), if_pos (by decide +kernel), if_pos (by decide +kernel), if_pos (by decide +kernel), if_pos (by decide +kernel), if_pos (by decide +kernel)]
  congr 1
theorem last_drop {s : Str} (h : s ≠ []) : s.drop (s.length - 1) = [s.getLast h] := by
  have := List.dropLast_concat_getLast h
  conv => lhs; rw [← this]
  rw [List.drop_append_of_le_length (by simp)]
  simp
theorem last_app {a b : Str} (h : b ≠ []) : (a ++ b).drop ((a ++ b).length - 1) = b.drop (b.length - 1) := by
  have hb : 0 < b.length := List.length_pos_iff.2 h
  rw [List.drop_append, List.drop_eq_nil_of_le (by simp; omega), List.nil_append]
  congr 1
  simp; omega
theorem nm_last {x : Str} (h : Nm x) : (x.drop (x.length - 1) == [47]) = false := by
  rw [last_drop h.1, beq_eq_false_iff_ne]
  intro e
  have := h.2 (x.getLast h.1) (List.getLast_mem h.1)
  simp at e
  exact this e
theorem joinP_47 (ns : List Str) : ∃ r, joinP ns = 47 :: r := by
  cases ns with
  | nil => exact ⟨[], rfl⟩
  | cons x ns => exact ⟨_, joinP_cons x ns⟩
theorem joinP_ne_nil (ns : List Str) : joinP ns ≠ [] := by obtain ⟨r, hr⟩ := joinP_47 ns; rw [hr]; simp
theorem joinP_last {ns : List Str} (h : ∀ x ∈ ns, Nm x) (h0 : ns ≠ []) : ((joinP ns).drop ((joinP ns).length - 1) == [47]) = false := by
  rcases List.eq_nil_or_concat ns with rfl | ⟨ns', x, rfl⟩
  · exact absurd rfl h0
  · rw [List.concat_eq_append] at h ⊢
    have hx := h x (by simp)
    have e : joinP (ns' ++ [x]) = ((ns'.flatMap fun x => 47 :: x) ++ [47]) ++ x := by
      unfold joinP
      rw [if_neg (by simp)]
      simp
    rw [e, last_app hx.1]
    exact nm_last hx
theorem readP_join {ns : List Str} (h : ∀ x ∈ ns, Nm x) : readP (joinP ns) = ⟨true, ns, false⟩ := by
  obtain ⟨r, hr⟩ := joinP_47 ns
  unfold readP
  rw [namesP_join h]
  have e1 : ((joinP ns).take 1 == [47]) = true := by rw [hr]; simp
  rw [e1]
  by_cases h0 : ns = []
  · subst h0; rfl
  · rw [joinP_last h h0]; simp
theorem readP_name {x : Str} (h : Nm x) : readP x = ⟨false, [x], false⟩ := by
  unfold readP
  rw [namesP_one h, nm_last h]
  have e1 : (x.take 1 == [47]) = false := by
    rw [beq_eq_false_iff_ne]
    intro e
    cases x with
    | nil => exact h.1 rfl
    | cons c x => simp at e; exact h.2 c (by simp) e
  rw [e1]; rfl
theorem longP_of {p : Str} (h : ∀ x ∈ namesP p, x.length ≤ 255) (hl : p.length ≤ 4095) : longP p = false := by
  unfold longP
  rw [Bool.or_eq_false_iff, List.any_eq_false, decide_eq_false_iff_not]
  exact ⟨fun x hx => by have := h x hx; simp; omega, by omega⟩
theorem stepIn_app {f : Fs} {fol dir : Bool} {lnk : Bool → Inode → Inode → List Str → Spotted × Int} {rest : List Str} {t : Spotted} : ∀ {ns : List Str} {s : Spotted}, (∀ n ∈ ns, mayN n = true) → goAt f.inodes ns s = (t, 0) → (ns ≠ [] → (rest ≠ [] ∨ fol = true ∨ dir = true) → (getI t.ino f.inodes).kind ≠ 3) →
    stepIn f.inodes fol lnk dir (ns ++ rest) s = stepIn f.inodes fol lnk dir rest t
  | [], s, _, hg, _ => by simp [goAt] at hg; rw [hg]; rfl
  | n :: ns, s, hm, hg, h3 => by
    have hn := mayN_dot (hm n (by simp))
    cases hf : findI s.ino f.inodes with
    | none => rw [goAt_none hf] at hg; simp at hg
    | some d =>
      by_cases hk : d.kind = 2
      · rw [goAt_dir hf hk] at hg
        rw [List.cons_append, stepIn_on hf hk hn.1 hn.2]
        · exact stepIn_app (fun m hm' => hm m (by simp [hm'])) hg (fun h1 h2 => h3 (by simp) h2)
        · rintro ⟨k3, hc⟩
          cases ns with
          | nil =>
            simp [goAt] at hg
            rw [← hg] at h3
            exact h3 (by simp) (by simpa using hc) k3
          | cons m ns =>
            obtain ⟨x, hx, hgx⟩ := getI_kind3 k3
            rw [hgx] at k3
            rw [goAt_file (d := x) (by exact hx) (by omega)] at hg
            simp at hg
      · rw [goAt_file hf hk] at hg; simp at hg
theorem stepIn_go {f : Fs} {lnk : Bool → Inode → Inode → List Str → Spotted × Int} {t : Spotted} {ns : List Str} {s : Spotted} (hm : ∀ n ∈ ns, mayN n = true) (hg : goAt f.inodes ns s = (t, 0)) : stepIn f.inodes false lnk false ns s = (t, 0) := by
  have := stepIn_app (f := f) (fol := false) (dir := false) (lnk := lnk) (rest := []) hm hg (fun _ h => by simp at h)
  rw [List.append_nil] at this
  rw [this]
  show endP f.inodes false t = (t, 0)
  unfold endP
  split <;> simp
theorem seekP_plain {f : Fs} {base : Str} {ns : List Str} {t : Spotted} (hm : ∀ n ∈ ns, mayN n = true) (hg : goAt f.inodes ns rootS = (t, 0)) (hl : (joinP ns).length ≤ 4095) : seekP f base (joinP ns) false = (t, 0) := by
  have hnm := fun x hx => mayN_nm (hm x hx)
  unfold seekP
  rw [if_neg (joinP_ne_nil ns), if_neg (by rw [longP_of (by rw [namesP_join hnm]; exact fun x hx => mayN_len (hm x hx)) hl]; simp), readP_join hnm]
  simp only [if_true]
  rw [onK_eq]
  exact stepIn_go hm hg
theorem toNat_mod {n : Int} {m : Nat} (h0 : 0 ≤ n) (hm : 0 < m) : 0 ≤ Int.tmod n (m : Int) ∧ Int.toNat (Int.tmod n (m : Int)) < m := by
  have h1 := Int.tmod_nonneg (m : Int) h0
  have h2 := Int.tmod_lt_of_pos n (show (0 : Int) < (m : Int) by omega)
  omega
theorem u8_wrap {n : Int} (h0 : 0 ≤ n) (h1 : n < 256) : IntKind.i64.wrap n = n := wrap_id (by omega) (by omega)
theorem ref10_Short_eq {f : Fs} {base p : Str} (hl : f.inodes.length ≤ 1073741824) : ref10_Short f base p = some ((f.inodes.take 100).all (fun x => !decide (x.kind = 3) || decide (x.data.length ≤ 300)) && (decide (base.length ≤ 1000) && decide (p.length ≤ 5000))) := by
  unfold ref10_Short
  have e0 : (bcase (decide ((List.length base : Int) ≤ (1000 : Int))) (some (decide ((List.length p : Int) ≤ (5000 : Int)))) (some false)) = some (decide (base.length ≤ 1000) && decide (p.length ≤ 5000)) := by
    by_cases h1 : base.length ≤ 1000
    · rw [bc_t (by simp; omega)]
      congr 1
      rw [Bool.eq_iff_iff]; simp [h1]; omega
    · rw [bc_f (by simp; omega)]; simp [h1]
  rw [e0]
  refine (loop_all (l := f.inodes.take 100) (fun n i (s : Unit) => ref10_Short_L2 f (some false) (some (decide (base.length ≤ 1000) && decide (p.length ≤ 5000))) n i) (fun _ x s K => if (!decide (x.kind = 3) || decide (x.data.length ≤ 300)) then K s else some false) (fun _ => some (decide (base.length ≤ 1000) && decide (p.length ≤ 5000))) (by simp; omega) (fun n k x s hk hx => ?_) (fun n s => ?_) ()).trans ?_
  · have hk' : k < f.inodes.length ∧ k < 100 := by simp at hk; omega
    have hx' : f.inodes[k]? = some x := by rw [List.getElem?_take_of_lt hk'.2] at hx; exact hx
    simp only [ref10_Short_L2]
    have h100 : decide ((k : Int) < (100 : Int)) = true := by simp; omega
    rw [dec_lt hk'.1, h100, dec_nn, toNat_cast, hx', wrap_succ (by omega)]
    simp only [bcase_true, ocase_some', beqI]
    by_cases h3 : x.kind = 3
    · rw [bc_t (by simp [h3])]
      by_cases h4 : x.data.length ≤ 300
      · rw [bc_f (by simp; omega)]; simp [h4]
      · rw [bc_t (by simp; omega)]; simp [h3, h4]
    · rw [bc_f (by simp [h3])]; simp [h3]
  · simp only [ref10_Short_L2]
    by_cases h : f.inodes.length ≤ 100
    · have e : (f.inodes.take 100).length = f.inodes.length := by simp; omega
      rw [e, dec_ge (Nat.le_refl _)]
      rfl
    · have e : (f.inodes.take 100).length = 100 := by simp; omega
      rw [e]
      have h1 : decide (((100 : Nat) : Int) < (f.inodes.length : Int)) = true := by simp; omega
      rw [h1]
      rfl
  · rw [all_foldT]
    by_cases h9 : (f.inodes.take 100).all (fun x => !decide (x.kind = 3) || decide (x.data.length ≤ 300)) = true
    · rw [if_pos h9, h9]; rfl
    · rw [if_neg h9]
      have : (f.inodes.take 100).all (fun x => !decide (x.kind = 3) || decide (x.data.length ≤ 300)) = false := by simpa using h9
      rw [this]; rfl
theorem short_le {f : Fs} {base p : Str} (hl : f.inodes.length ≤ 1073741824) (h : ref10_Short f base p = some true) : base.length ≤ 1000 ∧ p.length ≤ 5000 := by
  rw [ref10_Short_eq hl] at h
  simp only [Option.some.injEq, Bool.and_eq_true, decide_eq_true_eq] at h
  exact h.2
theorem ref10_Short_some {f : Fs} (base p : Str) (hl : f.inodes.length ≤ 1073741824) : ∃ b, ref10_Short f base p = some b ∧ (b = true → base.length ≤ 1000 ∧ p.length ≤ 5000) := by
  refine ⟨_, ref10_Short_eq hl, fun h => short_le (f := f) hl ?_⟩
  rw [ref10_Short_eq hl, h]
theorem SeekPlain_true {f : Fs} {base name : Str} {at' : Int} (hi : InF f) (h0 : 0 ≤ at') (h1 : at' < 256) : law10_SeekPlain f base at' name = some true := by
  unfold law10_SeekPlain
  rw [awake10]
  simp only [ocase_some', Bool.not_true, bcase_false]
  rw [ref07_Ok_eq hi.len hi.ents, ocase_some']
  cases ho : okF f
  · rfl
  obtain ⟨hs, hm, h⟩ := ok_sound ho
  have hfew := ((okF_iff f).1 ho).1
  have hl := Lil.of_few hfew
  have htr := (tr_iff f).1 hs
  have hws := htr.ws h
  have hf1 := (fewF_sm hfew).1
  rw [Bool.not_true, bcase_false]
  obtain ⟨b, hb1, hb2⟩ := ref10_Short_some base name hi.len
  rw [hb1, ocase_some']
  cases b
  · rfl
  obtain ⟨hb3, hb4⟩ := hb2 rfl
  rw [Bool.not_true, bcase_false, ref08_List_eq htr hl, ocase_some', u8_wrap h0 h1]
  obtain ⟨l, hl0⟩ := listP_root htr
  have hpos : 0 < (listP f).length := by rw [hl0]; simp
  obtain ⟨m1, m2⟩ := toNat_mod h0 hpos
  rw [bc_f (by rw [beqI, decide_eq_false_iff_not]; omega), bc_t (by simpa using m1), List.getElem?_eq_getElem m2, ocase_some']
  obtain ⟨ns, x, t, ha, q1, q2⟩ := list_at htr (List.getElem?_eq_getElem m2)
  generalize (listP f)[Int.toNat (Int.tmod at' ((listP f).length : Int))] = s at ha q1
  by_cases hp : s.path.length > 4095
  · rw [bc_t (by simp; omega)]
  rw [bc_f (by simp; omega), ref09_Get_eq h (by omega), ha.getP, ocase_some', seek_Seek_eq hws (by omega) (by omega), ocase_some', ref09_At_eq h (by omega), ha.atP, ocase_some']
  have hsp : seekP f base s.path false = (t, 0) := by rw [ha.path]; exact seekP_plain ha.may ha.go (by rw [← ha.path]; omega)
  rw [hsp, bneI, bc_f (by simp), bc_f (by simp), bneI]
  by_cases hk2 : x.kind = 2
  · rw [bc_f (by simp [hk2]), ref03_May_eq (by omega), ocase_some']
    cases hmay : mayN name
    · rfl
    · rw [Bool.not_true, bcase_false]
      by_cases hroot : s.path = [47]
      · rw [bc_t (by simp [hroot])]
      · rw [bc_f (by simp [hroot]), seek_Seek_eq hws (by omega) (by omega), ocase_some', lcase_le (by unfold LIM; simp; omega), lcase_le (by unfold LIM; simp; omega), ref09_At_eq h (by simp; omega), ocase_some']
        have hnm := fun x hx => mayN_nm (ha.may x hx)
        have hxi : findI t.ino f.inodes = some x := by rw [ha.ino]; exact ha.there
        have hx1 := findI_some hxi
        have hne : ns ≠ [] := fun e => by rw [ha.path, e] at hroot; exact hroot rfl
        have hat : atP f (s.path ++ [47] ++ name) = (⟨x.ino, name, inoE name x.entries⟩, 0) := by
          have e : s.path ++ [47] ++ name = joinP (ns ++ [name]) := by
            have := underP_join hnm name
            unfold underP at this
            rw [if_neg (joinP_ne hnm hne)] at this
            rw [ha.path, this]
          unfold atP
          have hmm : ∀ y ∈ ns ++ [name], mayN y = true := fun y hy => by
            simp only [List.mem_append, List.mem_singleton] at hy
            rcases hy with hy | rfl
            · exact ha.may y hy
            · exact hmay
          rw [e, plainP_join hmm, if_pos rfl]
          simp only
          rw [goAt_app, ha.go, if_pos rfl, goAt_dir hxi hk2]; rfl
        have hhome : homeP f s.path = (x.ino, 0) := by
          unfold homeP
          rw [ha.getP]
          simp only [if_true]
          rw [if_pos hk2]
        have hsk : seekP f s.path name false = (⟨x.ino, name, inoE name x.entries⟩, 0) := by
          unfold seekP
          have hnn := mayN_nm hmay
          rw [if_neg hnn.1, if_neg (by rw [longP_of (by rw [namesP_one hnn]; intro y hy; simp at hy; subst hy; exact mayN_len hmay) (by have := mayN_len hmay; omega)]; simp), readP_name hnn]
          simp only [Bool.false_eq_true, if_false]
          rw [hhome]
          simp only [if_true]
          rw [onK_eq, stepIn_on (d := x) (by show findI x.ino f.inodes = some x; rw [hx1.2]; exact hxi) hk2 (mayN_dot hmay).1 (mayN_dot hmay).2 (by simp)]
          show endP f.inodes false _ = _
          unfold endP
          split <;> simp
        rw [hat, hsk]
        simp
  · rw [bc_t (by simp [hk2])]
end Go.Eng
namespace Go.Eng
open Go
theorem inF_in {a b c : Int} {l : List Inode} (h : HL.ok 1048576 [.int .i64, .int .i64, .int .i64, .sl .inode] (a, b, c, l, ())) : InF ⟨a, b, c, l⟩ := by
  obtain ⟨_, _, _, ⟨h1, h2⟩, _⟩ := h
  have h3 : l.length ≤ 1048576 := h1
  exact ⟨by show l.length ≤ 1073741824; omega, fun x hx => by have : x.ok 1048576 := h2 x hx; have := this.2.2.2.2.2.1; omega⟩
theorem fs_in {v : HL.V [.int .i64, .int .i64, .int .i64, .sl .inode]} (h : HL.ok 1048576 [.int .i64, .int .i64, .int .i64, .sl .inode] v) : InF ⟨v.1, v.2.1, v.2.2.1, v.2.2.2.1⟩ := by
  obtain ⟨a, b, c, l, u⟩ := v
  exact inF_in h
end Go.Eng
