import Derived.Test.YtiaemhkkfjpdlaaRoomPlain
/- RoomMore and RoomFiles answer true. -/
set_option linter.unusedSimpArgs false
set_option linter.unusedVariables false
namespace Go.Eng
open Go

theorem byte_in {n : Int} (h : (Lit.int .u8 n).wf = true) : 0 ≤ n ∧ n < 256 := by
  simp [Lit.wf, IntKind.min, IntKind.max, IntKind.signed, IntKind.bits] at h
  omega

theorem insI_len (x : Inode) : ∀ l : List Inode, (insI x l).length = l.length + 1
  | [] => rfl
  | y :: l => by
    unfold insI
    split
    · rfl
    · simp [insI_len x l]

theorem insI_mem (x z : Inode) : ∀ l : List Inode, z ∈ insI x l → z = x ∨ z ∈ l
  | [], h => by simp [insI] at h; exact Or.inl h
  | y :: l, h => by
    unfold insI at h
    split at h
    · simp at h; rcases h with h | h | h
      · exact Or.inl h
      · right; simp [h]
      · right; simp [h]
    · simp at h
      rcases h with h | h
      · right; simp [h]
      · rcases insI_mem x z l h with h | h
        · exact Or.inl h
        · right; simp [h]

theorem insI_bytes (x : Inode) : ∀ l : List Inode, bytesOf (insI x l) = bytesOf (x :: l)
  | [] => rfl
  | y :: l => by
    unfold insI
    split
    · rfl
    · rw [bytesOf_cons, insI_bytes x l, bytesOf_cons, bytesOf_cons, bytesOf_cons]; omega

theorem getI_none {l : List Inode} {n : Int} (h : getI l n = none) : ∀ x ∈ l, x.ino ≠ n := by
  intro x hx e
  unfold getI at h
  rw [List.find?_eq_none] at h
  exact h x hx (by simp [e])

theorem setI_new {l : List Inode} {x : Inode} (h : ∀ y ∈ l, y.ino ≠ x.ino) : setI l x = insI x l := by
  unfold setI
  rw [List.filter_eq_self.2]
  intro y hy
  simp [h y hy]

theorem RoomMore_true {f : Fs} {x : Inode} {a b : Int} {N : Nat} (hN : N ≤ 1048576) (h : OkFs N f) (ha : 0 ≤ a ∧ a < 256) (hb : 0 ≤ b ∧ b < 256) : law06_RoomMore f x a b = some true := by
  unfold law06_RoomMore
  have hl := h.len (by omega)
  have hw1 : IntKind.i64.wrap a = a := wrap_id (by omega) (by omega)
  have hw2 : IntKind.i64.wrap b = b := wrap_id (by omega) (by omega)
  have h0 := bytesOf_nn f.inodes
  have hs := sum_small (by omega) h.1 h.data
  rw [law06_awake_eq, ref05_Few_eq hl (h.ent (by omega)), ref05_Get_eq hl]
  simp only [ocase_some', bcase_ite, Bool.not_true, Bool.false_eq_true, if_false]
  cases fewI f
  · rfl
  simp only [Bool.not_true, Bool.false_eq_true, if_false]
  by_cases hd : (x.data.length : Int) > 1000
  · rw [if_pos (by simpa using hd)]
  rw [if_neg (by simpa using hd)]
  cases hg : getI f.inodes x.ino with
  | some y => simp
  | none =>
    simp only [Bool.false_eq_true, if_false]
    have hn := getI_none hg
    have hset : setI f.inodes ⟨x.ino, 1, x.links, x.data, x.parent, x.entries⟩ = insI ⟨x.ino, 1, x.links, x.data, x.parent, x.entries⟩ f.inodes := setI_new hn
    rw [ref05_Set_eq hl, hset]
    simp only [ocase_some', room_Inodes_eq, insI_len]
    have hgl : (insI ⟨x.ino, 1, x.links, x.data, x.parent, x.entries⟩ f.inodes).length ≤ 1073741824 := by rw [insI_len]; have := h.1; omega
    have hgd : ∀ z ∈ insI ⟨x.ino, 1, x.links, x.data, x.parent, x.entries⟩ f.inodes, z.data.length ≤ 1073741824 := by
      intro z hz
      rcases insI_mem _ _ _ hz with rfl | hz
      · simp; omega
      · have := h.data z hz; omega
    have hby : bytesOf (insI ⟨x.ino, 1, x.links, x.data, x.parent, x.entries⟩ f.inodes) = bytesOf f.inodes + (x.data.length : Int) := by
      rw [insI_bytes, bytesOf_cons]; simp; omega
    have hF := fun (p q : Int) (hp : Far p) (hq : Far q) => room_Fits_eq (f := ⟨f.maxInodes, f.maxBytes, f.next, insI ⟨x.ino, 1, x.links, x.data, x.parent, x.entries⟩ f.inodes⟩) (a := p) (b := q) (Nat.le_refl 1073741824) hgl hgd hp hq
    rw [room_Bytes_eq (N := 1073741824) (by omega) hgl hgd, room_Bytes_eq (N := N) (by omega) h.1 h.data, hw1, hw2, hF a b (by unfold Far; omega) (by unfold Far; omega)]
    have w1 : IntKind.i64.wrap (a + 1) = a + 1 := wrap_id (by omega) (by omega)
    have w2 : IntKind.i64.wrap (b + (x.data.length : Int)) = b + (x.data.length : Int) := wrap_id (by omega) (by omega)
    have hll := h.1
    have w3 : IntKind.i64.wrap ((f.inodes.length : Int) + 1) = (f.inodes.length : Int) + 1 := wrap_id (by omega) (by omega)
    have w4 : IntKind.i64.wrap (bytesOf f.inodes + (x.data.length : Int)) = bytesOf f.inodes + (x.data.length : Int) := wrap_id (by omega) (by omega)
    rw [w1, w2, w3]
    rw [room_Fits_eq (N := N) (by omega) h.1 h.data (by unfold Far; omega) (by unfold Far; omega), room_Fits_eq (N := N) (by omega) h.1 h.data (by unfold Far; omega) (by unfold Far; omega), room_Fits_eq (N := N) (by omega) h.1 h.data (by unfold Far; omega) (by unfold Far; omega)]
    simp only [ocase_some', hby, w4, insI_len]
    have e1 : (((f.inodes.length + 1 : Nat) : Int) != (f.inodes.length : Int) + 1) = false := by simp
    rw [e1]
    simp only [Bool.false_eq_true, if_false, bne_self_eq_false]
    have e2 : fitsI ⟨f.maxInodes, f.maxBytes, f.next, insI ⟨x.ino, 1, x.links, x.data, x.parent, x.entries⟩ f.inodes⟩ a b = fitsI f (a + 1) (b + (x.data.length : Int)) := by
      unfold fitsI
      rw [hby]
      simp only [insI_len]
      congr 1
      · apply decide_eq_decide.2
        omega
      · apply decide_eq_decide.2
        omega
    rw [e2]
    simp only [beq_self_eq_true, if_true]
    cases h3 : fitsI f (a + 1) b
    · simp
    · simp only [Bool.not_true, Bool.false_eq_true, if_false]
      unfold fitsI at h3 ⊢
      simp at h3
      simp
      omega

def moreOk (N : Nat) (l : List Inode) : Prop := ∀ x ∈ l, x.data.length ≤ N

theorem at_mid {α : Type} {pre post : List α} {x : α} {k : Nat} (h : pre.length = k) : (pre ++ x :: post)[k]? = some x := by
  subst h; simp
theorem set_mid {α : Type} {pre post : List α} {x y : α} {k : Nat} (h : pre.length = k) : (pre ++ x :: post).set k y = pre ++ y :: post := by
  subst h; simp

theorem files_loop {R : Type} {N : Nat} (hN : N ≤ 1048576) (x5 : Int) (k0 : Int → List Inode → Option R) :
    ∀ (rest pre : List Inode) (n k : Nat), pre.length = k → rest.length < n → pre.length + rest.length ≤ N → moreOk N rest → moreOk (N + 4) pre → ((Int.tmod x5 2 == 1) = true → ∀ x ∈ pre, x.kind = 2) →
      ∃ l' : List Inode, l'.length = pre.length + rest.length ∧ moreOk (N + 4) l' ∧ law06_RoomFiles_L7 x5 k0 n (bytesOf pre) (k : Int) (pre ++ rest) = k0 (bytesOf l') l'
  | [], pre, n + 1, k, hk, hn, hl, hr, hp, ho => by
    refine ⟨pre, by simp, hp, ?_⟩
    simp only [law06_RoomFiles_L7, List.append_nil]
    rw [dec_ge (by omega)]
    rfl
  | x :: rest, pre, n + 1, k, hk, hn, hl, hr, hp, ho => by
    simp only [List.length_cons] at hl hn
    have hx := hr x (by simp)
    have hr' : moreOk N rest := fun y hy => hr y (by simp [hy])
    have hkk : k < (pre ++ x :: rest).length := by simp; omega
    have hpre := sum_small (N := N + 4) (l := pre) (by omega) (by omega) hp
    have hnn := bytesOf_nn pre
    have d1 : decide ((k : Int) < ((pre ++ x :: rest).length : Int)) = true := dec_lt hkk
    have d2 : decide (0 ≤ (k : Int) ∧ (k : Int) < ((pre ++ x :: rest).length : Int)) = true := dec_in hkk
    have w : IntKind.i64.wrap ((k : Int) + 1) = ((k + 1 : Nat) : Int) := wrap_succ (by omega)
    -- what comes behind
    have go : ∀ y : Inode, y.data.length ≤ N + 4 → ((Int.tmod x5 2 == 1) = true → y.kind = 2) → ∀ s, s = bytesOf (pre ++ [y]) →
        ∃ l' : List Inode, l'.length = pre.length + (rest.length + 1) ∧ moreOk (N + 4) l' ∧ law06_RoomFiles_L7 x5 k0 n s ((k + 1 : Nat) : Int) (pre ++ y :: rest) = k0 (bytesOf l') l' := by
      intro y hy hyk s hs
      subst hs
      have := files_loop hN x5 k0 rest (pre ++ [y]) n (k + 1) (by simp [hk]) (by omega) (by simp; omega) hr' (by intro z hz; simp at hz; rcases hz with hz | rfl; exact hp z hz; exact hy)
        (by intro ht z hz; simp at hz; rcases hz with hz | rfl; exact ho ht z hz; exact hyk ht)
      obtain ⟨l', h1, h2, h3⟩ := this
      refine ⟨l', by rw [h1]; simp; omega, h2, ?_⟩
      rw [← h3]; simp
    have hz : ∀ y : Inode, y.kind = 2 → (Int.tmod x5 2 == 1) = true → (0 : Int) = bytesOf (pre ++ [y]) := by
      intro y hy ht
      have : ∀ z ∈ pre ++ [y], z.kind = 2 := by
        intro z hz; simp at hz; rcases hz with hz | rfl; exact ho ht z hz; exact hy
      generalize pre ++ [y] = m at this
      clear go hnn hpre hkk d1 d2 ho hp hl hk
      induction m with
      | nil => simp [bytesOf]
      | cons z m ih => rw [bytesOf_cons, this z (by simp)]; simp; exact ih (fun u hu => this u (by simp [hu]))
    simp only [law06_RoomFiles_L7]
    rw [d1, d2, toNat_cast, at_mid hk, w]
    simp only [bcase_true, ocase_some', set_mid hk, at_mid hk, List.length_set]
    have dd : ∀ y : Inode, decide (0 ≤ (k : Int) ∧ (k : Int) < ((pre ++ y :: rest).length : Int)) = true := fun y => dec_in (by simp; omega)
    simp only [dd, bcase_true, ocase_some', at_mid hk, set_mid hk]
    have e20 : ((2 : Int) == 0) = false := rfl
    simp only [e20, bcase_false, bcase_ite]
    simp only [List.length_cons]
    by_cases hf : x.kind = 1
    · rw [if_neg (by simp [hf])]
      by_cases ht : (Int.tmod x5 2 == 1) = true
      · rw [if_pos ht]
        exact go _ (by simp; omega) (fun _ => rfl) _ (hz _ rfl ht)
      · rw [if_neg ht]
        refine go x (by omega) (fun h => absurd h ht) _ ?_
        rw [wrap_id (by omega) (by omega), bytesOf_append, bytesOf_cons]
        simp [hf, bytesOf]
    · rw [if_pos (by simp [hf])]
      rw [lcase_le (by unfold LIM; simp; omega)]
      by_cases ht : (Int.tmod x5 2 == 1) = true
      · rw [if_pos ht]
        exact go _ (by simp; omega) (fun _ => rfl) _ (hz _ rfl ht)
      · rw [if_neg ht]
        refine go _ (by simp; omega) (fun h => absurd h ht) _ ?_
        rw [bytesOf_append, bytesOf_cons]
        simp [hf, bytesOf]

theorem RoomFiles_true {f : Fs} {a : Int} {N : Nat} (hN : N ≤ 1048576) (h : OkFs N f) : law06_RoomFiles f a = some true := by
  unfold law06_RoomFiles
  have hl := h.len (by omega)
  rw [law06_awake_eq, ref05_Few_eq hl (h.ent (by omega))]
  simp only [ocase_some', bcase_ite, Bool.not_true, Bool.false_eq_true, if_false]
  cases fewI f
  · rfl
  simp only [Bool.not_true, Bool.false_eq_true, if_false]
  have hll := h.1
  rw [lcase_le (by unfold LIM; simp; omega)]
  obtain ⟨l', h1, h2, h3⟩ := files_loop (N := N) hN a (fun z23 z24 => ocase (room_Bytes (⟨f.maxInodes, f.maxBytes, f.next, z24⟩ : Fs)) fun y25 => some (y25 == z23)) f.inodes [] FUEL 0 rfl (fuel_ok (by omega)) (by simpa using hll) h.data (by intro z hz; simp at hz) (by intro _ z hz; simp at hz)
  refine Eq.trans h3 ?_
  simp at h1
  have := room_Bytes_eq (f := ⟨f.maxInodes, f.maxBytes, f.next, l'⟩) (N := N + 4) (by omega) (by simp; omega) h2
  rw [this]
  simp
end Go.Eng
