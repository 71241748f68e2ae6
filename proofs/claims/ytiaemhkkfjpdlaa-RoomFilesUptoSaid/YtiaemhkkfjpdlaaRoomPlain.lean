import Derived.Test.YtiaemhkkfjpdlaaRoomLift
import Derived.Test.YtiaemhkkfjpdlaaPlainKit
/- What the functions of 'room' and their references come to. -/
set_option linter.unusedSimpArgs false
set_option linter.unusedVariables false
namespace Go.Eng
open Go

def bytesOf (l : List Inode) : Int := (l.map fun x => if x.kind == 1 then (x.data.length : Int) else 0).sum

def SmallI (N : Nat) (l : List Inode) : Prop := l.length ≤ N ∧ ∀ x ∈ l, x.data.length ≤ N ∧ x.entries.length ≤ N

theorem bytesOf_nn (l : List Inode) : 0 ≤ bytesOf l := by
  unfold bytesOf
  induction l with
  | nil => simp
  | cons x l ih => simp only [List.map_cons, List.sum_cons]; split <;> omega

theorem bytesOf_cons (x : Inode) (l : List Inode) : bytesOf (x :: l) = (if x.kind == 1 then (x.data.length : Int) else 0) + bytesOf l := by simp [bytesOf]

theorem bytesOf_append (l m : List Inode) : bytesOf (l ++ m) = bytesOf l + bytesOf m := by simp [bytesOf]

theorem bytesOf_le {N : Nat} {l : List Inode} (h : ∀ x ∈ l, x.data.length ≤ N) : bytesOf l ≤ l.length * N := by
  induction l with
  | nil => simp [bytesOf]
  | cons x l ih =>
    have h1 := ih (fun y hy => h y (by simp [hy]))
    have h2 := h x (by simp)
    rw [bytesOf_cons]
    simp only [List.length_cons]
    have : ((l.length + 1 : Nat) : Int) * (N : Int) = (l.length : Int) * N + N := by rw [Int.natCast_add, Int.add_mul]; simp
    rw [this]
    split <;> omega

theorem sum_small {N : Nat} {l : List Inode} (hN : N ≤ 1073741824) (hl : l.length ≤ N) (h : ∀ x ∈ l, x.data.length ≤ N) : bytesOf l ≤ 1152921504606846976 := by
  have h1 := bytesOf_le h
  have h2 : (l.length : Int) * (N : Int) ≤ 1073741824 * 1073741824 := by
    have : l.length * N ≤ 1073741824 * 1073741824 := Nat.mul_le_mul (by omega) hN
    rw [← Int.natCast_mul]
    omega
  omega

/-- Sums that stay in bounds. -/
theorem bytes_fold {R : Type} (kk : Int → Option R) : ∀ (l : List Inode) (k : Nat) (s : Int), 0 ≤ s → s + bytesOf l ≤ 4611686018427387904 →
    foldG (fun _ x s K => if x.kind == 1 then K (IntKind.i64.wrap (s + (x.data.length : Int))) else K s) kk k l s = kk (s + bytesOf l)
  | [], k, s, _, _ => by simp [foldG, bytesOf]
  | x :: l, k, s, h0, h => by
    have hn := bytesOf_nn l
    rw [bytesOf_cons] at h ⊢
    simp only [foldG]
    split
    · rename_i hk
      rw [if_pos hk] at h
      rw [wrap_id (by omega) (by omega), bytes_fold kk l (k + 1) _ (by omega) (by omega), Int.add_assoc]
    · rename_i hk
      rw [if_neg hk] at h
      rw [bytes_fold kk l (k + 1) _ (by omega) (by omega)]
      simp

theorem room_Bytes_eq {f : Fs} {N : Nat} (hN : N ≤ 1073741824) (hl : f.inodes.length ≤ N) (hd : ∀ x ∈ f.inodes, x.data.length ≤ N) : room_Bytes f = some (bytesOf f.inodes) := by
  have hs := sum_small hN hl hd
  unfold room_Bytes
  refine (loop_all (l := f.inodes) (fun n i s => room_Bytes_L3 (f.inodes.length : Int) f (fun z8 => some z8) n s i) (fun _ x s K => if x.kind == 1 then K (IntKind.i64.wrap (s + (x.data.length : Int))) else K s) (fun z => some z) (by omega) (fun n k x s hk hx => ?_) (fun n s => ?_) 0).trans ?_
  · simp only [room_Bytes_L3]
    rw [dec_lt hk, dec_nn, toNat_cast, hx, wrap_succ (by omega)]
    simp only [bcase_true, ocase_some', bcase_ite, if_true]
  · simp only [room_Bytes_L3]
    rw [dec_ge (Nat.le_refl _)]
    rfl
  · rw [bytes_fold _ _ _ _ (by omega) (by omega)]; simp

theorem ref06_Bytes_eq {f : Fs} {N : Nat} (hN : N ≤ 1073741824) (hl : f.inodes.length ≤ N) (hd : ∀ x ∈ f.inodes, x.data.length ≤ N) : ref06_Bytes f = some (bytesOf f.inodes) := by
  have hs := sum_small hN hl hd
  unfold ref06_Bytes
  refine (loop_all (l := f.inodes) (fun n i s => ref06_Bytes_L3 f (fun z8 => some z8) n s i) (fun _ x s K => if x.kind == 1 then K (IntKind.i64.wrap (s + (x.data.length : Int))) else K s) (fun z => some z) (by omega) (fun n k x s hk hx => ?_) (fun n s => ?_) 0).trans ?_
  · simp only [ref06_Bytes_L3]
    rw [dec_lt hk, dec_nn, toNat_cast, hx, wrap_succ (by omega)]
    simp only [bcase_true, ocase_some', bcase_ite, if_true]
  · simp only [ref06_Bytes_L3]
    rw [dec_ge (Nat.le_refl _)]
    rfl
  · rw [bytes_fold _ _ _ _ (by omega) (by omega)]; simp

theorem find_fold {R : Type} (p : Inode → Bool) (kr : Inode → Option R) (k0 : Option R) : ∀ (l : List Inode) (k : Nat) (s : Unit), foldG (fun _ x s K => if p x then kr x else K s) (fun _ => k0) k l s = match l.find? p with | some x => kr x | none => k0
  | [], _, _ => rfl
  | x :: l, k, s => by
    simp only [foldG, List.find?_cons]
    cases p x
    · simp [find_fold p kr k0 l]
    · simp

def getI (l : List Inode) (ino : Int) : Option Inode := l.find? fun x => x.ino == ino
def zeroI : Inode := ⟨0, 0, 0, [], 0, []⟩

theorem ref05_Get_eq {f : Fs} {ino : Int} (hl : f.inodes.length ≤ 1073741824) : ref05_Get f ino = some (match getI f.inodes ino with | some x => (x, true) | none => (zeroI, false)) := by
  unfold ref05_Get
  refine (loop_all (l := f.inodes) (fun n i (s : Unit) => ref05_Get_L2 ino f (fun z10 => some (z10, true)) (some ((⟨0, 0, 0, [], 0, ([] : List Entry)⟩ : Inode), false)) n i) (fun _ x s K => if x.ino == ino then some (x, true) else K s) (fun _ => some (zeroI, false)) (by omega) (fun n k x s hk hx => ?_) (fun n s => ?_) ()).trans ?_
  · simp only [ref05_Get_L2]
    rw [dec_lt hk, dec_nn, toNat_cast, hx, wrap_succ (by omega)]
    simp only [bcase_true, ocase_some', bcase_ite, if_true]
  · simp only [ref05_Get_L2]
    rw [dec_ge (Nat.le_refl _)]
    rfl
  · rw [find_fold (fun x => x.ino == ino) (fun x => some (x, true))]
    unfold getI
    cases f.inodes.find? fun x => x.ino == ino <;> rfl

theorem filter_fold {R : Type} (p : Inode → Bool) (kk : List Inode → Option R) : ∀ (l : List Inode) (k : Nat) (s : List Inode), s.length + l.length ≤ LIM →
    foldG (fun _ x s K => if p x then lcase (s.length + [x].length) (K (s ++ [x])) else K s) kk k l s = kk (s ++ l.filter p)
  | [], _, s, _ => by simp [foldG]
  | x :: l, k, s, h => by
    simp only [foldG, List.filter_cons]
    simp only [List.length_cons] at h
    split
    · rw [lcase_le (by simp; omega), filter_fold p kk l _ _ (by simp; omega)]; simp
    · rw [filter_fold p kk l _ _ (by omega)]

theorem ref05_Drop_eq {f : Fs} {ino : Int} (hl : f.inodes.length ≤ 1073741824) : ref05_Drop f ino = some ⟨f.maxInodes, f.maxBytes, f.next, f.inodes.filter fun x => x.ino != ino⟩ := by
  unfold ref05_Drop
  refine (loop_all (l := f.inodes) (fun n i s => ref05_Drop_L3 ino f (fun z11 => some (⟨f.maxInodes, f.maxBytes, f.next, z11⟩ : Fs)) n i s) (fun _ x s K => if x.ino != ino then lcase (s.length + [x].length) (K (s ++ [x])) else K s) (fun z11 => some (⟨f.maxInodes, f.maxBytes, f.next, z11⟩ : Fs)) (by omega) (fun n k x s hk hx => ?_) (fun n s => ?_) []).trans ?_
  · simp only [ref05_Drop_L3]
    rw [dec_lt hk, dec_nn, toNat_cast, hx, wrap_succ (by omega)]
    simp only [bcase_true, ocase_some', bcase_ite, if_true]
  · simp only [ref05_Drop_L3]
    rw [dec_ge (Nat.le_refl _)]
    rfl
  · rw [filter_fold _ _ _ _ _ (by unfold LIM; simp; omega)]; simp

/-- An inode put in, ahead of the first greater one. -/
def insI (x : Inode) : List Inode → List Inode
  | [] => [x]
  | y :: l => if y.ino > x.ino then x :: y :: l else y :: insI x l

theorem ins_fold {R : Type} (x : Inode) (kk : List Inode → Option R) : ∀ (l : List Inode) (k : Nat) (s : Bool × List Inode), s.2.length + l.length + (if s.1 then 0 else 1) ≤ LIM →
    foldG (fun _ y (s : Bool × List Inode) K => if !s.1 then (if y.ino > x.ino then lcase (s.2.length + [x].length) (lcase ((s.2 ++ [x]).length + [y].length) (K (true, (s.2 ++ [x]) ++ [y]))) else lcase (s.2.length + [y].length) (K (s.1, s.2 ++ [y]))) else lcase (s.2.length + [y].length) (K (s.1, s.2 ++ [y])))
      (fun s => if !s.1 then lcase (s.2.length + [x].length) (kk (s.2 ++ [x])) else kk s.2) k l s = kk (s.2 ++ if s.1 then l else insI x l)
  | [], _, (b, s), h => by
    simp only [foldG]
    cases b
    · simp only [Bool.not_false, if_true]
      rw [lcase_le (by simp at h ⊢; omega)]; simp [insI]
    · simp
  | y :: l, k, (b, s), h => by
    simp only [foldG]
    simp only [List.length_cons] at h
    cases b
    · simp only [Bool.not_false, if_true]
      simp at h
      by_cases hy : y.ino > x.ino
      · rw [if_pos hy, lcase_le (by simp; omega), lcase_le (by simp; omega), ins_fold x kk l _ _ (by simp; omega)]
        simp [insI, hy]
      · rw [if_neg hy, lcase_le (by simp; omega), ins_fold x kk l _ _ (by simp; omega)]
        simp [insI, hy]
    · simp only [Bool.not_true]
      simp at h
      rw [if_neg (by simp), lcase_le (by simp; omega), ins_fold x kk l _ _ (by simp; omega)]
      simp

def setI (l : List Inode) (x : Inode) : List Inode := insI x (l.filter fun y => y.ino != x.ino)

theorem ref05_Set_eq {f : Fs} {x : Inode} (hl : f.inodes.length ≤ 1073741824) : ref05_Set f x = some ⟨f.maxInodes, f.maxBytes, f.next, setI f.inodes x⟩ := by
  unfold ref05_Set
  rw [ref05_Drop_eq hl]
  simp only [ocase_some']
  unfold setI
  have hfl := List.length_filter_le (fun y : Inode => y.ino != x.ino) f.inodes
  generalize f.inodes.filter (fun y => y.ino != x.ino) = rest at hfl ⊢
  refine (loop_all (l := rest) (fun n i s => ref05_Set_L5 rest x (fun z18 z19 => bcase (!z18) (lcase (z19.length + [x].length) (some (⟨f.maxInodes, f.maxBytes, f.next, (z19 ++ [x])⟩ : Fs))) (some (⟨f.maxInodes, f.maxBytes, f.next, z19⟩ : Fs))) n s.1 i s.2)
    (fun _ y (s : Bool × List Inode) K => if !s.1 then (if y.ino > x.ino then lcase (s.2.length + [x].length) (lcase ((s.2 ++ [x]).length + [y].length) (K (true, (s.2 ++ [x]) ++ [y]))) else lcase (s.2.length + [y].length) (K (s.1, s.2 ++ [y]))) else lcase (s.2.length + [y].length) (K (s.1, s.2 ++ [y])))
    (fun s => if !s.1 then lcase (s.2.length + [x].length) (some (⟨f.maxInodes, f.maxBytes, f.next, s.2 ++ [x]⟩ : Fs)) else some (⟨f.maxInodes, f.maxBytes, f.next, s.2⟩ : Fs)) (by omega) (fun n k y s hk hx => ?_) (fun n s => ?_) (false, [])).trans ?_
  · simp only [ref05_Set_L5]
    rw [dec_lt hk, dec_nn, toNat_cast, hx, wrap_succ (by omega)]
    simp only [bcase_true, ocase_some', bcase_ite, if_true, decide_eq_true_eq]
  · simp only [ref05_Set_L5]
    rw [dec_ge (Nat.le_refl _), bcase_false]
    simp only [bcase_ite]
  · rw [ins_fold x (fun z => some (⟨f.maxInodes, f.maxBytes, f.next, z⟩ : Fs)) _ _ _ (by unfold LIM; simp; omega)]
    rfl

theorem room_Inodes_eq (f : Fs) : room_Inodes f = some (f.inodes.length : Int) := rfl
def fitsI (f : Fs) (a b : Int) : Bool := decide ((f.inodes.length : Int) + a ≤ f.maxInodes) && decide (bytesOf f.inodes + b ≤ f.maxBytes)
def Far (n : Int) : Prop := -1152921504606846976 ≤ n ∧ n ≤ 1152921504606846976

theorem room_Fits_eq {f : Fs} {a b : Int} {N : Nat} (hN : N ≤ 1073741824) (hl : f.inodes.length ≤ N) (hd : ∀ x ∈ f.inodes, x.data.length ≤ N) (ha : Far a) (hb : Far b) : room_Fits f a b = some (fitsI f a b) := by
  have hs := sum_small hN hl hd
  have h0 := bytesOf_nn f.inodes
  unfold Far at ha hb
  unfold room_Fits fitsI
  rw [room_Inodes_eq, room_Bytes_eq hN hl hd]
  simp only [ocase_some', bcase_ite]
  rw [wrap_id (by omega) (by omega), wrap_id (by omega) (by omega)]
  cases h : decide ((f.inodes.length : Int) + a ≤ f.maxInodes) <;> simp

theorem ref06_Fits_eq {f : Fs} {a b : Int} {N : Nat} (hN : N ≤ 1073741824) (hl : f.inodes.length ≤ N) (hd : ∀ x ∈ f.inodes, x.data.length ≤ N) (ha : Far a) (hb : Far b) : ref06_Fits f a b = some (fitsI f a b) := by
  have hs := sum_small hN hl hd
  have h0 := bytesOf_nn f.inodes
  unfold Far at ha hb
  unfold ref06_Fits fitsI
  rw [ref06_Bytes_eq hN hl hd]
  simp only [ocase_some', bcase_ite]
  rw [wrap_id (by omega) (by omega), wrap_id (by omega) (by omega)]
  by_cases h : (f.inodes.length : Int) + a ≤ f.maxInodes
  · have h2 : ¬ f.maxInodes < (f.inodes.length : Int) + a := by omega
    simp [h, h2]
  · have h2 : f.maxInodes < (f.inodes.length : Int) + a := by omega
    simp [h, h2]

theorem all_fold {α R : Type} (p : α → Bool) (kr k0 : Option R) : ∀ (l : List α) (k : Nat) (s : Unit), foldG (fun _ x s K => if p x then K s else kr) (fun _ => k0) k l s = if l.all p then k0 else kr
  | [], _, _ => rfl
  | x :: l, k, s => by
    simp only [foldG, List.all_cons]
    by_cases h : p x = true
    · simp [h, all_fold p kr k0 l]
    · simp [h]

def fewE (x : Inode) : Bool := decide (x.data.length ≤ 5000) && (decide (x.entries.length ≤ 40) && x.entries.all fun e => decide (e.name.length ≤ 300))
def fewI (f : Fs) : Bool := (f.inodes.take 100).all fewE && decide (f.inodes.length ≤ 40)

theorem ref05_Few_L8_eq {R : Type} {x : Inode} {kr k2 : Option R} (hl : x.entries.length ≤ 1073741824) : ref05_Few_L8 x kr k2 FUEL (0 : Int) = if x.entries.all (fun e => decide (e.name.length ≤ 300)) then k2 else kr := by
  refine (loop_all (l := x.entries) (fun n i (s : Unit) => ref05_Few_L8 x kr k2 n i) (fun _ e s K => if decide (e.name.length ≤ 300) then K s else kr) (fun _ => k2) (by omega) (fun n k e s hk hx => ?_) (fun n s => ?_) ()).trans ?_
  · simp only [ref05_Few_L8]
    rw [dec_lt hk, dec_nn, toNat_cast, hx, wrap_succ (by omega)]
    simp only [bcase_true, ocase_some', bcase_ite, if_true]
    by_cases h : e.name.length ≤ 300
    · have h2 : ¬ (300 : Int) < (e.name.length : Int) := by omega
      simp [h, h2]
    · have h2 : (300 : Int) < (e.name.length : Int) := by omega
      simp [h, h2]
  · simp only [ref05_Few_L8]
    rw [dec_ge (Nat.le_refl _)]
    rfl
  · exact all_fold _ _ _ _ _ _

theorem ref05_Few_eq {f : Fs} (hl : f.inodes.length ≤ 1073741824) (he : ∀ x ∈ f.inodes, x.entries.length ≤ 1073741824) : ref05_Few f = some (fewI f) := by
  unfold ref05_Few
  refine (loop_all (l := f.inodes.take 100) (fun n i (s : Unit) => ref05_Few_L2 f (some false) (some (decide ((f.inodes.length : Int) ≤ (40 : Int)))) n i) (fun _ x s K => if fewE x then K s else some false) (fun _ => some (decide ((f.inodes.length : Int) ≤ (40 : Int)))) (by simp; omega) (fun n k x s hk hx => ?_) (fun n s => ?_) ()).trans ?_
  · have hk' : k < f.inodes.length ∧ k < 100 := by simp at hk; omega
    have hx' : f.inodes[k]? = some x := by rw [List.getElem?_take_of_lt hk'.2] at hx; exact hx
    have hxm := he x (List.mem_of_getElem? hx')
    simp only [ref05_Few_L2]
    have h100 : decide ((k : Int) < (100 : Int)) = true := by simp; omega
    rw [dec_lt hk'.1, h100, dec_nn, toNat_cast, hx', wrap_succ (by omega)]
    simp only [bcase_true, ocase_some', bcase_ite, if_true]
    rw [ref05_Few_L8_eq hxm]
    unfold fewE
    by_cases h1 : x.data.length ≤ 5000
    · have h1' : ¬ (5000 : Int) < (x.data.length : Int) := by omega
      by_cases h2 : x.entries.length ≤ 40
      · have h2' : ¬ (40 : Int) < (x.entries.length : Int) := by omega
        simp [h1, h1', h2, h2']
      · have h2' : (40 : Int) < (x.entries.length : Int) := by omega
        simp [h1, h1', h2, h2']
    · have h1' : (5000 : Int) < (x.data.length : Int) := by omega
      simp [h1, h1']
  · simp only [ref05_Few_L2]
    by_cases h : f.inodes.length ≤ 100
    · have e : (f.inodes.take 100).length = f.inodes.length := by simp; omega
      rw [e, dec_ge (Nat.le_refl _)]
      rfl
    · have e : (f.inodes.take 100).length = 100 := by simp; omega
      rw [e]
      have h1 : decide (((100 : Nat) : Int) < (f.inodes.length : Int)) = true := by simp; omega
      rw [h1]
      rfl
  · rw [all_fold]
    unfold fewI
    have e : decide ((f.inodes.length : Int) ≤ (40 : Int)) = decide (f.inodes.length ≤ 40) := by
      by_cases h : f.inodes.length ≤ 40
      · have : (f.inodes.length : Int) ≤ 40 := by omega
        simp [h, this]
      · have : ¬ (f.inodes.length : Int) ≤ 40 := by omega
        simp [h, this]
    rw [e]
    cases (f.inodes.take 100).all fewE <;> simp

theorem law06_awake_eq : law06_awake = some true := by
  unfold law06_awake
  have e1 : ref05_New 2 3 = some ⟨2, 3, 2, [⟨1, 2, 0, [], 1, []⟩]⟩ := rfl
  rw [e1]
  simp only [ocase_some']
  rw [ref05_Set_eq (by simp)]
  simp only [ocase_some', room_Inodes_eq]
  rw [room_Bytes_eq (N := 2) (by omega) (by simp) (by simp), room_Fits_eq (N := 2) (by omega) (by simp) (by simp) (by unfold Far; omega) (by unfold Far; omega), room_Fits_eq (N := 2) (by omega) (by simp) (by simp) (by unfold Far; omega) (by unfold Far; omega), room_Fits_eq (N := 2) (by omega) (by simp) (by simp) (by unfold Far; omega) (by unfold Far; omega)]
  have e2 : setI [⟨1, 2, 0, [], 1, []⟩] ⟨2, 1, 0, [97, 98], 0, []⟩ = [⟨1, 2, 0, [], 1, []⟩, ⟨2, 1, 0, [97, 98], 0, []⟩] := rfl
  rw [e2, room_Bytes_eq (N := 2) (by omega) (by simp) (by simp)]
  decide

/-- A file system that is small enough to be reckoned with. -/
def OkFs (N : Nat) (f : Fs) : Prop := f.inodes.length ≤ N ∧ ∀ x ∈ f.inodes, x.ok N

section
variable {f : Fs} {N : Nat}
theorem OkFs.len (h : OkFs N f) (hN : N ≤ 1073741824) : f.inodes.length ≤ 1073741824 := by have := h.1; omega
theorem OkFs.data (h : OkFs N f) : ∀ x ∈ f.inodes, x.data.length ≤ N := fun x hx => (h.2 x hx).2.2.2.1
theorem OkFs.ent (h : OkFs N f) (hN : N ≤ 1073741824) : ∀ x ∈ f.inodes, x.entries.length ≤ 1073741824 := fun x hx => by have := (h.2 x hx).2.2.2.2.2.1; omega
end

def withinI (n : Int) : Bool := decide (-1099511627776 ≤ n) && decide (n ≤ 1099511627776)
theorem law06_within_eq (n : Int) : law06_within n = some (withinI n) := by
  unfold law06_within withinI
  simp only [bcase_ite, ge_iff_le]
  by_cases h : -1099511627776 ≤ n <;> simp [h]

theorem RoomCounts_true {f : Fs} {a b : Int} {N : Nat} (hN : N ≤ 1073741824) (h : OkFs N f) : law06_RoomCounts f a b = some true := by
  unfold law06_RoomCounts
  rw [law06_awake_eq, ref05_Few_eq (h.len hN) (h.ent hN), law06_within_eq, law06_within_eq, room_Inodes_eq, room_Bytes_eq hN h.1 h.data, ref06_Bytes_eq hN h.1 h.data]
  simp only [ocase_some', bcase_ite, Bool.not_true, Bool.false_eq_true, if_false, beq_self_eq_true, if_true]
  cases fewI f
  · rfl
  · cases ha : withinI a
    · rfl
    · cases hb : withinI b
      · rfl
      · unfold withinI at ha hb
        simp at ha hb
        rw [room_Fits_eq hN h.1 h.data (by unfold Far; omega) (by unfold Far; omega), ref06_Fits_eq hN h.1 h.data (by unfold Far; omega) (by unfold Far; omega)]
        simp
end Go.Eng
