import Derived.Test.YtiaemhkkfjpdlaaEngS14
import Derived.OrdersIn
/- THE ENGINE, soundness, part 15: what an operation that turns no block yields does not hang on what comes behind. -/
set_option linter.unusedSimpArgs false
set_option linter.unusedVariables false
set_option linter.unnecessarySimpa false
namespace Go.Eng
open Go Go.RowKit

section
variable {R R' : Type} {c : Cfg} {r : Regs} {m : Mem} {o : Oper}

theorem bcase_bind (b : Bool) (x y : Option R) (k : R → Option R') : (bcase b x y).bind k = bcase b (x.bind k) (y.bind k) := by cases b <;> rfl
theorem ocase_bind {α : Type} (x : Option α) (f : α → Option R) (k : R → Option R') : (ocase x f).bind k = ocase x fun y => (f y).bind k := by cases x <;> rfl
theorem lcase_bind (n : Nat) (x : Option R) (k : R → Option R') : (lcase n x).bind k = lcase n (x.bind k) := by unfold lcase; split <;> rfl
theorem listOf_bind (p : At) (f : (τ : Ty) → List τ.T → Option R) (k : R → Option R') : (listOf m p f).bind k = listOf m p fun τ l => (f τ l).bind k := by
  unfold listOf; repeat' split
  all_goals first | rfl | simp_all
theorem cellsAt_bind (p : At) (n : Nat) (f : List At → Option R) (k : R → Option R') : (cellsAt m p n f).bind k = cellsAt m p n fun l => (f l).bind k := by
  unfold cellsAt; repeat' split
  all_goals first | rfl | simp_all [ocase_bind]
theorem viewAt_bind (p : At) (f : At → Option R) (k : R → Option R') : (viewAt m p f).bind k = viewAt m p fun l => (f l).bind k := by
  unfold viewAt; repeat' split
  all_goals first | rfl | simp_all [listOf_bind]
theorem viewL_bind : ∀ (l : List At) (f : List At → Option R) (k : R → Option R'), (viewL m l f).bind k = viewL m l fun l => (f l).bind k
  | [], f, k => rfl
  | x :: l, f, k => by simp only [viewL, viewAt_bind, viewL_bind l]
theorem viewV_bind (p : AV) (f : AV → Option R) (k : R → Option R') : (viewV m p f).bind k = viewV m p fun l => (f l).bind k := by
  unfold viewV; repeat' split
  all_goals first | rfl | simp_all [viewAt_bind, viewL_bind]
theorem viewVs_bind : ∀ (l : List AV) (f : List AV → Option R) (k : R → Option R'), (viewVs m l f).bind k = viewVs m l fun l => (f l).bind k
  | [], f, k => rfl
  | x :: l, f, k => by simp only [viewVs, viewV_bind, viewVs_bind l]
theorem boundsQ_bind (n : Nat) (lo hi : Option Int) (f : Nat → Nat → Option R) (k : R → Option R') : (boundsQ n lo hi f).bind k = boundsQ n lo hi fun a b => (f a b).bind k := by
  unfold boundsQ; repeat' split
  all_goals first | rfl | simp [bcase_bind]
theorem boundsC_bind (cp n : Nat) (lo hi : Option Int) (f : Nat → Nat → Option R) (k : R → Option R') : (boundsC cp n lo hi f).bind k = boundsC cp n lo hi fun a b => (f a b).bind k := by
  unfold boundsC; split <;> exact boundsQ_bind _ _ _ _ _
theorem specQ_bind (s : Spec) (as : List AV) (f : AV → Option R) (k : R → Option R') : (specQ s as f).bind k = specQ s as fun a => (f a).bind k := by
  unfold specQ; split
  · simp [ocase_bind]
  · rfl
theorem intQ_bind (op : BinOp) (κ : IntKind) (a b : Int) (f : AV → Option R) (k : R → Option R') : (intQ op κ a b f).bind k = intQ op κ a b fun a => (f a).bind k := by
  unfold intQ; split <;> first | rfl | simp [bcase_bind]
theorem shiftQ_bind (op : BinOp) (κ : IntKind) (a b : Int) (f : AV → Option R) (k : R → Option R') : (shiftQ op κ a b f).bind k = shiftQ op κ a b fun a => (f a).bind k := by
  unfold shiftQ; split <;> first | rfl | simp [bcase_bind]
theorem strQ_bind (op : BinOp) (a b : Str) (f : AV → Option R) (k : R → Option R') : (strQ op a b f).bind k = strQ op a b fun a => (f a).bind k := by
  unfold strQ; split <;> first | rfl | simp [lcase_bind]
theorem binQ_bind (tb : Bool) (eq : Option (List EK)) (op : BinOp) (x y : AV) (f : AV → Option R) (k : R → Option R') : (binQ tb eq op x y f).bind k = binQ tb eq op x y fun a => (f a).bind k := by
  unfold binQ; repeat' split
  all_goals first | rfl | simp_all [intQ_bind, shiftQ_bind, strQ_bind]
theorem unQ_bind (op : UnOp) (x : AV) (f : AV → Option R) (k : R → Option R') : (unQ op x f).bind k = unQ op x fun a => (f a).bind k := by
  unfold unQ; split <;> rfl
theorem cutQ_bind (τ : Ty) (l : List τ.T) (lo hi mx : Option Int) (f : AV → Option R) (k : R → Option R') : (cutQ τ l lo hi mx f).bind k = cutQ τ l lo hi mx fun a => (f a).bind k := by
  unfold cutQ; split <;> simp [boundsQ_bind, bcase_bind]
theorem sliceQ_bind (t : TypeId) (x : At) (lo hi mx : Option Operand) (f : AV → Option R) (k : R → Option R') : (sliceQ c r m t x lo hi mx f).bind k = sliceQ c r m t x lo hi mx fun a => (f a).bind k := by
  unfold sliceQ; repeat' split
  all_goals first | rfl | simp_all [boundsQ_bind, boundsC_bind, cutQ_bind, bcase_bind]
theorem lenQ_bind (t : TypeId) (x : At) (f : AV → Option R) (k : R → Option R') : (lenQ c m t x f).bind k = lenQ c m t x fun a => (f a).bind k := by
  unfold lenQ; repeat' split
  all_goals first | rfl | simp_all [listOf_bind]
theorem idxQ_bind (t : TypeId) (x : At) (n : Int) (f : AV → Option R) (k : R → Option R') : (idxQ c m t x n f).bind k = idxQ c m t x n fun a => (f a).bind k := by
  unfold idxQ; repeat' split
  all_goals first | rfl | simp_all [bcase_bind, ocase_bind]
theorem evalQ_bind' (f : AV → Option R) (k : R → Option R') : (evalQ c r m o f).bind k = evalQ c r m o fun a => (f a).bind k := by
  unfold evalQ; repeat' split
  all_goals first | rfl | (simp_all [bcase_bind, ocase_bind, cellsAt_bind, idxQ_bind, binQ_bind, unQ_bind, listOf_bind, sliceQ_bind, lenQ_bind, viewVs_bind, specQ_bind]; done) | skip
  rw [viewVs_bind]
  congr 1
  funext as'
  rw [specQ_bind]
  congr 1
  funext y
  split <;> rfl

theorem evalQ_some {k : AV → Option R} {res : R} (h : evalQ c r m o k = some res) : ∃ y, evalQ c r m o some = some y ∧ k y = some res := by
  have e := evalQ_bind' (c := c) (r := r) (m := m) (o := o) (f := some) (k := k)
  simp only [Option.bind_some] at e
  rw [← e] at h
  exact Option.bind_eq_some_iff.1 h
end
end Go.Eng
