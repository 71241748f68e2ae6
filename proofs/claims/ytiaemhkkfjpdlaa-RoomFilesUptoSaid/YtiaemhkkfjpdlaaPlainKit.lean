import Derived.Test.YtiaemhkkfjpdlaaEngL
/- Plain lemmas on what lifted functions are made of. -/
set_option linter.unusedSimpArgs false
set_option linter.unusedVariables false
namespace Go.Eng
open Go

@[simp] theorem bcase_true {α : Type} (x y : Option α) : bcase true x y = x := rfl
@[simp] theorem bcase_false {α : Type} (x y : Option α) : bcase false x y = y := rfl
@[simp] theorem ocase_some' {α β : Type} (a : α) (f : α → Option β) : ocase (some a) f = f a := rfl
theorem bcase_ite {α : Type} (b : Bool) (x y : Option α) : bcase b x y = if b then x else y := by cases b <;> rfl
theorem lcase_le {α : Type} {n : Nat} {x : Option α} (h : n ≤ LIM) : lcase n x = x := by
  unfold lcase; rw [Nat.ble_eq_true_of_le h]

theorem wrap_id {n : Int} (h1 : -9223372036854775808 ≤ n) (h2 : n < 9223372036854775808) : IntKind.i64.wrap n = n := by
  simp [IntKind.wrap, IntKind.bits, IntKind.signed]; omega

theorem wrap_succ {k : Nat} (h : k < 4611686018427387904) : IntKind.i64.wrap ((k : Int) + 1) = ((k + 1 : Nat) : Int) := by
  rw [wrap_id (by omega) (by omega)]; rfl

theorem at_step {α : Type} {l : List α} {k : Nat} (h : k < l.length) : ∃ x, l[k]? = some x ∧ l.drop k = x :: l.drop (k + 1) :=
  ⟨l[k], by simp, List.drop_eq_getElem_cons h⟩

theorem dec_lt {k n : Nat} (h : k < n) : decide ((k : Int) < (n : Int)) = true := by simp; omega
theorem dec_ge {k n : Nat} (h : n ≤ k) : decide ((k : Int) < (n : Int)) = false := by simp; omega
theorem dec_nn (k : Nat) : decide (0 ≤ (k : Int)) = true := by simp
theorem dec_in {k n : Nat} (h : k < n) : decide (0 ≤ (k : Int) ∧ (k : Int) < (n : Int)) = true := by simp; omega
theorem nat0 : (0 : Int) = ((0 : Nat) : Int) := rfl
theorem toNat_cast (k : Nat) : Int.toNat (k : Int) = k := Int.toNat_natCast k

/-- A loop that goes through a list. -/
theorem fuel_ok {n : Nat} (h : n ≤ 1099511627775) : n < FUEL := Nat.lt_of_lt_of_le (by omega) FUEL_ge
end Go.Eng
namespace Go.Eng
def foldG {α S R : Type} (G : Nat → α → S → (S → Option R) → Option R) (E : S → Option R) : Nat → List α → S → Option R
  | _, [], s => E s
  | k, x :: r, s => G k x s (foldG G E (k + 1) r)

/-- A LOOP THROUGH A LIST: what a round does, and what comes behind. -/
theorem loop_list {α S R : Type} {l : List α} (F : Nat → Int → S → Option R) (G : Nat → α → S → (S → Option R) → Option R) (E : S → Option R) (hl : l.length ≤ 1099511627775)
    (h1 : ∀ (n k : Nat) (x : α) (s : S), k < l.length → l[k]? = some x → F (n + 1) (k : Int) s = G k x s (F n ((k + 1 : Nat) : Int))) (h0 : ∀ (n : Nat) (s : S), F (n + 1) (l.length : Int) s = E s) :
    ∀ (n k : Nat) (s : S), k ≤ l.length → l.length - k < n → F n (k : Int) s = foldG G E k (l.drop k) s := by
  intro n
  induction n with
  | zero => intro k s _ h; omega
  | succ n ih =>
    intro k s hk hn
    by_cases h : k < l.length
    · obtain ⟨x, hx, hd⟩ := at_step h
      rw [h1 n k x s h hx, hd]
      simp only [foldG]
      congr 1
      funext s'
      exact ih (k + 1) s' (by omega) (by omega)
    · have : k = l.length := by omega
      subst this
      rw [h0, List.drop_length]
      rfl

theorem loop_all {α S R : Type} {l : List α} (F : Nat → Int → S → Option R) (G : Nat → α → S → (S → Option R) → Option R) (E : S → Option R) (hl : l.length ≤ 1099511627775)
    (h1 : ∀ (n k : Nat) (x : α) (s : S), k < l.length → l[k]? = some x → F (n + 1) (k : Int) s = G k x s (F n ((k + 1 : Nat) : Int))) (h0 : ∀ (n : Nat) (s : S), F (n + 1) (l.length : Int) s = E s) (s : S) : F FUEL (0 : Int) s = foldG G E 0 l s :=
  loop_list F G E hl h1 h0 FUEL 0 s (Nat.zero_le _) (fuel_ok (by omega))
end Go.Eng
