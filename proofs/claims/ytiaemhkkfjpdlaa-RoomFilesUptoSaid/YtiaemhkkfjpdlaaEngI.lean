import Derived.Test.YtiaemhkkfjpdlaaEngH
/- THE ENGINE: specs out of shapes. -/
set_option linter.unusedSimpArgs false
set_option linter.unusedVariables false
set_option linter.unnecessarySimpa false
namespace Go.Eng
open Go Go.RowKit

@[reducible] def HP.V : List HV → Type
  | [] => Unit
  | h :: l => h.V × HP.V l
def HP.st : (l : List HV) → HP.V l → List AV
  | [], _ => []
  | h :: l, v => h.st v.1 :: HP.st l v.2
def HP.sh : (l : List HV) → List AV → Option (HP.V l)
  | [], [] => some ()
  | h :: l, a :: r => match h.sh a, HP.sh l r with
    | some x, some y => some (x, y)
    | _, _ => none
  | _, _ => none
theorem HP.eq : ∀ {l : List HV} {r : List AV} {v : HP.V l}, HP.sh l r = some v → r = HP.st l v
  | [], [], _, _ => rfl
  | [], _ :: _, _, e => by simp [HP.sh] at e
  | _ :: _, [], _, e => by simp [HP.sh] at e
  | h :: l, a :: r, v, e => by
    simp only [HP.sh] at e
    split at e
    · rename_i x y hx hy
      cases e
      simp only [HP.st]
      rw [← HV.eq hx, ← HP.eq hy]
    · simp at e
theorem HP.len : ∀ {l : List HV} {v : HP.V l}, (HP.st l v).length = l.length
  | [], _ => rfl
  | h :: l, v => by simp [HP.st, HP.len]

def v1Of : AV → V1
  | .v x => x
  | _ => .agg []
@[reducible] def HX.V : List HV → Type
  | [] => Unit
  | [h] => h.V
  | h :: l => h.V × HX.V l
def HX.stL : (l : List HV) → HX.V l → List V1
  | [], _ => []
  | [h], v => [v1Of (h.st v)]
  | h :: h2 :: l, v => v1Of (h.st v.1) :: HX.stL (h2 :: l) v.2
def HX.st : (l : List HV) → HX.V l → AV
  | [], _ => .tup []
  | [h], v => h.st v
  | h :: h2 :: l, v => .tup (HX.stL (h :: h2 :: l) v)
def HX.shL : (l : List HV) → List V1 → Option (HX.V l)
  | [], [] => some ()
  | [h], [a] => h.sh (.v a)
  | h :: h2 :: l, a :: r => match h.sh (.v a), HX.shL (h2 :: l) r with
    | some x, some y => some (x, y)
    | _, _ => none
  | _, _ => none
def HX.sh : (l : List HV) → AV → Option (HX.V l)
  | [], .tup [] => some ()
  | [h], a => h.sh a
  | h :: h2 :: l, .tup r => HX.shL (h :: h2 :: l) r
  | _, _ => none
theorem HV.v1 {h : HV} {a : V1} {v : h.V} (e : h.sh (.v a) = some v) : v1Of (h.st v) = a := by rw [← HV.eq e]; rfl
theorem HX.eqL : ∀ {l : List HV} {r : List V1} {v : HX.V l}, HX.shL l r = some v → r = HX.stL l v
  | [], [], _, _ => rfl
  | [], _ :: _, _, e => by simp [HX.shL] at e
  | [h], [], _, e => by simp [HX.shL] at e
  | [h], [a], v, e => by simp only [HX.shL] at e; simp only [HX.stL]; rw [HV.v1 e]
  | [h], _ :: _ :: _, _, e => by simp [HX.shL] at e
  | _ :: _ :: _, [], _, e => by simp [HX.shL] at e
  | h :: h2 :: l, a :: r, v, e => by
    simp only [HX.shL] at e
    split at e
    · rename_i x y hx hy
      cases e
      simp only [HX.stL]
      rw [HV.v1 hx, ← HX.eqL hy]
    · simp at e
theorem HX.eq {l : List HV} {a : AV} {v : HX.V l} (e : HX.sh l a = some v) : a = HX.st l v := by
  unfold HX.sh at e
  split at e
  · rfl
  · simp only [HX.st]; exact HV.eq e
  · simp only [HX.st]; rw [← HX.eqL e]
  · simp at e

/-- A function's spec: the shapes of its arguments and results. -/
def mkSpec {X Y : Type} (hp hx : List HV) (toX : HP.V hp → X) (ofY : Y → HX.V hx) (f : X → Option Y) : Spec where
  X := X
  Y := Y
  pat := fun l => match HP.sh hp l with | some v => some (toX v) | none => none
  f := f
  enc := fun y => HX.st hx (ofY y)

def decOf {Y : Type} (hx : List HV) (toY : HX.V hx → Y) : AV → Option Y := fun a => match HX.sh hx a with | some v => some (toY v) | none => none

theorem specOK_mk {P : Program} {fid : Nat} {fn : Func} {body : Code} {c : Cfg} {X Y : Type} {hp hx : List HV} {toX : HP.V hp → X} {ofY : Y → HX.V hx} {toY : HX.V hx → Y} {f : X → Option Y}
    (hf : P.funcs[fid]? = some fn) (hn : (fn.name == "runtime.NumGoroutine") = false) (hb : fn.body = some body) (C : CfgOK P c) (hN : c.N = fn.ntmps) (hoff : Nat.ble fn.ntmps OFF = true) (hm : P.follows .mixedOrders = true)
    (hle : Nat.ble hp.length fn.ntmps = true) (hty : ∀ v, ofY (toY v) = v) {d : Nat} {subs : List (Nat × Inl Y)} (hsub : SubsOK P d subs) {lp : List (Nat × Hd Y)} (hl : LoopsOK (hnd d subs) c lp body)
    (hrun : ∀ v, runFn (hnd d subs) c lp body fn.results.toList (HP.st hp v) (decOf hx toY) = f (toX v)) : SpecOK P fid (mkSpec hp hx toX ofY f) := by
  refine specOK_of (s := mkSpec hp hx toX ofY f) (dec := decOf hx toY) hf hn hb C hN (Nat.le_of_ble_eq_true hoff) hm (fun x y h => ?_) (fun args x h => ?_) hsub hl (fun args x y h h' => ?_)
  · unfold decOf at h
    split at h
    · rename_i v hv
      cases h
      show x = HX.st hx (ofY (toY v))
      rw [hty, ← HX.eq hv]
    · cases h
  · simp only [mkSpec] at h
    split at h
    · rename_i v hv
      rw [HP.eq hv, HP.len]
      exact Nat.le_of_ble_eq_true hle
    · cases h
  · simp only [mkSpec] at h h'
    split at h
    · rename_i v hv
      cases h
      rw [HP.eq hv]
      exact (hrun v).trans h'
    · cases h

def SpecsL (P : Program) : List (Nat × Spec) → Prop
  | [] => True
  | x :: l => SpecOK P x.1 x.2 ∧ SpecsL P l
theorem specsL_ok {P : Program} : ∀ {l : List (Nat × Spec)}, SpecsL P l → ∀ f s, look f l = some s → SpecOK P f s
  | [], _, f, s, h => by simp [look] at h
  | x :: l, hl, f, s, h => by
    obtain ⟨i, y⟩ := x
    rw [look_cons1] at h
    split at h
    · rename_i e; cases h; subst e; exact hl.1
    · exact specsL_ok hl.2 f s h
end Go.Eng
