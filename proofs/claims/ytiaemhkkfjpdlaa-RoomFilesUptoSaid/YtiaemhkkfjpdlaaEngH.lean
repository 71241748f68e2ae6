import Derived.Test.YtiaemhkkfjpdlaaEngS21
/- THE ENGINE: the shape of a state at a loop's head, as data: what of it varies; that a state of that shape is just what varies. -/
set_option linter.unusedSimpArgs false
set_option linter.unusedVariables false
set_option linter.unnecessarySimpa false
namespace Go.Eng
open Go Go.RowKit

inductive HA where
  | int (k : IntKind)
  | bool
  | str
  | sl (τ : Ty)
  | clip (τ : Ty)
  | sub (id : Nat)
  | eptr (id j : Nat)
  | vptr (τ : Ty) (j : Nat)
  | own (id : Nat)
  | ptr (id off : Nat)
  | fnc (f : Nat)
  | clo (id : Nat)
  | iter (id : Nat)
  | nilp
  | nilf
  | nilm
  | dead

@[reducible] def HA.V : HA → Type
  | .int _ => Int
  | .bool => Bool
  | .str => Str
  | .sl τ => List τ.T
  | .clip τ => List τ.T
  | .sub _ => Nat × Nat
  | .eptr _ _ => Nat
  | .vptr τ _ => τ.T
  | _ => Unit

def HA.st : (h : HA) → h.V → At
  | .int k, x => .int k x
  | .bool, x => .bool x
  | .str, x => .str x
  | .sl τ, x => .sl τ x
  | .clip τ, x => .clip τ x
  | .sub id, x => .sub id x.1 x.2
  | .eptr id j, x => .eptr id x j
  | .vptr τ j, x => .vptr τ x j
  | .own id, _ => .own id
  | .ptr id off, _ => .ptr id off
  | .fnc f, _ => .fnc f
  | .clo id, _ => .clo id
  | .iter id, _ => .iter id
  | .nilp, _ => .nilp
  | .nilf, _ => .nilf
  | .nilm, _ => .nilm
  | .dead, _ => .dead

def castT : (τ τ' : Ty) → τ.T → Option τ'.T
  | .int, .int, l => some l
  | .byte, .byte, l => some l
  | .str, .str, l => some l
  | .entry, .entry, l => some l
  | .inode, .inode, l => some l
  | .seen, .seen, l => some l
  | .kept, .kept, l => some l
  | .opn, .opn, l => some l
  | .clls, .clls, l => some l
  | .shp, .shp, l => some l
  | .rule, .rule, l => some l
  | _, _, _ => none

theorem castT_ok {τ τ' : Ty} {l : τ.T} {l' : τ'.T} (h : castT τ τ' l = some l') : ∃ e : τ = τ', e ▸ l = l' := by
  cases τ <;> cases τ' <;> simp [castT] at h <;> exact ⟨rfl, h⟩

def beq2 (a b c d : Nat) : Bool := match Nat.beq a b with | true => Nat.beq c d | false => false
theorem beq2_ok {a b c d : Nat} (h : beq2 a b c d = true) : a = b ∧ c = d := by
  unfold beq2 at h
  split at h
  · rename_i e; exact ⟨Nat.eq_of_beq_eq_true e, Nat.eq_of_beq_eq_true h⟩
  · cases h

def HA.sh : (h : HA) → At → Option h.V
  | .int k, .int k' x => match ikeq k k' with | true => some x | false => none
  | .bool, .bool x => some x
  | .str, .str x => some x
  | .sl τ, .sl τ' x => castL τ' τ x
  | .clip τ, .clip τ' x => castL τ' τ x
  | .sub id, .sub i a b => match Nat.beq id i with | true => some (a, b) | false => none
  | .eptr id j, .eptr id' x j' => match beq2 id id' j j' with | true => some x | false => none
  | .vptr τ j, .vptr τ' x j' => match Nat.beq j j' with | true => castT τ' τ x | false => none
  | .own id, .own i => match Nat.beq id i with | true => some () | false => none
  | .ptr id off, .ptr i o => match beq2 id i off o with | true => some () | false => none
  | .fnc f, .fnc g => match Nat.beq f g with | true => some () | false => none
  | .clo f, .clo g => match Nat.beq f g with | true => some () | false => none
  | .iter f, .iter g => match Nat.beq f g with | true => some () | false => none
  | .nilp, .nilp => some ()
  | .nilf, .nilf => some ()
  | .nilm, .nilm => some ()
  | .dead, .dead => some ()
  | _, _ => none

theorem ikeq_ok {k k' : IntKind} (h : ikeq k k' = true) : k = k' := by cases k <;> cases k' <;> simp [ikeq] at h <;> rfl

theorem HA.eq {h : HA} {a : At} {v : h.V} (e : h.sh a = some v) : a = h.st v := by
  cases h <;> cases a <;> simp only [HA.sh, reduceCtorEq] at e
  case int.int k k' x => split at e <;> simp at e; rename_i hk; rw [ikeq_ok hk]; simp [HA.st, e]
  case bool.bool => simp at e; simp [HA.st, e]
  case str.str => simp at e; simp [HA.st, e]
  case sl.sl τ τ' l => obtain ⟨rfl, h⟩ := castL_ok e; simp at h; subst h; rfl
  case clip.clip τ τ' l => obtain ⟨rfl, h⟩ := castL_ok e; simp at h; subst h; rfl
  case sub.sub id i p q => split at e <;> simp at e; rename_i hk; rw [Nat.eq_of_beq_eq_true hk]; subst e; rfl
  case eptr.eptr => split at e <;> simp at e; rename_i hk; obtain ⟨h1, h2⟩ := beq2_ok hk; subst h1; subst h2; subst e; rfl
  case vptr.vptr =>
    split at e
    · rename_i hk
      have := Nat.eq_of_beq_eq_true hk
      subst this
      obtain ⟨rfl, h⟩ := castT_ok e; simp at h; subst h; rfl
    · simp at e
  case own.own => split at e <;> simp at e; rename_i hk; rw [Nat.eq_of_beq_eq_true hk]; rfl
  case ptr.ptr => split at e <;> simp at e; rename_i hk; obtain ⟨h1, h2⟩ := beq2_ok hk; subst h1; subst h2; rfl
  case fnc.fnc => split at e <;> simp at e; rename_i hk; rw [Nat.eq_of_beq_eq_true hk]; rfl
  case clo.clo => split at e <;> simp at e; rename_i hk; rw [Nat.eq_of_beq_eq_true hk]; rfl
  case iter.iter => split at e <;> simp at e; rename_i hk; rw [Nat.eq_of_beq_eq_true hk]; rfl
  all_goals rfl

@[reducible] def HL.V : List HA → Type
  | [] => Unit
  | h :: l => h.V × HL.V l
def HL.st : (l : List HA) → HL.V l → List At
  | [], _ => []
  | h :: l, v => h.st v.1 :: HL.st l v.2
def HL.sh : (l : List HA) → List At → Option (HL.V l)
  | [], [] => some ()
  | h :: l, a :: r => match h.sh a, HL.sh l r with
    | some x, some y => some (x, y)
    | _, _ => none
  | _, _ => none
theorem HL.eq : ∀ {l : List HA} {r : List At} {v : HL.V l}, HL.sh l r = some v → r = HL.st l v
  | [], [], _, _ => rfl
  | [], _ :: _, _, e => by simp [HL.sh] at e
  | _ :: _, [], _, e => by simp [HL.sh] at e
  | h :: l, a :: r, v, e => by
    simp only [HL.sh] at e
    split at e
    · rename_i x y hx hy
      cases e
      simp only [HL.st]
      rw [HA.eq hx, HL.eq hy]
    · simp at e

inductive HV where
  | one (h : HA)
  | agg (l : List HA)
  | undef

@[reducible] def HV.V : HV → Type
  | .one h => h.V
  | .agg l => HL.V l
  | .undef => Unit
def HV.st : (h : HV) → h.V → AV
  | .one h, v => .v (.one (h.st v))
  | .agg l, v => .v (.agg (HL.st l v))
  | .undef, _ => .undef
def HV.sh : (h : HV) → AV → Option h.V
  | .one h, .v (.one a) => h.sh a
  | .agg l, .v (.agg r) => HL.sh l r
  | .undef, .undef => some ()
  | _, _ => none
theorem HV.eq {h : HV} {a : AV} {v : h.V} (e : h.sh a = some v) : a = h.st v := by
  unfold HV.sh at e
  split at e
  · rw [HV.st, ← HA.eq e]
  · rw [HV.st, ← HL.eq e]
  · rfl
  · simp at e

inductive HB where
  | cells (l : List HA)
  | row (τ : Ty)
  | clo (f : Nat) (a b : List HA)
  | iter
  | capk (h : HA)

@[reducible] def HB.V : HB → Type
  | .cells l => HL.V l
  | .row τ => List τ.T
  | .clo _ a b => HL.V a × HL.V b
  | .iter => Str × Nat
  | .capk h => h.V × Nat
def HB.st : (h : HB) → h.V → AB
  | .cells l, v => .cells (HL.st l v)
  | .row τ, v => .row τ v
  | .clo f a b, v => .clo f (HL.st a v.1) (HL.st b v.2)
  | .iter, v => .iter v.1 v.2
  | .capk h, v => .capk (h.st v.1) v.2
def HB.sh : (h : HB) → AB → Option h.V
  | .cells l, .cells r => HL.sh l r
  | .row τ, .row τ' l => castL τ' τ l
  | .clo f a b, .clo g x y => match Nat.beq f g, HL.sh a x, HL.sh b y with
    | true, some p, some q => some (p, q)
    | _, _, _ => none
  | .iter, .iter s p => some (s, p)
  | .capk h, .capk x n => match h.sh x with
    | some p => some (p, n)
    | none => none
  | _, _ => none
theorem HB.eq {h : HB} {a : AB} {v : h.V} (e : h.sh a = some v) : a = h.st v := by
  unfold HB.sh at e
  split at e
  · rw [HB.st, ← HL.eq e]
  · obtain ⟨rfl, h⟩ := castL_ok e; simp at h; subst h; rfl
  · split at e
    · rename_i hf hx hy
      cases e
      rw [HB.st, ← HL.eq hx, ← HL.eq hy, Nat.eq_of_beq_eq_true hf]
    · simp at e
  · cases e; rfl
  · split at e
    · rename_i hx
      cases e
      rw [HB.st, ← HA.eq hx]
    · simp at e
  · simp at e

@[reducible] def HR.V : List (Nat × HV) → Type
  | [] => Unit
  | h :: l => h.2.V × HR.V l
def HR.st : (l : List (Nat × HV)) → HR.V l → Regs
  | [], _ => []
  | h :: l, v => (h.1, h.2.st v.1) :: HR.st l v.2
def HR.sh : (l : List (Nat × HV)) → Regs → Option (HR.V l)
  | [], [] => some ()
  | h :: l, a :: r => match Nat.beq h.1 a.1, h.2.sh a.2, HR.sh l r with
    | true, some x, some y => some (x, y)
    | _, _, _ => none
  | _, _ => none
theorem HR.eq : ∀ {l : List (Nat × HV)} {r : Regs} {v : HR.V l}, HR.sh l r = some v → r = HR.st l v
  | [], [], _, _ => rfl
  | [], _ :: _, _, e => by simp [HR.sh] at e
  | _ :: _, [], _, e => by simp [HR.sh] at e
  | h :: l, a :: r, v, e => by
    simp only [HR.sh] at e
    split at e
    · rename_i x y hk hx hy
      cases e
      simp only [HR.st]
      rw [← HV.eq hx, ← HR.eq hy, Nat.eq_of_beq_eq_true hk]
    · simp at e

@[reducible] def HM.V : List (Nat × HB) → Type
  | [] => Unit
  | h :: l => h.2.V × HM.V l
def HM.st : (l : List (Nat × HB)) → HM.V l → Mem
  | [], _ => []
  | h :: l, v => (h.1, h.2.st v.1) :: HM.st l v.2
def HM.sh : (l : List (Nat × HB)) → Mem → Option (HM.V l)
  | [], [] => some ()
  | h :: l, a :: r => match Nat.beq h.1 a.1, h.2.sh a.2, HM.sh l r with
    | true, some x, some y => some (x, y)
    | _, _, _ => none
  | _, _ => none
theorem HM.eq : ∀ {l : List (Nat × HB)} {r : Mem} {v : HM.V l}, HM.sh l r = some v → r = HM.st l v
  | [], [], _, _ => rfl
  | [], _ :: _, _, e => by simp [HM.sh] at e
  | _ :: _, [], _, e => by simp [HM.sh] at e
  | h :: l, a :: r, v, e => by
    simp only [HM.sh] at e
    split at e
    · rename_i x y hk hx hy
      cases e
      simp only [HM.st]
      rw [← HB.eq hx, ← HM.eq hy, Nat.eq_of_beq_eq_true hk]
    · simp at e

structure HS where
  regs : List (Nat × HV)
  mem : List (Nat × HB)
  nx : Nat

abbrev HS.V (h : HS) : Type := HR.V h.regs × HM.V h.mem
def HS.st (h : HS) (v : h.V) : St := { regs := HR.st h.regs v.1, mem := HM.st h.mem v.2, nx := h.nx }
def HS.sh (h : HS) (σ : St) : Option h.V :=
  match HR.sh h.regs σ.regs, HM.sh h.mem σ.mem, Nat.beq h.nx σ.nx with
  | some x, some y, true => some (x, y)
  | _, _, _ => none
theorem HS.eq {h : HS} {σ : St} {v : h.V} (e : h.sh σ = some v) : σ = h.st v := by
  unfold HS.sh at e
  split at e
  · rename_i x y hx hy hn
    cases e
    unfold HS.st
    rw [← HR.eq hx, ← HM.eq hy, Nat.eq_of_beq_eq_true hn]
  · simp at e

/-- How often a loop may go round. -/
noncomputable def FUEL : Nat := Classical.choose (⟨1099511627776, Nat.le_refl _⟩ : ∃ n : Nat, 1099511627776 ≤ n)
theorem FUEL_ge : 1099511627776 ≤ FUEL := Classical.choose_spec (⟨1099511627776, Nat.le_refl _⟩ : ∃ n : Nat, 1099511627776 ≤ n)

section
variable {R : Type} {H : Hnd R} {c : Cfg} {lp : List (Nat × Hd R)} {b : Code}

/-- A loop's head that reads a state of a shape. -/
noncomputable def hdOf (h : HS) (l : Nat → h.V → (Ex → St → Option R) → Option R) : Hd R := fun σ K => ocase (h.sh σ) fun v => l FUEL v K

theorem loopOK_of (h : HS) (l : Nat → h.V → (Ex → St → Option R) → Option R) (h0 : ∀ v K, l 0 v K = none) (h1 : ∀ q v K, l (q + 1) v K = run H c lp b (h.st v) fun e σ' => match e with
    | .normal => keepIf (look (firstRegion b) c.loops) σ' fun σ'' => ocase (h.sh σ'') fun v => l q v K
    | .exit i => K (.exit i) σ'
    | .goto l => K (.goto l) σ'
    | .ret => K .ret σ') : LoopOK H c lp b h.V h.st h.sh l (hdOf h l) :=
  ⟨⟨FUEL, fun _ _ => rfl⟩, fun _ _ e => HS.eq e, h0, h1⟩

def LoopsL (H : Hnd R) (c : Cfg) (lp : List (Nat × Hd R)) : List Code → Prop
  | [] => True
  | b :: l => (match look (firstRegion b) lp with
    | none => True
    | some h => ∃ V st sh l, LoopOK H c lp b V st sh l h) ∧ LoopsL H c lp l

theorem loopsL_mem : ∀ {l : List Code}, LoopsL H c lp l → ∀ b, b ∈ l → ∀ h, look (firstRegion b) lp = some h → ∃ V st sh l, LoopOK H c lp b V st sh l h
  | [], _, b, hb, _, _ => by simp at hb
  | x :: l, hl, b, hb, h, hh => by
    simp only [List.mem_cons] at hb
    rcases hb with rfl | hb
    · have := hl.1
      rw [hh] at this
      exact this
    · exact loopsL_mem hl.2 b hb h hh

theorem loopsOK_of {code : Code} {l : List Code} (e : loopsOf code = l) (h : LoopsL H c lp l) : LoopsOK H c lp code := by
  subst e; exact loopsL_mem h

variable {P : Program}
theorem subsOK_nil (P : Program) (d : Nat) : SubsOK P (R := R) d [] := by
  cases d with
  | zero => trivial
  | succ d => intro t fid cfg lp body res subs' h; simp [look] at h

theorem look_cons1 {α : Type 1} {i n : Nat} {x : α} {l : List (Nat × α)} : look n ((i, x) :: l) = if i = n then some x else look n l := by
  simp only [look]
  split
  · rename_i h; rw [if_pos (Nat.eq_of_beq_eq_true h)]
  · rename_i h; rw [if_neg (fun e => by subst e; simp at h)]

theorem subsOK_cons {d t fid : Nat} {cfg : Cfg} {lp : List (Nat × Hd R)} {body : Code} {res : List ResultVar} {subs' l : List (Nat × Inl R)} {fn : Func} (h1 : P.funcs[fid]? = some fn) (h2 : (fn.name == "runtime.NumGoroutine") = false) (h3 : fn.body = some body) (h4 : cfg.N = fn.ntmps) (h5 : fn.results.toList = res)
    (C : CfgOK P cfg) (hl : LoopsOK (hnd d subs') cfg lp body) (hs : SubsOK P d subs') (h : SubsOK P (d + 1) l) : SubsOK P (d + 1) ((t, .mk fid cfg lp body res subs') :: l) := by
  intro t' fid' cfg' lp' body' res' subs'' hlk
  rw [look_cons1] at hlk
  split at hlk
  · cases hlk
    exact ⟨⟨fn, h1, h2, h3, h4, h5⟩, C, hl, hs⟩
  · exact h t' fid' cfg' lp' body' res' subs'' hlk
end
end Go.Eng
