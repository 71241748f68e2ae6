import Derived.Test.YtiaemhkkfjpdlaaEngI
/- THE ENGINE: what lifted functions speak of; lists of facts. -/
set_option linter.unusedSimpArgs false
set_option linter.unusedVariables false
namespace Go.Eng
open Go Go.RowKit

structure Fs where
  maxInodes : Int
  maxBytes : Int
  next : Int
  inodes : List Inode

structure Spotted where
  dir : Int
  name : Str
  ino : Int

structure Pth where
  abs : Bool
  names : List Str
  slash : Bool

structure Stash where
  kept : List Kept
  pool : List Inode

structure World' where
  fs : Fs
  stash : Stash

/-- A place in code. -/
def sub : List Nat → Code → Code
  | [], c => c
  | 0 :: l, .seq a _ => sub l a
  | 1 :: l, .seq _ b => sub l b
  | _ :: l, .block _ b => sub l b
  | _ :: l, .loop b => sub l b
  | _ :: l, .scope b => sub l b
  | 0 :: l, .cond _ a _ => sub l a
  | 1 :: l, .cond _ _ b => sub l b
  | _ :: _, c => c

section
variable {R : Type} {H : Hnd R} {c : Cfg} {lp : List (Nat × Hd R)}
theorem loopsL_cons {b : Code} {rid : Nat} {l : List Code} {h : Hd R} {V : Type} {st : V → St} {sh : St → Option V} {f : Nat → V → (Ex → St → Option R) → Option R} (e1 : firstRegion b = rid) (e2 : look rid lp = some h) (L : LoopOK H c lp b V st sh f h) (t : LoopsL H c lp l) : LoopsL H c lp (b :: l) := by
  refine ⟨?_, t⟩
  rw [e1, e2]
  exact ⟨V, st, sh, f, L⟩
theorem loopsL_skip {b : Code} {rid : Nat} {l : List Code} (e1 : firstRegion b = rid) (e2 : look rid lp = none) (t : LoopsL H c lp l) : LoopsL H c lp (b :: l) := by
  refine ⟨?_, t⟩
  rw [e1, e2]
  trivial
end

theorem eqsOK_of {P : Program} {c : Cfg} (h : c.eqs.all (fun x => eqB P x.1 x.2) = true) : EqsOK P c := fun t es hl => List.all_eq_true.1 h _ (look_mem hl)

def OvlL (P : Program) : List Nat → Prop
  | [] => True
  | x :: l => OvlOK P x ∧ OvlL P l
theorem ovlL_ok {P : Program} : ∀ {l : List Nat}, OvlL P l → ∀ f, hasN f l = true → OvlOK P f
  | [], _, f, h => by simp [hasN] at h
  | x :: l, hl, f, h => by
    unfold hasN at h
    split at h
    · rename_i e; have := Nat.eq_of_beq_eq_true e; subst this; exact hl.1
    · exact ovlL_ok hl.2 f h
end Go.Eng
