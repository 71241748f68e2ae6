/- Of whatever input of bulk at most 1048576, UndoStays answers true and leaves what came in as it was; the listed variables are tied to the program's text. Conditions: none beside the given form's own. -/
import Derived.Test.YtodknkhemckfbaaGreatDoorF2
import Derived.Test.YtodknkhemckfbaaGreatDoorP5
import Derived.Test.YtodknkhemckfbaaGreatDoorP4
import Derived.Test.YtodknkhemckfbaaGreatDoorCards
import Derived.Test.YtodknkhemckfbaaGreatDoorTie
import Derived.WalkKit
import Derived.ProofKit
import Derived.OpenShut
import Derived.Deep.DeepHandedRow
namespace Go.Proofs.YtodknkhemckfbaaGreatDoor.undoStays
open Go.ChangeShapes Go.WideShapes Go.ChangeAt Go.RowKit Go.Eng
set_option linter.unusedVariables false
theorem own : ownKnob Tryz.prog.godebug = none := by kernel_rfl
theorem bulkAll_mem {H : Type} : ∀ {l : List (DataW H)} {d : DataW H}, d ∈ l → Rows.uptoBulk d ≤ Rows.uptoBulkAll l
  | x :: l, d, h => by
    simp only [Rows.uptoBulkAll]
    simp only [List.mem_cons] at h
    rcases h with rfl | h
    · omega
    · have := bulkAll_mem h; omega
theorem bulk_pos {H : Type} (d : DataW H) : 1 ≤ Rows.uptoBulk d := by
  cases d
  case lit x => cases x <;> simp [Rows.uptoBulk]
  all_goals simp [Rows.uptoBulk]
theorem bulkAll_len {H : Type} : ∀ (l : List (DataW H)), l.length ≤ Rows.uptoBulkAll l
  | [] => Nat.zero_le _
  | x :: l => by
    have := bulkAll_len l
    have := bulk_pos x
    simp only [Rows.uptoBulkAll, List.length_cons]; omega
theorem bulkOK (H : Type) : mb (Rows.uptoBulk (H := H)) where
  str l := by simp [Rows.uptoBulk]
  len es sp := by have := bulkAll_len es; simp only [Rows.uptoBulk]; omega
  elem es sp e he := by have := bulkAll_mem he; simp only [Rows.uptoBulk]; omega
  part ps p hp := by have := bulkAll_mem hp; simp only [Rows.uptoBulk]; omega
theorem kids : Kids Tryz.prog (· < Tryz.prog.types.size) := kids_rows (by kernel_rfl) (by kernel_rfl)
def slB (P : Program) : Nat → Bool
  | 0 => true
  | n + 1 => (match P.underlying n with | some (.slice e) => Nat.blt 0 (P.cellsOf e) | _ => true) && slB P n
theorem slB_ok {P : Program} : ∀ {n : Nat}, slB P n = true → ∀ t, t < n → ∀ e, P.underlying t = some (.slice e) → 0 < P.cellsOf e
  | n + 1, h, t, ht, e, he => by
    simp only [slB, Bool.and_eq_true] at h
    by_cases h' : t = n
    · subst h'
      have := h.1
      rw [he] at this
      exact Nat.le_of_ble_eq_true this
    · exact slB_ok h.2 t (by omega) e he
theorem slices : slB Tryz.prog Tryz.prog.types.size = true := by kernel_rfl
theorem law (x : HP.V oC) (h : HP.ok 1048576 oC x) : TO (sH x) = some true := by
  obtain ⟨h1, h2, _⟩ := h
  have h3 : x.2.1.length ≤ 1048576 := h2.1
  exact AM (Fu h1) (show x.2.1.length ≤ 1073741824 by omega)
set_option maxRecDepth 100000 in
theorem contract (H : Type) (enc : TypeId × Value → H) (W : World) (base : Nat) (args : Array Value) (ds gs : List (DataW H)) (before : List MemPlace)
    (hval : ∀ (j : Nat) t v, Tryz.f10.params[j]? = some t → args[j]? = some v → Value.okWide Tryz.prog W .any base t v)
    (hW : DataW.Whole enc Tryz.prog Tryz.f10.params.toList Rows.undoStaysSpec.vars false W args.toList ds gs before) (hk : Rows.uptoSmall H (ds ++ gs) = true) (hL : laidMetH Tryz.prog Rows.undoStaysUptoRow.laid W) :
    Calls Tryz.prog 10 args W fun e W' => ∃ v, e = .returned v ∧ Rows.undoStaysSpec.post enc Tryz.prog Tryz.f10 false true false false W args v W' := by
  refine fE (N := 1048576) (bulkOK H) kids (fun t e ht he => slB_ok slices t ht e he) (toX := sH) (hp := oC) (ofY := dN) (f := TO) (tb := 4) aiF rfl rfl (by kernel_rfl) (by kernel_rfl) (of_decide_eq_true (by kernel_rfl)) (by kernel_rfl) (fun ds hd => ?_) law W base args ds gs before hval hW (fun d hd => ?_) ?_
  · match ds, hd with
    | [d1, d2], _ => exact ⟨rfl, rfl, rfl⟩
  · have h1 := of_decide_eq_true hk
    have h2 := bulkAll_mem (l := ds ++ gs) (d := d) (by simp [hd])
    omega
  · exact jN (ta := 113) (e := 112) (tb := 4) rfl (by kernel_rfl) (by kernel_rfl) Tryz.underlying113 (by kernel_rfl) Tryz.underlying112 (by kernel_rfl) Tryz.underlying4 (by kernel_rfl) (by kernel_rfl) (.tail _ (.head _)) hL
noncomputable def laidHeap (os : Os) :=
  ((((World.holding Tryz.prog os ⟨#[], #[], []⟩).heap).modify 3 (fun | .cells _ t frozen => .cells #[.int .u8 128, .int .u8 191, .int .u8 160, .int .u8 191, .int .u8 128, .int .u8 159, .int .u8 144, .int .u8 191, .int .u8 128, .int .u8 143, .int .u8 0, .int .u8 0, .int .u8 0, .int .u8 0, .int .u8 0, .int .u8 0, .int .u8 0, .int .u8 0, .int .u8 0, .int .u8 0, .int .u8 0, .int .u8 0, .int .u8 0, .int .u8 0, .int .u8 0, .int .u8 0, .int .u8 0, .int .u8 0, .int .u8 0, .int .u8 0, .int .u8 0, .int .u8 0] t frozen | o => o)).modify 0 (fun | .cells _ t frozen => .cells #[.bool false, .bool false, .bool false, .bool false, .bool false, .bool false, .bool false, .bool true, .bool false, .bool true, .bool true, .bool false, .bool false, .bool false, .bool true, .bool false, .bool true, .bool false, .bool false, .bool true, .bool false, .bool true, .bool false, .bool false, .bool false, .bool false, .bool false, .bool true, .bool false, .bool false, .bool true, .bool false, .bool false] t frozen | o => o)).modify 2 (fun | .cells _ t frozen => .cells (Go.Pinned.utf8FirstZ.map fun (n : Nat) => Value.int .u8 (n : Int)).toArray t frozen | o => o)
noncomputable def laidWorld (os : Os) : World :=
  { World.holding Tryz.prog os ⟨#[], #[], []⟩ with heap := laidHeap os }
theorem laid_met (os : Os) : laidMet Tryz.prog Rows.undoStaysUptoRow.laid ((laidWorld os).forCall (fun _ _ => 0) ⟨#[], #[.agg #[.int .i64 0, .int .i64 0, .int .i64 0, .slice none 0 0, .slice none 0 0, .slice none 0 0], .slice none 0 0], []⟩).memory :=
  laidMet_of_run' 8 (by kernel_rfl) (by kernel_rfl)
theorem reads (os : Os) {H : Type} (enc : TypeId × Value → H) : ∃ places, DataW.whole enc Tryz.prog ((laidWorld os).forCall (fun _ _ => 0) ⟨#[], #[.agg #[.int .i64 0, .int .i64 0, .int .i64 0, .slice none 0 0, .slice none 0 0, .slice none 0 0], .slice none 0 0], []⟩).memory Tryz.f10.params.toList Rows.undoStaysSpec.vars false #[Value.agg #[.int .i64 0, .int .i64 0, .int .i64 0, .slice none 0 0, .slice none 0 0, .slice none 0 0], .slice none 0 0].toList 8 = some ([.agg [.agg [.lit (.int .i64 0), .lit (.int .i64 0), .lit (.int .i64 0), .nil], .agg [.nil, .nil]], .nil], [], places) :=
  ⟨[], by kernel_rfl⟩
set_option maxRecDepth 100000 in
theorem lifted (os : Os) (started : os.Started) (H : Type) (enc : TypeId × Value → H) (F : Stop.Interp) :
    ReturnsInHanded {} Tryz.checked os 10 .any ((Rows.OpenSpec.upto Rows.undoStaysSpec).preRow enc Tryz.prog Tryz.f10 Rows.undoStaysUptoRow.domain false Rows.undoStaysUptoRow.laid) (((Rows.OpenSpec.upto Rows.undoStaysSpec).at F).post enc Tryz.prog Tryz.f10 false true false false) := by
  obtain ⟨places, hx⟩ := reads os enc
  refine returnsInHanded_of_row (C := Tryz.checked) (s := Rows.OpenSpec.upto Rows.undoStaysSpec) own started (by kernel_rfl) Tryz.func10
    (witness_row_at (enc := enc) (C := Tryz.checked) false (laidWorld os) #[Value.agg #[.int .i64 0, .int .i64 0, .int .i64 0, .slice none 0 0, .slice none 0 0, .slice none 0 0], .slice none 0 0] rfl (by kernel_rfl) (by kernel_rfl) (by kernel_rfl)
      (OpenSpec.preRow_of_cond 8 hx (by kernel_rfl) (fun k hk => by cases hk; kernel_rfl) (by kernel_rfl) (laid_met os))) ?_
  intro W base args ds gs before hval hW _ hcond _ hL _ _
  exact contract H enc W base args ds gs before hval hW (hcond _ rfl) hL
theorem said : Rows.UndoStaysUptoSaid :=
  OpenClaim.holds_of_cond 10 Tryz.f10 rfl rfl rfl rfl rfl rfl rfl ⟨rfl, rfl, rfl, rfl, rfl⟩ rfl rfl rfl rfl rfl (by kernel_rfl) Tryz.func10 (by kernel_rfl)
    (of_decide_eq_true (by kernel_rfl)) (by unfold Func.isWrapper; first | (rw [if_pos (by decide +kernel)]; kernel_rfl) | (rw [if_neg (by decide +kernel)]; exact ⟨rfl, rfl⟩))
    (fun os started H enc _ F => by rw [OpenClaim.pre_eq_preRow]; exact lifted os started H enc F)
theorem plain (f : FuncId) (fn : Func) (hf : Tryz.pinned.checked.prog.funcNamed "drayman/draymanlaw24.UndoStays" = some f) (hfn : Tryz.pinned.checked.prog.funcs[f]? = some fn) :
    false = Tryz.pinned.checked.prog.looks [] ∧ ∀ (j : Nat) t, fn.params[j]? = some t → Tryz.pinned.checked.prog.wantsStandIn t = false := by
  obtain rfl : f = 10 := Option.some.inj ((show Tryz.prog.funcNamed "drayman/draymanlaw24.UndoStays" = some 10 by kernel_rfl).symm.trans hf) |>.symm
  obtain rfl : fn = Tryz.f10 := (Option.some.inj (Tryz.func10.symm.trans hfn)).symm
  refine ⟨by kernel_rfl, fun j t ht => ?_⟩
  have h : (Tryz.f10.params.toList.all fun t => !(Tryz.prog.wantsStandIn t)) = true := by kernel_rfl
  have h2 := List.all_eq_true.1 h t (by simpa using Array.mem_of_getElem? ht)
  have h3 : Tryz.prog.wantsStandIn t = false := by simpa using h2
  exact h3
theorem proved : Rows.UndoStaysUptoCardSaid :=
  Claim7.holds_tied_plain_at .later [] _ _ _ _ said (fun _ h => by cases h) (by kernel_rfl) (fun _ h => by cases h) undoStaysUpto_row_tie rfl ⟨rfl, rfl⟩ (by kernel_rfl) rfl plain (by kernel_rfl)
end Go.Proofs.YtodknkhemckfbaaGreatDoor.undoStays
