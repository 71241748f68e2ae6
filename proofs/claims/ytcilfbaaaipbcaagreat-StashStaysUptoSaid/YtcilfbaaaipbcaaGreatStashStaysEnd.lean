/- Of whatever input of bulk at most 1048576, StashStays answers true and leaves what came in as it was. Conditions: none beside the given form's own. -/
import Derived.Test.YtcilfbaaaipbcaaGreatF2
import Derived.Test.YtcilfbaaaipbcaaGreatP5
import Derived.Test.YtcilfbaaaipbcaaGreatRows
import Derived.WalkKit
import Derived.ProofKit
import Derived.JoinedCond
namespace Go.Proofs.YtcilfbaaaipbcaaGreat.stashStays
open Go.ChangeShapes Go.WideShapes Go.ChangeAt Go.RowKit Go.Eng
set_option linter.unusedVariables false
theorem own : ownKnob Tryz.prog.godebug = none := by kernel_rfl
theorem bulkAll_mem {H : Type} : ∀ {l : List (DataW H)} {d : DataW H}, d ∈ l → Rows.uptoBulk d ≤ Rows.uptoBulkAll l
  | x :: l, d, h => by
    simp only [Rows.uptoBulkAll]
    simp only [List.mem_cons] at h
    rcases h with rfl | h
    · omega
    · have := bulkAll_mem h; omega
theorem bulk_pos {H : Type} (d : DataW H) : 1 ≤ Rows.uptoBulk d := by
  cases d
  case lit x => cases x <;> simp [Rows.uptoBulk]
  all_goals simp [Rows.uptoBulk]
theorem bulkAll_len {H : Type} : ∀ (l : List (DataW H)), l.length ≤ Rows.uptoBulkAll l
  | [] => Nat.zero_le _
  | x :: l => by
    have := bulkAll_len l
    have := bulk_pos x
    simp only [Rows.uptoBulkAll, List.length_cons]; omega
theorem bulkOK (H : Type) : mz (Rows.uptoBulk (H := H)) where
  str l := by simp [Rows.uptoBulk]
  len es sp := by have := bulkAll_len es; simp only [Rows.uptoBulk]; omega
  elem es sp e he := by have := bulkAll_mem he; simp only [Rows.uptoBulk]; omega
  part ps p hp := by have := bulkAll_mem hp; simp only [Rows.uptoBulk]; omega
theorem kids : Kids Tryz.prog (· < Tryz.prog.types.size) := kids_rows (by kernel_rfl) (by kernel_rfl)
def slB (P : Program) : Nat → Bool
  | 0 => true
  | n + 1 => (match P.underlying n with | some (.slice e) => Nat.blt 0 (P.cellsOf e) | _ => true) && slB P n
theorem slB_ok {P : Program} : ∀ {n : Nat}, slB P n = true → ∀ t, t < n → ∀ e, P.underlying t = some (.slice e) → 0 < P.cellsOf e
  | n + 1, h, t, ht, e, he => by
    simp only [slB, Bool.and_eq_true] at h
    by_cases h' : t = n
    · subst h'
      have := h.1
      rw [he] at this
      exact Nat.le_of_ble_eq_true this
    · exact slB_ok h.2 t (by omega) e he
theorem slices : slB Tryz.prog Tryz.prog.types.size = true := by kernel_rfl
theorem law (x : HP.V GW) (h : HP.ok 1048576 GW x) : Nf (O7 x) = some true := by
  exact tu (BS h.1)
set_option maxRecDepth 100000 in
theorem contract (H : Type) (enc : TypeId × Value → H) (W : World) (base : Nat) (args : Array Value) (ds gs : List (DataW H)) (before : List MemPlace)
    (hval : ∀ (j : Nat) t v, Tryz.f8.params[j]? = some t → args[j]? = some v → Value.okWide Tryz.prog W .any base t v)
    (hW : DataW.Whole enc Tryz.prog Tryz.f8.params.toList Rows.stashStaysSpec.vars false W args.toList ds gs before) (hk : Rows.uptoSmall H (ds ++ gs) = true) :
    Calls Tryz.prog 8 args W fun e W' => ∃ v, e = .returned v ∧ Rows.stashStaysSpec.post enc Tryz.prog Tryz.f8 false true false false W args v W' := by
  refine gS (N := 1048576) (bulkOK H) kids (fun t e ht he => slB_ok slices t ht e he) (toX := O7) (hp := GW) (ofY := W9) (f := Nf) (tb := 4) abU rfl rfl (by kernel_rfl) (by kernel_rfl) (of_decide_eq_true (by kernel_rfl)) (by kernel_rfl) (fun ds hd => ?_) law W base args ds gs before hval hW (fun d hd => ?_) ?_
  · match ds, hd with
    | [d1, d2, d3, d4], _ => exact ⟨rfl, rfl, rfl⟩
  · have h1 := of_decide_eq_true hk
    have h2 := bulkAll_mem (l := ds ++ gs) (d := d) (by simp [hd])
    omega
  · exact kH rfl
set_option maxRecDepth 100000 in
theorem lifted (os : Os) (started : os.Started) (H : Type) (enc : TypeId × Value → H) (F : Stop.Interp) :
    ReturnsInHanded {} Tryz.checked os 8 .any ((Rows.OpenSpec.upto Rows.stashStaysSpec).pre6 enc Tryz.prog Tryz.f8 Rows.stashStaysUptoRow.domain false) (((Rows.OpenSpec.upto Rows.stashStaysSpec).at F).post enc Tryz.prog Tryz.f8 false true false false) := by
  refine returnsInHanded_of_cond (C := Tryz.checked) (s := Rows.OpenSpec.upto Rows.stashStaysSpec) (k := Rows.uptoSmall) rfl own started (by kernel_rfl) Tryz.func8
    (OpenSpec.witness (enc := enc) (C := Tryz.checked) (s := Rows.OpenSpec.upto Rows.stashStaysSpec) (k := Rows.uptoSmall) rfl false ⟨#[], #[.agg #[.int .i64 0, .int .i64 0, .int .i64 0, .slice none 0 0, .slice none 0 0, .slice none 0 0], .int .i64 0, .string ⟨#[]⟩, .int .i64 0], []⟩ 8 (by kernel_rfl) (by kernel_rfl) (by kernel_rfl)
      (x := ([.agg [.agg [.lit (.int .i64 0), .lit (.int .i64 0), .lit (.int .i64 0), .nil], .agg [.nil, .nil]], .lit (.int .i64 0), .lit (.string []), .lit (.int .i64 0)], [], [])) (by kernel_rfl) rfl (by kernel_rfl)) ?_
  intro W base args ds gs before hval hW _ hk _
  exact contract H enc W base args ds gs before hval hW hk
theorem over : Rows.stashStaysUptoRow.holds Tryz.pinned (Rows.OpenSpec.upto Rows.stashStaysSpec) :=
  OpenClaim.holds_of_cond 8 Tryz.f8 rfl rfl rfl rfl rfl rfl rfl ⟨rfl, rfl, rfl, rfl, rfl⟩ rfl rfl rfl rfl rfl (by kernel_rfl) Tryz.func8 (by kernel_rfl)
    (of_decide_eq_true (by kernel_rfl)) (by unfold Func.isWrapper; first | (rw [if_pos (by decide +kernel)]; kernel_rfl) | (rw [if_neg (by decide +kernel)]; exact ⟨rfl, rfl⟩))
    (fun os started H enc _ F => lifted os started H enc F)
theorem proved : Rows.StashStaysUptoSaid := over
end Go.Proofs.YtcilfbaaaipbcaaGreat.stashStays
