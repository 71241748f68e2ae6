import Derived.Test.YtiaemhkkfjpdlaaEngS13b
import Derived.Laws.RangeString
/- THE ENGINE, soundness, part 13c: a text, rune by rune. -/
set_option linter.unusedSimpArgs false
set_option linter.unusedVariables false
set_option linter.unnecessarySimpa false
namespace Go.Eng
open Go Go.RowKit

section
variable {P : Program} {F : Fence} {n : Nat} {c : Cfg} {g g' : Gh} {r : Regs} {m : Mem} {a : Act} {w w' : World} {o : Oper} {R : Type} {k : St → Option R} {res : R} {xs : List Operand}
variable {base : Nat} {w0 : World} {S0 : Nat → Prop} {N : Nat} {D : List Deferred} {sv : Nat → Value} {σ : St}

theorem w_range (h : Rel base w0 S0 N D sv g σ a w) (C : CfgOK P c) (hN : c.N = N) (hF : WideF F) {K : Act → World → Prop} {Q : Exit → Act → World → Prop} (hK : ∀ g' σ' a' w', k σ' = some res → Rel base w0 S0 N D sv g' σ' a' w' → K a' w') {t : TypeId} {x : Operand}
    (hop : o.op = .range t x) {ti : TI} (hti : c.ti t = some ti) (htk : ti.k = .str) {s : Str} (hx : evA c σ.regs t x = some (.str s)) (hs : (σ.new (.iter s 0)).put c o.dst (.one (.iter σ.nx)) k = some res) : o.wpIn F n P a w K Q := by
  obtain ⟨i, d, T⟩ := C.ts t ti hti
  have e := T.str htk
  subst e
  have E := h.env C [x]
  have hxv := E.evA (x := x) (by simp) hx
  generalize hxe : a.eval x = vx at hxv
  cases hxv with
  | str _ bs hbs =>
    obtain ⟨b, hbd⟩ : ∃ b : Gb, b = ⟨some w.heap.size, 0, 0, 0, default⟩ := ⟨_, rfl⟩
    have hb : Below w.heap.size w (w.iter bs 0) := (Below.refl _ _).alloc (Nat.le_refl _) _
    have hn := h.new (id := σ.nx) (Nat.le_refl _) (w' := w.iter bs 0) (b := b) (x := .iter s 0) hb ⟨w.heap.size, bs, by rw [hbd], World.iter_heap w bs 0, hbs⟩ (fun q hq => by
      rw [hbd] at hq; cases hq
      exact ⟨Nat.le_refl _, by show w.heap.size < (w.heap.push _).size; rw [Array.size_push]; omega⟩)
    obtain ⟨σ2, hk, h2⟩ := hn.put (v := .pointer (some ⟨w.heap.size, 0, none⟩)) hN (x := .one (.iter σ.nx)) (VA.iter σ.nx b w.heap.size (by simp [Gh.set]) (by rw [hbd])) hs
    refine wpIn_of_run hF (by simp [hop]) ?_ (hK _ _ _ _ hk h2)
    simp [execOp, hop, hxe, run_range_string w t bs T.und]

theorem w_next (h : Rel base w0 S0 N D sv g σ a w) (C : CfgOK P c) (hN : c.N = N) (hF : WideF F) {K : Act → World → Prop} {Q : Exit → Act → World → Prop} (hK : ∀ g' σ' a' w', k σ' = some res → Rel base w0 S0 N D sv g' σ' a' w' → K a' w') {x : Operand}
    (hop : o.op = .next x true) {px : At} (hx : evA c σ.regs 0 x = some px) (hs : nextW c o σ px k = some res) : o.wpIn F n P a w K Q := by
  have E := h.env C [x]
  have hxv := E.evA (x := x) (by simp) hx
  generalize hxe : a.eval x = vx at hxv
  unfold nextW at hs
  split at hs
  · rename_i id
    split at hs
    · rename_i s pos hl
      obtain ⟨b, hm, q, bs, hb, hh, hbs⟩ := h.mem id _ hl
      cases hxv with
      | iter _ b' q' hm' hq' =>
        rw [hm] at hm'; cases hm'
        rw [hb] at hq'; cases hq'
        have hsz : bs.size = s.length := by rw [← hbs]; simp
        have hdec : runeAt s pos = Utf8.decode bs pos := by
          unfold runeAt
          congr 1
          subst hbs
          rfl
        rcases bcase_some hs with ⟨h1, hs⟩ | ⟨h1, hs⟩
        · have h1 : pos < s.length := Nat.le_of_ble_eq_true h1
          rw [hdec] at hs
          obtain ⟨w1, hw1⟩ : ∃ w1 : World, w1 = { w with heap := w.heap.setIfInBounds q (.stringIter bs (pos + (Utf8.decode bs pos).2)) } := ⟨_, rfl⟩
          have hqlt : q < w.heap.size := (Array.getElem?_eq_some_iff.1 hh).1
          have hset := h.set (w' := w1) (y := .iter s (pos + (Utf8.decode bs pos).2)) hl rfl hm hb (by rw [hw1]; simp) (fun j hj => by
            rw [hw1]
            show (w.heap.setIfInBounds q _)[j]? = _
            rw [Array.getElem?_setIfInBounds_ne (Ne.symm hj)]) ⟨by rw [hw1], by rw [hw1], by rw [hw1]⟩ (fun _ => ⟨q, bs, hb, by rw [hw1]; show (w.heap.setIfInBounds q _)[q]? = _; simp [hqlt], hbs⟩)
          obtain ⟨σ2, hk, h2⟩ := hset.put (v := .tuple #[.bool true, .int .i64 pos, .int .i32 (Utf8.decode bs pos).1]) hN (x := .tup [.one (.bool true), .one (.int .i64 pos), .one (.int .i32 (Utf8.decode bs pos).1)])
            ⟨[.bool true, .int .i64 pos, .int .i32 (Utf8.decode bs pos).1], rfl, .cons (VA.bool _) (.cons (VA.int _ _) (.cons (VA.int _ _) .nil))⟩ hs
          refine wpIn_of_run hF (by simp [hop]) ?_ (hK _ _ _ _ hk h2)
          simp [execOp, hop, hxe, Instr.next, getObj, setObj, Sem.run, hh, hsz, h1, hw1, goInt]
        · have h1 : ¬ pos < s.length := fun e => by
            have : Nat.blt pos s.length = true := Nat.ble_eq_true_of_le e
            rw [this] at h1; cases h1
          obtain ⟨σ2, hk, h2⟩ := h.put (v := .tuple #[.bool false]) hN (x := .tup [.one (.bool false)]) ⟨[.bool false], rfl, .cons (VA.bool _) .nil⟩ hs
          refine wpIn_of_run hF (by simp [hop]) ?_ (hK _ _ _ _ hk h2)
          simp [execOp, hop, hxe, Instr.next, getObj, Sem.run, hh, hsz, h1]
    · simp at hs
  · simp at hs

end
end Go.Eng
