/- A part of the proofs of the laws of this seat: the engine that reads the program's code, plain functions, or facts of the program's functions. Conditions: none. -/
import Derived.Test.YtopfnnikfjbofaaGreatDoorE2
import Derived.Great.BuildSlice
import Derived.Laws.MakeOwn
import Derived.Lib.Overlaps
import Derived.Laws.Externs
import Derived.Laws.RangeString
import Derived.MapKept
import Derived.Lib.SliceRun
import Derived.OrdersIn
set_option linter.unusedSectionVars false
set_option linter.unusedVariables false
set_option linter.unusedSimpArgs false
set_option linter.unnecessarySimpa false
set_option linter.unusedSimpArgs false
set_option linter.unusedVariables false
set_option linter.unnecessarySimpa false
namespace Go.Eng
open Go Go.RowKit
section
variable {P : Program} [GlobL P] {F : Fence} {n : Nat} {c : Cfg} {g g' : Gh} {r : Regs} {m : Mem} {a : Act} {w w' : World} {o : Oper} {R : Type} {k : St → Option R} {res : R}
variable {base : Nat} {w0 : World} {S0 : Nat → Prop} {N : Nat} {D : Wt} {sv : Nat → Value} {σ : St}
theorem run_copy0 {t e : TypeId} {i : TypeInfo} {ad ad2 : Option Addr} {dl dc sl sc : Nat} (ht : P.underlying t = some (.slice e)) (hj : P.info? e = some i) (h0 : Nat.min sl dl = 0) (ty : TypeId) :
    (Builtin.copy_ #[t, t] ty #[.slice ad dl dc, .slice ad2 sl sc]).run P w = .ok (goInt 0) w := by
  have hfc : (Builtin.firstCells i.size 0 (.slice ad2 sl sc)).run P w = .ok #[] w := by
    cases ad2 <;> simp [Builtin.firstCells, loadCells, loadCellsFrom]
  cases ad <;> simp [Builtin.copy_, run_underlying ht, Builtin.lenOf, run_sizeOf hj, h0, hfc, storeCells]
theorem w_copy (h : Rel P base w0 S0 N D sv g σ a w) (C : CfgOK P c) (hN : c.N = N) (hF : WideF F) {K : Act → World → Prop} {Q : Exit → Act → World → Prop} (hK : ∀ g' σ' a' w', k σ' = some res → Rel P base w0 S0 N D sv g' σ' a' w' → K a' w') {t e : TypeId} {x y : Operand}
    (hop : o.op = .call { callee := .builtin .copy, args := #[x, y], argTypes := #[t, t] }) {ti : TI} {τ0 : Ty} (hti : c.ti t = some ti) (htk : ti.k = .slice τ0 e) {px py : At} (hx : evA c σ.regs t x = some px) (hy : evA c σ.regs t y = some py)
    (hs0 : listOf σ.mem py (fun τ' src => copyW c o σ τ0 px τ' src k) = some res) : o.wpIn F n P a w K Q := by
  obtain ⟨i, d, T⟩ := C.ts t ti hti
  obtain ⟨rfl, j, hj, hjs, hjb⟩ := T.slice htk
  have E := h.env C [x, y]
  have hxv := E.evA (x := x) (by simp) hx
  have hyv := E.evA (x := y) (by simp) hy
  generalize hxe : a.eval x = vx at hxv
  generalize hye : a.eval y = vy at hyv
  obtain ⟨τ', src0, ad2, m2, c2, hs1, rfl, hm2, -, hsrc2⟩ := listOf_ok h.mem hyv hs0
  clear hs0
  subst hm2
  have hsrc2 := src_of hsrc2
  have e1 : (#[x, y].map a.eval) = #[vx, .slice ad2 src0.length c2] := by simp [hxe, hye]
  have key : ∀ {id off len : Nat} {τ : Ty} {l : List τ.T} {src : List τ.T} {b : Gb} {ad : Option Addr} {cp : Nat}, look id σ.mem = some (.row τ l) → τ.n = τ0.n → (src.length = src0.length ∧ Src g w τ src ad2) → g.m id = some b → off + len ≤ l.length → vx = .slice ad len cp →
      (len ≠ 0 → ∃ q, b.blk = some q ∧ ad = some ⟨q, off * τ.n, none⟩) → (σ.set id (.row τ (l.take off ++ (src.take len ++ (l.drop off).drop (min src.length len))))).put c o.dst (.one (.int .i64 (min src.length len : Nat))) k = some res → o.wpIn F n P a w K Q := by
    intro id off len τ l src b ad cp hl hn hss hm hle hvx hbk hp
    obtain ⟨hsl, hsrc⟩ := hss
    have hbr : BR P g w b (.row τ l) := by
      obtain ⟨b', hm', hbr⟩ := h.mem id _ hl
      rw [hm] at hm'; cases hm'; exact hbr
    rw [hvx, ← hsl] at e1
    by_cases h0 : Nat.min src.length len = 0
    · have e2 : l.take off ++ (src.take len ++ (l.drop off).drop (min src.length len)) = l := by
        have : src.take len = [] := by
          have : (src.take len).length = 0 := by rw [List.length_take, Nat.min_comm]; exact h0
          exact List.length_eq_zero_iff.1 this
        have h0' : min src.length len = 0 := h0
        rw [this, h0']; simp
      rw [e2] at hp
      have h0' : min src.length len = 0 := h0
      rw [h0'] at hp
      obtain ⟨σ2, hk, hr2⟩ := (h.same hl).put (v := goInt 0) hN (x := .one (.int .i64 0)) (VA.int _ _) hp
      refine wpIn_of_run hF (by simp [hop]) ?_ (hK _ _ _ _ hk hr2)
      simp only [execOp, hop, resolve, Sem.run_bind, Sem.run_pure, Result.andThen_ok, invoke, builtin, e1, run_copy0 (P := P) (w := w) T.und hj h0]
    · have hpos : 0 < min src.length len := Nat.pos_of_ne_zero h0
      have hne : src ≠ [] := by intro e; subst e; simp at hpos
      obtain ⟨q, hb, had⟩ := hbk (by omega)
      obtain ⟨bk2, of2, vs, hadd, hvl, hvc, hve⟩ := hsrc hne
      have h3 := hbr.2.2
      rcases h3 with ⟨h3, _⟩ | ⟨q', cs, ec, hb', hh, hcs, hl', ho, ha⟩
      · rw [hb] at h3; cases h3
      · have hqq : q = q' := by rw [hb] at hb'; exact Option.some.inj hb'
        subst hqq
        have hsize : j.size = τ.n := by rw [hjs, hn]
        have hmin : min src.length len ≤ src.length := Nat.min_le_left _ _
        have hmin2 : min src.length len ≤ len := Nat.min_le_right _ _
        have hlc : l.length * τ.n ≤ cs.toList.length := by simp [hcs]; exact Nat.mul_le_mul_right _ hl'
        have htl : (src.take len).length = min src.length len := by rw [List.length_take, Nat.min_comm]
        have hvs' : (vs.take (len * τ.n)).length = (src.take len).length * τ.n := by
          rw [htl, List.length_take, hvl]
          rcases Nat.le_total src.length len with hc | hc
          · rw [Nat.min_eq_left hc, Nat.min_eq_right (Nat.mul_le_mul_right _ hc)]
          · rw [Nat.min_eq_right hc, Nat.min_eq_left (Nat.mul_le_mul_right _ hc)]
        have hfit : off * τ.n + (vs.take (len * τ.n)).length ≤ cs.size := by
          have : (off + min src.length len) * τ.n ≤ l.length * τ.n := Nat.mul_le_mul_right _ (by omega)
          rw [hvs', htl]; rw [Nat.add_mul] at this; simp at hlc; omega
        have hel : Elems g w τ (src.take len) (vs.take (len * τ.n)) := hve.take len
        have hone : ∀ u ∈ vs.take (len * τ.n), u.oneCell' = true := hel.one hvs'
        have hrun := run_copy (P := P) (w := w) (cs_n := 0) (q := q) (off := off * τ.n) (dl := len) (dc := cp) (cs := cs) (ec := ec) (ad2 := ad2) (sl := src.length) (sc := c2) (vs := vs.take (len * τ.n)) T.und hj hh (by rw [hvs', htl, hsize]) (fun _ => ⟨_, hadd, fun p u hu => by
          rw [add_none]
          refine hvc p u ?_
          rw [List.getElem?_take] at hu
          split at hu
          · exact hu
          · cases hu⟩) hfit hone o.type
        have hcs' : ∀ u ∈ cs.toList, u.oneCell' = true := ho
        have he : Elems g w τ l cs.toList := fun i x p y hx hy => by
          obtain ⟨v, hv, hr⟩ := ha i x p y hx hy
          exact ⟨v, by simpa using hv, hr⟩
        have hspl := he.splice hel hvs' (off := off) (by rw [htl]; omega) hlc
        rw [htl] at hspl
        rw [List.drop_drop] at hp
        refine w_copyRow h hN hF hK (l' := l.take off ++ (src.take len ++ l.drop (off + min src.length len))) hl hm hb hh hbr ?_ (new := (setVals cs.toList (off * τ.n) (vs.take (len * τ.n))).toArray) ?_ ?_ (by simpa using hspl) (nn := min src.length len) ?_ (by simp [hop]) hp
        · simp; omega
        · simp [setVals_length]
        · simpa using setVals_one (by simpa using hfit) hcs' hone
        · simp only [execOp, hop, resolve, Sem.run_bind, Sem.run_pure, Result.andThen_ok, invoke, builtin, e1, had, hrun]
  cases px <;> simp only [copyW, reduceCtorEq] at hs1
  case own id =>
    split at hs1
    · rename_i τ l hl
      split at hs1
      · rename_i hn
        have hn := Nat.eq_of_beq_eq_true hn
        obtain ⟨src, hcast, hs⟩ := ocase_some hs1
        obtain ⟨e9, hys⟩ := castL_ok hcast
        subst e9
        simp only at hys
        subst hys
        cases hxv with
        | own _ b ad hm hk h0 =>
          have hbr : BR P g w b (.row τ' l) := by
            obtain ⟨b', hm', hbr⟩ := h.mem id _ hl
            rw [hm] at hm'; cases hm'; exact hbr
          have hlen := hbr.len
          refine key (off := 0) (len := l.length) (b := b) (ad := ad) (cp := b.cp) hl hn ⟨rfl, hsrc2⟩ hm (by omega) (by rw [hlen.1]) (fun hne => ?_) ?_
          · cases hbk : b.blk with
            | none => have := (h0 hbk).2; omega
            | some q => exact ⟨q, rfl, by rw [hk q hbk]; simp⟩
          · simp only [List.take_zero, List.nil_append, List.drop_zero]
            have e3 : l.drop (min src0.length l.length) = l.drop src0.length := by
              rcases Nat.le_total src0.length l.length with hc | hc
              · rw [Nat.min_eq_left hc]
              · rw [Nat.min_eq_right hc, List.drop_of_length_le hc, List.drop_length]
            rw [e3]
            exact hs
      · simp at hs1
    · simp at hs1
  case sub id off len =>
    split at hs1
    · rename_i τ l hl
      split at hs1
      · rename_i hn
        have hn := Nat.eq_of_beq_eq_true hn
        rcases bcase_some hs1 with ⟨hle, hs1⟩ | ⟨_, hs1⟩
        rotate_left
        · cases hs1
        have hle := Nat.le_of_ble_eq_true hle
        obtain ⟨src, hcast, hs⟩ := ocase_some hs1
        obtain ⟨e9, hys⟩ := castL_ok hcast
        subst e9
        simp only at hys
        subst hys
        cases hxv with
        | sub _ _ _ b ad cc hm hl' hc hk =>
          have hbr : BR P g w b (.row τ' l) := by
            obtain ⟨b', hm', hbr⟩ := h.mem id _ hl
            rw [hm] at hm'; cases hm'; exact hbr
          have hlen := hbr.len
          refine key (off := off) (len := len) (b := b) (ad := ad) (cp := cc) hl hn ⟨rfl, hsrc2⟩ hm hle rfl (fun hne => ?_) hs
          obtain ⟨q, h1, h2⟩ := hk (by omega)
          exact ⟨q, h1, by rw [h2, hlen.2.2]⟩
      · simp at hs1
    · simp at hs1
end
end Go.Eng
set_option linter.unusedSimpArgs false
set_option linter.unusedVariables false
set_option linter.unnecessarySimpa false
namespace Go.Eng
open Go Go.RowKit
section
variable {P : Program} [GlobL P] {F : Fence} {n : Nat} {c : Cfg} {g g' : Gh} {r : Regs} {m : Mem} {a : Act} {w w' : World} {o : Oper} {R : Type} {k : St → Option R} {res : R} {xs : List Operand}
variable {base : Nat} {w0 : World} {S0 : Nat → Prop} {N : Nat} {D : Wt} {sv : Nat → Value} {σ : St}
theorem length_repl {α : Type} (l : List α) : ∀ q, (repl l q).length = q * l.length
  | 0 => by simp [repl]
  | q + 1 => by simp [repl, length_repl l q, Nat.succ_mul]; omega
theorem repl_get {α : Type} {l : List α} (h0 : 0 < l.length) : ∀ {q j : Nat}, j < q * l.length → (repl l q)[j]? = l[j % l.length]?
  | 0, j, h => by simp at h
  | q + 1, j, h => by
    simp only [repl]
    by_cases hj : j < l.length
    · rw [List.getElem?_append_left hj, Nat.mod_eq_of_lt hj]
    · rw [List.getElem?_append_right (by omega), repl_get h0 (by rw [Nat.succ_mul] at h; omega), Nat.mod_eq_sub_mod (by omega : l.length ≤ j)]
theorem made_get {z : Array Value} {q j : Nat} (hj : j < q) (h0 : 0 < z.size) : (madeCells z q).toList[j]? = z.toList[j % z.size]? := by
  have hlt : j % z.size < z.size := Nat.mod_lt _ h0
  simp [madeCells, hj, hlt]
theorem repl_ok {l : List At} {z : Array Value} (h : All2 (VA g w) l z.toList) (q : Nat) : All2 (VA g w) (repl l q) (madeCells z (q * z.size)).toList := by
  have hl : l.length = z.size := by simpa using h.length
  refine All2.of_get (by rw [length_repl, hl]; simp [madeCells]) fun j x v hx hv => ?_
  have hj : j < q * l.length := by
    rw [← length_repl]
    exact (List.getElem?_eq_some_iff.1 hx).1
  have h0 : 0 < l.length := by
    rcases Nat.eq_zero_or_pos l.length with h' | h'
    · rw [h'] at hj; simp at hj
    · exact h'
  rw [repl_get h0 hj] at hx
  rw [made_get (by rw [← hl]; exact hj) (by omega), ← hl] at hv
  obtain ⟨v', hv', hr⟩ := h.get hx
  rw [hv] at hv'
  cases hv'
  exact hr
theorem decAll_ok {τ : Ty} : ∀ {q : Nat} {cells : List At} {l : List τ.T}, decAll τ q cells = some l → l.length = q ∧ cells.length = q * τ.n ∧ ∀ (i : Nat) (x : τ.T) (j : Nat) (y : At), l[i]? = some x → (τ.enc x)[j]? = some y → (cells.map unclip)[i * τ.n + j]? = some y
  | 0, [], l, h => by simp [decAll] at h; subst h; simp
  | 0, _ :: _, l, h => by simp [decAll] at h
  | q + 1, cells, l, h => by
    simp only [decAll] at h
    split at h
    · rename_i x0 r0 hx0 hr0
      cases h
      obtain ⟨h1, h2, h3⟩ := decAll_ok hr0
      have he := decC_enc τ hx0
      have hlen : (cells.take τ.n).length = τ.n := by rw [← enc_length τ x0, he]; simp
      have hle : τ.n ≤ cells.length := by simp at hlen; omega
      refine ⟨by simp [h1], ?_, fun i x j y hx hy => ?_⟩
      · simp at h2; rw [Nat.succ_mul]; omega
      · have hj : j < τ.n := by rw [← enc_length τ x]; exact (List.getElem?_eq_some_iff.1 hy).1
        cases i with
        | zero =>
          simp at hx; subst hx
          rw [he, List.map_take, List.getElem?_take_of_lt hj] at hy
          simpa using hy
        | succ i =>
          have := h3 i x j y (by simpa using hx) hy
          rw [List.map_drop, List.getElem?_drop] at this
          rw [← this]; congr 1
          rw [Nat.succ_mul]; omega
    · simp at h
theorem elems_decAll {τ : Ty} {q : Nat} {cells : List At} {l : List τ.T} {vs : List Value} (h : decAll τ q cells = some l) (ha : All2 (VA g w) cells vs) : Elems g w τ l vs := fun i x j y hx hy =>
  ha.unclip.get ((decAll_ok h).2.2 i x j y hx hy)
theorem fillS_ok (E : Env P c g r m xs a w) {e : TypeId} {size : Nat} :
    ∀ (parts : List (Nat × Operand)) (cells : List At) (vals : Array Value) (l : List At), (∀ q ∈ parts, q.2 ∈ xs) → All2 (VA g w) cells vals.toList → fillS c r e size cells parts = some l →
      ∃ out : Array Value, Instr.fill (fun i => some (i * size, size)) vals (parts.map fun (i, x) => (i, a.eval x)) = some out ∧ All2 (VA g w) l out.toList
  | [], cells, vals, l, _, ha, h => by
    simp only [fillS, Option.some.injEq] at h
    subst h
    exact ⟨vals, by simp [Instr.fill], ha⟩
  | (i, x) :: parts, cells, vals, l, hxs, ha, h => by
    simp only [fillS] at h
    split at h
    · rename_i v hv
      split at h
      · rename_i h1 h2
        have h1 := Nat.eq_of_beq_eq_true h1
        have h2 := Nat.le_of_ble_eq_true h2
        have hvr := E.evV (hxs (i, x) (by simp)) hv
        have hvc := hvr.cells
        have hlen := hvc.length
        have hcl := ha.length
        have ha' := setVals_ok (i * size) hvc ha
        obtain ⟨out, ho, hoa⟩ := fillS_ok E parts _ (setVals vals.toList (i * size) (a.eval x).cells.toList).toArray l (fun q hq => hxs q (by simp [hq])) (by simpa using ha') h
        refine ⟨out, ?_, hoa⟩
        have e1 : (a.eval x).cells.size = size := by simp at hlen; omega
        have e3 : ¬ (i * size + size > vals.size) := by simp at hcl; omega
        simp only [List.map_cons, Instr.fill, e1, ne_eq, not_true_eq_false, decide_false, decide_true, Bool.false_or, Bool.or_false, Bool.false_eq_true, if_false]
        rw [fold_cells]
        simp only [e3, decide_false, Bool.false_eq_true, if_false]
        exact ho
      · simp at h
    · simp at h
theorem w_buildSlice (h : Rel P base w0 S0 N D sv g σ a w) (C : CfgOK P c) (hN : c.N = N) (hF : WideF F) {K : Act → World → Prop} {Q : Exit → Act → World → Prop} (hK : ∀ g' σ' a' w', k σ' = some res → Rel P base w0 S0 N D sv g' σ' a' w' → K a' w') {t e : TypeId} {q : Nat} {parts : Array (Nat × Operand)}
    (hop : o.op = .buildSlice t q parts) {ti te : TI} {τ : Ty} (hti : c.ti t = some ti) (htk : ti.k = .slice τ e) (hte : c.ti e = some te) {cells : List At} (hsz : q * te.size ≤ 16777216) (hf : fillS c σ.regs e te.size (repl te.zero.cells q) parts.toList = some cells)
    {l : List τ.T} (hl : decAll τ q cells = some l) (hp : (σ.new (.row τ l)).put c o.dst (.one (builtAt τ q σ.nx)) k = some res) : o.wpIn F n P a w K Q := by
  obtain ⟨i, d, T⟩ := C.ts t ti hti
  obtain ⟨rfl, j, hj, hjs, hjb⟩ := T.slice htk
  obtain ⟨i2, d2, T2⟩ := C.ts e te hte
  obtain rfl : i2 = j := by have := T2.info; rw [hj] at this; exact (Option.some.inj this).symm
  obtain ⟨z, hz, hzs, hzr⟩ := T2.zero
  have hzc := (hzr g w).cells
  have hzsz : z.cells.size = te.size := hzs
  have hts : te.size = τ.n := by rw [← T2.size, hjs]
  have E := h.env C (parts.toList.map (·.2))
  have hrep := repl_ok hzc q
  rw [hzsz] at hrep
  obtain ⟨out, ho, hoa⟩ := fillS_ok E parts.toList _ _ cells (fun x hx => List.mem_map.2 ⟨x, hx, rfl⟩) hrep hf
  obtain ⟨d1, d2, d3⟩ := decAll_ok hl
  have hos : out.size = q * τ.n := by have := hoa.length; simp at this; omega
  obtain ⟨g1, h1, hv⟩ := h.newRow (w' := w.alloc (.cells out e)) (τ := τ) (l := l) (cs := out) (e := e) (cp := q) rfl rfl rfl rfl hos (by omega) hoa.one (elems_decAll hl hoa)
  rw [d1] at hv
  have hvb : VA g1 (w.alloc (.cells out e)) (builtAt τ q σ.nx) (.slice (some ⟨w.heap.size, 0, none⟩) q q) := by
    cases q with
    | zero => exact .clip τ [] _ 0 0 0 (fun _ _ => default) rfl (fun e => absurd rfl e) (fun i j hi _ => by simp at hi) (fun i x j y hx => by simp at hx)
    | succ q => exact hv
  obtain ⟨σ2, hk, h2⟩ := h1.put hN (x := .one (builtAt τ q σ.nx)) hvb hp
  refine wpIn_of_run hF (by simp [hop]) ?_ (hK _ _ _ _ hk h2)
  have hsmall : ¬ q * i2.size > 2 ^ 24 := by rw [T2.size]; omega
  by_cases h0 : q * i2.size = 0
  · have hq : q = 0 := by
      rcases Nat.mul_eq_zero.1 h0 with h0 | h0
      · exact h0
      · rw [hjs] at h0; have := n_pos τ; omega
    subst hq
    have e2 : (parts.map fun (i, x) => (i, a.eval x)).toList = parts.toList.map fun (i, x) => (i, a.eval x) := by simp
    have e3 : (#[] : Array Value) = madeCells z.cells (0 * te.size) := by simp [madeCells, Array.range_zero']
    have : (Instr.buildSlice t 0 (parts.map fun (i, x) => (i, a.eval x))).run P w = .ok (.slice (some ⟨w.heap.size, 0, none⟩) 0 0) (w.alloc (.cells out e)) := by
      rw [← e3] at ho
      rw [← e2, ← T2.size] at ho
      simp only [Nat.zero_mul] at ho
      simp [Instr.buildSlice, run_underlying T.und, sizeOf, typeInfo, hj, newRow, Array.range_zero']
      simp at ho
      simp [ho]
    simp only [execOp, hop, Sem.run_bind, this, Result.andThen_ok]
    rfl
  · have := run_buildSlice (P := P) w t e q (parts.map fun (i, x) => (i, a.eval x)) out i2 z T.und hj hz hsmall h0 (by
      have e2 : (parts.map fun (i, x) => (i, a.eval x)).toList = parts.toList.map fun (i, x) => (i, a.eval x) := by simp
      rw [e2, T2.size]; exact ho)
    simp only [execOp, hop, Sem.run_bind, this, Result.andThen_ok]
    rfl
theorem w_makeSlice (h : Rel P base w0 S0 N D sv g σ a w) (C : CfgOK P c) (hN : c.N = N) (hF : WideF F) {K : Act → World → Prop} {Q : Exit → Act → World → Prop} (hK : ∀ g' σ' a' w', k σ' = some res → Rel P base w0 S0 N D sv g' σ' a' w' → K a' w') {t e : TypeId} {x y : Operand}
    (hop : o.op = .makeSlice t x y) {ti te : TI} {τ : Ty} (hti : c.ti t = some ti) (htk : ti.k = .slice τ e) (hte : c.ti e = some te) {κ κ' : IntKind} {p q : Int} (hx : evA c σ.regs 0 x = some (.int κ p)) (hy : evA c σ.regs 0 y = some (.int κ' q)) (h0 : 0 ≤ p) (hpq : p = q) (hlim : p.toNat ≤ LIM)
    {z0 : τ.T} (hz0 : τ.decC te.zero.cells = some z0) (hp : (σ.new (.row τ (List.replicate p.toNat z0))).put c o.dst (.one (.own σ.nx)) k = some res) : o.wpIn F n P a w K Q := by
  subst hpq
  obtain ⟨i, d, T⟩ := C.ts t ti hti
  obtain ⟨rfl, j, hj, hjs, hjb⟩ := T.slice htk
  obtain ⟨i2, d2, T2⟩ := C.ts e te hte
  obtain rfl : i2 = j := by have := T2.info; rw [hj] at this; exact (Option.some.inj this).symm
  obtain ⟨z, hz, hzs, hzr⟩ := T2.zero
  have hzc := (hzr g w).cells
  have hzsz : z.cells.size = te.size := hzs
  have hts : te.size = τ.n := by rw [← T2.size, hjs]
  have E := h.env C [x, y]
  have hxv := E.evA (x := x) (by simp) hx
  have hyv := E.evA (x := y) (by simp) hy
  generalize hxe : a.eval x = vx at hxv
  generalize hye : a.eval y = vy at hyv
  cases hxv
  cases hyv
  have he := decC_enc τ hz0
  have hb : (i2.bytes : Int) * p ≤ 281474976710656 := by
    have h1 : i2.bytes * p.toNat ≤ 4096 * LIM := Nat.mul_le_mul hjb hlim
    unfold LIM at h1
    have h2 : p = (p.toNat : Int) := by omega
    rw [h2, ← Int.natCast_mul]; omega
  have hrun := run_make (P := P) w t e i2 z T.und hj hz κ κ' p p h0 (Int.le_refl _) hb (by unfold LIM at hlim; omega)
  rw [hjs] at hrun
  obtain ⟨g1, h1, hv⟩ := h.newRow (w' := w.alloc (.cells (madeCells z.cells (p.toNat * τ.n)) e)) (τ := τ) (l := List.replicate p.toNat z0) (cs := madeCells z.cells (p.toNat * τ.n)) (e := e) (cp := p.toNat) rfl rfl rfl rfl (by simp [madeCells]) (by simp) (by
    have := repl_ok hzc p.toNat
    rw [hzsz, hts] at this
    exact this.one) (by
    intro i x j y hx hy
    have hi : i < p.toNat := by simpa using (List.getElem?_eq_some_iff.1 hx).1
    have hj : j < τ.n := by rw [← enc_length τ x]; exact (List.getElem?_eq_some_iff.1 hy).1
    simp [List.getElem?_replicate, hi] at hx
    subst hx
    rw [he] at hy
    obtain ⟨v, hv, hr⟩ := hzc.unclip.get hy
    refine ⟨v, ?_, hr⟩
    have : (i + 1) * τ.n ≤ p.toNat * τ.n := Nat.mul_le_mul_right _ hi
    rw [Nat.succ_mul] at this
    rw [made_get (by omega) (by rw [hzsz, hts]; exact n_pos τ), hzsz, hts, Nat.mul_comm, Nat.mul_add_mod, Nat.mod_eq_of_lt hj]
    exact hv)
  simp only [List.length_replicate] at hv
  obtain ⟨σ2, hk, h2⟩ := h1.put hN (x := .one (.own σ.nx)) hv hp
  refine wpIn_of_run hF (by simp [hop]) ?_ (hK _ _ _ _ hk h2)
  simp only [execOp, hop, hxe, hye, Sem.run_bind, hrun, Result.andThen_ok]
  rfl
theorem ones_ok : ∀ {l : List AV} {vs : List Value} {xs : List At}, All2 (AVR g w) l vs → onesOf l = some xs → All2 (VA g w) xs vs
  | [], _, _, ha, h => by simp [onesOf] at h; subst h; cases ha; exact .nil
  | x :: l, vs, xs, ha, h => by
    cases ha with
    | cons h1 h2 =>
      unfold onesOf at h
      split at h
      · simp_all
      · rename_i x' l' e
        cases e
        split at h
        · rename_i r hr
          cases h
          exact .cons h1 (ones_ok h2 hr)
        · simp at h
      · simp at h
theorem w_makeFunc (h : Rel P base w0 S0 N D sv g σ a w) (C : CfgOK P c) (hN : c.N = N) (hF : WideF F) {K : Act → World → Prop} {Q : Exit → Act → World → Prop} (hK : ∀ g' σ' a' w', k σ' = some res → Rel P base w0 S0 N D sv g' σ' a' w' → K a' w') {f : Nat} {p q : Array Operand}
    (hop : o.op = .makeFunc (.func f) p q) {as bs : List AV} (has : evArgs c σ.regs p.toList [] = some as) (hbs : evArgs c σ.regs q.toList [] = some bs) {as1 bs1 : List At} (ha1 : onesOf as = some as1) (hb1 : onesOf bs = some bs1)
    (hp : (σ.new (.clo f as1 bs1)).put c o.dst (.one (.clo σ.nx)) k = some res) : o.wpIn F n P a w K Q := by
  have E := h.env C (p.toList ++ q.toList)
  have h1 := ones_ok (evArgs_ok E (fun x hx => by simp only [List.mem_append]; exact .inl hx) has) ha1
  have h2 := ones_ok (evArgs_ok E (fun x hx => by simp only [List.mem_append]; exact .inr hx) hbs) hb1
  obtain ⟨b, hbd⟩ : ∃ b : Gb, b = ⟨none, 0, 0, 0, .func (.func f) (p.map a.eval) (q.map a.eval)⟩ := ⟨_, rfl⟩
  have hle : g.le (g.set σ.nx b) := Gh.le_set (h.fresh (Nat.le_refl _))
  have hn := h.new (id := σ.nx) (Nat.le_refl _) (b := b) (x := .clo f as1 bs1) (Below.refl _ _) ⟨by rw [hbd], p.map a.eval, q.map a.eval, by rw [hbd], by simpa using h1.mono fun _ _ k => k.mono (Holds.refl _ _) hle, by simpa using h2.mono fun _ _ k => k.mono (Holds.refl _ _) hle⟩ (fun q hq => by rw [hbd] at hq; cases hq)
  have hv : VA (g.set σ.nx b) w (.clo σ.nx) (.func (.func f) (p.map a.eval) (q.map a.eval)) := VA.clo σ.nx b f _ _ (by simp [Gh.set]) (by rw [hbd])
  obtain ⟨σ2, hk, h2⟩ := hn.put hN (x := .one (.clo σ.nx)) hv hp
  refine wpIn_of_run hF (by simp [hop]) ?_ (hK _ _ _ _ hk h2)
  simp [execOp, hop, Instr.makeFunc]
end
end Go.Eng
set_option linter.unusedSimpArgs false
set_option linter.unusedVariables false
set_option linter.unnecessarySimpa false
namespace Go.Eng
open Go Go.RowKit
section
variable {P : Program} [GlobL P] {F : Fence} {n : Nat} {c : Cfg} {g g' : Gh} {r : Regs} {m : Mem} {a : Act} {w w' : World} {o : Oper} {R : Type} {k : St → Option R} {res : R} {xs : List Operand}
variable {base : Nat} {w0 : World} {S0 : Nat → Prop} {N : Nat} {D : Wt} {sv : Nat → Value} {σ : St}
theorem capQ_some {α : Type} {n : Nat} {f : Nat → Option α} {y : α} (h : capQ n f = some y) : ∀ q, n ≤ q → f q = some y := by
  unfold capQ at h
  split at h
  · rename_i hx
    cases h
    exact Classical.choose_spec hx
  · cases h
theorem capQ_eq {α : Type} {n : Nat} {f : Nat → Option α} {y : α} (h : ∀ q, n ≤ q → f q = some y) : capQ n f = some y := by
  have hx : ∃ y, ∀ q, n ≤ q → f q = some y := ⟨y, h⟩
  unfold capQ
  rw [dif_pos hx]
  have h1 := Classical.choose_spec hx n (Nat.le_refl _)
  rw [h n (Nat.le_refl _)] at h1
  exact h1.symm
theorem w_cap (h : Rel P base w0 S0 N D sv g σ a w) (C : CfgOK P c) (hN : c.N = N) (hF : WideF F) {K : Act → World → Prop} {Q : Exit → Act → World → Prop} (hK : ∀ g' σ' a' w', k σ' = some res → Rel P base w0 S0 N D sv g' σ' a' w' → K a' w') {t : TypeId} {x : Operand}
    (hop : o.op = .call { callee := .builtin .cap, args := #[x], argTypes := #[t] }) {ti : TI} {τ0 : Ty} {e : TypeId} (hti : c.ti t = some ti) (htk : ti.k = .slice τ0 e) {px : At} (hx : evA c σ.regs t x = some px) (hs : capW c o σ px k = some res) : o.wpIn F n P a w K Q := by
  obtain ⟨i, d, T⟩ := C.ts t ti hti
  obtain ⟨rfl, j, hj, hjs, hjb⟩ := T.slice htk
  have E := h.env C [x]
  have hxv := E.evA (x := x) (by simp) hx
  generalize hxe : a.eval x = vx at hxv
  unfold capW at hs
  split at hs
  · rename_i id
    split at hs
    · rename_i τ l hl
      obtain ⟨b, hm, hbr⟩ := h.mem id _ hl
      have hlen := hbr.len
      cases hxv with
      | own _ b' ad hm' hk' h0 =>
        rw [hm] at hm'; cases hm'
        have hs1 := capQ_some hs b.cp (by have := hlen.2.1; have := hlen.1; omega)
        have hle : g.le (g.set σ.nx ⟨none, 0, 0, 0, default⟩) := Gh.le_set (h.fresh (Nat.le_refl _))
        have hn := h.new (id := σ.nx) (Nat.le_refl _) (w' := w) (b := ⟨none, 0, 0, 0, default⟩) (x := .capk (.own id) b.cp) (Below.refl _ _) ⟨rfl, ad, b.ln, (VA.own id b ad hm hk' h0).mono (Holds.refl _ _) hle⟩ (fun q hq => by cases hq)
        obtain ⟨σ2, hk, h2⟩ := hn.put (v := goInt b.cp) hN (x := .one (.int .i64 b.cp)) (VA.int _ _) hs1
        refine wpIn_of_run hF (by simp [hop]) ?_ (hK _ _ _ _ hk h2)
        have e1 : (#[x].map a.eval) = #[.slice ad b.ln b.cp] := by simp [hxe]
        simp [execOp, hop, resolve, invoke, builtin, e1, hxe, Builtin.cap_, run_underlying T.und]
    · simp at hs
  · rename_i τ l
    split at hs
    rotate_left
    · simp at hs
    cases hxv with
    | clip _ _ ad len bk of f hl ha hcell hf =>
      subst hl
      obtain ⟨σ2, hk, h2⟩ := h.put (v := goInt l.length) hN (x := .one (.int .i64 l.length)) (VA.int _ _) hs
      refine wpIn_of_run hF (by simp [hop]) ?_ (hK _ _ _ _ hk h2)
      have e1 : (#[x].map a.eval) = #[.slice ad l.length l.length] := by simp [hxe]
      simp [execOp, hop, resolve, invoke, builtin, e1, hxe, Builtin.cap_, run_underlying T.und]
  · simp at hs
theorem zero_get {z : Value} {q j : Nat} (hj : j < q * z.cells.size) : (Builtin.zeroCells z.cells q).toList[j]? = z.cells.toList[j % z.cells.size]? := by
  have h0 : 0 < z.cells.size := by
    rcases Nat.eq_zero_or_pos z.cells.size with h | h
    · rw [h] at hj; omega
    · exact h
  have hlt : j % z.cells.size < z.cells.size := Nat.mod_lt _ h0
  simp [Builtin.zeroCells, hj, hlt]
theorem elems_zero {τ : Ty} {z : Value} {zs : List At} {z0 : τ.T} (hz0 : τ.decC zs = some z0) (hzc : All2 (VA g w) zs z.cells.toList) (q : Nat) : Elems g w τ (List.replicate q z0) (Builtin.zeroCells z.cells q).toList := by
  intro i x j y hx hy
  have he := decC_enc τ hz0
  have hi : i < q := by simpa using (List.getElem?_eq_some_iff.1 hx).1
  have hj : j < τ.n := by rw [← enc_length τ x]; exact (List.getElem?_eq_some_iff.1 hy).1
  simp [List.getElem?_replicate, hi] at hx
  subst hx
  have hzn : z.cells.size = τ.n := by
    have := hzc.length
    have h1 := congrArg List.length he
    rw [enc_length] at h1
    simp at h1 this
    omega
  rw [he] at hy
  obtain ⟨v, hv, hr⟩ := hzc.unclip.get hy
  refine ⟨v, ?_, hr⟩
  have : (i + 1) * τ.n ≤ q * τ.n := Nat.mul_le_mul_right _ hi
  rw [Nat.succ_mul] at this
  rw [zero_get (by rw [hzn]; omega), hzn, Nat.mul_comm, Nat.mul_add_mod, Nat.mod_eq_of_lt hj]
  exact hv
theorem src_first {τ : Ty} {l : List τ.T} {ad : Option Addr} (h : Src g w τ l ad) (cc : Nat) : ∃ vs : List Value, vs.length = l.length * τ.n ∧ Elems g w τ l vs ∧ (Builtin.firstCells τ.n l.length (.slice ad l.length cc)).run P w.drew = .ok vs.toArray w.drew := by
  by_cases hne : l = []
  · subst hne
    refine ⟨[], by simp, Elems.nil, ?_⟩
    cases ad <;> simp [Builtin.firstCells, loadCells, loadCellsFrom]
  · obtain ⟨bk, of, vs, rfl, h1, h2, h3⟩ := h hne
    exact ⟨vs, h1, h3, run_firstCells_some (P := P) w.drew τ.n l.length ⟨bk, of, none⟩ l.length cc vs h1 (fun j u hu => by rw [add_none]; simpa using h2 j u hu)⟩
theorem w_appendMk (h : Rel P base w0 S0 N D sv g σ a w) (C : CfgOK P c) (hN : c.N = N) (hF : WideF F) {K : Act → World → Prop} {Q : Exit → Act → World → Prop} (hK : ∀ g' σ' a' w', k σ' = some res → Rel P base w0 S0 N D sv g' σ' a' w' → K a' w') {t t' e : TypeId} {x y : Operand}
    (hop : o.op = .call { callee := .builtin .append, args := #[x, y], argTypes := #[t, t'] }) {ti ti' te : TI} {τ : Ty} (hti : c.ti t = some ti) (htk : ti.k = .slice τ e) (hte : c.ti e = some te) {κ0 : IntKind} (hti' : c.ti t' = some ti') (htk' : ti'.k = .int κ0) {px : At} {κ : IntKind} {nn : Int} (hx : evA c σ.regs t x = some px) (hy : evA c σ.regs t' y = some (.int κ nn))
    {z0 : τ.T} (hz0 : τ.decC te.zero.cells = some z0) (hs : appendMk c o σ τ px z0 nn k = some res) : o.wpIn F n P a w K Q := by
  obtain ⟨i, d, T⟩ := C.ts t ti hti
  obtain ⟨rfl, j, hj, hjs, hjb⟩ := T.slice htk
  obtain ⟨i3, d3, T3⟩ := C.ts t' ti' hti'
  have e3 := T3.int htk'
  subst e3
  obtain ⟨i2, d2, T2⟩ := C.ts e te hte
  obtain rfl : i2 = j := by have := T2.info; rw [hj] at this; exact (Option.some.inj this).symm
  obtain ⟨z, hz, hzs, hzr⟩ := T2.zero
  have hzc := (hzr g w).cells
  have hzsz : z.cells.size = te.size := hzs
  have hts : te.size = τ.n := by rw [← T2.size, hjs]
  have E := h.env C [x, y]
  have hxv := E.evA (x := x) (by simp) hx
  have hyv := E.evA (x := y) (by simp) hy
  generalize hxe : a.eval x = vx at hxv
  generalize hye : a.eval y = vy at hyv
  cases hyv
  have grow : ∀ {L : List τ.T} {ad : Option Addr} {cc : Nat}, Src g w τ L ad → vx = .slice ad L.length cc → 0 ≤ nn → L.length + nn.toNat ≤ LIM → cc < L.length + nn.toNat → (σ.new (.row τ (L ++ List.replicate nn.toNat z0))).put c o.dst (.one (.own σ.nx)) k = some res → o.wpIn F n P a w K Q := by
    intro L ad cc hsrc hvx h0 hlim h2 hs
    subst hvx
    obtain ⟨vs, hvl, hve, hfc⟩ := src_first (P := P) hsrc cc
    obtain ⟨need, hneed⟩ : ∃ need, need = L.length + nn.toNat := ⟨_, rfl⟩
    have hgr : cc < need := by omega
    have hfit : need * i2.bytes ≤ 140737488355328 := by
      have : need * i2.bytes ≤ LIM * 4096 := Nat.mul_le_mul (by omega) hjb
      unfold LIM at this; omega
    have hgs := growslice_fits (bytes := i2.bytes) hgr hfit
    have hzo := cells_zeros hzc.one
    have hzn : z.cells.size = τ.n := by rw [hzsz, hts]
    obtain ⟨cs, hcs⟩ : ∃ cs : Array Value, cs = vs.toArray ++ Builtin.zeroCells z.cells nn.toNat ++ Builtin.zeroCells z.cells (grownCap w need cc e - need) := ⟨_, rfl⟩
    have hrun : (Builtin.append_ #[t, t'] o.type #[.slice ad L.length cc, .int κ nn]).run P w = .ok (.slice (some ⟨w.heap.size, 0, none⟩) need (grownCap w need cc e)) (w.drew.alloc (.cells cs e)) := by
      have w64 : IntKind.i64.wrap nn = nn := by unfold LIM at hlim; simp [IntKind.wrap, IntKind.bits, IntKind.signed]; omega
      have l0 : ¬ nn < 0 := by omega
      have l1 : ¬ 281474976710656 < nn * (i2.bytes : Int) := by
        have h3 : nn.toNat * i2.bytes ≤ LIM * 4096 := Nat.mul_le_mul (by omega) hjb
        unfold LIM at h3
        have h4 : nn = (nn.toNat : Int) := by omega
        rw [h4, ← Int.natCast_mul]; omega
      have l2 : ¬ need ≤ cc := by omega
      have l3 : ¬ (9223372036854775807 < (need : Int)) := by unfold LIM at hlim; omega
      have l4 : ¬ 281474976710656 < Builtin.nextslicecap need cc * i2.bytes := by omega
      have l5 : ¬ (9223372036854775807 < (L.length : Int) + max nn 0) := by rw [Int.max_eq_left h0]; unfold LIM at hlim; omega
      have hz9 : nn.toNat * τ.n = 0 → Builtin.zeroCells z.cells nn.toNat = #[] := fun h5 => by
        apply Array.eq_empty_of_size_eq_zero
        rw [size_zeroCells, hzn]; exact h5
      rw [hcs]
      have hfc' : (Builtin.firstCells i2.size L.length (.slice ad L.length cc)).run P w.drew = .ok vs.toArray w.drew := by rw [hjs]; exact hfc
      by_cases h5 : nn.toNat * i2.size = 0
      · have h6 := hz9 (by rw [← hjs]; exact h5)
        simp [Builtin.append_, run_underlying T.und, run_underlying T3.und, sizeOf, typeInfo, zeroValue, hj, hz, asInt, asIntOf, w64, l0, l1, l2, l3, l4, l5, ← hneed, Question.forced, hfc', newRow, grownCap, h5, h6]
      · simp [Builtin.append_, run_underlying T.und, run_underlying T3.und, sizeOf, typeInfo, zeroValue, hj, hz, asInt, asIntOf, w64, l0, l1, l2, l3, l4, l5, ← hneed, Question.forced, hfc', newRow, grownCap, h5]
    have hcap : need ≤ grownCap w need cc e := grownCap_ge w need cc e
    have hcsz : cs.size = grownCap w need cc e * τ.n := by
      rw [hcs]
      simp only [Array.size_append, List.size_toArray, size_zeroCells, hvl, hzn]
      rw [← Nat.add_mul, ← Nat.add_mul]; congr 1; omega
    have hzel := elems_zero hz0 hzc nn.toNat
    have hcse : Elems g w τ (L ++ List.replicate nn.toNat z0) cs.toList := by
      rw [hcs]
      simp only [Array.toList_append]
      exact (hve.append hvl hzel).more _
    have hone : ∀ u ∈ cs.toList, u.oneCell' = true := by
      intro u hu
      rw [hcs] at hu
      simp only [Array.toList_append, List.mem_append] at hu
      rcases hu with (hu | hu) | hu
      · exact hve.one hvl u hu
      · exact hzo _ u hu
      · exact hzo _ u hu
    have hlen9 : (L ++ List.replicate nn.toNat z0).length = need := by simp; omega
    obtain ⟨g1, h1, hv⟩ := h.newRow (w' := w.drew.alloc (.cells cs e)) (τ := τ) (l := L ++ List.replicate nn.toNat z0) (cs := cs) (e := e) (cp := grownCap w need cc e) rfl rfl rfl rfl hcsz (by rw [hlen9]; exact hcap) hone hcse
    rw [hlen9] at hv
    obtain ⟨σ2, hk2, h2⟩ := h1.put hN (x := .one (.own σ.nx)) hv hs
    refine wpIn_of_run hF (by simp [hop]) ?_ (hK _ _ _ _ hk2 h2)
    have e1 : (#[x, y].map a.eval) = #[.slice ad L.length cc, .int κ nn] := by simp [hxe, hye]
    simp only [execOp, hop, resolve, Sem.run_bind, Sem.run_pure, Result.andThen_ok, invoke, builtin, e1, hrun]
  unfold appendMk at hs
  split at hs
  · rename_i id off m
    split at hs
    · rename_i τ1 l cp hl hcp
      rcases bcase_some hs with ⟨h0, hs⟩ | ⟨_, hs⟩
      rotate_left
      · simp at hs
      obtain ⟨hlim, hs⟩ := lcase_some hs
      rcases bcase_some hs with ⟨h1, hs⟩ | ⟨_, hs⟩
      rotate_left
      · simp at hs
      rcases bcase_some hs with ⟨h2, hs⟩ | ⟨_, hs⟩
      rotate_left
      · simp at hs
      obtain ⟨l', hcast, hs⟩ := ocase_some hs
      obtain ⟨e9, hll⟩ := castL_ok hcast
      subst e9
      simp only at hll
      subst hll
      simp only [decide_eq_true_eq] at h0
      have h1 := Nat.le_of_ble_eq_true h1
      have h2 : cp - off < m + nn.toNat := Nat.le_of_ble_eq_true h2
      obtain ⟨b, hm, hbr⟩ := h.mem id _ hl
      have hcpb := capIn_cp h.mem hcp hm
      cases hxv with
      | sub _ _ _ b' ad cc hm' hl' hc hk =>
        have hbb : b = b' := by rw [hm] at hm'; exact Option.some.inj hm'
        subst hbb
        obtain ⟨τ9, l9, ad9, n9, c9, hk9, e9, hl9, _, hs9⟩ := listOf_ok (kk := fun τ l => some (Sigma.mk τ l)) (res := (Sigma.mk τ1 ((l.drop off).take m) : (τ : Ty) × List τ.T)) h.mem (VA.sub id off m b ad cc hm hl' hc hk) (by simp [listOf, hl, Nat.ble_eq_true_of_le h1])
        cases hk9
        cases e9
        have hsrc := src_of hs9
        have hlm : ((l.drop off).take m).length = m := by simp; omega
        exact grow hsrc (by rw [hlm]) h0 (by rw [hlm]; exact hlim) (by rw [hlm]; omega) hs
    · simp at hs
  · rename_i τ1 l
    rcases bcase_some hs with ⟨h0, hs⟩ | ⟨_, hs⟩
    rotate_left
    · simp at hs
    obtain ⟨hlim, hs⟩ := lcase_some hs
    obtain ⟨l', hcast, hs⟩ := ocase_some hs
    obtain ⟨e9, hll⟩ := castL_ok hcast
    subst e9
    simp only at hll
    subst hll
    simp only [decide_eq_true_eq] at h0
    cases hxv with
    | clip _ _ ad len bk of f hlen ha hcell hf =>
      exact grow (src_of fun hne => ⟨bk, of, f, (ha hne).1, hcell, hf⟩) (by rw [hlen]) (by omega) hlim (by omega) hs
  · simp at hs
theorem w_copySS (h : Rel P base w0 S0 N D sv g σ a w) (C : CfgOK P c) (hN : c.N = N) (hF : WideF F) {K : Act → World → Prop} {Q : Exit → Act → World → Prop} (hK : ∀ g' σ' a' w', k σ' = some res → Rel P base w0 S0 N D sv g' σ' a' w' → K a' w') {t e : TypeId} {x y : Operand}
    (hop : o.op = .call { callee := .builtin .copy, args := #[x, y], argTypes := #[t, t] }) {ti : TI} {τ0 : Ty} (hti : c.ti t = some ti) (htk : ti.k = .slice τ0 e) {id off len id2 off2 len2 : Nat} (hx : evA c σ.regs t x = some (.sub id off len)) (hy : evA c σ.regs t y = some (.sub id2 off2 len2))
    (hs : copySS c o σ τ0 id off len id2 off2 len2 k = some res) : o.wpIn F n P a w K Q := by
  obtain ⟨i, d, T⟩ := C.ts t ti hti
  obtain ⟨rfl, j, hj, hjs, hjb⟩ := T.slice htk
  have E := h.env C [x, y]
  have hxv := E.evA (x := x) (by simp) hx
  have hyv := E.evA (x := y) (by simp) hy
  generalize hxe : a.eval x = vx at hxv
  generalize hye : a.eval y = vy at hyv
  unfold copySS at hs
  split at hs
  · rename_i τ l τ2 l2 hl hl2
    split at hs
    · rename_i hn
      have hn := Nat.eq_of_beq_eq_true hn
      rcases bcase_some hs with ⟨h1, hs⟩ | ⟨_, hs⟩
      rotate_left
      · simp at hs
      rcases bcase_some hs with ⟨h2, hs⟩ | ⟨_, hs⟩
      rotate_left
      · simp at hs
      have h1 := Nat.le_of_ble_eq_true h1
      have h2 := Nat.le_of_ble_eq_true h2
      obtain ⟨l2', hcast, hs⟩ := ocase_some hs
      obtain ⟨e9, hll⟩ := castL_ok hcast
      subst e9
      simp only at hll
      subst hll
      obtain ⟨b, hm, hbr⟩ := h.mem id _ hl
      have hlen := hbr.len
      cases hxv with
      | sub _ _ _ b' ad cc hm' hl' hc hk =>
        rw [hm] at hm'; cases hm'
        cases hyv with
        | sub _ _ _ b2 ad2 cc2 hm2 hl2' hc2 hk2 =>
          have e1 : (#[x, y].map a.eval) = #[.slice ad len cc, .slice ad2 len2 cc2] := by simp [hxe, hye]
          obtain ⟨q, hq⟩ : ∃ q, q = min len2 len := ⟨_, rfl⟩
          rw [← hq] at h1 hs
          obtain ⟨src, hsrcd⟩ : ∃ src, src = (l2.drop off2).take q := ⟨_, rfl⟩
          rw [← hsrcd] at hs
          have hsl : src.length = q := by rw [hsrcd]; simp; omega
          have hsrc : Src g w τ2 src ad2 := by
            obtain ⟨τ9, l9, ad9, n9, c9, hk9, e9, hl9, _, hs9⟩ := listOf_ok (kk := fun τ l => some (Sigma.mk τ l)) (res := (Sigma.mk τ2 ((l2.drop off2).take q) : (τ : Ty) × List τ.T)) h.mem (VA.sub id2 off2 q b2 ad2 cc2 hm2 (by omega) hc2 hk2) (by simp [listOf, hl2, Nat.ble_eq_true_of_le h1])
            cases hk9
            cases e9
            rw [hsrcd]
            exact src_of hs9
          by_cases h0 : q = 0
          · have hs0 : src = [] := List.length_eq_zero_iff.1 (by omega)
            have e2 : l.take off ++ (src ++ l.drop (off + q)) = l := by rw [hs0, h0]; simp
            rcases bcase_some hs with ⟨_, hs⟩ | ⟨h3, hs⟩
            · rw [e2] at hs
              rw [h0] at hs
              obtain ⟨σ2, hk3, hr2⟩ := (h.same hl).put (v := goInt 0) hN (x := .one (.int .i64 0)) (VA.int _ _) hs
              refine wpIn_of_run hF (by simp [hop]) ?_ (hK _ _ _ _ hk3 hr2)
              simp only [execOp, hop, resolve, Sem.run_bind, Sem.run_pure, Result.andThen_ok, invoke, builtin, e1, run_copy0 (P := P) (w := w) (dl := len) (sl := len2) T.und hj (by rw [← h0, hq])]
            · rw [h0] at h3
              have : Nat.ble (off + 0) l.length = true := Nat.ble_eq_true_of_le (by omega)
              rw [this] at h3; cases h3
          · have hne : src ≠ [] := by intro e; subst e; simp at hsl; omega
            obtain ⟨bq, hb, had⟩ := hk (by omega)
            obtain ⟨bk2, of2, vs, hadd, hvl, hvc, hve⟩ := hsrc hne
            obtain ⟨g1, g2, g3⟩ := hbr
            rcases g3 with ⟨g3, _⟩ | ⟨q', cs, ec, hb', hh, hcs, hl'', ho, ha⟩
            · rw [hb] at g3; cases g3
            · have hqq : bq = q' := by rw [hb] at hb'; exact Option.some.inj hb'
              subst hqq
              have hsize : j.size = τ2.n := by rw [hjs, hn]
              have hlc : l.length * τ2.n ≤ cs.toList.length := by simp [hcs]; exact Nat.mul_le_mul_right _ hl''
              have hfit : off * τ2.n + vs.length ≤ cs.size := by
                have : (off + q) * τ2.n ≤ b.cp * τ2.n := Nat.mul_le_mul_right _ (by omega)
                rw [hvl, hsl, hcs]; rw [Nat.add_mul] at this; exact this
              have hone := hve.one hvl
              have hrun := run_copy (P := P) (w := w) (cs_n := 0) (q := bq) (off := off * τ2.n) (dl := len) (dc := cc) (cs := cs) (ec := ec) (ad2 := ad2) (sl := len2) (sc := cc2) (vs := vs) T.und hj hh (by rw [hvl, hsl, hsize, hq]) (fun _ => ⟨_, hadd, fun p u hu => by rw [add_none]; exact hvc p u hu⟩) hfit hone o.type
              have he : Elems g w τ2 l cs.toList := fun i x p y hx hy => by
                obtain ⟨v, hv, hr⟩ := ha i x p y hx hy
                exact ⟨v, by simpa using hv, hr⟩
              have hexec : (execOp a.eval o).run P w = .ok (.value (goInt (q : Nat))) (w.setRow bq (setVals cs.toList (off * τ2.n) vs).toArray) := by
                have hmin : Nat.min len2 len = q := hq.symm
                rw [hmin] at hrun
                simp only [execOp, hop, resolve, Sem.run_bind, Sem.run_pure, Result.andThen_ok, invoke, builtin, e1, had, g1, hrun]
              rcases bcase_some hs with ⟨h3, hs⟩ | ⟨h3, hs⟩
              · have h3 := Nat.le_of_ble_eq_true h3
                have hspl := he.splice hve hvl (off := off) (by rw [hsl]; exact h3) hlc
                rw [hsl] at hspl
                have hset := h.writeRow (l' := l.take off ++ (src ++ l.drop (off + q))) (new := (setVals cs.toList (off * τ2.n) vs).toArray) hl hm hb hh ⟨g1, g2, .inr ⟨bq, cs, ec, hb, hh, hcs, hl'', ho, ha⟩⟩ (by simp; omega) (by simp [setVals_length]) (by simpa using setVals_one (by simpa using hfit) ho hone) (by simpa using hspl)
                obtain ⟨σ2, hk3, hr2⟩ := hset.put (v := goInt (q : Nat)) hN (x := .one (.int .i64 (q : Nat))) (VA.int _ _) hs
                exact wpIn_of_run hF (by simp [hop]) hexec (hK _ _ _ _ hk3 hr2)
              · have h3 : ¬ off + q ≤ l.length := fun e => by rw [Nat.ble_eq_true_of_le e] at h3; cases h3
                obtain ⟨bn, hbn⟩ : ∃ bn : Gb, bn = ⟨b.blk, off + q, b.cp, b.sz, b.val⟩ := ⟨_, rfl⟩
                obtain ⟨f1, f2, f3, f4, f5⟩ := setRow_facts w bq (setVals cs.toList (off * τ2.n) vs).toArray
                obtain ⟨new, hnew⟩ : ∃ new, new = (setVals cs.toList (off * τ2.n) vs).toArray := ⟨_, rfl⟩
                rw [← hnew] at f1 f2 f3 f4 f5 hexec
                have hnl : new.size = cs.size := by rw [hnew]; simp [setVals_length]
                have hno : ∀ u ∈ new.toList, u.oneCell' = true := by rw [hnew]; simpa using setVals_one (by simpa using hfit) ho hone
                have hel : Elems g w τ2 (l.take off ++ src) new.toList := by
                  rw [hnew]
                  simp only [List.toList_toArray]
                  rw [setVals_eq _ _ _ (by simpa using hfit)]
                  refine ((he.take off).append ?_ hve).more _
                  simp
                  rw [Nat.min_eq_left (by omega), Nat.min_eq_left (by
                    have : off * τ2.n ≤ l.length * τ2.n := Nat.mul_le_mul_right _ h2
                    simp at hlc; omega)]
                have hll : (l.take off ++ src).length = off + q := by simp; omega
                have hrw := h.rewriteF (w' := w.setRow bq new) (b' := bn) (y := .row τ2 (l.take off ++ src)) (scrubOwn id) hl rfl hm (by rw [f4]; exact Nat.le_refl _) ⟨f1, f2, f3⟩ (fun p hp hne' => f5 p (fun e' => hne' (by rw [e']; exact hb))) (fun p hp => by
                  rw [hbn] at hp; exact ⟨.inl hp, by rw [f4]; exact h.blk id b p hm hp⟩) (fun hH => by
                  have hle : ∀ {x v}, pureA x = true → VA g w x v → VA (g.set id bn) (w.setRow bq new) x v := fun hp hv => (hv.pure (g' := ⟨g.S, fun _ => none⟩) hp (fun _ h => h)).mono hH ⟨fun _ h => h, fun _ _ h => by cases h⟩
                  refine ⟨by rw [hbn]; exact g1, by rw [hbn, hll], .inr ⟨bq, new, ec, by rw [hbn]; exact hb, setRow_heap w bq cs _ ec _ hh, by rw [hnl, hcs, hbn], by rw [hll, hbn]; show off + q ≤ b.cp; omega, hno, ?_⟩⟩
                  intro i x p y hx hy
                  obtain ⟨v, hv, hr⟩ := hel i x p y hx hy
                  exact ⟨v, by simpa using hv, hle (enc_pure _ _ _ _ hy) hr⟩) (fun hH x v hv => hv.regrow hH hm (by rw [hbn]) (by rw [hbn]) (by rw [hbn]) (by rw [hbn]))
                obtain ⟨σ2, hk3, hr2⟩ := hrw.put (v := goInt (q : Nat)) hN (x := .one (.int .i64 (q : Nat))) (VA.int _ _) hs
                exact wpIn_of_run hF (by simp [hop]) hexec (hK _ _ _ _ hk3 hr2)
    · simp at hs
  · simp at hs
theorem w_clear (h : Rel P base w0 S0 N D sv g σ a w) (C : CfgOK P c) (hN : c.N = N) (hF : WideF F) {K : Act → World → Prop} {Q : Exit → Act → World → Prop} (hK : ∀ g' σ' a' w', k σ' = some res → Rel P base w0 S0 N D sv g' σ' a' w' → K a' w') {t e : TypeId} {x : Operand}
    (hop : o.op = .call { callee := .builtin .clear, args := #[x], argTypes := #[t] }) {ti te : TI} {τ0 : Ty} (hti : c.ti t = some ti) (htk : ti.k = .slice τ0 e) (hte : c.ti e = some te) {px : At} (hx : evA c σ.regs t x = some px)
    (hs : clearW c o σ τ0 te.zero.cells px k = some res) : o.wpIn F n P a w K Q := by
  obtain ⟨i, d, T⟩ := C.ts t ti hti
  obtain ⟨rfl, j, hj, hjs, hjb⟩ := T.slice htk
  obtain ⟨i2, d2, T2⟩ := C.ts e te hte
  obtain rfl : i2 = j := by have := T2.info; rw [hj] at this; exact (Option.some.inj this).symm
  obtain ⟨z, hz, hzs, hzr⟩ := T2.zero
  have hzc := (hzr g w).cells
  have hzsz : z.cells.size = te.size := hzs
  have hts : te.size = τ0.n := by rw [← T2.size, hjs]
  have E := h.env C [x]
  have hxv := E.evA (x := x) (by simp) hx
  generalize hxe : a.eval x = vx at hxv
  unfold clearW at hs
  split at hs
  · rename_i id off m
    split at hs
    · rename_i τ l hl
      split at hs
      · rename_i hn
        have hn := Nat.eq_of_beq_eq_true hn
        obtain ⟨z0, hz0, hs⟩ := ocase_some hs
        rcases bcase_some hs with ⟨h1, hs⟩ | ⟨_, hs⟩
        rotate_left
        · simp at hs
        have h1 := Nat.le_of_ble_eq_true h1
        obtain ⟨b, hm, hbr⟩ := h.mem id _ hl
        cases hxv with
        | sub _ _ _ b' ad cc hm' hl' hc hk =>
          rw [hm] at hm'; cases hm'
          have e1 : (#[x].map a.eval) = #[.slice ad m cc] := by simp [hxe]
          by_cases h0 : m = 0
          · subst h0
            have e2 : l.take off ++ (List.replicate 0 z0 ++ l.drop (off + 0)) = l := by simp
            rw [e2] at hs
            obtain ⟨σ2, hk2, h2⟩ := (h.same hl).put (v := .tuple #[]) hN (x := .tup []) ⟨[], rfl, .nil⟩ hs
            refine wpIn_of_run hF (by simp [hop]) ?_ (hK _ _ _ _ hk2 h2)
            cases ad <;> simp [execOp, hop, resolve, invoke, builtin, e1, hxe, Builtin.clear_, run_underlying T.und]
          · obtain ⟨q, hb, had⟩ := hk (by omega)
            subst had
            obtain ⟨g1, g2, g3⟩ := hbr
            rcases g3 with ⟨g3, _⟩ | ⟨q', cs, ec, hb', hh, hcs, hl'', ho, ha⟩
            · rw [hb] at g3; cases g3
            · have hqq : q = q' := by rw [hb] at hb'; exact Option.some.inj hb'
              subst hqq
              have hzn : z.cells.size = τ.n := by rw [hzsz, hts, hn]
              have hvl : (Builtin.zeroCells z.cells m).toList.length = (List.replicate m z0).length * τ.n := by
                rw [Array.length_toList, size_zeroCells, hzn]; simp
              have hlc : l.length * τ.n ≤ cs.toList.length := by simp [hcs]; exact Nat.mul_le_mul_right _ hl''
              have hfit : off * τ.n + (Builtin.zeroCells z.cells m).toList.length ≤ cs.size := by
                have : (off + m) * τ.n ≤ l.length * τ.n := Nat.mul_le_mul_right _ h1
                rw [hvl]; rw [Nat.add_mul] at this; simp at hlc ⊢; omega
              have hve := elems_zero hz0 hzc m
              have hone := hve.one hvl
              have hst := run_storeCells_at P q (off * τ.n) ec (Builtin.zeroCells z.cells m).toList 0 cs w hh (by simpa using hfit) hone
              simp only [Nat.add_zero] at hst
              have he : Elems g w τ l cs.toList := fun i x p y hx hy => by
                obtain ⟨v, hv, hr⟩ := ha i x p y hx hy
                exact ⟨v, by simpa using hv, hr⟩
              have hspl := he.splice hve hvl (off := off) (by simpa using h1) hlc
              rw [List.length_replicate] at hspl
              have hset := h.writeRow (l' := l.take off ++ (List.replicate m z0 ++ l.drop (off + m))) (new := (setVals cs.toList (off * τ.n) (Builtin.zeroCells z.cells m).toList).toArray) hl hm hb hh ⟨g1, g2, .inr ⟨q, cs, ec, hb, hh, hcs, hl'', ho, ha⟩⟩ (by simp; omega) (by simp [setVals_length]) (by simpa using setVals_one (by simpa using hfit) ho hone) (by simpa using hspl)
              obtain ⟨σ2, hk2, h2⟩ := hset.put (v := .tuple #[]) hN (x := .tup []) ⟨[], rfl, .nil⟩ hs
              refine wpIn_of_run hF (by simp [hop]) ?_ (hK _ _ _ _ hk2 h2)
              rw [setVals_eq _ _ _ (by simpa using hfit)]
              simp [execOp, hop, resolve, invoke, builtin, e1, hxe, Builtin.clear_, run_underlying T.und, h0, zeroValue, typeInfo, hj, hz, g1, hst]
      · simp at hs
    · simp at hs
  · simp at hs
end
end Go.Eng
set_option linter.unusedSimpArgs false
set_option linter.unusedVariables false
set_option linter.unnecessarySimpa false
namespace Go.Eng
open Go Go.RowKit
section
variable {P : Program} [GlobL P] {F : Fence} {n : Nat} {c : Cfg} {g g' : Gh} {r : Regs} {m : Mem} {a : Act} {w w' : World} {o : Oper} {R : Type} {k : St → Option R} {res : R} {xs : List Operand}
variable {base : Nat} {w0 : World} {S0 : Nat → Prop} {N : Nat} {D : Wt} {sv : Nat → Value} {σ : St}
theorem w_range (h : Rel P base w0 S0 N D sv g σ a w) (C : CfgOK P c) (hN : c.N = N) (hF : WideF F) {K : Act → World → Prop} {Q : Exit → Act → World → Prop} (hK : ∀ g' σ' a' w', k σ' = some res → Rel P base w0 S0 N D sv g' σ' a' w' → K a' w') {t : TypeId} {x : Operand}
    (hop : o.op = .range t x) {ti : TI} (hti : c.ti t = some ti) (htk : ti.k = .str) {s : Str} (hx : evA c σ.regs t x = some (.str s)) (hs : (σ.new (.iter s 0)).put c o.dst (.one (.iter σ.nx)) k = some res) : o.wpIn F n P a w K Q := by
  obtain ⟨i, d, T⟩ := C.ts t ti hti
  have e := T.str htk
  subst e
  have E := h.env C [x]
  have hxv := E.evA (x := x) (by simp) hx
  generalize hxe : a.eval x = vx at hxv
  cases hxv with
  | str _ bs hbs =>
    obtain ⟨b, hbd⟩ : ∃ b : Gb, b = ⟨some w.heap.size, 0, 0, 0, default⟩ := ⟨_, rfl⟩
    have hb : Below w.heap.size w (w.iter bs 0) := (Below.refl _ _).alloc (Nat.le_refl _) _
    have hn := h.new (id := σ.nx) (Nat.le_refl _) (w' := w.iter bs 0) (b := b) (x := .iter s 0) hb ⟨w.heap.size, bs, by rw [hbd], World.iter_heap w bs 0, hbs⟩ (fun q hq => by
      rw [hbd] at hq; cases hq
      exact ⟨Nat.le_refl _, by show w.heap.size < (w.heap.push _).size; rw [Array.size_push]; omega⟩)
    obtain ⟨σ2, hk, h2⟩ := hn.put (v := .pointer (some ⟨w.heap.size, 0, none⟩)) hN (x := .one (.iter σ.nx)) (VA.iter σ.nx b w.heap.size (by simp [Gh.set]) (by rw [hbd])) hs
    refine wpIn_of_run hF (by simp [hop]) ?_ (hK _ _ _ _ hk h2)
    simp [execOp, hop, hxe, run_range_string w t bs T.und]
theorem w_next (h : Rel P base w0 S0 N D sv g σ a w) (C : CfgOK P c) (hN : c.N = N) (hF : WideF F) {K : Act → World → Prop} {Q : Exit → Act → World → Prop} (hK : ∀ g' σ' a' w', k σ' = some res → Rel P base w0 S0 N D sv g' σ' a' w' → K a' w') {x : Operand}
    (hop : o.op = .next x true) {px : At} (hx : evA c σ.regs 0 x = some px) (hs : nextW c o σ px k = some res) : o.wpIn F n P a w K Q := by
  have E := h.env C [x]
  have hxv := E.evA (x := x) (by simp) hx
  generalize hxe : a.eval x = vx at hxv
  unfold nextW at hs
  split at hs
  · rename_i id
    split at hs
    · rename_i s pos hl
      obtain ⟨b, hm, q, bs, hb, hh, hbs⟩ := h.mem id _ hl
      cases hxv with
      | iter _ b' q' hm' hq' =>
        rw [hm] at hm'; cases hm'
        rw [hb] at hq'; cases hq'
        have hsz : bs.size = s.length := by rw [← hbs]; simp
        have hdec : runeAt s pos = Utf8.decode bs pos := by
          unfold runeAt
          congr 1
          subst hbs
          rfl
        rcases bcase_some hs with ⟨h1, hs⟩ | ⟨h1, hs⟩
        · have h1 : pos < s.length := Nat.le_of_ble_eq_true h1
          rw [hdec] at hs
          obtain ⟨w1, hw1⟩ : ∃ w1 : World, w1 = { w with heap := w.heap.setIfInBounds q (.stringIter bs (pos + (Utf8.decode bs pos).2)) } := ⟨_, rfl⟩
          have hqlt : q < w.heap.size := (Array.getElem?_eq_some_iff.1 hh).1
          have hset := h.set (w' := w1) (y := .iter s (pos + (Utf8.decode bs pos).2)) hl rfl hm hb (by rw [hw1]; simp) (fun j hj => by
            rw [hw1]
            show (w.heap.setIfInBounds q _)[j]? = _
            rw [Array.getElem?_setIfInBounds_ne (Ne.symm hj)]) ⟨by rw [hw1], by rw [hw1], by rw [hw1]⟩ (fun _ => ⟨q, bs, hb, by rw [hw1]; show (w.heap.setIfInBounds q _)[q]? = _; simp [hqlt], hbs⟩)
          obtain ⟨σ2, hk, h2⟩ := hset.put (v := .tuple #[.bool true, .int .i64 pos, .int .i32 (Utf8.decode bs pos).1]) hN (x := .tup [.one (.bool true), .one (.int .i64 pos), .one (.int .i32 (Utf8.decode bs pos).1)])
            ⟨[.bool true, .int .i64 pos, .int .i32 (Utf8.decode bs pos).1], rfl, .cons (VA.bool _) (.cons (VA.int _ _) (.cons (VA.int _ _) .nil))⟩ hs
          refine wpIn_of_run hF (by simp [hop]) ?_ (hK _ _ _ _ hk h2)
          simp [execOp, hop, hxe, Instr.next, getObj, setObj, Sem.run, hh, hsz, h1, hw1, goInt]
        · have h1 : ¬ pos < s.length := fun e => by
            have : Nat.blt pos s.length = true := Nat.ble_eq_true_of_le e
            rw [this] at h1; cases h1
          obtain ⟨σ2, hk, h2⟩ := h.put (v := .tuple #[.bool false]) hN (x := .tup [.one (.bool false)]) ⟨[.bool false], rfl, .cons (VA.bool _) .nil⟩ hs
          refine wpIn_of_run hF (by simp [hop]) ?_ (hK _ _ _ _ hk h2)
          simp [execOp, hop, hxe, Instr.next, getObj, Sem.run, hh, hsz, h1]
    · simp at hs
  · simp at hs
end
end Go.Eng
set_option linter.unusedSimpArgs false
set_option linter.unusedVariables false
set_option linter.unnecessarySimpa false
namespace Go.Eng
open Go Go.RowKit Go.MapKept
section
variable {P : Program} [GlobL P] {F : Fence} {n : Nat} {c : Cfg} {g g' : Gh} {r : Regs} {m : Mem} {a : Act} {w w' : World} {o : Oper} {R : Type} {k : St → Option R} {res : R}
variable {base : Nat} {w0 : World} {S0 : Nat → Prop} {N : Nat} {D : Wt} {sv : Nat → Value} {σ : St}
def KeyT (P : Program) (kt : TypeId) (κ : Ty) : Prop := (κ = .int ∧ P.underlying kt = some (.int .i64)) ∨ (κ = .str ∧ P.underlying kt = some .string)
theorem keyOf_v {κ : Ty} {x : At} {key : κ.T} {v : Value} (hv : VA g w x v) (h : keyOf κ x = some key) : keyV κ key v := by
  unfold keyOf at h
  split at h
  · cases h; cases hv; rfl
  · cases h; cases hv with | str _ b e => exact ⟨b, rfl, e⟩
  · cases h
theorem keyT_d {kt : TypeId} {κ : Ty} (hk : KeyT P kt κ) : ∃ d, P.underlying kt = some d := by rcases hk with ⟨_, h⟩ | ⟨_, h⟩ <;> exact ⟨_, h⟩
theorem keyV_is {kt : TypeId} {κ : Ty} {key : κ.T} {v : Value} {d : TypeDesc} (hk : KeyT P kt κ) (hd : P.underlying kt = some d) (hv : keyV κ key v) : IsKey d v := by
  rcases hk with ⟨rfl, hu⟩ | ⟨rfl, hu⟩
  · rw [hu] at hd; cases hd
    have : v = .int .i64 key := hv
    subst this
    simp [IsKey]
  · rw [hu] at hd; cases hd
    obtain ⟨b, rfl, -⟩ := hv
    simp [IsKey]
theorem bytes_inj {b b' : ByteArray} : b.data.toList = b'.data.toList ↔ b = b' := by
  constructor
  · intro h; cases b; cases b'; simp at h; subst h; rfl
  · rintro rfl; rfl
theorem sameNow_ok {kt : TypeId} {κ : Ty} {key k' : κ.T} {v v' : Value} {d : TypeDesc} (hk : KeyT P kt κ) (hd : P.underlying kt = some d) (hv : keyV κ key v) (hv' : keyV κ k' v') : Instr.sameNow d v v' = some (keyB κ k' key) := by
  rcases hk with ⟨rfl, hu⟩ | ⟨rfl, hu⟩
  · rw [hu] at hd; cases hd
    have e1 : v = .int .i64 key := hv
    have e2 : v' = .int .i64 k' := hv'
    subst e1; subst e2
    have : ((show Int from key) == (show Int from k')) = ((show Int from k') == (show Int from key)) := by
      rw [Bool.eq_iff_iff]; simp only [beq_iff_eq]; exact eq_comm
    simp only [Instr.sameNow, keyB, if_pos rfl]
    exact congrArg some this
  · rw [hu] at hd; cases hd
    obtain ⟨b, rfl, e1⟩ := hv
    obtain ⟨b', rfl, e2⟩ := hv'
    simp only [Instr.sameNow, keyB]
    have : (b == b') = ((show Str from k') == (show Str from key)) := by
      rw [Bool.eq_iff_iff, bytes_beq, ← bytes_inj, e1, e2]
      simp only [beq_iff_eq]
      exact eq_comm
    exact congrArg some this
theorem key_same {kt : TypeId} {κ : Ty} {key k' : κ.T} {v v' : Value} (hk : KeyT P kt κ) (hv : keyV κ key v) (hv' : keyV κ k' v') (h : keyB κ k' key = true) : v' = v := by
  rcases hk with ⟨rfl, hu⟩ | ⟨rfl, hu⟩
  · have e1 : v = .int .i64 key := hv
    have e2 : v' = .int .i64 k' := hv'
    have e3 : k' = key := by
      have : ((show Int from k') == (show Int from key)) = true := h
      exact beq_iff_eq.1 this
    rw [e1, e2, e3]
  · obtain ⟨b, rfl, e1⟩ := hv
    obtain ⟨b', rfl, e2⟩ := hv'
    have e3 : (show Str from k') = key := by
      have : ((show Str from k') == (show Str from key)) = true := h
      exact beq_iff_eq.1 this
    rw [bytes_inj.1 (e2.trans (e3.trans e1.symm))]
theorem findNow_ok {kt : TypeId} {κ τ : Ty} {key : κ.T} {v : Value} {d : TypeDesc} {ag : Bool} (hk : KeyT P kt κ) (hd : P.underlying kt = some d) (hv : keyV κ key v) :
    ∀ {l : List (κ.T × τ.T × Nat)} {es : List MapEntry} (i : Nat), All2 (EntR g w ag) l es →
      (∃ (j : Nat) (x : κ.T × τ.T × Nat) (e : MapEntry), l[j]? = some x ∧ es[j]? = some e ∧ keyB κ x.1 key = true ∧ (∀ (i' : Nat) (x' : κ.T × τ.T × Nat), i' < j → l[i']? = some x' → keyB κ x'.1 key = false) ∧ Instr.findNow d v es i = some (some (i + j, e.val))) ∨
      ((∀ x ∈ l, keyB κ x.1 key = false) ∧ Instr.findNow d v es i = some none)
  | [], [], i, .nil => .inr ⟨fun x hx => by simp at hx, rfl⟩
  | x :: l, e :: es, i, .cons hx ht => by
    have h1 := sameNow_ok hk hd hv hx.1
    cases hb : keyB κ x.1 key with
    | true =>
      refine .inl ⟨0, x, e, rfl, rfl, hb, fun i' x' h => by omega, ?_⟩
      simp [Instr.findNow, h1, hb]
    | false =>
      rcases findNow_ok hk hd hv (i + 1) ht with ⟨j, x', e', h2, h3, h4, h5, h6⟩ | ⟨h2, h3⟩
      · refine .inl ⟨j + 1, x', e', by simpa using h2, by simpa using h3, h4, fun i' x'' hi hx'' => ?_, ?_⟩
        · cases i' with
          | zero => simp at hx''; subst hx''; exact hb
          | succ i' => exact h5 i' x'' (by omega) (by simpa using hx'')
        · simp only [Instr.findNow, h1, hb, h6]
          congr 2
          congr 1
          omega
      · refine .inr ⟨fun y hy => ?_, ?_⟩
        · rcases List.mem_cons.1 hy with rfl | hy
          · exact hb
          · exact h2 y hy
        · simp only [Instr.findNow, h1, hb, h3]
theorem mgetK_ok {κ τ : Ty} {key : κ.T} {kv : τ.T → Nat → Option R} {kn : Option R} : ∀ {l : List (κ.T × τ.T × Nat)}, mgetK key l kv kn = some res →
    (∃ (j : Nat) (x : κ.T × τ.T × Nat), l[j]? = some x ∧ keyB κ x.1 key = true ∧ (∀ (i' : Nat) (x' : κ.T × τ.T × Nat), i' < j → l[i']? = some x' → keyB κ x'.1 key = false) ∧ kv x.2.1 x.2.2 = some res) ∨ ((∀ x ∈ l, keyB κ x.1 key = false) ∧ kn = some res)
  | [], h => .inr ⟨fun x hx => by simp at hx, h⟩
  | x :: l, h => by
    simp only [mgetK] at h
    rcases bcase_some h with ⟨hb, h⟩ | ⟨hb, h⟩
    · exact .inl ⟨0, x, rfl, hb, fun i' x' h => by omega, h⟩
    · rcases mgetK_ok h with ⟨j, x', h1, h2, h3, h4⟩ | ⟨h1, h2⟩
      · refine .inl ⟨j + 1, x', by simpa using h1, h2, fun i' x'' hi hx'' => ?_, h4⟩
        cases i' with
        | zero => simp at hx''; subst hx''; exact hb
        | succ i' => exact h3 i' x'' (by omega) (by simpa using hx'')
      · refine .inr ⟨fun y hy => ?_, h2⟩
        rcases List.mem_cons.1 hy with rfl | hy
        · exact hb
        · exact h1 y hy
theorem msetL_found {κ τ : Ty} {key : κ.T} {v : τ.T} {ck : Nat} : ∀ {l : List (κ.T × τ.T × Nat)} {j : Nat} {x : κ.T × τ.T × Nat}, l[j]? = some x → keyB κ x.1 key = true → (∀ (i' : Nat) (x' : κ.T × τ.T × Nat), i' < j → l[i']? = some x' → keyB κ x'.1 key = false) →
    msetL key v ck l = l.set j (x.1, v, x.2.2) ∧ mckL key ck l = ck
  | y :: l, 0, x, h1, h2, h3 => by
    simp at h1; subst h1
    simp [msetL, mckL, mhasL, h2]
  | y :: l, j + 1, x, h1, h2, h3 => by
    have h0 := h3 0 y (by omega) rfl
    have ih := msetL_found (v := v) (ck := ck) (l := l) (j := j) (by simpa using h1) h2 (fun i' x' hi hx' => h3 (i' + 1) x' (by omega) (by simpa using hx'))
    refine ⟨by simp only [msetL, h0, ih.1, List.set_cons_succ], ?_⟩
    have := ih.2
    unfold mckL at this ⊢
    simp only [mhasL, h0]
    exact this
theorem msetL_none {κ τ : Ty} {key : κ.T} {v : τ.T} {ck : Nat} : ∀ {l : List (κ.T × τ.T × Nat)}, (∀ x ∈ l, keyB κ x.1 key = false) → msetL key v ck l = l ++ [(key, v, ck)] ∧ mckL key ck l = ck + 1
  | [], _ => ⟨rfl, rfl⟩
  | y :: l, h => by
    have h0 := h y (by simp)
    have ih := msetL_none (v := v) (ck := ck) (l := l) (fun x hx => h x (by simp [hx]))
    refine ⟨by simp only [msetL, h0, ih.1, List.cons_append], ?_⟩
    have := ih.2
    unfold mckL at this ⊢
    simp only [mhasL, h0]
    exact this
theorem mapW_ok (h : Rel P base w0 S0 N D sv g σ a w) (C : CfgOK P c) {t : TypeId} {x i : Operand} {kk : (id : Nat) → (ag : Bool) → (κ τ : Ty) → List (κ.T × τ.T × Nat) → Nat → κ.T → TI → Option R} (hs : mapW c σ t x i kk = some res) :
    ∃ (id : Nat) (ag : Bool) (κ τ : Ty) (l : List (κ.T × τ.T × Nat)) (ck : Nat) (key : κ.T) (te : TI) (kt e : TypeId) (b : Gb) (q : Nat) (es : Array MapEntry),
      kk id ag κ τ l ck key te = some res ∧ look id σ.mem = some (.map ag κ τ l ck) ∧ P.underlying t = some (.map kt e) ∧ KeyT P kt κ ∧ c.ti e = some te ∧ a.eval x = .map (some q) ∧ keyV κ key (a.eval i) ∧
      g.m id = some b ∧ b.blk = some q ∧ w.heap[q]? = some (.map es ck) ∧ All2 (EntR g w ag) l es.toList := by
  have E := h.env C [x, i]
  unfold mapW at hs
  split at hs
  · rename_i ag0 sz z κ τ0 kt e hti
    split at hs
    · rename_i id ki te hx hi hte
      split at hs
      · rename_i ag κ' τ l ck hl
        split at hs
        · rename_i hsame
          split at hs
          · rename_i key hkey
            obtain ⟨i', d, T⟩ := C.ts _ _ hti
            obtain ⟨rfl, hk, -⟩ := T.map rfl
            obtain ⟨b, hb, q, es, hq, hh, ha⟩ := h.mem id _ hl
            have hxv : a.eval x = .map (some q) := by
              have := E.evA (by simp) hx
              generalize a.eval x = u at this ⊢
              cases this with
              | mapr _ b' k' hm hk' => rw [hb] at hm; cases hm; rw [hq] at hk'; cases hk'; rfl
            have hkt : KeyT P kt κ' := by
              rcases hk with ⟨rfl, hu⟩ | ⟨rfl, hu⟩
              · cases κ' <;> simp [sameK] at hsame; exact .inl ⟨rfl, hu⟩
              · cases κ' <;> simp [sameK] at hsame; exact .inr ⟨rfl, hu⟩
            exact ⟨id, ag, κ', τ, l, ck, key, te, kt, e, b, q, es, hs, hl, T.und, hkt, hte, hxv, keyOf_v (E.evA (by simp) hi) hkey, hb, hq, hh, ha⟩
          · simp at hs
        · simp at hs
      · simp at hs
    · simp at hs
  · simp at hs
theorem w_makeMap (h : Rel P base w0 S0 N D sv g σ a w) (C : CfgOK P c) (hN : c.N = N) (hF : WideF F) {K : Act → World → Prop} {Q : Exit → Act → World → Prop} (hK : ∀ g' σ' a' w', k σ' = some res → Rel P base w0 S0 N D sv g' σ' a' w' → K a' w') {t : TypeId} {nn : Option Operand}
    (hop : o.op = .makeMap t nn) (hs : makeMapW c o σ t nn k = some res) : o.wpIn F n P a w K Q := by
  unfold makeMapW at hs
  split at hs
  · rename_i hint
    split at hs
    · rename_i ag0 sz z κ τ kt e hti
      split at hs
      · rename_i te hte
        obtain ⟨i', d, T⟩ := C.ts _ _ hti
        obtain ⟨rfl, hk, -⟩ := T.map rfl
        obtain ⟨b, hbd⟩ : ∃ b : Gb, b = ⟨some w.heap.size, 0, 0, 0, default⟩ := ⟨_, rfl⟩
        have hbl : Below w.heap.size w (w.alloc (.map #[] 0)) := Below.push (obj := .map #[] 0) rfl rfl rfl rfl
        have hn := h.new (w' := w.alloc (.map #[] 0)) (id := σ.nx) (Nat.le_refl _) (b := b) (x := .map te.agg κ τ [] 0) hbl ⟨w.heap.size, #[], by rw [hbd], heap_push (w' := w.alloc (.map #[] 0)) rfl, .nil⟩ (fun q hq => by rw [hbd] at hq; cases hq; exact ⟨Nat.le_refl _, by simp⟩)
        have hv : VA (g.set σ.nx b) (w.alloc (.map #[] 0)) (.mapr σ.nx) (.map (some w.heap.size)) := VA.mapr σ.nx b _ (by simp [Gh.set]) (by rw [hbd])
        obtain ⟨σ2, hk2, h2⟩ := hn.put hN (x := .one (.mapr σ.nx)) hv hs
        refine wpIn_of_run hF (by simp [hop]) ?_ (hK _ _ _ _ hk2 h2)
        cases nn with
        | none => simp [execOp, hop, Instr.makeMap]
        | some x =>
          unfold isIntA at hint
          split at hint
          · cases ‹some x = none›
          · rename_i y heq
            obtain rfl := Option.some.inj heq
            split at hint
            · rename_i κ0 q0 hy
              have E := h.env C [x]
              have hyv : a.eval x = .int κ0 q0 := by
                have := E.evA (by simp) hy
                generalize a.eval x = u at this ⊢
                cases this; rfl
              simp [execOp, hop, Instr.makeMap, hyv, run_underlying T.und, asInt, asIntOf]
            · cases hint
      · simp at hs
    · simp at hs
  · simp at hs
theorem All2.get_both {α β : Type} {R : α → β → Prop} {l : List α} {m : List β} (h : All2 R l m) {i : Nat} {a : α} {b : β} (ha : l[i]? = some a) (hb : m[i]? = some b) : R a b := by
  obtain ⟨b', hb', hr⟩ := h.get ha
  rw [hb] at hb'; cases hb'; exact hr
theorem Rel.setSame (h : Rel P base w0 S0 N D sv g σ a w) {id : Nat} {b : AB} (hl : look id σ.mem = some b) : Rel P base w0 S0 N D sv g (σ.set id b) a w := by
  have e : ∀ i, look i (σ.set id b).mem = look i σ.mem := fun i => by
    simp only [St.set, look_cons]
    split
    · rename_i e; subst e; exact hl.symm
    · rfl
  exact { h with mem := fun i x hx => h.mem i x (by rw [← e]; exact hx), inj := fun i i' x x' b b' q h1 h2 => h.inj i i' x x' b b' q (by rw [← e]; exact h1) (by rw [← e]; exact h2), own := fun i x b q h1 => h.own i x b q (by rw [← e]; exact h1), lp := fun i x b h1 => h.lp i x b (by rw [← e]; exact h1) }
theorem w_lookup (h : Rel P base w0 S0 N D sv g σ a w) (C : CfgOK P c) (hN : c.N = N) (hF : WideF F) {K : Act → World → Prop} {Q : Exit → Act → World → Prop} (hK : ∀ g' σ' a' w', k σ' = some res → Rel P base w0 S0 N D sv g' σ' a' w' → K a' w') {t : TypeId} {x i : Operand} {ok : Bool}
    (hop : o.op = .lookup t x i ok) (hs : lookupW c o σ t x i ok k = some res) : o.wpIn F n P a w K Q := by
  unfold lookupW at hs
  obtain ⟨id, ag, κ, τ, l, ck, key, te, kt, e, b, q, es, hs, hl, hu, hkt, hte, hxv, hkv, hb, hq, hh, ha⟩ := mapW_ok h C hs
  obtain ⟨d, hd⟩ := keyT_d hkt
  have hik := keyV_is hkt hd hkv
  have hR : Rel P base w0 S0 N D sv g (σ.set id (.map ag κ τ l ck)) a w := h.setSame hl
  have fin : ∀ {y : V1} {v : Value} {bb : Bool}, V1R g w y v → (σ.set id (.map ag κ τ l ck)).put c o.dst (commaOk ok y bb) k = some res → (Instr.lookup t (a.eval x) (a.eval i) ok).run P w = .ok (if ok then .tuple #[v, .bool bb] else v) w → o.wpIn F n P a w K Q := by
    intro y v bb hv hp hr
    have hav : AVR g w (commaOk ok y bb) (if ok then .tuple #[v, .bool bb] else v) := by
      cases ok with
      | true => exact ⟨[v, .bool bb], rfl, .cons hv (.cons (VA.bool bb) .nil)⟩
      | false => exact hv
    obtain ⟨σ2, hk2, h2⟩ := hR.put hN hav hp
    refine wpIn_of_run hF (by simp [hop]) ?_ (hK _ _ _ _ hk2 h2)
    simp [execOp, hop, hr]
  rcases mgetK_ok hs with ⟨j, xe, h1, h2, h3, hs⟩ | ⟨h1, hs⟩
  · obtain ⟨y, hy, hs⟩ := ocase_some hs
    rcases findNow_ok hkt hd hkv 0 ha with ⟨j', xe', e', g1, g2, g3, g4, g5⟩ | ⟨g1, g2⟩
    · have ej : j = j' := by
        rcases Nat.lt_trichotomy j j' with hlt | hlt | hlt
        · have := g4 j xe hlt h1; rw [h2] at this; cases this
        · exact hlt
        · have := h3 j' xe' hlt g1; rw [g3] at this; cases this
      subst ej
      rw [h1] at g1; cases g1
      obtain ⟨-, -, y', hy', hv⟩ := ha.get_both h1 g2
      rw [hy] at hy'; cases hy'
      refine fin hv hs ?_
      have e0 := run_findKey (P := P) (w := w) hd (l := es.toList) g5
      simp only [Instr.lookup, hxv, Sem.run_bind, run_underlying hu, Result.andThen, Go.MapKept.run_getObj_map hh, Sem.run_pure, Go.MapKept.run_checkKey hd hik, e0]
    · exact absurd (g1 xe (List.mem_of_getElem? h1)) (by rw [h2]; simp)
  · rcases findNow_ok hkt hd hkv 0 ha with ⟨j', xe', e', g1, g2, g3, g4, g5⟩ | ⟨g1, g2⟩
    · exact absurd (h1 xe' (List.mem_of_getElem? g1)) (by rw [g3]; simp)
    · obtain ⟨i2, d2, T2⟩ := C.ts e te hte
      obtain ⟨z, hz, -, hzr⟩ := T2.zero
      refine fin (hzr g w) hs ?_
      have e0 := run_findKey (P := P) (w := w) hd (l := es.toList) g2
      have ez : (zeroValue e).run P w = .ok z w := by simp [zeroValue, typeInfo, T2.info, hz]
      simp only [Instr.lookup, hxv, Sem.run_bind, run_underlying hu, Result.andThen, Go.MapKept.run_getObj_map hh, Sem.run_pure, Go.MapKept.run_checkKey hd hik, e0, ez]
theorem Rel.setMap (h : Rel P base w0 S0 N D sv g σ a w) {id : Nat} {ag : Bool} {κ τ : Ty} {l : List (κ.T × τ.T × Nat)} {ck : Nat} {b : Gb} {q : Nat} {es : Array MapEntry} (hl : look id σ.mem = some (.map ag κ τ l ck)) (hb : g.m id = some b) (hq : b.blk = some q) (hh : w.heap[q]? = some (.map es ck))
    {l' : List (κ.T × τ.T × Nat)} {ck' : Nat} {es' : Array MapEntry} (ha : All2 (EntR g w ag) l' es'.toList) : Rel P base w0 S0 N D sv g (σ.set id (.map ag κ τ l' ck')) a { w with heap := w.heap.setIfInBounds q (.map es' ck') } := by
  have hown := h.own id _ b q hl rfl hb hq
  refine h.set (w' := { w with heap := w.heap.setIfInBounds q (.map es' ck') }) hl rfl hb hq (by simp) (fun j hj => (heap_set hh).2 j hj) ⟨rfl, rfl, rfl⟩ (fun hH => ?_)
  refine ⟨q, es', hq, (heap_set hh).1, ha.mono fun x e k => k.of fun y v hy hv => ?_⟩
  have hH' : Holds g w { w with heap := w.heap.setIfInBounds q (.map es' ck') } := fun j hj => (heap_set hh).2 j (fun e => by subst e; exact hown.2 hj)
  exact hv.mono hH' (Gh.le.refl g)
theorem decC_va {τ : Ty} {l : List At} {x : τ.T} (h : τ.decC l = some x) {vs : List Value} (hv : All2 (VA g w) l vs) : All2 (VA g w) (τ.enc x) vs := by
  rw [decC_enc τ h]
  exact hv.mapL fun _ _ k => k.unclip
theorem All2.push {α β : Type} {R : α → β → Prop} {l : List α} {m : List β} (h : All2 R l m) {a : α} {b : β} (hr : R a b) : All2 R (l ++ [a]) (m ++ [b]) := h.append (.cons hr .nil)
theorem V1.recell {ag : Bool} {x : V1} (hx : x.is ag = true) {v : Value} (hv : V1R g w x v) {τ : Ty} {e : τ.T} (he : τ.decC x.cells = some e) : ∃ y', V1.ofCells ag (τ.enc e) = some y' ∧ V1R g w y' v := by
  have hva := decC_va he hv.cells
  cases x with
  | one x =>
    have hag : ag = false := by simpa [V1.is] using hx
    subst hag
    have h1 : VA g w x v := hv
    have h2 := h1.one
    have e1 : v.cells.toList = [v] := by cases v <;> first | rfl | (simp [Value.oneCell'] at h2)
    have hl : (τ.enc e).length = 1 := by
      have := hva.length; rw [e1] at this; exact this
    obtain ⟨z, hz⟩ := List.length_eq_one_iff.1 hl
    rw [e1] at hva
    rw [hz] at hva ⊢
    cases hva with | cons ha _ => exact ⟨_, rfl, ha⟩
  | agg l =>
    have hag : ag = true := hx
    subst hag
    obtain ⟨vs, rfl, _⟩ := hv
    exact ⟨.agg (τ.enc e), rfl, vs, rfl, hva⟩
theorem modify_toList {es : Array MapEntry} {j : Nat} {e : MapEntry} {f : MapEntry → MapEntry} (h : es.toList[j]? = some e) : (es.modify j f).toList = es.toList.set j (f e) := by
  have hj : j < es.size := by have := (List.getElem?_eq_some_iff.1 h).1; simpa using this
  apply List.ext_getElem?
  intro i
  simp only [Array.toList_modify, List.getElem?_modify, List.getElem?_set]
  split
  · rename_i e1; subst e1
    rw [if_pos (by simpa using hj), h]; rfl
  · cases es.toList[i]? <;> rfl
theorem w_mapUpd (h : Rel P base w0 S0 N D sv g σ a w) (C : CfgOK P c) (hN : c.N = N) (hF : WideF F) {K : Act → World → Prop} {Q : Exit → Act → World → Prop} (hK : ∀ g' σ' a' w', k σ' = some res → Rel P base w0 S0 N D sv g' σ' a' w' → K a' w') {t : TypeId} {x i v : Operand}
    (hop : o.op = .mapUpdate t x i v ∨ o.op = .insert t x i v) (hs : mapUpdW c o σ t x i v k = some res) : o.wpIn F n P a w K Q := by
  unfold mapUpdW at hs
  obtain ⟨id, ag, κ, τ, l, ck, key, te, kt, e, b, q, es, hs, hl, hu, hkt, hte, hxv, hkv, hb, hq, hh, ha⟩ := mapW_ok h C hs
  obtain ⟨d, hd⟩ := keyT_d hkt
  have hik := keyV_is hkt hd hkv
  have E := h.env C [v]
  split at hs
  · rename_i y hy
    have hyv := E.evV (by simp) hy
    split at hs
    · rename_i z hag hz
      obtain ⟨y', hy', hyr⟩ := V1.recell hag hyv hz
      have hnd : ∀ c, o.op ≠ .defer c := fun c => by rcases hop with e | e <;> simp [e]
      have hex : ∀ {w2 : World}, (Instr.mapUpdate t (a.eval x) (a.eval i) (a.eval v)).run P w = .ok () w2 → (execOp a.eval o).run P w = .ok .skip w2 := fun {w2} hr => by
        rcases hop with e | e <;> simp [execOp, e, hr]
      rcases findNow_ok hkt hd hkv 0 ha with ⟨j, xe, e', g1, g2, g3, g4, g5⟩ | ⟨g1, g2⟩
      · obtain ⟨e1, e2⟩ := msetL_found (v := z) (ck := ck) g1 g3 g4
        have hxe := ha.get_both g1 g2
        have hsame := key_same hkt hkv hxe.1 g3
        have g2' : es[j]? = some e' := by simpa using g2
        rw [e1, e2] at hs
        have hR := h.setMap (es' := es.modify j fun e => { e with key := a.eval i, val := a.eval v }) (l' := l.set j (xe.1, z, xe.2.2)) (ck' := ck) hl hb hq hh (by
          rw [modify_toList g2]
          refine ha.set (a := (xe.1, z, xe.2.2)) (b := { e' with key := a.eval i, val := a.eval v }) ?_ j
          exact ⟨by rw [← hsame]; exact hxe.1, hxe.2.1, y', hy', hyr⟩)
        obtain ⟨σ2, hk2, h2⟩ := hR.put hN (x := .undef) (v := undef) rfl hs
        refine wpIn_of_skip hF hnd (hex ?_) (hK _ _ _ _ hk2 h2)
        have e0 := run_findKey (P := P) (w := w) hd (l := es.toList) g5
        simp [Instr.mapUpdate, hxv, run_underlying hu, Go.MapKept.run_getObj_map hh, Go.MapKept.run_checkKey hd hik, e0, g2', hsame, run_keyThatStays hik, run_setObj_map _ hh, Result.andThen]
      · obtain ⟨e1, e2⟩ := msetL_none (v := z) (ck := ck) g1
        rw [e1, e2] at hs
        have hR := h.setMap (es' := es.push { key := a.eval i, val := a.eval v, born := ck }) (l' := l ++ [(key, z, ck)]) (ck' := ck + 1) hl hb hq hh (by
          rw [Array.toList_push]
          exact ha.push ⟨hkv, rfl, y', hy', hyr⟩)
        obtain ⟨σ2, hk2, h2⟩ := hR.put hN (x := .undef) (v := undef) rfl hs
        refine wpIn_of_skip hF hnd (hex ?_) (hK _ _ _ _ hk2 h2)
        have e0 := run_findKey (P := P) (w := w) hd (l := es.toList) g2
        simp [Instr.mapUpdate, hxv, run_underlying hu, Go.MapKept.run_getObj_map hh, Go.MapKept.run_checkKey hd hik, e0, run_setObj_map _ hh, Result.andThen]
    · simp at hs
  · simp at hs
theorem w_mapEnt (h : Rel P base w0 S0 N D sv g σ a w) (C : CfgOK P c) (hN : c.N = N) (hF : WideF F) {K : Act → World → Prop} {Q : Exit → Act → World → Prop} (hK : ∀ g' σ' a' w', k σ' = some res → Rel P base w0 S0 N D sv g' σ' a' w' → K a' w') {t : TypeId} {x i : Operand}
    (hop : o.op = .mapEntry t x i) (hs : mapEntW c o σ t x i k = some res) : o.wpIn F n P a w K Q := by
  unfold mapEntW at hs
  obtain ⟨id, ag, κ, τ, l, ck, key, te, kt, e, b, q, es, hs, hl, hu, hkt, hte, hxv, hkv, hb, hq, hh, ha⟩ := mapW_ok h C hs
  obtain ⟨d, hd⟩ := keyT_d hkt
  have hik := keyV_is hkt hd hkv
  rcases mgetK_ok hs with ⟨j, xe, h1, h2, h3, hs⟩ | ⟨h1, hs⟩
  · obtain ⟨y, hy, hs⟩ := ocase_some hs
    rcases findNow_ok hkt hd hkv 0 ha with ⟨j', xe', e', g1, g2, g3, g4, g5⟩ | ⟨g1, g2⟩
    · have ej : j = j' := by
        rcases Nat.lt_trichotomy j j' with hlt | hlt | hlt
        · have := g4 j xe hlt h1; rw [h2] at this; cases this
        · exact hlt
        · have := h3 j' xe' hlt g1; rw [g3] at this; cases this
      subst ej
      rw [h1] at g1; cases g1
      have hxe := ha.get_both h1 g2
      have hsame := key_same hkt hkv hxe.1 h2
      have g2' : es[j]? = some e' := by simpa using g2
      obtain ⟨hk1, hborn, y', hy', hv⟩ := hxe
      rw [hy] at hy'; cases hy'
      have hR := h.setMap (es' := es.modify j fun e => { e with key := a.eval i }) (l' := l) (ck' := ck) hl hb hq hh (by
        rw [modify_toList g2]
        have e9 : l = l.set j xe := by
          obtain ⟨hj, e⟩ := List.getElem?_eq_some_iff.1 h1
          rw [← e]; simp
        rw [e9]
        refine ha.set (a := xe) (b := { e' with key := a.eval i }) ?_ j
        exact ⟨by rw [← hsame]; exact hk1, hborn, y, hy, hv⟩)
      have hR2 : Rel P base w0 S0 N D sv g σ a { w with heap := w.heap.setIfInBounds q (.map (es.modify j fun e => { e with key := a.eval i }) ck) } := by
        have e : ∀ i, look i (σ.set id (.map ag κ τ l ck)).mem = look i σ.mem := fun i => by
          simp only [St.set, look_cons]
          split
          · rename_i e; subst e; exact hl.symm
          · rfl
        exact { regs := hR.regs, size := hR.size, dfr := hR.dfr, glo := hR.glo, lp := fun i z b h1 => hR.lp i z b (by rw [e]; exact h1), mem := fun i z hz => hR.mem i z (by rw [e]; exact hz), inj := fun i i' z z' b b' q h1 h2 => hR.inj i i' z z' b b' q (by rw [e]; exact h1) (by rw [e]; exact h2), own := fun i z b q h1 => hR.own i z b q (by rw [e]; exact h1), S := hR.S, blk := hR.blk, nx := hR.nx, bel := hR.bel, bs := hR.bs, sub := hR.sub }
      have hv2 : AVR g { w with heap := w.heap.setIfInBounds q (.map (es.modify j fun e => { e with key := a.eval i }) ck) } (.tup [y, .one (.int .i64 xe.2.2)]) (.tuple #[e'.val, .int .i64 xe.2.2]) := by
        have hown := h.own id _ b q hl rfl hb hq
        exact ⟨[e'.val, .int .i64 xe.2.2], rfl, .cons (hv.mono (fun j hj => (heap_set hh).2 j (fun e => by subst e; exact hown.2 hj)) (Gh.le.refl g)) (.cons (VA.int _ _) .nil)⟩
      obtain ⟨σ2, hk2, h2⟩ := hR2.put hN hv2 hs
      refine wpIn_of_run hF (by simp [hop]) ?_ (hK _ _ _ _ hk2 h2)
      have e0 := run_findKey (P := P) (w := w) hd (l := es.toList) g5
      simp [execOp, hop, Instr.mapEntry, hxv, run_underlying hu, Go.MapKept.run_getObj_map hh, Go.MapKept.run_checkKey hd hik, e0, g2', hsame, run_keyThatStays hik, run_setObj_map _ hh, Result.andThen, hborn, goInt]
    · exact absurd (g1 xe (List.mem_of_getElem? h1)) (by rw [h2]; simp)
  · rcases findNow_ok hkt hd hkv 0 ha with ⟨j', xe', e', g1, g2, g3, g4, g5⟩ | ⟨g1, g2⟩
    · exact absurd (h1 xe' (List.mem_of_getElem? g1)) (by rw [g3]; simp)
    · split at hs
      · rename_i hag
        obtain ⟨z, hz, hs⟩ := ocase_some hs
        obtain ⟨i2, d2, T2⟩ := C.ts e te hte
        obtain ⟨zv, hzv, -, hzr⟩ := T2.zero
        obtain ⟨y', hy', hyr⟩ := V1.recell hag (hzr g w) hz
        have hR := h.setMap (es' := es.push { key := a.eval i, val := zv, born := ck }) (l' := l ++ [(key, z, ck)]) (ck' := ck + 1) hl hb hq hh (by
          rw [Array.toList_push]
          exact ha.push ⟨hkv, rfl, y', hy', hyr⟩)
        obtain ⟨σ2, hk2, h2⟩ := hR.put hN (x := .tup [te.zero, .one (.int .i64 ck)]) (v := .tuple #[zv, .int .i64 ck]) ⟨[zv, .int .i64 ck], rfl, .cons (hzr _ _) (.cons (VA.int _ _) .nil)⟩ hs
        refine wpIn_of_run hF (by simp [hop]) ?_ (hK _ _ _ _ hk2 h2)
        have e0 := run_findKey (P := P) (w := w) hd (l := es.toList) g2
        have ez : (zeroValue e).run P w = .ok zv w := by simp [zeroValue, typeInfo, T2.info, hzv]
        simp [execOp, hop, Instr.mapEntry, hxv, run_underlying hu, Go.MapKept.run_getObj_map hh, Go.MapKept.run_checkKey hd hik, e0, ez, run_setObj_map _ hh, Result.andThen, goInt]
      · simp at hs
theorem mstL_ok {ag : Bool} {κ τ : Ty} {bn : Int} {v : τ.T} {vv : Value} : ∀ {l l' : List (κ.T × τ.T × Nat)} {es : List MapEntry}, mstL bn v l = some l' → All2 (EntR g w ag) l es → (∃ y, V1.ofCells ag (τ.enc v) = some y ∧ V1R g w y vv) →
    ∃ j, es.findIdx? (fun e => (e.born : Int) == bn) = some j ∧ ∃ e, es[j]? = some e ∧ All2 (EntR g w ag) l' (es.set j { e with val := vv })
  | [], l', es, h, _, _ => by simp [mstL] at h
  | x :: l, l', _, h, .cons (b := e) (m := es) hx ht, hv => by
    simp only [mstL] at h
    split at h
    · rename_i hb
      cases h
      refine ⟨0, ?_, e, rfl, ?_⟩
      · rw [List.findIdx?_cons, hx.2.1, hb]; rfl
      · obtain ⟨y, hy, hr⟩ := hv
        exact .cons ⟨hx.1, hx.2.1, y, hy, hr⟩ ht
    · rename_i hb
      split at h
      · rename_i l2 hl2
        cases h
        obtain ⟨j, h1, e2, h2, h3⟩ := mstL_ok hl2 ht hv
        refine ⟨j + 1, ?_, e2, by simpa using h2, ?_⟩
        · rw [List.findIdx?_cons, hx.2.1, hb, h1]; rfl
        · exact .cons hx h3
      · cases h
theorem w_entSt (h : Rel P base w0 S0 N D sv g σ a w) (C : CfgOK P c) (hN : c.N = N) (hF : WideF F) {K : Act → World → Prop} {Q : Exit → Act → World → Prop} (hK : ∀ g' σ' a' w', k σ' = some res → Rel P base w0 S0 N D sv g' σ' a' w' → K a' w') {t : TypeId} {x s v : Operand}
    (hop : o.op = .entryStore t x s v) (hs : entStW c o σ t x s v k = some res) : o.wpIn F n P a w K Q := by
  unfold entStW at hs
  have E := h.env C [x, s, v]
  split at hs
  · rename_i id κ0 bn y hx hsv hy
    split at hs
    · rename_i ag κ τ l ck hl
      split at hs
      · rename_i z hag hz
        obtain ⟨l', hl', hs⟩ := ocase_some hs
        obtain ⟨b, hb, q, es, hq, hh, ha⟩ := h.mem id _ hl
        have hxv : a.eval x = .map (some q) := by
          have := E.evA (by simp) hx
          generalize a.eval x = u at this ⊢
          cases this with
          | mapr _ b' k' hm hk' => rw [hb] at hm; cases hm; rw [hq] at hk'; cases hk'; rfl
        have hsv' : a.eval s = .int κ0 bn := by
          have := E.evA (by simp) hsv
          generalize a.eval s = u at this ⊢
          cases this; rfl
        obtain ⟨y', hy', hyr⟩ := V1.recell hag (E.evV (by simp) hy) hz
        obtain ⟨j, h1, e, h2, h3⟩ := mstL_ok hl' ha ⟨y', hy', hyr⟩
        have hR := h.setMap (es' := es.modify j fun e => { e with val := a.eval v }) (l' := l') (ck' := ck) hl hb hq hh (by rw [modify_toList h2]; exact h3)
        obtain ⟨σ2, hk2, h2⟩ := hR.put hN (x := .undef) (v := undef) rfl hs
        refine wpIn_of_skip hF (by simp [hop]) ?_ (hK _ _ _ _ hk2 h2)
        have hf : es.findIdx? (fun e => (e.born : Int) == bn) = some j := by rw [← Array.toArray_toList (xs := es), List.findIdx?_toArray]; exact h1
        simp [execOp, hop, Instr.entryStore, hxv, hsv', asInt, asIntOf, Go.MapKept.run_getObj_map hh, hf, run_setObj_map _ hh, Result.andThen]
      · simp at hs
    · simp at hs
  · simp at hs
end
end Go.Eng
set_option linter.unusedSimpArgs false
set_option linter.unusedVariables false
set_option linter.unnecessarySimpa false
namespace Go.Eng
open Go Go.RowKit
section
variable {P : Program} [GlobL P] {F : Fence} {n : Nat} {c : Cfg} {g g' : Gh} {r : Regs} {m : Mem} {a : Act} {w w' : World} {o : Oper} {R : Type} {k : St → Option R} {res : R} {xs : List Operand}
variable {base : Nat} {w0 : World} {S0 : Nat → Prop} {N : Nat} {D : Wt} {sv : Nat → Value} {σ : St}
theorem viewAt_rows {x : At} {kk : At → Option R} (h : viewAt m x kk = some res) : (∃ y, kk y = some res) ∧ ∀ i ∈ ownsAt x, ∃ τ l, look i m = some (.row τ l) := by
  cases x <;> simp only [viewAt, reduceCtorEq] at h
  case own id =>
    simp only [listOf] at h
    split at h
    · rename_i τ l hl
      exact ⟨⟨_, h⟩, fun i hi => by simp [ownsAt] at hi; subst hi; exact ⟨τ, l, hl⟩⟩
    · simp at h
  case sub id off len =>
    simp only [listOf] at h
    split at h
    · rename_i τ l hl
      split at h
      · exact ⟨⟨_, h⟩, fun i hi => by simp [ownsAt] at hi; subst hi; exact ⟨τ, l, hl⟩⟩
      · simp at h
    · simp at h
  all_goals exact ⟨⟨_, h⟩, fun i hi => by simp [ownsAt] at hi⟩
theorem viewL_rows : ∀ {l : List At} {kk : List At → Option R}, viewL m l kk = some res → (∃ y, kk y = some res) ∧ ∀ i ∈ ownsL l, ∃ τ l, look i m = some (.row τ l)
  | [], kk, h => ⟨⟨_, h⟩, fun i hi => by simp [ownsL] at hi⟩
  | x :: l, kk, h => by
    simp only [viewL] at h
    obtain ⟨⟨y, h1⟩, h2⟩ := viewAt_rows h
    obtain ⟨⟨y', h3⟩, h4⟩ := viewL_rows h1
    refine ⟨⟨_, h3⟩, fun i hi => ?_⟩
    simp only [ownsL, List.mem_append] at hi
    rcases hi with hi | hi
    · exact h2 i hi
    · exact h4 i hi
theorem viewVs_rows : ∀ {l : List AV} {kk : List AV → Option R}, viewVs m l kk = some res → (∃ y, kk y = some res) ∧ ∀ i ∈ ownsVs l, ∃ τ l, look i m = some (.row τ l)
  | [], kk, h => ⟨⟨_, h⟩, fun i hi => by simp [ownsVs] at hi⟩
  | x :: l, kk, h => by
    simp only [viewVs] at h
    unfold viewV at h
    split at h
    · obtain ⟨⟨y, h1⟩, h2⟩ := viewAt_rows h
      obtain ⟨⟨y', h3⟩, h4⟩ := viewVs_rows h1
      refine ⟨⟨_, h3⟩, fun i hi => ?_⟩
      simp only [ownsVs, List.mem_append] at hi
      rcases hi with hi | hi
      · exact h2 i hi
      · exact h4 i hi
    · obtain ⟨⟨y, h1⟩, h2⟩ := viewL_rows h
      obtain ⟨⟨y', h3⟩, h4⟩ := viewVs_rows h1
      refine ⟨⟨_, h3⟩, fun i hi => ?_⟩
      simp only [ownsVs, List.mem_append] at hi
      rcases hi with hi | hi
      · exact h2 i hi
      · exact h4 i hi
    · simp at h
theorem stepCall_ok (h : Rel P base w0 S0 N D sv g σ a w) (C : CfgOK P c) (hN : c.N = N) (hF : WideF F) {K : Act → World → Prop} {Q : Exit → Act → World → Prop} (hK : ∀ g' σ' a' w', k σ' = some res → Rel P base w0 S0 N D sv g' σ' a' w' → K a' w') {f : Operand} {args : Array Operand} {ts : Array TypeId}
    (hop : o.op = .call { callee := .value f, args, argTypes := ts }) (hs : stepCall c o f args ts σ k = some res) : o.wpIn F n P a w K Q := by
  unfold stepCall at hs
  split at hs
  · rename_i nn as hn has
    split at hs
    · rename_i s hsp
      obtain ⟨y, hy, hcall⟩ := call_ok (n := n) (h.env C (f :: args.toList)) hF (by simp) (fun x hx => by simp [hx]) hop hn has (C.sp _ _ hsp) hs
      split at hy
      · rename_i hfl
        refine hcall K Q (fun q => q < w.heap.size) ⟨h.S, fun id b q _ hb hq => h.blk id b q hb hq⟩ (fun q h => h) (h.glo.mono (Holds.refl _ _) h.S) fun v w' hb hv => ?_
        obtain ⟨σ2, hk, h2⟩ := (h.grow hb).put hN (x := y) (hv.flat hfl) hy
        exact hK _ _ _ _ hk h2
      · obtain ⟨g1, σ1, h1, hr, hle, hfr⟩ := h.freezeAll hy
        have hrows := (viewVs_rows hs).2
        refine hcall K Q g1.S ⟨hle.S, fun id b q hi hb hq => ?_⟩ hr.S (hr.glo.mono (Holds.refl _ _) fun _ h => h) fun v w' hb hv => ?_
        · obtain ⟨τ, l, hl⟩ := hrows id hi
          rcases hfr id τ l hl with hS | ⟨hn, _⟩
          · exact hS b q hb hq
          · exact absurd hi hn
        · obtain ⟨σ2, hk, h2⟩ := (hr.grow hb).put hN (x := y) (hv.mono (Holds.refl _ _) ⟨fun _ h => h, fun _ _ h => by cases h⟩) h1
          exact hK _ _ _ _ hk h2
    · simp at hs
  · simp at hs
theorem flat_enc {τ : Ty} (hf : τ.flat = true) : ∀ (x : τ.T) (j : Nat) (y : At), (τ.enc x)[j]? = some y → flatAt y = true := by
  intro x j y h
  cases τ <;> simp [Ty.flat] at hf <;> simp only [Ty.enc] at h <;>
    (have hm := List.mem_of_getElem? h; simp at hm; (try rcases hm with rfl | hm) <;> (try rcases hm with rfl | hm) <;> (try rcases hm with rfl | hm) <;> (try rcases hm with rfl | hm) <;> (try subst hm) <;> rfl)
theorem VA.flat1 {g g' : Gh} {w w' : World} {x : At} {v : Value} (h : VA g w x v) (hp : flatAt x = true) : VA g' w' x v := V1R.flat (x := .one x) h hp
theorem flatL_of : ∀ {l : List At}, (∀ y ∈ l, flatAt y = true) → flatL l = true
  | [], _ => rfl
  | x :: l, h => by simp only [flatL, h x (by simp)]; exact flatL_of fun y hy => h y (by simp [hy])
theorem V1.ofCells_flat {ag : Bool} {l : List At} {y : V1} (h : V1.ofCells ag l = some y) (hl : ∀ y ∈ l, flatAt y = true) : flatV1 y = true := by
  unfold V1.ofCells at h
  split at h
  · cases h; exact flatL_of hl
  · cases h; exact hl _ (by simp)
  · cases h
theorem BR.flat {g g' : Gh} {b : Gb} {x : AB} (h : BR P g w b x) (hf : flatB x = true) : BR P g' w b x := by
  cases x <;> simp only [flatB, Bool.false_eq_true] at hf
  case row τ l =>
    obtain ⟨h1, h2, h3⟩ := h
    refine ⟨h1, h2, ?_⟩
    rcases h3 with h3 | ⟨k, cs, e, hb, hh, hs, hl, ho, ha⟩
    · exact .inl h3
    · exact .inr ⟨k, cs, e, hb, hh, hs, hl, ho, fun i x j y hx hy => let ⟨v, hv, ha'⟩ := ha i x j y hx hy; ⟨v, hv, ha'.flat1 (flat_enc hf x j y hy)⟩⟩
  case map ag κ τ l ck =>
    obtain ⟨k, es, hb, hh, ha⟩ := h
    refine ⟨k, es, hb, hh, ha.mono fun x e k => k.of fun y v hy hv => V1R.flat hv (V1.ofCells_flat hy fun z hz => ?_)⟩
    obtain ⟨j, hj⟩ := List.getElem?_of_mem hz
    exact flat_enc hf _ j z hj
theorem effF_some {f : Operand} {args : Array Operand} {ts : Array TypeId} {r : Regs} {m : Mem} {nx : Nat} {kk : At → AB → Option R} (h : effF c f args ts r m nx kk = some res) :
    ∃ (nn : Nat) (as as' : List AV) (s : FSpec) (x : s.X) (ab : AB) (y : At), calleeOf c r f = some nn ∧ evArgs c r args.toList ts.toList = some as ∧ look nn c.fresh = some s ∧ (∀ {R' : Type} (k' : List AV → Option R'), viewVs m as k' = k' as') ∧
      s.pat as' = some x ∧ s.f x = some ab ∧ frAt nx ab = some y ∧ (flatB ab = true ∨ ownsVs as = []) ∧ kk y ab = some res := by
  unfold effF at h
  split at h
  · rename_i nn as hn has
    split at h
    · rename_i s hs
      obtain ⟨as', hu⟩ := viewVs_one h
      rw [hu] at h
      unfold freshQ at h
      split at h
      · rename_i x hx
        obtain ⟨ab, hab, h⟩ := ocase_some h
        split at h
        · rename_i y hy
          simp only at h
          split at h
          · rename_i hc
            rw [Bool.or_eq_true] at hc
            exact ⟨nn, as, as', s, x, s.enc ab, y, hn, has, hs, hu, hx, (by unfold FSpec.f; rw [hab]), hy, hc.imp id (fun h => by simpa using h), h⟩
          · cases h
        · cases h
      · cases h
    · cases h
  · cases h
theorem frAt_va {g' : Gh} {ab : AB} {b : Gb} {y y0 : At} {v : Value} {id : Nat} (h0 : frAt 0 ab = some y0) (h1 : frAt id ab = some y) (hv : VA ⟨fun _ => False, fun i => if i = 0 then some b else none⟩ w y0 v) (hm : g'.m id = some b) : VA g' w y v := by
  cases ab <;> simp only [frAt, reduceCtorEq, Option.some.injEq] at h0 h1
  case row τ l =>
    subst h0; subst h1
    cases hv with
    | own _ b' a hm' hk h0 => simp at hm'; subst hm'; exact .own id b a hm hk h0
  case map ag κ τ l ck =>
    subst h0; subst h1
    cases hv with
    | mapr _ b' k hm' hk => simp at hm'; subst hm'; exact .mapr id b k hm hk
theorem stepFresh_ok (h : Rel P base w0 S0 N D sv g σ a w) (C : CfgOK P c) (hN : c.N = N) (hF : WideF F) {K : Act → World → Prop} {Q : Exit → Act → World → Prop} (hK : ∀ g' σ' a' w', k σ' = some res → Rel P base w0 S0 N D sv g' σ' a' w' → K a' w') {f : Operand} {args : Array Operand} {ts : Array TypeId}
    (hop : o.op = .call { callee := .value f, args, argTypes := ts }) (hs : stepFresh c o f args ts σ k = some res) : o.wpIn F n P a w K Q := by
  obtain ⟨nn, as, as', s, x, ab, y, hn, has, hsp, hu, hx, hab, hy, hc, hk⟩ := effF_some hs
  have E := h.env C (f :: args.toList)
  have hal := evArgs_ok E (fun x hx => by simp [hx]) has
  have hfv : a.eval f = .func (.func nn) #[] #[] := by
    unfold calleeOf at hn
    split at hn
    · rename_i q hq
      cases hn
      have := E.ev f (by simp) _ _ hq
      generalize a.eval f = u at this ⊢
      cases this; rfl
    · simp at hn
  have FO := C.fr nn s hsp
  obtain ⟨S, hS, hSb, hSg, hSf⟩ : ∃ S, Sees g (ownsVs as) S ∧ (∀ q, S q → q < w.heap.size) ∧ GlobR P ⟨S, fun _ => none⟩ w ∧ (flatB ab = true ∨ ∀ q, S q → g.S q) := by
    rcases hc with hc | hc
    · exact ⟨fun q => q < w.heap.size, ⟨h.S, fun id b q _ hb hq => h.blk id b q hb hq⟩, fun q h => h, h.glo.mono (Holds.refl _ _) h.S, .inl hc⟩
    · exact ⟨g.S, ⟨fun _ h => h, fun id b q hi => by rw [hc] at hi; simp at hi⟩, h.S, h.glo.mono (Holds.refl _ _) fun _ h => h, .inr fun _ h => h⟩
  obtain ⟨as2, h2, hav⟩ := viewVs_ok (R := List AV) (res := as') (kk := some) E.mem hal hS (hu some)
  cases h2
  have hcalls := FO.calls S w as' _ x ab hSb hSg hav hx hab
  have e : (args.toList.map a.eval).toArray = args.map a.eval := by apply Array.ext'; simp
  rw [e] at hcalls
  refine ⟨fun f _ => hF.fn f, ?_⟩
  rw [Oper.semAt_eq _ _ _ (by simp [hop]), run_call hop hfv FO.enters]
  refine ⟨fun hd => (by rw [hF.depth] at hd; cases hd), ?_⟩
  refine (callsIn_of_calls hF hcalls).mono ?_
  rintro e w' ⟨v, rfl, hb, b, hbq, hlive, hloop, hbr, y0, hy0, hva⟩
  have hR := h.newX (Nat.le_refl σ.nx) (b := b) (x := ab) (fun k => w.heap.size ≤ k ∧ k < w'.heap.size ∧ b.blk ≠ some k) (fun k hk => hk) hb (by
    rcases hSf with hfl | hSs
    · exact hbr.flat hfl
    · exact hbr.mono (Holds.refl _ _) (fun _ _ => rfl) ⟨fun q hq => hq.imp (hSs q) id, fun _ _ h => by cases h⟩) hbq (fun hl => by rw [hloop] at hl; cases hl)
  obtain ⟨σ2, hk2, h3⟩ := hR.put hN (x := .one y) (frAt_va hy0 hy hva (by simp [Gh.set])) hk
  exact hK _ _ _ _ hk2 h3
theorem stepQ_ok (h : Rel P base w0 S0 N D sv g σ a w) (C : CfgOK P c) (hN : c.N = N) (hF : WideF F) {K : Act → World → Prop} {Q : Exit → Act → World → Prop} (hK : ∀ g' σ' a' w', k σ' = some res → Rel P base w0 S0 N D sv g' σ' a' w' → K a' w')
    (hs : evalQ c σ.regs σ.mem o (fun v => σ.put c o.dst v k) = some res) : o.wpIn F n P a w K Q := by
  obtain ⟨y, hy, hq⟩ := evalQ_ok (n := n) (h.env C o.op.operands.toList) hF (fun _ h => h) hs
  refine hq K Q fun v w' hb hv => ?_
  obtain ⟨σ2, hk, h2⟩ := (h.grow hb).put hN (x := y) hv hy
  exact hK _ _ _ _ hk h2
theorem both_some {x y : Option R} (h : both x y = some res) : x = some res ∧ y = some res := by
  unfold both at h
  split at h
  · rename_i e; exact ⟨h, e ▸ h⟩
  · cases h
theorem nilW_some {p : At} {v : Value} {kk : Bool → Option R} (hv : VA g w p v) (h : nilW p kk = some res) : ∃ ad n cp, v = .slice ad n cp ∧ kk ad.isNone = some res := by
  cases p <;> simp only [nilW, reduceCtorEq] at h
  case sl τ l =>
    cases hv with
    | sl _ _ ad n cp bk of f hn hc ha hcell hf =>
      refine ⟨ad, n, cp, rfl, ?_⟩
      rcases bcase_some h with ⟨hb, h⟩ | ⟨hb, h⟩
      · obtain ⟨h1, h2⟩ := both_some h
        cases ad.isNone
        · exact h2
        · exact h1
      · have : l ≠ [] := by intro e; subst e; simp at hb
        rw [(ha this).1]; exact h
  case clip τ l =>
    cases hv with
    | clip _ _ ad n bk of f hn ha hcell hf =>
      refine ⟨ad, n, n, rfl, ?_⟩
      rcases bcase_some h with ⟨hb, h⟩ | ⟨hb, h⟩
      · obtain ⟨h1, h2⟩ := both_some h
        cases ad.isNone
        · exact h2
        · exact h1
      · have : l ≠ [] := by intro e; subst e; simp at hb
        rw [(ha this).1]; exact h
theorem w_nil (h : Rel P base w0 S0 N D sv g σ a w) (C : CfgOK P c) (hN : c.N = N) (hF : WideF F) {K : Act → World → Prop} {Q : Exit → Act → World → Prop} (hK : ∀ g' σ' a' w', k σ' = some res → Rel P base w0 S0 N D sv g' σ' a' w' → K a' w') {op : BinOp} {t t' : TypeId} {x y : Operand} {p : At}
    (hs : (match op with
      | .eql => nilW p fun b => σ.put c o.dst (.one (.bool b)) k
      | .neq => nilW p fun b => σ.put c o.dst (.one (.bool (!b))) k
      | _ => none) = some res)
    (hop : o.op = .binOp op t x y t') (hy : isNilC y = true) {ti : TI} {τ : Ty} {e : TypeId} (hti : c.ti t = some ti) (hk : ti.k = .slice τ e) (hx : evA c σ.regs t x = some p) : o.wpIn F n P a w K Q := by
  have E := h.env C [x]
  have hv := E.evA (by simp) hx
  obtain ⟨i, d, T⟩ := C.ts _ _ hti
  have hu : ∃ e', P.underlying t = some (.slice e') := by
    have h1 := T.k
    rw [hk] at h1
    have h2 := T.und
    cases d <;> simp [tkB] at h1
    exact ⟨_, h2⟩
  obtain ⟨e', hu⟩ := hu
  have hyv : a.eval y = .slice none 0 0 := by
    unfold isNilC at hy
    split at hy
    · rfl
    · cases hy
  cases op <;> simp only [reduceCtorEq] at hs
  case eql =>
    obtain ⟨ad, n1, cp, hxv, hs⟩ := nilW_some hv hs
    obtain ⟨σ2, hk2, hr2⟩ := h.put (v := .bool ad.isNone) hN (x := .one (.bool ad.isNone)) (VA.bool _) hs
    refine wpIn_of_run hF (by simp [hop]) ?_ (hK _ _ _ _ hk2 hr2)
    simp [execOp, hop, hxv, hyv, eqGuard, binOp, Op.equal, Op.maxDepth, Lib.run_equalIn_slice_nil w 9999 t e' ad n1 cp 0 0 hu]
  case neq =>
    obtain ⟨ad, n1, cp, hxv, hs⟩ := nilW_some hv hs
    obtain ⟨σ2, hk2, hr2⟩ := h.put (v := .bool (!ad.isNone)) hN (x := .one (.bool (!ad.isNone))) (VA.bool _) hs
    refine wpIn_of_run hF (by simp [hop]) ?_ (hK _ _ _ _ hk2 hr2)
    simp [execOp, hop, hxv, hyv, eqGuard, binOp, Op.equal, Op.maxDepth, Lib.run_equalIn_slice_nil w 9999 t e' ad n1 cp 0 0 hu]
theorem stepW_ok (h : Rel P base w0 S0 N D sv g σ a w) (C : CfgOK P c) (hN : c.N = N) (hF : WideF F) {K : Act → World → Prop} {Q : Exit → Act → World → Prop} (hK : ∀ g' σ' a' w', k σ' = some res → Rel P base w0 S0 N D sv g' σ' a' w' → K a' w')
    (hs : stepW c o σ k = some res) : o.wpIn F n P a w K Q := by
  unfold stepW at hs
  split at hs
  · rename_i t hop
    split at hs
    · rename_i ti hti
      exact w_alloc h C hN hF hK hop hti hs
    · simp at hs
  · rename_i t x hop
    split at hs
    · rename_i v hv
      exact w_box h C hN hF hK hop hv hs
    · simp at hs
  · rename_i t q parts hop
    obtain ⟨g1, σ1, hs, h1, -, -⟩ := h.freezeAll hs
    split at hs
    · rename_i ag sz z τ e hti
      split at hs
      · rename_i te hte
        split at hs
        · rename_i cells hcells
          split at hcells
          · rename_i hsz
            obtain ⟨l, hl, hp⟩ := ocase_some hs
            exact w_buildSlice h1 C hN hF hK hop hti rfl hte (Nat.le_of_ble_eq_true hsz) hcells hl hp
          · simp at hcells
        · simp at hs
      · simp at hs
    · simp at hs
  · rename_i t x y hop
    split at hs
    · rename_i ag sz z τ e κ p κ' q hti hx hy
      split at hs
      · rename_i te hte
        rcases bcase_some hs with ⟨hb, hs⟩ | ⟨_, hs⟩
        · simp only [decide_eq_true_eq] at hb
          obtain ⟨hlim, hs⟩ := lcase_some hs
          obtain ⟨z0, hz0, hp⟩ := ocase_some hs
          exact w_makeSlice h C hN hF hK hop hti rfl hte hx hy hb.1 hb.2 hlim hz0 hp
        · simp at hs
      · simp at hs
    · simp at hs
  · rename_i t x y hop
    obtain ⟨g1, σ1, hs, h1, -, -⟩ := h.freezeAll hs
    split at hs
    · rename_i p v ti hp hv hti
      split at hs
      · rename_i hsz
        exact w_store h1 C hN hF hK hop hp hv hti hsz hs
      · simp at hs
    · simp at hs
  · rename_i t x hop
    split at hs
    · rename_i ag sz z s hti hx
      exact w_range h C hN hF hK hop hti rfl hx hs
    · simp at hs
  · rename_i t q hop
    exact w_makeMap h C hN hF hK hop hs
  · rename_i t x i ok hop
    exact w_lookup h C hN hF hK hop hs
  · rename_i t x i v hop
    exact w_mapUpd h C hN hF hK (.inl hop) hs
  · rename_i t x i v hop
    exact w_mapUpd h C hN hF hK (.inr hop) hs
  · rename_i t x i hop
    exact w_mapEnt h C hN hF hK hop hs
  · rename_i t x i v hop
    exact w_entSt h C hN hF hK hop hs
  · rename_i x hop
    split at hs
    · rename_i px hx
      exact w_next h C hN hF hK hop hx hs
    · simp at hs
  · rename_i f p q hop
    split at hs
    · rename_i as bs has hbs
      split at hs
      · rename_i as1 bs1 ha1 hb1
        exact w_makeFunc h C hN hF hK hop has hbs ha1 hb1 hs
      · simp at hs
    · simp at hs
  · rename_i op t x y t' hop
    split at hs
    · rename_i ag sz z τ e p hy hti hx
      exact w_nil h C hN hF hK hs hop hy hti rfl hx
    · simp at hs
  · rename_i args argTypes hop
    split at hs
    · rename_i x y t t' hargs hts
      have e1 : args = #[x, y] := by apply Array.ext'; simpa using hargs
      have e2 : argTypes = #[t, t'] := by apply Array.ext'; simpa using hts
      subst e1; subst e2
      split at hs
      · rename_i ag sz z τ e hti htt
        have htt := Nat.eq_of_beq_eq_true htt
        subst htt
        split at hs
        · rename_i te px py hte hx hy
          exact w_append h C hN hF hK hop hti rfl hte hx hy hs
        · simp at hs
      · rename_i ag sz z τ e hti htt
        split at hs
        · rename_i ag1 sz1 z1 κ0 te px κ nn hti' hte hx hy
          obtain ⟨z0, hz0, hs⟩ := ocase_some hs
          exact w_appendMk h C hN hF hK hop hti rfl hte hti' rfl hx hy hz0 hs
        · simp at hs
      · simp at hs
    · simp at hs
  · rename_i args argTypes hop
    split at hs
    · rename_i x t hargs hts
      have e1 : args = #[x] := by apply Array.ext'; simpa using hargs
      have e2 : argTypes = #[t] := by apply Array.ext'; simpa using hts
      subst e1; subst e2
      split at hs
      · rename_i ag sz z τ e px hti hx
        exact w_cap h C hN hF hK hop hti rfl hx hs
      · simp at hs
    · simp at hs
  · rename_i args argTypes hop
    split at hs
    · rename_i x t hargs hts
      have e1 : args = #[x] := by apply Array.ext'; simpa using hargs
      have e2 : argTypes = #[t] := by apply Array.ext'; simpa using hts
      subst e1; subst e2
      split at hs
      · rename_i ag sz z τ e px hti hx
        split at hs
        · rename_i te hte
          exact w_clear h C hN hF hK hop hti rfl hte hx hs
        · simp at hs
      · simp at hs
    · simp at hs
  · rename_i args argTypes hop
    split at hs
    · rename_i x y t t' hargs hts
      have e1 : args = #[x, y] := by apply Array.ext'; simpa using hargs
      have e2 : argTypes = #[t, t'] := by apply Array.ext'; simpa using hts
      subst e1; subst e2
      split at hs
      · rename_i ag sz z τ e hti htt
        have htt := Nat.eq_of_beq_eq_true htt
        subst htt
        split at hs
        · rename_i id off len id2 off2 len2 hx hy
          exact w_copySS h C hN hF hK hop hti rfl hx hy hs
        · rename_i px py _ hx hy
          exact w_copy h C hN hF hK hop hti rfl hx hy hs
        · simp at hs
      · simp at hs
    · simp at hs
  · simp at hs
def HndOK (P : Program) [GlobL P] (H : Hnd R) : Prop :=
  (∀ {base : Nat} {w0 : World} {S0 : Nat → Prop} {N : Nat} {D : Wt} {sv : Nat → Value} {g : Gh} {σ : St} {a : Act} {w : World} {res : R} {dst : Option Nat} {f : Nat} {as : List AV} {kk : AV → St → Option R} {vs : List Value},
    Rel P base w0 S0 N D sv g σ a w → All2 (AVR g w) as vs → f < OFF → H dst f as σ kk = some res →
    (∀ args w, (callFunc f args).run P w = .ok (.enter f args) w) ∧ Calls P f vs.toArray w fun e w' => ∃ v x g' σ', e = .returned v ∧ kk x σ' = some res ∧ Rel P base w0 S0 N D sv g' σ' a w' ∧ AVR g' w' x v) ∧
  (∀ {base : Nat} {w0 : World} {S0 : Nat → Prop} {N : Nat} {D : Wt} {sv : Nat → Value} {g : Gh} {σ : St} {a : Act} {w : World} {res : R} {dst : Option Nat} {id : Nat} {as : List AV} {kk : AV → St → Option R} {vs : List Value} {b : Gb} {l : Nat},
    Rel P base w0 S0 N D sv g σ a w → All2 (AVR g w) as vs → g.m id = some b → b.blk = some l → H dst (OFF + id) as σ kk = some res →
    ∃ fn tmps assign body, (Instr.yield l vs.toArray).run P w = .ok (.round l fn tmps assign body) w ∧ ∀ (F : Fence) (n : Nat), WideF F → RoundIn F n P l fn tmps assign body w fun e w' => ∃ v x g' σ', e = .returned v ∧ kk x σ' = some res ∧ Rel P base w0 S0 N D sv g' σ' a w' ∧ AVR g' w' x v)
theorem run_callC {f : Operand} {args : Array Operand} {ts : Array TypeId} {nn : Nat} {fs cs : Array Value} (hop : o.op = .call { callee := .value f, args, argTypes := ts }) (hf : a.eval f = .func (.func nn) fs cs) (he : ∀ args w, (callFunc nn args).run P w = .ok (.enter nn args) w) :
    (execOp a.eval o).run P w = .ok (.enter nn (fs ++ args.map a.eval ++ cs)) w := by
  simp [execOp, hop, resolve, hf, Deferred.ofValue, invoke, he]
theorem ones_av {l : List At} {vs : List Value} (h : All2 (VA g w) l vs) : All2 (AVR g w) (l.map AV.one) vs := by
  induction h with
  | nil => exact .nil
  | cons h _ ih => exact .cons h ih
theorem own_block (h : Rel P base w0 S0 N D sv g σ a w) {x : At} {v : Value} {i : Nat} {τ : Ty} {l : List τ.T} (hv : VA g w x v) (hi : ownsAt x = [i]) (hl : look i σ.mem = some (.row τ l)) (hne : 0 < l.length) :
    ∃ ad len cap, v = .slice ad len cap ∧ (len = 0 ∨ ∃ q of cs e b, ad = some ⟨q, of, none⟩ ∧ g.m i = some b ∧ b.blk = some q ∧ w.heap[q]? = some (.cells cs e (0, 0)) ∧ cs.size ≠ 0) := by
  obtain ⟨b, hm, hbr⟩ := h.mem i _ hl
  obtain ⟨g1, g2, g3⟩ := hbr
  rcases g3 with ⟨_, g3, _⟩ | ⟨q, cs, e, hb, hh, hcs, hl', ho, ha⟩
  · subst g3; simp at hne
  have hsz : cs.size ≠ 0 := by
    rw [hcs]
    exact Nat.mul_ne_zero (by omega) (by have := n_pos τ; omega)
  cases x <;> simp [ownsAt] at hi
  case own id =>
    subst hi
    cases hv with
    | own _ b' ad hm' hk h0 =>
      rw [hm] at hm'; cases hm'
      exact ⟨ad, _, _, rfl, .inr ⟨q, 0, cs, e, b, hk q hb, hm, hb, hh, hsz⟩⟩
  case sub id off len =>
    subst hi
    cases hv with
    | sub _ _ _ b' ad cc hm' hl2 hc hk =>
      rw [hm] at hm'; cases hm'
      refine ⟨ad, _, _, rfl, ?_⟩
      by_cases h0 : len = 0
      · exact .inl h0
      · obtain ⟨k', hk', had⟩ := hk (by omega)
        have : k' = q := by rw [hb] at hk'; exact (Option.some.inj hk').symm
        subst this
        exact .inr ⟨k', _, cs, e, b, had, hm, hb, hh, hsz⟩
theorem w_apart (h : Rel P base w0 S0 N D sv g σ a w) (C : CfgOK P c) (hN : c.N = N) (hF : WideF F) {K : Act → World → Prop} {Q : Exit → Act → World → Prop} (hK : ∀ g' σ' a' w', k σ' = some res → Rel P base w0 S0 N D sv g' σ' a' w' → K a' w') {f : Operand} {args : Array Operand} {ts : Array TypeId} {nn : Nat}
    (hop : o.op = .call { callee := .value f, args, argTypes := ts }) (hov : OvlOK P nn) (hfv : a.eval f = .func (.func nn) #[] #[]) {x y : At} (hal : All2 (AVR g w) [.v (.one x), .v (.one y)] (args.toList.map a.eval)) (hs : apart σ.mem x y (σ.put c o.dst (.one (.bool false)) k) = some res) : o.wpIn F n P a w K Q := by
  unfold apart at hs
  split at hs
  · rename_i i j hi hj
    split at hs
    · rename_i τ l τ' l' hij hl hl'
      rcases bcase_some hs with ⟨h1, hs⟩ | ⟨_, hs⟩
      rotate_left
      · simp at hs
      rcases bcase_some hs with ⟨h2, hs⟩ | ⟨_, hs⟩
      rotate_left
      · simp at hs
      have h1 : 0 < l.length := Nat.le_of_ble_eq_true h1
      have h2 : 0 < l'.length := Nat.le_of_ble_eq_true h2
      have hne : i ≠ j := fun e => by subst e; simp at hij
      generalize hargs : args.toList.map a.eval = vs at hal
      cases hal with
      | cons hv1 ht =>
        cases ht with
        | cons hv2 ht =>
          cases ht
          rename_i v1 v2
          obtain ⟨ad, len, cap, rfl, hc1⟩ := own_block h hv1 hi hl h1
          obtain ⟨ad2, len2, cap2, rfl, hc2⟩ := own_block h hv2 hj hl' h2
          have hrun := hov w ad ad2 len cap len2 cap2 (by
            rcases hc1 with hc1 | ⟨q, of, cs, e, b, e1, e2, e3, e4, e5⟩
            · exact .inl hc1
            · rcases hc2 with hc2 | ⟨q2, of2, cs2, e0, b2, f1, f2, f3, f4, f5⟩
              · exact .inr (.inl hc2)
              · refine .inr (.inr ⟨q, q2, of, of2, cs, cs2, e, e0, e1, f1, fun e9 => ?_, e4, f4, f5⟩)
                subst e9
                exact hne (h.inj i j _ _ b b2 q hl hl' rfl rfl e2 f2 e3 f3))
          have e : args.map a.eval = #[.slice ad len cap, .slice ad2 len2 cap2] := by
            apply Array.ext'; simpa using hargs
          obtain ⟨σ2, hk2, hr2⟩ := h.put (v := .bool false) hN (x := .one (.bool false)) (VA.bool _) hs
          refine wpIn_of_run hF (by simp [hop]) ?_ (hK _ _ _ _ hk2 hr2)
          simp [execOp, hop, resolve, hfv, Deferred.ofValue, invoke, e, hrun]
    · simp at hs
  · simp at hs
theorem stepInl_ok {H : Hnd R} (hH : HndOK P H) (h : Rel P base w0 S0 N D sv g σ a w) (C : CfgOK P c) (hN : c.N = N) (hF : WideF F) {K : Act → World → Prop} {Q : Exit → Act → World → Prop} (hK : ∀ g' σ' a' w', k σ' = some res → Rel P base w0 S0 N D sv g' σ' a' w' → K a' w') {f : Operand} {args : Array Operand} {ts : Array TypeId}
    (hop : o.op = .call { callee := .value f, args, argTypes := ts }) (hs : stepInl H c o f args ts σ k = some res) : o.wpIn F n P a w K Q := by
  have E := h.env C (f :: args.toList)
  unfold stepInl at hs
  split at hs
  · rename_i nn as hf has
    have hal := evArgs_ok E (fun x hx => by simp [hx]) has
    have hfv : a.eval f = .func (.func nn) #[] #[] := by
      have := E.evA (by simp) hf
      generalize a.eval f = u at this ⊢
      cases this; rfl
    split at hs
    · rename_i hov
      split at hs
      · rename_i x y
        exact w_apart h C hN hF hK hop (C.ovl _ hov) hfv hal hs
      · simp at hs
    split at hs
    rotate_left
    · simp at hs
    rename_i hlt
    obtain ⟨h1, h2⟩ := hH.1 h hal (Nat.le_of_ble_eq_true hlt) hs
    have e : (args.toList.map a.eval).toArray = args.map a.eval := by apply Array.ext'; simp
    rw [e] at h2
    refine ⟨fun f _ => hF.fn f, ?_⟩
    rw [Oper.semAt_eq _ _ _ (by simp [hop]), run_call hop hfv h1]
    refine ⟨fun hd => (by rw [hF.depth] at hd; cases hd), ?_⟩
    refine (callsIn_of_calls hF h2).mono ?_
    rintro e w' ⟨v, x, g', σ', rfl, hk, hr, hv⟩
    obtain ⟨σ2, hk2, h3⟩ := hr.put hN hv hk
    exact hK _ _ _ _ hk2 h3
  · rename_i id as hf has
    split at hs
    · rename_i nn first capt hl
      have hal := evArgs_ok E (fun x hx => by simp [hx]) has
      split at hs
      rotate_left
      · simp at hs
      rename_i hlt
      obtain ⟨b, hm, -, fs, cs, hb, hfs, hcs⟩ := h.mem id _ hl
      have hfv : a.eval f = .func (.func nn) fs cs := by
        have := E.evA (by simp) hf
        generalize a.eval f = u at this ⊢
        cases this with
        | clo _ b' f' fs' cs' hm' hv' =>
          rw [hm] at hm'; cases hm'
          rw [hb] at hv'
          cases hv'; rfl
      obtain ⟨h1, h2⟩ := hH.1 h ((ones_av hfs).append (hal.append (ones_av hcs))) (Nat.le_of_ble_eq_true hlt) hs
      have e : (fs.toList ++ (args.toList.map a.eval ++ cs.toList)).toArray = fs ++ args.map a.eval ++ cs := by apply Array.ext'; simp
      rw [e] at h2
      refine ⟨fun f _ => hF.fn f, ?_⟩
      rw [Oper.semAt_eq _ _ _ (by simp [hop]), run_callC hop hfv h1]
      refine ⟨fun hd => (by rw [hF.depth] at hd; cases hd), ?_⟩
      refine (callsIn_of_calls hF h2).mono ?_
      rintro e w' ⟨v, x, g', σ', rfl, hk, hr, hv⟩
      obtain ⟨σ2, hk2, h3⟩ := hr.put hN hv hk
      exact hK _ _ _ _ hk2 h3
    · simp at hs
  · rename_i id as hf has
    have hal := evArgs_ok E (fun x hx => by simp [hx]) has
    have hfv := E.evA (by simp) hf
    generalize hfe : a.eval f = u at hfv
    cases hfv with
    | yld _ b l hm hb =>
      obtain ⟨fn, tmps, assign, body, hy, hround⟩ := hH.2 h hal hm hb hs
      have e : (args.toList.map a.eval).toArray = args.map a.eval := by apply Array.ext'; simp
      rw [e] at hy
      refine ⟨fun f _ => hF.fn f, ?_⟩
      have hrun : (execOp a.eval o).run P w = .ok (.round l fn tmps assign body) w := by
        simp [execOp, hop, resolve, hfe, Deferred.ofValue, invoke, hy]
      rw [Oper.semAt_eq _ _ _ (by simp [hop]), hrun, Oper.uponIn_round]
      refine ⟨fun hd => (by rw [hF.depth] at hd; cases hd), (hround F _ hF).mono ?_⟩
      rintro e w' ⟨v, x, g', σ', rfl, hk, hr, hv⟩
      obtain ⟨σ2, hk2, h3⟩ := hr.put hN hv hk
      exact hK _ _ _ _ hk2 h3
  · simp at hs
theorem stepV_ok {H : Hnd R} (hH : HndOK P H) (h : Rel P base w0 S0 N D sv g σ a w) (C : CfgOK P c) (hN : c.N = N) (hF : WideF F) {K : Act → World → Prop} {Q : Exit → Act → World → Prop} (hK : ∀ g' σ' a' w', k σ' = some res → Rel P base w0 S0 N D sv g' σ' a' w' → K a' w') {f : Operand} {args : Array Operand} {ts : Array TypeId}
    (hop : o.op = .call { callee := .value f, args, argTypes := ts }) (hs : stepV H c o f args ts σ k = some res) : o.wpIn F n P a w K Q := by
  unfold stepV at hs
  split at hs
  · exact stepFresh_ok h C hN hF hK hop hs
  · exact stepInl_ok hH h C hN hF hK hop hs
theorem stepX_ok {H : Hnd R} (hH : HndOK P H) (h : Rel P base w0 S0 N D sv g σ a w) (C : CfgOK P c) (hN : c.N = N) (hF : WideF F) {K : Act → World → Prop} {Q : Exit → Act → World → Prop} (hK : ∀ g' σ' a' w', k σ' = some res → Rel P base w0 S0 N D sv g' σ' a' w' → K a' w')
    (hs : stepX H c o σ k = some res) : o.wpIn F n P a w K Q := by
  unfold stepX at hs
  split at hs
  · rename_i f args ts hop
    exact stepV_ok hH h C hN hF hK hop hs
  · exact stepW_ok h C hN hF hK hs
theorem stepOp_ok {H : Hnd R} (hH : HndOK P H) (h : Rel P base w0 S0 N D sv g σ a w) (C : CfgOK P c) (hN : c.N = N) (hF : WideF F) {K : Act → World → Prop} {Q : Exit → Act → World → Prop} (hK : ∀ g' σ' a' w', k σ' = some res → Rel P base w0 S0 N D sv g' σ' a' w' → K a' w') {dr : Bool}
    (hs : stepOp H c dr o σ k = some res) : o.wpIn F n P a w K Q := by
  unfold stepOp at hs
  split at hs
  · rename_i f args ts hop
    split at hs
    · exact stepCall_ok h C hN hF hK hop hs
    · exact stepV_ok hH h C hN hF hK hop hs
  · split at hs
    · exact stepQ_ok h C hN hF hK hs
    · exact stepX_ok hH h C hN hF hK hs
end
end Go.Eng
set_option linter.unusedSimpArgs false
set_option linter.unusedVariables false
set_option linter.unnecessarySimpa false
namespace Go.Eng
open Go Go.RowKit
section
variable {R R' : Type} {c : Cfg} {r : Regs} {m : Mem} {o : Oper}
theorem bcase_bind (b : Bool) (x y : Option R) (k : R → Option R') : (bcase b x y).bind k = bcase b (x.bind k) (y.bind k) := by cases b <;> rfl
theorem ocase_bind {α : Type} (x : Option α) (f : α → Option R) (k : R → Option R') : (ocase x f).bind k = ocase x fun y => (f y).bind k := by cases x <;> rfl
theorem lcase_bind (n : Nat) (x : Option R) (k : R → Option R') : (lcase n x).bind k = lcase n (x.bind k) := by unfold lcase; split <;> rfl
theorem listOf_bind (p : At) (f : (τ : Ty) → List τ.T → Option R) (k : R → Option R') : (listOf m p f).bind k = listOf m p fun τ l => (f τ l).bind k := by
  unfold listOf; repeat' split
  all_goals first | rfl | simp_all
theorem cellsAt_bind (p : At) (n : Nat) (f : List At → Option R) (k : R → Option R') : (cellsAt m p n f).bind k = cellsAt m p n fun l => (f l).bind k := by
  unfold cellsAt; repeat' split
  all_goals first | rfl | simp_all [ocase_bind]
theorem viewAt_bind (p : At) (f : At → Option R) (k : R → Option R') : (viewAt m p f).bind k = viewAt m p fun l => (f l).bind k := by
  unfold viewAt; repeat' split
  all_goals first | rfl | simp_all [listOf_bind]
theorem viewL_bind : ∀ (l : List At) (f : List At → Option R) (k : R → Option R'), (viewL m l f).bind k = viewL m l fun l => (f l).bind k
  | [], f, k => rfl
  | x :: l, f, k => by simp only [viewL, viewAt_bind, viewL_bind l]
theorem viewV_bind (p : AV) (f : AV → Option R) (k : R → Option R') : (viewV m p f).bind k = viewV m p fun l => (f l).bind k := by
  unfold viewV; repeat' split
  all_goals first | rfl | simp_all [viewAt_bind, viewL_bind]
theorem viewVs_bind : ∀ (l : List AV) (f : List AV → Option R) (k : R → Option R'), (viewVs m l f).bind k = viewVs m l fun l => (f l).bind k
  | [], f, k => rfl
  | x :: l, f, k => by simp only [viewVs, viewV_bind, viewVs_bind l]
theorem boundsQ_bind (n : Nat) (lo hi : Option Int) (f : Nat → Nat → Option R) (k : R → Option R') : (boundsQ n lo hi f).bind k = boundsQ n lo hi fun a b => (f a b).bind k := by
  unfold boundsQ; repeat' split
  all_goals first | rfl | simp [bcase_bind]
theorem boundsC_bind (cp n : Nat) (lo hi : Option Int) (f : Nat → Nat → Option R) (k : R → Option R') : (boundsC cp n lo hi f).bind k = boundsC cp n lo hi fun a b => (f a b).bind k := by
  unfold boundsC; split <;> exact boundsQ_bind _ _ _ _ _
theorem specQ_bind (s : Spec) (as : List AV) (f : AV → Option R) (k : R → Option R') : (specQ s as f).bind k = specQ s as fun a => (f a).bind k := by
  unfold specQ; split
  · simp [ocase_bind]
  · rfl
theorem intQ_bind (op : BinOp) (κ : IntKind) (a b : Int) (f : AV → Option R) (k : R → Option R') : (intQ op κ a b f).bind k = intQ op κ a b fun a => (f a).bind k := by
  unfold intQ; split <;> first | rfl | simp [bcase_bind]
theorem shiftQ_bind (op : BinOp) (κ : IntKind) (a b : Int) (f : AV → Option R) (k : R → Option R') : (shiftQ op κ a b f).bind k = shiftQ op κ a b fun a => (f a).bind k := by
  unfold shiftQ; split <;> first | rfl | simp [bcase_bind]
theorem strQ_bind (op : BinOp) (a b : Str) (f : AV → Option R) (k : R → Option R') : (strQ op a b f).bind k = strQ op a b fun a => (f a).bind k := by
  unfold strQ; split <;> first | rfl | simp [lcase_bind]
theorem binQ_bind (tb : Bool) (eq : Option (List EK)) (op : BinOp) (x y : AV) (f : AV → Option R) (k : R → Option R') : (binQ tb eq op x y f).bind k = binQ tb eq op x y fun a => (f a).bind k := by
  unfold binQ; repeat' split
  all_goals first | rfl | simp_all [intQ_bind, shiftQ_bind, strQ_bind]
theorem unQ_bind (op : UnOp) (x : AV) (f : AV → Option R) (k : R → Option R') : (unQ op x f).bind k = unQ op x fun a => (f a).bind k := by
  unfold unQ; split <;> rfl
theorem cutQ_bind (τ : Ty) (l : List τ.T) (lo hi mx : Option Int) (f : AV → Option R) (k : R → Option R') : (cutQ τ l lo hi mx f).bind k = cutQ τ l lo hi mx fun a => (f a).bind k := by
  unfold cutQ; split <;> simp [boundsQ_bind, bcase_bind]
theorem clipQ_bind (τ : Ty) (l : List τ.T) (lo hi mx : Option Int) (f : AV → Option R) (k : R → Option R') : (clipQ τ l lo hi mx f).bind k = clipQ τ l lo hi mx fun a => (f a).bind k := by
  unfold clipQ; split <;> simp [cutQ_bind, bcase_bind]
theorem sliceQ_bind (t : TypeId) (x : At) (lo hi mx : Option Operand) (f : AV → Option R) (k : R → Option R') : (sliceQ c r m t x lo hi mx f).bind k = sliceQ c r m t x lo hi mx fun a => (f a).bind k := by
  unfold sliceQ; repeat' split
  all_goals first | rfl | simp_all [boundsQ_bind, boundsC_bind, cutQ_bind, clipQ_bind, bcase_bind]
theorem lenQ_bind (t : TypeId) (x : At) (f : AV → Option R) (k : R → Option R') : (lenQ c m t x f).bind k = lenQ c m t x fun a => (f a).bind k := by
  unfold lenQ; repeat' split
  all_goals first | rfl | simp_all [listOf_bind]
theorem splitK_bind (n : Int) (f : Nat → Option R) (k : R → Option R') : ∀ (m i : Nat), (splitK n m i f).bind k = splitK n m i fun a => (f a).bind k
  | 0, _ => rfl
  | m + 1, i => by simp only [splitK, bcase_bind, splitK_bind n f k m (i + 1)]
theorem idxQ_bind (t : TypeId) (x : At) (n : Int) (f : AV → Option R) (k : R → Option R') : (idxQ c m t x n f).bind k = idxQ c m t x n fun a => (f a).bind k := by
  unfold idxQ; repeat' split
  all_goals first | rfl | simp_all [bcase_bind, ocase_bind, splitK_bind]
theorem evalQ_bind' (f : AV → Option R) (k : R → Option R') : (evalQ c r m o f).bind k = evalQ c r m o fun a => (f a).bind k := by
  unfold evalQ; repeat' split
  all_goals first | rfl | (simp_all [bcase_bind, ocase_bind, cellsAt_bind, idxQ_bind, binQ_bind, unQ_bind, listOf_bind, sliceQ_bind, lenQ_bind, viewVs_bind, specQ_bind]; done) | skip
  rw [viewVs_bind]
  congr 1
  funext as'
  rw [specQ_bind]
  congr 1
  funext y
  split <;> rfl
theorem evalQ_some {k : AV → Option R} {res : R} (h : evalQ c r m o k = some res) : ∃ y, evalQ c r m o some = some y ∧ k y = some res := by
  have e := evalQ_bind' (c := c) (r := r) (m := m) (o := o) (f := some) (k := k)
  simp only [Option.bind_some] at e
  rw [← e] at h
  exact Option.bind_eq_some_iff.1 h
end
end Go.Eng
set_option linter.unusedSimpArgs false
set_option linter.unusedVariables false
set_option linter.unnecessarySimpa false
namespace Go.Eng
open Go Go.RowKit
section
variable {P : Program} [GlobL P] {F : Fence} {n : Nat} {c : Cfg} {g g' : Gh} {r : Regs} {m : Mem} {a : Act} {w w' : World} {o : Oper} {R : Type} {k : St → Option R} {res : R} {xs : List Operand}
variable {base : Nat} {w0 : World} {S0 : Nat → Prop} {N : Nat} {D : Wt} {sv : Nat → Value} {σ : St} {ops : Array Oper} {Q : Exit → Act → World → Prop}
theorem about_wide (hF : WideF F) : ∀ f, o.about P w a.eval = some f → F.fn f := fun f _ => hF.fn f
theorem yielded_eq {j d : Nat} (hj : (ops.toList.map (·.dst))[j]? = some (some d)) (hd : d < a.tmps.size) : yielded ops a.tmps j = match a.tmps.getD d undef with | .bool b => some b | _ => none := by
  have h1 : (ops[j]?).bind (·.dst) = some d := by
    simp only [List.getElem?_map, Array.getElem?_toList] at hj
    cases h : ops[j]? with
    | none => rw [h] at hj; simp at hj
    | some o => rw [h] at hj; simp at hj; simpa using hj
  unfold yielded
  rw [h1]
  simp [hd]
  cases a.tmps[d] <;> rfl
theorem put_lt {dst : Nat} {x : AV} {σ : St} {kk : St → Option R} (h : σ.put c (some dst) x kk = some res) : dst < c.N ∧ dst < OFF ∧ kk { regs := (dst, x) :: σ.regs, mem := σ.mem, nx := σ.nx } = some res := by
  unfold St.put at h
  simp only at h
  split at h
  · rename_i hd
    split at h
    · rename_i ho
      exact ⟨Nat.le_of_ble_eq_true hd, Nat.le_of_ble_eq_true ho, h⟩
    · simp at h
  · simp at h
theorem Rel.again (h : Rel P base w0 S0 N D sv g σ a w) {d : Nat} {x : AV} (hx : look d σ.regs = some x) : Rel P base w0 S0 N D sv g { regs := (d, x) :: σ.regs, mem := σ.mem, nx := σ.nx } a w :=
  have hr : ∀ t y, look t ((d, x) :: σ.regs) = some y → AVR g w y (vof sv a t) := by
    intro t y hy
    simp only [look_cons] at hy
    split at hy
    · rename_i e; subst e; cases hy; exact h.regs _ _ hx
    · exact h.regs t y hy
  { h with regs := hr }
theorem guarded_ok {H : Hnd R} (hH : HndOK P H) (h : Rel P base w0 S0 N D sv g σ a w) (C : CfgOK P c) (hN : c.N = N) (hF : WideF F) {K : Act → World → Prop} {dr : Bool} {kk : St → Option R} (hK : ∀ g' σ' a' w', kk σ' = some res → Rel P base w0 S0 N D sv g' σ' a' w' → K a' w')
    (hs : (match o.guard with
    | none => stepOp H c dr o σ kk
    | some (j, want) => match (ops.toList.map (·.dst))[j]? with
      | some (some d) => match lookT d σ.regs with
        | some (.v (.one (.bool b))) => bcase b
            (σ.put c (some d) (.one (.bool true)) fun σ' => match want with
              | true => stepOp H c dr o σ' kk
              | false => σ'.put c o.dst .undef kk)
            (σ.put c (some d) (.one (.bool false)) fun σ' => match want with
              | true => σ'.put c o.dst .undef kk
              | false => stepOp H c dr o σ' kk)
        | some .undef => σ.put c o.dst .undef kk
        | _ => none
      | _ => none) = some res) :
    if Region.wanted o (yielded ops a.tmps) then o.wpIn F n P a w K Q else (∀ f, o.about P w a.eval = some f → F.fn f) ∧ K (a.put o.dst undef) w := by
  split at hs
  · rename_i hg
    rw [if_pos (by simp [Region.wanted, hg])]
    exact stepOp_ok hH h C hN hF hK hs
  · rename_i j want hg
    have skip : ∀ {σ1 : St}, Rel P base w0 S0 N D sv g σ1 a w → σ1.put c o.dst .undef kk = some res → Region.wanted o (yielded ops a.tmps) = false → if Region.wanted o (yielded ops a.tmps) then o.wpIn F n P a w K Q else (∀ f, o.about P w a.eval = some f → F.fn f) ∧ K (a.put o.dst undef) w := by
      intro σ1 h1 hp hw
      rw [if_neg (by simp [hw])]
      obtain ⟨σ2, hk, h2⟩ := h1.put (v := undef) hN (x := .undef) rfl hp
      exact ⟨about_wide hF, hK _ _ _ _ hk h2⟩
    split at hs
    · rename_i d hd
      split at hs
      · rename_i b hb
        have hbv : a.tmps.getD d undef = .bool b := by
          have := h.regs d _ (lookT_some hb).2
          rw [vof_lt (lookT_some hb).1] at this
          generalize a.tmps.getD d undef = u at this
          cases this; rfl
        have hlt : d < c.N := by
          rcases bcase_some hs with ⟨_, hs⟩ | ⟨_, hs⟩ <;> exact (put_lt hs).1
        have hwant : Region.wanted o (yielded ops a.tmps) = (b == want) := by
          simp only [Region.wanted, hg, yielded_eq hd (by rw [h.size]; omega), hbv]
          cases b <;> cases want <;> rfl
        rcases bcase_some hs with ⟨rfl, hs1⟩ | ⟨rfl, hs1⟩
        · obtain ⟨-, -, hs2⟩ := put_lt hs1
          have h1 := h.again (lookT_some hb).2
          cases want
          · exact skip h1 hs2 (by rw [hwant]; rfl)
          · rw [if_pos (by rw [hwant]; rfl)]
            exact stepOp_ok hH h1 C hN hF hK hs2
        · obtain ⟨-, -, hs2⟩ := put_lt hs1
          have h1 := h.again (lookT_some hb).2
          cases want
          · rw [if_pos (by rw [hwant]; rfl)]
            exact stepOp_ok hH h1 C hN hF hK hs2
          · exact skip h1 hs2 (by rw [hwant]; rfl)
      · rename_i hu
        refine skip h hs ?_
        have huv : a.tmps.getD d undef = undef := by
          have := h.regs d _ (lookT_some hu).2
          rw [vof_lt (lookT_some hu).1] at this
          exact this
        have : yielded ops a.tmps j = none := by
          by_cases hlt : d < a.tmps.size
          · rw [yielded_eq hd hlt, huv]; rfl
          · have h1 : (ops[j]?).bind (·.dst) = some d := by
              simp only [List.getElem?_map, Array.getElem?_toList] at hd
              cases h : ops[j]? with
              | none => rw [h] at hd; simp at hd
              | some o => rw [h] at hd; simp at hd; simpa using hd
            unfold yielded
            rw [h1]
            simp [hlt]
        simp [Region.wanted, hg, this]
      · simp at hs
    · simp at hs
theorem runOps_cons {H : Hnd R} {dr : Bool} {ds : List (Option Nat)} {l : List Oper} : runOps H c dr ds (o :: l) σ k = (match o.guard with
    | none => stepOp H c dr o σ (fun σ' => runOps H c dr ds l σ' k)
    | some (j, want) => match ds[j]? with
      | some (some d) => match lookT d σ.regs with
        | some (.v (.one (.bool b))) => bcase b
            (σ.put c (some d) (.one (.bool true)) fun σ' => match want with
              | true => stepOp H c dr o σ' (fun σ' => runOps H c dr ds l σ' k)
              | false => σ'.put c o.dst .undef (fun σ' => runOps H c dr ds l σ' k))
            (σ.put c (some d) (.one (.bool false)) fun σ' => match want with
              | true => σ'.put c o.dst .undef (fun σ' => runOps H c dr ds l σ' k)
              | false => stepOp H c dr o σ' (fun σ' => runOps H c dr ds l σ' k))
        | some .undef => σ.put c o.dst .undef (fun σ' => runOps H c dr ds l σ' k)
        | _ => none
      | _ => none) := rfl
theorem runOps_ok {H : Hnd R} (hH : HndOK P H) (C : CfgOK P c) (hN : c.N = N) (hF : WideF F) (hK : ∀ g' σ' a' w', k σ' = some res → Rel P base w0 S0 N D sv g' σ' a' w' → Q .normal a' w') : ∀ (l : List Oper) (i : Nat) {g : Gh} {σ : St} {a : Act} {w : World}, ops.toList.drop i = l → Rel P base w0 S0 N D sv g σ a w →
    runOps H c false (ops.toList.map (·.dst)) l σ k = some res → wpOpsIn F n P ops Q (List.range' i l.length) a w
  | [], i, g, σ, a, w, _, h, hs => hK g σ a w hs h
  | o :: l, i, g, σ, a, w, hd, h, hs => by
    have ho : ops[i]? = some o := by
      have : (ops.toList.drop i)[0]? = some o := by rw [hd]; rfl
      simpa using this
    have hd' : ops.toList.drop (i + 1) = l := by
      have : (ops.toList.drop i).drop 1 = l := by rw [hd]; rfl
      rwa [List.drop_drop] at this
    rw [List.length_cons, List.range'_succ]
    simp only [wpOpsIn, ho]
    rw [runOps_cons] at hs
    exact guarded_ok hH h C hN hF (fun g' σ' a' w' hk h' => runOps_ok hH C hN hF hK l (i + 1) hd' h' hk) hs
theorem region_ok {H : Hnd R} (hH : HndOK P H) (C : CfgOK P c) (hN : c.N = N) (hF : WideF F) (hK : ∀ g' σ' a' w', k σ' = some res → Rel P base w0 S0 N D sv g' σ' a' w' → Q .normal a' w') {id : Nat} (h : Rel P base w0 S0 N D sv g σ a w)
    (hs : runOps H c false (ops.toList.map (·.dst)) ops.toList σ k = some res) : (Code.region id ops false).wpIn F n P Q a w := by
  refine wpIn_region ?_
  have := runOps_ok (n := n) hH C hN hF hK ops.toList 0 (by simp) h hs
  rw [List.range_eq_range']
  simpa using this
end
end Go.Eng
set_option linter.unusedSimpArgs false
set_option linter.unusedVariables false
set_option linter.unnecessarySimpa false
namespace Go.Eng
open Go Go.RowKit
section
variable {P : Program} [GlobL P] {F : Fence} {n : Nat} {c : Cfg} {g g' : Gh} {r : Regs} {m : Mem} {a : Act} {w w' : World} {o : Oper} {R : Type} {k : St → Option R} {res : R} {xs : List Operand}
variable {base : Nat} {w0 : World} {S0 : Nat → Prop} {N : Nat} {D : Wt} {sv : Nat → Value} {σ : St} {ops : Array Oper} {Q : Exit → Act → World → Prop} {ds : List (Option Nat)}
theorem okFrom_spec {x : Oper} {i : Nat} : ∀ {l : List (Oper × Nat)}, okFrom c ds i x l = true → ∀ y ∈ l, clash c ds x y.1 = true → Nat.testBit y.2 i = true
  | [], _, y, hy, _ => by simp at hy
  | z :: l, h, y, hy, hc => by
    unfold okFrom at h
    split at h
    · split at h
      · rename_i hb
        rcases List.mem_cons.1 hy with rfl | hy
        · exact hb
        · exact okFrom_spec h y hy hc
      · simp at h
    · rename_i hcl
      rcases List.mem_cons.1 hy with rfl | hy
      · rw [hc] at hcl; cases hcl
      · exact okFrom_spec h y hy hc
theorem okAll_spec : ∀ {l : List (Oper × Nat)} {i : Nat}, okAll c ds i l = true → ∀ {p q : Nat} {x y : Oper × Nat}, p < q → l[p]? = some x → l[q]? = some y → clash c ds x.1 y.1 = true → Nat.testBit y.2 (i + p) = true
  | [], i, _, p, q, x, y, _, hx, _, _ => by simp at hx
  | z :: l, i, h, p, q, x, y, hpq, hx, hy, hc => by
    unfold okAll at h
    split at h
    · rename_i hf
      cases q with
      | zero => omega
      | succ q =>
        simp at hy
        cases p with
        | zero =>
          simp at hx; subst hx
          exact okFrom_spec hf y (List.mem_of_getElem? hy) hc
        | succ p =>
          simp at hx
          have := okAll_spec h (by omega : p < q) hx hy hc
          rw [show i + (p + 1) = i + 1 + p from by omega]; exact this
    · simp at h
theorem edgesBack_spec : ∀ {l : List Oper} {i : Nat}, edgesBack i l = true → ∀ {p : Nat} {o : Oper}, l[p]? = some o → ∀ e ∈ o.after, bindsAny e = true → e.on < i + p
  | [], i, _, p, o, ho, _, _, _ => by simp at ho
  | z :: l, i, h, p, o, ho, e, he, hb => by
    unfold edgesBack at h
    split at h
    · rename_i hz
      cases p with
      | zero =>
        simp at ho; subst ho
        have := (List.all_eq_true.1 hz) e (by simpa using he)
        rw [hb] at this
        exact Nat.le_of_ble_eq_true this
      | succ p =>
        have := edgesBack_spec h (p := p) (by simpa using ho) e he hb
        omega
    · simp at h
theorem befores_spec : ∀ (l : List Oper) (acc : List Nat), ∃ rest, befores acc l = acc ++ rest ∧ rest.length = l.length ∧ ∀ q o, l[q]? = some o → rest[q]? = some (beforeOf (acc ++ rest.take q) o)
  | [], acc => ⟨[], by simp [befores], rfl, fun q o h => by simp at h⟩
  | o :: l, acc => by
    obtain ⟨rest, h1, h2, h3⟩ := befores_spec l (acc ++ [beforeOf acc o])
    refine ⟨beforeOf acc o :: rest, by simp only [befores, h1]; simp, by simp [h2], fun q o' h => ?_⟩
    cases q with
    | zero => simp at h; subst h; simp
    | succ q =>
      have := h3 q o' (by simpa using h)
      simp only [List.getElem?_cons_succ, this, List.take_succ_cons]
      simp
theorem beforeOf_spec {acc : List Nat} {i : Nat} : ∀ (l : List Edge) (s : Nat), Nat.testBit (l.foldl (fun s e => match bindsAny e with | true => (s ||| 2 ^ e.on) ||| acc.getD e.on 0 | false => s) s) i = true →
    Nat.testBit s i = true ∨ ∃ e ∈ l, bindsAny e = true ∧ (i = e.on ∨ Nat.testBit (acc.getD e.on 0) i = true)
  | [], s, h => .inl h
  | e :: l, s, h => by
    simp only [List.foldl_cons] at h
    rcases beforeOf_spec l _ h with h1 | ⟨e', he', h1⟩
    · split at h1
      · rename_i hb
        simp only [Nat.testBit_or, Bool.or_eq_true, Nat.testBit_two_pow, decide_eq_true_eq] at h1
        rcases h1 with (h1 | h1) | h1
        · exact .inl h1
        · exact .inr ⟨e, by simp, hb, .inl h1.symm⟩
        · exact .inr ⟨e, by simp, hb, .inr h1⟩
      · exact .inl h1
    · exact .inr ⟨e', by simp [he'], h1⟩
def Closed (ops : Array Oper) (L : Array Bool) : Prop := ∀ (p : Nat) (o : Oper), ops[p]? = some o → L.getD p false = true → ∀ e ∈ o.after, bindsAny e = true → L.getD e.on false = true
theorem closed_bits {L : Array Bool} (hc : Closed ops L) (hb : edgesBack 0 ops.toList = true) : ∀ (j : Nat) (o : Oper) (b : Nat), ops[j]? = some o → (befores [] ops.toList)[j]? = some b → (∀ e ∈ o.after, bindsAny e = true → L.getD e.on false = true) →
    ∀ i, Nat.testBit b i = true → L.getD i false = true := by
  obtain ⟨rest, h1, h2, h3⟩ := befores_spec ops.toList []
  simp only [List.nil_append] at h1 h3
  intro j
  induction j using Nat.strongRecOn with
  | _ j ih =>
    intro o b ho hbj he i hi
    rw [h1] at hbj ih
    have := h3 j o (by simpa using ho)
    rw [hbj] at this
    cases this
    unfold beforeOf at hi
    rcases beforeOf_spec _ _ hi with h0 | ⟨e, hea, heb, h4⟩
    · simp at h0
    · have hea : e ∈ o.after := by simpa using hea
      rcases h4 with rfl | h4
      · exact he e hea heb
      · have hlt := edgesBack_spec hb (p := j) (by simpa using ho) e hea heb
        simp only [Nat.zero_add] at hlt
        have hjs : j < ops.size := (Array.getElem?_eq_some_iff.1 ho).1
        have hlt' : e.on < rest.length := by rw [h2]; simp; omega
        have hLe := he e hea heb
        obtain ⟨oe, hoe⟩ : ∃ oe, ops[e.on]? = some oe := ⟨ops[e.on], by simp⟩
        rw [List.getD_eq_getElem?_getD, List.getElem?_take_of_lt hlt, List.getElem?_eq_getElem hlt'] at h4
        exact ih e.on hlt oe rest[e.on] hoe (List.getElem?_eq_getElem hlt') (fun e' he' hb' => hc e.on oe hoe hLe e' he' hb') i (by simpa using h4)
theorem clash_before {L : Array Bool} (ho : orderOK c ops.toList = true) (hc : Closed ops L) {i j : Nat} {x y : Oper} (hij : i < j) (hx : ops[i]? = some x) (hy : ops[j]? = some y) (hcl : clash c (ops.toList.map (·.dst)) x y = true)
    (he : ∀ e ∈ y.after, bindsAny e = true → L.getD e.on false = true) : L.getD i false = true := by
  unfold orderOK at ho
  split at ho
  · rename_i hb
    obtain ⟨rest, h1, h2, h3⟩ := befores_spec ops.toList []
    simp only [List.nil_append] at h1 h3
    have hjs : j < ops.size := (Array.getElem?_eq_some_iff.1 hy).1
    have hjr : j < rest.length := by rw [h2]; simpa using hjs
    have hir : i < rest.length := by omega
    have z : ∀ {q : Nat} {u : Oper} (hq : q < rest.length), ops[q]? = some u → (ops.toList.zip (befores [] ops.toList))[q]? = some (u, rest[q]) := by
      intro q u hq hu
      rw [h1]
      rw [List.getElem?_zip_eq_some]
      exact ⟨by simpa using hu, List.getElem?_eq_getElem hq⟩
    have hbit := okAll_spec ho hij (z hir hx) (z hjr hy) hcl
    simp only [Nat.zero_add] at hbit
    exact closed_bits hc hb j y rest[j] hy (by rw [h1]; exact List.getElem?_eq_getElem hjr) he i hbit
  · simp at ho
def pushD (d : Option Nat) (y : AV) (r : Regs) : Regs :=
  match d with
  | none => r
  | some d => (d, y) :: r
abbrev Tr := List (Option Nat × AV)
def regsF : Tr → Regs → Regs
  | [], r => r
  | x :: l, r => regsF l (pushD x.1 x.2 r)
def regsL (L : Nat → Bool) : Nat → Tr → Regs → Regs
  | _, [], r => r
  | i, x :: l, r => regsL L (i + 1) l (if L i then pushD x.1 x.2 r else r)
theorem look_pushD {d : Option Nat} {y : AV} {t : Nat} : look t (pushD d y r) = if d = some t then some y else look t r := by
  cases d with
  | none => simp [pushD]
  | some d => simp [pushD, look_cons]
theorem regsF_congr {t : Nat} : ∀ {tr : Tr} {r r' : Regs}, look t r = look t r' → look t (regsF tr r) = look t (regsF tr r')
  | [], _, _, h => h
  | x :: l, r, r', h => by
    simp only [regsF]
    refine regsF_congr ?_
    simp only [look_pushD, h]
theorem look_regsL {L : Nat → Bool} {t : Nat} : ∀ {tr : Tr} {i p : Nat} {r r' : Regs}, look t r = look t r' → (∀ q x, tr[q]? = some x → x.1 = some t → (q < p ↔ L (i + q) = true)) → look t (regsL L i tr r) = look t (regsF (tr.take p) r')
  | [], i, p, r, r', h, _ => by simpa [regsL, regsF] using h
  | x :: l, i, p, r, r', h, hL => by
    have h0 := hL 0 x (by simp)
    simp only [regsL]
    cases p with
    | zero =>
      have := look_regsL (L := L) (t := t) (tr := l) (i := i + 1) (p := 0) (r := if L i then pushD x.1 x.2 r else r) (r' := r') (by
        split
        · rename_i hl
          rw [look_pushD]
          split
          · rename_i e
            have := (h0 e).2 (by simpa using hl)
            omega
          · exact h
        · exact h) (fun q x hq hx => by
          have := hL (q + 1) x (by simpa using hq) hx
          rw [show i + 1 + q = i + (q + 1) from by omega, ← this]; omega)
      simpa [regsF] using this
    | succ p =>
      simp only [List.take_succ_cons, regsF]
      refine look_regsL ?_ (fun q x hq hx => ?_)
      · by_cases e : x.1 = some t
        · have := (h0 e).1 (by omega)
          simp only [Nat.add_zero] at this
          rw [if_pos this]
          simp only [look_pushD, if_pos e]
        · rw [look_pushD, if_neg e]
          split
          · rw [look_pushD, if_neg e]; exact h
          · exact h
      · have := hL (q + 1) x (by simpa using hq) hx
        rw [show i + 1 + q = i + (q + 1) from by omega, ← this]; omega
theorem look_regsL_eq {L L' : Nat → Bool} {t : Nat} : ∀ {tr : Tr} {i : Nat} {r r' : Regs}, look t r = look t r' → (∀ q x, tr[q]? = some x → x.1 = some t → L (i + q) = L' (i + q)) → look t (regsL L i tr r) = look t (regsL L' i tr r')
  | [], i, r, r', h, _ => h
  | x :: l, i, r, r', h, hL => by
    simp only [regsL]
    refine look_regsL_eq ?_ (fun q y hq hy => by
      have := hL (q + 1) y (by simpa using hq) hy
      rwa [show i + 1 + q = i + (q + 1) from by omega])
    by_cases e : x.1 = some t
    · have := hL 0 x (by simp) e
      simp only [Nat.add_zero] at this
      rw [this]
      split
      · simp only [look_pushD, if_pos e]
      · exact h
    · split <;> split <;> simp only [look_pushD, if_neg e, h]
theorem look_regsL_at {L : Nat → Bool} {t : Nat} {y : AV} : ∀ {tr : Tr} {i p : Nat} {r : Regs}, tr[p]? = some (some t, y) → L (i + p) = true → (∀ q x, p < q → tr[q]? = some x → x.1 = some t → L (i + q) = false) → look t (regsL L i tr r) = some y
  | [], i, p, r, h, _, _ => by simp at h
  | x :: l, i, 0, r, h, h0, hL => by
    simp at h; subst h
    simp only [regsL]
    simp only [Nat.add_zero] at h0
    rw [if_pos h0, look_regsL (p := 0) (r' := pushD (some t) y r) rfl (fun q x hq hx => ?_)]
    · simp [regsF, look_pushD]
    · have := hL (q + 1) x (by omega) (by simpa using hq) hx
      rw [show i + 1 + q = i + (q + 1) from by omega, this]; simp
  | x :: l, i, p + 1, r, h, h0, hL => by
    simp only [regsL]
    refine look_regsL_at (p := p) (by simpa using h) (by rw [show i + 1 + p = i + (p + 1) from by omega]; exact h0) (fun q y hq hy he => ?_)
    rw [show i + 1 + q = i + (q + 1) from by omega]
    exact hL (q + 1) y (by omega) (by simpa using hy) he
def StepQ (c : Cfg) (ds : List (Option Nat)) (o : Oper) (r : Regs) (m : Mem) (y : AV) : Prop :=
  (o.guard = none ∧ evalQ c r m o some = some y) ∨
  (∃ j want d, o.guard = some (j, want) ∧ ds[j]? = some (some d) ∧
    ((∃ b, lookT d r = some (.one (.bool b)) ∧ d < c.N ∧ ((b = want ∧ evalQ c r m o some = some y) ∨ (b ≠ want ∧ y = .undef))) ∨ (lookT d r = some .undef ∧ y = .undef)))
theorem put_pushD {dst : Option Nat} {x : AV} {σ : St} {kk : St → Option R} (h : σ.put c dst x kk = some res) : (∀ d, dst = some d → d < c.N ∧ d < OFF) ∧ kk { regs := pushD dst x σ.regs, mem := σ.mem, nx := σ.nx } = some res := by
  cases dst with
  | none => exact ⟨fun d h => (by cases h), h⟩
  | some d => obtain ⟨h1, h0, h2⟩ := put_lt h; exact ⟨fun d' h => (by cases h; exact ⟨h1, h0⟩), h2⟩
theorem stepOp_Q {H : Hnd R} {σ : St} {kk : St → Option R} (hq : isQ c o.op = true) (h : stepOp H c true o σ kk = some res) : ∃ y, evalQ c σ.regs σ.mem o some = some y ∧ (∀ d, o.dst = some d → d < c.N ∧ d < OFF) ∧ kk { regs := pushD o.dst y σ.regs, mem := σ.mem, nx := σ.nx } = some res := by
  simp only [stepOp, hq] at h
  obtain ⟨y, h1, h2⟩ := evalQ_some h
  exact ⟨y, h1, put_pushD h2⟩
theorem stepQ_of {H : Hnd R} {l : List Oper} (hq : isQ c o.op = true) (h : runOps H c true ds (o :: l) σ k = some res) : ∃ (r : Regs) (y : AV), (∀ t, look t r = look t σ.regs) ∧ StepQ c ds o r σ.mem y ∧ (∀ d, o.dst = some d → d < c.N ∧ d < OFF) ∧ runOps H c true ds l { regs := pushD o.dst y r, mem := σ.mem, nx := σ.nx } k = some res := by
  rw [runOps_cons] at h
  split at h
  · rename_i hg
    obtain ⟨y, h1, h2, h3⟩ := stepOp_Q hq h
    exact ⟨σ.regs, y, fun _ => rfl, .inl ⟨hg, h1⟩, h2, h3⟩
  · rename_i j want hg
    split at h
    · rename_i d hd
      split at h
      · rename_i b hb
        have again : ∀ {b : Bool}, lookT d σ.regs = some (.one (.bool b)) → ∀ t, look t ((d, AV.one (.bool b)) :: σ.regs) = look t σ.regs := by
          intro b hb t
          have hb := (lookT_some hb).2
          rw [look_cons]; split
          · rename_i e; subst e; exact hb.symm
          · rfl
        have fin : ∀ {b : Bool}, lookT d σ.regs = some (.one (.bool b)) → d < c.N → (match (b == want) with
            | true => stepOp H c true o { regs := (d, .one (.bool b)) :: σ.regs, mem := σ.mem, nx := σ.nx } fun σ' => runOps H c true ds l σ' k
            | false => St.put c { regs := (d, .one (.bool b)) :: σ.regs, mem := σ.mem, nx := σ.nx } o.dst .undef fun σ' => runOps H c true ds l σ' k) = some res → ∃ (r : Regs) (y : AV), (∀ t, look t r = look t σ.regs) ∧ StepQ c ds o r σ.mem y ∧ (∀ d, o.dst = some d → d < c.N ∧ d < OFF) ∧ runOps H c true ds l { regs := pushD o.dst y r, mem := σ.mem, nx := σ.nx } k = some res := by
          intro b hb hlt h
          split at h
          · rename_i e
            obtain ⟨y, h1, h2, h3⟩ := stepOp_Q hq h
            exact ⟨_, y, again hb, .inr ⟨j, want, d, hg, hd, .inl ⟨b, by rw [lookT_congr (again hb _)]; exact hb, hlt, .inl ⟨by simpa using e, h1⟩⟩⟩, h2, h3⟩
          · rename_i e
            obtain ⟨h2, h3⟩ := put_pushD h
            exact ⟨_, .undef, again hb, .inr ⟨j, want, d, hg, hd, .inl ⟨b, by rw [lookT_congr (again hb _)]; exact hb, hlt, .inr ⟨by simpa using e, rfl⟩⟩⟩, h2, h3⟩
        rcases bcase_some h with ⟨rfl, h1⟩ | ⟨rfl, h1⟩
        · obtain ⟨hlt, -, h2⟩ := put_lt h1
          refine fin hb hlt ?_
          cases want <;> exact h2
        · obtain ⟨hlt, -, h2⟩ := put_lt h1
          refine fin hb hlt ?_
          cases want <;> exact h2
      · rename_i hu
        obtain ⟨h2, h3⟩ := put_pushD h
        exact ⟨_, .undef, fun _ => rfl, .inr ⟨j, want, d, hg, hd, .inr ⟨hu, rfl⟩⟩, h2, h3⟩
      · simp at h
    · simp at h
structure Seg (H : Hnd R) (c : Cfg) (ds : List (Option Nat)) (k : St → Option R) (res : R) (σ : St) (l : List Oper) (tr : Tr) (σe : St) : Prop where
  le : tr.length ≤ l.length
  rest : runOps H c true ds (l.drop tr.length) σe k = some res
  head : ∀ o, l[tr.length]? = some o → isQ c o.op = false
  mem : σe.mem = σ.mem
  nx : σe.nx = σ.nx
  regs : ∀ t, look t σe.regs = look t (regsF tr σ.regs)
  step : ∀ p o x, l[p]? = some o → tr[p]? = some x → isQ c o.op = true ∧ x.1 = o.dst ∧ (∀ d, o.dst = some d → d < c.N ∧ d < OFF) ∧ ∃ r, (∀ t, look t r = look t (regsF (tr.take p) σ.regs)) ∧ StepQ c ds o r σ.mem x.2
theorem mkSeg {H : Hnd R} : ∀ (l : List Oper) (σ : St), runOps H c true ds l σ k = some res → ∃ tr σe, Seg H c ds k res σ l tr σe
  | [], σ, h => ⟨[], σ, by simp, by simpa using h, fun o h => by simp at h, rfl, rfl, fun _ => rfl, fun p o x h => by simp at h⟩
  | o :: l, σ, h => by
    cases hq : isQ c o.op with
    | false => exact ⟨[], σ, by simp, by simpa using h, fun o' h => by simp at h; subst h; exact hq, rfl, rfl, fun _ => rfl, fun p o' x _ h => by simp at h⟩
    | true =>
      obtain ⟨r, y, hr, hs, hd, h1⟩ := stepQ_of hq h
      obtain ⟨tr, σe, S⟩ := mkSeg l _ h1
      have hpr : ∀ t, look t (pushD o.dst y r) = look t (pushD o.dst y σ.regs) := fun t => by simp only [look_pushD, hr]
      refine ⟨(o.dst, y) :: tr, σe, by have := S.le; simp; omega, by simpa using S.rest, fun o' h => S.head o' (by simpa using h), S.mem, S.nx, fun t => (S.regs t).trans (regsF_congr (hpr t)), fun p o' x hp hx => ?_⟩
      cases p with
      | zero =>
        simp at hp hx
        subst hp; subst hx
        exact ⟨hq, rfl, hd, r, by simpa [regsF] using hr, hs⟩
      | succ p =>
        obtain ⟨h1, h2, h3, r', h4, h5⟩ := S.step p o' x (by simpa using hp) (by simpa using hx)
        exact ⟨h1, h2, h3, r', fun t => by rw [h4]; simpa [regsF] using regsF_congr (hpr t), h5⟩
end
end Go.Eng
