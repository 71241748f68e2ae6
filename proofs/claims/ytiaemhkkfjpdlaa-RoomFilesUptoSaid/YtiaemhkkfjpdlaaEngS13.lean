import Derived.Test.YtiaemhkkfjpdlaaEngS12
import Derived.Great.BuildSlice
import Derived.Laws.MakeOwn
/- THE ENGINE, soundness, part 13: slices that are made, closures, calls that hand rows on. -/
set_option linter.unusedSimpArgs false
set_option linter.unusedVariables false
set_option linter.unnecessarySimpa false
namespace Go.Eng
open Go Go.RowKit

section
variable {P : Program} {F : Fence} {n : Nat} {c : Cfg} {g g' : Gh} {r : Regs} {m : Mem} {a : Act} {w w' : World} {o : Oper} {R : Type} {k : St → Option R} {res : R} {xs : List Operand}
variable {base : Nat} {w0 : World} {S0 : Nat → Prop} {N : Nat} {D : List Deferred} {sv : Nat → Value} {σ : St}

theorem length_repl {α : Type} (l : List α) : ∀ q, (repl l q).length = q * l.length
  | 0 => by simp [repl]
  | q + 1 => by simp [repl, length_repl l q, Nat.succ_mul]; omega

theorem repl_get {α : Type} {l : List α} (h0 : 0 < l.length) : ∀ {q j : Nat}, j < q * l.length → (repl l q)[j]? = l[j % l.length]?
  | 0, j, h => by simp at h
  | q + 1, j, h => by
    simp only [repl]
    by_cases hj : j < l.length
    · rw [List.getElem?_append_left hj, Nat.mod_eq_of_lt hj]
    · rw [List.getElem?_append_right (by omega), repl_get h0 (by rw [Nat.succ_mul] at h; omega), Nat.mod_eq_sub_mod (by omega : l.length ≤ j)]

theorem made_get {z : Array Value} {q j : Nat} (hj : j < q) (h0 : 0 < z.size) : (madeCells z q).toList[j]? = z.toList[j % z.size]? := by
  have hlt : j % z.size < z.size := Nat.mod_lt _ h0
  simp [madeCells, hj, hlt]

theorem repl_ok {l : List At} {z : Array Value} (h : All2 (VA g w) l z.toList) (q : Nat) : All2 (VA g w) (repl l q) (madeCells z (q * z.size)).toList := by
  have hl : l.length = z.size := by simpa using h.length
  refine All2.of_get (by rw [length_repl, hl]; simp [madeCells]) fun j x v hx hv => ?_
  have hj : j < q * l.length := by
    rw [← length_repl]
    exact (List.getElem?_eq_some_iff.1 hx).1
  have h0 : 0 < l.length := by
    rcases Nat.eq_zero_or_pos l.length with h' | h'
    · rw [h'] at hj; simp at hj
    · exact h'
  rw [repl_get h0 hj] at hx
  rw [made_get (by rw [← hl]; exact hj) (by omega), ← hl] at hv
  obtain ⟨v', hv', hr⟩ := h.get hx
  rw [hv] at hv'
  cases hv'
  exact hr

theorem decAll_ok {τ : Ty} : ∀ {q : Nat} {cells : List At} {l : List τ.T}, decAll τ q cells = some l → l.length = q ∧ cells.length = q * τ.n ∧ ∀ (i : Nat) (x : τ.T) (j : Nat) (y : At), l[i]? = some x → (τ.enc x)[j]? = some y → (cells.map unclip)[i * τ.n + j]? = some y
  | 0, [], l, h => by simp [decAll] at h; subst h; simp
  | 0, _ :: _, l, h => by simp [decAll] at h
  | q + 1, cells, l, h => by
    simp only [decAll] at h
    split at h
    · rename_i x0 r0 hx0 hr0
      cases h
      obtain ⟨h1, h2, h3⟩ := decAll_ok hr0
      have he := decC_enc τ hx0
      have hlen : (cells.take τ.n).length = τ.n := by rw [← enc_length τ x0, he]; simp
      have hle : τ.n ≤ cells.length := by simp at hlen; omega
      refine ⟨by simp [h1], ?_, fun i x j y hx hy => ?_⟩
      · simp at h2; rw [Nat.succ_mul]; omega
      · have hj : j < τ.n := by rw [← enc_length τ x]; exact (List.getElem?_eq_some_iff.1 hy).1
        cases i with
        | zero =>
          simp at hx; subst hx
          rw [he, List.map_take, List.getElem?_take_of_lt hj] at hy
          simpa using hy
        | succ i =>
          have := h3 i x j y (by simpa using hx) hy
          rw [List.map_drop, List.getElem?_drop] at this
          rw [← this]; congr 1
          rw [Nat.succ_mul]; omega
    · simp at h

theorem elems_decAll {τ : Ty} {q : Nat} {cells : List At} {l : List τ.T} {vs : List Value} (h : decAll τ q cells = some l) (ha : All2 (VA g w) cells vs) : Elems g w τ l vs := fun i x j y hx hy =>
  ha.unclip.get ((decAll_ok h).2.2 i x j y hx hy)

theorem fillS_ok (E : Env P c g r m xs a w) {e : TypeId} {size : Nat} :
    ∀ (parts : List (Nat × Operand)) (cells : List At) (vals : Array Value) (l : List At), (∀ q ∈ parts, q.2 ∈ xs) → All2 (VA g w) cells vals.toList → fillS c r e size cells parts = some l →
      ∃ out : Array Value, Instr.fill (fun i => some (i * size, size)) vals (parts.map fun (i, x) => (i, a.eval x)) = some out ∧ All2 (VA g w) l out.toList
  | [], cells, vals, l, _, ha, h => by
    simp only [fillS, Option.some.injEq] at h
    subst h
    exact ⟨vals, by simp [Instr.fill], ha⟩
  | (i, x) :: parts, cells, vals, l, hxs, ha, h => by
    simp only [fillS] at h
    split at h
    · rename_i v hv
      split at h
      · rename_i h1 h2
        have h1 := Nat.eq_of_beq_eq_true h1
        have h2 := Nat.le_of_ble_eq_true h2
        have hvr := E.evV (hxs (i, x) (by simp)) hv
        have hvc := hvr.cells
        have hlen := hvc.length
        have hcl := ha.length
        have ha' := setVals_ok (i * size) hvc ha
        obtain ⟨out, ho, hoa⟩ := fillS_ok E parts _ (setVals vals.toList (i * size) (a.eval x).cells.toList).toArray l (fun q hq => hxs q (by simp [hq])) (by simpa using ha') h
        refine ⟨out, ?_, hoa⟩
        have e1 : (a.eval x).cells.size = size := by simp at hlen; omega
        have e3 : ¬ (i * size + size > vals.size) := by simp at hcl; omega
        simp only [List.map_cons, Instr.fill, e1, ne_eq, not_true_eq_false, decide_false, decide_true, Bool.false_or, Bool.or_false, Bool.false_eq_true, if_false]
        rw [fold_cells]
        simp only [e3, decide_false, Bool.false_eq_true, if_false]
        exact ho
      · simp at h
    · simp at h

theorem w_buildSlice (h : Rel base w0 S0 N D sv g σ a w) (C : CfgOK P c) (hN : c.N = N) (hF : WideF F) {K : Act → World → Prop} {Q : Exit → Act → World → Prop} (hK : ∀ g' σ' a' w', k σ' = some res → Rel base w0 S0 N D sv g' σ' a' w' → K a' w') {t e : TypeId} {q : Nat} {parts : Array (Nat × Operand)}
    (hop : o.op = .buildSlice t q parts) {ti te : TI} {τ : Ty} (hti : c.ti t = some ti) (htk : ti.k = .slice τ e) (hte : c.ti e = some te) {cells : List At} (hsz : q * te.size ≤ 16777216) (hf : fillS c σ.regs e te.size (repl te.zero.cells q) parts.toList = some cells)
    {l : List τ.T} (hl : decAll τ q cells = some l) (hp : (σ.new (.row τ l)).put c o.dst (.one (.own σ.nx)) k = some res) : o.wpIn F n P a w K Q := by
  obtain ⟨i, d, T⟩ := C.ts t ti hti
  obtain ⟨rfl, j, hj, hjs, hjb⟩ := T.slice htk
  obtain ⟨i2, d2, T2⟩ := C.ts e te hte
  obtain rfl : i2 = j := by have := T2.info; rw [hj] at this; exact (Option.some.inj this).symm
  obtain ⟨z, hz, hzs, hzr⟩ := T2.zero
  have hzc := (hzr g w).cells
  have hzsz : z.cells.size = te.size := hzs
  have hts : te.size = τ.n := by rw [← T2.size, hjs]
  have E := h.env C (parts.toList.map (·.2))
  have hrep := repl_ok hzc q
  rw [hzsz] at hrep
  obtain ⟨out, ho, hoa⟩ := fillS_ok E parts.toList _ _ cells (fun x hx => List.mem_map.2 ⟨x, hx, rfl⟩) hrep hf
  obtain ⟨d1, d2, d3⟩ := decAll_ok hl
  have hos : out.size = q * τ.n := by have := hoa.length; simp at this; omega
  obtain ⟨g1, h1, hv⟩ := h.newRow (w' := w.alloc (.cells out e)) (τ := τ) (l := l) (cs := out) (e := e) (cp := q) rfl rfl rfl rfl hos (by omega) hoa.one (elems_decAll hl hoa)
  rw [d1] at hv
  obtain ⟨σ2, hk, h2⟩ := h1.put hN (x := .one (.own σ.nx)) hv hp
  refine wpIn_of_run hF (by simp [hop]) ?_ (hK _ _ _ _ hk h2)
  have hsmall : ¬ q * i2.size > 2 ^ 24 := by rw [T2.size]; omega
  by_cases h0 : q * i2.size = 0
  · have hq : q = 0 := by
      rcases Nat.mul_eq_zero.1 h0 with h0 | h0
      · exact h0
      · rw [hjs] at h0; have := n_pos τ; omega
    subst hq
    have e2 : (parts.map fun (i, x) => (i, a.eval x)).toList = parts.toList.map fun (i, x) => (i, a.eval x) := by simp
    have e3 : (#[] : Array Value) = madeCells z.cells (0 * te.size) := by simp [madeCells, Array.range_zero']
    have : (Instr.buildSlice t 0 (parts.map fun (i, x) => (i, a.eval x))).run P w = .ok (.slice (some ⟨w.heap.size, 0, none⟩) 0 0) (w.alloc (.cells out e)) := by
      rw [← e3] at ho
      rw [← e2, ← T2.size] at ho
      simp only [Nat.zero_mul] at ho
      simp [Instr.buildSlice, run_underlying T.und, sizeOf, typeInfo, hj, newRow, Array.range_zero']
      simp at ho
      simp [ho]
    simp only [execOp, hop, Sem.run_bind, this, Result.andThen_ok]
    rfl
  · have := run_buildSlice (P := P) w t e q (parts.map fun (i, x) => (i, a.eval x)) out i2 z T.und hj hz hsmall h0 (by
      have e2 : (parts.map fun (i, x) => (i, a.eval x)).toList = parts.toList.map fun (i, x) => (i, a.eval x) := by simp
      rw [e2, T2.size]; exact ho)
    simp only [execOp, hop, Sem.run_bind, this, Result.andThen_ok]
    rfl

theorem w_makeSlice (h : Rel base w0 S0 N D sv g σ a w) (C : CfgOK P c) (hN : c.N = N) (hF : WideF F) {K : Act → World → Prop} {Q : Exit → Act → World → Prop} (hK : ∀ g' σ' a' w', k σ' = some res → Rel base w0 S0 N D sv g' σ' a' w' → K a' w') {t e : TypeId} {x y : Operand}
    (hop : o.op = .makeSlice t x y) {ti te : TI} {τ : Ty} (hti : c.ti t = some ti) (htk : ti.k = .slice τ e) (hte : c.ti e = some te) {κ κ' : IntKind} {p q : Int} (hx : evA c σ.regs 0 x = some (.int κ p)) (hy : evA c σ.regs 0 y = some (.int κ' q)) (h0 : 0 ≤ p) (hpq : p = q) (hlim : p.toNat ≤ LIM)
    {z0 : τ.T} (hz0 : τ.decC te.zero.cells = some z0) (hp : (σ.new (.row τ (List.replicate p.toNat z0))).put c o.dst (.one (.own σ.nx)) k = some res) : o.wpIn F n P a w K Q := by
  subst hpq
  obtain ⟨i, d, T⟩ := C.ts t ti hti
  obtain ⟨rfl, j, hj, hjs, hjb⟩ := T.slice htk
  obtain ⟨i2, d2, T2⟩ := C.ts e te hte
  obtain rfl : i2 = j := by have := T2.info; rw [hj] at this; exact (Option.some.inj this).symm
  obtain ⟨z, hz, hzs, hzr⟩ := T2.zero
  have hzc := (hzr g w).cells
  have hzsz : z.cells.size = te.size := hzs
  have hts : te.size = τ.n := by rw [← T2.size, hjs]
  have E := h.env C [x, y]
  have hxv := E.evA (x := x) (by simp) hx
  have hyv := E.evA (x := y) (by simp) hy
  generalize hxe : a.eval x = vx at hxv
  generalize hye : a.eval y = vy at hyv
  cases hxv
  cases hyv
  have he := decC_enc τ hz0
  have hb : (i2.bytes : Int) * p ≤ 281474976710656 := by
    have h1 : i2.bytes * p.toNat ≤ 4096 * LIM := Nat.mul_le_mul hjb hlim
    unfold LIM at h1
    have h2 : p = (p.toNat : Int) := by omega
    rw [h2, ← Int.natCast_mul]; omega
  have hrun := run_make (P := P) w t e i2 z T.und hj hz κ κ' p p h0 (Int.le_refl _) hb (by unfold LIM at hlim; omega)
  rw [hjs] at hrun
  obtain ⟨g1, h1, hv⟩ := h.newRow (w' := w.alloc (.cells (madeCells z.cells (p.toNat * τ.n)) e)) (τ := τ) (l := List.replicate p.toNat z0) (cs := madeCells z.cells (p.toNat * τ.n)) (e := e) (cp := p.toNat) rfl rfl rfl rfl (by simp [madeCells]) (by simp) (by
    have := repl_ok hzc p.toNat
    rw [hzsz, hts] at this
    exact this.one) (by
    intro i x j y hx hy
    have hi : i < p.toNat := by simpa using (List.getElem?_eq_some_iff.1 hx).1
    have hj : j < τ.n := by rw [← enc_length τ x]; exact (List.getElem?_eq_some_iff.1 hy).1
    simp [List.getElem?_replicate, hi] at hx
    subst hx
    rw [he] at hy
    obtain ⟨v, hv, hr⟩ := hzc.unclip.get hy
    refine ⟨v, ?_, hr⟩
    have : (i + 1) * τ.n ≤ p.toNat * τ.n := Nat.mul_le_mul_right _ hi
    rw [Nat.succ_mul] at this
    rw [made_get (by omega) (by rw [hzsz, hts]; exact n_pos τ), hzsz, hts, Nat.mul_comm, Nat.mul_add_mod, Nat.mod_eq_of_lt hj]
    exact hv)
  simp only [List.length_replicate] at hv
  obtain ⟨σ2, hk, h2⟩ := h1.put hN (x := .one (.own σ.nx)) hv hp
  refine wpIn_of_run hF (by simp [hop]) ?_ (hK _ _ _ _ hk h2)
  simp only [execOp, hop, hxe, hye, Sem.run_bind, hrun, Result.andThen_ok]
  rfl

theorem ones_ok : ∀ {l : List AV} {vs : List Value} {xs : List At}, All2 (AVR g w) l vs → onesOf l = some xs → All2 (VA g w) xs vs
  | [], _, _, ha, h => by simp [onesOf] at h; subst h; cases ha; exact .nil
  | x :: l, vs, xs, ha, h => by
    cases ha with
    | cons h1 h2 =>
      unfold onesOf at h
      split at h
      · simp_all
      · rename_i x' l' e
        cases e
        split at h
        · rename_i r hr
          cases h
          exact .cons h1 (ones_ok h2 hr)
        · simp at h
      · simp at h

theorem w_makeFunc (h : Rel base w0 S0 N D sv g σ a w) (C : CfgOK P c) (hN : c.N = N) (hF : WideF F) {K : Act → World → Prop} {Q : Exit → Act → World → Prop} (hK : ∀ g' σ' a' w', k σ' = some res → Rel base w0 S0 N D sv g' σ' a' w' → K a' w') {f : Nat} {p q : Array Operand}
    (hop : o.op = .makeFunc (.func f) p q) {as bs : List AV} (has : evArgs c σ.regs p.toList [] = some as) (hbs : evArgs c σ.regs q.toList [] = some bs) {as1 bs1 : List At} (ha1 : onesOf as = some as1) (hb1 : onesOf bs = some bs1)
    (hp : (σ.new (.clo f as1 bs1)).put c o.dst (.one (.clo σ.nx)) k = some res) : o.wpIn F n P a w K Q := by
  have E := h.env C (p.toList ++ q.toList)
  have h1 := ones_ok (evArgs_ok E (fun x hx => by simp only [List.mem_append]; exact .inl hx) has) ha1
  have h2 := ones_ok (evArgs_ok E (fun x hx => by simp only [List.mem_append]; exact .inr hx) hbs) hb1
  obtain ⟨b, hbd⟩ : ∃ b : Gb, b = ⟨none, 0, 0, 0, .func (.func f) (p.map a.eval) (q.map a.eval)⟩ := ⟨_, rfl⟩
  have hle : g.le (g.set σ.nx b) := Gh.le_set (h.fresh (Nat.le_refl _))
  have hn := h.new (id := σ.nx) (Nat.le_refl _) (b := b) (x := .clo f as1 bs1) (Below.refl _ _) ⟨p.map a.eval, q.map a.eval, by rw [hbd], by simpa using h1.mono fun _ _ k => k.mono (Holds.refl _ _) hle, by simpa using h2.mono fun _ _ k => k.mono (Holds.refl _ _) hle⟩ (fun q hq => by rw [hbd] at hq; cases hq)
  have hv : VA (g.set σ.nx b) w (.clo σ.nx) (.func (.func f) (p.map a.eval) (q.map a.eval)) := VA.clo σ.nx b f _ _ (by simp [Gh.set]) (by rw [hbd])
  obtain ⟨σ2, hk, h2⟩ := hn.put hN (x := .one (.clo σ.nx)) hv hp
  refine wpIn_of_run hF (by simp [hop]) ?_ (hK _ _ _ _ hk h2)
  simp [execOp, hop, Instr.makeFunc]

end
end Go.Eng
