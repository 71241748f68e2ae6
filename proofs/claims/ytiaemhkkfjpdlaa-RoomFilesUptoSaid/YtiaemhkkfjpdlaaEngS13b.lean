import Derived.Test.YtiaemhkkfjpdlaaEngS13
import Derived.Lib.Overlaps
import Derived.Laws.Externs
/- THE ENGINE, soundness, part 13b: capacities, rows written within their capacity, rows cleared. -/
set_option linter.unusedSimpArgs false
set_option linter.unusedVariables false
set_option linter.unnecessarySimpa false
namespace Go.Eng
open Go Go.RowKit

section
variable {P : Program} {F : Fence} {n : Nat} {c : Cfg} {g g' : Gh} {r : Regs} {m : Mem} {a : Act} {w w' : World} {o : Oper} {R : Type} {k : St → Option R} {res : R} {xs : List Operand}
variable {base : Nat} {w0 : World} {S0 : Nat → Prop} {N : Nat} {D : List Deferred} {sv : Nat → Value} {σ : St}

theorem capQ_some {α : Type} {n : Nat} {f : Nat → Option α} {y : α} (h : capQ n f = some y) : ∀ q, n ≤ q → f q = some y := by
  unfold capQ at h
  split at h
  · rename_i hx
    cases h
    exact Classical.choose_spec hx
  · cases h

theorem capQ_eq {α : Type} {n : Nat} {f : Nat → Option α} {y : α} (h : ∀ q, n ≤ q → f q = some y) : capQ n f = some y := by
  have hx : ∃ y, ∀ q, n ≤ q → f q = some y := ⟨y, h⟩
  unfold capQ
  rw [dif_pos hx]
  have h1 := Classical.choose_spec hx n (Nat.le_refl _)
  rw [h n (Nat.le_refl _)] at h1
  exact h1.symm

theorem w_cap (h : Rel base w0 S0 N D sv g σ a w) (C : CfgOK P c) (hN : c.N = N) (hF : WideF F) {K : Act → World → Prop} {Q : Exit → Act → World → Prop} (hK : ∀ g' σ' a' w', k σ' = some res → Rel base w0 S0 N D sv g' σ' a' w' → K a' w') {t : TypeId} {x : Operand}
    (hop : o.op = .call { callee := .builtin .cap, args := #[x], argTypes := #[t] }) {ti : TI} {τ0 : Ty} {e : TypeId} (hti : c.ti t = some ti) (htk : ti.k = .slice τ0 e) {px : At} (hx : evA c σ.regs t x = some px) (hs : capW c o σ px k = some res) : o.wpIn F n P a w K Q := by
  obtain ⟨i, d, T⟩ := C.ts t ti hti
  obtain ⟨rfl, j, hj, hjs, hjb⟩ := T.slice htk
  have E := h.env C [x]
  have hxv := E.evA (x := x) (by simp) hx
  generalize hxe : a.eval x = vx at hxv
  unfold capW at hs
  split at hs
  · rename_i id
    split at hs
    · rename_i τ l hl
      obtain ⟨b, hm, hbr⟩ := h.mem id _ hl
      have hlen := hbr.len
      cases hxv with
      | own _ b' ad hm' hk' h0 =>
        rw [hm] at hm'; cases hm'
        have hs1 := capQ_some hs b.cp (by have := hlen.2.1; have := hlen.1; omega)
        have hle : g.le (g.set σ.nx ⟨none, 0, 0, 0, default⟩) := Gh.le_set (h.fresh (Nat.le_refl _))
        have hn := h.new (id := σ.nx) (Nat.le_refl _) (w' := w) (b := ⟨none, 0, 0, 0, default⟩) (x := .capk (.own id) b.cp) (Below.refl _ _) ⟨rfl, ad, b.ln, (VA.own id b ad hm hk' h0).mono (Holds.refl _ _) hle⟩ (fun q hq => by cases hq)
        obtain ⟨σ2, hk, h2⟩ := hn.put (v := goInt b.cp) hN (x := .one (.int .i64 b.cp)) (VA.int _ _) hs1
        refine wpIn_of_run hF (by simp [hop]) ?_ (hK _ _ _ _ hk h2)
        have e1 : (#[x].map a.eval) = #[.slice ad b.ln b.cp] := by simp [hxe]
        simp [execOp, hop, resolve, invoke, builtin, e1, hxe, Builtin.cap_, run_underlying T.und]
    · simp at hs
  · simp at hs

theorem zero_get {z : Value} {q j : Nat} (hj : j < q * z.cells.size) : (Builtin.zeroCells z.cells q).toList[j]? = z.cells.toList[j % z.cells.size]? := by
  have h0 : 0 < z.cells.size := by
    rcases Nat.eq_zero_or_pos z.cells.size with h | h
    · rw [h] at hj; omega
    · exact h
  have hlt : j % z.cells.size < z.cells.size := Nat.mod_lt _ h0
  simp [Builtin.zeroCells, hj, hlt]

theorem elems_zero {τ : Ty} {z : Value} {zs : List At} {z0 : τ.T} (hz0 : τ.decC zs = some z0) (hzc : All2 (VA g w) zs z.cells.toList) (q : Nat) : Elems g w τ (List.replicate q z0) (Builtin.zeroCells z.cells q).toList := by
  intro i x j y hx hy
  have he := decC_enc τ hz0
  have hi : i < q := by simpa using (List.getElem?_eq_some_iff.1 hx).1
  have hj : j < τ.n := by rw [← enc_length τ x]; exact (List.getElem?_eq_some_iff.1 hy).1
  simp [List.getElem?_replicate, hi] at hx
  subst hx
  have hzn : z.cells.size = τ.n := by
    have := hzc.length
    have h1 := congrArg List.length he
    rw [enc_length] at h1
    simp at h1 this
    omega
  rw [he] at hy
  obtain ⟨v, hv, hr⟩ := hzc.unclip.get hy
  refine ⟨v, ?_, hr⟩
  have : (i + 1) * τ.n ≤ q * τ.n := Nat.mul_le_mul_right _ hi
  rw [Nat.succ_mul] at this
  rw [zero_get (by rw [hzn]; omega), hzn, Nat.mul_comm, Nat.mul_add_mod, Nat.mod_eq_of_lt hj]
  exact hv

/-- What a slice's first cells are. -/
theorem src_first {τ : Ty} {l : List τ.T} {ad : Option Addr} (h : Src g w τ l ad) (cc : Nat) : ∃ vs : List Value, vs.length = l.length * τ.n ∧ Elems g w τ l vs ∧ (Builtin.firstCells τ.n l.length (.slice ad l.length cc)).run P w.drew = .ok vs.toArray w.drew := by
  by_cases hne : l = []
  · subst hne
    refine ⟨[], by simp, Elems.nil, ?_⟩
    cases ad <;> simp [Builtin.firstCells, loadCells, loadCellsFrom]
  · obtain ⟨bk, of, vs, rfl, h1, h2, h3⟩ := h hne
    exact ⟨vs, h1, h3, run_firstCells_some (P := P) w.drew τ.n l.length ⟨bk, of, none⟩ l.length cc vs h1 (fun j u hu => by rw [add_none]; simpa using h2 j u hu)⟩

theorem w_appendMk (h : Rel base w0 S0 N D sv g σ a w) (C : CfgOK P c) (hN : c.N = N) (hF : WideF F) {K : Act → World → Prop} {Q : Exit → Act → World → Prop} (hK : ∀ g' σ' a' w', k σ' = some res → Rel base w0 S0 N D sv g' σ' a' w' → K a' w') {t t' e : TypeId} {x y : Operand}
    (hop : o.op = .call { callee := .builtin .append, args := #[x, y], argTypes := #[t, t'] }) {ti ti' te : TI} {τ : Ty} (hti : c.ti t = some ti) (htk : ti.k = .slice τ e) (hte : c.ti e = some te) {κ0 : IntKind} (hti' : c.ti t' = some ti') (htk' : ti'.k = .int κ0) {px : At} {κ : IntKind} {nn : Int} (hx : evA c σ.regs t x = some px) (hy : evA c σ.regs t' y = some (.int κ nn))
    {z0 : τ.T} (hz0 : τ.decC te.zero.cells = some z0) (hs : appendMk c o σ τ px z0 nn k = some res) : o.wpIn F n P a w K Q := by
  obtain ⟨i, d, T⟩ := C.ts t ti hti
  obtain ⟨rfl, j, hj, hjs, hjb⟩ := T.slice htk
  obtain ⟨i3, d3, T3⟩ := C.ts t' ti' hti'
  have e3 := T3.int htk'
  subst e3
  obtain ⟨i2, d2, T2⟩ := C.ts e te hte
  obtain rfl : i2 = j := by have := T2.info; rw [hj] at this; exact (Option.some.inj this).symm
  obtain ⟨z, hz, hzs, hzr⟩ := T2.zero
  have hzc := (hzr g w).cells
  have hzsz : z.cells.size = te.size := hzs
  have hts : te.size = τ.n := by rw [← T2.size, hjs]
  have E := h.env C [x, y]
  have hxv := E.evA (x := x) (by simp) hx
  have hyv := E.evA (x := y) (by simp) hy
  generalize hxe : a.eval x = vx at hxv
  generalize hye : a.eval y = vy at hyv
  cases hyv
  unfold appendMk at hs
  split at hs
  · rename_i id off m
    split at hs
    · rename_i τ1 l cp hl hcp
      rcases bcase_some hs with ⟨h0, hs⟩ | ⟨_, hs⟩
      rotate_left
      · simp at hs
      obtain ⟨hlim, hs⟩ := lcase_some hs
      rcases bcase_some hs with ⟨h1, hs⟩ | ⟨_, hs⟩
      rotate_left
      · simp at hs
      rcases bcase_some hs with ⟨h2, hs⟩ | ⟨_, hs⟩
      rotate_left
      · simp at hs
      obtain ⟨l', hcast, hs⟩ := ocase_some hs
      obtain ⟨e9, hll⟩ := castL_ok hcast
      subst e9
      simp only at hll
      subst hll
      simp only [decide_eq_true_eq] at h0
      have h1 := Nat.le_of_ble_eq_true h1
      have h2 : cp - off < m + nn.toNat := Nat.le_of_ble_eq_true h2
      obtain ⟨b, hm, hbr⟩ := h.mem id _ hl
      have hcpb := capIn_cp h.mem hcp hm
      cases hxv with
      | sub _ _ _ b' ad cc hm' hl' hc hk =>
        have hbb : b = b' := by rw [hm] at hm'; exact Option.some.inj hm'
        subst hbb
        obtain ⟨τ9, l9, ad9, n9, c9, hk9, e9, hl9, _, hs9⟩ := listOf_ok (kk := fun τ l => some (Sigma.mk τ l)) (res := (Sigma.mk τ1 ((l.drop off).take m) : (τ : Ty) × List τ.T)) h.mem (VA.sub id off m b ad cc hm hl' hc hk) (by simp [listOf, hl, Nat.ble_eq_true_of_le h1])
        cases hk9
        cases e9
        have hsrc := src_of hs9
        obtain ⟨vs, hvl, hve, hfc⟩ := src_first (P := P) hsrc cc
        have hlm : ((l.drop off).take m).length = m := by simp; omega
        rw [hlm] at hvl hfc
        obtain ⟨need, hneed⟩ : ∃ need, need = m + nn.toNat := ⟨_, rfl⟩
        have hgr : cc < need := by omega
        have hfit : need * i2.bytes ≤ 140737488355328 := by
          have : need * i2.bytes ≤ LIM * 4096 := Nat.mul_le_mul (by omega) hjb
          unfold LIM at this; omega
        have hgs := growslice_fits (bytes := i2.bytes) hgr hfit
        have hzo := cells_zeros hzc.one
        have hzn : z.cells.size = τ1.n := by rw [hzsz, hts]
        obtain ⟨cs, hcs⟩ : ∃ cs : Array Value, cs = vs.toArray ++ Builtin.zeroCells z.cells nn.toNat ++ Builtin.zeroCells z.cells (grownCap w need cc e - need) := ⟨_, rfl⟩
        have hrun : (Builtin.append_ #[t, t'] o.type #[.slice ad m cc, .int κ nn]).run P w = .ok (.slice (some ⟨w.heap.size, 0, none⟩) need (grownCap w need cc e)) (w.drew.alloc (.cells cs e)) := by
          have w64 : IntKind.i64.wrap nn = nn := by unfold LIM at hlim; simp [IntKind.wrap, IntKind.bits, IntKind.signed]; omega
          have l0 : ¬ nn < 0 := by omega
          have l1 : ¬ 281474976710656 < nn * (i2.bytes : Int) := by
            have h3 : nn.toNat * i2.bytes ≤ LIM * 4096 := Nat.mul_le_mul (by omega) hjb
            unfold LIM at h3
            have h4 : nn = (nn.toNat : Int) := by omega
            rw [h4, ← Int.natCast_mul]; omega
          have l2 : ¬ need ≤ cc := by omega
          have l3 : ¬ (9223372036854775807 < (need : Int)) := by unfold LIM at hlim; omega
          have l4 : ¬ 281474976710656 < Builtin.nextslicecap need cc * i2.bytes := by omega
          have l5 : ¬ (9223372036854775807 < (m : Int) + max nn 0) := by rw [Int.max_eq_left h0]; unfold LIM at hlim; omega
          have hz9 : nn.toNat * τ1.n = 0 → Builtin.zeroCells z.cells nn.toNat = #[] := fun h5 => by
            apply Array.eq_empty_of_size_eq_zero
            rw [size_zeroCells, hzn]; exact h5
          rw [hcs]
          have hfc' : (Builtin.firstCells i2.size m (.slice ad m cc)).run P w.drew = .ok vs.toArray w.drew := by rw [hjs]; exact hfc
          by_cases h5 : nn.toNat * i2.size = 0
          · have h6 := hz9 (by rw [← hjs]; exact h5)
            simp [Builtin.append_, run_underlying T.und, run_underlying T3.und, sizeOf, typeInfo, zeroValue, hj, hz, asInt, asIntOf, w64, l0, l1, l2, l3, l4, l5, ← hneed, Question.forced, hfc', newRow, grownCap, h5, h6]
          · simp [Builtin.append_, run_underlying T.und, run_underlying T3.und, sizeOf, typeInfo, zeroValue, hj, hz, asInt, asIntOf, w64, l0, l1, l2, l3, l4, l5, ← hneed, Question.forced, hfc', newRow, grownCap, h5]
        have hcap : need ≤ grownCap w need cc e := grownCap_ge w need cc e
        have hcsz : cs.size = grownCap w need cc e * τ1.n := by
          rw [hcs]
          simp only [Array.size_append, List.size_toArray, size_zeroCells, hvl, hzn]
          rw [← Nat.add_mul, ← Nat.add_mul]; congr 1; omega
        have hzel := elems_zero hz0 hzc nn.toNat
        have hcse : Elems g w τ1 ((l.drop off).take m ++ List.replicate nn.toNat z0) cs.toList := by
          rw [hcs]
          simp only [Array.toList_append]
          exact (hve.append (by rw [hlm]; exact hvl) hzel).more _
        have hone : ∀ u ∈ cs.toList, u.oneCell' = true := by
          intro u hu
          rw [hcs] at hu
          simp only [Array.toList_append, List.mem_append] at hu
          rcases hu with (hu | hu) | hu
          · exact hve.one (by rw [hlm]; exact hvl) u hu
          · exact hzo _ u hu
          · exact hzo _ u hu
        have hlen9 : ((l.drop off).take m ++ List.replicate nn.toNat z0).length = need := by simp; omega
        obtain ⟨g1, h1, hv⟩ := h.newRow (w' := w.drew.alloc (.cells cs e)) (τ := τ1) (l := (l.drop off).take m ++ List.replicate nn.toNat z0) (cs := cs) (e := e) (cp := grownCap w need cc e) rfl rfl rfl rfl hcsz (by rw [hlen9]; exact hcap) hone hcse
        rw [hlen9] at hv
        obtain ⟨σ2, hk2, h2⟩ := h1.put hN (x := .one (.own σ.nx)) hv hs
        refine wpIn_of_run hF (by simp [hop]) ?_ (hK _ _ _ _ hk2 h2)
        have e1 : (#[x, y].map a.eval) = #[.slice ad m cc, .int κ nn] := by simp [hxe, hye]
        simp only [execOp, hop, resolve, Sem.run_bind, Sem.run_pure, Result.andThen_ok, invoke, builtin, e1, hrun]
    · simp at hs
  · simp at hs

theorem w_copySS (h : Rel base w0 S0 N D sv g σ a w) (C : CfgOK P c) (hN : c.N = N) (hF : WideF F) {K : Act → World → Prop} {Q : Exit → Act → World → Prop} (hK : ∀ g' σ' a' w', k σ' = some res → Rel base w0 S0 N D sv g' σ' a' w' → K a' w') {t e : TypeId} {x y : Operand}
    (hop : o.op = .call { callee := .builtin .copy, args := #[x, y], argTypes := #[t, t] }) {ti : TI} {τ0 : Ty} (hti : c.ti t = some ti) (htk : ti.k = .slice τ0 e) {id off len id2 off2 len2 : Nat} (hx : evA c σ.regs t x = some (.sub id off len)) (hy : evA c σ.regs t y = some (.sub id2 off2 len2))
    (hs : copySS c o σ τ0 id off len id2 off2 len2 k = some res) : o.wpIn F n P a w K Q := by
  obtain ⟨i, d, T⟩ := C.ts t ti hti
  obtain ⟨rfl, j, hj, hjs, hjb⟩ := T.slice htk
  have E := h.env C [x, y]
  have hxv := E.evA (x := x) (by simp) hx
  have hyv := E.evA (x := y) (by simp) hy
  generalize hxe : a.eval x = vx at hxv
  generalize hye : a.eval y = vy at hyv
  unfold copySS at hs
  split at hs
  · rename_i τ l τ2 l2 hl hl2
    split at hs
    · rename_i hn
      have hn := Nat.eq_of_beq_eq_true hn
      rcases bcase_some hs with ⟨h1, hs⟩ | ⟨_, hs⟩
      rotate_left
      · simp at hs
      rcases bcase_some hs with ⟨h2, hs⟩ | ⟨_, hs⟩
      rotate_left
      · simp at hs
      have h1 := Nat.le_of_ble_eq_true h1
      have h2 := Nat.le_of_ble_eq_true h2
      obtain ⟨l2', hcast, hs⟩ := ocase_some hs
      obtain ⟨e9, hll⟩ := castL_ok hcast
      subst e9
      simp only at hll
      subst hll
      obtain ⟨b, hm, hbr⟩ := h.mem id _ hl
      have hlen := hbr.len
      cases hxv with
      | sub _ _ _ b' ad cc hm' hl' hc hk =>
        rw [hm] at hm'; cases hm'
        cases hyv with
        | sub _ _ _ b2 ad2 cc2 hm2 hl2' hc2 hk2 =>
          have e1 : (#[x, y].map a.eval) = #[.slice ad len cc, .slice ad2 len2 cc2] := by simp [hxe, hye]
          obtain ⟨q, hq⟩ : ∃ q, q = min len2 len := ⟨_, rfl⟩
          rw [← hq] at h1 hs
          obtain ⟨src, hsrcd⟩ : ∃ src, src = (l2.drop off2).take q := ⟨_, rfl⟩
          rw [← hsrcd] at hs
          have hsl : src.length = q := by rw [hsrcd]; simp; omega
          have hsrc : Src g w τ2 src ad2 := by
            obtain ⟨τ9, l9, ad9, n9, c9, hk9, e9, hl9, _, hs9⟩ := listOf_ok (kk := fun τ l => some (Sigma.mk τ l)) (res := (Sigma.mk τ2 ((l2.drop off2).take q) : (τ : Ty) × List τ.T)) h.mem (VA.sub id2 off2 q b2 ad2 cc2 hm2 (by omega) hc2 hk2) (by simp [listOf, hl2, Nat.ble_eq_true_of_le h1])
            cases hk9
            cases e9
            rw [hsrcd]
            exact src_of hs9
          by_cases h0 : q = 0
          · have hs0 : src = [] := List.length_eq_zero_iff.1 (by omega)
            have e2 : l.take off ++ (src ++ l.drop (off + q)) = l := by rw [hs0, h0]; simp
            rcases bcase_some hs with ⟨_, hs⟩ | ⟨h3, hs⟩
            · rw [e2] at hs
              rw [h0] at hs
              obtain ⟨σ2, hk3, hr2⟩ := (h.same hl).put (v := goInt 0) hN (x := .one (.int .i64 0)) (VA.int _ _) hs
              refine wpIn_of_run hF (by simp [hop]) ?_ (hK _ _ _ _ hk3 hr2)
              simp only [execOp, hop, resolve, Sem.run_bind, Sem.run_pure, Result.andThen_ok, invoke, builtin, e1, run_copy0 (P := P) (w := w) (dl := len) (sl := len2) T.und hj (by rw [← h0, hq])]
            · rw [h0] at h3
              have : Nat.ble (off + 0) l.length = true := Nat.ble_eq_true_of_le (by omega)
              rw [this] at h3; cases h3
          · have hne : src ≠ [] := by intro e; subst e; simp at hsl; omega
            obtain ⟨bq, hb, had⟩ := hk (by omega)
            obtain ⟨bk2, of2, vs, hadd, hvl, hvc, hve⟩ := hsrc hne
            obtain ⟨g1, g2, g3⟩ := hbr
            rcases g3 with ⟨g3, _⟩ | ⟨q', cs, ec, hb', hh, hcs, hl'', ho, ha⟩
            · rw [hb] at g3; cases g3
            · have hqq : bq = q' := by rw [hb] at hb'; exact Option.some.inj hb'
              subst hqq
              have hsize : j.size = τ2.n := by rw [hjs, hn]
              have hlc : l.length * τ2.n ≤ cs.toList.length := by simp [hcs]; exact Nat.mul_le_mul_right _ hl''
              have hfit : off * τ2.n + vs.length ≤ cs.size := by
                have : (off + q) * τ2.n ≤ b.cp * τ2.n := Nat.mul_le_mul_right _ (by omega)
                rw [hvl, hsl, hcs]; rw [Nat.add_mul] at this; exact this
              have hone := hve.one hvl
              have hrun := run_copy (P := P) (w := w) (cs_n := 0) (q := bq) (off := off * τ2.n) (dl := len) (dc := cc) (cs := cs) (ec := ec) (ad2 := ad2) (sl := len2) (sc := cc2) (vs := vs) T.und hj hh (by rw [hvl, hsl, hsize, hq]) (fun _ => ⟨_, hadd, fun p u hu => by rw [add_none]; exact hvc p u hu⟩) hfit hone o.type
              have he : Elems g w τ2 l cs.toList := fun i x p y hx hy => by
                obtain ⟨v, hv, hr⟩ := ha i x p y hx hy
                exact ⟨v, by simpa using hv, hr⟩
              have hexec : (execOp a.eval o).run P w = .ok (.value (goInt (q : Nat))) (w.setRow bq (setVals cs.toList (off * τ2.n) vs).toArray) := by
                have hmin : Nat.min len2 len = q := hq.symm
                rw [hmin] at hrun
                simp only [execOp, hop, resolve, Sem.run_bind, Sem.run_pure, Result.andThen_ok, invoke, builtin, e1, had, g1, hrun]
              rcases bcase_some hs with ⟨h3, hs⟩ | ⟨h3, hs⟩
              · have h3 := Nat.le_of_ble_eq_true h3
                have hspl := he.splice hve hvl (off := off) (by rw [hsl]; exact h3) hlc
                rw [hsl] at hspl
                have hset := h.writeRow (l' := l.take off ++ (src ++ l.drop (off + q))) (new := (setVals cs.toList (off * τ2.n) vs).toArray) hl hm hb hh ⟨g1, g2, .inr ⟨bq, cs, ec, hb, hh, hcs, hl'', ho, ha⟩⟩ (by simp; omega) (by simp [setVals_length]) (by simpa using setVals_one (by simpa using hfit) ho hone) (by simpa using hspl)
                obtain ⟨σ2, hk3, hr2⟩ := hset.put (v := goInt (q : Nat)) hN (x := .one (.int .i64 (q : Nat))) (VA.int _ _) hs
                exact wpIn_of_run hF (by simp [hop]) hexec (hK _ _ _ _ hk3 hr2)
              · have h3 : ¬ off + q ≤ l.length := fun e => by rw [Nat.ble_eq_true_of_le e] at h3; cases h3
                obtain ⟨bn, hbn⟩ : ∃ bn : Gb, bn = ⟨b.blk, off + q, b.cp, b.sz, b.val⟩ := ⟨_, rfl⟩
                obtain ⟨f1, f2, f3, f4, f5⟩ := setRow_facts w bq (setVals cs.toList (off * τ2.n) vs).toArray
                obtain ⟨new, hnew⟩ : ∃ new, new = (setVals cs.toList (off * τ2.n) vs).toArray := ⟨_, rfl⟩
                rw [← hnew] at f1 f2 f3 f4 f5 hexec
                have hnl : new.size = cs.size := by rw [hnew]; simp [setVals_length]
                have hno : ∀ u ∈ new.toList, u.oneCell' = true := by rw [hnew]; simpa using setVals_one (by simpa using hfit) ho hone
                have hel : Elems g w τ2 (l.take off ++ src) new.toList := by
                  rw [hnew]
                  simp only [List.toList_toArray]
                  rw [setVals_eq _ _ _ (by simpa using hfit)]
                  refine ((he.take off).append ?_ hve).more _
                  simp
                  rw [Nat.min_eq_left (by omega), Nat.min_eq_left (by
                    have : off * τ2.n ≤ l.length * τ2.n := Nat.mul_le_mul_right _ h2
                    simp at hlc; omega)]
                have hll : (l.take off ++ src).length = off + q := by simp; omega
                have hrw := h.rewriteF (w' := w.setRow bq new) (b' := bn) (y := .row τ2 (l.take off ++ src)) (scrubOwn id) hl rfl hm (by rw [f4]; exact Nat.le_refl _) ⟨f1, f2, f3⟩ (fun p hp hne' => f5 p (fun e' => hne' (by rw [e']; exact hb))) (fun p hp => by
                  rw [hbn] at hp; exact ⟨.inl hp, by rw [f4]; exact h.blk id b p hm hp⟩) (fun hH => by
                  have hle : ∀ {x v}, pureA x = true → VA g w x v → VA (g.set id bn) (w.setRow bq new) x v := fun hp hv => (hv.pure (g' := ⟨g.S, fun _ => none⟩) hp (fun _ h => h)).mono hH ⟨fun _ h => h, fun _ _ h => by cases h⟩
                  refine ⟨by rw [hbn]; exact g1, by rw [hbn, hll], .inr ⟨bq, new, ec, by rw [hbn]; exact hb, setRow_heap w bq cs _ ec _ hh, by rw [hnl, hcs, hbn], by rw [hll, hbn]; show off + q ≤ b.cp; omega, hno, ?_⟩⟩
                  intro i x p y hx hy
                  obtain ⟨v, hv, hr⟩ := hel i x p y hx hy
                  exact ⟨v, by simpa using hv, hle (enc_pure _ _ _ _ hy) hr⟩) (fun hH x v hv => hv.regrow hH hm (by rw [hbn]) (by rw [hbn]) (by rw [hbn]) (by rw [hbn]))
                obtain ⟨σ2, hk3, hr2⟩ := hrw.put (v := goInt (q : Nat)) hN (x := .one (.int .i64 (q : Nat))) (VA.int _ _) hs
                exact wpIn_of_run hF (by simp [hop]) hexec (hK _ _ _ _ hk3 hr2)
    · simp at hs
  · simp at hs

theorem w_clear (h : Rel base w0 S0 N D sv g σ a w) (C : CfgOK P c) (hN : c.N = N) (hF : WideF F) {K : Act → World → Prop} {Q : Exit → Act → World → Prop} (hK : ∀ g' σ' a' w', k σ' = some res → Rel base w0 S0 N D sv g' σ' a' w' → K a' w') {t e : TypeId} {x : Operand}
    (hop : o.op = .call { callee := .builtin .clear, args := #[x], argTypes := #[t] }) {ti te : TI} {τ0 : Ty} (hti : c.ti t = some ti) (htk : ti.k = .slice τ0 e) (hte : c.ti e = some te) {px : At} (hx : evA c σ.regs t x = some px)
    (hs : clearW c o σ τ0 te.zero.cells px k = some res) : o.wpIn F n P a w K Q := by
  obtain ⟨i, d, T⟩ := C.ts t ti hti
  obtain ⟨rfl, j, hj, hjs, hjb⟩ := T.slice htk
  obtain ⟨i2, d2, T2⟩ := C.ts e te hte
  obtain rfl : i2 = j := by have := T2.info; rw [hj] at this; exact (Option.some.inj this).symm
  obtain ⟨z, hz, hzs, hzr⟩ := T2.zero
  have hzc := (hzr g w).cells
  have hzsz : z.cells.size = te.size := hzs
  have hts : te.size = τ0.n := by rw [← T2.size, hjs]
  have E := h.env C [x]
  have hxv := E.evA (x := x) (by simp) hx
  generalize hxe : a.eval x = vx at hxv
  unfold clearW at hs
  split at hs
  · rename_i id off m
    split at hs
    · rename_i τ l hl
      split at hs
      · rename_i hn
        have hn := Nat.eq_of_beq_eq_true hn
        obtain ⟨z0, hz0, hs⟩ := ocase_some hs
        rcases bcase_some hs with ⟨h1, hs⟩ | ⟨_, hs⟩
        rotate_left
        · simp at hs
        have h1 := Nat.le_of_ble_eq_true h1
        obtain ⟨b, hm, hbr⟩ := h.mem id _ hl
        cases hxv with
        | sub _ _ _ b' ad cc hm' hl' hc hk =>
          rw [hm] at hm'; cases hm'
          have e1 : (#[x].map a.eval) = #[.slice ad m cc] := by simp [hxe]
          by_cases h0 : m = 0
          · subst h0
            have e2 : l.take off ++ (List.replicate 0 z0 ++ l.drop (off + 0)) = l := by simp
            rw [e2] at hs
            obtain ⟨σ2, hk2, h2⟩ := (h.same hl).put (v := .tuple #[]) hN (x := .tup []) ⟨[], rfl, .nil⟩ hs
            refine wpIn_of_run hF (by simp [hop]) ?_ (hK _ _ _ _ hk2 h2)
            cases ad <;> simp [execOp, hop, resolve, invoke, builtin, e1, hxe, Builtin.clear_, run_underlying T.und]
          · obtain ⟨q, hb, had⟩ := hk (by omega)
            subst had
            obtain ⟨g1, g2, g3⟩ := hbr
            rcases g3 with ⟨g3, _⟩ | ⟨q', cs, ec, hb', hh, hcs, hl'', ho, ha⟩
            · rw [hb] at g3; cases g3
            · have hqq : q = q' := by rw [hb] at hb'; exact Option.some.inj hb'
              subst hqq
              have hzn : z.cells.size = τ.n := by rw [hzsz, hts, hn]
              have hvl : (Builtin.zeroCells z.cells m).toList.length = (List.replicate m z0).length * τ.n := by
                rw [Array.length_toList, size_zeroCells, hzn]; simp
              have hlc : l.length * τ.n ≤ cs.toList.length := by simp [hcs]; exact Nat.mul_le_mul_right _ hl''
              have hfit : off * τ.n + (Builtin.zeroCells z.cells m).toList.length ≤ cs.size := by
                have : (off + m) * τ.n ≤ l.length * τ.n := Nat.mul_le_mul_right _ h1
                rw [hvl]; rw [Nat.add_mul] at this; simp at hlc ⊢; omega
              have hve := elems_zero hz0 hzc m
              have hone := hve.one hvl
              have hst := run_storeCells_at P q (off * τ.n) ec (Builtin.zeroCells z.cells m).toList 0 cs w hh (by simpa using hfit) hone
              simp only [Nat.add_zero] at hst
              have he : Elems g w τ l cs.toList := fun i x p y hx hy => by
                obtain ⟨v, hv, hr⟩ := ha i x p y hx hy
                exact ⟨v, by simpa using hv, hr⟩
              have hspl := he.splice hve hvl (off := off) (by simpa using h1) hlc
              rw [List.length_replicate] at hspl
              have hset := h.writeRow (l' := l.take off ++ (List.replicate m z0 ++ l.drop (off + m))) (new := (setVals cs.toList (off * τ.n) (Builtin.zeroCells z.cells m).toList).toArray) hl hm hb hh ⟨g1, g2, .inr ⟨q, cs, ec, hb, hh, hcs, hl'', ho, ha⟩⟩ (by simp; omega) (by simp [setVals_length]) (by simpa using setVals_one (by simpa using hfit) ho hone) (by simpa using hspl)
              obtain ⟨σ2, hk2, h2⟩ := hset.put (v := .tuple #[]) hN (x := .tup []) ⟨[], rfl, .nil⟩ hs
              refine wpIn_of_run hF (by simp [hop]) ?_ (hK _ _ _ _ hk2 h2)
              rw [setVals_eq _ _ _ (by simpa using hfit)]
              simp [execOp, hop, resolve, invoke, builtin, e1, hxe, Builtin.clear_, run_underlying T.und, h0, zeroValue, typeInfo, hj, hz, g1, hst]
      · simp at hs
    · simp at hs
  · simp at hs

end
end Go.Eng
