import Derived.Test.YtiaemhkkfjpdlaaEngS11
/- THE ENGINE, soundness, part 12: copy, slices that are made. -/
set_option linter.unusedSimpArgs false
set_option linter.unusedVariables false
set_option linter.unnecessarySimpa false
namespace Go.Eng
open Go Go.RowKit

section
variable {P : Program} {F : Fence} {n : Nat} {c : Cfg} {g g' : Gh} {r : Regs} {m : Mem} {a : Act} {w w' : World} {o : Oper} {R : Type} {k : St → Option R} {res : R}
variable {base : Nat} {w0 : World} {S0 : Nat → Prop} {N : Nat} {D : List Deferred} {sv : Nat → Value} {σ : St}

theorem run_copy0 {t e : TypeId} {i : TypeInfo} {ad ad2 : Option Addr} {dl dc sl sc : Nat} (ht : P.underlying t = some (.slice e)) (hj : P.info? e = some i) (h0 : Nat.min sl dl = 0) (ty : TypeId) :
    (Builtin.copy_ #[t, t] ty #[.slice ad dl dc, .slice ad2 sl sc]).run P w = .ok (goInt 0) w := by
  have hfc : (Builtin.firstCells i.size 0 (.slice ad2 sl sc)).run P w = .ok #[] w := by
    cases ad2 <;> simp [Builtin.firstCells, loadCells, loadCellsFrom]
  cases ad <;> simp [Builtin.copy_, run_underlying ht, Builtin.lenOf, run_sizeOf hj, h0, hfc, storeCells]

theorem w_copy (h : Rel base w0 S0 N D sv g σ a w) (C : CfgOK P c) (hN : c.N = N) (hF : WideF F) {K : Act → World → Prop} {Q : Exit → Act → World → Prop} (hK : ∀ g' σ' a' w', k σ' = some res → Rel base w0 S0 N D sv g' σ' a' w' → K a' w') {t e : TypeId} {x y : Operand}
    (hop : o.op = .call { callee := .builtin .copy, args := #[x, y], argTypes := #[t, t] }) {ti : TI} {τ0 : Ty} (hti : c.ti t = some ti) (htk : ti.k = .slice τ0 e) {px py : At} (hx : evA c σ.regs t x = some px) (hy : evA c σ.regs t y = some py)
    (hs0 : listOf σ.mem py (fun τ' src => copyW c o σ τ0 px τ' src k) = some res) : o.wpIn F n P a w K Q := by
  obtain ⟨i, d, T⟩ := C.ts t ti hti
  obtain ⟨rfl, j, hj, hjs, hjb⟩ := T.slice htk
  have E := h.env C [x, y]
  have hxv := E.evA (x := x) (by simp) hx
  have hyv := E.evA (x := y) (by simp) hy
  generalize hxe : a.eval x = vx at hxv
  generalize hye : a.eval y = vy at hyv
  obtain ⟨τ', src0, ad2, m2, c2, hs1, rfl, hm2, -, hsrc2⟩ := listOf_ok h.mem hyv hs0
  clear hs0
  subst hm2
  have hsrc2 := src_of hsrc2
  have e1 : (#[x, y].map a.eval) = #[vx, .slice ad2 src0.length c2] := by simp [hxe, hye]
  -- what the two places of a row share
  have key : ∀ {id off len : Nat} {τ : Ty} {l : List τ.T} {src : List τ.T} {b : Gb} {ad : Option Addr} {cp : Nat}, look id σ.mem = some (.row τ l) → τ.n = τ0.n → (src.length = src0.length ∧ Src g w τ src ad2) → g.m id = some b → off + len ≤ l.length → vx = .slice ad len cp →
      (len ≠ 0 → ∃ q, b.blk = some q ∧ ad = some ⟨q, off * τ.n, none⟩) → (σ.set id (.row τ (l.take off ++ (src.take len ++ (l.drop off).drop (min src.length len))))).put c o.dst (.one (.int .i64 (min src.length len : Nat))) k = some res → o.wpIn F n P a w K Q := by
    intro id off len τ l src b ad cp hl hn hss hm hle hvx hbk hp
    obtain ⟨hsl, hsrc⟩ := hss
    have hbr : BR g w b (.row τ l) := by
      obtain ⟨b', hm', hbr⟩ := h.mem id _ hl
      rw [hm] at hm'; cases hm'; exact hbr
    rw [hvx, ← hsl] at e1
    by_cases h0 : Nat.min src.length len = 0
    · have e2 : l.take off ++ (src.take len ++ (l.drop off).drop (min src.length len)) = l := by
        have : src.take len = [] := by
          have : (src.take len).length = 0 := by rw [List.length_take, Nat.min_comm]; exact h0
          exact List.length_eq_zero_iff.1 this
        have h0' : min src.length len = 0 := h0
        rw [this, h0']; simp
      rw [e2] at hp
      have h0' : min src.length len = 0 := h0
      rw [h0'] at hp
      obtain ⟨σ2, hk, hr2⟩ := (h.same hl).put (v := goInt 0) hN (x := .one (.int .i64 0)) (VA.int _ _) hp
      refine wpIn_of_run hF (by simp [hop]) ?_ (hK _ _ _ _ hk hr2)
      simp only [execOp, hop, resolve, Sem.run_bind, Sem.run_pure, Result.andThen_ok, invoke, builtin, e1, run_copy0 (P := P) (w := w) T.und hj h0]
    · have hpos : 0 < min src.length len := Nat.pos_of_ne_zero h0
      have hne : src ≠ [] := by intro e; subst e; simp at hpos
      obtain ⟨q, hb, had⟩ := hbk (by omega)
      obtain ⟨bk2, of2, vs, hadd, hvl, hvc, hve⟩ := hsrc hne
      have h3 := hbr.2.2
      rcases h3 with ⟨h3, _⟩ | ⟨q', cs, ec, hb', hh, hcs, hl', ho, ha⟩
      · rw [hb] at h3; cases h3
      · have hqq : q = q' := by rw [hb] at hb'; exact Option.some.inj hb'
        subst hqq
        have hsize : j.size = τ.n := by rw [hjs, hn]
        have hmin : min src.length len ≤ src.length := Nat.min_le_left _ _
        have hmin2 : min src.length len ≤ len := Nat.min_le_right _ _
        have hlc : l.length * τ.n ≤ cs.toList.length := by simp [hcs]; exact Nat.mul_le_mul_right _ hl'
        have htl : (src.take len).length = min src.length len := by rw [List.length_take, Nat.min_comm]
        have hvs' : (vs.take (len * τ.n)).length = (src.take len).length * τ.n := by
          rw [htl, List.length_take, hvl]
          rcases Nat.le_total src.length len with hc | hc
          · rw [Nat.min_eq_left hc, Nat.min_eq_right (Nat.mul_le_mul_right _ hc)]
          · rw [Nat.min_eq_right hc, Nat.min_eq_left (Nat.mul_le_mul_right _ hc)]
        have hfit : off * τ.n + (vs.take (len * τ.n)).length ≤ cs.size := by
          have : (off + min src.length len) * τ.n ≤ l.length * τ.n := Nat.mul_le_mul_right _ (by omega)
          rw [hvs', htl]; rw [Nat.add_mul] at this; simp at hlc; omega
        have hel : Elems g w τ (src.take len) (vs.take (len * τ.n)) := hve.take len
        have hone : ∀ u ∈ vs.take (len * τ.n), u.oneCell' = true := hel.one hvs'
        have hrun := run_copy (P := P) (w := w) (cs_n := 0) (q := q) (off := off * τ.n) (dl := len) (dc := cp) (cs := cs) (ec := ec) (ad2 := ad2) (sl := src.length) (sc := c2) (vs := vs.take (len * τ.n)) T.und hj hh (by rw [hvs', htl, hsize]) (fun _ => ⟨_, hadd, fun p u hu => by
          rw [add_none]
          refine hvc p u ?_
          rw [List.getElem?_take] at hu
          split at hu
          · exact hu
          · cases hu⟩) hfit hone o.type
        have hcs' : ∀ u ∈ cs.toList, u.oneCell' = true := ho
        have he : Elems g w τ l cs.toList := fun i x p y hx hy => by
          obtain ⟨v, hv, hr⟩ := ha i x p y hx hy
          exact ⟨v, by simpa using hv, hr⟩
        have hspl := he.splice hel hvs' (off := off) (by rw [htl]; omega) hlc
        rw [htl] at hspl
        rw [List.drop_drop] at hp
        refine w_copyRow h hN hF hK (l' := l.take off ++ (src.take len ++ l.drop (off + min src.length len))) hl hm hb hh hbr ?_ (new := (setVals cs.toList (off * τ.n) (vs.take (len * τ.n))).toArray) ?_ ?_ (by simpa using hspl) (nn := min src.length len) ?_ (by simp [hop]) hp
        · simp; omega
        · simp [setVals_length]
        · simpa using setVals_one (by simpa using hfit) hcs' hone
        · simp only [execOp, hop, resolve, Sem.run_bind, Sem.run_pure, Result.andThen_ok, invoke, builtin, e1, had, hrun]
  cases px <;> simp only [copyW, reduceCtorEq] at hs1
  case own id =>
    split at hs1
    · rename_i τ l hl
      split at hs1
      · rename_i hn
        have hn := Nat.eq_of_beq_eq_true hn
        obtain ⟨src, hcast, hs⟩ := ocase_some hs1
        obtain ⟨e9, hys⟩ := castL_ok hcast
        subst e9
        simp only at hys
        subst hys
        cases hxv with
        | own _ b ad hm hk h0 =>
          have hbr : BR g w b (.row τ' l) := by
            obtain ⟨b', hm', hbr⟩ := h.mem id _ hl
            rw [hm] at hm'; cases hm'; exact hbr
          have hlen := hbr.len
          refine key (off := 0) (len := l.length) (b := b) (ad := ad) (cp := b.cp) hl hn ⟨rfl, hsrc2⟩ hm (by omega) (by rw [hlen.1]) (fun hne => ?_) ?_
          · cases hbk : b.blk with
            | none => have := (h0 hbk).2; omega
            | some q => exact ⟨q, rfl, by rw [hk q hbk]; simp⟩
          · simp only [List.take_zero, List.nil_append, List.drop_zero]
            have e3 : l.drop (min src0.length l.length) = l.drop src0.length := by
              rcases Nat.le_total src0.length l.length with hc | hc
              · rw [Nat.min_eq_left hc]
              · rw [Nat.min_eq_right hc, List.drop_of_length_le hc, List.drop_length]
            rw [e3]
            exact hs
      · simp at hs1
    · simp at hs1
  case sub id off len =>
    split at hs1
    · rename_i τ l hl
      split at hs1
      · rename_i hn hle
        have hn := Nat.eq_of_beq_eq_true hn
        have hle := Nat.le_of_ble_eq_true hle
        obtain ⟨src, hcast, hs⟩ := ocase_some hs1
        obtain ⟨e9, hys⟩ := castL_ok hcast
        subst e9
        simp only at hys
        subst hys
        cases hxv with
        | sub _ _ _ b ad cc hm hl' hc hk =>
          have hbr : BR g w b (.row τ' l) := by
            obtain ⟨b', hm', hbr⟩ := h.mem id _ hl
            rw [hm] at hm'; cases hm'; exact hbr
          have hlen := hbr.len
          refine key (off := off) (len := len) (b := b) (ad := ad) (cp := cc) hl hn ⟨rfl, hsrc2⟩ hm hle rfl (fun hne => ?_) hs
          obtain ⟨q, h1, h2⟩ := hk (by omega)
          exact ⟨q, h1, by rw [h2, hlen.2.2]⟩
      · simp at hs1
    · simp at hs1

end
end Go.Eng
