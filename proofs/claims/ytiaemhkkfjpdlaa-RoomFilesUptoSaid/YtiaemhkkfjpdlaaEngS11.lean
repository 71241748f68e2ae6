import Derived.Test.YtiaemhkkfjpdlaaEngS10
/- THE ENGINE, soundness, part 11: append, copy, slices that are made, closures, calls. -/
set_option linter.unusedSimpArgs false
set_option linter.unusedVariables false
set_option linter.unnecessarySimpa false
namespace Go.Eng
open Go Go.RowKit

section
variable {P : Program} {F : Fence} {n : Nat} {c : Cfg} {g g' : Gh} {r : Regs} {m : Mem} {a : Act} {w w' : World} {o : Oper} {R : Type} {k : St → Option R} {res : R}
variable {base : Nat} {w0 : World} {S0 : Nat → Prop} {N : Nat} {D : List Deferred} {sv : Nat → Value} {σ : St}

theorem Elems.drop {τ : Ty} {l : List τ.T} {vs : List Value} (h : Elems g w τ l vs) (q : Nat) : Elems g w τ (l.drop q) (vs.drop (q * τ.n)) := by
  intro i x j y hx hy
  rw [List.getElem?_drop] at hx
  obtain ⟨v, hv, hr⟩ := h _ x j y hx hy
  refine ⟨v, ?_, hr⟩
  rw [List.getElem?_drop, ← hv]
  congr 1
  rw [Nat.add_mul]; omega

theorem Elems.take {τ : Ty} {l : List τ.T} {vs : List Value} (h : Elems g w τ l vs) (q : Nat) : Elems g w τ (l.take q) (vs.take (q * τ.n)) := by
  intro i x j y hx hy
  have hi : i < q := by
    rcases Nat.lt_or_ge i q with h' | h'
    · exact h'
    · rw [List.getElem?_eq_none (by simp; omega)] at hx; cases hx
  rw [List.getElem?_take_of_lt hi] at hx
  obtain ⟨v, hv, hr⟩ := h _ x j y hx hy
  have hj : j < τ.n := by rw [← enc_length τ x]; exact (List.getElem?_eq_some_iff.1 hy).1
  refine ⟨v, ?_, hr⟩
  rw [List.getElem?_take_of_lt, hv]
  have : (i + 1) * τ.n ≤ q * τ.n := Nat.mul_le_mul_right _ hi
  rw [Nat.succ_mul] at this; omega

theorem Elems.splice {τ : Ty} {l s : List τ.T} {cs vs : List Value} {off : Nat} (h : Elems g w τ l cs) (hs : Elems g w τ s vs) (hv : vs.length = s.length * τ.n) (hl : off + s.length ≤ l.length) (hc : l.length * τ.n ≤ cs.length) :
    Elems g w τ (l.take off ++ (s ++ l.drop (off + s.length))) (setVals cs (off * τ.n) vs) := by
  have h1 : off * τ.n + s.length * τ.n ≤ l.length * τ.n := by rw [← Nat.add_mul]; exact Nat.mul_le_mul_right _ hl
  rw [setVals_eq _ _ _ (by omega), List.append_assoc]
  refine (h.take off).append ?_ (hs.append hv ?_)
  · simp; rw [Nat.min_eq_left (by omega), Nat.min_eq_left (by omega)]
  · have := h.drop (off + s.length)
    rw [Nat.add_mul, ← hv] at this
    exact this

theorem Rel.same (h : Rel base w0 S0 N D sv g σ a w) {id : Nat} {x : AB} (hx : look id σ.mem = some x) : Rel base w0 S0 N D sv g (σ.set id x) a w := by
  have e : ∀ i, look i (σ.set id x).mem = look i σ.mem := fun i => by
    simp only [St.set, look_cons]
    split
    · rename_i e; subst e; exact hx.symm
    · rfl
  exact { regs := h.regs, size := h.size, dfr := h.dfr, mem := fun i z hz => h.mem i z (by rw [← e]; exact hz), inj := fun i i' z z' b b' q h1 h2 => h.inj i i' z z' b b' q (by rw [← e]; exact h1) (by rw [← e]; exact h2), own := fun i z b q h1 => h.own i z b q (by rw [← e]; exact h1), S := h.S, blk := h.blk, nx := h.nx, bel := h.bel, bs := h.bs, sub := h.sub }

theorem setVals_one {l u : List Value} {off : Nat} (h : off + u.length ≤ l.length) (h1 : ∀ v ∈ l, v.oneCell' = true) (h2 : ∀ v ∈ u, v.oneCell' = true) : ∀ v ∈ setVals l off u, v.oneCell' = true := by
  intro v hv
  rw [setVals_eq _ _ _ h] at hv
  simp only [List.mem_append] at hv
  rcases hv with (hv | hv) | hv
  · exact h1 v (List.mem_of_mem_take hv)
  · exact h2 v hv
  · exact h1 v (List.mem_of_mem_drop hv)

/-- A new row, in a new block. -/
theorem Rel.newRow (h : Rel base w0 S0 N D sv g σ a w) {τ : Ty} {l : List τ.T} {cs : Array Value} {e : TypeId} {cp : Nat} (hh : w'.heap = w.heap.push (.cells cs e (0, 0))) (h1 : w'.os = w.os) (h2 : w'.tape = w.tape) (h3 : w'.output = w.output)
    (hsz : cs.size = cp * τ.n) (hl : l.length ≤ cp) (ho : ∀ u ∈ cs.toList, u.oneCell' = true) (he : Elems g w τ l cs.toList) :
    ∃ g', Rel base w0 S0 N D sv g' (σ.new (.row τ l)) a w' ∧ VA g' w' (.own σ.nx) (.slice (some ⟨w.heap.size, 0, none⟩) l.length cp) := by
  have hb := Below.push hh h1 h2 h3
  obtain ⟨b, hbd⟩ : ∃ b : Gb, b = ⟨some w.heap.size, l.length, cp, τ.n, default⟩ := ⟨_, rfl⟩
  have hle : g.le (g.set σ.nx b) := Gh.le_set (h.fresh (Nat.le_refl _))
  refine ⟨g.set σ.nx b, h.new (Nat.le_refl _) hb ⟨by rw [hbd], by rw [hbd], .inr ⟨w.heap.size, cs, e, by rw [hbd], heap_push hh, by rw [hbd]; exact hsz, by rw [hbd]; exact hl, ho, ?_⟩⟩ (fun q hq => ?_), ?_⟩
  · intro i x j y hx hy
    obtain ⟨v, hv, hr⟩ := he i x j y hx hy
    exact ⟨v, by simpa using hv, hr.mono (Holds.of_below h.S hb) hle⟩
  · rw [hbd] at hq; cases hq; exact ⟨Nat.le_refl _, by rw [hh]; simp⟩
  · have := VA.own (g := g.set σ.nx b) (w := w') σ.nx b (some ⟨w.heap.size, 0, none⟩) (by simp [Gh.set]) (fun q hq => by rw [hbd] at hq; cases hq; rfl) (fun hn => by rw [hbd] at hn; cases hn)
    rw [hbd] at this ⊢
    exact this

/-- A new row without memory. -/
theorem Rel.newNil (h : Rel base w0 S0 N D sv g σ a w) (τ : Ty) (ad : Option Addr) : ∃ g', Rel base w0 S0 N D sv g' (σ.new (.row τ [])) a w ∧ VA g' w (.own σ.nx) (.slice ad 0 0) := by
  refine ⟨g.set σ.nx ⟨none, 0, 0, τ.n, default⟩, h.new (Nat.le_refl _) (Below.refl _ _) ⟨rfl, rfl, .inl ⟨rfl, rfl, rfl⟩⟩ (fun q hq => by cases hq), ?_⟩
  exact VA.own σ.nx ⟨none, 0, 0, τ.n, default⟩ ad (by simp [Gh.set]) (fun q hq => by cases hq) (fun _ => ⟨rfl, rfl⟩)

/-- A row whose elements are written over by others. -/
theorem Rel.writeRow (h : Rel base w0 S0 N D sv g σ a w) {id : Nat} {τ : Ty} {l l' : List τ.T} {b : Gb} {q : Nat} {cs : Array Value} {ec : TypeId}
    (hl : look id σ.mem = some (.row τ l)) (hm : g.m id = some b) (hb : b.blk = some q) (hh : w.heap[q]? = some (.cells cs ec (0, 0))) (hbr : BR g w b (.row τ l)) (hll : l'.length = l.length) {new : Array Value} (hnl : new.size = cs.size) (hno : ∀ u ∈ new.toList, u.oneCell' = true) (hel : Elems g w τ l' new.toList) :
    Rel base w0 S0 N D sv g (σ.set id (.row τ l')) a (w.setRow q new) := by
  obtain ⟨f1, f2, f3, f4, f5⟩ := setRow_facts w q new
  obtain ⟨h1, h2, h3⟩ := hbr
  exact h.set (y := .row τ l') hl rfl hm hb f4 f5 ⟨f1, f2, f3⟩ (fun hH => by
    have hH' := hH g (fun j hj e' => by subst e'; exact (h.own id _ b j hl rfl hm hb).2 hj)
    rcases h3 with ⟨h3, _⟩ | ⟨q', cs', e', hb', hh', hcs, hl', ho, ha⟩
    · rw [hb] at h3; cases h3
    · have : q = q' := by rw [hb] at hb'; exact Option.some.inj hb'
      subst this
      rw [hh] at hh'
      cases hh'
      refine ⟨h1, by rw [h2, hll], .inr ⟨q, new, ec, hb, setRow_heap w q cs _ ec _ hh, by rw [hnl, hcs], by rw [hll]; exact hl', hno, ?_⟩⟩
      intro i x j y hx hy
      obtain ⟨v, hv, hr⟩ := hel i x j y hx hy
      exact ⟨v, by simpa using hv, hr.mono hH' (Gh.le.refl g)⟩)

theorem castL_ok {τ τ' : Ty} {l : List τ.T} {l' : List τ'.T} (h : castL τ τ' l = some l') : ∃ e : τ = τ', e ▸ l = l' := by
  cases τ <;> cases τ' <;> simp [castL] at h <;> exact ⟨rfl, h⟩

theorem w_append (h : Rel base w0 S0 N D sv g σ a w) (C : CfgOK P c) (hN : c.N = N) (hF : WideF F) {K : Act → World → Prop} {Q : Exit → Act → World → Prop} (hK : ∀ g' σ' a' w', k σ' = some res → Rel base w0 S0 N D sv g' σ' a' w' → K a' w') {t e : TypeId} {x y : Operand}
    (hop : o.op = .call { callee := .builtin .append, args := #[x, y], argTypes := #[t, t] }) {ti te : TI} {τ : Ty} (hti : c.ti t = some ti) (htk : ti.k = .slice τ e) (hte : c.ti e = some te) {px py : At} (hx : evA c σ.regs t x = some px) (hy : evA c σ.regs t y = some py)
    (hs0 : listOf σ.mem py (fun τ' l => ocase (castL τ' τ l) fun l => appendW c o σ τ px l k) = some res) : o.wpIn F n P a w K Q := by
  obtain ⟨i, d, T⟩ := C.ts t ti hti
  obtain ⟨rfl, j, hj, hjs, hjb⟩ := T.slice htk
  obtain ⟨i2, d2, T2⟩ := C.ts e te hte
  obtain rfl : i2 = j := by have := T2.info; rw [hj] at this; exact (Option.some.inj this).symm
  have E := h.env C [x, y]
  have hxv := E.evA (x := x) (by simp) hx
  have hyv := E.evA (x := y) (by simp) hy
  generalize hxe : a.eval x = vx at hxv
  generalize hye : a.eval y = vy at hyv
  obtain ⟨τ', ys, ad2, m2, c2, hs1, rfl, hm2, -, hsrc2⟩ := listOf_ok h.mem hyv hs0
  clear hs0
  obtain ⟨ys', hcast, hs⟩ := ocase_some hs1
  clear hs1
  obtain ⟨e9, hys⟩ := castL_ok hcast
  clear hcast
  subst e9
  simp only at hys
  subst hys
  subst hm2
  have hsrc2 := src_of hsrc2
  have fin : ∀ {v : Value} {w1 : World} {σ1 : St} {z : At} {g1 : Gh}, (Builtin.append_ #[t, t] o.type #[vx, .slice ad2 ys.length c2]).run P w = .ok v w1 → Rel base w0 S0 N D sv g1 σ1 a w1 → VA g1 w1 z v → σ1.put c o.dst (.one z) k = some res → o.wpIn F n P a w K Q := by
    intro v w1 σ1 z g1 hr h1 hz hp
    obtain ⟨σ2, hk, h2⟩ := h1.put (v := v) hN (x := .one z) hz hp
    refine wpIn_of_run hF (by simp [hop]) ?_ (hK _ _ _ _ hk h2)
    have e1 : (#[x, y].map a.eval) = #[vx, .slice ad2 ys.length c2] := by simp [hxe, hye]
    simp only [execOp, hop, resolve, Sem.run_bind, Sem.run_pure, Result.andThen_ok, invoke, builtin, e1, hr]
  cases px <;> simp only [appendW, reduceCtorEq] at hs
  case clip τ1 l0 =>
   cases l0 with
   | nil =>
    simp only at hs
    obtain ⟨l, hl, hs1⟩ := ocase_some hs
    clear hs
    obtain ⟨e9, hll⟩ := castL_ok hl
    clear hl
    subst e9
    simp only at hll
    subst hll
    obtain ⟨hlim, hs⟩ := lcase_some hs1
    clear hs1
    cases hxv with
    | clip _ _ ad len bk of f hlen ha hcell hf =>
      simp only [List.length_nil] at hlen
      subst hlen
      by_cases hne : ys = []
      · subst hne
        obtain ⟨g1, h1, hv⟩ := h.newNil τ1 ad
        exact fin (by simpa using run_append0 (P := P) (w := w) T.und hj (ad := ad) (ad2 := ad2) (n1 := 0) (c1 := 0) (c2 := c2) (Nat.le_refl _) o.type) h1 hv hs
      · obtain ⟨w1, cap, cs, hr, hh, e1, e2, e3, hsz, hcap, hone, hel⟩ := run_grow (P := P) (g := g) (w := w) T.und hj hjs hjb T2 (l := ([] : List τ1.T)) (ys := ys) (ad := ad) (ad2 := ad2) (c1 := 0) (c2 := c2) (fun h => absurd rfl h) hsrc2 (fun _ => rfl) hne (by simpa using List.length_pos_iff.2 hne) (by simpa using hlim) o.type
        simp only [List.length_nil, Nat.zero_add, List.nil_append] at hr hcap hel
        obtain ⟨g1, h1, hv⟩ := h.newRow hh e1 e2 e3 hsz hcap hone hel
        exact fin (by simpa using hr) h1 hv hs
   | cons x0 l0 =>
    cases ys with
    | nil => simp at hs
    | cons y0 ys0 =>
      simp only at hs
      obtain ⟨l, hl, hs1⟩ := ocase_some hs
      clear hs
      obtain ⟨e9, hll⟩ := castL_ok hl
      clear hl
      subst e9
      simp only at hll
      subst hll
      obtain ⟨hlim, hs⟩ := lcase_some hs1
      clear hs1
      cases hxv with
      | clip _ _ ad len bk of f hlen ha hcell hf =>
        subst hlen
        have hsrc1 : Src g w τ1 (x0 :: l0) ad := src_of fun hne => ⟨bk, of, f, (ha hne).1, hcell, hf⟩
        obtain ⟨w1, cap, cs, hr, hh, e1, e2, e3, hsz, hcap, hone, hel⟩ := run_grow (P := P) (g := g) (w := w) T.und hj hjs hjb T2 (l := x0 :: l0) (ys := y0 :: ys0) (ad := ad) (ad2 := ad2) (c1 := (x0 :: l0).length) (c2 := c2) hsrc1 hsrc2 (fun hn => by have := (ha (by simp)).1; rw [hn] at this; cases this) (by simp) (by simp) hlim o.type
        obtain ⟨g1, h1, hv⟩ := h.newRow (l := x0 :: l0 ++ y0 :: ys0) hh e1 e2 e3 hsz (by simp at hcap ⊢; omega) hone hel
        refine fin hr h1 ?_ hs
        have e9 : (x0 :: l0 ++ y0 :: ys0).length = (x0 :: l0).length + (y0 :: ys0).length := by simp; omega
        rwa [e9] at hv
  case own id =>
    split at hs
    · rename_i τ1 l0 hl0
      obtain ⟨l, hl, hs1⟩ := ocase_some hs
      clear hs
      obtain ⟨e9, hll⟩ := castL_ok hl
      clear hl
      subst e9
      simp only at hll
      subst hll
      obtain ⟨hlim, hs⟩ := lcase_some hs1
      clear hs1
      obtain ⟨b, hm, hbr⟩ := h.mem id _ hl0
      have hlen := hbr.len
      have hli : listOf σ.mem (.own id) (fun _ _ => some ()) = some () := by simp [listOf, hl0]
      have hsrc1 : ∀ {ad : Option Addr}, VA g w (.own id) (.slice ad b.ln b.cp) → Src g w τ1 l0 ad := by
        intro ad hv
        obtain ⟨τ9, l9, ad9, n9, c9, hk9, e9, hl9, _, hs9⟩ := listOf_ok (kk := fun τ l => some (Sigma.mk τ l)) (res := (Sigma.mk τ1 l0 : (τ : Ty) × List τ.T)) h.mem hv (by simp [listOf, hl0])
        cases hk9
        cases e9
        exact src_of hs9
      cases hxv with
      | own _ b' ad hm' hk' h0' =>
        rw [hm] at hm'; cases hm'
        have hsrc1 := hsrc1 (VA.own id b ad hm hk' h0')
        rw [hlen.1] at fin hxe
        by_cases hne : ys = []
        · subst hne
          have hrw := h.rewrite (w' := w) (b' := b) (y := .row τ1 (l0 ++ [])) hl0 rfl hm (Nat.le_refl _) ⟨rfl, rfl, rfl⟩ (fun _ _ _ => rfl) (fun q hq => ⟨.inl hq, h.blk id b q hm hq⟩) (fun hH => by
            simp only [List.append_nil]
            exact hbr.mono (Holds.refl _ _) (fun _ _ => rfl) ⟨fun _ h => h, fun i b1 hb1 => by
              show (if i = id then some b else g.m i) = some b1
              split
              · rename_i e1; subst e1; rw [hm] at hb1; exact hb1
              · exact hb1⟩)
          refine fin (by simpa using run_append0 (P := P) (w := w) T.und hj (ad := ad) (ad2 := ad2) (n1 := l0.length) (c1 := b.cp) (c2 := c2) hlen.2.1 o.type) hrw ?_ hs
          have := VA.own (g := g.set id b) (w := w) id b ad (by simp [Gh.set]) hk' h0'
          rwa [hlen.1] at this
        · by_cases hroom : l0.length + ys.length ≤ b.cp
          · -- there is room
            have hyp : 0 < ys.length := List.length_pos_iff.2 hne
            obtain ⟨h1, h2, h3⟩ := hbr
            rcases h3 with ⟨_, _, h3⟩ | ⟨q, cs, ec, hb, hh, hcs, hl', ho, ha⟩
            · omega
            · have had := hk' q hb
              subst had
              obtain ⟨bk2, of2, vs, rfl, hvl, hvc, hve⟩ := hsrc2 hne
              have hfit : l0.length * τ1.n + vs.length ≤ cs.size := by rw [hvl, hcs, ← Nat.add_mul]; exact Nat.mul_le_mul_right _ hroom
              obtain ⟨new, hnew⟩ : ∃ new, new = (cs.toList.take (l0.length * τ1.n) ++ vs ++ cs.toList.drop (l0.length * τ1.n + vs.length)).toArray := ⟨_, rfl⟩
              have hrun : (Builtin.append_ #[t, t] o.type #[.slice (some ⟨q, 0, none⟩) l0.length b.cp, .slice (some ⟨bk2, of2, none⟩) ys.length c2]).run P w = .ok (.slice (some ⟨q, 0, none⟩) (l0.length + ys.length) b.cp) (w.setRow q new) := by
                -- the block's element type need not be the slice's
                have hf := run_firstCells_some (P := P) w i2.size ys.length ⟨bk2, of2, none⟩ ys.length c2 vs (by rw [hvl, hjs]) (fun j u hu => by rw [add_none]; exact hvc j u hu)
                have hst := run_storeCells_at P q (l0.length * i2.size) ec vs 0 cs w hh (by rw [hjs]; simpa using hfit) (hve.one hvl)
                simp only [Nat.add_zero] at hst
                rw [hnew]
                rw [hjs] at hst hf
                simp [Builtin.append_, run_underlying T.und, sizeOf, typeInfo, hj, Builtin.lenOf, hroom, hjs, hf, Addr.add_lit, hst]
              obtain ⟨f1, f2, f3, f4, f5⟩ := setRow_facts w q new
              obtain ⟨b2, hb2⟩ : ∃ b2 : Gb, b2 = ⟨b.blk, l0.length + ys.length, b.cp, b.sz, b.val⟩ := ⟨_, rfl⟩
              have hnl : new.size = cs.size := by rw [hnew]; simp; omega
              have hrw := h.rewrite (w' := w.setRow q new) (b' := b2) (y := .row τ1 (l0 ++ ys)) hl0 rfl hm (by rw [f4]; exact Nat.le_refl _) ⟨f1, f2, f3⟩ (fun j hj hne' => f5 j (fun e' => hne' (by rw [e']; exact hb))) (fun p hp => by
                rw [hb2] at hp; exact ⟨.inl hp, by rw [f4]; exact h.blk id b p hm hp⟩) (fun hH => by
                have hle : ∀ {x v}, pureA x = true → VA g w x v → VA (g.set id b2) (w.setRow q new) x v := fun hp hv => (hv.pure (g' := ⟨g.S, fun _ => none⟩) hp (fun _ h => h)).mono hH ⟨fun _ h => h, fun _ _ h => by cases h⟩
                refine ⟨by rw [hb2]; exact h1, by rw [hb2]; simp, .inr ⟨q, new, ec, by rw [hb2]; exact hb, setRow_heap w q cs _ ec _ hh, by rw [hnl, hcs, hb2], by rw [hb2]; simpa using hroom, ?_, ?_⟩⟩
                · intro u hu
                  rw [hnew] at hu
                  simp only [List.toList_toArray, List.mem_append] at hu
                  rcases hu with (hu | hu) | hu
                  · exact ho u (List.mem_of_mem_take hu)
                  · exact hve.one hvl u hu
                  · exact ho u (List.mem_of_mem_drop hu)
                · have hold : Elems g w τ1 l0 (cs.toList.take (l0.length * τ1.n)) := by
                    intro i x j y hx hy
                    obtain ⟨v, hv, hr⟩ := ha i x j y hx hy
                    have hi : i < l0.length := (List.getElem?_eq_some_iff.1 hx).1
                    have hjj : j < τ1.n := by rw [← enc_length τ1 x]; exact (List.getElem?_eq_some_iff.1 hy).1
                    have : i * τ1.n + j < l0.length * τ1.n := by
                      calc i * τ1.n + j < i * τ1.n + τ1.n := by omega
                        _ = (i + 1) * τ1.n := by rw [Nat.succ_mul]
                        _ ≤ l0.length * τ1.n := Nat.mul_le_mul_right _ hi
                    exact ⟨v, by rw [List.getElem?_take_of_lt this]; simpa using hv, hr⟩
                  have htk : (cs.toList.take (l0.length * τ1.n)).length = l0.length * τ1.n := by simp; omega
                  intro i x j y hx hy
                  obtain ⟨v, hv, hr⟩ := ((hold.append htk hve).more (cs.toList.drop (l0.length * τ1.n + vs.length))) i x j y hx hy
                  exact ⟨v, by rw [hnew]; simpa using hv, hle (enc_pure _ _ _ _ hy) hr⟩)
              refine fin hrun hrw ?_ hs
              have := VA.own (g := g.set id b2) (w := w.setRow q new) id b2 (some ⟨q, 0, none⟩) (by simp [Gh.set]) (fun p hp => by rw [hb2] at hp; exact hk' p hp) (fun hn => by rw [hb2] at hn; rw [hb] at hn; cases hn)
              rw [hb2] at this ⊢
              exact this
          · -- it grows
            obtain ⟨w1, cap, cs, hr, hh, e1, e2, e3, hsz, hcap, hone, hel⟩ := run_grow (P := P) (g := g) (w := w) T.und hj hjs hjb T2 (l := l0) (ys := ys) (ad := ad) (ad2 := ad2) (c1 := b.cp) (c2 := c2) hsrc1 hsrc2 (fun hn => by
              cases hbk : b.blk with
              | none => exact (h0' hbk).1
              | some q => have := hk' q hbk; rw [hn] at this; cases this) hne (by omega) hlim o.type
            obtain ⟨b2, hb2⟩ : ∃ b2 : Gb, b2 = ⟨some w.heap.size, l0.length + ys.length, cap, τ1.n, b.val⟩ := ⟨_, rfl⟩
            have hb' := Below.push hh e1 e2 e3
            have hrw := h.rewrite (w' := w1) (b' := b2) (y := .row τ1 (l0 ++ ys)) hl0 rfl hm hb'.size ⟨e1, e2, e3⟩ (fun j hj _ => hb'.block j hj) (fun p hp => by
              rw [hb2] at hp; cases hp; exact ⟨.inr (Nat.le_refl _), by rw [hh]; simp⟩) (fun hH => by
              have hle : ∀ {x v}, pureA x = true → VA g w x v → VA (g.set id b2) w1 x v := fun hp hv => (hv.pure (g' := ⟨g.S, fun _ => none⟩) hp (fun _ h => h)).mono hH ⟨fun _ h => h, fun _ _ h => by cases h⟩
              refine ⟨by rw [hb2], by rw [hb2]; simp, .inr ⟨w.heap.size, cs, e, by rw [hb2], heap_push hh, by rw [hb2]; exact hsz, by rw [hb2]; simpa using hcap, hone, ?_⟩⟩
              intro i x j y hx hy
              obtain ⟨v, hv, hr⟩ := hel i x j y hx hy
              exact ⟨v, by simpa using hv, hle (enc_pure _ _ _ _ hy) hr⟩)
            refine fin hr hrw ?_ hs
            have := VA.own (g := g.set id b2) (w := w1) id b2 (some ⟨w.heap.size, 0, none⟩) (by simp [Gh.set]) (fun p hp => by rw [hb2] at hp; cases hp; rfl) (fun hn => by rw [hb2] at hn; cases hn)
            rw [hb2] at this ⊢
            exact this
    · simp at hs
  case sub id off m =>
    split at hs
    · rename_i τ1 l0 hl0
      rcases bcase_some hs with ⟨hble, hs⟩ | ⟨_, hs⟩
      · have hble := Nat.le_of_ble_eq_true hble
        obtain ⟨l, hl, hs1⟩ := ocase_some hs
        clear hs
        obtain ⟨e9, hll⟩ := castL_ok hl
        clear hl
        subst e9
        simp only at hll
        subst hll
        obtain ⟨b, hm, hbr⟩ := h.mem id _ hl0
        have hlen := hbr.len
        cases hxv with
        | sub _ _ _ b' ad cc hm' hl' hc hk =>
          rw [hm] at hm'; cases hm'
          by_cases hne : ys = []
          · subst hne
            have e5 : l0.take (off + m) ++ ([] ++ l0.drop (off + m + ([] : List τ1.T).length)) = l0 := by simp
            rw [e5] at hs1
            exact fin (by simpa using run_append0 (P := P) (w := w) T.und hj (ad := ad) (ad2 := ad2) (n1 := m) (c1 := cc) (c2 := c2) (by omega) o.type) (h.same hl0) (VA.sub id off m b ad cc hm hl' hc hk) hs1
          · have hyp : 0 < ys.length := List.length_pos_iff.2 hne
            obtain ⟨q, hb, had⟩ := hk (by omega)
            subst had
            obtain ⟨h1, h2, h3⟩ := hbr
            rcases h3 with ⟨h3, _⟩ | ⟨q', cs, ec, hb', hh, hcs, hl'', ho, ha⟩
            · rw [hb] at h3; cases h3
            · have hqq : q = q' := by rw [hb] at hb'; exact Option.some.inj hb'
              subst hqq
              obtain ⟨bk2, of2, vs, rfl, hvl, hvc, hve⟩ := hsrc2 hne
              have hlc : l0.length * τ1.n ≤ cs.toList.length := by simp [hcs]; exact Nat.mul_le_mul_right _ hl''
              have hfit : (off + m) * τ1.n + vs.length ≤ cs.size := by
                have : (off + m + ys.length) * τ1.n ≤ l0.length * τ1.n := Nat.mul_le_mul_right _ hble
                rw [hvl]; rw [Nat.add_mul] at this; simp at hlc; omega
              have hroom : m + ys.length ≤ cc := by omega
              have hrun : (Builtin.append_ #[t, t] o.type #[.slice (some ⟨q, off * b.sz, none⟩) m cc, .slice (some ⟨bk2, of2, none⟩) ys.length c2]).run P w = .ok (.slice (some ⟨q, off * b.sz, none⟩) (m + ys.length) cc) (w.setRow q (setVals cs.toList ((off + m) * τ1.n) vs).toArray) := by
                have hf := run_firstCells_some (P := P) w i2.size ys.length ⟨bk2, of2, none⟩ ys.length c2 vs (by rw [hvl, hjs]) (fun j u hu => by rw [add_none]; exact hvc j u hu)
                have hst := run_storeCells_at P q ((off + m) * i2.size) ec vs 0 cs w hh (by rw [hjs]; simpa using hfit) (hve.one hvl)
                simp only [Nat.add_zero] at hst
                rw [setVals_eq _ _ _ (by simpa using hfit)]
                rw [hjs] at hst hf
                rw [h1]
                rw [Nat.add_mul] at hst ⊢
                simp [Builtin.append_, run_underlying T.und, sizeOf, typeInfo, hj, Builtin.lenOf, hroom, hjs, hf, Addr.add_lit, add_none, hst]
              have he : Elems g w τ1 l0 cs.toList := fun i x p y hx hy => by
                obtain ⟨v, hv, hr⟩ := ha i x p y hx hy
                exact ⟨v, by simpa using hv, hr⟩
              have hspl := he.splice hve hvl (off := off + m) hble hlc
              refine fin hrun (h.writeRow (new := (setVals cs.toList ((off + m) * τ1.n) vs).toArray) hl0 hm hb hh ⟨h1, h2, .inr ⟨q, cs, ec, hb, hh, hcs, hl'', ho, ha⟩⟩ ?_ ?_ ?_ (by simpa using hspl)) (VA.sub id off (m + ys.length) b _ cc hm (by omega) hc (fun _ => ⟨q, hb, rfl⟩)) hs1
              · simp; omega
              · simp [setVals_length]
              · simpa using setVals_one (by simpa using hfit) ho (hve.one hvl)
      · simp at hs
    · simp at hs

theorem run_copy {t e : TypeId} {i : TypeInfo} {q off cs_n dl dc : Nat} {cs : Array Value} {ec : TypeId} {ad2 : Option Addr} {sl sc : Nat} {vs : List Value} (ht : P.underlying t = some (.slice e)) (hj : P.info? e = some i)
    (hh : w.heap[q]? = some (.cells cs ec (0, 0))) (hvl : vs.length = Nat.min sl dl * i.size) (hvs : vs ≠ [] → ∃ b, ad2 = some b ∧ ∀ j u, vs[j]? = some u → w.cell? (b.add j) = some u) (hfit : off + vs.length ≤ cs.size) (ho : ∀ u ∈ vs, u.oneCell' = true) (ty : TypeId) :
    (Builtin.copy_ #[t, t] ty #[.slice (some ⟨q, off, none⟩) dl dc, .slice ad2 sl sc]).run P w = .ok (goInt (Nat.min sl dl)) (w.setRow q (setVals cs.toList off vs).toArray) := by
  have hst := run_storeCells_at P q off ec vs 0 cs w hh (by simpa using hfit) ho
  simp only [Nat.add_zero] at hst
  have hfc : (Builtin.firstCells i.size (Nat.min sl dl) (.slice ad2 sl sc)).run P w = .ok vs.toArray w := by
    by_cases hne : vs = []
    · subst hne
      simp at hvl
      cases ad2 with
      | none => simp [Builtin.firstCells]
      | some b => simp [Builtin.firstCells, Nat.mul_comm, ← hvl, loadCells, loadCellsFrom]
    · obtain ⟨b, rfl, hb⟩ := hvs hne
      exact run_firstCells_some (P := P) w i.size (Nat.min sl dl) b sl sc vs hvl hb
  rw [setVals_eq _ _ _ (by simpa using hfit)]
  simp [Builtin.copy_, run_underlying ht, Builtin.lenOf, run_sizeOf hj, hfc, hst]

/-- A row whose elements are written over by others. -/
theorem w_copyRow (h : Rel base w0 S0 N D sv g σ a w) (hN : c.N = N) (hF : WideF F) {K : Act → World → Prop} {Q : Exit → Act → World → Prop} (hK : ∀ g' σ' a' w', k σ' = some res → Rel base w0 S0 N D sv g' σ' a' w' → K a' w') {id : Nat} {τ : Ty} {l l' : List τ.T} {b : Gb} {q : Nat} {cs : Array Value} {ec : TypeId}
    (hl : look id σ.mem = some (.row τ l)) (hm : g.m id = some b) (hb : b.blk = some q) (hh : w.heap[q]? = some (.cells cs ec (0, 0))) (hbr : BR g w b (.row τ l)) (hll : l'.length = l.length) {new : Array Value} (hnl : new.size = cs.size) (hno : ∀ u ∈ new.toList, u.oneCell' = true) (hel : Elems g w τ l' new.toList) {nn : Nat}
    (hrun : (execOp a.eval o).run P w = .ok (.value (goInt nn)) (w.setRow q new)) (hd : ∀ c, o.op ≠ .defer c) (hp : (σ.set id (.row τ l')).put c o.dst (.one (.int .i64 nn)) k = some res) : o.wpIn F n P a w K Q := by
  obtain ⟨f1, f2, f3, f4, f5⟩ := setRow_facts w q new
  obtain ⟨h1, h2, h3⟩ := hbr
  have hset := h.set (y := .row τ l') hl rfl hm hb f4 f5 ⟨f1, f2, f3⟩ (fun hH => by
    have hH' := hH g (fun j hj e' => by subst e'; exact (h.own id _ b j hl rfl hm hb).2 hj)
    rcases h3 with ⟨h3, _⟩ | ⟨q', cs', e', hb', hh', hcs, hl', ho, ha⟩
    · rw [hb] at h3; cases h3
    · have : q = q' := by rw [hb] at hb'; exact Option.some.inj hb'
      subst this
      rw [hh] at hh'
      cases hh'
      refine ⟨h1, by rw [h2, hll], .inr ⟨q, new, ec, hb, setRow_heap w q cs _ ec _ hh, by rw [hnl, hcs], by rw [hll]; exact hl', hno, ?_⟩⟩
      intro i x j y hx hy
      obtain ⟨v, hv, hr⟩ := hel i x j y hx hy
      exact ⟨v, by simpa using hv, hr.mono hH' (Gh.le.refl g)⟩)
  obtain ⟨σ2, hk, hr2⟩ := hset.put (v := goInt nn) hN (x := .one (.int .i64 nn)) (VA.int _ _) hp
  exact wpIn_of_run hF hd hrun (hK _ _ _ _ hk hr2)

end
end Go.Eng
