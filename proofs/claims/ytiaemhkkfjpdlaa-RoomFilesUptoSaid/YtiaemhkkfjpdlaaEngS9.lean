import Derived.Test.YtiaemhkkfjpdlaaEngS8
/- THE ENGINE, soundness, part 9: writes: new variables, stores, closures. -/
set_option linter.unusedSimpArgs false
set_option linter.unusedVariables false
set_option linter.unnecessarySimpa false
namespace Go.Eng
open Go Go.RowKit

/-- What 'slices.overlaps' says of two blocks of the activation's own. -/
def OvlOK (P : Program) (f : Nat) : Prop := ∀ (w : World) (x y : Option Addr) (la ca lb cb : Nat), (la = 0 ∨ lb = 0 ∨ ∃ p q o o' csx csy ex ey, x = some ⟨p, o, none⟩ ∧ y = some ⟨q, o', none⟩ ∧ p ≠ q ∧ w.heap[p]? = some (.cells csx ex (0, 0)) ∧ w.heap[q]? = some (.cells csy ey (0, 0)) ∧ csy.size ≠ 0) →
  (callFunc f #[.slice x la ca, .slice y lb cb]).run P w = .ok (.value (.bool false)) w

structure CfgOK (P : Program) (c : Cfg) : Prop where
  ts : TsOK P c
  sp : ∀ f s, look f c.spec = some s → SpecOK P f s
  eqs : EqsOK P c
  ovl : ∀ f, hasN f c.ovl = true → OvlOK P f

section
variable {P : Program} {F : Fence} {n : Nat} {c : Cfg} {g g' : Gh} {r : Regs} {m : Mem} {a : Act} {w w' : World} {o : Oper} {R : Type} {k : St → Option R} {res : R}
variable {base : Nat} {w0 : World} {S0 : Nat → Prop} {N : Nat} {D : List Deferred} {sv : Nat → Value} {σ : St}

theorem Rel.memOK (h : Rel base w0 S0 N D sv g σ a w) : MemOK g w σ.mem := h.mem

theorem Rel.env (h : Rel base w0 S0 N D sv g σ a w) (C : CfgOK P c) (xs : List Operand) : Env P c g σ.regs σ.mem xs a w where
  ev := fun x _ t y hy => by
    cases x with
    | tmp i => obtain ⟨hn, hy⟩ := lookT_some hy; have := h.regs i y hy; rw [vof_lt hn] at this; exact this
    | const v => exact constAV_ok hy g w
    | func f => simp only [ev, Option.some.injEq] at hy; subst hy; exact VA.fnc f
    | _ => simp [ev] at hy
  mem := h.mem
  ts := C.ts
  sp := C.sp
  S := h.S
  blk := h.blk
  eqs := C.eqs

theorem wpIn_of_run {K : Act → World → Prop} {Q : Exit → Act → World → Prop} {v : Value} (hF : WideF F) (hd : ∀ c, o.op ≠ .defer c) (hr : (execOp a.eval o).run P w = .ok (.value v) w') (hK : K (a.put o.dst v) w') : o.wpIn F n P a w K Q := by
  refine ⟨fun f _ => hF.fn f, ?_⟩
  rw [Oper.semAt_eq _ _ _ hd, hr]
  exact hK
theorem wpIn_of_skip {K : Act → World → Prop} {Q : Exit → Act → World → Prop} (hF : WideF F) (hd : ∀ c, o.op ≠ .defer c) (hr : (execOp a.eval o).run P w = .ok .skip w') (hK : K (a.put o.dst undef) w') : o.wpIn F n P a w K Q := by
  refine ⟨fun f _ => hF.fn f, ?_⟩
  rw [Oper.semAt_eq _ _ _ hd, hr]
  exact hK

theorem Below.push {obj : Obj} (hh : w'.heap = w.heap.push obj) (h1 : w'.os = w.os) (h2 : w'.tape = w.tape) (h3 : w'.output = w.output) : Below w.heap.size w w' :=
  ⟨h1, h2, h3, by rw [hh]; simp, fun j hj => by rw [hh, Array.getElem?_push, if_neg (by omega)]⟩

theorem heap_push {obj : Obj} (hh : w'.heap = w.heap.push obj) : w'.heap[w.heap.size]? = some obj := by rw [hh]; simp

theorem Rel.newCells (h : Rel base w0 S0 N D sv g σ a w) {l : List At} {cs : Array Value} {e : TypeId} (ha : All2 (VA g w) l cs.toList) (hh : w'.heap = w.heap.push (.cells cs e (0, 0))) (h1 : w'.os = w.os) (h2 : w'.tape = w.tape) (h3 : w'.output = w.output) :
    ∃ g', Rel base w0 S0 N D sv g' (σ.new (.cells l)) a w' ∧ VA g' w' (.ptr σ.nx 0) (.pointer (some ⟨w.heap.size, 0, none⟩)) := by
  have hb := Below.push hh h1 h2 h3
  have hle : g.le (g.set σ.nx ⟨some w.heap.size, 0, 1, 1, default⟩) := Gh.le_set (h.fresh (Nat.le_refl _))
  refine ⟨g.set σ.nx ⟨some w.heap.size, 0, 1, 1, default⟩, h.new (Nat.le_refl _) hb ⟨w.heap.size, cs, e, rfl, heap_push hh, ha.mono fun _ _ k => k.mono (Holds.of_below h.S hb) hle⟩ (fun q hq => ?_), ?_⟩
  · cases hq; exact ⟨Nat.le_refl _, by rw [hh]; simp⟩
  · exact VA.ptr _ _ ⟨some w.heap.size, 0, 1, 1, default⟩ _ (by simp [Gh.set]) rfl

theorem w_alloc (h : Rel base w0 S0 N D sv g σ a w) (C : CfgOK P c) (hN : c.N = N) (hF : WideF F) {K : Act → World → Prop} {Q : Exit → Act → World → Prop} (hK : ∀ g' σ' a' w', k σ' = some res → Rel base w0 S0 N D sv g' σ' a' w' → K a' w') {t : TypeId} (hop : o.op = .alloc t) {ti : TI} (hti : c.ti t = some ti)
    (hs : (σ.new (.cells ti.zero.cells)).put c o.dst (.one (.ptr σ.nx 0)) k = some res) : o.wpIn F n P a w K Q := by
  obtain ⟨i, d, T⟩ := C.ts t ti hti
  obtain ⟨z, hz, -, hzr⟩ := T.zero
  obtain ⟨g1, h1, hv⟩ := h.newCells (w' := w.alloc (.cells z.cells t)) (e := t) (hzr g w).cells rfl rfl rfl rfl
  obtain ⟨σ2, hk, h2⟩ := h1.put hN (x := .one (.ptr σ.nx 0)) hv hs
  refine wpIn_of_run hF (by simp [hop]) ?_ (hK _ _ _ _ hk h2)
  simp [execOp, hop, Instr.alloc, zeroValue, typeInfo, T.info, hz, newVar, newRow]

theorem w_box (h : Rel base w0 S0 N D sv g σ a w) (C : CfgOK P c) (hN : c.N = N) (hF : WideF F) {K : Act → World → Prop} {Q : Exit → Act → World → Prop} (hK : ∀ g' σ' a' w', k σ' = some res → Rel base w0 S0 N D sv g' σ' a' w' → K a' w') {t : TypeId} {x : Operand} (hop : o.op = .box t x) {v : V1} (hv : evV c σ.regs t x = some v)
    (hs : (σ.new (.cells v.cells)).put c o.dst (.one (.ptr σ.nx 0)) k = some res) : o.wpIn F n P a w K Q := by
  have hvr := (h.env C [x]).evV (x := x) (by simp) hv
  obtain ⟨g1, h1, hv'⟩ := h.newCells (w' := w.alloc (.cells (a.eval x).cells t)) (e := t) hvr.cells rfl rfl rfl rfl
  obtain ⟨σ2, hk, h2⟩ := h1.put hN (x := .one (.ptr σ.nx 0)) hv' hs
  refine wpIn_of_run hF (by simp [hop]) ?_ (hK _ _ _ _ hk h2)
  simp [execOp, hop, Instr.box, newVar, newRow]

theorem setRow_facts (w : World) (q : Nat) (cs : Array Value) : (w.setRow q cs).os = w.os ∧ (w.setRow q cs).tape = w.tape ∧ (w.setRow q cs).output = w.output ∧ (w.setRow q cs).heap.size = w.heap.size ∧ ∀ j, j ≠ q → (w.setRow q cs).heap[j]? = w.heap[j]? := by
  refine ⟨rfl, rfl, rfl, by simp [World.setRow], fun j hj => ?_⟩
  simp [World.setRow, Array.getElem?_modify, Ne.symm hj]

theorem dec_enc : ∀ (τ : Ty) {l : List At} {x : τ.T}, τ.dec l = some x → τ.enc x = l := by
  intro τ l x h
  unfold Ty.dec at h
  split at h <;> first | (cases h; rfl) | skip
  · rename_i q
    split at h
    · rename_i hq
      cases h
      simp only [decide_eq_true_eq] at hq
      simp only [Ty.enc]
      congr 2
      have : q.toNat < 256 := by omega
      simp [UInt8.toNat_ofNat, Nat.mod_eq_of_lt this]
      omega
    · simp at h
  · cases h

theorem VA.unclip {x : At} {v : Value} (h : VA g w x v) : VA g w (unclip x) v := by
  cases x <;> first | exact h | skip
  rename_i τ l
  cases h with
  | clip _ _ ad len bk of f hl ha hcell hf => exact .sl τ l ad len len bk of f hl (Nat.le_refl _) ha hcell hf

theorem All2.unclip {l : List At} {vs : List Value} (h : All2 (VA g w) l vs) : All2 (VA g w) (l.map unclip) vs := h.mapL fun _ _ k => k.unclip

theorem decC_enc (τ : Ty) {l : List At} {x : τ.T} (h : τ.decC l = some x) : τ.enc x = l.map Go.Eng.unclip := dec_enc τ h

theorem length_setCells : ∀ (u : List At) (l : List At) (off : Nat), (setCells l off u).length = l.length
  | [], l, off => rfl
  | x :: u, l, off => by simp [setCells, length_setCells u]

theorem setVals_eq : ∀ (u l : List Value) (off : Nat), off + u.length ≤ l.length → setVals l off u = l.take off ++ u ++ l.drop (off + u.length)
  | [], l, off, _ => by simp [setVals]
  | x :: u, l, off, h => by
    simp only [setVals]
    rw [setVals_eq u _ (off + 1) (by simp at h ⊢; omega)]
    have e := list_seg_step l off x u (by simpa using h)
    rw [e]
    simp

theorem run_storeVar {t : TypeId} {i : TypeInfo} {v : Value} {q off : Nat} {cs : Array Value} {e : TypeId} (hi : P.info? t = some i) (hsz : v.cells.size = i.size) (hh : w.heap[q]? = some (.cells cs e (0, 0))) (hle : off + v.cells.size ≤ cs.size) (ho : ∀ u ∈ v.cells.toList, u.oneCell' = true) :
    (storeVar t ⟨q, off, none⟩ v).run P w = .ok () (w.setRow q (setVals cs.toList off v.cells.toList).toArray) := by
  have hst := run_storeCells_at P q off e v.cells.toList 0 cs w hh (by simpa using hle) ho
  simp only [Nat.add_zero] at hst
  simp only [storeVar, Sem.run_bind, run_sizeOf hi, Result.andThen_ok, hsz, ne_eq, not_true_eq_false, if_false, hst]
  rw [setVals_eq _ _ _ (by simpa using hle)]

theorem All2.one {l : List At} {vs : List Value} (h : All2 (VA g w) l vs) : ∀ u ∈ vs, u.oneCell' = true := by
  induction h with
  | nil => intro u hu; simp at hu
  | cons h _ ih =>
    intro u hu
    rcases List.mem_cons.1 hu with rfl | hu
    · exact h.one
    · exact ih u hu

theorem setVals_get {u l : List Value} {off j : Nat} (h : off + u.length ≤ l.length) : (setVals l off u)[j]? = if off ≤ j ∧ j < off + u.length then u[j - off]? else l[j]? := by
  rw [setVals_eq _ _ _ h]
  by_cases h1 : j < off
  · rw [if_neg (by omega), List.append_assoc, List.getElem?_append_left (by simp; omega), List.getElem?_take_of_lt h1]
  · by_cases h2 : j < off + u.length
    · rw [if_pos ⟨by omega, h2⟩, List.getElem?_append_left (by simp; omega), List.getElem?_append_right (by simp; omega)]
      congr 1
      simp; omega
    · rw [if_neg (by omega), List.getElem?_append_right (by simp; omega), List.getElem?_drop]
      congr 1
      simp; omega

theorem w_store (h : Rel base w0 S0 N D sv g σ a w) (C : CfgOK P c) (hN : c.N = N) (hF : WideF F) {K : Act → World → Prop} {Q : Exit → Act → World → Prop} (hK : ∀ g' σ' a' w', k σ' = some res → Rel base w0 S0 N D sv g' σ' a' w' → K a' w') {t : TypeId} {x y : Operand} (hop : o.op = .store t x y) {p : At} {v : V1} {ti : TI}
    (hp : evA c σ.regs 0 x = some p) (hv : evV c σ.regs t y = some v) (hti : c.ti t = some ti) (hsz : Nat.beq v.cells.length ti.size = true) (hs : storeAt σ p v (fun σ' => σ'.put c o.dst .undef k) = some res) : o.wpIn F n P a w K Q := by
  obtain ⟨i, d, T⟩ := C.ts t ti hti
  have E := h.env C [x, y]
  have hpv := E.evA (x := x) (by simp) hp
  have hvv := (E.evV (x := y) (by simp) hv).cells
  have hlen := hvv.length
  have hsz := Nat.eq_of_beq_eq_true hsz
  have hcsz : (a.eval y).cells.size = i.size := by rw [T.size, ← hsz, hlen]; simp
  have fin : ∀ {q off : Nat} {cs : Array Value} {e : TypeId} {σ1 : St} {g1 : Gh}, a.eval x = .pointer (some ⟨q, off, none⟩) → w.heap[q]? = some (.cells cs e (0, 0)) → off + v.cells.length ≤ cs.size →
      Rel base w0 S0 N D sv g1 σ1 a (w.setRow q (setVals cs.toList off (a.eval y).cells.toList).toArray) → σ1.put c o.dst .undef k = some res → o.wpIn F n P a w K Q := by
    intro q off cs e σ1 g1 he hh hle hr hput
    obtain ⟨σ2, hk, h2⟩ := hr.put (v := undef) hN (x := .undef) rfl hput
    refine wpIn_of_skip hF (by simp [hop]) ?_ (hK _ _ _ _ hk h2)
    simp only [execOp, hop, Instr.storeAt, he, Instr.sureAddr, Sem.run_bind, Sem.run_pure, Result.andThen_ok]
    rw [run_storeVar T.info hcsz hh (by rw [hlen] at hle; simpa using hle) hvv.one]
    rfl
  generalize hxv : a.eval x = u at hpv
  unfold storeAt at hs
  split at hs
  · rename_i id off
    split at hs
    · rename_i l hl
      split at hs
      · rename_i hle
        have hle := Nat.le_of_ble_eq_true hle
        obtain ⟨b, hm, q, cs, e, hb, hh, ha⟩ := h.mem id _ hl
        cases hpv with
        | ptr _ _ b' q' hm' hb' =>
          rw [hm] at hm'; cases hm'
          rw [hb] at hb'; cases hb'
          have hcl := ha.length
          obtain ⟨f1, f2, f3, f4, f5⟩ := setRow_facts w q (setVals cs.toList off (a.eval y).cells.toList).toArray
          refine fin hxv hh (by simp at hcl; omega) (h.set hl rfl hm hb f4 f5 ⟨f1, f2, f3⟩ (fun hH => ?_)) hs
          refine ⟨q, _, e, hb, setRow_heap w q cs _ e _ hh, ?_⟩
          have hH' := hH g (fun j hj e' => by subst e'; exact (h.own id _ b j hl rfl hm hb).2 hj)
          simp only [List.toList_toArray]
          exact (setVals_ok off hvv ha).mono fun _ _ k => k.mono hH' (Gh.le.refl g)
      · simp at hs
    · simp at hs
  · rename_i id i0 j0
    split at hs
    · rename_i τ l hl
      split at hs
      · rename_i hle
        have hle := Nat.le_of_ble_eq_true hle
        obtain ⟨e0, he0, hs⟩ := ocase_some hs
        obtain ⟨e1, he1, hs⟩ := ocase_some hs
        obtain ⟨b, hm, hbr⟩ := h.mem id _ hl
        cases hpv with
        | eptr _ _ _ b' q' hm' hb' =>
          rw [hm] at hm'; cases hm'
          have hlen' := hbr.len
          obtain ⟨h1, h2, h3⟩ := hbr
          rcases h3 with ⟨h3, _⟩ | ⟨q, cs, e, hb, hh, hcs, hl', ho, ha⟩
          · rw [hb'] at h3; cases h3
          · have hqq : q = q' := by rw [hb] at hb'; exact Option.some.inj hb'
            subst hqq
            have hi0 : i0 < l.length := by
              rcases Nat.lt_or_ge i0 l.length with h' | h'
              · exact h'
              · rw [List.getElem?_eq_none h'] at he0; cases he0
            have hbound : i0 * τ.n + τ.n ≤ cs.size := by
              rw [hcs, ← Nat.succ_mul]; exact Nat.mul_le_mul_right _ (by omega)
            have hoff : i0 * b.sz + j0 = i0 * τ.n + j0 := by rw [h1]
            have hfit : i0 * τ.n + j0 + v.cells.length ≤ cs.size := by omega
            rw [hoff] at hxv
            obtain ⟨f1, f2, f3, f4, f5⟩ := setRow_facts w q (setVals cs.toList (i0 * τ.n + j0) (a.eval y).cells.toList).toArray
            refine fin hxv hh hfit (h.set hl rfl hm hb f4 f5 ⟨f1, f2, f3⟩ (fun hH => ?_)) hs
            have hH' := hH g (fun j hj e' => by subst e'; exact (h.own id _ b j hl rfl hm hb).2 hj)
            refine ⟨h1, by simpa using h2, .inr ⟨q, _, e, hb, setRow_heap w q cs _ e _ hh, ?_, by simpa using hl', ?_, ?_⟩⟩
            · simp [setVals_length, hcs]
            · intro u hu
              simp only [List.toList_toArray] at hu
              rw [setVals_eq _ _ _ (by rw [← hlen]; simpa using hfit)] at hu
              simp only [List.mem_append] at hu
              rcases hu with (hu | hu) | hu
              · exact ho u (List.mem_of_mem_take hu)
              · exact hvv.one u hu
              · exact ho u (List.mem_of_mem_drop hu)
            · intro i z j y' hz hy'
              have hj : j < τ.n := by rw [← enc_length τ z]; exact (List.getElem?_eq_some_iff.1 hy').1
              have hget : (setVals cs.toList (i0 * τ.n + j0) (a.eval y).cells.toList)[i * τ.n + j]? = if i0 * τ.n + j0 ≤ i * τ.n + j ∧ i * τ.n + j < i0 * τ.n + j0 + (a.eval y).cells.toList.length then (a.eval y).cells.toList[i * τ.n + j - (i0 * τ.n + j0)]? else cs.toList[i * τ.n + j]? :=
                setVals_get (by rw [← hlen]; simpa using hfit)
              by_cases hii : i = i0
              · subst hii
                rw [List.getElem?_set_self hi0] at hz
                cases hz
                have hd := decC_enc τ he1
                rw [hd] at hy'
                have hset := setVals_ok (g := g) (w := w) j0 hvv (l := τ.enc e0) (v := (List.range τ.n).map fun j => cs.toList.getD (i * τ.n + j) undef) (All2.of_get (by simp [enc_length]) (fun j' x' v' hx' hv' => by
                  obtain ⟨v2, hv2, hr2⟩ := ha i e0 j' x' he0 hx'
                  have hj' : j' < τ.n := by rw [← enc_length τ e0]; exact (List.getElem?_eq_some_iff.1 hx').1
                  simp [hj'] at hv'
                  subst hv'
                  have : cs.toList[i * τ.n + j']? = some v2 := by simpa using hv2
                  simp at this
                  rw [this]
                  exact hr2))
                obtain ⟨v2, hv2, hr2⟩ := hset.unclip.get hy'
                refine ⟨v2, ?_, hr2.mono hH' (Gh.le.refl g)⟩
                have hb9 : j0 + (a.eval y).cells.toList.length ≤ ((List.range τ.n).map fun j => cs.toList.getD (i * τ.n + j) undef).length := by
                  rw [← hlen]; simpa using hle
                rw [setVals_get hb9] at hv2
                simp only [List.getElem?_toArray]
                rw [hget]
                by_cases hc : j0 ≤ j ∧ j < j0 + (a.eval y).cells.toList.length
                · rw [if_pos (by omega)]
                  rw [if_pos hc] at hv2
                  rw [show i * τ.n + j - (i * τ.n + j0) = j - j0 from by omega]
                  exact hv2
                · rw [if_neg (by omega)]
                  rw [if_neg hc] at hv2
                  have hlt : i * τ.n + j < cs.size := by omega
                  simp [hj, hlt] at hv2
                  simp [hlt, hv2]
              · rw [List.getElem?_set_ne (Ne.symm hii)] at hz
                obtain ⟨v2, hv2, hr2⟩ := ha i z j y' hz hy'
                refine ⟨v2, ?_, hr2.mono hH' (Gh.le.refl g)⟩
                simp only [List.getElem?_toArray]
                rw [hget, if_neg, ]
                · simpa using hv2
                · rintro ⟨c1, c2⟩
                  rw [← hlen] at c2
                  rcases Nat.lt_or_gt_of_ne hii with hlt | hgt
                  · have : (i + 1) * τ.n ≤ i0 * τ.n := Nat.mul_le_mul_right _ hlt
                    rw [Nat.succ_mul] at this; omega
                  · have : (i0 + 1) * τ.n ≤ i * τ.n := Nat.mul_le_mul_right _ hgt
                    rw [Nat.succ_mul] at this; omega
      · simp at hs
    · simp at hs
  · simp at hs

end
end Go.Eng
