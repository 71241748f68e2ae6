import Derived.Test.YtiaemhkkfjpdlaaEngS17
/- THE ENGINE, soundness, part 18: a region that draws its order, walked. -/
set_option linter.unusedSimpArgs false
set_option linter.unusedVariables false
set_option linter.unnecessarySimpa false
namespace Go.Eng
open Go Go.RowKit

section
variable {P : Program} {F : Fence} {n : Nat} {c : Cfg} {g g' : Gh} {r : Regs} {m : Mem} {a : Act} {w w' : World} {o : Oper} {R : Type} {k : St → Option R} {res : R} {xs : List Operand}
variable {base : Nat} {w0 : World} {S0 : Nat → Prop} {N : Nat} {D : List Deferred} {sv : Nat → Value} {σ : St} {ops : Array Oper} {Q : Exit → Act → World → Prop}

theorem looks_of {t : Nat} (h : t ∈ opTmps o) (ds : List (Option Nat)) : t ∈ looksOf ds o := by
  unfold looksOf
  split
  · exact h
  · split
    · exact List.mem_cons_of_mem _ h
    · exact h

theorem looks_guard {ds : List (Option Nat)} {j d : Nat} {want : Bool} (hg : o.guard = some (j, want)) (hd : ds[j]? = some (some d)) : d ∈ looksOf ds o := by
  unfold looksOf
  rw [hg]
  simp [hd]

theorem hasN_mem {n : Nat} : ∀ {l : List Nat}, hasN n l = true ↔ n ∈ l
  | [] => by simp [hasN]
  | m :: l => by
    unfold hasN
    split
    · rename_i h; have := Nat.eq_of_beq_eq_true h; subst this; simp
    · rename_i h
      have h : m ≠ n := fun e => by subst e; simp at h
      rw [hasN_mem]
      simp [Ne.symm h]

theorem clash_l {ds : List (Option Nat)} {x y : Oper} {t : Nat} (hx : x.dst = some t) (hy : t ∈ looksOf ds y) : clash c ds x y = true := by
  unfold clash
  split
  · simp [dstIn, hx, hasN_mem.2 hy]
  · rfl
theorem clash_r {ds : List (Option Nat)} {x y : Oper} {t : Nat} (hy : y.dst = some t) (hx : t ∈ looksOf ds x) : clash c ds x y = true := by
  unfold clash
  split
  · simp [dstIn, hy, hasN_mem.2 hx]
  · rfl
theorem clash_d {ds : List (Option Nat)} {x y : Oper} {t : Nat} (hx : x.dst = some t) (hy : y.dst = some t) : clash c ds x y = true := by
  unfold clash
  split
  · simp [sameDst, hx, hy]
  · rfl
theorem clash_b {ds : List (Option Nat)} {x y : Oper} (h : isQ c x.op = false ∨ isQ c y.op = false) : clash c ds x y = true := by
  unfold clash
  split
  · rename_i h1 h2
    rcases h with h | h
    · rw [h1] at h; cases h
    · rw [h2] at h; cases h
  · rfl

structure Inv (H : Hnd R) (sv : Nat → Value) (base : Nat) (w0 : World) (S0 : Nat → Prop) (N : Nat) (D : List Deferred) (c : Cfg) (ops : Array Oper) (k : St → Option R) (res : R) (s : Nat) (σ : St) (tr : Tr) (σe : St) (L : Array Bool) (g : Gh) (a : Act) (w : World) : Prop where
  size : L.size = ops.size
  closed : Closed ops L
  sz : s ≤ ops.size
  low : ∀ p, p < s → L.getD p false = true
  high : ∀ p, L.getD p false = true → p < s + tr.length
  rel : Rel base w0 S0 N D sv g { regs := regsL (fun i => L.getD i false) s tr σ.regs, mem := σ.mem, nx := σ.nx } a w
  seg : Seg H c (ops.toList.map (·.dst)) k res σ (ops.toList.drop s) tr σe

theorem drop_get {l : List Oper} {i : Nat} (h : l[i]? = some o) : l.drop i = o :: l.drop (i + 1) := by
  have hi := (List.getElem?_eq_some_iff.1 h).1
  rw [List.drop_eq_getElem_cons hi]
  congr 1
  exact (List.getElem?_eq_some_iff.1 h).2

theorem Inv.done {H : Hnd R} {s : Nat} {tr : Tr} {σe : St} {L : Array Bool} (I : Inv H sv base w0 S0 N D c ops k res s σ tr σe L g a w) (hall : ∀ p, p < ops.size → L.getD p false = true) : k σe = some res ∧ Rel base w0 S0 N D sv g σe a w := by
  have he : s + tr.length = ops.size := by
    have h1 := I.seg.le
    simp at h1
    rcases Nat.lt_or_ge (s + tr.length) ops.size with h | h
    · have := I.high _ (hall _ h); omega
    · have := I.sz; omega
  refine ⟨?_, ?_⟩
  · have := I.seg.rest
    rw [List.drop_drop, he, List.drop_eq_nil_of_le (by simp)] at this
    exact this
  · have hrel := I.rel
    refine { hrel with regs := fun t x hx => hrel.regs t x ?_, mem := by rw [I.seg.mem]; exact hrel.mem, inj := by rw [I.seg.mem]; exact hrel.inj, own := by rw [I.seg.mem]; exact hrel.own, nx := by rw [I.seg.nx]; exact hrel.nx }
    rw [I.seg.regs] at hx
    rw [look_regsL (p := tr.length) (r' := σ.regs) rfl (fun q x hq _ => ?_), List.take_length]
    · exact hx
    · have hq := (List.getElem?_eq_some_iff.1 hq).1
      exact ⟨fun _ => hall _ (by omega), fun _ => hq⟩

theorem full_of_ready {L : Array Bool} (hs : L.size = ops.size) (hb : edgesBack 0 ops.toList = true) (hr : Region.ready .any ops L = []) : ∀ p, p < ops.size → L.getD p false = true := by
  intro p
  induction p using Nat.strongRecOn with
  | _ p ih =>
    intro hp
    cases hL : L.getD p false with
    | true => rfl
    | false =>
      have hmem : p ∈ Region.ready .any ops L := by
        rw [mem_ready]
        refine ⟨?_, ops[p], by simp, fun e he hbe => ?_⟩
        · have : p < L.size := by omega
          simp [this] at hL ⊢
          exact hL
        · have hlt := edgesBack_spec hb (p := p) (o := ops[p]) (by simp) e he (by
            have : Region.binds .any e = bindsAny e := by unfold Region.binds bindsAny; cases e.ground <;> rfl
            rw [← this]; exact hbe)
          exact ih e.on (by omega) (by omega)
      rw [hr] at hmem
      cases hmem

theorem count_false {L : Array Bool} {i : Nat} (hi : i < L.size) (h : L.getD i false = false) : (L.setIfInBounds i true).toList.count false + 1 = L.toList.count false := by
  have hL : L[i] = false := by simpa [hi] using h
  simp only [Array.toList_setIfInBounds]
  rw [List.count_eq_countP, List.count_eq_countP, List.countP_set (by simpa using hi)]
  simp [hL]
  have : 0 < List.countP (fun x => x == false) L.toList := by
    rw [List.countP_pos_iff]
    exact ⟨L[i], by simp, by simp [hL]⟩
  have e : List.countP (fun x => x == false) L.toList = Array.countP (fun x => !x) L := by
    rw [← Array.countP_toList]
    congr 1
    funext x
    cases x <;> rfl
  rw [e] at this
  omega

theorem full_of_count {L : Array Bool} (h : L.toList.count false = 0) : ∀ p, p < L.size → L.getD p false = true := by
  intro p hp
  cases hL : L.getD p false with
  | true => rfl
  | false =>
    have h1 : L[p] = false := by simpa [hp] using hL
    rw [List.count_eq_zero] at h
    exact (h (by rw [← h1]; simp)).elim

theorem Closed.set {L : Array Bool} (h : Closed ops L) {j : Nat} (hj : ops[j]? = some o) (he : ∀ e ∈ o.after, bindsAny e = true → L.getD e.on false = true) : Closed ops (L.setIfInBounds j true) := by
  intro p o' ho' hp e hea hb
  refine getD_set_true ?_
  by_cases e' : j = p
  · subst e'
    rw [hj] at ho'; cases ho'
    exact he e hea hb
  · rw [getD_set_ne false e'] at hp
    exact h p o' ho' hp e hea hb

theorem binds_any (e : Edge) : Region.binds .any e = bindsAny e := by unfold Region.binds bindsAny; cases e.ground <;> rfl

theorem getD_false {L : Array Bool} {j : Nat} (h : L.getD j true = false) : j < L.size ∧ L.getD j false = false := by
  rcases Nat.lt_or_ge j L.size with h' | h'
  · simp [h'] at h ⊢; exact h
  · simp [Array.getElem?_eq_none h'] at h

theorem any_ok {H : Hnd R} (hH : HndOK P H) (C : CfgOK P c) (hN : c.N = N) (hF : WideF F) (ho : orderOK c ops.toList = true) (hK : ∀ g' σ' a' w', k σ' = some res → Rel base w0 S0 N D sv g' σ' a' w' → Q .normal a' w') :
    ∀ (fuel : Nat) {s : Nat} {σ : St} {tr : Tr} {σe : St} {L : Array Bool} {g : Gh} {a : Act} {w : World}, Inv H sv base w0 S0 N D c ops k res s σ tr σe L g a w → L.toList.count false ≤ fuel → wpAnyIn F n P .any ops Q fuel L a w := by
  have hb : edgesBack 0 ops.toList = true := by
    unfold orderOK at ho
    split at ho
    · assumption
    · simp at ho
  intro fuel
  induction fuel with
  | zero =>
    intro s σ tr σe L g a w I hf
    have hall := full_of_count (by omega : L.toList.count false = 0)
    refine ⟨?_, ?_⟩
    · cases hr : Region.ready .any ops L with
      | nil => rfl
      | cons j _ =>
        have hj : j ∈ Region.ready .any ops L := by rw [hr]; simp
        obtain ⟨h1, h2⟩ := getD_false (mem_ready.1 hj).1
        rw [hall j h1] at h2; cases h2
    · obtain ⟨h1, h2⟩ := I.done (fun p hp => hall p (by rw [I.size]; exact hp))
      exact hK _ _ _ _ h1 h2
  | succ fuel ih =>
    intro s σ tr σe L g a w I hf
    refine ⟨fun hr => ?_, fun j hj => ?_⟩
    · obtain ⟨h1, h2⟩ := I.done (full_of_ready I.size hb hr)
      exact hK _ _ _ _ h1 h2
    · obtain ⟨hun, oj, hoj, hall⟩ := mem_ready.1 hj
      obtain ⟨hjL, hun⟩ := getD_false hun
      have hedge : ∀ e ∈ oj.after, bindsAny e = true → L.getD e.on false = true := fun e he hbe => hall e he (by rw [binds_any]; exact hbe)
      have hcnt := count_false hjL hun
      have hclosed' := I.closed.set hoj hedge
      have before : ∀ {i : Nat} {x : Oper}, i < j → ops[i]? = some x → clash c (ops.toList.map (·.dst)) x oj = true → L.getD i false = true := fun hij hx hcl => clash_before ho I.closed hij hx hoj hcl hedge
      have behind : ∀ {i : Nat} {y : Oper}, j < i → ops[i]? = some y → clash c (ops.toList.map (·.dst)) oj y = true → L.getD i false = false := by
        intro i y hji hy hcl
        cases hLi : L.getD i false with
        | false => rfl
        | true =>
          have := clash_before ho I.closed hji hoj hy hcl (fun e he hbe => I.closed i y hy hLi e he hbe)
          rw [hun] at this; cases this
      have hjs : s ≤ j := by
        rcases Nat.lt_or_ge j s with h | h
        · have := I.low j h; rw [hun] at this; cases this
        · exact h
      have hjsz : j < ops.size := by rw [← I.size]; exact hjL
      have htl : s + tr.length ≤ ops.size := by have := I.seg.le; simp at this; have := I.sz; omega
      have seg_get : ∀ {q : Nat} {u : Oper}, ops[s + q]? = some u → (ops.toList.drop s)[q]? = some u := fun h => by simpa using h
      have hLs : ∀ {i : Nat}, i ≠ j → (L.setIfInBounds j true).getD i false = L.getD i false := fun h => getD_set_ne false (Ne.symm h)
      have hLj : (L.setIfInBounds j true).getD j false = true := by simp [hjL]
      by_cases hjt : j < s + tr.length
      · -- within the stretch
        obtain ⟨p, rfl⟩ : ∃ p, j = s + p := ⟨j - s, by omega⟩
        have hp : p < tr.length := by omega
        obtain ⟨hq, hxd, hdN, r, hr, hst⟩ := I.seg.step p oj tr[p] (seg_get hoj) (by simp [hp])
        have tr_dst : ∀ {q : Nat} {x : Option Nat × AV}, tr[q]? = some x → ∃ u, ops[s + q]? = some u ∧ x.1 = u.dst := by
          intro q x hx
          have hlt := (List.getElem?_eq_some_iff.1 hx).1
          have h1 : ops[s + q]? = some ops[s + q] := by simp
          exact ⟨_, h1, (I.seg.step q _ x (seg_get h1) hx).2.1⟩
        have agree : ∀ t, t ∈ looksOf (ops.toList.map (·.dst)) oj → look t (regsL (fun i => L.getD i false) s tr σ.regs) = look t r := by
          intro t ht
          rw [hr, look_regsL (p := p) (r' := σ.regs) rfl]
          intro q x hx hxt
          obtain ⟨u, hu, hxu⟩ := tr_dst hx
          rw [hxu] at hxt
          constructor
          · intro hqp
            exact before (by omega) hu (clash_l hxt ht)
          · intro hLq
            rcases Nat.lt_or_ge q p with h | h
            · exact h
            · exfalso
              rcases Nat.lt_or_ge p q with h' | h'
              · rw [behind (by omega : s + p < s + q) hu (clash_r hxt ht)] at hLq; cases hLq
              · have : q = p := by omega
                subst this
                rw [hun] at hLq; cases hLq
        have upd : ∀ {g1 : Gh} {w1 : World} {v : Value}, Rel base w0 S0 N D sv g1 { regs := regsL (fun i => L.getD i false) s tr σ.regs, mem := σ.mem, nx := σ.nx } a w1 → AVR g1 w1 tr[p].2 v → wpAnyIn F n P .any ops Q fuel (L.setIfInBounds (s + p) true) (a.put oj.dst v) w1 := by
          intro g1 w1 v hrel hv
          refine ih (s := s) (σ := σ) (tr := tr) (σe := σe) (g := g1) ⟨by simp [I.size], hclosed', I.sz, fun q hq => getD_set_true (I.low q hq), fun q hq => ?_, ?_, I.seg⟩ (by omega)
          · by_cases e : q = s + p
            · omega
            · rw [hLs e] at hq; exact I.high q hq
          · refine { hrel with regs := fun t x hx => ?_, size := ?_, dfr := ?_ }
            · by_cases e : oj.dst = some t
              · rw [look_regsL_at (p := p) (y := tr[p].2) (by rw [List.getElem?_eq_getElem hp, ← e, ← hxd]) hLj (fun q x' hpq hx' hxt => ?_)] at hx
                · cases hx
                  rw [e, vof_put (hdN t e).2 (by rw [hrel.size, ← hN]; exact (hdN t e).1), if_pos rfl]
                  exact hv
                · obtain ⟨u, hu, hxu⟩ := tr_dst hx'
                  rw [hxu] at hxt
                  rw [hLs (by omega)]
                  exact behind (by omega) hu (clash_d e hxt)
              · have notp : ∀ {q : Nat} {x' : Option Nat × AV}, tr[q]? = some x' → x'.1 = some t → ¬ s + q = s + p := by
                  intro q x' hx' hxt e'
                  have e9 : q = p := by omega
                  rw [e9, List.getElem?_eq_getElem hp] at hx'
                  have e8 : tr[p] = x' := Option.some.inj hx'
                  exact e (by rw [← hxd, e8]; exact hxt)
                rw [look_regsL_eq (L' := fun i => L.getD i false) (r' := σ.regs) rfl (fun q x' hx' hxt => hLs (fun e' => notp hx' hxt e'))] at hx
                · cases hd : oj.dst with
                  | none => exact hrel.regs t x hx
                  | some d =>
                    rw [vof_put (hdN d hd).2 (by rw [hrel.size, ← hN]; exact (hdN d hd).1), if_neg (fun e' => e (by rw [hd, e']))]
                    exact hrel.regs t x hx
            · have := hrel.size
              cases hd : oj.dst <;> simpa [Act.put] using this
            · have := hrel.dfr
              cases hd : oj.dst <;> simpa [Act.put] using this
        have run : evalQ c r σ.mem oj some = some tr[p].2 → oj.wpIn F n P a w (wpAnyIn F n P .any ops Q fuel (L.setIfInBounds (s + p) true)) Q := by
          intro he
          have E : Env P c g r σ.mem oj.op.operands.toList a w := { ev := env_ev (fun t ht x hx => I.rel.regs t x (by rw [agree t (looks_of ht _)]; exact hx)), mem := I.rel.mem, ts := C.ts, sp := C.sp, S := I.rel.S, blk := I.rel.blk, eqs := C.eqs }
          obtain ⟨y, hy, hqr⟩ := evalQ_ok (n := n) E hF (fun _ h => h) he
          cases hy
          exact hqr _ _ fun v w' hbw hv => upd (I.rel.grow hbw) hv
        have skip : tr[p].2 = .undef → wpAnyIn F n P .any ops Q fuel (L.setIfInBounds (s + p) true) (a.put oj.dst undef) w := fun he => upd I.rel (by rw [he]; rfl)
        unfold wpOpIn
        simp only [hoj]
        rcases hst with ⟨hg, he⟩ | ⟨i, want, d, hg, hd, hst⟩
        · rw [if_pos (by simp [Region.wanted, hg])]
          exact run he
        · have hag := agree d (looks_guard hg hd)
          rcases hst with ⟨b, hb', hdN', hst⟩ | ⟨hu, he⟩
          · have hbv : a.tmps.getD d undef = .bool b := by
              have := I.rel.regs d _ (by rw [hag]; exact (lookT_some hb').2)
              rw [vof_lt (lookT_some hb').1] at this
              generalize a.tmps.getD d undef = u at this
              cases this; rfl
            have hwant : Region.wanted oj (yielded ops a.tmps) = (b == want) := by
              simp only [Region.wanted, hg, yielded_eq hd (by rw [I.rel.size, ← hN]; exact hdN'), hbv]
              cases b <;> cases want <;> rfl
            rcases hst with ⟨rfl, he⟩ | ⟨hne, he⟩
            · rw [if_pos (by rw [hwant]; simp)]
              exact run he
            · rw [if_neg (by rw [hwant]; simpa using hne)]
              exact ⟨about_wide hF, skip he⟩
          · have huv : a.tmps.getD d undef = undef := by
              have := I.rel.regs d .undef (by rw [hag]; exact (lookT_some hu).2)
              rw [vof_lt (lookT_some hu).1] at this
              exact this
            have hy : yielded ops a.tmps i = none := by
              by_cases hlt : d < a.tmps.size
              · rw [yielded_eq hd hlt, huv]; rfl
              · have h1 : (ops[i]?).bind (·.dst) = some d := by
                  simp only [List.getElem?_map, Array.getElem?_toList] at hd
                  cases h : ops[i]? with
                  | none => rw [h] at hd; simp at hd
                  | some o => rw [h] at hd; simp at hd; simpa using hd
                unfold yielded
                rw [h1]
                simp [hlt]
            rw [if_neg (by simp [Region.wanted, hg, hy])]
            exact ⟨about_wide hF, skip he⟩
      · -- the operation behind the stretch
        have hje : j = s + tr.length := by
          rcases Nat.lt_or_ge (s + tr.length) j with h | h
          · exfalso
            have hoe : ops[s + tr.length]? = some ops[s + tr.length] := by simp
            have := before h hoe (clash_b (.inl (I.seg.head _ (seg_get hoe))))
            have := I.high _ this
            omega
          · omega
        have hnq : isQ c oj.op = false := I.seg.head oj (seg_get (by rw [← hje]; exact hoj))
        have hallL : ∀ p, p < j → L.getD p false = true := fun p hp => before hp (x := ops[p]) (by simp) (clash_b (.inr hnq))
        have hrel : Rel base w0 S0 N D sv g σe a w := by
          have hrel := I.rel
          refine { hrel with regs := fun t x hx => hrel.regs t x ?_, mem := by rw [I.seg.mem]; exact hrel.mem, inj := by rw [I.seg.mem]; exact hrel.inj, own := by rw [I.seg.mem]; exact hrel.own, nx := by rw [I.seg.nx]; exact hrel.nx }
          rw [I.seg.regs] at hx
          rw [look_regsL (p := tr.length) (r' := σ.regs) rfl (fun q x hq _ => ?_), List.take_length]
          · exact hx
          · have hq := (List.getElem?_eq_some_iff.1 hq).1
            exact ⟨fun _ => hallL _ (by omega), fun _ => hq⟩
        have hrest := I.seg.rest
        rw [List.drop_drop, ← hje, drop_get (by simpa using hoj), runOps_cons] at hrest
        unfold wpOpIn
        simp only [hoj]
        refine guarded_ok hH hrel C hN hF (fun g1 σ1 a1 w1 hk h1 => ?_) hrest
        obtain ⟨tr1, σe1, S1⟩ := mkSeg _ _ hk
        refine ih (s := j + 1) (σ := σ1) (tr := tr1) (σe := σe1) (g := g1) ⟨by simp [I.size], hclosed', by omega, fun q hq => ?_, fun q hq => ?_, ?_, S1⟩ (by omega)
        · by_cases e : q = j
          · subst e; exact hLj
          · exact getD_set_true (hallL q (by omega))
        · by_cases e : q = j
          · omega
          · rw [hLs e] at hq; have := I.high q hq; omega
        · refine { h1 with regs := fun t x hx => h1.regs t x ?_ }
          rw [look_regsL (p := 0) (r' := σ1.regs) rfl (fun q x' _ _ => ?_)] at hx
          · simpa [regsF] using hx
          · simp only [Nat.not_lt_zero, false_iff]
            rw [hLs (by omega)]
            intro hq
            have := I.high _ hq
            omega

/-- The world has drawn. -/
theorem Rel.drawn (h : Rel base w0 S0 N D sv g σ a w) : Rel base w0 S0 N D sv g σ a { w with drawn := w.drawn + 1 } :=
  { regs := fun t x hx => (h.regs t x hx).mono (fun _ _ => rfl) (Gh.le.refl g), size := h.size, dfr := h.dfr, mem := fun i x hx => (by
      obtain ⟨b, hm, hr⟩ := h.mem i x hx
      exact ⟨b, hm, hr.mono (fun _ _ => rfl) (fun _ _ => rfl) (Gh.le.refl g)⟩), inj := h.inj, own := h.own, S := h.S, blk := h.blk, nx := h.nx, bel := h.bel.trans ⟨rfl, rfl, rfl, Nat.le_refl _, fun _ _ => rfl⟩, bs := h.bs, sub := h.sub }

theorem regionDraw_ok {H : Hnd R} (hH : HndOK P H) (C : CfgOK P c) (hN : c.N = N) (hF : WideF F) (hm : P.follows .mixedOrders = true) (ho : orderOK c ops.toList = true) (hK : ∀ g' σ' a' w', k σ' = some res → Rel base w0 S0 N D sv g' σ' a' w' → Q .normal a' w') {id : Nat} (h : Rel base w0 S0 N D sv g σ a w)
    (hs : runOps H c true (ops.toList.map (·.dst)) ops.toList σ k = some res) : (Code.region id ops true).wpIn F n P Q a w := by
  obtain ⟨tr, σe, S⟩ := mkSeg _ _ hs
  refine wpIn_region_any hm (any_ok hH C hN hF ho hK ops.size (s := 0) (σ := σ) (tr := tr) (σe := σe) (g := g) ⟨by simp, fun p o _ hp => ?_, Nat.zero_le _, fun p hp => by omega, fun p hp => ?_, ?_, by simpa using S⟩ (by simp [List.count_replicate]))
  · exfalso
    by_cases h : p < ops.size <;> simp [h] at hp
  · exfalso
    by_cases h : p < ops.size <;> simp [h] at hp
  · have h1 := h.drawn
    refine { h1 with regs := fun t x hx => h1.regs t x ?_ }
    rw [look_regsL (p := 0) (r' := σ.regs) rfl (fun q x' _ _ => ?_)] at hx
    · simpa [regsF] using hx
    · simp only [Nat.not_lt_zero, false_iff]
      by_cases h : q < ops.size <;> simp [h]

end
end Go.Eng
