/- A part of the proofs of the laws of this seat: the engine that reads the program's code, plain functions, or facts of the program's functions. Conditions: none. -/
import Derived.Test.YtopfnnikfjbofaaGreatDoorE3
set_option linter.unusedSectionVars false
set_option linter.unusedVariables false
set_option linter.unusedSimpArgs false
set_option linter.unnecessarySimpa false
set_option linter.unusedSimpArgs false
set_option linter.unusedVariables false
set_option linter.unnecessarySimpa false
namespace Go.Eng
open Go Go.RowKit
section
variable {P : Program} [GlobL P] {F : Fence} {n : Nat} {c : Cfg} {g g' : Gh} {r : Regs} {m : Mem} {a : Act} {w w' : World} {o : Oper} {R : Type} {k : St → Option R} {res : R} {xs : List Operand}
variable {base : Nat} {w0 : World} {S0 : Nat → Prop} {N : Nat} {D : Wt} {sv : Nat → Value} {σ : St} {ops : Array Oper} {Q : Exit → Act → World → Prop}
theorem looks_of {t : Nat} (h : t ∈ opTmps o) (ds : List (Option Nat)) : t ∈ looksOf ds o := by
  unfold looksOf
  split
  · exact h
  · split
    · exact List.mem_cons_of_mem _ h
    · exact h
theorem looks_guard {ds : List (Option Nat)} {j d : Nat} {want : Bool} (hg : o.guard = some (j, want)) (hd : ds[j]? = some (some d)) : d ∈ looksOf ds o := by
  unfold looksOf
  rw [hg]
  simp [hd]
theorem hasN_mem {n : Nat} : ∀ {l : List Nat}, hasN n l = true ↔ n ∈ l
  | [] => by simp [hasN]
  | m :: l => by
    unfold hasN
    split
    · rename_i h; have := Nat.eq_of_beq_eq_true h; subst this; simp
    · rename_i h
      have h : m ≠ n := fun e => by subst e; simp at h
      rw [hasN_mem]
      simp [Ne.symm h]
theorem clash_l {ds : List (Option Nat)} {x y : Oper} {t : Nat} (hx : x.dst = some t) (hy : t ∈ looksOf ds y) : clash c ds x y = true := by
  unfold clash
  split
  · simp [dstIn, hx, hasN_mem.2 hy]
  · rfl
theorem clash_r {ds : List (Option Nat)} {x y : Oper} {t : Nat} (hy : y.dst = some t) (hx : t ∈ looksOf ds x) : clash c ds x y = true := by
  unfold clash
  split
  · simp [dstIn, hy, hasN_mem.2 hx]
  · rfl
theorem clash_d {ds : List (Option Nat)} {x y : Oper} {t : Nat} (hx : x.dst = some t) (hy : y.dst = some t) : clash c ds x y = true := by
  unfold clash
  split
  · simp [sameDst, hx, hy]
  · rfl
theorem clash_b {ds : List (Option Nat)} {x y : Oper} (h : isQ c x.op = false ∨ isQ c y.op = false) : clash c ds x y = true := by
  unfold clash
  split
  · rename_i h1 h2
    rcases h with h | h
    · rw [h1] at h; cases h
    · rw [h2] at h; cases h
  · rfl
structure Inv (P : Program) [GlobL P] (H : Hnd R) (sv : Nat → Value) (base : Nat) (w0 : World) (S0 : Nat → Prop) (N : Nat) (D : Wt) (c : Cfg) (ops : Array Oper) (k : St → Option R) (res : R) (s : Nat) (σ : St) (tr : Tr) (σe : St) (L : Array Bool) (g : Gh) (a : Act) (w : World) : Prop where
  size : L.size = ops.size
  closed : Closed ops L
  sz : s ≤ ops.size
  low : ∀ p, p < s → L.getD p false = true
  high : ∀ p, L.getD p false = true → p < s + tr.length
  rel : Rel P base w0 S0 N D sv g { regs := regsL (fun i => L.getD i false) s tr σ.regs, mem := σ.mem, nx := σ.nx } a w
  seg : Seg H c (ops.toList.map (·.dst)) k res σ (ops.toList.drop s) tr σe
theorem drop_get {l : List Oper} {i : Nat} (h : l[i]? = some o) : l.drop i = o :: l.drop (i + 1) := by
  have hi := (List.getElem?_eq_some_iff.1 h).1
  rw [List.drop_eq_getElem_cons hi]
  congr 1
  exact (List.getElem?_eq_some_iff.1 h).2
theorem Inv.done {H : Hnd R} {s : Nat} {tr : Tr} {σe : St} {L : Array Bool} (I : Inv P H sv base w0 S0 N D c ops k res s σ tr σe L g a w) (hall : ∀ p, p < ops.size → L.getD p false = true) : k σe = some res ∧ Rel P base w0 S0 N D sv g σe a w := by
  have he : s + tr.length = ops.size := by
    have h1 := I.seg.le
    simp at h1
    rcases Nat.lt_or_ge (s + tr.length) ops.size with h | h
    · have := I.high _ (hall _ h); omega
    · have := I.sz; omega
  refine ⟨?_, ?_⟩
  · have := I.seg.rest
    rw [List.drop_drop, he, List.drop_eq_nil_of_le (by simp)] at this
    exact this
  · have hrel := I.rel
    refine { hrel with regs := fun t x hx => hrel.regs t x ?_, mem := by rw [I.seg.mem]; exact hrel.mem, inj := by rw [I.seg.mem]; exact hrel.inj, own := by rw [I.seg.mem]; exact hrel.own, lp := by rw [I.seg.mem]; exact hrel.lp, nx := by rw [I.seg.nx]; exact hrel.nx }
    rw [I.seg.regs] at hx
    rw [look_regsL (p := tr.length) (r' := σ.regs) rfl (fun q x hq _ => ?_), List.take_length]
    · exact hx
    · have hq := (List.getElem?_eq_some_iff.1 hq).1
      exact ⟨fun _ => hall _ (by omega), fun _ => hq⟩
theorem full_of_ready {L : Array Bool} (hs : L.size = ops.size) (hb : edgesBack 0 ops.toList = true) (hr : Region.ready .any ops L = []) : ∀ p, p < ops.size → L.getD p false = true := by
  intro p
  induction p using Nat.strongRecOn with
  | _ p ih =>
    intro hp
    cases hL : L.getD p false with
    | true => rfl
    | false =>
      have hmem : p ∈ Region.ready .any ops L := by
        rw [mem_ready]
        refine ⟨?_, ops[p], by simp, fun e he hbe => ?_⟩
        · have : p < L.size := by omega
          simp [this] at hL ⊢
          exact hL
        · have hlt := edgesBack_spec hb (p := p) (o := ops[p]) (by simp) e he (by
            have : Region.binds .any e = bindsAny e := by unfold Region.binds bindsAny; cases e.ground <;> rfl
            rw [← this]; exact hbe)
          exact ih e.on (by omega) (by omega)
      rw [hr] at hmem
      cases hmem
theorem count_false {L : Array Bool} {i : Nat} (hi : i < L.size) (h : L.getD i false = false) : (L.setIfInBounds i true).toList.count false + 1 = L.toList.count false := by
  have hL : L[i] = false := by simpa [hi] using h
  simp only [Array.toList_setIfInBounds]
  rw [List.count_eq_countP, List.count_eq_countP, List.countP_set (by simpa using hi)]
  simp [hL]
  have : 0 < List.countP (fun x => x == false) L.toList := by
    rw [List.countP_pos_iff]
    exact ⟨L[i], by simp, by simp [hL]⟩
  have e : List.countP (fun x => x == false) L.toList = Array.countP (fun x => !x) L := by
    rw [← Array.countP_toList]
    congr 1
    funext x
    cases x <;> rfl
  rw [e] at this
  omega
theorem full_of_count {L : Array Bool} (h : L.toList.count false = 0) : ∀ p, p < L.size → L.getD p false = true := by
  intro p hp
  cases hL : L.getD p false with
  | true => rfl
  | false =>
    have h1 : L[p] = false := by simpa [hp] using hL
    rw [List.count_eq_zero] at h
    exact (h (by rw [← h1]; simp)).elim
theorem Closed.set {L : Array Bool} (h : Closed ops L) {j : Nat} (hj : ops[j]? = some o) (he : ∀ e ∈ o.after, bindsAny e = true → L.getD e.on false = true) : Closed ops (L.setIfInBounds j true) := by
  intro p o' ho' hp e hea hb
  refine getD_set_true ?_
  by_cases e' : j = p
  · subst e'
    rw [hj] at ho'; cases ho'
    exact he e hea hb
  · rw [getD_set_ne false e'] at hp
    exact h p o' ho' hp e hea hb
theorem binds_any (e : Edge) : Region.binds .any e = bindsAny e := by unfold Region.binds bindsAny; cases e.ground <;> rfl
theorem getD_false {L : Array Bool} {j : Nat} (h : L.getD j true = false) : j < L.size ∧ L.getD j false = false := by
  rcases Nat.lt_or_ge j L.size with h' | h'
  · simp [h'] at h ⊢; exact h
  · simp [Array.getElem?_eq_none h'] at h
theorem any_ok {H : Hnd R} (hH : HndOK P H) (C : CfgOK P c) (hN : c.N = N) (hF : WideF F) (ho : orderOK c ops.toList = true) (hK : ∀ g' σ' a' w', k σ' = some res → Rel P base w0 S0 N D sv g' σ' a' w' → Q .normal a' w') :
    ∀ (fuel : Nat) {s : Nat} {σ : St} {tr : Tr} {σe : St} {L : Array Bool} {g : Gh} {a : Act} {w : World}, Inv P H sv base w0 S0 N D c ops k res s σ tr σe L g a w → L.toList.count false ≤ fuel → wpAnyIn F n P .any ops Q fuel L a w := by
  have hb : edgesBack 0 ops.toList = true := by
    unfold orderOK at ho
    split at ho
    · assumption
    · simp at ho
  intro fuel
  induction fuel with
  | zero =>
    intro s σ tr σe L g a w I hf
    have hall := full_of_count (by omega : L.toList.count false = 0)
    refine ⟨?_, ?_⟩
    · cases hr : Region.ready .any ops L with
      | nil => rfl
      | cons j _ =>
        have hj : j ∈ Region.ready .any ops L := by rw [hr]; simp
        obtain ⟨h1, h2⟩ := getD_false (mem_ready.1 hj).1
        rw [hall j h1] at h2; cases h2
    · obtain ⟨h1, h2⟩ := I.done (fun p hp => hall p (by rw [I.size]; exact hp))
      exact hK _ _ _ _ h1 h2
  | succ fuel ih =>
    intro s σ tr σe L g a w I hf
    refine ⟨fun hr => ?_, fun j hj => ?_⟩
    · obtain ⟨h1, h2⟩ := I.done (full_of_ready I.size hb hr)
      exact hK _ _ _ _ h1 h2
    · obtain ⟨hun, oj, hoj, hall⟩ := mem_ready.1 hj
      obtain ⟨hjL, hun⟩ := getD_false hun
      have hedge : ∀ e ∈ oj.after, bindsAny e = true → L.getD e.on false = true := fun e he hbe => hall e he (by rw [binds_any]; exact hbe)
      have hcnt := count_false hjL hun
      have hclosed' := I.closed.set hoj hedge
      have before : ∀ {i : Nat} {x : Oper}, i < j → ops[i]? = some x → clash c (ops.toList.map (·.dst)) x oj = true → L.getD i false = true := fun hij hx hcl => clash_before ho I.closed hij hx hoj hcl hedge
      have behind : ∀ {i : Nat} {y : Oper}, j < i → ops[i]? = some y → clash c (ops.toList.map (·.dst)) oj y = true → L.getD i false = false := by
        intro i y hji hy hcl
        cases hLi : L.getD i false with
        | false => rfl
        | true =>
          have := clash_before ho I.closed hji hoj hy hcl (fun e he hbe => I.closed i y hy hLi e he hbe)
          rw [hun] at this; cases this
      have hjs : s ≤ j := by
        rcases Nat.lt_or_ge j s with h | h
        · have := I.low j h; rw [hun] at this; cases this
        · exact h
      have hjsz : j < ops.size := by rw [← I.size]; exact hjL
      have htl : s + tr.length ≤ ops.size := by have := I.seg.le; simp at this; have := I.sz; omega
      have seg_get : ∀ {q : Nat} {u : Oper}, ops[s + q]? = some u → (ops.toList.drop s)[q]? = some u := fun h => by simpa using h
      have hLs : ∀ {i : Nat}, i ≠ j → (L.setIfInBounds j true).getD i false = L.getD i false := fun h => getD_set_ne false (Ne.symm h)
      have hLj : (L.setIfInBounds j true).getD j false = true := by simp [hjL]
      by_cases hjt : j < s + tr.length
      ·
        obtain ⟨p, rfl⟩ : ∃ p, j = s + p := ⟨j - s, by omega⟩
        have hp : p < tr.length := by omega
        obtain ⟨hq, hxd, hdN, r, hr, hst⟩ := I.seg.step p oj tr[p] (seg_get hoj) (by simp [hp])
        have tr_dst : ∀ {q : Nat} {x : Option Nat × AV}, tr[q]? = some x → ∃ u, ops[s + q]? = some u ∧ x.1 = u.dst := by
          intro q x hx
          have hlt := (List.getElem?_eq_some_iff.1 hx).1
          have h1 : ops[s + q]? = some ops[s + q] := by simp
          exact ⟨_, h1, (I.seg.step q _ x (seg_get h1) hx).2.1⟩
        have agree : ∀ t, t ∈ looksOf (ops.toList.map (·.dst)) oj → look t (regsL (fun i => L.getD i false) s tr σ.regs) = look t r := by
          intro t ht
          rw [hr, look_regsL (p := p) (r' := σ.regs) rfl]
          intro q x hx hxt
          obtain ⟨u, hu, hxu⟩ := tr_dst hx
          rw [hxu] at hxt
          constructor
          · intro hqp
            exact before (by omega) hu (clash_l hxt ht)
          · intro hLq
            rcases Nat.lt_or_ge q p with h | h
            · exact h
            · exfalso
              rcases Nat.lt_or_ge p q with h' | h'
              · rw [behind (by omega : s + p < s + q) hu (clash_r hxt ht)] at hLq; cases hLq
              · have : q = p := by omega
                subst this
                rw [hun] at hLq; cases hLq
        have upd : ∀ {g1 : Gh} {w1 : World} {v : Value}, Rel P base w0 S0 N D sv g1 { regs := regsL (fun i => L.getD i false) s tr σ.regs, mem := σ.mem, nx := σ.nx } a w1 → AVR g1 w1 tr[p].2 v → wpAnyIn F n P .any ops Q fuel (L.setIfInBounds (s + p) true) (a.put oj.dst v) w1 := by
          intro g1 w1 v hrel hv
          refine ih (s := s) (σ := σ) (tr := tr) (σe := σe) (g := g1) ⟨by simp [I.size], hclosed', I.sz, fun q hq => getD_set_true (I.low q hq), fun q hq => ?_, ?_, I.seg⟩ (by omega)
          · by_cases e : q = s + p
            · omega
            · rw [hLs e] at hq; exact I.high q hq
          · refine { hrel with regs := fun t x hx => ?_, size := ?_, dfr := ?_ }
            · by_cases e : oj.dst = some t
              · rw [look_regsL_at (p := p) (y := tr[p].2) (by rw [List.getElem?_eq_getElem hp, ← e, ← hxd]) hLj (fun q x' hpq hx' hxt => ?_)] at hx
                · cases hx
                  rw [e, vof_put (hdN t e).2 (by rw [hrel.size, ← hN]; exact (hdN t e).1), if_pos rfl]
                  exact hv
                · obtain ⟨u, hu, hxu⟩ := tr_dst hx'
                  rw [hxu] at hxt
                  rw [hLs (by omega)]
                  exact behind (by omega) hu (clash_d e hxt)
              · have notp : ∀ {q : Nat} {x' : Option Nat × AV}, tr[q]? = some x' → x'.1 = some t → ¬ s + q = s + p := by
                  intro q x' hx' hxt e'
                  have e9 : q = p := by omega
                  rw [e9, List.getElem?_eq_getElem hp] at hx'
                  have e8 : tr[p] = x' := Option.some.inj hx'
                  exact e (by rw [← hxd, e8]; exact hxt)
                rw [look_regsL_eq (L' := fun i => L.getD i false) (r' := σ.regs) rfl (fun q x' hx' hxt => hLs (fun e' => notp hx' hxt e'))] at hx
                · cases hd : oj.dst with
                  | none => exact hrel.regs t x hx
                  | some d =>
                    rw [vof_put (hdN d hd).2 (by rw [hrel.size, ← hN]; exact (hdN d hd).1), if_neg (fun e' => e (by rw [hd, e']))]
                    exact hrel.regs t x hx
            · have := hrel.size
              cases hd : oj.dst <;> simpa [Act.put] using this
            · have := hrel.dfr
              cases hd : oj.dst <;> simpa [Act.put] using this
        have run : evalQ c r σ.mem oj some = some tr[p].2 → oj.wpIn F n P a w (wpAnyIn F n P .any ops Q fuel (L.setIfInBounds (s + p) true)) Q := by
          intro he
          have E : Env P c g r σ.mem oj.op.operands.toList a w := { ev := env_ev (fun t ht x hx => I.rel.regs t x (by rw [agree t (looks_of ht _)]; exact hx)) I.rel.glo C.glb, glo := I.rel.glo, mem := I.rel.mem, ts := C.ts, sp := C.sp, S := I.rel.S, blk := I.rel.blk, eqs := C.eqs }
          obtain ⟨y, hy, hqr⟩ := evalQ_ok (n := n) E hF (fun _ h => h) he
          cases hy
          exact hqr _ _ fun v w' hbw hv => upd (I.rel.grow hbw) hv
        have skip : tr[p].2 = .undef → wpAnyIn F n P .any ops Q fuel (L.setIfInBounds (s + p) true) (a.put oj.dst undef) w := fun he => upd I.rel (by rw [he]; rfl)
        unfold wpOpIn
        simp only [hoj]
        rcases hst with ⟨hg, he⟩ | ⟨i, want, d, hg, hd, hst⟩
        · rw [if_pos (by simp [Region.wanted, hg])]
          exact run he
        · have hag := agree d (looks_guard hg hd)
          rcases hst with ⟨b, hb', hdN', hst⟩ | ⟨hu, he⟩
          · have hbv : a.tmps.getD d undef = .bool b := by
              have := I.rel.regs d _ (by rw [hag]; exact (lookT_some hb').2)
              rw [vof_lt (lookT_some hb').1] at this
              generalize a.tmps.getD d undef = u at this
              cases this; rfl
            have hwant : Region.wanted oj (yielded ops a.tmps) = (b == want) := by
              simp only [Region.wanted, hg, yielded_eq hd (by rw [I.rel.size, ← hN]; exact hdN'), hbv]
              cases b <;> cases want <;> rfl
            rcases hst with ⟨rfl, he⟩ | ⟨hne, he⟩
            · rw [if_pos (by rw [hwant]; simp)]
              exact run he
            · rw [if_neg (by rw [hwant]; simpa using hne)]
              exact ⟨about_wide hF, skip he⟩
          · have huv : a.tmps.getD d undef = undef := by
              have := I.rel.regs d .undef (by rw [hag]; exact (lookT_some hu).2)
              rw [vof_lt (lookT_some hu).1] at this
              exact this
            have hy : yielded ops a.tmps i = none := by
              by_cases hlt : d < a.tmps.size
              · rw [yielded_eq hd hlt, huv]; rfl
              · have h1 : (ops[i]?).bind (·.dst) = some d := by
                  simp only [List.getElem?_map, Array.getElem?_toList] at hd
                  cases h : ops[i]? with
                  | none => rw [h] at hd; simp at hd
                  | some o => rw [h] at hd; simp at hd; simpa using hd
                unfold yielded
                rw [h1]
                simp [hlt]
            rw [if_neg (by simp [Region.wanted, hg, hy])]
            exact ⟨about_wide hF, skip he⟩
      ·
        have hje : j = s + tr.length := by
          rcases Nat.lt_or_ge (s + tr.length) j with h | h
          · exfalso
            have hoe : ops[s + tr.length]? = some ops[s + tr.length] := by simp
            have := before h hoe (clash_b (.inl (I.seg.head _ (seg_get hoe))))
            have := I.high _ this
            omega
          · omega
        have hnq : isQ c oj.op = false := I.seg.head oj (seg_get (by rw [← hje]; exact hoj))
        have hallL : ∀ p, p < j → L.getD p false = true := fun p hp => before hp (x := ops[p]) (by simp) (clash_b (.inr hnq))
        have hrel : Rel P base w0 S0 N D sv g σe a w := by
          have hrel := I.rel
          refine { hrel with regs := fun t x hx => hrel.regs t x ?_, mem := by rw [I.seg.mem]; exact hrel.mem, inj := by rw [I.seg.mem]; exact hrel.inj, own := by rw [I.seg.mem]; exact hrel.own, lp := by rw [I.seg.mem]; exact hrel.lp, nx := by rw [I.seg.nx]; exact hrel.nx }
          rw [I.seg.regs] at hx
          rw [look_regsL (p := tr.length) (r' := σ.regs) rfl (fun q x hq _ => ?_), List.take_length]
          · exact hx
          · have hq := (List.getElem?_eq_some_iff.1 hq).1
            exact ⟨fun _ => hallL _ (by omega), fun _ => hq⟩
        have hrest := I.seg.rest
        rw [List.drop_drop, ← hje, drop_get (by simpa using hoj), runOps_cons] at hrest
        unfold wpOpIn
        simp only [hoj]
        refine guarded_ok hH hrel C hN hF (fun g1 σ1 a1 w1 hk h1 => ?_) hrest
        obtain ⟨tr1, σe1, S1⟩ := mkSeg _ _ hk
        refine ih (s := j + 1) (σ := σ1) (tr := tr1) (σe := σe1) (g := g1) ⟨by simp [I.size], hclosed', by omega, fun q hq => ?_, fun q hq => ?_, ?_, S1⟩ (by omega)
        · by_cases e : q = j
          · subst e; exact hLj
          · exact getD_set_true (hallL q (by omega))
        · by_cases e : q = j
          · omega
          · rw [hLs e] at hq; have := I.high q hq; omega
        · refine { h1 with regs := fun t x hx => h1.regs t x ?_ }
          rw [look_regsL (p := 0) (r' := σ1.regs) rfl (fun q x' _ _ => ?_)] at hx
          · simpa [regsF] using hx
          · simp only [Nat.not_lt_zero, false_iff]
            rw [hLs (by omega)]
            intro hq
            have := I.high _ hq
            omega
theorem Rel.drawn (h : Rel P base w0 S0 N D sv g σ a w) : Rel P base w0 S0 N D sv g σ a { w with drawn := w.drawn + 1 } :=
  { regs := fun t x hx => (h.regs t x hx).mono (fun _ _ => rfl) (Gh.le.refl g), size := h.size, dfr := h.dfr, glo := h.glo.mono (fun _ _ => rfl) (fun _ h => h), lp := h.lp, mem := fun i x hx => (by
      obtain ⟨b, hm, hr⟩ := h.mem i x hx
      exact ⟨b, hm, hr.mono (fun _ _ => rfl) (fun _ _ => rfl) (Gh.le.refl g)⟩), inj := h.inj, own := h.own, S := h.S, blk := h.blk, nx := h.nx, bel := h.bel.trans ⟨rfl, rfl, rfl, Nat.le_refl _, fun _ _ => rfl⟩, bs := h.bs, sub := h.sub }
theorem regionDraw_ok {H : Hnd R} (hH : HndOK P H) (C : CfgOK P c) (hN : c.N = N) (hF : WideF F) (hm : P.follows .mixedOrders = true) (ho : orderOK c ops.toList = true) (hK : ∀ g' σ' a' w', k σ' = some res → Rel P base w0 S0 N D sv g' σ' a' w' → Q .normal a' w') {id : Nat} (h : Rel P base w0 S0 N D sv g σ a w)
    (hs : runOps H c true (ops.toList.map (·.dst)) ops.toList σ k = some res) : (Code.region id ops true).wpIn F n P Q a w := by
  obtain ⟨tr, σe, S⟩ := mkSeg _ _ hs
  refine wpIn_region_any hm (any_ok hH C hN hF ho hK ops.size (s := 0) (σ := σ) (tr := tr) (σe := σe) (g := g) ⟨by simp, fun p o _ hp => ?_, Nat.zero_le _, fun p hp => by omega, fun p hp => ?_, ?_, by simpa using S⟩ (by simp [List.count_replicate]))
  · exfalso
    by_cases h : p < ops.size <;> simp [h] at hp
  · exfalso
    by_cases h : p < ops.size <;> simp [h] at hp
  · have h1 := h.drawn
    refine { h1 with regs := fun t x hx => h1.regs t x ?_ }
    rw [look_regsL (p := 0) (r' := σ.regs) rfl (fun q x' _ _ => ?_)] at hx
    · simpa [regsF] using hx
    · simp only [Nat.not_lt_zero, false_iff]
      by_cases h : q < ops.size <;> simp [h]
end
end Go.Eng
set_option linter.unusedSimpArgs false
set_option linter.unusedVariables false
set_option linter.unnecessarySimpa false
namespace Go.Eng
open Go Go.RowKit
section
variable {P : Program} [GlobL P] {F : Fence} {n : Nat} {c : Cfg} {g g' : Gh} {r : Regs} {m : Mem} {a : Act} {w w' : World} {o : Oper} {R : Type} {k : St → Option R} {res : R} {xs : List Operand}
variable {base : Nat} {w0 : World} {S0 : Nat → Prop} {N : Nat} {D : Wt} {sv : Nat → Value} {σ : St} {ops : Array Oper} {Q : Exit → Act → World → Prop} {ids : List Nat}
def Gh.only (g : Gh) (ids : List Nat) : Gh := { S := g.S, m := fun i => if i ∈ ids then g.m i else none }
theorem Gh.only_get {id : Nat} {b : Gb} (h : id ∈ ids) (hm : g.m id = some b) : (g.only ids).m id = some b := by
  show (if id ∈ ids then g.m id else none) = some b
  rw [if_pos h]; exact hm
theorem Gh.only_some {id : Nat} {b : Gb} (h : (g.only ids).m id = some b) : id ∈ ids ∧ g.m id = some b := by
  change (if id ∈ ids then g.m id else none) = some b at h
  split at h
  · exact ⟨‹_›, h⟩
  · cases h
theorem VA.only {x : At} {v : Value} (h : VA g w x v) (hi : ∀ i ∈ idsAt x, i ∈ ids) : VA (g.only ids) w x v := by
  have pur : ∀ {x : At} {v : Value}, VA g w x v → pureA x = true → VA (g.only ids) w x v := fun h hp => h.pure hp (fun _ h => h)
  cases x
  case int κ q => exact pur h rfl
  case bool b => exact pur h rfl
  case str s => exact pur h rfl
  case sl τ l => exact pur h rfl
  case fnc f => exact pur h rfl
  case clip τ l =>
    cases h with
    | clip _ _ ad len bk of f hl ha hcell hf => exact .clip τ l ad len bk of f hl ha hcell (fun i x j y hx hy => pur (hf i x j y hx hy) (enc_pure _ _ _ _ hy))
  case vptr τ x j =>
    cases h with
    | vptr _ _ _ bk of f ha hcell hf => exact .vptr τ x j bk of f ha hcell (fun i y hy => pur (hf i y hy) (enc_pure _ _ _ _ hy))
  case own i =>
    cases h with
    | own _ b ad hm hk h0 => exact .own i b ad (Gh.only_get (hi i (by simp [idsAt])) hm) hk h0
  case sub i off len =>
    cases h with
    | sub _ _ _ b ad cc hm hl hc hk => exact .sub i off len b ad cc (Gh.only_get (hi i (by simp [idsAt])) hm) hl hc hk
  case ptr i off =>
    cases h with
    | ptr _ _ b kk hm hk => exact .ptr i off b kk (Gh.only_get (hi i (by simp [idsAt])) hm) hk
  case eptr i p q =>
    cases h with
    | eptr _ _ _ b kk hm hk => exact .eptr i p q b kk (Gh.only_get (hi i (by simp [idsAt])) hm) hk
  case clo i =>
    cases h with
    | clo _ b f fs cs hm hv => exact .clo i b f fs cs (Gh.only_get (hi i (by simp [idsAt])) hm) hv
  case mapr i =>
    cases h with
    | mapr _ b kk hm hk => exact .mapr i b kk (Gh.only_get (hi i (by simp [idsAt])) hm) hk
  case iter i =>
    cases h with
    | iter _ b kk hm hk => exact .iter i b kk (Gh.only_get (hi i (by simp [idsAt])) hm) hk
  case yld i =>
    cases h with
    | yld _ b kk hm hk => exact .yld i b kk (Gh.only_get (hi i (by simp [idsAt])) hm) hk
  case gl τ l =>
    cases h with
    | gl _ _ bk f ha hcell hf => exact .gl τ l bk f ha hcell (fun i x j y hx hy => pur (hf i x j y hx hy) (enc_pure _ _ _ _ hy))
  case nilp => cases h; exact .nilp
  case nilf => cases h; exact .nilf
  case nilm => cases h; exact .nilm
  case dead => exact .dead _ h.one
theorem idsIn_mem : ∀ {l : List At}, idsIn ids l = true → ∀ x ∈ l, ∀ i ∈ idsAt x, i ∈ ids
  | [], _, x, hx => by simp at hx
  | y :: l, h, x, hx => by
    unfold idsIn at h
    split at h
    · rename_i hy
      rcases List.mem_cons.1 hx with rfl | hx
      · exact fun i hi => hasN_mem.1 ((List.all_eq_true.1 hy) i hi)
      · exact idsIn_mem h x hx
    · simp at h
theorem All2.monoL {α β : Type} {R R' : α → β → Prop} {l : List α} {m : List β} (h : All2 R l m) (hr : ∀ a ∈ l, ∀ b, R a b → R' a b) : All2 R' l m := by
  induction h with
  | nil => exact .nil
  | cons h _ ih => exact .cons (hr _ (by simp) _ h) (ih fun a ha => hr a (by simp [ha]))
theorem V1R.only {x : V1} {v : Value} (h : V1R g w x v) (hi : idsV1 ids x = true) : V1R (g.only ids) w x v := by
  cases x with
  | one x => exact VA.only h (idsIn_mem hi x (by simp))
  | agg l => obtain ⟨vs, rfl, h⟩ := h; exact ⟨vs, rfl, h.monoL fun x hx v hv => hv.only (idsIn_mem hi x hx)⟩
theorem AVR.only {x : AV} {v : Value} (h : AVR g w x v) (hi : idsV ids x = true) : AVR (g.only ids) w x v := by
  cases x with
  | v x => exact V1R.only h hi
  | tup l => obtain ⟨vs, rfl, h⟩ := h; exact ⟨vs, rfl, h.monoL fun x hx v hv => V1R.only hv ((List.all_eq_true.1 hi) x hx)⟩
  | undef => exact h
  | dead => trivial
theorem BR.only {b : Gb} {x : AB} (h : BR P g w b x) (hi : idsB ids x = true) : BR P (g.only ids) w b x := by
  cases x with
  | cells l => obtain ⟨k, cs, e, hb, hh, ha⟩ := h; exact ⟨k, cs, e, hb, hh, ha.monoL fun x hx v hv => hv.only (idsIn_mem hi x hx)⟩
  | row τ l =>
    obtain ⟨h1, h2, h3⟩ := h
    refine ⟨h1, h2, ?_⟩
    rcases h3 with h3 | ⟨k, cs, e, hb, hh, hs, hl, ho, ha⟩
    · exact .inl h3
    · exact .inr ⟨k, cs, e, hb, hh, hs, hl, ho, fun i x j y hx hy => let ⟨v, hv, ha'⟩ := ha i x j y hx hy; ⟨v, hv, ha'.pure (enc_pure _ _ _ _ hy) (fun _ h => h)⟩⟩
  | clo f a c =>
    obtain ⟨h0, fs, cs, hb, h1, h2⟩ := h
    simp only [idsB] at hi
    split at hi
    · rename_i ha
      exact ⟨h0, fs, cs, hb, h1.monoL fun x hx v hv => hv.only (idsIn_mem ha x hx), h2.monoL fun x hx v hv => hv.only (idsIn_mem hi x hx)⟩
    · simp at hi
  | iter s p => exact h
  | capk x n => obtain ⟨hb, ad, len, hv⟩ := h; exact ⟨hb, ad, len, hv.only (idsIn_mem hi x (by simp))⟩
  | loop ph n fid rid regs =>
    obtain ⟨k, r, hb, hh, h1, h2, h3, h4, h5⟩ := h
    exact ⟨k, r, hb, hh, h1, h2, h3, h4, fun t x hx => ⟨(h5 t x hx).1, (h5 t x hx).2.only ((List.all_eq_true.1 hi) _ (look_mem hx))⟩⟩
  | over e => obtain ⟨k, r, hb, hh, h1⟩ := h; exact ⟨k, r, hb, hh, h1⟩
  | map ag κ τ l ck => obtain ⟨k, es, hb, hh, ha⟩ := h; exact ⟨k, es, hb, hh, ha.mono fun x e k => k.of fun y v hy hv => V1R.purT (g := g) (g' := g.only ids) (w := w) (w' := w) (fun x v hp hv => hv.pure hp (fun _ h => h)) hy hv⟩
  | gone => trivial
theorem keepRegs_ok {mem : List Nat} : ∀ {l : List Nat} {r r' : Regs}, keepRegs mem r l = some r' → ∀ t x, look t r' = some x → look t r = some x ∧ idsV mem x = true
  | [], r, r', h, t, x, hx => by simp [keepRegs] at h; subst h; simp [look] at hx
  | n :: l, r, r', h, t, x, hx => by
    simp only [keepRegs] at h
    split at h
    · rename_i v r2 hv hr2
      split at h
      · rename_i hi
        cases h
        rw [look_cons] at hx
        split at hx
        · rename_i e; subst e; cases hx; exact ⟨hv, hi⟩
        · exact keepRegs_ok hr2 t x hx
      · simp at h
    · simp at h
theorem keepMem_ok {mem : List Nat} : ∀ {l : List Nat} {r r' : Mem}, keepMem mem r l = some r' → ∀ t x, look t r' = some x → t ∈ l ∧ look t r = some x ∧ idsB mem x = true
  | [], r, r', h, t, x, hx => by simp [keepMem] at h; subst h; simp [look] at hx
  | n :: l, r, r', h, t, x, hx => by
    simp only [keepMem] at h
    split at h
    · rename_i v r2 hv hr2
      split at h
      · rename_i hi
        cases h
        rw [look_cons] at hx
        split at hx
        · rename_i e; subst e; cases hx; exact ⟨by simp, hv, hi⟩
        · obtain ⟨h1, h2, h3⟩ := keepMem_ok hr2 t x hx
          exact ⟨by simp [h1], h2, h3⟩
      · simp at h
    · simp at h
theorem toRows_ok : ∀ {l : List (Nat × Nat × Ty)} {σ σ' : St} {g : Gh}, toRows l σ = some σ' → Rel P base w0 S0 N D sv g σ a w → ∃ g', Rel P base w0 S0 N D sv g' σ' a w
  | [], σ, σ', g, h, hr => by simp [toRows] at h; subst h; exact ⟨g, hr⟩
  | (r, id, τ) :: l, σ, σ', g, h, hr => by
    simp only [toRows] at h
    split at h
    · split at h
      · exact toRows_ok h hr
      · simp at h
    · rename_i τ' hlk
      split at h
      · rename_i hle
        have hle := Nat.le_of_ble_eq_true hle
        have hv := hr.regs r _ hlk
        obtain ⟨b, hbd⟩ : ∃ b : Gb, b = ⟨none, 0, 0, τ.n, default⟩ := ⟨_, rfl⟩
        have h1 := hr.new (id := id) hle (b := b) (x := .row τ []) (Below.refl _ _) (by rw [hbd]; exact ⟨rfl, rfl, .inl ⟨rfl, rfl, rfl⟩⟩) (fun q hq => by rw [hbd] at hq; cases hq)
        have hmg : (g.set id b).m id = some b := by simp [Gh.set]
        have hva : VA (g.set id b) w (.own id) (vof sv a r) := by
          generalize vof sv a r = u at hv
          cases hv with
          | clip _ _ ad len bk of f hl ha hcell hf =>
            simp at hl
            subst hl
            have := VA.own (g := g.set id b) (w := w) id b ad hmg (fun q hq => by rw [hbd] at hq; cases hq) (fun _ => by rw [hbd]; exact ⟨rfl, rfl⟩)
            rw [hbd] at this ⊢
            exact this
        refine toRows_ok h (g := g.set id b) { h1 with regs := fun t y hy => ?_ }
        simp only [look_cons] at hy
        split at hy
        · rename_i e; subst e; cases hy; exact hva
        · exact h1.regs t y hy
      · simp at h
    · simp at h
theorem toSubs_ok : ∀ {l : List (Nat × Nat × Ty)} {σ σ' : St} {g : Gh}, toSubs l σ = some σ' → Rel P base w0 S0 N D sv g σ a w → ∃ g', Rel P base w0 S0 N D sv g' σ' a w
  | [], σ, σ', g, h, hr => by simp [toSubs] at h; subst h; exact ⟨g, hr⟩
  | (r, id, τ) :: l, σ, σ', g, h, hr => by
    simp only [toSubs] at h
    split at h
    · split at h
      · exact toSubs_ok h hr
      · simp at h
    · rename_i τ' hlk
      split at h
      · rename_i hle
        have hle := Nat.le_of_ble_eq_true hle
        have hv := hr.regs r _ hlk
        obtain ⟨b, hbd⟩ : ∃ b : Gb, b = ⟨none, 0, 0, τ.n, default⟩ := ⟨_, rfl⟩
        have h1 := hr.new (id := id) hle (b := b) (x := .row τ []) (Below.refl _ _) (by rw [hbd]; exact ⟨rfl, rfl, .inl ⟨rfl, rfl, rfl⟩⟩) (fun q hq => by rw [hbd] at hq; cases hq)
        have hmg : (g.set id b).m id = some b := by simp [Gh.set]
        have hva : VA (g.set id b) w (.sub id 0 0) (vof sv a r) := by
          generalize vof sv a r = u at hv
          cases hv with
          | clip _ _ ad len bk of f hl ha hcell hf =>
            simp at hl
            subst hl
            exact VA.sub (g := g.set id b) (w := w) id 0 0 b ad 0 hmg (by rw [hbd]; exact Nat.le_refl _) (by rw [hbd]; rfl) (fun e => absurd rfl e)
        refine toSubs_ok h (g := g.set id b) { h1 with regs := fun t y hy => ?_ }
        simp only [look_cons] at hy
        split at hy
        · rename_i e; subst e; cases hy; exact hva
        · exact h1.regs t y hy
      · simp at h
    · simp at h
theorem Rel.say (h : Rel P base w0 S0 N D sv g σ a w) {id : Nat} {x y : AB} (hx : look id σ.mem = some x) (hl : x.live = true) (hB : ∀ b, BR P g w b x → BR P g w b y) (hyl : y.isLoop = false := by rfl) : Rel P base w0 S0 N D sv g (σ.set id y) a w := by
  have e : ∀ i z, look i (σ.set id y).mem = some z → (i = id ∧ z = y) ∨ look i σ.mem = some z := fun i z hz => by
    simp only [St.set, look_cons] at hz
    split at hz
    · rename_i e; cases hz; exact .inl ⟨e.symm, rfl⟩
    · exact .inr hz
  have e2 : ∀ i z, look i (σ.set id y).mem = some z → z.live = true → ∃ z', look i σ.mem = some z' ∧ z'.live = true := fun i z hz hlz => by
    rcases e i z hz with ⟨rfl, _⟩ | hz'
    · exact ⟨x, hx, hl⟩
    · exact ⟨z, hz', hlz⟩
  refine { regs := h.regs, size := h.size, dfr := h.dfr, glo := h.glo, lp := fun i z b h1 hl1 => ?_, mem := fun i z hz => ?_, inj := fun i i' z z' b b' q h1 h2 hl1 hl2 => ?_, own := fun i z b q h1 hl1 => ?_, S := h.S, blk := h.blk, nx := h.nx, bel := h.bel, bs := h.bs, sub := h.sub }
  · intro hm1
    rcases e i z h1 with ⟨rfl, rfl⟩ | h1
    · rw [hyl] at hl1; cases hl1
    · exact h.lp i z b h1 hl1 hm1
  · rcases e i z hz with ⟨rfl, rfl⟩ | hz'
    · obtain ⟨b, hm, hr⟩ := h.mem i x hx
      exact ⟨b, hm, hB b hr⟩
    · exact h.mem i z hz'
  · obtain ⟨z1, h3, h4⟩ := e2 i z h1 hl1
    obtain ⟨z2, h5, h6⟩ := e2 i' z' h2 hl2
    exact h.inj i i' z1 z2 b b' q h3 h5 h4 h6
  · obtain ⟨z1, h3, h4⟩ := e2 i z h1 hl1
    exact h.own i z1 b q h3 h4
theorem toSls_ok : ∀ {l : List Nat} {σ σ' : St}, toSls l σ = some σ' → Rel P base w0 S0 N D sv g σ a w → Rel P base w0 S0 N D sv g σ' a w
  | [], σ, σ', h, hr => by simp [toSls] at h; subst h; exact hr
  | r :: l, σ, σ', h, hr => by
    simp only [toSls] at h
    split at h
    · rename_i x hx
      refine toSls_ok h { hr with regs := fun t y hy => ?_ }
      simp only [look_cons] at hy
      split at hy
      · rename_i e; subst e; cases hy; exact VA.unclip (hr.regs _ _ hx)
      · exact hr.regs t y hy
    · simp at h
theorem toSlm_ok : ∀ {l : List Nat} {σ σ' : St}, toSlm l σ = some σ' → Rel P base w0 S0 N D sv g σ a w → Rel P base w0 S0 N D sv g σ' a w
  | [], σ, σ', h, hr => by simp [toSlm] at h; subst h; exact hr
  | id :: l, σ, σ', h, hr => by
    simp only [toSlm] at h
    split at h
    · rename_i cs hcs
      refine toSlm_ok h (hr.say hcs rfl fun b hb => ?_)
      obtain ⟨k, us, e, hk, hh, ha⟩ := hb
      exact ⟨k, us, e, hk, hh, ha.unclip⟩
    · simp at h
theorem toRowm_ok : ∀ {l : List (Nat × Nat × Nat × Ty)} {σ σ' : St} {g : Gh}, toRowm l σ = some σ' → Rel P base w0 S0 N D sv g σ a w → ∃ g', Rel P base w0 S0 N D sv g' σ' a w
  | [], σ, σ', g, h, hr => by simp [toRowm] at h; subst h; exact ⟨g, hr⟩
  | (bk, j, id, τ) :: l, σ, σ', g, h, hr => by
    simp only [toRowm] at h
    split at h
    · rename_i cs hcs
      split at h
      · split at h
        · exact toRowm_ok h hr
        · simp at h
      · rename_i τ' hj
        split at h
        · rename_i hle
          have hle := Nat.le_of_ble_eq_true hle
          obtain ⟨b, hbd⟩ : ∃ b : Gb, b = ⟨none, 0, 0, τ.n, default⟩ := ⟨_, rfl⟩
          have h1 := hr.new (id := id) hle (b := b) (x := .row τ []) (Below.refl _ _) (by rw [hbd]; exact ⟨rfl, rfl, .inl ⟨rfl, rfl, rfl⟩⟩) (fun q hq => by rw [hbd] at hq; cases hq)
          have hmg : (g.set id b).m id = some b := by simp [Gh.set]
          have hbk : bk ≠ id := by
            obtain ⟨b0, hb0, _⟩ := hr.mem bk _ hcs
            have := hr.nx bk b0 hb0
            omega
          have hlk : look bk ((id, AB.row τ []) :: σ.mem) = some (.cells cs) := by rw [look_cons, if_neg (Ne.symm hbk)]; exact hcs
          refine toRowm_ok h (g := g.set id b) (h1.say (id := bk) hlk rfl (y := .cells (cs.set j (.own id))) fun b1 hb1 => ?_)
          obtain ⟨k, us, e, hk, hh, ha⟩ := hb1
          refine ⟨k, us, e, hk, hh, ?_⟩
          obtain ⟨u, hu, hv⟩ := ha.get hj
          have hva : VA (g.set id b) w (.own id) u := by
            cases hv with
            | clip _ _ ad len bk of f hl ha hcell hf =>
              simp at hl
              subst hl
              have := VA.own (g := g.set id b) (w := w) id b ad hmg (fun q hq => by rw [hbd] at hq; cases hq) (fun _ => by rw [hbd]; exact ⟨rfl, rfl⟩)
              rw [hbd] at this ⊢
              exact this
          have := ha.set hva j
          have e9 : us.toList.set j u = us.toList := by
            obtain ⟨hj2, e⟩ := List.getElem?_eq_some_iff.1 hu
            rw [← e]; exact List.set_getElem_self hj2
          rwa [e9] at this
        · simp at h
      · simp at h
    · simp at h
theorem coerce_ok {an : Ann} {σ σ' : St} (h : coerce an σ = some σ') (hr : Rel P base w0 S0 N D sv g σ a w) : ∃ g', Rel P base w0 S0 N D sv g' σ' a w := by
  unfold coerce at h
  split at h
  · simp at h
  · rename_i σ0 h0
    obtain ⟨g0, r0⟩ := toSubs_ok h0 hr
    split at h
    · rename_i σ1 h1
      obtain ⟨g1, r1⟩ := toRows_ok h1 r0
      split at h
      · rename_i σ2 h2
        obtain ⟨g2, r2⟩ := toRowm_ok h2 r1
        split at h
        · rename_i σ3 h3
          exact ⟨g2, toSlm_ok h (toSls_ok h3 r2)⟩
        · simp at h
      · simp at h
    · simp at h
theorem keep_ok {an : Ann} {σ' : St} (h : keep an σ = some σ') (hr : Rel P base w0 S0 N D sv g σ a w) : ∃ g', Rel P base w0 S0 N D sv g' σ' a w := by
  unfold keep at h
  split at h
  · rename_i σ1 h1
    obtain ⟨g1, r1⟩ := coerce_ok h1 hr
    split at h
    · rename_i r2 m2 hr2 hm2 hlt
      cases h
      refine ⟨g1.only an.mem, { regs := fun t x hx => ?_, size := r1.size, dfr := r1.dfr, glo := r1.glo, lp := fun id x b hx hl hm => r1.lp id x b (keepMem_ok hm2 id x hx).2.1 hl (Gh.only_some hm).2, mem := fun id x hx => ?_, inj := fun id id' x x' b b' q hx hx' hl hl' hm hm' => ?_, own := fun id x b q hx hl hm hq => ?_, S := r1.S, blk := fun id b q hm hq => r1.blk id b q (Gh.only_some hm).2 hq, nx := fun id b hm => ?_, bel := r1.bel, bs := r1.bs, sub := r1.sub }⟩
      · obtain ⟨h2, h3⟩ := keepRegs_ok hr2 t x hx
        exact (r1.regs t x h2).only h3
      · obtain ⟨h2, h3, h4⟩ := keepMem_ok hm2 id x hx
        obtain ⟨b, hb, hbr⟩ := r1.mem id x h3
        exact ⟨b, Gh.only_get h2 hb, hbr.only h4⟩
      · exact r1.inj id id' x x' b b' q (keepMem_ok hm2 id x hx).2.1 (keepMem_ok hm2 id' x' hx').2.1 hl hl' (Gh.only_some hm).2 (Gh.only_some hm').2
      · exact r1.own id x b q (keepMem_ok hm2 id x hx).2.1 hl (Gh.only_some hm).2 hq
      · have := (List.all_eq_true.1 hlt) id (Gh.only_some hm).1
        exact Nat.le_of_ble_eq_true this
    · simp at h
  · simp at h
theorem keepIf_ok {an : Option Ann} (h : keepIf an σ k = some res) (hr : Rel P base w0 S0 N D sv g σ a w) : ∃ g' σ', k σ' = some res ∧ Rel P base w0 S0 N D sv g' σ' a w := by
  unfold keepIf at h
  split at h
  · exact ⟨g, σ, h, hr⟩
  · split at h
    · rename_i h1
      obtain ⟨g', h2⟩ := keep_ok h1 hr
      exact ⟨g', _, h, h2⟩
    · simp at h
end
end Go.Eng
set_option linter.unusedSimpArgs false
set_option linter.unusedVariables false
set_option linter.unnecessarySimpa false
namespace Go.Eng
open Go Go.RowKit
section
variable {R : Type} {c : Cfg} {r : Regs} {m m' : Mem} {o : Oper}
theorem cellsAt_congr {p : At} {n : Nat} {k : List At → Option R} (h : ∀ i ∈ idsAt p, look i m = look i m') : cellsAt m p n k = cellsAt m' p n k := by
  cases p <;> simp only [cellsAt] <;> simp [idsAt] at h <;> rw [h]
theorem listOf_congr {p : At} {k : (τ : Ty) → List τ.T → Option R} (h : ∀ i ∈ idsAt p, look i m = look i m') : listOf m p k = listOf m' p k := by
  cases p <;> simp only [listOf] <;> simp [idsAt] at h <;> rw [h]
theorem viewAt_congr {p : At} {k : At → Option R} (h : ∀ i ∈ idsAt p, look i m = look i m') : viewAt m p k = viewAt m' p k := by
  cases p <;> simp only [viewAt] <;> first | rfl | exact listOf_congr h
theorem viewL_congr : ∀ {l : List At} {k : List At → Option R}, (∀ i ∈ l.flatMap idsAt, look i m = look i m') → viewL m l k = viewL m' l k
  | [], k, _ => rfl
  | x :: l, k, h => by
    simp only [viewL]
    rw [viewAt_congr (m' := m') (fun i hi => h i (by simp [hi]))]
    congr 1
    funext y
    exact viewL_congr (fun i hi => h i (by rw [List.flatMap_cons]; exact List.mem_append_right _ hi))
theorem viewV_congr {x : AV} {k : AV → Option R} (h : ∀ i ∈ idsAV x, look i m = look i m') : viewV m x k = viewV m' x k := by
  unfold viewV
  split
  · exact viewAt_congr h
  · exact viewL_congr h
  · rfl
theorem viewVs_congr : ∀ {l : List AV} {k : List AV → Option R}, (∀ i ∈ l.flatMap idsAV, look i m = look i m') → viewVs m l k = viewVs m' l k
  | [], k, _ => rfl
  | x :: l, k, h => by
    simp only [viewVs]
    rw [viewV_congr (m' := m') (fun i hi => h i (by simp [hi]))]
    congr 1
    funext y
    exact viewVs_congr (fun i hi => h i (by rw [List.flatMap_cons]; exact List.mem_append_right _ hi))
theorem lenQ_congr {t : TypeId} {p : At} {k : AV → Option R} (h : ∀ i ∈ idsAt p, look i m = look i m') : lenQ c m t p k = lenQ c m' t p k := by
  unfold lenQ
  split
  · rfl
  · split
    · rfl
    · exact listOf_congr h
  · split
    · rw [h _ (by simp [idsAt])]
    · rfl
  · rfl
theorem idxQ_congr {t : TypeId} {p : At} {n : Int} {k : AV → Option R} (h : ∀ i ∈ idsAt p, look i m = look i m') : idxQ c m t p n k = idxQ c m' t p n k := by
  unfold idxQ
  split
  · cases p <;> simp [idsAt] at h <;> first | rfl | (simp only []; rw [h])
  · rfl
  · rfl
theorem sliceQ_congr {t : TypeId} {p : At} {lo hi mx : Option Operand} {k : AV → Option R} (h : ∀ i ∈ idsAt p, look i m = look i m') (hc : ∀ i ∈ idsAt p, capIn m i m = capIn m' i m') : sliceQ c r m t p lo hi mx k = sliceQ c r m' t p lo hi mx k := by
  unfold sliceQ
  split
  · split
    · rfl
    · cases p <;> simp [idsAt] at h hc <;> first | rfl | (simp only []; rw [h, hc])
    · rfl
  · rfl
theorem ev_ids {t : TypeId} {x : Operand} {v : AV} (h : ev c r t x = some v) : ∀ i ∈ idsAV v, ∃ n u, x = .tmp n ∧ look n r = some u ∧ i ∈ idsAV u := by
  intro i hi
  cases x with
  | tmp n => exact ⟨n, v, rfl, (lookT_some h).2, hi⟩
  | const v' =>
    exfalso
    simp only [ev] at h
    unfold constAV at h
    split at h <;> first | (cases h; simp [idsAV, idsV1L, idsAt] at hi; done) | skip
    split at h
    · cases h; simp [idsAV, idsV1L, idsAt] at hi
    · cases h
    · cases h
  | func f => simp only [ev] at h; cases h; simp [idsAV, idsV1L, idsAt] at hi
  | «global» _ =>
    simp only [ev] at h
    split at h
    · cases h; simp [idsAV, idsV1L, idsAt] at hi
    · cases h
theorem touch_mem {n : Nat} {u : AV} {i : Nat} (hl : looksM o.op = true) (h1 : n ∈ opTmps o) (h2 : look n r = some u) (h3 : i ∈ idsAV u) : i ∈ touch r o := by
  unfold touch
  rw [hl]
  simp only []
  rw [List.mem_flatMap]
  exact ⟨n, h1, by rw [h2]; exact h3⟩
theorem opTmps_mem {n : Nat} (h : Operand.tmp n ∈ o.op.operands.toList) : n ∈ opTmps o := by
  unfold opTmps
  rw [List.mem_filterMap]
  exact ⟨_, h, rfl⟩
theorem ev_touch (hl : looksM o.op = true) {t : TypeId} {x : Operand} {v : AV} (h : ev c r t x = some v) (hx : x ∈ o.op.operands.toList) : ∀ i ∈ idsAV v, i ∈ touch r o := by
  intro i hi
  obtain ⟨n, u, rfl, h2, h3⟩ := ev_ids h i hi
  exact touch_mem hl (opTmps_mem hx) h2 h3
theorem evA_ev {t : TypeId} {x : Operand} {p : At} (h : evA c r t x = some p) : ev c r t x = some (.one p) := by
  unfold evA at h
  split at h
  · rename_i e; cases h; exact e
  · cases h
theorem evA_touch (hl : looksM o.op = true) {t : TypeId} {x : Operand} {p : At} (h : evA c r t x = some p) (hx : x ∈ o.op.operands.toList) : ∀ i ∈ idsAt p, i ∈ touch r o := ev_touch hl (evA_ev h) hx
theorem evArgs_touch (hl : looksM o.op = true) : ∀ {l : List Operand} {ts : List TypeId} {as : List AV}, evArgs c r l ts = some as → (∀ x ∈ l, x ∈ o.op.operands.toList) → ∀ i ∈ as.flatMap idsAV, i ∈ touch r o
  | [], ts, as, h, _, i, hi => by simp only [evArgs] at h; cases h; simp at hi
  | x :: l, ts, as, h, hx, i, hi => by
    simp only [evArgs] at h
    split at h
    · rename_i y l' h1 h2
      cases h
      rw [List.flatMap_cons, List.mem_append] at hi
      rcases hi with hi | hi
      · exact ev_touch hl h1 (hx x (by simp)) i hi
      · exact evArgs_touch hl h2 (fun z hz => hx z (by simp [hz])) i hi
    · cases h
theorem evalQ_congr {k : AV → Option R} (h : ∀ i ∈ touch r o, look i m = look i m') (hc : ∀ i, capIn m i m = capIn m' i m') : evalQ c r m o k = evalQ c r m' o k := by
  unfold evalQ
  split
  case h_4 t a ho =>
    split
    · rename_i ti p h1 h2
      exact cellsAt_congr fun i hi => h i (evA_touch (by rw [ho]; rfl) h2 (by simp [ho, Op.operands]) i hi)
    · rfl
  case h_8 t x i ho =>
    split
    · rename_i p _ n h1 h2
      exact idxQ_congr fun i hi => h i (evA_touch (by rw [ho]; rfl) h1 (by simp [ho, Op.operands]) i hi)
    · rfl
  case h_13 s d x ho =>
    split
    · rfl
    · rfl
    · rename_i p h1 h2 h3
      split
      · exact listOf_congr fun i hi => h i (ev_touch (by rw [ho]; rfl) h3 (by simp [ho, Op.operands]) i hi)
      · rfl
    · rfl
    · rfl
  case h_15 t x lo hi mx ho =>
    split
    · rename_i p h1
      exact sliceQ_congr (fun i hi => h i (evA_touch (by rw [ho]; rfl) h1 (by simp [ho, Op.operands]) i hi)) (fun i _ => hc i)
    · rfl
  case h_17 args ts ho =>
    split
    · rename_i x t h1 h2
      split
      · rename_i p h3
        exact lenQ_congr fun i hi => h i (evA_touch (by rw [ho]; rfl) h3 (by simp [ho, Op.operands, Call.operands, h1]) i hi)
      · rfl
    · rfl
  case h_18 f args ts ho =>
    split
    · rename_i n as h1 h2
      split
      · exact viewVs_congr fun i hi => h i (evArgs_touch (by rw [ho]; rfl) h2 (by intro x hx; simp only [ho, Op.operands, Call.operands, Array.toList_append, List.mem_append]; simp [hx]) i hi)
      · rfl
    · rfl
  all_goals rfl
end
end Go.Eng
set_option linter.unusedSimpArgs false
set_option linter.unusedVariables false
set_option linter.unnecessarySimpa false
namespace Go.Eng
open Go Go.RowKit
section
variable {α : Type}
def gP (d : Option Nat) (y : α) (r : List (Nat × α)) : List (Nat × α) :=
  match d with
  | none => r
  | some d => (d, y) :: r
def gF : List (Option Nat × α) → List (Nat × α) → List (Nat × α)
  | [], r => r
  | x :: l, r => gF l (gP x.1 x.2 r)
def gL (L : Nat → Bool) : Nat → List (Option Nat × α) → List (Nat × α) → List (Nat × α)
  | _, [], r => r
  | i, x :: l, r => gL L (i + 1) l (if L i then gP x.1 x.2 r else r)
theorem look_gP {d : Option Nat} {y : α} {r : List (Nat × α)} {t : Nat} : look t (gP d y r) = if d = some t then some y else look t r := by
  cases d with
  | none => simp [gP]
  | some d =>
    simp only [gP, look, Option.some.injEq]
    by_cases h : d = t
    · subst h; simp
    · have : Nat.beq d t = false := by
        cases e : Nat.beq d t with
        | false => rfl
        | true => exact (h (Nat.eq_of_beq_eq_true e)).elim
      simp [this, h]
theorem gF_congr {t : Nat} : ∀ {tr : List (Option Nat × α)} {r r' : List (Nat × α)}, look t r = look t r' → look t (gF tr r) = look t (gF tr r')
  | [], _, _, h => h
  | x :: l, r, r', h => by
    simp only [gF]
    refine gF_congr ?_
    simp only [look_gP, h]
theorem look_gL {L : Nat → Bool} {t : Nat} : ∀ {tr : List (Option Nat × α)} {i p : Nat} {r r' : List (Nat × α)}, look t r = look t r' → (∀ q x, tr[q]? = some x → x.1 = some t → (q < p ↔ L (i + q) = true)) → look t (gL L i tr r) = look t (gF (tr.take p) r')
  | [], i, p, r, r', h, _ => by simpa [gL, gF] using h
  | x :: l, i, p, r, r', h, hL => by
    have h0 := hL 0 x (by simp)
    simp only [gL]
    cases p with
    | zero =>
      have := look_gL (L := L) (t := t) (tr := l) (i := i + 1) (p := 0) (r := if L i then gP x.1 x.2 r else r) (r' := r') (by
        split
        · rename_i hl
          rw [look_gP]
          split
          · rename_i e
            have := (h0 e).2 (by simpa using hl)
            omega
          · exact h
        · exact h) (fun q x hq hx => by
          have := hL (q + 1) x (by simpa using hq) hx
          rw [show i + 1 + q = i + (q + 1) from by omega, ← this]; omega)
      simpa [gF] using this
    | succ p =>
      simp only [List.take_succ_cons, gF]
      refine look_gL ?_ (fun q x hq hx => ?_)
      · by_cases e : x.1 = some t
        · have := (h0 e).1 (by omega)
          simp only [Nat.add_zero] at this
          rw [if_pos this]
          simp only [look_gP, if_pos e]
        · rw [look_gP, if_neg e]
          split
          · rw [look_gP, if_neg e]; exact h
          · exact h
      · have := hL (q + 1) x (by simpa using hq) hx
        rw [show i + 1 + q = i + (q + 1) from by omega, ← this]; omega
theorem look_gL_eq {L L' : Nat → Bool} {t : Nat} : ∀ {tr : List (Option Nat × α)} {i : Nat} {r r' : List (Nat × α)}, look t r = look t r' → (∀ q x, tr[q]? = some x → x.1 = some t → L (i + q) = L' (i + q)) → look t (gL L i tr r) = look t (gL L' i tr r')
  | [], i, r, r', h, _ => h
  | x :: l, i, r, r', h, hL => by
    simp only [gL]
    refine look_gL_eq ?_ (fun q y hq hy => by
      have := hL (q + 1) y (by simpa using hq) hy
      rwa [show i + 1 + q = i + (q + 1) from by omega])
    by_cases e : x.1 = some t
    · have := hL 0 x (by simp) e
      simp only [Nat.add_zero] at this
      rw [this]
      split
      · simp only [look_gP, if_pos e]
      · exact h
    · split <;> split <;> simp only [look_gP, if_neg e, h]
theorem look_gL_at {L : Nat → Bool} {t : Nat} {y : α} : ∀ {tr : List (Option Nat × α)} {i p : Nat} {r : List (Nat × α)}, tr[p]? = some (some t, y) → L (i + p) = true → (∀ q x, p < q → tr[q]? = some x → x.1 = some t → L (i + q) = false) → look t (gL L i tr r) = some y
  | [], i, p, r, h, _, _ => by simp at h
  | x :: l, i, 0, r, h, h0, hL => by
    simp at h; subst h
    simp only [gL]
    simp only [Nat.add_zero] at h0
    rw [if_pos h0, look_gL (p := 0) (r' := gP (some t) y r) rfl (fun q x hq hx => ?_)]
    · simp [gF, look_gP]
    · have := hL (q + 1) x (by omega) (by simpa using hq) hx
      rw [show i + 1 + q = i + (q + 1) from by omega, this]; simp
  | x :: l, i, p + 1, r, h, h0, hL => by
    simp only [gL]
    refine look_gL_at (p := p) (by simpa using h) (by rw [show i + 1 + p = i + (p + 1) from by omega]; exact h0) (fun q y hq hy he => ?_)
    rw [show i + 1 + q = i + (q + 1) from by omega]
    exact hL (q + 1) y (by omega) (by simpa using hy) he
theorem gL_list {L : Nat → Bool} : ∀ {tr : List (Option Nat × α)} {i p : Nat} {r : List (Nat × α)}, (∀ q x d, tr[q]? = some x → x.1 = some d → (q < p ↔ L (i + q) = true)) → gL L i tr r = gF (tr.take p) r
  | [], i, p, r, _ => by simp [gL, gF]
  | x :: l, i, p, r, hL => by
    simp only [gL]
    have nx : ∀ p', p = p' + 1 → ∀ q y d, l[q]? = some y → y.1 = some d → (q < p' ↔ L (i + 1 + q) = true) := by
      intro p' e q y d hq hd
      have := hL (q + 1) y d (by simpa using hq) hd
      rw [show i + 1 + q = i + (q + 1) from by omega, ← this]; omega
    cases hx : x.1 with
    | none =>
      have e0 : gP (none : Option Nat) x.2 r = r := rfl
      rw [e0]
      cases p with
      | zero =>
        rw [show (if L i = true then r else r) = r from by split <;> rfl, gL_list (p := 0) (fun q y d hq hd => by
          have := hL (q + 1) y d (by simpa using hq) hd
          rw [show i + 1 + q = i + (q + 1) from by omega, ← this]; omega)]
        simp [gF]
      | succ p =>
        rw [show (if L i = true then r else r) = r from by split <;> rfl, gL_list (p := p) (nx p rfl)]
        simp only [List.take_succ_cons, gF, hx, e0]
    | some d0 =>
      have h0 := hL 0 x d0 (by simp) hx
      simp only [Nat.add_zero] at h0
      cases p with
      | zero =>
        have : ¬ L i = true := fun h => by have := h0.2 h; omega
        rw [if_neg this, gL_list (p := 0) (fun q y d hq hd => by
          have := hL (q + 1) y d (by simpa using hq) hd
          rw [show i + 1 + q = i + (q + 1) from by omega, ← this]; omega)]
        simp [gF]
      | succ p =>
        rw [if_pos (h0.1 (by omega)), gL_list (p := p) (nx p rfl)]
        simp only [List.take_succ_cons, gF, hx]
theorem gL_same {L L' : Nat → Bool} : ∀ {tr : List (Option Nat × α)} {i : Nat} {r : List (Nat × α)}, (∀ q x d, tr[q]? = some x → x.1 = some d → L (i + q) = L' (i + q)) → gL L i tr r = gL L' i tr r
  | [], i, r, _ => rfl
  | x :: l, i, r, hL => by
    simp only [gL]
    have e : (if L i = true then gP x.1 x.2 r else r) = (if L' i = true then gP x.1 x.2 r else r) := by
      cases hx : x.1 with
      | none => simp [gP]
      | some d => have := hL 0 x d (by simp) hx; simp only [Nat.add_zero] at this; rw [this]
    rw [e]
    exact gL_same fun q y d hq hd => by
      have := hL (q + 1) y d (by simpa using hq) hd
      rwa [show i + 1 + q = i + (q + 1) from by omega]
theorem gF_snoc : ∀ (tr : List (Option Nat × α)) (x : Option Nat × α) (r : List (Nat × α)), gF (tr ++ [x]) r = gP x.1 x.2 (gF tr r)
  | [], x, r => rfl
  | y :: l, x, r => by simp only [List.cons_append, gF]; exact gF_snoc l x _
theorem gF_take_succ {tr : List (Option Nat × α)} {p : Nat} {x : Option Nat × α} (h : tr[p]? = some x) (r : List (Nat × α)) : gF (tr.take (p + 1)) r = gP x.1 x.2 (gF (tr.take p) r) := by
  rw [← gF_snoc]
  congr 1
  rw [List.take_add_one, h]; rfl
end
theorem capIn_eq {m m' : Mem} {id : Nat} : ∀ (l : Mem), (∀ x ∈ l, isCapk (look x.1 m) = true ∨ isCapk (look x.1 m') = true → look x.1 m = look x.1 m') → capIn m id l = capIn m' id l
  | [], _ => rfl
  | x :: l, h => by
    have ih := capIn_eq (id := id) l (fun y hy => h y (by simp [hy]))
    have hx := h x (by simp)
    simp only [capIn]
    rw [ih]
    cases h1 : look x.1 m with
    | none =>
      cases h2 : look x.1 m' with
      | none => rfl
      | some b =>
        cases b <;> first | rfl | skip
        rename_i a n
        exfalso
        have := hx (.inr (by rw [h2]; rfl))
        rw [h1, h2] at this; cases this
    | some b =>
      by_cases hc : isCapk (some b) = true
      · have := hx (.inl (by rw [h1]; exact hc))
        rw [h1] at this
        rw [← this]
      · cases b <;> first | (simp [isCapk] at hc; done) | skip
        all_goals
          cases h2 : look x.1 m' with
          | none => rfl
          | some b' =>
            cases b' <;> first | rfl | skip
            exfalso
            have := hx (.inr (by rw [h2]; rfl))
            rw [h1, h2] at this; cases this
def Plain (tr : List (Option Nat × AB)) (m : Mem) : Prop := ∀ x ∈ tr, ∀ d, x.1 = some d → isCapk (some x.2) = false ∧ isCapk (look d m) = false
theorem look_gL_capk {L : Nat → Bool} {t : Nat} : ∀ {tr : List (Option Nat × AB)} {i : Nat} {m : Mem}, Plain tr m → look t (gL L i tr m) = look t m ∨ (isCapk (look t (gL L i tr m)) = false ∧ isCapk (look t m) = false)
  | [], i, m, _ => .inl rfl
  | x :: l, i, m, h => by
    simp only [gL]
    have hx := h x (by simp)
    split
    · have hp : Plain l (gP x.1 x.2 m) := by
        intro y hy d hd
        refine ⟨(h y (by simp [hy]) d hd).1, ?_⟩
        rw [look_gP]
        split
        · rename_i e; exact (hx d e).1
        · exact (h y (by simp [hy]) d hd).2
      rcases look_gL_capk (L := L) (t := t) (i := i + 1) hp with h1 | ⟨h1, h2⟩
      · rw [look_gP] at h1
        split at h1
        · rename_i e
          right
          rw [h1]
          exact hx t e
        · exact .inl h1
      · right
        refine ⟨h1, ?_⟩
        rw [look_gP] at h2
        split at h2
        · rename_i e; exact (hx t e).2
        · exact h2
    · exact look_gL_capk fun y hy => h y (by simp [hy])
theorem capIn_gL {L : Nat → Bool} {M : Mem} {id : Nat} : ∀ {tr : List (Option Nat × AB)} {i : Nat} {m : Mem}, (∀ x ∈ tr, ∀ d, x.1 = some d → isCapk (look d M) = false) → capIn M id (gL L i tr m) = capIn M id m
  | [], i, m, _ => rfl
  | x :: l, i, m, h => by
    simp only [gL]
    rw [capIn_gL fun y hy => h y (by simp [hy])]
    split
    · cases hx : x.1 with
      | none => rfl
      | some d =>
        have := h x (by simp) d hx
        simp only [gP, capIn]
        cases h1 : look d M with
        | none => rfl
        | some b =>
          rw [h1] at this
          cases b <;> first | rfl | (simp [isCapk] at this)
    · rfl
theorem capIn_gL_self {L : Nat → Bool} {id i : Nat} {tr : List (Option Nat × AB)} {m : Mem} (h : Plain tr m) : capIn (gL L i tr m) id (gL L i tr m) = capIn m id m := by
  rw [capIn_gL fun x hx d hd => ?_]
  · refine capIn_eq m fun x hx hc => ?_
    rcases look_gL_capk (L := L) (t := x.1) (i := i) h with h1 | ⟨h1, h2⟩
    · exact h1
    · rw [h1, h2] at hc; simp at hc
  · rcases look_gL_capk (L := L) (t := d) (i := i) h with h1 | ⟨h1, h2⟩
    · rw [h1]; exact (h x hx d hd).2
    · exact h1
theorem gF_take_gL {α : Type} {tr : List (Option Nat × α)} {r : List (Nat × α)} (p : Nat) : gF (tr.take p) r = gL (fun q => decide (q < p)) 0 tr r := by
  rw [gL_list (p := p)]
  intro q x d _ _
  simp
def upL (L : Nat → Bool) : Nat → List Bool → Nat → Nat
  | _, [], n => n
  | i, x :: l, n => upL L (i + 1) l (if L i && x then n + 1 else n)
def upF : List Bool → Nat → Nat
  | [], n => n
  | x :: l, n => upF l (if x then n + 1 else n)
theorem upL_list {L : Nat → Bool} : ∀ {tr : List Bool} {i p n : Nat}, (∀ q, tr[q]? = some true → (q < p ↔ L (i + q) = true)) → upL L i tr n = upF (tr.take p) n
  | [], i, p, n, _ => by simp [upL, upF]
  | x :: l, i, p, n, hL => by
    simp only [upL]
    have h0 := hL 0
    simp only [List.getElem?_cons_zero, Nat.add_zero] at h0
    cases p with
    | zero =>
      rw [upL_list (p := 0) (fun q hq => by
        have := hL (q + 1) (by simpa using hq)
        rw [show i + 1 + q = i + (q + 1) from by omega, ← this]; omega)]
      simp only [List.take_zero, upF]
      cases x
      · simp
      · have := h0 rfl
        simp at this
        simp [this]
    | succ p =>
      rw [upL_list (p := p) (fun q hq => by
        have := hL (q + 1) (by simpa using hq)
        rw [show i + 1 + q = i + (q + 1) from by omega, ← this]; omega)]
      simp only [List.take_succ_cons, upF]
      cases x
      · simp
      · have := (h0 rfl).1 (by omega)
        simp [this]
theorem upL_same {L L' : Nat → Bool} : ∀ {tr : List Bool} {i n : Nat}, (∀ q, tr[q]? = some true → L (i + q) = L' (i + q)) → upL L i tr n = upL L' i tr n
  | [], i, n, _ => rfl
  | x :: l, i, n, hL => by
    simp only [upL]
    have e : (if (L i && x) = true then n + 1 else n) = (if (L' i && x) = true then n + 1 else n) := by
      cases x
      · simp
      · have := hL 0 rfl; simp only [Nat.add_zero] at this; rw [this]
    rw [e]
    exact upL_same fun q hq => by
      have := hL (q + 1) (by simpa using hq)
      rwa [show i + 1 + q = i + (q + 1) from by omega]
theorem upF_snoc : ∀ (tr : List Bool) (x : Bool) (n : Nat), upF (tr ++ [x]) n = if x then upF tr n + 1 else upF tr n
  | [], x, n => by cases x <;> rfl
  | y :: l, x, n => by simp only [List.cons_append, upF]; exact upF_snoc l x _
theorem upF_take_succ {tr : List Bool} {p : Nat} {x : Bool} (h : tr[p]? = some x) (n : Nat) : upF (tr.take (p + 1)) n = if x then upF (tr.take p) n + 1 else upF (tr.take p) n := by
  rw [← upF_snoc]
  congr 1
  rw [List.take_add_one, h]; rfl
end Go.Eng
set_option linter.unusedSimpArgs false
set_option linter.unusedVariables false
set_option linter.unnecessarySimpa false
namespace Go.Eng
open Go Go.RowKit
section
variable {R R' : Type} {c : Cfg} {r r' : Regs} {m m' : Mem} {o : Oper} {nx : Nat}
theorem effStore_bind (p : At) (v : V1) (f : Nat → AB → Option R) (k : R → Option R') : (effStore m p v f).bind k = effStore m p v fun a b => (f a b).bind k := by
  unfold effStore; repeat' split
  all_goals first | rfl | simp_all [ocase_bind]
theorem effCopy_bind (τ0 : Ty) (x : At) (τ' : Ty) (src : List τ'.T) (f : AV → Nat → AB → Option R) (k : R → Option R') : (effCopy m τ0 x τ' src f).bind k = effCopy m τ0 x τ' src fun y a b => (f y a b).bind k := by
  unfold effCopy; repeat' split
  all_goals first | rfl | simp_all [ocase_bind, bcase_bind]
theorem freshQ_bind (s : FSpec) (as : List AV) (f : At → AB → Option R) (k : R → Option R') : (freshQ s nx as f).bind k = freshQ s nx as fun y b => (f y b).bind k := by
  unfold freshQ; split
  · rw [ocase_bind]; congr 1; funext b; split <;> rfl
  · rfl
theorem effF_bind (f : Operand) (args : Array Operand) (ts : Array TypeId) (g : At → AB → Option R) (k : R → Option R') : (effF c f args ts r m nx g).bind k = effF c f args ts r m nx fun y b => (g y b).bind k := by
  unfold effF; split
  · split
    · rw [viewVs_bind]; congr 1; funext as'; rw [freshQ_bind]; congr 1; funext y b; split <;> rfl
    · rfl
  · rfl
theorem mgetK_bind {κ τ : Ty} (key : κ.T) : ∀ (l : List (κ.T × τ.T × Nat)) (kv : τ.T → Nat → Option R) (kn : Option R) (k : R → Option R'), (mgetK key l kv kn).bind k = mgetK key l (fun v b => (kv v b).bind k) (kn.bind k)
  | [], _, _, _ => rfl
  | x :: l, kv, kn, k => by simp only [mgetK]; rw [bcase_bind, mgetK_bind key l]
theorem mapW_bind {σ : St} {t : TypeId} {x i : Operand} {kk : (id : Nat) → (ag : Bool) → (κ τ : Ty) → List (κ.T × τ.T × Nat) → Nat → κ.T → TI → Option R} (k : R → Option R') : (mapW c σ t x i kk).bind k = mapW c σ t x i fun id ag κ τ l ck key te => (kk id ag κ τ l ck key te).bind k := by
  unfold mapW; repeat' split
  all_goals first | rfl | simp_all
theorem effG_bind (f : Operand) (args : Array Operand) (ts : Array TypeId) (g : AV → Nat → Option R) (k : R → Option R') : (effG c f args ts r m g).bind k = effG c f args ts r m fun y b => (g y b).bind k := by
  unfold effG; split
  · split
    · split
      · rw [viewVs_bind]; congr 1; funext as'; rw [specQ_bind]
      · rfl
    · rfl
  · rfl
theorem effA_bind (τ : Ty) (x : At) (ys : List τ.T) (f : AV → Nat → AB → Bool → Option R) (k : R → Option R') : (effA τ m x nx ys f).bind k = effA τ m x nx ys fun y a b u => (f y a b u).bind k := by
  unfold effA; repeat' split
  all_goals first | rfl | simp_all [ocase_bind, lcase_bind]
theorem effW_bind (f : AV → Nat → AB → Bool → Option R) (k : R → Option R') : (effW c o r m nx f).bind k = effW c o r m nx fun y a b u => (f y a b u).bind k := by
  unfold effW; repeat' split
  all_goals first | rfl | (simp_all [ocase_bind, bcase_bind, lcase_bind, effStore_bind, effCopy_bind, listOf_bind]; done) | (rw [effF_bind]; done) | (rw [effG_bind]; done) | (simp_all [ocase_bind, listOf_bind, effA_bind]; done) | (rw [mapW_bind]; simp only [mgetK_bind, ocase_bind]; done)
abbrev effT (c : Cfg) (o : Oper) (r : Regs) (m : Mem) (nx : Nat) : Option (AV × Nat × AB × Bool) := effW c o r m nx fun y a b u => some (y, a, b, u)
theorem effW_some {k : AV → Nat → AB → Bool → Option R} {res : R} (h : effW c o r m nx k = some res) : ∃ y id b up, effT c o r m nx = some (y, id, b, up) ∧ k y id b up = some res := by
  have e := effW_bind (c := c) (o := o) (r := r) (m := m) (nx := nx) (f := fun y a b u => some (y, a, b, u)) (k := fun x => k x.1 x.2.1 x.2.2.1 x.2.2.2)
  simp only [Option.bind_some] at e
  rw [← e] at h
  obtain ⟨⟨y, id, b, up⟩, h1, h2⟩ := Option.bind_eq_some_iff.1 h
  exact ⟨y, id, b, up, h1, h2⟩
theorem ev_same {t : TypeId} {x : Operand} (h : ∀ t ∈ opTmps o, look t r = look t r') (hx : x ∈ o.op.operands.toList) : ev c r t x = ev c r' t x := by
  cases x with
  | tmp n =>
    have := h n (opTmps_mem hx)
    simp only [ev, lookT]
    rw [this]
  | const v => rfl
  | func f => rfl
  | global _ => rfl
theorem evA_same {t : TypeId} {x : Operand} (h : ∀ t ∈ opTmps o, look t r = look t r') (hx : x ∈ o.op.operands.toList) : evA c r t x = evA c r' t x := by unfold evA; rw [ev_same h hx]
theorem evV_same {t : TypeId} {x : Operand} (h : ∀ t ∈ opTmps o, look t r = look t r') (hx : x ∈ o.op.operands.toList) : evV c r t x = evV c r' t x := by unfold evV; rw [ev_same h hx]
theorem ownsOps_same (h : ∀ t ∈ opTmps o, look t r = look t r') : ∀ {l : List (Nat × Operand)}, (∀ x ∈ l, x.2 ∈ o.op.operands.toList) → ownsOps c r l = ownsOps c r' l
  | [], _ => rfl
  | x :: l, hl => by
    simp only [ownsOps]
    rw [ev_same h (hl x (by simp)), ownsOps_same h (fun y hy => hl y (by simp [hy]))]
theorem fillS_same (h : ∀ t ∈ opTmps o, look t r = look t r') {t : TypeId} {s : Nat} : ∀ {l : List (Nat × Operand)} {cells : List At}, (∀ x ∈ l, x.2 ∈ o.op.operands.toList) → fillS c r t s cells l = fillS c r' t s cells l
  | [], _, _ => rfl
  | x :: l, cells, hl => by
    simp only [fillS]
    rw [evV_same h (hl x (by simp))]
    split
    · split
      · exact fillS_same h (fun y hy => hl y (by simp [hy]))
      · rfl
    · rfl
theorem touch_same (h : ∀ t ∈ opTmps o, look t r = look t r') : touch r o = touch r' o := by
  unfold touch
  cases looksM o.op
  · rfl
  · simp only []
    generalize opTmps o = l at h
    induction l with
    | nil => rfl
    | cons a l ih =>
      simp only [List.flatMap_cons]
      rw [h a (by simp), ih (fun t ht => h t (by simp [ht]))]
theorem evArgs_same (h : ∀ t ∈ opTmps o, look t r = look t r') : ∀ {l : List Operand} {ts : List TypeId}, (∀ x ∈ l, x ∈ o.op.operands.toList) → evArgs c r l ts = evArgs c r' l ts
  | [], _, _ => rfl
  | x :: l, ts, hl => by
    simp only [evArgs]
    rw [ev_same h (hl x (by simp)), evArgs_same h (fun y hy => hl y (by simp [hy]))]
theorem effF_same {f : Operand} {args : Array Operand} {ts : Array TypeId} {kk : At → AB → Option R} (h : ∀ t ∈ opTmps o, look t r = look t r') (hf : f ∈ o.op.operands.toList) (ha : ∀ x ∈ args.toList, x ∈ o.op.operands.toList) : effF c f args ts r m nx kk = effF c f args ts r' m nx kk := by
  unfold effF calleeOf
  rw [ev_same h hf, evArgs_same h ha]
theorem effG_same {f : Operand} {args : Array Operand} {ts : Array TypeId} {kk : AV → Nat → Option R} (h : ∀ t ∈ opTmps o, look t r = look t r') (hf : f ∈ o.op.operands.toList) (ha : ∀ x ∈ args.toList, x ∈ o.op.operands.toList) : effG c f args ts r m kk = effG c f args ts r' m kk := by
  unfold effG calleeOf
  rw [ev_same h hf, evArgs_same h ha]
theorem hasGone_same {f : Operand} (h : ∀ t ∈ opTmps o, look t r = look t r') (hf : f ∈ o.op.operands.toList) : hasGone c r f = hasGone c r' f := by
  unfold hasGone calleeOf
  rw [ev_same h hf]
theorem mapW_same {t : TypeId} {x i : Operand} {kk : (id : Nat) → (ag : Bool) → (κ τ : Ty) → List (κ.T × τ.T × Nat) → Nat → κ.T → TI → Option R} (h : ∀ t ∈ opTmps o, look t r = look t r') (hx : x ∈ o.op.operands.toList) (hi : i ∈ o.op.operands.toList) :
    mapW c { regs := r, mem := m, nx := nx } t x i kk = mapW c { regs := r', mem := m, nx := nx } t x i kk := by
  unfold mapW
  simp only
  rw [evA_same h hx, evA_same h hi]
theorem effW_same {k : AV → Nat → AB → Bool → Option R} (h : ∀ t ∈ opTmps o, look t r = look t r') : effW c o r m nx k = effW c o r' m nx k := by
  unfold effW
  split
  case h_1 => rfl
  case h_2 t x ho => rw [evV_same h (by simp [ho, Op.operands])]
  case h_3 t n parts ho =>
    have hp : ∀ x ∈ parts.toList, x.2 ∈ o.op.operands.toList := by
      intro x hx
      simp only [ho, Op.operands, Array.toList_map, List.mem_map]
      exact ⟨x, hx, rfl⟩
    rw [ownsOps_same h hp]
    split
    · split
      · split
        · rw [fillS_same h hp]
        · rfl
      · rfl
    · rfl
  case h_4 t n q ho => rw [evA_same h (x := n) (by simp [ho, Op.operands]), evA_same h (x := q) (by simp [ho, Op.operands])]
  case h_5 t a x ho =>
    rw [evA_same h (x := a) (by simp [ho, Op.operands]), evV_same h (x := x) (by simp [ho, Op.operands])]
    have hx : ∀ z ∈ [((0 : Nat), x)], z.2 ∈ o.op.operands.toList := by intro z hz; simp at hz; subst hz; simp [ho, Op.operands]
    have e := ownsOps_same (c := c) h hx
    cases evA c r' 0 a with
    | none => rfl
    | some p => cases p <;> first | rfl | (simp only []; rw [e])
  case h_6 args ts ho =>
    split
    · rename_i x y t t' h1 h2
      have hx : x ∈ o.op.operands.toList := by simp [ho, Op.operands, Call.operands, h1]
      have hy : y ∈ o.op.operands.toList := by simp [ho, Op.operands, Call.operands, h1]
      rw [evA_same h hx, evA_same h hy]
    · rfl
  case h_7 f args ts ho =>
    have hf : f ∈ o.op.operands.toList := by simp [ho, Op.operands, Call.operands]
    have ha : ∀ x ∈ args.toList, x ∈ o.op.operands.toList := by intro x hx; simp only [ho, Op.operands, Call.operands, Array.toList_append, List.mem_append]; simp [hx]
    rw [hasGone_same h hf]
    split
    · exact effG_same h hf ha
    · exact effF_same h hf ha
  case h_8 args ts ho =>
    split
    · rename_i x y t t' h1 h2
      have hx : x ∈ o.op.operands.toList := by simp [ho, Op.operands, Call.operands, h1]
      have hy : y ∈ o.op.operands.toList := by simp [ho, Op.operands, Call.operands, h1]
      rw [evA_same h hx, evA_same h hy]
    · rfl
  case h_9 t x i ok ho => exact mapW_same h (by simp [ho, Op.operands]) (by simp [ho, Op.operands])
  case h_10 => rfl
theorem mapW_one {σ : St} {t : TypeId} {x i : Operand} {kk : (id : Nat) → (ag : Bool) → (κ τ : Ty) → List (κ.T × τ.T × Nat) → Nat → κ.T → TI → Option R} {res : R} (h : mapW c σ t x i kk = some res) :
    ∃ id ag κ τ l ck key te, kk id ag κ τ l ck key te = some res ∧ ∀ {R' : Type} (kk' : (id : Nat) → (ag : Bool) → (κ τ : Ty) → List (κ.T × τ.T × Nat) → Nat → κ.T → TI → Option R'), mapW c σ t x i kk' = kk' id ag κ τ l ck key te := by
  unfold mapW at h
  split at h
  · rename_i ag0 sz z κ τ0 kt e hti
    split at h
    · rename_i id ki te hx hi hte
      split at h
      · rename_i ag κ' τ l ck hl
        split at h
        · rename_i hsame
          split at h
          · rename_i key hkey
            exact ⟨id, ag, κ', τ, l, ck, key, te, h, fun kk' => by unfold mapW; simp only [hti, hx, hi, hte, hl, hsame, hkey]⟩
          · cases h
        · cases h
      · cases h
    · cases h
  · cases h
theorem mgetK_one {κ τ : Ty} {key : κ.T} : ∀ {l : List (κ.T × τ.T × Nat)} {kv : τ.T → Nat → Option R} {kn : Option R} {res : R}, mgetK key l kv kn = some res →
    (∃ v b, kv v b = some res ∧ ∀ {R' : Type} (kv' : τ.T → Nat → Option R') (kn' : Option R'), mgetK key l kv' kn' = kv' v b) ∨ (kn = some res ∧ ∀ {R' : Type} (kv' : τ.T → Nat → Option R') (kn' : Option R'), mgetK key l kv' kn' = kn')
  | [], kv, kn, res, h => .inr ⟨h, fun _ _ => rfl⟩
  | x :: l, kv, kn, res, h => by
    simp only [mgetK] at h
    rcases bcase_some h with ⟨hb, h⟩ | ⟨hb, h⟩
    · exact .inl ⟨_, _, h, fun kv' kn' => by simp only [mgetK, hb, bcase]⟩
    · rcases mgetK_one h with ⟨v, b, h1, h2⟩ | ⟨h1, h2⟩
      · exact .inl ⟨v, b, h1, fun kv' kn' => by simp only [mgetK, hb, bcase, h2]⟩
      · exact .inr ⟨h1, fun kv' kn' => by simp only [mgetK, hb, bcase, h2]⟩
theorem effF_one {f : Operand} {args : Array Operand} {ts : Array TypeId} {kk : At → AB → Option R} {res : R} (h : effF c f args ts r m nx kk = some res) : ∃ y b, kk y b = some res ∧ hasFresh c r f = true ∧ ∀ {R' : Type} (kk' : At → AB → Option R'), effF c f args ts r m nx kk' = kk' y b := by
  obtain ⟨nn, as, as', s, x, ab, y, hn, has, hsp, hu, hx, hab, hy, hc, hk⟩ := effF_some h
  refine ⟨y, ab, hk, by unfold hasFresh; simp only [hn, hsp], fun kk' => ?_⟩
  unfold effF
  simp only [hn, has, hsp]
  rw [hu]
  unfold freshQ
  have e : (flatB ab || (ownsVs as).isEmpty) = true := by
    rcases hc with hc | hc
    · simp [hc]
    · simp [hc]
  obtain ⟨z, hz, rfl⟩ : ∃ z, s.g x = some z ∧ s.enc z = ab := by
    unfold FSpec.f at hab
    split at hab
    · rename_i z hz; exact ⟨z, hz, by cases hab; rfl⟩
    · cases hab
  simp only [hx, hz, ocase, hy, e]
theorem listOf_one {p : At} {kk : (τ : Ty) → List τ.T → Option R} {res : R} (h : listOf m p kk = some res) : ∃ τ l, (∀ {R' : Type} (kk' : (τ : Ty) → List τ.T → Option R'), listOf m p kk' = kk' τ l) ∧ kk τ l = some res := by
  unfold listOf at h
  split at h
  · exact ⟨_, _, fun _ => rfl, h⟩
  · exact ⟨_, _, fun _ => rfl, h⟩
  · split at h
    · rename_i h7; exact ⟨_, _, fun _ => by simp only [listOf, h7], h⟩
    · cases h
  · split at h
    · rename_i h7
      split at h
      · rename_i h8; exact ⟨_, _, fun _ => by simp only [listOf, h7, h8], h⟩
      · cases h
    · cases h
  · cases h
theorem effG_one {f : Operand} {args : Array Operand} {ts : Array TypeId} {kk : AV → Nat → Option R} {res : R} (h : effG c f args ts r m kk = some res) : ∃ y id, kk y id = some res ∧ ∀ {R' : Type} (kk' : AV → Nat → Option R'), effG c f args ts r m kk' = kk' y id := by
  unfold effG at h
  split at h
  · rename_i nn as hn has
    split at h
    · rename_i s hsp
      split at h
      · rename_i id hid
        obtain ⟨as', hu⟩ := viewVs_one h
        rw [hu] at h
        obtain ⟨x, y, hx, hy, hk⟩ := specQ_ok h
        refine ⟨s.enc y, id, hk, fun kk' => ?_⟩
        unfold effG
        simp only [hn, has, hsp, hid]
        rw [hu]
        unfold specQ
        simp only [hx, hy, ocase]
      · cases h
    · cases h
  · cases h
theorem eff_cases {σ : St} {y : AV} {id : Nat} {b : AB} {up : Bool} (h : effT c o σ.regs σ.mem σ.nx = some (y, id, b, up)) :
    (∀ (H : Hnd R) (k : St → Option R), stepX H c o σ k = St.put c { regs := σ.regs, mem := (id, b) :: σ.mem, nx := nxOf up σ.nx } o.dst y k) ∨
    (∀ (k : St → Option R), stepU c o σ k = St.put c { regs := σ.regs, mem := (id, b) :: σ.mem, nx := nxOf up σ.nx } o.dst y k) := by
  unfold effT effW at h
  split at h
  case h_7 f args ts ho =>
    split at h
    · obtain ⟨y', id', h1, h2⟩ := effG_one h
      cases h1
      refine .inr fun k => ?_
      simp only [stepU, ho, h2]
      rfl
    · obtain ⟨y', b', h1, h2, h3⟩ := effF_one h
      cases h1
      refine .inl fun H k => ?_
      simp only [stepX, ho, stepV, h2, stepFresh, h3]
      rfl
  case h_8 args ts ho =>
    split at h
    · rename_i x y' t t' h1 h2
      split at h
      · rename_i τ e h3 h4
        split at h
        · rename_i te xx yy h5 h6 h7
          have go : ∀ (τ' : Ty) (ys : List τ'.T), (∀ {R' : Type} (kk : (τ : Ty) → List τ.T → Option R'), listOf σ.mem yy kk = kk τ' ys) → (ocase (castL τ' τ ys) fun ys => effA τ σ.mem xx σ.nx ys fun y id b u => some (y, id, b, u)) = some (y, id, b, up) →
              (∀ (H : Hnd R) (k : St → Option R), stepX H c o σ k = St.put c { regs := σ.regs, mem := (id, b) :: σ.mem, nx := nxOf up σ.nx } o.dst y k) ∨
              (∀ (k : St → Option R), stepU c o σ k = St.put c { regs := σ.regs, mem := (id, b) :: σ.mem, nx := nxOf up σ.nx } o.dst y k) := by
            intro τ' ys hl h
            obtain ⟨ys', hys, h⟩ := ocase_some h
            unfold effA at h
            split at h
            · rename_i τ1
              obtain ⟨l, hl1, h⟩ := ocase_some h
              refine .inl fun H k => ?_
              simp only [stepX, stepW, ho, h1, h2, h3, h4, h5, h6, h7, hl, hys, ocase, appendW, hl1]
              unfold lcase at h ⊢
              split at h
              · cases h; rfl
              · cases h
            · rename_i id'
              split at h
              · rename_i τ1 l0 h8
                obtain ⟨l, hl1, h⟩ := ocase_some h
                refine .inr fun k => ?_
                simp only [stepU, ho, h1, h2, h3, h4, h5, h6, h7, hl, hys, ocase, h8, hl1]
                unfold lcase at h ⊢
                split at h
                · cases h; rfl
                · cases h
              · cases h
            · cases h
          obtain ⟨τ', ys, hl, hk⟩ := listOf_one h
          exact go τ' ys hl hk
        · cases h
      · cases h
    · cases h
  all_goals refine .inl fun H k => ?_
  case h_9 t x i ok ho =>
    simp only [stepX, ho, stepW, lookupW]
    obtain ⟨id', ag, κ, τ, l, ck, key, te, h1, h2⟩ := mapW_one h
    rw [h2 (fun id ag κ τ l ck key te => mgetK key l (fun v _ => ocase (V1.ofCells ag (τ.enc v)) fun y => (σ.set id (.map ag κ τ l ck)).put c o.dst (commaOk ok y true) k) ((σ.set id (.map ag κ τ l ck)).put c o.dst (commaOk ok te.zero false) k))]
    rcases mgetK_one h1 with ⟨v, bb, h4, h5⟩ | ⟨h4, h5⟩
    · rw [h5]
      cases h6 : V1.ofCells ag (τ.enc v) with
      | none => rw [h6] at h4; cases h4
      | some z => rw [h6] at h4; cases h4; rfl
    · rw [h5]
      cases h4
      rfl
  case h_1 t ho =>
    simp only [stepX, stepW, ho]
    split at h
    · rename_i h1; cases h; (try simp only [h1]); rfl
    · cases h
  case h_2 t x ho =>
    simp only [stepX, stepW, ho]
    split at h
    · rename_i h1; cases h; (try simp only [h1]); rfl
    · cases h
  case h_3 t n parts ho =>
    simp only [stepX, stepW, ho]
    split at h
    · rename_i h0
      rw [h0]
      simp only [freezeAll]
      split at h
      · rename_i τ e h1
        (try simp only [h1])
        split at h
        · rename_i te h2
          (try simp only [h2])
          split at h
          · rename_i cells h3
            (try simp only [h3])
            cases h4 : decAll τ n cells with
            | none => rw [h4] at h; cases h
            | some l => rw [h4] at h; cases h; rfl
          · cases h
        · cases h
      · cases h
    · cases h
  case h_4 t n q ho =>
    simp only [stepX, stepW, ho]
    split at h
    · rename_i τ e k1 a k2 b h1 h2 h3
      (try simp only [h1, h2, h3])
      split at h
      · rename_i te h4
        (try simp only [h4])
        rcases bcase_some h with ⟨hb, h⟩ | ⟨hb, h⟩
        · rw [hb]
          simp only [bcase]
          unfold lcase at h ⊢
          split at h
          · rename_i hl
            (try simp only [])
            cases h5 : τ.decC te.zero.cells with
            | none => rw [h5] at h; cases h
            | some z => rw [h5] at h; cases h; rfl
          · cases h
        · cases h
      · cases h
    · cases h
  case h_5 t a x ho =>
    simp only [stepX, stepW, ho]
    split at h
    · rename_i h0
      rw [h0]
      simp only [freezeAll]
      split at h
      · rename_i p v ti h1 h2 h3
        (try simp only [h1, h2, h3])
        split at h
        · rename_i h4
          (try simp only [h4])
          unfold effStore at h
          split at h
          · rename_i id' off
            split at h
            · rename_i l h5
              split at h
              · rename_i h6; cases h; (try simp only [storeAt, h5, h6]); rfl
              · cases h
            · cases h
          · rename_i id' i j
            split at h
            · rename_i τ l h5
              split at h
              · rename_i h6
                (try simp only [storeAt, h5, h6])
                cases h7 : l[i]? with
                | none => rw [h7] at h; cases h
                | some e =>
                  rw [h7] at h
                  simp only [ocase] at h ⊢
                  cases h8 : τ.decC (setCells (τ.enc e) j v.cells) with
                  | none => rw [h8] at h; cases h
                  | some e' => rw [h8] at h; cases h; rfl
              · cases h
            · cases h
          · cases h
        · cases h
      · cases h
    · cases h
  case h_6 args ts ho =>
    simp only [stepX, stepW, ho]
    split at h
    · rename_i x y' t t' h1 h2
      (try simp only [h1, h2])
      split at h
      · rename_i τ0 e h3 h4
        (try simp only [h3, h4])
        split at h
        · cases h
        · rename_i xx yy h5 h6 hno
          have go : ∀ (τ' : Ty) (src : List τ'.T), (effCopy σ.mem τ0 xx τ' src fun y id b => some (y, id, b, false)) = some (y, id, b, up) → copyW c o σ τ0 xx τ' src k = St.put c { regs := σ.regs, mem := (id, b) :: σ.mem, nx := nxOf up σ.nx } o.dst y k := by
            intro τ' src h
            unfold effCopy at h
            split at h
            · split at h
              · rename_i h5
                split at h
                · rename_i h6
                  (try simp only [copyW, h5, h6])
                  cases h7 : castL τ' _ src with
                  | none => rw [h7] at h; cases h
                  | some s => rw [h7] at h; cases h; rfl
                · cases h
              · cases h
            · split at h
              · rename_i h5
                split at h
                · rename_i h6
                  (try simp only [copyW, h5, h6])
                  rcases bcase_some h with ⟨h6', h⟩ | ⟨_, h⟩
                  rotate_left
                  · cases h
                  rw [h6']
                  simp only [bcase]
                  cases h7 : castL τ' _ src with
                  | none => rw [h7] at h; cases h
                  | some s => rw [h7] at h; cases h; rfl
                · cases h
              · cases h
            · cases h
          unfold listOf at h ⊢
          split at h
          · exact go _ _ h
          · exact go _ _ h
          · split at h
            · rename_i h7; (try simp only [h7]); exact go _ _ h
            · cases h
          · split at h
            · rename_i h7
              (try simp only [h7])
              split at h
              · rename_i h8; (try simp only [h8]); exact go _ _ h
              · cases h
            · cases h
          · cases h
        · cases h
      · cases h
    · cases h
  case h_10 => cases h
theorem stepOp_W {H : Hnd R} {σ : St} {k : St → Option R} {y : AV} {id : Nat} {b : AB} {up : Bool} (hq : isQ c o.op = false) (h : stepX H c o σ k = St.put c { regs := σ.regs, mem := (id, b) :: σ.mem, nx := nxOf up σ.nx } o.dst y k) :
    stepOp H c true o σ k = St.put c { regs := σ.regs, mem := (id, b) :: σ.mem, nx := nxOf up σ.nx } o.dst y k := by
  rw [← h]
  simp only [stepOp, hq]
end
end Go.Eng
set_option linter.unusedSimpArgs false
set_option linter.unusedVariables false
set_option linter.unnecessarySimpa false
namespace Go.Eng
open Go Go.RowKit
section
variable {P : Program} [GlobL P] {F : Fence} {n : Nat} {c : Cfg} {g g' : Gh} {r : Regs} {m : Mem} {a : Act} {w w' : World} {o : Oper} {R : Type} {k : St → Option R} {res : R}
variable {base : Nat} {w0 : World} {S0 : Nat → Prop} {N : Nat} {D : Wt} {sv : Nat → Value} {σ : St}
theorem Rel.consume (h : Rel P base w0 S0 N D sv g σ a w) {id : Nat} {b : Gb} {x : AB} (hx : look id σ.mem = some x) (hl : x.live = true) (hm : g.m id = some b) (hsz : w.heap.size ≤ w'.heap.size) (hos : w'.os = w.os ∧ w'.tape = w.tape ∧ w'.output = w.output)
    (hoth : ∀ j, j < w.heap.size → b.blk ≠ some j → w'.heap[j]? = w.heap[j]?) :
    ∃ g', Rel P base w0 S0 N D sv g' (gone1 id σ) a w' ∧ g'.m = g.m ∧ (∀ q, g.S q → g'.S q) ∧ (∀ q, b.blk = some q → g'.S q) ∧ (∀ q, w.heap.size ≤ q → q < w'.heap.size → g'.S q) := by
  obtain ⟨g', hg'⟩ : ∃ g' : Gh, g' = { S := fun q => g.S q ∨ b.blk = some q ∨ (w.heap.size ≤ q ∧ q < w'.heap.size), m := g.m } := ⟨_, rfl⟩
  have hgm : g'.m = g.m := by subst hg'; rfl
  have hgS : ∀ q, g'.S q ↔ g.S q ∨ b.blk = some q ∨ (w.heap.size ≤ q ∧ q < w'.heap.size) := by subst hg'; exact fun q => Iff.rfl
  have hle : g.le g' := by subst hg'; exact ⟨fun _ h => .inl h, fun _ _ h => h⟩
  have hown : ∀ q, b.blk = some q → base ≤ q ∧ ¬ g.S q := fun q hq => h.own id x b q hx hl hm hq
  have hH : Holds g w w' := fun j hj => hoth j (h.S j hj) (fun e => (hown j e).2 hj)
  refine ⟨g', ?_, hgm, hle.S, fun q hq => (hgS q).2 (.inr (.inl hq)), fun q h1 h2 => (hgS q).2 (.inr (.inr ⟨h1, h2⟩))⟩
  refine { regs := fun t y hy => (h.regs t y hy).mono hH hle, size := h.size, dfr := h.dfr.mono fun q _ he hs => ⟨(hoth q (lt_of_some he) (fun e => h.notDef hx hl hm e he)).trans he, fun hs' => ((hgS q).1 hs').elim hs fun hq => hq.elim (fun hq => h.notDef hx hl hm hq he) fun hq => by have := lt_of_some he; omega⟩, glo := h.glo.mono hH hle.S, lp := fun i z b1 hz hlz hm1 => ?_, mem := fun i z hz => ?_, inj := fun i i' z z' b1 b2 p hz hz' hlz hlz' hm1 hm2 hp1 hp2 => ?_, own := fun i z b1 p hz hlz hm1 hp1 => ?_, S := fun p hp => ?_, blk := fun i b1 p hm1 hp1 => ?_, nx := fun i b1 hm1 => ?_, bel := h.bel.trans ⟨hos.1, hos.2.1, hos.2.2, hsz, fun j hj => ?_⟩, bs := Nat.le_trans h.bs hsz, sub := fun p hp => ?_ }
  · simp only [gone1, look_cons] at hz
    rw [hgm] at hm1
    split at hz
    · cases hz; cases hlz
    · exact h.lp i z b1 hz hlz hm1
  · simp only [gone1, look_cons] at hz
    split at hz
    · rename_i e; subst e; cases hz; exact ⟨b, by rw [hgm]; exact hm, trivial⟩
    · rename_i e
      obtain ⟨b1, hm1, hr1⟩ := h.mem i z hz
      refine ⟨b1, by rw [hgm]; exact hm1, ?_⟩
      by_cases hlz : z.live = true
      · exact hr1.mono hH (fun q hq => hoth q (h.blk i b1 q hm1 hq) (fun e' => e (h.inj id i x z b b1 q hx hz hl hlz hm hm1 e' hq))) hle
      · cases z <;> simp [AB.live] at hlz
        exact trivial
  · simp only [gone1, look_cons] at hz hz'
    rw [hgm] at hm1 hm2
    split at hz
    · cases hz; simp [AB.live] at hlz
    · split at hz'
      · cases hz'; simp [AB.live] at hlz'
      · exact h.inj i i' z z' b1 b2 p hz hz' hlz hlz' hm1 hm2 hp1 hp2
  · simp only [gone1, look_cons] at hz
    rw [hgm] at hm1
    split at hz
    · cases hz; simp [AB.live] at hlz
    · rename_i e
      obtain ⟨h1, h2⟩ := h.own i z b1 p hz hlz hm1 hp1
      refine ⟨h1, fun hs => ?_⟩
      rcases (hgS p).1 hs with hs | hs | hs
      · exact h2 hs
      · exact e (h.inj id i x z b b1 p hx hz hl hlz hm hm1 hs hp1)
      · have := h.blk i b1 p hm1 hp1; omega
  · rcases (hgS p).1 hp with hp | hp | hp
    · exact Nat.lt_of_lt_of_le (h.S p hp) hsz
    · exact Nat.lt_of_lt_of_le (h.blk id b p hm hp) hsz
    · exact hp.2
  · rw [hgm] at hm1
    exact Nat.lt_of_lt_of_le (h.blk i b1 p hm1 hp1) hsz
  · rw [hgm] at hm1
    exact h.nx i b1 hm1
  · refine hoth j (by have := h.bs; omega) (fun e => ?_)
    have := (hown j e).1
    omega
  · rcases (hgS p).1 hp with hp | hp | hp
    · exact h.sub p hp
    · exact .inr (hown p hp).1
    · exact .inr (by have := h.bs; omega)
theorem effG_ok (h : Rel P base w0 S0 N D sv g σ a w) (C : CfgOK P c) (hN : c.N = N) (hF : WideF F) {K : Act → World → Prop} {Q : Exit → Act → World → Prop} (hK : ∀ g' σ' a' w', k σ' = some res → Rel P base w0 S0 N D sv g' σ' a' w' → K a' w') {f : Operand} {args : Array Operand} {ts : Array TypeId}
    (hop : o.op = .call { callee := .value f, args, argTypes := ts }) (hs : effG c f args ts σ.regs σ.mem (fun y id => (gone1 id σ).put c o.dst y k) = some res) : o.wpIn F n P a w K Q := by
  unfold effG at hs
  split at hs
  · rename_i nn as hn has
    split at hs
    · rename_i s hsp
      split at hs
      · rename_i id hid
        obtain ⟨y, hy, hcall⟩ := call_ok (n := n) (h.env C (f :: args.toList)) hF (by simp) (fun x hx => by simp [hx]) hop hn has (C.gn _ _ hsp) hs
        have hrows := (viewVs_rows hs).2
        obtain ⟨τ, l, hl⟩ := hrows id (by rw [hid]; simp)
        obtain ⟨b, hm, hbr⟩ := h.mem id _ hl
        obtain ⟨g1, hr, hgm, hS, hblk, -⟩ := h.consume (w' := w) hl rfl hm (Nat.le_refl _) ⟨rfl, rfl, rfl⟩ (fun _ _ _ => rfl)
        refine hcall K Q g1.S ⟨hS, fun id' b' q hi hb hq => ?_⟩ hr.S (hr.glo.mono (Holds.refl _ _) fun _ h => h) fun v w' hb hv => ?_
        · rw [hid] at hi
          simp at hi
          subst hi
          rw [hm] at hb; cases hb
          exact hblk q hq
        · obtain ⟨σ2, hk, h2⟩ := (hr.grow hb).put hN (x := y) (hv.mono (Holds.refl _ _) ⟨fun _ h => h, fun _ _ h => by cases h⟩) hy
          exact hK _ _ _ _ hk h2
      · cases hs
    · cases hs
  · cases hs
theorem w_appendG (h : Rel P base w0 S0 N D sv g σ a w) (C : CfgOK P c) (hN : c.N = N) (hF : WideF F) {K : Act → World → Prop} {Q : Exit → Act → World → Prop} (hK : ∀ g' σ' a' w', k σ' = some res → Rel P base w0 S0 N D sv g' σ' a' w' → K a' w') {t e : TypeId} {x y : Operand}
    (hop : o.op = .call { callee := .builtin .append, args := #[x, y], argTypes := #[t, t] }) {ti te : TI} {τ : Ty} (hti : c.ti t = some ti) (htk : ti.k = .slice τ e) (hte : c.ti e = some te) {id : Nat} {py : At} (hx : evA c σ.regs t x = some (.own id)) (hy : evA c σ.regs t y = some py)
    (hs0 : listOf σ.mem py (fun τ' l => ocase (castL τ' τ l) fun ys => match look id σ.mem with
          | some (.row τ' l) => ocase (castL τ' τ l) fun l => lcase (l.length + ys.length) ((gone1 id σ).put c o.dst (.one (.sl τ (l ++ ys))) k)
          | _ => none) = some res) : o.wpIn F n P a w K Q := by
  obtain ⟨i, d, T⟩ := C.ts t ti hti
  obtain ⟨rfl, j, hj, hjs, hjb⟩ := T.slice htk
  obtain ⟨i2, d2, T2⟩ := C.ts e te hte
  obtain rfl : i2 = j := by have := T2.info; rw [hj] at this; exact (Option.some.inj this).symm
  have E := h.env C [x, y]
  have hxv := E.evA (x := x) (by simp) hx
  have hyv := E.evA (x := y) (by simp) hy
  generalize hxe : a.eval x = vx at hxv
  generalize hye : a.eval y = vy at hyv
  obtain ⟨τ', ys, ad2, m2, c2, hs1, rfl, hm2, -, hsrc2⟩ := listOf_ok h.mem hyv hs0
  clear hs0
  obtain ⟨ys', hcast, hs⟩ := ocase_some hs1
  clear hs1
  obtain ⟨e9, hys⟩ := castL_ok hcast
  clear hcast
  subst e9
  simp only at hys
  subst hys
  subst hm2
  have hsrc2 := src_of hsrc2
  split at hs
  · rename_i τ1 l0 hl0
    obtain ⟨l, hl, hs1⟩ := ocase_some hs
    clear hs
    obtain ⟨e9, hll⟩ := castL_ok hl
    clear hl
    subst e9
    simp only at hll
    subst hll
    obtain ⟨hlim, hs⟩ := lcase_some hs1
    clear hs1
    obtain ⟨b, hm, hbr⟩ := h.mem id _ hl0
    have keepG : ∀ {w' : World} {b' : Gb} {y : AB}, w.heap.size ≤ w'.heap.size → (w'.os = w.os ∧ w'.tape = w.tape ∧ w'.output = w.output) → (∀ j, j < w.heap.size → b.blk ≠ some j → w'.heap[j]? = w.heap[j]?) →
        (∀ q, b'.blk = some q → (b.blk = some q ∨ (w.heap.size ≤ q)) ∧ q < w'.heap.size) → (Holds g w w' → BR P (g.set id b') w' b' y) → w.heap.size ≤ w'.heap.size ∧ (w'.os = w.os ∧ w'.tape = w.tape ∧ w'.output = w.output) ∧ (∀ j, j < w.heap.size → b.blk ≠ some j → w'.heap[j]? = w.heap[j]?) ∧
        (∀ q, b'.blk = some q → (b.blk = some q ∨ (w.heap.size ≤ q)) ∧ q < w'.heap.size) ∧ (Holds g w w' → BR P (g.set id b') w' b' y) := fun h1 h2 h3 h4 h5 => ⟨h1, h2, h3, h4, h5⟩
    have fin : ∀ {v : Value} {w1 : World} {b2 : Gb} {lz : List τ1.T}, (Builtin.append_ #[t, t] o.type #[vx, .slice ad2 ys.length c2]).run P w = .ok v w1 → (w.heap.size ≤ w1.heap.size ∧ (w1.os = w.os ∧ w1.tape = w.tape ∧ w1.output = w.output) ∧ (∀ j, j < w.heap.size → b.blk ≠ some j → w1.heap[j]? = w.heap[j]?) ∧
        (∀ q, b2.blk = some q → (b.blk = some q ∨ (w.heap.size ≤ q)) ∧ q < w1.heap.size) ∧ (Holds g w w1 → BR P (g.set id b2) w1 b2 (.row τ1 lz))) → VA (g.set id b2) w1 (.own id) v → (gone1 id σ).put c o.dst (.one (.sl τ1 lz)) k = some res → o.wpIn F n P a w K Q := by
      intro v w1 b2 lz hr ⟨sz, os, oth, qq, bb⟩ hva hp
      obtain ⟨g1, h1, hgm, hS, hblk, hnew⟩ := h.consume hl0 rfl hm sz os oth
      have hbr2 := bb (fun j hj => oth j (h.S j hj) (fun e => (h.own id _ b j hl0 rfl hm e).2 hj))
      cases hva with
      | own _ b' ad hm' hk h0 =>
        have e : b2 = b' := by simpa [Gh.set] using hm'
        subst e
        have hz : VA g1 w1 (.sl τ1 lz) (.slice ad b2.ln b2.cp) := hbr2.whole (g' := g1) hS (fun q hq => by
          obtain ⟨h3, h4⟩ := qq q hq
          rcases h3 with h3 | h3
          · exact hblk q h3
          · exact hnew q h3 h4) hk h0
        obtain ⟨σ2, hk2, h2⟩ := h1.put (v := .slice ad b2.ln b2.cp) hN (x := .one (.sl τ1 lz)) hz hp
        refine wpIn_of_run hF (by simp [hop]) ?_ (hK _ _ _ _ hk2 h2)
        have e1 : (#[x, y].map a.eval) = #[vx, .slice ad2 ys.length c2] := by simp [hxe, hye]
        simp only [execOp, hop, resolve, Sem.run_bind, Sem.run_pure, Result.andThen_ok, invoke, builtin, e1, hr]
    have hlen := hbr.len
    have hli : listOf σ.mem (.own id) (fun _ _ => some ()) = some () := by simp [listOf, hl0]
    have hsrc1 : ∀ {ad : Option Addr}, VA g w (.own id) (.slice ad b.ln b.cp) → Src g w τ1 l0 ad := by
      intro ad hv
      obtain ⟨τ9, l9, ad9, n9, c9, hk9, e9, hl9, _, hs9⟩ := listOf_ok (kk := fun τ l => some (Sigma.mk τ l)) (res := (Sigma.mk τ1 l0 : (τ : Ty) × List τ.T)) h.mem hv (by simp [listOf, hl0])
      cases hk9
      cases e9
      exact src_of hs9
    cases hxv with
    | own _ b' ad hm' hk' h0' =>
      rw [hm] at hm'; cases hm'
      have hsrc1 := hsrc1 (VA.own id b ad hm hk' h0')
      rw [hlen.1] at fin hxe
      by_cases hne : ys = []
      · subst hne
        have hrw := keepG (w' := w) (b' := b) (y := .row τ1 (l0 ++ [])) (Nat.le_refl _) ⟨rfl, rfl, rfl⟩ (fun _ _ _ => rfl) (fun q hq => ⟨.inl hq, h.blk id b q hm hq⟩) (fun hH => by
          simp only [List.append_nil]
          exact hbr.mono (Holds.refl _ _) (fun _ _ => rfl) ⟨fun _ h => h, fun i b1 hb1 => by
            show (if i = id then some b else g.m i) = some b1
            split
            · rename_i e1; subst e1; rw [hm] at hb1; exact hb1
            · exact hb1⟩)
        refine fin (by simpa using run_append0 (P := P) (w := w) T.und hj (ad := ad) (ad2 := ad2) (n1 := l0.length) (c1 := b.cp) (c2 := c2) hlen.2.1 o.type) hrw ?_ hs
        have := VA.own (g := g.set id b) (w := w) id b ad (by simp [Gh.set]) hk' h0'
        rwa [hlen.1] at this
      · by_cases hroom : l0.length + ys.length ≤ b.cp
        ·
          have hyp : 0 < ys.length := List.length_pos_iff.2 hne
          obtain ⟨h1, h2, h3⟩ := hbr
          rcases h3 with ⟨_, _, h3⟩ | ⟨q, cs, ec, hb, hh, hcs, hl', ho, ha⟩
          · omega
          · have had := hk' q hb
            subst had
            obtain ⟨bk2, of2, vs, rfl, hvl, hvc, hve⟩ := hsrc2 hne
            have hfit : l0.length * τ1.n + vs.length ≤ cs.size := by rw [hvl, hcs, ← Nat.add_mul]; exact Nat.mul_le_mul_right _ hroom
            obtain ⟨new, hnew⟩ : ∃ new, new = (cs.toList.take (l0.length * τ1.n) ++ vs ++ cs.toList.drop (l0.length * τ1.n + vs.length)).toArray := ⟨_, rfl⟩
            have hrun : (Builtin.append_ #[t, t] o.type #[.slice (some ⟨q, 0, none⟩) l0.length b.cp, .slice (some ⟨bk2, of2, none⟩) ys.length c2]).run P w = .ok (.slice (some ⟨q, 0, none⟩) (l0.length + ys.length) b.cp) (w.setRow q new) := by
              have hf := run_firstCells_some (P := P) w i2.size ys.length ⟨bk2, of2, none⟩ ys.length c2 vs (by rw [hvl, hjs]) (fun j u hu => by rw [add_none]; exact hvc j u hu)
              have hst := run_storeCells_at P q (l0.length * i2.size) ec vs 0 cs w hh (by rw [hjs]; simpa using hfit) (hve.one hvl)
              simp only [Nat.add_zero] at hst
              rw [hnew]
              rw [hjs] at hst hf
              simp [Builtin.append_, run_underlying T.und, sizeOf, typeInfo, hj, Builtin.lenOf, hroom, hjs, hf, Addr.add_lit, hst]
            obtain ⟨f1, f2, f3, f4, f5⟩ := setRow_facts w q new
            obtain ⟨b2, hb2⟩ : ∃ b2 : Gb, b2 = ⟨b.blk, l0.length + ys.length, b.cp, b.sz, b.val⟩ := ⟨_, rfl⟩
            have hnl : new.size = cs.size := by rw [hnew]; simp; omega
            have hrw := keepG (w' := w.setRow q new) (b' := b2) (y := .row τ1 (l0 ++ ys)) (by rw [f4]; exact Nat.le_refl _) ⟨f1, f2, f3⟩ (fun j hj hne' => f5 j (fun e' => hne' (by rw [e']; exact hb))) (fun p hp => by
              rw [hb2] at hp; exact ⟨.inl hp, by rw [f4]; exact h.blk id b p hm hp⟩) (fun hH => by
              have hle : ∀ {x v}, pureA x = true → VA g w x v → VA (g.set id b2) (w.setRow q new) x v := fun hp hv => (hv.pure (g' := ⟨g.S, fun _ => none⟩) hp (fun _ h => h)).mono hH ⟨fun _ h => h, fun _ _ h => by cases h⟩
              refine ⟨by rw [hb2]; exact h1, by rw [hb2]; simp, .inr ⟨q, new, ec, by rw [hb2]; exact hb, setRow_heap w q cs _ ec _ hh, by rw [hnl, hcs, hb2], by rw [hb2]; simpa using hroom, ?_, ?_⟩⟩
              · intro u hu
                rw [hnew] at hu
                simp only [List.toList_toArray, List.mem_append] at hu
                rcases hu with (hu | hu) | hu
                · exact ho u (List.mem_of_mem_take hu)
                · exact hve.one hvl u hu
                · exact ho u (List.mem_of_mem_drop hu)
              · have hold : Elems g w τ1 l0 (cs.toList.take (l0.length * τ1.n)) := by
                  intro i x j y hx hy
                  obtain ⟨v, hv, hr⟩ := ha i x j y hx hy
                  have hi : i < l0.length := (List.getElem?_eq_some_iff.1 hx).1
                  have hjj : j < τ1.n := by rw [← enc_length τ1 x]; exact (List.getElem?_eq_some_iff.1 hy).1
                  have : i * τ1.n + j < l0.length * τ1.n := by
                    calc i * τ1.n + j < i * τ1.n + τ1.n := by omega
                      _ = (i + 1) * τ1.n := by rw [Nat.succ_mul]
                      _ ≤ l0.length * τ1.n := Nat.mul_le_mul_right _ hi
                  exact ⟨v, by rw [List.getElem?_take_of_lt this]; simpa using hv, hr⟩
                have htk : (cs.toList.take (l0.length * τ1.n)).length = l0.length * τ1.n := by simp; omega
                intro i x j y hx hy
                obtain ⟨v, hv, hr⟩ := ((hold.append htk hve).more (cs.toList.drop (l0.length * τ1.n + vs.length))) i x j y hx hy
                exact ⟨v, by rw [hnew]; simpa using hv, hle (enc_pure _ _ _ _ hy) hr⟩)
            refine fin hrun hrw ?_ hs
            have := VA.own (g := g.set id b2) (w := w.setRow q new) id b2 (some ⟨q, 0, none⟩) (by simp [Gh.set]) (fun p hp => by rw [hb2] at hp; exact hk' p hp) (fun hn => by rw [hb2] at hn; rw [hb] at hn; cases hn)
            rw [hb2] at this ⊢
            exact this
        ·
          obtain ⟨w1, cap, cs, hr, hh, e1, e2, e3, hsz, hcap, hone, hel⟩ := run_grow (P := P) (g := g) (w := w) T.und hj hjs hjb T2 (l := l0) (ys := ys) (ad := ad) (ad2 := ad2) (c1 := b.cp) (c2 := c2) hsrc1 hsrc2 (fun hn => by
            cases hbk : b.blk with
            | none => exact (h0' hbk).1
            | some q => have := hk' q hbk; rw [hn] at this; cases this) hne (by omega) hlim o.type
          obtain ⟨b2, hb2⟩ : ∃ b2 : Gb, b2 = ⟨some w.heap.size, l0.length + ys.length, cap, τ1.n, b.val⟩ := ⟨_, rfl⟩
          have hb' := Below.push hh e1 e2 e3
          have hrw := keepG (w' := w1) (b' := b2) (y := .row τ1 (l0 ++ ys)) hb'.size ⟨e1, e2, e3⟩ (fun j hj _ => hb'.block j hj) (fun p hp => by
            rw [hb2] at hp; cases hp; exact ⟨.inr (Nat.le_refl _), by rw [hh]; simp⟩) (fun hH => by
            have hle : ∀ {x v}, pureA x = true → VA g w x v → VA (g.set id b2) w1 x v := fun hp hv => (hv.pure (g' := ⟨g.S, fun _ => none⟩) hp (fun _ h => h)).mono hH ⟨fun _ h => h, fun _ _ h => by cases h⟩
            refine ⟨by rw [hb2], by rw [hb2]; simp, .inr ⟨w.heap.size, cs, e, by rw [hb2], heap_push hh, by rw [hb2]; exact hsz, by rw [hb2]; simpa using hcap, hone, ?_⟩⟩
            intro i x j y hx hy
            obtain ⟨v, hv, hr⟩ := hel i x j y hx hy
            exact ⟨v, by simpa using hv, hle (enc_pure _ _ _ _ hy) hr⟩)
          refine fin hr hrw ?_ hs
          have := VA.own (g := g.set id b2) (w := w1) id b2 (some ⟨w.heap.size, 0, none⟩) (by simp [Gh.set]) (fun p hp => by rw [hb2] at hp; cases hp; rfl) (fun hn => by rw [hb2] at hn; cases hn)
          rw [hb2] at this ⊢
          exact this
  · simp at hs
theorem stepU_ok (h : Rel P base w0 S0 N D sv g σ a w) (C : CfgOK P c) (hN : c.N = N) (hF : WideF F) {K : Act → World → Prop} {Q : Exit → Act → World → Prop} (hK : ∀ g' σ' a' w', k σ' = some res → Rel P base w0 S0 N D sv g' σ' a' w' → K a' w') (hs : stepU c o σ k = some res) : o.wpIn F n P a w K Q := by
  unfold stepU at hs
  split at hs
  · rename_i args ts ho
    split at hs
    · rename_i x y t t' ha ht
      split at hs
      · rename_i τ e hti hb
        have := Nat.eq_of_beq_eq_true hb
        subst this
        split at hs
        · rename_i te id py hte hx hy
          have e1 : args = #[x, y] := by apply Array.ext'; simpa using ha
          have e2 : ts = #[t, t] := by apply Array.ext'; simpa using ht
          subst e1; subst e2
          exact w_appendG h C hN hF hK ho hti rfl hte hx hy hs
        · cases hs
      · cases hs
    · cases hs
  · rename_i f args ts ho
    exact effG_ok h C hN hF hK ho hs
  · cases hs
end
end Go.Eng
set_option linter.unusedSimpArgs false
set_option linter.unusedVariables false
set_option linter.unnecessarySimpa false
namespace Go.Eng
open Go Go.RowKit
section
variable {P : Program} [GlobL P] {F : Fence} {n : Nat} {c : Cfg} {g g' : Gh} {r : Regs} {m : Mem} {a : Act} {w w' : World} {o : Oper} {R : Type} {k : St → Option R} {res : R}
variable {base : Nat} {w0 : World} {S0 : Nat → Prop} {N : Nat} {D : Wt} {sv : Nat → Value} {σ : St} {ops : Array Oper} {Q : Exit → Act → World → Prop} {ds : List (Option Nat)}
theorem okFromX_spec {x : Item} {i : Nat} : ∀ {l : List Item}, okFromX c ds i x l = true → ∀ y ∈ l, clashX c ds x y = true → Nat.testBit y.2.1 i = true
  | [], _, y, hy, _ => by simp at hy
  | z :: l, h, y, hy, hc => by
    unfold okFromX at h
    split at h
    · split at h
      · rename_i hb
        rcases List.mem_cons.1 hy with rfl | hy
        · exact hb
        · exact okFromX_spec h y hy hc
      · simp at h
    · rename_i hcl
      rcases List.mem_cons.1 hy with rfl | hy
      · rw [hc] at hcl; cases hcl
      · exact okFromX_spec h y hy hc
theorem okAllX_spec : ∀ {l : List Item} {i : Nat}, okAllX c ds i l = true → ∀ {p q : Nat} {x y : Item}, p < q → l[p]? = some x → l[q]? = some y → clashX c ds x y = true → Nat.testBit y.2.1 (i + p) = true
  | [], i, _, p, q, x, y, _, hx, _, _ => by simp at hx
  | z :: l, i, h, p, q, x, y, hpq, hx, hy, hc => by
    unfold okAllX at h
    split at h
    · rename_i hf
      cases q with
      | zero => omega
      | succ q =>
        simp at hy
        cases p with
        | zero =>
          simp at hx; subst hx
          exact okFromX_spec hf y (List.mem_of_getElem? hy) hc
        | succ p =>
          simp at hx
          have := okAllX_spec h (by omega : p < q) hx hy hc
          rw [show i + (p + 1) = i + 1 + p from by omega]; exact this
    · simp at h
theorem looseX_get : ∀ {l : List (Oper × Nat)} {i p : Nat} {x : Oper × Nat}, l[p]? = some x → ∃ lo, (looseX c i l)[p]? = some (x.1, x.2, lo) ∧ (lo = true → x.1.guard = none ∧ isW c x.1.op = true)
  | [], i, p, x, h => by simp at h
  | z :: l, i, 0, x, h => by
    simp at h; subst h
    refine ⟨_, by simp only [looseX, List.getElem?_cons_zero]; rfl, fun h => ?_⟩
    split at h
    · rename_i h1 h2 h3; exact ⟨h3, h2⟩
    · cases h
  | z :: l, i, p + 1, x, h => by
    simp only [looseX, List.getElem?_cons_succ]
    exact looseX_get (by simpa using h)
theorem looseX_len : ∀ {l : List (Oper × Nat)} {i : Nat}, (looseX c i l).length = l.length
  | [], _ => rfl
  | x :: l, i => by simp [looseX, looseX_len]
theorem itemsX_len : (itemsX c ops.toList).length = ops.size := by
  obtain ⟨rest, h1, h2, h3⟩ := befores_spec ops.toList []
  simp only [List.nil_append] at h1
  unfold itemsX
  rw [looseX_len, List.length_zip, h1, h2]
  simp
theorem itemsX_get {p : Nat} (h : ops[p]? = some o) : ∃ b lo, (itemsX c ops.toList)[p]? = some (o, b, lo) ∧ (befores [] ops.toList)[p]? = some b ∧ (lo = true → o.guard = none ∧ isW c o.op = true) := by
  obtain ⟨rest, h1, h2, h3⟩ := befores_spec ops.toList []
  simp only [List.nil_append] at h1
  have hp : p < ops.size := (Array.getElem?_eq_some_iff.1 h).1
  have hr : p < rest.length := by rw [h2]; simpa using hp
  have hz : (ops.toList.zip (befores [] ops.toList))[p]? = some (o, rest[p]) := by
    rw [h1, List.getElem?_zip_eq_some]
    exact ⟨by simpa using h, List.getElem?_eq_getElem hr⟩
  obtain ⟨lo, h4, h5⟩ := looseX_get (c := c) (i := 0) hz
  exact ⟨rest[p], lo, h4, by rw [h1]; exact List.getElem?_eq_getElem hr, h5⟩
theorem itemsX_op {p : Nat} {x : Item} (h : (itemsX c ops.toList)[p]? = some x) : ops[p]? = some x.1 ∧ (befores [] ops.toList)[p]? = some x.2.1 ∧ (x.2.2 = true → x.1.guard = none ∧ isW c x.1.op = true) := by
  have hp : p < ops.size := by rw [← itemsX_len (c := c)]; exact (List.getElem?_eq_some_iff.1 h).1
  have ho : ops[p]? = some ops[p] := by simp
  obtain ⟨b, lo, h1, h2, h3⟩ := itemsX_get (c := c) ho
  rw [h] at h1
  cases h1
  exact ⟨ho, h2, h3⟩
theorem bit_before {L : Array Bool} (hb : edgesBack 0 ops.toList = true) (hc : Closed ops L) {i j : Nat} {y : Item} (hy : (itemsX c ops.toList)[j]? = some y) (hbit : Nat.testBit y.2.1 i = true)
    (he : ∀ e ∈ y.1.after, bindsAny e = true → L.getD e.on false = true) : L.getD i false = true := by
  obtain ⟨h1, h2, _⟩ := itemsX_op hy
  exact closed_bits hc hb j y.1 y.2.1 h1 h2 he i hbit
theorem clash_beforeX {L : Array Bool} (ho : orderX c ops.toList = true) (hc : Closed ops L) {i j : Nat} {x y : Item} (hij : i < j) (hx : (itemsX c ops.toList)[i]? = some x) (hy : (itemsX c ops.toList)[j]? = some y) (hcl : clashX c (ops.toList.map (·.dst)) x y = true)
    (he : ∀ e ∈ y.1.after, bindsAny e = true → L.getD e.on false = true) : L.getD i false = true := by
  unfold orderX at ho
  split at ho
  · rename_i hb
    have hbit := okAllX_spec ho hij hx hy hcl
    simp only [Nat.zero_add] at hbit
    exact bit_before hb hc hy hbit he
  · simp at ho
theorem reg_l {x y : Oper} {t : Nat} (hx : x.dst = some t) (hy : t ∈ looksOf ds y) : regClash ds x y = true := by simp [regClash, dstIn, hx, hasN_mem.2 hy]
theorem reg_r {x y : Oper} {t : Nat} (hy : y.dst = some t) (hx : t ∈ looksOf ds x) : regClash ds x y = true := by simp [regClash, dstIn, hy, hasN_mem.2 hx]
theorem reg_d {x y : Oper} {t : Nat} (hx : x.dst = some t) (hy : y.dst = some t) : regClash ds x y = true := by simp [regClash, sameDst, hx, hy]
theorem clX {x y : Item} (h : regClash ds x.1 y.1 = true) : clashX c ds x y = true := by
  unfold clashX
  split
  · exact h
  · rfl
theorem clX_b {x y : Item} (h : (isQ c x.1.op || x.2.2) = false ∨ (isQ c y.1.op || y.2.2) = false ∨ (isQ c x.1.op || isQ c y.1.op) = false) : clashX c ds x y = true := by
  unfold clashX
  split
  · rename_i h1 h2 h3
    rcases h with h | h | h
    · rw [h1] at h; cases h
    · rw [h2] at h; cases h
    · rw [h3] at h; cases h
  · rfl
theorem pushD_gP (d : Option Nat) (y : AV) (r : Regs) : pushD d y r = gP d y r := by cases d <;> rfl
theorem put_eq {dst : Option Nat} {x : AV} {σ : St} {kk : St → Option R} (h : ∀ d, dst = some d → d < c.N ∧ d < OFF) : σ.put c dst x kk = kk { regs := pushD dst x σ.regs, mem := σ.mem, nx := σ.nx } := by
  cases dst with
  | none => rfl
  | some d =>
    obtain ⟨h1, h2⟩ := h d rfl
    unfold St.put
    have e1 : Nat.blt d c.N = true := Nat.ble_eq_true_of_le h1
    have e2 : Nat.blt d OFF = true := Nat.ble_eq_true_of_le h2
    simp only [e1, e2]
    rfl
structure TX where
  d : Option Nat
  y : AV
  e : Option (Nat × AB × Bool)
def rT (tr : List TX) : List (Option Nat × AV) := tr.map fun x => (x.d, x.y)
def mE : Option (Nat × AB × Bool) → Option Nat × AB
  | some (id, b, _) => (some id, b)
  | none => (none, .gone)
def uE : Option (Nat × AB × Bool) → Bool
  | some (_, _, u) => u
  | none => false
def mT (tr : List TX) : List (Option Nat × AB) := tr.map fun x => mE x.e
def uT (tr : List TX) : List Bool := tr.map fun x => uE x.e
structure SegX (H : Hnd R) (c : Cfg) (ds : List (Option Nat)) (k : St → Option R) (res : R) (s : Nat) (σ : St) (l : List Item) (tr : List TX) (σe : St) : Prop where
  le : tr.length ≤ l.length
  rest : ∃ T U, runX H c ds (l.drop tr.length) (s + tr.length) T U σe k = some res
  head : ∀ (o : Item), l[tr.length]? = some o → isQ c o.1.op = false ∧ o.2.2 = false
  mem : σe.mem = gF (mT tr) σ.mem
  nx : σe.nx = upF (uT tr) σ.nx
  regs : ∀ t, look t σe.regs = look t (gF (rT tr) σ.regs)
  dst : ∀ (p : Nat) (o : Item) (x : TX), l[p]? = some o → tr[p]? = some x → x.d = o.1.dst ∧ ∀ d, o.1.dst = some d → d < c.N ∧ d < OFF
  stepQ : ∀ (p : Nat) (o : Item) (x : TX), l[p]? = some o → tr[p]? = some x → isQ c o.1.op = true → x.e = none ∧ ∃ r, (∀ t, look t r = look t (gF ((rT tr).take p) σ.regs)) ∧ StepQ c ds o.1 r (gF ((mT tr).take p) σ.mem) x.y
  stepW : ∀ (p : Nat) (o : Item) (x : TX), l[p]? = some o → tr[p]? = some x → isQ c o.1.op = false → o.2.2 = true ∧ ∃ id b up r, x.e = some (id, b, up) ∧ (∀ t, look t r = look t (gF ((rT tr).take p) σ.regs)) ∧
    effT c o.1 r (gF ((mT tr).take p) σ.mem) (upF ((uT tr).take p) σ.nx) = some (x.y, id, b, up)
  plain : Plain (mT tr) σ.mem
  un1 : ∀ (p q : Nat) (o o' : Item) (x' : TX) (id : Nat) (b : AB) (up : Bool), l[p]? = some o → l[q]? = some o' → tr[q]? = some x' → p < q → isQ c o.1.op = true → x'.e = some (id, b, up) → Nat.testBit o'.2.1 (s + p) = true ∨ id ∉ touch (gF ((rT tr).take p) σ.regs) o.1
  un2 : ∀ (p q : Nat) (o : Item) (x' : TX) (id : Nat) (b : AB) (up : Bool), l[p]? = some o → p < tr.length → tr[q]? = some x' → q < p → isQ c o.1.op = true → x'.e = some (id, b, up) → Nat.testBit o.2.1 (s + q) = true ∨ id ∉ touch (gF ((rT tr).take p) σ.regs) o.1
theorem mkSegX {H : Hnd R} : ∀ (l : List Item) (i : Nat) (T : List (Nat × List Nat)) (U : List (Nat × Nat)) (σ : St), runX H c ds l i T U σ k = some res → ∃ tr σe, SegX H c ds k res i σ l tr σe ∧
    (∀ (q : Nat) (o : Item) (x : TX) (id : Nat) (b : AB) (up : Bool), l[q]? = some o → tr[q]? = some x → x.e = some (id, b, up) → ∀ z ∈ T, Nat.testBit o.2.1 z.1 = true ∨ id ∉ z.2) ∧
    (∀ (p : Nat) (o : Item), l[p]? = some o → p < tr.length → isQ c o.1.op = true → ∀ j ∈ U, Nat.testBit o.2.1 j.1 = true ∨ j.2 ∉ touch (gF ((rT tr).take p) σ.regs) o.1)
  | [], i, T, U, σ, h => ⟨[], σ, { le := by simp, rest := ⟨T, U, by simpa using h⟩, head := fun o h => (by simp at h), mem := rfl, nx := rfl, regs := fun _ => rfl, dst := fun p o x h => (by simp at h), stepQ := fun p o x h => (by simp at h), stepW := fun p o x h => (by simp at h), plain := fun x hx => (by simp [mT] at hx), un1 := fun p q o o' x' id b up h => (by simp at h), un2 := fun p q o x' id b up h => (by simp at h) }, fun q o x id b up h => (by simp at h), fun p o h => (by simp at h)⟩
  | (o, bef, lo) :: l, i, T, U, σ, h => by
    have h' := h
    simp only [runX] at h
    split at h
    ·
      rename_i hq
      split at h
      · rename_i hU
        obtain ⟨r, y, hr, hs, hd, h1⟩ := stepQ_of hq h
        simp only [runOps] at h1
        obtain ⟨tr, σe, S, hT, hU'⟩ := mkSegX l (i + 1) _ _ _ h1
        have hpr : ∀ t, look t (pushD o.dst y r) = look t (gP o.dst y σ.regs) := fun t => by rw [pushD_gP]; simp only [look_gP, hr]
        have hg : ∀ p t, look t (gF ((rT tr).take p) (pushD o.dst y r)) = look t (gF ((rT (⟨o.dst, y, none⟩ :: tr)).take (p + 1)) σ.regs) := fun p t => by
          simp only [rT, List.map_cons, List.take_succ_cons, gF]
          exact gF_congr (hpr t)
        have ht : ∀ p o', touch (gF ((rT tr).take p) (pushD o.dst y r)) o' = touch (gF ((rT (⟨o.dst, y, none⟩ :: tr)).take (p + 1)) σ.regs) o' := fun p o' => touch_same fun t _ => hg p t
        refine ⟨⟨o.dst, y, none⟩ :: tr, σe, { le := by have := S.le; simp; omega, rest := ?_, head := fun o' h => S.head o' (by simpa using h), mem := by rw [S.mem]; rfl, nx := by rw [S.nx]; rfl, regs := fun t => ?_, dst := fun p o' x hp hx => ?_, stepQ := fun p o' x hp hx hq' => ?_, stepW := fun p o' x hp hx hq' => ?_, plain := fun x hx d hd' => ?_, un1 := fun p q o1 o2 x' id b up hp hq1 hx' hlt hq2 he => ?_, un2 := fun p q o1 x' id b up hp hpl hx' hlt hq2 he => ?_ }, fun q o' x id b up hp hx he z hz => ?_, fun p o' hp hpl hq' j hj => ?_⟩
        · obtain ⟨T', U', hr'⟩ := S.rest
          exact ⟨T', U', by simpa [Nat.add_assoc, Nat.add_comm, Nat.add_left_comm] using hr'⟩
        · rw [S.regs]
          have := hg tr.length t
          rw [List.take_of_length_le (by simp [rT]), List.take_of_length_le (by simp [rT])] at this
          exact this
        · cases p with
          | zero => simp at hp hx; subst hp; subst hx; exact ⟨rfl, hd⟩
          | succ p => exact S.dst p o' x (by simpa using hp) (by simpa using hx)
        · cases p with
          | zero =>
            simp at hp hx; subst hp; subst hx
            exact ⟨rfl, r, by simpa [gF] using hr, by simpa [gF] using hs⟩
          | succ p =>
            obtain ⟨h1, r', h2, h3⟩ := S.stepQ p o' x (by simpa using hp) (by simpa using hx) hq'
            exact ⟨h1, r', fun t => (h2 t).trans (hg p t), by simpa [mT, mE, gF, gP] using h3⟩
        · cases p with
          | zero => simp at hp hx; subst hp; rw [hq] at hq'; cases hq'
          | succ p =>
            obtain ⟨h0, id, b, up, r', h1, h2, h3⟩ := S.stepW p o' x (by simpa using hp) (by simpa using hx) hq'
            exact ⟨h0, id, b, up, r', h1, fun t => (h2 t).trans (hg p t), by simpa [mT, mE, uT, uE, gF, gP, upF] using h3⟩
        · simp only [mT, List.map_cons, List.mem_cons] at hx
          rcases hx with rfl | hx
          · simp [mE] at hd'
          · exact S.plain x hx d hd'
        · cases q with
          | zero => omega
          | succ q =>
            have hq1 : l[q]? = some o2 := by simpa using hq1
            have hx' : tr[q]? = some x' := by simpa using hx'
            cases p with
            | zero =>
              simp at hp; subst hp
              have := hT q o2 x' id b up hq1 hx' he (i, touch σ.regs o) (by simp)
              simpa [gF, rT] using this
            | succ p =>
              have := S.un1 p q o1 o2 x' id b up (by simpa using hp) hq1 hx' (by omega) hq2 he
              rw [ht p o1.1, show i + 1 + p = i + (p + 1) from by omega] at this
              exact this
        · cases p with
          | zero => omega
          | succ p =>
            have hp : l[p]? = some o1 := by simpa using hp
            cases q with
            | zero => simp at hx'; subst hx'; simp at he
            | succ q =>
              have := S.un2 p q o1 x' id b up hp (by simpa using hpl) (by simpa using hx') (by omega) hq2 he
              rw [ht p o1.1, show i + 1 + q = i + (q + 1) from by omega] at this
              exact this
        · cases q with
          | zero => simp at hx; subst hx; simp at he
          | succ q => exact hT q o' x id b up (by simpa using hp) (by simpa using hx) he z (by simp [hz])
        · cases p with
          | zero =>
            simp at hp; subst hp
            have h9 := List.all_eq_true.1 hU j hj
            rw [Bool.or_eq_true] at h9
            rcases h9 with h9 | h9
            · exact .inl h9
            · right
              intro hm
              have hm : j.2 ∈ touch σ.regs o := by simpa [gF, rT] using hm
              rw [hasN_mem.2 hm] at h9
              cases h9
          | succ p =>
            have := hU' p o' (by simpa using hp) (by simpa using hpl) hq' j hj
            rw [ht p o'.1] at this
            exact this
      · cases h
    · rename_i hq
      split at h
      ·
        obtain ⟨y, id, b, up, he, h1⟩ := effW_some h
        split at h1
        · rename_i hTT hcap
          obtain ⟨hd, h2⟩ := put_pushD h1
          obtain ⟨tr, σe, S, hT, hU'⟩ := mkSegX l (i + 1) _ _ _ h2
          simp only [Bool.or_eq_false_iff] at hcap
          have hpr : ∀ t, look t (pushD o.dst y σ.regs) = look t (gP o.dst y σ.regs) := fun t => by rw [pushD_gP]
          have hg : ∀ p t, look t (gF ((rT tr).take p) (pushD o.dst y σ.regs)) = look t (gF ((rT (⟨o.dst, y, some (id, b, up)⟩ :: tr)).take (p + 1)) σ.regs) := fun p t => by
            simp only [rT, List.map_cons, List.take_succ_cons, gF]
            exact gF_congr (hpr t)
          have ht : ∀ p o', touch (gF ((rT tr).take p) (pushD o.dst y σ.regs)) o' = touch (gF ((rT (⟨o.dst, y, some (id, b, up)⟩ :: tr)).take (p + 1)) σ.regs) o' := fun p o' => touch_same fun t _ => hg p t
          have hnx : nxOf up σ.nx = if up then σ.nx + 1 else σ.nx := by cases up <;> rfl
          refine ⟨⟨o.dst, y, some (id, b, up)⟩ :: tr, σe, { le := by have := S.le; simp; omega, rest := ?_, head := fun o' h => S.head o' (by simpa using h), mem := by rw [S.mem]; rfl, nx := by rw [S.nx]; simp only [uT, List.map_cons, upF, uE, hnx], regs := fun t => ?_, dst := fun p o' x hp hx => ?_, stepQ := fun p o' x hp hx hq' => ?_, stepW := fun p o' x hp hx hq' => ?_, plain := fun x hx d hd' => ?_, un1 := fun p q o1 o2 x' id' b' up' hp hq1 hx' hlt hq2 he' => ?_, un2 := fun p q o1 x' id' b' up' hp hpl hx' hlt hq2 he' => ?_ }, fun q o' x id' b' up' hp hx he' z hz => ?_, fun p o' hp hpl hq' j hj => ?_⟩
          · obtain ⟨T', U', hr'⟩ := S.rest
            exact ⟨T', U', by simpa [Nat.add_assoc, Nat.add_comm, Nat.add_left_comm] using hr'⟩
          · rw [S.regs]
            have := hg tr.length t
            rw [List.take_of_length_le (by simp [rT]), List.take_of_length_le (by simp [rT])] at this
            exact this
          · cases p with
            | zero => simp at hp hx; subst hp; subst hx; exact ⟨rfl, hd⟩
            | succ p => exact S.dst p o' x (by simpa using hp) (by simpa using hx)
          · cases p with
            | zero => simp at hp hx; subst hp; rw [hq] at hq'; cases hq'
            | succ p =>
              obtain ⟨h1, r', h2, h3⟩ := S.stepQ p o' x (by simpa using hp) (by simpa using hx) hq'
              exact ⟨h1, r', fun t => (h2 t).trans (hg p t), by simpa [mT, mE, gF, gP] using h3⟩
          · cases p with
            | zero =>
              simp at hp hx; subst hp; subst hx
              exact ⟨rfl, id, b, up, σ.regs, rfl, by simp [gF], by simpa [gF, upF] using he⟩
            | succ p =>
              obtain ⟨h0, id', b', up', r', h1, h2, h3⟩ := S.stepW p o' x (by simpa using hp) (by simpa using hx) hq'
              refine ⟨h0, id', b', up', r', h1, fun t => (h2 t).trans (hg p t), ?_⟩
              simp only [mT, List.map_cons, List.take_succ_cons, gF, mE, gP, uT, uE, upF]
              rw [← hnx]
              exact h3
          · simp only [mT, List.map_cons, List.mem_cons] at hx
            rcases hx with rfl | hx
            · simp only [mE, Option.some.injEq] at hd'
              subst hd'
              exact ⟨hcap.2, hcap.1⟩
            · obtain ⟨p1, p2⟩ := S.plain x hx d hd'
              refine ⟨p1, ?_⟩
              have : look d (gP (some id) b σ.mem) = look d ((id, b) :: σ.mem) := rfl
              rw [← this, look_gP] at p2
              split at p2
              · rename_i e; cases e; exact hcap.1
              · exact p2
          · cases q with
            | zero => omega
            | succ q =>
              have hq1 : l[q]? = some o2 := by simpa using hq1
              have hx' : tr[q]? = some x' := by simpa using hx'
              cases p with
              | zero => simp at hp; subst hp; rw [hq] at hq2; cases hq2
              | succ p =>
                have := S.un1 p q o1 o2 x' id' b' up' (by simpa using hp) hq1 hx' (by omega) hq2 he'
                rw [ht p o1.1, show i + 1 + p = i + (p + 1) from by omega] at this
                exact this
          · cases p with
            | zero => omega
            | succ p =>
              have hp : l[p]? = some o1 := by simpa using hp
              cases q with
              | zero =>
                have hid : id' = id := by simp at hx'; subst hx'; cases he'; rfl
                subst hid
                have := hU' p o1 hp (by simpa using hpl) hq2 (i, id') (by simp)
                rw [ht p o1.1] at this
                exact this
              | succ q =>
                have := S.un2 p q o1 x' id' b' up' hp (by simpa using hpl) (by simpa using hx') (by omega) hq2 he'
                rw [ht p o1.1, show i + 1 + q = i + (q + 1) from by omega] at this
                exact this
          · cases q with
            | zero =>
              simp at hp hx; subst hp; subst hx
              cases he'
              have := List.all_eq_true.1 hTT z hz
              rw [Bool.or_eq_true] at this
              rcases this with h | h
              · exact .inl h
              · right
                intro hm
                rw [hasN_mem.2 hm] at h
                cases h
            | succ q => exact hT q o' x id' b' up' (by simpa using hp) (by simpa using hx) he' z hz
          · cases p with
            | zero => simp at hp; subst hp; rw [hq] at hq'; cases hq'
            | succ p =>
              have := hU' p o' (by simpa using hp) (by simpa using hpl) hq' j (by simp [hj])
              rw [ht p o'.1] at this
              exact this
        · cases h1
      ·
        rename_i hlo
        exact ⟨[], σ, { le := by simp, rest := ⟨T, U, by simpa using h'⟩, head := fun o' ho' => by simp at ho'; subst ho'; exact ⟨hq, rfl⟩, mem := rfl, nx := rfl, regs := fun _ => rfl, dst := fun p o x _ h => (by simp at h), stepQ := fun p o x _ h => (by simp at h), stepW := fun p o x _ h => (by simp at h), plain := fun x hx => (by simp [mT] at hx), un1 := fun p q o o' x' id b up _ _ h => (by simp at h), un2 := fun p q o x' id b up _ h => (by simp at h) }, fun q o x id b up _ h => (by simp at h), fun p o _ h => (by simp at h)⟩
end
end Go.Eng
set_option linter.unusedSimpArgs false
set_option linter.unusedVariables false
set_option linter.unnecessarySimpa false
namespace Go.Eng
open Go Go.RowKit
section
variable {P : Program} [GlobL P] {F : Fence} {n : Nat} {c : Cfg} {g g' : Gh} {r : Regs} {m : Mem} {a : Act} {w w' : World} {o : Oper} {R : Type} {k : St → Option R} {res : R}
variable {base : Nat} {w0 : World} {S0 : Nat → Prop} {N : Nat} {D : Wt} {sv : Nat → Value} {σ : St} {ops : Array Oper} {Q : Exit → Act → World → Prop}
def stX (L : Nat → Bool) (s : Nat) (tr : List TX) (σ : St) : St := { regs := gL L s (rT tr) σ.regs, mem := gL L s (mT tr) σ.mem, nx := upL L s (uT tr) σ.nx }
structure InvX (P : Program) [GlobL P] (H : Hnd R) (sv : Nat → Value) (base : Nat) (w0 : World) (S0 : Nat → Prop) (N : Nat) (D : Wt) (c : Cfg) (ops : Array Oper) (k : St → Option R) (res : R) (s : Nat) (σ : St) (tr : List TX) (σe : St) (L : Array Bool) (g : Gh) (a : Act) (w : World) : Prop where
  size : L.size = ops.size
  closed : Closed ops L
  sz : s ≤ ops.size
  low : ∀ p, p < s → L.getD p false = true
  high : ∀ p, L.getD p false = true → p < s + tr.length
  rel : Rel P base w0 S0 N D sv g (stX (fun i => L.getD i false) s tr σ) a w
  seg : SegX H c (ops.toList.map (·.dst)) k res s σ ((itemsX c ops.toList).drop s) tr σe
theorem Rel.look_regs {σ σ' : St} (h : Rel P base w0 S0 N D sv g σ a w) (hr : ∀ t, look t σ'.regs = look t σ.regs) (hm : σ'.mem = σ.mem) (hn : σ'.nx = σ.nx) : Rel P base w0 S0 N D sv g σ' a w :=
  { h with regs := fun t x hx => h.regs t x (by rw [← hr]; exact hx), mem := by rw [hm]; exact h.mem, inj := by rw [hm]; exact h.inj, own := by rw [hm]; exact h.own, lp := by rw [hm]; exact h.lp, nx := by rw [hn]; exact h.nx }
theorem InvX.full {H : Hnd R} {s : Nat} {tr : List TX} {σe : St} {L : Array Bool} (I : InvX P H sv base w0 S0 N D c ops k res s σ tr σe L g a w) (hall : ∀ p, p < s + tr.length → L.getD p false = true) : Rel P base w0 S0 N D sv g σe a w := by
  refine I.rel.look_regs (fun t => ?_) ?_ ?_
  · rw [I.seg.regs]
    simp only [stX]
    have hl : (rT tr).length = tr.length := by simp [rT]
    rw [look_gL (p := tr.length) (r' := σ.regs) rfl (fun q x hq _ => ?_), ← hl, List.take_length]
    have hq := (List.getElem?_eq_some_iff.1 hq).1
    rw [hl] at hq
    exact ⟨fun _ => hall _ (by omega), fun _ => hq⟩
  · rw [I.seg.mem]
    simp only [stX]
    have hl : (mT tr).length = tr.length := by simp [mT]
    rw [gL_list (p := tr.length) (fun q x d hq _ => ?_), ← hl, List.take_length]
    have hq := (List.getElem?_eq_some_iff.1 hq).1
    rw [hl] at hq
    exact ⟨fun _ => hall _ (by omega), fun _ => hq⟩
  · rw [I.seg.nx]
    simp only [stX]
    have hl : (uT tr).length = tr.length := by simp [uT]
    rw [upL_list (p := tr.length) (fun q hq => ?_), ← hl, List.take_length]
    have hq := (List.getElem?_eq_some_iff.1 hq).1
    rw [hl] at hq
    exact ⟨fun _ => hall _ (by omega), fun _ => hq⟩
theorem InvX.done {H : Hnd R} {s : Nat} {tr : List TX} {σe : St} {L : Array Bool} (I : InvX P H sv base w0 S0 N D c ops k res s σ tr σe L g a w) (hall : ∀ p, p < ops.size → L.getD p false = true) : k σe = some res ∧ Rel P base w0 S0 N D sv g σe a w := by
  have he : s + tr.length = ops.size := by
    have h1 := I.seg.le
    simp [itemsX_len] at h1
    rcases Nat.lt_or_ge (s + tr.length) ops.size with h | h
    · have := I.high _ (hall _ h); omega
    · have := I.sz; omega
  refine ⟨?_, I.full fun p hp => hall p (by omega)⟩
  obtain ⟨T, U, hr⟩ := I.seg.rest
  rw [List.drop_drop, he, List.drop_eq_nil_of_le (by simp [itemsX_len])] at hr
  simpa [runX] using hr
theorem drop_item {l : List Item} {i : Nat} {x : Item} (h : l[i]? = some x) : l.drop i = x :: l.drop (i + 1) := by
  have hi := (List.getElem?_eq_some_iff.1 h).1
  rw [List.drop_eq_getElem_cons hi]
  congr 1
  exact (List.getElem?_eq_some_iff.1 h).2
theorem any_okX {H : Hnd R} (hH : HndOK P H) (C : CfgOK P c) (hN : c.N = N) (hF : WideF F) (ho : orderX c ops.toList = true) (hK : ∀ g' σ' a' w', k σ' = some res → Rel P base w0 S0 N D sv g' σ' a' w' → Q .normal a' w') :
    ∀ (fuel : Nat) {s : Nat} {σ : St} {tr : List TX} {σe : St} {L : Array Bool} {g : Gh} {a : Act} {w : World}, InvX P H sv base w0 S0 N D c ops k res s σ tr σe L g a w → L.toList.count false ≤ fuel → wpAnyIn F n P .any ops Q fuel L a w := by
  have hb : edgesBack 0 ops.toList = true := by
    unfold orderX at ho
    split at ho
    · assumption
    · simp at ho
  intro fuel
  induction fuel with
  | zero =>
    intro s σ tr σe L g a w I hf
    have hall := full_of_count (by omega : L.toList.count false = 0)
    refine ⟨?_, ?_⟩
    · cases hr : Region.ready .any ops L with
      | nil => rfl
      | cons j _ =>
        have hj : j ∈ Region.ready .any ops L := by rw [hr]; simp
        obtain ⟨h1, h2⟩ := getD_false (mem_ready.1 hj).1
        rw [hall j h1] at h2; cases h2
    · obtain ⟨h1, h2⟩ := I.done (fun p hp => hall p (by rw [I.size]; exact hp))
      exact hK _ _ _ _ h1 h2
  | succ fuel ih =>
    intro s σ tr σe L g a w I hf
    refine ⟨fun hr => ?_, fun j hj => ?_⟩
    · obtain ⟨h1, h2⟩ := I.done (full_of_ready I.size hb hr)
      exact hK _ _ _ _ h1 h2
    · obtain ⟨hun, oj, hoj, hall⟩ := mem_ready.1 hj
      obtain ⟨hjL, hun⟩ := getD_false hun
      have hedge : ∀ e ∈ oj.after, bindsAny e = true → L.getD e.on false = true := fun e he hbe => hall e he (by rw [binds_any]; exact hbe)
      have hcnt := count_false hjL hun
      have hclosed' := I.closed.set hoj hedge
      obtain ⟨bj, loj, hij, hbj, hloj⟩ := itemsX_get (c := c) hoj
      have before : ∀ {i : Nat} {x : Item}, i < j → (itemsX c ops.toList)[i]? = some x → clashX c (ops.toList.map (·.dst)) x (oj, bj, loj) = true → L.getD i false = true := fun hij' hx hcl => clash_beforeX ho I.closed hij' hx hij hcl hedge
      have behind : ∀ {i : Nat} {y : Item}, j < i → (itemsX c ops.toList)[i]? = some y → clashX c (ops.toList.map (·.dst)) (oj, bj, loj) y = true → L.getD i false = false := by
        intro i y hji hy hcl
        cases hLi : L.getD i false with
        | false => rfl
        | true =>
          have := clash_beforeX ho I.closed hji hij hy hcl (fun e he hbe => I.closed i y.1 (itemsX_op hy).1 hLi e he hbe)
          rw [hun] at this; cases this
      have hjs : s ≤ j := by
        rcases Nat.lt_or_ge j s with h | h
        · have := I.low j h; rw [hun] at this; cases this
        · exact h
      have hjsz : j < ops.size := by rw [← I.size]; exact hjL
      have htl : s + tr.length ≤ ops.size := by have := I.seg.le; simp [itemsX_len] at this; have := I.sz; omega
      have seg_get : ∀ {q : Nat} {u : Item}, (itemsX c ops.toList)[s + q]? = some u → ((itemsX c ops.toList).drop s)[q]? = some u := fun h => by simpa using h
      have hLs : ∀ {i : Nat}, i ≠ j → (L.setIfInBounds j true).getD i false = L.getD i false := fun h => getD_set_ne false (Ne.symm h)
      have hLj : (L.setIfInBounds j true).getD j false = true := by simp [hjL]
      have itm : ∀ {q : Nat}, q < tr.length → ∃ u, (itemsX c ops.toList)[s + q]? = some u := fun {q} h => by
        have : s + q < (itemsX c ops.toList).length := by rw [itemsX_len]; omega
        exact ⟨_, List.getElem?_eq_getElem this⟩
      by_cases hjt : j < s + tr.length
      ·
        obtain ⟨p, rfl⟩ : ∃ p, j = s + p := ⟨j - s, by omega⟩
        have hp : p < tr.length := by omega
        have hxp : tr[p]? = some tr[p] := by simp [hp]
        obtain ⟨hxd, hdN⟩ := I.seg.dst p _ tr[p] (seg_get hij) hxp
        have rT_get : ∀ {q : Nat} {x : Option Nat × AV}, (rT tr)[q]? = some x → ∃ z, tr[q]? = some z ∧ x = (z.d, z.y) := by
          intro q x hx
          simp only [rT, List.getElem?_map] at hx
          cases h : tr[q]? with
          | none => rw [h] at hx; simp at hx
          | some z => rw [h] at hx; simp at hx; exact ⟨z, rfl, hx.symm⟩
        have mT_get : ∀ {q : Nat} {x : Option Nat × AB}, (mT tr)[q]? = some x → ∃ z, tr[q]? = some z ∧ x = mE z.e := by
          intro q x hx
          simp only [mT, List.getElem?_map] at hx
          cases h : tr[q]? with
          | none => rw [h] at hx; simp at hx
          | some z => rw [h] at hx; simp at hx; exact ⟨z, rfl, hx.symm⟩
        have tr_dst : ∀ {q : Nat} {x : Option Nat × AV}, (rT tr)[q]? = some x → ∃ u, (itemsX c ops.toList)[s + q]? = some u ∧ x.1 = u.1.dst := by
          intro q x hx
          obtain ⟨z, hz, rfl⟩ := rT_get hx
          have hlt := (List.getElem?_eq_some_iff.1 hz).1
          obtain ⟨u, hu⟩ := itm hlt
          exact ⟨u, hu, (I.seg.dst q u z (seg_get hu) hz).1⟩
        have agree : ∀ t, t ∈ looksOf (ops.toList.map (·.dst)) oj → look t (gL (fun i => L.getD i false) s (rT tr) σ.regs) = look t (gF ((rT tr).take p) σ.regs) := by
          intro t ht
          refine look_gL rfl fun q x hq hxt => ?_
          obtain ⟨u, hu, hxu⟩ := tr_dst hq
          rw [hxu] at hxt
          constructor
          · intro hqp
            exact before (by omega) hu (clX (reg_l hxt ht))
          · intro hLq
            rcases Nat.lt_or_ge q p with h | h
            · exact h
            · exfalso
              rcases Nat.lt_or_ge p q with h' | h'
              · rw [behind (by omega : s + p < s + q) hu (clX (reg_r hxt ht))] at hLq; cases hLq
              · have : q = p := by omega
                subst this
                rw [hun] at hLq; cases hLq
        have eff_get : ∀ {q : Nat} {z : TX}, tr[q]? = some z → z.e.isSome = true → ∃ u, (itemsX c ops.toList)[s + q]? = some u ∧ isQ c u.1.op = false := by
          intro q z hz he
          have hlt := (List.getElem?_eq_some_iff.1 hz).1
          obtain ⟨u, hu⟩ := itm hlt
          refine ⟨u, hu, ?_⟩
          cases hq : isQ c u.1.op with
          | false => rfl
          | true =>
            have := (I.seg.stepQ q u z (seg_get hu) hz hq).1
            rw [this] at he; cases he
        have regs1 : ∀ {t : Nat}, look t (gL (fun i => (L.setIfInBounds (s + p) true).getD i false) s (rT tr) σ.regs) = if oj.dst = some t then some tr[p].y else look t (gL (fun i => L.getD i false) s (rT tr) σ.regs) := by
          intro t
          split
          · rename_i e
            refine look_gL_at (p := p) ?_ hLj fun q x' hpq hx' hxt => ?_
            · simp only [rT, List.getElem?_map, hxp, Option.map_some, hxd, e]
            · obtain ⟨u, hu, hxu⟩ := tr_dst hx'
              rw [hxu] at hxt
              rw [hLs (by omega)]
              exact behind (by omega) hu (clX (reg_d e hxt))
          · rename_i e
            refine look_gL_eq rfl fun q x' hx' hxt => hLs fun e' => e ?_
            have e9 : q = p := by omega
            subst e9
            obtain ⟨z, hz, rfl⟩ := rT_get hx'
            rw [hxp] at hz
            cases hz
            rw [← hxd]; exact hxt
        have next : ∀ {g1 : Gh} {a1 : Act} {w1 : World}, Rel P base w0 S0 N D sv g1 (stX (fun i => (L.setIfInBounds (s + p) true).getD i false) s tr σ) a1 w1 → wpAnyIn F n P .any ops Q fuel (L.setIfInBounds (s + p) true) a1 w1 := by
          intro g1 a1 w1 hrel
          refine ih (s := s) (σ := σ) (tr := tr) (σe := σe) (g := g1) ⟨by simp [I.size], hclosed', I.sz, fun q hq => getD_set_true (I.low q hq), fun q hq => ?_, hrel, I.seg⟩ (by omega)
          by_cases e : q = s + p
          · omega
          · rw [hLs e] at hq; exact I.high q hq
        cases hq : isQ c oj.op with
        | true =>
          obtain ⟨hxe, r, hr, hst⟩ := I.seg.stepQ p _ tr[p] (seg_get hij) hxp hq
          replace hst : StepQ c (ops.toList.map (·.dst)) oj r (gF ((mT tr).take p) σ.mem) tr[p].y := hst
          have hsameM : gL (fun i => (L.setIfInBounds (s + p) true).getD i false) s (mT tr) σ.mem = gL (fun i => L.getD i false) s (mT tr) σ.mem := by
            refine gL_same fun q x d hx hd => hLs fun e => ?_
            have e9 : q = p := by omega
            subst e9
            obtain ⟨z, hz, rfl⟩ := mT_get hx
            rw [hxp] at hz; cases hz
            rw [hxe] at hd; cases hd
          have hsameU : upL (fun i => (L.setIfInBounds (s + p) true).getD i false) s (uT tr) σ.nx = upL (fun i => L.getD i false) s (uT tr) σ.nx := by
            refine upL_same fun q hx => hLs fun e => ?_
            have e9 : q = p := by omega
            subst e9
            simp only [uT, List.getElem?_map, hxp, Option.map_some, hxe, uE] at hx
            cases hx
          have upd : ∀ {g1 : Gh} {w1 : World} {v : Value}, Rel P base w0 S0 N D sv g1 (stX (fun i => L.getD i false) s tr σ) a w1 → AVR g1 w1 tr[p].y v → wpAnyIn F n P .any ops Q fuel (L.setIfInBounds (s + p) true) (a.put oj.dst v) w1 := by
            intro g1 w1 v hrel hv
            refine next (g1 := g1) ?_
            have e : stX (fun i => (L.setIfInBounds (s + p) true).getD i false) s tr σ = { regs := gL (fun i => (L.setIfInBounds (s + p) true).getD i false) s (rT tr) σ.regs, mem := (stX (fun i => L.getD i false) s tr σ).mem, nx := (stX (fun i => L.getD i false) s tr σ).nx } := by
              simp only [stX, hsameM, hsameU]
            rw [e]
            refine { hrel with regs := fun t x hx => ?_, size := ?_, dfr := ?_ }
            · simp only [regs1] at hx
              split at hx
              · rename_i e
                cases hx
                rw [e, vof_put (hdN t e).2 (by rw [hrel.size, ← hN]; exact (hdN t e).1), if_pos rfl]
                exact hv
              · rename_i e
                have h0 := hrel.regs t x hx
                cases hd : oj.dst with
                | none => exact h0
                | some d =>
                  rw [vof_put (hdN d hd).2 (by rw [hrel.size, ← hN]; exact (hdN d hd).1), if_neg (fun e' => e (by rw [hd, e']))]
                  exact h0
            · have := hrel.size
              cases hd : oj.dst <;> simpa [Act.put] using this
            · have := hrel.dfr
              cases hd : oj.dst <;> simpa [Act.put] using this
          have ragree : ∀ t, t ∈ looksOf (ops.toList.map (·.dst)) oj → look t (stX (fun i => L.getD i false) s tr σ).regs = look t r := fun t ht => (agree t ht).trans (hr t).symm
          have htouch : touch r oj = touch (gF ((rT tr).take p) σ.regs) oj := touch_same fun t _ => hr t
          have hmem : ∀ (y : AV), evalQ c r (gF ((mT tr).take p) σ.mem) oj some = some y → evalQ c r (gL (fun i => L.getD i false) s (mT tr) σ.mem) oj some = some y := by
            intro y hy
            rw [← hy]
            refine (evalQ_congr (fun i hi => ?_) (fun i => ?_)).symm
            · rw [htouch] at hi
              refine (look_gL rfl fun q x hx hxi => ?_).symm
              obtain ⟨z, hz, rfl⟩ := mT_get hx
              have hzs : ∃ b up, z.e = some (i, b, up) := by
                cases he : z.e with
                | none => rw [he] at hxi; cases hxi
                | some q => obtain ⟨i', b, up⟩ := q; rw [he] at hxi; simp only [mE, Option.some.injEq] at hxi; subst hxi; exact ⟨b, up, rfl⟩
              obtain ⟨b, up, hze⟩ := hzs
              have hsome : z.e.isSome = true := by rw [hze]; rfl
              obtain ⟨u, hu, huq⟩ := eff_get hz hsome
              constructor
              · intro hqp
                rcases I.seg.un2 p q _ z i b up (seg_get hij) hp hz hqp hq hze with h | h
                · exact bit_before hb I.closed hij h hedge
                · exact absurd hi h
              · intro hLq
                rcases Nat.lt_or_ge q p with h | h
                · exact h
                · exfalso
                  have hne : q ≠ p := by
                    intro e; subst e
                    rw [hxp] at hz; cases hz
                    rw [hxe] at hze; cases hze
                  rcases I.seg.un1 p q _ u z i b up (seg_get hij) (seg_get hu) hz (by omega) hq hze with h | h
                  · have := bit_before hb I.closed hu h (fun e he hbe => I.closed (s + q) u.1 (itemsX_op hu).1 hLq e he hbe)
                    rw [hun] at this; cases this
                  · exact h hi
            · rw [gF_take_gL, capIn_gL_self I.seg.plain, capIn_gL_self I.seg.plain]
          have run : evalQ c r (gF ((mT tr).take p) σ.mem) oj some = some tr[p].y → oj.wpIn F n P a w (wpAnyIn F n P .any ops Q fuel (L.setIfInBounds (s + p) true)) Q := by
            intro he
            have E : Env P c g r (stX (fun i => L.getD i false) s tr σ).mem oj.op.operands.toList a w := { ev := env_ev (fun t ht x hx => I.rel.regs t x (by rw [ragree t (looks_of ht _)]; exact hx)) I.rel.glo C.glb, glo := I.rel.glo, mem := I.rel.mem, ts := C.ts, sp := C.sp, S := I.rel.S, blk := I.rel.blk, eqs := C.eqs }
            obtain ⟨y, hy, hqr⟩ := evalQ_ok (n := n) E hF (fun _ h => h) (hmem _ he)
            cases hy
            exact hqr _ _ fun v w' hbw hv => upd (I.rel.grow hbw) hv
          have skip : tr[p].y = .undef → wpAnyIn F n P .any ops Q fuel (L.setIfInBounds (s + p) true) (a.put oj.dst undef) w := fun he => upd I.rel (by rw [he]; rfl)
          unfold wpOpIn
          simp only [hoj]
          rcases hst with ⟨hg, he⟩ | ⟨i, want, d, hg, hd, hst⟩
          · rw [if_pos (by simp [Region.wanted, hg])]
            exact run he
          · have hag := ragree d (looks_guard hg hd)
            rcases hst with ⟨b, hb', hdN', hst⟩ | ⟨hu, he⟩
            · have hbv : a.tmps.getD d undef = .bool b := by
                have := I.rel.regs d _ (by rw [hag]; exact (lookT_some hb').2)
                rw [vof_lt (lookT_some hb').1] at this
                generalize a.tmps.getD d undef = u at this
                cases this; rfl
              have hwant : Region.wanted oj (yielded ops a.tmps) = (b == want) := by
                simp only [Region.wanted, hg, yielded_eq hd (by rw [I.rel.size, ← hN]; exact hdN'), hbv]
                cases b <;> cases want <;> rfl
              rcases hst with ⟨rfl, he⟩ | ⟨hne, he⟩
              · rw [if_pos (by rw [hwant]; simp)]
                exact run he
              · rw [if_neg (by rw [hwant]; simpa using hne)]
                exact ⟨about_wide hF, skip he⟩
            · have huv : a.tmps.getD d undef = undef := by
                have := I.rel.regs d .undef (by rw [hag]; exact (lookT_some hu).2)
                rw [vof_lt (lookT_some hu).1] at this
                exact this
              have hy : yielded ops a.tmps i = none := by
                by_cases hlt : d < a.tmps.size
                · rw [yielded_eq hd hlt, huv]; rfl
                · have h1 : (ops[i]?).bind (·.dst) = some d := by
                    simp only [List.getElem?_map, Array.getElem?_toList] at hd
                    cases h : ops[i]? with
                    | none => rw [h] at hd; simp at hd
                    | some o => rw [h] at hd; simp at hd; simpa using hd
                  unfold yielded
                  rw [h1]
                  simp [hlt]
              rw [if_neg (by simp [Region.wanted, hg, hy])]
              exact ⟨about_wide hF, skip he⟩
        | false =>
          obtain ⟨hlo, id, b, up, r, hxe, hr, heff⟩ := I.seg.stepW p _ tr[p] (seg_get hij) hxp hq
          simp only at hlo
          obtain ⟨hguard, -⟩ := hloj hlo
          have hord : ∀ q z, tr[q]? = some z → z.e.isSome = true → (q < p ↔ L.getD (s + q) false = true) := by
            intro q z hz he
            obtain ⟨u, hu, huq⟩ := eff_get hz he
            constructor
            · intro hqp
              exact before (by omega) hu (clX_b (.inr (.inr (by simp [huq, hq]))))
            · intro hLq
              rcases Nat.lt_or_ge q p with h | h
              · exact h
              · exfalso
                rcases Nat.lt_or_ge p q with h' | h'
                · rw [behind (by omega : s + p < s + q) hu (clX_b (.inr (.inr (by simp [huq, hq]))))] at hLq; cases hLq
                · have : q = p := by omega
                  subst this
                  rw [hun] at hLq; cases hLq
          have hsome : ∀ {z : TX} {d : Nat}, (mE z.e).1 = some d → z.e.isSome = true := by
            intro z d h
            cases he : z.e with
            | none => rw [he] at h; cases h
            | some q => rfl
          have husome : ∀ {z : TX}, uE z.e = true → z.e.isSome = true := by
            intro z h
            cases he : z.e with
            | none => rw [he] at h; cases h
            | some q => rfl
          have uT_get : ∀ {q : Nat}, (uT tr)[q]? = some true → ∃ z, tr[q]? = some z ∧ uE z.e = true := by
            intro q hx
            simp only [uT, List.getElem?_map] at hx
            cases h : tr[q]? with
            | none => rw [h] at hx; simp at hx
            | some z => rw [h] at hx; simp at hx; exact ⟨z, rfl, hx⟩
          have hM : gL (fun i => L.getD i false) s (mT tr) σ.mem = gF ((mT tr).take p) σ.mem := gL_list fun q x d hx hd => by
            obtain ⟨z, hz, rfl⟩ := mT_get hx
            exact hord q z hz (hsome hd)
          have hU : upL (fun i => L.getD i false) s (uT tr) σ.nx = upF ((uT tr).take p) σ.nx := upL_list fun q hx => by
            obtain ⟨z, hz, h1⟩ := uT_get hx
            exact hord q z hz (husome h1)
          have hord1 : ∀ q z, tr[q]? = some z → z.e.isSome = true → (q < p + 1 ↔ (L.setIfInBounds (s + p) true).getD (s + q) false = true) := by
            intro q z hz he
            by_cases e : q = p
            · subst e; simp [hLj]
            · rw [hLs (by omega), ← hord q z hz he]; omega
          have hM1 : gL (fun i => (L.setIfInBounds (s + p) true).getD i false) s (mT tr) σ.mem = (id, b) :: gF ((mT tr).take p) σ.mem := by
            have h1 : gL (fun i => (L.setIfInBounds (s + p) true).getD i false) s (mT tr) σ.mem = gF ((mT tr).take (p + 1)) σ.mem := gL_list fun q x d hx hd => by
              obtain ⟨z, hz, rfl⟩ := mT_get hx
              exact hord1 q z hz (hsome hd)
            rw [h1, gF_take_succ (x := (some id, b)) (by simp only [mT, List.getElem?_map, hxp, Option.map_some, hxe, mE])]
            rfl
          have hU1 : upL (fun i => (L.setIfInBounds (s + p) true).getD i false) s (uT tr) σ.nx = nxOf up (upF ((uT tr).take p) σ.nx) := by
            have h1 : upL (fun i => (L.setIfInBounds (s + p) true).getD i false) s (uT tr) σ.nx = upF ((uT tr).take (p + 1)) σ.nx := upL_list fun q hx => by
              obtain ⟨z, hz, h1⟩ := uT_get hx
              exact hord1 q z hz (husome h1)
            rw [h1, upF_take_succ (x := up) (by simp only [uT, List.getElem?_map, hxp, Option.map_some, hxe, uE])]
            cases up <;> rfl
          have heff' : effT c oj (stX (fun i => L.getD i false) s tr σ).regs (stX (fun i => L.getD i false) s tr σ).mem (stX (fun i => L.getD i false) s tr σ).nx = some (tr[p].y, id, b, up) := by
            rw [← heff]
            simp only [stX, hM, hU]
            exact effW_same fun t ht => (agree t (looks_of ht _)).trans (hr t).symm
          let σ1 : St := { regs := pushD oj.dst tr[p].y (stX (fun i => L.getD i false) s tr σ).regs, mem := (id, b) :: (stX (fun i => L.getD i false) s tr σ).mem, nx := nxOf up (stX (fun i => L.getD i false) s tr σ).nx }
          have fin : ∀ (g1 : Gh) (σ' : St) (a1 : Act) (w1 : World), (open Classical in if σ' = σ1 then some res else none) = some res → Rel P base w0 S0 N D sv g1 σ' a1 w1 → wpAnyIn F n P .any ops Q fuel (L.setIfInBounds (s + p) true) a1 w1 := fun g1 σ' a1 w1 hk h1 => by
            have e1 : σ' = σ1 := by
              by_cases e : σ' = σ1
              · exact e
              · simp only [if_neg e] at hk; cases hk
            subst e1
            exact next (h1.look_regs (fun t => by simp only [stX, regs1, σ1, look_pushD]) (by simp only [stX, hM1, σ1, hM]) (by simp only [stX, hU1, σ1, hU]))
          unfold wpOpIn
          simp only [hoj]
          rcases eff_cases (R := _) heff' with hst | hst
          · have hstep : stepOp H c true oj (stX (fun i => L.getD i false) s tr σ) (fun σ' => open Classical in if σ' = σ1 then some res else none) = some res := by
              rw [stepOp_W hq (hst H _), put_eq hdN]
              exact if_pos rfl
            exact guarded_ok hH I.rel C hN hF fin (dr := true) (kk := fun σ' => open Classical in if σ' = σ1 then some res else none) (by rw [hguard]; exact hstep)
          · rw [if_pos (by simp [Region.wanted, hguard])]
            exact stepU_ok I.rel C hN hF (k := fun σ' => open Classical in if σ' = σ1 then some res else none) fin (by rw [hst, put_eq hdN]; exact if_pos rfl)
      ·
        have hje : j = s + tr.length := by
          rcases Nat.lt_or_ge (s + tr.length) j with h | h
          · exfalso
            obtain ⟨u, hu⟩ : ∃ u, (itemsX c ops.toList)[s + tr.length]? = some u := by
              have : s + tr.length < (itemsX c ops.toList).length := by rw [itemsX_len]; omega
              exact ⟨_, List.getElem?_eq_getElem this⟩
            obtain ⟨h1, h2⟩ := I.seg.head u (seg_get hu)
            have := before h hu (clX_b (.inl (by simp [h1, h2])))
            have := I.high _ this
            omega
          · omega
        obtain ⟨hnq, hnl⟩ := I.seg.head _ (seg_get (by rw [← hje]; exact hij))
        simp only at hnq hnl
        have hallL : ∀ p, p < j → L.getD p false = true := fun p hp => by
          obtain ⟨u, hu⟩ : ∃ u, (itemsX c ops.toList)[p]? = some u := by
            have : p < (itemsX c ops.toList).length := by rw [itemsX_len]; omega
            exact ⟨_, List.getElem?_eq_getElem this⟩
          exact before hp hu (clX_b (.inr (.inl (by simp [hnq, hnl]))))
        have hrel : Rel P base w0 S0 N D sv g σe a w := I.full fun p hp => hallL p (by omega)
        obtain ⟨T, U, hrest⟩ := I.seg.rest
        rw [List.drop_drop, ← hje, drop_item hij] at hrest
        simp only [runX, hnq, hnl] at hrest
        rw [runOps_cons] at hrest
        unfold wpOpIn
        simp only [hoj]
        refine guarded_ok hH hrel C hN hF (fun g1 σ1 a1 w1 hk h1 => ?_) hrest
        simp only [runOps] at hk
        obtain ⟨tr1, σe1, S1, -, -⟩ := mkSegX _ _ _ _ _ hk
        refine ih (s := j + 1) (σ := σ1) (tr := tr1) (σe := σe1) (g := g1) ⟨by simp [I.size], hclosed', by omega, fun q hq => ?_, fun q hq => ?_, ?_, S1⟩ (by omega)
        · by_cases e : q = j
          · subst e; exact hLj
          · exact getD_set_true (hallL q (by omega))
        · by_cases e : q = j
          · omega
          · rw [hLs e] at hq; have := I.high q hq; omega
        · have none_done : ∀ q, (L.setIfInBounds j true).getD (j + 1 + q) false = true → False := by
            intro q hq
            rw [hLs (by omega)] at hq
            have := I.high _ hq
            omega
          refine h1.look_regs (fun t => ?_) ?_ ?_
          · simp only [stX]
            rw [look_gL (p := 0) (r' := σ1.regs) rfl (fun q x' _ _ => ⟨fun h => by omega, fun h => (none_done q h).elim⟩)]
            simp [gF]
          · simp only [stX]
            rw [gL_list (p := 0) (fun q x' d _ _ => ⟨fun h => by omega, fun h => (none_done q h).elim⟩)]
            simp [gF]
          · simp only [stX]
            rw [upL_list (p := 0) (fun q _ => ⟨fun h => by omega, fun h => (none_done q h).elim⟩)]
            simp [upF]
theorem regionX_ok {H : Hnd R} (hH : HndOK P H) (C : CfgOK P c) (hN : c.N = N) (hF : WideF F) (hm : P.follows .mixedOrders = true) (ho : orderX c ops.toList = true) (hK : ∀ g' σ' a' w', k σ' = some res → Rel P base w0 S0 N D sv g' σ' a' w' → Q .normal a' w') {id : Nat} (h : Rel P base w0 S0 N D sv g σ a w)
    (hs : runX H c (ops.toList.map (·.dst)) (itemsX c ops.toList) 0 [] [] σ k = some res) : (Code.region id ops true).wpIn F n P Q a w := by
  obtain ⟨tr, σe, S, -, -⟩ := mkSegX _ _ _ _ _ hs
  have hno : ∀ q, (Array.replicate ops.size false).getD (0 + q) false = true → False := by
    intro q hq
    by_cases h : q < ops.size <;> simp [h] at hq
  refine wpIn_region_any hm (any_okX hH C hN hF ho hK ops.size (s := 0) (σ := σ) (tr := tr) (σe := σe) (g := g) ⟨by simp, fun p o _ hp => ?_, Nat.zero_le _, fun p hp => by omega, fun p hp => ?_, ?_, by simpa using S⟩ (by simp [List.count_replicate]))
  · exact (hno p (by simpa using hp)).elim
  · exact (hno p (by simpa using hp)).elim
  · refine h.drawn.look_regs (fun t => ?_) ?_ ?_
    · simp only [stX]
      rw [look_gL (p := 0) (r' := σ.regs) rfl (fun q x' _ _ => ⟨fun h => by omega, fun h => (hno q h).elim⟩)]
      simp [gF]
    · simp only [stX]
      rw [gL_list (p := 0) (fun q x' d _ _ => ⟨fun h => by omega, fun h => (hno q h).elim⟩)]
      simp [gF]
    · simp only [stX]
      rw [upL_list (p := 0) (fun q _ => ⟨fun h => by omega, fun h => (hno q h).elim⟩)]
      simp [upF]
end
end Go.Eng
