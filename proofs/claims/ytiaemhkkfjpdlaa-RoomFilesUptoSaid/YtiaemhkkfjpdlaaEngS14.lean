import Derived.Test.YtiaemhkkfjpdlaaEngS13c
/- THE ENGINE, soundness, part 14: one operation. -/
set_option linter.unusedSimpArgs false
set_option linter.unusedVariables false
set_option linter.unnecessarySimpa false
namespace Go.Eng
open Go Go.RowKit

section
variable {P : Program} {F : Fence} {n : Nat} {c : Cfg} {g g' : Gh} {r : Regs} {m : Mem} {a : Act} {w w' : World} {o : Oper} {R : Type} {k : St → Option R} {res : R} {xs : List Operand}
variable {base : Nat} {w0 : World} {S0 : Nat → Prop} {N : Nat} {D : List Deferred} {sv : Nat → Value} {σ : St}

theorem viewAt_rows {x : At} {kk : At → Option R} (h : viewAt m x kk = some res) : (∃ y, kk y = some res) ∧ ∀ i ∈ ownsAt x, ∃ τ l, look i m = some (.row τ l) := by
  cases x <;> simp only [viewAt, reduceCtorEq] at h
  case own id =>
    simp only [listOf] at h
    split at h
    · rename_i τ l hl
      exact ⟨⟨_, h⟩, fun i hi => by simp [ownsAt] at hi; subst hi; exact ⟨τ, l, hl⟩⟩
    · simp at h
  case sub id off len =>
    simp only [listOf] at h
    split at h
    · rename_i τ l hl
      split at h
      · exact ⟨⟨_, h⟩, fun i hi => by simp [ownsAt] at hi; subst hi; exact ⟨τ, l, hl⟩⟩
      · simp at h
    · simp at h
  all_goals exact ⟨⟨_, h⟩, fun i hi => by simp [ownsAt] at hi⟩

theorem viewL_rows : ∀ {l : List At} {kk : List At → Option R}, viewL m l kk = some res → (∃ y, kk y = some res) ∧ ∀ i ∈ ownsL l, ∃ τ l, look i m = some (.row τ l)
  | [], kk, h => ⟨⟨_, h⟩, fun i hi => by simp [ownsL] at hi⟩
  | x :: l, kk, h => by
    simp only [viewL] at h
    obtain ⟨⟨y, h1⟩, h2⟩ := viewAt_rows h
    obtain ⟨⟨y', h3⟩, h4⟩ := viewL_rows h1
    refine ⟨⟨_, h3⟩, fun i hi => ?_⟩
    simp only [ownsL, List.mem_append] at hi
    rcases hi with hi | hi
    · exact h2 i hi
    · exact h4 i hi

theorem viewVs_rows : ∀ {l : List AV} {kk : List AV → Option R}, viewVs m l kk = some res → (∃ y, kk y = some res) ∧ ∀ i ∈ ownsVs l, ∃ τ l, look i m = some (.row τ l)
  | [], kk, h => ⟨⟨_, h⟩, fun i hi => by simp [ownsVs] at hi⟩
  | x :: l, kk, h => by
    simp only [viewVs] at h
    unfold viewV at h
    split at h
    · obtain ⟨⟨y, h1⟩, h2⟩ := viewAt_rows h
      obtain ⟨⟨y', h3⟩, h4⟩ := viewVs_rows h1
      refine ⟨⟨_, h3⟩, fun i hi => ?_⟩
      simp only [ownsVs, List.mem_append] at hi
      rcases hi with hi | hi
      · exact h2 i hi
      · exact h4 i hi
    · obtain ⟨⟨y, h1⟩, h2⟩ := viewL_rows h
      obtain ⟨⟨y', h3⟩, h4⟩ := viewVs_rows h1
      refine ⟨⟨_, h3⟩, fun i hi => ?_⟩
      simp only [ownsVs, List.mem_append] at hi
      rcases hi with hi | hi
      · exact h2 i hi
      · exact h4 i hi
    · simp at h

theorem stepCall_ok (h : Rel base w0 S0 N D sv g σ a w) (C : CfgOK P c) (hN : c.N = N) (hF : WideF F) {K : Act → World → Prop} {Q : Exit → Act → World → Prop} (hK : ∀ g' σ' a' w', k σ' = some res → Rel base w0 S0 N D sv g' σ' a' w' → K a' w') {f : Operand} {args : Array Operand} {ts : Array TypeId}
    (hop : o.op = .call { callee := .value f, args, argTypes := ts }) (hs : stepCall c o f args ts σ k = some res) : o.wpIn F n P a w K Q := by
  unfold stepCall at hs
  split at hs
  · rename_i nn as hn has
    split at hs
    · rename_i s hsp
      obtain ⟨y, hy, hcall⟩ := call_ok (n := n) (h.env C (f :: args.toList)) hF (by simp) (fun x hx => by simp [hx]) hop hn has hsp hs
      split at hy
      · rename_i hfl
        refine hcall K Q (fun q => q < w.heap.size) ⟨h.S, fun id b q _ hb hq => h.blk id b q hb hq⟩ (fun q h => h) fun v w' hb hv => ?_
        obtain ⟨σ2, hk, h2⟩ := (h.grow hb).put hN (x := y) (hv.flat hfl) hy
        exact hK _ _ _ _ hk h2
      · obtain ⟨g1, σ1, h1, hr, hle, hfr⟩ := h.freezeAll hy
        have hrows := (viewVs_rows hs).2
        refine hcall K Q g1.S ⟨hle.S, fun id b q hi hb hq => ?_⟩ hr.S fun v w' hb hv => ?_
        · obtain ⟨τ, l, hl⟩ := hrows id hi
          rcases hfr id τ l hl with hS | ⟨hn, _⟩
          · exact hS b q hb hq
          · exact absurd hi hn
        · obtain ⟨σ2, hk, h2⟩ := (hr.grow hb).put hN (x := y) (hv.mono (Holds.refl _ _) ⟨fun _ h => h, fun _ _ h => by cases h⟩) h1
          exact hK _ _ _ _ hk h2
    · simp at hs
  · simp at hs

theorem stepQ_ok (h : Rel base w0 S0 N D sv g σ a w) (C : CfgOK P c) (hN : c.N = N) (hF : WideF F) {K : Act → World → Prop} {Q : Exit → Act → World → Prop} (hK : ∀ g' σ' a' w', k σ' = some res → Rel base w0 S0 N D sv g' σ' a' w' → K a' w')
    (hs : evalQ c σ.regs σ.mem o (fun v => σ.put c o.dst v k) = some res) : o.wpIn F n P a w K Q := by
  obtain ⟨y, hy, hq⟩ := evalQ_ok (n := n) (h.env C o.op.operands.toList) hF (fun _ h => h) hs
  refine hq K Q fun v w' hb hv => ?_
  obtain ⟨σ2, hk, h2⟩ := (h.grow hb).put hN (x := y) hv hy
  exact hK _ _ _ _ hk h2

theorem stepW_ok (h : Rel base w0 S0 N D sv g σ a w) (C : CfgOK P c) (hN : c.N = N) (hF : WideF F) {K : Act → World → Prop} {Q : Exit → Act → World → Prop} (hK : ∀ g' σ' a' w', k σ' = some res → Rel base w0 S0 N D sv g' σ' a' w' → K a' w')
    (hs : stepW c o σ k = some res) : o.wpIn F n P a w K Q := by
  unfold stepW at hs
  split at hs
  · rename_i t hop
    split at hs
    · rename_i ti hti
      exact w_alloc h C hN hF hK hop hti hs
    · simp at hs
  · rename_i t x hop
    split at hs
    · rename_i v hv
      exact w_box h C hN hF hK hop hv hs
    · simp at hs
  · rename_i t q parts hop
    obtain ⟨g1, σ1, hs, h1, -, -⟩ := h.freezeAll hs
    split at hs
    · rename_i ag sz z τ e hti
      split at hs
      · rename_i te hte
        split at hs
        · rename_i cells hcells
          split at hcells
          · rename_i hsz
            obtain ⟨l, hl, hp⟩ := ocase_some hs
            exact w_buildSlice h1 C hN hF hK hop hti rfl hte (Nat.le_of_ble_eq_true hsz) hcells hl hp
          · simp at hcells
        · simp at hs
      · simp at hs
    · simp at hs
  · rename_i t x y hop
    split at hs
    · rename_i ag sz z τ e κ p κ' q hti hx hy
      split at hs
      · rename_i te hte
        rcases bcase_some hs with ⟨hb, hs⟩ | ⟨_, hs⟩
        · simp only [decide_eq_true_eq] at hb
          obtain ⟨hlim, hs⟩ := lcase_some hs
          obtain ⟨z0, hz0, hp⟩ := ocase_some hs
          exact w_makeSlice h C hN hF hK hop hti rfl hte hx hy hb.1 hb.2 hlim hz0 hp
        · simp at hs
      · simp at hs
    · simp at hs
  · rename_i t x y hop
    obtain ⟨g1, σ1, hs, h1, -, -⟩ := h.freezeAll hs
    split at hs
    · rename_i p v ti hp hv hti
      split at hs
      · rename_i hsz
        exact w_store h1 C hN hF hK hop hp hv hti hsz hs
      · simp at hs
    · simp at hs
  · rename_i t x hop
    split at hs
    · rename_i ag sz z s hti hx
      exact w_range h C hN hF hK hop hti rfl hx hs
    · simp at hs
  · rename_i x hop
    split at hs
    · rename_i px hx
      exact w_next h C hN hF hK hop hx hs
    · simp at hs
  · rename_i f p q hop
    split at hs
    · rename_i as bs has hbs
      split at hs
      · rename_i as1 bs1 ha1 hb1
        exact w_makeFunc h C hN hF hK hop has hbs ha1 hb1 hs
      · simp at hs
    · simp at hs
  · rename_i args argTypes hop
    split at hs
    · rename_i x y t t' hargs hts
      have e1 : args = #[x, y] := by apply Array.ext'; simpa using hargs
      have e2 : argTypes = #[t, t'] := by apply Array.ext'; simpa using hts
      subst e1; subst e2
      split at hs
      · rename_i ag sz z τ e hti htt
        have htt := Nat.eq_of_beq_eq_true htt
        subst htt
        split at hs
        · rename_i te px py hte hx hy
          exact w_append h C hN hF hK hop hti rfl hte hx hy hs
        · simp at hs
      · rename_i ag sz z τ e hti htt
        split at hs
        · rename_i ag1 sz1 z1 κ0 te px κ nn hti' hte hx hy
          obtain ⟨z0, hz0, hs⟩ := ocase_some hs
          exact w_appendMk h C hN hF hK hop hti rfl hte hti' rfl hx hy hz0 hs
        · simp at hs
      · simp at hs
    · simp at hs
  · rename_i args argTypes hop
    split at hs
    · rename_i x t hargs hts
      have e1 : args = #[x] := by apply Array.ext'; simpa using hargs
      have e2 : argTypes = #[t] := by apply Array.ext'; simpa using hts
      subst e1; subst e2
      split at hs
      · rename_i ag sz z τ e px hti hx
        exact w_cap h C hN hF hK hop hti rfl hx hs
      · simp at hs
    · simp at hs
  · rename_i args argTypes hop
    split at hs
    · rename_i x t hargs hts
      have e1 : args = #[x] := by apply Array.ext'; simpa using hargs
      have e2 : argTypes = #[t] := by apply Array.ext'; simpa using hts
      subst e1; subst e2
      split at hs
      · rename_i ag sz z τ e px hti hx
        split at hs
        · rename_i te hte
          exact w_clear h C hN hF hK hop hti rfl hte hx hs
        · simp at hs
      · simp at hs
    · simp at hs
  · rename_i args argTypes hop
    split at hs
    · rename_i x y t t' hargs hts
      have e1 : args = #[x, y] := by apply Array.ext'; simpa using hargs
      have e2 : argTypes = #[t, t'] := by apply Array.ext'; simpa using hts
      subst e1; subst e2
      split at hs
      · rename_i ag sz z τ e hti htt
        have htt := Nat.eq_of_beq_eq_true htt
        subst htt
        split at hs
        · rename_i id off len id2 off2 len2 hx hy
          exact w_copySS h C hN hF hK hop hti rfl hx hy hs
        · rename_i px py _ hx hy
          exact w_copy h C hN hF hK hop hti rfl hx hy hs
        · simp at hs
      · simp at hs
    · simp at hs
  · simp at hs

/-- A call whose callee runs in its place does what the handler says. -/
def HndOK (P : Program) (H : Hnd R) : Prop :=
  ∀ {base : Nat} {w0 : World} {S0 : Nat → Prop} {N : Nat} {D : List Deferred} {sv : Nat → Value} {g : Gh} {σ : St} {a : Act} {w : World} {res : R} {dst : Option Nat} {f : Nat} {as : List AV} {kk : AV → St → Option R} {vs : List Value},
    Rel base w0 S0 N D sv g σ a w → All2 (AVR g w) as vs → H dst f as σ kk = some res →
    (∀ args w, (callFunc f args).run P w = .ok (.enter f args) w) ∧ Calls P f vs.toArray w fun e w' => ∃ v x g' σ', e = .returned v ∧ kk x σ' = some res ∧ Rel base w0 S0 N D sv g' σ' a w' ∧ AVR g' w' x v

theorem run_callC {f : Operand} {args : Array Operand} {ts : Array TypeId} {nn : Nat} {fs cs : Array Value} (hop : o.op = .call { callee := .value f, args, argTypes := ts }) (hf : a.eval f = .func (.func nn) fs cs) (he : ∀ args w, (callFunc nn args).run P w = .ok (.enter nn args) w) :
    (execOp a.eval o).run P w = .ok (.enter nn (fs ++ args.map a.eval ++ cs)) w := by
  simp [execOp, hop, resolve, hf, Deferred.ofValue, invoke, he]

theorem ones_av {l : List At} {vs : List Value} (h : All2 (VA g w) l vs) : All2 (AVR g w) (l.map AV.one) vs := by
  induction h with
  | nil => exact .nil
  | cons h _ ih => exact .cons h ih

theorem own_block (h : Rel base w0 S0 N D sv g σ a w) {x : At} {v : Value} {i : Nat} {τ : Ty} {l : List τ.T} (hv : VA g w x v) (hi : ownsAt x = [i]) (hl : look i σ.mem = some (.row τ l)) (hne : 0 < l.length) :
    ∃ ad len cap, v = .slice ad len cap ∧ (len = 0 ∨ ∃ q of cs e b, ad = some ⟨q, of, none⟩ ∧ g.m i = some b ∧ b.blk = some q ∧ w.heap[q]? = some (.cells cs e (0, 0)) ∧ cs.size ≠ 0) := by
  obtain ⟨b, hm, hbr⟩ := h.mem i _ hl
  obtain ⟨g1, g2, g3⟩ := hbr
  rcases g3 with ⟨_, g3, _⟩ | ⟨q, cs, e, hb, hh, hcs, hl', ho, ha⟩
  · subst g3; simp at hne
  have hsz : cs.size ≠ 0 := by
    rw [hcs]
    exact Nat.mul_ne_zero (by omega) (by have := n_pos τ; omega)
  cases x <;> simp [ownsAt] at hi
  case own id =>
    subst hi
    cases hv with
    | own _ b' ad hm' hk h0 =>
      rw [hm] at hm'; cases hm'
      exact ⟨ad, _, _, rfl, .inr ⟨q, 0, cs, e, b, hk q hb, hm, hb, hh, hsz⟩⟩
  case sub id off len =>
    subst hi
    cases hv with
    | sub _ _ _ b' ad cc hm' hl2 hc hk =>
      rw [hm] at hm'; cases hm'
      refine ⟨ad, _, _, rfl, ?_⟩
      by_cases h0 : len = 0
      · exact .inl h0
      · obtain ⟨k', hk', had⟩ := hk (by omega)
        have : k' = q := by rw [hb] at hk'; exact (Option.some.inj hk').symm
        subst this
        exact .inr ⟨k', _, cs, e, b, had, hm, hb, hh, hsz⟩

theorem w_apart (h : Rel base w0 S0 N D sv g σ a w) (C : CfgOK P c) (hN : c.N = N) (hF : WideF F) {K : Act → World → Prop} {Q : Exit → Act → World → Prop} (hK : ∀ g' σ' a' w', k σ' = some res → Rel base w0 S0 N D sv g' σ' a' w' → K a' w') {f : Operand} {args : Array Operand} {ts : Array TypeId} {nn : Nat}
    (hop : o.op = .call { callee := .value f, args, argTypes := ts }) (hov : OvlOK P nn) (hfv : a.eval f = .func (.func nn) #[] #[]) {x y : At} (hal : All2 (AVR g w) [.v (.one x), .v (.one y)] (args.toList.map a.eval)) (hs : apart σ.mem x y (σ.put c o.dst (.one (.bool false)) k) = some res) : o.wpIn F n P a w K Q := by
  unfold apart at hs
  split at hs
  · rename_i i j hi hj
    split at hs
    · rename_i τ l τ' l' hij hl hl'
      rcases bcase_some hs with ⟨h1, hs⟩ | ⟨_, hs⟩
      rotate_left
      · simp at hs
      rcases bcase_some hs with ⟨h2, hs⟩ | ⟨_, hs⟩
      rotate_left
      · simp at hs
      have h1 : 0 < l.length := Nat.le_of_ble_eq_true h1
      have h2 : 0 < l'.length := Nat.le_of_ble_eq_true h2
      have hne : i ≠ j := fun e => by subst e; simp at hij
      generalize hargs : args.toList.map a.eval = vs at hal
      cases hal with
      | cons hv1 ht =>
        cases ht with
        | cons hv2 ht =>
          cases ht
          rename_i v1 v2
          obtain ⟨ad, len, cap, rfl, hc1⟩ := own_block h hv1 hi hl h1
          obtain ⟨ad2, len2, cap2, rfl, hc2⟩ := own_block h hv2 hj hl' h2
          have hrun := hov w ad ad2 len cap len2 cap2 (by
            rcases hc1 with hc1 | ⟨q, of, cs, e, b, e1, e2, e3, e4, e5⟩
            · exact .inl hc1
            · rcases hc2 with hc2 | ⟨q2, of2, cs2, e0, b2, f1, f2, f3, f4, f5⟩
              · exact .inr (.inl hc2)
              · refine .inr (.inr ⟨q, q2, of, of2, cs, cs2, e, e0, e1, f1, fun e9 => ?_, e4, f4, f5⟩)
                subst e9
                exact hne (h.inj i j _ _ b b2 q hl hl' rfl rfl e2 f2 e3 f3))
          have e : args.map a.eval = #[.slice ad len cap, .slice ad2 len2 cap2] := by
            apply Array.ext'; simpa using hargs
          obtain ⟨σ2, hk2, hr2⟩ := h.put (v := .bool false) hN (x := .one (.bool false)) (VA.bool _) hs
          refine wpIn_of_run hF (by simp [hop]) ?_ (hK _ _ _ _ hk2 hr2)
          simp [execOp, hop, resolve, hfv, Deferred.ofValue, invoke, e, hrun]
    · simp at hs
  · simp at hs

theorem stepInl_ok {H : Hnd R} (hH : HndOK P H) (h : Rel base w0 S0 N D sv g σ a w) (C : CfgOK P c) (hN : c.N = N) (hF : WideF F) {K : Act → World → Prop} {Q : Exit → Act → World → Prop} (hK : ∀ g' σ' a' w', k σ' = some res → Rel base w0 S0 N D sv g' σ' a' w' → K a' w') {f : Operand} {args : Array Operand} {ts : Array TypeId}
    (hop : o.op = .call { callee := .value f, args, argTypes := ts }) (hs : stepInl H c o f args ts σ k = some res) : o.wpIn F n P a w K Q := by
  have E := h.env C (f :: args.toList)
  unfold stepInl at hs
  split at hs
  · rename_i nn as hf has
    have hal := evArgs_ok E (fun x hx => by simp [hx]) has
    have hfv : a.eval f = .func (.func nn) #[] #[] := by
      have := E.evA (by simp) hf
      generalize a.eval f = u at this ⊢
      cases this; rfl
    split at hs
    · rename_i hov
      split at hs
      · rename_i x y
        exact w_apart h C hN hF hK hop (C.ovl _ hov) hfv hal hs
      · simp at hs
    obtain ⟨h1, h2⟩ := hH h hal hs
    have e : (args.toList.map a.eval).toArray = args.map a.eval := by apply Array.ext'; simp
    rw [e] at h2
    refine ⟨fun f _ => hF.fn f, ?_⟩
    rw [Oper.semAt_eq _ _ _ (by simp [hop]), run_call hop hfv h1]
    refine ⟨fun hd => (by rw [hF.depth] at hd; cases hd), ?_⟩
    refine (callsIn_of_calls hF h2).mono ?_
    rintro e w' ⟨v, x, g', σ', rfl, hk, hr, hv⟩
    obtain ⟨σ2, hk2, h3⟩ := hr.put hN hv hk
    exact hK _ _ _ _ hk2 h3
  · rename_i id as hf has
    split at hs
    · rename_i nn first capt hl
      have hal := evArgs_ok E (fun x hx => by simp [hx]) has
      obtain ⟨b, hm, fs, cs, hb, hfs, hcs⟩ := h.mem id _ hl
      have hfv : a.eval f = .func (.func nn) fs cs := by
        have := E.evA (by simp) hf
        generalize a.eval f = u at this ⊢
        cases this with
        | clo _ b' f' fs' cs' hm' hv' =>
          rw [hm] at hm'; cases hm'
          rw [hb] at hv'
          cases hv'; rfl
      obtain ⟨h1, h2⟩ := hH h ((ones_av hfs).append (hal.append (ones_av hcs))) hs
      have e : (fs.toList ++ (args.toList.map a.eval ++ cs.toList)).toArray = fs ++ args.map a.eval ++ cs := by apply Array.ext'; simp
      rw [e] at h2
      refine ⟨fun f _ => hF.fn f, ?_⟩
      rw [Oper.semAt_eq _ _ _ (by simp [hop]), run_callC hop hfv h1]
      refine ⟨fun hd => (by rw [hF.depth] at hd; cases hd), ?_⟩
      refine (callsIn_of_calls hF h2).mono ?_
      rintro e w' ⟨v, x, g', σ', rfl, hk, hr, hv⟩
      obtain ⟨σ2, hk2, h3⟩ := hr.put hN hv hk
      exact hK _ _ _ _ hk2 h3
    · simp at hs
  · simp at hs

theorem stepX_ok {H : Hnd R} (hH : HndOK P H) (h : Rel base w0 S0 N D sv g σ a w) (C : CfgOK P c) (hN : c.N = N) (hF : WideF F) {K : Act → World → Prop} {Q : Exit → Act → World → Prop} (hK : ∀ g' σ' a' w', k σ' = some res → Rel base w0 S0 N D sv g' σ' a' w' → K a' w')
    (hs : stepX H c o σ k = some res) : o.wpIn F n P a w K Q := by
  unfold stepX at hs
  split at hs
  · rename_i f args ts hop
    exact stepInl_ok hH h C hN hF hK hop hs
  · exact stepW_ok h C hN hF hK hs

theorem stepOp_ok {H : Hnd R} (hH : HndOK P H) (h : Rel base w0 S0 N D sv g σ a w) (C : CfgOK P c) (hN : c.N = N) (hF : WideF F) {K : Act → World → Prop} {Q : Exit → Act → World → Prop} (hK : ∀ g' σ' a' w', k σ' = some res → Rel base w0 S0 N D sv g' σ' a' w' → K a' w') {dr : Bool}
    (hs : stepOp H c dr o σ k = some res) : o.wpIn F n P a w K Q := by
  unfold stepOp at hs
  split at hs
  · rename_i f args ts hop
    split at hs
    · exact stepCall_ok h C hN hF hK hop hs
    · exact stepInl_ok hH h C hN hF hK hop hs
  · split at hs
    · exact stepQ_ok h C hN hF hK hs
    · exact stepX_ok hH h C hN hF hK hs

end
end Go.Eng
