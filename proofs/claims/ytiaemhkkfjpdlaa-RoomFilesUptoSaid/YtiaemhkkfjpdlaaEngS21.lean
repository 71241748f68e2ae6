import Derived.Test.YtiaemhkkfjpdlaaEngS20
/- THE ENGINE, soundness, part 21: a function. -/
set_option linter.unusedSimpArgs false
set_option linter.unusedVariables false
set_option linter.unnecessarySimpa false
namespace Go.Eng
open Go Go.RowKit

section
variable {P : Program} {F : Fence} {n : Nat} {c : Cfg} {g g' : Gh} {a : Act} {w w' : World} {R : Type} {res : R} {m : Mem}
variable {base : Nat} {w0 : World} {S0 : Nat → Prop} {N : Nat} {D : List Deferred} {sv : Nat → Value} {σ : St}

/-- What a caller sees at a return. -/
def outGh (S : Nat → Prop) (lo hi : Nat) : Gh := ⟨fun k => S k ∨ (lo ≤ k ∧ k < hi), fun _ => none⟩

theorem Rel.sees (h : Rel base w0 S0 N D sv g σ a w) {ids : List Nat} (hi : ∀ i ∈ ids, ∃ τ l, look i σ.mem = some (.row τ l)) : Sees g ids (outGh S0 base w.heap.size).S := by
  refine ⟨fun q hq => ?_, fun id b q hid hb hq => ?_⟩
  · rcases h.sub q hq with h' | h'
    · exact .inl h'
    · exact .inr ⟨h', h.S q hq⟩
  · obtain ⟨τ, l, hl⟩ := hi id hid
    exact .inr ⟨(h.own id _ b q hl rfl hb hq).1, h.blk id b q hb hq⟩

theorem resQ_ok (h : Rel base w0 S0 N D sv g σ a w) (C : CfgOK P c) : ∀ (l : List ResultVar) {k : List V1 → Option R}, resQ c σ l k = some res →
    ∃ ys vs, k ys = some res ∧ (l.mapM (fun | .tmp t => pure (a.tmps.getD t undef) | .cell x t => do loadVar t (← asAddr (a.tmps.getD x undef)) : ResultVar → Sem Value) : Sem (List Value)).run P w = .ok vs w ∧ All2 (V1R (outGh S0 base w.heap.size) w) ys vs
  | [], k, hs => ⟨[], [], hs, by simp, .nil⟩
  | .tmp t :: l, k, hs => by
    simp only [resQ] at hs
    split at hs
    · rename_i x hx
      have hv := h.regs t _ (lookT_some hx).2
      rw [vof_lt (lookT_some hx).1] at hv
      have hv2 : viewVs σ.mem [.v x] (fun l' => match l' with | [.v y] => resQ c σ l fun r => k (y :: r) | _ => none) = some res := by
        simp only [viewVs]
        rw [← hs]
        congr 1
        funext y
        cases y <;> rfl
      obtain ⟨⟨-, -⟩, hrow⟩ := viewVs_rows hv2
      obtain ⟨ys, hy, hyv⟩ := viewVs_ok h.mem (.cons hv .nil) (h.sees hrow) hv2
      cases hyv with
      | cons hy1 hy2 =>
        cases hy2
        rename_i y
        cases y with
        | v y =>
          simp only at hy
          obtain ⟨ys, vs, hk, hr, ha⟩ := resQ_ok h C l hy
          refine ⟨_, _, hk, ?_, .cons hy1 ha⟩
          simp only [List.mapM_cons, Sem.run_bind, Sem.run_pure, Result.andThen_ok, hr]
        | tup _ => simp at hy
        | undef => simp at hy
        | dead => simp at hy
    · simp at hs
  | .cell x t :: l, k, hs => by
    simp only [resQ] at hs
    split at hs
    · rename_i p ti hx hti
      have hv := h.regs x _ (lookT_some hx).2
      rw [vof_lt (lookT_some hx).1] at hv
      obtain ⟨i, d, T⟩ := C.ts t ti hti
      obtain ⟨cs, us, bk, of, hs1, hpv, hul, huc, hua⟩ := cellsAt_ok h.mem hv hs
      obtain ⟨⟨-, -⟩, hrow⟩ := viewL_rows hs1
      obtain ⟨cs', hy, hua'⟩ := viewL_ok h.mem hua (h.sees hrow) hs1
      split at hy
      · rename_i y' hof
        obtain ⟨ys, vs, hk, hr, ha⟩ := resQ_ok h C l hy
        obtain ⟨u, hld, hu⟩ := run_loadVar (P := P) (w := w) T (bk := bk) (of := of) hul huc hua' hof
        refine ⟨_, _, hk, ?_, .cons hu ha⟩
        have hpa : (asAddr (a.tmps.getD x undef)).run P w = .ok ⟨bk, of, none⟩ w := by rw [hpv]; simp [asAddr]
        simp only [List.mapM_cons, Sem.run_bind, Sem.run_pure, Result.andThen_ok, hr, hpa, hld]
      · simp at hy
    · simp at hs

theorem look_enum : ∀ {l : List AV} {i t : Nat} {x : AV}, look t (enumRegs i l) = some x → ∃ j, t = i + j ∧ l[j]? = some x
  | [], i, t, x, h => by simp [enumRegs, look] at h
  | y :: l, i, t, x, h => by
    simp only [enumRegs, look_cons] at h
    split at h
    · rename_i e; cases h; exact ⟨0, by omega, rfl⟩
    · obtain ⟨j, h1, h2⟩ := look_enum h
      exact ⟨j + 1, by omega, by simpa using h2⟩

theorem retQ_ok (h : Rel base w0 S0 N [] sv g σ a w) (C : CfgOK P c) {fn : Func} {Y : Type} {dec : AV → Option Y} {enc : Y → AV} (hdec : ∀ x y, dec x = some y → x = enc y) {y : Y} (hs : retQ c fn.results.toList dec σ = some y) :
    ∃ v, (results fn a.tmps).run P w = .ok v w ∧ AVR (outGh S0 base w.heap.size) w (enc y) v := by
  unfold retQ at hs
  obtain ⟨ys, vs, hk, hr, ha⟩ := resQ_ok h C fn.results.toList hs
  refine ⟨if h : vs.length = 1 then vs[0] else .tuple vs.toArray, ?_, ?_⟩
  · have he : (fn.results.mapM (fun | .tmp t => pure (a.tmps.getD t undef) | .cell x t => do loadVar t (← asAddr (a.tmps.getD x undef)) : ResultVar → Sem Value) : Sem (Array Value)).run P w = .ok vs.toArray w := by
      rw [Array.mapM_eq_mapM_toList, Sem.run_map, hr]
      rfl
    unfold results
    rw [Sem.run_bind]
    refine (congrArg (fun r : Result (Array Value) => r.andThen _) he).trans ?_
    simp only [Result.andThen_ok, Sem.run_pure, List.size_toArray]
    congr 1
  · have hlen := ha.length
    split at hk
    · rename_i x
      cases ha with
      | cons h1 h2 =>
        cases h2
        have := hdec _ _ hk
        rw [← this]
        rename_i b
        have e : (if h : [b].length = 1 then [b][0] else Value.tuple [b].toArray) = b := dif_pos rfl
        exact e.symm ▸ h1
    · rename_i hne
      have := hdec _ _ hk
      rw [← this]
      rw [dif_neg (fun e => ?_)]
      · exact ⟨vs, rfl, ha⟩
      · rw [e] at hlen
        obtain ⟨x, rfl⟩ := List.length_eq_one_iff.1 hlen
        exact hne x rfl

theorem wide_ok : WideF Fence.wide := ⟨fun _ => trivial, rfl, rfl⟩

theorem enters_of {f : Nat} {fn : Func} {body : Code} (hf : P.funcs[f]? = some fn) (hn : (fn.name == "runtime.NumGoroutine") = false) (hb : fn.body = some body) (args : Array Value) (w : World) : (callFunc f args).run P w = .ok (.enter f args) w := by
  have hn' : ¬ fn.name = "runtime.NumGoroutine" := by simpa using hn
  simp [callFunc, hf, hn', hb]

theorem look_shift {t : Nat} : ∀ {r : Regs}, look (t + OFF) (shiftR r) = look t r
  | [] => rfl
  | x :: r => by
    rw [shiftR, look_cons, look_cons]
    by_cases e : x.1 = t
    · rw [if_pos e, if_pos (by rw [e])]
    · rw [if_neg e, if_neg (by simp; omega), look_shift]

theorem look_shift_lt {t : Nat} (h : t < OFF) : ∀ {r : Regs}, look t (shiftR r) = none
  | [] => rfl
  | x :: r => by
    simp only [shiftR, look_cons]
    rw [if_neg (by omega), look_shift_lt h]

theorem look_unshift {t : Nat} : ∀ {r : Regs}, look t (unshiftR r) = look (t + OFF) r
  | [] => rfl
  | x :: r => by
    simp only [unshiftR]
    split
    · rename_i h
      have h := Nat.le_of_ble_eq_true h
      rw [look_cons, look_cons]
      by_cases e : x.1 = t + OFF
      · rw [if_pos e, if_pos (by omega)]
      · rw [if_neg e, if_neg (by omega), look_unshift]
    · rename_i h
      have h : ¬ OFF ≤ x.1 := fun e => by rw [Nat.ble_eq_true_of_le e] at h; cases h
      rw [look_cons, if_neg (by omega), look_unshift]

theorem look_app {α : Type} {t : Nat} {r' : List (Nat × α)} : ∀ {r : List (Nat × α)}, look t (r ++ r') = match look t r with | some x => some x | none => look t r'
  | [] => rfl
  | x :: r => by
    rw [List.cons_append, look_cons, look_cons]
    split
    · rfl
    · exact look_app

/-- A function's act at its entry. -/
def act0 (fn : Func) (vs : List Value) : Act := { tmps := vs.toArray ++ Array.replicate (fn.ntmps - vs.toArray.size) undef, defers := [] }

theorem act0_get {fn : Func} {vs : List Value} {t : Nat} {v : Value} (h : vs[t]? = some v) : (act0 fn vs).tmps.getD t undef = v := by
  have hlt : t < vs.length := (List.getElem?_eq_some_iff.1 h).1
  simp only [act0, Array.getD_eq_getD_getElem?]
  rw [Array.getElem?_append_left (by simpa using hlt)]
  simp [h]

/-- A callee that runs in its call's place, at its entry. -/
theorem Rel.enter (h : Rel base w0 S0 N D sv g σ a w) {fn : Func} {as : List AV} {vs : List Value} (hav : All2 (AVR g w) as vs) (hle : as.length ≤ fn.ntmps) (hoff : fn.ntmps ≤ OFF) :
    Rel base w0 S0 fn.ntmps [] (vof sv a) g { regs := enumRegs 0 as ++ shiftR σ.regs, mem := σ.mem, nx := σ.nx } (act0 fn vs) w := by
  refine { regs := fun t x hx => ?_, size := ?_, dfr := rfl, mem := h.mem, inj := h.inj, own := h.own, S := h.S, blk := h.blk, nx := h.nx, bel := h.bel, bs := h.bs, sub := h.sub }
  · rw [look_app] at hx
    cases he : look t (enumRegs 0 as) with
    | some y =>
      rw [he] at hx; cases hx
      obtain ⟨j, hj, hjx⟩ := look_enum he
      obtain ⟨v, hv, hvr⟩ := hav.get hjx
      simp at hj; subst hj
      have hlt : t < as.length := (List.getElem?_eq_some_iff.1 hjx).1
      rw [vof_lt (by omega), act0_get hv]; exact hvr
    | none =>
      rw [he] at hx
      by_cases ht : t < OFF
      · rw [look_shift_lt ht] at hx; cases hx
      · obtain ⟨u, rfl⟩ : ∃ u, t = u + OFF := ⟨t - OFF, by omega⟩
        simp only [look_shift] at hx
        have := h.regs u x hx
        unfold vof
        rw [if_neg (by omega), Nat.add_sub_cancel]
        exact this
  · have := hav.length; simp only [act0]; simp; omega

/-- Back in the caller. -/
theorem Rel.leave {N' : Nat} {D' : List Deferred} {a' : Act} (h0 : a.tmps.size = N) (hd : a.defers = D) (h : Rel base w0 S0 N' D' (vof sv a) g σ a' w) : Rel base w0 S0 N D sv g { regs := unshiftR σ.regs, mem := σ.mem, nx := σ.nx } a w := by
  refine { regs := fun t x hx => ?_, size := h0, dfr := hd, mem := h.mem, inj := h.inj, own := h.own, S := h.S, blk := h.blk, nx := h.nx, bel := h.bel, bs := h.bs, sub := h.sub }
  rw [look_unshift] at hx
  have := h.regs _ x hx
  unfold vof at this
  rw [if_neg (by omega), Nat.add_sub_cancel] at this
  exact this

theorem resI_ok (h : Rel base w0 S0 N D sv g σ a w) (C : CfgOK P c) : ∀ (l : List ResultVar) {k : List V1 → Option R}, resI c σ l k = some res →
    ∃ ys vs, k ys = some res ∧ (l.mapM (fun | .tmp t => pure (a.tmps.getD t undef) | .cell x t => do loadVar t (← asAddr (a.tmps.getD x undef)) : ResultVar → Sem Value) : Sem (List Value)).run P w = .ok vs w ∧ All2 (V1R g w) ys vs
  | [], k, hs => ⟨[], [], hs, by simp, .nil⟩
  | .tmp t :: l, k, hs => by
    simp only [resI] at hs
    split at hs
    · rename_i x hx
      have hv := h.regs t _ (lookT_some hx).2
      rw [vof_lt (lookT_some hx).1] at hv
      obtain ⟨ys, vs, hk, hr, ha⟩ := resI_ok h C l hs
      refine ⟨_, _, hk, ?_, .cons hv ha⟩
      simp only [List.mapM_cons, Sem.run_bind, Sem.run_pure, Result.andThen_ok, hr]
    · simp at hs
  | .cell x t :: l, k, hs => by
    simp only [resI] at hs
    split at hs
    · rename_i p ti hx hti
      have hv := h.regs x _ (lookT_some hx).2
      rw [vof_lt (lookT_some hx).1] at hv
      obtain ⟨i, d, T⟩ := C.ts t ti hti
      obtain ⟨cs, us, bk, of, hs1, hpv, hul, huc, hua⟩ := cellsAt_ok h.mem hv hs
      split at hs1
      · rename_i y' hof
        obtain ⟨ys, vs, hk, hr, ha⟩ := resI_ok h C l hs1
        obtain ⟨u, hld, hu⟩ := run_loadVar (P := P) (w := w) T (bk := bk) (of := of) hul huc hua hof
        refine ⟨_, _, hk, ?_, .cons hu ha⟩
        have hpa : (asAddr (a.tmps.getD x undef)).run P w = .ok ⟨bk, of, none⟩ w := by rw [hpv]; simp [asAddr]
        simp only [List.mapM_cons, Sem.run_bind, Sem.run_pure, Result.andThen_ok, hr, hpa, hld]
      · simp at hs1
    · simp at hs

/-- The value of a function's results. -/
theorem results_val {fn : Func} {vs : List Value} (hr : (fn.results.toList.mapM (fun | .tmp t => pure (a.tmps.getD t undef) | .cell x t => do loadVar t (← asAddr (a.tmps.getD x undef)) : ResultVar → Sem Value) : Sem (List Value)).run P w = .ok vs w) :
    (results fn a.tmps).run P w = .ok (if h : vs.length = 1 then vs[0] else .tuple vs.toArray) w := by
  have he : (fn.results.mapM (fun | .tmp t => pure (a.tmps.getD t undef) | .cell x t => do loadVar t (← asAddr (a.tmps.getD x undef)) : ResultVar → Sem Value) : Sem (Array Value)).run P w = .ok vs.toArray w := by
    rw [Array.mapM_eq_mapM_toList, Sem.run_map, hr]
    rfl
  unfold results
  rw [Sem.run_bind]
  refine (congrArg (fun r : Result (Array Value) => r.andThen _) he).trans ?_
  simp only [Result.andThen_ok, Sem.run_pure, List.size_toArray]
  congr 1

theorem mkRes_val {ys : List V1} {vs : List Value} (ha : All2 (V1R g w) ys vs) : AVR g w (mkRes ys) (if h : vs.length = 1 then vs[0] else .tuple vs.toArray) := by
  cases ha with
  | nil => exact ⟨[], rfl, .nil⟩
  | cons h1 h2 =>
    cases h2 with
    | nil => exact h1
    | cons h2 h3 =>
      rw [dif_neg (by simp)]
      exact ⟨_, rfl, .cons h1 (.cons h2 h3)⟩

/-- What is said of callees that run in their calls' places holds. -/
def SubsOK (P : Program) {R : Type} : Nat → List (Nat × Inl R) → Prop
  | 0, _ => True
  | d + 1, subs => ∀ t fid cfg lp body res subs', look t subs = some (.mk fid cfg lp body res subs') →
    (∃ fn, P.funcs[fid]? = some fn ∧ (fn.name == "runtime.NumGoroutine") = false ∧ fn.body = some body ∧ cfg.N = fn.ntmps ∧ fn.results.toList = res) ∧ CfgOK P cfg ∧ LoopsOK (hnd d subs') cfg lp body ∧ SubsOK P d subs'

theorem hnd_ok (hm : P.follows .mixedOrders = true) : ∀ (d : Nat) (subs : List (Nat × Inl R)), SubsOK P d subs → HndOK P (hnd d subs)
  | 0, subs, _ => by intro h hav hs; simp [hnd] at hs
  | d + 1, subs, hsub => by
    intro h hav hs
    rename_i base w0 S0 N D sv g σ a w res dst f as kk vs
    simp only [hnd] at hs
    split at hs
    · simp at hs
    · rename_i t
      split at hs
      · simp at hs
      · rename_i fid cfg lp body rs subs' hlk
        obtain ⟨⟨fn, hf, hnm, hb, hcN, hres⟩, C, hl, hsub'⟩ := hsub t fid cfg lp body rs subs' hlk
        split at hs
        · rename_i he hle hoff
          have he := Nat.eq_of_beq_eq_true he
          have hle := Nat.le_of_ble_eq_true hle
          have hoff := Nat.le_of_ble_eq_true hoff
          subst he
          rw [hcN] at hle hoff
          refine ⟨enters_of hf hnm hb, ?_⟩
          have hin := h.enter (fn := fn) hav hle hoff
          refine (callsIn_wide (n := 0)).1 (callsIn_of_wp hf hb trivial ?_)
          have fin : ∀ (e : Ex) (g' : Gh) (σ' : St) (a' : Act) (w' : World), resI cfg σ' rs (fun l => kk (mkRes l) { regs := unshiftR σ'.regs, mem := σ'.mem, nx := σ'.nx }) = some res → Rel base w0 S0 fn.ntmps [] (vof sv a) g' σ' a' w' →
              a'.defers = [] ∧ ∃ v, (results fn a'.tmps).run P w' = .ok v w' ∧ ∃ v' x g' σ', Ending.returned v = .returned v' ∧ kk x σ' = some res ∧ Rel base w0 S0 N D sv g' σ' a w' ∧ AVR g' w' x v' := by
            intro e g' σ' a' w' hk h'
            rw [← hres] at hk
            obtain ⟨ys, us, hk2, hr, ha⟩ := resI_ok h' C _ hk
            exact ⟨h'.dfr, _, results_val hr, _, _, g', _, rfl, hk2, h'.leave h.size h.dfr, mkRes_val ha⟩
          refine run_ok (hnd_ok hm d subs' hsub') C hcN wide_ok hm body hl hin (fun e g' σ' a' w' hk h' => ?_) hs
          cases e with
          | normal => exact fin .normal g' σ' a' w' hk h'
          | ret => exact fin .ret g' σ' a' w' hk h'
          | exit i => simp at hk
          | goto l => simp at hk
        · simp at hs

/-- A FUNCTION DOES WHAT ITS SPEC SAYS. -/
theorem specOK_of {f : Nat} {fn : Func} {body : Code} {s : Spec} {dec : AV → Option s.Y} (hf : P.funcs[f]? = some fn) (hn : (fn.name == "runtime.NumGoroutine") = false) (hb : fn.body = some body) (C : CfgOK P c) (hN : c.N = fn.ntmps) (hoff : fn.ntmps ≤ OFF) (hm : P.follows .mixedOrders = true)
    (hdec : ∀ x y, dec x = some y → x = s.enc y) (hlen : ∀ args x, s.pat args = some x → args.length ≤ fn.ntmps) {d : Nat} {subs : List (Nat × Inl s.Y)} (hsub : SubsOK P d subs) {lp : List (Nat × Hd s.Y)} (hl : LoopsOK (hnd d subs) c lp body)
    (hrun : ∀ args x y, s.pat args = some x → s.f x = some y → runFn (hnd d subs) c lp body fn.results.toList args dec = some y) : SpecOK P f s where
  enters := enters_of hf hn hb
  calls := by
    intro S w args vs x y hS hav hpat hfx
    have hr := hrun args x y hpat hfx
    have hal := hav.length
    have hsz := hlen args x hpat
    refine (callsIn_wide (n := 0)).1 (callsIn_of_wp hf hb trivial ?_)
    have hrel : Rel w.heap.size w S fn.ntmps [] (fun _ => undef) ⟨S, fun _ => none⟩ { regs := enumRegs 0 args, mem := [], nx := 0 } (act0 fn vs) w := by
      refine ⟨fun t x hx => ?_, ?_, rfl, fun id x h => by simp [look] at h, fun id id' x x' b b' q h => by simp [look] at h, fun id x b q h => by simp [look] at h, hS, fun id b q h => by simp at h, fun id b h => by simp at h, Below.refl _ _, Nat.le_refl _, fun q hq => .inl hq⟩
      · obtain ⟨j, hj, hjx⟩ := look_enum hx
        obtain ⟨v, hv, hvr⟩ := hav.get hjx
        simp at hj
        subst hj
        have hlt : t < args.length := (List.getElem?_eq_some_iff.1 hjx).1
        rw [vof_lt (by omega), act0_get hv]; exact hvr
      · simp only [act0]; simp; omega
    have fin : ∀ g' σ' (a' : Act) w', retQ c fn.results.toList dec σ' = some y → Rel w.heap.size w S fn.ntmps [] (fun _ => undef) g' σ' a' w' → a'.defers = [] ∧ ∃ v, (results fn a'.tmps).run P w' = .ok v w' ∧ ∃ u, Ending.returned v = .returned u ∧ Below w.heap.size w w' ∧ AVR ⟨fun k => S k ∨ (w.heap.size ≤ k ∧ k < w'.heap.size), fun _ => none⟩ w' (s.enc y) u := by
      intro g' σ' a' w' hk h'
      obtain ⟨v, hv, hvr⟩ := retQ_ok h' C hdec hk
      exact ⟨h'.dfr, v, hv, v, rfl, h'.bel, hvr⟩
    unfold runFn at hr
    refine run_ok (hnd_ok hm d subs hsub) C hN wide_ok hm body hl hrel (fun e g' σ' a' w' hk h' => ?_) hr
    cases e with
    | normal => exact fin g' σ' a' w' hk h'
    | ret => exact fin g' σ' a' w' hk h'
    | exit i => simp at hk
    | goto l => simp at hk

end
end Go.Eng
