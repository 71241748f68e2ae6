import Derived.Test.YtiaemhkkfjpdlaaEngS15
/- THE ENGINE, soundness, part 16: a region whose operations come in the text's order. -/
set_option linter.unusedSimpArgs false
set_option linter.unusedVariables false
set_option linter.unnecessarySimpa false
namespace Go.Eng
open Go Go.RowKit

section
variable {P : Program} {F : Fence} {n : Nat} {c : Cfg} {g g' : Gh} {r : Regs} {m : Mem} {a : Act} {w w' : World} {o : Oper} {R : Type} {k : St → Option R} {res : R} {xs : List Operand}
variable {base : Nat} {w0 : World} {S0 : Nat → Prop} {N : Nat} {D : List Deferred} {sv : Nat → Value} {σ : St} {ops : Array Oper} {Q : Exit → Act → World → Prop}

theorem about_wide (hF : WideF F) : ∀ f, o.about P w a.eval = some f → F.fn f := fun f _ => hF.fn f

/-- What a register says of the operation that it guards. -/
theorem yielded_eq {j d : Nat} (hj : (ops.toList.map (·.dst))[j]? = some (some d)) (hd : d < a.tmps.size) : yielded ops a.tmps j = match a.tmps.getD d undef with | .bool b => some b | _ => none := by
  have h1 : (ops[j]?).bind (·.dst) = some d := by
    simp only [List.getElem?_map, Array.getElem?_toList] at hj
    cases h : ops[j]? with
    | none => rw [h] at hj; simp at hj
    | some o => rw [h] at hj; simp at hj; simpa using hj
  unfold yielded
  rw [h1]
  simp [hd]
  cases a.tmps[d] <;> rfl

theorem put_lt {dst : Nat} {x : AV} {σ : St} {kk : St → Option R} (h : σ.put c (some dst) x kk = some res) : dst < c.N ∧ dst < OFF ∧ kk { regs := (dst, x) :: σ.regs, mem := σ.mem, nx := σ.nx } = some res := by
  unfold St.put at h
  simp only at h
  split at h
  · rename_i hd
    split at h
    · rename_i ho
      exact ⟨Nat.le_of_ble_eq_true hd, Nat.le_of_ble_eq_true ho, h⟩
    · simp at h
  · simp at h

/-- A register that is known is said again. -/
theorem Rel.again (h : Rel base w0 S0 N D sv g σ a w) {d : Nat} {x : AV} (hx : look d σ.regs = some x) : Rel base w0 S0 N D sv g { regs := (d, x) :: σ.regs, mem := σ.mem, nx := σ.nx } a w :=
  have hr : ∀ t y, look t ((d, x) :: σ.regs) = some y → AVR g w y (vof sv a t) := by
    intro t y hy
    simp only [look_cons] at hy
    split at hy
    · rename_i e; subst e; cases hy; exact h.regs _ _ hx
    · exact h.regs t y hy
  { h with regs := hr }

/-- One operation of a region, guarded or not. -/
theorem guarded_ok {H : Hnd R} (hH : HndOK P H) (h : Rel base w0 S0 N D sv g σ a w) (C : CfgOK P c) (hN : c.N = N) (hF : WideF F) {K : Act → World → Prop} {dr : Bool} {kk : St → Option R} (hK : ∀ g' σ' a' w', kk σ' = some res → Rel base w0 S0 N D sv g' σ' a' w' → K a' w')
    (hs : (match o.guard with
    | none => stepOp H c dr o σ kk
    | some (j, want) => match (ops.toList.map (·.dst))[j]? with
      | some (some d) => match lookT d σ.regs with
        | some (.v (.one (.bool b))) => bcase b
            (σ.put c (some d) (.one (.bool true)) fun σ' => match want with
              | true => stepOp H c dr o σ' kk
              | false => σ'.put c o.dst .undef kk)
            (σ.put c (some d) (.one (.bool false)) fun σ' => match want with
              | true => σ'.put c o.dst .undef kk
              | false => stepOp H c dr o σ' kk)
        | some .undef => σ.put c o.dst .undef kk
        | _ => none
      | _ => none) = some res) :
    if Region.wanted o (yielded ops a.tmps) then o.wpIn F n P a w K Q else (∀ f, o.about P w a.eval = some f → F.fn f) ∧ K (a.put o.dst undef) w := by
  split at hs
  · rename_i hg
    rw [if_pos (by simp [Region.wanted, hg])]
    exact stepOp_ok hH h C hN hF hK hs
  · rename_i j want hg
    have skip : ∀ {σ1 : St}, Rel base w0 S0 N D sv g σ1 a w → σ1.put c o.dst .undef kk = some res → Region.wanted o (yielded ops a.tmps) = false → if Region.wanted o (yielded ops a.tmps) then o.wpIn F n P a w K Q else (∀ f, o.about P w a.eval = some f → F.fn f) ∧ K (a.put o.dst undef) w := by
      intro σ1 h1 hp hw
      rw [if_neg (by simp [hw])]
      obtain ⟨σ2, hk, h2⟩ := h1.put (v := undef) hN (x := .undef) rfl hp
      exact ⟨about_wide hF, hK _ _ _ _ hk h2⟩
    split at hs
    · rename_i d hd
      split at hs
      · rename_i b hb
        have hbv : a.tmps.getD d undef = .bool b := by
          have := h.regs d _ (lookT_some hb).2
          rw [vof_lt (lookT_some hb).1] at this
          generalize a.tmps.getD d undef = u at this
          cases this; rfl
        have hlt : d < c.N := by
          rcases bcase_some hs with ⟨_, hs⟩ | ⟨_, hs⟩ <;> exact (put_lt hs).1
        have hwant : Region.wanted o (yielded ops a.tmps) = (b == want) := by
          simp only [Region.wanted, hg, yielded_eq hd (by rw [h.size]; omega), hbv]
          cases b <;> cases want <;> rfl
        rcases bcase_some hs with ⟨rfl, hs1⟩ | ⟨rfl, hs1⟩
        · obtain ⟨-, -, hs2⟩ := put_lt hs1
          have h1 := h.again (lookT_some hb).2
          cases want
          · exact skip h1 hs2 (by rw [hwant]; rfl)
          · rw [if_pos (by rw [hwant]; rfl)]
            exact stepOp_ok hH h1 C hN hF hK hs2
        · obtain ⟨-, -, hs2⟩ := put_lt hs1
          have h1 := h.again (lookT_some hb).2
          cases want
          · rw [if_pos (by rw [hwant]; rfl)]
            exact stepOp_ok hH h1 C hN hF hK hs2
          · exact skip h1 hs2 (by rw [hwant]; rfl)
      · rename_i hu
        refine skip h hs ?_
        have huv : a.tmps.getD d undef = undef := by
          have := h.regs d _ (lookT_some hu).2
          rw [vof_lt (lookT_some hu).1] at this
          exact this
        have : yielded ops a.tmps j = none := by
          by_cases hlt : d < a.tmps.size
          · rw [yielded_eq hd hlt, huv]; rfl
          · have h1 : (ops[j]?).bind (·.dst) = some d := by
              simp only [List.getElem?_map, Array.getElem?_toList] at hd
              cases h : ops[j]? with
              | none => rw [h] at hd; simp at hd
              | some o => rw [h] at hd; simp at hd; simpa using hd
            unfold yielded
            rw [h1]
            simp [hlt]
        simp [Region.wanted, hg, this]
      · simp at hs
    · simp at hs

theorem runOps_cons {H : Hnd R} {dr : Bool} {ds : List (Option Nat)} {l : List Oper} : runOps H c dr ds (o :: l) σ k = (match o.guard with
    | none => stepOp H c dr o σ (fun σ' => runOps H c dr ds l σ' k)
    | some (j, want) => match ds[j]? with
      | some (some d) => match lookT d σ.regs with
        | some (.v (.one (.bool b))) => bcase b
            (σ.put c (some d) (.one (.bool true)) fun σ' => match want with
              | true => stepOp H c dr o σ' (fun σ' => runOps H c dr ds l σ' k)
              | false => σ'.put c o.dst .undef (fun σ' => runOps H c dr ds l σ' k))
            (σ.put c (some d) (.one (.bool false)) fun σ' => match want with
              | true => σ'.put c o.dst .undef (fun σ' => runOps H c dr ds l σ' k)
              | false => stepOp H c dr o σ' (fun σ' => runOps H c dr ds l σ' k))
        | some .undef => σ.put c o.dst .undef (fun σ' => runOps H c dr ds l σ' k)
        | _ => none
      | _ => none) := rfl

theorem runOps_ok {H : Hnd R} (hH : HndOK P H) (C : CfgOK P c) (hN : c.N = N) (hF : WideF F) (hK : ∀ g' σ' a' w', k σ' = some res → Rel base w0 S0 N D sv g' σ' a' w' → Q .normal a' w') : ∀ (l : List Oper) (i : Nat) {g : Gh} {σ : St} {a : Act} {w : World}, ops.toList.drop i = l → Rel base w0 S0 N D sv g σ a w →
    runOps H c false (ops.toList.map (·.dst)) l σ k = some res → wpOpsIn F n P ops Q (List.range' i l.length) a w
  | [], i, g, σ, a, w, _, h, hs => hK g σ a w hs h
  | o :: l, i, g, σ, a, w, hd, h, hs => by
    have ho : ops[i]? = some o := by
      have : (ops.toList.drop i)[0]? = some o := by rw [hd]; rfl
      simpa using this
    have hd' : ops.toList.drop (i + 1) = l := by
      have : (ops.toList.drop i).drop 1 = l := by rw [hd]; rfl
      rwa [List.drop_drop] at this
    rw [List.length_cons, List.range'_succ]
    simp only [wpOpsIn, ho]
    rw [runOps_cons] at hs
    exact guarded_ok hH h C hN hF (fun g' σ' a' w' hk h' => runOps_ok hH C hN hF hK l (i + 1) hd' h' hk) hs

theorem region_ok {H : Hnd R} (hH : HndOK P H) (C : CfgOK P c) (hN : c.N = N) (hF : WideF F) (hK : ∀ g' σ' a' w', k σ' = some res → Rel base w0 S0 N D sv g' σ' a' w' → Q .normal a' w') {id : Nat} (h : Rel base w0 S0 N D sv g σ a w)
    (hs : runOps H c false (ops.toList.map (·.dst)) ops.toList σ k = some res) : (Code.region id ops false).wpIn F n P Q a w := by
  refine wpIn_region ?_
  have := runOps_ok (n := n) hH C hN hF hK ops.toList 0 (by simp) h hs
  rw [List.range_eq_range']
  simpa using this

end
end Go.Eng
