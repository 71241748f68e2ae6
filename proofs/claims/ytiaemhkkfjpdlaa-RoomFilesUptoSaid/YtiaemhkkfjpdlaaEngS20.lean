import Derived.Test.YtiaemhkkfjpdlaaEngS19
import Derived.Scope
/- THE ENGINE, soundness, part 20: code. -/
set_option linter.unusedSimpArgs false
set_option linter.unusedVariables false
set_option linter.unnecessarySimpa false
namespace Go.Eng
open Go Go.RowKit

section
variable {P : Program} {F : Fence} {n : Nat} {c : Cfg} {g g' : Gh} {a : Act} {w w' : World} {R : Type} {res : R}
variable {base : Nat} {w0 : World} {S0 : Nat → Prop} {N : Nat} {D : List Deferred} {sv : Nat → Value} {σ : St}

theorem wpIn_scope {c : Code} {Q : Exit → Act → World → Prop} (h : c.wpIn F n P (Exit.noGoto Q) a w) : (Code.scope c).wpIn F n P Q a w := by
  intro b k cs hro hb hr
  have h0 : (lone (b.atR a (.code (.scope c) :: k)) cs w).fenced P F := fenced_calm hb hr rfl
  have st : step P (lone (b.atR a (.code (.scope c) :: k)) cs w) = .next (lone (b.atR a (.code c :: .inScope c :: k)) cs w) := step_lone_go (by simp [stepG, stepG.exec, Frame.atR])
  have st2 : ∀ a w, step P (lone (b.atR a (.inScope c :: k)) cs w) = .next (lone (b.atR a k) cs w) := fun a w => step_lone_go (by simp [stepG, stepG.exec, Frame.atR])
  obtain ⟨e, a₁, w₁, hq, harr⟩ := h b (.inScope c :: k) cs hro hb hr
  have hx : ∀ id, exitTo id (.inScope c :: k) = exitTo id k := fun id => by simp [exitTo]
  cases e with
  | normal => exact ⟨.normal, a₁, w₁, hq, .head h0 st (StepsIn.trans harr (.one (fenced_calm hb hr rfl) (st2 _ _)))⟩
  | exit id => exact ⟨.exit id, a₁, w₁, hq, fun k' hk => .head h0 st (harr.1 k' (by rw [hx]; exact hk)), fun hr' hk => let ⟨k₁, h1, h2⟩ := harr.2 hr' (by rw [hx]; exact hk); ⟨k₁, h1, .head h0 st h2⟩⟩
  | goto l => exact hq.elim
  | ret => exact ⟨_, a₁, w₁, hq, .of_steps (.one h0 st) harr⟩
  | panic ch => exact ⟨_, a₁, w₁, hq, .of_steps (.one h0 st) harr⟩
  | outgrown => exact ⟨_, a₁, w₁, hq, .of_steps (.one h0 st) harr⟩

def exOf : Ex → Exit
  | .normal => .normal
  | .exit i => .exit i
  | .goto l => .goto l
  | .ret => .ret

/-- The bodies of code's loops. -/
def loopsOf : Code → List Code
  | .seq x y => loopsOf x ++ loopsOf y
  | .cond _ x y => loopsOf x ++ loopsOf y
  | .block _ x => loopsOf x
  | .loop b => b :: loopsOf b
  | .scope b => loopsOf b
  | _ => []

/-- What is said of a loop: 'l' is the loop from a state 'st v'; 'sh' reads 'v' off a state. -/
structure LoopOK (H : Hnd R) (c : Cfg) (lp : List (Nat × Hd R)) (b : Code) (V : Type) (st : V → St) (sh : St → Option V) (l : Nat → V → (Ex → St → Option R) → Option R) (h : Hd R) : Prop where
  hd : ∃ q, ∀ σ K, h σ K = ocase (sh σ) fun v => l q v K
  eq : ∀ σ v, sh σ = some v → σ = st v
  zero : ∀ v K, l 0 v K = none
  succ : ∀ q v K, l (q + 1) v K = run H c lp b (st v) fun e σ' => match e with
    | .normal => keepIf (look (firstRegion b) c.loops) σ' fun σ'' => ocase (sh σ'') fun v => l q v K
    | .exit i => K (.exit i) σ'
    | .goto l => K (.goto l) σ'
    | .ret => K .ret σ'

/-- What is said of loops holds. -/
def LoopsOK (H : Hnd R) (c : Cfg) (lp : List (Nat × Hd R)) (code : Code) : Prop :=
  ∀ b, b ∈ loopsOf code → ∀ h, look (firstRegion b) lp = some h → ∃ V st sh l, LoopOK H c lp b V st sh l h

theorem LoopsOK.sub {H : Hnd R} {lp : List (Nat × Hd R)} {x y : Code} (h : LoopsOK H c lp x) (hs : ∀ b, b ∈ loopsOf y → b ∈ loopsOf x) : LoopsOK H c lp y := fun b hb => h b (hs b hb)

theorem exists_least {p : Nat → Prop} (h : ∃ n, p n) : ∃ m, p m ∧ ∀ q, p q → m ≤ q := by
  obtain ⟨n, hn⟩ := h
  induction n using Nat.strongRecOn with
  | _ n ih =>
    by_cases h : ∃ q, q < n ∧ p q
    · obtain ⟨q, h1, h2⟩ := h; exact ih q h1 h2
    · refine ⟨n, hn, fun q hq => ?_⟩
      rcases Nat.lt_or_ge q n with h' | h'
      · exact (h ⟨q, h', hq⟩).elim
      · exact h'

open Classical in
noncomputable def least (p : Nat → Prop) : Nat := if h : ∃ n, p n then Classical.choose (exists_least h) else 0
theorem least_spec {p : Nat → Prop} (h : ∃ n, p n) : p (least p) := by
  unfold least
  rw [dif_pos h]
  exact (Classical.choose_spec (exists_least h)).1
theorem least_le {p : Nat → Prop} {q : Nat} (h : p q) : least p ≤ q := by
  unfold least
  rw [dif_pos ⟨q, h⟩]
  exact (Classical.choose_spec (exists_least ⟨q, h⟩)).2 q h

theorem run_ok {H : Hnd R} (hH : HndOK P H) (C : CfgOK P c) (hN : c.N = N) (hF : WideF F) (hm : P.follows .mixedOrders = true) {lp : List (Nat × Hd R)} : ∀ (code : Code), LoopsOK H c lp code → ∀ {Q : Exit → Act → World → Prop} {σ : St} {K : Ex → St → Option R} {g : Gh} {a : Act} {w : World}, Rel base w0 S0 N D sv g σ a w →
    (∀ e g' σ' a' w', K e σ' = some res → Rel base w0 S0 N D sv g' σ' a' w' → Q (exOf e) a' w') → run H c lp code σ K = some res → code.wpIn F n P Q a w := by
  intro code
  induction code with
  | skip => intro _ Q σ K g a w h hK hs; exact wpIn_skip (hK .normal _ _ _ _ hs h)
  | region id ops draw =>
    intro _ Q σ K g a w h hK hs
    unfold run at hs
    split at hs
    · exact region_ok hH C hN hF (fun g' σ' a' w' hk h' => hK .normal _ _ _ _ hk h') h hs
    · split at hs
      · rename_i ho
        exact regionDraw_ok hH C hN hF hm ho (fun g' σ' a' w' hk h' => hK .normal _ _ _ _ hk h') h hs
      · simp at hs
  | seq x y ihx ihy =>
    intro hl Q σ K g a w h hK hs
    simp only [run] at hs
    refine wpIn_seq (ihx (hl.sub fun b hb => by simp [loopsOf, hb]) h (fun e g' σ' a' w' hk h' => ?_) hs)
    cases e with
    | normal =>
      obtain ⟨g2, σ2, hs2, h2⟩ := keepIf_ok hk h'
      exact ihy (hl.sub fun b hb => by simp [loopsOf, hb]) h2 hK hs2
    | exit i => exact hK (.exit i) _ _ _ _ hk h'
    | goto l => exact hK (.goto l) _ _ _ _ hk h'
    | ret => exact hK .ret _ _ _ _ hk h'
  | cond x y z ihy ihz =>
    intro hl Q σ K g a w h hK hs
    simp only [run] at hs
    split at hs
    · rename_i t ht
      have hv : a.eval x = .bool t := by
        have := (h.env C [x]).ev x (by simp) _ _ ht
        generalize a.eval x = u at this
        cases this; rfl
      rcases bcase_some hs with ⟨rfl, hs⟩ | ⟨rfl, hs⟩
      · exact wpIn_cond_true hv (ihy (hl.sub fun b hb => by simp [loopsOf, hb]) h hK hs)
      · exact wpIn_cond_false hv (ihz (hl.sub fun b hb => by simp [loopsOf, hb]) h hK hs)
    · simp at hs
  | block id x ih =>
    intro hl Q σ K g a w h hK hs
    simp only [run] at hs
    refine wpIn_block (ih (hl.sub fun b hb => by simpa [loopsOf] using hb) h (fun e g' σ' a' w' hk h' => ?_) hs)
    cases e with
    | normal =>
      obtain ⟨g2, σ2, hs2, h2⟩ := keepIf_ok hk h'
      exact hK .normal _ _ _ _ hs2 h2
    | exit i =>
      simp only [exOf, Exit.inBlock]
      simp only at hk
      split at hk
      · rename_i hi
        have := Nat.eq_of_beq_eq_true hi
        rw [if_pos this]
        exact hK .normal _ _ _ _ hk h'
      · rename_i hi
        rw [if_neg (fun e => by subst e; simp at hi)]
        exact hK (.exit i) _ _ _ _ hk h'
    | goto l => exact hK (.goto l) _ _ _ _ hk h'
    | ret => exact hK .ret _ _ _ _ hk h'
  | loop b ih =>
    intro hl Q σ K g a w h hK hs
    simp only [run] at hs
    obtain ⟨g1, σ1, hs1, h1⟩ := keepIf_ok hs h
    have hlb : LoopsOK H c lp b := hl.sub fun b' hb => by simp [loopsOf, hb]
    split at hs1
    · rename_i hd hhd
      obtain ⟨V, st, sh, l, L⟩ := hl b (by simp [loopsOf]) hd hhd
      obtain ⟨q, hq⟩ := L.hd
      rw [hq] at hs1
      obtain ⟨v, hv, hs2⟩ := ocase_some hs1
      rw [L.eq _ _ hv] at h1
      have main : ∀ (a : Act) (w : World), (∃ q v g, l q v K = some res ∧ Rel base w0 S0 N D sv g (st v) a w) → b.wpIn F n P (Exit.then (fun a' w' => (∃ q v g, l q v K = some res ∧ Rel base w0 S0 N D sv g (st v) a' w') ∧
          least (fun q => ∃ v g, l q v K = some res ∧ Rel base w0 S0 N D sv g (st v) a' w') < least (fun q => ∃ v g, l q v K = some res ∧ Rel base w0 S0 N D sv g (st v) a w)) Q) a w := by
        intro a w hI
        obtain ⟨v2, g2, hq, h2⟩ := least_spec hI
        generalize least (fun q => ∃ v g, l q v K = some res ∧ Rel base w0 S0 N D sv g (st v) a w) = q at hq
        cases q with
        | zero => rw [L.zero] at hq; cases hq
        | succ q =>
          rw [L.succ] at hq
          refine ih hlb h2 (fun e g' σ' a' w' hk h' => ?_) hq
          cases e with
          | normal =>
            obtain ⟨g3, σ3, hs3, h3⟩ := keepIf_ok hk h'
            obtain ⟨v3, hv3, hs4⟩ := ocase_some hs3
            rw [L.eq _ _ hv3] at h3
            exact ⟨⟨q, v3, g3, hs4, h3⟩, Nat.lt_succ_of_le (least_le ⟨v3, g3, hs4, h3⟩)⟩
          | exit i => exact hK (.exit i) _ _ _ _ hk h'
          | goto l => exact hK (.goto l) _ _ _ _ hk h'
          | ret => exact hK .ret _ _ _ _ hk h'
      exact wpIn_loop (fun a w => ∃ q v g, l q v K = some res ∧ Rel base w0 S0 N D sv g (st v) a w) (fun a w => least fun q => ∃ v g, l q v K = some res ∧ Rel base w0 S0 N D sv g (st v) a w) ⟨q, v, g1, hs2, h1⟩ main
    · have main : ∀ (a : Act) (w : World), (∃ q g σ, loopN (run H c lp b) (look (firstRegion b) c.loops) q σ K = some res ∧ Rel base w0 S0 N D sv g σ a w) → b.wpIn F n P (Exit.then (fun a' w' => (∃ q g σ, loopN (run H c lp b) (look (firstRegion b) c.loops) q σ K = some res ∧ Rel base w0 S0 N D sv g σ a' w') ∧
          least (fun q => ∃ g σ, loopN (run H c lp b) (look (firstRegion b) c.loops) q σ K = some res ∧ Rel base w0 S0 N D sv g σ a' w') < least (fun q => ∃ g σ, loopN (run H c lp b) (look (firstRegion b) c.loops) q σ K = some res ∧ Rel base w0 S0 N D sv g σ a w)) Q) a w := by
        intro a w hI
        obtain ⟨g2, σ2, hq, h2⟩ := least_spec hI
        generalize least (fun q => ∃ g σ, loopN (run H c lp b) (look (firstRegion b) c.loops) q σ K = some res ∧ Rel base w0 S0 N D sv g σ a w) = q at hq
        cases q with
        | zero => simp [loopN] at hq
        | succ q =>
          simp only [loopN] at hq
          refine ih hlb h2 (fun e g' σ' a' w' hk h' => ?_) hq
          cases e with
          | normal =>
            obtain ⟨g3, σ3, hs3, h3⟩ := keepIf_ok hk h'
            exact ⟨⟨q, g3, σ3, hs3, h3⟩, Nat.lt_succ_of_le (least_le ⟨g3, σ3, hs3, h3⟩)⟩
          | exit i => exact hK (.exit i) _ _ _ _ hk h'
          | goto l => exact hK (.goto l) _ _ _ _ hk h'
          | ret => exact hK .ret _ _ _ _ hk h'
      exact wpIn_loop (fun a w => ∃ q g σ, loopN (run H c lp b) (look (firstRegion b) c.loops) q σ K = some res ∧ Rel base w0 S0 N D sv g σ a w) (fun a w => least fun q => ∃ g σ, loopN (run H c lp b) (look (firstRegion b) c.loops) q σ K = some res ∧ Rel base w0 S0 N D sv g σ a w) ⟨_, g1, σ1, hs1, h1⟩ main
  | exit i =>
    intro _ Q σ K g a w h hK hs
    simp only [run] at hs
    obtain ⟨g1, σ1, hs1, h1⟩ := keepIf_ok hs h
    exact wpIn_exit (hK (.exit i) _ _ _ _ hs1 h1)
  | scope b ih =>
    intro hl Q σ K g a w h hK hs
    simp only [run] at hs
    refine wpIn_scope (ih (hl.sub fun b' hb => by simpa [loopsOf] using hb) h (fun e g' σ' a' w' hk h' => ?_) hs)
    cases e with
    | normal => exact hK .normal _ _ _ _ hk h'
    | exit i => exact hK (.exit i) _ _ _ _ hk h'
    | goto l => simp at hk
    | ret => exact hK .ret _ _ _ _ hk h'
  | label l => intro _ Q σ K g a w h hK hs; exact wpIn_label (hK .normal _ _ _ _ hs h)
  | ret =>
    intro _ Q σ K g a w h hK hs
    simp only [run] at hs
    obtain ⟨g1, σ1, hs1, h1⟩ := keepIf_ok hs h
    exact wpIn_ret (hK .ret _ _ _ _ hs1 h1)
  | _ => intros; rename_i hs; simp [run] at hs

end
end Go.Eng
