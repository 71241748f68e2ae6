import Derived.Test.YtiaemhkkfjpdlaaEngS18
/- THE ENGINE, soundness, part 19: what is kept where ways meet. -/
set_option linter.unusedSimpArgs false
set_option linter.unusedVariables false
set_option linter.unnecessarySimpa false
namespace Go.Eng
open Go Go.RowKit

section
variable {P : Program} {F : Fence} {n : Nat} {c : Cfg} {g g' : Gh} {r : Regs} {m : Mem} {a : Act} {w w' : World} {o : Oper} {R : Type} {k : St → Option R} {res : R} {xs : List Operand}
variable {base : Nat} {w0 : World} {S0 : Nat → Prop} {N : Nat} {D : List Deferred} {sv : Nat → Value} {σ : St} {ops : Array Oper} {Q : Exit → Act → World → Prop} {ids : List Nat}

/-- What is known of some of the blocks alone. -/
def Gh.only (g : Gh) (ids : List Nat) : Gh := { S := g.S, m := fun i => if i ∈ ids then g.m i else none }

theorem Gh.only_get {id : Nat} {b : Gb} (h : id ∈ ids) (hm : g.m id = some b) : (g.only ids).m id = some b := by
  show (if id ∈ ids then g.m id else none) = some b
  rw [if_pos h]; exact hm
theorem Gh.only_some {id : Nat} {b : Gb} (h : (g.only ids).m id = some b) : id ∈ ids ∧ g.m id = some b := by
  change (if id ∈ ids then g.m id else none) = some b at h
  split at h
  · exact ⟨‹_›, h⟩
  · cases h

theorem VA.only {x : At} {v : Value} (h : VA g w x v) (hi : ∀ i ∈ idsAt x, i ∈ ids) : VA (g.only ids) w x v := by
  have pur : ∀ {x : At} {v : Value}, VA g w x v → pureA x = true → VA (g.only ids) w x v := fun h hp => h.pure hp (fun _ h => h)
  cases x
  case int κ q => exact pur h rfl
  case bool b => exact pur h rfl
  case str s => exact pur h rfl
  case sl τ l => exact pur h rfl
  case fnc f => exact pur h rfl
  case clip τ l =>
    cases h with
    | clip _ _ ad len bk of f hl ha hcell hf => exact .clip τ l ad len bk of f hl ha hcell (fun i x j y hx hy => pur (hf i x j y hx hy) (enc_pure _ _ _ _ hy))
  case vptr τ x j =>
    cases h with
    | vptr _ _ _ bk of f ha hcell hf => exact .vptr τ x j bk of f ha hcell (fun i y hy => pur (hf i y hy) (enc_pure _ _ _ _ hy))
  case own i =>
    cases h with
    | own _ b ad hm hk h0 => exact .own i b ad (Gh.only_get (hi i (by simp [idsAt])) hm) hk h0
  case sub i off len =>
    cases h with
    | sub _ _ _ b ad cc hm hl hc hk => exact .sub i off len b ad cc (Gh.only_get (hi i (by simp [idsAt])) hm) hl hc hk
  case ptr i off =>
    cases h with
    | ptr _ _ b kk hm hk => exact .ptr i off b kk (Gh.only_get (hi i (by simp [idsAt])) hm) hk
  case eptr i p q =>
    cases h with
    | eptr _ _ _ b kk hm hk => exact .eptr i p q b kk (Gh.only_get (hi i (by simp [idsAt])) hm) hk
  case clo i =>
    cases h with
    | clo _ b f fs cs hm hv => exact .clo i b f fs cs (Gh.only_get (hi i (by simp [idsAt])) hm) hv
  case mapr i =>
    cases h with
    | mapr _ b kk hm hk => exact .mapr i b kk (Gh.only_get (hi i (by simp [idsAt])) hm) hk
  case iter i =>
    cases h with
    | iter _ b kk hm hk => exact .iter i b kk (Gh.only_get (hi i (by simp [idsAt])) hm) hk
  case nilp => cases h; exact .nilp
  case nilf => cases h; exact .nilf
  case nilm => cases h; exact .nilm
  case dead => exact .dead _ h.one

theorem idsIn_mem : ∀ {l : List At}, idsIn ids l = true → ∀ x ∈ l, ∀ i ∈ idsAt x, i ∈ ids
  | [], _, x, hx => by simp at hx
  | y :: l, h, x, hx => by
    unfold idsIn at h
    split at h
    · rename_i hy
      rcases List.mem_cons.1 hx with rfl | hx
      · exact fun i hi => hasN_mem.1 ((List.all_eq_true.1 hy) i hi)
      · exact idsIn_mem h x hx
    · simp at h

theorem All2.monoL {α β : Type} {R R' : α → β → Prop} {l : List α} {m : List β} (h : All2 R l m) (hr : ∀ a ∈ l, ∀ b, R a b → R' a b) : All2 R' l m := by
  induction h with
  | nil => exact .nil
  | cons h _ ih => exact .cons (hr _ (by simp) _ h) (ih fun a ha => hr a (by simp [ha]))

theorem V1R.only {x : V1} {v : Value} (h : V1R g w x v) (hi : idsV1 ids x = true) : V1R (g.only ids) w x v := by
  cases x with
  | one x => exact VA.only h (idsIn_mem hi x (by simp))
  | agg l => obtain ⟨vs, rfl, h⟩ := h; exact ⟨vs, rfl, h.monoL fun x hx v hv => hv.only (idsIn_mem hi x hx)⟩

theorem AVR.only {x : AV} {v : Value} (h : AVR g w x v) (hi : idsV ids x = true) : AVR (g.only ids) w x v := by
  cases x with
  | v x => exact V1R.only h hi
  | tup l => obtain ⟨vs, rfl, h⟩ := h; exact ⟨vs, rfl, h.monoL fun x hx v hv => V1R.only hv ((List.all_eq_true.1 hi) x hx)⟩
  | undef => exact h
  | dead => trivial

theorem BR.only {b : Gb} {x : AB} (h : BR g w b x) (hi : idsB ids x = true) : BR (g.only ids) w b x := by
  cases x with
  | cells l => obtain ⟨k, cs, e, hb, hh, ha⟩ := h; exact ⟨k, cs, e, hb, hh, ha.monoL fun x hx v hv => hv.only (idsIn_mem hi x hx)⟩
  | row τ l =>
    obtain ⟨h1, h2, h3⟩ := h
    refine ⟨h1, h2, ?_⟩
    rcases h3 with h3 | ⟨k, cs, e, hb, hh, hs, hl, ho, ha⟩
    · exact .inl h3
    · exact .inr ⟨k, cs, e, hb, hh, hs, hl, ho, fun i x j y hx hy => let ⟨v, hv, ha'⟩ := ha i x j y hx hy; ⟨v, hv, ha'.pure (enc_pure _ _ _ _ hy) (fun _ h => h)⟩⟩
  | clo f a c =>
    obtain ⟨fs, cs, hb, h1, h2⟩ := h
    simp only [idsB] at hi
    split at hi
    · rename_i ha
      exact ⟨fs, cs, hb, h1.monoL fun x hx v hv => hv.only (idsIn_mem ha x hx), h2.monoL fun x hx v hv => hv.only (idsIn_mem hi x hx)⟩
    · simp at hi
  | iter s p => exact h
  | capk x n => obtain ⟨hb, ad, len, hv⟩ := h; exact ⟨hb, ad, len, hv.only (idsIn_mem hi x (by simp))⟩
  | gone => trivial

theorem keepRegs_ok {mem : List Nat} : ∀ {l : List Nat} {r r' : Regs}, keepRegs mem r l = some r' → ∀ t x, look t r' = some x → look t r = some x ∧ idsV mem x = true
  | [], r, r', h, t, x, hx => by simp [keepRegs] at h; subst h; simp [look] at hx
  | n :: l, r, r', h, t, x, hx => by
    simp only [keepRegs] at h
    split at h
    · rename_i v r2 hv hr2
      split at h
      · rename_i hi
        cases h
        rw [look_cons] at hx
        split at hx
        · rename_i e; subst e; cases hx; exact ⟨hv, hi⟩
        · exact keepRegs_ok hr2 t x hx
      · simp at h
    · simp at h

theorem keepMem_ok {mem : List Nat} : ∀ {l : List Nat} {r r' : Mem}, keepMem mem r l = some r' → ∀ t x, look t r' = some x → t ∈ l ∧ look t r = some x ∧ idsB mem x = true
  | [], r, r', h, t, x, hx => by simp [keepMem] at h; subst h; simp [look] at hx
  | n :: l, r, r', h, t, x, hx => by
    simp only [keepMem] at h
    split at h
    · rename_i v r2 hv hr2
      split at h
      · rename_i hi
        cases h
        rw [look_cons] at hx
        split at hx
        · rename_i e; subst e; cases hx; exact ⟨by simp, hv, hi⟩
        · obtain ⟨h1, h2, h3⟩ := keepMem_ok hr2 t x hx
          exact ⟨by simp [h1], h2, h3⟩
      · simp at h
    · simp at h

theorem toRows_ok : ∀ {l : List (Nat × Nat × Ty)} {σ σ' : St} {g : Gh}, toRows l σ = some σ' → Rel base w0 S0 N D sv g σ a w → ∃ g', Rel base w0 S0 N D sv g' σ' a w
  | [], σ, σ', g, h, hr => by simp [toRows] at h; subst h; exact ⟨g, hr⟩
  | (r, id, τ) :: l, σ, σ', g, h, hr => by
    simp only [toRows] at h
    split at h
    · split at h
      · exact toRows_ok h hr
      · simp at h
    · rename_i τ' hlk
      split at h
      · rename_i hle
        have hle := Nat.le_of_ble_eq_true hle
        have hv := hr.regs r _ hlk
        obtain ⟨b, hbd⟩ : ∃ b : Gb, b = ⟨none, 0, 0, τ.n, default⟩ := ⟨_, rfl⟩
        have h1 := hr.new (id := id) hle (b := b) (x := .row τ []) (Below.refl _ _) (by rw [hbd]; exact ⟨rfl, rfl, .inl ⟨rfl, rfl, rfl⟩⟩) (fun q hq => by rw [hbd] at hq; cases hq)
        have hmg : (g.set id b).m id = some b := by simp [Gh.set]
        have hva : VA (g.set id b) w (.own id) (vof sv a r) := by
          generalize vof sv a r = u at hv
          cases hv with
          | clip _ _ ad len bk of f hl ha hcell hf =>
            simp at hl
            subst hl
            have := VA.own (g := g.set id b) (w := w) id b ad hmg (fun q hq => by rw [hbd] at hq; cases hq) (fun _ => by rw [hbd]; exact ⟨rfl, rfl⟩)
            rw [hbd] at this ⊢
            exact this
        refine toRows_ok h (g := g.set id b) { h1 with regs := fun t y hy => ?_ }
        simp only [look_cons] at hy
        split at hy
        · rename_i e; subst e; cases hy; exact hva
        · exact h1.regs t y hy
      · simp at h
    · simp at h

theorem Rel.say (h : Rel base w0 S0 N D sv g σ a w) {id : Nat} {x y : AB} (hx : look id σ.mem = some x) (hl : x.live = true) (hB : ∀ b, BR g w b x → BR g w b y) : Rel base w0 S0 N D sv g (σ.set id y) a w := by
  have e : ∀ i z, look i (σ.set id y).mem = some z → (i = id ∧ z = y) ∨ look i σ.mem = some z := fun i z hz => by
    simp only [St.set, look_cons] at hz
    split at hz
    · rename_i e; cases hz; exact .inl ⟨e.symm, rfl⟩
    · exact .inr hz
  have e2 : ∀ i z, look i (σ.set id y).mem = some z → z.live = true → ∃ z', look i σ.mem = some z' ∧ z'.live = true := fun i z hz hlz => by
    rcases e i z hz with ⟨rfl, _⟩ | hz'
    · exact ⟨x, hx, hl⟩
    · exact ⟨z, hz', hlz⟩
  refine { regs := h.regs, size := h.size, dfr := h.dfr, mem := fun i z hz => ?_, inj := fun i i' z z' b b' q h1 h2 hl1 hl2 => ?_, own := fun i z b q h1 hl1 => ?_, S := h.S, blk := h.blk, nx := h.nx, bel := h.bel, bs := h.bs, sub := h.sub }
  · rcases e i z hz with ⟨rfl, rfl⟩ | hz'
    · obtain ⟨b, hm, hr⟩ := h.mem i x hx
      exact ⟨b, hm, hB b hr⟩
    · exact h.mem i z hz'
  · obtain ⟨z1, h3, h4⟩ := e2 i z h1 hl1
    obtain ⟨z2, h5, h6⟩ := e2 i' z' h2 hl2
    exact h.inj i i' z1 z2 b b' q h3 h5 h4 h6
  · obtain ⟨z1, h3, h4⟩ := e2 i z h1 hl1
    exact h.own i z1 b q h3 h4

theorem toSls_ok : ∀ {l : List Nat} {σ σ' : St}, toSls l σ = some σ' → Rel base w0 S0 N D sv g σ a w → Rel base w0 S0 N D sv g σ' a w
  | [], σ, σ', h, hr => by simp [toSls] at h; subst h; exact hr
  | r :: l, σ, σ', h, hr => by
    simp only [toSls] at h
    split at h
    · rename_i x hx
      refine toSls_ok h { hr with regs := fun t y hy => ?_ }
      simp only [look_cons] at hy
      split at hy
      · rename_i e; subst e; cases hy; exact VA.unclip (hr.regs _ _ hx)
      · exact hr.regs t y hy
    · simp at h

theorem toSlm_ok : ∀ {l : List Nat} {σ σ' : St}, toSlm l σ = some σ' → Rel base w0 S0 N D sv g σ a w → Rel base w0 S0 N D sv g σ' a w
  | [], σ, σ', h, hr => by simp [toSlm] at h; subst h; exact hr
  | id :: l, σ, σ', h, hr => by
    simp only [toSlm] at h
    split at h
    · rename_i cs hcs
      refine toSlm_ok h (hr.say hcs rfl fun b hb => ?_)
      obtain ⟨k, us, e, hk, hh, ha⟩ := hb
      exact ⟨k, us, e, hk, hh, ha.unclip⟩
    · simp at h

theorem coerce_ok {an : Ann} {σ σ' : St} (h : coerce an σ = some σ') (hr : Rel base w0 S0 N D sv g σ a w) : ∃ g', Rel base w0 S0 N D sv g' σ' a w := by
  unfold coerce at h
  split at h
  · rename_i σ1 h1
    obtain ⟨g1, r1⟩ := toRows_ok h1 hr
    split at h
    · rename_i σ2 h2
      exact ⟨g1, toSlm_ok h (toSls_ok h2 r1)⟩
    · simp at h
  · simp at h

theorem keep_ok {an : Ann} {σ' : St} (h : keep an σ = some σ') (hr : Rel base w0 S0 N D sv g σ a w) : ∃ g', Rel base w0 S0 N D sv g' σ' a w := by
  unfold keep at h
  split at h
  · rename_i σ1 h1
    obtain ⟨g1, r1⟩ := coerce_ok h1 hr
    split at h
    · rename_i r2 m2 hr2 hm2 hlt
      cases h
      refine ⟨g1.only an.mem, { regs := fun t x hx => ?_, size := r1.size, dfr := r1.dfr, mem := fun id x hx => ?_, inj := fun id id' x x' b b' q hx hx' hl hl' hm hm' => ?_, own := fun id x b q hx hl hm hq => ?_, S := r1.S, blk := fun id b q hm hq => r1.blk id b q (Gh.only_some hm).2 hq, nx := fun id b hm => ?_, bel := r1.bel, bs := r1.bs, sub := r1.sub }⟩
      · obtain ⟨h2, h3⟩ := keepRegs_ok hr2 t x hx
        exact (r1.regs t x h2).only h3
      · obtain ⟨h2, h3, h4⟩ := keepMem_ok hm2 id x hx
        obtain ⟨b, hb, hbr⟩ := r1.mem id x h3
        exact ⟨b, Gh.only_get h2 hb, hbr.only h4⟩
      · exact r1.inj id id' x x' b b' q (keepMem_ok hm2 id x hx).2.1 (keepMem_ok hm2 id' x' hx').2.1 hl hl' (Gh.only_some hm).2 (Gh.only_some hm').2
      · exact r1.own id x b q (keepMem_ok hm2 id x hx).2.1 hl (Gh.only_some hm).2 hq
      · have := (List.all_eq_true.1 hlt) id (Gh.only_some hm).1
        exact Nat.le_of_ble_eq_true this
    · simp at h
  · simp at h

theorem keepIf_ok {an : Option Ann} (h : keepIf an σ k = some res) (hr : Rel base w0 S0 N D sv g σ a w) : ∃ g' σ', k σ' = some res ∧ Rel base w0 S0 N D sv g' σ' a w := by
  unfold keepIf at h
  split at h
  · exact ⟨g, σ, h, hr⟩
  · split at h
    · rename_i h1
      obtain ⟨g', h2⟩ := keep_ok h1 hr
      exact ⟨g', _, h, h2⟩
    · simp at h

end
end Go.Eng
