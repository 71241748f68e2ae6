import Derived.Test.YtiaemhkkfjpdlaaEngS7
import Derived.Laws.Tables
import Derived.Laws.CopyRow
import Derived.Laws.Append
import Derived.Laws.AppendOwn
/- THE ENGINE, soundness, part 8: the state and the world, kept by writes. -/
set_option linter.unusedSimpArgs false
set_option linter.unusedVariables false
set_option linter.unnecessarySimpa false
namespace Go.Eng
open Go Go.RowKit

section
variable {P : Program} {F : Fence} {n : Nat} {c : Cfg} {g g' : Gh} {r : Regs} {m : Mem} {a : Act} {w w' : World} {o : Oper} {R : Type} {k : AV → Option R} {res : R}
variable {base : Nat} {w0 : World} {S0 : Nat → Prop} {N : Nat} {D : List Deferred} {sv : Nat → Value} {σ : St}

theorem look_cons {α : Type} {i n : Nat} {x : α} {l : List (Nat × α)} : look n ((i, x) :: l) = if i = n then some x else look n l := by
  simp only [look]
  split
  · rename_i h; rw [if_pos (Nat.eq_of_beq_eq_true h)]
  · rename_i h; rw [if_neg (fun e => by subst e; simp at h)]

theorem VA.repl {id : Nat} {ow : At} {su : Nat → Nat → At} {x : At} {v : Value} (h : VA g w x v) (hw : Holds g w w') (hS : ∀ q, g.S q → g'.S q) (hm : ∀ i, i ≠ id → ∀ b, g.m i = some b → g'.m i = some b)
    (ho : ∀ v, VA g w (.own id) v → VA g' w' ow v) (hs : ∀ o n v, VA g w (.sub id o n) v → VA g' w' (su o n) v) : VA g' w' (replAt id ow su x) v := by
  have pur : ∀ {x : At} {v : Value}, VA g w x v → pureA x = true → VA g' w' x v := fun {x v} h hp =>
    (h.pure (g' := ⟨g.S, fun _ => none⟩) hp (fun _ h => h)).mono hw ⟨hS, fun _ _ h => by cases h⟩
  have dd : ∀ {x : At} {v : Value}, VA g w x v → VA g' w' .dead v := fun h => .dead _ h.one
  cases x <;> simp only [replAt]
  case int κ q => exact pur h rfl
  case bool b => exact pur h rfl
  case str s => exact pur h rfl
  case sl τ l => exact pur h rfl
  case fnc f => exact pur h rfl
  case clip τ l =>
    cases h with
    | clip _ _ ad len bk of f hl ha hcell hf =>
      have hsl := pur (VA.sl τ l ad len len bk of f hl (Nat.le_refl _) ha hcell hf) rfl
      refine .clip τ l ad len bk of f hl (fun e => ⟨(ha e).1, hS _ (ha e).2⟩) (fun i j hi hj => ?_) (fun i x j y hx hy => pur (hf i x j y hx hy) (enc_pure _ _ _ _ hy))
      rw [cell_of_heap (hw bk (ha (ne_of_lt hi)).2)]; exact hcell i j hi hj
  case vptr τ x j =>
    cases h with
    | vptr _ _ _ bk of f ha hcell hf =>
      refine .vptr τ x j bk of f (hS _ ha) (fun i hi => ?_) (fun i y hy => pur (hf i y hy) (enc_pure _ _ _ _ hy))
      rw [cell_of_heap (hw bk ha)]; exact hcell i hi
  case own i =>
    split
    · rename_i e; have := Nat.eq_of_beq_eq_true e; subst this; exact ho v h
    · rename_i e
      have e : i ≠ id := fun e' => by subst e'; simp at e
      cases h with
      | own _ b ad hm' hk h0 => exact .own i b ad (hm i e _ hm') hk h0
  case sub i off len =>
    split
    · rename_i e; have := Nat.eq_of_beq_eq_true e; subst this; exact hs _ _ v h
    · rename_i e
      have e : i ≠ id := fun e' => by subst e'; simp at e
      cases h with
      | sub _ _ _ b ad cc hm' hl hc hk => exact .sub i off len b ad cc (hm i e _ hm') hl hc hk
  case ptr i off =>
    split
    · exact dd h
    · rename_i e
      have e : i ≠ id := fun e' => by subst e'; simp at e
      cases h with
      | ptr _ _ b kk hm' hk => exact .ptr i off b kk (hm i e _ hm') hk
  case eptr i p q =>
    split
    · exact dd h
    · rename_i e
      have e : i ≠ id := fun e' => by subst e'; simp at e
      cases h with
      | eptr _ _ _ b kk hm' hk => exact .eptr i p q b kk (hm i e _ hm') hk
  case clo i =>
    split
    · exact dd h
    · rename_i e
      have e : i ≠ id := fun e' => by subst e'; simp at e
      cases h with
      | clo _ b f fs cs hm' hv => exact .clo i b f fs cs (hm i e _ hm') hv
  case mapr i =>
    split
    · exact dd h
    · rename_i e
      have e : i ≠ id := fun e' => by subst e'; simp at e
      cases h with
      | mapr _ b kk hm' hk => exact .mapr i b kk (hm i e _ hm') hk
  case iter i =>
    split
    · exact dd h
    · rename_i e
      have e : i ≠ id := fun e' => by subst e'; simp at e
      cases h with
      | iter _ b kk hm' hk => exact .iter i b kk (hm i e _ hm') hk
  case nilp => cases h; exact .nilp
  case nilf => cases h; exact .nilf
  case nilm => cases h; exact .nilm
  case dead => exact dd h

theorem V1R.repl {f : At → At} (hf : ∀ x v, VA g w x v → VA g' w' (f x) v) {x : V1} {v : Value} (h : V1R g w x v) : V1R g' w' (replV1 f x) v := by
  cases x with
  | one x => exact hf _ _ h
  | agg l => obtain ⟨vs, rfl, h⟩ := h; exact ⟨vs, rfl, h.mapL fun _ _ k => hf _ _ k⟩

theorem AVR.repl {f : At → At} (hf : ∀ x v, VA g w x v → VA g' w' (f x) v) {x : AV} {v : Value} (h : AVR g w x v) : AVR g' w' (replV f x) v := by
  cases x with
  | v x => exact V1R.repl hf h
  | tup l => obtain ⟨vs, rfl, h⟩ := h; exact ⟨vs, rfl, h.mapL fun _ _ k => V1R.repl hf k⟩
  | undef => exact h
  | dead => trivial

theorem BR.repl {f : At → At} (hf : ∀ x v, VA g w x v → VA g' w' (f x) v) (hp : ∀ x v, pureA x = true → VA g w x v → VA g' w' x v) {b : Gb} (hk : ∀ q, b.blk = some q → w'.heap[q]? = w.heap[q]?) {x : AB} (h : BR g w b x) : BR g' w' b (replB f x) := by
  cases x with
  | cells l => obtain ⟨q, cs, e, hb, hh, ha⟩ := h; exact ⟨q, cs, e, hb, (hk q hb).trans hh, ha.mapL fun _ _ k => hf _ _ k⟩
  | row τ l =>
    obtain ⟨h1, h2, h3⟩ := h
    refine ⟨h1, h2, ?_⟩
    rcases h3 with h3 | ⟨q, cs, e, hb, hh, hs, hl, ho, ha⟩
    · exact .inl h3
    · exact .inr ⟨q, cs, e, hb, (hk q hb).trans hh, hs, hl, ho, fun i x j y hx hy => let ⟨v, hv, ha'⟩ := ha i x j y hx hy; ⟨v, hv, hp _ _ (enc_pure _ _ _ _ hy) ha'⟩⟩
  | clo fn p q => obtain ⟨fs, cs, hb, h1, h2⟩ := h; exact ⟨fs, cs, hb, h1.mapL fun _ _ k => hf _ _ k, h2.mapL fun _ _ k => hf _ _ k⟩
  | iter s p => obtain ⟨q, bs, hb, hh, e⟩ := h; exact ⟨q, bs, hb, (hk q hb).trans hh, e⟩
  | capk x n => obtain ⟨hb, ad, len, hv⟩ := h; exact ⟨hb, ad, len, hf _ _ hv⟩
  | gone => trivial

theorem look_replRegs {f : At → At} {t : Nat} : ∀ {r : Regs}, look t (replRegs f r) = (look t r).map (replV f)
  | [] => rfl
  | x :: r => by
    simp only [replRegs, look]
    split
    · rfl
    · exact look_replRegs
theorem look_replMem {f : At → At} {t : Nat} : ∀ {r : Mem}, look t (replMem f r) = (look t r).map (replB f)
  | [] => rfl
  | x :: r => by
    simp only [replMem, look]
    split
    · rfl
    · exact look_replMem
theorem live_repl {f : At → At} {x : AB} : (replB f x).live = x.live := by cases x <;> rfl

/-! A register is set. -/
theorem vof_put {sv : Nat → Value} {d t : Nat} {v : Value} (ho : d < OFF) (hd : d < a.tmps.size) : vof sv (a.put (some d) v) t = if d = t then v else vof sv a t := by
  unfold vof
  by_cases h : t < OFF
  · rw [if_pos h, if_pos h]
    simp only [Act.put, Array.getD_eq_getD_getElem?, Array.getElem?_setIfInBounds]
    split
    · rename_i h; subst h; simp [hd]
    · rfl
  · rw [if_neg h, if_neg h, if_neg (by omega)]
theorem getD_put {d t : Nat} {v : Value} (hd : d < a.tmps.size) : (a.put (some d) v).tmps.getD t undef = if d = t then v else a.tmps.getD t undef := by
  simp only [Act.put, Array.getD_eq_getD_getElem?, Array.getElem?_setIfInBounds]
  split
  · rename_i h; subst h; simp [hd]
  · rfl

theorem Rel.put (h : Rel base w0 S0 N D sv g σ a w) (hN : c.N = N) {dst : Option Nat} {x : AV} {v : Value} (hv : AVR g w x v) {kk : St → Option R} (hp : σ.put c dst x kk = some res) :
    ∃ σ', kk σ' = some res ∧ Rel base w0 S0 N D sv g σ' (a.put dst v) w := by
  unfold St.put at hp
  split at hp
  · exact ⟨σ, hp, h⟩
  · rename_i d
    split at hp
    · rename_i hd
      have hd : d < a.tmps.size := by
        have : d < c.N := Nat.le_of_ble_eq_true hd
        rw [h.size]; omega
      split at hp
      rotate_left
      · simp at hp
      rename_i ho
      have ho : d < OFF := Nat.le_of_ble_eq_true ho
      refine ⟨_, hp, { h with regs := fun t y hy => ?_, size := ?_, dfr := h.dfr }⟩
      · rw [vof_put ho hd]
        simp only [look_cons] at hy
        split at hy
        · rename_i e; subst e; rw [if_pos rfl]; cases hy; exact hv
        · rename_i e; rw [if_neg e]; exact h.regs t y hy
      · simp [Act.put, h.size]
    · simp at hp

/-- The world has grown: nothing that lay is turned. -/
theorem Rel.grow (h : Rel base w0 S0 N D sv g σ a w) (hb : Below w.heap.size w w') : Rel base w0 S0 N D sv (g.grow w w') σ a w' := by
  have hH : Holds g w w' := Holds.of_below h.S hb
  have hle := Gh.le_grow g w w'
  refine { regs := fun t x hx => (h.regs t x hx).mono hH hle, size := h.size, dfr := h.dfr, mem := fun id x hx => ?_, inj := fun id id' x x' b b' q => h.inj id id' x x' b b' q, own := fun id x b q hx hl hm hq => ?_, S := fun q hq => ?_, blk := fun id b q hm hq => ?_, nx := h.nx, bel := h.bel.trans (hb.mono h.bs), bs := Nat.le_trans h.bs hb.size, sub := fun q hq => hq.elim (h.sub q) fun hq => .inr (Nat.le_trans h.bs hq.1) }
  · obtain ⟨b, hm, hr⟩ := h.mem id x hx
    exact ⟨b, hm, hr.mono hH (fun q hq => hb.block q (h.blk id b q hm hq)) hle⟩
  · obtain ⟨h1, h2⟩ := h.own id x b q hx hl hm hq
    refine ⟨h1, fun hs => ?_⟩
    rcases hs with hs | hs
    · exact h2 hs
    · have := h.blk id b q hm hq; omega
  · rcases hq with hq | hq
    · exact Nat.lt_of_lt_of_le (h.S q hq) hb.size
    · exact hq.2
  · exact Nat.lt_of_lt_of_le (h.blk id b q hm hq) hb.size

def Gh.set (g : Gh) (id : Nat) (b : Gb) : Gh := { S := g.S, m := fun i => if i = id then some b else g.m i }

theorem Gh.le_set {id : Nat} {b : Gb} (h : g.m id = none) : g.le (g.set id b) :=
  ⟨fun _ h => h, fun i b' hb => by
    show (if i = id then some b else g.m i) = some b'
    rw [if_neg (fun e => by subst e; rw [h] at hb; cases hb)]; exact hb⟩

theorem Rel.fresh (h : Rel base w0 S0 N D sv g σ a w) {id : Nat} (hi : σ.nx ≤ id) : g.m id = none := by
  cases hm : g.m id with
  | none => rfl
  | some b => have := h.nx id b hm; omega

/-- A block of the activation's own is made (with memory in the world w', or without). -/
theorem Rel.new (h : Rel base w0 S0 N D sv g σ a w) {id : Nat} (hi : σ.nx ≤ id) {b : Gb} {x : AB} (hb : Below w.heap.size w w') (hB : BR (g.set id b) w' b x) (hq : ∀ q, b.blk = some q → w.heap.size ≤ q ∧ q < w'.heap.size) :
    Rel base w0 S0 N D sv (g.set id b) { regs := σ.regs, mem := (id, x) :: σ.mem, nx := id + 1 } a w' := by
  have hH : Holds g w w' := Holds.of_below h.S hb
  have hle : g.le (g.set id b) := Gh.le_set (h.fresh hi)
  have hset : ∀ i, (g.set id b).m i = if i = id then some b else g.m i := fun _ => rfl
  refine { regs := fun t x hx => (h.regs t x hx).mono hH hle, size := h.size, dfr := h.dfr, mem := fun i y hy => ?_, inj := fun i i' y y' b1 b2 q hy hy' hl hl' hm hm' hq1 hq2 => ?_, own := fun i y b1 q hy hl hm hq1 => ?_, S := fun q hq => Nat.lt_of_lt_of_le (h.S q hq) hb.size, blk := fun i b1 q hm hq1 => ?_, nx := fun i b1 hm => ?_, bel := h.bel.trans (hb.mono h.bs), bs := Nat.le_trans h.bs hb.size, sub := h.sub }
  · simp only [look_cons] at hy
    split at hy
    · rename_i e; subst e; cases hy
      exact ⟨b, by rw [hset, if_pos rfl], hB⟩
    · rename_i e
      obtain ⟨b1, hm, hr⟩ := h.mem i y hy
      exact ⟨b1, hle.m _ _ hm, hr.mono hH (fun q hq => hb.block q (h.blk i b1 q hm hq)) hle⟩
  · simp only [look_cons] at hy hy'
    rw [hset] at hm hm'
    by_cases e : id = i
    · by_cases e' : id = i'
      · omega
      · rw [if_pos e.symm] at hm; rw [if_neg (Ne.symm e')] at hm'; rw [if_neg e'] at hy'
        cases hm
        have := hq q hq1; have := h.blk i' b2 q hm' hq2; omega
    · rw [if_neg (Ne.symm e)] at hm; rw [if_neg e] at hy
      by_cases e' : id = i'
      · rw [if_pos e'.symm] at hm'
        cases hm'
        have := hq q hq2; have := h.blk i b1 q hm hq1; omega
      · rw [if_neg (Ne.symm e')] at hm'; rw [if_neg e'] at hy'
        exact h.inj i i' y y' b1 b2 q hy hy' hl hl' hm hm' hq1 hq2
  · simp only [look_cons] at hy
    rw [hset] at hm
    by_cases e : id = i
    · rw [if_pos e.symm] at hm; cases hm
      have := hq q hq1
      exact ⟨by have := h.bs; omega, fun hs => by have := h.S q hs; omega⟩
    · rw [if_neg (Ne.symm e)] at hm; rw [if_neg e] at hy
      exact h.own i y b1 q hy hl hm hq1
  · rw [hset] at hm
    by_cases e : i = id
    · rw [if_pos e] at hm; cases hm; exact (hq q hq1).2
    · rw [if_neg e] at hm; exact Nat.lt_of_lt_of_le (h.blk i b1 q hm hq1) hb.size
  · rw [hset] at hm
    show i < id + 1
    by_cases e : i = id
    · omega
    · rw [if_neg e] at hm; have := h.nx i b1 hm; omega

/-- The content of a block of the activation's own is written. -/
theorem Rel.set (h : Rel base w0 S0 N D sv g σ a w) {id : Nat} {b : Gb} {x y : AB} (hx : look id σ.mem = some x) (hl : x.live = true) (hm : g.m id = some b) {q : Nat} (hq : b.blk = some q) (hsz : w'.heap.size = w.heap.size)
    (hoth : ∀ j, j ≠ q → w'.heap[j]? = w.heap[j]?) (hos : w'.os = w.os ∧ w'.tape = w.tape ∧ w'.output = w.output) (hB : (∀ g1, (∀ j, g1.S j → j ≠ q) → Holds g1 w w') → BR g w' b y) : Rel base w0 S0 N D sv g (σ.set id y) a w' := by
  have hbase := h.own id x b q hx hl hm hq
  have hH : Holds g w w' := fun j hj => hoth j (fun e => by subst e; exact hbase.2 hj)
  refine { regs := fun t x hx => (h.regs t x hx).mono hH (Gh.le.refl g), size := h.size, dfr := h.dfr, mem := fun i z hz => ?_, inj := fun i i' z z' b1 b2 p hz hz' hlz hlz' hm1 hm2 hp1 hp2 => ?_, own := fun i z b1 p hz hlz hm1 hp1 => ?_, S := fun p hp => by rw [hsz]; exact h.S p hp, blk := fun i b1 p hm1 hp1 => by rw [hsz]; exact h.blk i b1 p hm1 hp1, nx := h.nx, bel := h.bel.trans ⟨hos.1, hos.2.1, hos.2.2, by omega, fun j hj => hoth j (by omega)⟩, bs := by rw [hsz]; exact h.bs, sub := h.sub }
  · simp only [St.set, look_cons] at hz
    split at hz
    · rename_i e; subst e; cases hz
      exact ⟨b, hm, hB fun g1 h1 j hj => hoth j (h1 j hj)⟩
    · rename_i e
      obtain ⟨b1, hm1, hr⟩ := h.mem i z hz
      refine ⟨b1, hm1, ?_⟩
      by_cases hlz : z.live = true
      · exact hr.mono hH (fun p hp => hoth p (fun e' => by subst e'; exact e (h.inj id i x z b b1 p hx hz hl hlz hm hm1 hq hp))) (Gh.le.refl g)
      · cases z <;> simp [AB.live] at hlz
        exact trivial
  · simp only [St.set, look_cons] at hz hz'
    have conv : ∀ {i : Nat} {z : AB}, (if id = i then some y else look i σ.mem) = some z → z.live = true → ∃ z1, look i σ.mem = some z1 ∧ z1.live = true := by
      intro i z hz hlz
      split at hz
      · rename_i e; subst e; exact ⟨x, hx, hl⟩
      · exact ⟨z, hz, hlz⟩
    obtain ⟨z1, hz1, hl1⟩ := conv hz hlz
    obtain ⟨z2, hz2, hl2⟩ := conv hz' hlz'
    exact h.inj i i' z1 z2 b1 b2 p hz1 hz2 hl1 hl2 hm1 hm2 hp1 hp2
  · simp only [St.set, look_cons] at hz
    split at hz
    · rename_i e; subst e; exact h.own id x b1 p hx hl hm1 hp1
    · exact h.own i z b1 p hz hlz hm1 hp1

/-- Rows that are frozen are written no more; others are as they were. -/
def Frz (σ σ' : St) (g g' : Gh) (ids : List Nat) : Prop := ∀ i τ l, look i σ.mem = some (.row τ l) → (∀ b q, g.m i = some b → b.blk = some q → g'.S q) ∨ (i ∉ ids ∧ look i σ'.mem = some (.row τ l))

/-- A row of the activation's own becomes a list that nobody writes any more. -/
theorem Rel.freeze1 (h : Rel base w0 S0 N D sv g σ a w) {id : Nat} {kk : St → Option R} (hf : freeze id σ kk = some res) : ∃ g' σ', kk σ' = some res ∧ Rel base w0 S0 N D sv g' σ' a w ∧ g.le g' ∧ Frz σ σ' g g' [id] := by
  unfold Go.Eng.freeze at hf
  split at hf
  · rename_i τ l hl
    obtain ⟨b, hm, hbr⟩ := h.mem id _ hl
    obtain ⟨g', hg'⟩ : ∃ g' : Gh, g' = { S := fun q => g.S q ∨ b.blk = some q, m := g.m } := ⟨_, rfl⟩
    have hle : g.le g' := by subst hg'; exact ⟨fun _ h => .inl h, fun _ _ h => h⟩
    have hgm : g'.m = g.m := by subst hg'; rfl
    have hgS : ∀ q, g'.S q ↔ g.S q ∨ b.blk = some q := by subst hg'; exact fun q => Iff.rfl
    obtain ⟨f, hfe⟩ : ∃ f, f = thawAt id l := ⟨_, rfl⟩
    rw [← hfe] at hf
    have hva : ∀ x v, VA g w x v → VA g' w (f x) v := by
      intro x v hv
      rw [hfe]
      unfold thawAt
      refine hv.repl (Holds.refl _ _) hle.S (fun i _ b hb => by rw [hgm]; exact hb) (fun v hv => ?_) (fun o n v hv => ?_)
      · cases hv with
        | own _ b' ad hm' hk h0 =>
          rw [hm] at hm'; cases hm'
          exact hbr.whole hle.S (fun q hq => (hgS q).2 (.inr hq)) hk h0
      · cases hv with
        | sub _ _ _ b' ad cc hm' hl' hc hk =>
          rw [hm] at hm'; cases hm'
          split
          · rename_i hle'
            exact hbr.part hle.S (fun q hq => (hgS q).2 (.inr hq)) (Nat.le_of_ble_eq_true hle') (by omega) (fun hne => hk (by omega))
          · exact .dead _ rfl
    have hfr : Frz σ { regs := replRegs f σ.regs, mem := (id, .gone) :: replMem f σ.mem, nx := σ.nx } g g' [id] := by
      intro i τ' l' hi
      by_cases e : i = id
      · subst e
        exact .inl fun b' q hb' hq => (hgS q).2 (.inr (by rw [hm] at hb'; cases hb'; exact hq))
      · refine .inr ⟨by simpa using e, ?_⟩
        simp only [look_cons]
        rw [if_neg (Ne.symm e), look_replMem, hi]
        rfl
    refine ⟨g', _, hf, ?_, hle, hfr⟩
    refine { regs := fun t x hx => ?_, size := h.size, dfr := h.dfr, mem := fun i z hz => ?_, inj := fun i i' z z' b1 b2 p hz hz' hlz hlz' hm1 hm2 hp1 hp2 => ?_, own := fun i z b1 p hz hlz hm1 hp1 => ?_, S := fun p hp => ?_, blk := fun i b1 p hm1 hp1 => h.blk i b1 p (by rw [← hgm]; exact hm1) hp1, nx := fun i b1 hm1 => h.nx i b1 (by rw [← hgm]; exact hm1), bel := h.bel, bs := h.bs, sub := fun q hq => ((hgS q).1 hq).elim (h.sub q) fun hq => .inr (h.own id _ b q hl rfl hm hq).1 }
    · rw [look_replRegs] at hx
      cases hy : look t σ.regs with
      | none => rw [hy] at hx; simp at hx
      | some y => rw [hy] at hx; simp at hx; subst hx; exact (h.regs t y hy).repl hva
    · simp only [look_cons] at hz
      split at hz
      · rename_i e; subst e; cases hz; exact ⟨b, by rw [hgm]; exact hm, trivial⟩
      · rw [look_replMem] at hz
        cases hy : look i σ.mem with
        | none => rw [hy] at hz; simp at hz
        | some y =>
          rw [hy] at hz; simp at hz; subst hz
          obtain ⟨b1, hm1, hr1⟩ := h.mem i y hy
          exact ⟨b1, by rw [hgm]; exact hm1, hr1.repl hva (fun x v hp hv => hv.pure hp hle.S) (fun _ _ => rfl)⟩
    · simp only [look_cons] at hz hz'
      rw [hgm] at hm1 hm2
      have conv : ∀ {i : Nat} {z : AB}, (if id = i then some AB.gone else look i (replMem f σ.mem)) = some z → z.live = true → id ≠ i ∧ ∃ y, look i σ.mem = some y ∧ y.live = true := by
        intro i z hz hlz
        split at hz
        · cases hz; simp [AB.live] at hlz
        · rename_i e
          rw [look_replMem] at hz
          cases hy : look i σ.mem with
          | none => rw [hy] at hz; simp at hz
          | some y => rw [hy] at hz; simp at hz; subst hz; exact ⟨e, y, rfl, by rw [live_repl] at hlz; exact hlz⟩
      obtain ⟨-, y1, hy1, hl1⟩ := conv hz hlz
      obtain ⟨-, y2, hy2, hl2⟩ := conv hz' hlz'
      exact h.inj i i' y1 y2 b1 b2 p hy1 hy2 hl1 hl2 hm1 hm2 hp1 hp2
    · simp only [look_cons] at hz
      rw [hgm] at hm1
      split at hz
      · cases hz; simp [AB.live] at hlz
      · rename_i e
        rw [look_replMem] at hz
        cases hy : look i σ.mem with
        | none => rw [hy] at hz; simp at hz
        | some y =>
          rw [hy] at hz; simp at hz; subst hz
          rw [live_repl] at hlz
          obtain ⟨h1, h2⟩ := h.own i y b1 p hy hlz hm1 hp1
          refine ⟨h1, fun hs => ?_⟩
          rcases (hgS p).1 hs with hs | hs
          · exact h2 hs
          · exact e (h.inj id i _ y b b1 p hl hy rfl hlz hm hm1 hs hp1)
    · rcases (hgS p).1 hp with hp | hp
      · exact h.S p hp
      · exact h.blk id b p hm hp
  · rename_i hno
    refine ⟨g, σ, hf, h, Gh.le.refl g, fun i τ l hi => ?_⟩
    by_cases e : i = id
    · subst e; exact (hno τ l hi).elim
    · exact .inr ⟨by simpa using e, hi⟩

theorem Rel.freezeAll (h : Rel base w0 S0 N D sv g σ a w) : ∀ {ids : List Nat} {kk : St → Option R}, freezeAll ids σ kk = some res → ∃ g' σ', kk σ' = some res ∧ Rel base w0 S0 N D sv g' σ' a w ∧ g.le g' ∧ Frz σ σ' g g' ids := by
  intro ids
  induction ids generalizing g σ with
  | nil => intro kk hf; exact ⟨g, σ, hf, h, Gh.le.refl g, fun i τ l hi => .inr ⟨by simp, hi⟩⟩
  | cons id ids ih =>
    intro kk hf
    simp only [Go.Eng.freezeAll] at hf
    obtain ⟨g1, σ1, h1, r1, l1, f1⟩ := h.freeze1 hf
    obtain ⟨g2, σ2, h2, r2, l2, f2⟩ := ih r1 h1
    refine ⟨g2, σ2, h2, r2, l1.trans l2, fun i τ l hi => ?_⟩
    rcases f1 i τ l hi with hS | ⟨hn, hr⟩
    · exact .inl fun b q hb hq => l2.S _ (hS b q hb hq)
    · rcases f2 i τ l hr with hS | ⟨hn2, hr2⟩
      · exact .inl fun b q hb hq => hS b q (l1.m _ _ hb) hq
      · exact .inr ⟨by simp at hn ⊢; exact ⟨hn, hn2⟩, hr2⟩

/-- A row is written anew, in its block or in another one; f says what becomes of what names it. -/
theorem Rel.rewriteF (f : At → At) (h : Rel base w0 S0 N D sv g σ a w) {id : Nat} {b b' : Gb} {x y : AB} (hx : look id σ.mem = some x) (hl : x.live = true) (hm : g.m id = some b) (hsz : w.heap.size ≤ w'.heap.size) (hos : w'.os = w.os ∧ w'.tape = w.tape ∧ w'.output = w.output)
    (hoth : ∀ j, j < w.heap.size → b.blk ≠ some j → w'.heap[j]? = w.heap[j]?) (hq : ∀ q, b'.blk = some q → (b.blk = some q ∨ (w.heap.size ≤ q)) ∧ q < w'.heap.size)
    (hB : Holds g w w' → BR (g.set id b') w' b' y) (hva : Holds g w w' → ∀ x v, VA g w x v → VA (g.set id b') w' (f x) v) : Rel base w0 S0 N D sv (g.set id b') { regs := replRegs f σ.regs, mem := (id, y) :: replMem f σ.mem, nx := σ.nx } a w' := by
  have hown : ∀ q, b.blk = some q → base ≤ q ∧ ¬ g.S q := fun q hq => h.own id x b q hx hl hm hq
  have hH : Holds g w w' := fun j hj => hoth j (h.S j hj) (fun e => (hown j e).2 hj)
  have hset : ∀ i, (g.set id b').m i = if i = id then some b' else g.m i := fun _ => rfl
  have hva := hva hH
  have lk : ∀ {i : Nat} {z : AB}, look i (replMem f σ.mem) = some z → ∃ z1, look i σ.mem = some z1 ∧ z = replB f z1 := by
    intro i z hz
    rw [look_replMem] at hz
    cases hy : look i σ.mem with
    | none => rw [hy] at hz; simp at hz
    | some y => rw [hy] at hz; simp at hz; exact ⟨y, rfl, hz.symm⟩
  refine { regs := fun t x hx => ?_, size := h.size, dfr := h.dfr, mem := fun i z hz => ?_, inj := fun i i' z z' b1 b2 p hz hz' hlz hlz' hm1 hm2 hp1 hp2 => ?_, own := fun i z b1 p hz hlz hm1 hp1 => ?_, S := fun p hp => Nat.lt_of_lt_of_le (h.S p hp) hsz, blk := fun i b1 p hm1 hp1 => ?_, nx := fun i b1 hm1 => ?_, bel := h.bel.trans ⟨hos.1, hos.2.1, hos.2.2, hsz, fun j hj => ?_⟩, bs := Nat.le_trans h.bs hsz, sub := h.sub }
  · rw [look_replRegs] at hx
    cases hy : look t σ.regs with
    | none => rw [hy] at hx; simp at hx
    | some y => rw [hy] at hx; simp at hx; subst hx; exact (h.regs t y hy).repl hva
  · simp only [look_cons] at hz
    split at hz
    · rename_i e; subst e; cases hz; exact ⟨b', by rw [hset, if_pos rfl], hB hH⟩
    · rename_i e
      obtain ⟨z1, hz1, rfl⟩ := lk hz
      obtain ⟨b1, hm1, hr1⟩ := h.mem i z1 hz1
      refine ⟨b1, by rw [hset, if_neg (Ne.symm e)]; exact hm1, ?_⟩
      by_cases hlz : z1.live = true
      · exact hr1.repl hva (fun x v hp hv => (hv.pure (g' := ⟨g.S, fun _ => none⟩) hp (fun _ h => h)).mono hH ⟨fun _ h => h, fun _ _ h => by cases h⟩)
          (fun q hq => hoth q (h.blk i b1 q hm1 hq) (fun e' => e (h.inj id i x z1 b b1 q hx hz1 hl hlz hm hm1 e' hq)))
      · cases z1 <;> simp [AB.live] at hlz
        exact trivial
  · simp only [look_cons] at hz hz'
    rw [hset] at hm1 hm2
    have one : ∀ {i : Nat} {z : AB} {b1 : Gb}, id ≠ i → (if id = i then some y else look i (replMem f σ.mem)) = some z → z.live = true → (if i = id then some b' else g.m i) = some b1 → b1.blk = some p → b'.blk = some p → False := by
      intro i z b1 e hz hlz hm1 hp1 hp'
      rw [if_neg e] at hz
      rw [if_neg (Ne.symm e)] at hm1
      obtain ⟨z1, hz1, rfl⟩ := lk hz
      rw [live_repl] at hlz
      obtain ⟨hh, _⟩ := hq p hp'
      rcases hh with hh | hh
      · exact e (h.inj id i x z1 b b1 p hx hz1 hl hlz hm hm1 hh hp1)
      · have := h.blk i b1 p hm1 hp1; omega
    by_cases e : id = i
    · by_cases e' : id = i'
      · omega
      · rw [if_pos e.symm] at hm1; cases hm1
        exact (one e' hz' hlz' hm2 hp2 hp1).elim
    · by_cases e' : id = i'
      · rw [if_pos e'.symm] at hm2; cases hm2
        exact (one e hz hlz hm1 hp1 hp2).elim
      · rw [if_neg e] at hz; rw [if_neg e'] at hz'; rw [if_neg (Ne.symm e)] at hm1; rw [if_neg (Ne.symm e')] at hm2
        obtain ⟨z1, hz1, rfl⟩ := lk hz
        obtain ⟨z2, hz2, rfl⟩ := lk hz'
        rw [live_repl] at hlz hlz'
        exact h.inj i i' z1 z2 b1 b2 p hz1 hz2 hlz hlz' hm1 hm2 hp1 hp2
  · simp only [look_cons] at hz
    rw [hset] at hm1
    by_cases e : id = i
    · rw [if_pos e.symm] at hm1; cases hm1
      obtain ⟨hh, _⟩ := hq p hp1
      rcases hh with hh | hh
      · exact hown p hh
      · exact ⟨by have := h.bs; omega, fun hs => by have := h.S p hs; omega⟩
    · rw [if_neg e] at hz; rw [if_neg (Ne.symm e)] at hm1
      obtain ⟨z1, hz1, rfl⟩ := lk hz
      rw [live_repl] at hlz
      exact h.own i z1 b1 p hz1 hlz hm1 hp1
  · rw [hset] at hm1
    by_cases e : i = id
    · rw [if_pos e] at hm1; cases hm1; exact (hq p hp1).2
    · rw [if_neg e] at hm1; exact Nat.lt_of_lt_of_le (h.blk i b1 p hm1 hp1) hsz
  · rw [hset] at hm1
    by_cases e : i = id
    · rw [e]; exact h.nx id b hm
    · rw [if_neg e] at hm1; exact h.nx i b1 hm1
  · exact hoth j (by have := h.bs; omega) (fun e => by have := (hown j e).1; omega)

/-- A row is written anew, in its block or in another one. -/
theorem Rel.rewrite (h : Rel base w0 S0 N D sv g σ a w) {id : Nat} {b b' : Gb} {x y : AB} (hx : look id σ.mem = some x) (hl : x.live = true) (hm : g.m id = some b) (hsz : w.heap.size ≤ w'.heap.size) (hos : w'.os = w.os ∧ w'.tape = w.tape ∧ w'.output = w.output)
    (hoth : ∀ j, j < w.heap.size → b.blk ≠ some j → w'.heap[j]? = w.heap[j]?) (hq : ∀ q, b'.blk = some q → (b.blk = some q ∨ (w.heap.size ≤ q)) ∧ q < w'.heap.size)
    (hB : Holds g w w' → BR (g.set id b') w' b' y) : Rel base w0 S0 N D sv (g.set id b') (rewrite id y σ) a w' :=
  h.rewriteF (scrubAt id) hx hl hm hsz hos hoth hq hB fun hH x v hv => by
    unfold scrubAt
    exact hv.repl hH (fun _ h => h) (fun i hi b hb => by
      show (if i = id then some b' else g.m i) = some b
      rw [if_neg hi]; exact hb) (fun v hv => .dead _ hv.one) (fun o n v hv => .dead _ hv.one)

theorem VA.regrow {id : Nat} {b b2 : Gb} (hH : Holds g w w') (hm : g.m id = some b) (e1 : b2.blk = b.blk) (e2 : b2.cp = b.cp) (e3 : b2.sz = b.sz) (e4 : b2.val = b.val) {x : At} {v : Value} (h : VA g w x v) : VA (g.set id b2) w' (scrubOwn id x) v := by
  have get : ∀ {i : Nat} {b' : Gb}, g.m i = some b' → ∃ b'', (g.set id b2).m i = some b'' ∧ b''.blk = b'.blk ∧ b''.cp = b'.cp ∧ b''.sz = b'.sz ∧ b''.val = b'.val := by
    intro i b' hb'
    show ∃ b'', (if i = id then some b2 else g.m i) = some b'' ∧ _
    by_cases e : i = id
    · subst e; rw [hm] at hb'; cases hb'
      exact ⟨b2, if_pos rfl, e1, e2, e3, e4⟩
    · exact ⟨b', by rw [if_neg e]; exact hb', rfl, rfl, rfl, rfl⟩
  have pure : pureA x = true → VA (g.set id b2) w' x v := fun hp => (h.pure (g' := ⟨g.S, fun _ => none⟩) hp (fun _ h => h)).mono hH ⟨fun _ h => h, fun _ _ h => by cases h⟩
  cases x
  case own i =>
    simp only [scrubOwn]
    split
    · exact .dead _ h.one
    · rename_i e
      have e : i ≠ id := fun e' => by subst e'; simp at e
      cases h with
      | own _ b' ad hm' hk h0 => exact .own i b' ad (by show (if i = id then some b2 else g.m i) = some b'; rw [if_neg e]; exact hm') hk h0
  case sub i off len =>
    cases h with
    | sub _ _ _ b' ad cc hm' hl hc hk =>
      obtain ⟨b'', g1, g2, g3, g4, g5⟩ := get hm'
      exact .sub i off len b'' ad cc g1 (by rw [g3]; exact hl) (by rw [g3]; exact hc) (by rw [g2, g4]; exact hk)
  case ptr i off =>
    cases h with
    | ptr _ _ b' k hm' hk => obtain ⟨b'', g1, g2, g3, g4, g5⟩ := get hm'; exact .ptr i off b'' k g1 (by rw [g2]; exact hk)
  case eptr i p q =>
    cases h with
    | eptr _ _ _ b' k hm' hk =>
      obtain ⟨b'', g1, g2, g3, g4, g5⟩ := get hm'
      have := VA.eptr (g := g.set id b2) (w := w') i p q b'' k g1 (by rw [g2]; exact hk)
      rw [g4] at this; exact this
  case clo i =>
    cases h with
    | clo _ b' f fs cs hm' hv => obtain ⟨b'', g1, g2, g3, g4, g5⟩ := get hm'; exact .clo i b'' f fs cs g1 (by rw [g5]; exact hv)
  case mapr i =>
    cases h with
    | mapr _ b' k hm' hk => obtain ⟨b'', g1, g2, g3, g4, g5⟩ := get hm'; exact .mapr i b'' k g1 (by rw [g2]; exact hk)
  case iter i =>
    cases h with
    | iter _ b' k hm' hk => obtain ⟨b'', g1, g2, g3, g4, g5⟩ := get hm'; exact .iter i b'' k g1 (by rw [g2]; exact hk)
  case dead => exact .dead _ h.one
  case nilp => cases h; exact .nilp
  case nilf => cases h; exact .nilf
  case nilm => cases h; exact .nilm
  case clip τ l =>
    cases h with
    | clip _ _ ad nn bk of f hn ha hcell hf =>
      exact .clip τ l ad nn bk of f hn ha (fun i j hi hj => by rw [cell_of_heap (hH bk (ha (ne_of_lt hi)).2)]; exact hcell i j hi hj) (fun i x j y hx hy =>
        ((hf i x j y hx hy).pure (g' := ⟨g.S, fun _ => none⟩) (enc_pure _ _ _ _ hy) (fun _ h => h)).mono hH ⟨fun _ h => h, fun _ _ h => by cases h⟩)
  case vptr τ y j =>
    cases h with
    | vptr _ _ _ bk of f ha hcell hf =>
      exact .vptr τ y j bk of f ha (fun i hi => by rw [cell_of_heap (hH bk ha)]; exact hcell i hi) (fun i y hy =>
        ((hf i y hy).pure (g' := ⟨g.S, fun _ => none⟩) (enc_pure _ _ _ _ hy) (fun _ h => h)).mono hH ⟨fun _ h => h, fun _ _ h => by cases h⟩)
  all_goals exact pure rfl

end
end Go.Eng
