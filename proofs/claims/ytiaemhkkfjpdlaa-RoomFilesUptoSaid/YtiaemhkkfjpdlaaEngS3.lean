import Derived.Test.YtiaemhkkfjpdlaaEngS2
/- THE ENGINE, soundness, part 3: operations that turn no block. -/
set_option linter.unusedSimpArgs false
set_option linter.unusedVariables false
set_option linter.unnecessarySimpa false
namespace Go.Eng
open Go Go.RowKit

theorem bcase_some {α : Type} {b : Bool} {x y : Option α} {r : α} (h : bcase b x y = some r) : (b = true ∧ x = some r) ∨ (b = false ∧ y = some r) := by
  cases b
  · exact .inr ⟨rfl, h⟩
  · exact .inl ⟨rfl, h⟩
theorem ocase_some {α β : Type} {o : Option α} {f : α → Option β} {r : β} (h : ocase o f = some r) : ∃ x, o = some x ∧ f x = some r := by
  cases o with
  | none => simp [ocase] at h
  | some x => exact ⟨x, rfl, h⟩
theorem lcase_some {α : Type} {n : Nat} {x : Option α} {r : α} (h : lcase n x = some r) : n ≤ LIM ∧ x = some r := by
  unfold lcase at h
  split at h
  · exact ⟨Nat.le_of_ble_eq_true ‹_›, h⟩
  · simp at h

def Gh.grow (g : Gh) (w w' : World) : Gh := { S := fun k => g.S k ∨ (w.heap.size ≤ k ∧ k < w'.heap.size), m := g.m }
theorem Gh.le_grow (g : Gh) (w w' : World) : g.le (g.grow w w') := ⟨fun _ h => .inl h, fun _ _ h => h⟩
theorem Holds.refl (g : Gh) (w : World) : Holds g w w := fun _ _ => rfl
theorem Holds.of_below {g : Gh} {w w' : World} (hS : ∀ k, g.S k → k < w.heap.size) (h : Below w.heap.size w w') : Holds g w w' := fun k hk => h.block k (hS k hk)

def MemOK (g : Gh) (w : World) (m : Mem) : Prop := ∀ id x, look id m = some x → ∃ b, g.m id = some b ∧ BR g w b x

/-- A function does what its spec says, whatever is handed in. -/
def SpecCalls (P : Program) (f : Nat) (s : Spec) : Prop :=
  ∀ (S : Nat → Prop) (w : World) (args : List AV) (vs : List Value) (x : s.X) (y : s.Y), (∀ k, S k → k < w.heap.size) → All2 (AVR ⟨S, fun _ => none⟩ w) args vs → s.pat args = some x → s.f x = some y →
    Calls P f vs.toArray w fun e w' => ∃ v, e = .returned v ∧ Below w.heap.size w w' ∧ AVR ⟨fun k => S k ∨ (w.heap.size ≤ k ∧ k < w'.heap.size), fun _ => none⟩ w' (s.enc y) v

structure SpecOK (P : Program) (f : Nat) (s : Spec) : Prop where
  enters : ∀ args w, (callFunc f args).run P w = .ok (.enter f args) w
  calls : SpecCalls P f s

/-! Structs that '==' holds together cell by cell. -/
def ekB (P : Program) (t : TypeId) : EK → Bool
  | .i => match P.underlying t with | some (.int _) => true | _ => false
  | .b => match P.underlying t with | some .bool => true | _ => false
  | .s => match P.underlying t with | some .string => true | _ => false
def eqFB (P : Program) : Nat → List Field → List EK → Bool
  | _, [], [] => true
  | i, f :: l, e :: es => Nat.beq f.offset i && (f.name != "_" && (ekB P f.type e && eqFB P (i + 1) l es))
  | _, _, _ => false
def eqB (P : Program) (t : TypeId) (es : List EK) : Bool :=
  match P.underlying t with
  | some (.struct fs) => !(P.stoodInHeld t) && (!(P.eqGuardType P.depth t) && eqFB P 0 fs.toList es)
  | _ => false
def EqsOK (P : Program) (c : Cfg) : Prop := ∀ t es, look t c.eqs = some es → eqB P t es = true

structure Env (P : Program) (c : Cfg) (g : Gh) (r : Regs) (m : Mem) (xs : List Operand) (a : Act) (w : World) : Prop where
  ev : ∀ x, x ∈ xs → ∀ t y, ev c r t x = some y → AVR g w y (a.eval x)
  mem : MemOK g w m
  ts : TsOK P c
  sp : ∀ f s, look f c.spec = some s → SpecOK P f s
  S : ∀ k, g.S k → k < w.heap.size
  blk : ∀ id b k, g.m id = some b → b.blk = some k → k < w.heap.size
  eqs : EqsOK P c

theorem constAV_ok {c : Cfg} {t : TypeId} {v : Value} {y : AV} (h : constAV c t v = some y) (g : Gh) (w : World) : AVR g w y v := by
  unfold constAV at h
  split at h
  · cases h; exact VA.bool _
  · cases h; exact VA.int _ _
  · cases h; exact VA.str _ _ rfl
  · split at h
    · cases h
      exact VA.clip _ [] none 0 0 0 (fun _ _ => default) rfl (fun h => absurd rfl h) (fun i j hi _ => by simp at hi) (fun i x j y hx _ => by simp at hx)
    · simp at h
  · cases h; exact VA.nilp
  · cases h; exact VA.nilf
  · cases h; exact VA.nilm
  · simp at h

theorem env_ev {c : Cfg} {g : Gh} {r : Regs} {a : Act} {w : World} {o : Oper} {sv : Nat → Value} (hr : ∀ t, t ∈ opTmps o → ∀ x, look t r = some x → AVR g w x (vof sv a t)) :
    ∀ x, x ∈ o.op.operands.toList → ∀ t y, ev c r t x = some y → AVR g w y (a.eval x) := by
  intro x hx t y h
  cases x with
  | tmp n => obtain ⟨hn, h⟩ := lookT_some h; have := hr n (List.mem_filterMap.2 ⟨.tmp n, hx, rfl⟩) y h; rw [vof_lt hn] at this; exact this
  | const v => exact constAV_ok h g w
  | func f => simp only [ev, Option.some.injEq] at h; subst h; exact VA.fnc f
  | _ => simp [ev] at h

section
variable {P : Program} {F : Fence} {n : Nat} {c : Cfg} {g : Gh} {r : Regs} {m : Mem} {xs : List Operand} {a : Act} {w : World} {o : Oper} {R : Type} {k : AV → Option R} {res : R}

theorem Env.evV (E : Env P c g r m xs a w) {x : Operand} (hx : x ∈ xs) {t : TypeId} {y : V1} (h : evV c r t x = some y) : V1R g w y (a.eval x) := by
  unfold Go.Eng.evV at h
  split at h
  · rename_i z hz; cases h; exact E.ev x hx t _ hz
  · simp at h
theorem Env.evA (E : Env P c g r m xs a w) {x : Operand} (hx : x ∈ xs) {t : TypeId} {y : At} (h : evA c r t x = some y) : VA g w y (a.eval x) := by
  unfold Go.Eng.evA at h
  split at h
  · rename_i z hz; cases h; exact E.ev x hx t _ hz
  · simp at h

def QRes (P : Program) (F : Fence) (n : Nat) (g : Gh) (w : World) (o : Oper) (a : Act) (y : AV) : Prop :=
  ∀ (K : Act → World → Prop) (Q : Exit → Act → World → Prop), (∀ v w', Below w.heap.size w w' → AVR (g.grow w w') w' y v → K (a.put o.dst v) w') → o.wpIn F n P a w K Q

/-- A fence round everything. -/
structure WideF (F : Fence) : Prop where
  fn : ∀ f, F.fn f
  depth : F.depth = none
  alive : F.alive = false

theorem QRes.val (hF : WideF F) {y : AV} {v : Value} (hd : ∀ c, o.op ≠ .defer c) (hr : (execOp a.eval o).run P w = .ok (.value v) w) (hv : AVR g w y v) : QRes P F n g w o a y := by
  intro K Q hK
  refine ⟨fun f _ => hF.fn f, ?_⟩
  rw [Oper.semAt_eq _ _ _ hd, hr]
  exact hK v w (Below.refl _ _) (hv.mono (Holds.refl _ _) (Gh.le_grow _ _ _))

theorem q_move (E : Env P c g r m xs a w) (hF : WideF F) {x : Operand} (hx : x ∈ xs) (hop : o.op = .move x ∨ o.op = .assign x) (h : ocase (Go.Eng.ev c r o.type x) k = some res) :
    ∃ y, k y = some res ∧ QRes P F n g w o a y := by
  obtain ⟨y, hy, hk⟩ := ocase_some h
  refine ⟨y, hk, QRes.val hF ?_ ?_ (E.ev x hx _ _ hy)⟩
  · intro c; rcases hop with h | h <;> simp [h]
  · rcases hop with h | h <;> simp [execOp, h]

theorem q_pick (E : Env P c g r m xs a w) (hF : WideF F) {b x y : Operand} (hb : b ∈ xs) (hx : x ∈ xs) (hy : y ∈ xs) (hop : o.op = .pick b x y)
    {t : Bool} (ht : Go.Eng.evA c r 0 b = some (.bool t)) (h : bcase t (ocase (Go.Eng.ev c r o.type x) k) (ocase (Go.Eng.ev c r o.type y) k) = some res) :
    ∃ y, k y = some res ∧ QRes P F n g w o a y := by
  have hbv : a.eval b = .bool t := by
    have := E.evA hb ht
    generalize a.eval b = u at this ⊢
    cases this; rfl
  rcases bcase_some h with ⟨rfl, h⟩ | ⟨rfl, h⟩
  · obtain ⟨z, hz, hk⟩ := ocase_some h
    exact ⟨z, hk, QRes.val hF (by simp [hop]) (by simp [execOp, hop, hbv, asBool]) (E.ev x hx _ _ hz)⟩
  · obtain ⟨z, hz, hk⟩ := ocase_some h
    exact ⟨z, hk, QRes.val hF (by simp [hop]) (by simp [execOp, hop, hbv, asBool]) (E.ev y hy _ _ hz)⟩

/-! Loads. -/
theorem cells_of_row {g : Gh} {w : World} {τ : Ty} {x : τ.T} {bk of : Nat} {f : Nat → Value} (hcell : ∀ i, i < τ.n → w.cell? ⟨bk, of + i, none⟩ = some (f i))
    (hf : ∀ i y, (τ.enc x)[i]? = some y → VA g w y (f i)) {j n : Nat} (hj : j + n ≤ τ.n) :
    ∃ us : List Value, us.length = n ∧ (∀ i u, us[i]? = some u → w.cell? ⟨bk, of + j + i, none⟩ = some u) ∧ All2 (VA g w) (((τ.enc x).drop j).take n) us := by
  refine ⟨(List.range n).map fun i => f (j + i), by simp, fun i u hu => ?_, All2.of_get (by simp [enc_length]; omega) fun i x' u hx hu => ?_⟩
  · have hi : i < n := by
      rcases Nat.lt_or_ge i n with h | h
      · exact h
      · rw [List.getElem?_eq_none (by simpa using h)] at hu; cases hu
    simp [hi] at hu
    subst hu
    rw [show of + j + i = of + (j + i) from by omega]
    exact hcell (j + i) (by omega)
  · have hi : i < n := by
      rcases Nat.lt_or_ge i n with h | h
      · exact h
      · rw [List.getElem?_eq_none (by simpa using h)] at hu; cases hu
    simp [hi] at hu
    subst hu
    rw [List.getElem?_take_of_lt hi, List.getElem?_drop] at hx
    exact hf _ _ hx

theorem cellsAt_ok {p : At} {n : Nat} {k : List At → Option R} {v : Value} (hm : MemOK g w m) (hp : VA g w p v) (h : cellsAt m p n k = some res) :
    ∃ cs us bk of, k cs = some res ∧ v = .pointer (some ⟨bk, of, none⟩) ∧ us.length = n ∧ (∀ i u, us[i]? = some u → w.cell? ⟨bk, of + i, none⟩ = some u) ∧ All2 (VA g w) cs us := by
  unfold cellsAt at h
  split at h
  · rename_i id off
    split at h
    · rename_i l hl
      split at h
      · rename_i hle
        cases hp with
        | ptr _ _ b k' hb hk' =>
          obtain ⟨b', hb', k2, cs, e, hk2, hh, ha⟩ := hm _ _ hl
          rw [hb] at hb'; cases hb'
          rw [hk'] at hk2; cases hk2
          have hle := Nat.le_of_ble_eq_true hle
          have hlen := ha.length
          refine ⟨_, (cs.toList.drop off).take n, k', off, h, rfl, ?_, fun i u hu => ?_, (ha.drop off).take n⟩
          · simp; simp at hlen; omega
          · have hi : i < n := by
              rcases Nat.lt_or_ge i n with h' | h'
              · exact h'
              · rw [List.getElem?_eq_none (by simp; omega)] at hu; cases hu
            rw [List.getElem?_take_of_lt hi, List.getElem?_drop] at hu
            simp [World.cell?, hh]
            simpa using hu
      · simp at h
    · simp at h
  · rename_i id i j
    split at h
    · rename_i τ l hl
      split at h
      · rename_i hle
        obtain ⟨x, hx, hk⟩ := ocase_some h
        cases hp with
        | eptr _ _ _ b k' hb hk' =>
          obtain ⟨b', hb', hbr⟩ := hm _ _ hl
          rw [hb] at hb'; cases hb'
          obtain ⟨f, hf1, hf2⟩ := hbr.cell hk'
          obtain ⟨h1, h2, h3⟩ := hbr.len
          have hi : i < l.length := by
            rcases Nat.lt_or_ge i l.length with h' | h'
            · exact h'
            · rw [List.getElem?_eq_none h'] at hx; cases hx
          obtain ⟨us, hu1, hu2, hu3⟩ := cells_of_row (g := g) (w := w) (τ := τ) (x := x) (bk := k') (of := i * b.sz) (f := f i) (fun q hq => by rw [h3]; exact hf1 i q (by omega) hq) (fun q y hy => hf2 i x q y hx hy) (Nat.le_of_ble_eq_true hle)
          exact ⟨_, us, k', _, hk, rfl, hu1, hu2, hu3⟩
      · simp at h
    · simp at h
  · rename_i τ x j
    split at h
    · rename_i hle
      cases hp with
      | vptr _ _ _ bk of f ha hcell hf =>
        obtain ⟨us, hu1, hu2, hu3⟩ := cells_of_row hcell hf (Nat.le_of_ble_eq_true hle)
        exact ⟨_, us, bk, _, h, rfl, hu1, hu2, hu3⟩
    · simp at h
  · simp at h

theorem add_none (b o n : Nat) : (⟨b, o, none⟩ : Addr).add n = ⟨b, o + n, none⟩ := by
  unfold Addr.add; split
  · rename_i h; subst h; rfl
  · rfl

theorem run_isAgg {t : TypeId} {d : TypeDesc} (h : P.underlying t = some d) : (isAgg t).run P w = .ok (aggD d) w := by
  simp only [isAgg, Sem.run_bind, run_underlying h, Result.andThen_ok]
  cases d <;> rfl
theorem run_sizeOf {t : TypeId} {i : TypeInfo} (h : P.info? t = some i) : (sizeOf t).run P w = .ok i.size w := by
  simp [sizeOf, typeInfo, h]

theorem ofCells_ok {b : Bool} {l : List At} {v : V1} (h : V1.ofCells b l = some v) : (b = true ∧ v = .agg l) ∨ (b = false ∧ ∃ x, l = [x] ∧ v = .one x) := by
  unfold V1.ofCells at h
  split at h
  · cases h; exact .inl ⟨rfl, rfl⟩
  · cases h; exact .inr ⟨rfl, _, rfl, rfl⟩
  · simp at h

theorem run_loadVar {t : TypeId} {ti : TI} {i : TypeInfo} {d : TypeDesc} (T : TIok P t ti i d) {bk of : Nat} {us : List Value} (hl : us.length = ti.size)
    (hc : ∀ i u, us[i]? = some u → w.cell? ⟨bk, of + i, none⟩ = some u) {cs : List At} (ha : All2 (VA g w) cs us) {v : V1} (hv : V1.ofCells ti.agg cs = some v) :
    ∃ u, (loadVar t ⟨bk, of, none⟩).run P w = .ok u w ∧ V1R g w v u := by
  rcases ofCells_ok hv with ⟨hb, rfl⟩ | ⟨hb, x, rfl, rfl⟩
  · refine ⟨.agg us.toArray, ?_, us, rfl, ha⟩
    have hlc := run_loadCells_list (P := P) w ⟨bk, of, none⟩ us (fun j u hu => by rw [add_none]; exact hc j u hu)
    simp only [loadVar, Sem.run_bind, run_isAgg T.und, Result.andThen_ok, T.agg, hb, if_true, run_sizeOf T.info, T.size, ← hl, hlc, Sem.run_pure]
  · cases ha with
    | cons h1 t1 =>
      cases t1
      rename_i u
      refine ⟨u, ?_, h1⟩
      have := hc 0 u rfl
      simp only [Nat.add_zero] at this
      simp [loadVar, run_isAgg T.und, T.agg, hb, this]

theorem q_load (E : Env P c g r m xs a w) (hF : WideF F) {t : TypeId} {x : Operand} (hx : x ∈ xs) (hop : o.op = .load t x) {ti : TI} {p : At} (hti : c.ti t = some ti) (hp : Go.Eng.evA c r 0 x = some p)
    (h : cellsAt m p ti.size (fun l => ocase (V1.ofCells ti.agg l) fun v => k (.v v)) = some res) : ∃ y, k y = some res ∧ QRes P F n g w o a y := by
  obtain ⟨i, d, T⟩ := E.ts t ti hti
  obtain ⟨cs, us, bk, of, hk, hv, hl, hc, ha⟩ := cellsAt_ok E.mem (E.evA hx hp) h
  obtain ⟨v, hv1, hk⟩ := ocase_some hk
  obtain ⟨u, hu, hvu⟩ := run_loadVar T hl hc ha hv1
  exact ⟨_, hk, QRes.val hF (by simp [hop]) (v := u) (by simp [execOp, hop, hv, Instr.loadAt, Instr.sureAddr, hu]) hvu⟩

theorem q_nilCheck (E : Env P c g r m xs a w) (hF : WideF F) {x : Operand} (hx : x ∈ xs) (hop : o.op = .nilCheck x) {p : At} (hp : Go.Eng.evA c r 0 x = some p)
    (hk : k (.one p) = some res) (hc : (∃ id off, p = .ptr id off) ∨ (∃ id i j, p = .eptr id i j) ∨ (∃ τ x j, p = .vptr τ x j) ∨ (∃ f, p = .fnc f) ∨ (∃ f, p = .clo f)) :
    ∃ y, k y = some res ∧ QRes P F n g w o a y := by
  have hv := E.evA hx hp
  refine ⟨_, hk, QRes.val hF (by simp [hop]) (v := a.eval x) ?_ hv⟩
  simp only [execOp, hop]
  generalize a.eval x = u at hv ⊢
  rcases hc with ⟨_, _, rfl⟩ | ⟨_, _, _, rfl⟩ | ⟨_, _, _, rfl⟩ | ⟨_, rfl⟩ | ⟨_, rfl⟩ <;> cases hv <;> simp

theorem struct_get {t : TypeId} {ti : TI} {i : TypeInfo} {d : TypeDesc} (T : TIok P t ti i d) {fs : List (Nat × TypeId)} (hk : ti.k = .struct fs) {f off : Nat} {t' : TypeId} (hf : fs[f]? = some (off, t')) :
    ∃ (fields : Array Field) (fd : Field), P.underlying t = some (.struct fields) ∧ fields[f]? = some fd ∧ fd.offset = off ∧ fd.type = t' ∧ ∃ j, P.info? t' = some j ∧ j.size ≠ 0 := by
  obtain ⟨fields, rfl, hb⟩ := T.struct hk
  obtain ⟨fd, h1, h2⟩ := fieldsB_get hb hf
  exact ⟨fields, fd, T.und, by simpa using h1, h2⟩

theorem run_fieldPlace {bk of : Nat} {fd : Field} {j : TypeInfo} (hj : P.info? fd.type = some j) (h0 : j.size ≠ 0) : (fieldPlace ⟨bk, of, none⟩ fd).run P w = .ok ⟨bk, of + fd.offset, none⟩ w := by
  simp [fieldPlace, run_sizeOf hj, h0, add_none]

theorem run_fieldAt {s : TypeId} {fields : Array Field} {f : Nat} {fd : Field} {j : TypeInfo} (hu : P.underlying s = some (.struct fields)) (hf : fields[f]? = some fd) (hj : P.info? fd.type = some j) (h0 : j.size ≠ 0) (bk of : Nat) :
    (Instr.fieldAt s (.pointer (some ⟨bk, of, none⟩)) f).run P w = .ok (.pointer (some ⟨bk, of + fd.offset, none⟩)) w := by
  simp [Instr.fieldAt, run_underlying hu, hf, Instr.sureAddr, run_fieldPlace hj h0]

theorem q_fieldAddr (E : Env P c g r m xs a w) (hF : WideF F) {s : TypeId} {x : Operand} {f : Nat} (hx : x ∈ xs) (hop : o.op = .fieldAddr s x f) {ti : TI} {fs : List (Nat × TypeId)} (hti : c.ti s = some ti) (hfs : ti.k = .struct fs)
    {p : At} (hp : Go.Eng.evA c r 0 x = some p) {off : Nat} {t' : TypeId} (hf : fs[f]? = some (off, t'))
    (h : (match (generalizing := false) p with
        | .ptr id o => k (.one (.ptr id (o + off)))
        | .eptr id i j => k (.one (.eptr id i (j + off)))
        | .vptr τ x j => k (.one (.vptr τ x (j + off)))
        | _ => none) = some res) : ∃ y, k y = some res ∧ QRes P F n g w o a y := by
  obtain ⟨i, d, T⟩ := E.ts s ti hti
  obtain ⟨fields, fd, hu, hfd, ho, rfl, j, hj, h0⟩ := struct_get T hfs hf
  have hv := E.evA hx hp
  have fin : ∀ {q : At} {bk of : Nat}, a.eval x = .pointer (some ⟨bk, of, none⟩) → VA g w q (.pointer (some ⟨bk, of + off, none⟩)) → QRes P F n g w o a (.one q) := by
    intro q bk of e hq
    refine QRes.val hF (by simp [hop]) (v := .pointer (some ⟨bk, of + off, none⟩)) ?_ hq
    simp [execOp, hop, e, run_fieldAt hu hfd hj h0, ho]
  generalize hev : a.eval x = u at hv
  split at h
  · cases hv with
    | ptr id o b k' hm hk => exact ⟨_, h, fin hev (.ptr _ _ b k' hm hk)⟩
  · cases hv with
    | eptr id i j b k' hm hk => exact ⟨_, h, fin hev (by rw [Nat.add_assoc]; exact .eptr _ _ _ b k' hm hk)⟩
  · cases hv with
    | vptr τ x j bk of f ha hcell hf => exact ⟨_, h, fin hev (by rw [Nat.add_assoc]; exact .vptr _ _ _ bk of f ha hcell hf)⟩
  · simp at h

theorem q_index (E : Env P c g r m xs a w) (hF : WideF F) {t : TypeId} {x i : Operand} (hx : x ∈ xs) (hi : i ∈ xs) (hop : o.op = .index t x i) {s : Str} {κ : IntKind} {q : Int}
    (hs : Go.Eng.evV c r t x = some (.one (.str s))) (hq : Go.Eng.evA c r 0 i = some (.int κ q)) (hu : P.underlying t = some .string)
    (h : bcase (decide (0 ≤ q)) (ocase s[q.toNat]? fun b => k (.one (.int .u8 b.toNat))) none = some res) : ∃ y, k y = some res ∧ QRes P F n g w o a y := by
  have h1 : VA g w (.str s) (a.eval x) := E.evV hx hs
  have h2 := E.evA hi hq
  generalize hxv : a.eval x = u at h1
  generalize hiv : a.eval i = u' at h2
  rcases bcase_some h with ⟨h0, h⟩ | ⟨_, h⟩
  · simp only [decide_eq_true_eq] at h0
    obtain ⟨b, hb, hk⟩ := ocase_some h
    cases h1 with
    | str _ bs e =>
      cases h2
      refine ⟨_, hk, QRes.val hF (by simp [hop]) (v := .int .u8 b.toNat) ?_ (VA.int _ _)⟩
      have hsz : q.toNat < bs.size := by
        rcases Nat.lt_or_ge q.toNat s.length with h' | h'
        · rw [← e] at h'; simpa using h'
        · rw [List.getElem?_eq_none h'] at hb; cases hb
      have hb' : bs[q.toNat]? = some b := by
        rw [← e] at hb
        simp only [Array.getElem?_toList] at hb
        rw [getElem?_pos bs q.toNat hsz]
        rw [getElem?_pos bs.data q.toNat hsz] at hb
        exact hb
      simp [execOp, hop, hxv, hiv, Instr.index, asIntOf, run_underlying hu, h0, hb']
  · simp at h

theorem q_extract (E : Env P c g r m xs a w) (hF : WideF F) {x : Operand} {i : Nat} (hx : x ∈ xs) (hop : o.op = .extract x i) {l : List V1} {v : V1} (hl : Go.Eng.ev c r 0 x = some (.tup l)) (hv : l[i]? = some v)
    (hk : k (.v v) = some res) : ∃ y, k y = some res ∧ QRes P F n g w o a y := by
  obtain ⟨vs, he, ha⟩ := E.ev x hx _ _ hl
  obtain ⟨u, hu, hr⟩ := ha.get hv
  refine ⟨_, hk, QRes.val hF (by simp [hop]) (v := u) ?_ hr⟩
  have : vs.toArray[i]? = some u := by simpa using hu
  simp [execOp, hop, he, Instr.extract, hu]

end
end Go.Eng
