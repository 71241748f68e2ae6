import Derived.Test.YtiaemhkkfjpdlaaEngS4
/- THE ENGINE, soundness, part 5: operations that turn no block: building structs, conversions, parts of slices, lengths, calls. -/
set_option linter.unusedSimpArgs false
set_option linter.unusedVariables false
set_option linter.unnecessarySimpa false
namespace Go.Eng
open Go Go.RowKit

section
variable {P : Program} {F : Fence} {n : Nat} {c : Cfg} {g : Gh} {r : Regs} {m : Mem} {xs : List Operand} {a : Act} {w : World} {o : Oper} {R : Type} {k : AV → Option R} {res : R}

/-! Cells laid into others. -/
def setVals (l : List Value) (off : Nat) : List Value → List Value
  | [] => l
  | x :: r => setVals (l.set off x) (off + 1) r

theorem setVals_ok : ∀ {p : List At} {u : List Value} {l : List At} {v : List Value} (off : Nat), All2 (VA g w) p u → All2 (VA g w) l v → All2 (VA g w) (setCells l off p) (setVals v off u)
  | [], [], _, _, _, _, h => h
  | x :: p, y :: u, l, v, off, hp, h => by
    cases hp with
    | cons h1 h2 => exact setVals_ok (off + 1) h2 (h.set h1 off)
  | [], _ :: _, _, _, _, hp, _ => by cases hp
  | _ :: _, [], _, _, _, hp, _ => by cases hp

theorem setVals_length : ∀ (u l : List Value) (off : Nat), (setVals l off u).length = l.length
  | [], l, off => rfl
  | x :: u, l, off => by simp [setVals, setVals_length u]

theorem fold_setVals : ∀ (u : List Value) (cs : Array Value) (off j : Nat), (u.zipIdx j).foldl (fun cs (x : Value × Nat) => cs.setIfInBounds (off + x.2) x.1) cs = (setVals cs.toList (off + j) u).toArray
  | [], cs, off, j => by simp [setVals]
  | x :: u, cs, off, j => by
    simp only [List.zipIdx_cons, List.foldl_cons, setVals]
    rw [fold_setVals u _ off (j + 1)]
    simp [Nat.add_assoc]

theorem fold_cells (v : Value) (cs : Array Value) (off : Nat) : v.cells.zipIdx.foldl (fun cs (c, j) => cs.setIfInBounds (off + j) c) cs = (setVals cs.toList off v.cells.toList).toArray := by
  have h := fold_setVals v.cells.toList cs off 0
  simp only [Nat.add_zero] at h
  rw [← h, ← Array.foldl_toList]
  simp

theorem run_fields (fs : Array Field) (hs : ∀ f ∈ fs.toList, ∃ i, P.info? f.type = some i) :
    (fs.mapM fun f => do pure (f.offset, ← sizeOf f.type) : Sem (Array (Nat × Nat))).run P w = .ok (fs.map fun f => (f.offset, P.cellsOf f.type)) w := by
  rw [Array.mapM_eq_mapM_toList]
  have : ∀ (l : List Field), (∀ f ∈ l, ∃ i, P.info? f.type = some i) → (l.mapM fun f => do pure (f.offset, ← sizeOf f.type) : Sem (List (Nat × Nat))).run P w = .ok (l.map fun f => (f.offset, P.cellsOf f.type)) w := by
    intro l hl
    induction l with
    | nil => simp
    | cons f l ih =>
      obtain ⟨i, hi⟩ := hl f (by simp)
      simp only [List.mapM_cons, Sem.run_bind, run_sizeOf hi, Result.andThen_ok, Sem.run_pure, ih (fun f hf => hl f (by simp [hf]))]
      simp [Program.cellsOf, hi]
  rw [Sem.run_map, this fs.toList hs]
  simp only [Result.andThen_ok]
  congr 1
  apply Array.ext'
  simp

theorem fill_ok (E : Env P c g r m xs a w) {fs : List (Nat × TypeId)} {fields : Array Field} (hb : fieldsB P fields.toList fs = true) :
    ∀ (parts : List (Nat × Operand)) (cells : List At) (vals : Array Value) (l : List At), (∀ q ∈ parts, q.2 ∈ xs) → All2 (VA g w) cells vals.toList → fillQ c r fs cells parts = some l →
      ∃ out : Array Value, Instr.fill ((fields.map fun f => (f.offset, P.cellsOf f.type))[·]?) vals (parts.map fun (i, x) => (i, a.eval x)) = some out ∧ All2 (VA g w) l out.toList
  | [], cells, vals, l, _, ha, h => by
    simp only [fillQ, Option.some.injEq] at h
    subst h
    exact ⟨vals, by simp [Instr.fill], ha⟩
  | (i, x) :: parts, cells, vals, l, hxs, ha, h => by
    simp only [fillQ] at h
    split at h
    · simp at h
    · rename_i off t hf
      split at h
      · rename_i ti v hti hv
        split at h
        · rename_i h1 h2
          have h1 := Nat.eq_of_beq_eq_true h1
          have h2 := Nat.le_of_ble_eq_true h2
          obtain ⟨fd, hfd, hfo, hft, j, hj, hj0⟩ := fieldsB_get hb hf
          obtain ⟨i', d, T⟩ := E.ts t ti hti
          have hvr := E.evV (hxs (i, x) (by simp)) hv
          have hvc := hvr.cells
          have hlen := hvc.length
          have hcl := ha.length
          have hsz : P.cellsOf fd.type = ti.size := by rw [hft]; simp [Program.cellsOf, T.info, T.size]
          have ha' := setVals_ok off hvc ha
          obtain ⟨out, ho, hoa⟩ := fill_ok E hb parts _ (setVals vals.toList off (a.eval x).cells.toList).toArray l (fun q hq => hxs q (by simp [hq])) (by simpa using ha') h
          refine ⟨out, ?_, hoa⟩
          have hgf : (fields.map fun f => (f.offset, P.cellsOf f.type))[i]? = some (off, ti.size) := by
            have : fields[i]? = some fd := by simpa using hfd
            simp [this, hfo, hsz]
          have e1 : (a.eval x).cells.size = ti.size := by simp at hlen; omega
          have e2 : ¬ (off + (a.eval x).cells.size > vals.size) := by simp at hcl; omega
          simp only [List.map_cons, Instr.fill, hgf, e1, e2, ne_eq, not_true_eq_false, decide_false, decide_true, Bool.false_or, Bool.or_false, Bool.false_eq_true, if_false]
          rw [fold_cells]
          have e3 : ¬ (off + ti.size > vals.size) := by omega
          simp only [e3, decide_false, Bool.false_eq_true, if_false]
          exact ho
        · simp at h
      · simp at h

theorem q_build (E : Env P c g r m xs a w) (hF : WideF F) {t : TypeId} {parts : Array (Nat × Operand)} (hxs : ∀ q ∈ parts.toList, q.2 ∈ xs) (hop : o.op = .build t parts) {ti : TI} {fs : List (Nat × TypeId)} {z : List At} (hti : c.ti t = some ti) (hfs : ti.k = .struct fs) (hz : ti.zero = .agg z)
    (h : ocase (fillQ c r fs z parts.toList) (fun l => k (.agg l)) = some res) : ∃ y, k y = some res ∧ QRes P F n g w o a y := by
  obtain ⟨i, d, T⟩ := E.ts t ti hti
  obtain ⟨fields, rfl, hb⟩ := T.struct hfs
  obtain ⟨l, hl, hk⟩ := ocase_some h
  obtain ⟨zv, hzv, -, hzr⟩ := T.zero
  have hzr := hzr g w
  rw [hz] at hzr
  obtain ⟨vs, rfl, hva⟩ := hzr
  obtain ⟨out, ho, hoa⟩ := fill_ok E hb parts.toList z vs.toArray l hxs (by simpa using hva) hl
  refine ⟨_, hk, QRes.val hF (by simp [hop]) (v := .agg out) ?_ ⟨out.toList, by simp, hoa⟩⟩
  have hfl : ∀ f ∈ fields.toList, ∃ i, P.info? f.type = some i := by
    have : ∀ (l : List Field) (m : List (Nat × TypeId)), fieldsB P l m = true → ∀ f ∈ l, ∃ i, P.info? f.type = some i := by
      intro l
      induction l with
      | nil => intro m _ f hf; simp at hf
      | cons f' l ih =>
        intro m hm f hf
        cases m with
        | nil => simp [fieldsB] at hm
        | cons q m =>
          obtain ⟨o', t'⟩ := q
          obtain ⟨fd, h1, h2, h3, j, hj, _⟩ := fieldsB_get hm (k := 0) rfl
          simp at h1
          subst h1
          rcases List.mem_cons.1 hf with rfl | hf
          · exact ⟨j, by rw [h3]; exact hj⟩
          · simp only [fieldsB, Bool.and_eq_true] at hm
            exact ih m hm.2.2.2 f hf
    exact this _ _ hb
  have hzero : (zeroValue t).run P w = .ok (.agg vs.toArray) w := by simp [zeroValue, typeInfo, T.info, hzv]
  simp only [execOp, hop, Instr.build, Sem.run_bind, hzero, Result.andThen_ok, run_underlying T.und, run_fields fields hfl]
  have : (parts.map fun (i, x) => (i, a.eval x)).toList = parts.toList.map fun (i, x) => (i, a.eval x) := by simp
  simp only [this, Value.cells, ho]
  rfl

/-! Conversions. -/
theorem q_convInt (E : Env P c g r m xs a w) (hF : WideF F) {s d : TypeId} {x : Operand} (hx : x ∈ xs) (hop : o.op = .convert s d x) {κ0 κ κ1 : IntKind} {q : Int} {ti tj : TI} (hs : c.ti s = some ti) (hsk : ti.k = .int κ0) (hd : c.ti d = some tj) (hdk : tj.k = .int κ)
    (hq : Go.Eng.ev c r s x = some (.one (.int κ1 q))) (hk : k (.one (.int κ (κ.wrap q))) = some res) : ∃ y, k y = some res ∧ QRes P F n g w o a y := by
  obtain ⟨i, ds, T⟩ := E.ts s ti hs
  obtain ⟨j, dd, T'⟩ := E.ts d tj hd
  have e1 := T.int hsk; have e2 := T'.int hdk
  subst e1; subst e2
  have hv := E.ev x hx _ _ hq
  generalize hxv : a.eval x = v at hv
  cases hv
  refine ⟨_, hk, QRes.val hF (by simp [hop]) (v := .int _ _) ?_ (VA.int _ _)⟩
  simp [execOp, hop, hxv, convert, run_underlying T.und, run_underlying T'.und, Conv.intToInt]

theorem q_convRune (E : Env P c g r m xs a w) (hF : WideF F) {s d : TypeId} {x : Operand} (hx : x ∈ xs) (hop : o.op = .convert s d x) {κ0 κ1 : IntKind} {q : Int} {ti tj : TI} (hs : c.ti s = some ti) (hsk : ti.k = .int κ0) (hd : c.ti d = some tj) (hdk : tj.k = .str)
    (hq : Go.Eng.ev c r s x = some (.v (.one (.int κ1 q)))) (h : k (.one (.str (Utf8.encode q).data.toList)) = some res) : ∃ y, k y = some res ∧ QRes P F n g w o a y := by
  obtain ⟨i, ds, T⟩ := E.ts s ti hs
  obtain ⟨j, dd, T'⟩ := E.ts d tj hd
  have e1 := T.int hsk
  have e2 := T'.str hdk
  subst e1; subst e2
  have hv := E.ev x hx _ _ hq
  generalize hxv : a.eval x = v at hv
  cases hv
  refine ⟨_, h, QRes.val hF (by simp [hop]) (v := .string (Utf8.encode q)) ?_ (VA.str _ _ rfl)⟩
  simp [execOp, hop, hxv, convert, run_underlying T.und, run_underlying T'.und, Conv.intToString]

theorem q_convStr (E : Env P c g r m xs a w) (hF : WideF F) {s d : TypeId} {x : Operand} (hx : x ∈ xs) (hop : o.op = .convert s d x) {q : Str} {ti tj : TI} (hs : c.ti s = some ti) (hsk : ti.k = .str) (hd : c.ti d = some tj) (hdk : tj.k = .str)
    (hq : Go.Eng.ev c r s x = some (.one (.str q))) (hk : k (.one (.str q)) = some res) : ∃ y, k y = some res ∧ QRes P F n g w o a y := by
  obtain ⟨i, ds, T⟩ := E.ts s ti hs
  obtain ⟨j, dd, T'⟩ := E.ts d tj hd
  have e1 := T.str hsk; have e2 := T'.str hdk
  subst e1; subst e2
  have hv := E.ev x hx _ _ hq
  generalize hxv : a.eval x = v at hv
  cases hv with
  | str _ b e =>
    refine ⟨_, hk, QRes.val hF (by simp [hop]) (v := .string b) ?_ (VA.str _ _ e)⟩
    simp [execOp, hop, hxv, convert, run_underlying T.und, run_underlying T'.und]

/-! What a slice holds. -/
theorem listOf_ok {p : At} {v : Value} {kk : (τ : Ty) → List τ.T → Option R} (hm : MemOK g w m) (hp : VA g w p v) (h : listOf m p kk = some res) :
    ∃ τ l ad len cp, kk τ l = some res ∧ v = .slice ad len cp ∧ len = l.length ∧ (∀ S' : Gh, (∀ q, g.S q → S'.S q) → (∀ id b q, id ∈ ownsAt p → g.m id = some b → b.blk = some q → S'.S q) → VA S' w (.sl τ l) v) ∧
      (l ≠ [] → ∃ (bk of : Nat) (f : Nat → Nat → Value), ad = some ⟨bk, of, none⟩ ∧ (∀ i j, i < l.length → j < τ.n → w.cell? ⟨bk, of + (i * τ.n + j), none⟩ = some (f i j)) ∧ ∀ i x j y, l[i]? = some x → (τ.enc x)[j]? = some y → VA g w y (f i j)) := by
  cases p <;> simp only [listOf, reduceCtorEq] at h
  · rename_i τ l
    cases hp with
    | sl _ _ ad len cp bk of f hl hc ha hcell hf =>
      exact ⟨τ, l, _, _, _, h, rfl, hl, fun S' h1 _ => (VA.sl τ l ad len cp bk of f hl hc ha hcell hf).pure rfl h1, fun hne => ⟨bk, of, f, (ha hne).1, hcell, hf⟩⟩
  · rename_i τ l
    cases hp with
    | clip _ _ ad len bk of f hl ha hcell hf =>
      exact ⟨τ, l, _, _, _, h, rfl, hl, fun S' h1 _ => (VA.sl τ l ad len len bk of f hl (Nat.le_refl _) ha hcell hf).pure rfl h1, fun hne => ⟨bk, of, f, (ha hne).1, hcell, hf⟩⟩
  · rename_i id
    split at h
    · rename_i τ l hl
      obtain ⟨b, hb, hbr⟩ := hm _ _ hl
      cases hp with
      | own _ b' ad hm' hk h0 =>
        rw [hb] at hm'; cases hm'
        refine ⟨τ, l, _, _, _, h, rfl, hbr.len.1, fun S' h1 h2 => hbr.whole h1 (fun q hq => h2 id b q (by simp [ownsAt]) hb hq) hk h0, fun hne => ?_⟩
        cases hbk : b.blk with
        | none => exact absurd (List.eq_nil_of_length_eq_zero (by rw [← hbr.len.1]; exact (h0 hbk).2)) hne
        | some q =>
          obtain ⟨f, hf1, hf2⟩ := hbr.cell hbk
          exact ⟨q, 0, f, hk q hbk, fun i j hi hj => by rw [Nat.zero_add]; exact hf1 i j (by have := hbr.len; omega) hj, hf2⟩
    · simp at h
  · rename_i id off len
    split at h
    · rename_i τ l hl
      split at h
      · rename_i hle
        have hle := Nat.le_of_ble_eq_true hle
        obtain ⟨b, hb, hbr⟩ := hm _ _ hl
        have hlen := hbr.len
        cases hp with
        | sub _ _ _ b' ad cc hm' hl' hc hk =>
          rw [hb] at hm'; cases hm'
          have hll : ((l.drop off).take len).length = len := by simp; omega
          refine ⟨τ, _, _, _, _, h, rfl, hll.symm, fun S' h1 h2 => hbr.part h1 (fun q hq => h2 id b q (by simp [ownsAt]) hb hq) hle (by omega) (fun hne => hk (by omega)), fun hne => ?_⟩
          have h0 : len ≠ 0 := fun e => by subst e; simp at hne
          obtain ⟨q, hbk, rfl⟩ := hk (by omega)
          obtain ⟨f, hf1, hf2⟩ := hbr.cell hbk
          refine ⟨q, off * b.sz, fun i j => f (off + i) j, rfl, fun i j hi hj => ?_, fun i x j y hx hy => ?_⟩
          · rw [hll] at hi
            have := hf1 (off + i) j (by omega) hj
            rwa [show (off + i) * τ.n + j = off * b.sz + (i * τ.n + j) from by rw [Nat.add_mul, hlen.2.2]; omega] at this
          · have hi : i < len := by
              rcases Nat.lt_or_ge i len with h' | h'
              · exact h'
              · rw [List.getElem?_eq_none (by omega)] at hx; cases hx
            have hx' : l[off + i]? = some x := by
              rw [List.getElem?_take_of_lt hi, List.getElem?_drop] at hx; exact hx
            exact hf2 (off + i) x j y hx' hy
      · simp at h
    · simp at h

theorem q_len (E : Env P c g r m xs a w) (hF : WideF F) {x : Operand} {t : TypeId} (hx : x ∈ xs) (hop : o.op = .call { callee := .builtin .len, args := #[x], argTypes := #[t] }) {p : At} (hp : Go.Eng.evA c r t x = some p)
    (h : lenQ c m t p k = some res) : ∃ y, k y = some res ∧ QRes P F n g w o a y := by
  have hv := E.evA hx hp
  generalize hxv : a.eval x = v at hv
  have fin : ∀ {q : Nat}, (Builtin.len_ #[t] o.type #[v]).run P w = .ok (goInt q) w → QRes P F n g w o a (.one (.int .i64 q)) := by
    intro q hq
    refine QRes.val hF (by simp [hop]) (v := goInt q) ?_ (VA.int _ _)
    simp only [execOp, hop, resolve, Sem.run_bind, Sem.run_pure, Result.andThen_ok, invoke, builtin]
    have : (#[x].map a.eval) = #[v] := by simp [hxv]
    rw [this, hq]; rfl
  unfold lenQ at h
  split at h
  · rename_i ti hti
    obtain ⟨i, d, T⟩ := E.ts t _ hti
    have e := T.str rfl
    subst e
    split at h
    · cases hv with
      | str s b e =>
        refine ⟨_, h, fin ?_⟩
        simp [Builtin.len_, run_underlying T.und, goInt, ← e]
    · simp at h
  · rename_i ti τ e hti
    obtain ⟨i, d, T⟩ := E.ts t _ hti
    obtain ⟨rfl, _⟩ := T.slice rfl
    split at h
    · cases hv with
      | sub id off len b ad cc hm hl hc hk => exact ⟨_, h, fin (by simp [Builtin.len_, run_underlying T.und])⟩
    · obtain ⟨τ', l, ad, len, cp, hk, e, hl, _⟩ := listOf_ok E.mem hv h
      rw [e] at fin
      exact ⟨_, hk, fin (by simp [Builtin.len_, run_underlying T.und, hl])⟩
  · simp at h

end
end Go.Eng
