import Derived.Test.YtiaemhkkfjpdlaaEngS3
import Derived.Laws.StructEq
/- THE ENGINE, soundness, part 4: operations that turn no block: arithmetic, comparisons, structs, indexes, slices. -/
set_option linter.unusedSimpArgs false
set_option linter.unusedVariables false
set_option linter.unnecessarySimpa false
namespace Go.Eng
open Go Go.RowKit

section
variable {P : Program} {F : Fence} {n : Nat} {c : Cfg} {g : Gh} {r : Regs} {m : Mem} {xs : List Operand} {a : Act} {w : World} {o : Oper} {R : Type} {k : AV → Option R} {res : R}

theorem run_int {op : BinOp} {κ : IntKind} {p q : Int} (t : TypeId) (hs : isShift op = false) (h : intQ op κ p q k = some res) :
    ∃ y v, k y = some res ∧ (binOp op t (.int κ p) (.int κ q)).run P w = .ok v w ∧ ∀ g, AVR g w y v := by
  cases op <;> simp only [intQ, isShift, reduceCtorEq] at h hs <;> try (simp at hs; done)
  case quo =>
    rcases bcase_some h with ⟨_, h⟩ | ⟨h0, h⟩
    · simp at h
    · simp only [beq_eq_false_iff_ne] at h0
      exact ⟨_, _, h, by simp [binOp, Op.intDiv, h0], fun g => VA.int _ _⟩
  case rem =>
    rcases bcase_some h with ⟨_, h⟩ | ⟨h0, h⟩
    · simp at h
    · simp only [beq_eq_false_iff_ne] at h0
      exact ⟨_, _, h, by simp [binOp, Op.intDiv, h0], fun g => VA.int _ _⟩
  all_goals first
    | (refine ⟨_, .int κ _, h, ?_, fun g => VA.int _ _⟩; simp [binOp, Op.intArith]; done)
    | (refine ⟨_, .bool _, h, ?_, fun g => VA.bool _⟩; simp [binOp, Op.intCmp]; done)
    | (refine ⟨_, .int κ _, h, ?_, fun g => VA.int _ _⟩; simp only [binOp, ne_eq, not_true_eq_false, if_false]; rfl)

theorem run_shift {op : BinOp} {κ κ' : IntKind} {p q : Int} (t : TypeId) (h : shiftQ op κ p q k = some res) :
    ∃ y v, k y = some res ∧ (binOp op t (.int κ p) (.int κ' q)).run P w = .ok v w ∧ ∀ g, AVR g w y v := by
  cases op <;> simp only [shiftQ, reduceCtorEq] at h <;>
    (rcases bcase_some h with ⟨_, h⟩ | ⟨h0, h⟩
     · simp at h
     · simp only [decide_eq_false_iff_not] at h0
       exact ⟨_, .int κ _, h, by simp [binOp, Op.shift, h0], fun g => VA.int _ _⟩)

theorem run_str {op : BinOp} {p q : Str} {b b' : ByteArray} (t : TypeId) (hp : b.data.toList = p) (hq : b'.data.toList = q) (h : strQ op p q k = some res) :
    ∃ y v, k y = some res ∧ (binOp op t (.string b) (.string b')).run P w = .ok v w ∧ ∀ g, AVR g w y v := by
  have e1 : b.toList = p := by rw [ByteArray.toList_eq]; exact hp
  have e2 : b'.toList = q := by rw [ByteArray.toList_eq]; exact hq
  cases op <;> simp only [strQ, reduceCtorEq] at h
  case add =>
    obtain ⟨hle, h⟩ := lcase_some h
    refine ⟨_, .string (b ++ b'), h, ?_, fun g => VA.str _ _ ?_⟩
    · have h1 : b.size = p.length := by rw [← hp]; simp
      have h2 : b'.size = q.length := by rw [← hq]; simp
      have : ¬ (((b.size + b'.size : Nat) : Int) > IntKind.i64.max) := by
        have e : IntKind.i64.max = 9223372036854775807 := by decide
        rw [e]; unfold LIM at hle; omega
      simp only [binOp, Op.stringOp, this, if_false]
      rfl
    · simp [hp, hq]
  all_goals exact ⟨_, _, h, by simp only [binOp, Op.stringOp, e1, e2]; rfl, fun g => VA.bool _⟩

theorem eqAt_ok {x y : At} {e : EK} {t : Bool} {vx vy : Value} {ty : TypeId} {d : Nat} (h : eqAt e x y = some t) (hx : VA g w x vx) (hy : VA g w y vy) (hk : ekB P ty e = true) :
    (Op.equalIn (d + 1) ty vx vy).run P w = .ok t w ∧ (isAgg ty).run P w = .ok false w := by
  unfold eqAt at h
  split at h
  · rename_i κ p κ' q
    split at h
    · cases h
      have := ikeq_eq ‹_›
      subst this
      simp only [ekB] at hk
      split at hk
      · rename_i κ'' hu
        cases hx; cases hy
        exact ⟨run_equalIn_int w d _ κ κ'' p q hu, run_isAgg hu⟩
      · simp at hk
    · simp at h
  · cases h
    simp only [ekB] at hk
    split at hk
    · rename_i hu
      cases hx with
      | str _ b e1 =>
        cases hy with
        | str _ b' e2 =>
          refine ⟨?_, run_isAgg hu⟩
          rw [run_equalIn_string w d _ b b' hu, ByteArray.toList_eq, ByteArray.toList_eq, e1, e2]
    · simp at hk
  · cases h
    simp only [ekB] at hk
    split at hk
    · rename_i hu
      cases hx; cases hy
      exact ⟨run_equalIn_bool' w d _ _ _ hu, run_isAgg hu⟩
    · simp at hk
  · simp at h

theorem run_eqFields_ok {xs ys : Array Value} {d : Nat} : ∀ (fs : List Field) (es : List EK) (i : Nat) (l l' : List At) (t : Bool), eqFB P i fs es = true → All2 (VA g w) l (xs.toList.drop i) → All2 (VA g w) l' (ys.toList.drop i) →
    eqCells es l l' = some t → (Op.eqFields (d + 1) xs ys fs).run P w = .ok t w
  | [], [], i, l, l', t, _, _, _, h => by
    cases l <;> cases l' <;> simp [eqCells] at h
    subst h; simp [Op.eqFields]
  | [], _ :: _, _, _, _, _, hb, _, _, _ => by simp [eqFB] at hb
  | _ :: _, [], _, _, _, _, hb, _, _, _ => by simp [eqFB] at hb
  | f :: fs, e :: es, i, [], l', t, _, _, _, h => by simp [eqCells] at h
  | f :: fs, e :: es, i, _ :: _, [], t, _, _, _, h => by simp [eqCells] at h
  | f :: fs, e :: es, i, x :: l, y :: l', t, hb, hx, hy, h => by
    simp only [eqFB, Bool.and_eq_true, bne_iff_ne, ne_eq] at hb
    obtain ⟨h1, h2, h3, h4⟩ := hb
    have ho := Nat.eq_of_beq_eq_true h1
    have nx : ∀ {z : At} {q : List At} {zs : Array Value}, All2 (VA g w) (z :: q) (zs.toList.drop i) → ∃ v, zs[i]? = some v ∧ VA g w z v ∧ All2 (VA g w) q (zs.toList.drop (i + 1)) := by
      intro z q zs ha
      have hlt : i < zs.toList.length := by have := ha.length; simp at this; simp; omega
      rw [List.drop_eq_getElem_cons hlt] at ha
      cases ha with
      | cons h1 h2 => exact ⟨_, by simpa using hlt, h1, h2⟩
    obtain ⟨vx, gx, hx1, hx2⟩ := nx hx
    obtain ⟨vy, gy, hy1, hy2⟩ := nx hy
    have fin : ∀ (t1 t2 : Bool), eqAt e x y = some t1 → (Op.eqFields (d + 1) xs ys fs).run P w = .ok t2 w → (Op.eqFields (d + 1) xs ys (f :: fs)).run P w = .ok (t1 && t2) w := by
      intro t1 t2 he hr
      obtain ⟨r1, r2⟩ := eqAt_ok (d := d) he hx1 hy1 h3
      have hp : ∀ (zs : Array Value) (v : Value), zs[i]? = some v → (part f.type zs f.offset).run P w = .ok v w := by
        intro zs v hz; simp [part, r2, ho, hz]
      simp only [Op.eqFields, h2, ne_eq, not_false_eq_true, if_true, Sem.run_bind, hp xs vx gx, hp ys vy gy, r1, Result.andThen_ok]
      cases t1
      · simp
      · simp [hr]
    unfold eqCells at h
    cases es with
    | nil =>
      cases l with
      | nil =>
        cases l' with
        | nil =>
          have := fin t true (by simpa using h) (run_eqFields_ok fs [] (i + 1) [] [] true h4 hx2 hy2 rfl)
          simpa using this
        | cons _ _ => simp at h
      | cons _ _ => simp at h
    | cons e' es =>
      simp only at h
      split at h
      · rename_i t1 t2 g1 g2
        cases h
        exact fin t1 t2 g1 (run_eqFields_ok fs _ (i + 1) l l' t2 h4 hx2 hy2 g2)
      · simp at h

theorem run_bin {op : BinOp} {t : TypeId} {x y : AV} {vx vy : Value} {px py : Operand} (hq : EqsOK P c) (ht : TsOK P c) (hx : AVR g w x vx) (hy : AVR g w y vy) (h : binQ (isBoolT (c.ti t)) (look t c.eqs) op x y k = some res) :
    ∃ z v, k z = some res ∧ (do eqGuard op t px py vx vy; binOp op t vx vy : Sem Value).run P w = .ok v w ∧ ∀ g, AVR g w z v := by
  unfold binQ at h
  split at h
  · cases hx; cases hy
    have hg : ∀ κ κ' p q, (eqGuard op t px py (.int κ p) (.int κ' q)).run P w = .ok () w := by intros; cases op <;> simp [eqGuard]
    split at h
    · obtain ⟨z, v, h1, h2, h3⟩ := run_shift (P := P) (w := w) (κ' := _) t h
      exact ⟨z, v, h1, by simp only [Sem.run_bind, hg, Result.andThen_ok]; exact h2, h3⟩
    · split at h
      · have e := ikeq_eq ‹_›
        subst e
        obtain ⟨z, v, h1, h2, h3⟩ := run_int (P := P) (w := w) t ‹_› h
        exact ⟨z, v, h1, by simp only [Sem.run_bind, hg, Result.andThen_ok]; exact h2, h3⟩
      · simp at h
  · cases hx with
    | str _ b e1 =>
      cases hy with
      | str _ b' e2 =>
        obtain ⟨z, v, h1, h2, h3⟩ := run_str (P := P) (w := w) t e1 e2 h
        have hg : (eqGuard op t px py (.string b) (.string b')).run P w = .ok () w := by cases op <;> simp [eqGuard]
        exact ⟨z, v, h1, by simp only [Sem.run_bind, hg, Result.andThen_ok]; exact h2, h3⟩
  · cases hx; cases hy
    have hg : ∀ p q, (eqGuard op t px py (.bool p) (.bool q)).run P w = .ok () w := by intros; cases op <;> simp [eqGuard]
    have hbt : ∀ {b : Bool}, isBoolT (c.ti t) = b → b = true → P.underlying t = some .bool := by
      rintro b he rfl
      unfold isBoolT at he
      split at he
      · rename_i ti hti
        obtain ⟨i, d, T⟩ := ht _ _ hti
        have := T.k
        cases d <;> simp [tkB] at this
        exact T.und
      · simp at he
    split at h
    · rename_i heq
      have hu := hbt heq rfl
      exact ⟨_, _, h, by simp only [Sem.run_bind, hg, Result.andThen_ok]; simp [binOp, Op.equal, Op.maxDepth, run_equalIn_bool' w 9999 t _ _ hu], fun g => VA.bool _⟩
    · rename_i heq
      have hu := hbt heq rfl
      exact ⟨_, _, h, by simp only [Sem.run_bind, hg, Result.andThen_ok]; simp [binOp, Op.equal, Op.maxDepth, run_equalIn_bool' w 9999 t _ _ hu], fun g => VA.bool _⟩
    · simp at h
  · rename_i la lb
    obtain ⟨vs, rfl, hx⟩ := hx
    obtain ⟨us, rfl, hy⟩ := hy
    split at h
    · rename_i es he
      have hb := hq t es he
      unfold eqB at hb
      split at hb
      · rename_i fs hu
        simp only [Bool.and_eq_true, Bool.not_eq_true'] at hb
        obtain ⟨b1, b2, b3⟩ := hb
        have hfo : P.fieldsOf t = fs := by simp [Program.fieldsOf, hu]
        have hgd : (eqGuard op t px py (.agg vs.toArray) (.agg us.toArray)).run P w = .ok () w := run_eqGuard_agg w op t px py _ _ b2
        have heq : ∀ tt, eqCells es la lb = some tt → (Op.equalIn 10000 t (.agg vs.toArray) (.agg us.toArray)).run P w = .ok tt w := by
          intro tt htt
          rw [run_equalIn_struct w 9999 t _ _ (by rw [hfo]; exact hu) b1, hfo]
          exact run_eqFields_ok fs.toList es 0 _ _ tt b3 (by simpa using hx) (by simpa using hy) htt
        split at h
        · rename_i tt htt
          exact ⟨_, _, h, by simp only [Sem.run_bind, hgd, Result.andThen_ok, run_eql_struct, heq _ htt], fun g => VA.bool _⟩
        · rename_i tt htt
          exact ⟨_, _, h, by simp only [Sem.run_bind, hgd, Result.andThen_ok, run_neq_struct, heq _ htt], fun g => VA.bool _⟩
        · simp at h
      · simp at hb
    · simp at h
  · simp at h

theorem q_bin (E : Env P c g r m xs a w) (hF : WideF F) {op : BinOp} {t t' : TypeId} {x y : Operand} (hx : x ∈ xs) (hy : y ∈ xs) (hop : o.op = .binOp op t x y t') {u v : AV}
    (hu : Go.Eng.ev c r t x = some u) (hv : Go.Eng.ev c r t y = some v) (h : binQ (isBoolT (c.ti t)) (look t c.eqs) op u v k = some res) : ∃ y, k y = some res ∧ QRes P F n g w o a y := by
  obtain ⟨z, q, h1, h2, h3⟩ := run_bin (P := P) (w := w) (px := x) (py := y) E.eqs E.ts (E.ev x hx _ _ hu) (E.ev y hy _ _ hv) h
  refine ⟨z, h1, QRes.val hF (by simp [hop]) (v := q) ?_ (h3 g)⟩
  simp only [execOp, hop]
  rw [Sem.run_bind]
  rw [h2]; rfl

theorem q_un (E : Env P c g r m xs a w) (hF : WideF F) {op : UnOp} {t : TypeId} {x : Operand} (hx : x ∈ xs) (hop : o.op = .unOp op t x) {u : AV}
    (hu : Go.Eng.ev c r t x = some u) (h : unQ op u k = some res) : ∃ y, k y = some res ∧ QRes P F n g w o a y := by
  have hv := E.ev x hx _ _ hu
  generalize hxv : a.eval x = v at hv
  unfold unQ at h
  split at h
  · cases hv
    exact ⟨_, h, QRes.val hF (by simp [hop]) (v := .bool _) (by simp [execOp, hop, hxv, Op.unary]) (VA.bool _)⟩
  · cases hv
    refine ⟨_, h, QRes.val hF (by simp [hop]) (v := .int _ _) ?_ (VA.int _ _)⟩
    simp [execOp, hop, hxv, Op.unary, Op.intArith]
  · simp at h

theorem q_field (E : Env P c g r m xs a w) (hF : WideF F) {t : TypeId} {x : Operand} {f : Nat} (hx : x ∈ xs) (hop : o.op = .field t x f) {ti : TI} {fs : List (Nat × TypeId)} (hti : c.ti t = some ti) (hfs : ti.k = .struct fs)
    {l : List At} (hl : Go.Eng.evV c r 0 x = some (.agg l)) {off : Nat} {t' : TypeId} (hf : fs[f]? = some (off, t')) {tj : TI} (htj : c.ti t' = some tj) (hle : Nat.ble (off + tj.size) l.length = true)
    (h : ocase (V1.ofCells tj.agg ((l.drop off).take tj.size)) (fun v => k (.v v)) = some res) : ∃ y, k y = some res ∧ QRes P F n g w o a y := by
  obtain ⟨i, d, T⟩ := E.ts t ti hti
  obtain ⟨i', d', T'⟩ := E.ts t' tj htj
  obtain ⟨fields, fd, hu, hfd, ho, hty, j, hj, h0⟩ := struct_get T hfs hf
  obtain ⟨vs, he, ha⟩ := E.evV hx hl
  obtain ⟨v, hv, hk⟩ := ocase_some h
  have hlen := ha.length
  have hle := Nat.le_of_ble_eq_true hle
  have ha' := (ha.drop off).take tj.size
  have hul : ((vs.drop off).take tj.size).length = tj.size := by simp; omega
  rcases ofCells_ok hv with ⟨hb, rfl⟩ | ⟨hb, z, hz, rfl⟩
  · refine ⟨_, hk, QRes.val hF (by simp [hop]) (v := .agg ((vs.drop off).take tj.size).toArray) ?_ ⟨_, rfl, ha'⟩⟩
    have hex : (vs.toArray.extract off (off + tj.size)) = ((vs.drop off).take tj.size).toArray := by
      apply Array.ext'
      simp [List.take_drop, Nat.add_comm]
    simp [execOp, hop, he, Instr.field, run_underlying hu, hfd, part, hty, ho, run_isAgg T'.und, T'.agg, hb, run_sizeOf T'.info, T'.size, asAgg, hex]
  · rw [hz] at ha'
    obtain ⟨u, hu1, hu2⟩ := ha'.get (i := 0) rfl
    have hus : vs[off]? = some u := by
      have h0' : 0 < tj.size := by
        have : ((vs.drop off).take tj.size)[0]? = some u := hu1
        rcases Nat.eq_zero_or_pos tj.size with h | h
        · rw [h] at this; simp at this
        · exact h
      rw [List.getElem?_take_of_lt h0', List.getElem?_drop] at hu1
      simpa using hu1
    refine ⟨_, hk, QRes.val hF (by simp [hop]) (v := u) ?_ hu2⟩
    simp [execOp, hop, he, Instr.field, run_underlying hu, hfd, part, hty, ho, run_isAgg T'.und, T'.agg, hb, asAgg, hus]

/-! Addresses of elements. -/
theorem run_indexAt {t e : TypeId} {j : TypeInfo} (hu : P.underlying t = some (.slice e)) (hj : P.info? e = some j) {bk of len cap : Nat} {κ : IntKind} {q : Int} (h0 : 0 ≤ q) (h1 : q < (len : Int)) :
    (Instr.indexAt t (.slice (some ⟨bk, of, none⟩) len cap) (.int κ q)).run P w = .ok (.pointer (some ⟨bk, of + q.toNat * j.size, none⟩)) w := by
  simp [Instr.indexAt, asIntOf, run_underlying hu, h0, h1, run_sizeOf hj, add_none]

theorem q_indexAddr (E : Env P c g r m xs a w) (hF : WideF F) {t : TypeId} {x i : Operand} (hx : x ∈ xs) (hi : i ∈ xs) (hop : o.op = .indexAddr t x i) {p : At} {κ : IntKind} {q : Int}
    (hp : Go.Eng.evA c r t x = some p) (hq : Go.Eng.evA c r 0 i = some (.int κ q))
    (h : idxQ c m t p q k = some res) : ∃ y, k y = some res ∧ QRes P F n g w o a y := by
  have hv := E.evA hx hp
  have hiv : a.eval i = .int κ q := by
    have := E.evA hi hq
    generalize a.eval i = u at this ⊢
    cases this; rfl
  unfold idxQ at h
  split at h
  case h_1 ti τ e hti =>
    obtain ⟨i', d, T⟩ := E.ts t _ hti
    obtain ⟨rfl, j, hj, hjs, _⟩ := T.slice rfl
    generalize hxv : a.eval x = u at hv
    have fin : ∀ {z : At} {bk of len cap : Nat}, u = .slice (some ⟨bk, of, none⟩) len cap → 0 ≤ q → q < (len : Int) → VA g w z (.pointer (some ⟨bk, of + q.toNat * τ.n, none⟩)) → QRes P F n g w o a (.one z) := by
      intro z bk of len cap e h0 h1 hz
      refine QRes.val hF (by simp [hop]) ?_ hz
      simp only [execOp, hop, hxv, hiv, e, Sem.run_bind, run_indexAt T.und hj h0 h1, Result.andThen_ok, hjs]
      rfl
    have elem : ∀ {τ' : Ty} {l : List τ'.T} {av : Option Addr} {len cap bk of : Nat} {f : Nat → Nat → Value} {y : τ'.T}, u = .slice av len cap → len = l.length → (l ≠ [] → av = some ⟨bk, of, none⟩ ∧ g.S bk) →
        (∀ i j, i < l.length → j < τ'.n → w.cell? ⟨bk, of + (i * τ'.n + j), none⟩ = some (f i j)) → (∀ i x j y, l[i]? = some x → (τ'.enc x)[j]? = some y → VA g w y (f i j)) → τ'.n = τ.n → 0 ≤ q → l[q.toNat]? = some y →
        QRes P F n g w o a (.one (.vptr τ' y 0)) := by
      intro τ' l av len cap bk of f y e hl ha hcell hf hn h0 hy
      have hlt : q.toNat < l.length := by
        rcases Nat.lt_or_ge q.toNat l.length with h' | h'
        · exact h'
        · rw [List.getElem?_eq_none h'] at hy; cases hy
      obtain ⟨rfl, hS⟩ := ha (ne_of_lt hlt)
      refine fin e h0 (by omega) ?_
      rw [← hn]
      exact VA.vptr τ' y 0 bk (of + q.toNat * τ'.n) (f q.toNat) hS (fun j hj => by rw [Nat.add_assoc]; exact hcell _ j hlt hj) (fun j z hz => hf _ _ j z hy hz)
    split at h
    · rename_i τ' l
      split at h
      · rename_i hn
        have hn := Nat.eq_of_beq_eq_true hn
        rcases bcase_some h with ⟨h0, h⟩ | ⟨_, h⟩
        · obtain ⟨y, hy, hk⟩ := ocase_some h
          cases hv with
          | sl _ _ av len cap bk of f hl hc ha hcell hf => exact ⟨_, hk, elem rfl hl ha hcell hf hn (by simpa using h0) hy⟩
        · simp at h
      · simp at h
    · rename_i τ' l
      split at h
      · rename_i hn
        have hn := Nat.eq_of_beq_eq_true hn
        rcases bcase_some h with ⟨h0, h⟩ | ⟨_, h⟩
        · obtain ⟨y, hy, hk⟩ := ocase_some h
          cases hv with
          | clip _ _ av len bk of f hl ha hcell hf => exact ⟨_, hk, elem rfl hl ha hcell hf hn (by simpa using h0) hy⟩
        · simp at h
      · simp at h
    · rename_i id
      split at h
      · rename_i τ' l hl
        split at h
        · rename_i hn
          have hn := Nat.eq_of_beq_eq_true hn
          rcases bcase_some h with ⟨h0, hk⟩ | ⟨_, h⟩
          · simp only [decide_eq_true_eq] at h0
            obtain ⟨b, hb, hbr⟩ := E.mem _ _ hl
            have hlen := hbr.len
            cases hv with
            | own _ b' av hm hk' h0' =>
              rw [hb] at hm; cases hm
              cases hbk : b.blk with
              | none => have := (h0' hbk).2; omega
              | some kk =>
                have := hk' kk hbk; subst this
                refine ⟨_, hk, fin rfl h0.1 (by omega) ?_⟩
                have := VA.eptr (g := g) (w := w) id q.toNat 0 b kk hb hbk
                rw [hlen.2.2, hn] at this
                simpa using this
          · simp at h
        · simp at h
      · simp at h
    · rename_i id off len
      split at h
      · rename_i τ' l hl
        split at h
        · rename_i hn
          have hn := Nat.eq_of_beq_eq_true hn
          rcases bcase_some h with ⟨h0, hk⟩ | ⟨_, h⟩
          · simp only [decide_eq_true_eq] at h0
            obtain ⟨b, hb, hbr⟩ := E.mem _ _ hl
            have hlen := hbr.len
            cases hv with
            | sub _ _ _ b' av cc hm hl' hc hk' =>
              rw [hb] at hm; cases hm
              obtain ⟨kk, hbk, rfl⟩ := hk' (by omega)
              refine ⟨_, hk, fin rfl h0.1 h0.2 ?_⟩
              have := VA.eptr (g := g) (w := w) id (off + q.toNat) 0 b kk hb hbk
              rw [hlen.2.2, hn, Nat.add_mul] at this
              rw [hlen.2.2, hn]
              simpa using this
          · simp at h
        · simp at h
      · simp at h
    · simp at h
  case h_2 ti len e hti =>
    split at h
    · rename_i id off te hte
      rcases bcase_some h with ⟨h0, hk⟩ | ⟨_, h⟩
      · simp only [decide_eq_true_eq] at h0
        obtain ⟨i', d, T⟩ := E.ts t _ hti
        obtain ⟨i2, d2, T2⟩ := E.ts e _ hte
        have hd := T.array rfl
        subst hd
        generalize hxv : a.eval x = u at hv
        cases hv with
        | ptr _ _ b kk hm hbk =>
          refine ⟨_, hk, QRes.val hF (by simp [hop]) ?_ (VA.ptr id _ b kk hm hbk)⟩
          simp only [execOp, hop, hxv, hiv, Instr.indexAt, asIntOf, Sem.run_bind, run_underlying T.und, Result.andThen_ok, Instr.sureAddr, Sem.run_pure, run_sizeOf T2.info, T2.size, add_none, Sem.run_ite]
          rw [if_pos (by exact ⟨h0.1, h0.2⟩)]
          simp [run_sizeOf T2.info, T2.size]
      · simp at h
    · simp at h
  · simp at h

end
end Go.Eng
