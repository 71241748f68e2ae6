import Derived.Test.YtiaemhkkfjpdlaaEngS5
/- THE ENGINE, soundness, part 6: parts of slices and strings, calls by their specs. -/
set_option linter.unusedSimpArgs false
set_option linter.unusedVariables false
set_option linter.unnecessarySimpa false
namespace Go.Eng
open Go Go.RowKit

section
variable {P : Program} {F : Fence} {n : Nat} {c : Cfg} {g : Gh} {r : Regs} {m : Mem} {xs : List Operand} {a : Act} {w : World} {o : Oper} {R : Type} {k : AV → Option R} {res : R}

theorem boundsQ_ok {len : Nat} {lo hi : Option Int} {kk : Nat → Nat → Option R} (h : boundsQ len lo hi kk = some res) :
    ∃ lN hN, kk lN hN = some res ∧ lN ≤ hN ∧ hN ≤ len ∧ (lo = none → lN = 0) ∧ (∀ q, lo = some q → 0 ≤ q ∧ lN = q.toNat) ∧ (hi = none → hN = len) ∧ (∀ q, hi = some q → 0 ≤ q ∧ hN = q.toNat) := by
  unfold boundsQ at h
  split at h
  · exact ⟨0, len, h, by omega, by omega, by simp, by simp, by simp, by simp⟩
  · rename_i q
    rcases bcase_some h with ⟨h0, h⟩ | ⟨_, h⟩
    · simp only [decide_eq_true_eq] at h0
      exact ⟨0, q.toNat, h, by omega, by omega, by simp, by simp, by simp, fun q' e => by cases e; exact ⟨h0.1, rfl⟩⟩
    · simp at h
  · rename_i q
    rcases bcase_some h with ⟨h0, h⟩ | ⟨_, h⟩
    · simp only [decide_eq_true_eq] at h0
      exact ⟨q.toNat, len, h, by omega, by omega, by simp, fun q' e => by cases e; exact ⟨h0.1, rfl⟩, by simp, by simp⟩
    · simp at h
  · rename_i p q
    rcases bcase_some h with ⟨h0, h⟩ | ⟨_, h⟩
    · simp only [decide_eq_true_eq] at h0
      rcases bcase_some h with ⟨h1, h⟩ | ⟨_, h⟩
      · simp only [decide_eq_true_eq] at h1
        exact ⟨p.toNat, q.toNat, h, by omega, by omega, by simp, fun q' e => by cases e; exact ⟨h1.1, rfl⟩, by simp, fun q' e => by cases e; exact ⟨h0.1, rfl⟩⟩
      · simp at h
    · simp at h

theorem boundsC_ok {cap len : Nat} {lo hi : Option Int} {kk : Nat → Nat → Option R} (hc : len ≤ cap) (h : boundsC cap len lo hi kk = some res) :
    ∃ lN hN, kk lN hN = some res ∧ lN ≤ hN ∧ hN ≤ cap ∧ (lo = none → lN = 0) ∧ (∀ q, lo = some q → 0 ≤ q ∧ lN = q.toNat) ∧ (hi = none → hN = len) ∧ (∀ q, hi = some q → 0 ≤ q ∧ hN = q.toNat) := by
  unfold boundsC at h
  split at h
  · obtain ⟨lN, hN, h1, h2, h3, h4, h5, h6, h7⟩ := boundsQ_ok h
    exact ⟨lN, hN, h1, h2, by omega, h4, h5, h6, h7⟩
  · obtain ⟨lN, hN, h1, h2, h3, h4, h5, h6, h7⟩ := boundsQ_ok h
    exact ⟨lN, hN, h1, h2, h3, h4, h5, by simp, h7⟩

theorem capIn_ok {m : Mem} {id n : Nat} : ∀ {l : Mem}, capIn m id l = some n → ∃ i, look i m = some (.capk (.own id) n)
  | [], h => by simp [capIn] at h
  | x :: l, h => by
    simp only [capIn] at h
    split at h
    · rename_i i q hx
      split at h
      · rename_i e
        have := Nat.eq_of_beq_eq_true e
        subst this
        cases h
        exact ⟨_, hx⟩
      · exact capIn_ok h
    · exact capIn_ok h

theorem capIn_cp {m : Mem} {id q : Nat} (hm : MemOK g w m) (h : capIn m id m = some q) {b : Gb} (hb : g.m id = some b) : b.cp = q := by
  obtain ⟨i, hi⟩ := capIn_ok h
  obtain ⟨b', _, _, ad, len, hv⟩ := hm _ _ hi
  cases hv with
  | own _ b2 _ hm2 _ _ => rw [hb] at hm2; cases hm2; rfl

theorem partL_eq {α : Type} {l : List α} {lo hi : Option Int} {lN hN : Nat} (h1 : lo = none → lN = 0) (h2 : ∀ q, lo = some q → 0 ≤ q ∧ lN = q.toNat) (h3 : hi = none → hN = l.length) (h4 : ∀ q, hi = some q → 0 ≤ q ∧ hN = q.toNat) :
    partL lo hi l = (l.take hN).drop lN := by
  cases lo with
  | none =>
    rw [h1 rfl]
    cases hi with
    | none => rw [h3 rfl]; simp [partL]
    | some q => rw [(h4 q rfl).2]; simp [partL]
  | some p =>
    rw [(h2 p rfl).2]
    cases hi with
    | none => rw [h3 rfl]; simp [partL]
    | some q => rw [(h4 q rfl).2]; simp [partL]

/-- What an optional operand is, and evaluates to. -/
def OptR (a : Act) (x : Option Operand) (q : Option Int) : Prop :=
  match x, q with
  | none, none => True
  | some y, some n => ∃ κ, a.eval y = .int κ n
  | _, _ => False

theorem optInt_ok (E : Env P c g r m xs a w) {x : Option Operand} (hx : ∀ y, x = some y → y ∈ xs) {q : Option Int} (h : optInt c r x = some q) : OptR a x q := by
  unfold optInt at h
  split at h
  · cases h; trivial
  · rename_i y
    split at h
    · rename_i κ nn hy
      cases h
      have := E.evA (hx y rfl) hy
      refine ⟨κ, ?_⟩
      generalize a.eval y = u at this ⊢
      cases this; rfl
    · simp at h

theorem run_bound {x : Value} {κ : IntKind} {q : Int} {y : Nat} {code : BoundsCode} (hx : x = .int κ q) (h : 0 ≤ q ∧ q ≤ (y : Int)) : (Instr.sliceBound x y code).run P w = .ok q.toNat w := by
  subst hx; simp [Instr.sliceBound, asIntOf, h.1, h.2]

theorem run_bounds {b : Bool} {len cap lN hN : Nat} {lo hi : Option Operand} {ql qh : Option Int} (h1 : OptR a lo ql) (h2 : OptR a hi qh) (hlh : lN ≤ hN) (hh : hN ≤ cap) (hc : len ≤ cap)
    (k1 : ql = none → lN = 0) (k2 : ∀ q, ql = some q → 0 ≤ q ∧ lN = q.toNat) (k3 : qh = none → hN = len) (k4 : ∀ q, qh = some q → 0 ≤ q ∧ hN = q.toNat) :
    (Instr.sliceBounds b len cap (lo.map a.eval) (hi.map a.eval) none).run P w = .ok (lN, hN, cap) w := by
  cases hi with
  | none =>
    cases qh with
    | some _ => exact h2.elim
    | none =>
      have := k3 rfl; subst this
      cases lo with
      | none =>
        cases ql with
        | some _ => exact h1.elim
        | none => have := k1 rfl; subst this; simp [Instr.sliceBounds]
      | some y =>
        cases ql with
        | none => exact h1.elim
        | some q =>
          obtain ⟨κ, e⟩ := h1
          obtain ⟨q0, rfl⟩ := k2 q rfl
          simp [Instr.sliceBounds, run_bound e (by omega : 0 ≤ q ∧ q ≤ (hN : Int))]
  | some z =>
    cases qh with
    | none => exact h2.elim
    | some p =>
      obtain ⟨κ', e'⟩ := h2
      obtain ⟨p0, rfl⟩ := k4 p rfl
      have eb : ∀ code, (Instr.sliceBound (a.eval z) cap code).run P w = .ok p.toNat w := fun code => run_bound e' (by omega)
      cases lo with
      | none =>
        cases ql with
        | some _ => exact h1.elim
        | none => have := k1 rfl; subst this; cases b <;> simp [Instr.sliceBounds, eb]
      | some y =>
        cases ql with
        | none => exact h1.elim
        | some q =>
          obtain ⟨κ, e⟩ := h1
          obtain ⟨q0, rfl⟩ := k2 q rfl
          have eb2 : ∀ code, (Instr.sliceBound (a.eval y) p.toNat code).run P w = .ok q.toNat w := fun code => run_bound e (by omega)
          cases b <;> simp [Instr.sliceBounds, eb, eb2]

theorem run_bounds3 {len cap lN hN : Nat} {lo : Option Operand} {hi mx : Operand} {ql : Option Int} {q : Int} (h1 : OptR a lo ql) (h2 : OptR a (some hi) (some q)) (h3 : OptR a (some mx) (some q)) (hlh : lN ≤ hN) (hh : hN ≤ len) (hc : len ≤ cap)
    (k1 : ql = none → lN = 0) (k2 : ∀ q, ql = some q → 0 ≤ q ∧ lN = q.toNat) (k4 : 0 ≤ q ∧ hN = q.toNat) :
    (Instr.sliceBounds true len cap (lo.map a.eval) (some (a.eval hi)) (some (a.eval mx))).run P w = .ok (lN, hN, hN) w := by
  obtain ⟨κ', e'⟩ := h2
  obtain ⟨κ2, e2⟩ := h3
  obtain ⟨p0, rfl⟩ := k4
  have ea : ∀ code, (Instr.sliceBound (a.eval mx) cap code).run P w = .ok q.toNat w := fun code => run_bound e2 (by omega)
  have eb : ∀ code, (Instr.sliceBound (a.eval hi) q.toNat code).run P w = .ok q.toNat w := fun code => run_bound e' (by omega)
  cases lo with
  | none =>
    cases ql with
    | some _ => exact h1.elim
    | none => have := k1 rfl; subst this; simp [Instr.sliceBounds, ea, eb]
  | some y =>
    cases ql with
    | none => exact h1.elim
    | some p =>
      obtain ⟨κ, e⟩ := h1
      obtain ⟨q0, rfl⟩ := k2 p rfl
      have ec : ∀ code, (Instr.sliceBound (a.eval y) q.toNat code).run P w = .ok p.toNat w := fun code => run_bound e (by omega)
      simp [Instr.sliceBounds, ea, eb, ec]

theorem run_sliceStr {t : TypeId} {b : ByteArray} {lN hN : Nat} {lo hi : Option Value} (hu : P.underlying t = some .string) (hb : (Instr.sliceBounds false b.size b.size lo hi none).run P w = .ok (lN, hN, b.size) w) :
    (Instr.sliceAt t (.string b) lo hi none).run P w = .ok (.string (b.extract lN hN)) w := by
  simp [Instr.sliceAt, run_underlying hu, Instr.slice, hb]

theorem run_sliceSl {t e : TypeId} {j : TypeInfo} {ad : Option Addr} {len cap lN hN mN : Nat} {lo hi mx : Option Value} (hu : P.underlying t = some (.slice e)) (hj : P.info? e = some j) (hb : (Instr.sliceBounds true len cap lo hi mx).run P w = .ok (lN, hN, mN) w) :
    (Instr.sliceAt t (.slice ad len cap) lo hi mx).run P w = .ok (.slice (if mN = lN then ad else ad.map (·.add (lN * j.size))) (hN - lN) (mN - lN)) w := by
  simp [Instr.sliceAt, run_underlying hu, Instr.slice, hb, run_sizeOf hj]

theorem extract_data (b : ByteArray) (i j : Nat) : (b.extract i j).data.toList = (b.data.toList.take j).drop i := by
  rw [ByteArray.data_extract]; simp [List.drop_take]

/-- The cells of a list's part. -/
theorem part_cells {τ : Ty} {l : List τ.T} {ad : Option Addr} {bk of : Nat} {f : Nat → Nat → Value} (ha : l ≠ [] → ad = some ⟨bk, of, none⟩ ∧ g.S bk)
    (hcell : ∀ i j, i < l.length → j < τ.n → w.cell? ⟨bk, of + (i * τ.n + j), none⟩ = some (f i j)) (hf : ∀ i x j y, l[i]? = some x → (τ.enc x)[j]? = some y → VA g w y (f i j)) {lN hN mN : Nat} (h1 : lN ≤ hN) (h2 : hN ≤ l.length) (h3 : hN ≤ mN) :
    (((l.take hN).drop lN) ≠ [] → (if mN = lN then ad else ad.map (·.add (lN * τ.n))) = some ⟨bk, of + lN * τ.n, none⟩ ∧ g.S bk) ∧
    (∀ i j, i < ((l.take hN).drop lN).length → j < τ.n → w.cell? ⟨bk, of + lN * τ.n + (i * τ.n + j), none⟩ = some (f (lN + i) j)) ∧
    (∀ i x j y, ((l.take hN).drop lN)[i]? = some x → (τ.enc x)[j]? = some y → VA g w y (f (lN + i) j)) ∧ ((l.take hN).drop lN).length = hN - lN := by
  have hl : ((l.take hN).drop lN).length = hN - lN := by simp; omega
  refine ⟨fun hne => ?_, fun i j hi hj => ?_, fun i x j y hx hy => ?_, hl⟩
  · have h0 : hN - lN ≠ 0 := fun e => hne (List.eq_nil_of_length_eq_zero (by omega))
    have hlne : l ≠ [] := by intro e; subst e; simp at h2; omega
    obtain ⟨rfl, hS⟩ := ha hlne
    refine ⟨?_, hS⟩
    rw [if_neg (by omega)]
    simp [add_none]
  · rw [hl] at hi
    have := hcell (lN + i) j (by omega) hj
    rwa [show of + ((lN + i) * τ.n + j) = of + lN * τ.n + (i * τ.n + j) from by rw [Nat.add_mul]; omega] at this
  · rw [List.getElem?_drop] at hx
    have hlt : lN + i < hN := by
      rcases Nat.lt_or_ge (lN + i) hN with h' | h'
      · exact h'
      · rw [List.getElem?_eq_none (by simp; omega)] at hx; cases hx
    rw [List.getElem?_take_of_lt hlt] at hx
    exact hf (lN + i) x j y hx hy

theorem q_slice (E : Env P c g r m xs a w) (hF : WideF F) {t : TypeId} {x : Operand} {lo hi mx : Option Operand} (hx : x ∈ xs) (h1 : ∀ y, lo = some y → y ∈ xs) (h2 : ∀ y, hi = some y → y ∈ xs) (h3 : ∀ y, mx = some y → y ∈ xs)
    (hop : o.op = .slice t x lo hi mx) {p : At} (hp : Go.Eng.evA c r t x = some p) (h : sliceQ c r m t p lo hi mx k = some res) : ∃ y, k y = some res ∧ QRes P F n g w o a y := by
  have hv := E.evA hx hp
  generalize hxv : a.eval x = v at hv
  unfold sliceQ at h
  split at h
  case h_2 => simp at h
  rename_i ql qh qm hql hqh hqm
  have r1 := optInt_ok E h1 hql
  have r2 := optInt_ok E h2 hqh
  have r3 := optInt_ok E h3 hqm
  split at h
  · rename_i ti hti
    obtain ⟨i, d, T⟩ := E.ts t _ hti
    have e := T.str rfl
    subst e
    split at h
    · rename_i s
      have e : mx = none := by cases mx with | none => rfl | some _ => exact r3.elim
      subst e
      obtain ⟨lN, hN, hk, g1, g2, g3, g4, g5, g6⟩ := boundsQ_ok h
      cases hv with
      | str s b e =>
        have hsz : b.size = s.length := by rw [← e]; simp
        have hb := run_bounds (P := P) (w := w) (b := false) (len := b.size) (cap := b.size) r1 r2 g1 (by omega) (Nat.le_refl _) g3 g4 (fun e => by rw [hsz]; exact g5 e) g6
        refine ⟨_, hk, QRes.val hF (by simp [hop]) (v := .string (b.extract lN hN)) ?_ (VA.str _ _ ?_)⟩
        · simp only [execOp, hop, hxv, Option.map_none, Sem.run_bind, run_sliceStr T.und hb]; rfl
        · rw [extract_data, partL_eq g3 g4 g5 g6, e]
    · simp at h
  · rename_i ti τ0 e hti
    obtain ⟨i, d, T⟩ := E.ts t _ hti
    obtain ⟨rfl, j, hj, hjs, _⟩ := T.slice rfl
    have fin : ∀ {ad : Option Addr} {len cap lN hN mN : Nat} {z : At}, v = .slice ad len cap → (Instr.sliceBounds true len cap (lo.map a.eval) (hi.map a.eval) (mx.map a.eval)).run P w = .ok (lN, hN, mN) w →
        VA g w z (.slice (if mN = lN then ad else ad.map (·.add (lN * τ0.n))) (hN - lN) (mN - lN)) → QRes P F n g w o a (.one z) := by
      intro ad len cap lN hN mN z e hb hz
      refine QRes.val hF (by simp [hop]) ?_ hz
      simp only [execOp, hop, hxv, e, Sem.run_bind, run_sliceSl T.und hj hb, hjs]; rfl
    have cut : ∀ {τ : Ty} {l : List τ.T} {ad : Option Addr} {len cap bk of : Nat} {f : Nat → Nat → Value}, v = .slice ad len cap → len = l.length → len ≤ cap → (l ≠ [] → ad = some ⟨bk, of, none⟩ ∧ g.S bk) →
        (∀ i j, i < l.length → j < τ.n → w.cell? ⟨bk, of + (i * τ.n + j), none⟩ = some (f i j)) → (∀ i x j y, l[i]? = some x → (τ.enc x)[j]? = some y → VA g w y (f i j)) → τ.n = τ0.n → cutQ τ l ql qh qm k = some res →
        ∃ y, k y = some res ∧ QRes P F n g w o a y := by
      intro τ l ad len cap bk of f e hl hcl ha hcell hf hn h
      unfold cutQ at h
      split at h
      · have em : mx = none := by cases mx with | none => rfl | some _ => exact r3.elim
        obtain ⟨lN, hN, hk, g1, g2, g3, g4, g5, g6⟩ := boundsQ_ok h
        have hb := run_bounds (P := P) (w := w) (b := true) (len := len) (cap := cap) r1 r2 g1 (by omega) hcl g3 g4 (fun e => by rw [hl]; exact g5 e) g6
        obtain ⟨p1, p2, p3, p4⟩ := part_cells (mN := cap) ha hcell hf g1 g2 (by omega)
        refine ⟨_, hk, fin e (by rw [em]; exact hb) ?_⟩
        rw [partL_eq g3 g4 g5 g6, ← hn]
        exact VA.sl τ _ _ _ _ bk (of + lN * τ.n) (fun i j => f (lN + i) j) p4.symm (by omega) p1 p2 p3
      · rename_i q1 q2
        rcases bcase_some h with ⟨he, h⟩ | ⟨_, h⟩
        · simp only [decide_eq_true_eq] at he
          subst he
          obtain ⟨lN, hN, hk, g1, g2, g3, g4, g5, g6⟩ := boundsQ_ok h
          cases mx with
          | none => exact r3.elim
          | some ym =>
            cases hi with
            | none => exact r2.elim
            | some yh =>
              have hb := run_bounds3 (P := P) (w := w) (len := len) (cap := cap) r1 r2 r3 g1 (by omega) hcl g3 g4 (g6 _ rfl)
              obtain ⟨p1, p2, p3, p4⟩ := part_cells (mN := hN) ha hcell hf g1 g2 (Nat.le_refl _)
              refine ⟨_, hk, fin e hb ?_⟩
              rw [partL_eq g3 g4 g5 g6, ← hn]
              exact VA.clip τ _ _ _ bk (of + lN * τ.n) (fun i j => f (lN + i) j) p4.symm p1 p2 p3
        · simp at h
      · simp at h
    split at h
    · rename_i τ l
      split at h
      · rename_i hn
        cases hv with
        | sl _ _ ad len cap bk of f hl hc ha hcell hf => exact cut rfl hl hc ha hcell hf (Nat.eq_of_beq_eq_true hn) h
      · simp at h
    · rename_i τ l
      split at h
      · rename_i hn
        cases hv with
        | clip _ _ ad len bk of f hl ha hcell hf => exact cut rfl hl (Nat.le_refl _) ha hcell hf (Nat.eq_of_beq_eq_true hn) h
      · simp at h
    · rename_i id
      split at h
      · rename_i τ l hl
        split at h
        · rename_i hn
          have em : mx = none := by cases mx with | none => rfl | some _ => exact r3.elim
          obtain ⟨b, hb, hbr⟩ := E.mem _ _ hl
          have hlen := hbr.len
          obtain ⟨lN, hN, hk, g1, g2, g3, g4, g5, g6⟩ : ∃ lN hN, k (.one (.sub id lN (hN - lN))) = some res ∧ lN ≤ hN ∧ hN ≤ b.cp ∧ (ql = none → lN = 0) ∧ (∀ q, ql = some q → 0 ≤ q ∧ lN = q.toNat) ∧ (qh = none → hN = l.length) ∧ (∀ q, qh = some q → 0 ≤ q ∧ hN = q.toNat) := by
            split at h
            · obtain ⟨lN, hN, hk, g1, g2, g3, g4, g5, g6⟩ := boundsQ_ok h
              exact ⟨lN, hN, hk, g1, by omega, g3, g4, g5, g6⟩
            · rename_i cp hcp
              have := capIn_cp E.mem hcp hb
              subst this
              exact boundsC_ok (by omega) h
          cases hv with
          | own _ b' ad hm hk' h0 =>
            rw [hb] at hm; cases hm
            have hbb := run_bounds (P := P) (w := w) (b := true) (len := b.ln) (cap := b.cp) r1 r2 g1 (by omega) (by omega) g3 g4 (fun e => by rw [hlen.1]; exact g5 e) g6
            refine ⟨_, hk, fin rfl (by rw [em]; exact hbb) ?_⟩
            refine VA.sub id lN (hN - lN) b _ _ hb (by omega) rfl (fun hne => ?_)
            rw [if_neg (by omega)]
            cases hbk : b.blk with
            | none => have := (h0 hbk).1; omega
            | some q => exact ⟨q, rfl, by rw [hk' q hbk]; simp [add_none, hlen.2.2, Nat.eq_of_beq_eq_true hn]⟩
        · simp at h
      · rename_i τ l q hl
        split at h
        · rename_i pa pb
          obtain ⟨b, hb, hbr⟩ := E.mem _ _ hl
          have hlen := hbr.len
          rcases bcase_some h with ⟨c1, h⟩ | ⟨_, h⟩
          rotate_left
          · simp at h
          rcases bcase_some h with ⟨c2, h⟩ | ⟨_, h⟩
          rotate_left
          · simp at h
          rcases bcase_some h with ⟨c3, h⟩ | ⟨_, h⟩
          rotate_left
          · simp at h
          simp only [decide_eq_true_eq] at c1 c2 c3
          cases hv with
          | own _ b' ad hm hk' h0 =>
            rw [hb] at hm; cases hm
            cases mx with
            | none => exact r3.elim
            | some ym =>
              cases hi with
              | none => exact r2.elim
              | some yh =>
                cases lo with
                | none => exact r1.elim
                | some yl =>
                  refine ⟨_, h, ?_⟩
                  obtain ⟨κ1, e1⟩ := r1
                  obtain ⟨κ2, e2⟩ := r2
                  obtain ⟨κ3, e3⟩ := r3
                  have hbb : (Instr.sliceBounds true b.ln b.cp (some (a.eval yl)) (some (a.eval yh)) (some (a.eval ym))).run P w = .ok (pa.toNat, pb.toNat, q.toNat) w := by
                    have i1 : 0 ≤ q ∧ q ≤ (b.cp : Int) := by omega
                    have i2 : 0 ≤ pb ∧ pb ≤ ((q.toNat : Nat) : Int) := by omega
                    have i3 : 0 ≤ pa ∧ pa ≤ ((pb.toNat : Nat) : Int) := by omega
                    have ea : ∀ code, (Instr.sliceBound (a.eval ym) b.cp code).run P w = .ok q.toNat w := fun code => run_bound e3 i1
                    have eb : ∀ code, (Instr.sliceBound (a.eval yh) q.toNat code).run P w = .ok pb.toNat w := fun code => run_bound e2 i2
                    have ec : ∀ code, (Instr.sliceBound (a.eval yl) pb.toNat code).run P w = .ok pa.toNat w := fun code => run_bound e1 i3
                    simp [Instr.sliceBounds, ea, eb, ec]
                  exact fin rfl (by simpa using hbb) (VA.dead _ rfl)
        · simp at h
      · simp at h
    · rename_i id off len
      split at h
      · rename_i τ l hl
        split at h
        · rename_i hn
          have em : mx = none := by cases mx with | none => rfl | some _ => exact r3.elim
          obtain ⟨b, hb, hbr⟩ := E.mem _ _ hl
          have hlen := hbr.len
          cases hv with
          | sub _ _ _ b' ad cc hm hl' hc hk' =>
            rw [hb] at hm; cases hm
            obtain ⟨lN, hN, hk, g1, g2, g3, g4, g5, g6⟩ : ∃ lN hN, k (.one (.sub id (off + lN) (hN - lN))) = some res ∧ lN ≤ hN ∧ hN ≤ cc ∧ (ql = none → lN = 0) ∧ (∀ q, ql = some q → 0 ≤ q ∧ lN = q.toNat) ∧ (qh = none → hN = len) ∧ (∀ q, qh = some q → 0 ≤ q ∧ hN = q.toNat) := by
              split at h
              · obtain ⟨lN, hN, hk, g1, g2, g3, g4, g5, g6⟩ := boundsC_ok (Nat.le_max_left _ _) h
                exact ⟨lN, hN, hk, g1, by omega, g3, g4, g5, g6⟩
              · rename_i cp hcp
                have := capIn_cp E.mem hcp hb
                subst this
                obtain ⟨lN, hN, hk, g1, g2, g3, g4, g5, g6⟩ := boundsC_ok (Nat.le_max_left _ _) h
                exact ⟨lN, hN, hk, g1, by omega, g3, g4, g5, g6⟩
            have hbb := run_bounds (P := P) (w := w) (b := true) (len := len) (cap := cc) r1 r2 g1 (by omega) (by omega) g3 g4 g5 g6
            refine ⟨_, hk, fin rfl (by rw [em]; exact hbb) ?_⟩
            refine VA.sub id (off + lN) (hN - lN) b _ _ hb (by omega) (by omega) (fun hne => ?_)
            rw [if_neg (by omega)]
            obtain ⟨q, hbk, rfl⟩ := hk' (by omega)
            refine ⟨q, hbk, ?_⟩
            simp [add_none, hlen.2.2, Nat.eq_of_beq_eq_true hn, Nat.add_mul]
        · simp at h
      · simp at h
    · simp at h
  · simp at h

theorem q_makeFunc (E : Env P c g r m xs a w) (hF : WideF F) {f : Nat} (hop : o.op = .makeFunc (.func f) #[] #[]) (hk : k (.one (.fnc f)) = some res) : ∃ y, k y = some res ∧ QRes P F n g w o a y := by
  refine ⟨_, hk, QRes.val hF (by simp [hop]) (v := .func (.func f) #[] #[]) ?_ (VA.fnc f)⟩
  simp [execOp, hop, Instr.makeFunc]

end
end Go.Eng
