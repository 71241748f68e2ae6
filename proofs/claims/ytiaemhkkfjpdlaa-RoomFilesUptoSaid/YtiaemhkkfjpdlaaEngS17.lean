import Derived.Test.YtiaemhkkfjpdlaaEngS16
/- THE ENGINE, soundness, part 17: a region that draws its order. -/
set_option linter.unusedSimpArgs false
set_option linter.unusedVariables false
set_option linter.unnecessarySimpa false
namespace Go.Eng
open Go Go.RowKit

section
variable {P : Program} {F : Fence} {n : Nat} {c : Cfg} {g g' : Gh} {r : Regs} {m : Mem} {a : Act} {w w' : World} {o : Oper} {R : Type} {k : St → Option R} {res : R} {xs : List Operand}
variable {base : Nat} {w0 : World} {S0 : Nat → Prop} {N : Nat} {D : List Deferred} {sv : Nat → Value} {σ : St} {ops : Array Oper} {Q : Exit → Act → World → Prop} {ds : List (Option Nat)}

/-! The order. -/
theorem okFrom_spec {x : Oper} {i : Nat} : ∀ {l : List (Oper × Nat)}, okFrom c ds i x l = true → ∀ y ∈ l, clash c ds x y.1 = true → Nat.testBit y.2 i = true
  | [], _, y, hy, _ => by simp at hy
  | z :: l, h, y, hy, hc => by
    unfold okFrom at h
    split at h
    · split at h
      · rename_i hb
        rcases List.mem_cons.1 hy with rfl | hy
        · exact hb
        · exact okFrom_spec h y hy hc
      · simp at h
    · rename_i hcl
      rcases List.mem_cons.1 hy with rfl | hy
      · rw [hc] at hcl; cases hcl
      · exact okFrom_spec h y hy hc

theorem okAll_spec : ∀ {l : List (Oper × Nat)} {i : Nat}, okAll c ds i l = true → ∀ {p q : Nat} {x y : Oper × Nat}, p < q → l[p]? = some x → l[q]? = some y → clash c ds x.1 y.1 = true → Nat.testBit y.2 (i + p) = true
  | [], i, _, p, q, x, y, _, hx, _, _ => by simp at hx
  | z :: l, i, h, p, q, x, y, hpq, hx, hy, hc => by
    unfold okAll at h
    split at h
    · rename_i hf
      cases q with
      | zero => omega
      | succ q =>
        simp at hy
        cases p with
        | zero =>
          simp at hx; subst hx
          exact okFrom_spec hf y (List.mem_of_getElem? hy) hc
        | succ p =>
          simp at hx
          have := okAll_spec h (by omega : p < q) hx hy hc
          rw [show i + (p + 1) = i + 1 + p from by omega]; exact this
    · simp at h

theorem edgesBack_spec : ∀ {l : List Oper} {i : Nat}, edgesBack i l = true → ∀ {p : Nat} {o : Oper}, l[p]? = some o → ∀ e ∈ o.after, bindsAny e = true → e.on < i + p
  | [], i, _, p, o, ho, _, _, _ => by simp at ho
  | z :: l, i, h, p, o, ho, e, he, hb => by
    unfold edgesBack at h
    split at h
    · rename_i hz
      cases p with
      | zero =>
        simp at ho; subst ho
        have := (List.all_eq_true.1 hz) e (by simpa using he)
        rw [hb] at this
        exact Nat.le_of_ble_eq_true this
      | succ p =>
        have := edgesBack_spec h (p := p) (by simpa using ho) e he hb
        omega
    · simp at h

theorem befores_spec : ∀ (l : List Oper) (acc : List Nat), ∃ rest, befores acc l = acc ++ rest ∧ rest.length = l.length ∧ ∀ q o, l[q]? = some o → rest[q]? = some (beforeOf (acc ++ rest.take q) o)
  | [], acc => ⟨[], by simp [befores], rfl, fun q o h => by simp at h⟩
  | o :: l, acc => by
    obtain ⟨rest, h1, h2, h3⟩ := befores_spec l (acc ++ [beforeOf acc o])
    refine ⟨beforeOf acc o :: rest, by simp only [befores, h1]; simp, by simp [h2], fun q o' h => ?_⟩
    cases q with
    | zero => simp at h; subst h; simp
    | succ q =>
      have := h3 q o' (by simpa using h)
      simp only [List.getElem?_cons_succ, this, List.take_succ_cons]
      simp

theorem beforeOf_spec {acc : List Nat} {i : Nat} : ∀ (l : List Edge) (s : Nat), Nat.testBit (l.foldl (fun s e => match bindsAny e with | true => (s ||| 2 ^ e.on) ||| acc.getD e.on 0 | false => s) s) i = true →
    Nat.testBit s i = true ∨ ∃ e ∈ l, bindsAny e = true ∧ (i = e.on ∨ Nat.testBit (acc.getD e.on 0) i = true)
  | [], s, h => .inl h
  | e :: l, s, h => by
    simp only [List.foldl_cons] at h
    rcases beforeOf_spec l _ h with h1 | ⟨e', he', h1⟩
    · split at h1
      · rename_i hb
        simp only [Nat.testBit_or, Bool.or_eq_true, Nat.testBit_two_pow, decide_eq_true_eq] at h1
        rcases h1 with (h1 | h1) | h1
        · exact .inl h1
        · exact .inr ⟨e, by simp, hb, .inl h1.symm⟩
        · exact .inr ⟨e, by simp, hb, .inr h1⟩
      · exact .inl h1
    · exact .inr ⟨e', by simp [he'], h1⟩

/-- What an operation clashes with that stands before it has come before it. -/
def Closed (ops : Array Oper) (L : Array Bool) : Prop := ∀ (p : Nat) (o : Oper), ops[p]? = some o → L.getD p false = true → ∀ e ∈ o.after, bindsAny e = true → L.getD e.on false = true

theorem closed_bits {L : Array Bool} (hc : Closed ops L) (hb : edgesBack 0 ops.toList = true) : ∀ (j : Nat) (o : Oper) (b : Nat), ops[j]? = some o → (befores [] ops.toList)[j]? = some b → (∀ e ∈ o.after, bindsAny e = true → L.getD e.on false = true) →
    ∀ i, Nat.testBit b i = true → L.getD i false = true := by
  obtain ⟨rest, h1, h2, h3⟩ := befores_spec ops.toList []
  simp only [List.nil_append] at h1 h3
  intro j
  induction j using Nat.strongRecOn with
  | _ j ih =>
    intro o b ho hbj he i hi
    rw [h1] at hbj ih
    have := h3 j o (by simpa using ho)
    rw [hbj] at this
    cases this
    unfold beforeOf at hi
    rcases beforeOf_spec _ _ hi with h0 | ⟨e, hea, heb, h4⟩
    · simp at h0
    · have hea : e ∈ o.after := by simpa using hea
      rcases h4 with rfl | h4
      · exact he e hea heb
      · have hlt := edgesBack_spec hb (p := j) (by simpa using ho) e hea heb
        simp only [Nat.zero_add] at hlt
        have hjs : j < ops.size := (Array.getElem?_eq_some_iff.1 ho).1
        have hlt' : e.on < rest.length := by rw [h2]; simp; omega
        have hLe := he e hea heb
        obtain ⟨oe, hoe⟩ : ∃ oe, ops[e.on]? = some oe := ⟨ops[e.on], by simp⟩
        rw [List.getD_eq_getElem?_getD, List.getElem?_take_of_lt hlt, List.getElem?_eq_getElem hlt'] at h4
        exact ih e.on hlt oe rest[e.on] hoe (List.getElem?_eq_getElem hlt') (fun e' he' hb' => hc e.on oe hoe hLe e' he' hb') i (by simpa using h4)

theorem clash_before {L : Array Bool} (ho : orderOK c ops.toList = true) (hc : Closed ops L) {i j : Nat} {x y : Oper} (hij : i < j) (hx : ops[i]? = some x) (hy : ops[j]? = some y) (hcl : clash c (ops.toList.map (·.dst)) x y = true)
    (he : ∀ e ∈ y.after, bindsAny e = true → L.getD e.on false = true) : L.getD i false = true := by
  unfold orderOK at ho
  split at ho
  · rename_i hb
    obtain ⟨rest, h1, h2, h3⟩ := befores_spec ops.toList []
    simp only [List.nil_append] at h1 h3
    have hjs : j < ops.size := (Array.getElem?_eq_some_iff.1 hy).1
    have hjr : j < rest.length := by rw [h2]; simpa using hjs
    have hir : i < rest.length := by omega
    have z : ∀ {q : Nat} {u : Oper} (hq : q < rest.length), ops[q]? = some u → (ops.toList.zip (befores [] ops.toList))[q]? = some (u, rest[q]) := by
      intro q u hq hu
      rw [h1]
      rw [List.getElem?_zip_eq_some]
      exact ⟨by simpa using hu, List.getElem?_eq_getElem hq⟩
    have hbit := okAll_spec ho hij (z hir hx) (z hjr hy) hcl
    simp only [Nat.zero_add] at hbit
    exact closed_bits hc hb j y rest[j] hy (by rw [h1]; exact List.getElem?_eq_getElem hjr) he i hbit
  · simp at ho

/-! The registers, after some of the operations. -/
def pushD (d : Option Nat) (y : AV) (r : Regs) : Regs :=
  match d with
  | none => r
  | some d => (d, y) :: r
abbrev Tr := List (Option Nat × AV)
def regsF : Tr → Regs → Regs
  | [], r => r
  | x :: l, r => regsF l (pushD x.1 x.2 r)
def regsL (L : Nat → Bool) : Nat → Tr → Regs → Regs
  | _, [], r => r
  | i, x :: l, r => regsL L (i + 1) l (if L i then pushD x.1 x.2 r else r)

theorem look_pushD {d : Option Nat} {y : AV} {t : Nat} : look t (pushD d y r) = if d = some t then some y else look t r := by
  cases d with
  | none => simp [pushD]
  | some d => simp [pushD, look_cons]

theorem regsF_congr {t : Nat} : ∀ {tr : Tr} {r r' : Regs}, look t r = look t r' → look t (regsF tr r) = look t (regsF tr r')
  | [], _, _, h => h
  | x :: l, r, r', h => by
    simp only [regsF]
    refine regsF_congr ?_
    simp only [look_pushD, h]

theorem look_regsL {L : Nat → Bool} {t : Nat} : ∀ {tr : Tr} {i p : Nat} {r r' : Regs}, look t r = look t r' → (∀ q x, tr[q]? = some x → x.1 = some t → (q < p ↔ L (i + q) = true)) → look t (regsL L i tr r) = look t (regsF (tr.take p) r')
  | [], i, p, r, r', h, _ => by simpa [regsL, regsF] using h
  | x :: l, i, p, r, r', h, hL => by
    have h0 := hL 0 x (by simp)
    simp only [regsL]
    cases p with
    | zero =>
      have := look_regsL (L := L) (t := t) (tr := l) (i := i + 1) (p := 0) (r := if L i then pushD x.1 x.2 r else r) (r' := r') (by
        split
        · rename_i hl
          rw [look_pushD]
          split
          · rename_i e
            have := (h0 e).2 (by simpa using hl)
            omega
          · exact h
        · exact h) (fun q x hq hx => by
          have := hL (q + 1) x (by simpa using hq) hx
          rw [show i + 1 + q = i + (q + 1) from by omega, ← this]; omega)
      simpa [regsF] using this
    | succ p =>
      simp only [List.take_succ_cons, regsF]
      refine look_regsL ?_ (fun q x hq hx => ?_)
      · by_cases e : x.1 = some t
        · have := (h0 e).1 (by omega)
          simp only [Nat.add_zero] at this
          rw [if_pos this]
          simp only [look_pushD, if_pos e]
        · rw [look_pushD, if_neg e]
          split
          · rw [look_pushD, if_neg e]; exact h
          · exact h
      · have := hL (q + 1) x (by simpa using hq) hx
        rw [show i + 1 + q = i + (q + 1) from by omega, ← this]; omega

theorem look_regsL_eq {L L' : Nat → Bool} {t : Nat} : ∀ {tr : Tr} {i : Nat} {r r' : Regs}, look t r = look t r' → (∀ q x, tr[q]? = some x → x.1 = some t → L (i + q) = L' (i + q)) → look t (regsL L i tr r) = look t (regsL L' i tr r')
  | [], i, r, r', h, _ => h
  | x :: l, i, r, r', h, hL => by
    simp only [regsL]
    refine look_regsL_eq ?_ (fun q y hq hy => by
      have := hL (q + 1) y (by simpa using hq) hy
      rwa [show i + 1 + q = i + (q + 1) from by omega])
    by_cases e : x.1 = some t
    · have := hL 0 x (by simp) e
      simp only [Nat.add_zero] at this
      rw [this]
      split
      · simp only [look_pushD, if_pos e]
      · exact h
    · split <;> split <;> simp only [look_pushD, if_neg e, h]

theorem look_regsL_at {L : Nat → Bool} {t : Nat} {y : AV} : ∀ {tr : Tr} {i p : Nat} {r : Regs}, tr[p]? = some (some t, y) → L (i + p) = true → (∀ q x, p < q → tr[q]? = some x → x.1 = some t → L (i + q) = false) → look t (regsL L i tr r) = some y
  | [], i, p, r, h, _, _ => by simp at h
  | x :: l, i, 0, r, h, h0, hL => by
    simp at h; subst h
    simp only [regsL]
    simp only [Nat.add_zero] at h0
    rw [if_pos h0, look_regsL (p := 0) (r' := pushD (some t) y r) rfl (fun q x hq hx => ?_)]
    · simp [regsF, look_pushD]
    · have := hL (q + 1) x (by omega) (by simpa using hq) hx
      rw [show i + 1 + q = i + (q + 1) from by omega, this]; simp
  | x :: l, i, p + 1, r, h, h0, hL => by
    simp only [regsL]
    refine look_regsL_at (p := p) (by simpa using h) (by rw [show i + 1 + p = i + (p + 1) from by omega]; exact h0) (fun q y hq hy he => ?_)
    rw [show i + 1 + q = i + (q + 1) from by omega]
    exact hL (q + 1) y (by omega) (by simpa using hy) he

/-! A stretch of operations that turn no block. -/
def StepQ (c : Cfg) (ds : List (Option Nat)) (o : Oper) (r : Regs) (m : Mem) (y : AV) : Prop :=
  (o.guard = none ∧ evalQ c r m o some = some y) ∨
  (∃ j want d, o.guard = some (j, want) ∧ ds[j]? = some (some d) ∧
    ((∃ b, lookT d r = some (.one (.bool b)) ∧ d < c.N ∧ ((b = want ∧ evalQ c r m o some = some y) ∨ (b ≠ want ∧ y = .undef))) ∨ (lookT d r = some .undef ∧ y = .undef)))

theorem put_pushD {dst : Option Nat} {x : AV} {σ : St} {kk : St → Option R} (h : σ.put c dst x kk = some res) : (∀ d, dst = some d → d < c.N ∧ d < OFF) ∧ kk { regs := pushD dst x σ.regs, mem := σ.mem, nx := σ.nx } = some res := by
  cases dst with
  | none => exact ⟨fun d h => (by cases h), h⟩
  | some d => obtain ⟨h1, h0, h2⟩ := put_lt h; exact ⟨fun d' h => (by cases h; exact ⟨h1, h0⟩), h2⟩

theorem stepOp_Q {H : Hnd R} {σ : St} {kk : St → Option R} (hq : isQ c o.op = true) (h : stepOp H c true o σ kk = some res) : ∃ y, evalQ c σ.regs σ.mem o some = some y ∧ (∀ d, o.dst = some d → d < c.N ∧ d < OFF) ∧ kk { regs := pushD o.dst y σ.regs, mem := σ.mem, nx := σ.nx } = some res := by
  simp only [stepOp, hq] at h
  obtain ⟨y, h1, h2⟩ := evalQ_some h
  exact ⟨y, h1, put_pushD h2⟩

theorem stepQ_of {H : Hnd R} {l : List Oper} (hq : isQ c o.op = true) (h : runOps H c true ds (o :: l) σ k = some res) : ∃ (r : Regs) (y : AV), (∀ t, look t r = look t σ.regs) ∧ StepQ c ds o r σ.mem y ∧ (∀ d, o.dst = some d → d < c.N ∧ d < OFF) ∧ runOps H c true ds l { regs := pushD o.dst y r, mem := σ.mem, nx := σ.nx } k = some res := by
  rw [runOps_cons] at h
  split at h
  · rename_i hg
    obtain ⟨y, h1, h2, h3⟩ := stepOp_Q hq h
    exact ⟨σ.regs, y, fun _ => rfl, .inl ⟨hg, h1⟩, h2, h3⟩
  · rename_i j want hg
    split at h
    · rename_i d hd
      split at h
      · rename_i b hb
        have again : ∀ {b : Bool}, lookT d σ.regs = some (.one (.bool b)) → ∀ t, look t ((d, AV.one (.bool b)) :: σ.regs) = look t σ.regs := by
          intro b hb t
          have hb := (lookT_some hb).2
          rw [look_cons]; split
          · rename_i e; subst e; exact hb.symm
          · rfl
        have fin : ∀ {b : Bool}, lookT d σ.regs = some (.one (.bool b)) → d < c.N → (match (b == want) with
            | true => stepOp H c true o { regs := (d, .one (.bool b)) :: σ.regs, mem := σ.mem, nx := σ.nx } fun σ' => runOps H c true ds l σ' k
            | false => St.put c { regs := (d, .one (.bool b)) :: σ.regs, mem := σ.mem, nx := σ.nx } o.dst .undef fun σ' => runOps H c true ds l σ' k) = some res → ∃ (r : Regs) (y : AV), (∀ t, look t r = look t σ.regs) ∧ StepQ c ds o r σ.mem y ∧ (∀ d, o.dst = some d → d < c.N ∧ d < OFF) ∧ runOps H c true ds l { regs := pushD o.dst y r, mem := σ.mem, nx := σ.nx } k = some res := by
          intro b hb hlt h
          split at h
          · rename_i e
            obtain ⟨y, h1, h2, h3⟩ := stepOp_Q hq h
            exact ⟨_, y, again hb, .inr ⟨j, want, d, hg, hd, .inl ⟨b, by rw [lookT_congr (again hb _)]; exact hb, hlt, .inl ⟨by simpa using e, h1⟩⟩⟩, h2, h3⟩
          · rename_i e
            obtain ⟨h2, h3⟩ := put_pushD h
            exact ⟨_, .undef, again hb, .inr ⟨j, want, d, hg, hd, .inl ⟨b, by rw [lookT_congr (again hb _)]; exact hb, hlt, .inr ⟨by simpa using e, rfl⟩⟩⟩, h2, h3⟩
        rcases bcase_some h with ⟨rfl, h1⟩ | ⟨rfl, h1⟩
        · obtain ⟨hlt, -, h2⟩ := put_lt h1
          refine fin hb hlt ?_
          cases want <;> exact h2
        · obtain ⟨hlt, -, h2⟩ := put_lt h1
          refine fin hb hlt ?_
          cases want <;> exact h2
      · rename_i hu
        obtain ⟨h2, h3⟩ := put_pushD h
        exact ⟨_, .undef, fun _ => rfl, .inr ⟨j, want, d, hg, hd, .inr ⟨hu, rfl⟩⟩, h2, h3⟩
      · simp at h
    · simp at h

structure Seg (H : Hnd R) (c : Cfg) (ds : List (Option Nat)) (k : St → Option R) (res : R) (σ : St) (l : List Oper) (tr : Tr) (σe : St) : Prop where
  le : tr.length ≤ l.length
  rest : runOps H c true ds (l.drop tr.length) σe k = some res
  head : ∀ o, l[tr.length]? = some o → isQ c o.op = false
  mem : σe.mem = σ.mem
  nx : σe.nx = σ.nx
  regs : ∀ t, look t σe.regs = look t (regsF tr σ.regs)
  step : ∀ p o x, l[p]? = some o → tr[p]? = some x → isQ c o.op = true ∧ x.1 = o.dst ∧ (∀ d, o.dst = some d → d < c.N ∧ d < OFF) ∧ ∃ r, (∀ t, look t r = look t (regsF (tr.take p) σ.regs)) ∧ StepQ c ds o r σ.mem x.2

theorem mkSeg {H : Hnd R} : ∀ (l : List Oper) (σ : St), runOps H c true ds l σ k = some res → ∃ tr σe, Seg H c ds k res σ l tr σe
  | [], σ, h => ⟨[], σ, by simp, by simpa using h, fun o h => by simp at h, rfl, rfl, fun _ => rfl, fun p o x h => by simp at h⟩
  | o :: l, σ, h => by
    cases hq : isQ c o.op with
    | false => exact ⟨[], σ, by simp, by simpa using h, fun o' h => by simp at h; subst h; exact hq, rfl, rfl, fun _ => rfl, fun p o' x _ h => by simp at h⟩
    | true =>
      obtain ⟨r, y, hr, hs, hd, h1⟩ := stepQ_of hq h
      obtain ⟨tr, σe, S⟩ := mkSeg l _ h1
      have hpr : ∀ t, look t (pushD o.dst y r) = look t (pushD o.dst y σ.regs) := fun t => by simp only [look_pushD, hr]
      refine ⟨(o.dst, y) :: tr, σe, by have := S.le; simp; omega, by simpa using S.rest, fun o' h => S.head o' (by simpa using h), S.mem, S.nx, fun t => (S.regs t).trans (regsF_congr (hpr t)), fun p o' x hp hx => ?_⟩
      cases p with
      | zero =>
        simp at hp hx
        subst hp; subst hx
        exact ⟨hq, rfl, hd, r, by simpa [regsF] using hr, hs⟩
      | succ p =>
        obtain ⟨h1, h2, h3, r', h4, h5⟩ := S.step p o' x (by simpa using hp) (by simpa using hx)
        exact ⟨h1, h2, h3, r', fun t => by rw [h4]; simpa [regsF] using regsF_congr (hpr t), h5⟩

end
end Go.Eng
