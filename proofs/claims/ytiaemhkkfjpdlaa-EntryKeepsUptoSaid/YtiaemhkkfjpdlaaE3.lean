import Derived.Test.YtiaemhkkfjpdlaaE2
import Derived.Scope
import Derived.RangeFuncRecord
set_option linter.unusedSectionVars false
set_option linter.unusedVariables false
set_option linter.unusedSimpArgs false
set_option linter.unnecessarySimpa false
/- THE ENGINE, soundness, part 17: a region that draws its order. -/
set_option linter.unusedSimpArgs false
set_option linter.unusedVariables false
set_option linter.unnecessarySimpa false
namespace Go.Eng
open Go Go.RowKit

section
variable {P : Program} [GlobL P] {F : Fence} {n : Nat} {c : Cfg} {g g' : Gh} {r : Regs} {m : Mem} {a : Act} {w w' : World} {o : Oper} {R : Type} {k : St → Option R} {res : R} {xs : List Operand}
variable {base : Nat} {w0 : World} {S0 : Nat → Prop} {N : Nat} {D : Wt} {sv : Nat → Value} {σ : St} {ops : Array Oper} {Q : Exit → Act → World → Prop} {ds : List (Option Nat)}

/-! The order. -/
theorem okFrom_spec {x : Oper} {i : Nat} : ∀ {l : List (Oper × Nat)}, okFrom c ds i x l = true → ∀ y ∈ l, clash c ds x y.1 = true → Nat.testBit y.2 i = true
  | [], _, y, hy, _ => by simp at hy
  | z :: l, h, y, hy, hc => by
    unfold okFrom at h
    split at h
    · split at h
      · rename_i hb
        rcases List.mem_cons.1 hy with rfl | hy
        · exact hb
        · exact okFrom_spec h y hy hc
      · simp at h
    · rename_i hcl
      rcases List.mem_cons.1 hy with rfl | hy
      · rw [hc] at hcl; cases hcl
      · exact okFrom_spec h y hy hc

theorem okAll_spec : ∀ {l : List (Oper × Nat)} {i : Nat}, okAll c ds i l = true → ∀ {p q : Nat} {x y : Oper × Nat}, p < q → l[p]? = some x → l[q]? = some y → clash c ds x.1 y.1 = true → Nat.testBit y.2 (i + p) = true
  | [], i, _, p, q, x, y, _, hx, _, _ => by simp at hx
  | z :: l, i, h, p, q, x, y, hpq, hx, hy, hc => by
    unfold okAll at h
    split at h
    · rename_i hf
      cases q with
      | zero => omega
      | succ q =>
        simp at hy
        cases p with
        | zero =>
          simp at hx; subst hx
          exact okFrom_spec hf y (List.mem_of_getElem? hy) hc
        | succ p =>
          simp at hx
          have := okAll_spec h (by omega : p < q) hx hy hc
          rw [show i + (p + 1) = i + 1 + p from by omega]; exact this
    · simp at h

theorem edgesBack_spec : ∀ {l : List Oper} {i : Nat}, edgesBack i l = true → ∀ {p : Nat} {o : Oper}, l[p]? = some o → ∀ e ∈ o.after, bindsAny e = true → e.on < i + p
  | [], i, _, p, o, ho, _, _, _ => by simp at ho
  | z :: l, i, h, p, o, ho, e, he, hb => by
    unfold edgesBack at h
    split at h
    · rename_i hz
      cases p with
      | zero =>
        simp at ho; subst ho
        have := (List.all_eq_true.1 hz) e (by simpa using he)
        rw [hb] at this
        exact Nat.le_of_ble_eq_true this
      | succ p =>
        have := edgesBack_spec h (p := p) (by simpa using ho) e he hb
        omega
    · simp at h

theorem befores_spec : ∀ (l : List Oper) (acc : List Nat), ∃ rest, befores acc l = acc ++ rest ∧ rest.length = l.length ∧ ∀ q o, l[q]? = some o → rest[q]? = some (beforeOf (acc ++ rest.take q) o)
  | [], acc => ⟨[], by simp [befores], rfl, fun q o h => by simp at h⟩
  | o :: l, acc => by
    obtain ⟨rest, h1, h2, h3⟩ := befores_spec l (acc ++ [beforeOf acc o])
    refine ⟨beforeOf acc o :: rest, by simp only [befores, h1]; simp, by simp [h2], fun q o' h => ?_⟩
    cases q with
    | zero => simp at h; subst h; simp
    | succ q =>
      have := h3 q o' (by simpa using h)
      simp only [List.getElem?_cons_succ, this, List.take_succ_cons]
      simp

theorem beforeOf_spec {acc : List Nat} {i : Nat} : ∀ (l : List Edge) (s : Nat), Nat.testBit (l.foldl (fun s e => match bindsAny e with | true => (s ||| 2 ^ e.on) ||| acc.getD e.on 0 | false => s) s) i = true →
    Nat.testBit s i = true ∨ ∃ e ∈ l, bindsAny e = true ∧ (i = e.on ∨ Nat.testBit (acc.getD e.on 0) i = true)
  | [], s, h => .inl h
  | e :: l, s, h => by
    simp only [List.foldl_cons] at h
    rcases beforeOf_spec l _ h with h1 | ⟨e', he', h1⟩
    · split at h1
      · rename_i hb
        simp only [Nat.testBit_or, Bool.or_eq_true, Nat.testBit_two_pow, decide_eq_true_eq] at h1
        rcases h1 with (h1 | h1) | h1
        · exact .inl h1
        · exact .inr ⟨e, by simp, hb, .inl h1.symm⟩
        · exact .inr ⟨e, by simp, hb, .inr h1⟩
      · exact .inl h1
    · exact .inr ⟨e', by simp [he'], h1⟩

/-- What an operation clashes with that stands before it has come before it. -/
def Closed (ops : Array Oper) (L : Array Bool) : Prop := ∀ (p : Nat) (o : Oper), ops[p]? = some o → L.getD p false = true → ∀ e ∈ o.after, bindsAny e = true → L.getD e.on false = true

theorem closed_bits {L : Array Bool} (hc : Closed ops L) (hb : edgesBack 0 ops.toList = true) : ∀ (j : Nat) (o : Oper) (b : Nat), ops[j]? = some o → (befores [] ops.toList)[j]? = some b → (∀ e ∈ o.after, bindsAny e = true → L.getD e.on false = true) →
    ∀ i, Nat.testBit b i = true → L.getD i false = true := by
  obtain ⟨rest, h1, h2, h3⟩ := befores_spec ops.toList []
  simp only [List.nil_append] at h1 h3
  intro j
  induction j using Nat.strongRecOn with
  | _ j ih =>
    intro o b ho hbj he i hi
    rw [h1] at hbj ih
    have := h3 j o (by simpa using ho)
    rw [hbj] at this
    cases this
    unfold beforeOf at hi
    rcases beforeOf_spec _ _ hi with h0 | ⟨e, hea, heb, h4⟩
    · simp at h0
    · have hea : e ∈ o.after := by simpa using hea
      rcases h4 with rfl | h4
      · exact he e hea heb
      · have hlt := edgesBack_spec hb (p := j) (by simpa using ho) e hea heb
        simp only [Nat.zero_add] at hlt
        have hjs : j < ops.size := (Array.getElem?_eq_some_iff.1 ho).1
        have hlt' : e.on < rest.length := by rw [h2]; simp; omega
        have hLe := he e hea heb
        obtain ⟨oe, hoe⟩ : ∃ oe, ops[e.on]? = some oe := ⟨ops[e.on], by simp⟩
        rw [List.getD_eq_getElem?_getD, List.getElem?_take_of_lt hlt, List.getElem?_eq_getElem hlt'] at h4
        exact ih e.on hlt oe rest[e.on] hoe (List.getElem?_eq_getElem hlt') (fun e' he' hb' => hc e.on oe hoe hLe e' he' hb') i (by simpa using h4)

theorem clash_before {L : Array Bool} (ho : orderOK c ops.toList = true) (hc : Closed ops L) {i j : Nat} {x y : Oper} (hij : i < j) (hx : ops[i]? = some x) (hy : ops[j]? = some y) (hcl : clash c (ops.toList.map (·.dst)) x y = true)
    (he : ∀ e ∈ y.after, bindsAny e = true → L.getD e.on false = true) : L.getD i false = true := by
  unfold orderOK at ho
  split at ho
  · rename_i hb
    obtain ⟨rest, h1, h2, h3⟩ := befores_spec ops.toList []
    simp only [List.nil_append] at h1 h3
    have hjs : j < ops.size := (Array.getElem?_eq_some_iff.1 hy).1
    have hjr : j < rest.length := by rw [h2]; simpa using hjs
    have hir : i < rest.length := by omega
    have z : ∀ {q : Nat} {u : Oper} (hq : q < rest.length), ops[q]? = some u → (ops.toList.zip (befores [] ops.toList))[q]? = some (u, rest[q]) := by
      intro q u hq hu
      rw [h1]
      rw [List.getElem?_zip_eq_some]
      exact ⟨by simpa using hu, List.getElem?_eq_getElem hq⟩
    have hbit := okAll_spec ho hij (z hir hx) (z hjr hy) hcl
    simp only [Nat.zero_add] at hbit
    exact closed_bits hc hb j y rest[j] hy (by rw [h1]; exact List.getElem?_eq_getElem hjr) he i hbit
  · simp at ho

/-! The registers, after some of the operations. -/
def pushD (d : Option Nat) (y : AV) (r : Regs) : Regs :=
  match d with
  | none => r
  | some d => (d, y) :: r
abbrev Tr := List (Option Nat × AV)
def regsF : Tr → Regs → Regs
  | [], r => r
  | x :: l, r => regsF l (pushD x.1 x.2 r)
def regsL (L : Nat → Bool) : Nat → Tr → Regs → Regs
  | _, [], r => r
  | i, x :: l, r => regsL L (i + 1) l (if L i then pushD x.1 x.2 r else r)

theorem look_pushD {d : Option Nat} {y : AV} {t : Nat} : look t (pushD d y r) = if d = some t then some y else look t r := by
  cases d with
  | none => simp [pushD]
  | some d => simp [pushD, look_cons]

theorem regsF_congr {t : Nat} : ∀ {tr : Tr} {r r' : Regs}, look t r = look t r' → look t (regsF tr r) = look t (regsF tr r')
  | [], _, _, h => h
  | x :: l, r, r', h => by
    simp only [regsF]
    refine regsF_congr ?_
    simp only [look_pushD, h]

theorem look_regsL {L : Nat → Bool} {t : Nat} : ∀ {tr : Tr} {i p : Nat} {r r' : Regs}, look t r = look t r' → (∀ q x, tr[q]? = some x → x.1 = some t → (q < p ↔ L (i + q) = true)) → look t (regsL L i tr r) = look t (regsF (tr.take p) r')
  | [], i, p, r, r', h, _ => by simpa [regsL, regsF] using h
  | x :: l, i, p, r, r', h, hL => by
    have h0 := hL 0 x (by simp)
    simp only [regsL]
    cases p with
    | zero =>
      have := look_regsL (L := L) (t := t) (tr := l) (i := i + 1) (p := 0) (r := if L i then pushD x.1 x.2 r else r) (r' := r') (by
        split
        · rename_i hl
          rw [look_pushD]
          split
          · rename_i e
            have := (h0 e).2 (by simpa using hl)
            omega
          · exact h
        · exact h) (fun q x hq hx => by
          have := hL (q + 1) x (by simpa using hq) hx
          rw [show i + 1 + q = i + (q + 1) from by omega, ← this]; omega)
      simpa [regsF] using this
    | succ p =>
      simp only [List.take_succ_cons, regsF]
      refine look_regsL ?_ (fun q x hq hx => ?_)
      · by_cases e : x.1 = some t
        · have := (h0 e).1 (by omega)
          simp only [Nat.add_zero] at this
          rw [if_pos this]
          simp only [look_pushD, if_pos e]
        · rw [look_pushD, if_neg e]
          split
          · rw [look_pushD, if_neg e]; exact h
          · exact h
      · have := hL (q + 1) x (by simpa using hq) hx
        rw [show i + 1 + q = i + (q + 1) from by omega, ← this]; omega

theorem look_regsL_eq {L L' : Nat → Bool} {t : Nat} : ∀ {tr : Tr} {i : Nat} {r r' : Regs}, look t r = look t r' → (∀ q x, tr[q]? = some x → x.1 = some t → L (i + q) = L' (i + q)) → look t (regsL L i tr r) = look t (regsL L' i tr r')
  | [], i, r, r', h, _ => h
  | x :: l, i, r, r', h, hL => by
    simp only [regsL]
    refine look_regsL_eq ?_ (fun q y hq hy => by
      have := hL (q + 1) y (by simpa using hq) hy
      rwa [show i + 1 + q = i + (q + 1) from by omega])
    by_cases e : x.1 = some t
    · have := hL 0 x (by simp) e
      simp only [Nat.add_zero] at this
      rw [this]
      split
      · simp only [look_pushD, if_pos e]
      · exact h
    · split <;> split <;> simp only [look_pushD, if_neg e, h]

theorem look_regsL_at {L : Nat → Bool} {t : Nat} {y : AV} : ∀ {tr : Tr} {i p : Nat} {r : Regs}, tr[p]? = some (some t, y) → L (i + p) = true → (∀ q x, p < q → tr[q]? = some x → x.1 = some t → L (i + q) = false) → look t (regsL L i tr r) = some y
  | [], i, p, r, h, _, _ => by simp at h
  | x :: l, i, 0, r, h, h0, hL => by
    simp at h; subst h
    simp only [regsL]
    simp only [Nat.add_zero] at h0
    rw [if_pos h0, look_regsL (p := 0) (r' := pushD (some t) y r) rfl (fun q x hq hx => ?_)]
    · simp [regsF, look_pushD]
    · have := hL (q + 1) x (by omega) (by simpa using hq) hx
      rw [show i + 1 + q = i + (q + 1) from by omega, this]; simp
  | x :: l, i, p + 1, r, h, h0, hL => by
    simp only [regsL]
    refine look_regsL_at (p := p) (by simpa using h) (by rw [show i + 1 + p = i + (p + 1) from by omega]; exact h0) (fun q y hq hy he => ?_)
    rw [show i + 1 + q = i + (q + 1) from by omega]
    exact hL (q + 1) y (by omega) (by simpa using hy) he

/-! A stretch of operations that turn no block. -/
def StepQ (c : Cfg) (ds : List (Option Nat)) (o : Oper) (r : Regs) (m : Mem) (y : AV) : Prop :=
  (o.guard = none ∧ evalQ c r m o some = some y) ∨
  (∃ j want d, o.guard = some (j, want) ∧ ds[j]? = some (some d) ∧
    ((∃ b, lookT d r = some (.one (.bool b)) ∧ d < c.N ∧ ((b = want ∧ evalQ c r m o some = some y) ∨ (b ≠ want ∧ y = .undef))) ∨ (lookT d r = some .undef ∧ y = .undef)))

theorem put_pushD {dst : Option Nat} {x : AV} {σ : St} {kk : St → Option R} (h : σ.put c dst x kk = some res) : (∀ d, dst = some d → d < c.N ∧ d < OFF) ∧ kk { regs := pushD dst x σ.regs, mem := σ.mem, nx := σ.nx } = some res := by
  cases dst with
  | none => exact ⟨fun d h => (by cases h), h⟩
  | some d => obtain ⟨h1, h0, h2⟩ := put_lt h; exact ⟨fun d' h => (by cases h; exact ⟨h1, h0⟩), h2⟩

theorem stepOp_Q {H : Hnd R} {σ : St} {kk : St → Option R} (hq : isQ c o.op = true) (h : stepOp H c true o σ kk = some res) : ∃ y, evalQ c σ.regs σ.mem o some = some y ∧ (∀ d, o.dst = some d → d < c.N ∧ d < OFF) ∧ kk { regs := pushD o.dst y σ.regs, mem := σ.mem, nx := σ.nx } = some res := by
  simp only [stepOp, hq] at h
  obtain ⟨y, h1, h2⟩ := evalQ_some h
  exact ⟨y, h1, put_pushD h2⟩

theorem stepQ_of {H : Hnd R} {l : List Oper} (hq : isQ c o.op = true) (h : runOps H c true ds (o :: l) σ k = some res) : ∃ (r : Regs) (y : AV), (∀ t, look t r = look t σ.regs) ∧ StepQ c ds o r σ.mem y ∧ (∀ d, o.dst = some d → d < c.N ∧ d < OFF) ∧ runOps H c true ds l { regs := pushD o.dst y r, mem := σ.mem, nx := σ.nx } k = some res := by
  rw [runOps_cons] at h
  split at h
  · rename_i hg
    obtain ⟨y, h1, h2, h3⟩ := stepOp_Q hq h
    exact ⟨σ.regs, y, fun _ => rfl, .inl ⟨hg, h1⟩, h2, h3⟩
  · rename_i j want hg
    split at h
    · rename_i d hd
      split at h
      · rename_i b hb
        have again : ∀ {b : Bool}, lookT d σ.regs = some (.one (.bool b)) → ∀ t, look t ((d, AV.one (.bool b)) :: σ.regs) = look t σ.regs := by
          intro b hb t
          have hb := (lookT_some hb).2
          rw [look_cons]; split
          · rename_i e; subst e; exact hb.symm
          · rfl
        have fin : ∀ {b : Bool}, lookT d σ.regs = some (.one (.bool b)) → d < c.N → (match (b == want) with
            | true => stepOp H c true o { regs := (d, .one (.bool b)) :: σ.regs, mem := σ.mem, nx := σ.nx } fun σ' => runOps H c true ds l σ' k
            | false => St.put c { regs := (d, .one (.bool b)) :: σ.regs, mem := σ.mem, nx := σ.nx } o.dst .undef fun σ' => runOps H c true ds l σ' k) = some res → ∃ (r : Regs) (y : AV), (∀ t, look t r = look t σ.regs) ∧ StepQ c ds o r σ.mem y ∧ (∀ d, o.dst = some d → d < c.N ∧ d < OFF) ∧ runOps H c true ds l { regs := pushD o.dst y r, mem := σ.mem, nx := σ.nx } k = some res := by
          intro b hb hlt h
          split at h
          · rename_i e
            obtain ⟨y, h1, h2, h3⟩ := stepOp_Q hq h
            exact ⟨_, y, again hb, .inr ⟨j, want, d, hg, hd, .inl ⟨b, by rw [lookT_congr (again hb _)]; exact hb, hlt, .inl ⟨by simpa using e, h1⟩⟩⟩, h2, h3⟩
          · rename_i e
            obtain ⟨h2, h3⟩ := put_pushD h
            exact ⟨_, .undef, again hb, .inr ⟨j, want, d, hg, hd, .inl ⟨b, by rw [lookT_congr (again hb _)]; exact hb, hlt, .inr ⟨by simpa using e, rfl⟩⟩⟩, h2, h3⟩
        rcases bcase_some h with ⟨rfl, h1⟩ | ⟨rfl, h1⟩
        · obtain ⟨hlt, -, h2⟩ := put_lt h1
          refine fin hb hlt ?_
          cases want <;> exact h2
        · obtain ⟨hlt, -, h2⟩ := put_lt h1
          refine fin hb hlt ?_
          cases want <;> exact h2
      · rename_i hu
        obtain ⟨h2, h3⟩ := put_pushD h
        exact ⟨_, .undef, fun _ => rfl, .inr ⟨j, want, d, hg, hd, .inr ⟨hu, rfl⟩⟩, h2, h3⟩
      · simp at h
    · simp at h

structure Seg (H : Hnd R) (c : Cfg) (ds : List (Option Nat)) (k : St → Option R) (res : R) (σ : St) (l : List Oper) (tr : Tr) (σe : St) : Prop where
  le : tr.length ≤ l.length
  rest : runOps H c true ds (l.drop tr.length) σe k = some res
  head : ∀ o, l[tr.length]? = some o → isQ c o.op = false
  mem : σe.mem = σ.mem
  nx : σe.nx = σ.nx
  regs : ∀ t, look t σe.regs = look t (regsF tr σ.regs)
  step : ∀ p o x, l[p]? = some o → tr[p]? = some x → isQ c o.op = true ∧ x.1 = o.dst ∧ (∀ d, o.dst = some d → d < c.N ∧ d < OFF) ∧ ∃ r, (∀ t, look t r = look t (regsF (tr.take p) σ.regs)) ∧ StepQ c ds o r σ.mem x.2

theorem mkSeg {H : Hnd R} : ∀ (l : List Oper) (σ : St), runOps H c true ds l σ k = some res → ∃ tr σe, Seg H c ds k res σ l tr σe
  | [], σ, h => ⟨[], σ, by simp, by simpa using h, fun o h => by simp at h, rfl, rfl, fun _ => rfl, fun p o x h => by simp at h⟩
  | o :: l, σ, h => by
    cases hq : isQ c o.op with
    | false => exact ⟨[], σ, by simp, by simpa using h, fun o' h => by simp at h; subst h; exact hq, rfl, rfl, fun _ => rfl, fun p o' x _ h => by simp at h⟩
    | true =>
      obtain ⟨r, y, hr, hs, hd, h1⟩ := stepQ_of hq h
      obtain ⟨tr, σe, S⟩ := mkSeg l _ h1
      have hpr : ∀ t, look t (pushD o.dst y r) = look t (pushD o.dst y σ.regs) := fun t => by simp only [look_pushD, hr]
      refine ⟨(o.dst, y) :: tr, σe, by have := S.le; simp; omega, by simpa using S.rest, fun o' h => S.head o' (by simpa using h), S.mem, S.nx, fun t => (S.regs t).trans (regsF_congr (hpr t)), fun p o' x hp hx => ?_⟩
      cases p with
      | zero =>
        simp at hp hx
        subst hp; subst hx
        exact ⟨hq, rfl, hd, r, by simpa [regsF] using hr, hs⟩
      | succ p =>
        obtain ⟨h1, h2, h3, r', h4, h5⟩ := S.step p o' x (by simpa using hp) (by simpa using hx)
        exact ⟨h1, h2, h3, r', fun t => by rw [h4]; simpa [regsF] using regsF_congr (hpr t), h5⟩

end
end Go.Eng
/- THE ENGINE, soundness, part 18: a region that draws its order, walked. -/
set_option linter.unusedSimpArgs false
set_option linter.unusedVariables false
set_option linter.unnecessarySimpa false
namespace Go.Eng
open Go Go.RowKit

section
variable {P : Program} [GlobL P] {F : Fence} {n : Nat} {c : Cfg} {g g' : Gh} {r : Regs} {m : Mem} {a : Act} {w w' : World} {o : Oper} {R : Type} {k : St → Option R} {res : R} {xs : List Operand}
variable {base : Nat} {w0 : World} {S0 : Nat → Prop} {N : Nat} {D : Wt} {sv : Nat → Value} {σ : St} {ops : Array Oper} {Q : Exit → Act → World → Prop}

theorem looks_of {t : Nat} (h : t ∈ opTmps o) (ds : List (Option Nat)) : t ∈ looksOf ds o := by
  unfold looksOf
  split
  · exact h
  · split
    · exact List.mem_cons_of_mem _ h
    · exact h

theorem looks_guard {ds : List (Option Nat)} {j d : Nat} {want : Bool} (hg : o.guard = some (j, want)) (hd : ds[j]? = some (some d)) : d ∈ looksOf ds o := by
  unfold looksOf
  rw [hg]
  simp [hd]

theorem hasN_mem {n : Nat} : ∀ {l : List Nat}, hasN n l = true ↔ n ∈ l
  | [] => by simp [hasN]
  | m :: l => by
    unfold hasN
    split
    · rename_i h; have := Nat.eq_of_beq_eq_true h; subst this; simp
    · rename_i h
      have h : m ≠ n := fun e => by subst e; simp at h
      rw [hasN_mem]
      simp [Ne.symm h]

theorem clash_l {ds : List (Option Nat)} {x y : Oper} {t : Nat} (hx : x.dst = some t) (hy : t ∈ looksOf ds y) : clash c ds x y = true := by
  unfold clash
  split
  · simp [dstIn, hx, hasN_mem.2 hy]
  · rfl
theorem clash_r {ds : List (Option Nat)} {x y : Oper} {t : Nat} (hy : y.dst = some t) (hx : t ∈ looksOf ds x) : clash c ds x y = true := by
  unfold clash
  split
  · simp [dstIn, hy, hasN_mem.2 hx]
  · rfl
theorem clash_d {ds : List (Option Nat)} {x y : Oper} {t : Nat} (hx : x.dst = some t) (hy : y.dst = some t) : clash c ds x y = true := by
  unfold clash
  split
  · simp [sameDst, hx, hy]
  · rfl
theorem clash_b {ds : List (Option Nat)} {x y : Oper} (h : isQ c x.op = false ∨ isQ c y.op = false) : clash c ds x y = true := by
  unfold clash
  split
  · rename_i h1 h2
    rcases h with h | h
    · rw [h1] at h; cases h
    · rw [h2] at h; cases h
  · rfl

structure Inv (P : Program) [GlobL P] (H : Hnd R) (sv : Nat → Value) (base : Nat) (w0 : World) (S0 : Nat → Prop) (N : Nat) (D : Wt) (c : Cfg) (ops : Array Oper) (k : St → Option R) (res : R) (s : Nat) (σ : St) (tr : Tr) (σe : St) (L : Array Bool) (g : Gh) (a : Act) (w : World) : Prop where
  size : L.size = ops.size
  closed : Closed ops L
  sz : s ≤ ops.size
  low : ∀ p, p < s → L.getD p false = true
  high : ∀ p, L.getD p false = true → p < s + tr.length
  rel : Rel P base w0 S0 N D sv g { regs := regsL (fun i => L.getD i false) s tr σ.regs, mem := σ.mem, nx := σ.nx } a w
  seg : Seg H c (ops.toList.map (·.dst)) k res σ (ops.toList.drop s) tr σe

theorem drop_get {l : List Oper} {i : Nat} (h : l[i]? = some o) : l.drop i = o :: l.drop (i + 1) := by
  have hi := (List.getElem?_eq_some_iff.1 h).1
  rw [List.drop_eq_getElem_cons hi]
  congr 1
  exact (List.getElem?_eq_some_iff.1 h).2

theorem Inv.done {H : Hnd R} {s : Nat} {tr : Tr} {σe : St} {L : Array Bool} (I : Inv P H sv base w0 S0 N D c ops k res s σ tr σe L g a w) (hall : ∀ p, p < ops.size → L.getD p false = true) : k σe = some res ∧ Rel P base w0 S0 N D sv g σe a w := by
  have he : s + tr.length = ops.size := by
    have h1 := I.seg.le
    simp at h1
    rcases Nat.lt_or_ge (s + tr.length) ops.size with h | h
    · have := I.high _ (hall _ h); omega
    · have := I.sz; omega
  refine ⟨?_, ?_⟩
  · have := I.seg.rest
    rw [List.drop_drop, he, List.drop_eq_nil_of_le (by simp)] at this
    exact this
  · have hrel := I.rel
    refine { hrel with regs := fun t x hx => hrel.regs t x ?_, mem := by rw [I.seg.mem]; exact hrel.mem, inj := by rw [I.seg.mem]; exact hrel.inj, own := by rw [I.seg.mem]; exact hrel.own, lp := by rw [I.seg.mem]; exact hrel.lp, nx := by rw [I.seg.nx]; exact hrel.nx }
    rw [I.seg.regs] at hx
    rw [look_regsL (p := tr.length) (r' := σ.regs) rfl (fun q x hq _ => ?_), List.take_length]
    · exact hx
    · have hq := (List.getElem?_eq_some_iff.1 hq).1
      exact ⟨fun _ => hall _ (by omega), fun _ => hq⟩

theorem full_of_ready {L : Array Bool} (hs : L.size = ops.size) (hb : edgesBack 0 ops.toList = true) (hr : Region.ready .any ops L = []) : ∀ p, p < ops.size → L.getD p false = true := by
  intro p
  induction p using Nat.strongRecOn with
  | _ p ih =>
    intro hp
    cases hL : L.getD p false with
    | true => rfl
    | false =>
      have hmem : p ∈ Region.ready .any ops L := by
        rw [mem_ready]
        refine ⟨?_, ops[p], by simp, fun e he hbe => ?_⟩
        · have : p < L.size := by omega
          simp [this] at hL ⊢
          exact hL
        · have hlt := edgesBack_spec hb (p := p) (o := ops[p]) (by simp) e he (by
            have : Region.binds .any e = bindsAny e := by unfold Region.binds bindsAny; cases e.ground <;> rfl
            rw [← this]; exact hbe)
          exact ih e.on (by omega) (by omega)
      rw [hr] at hmem
      cases hmem

theorem count_false {L : Array Bool} {i : Nat} (hi : i < L.size) (h : L.getD i false = false) : (L.setIfInBounds i true).toList.count false + 1 = L.toList.count false := by
  have hL : L[i] = false := by simpa [hi] using h
  simp only [Array.toList_setIfInBounds]
  rw [List.count_eq_countP, List.count_eq_countP, List.countP_set (by simpa using hi)]
  simp [hL]
  have : 0 < List.countP (fun x => x == false) L.toList := by
    rw [List.countP_pos_iff]
    exact ⟨L[i], by simp, by simp [hL]⟩
  have e : List.countP (fun x => x == false) L.toList = Array.countP (fun x => !x) L := by
    rw [← Array.countP_toList]
    congr 1
    funext x
    cases x <;> rfl
  rw [e] at this
  omega

theorem full_of_count {L : Array Bool} (h : L.toList.count false = 0) : ∀ p, p < L.size → L.getD p false = true := by
  intro p hp
  cases hL : L.getD p false with
  | true => rfl
  | false =>
    have h1 : L[p] = false := by simpa [hp] using hL
    rw [List.count_eq_zero] at h
    exact (h (by rw [← h1]; simp)).elim

theorem Closed.set {L : Array Bool} (h : Closed ops L) {j : Nat} (hj : ops[j]? = some o) (he : ∀ e ∈ o.after, bindsAny e = true → L.getD e.on false = true) : Closed ops (L.setIfInBounds j true) := by
  intro p o' ho' hp e hea hb
  refine getD_set_true ?_
  by_cases e' : j = p
  · subst e'
    rw [hj] at ho'; cases ho'
    exact he e hea hb
  · rw [getD_set_ne false e'] at hp
    exact h p o' ho' hp e hea hb

theorem binds_any (e : Edge) : Region.binds .any e = bindsAny e := by unfold Region.binds bindsAny; cases e.ground <;> rfl

theorem getD_false {L : Array Bool} {j : Nat} (h : L.getD j true = false) : j < L.size ∧ L.getD j false = false := by
  rcases Nat.lt_or_ge j L.size with h' | h'
  · simp [h'] at h ⊢; exact h
  · simp [Array.getElem?_eq_none h'] at h

theorem any_ok {H : Hnd R} (hH : HndOK P H) (C : CfgOK P c) (hN : c.N = N) (hF : WideF F) (ho : orderOK c ops.toList = true) (hK : ∀ g' σ' a' w', k σ' = some res → Rel P base w0 S0 N D sv g' σ' a' w' → Q .normal a' w') :
    ∀ (fuel : Nat) {s : Nat} {σ : St} {tr : Tr} {σe : St} {L : Array Bool} {g : Gh} {a : Act} {w : World}, Inv P H sv base w0 S0 N D c ops k res s σ tr σe L g a w → L.toList.count false ≤ fuel → wpAnyIn F n P .any ops Q fuel L a w := by
  have hb : edgesBack 0 ops.toList = true := by
    unfold orderOK at ho
    split at ho
    · assumption
    · simp at ho
  intro fuel
  induction fuel with
  | zero =>
    intro s σ tr σe L g a w I hf
    have hall := full_of_count (by omega : L.toList.count false = 0)
    refine ⟨?_, ?_⟩
    · cases hr : Region.ready .any ops L with
      | nil => rfl
      | cons j _ =>
        have hj : j ∈ Region.ready .any ops L := by rw [hr]; simp
        obtain ⟨h1, h2⟩ := getD_false (mem_ready.1 hj).1
        rw [hall j h1] at h2; cases h2
    · obtain ⟨h1, h2⟩ := I.done (fun p hp => hall p (by rw [I.size]; exact hp))
      exact hK _ _ _ _ h1 h2
  | succ fuel ih =>
    intro s σ tr σe L g a w I hf
    refine ⟨fun hr => ?_, fun j hj => ?_⟩
    · obtain ⟨h1, h2⟩ := I.done (full_of_ready I.size hb hr)
      exact hK _ _ _ _ h1 h2
    · obtain ⟨hun, oj, hoj, hall⟩ := mem_ready.1 hj
      obtain ⟨hjL, hun⟩ := getD_false hun
      have hedge : ∀ e ∈ oj.after, bindsAny e = true → L.getD e.on false = true := fun e he hbe => hall e he (by rw [binds_any]; exact hbe)
      have hcnt := count_false hjL hun
      have hclosed' := I.closed.set hoj hedge
      have before : ∀ {i : Nat} {x : Oper}, i < j → ops[i]? = some x → clash c (ops.toList.map (·.dst)) x oj = true → L.getD i false = true := fun hij hx hcl => clash_before ho I.closed hij hx hoj hcl hedge
      have behind : ∀ {i : Nat} {y : Oper}, j < i → ops[i]? = some y → clash c (ops.toList.map (·.dst)) oj y = true → L.getD i false = false := by
        intro i y hji hy hcl
        cases hLi : L.getD i false with
        | false => rfl
        | true =>
          have := clash_before ho I.closed hji hoj hy hcl (fun e he hbe => I.closed i y hy hLi e he hbe)
          rw [hun] at this; cases this
      have hjs : s ≤ j := by
        rcases Nat.lt_or_ge j s with h | h
        · have := I.low j h; rw [hun] at this; cases this
        · exact h
      have hjsz : j < ops.size := by rw [← I.size]; exact hjL
      have htl : s + tr.length ≤ ops.size := by have := I.seg.le; simp at this; have := I.sz; omega
      have seg_get : ∀ {q : Nat} {u : Oper}, ops[s + q]? = some u → (ops.toList.drop s)[q]? = some u := fun h => by simpa using h
      have hLs : ∀ {i : Nat}, i ≠ j → (L.setIfInBounds j true).getD i false = L.getD i false := fun h => getD_set_ne false (Ne.symm h)
      have hLj : (L.setIfInBounds j true).getD j false = true := by simp [hjL]
      by_cases hjt : j < s + tr.length
      · -- within the stretch
        obtain ⟨p, rfl⟩ : ∃ p, j = s + p := ⟨j - s, by omega⟩
        have hp : p < tr.length := by omega
        obtain ⟨hq, hxd, hdN, r, hr, hst⟩ := I.seg.step p oj tr[p] (seg_get hoj) (by simp [hp])
        have tr_dst : ∀ {q : Nat} {x : Option Nat × AV}, tr[q]? = some x → ∃ u, ops[s + q]? = some u ∧ x.1 = u.dst := by
          intro q x hx
          have hlt := (List.getElem?_eq_some_iff.1 hx).1
          have h1 : ops[s + q]? = some ops[s + q] := by simp
          exact ⟨_, h1, (I.seg.step q _ x (seg_get h1) hx).2.1⟩
        have agree : ∀ t, t ∈ looksOf (ops.toList.map (·.dst)) oj → look t (regsL (fun i => L.getD i false) s tr σ.regs) = look t r := by
          intro t ht
          rw [hr, look_regsL (p := p) (r' := σ.regs) rfl]
          intro q x hx hxt
          obtain ⟨u, hu, hxu⟩ := tr_dst hx
          rw [hxu] at hxt
          constructor
          · intro hqp
            exact before (by omega) hu (clash_l hxt ht)
          · intro hLq
            rcases Nat.lt_or_ge q p with h | h
            · exact h
            · exfalso
              rcases Nat.lt_or_ge p q with h' | h'
              · rw [behind (by omega : s + p < s + q) hu (clash_r hxt ht)] at hLq; cases hLq
              · have : q = p := by omega
                subst this
                rw [hun] at hLq; cases hLq
        have upd : ∀ {g1 : Gh} {w1 : World} {v : Value}, Rel P base w0 S0 N D sv g1 { regs := regsL (fun i => L.getD i false) s tr σ.regs, mem := σ.mem, nx := σ.nx } a w1 → AVR g1 w1 tr[p].2 v → wpAnyIn F n P .any ops Q fuel (L.setIfInBounds (s + p) true) (a.put oj.dst v) w1 := by
          intro g1 w1 v hrel hv
          refine ih (s := s) (σ := σ) (tr := tr) (σe := σe) (g := g1) ⟨by simp [I.size], hclosed', I.sz, fun q hq => getD_set_true (I.low q hq), fun q hq => ?_, ?_, I.seg⟩ (by omega)
          · by_cases e : q = s + p
            · omega
            · rw [hLs e] at hq; exact I.high q hq
          · refine { hrel with regs := fun t x hx => ?_, size := ?_, dfr := ?_ }
            · by_cases e : oj.dst = some t
              · rw [look_regsL_at (p := p) (y := tr[p].2) (by rw [List.getElem?_eq_getElem hp, ← e, ← hxd]) hLj (fun q x' hpq hx' hxt => ?_)] at hx
                · cases hx
                  rw [e, vof_put (hdN t e).2 (by rw [hrel.size, ← hN]; exact (hdN t e).1), if_pos rfl]
                  exact hv
                · obtain ⟨u, hu, hxu⟩ := tr_dst hx'
                  rw [hxu] at hxt
                  rw [hLs (by omega)]
                  exact behind (by omega) hu (clash_d e hxt)
              · have notp : ∀ {q : Nat} {x' : Option Nat × AV}, tr[q]? = some x' → x'.1 = some t → ¬ s + q = s + p := by
                  intro q x' hx' hxt e'
                  have e9 : q = p := by omega
                  rw [e9, List.getElem?_eq_getElem hp] at hx'
                  have e8 : tr[p] = x' := Option.some.inj hx'
                  exact e (by rw [← hxd, e8]; exact hxt)
                rw [look_regsL_eq (L' := fun i => L.getD i false) (r' := σ.regs) rfl (fun q x' hx' hxt => hLs (fun e' => notp hx' hxt e'))] at hx
                · cases hd : oj.dst with
                  | none => exact hrel.regs t x hx
                  | some d =>
                    rw [vof_put (hdN d hd).2 (by rw [hrel.size, ← hN]; exact (hdN d hd).1), if_neg (fun e' => e (by rw [hd, e']))]
                    exact hrel.regs t x hx
            · have := hrel.size
              cases hd : oj.dst <;> simpa [Act.put] using this
            · have := hrel.dfr
              cases hd : oj.dst <;> simpa [Act.put] using this
        have run : evalQ c r σ.mem oj some = some tr[p].2 → oj.wpIn F n P a w (wpAnyIn F n P .any ops Q fuel (L.setIfInBounds (s + p) true)) Q := by
          intro he
          have E : Env P c g r σ.mem oj.op.operands.toList a w := { ev := env_ev (fun t ht x hx => I.rel.regs t x (by rw [agree t (looks_of ht _)]; exact hx)) I.rel.glo C.glb, glo := I.rel.glo, mem := I.rel.mem, ts := C.ts, sp := C.sp, S := I.rel.S, blk := I.rel.blk, eqs := C.eqs }
          obtain ⟨y, hy, hqr⟩ := evalQ_ok (n := n) E hF (fun _ h => h) he
          cases hy
          exact hqr _ _ fun v w' hbw hv => upd (I.rel.grow hbw) hv
        have skip : tr[p].2 = .undef → wpAnyIn F n P .any ops Q fuel (L.setIfInBounds (s + p) true) (a.put oj.dst undef) w := fun he => upd I.rel (by rw [he]; rfl)
        unfold wpOpIn
        simp only [hoj]
        rcases hst with ⟨hg, he⟩ | ⟨i, want, d, hg, hd, hst⟩
        · rw [if_pos (by simp [Region.wanted, hg])]
          exact run he
        · have hag := agree d (looks_guard hg hd)
          rcases hst with ⟨b, hb', hdN', hst⟩ | ⟨hu, he⟩
          · have hbv : a.tmps.getD d undef = .bool b := by
              have := I.rel.regs d _ (by rw [hag]; exact (lookT_some hb').2)
              rw [vof_lt (lookT_some hb').1] at this
              generalize a.tmps.getD d undef = u at this
              cases this; rfl
            have hwant : Region.wanted oj (yielded ops a.tmps) = (b == want) := by
              simp only [Region.wanted, hg, yielded_eq hd (by rw [I.rel.size, ← hN]; exact hdN'), hbv]
              cases b <;> cases want <;> rfl
            rcases hst with ⟨rfl, he⟩ | ⟨hne, he⟩
            · rw [if_pos (by rw [hwant]; simp)]
              exact run he
            · rw [if_neg (by rw [hwant]; simpa using hne)]
              exact ⟨about_wide hF, skip he⟩
          · have huv : a.tmps.getD d undef = undef := by
              have := I.rel.regs d .undef (by rw [hag]; exact (lookT_some hu).2)
              rw [vof_lt (lookT_some hu).1] at this
              exact this
            have hy : yielded ops a.tmps i = none := by
              by_cases hlt : d < a.tmps.size
              · rw [yielded_eq hd hlt, huv]; rfl
              · have h1 : (ops[i]?).bind (·.dst) = some d := by
                  simp only [List.getElem?_map, Array.getElem?_toList] at hd
                  cases h : ops[i]? with
                  | none => rw [h] at hd; simp at hd
                  | some o => rw [h] at hd; simp at hd; simpa using hd
                unfold yielded
                rw [h1]
                simp [hlt]
            rw [if_neg (by simp [Region.wanted, hg, hy])]
            exact ⟨about_wide hF, skip he⟩
      · -- the operation behind the stretch
        have hje : j = s + tr.length := by
          rcases Nat.lt_or_ge (s + tr.length) j with h | h
          · exfalso
            have hoe : ops[s + tr.length]? = some ops[s + tr.length] := by simp
            have := before h hoe (clash_b (.inl (I.seg.head _ (seg_get hoe))))
            have := I.high _ this
            omega
          · omega
        have hnq : isQ c oj.op = false := I.seg.head oj (seg_get (by rw [← hje]; exact hoj))
        have hallL : ∀ p, p < j → L.getD p false = true := fun p hp => before hp (x := ops[p]) (by simp) (clash_b (.inr hnq))
        have hrel : Rel P base w0 S0 N D sv g σe a w := by
          have hrel := I.rel
          refine { hrel with regs := fun t x hx => hrel.regs t x ?_, mem := by rw [I.seg.mem]; exact hrel.mem, inj := by rw [I.seg.mem]; exact hrel.inj, own := by rw [I.seg.mem]; exact hrel.own, lp := by rw [I.seg.mem]; exact hrel.lp, nx := by rw [I.seg.nx]; exact hrel.nx }
          rw [I.seg.regs] at hx
          rw [look_regsL (p := tr.length) (r' := σ.regs) rfl (fun q x hq _ => ?_), List.take_length]
          · exact hx
          · have hq := (List.getElem?_eq_some_iff.1 hq).1
            exact ⟨fun _ => hallL _ (by omega), fun _ => hq⟩
        have hrest := I.seg.rest
        rw [List.drop_drop, ← hje, drop_get (by simpa using hoj), runOps_cons] at hrest
        unfold wpOpIn
        simp only [hoj]
        refine guarded_ok hH hrel C hN hF (fun g1 σ1 a1 w1 hk h1 => ?_) hrest
        obtain ⟨tr1, σe1, S1⟩ := mkSeg _ _ hk
        refine ih (s := j + 1) (σ := σ1) (tr := tr1) (σe := σe1) (g := g1) ⟨by simp [I.size], hclosed', by omega, fun q hq => ?_, fun q hq => ?_, ?_, S1⟩ (by omega)
        · by_cases e : q = j
          · subst e; exact hLj
          · exact getD_set_true (hallL q (by omega))
        · by_cases e : q = j
          · omega
          · rw [hLs e] at hq; have := I.high q hq; omega
        · refine { h1 with regs := fun t x hx => h1.regs t x ?_ }
          rw [look_regsL (p := 0) (r' := σ1.regs) rfl (fun q x' _ _ => ?_)] at hx
          · simpa [regsF] using hx
          · simp only [Nat.not_lt_zero, false_iff]
            rw [hLs (by omega)]
            intro hq
            have := I.high _ hq
            omega

/-- The world has drawn. -/
theorem Rel.drawn (h : Rel P base w0 S0 N D sv g σ a w) : Rel P base w0 S0 N D sv g σ a { w with drawn := w.drawn + 1 } :=
  { regs := fun t x hx => (h.regs t x hx).mono (fun _ _ => rfl) (Gh.le.refl g), size := h.size, dfr := h.dfr, glo := h.glo.mono (fun _ _ => rfl) (fun _ h => h), lp := h.lp, mem := fun i x hx => (by
      obtain ⟨b, hm, hr⟩ := h.mem i x hx
      exact ⟨b, hm, hr.mono (fun _ _ => rfl) (fun _ _ => rfl) (Gh.le.refl g)⟩), inj := h.inj, own := h.own, S := h.S, blk := h.blk, nx := h.nx, bel := h.bel.trans ⟨rfl, rfl, rfl, Nat.le_refl _, fun _ _ => rfl⟩, bs := h.bs, sub := h.sub }

theorem regionDraw_ok {H : Hnd R} (hH : HndOK P H) (C : CfgOK P c) (hN : c.N = N) (hF : WideF F) (hm : P.follows .mixedOrders = true) (ho : orderOK c ops.toList = true) (hK : ∀ g' σ' a' w', k σ' = some res → Rel P base w0 S0 N D sv g' σ' a' w' → Q .normal a' w') {id : Nat} (h : Rel P base w0 S0 N D sv g σ a w)
    (hs : runOps H c true (ops.toList.map (·.dst)) ops.toList σ k = some res) : (Code.region id ops true).wpIn F n P Q a w := by
  obtain ⟨tr, σe, S⟩ := mkSeg _ _ hs
  refine wpIn_region_any hm (any_ok hH C hN hF ho hK ops.size (s := 0) (σ := σ) (tr := tr) (σe := σe) (g := g) ⟨by simp, fun p o _ hp => ?_, Nat.zero_le _, fun p hp => by omega, fun p hp => ?_, ?_, by simpa using S⟩ (by simp [List.count_replicate]))
  · exfalso
    by_cases h : p < ops.size <;> simp [h] at hp
  · exfalso
    by_cases h : p < ops.size <;> simp [h] at hp
  · have h1 := h.drawn
    refine { h1 with regs := fun t x hx => h1.regs t x ?_ }
    rw [look_regsL (p := 0) (r' := σ.regs) rfl (fun q x' _ _ => ?_)] at hx
    · simpa [regsF] using hx
    · simp only [Nat.not_lt_zero, false_iff]
      by_cases h : q < ops.size <;> simp [h]

end
end Go.Eng
/- THE ENGINE, soundness, part 19: what is kept where ways meet. -/
set_option linter.unusedSimpArgs false
set_option linter.unusedVariables false
set_option linter.unnecessarySimpa false
namespace Go.Eng
open Go Go.RowKit

section
variable {P : Program} [GlobL P] {F : Fence} {n : Nat} {c : Cfg} {g g' : Gh} {r : Regs} {m : Mem} {a : Act} {w w' : World} {o : Oper} {R : Type} {k : St → Option R} {res : R} {xs : List Operand}
variable {base : Nat} {w0 : World} {S0 : Nat → Prop} {N : Nat} {D : Wt} {sv : Nat → Value} {σ : St} {ops : Array Oper} {Q : Exit → Act → World → Prop} {ids : List Nat}

/-- What is known of some of the blocks alone. -/
def Gh.only (g : Gh) (ids : List Nat) : Gh := { S := g.S, m := fun i => if i ∈ ids then g.m i else none }

theorem Gh.only_get {id : Nat} {b : Gb} (h : id ∈ ids) (hm : g.m id = some b) : (g.only ids).m id = some b := by
  show (if id ∈ ids then g.m id else none) = some b
  rw [if_pos h]; exact hm
theorem Gh.only_some {id : Nat} {b : Gb} (h : (g.only ids).m id = some b) : id ∈ ids ∧ g.m id = some b := by
  change (if id ∈ ids then g.m id else none) = some b at h
  split at h
  · exact ⟨‹_›, h⟩
  · cases h

theorem VA.only {x : At} {v : Value} (h : VA g w x v) (hi : ∀ i ∈ idsAt x, i ∈ ids) : VA (g.only ids) w x v := by
  have pur : ∀ {x : At} {v : Value}, VA g w x v → pureA x = true → VA (g.only ids) w x v := fun h hp => h.pure hp (fun _ h => h)
  cases x
  case int κ q => exact pur h rfl
  case bool b => exact pur h rfl
  case str s => exact pur h rfl
  case sl τ l => exact pur h rfl
  case fnc f => exact pur h rfl
  case clip τ l =>
    cases h with
    | clip _ _ ad len bk of f hl ha hcell hf => exact .clip τ l ad len bk of f hl ha hcell (fun i x j y hx hy => pur (hf i x j y hx hy) (enc_pure _ _ _ _ hy))
  case vptr τ x j =>
    cases h with
    | vptr _ _ _ bk of f ha hcell hf => exact .vptr τ x j bk of f ha hcell (fun i y hy => pur (hf i y hy) (enc_pure _ _ _ _ hy))
  case own i =>
    cases h with
    | own _ b ad hm hk h0 => exact .own i b ad (Gh.only_get (hi i (by simp [idsAt])) hm) hk h0
  case sub i off len =>
    cases h with
    | sub _ _ _ b ad cc hm hl hc hk => exact .sub i off len b ad cc (Gh.only_get (hi i (by simp [idsAt])) hm) hl hc hk
  case ptr i off =>
    cases h with
    | ptr _ _ b kk hm hk => exact .ptr i off b kk (Gh.only_get (hi i (by simp [idsAt])) hm) hk
  case eptr i p q =>
    cases h with
    | eptr _ _ _ b kk hm hk => exact .eptr i p q b kk (Gh.only_get (hi i (by simp [idsAt])) hm) hk
  case clo i =>
    cases h with
    | clo _ b f fs cs hm hv => exact .clo i b f fs cs (Gh.only_get (hi i (by simp [idsAt])) hm) hv
  case mapr i =>
    cases h with
    | mapr _ b kk hm hk => exact .mapr i b kk (Gh.only_get (hi i (by simp [idsAt])) hm) hk
  case iter i =>
    cases h with
    | iter _ b kk hm hk => exact .iter i b kk (Gh.only_get (hi i (by simp [idsAt])) hm) hk
  case yld i =>
    cases h with
    | yld _ b kk hm hk => exact .yld i b kk (Gh.only_get (hi i (by simp [idsAt])) hm) hk
  case gl τ l =>
    cases h with
    | gl _ _ bk f ha hcell hf => exact .gl τ l bk f ha hcell (fun i x j y hx hy => pur (hf i x j y hx hy) (enc_pure _ _ _ _ hy))
  case nilp => cases h; exact .nilp
  case nilf => cases h; exact .nilf
  case nilm => cases h; exact .nilm
  case dead => exact .dead _ h.one

theorem idsIn_mem : ∀ {l : List At}, idsIn ids l = true → ∀ x ∈ l, ∀ i ∈ idsAt x, i ∈ ids
  | [], _, x, hx => by simp at hx
  | y :: l, h, x, hx => by
    unfold idsIn at h
    split at h
    · rename_i hy
      rcases List.mem_cons.1 hx with rfl | hx
      · exact fun i hi => hasN_mem.1 ((List.all_eq_true.1 hy) i hi)
      · exact idsIn_mem h x hx
    · simp at h

theorem All2.monoL {α β : Type} {R R' : α → β → Prop} {l : List α} {m : List β} (h : All2 R l m) (hr : ∀ a ∈ l, ∀ b, R a b → R' a b) : All2 R' l m := by
  induction h with
  | nil => exact .nil
  | cons h _ ih => exact .cons (hr _ (by simp) _ h) (ih fun a ha => hr a (by simp [ha]))

theorem V1R.only {x : V1} {v : Value} (h : V1R g w x v) (hi : idsV1 ids x = true) : V1R (g.only ids) w x v := by
  cases x with
  | one x => exact VA.only h (idsIn_mem hi x (by simp))
  | agg l => obtain ⟨vs, rfl, h⟩ := h; exact ⟨vs, rfl, h.monoL fun x hx v hv => hv.only (idsIn_mem hi x hx)⟩

theorem AVR.only {x : AV} {v : Value} (h : AVR g w x v) (hi : idsV ids x = true) : AVR (g.only ids) w x v := by
  cases x with
  | v x => exact V1R.only h hi
  | tup l => obtain ⟨vs, rfl, h⟩ := h; exact ⟨vs, rfl, h.monoL fun x hx v hv => V1R.only hv ((List.all_eq_true.1 hi) x hx)⟩
  | undef => exact h
  | dead => trivial

theorem BR.only {b : Gb} {x : AB} (h : BR P g w b x) (hi : idsB ids x = true) : BR P (g.only ids) w b x := by
  cases x with
  | cells l => obtain ⟨k, cs, e, hb, hh, ha⟩ := h; exact ⟨k, cs, e, hb, hh, ha.monoL fun x hx v hv => hv.only (idsIn_mem hi x hx)⟩
  | row τ l =>
    obtain ⟨h1, h2, h3⟩ := h
    refine ⟨h1, h2, ?_⟩
    rcases h3 with h3 | ⟨k, cs, e, hb, hh, hs, hl, ho, ha⟩
    · exact .inl h3
    · exact .inr ⟨k, cs, e, hb, hh, hs, hl, ho, fun i x j y hx hy => let ⟨v, hv, ha'⟩ := ha i x j y hx hy; ⟨v, hv, ha'.pure (enc_pure _ _ _ _ hy) (fun _ h => h)⟩⟩
  | clo f a c =>
    obtain ⟨h0, fs, cs, hb, h1, h2⟩ := h
    simp only [idsB] at hi
    split at hi
    · rename_i ha
      exact ⟨h0, fs, cs, hb, h1.monoL fun x hx v hv => hv.only (idsIn_mem ha x hx), h2.monoL fun x hx v hv => hv.only (idsIn_mem hi x hx)⟩
    · simp at hi
  | iter s p => exact h
  | capk x n => obtain ⟨hb, ad, len, hv⟩ := h; exact ⟨hb, ad, len, hv.only (idsIn_mem hi x (by simp))⟩
  | loop ph n fid rid regs =>
    obtain ⟨k, r, hb, hh, h1, h2, h3, h4, h5⟩ := h
    exact ⟨k, r, hb, hh, h1, h2, h3, h4, fun t x hx => ⟨(h5 t x hx).1, (h5 t x hx).2.only ((List.all_eq_true.1 hi) _ (look_mem hx))⟩⟩
  | over e => obtain ⟨k, r, hb, hh, h1⟩ := h; exact ⟨k, r, hb, hh, h1⟩
  | map ag κ τ l ck => obtain ⟨k, es, hb, hh, ha⟩ := h; exact ⟨k, es, hb, hh, ha.mono fun x e k => k.of fun y v hy hv => V1R.purT (g := g) (g' := g.only ids) (w := w) (w' := w) (fun x v hp hv => hv.pure hp (fun _ h => h)) hy hv⟩
  | gone => trivial

theorem keepRegs_ok {mem : List Nat} : ∀ {l : List Nat} {r r' : Regs}, keepRegs mem r l = some r' → ∀ t x, look t r' = some x → look t r = some x ∧ idsV mem x = true
  | [], r, r', h, t, x, hx => by simp [keepRegs] at h; subst h; simp [look] at hx
  | n :: l, r, r', h, t, x, hx => by
    simp only [keepRegs] at h
    split at h
    · rename_i v r2 hv hr2
      split at h
      · rename_i hi
        cases h
        rw [look_cons] at hx
        split at hx
        · rename_i e; subst e; cases hx; exact ⟨hv, hi⟩
        · exact keepRegs_ok hr2 t x hx
      · simp at h
    · simp at h

theorem keepMem_ok {mem : List Nat} : ∀ {l : List Nat} {r r' : Mem}, keepMem mem r l = some r' → ∀ t x, look t r' = some x → t ∈ l ∧ look t r = some x ∧ idsB mem x = true
  | [], r, r', h, t, x, hx => by simp [keepMem] at h; subst h; simp [look] at hx
  | n :: l, r, r', h, t, x, hx => by
    simp only [keepMem] at h
    split at h
    · rename_i v r2 hv hr2
      split at h
      · rename_i hi
        cases h
        rw [look_cons] at hx
        split at hx
        · rename_i e; subst e; cases hx; exact ⟨by simp, hv, hi⟩
        · obtain ⟨h1, h2, h3⟩ := keepMem_ok hr2 t x hx
          exact ⟨by simp [h1], h2, h3⟩
      · simp at h
    · simp at h

theorem toRows_ok : ∀ {l : List (Nat × Nat × Ty)} {σ σ' : St} {g : Gh}, toRows l σ = some σ' → Rel P base w0 S0 N D sv g σ a w → ∃ g', Rel P base w0 S0 N D sv g' σ' a w
  | [], σ, σ', g, h, hr => by simp [toRows] at h; subst h; exact ⟨g, hr⟩
  | (r, id, τ) :: l, σ, σ', g, h, hr => by
    simp only [toRows] at h
    split at h
    · split at h
      · exact toRows_ok h hr
      · simp at h
    · rename_i τ' hlk
      split at h
      · rename_i hle
        have hle := Nat.le_of_ble_eq_true hle
        have hv := hr.regs r _ hlk
        obtain ⟨b, hbd⟩ : ∃ b : Gb, b = ⟨none, 0, 0, τ.n, default⟩ := ⟨_, rfl⟩
        have h1 := hr.new (id := id) hle (b := b) (x := .row τ []) (Below.refl _ _) (by rw [hbd]; exact ⟨rfl, rfl, .inl ⟨rfl, rfl, rfl⟩⟩) (fun q hq => by rw [hbd] at hq; cases hq)
        have hmg : (g.set id b).m id = some b := by simp [Gh.set]
        have hva : VA (g.set id b) w (.own id) (vof sv a r) := by
          generalize vof sv a r = u at hv
          cases hv with
          | clip _ _ ad len bk of f hl ha hcell hf =>
            simp at hl
            subst hl
            have := VA.own (g := g.set id b) (w := w) id b ad hmg (fun q hq => by rw [hbd] at hq; cases hq) (fun _ => by rw [hbd]; exact ⟨rfl, rfl⟩)
            rw [hbd] at this ⊢
            exact this
        refine toRows_ok h (g := g.set id b) { h1 with regs := fun t y hy => ?_ }
        simp only [look_cons] at hy
        split at hy
        · rename_i e; subst e; cases hy; exact hva
        · exact h1.regs t y hy
      · simp at h
    · simp at h

theorem Rel.say (h : Rel P base w0 S0 N D sv g σ a w) {id : Nat} {x y : AB} (hx : look id σ.mem = some x) (hl : x.live = true) (hB : ∀ b, BR P g w b x → BR P g w b y) (hyl : y.isLoop = false := by rfl) : Rel P base w0 S0 N D sv g (σ.set id y) a w := by
  have e : ∀ i z, look i (σ.set id y).mem = some z → (i = id ∧ z = y) ∨ look i σ.mem = some z := fun i z hz => by
    simp only [St.set, look_cons] at hz
    split at hz
    · rename_i e; cases hz; exact .inl ⟨e.symm, rfl⟩
    · exact .inr hz
  have e2 : ∀ i z, look i (σ.set id y).mem = some z → z.live = true → ∃ z', look i σ.mem = some z' ∧ z'.live = true := fun i z hz hlz => by
    rcases e i z hz with ⟨rfl, _⟩ | hz'
    · exact ⟨x, hx, hl⟩
    · exact ⟨z, hz', hlz⟩
  refine { regs := h.regs, size := h.size, dfr := h.dfr, glo := h.glo, lp := fun i z b h1 hl1 => ?_, mem := fun i z hz => ?_, inj := fun i i' z z' b b' q h1 h2 hl1 hl2 => ?_, own := fun i z b q h1 hl1 => ?_, S := h.S, blk := h.blk, nx := h.nx, bel := h.bel, bs := h.bs, sub := h.sub }
  · intro hm1
    rcases e i z h1 with ⟨rfl, rfl⟩ | h1
    · rw [hyl] at hl1; cases hl1
    · exact h.lp i z b h1 hl1 hm1
  · rcases e i z hz with ⟨rfl, rfl⟩ | hz'
    · obtain ⟨b, hm, hr⟩ := h.mem i x hx
      exact ⟨b, hm, hB b hr⟩
    · exact h.mem i z hz'
  · obtain ⟨z1, h3, h4⟩ := e2 i z h1 hl1
    obtain ⟨z2, h5, h6⟩ := e2 i' z' h2 hl2
    exact h.inj i i' z1 z2 b b' q h3 h5 h4 h6
  · obtain ⟨z1, h3, h4⟩ := e2 i z h1 hl1
    exact h.own i z1 b q h3 h4

theorem toSls_ok : ∀ {l : List Nat} {σ σ' : St}, toSls l σ = some σ' → Rel P base w0 S0 N D sv g σ a w → Rel P base w0 S0 N D sv g σ' a w
  | [], σ, σ', h, hr => by simp [toSls] at h; subst h; exact hr
  | r :: l, σ, σ', h, hr => by
    simp only [toSls] at h
    split at h
    · rename_i x hx
      refine toSls_ok h { hr with regs := fun t y hy => ?_ }
      simp only [look_cons] at hy
      split at hy
      · rename_i e; subst e; cases hy; exact VA.unclip (hr.regs _ _ hx)
      · exact hr.regs t y hy
    · simp at h

theorem toSlm_ok : ∀ {l : List Nat} {σ σ' : St}, toSlm l σ = some σ' → Rel P base w0 S0 N D sv g σ a w → Rel P base w0 S0 N D sv g σ' a w
  | [], σ, σ', h, hr => by simp [toSlm] at h; subst h; exact hr
  | id :: l, σ, σ', h, hr => by
    simp only [toSlm] at h
    split at h
    · rename_i cs hcs
      refine toSlm_ok h (hr.say hcs rfl fun b hb => ?_)
      obtain ⟨k, us, e, hk, hh, ha⟩ := hb
      exact ⟨k, us, e, hk, hh, ha.unclip⟩
    · simp at h

theorem toRowm_ok : ∀ {l : List (Nat × Nat × Nat × Ty)} {σ σ' : St} {g : Gh}, toRowm l σ = some σ' → Rel P base w0 S0 N D sv g σ a w → ∃ g', Rel P base w0 S0 N D sv g' σ' a w
  | [], σ, σ', g, h, hr => by simp [toRowm] at h; subst h; exact ⟨g, hr⟩
  | (bk, j, id, τ) :: l, σ, σ', g, h, hr => by
    simp only [toRowm] at h
    split at h
    · rename_i cs hcs
      split at h
      · split at h
        · exact toRowm_ok h hr
        · simp at h
      · rename_i τ' hj
        split at h
        · rename_i hle
          have hle := Nat.le_of_ble_eq_true hle
          obtain ⟨b, hbd⟩ : ∃ b : Gb, b = ⟨none, 0, 0, τ.n, default⟩ := ⟨_, rfl⟩
          have h1 := hr.new (id := id) hle (b := b) (x := .row τ []) (Below.refl _ _) (by rw [hbd]; exact ⟨rfl, rfl, .inl ⟨rfl, rfl, rfl⟩⟩) (fun q hq => by rw [hbd] at hq; cases hq)
          have hmg : (g.set id b).m id = some b := by simp [Gh.set]
          have hbk : bk ≠ id := by
            obtain ⟨b0, hb0, _⟩ := hr.mem bk _ hcs
            have := hr.nx bk b0 hb0
            omega
          have hlk : look bk ((id, AB.row τ []) :: σ.mem) = some (.cells cs) := by rw [look_cons, if_neg (Ne.symm hbk)]; exact hcs
          refine toRowm_ok h (g := g.set id b) (h1.say (id := bk) hlk rfl (y := .cells (cs.set j (.own id))) fun b1 hb1 => ?_)
          obtain ⟨k, us, e, hk, hh, ha⟩ := hb1
          refine ⟨k, us, e, hk, hh, ?_⟩
          obtain ⟨u, hu, hv⟩ := ha.get hj
          have hva : VA (g.set id b) w (.own id) u := by
            cases hv with
            | clip _ _ ad len bk of f hl ha hcell hf =>
              simp at hl
              subst hl
              have := VA.own (g := g.set id b) (w := w) id b ad hmg (fun q hq => by rw [hbd] at hq; cases hq) (fun _ => by rw [hbd]; exact ⟨rfl, rfl⟩)
              rw [hbd] at this ⊢
              exact this
          have := ha.set hva j
          have e9 : us.toList.set j u = us.toList := by
            obtain ⟨hj2, e⟩ := List.getElem?_eq_some_iff.1 hu
            rw [← e]; exact List.set_getElem_self hj2
          rwa [e9] at this
        · simp at h
      · simp at h
    · simp at h

theorem coerce_ok {an : Ann} {σ σ' : St} (h : coerce an σ = some σ') (hr : Rel P base w0 S0 N D sv g σ a w) : ∃ g', Rel P base w0 S0 N D sv g' σ' a w := by
  unfold coerce at h
  split at h
  · rename_i σ1 h1
    obtain ⟨g1, r1⟩ := toRows_ok h1 hr
    split at h
    · rename_i σ2 h2
      obtain ⟨g2, r2⟩ := toRowm_ok h2 r1
      split at h
      · rename_i σ3 h3
        exact ⟨g2, toSlm_ok h (toSls_ok h3 r2)⟩
      · simp at h
    · simp at h
  · simp at h

theorem keep_ok {an : Ann} {σ' : St} (h : keep an σ = some σ') (hr : Rel P base w0 S0 N D sv g σ a w) : ∃ g', Rel P base w0 S0 N D sv g' σ' a w := by
  unfold keep at h
  split at h
  · rename_i σ1 h1
    obtain ⟨g1, r1⟩ := coerce_ok h1 hr
    split at h
    · rename_i r2 m2 hr2 hm2 hlt
      cases h
      refine ⟨g1.only an.mem, { regs := fun t x hx => ?_, size := r1.size, dfr := r1.dfr, glo := r1.glo, lp := fun id x b hx hl hm => r1.lp id x b (keepMem_ok hm2 id x hx).2.1 hl (Gh.only_some hm).2, mem := fun id x hx => ?_, inj := fun id id' x x' b b' q hx hx' hl hl' hm hm' => ?_, own := fun id x b q hx hl hm hq => ?_, S := r1.S, blk := fun id b q hm hq => r1.blk id b q (Gh.only_some hm).2 hq, nx := fun id b hm => ?_, bel := r1.bel, bs := r1.bs, sub := r1.sub }⟩
      · obtain ⟨h2, h3⟩ := keepRegs_ok hr2 t x hx
        exact (r1.regs t x h2).only h3
      · obtain ⟨h2, h3, h4⟩ := keepMem_ok hm2 id x hx
        obtain ⟨b, hb, hbr⟩ := r1.mem id x h3
        exact ⟨b, Gh.only_get h2 hb, hbr.only h4⟩
      · exact r1.inj id id' x x' b b' q (keepMem_ok hm2 id x hx).2.1 (keepMem_ok hm2 id' x' hx').2.1 hl hl' (Gh.only_some hm).2 (Gh.only_some hm').2
      · exact r1.own id x b q (keepMem_ok hm2 id x hx).2.1 hl (Gh.only_some hm).2 hq
      · have := (List.all_eq_true.1 hlt) id (Gh.only_some hm).1
        exact Nat.le_of_ble_eq_true this
    · simp at h
  · simp at h

theorem keepIf_ok {an : Option Ann} (h : keepIf an σ k = some res) (hr : Rel P base w0 S0 N D sv g σ a w) : ∃ g' σ', k σ' = some res ∧ Rel P base w0 S0 N D sv g' σ' a w := by
  unfold keepIf at h
  split at h
  · exact ⟨g, σ, h, hr⟩
  · split at h
    · rename_i h1
      obtain ⟨g', h2⟩ := keep_ok h1 hr
      exact ⟨g', _, h, h2⟩
    · simp at h

end
end Go.Eng
/- THE ENGINE, soundness: what an operation that turns no block yields hangs on the blocks alone that its operands name. -/
set_option linter.unusedSimpArgs false
set_option linter.unusedVariables false
set_option linter.unnecessarySimpa false
namespace Go.Eng
open Go Go.RowKit

section
variable {R : Type} {c : Cfg} {r : Regs} {m m' : Mem} {o : Oper}

theorem cellsAt_congr {p : At} {n : Nat} {k : List At → Option R} (h : ∀ i ∈ idsAt p, look i m = look i m') : cellsAt m p n k = cellsAt m' p n k := by
  cases p <;> simp only [cellsAt] <;> simp [idsAt] at h <;> rw [h]
theorem listOf_congr {p : At} {k : (τ : Ty) → List τ.T → Option R} (h : ∀ i ∈ idsAt p, look i m = look i m') : listOf m p k = listOf m' p k := by
  cases p <;> simp only [listOf] <;> simp [idsAt] at h <;> rw [h]
theorem viewAt_congr {p : At} {k : At → Option R} (h : ∀ i ∈ idsAt p, look i m = look i m') : viewAt m p k = viewAt m' p k := by
  cases p <;> simp only [viewAt] <;> first | rfl | exact listOf_congr h
theorem viewL_congr : ∀ {l : List At} {k : List At → Option R}, (∀ i ∈ l.flatMap idsAt, look i m = look i m') → viewL m l k = viewL m' l k
  | [], k, _ => rfl
  | x :: l, k, h => by
    simp only [viewL]
    rw [viewAt_congr (m' := m') (fun i hi => h i (by simp [hi]))]
    congr 1
    funext y
    exact viewL_congr (fun i hi => h i (by rw [List.flatMap_cons]; exact List.mem_append_right _ hi))
theorem viewV_congr {x : AV} {k : AV → Option R} (h : ∀ i ∈ idsAV x, look i m = look i m') : viewV m x k = viewV m' x k := by
  unfold viewV
  split
  · exact viewAt_congr h
  · exact viewL_congr h
  · rfl
theorem viewVs_congr : ∀ {l : List AV} {k : List AV → Option R}, (∀ i ∈ l.flatMap idsAV, look i m = look i m') → viewVs m l k = viewVs m' l k
  | [], k, _ => rfl
  | x :: l, k, h => by
    simp only [viewVs]
    rw [viewV_congr (m' := m') (fun i hi => h i (by simp [hi]))]
    congr 1
    funext y
    exact viewVs_congr (fun i hi => h i (by rw [List.flatMap_cons]; exact List.mem_append_right _ hi))
theorem lenQ_congr {t : TypeId} {p : At} {k : AV → Option R} (h : ∀ i ∈ idsAt p, look i m = look i m') : lenQ c m t p k = lenQ c m' t p k := by
  unfold lenQ
  split
  · rfl
  · split
    · rfl
    · exact listOf_congr h
  · split
    · rw [h _ (by simp [idsAt])]
    · rfl
  · rfl
theorem idxQ_congr {t : TypeId} {p : At} {n : Int} {k : AV → Option R} (h : ∀ i ∈ idsAt p, look i m = look i m') : idxQ c m t p n k = idxQ c m' t p n k := by
  unfold idxQ
  split
  · cases p <;> simp [idsAt] at h <;> first | rfl | (simp only []; rw [h])
  · rfl
  · rfl
theorem sliceQ_congr {t : TypeId} {p : At} {lo hi mx : Option Operand} {k : AV → Option R} (h : ∀ i ∈ idsAt p, look i m = look i m') (hc : ∀ i ∈ idsAt p, capIn m i m = capIn m' i m') : sliceQ c r m t p lo hi mx k = sliceQ c r m' t p lo hi mx k := by
  unfold sliceQ
  split
  · split
    · rfl
    · cases p <;> simp [idsAt] at h hc <;> first | rfl | (simp only []; rw [h, hc])
    · rfl
  · rfl

theorem ev_ids {t : TypeId} {x : Operand} {v : AV} (h : ev c r t x = some v) : ∀ i ∈ idsAV v, ∃ n u, x = .tmp n ∧ look n r = some u ∧ i ∈ idsAV u := by
  intro i hi
  cases x with
  | tmp n => exact ⟨n, v, rfl, (lookT_some h).2, hi⟩
  | const v' =>
    exfalso
    simp only [ev] at h
    unfold constAV at h
    split at h <;> first | (cases h; simp [idsAV, idsV1L, idsAt] at hi; done) | skip
    split at h
    · cases h; simp [idsAV, idsV1L, idsAt] at hi
    · cases h
    · cases h
  | func f => simp only [ev] at h; cases h; simp [idsAV, idsV1L, idsAt] at hi
  | «global» _ =>
    simp only [ev] at h
    split at h
    · cases h; simp [idsAV, idsV1L, idsAt] at hi
    · cases h

theorem touch_mem {n : Nat} {u : AV} {i : Nat} (hl : looksM o.op = true) (h1 : n ∈ opTmps o) (h2 : look n r = some u) (h3 : i ∈ idsAV u) : i ∈ touch r o := by
  unfold touch
  rw [hl]
  simp only []
  rw [List.mem_flatMap]
  exact ⟨n, h1, by rw [h2]; exact h3⟩
theorem opTmps_mem {n : Nat} (h : Operand.tmp n ∈ o.op.operands.toList) : n ∈ opTmps o := by
  unfold opTmps
  rw [List.mem_filterMap]
  exact ⟨_, h, rfl⟩
theorem ev_touch (hl : looksM o.op = true) {t : TypeId} {x : Operand} {v : AV} (h : ev c r t x = some v) (hx : x ∈ o.op.operands.toList) : ∀ i ∈ idsAV v, i ∈ touch r o := by
  intro i hi
  obtain ⟨n, u, rfl, h2, h3⟩ := ev_ids h i hi
  exact touch_mem hl (opTmps_mem hx) h2 h3
theorem evA_ev {t : TypeId} {x : Operand} {p : At} (h : evA c r t x = some p) : ev c r t x = some (.one p) := by
  unfold evA at h
  split at h
  · rename_i e; cases h; exact e
  · cases h
theorem evA_touch (hl : looksM o.op = true) {t : TypeId} {x : Operand} {p : At} (h : evA c r t x = some p) (hx : x ∈ o.op.operands.toList) : ∀ i ∈ idsAt p, i ∈ touch r o := ev_touch hl (evA_ev h) hx
theorem evArgs_touch (hl : looksM o.op = true) : ∀ {l : List Operand} {ts : List TypeId} {as : List AV}, evArgs c r l ts = some as → (∀ x ∈ l, x ∈ o.op.operands.toList) → ∀ i ∈ as.flatMap idsAV, i ∈ touch r o
  | [], ts, as, h, _, i, hi => by simp only [evArgs] at h; cases h; simp at hi
  | x :: l, ts, as, h, hx, i, hi => by
    simp only [evArgs] at h
    split at h
    · rename_i y l' h1 h2
      cases h
      rw [List.flatMap_cons, List.mem_append] at hi
      rcases hi with hi | hi
      · exact ev_touch hl h1 (hx x (by simp)) i hi
      · exact evArgs_touch hl h2 (fun z hz => hx z (by simp [hz])) i hi
    · cases h

theorem evalQ_congr {k : AV → Option R} (h : ∀ i ∈ touch r o, look i m = look i m') (hc : ∀ i, capIn m i m = capIn m' i m') : evalQ c r m o k = evalQ c r m' o k := by
  unfold evalQ
  split
  case h_4 t a ho =>
    split
    · rename_i ti p h1 h2
      exact cellsAt_congr fun i hi => h i (evA_touch (by rw [ho]; rfl) h2 (by simp [ho, Op.operands]) i hi)
    · rfl
  case h_8 t x i ho =>
    split
    · rename_i p _ n h1 h2
      exact idxQ_congr fun i hi => h i (evA_touch (by rw [ho]; rfl) h1 (by simp [ho, Op.operands]) i hi)
    · rfl
  case h_13 s d x ho =>
    split
    · rfl
    · rfl
    · rename_i p h1 h2 h3
      split
      · exact listOf_congr fun i hi => h i (ev_touch (by rw [ho]; rfl) h3 (by simp [ho, Op.operands]) i hi)
      · rfl
    · rfl
    · rfl
  case h_15 t x lo hi mx ho =>
    split
    · rename_i p h1
      exact sliceQ_congr (fun i hi => h i (evA_touch (by rw [ho]; rfl) h1 (by simp [ho, Op.operands]) i hi)) (fun i _ => hc i)
    · rfl
  case h_17 args ts ho =>
    split
    · rename_i x t h1 h2
      split
      · rename_i p h3
        exact lenQ_congr fun i hi => h i (evA_touch (by rw [ho]; rfl) h3 (by simp [ho, Op.operands, Call.operands, h1]) i hi)
      · rfl
    · rfl
  case h_18 f args ts ho =>
    split
    · rename_i n as h1 h2
      split
      · exact viewVs_congr fun i hi => h i (evArgs_touch (by rw [ho]; rfl) h2 (by intro x hx; simp only [ho, Op.operands, Call.operands, Array.toList_append, List.mem_append]; simp [hx]) i hi)
      · rfl
    · rfl
  all_goals rfl
end
end Go.Eng
/- THE ENGINE, soundness: a region that draws its order, with operations that turn a block beside such as turn none: what came of the text's order. -/
set_option linter.unusedSimpArgs false
set_option linter.unusedVariables false
set_option linter.unnecessarySimpa false
namespace Go.Eng
open Go Go.RowKit

/-! Lists of pairs, after some of the entries. -/
section
variable {α : Type}
def gP (d : Option Nat) (y : α) (r : List (Nat × α)) : List (Nat × α) :=
  match d with
  | none => r
  | some d => (d, y) :: r
def gF : List (Option Nat × α) → List (Nat × α) → List (Nat × α)
  | [], r => r
  | x :: l, r => gF l (gP x.1 x.2 r)
def gL (L : Nat → Bool) : Nat → List (Option Nat × α) → List (Nat × α) → List (Nat × α)
  | _, [], r => r
  | i, x :: l, r => gL L (i + 1) l (if L i then gP x.1 x.2 r else r)

theorem look_gP {d : Option Nat} {y : α} {r : List (Nat × α)} {t : Nat} : look t (gP d y r) = if d = some t then some y else look t r := by
  cases d with
  | none => simp [gP]
  | some d =>
    simp only [gP, look, Option.some.injEq]
    by_cases h : d = t
    · subst h; simp
    · have : Nat.beq d t = false := by
        cases e : Nat.beq d t with
        | false => rfl
        | true => exact (h (Nat.eq_of_beq_eq_true e)).elim
      simp [this, h]

theorem gF_congr {t : Nat} : ∀ {tr : List (Option Nat × α)} {r r' : List (Nat × α)}, look t r = look t r' → look t (gF tr r) = look t (gF tr r')
  | [], _, _, h => h
  | x :: l, r, r', h => by
    simp only [gF]
    refine gF_congr ?_
    simp only [look_gP, h]

theorem look_gL {L : Nat → Bool} {t : Nat} : ∀ {tr : List (Option Nat × α)} {i p : Nat} {r r' : List (Nat × α)}, look t r = look t r' → (∀ q x, tr[q]? = some x → x.1 = some t → (q < p ↔ L (i + q) = true)) → look t (gL L i tr r) = look t (gF (tr.take p) r')
  | [], i, p, r, r', h, _ => by simpa [gL, gF] using h
  | x :: l, i, p, r, r', h, hL => by
    have h0 := hL 0 x (by simp)
    simp only [gL]
    cases p with
    | zero =>
      have := look_gL (L := L) (t := t) (tr := l) (i := i + 1) (p := 0) (r := if L i then gP x.1 x.2 r else r) (r' := r') (by
        split
        · rename_i hl
          rw [look_gP]
          split
          · rename_i e
            have := (h0 e).2 (by simpa using hl)
            omega
          · exact h
        · exact h) (fun q x hq hx => by
          have := hL (q + 1) x (by simpa using hq) hx
          rw [show i + 1 + q = i + (q + 1) from by omega, ← this]; omega)
      simpa [gF] using this
    | succ p =>
      simp only [List.take_succ_cons, gF]
      refine look_gL ?_ (fun q x hq hx => ?_)
      · by_cases e : x.1 = some t
        · have := (h0 e).1 (by omega)
          simp only [Nat.add_zero] at this
          rw [if_pos this]
          simp only [look_gP, if_pos e]
        · rw [look_gP, if_neg e]
          split
          · rw [look_gP, if_neg e]; exact h
          · exact h
      · have := hL (q + 1) x (by simpa using hq) hx
        rw [show i + 1 + q = i + (q + 1) from by omega, ← this]; omega

theorem look_gL_eq {L L' : Nat → Bool} {t : Nat} : ∀ {tr : List (Option Nat × α)} {i : Nat} {r r' : List (Nat × α)}, look t r = look t r' → (∀ q x, tr[q]? = some x → x.1 = some t → L (i + q) = L' (i + q)) → look t (gL L i tr r) = look t (gL L' i tr r')
  | [], i, r, r', h, _ => h
  | x :: l, i, r, r', h, hL => by
    simp only [gL]
    refine look_gL_eq ?_ (fun q y hq hy => by
      have := hL (q + 1) y (by simpa using hq) hy
      rwa [show i + 1 + q = i + (q + 1) from by omega])
    by_cases e : x.1 = some t
    · have := hL 0 x (by simp) e
      simp only [Nat.add_zero] at this
      rw [this]
      split
      · simp only [look_gP, if_pos e]
      · exact h
    · split <;> split <;> simp only [look_gP, if_neg e, h]

theorem look_gL_at {L : Nat → Bool} {t : Nat} {y : α} : ∀ {tr : List (Option Nat × α)} {i p : Nat} {r : List (Nat × α)}, tr[p]? = some (some t, y) → L (i + p) = true → (∀ q x, p < q → tr[q]? = some x → x.1 = some t → L (i + q) = false) → look t (gL L i tr r) = some y
  | [], i, p, r, h, _, _ => by simp at h
  | x :: l, i, 0, r, h, h0, hL => by
    simp at h; subst h
    simp only [gL]
    simp only [Nat.add_zero] at h0
    rw [if_pos h0, look_gL (p := 0) (r' := gP (some t) y r) rfl (fun q x hq hx => ?_)]
    · simp [gF, look_gP]
    · have := hL (q + 1) x (by omega) (by simpa using hq) hx
      rw [show i + 1 + q = i + (q + 1) from by omega, this]; simp
  | x :: l, i, p + 1, r, h, h0, hL => by
    simp only [gL]
    refine look_gL_at (p := p) (by simpa using h) (by rw [show i + 1 + p = i + (p + 1) from by omega]; exact h0) (fun q y hq hy he => ?_)
    rw [show i + 1 + q = i + (q + 1) from by omega]
    exact hL (q + 1) y (by omega) (by simpa using hy) he

/-- The same list, where the entries that bear something are the first p. -/
theorem gL_list {L : Nat → Bool} : ∀ {tr : List (Option Nat × α)} {i p : Nat} {r : List (Nat × α)}, (∀ q x d, tr[q]? = some x → x.1 = some d → (q < p ↔ L (i + q) = true)) → gL L i tr r = gF (tr.take p) r
  | [], i, p, r, _ => by simp [gL, gF]
  | x :: l, i, p, r, hL => by
    simp only [gL]
    have nx : ∀ p', p = p' + 1 → ∀ q y d, l[q]? = some y → y.1 = some d → (q < p' ↔ L (i + 1 + q) = true) := by
      intro p' e q y d hq hd
      have := hL (q + 1) y d (by simpa using hq) hd
      rw [show i + 1 + q = i + (q + 1) from by omega, ← this]; omega
    cases hx : x.1 with
    | none =>
      have e0 : gP (none : Option Nat) x.2 r = r := rfl
      rw [e0]
      cases p with
      | zero =>
        rw [show (if L i = true then r else r) = r from by split <;> rfl, gL_list (p := 0) (fun q y d hq hd => by
          have := hL (q + 1) y d (by simpa using hq) hd
          rw [show i + 1 + q = i + (q + 1) from by omega, ← this]; omega)]
        simp [gF]
      | succ p =>
        rw [show (if L i = true then r else r) = r from by split <;> rfl, gL_list (p := p) (nx p rfl)]
        simp only [List.take_succ_cons, gF, hx, e0]
    | some d0 =>
      have h0 := hL 0 x d0 (by simp) hx
      simp only [Nat.add_zero] at h0
      cases p with
      | zero =>
        have : ¬ L i = true := fun h => by have := h0.2 h; omega
        rw [if_neg this, gL_list (p := 0) (fun q y d hq hd => by
          have := hL (q + 1) y d (by simpa using hq) hd
          rw [show i + 1 + q = i + (q + 1) from by omega, ← this]; omega)]
        simp [gF]
      | succ p =>
        rw [if_pos (h0.1 (by omega)), gL_list (p := p) (nx p rfl)]
        simp only [List.take_succ_cons, gF, hx]

theorem gL_same {L L' : Nat → Bool} : ∀ {tr : List (Option Nat × α)} {i : Nat} {r : List (Nat × α)}, (∀ q x d, tr[q]? = some x → x.1 = some d → L (i + q) = L' (i + q)) → gL L i tr r = gL L' i tr r
  | [], i, r, _ => rfl
  | x :: l, i, r, hL => by
    simp only [gL]
    have e : (if L i = true then gP x.1 x.2 r else r) = (if L' i = true then gP x.1 x.2 r else r) := by
      cases hx : x.1 with
      | none => simp [gP]
      | some d => have := hL 0 x d (by simp) hx; simp only [Nat.add_zero] at this; rw [this]
    rw [e]
    exact gL_same fun q y d hq hd => by
      have := hL (q + 1) y d (by simpa using hq) hd
      rwa [show i + 1 + q = i + (q + 1) from by omega]

theorem gF_snoc : ∀ (tr : List (Option Nat × α)) (x : Option Nat × α) (r : List (Nat × α)), gF (tr ++ [x]) r = gP x.1 x.2 (gF tr r)
  | [], x, r => rfl
  | y :: l, x, r => by simp only [List.cons_append, gF]; exact gF_snoc l x _
theorem gF_take_succ {tr : List (Option Nat × α)} {p : Nat} {x : Option Nat × α} (h : tr[p]? = some x) (r : List (Nat × α)) : gF (tr.take (p + 1)) r = gP x.1 x.2 (gF (tr.take p) r) := by
  rw [← gF_snoc]
  congr 1
  rw [List.take_add_one, h]; rfl
end

/-! What a row's capacity is known by does not hang on what other blocks hold. -/
theorem capIn_eq {m m' : Mem} {id : Nat} : ∀ (l : Mem), (∀ x ∈ l, isCapk (look x.1 m) = true ∨ isCapk (look x.1 m') = true → look x.1 m = look x.1 m') → capIn m id l = capIn m' id l
  | [], _ => rfl
  | x :: l, h => by
    have ih := capIn_eq (id := id) l (fun y hy => h y (by simp [hy]))
    have hx := h x (by simp)
    simp only [capIn]
    rw [ih]
    cases h1 : look x.1 m with
    | none =>
      cases h2 : look x.1 m' with
      | none => rfl
      | some b =>
        cases b <;> first | rfl | skip
        rename_i a n
        exfalso
        have := hx (.inr (by rw [h2]; rfl))
        rw [h1, h2] at this; cases this
    | some b =>
      by_cases hc : isCapk (some b) = true
      · have := hx (.inl (by rw [h1]; exact hc))
        rw [h1] at this
        rw [← this]
      · cases b <;> first | (simp [isCapk] at hc; done) | skip
        all_goals
          cases h2 : look x.1 m' with
          | none => rfl
          | some b' =>
            cases b' <;> first | rfl | skip
            exfalso
            have := hx (.inr (by rw [h2]; rfl))
            rw [h1, h2] at this; cases this

def Plain (tr : List (Option Nat × AB)) (m : Mem) : Prop := ∀ x ∈ tr, ∀ d, x.1 = some d → isCapk (some x.2) = false ∧ isCapk (look d m) = false

theorem look_gL_capk {L : Nat → Bool} {t : Nat} : ∀ {tr : List (Option Nat × AB)} {i : Nat} {m : Mem}, Plain tr m → look t (gL L i tr m) = look t m ∨ (isCapk (look t (gL L i tr m)) = false ∧ isCapk (look t m) = false)
  | [], i, m, _ => .inl rfl
  | x :: l, i, m, h => by
    simp only [gL]
    have hx := h x (by simp)
    split
    · have hp : Plain l (gP x.1 x.2 m) := by
        intro y hy d hd
        refine ⟨(h y (by simp [hy]) d hd).1, ?_⟩
        rw [look_gP]
        split
        · rename_i e; exact (hx d e).1
        · exact (h y (by simp [hy]) d hd).2
      rcases look_gL_capk (L := L) (t := t) (i := i + 1) hp with h1 | ⟨h1, h2⟩
      · rw [look_gP] at h1
        split at h1
        · rename_i e
          right
          rw [h1]
          exact hx t e
        · exact .inl h1
      · right
        refine ⟨h1, ?_⟩
        rw [look_gP] at h2
        split at h2
        · rename_i e; exact (hx t e).2
        · exact h2
    · exact look_gL_capk fun y hy => h y (by simp [hy])

theorem capIn_gL {L : Nat → Bool} {M : Mem} {id : Nat} : ∀ {tr : List (Option Nat × AB)} {i : Nat} {m : Mem}, (∀ x ∈ tr, ∀ d, x.1 = some d → isCapk (look d M) = false) → capIn M id (gL L i tr m) = capIn M id m
  | [], i, m, _ => rfl
  | x :: l, i, m, h => by
    simp only [gL]
    rw [capIn_gL fun y hy => h y (by simp [hy])]
    split
    · cases hx : x.1 with
      | none => rfl
      | some d =>
        have := h x (by simp) d hx
        simp only [gP, capIn]
        cases h1 : look d M with
        | none => rfl
        | some b =>
          rw [h1] at this
          cases b <;> first | rfl | (simp [isCapk] at this)
    · rfl

theorem capIn_gL_self {L : Nat → Bool} {id i : Nat} {tr : List (Option Nat × AB)} {m : Mem} (h : Plain tr m) : capIn (gL L i tr m) id (gL L i tr m) = capIn m id m := by
  rw [capIn_gL fun x hx d hd => ?_]
  · refine capIn_eq m fun x hx hc => ?_
    rcases look_gL_capk (L := L) (t := x.1) (i := i) h with h1 | ⟨h1, h2⟩
    · exact h1
    · rw [h1, h2] at hc; simp at hc
  · rcases look_gL_capk (L := L) (t := d) (i := i) h with h1 | ⟨h1, h2⟩
    · rw [h1]; exact (h x hx d hd).2
    · exact h1

theorem gF_take_gL {α : Type} {tr : List (Option Nat × α)} {r : List (Nat × α)} (p : Nat) : gF (tr.take p) r = gL (fun q => decide (q < p)) 0 tr r := by
  rw [gL_list (p := p)]
  intro q x d _ _
  simp

/-! How many new blocks. -/
def upL (L : Nat → Bool) : Nat → List Bool → Nat → Nat
  | _, [], n => n
  | i, x :: l, n => upL L (i + 1) l (if L i && x then n + 1 else n)
def upF : List Bool → Nat → Nat
  | [], n => n
  | x :: l, n => upF l (if x then n + 1 else n)
theorem upL_list {L : Nat → Bool} : ∀ {tr : List Bool} {i p n : Nat}, (∀ q, tr[q]? = some true → (q < p ↔ L (i + q) = true)) → upL L i tr n = upF (tr.take p) n
  | [], i, p, n, _ => by simp [upL, upF]
  | x :: l, i, p, n, hL => by
    simp only [upL]
    have h0 := hL 0
    simp only [List.getElem?_cons_zero, Nat.add_zero] at h0
    cases p with
    | zero =>
      rw [upL_list (p := 0) (fun q hq => by
        have := hL (q + 1) (by simpa using hq)
        rw [show i + 1 + q = i + (q + 1) from by omega, ← this]; omega)]
      simp only [List.take_zero, upF]
      cases x
      · simp
      · have := h0 rfl
        simp at this
        simp [this]
    | succ p =>
      rw [upL_list (p := p) (fun q hq => by
        have := hL (q + 1) (by simpa using hq)
        rw [show i + 1 + q = i + (q + 1) from by omega, ← this]; omega)]
      simp only [List.take_succ_cons, upF]
      cases x
      · simp
      · have := (h0 rfl).1 (by omega)
        simp [this]
theorem upL_same {L L' : Nat → Bool} : ∀ {tr : List Bool} {i n : Nat}, (∀ q, tr[q]? = some true → L (i + q) = L' (i + q)) → upL L i tr n = upL L' i tr n
  | [], i, n, _ => rfl
  | x :: l, i, n, hL => by
    simp only [upL]
    have e : (if (L i && x) = true then n + 1 else n) = (if (L' i && x) = true then n + 1 else n) := by
      cases x
      · simp
      · have := hL 0 rfl; simp only [Nat.add_zero] at this; rw [this]
    rw [e]
    exact upL_same fun q hq => by
      have := hL (q + 1) (by simpa using hq)
      rwa [show i + 1 + q = i + (q + 1) from by omega]
theorem upF_snoc : ∀ (tr : List Bool) (x : Bool) (n : Nat), upF (tr ++ [x]) n = if x then upF tr n + 1 else upF tr n
  | [], x, n => by cases x <;> rfl
  | y :: l, x, n => by simp only [List.cons_append, upF]; exact upF_snoc l x _
theorem upF_take_succ {tr : List Bool} {p : Nat} {x : Bool} (h : tr[p]? = some x) (n : Nat) : upF (tr.take (p + 1)) n = if x then upF (tr.take p) n + 1 else upF (tr.take p) n := by
  rw [← upF_snoc]
  congr 1
  rw [List.take_add_one, h]; rfl
end Go.Eng
/- THE ENGINE, soundness: what an operation puts into a block. -/
set_option linter.unusedSimpArgs false
set_option linter.unusedVariables false
set_option linter.unnecessarySimpa false
namespace Go.Eng
open Go Go.RowKit

section
variable {R R' : Type} {c : Cfg} {r r' : Regs} {m m' : Mem} {o : Oper} {nx : Nat}

theorem effStore_bind (p : At) (v : V1) (f : Nat → AB → Option R) (k : R → Option R') : (effStore m p v f).bind k = effStore m p v fun a b => (f a b).bind k := by
  unfold effStore; repeat' split
  all_goals first | rfl | simp_all [ocase_bind]
theorem effCopy_bind (τ0 : Ty) (x : At) (τ' : Ty) (src : List τ'.T) (f : AV → Nat → AB → Option R) (k : R → Option R') : (effCopy m τ0 x τ' src f).bind k = effCopy m τ0 x τ' src fun y a b => (f y a b).bind k := by
  unfold effCopy; repeat' split
  all_goals first | rfl | simp_all [ocase_bind, bcase_bind]
theorem freshQ_bind (s : FSpec) (as : List AV) (f : At → AB → Option R) (k : R → Option R') : (freshQ s nx as f).bind k = freshQ s nx as fun y b => (f y b).bind k := by
  unfold freshQ; split
  · rw [ocase_bind]; congr 1; funext b; split <;> rfl
  · rfl
theorem effF_bind (f : Operand) (args : Array Operand) (ts : Array TypeId) (g : At → AB → Option R) (k : R → Option R') : (effF c f args ts r m nx g).bind k = effF c f args ts r m nx fun y b => (g y b).bind k := by
  unfold effF; split
  · split
    · rw [viewVs_bind]; congr 1; funext as'; rw [freshQ_bind]; congr 1; funext y b; split <;> rfl
    · rfl
  · rfl
theorem mgetK_bind {κ τ : Ty} (key : κ.T) : ∀ (l : List (κ.T × τ.T × Nat)) (kv : τ.T → Nat → Option R) (kn : Option R) (k : R → Option R'), (mgetK key l kv kn).bind k = mgetK key l (fun v b => (kv v b).bind k) (kn.bind k)
  | [], _, _, _ => rfl
  | x :: l, kv, kn, k => by simp only [mgetK]; rw [bcase_bind, mgetK_bind key l]
theorem mapW_bind {σ : St} {t : TypeId} {x i : Operand} {kk : (id : Nat) → (ag : Bool) → (κ τ : Ty) → List (κ.T × τ.T × Nat) → Nat → κ.T → TI → Option R} (k : R → Option R') : (mapW c σ t x i kk).bind k = mapW c σ t x i fun id ag κ τ l ck key te => (kk id ag κ τ l ck key te).bind k := by
  unfold mapW; repeat' split
  all_goals first | rfl | simp_all
theorem effW_bind (f : AV → Nat → AB → Bool → Option R) (k : R → Option R') : (effW c o r m nx f).bind k = effW c o r m nx fun y a b u => (f y a b u).bind k := by
  unfold effW; repeat' split
  all_goals first | rfl | (simp_all [ocase_bind, bcase_bind, lcase_bind, effStore_bind, effCopy_bind, listOf_bind]; done) | (rw [effF_bind]; done) | (rw [mapW_bind]; simp only [mgetK_bind, ocase_bind]; done)

abbrev effT (c : Cfg) (o : Oper) (r : Regs) (m : Mem) (nx : Nat) : Option (AV × Nat × AB × Bool) := effW c o r m nx fun y a b u => some (y, a, b, u)

theorem effW_some {k : AV → Nat → AB → Bool → Option R} {res : R} (h : effW c o r m nx k = some res) : ∃ y id b up, effT c o r m nx = some (y, id, b, up) ∧ k y id b up = some res := by
  have e := effW_bind (c := c) (o := o) (r := r) (m := m) (nx := nx) (f := fun y a b u => some (y, a, b, u)) (k := fun x => k x.1 x.2.1 x.2.2.1 x.2.2.2)
  simp only [Option.bind_some] at e
  rw [← e] at h
  obtain ⟨⟨y, id, b, up⟩, h1, h2⟩ := Option.bind_eq_some_iff.1 h
  exact ⟨y, id, b, up, h1, h2⟩

theorem ev_same {t : TypeId} {x : Operand} (h : ∀ t ∈ opTmps o, look t r = look t r') (hx : x ∈ o.op.operands.toList) : ev c r t x = ev c r' t x := by
  cases x with
  | tmp n =>
    have := h n (opTmps_mem hx)
    simp only [ev, lookT]
    rw [this]
  | const v => rfl
  | func f => rfl
  | global _ => rfl
theorem evA_same {t : TypeId} {x : Operand} (h : ∀ t ∈ opTmps o, look t r = look t r') (hx : x ∈ o.op.operands.toList) : evA c r t x = evA c r' t x := by unfold evA; rw [ev_same h hx]
theorem evV_same {t : TypeId} {x : Operand} (h : ∀ t ∈ opTmps o, look t r = look t r') (hx : x ∈ o.op.operands.toList) : evV c r t x = evV c r' t x := by unfold evV; rw [ev_same h hx]
theorem ownsOps_same (h : ∀ t ∈ opTmps o, look t r = look t r') : ∀ {l : List (Nat × Operand)}, (∀ x ∈ l, x.2 ∈ o.op.operands.toList) → ownsOps c r l = ownsOps c r' l
  | [], _ => rfl
  | x :: l, hl => by
    simp only [ownsOps]
    rw [ev_same h (hl x (by simp)), ownsOps_same h (fun y hy => hl y (by simp [hy]))]
theorem fillS_same (h : ∀ t ∈ opTmps o, look t r = look t r') {t : TypeId} {s : Nat} : ∀ {l : List (Nat × Operand)} {cells : List At}, (∀ x ∈ l, x.2 ∈ o.op.operands.toList) → fillS c r t s cells l = fillS c r' t s cells l
  | [], _, _ => rfl
  | x :: l, cells, hl => by
    simp only [fillS]
    rw [evV_same h (hl x (by simp))]
    split
    · split
      · exact fillS_same h (fun y hy => hl y (by simp [hy]))
      · rfl
    · rfl
theorem touch_same (h : ∀ t ∈ opTmps o, look t r = look t r') : touch r o = touch r' o := by
  unfold touch
  cases looksM o.op
  · rfl
  · simp only []
    generalize opTmps o = l at h
    induction l with
    | nil => rfl
    | cons a l ih =>
      simp only [List.flatMap_cons]
      rw [h a (by simp), ih (fun t ht => h t (by simp [ht]))]

theorem evArgs_same (h : ∀ t ∈ opTmps o, look t r = look t r') : ∀ {l : List Operand} {ts : List TypeId}, (∀ x ∈ l, x ∈ o.op.operands.toList) → evArgs c r l ts = evArgs c r' l ts
  | [], _, _ => rfl
  | x :: l, ts, hl => by
    simp only [evArgs]
    rw [ev_same h (hl x (by simp)), evArgs_same h (fun y hy => hl y (by simp [hy]))]
theorem effF_same {f : Operand} {args : Array Operand} {ts : Array TypeId} {kk : At → AB → Option R} (h : ∀ t ∈ opTmps o, look t r = look t r') (hf : f ∈ o.op.operands.toList) (ha : ∀ x ∈ args.toList, x ∈ o.op.operands.toList) : effF c f args ts r m nx kk = effF c f args ts r' m nx kk := by
  unfold effF calleeOf
  rw [ev_same h hf, evArgs_same h ha]
theorem mapW_same {t : TypeId} {x i : Operand} {kk : (id : Nat) → (ag : Bool) → (κ τ : Ty) → List (κ.T × τ.T × Nat) → Nat → κ.T → TI → Option R} (h : ∀ t ∈ opTmps o, look t r = look t r') (hx : x ∈ o.op.operands.toList) (hi : i ∈ o.op.operands.toList) :
    mapW c { regs := r, mem := m, nx := nx } t x i kk = mapW c { regs := r', mem := m, nx := nx } t x i kk := by
  unfold mapW
  simp only
  rw [evA_same h hx, evA_same h hi]

theorem effW_same {k : AV → Nat → AB → Bool → Option R} (h : ∀ t ∈ opTmps o, look t r = look t r') : effW c o r m nx k = effW c o r' m nx k := by
  unfold effW
  split
  case h_1 => rfl
  case h_2 t x ho => rw [evV_same h (by simp [ho, Op.operands])]
  case h_3 t n parts ho =>
    have hp : ∀ x ∈ parts.toList, x.2 ∈ o.op.operands.toList := by
      intro x hx
      simp only [ho, Op.operands, Array.toList_map, List.mem_map]
      exact ⟨x, hx, rfl⟩
    rw [ownsOps_same h hp]
    split
    · split
      · split
        · rw [fillS_same h hp]
        · rfl
      · rfl
    · rfl
  case h_4 t n q ho => rw [evA_same h (x := n) (by simp [ho, Op.operands]), evA_same h (x := q) (by simp [ho, Op.operands])]
  case h_5 t a x ho =>
    rw [evA_same h (x := a) (by simp [ho, Op.operands]), evV_same h (x := x) (by simp [ho, Op.operands])]
    have hx : ∀ z ∈ [((0 : Nat), x)], z.2 ∈ o.op.operands.toList := by intro z hz; simp at hz; subst hz; simp [ho, Op.operands]
    have e := ownsOps_same (c := c) h hx
    cases evA c r' 0 a with
    | none => rfl
    | some p => cases p <;> first | rfl | (simp only []; rw [e])
  case h_6 args ts ho =>
    split
    · rename_i x y t t' h1 h2
      have hx : x ∈ o.op.operands.toList := by simp [ho, Op.operands, Call.operands, h1]
      have hy : y ∈ o.op.operands.toList := by simp [ho, Op.operands, Call.operands, h1]
      rw [evA_same h hx, evA_same h hy]
    · rfl
  case h_7 f args ts ho => exact effF_same h (by simp [ho, Op.operands, Call.operands]) (by intro x hx; simp only [ho, Op.operands, Call.operands, Array.toList_append, List.mem_append]; simp [hx])
  case h_8 t x i ok ho => exact mapW_same h (by simp [ho, Op.operands]) (by simp [ho, Op.operands])
  case h_9 => rfl

theorem mapW_one {σ : St} {t : TypeId} {x i : Operand} {kk : (id : Nat) → (ag : Bool) → (κ τ : Ty) → List (κ.T × τ.T × Nat) → Nat → κ.T → TI → Option R} {res : R} (h : mapW c σ t x i kk = some res) :
    ∃ id ag κ τ l ck key te, kk id ag κ τ l ck key te = some res ∧ ∀ {R' : Type} (kk' : (id : Nat) → (ag : Bool) → (κ τ : Ty) → List (κ.T × τ.T × Nat) → Nat → κ.T → TI → Option R'), mapW c σ t x i kk' = kk' id ag κ τ l ck key te := by
  unfold mapW at h
  split at h
  · rename_i ag0 sz z κ τ0 kt e hti
    split at h
    · rename_i id ki te hx hi hte
      split at h
      · rename_i ag κ' τ l ck hl
        split at h
        · rename_i hsame
          split at h
          · rename_i key hkey
            exact ⟨id, ag, κ', τ, l, ck, key, te, h, fun kk' => by unfold mapW; simp only [hti, hx, hi, hte, hl, hsame, hkey]⟩
          · cases h
        · cases h
      · cases h
    · cases h
  · cases h
theorem mgetK_one {κ τ : Ty} {key : κ.T} : ∀ {l : List (κ.T × τ.T × Nat)} {kv : τ.T → Nat → Option R} {kn : Option R} {res : R}, mgetK key l kv kn = some res →
    (∃ v b, kv v b = some res ∧ ∀ {R' : Type} (kv' : τ.T → Nat → Option R') (kn' : Option R'), mgetK key l kv' kn' = kv' v b) ∨ (kn = some res ∧ ∀ {R' : Type} (kv' : τ.T → Nat → Option R') (kn' : Option R'), mgetK key l kv' kn' = kn')
  | [], kv, kn, res, h => .inr ⟨h, fun _ _ => rfl⟩
  | x :: l, kv, kn, res, h => by
    simp only [mgetK] at h
    rcases bcase_some h with ⟨hb, h⟩ | ⟨hb, h⟩
    · exact .inl ⟨_, _, h, fun kv' kn' => by simp only [mgetK, hb, bcase]⟩
    · rcases mgetK_one h with ⟨v, b, h1, h2⟩ | ⟨h1, h2⟩
      · exact .inl ⟨v, b, h1, fun kv' kn' => by simp only [mgetK, hb, bcase, h2]⟩
      · exact .inr ⟨h1, fun kv' kn' => by simp only [mgetK, hb, bcase, h2]⟩

theorem effF_one {f : Operand} {args : Array Operand} {ts : Array TypeId} {kk : At → AB → Option R} {res : R} (h : effF c f args ts r m nx kk = some res) : ∃ y b, kk y b = some res ∧ hasFresh c r f = true ∧ ∀ {R' : Type} (kk' : At → AB → Option R'), effF c f args ts r m nx kk' = kk' y b := by
  obtain ⟨nn, as, as', s, x, ab, y, hn, has, hsp, hu, hx, hab, hy, hc, hk⟩ := effF_some h
  refine ⟨y, ab, hk, by unfold hasFresh; simp only [hn, hsp], fun kk' => ?_⟩
  unfold effF
  simp only [hn, has, hsp]
  rw [hu]
  unfold freshQ
  have e : (flatB ab || (ownsVs as).isEmpty) = true := by
    rcases hc with hc | hc
    · simp [hc]
    · simp [hc]
  obtain ⟨z, hz, rfl⟩ : ∃ z, s.g x = some z ∧ s.enc z = ab := by
    unfold FSpec.f at hab
    split at hab
    · rename_i z hz; exact ⟨z, hz, by cases hab; rfl⟩
    · cases hab
  simp only [hx, hz, ocase, hy, e]

theorem stepX_eff {H : Hnd R} {σ : St} {k : St → Option R} {y : AV} {id : Nat} {b : AB} {up : Bool} (h : effT c o σ.regs σ.mem σ.nx = some (y, id, b, up)) :
    stepX H c o σ k = St.put c { regs := σ.regs, mem := (id, b) :: σ.mem, nx := nxOf up σ.nx } o.dst y k := by
  unfold effT effW at h
  split at h
  case h_7 f args ts ho =>
    obtain ⟨y', b', h1, h2, h3⟩ := effF_one h
    cases h1
    simp only [stepX, ho, stepV, h2, stepFresh, h3]
    rfl
  case h_8 t x i ok ho =>
    simp only [stepX, ho, stepW, lookupW]
    obtain ⟨id', ag, κ, τ, l, ck, key, te, h1, h2⟩ := mapW_one h
    rw [h2 (fun id ag κ τ l ck key te => mgetK key l (fun v _ => ocase (V1.ofCells ag (τ.enc v)) fun y => (σ.set id (.map ag κ τ l ck)).put c o.dst (commaOk ok y true) k) ((σ.set id (.map ag κ τ l ck)).put c o.dst (commaOk ok te.zero false) k))]
    rcases mgetK_one h1 with ⟨v, bb, h4, h5⟩ | ⟨h4, h5⟩
    · rw [h5]
      cases h6 : V1.ofCells ag (τ.enc v) with
      | none => rw [h6] at h4; cases h4
      | some z => rw [h6] at h4; cases h4; rfl
    · rw [h5]
      cases h4
      rfl
  case h_1 t ho =>
    simp only [stepX, stepW, ho]
    split at h
    · rename_i h1; cases h; (try simp only [h1]); rfl
    · cases h
  case h_2 t x ho =>
    simp only [stepX, stepW, ho]
    split at h
    · rename_i h1; cases h; (try simp only [h1]); rfl
    · cases h
  case h_3 t n parts ho =>
    simp only [stepX, stepW, ho]
    split at h
    · rename_i h0
      rw [h0]
      simp only [freezeAll]
      split at h
      · rename_i τ e h1
        (try simp only [h1])
        split at h
        · rename_i te h2
          (try simp only [h2])
          split at h
          · rename_i cells h3
            (try simp only [h3])
            cases h4 : decAll τ n cells with
            | none => rw [h4] at h; cases h
            | some l => rw [h4] at h; cases h; rfl
          · cases h
        · cases h
      · cases h
    · cases h
  case h_4 t n q ho =>
    simp only [stepX, stepW, ho]
    split at h
    · rename_i τ e k1 a k2 b h1 h2 h3
      (try simp only [h1, h2, h3])
      split at h
      · rename_i te h4
        (try simp only [h4])
        rcases bcase_some h with ⟨hb, h⟩ | ⟨hb, h⟩
        · rw [hb]
          simp only [bcase]
          unfold lcase at h ⊢
          split at h
          · rename_i hl
            (try simp only [])
            cases h5 : τ.decC te.zero.cells with
            | none => rw [h5] at h; cases h
            | some z => rw [h5] at h; cases h; rfl
          · cases h
        · cases h
      · cases h
    · cases h
  case h_5 t a x ho =>
    simp only [stepX, stepW, ho]
    split at h
    · rename_i h0
      rw [h0]
      simp only [freezeAll]
      split at h
      · rename_i p v ti h1 h2 h3
        (try simp only [h1, h2, h3])
        split at h
        · rename_i h4
          (try simp only [h4])
          unfold effStore at h
          split at h
          · rename_i id' off
            split at h
            · rename_i l h5
              split at h
              · rename_i h6; cases h; (try simp only [storeAt, h5, h6]); rfl
              · cases h
            · cases h
          · rename_i id' i j
            split at h
            · rename_i τ l h5
              split at h
              · rename_i h6
                (try simp only [storeAt, h5, h6])
                cases h7 : l[i]? with
                | none => rw [h7] at h; cases h
                | some e =>
                  rw [h7] at h
                  simp only [ocase] at h ⊢
                  cases h8 : τ.decC (setCells (τ.enc e) j v.cells) with
                  | none => rw [h8] at h; cases h
                  | some e' => rw [h8] at h; cases h; rfl
              · cases h
            · cases h
          · cases h
        · cases h
      · cases h
    · cases h
  case h_6 args ts ho =>
    simp only [stepX, stepW, ho]
    split at h
    · rename_i x y' t t' h1 h2
      (try simp only [h1, h2])
      split at h
      · rename_i τ0 e h3 h4
        (try simp only [h3, h4])
        split at h
        · cases h
        · rename_i xx yy h5 h6 hno
          have go : ∀ (τ' : Ty) (src : List τ'.T), (effCopy σ.mem τ0 xx τ' src fun y id b => some (y, id, b, false)) = some (y, id, b, up) → copyW c o σ τ0 xx τ' src k = St.put c { regs := σ.regs, mem := (id, b) :: σ.mem, nx := nxOf up σ.nx } o.dst y k := by
            intro τ' src h
            unfold effCopy at h
            split at h
            · split at h
              · rename_i h5
                split at h
                · rename_i h6
                  (try simp only [copyW, h5, h6])
                  cases h7 : castL τ' _ src with
                  | none => rw [h7] at h; cases h
                  | some s => rw [h7] at h; cases h; rfl
                · cases h
              · cases h
            · split at h
              · rename_i h5
                split at h
                · rename_i h6
                  (try simp only [copyW, h5, h6])
                  rcases bcase_some h with ⟨h6', h⟩ | ⟨_, h⟩
                  rotate_left
                  · cases h
                  rw [h6']
                  simp only [bcase]
                  cases h7 : castL τ' _ src with
                  | none => rw [h7] at h; cases h
                  | some s => rw [h7] at h; cases h; rfl
                · cases h
              · cases h
            · cases h
          unfold listOf at h ⊢
          split at h
          · exact go _ _ h
          · exact go _ _ h
          · split at h
            · rename_i h7; (try simp only [h7]); exact go _ _ h
            · cases h
          · split at h
            · rename_i h7
              (try simp only [h7])
              split at h
              · rename_i h8; (try simp only [h8]); exact go _ _ h
              · cases h
            · cases h
          · cases h
        · cases h
      · cases h
    · cases h
  case h_9 => cases h

theorem stepOp_W {H : Hnd R} {σ : St} {k : St → Option R} {y : AV} {id : Nat} {b : AB} {up : Bool} (hq : isQ c o.op = false) (h : effT c o σ.regs σ.mem σ.nx = some (y, id, b, up)) :
    stepOp H c true o σ k = St.put c { regs := σ.regs, mem := (id, b) :: σ.mem, nx := nxOf up σ.nx } o.dst y k := by
  rw [← stepX_eff (H := H) h]
  simp only [stepOp, hq]
end
end Go.Eng
/- THE ENGINE, soundness: a region that draws its order, in stretches. -/
set_option linter.unusedSimpArgs false
set_option linter.unusedVariables false
set_option linter.unnecessarySimpa false
namespace Go.Eng
open Go Go.RowKit

section
variable {P : Program} [GlobL P] {F : Fence} {n : Nat} {c : Cfg} {g g' : Gh} {r : Regs} {m : Mem} {a : Act} {w w' : World} {o : Oper} {R : Type} {k : St → Option R} {res : R}
variable {base : Nat} {w0 : World} {S0 : Nat → Prop} {N : Nat} {D : Wt} {sv : Nat → Value} {σ : St} {ops : Array Oper} {Q : Exit → Act → World → Prop} {ds : List (Option Nat)}

theorem okFromX_spec {x : Item} {i : Nat} : ∀ {l : List Item}, okFromX c ds i x l = true → ∀ y ∈ l, clashX c ds x y = true → Nat.testBit y.2.1 i = true
  | [], _, y, hy, _ => by simp at hy
  | z :: l, h, y, hy, hc => by
    unfold okFromX at h
    split at h
    · split at h
      · rename_i hb
        rcases List.mem_cons.1 hy with rfl | hy
        · exact hb
        · exact okFromX_spec h y hy hc
      · simp at h
    · rename_i hcl
      rcases List.mem_cons.1 hy with rfl | hy
      · rw [hc] at hcl; cases hcl
      · exact okFromX_spec h y hy hc

theorem okAllX_spec : ∀ {l : List Item} {i : Nat}, okAllX c ds i l = true → ∀ {p q : Nat} {x y : Item}, p < q → l[p]? = some x → l[q]? = some y → clashX c ds x y = true → Nat.testBit y.2.1 (i + p) = true
  | [], i, _, p, q, x, y, _, hx, _, _ => by simp at hx
  | z :: l, i, h, p, q, x, y, hpq, hx, hy, hc => by
    unfold okAllX at h
    split at h
    · rename_i hf
      cases q with
      | zero => omega
      | succ q =>
        simp at hy
        cases p with
        | zero =>
          simp at hx; subst hx
          exact okFromX_spec hf y (List.mem_of_getElem? hy) hc
        | succ p =>
          simp at hx
          have := okAllX_spec h (by omega : p < q) hx hy hc
          rw [show i + (p + 1) = i + 1 + p from by omega]; exact this
    · simp at h

theorem looseX_get : ∀ {l : List (Oper × Nat)} {i p : Nat} {x : Oper × Nat}, l[p]? = some x → ∃ lo, (looseX c i l)[p]? = some (x.1, x.2, lo) ∧ (lo = true → x.1.guard = none ∧ isW c x.1.op = true)
  | [], i, p, x, h => by simp at h
  | z :: l, i, 0, x, h => by
    simp at h; subst h
    refine ⟨_, by simp only [looseX, List.getElem?_cons_zero]; rfl, fun h => ?_⟩
    split at h
    · rename_i h1 h2 h3; exact ⟨h3, h2⟩
    · cases h
  | z :: l, i, p + 1, x, h => by
    simp only [looseX, List.getElem?_cons_succ]
    exact looseX_get (by simpa using h)
theorem looseX_len : ∀ {l : List (Oper × Nat)} {i : Nat}, (looseX c i l).length = l.length
  | [], _ => rfl
  | x :: l, i => by simp [looseX, looseX_len]

theorem itemsX_len : (itemsX c ops.toList).length = ops.size := by
  obtain ⟨rest, h1, h2, h3⟩ := befores_spec ops.toList []
  simp only [List.nil_append] at h1
  unfold itemsX
  rw [looseX_len, List.length_zip, h1, h2]
  simp
theorem itemsX_get {p : Nat} (h : ops[p]? = some o) : ∃ b lo, (itemsX c ops.toList)[p]? = some (o, b, lo) ∧ (befores [] ops.toList)[p]? = some b ∧ (lo = true → o.guard = none ∧ isW c o.op = true) := by
  obtain ⟨rest, h1, h2, h3⟩ := befores_spec ops.toList []
  simp only [List.nil_append] at h1
  have hp : p < ops.size := (Array.getElem?_eq_some_iff.1 h).1
  have hr : p < rest.length := by rw [h2]; simpa using hp
  have hz : (ops.toList.zip (befores [] ops.toList))[p]? = some (o, rest[p]) := by
    rw [h1, List.getElem?_zip_eq_some]
    exact ⟨by simpa using h, List.getElem?_eq_getElem hr⟩
  obtain ⟨lo, h4, h5⟩ := looseX_get (c := c) (i := 0) hz
  exact ⟨rest[p], lo, h4, by rw [h1]; exact List.getElem?_eq_getElem hr, h5⟩
theorem itemsX_op {p : Nat} {x : Item} (h : (itemsX c ops.toList)[p]? = some x) : ops[p]? = some x.1 ∧ (befores [] ops.toList)[p]? = some x.2.1 ∧ (x.2.2 = true → x.1.guard = none ∧ isW c x.1.op = true) := by
  have hp : p < ops.size := by rw [← itemsX_len (c := c)]; exact (List.getElem?_eq_some_iff.1 h).1
  have ho : ops[p]? = some ops[p] := by simp
  obtain ⟨b, lo, h1, h2, h3⟩ := itemsX_get (c := c) ho
  rw [h] at h1
  cases h1
  exact ⟨ho, h2, h3⟩

theorem bit_before {L : Array Bool} (hb : edgesBack 0 ops.toList = true) (hc : Closed ops L) {i j : Nat} {y : Item} (hy : (itemsX c ops.toList)[j]? = some y) (hbit : Nat.testBit y.2.1 i = true)
    (he : ∀ e ∈ y.1.after, bindsAny e = true → L.getD e.on false = true) : L.getD i false = true := by
  obtain ⟨h1, h2, _⟩ := itemsX_op hy
  exact closed_bits hc hb j y.1 y.2.1 h1 h2 he i hbit

theorem clash_beforeX {L : Array Bool} (ho : orderX c ops.toList = true) (hc : Closed ops L) {i j : Nat} {x y : Item} (hij : i < j) (hx : (itemsX c ops.toList)[i]? = some x) (hy : (itemsX c ops.toList)[j]? = some y) (hcl : clashX c (ops.toList.map (·.dst)) x y = true)
    (he : ∀ e ∈ y.1.after, bindsAny e = true → L.getD e.on false = true) : L.getD i false = true := by
  unfold orderX at ho
  split at ho
  · rename_i hb
    have hbit := okAllX_spec ho hij hx hy hcl
    simp only [Nat.zero_add] at hbit
    exact bit_before hb hc hy hbit he
  · simp at ho

theorem reg_l {x y : Oper} {t : Nat} (hx : x.dst = some t) (hy : t ∈ looksOf ds y) : regClash ds x y = true := by simp [regClash, dstIn, hx, hasN_mem.2 hy]
theorem reg_r {x y : Oper} {t : Nat} (hy : y.dst = some t) (hx : t ∈ looksOf ds x) : regClash ds x y = true := by simp [regClash, dstIn, hy, hasN_mem.2 hx]
theorem reg_d {x y : Oper} {t : Nat} (hx : x.dst = some t) (hy : y.dst = some t) : regClash ds x y = true := by simp [regClash, sameDst, hx, hy]
theorem clX {x y : Item} (h : regClash ds x.1 y.1 = true) : clashX c ds x y = true := by
  unfold clashX
  split
  · exact h
  · rfl
theorem clX_b {x y : Item} (h : (isQ c x.1.op || x.2.2) = false ∨ (isQ c y.1.op || y.2.2) = false ∨ (isQ c x.1.op || isQ c y.1.op) = false) : clashX c ds x y = true := by
  unfold clashX
  split
  · rename_i h1 h2 h3
    rcases h with h | h | h
    · rw [h1] at h; cases h
    · rw [h2] at h; cases h
    · rw [h3] at h; cases h
  · rfl

theorem pushD_gP (d : Option Nat) (y : AV) (r : Regs) : pushD d y r = gP d y r := by cases d <;> rfl

theorem put_eq {dst : Option Nat} {x : AV} {σ : St} {kk : St → Option R} (h : ∀ d, dst = some d → d < c.N ∧ d < OFF) : σ.put c dst x kk = kk { regs := pushD dst x σ.regs, mem := σ.mem, nx := σ.nx } := by
  cases dst with
  | none => rfl
  | some d =>
    obtain ⟨h1, h2⟩ := h d rfl
    unfold St.put
    have e1 : Nat.blt d c.N = true := Nat.ble_eq_true_of_le h1
    have e2 : Nat.blt d OFF = true := Nat.ble_eq_true_of_le h2
    simp only [e1, e2]
    rfl

/-! A stretch. -/
structure TX where
  d : Option Nat
  y : AV
  e : Option (Nat × AB × Bool)
def rT (tr : List TX) : List (Option Nat × AV) := tr.map fun x => (x.d, x.y)
def mE : Option (Nat × AB × Bool) → Option Nat × AB
  | some (id, b, _) => (some id, b)
  | none => (none, .gone)
def uE : Option (Nat × AB × Bool) → Bool
  | some (_, _, u) => u
  | none => false
def mT (tr : List TX) : List (Option Nat × AB) := tr.map fun x => mE x.e
def uT (tr : List TX) : List Bool := tr.map fun x => uE x.e

structure SegX (H : Hnd R) (c : Cfg) (ds : List (Option Nat)) (k : St → Option R) (res : R) (s : Nat) (σ : St) (l : List Item) (tr : List TX) (σe : St) : Prop where
  le : tr.length ≤ l.length
  rest : ∃ T U, runX H c ds (l.drop tr.length) (s + tr.length) T U σe k = some res
  head : ∀ (o : Item), l[tr.length]? = some o → isQ c o.1.op = false ∧ o.2.2 = false
  mem : σe.mem = gF (mT tr) σ.mem
  nx : σe.nx = upF (uT tr) σ.nx
  regs : ∀ t, look t σe.regs = look t (gF (rT tr) σ.regs)
  dst : ∀ (p : Nat) (o : Item) (x : TX), l[p]? = some o → tr[p]? = some x → x.d = o.1.dst ∧ ∀ d, o.1.dst = some d → d < c.N ∧ d < OFF
  stepQ : ∀ (p : Nat) (o : Item) (x : TX), l[p]? = some o → tr[p]? = some x → isQ c o.1.op = true → x.e = none ∧ ∃ r, (∀ t, look t r = look t (gF ((rT tr).take p) σ.regs)) ∧ StepQ c ds o.1 r (gF ((mT tr).take p) σ.mem) x.y
  stepW : ∀ (p : Nat) (o : Item) (x : TX), l[p]? = some o → tr[p]? = some x → isQ c o.1.op = false → o.2.2 = true ∧ ∃ id b up r, x.e = some (id, b, up) ∧ (∀ t, look t r = look t (gF ((rT tr).take p) σ.regs)) ∧
    effT c o.1 r (gF ((mT tr).take p) σ.mem) (upF ((uT tr).take p) σ.nx) = some (x.y, id, b, up)
  plain : Plain (mT tr) σ.mem
  un1 : ∀ (p q : Nat) (o o' : Item) (x' : TX) (id : Nat) (b : AB) (up : Bool), l[p]? = some o → l[q]? = some o' → tr[q]? = some x' → p < q → isQ c o.1.op = true → x'.e = some (id, b, up) → Nat.testBit o'.2.1 (s + p) = true ∨ id ∉ touch (gF ((rT tr).take p) σ.regs) o.1
  un2 : ∀ (p q : Nat) (o : Item) (x' : TX), l[p]? = some o → p < tr.length → tr[q]? = some x' → q < p → isQ c o.1.op = true → x'.e.isSome = true → Nat.testBit o.2.1 (s + q) = true ∨ touch (gF ((rT tr).take p) σ.regs) o.1 = []

theorem mkSegX {H : Hnd R} : ∀ (l : List Item) (i : Nat) (T : List (Nat × List Nat)) (U : List Nat) (σ : St), runX H c ds l i T U σ k = some res → ∃ tr σe, SegX H c ds k res i σ l tr σe ∧
    (∀ (q : Nat) (o : Item) (x : TX) (id : Nat) (b : AB) (up : Bool), l[q]? = some o → tr[q]? = some x → x.e = some (id, b, up) → ∀ z ∈ T, Nat.testBit o.2.1 z.1 = true ∨ id ∉ z.2) ∧
    (∀ (p : Nat) (o : Item), l[p]? = some o → p < tr.length → isQ c o.1.op = true → ∀ j ∈ U, Nat.testBit o.2.1 j = true ∨ touch (gF ((rT tr).take p) σ.regs) o.1 = [])
  | [], i, T, U, σ, h => ⟨[], σ, { le := by simp, rest := ⟨T, U, by simpa using h⟩, head := fun o h => (by simp at h), mem := rfl, nx := rfl, regs := fun _ => rfl, dst := fun p o x h => (by simp at h), stepQ := fun p o x h => (by simp at h), stepW := fun p o x h => (by simp at h), plain := fun x hx => (by simp [mT] at hx), un1 := fun p q o o' x' id b up h => (by simp at h), un2 := fun p q o x' h => (by simp at h) }, fun q o x id b up h => (by simp at h), fun p o h => (by simp at h)⟩
  | (o, bef, lo) :: l, i, T, U, σ, h => by
    have h' := h
    simp only [runX] at h
    split at h
    · -- turns no block
      rename_i hq
      split at h
      · rename_i hU
        obtain ⟨r, y, hr, hs, hd, h1⟩ := stepQ_of hq h
        simp only [runOps] at h1
        obtain ⟨tr, σe, S, hT, hU'⟩ := mkSegX l (i + 1) _ _ _ h1
        have hpr : ∀ t, look t (pushD o.dst y r) = look t (gP o.dst y σ.regs) := fun t => by rw [pushD_gP]; simp only [look_gP, hr]
        have hg : ∀ p t, look t (gF ((rT tr).take p) (pushD o.dst y r)) = look t (gF ((rT (⟨o.dst, y, none⟩ :: tr)).take (p + 1)) σ.regs) := fun p t => by
          simp only [rT, List.map_cons, List.take_succ_cons, gF]
          exact gF_congr (hpr t)
        have ht : ∀ p o', touch (gF ((rT tr).take p) (pushD o.dst y r)) o' = touch (gF ((rT (⟨o.dst, y, none⟩ :: tr)).take (p + 1)) σ.regs) o' := fun p o' => touch_same fun t _ => hg p t
        refine ⟨⟨o.dst, y, none⟩ :: tr, σe, { le := by have := S.le; simp; omega, rest := ?_, head := fun o' h => S.head o' (by simpa using h), mem := by rw [S.mem]; rfl, nx := by rw [S.nx]; rfl, regs := fun t => ?_, dst := fun p o' x hp hx => ?_, stepQ := fun p o' x hp hx hq' => ?_, stepW := fun p o' x hp hx hq' => ?_, plain := fun x hx d hd' => ?_, un1 := fun p q o1 o2 x' id b up hp hq1 hx' hlt hq2 he => ?_, un2 := fun p q o1 x' hp hpl hx' hlt hq2 he => ?_ }, fun q o' x id b up hp hx he z hz => ?_, fun p o' hp hpl hq' j hj => ?_⟩
        · obtain ⟨T', U', hr'⟩ := S.rest
          exact ⟨T', U', by simpa [Nat.add_assoc, Nat.add_comm, Nat.add_left_comm] using hr'⟩
        · rw [S.regs]
          have := hg tr.length t
          rw [List.take_of_length_le (by simp [rT]), List.take_of_length_le (by simp [rT])] at this
          exact this
        · cases p with
          | zero => simp at hp hx; subst hp; subst hx; exact ⟨rfl, hd⟩
          | succ p => exact S.dst p o' x (by simpa using hp) (by simpa using hx)
        · cases p with
          | zero =>
            simp at hp hx; subst hp; subst hx
            exact ⟨rfl, r, by simpa [gF] using hr, by simpa [gF] using hs⟩
          | succ p =>
            obtain ⟨h1, r', h2, h3⟩ := S.stepQ p o' x (by simpa using hp) (by simpa using hx) hq'
            exact ⟨h1, r', fun t => (h2 t).trans (hg p t), by simpa [mT, mE, gF, gP] using h3⟩
        · cases p with
          | zero => simp at hp hx; subst hp; rw [hq] at hq'; cases hq'
          | succ p =>
            obtain ⟨h0, id, b, up, r', h1, h2, h3⟩ := S.stepW p o' x (by simpa using hp) (by simpa using hx) hq'
            exact ⟨h0, id, b, up, r', h1, fun t => (h2 t).trans (hg p t), by simpa [mT, mE, uT, uE, gF, gP, upF] using h3⟩
        · simp only [mT, List.map_cons, List.mem_cons] at hx
          rcases hx with rfl | hx
          · simp [mE] at hd'
          · exact S.plain x hx d hd'
        · cases q with
          | zero => omega
          | succ q =>
            have hq1 : l[q]? = some o2 := by simpa using hq1
            have hx' : tr[q]? = some x' := by simpa using hx'
            cases p with
            | zero =>
              simp at hp; subst hp
              have := hT q o2 x' id b up hq1 hx' he (i, touch σ.regs o) (by simp)
              simpa [gF, rT] using this
            | succ p =>
              have := S.un1 p q o1 o2 x' id b up (by simpa using hp) hq1 hx' (by omega) hq2 he
              rw [ht p o1.1, show i + 1 + p = i + (p + 1) from by omega] at this
              exact this
        · cases p with
          | zero => omega
          | succ p =>
            have hp : l[p]? = some o1 := by simpa using hp
            cases q with
            | zero => simp at hx'; subst hx'; simp at he
            | succ q =>
              have := S.un2 p q o1 x' hp (by simpa using hpl) (by simpa using hx') (by omega) hq2 he
              rw [ht p o1.1, show i + 1 + q = i + (q + 1) from by omega] at this
              exact this
        · cases q with
          | zero => simp at hx; subst hx; simp at he
          | succ q => exact hT q o' x id b up (by simpa using hp) (by simpa using hx) he z (by simp [hz])
        · cases p with
          | zero =>
            simp at hp; subst hp
            rw [Bool.or_eq_true] at hU
            rcases hU with hU | hU
            · exact .inl (List.all_eq_true.1 hU j hj)
            · right
              simpa [gF, rT] using hU
          | succ p =>
            have := hU' p o' (by simpa using hp) (by simpa using hpl) hq' j hj
            rw [ht p o'.1] at this
            exact this
      · cases h
    · rename_i hq
      split at h
      · -- turns a block, within the stretch
        obtain ⟨y, id, b, up, he, h1⟩ := effW_some h
        split at h1
        · rename_i hTT hcap
          obtain ⟨hd, h2⟩ := put_pushD h1
          obtain ⟨tr, σe, S, hT, hU'⟩ := mkSegX l (i + 1) _ _ _ h2
          simp only [Bool.or_eq_false_iff] at hcap
          have hpr : ∀ t, look t (pushD o.dst y σ.regs) = look t (gP o.dst y σ.regs) := fun t => by rw [pushD_gP]
          have hg : ∀ p t, look t (gF ((rT tr).take p) (pushD o.dst y σ.regs)) = look t (gF ((rT (⟨o.dst, y, some (id, b, up)⟩ :: tr)).take (p + 1)) σ.regs) := fun p t => by
            simp only [rT, List.map_cons, List.take_succ_cons, gF]
            exact gF_congr (hpr t)
          have ht : ∀ p o', touch (gF ((rT tr).take p) (pushD o.dst y σ.regs)) o' = touch (gF ((rT (⟨o.dst, y, some (id, b, up)⟩ :: tr)).take (p + 1)) σ.regs) o' := fun p o' => touch_same fun t _ => hg p t
          have hnx : nxOf up σ.nx = if up then σ.nx + 1 else σ.nx := by cases up <;> rfl
          refine ⟨⟨o.dst, y, some (id, b, up)⟩ :: tr, σe, { le := by have := S.le; simp; omega, rest := ?_, head := fun o' h => S.head o' (by simpa using h), mem := by rw [S.mem]; rfl, nx := by rw [S.nx]; simp only [uT, List.map_cons, upF, uE, hnx], regs := fun t => ?_, dst := fun p o' x hp hx => ?_, stepQ := fun p o' x hp hx hq' => ?_, stepW := fun p o' x hp hx hq' => ?_, plain := fun x hx d hd' => ?_, un1 := fun p q o1 o2 x' id' b' up' hp hq1 hx' hlt hq2 he' => ?_, un2 := fun p q o1 x' hp hpl hx' hlt hq2 he' => ?_ }, fun q o' x id' b' up' hp hx he' z hz => ?_, fun p o' hp hpl hq' j hj => ?_⟩
          · obtain ⟨T', U', hr'⟩ := S.rest
            exact ⟨T', U', by simpa [Nat.add_assoc, Nat.add_comm, Nat.add_left_comm] using hr'⟩
          · rw [S.regs]
            have := hg tr.length t
            rw [List.take_of_length_le (by simp [rT]), List.take_of_length_le (by simp [rT])] at this
            exact this
          · cases p with
            | zero => simp at hp hx; subst hp; subst hx; exact ⟨rfl, hd⟩
            | succ p => exact S.dst p o' x (by simpa using hp) (by simpa using hx)
          · cases p with
            | zero => simp at hp hx; subst hp; rw [hq] at hq'; cases hq'
            | succ p =>
              obtain ⟨h1, r', h2, h3⟩ := S.stepQ p o' x (by simpa using hp) (by simpa using hx) hq'
              exact ⟨h1, r', fun t => (h2 t).trans (hg p t), by simpa [mT, mE, gF, gP] using h3⟩
          · cases p with
            | zero =>
              simp at hp hx; subst hp; subst hx
              exact ⟨rfl, id, b, up, σ.regs, rfl, by simp [gF], by simpa [gF, upF] using he⟩
            | succ p =>
              obtain ⟨h0, id', b', up', r', h1, h2, h3⟩ := S.stepW p o' x (by simpa using hp) (by simpa using hx) hq'
              refine ⟨h0, id', b', up', r', h1, fun t => (h2 t).trans (hg p t), ?_⟩
              simp only [mT, List.map_cons, List.take_succ_cons, gF, mE, gP, uT, uE, upF]
              rw [← hnx]
              exact h3
          · simp only [mT, List.map_cons, List.mem_cons] at hx
            rcases hx with rfl | hx
            · simp only [mE, Option.some.injEq] at hd'
              subst hd'
              exact ⟨hcap.2, hcap.1⟩
            · obtain ⟨p1, p2⟩ := S.plain x hx d hd'
              refine ⟨p1, ?_⟩
              have : look d (gP (some id) b σ.mem) = look d ((id, b) :: σ.mem) := rfl
              rw [← this, look_gP] at p2
              split at p2
              · rename_i e; cases e; exact hcap.1
              · exact p2
          · cases q with
            | zero => omega
            | succ q =>
              have hq1 : l[q]? = some o2 := by simpa using hq1
              have hx' : tr[q]? = some x' := by simpa using hx'
              cases p with
              | zero => simp at hp; subst hp; rw [hq] at hq2; cases hq2
              | succ p =>
                have := S.un1 p q o1 o2 x' id' b' up' (by simpa using hp) hq1 hx' (by omega) hq2 he'
                rw [ht p o1.1, show i + 1 + p = i + (p + 1) from by omega] at this
                exact this
          · cases p with
            | zero => omega
            | succ p =>
              have hp : l[p]? = some o1 := by simpa using hp
              cases q with
              | zero =>
                have := hU' p o1 hp (by simpa using hpl) hq2 i (by simp)
                rw [ht p o1.1] at this
                exact this
              | succ q =>
                have := S.un2 p q o1 x' hp (by simpa using hpl) (by simpa using hx') (by omega) hq2 he'
                rw [ht p o1.1, show i + 1 + q = i + (q + 1) from by omega] at this
                exact this
          · cases q with
            | zero =>
              simp at hp hx; subst hp; subst hx
              cases he'
              have := List.all_eq_true.1 hTT z hz
              rw [Bool.or_eq_true] at this
              rcases this with h | h
              · exact .inl h
              · right
                intro hm
                rw [hasN_mem.2 hm] at h
                cases h
            | succ q => exact hT q o' x id' b' up' (by simpa using hp) (by simpa using hx) he' z hz
          · cases p with
            | zero => simp at hp; subst hp; rw [hq] at hq'; cases hq'
            | succ p =>
              have := hU' p o' (by simpa using hp) (by simpa using hpl) hq' j (by simp [hj])
              rw [ht p o'.1] at this
              exact this
        · cases h1
      · -- ends the stretch
        rename_i hlo
        exact ⟨[], σ, { le := by simp, rest := ⟨T, U, by simpa using h'⟩, head := fun o' ho' => by simp at ho'; subst ho'; exact ⟨hq, rfl⟩, mem := rfl, nx := rfl, regs := fun _ => rfl, dst := fun p o x _ h => (by simp at h), stepQ := fun p o x _ h => (by simp at h), stepW := fun p o x _ h => (by simp at h), plain := fun x hx => (by simp [mT] at hx), un1 := fun p q o o' x' id b up _ _ h => (by simp at h), un2 := fun p q o x' _ h => (by simp at h) }, fun q o x id b up _ h => (by simp at h), fun p o _ h => (by simp at h)⟩
end
end Go.Eng
/- THE ENGINE, soundness: a region that draws its order, with operations that turn a block beside such as turn none, walked. -/
set_option linter.unusedSimpArgs false
set_option linter.unusedVariables false
set_option linter.unnecessarySimpa false
namespace Go.Eng
open Go Go.RowKit

section
variable {P : Program} [GlobL P] {F : Fence} {n : Nat} {c : Cfg} {g g' : Gh} {r : Regs} {m : Mem} {a : Act} {w w' : World} {o : Oper} {R : Type} {k : St → Option R} {res : R}
variable {base : Nat} {w0 : World} {S0 : Nat → Prop} {N : Nat} {D : Wt} {sv : Nat → Value} {σ : St} {ops : Array Oper} {Q : Exit → Act → World → Prop}

/-- The state after some of a stretch's operations. -/
def stX (L : Nat → Bool) (s : Nat) (tr : List TX) (σ : St) : St := { regs := gL L s (rT tr) σ.regs, mem := gL L s (mT tr) σ.mem, nx := upL L s (uT tr) σ.nx }

structure InvX (P : Program) [GlobL P] (H : Hnd R) (sv : Nat → Value) (base : Nat) (w0 : World) (S0 : Nat → Prop) (N : Nat) (D : Wt) (c : Cfg) (ops : Array Oper) (k : St → Option R) (res : R) (s : Nat) (σ : St) (tr : List TX) (σe : St) (L : Array Bool) (g : Gh) (a : Act) (w : World) : Prop where
  size : L.size = ops.size
  closed : Closed ops L
  sz : s ≤ ops.size
  low : ∀ p, p < s → L.getD p false = true
  high : ∀ p, L.getD p false = true → p < s + tr.length
  rel : Rel P base w0 S0 N D sv g (stX (fun i => L.getD i false) s tr σ) a w
  seg : SegX H c (ops.toList.map (·.dst)) k res s σ ((itemsX c ops.toList).drop s) tr σe

theorem Rel.look_regs {σ σ' : St} (h : Rel P base w0 S0 N D sv g σ a w) (hr : ∀ t, look t σ'.regs = look t σ.regs) (hm : σ'.mem = σ.mem) (hn : σ'.nx = σ.nx) : Rel P base w0 S0 N D sv g σ' a w :=
  { h with regs := fun t x hx => h.regs t x (by rw [← hr]; exact hx), mem := by rw [hm]; exact h.mem, inj := by rw [hm]; exact h.inj, own := by rw [hm]; exact h.own, lp := by rw [hm]; exact h.lp, nx := by rw [hn]; exact h.nx }

theorem InvX.full {H : Hnd R} {s : Nat} {tr : List TX} {σe : St} {L : Array Bool} (I : InvX P H sv base w0 S0 N D c ops k res s σ tr σe L g a w) (hall : ∀ p, p < s + tr.length → L.getD p false = true) : Rel P base w0 S0 N D sv g σe a w := by
  refine I.rel.look_regs (fun t => ?_) ?_ ?_
  · rw [I.seg.regs]
    simp only [stX]
    have hl : (rT tr).length = tr.length := by simp [rT]
    rw [look_gL (p := tr.length) (r' := σ.regs) rfl (fun q x hq _ => ?_), ← hl, List.take_length]
    have hq := (List.getElem?_eq_some_iff.1 hq).1
    rw [hl] at hq
    exact ⟨fun _ => hall _ (by omega), fun _ => hq⟩
  · rw [I.seg.mem]
    simp only [stX]
    have hl : (mT tr).length = tr.length := by simp [mT]
    rw [gL_list (p := tr.length) (fun q x d hq _ => ?_), ← hl, List.take_length]
    have hq := (List.getElem?_eq_some_iff.1 hq).1
    rw [hl] at hq
    exact ⟨fun _ => hall _ (by omega), fun _ => hq⟩
  · rw [I.seg.nx]
    simp only [stX]
    have hl : (uT tr).length = tr.length := by simp [uT]
    rw [upL_list (p := tr.length) (fun q hq => ?_), ← hl, List.take_length]
    have hq := (List.getElem?_eq_some_iff.1 hq).1
    rw [hl] at hq
    exact ⟨fun _ => hall _ (by omega), fun _ => hq⟩

theorem InvX.done {H : Hnd R} {s : Nat} {tr : List TX} {σe : St} {L : Array Bool} (I : InvX P H sv base w0 S0 N D c ops k res s σ tr σe L g a w) (hall : ∀ p, p < ops.size → L.getD p false = true) : k σe = some res ∧ Rel P base w0 S0 N D sv g σe a w := by
  have he : s + tr.length = ops.size := by
    have h1 := I.seg.le
    simp [itemsX_len] at h1
    rcases Nat.lt_or_ge (s + tr.length) ops.size with h | h
    · have := I.high _ (hall _ h); omega
    · have := I.sz; omega
  refine ⟨?_, I.full fun p hp => hall p (by omega)⟩
  obtain ⟨T, U, hr⟩ := I.seg.rest
  rw [List.drop_drop, he, List.drop_eq_nil_of_le (by simp [itemsX_len])] at hr
  simpa [runX] using hr

theorem drop_item {l : List Item} {i : Nat} {x : Item} (h : l[i]? = some x) : l.drop i = x :: l.drop (i + 1) := by
  have hi := (List.getElem?_eq_some_iff.1 h).1
  rw [List.drop_eq_getElem_cons hi]
  congr 1
  exact (List.getElem?_eq_some_iff.1 h).2

theorem any_okX {H : Hnd R} (hH : HndOK P H) (C : CfgOK P c) (hN : c.N = N) (hF : WideF F) (ho : orderX c ops.toList = true) (hK : ∀ g' σ' a' w', k σ' = some res → Rel P base w0 S0 N D sv g' σ' a' w' → Q .normal a' w') :
    ∀ (fuel : Nat) {s : Nat} {σ : St} {tr : List TX} {σe : St} {L : Array Bool} {g : Gh} {a : Act} {w : World}, InvX P H sv base w0 S0 N D c ops k res s σ tr σe L g a w → L.toList.count false ≤ fuel → wpAnyIn F n P .any ops Q fuel L a w := by
  have hb : edgesBack 0 ops.toList = true := by
    unfold orderX at ho
    split at ho
    · assumption
    · simp at ho
  intro fuel
  induction fuel with
  | zero =>
    intro s σ tr σe L g a w I hf
    have hall := full_of_count (by omega : L.toList.count false = 0)
    refine ⟨?_, ?_⟩
    · cases hr : Region.ready .any ops L with
      | nil => rfl
      | cons j _ =>
        have hj : j ∈ Region.ready .any ops L := by rw [hr]; simp
        obtain ⟨h1, h2⟩ := getD_false (mem_ready.1 hj).1
        rw [hall j h1] at h2; cases h2
    · obtain ⟨h1, h2⟩ := I.done (fun p hp => hall p (by rw [I.size]; exact hp))
      exact hK _ _ _ _ h1 h2
  | succ fuel ih =>
    intro s σ tr σe L g a w I hf
    refine ⟨fun hr => ?_, fun j hj => ?_⟩
    · obtain ⟨h1, h2⟩ := I.done (full_of_ready I.size hb hr)
      exact hK _ _ _ _ h1 h2
    · obtain ⟨hun, oj, hoj, hall⟩ := mem_ready.1 hj
      obtain ⟨hjL, hun⟩ := getD_false hun
      have hedge : ∀ e ∈ oj.after, bindsAny e = true → L.getD e.on false = true := fun e he hbe => hall e he (by rw [binds_any]; exact hbe)
      have hcnt := count_false hjL hun
      have hclosed' := I.closed.set hoj hedge
      obtain ⟨bj, loj, hij, hbj, hloj⟩ := itemsX_get (c := c) hoj
      have before : ∀ {i : Nat} {x : Item}, i < j → (itemsX c ops.toList)[i]? = some x → clashX c (ops.toList.map (·.dst)) x (oj, bj, loj) = true → L.getD i false = true := fun hij' hx hcl => clash_beforeX ho I.closed hij' hx hij hcl hedge
      have behind : ∀ {i : Nat} {y : Item}, j < i → (itemsX c ops.toList)[i]? = some y → clashX c (ops.toList.map (·.dst)) (oj, bj, loj) y = true → L.getD i false = false := by
        intro i y hji hy hcl
        cases hLi : L.getD i false with
        | false => rfl
        | true =>
          have := clash_beforeX ho I.closed hji hij hy hcl (fun e he hbe => I.closed i y.1 (itemsX_op hy).1 hLi e he hbe)
          rw [hun] at this; cases this
      have hjs : s ≤ j := by
        rcases Nat.lt_or_ge j s with h | h
        · have := I.low j h; rw [hun] at this; cases this
        · exact h
      have hjsz : j < ops.size := by rw [← I.size]; exact hjL
      have htl : s + tr.length ≤ ops.size := by have := I.seg.le; simp [itemsX_len] at this; have := I.sz; omega
      have seg_get : ∀ {q : Nat} {u : Item}, (itemsX c ops.toList)[s + q]? = some u → ((itemsX c ops.toList).drop s)[q]? = some u := fun h => by simpa using h
      have hLs : ∀ {i : Nat}, i ≠ j → (L.setIfInBounds j true).getD i false = L.getD i false := fun h => getD_set_ne false (Ne.symm h)
      have hLj : (L.setIfInBounds j true).getD j false = true := by simp [hjL]
      have itm : ∀ {q : Nat}, q < tr.length → ∃ u, (itemsX c ops.toList)[s + q]? = some u := fun {q} h => by
        have : s + q < (itemsX c ops.toList).length := by rw [itemsX_len]; omega
        exact ⟨_, List.getElem?_eq_getElem this⟩
      by_cases hjt : j < s + tr.length
      · -- within the stretch
        obtain ⟨p, rfl⟩ : ∃ p, j = s + p := ⟨j - s, by omega⟩
        have hp : p < tr.length := by omega
        have hxp : tr[p]? = some tr[p] := by simp [hp]
        obtain ⟨hxd, hdN⟩ := I.seg.dst p _ tr[p] (seg_get hij) hxp
        have rT_get : ∀ {q : Nat} {x : Option Nat × AV}, (rT tr)[q]? = some x → ∃ z, tr[q]? = some z ∧ x = (z.d, z.y) := by
          intro q x hx
          simp only [rT, List.getElem?_map] at hx
          cases h : tr[q]? with
          | none => rw [h] at hx; simp at hx
          | some z => rw [h] at hx; simp at hx; exact ⟨z, rfl, hx.symm⟩
        have mT_get : ∀ {q : Nat} {x : Option Nat × AB}, (mT tr)[q]? = some x → ∃ z, tr[q]? = some z ∧ x = mE z.e := by
          intro q x hx
          simp only [mT, List.getElem?_map] at hx
          cases h : tr[q]? with
          | none => rw [h] at hx; simp at hx
          | some z => rw [h] at hx; simp at hx; exact ⟨z, rfl, hx.symm⟩
        have tr_dst : ∀ {q : Nat} {x : Option Nat × AV}, (rT tr)[q]? = some x → ∃ u, (itemsX c ops.toList)[s + q]? = some u ∧ x.1 = u.1.dst := by
          intro q x hx
          obtain ⟨z, hz, rfl⟩ := rT_get hx
          have hlt := (List.getElem?_eq_some_iff.1 hz).1
          obtain ⟨u, hu⟩ := itm hlt
          exact ⟨u, hu, (I.seg.dst q u z (seg_get hu) hz).1⟩
        have agree : ∀ t, t ∈ looksOf (ops.toList.map (·.dst)) oj → look t (gL (fun i => L.getD i false) s (rT tr) σ.regs) = look t (gF ((rT tr).take p) σ.regs) := by
          intro t ht
          refine look_gL rfl fun q x hq hxt => ?_
          obtain ⟨u, hu, hxu⟩ := tr_dst hq
          rw [hxu] at hxt
          constructor
          · intro hqp
            exact before (by omega) hu (clX (reg_l hxt ht))
          · intro hLq
            rcases Nat.lt_or_ge q p with h | h
            · exact h
            · exfalso
              rcases Nat.lt_or_ge p q with h' | h'
              · rw [behind (by omega : s + p < s + q) hu (clX (reg_r hxt ht))] at hLq; cases hLq
              · have : q = p := by omega
                subst this
                rw [hun] at hLq; cases hLq
        -- a block that is turned, in the list
        have eff_get : ∀ {q : Nat} {z : TX}, tr[q]? = some z → z.e.isSome = true → ∃ u, (itemsX c ops.toList)[s + q]? = some u ∧ isQ c u.1.op = false := by
          intro q z hz he
          have hlt := (List.getElem?_eq_some_iff.1 hz).1
          obtain ⟨u, hu⟩ := itm hlt
          refine ⟨u, hu, ?_⟩
          cases hq : isQ c u.1.op with
          | false => rfl
          | true =>
            have := (I.seg.stepQ q u z (seg_get hu) hz hq).1
            rw [this] at he; cases he
        -- the registers, one operation on
        have regs1 : ∀ {t : Nat}, look t (gL (fun i => (L.setIfInBounds (s + p) true).getD i false) s (rT tr) σ.regs) = if oj.dst = some t then some tr[p].y else look t (gL (fun i => L.getD i false) s (rT tr) σ.regs) := by
          intro t
          split
          · rename_i e
            refine look_gL_at (p := p) ?_ hLj fun q x' hpq hx' hxt => ?_
            · simp only [rT, List.getElem?_map, hxp, Option.map_some, hxd, e]
            · obtain ⟨u, hu, hxu⟩ := tr_dst hx'
              rw [hxu] at hxt
              rw [hLs (by omega)]
              exact behind (by omega) hu (clX (reg_d e hxt))
          · rename_i e
            refine look_gL_eq rfl fun q x' hx' hxt => hLs fun e' => e ?_
            have e9 : q = p := by omega
            subst e9
            obtain ⟨z, hz, rfl⟩ := rT_get hx'
            rw [hxp] at hz
            cases hz
            rw [← hxd]; exact hxt
        have next : ∀ {g1 : Gh} {a1 : Act} {w1 : World}, Rel P base w0 S0 N D sv g1 (stX (fun i => (L.setIfInBounds (s + p) true).getD i false) s tr σ) a1 w1 → wpAnyIn F n P .any ops Q fuel (L.setIfInBounds (s + p) true) a1 w1 := by
          intro g1 a1 w1 hrel
          refine ih (s := s) (σ := σ) (tr := tr) (σe := σe) (g := g1) ⟨by simp [I.size], hclosed', I.sz, fun q hq => getD_set_true (I.low q hq), fun q hq => ?_, hrel, I.seg⟩ (by omega)
          by_cases e : q = s + p
          · omega
          · rw [hLs e] at hq; exact I.high q hq
        cases hq : isQ c oj.op with
        | true =>
          obtain ⟨hxe, r, hr, hst⟩ := I.seg.stepQ p _ tr[p] (seg_get hij) hxp hq
          replace hst : StepQ c (ops.toList.map (·.dst)) oj r (gF ((mT tr).take p) σ.mem) tr[p].y := hst
          have hsameM : gL (fun i => (L.setIfInBounds (s + p) true).getD i false) s (mT tr) σ.mem = gL (fun i => L.getD i false) s (mT tr) σ.mem := by
            refine gL_same fun q x d hx hd => hLs fun e => ?_
            have e9 : q = p := by omega
            subst e9
            obtain ⟨z, hz, rfl⟩ := mT_get hx
            rw [hxp] at hz; cases hz
            rw [hxe] at hd; cases hd
          have hsameU : upL (fun i => (L.setIfInBounds (s + p) true).getD i false) s (uT tr) σ.nx = upL (fun i => L.getD i false) s (uT tr) σ.nx := by
            refine upL_same fun q hx => hLs fun e => ?_
            have e9 : q = p := by omega
            subst e9
            simp only [uT, List.getElem?_map, hxp, Option.map_some, hxe, uE] at hx
            cases hx
          have upd : ∀ {g1 : Gh} {w1 : World} {v : Value}, Rel P base w0 S0 N D sv g1 (stX (fun i => L.getD i false) s tr σ) a w1 → AVR g1 w1 tr[p].y v → wpAnyIn F n P .any ops Q fuel (L.setIfInBounds (s + p) true) (a.put oj.dst v) w1 := by
            intro g1 w1 v hrel hv
            refine next (g1 := g1) ?_
            have e : stX (fun i => (L.setIfInBounds (s + p) true).getD i false) s tr σ = { regs := gL (fun i => (L.setIfInBounds (s + p) true).getD i false) s (rT tr) σ.regs, mem := (stX (fun i => L.getD i false) s tr σ).mem, nx := (stX (fun i => L.getD i false) s tr σ).nx } := by
              simp only [stX, hsameM, hsameU]
            rw [e]
            refine { hrel with regs := fun t x hx => ?_, size := ?_, dfr := ?_ }
            · simp only [regs1] at hx
              split at hx
              · rename_i e
                cases hx
                rw [e, vof_put (hdN t e).2 (by rw [hrel.size, ← hN]; exact (hdN t e).1), if_pos rfl]
                exact hv
              · rename_i e
                have h0 := hrel.regs t x hx
                cases hd : oj.dst with
                | none => exact h0
                | some d =>
                  rw [vof_put (hdN d hd).2 (by rw [hrel.size, ← hN]; exact (hdN d hd).1), if_neg (fun e' => e (by rw [hd, e']))]
                  exact h0
            · have := hrel.size
              cases hd : oj.dst <;> simpa [Act.put] using this
            · have := hrel.dfr
              cases hd : oj.dst <;> simpa [Act.put] using this
          have ragree : ∀ t, t ∈ looksOf (ops.toList.map (·.dst)) oj → look t (stX (fun i => L.getD i false) s tr σ).regs = look t r := fun t ht => (agree t ht).trans (hr t).symm
          have htouch : touch r oj = touch (gF ((rT tr).take p) σ.regs) oj := touch_same fun t _ => hr t
          have hmem : ∀ (y : AV), evalQ c r (gF ((mT tr).take p) σ.mem) oj some = some y → evalQ c r (gL (fun i => L.getD i false) s (mT tr) σ.mem) oj some = some y := by
            intro y hy
            rw [← hy]
            refine (evalQ_congr (fun i hi => ?_) (fun i => ?_)).symm
            · rw [htouch] at hi
              refine (look_gL rfl fun q x hx hxi => ?_).symm
              obtain ⟨z, hz, rfl⟩ := mT_get hx
              have hzs : ∃ b up, z.e = some (i, b, up) := by
                cases he : z.e with
                | none => rw [he] at hxi; cases hxi
                | some q => obtain ⟨i', b, up⟩ := q; rw [he] at hxi; simp only [mE, Option.some.injEq] at hxi; subst hxi; exact ⟨b, up, rfl⟩
              obtain ⟨b, up, hze⟩ := hzs
              have hsome : z.e.isSome = true := by rw [hze]; rfl
              obtain ⟨u, hu, huq⟩ := eff_get hz hsome
              constructor
              · intro hqp
                rcases I.seg.un2 p q _ z (seg_get hij) hp hz hqp hq hsome with h | h
                · exact bit_before hb I.closed hij h hedge
                · rw [h] at hi; simp at hi
              · intro hLq
                rcases Nat.lt_or_ge q p with h | h
                · exact h
                · exfalso
                  have hne : q ≠ p := by
                    intro e; subst e
                    rw [hxp] at hz; cases hz
                    rw [hxe] at hze; cases hze
                  rcases I.seg.un1 p q _ u z i b up (seg_get hij) (seg_get hu) hz (by omega) hq hze with h | h
                  · have := bit_before hb I.closed hu h (fun e he hbe => I.closed (s + q) u.1 (itemsX_op hu).1 hLq e he hbe)
                    rw [hun] at this; cases this
                  · exact h hi
            · rw [gF_take_gL, capIn_gL_self I.seg.plain, capIn_gL_self I.seg.plain]
          have run : evalQ c r (gF ((mT tr).take p) σ.mem) oj some = some tr[p].y → oj.wpIn F n P a w (wpAnyIn F n P .any ops Q fuel (L.setIfInBounds (s + p) true)) Q := by
            intro he
            have E : Env P c g r (stX (fun i => L.getD i false) s tr σ).mem oj.op.operands.toList a w := { ev := env_ev (fun t ht x hx => I.rel.regs t x (by rw [ragree t (looks_of ht _)]; exact hx)) I.rel.glo C.glb, glo := I.rel.glo, mem := I.rel.mem, ts := C.ts, sp := C.sp, S := I.rel.S, blk := I.rel.blk, eqs := C.eqs }
            obtain ⟨y, hy, hqr⟩ := evalQ_ok (n := n) E hF (fun _ h => h) (hmem _ he)
            cases hy
            exact hqr _ _ fun v w' hbw hv => upd (I.rel.grow hbw) hv
          have skip : tr[p].y = .undef → wpAnyIn F n P .any ops Q fuel (L.setIfInBounds (s + p) true) (a.put oj.dst undef) w := fun he => upd I.rel (by rw [he]; rfl)
          unfold wpOpIn
          simp only [hoj]
          rcases hst with ⟨hg, he⟩ | ⟨i, want, d, hg, hd, hst⟩
          · rw [if_pos (by simp [Region.wanted, hg])]
            exact run he
          · have hag := ragree d (looks_guard hg hd)
            rcases hst with ⟨b, hb', hdN', hst⟩ | ⟨hu, he⟩
            · have hbv : a.tmps.getD d undef = .bool b := by
                have := I.rel.regs d _ (by rw [hag]; exact (lookT_some hb').2)
                rw [vof_lt (lookT_some hb').1] at this
                generalize a.tmps.getD d undef = u at this
                cases this; rfl
              have hwant : Region.wanted oj (yielded ops a.tmps) = (b == want) := by
                simp only [Region.wanted, hg, yielded_eq hd (by rw [I.rel.size, ← hN]; exact hdN'), hbv]
                cases b <;> cases want <;> rfl
              rcases hst with ⟨rfl, he⟩ | ⟨hne, he⟩
              · rw [if_pos (by rw [hwant]; simp)]
                exact run he
              · rw [if_neg (by rw [hwant]; simpa using hne)]
                exact ⟨about_wide hF, skip he⟩
            · have huv : a.tmps.getD d undef = undef := by
                have := I.rel.regs d .undef (by rw [hag]; exact (lookT_some hu).2)
                rw [vof_lt (lookT_some hu).1] at this
                exact this
              have hy : yielded ops a.tmps i = none := by
                by_cases hlt : d < a.tmps.size
                · rw [yielded_eq hd hlt, huv]; rfl
                · have h1 : (ops[i]?).bind (·.dst) = some d := by
                    simp only [List.getElem?_map, Array.getElem?_toList] at hd
                    cases h : ops[i]? with
                    | none => rw [h] at hd; simp at hd
                    | some o => rw [h] at hd; simp at hd; simpa using hd
                  unfold yielded
                  rw [h1]
                  simp [hlt]
              rw [if_neg (by simp [Region.wanted, hg, hy])]
              exact ⟨about_wide hF, skip he⟩
        | false =>
          obtain ⟨hlo, id, b, up, r, hxe, hr, heff⟩ := I.seg.stepW p _ tr[p] (seg_get hij) hxp hq
          simp only at hlo
          obtain ⟨hguard, -⟩ := hloj hlo
          -- the blocks turned before are those of the text's order
          have hord : ∀ q z, tr[q]? = some z → z.e.isSome = true → (q < p ↔ L.getD (s + q) false = true) := by
            intro q z hz he
            obtain ⟨u, hu, huq⟩ := eff_get hz he
            constructor
            · intro hqp
              exact before (by omega) hu (clX_b (.inr (.inr (by simp [huq, hq]))))
            · intro hLq
              rcases Nat.lt_or_ge q p with h | h
              · exact h
              · exfalso
                rcases Nat.lt_or_ge p q with h' | h'
                · rw [behind (by omega : s + p < s + q) hu (clX_b (.inr (.inr (by simp [huq, hq]))))] at hLq; cases hLq
                · have : q = p := by omega
                  subst this
                  rw [hun] at hLq; cases hLq
          have hsome : ∀ {z : TX} {d : Nat}, (mE z.e).1 = some d → z.e.isSome = true := by
            intro z d h
            cases he : z.e with
            | none => rw [he] at h; cases h
            | some q => rfl
          have husome : ∀ {z : TX}, uE z.e = true → z.e.isSome = true := by
            intro z h
            cases he : z.e with
            | none => rw [he] at h; cases h
            | some q => rfl
          have uT_get : ∀ {q : Nat}, (uT tr)[q]? = some true → ∃ z, tr[q]? = some z ∧ uE z.e = true := by
            intro q hx
            simp only [uT, List.getElem?_map] at hx
            cases h : tr[q]? with
            | none => rw [h] at hx; simp at hx
            | some z => rw [h] at hx; simp at hx; exact ⟨z, rfl, hx⟩
          have hM : gL (fun i => L.getD i false) s (mT tr) σ.mem = gF ((mT tr).take p) σ.mem := gL_list fun q x d hx hd => by
            obtain ⟨z, hz, rfl⟩ := mT_get hx
            exact hord q z hz (hsome hd)
          have hU : upL (fun i => L.getD i false) s (uT tr) σ.nx = upF ((uT tr).take p) σ.nx := upL_list fun q hx => by
            obtain ⟨z, hz, h1⟩ := uT_get hx
            exact hord q z hz (husome h1)
          have hord1 : ∀ q z, tr[q]? = some z → z.e.isSome = true → (q < p + 1 ↔ (L.setIfInBounds (s + p) true).getD (s + q) false = true) := by
            intro q z hz he
            by_cases e : q = p
            · subst e; simp [hLj]
            · rw [hLs (by omega), ← hord q z hz he]; omega
          have hM1 : gL (fun i => (L.setIfInBounds (s + p) true).getD i false) s (mT tr) σ.mem = (id, b) :: gF ((mT tr).take p) σ.mem := by
            have h1 : gL (fun i => (L.setIfInBounds (s + p) true).getD i false) s (mT tr) σ.mem = gF ((mT tr).take (p + 1)) σ.mem := gL_list fun q x d hx hd => by
              obtain ⟨z, hz, rfl⟩ := mT_get hx
              exact hord1 q z hz (hsome hd)
            rw [h1, gF_take_succ (x := (some id, b)) (by simp only [mT, List.getElem?_map, hxp, Option.map_some, hxe, mE])]
            rfl
          have hU1 : upL (fun i => (L.setIfInBounds (s + p) true).getD i false) s (uT tr) σ.nx = nxOf up (upF ((uT tr).take p) σ.nx) := by
            have h1 : upL (fun i => (L.setIfInBounds (s + p) true).getD i false) s (uT tr) σ.nx = upF ((uT tr).take (p + 1)) σ.nx := upL_list fun q hx => by
              obtain ⟨z, hz, h1⟩ := uT_get hx
              exact hord1 q z hz (husome h1)
            rw [h1, upF_take_succ (x := up) (by simp only [uT, List.getElem?_map, hxp, Option.map_some, hxe, uE])]
            cases up <;> rfl
          have heff' : effT c oj (stX (fun i => L.getD i false) s tr σ).regs (stX (fun i => L.getD i false) s tr σ).mem (stX (fun i => L.getD i false) s tr σ).nx = some (tr[p].y, id, b, up) := by
            rw [← heff]
            simp only [stX, hM, hU]
            exact effW_same fun t ht => (agree t (looks_of ht _)).trans (hr t).symm
          let σ1 : St := { regs := pushD oj.dst tr[p].y (stX (fun i => L.getD i false) s tr σ).regs, mem := (id, b) :: (stX (fun i => L.getD i false) s tr σ).mem, nx := nxOf up (stX (fun i => L.getD i false) s tr σ).nx }
          have hstep : stepOp H c true oj (stX (fun i => L.getD i false) s tr σ) (fun σ' => open Classical in if σ' = σ1 then some res else none) = some res := by
            rw [stepOp_W hq heff', put_eq hdN]
            exact if_pos rfl
          unfold wpOpIn
          simp only [hoj]
          refine guarded_ok hH I.rel C hN hF (fun g1 σ' a1 w1 hk h1 => ?_) (dr := true) (kk := fun σ' => open Classical in if σ' = σ1 then some res else none) (by rw [hguard]; exact hstep)
          have e1 : σ' = σ1 := by
            by_cases e : σ' = σ1
            · exact e
            · simp only [if_neg e] at hk; cases hk
          subst e1
          refine next (h1.look_regs (fun t => ?_) ?_ ?_)
          · simp only [stX, regs1, σ1, look_pushD]
          · simp only [stX, hM1, σ1, hM]
          · simp only [stX, hU1, σ1, hU]
      · -- the operation behind the stretch
        have hje : j = s + tr.length := by
          rcases Nat.lt_or_ge (s + tr.length) j with h | h
          · exfalso
            obtain ⟨u, hu⟩ : ∃ u, (itemsX c ops.toList)[s + tr.length]? = some u := by
              have : s + tr.length < (itemsX c ops.toList).length := by rw [itemsX_len]; omega
              exact ⟨_, List.getElem?_eq_getElem this⟩
            obtain ⟨h1, h2⟩ := I.seg.head u (seg_get hu)
            have := before h hu (clX_b (.inl (by simp [h1, h2])))
            have := I.high _ this
            omega
          · omega
        obtain ⟨hnq, hnl⟩ := I.seg.head _ (seg_get (by rw [← hje]; exact hij))
        simp only at hnq hnl
        have hallL : ∀ p, p < j → L.getD p false = true := fun p hp => by
          obtain ⟨u, hu⟩ : ∃ u, (itemsX c ops.toList)[p]? = some u := by
            have : p < (itemsX c ops.toList).length := by rw [itemsX_len]; omega
            exact ⟨_, List.getElem?_eq_getElem this⟩
          exact before hp hu (clX_b (.inr (.inl (by simp [hnq, hnl]))))
        have hrel : Rel P base w0 S0 N D sv g σe a w := I.full fun p hp => hallL p (by omega)
        obtain ⟨T, U, hrest⟩ := I.seg.rest
        rw [List.drop_drop, ← hje, drop_item hij] at hrest
        simp only [runX, hnq, hnl] at hrest
        rw [runOps_cons] at hrest
        unfold wpOpIn
        simp only [hoj]
        refine guarded_ok hH hrel C hN hF (fun g1 σ1 a1 w1 hk h1 => ?_) hrest
        simp only [runOps] at hk
        obtain ⟨tr1, σe1, S1, -, -⟩ := mkSegX _ _ _ _ _ hk
        refine ih (s := j + 1) (σ := σ1) (tr := tr1) (σe := σe1) (g := g1) ⟨by simp [I.size], hclosed', by omega, fun q hq => ?_, fun q hq => ?_, ?_, S1⟩ (by omega)
        · by_cases e : q = j
          · subst e; exact hLj
          · exact getD_set_true (hallL q (by omega))
        · by_cases e : q = j
          · omega
          · rw [hLs e] at hq; have := I.high q hq; omega
        · have none_done : ∀ q, (L.setIfInBounds j true).getD (j + 1 + q) false = true → False := by
            intro q hq
            rw [hLs (by omega)] at hq
            have := I.high _ hq
            omega
          refine h1.look_regs (fun t => ?_) ?_ ?_
          · simp only [stX]
            rw [look_gL (p := 0) (r' := σ1.regs) rfl (fun q x' _ _ => ⟨fun h => by omega, fun h => (none_done q h).elim⟩)]
            simp [gF]
          · simp only [stX]
            rw [gL_list (p := 0) (fun q x' d _ _ => ⟨fun h => by omega, fun h => (none_done q h).elim⟩)]
            simp [gF]
          · simp only [stX]
            rw [upL_list (p := 0) (fun q _ => ⟨fun h => by omega, fun h => (none_done q h).elim⟩)]
            simp [upF]

theorem regionX_ok {H : Hnd R} (hH : HndOK P H) (C : CfgOK P c) (hN : c.N = N) (hF : WideF F) (hm : P.follows .mixedOrders = true) (ho : orderX c ops.toList = true) (hK : ∀ g' σ' a' w', k σ' = some res → Rel P base w0 S0 N D sv g' σ' a' w' → Q .normal a' w') {id : Nat} (h : Rel P base w0 S0 N D sv g σ a w)
    (hs : runX H c (ops.toList.map (·.dst)) (itemsX c ops.toList) 0 [] [] σ k = some res) : (Code.region id ops true).wpIn F n P Q a w := by
  obtain ⟨tr, σe, S, -, -⟩ := mkSegX _ _ _ _ _ hs
  have hno : ∀ q, (Array.replicate ops.size false).getD (0 + q) false = true → False := by
    intro q hq
    by_cases h : q < ops.size <;> simp [h] at hq
  refine wpIn_region_any hm (any_okX hH C hN hF ho hK ops.size (s := 0) (σ := σ) (tr := tr) (σe := σe) (g := g) ⟨by simp, fun p o _ hp => ?_, Nat.zero_le _, fun p hp => by omega, fun p hp => ?_, ?_, by simpa using S⟩ (by simp [List.count_replicate]))
  · exact (hno p (by simpa using hp)).elim
  · exact (hno p (by simpa using hp)).elim
  · refine h.drawn.look_regs (fun t => ?_) ?_ ?_
    · simp only [stX]
      rw [look_gL (p := 0) (r' := σ.regs) rfl (fun q x' _ _ => ⟨fun h => by omega, fun h => (hno q h).elim⟩)]
      simp [gF]
    · simp only [stX]
      rw [gL_list (p := 0) (fun q x' d _ _ => ⟨fun h => by omega, fun h => (hno q h).elim⟩)]
      simp [gF]
    · simp only [stX]
      rw [upL_list (p := 0) (fun q _ => ⟨fun h => by omega, fun h => (hno q h).elim⟩)]
      simp [upF]
end
end Go.Eng
/- THE ENGINE, soundness, part 20: code. -/
set_option linter.unusedSimpArgs false
set_option linter.unusedVariables false
set_option linter.unnecessarySimpa false
namespace Go.Eng
open Go Go.RowKit

section
variable {P : Program} [GlobL P] {F : Fence} {n : Nat} {c : Cfg} {g g' : Gh} {a : Act} {w w' : World} {R : Type} {res : R}
variable {base : Nat} {w0 : World} {S0 : Nat → Prop} {N : Nat} {D : Wt} {sv : Nat → Value} {σ : St}

theorem wpIn_scope {c : Code} {Q : Exit → Act → World → Prop} (h : c.wpIn F n P (Exit.noGoto Q) a w) : (Code.scope c).wpIn F n P Q a w := by
  intro b k cs hro hb hr
  have h0 : (lone (b.atR a (.code (.scope c) :: k)) cs w).fenced P F := fenced_calm hb hr rfl
  have st : step P (lone (b.atR a (.code (.scope c) :: k)) cs w) = .next (lone (b.atR a (.code c :: .inScope c :: k)) cs w) := step_lone_go (by simp [stepG, stepG.exec, Frame.atR])
  have st2 : ∀ a w, step P (lone (b.atR a (.inScope c :: k)) cs w) = .next (lone (b.atR a k) cs w) := fun a w => step_lone_go (by simp [stepG, stepG.exec, Frame.atR])
  obtain ⟨e, a₁, w₁, hq, harr⟩ := h b (.inScope c :: k) cs hro hb hr
  have hx : ∀ id, exitTo id (.inScope c :: k) = exitTo id k := fun id => by simp [exitTo]
  cases e with
  | normal => exact ⟨.normal, a₁, w₁, hq, .head h0 st (StepsIn.trans harr (.one (fenced_calm hb hr rfl) (st2 _ _)))⟩
  | exit id => exact ⟨.exit id, a₁, w₁, hq, fun k' hk => .head h0 st (harr.1 k' (by rw [hx]; exact hk)), fun hr' hk => let ⟨k₁, h1, h2⟩ := harr.2 hr' (by rw [hx]; exact hk); ⟨k₁, h1, .head h0 st h2⟩⟩
  | goto l => exact hq.elim
  | ret => exact ⟨_, a₁, w₁, hq, .of_steps (.one h0 st) harr⟩
  | panic ch => exact ⟨_, a₁, w₁, hq, .of_steps (.one h0 st) harr⟩
  | outgrown => exact ⟨_, a₁, w₁, hq, .of_steps (.one h0 st) harr⟩

def exOf : Ex → Exit
  | .normal => .normal
  | .exit i => .exit i
  | .goto l => .goto l
  | .ret => .ret

/-- The bodies of code's loops. -/
def loopsOf : Code → List Code
  | .seq x y => loopsOf x ++ loopsOf y
  | .cond _ x y => loopsOf x ++ loopsOf y
  | .block _ x => loopsOf x
  | .loop b => b :: loopsOf b
  | .scope b => loopsOf b
  | _ => []

/-- What is said of a loop: 'l' is the loop from a state 'st v'; 'sh' reads 'v' off a state. -/
structure LoopOK (H : Hnd R) (c : Cfg) (lp : List (Nat × Hd R)) (b : Code) (V : Type) (st : V → St) (sh : St → Option V) (l : Nat → V → (Ex → St → Option R) → Option R) (h : Hd R) : Prop where
  hd : ∃ q, ∀ σ K, h σ K = ocase (sh σ) fun v => l q v K
  eq : ∀ σ v, sh σ = some v → σ = st v
  zero : ∀ v K, l 0 v K = none
  succ : ∀ q v K, l (q + 1) v K = run H c lp b (st v) fun e σ' => match e with
    | .normal => keepIf (look (firstRegion b) c.loops) σ' fun σ'' => ocase (sh σ'') fun v => l q v K
    | .exit i => K (.exit i) σ'
    | .goto l => K (.goto l) σ'
    | .ret => K .ret σ'

/-- The ranges over functions in code. -/
def rngsOf : Code → List (Array Tmp × Code × Code)
  | .rangeFunc _ ps as body => [(ps, as, body)]
  | .seq x y => rngsOf x ++ rngsOf y
  | .cond _ x y => rngsOf x ++ rngsOf y
  | .block _ x => rngsOf x
  | .loop b => rngsOf b
  | .scope b => rngsOf b
  | _ => []
/-- A function's ranges over functions are found by their rounds' first regions. -/
def RngsOK (P : Program) (c : Cfg) (code : Code) : Prop := c.rnd = false → ∀ x, x ∈ rngsOf code → rngOf P c.fid (firstRegion x.2.2) = some x

/-- What is said of loops holds. -/
def LoopsOK (H : Hnd R) (c : Cfg) (lp : List (Nat × Hd R)) (code : Code) : Prop :=
  ∀ b, b ∈ loopsOf code → ∀ h, look (firstRegion b) lp = some h → ∃ V st sh l, LoopOK H c lp b V st sh l h

theorem LoopsOK.sub {H : Hnd R} {lp : List (Nat × Hd R)} {x y : Code} (h : LoopsOK H c lp x) (hs : ∀ b, b ∈ loopsOf y → b ∈ loopsOf x) : LoopsOK H c lp y := fun b hb => h b (hs b hb)

theorem exists_least {p : Nat → Prop} (h : ∃ n, p n) : ∃ m, p m ∧ ∀ q, p q → m ≤ q := by
  obtain ⟨n, hn⟩ := h
  induction n using Nat.strongRecOn with
  | _ n ih =>
    by_cases h : ∃ q, q < n ∧ p q
    · obtain ⟨q, h1, h2⟩ := h; exact ih q h1 h2
    · refine ⟨n, hn, fun q hq => ?_⟩
      rcases Nat.lt_or_ge q n with h' | h'
      · exact (h ⟨q, h', hq⟩).elim
      · exact h'

open Classical in
noncomputable def least (p : Nat → Prop) : Nat := if h : ∃ n, p n then Classical.choose (exists_least h) else 0
theorem least_spec {p : Nat → Prop} (h : ∃ n, p n) : p (least p) := by
  unfold least
  rw [dif_pos h]
  exact (Classical.choose_spec (exists_least h)).1
theorem least_le {p : Nat → Prop} {q : Nat} (h : p q) : least p ≤ q := by
  unfold least
  rw [dif_pos ⟨q, h⟩]
  exact (Classical.choose_spec (exists_least ⟨q, h⟩)).2 q h

theorem RngsOK.sub {x y : Code} (h : RngsOK P c x) (hs : ∀ b, b ∈ rngsOf y → b ∈ rngsOf x) : RngsOK P c y := fun hr b hb => h hr b (hs b hb)

theorem mkOf_inj : ∀ {a b : List Nat}, a.map mkOf = b.map mkOf → a = b
  | [], [], _ => rfl
  | [], _ :: _, h => by simp at h
  | _ :: _, [], h => by simp at h
  | x :: a, y :: b, h => by
    simp only [List.map_cons, List.cons.injEq] at h
    have h1 : x = y := by have := h.1; simp [mkOf] at this; exact this
    rw [h1, mkOf_inj h.2]

/-- A mark more. -/
theorem Rel.mark (h : Rel P base w0 S0 N D sv g σ a w) {r : Nat} (h1 : base ≤ r) (h2 : w.heap[r]? = some (.deferred (some []))) (h3 : ¬ g.S r) (h4 : ∀ rs : List Nat, a.defers = rs.map mkOf → r ∉ rs ++ D.marks) : Rel P base w0 S0 N D sv g σ { a with defers := mkOf r :: a.defers } w := by
  refine { h with regs := h.regs, size := h.size, dfr := ?_ }
  obtain ⟨rs, e1, e2, e3⟩ := h.dfr
  refine ⟨r :: rs, by simp [e1], ?_, fun q hq => ?_⟩
  · rw [List.cons_append, List.nodup_cons]
    exact ⟨h4 rs e1, e2⟩
  · rw [List.cons_append] at hq
    rcases List.mem_cons.1 hq with rfl | hq
    · exact ⟨h1, h2, h3⟩
    · exact e3 q hq

/-- Where a range over a function lies, said beforehand. -/
theorem Rel.say_lv (h : Rel P base w0 S0 N D sv g σ a w) {lv : Nat → Option Nat} (hl : ∀ id, id < σ.nx → lv id = D.lv id) : Rel P base w0 S0 N ⟨D.marks, lv⟩ sv g σ a w :=
  { h with regs := h.regs, dfr := h.dfr, lp := fun id x b hx hl1 hm => (h.lp id x b hx hl1 hm).trans (hl id (h.nx id b hm)).symm }
theorem Rel.unsay_lv {lv : Nat → Option Nat} {id : Nat} (h : Rel P base w0 S0 N ⟨D.marks, lv⟩ sv g σ a w) (hl : ∀ i, i ≠ id → lv i = D.lv i) (hg : look id σ.mem = some .gone) : Rel P base w0 S0 N D sv g σ a w :=
  { h with regs := h.regs, dfr := h.dfr, lp := fun i x b hx hl1 hm => (h.lp i x b hx hl1 hm).trans (hl i fun e => by subst e; rw [hg] at hx; cases hx; cases hl1) }

/-- A block of a range over a function is written. -/
theorem Rel.setLoop (h : Rel P base w0 S0 N D sv g σ a w) {id : Nat} {x y : AB} {b : Gb} {q : Nat} {ob ob' : Obj} (hl : look id σ.mem = some x) (hlx : x.isLoop = true) (hlive : x.live = true) (hb : g.m id = some b) (hq : b.blk = some q) (hh : w.heap[q]? = some ob)
    (hB : Holds g w (w.putObj q ob') → (w.putObj q ob').heap[q]? = some ob' → BR P g (w.putObj q ob') b y) : Rel P base w0 S0 N D sv g (σ.set id y) a (w.putObj q ob') := by
  have hown := h.own id x b q hl hlive hb hq
  have hlt : q < w.heap.size := (Array.getElem?_eq_some_iff.1 hh).1
  refine h.set (w' := w.putObj q ob') hl hlive hb hq (by simp) (fun j hj => World.putObj_heap_other hj) ⟨rfl, rfl, rfl⟩ (fun hH => ?_) (.inr hlx)
  exact hB (fun j hj => World.putObj_heap_other (fun e => by subst e; exact hown.2 hj)) (World.putObj_heap_same hlt)

theorem look_pickRegs {t : Nat} {x : AV} {r : Regs} : ∀ {l : List Nat}, look t (pickRegs r l) = some x → t < OFF ∧ look t r = some x
  | [], h => by simp [pickRegs, look] at h
  | i :: l, h => by
    simp only [pickRegs] at h
    split at h
    · rename_i y hy
      rw [look_cons] at h
      split at h
      · rename_i e
        subst e
        cases h
        exact lookT_some hy
      · exact look_pickRegs h
    · exact look_pickRegs h
theorem look_saved {t rid : Nat} {x : AV} {r : Regs} (h : look t (saved c rid r) = some x) : t < OFF ∧ look t r = some x := by
  unfold saved at h
  split at h
  · exact look_pickRegs h
  · simp [look] at h

/-- What a range over a function has come to. -/
theorem overW_ok (C : CfgOK P c) (hN : c.N = N) {K : Ex → St → Option R} {Q : Exit → Act → World → Prop} {id l : Nat} {lv : Nat → Option Nat} (hlv : ∀ i, i ≠ id → lv i = D.lv i) (hl : lv id = some l) (h : Rel P base w0 S0 N ⟨D.marks, lv⟩ sv g σ a w)
    (hK : ∀ e g' σ' a' w', K e σ' = some res → Rel P base w0 S0 N D sv g' σ' a' w' → Q (exOf e) a' w') (hs : overW c id σ K = some res) :
    ∃ jump w4, (Instr.endLoop l).run P w = .ok jump w4 ∧ (match jump with | none => Q .normal a w4 | some c => c.wpIn F n P Q a w4) := by
  unfold overW at hs
  split at hs
  · rename_i nn f r regs hlk
    obtain ⟨b, hb, q, rc, hq, hh, h1, h2, h3, h4, h5⟩ := h.mem id _ hlk
    have e : b.blk = lv id := h.lp id _ b hlk rfl hb
    rw [hq, hl] at e; cases e
    obtain ⟨st, pend, fnn, tm, prm, asg, bd, df⟩ := rc
    obtain rfl : pend = none := h2 rfl
    refine ⟨none, _, run_endLoop hh (by rw [h1]; simp), ?_⟩
    have hR := h.setLoop (y := .gone) (ob' := .loop ⟨.exhausted, none, fnn, tm, prm, asg, bd, df⟩) hlk rfl rfl hb hq hh (fun _ _ => trivial)
    exact hK .normal _ _ _ _ hs (hR.unsay_lv hlv (by simp [St.set, look_cons]))
  · rename_i i hlk
    obtain ⟨b, hb, q, rc, hq, hh, h1, h2⟩ := h.mem id _ hlk
    have e : b.blk = lv id := h.lp id _ b hlk rfl hb
    rw [hq, hl] at e; cases e
    obtain ⟨st, pend, fnn, tm, prm, asg, bd, df⟩ := rc
    obtain rfl : pend = some (.exit i) := h2
    refine ⟨some (.exit i), _, run_endLoop hh (by rw [h1]; simp), ?_⟩
    have hR := h.setLoop (y := .gone) (ob' := .loop ⟨.exhausted, some (.exit i), fnn, tm, prm, asg, bd, df⟩) hlk rfl rfl hb hq hh (fun _ _ => trivial)
    obtain ⟨g1, σ1, hs1, hr1⟩ := keepIf_ok hs (hR.unsay_lv hlv (by simp [St.set, look_cons]))
    exact wpIn_exit (hK (.exit i) _ _ _ _ hs1 hr1)
  · rename_i hlk
    obtain ⟨b, hb, q, rc, hq, hh, h1, h2⟩ := h.mem id _ hlk
    have e : b.blk = lv id := h.lp id _ b hlk rfl hb
    rw [hq, hl] at e; cases e
    obtain ⟨st, pend, fnn, tm, prm, asg, bd, df⟩ := rc
    obtain rfl : pend = some .ret := h2
    refine ⟨some .ret, _, run_endLoop hh (by rw [h1]; simp), ?_⟩
    have hR := h.setLoop (y := .gone) (ob' := .loop ⟨.exhausted, some .ret, fnn, tm, prm, asg, bd, df⟩) hlk rfl rfl hb hq hh (fun _ _ => trivial)
    obtain ⟨g1, σ1, hs1, hr1⟩ := keepIf_ok hs (hR.unsay_lv hlv (by simp [St.set, look_cons]))
    exact wpIn_ret (hK .ret _ _ _ _ hs1 hr1)
  · simp at hs

theorem rangeW_ok {H : Hnd R} (hH : HndOK P H) (C : CfgOK P c) (hN : c.N = N) (hF : WideF F) {K : Ex → St → Option R} {Q : Exit → Act → World → Prop} {f : Operand} {ps : Array Tmp} {assign body : Code} (hrg : RngsOK P c (.rangeFunc f ps assign body)) (hrd : c.rnd = false → F.round = none) (h : Rel P base w0 S0 N D sv g σ a w)
    (hK : ∀ e g' σ' a' w', K e σ' = some res → Rel P base w0 S0 N D sv g' σ' a' w' → Q (exOf e) a' w') (hs : rangeW H c f body σ K = some res) : (Code.rangeFunc f ps assign body).wpIn F n P Q a w := by
  have E := h.env C [f]
  unfold rangeW at hs
  split at hs
  · simp at hs
  rename_i hrnd
  have hro := hrd hrnd
  have hcode : rngOf P c.fid (firstRegion body) = some (ps, assign, body) := hrg hrnd (ps, assign, body) (by simp [rngsOf])
  -- the two blocks
  have hen : ∀ fn, (Instr.enterLoop fn a.tmps ps assign body F.round).run P w = .ok (w.heap.size + 1, [mkOf w.heap.size])
      ((w.alloc (.deferred (some []))).alloc (.loop { state := .ready, pending := none, fn, tmps := a.tmps, params := ps, assign, body, defers := w.heap.size })) := fun fn => by
    rw [hro]; exact run_enterLoop_outer fn a.tmps ps assign body
  have hR : ∀ fn, ∃ g1 : Gh, Rel P base w0 S0 N ⟨D.marks, fun i => if i = σ.nx then some (w.heap.size + 1) else D.lv i⟩ sv g1 (σ.new (.loop true c.N c.fid (firstRegion body) (saved c (firstRegion body) σ.regs))) { a with defers := [mkOf w.heap.size] ++ a.defers }
      ((w.alloc (.deferred (some []))).alloc (.loop { state := .ready, pending := none, fn, tmps := a.tmps, params := ps, assign, body, defers := w.heap.size })) ∧
      g.le g1 ∧ VA g1 ((w.alloc (.deferred (some []))).alloc (.loop { state := .ready, pending := none, fn, tmps := a.tmps, params := ps, assign, body, defers := w.heap.size })) (.yld σ.nx) (.func (.yield (w.heap.size + 1)) #[] #[]) ∧
      Below w.heap.size w ((w.alloc (.deferred (some []))).alloc (.loop { state := .ready, pending := none, fn, tmps := a.tmps, params := ps, assign, body, defers := w.heap.size })) := by
    intro fn
    generalize hlo : (Obj.loop { state := .ready, pending := none, fn, tmps := a.tmps, params := ps, assign, body, defers := w.heap.size }) = lo
    have hb1 : Below w.heap.size w (w.alloc (.deferred (some []))) := Below.push (obj := .deferred (some [])) rfl rfl rfl rfl
    have hb2 : Below (w.alloc (.deferred (some []))).heap.size (w.alloc (.deferred (some []))) ((w.alloc (.deferred (some []))).alloc lo) := Below.push (obj := lo) rfl rfl rfl rfl
    have hb : Below w.heap.size w ((w.alloc (.deferred (some []))).alloc lo) := hb1.trans (hb2.mono (by simp))
    have hsz : ((w.alloc (.deferred (some []))).alloc lo).heap.size = w.heap.size + 2 := by simp
    have hnew : ((w.alloc (.deferred (some []))).alloc lo).heap[w.heap.size + 1]? = some lo := by
      have := World.alloc_heap_new (w.alloc (.deferred (some []))) lo
      simpa using this
    have hdef : ((w.alloc (.deferred (some []))).alloc lo).heap[w.heap.size]? = some (.deferred (some [])) := by
      rw [Below.heap_alloc _ _ _ (by simp)]
      exact World.alloc_heap_new w _
    generalize hw1 : (w.alloc (.deferred (some []))).alloc lo = w1 at hb hsz hnew hdef
    obtain ⟨b, hbd⟩ : ∃ b : Gb, b = ⟨some (w.heap.size + 1), 0, 0, 0, default⟩ := ⟨_, rfl⟩
    have hle : g.le (g.set σ.nx b) := Gh.le_set (h.fresh (Nat.le_refl _))
    have hH0 : Holds g w w1 := Holds.of_below h.S hb
    have hbr : BR P (g.set σ.nx b) w1 b (.loop true c.N c.fid (firstRegion body) (saved c (firstRegion body) σ.regs)) := by
      rw [← hlo] at hnew
      refine ⟨w.heap.size + 1, _, by rw [hbd], hnew, rfl, fun _ => rfl, by rw [hN]; exact h.size, hcode, fun t x hx => ?_⟩
      obtain ⟨ht, hx⟩ := look_saved hx
      have := h.regs t x hx
      rw [vof_lt ht] at this
      exact ⟨ht, this.mono hH0 hle⟩
    have h2 := (h.say_lv (lv := fun i => if i = σ.nx then some (w.heap.size + 1) else D.lv i) (fun i hi => if_neg (by omega))).new (w' := w1) (id := σ.nx) (Nat.le_refl _) (b := b) (x := .loop true c.N c.fid (firstRegion body) (saved c (firstRegion body) σ.regs)) hb hbr (fun q hq => by rw [hbd] at hq; cases hq; omega) (fun _ => by rw [hbd]; exact (if_pos rfl).symm)
    refine ⟨g.set σ.nx b, ?_, hle, VA.yld σ.nx b _ (by simp [Gh.set]) (by rw [hbd]), hb⟩
    refine h2.mark (by have := h.bs; omega) hdef (fun hS => by have := h.S _ hS; omega) (fun rs e1 hr => ?_)
    obtain ⟨rs', e2, _, e3⟩ := h.dfr
    have : rs = rs' := mkOf_inj (e1.symm.trans e2)
    subst this
    have := (e3 _ hr).2.1
    have := (Array.getElem?_eq_some_iff.1 this).1
    omega
  refine wpIn_rangeFunc fun fn _ => ?_
  obtain ⟨g1, hR, hle, hy, hb⟩ := hR fn
  have hen := hen fn
  have hy : AVR g1 _ (AV.one (.yld σ.nx)) _ := hy
  generalize (w.alloc (.deferred (some []))).alloc (.loop { state := .ready, pending := none, fn, tmps := a.tmps, params := ps, assign, body, defers := w.heap.size }) = w1 at hR hy hb hen
  have fin : ∀ {fid : Nat} {args : List Value}, Calls P fid args.toArray w1 (fun e w' => ∃ v x g' σ', e = .returned v ∧ overW c σ.nx σ' K = some res ∧ Rel P base w0 S0 N ⟨D.marks, fun i => if i = σ.nx then some (w.heap.size + 1) else D.lv i⟩ sv g' σ' { a with defers := [mkOf w.heap.size] ++ a.defers } w' ∧ AVR g' w' x v) →
      CallsIn F (n - 1) P fid args.toArray w1 (rangePost F n P (w.heap.size + 1) Q { a with defers := [mkOf w.heap.size] ++ a.defers }) := by
    intro fid args hc
    refine (callsIn_of_calls hF hc).mono ?_
    rintro e w' ⟨v, x, g', σ', rfl, hk, hr, hv⟩
    exact overW_ok (D := D) (id := σ.nx) (l := w.heap.size + 1) (lv := fun i => if i = σ.nx then some (w.heap.size + 1) else D.lv i) C hN (fun i hi => if_neg hi) (if_pos rfl) hr hK hk
  split at hs
  · rename_i nn hf
    split at hs
    rotate_left
    · simp at hs
    rename_i hlt
    have hfv : a.eval f = .func (.func nn) #[] #[] := by
      have := E.evA (by simp) hf
      generalize a.eval f = u at this ⊢
      cases this; rfl
    obtain ⟨g1', g2'⟩ := hH.1 (vs := [.func (.yield (w.heap.size + 1)) #[] #[]]) hR (.cons hy .nil) (Nat.le_of_ble_eq_true hlt) hs
    refine ⟨_, _, _, { target := .fn (.func nn) #[], args := #[.func (.yield (w.heap.size + 1)) #[] #[]] }, w1, nn, _, w1, hen, ?_, fun _ _ => hF.fn _, ?_, fun hd => (by rw [hF.depth] at hd; cases hd), fin g2'⟩
    · have e : a.eval (.const (.func (.yield (w.heap.size + 1)) #[] #[])) = .func (.yield (w.heap.size + 1)) #[] #[] := rfl
      simp [resolve, rangeCall, hfv, Deferred.ofValue, e]
    · simp [invoke, g1']
  · rename_i i hf
    split at hs
    · rename_i nn first capt hl
      split at hs
      rotate_left
      · simp at hs
      rename_i hlt
      obtain ⟨b, hm, -, fs, cs, hbv, hfs, hcs⟩ := h.mem i _ hl
      have hfv : a.eval f = .func (.func nn) fs cs := by
        have := E.evA (by simp) hf
        generalize a.eval f = u at this ⊢
        cases this with
        | clo _ b' f' fs' cs' hm' hv' =>
          rw [hm] at hm'; cases hm'
          rw [hbv] at hv'
          cases hv'; rfl
      have hH0 : Holds g w w1 := Holds.of_below h.S hb
      obtain ⟨g1', g2'⟩ := hH.1 (vs := fs.toList ++ ([.func (.yield (w.heap.size + 1)) #[] #[]] ++ cs.toList)) hR ((ones_av (hfs.mono fun _ _ k => k.mono hH0 hle)).append (.cons hy (ones_av (hcs.mono fun _ _ k => k.mono hH0 hle)))) (Nat.le_of_ble_eq_true hlt) hs
      refine ⟨_, _, _, { target := .fn (.func nn) cs, args := fs ++ #[.func (.yield (w.heap.size + 1)) #[] #[]] }, w1, nn, _, w1, hen, ?_, fun _ _ => hF.fn _, ?_, fun hd => (by rw [hF.depth] at hd; cases hd), fin g2'⟩
      · have e : a.eval (.const (.func (.yield (w.heap.size + 1)) #[] #[])) = .func (.yield (w.heap.size + 1)) #[] #[] := rfl
        simp [resolve, rangeCall, hfv, Deferred.ofValue, e]
      · have e : fs ++ #[Value.func (.yield (w.heap.size + 1)) #[] #[]] ++ cs = (fs.toList ++ ([Value.func (.yield (w.heap.size + 1)) #[] #[]] ++ cs.toList)).toArray := by apply Array.ext'; simp
        show (callFunc nn (fs ++ #[Value.func (.yield (w.heap.size + 1)) #[] #[]] ++ cs)).run P w1 = _
        rw [e]
        exact g1' _ _
    · simp at hs
  · simp at hs

theorem run_ok {H : Hnd R} (hH : HndOK P H) (C : CfgOK P c) (hN : c.N = N) (hF : WideF F) (hm : P.follows .mixedOrders = true) (hrd : c.rnd = false → F.round = none) {lp : List (Nat × Hd R)} : ∀ (code : Code), LoopsOK H c lp code → RngsOK P c code → ∀ {Q : Exit → Act → World → Prop} {σ : St} {K : Ex → St → Option R} {g : Gh} {a : Act} {w : World}, Rel P base w0 S0 N D sv g σ a w →
    (∀ e g' σ' a' w', K e σ' = some res → Rel P base w0 S0 N D sv g' σ' a' w' → Q (exOf e) a' w') → run H c lp code σ K = some res → code.wpIn F n P Q a w := by
  intro code
  induction code with
  | skip => intro _ hg Q σ K g a w h hK hs; exact wpIn_skip (hK .normal _ _ _ _ hs h)
  | region id ops draw =>
    intro _ hg Q σ K g a w h hK hs
    unfold run at hs
    split at hs
    · exact region_ok hH C hN hF (fun g' σ' a' w' hk h' => hK .normal _ _ _ _ hk h') h hs
    · split at hs
      · rename_i ho
        exact regionDraw_ok hH C hN hF hm ho (fun g' σ' a' w' hk h' => hK .normal _ _ _ _ hk h') h hs
      · split at hs
        · rename_i ho
          exact regionX_ok hH C hN hF hm ho (fun g' σ' a' w' hk h' => hK .normal _ _ _ _ hk h') h hs
        · simp at hs
  | seq x y ihx ihy =>
    intro hl hg Q σ K g a w h hK hs
    simp only [run] at hs
    refine wpIn_seq (ihx (hl.sub fun b hb => by simp [loopsOf, hb]) (hg.sub fun b hb => by simp [rngsOf, hb]) h (fun e g' σ' a' w' hk h' => ?_) hs)
    cases e with
    | normal =>
      obtain ⟨g2, σ2, hs2, h2⟩ := keepIf_ok hk h'
      exact ihy (hl.sub fun b hb => by simp [loopsOf, hb]) (hg.sub fun b hb => by simp [rngsOf, hb]) h2 hK hs2
    | exit i => exact hK (.exit i) _ _ _ _ hk h'
    | goto l => exact hK (.goto l) _ _ _ _ hk h'
    | ret => exact hK .ret _ _ _ _ hk h'
  | cond x y z ihy ihz =>
    intro hl hg Q σ K g a w h hK hs
    simp only [run] at hs
    split at hs
    · rename_i t ht
      have hv : a.eval x = .bool t := by
        have := (h.env C [x]).ev x (by simp) _ _ ht
        generalize a.eval x = u at this
        cases this; rfl
      rcases bcase_some hs with ⟨rfl, hs⟩ | ⟨rfl, hs⟩
      · exact wpIn_cond_true hv (ihy (hl.sub fun b hb => by simp [loopsOf, hb]) (hg.sub fun b hb => by simp [rngsOf, hb]) h hK hs)
      · exact wpIn_cond_false hv (ihz (hl.sub fun b hb => by simp [loopsOf, hb]) (hg.sub fun b hb => by simp [rngsOf, hb]) h hK hs)
    · simp at hs
  | block id x ih =>
    intro hl hg Q σ K g a w h hK hs
    simp only [run] at hs
    refine wpIn_block (ih (hl.sub fun b hb => by simpa [loopsOf] using hb) (hg.sub fun b hb => by simp [rngsOf, hb]) h (fun e g' σ' a' w' hk h' => ?_) hs)
    cases e with
    | normal =>
      obtain ⟨g2, σ2, hs2, h2⟩ := keepIf_ok hk h'
      exact hK .normal _ _ _ _ hs2 h2
    | exit i =>
      simp only [exOf, Exit.inBlock]
      simp only at hk
      split at hk
      · rename_i hi
        have := Nat.eq_of_beq_eq_true hi
        rw [if_pos this]
        exact hK .normal _ _ _ _ hk h'
      · rename_i hi
        rw [if_neg (fun e => by subst e; simp at hi)]
        exact hK (.exit i) _ _ _ _ hk h'
    | goto l => exact hK (.goto l) _ _ _ _ hk h'
    | ret => exact hK .ret _ _ _ _ hk h'
  | loop b ih =>
    intro hl hg Q σ K g a w h hK hs
    simp only [run] at hs
    obtain ⟨g1, σ1, hs1, h1⟩ := keepIf_ok hs h
    have hlb : LoopsOK H c lp b := hl.sub fun b' hb => by simp [loopsOf, hb]
    split at hs1
    · rename_i hd hhd
      obtain ⟨V, st, sh, l, L⟩ := hl b (by simp [loopsOf]) hd hhd
      obtain ⟨q, hq⟩ := L.hd
      rw [hq] at hs1
      obtain ⟨v, hv, hs2⟩ := ocase_some hs1
      rw [L.eq _ _ hv] at h1
      have main : ∀ (a : Act) (w : World), (∃ q v g, l q v K = some res ∧ Rel P base w0 S0 N D sv g (st v) a w) → b.wpIn F n P (Exit.then (fun a' w' => (∃ q v g, l q v K = some res ∧ Rel P base w0 S0 N D sv g (st v) a' w') ∧
          least (fun q => ∃ v g, l q v K = some res ∧ Rel P base w0 S0 N D sv g (st v) a' w') < least (fun q => ∃ v g, l q v K = some res ∧ Rel P base w0 S0 N D sv g (st v) a w)) Q) a w := by
        intro a w hI
        obtain ⟨v2, g2, hq, h2⟩ := least_spec hI
        generalize least (fun q => ∃ v g, l q v K = some res ∧ Rel P base w0 S0 N D sv g (st v) a w) = q at hq
        cases q with
        | zero => rw [L.zero] at hq; cases hq
        | succ q =>
          rw [L.succ] at hq
          refine ih hlb (hg.sub fun b hb => by simp [rngsOf, hb]) h2 (fun e g' σ' a' w' hk h' => ?_) hq
          cases e with
          | normal =>
            obtain ⟨g3, σ3, hs3, h3⟩ := keepIf_ok hk h'
            obtain ⟨v3, hv3, hs4⟩ := ocase_some hs3
            rw [L.eq _ _ hv3] at h3
            exact ⟨⟨q, v3, g3, hs4, h3⟩, Nat.lt_succ_of_le (least_le ⟨v3, g3, hs4, h3⟩)⟩
          | exit i => exact hK (.exit i) _ _ _ _ hk h'
          | goto l => exact hK (.goto l) _ _ _ _ hk h'
          | ret => exact hK .ret _ _ _ _ hk h'
      exact wpIn_loop (fun a w => ∃ q v g, l q v K = some res ∧ Rel P base w0 S0 N D sv g (st v) a w) (fun a w => least fun q => ∃ v g, l q v K = some res ∧ Rel P base w0 S0 N D sv g (st v) a w) ⟨q, v, g1, hs2, h1⟩ main
    · have main : ∀ (a : Act) (w : World), (∃ q g σ, loopN (run H c lp b) (look (firstRegion b) c.loops) q σ K = some res ∧ Rel P base w0 S0 N D sv g σ a w) → b.wpIn F n P (Exit.then (fun a' w' => (∃ q g σ, loopN (run H c lp b) (look (firstRegion b) c.loops) q σ K = some res ∧ Rel P base w0 S0 N D sv g σ a' w') ∧
          least (fun q => ∃ g σ, loopN (run H c lp b) (look (firstRegion b) c.loops) q σ K = some res ∧ Rel P base w0 S0 N D sv g σ a' w') < least (fun q => ∃ g σ, loopN (run H c lp b) (look (firstRegion b) c.loops) q σ K = some res ∧ Rel P base w0 S0 N D sv g σ a w)) Q) a w := by
        intro a w hI
        obtain ⟨g2, σ2, hq, h2⟩ := least_spec hI
        generalize least (fun q => ∃ g σ, loopN (run H c lp b) (look (firstRegion b) c.loops) q σ K = some res ∧ Rel P base w0 S0 N D sv g σ a w) = q at hq
        cases q with
        | zero => simp [loopN] at hq
        | succ q =>
          simp only [loopN] at hq
          refine ih hlb (hg.sub fun b hb => by simp [rngsOf, hb]) h2 (fun e g' σ' a' w' hk h' => ?_) hq
          cases e with
          | normal =>
            obtain ⟨g3, σ3, hs3, h3⟩ := keepIf_ok hk h'
            exact ⟨⟨q, g3, σ3, hs3, h3⟩, Nat.lt_succ_of_le (least_le ⟨g3, σ3, hs3, h3⟩)⟩
          | exit i => exact hK (.exit i) _ _ _ _ hk h'
          | goto l => exact hK (.goto l) _ _ _ _ hk h'
          | ret => exact hK .ret _ _ _ _ hk h'
      exact wpIn_loop (fun a w => ∃ q g σ, loopN (run H c lp b) (look (firstRegion b) c.loops) q σ K = some res ∧ Rel P base w0 S0 N D sv g σ a w) (fun a w => least fun q => ∃ g σ, loopN (run H c lp b) (look (firstRegion b) c.loops) q σ K = some res ∧ Rel P base w0 S0 N D sv g σ a w) ⟨_, g1, σ1, hs1, h1⟩ main
  | exit i =>
    intro _ hg Q σ K g a w h hK hs
    simp only [run] at hs
    obtain ⟨g1, σ1, hs1, h1⟩ := keepIf_ok hs h
    exact wpIn_exit (hK (.exit i) _ _ _ _ hs1 h1)
  | scope b ih =>
    intro hl hg Q σ K g a w h hK hs
    simp only [run] at hs
    refine wpIn_scope (ih (hl.sub fun b' hb => by simpa [loopsOf] using hb) (hg.sub fun b hb => by simp [rngsOf, hb]) h (fun e g' σ' a' w' hk h' => ?_) hs)
    cases e with
    | normal => exact hK .normal _ _ _ _ hk h'
    | exit i => exact hK (.exit i) _ _ _ _ hk h'
    | goto l => simp at hk
    | ret => exact hK .ret _ _ _ _ hk h'
  | label l => intro _ hg Q σ K g a w h hK hs; exact wpIn_label (hK .normal _ _ _ _ hs h)
  | ret =>
    intro _ hg Q σ K g a w h hK hs
    simp only [run] at hs
    obtain ⟨g1, σ1, hs1, h1⟩ := keepIf_ok hs h
    exact wpIn_ret (hK .ret _ _ _ _ hs1 h1)
  | rangeFunc f ps assign body =>
    intro _ hg Q σ K g a w h hK hs
    simp only [run] at hs
    exact rangeW_ok hH C hN hF hg hrd h hK hs
  | _ => intros; rename_i hs; simp [run] at hs

end
end Go.Eng
/- THE ENGINE, soundness, part 21: a function. -/
set_option linter.unusedSimpArgs false
set_option linter.unusedVariables false
set_option linter.unnecessarySimpa false
namespace Go.Eng
open Go Go.RowKit

section
variable {P : Program} [GlobL P] {F : Fence} {n : Nat} {c : Cfg} {g g' : Gh} {a : Act} {w w' : World} {R : Type} {res : R} {m : Mem}
variable {base : Nat} {w0 : World} {S0 : Nat → Prop} {N : Nat} {D : Wt} {sv : Nat → Value} {σ : St}

/-- What a caller sees at a return. -/
def outGh (S : Nat → Prop) (lo hi : Nat) : Gh := ⟨fun k => S k ∨ (lo ≤ k ∧ k < hi), fun _ => none⟩

theorem Rel.sees (h : Rel P base w0 S0 N D sv g σ a w) {ids : List Nat} (hi : ∀ i ∈ ids, ∃ τ l, look i σ.mem = some (.row τ l)) : Sees g ids (outGh S0 base w.heap.size).S := by
  refine ⟨fun q hq => ?_, fun id b q hid hb hq => ?_⟩
  · rcases h.sub q hq with h' | h'
    · exact .inl h'
    · exact .inr ⟨h', h.S q hq⟩
  · obtain ⟨τ, l, hl⟩ := hi id hid
    exact .inr ⟨(h.own id _ b q hl rfl hb hq).1, h.blk id b q hb hq⟩

theorem resQ_ok (h : Rel P base w0 S0 N D sv g σ a w) (C : CfgOK P c) : ∀ (l : List ResultVar) {k : List V1 → Option R}, resQ c σ l k = some res →
    ∃ ys vs, k ys = some res ∧ (l.mapM (fun | .tmp t => pure (a.tmps.getD t undef) | .cell x t => do loadVar t (← asAddr (a.tmps.getD x undef)) : ResultVar → Sem Value) : Sem (List Value)).run P w = .ok vs w ∧ All2 (V1R (outGh S0 base w.heap.size) w) ys vs
  | [], k, hs => ⟨[], [], hs, by simp, .nil⟩
  | .tmp t :: l, k, hs => by
    simp only [resQ] at hs
    split at hs
    · rename_i x hx
      have hv := h.regs t _ (lookT_some hx).2
      rw [vof_lt (lookT_some hx).1] at hv
      have hv2 : viewVs σ.mem [.v x] (fun l' => match l' with | [.v y] => resQ c σ l fun r => k (y :: r) | _ => none) = some res := by
        simp only [viewVs]
        rw [← hs]
        congr 1
        funext y
        cases y <;> rfl
      obtain ⟨⟨-, -⟩, hrow⟩ := viewVs_rows hv2
      obtain ⟨ys, hy, hyv⟩ := viewVs_ok h.mem (.cons hv .nil) (h.sees hrow) hv2
      cases hyv with
      | cons hy1 hy2 =>
        cases hy2
        rename_i y
        cases y with
        | v y =>
          simp only at hy
          obtain ⟨ys, vs, hk, hr, ha⟩ := resQ_ok h C l hy
          refine ⟨_, _, hk, ?_, .cons hy1 ha⟩
          simp only [List.mapM_cons, Sem.run_bind, Sem.run_pure, Result.andThen_ok, hr]
        | tup _ => simp at hy
        | undef => simp at hy
        | dead => simp at hy
    · simp at hs
  | .cell x t :: l, k, hs => by
    simp only [resQ] at hs
    split at hs
    · rename_i p ti hx hti
      have hv := h.regs x _ (lookT_some hx).2
      rw [vof_lt (lookT_some hx).1] at hv
      obtain ⟨i, d, T⟩ := C.ts t ti hti
      obtain ⟨cs, us, bk, of, hs1, hpv, hul, huc, hua⟩ := cellsAt_ok h.mem hv hs
      obtain ⟨⟨-, -⟩, hrow⟩ := viewL_rows hs1
      obtain ⟨cs', hy, hua'⟩ := viewL_ok h.mem hua (h.sees hrow) hs1
      split at hy
      · rename_i y' hof
        obtain ⟨ys, vs, hk, hr, ha⟩ := resQ_ok h C l hy
        obtain ⟨u, hld, hu⟩ := run_loadVar (P := P) (w := w) T (bk := bk) (of := of) hul huc hua' hof
        refine ⟨_, _, hk, ?_, .cons hu ha⟩
        have hpa : (asAddr (a.tmps.getD x undef)).run P w = .ok ⟨bk, of, none⟩ w := by rw [hpv]; simp [asAddr]
        simp only [List.mapM_cons, Sem.run_bind, Sem.run_pure, Result.andThen_ok, hr, hpa, hld]
      · simp at hy
    · simp at hs

theorem look_enum : ∀ {l : List AV} {i t : Nat} {x : AV}, look t (enumRegs i l) = some x → ∃ j, t = i + j ∧ l[j]? = some x
  | [], i, t, x, h => by simp [enumRegs, look] at h
  | y :: l, i, t, x, h => by
    simp only [enumRegs, look_cons] at h
    split at h
    · rename_i e; cases h; exact ⟨0, by omega, rfl⟩
    · obtain ⟨j, h1, h2⟩ := look_enum h
      exact ⟨j + 1, by omega, by simpa using h2⟩

theorem retQ_ok (h : Rel P base w0 S0 N D sv g σ a w) (C : CfgOK P c) {fn : Func} {Y : Type} {dec : AV → Option Y} {enc : Y → AV} (hdec : ∀ x y, dec x = some y → x = enc y) {y : Y} (hs : retQ c fn.results.toList dec σ = some y) :
    ∃ v, (results fn a.tmps).run P w = .ok v w ∧ AVR (outGh S0 base w.heap.size) w (enc y) v := by
  unfold retQ at hs
  obtain ⟨ys, vs, hk, hr, ha⟩ := resQ_ok h C fn.results.toList hs
  refine ⟨if h : vs.length = 1 then vs[0] else .tuple vs.toArray, ?_, ?_⟩
  · have he : (fn.results.mapM (fun | .tmp t => pure (a.tmps.getD t undef) | .cell x t => do loadVar t (← asAddr (a.tmps.getD x undef)) : ResultVar → Sem Value) : Sem (Array Value)).run P w = .ok vs.toArray w := by
      rw [Array.mapM_eq_mapM_toList, Sem.run_map, hr]
      rfl
    unfold results
    rw [Sem.run_bind]
    refine (congrArg (fun r : Result (Array Value) => r.andThen _) he).trans ?_
    simp only [Result.andThen_ok, Sem.run_pure, List.size_toArray]
    congr 1
  · have hlen := ha.length
    split at hk
    · rename_i x
      cases ha with
      | cons h1 h2 =>
        cases h2
        have := hdec _ _ hk
        rw [← this]
        rename_i b
        have e : (if h : [b].length = 1 then [b][0] else Value.tuple [b].toArray) = b := dif_pos rfl
        exact e.symm ▸ h1
    · rename_i hne
      have := hdec _ _ hk
      rw [← this]
      rw [dif_neg (fun e => ?_)]
      · exact ⟨vs, rfl, ha⟩
      · rw [e] at hlen
        obtain ⟨x, rfl⟩ := List.length_eq_one_iff.1 hlen
        exact hne x rfl

theorem wide_ok : WideF Fence.wide := ⟨fun _ => trivial, rfl, rfl⟩

theorem enters_of {f : Nat} {fn : Func} {body : Code} (hf : P.funcs[f]? = some fn) (hn : (fn.name == "runtime.NumGoroutine") = false) (hb : fn.body = some body) (args : Array Value) (w : World) : (callFunc f args).run P w = .ok (.enter f args) w := by
  have hn' : ¬ fn.name = "runtime.NumGoroutine" := by simpa using hn
  simp [callFunc, hf, hn', hb]

theorem look_shift {t : Nat} : ∀ {r : Regs}, look (t + OFF) (shiftR r) = look t r
  | [] => rfl
  | x :: r => by
    rw [shiftR, look_cons, look_cons]
    by_cases e : x.1 = t
    · rw [if_pos e, if_pos (by rw [e])]
    · rw [if_neg e, if_neg (by simp; omega), look_shift]

theorem look_shift_lt {t : Nat} (h : t < OFF) : ∀ {r : Regs}, look t (shiftR r) = none
  | [] => rfl
  | x :: r => by
    simp only [shiftR, look_cons]
    rw [if_neg (by omega), look_shift_lt h]

theorem look_unshift {t : Nat} : ∀ {r : Regs}, look t (unshiftR r) = look (t + OFF) r
  | [] => rfl
  | x :: r => by
    simp only [unshiftR]
    split
    · rename_i h
      have h := Nat.le_of_ble_eq_true h
      rw [look_cons, look_cons]
      by_cases e : x.1 = t + OFF
      · rw [if_pos e, if_pos (by omega)]
      · rw [if_neg e, if_neg (by omega), look_unshift]
    · rename_i h
      have h : ¬ OFF ≤ x.1 := fun e => by rw [Nat.ble_eq_true_of_le e] at h; cases h
      rw [look_cons, if_neg (by omega), look_unshift]

theorem look_app {α : Type} {t : Nat} {r' : List (Nat × α)} : ∀ {r : List (Nat × α)}, look t (r ++ r') = match look t r with | some x => some x | none => look t r'
  | [] => rfl
  | x :: r => by
    rw [List.cons_append, look_cons, look_cons]
    split
    · rfl
    · exact look_app

/-- A function's act at its entry. -/
def act0 (fn : Func) (vs : List Value) : Act := { tmps := vs.toArray ++ Array.replicate (fn.ntmps - vs.toArray.size) undef, defers := [] }

theorem act0_get {fn : Func} {vs : List Value} {t : Nat} {v : Value} (h : vs[t]? = some v) : (act0 fn vs).tmps.getD t undef = v := by
  have hlt : t < vs.length := (List.getElem?_eq_some_iff.1 h).1
  simp only [act0, Array.getD_eq_getD_getElem?]
  rw [Array.getElem?_append_left (by simpa using hlt)]
  simp [h]

/-- A callee that runs in its call's place, at its entry. -/
theorem Rel.enter (h : Rel P base w0 S0 N D sv g σ a w) {fn : Func} {as : List AV} {vs : List Value} (hav : All2 (AVR g w) as vs) (hle : as.length ≤ fn.ntmps) (hoff : fn.ntmps ≤ OFF)
    (rs : List Nat) (hrs : a.defers = rs.map mkOf) : Rel P base w0 S0 fn.ntmps ⟨rs ++ D.marks, D.lv⟩ (vof sv a) g { regs := enumRegs 0 as ++ shiftR σ.regs, mem := σ.mem, nx := σ.nx } (act0 fn vs) w := by
  refine { regs := fun t x hx => ?_, size := ?_, dfr := ?_, glo := h.glo, lp := h.lp, mem := h.mem, inj := h.inj, own := h.own, S := h.S, blk := h.blk, nx := h.nx, bel := h.bel, bs := h.bs, sub := h.sub }
  · rw [look_app] at hx
    cases he : look t (enumRegs 0 as) with
    | some y =>
      rw [he] at hx; cases hx
      obtain ⟨j, hj, hjx⟩ := look_enum he
      obtain ⟨v, hv, hvr⟩ := hav.get hjx
      simp at hj; subst hj
      have hlt : t < as.length := (List.getElem?_eq_some_iff.1 hjx).1
      rw [vof_lt (by omega), act0_get hv]; exact hvr
    | none =>
      rw [he] at hx
      by_cases ht : t < OFF
      · rw [look_shift_lt ht] at hx; cases hx
      · obtain ⟨u, rfl⟩ : ∃ u, t = u + OFF := ⟨t - OFF, by omega⟩
        simp only [look_shift] at hx
        have := h.regs u x hx
        unfold vof
        rw [if_neg (by omega), Nat.add_sub_cancel]
        exact this
  · have := hav.length; simp only [act0]; simp; omega
  · obtain ⟨rs', e1, e2, e3⟩ := h.dfr
    obtain rfl := mkOf_inj (hrs.symm.trans e1)
    exact ⟨[], rfl, by simpa using e2, by simpa using e3⟩

/-- Back in the caller. -/
theorem Rel.leave {N' : Nat} {rs : List Nat} {a' : Act} (h0 : a.tmps.size = N) (hd : a.defers = rs.map mkOf) (h : Rel P base w0 S0 N' ⟨rs ++ D.marks, D.lv⟩ (vof sv a) g σ a' w) : Rel P base w0 S0 N D sv g { regs := unshiftR σ.regs, mem := σ.mem, nx := σ.nx } a w := by
  refine { regs := fun t x hx => ?_, size := h0, dfr := ?_, glo := h.glo, lp := h.lp, mem := h.mem, inj := h.inj, own := h.own, S := h.S, blk := h.blk, nx := h.nx, bel := h.bel, bs := h.bs, sub := h.sub }
  rw [look_unshift] at hx
  have := h.regs _ x hx
  unfold vof at this
  rw [if_neg (by omega), Nat.add_sub_cancel] at this
  exact this
  obtain ⟨rs', e1, e2, e3⟩ := h.dfr
  refine ⟨rs, hd, ?_, fun r hr => e3 r (List.mem_append_right _ hr)⟩
  exact (List.nodup_append.1 e2).2.1

/-- The marks are taken, one by one. -/
theorem Rel.take {r : Nat} {ds : List Deferred} (h : Rel P base w0 S0 N D sv g σ { tmps := a.tmps, defers := mkOf r :: ds } w) : (Instr.takeDeferred r).run P w = .ok [] (w.putObj r (.deferred none)) ∧ Rel P base w0 S0 N D sv g σ { tmps := a.tmps, defers := ds } (w.putObj r (.deferred none)) := by
  obtain ⟨rs, e1, e2, e3⟩ := h.dfr
  obtain ⟨r0, rs', rfl⟩ : ∃ r0 rs', rs = r0 :: rs' := by
    cases rs with
    | nil => simp at e1
    | cons r0 rs' => exact ⟨r0, rs', rfl⟩
  simp only [List.map_cons, List.cons.injEq] at e1
  obtain ⟨e0, e1⟩ := e1
  have hr : r = r0 := by simp [mkOf] at e0; exact e0
  subst hr
  obtain ⟨b1, b2, b3⟩ := e3 r (by simp)
  rw [List.cons_append, List.nodup_cons] at e2
  have hH : Holds g w (w.putObj r (.deferred none)) := fun j hj => World.putObj_heap_other (fun e => by subst e; exact b3 hj)
  refine ⟨run_takeDeferred b2, ?_⟩
  refine { regs := fun t x hx => (h.regs t x hx).mono hH (Gh.le.refl g), size := h.size, dfr := ⟨rs', e1, e2.2, fun q hq => ?_⟩, glo := h.glo.mono hH (fun _ h => h), lp := h.lp, mem := fun i z hz => ?_, inj := h.inj, own := h.own, S := fun p hp => by simpa using h.S p hp, blk := fun i b p hm hp => by simpa using h.blk i b p hm hp, nx := h.nx, bel := h.bel.trans ⟨rfl, rfl, rfl, by simp, fun j hj => World.putObj_heap_other (by omega)⟩, bs := by simpa using h.bs, sub := h.sub }
  · obtain ⟨c1, c2, c3⟩ := e3 q (by rw [List.cons_append]; exact List.mem_cons_of_mem _ hq)
    exact ⟨c1, (World.putObj_heap_other (fun e => by subst e; exact e2.1 hq)).trans c2, c3⟩
  · obtain ⟨b, hm, hr⟩ := h.mem i z hz
    refine ⟨b, hm, ?_⟩
    by_cases hlz : z.live = true
    · exact hr.mono hH (fun q hq => World.putObj_heap_other (fun e => by subst e; exact hr.notDef hlz hq b2)) (Gh.le.refl g)
    · cases z <;> simp [AB.live] at hlz
      exact trivial

theorem Rel.leaves (hro : F.round = none) {fn : Func} {tmps : Array Value} {R' : Ending → World → Prop} : ∀ {ds : List Deferred} {w : World}, Rel P base w0 S0 N D sv g σ { tmps := a.tmps, defers := ds } w →
    (∀ w', Rel P base w0 S0 N D sv g σ { tmps := a.tmps, defers := [] } w' → ∃ v, (results fn tmps).run P w' = .ok v w' ∧ R' (.returned v) w') → LeavesInM F n P fn tmps R' ds .returning w
  | [], w, h, hR => hR w h
  | d :: ds, w, h, hR => by
    obtain ⟨rs, e1, e2, e3⟩ := h.dfr
    obtain ⟨r0, rs', rfl⟩ : ∃ r0 rs', rs = r0 :: rs' := by
      cases rs with
      | nil => simp at e1
      | cons r0 rs' => exact ⟨r0, rs', rfl⟩
    simp only [List.map_cons, List.cons.injEq] at e1
    obtain ⟨rfl, e1⟩ := e1
    obtain ⟨h1, h2⟩ := h.take
    exact ⟨by simp, .inl ⟨r0, _, rfl, h1, h2.leaves hro hR⟩⟩

theorem resI_ok (h : Rel P base w0 S0 N D sv g σ a w) (C : CfgOK P c) : ∀ (l : List ResultVar) {k : List V1 → Option R}, resI c σ l k = some res →
    ∃ ys vs, k ys = some res ∧ (l.mapM (fun | .tmp t => pure (a.tmps.getD t undef) | .cell x t => do loadVar t (← asAddr (a.tmps.getD x undef)) : ResultVar → Sem Value) : Sem (List Value)).run P w = .ok vs w ∧ All2 (V1R g w) ys vs
  | [], k, hs => ⟨[], [], hs, by simp, .nil⟩
  | .tmp t :: l, k, hs => by
    simp only [resI] at hs
    split at hs
    · rename_i x hx
      have hv := h.regs t _ (lookT_some hx).2
      rw [vof_lt (lookT_some hx).1] at hv
      obtain ⟨ys, vs, hk, hr, ha⟩ := resI_ok h C l hs
      refine ⟨_, _, hk, ?_, .cons hv ha⟩
      simp only [List.mapM_cons, Sem.run_bind, Sem.run_pure, Result.andThen_ok, hr]
    · simp at hs
  | .cell x t :: l, k, hs => by
    simp only [resI] at hs
    split at hs
    · rename_i p ti hx hti
      have hv := h.regs x _ (lookT_some hx).2
      rw [vof_lt (lookT_some hx).1] at hv
      obtain ⟨i, d, T⟩ := C.ts t ti hti
      obtain ⟨cs, us, bk, of, hs1, hpv, hul, huc, hua⟩ := cellsAt_ok h.mem hv hs
      split at hs1
      · rename_i y' hof
        obtain ⟨ys, vs, hk, hr, ha⟩ := resI_ok h C l hs1
        obtain ⟨u, hld, hu⟩ := run_loadVar (P := P) (w := w) T (bk := bk) (of := of) hul huc hua hof
        refine ⟨_, _, hk, ?_, .cons hu ha⟩
        have hpa : (asAddr (a.tmps.getD x undef)).run P w = .ok ⟨bk, of, none⟩ w := by rw [hpv]; simp [asAddr]
        simp only [List.mapM_cons, Sem.run_bind, Sem.run_pure, Result.andThen_ok, hr, hpa, hld]
      · simp at hs1
    · simp at hs

/-- The value of a function's results. -/
theorem results_val {fn : Func} {vs : List Value} (hr : (fn.results.toList.mapM (fun | .tmp t => pure (a.tmps.getD t undef) | .cell x t => do loadVar t (← asAddr (a.tmps.getD x undef)) : ResultVar → Sem Value) : Sem (List Value)).run P w = .ok vs w) :
    (results fn a.tmps).run P w = .ok (if h : vs.length = 1 then vs[0] else .tuple vs.toArray) w := by
  have he : (fn.results.mapM (fun | .tmp t => pure (a.tmps.getD t undef) | .cell x t => do loadVar t (← asAddr (a.tmps.getD x undef)) : ResultVar → Sem Value) : Sem (Array Value)).run P w = .ok vs.toArray w := by
    rw [Array.mapM_eq_mapM_toList, Sem.run_map, hr]
    rfl
  unfold results
  rw [Sem.run_bind]
  refine (congrArg (fun r : Result (Array Value) => r.andThen _) he).trans ?_
  simp only [Result.andThen_ok, Sem.run_pure, List.size_toArray]
  congr 1

theorem mkRes_val {ys : List V1} {vs : List Value} (ha : All2 (V1R g w) ys vs) : AVR g w (mkRes ys) (if h : vs.length = 1 then vs[0] else .tuple vs.toArray) := by
  cases ha with
  | nil => exact ⟨[], rfl, .nil⟩
  | cons h1 h2 =>
    cases h2 with
    | nil => exact h1
    | cons h2 h3 =>
      rw [dif_neg (by simp)]
      exact ⟨_, rfl, .cons h1 (.cons h2 h3)⟩

/-- What is said of callees that run in their calls' places holds. -/
def SubsOK (P : Program) [GlobL P] {R : Type} : Nat → List (Nat × Inl R) → Prop
  | 0, _ => True
  | d + 1, subs => (∀ t fid cfg lp body res subs', look t subs = some (.mk fid cfg lp body res subs') →
    (∃ fn, P.funcs[fid]? = some fn ∧ (fn.name == "runtime.NumGoroutine") = false ∧ fn.body = some body ∧ cfg.N = fn.ntmps ∧ fn.results.toList = res) ∧ CfgOK P cfg ∧ LoopsOK (hnd d subs') cfg lp body ∧ RngsOK P cfg body ∧ SubsOK P d subs') ∧
    (∀ t fid rid cfg lp ps assign body subs', look t subs = some (.rnd fid rid cfg lp ps assign body subs') →
    rngOf P fid rid = some (ps.toArray, assign, body) ∧ CfgOK P cfg ∧ LoopsOK (hnd d subs') cfg lp assign ∧ LoopsOK (hnd d subs') cfg lp body ∧ SubsOK P d subs')

theorem look_setPs {NN : Nat} {tm : Array Value} : ∀ {ps : List Nat} {xs : List AV} {vs : List Value} {r r1 : Regs} {tmps : Array Value}, setPs NN ps xs r = some r1 → All2 (AVR g w) xs vs → tmps.size = NN → NN ≤ OFF → (∀ t x, look t r = some x → t < OFF ∧ AVR g w x (tmps.getD t undef)) →
    ps.length = vs.length ∧ ((ps.zip vs).foldl (fun tmps (q : Nat × Value) => tmps.setIfInBounds q.1 q.2) tmps).size = NN ∧ ∀ t x, look t r1 = some x → t < OFF ∧ AVR g w x (((ps.zip vs).foldl (fun tmps (q : Nat × Value) => tmps.setIfInBounds q.1 q.2) tmps).getD t undef)
  | [], [], _, r, r1, tmps, h, .nil, hsz, _, hr => by
    simp only [setPs, Option.some.injEq] at h; subst h
    exact ⟨rfl, hsz, hr⟩
  | p :: ps, x :: xs, _, r, r1, tmps, h, .cons (b := v) (m := vs) hx ht, hsz, hoff, hr => by
    simp only [setPs] at h
    split at h
    · rename_i hp
      have hp : p < NN := Nat.le_of_ble_eq_true hp
      obtain ⟨e1, e2, e3⟩ := look_setPs (tm := tm) (tmps := tmps.setIfInBounds p v) h ht (by simpa using hsz) hoff (fun t y hy => by
        rw [look_cons] at hy
        split at hy
        · rename_i e
          subst e
          cases hy
          refine ⟨by omega, ?_⟩
          rw [Array.getD_eq_getD_getElem?, Array.getElem?_setIfInBounds, if_pos rfl, if_pos (by omega)]
          exact hx
        · rename_i e
          obtain ⟨f1, f2⟩ := hr t y hy
          refine ⟨f1, ?_⟩
          rw [Array.getD_eq_getD_getElem?, Array.getElem?_setIfInBounds, if_neg e, ← Array.getD_eq_getD_getElem?]
          exact f2)
      exact ⟨by simpa using e1, e2, e3⟩
    · cases h
  | [], _ :: _, _, _, _, _, h, _, _, _, _ => by simp [setPs] at h
  | _ :: _, [], _, _, _, _, h, _, _, _, _ => by simp [setPs] at h

theorem wide_in (hF : WideF F) (l : Nat) : WideF (F.inRound l) := ⟨hF.fn, hF.depth, hF.alive⟩

/-- A round, at its entry. -/
theorem Rel.round (h : Rel P base w0 S0 N D sv g σ a w) {NN : Nat} {rs : List Nat} (hrs : a.defers = rs.map mkOf) {r1 : Regs} {tm : Array Value} (hsz : tm.size = NN) (hr : ∀ t x, look t r1 = some x → t < OFF ∧ AVR g w x (tm.getD t undef)) :
    Rel P base w0 S0 NN ⟨rs ++ D.marks, D.lv⟩ (vof sv a) g { regs := r1 ++ shiftR σ.regs, mem := σ.mem, nx := σ.nx } { tmps := tm, defers := [] } w := by
  refine { regs := fun t x hx => ?_, size := hsz, dfr := ?_, glo := h.glo, lp := h.lp, mem := h.mem, inj := h.inj, own := h.own, S := h.S, blk := h.blk, nx := h.nx, bel := h.bel, bs := h.bs, sub := h.sub }
  · rw [look_app] at hx
    cases he : look t r1 with
    | some y =>
      rw [he] at hx; cases hx
      obtain ⟨h1, h2⟩ := hr t _ he
      rw [vof_lt h1]; exact h2
    | none =>
      rw [he] at hx
      by_cases ht : t < OFF
      · rw [look_shift_lt ht] at hx; cases hx
      · obtain ⟨u, rfl⟩ : ∃ u, t = u + OFF := ⟨t - OFF, by omega⟩
        simp only [look_shift] at hx
        have := h.regs u x hx
        unfold vof
        rw [if_neg (by omega), Nat.add_sub_cancel]
        exact this
  · obtain ⟨rs', e1, e2, e3⟩ := h.dfr
    obtain rfl := mkOf_inj (hrs.symm.trans e1)
    exact ⟨[], rfl, by simpa using e2, by simpa using e3⟩

theorem rnd_ok {H : Hnd R} (hH : HndOK P H) (hm : P.follows .mixedOrders = true) {cfg : Cfg} {fid rid : Nat} {lp : List (Nat × Hd R)} {ps : List Nat} {assign body : Code} (hcode : rngOf P fid rid = some (ps.toArray, assign, body)) (C : CfgOK P cfg)
    (hla : LoopsOK H cfg lp assign) (hlb : LoopsOK H cfg lp body) {id l : Nat} {as : List AV} {kk : AV → St → Option R} {vs : List Value} {b : Gb} (h : Rel P base w0 S0 N D sv g σ a w) (hav : All2 (AVR g w) as vs) (hb : g.m id = some b) (hbl : b.blk = some l)
    (hs : rndW (run H cfg lp assign) (run H cfg lp body) cfg fid rid ps id as σ kk = some res) :
    ∃ fn tmps assign body, (Instr.yield l vs.toArray).run P w = .ok (.round l fn tmps assign body) w ∧ ∀ (F : Fence) (n : Nat), WideF F → RoundIn F n P l fn tmps assign body w fun e w' => ∃ v x g' σ', e = .returned v ∧ kk x σ' = some res ∧ Rel P base w0 S0 N D sv g' σ' a w' ∧ AVR g' w' x v := by
  unfold rndW at hs
  split at hs
  rotate_left
  · simp at hs
  rename_i nn f r regs hlk
  split at hs
  rotate_left
  · simp at hs
  rename_i regs1 hf hr hn hoff hrnd hps
  obtain rfl := Nat.eq_of_beq_eq_true hf
  obtain rfl := Nat.eq_of_beq_eq_true hr
  have hn := Nat.eq_of_beq_eq_true hn
  have hoff := Nat.le_of_ble_eq_true hoff
  obtain ⟨b', hb', k, rc, hk, hh, hst, hpend, hsz, hc, hregs⟩ := h.mem id _ hlk
  rw [hb] at hb'; cases hb'
  rw [hbl] at hk; cases hk
  have hlv : D.lv id = some l := by rw [← hbl]; exact (h.lp id _ b hlk rfl hb).symm
  rw [hcode] at hc
  simp only [Option.some.injEq, Prod.mk.injEq] at hc
  obtain ⟨hc1, hc2, hc3⟩ := hc
  obtain ⟨rs, hrs, -⟩ := h.dfr
  obtain ⟨e1, e2, e3⟩ := look_setPs (tm := rc.tmps) hps hav hsz hoff hregs
  refine ⟨_, _, _, _, run_yield hh (by rw [← hc1]; simpa using e1.symm), fun F n hF => ?_⟩
  rw [← hc1, ← hc2, ← hc3]
  have etm : (ps.toArray.zip vs.toArray).foldl (fun tmps (t, a) => tmps.setIfInBounds t a) rc.tmps = (ps.zip vs).foldl (fun tmps (q : Nat × Value) => tmps.setIfInBounds q.1 q.2) rc.tmps := by simp
  rw [etm]
  have hR := h.round (NN := nn) hrs e2 e3
  have hwf := wide_in hF l
  have fin : ∀ (jump : Option Code) (y : AB) (bb : Bool) (g2 : Gh) (σ2 : St) (a2 : Act) (w2 : World) (nn2 f2 r2 : Nat) (regs2 : Regs), look id σ2.mem = some (.loop false nn2 f2 r2 regs2) → y.isLoop = true → jump.isNone = bb →
      (∀ (b2 : Gb) (rc2 : Loop) (w' : World), Holds g2 w2 w' → LoopR P g2 w2 b2 false nn2 f2 r2 regs2 → b2.blk = some l → w2.heap[l]? = some (.loop rc2) → w'.heap[l]? = some (.loop { rc2 with state := if jump.isNone then .ready else .done, pending := jump }) → BR P g2 w' b2 y) →
      kk (.one (.bool bb)) { regs := unshiftR σ2.regs, mem := (id, y) :: σ2.mem, nx := σ2.nx } = some res → Rel P base w0 S0 nn ⟨rs ++ D.marks, D.lv⟩ (vof sv a) g2 σ2 a2 w2 →
      ∃ v w', (Instr.endRound l jump).run P w2 = .ok v w' ∧ ∃ v' x g' σ', Ending.returned v = .returned v' ∧ kk x σ' = some res ∧ Rel P base w0 S0 N D sv g' σ' a w' ∧ AVR g' w' x v' := by
    intro jump y bb g2 σ2 a2 w2 nn2 f2 r2 regs2 hl2 hyl hj hbr hk2 hR2
    obtain ⟨b2, hb2, hbr2⟩ := hR2.mem id _ hl2
    have hq2 : b2.blk = some l := (hR2.lp id _ b2 hl2 rfl hb2).trans hlv
    have hbr3 := hbr2
    obtain ⟨k2, rc2, hk2', hh2, hrest⟩ := hbr2
    rw [hq2] at hk2'; cases hk2'
    have hS := hR2.setLoop (y := y) (ob' := .loop { rc2 with state := if jump.isNone then .ready else .done, pending := jump }) hl2 rfl rfl hb2 hq2 hh2 (fun hH hnew => hbr b2 rc2 _ hH hbr3 hq2 hh2 hnew)
    have hL := Rel.leave (D := D) h.size hrs hS
    exact ⟨_, _, run_endRound jump hh2, _, .one (.bool bb), g2, _, rfl, hk2, hL, by rw [hj]; exact VA.bool bb⟩
  refine roundIn_of_wpIn (hF.fn _) ?_
  refine run_ok hH C (by rw [hn]) hwf hm (fun h => by rw [hrnd] at h; cases h) assign hla (fun h => by rw [hrnd] at h; cases h) hR (fun e g1 σ1 a1 w1 hk1 hR1 => ?_) hs
  cases e with
  | normal =>
    simp only at hk1
    split at hk1
    rotate_left
    · simp at hk1
    rename_i nn1 f1 r1 regs1' hl1
    obtain ⟨b1, hb1, hbr1⟩ := hR1.mem id _ hl1
    have hq1 : b1.blk = some l := (hR1.lp id _ b1 hl1 rfl hb1).trans hlv
    obtain ⟨k1, rc1, hk1', hh1, hst1, hp1, hsz1, hcode1, hregs1⟩ := hbr1
    rw [hq1] at hk1'; cases hk1'
    have hS := hR1.setLoop (y := .loop false nn1 f1 r1 regs1') (ob' := .loop { rc1 with state := .busy }) hl1 rfl rfl hb1 hq1 hh1 (fun hH hnew =>
      ⟨l, { rc1 with state := .busy }, hq1, hnew, rfl, (fun h => by cases h), hsz1, hcode1, fun t x hx => ⟨(hregs1 t x hx).1, (hregs1 t x hx).2.mono hH (Gh.le.refl _)⟩⟩)
    refine ⟨_, run_beginRound hh1 (by simpa using hst1), ?_⟩
    refine run_ok hH C (by rw [hn]) hwf hm (fun h => by rw [hrnd] at h; cases h) body hlb (fun h => by rw [hrnd] at h; cases h) hS (fun e g2 σ2 a2 w2 hk2 hR2 => ?_) hk1
    cases e with
    | normal =>
      simp only [rndEnd] at hk2
      split at hk2
      · rename_i nn2 f2 r2 regs2 hl2
        refine fin none (.loop true nn2 f2 r2 regs2) true g2 σ2 a2 w2 nn2 f2 r2 regs2 hl2 rfl rfl (fun b2 rc2 w' hH hbr hq hh2 hnew => ?_) hk2 hR2
        obtain ⟨k2, rc2', hk2', hh2', hst2, hp2, hsz2, hcode2, hregs2⟩ := hbr
        rw [hq] at hk2'; cases hk2'
        rw [hh2] at hh2'; cases hh2'
        exact ⟨l, _, hq, hnew, rfl, fun _ => rfl, hsz2, hcode2, fun t x hx => ⟨(hregs2 t x hx).1, (hregs2 t x hx).2.mono hH (Gh.le.refl _)⟩⟩
      · simp at hk2
    | exit i =>
      simp only [rndEnd] at hk2
      split at hk2
      · rename_i nn2 f2 r2 regs2 hl2
        exact fin (some (.exit i)) (.over (.exit i)) false g2 σ2 a2 w2 nn2 f2 r2 regs2 hl2 rfl rfl (fun b2 rc2 w' hH hbr hq hh2 hnew => ⟨l, _, hq, hnew, rfl, rfl⟩) hk2 hR2
      · simp at hk2
    | goto t => simp [rndEnd] at hk2
    | ret =>
      simp only [rndEnd] at hk2
      split at hk2
      · rename_i nn2 f2 r2 regs2 hl2
        exact fin (some .ret) (.over .ret) false g2 σ2 a2 w2 nn2 f2 r2 regs2 hl2 rfl rfl (fun b2 rc2 w' hH hbr hq hh2 hnew => ⟨l, _, hq, hnew, rfl, rfl⟩) hk2 hR2
      · simp at hk2
  | exit i => simp at hk1
  | goto t => simp at hk1
  | ret => simp at hk1

theorem hnd_ok (hm : P.follows .mixedOrders = true) : ∀ (d : Nat) (subs : List (Nat × Inl R)), SubsOK P d subs → HndOK P (hnd d subs)
  | 0, subs, _ => ⟨by intro _ _ _ _ _ _ _ _ _ _ _ _ _ _ _ _ h hav hlt hs; simp [hnd] at hs, by intro _ _ _ _ _ _ _ _ _ _ _ _ _ _ _ _ _ _ h hav hb hbl hs; simp [hnd] at hs⟩
  | d + 1, subs, hsub => by
    refine ⟨?_, ?_⟩
    · intro base w0 S0 N D sv g σ a w res dst f as kk vs h hav hlt hs
      simp only [hnd] at hs
      split at hs
      · simp at hs
      · rename_i t
        split at hs
        · simp at hs
        · split at hs
          · rename_i hble
            have := Nat.le_of_ble_eq_true hble
            omega
          · simp at hs
        · rename_i fid cfg lp body rs subs' hlk
          obtain ⟨⟨fn, hf, hnm, hb, hcN, hres⟩, C, hl, hrg, hsub'⟩ := hsub.1 t fid cfg lp body rs subs' hlk
          split at hs
          · rename_i he hle hoff hlt'
            have he := Nat.eq_of_beq_eq_true he
            have hle := Nat.le_of_ble_eq_true hle
            have hoff := Nat.le_of_ble_eq_true hoff
            subst he
            rw [hcN] at hle hoff
            refine ⟨enters_of hf hnm hb, ?_⟩
            obtain ⟨ms, hms, -⟩ := h.dfr
            have hin := h.enter (fn := fn) hav hle hoff ms hms
            refine (callsIn_wide (n := 0)).1 (callsIn_of_wp_marks hf hb trivial ?_)
            have fin : ∀ (e : Ex) (g' : Gh) (σ' : St) (a' : Act) (w' : World), resI cfg σ' rs (fun l => kk (mkRes l) { regs := unshiftR σ'.regs, mem := σ'.mem, nx := σ'.nx }) = some res → Rel P base w0 S0 fn.ntmps ⟨ms ++ D.marks, D.lv⟩ (vof sv a) g' σ' a' w' →
                LeavesInM Fence.wide 0 P fn a'.tmps (fun e w' => ∃ v x g' σ', e = .returned v ∧ kk x σ' = some res ∧ Rel P base w0 S0 N D sv g' σ' a w' ∧ AVR g' w' x v) a'.defers .returning w' := by
              intro e g' σ' a' w' hk h'
              refine Rel.leaves (a := a') rfl h' fun w2 h2 => ?_
              rw [← hres] at hk
              obtain ⟨ys, us, hk2, hr, ha⟩ := resI_ok h2 C _ hk
              exact ⟨_, results_val hr, _, _, g', _, rfl, hk2, h2.leave h.size hms, mkRes_val ha⟩
            refine run_ok (hnd_ok hm d subs' hsub') C hcN wide_ok hm (fun _ => rfl) body hl hrg hin (fun e g' σ' a' w' hk h' => ?_) hs
            cases e with
            | normal => exact fin .normal g' σ' a' w' hk h'
            | ret => exact fin .ret g' σ' a' w' hk h'
            | exit i => simp at hk
            | goto l => simp at hk
          · simp at hs
    · intro base w0 S0 N D sv g σ a w res dst id as kk vs b l h hav hb hbl hs
      simp only [hnd] at hs
      split at hs
      · simp at hs
      · rename_i t
        split at hs
        · simp at hs
        · rename_i fid rid cfg lp ps assign body subs' hlk
          obtain ⟨hcode, C, hla, hlb, hsub'⟩ := hsub.2 t fid rid cfg lp ps assign body subs' hlk
          split at hs
          · rw [Nat.add_sub_cancel_left] at hs
            exact rnd_ok (hnd_ok hm d subs' hsub') hm hcode C hla hlb h hav hb hbl hs
          · simp at hs
        · rename_i fid cfg lp body rs subs' hlk
          obtain ⟨⟨fn, hf, hnm, hb, hcN, hres⟩, C, hl, hrg, hsub'⟩ := hsub.1 t fid cfg lp body rs subs' hlk
          split at hs
          · rename_i he hle hoff hlt
            have := Nat.le_of_ble_eq_true hlt
            omega
          · simp at hs

/-- A FUNCTION DOES WHAT ITS SPEC SAYS. -/
theorem specOK_of {f : Nat} {fn : Func} {body : Code} {s : Spec} {dec : AV → Option s.Y} (hf : P.funcs[f]? = some fn) (hn : (fn.name == "runtime.NumGoroutine") = false) (hb : fn.body = some body) (C : CfgOK P c) (hN : c.N = fn.ntmps) (hoff : fn.ntmps ≤ OFF) (hm : P.follows .mixedOrders = true)
    (hdec : ∀ x y, dec x = some y → x = s.enc y) (hlen : ∀ args x, s.pat args = some x → args.length ≤ fn.ntmps) {d : Nat} {subs : List (Nat × Inl s.Y)} (hsub : SubsOK P d subs) {lp : List (Nat × Hd s.Y)} (hl : LoopsOK (hnd d subs) c lp body) (hrg : RngsOK P c body)
    (hrun : ∀ args x y, s.pat args = some x → s.f x = some y → runFn (hnd d subs) c lp body fn.results.toList args dec = some y) : SpecOK P f s where
  enters := enters_of hf hn hb
  calls := by
    intro S w args vs x y hS hG hav hpat hfx
    have hr := hrun args x y hpat hfx
    have hal := hav.length
    have hsz := hlen args x hpat
    refine (callsIn_wide (n := 0)).1 (callsIn_of_wp_marks hf hb trivial ?_)
    have hrel : Rel P w.heap.size w S fn.ntmps ⟨[], fun _ => none⟩ (fun _ => undef) ⟨S, fun _ => none⟩ { regs := enumRegs 0 args, mem := [], nx := 0 } (act0 fn vs) w := by
      refine ⟨fun t x hx => ?_, ?_, ⟨[], rfl, by simp, fun r hr => by simp at hr⟩, fun id x b h => by simp [look] at h, hG, fun id x h => by simp [look] at h, fun id id' x x' b b' q h => by simp [look] at h, fun id x b q h => by simp [look] at h, hS, fun id b q h => by simp at h, fun id b h => by simp at h, Below.refl _ _, Nat.le_refl _, fun q hq => .inl hq⟩
      · obtain ⟨j, hj, hjx⟩ := look_enum hx
        obtain ⟨v, hv, hvr⟩ := hav.get hjx
        simp at hj
        subst hj
        have hlt : t < args.length := (List.getElem?_eq_some_iff.1 hjx).1
        rw [vof_lt (by omega), act0_get hv]; exact hvr
      · simp only [act0]; simp; omega
    have fin : ∀ g' σ' (a' : Act) w', retQ c fn.results.toList dec σ' = some y → Rel P w.heap.size w S fn.ntmps ⟨[], fun _ => none⟩ (fun _ => undef) g' σ' a' w' → LeavesInM Fence.wide 0 P fn a'.tmps (fun e w' => ∃ u, e = .returned u ∧ Below w.heap.size w w' ∧ AVR ⟨fun k => S k ∨ (w.heap.size ≤ k ∧ k < w'.heap.size), fun _ => none⟩ w' (s.enc y) u) a'.defers .returning w' := by
      intro g' σ' a' w' hk h'
      refine Rel.leaves (a := a') rfl h' fun w2 h2 => ?_
      obtain ⟨v, hv, hvr⟩ := retQ_ok h2 C hdec hk
      exact ⟨v, hv, v, rfl, h2.bel, hvr⟩
    unfold runFn at hr
    refine run_ok (hnd_ok hm d subs hsub) C hN wide_ok hm (fun _ => rfl) body hl hrg hrel (fun e g' σ' a' w' hk h' => ?_) hr
    cases e with
    | normal => exact fin g' σ' a' w' hk h'
    | ret => exact fin g' σ' a' w' hk h'
    | exit i => simp at hk
    | goto l => simp at hk

/-! A function whose result is new memory. -/
def ownF {Y : Type} (m : Mem) (dec : AB → Option Y) : At → Option Y
  | .own id => match look id m with
    | some (.row τ l) => dec (.row τ l)
    | _ => none
  | .clip τ [] => dec (.row τ [])
  | .sub id off n => match Nat.beq off 0 with
    | true => match look id m with
      | some (.row τ l) => match Nat.ble (off + n) l.length with
        | true => dec (.row τ ((l.drop off).take n))
        | false => none
      | _ => none
    | false => none
  | .mapr id => match look id m with
    | some (.map ag κ τ l ck) => dec (.map ag κ τ l ck)
    | _ => none
  | _ => none
def retF {Y : Type} (c : Cfg) (res : List ResultVar) (dec : AB → Option Y) (σ : St) : Option Y :=
  resI c σ res fun l => match l with
    | [.one x] => ownF σ.mem dec x
    | _ => none
noncomputable def runFr {Y : Type} (H : Hnd Y) (c : Cfg) (lp : List (Nat × Hd Y)) (body : Code) (res : List ResultVar) (args : List AV) (dec : AB → Option Y) : Option Y :=
  run H c lp body { regs := enumRegs 0 args, mem := [], nx := 0 } fun e σ => match e with
    | .normal => retF c res dec σ
    | .ret => retF c res dec σ
    | _ => none

theorem pure_ofCells {ag : Bool} {l : List At} {y : V1} (h : V1.ofCells ag l = some y) (hl : ∀ y ∈ l, pureA y = true) {g g' : Gh} {w : World} {v : Value} (hv : V1R g w y v) (hS : ∀ q, g.S q → g'.S q) : V1R g' w y v := by
  unfold V1.ofCells at h
  split at h
  · cases h
    obtain ⟨vs, rfl, ha⟩ := hv
    exact ⟨vs, rfl, ha.monoMem fun a hm b hb => hb.pure (hl a hm) hS⟩
  · cases h; exact VA.pure (x := _) hv (hl _ (by simp)) hS
  · cases h

theorem BR.pure {g g' : Gh} {b : Gb} {x : AB} (h : BR P g w b x) (hx : ∃ y, frAt 0 x = some y) (hS : ∀ q, g.S q → g'.S q) : BR P g' w b x := by
  obtain ⟨y0, hy0⟩ := hx
  cases x <;> simp only [frAt, reduceCtorEq] at hy0
  case row τ l =>
    obtain ⟨h1, h2, h3⟩ := h
    refine ⟨h1, h2, ?_⟩
    rcases h3 with h3 | ⟨k, cs, e, hb, hh, hs, hl, ho, ha⟩
    · exact .inl h3
    · exact .inr ⟨k, cs, e, hb, hh, hs, hl, ho, fun i x j y hx hy => let ⟨v, hv, ha'⟩ := ha i x j y hx hy; ⟨v, hv, ha'.pure (enc_pure τ x j y hy) hS⟩⟩
  case map ag κ τ l ck =>
    obtain ⟨k, es, hb, hh, ha⟩ := h
    exact ⟨k, es, hb, hh, ha.mono fun x e k => k.of fun y v hy hv => pure_ofCells hy (fun z hz => let ⟨j, hj⟩ := List.getElem?_of_mem hz; enc_pure τ _ j z hj) hv hS⟩

theorem ownF_ok (h : Rel P base w0 S0 N D sv g σ a w) {Y : Type} {dec : AB → Option Y} {y : Y} {x : At} {v : Value} (hv : VA g w x v) (hs : ownF σ.mem dec x = some y) : ∃ ab, dec ab = some y ∧ FrR P S0 base w ab v := by
  have fin : ∀ (id : Nat) (ab : AB) (b : Gb), look id σ.mem = some ab → g.m id = some b → BR P g w b ab → ab.live = true → (∃ y, frAt 0 ab = some y ∧ VA ⟨fun _ => False, fun i => if i = 0 then some b else none⟩ w y v) → ab.isLoop = false → FrR P S0 base w ab v := by
    intro id ab b hl hm hb hlive hy hlp
    refine ⟨b, fun k hk => ⟨(h.own id ab b k hl hlive hm hk).1, h.blk id b k hm hk⟩, hlive, hlp, hb.pure ⟨_, hy.choose_spec.1⟩ fun q hq => ?_, hy⟩
    rcases h.sub q hq with h' | h'
    · exact .inl h'
    · exact .inr ⟨h', h.S q hq, fun e => (h.own id ab b q hl hlive hm e).2 hq⟩
  cases x <;> simp only [ownF, reduceCtorEq] at hs
  case own id =>
    split at hs
    · rename_i τ l hl
      obtain ⟨b, hm, hb⟩ := h.mem id _ hl
      refine ⟨_, hs, fin id _ b hl hm hb rfl ⟨.own 0, rfl, ?_⟩ rfl⟩
      cases hv with
      | own _ b' a hm' hk h0 => rw [hm] at hm'; cases hm'; exact .own 0 b a (by simp) hk h0
    · simp at hs
  case clip τ l =>
    cases l with
    | cons _ _ => simp at hs
    | nil =>
      refine ⟨_, hs, ⟨none, 0, 0, τ.n, default⟩, fun k hk => by simp at hk, rfl, rfl, ⟨rfl, rfl, .inl ⟨rfl, rfl, rfl⟩⟩, .own 0, rfl, ?_⟩
      cases hv with
      | clip _ _ ad n bk of f hn ha hcell hf =>
        simp only [List.length_nil] at hn
        subst hn
        exact VA.own 0 ⟨none, 0, 0, τ.n, default⟩ ad (by simp) (fun q hq => by simp at hq) (fun _ => ⟨rfl, rfl⟩)
  case sub id off n =>
    split at hs
    · rename_i h0
      have h0 := Nat.eq_of_beq_eq_true h0
      subst h0
      split at hs
      · rename_i τ l hl
        split at hs
        · rename_i hle
          have hle := Nat.le_of_ble_eq_true hle
          obtain ⟨b, hm, hb⟩ := h.mem id _ hl
          cases hv with
          | sub _ _ _ b' a c hm' hl' hc hk =>
            rw [hm] at hm'; cases hm'
            have hb0 := hb
            obtain ⟨h1, h2, h3⟩ := hb
            by_cases hcp : b.cp = 0
            · have hln : l = [] := by
                rcases h3 with h3 | ⟨k, cs, e, hbk, hh, hsz, hll, ho, ha⟩
                · exact h3.2.1
                · rw [hcp] at hll; exact List.eq_nil_of_length_eq_zero (by omega)
              subst hln
              simp only [List.length_nil] at hle
              have hn : n = 0 := by omega
              subst hn
              have hc0 : c = 0 := by omega
              subst hc0
              exact ⟨_, hs, ⟨none, 0, 0, τ.n, default⟩, fun k hk => by simp at hk, rfl, rfl, ⟨rfl, rfl, .inl ⟨rfl, rfl, rfl⟩⟩, .own 0, rfl, VA.own 0 ⟨none, 0, 0, τ.n, default⟩ a (by simp) (fun q hq => by simp at hq) (fun _ => ⟨rfl, rfl⟩)⟩
            · rcases h3 with h3 | ⟨k, cs, e, hbk, hh, hsz, hll, ho, ha⟩
              · exact absurd h3.2.2 hcp
              · have hlen : ((l.drop 0).take n).length = n := by simp; omega
                have hb2 : BR P g w ⟨b.blk, n, b.cp, b.sz, b.val⟩ (.row τ ((l.drop 0).take n)) := by
                  refine ⟨h1, hlen.symm, .inr ⟨k, cs, e, hbk, hh, hsz, (by rw [hlen]; show n ≤ b.cp; omega), ho, fun i x j y hx hy => ?_⟩⟩
                  refine ha i x j y ?_ hy
                  rw [List.drop_zero] at hx
                  have hi := (List.getElem?_eq_some_iff.1 hx).1
                  rw [List.getElem?_take_of_lt (by simp at hi; omega)] at hx
                  exact hx
                have hc0 : c = b.cp := by omega
                subst hc0
                obtain ⟨k', hk', ha'⟩ := hk hcp
                rw [hbk] at hk'; cases hk'
                refine ⟨_, hs, ⟨b.blk, n, b.cp, b.sz, b.val⟩, fun k hk => ⟨(h.own id _ b k hl rfl hm hk).1, h.blk id b k hm hk⟩, rfl, rfl, hb2.pure ⟨.own 0, rfl⟩ fun q hq => ?_, .own 0, rfl, ?_⟩
                · rcases h.sub q hq with h' | h'
                  · exact .inl h'
                  · exact .inr ⟨h', h.S q hq, fun e => (h.own id _ b q hl rfl hm e).2 hq⟩
                · refine VA.own 0 ⟨b.blk, n, b.cp, b.sz, b.val⟩ a (by simp) (fun q hq => ?_) (fun hq => ?_)
                  · simp only at hq
                    rw [hbk] at hq; cases hq
                    rw [ha']; simp
                  · simp only at hq; rw [hbk] at hq; cases hq
        · simp at hs
      · simp at hs
    · simp at hs
  case mapr id =>
    split at hs
    · rename_i ag κ τ l ck hl
      obtain ⟨b, hm, hb⟩ := h.mem id _ hl
      refine ⟨_, hs, fin id _ b hl hm hb rfl ⟨.mapr 0, rfl, ?_⟩ rfl⟩
      cases hv with
      | mapr _ b' k hm' hk => rw [hm] at hm'; cases hm'; exact .mapr 0 b k (by simp) hk
    · simp at hs

/-- A FUNCTION WHOSE RESULT IS NEW MEMORY DOES WHAT ITS SPEC SAYS. -/
theorem freshOK_of {f : Nat} {fn : Func} {body : Code} {s : FSpec} {Y : Type} {enc : Y → AB} {dec : AB → Option Y} (hf : P.funcs[f]? = some fn) (hn : (fn.name == "runtime.NumGoroutine") = false) (hb : fn.body = some body) (C : CfgOK P c) (hN : c.N = fn.ntmps) (hoff : fn.ntmps ≤ OFF) (hm : P.follows .mixedOrders = true)
    (hdec : ∀ x y, dec x = some y → x = enc y) (hlen : ∀ args x, s.pat args = some x → args.length ≤ fn.ntmps) {d : Nat} {subs : List (Nat × Inl Y)} (hsub : SubsOK P d subs) {lp : List (Nat × Hd Y)} (hl : LoopsOK (hnd d subs) c lp body) (hrg : RngsOK P c body)
    (hrun : ∀ args x ab, s.pat args = some x → s.f x = some ab → ∃ y, ab = enc y ∧ runFr (hnd d subs) c lp body fn.results.toList args dec = some y) : FreshOK P f s where
  enters := enters_of hf hn hb
  calls := by
    intro S w args vs x ab hS hG hav hpat hfx
    obtain ⟨y, rfl, hr⟩ := hrun args x ab hpat hfx
    have hal := hav.length
    have hsz := hlen args x hpat
    refine (callsIn_wide (n := 0)).1 (callsIn_of_wp_marks hf hb trivial ?_)
    have hrel : Rel P w.heap.size w S fn.ntmps ⟨[], fun _ => none⟩ (fun _ => undef) ⟨S, fun _ => none⟩ { regs := enumRegs 0 args, mem := [], nx := 0 } (act0 fn vs) w := by
      refine ⟨fun t x hx => ?_, ?_, ⟨[], rfl, by simp, fun r hr => by simp at hr⟩, fun id x b h => by simp [look] at h, hG, fun id x h => by simp [look] at h, fun id id' x x' b b' q h => by simp [look] at h, fun id x b q h => by simp [look] at h, hS, fun id b q h => by simp at h, fun id b h => by simp at h, Below.refl _ _, Nat.le_refl _, fun q hq => .inl hq⟩
      · obtain ⟨j, hj, hjx⟩ := look_enum hx
        obtain ⟨v, hv, hvr⟩ := hav.get hjx
        simp at hj
        subst hj
        have hlt : t < args.length := (List.getElem?_eq_some_iff.1 hjx).1
        rw [vof_lt (by omega), act0_get hv]; exact hvr
      · simp only [act0]; simp; omega
    have fin : ∀ g' σ' (a' : Act) w', retF c fn.results.toList dec σ' = some y → Rel P w.heap.size w S fn.ntmps ⟨[], fun _ => none⟩ (fun _ => undef) g' σ' a' w' → LeavesInM Fence.wide 0 P fn a'.tmps (fun e w' => ∃ u, e = .returned u ∧ Below w.heap.size w w' ∧ FrR P S w.heap.size w' (enc y) u) a'.defers .returning w' := by
      intro g' σ' a' w' hk h'
      refine Rel.leaves (a := a') rfl h' fun w2 h2 => ?_
      obtain ⟨ys, us, hk2, hr2, ha⟩ := resI_ok h2 C _ hk
      split at hk2
      · rename_i x
        cases ha with
        | cons h3 h4 =>
          cases h4
          obtain ⟨ab, hd, hF⟩ := ownF_ok h2 h3 hk2
          rw [hdec _ _ hd] at hF
          exact ⟨_, results_val hr2, _, rfl, h2.bel, hF⟩
      · cases hk2
    unfold runFr at hr
    refine run_ok (hnd_ok hm d subs hsub) C hN wide_ok hm (fun _ => rfl) body hl hrg hrel (fun e g' σ' a' w' hk h' => ?_) hr
    cases e with
    | normal => exact fin g' σ' a' w' hk h'
    | ret => exact fin g' σ' a' w' hk h'
    | exit i => simp at hk
    | goto l => simp at hk

end
end Go.Eng
/- THE ENGINE: the shape of a state at a loop's head, as data: what of it varies; that a state of that shape is just what varies. -/
set_option linter.unusedSimpArgs false
set_option linter.unusedVariables false
set_option linter.unnecessarySimpa false
namespace Go.Eng
open Go Go.RowKit

inductive HA where
  | int (k : IntKind)
  | bool
  | str
  | sl (τ : Ty)
  | clip (τ : Ty)
  | sub (id : Nat)
  | eptr (id j : Nat)
  | vptr (τ : Ty) (j : Nat)
  | own (id : Nat)
  | ptr (id off : Nat)
  | fnc (f : Nat)
  | clo (id : Nat)
  | iter (id : Nat)
  | yld (id : Nat)
  | gl (τ : Ty)
  | mapr (id : Nat)
  | strk (s : Str)
  | intk (k : IntKind) (n : Int)
  | boolk (b : Bool)
  | nilp
  | nilf
  | nilm
  | dead

@[reducible] def HA.V : HA → Type
  | .int _ => Int
  | .bool => Bool
  | .str => Str
  | .sl τ => List τ.T
  | .clip τ => List τ.T
  | .sub _ => Nat × Nat
  | .eptr _ _ => Nat
  | .vptr τ _ => τ.T
  | .gl τ => List τ.T
  | _ => Unit

def HA.st : (h : HA) → h.V → At
  | .int k, x => .int k x
  | .bool, x => .bool x
  | .str, x => .str x
  | .sl τ, x => .sl τ x
  | .clip τ, x => .clip τ x
  | .sub id, x => .sub id x.1 x.2
  | .eptr id j, x => .eptr id x j
  | .vptr τ j, x => .vptr τ x j
  | .own id, _ => .own id
  | .ptr id off, _ => .ptr id off
  | .fnc f, _ => .fnc f
  | .clo id, _ => .clo id
  | .iter id, _ => .iter id
  | .yld id, _ => .yld id
  | .gl τ, x => .gl τ x
  | .mapr id, _ => .mapr id
  | .strk s, _ => .str s
  | .intk k n, _ => .int k n
  | .boolk b, _ => .bool b
  | .nilp, _ => .nilp
  | .nilf, _ => .nilf
  | .nilm, _ => .nilm
  | .dead, _ => .dead

def castT : (τ τ' : Ty) → τ.T → Option τ'.T
  | .int, .int, l => some l
  | .byte, .byte, l => some l
  | .str, .str, l => some l
  | .entry, .entry, l => some l
  | .inode, .inode, l => some l
  | .seen, .seen, l => some l
  | .kept, .kept, l => some l
  | .opn, .opn, l => some l
  | .clls, .clls, l => some l
  | .shp, .shp, l => some l
  | .rule, .rule, l => some l
  | .bool, .bool, l => some l
  | .fn, .fn, l => some l
  | .parts, .parts, l => some l
  | .strs, .strs, l => some l
  | _, _, _ => none

theorem castT_ok {τ τ' : Ty} {l : τ.T} {l' : τ'.T} (h : castT τ τ' l = some l') : ∃ e : τ = τ', e ▸ l = l' := by
  cases τ <;> cases τ' <;> simp [castT] at h <;> exact ⟨rfl, h⟩

def beq2 (a b c d : Nat) : Bool := match Nat.beq a b with | true => Nat.beq c d | false => false
theorem beq2_ok {a b c d : Nat} (h : beq2 a b c d = true) : a = b ∧ c = d := by
  unfold beq2 at h
  split at h
  · rename_i e; exact ⟨Nat.eq_of_beq_eq_true e, Nat.eq_of_beq_eq_true h⟩
  · cases h

def HA.sh : (h : HA) → At → Option h.V
  | .int k, .int k' x => match ikeq k k' with | true => some x | false => none
  | .bool, .bool x => some x
  | .str, .str x => some x
  | .sl τ, .sl τ' x => castL τ' τ x
  | .clip τ, .clip τ' x => castL τ' τ x
  | .sub id, .sub i a b => match Nat.beq id i with | true => some (a, b) | false => none
  | .eptr id j, .eptr id' x j' => match beq2 id id' j j' with | true => some x | false => none
  | .vptr τ j, .vptr τ' x j' => match Nat.beq j j' with | true => castT τ' τ x | false => none
  | .own id, .own i => match Nat.beq id i with | true => some () | false => none
  | .ptr id off, .ptr i o => match beq2 id i off o with | true => some () | false => none
  | .fnc f, .fnc g => match Nat.beq f g with | true => some () | false => none
  | .clo f, .clo g => match Nat.beq f g with | true => some () | false => none
  | .iter f, .iter g => match Nat.beq f g with | true => some () | false => none
  | .yld f, .yld g => match Nat.beq f g with | true => some () | false => none
  | .gl τ, .gl τ' x => castL τ' τ x
  | .mapr f, .mapr g => match Nat.beq f g with | true => some () | false => none
  | .strk s, .str x => match s == x with | true => some () | false => none
  | .intk k n, .int k' x => match ikeq k k', n == x with | true, true => some () | _, _ => none
  | .boolk true, .bool true => some ()
  | .boolk false, .bool false => some ()
  | .nilp, .nilp => some ()
  | .nilf, .nilf => some ()
  | .nilm, .nilm => some ()
  | .dead, .dead => some ()
  | _, _ => none

theorem ikeq_ok {k k' : IntKind} (h : ikeq k k' = true) : k = k' := by cases k <;> cases k' <;> simp [ikeq] at h <;> rfl

theorem HA.eq {h : HA} {a : At} {v : h.V} (e : h.sh a = some v) : a = h.st v := by
  cases h <;> cases a <;> simp only [HA.sh, reduceCtorEq] at e
  case int.int k k' x => split at e <;> simp at e; rename_i hk; rw [ikeq_ok hk]; simp [HA.st, e]
  case bool.bool => simp at e; simp [HA.st, e]
  case str.str => simp at e; simp [HA.st, e]
  case sl.sl τ τ' l => obtain ⟨rfl, h⟩ := castL_ok e; simp at h; subst h; rfl
  case clip.clip τ τ' l => obtain ⟨rfl, h⟩ := castL_ok e; simp at h; subst h; rfl
  case sub.sub id i p q => split at e <;> simp at e; rename_i hk; rw [Nat.eq_of_beq_eq_true hk]; subst e; rfl
  case eptr.eptr => split at e <;> simp at e; rename_i hk; obtain ⟨h1, h2⟩ := beq2_ok hk; subst h1; subst h2; subst e; rfl
  case vptr.vptr =>
    split at e
    · rename_i hk
      have := Nat.eq_of_beq_eq_true hk
      subst this
      obtain ⟨rfl, h⟩ := castT_ok e; simp at h; subst h; rfl
    · simp at e
  case own.own => split at e <;> simp at e; rename_i hk; rw [Nat.eq_of_beq_eq_true hk]; rfl
  case ptr.ptr => split at e <;> simp at e; rename_i hk; obtain ⟨h1, h2⟩ := beq2_ok hk; subst h1; subst h2; rfl
  case fnc.fnc => split at e <;> simp at e; rename_i hk; rw [Nat.eq_of_beq_eq_true hk]; rfl
  case clo.clo => split at e <;> simp at e; rename_i hk; rw [Nat.eq_of_beq_eq_true hk]; rfl
  case iter.iter => split at e <;> simp at e; rename_i hk; rw [Nat.eq_of_beq_eq_true hk]; rfl
  case yld.yld => split at e <;> simp at e; rename_i hk; rw [Nat.eq_of_beq_eq_true hk]; rfl
  case mapr.mapr => split at e <;> simp at e; rename_i hk; rw [Nat.eq_of_beq_eq_true hk]; rfl
  case strk.str => split at e <;> simp at e; rename_i hk; rw [beq_iff_eq.1 hk]; rfl
  case intk.int => split at e <;> simp at e; rename_i hk hn; rw [ikeq_ok hk, beq_iff_eq.1 hn]; rfl
  case boolk.bool a b => cases a <;> cases b <;> first | rfl | (simp [HA.sh] at e)
  case gl.gl τ τ' l => obtain ⟨rfl, h⟩ := castL_ok e; simp at h; subst h; rfl
  all_goals rfl

@[reducible] def HL.V : List HA → Type
  | [] => Unit
  | h :: l => h.V × HL.V l
def HL.st : (l : List HA) → HL.V l → List At
  | [], _ => []
  | h :: l, v => h.st v.1 :: HL.st l v.2
def HL.sh : (l : List HA) → List At → Option (HL.V l)
  | [], [] => some ()
  | h :: l, a :: r => match h.sh a, HL.sh l r with
    | some x, some y => some (x, y)
    | _, _ => none
  | _, _ => none
theorem HL.eq : ∀ {l : List HA} {r : List At} {v : HL.V l}, HL.sh l r = some v → r = HL.st l v
  | [], [], _, _ => rfl
  | [], _ :: _, _, e => by simp [HL.sh] at e
  | _ :: _, [], _, e => by simp [HL.sh] at e
  | h :: l, a :: r, v, e => by
    simp only [HL.sh] at e
    split at e
    · rename_i x y hx hy
      cases e
      simp only [HL.st]
      rw [HA.eq hx, HL.eq hy]
    · simp at e

inductive HV where
  | one (h : HA)
  | agg (l : List HA)
  | undef

@[reducible] def HV.V : HV → Type
  | .one h => h.V
  | .agg l => HL.V l
  | .undef => Unit
def HV.st : (h : HV) → h.V → AV
  | .one h, v => .v (.one (h.st v))
  | .agg l, v => .v (.agg (HL.st l v))
  | .undef, _ => .undef
def HV.sh : (h : HV) → AV → Option h.V
  | .one h, .v (.one a) => h.sh a
  | .agg l, .v (.agg r) => HL.sh l r
  | .undef, .undef => some ()
  | _, _ => none
theorem HV.eq {h : HV} {a : AV} {v : h.V} (e : h.sh a = some v) : a = h.st v := by
  unfold HV.sh at e
  split at e
  · rw [HV.st, ← HA.eq e]
  · rw [HV.st, ← HL.eq e]
  · rfl
  · simp at e

@[reducible] def HR.V : List (Nat × HV) → Type
  | [] => Unit
  | h :: l => h.2.V × HR.V l
def HR.st : (l : List (Nat × HV)) → HR.V l → Regs
  | [], _ => []
  | h :: l, v => (h.1, h.2.st v.1) :: HR.st l v.2
def HR.sh : (l : List (Nat × HV)) → Regs → Option (HR.V l)
  | [], [] => some ()
  | h :: l, a :: r => match Nat.beq h.1 a.1, h.2.sh a.2, HR.sh l r with
    | true, some x, some y => some (x, y)
    | _, _, _ => none
  | _, _ => none
theorem HR.eq : ∀ {l : List (Nat × HV)} {r : Regs} {v : HR.V l}, HR.sh l r = some v → r = HR.st l v
  | [], [], _, _ => rfl
  | [], _ :: _, _, e => by simp [HR.sh] at e
  | _ :: _, [], _, e => by simp [HR.sh] at e
  | h :: l, a :: r, v, e => by
    simp only [HR.sh] at e
    split at e
    · rename_i x y hk hx hy
      cases e
      simp only [HR.st]
      rw [← HV.eq hx, ← HR.eq hy, Nat.eq_of_beq_eq_true hk]
    · simp at e

/-- A map's entries of one type as those of another: only where they are one. -/
def castM : (κ κ' τ τ' : Ty) → List (κ.T × τ.T × Nat) → Option (List (κ'.T × τ'.T × Nat))
  | .int, .int, .int, .int, l => some l
  | .int, .int, .bool, .bool, l => some l
  | .int, .int, .inode, .inode, l => some l
  | .int, .int, .fn, .fn, l => some l
  | .str, .str, .int, .int, l => some l
  | .str, .str, .bool, .bool, l => some l
  | _, _, _, _, _ => none
theorem castM_ok {κ κ' τ τ' : Ty} {l : List (κ.T × τ.T × Nat)} {l' : List (κ'.T × τ'.T × Nat)} (h : castM κ κ' τ τ' l = some l') (ag : Bool) (ck : Nat) : AB.map ag κ τ l ck = AB.map ag κ' τ' l' ck := by
  unfold castM at h
  split at h <;> first | (cases h; rfl) | cases h

inductive HB where
  | cells (l : List HA)
  | row (τ : Ty)
  | clo (f : Nat) (a b : List HA)
  | iter
  | capk (h : HA)
  | loop (ph : Bool) (n fid rid : Nat) (regs : List (Nat × HV))
  | map (ag : Bool) (κ τ : Ty)

@[reducible] def HB.V : HB → Type
  | .cells l => HL.V l
  | .row τ => List τ.T
  | .clo _ a b => HL.V a × HL.V b
  | .iter => Str × Nat
  | .capk h => h.V × Nat
  | .loop _ _ _ _ regs => HR.V regs
  | .map _ κ τ => List (κ.T × τ.T × Nat) × Nat
def HB.st : (h : HB) → h.V → AB
  | .cells l, v => .cells (HL.st l v)
  | .row τ, v => .row τ v
  | .clo f a b, v => .clo f (HL.st a v.1) (HL.st b v.2)
  | .iter, v => .iter v.1 v.2
  | .capk h, v => .capk (h.st v.1) v.2
  | .loop ph n fid rid regs, v => .loop ph n fid rid (HR.st regs v)
  | .map ag κ τ, v => .map ag κ τ v.1 v.2
def HB.sh : (h : HB) → AB → Option h.V
  | .cells l, .cells r => HL.sh l r
  | .row τ, .row τ' l => castL τ' τ l
  | .clo f a b, .clo g x y => match Nat.beq f g, HL.sh a x, HL.sh b y with
    | true, some p, some q => some (p, q)
    | _, _, _ => none
  | .iter, .iter s p => some (s, p)
  | .capk h, .capk x n => match h.sh x with
    | some p => some (p, n)
    | none => none
  | .loop ph n fid rid regs, .loop ph' n' fid' rid' r => match (match ph, ph' with | true, true => true | false, false => true | _, _ => false), Nat.beq n n', beq2 fid fid' rid rid' with
    | true, true, true => HR.sh regs r
    | _, _, _ => none
  | .map ag κ τ, .map ag' κ' τ' l ck => match (match ag, ag' with | true, true => true | false, false => true | _, _ => false), castM κ' κ τ' τ l with
    | true, some l' => some (l', ck)
    | _, _ => none
  | _, _ => none
theorem HB.eq {h : HB} {a : AB} {v : h.V} (e : h.sh a = some v) : a = h.st v := by
  unfold HB.sh at e
  split at e
  · rw [HB.st, ← HL.eq e]
  · obtain ⟨rfl, h⟩ := castL_ok e; simp at h; subst h; rfl
  · split at e
    · rename_i hf hx hy
      cases e
      rw [HB.st, ← HL.eq hx, ← HL.eq hy, Nat.eq_of_beq_eq_true hf]
    · simp at e
  · cases e; rfl
  · split at e
    · rename_i hx
      cases e
      rw [HB.st, ← HA.eq hx]
    · simp at e
  · split at e
    · rename_i hp hn hf
      obtain ⟨h1, h2⟩ := beq2_ok hf
      rw [HB.st, ← HR.eq e, Nat.eq_of_beq_eq_true hn, h1, h2]
      split at hp <;> first | rfl | cases hp
    · simp at e
  · split at e
    · rename_i hp hl
      cases e
      rw [HB.st, castM_ok hl]
      split at hp <;> first | rfl | cases hp
    · simp at e
  · simp at e

@[reducible] def HM.V : List (Nat × HB) → Type
  | [] => Unit
  | h :: l => h.2.V × HM.V l
def HM.st : (l : List (Nat × HB)) → HM.V l → Mem
  | [], _ => []
  | h :: l, v => (h.1, h.2.st v.1) :: HM.st l v.2
def HM.sh : (l : List (Nat × HB)) → Mem → Option (HM.V l)
  | [], [] => some ()
  | h :: l, a :: r => match Nat.beq h.1 a.1, h.2.sh a.2, HM.sh l r with
    | true, some x, some y => some (x, y)
    | _, _, _ => none
  | _, _ => none
theorem HM.eq : ∀ {l : List (Nat × HB)} {r : Mem} {v : HM.V l}, HM.sh l r = some v → r = HM.st l v
  | [], [], _, _ => rfl
  | [], _ :: _, _, e => by simp [HM.sh] at e
  | _ :: _, [], _, e => by simp [HM.sh] at e
  | h :: l, a :: r, v, e => by
    simp only [HM.sh] at e
    split at e
    · rename_i x y hk hx hy
      cases e
      simp only [HM.st]
      rw [← HB.eq hx, ← HM.eq hy, Nat.eq_of_beq_eq_true hk]
    · simp at e

structure HS where
  regs : List (Nat × HV)
  mem : List (Nat × HB)
  nx : Nat

abbrev HS.V (h : HS) : Type := HR.V h.regs × HM.V h.mem
def HS.st (h : HS) (v : h.V) : St := { regs := HR.st h.regs v.1, mem := HM.st h.mem v.2, nx := h.nx }
def HS.sh (h : HS) (σ : St) : Option h.V :=
  match HR.sh h.regs σ.regs, HM.sh h.mem σ.mem, Nat.beq h.nx σ.nx with
  | some x, some y, true => some (x, y)
  | _, _, _ => none
theorem HS.eq {h : HS} {σ : St} {v : h.V} (e : h.sh σ = some v) : σ = h.st v := by
  unfold HS.sh at e
  split at e
  · rename_i x y hx hy hn
    cases e
    unfold HS.st
    rw [← HR.eq hx, ← HM.eq hy, Nat.eq_of_beq_eq_true hn]
  · simp at e

/-- How often a loop may go round. -/
noncomputable def FUEL : Nat := Classical.choose (⟨1099511627776, Nat.le_refl _⟩ : ∃ n : Nat, 1099511627776 ≤ n)
theorem FUEL_ge : 1099511627776 ≤ FUEL := Classical.choose_spec (⟨1099511627776, Nat.le_refl _⟩ : ∃ n : Nat, 1099511627776 ≤ n)

section
variable {R : Type} {H : Hnd R} {c : Cfg} {lp : List (Nat × Hd R)} {b : Code}

/-- A loop's head that reads a state of a shape. -/
noncomputable def hdOf (h : HS) (l : Nat → h.V → (Ex → St → Option R) → Option R) : Hd R := fun σ K => ocase (h.sh σ) fun v => l FUEL v K

theorem loopOK_of (h : HS) (l : Nat → h.V → (Ex → St → Option R) → Option R) (h0 : ∀ v K, l 0 v K = none) (h1 : ∀ q v K, l (q + 1) v K = run H c lp b (h.st v) fun e σ' => match e with
    | .normal => keepIf (look (firstRegion b) c.loops) σ' fun σ'' => ocase (h.sh σ'') fun v => l q v K
    | .exit i => K (.exit i) σ'
    | .goto l => K (.goto l) σ'
    | .ret => K .ret σ') : LoopOK H c lp b h.V h.st h.sh l (hdOf h l) :=
  ⟨⟨FUEL, fun _ _ => rfl⟩, fun _ _ e => HS.eq e, h0, h1⟩

def LoopsL (H : Hnd R) (c : Cfg) (lp : List (Nat × Hd R)) : List Code → Prop
  | [] => True
  | b :: l => (match look (firstRegion b) lp with
    | none => True
    | some h => ∃ V st sh l, LoopOK H c lp b V st sh l h) ∧ LoopsL H c lp l

theorem loopsL_mem : ∀ {l : List Code}, LoopsL H c lp l → ∀ b, b ∈ l → ∀ h, look (firstRegion b) lp = some h → ∃ V st sh l, LoopOK H c lp b V st sh l h
  | [], _, b, hb, _, _ => by simp at hb
  | x :: l, hl, b, hb, h, hh => by
    simp only [List.mem_cons] at hb
    rcases hb with rfl | hb
    · have := hl.1
      rw [hh] at this
      exact this
    · exact loopsL_mem hl.2 b hb h hh

theorem loopsOK_of {code : Code} {l : List Code} (e : loopsOf code = l) (h : LoopsL H c lp l) : LoopsOK H c lp code := by
  subst e; exact loopsL_mem h

variable {P : Program} [GlobL P]
theorem subsOK_nil (P : Program) [GlobL P] (d : Nat) : SubsOK P (R := R) d [] := by
  cases d with
  | zero => trivial
  | succ d => exact ⟨fun t fid cfg lp body res subs' h => by simp [look] at h, fun t fid rid cfg lp ps assign body subs' h => by simp [look] at h⟩

theorem rngs0 {code : Code} (h : rngsOf code = []) : RngsOK P c code := fun _ x hx => by rw [h] at hx; cases hx
theorem rngs1 {code : Code} {x : Array Tmp × Code × Code} (h : rngsOf code = [x]) (h2 : rngOf P c.fid (firstRegion x.2.2) = some x) : RngsOK P c code := fun _ y hy => by
  rw [h] at hy
  rcases List.mem_singleton.1 hy with rfl
  exact h2

theorem look_cons1 {α : Type 1} {i n : Nat} {x : α} {l : List (Nat × α)} : look n ((i, x) :: l) = if i = n then some x else look n l := by
  simp only [look]
  split
  · rename_i h; rw [if_pos (Nat.eq_of_beq_eq_true h)]
  · rename_i h; rw [if_neg (fun e => by subst e; simp at h)]

theorem subsOK_cons {d t fid : Nat} {cfg : Cfg} {lp : List (Nat × Hd R)} {body : Code} {res : List ResultVar} {subs' l : List (Nat × Inl R)} {fn : Func} (h1 : P.funcs[fid]? = some fn) (h2 : (fn.name == "runtime.NumGoroutine") = false) (h3 : fn.body = some body) (h4 : cfg.N = fn.ntmps) (h5 : fn.results.toList = res)
    (C : CfgOK P cfg) (hl : LoopsOK (hnd d subs') cfg lp body) (hrg : RngsOK P cfg body) (hs : SubsOK P d subs') (h : SubsOK P (d + 1) l) : SubsOK P (d + 1) ((t, .mk fid cfg lp body res subs') :: l) := by
  refine ⟨fun t' fid' cfg' lp' body' res' subs'' hlk => ?_, fun t' fid' rid' cfg' lp' ps' assign' body' subs'' hlk => ?_⟩
  · rw [look_cons1] at hlk
    split at hlk
    · cases hlk
      exact ⟨⟨fn, h1, h2, h3, h4, h5⟩, C, hl, hrg, hs⟩
    · exact h.1 t' fid' cfg' lp' body' res' subs'' hlk
  · rw [look_cons1] at hlk
    split at hlk
    · cases hlk
    · exact h.2 t' fid' rid' cfg' lp' ps' assign' body' subs'' hlk
theorem subsOK_round {d t fid rid : Nat} {cfg : Cfg} {lp : List (Nat × Hd R)} {ps : List Nat} {assign body : Code} {subs' l : List (Nat × Inl R)} (h1 : rngOf P fid rid = some (ps.toArray, assign, body))
    (C : CfgOK P cfg) (hla : LoopsOK (hnd d subs') cfg lp assign) (hlb : LoopsOK (hnd d subs') cfg lp body) (hs : SubsOK P d subs') (h : SubsOK P (d + 1) l) : SubsOK P (d + 1) ((t, .rnd fid rid cfg lp ps assign body subs') :: l) := by
  refine ⟨fun t' fid' cfg' lp' body' res' subs'' hlk => ?_, fun t' fid' rid' cfg' lp' ps' assign' body' subs'' hlk => ?_⟩
  · rw [look_cons1] at hlk
    split at hlk
    · cases hlk
    · exact h.1 t' fid' cfg' lp' body' res' subs'' hlk
  · rw [look_cons1] at hlk
    split at hlk
    · cases hlk
      exact ⟨h1, C, hla, hlb, hs⟩
    · exact h.2 t' fid' rid' cfg' lp' ps' assign' body' subs'' hlk
end
end Go.Eng
/- THE ENGINE: specs out of shapes. -/
set_option linter.unusedSimpArgs false
set_option linter.unusedVariables false
set_option linter.unnecessarySimpa false
namespace Go.Eng
open Go Go.RowKit

@[reducible] def HP.V : List HV → Type
  | [] => Unit
  | h :: l => h.V × HP.V l
def HP.st : (l : List HV) → HP.V l → List AV
  | [], _ => []
  | h :: l, v => h.st v.1 :: HP.st l v.2
def HP.sh : (l : List HV) → List AV → Option (HP.V l)
  | [], [] => some ()
  | h :: l, a :: r => match h.sh a, HP.sh l r with
    | some x, some y => some (x, y)
    | _, _ => none
  | _, _ => none
theorem HP.eq : ∀ {l : List HV} {r : List AV} {v : HP.V l}, HP.sh l r = some v → r = HP.st l v
  | [], [], _, _ => rfl
  | [], _ :: _, _, e => by simp [HP.sh] at e
  | _ :: _, [], _, e => by simp [HP.sh] at e
  | h :: l, a :: r, v, e => by
    simp only [HP.sh] at e
    split at e
    · rename_i x y hx hy
      cases e
      simp only [HP.st]
      rw [← HV.eq hx, ← HP.eq hy]
    · simp at e
theorem HP.len : ∀ {l : List HV} {v : HP.V l}, (HP.st l v).length = l.length
  | [], _ => rfl
  | h :: l, v => by simp [HP.st, HP.len]

def v1Of : AV → V1
  | .v x => x
  | _ => .agg []
@[reducible] def HX.V : List HV → Type
  | [] => Unit
  | [h] => h.V
  | h :: l => h.V × HX.V l
def HX.stL : (l : List HV) → HX.V l → List V1
  | [], _ => []
  | [h], v => [v1Of (h.st v)]
  | h :: h2 :: l, v => v1Of (h.st v.1) :: HX.stL (h2 :: l) v.2
def HX.st : (l : List HV) → HX.V l → AV
  | [], _ => .tup []
  | [h], v => h.st v
  | h :: h2 :: l, v => .tup (HX.stL (h :: h2 :: l) v)
def HX.shL : (l : List HV) → List V1 → Option (HX.V l)
  | [], [] => some ()
  | [h], [a] => h.sh (.v a)
  | h :: h2 :: l, a :: r => match h.sh (.v a), HX.shL (h2 :: l) r with
    | some x, some y => some (x, y)
    | _, _ => none
  | _, _ => none
def HX.sh : (l : List HV) → AV → Option (HX.V l)
  | [], .tup [] => some ()
  | [h], a => h.sh a
  | h :: h2 :: l, .tup r => HX.shL (h :: h2 :: l) r
  | _, _ => none
theorem HV.v1 {h : HV} {a : V1} {v : h.V} (e : h.sh (.v a) = some v) : v1Of (h.st v) = a := by rw [← HV.eq e]; rfl
theorem HX.eqL : ∀ {l : List HV} {r : List V1} {v : HX.V l}, HX.shL l r = some v → r = HX.stL l v
  | [], [], _, _ => rfl
  | [], _ :: _, _, e => by simp [HX.shL] at e
  | [h], [], _, e => by simp [HX.shL] at e
  | [h], [a], v, e => by simp only [HX.shL] at e; simp only [HX.stL]; rw [HV.v1 e]
  | [h], _ :: _ :: _, _, e => by simp [HX.shL] at e
  | _ :: _ :: _, [], _, e => by simp [HX.shL] at e
  | h :: h2 :: l, a :: r, v, e => by
    simp only [HX.shL] at e
    split at e
    · rename_i x y hx hy
      cases e
      simp only [HX.stL]
      rw [HV.v1 hx, ← HX.eqL hy]
    · simp at e
theorem HX.eq {l : List HV} {a : AV} {v : HX.V l} (e : HX.sh l a = some v) : a = HX.st l v := by
  unfold HX.sh at e
  split at e
  · rfl
  · simp only [HX.st]; exact HV.eq e
  · simp only [HX.st]; rw [← HX.eqL e]
  · simp at e

/-- A function's spec: the shapes of its arguments and results. -/
def mkSpec {X Y : Type} (hp hx : List HV) (toX : HP.V hp → X) (ofY : Y → HX.V hx) (f : X → Option Y) : Spec where
  X := X
  Y := Y
  pat := fun l => match HP.sh hp l with | some v => some (toX v) | none => none
  f := f
  enc := fun y => HX.st hx (ofY y)

def decOf {Y : Type} (hx : List HV) (toY : HX.V hx → Y) : AV → Option Y := fun a => match HX.sh hx a with | some v => some (toY v) | none => none

theorem specOK_mk {P : Program} [GlobL P] {fid : Nat} {fn : Func} {body : Code} {c : Cfg} {X Y : Type} {hp hx : List HV} {toX : HP.V hp → X} {ofY : Y → HX.V hx} {toY : HX.V hx → Y} {f : X → Option Y}
    (hf : P.funcs[fid]? = some fn) (hn : (fn.name == "runtime.NumGoroutine") = false) (hb : fn.body = some body) (C : CfgOK P c) (hN : c.N = fn.ntmps) (hoff : Nat.ble fn.ntmps OFF = true) (hm : P.follows .mixedOrders = true)
    (hle : Nat.ble hp.length fn.ntmps = true) (hty : ∀ v, ofY (toY v) = v) {d : Nat} {subs : List (Nat × Inl Y)} (hsub : SubsOK P d subs) {lp : List (Nat × Hd Y)} (hl : LoopsOK (hnd d subs) c lp body) (hrg : RngsOK P c body)
    (hrun : ∀ v, runFn (hnd d subs) c lp body fn.results.toList (HP.st hp v) (decOf hx toY) = f (toX v)) : SpecOK P fid (mkSpec hp hx toX ofY f) := by
  refine specOK_of (s := mkSpec hp hx toX ofY f) (dec := decOf hx toY) hf hn hb C hN (Nat.le_of_ble_eq_true hoff) hm (fun x y h => ?_) (fun args x h => ?_) hsub hl hrg (fun args x y h h' => ?_)
  · unfold decOf at h
    split at h
    · rename_i v hv
      cases h
      show x = HX.st hx (ofY (toY v))
      rw [hty, ← HX.eq hv]
    · cases h
  · simp only [mkSpec] at h
    split at h
    · rename_i v hv
      rw [HP.eq hv, HP.len]
      exact Nat.le_of_ble_eq_true hle
    · cases h
  · simp only [mkSpec] at h h'
    split at h
    · rename_i v hv
      cases h
      rw [HP.eq hv]
      exact (hrun v).trans h'
    · cases h

/-! Functions whose results are new memory. -/
def decRow (τ : Ty) : AB → Option (List τ.T)
  | .row τ' l => castL τ' τ l
  | _ => none
theorem decRow_ok {τ : Ty} : ∀ x y, decRow τ x = some y → x = .row τ y := by
  intro x y h
  cases x <;> simp only [decRow, reduceCtorEq] at h
  obtain ⟨e, h⟩ := castL_ok h
  subst e
  cases h
  rfl
/-- A map from numbers to functions. -/
def decFns : AB → Option (List (Int × Nat × Nat) × Nat)
  | .map false .int .fn l ck => some (l, ck)
  | _ => none
def encFns (y : List (Int × Nat × Nat) × Nat) : AB := .map false .int .fn y.1 y.2
theorem decFns_ok : ∀ x y, decFns x = some y → x = encFns y := by
  intro x y h
  unfold decFns at h
  split at h
  · cases h; rfl
  · cases h

def mkFresh {X Y : Type} (hp : List HV) (toX : HP.V hp → X) (enc : Y → AB) (f : X → Option Y) : FSpec where
  X := X
  Y := Y
  pat := fun l => match HP.sh hp l with | some v => some (toX v) | none => none
  g := f
  enc := enc

theorem freshOK_mk {P : Program} [GlobL P] {fid : Nat} {fn : Func} {body : Code} {c : Cfg} {X Y : Type} {hp : List HV} {toX : HP.V hp → X} {enc : Y → AB} {dec : AB → Option Y} {f : X → Option Y}
    (hf : P.funcs[fid]? = some fn) (hn : (fn.name == "runtime.NumGoroutine") = false) (hb : fn.body = some body) (C : CfgOK P c) (hN : c.N = fn.ntmps) (hoff : Nat.ble fn.ntmps OFF = true) (hm : P.follows .mixedOrders = true)
    (hle : Nat.ble hp.length fn.ntmps = true) (hdec : ∀ x y, dec x = some y → x = enc y) {d : Nat} {subs : List (Nat × Inl Y)} (hsub : SubsOK P d subs) {lp : List (Nat × Hd Y)} (hl : LoopsOK (hnd d subs) c lp body) (hrg : RngsOK P c body)
    (hrun : ∀ v, runFr (hnd d subs) c lp body fn.results.toList (HP.st hp v) dec = f (toX v)) : FreshOK P fid (mkFresh hp toX enc f) := by
  refine freshOK_of (s := mkFresh hp toX enc f) (enc := enc) (dec := dec) hf hn hb C hN (Nat.le_of_ble_eq_true hoff) hm hdec (fun args x h => ?_) hsub hl hrg (fun args x ab h h' => ?_)
  · simp only [mkFresh] at h
    split at h
    · rename_i v hv
      rw [HP.eq hv, HP.len]
      exact Nat.le_of_ble_eq_true hle
    · cases h
  · simp only [mkFresh] at h
    split at h
    · rename_i v hv
      cases h
      rw [HP.eq hv]
      unfold FSpec.f at h'
      simp only [mkFresh] at h'
      split at h'
      · rename_i y hy
        cases h'
        exact ⟨y, rfl, (hrun v).trans hy⟩
      · cases h'
    · cases h

def FreshL (P : Program) [GlobL P] : List (Nat × FSpec) → Prop
  | [] => True
  | x :: l => FreshOK P x.1 x.2 ∧ FreshL P l
theorem freshL_ok {P : Program} [GlobL P] : ∀ {l : List (Nat × FSpec)}, FreshL P l → ∀ f s, look f l = some s → FreshOK P f s
  | [], _, f, s, h => by simp [look] at h
  | x :: l, hl, f, s, h => by
    obtain ⟨i, y⟩ := x
    rw [look_cons1] at h
    split at h
    · rename_i e; cases h; subst e; exact hl.1
    · exact freshL_ok hl.2 f s h

def SpecsL (P : Program) [GlobL P] : List (Nat × Spec) → Prop
  | [] => True
  | x :: l => SpecOK P x.1 x.2 ∧ SpecsL P l
theorem specsL_ok {P : Program} [GlobL P] : ∀ {l : List (Nat × Spec)}, SpecsL P l → ∀ f s, look f l = some s → SpecOK P f s
  | [], _, f, s, h => by simp [look] at h
  | x :: l, hl, f, s, h => by
    obtain ⟨i, y⟩ := x
    rw [look_cons1] at h
    split at h
    · rename_i e; cases h; subst e; exact hl.1
    · exact specsL_ok hl.2 f s h
end Go.Eng
