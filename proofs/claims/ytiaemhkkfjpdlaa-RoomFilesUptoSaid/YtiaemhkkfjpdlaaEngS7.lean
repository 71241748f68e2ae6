import Derived.Test.YtiaemhkkfjpdlaaEngS6
import Derived.Laws.IdiomStrings
/- THE ENGINE, soundness, part 7: calls by their specs; all operations that turn no block. -/
set_option linter.unusedSimpArgs false
set_option linter.unusedVariables false
set_option linter.unnecessarySimpa false
namespace Go.Eng
open Go Go.RowKit

section
variable {P : Program} {F : Fence} {n : Nat} {c : Cfg} {g : Gh} {r : Regs} {m : Mem} {xs : List Operand} {a : Act} {w : World} {o : Oper} {R : Type} {k : AV → Option R} {res : R}

theorem fenced_of_wide (hF : WideF F) (mm : Machine) : mm.fenced P F := by
  intro gg _
  refine ⟨fun h => ?_, .inl (hF.fn _), fun _ _ => hF.fn _, fun _ h => ?_⟩
  · rw [hF.alive] at h; cases h
  · rw [hF.depth] at h; cases h

theorem callsIn_of_calls (hF : WideF F) {f : Nat} {args : Array Value} {Q : Ending → World → Prop} (h : Calls P f args w Q) : CallsIn F n P f args w Q := by
  refine ⟨hF.fn f, fun cs _ => ?_⟩
  obtain ⟨e, w', fr, hq, hc, hf, hl⟩ := h cs
  refine ⟨e, w', fr, hq, ?_, hf, hl⟩
  cases e with
  | returned v => exact (StepsIn.of_steps hc).mono fun _ _ => fenced_of_wide hF _
  | panicked ch => exact (StepsIn.of_steps hc).mono fun _ _ => fenced_of_wide hF _
  | outgrown => exact hc

/-- What a callee may see: what nobody writes, and these rows. -/
def Sees (g : Gh) (ids : List Nat) (S : Nat → Prop) : Prop := (∀ q, g.S q → S q) ∧ ∀ id b q, id ∈ ids → g.m id = some b → b.blk = some q → S q

theorem Sees.sub {ids ids' : List Nat} {S : Nat → Prop} (h : Sees g ids S) (hs : ∀ i, i ∈ ids' → i ∈ ids) : Sees g ids' S := ⟨h.1, fun id b q hi => h.2 id b q (hs id hi)⟩

theorem viewAt_ok {x : At} {v : Value} {S : Nat → Prop} {kk : At → Option R} (hm : MemOK g w m) (hv : VA g w x v) (hS : Sees g (ownsAt x) S) (h : viewAt m x kk = some res) :
    ∃ y, kk y = some res ∧ VA ⟨S, fun _ => none⟩ w y v := by
  cases x <;> simp only [viewAt, reduceCtorEq] at h
  case int κ q => exact ⟨_, h, hv.pure rfl hS.1⟩
  case bool b => exact ⟨_, h, hv.pure rfl hS.1⟩
  case str s => exact ⟨_, h, hv.pure rfl hS.1⟩
  case sl τ l => exact ⟨_, h, hv.pure rfl hS.1⟩
  case fnc f => exact ⟨_, h, hv.pure rfl hS.1⟩
  case clip τ l =>
    cases hv with
    | clip _ _ ad len bk of f hl ha hcell hf => exact ⟨_, h, (VA.sl τ l ad len len bk of f hl (Nat.le_refl _) ha hcell hf).pure rfl hS.1⟩
  case own id =>
    obtain ⟨τ, l, ad, len, cp, hk, e, hl, hvv, _⟩ := listOf_ok hm hv h
    exact ⟨_, hk, hvv ⟨S, fun _ => none⟩ hS.1 (fun i b q hi => hS.2 i b q hi)⟩
  case sub id off len =>
    obtain ⟨τ, l, ad, len, cp, hk, e, hl, hvv, _⟩ := listOf_ok hm hv h
    exact ⟨_, hk, hvv ⟨S, fun _ => none⟩ hS.1 (fun i b q hi => hS.2 i b q hi)⟩

theorem viewL_ok {S : Nat → Prop} (hm : MemOK g w m) : ∀ {l : List At} {vs : List Value} {kk : List At → Option R}, All2 (VA g w) l vs → Sees g (ownsL l) S → viewL m l kk = some res →
    ∃ l', kk l' = some res ∧ All2 (VA ⟨S, fun _ => none⟩ w) l' vs
  | [], _, kk, ha, _, h => by cases ha; exact ⟨[], h, .nil⟩
  | x :: l, _, kk, ha, hS, h => by
    cases ha with
    | cons h1 h2 =>
      simp only [viewL] at h
      obtain ⟨y, hy, hyv⟩ := viewAt_ok hm h1 (hS.sub fun i hi => by simp [ownsL, hi]) h
      obtain ⟨l', hl', hlv⟩ := viewL_ok hm h2 (hS.sub fun i hi => by simp [ownsL, hi]) hy
      exact ⟨_, hl', .cons hyv hlv⟩

theorem viewV_ok {x : AV} {v : Value} {S : Nat → Prop} {kk : AV → Option R} (hm : MemOK g w m) (hv : AVR g w x v) (hS : Sees g (ownsVs [x]) S) (h : viewV m x kk = some res) :
    ∃ y, kk y = some res ∧ AVR ⟨S, fun _ => none⟩ w y v := by
  unfold viewV at h
  split at h
  · rename_i y
    obtain ⟨z, hz, hzv⟩ := viewAt_ok hm hv (hS.sub fun i hi => by simp [ownsVs, hi]) h
    exact ⟨_, hz, hzv⟩
  · rename_i l
    obtain ⟨vs, rfl, ha⟩ := hv
    obtain ⟨l', hl', hlv⟩ := viewL_ok hm ha (hS.sub fun i hi => by simp [ownsVs, hi]) h
    exact ⟨_, hl', vs, rfl, hlv⟩
  · simp at h

theorem ownsVs_cons {x : AV} {l : List AV} : (∀ i, i ∈ ownsVs [x] → i ∈ ownsVs (x :: l)) ∧ ∀ i, i ∈ ownsVs l → i ∈ ownsVs (x :: l) := by
  cases x with
  | v y => cases y <;> exact ⟨fun i hi => by simp [ownsVs] at hi ⊢; exact .inl hi, fun i hi => by simp [ownsVs, hi]⟩
  | tup l => exact ⟨fun i hi => by simp [ownsVs] at hi, fun i hi => by simpa [ownsVs] using hi⟩
  | undef => exact ⟨fun i hi => by simp [ownsVs] at hi, fun i hi => by simpa [ownsVs] using hi⟩
  | dead => exact ⟨fun i hi => by simp [ownsVs] at hi, fun i hi => by simpa [ownsVs] using hi⟩

theorem viewVs_ok {S : Nat → Prop} (hm : MemOK g w m) : ∀ {l : List AV} {vs : List Value} {kk : List AV → Option R}, All2 (AVR g w) l vs → Sees g (ownsVs l) S → viewVs m l kk = some res →
    ∃ l', kk l' = some res ∧ All2 (AVR ⟨S, fun _ => none⟩ w) l' vs
  | [], _, kk, ha, _, h => by cases ha; exact ⟨[], h, .nil⟩
  | x :: l, _, kk, ha, hS, h => by
    cases ha with
    | cons h1 h2 =>
      simp only [viewVs] at h
      obtain ⟨y, hy, hyv⟩ := viewV_ok hm h1 (hS.sub ownsVs_cons.1) h
      obtain ⟨l', hl', hlv⟩ := viewVs_ok hm h2 (hS.sub ownsVs_cons.2) hy
      exact ⟨_, hl', .cons hyv hlv⟩

theorem evArgs_ok (E : Env P c g r m xs a w) : ∀ {l : List Operand} {ts : List TypeId} {as : List AV}, (∀ x ∈ l, x ∈ xs) → evArgs c r l ts = some as → All2 (AVR g w) as (l.map a.eval)
  | [], ts, as, _, h => by simp [evArgs] at h; subst h; exact .nil
  | x :: l, ts, as, hx, h => by
    simp only [evArgs] at h
    split at h
    · rename_i y l' hy hl'
      cases h
      exact .cons (E.ev x (hx x (by simp)) _ _ hy) (evArgs_ok E (fun x' h' => hx x' (by simp [h'])) hl')
    · simp at h

theorem specQ_ok {s : Spec} {as : List AV} (h : specQ s as k = some res) : ∃ x y, s.pat as = some x ∧ s.f x = some y ∧ k (s.enc y) = some res := by
  unfold specQ at h
  split at h
  · rename_i x hx
    obtain ⟨y, hy, hk⟩ := ocase_some h
    exact ⟨x, y, hx, hy, hk⟩
  · simp at h

theorem run_call {f : Operand} {args : Array Operand} {ts : Array TypeId} {nn : Nat} (hop : o.op = .call { callee := .value f, args, argTypes := ts }) (hf : a.eval f = .func (.func nn) #[] #[]) (he : ∀ args w, (callFunc nn args).run P w = .ok (.enter nn args) w) :
    (execOp a.eval o).run P w = .ok (.enter nn (args.map a.eval)) w := by
  simp [execOp, hop, resolve, hf, Deferred.ofValue, invoke, he]

/-- A call, where what is handed in is seen by the callee. -/
theorem call_ok (E : Env P c g r m xs a w) (hF : WideF F) {f : Operand} {args : Array Operand} {ts : Array TypeId} (hf : f ∈ xs) (hxs : ∀ x ∈ args.toList, x ∈ xs) (hop : o.op = .call { callee := .value f, args, argTypes := ts }) {nn : Nat} {as : List AV}
    (hn : calleeOf c r f = some nn) (has : evArgs c r args.toList ts.toList = some as) {s : Spec} (hs : look nn c.spec = some s) {kk : AV → Option R} (h : viewVs m as (fun as' => specQ s as' kk) = some res) :
    ∃ y, kk y = some res ∧ ∀ (K : Act → World → Prop) (Q : Exit → Act → World → Prop) (S : Nat → Prop), Sees g (ownsVs as) S → (∀ q, S q → q < w.heap.size) →
      (∀ v w', Below w.heap.size w w' → AVR ⟨fun k => S k ∨ (w.heap.size ≤ k ∧ k < w'.heap.size), fun _ => none⟩ w' y v → K (a.put o.dst v) w') → o.wpIn F n P a w K Q := by
  have hal := evArgs_ok E hxs has
  have key : ∀ S, Sees g (ownsVs as) S → (∀ q, S q → q < w.heap.size) → ∃ y, kk y = some res ∧ Calls P nn (args.map a.eval) w fun e w' => ∃ v, e = .returned v ∧ Below w.heap.size w w' ∧ AVR ⟨fun k => S k ∨ (w.heap.size ≤ k ∧ k < w'.heap.size), fun _ => none⟩ w' y v := by
    intro S hS hSb
    obtain ⟨as', h', hav⟩ := viewVs_ok E.mem hal hS h
    obtain ⟨x, y, hx, hy, hk⟩ := specQ_ok h'
    refine ⟨_, hk, ?_⟩
    have := (E.sp nn s hs).calls S w as' _ x y hSb hav hx hy
    have e : (args.toList.map a.eval).toArray = args.map a.eval := by apply Array.ext'; simp
    rwa [e] at this
  have hfv : a.eval f = .func (.func nn) #[] #[] := by
    unfold calleeOf at hn
    split at hn
    · rename_i q hq
      cases hn
      have := E.ev f hf _ _ hq
      generalize a.eval f = u at this ⊢
      cases this; rfl
    · simp at hn
  -- which value comes does not hang on what the callee may see
  have uniq : ∃ y, kk y = some res ∧ ∀ S, Sees g (ownsVs as) S → (∀ q, S q → q < w.heap.size) → Calls P nn (args.map a.eval) w fun e w' => ∃ v, e = .returned v ∧ Below w.heap.size w w' ∧ AVR ⟨fun k => S k ∨ (w.heap.size ≤ k ∧ k < w'.heap.size), fun _ => none⟩ w' y v := by
    obtain ⟨as', hsome, hvw⟩ : ∃ as', viewVs m as (fun as' => specQ s as' kk) = specQ s as' kk ∧ ∀ {R' : Type} (k' : List AV → Option R'), viewVs m as k' = k' as' := by
      have one : ∀ {R' : Type} (x : At) (k' : At → Option R), viewAt m x k' = some res → ∃ y, ∀ {R' : Type} (k' : At → Option R'), viewAt m x k' = k' y := by
        intro _ x k' h
        cases x <;> simp only [viewAt, reduceCtorEq] at h
        case int κ q => exact ⟨_, fun k' => rfl⟩
        case bool b => exact ⟨_, fun k' => rfl⟩
        case str s => exact ⟨_, fun k' => rfl⟩
        case sl τ l => exact ⟨_, fun k' => rfl⟩
        case clip τ l => exact ⟨_, fun k' => rfl⟩
        case fnc f => exact ⟨_, fun k' => rfl⟩
        case own id =>
          simp only [listOf] at h
          split at h
          · rename_i τ l hl; exact ⟨.sl τ l, fun k' => by simp [viewAt, listOf, hl]⟩
          · simp at h
        case sub id off len =>
          simp only [listOf] at h
          split at h
          · rename_i τ l hl
            split at h
            · rename_i hle; exact ⟨.sl τ ((l.drop off).take len), fun k' => by simp [viewAt, listOf, hl, hle]⟩
            · simp at h
          · simp at h
      have many : ∀ (l : List At) (k' : List At → Option R), viewL m l k' = some res → ∃ l', ∀ {R' : Type} (k' : List At → Option R'), viewL m l k' = k' l' := by
        intro l
        induction l with
        | nil => intro k' _; exact ⟨[], fun _ => rfl⟩
        | cons x l ih =>
          intro k' h
          simp only [viewL] at h
          obtain ⟨y, hy⟩ := one (R' := R) x _ h
          rw [hy] at h
          obtain ⟨l', hl'⟩ := ih _ h
          exact ⟨y :: l', fun k'' => by simp only [viewL, hy, hl']⟩
      have val : ∀ (x : AV) (k' : AV → Option R), viewV m x k' = some res → ∃ y, ∀ {R' : Type} (k' : AV → Option R'), viewV m x k' = k' y := by
        intro x k' h
        unfold viewV at h
        split at h
        · obtain ⟨y, hy⟩ := one (R' := R) _ _ h; exact ⟨.one y, fun k'' => by simp only [viewV, hy]⟩
        · obtain ⟨y, hy⟩ := many _ _ h; exact ⟨.agg y, fun k'' => by simp only [viewV, hy]⟩
        · simp at h
      have vals : ∀ (l : List AV) (k' : List AV → Option R), viewVs m l k' = some res → ∃ l', ∀ {R' : Type} (k' : List AV → Option R'), viewVs m l k' = k' l' := by
        intro l
        induction l with
        | nil => intro k' _; exact ⟨[], fun _ => rfl⟩
        | cons x l ih =>
          intro k' h
          simp only [viewVs] at h
          obtain ⟨y, hy⟩ := val x _ h
          rw [hy] at h
          obtain ⟨l', hl'⟩ := ih _ h
          exact ⟨y :: l', fun k'' => by simp only [viewVs, hy, hl']⟩
      obtain ⟨as', has'⟩ := vals as _ h
      exact ⟨as', has' _, has'⟩
    rw [hsome] at h
    obtain ⟨x, y, hx, hy, hk⟩ := specQ_ok h
    refine ⟨_, hk, fun S hS hSb => ?_⟩
    obtain ⟨as2, h2, hav⟩ := viewVs_ok (R := List AV) (res := as') (kk := some) E.mem hal hS (hvw some)
    cases h2
    have := (E.sp nn s hs).calls S w as' _ x y hSb hav hx hy
    have e : (args.toList.map a.eval).toArray = args.map a.eval := by apply Array.ext'; simp
    rwa [e] at this
  obtain ⟨y, hk, hcalls⟩ := uniq
  refine ⟨y, hk, fun K Q S hS hSb hK => ?_⟩
  refine ⟨fun f _ => hF.fn f, ?_⟩
  rw [Oper.semAt_eq _ _ _ (by simp [hop]), run_call hop hfv (E.sp nn s hs).enters]
  refine ⟨fun hd => (by rw [hF.depth] at hd; cases hd), ?_⟩
  refine (callsIn_of_calls hF (hcalls S hS hSb)).mono ?_
  rintro e w' ⟨v, rfl, hb, hv⟩
  exact hK v w' hb hv

theorem q_call (E : Env P c g r m xs a w) (hF : WideF F) {f : Operand} {args : Array Operand} {ts : Array TypeId} (hf : f ∈ xs) (hxs : ∀ x ∈ args.toList, x ∈ xs) (hop : o.op = .call { callee := .value f, args, argTypes := ts }) {nn : Nat} {as : List AV}
    (hn : calleeOf c r f = some nn) (has : evArgs c r args.toList ts.toList = some as) {s : Spec} (hs : look nn c.spec = some s) (h : viewVs m as (fun as' => specQ s as' fun y => match flatV y, ownsVs as with
        | true, _ => k y
        | false, [] => k y
        | _, _ => none) = some res) : ∃ y, k y = some res ∧ QRes P F n g w o a y := by
  obtain ⟨y, hy, hcall⟩ := call_ok (n := n) E hF hf hxs hop hn has hs h
  split at hy
  · rename_i hfl
    refine ⟨y, hy, fun K Q hK => hcall K Q (fun q => q < w.heap.size) ⟨E.S, fun id b q _ hb hq => E.blk id b q hb hq⟩ (fun q h => h) fun v w' hb hv => hK v w' hb (hv.flat hfl)⟩
  · rename_i hown
    refine ⟨y, hy, fun K Q hK => hcall K Q g.S ⟨fun _ h => h, fun id b q hi => by rw [hown] at hi; simp at hi⟩ E.S fun v w' hb hv => hK v w' hb (hv.mono (Holds.refl _ _) ⟨fun _ h => h, fun _ _ h => by cases h⟩)⟩
  · simp at hy

theorem q_convBytes (E : Env P c g r m xs a w) (hF : WideF F) {s d : TypeId} {x : Operand} (hx : x ∈ xs) (hop : o.op = .convert s d x) {ti tj : TI} {τ0 : Ty} {e0 : TypeId} (hs : c.ti s = some ti) (hsk : ti.k = .slice τ0 e0) (hd : c.ti d = some tj) (hdk : tj.k = .str) {te : TI} (hte : c.ti e0 = some te) (htk : te.k = .int .u8)
    {p : At} (hq : Go.Eng.ev c r s x = some (.one p)) (h : listOf m p (fun τ l => ocase (castL τ .byte l) fun b => k (.one (.str b))) = some res) : ∃ y, k y = some res ∧ QRes P F n g w o a y := by
  obtain ⟨i, ds, T⟩ := E.ts s ti hs
  obtain ⟨j, dd, T'⟩ := E.ts d tj hd
  obtain ⟨j2, d2, T2⟩ := E.ts e0 te hte
  have e2 := T'.str hdk
  obtain ⟨e1, _⟩ := T.slice hsk
  have e3 := T2.int htk
  subst e1; subst e2; subst e3
  have hv := E.ev x hx _ _ hq
  generalize hxv : a.eval x = v at hv
  obtain ⟨τ, l, ad, len, cp, hk, rfl, hl, _, hcells⟩ := listOf_ok E.mem hv h
  obtain ⟨bs, hb, hk⟩ := ocase_some hk
  have hτ : ∃ e : τ = .byte, e ▸ l = bs := by
    cases τ <;> simp [castL] at hb
    exact ⟨rfl, hb⟩
  obtain ⟨rfl, hb⟩ := hτ
  simp only at hb
  subst hb
  refine ⟨_, hk, QRes.val hF (by simp [hop]) (v := .string ⟨l.toArray⟩) ?_ (VA.str _ _ (by simp))⟩
  by_cases hne : l = []
  · subst hne
    simp at hl
    subst hl
    simp only [execOp, hop, hxv, convert, Sem.run_bind, run_underlying T.und, run_underlying T'.und, Result.andThen_ok, run_underlying T2.und]
    cases ad with
    | none => simp [Conv.bytesToString]; rfl
    | some ad => simp [Conv.bytesToString, loadCells, loadCellsFrom]; rfl
  · obtain ⟨bk, of, f, rfl, hc, hf⟩ := hcells hne
    have hb := run_convert_bytes_back (P := P) w s d e0 ⟨bk, of, none⟩ cp l T.und T2.und T'.und (fun j hj => by
      rw [add_none]
      have h1 := hc j 0 hj (by decide)
      have h2 := hf j l[j] 0 (.int .u8 (l[j] : UInt8).toNat) (by simp [hj]) rfl
      simp only [Ty.n, Nat.mul_one, Nat.add_zero] at h1
      rw [h1]
      generalize f j 0 = u at h2 ⊢
      cases h2; rfl)
    subst hl
    simp only [execOp, hop, hxv, Sem.run_bind, hb, Result.andThen_ok]
    rfl

theorem evalQ_ok (E : Env P c g r m xs a w) (hF : WideF F) (hxs : ∀ x ∈ o.op.operands.toList, x ∈ xs) (h : evalQ c r m o k = some res) : ∃ y, k y = some res ∧ QRes P F n g w o a y := by
  unfold evalQ at h
  split at h
  · rename_i x hop
    exact q_move E hF (hxs x (by simp [hop, Op.operands])) (.inl hop) h
  · rename_i x hop
    exact q_move E hF (hxs x (by simp [hop, Op.operands])) (.inr hop) h
  · rename_i b x y hop
    split at h
    · exact q_pick E hF (hxs b (by simp [hop, Op.operands])) (hxs x (by simp [hop, Op.operands])) (hxs y (by simp [hop, Op.operands])) hop ‹_› h
    · simp at h
  · rename_i t x hop
    split at h
    · exact q_load E hF (hxs x (by simp [hop, Op.operands])) hop ‹_› ‹_› h
    · simp at h
  · rename_i x hop
    have hx := hxs x (by simp [hop, Op.operands])
    split at h
    · exact q_nilCheck E hF hx hop ‹_› h (.inl ⟨_, _, rfl⟩)
    · exact q_nilCheck E hF hx hop ‹_› h (.inr (.inl ⟨_, _, _, rfl⟩))
    · exact q_nilCheck E hF hx hop ‹_› h (.inr (.inr (.inl ⟨_, _, _, rfl⟩)))
    · exact q_nilCheck E hF hx hop ‹_› h (.inr (.inr (.inr (.inl ⟨_, rfl⟩))))
    · exact q_nilCheck E hF hx hop ‹_› h (.inr (.inr (.inr (.inr ⟨_, rfl⟩))))
    · simp at h
  · rename_i s x f hop
    split at h
    · split at h
      · exact q_fieldAddr E hF (hxs x (by simp [hop, Op.operands])) hop ‹_› rfl ‹_› ‹_› h
      · simp at h
    · simp at h
  · rename_i t x f hop
    split at h
    · split at h
      · split at h
        · split at h
          · exact q_field E hF (hxs x (by simp [hop, Op.operands])) hop ‹c.ti t = _› rfl ‹_› ‹_› ‹c.ti _ = some _› ‹_› h
          · simp at h
        · simp at h
      · simp at h
    · simp at h
  · rename_i t x i hop
    split at h
    · exact q_indexAddr E hF (hxs x (by simp [hop, Op.operands])) (hxs i (by simp [hop, Op.operands])) hop ‹_› ‹_› h
    · simp at h
  · rename_i t x i hop
    split at h
    · obtain ⟨i', d, T⟩ := E.ts t _ ‹c.ti t = _›
      have e := T.str rfl
      subst e
      exact q_index E hF (hxs x (by simp [hop, Op.operands])) (hxs i (by simp [hop, Op.operands])) hop ‹_› ‹_› T.und h
    · simp at h
  · rename_i t parts hop
    split at h
    · refine q_build E hF (fun q hq => hxs q.2 ?_) hop ‹_› rfl rfl h
      simp only [hop, Op.operands, List.mem_map]
      exact ⟨q, hq, rfl⟩
    · simp at h
  · rename_i op t x y t' hop
    split at h
    · exact q_bin E hF (hxs x (by simp [hop, Op.operands])) (hxs y (by simp [hop, Op.operands])) hop ‹_› ‹_› h
    · simp at h
  · rename_i op t x hop
    split at h
    · exact q_un E hF (hxs x (by simp [hop, Op.operands])) hop ‹_› h
    · simp at h
  · rename_i s d x hop
    have hx := hxs x (by simp [hop, Op.operands])
    split at h
    · exact q_convInt E hF hx hop ‹c.ti s = _› rfl ‹c.ti d = _› rfl ‹_› h
    · exact q_convStr E hF hx hop ‹c.ti s = _› rfl ‹c.ti d = _› rfl ‹_› h
    · split at h
      · exact q_convBytes E hF hx hop ‹c.ti s = _› rfl ‹c.ti d = _› rfl ‹c.ti _ = some _› rfl ‹_› h
      · simp at h
    · exact q_convRune E hF hx hop ‹c.ti s = _› rfl ‹c.ti d = _› rfl ‹_› h
    · simp at h
  · rename_i x i hop
    split at h
    · split at h
      · exact q_extract E hF (hxs x (by simp [hop, Op.operands])) hop ‹_› ‹_› h
      · simp at h
    · simp at h
  · rename_i t x lo hi mx hop
    split at h
    · refine q_slice E hF (hxs x (by simp [hop, Op.operands])) (fun y hy => hxs y ?_) (fun y hy => hxs y ?_) (fun y hy => hxs y ?_) hop ‹_› h <;> simp [hop, Op.operands, hy]
    · simp at h
  · rename_i f p q hop
    split at h
    · rename_i hp hq
      obtain rfl : p = #[] := by apply Array.ext'; simpa using hp
      obtain rfl : q = #[] := by apply Array.ext'; simpa using hq
      exact q_makeFunc E hF hop h
    · simp at h
  · rename_i args ts hop
    split at h
    · rename_i x t hp hq
      obtain rfl : args = #[x] := by apply Array.ext'; simpa using hp
      obtain rfl : ts = #[t] := by apply Array.ext'; simpa using hq
      split at h
      · exact q_len E hF (hxs x (by simp [hop, Op.operands, Call.operands])) hop ‹_› h
      · simp at h
    · simp at h
  · rename_i f args ts hop
    split at h
    · split at h
      · refine q_call E hF (hxs f (by simp [hop, Op.operands, Call.operands])) (fun x hx => hxs x ?_) hop ‹_› ‹_› ‹_› h
        simp only [hop, Op.operands, Call.operands, Array.toList_append, List.mem_append]
        exact .inr hx
      · simp at h
    · simp at h
  · simp at h

end
end Go.Eng
