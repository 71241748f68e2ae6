import Derived.Test.YtiaemhkkfjpdlaaEngC
import Derived.Laws.Sem
import Derived.Laws.Cells
import Derived.RowKit3
/- THE ENGINE, soundness, part 1: what a value of the model reads as; kept while what is not written any more stays. -/
set_option linter.unusedSimpArgs false
set_option linter.unusedVariables false
set_option linter.unnecessarySimpa false
namespace Go.Eng
open Go Go.RowKit

/-- What is known of a block of the activation's own. -/
structure Gb where
  blk : Option Nat
  ln : Nat
  cp : Nat
  sz : Nat
  val : Value

/-- The ghost: which blocks nobody writes any more; where the activation's own blocks lie. -/
structure Gh where
  S : Nat → Prop
  m : Nat → Option Gb

inductive VA (g : Gh) (w : World) : At → Value → Prop where
  | int (k : IntKind) (n : Int) : VA g w (.int k n) (.int k n)
  | bool (b : Bool) : VA g w (.bool b) (.bool b)
  | str (s : Str) (b : ByteArray) (h : b.data.toList = s) : VA g w (.str s) (.string b)
  | sl (τ : Ty) (l : List τ.T) (a : Option Addr) (n c bk of : Nat) (f : Nat → Nat → Value) (hn : n = l.length) (hc : n ≤ c)
      (ha : l ≠ [] → a = some ⟨bk, of, none⟩ ∧ g.S bk)
      (hcell : ∀ i j, i < l.length → j < τ.n → w.cell? ⟨bk, of + (i * τ.n + j), none⟩ = some (f i j))
      (hf : ∀ i x j y, l[i]? = some x → (τ.enc x)[j]? = some y → VA g w y (f i j)) : VA g w (.sl τ l) (.slice a n c)
  | clip (τ : Ty) (l : List τ.T) (a : Option Addr) (n bk of : Nat) (f : Nat → Nat → Value) (hn : n = l.length)
      (ha : l ≠ [] → a = some ⟨bk, of, none⟩ ∧ g.S bk)
      (hcell : ∀ i j, i < l.length → j < τ.n → w.cell? ⟨bk, of + (i * τ.n + j), none⟩ = some (f i j))
      (hf : ∀ i x j y, l[i]? = some x → (τ.enc x)[j]? = some y → VA g w y (f i j)) : VA g w (.clip τ l) (.slice a n n)
  | own (id : Nat) (b : Gb) (a : Option Addr) (hm : g.m id = some b) (hk : ∀ k, b.blk = some k → a = some ⟨k, 0, none⟩) (h0 : b.blk = none → b.cp = 0 ∧ b.ln = 0) : VA g w (.own id) (.slice a b.ln b.cp)
  | sub (id off len : Nat) (b : Gb) (a : Option Addr) (c : Nat) (hm : g.m id = some b) (hl : off + len ≤ b.cp) (hc : c = b.cp - off)
      (hk : c ≠ 0 → ∃ k, b.blk = some k ∧ a = some ⟨k, off * b.sz, none⟩) : VA g w (.sub id off len) (.slice a len c)
  | ptr (id off : Nat) (b : Gb) (k : Nat) (hm : g.m id = some b) (hk : b.blk = some k) : VA g w (.ptr id off) (.pointer (some ⟨k, off, none⟩))
  | eptr (id i j : Nat) (b : Gb) (k : Nat) (hm : g.m id = some b) (hk : b.blk = some k) : VA g w (.eptr id i j) (.pointer (some ⟨k, i * b.sz + j, none⟩))
  | vptr (τ : Ty) (x : τ.T) (j bk of : Nat) (f : Nat → Value) (ha : g.S bk)
      (hcell : ∀ i, i < τ.n → w.cell? ⟨bk, of + i, none⟩ = some (f i))
      (hf : ∀ i y, (τ.enc x)[i]? = some y → VA g w y (f i)) : VA g w (.vptr τ x j) (.pointer (some ⟨bk, of + j, none⟩))
  | fnc (f : Nat) : VA g w (.fnc f) (.func (.func f) #[] #[])
  | clo (id : Nat) (b : Gb) (f : Nat) (fs cs : Array Value) (hm : g.m id = some b) (hv : b.val = .func (.func f) fs cs) : VA g w (.clo id) (.func (.func f) fs cs)
  | mapr (id : Nat) (b : Gb) (k : Nat) (hm : g.m id = some b) (hk : b.blk = some k) : VA g w (.mapr id) (.map (some k))
  | iter (id : Nat) (b : Gb) (k : Nat) (hm : g.m id = some b) (hk : b.blk = some k) : VA g w (.iter id) (.pointer (some ⟨k, 0, none⟩))
  | nilp : VA g w .nilp (.pointer none)
  | nilf : VA g w .nilf .nilFunc
  | nilm : VA g w .nilm (.map none)
  | dead (v : Value) (h : v.oneCell' = true) : VA g w .dead v

theorem VA.one {g : Gh} {w : World} {x : At} {v : Value} (h : VA g w x v) : v.oneCell' = true := by
  cases h <;> first | rfl | assumption

/-- Nothing that nobody writes any more has turned. -/
def Holds (g : Gh) (w w' : World) : Prop := ∀ k, g.S k → w'.heap[k]? = w.heap[k]?

structure Gh.le (g g' : Gh) : Prop where
  S : ∀ k, g.S k → g'.S k
  m : ∀ id b, g.m id = some b → g'.m id = some b

theorem Gh.le.refl (g : Gh) : g.le g := ⟨fun _ h => h, fun _ _ h => h⟩
theorem Gh.le.trans {a b c : Gh} (h : a.le b) (k : b.le c) : a.le c := ⟨fun _ x => k.S _ (h.S _ x), fun _ _ x => k.m _ _ (h.m _ _ x)⟩

theorem cell_of_heap {w w' : World} {k : Nat} (h : w'.heap[k]? = w.heap[k]?) (o : Nat) : w'.cell? ⟨k, o, none⟩ = w.cell? ⟨k, o, none⟩ := World.cell?_of_block (w := w) h

theorem ne_of_lt {α : Type} {l : List α} {i : Nat} (h : i < l.length) : l ≠ [] := by intro e; subst e; simp at h

theorem VA.mono {g g' : Gh} {w w' : World} {x : At} {v : Value} (h : VA g w x v) (hw : Holds g w w') (hg : g.le g') : VA g' w' x v := by
  induction h with
  | int k n => exact .int k n
  | bool b => exact .bool b
  | str s b h => exact .str s b h
  | sl τ l a n c bk of f hn hc ha hcell hf ih =>
    refine .sl τ l a n c bk of f hn hc (fun e => ⟨(ha e).1, hg.S _ (ha e).2⟩) (fun i j hi hj => ?_) ih
    rw [cell_of_heap (hw bk (ha (ne_of_lt hi)).2)]; exact hcell i j hi hj
  | clip τ l a n bk of f hn ha hcell hf ih =>
    refine .clip τ l a n bk of f hn (fun e => ⟨(ha e).1, hg.S _ (ha e).2⟩) (fun i j hi hj => ?_) ih
    rw [cell_of_heap (hw bk (ha (ne_of_lt hi)).2)]; exact hcell i j hi hj
  | own id b a hm hk h0 => exact .own id b a (hg.m _ _ hm) hk h0
  | sub id off len b a c hm hl hc hk => exact .sub id off len b a c (hg.m _ _ hm) hl hc hk
  | ptr id off b k hm hk => exact .ptr id off b k (hg.m _ _ hm) hk
  | eptr id i j b k hm hk => exact .eptr id i j b k (hg.m _ _ hm) hk
  | vptr τ x j bk of f ha hcell hf ih =>
    refine .vptr τ x j bk of f (hg.S _ ha) (fun i hi => ?_) ih
    rw [cell_of_heap (hw bk ha)]; exact hcell i hi
  | fnc f => exact .fnc f
  | clo id b f fs cs hm hv => exact .clo id b f fs cs (hg.m _ _ hm) hv
  | mapr id b k hm hk => exact .mapr id b k (hg.m _ _ hm) hk
  | iter id b k hm hk => exact .iter id b k (hg.m _ _ hm) hk
  | nilp => exact .nilp
  | nilf => exact .nilf
  | nilm => exact .nilm
  | dead v h => exact .dead v h

/-- Two lists, place by place. -/
inductive All2 {α β : Type} (R : α → β → Prop) : List α → List β → Prop where
  | nil : All2 R [] []
  | cons {a : α} {b : β} {l : List α} {m : List β} (h : R a b) (t : All2 R l m) : All2 R (a :: l) (b :: m)

section
variable {α β : Type} {R R' : α → β → Prop}
theorem All2.mono {l : List α} {m : List β} (h : All2 R l m) (hr : ∀ a b, R a b → R' a b) : All2 R' l m := by
  induction h with
  | nil => exact .nil
  | cons h _ ih => exact .cons (hr _ _ h) ih
theorem All2.length {l : List α} {m : List β} (h : All2 R l m) : l.length = m.length := by
  induction h with
  | nil => rfl
  | cons _ _ ih => simp [ih]
theorem All2.get {l : List α} {m : List β} (h : All2 R l m) : ∀ {i : Nat} {a : α}, l[i]? = some a → ∃ b, m[i]? = some b ∧ R a b := by
  induction h with
  | nil => intro i a h; simp at h
  | cons h _ ih =>
    intro i a ha
    cases i with
    | zero => simp at ha; subst ha; exact ⟨_, rfl, h⟩
    | succ i => simpa using ih (by simpa using ha)
theorem All2.get' {l : List α} {m : List β} (h : All2 R l m) : ∀ {i : Nat} {b : β}, m[i]? = some b → ∃ a, l[i]? = some a ∧ R a b := by
  induction h with
  | nil => intro i a h; simp at h
  | cons h _ ih =>
    intro i a ha
    cases i with
    | zero => simp at ha; subst ha; exact ⟨_, rfl, h⟩
    | succ i => simpa using ih (by simpa using ha)
theorem All2.of_get {l : List α} : ∀ {m : List β}, l.length = m.length → (∀ (i : Nat) (a : α) (b : β), l[i]? = some a → m[i]? = some b → R a b) → All2 R l m := by
  induction l with
  | nil => intro m h _; cases m with | nil => exact .nil | cons _ _ => simp at h
  | cons a l ih =>
    intro m h hr
    cases m with
    | nil => simp at h
    | cons b m => exact .cons (hr 0 a b rfl rfl) (ih (by simpa using h) fun i x y hx hy => hr (i + 1) x y (by simpa using hx) (by simpa using hy))
theorem All2.append {l l' : List α} {m m' : List β} (h : All2 R l m) (k : All2 R l' m') : All2 R (l ++ l') (m ++ m') := by
  induction h with
  | nil => exact k
  | cons h _ ih => exact .cons h ih
theorem All2.drop {l : List α} {m : List β} (h : All2 R l m) : ∀ n, All2 R (l.drop n) (m.drop n) := by
  induction h with
  | nil => intro n; simp; exact .nil
  | cons h t ih => intro n; cases n with | zero => exact .cons h t | succ n => exact ih n
theorem All2.take {l : List α} {m : List β} (h : All2 R l m) : ∀ n, All2 R (l.take n) (m.take n) := by
  induction h with
  | nil => intro n; simp; exact .nil
  | cons h t ih => intro n; cases n with | zero => exact .nil | succ n => exact .cons h (ih n)
theorem All2.set {l : List α} {m : List β} (h : All2 R l m) {a : α} {b : β} (hr : R a b) : ∀ i, All2 R (l.set i a) (m.set i b) := by
  induction h with
  | nil => intro i; simp; exact .nil
  | cons h t ih => intro i; cases i with | zero => exact .cons hr t | succ i => exact .cons h (ih i)
theorem All2.map {γ δ : Type} {R2 : γ → δ → Prop} {f : α → γ} {e : β → δ} {l : List α} {m : List β} (h : All2 R l m) (hr : ∀ a b, R a b → R2 (f a) (e b)) : All2 R2 (l.map f) (m.map e) := by
  induction h with
  | nil => exact .nil
  | cons h _ ih => exact .cons (hr _ _ h) ih
theorem All2.mapL {γ : Type} {R2 : γ → β → Prop} {f : α → γ} {l : List α} {m : List β} (h : All2 R l m) (hr : ∀ a b, R a b → R2 (f a) b) : All2 R2 (l.map f) m := by
  induction h with
  | nil => exact .nil
  | cons h _ ih => exact .cons (hr _ _ h) ih
end

def V1R (g : Gh) (w : World) : V1 → Value → Prop
  | .one x, v => VA g w x v
  | .agg l, v => ∃ vs : List Value, v = .agg vs.toArray ∧ All2 (VA g w) l vs

def AVR (g : Gh) (w : World) : AV → Value → Prop
  | .v x, v => V1R g w x v
  | .tup l, v => ∃ vs : List Value, v = .tuple vs.toArray ∧ All2 (V1R g w) l vs
  | .undef, v => v = undef
  | .dead, _ => True

theorem V1R.mono {g g' : Gh} {w w' : World} {x : V1} {v : Value} (h : V1R g w x v) (hw : Holds g w w') (hg : g.le g') : V1R g' w' x v := by
  cases x with
  | one x => exact VA.mono h hw hg
  | agg l => obtain ⟨vs, rfl, h⟩ := h; exact ⟨vs, rfl, h.mono fun _ _ k => k.mono hw hg⟩

theorem AVR.mono {g g' : Gh} {w w' : World} {x : AV} {v : Value} (h : AVR g w x v) (hw : Holds g w w') (hg : g.le g') : AVR g' w' x v := by
  cases x with
  | v x => exact V1R.mono h hw hg
  | tup l => obtain ⟨vs, rfl, h⟩ := h; exact ⟨vs, rfl, h.mono fun _ _ k => k.mono hw hg⟩
  | undef => exact h
  | dead => trivial

theorem V1R.cells {g : Gh} {w : World} {x : V1} {v : Value} (h : V1R g w x v) : All2 (VA g w) x.cells v.cells.toList := by
  cases x with
  | one x =>
    have h1 : VA g w x v := h
    have := h1.one
    cases v <;> first | exact .cons h1 .nil | (simp [Value.oneCell'] at this)
  | agg l => obtain ⟨vs, rfl, h⟩ := h; exact h

def BR (g : Gh) (w : World) (b : Gb) : AB → Prop
  | .cells l => ∃ k cs e, b.blk = some k ∧ w.heap[k]? = some (.cells cs e (0, 0)) ∧ All2 (VA g w) l cs.toList
  | .row τ l => b.sz = τ.n ∧ b.ln = l.length ∧ ((b.blk = none ∧ l = [] ∧ b.cp = 0) ∨
      (∃ k cs e, b.blk = some k ∧ w.heap[k]? = some (.cells cs e (0, 0)) ∧ cs.size = b.cp * τ.n ∧ l.length ≤ b.cp ∧ (∀ v ∈ cs.toList, v.oneCell' = true) ∧
        ∀ i x j y, l[i]? = some x → (τ.enc x)[j]? = some y → ∃ v, cs[i * τ.n + j]? = some v ∧ VA g w y v))
  | .clo f first capt => ∃ fs cs, b.val = .func (.func f) fs cs ∧ All2 (VA g w) first fs.toList ∧ All2 (VA g w) capt cs.toList
  | .iter s pos => ∃ k bs, b.blk = some k ∧ w.heap[k]? = some (.stringIter bs pos) ∧ bs.data.toList = s
  | .capk x n => b.blk = none ∧ ∃ a m, VA g w x (.slice a m n)
  | .gone => True

theorem BR.mono {g g' : Gh} {w w' : World} {b : Gb} {x : AB} (h : BR g w b x) (hw : Holds g w w') (hk : ∀ k, b.blk = some k → w'.heap[k]? = w.heap[k]?) (hg : g.le g') : BR g' w' b x := by
  cases x with
  | cells l => obtain ⟨k, cs, e, hb, hh, ha⟩ := h; exact ⟨k, cs, e, hb, (hk k hb).trans hh, ha.mono fun _ _ k => k.mono hw hg⟩
  | row τ l =>
    obtain ⟨h1, h2, h3⟩ := h
    refine ⟨h1, h2, ?_⟩
    rcases h3 with h3 | ⟨k, cs, e, hb, hh, hs, hl, ho, ha⟩
    · exact .inl h3
    · exact .inr ⟨k, cs, e, hb, (hk k hb).trans hh, hs, hl, ho, fun i x j y hx hy => let ⟨v, hv, ha'⟩ := ha i x j y hx hy; ⟨v, hv, ha'.mono hw hg⟩⟩
  | clo f a c => obtain ⟨fs, cs, hb, h1, h2⟩ := h; exact ⟨fs, cs, hb, h1.mono fun _ _ k => k.mono hw hg, h2.mono fun _ _ k => k.mono hw hg⟩
  | iter s p => obtain ⟨k, bs, hb, hh, e⟩ := h; exact ⟨k, bs, hb, (hk k hb).trans hh, e⟩
  | capk x n => obtain ⟨hb, a, m, hv⟩ := h; exact ⟨hb, a, m, hv.mono hw hg⟩
  | gone => trivial

def AB.live : AB → Bool
  | .gone => false
  | _ => true

/-- A register's value: the activation's own, or a waiting caller's. -/
def vof (sv : Nat → Value) (a : Act) (t : Nat) : Value := if t < OFF then a.tmps.getD t undef else sv (t - OFF)

theorem lookT_some {α : Type} {n : Nat} {r : List (Nat × α)} {x : α} (h : lookT n r = some x) : n < OFF ∧ look n r = some x := by
  unfold lookT at h
  split at h
  · rename_i hb; exact ⟨by simpa [Nat.blt_eq] using hb, h⟩
  · cases h
theorem lookT_congr {α : Type} {n : Nat} {r r' : List (Nat × α)} (h : look n r = look n r') : lookT n r = lookT n r' := by unfold lookT; rw [h]
theorem vof_lt {sv : Nat → Value} {a : Act} {t : Nat} (h : t < OFF) : vof sv a t = a.tmps.getD t undef := by unfold vof; rw [if_pos h]

/-- The state of the interpreter, and the world. -/
structure Rel (base : Nat) (w0 : World) (S0 : Nat → Prop) (N : Nat) (D : List Deferred) (sv : Nat → Value) (g : Gh) (σ : St) (a : Act) (w : World) : Prop where
  regs : ∀ t x, look t σ.regs = some x → AVR g w x (vof sv a t)
  size : a.tmps.size = N
  dfr : a.defers = D
  mem : ∀ id x, look id σ.mem = some x → ∃ b, g.m id = some b ∧ BR g w b x
  inj : ∀ id id' x x' b b' k, look id σ.mem = some x → look id' σ.mem = some x' → x.live = true → x'.live = true → g.m id = some b → g.m id' = some b' → b.blk = some k → b'.blk = some k → id = id'
  own : ∀ id x b k, look id σ.mem = some x → x.live = true → g.m id = some b → b.blk = some k → base ≤ k ∧ ¬ g.S k
  S : ∀ k, g.S k → k < w.heap.size
  blk : ∀ id b k, g.m id = some b → b.blk = some k → k < w.heap.size
  nx : ∀ id b, g.m id = some b → id < σ.nx
  bel : Below base w0 w
  bs : base ≤ w.heap.size
  sub : ∀ k, g.S k → S0 k ∨ base ≤ k

end Go.Eng
