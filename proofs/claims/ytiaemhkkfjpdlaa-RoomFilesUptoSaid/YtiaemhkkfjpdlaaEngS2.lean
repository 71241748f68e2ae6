import Derived.Test.YtiaemhkkfjpdlaaEngS1
import Derived.Laws.Strings
/- THE ENGINE, soundness, part 2: the table of types; what a callee may see; loads. -/
set_option linter.unusedSimpArgs false
set_option linter.unusedVariables false
set_option linter.unnecessarySimpa false
namespace Go.Eng
open Go Go.RowKit

/-! The table of types. -/
def aggD : TypeDesc → Bool
  | .struct _ => true
  | .array _ _ => true
  | _ => false

def zA : At → Value → Bool
  | .int k n, .int k' n' => ikeq k k' && decide (n = n')
  | .bool b, .bool b' => b == b'
  | .str s, .string b => s.isEmpty && b.data.toList.isEmpty
  | .clip _ l, .slice none 0 0 => l.isEmpty
  | .nilp, .pointer none => true
  | .nilf, .nilFunc => true
  | .nilm, .map none => true
  | _, _ => false
def zL : List At → List Value → Bool
  | [], [] => true
  | x :: l, v :: m => zA x v && zL l m
  | _, _ => false
def zV : V1 → Value → Bool
  | .one x, v => zA x v
  | .agg l, .agg vs => zL l vs.toList
  | _, _ => false

def fieldsB (P : Program) : List Field → List (Nat × TypeId) → Bool
  | [], [] => true
  | f :: l, (off, t) :: m => Nat.beq f.offset off && (Nat.beq f.type t && ((match P.info? t with | some i => !(Nat.beq i.size 0) | none => false) && fieldsB P l m))
  | _, _ => false

def tkB (P : Program) : TypeDesc → TK → Bool
  | .int k, .int k' => ikeq k k'
  | .bool, .bool => true
  | .string, .str => true
  | .struct fields, .struct fs => fieldsB P fields.toList fs
  | .array n e, .array n' e' => Nat.beq n n' && Nat.beq e e'
  | .slice e, .slice τ e' => Nat.beq e e' && (match P.info? e with | some i => Nat.beq i.size τ.n && Nat.ble i.bytes 4096 | none => false)
  | .pointer e, .ptr e' => Nat.beq e e'
  | _, .other => true
  | _, _ => false

def tiB (P : Program) (t : TypeId) (ti : TI) : Bool :=
  match P.info? t, P.underlying t with
  | some i, some d => Nat.beq i.size ti.size && ((aggD d == ti.agg) && (tkB P d ti.k && (match i.zero with | some z => zV ti.zero z && Nat.beq z.cells.size ti.size | none => false)))
  | _, _ => false

theorem ikeq_eq {a b : IntKind} (h : ikeq a b = true) : a = b := by cases a <;> cases b <;> first | rfl | (simp [ikeq] at h)

theorem zA_ok {x : At} {v : Value} (h : zA x v = true) (g : Gh) (w : World) : VA g w x v := by
  unfold zA at h
  split at h
  · simp only [Bool.and_eq_true, decide_eq_true_eq] at h; obtain ⟨h1, rfl⟩ := h; obtain rfl := ikeq_eq h1; exact .int _ _
  · simp only [beq_iff_eq] at h; subst h; exact .bool _
  · simp only [Bool.and_eq_true, List.isEmpty_iff] at h; exact .str _ _ (by rw [h.1, h.2])
  · simp only [List.isEmpty_iff] at h; subst h
    exact .clip _ [] none 0 0 0 (fun _ _ => default) rfl (fun h => absurd rfl h) (fun i j hi _ => by simp at hi) (fun i x j y hx _ => by simp at hx)
  · exact .nilp
  · exact .nilf
  · exact .nilm
  · simp at h

theorem zL_ok : ∀ {l : List At} {m : List Value}, zL l m = true → ∀ (g : Gh) (w : World), All2 (VA g w) l m
  | [], [], _, _, _ => .nil
  | x :: l, v :: m, h, g, w => by
    simp only [zL, Bool.and_eq_true] at h
    exact .cons (zA_ok h.1 g w) (zL_ok h.2 g w)
  | [], _ :: _, h, _, _ => by simp [zL] at h
  | _ :: _, [], h, _, _ => by simp [zL] at h

theorem zV_ok {x : V1} {v : Value} (h : zV x v = true) (g : Gh) (w : World) : V1R g w x v := by
  unfold zV at h
  split at h
  · exact zA_ok h g w
  · exact ⟨_, by simp, zL_ok h g w⟩
  · simp at h

structure TIok (P : Program) (t : TypeId) (ti : TI) (i : TypeInfo) (d : TypeDesc) : Prop where
  info : P.info? t = some i
  size : i.size = ti.size
  und : P.underlying t = some d
  agg : aggD d = ti.agg
  k : tkB P d ti.k = true
  zero : ∃ z, i.zero = some z ∧ z.cells.size = ti.size ∧ ∀ g w, V1R g w ti.zero z

theorem tiB_ok {P : Program} {t : TypeId} {ti : TI} (h : tiB P t ti = true) : ∃ i d, TIok P t ti i d := by
  unfold tiB at h
  split at h
  · rename_i i d hi hd
    simp only [Bool.and_eq_true, beq_iff_eq] at h
    obtain ⟨h1, h2, h3, h4⟩ := h
    refine ⟨i, d, hi, Nat.eq_of_beq_eq_true h1, hd, h2, h3, ?_⟩
    split at h4
    · rename_i z hz
      simp only [Bool.and_eq_true] at h4
      exact ⟨z, hz, Nat.eq_of_beq_eq_true h4.2, fun g w => zV_ok h4.1 g w⟩
    · simp at h4
  · simp at h

/-- The whole table stands. -/
def TsOK (P : Program) (c : Cfg) : Prop := ∀ t ti, c.ti t = some ti → ∃ i d, TIok P t ti i d

theorem look_mem {α : Type} {n : Nat} {l : List (Nat × α)} {x : α} (h : look n l = some x) : (n, x) ∈ l := by
  induction l with
  | nil => simp [look] at h
  | cons y l ih =>
    simp only [look] at h
    split at h
    · rename_i hb; simp only [Option.some.injEq] at h; subst h; have := Nat.eq_of_beq_eq_true hb; rw [← this]; simp
    · exact List.mem_cons_of_mem _ (ih h)

theorem tsOK_of {P : Program} {c : Cfg} (h : c.T.all (fun x => tiB P x.1 x.2) = true) : TsOK P c := fun t ti hl => by
  have := List.all_eq_true.1 h _ (look_mem hl)
  exact tiB_ok this

/-! Kinds of types. -/
section
variable {P : Program} {t : TypeId} {ti : TI} {i : TypeInfo} {d : TypeDesc}
theorem TIok.int (h : TIok P t ti i d) {κ : IntKind} (hk : ti.k = .int κ) : d = .int κ := by
  have := h.k; rw [hk] at this; cases d <;> simp [tkB] at this; rw [ikeq_eq this]
theorem TIok.str (h : TIok P t ti i d) (hk : ti.k = .str) : d = .string := by
  have := h.k; rw [hk] at this; cases d <;> simp [tkB] at this; rfl
theorem TIok.struct (h : TIok P t ti i d) {fs : List (Nat × TypeId)} (hk : ti.k = .struct fs) : ∃ fields, d = .struct fields ∧ fieldsB P fields.toList fs = true := by
  have := h.k; rw [hk] at this; cases d <;> simp [tkB] at this; exact ⟨_, rfl, this⟩
theorem TIok.array (h : TIok P t ti i d) {n : Nat} {e : TypeId} (hk : ti.k = .array n e) : d = .array n e := by
  have := h.k; rw [hk] at this; cases d <;> simp [tkB] at this; rw [this.1, this.2]
theorem TIok.slice (h : TIok P t ti i d) {τ : Ty} {e : TypeId} (hk : ti.k = .slice τ e) : d = .slice e ∧ ∃ j, P.info? e = some j ∧ j.size = τ.n ∧ j.bytes ≤ 4096 := by
  have := h.k; rw [hk] at this; cases d <;> simp [tkB] at this
  obtain ⟨h1, h2⟩ := this
  subst h1
  refine ⟨rfl, ?_⟩
  split at h2
  · rename_i j hj; exact ⟨j, hj, by simpa using h2⟩
  · simp at h2
end

theorem fieldsB_get {P : Program} : ∀ {l : List Field} {m : List (Nat × TypeId)}, fieldsB P l m = true → ∀ {k off : Nat} {t : TypeId}, m[k]? = some (off, t) →
    ∃ f : Field, l[k]? = some f ∧ f.offset = off ∧ f.type = t ∧ ∃ i, P.info? t = some i ∧ i.size ≠ 0
  | [], [], _, k, off, t, h => by simp at h
  | f :: l, (o, u) :: m, hb, k, off, t, h => by
    simp only [fieldsB, Bool.and_eq_true] at hb
    obtain ⟨h1, h2, h3, h4⟩ := hb
    cases k with
    | zero =>
      simp at h
      obtain ⟨rfl, rfl⟩ := h
      refine ⟨f, rfl, Nat.eq_of_beq_eq_true h1, Nat.eq_of_beq_eq_true h2, ?_⟩
      split at h3
      · rename_i j hj
        refine ⟨j, hj, fun e => ?_⟩
        rw [e] at h3; simp at h3
      · simp at h3
    | succ k => simpa using fieldsB_get h4 (k := k) (by simpa using h)
  | [], _ :: _, hb, _, _, _, _ => by simp [fieldsB] at hb
  | _ :: _, [], hb, _, _, _, _ => by simp [fieldsB] at hb

/-! What holds of any world and ghost. -/
def pureA : At → Bool
  | .int _ _ => true
  | .bool _ => true
  | .str _ => true
  | .sl _ _ => true
  | .fnc _ => true
  | _ => false

theorem enc_pure : ∀ (τ : Ty) (x : τ.T) (j : Nat) (y : At), (τ.enc x)[j]? = some y → pureA y = true := by
  intro τ x j y h
  have hm : y ∈ τ.enc x := List.mem_of_getElem? h
  cases τ <;> simp only [Ty.enc, List.mem_cons, List.not_mem_nil, or_false] at hm <;>
    first | (subst hm; rfl) | (rcases hm with rfl | rfl | rfl | rfl | rfl | rfl <;> rfl) | (rcases hm with rfl | rfl | rfl | rfl | rfl <;> rfl) | (rcases hm with rfl | rfl | rfl | rfl <;> rfl) | (rcases hm with rfl | rfl <;> rfl)

theorem enc_length (τ : Ty) (x : τ.T) : (τ.enc x).length = τ.n := by cases τ <;> rfl
theorem n_pos (τ : Ty) : 0 < τ.n := by cases τ <;> decide

/-- What names no block of the activation's own reads the same whatever these are. -/
theorem VA.pure {g g' : Gh} {w : World} {x : At} {v : Value} (h : VA g w x v) (hp : pureA x = true) (hS : ∀ k, g.S k → g'.S k) : VA g' w x v := by
  induction h with
  | int k n => exact .int k n
  | bool b => exact .bool b
  | str s b h => exact .str s b h
  | sl τ l a n c bk of f hn hc ha hcell hf ih =>
    exact .sl τ l a n c bk of f hn hc (fun e => ⟨(ha e).1, hS _ (ha e).2⟩) hcell fun i x j y hx hy => ih i x j y hx hy (enc_pure _ _ _ _ hy)
  | fnc f => exact .fnc f
  | _ => simp [pureA] at hp

theorem V1R.flat {g g' : Gh} {w w' : World} {x : V1} {v : Value} (h : V1R g w x v) (hp : flatV1 x = true) : V1R g' w' x v := by
  have one : ∀ {x : At} {v : Value}, VA g w x v → flatAt x = true → VA g' w' x v := fun {x v} h hp => by
    cases h <;> first | (simp [flatAt] at hp; done) | constructor
    assumption
  cases x with
  | one x => exact one h hp
  | agg l =>
    obtain ⟨vs, rfl, h⟩ := h
    refine ⟨vs, rfl, ?_⟩
    have hp' : flatL l = true := hp
    clear hp
    induction h with
    | nil => exact .nil
    | cons h _ ih =>
      simp only [flatL] at hp'
      split at hp'
      · exact .cons (one h ‹_›) (ih hp')
      · simp at hp'

theorem AVR.flat {g g' : Gh} {w w' : World} {x : AV} {v : Value} (h : AVR g w x v) (hp : flatV x = true) : AVR g' w' x v := by
  cases x with
  | v x => exact V1R.flat h hp
  | tup l =>
    obtain ⟨vs, rfl, h⟩ := h
    refine ⟨vs, rfl, ?_⟩
    have hp' : flatT l = true := hp
    clear hp
    induction h with
    | nil => exact .nil
    | cons h _ ih =>
      simp only [flatT] at hp'
      split at hp'
      · exact .cons (V1R.flat h ‹_›) (ih hp')
      · simp at hp'
  | undef => simp [flatV] at hp
  | dead => simp [flatV] at hp

/-- A row as a list that nobody writes. -/
theorem BR.cell {g : Gh} {w : World} {b : Gb} {τ : Ty} {l : List τ.T} (h : BR g w b (.row τ l)) {k : Nat} (hk : b.blk = some k) :
    ∃ f : Nat → Nat → Value, (∀ i j, i < b.cp → j < τ.n → w.cell? ⟨k, i * τ.n + j, none⟩ = some (f i j)) ∧ ∀ i x j y, l[i]? = some x → (τ.enc x)[j]? = some y → VA g w y (f i j) := by
  obtain ⟨h1, h2, h3⟩ := h
  rcases h3 with ⟨h3, _⟩ | ⟨k', cs, e, hb, hh, hs, hl, ho, ha⟩
  · rw [hk] at h3; cases h3
  · obtain rfl : k = k' := by rw [hk] at hb; cases hb; rfl
    refine ⟨fun i j => cs.getD (i * τ.n + j) undef, fun i j hi hj => ?_, fun i x j y hx hy => ?_⟩
    · have hlt : i * τ.n + j < cs.size := by
        rw [hs]
        calc i * τ.n + j < i * τ.n + τ.n := by omega
          _ = (i + 1) * τ.n := by rw [Nat.succ_mul]
          _ ≤ b.cp * τ.n := Nat.mul_le_mul_right _ hi
      simp [World.cell?, hh, Array.getD, hlt]
    · obtain ⟨v, hv, hx'⟩ := ha i x j y hx hy
      have he : cs.getD (i * τ.n + j) undef = v := by rw [Array.getD_eq_getD_getElem?, hv]; rfl
      show VA g w y (cs.getD (i * τ.n + j) undef)
      rw [he]; exact hx'

theorem BR.len {g : Gh} {w : World} {b : Gb} {τ : Ty} {l : List τ.T} (h : BR g w b (.row τ l)) : b.ln = l.length ∧ l.length ≤ b.cp ∧ b.sz = τ.n := by
  obtain ⟨h1, h2, h3⟩ := h
  rcases h3 with ⟨h3, rfl, h4⟩ | ⟨k', cs, e, hb, hh, hs, hl, ho, ha⟩
  · exact ⟨h2, by simp, h1⟩
  · exact ⟨h2, hl, h1⟩

/-- The part of a row from 'off' on, of 'len' elements, where the callee may see the row's block. -/
theorem BR.part {g g' : Gh} {w : World} {b : Gb} {τ : Ty} {l : List τ.T} (h : BR g w b (.row τ l)) (hS : ∀ k, g.S k → g'.S k) (hb : ∀ k, b.blk = some k → g'.S k)
    {off len c : Nat} {a : Option Addr} (hl : off + len ≤ l.length) (hc : len ≤ c) (ha : len ≠ 0 → ∃ k, b.blk = some k ∧ a = some ⟨k, off * b.sz, none⟩) :
    VA g' w (.sl τ ((l.drop off).take len)) (.slice a len c) := by
  have hlen : ((l.drop off).take len).length = len := by simp; omega
  by_cases h0 : len = 0
  · subst h0
    exact .sl τ _ a 0 c 0 0 (fun _ _ => default) (by simp) (by omega) (fun e => by simp at e) (fun i j hi _ => by simp at hi) (fun i x j y hx _ => by simp at hx)
  · obtain ⟨k, hk, rfl⟩ := ha h0
    obtain ⟨f, hf1, hf2⟩ := h.cell hk
    obtain ⟨-, hcp, hsz⟩ := h.len
    refine .sl τ _ _ len c k (off * τ.n) (fun i j => f (off + i) j) hlen.symm hc (fun _ => ⟨by rw [hsz], hb k hk⟩) (fun i j hi hj => ?_) (fun i x j y hx hy => ?_)
    · rw [hlen] at hi
      have := hf1 (off + i) j (by omega) hj
      rwa [show (off + i) * τ.n + j = off * τ.n + (i * τ.n + j) from by rw [Nat.add_mul]; omega] at this
    · have hi : i < len := by
        rcases Nat.lt_or_ge i len with h' | h'
        · exact h'
        · rw [List.getElem?_eq_none (by omega)] at hx; cases hx
      have hx' : l[off + i]? = some x := by
        rw [List.getElem?_take_of_lt hi, List.getElem?_drop] at hx; exact hx
      exact (hf2 (off + i) x j y hx' hy).pure (enc_pure _ _ _ _ hy) hS

theorem BR.whole {g g' : Gh} {w : World} {b : Gb} {τ : Ty} {l : List τ.T} (h : BR g w b (.row τ l)) (hS : ∀ k, g.S k → g'.S k) (hb : ∀ k, b.blk = some k → g'.S k)
    {a : Option Addr} (ha : ∀ k, b.blk = some k → a = some ⟨k, 0, none⟩) (h0 : b.blk = none → b.cp = 0 ∧ b.ln = 0) : VA g' w (.sl τ l) (.slice a b.ln b.cp) := by
  have hl := h.len
  have := h.part hS hb (off := 0) (len := l.length) (c := b.cp) (a := a) (by omega) hl.2.1 (fun hne => by
    cases hk : b.blk with
    | none => exact absurd (hl.1 ▸ (h0 hk).2) hne
    | some k => exact ⟨k, rfl, by rw [ha k hk]; simp⟩)
  rw [hl.1]
  simpa using this

end Go.Eng
