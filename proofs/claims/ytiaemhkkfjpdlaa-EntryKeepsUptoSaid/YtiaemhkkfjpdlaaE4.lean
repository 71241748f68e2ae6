import Derived.Test.YtiaemhkkfjpdlaaE3
import Derived.ChangeArms
import Derived.DataReads
import Derived.ReadAgain
import Derived.ChangeOld
import Derived.ChangeSame
import Derived.Below
import Derived.OpenShut
import Derived.Lib.Overlaps
set_option linter.unusedSectionVars false
set_option linter.unusedVariables false
set_option linter.unusedSimpArgs false
set_option linter.unnecessarySimpa false
/- THE ENGINE: what lifted functions speak of; lists of facts. -/
set_option linter.unusedSimpArgs false
set_option linter.unusedVariables false
namespace Go.Eng
open Go Go.RowKit

structure Fs where
  maxInodes : Int
  maxBytes : Int
  next : Int
  inodes : List Inode

structure Spotted where
  dir : Int
  name : Str
  ino : Int

structure Pth where
  abs : Bool
  names : List Str
  slash : Bool

structure Stash where
  kept : List Kept
  pool : List Inode

structure World' where
  fs : Fs
  stash : Stash

/-- A place in code. -/
def sub : List Nat → Code → Code
  | [], c => c
  | 0 :: l, .seq a _ => sub l a
  | 1 :: l, .seq _ b => sub l b
  | _ :: l, .block _ b => sub l b
  | _ :: l, .loop b => sub l b
  | _ :: l, .scope b => sub l b
  | 0 :: l, .cond _ a _ => sub l a
  | 1 :: l, .cond _ _ b => sub l b
  | _ :: _, c => c

/-- A round's code in a function's. -/
def rngGet (rid : Nat) (c : Code) : Array Tmp × Code × Code := match rngIn rid c with | some x => x | none => (#[], .skip, .skip)

section
variable {R : Type} {H : Hnd R} {c : Cfg} {lp : List (Nat × Hd R)}
theorem loopsL_cons {b : Code} {rid : Nat} {l : List Code} {h : Hd R} {V : Type} {st : V → St} {sh : St → Option V} {f : Nat → V → (Ex → St → Option R) → Option R} (e1 : firstRegion b = rid) (e2 : look rid lp = some h) (L : LoopOK H c lp b V st sh f h) (t : LoopsL H c lp l) : LoopsL H c lp (b :: l) := by
  refine ⟨?_, t⟩
  rw [e1, e2]
  exact ⟨V, st, sh, f, L⟩
theorem loopsL_skip {b : Code} {rid : Nat} {l : List Code} (e1 : firstRegion b = rid) (e2 : look rid lp = none) (t : LoopsL H c lp l) : LoopsL H c lp (b :: l) := by
  refine ⟨?_, t⟩
  rw [e1, e2]
  trivial
end

theorem globsOK_of {P : Program} [GlobL P] {c : Cfg} (h : c.glob = GlobL.G P) : GlobsOK P c := fun q τ l hl => by rw [← h]; exact hl

theorem eqsOK_of {P : Program} {c : Cfg} (h : c.eqs.all (fun x => eqB P x.1 x.2) = true) : EqsOK P c := fun t es hl => List.all_eq_true.1 h _ (look_mem hl)

def OvlL (P : Program) : List Nat → Prop
  | [] => True
  | x :: l => OvlOK P x ∧ OvlL P l
theorem ovlL_ok {P : Program} : ∀ {l : List Nat}, OvlL P l → ∀ f, hasN f l = true → OvlOK P f
  | [], _, f, h => by simp [hasN] at h
  | x :: l, hl, f, h => by
    unfold hasN at h
    split at h
    · rename_i e; have := Nat.eq_of_beq_eq_true e; subst this; exact hl.1
    · exact ovlL_ok hl.2 f h
/-- A list that is held against nil. -/
noncomputable def nilK {α R : Type} (l : List α) (x y : Option R) : Option R := bcase (List.isEmpty l) (both x y) y
end Go.Eng
/- THE ENGINE: what came in, as the claims' reader reads it, is plain data; behind the call it reads as it did. -/
set_option linter.unusedSimpArgs false
set_option linter.unusedVariables false
set_option linter.unnecessarySimpa false
namespace Go.Eng
open Go Go.RowKit

def wfI (n : Int) : Prop := (Lit.int .i64 n).wf = true

def Entry.ok (N : Nat) (x : Entry) : Prop := x.name.length ≤ N ∧ wfI x.ino
def Inode.ok (N : Nat) (x : Inode) : Prop := wfI x.ino ∧ wfI x.kind ∧ wfI x.links ∧ x.data.length ≤ N ∧ wfI x.parent ∧ x.entries.length ≤ N ∧ ∀ e ∈ x.entries, e.ok N
def Ty.ok (N : Nat) : (τ : Ty) → τ.T → Prop
  | .int, (x : Int) => wfI x
  | .byte, _ => True
  | .str, (s : Str) => s.length ≤ N
  | .entry, (x : Entry) => x.ok N
  | .inode, (x : Inode) => x.ok N
  | .seen, (x : Seen) => x.path.length ≤ N ∧ wfI x.ino
  | .kept, (x : Kept) => wfI x.slot ∧ wfI x.ino ∧ x.data.length ≤ N
  | .opn, (x : Opn) => wfI x.kind ∧ wfI x.slot ∧ x.a.length ≤ N ∧ x.b.length ≤ N ∧ x.data.length ≤ N
  | .clls, (x : Clls) => wfI x.op ∧ x.a.length ≤ N ∧ x.b.length ≤ N ∧ x.data.length ≤ N
  | .shp, (x : Shp) => x.path.length ≤ N ∧ wfI x.kind ∧ x.data.length ≤ N ∧ wfI x.first
  | .rule, _ => True
  | .bool, _ => True
  | .fn, _ => True
  | .parts, _ => True
  | .strs, _ => True

def HA.ok (N : Nat) : (h : HA) → h.V → Prop
  | .int k, n => (Lit.int k n).wf = true
  | .str, s => s.length ≤ N
  | .sl τ, l => l.length ≤ N ∧ ∀ x ∈ l, τ.ok N x
  | _, _ => True
def HL.ok (N : Nat) : (l : List HA) → HL.V l → Prop
  | [], _ => True
  | h :: l, v => h.ok N v.1 ∧ HL.ok N l v.2

/-- The leaves of an element. -/
def Ty.hl : Ty → List HA
  | .int => [.int .i64]
  | .byte => [.int .u8]
  | .str => [.str]
  | .entry => [.str, .int .i64]
  | .inode => [.int .i64, .int .i64, .int .i64, .str, .int .i64, .sl .entry]
  | .seen => [.str, .int .i64]
  | .kept => [.int .i64, .int .i64, .bool, .str]
  | .opn => [.int .i64, .int .i64, .str, .str, .str]
  | .clls => [.int .i64, .str, .str, .str]
  | .shp => [.str, .int .i64, .str, .int .i64]
  | .rule => []
  | .bool => []
  | .fn => []
  | .parts => []
  | .strs => []

theorem wf_u8 {n : Int} (h : (Lit.int .u8 n).wf = true) : 0 ≤ n ∧ n < 256 := by
  simp [Lit.wf, IntKind.min, IntKind.max, IntKind.signed, IntKind.bits] at h; omega

theorem Ty.of_ok {N : Nat} : ∀ (τ : Ty) (v : HL.V τ.hl), τ.hl ≠ [] → HL.ok N τ.hl v → ∃ x : τ.T, τ.enc x = HL.st τ.hl v ∧ τ.ok N x
  | .int, v, _, h => ⟨v.1, rfl, h.1⟩
  | .byte, v, _, h => by
    obtain ⟨h1, h2⟩ := wf_u8 h.1
    refine ⟨(UInt8.ofNat v.1.toNat : UInt8), ?_, trivial⟩
    show [At.int .u8 ((UInt8.ofNat v.1.toNat).toNat : Nat)] = [At.int .u8 v.1]
    congr 2
    rw [UInt8.toNat_ofNat']
    omega
  | .str, v, _, h => ⟨v.1, rfl, h.1⟩
  | .entry, v, _, h => ⟨(⟨v.1, v.2.1⟩ : Entry), rfl, h.1, h.2.1⟩
  | .inode, v, _, h => ⟨(⟨v.1, v.2.1, v.2.2.1, v.2.2.2.1, v.2.2.2.2.1, v.2.2.2.2.2.1⟩ : Inode), rfl, h.1, h.2.1, h.2.2.1, h.2.2.2.1, h.2.2.2.2.1, h.2.2.2.2.2.1.1, h.2.2.2.2.2.1.2⟩
  | .seen, v, _, h => ⟨(⟨v.1, v.2.1⟩ : Seen), rfl, h.1, h.2.1⟩
  | .kept, v, _, h => ⟨(⟨v.1, v.2.1, v.2.2.1, v.2.2.2.1⟩ : Kept), rfl, h.1, h.2.1, h.2.2.2.1⟩
  | .opn, v, _, h => ⟨(⟨v.1, v.2.1, v.2.2.1, v.2.2.2.1, v.2.2.2.2.1⟩ : Opn), rfl, h.1, h.2.1, h.2.2.1, h.2.2.2.1, h.2.2.2.2.1⟩
  | .clls, v, _, h => ⟨(⟨v.1, v.2.1, v.2.2.1, v.2.2.2.1⟩ : Clls), rfl, h.1, h.2.1, h.2.2.1, h.2.2.2.1⟩
  | .shp, v, _, h => ⟨(⟨v.1, v.2.1, v.2.2.1, v.2.2.2.1⟩ : Shp), rfl, h.1, h.2.1, h.2.2.1, h.2.2.2.1⟩
  | .rule, _, h, _ => absurd rfl h
  | .bool, _, h, _ => absurd rfl h
  | .fn, _, h, _ => absurd rfl h
  | .parts, _, h, _ => absurd rfl h
  | .strs, _, h, _ => absurd rfl h

/-- Has a type these leaves? -/
def leafB (cell : TypeId → Nat) (rec : TypeId → List HA → Bool) : List Field → Nat → List HA → Bool
  | [], _, hl => hl.isEmpty
  | f :: fs, off, hl => Nat.beq f.offset off && (Nat.ble (cell f.type) hl.length && (rec f.type (hl.take (cell f.type)) && leafB cell rec fs (off + cell f.type) (hl.drop (cell f.type))))
def leafT (P : Program) : Nat → TypeId → List HA → Bool
  | 0, _, _ => false
  | n + 1, t, hl =>
    match P.underlying t with
    | some (.int k) => match hl with | [.int k'] => ikeq k k' | _ => false
    | some .bool => match hl with | [.bool] => true | _ => false
    | some .string => match hl with | [.str] => true | _ => false
    | some (.slice e) => match hl with | [.sl τ] => Nat.beq (P.cellsOf e) τ.n && (!τ.hl.isEmpty && leafT P n e τ.hl) | _ => false
    | some (.struct fs) => Nat.beq (P.cellsOf t) hl.length && leafB P.cellsOf (leafT P n) fs.toList 0 hl
    | _ => false

/-- What a measure of a reading must be. -/
structure BulkOK {H : Type} (b : DataW H → Nat) : Prop where
  str : ∀ l, l.length ≤ b (.lit (.string l))
  len : ∀ es sp, es.length ≤ b (.slice es sp)
  elem : ∀ es sp, ∀ e ∈ es, b e ≤ b (.slice es sp)
  part : ∀ ps, ∀ p ∈ ps, b p ≤ b (.agg ps)

/-- All that lay when the call began. -/
def g0 (w : World) : Gh := ⟨fun k => k < w.heap.size, fun _ => none⟩

theorem HL.join {N : Nat} : ∀ (k : Nat) {l : List HA} (a : HL.V (l.take k)) (b : HL.V (l.drop k)), HL.ok N _ a → HL.ok N _ b → ∃ v : HL.V l, HL.st l v = HL.st _ a ++ HL.st _ b ∧ HL.ok N l v
  | 0, l, a, b, _, hb => ⟨b, by cases l <;> rfl, hb⟩
  | k + 1, [], a, b, _, _ => ⟨(), rfl, trivial⟩
  | k + 1, h :: l, a, b, ha, hb => by
    obtain ⟨v, e, hv⟩ := HL.join k (l := l) a.2 b ha.2 hb
    exact ⟨(a.1, v), by simp only [HL.st, e, List.take_succ_cons, List.cons_append]; rfl, ha.1, hv⟩

section
variable {P : Program} {H : Type} {enc : TypeId × Value → H} {w : World} {b : DataW H → Nat} {N : Nat}

theorem fields_ok (cell : TypeId → Nat) (rec : TypeId → List HA → Bool) {cs : List Value} {tr : TypeId → List Value → Option (DataW H × List MemPlace)}
    (ih : ∀ t hl cs d ps, rec t hl = true → tr t cs = some (d, ps) → b d ≤ N → ∃ v : HL.V hl, All2 (VA (g0 w) w) (HL.st hl v) cs ∧ HL.ok N hl v) :
    ∀ (fs : List Field) (off : Nat) (hl : List HA) (xs : List (DataW H × List MemPlace)), leafB cell rec fs off hl = true → cs.length = off + hl.length → xs.length = fs.length →
      (∀ (i : Nat) (f : Field), fs[i]? = some f → tr f.type ((cs.drop f.offset).take (cell f.type)) = xs[i]?) → (∀ x ∈ xs, b x.1 ≤ N) →
      ∃ v : HL.V hl, All2 (VA (g0 w) w) (HL.st hl v) (cs.drop off) ∧ HL.ok N hl v
  | [], off, hl, xs, h, hc, _, _, _ => by
    have h : hl = [] := by simpa [leafB] using h
    subst h
    refine ⟨(), ?_, trivial⟩
    rw [List.drop_eq_nil_of_le (by simp at hc; omega)]
    exact .nil
  | f :: fs, off, hl, xs, h, hc, hxl, hx, hb => by
    unfold leafB at h
    simp only [Bool.and_eq_true] at h
    obtain ⟨h1, h2, h3, h4⟩ := h
    have h1 := Nat.eq_of_beq_eq_true h1
    have h2 := Nat.le_of_ble_eq_true h2
    cases xs with
    | nil => simp at hxl
    | cons x xs =>
      have hx0 := hx 0 f rfl
      simp only [List.getElem?_cons_zero] at hx0
      rw [h1] at hx0
      obtain ⟨va, ha, hoa⟩ := ih _ _ _ x.1 x.2 h3 hx0 (hb x (by simp))
      obtain ⟨vb, hb', hob⟩ := fields_ok (cs := cs) cell rec ih fs (off + cell f.type) _ xs h4 (by rw [List.length_drop]; omega) (by simpa using hxl) (fun i f' hf' => by simpa using hx (i + 1) f' (by simpa using hf')) (fun y hy => hb y (by simp [hy]))
      obtain ⟨v, e, hv⟩ := HL.join (cell f.type) va vb hoa hob
      refine ⟨v, ?_, hv⟩
      rw [e]
      have e2 : cs.drop off = (cs.drop off).take (cell f.type) ++ cs.drop (off + cell f.type) := by rw [← List.drop_drop, List.take_append_drop]
      rw [e2]
      exact ha.append hb'

/-- WHAT CAME IN IS PLAIN DATA. -/
theorem read_ok (B : BulkOK b) : ∀ (n fuel : Nat) (t : TypeId) (hl : List HA) (cs : List Value) (d : DataW H) (ps : List MemPlace), leafT P n t hl = true → DataW.trod enc P w 0 (fun _ => true) true fuel t cs = some (d, ps) → b d ≤ N →
    ∃ v : HL.V hl, All2 (VA (g0 w) w) (HL.st hl v) cs ∧ HL.ok N hl v
  | 0, fuel, t, hl, cs, d, ps, h, _, _ => by simp [leafT] at h
  | n + 1, fuel, t, hl, cs, d, ps, h, ht, hN => by
    unfold leafT at h
    split at h
    · rename_i k hu
      split at h
      · rename_i k'
        obtain ⟨q, rfl, e, hw⟩ := DataW.trod_int hu ht
        have := ikeq_ok h
        subst this
        exact ⟨(q, ()), .cons (VA.int _ _) .nil, hw, trivial⟩
      · cases h
    · rename_i hu
      split at h
      · obtain ⟨q, rfl, e⟩ := DataW.trod_bool hu ht
        exact ⟨(q, ()), .cons (VA.bool _) .nil, trivial, trivial⟩
      · cases h
    · rename_i hu
      split at h
      · obtain ⟨q, rfl, e, hs⟩ := DataW.trod_string hu ht
        cases e
        exact ⟨(q.data.toList, ()), .cons (VA.str _ _ rfl) .nil, Nat.le_trans (B.str _) hN, trivial⟩
      · cases h
    · rename_i e hu
      split at h
      · rename_i τ
        simp only [Bool.and_eq_true] at h
        obtain ⟨h1, h2, h3⟩ := h
        have h1 := Nat.eq_of_beq_eq_true h1
        have hne : τ.hl ≠ [] := by intro e; rw [e] at h2; simp at h2
        rcases DataW.trod_slice hu ht with ⟨rfl, e0⟩ | ⟨a, len, cap, elems, rest, m, _, rfl, e0, hb, hlc, hm, hlen, hel, _, _⟩
        · refine ⟨(([] : List τ.T), ()), .cons (VA.sl τ [] none 0 0 0 0 (fun _ _ => default) rfl (Nat.le_refl _) (fun h => absurd rfl h) (fun i j hi => by simp at hi) (fun i x j y hx => by simp at hx)) .nil, ⟨Nat.zero_le _, fun x hx => by cases hx⟩, trivial⟩
        · cases e0
          have each0 : ∀ i, i < len → ∃ x : τ.T, ∃ us : List Value, τ.ok N x ∧ All2 (VA (g0 w) w) (τ.enc x) us ∧ us.length = τ.n ∧ (∀ j u, us[j]? = some u → w.cell? ((a.add (i * τ.n)).add j) = some u) := by
            intro i hi
            have hi' := hel i hi
            rw [h1] at hi'
            have hil : i < elems.length := by omega
            rw [List.getElem?_eq_getElem hil] at hi'
            obtain ⟨us, hus, htr⟩ := Option.bind_eq_some_iff.1 hi'
            obtain ⟨v, hv, hok⟩ := read_ok B n m e τ.hl us elems[i].1 elems[i].2 h3 htr (Nat.le_trans (B.elem _ _ _ (List.mem_map.2 ⟨elems[i], List.getElem_mem hil, rfl⟩)) hN)
            obtain ⟨x, hx, hxo⟩ := Ty.of_ok τ v hne hok
            obtain ⟨_, hul, huc⟩ := World.cells?_some hus
            refine ⟨x, us, hxo, by rw [hx]; exact hv, hul, fun j u hu => ?_⟩
            have hj : j < τ.n := by rw [← hul]; exact (List.getElem?_eq_some_iff.1 hu).1
            rw [huc j hj, hu]
          have hsp : 0 < len → a.spot = none ∧ a.block < w.heap.size := by
            intro h0
            obtain ⟨x, us, _, _, hul, huc⟩ := each0 0 h0
            have h00 : 0 < us.length := by rw [hul]; exact n_pos τ
            have := huc 0 us[0] (by simp [h00])
            have e9 : (a.add (0 * τ.n)).add 0 = a := by simp [Addr.add]
            rw [e9] at this
            refine ⟨World.cell?_spot this, ?_⟩
            rcases Nat.lt_or_ge a.block w.heap.size with h | h
            · exact h
            · exfalso
              unfold World.cell? at this
              rw [World.cell?_spot this] at this
              simp [Array.getElem?_eq_none h] at this
          have each : ∀ i, i < len → ∃ x : τ.T, ∃ us : List Value, τ.ok N x ∧ All2 (VA (g0 w) w) (τ.enc x) us ∧ us.length = τ.n ∧ (∀ j u, us[j]? = some u → w.cell? ⟨a.block, a.off + (i * τ.n + j), none⟩ = some u) := by
            intro i hi
            obtain ⟨x, us, k1, k2, k3, k4⟩ := each0 i hi
            refine ⟨x, us, k1, k2, k3, fun j u hu => ?_⟩
            have := k4 j u hu
            have hs := (hsp (by omega)).1
            obtain ⟨bk, of, sp⟩ := a
            simp only at hs
            subst hs
            rw [add_none, add_none, Nat.add_assoc] at this
            exact this
          obtain ⟨xs, hxl, hxs⟩ : ∃ xs : List τ.T, xs.length = len ∧ ∀ i (hi : i < len), ∃ us : List Value, ∃ x, xs[i]? = some x ∧ τ.ok N x ∧ All2 (VA (g0 w) w) (τ.enc x) us ∧ us.length = τ.n ∧ (∀ j u, us[j]? = some u → w.cell? ⟨a.block, a.off + (i * τ.n + j), none⟩ = some u) := by
            refine ⟨(List.range len).pmap (fun i hi => Classical.choose (each i hi)) (fun i hi => by simpa using hi), by simp, fun i hi => ?_⟩
            obtain ⟨us, h1, h2, h3, h4⟩ := Classical.choose_spec (each i hi)
            refine ⟨us, Classical.choose (each i hi), ?_, h1, h2, h3, h4⟩
            simp [List.getElem?_pmap, hi]
          have cellF : ∀ i j, i < len → j < τ.n → ∃ u, w.cell? ⟨a.block, a.off + (i * τ.n + j), none⟩ = some u ∧ ∀ x y, xs[i]? = some x → (τ.enc x)[j]? = some y → VA (g0 w) w y u := by
            intro i j hi hj
            obtain ⟨us, x, hx, _, hal, hul, huc⟩ := hxs i hi
            have hlt : j < us.length := by omega
            refine ⟨us[j], huc j us[j] (by simp [hlt]), fun x' y hx' hy => ?_⟩
            rw [hx] at hx'; cases hx'
            obtain ⟨u, hu, hr⟩ := hal.get hy
            rw [List.getElem?_eq_getElem hlt] at hu
            cases hu; exact hr
          refine ⟨(xs, ()), .cons ?_ .nil, ⟨?_, fun x hx => ?_⟩, trivial⟩
          · refine VA.sl τ xs (some a) len cap a.block a.off (fun i j => ((w.cell? ⟨a.block, a.off + (i * τ.n + j), none⟩).getD undef)) (by omega) hlc (fun hne' => ?_) (fun i j hi hj => ?_) (fun i x j y hx hy => ?_)
            · have h0 : 0 < len := by rw [← hxl]; exact List.length_pos_iff.2 hne'
              have hs := hsp h0
              exact ⟨by cases a; simp at hs ⊢; exact hs.1, hs.2⟩
            · obtain ⟨u, hu, _⟩ := cellF i j (by omega) hj
              rw [hu]; rfl
            · have hi : i < len := by rw [← hxl]; exact (List.getElem?_eq_some_iff.1 hx).1
              have hj : j < τ.n := by rw [← enc_length τ x]; exact (List.getElem?_eq_some_iff.1 hy).1
              obtain ⟨u, hu, hr⟩ := cellF i j hi hj
              rw [hu]
              exact hr x y hx hy
          · have := B.len (elems.map (·.1)) (rest.map (·.1))
            rw [List.length_map] at this
            show xs.length ≤ N
            omega
          · obtain ⟨i, hi, rfl⟩ := List.getElem_of_mem hx
            have hi2 : i < xs.length := hi
            obtain ⟨us, x', hx', hok, _⟩ := hxs i (by omega)
            rw [List.getElem?_eq_getElem hi2] at hx'
            cases hx'; exact hok
      · cases h
    · rename_i fs hu
      obtain ⟨xs, m, _, e, hcl, hxl, hx⟩ := DataW.trod_struct hu ht
      cases e
      simp only [Bool.and_eq_true] at h
      obtain ⟨h0, h⟩ := h
      have h0 := Nat.eq_of_beq_eq_true h0
      obtain ⟨v, hv, hok⟩ := fields_ok (b := b) (N := N) P.cellsOf (leafT P n) (tr := DataW.trod enc P w 0 (fun _ => true) true m) (cs := cs) (fun t hl cs d ps h1 h2 h3 => read_ok B n m t hl cs d ps h1 h2 h3) fs.toList 0 hl xs h (by omega) (by simpa using hxl) (fun i f hf => hx i f (by simpa using hf)) (fun x hx => Nat.le_trans (B.part _ _ (List.mem_map.2 ⟨x, hx, rfl⟩)) hN)
      exact ⟨v, by simpa using hv, hok⟩
    · cases h
end
end Go.Eng
/- THE ENGINE: a law that answers true of plain data answers true of what comes in, and leaves it as it was. -/
set_option linter.unusedSimpArgs false
set_option linter.unusedVariables false
set_option linter.unnecessarySimpa false
namespace Go.Eng
open Go Go.RowKit Go.WideShapes Go.ChangeShapes

theorem castL_self : ∀ (τ : Ty) (l : List τ.T), castL τ τ l = some l := fun τ l => by cases τ <;> rfl
theorem castT_self : ∀ (τ : Ty) (l : τ.T), castT τ τ l = some l := fun τ l => by cases τ <;> rfl
theorem HA.sh_st : ∀ (h : HA) (v : h.V), h.sh (h.st v) = some v := fun h v => by
  cases h <;> simp [HA.sh, HA.st, castL_self, castT_self, beq2]
  case int k => cases k <;> rfl
  case intk k n => cases k <;> rfl
  case boolk b => cases b <;> rfl
theorem HL.sh_st : ∀ (l : List HA) (v : HL.V l), HL.sh l (HL.st l v) = some v
  | [], _ => rfl
  | h :: l, v => by simp only [HL.sh, HL.st, HA.sh_st, HL.sh_st]
theorem HV.sh_st : ∀ (h : HV) (v : h.V), h.sh (h.st v) = some v := fun h v => by
  cases h
  · exact HA.sh_st _ v
  · exact HL.sh_st _ v
  · rfl
theorem HP.sh_st : ∀ (l : List HV) (v : HP.V l), HP.sh l (HP.st l v) = some v
  | [], _ => rfl
  | h :: l, v => by simp only [HP.sh, HP.st, HV.sh_st, HP.sh_st]

def HV.ok (N : Nat) : (h : HV) → h.V → Prop
  | .one h, v => h.ok N v
  | .agg l, v => HL.ok N l v
  | .undef, _ => True
def HP.ok (N : Nat) : (l : List HV) → HP.V l → Prop
  | [], _ => True
  | h :: l, v => h.ok N v.1 ∧ HP.ok N l v.2

def argB (P : Program) (t : TypeId) : HV → Bool
  | .one h => (match P.underlying t with | some (.int _) => true | some .bool => true | some .string => true | some (.slice _) => true | _ => false) && leafT P 9 t [h]
  | .agg l => (match P.underlying t with | some (.struct _) => true | _ => false) && leafT P 9 t l
  | .undef => false
def argsB (P : Program) : List TypeId → List HV → Bool
  | [], [] => true
  | t :: ts, h :: l => argB P t h && argsB P ts l
  | _, _ => false

section
variable {P : Program} [GlobL P] {H : Type} {enc : TypeId × Value → H} {w w' : World} {b : DataW H → Nat} {N : Nat}

/-- A program none of whose package-level variables is asked for. -/
theorem globR_nil (h : GlobL.G P = []) {g : Gh} {w : World} : GlobR P g w := fun q τ l hl => by rw [h] at hl; cases hl

theorem arg_ok (B : BulkOK b) {t : TypeId} {h : HV} {v : Value} {base : Nat} {d : DataW H} {ps : List MemPlace} (ht : argB P t h = true) (hok : Value.okWide P w .any base t v) (htr : DataW.Trod enc P w 0 (fun _ => true) true t v d ps) (hN : b d ≤ N) :
    ∃ x : h.V, AVR (g0 w) w (h.st x) v ∧ h.ok N x := by
  obtain ⟨fuel, htr⟩ := htr
  cases h with
  | one h =>
    simp only [argB, Bool.and_eq_true] at ht
    obtain ⟨h1, h2⟩ := ht
    obtain ⟨x, hx, ho⟩ := read_ok B 9 fuel t [h] _ d ps h2 htr hN
    have hc : v.cells.toList = [v] := by
      unfold Value.okWide at hok
      split at h1
      · rename_i hu; rw [hu] at hok; cases v <;> simp_all [Cell.okWide, Cell.ok, Value.cells]
      · rename_i hu; rw [hu] at hok; cases v <;> simp_all [Cell.okWide, Cell.ok, Value.cells]
      · rename_i hu; rw [hu] at hok; cases v <;> simp_all [Cell.okWide, Cell.ok, Value.cells]
      · rename_i hu; rw [hu] at hok; cases v <;> simp_all [Cell.okWide, Cell.ok, Value.cells]
      · cases h1
    rw [hc] at hx
    refine ⟨x.1, ?_, ho.1⟩
    cases hx with
    | cons h1 _ => exact h1
  | agg l =>
    simp only [argB, Bool.and_eq_true] at ht
    obtain ⟨h1, h2⟩ := ht
    obtain ⟨x, hx, ho⟩ := read_ok B 9 fuel t l _ d ps h2 htr hN
    refine ⟨x, ?_, ho⟩
    split at h1
    · rename_i hu
      unfold Value.okWide at hok
      rw [hu] at hok
      obtain ⟨cs, rfl, _, _⟩ := hok
      exact ⟨cs.toList, by simp, by simpa [Value.cells] using hx⟩
    · cases h1
  | undef => simp [argB] at ht

theorem args_ok (B : BulkOK b) {base : Nat} : ∀ (ts : List TypeId) (hp : List HV) (vs : List Value) (ds : List (DataW H)) (ps : List MemPlace), argsB P ts hp = true → (∀ (j : Nat) t v, ts[j]? = some t → vs[j]? = some v → Value.okWide P w .any base t v) →
    DataW.TrodAll enc P w 0 (fun _ => true) true ts vs ds ps → (∀ d ∈ ds, b d ≤ N) → ∃ x : HP.V hp, All2 (AVR (g0 w) w) (HP.st hp x) vs ∧ HP.ok N hp x
  | [], [], vs, ds, ps, _, _, htr, _ => by
    obtain ⟨rfl, rfl, rfl⟩ := trodAll_nil htr
    exact ⟨(), .nil, trivial⟩
  | [], _ :: _, _, _, _, h, _, _, _ => by simp [argsB] at h
  | _ :: _, [], _, _, _, h, _, _, _ => by simp [argsB] at h
  | t :: ts, h :: hp, vs, ds, ps, hb, hok, htr, hN => by
    simp only [argsB, Bool.and_eq_true] at hb
    obtain ⟨v, vs', d, ds', p, q, rfl, rfl, rfl, h1, h2⟩ := trodAll_cons htr
    obtain ⟨x, hx, ho⟩ := arg_ok B hb.1 (hok 0 t v rfl rfl) h1 (hN d (by simp))
    obtain ⟨y, hy, hp⟩ := args_ok B ts hp vs' ds' q hb.2 (fun j t v ht hv => hok (j + 1) t v (by simpa using ht) (by simpa using hv)) h2 (fun d hd => hN d (by simp [hd]))
    exact ⟨(x, y), .cons hx hy, ho, hp⟩

/-- What came in reads as it did. -/
theorem reread {T : TypeId → Prop} (K : Kids P T) (hz : ∀ t e, T t → P.underlying t = some (.slice e) → 0 < P.cellsOf e) (hb : Below w.heap.size w w') {sp : Nat → Bool} : ∀ (ts : List TypeId) (vs : List Value) (ds : List (DataW H)) (ps : List MemPlace), (∀ t ∈ ts, T t) →
    DataW.TrodAll enc P w 0 (fun _ => true) true ts vs ds ps → (∀ p ∈ ps, sp p.block = true) → DataW.TrodAll enc P w' 0 sp true ts vs ds ps
  | [], vs, ds, ps, _, h, _ => by obtain ⟨rfl, rfl, rfl⟩ := trodAll_nil h; exact trodAll_mk0
  | t :: ts, vs, ds, ps, hT, h, hs => by
    obtain ⟨v, vs', d, ds', p, q, rfl, rfl, rfl, ⟨fuel, h1⟩, h2⟩ := trodAll_cons h
    refine trodAll_cons_mk ⟨fuel, ?_⟩ (reread K hz hb ts vs' ds' q (fun t ht => hT t (by simp [ht])) h2 (fun p hp => hs p (by simp [hp])))
    have h3 := DataW.trod_respare K hz fuel t _ (d, p) (hT t (by simp)) h1 (fun y hy => hs y (by simp at hy; simp [hy]))
    exact DataW.trod_carry fuel t _ (d, p) h3 (fun y hy => hb.same (DataW.trod_lt fuel t _ (d, p) h1 y hy))

theorem post_of_below {f : Func} {s : ChangeSpec} {apart fresh handsOn again : Bool} {W W' : World} {args : Array Value} {v : Value} {ds gs : List (DataW H)} {before pa pv : List MemPlace}
    (hW : DataW.Whole enc P f.params.toList s.vars apart W args.toList ds gs before)
    (hres : ∀ (b : Nat) (sp : Nat → Bool) (hd : Bool), DataW.TrodAll enc P W' b sp hd f.resultTypes.toList (v.resultList f.resultTypes.size) (s.fn H (ds ++ gs)).results [])
    (hargs : ∀ sp : Nat → Bool, (∀ p ∈ before, sp p.block = true) → DataW.TrodAll enc P W' 0 sp true f.params.toList args.toList (s.fn H (ds ++ gs)).args pa)
    (hvars : ∀ sp : Nat → Bool, (∀ p ∈ before, sp p.block = true) → DataW.TrodVars enc P W' sp s.vars (s.fn H (ds ++ gs)).vars pv)
    (hps : before = pa ++ pv) (hb : Below W.heap.size W W')
    (hok : ∀ (j : Nat) (t : TypeId) (r : Value), f.resultTypes[j]? = some t → (v.resultList f.resultTypes.size)[j]? = some r → Value.okWide P W' .any 0 t r) :
    s.post enc P f apart fresh handsOn again W args v W' := by
  have hlt : ∀ p ∈ before, p.block < W.heap.size := fun p hp => hW.lt p hp
  have hold : ∀ p ∈ before, (fun b => decide (b < W.heap.size)) p.block = true := fun p hp => by simpa using hlt p hp
  refine ⟨ds, gs, before, [], pa, pv, hW, hres _ _ _, hargs _ hold, hvars _ hold, World.keptBut_mono (fun p hp => ⟨hp, ?_⟩) (hb.frame (· ∈ before)), fun _ => ?_⟩
  · rw [hps, List.mem_append] at hp
    exact Or.inr hp
  · obtain ⟨_, _, _, _, _, hz, hn⟩ := hW
    refine ⟨hok, _, _, ([] ++ pa) ++ pv, ⟨[] ++ pa, pv, trodAll_append (hargs _ (fun _ _ => rfl)) (hres _ _ _), hvars _ (fun _ _ => rfl), rfl, ?_, ?_⟩, ?_⟩
    · intro b off hp
      have hin : MemPlace.cell b off ∈ before := by rw [hps]; simpa using hp
      rw [hb.frozen (hlt _ hin)]
      exact hz b off hin
    · intro ha
      have := hn ha
      rw [hps] at this
      simpa using this
    · intro p hp _
      rw [hps]
      simpa using hp

/-- A LAW's CONTRACT, out of what its function answers of plain data. -/
theorem law_contract (B : BulkOK b) {T : TypeId → Prop} (K : Kids P T) (hz : ∀ t e, T t → P.underlying t = some (.slice e) → 0 < P.cellsOf e)
    {fid : Nat} {fn : Func} {s : ChangeSpec} {hp : List HV} {X : Type} {toX : HP.V hp → X} {ofY : Bool → HX.V [HV.one .bool]} {f : X → Option Bool} {tb : TypeId} (S : SpecOK P fid (mkSpec hp [.one .bool] toX ofY f)) (hofY : ofY true = true)
    (hvars : s.vars = []) (hres : fn.resultTypes = #[tb]) (htb : P.underlying tb = some .bool) (hT : ∀ t ∈ fn.params.toList, T t) (hargs : argsB P fn.params.toList hp = true)
    (hfn : ∀ ds : List (DataW H), ds.length = hp.length → (s.fn H ds).results = [.lit (.bool true)] ∧ (s.fn H ds).args = ds ∧ (s.fn H ds).vars = [])
    (law : ∀ x : HP.V hp, HP.ok N hp x → f (toX x) = some true) {apart fresh handsOn again : Bool}
    (W : World) (base : Nat) (args : Array Value) (ds gs : List (DataW H)) (before : List MemPlace)
    (hval : ∀ (j : Nat) t v, fn.params[j]? = some t → args[j]? = some v → Value.okWide P W .any base t v)
    (hW : DataW.Whole enc P fn.params.toList s.vars apart W args.toList ds gs before) (hN : ∀ d ∈ ds, b d ≤ N) (hG : GlobR P (g0 W) W) :
    Calls P fid args W fun e W' => ∃ v, e = .returned v ∧ s.post enc P fn apart fresh handsOn again W args v W' := by
  have hW' := hW
  obtain ⟨p, q, hA, hV, rfl, hfz, hnd⟩ := hW
  rw [hvars] at hV
  obtain ⟨rfl, rfl⟩ := trodVars_none hV
  obtain ⟨x, hx, ho⟩ := args_ok (N := N) B fn.params.toList hp args.toList ds p hargs (fun j t v ht hv => hval j t v (by simpa using ht) (by simpa using hv)) hA hN
  have hl := law x ho
  have hlen : ds.length = hp.length := by
    have h1 := hx.length
    rw [HP.len] at h1
    have h2 : ∀ (ts : List TypeId) (vs : List Value) (ds : List (DataW H)) (ps : List MemPlace), DataW.TrodAll enc P W 0 (fun _ => true) true ts vs ds ps → ds.length = vs.length := by
      intro ts
      induction ts with
      | nil => intro vs ds ps h; obtain ⟨rfl, rfl, rfl⟩ := trodAll_nil h; rfl
      | cons t ts ih => intro vs ds ps h; obtain ⟨v, vs', d, ds', p, q, rfl, rfl, rfl, h1, h2⟩ := trodAll_cons h; simp [ih _ _ _ h2]
    rw [h2 _ _ _ _ hA, ← h1]
  have hcall := S.calls (fun k => k < W.heap.size) W (HP.st hp x) args.toList (toX x) true (fun k hk => hk) hG hx (by
    show (match HP.sh hp (HP.st hp x) with | some v => some (toX v) | none => none) = some (toX x)
    rw [HP.sh_st]) hl
  have e : args.toList.toArray = args := by simp
  rw [e] at hcall
  refine hcall.mono fun e W' ⟨v, he, hb, hv⟩ => ⟨v, he, ?_⟩
  have hv' : v = .bool true := by
    have : AVR _ W' (HX.st [HV.one .bool] (ofY true)) v := hv
    rw [hofY] at this
    cases this; rfl
  subst hv'
  obtain ⟨f1, f2, f3⟩ := hfn ds hlen
  refine post_of_below (pa := p) (pv := []) hW' (fun bb sp hd => ?_) (fun sp hsp => ?_) (fun sp hsp => ?_) rfl hb (ok_one hres rfl (okWide_bool_mk htb _))
  · simp only [List.append_nil]
    rw [f1, hres]
    exact trodAll_cons_mk (shut_bool htb _) trodAll_mk0
  · simp only [List.append_nil]
    rw [f2]
    exact reread K hz hb _ _ _ _ hT hA (fun y hy => hsp y (by simpa using hy))
  · simp only [List.append_nil]
    rw [f3, hvars]
    exact rfl
end
end Go.Eng
/- THE ENGINE: slices.overlaps of two rows of the activation's own. -/
set_option linter.unusedVariables false
set_option linter.unusedSimpArgs false
namespace Go.Eng
open Go Go.RowKit Go.Lib

theorem ovlOK_of {P : Program} {f : Nat} {fn : Func} {tS tR e size : Nat} (hf : P.funcs[f]? = some fn) (h1 : (fn.name == "runtime.NumGoroutine") = false) (h2 : fn.body.isNone = true) (h3 : Extern.findNext fn = none)
    (h4 : Extern.find fn = some (Extern.SlicesOverlaps.overlaps #[tS, tS] #[tR])) (ht : P.underlying tS = some (.slice e)) (hz : ∀ w, (Go.sizeOf e).run P w = .ok size w) : OvlOK P f := by
  intro w x y la ca lb cb h
  rw [run_callFunc_extern hf h1 h2 h3 h4]
  have go : (Extern.SlicesOverlaps.overlaps #[tS, tS] #[tR] #[.slice x la ca, .slice y lb cb]).run P w = .ok (.bool false) w := by
    by_cases h0 : la = 0 ∨ lb = 0 ∨ size = 0
    · change Sem.run P (α := Value) (do
        let some t := (#[tS, tS] : Array TypeId)[0]? | stuck "slices.overlaps: no parameter types"
        let .slice elem ← underlying t | stuck "slices.overlaps: slice type expected"
        let size ← sizeOf elem
        match x, y with
        | some a, some b =>
          if la = 0 ∨ lb = 0 ∨ size = 0 then pure (Value.bool false)
          else if a.block != b.block && (← frozen a) && (← frozen b) then unsupported .addressObserved
          else do
            if a.block != b.block then do
              noView a; noView b
              if ← mayBeOne a b then return Value.bool ((← choose (.extern "sameAddr.stringBytes" 2)) == 1)
            pure (Value.bool (a.block == b.block && a.off < b.off + lb * size && b.off < a.off + la * size))
        | _, _ => pure (Value.bool false)) w = _
      cases x <;> cases y <;> simp [run_underlying ht, hz, h0]
    · rcases h with h | h | ⟨p, q, o, o', csx, csy, ex, ey, rfl, rfl, hne, hx, hy, hs⟩
      · exact (h0 (.inl h)).elim
      · exact (h0 (.inr (.inl h))).elim
      · exact Lib.run_overlaps_apart w tS tR e ht size hz ⟨p, o, none⟩ ⟨q, o', none⟩ la ca lb cb hne ex ey csx.size csy.size (by simp [World.shape?, hx]) (by simp [World.shape?, hy]) hs (by simp [World.frozen?, hx]) (by simp [World.frozen?, hx])
  rw [go]; rfl
end Go.Eng
