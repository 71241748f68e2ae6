import Derived.Test.YtiaemhkkfjpdlaaEngJ
import Derived.ChangeArms
import Derived.DataReads
import Derived.ReadAgain
import Derived.ChangeOld
import Derived.ChangeSame
/- THE ENGINE: what came in, as the claims' reader reads it, is plain data; behind the call it reads as it did. -/
set_option linter.unusedSimpArgs false
set_option linter.unusedVariables false
set_option linter.unnecessarySimpa false
namespace Go.Eng
open Go Go.RowKit

def wfI (n : Int) : Prop := (Lit.int .i64 n).wf = true

def Entry.ok (N : Nat) (x : Entry) : Prop := x.name.length ≤ N ∧ wfI x.ino
def Inode.ok (N : Nat) (x : Inode) : Prop := wfI x.ino ∧ wfI x.kind ∧ wfI x.links ∧ x.data.length ≤ N ∧ wfI x.parent ∧ x.entries.length ≤ N ∧ ∀ e ∈ x.entries, e.ok N
def Ty.ok (N : Nat) : (τ : Ty) → τ.T → Prop
  | .int, (x : Int) => wfI x
  | .byte, _ => True
  | .str, (s : Str) => s.length ≤ N
  | .entry, (x : Entry) => x.ok N
  | .inode, (x : Inode) => x.ok N
  | .seen, (x : Seen) => x.path.length ≤ N ∧ wfI x.ino
  | .kept, (x : Kept) => wfI x.slot ∧ wfI x.ino ∧ x.data.length ≤ N
  | .opn, (x : Opn) => wfI x.kind ∧ wfI x.slot ∧ x.a.length ≤ N ∧ x.b.length ≤ N ∧ x.data.length ≤ N
  | .clls, (x : Clls) => wfI x.op ∧ x.a.length ≤ N ∧ x.b.length ≤ N ∧ x.data.length ≤ N
  | .shp, (x : Shp) => x.path.length ≤ N ∧ wfI x.kind ∧ x.data.length ≤ N ∧ wfI x.first
  | .rule, _ => True

def HA.ok (N : Nat) : (h : HA) → h.V → Prop
  | .int k, n => (Lit.int k n).wf = true
  | .str, s => s.length ≤ N
  | .sl τ, l => l.length ≤ N ∧ ∀ x ∈ l, τ.ok N x
  | _, _ => True
def HL.ok (N : Nat) : (l : List HA) → HL.V l → Prop
  | [], _ => True
  | h :: l, v => h.ok N v.1 ∧ HL.ok N l v.2

/-- The leaves of an element. -/
def Ty.hl : Ty → List HA
  | .int => [.int .i64]
  | .byte => [.int .u8]
  | .str => [.str]
  | .entry => [.str, .int .i64]
  | .inode => [.int .i64, .int .i64, .int .i64, .str, .int .i64, .sl .entry]
  | .seen => [.str, .int .i64]
  | .kept => [.int .i64, .int .i64, .bool, .str]
  | .opn => [.int .i64, .int .i64, .str, .str, .str]
  | .clls => [.int .i64, .str, .str, .str]
  | .shp => [.str, .int .i64, .str, .int .i64]
  | .rule => []

theorem wf_u8 {n : Int} (h : (Lit.int .u8 n).wf = true) : 0 ≤ n ∧ n < 256 := by
  simp [Lit.wf, IntKind.min, IntKind.max, IntKind.signed, IntKind.bits] at h; omega

theorem Ty.of_ok {N : Nat} : ∀ (τ : Ty) (v : HL.V τ.hl), τ.hl ≠ [] → HL.ok N τ.hl v → ∃ x : τ.T, τ.enc x = HL.st τ.hl v ∧ τ.ok N x
  | .int, v, _, h => ⟨v.1, rfl, h.1⟩
  | .byte, v, _, h => by
    obtain ⟨h1, h2⟩ := wf_u8 h.1
    refine ⟨(UInt8.ofNat v.1.toNat : UInt8), ?_, trivial⟩
    show [At.int .u8 ((UInt8.ofNat v.1.toNat).toNat : Nat)] = [At.int .u8 v.1]
    congr 2
    rw [UInt8.toNat_ofNat']
    omega
  | .str, v, _, h => ⟨v.1, rfl, h.1⟩
  | .entry, v, _, h => ⟨(⟨v.1, v.2.1⟩ : Entry), rfl, h.1, h.2.1⟩
  | .inode, v, _, h => ⟨(⟨v.1, v.2.1, v.2.2.1, v.2.2.2.1, v.2.2.2.2.1, v.2.2.2.2.2.1⟩ : Inode), rfl, h.1, h.2.1, h.2.2.1, h.2.2.2.1, h.2.2.2.2.1, h.2.2.2.2.2.1.1, h.2.2.2.2.2.1.2⟩
  | .seen, v, _, h => ⟨(⟨v.1, v.2.1⟩ : Seen), rfl, h.1, h.2.1⟩
  | .kept, v, _, h => ⟨(⟨v.1, v.2.1, v.2.2.1, v.2.2.2.1⟩ : Kept), rfl, h.1, h.2.1, h.2.2.2.1⟩
  | .opn, v, _, h => ⟨(⟨v.1, v.2.1, v.2.2.1, v.2.2.2.1, v.2.2.2.2.1⟩ : Opn), rfl, h.1, h.2.1, h.2.2.1, h.2.2.2.1, h.2.2.2.2.1⟩
  | .clls, v, _, h => ⟨(⟨v.1, v.2.1, v.2.2.1, v.2.2.2.1⟩ : Clls), rfl, h.1, h.2.1, h.2.2.1, h.2.2.2.1⟩
  | .shp, v, _, h => ⟨(⟨v.1, v.2.1, v.2.2.1, v.2.2.2.1⟩ : Shp), rfl, h.1, h.2.1, h.2.2.1, h.2.2.2.1⟩
  | .rule, _, h, _ => absurd rfl h

/-- Has a type these leaves? -/
def leafB (cell : TypeId → Nat) (rec : TypeId → List HA → Bool) : List Field → Nat → List HA → Bool
  | [], _, hl => hl.isEmpty
  | f :: fs, off, hl => Nat.beq f.offset off && (Nat.ble (cell f.type) hl.length && (rec f.type (hl.take (cell f.type)) && leafB cell rec fs (off + cell f.type) (hl.drop (cell f.type))))
def leafT (P : Program) : Nat → TypeId → List HA → Bool
  | 0, _, _ => false
  | n + 1, t, hl =>
    match P.underlying t with
    | some (.int k) => match hl with | [.int k'] => ikeq k k' | _ => false
    | some .bool => match hl with | [.bool] => true | _ => false
    | some .string => match hl with | [.str] => true | _ => false
    | some (.slice e) => match hl with | [.sl τ] => Nat.beq (P.cellsOf e) τ.n && (!τ.hl.isEmpty && leafT P n e τ.hl) | _ => false
    | some (.struct fs) => Nat.beq (P.cellsOf t) hl.length && leafB P.cellsOf (leafT P n) fs.toList 0 hl
    | _ => false

/-- What a measure of a reading must be. -/
structure BulkOK {H : Type} (b : DataW H → Nat) : Prop where
  str : ∀ l, l.length ≤ b (.lit (.string l))
  len : ∀ es sp, es.length ≤ b (.slice es sp)
  elem : ∀ es sp, ∀ e ∈ es, b e ≤ b (.slice es sp)
  part : ∀ ps, ∀ p ∈ ps, b p ≤ b (.agg ps)

/-- All that lay when the call began. -/
def g0 (w : World) : Gh := ⟨fun k => k < w.heap.size, fun _ => none⟩

theorem HL.join {N : Nat} : ∀ (k : Nat) {l : List HA} (a : HL.V (l.take k)) (b : HL.V (l.drop k)), HL.ok N _ a → HL.ok N _ b → ∃ v : HL.V l, HL.st l v = HL.st _ a ++ HL.st _ b ∧ HL.ok N l v
  | 0, l, a, b, _, hb => ⟨b, by cases l <;> rfl, hb⟩
  | k + 1, [], a, b, _, _ => ⟨(), rfl, trivial⟩
  | k + 1, h :: l, a, b, ha, hb => by
    obtain ⟨v, e, hv⟩ := HL.join k (l := l) a.2 b ha.2 hb
    exact ⟨(a.1, v), by simp only [HL.st, e, List.take_succ_cons, List.cons_append]; rfl, ha.1, hv⟩

section
variable {P : Program} {H : Type} {enc : TypeId × Value → H} {w : World} {b : DataW H → Nat} {N : Nat}

theorem fields_ok (cell : TypeId → Nat) (rec : TypeId → List HA → Bool) {cs : List Value} {tr : TypeId → List Value → Option (DataW H × List MemPlace)}
    (ih : ∀ t hl cs d ps, rec t hl = true → tr t cs = some (d, ps) → b d ≤ N → ∃ v : HL.V hl, All2 (VA (g0 w) w) (HL.st hl v) cs ∧ HL.ok N hl v) :
    ∀ (fs : List Field) (off : Nat) (hl : List HA) (xs : List (DataW H × List MemPlace)), leafB cell rec fs off hl = true → cs.length = off + hl.length → xs.length = fs.length →
      (∀ (i : Nat) (f : Field), fs[i]? = some f → tr f.type ((cs.drop f.offset).take (cell f.type)) = xs[i]?) → (∀ x ∈ xs, b x.1 ≤ N) →
      ∃ v : HL.V hl, All2 (VA (g0 w) w) (HL.st hl v) (cs.drop off) ∧ HL.ok N hl v
  | [], off, hl, xs, h, hc, _, _, _ => by
    have h : hl = [] := by simpa [leafB] using h
    subst h
    refine ⟨(), ?_, trivial⟩
    rw [List.drop_eq_nil_of_le (by simp at hc; omega)]
    exact .nil
  | f :: fs, off, hl, xs, h, hc, hxl, hx, hb => by
    unfold leafB at h
    simp only [Bool.and_eq_true] at h
    obtain ⟨h1, h2, h3, h4⟩ := h
    have h1 := Nat.eq_of_beq_eq_true h1
    have h2 := Nat.le_of_ble_eq_true h2
    cases xs with
    | nil => simp at hxl
    | cons x xs =>
      have hx0 := hx 0 f rfl
      simp only [List.getElem?_cons_zero] at hx0
      rw [h1] at hx0
      obtain ⟨va, ha, hoa⟩ := ih _ _ _ x.1 x.2 h3 hx0 (hb x (by simp))
      obtain ⟨vb, hb', hob⟩ := fields_ok (cs := cs) cell rec ih fs (off + cell f.type) _ xs h4 (by rw [List.length_drop]; omega) (by simpa using hxl) (fun i f' hf' => by simpa using hx (i + 1) f' (by simpa using hf')) (fun y hy => hb y (by simp [hy]))
      obtain ⟨v, e, hv⟩ := HL.join (cell f.type) va vb hoa hob
      refine ⟨v, ?_, hv⟩
      rw [e]
      have e2 : cs.drop off = (cs.drop off).take (cell f.type) ++ cs.drop (off + cell f.type) := by rw [← List.drop_drop, List.take_append_drop]
      rw [e2]
      exact ha.append hb'

/-- WHAT CAME IN IS PLAIN DATA. -/
theorem read_ok (B : BulkOK b) : ∀ (n fuel : Nat) (t : TypeId) (hl : List HA) (cs : List Value) (d : DataW H) (ps : List MemPlace), leafT P n t hl = true → DataW.trod enc P w 0 (fun _ => true) true fuel t cs = some (d, ps) → b d ≤ N →
    ∃ v : HL.V hl, All2 (VA (g0 w) w) (HL.st hl v) cs ∧ HL.ok N hl v
  | 0, fuel, t, hl, cs, d, ps, h, _, _ => by simp [leafT] at h
  | n + 1, fuel, t, hl, cs, d, ps, h, ht, hN => by
    unfold leafT at h
    split at h
    · rename_i k hu
      split at h
      · rename_i k'
        obtain ⟨q, rfl, e, hw⟩ := DataW.trod_int hu ht
        have := ikeq_ok h
        subst this
        exact ⟨(q, ()), .cons (VA.int _ _) .nil, hw, trivial⟩
      · cases h
    · rename_i hu
      split at h
      · obtain ⟨q, rfl, e⟩ := DataW.trod_bool hu ht
        exact ⟨(q, ()), .cons (VA.bool _) .nil, trivial, trivial⟩
      · cases h
    · rename_i hu
      split at h
      · obtain ⟨q, rfl, e, hs⟩ := DataW.trod_string hu ht
        cases e
        exact ⟨(q.data.toList, ()), .cons (VA.str _ _ rfl) .nil, Nat.le_trans (B.str _) hN, trivial⟩
      · cases h
    · rename_i e hu
      split at h
      · rename_i τ
        simp only [Bool.and_eq_true] at h
        obtain ⟨h1, h2, h3⟩ := h
        have h1 := Nat.eq_of_beq_eq_true h1
        have hne : τ.hl ≠ [] := by intro e; rw [e] at h2; simp at h2
        rcases DataW.trod_slice hu ht with ⟨rfl, e0⟩ | ⟨a, len, cap, elems, rest, m, _, rfl, e0, hb, hlc, hm, hlen, hel, _, _⟩
        · refine ⟨(([] : List τ.T), ()), .cons (VA.sl τ [] none 0 0 0 0 (fun _ _ => default) rfl (Nat.le_refl _) (fun h => absurd rfl h) (fun i j hi => by simp at hi) (fun i x j y hx => by simp at hx)) .nil, ⟨Nat.zero_le _, fun x hx => by cases hx⟩, trivial⟩
        · cases e0
          have each0 : ∀ i, i < len → ∃ x : τ.T, ∃ us : List Value, τ.ok N x ∧ All2 (VA (g0 w) w) (τ.enc x) us ∧ us.length = τ.n ∧ (∀ j u, us[j]? = some u → w.cell? ((a.add (i * τ.n)).add j) = some u) := by
            intro i hi
            have hi' := hel i hi
            rw [h1] at hi'
            have hil : i < elems.length := by omega
            rw [List.getElem?_eq_getElem hil] at hi'
            obtain ⟨us, hus, htr⟩ := Option.bind_eq_some_iff.1 hi'
            obtain ⟨v, hv, hok⟩ := read_ok B n m e τ.hl us elems[i].1 elems[i].2 h3 htr (Nat.le_trans (B.elem _ _ _ (List.mem_map.2 ⟨elems[i], List.getElem_mem hil, rfl⟩)) hN)
            obtain ⟨x, hx, hxo⟩ := Ty.of_ok τ v hne hok
            obtain ⟨_, hul, huc⟩ := World.cells?_some hus
            refine ⟨x, us, hxo, by rw [hx]; exact hv, hul, fun j u hu => ?_⟩
            have hj : j < τ.n := by rw [← hul]; exact (List.getElem?_eq_some_iff.1 hu).1
            rw [huc j hj, hu]
          have hsp : 0 < len → a.spot = none ∧ a.block < w.heap.size := by
            intro h0
            obtain ⟨x, us, _, _, hul, huc⟩ := each0 0 h0
            have h00 : 0 < us.length := by rw [hul]; exact n_pos τ
            have := huc 0 us[0] (by simp [h00])
            have e9 : (a.add (0 * τ.n)).add 0 = a := by simp [Addr.add]
            rw [e9] at this
            refine ⟨World.cell?_spot this, ?_⟩
            rcases Nat.lt_or_ge a.block w.heap.size with h | h
            · exact h
            · exfalso
              unfold World.cell? at this
              rw [World.cell?_spot this] at this
              simp [Array.getElem?_eq_none h] at this
          have each : ∀ i, i < len → ∃ x : τ.T, ∃ us : List Value, τ.ok N x ∧ All2 (VA (g0 w) w) (τ.enc x) us ∧ us.length = τ.n ∧ (∀ j u, us[j]? = some u → w.cell? ⟨a.block, a.off + (i * τ.n + j), none⟩ = some u) := by
            intro i hi
            obtain ⟨x, us, k1, k2, k3, k4⟩ := each0 i hi
            refine ⟨x, us, k1, k2, k3, fun j u hu => ?_⟩
            have := k4 j u hu
            have hs := (hsp (by omega)).1
            obtain ⟨bk, of, sp⟩ := a
            simp only at hs
            subst hs
            rw [add_none, add_none, Nat.add_assoc] at this
            exact this
          obtain ⟨xs, hxl, hxs⟩ : ∃ xs : List τ.T, xs.length = len ∧ ∀ i (hi : i < len), ∃ us : List Value, ∃ x, xs[i]? = some x ∧ τ.ok N x ∧ All2 (VA (g0 w) w) (τ.enc x) us ∧ us.length = τ.n ∧ (∀ j u, us[j]? = some u → w.cell? ⟨a.block, a.off + (i * τ.n + j), none⟩ = some u) := by
            refine ⟨(List.range len).pmap (fun i hi => Classical.choose (each i hi)) (fun i hi => by simpa using hi), by simp, fun i hi => ?_⟩
            obtain ⟨us, h1, h2, h3, h4⟩ := Classical.choose_spec (each i hi)
            refine ⟨us, Classical.choose (each i hi), ?_, h1, h2, h3, h4⟩
            simp [List.getElem?_pmap, hi]
          have cellF : ∀ i j, i < len → j < τ.n → ∃ u, w.cell? ⟨a.block, a.off + (i * τ.n + j), none⟩ = some u ∧ ∀ x y, xs[i]? = some x → (τ.enc x)[j]? = some y → VA (g0 w) w y u := by
            intro i j hi hj
            obtain ⟨us, x, hx, _, hal, hul, huc⟩ := hxs i hi
            have hlt : j < us.length := by omega
            refine ⟨us[j], huc j us[j] (by simp [hlt]), fun x' y hx' hy => ?_⟩
            rw [hx] at hx'; cases hx'
            obtain ⟨u, hu, hr⟩ := hal.get hy
            rw [List.getElem?_eq_getElem hlt] at hu
            cases hu; exact hr
          refine ⟨(xs, ()), .cons ?_ .nil, ⟨?_, fun x hx => ?_⟩, trivial⟩
          · refine VA.sl τ xs (some a) len cap a.block a.off (fun i j => ((w.cell? ⟨a.block, a.off + (i * τ.n + j), none⟩).getD undef)) (by omega) hlc (fun hne' => ?_) (fun i j hi hj => ?_) (fun i x j y hx hy => ?_)
            · have h0 : 0 < len := by rw [← hxl]; exact List.length_pos_iff.2 hne'
              have hs := hsp h0
              exact ⟨by cases a; simp at hs ⊢; exact hs.1, hs.2⟩
            · obtain ⟨u, hu, _⟩ := cellF i j (by omega) hj
              rw [hu]; rfl
            · have hi : i < len := by rw [← hxl]; exact (List.getElem?_eq_some_iff.1 hx).1
              have hj : j < τ.n := by rw [← enc_length τ x]; exact (List.getElem?_eq_some_iff.1 hy).1
              obtain ⟨u, hu, hr⟩ := cellF i j hi hj
              rw [hu]
              exact hr x y hx hy
          · have := B.len (elems.map (·.1)) (rest.map (·.1))
            rw [List.length_map] at this
            show xs.length ≤ N
            omega
          · obtain ⟨i, hi, rfl⟩ := List.getElem_of_mem hx
            have hi2 : i < xs.length := hi
            obtain ⟨us, x', hx', hok, _⟩ := hxs i (by omega)
            rw [List.getElem?_eq_getElem hi2] at hx'
            cases hx'; exact hok
      · cases h
    · rename_i fs hu
      obtain ⟨xs, m, _, e, hcl, hxl, hx⟩ := DataW.trod_struct hu ht
      cases e
      simp only [Bool.and_eq_true] at h
      obtain ⟨h0, h⟩ := h
      have h0 := Nat.eq_of_beq_eq_true h0
      obtain ⟨v, hv, hok⟩ := fields_ok (b := b) (N := N) P.cellsOf (leafT P n) (tr := DataW.trod enc P w 0 (fun _ => true) true m) (cs := cs) (fun t hl cs d ps h1 h2 h3 => read_ok B n m t hl cs d ps h1 h2 h3) fs.toList 0 hl xs h (by omega) (by simpa using hxl) (fun i f hf => hx i f (by simpa using hf)) (fun x hx => Nat.le_trans (B.part _ _ (List.mem_map.2 ⟨x, hx, rfl⟩)) hN)
      exact ⟨v, by simpa using hv, hok⟩
    · cases h
end
end Go.Eng
