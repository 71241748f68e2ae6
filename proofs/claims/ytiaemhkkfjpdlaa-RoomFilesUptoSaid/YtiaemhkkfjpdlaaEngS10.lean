import Derived.Test.YtiaemhkkfjpdlaaEngS9
/- THE ENGINE, soundness, part 10: append, copy. -/
set_option linter.unusedSimpArgs false
set_option linter.unusedVariables false
set_option linter.unnecessarySimpa false
namespace Go.Eng
open Go Go.RowKit

section
variable {P : Program} {F : Fence} {n : Nat} {c : Cfg} {g g' : Gh} {r : Regs} {m : Mem} {a : Act} {w w' : World} {o : Oper} {R : Type} {k : St → Option R} {res : R}
variable {base : Nat} {w0 : World} {S0 : Nat → Prop} {N : Nat} {D : List Deferred} {sv : Nat → Value} {σ : St}

/-- Values that are a list's cells. -/
def Elems (g : Gh) (w : World) (τ : Ty) (l : List τ.T) (vs : List Value) : Prop :=
  ∀ i x j y, l[i]? = some x → (τ.enc x)[j]? = some y → ∃ v, vs[i * τ.n + j]? = some v ∧ VA g w y v

theorem Elems.one {τ : Ty} {l : List τ.T} {vs : List Value} (h : Elems g w τ l vs) (hl : vs.length = l.length * τ.n) : ∀ u ∈ vs, u.oneCell' = true := by
  intro u hu
  obtain ⟨p, hp, rfl⟩ := List.getElem_of_mem hu
  have hn := n_pos τ
  have hi : p / τ.n < l.length := by rw [hl] at hp; exact Nat.div_lt_of_lt_mul (by rw [Nat.mul_comm]; exact hp)
  have hj : p % τ.n < τ.n := Nat.mod_lt _ hn
  obtain ⟨v, hv, hr⟩ := h (p / τ.n) l[p / τ.n] (p % τ.n) ((τ.enc l[p / τ.n])[p % τ.n]'(by rw [enc_length]; exact hj)) (by simp [hi]) (by simp [enc_length, hj])
  have e : p / τ.n * τ.n + p % τ.n = p := by rw [Nat.mul_comm]; exact Nat.div_add_mod p τ.n
  rw [e] at hv
  rw [List.getElem?_eq_getElem hp] at hv
  cases hv
  exact hr.one

theorem Elems.mono {τ : Ty} {l : List τ.T} {vs : List Value} (h : Elems g w τ l vs) (hw : Holds g w w') (hg : g.le g') : Elems g' w' τ l vs := fun i x j y hx hy => let ⟨v, hv, hr⟩ := h i x j y hx hy; ⟨v, hv, hr.mono hw hg⟩

/-- Where a slice's elements lie. -/
def Src (g : Gh) (w : World) (τ : Ty) (l : List τ.T) (ad : Option Addr) : Prop :=
  l ≠ [] → ∃ (bk of : Nat) (vs : List Value), ad = some ⟨bk, of, none⟩ ∧ vs.length = l.length * τ.n ∧ (∀ j u, vs[j]? = some u → w.cell? ⟨bk, of + j, none⟩ = some u) ∧ Elems g w τ l vs

theorem src_of {τ : Ty} {l : List τ.T} {ad : Option Addr} (h : l ≠ [] → ∃ (bk of : Nat) (f : Nat → Nat → Value), ad = some ⟨bk, of, none⟩ ∧ (∀ i j, i < l.length → j < τ.n → w.cell? ⟨bk, of + (i * τ.n + j), none⟩ = some (f i j)) ∧ ∀ i x j y, l[i]? = some x → (τ.enc x)[j]? = some y → VA g w y (f i j)) : Src g w τ l ad := by
  intro hne
  obtain ⟨bk, of, f, e, hc, hf⟩ := h hne
  have hn := n_pos τ
  refine ⟨bk, of, (List.range (l.length * τ.n)).map fun p => f (p / τ.n) (p % τ.n), e, by simp, fun j u hu => ?_, fun i x j y hx hy => ?_⟩
  · have hj : j < l.length * τ.n := by
      rcases Nat.lt_or_ge j (l.length * τ.n) with h' | h'
      · exact h'
      · rw [List.getElem?_eq_none (by simpa using h')] at hu; cases hu
    simp [hj] at hu
    subst hu
    have := hc (j / τ.n) (j % τ.n) (Nat.div_lt_of_lt_mul (by rw [Nat.mul_comm]; exact hj)) (Nat.mod_lt _ hn)
    have e : j / τ.n * τ.n + j % τ.n = j := by rw [Nat.mul_comm]; exact Nat.div_add_mod j τ.n
    rwa [e] at this
  · have hi : i < l.length := (List.getElem?_eq_some_iff.1 hx).1
    have hj : j < τ.n := by rw [← enc_length τ x]; exact (List.getElem?_eq_some_iff.1 hy).1
    have hlt : i * τ.n + j < l.length * τ.n := by
      calc i * τ.n + j < i * τ.n + τ.n := by omega
        _ = (i + 1) * τ.n := by rw [Nat.succ_mul]
        _ ≤ l.length * τ.n := Nat.mul_le_mul_right _ hi
    refine ⟨f i j, ?_, hf i x j y hx hy⟩
    have e1 : (i * τ.n + j) / τ.n = i := by rw [Nat.mul_comm, Nat.mul_add_div hn, Nat.div_eq_of_lt hj]; rfl
    have e2 : (i * τ.n + j) % τ.n = j := by rw [Nat.mul_comm, Nat.mul_add_mod, Nat.mod_eq_of_lt hj]
    simp [hlt, e1, e2]

theorem Elems.append {τ : Ty} {l l' : List τ.T} {vs vs' : List Value} (h : Elems g w τ l vs) (hl : vs.length = l.length * τ.n) (h' : Elems g w τ l' vs') : Elems g w τ (l ++ l') (vs ++ vs') := by
  intro i x j y hx hy
  have hj : j < τ.n := by rw [← enc_length τ x]; exact (List.getElem?_eq_some_iff.1 hy).1
  by_cases hi : i < l.length
  · rw [List.getElem?_append_left hi] at hx
    obtain ⟨v, hv, hr⟩ := h i x j y hx hy
    refine ⟨v, ?_, hr⟩
    rw [List.getElem?_append_left (List.getElem?_eq_some_iff.1 hv).1]; exact hv
  · rw [List.getElem?_append_right (by omega)] at hx
    obtain ⟨v, hv, hr⟩ := h' _ x j y hx hy
    refine ⟨v, ?_, hr⟩
    have : i * τ.n = l.length * τ.n + (i - l.length) * τ.n := by rw [← Nat.add_mul]; congr 1; omega
    rw [List.getElem?_append_right (by omega)]
    rw [← hv]; congr 1; omega

theorem Elems.more {τ : Ty} {l : List τ.T} {vs : List Value} (h : Elems g w τ l vs) (vs' : List Value) : Elems g w τ l (vs ++ vs') := by
  intro i x j y hx hy
  obtain ⟨v, hv, hr⟩ := h i x j y hx hy
  exact ⟨v, by rw [List.getElem?_append_left (List.getElem?_eq_some_iff.1 hv).1]; exact hv, hr⟩

theorem Elems.nil {τ : Ty} {vs : List Value} : Elems g w τ [] vs := fun i x j y hx _ => by simp at hx

theorem cells_zeros {z : Value} (hz : ∀ u ∈ z.cells.toList, u.oneCell' = true) (q : Nat) : ∀ u ∈ (Builtin.zeroCells z.cells q).toList, u.oneCell' = true := by
  intro u hu
  simp only [Builtin.zeroCells, Array.toList_map, List.mem_map] at hu
  obtain ⟨i, hi, rfl⟩ := hu
  have hi' : i < q * z.cells.size := by simpa using hi
  have h0 : 0 < z.cells.size := by
    rcases Nat.eq_zero_or_pos z.cells.size with h | h
    · rw [h] at hi'; omega
    · exact h
  have hlt : i % z.cells.size < z.cells.size := Nat.mod_lt _ h0
  rw [getElem!_pos z.cells _ hlt]
  exact hz _ (by simp)

/-- What an append that makes a new block comes to. -/
theorem run_grow {t e : TypeId} {te : TI} {i : TypeInfo} {d : TypeDesc} {τ : Ty} (ht : P.underlying t = some (.slice e)) (hj : P.info? e = some i) (hs : i.size = τ.n) (hby : i.bytes ≤ 4096) (T : TIok P e te i d)
    {l ys : List τ.T} {ad ad2 : Option Addr} {c1 c2 : Nat} (h1 : Src g w τ l ad) (h2 : Src g w τ ys ad2) (h0 : ad = none → c1 = 0) (hne : ys ≠ []) (hg : c1 < l.length + ys.length) (hlim : l.length + ys.length ≤ LIM) (ty : TypeId) :
    ∃ (w' : World) (cap : Nat) (cs : Array Value), (Builtin.append_ #[t, t] ty #[.slice ad l.length c1, .slice ad2 ys.length c2]).run P w = .ok (.slice (some ⟨w.heap.size, 0, none⟩) (l.length + ys.length) cap) w' ∧
      w'.heap = w.heap.push (.cells cs e (0, 0)) ∧ w'.os = w.os ∧ w'.tape = w.tape ∧ w'.output = w.output ∧ cs.size = cap * τ.n ∧ l.length + ys.length ≤ cap ∧ (∀ u ∈ cs.toList, u.oneCell' = true) ∧ Elems g w τ (l ++ ys) cs.toList := by
  obtain ⟨z, hz, hzs, hzr⟩ := T.zero
  have hzc := (hzr g w).cells
  rw [← T.size, hs] at hzs
  obtain ⟨bk, of, vs, rfl, hvl, hvc, hve⟩ := h2 hne
  have hyl : 0 < ys.length := List.length_pos_iff.2 hne
  have hfit : (l.length + ys.length) * i.bytes ≤ 140737488355328 := by
    have : (l.length + ys.length) * i.bytes ≤ LIM * 4096 := Nat.mul_le_mul hlim hby
    unfold LIM at this; omega
  have hgr := growslice_fits (bytes := i.bytes) hg hfit
  have h63 : ((l.length + ys.length : Nat) : Int) ≤ 9223372036854775807 := by unfold LIM at hlim; omega
  have hzo := cells_zeros hzc.one
  by_cases hl : l = []
  · subst hl
    cases ad with
    | none =>
      have hc1 := h0 rfl; subst hc1
      have hnil : Builtin.nextslicecap ys.length 0 * i.bytes ≤ 281474976710656 := by simpa using hgr
      have hrun := run_append_nil (P := P) w t ty e i z ht hj hz ⟨bk, of, none⟩ ys.length c2 vs (by rw [hvl, hs]) (fun j u hu => by rw [add_none]; exact hvc j u hu) hyl (by simpa using h63) (by rw [nextslicecap_zero hyl] at hnil; exact hnil)
      refine ⟨w.drew.alloc (.cells (vs.toArray ++ Builtin.zeroCells z.cells (grownCap w ys.length 0 e - ys.length)) e), grownCap w ys.length 0 e, _, by simpa using hrun, rfl, rfl, rfl, rfl, ?_, ?_, ?_, ?_⟩
      · have hge := grownCap_ge w ys.length 0 e
        simp only [Array.size_append, List.size_toArray, size_zeroCells, hvl, hzs]
        rw [← Nat.add_mul]; congr 1; omega
      · have hge := grownCap_ge w ys.length 0 e; simpa using hge
      · intro u hu
        simp only [Array.toList_append, List.mem_append] at hu
        rcases hu with hu | hu
        · exact hve.one hvl u hu
        · exact hzo _ u hu
      · simp only [Array.toList_append, List.nil_append]
        exact hve.more _
    | some b =>
      have hrun := run_append_grow (P := P) w t ty e i z ht hj hz b 0 c1 [] (by simp) (fun j v h => by simp at h) ⟨bk, of, none⟩ ys.length c2 vs (by rw [hvl, hs]) (fun j u hu => by rw [add_none]; exact hvc j u hu) (by simpa using hg) (by simpa using h63) (by simpa using hgr)
      refine ⟨w.drew.alloc (.cells (vs.toArray ++ Builtin.zeroCells z.cells (grownCap w ys.length c1 e - ys.length)) e), grownCap w ys.length c1 e, _, by simpa using hrun, rfl, rfl, rfl, rfl, ?_, ?_, ?_, ?_⟩
      · have hge := grownCap_ge w ys.length c1 e
        simp only [Array.size_append, List.size_toArray, size_zeroCells, hvl, hzs]
        rw [← Nat.add_mul]; congr 1; omega
      · have hge := grownCap_ge w ys.length c1 e; simpa using hge
      · intro u hu
        simp only [Array.toList_append, List.mem_append] at hu
        rcases hu with hu | hu
        · exact hve.one hvl u hu
        · exact hzo _ u hu
      · simp only [Array.toList_append, List.nil_append]
        exact hve.more _
  · obtain ⟨bk1, of1, us, rfl, hul, huc, hue⟩ := h1 hl
    have hrun := run_append_grow (P := P) w t ty e i z ht hj hz ⟨bk1, of1, none⟩ l.length c1 us (by rw [hul, hs]) (fun j u hu => by rw [add_none]; exact huc j u hu) ⟨bk, of, none⟩ ys.length c2 vs (by rw [hvl, hs]) (fun j u hu => by rw [add_none]; exact hvc j u hu) hg h63 hgr
    refine ⟨_, _, _, hrun, rfl, rfl, rfl, rfl, ?_, grownCap_ge w _ c1 e, ?_, ?_⟩
    · have hge := grownCap_ge w (l.length + ys.length) c1 e
      simp only [Array.size_append, List.size_toArray, size_zeroCells, hvl, hul, hzs]
      rw [← Nat.add_mul, ← Nat.add_mul]; congr 1; omega
    · intro u hu
      simp only [Array.toList_append, List.mem_append] at hu
      rcases hu with (hu | hu) | hu
      · exact hue.one hul u hu
      · exact hve.one hvl u hu
      · exact hzo _ u hu
    · simp only [Array.toList_append]
      exact (hue.append hul hve).more _

/-- An append of nothing. -/
theorem run_append0 {t e : TypeId} {i : TypeInfo} (ht : P.underlying t = some (.slice e)) (hj : P.info? e = some i) {ad ad2 : Option Addr} {n1 c1 c2 : Nat} (hle : n1 ≤ c1) (ty : TypeId) :
    (Builtin.append_ #[t, t] ty #[.slice ad n1 c1, .slice ad2 0 c2]).run P w = .ok (.slice ad n1 c1) w := by
  cases ad2 <;> cases ad <;> simp [Builtin.append_, run_underlying ht, run_sizeOf hj, Builtin.lenOf, hle, Builtin.firstCells, loadCells, loadCellsFrom, storeCells]

end
end Go.Eng
