import Derived.Test.YtiaemhkkfjpdlaaEngK
import Derived.Below
import Derived.OpenShut
/- THE ENGINE: a law that answers true of plain data answers true of what comes in, and leaves it as it was. -/
set_option linter.unusedSimpArgs false
set_option linter.unusedVariables false
set_option linter.unnecessarySimpa false
namespace Go.Eng
open Go Go.RowKit Go.WideShapes Go.ChangeShapes

theorem castL_self : ∀ (τ : Ty) (l : List τ.T), castL τ τ l = some l := fun τ l => by cases τ <;> rfl
theorem castT_self : ∀ (τ : Ty) (l : τ.T), castT τ τ l = some l := fun τ l => by cases τ <;> rfl
theorem HA.sh_st : ∀ (h : HA) (v : h.V), h.sh (h.st v) = some v := fun h v => by
  cases h <;> simp [HA.sh, HA.st, castL_self, castT_self, beq2]
  case int k => cases k <;> rfl
theorem HL.sh_st : ∀ (l : List HA) (v : HL.V l), HL.sh l (HL.st l v) = some v
  | [], _ => rfl
  | h :: l, v => by simp only [HL.sh, HL.st, HA.sh_st, HL.sh_st]
theorem HV.sh_st : ∀ (h : HV) (v : h.V), h.sh (h.st v) = some v := fun h v => by
  cases h
  · exact HA.sh_st _ v
  · exact HL.sh_st _ v
  · rfl
theorem HP.sh_st : ∀ (l : List HV) (v : HP.V l), HP.sh l (HP.st l v) = some v
  | [], _ => rfl
  | h :: l, v => by simp only [HP.sh, HP.st, HV.sh_st, HP.sh_st]

def HV.ok (N : Nat) : (h : HV) → h.V → Prop
  | .one h, v => h.ok N v
  | .agg l, v => HL.ok N l v
  | .undef, _ => True
def HP.ok (N : Nat) : (l : List HV) → HP.V l → Prop
  | [], _ => True
  | h :: l, v => h.ok N v.1 ∧ HP.ok N l v.2

def argB (P : Program) (t : TypeId) : HV → Bool
  | .one h => (match P.underlying t with | some (.int _) => true | some .bool => true | some .string => true | some (.slice _) => true | _ => false) && leafT P 9 t [h]
  | .agg l => (match P.underlying t with | some (.struct _) => true | _ => false) && leafT P 9 t l
  | .undef => false
def argsB (P : Program) : List TypeId → List HV → Bool
  | [], [] => true
  | t :: ts, h :: l => argB P t h && argsB P ts l
  | _, _ => false

section
variable {P : Program} {H : Type} {enc : TypeId × Value → H} {w w' : World} {b : DataW H → Nat} {N : Nat}

theorem arg_ok (B : BulkOK b) {t : TypeId} {h : HV} {v : Value} {base : Nat} {d : DataW H} {ps : List MemPlace} (ht : argB P t h = true) (hok : Value.okWide P w .any base t v) (htr : DataW.Trod enc P w 0 (fun _ => true) true t v d ps) (hN : b d ≤ N) :
    ∃ x : h.V, AVR (g0 w) w (h.st x) v ∧ h.ok N x := by
  obtain ⟨fuel, htr⟩ := htr
  cases h with
  | one h =>
    simp only [argB, Bool.and_eq_true] at ht
    obtain ⟨h1, h2⟩ := ht
    obtain ⟨x, hx, ho⟩ := read_ok B 9 fuel t [h] _ d ps h2 htr hN
    have hc : v.cells.toList = [v] := by
      unfold Value.okWide at hok
      split at h1
      · rename_i hu; rw [hu] at hok; cases v <;> simp_all [Cell.okWide, Cell.ok, Value.cells]
      · rename_i hu; rw [hu] at hok; cases v <;> simp_all [Cell.okWide, Cell.ok, Value.cells]
      · rename_i hu; rw [hu] at hok; cases v <;> simp_all [Cell.okWide, Cell.ok, Value.cells]
      · rename_i hu; rw [hu] at hok; cases v <;> simp_all [Cell.okWide, Cell.ok, Value.cells]
      · cases h1
    rw [hc] at hx
    refine ⟨x.1, ?_, ho.1⟩
    cases hx with
    | cons h1 _ => exact h1
  | agg l =>
    simp only [argB, Bool.and_eq_true] at ht
    obtain ⟨h1, h2⟩ := ht
    obtain ⟨x, hx, ho⟩ := read_ok B 9 fuel t l _ d ps h2 htr hN
    refine ⟨x, ?_, ho⟩
    split at h1
    · rename_i hu
      unfold Value.okWide at hok
      rw [hu] at hok
      obtain ⟨cs, rfl, _, _⟩ := hok
      exact ⟨cs.toList, by simp, by simpa [Value.cells] using hx⟩
    · cases h1
  | undef => simp [argB] at ht

theorem args_ok (B : BulkOK b) {base : Nat} : ∀ (ts : List TypeId) (hp : List HV) (vs : List Value) (ds : List (DataW H)) (ps : List MemPlace), argsB P ts hp = true → (∀ (j : Nat) t v, ts[j]? = some t → vs[j]? = some v → Value.okWide P w .any base t v) →
    DataW.TrodAll enc P w 0 (fun _ => true) true ts vs ds ps → (∀ d ∈ ds, b d ≤ N) → ∃ x : HP.V hp, All2 (AVR (g0 w) w) (HP.st hp x) vs ∧ HP.ok N hp x
  | [], [], vs, ds, ps, _, _, htr, _ => by
    obtain ⟨rfl, rfl, rfl⟩ := trodAll_nil htr
    exact ⟨(), .nil, trivial⟩
  | [], _ :: _, _, _, _, h, _, _, _ => by simp [argsB] at h
  | _ :: _, [], _, _, _, h, _, _, _ => by simp [argsB] at h
  | t :: ts, h :: hp, vs, ds, ps, hb, hok, htr, hN => by
    simp only [argsB, Bool.and_eq_true] at hb
    obtain ⟨v, vs', d, ds', p, q, rfl, rfl, rfl, h1, h2⟩ := trodAll_cons htr
    obtain ⟨x, hx, ho⟩ := arg_ok B hb.1 (hok 0 t v rfl rfl) h1 (hN d (by simp))
    obtain ⟨y, hy, hp⟩ := args_ok B ts hp vs' ds' q hb.2 (fun j t v ht hv => hok (j + 1) t v (by simpa using ht) (by simpa using hv)) h2 (fun d hd => hN d (by simp [hd]))
    exact ⟨(x, y), .cons hx hy, ho, hp⟩

/-- What came in reads as it did. -/
theorem reread {T : TypeId → Prop} (K : Kids P T) (hz : ∀ t e, T t → P.underlying t = some (.slice e) → 0 < P.cellsOf e) (hb : Below w.heap.size w w') {sp : Nat → Bool} : ∀ (ts : List TypeId) (vs : List Value) (ds : List (DataW H)) (ps : List MemPlace), (∀ t ∈ ts, T t) →
    DataW.TrodAll enc P w 0 (fun _ => true) true ts vs ds ps → (∀ p ∈ ps, sp p.block = true) → DataW.TrodAll enc P w' 0 sp true ts vs ds ps
  | [], vs, ds, ps, _, h, _ => by obtain ⟨rfl, rfl, rfl⟩ := trodAll_nil h; exact trodAll_mk0
  | t :: ts, vs, ds, ps, hT, h, hs => by
    obtain ⟨v, vs', d, ds', p, q, rfl, rfl, rfl, ⟨fuel, h1⟩, h2⟩ := trodAll_cons h
    refine trodAll_cons_mk ⟨fuel, ?_⟩ (reread K hz hb ts vs' ds' q (fun t ht => hT t (by simp [ht])) h2 (fun p hp => hs p (by simp [hp])))
    have h3 := DataW.trod_respare K hz fuel t _ (d, p) (hT t (by simp)) h1 (fun y hy => hs y (by simp at hy; simp [hy]))
    exact DataW.trod_carry fuel t _ (d, p) h3 (fun y hy => hb.same (DataW.trod_lt fuel t _ (d, p) h1 y hy))

theorem post_of_below {f : Func} {s : ChangeSpec} {apart fresh handsOn again : Bool} {W W' : World} {args : Array Value} {v : Value} {ds gs : List (DataW H)} {before pa pv : List MemPlace}
    (hW : DataW.Whole enc P f.params.toList s.vars apart W args.toList ds gs before)
    (hres : ∀ (b : Nat) (sp : Nat → Bool) (hd : Bool), DataW.TrodAll enc P W' b sp hd f.resultTypes.toList (v.resultList f.resultTypes.size) (s.fn H (ds ++ gs)).results [])
    (hargs : ∀ sp : Nat → Bool, (∀ p ∈ before, sp p.block = true) → DataW.TrodAll enc P W' 0 sp true f.params.toList args.toList (s.fn H (ds ++ gs)).args pa)
    (hvars : ∀ sp : Nat → Bool, (∀ p ∈ before, sp p.block = true) → DataW.TrodVars enc P W' sp s.vars (s.fn H (ds ++ gs)).vars pv)
    (hps : before = pa ++ pv) (hb : Below W.heap.size W W')
    (hok : ∀ (j : Nat) (t : TypeId) (r : Value), f.resultTypes[j]? = some t → (v.resultList f.resultTypes.size)[j]? = some r → Value.okWide P W' .any 0 t r) :
    s.post enc P f apart fresh handsOn again W args v W' := by
  have hlt : ∀ p ∈ before, p.block < W.heap.size := fun p hp => hW.lt p hp
  have hold : ∀ p ∈ before, (fun b => decide (b < W.heap.size)) p.block = true := fun p hp => by simpa using hlt p hp
  refine ⟨ds, gs, before, [], pa, pv, hW, hres _ _ _, hargs _ hold, hvars _ hold, World.keptBut_mono (fun p hp => ⟨hp, ?_⟩) (hb.frame (· ∈ before)), fun _ => ?_⟩
  · rw [hps, List.mem_append] at hp
    exact Or.inr hp
  · obtain ⟨_, _, _, _, _, hz, hn⟩ := hW
    refine ⟨hok, _, _, ([] ++ pa) ++ pv, ⟨[] ++ pa, pv, trodAll_append (hargs _ (fun _ _ => rfl)) (hres _ _ _), hvars _ (fun _ _ => rfl), rfl, ?_, ?_⟩, ?_⟩
    · intro b off hp
      have hin : MemPlace.cell b off ∈ before := by rw [hps]; simpa using hp
      rw [hb.frozen (hlt _ hin)]
      exact hz b off hin
    · intro ha
      have := hn ha
      rw [hps] at this
      simpa using this
    · intro p hp _
      rw [hps]
      simpa using hp

/-- A LAW's CONTRACT, out of what its function answers of plain data. -/
theorem law_contract (B : BulkOK b) {T : TypeId → Prop} (K : Kids P T) (hz : ∀ t e, T t → P.underlying t = some (.slice e) → 0 < P.cellsOf e)
    {fid : Nat} {fn : Func} {s : ChangeSpec} {hp : List HV} {X : Type} {toX : HP.V hp → X} {ofY : Bool → HX.V [HV.one .bool]} {f : X → Option Bool} {tb : TypeId} (S : SpecOK P fid (mkSpec hp [.one .bool] toX ofY f)) (hofY : ofY true = true)
    (hvars : s.vars = []) (hres : fn.resultTypes = #[tb]) (htb : P.underlying tb = some .bool) (hT : ∀ t ∈ fn.params.toList, T t) (hargs : argsB P fn.params.toList hp = true)
    (hfn : ∀ ds : List (DataW H), ds.length = hp.length → (s.fn H ds).results = [.lit (.bool true)] ∧ (s.fn H ds).args = ds ∧ (s.fn H ds).vars = [])
    (law : ∀ x : HP.V hp, HP.ok N hp x → f (toX x) = some true) {apart fresh handsOn again : Bool}
    (W : World) (base : Nat) (args : Array Value) (ds gs : List (DataW H)) (before : List MemPlace)
    (hval : ∀ (j : Nat) t v, fn.params[j]? = some t → args[j]? = some v → Value.okWide P W .any base t v)
    (hW : DataW.Whole enc P fn.params.toList s.vars apart W args.toList ds gs before) (hN : ∀ d ∈ ds, b d ≤ N) :
    Calls P fid args W fun e W' => ∃ v, e = .returned v ∧ s.post enc P fn apart fresh handsOn again W args v W' := by
  have hW' := hW
  obtain ⟨p, q, hA, hV, rfl, hfz, hnd⟩ := hW
  rw [hvars] at hV
  obtain ⟨rfl, rfl⟩ := trodVars_none hV
  obtain ⟨x, hx, ho⟩ := args_ok (N := N) B fn.params.toList hp args.toList ds p hargs (fun j t v ht hv => hval j t v (by simpa using ht) (by simpa using hv)) hA hN
  have hl := law x ho
  have hlen : ds.length = hp.length := by
    have h1 := hx.length
    rw [HP.len] at h1
    have h2 : ∀ (ts : List TypeId) (vs : List Value) (ds : List (DataW H)) (ps : List MemPlace), DataW.TrodAll enc P W 0 (fun _ => true) true ts vs ds ps → ds.length = vs.length := by
      intro ts
      induction ts with
      | nil => intro vs ds ps h; obtain ⟨rfl, rfl, rfl⟩ := trodAll_nil h; rfl
      | cons t ts ih => intro vs ds ps h; obtain ⟨v, vs', d, ds', p, q, rfl, rfl, rfl, h1, h2⟩ := trodAll_cons h; simp [ih _ _ _ h2]
    rw [h2 _ _ _ _ hA, ← h1]
  have hcall := S.calls (fun k => k < W.heap.size) W (HP.st hp x) args.toList (toX x) true (fun k hk => hk) hx (by
    show (match HP.sh hp (HP.st hp x) with | some v => some (toX v) | none => none) = some (toX x)
    rw [HP.sh_st]) hl
  have e : args.toList.toArray = args := by simp
  rw [e] at hcall
  refine hcall.mono fun e W' ⟨v, he, hb, hv⟩ => ⟨v, he, ?_⟩
  have hv' : v = .bool true := by
    have : AVR _ W' (HX.st [HV.one .bool] (ofY true)) v := hv
    rw [hofY] at this
    cases this; rfl
  subst hv'
  obtain ⟨f1, f2, f3⟩ := hfn ds hlen
  refine post_of_below (pa := p) (pv := []) hW' (fun bb sp hd => ?_) (fun sp hsp => ?_) (fun sp hsp => ?_) rfl hb (ok_one hres rfl (okWide_bool_mk htb _))
  · simp only [List.append_nil]
    rw [f1, hres]
    exact trodAll_cons_mk (shut_bool htb _) trodAll_mk0
  · simp only [List.append_nil]
    rw [f2]
    exact reread K hz hb _ _ _ _ hT hA (fun y hy => hsp y (by simpa using hy))
  · simp only [List.append_nil]
    rw [f3, hvars]
    exact rfl
end
end Go.Eng
