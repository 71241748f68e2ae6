/- A part of the proofs of the laws of this seat: the engine that reads the program's code, plain functions, or facts of the program's functions. Conditions: none. -/
import Derived.Test.YtopfnnikfjbofaaDoorP2
import Derived.Test.YtopfnnikfjbofaaDoorP1
set_option linter.unusedSectionVars false
set_option linter.unusedVariables false
set_option linter.unusedSimpArgs false
set_option linter.unnecessarySimpa false
set_option linter.unusedSimpArgs false
set_option linter.unusedVariables false
set_option linter.unusedSectionVars false
namespace Go.Eng
open Go
def wsB (f : Fs) : Bool := wfB f && (f.inodes.all (fun x => !decide (x.kind = 2) || ((findI x.parent f.inodes).isSome && decide ((getI x.parent f.inodes).kind = 2))) && (f.inodes.all (fun x => !decide (x.kind = 3) || decide (x.data.length ≤ 4095)) && decide ((getI 1 f.inodes).kind = 2)))
theorem ws_of {f : Fs} (h : wsB f = true) : WS f := by
  unfold wsB at h
  simp only [Bool.and_eq_true, List.all_eq_true, Bool.or_eq_true, Bool.not_eq_true', decide_eq_false_iff_not, decide_eq_true_eq] at h
  obtain ⟨h1, h2, h3, h4⟩ := h
  have w := wf_of h1
  refine ⟨w, fun x hx hk => ?_, fun x hx hk => (h3 x hx).resolve_left (fun h => h hk), ?_⟩
  · have := (h2 x hx).resolve_left (fun h => h hk)
    obtain ⟨y, hy⟩ := Option.isSome_iff_exists.1 this.1
    rw [getI_some hy] at this
    exact ⟨y, hy, this.2⟩
  · obtain ⟨y, hy⟩ := Option.isSome_iff_exists.1 w.root
    rw [getI_some hy] at h4
    exact ⟨y, hy, h4⟩
def small10 : Fs := ⟨9, 9, 9, [⟨1, 2, 0, [], 1, [⟨[100], 3⟩, ⟨[115], 5⟩]⟩, ⟨3, 2, 1, [], 1, [⟨[102], 4⟩]⟩, ⟨4, 1, 1, [], 0, []⟩, ⟨5, 3, 1, [100, 47], 0, []⟩]⟩
theorem small10_eq : law10_small = some small10 := by
  unfold law10_small
  have e1 : ref05_New 9 9 = some ⟨9, 9, 2, [⟨1, 2, 0, [], 1, []⟩]⟩ := rfl
  rw [e1, ocase_some', ref05_Set_eq (by decide), ocase_some', ref05_Set_eq (by decide), ocase_some', ref05_Set_eq (by decide), ocase_some', ref05_Set_eq (by decide), ocase_some']
  rfl
theorem awake10 : law10_awake = some true := by
  unfold law10_awake
  rw [small10_eq, ocase_some']
  have w : WS small10 := ws_of (by decide +kernel)
  rw [seek_Seek_eq w (by decide) (by decide), ocase_some', seek_Seek_eq w (by decide) (by decide), ocase_some', seek_Seek_eq w (by decide) (by decide), ocase_some', seek_Seek_eq w (by decide) (by decide), ocase_some', seek_Seek_eq w (by decide) (by decide), ocase_some', seek_Seek_eq w (by decide) (by decide), ocase_some', seek_Home_eq w.wf (by decide), ocase_some', seek_Dir_eq w (by decide) (by decide), seek_Dir_eq w (by decide) (by decide)]
  simp only [ocase_some', bcase_ite]
  rw [if_pos (by decide +kernel), if_pos (by decide +kernel), if_pos (by decide +kernel), if_pos (by decide +kernel), if_pos (by decide +kernel), if_pos (by decide +kernel), if_pos (by decide +kernel), if_pos (by decide +kernel), if_pos (by decide +kernel), if_pos (by decide +kernel), if_pos (by decide +kernel), if_pos (by decide +kernel), if_pos (by decide +kernel)]
  congr 1
theorem last_drop {s : Str} (h : s ≠ []) : s.drop (s.length - 1) = [s.getLast h] := by
  have := List.dropLast_concat_getLast h
  conv => lhs; rw [← this]
  rw [List.drop_append_of_le_length (by simp)]
  simp
theorem last_app {a b : Str} (h : b ≠ []) : (a ++ b).drop ((a ++ b).length - 1) = b.drop (b.length - 1) := by
  have hb : 0 < b.length := List.length_pos_iff.2 h
  rw [List.drop_append, List.drop_eq_nil_of_le (by simp; omega), List.nil_append]
  congr 1
  simp; omega
theorem nm_last {x : Str} (h : Nm x) : (x.drop (x.length - 1) == [47]) = false := by
  rw [last_drop h.1, beq_eq_false_iff_ne]
  intro e
  have := h.2 (x.getLast h.1) (List.getLast_mem h.1)
  simp at e
  exact this e
theorem joinP_47 (ns : List Str) : ∃ r, joinP ns = 47 :: r := by
  cases ns with
  | nil => exact ⟨[], rfl⟩
  | cons x ns => exact ⟨_, joinP_cons x ns⟩
theorem joinP_ne_nil (ns : List Str) : joinP ns ≠ [] := by obtain ⟨r, hr⟩ := joinP_47 ns; rw [hr]; simp
theorem joinP_last {ns : List Str} (h : ∀ x ∈ ns, Nm x) (h0 : ns ≠ []) : ((joinP ns).drop ((joinP ns).length - 1) == [47]) = false := by
  rcases List.eq_nil_or_concat ns with rfl | ⟨ns', x, rfl⟩
  · exact absurd rfl h0
  · rw [List.concat_eq_append] at h ⊢
    have hx := h x (by simp)
    have e : joinP (ns' ++ [x]) = ((ns'.flatMap fun x => 47 :: x) ++ [47]) ++ x := by
      unfold joinP
      rw [if_neg (by simp)]
      simp
    rw [e, last_app hx.1]
    exact nm_last hx
theorem readP_join {ns : List Str} (h : ∀ x ∈ ns, Nm x) : readP (joinP ns) = ⟨true, ns, false⟩ := by
  obtain ⟨r, hr⟩ := joinP_47 ns
  unfold readP
  rw [namesP_join h]
  have e1 : ((joinP ns).take 1 == [47]) = true := by rw [hr]; simp
  rw [e1]
  by_cases h0 : ns = []
  · subst h0; rfl
  · rw [joinP_last h h0]; simp
theorem readP_app {ns : List Str} (h : ∀ x ∈ ns, Nm x) {b : Str} (hb : Nm b) : readP (joinP ns ++ 47 :: b) = ⟨true, ns ++ [b], false⟩ := by
  obtain ⟨r, hr⟩ := joinP_47 ns
  unfold readP
  rw [namesP_join_app h, namesP_one hb]
  have e1 : ((joinP ns ++ 47 :: b).take 1 == [47]) = true := by rw [hr]; simp
  have e2 : joinP ns ++ 47 :: b = (joinP ns ++ [47]) ++ b := by simp
  rw [e1, e2, last_app hb.1, nm_last hb]; simp
theorem readP_slash {ns : List Str} (h : ∀ x ∈ ns, Nm x) : readP (joinP ns ++ [47]) = ⟨true, ns, !ns.isEmpty⟩ := by
  obtain ⟨r, hr⟩ := joinP_47 ns
  unfold readP
  have e0 : joinP ns ++ [47] = joinP ns ++ 47 :: [] := rfl
  rw [e0, namesP_join_app h, namesP_nil, List.append_nil]
  have e1 : ((joinP ns ++ 47 :: []).take 1 == [47]) = true := by rw [hr]; simp
  have e2 : ((joinP ns ++ [47]).drop ((joinP ns ++ [47]).length - 1) == [47]) = true := by rw [last_app (by simp)]; rfl
  rw [e1]
  show (⟨true, ns, !ns.isEmpty && ((joinP ns ++ [47]).drop ((joinP ns ++ [47]).length - 1) == [47])⟩ : Pth) = _
  rw [e2, Bool.and_true]
theorem longP_of {p : Str} (h : ∀ x ∈ namesP p, x.length ≤ 255) (hl : p.length ≤ 4095) : longP p = false := by
  unfold longP
  rw [Bool.or_eq_false_iff, List.any_eq_false, decide_eq_false_iff_not]
  exact ⟨fun x hx => by have := h x hx; simp; omega, by omega⟩
theorem stepIn_app {f : Fs} {fol dir : Bool} {lnk : Bool → Inode → Inode → List Str → Spotted × Int} {rest : List Str} {t : Spotted} : ∀ {ns : List Str} {s : Spotted}, (∀ n ∈ ns, mayN n = true) → goAt f.inodes ns s = (t, 0) → (ns ≠ [] → (rest ≠ [] ∨ fol = true ∨ dir = true) → (getI t.ino f.inodes).kind ≠ 3) →
    stepIn f.inodes fol lnk dir (ns ++ rest) s = stepIn f.inodes fol lnk dir rest t
  | [], s, _, hg, _ => by simp [goAt] at hg; rw [hg]; rfl
  | n :: ns, s, hm, hg, h3 => by
    have hn := mayN_dot (hm n (by simp))
    cases hf : findI s.ino f.inodes with
    | none => rw [goAt_none hf] at hg; simp at hg
    | some d =>
      by_cases hk : d.kind = 2
      · rw [goAt_dir hf hk] at hg
        rw [List.cons_append, stepIn_on hf hk hn.1 hn.2]
        · exact stepIn_app (fun m hm' => hm m (by simp [hm'])) hg (fun h1 h2 => h3 (by simp) h2)
        · rintro ⟨k3, hc⟩
          cases ns with
          | nil =>
            simp [goAt] at hg
            rw [← hg] at h3
            exact h3 (by simp) (by simpa using hc) k3
          | cons m ns =>
            obtain ⟨x, hx, hgx⟩ := getI_kind3 k3
            rw [hgx] at k3
            rw [goAt_file (d := x) (by exact hx) (by omega)] at hg
            simp at hg
      · rw [goAt_file hf hk] at hg; simp at hg
theorem stepIn_go {f : Fs} {lnk : Bool → Inode → Inode → List Str → Spotted × Int} {t : Spotted} {ns : List Str} {s : Spotted} (hm : ∀ n ∈ ns, mayN n = true) (hg : goAt f.inodes ns s = (t, 0)) : stepIn f.inodes false lnk false ns s = (t, 0) := by
  have := stepIn_app (f := f) (fol := false) (dir := false) (lnk := lnk) (rest := []) hm hg (fun _ h => by simp at h)
  rw [List.append_nil] at this
  rw [this]
  show endP f.inodes false t = (t, 0)
  unfold endP
  split <;> simp
theorem seekP_plain {f : Fs} {base : Str} {ns : List Str} {t : Spotted} (hm : ∀ n ∈ ns, mayN n = true) (hg : goAt f.inodes ns rootS = (t, 0)) (hl : (joinP ns).length ≤ 4095) : seekP f base (joinP ns) false = (t, 0) := by
  have hnm := fun x hx => mayN_nm (hm x hx)
  unfold seekP
  rw [if_neg (joinP_ne_nil ns), if_neg (by rw [longP_of (by rw [namesP_join hnm]; exact fun x hx => mayN_len (hm x hx)) hl]; simp), readP_join hnm]
  simp only [if_true]
  rw [onK_eq]
  exact stepIn_go hm hg
theorem toNat_mod {n : Int} {m : Nat} (h0 : 0 ≤ n) (hm : 0 < m) : 0 ≤ Int.tmod n (m : Int) ∧ Int.toNat (Int.tmod n (m : Int)) < m := by
  have h1 := Int.tmod_nonneg (m : Int) h0
  have h2 := Int.tmod_lt_of_pos n (show (0 : Int) < (m : Int) by omega)
  omega
theorem u8_wrap {n : Int} (h0 : 0 ≤ n) (h1 : n < 256) : IntKind.i64.wrap n = n := wrap_id (by omega) (by omega)
theorem ref10_Short_eq {f : Fs} {base p : Str} (hl : f.inodes.length ≤ 1073741824) : ref10_Short f base p = some ((f.inodes.take 100).all (fun x => !decide (x.kind = 3) || decide (x.data.length ≤ 300)) && (decide (base.length ≤ 1000) && decide (p.length ≤ 5000))) := by
  unfold ref10_Short
  have e0 : (bcase (decide ((List.length base : Int) ≤ (1000 : Int))) (some (decide ((List.length p : Int) ≤ (5000 : Int)))) (some false)) = some (decide (base.length ≤ 1000) && decide (p.length ≤ 5000)) := by
    by_cases h1 : base.length ≤ 1000
    · rw [bc_t (by simp; omega)]
      congr 1
      rw [Bool.eq_iff_iff]; simp [h1]; omega
    · rw [bc_f (by simp; omega)]; simp [h1]
  rw [e0]
  refine (loop_all (l := f.inodes.take 100) (fun n i (s : Unit) => ref10_Short_L2 f (some false) (some (decide (base.length ≤ 1000) && decide (p.length ≤ 5000))) n i) (fun _ x s K => if (!decide (x.kind = 3) || decide (x.data.length ≤ 300)) then K s else some false) (fun _ => some (decide (base.length ≤ 1000) && decide (p.length ≤ 5000))) (by simp; omega) (fun n k x s hk hx => ?_) (fun n s => ?_) ()).trans ?_
  · have hk' : k < f.inodes.length ∧ k < 100 := by simp at hk; omega
    have hx' : f.inodes[k]? = some x := by rw [List.getElem?_take_of_lt hk'.2] at hx; exact hx
    simp only [ref10_Short_L2]
    have h100 : decide ((k : Int) < (100 : Int)) = true := by simp; omega
    rw [dec_lt hk'.1, h100, dec_nn, toNat_cast, hx', wrap_succ (by omega)]
    simp only [bcase_true, ocase_some', beqI]
    by_cases h3 : x.kind = 3
    · rw [bc_t (by simp [h3])]
      by_cases h4 : x.data.length ≤ 300
      · rw [bc_f (by simp; omega)]; simp [h4]
      · rw [bc_t (by simp; omega)]; simp [h3, h4]
    · rw [bc_f (by simp [h3])]; simp [h3]
  · simp only [ref10_Short_L2]
    by_cases h : f.inodes.length ≤ 100
    · have e : (f.inodes.take 100).length = f.inodes.length := by simp; omega
      rw [e, dec_ge (Nat.le_refl _)]
      rfl
    · have e : (f.inodes.take 100).length = 100 := by simp; omega
      rw [e]
      have h1 : decide (((100 : Nat) : Int) < (f.inodes.length : Int)) = true := by simp; omega
      rw [h1]
      rfl
  · rw [all_foldT]
    by_cases h9 : (f.inodes.take 100).all (fun x => !decide (x.kind = 3) || decide (x.data.length ≤ 300)) = true
    · rw [if_pos h9, h9]; rfl
    · rw [if_neg h9]
      have : (f.inodes.take 100).all (fun x => !decide (x.kind = 3) || decide (x.data.length ≤ 300)) = false := by simpa using h9
      rw [this]; rfl
theorem short_le {f : Fs} {base p : Str} (hl : f.inodes.length ≤ 1073741824) (h : ref10_Short f base p = some true) : base.length ≤ 1000 ∧ p.length ≤ 5000 := by
  rw [ref10_Short_eq hl] at h
  simp only [Option.some.injEq, Bool.and_eq_true, decide_eq_true_eq] at h
  exact h.2
theorem ref10_Short_some {f : Fs} (base p : Str) (hl : f.inodes.length ≤ 1073741824) : ∃ b, ref10_Short f base p = some b ∧ (b = true → base.length ≤ 1000 ∧ p.length ≤ 5000) := by
  refine ⟨_, ref10_Short_eq hl, fun h => short_le (f := f) hl ?_⟩
  rw [ref10_Short_eq hl, h]
theorem Nm_dot : Nm [46] := ⟨by simp, by decide⟩
theorem Nm_up : Nm [46, 46] := ⟨by simp, by decide⟩
theorem SeekDots_true {f : Fs} {at' : Int} (hi : InF f) (h0 : 0 ≤ at') (h1 : at' < 256) : law10_SeekDots f at' = some true := by
  unfold law10_SeekDots
  rw [awake10]
  simp only [ocase_some', Bool.not_true, bcase_false]
  rw [ref07_Ok_eq hi.len hi.ents, ocase_some']
  cases ho : okF f
  · rfl
  obtain ⟨hs, hm, h⟩ := ok_sound ho
  have hfew := ((okF_iff f).1 ho).1
  have hl := Lil.of_few hfew
  have htr := (tr_iff f).1 hs
  have hws := htr.ws h
  have hf1 := (fewF_sm hfew).1
  rw [Bool.not_true, bcase_false, ref08_List_eq htr hl, ocase_some', u8_wrap h0 h1]
  obtain ⟨l, hl0⟩ := listP_root htr
  have hpos : 0 < (listP f).length := by rw [hl0]; simp
  obtain ⟨m1, m2⟩ := toNat_mod h0 hpos
  rw [bc_f (by rw [beqI, decide_eq_false_iff_not]; omega), bc_t (by simpa using m1), List.getElem?_eq_getElem m2, ocase_some']
  obtain ⟨ns, x, t, ha, q1, q2⟩ := list_at htr (List.getElem?_eq_getElem m2)
  generalize (listP f)[Int.toNat (Int.tmod at' ((listP f).length : Int))] = s at ha q1
  by_cases hp : s.path.length > 4000
  · rw [bc_t (by simp; omega)]
  rw [bc_f (by simp; omega), ref09_Get_eq h (by omega), ha.getP, ocase_some', lcase_le (by unfold LIM; simp; omega), seek_Seek_eq hws (by decide) (by simp; omega), ocase_some', lcase_le (by unfold LIM; simp; omega), seek_Seek_eq hws (by decide) (by simp; omega), ocase_some', lcase_le (by unfold LIM; simp; omega), seek_Seek_eq hws (by decide) (by simp; omega), ocase_some', seek_Seek_eq hws (by decide) (by omega)]
  have hnm := fun x hx => mayN_nm (ha.may x hx)
  have hpl : (joinP ns).length ≤ 4000 := by rw [← ha.path]; omega
  have l255 : ∀ x ∈ ns, x.length ≤ 255 := fun x hx => mayN_len (ha.may x hx)
  have hxi : findI t.ino f.inodes = some x := by rw [ha.ino]; exact ha.there
  have hgx : getI t.ino f.inodes = x := getI_some hxi
  have hsp : seekP f [47] s.path false = (t, 0) := by rw [ha.path]; exact seekP_plain ha.may ha.go (by omega)
  have hdot : ∀ b, Nm b → b.length ≤ 2 → seekP f [47] (s.path ++ 47 :: b) false = onK f.inodes false 40 false (ns ++ [b]) rootS := by
    intro b hb hb2
    unfold seekP
    rw [ha.path, if_neg (by simp), if_neg (by
      rw [longP_of (by
        rw [namesP_join_app hnm, namesP_one hb]
        intro y hy
        simp only [List.mem_append, List.mem_singleton] at hy
        rcases hy with hy | rfl
        · exact l255 y hy
        · omega) (by simp; omega)]; simp), readP_app hnm hb]
    simp
  have hsl : seekP f [47] (s.path ++ [47]) false = onK f.inodes false 40 (!ns.isEmpty) ns rootS := by
    unfold seekP
    rw [ha.path, if_neg (by simp), if_neg (by
      rw [longP_of (by
        have e0 : joinP ns ++ [47] = joinP ns ++ 47 :: [] := rfl
        rw [e0, namesP_join_app hnm, namesP_nil, List.append_nil]
        exact l255) (by simp; omega)]; simp), readP_slash hnm]
    simp
  have e1 : s.path ++ ([47, 46] : Str) = s.path ++ 47 :: [46] := rfl
  have e2 : s.path ++ ([47, 46, 46] : Str) = s.path ++ 47 :: [46, 46] := rfl
  rw [e1, e2, hdot _ Nm_dot (by decide), hdot _ Nm_up (by decide), hsl, hsp]
  simp only [beqI]
  have hne : x.kind ≠ 2 → ns ≠ [] := by
    intro hk e
    have ht := ha.nil e
    obtain ⟨r, hr, hk2⟩ := hws.rootk
    rw [ht] at hxi
    have : findI 1 f.inodes = some x := hxi
    rw [hr] at this
    cases this
    exact hk hk2
  by_cases hk1 : x.kind = 1
  · rw [bc_t (by simp [hk1])]
    have hdir : ∀ b, onK f.inodes false 40 false (ns ++ [b]) rootS = (zeroS, 3) := by
      intro b
      rw [onK_eq, stepIn_app ha.may ha.go (fun _ _ => by rw [hgx, hk1]; decide), stepIn_file hxi (by rw [hk1]; decide)]
    have hend : onK f.inodes false 40 (!ns.isEmpty) ns rootS = (zeroS, 3) := by
      have := stepIn_app (f := f) (fol := false) (dir := !ns.isEmpty) (lnk := lnkK f.inodes false 40) (rest := []) ha.may ha.go (fun _ _ => by rw [hgx, hk1]; decide)
      rw [List.append_nil] at this
      rw [onK_eq, this]
      show endP f.inodes (!ns.isEmpty) t = (zeroS, 3)
      unfold endP
      rw [hxi]
      simp only
      rw [if_pos ⟨by have := hne (by omega); cases ns <;> simp_all, by omega⟩]
    rw [hdir, hdir, hend]
    rfl
  · rw [bc_f (by simp [hk1])]
    by_cases hk3 : x.kind = 3
    · rw [bc_t (by simp [hk3])]
    · rw [bc_f (by simp [hk3]), ocase_some']
      have hk2 : x.kind = 2 := by
        have := htr.kind x (findK_some ha.there).1
        by_cases h2 : x.kind = 2
        · exact h2
        · rw [kind0 hk1 h2 hk3] at this; cases this
      have hx1 := findK_some hxi
      have hd1 : onK f.inodes false 40 false (ns ++ [[46]]) rootS = (⟨0, [], x.ino⟩, 0) := by
        rw [onK_eq, stepIn_app ha.may ha.go (fun _ _ => by rw [hgx, hk2]; decide), stepIn_dot hxi hk2 rfl]
        show endP f.inodes false _ = _
        unfold endP
        split <;> simp
      have hd2 : onK f.inodes false 40 false (ns ++ [[46, 46]]) rootS = (⟨0, [], x.parent⟩, 0) := by
        rw [onK_eq, stepIn_app ha.may ha.go (fun _ _ => by rw [hgx, hk2]; decide), stepIn_up hxi hk2 rfl]
        show endP f.inodes false _ = _
        unfold endP
        split <;> simp
      have hend : onK f.inodes false 40 (!ns.isEmpty) ns rootS = (t, 0) := by
        have := stepIn_app (f := f) (fol := false) (dir := !ns.isEmpty) (lnk := lnkK f.inodes false 40) (rest := []) ha.may ha.go (fun _ _ => by rw [hgx, hk2]; decide)
        rw [List.append_nil] at this
        rw [onK_eq, this]
        show endP f.inodes (!ns.isEmpty) t = (t, 0)
        unfold endP
        rw [hxi]
        simp only
        rw [if_neg (by simp [hk2])]
      rw [hd1, hd2, hend]
      simp
def Gd (f : Fs) (fol : Bool) (s : Spotted) : Prop := (s.name = [] ∧ s.dir = 0 ∧ ∃ d, findI s.ino f.inodes = some d ∧ d.kind = 2) ∨ (s.name ≠ [] ∧ ∃ d, findI s.dir f.inodes = some d ∧ d.kind = 2 ∧ s.ino = inoE s.name d.entries ∧ (fol = true → (getI s.ino f.inodes).kind ≠ 3))
def Res (f : Fs) (fol : Bool) (r : Spotted × Int) : Prop := (r.2 = 0 → Gd f fol r.1) ∧ (r.2 ≠ 0 → r.1 = zeroS)
theorem stepIn_res {f : Fs} (h : WS f) {fol : Bool} {lnk : Bool → Inode → Inode → List Str → Spotted × Int} {dir : Bool} (hl : ∀ x d rest, x ∈ f.inodes → x.kind = 3 → d ∈ f.inodes → d.kind = 2 → (∀ n ∈ rest, n ≠ []) → Res f fol (lnk dir x d rest)) : ∀ (todo : List Str) (s : Spotted), (∀ n ∈ todo, n ≠ []) → Gd f fol s → Res f fol (stepIn f.inodes fol lnk dir todo s)
  | [], s, _, hs => by
    show Res f fol (endP f.inodes dir s)
    unfold endP
    split
    · split
      · exact ⟨fun h => by simp at h, fun _ => rfl⟩
      · exact ⟨fun _ => hs, fun h => absurd rfl h⟩
    · exact ⟨fun _ => hs, fun h => absurd rfl h⟩
  | n :: rest, s, hn, hs => by
    have hrest : ∀ m ∈ rest, m ≠ [] := fun m hm => hn m (by simp [hm])
    cases hf : findI s.ino f.inodes with
    | none => rw [stepIn_none hf]; exact ⟨fun h => by simp at h, fun _ => rfl⟩
    | some d =>
      have hd := findI_some hf
      by_cases hk : d.kind = 2
      · by_cases h1 : n = [46]
        · rw [stepIn_dot hf hk h1]
          exact stepIn_res h hl rest _ hrest (Or.inl ⟨rfl, rfl, d, by rw [hd.2]; exact hf, hk⟩)
        · by_cases h2 : n = [46, 46]
          · rw [stepIn_up hf hk h2]
            exact stepIn_res h hl rest _ hrest (Or.inl ⟨rfl, rfl, h.par d hd.1 hk⟩)
          · by_cases h3 : (getI (inoE n d.entries) f.inodes).kind = 3 ∧ (rest ≠ [] ∨ fol = true ∨ dir = true)
            · rw [stepIn_link hf hk h1 h2 h3]
              obtain ⟨x, hx, hgx⟩ := getI_kind3 h3.1
              rw [hgx] at h3 ⊢
              exact hl x d rest (findI_some hx).1 h3.1 hd.1 hk hrest
            · rw [stepIn_on hf hk h1 h2 h3]
              refine stepIn_res h hl rest _ hrest (Or.inr ⟨hn n (by simp), d, by rw [hd.2]; exact hf, hk, rfl, fun hfol k3 => h3 ⟨k3, Or.inr (Or.inl hfol)⟩⟩)
      · rw [stepIn_file hf hk]; exact ⟨fun h => by simp at h, fun _ => rfl⟩
theorem splitN_ne : ∀ (s cur : Str), ∀ x ∈ (splitN cur s).1, x ≠ []
  | [], cur, x, hx => by simp [splitN] at hx
  | c :: s, cur, x, hx => by
    simp only [splitN] at hx
    split at hx
    · split at hx
      · exact splitN_ne s [] x hx
      · simp only [List.mem_cons] at hx
        rcases hx with rfl | hx
        · assumption
        · exact splitN_ne s [] x hx
    · exact splitN_ne s _ x hx
theorem namesP_ne (s : Str) : ∀ x ∈ namesP s, x ≠ [] := by
  intro x hx
  unfold namesP withLast at hx
  split at hx
  · exact splitN_ne s [] x hx
  · rename_i h
    simp only [List.mem_append, List.mem_singleton] at hx
    rcases hx with hx | rfl
    · exact splitN_ne s [] x hx
    · exact h
theorem onK_res {f : Fs} (h : WS f) {fol : Bool} : ∀ (k : Nat) (dir : Bool) (todo : List Str) (s : Spotted), (∀ n ∈ todo, n ≠ []) → Gd f fol s → Res f fol (onK f.inodes fol k dir todo s)
  | 0, dir, todo, s, hn, hs => stepIn_res h (fun x d rest _ _ _ _ _ => ⟨fun h => by simp at h, fun _ => rfl⟩) todo s hn hs
  | k + 1, dir, todo, s, hn, hs => by
    refine stepIn_res h (fun x d rest hx hk3 hd hk2 hrest => ?_) todo s hn hs
    split
    · exact ⟨fun h => by simp at h, fun _ => rfl⟩
    · refine onK_res h k _ _ _ (fun n hn' => ?_) (Or.inl ⟨rfl, rfl, ?_⟩)
      · simp only [List.mem_append] at hn'
        rcases hn' with hn' | hn'
        · exact namesP_ne _ n hn'
        · exact hrest n hn'
      · split
        · exact h.rootk
        · exact ⟨d, findI_mem h.wf.sort hd, hk2⟩
theorem homeP_dir {f : Fs} (h : WF f) {base : Str} (h0 : (homeP f base).2 = 0) : ∃ d, findI (homeP f base).1 f.inodes = some d ∧ d.kind = 2 := by
  unfold homeP at h0 ⊢
  by_cases h1 : (getP f base).2 = 0
  · rw [if_pos h1] at h0 ⊢
    by_cases h2 : (getP f base).1.kind = 2
    · rw [if_pos h2]
      unfold getP at h1 h2 ⊢
      by_cases h3 : (atP f base).2 = 0
      · rw [if_pos h3] at h1 h2 ⊢
        cases hf : findI (atP f base).1.ino f.inodes with
        | none => rw [hf] at h1; simp at h1
        | some x =>
          rw [hf] at h2
          simp only at h2 ⊢
          exact ⟨x, by rw [(findI_some hf).2]; exact hf, h2⟩
      · rw [if_neg h3] at h1; exact absurd h1 h3
    · rw [if_neg h2] at h0; simp at h0
  · rw [if_neg h1] at h0; exact absurd h0 h1
theorem seekP_res {f : Fs} (h : WS f) (base p : Str) (fol : Bool) : Res f fol (seekP f base p fol) := by
  unfold seekP
  split
  · exact ⟨fun h => by simp at h, fun _ => rfl⟩
  · split
    · exact ⟨fun h => by simp at h, fun _ => rfl⟩
    · split
      · exact onK_res h 40 _ _ _ (namesP_ne p) (Or.inl ⟨rfl, rfl, h.rootk⟩)
      · split
        · rename_i h0
          exact onK_res h 40 _ _ _ (namesP_ne p) (Or.inl ⟨rfl, rfl, homeP_dir h.wf h0⟩)
        · rename_i h0
          exact ⟨fun h => absurd h h0, fun _ => rfl⟩
theorem inoE_take {l : List Entry} (hs : SortE l) {n : Str} {k : Nat} {e : Entry} (he : l[k]? = some e) : inoE n (l.take (k + 1)) = if e.name = n then e.ino else inoE n (l.take k) := by
  have hk := (List.getElem?_eq_some_iff.1 he).1
  unfold inoE findE findK
  rw [List.take_add_one, he]
  simp only [Option.toList_some]
  rw [List.find?_append]
  by_cases hn : e.name = n
  · rw [if_pos hn]
    cases hf : (l.take k).find? fun x => decide (x.name = n) with
    | none => simp [hn]
    | some e' =>
      exfalso
      have h1 := List.mem_of_find?_eq_some hf
      have h2 := List.find?_some hf
      simp only [decide_eq_true_eq] at h2
      have hl : l = l.take k ++ e :: l.drop (k + 1) := by
        conv => lhs; rw [← List.take_append_drop k l]
        rw [drop_cons he]
      unfold SortE SortK at hs
      rw [hl, List.pairwise_append] at hs
      have := hs.2.2 e' h1 e (by simp)
      rw [h2, hn, ltS_irrefl] at this; cases this
  · rw [if_neg hn]
    cases hf : (l.take k).find? fun x => decide (x.name = n) with
    | none => simp [hn]
    | some e' => simp
theorem follows_loop {s : Spotted} {d : Inode} (hs : SortE d.entries) (hl : d.entries.length ≤ 1073741824) (k0 : Int → Option Bool) : law10_SeekFollows_L14 s d k0 FUEL (0 : Int) (0 : Int) = k0 (inoE s.name d.entries) := by
  refine loop_post (l := d.entries) (fun n i (z : Int) => law10_SeekFollows_L14 s d k0 n z i) (fun k z => z = inoE s.name (d.entries.take k)) (fun r => r = k0 (inoE s.name d.entries)) (by omega) (fun n k e z hk he hi hr => ?_) (fun n z hi => ?_) 0 (by simp [inoE, findK])
  · simp only [law10_SeekFollows_L14]
    have ht := inoE_take hs (n := s.name) he
    rw [dec_lt hk, dec_nn, toNat_cast, he, wrap_succ (by omega)]
    simp only [bcase_true, ocase_some', beqS]
    by_cases hn : e.name = s.name
    · rw [bc_t (by simp [hn])]
      exact hr _ (by rw [ht, if_pos hn])
    · rw [bc_f (by simp [hn])]
      exact hr _ (by rw [ht, if_neg hn, hi])
  · simp only [law10_SeekFollows_L14]
    rw [List.take_length] at hi
    rw [dec_ge (Nat.le_refl _), bcase_false, hi]
theorem SeekFollows_true {f : Fs} {base p : Str} (hi : InF f) : law10_SeekFollows f base p = some true := by
  unfold law10_SeekFollows
  rw [awake10]
  simp only [ocase_some', Bool.not_true, bcase_false]
  rw [ref07_Ok_eq hi.len hi.ents, ocase_some']
  cases ho : okF f
  · rfl
  obtain ⟨hs, hm, h⟩ := ok_sound ho
  have htr := (tr_iff f).1 hs
  have hws := htr.ws h
  rw [Bool.not_true, bcase_false]
  obtain ⟨b, hb1, hb2⟩ := ref10_Short_some base p hi.len
  rw [hb1, ocase_some']
  cases b
  · rfl
  obtain ⟨hb3, hb4⟩ := hb2 rfl
  rw [Bool.not_true, bcase_false, seek_Seek_eq hws (by omega) (by omega), ocase_some']
  obtain ⟨r1, r2⟩ := seekP_res hws base p true
  generalize seekP f base p true = r at r1 r2
  rw [bneI]
  by_cases h0 : r.2 = 0
  · rw [bc_f (by simp [h0]), h.rget, ocase_some']
    rcases r1 h0 with ⟨g1, g2, d, g3, g4⟩ | ⟨g1, d, g3, g4, g5, g6⟩
    · rw [bc_t (by simp [g1]), g3, getI_some g3, beqI, beqI, bc_t (by rfl), bc_t (by simp [g4])]
      simp [g2]
    · rw [bc_f (by simp [g1]), h.rget, ocase_some', g3, getI_some g3, bneI, bc_f (by rfl), bc_f (by simp [g4])]
      have hdm := findI_some g3
      have hthere : (findI r.1.ino f.inodes).isSome = (r.1.ino != 0) := by
        rw [bneI]
        by_cases hz : r.1.ino = 0
        · rw [hz, h.zero]; rfl
        · have := (inoE_there h hdm.1 r.1.name).resolve_left (by rw [← g5]; exact hz)
          rw [← g5] at this
          rw [this]; simp [hz]
      rw [hthere, bc_f (by simp)]
      have hlp := follows_loop (s := r.1) (h.sortE hdm.1) (h.sm.ents d hdm.1)
      rw [bneI]
      by_cases hz : r.1.ino = 0
      · rw [bc_f (by simp [hz]), hlp, g5]; simp
      · rw [bc_t (by simp [hz]), beqI, bc_f (by simp; exact g6 rfl), hlp, g5]; simp
  · rw [bc_t (by simp [h0]), r2 h0]; rfl
end Go.Eng
namespace Go.Eng
open Go
theorem inF_in {a b c : Int} {l : List Inode} (h : HL.ok 1048576 [.int .i64, .int .i64, .int .i64, .sl .inode] (a, b, c, l, ())) : InF ⟨a, b, c, l⟩ := by
  obtain ⟨_, _, _, ⟨h1, h2⟩, _⟩ := h
  have h3 : l.length ≤ 1048576 := h1
  exact ⟨by show l.length ≤ 1073741824; omega, fun x hx => by have : x.ok 1048576 := h2 x hx; have := this.2.2.2.2.2.1; omega⟩
theorem fs_in {v : HL.V [.int .i64, .int .i64, .int .i64, .sl .inode]} (h : HL.ok 1048576 [.int .i64, .int .i64, .int .i64, .sl .inode] v) : InF ⟨v.1, v.2.1, v.2.2.1, v.2.2.2.1⟩ := by
  obtain ⟨a, b, c, l, u⟩ := v
  exact inF_in h
end Go.Eng
