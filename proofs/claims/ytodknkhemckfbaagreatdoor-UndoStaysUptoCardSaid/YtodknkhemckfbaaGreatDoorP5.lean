/- A part of the proofs of the laws of this seat: the engine that reads the program's code, plain functions, or facts of the program's functions. Conditions: none. -/
import Derived.Test.YtodknkhemckfbaaGreatDoorP4
set_option linter.unusedSectionVars false
set_option linter.unusedVariables false
set_option linter.unusedSimpArgs false
set_option linter.unnecessarySimpa false
namespace Go.Eng
open Go
def ma (w:aq) (k:Int) (d:Str):Bool:=
 (w.fs.aa.any λx=>decide (x.kind=k/\x.data=d))||((w.al.aO.any λx=>decide (x.kind=k/\x.data=d))||(decide (k=1)&&w.al.kept.any λp=>p.content&&decide (p.data=d)))
def oW (f:Fs) (w:aq):List Int:=(f.aa.filter λx=> !decide (x.kind=2)&& !ma w x.kind x.data).map ao.ino
def xQ (w:aq) (k:Int) (d:Str):Prop:=(∃j x,ar j w.fs.aa=some x/\x.kind=k/\x.data=d)\/(∃x∈w.al.aO,x.kind=k/\x.data=d)\/(k=1/\∃p∈w.al.kept,p.content=true/\p.data=d)
section
variable {w v u:aq} {f g:Fs} {d x y z:ao} {nm p q t:Str} {e:Entry} {n m:Nat} {s i:Int} {k:Kept} {a b:au} {o:Opn} {l:List Opn}
theorem BL (h:ct w.fs.aa) {kd:Int} {t:Str}:ma w kd t=true↔xQ w kd t:=by
 unfold ma xQ;simp only[Bool.or_eq_true,List.any_eq_true,decide_eq_true_eq,Bool.and_eq_true];constructor
 ·rintro(⟨x,h1,h2⟩ |⟨x,h1,h2⟩ |⟨h1,p,h2,h3⟩)
  ·exact Or.inl ⟨x.ino,x,dA h h1,h2⟩
  ·exact Or.inr (Or.inl ⟨x,h1,h2⟩)
  ·exact Or.inr (Or.inr ⟨h1,p,h2,h3⟩)
 ·rintro(⟨j,x,h1,h2⟩ |⟨x,h1,h2⟩ |⟨h1,p,h2,h3⟩)
  ·exact Or.inl ⟨x,(aQ h1).1,h2⟩
  ·exact Or.inr (Or.inl ⟨x,h1,h2⟩)
  ·exact Or.inr (Or.inr ⟨h1,p,h2,h3⟩)
theorem xQ.fs {kd:Int} {t:Str} (h:xQ w kd t) (hst:∀j z,ar j w.fs.aa=some z->∃z',ar j g.aa=some z'/\z'.kind=z.kind/\z'.data=z.data):xQ ⟨g,w.al⟩ kd t:=by
 rcases h with⟨j,x,h1,h2,h3⟩ |h|h
 ·obtain⟨z',hz,hk,hd⟩:=hst j x h1
  exact Or.inl ⟨j,z',hz,by rw[hk];exact h2,by rw[hd];exact h3⟩
 ·exact Or.inr (Or.inl h)
 ·exact Or.inr (Or.inr h)
theorem qJ.BD (m:qJ f g d nm x) {j:Int} (hd:ar d.ino f.aa=some d) (h:ar j f.aa=some z):∃z',ar j g.aa=some z'/\z'.kind=z.kind/\z'.data=z.data:=by
 rw[m.find];by_cases h1:x.ino=j
 ·rw[if_pos h1]
  rcases m.hx with h2|⟨y,hy,y1,_,y3,_⟩
  ·rw[h1,h] at h2;cases h2
  ·rw[h1,h] at hy;cases hy
   exact⟨x,rfl,y1.symm,y3.symm⟩
 ·rw[if_neg h1]
  by_cases h2:d.ino=j
  ·rw[if_pos h2]
   rw[<-h2,hd] at h;cases h;exact⟨_,rfl,rfl,rfl⟩
  ·rw[if_neg h2];exact⟨z,h,rfl,rfl⟩
theorem yC (h:ft x=true) (hk:x.kind=2):x.data= [] :=by
 rw[vg hk] at h;simp only[Bool.and_eq_true,decide_eq_true_eq] at h;exact h.1
theorem jc.BD (ht:Tree f) (m:jc f a b x n f e g) (hx:ar a.ino f.aa=some x) {d1 d2:ao} (P:q8 f a b x d1 d2) {j:Int} (h:ar j f.aa=some z):∃z',ar j g.aa=some z'/\z'.kind=z.kind/\z'.data=z.data:=by
 obtain⟨z',h1,h2⟩:=m.stay hx P h;refine⟨z',h1,h2, ?_⟩;by_cases hk:z.kind=2
 ·rw[yC (ht.eN h).1 hk,yC (m.tr.eN h1).1 (by rw[h2];exact hk)]
 ·rw[m.find] at h1
  by_cases c1:x.ino=j
  ·rw[if_pos c1] at h1
   rw[<-c1,P.xi,hx] at h;cases h;have:=Option.some.inj h1;rw[<-this];split<;>rfl
  rw[if_neg c1] at h1;by_cases c2:b.dir=j
  ·rw[<-c2,P.b1] at h;cases h;exact absurd P.b2 hk
  rw[if_neg c2] at h1;by_cases c3:a.dir=j
  ·rw[<-c3,P.a1] at h;cases h;exact absurd P.a2 hk
  rw[if_neg c3,h] at h1;cases h1;rfl
theorem Vc (h:RW w) (b:Wb 549755813888 n w) (hn:n<=8980) (hk7:o.kind<=7) {kd:Int} {t:Str} (hh:xQ w kd t):xQ (doO w o).1 kd t:=by
 unfold doO;cases hm:gw o
 ·exact hh
 rw[if_pos rfl];have M:=(Hy o).1 hm;by_cases k1:o.kind=1
 ·rw[if_pos k1]
  rcases lf h b (by omega) M.a (kd:=2) (t:= []) (Or.inr (Or.inl ⟨rfl,rfl⟩)) (by simp) with⟨e,he,h2⟩ |⟨_,h2,mk,_,_⟩
  ·rw[h2];exact hh
  ·rw[h2];exact hh.fs λj z hz=>mk.more.BD mk.free.hd hz
 rw[if_neg k1];by_cases k2:o.kind=2
 ·rw[if_pos k2]
  rcases vR (o:=o) h b (by omega) (M.b (by unfold jT;simp [k2])) with⟨e,he,h2⟩ |⟨t,_,h2,mk,_,_⟩
  ·rw[h2];exact hh
  ·rw[h2];exact hh.fs λj z hz=>mk.more.BD mk.free.hd hz
 rw[if_neg k2];by_cases k3:o.kind=3
 ·rw[if_pos k3]
  have hs:=M.slot (by unfold db;simp [k3]);rcases tE (o:=o) h b hs.1 hs.2 with⟨e,he,h2⟩ |⟨x,y,_,_,_,hyy,hyk,_,_,h2,_,_⟩
  ·rw[h2];exact hh
  ·rw[h2]
   have hfind:∀j,ar j (w.fs.set (y.cd x)).aa=if y.ino=j then some (y.cd x) else ar j w.fs.aa:=λj=>bA
   rcases hh with⟨j,z,h3,h4,h5⟩ |h3|⟨h3,pp,h4,h5⟩
   ·by_cases c1:y.ino=j
    ·rw[<-c1,hyy] at h3;cases h3
     exact Or.inr (Or.inr ⟨by rw[<-h4];exact hyk,_,jj.2 (Or.inl rfl),rfl,h5⟩)
    ·exact Or.inl ⟨j,z,by show ar j (w.fs.set (y.cd x)).aa=_;rw[hfind,if_neg c1];exact h3,h4,h5⟩
   ·exact Or.inr (Or.inl h3)
   ·exact Or.inr (Or.inr ⟨h3,pp,jj.2 (Or.inr h4),h5⟩)
 rw[if_neg k3];by_cases k4:o.kind=4
 ·rw[if_pos k4]
  have ht:=vK (M.data k4);rcases lf h b (by omega) M.a (kd:=3) (t:=o.data) ht (by rcases ht with h|⟨h,_⟩ |⟨_,_,h,_⟩<;>first|(cases h) |omega) with⟨e,he,h2⟩ |⟨_,h2,mk,_,_⟩
  ·rw[h2];exact hh
  ·rw[h2];exact hh.fs λj z hz=>mk.more.BD mk.free.hd hz
 rw[if_neg k4];by_cases k5:o.kind=5
 ·rw[if_pos k5]
  rcases yb (o:=o) h b (by omega) (M.b (by unfold jT;simp [k5])) with⟨e,he,h2⟩ |⟨x,_,_,hxx,_,hf,_,hne,h2,_,_,_⟩
  ·rw[h2];exact hh
  ·rw[h2];exact hh.fs λj z hz=>(wC hxx hne).BD hf.hd hz
 rw[if_neg k5];by_cases k6:o.kind=6
 ·rw[if_pos k6]
  rcases CU (o:=o) h b (by omega) M.a (M.b (by unfold jT;simp [k6])) (M.under k6).2 with⟨e,he,h2⟩ |⟨x,e,_,_,_,ok,m,_,h2,_,_⟩
  ·rw[h2];exact hh
  ·rw[h2]
   have ew:=ja h.tr b.bd (by omega);obtain⟨d1,d2,P⟩:=places h.tr ew.wf ok;exact hh.fs λj z hz=>m.BD h.tr ok.hx P hz
 rw[if_neg k6];by_cases k7:o.kind=7
 ·rw[if_pos k7]
  have hs:=M.slot (by unfold db;simp [k7]);rcases za (p:=o.a) h b (by omega) M.a hs.1 hs.2 with⟨e,he,h2⟩ |⟨x,e,_,_,hx,_,_,tk,h2,_,_⟩
  ·rw[h2];exact hh
  ·rw[h2]
   have hne:=tk.ent.ne h.tr;have hpm:∀z,z∈w.al.aO->x.ino≠z.ino->z∈(fX w o.slot (aC (atP w.fs o.a).1.dir w.fs.aa) (atP w.fs o.a).1.name x).al.aO:=λz hz hzx=>by
    show z∈(if x.aH=1 then bB x.bare w.al.aO else w.al.aO);split
    ·exact dj.2 (Or.inr ⟨hz,λe1=>hzx e1.symm⟩)
    ·exact hz
   rcases hh with⟨j,z,h3,h4,h5⟩ |⟨z,h3,h4,h5⟩ |⟨h3,pp,h4,h5⟩
   ·by_cases c1:x.ino=j
    ·rw[<-c1,tk.ent.hx] at h3;cases h3
     by_cases hl:x.aH=1
     ·refine Or.inr (Or.inl ⟨x.bare, ?_,h4,h5⟩)
      show x.bare∈(if x.aH=1 then bB x.bare w.al.aO else w.al.aO);rw[if_pos hl];exact dj.2 (Or.inl rfl)
     ·refine Or.inl ⟨x.ino,x.cL (x.aH - 1), ?_,h4,h5⟩
      show ar x.ino (dE w.fs _ _ _).aa=_;rw[cZ hne,if_pos rfl,if_neg hl]
    ·by_cases c2:(aC (atP w.fs o.a).1.dir w.fs.aa).ino=j
     ·rw[<-c2,tk.ent.hd] at h3;cases h3
      refine Or.inl ⟨j,(aC (atP w.fs o.a).1.dir w.fs.aa).b6 (atP w.fs o.a).1.name, ?_,h4,h5⟩;show ar j (dE w.fs _ _ _).aa=_;rw[cZ hne,if_neg c1,if_pos c2]
     ·refine Or.inl ⟨j,z, ?_,h4,h5⟩
      show ar j (dE w.fs _ _ _).aa=_;rw[cZ hne,if_neg c1,if_neg c2];exact h3
   ·refine Or.inr (Or.inl ⟨z,hpm z h3 λe1=> ?_,h4,h5⟩)
    have h6:=h.m6 tk.ent.hx;rw[e1,dA h.ps h3] at h6;cases h6
   ·exact Or.inr (Or.inr ⟨h3,pp,jj.2 (Or.inr h4),h5⟩)
 ·have:=M.kind
  omega
theorem jd.has (h:jd w l v):RW w->Wb 549755813888 n w->n+2*l.length<=8970->(∀o∈l,o.kind<=7)->∀{kd:Int} {t:Str},xQ w kd t->xQ v kd t:=by
 induction h with
 |nil=>exact λ_ _ _ _=>λhh=>hh
 |snoc hc hd ih=>
  rename_i v u l o;intro h b hn hi kd t hh;simp only[List.length_append,List.length_singleton] at hn;obtain⟨r,rb⟩:=hc.ok h b (by omega);have:=Vc (o:=o) r rb (by omega) (hi o (by simp)) (ih h b (by omega) (λo' ho'=>hi o' (by simp [ho'])) hh);rw[hd] at this;exact this
theorem ET (hv:ct v.fs.aa) (h:∀x∈f.aa,x.kind≠2->xQ v x.kind x.data):oW f v= [] :=by
 unfold oW;rw[List.map_eq_nil_iff,List.filter_eq_nil_iff];intro x hx;by_cases hk:x.kind=2
 ·simp [hk]
 ·rw[(BL hv).2 (h x hx hk)];simp
end
section
variable {w v u:aq} {l:List Opn} {o:Opn} {n m:Nat} {f:Fs} {kd:Int} {t:Str}
theorem j1 (h:RW w) (b:Wb 549755813888 n w) (hl:po l) (hn:n+2*l.length<=8990):gf w l=some (u9 w l):=by
 have hu:=qU l;unfold gf u9;rw[jU (by omega),ae,gz h b (vE hl) (by omega)];unfold uY;rw[ae,dS];by_cases h0:(eI ((dw l).length:Int) 0 w (dw l)).2.2=0
 ·rw[aU (by simp [h0]),if_pos h0]
 ·rw[aJ (by simp [h0]),if_neg h0]
theorem By (h:RW w) (b:Wb 549755813888 n w) (hl:po l) (hn:n+2*l.length<=8990):qx w l=some (u9 w l):=by
 have hu:=qU l;unfold qx u9;rw[oH (by omega),ae,mV h b (vE hl) (by omega)];unfold uY;rw[ae,dS];by_cases h0:(eI ((dw l).length:Int) 0 w (dw l)).2.2=0
 ·rw[aU (by simp [h0]),if_pos h0]
 ·rw[aJ (by simp [h0]),if_neg h0]
theorem EG {α:Type} (p:α->Bool) (kr:Int->Option Bool) (k0 r:Option Bool) (F:Nat->Int->Option Bool) (l:List α) (hl:l.length<=1073741824)
 (h1:∀(n k:Nat) (x:α),k<l.length->l[k]? =some x->F (n+1) (k:Int)=if p x then kr (k:Int) else F n ((k+1:Nat):Int)) (h0:∀n:Nat,F (n+1) (l.length:Int)=k0) (hr:∀k:Nat,kr (k:Int)=r):
 F bx (0:Int)=if l.any p then r else k0:=
 (bE (l:=l) (λn i (_:Unit)=>F n i) (λk x u K=>if p x then kr (k:Int) else K u) (λ_=>k0) (by omega) (λn k x u hk hx=>h1 n k x hk hx) (λn u=>h0 n) ()).trans (jq p (λk _=>kr (k:Int)) k0 r (λk _=>hr k) _ _ _)
theorem jg (h1:w.fs.aa.length<=1073741824) (h2:w.al.aO.length<=1073741824) (h3:w.al.kept.length<=1073741824):fR w kd t=some (ma w kd t):=by
 have hK:∀(kr:Int->Option Bool) (k0 r:Option Bool),(∀k:Nat,kr (k:Int)=r)->bY w.al.kept (List.length w.al.kept:Int) kd t kr k0 bx (0:Int)=if (w.al.kept.any λp=>decide (kd=1)&&(p.content&&decide (p.data=t)))=true then r else k0:=λkr k0 r hr=>by
  refine EG _ kr k0 r (λn i=>bY w.al.kept (List.length w.al.kept:Int) kd t kr k0 n i) w.al.kept h3 (λn k x hk hx=> ?_) (λn=> ?_) hr
  ·simp only[bY]
   rw[dec_lt hk,bu,toNat_cast,hx,aP (by omega),aw,aw,ae,eh,oo];by_cases c1:kd=1
   ·cases x.content
    ·simp [c1]
    ·by_cases c2:x.data=t<;>simp [c1,c2]
   ·simp [c1]
  ·simp only[bY]
   rw[bF (Nat.le_refl _)];rfl
 have hP:∀(kr:Int->Option Bool) (k0 r:Option Bool),(∀k:Nat,kr (k:Int)=r)->cC w.al.aO (List.length w.al.aO:Int) kd t kr k0 bx (0:Int)=if (w.al.aO.any λx=>decide (x.kind=kd/\x.data=t))=true then r else k0:=λkr k0 r hr=>by
  refine EG _ kr k0 r (λn i=>cC w.al.aO (List.length w.al.aO:Int) kd t kr k0 n i) w.al.aO h2 (λn k x hk hx=> ?_) (λn=> ?_) hr
  ·simp only[cC]
   rw[dec_lt hk,bu,toNat_cast,hx,aP (by omega),aw,aw,ae,eh,oo];by_cases c1:x.kind=kd
   ·by_cases c2:x.data=t<;>simp [c1,c2]
   ·simp [c1]
  ·simp only[cC]
   rw[bF (Nat.le_refl _)];rfl
 have hI:∀(kr:Int->Option Bool) (k0 r:Option Bool),(∀k:Nat,kr (k:Int)=r)->cV w.fs.aa (List.length w.fs.aa:Int) kd t kr k0 bx (0:Int)=if (w.fs.aa.any λx=>decide (x.kind=kd/\x.data=t))=true then r else k0:=λkr k0 r hr=>by
  refine EG _ kr k0 r (λn i=>cV w.fs.aa (List.length w.fs.aa:Int) kd t kr k0 n i) w.fs.aa h1 (λn k x hk hx=> ?_) (λn=> ?_) hr
  ·simp only[cV]
   rw[dec_lt hk,bu,toNat_cast,hx,aP (by omega),aw,aw,ae,eh,oo];by_cases c1:x.kind=kd
   ·by_cases c2:x.data=t<;>simp [c1,c2]
   ·simp [c1]
  ·simp only[cV]
   rw[bF (Nat.le_refl _)];rfl
 have hx:(w.al.kept.any λp=>decide (kd=1)&&(p.content&&decide (p.data=t)))=(decide (kd=1)&&w.al.kept.any λp=>p.content&&decide (p.data=t)):=by
  by_cases c:kd=1
  ·simp [c]
  ·simp [c]
 have k28:=λ(kr:Int->Option Bool) (h:∀k:Nat,kr (k:Int)=some true)=>hK kr (some false) (some true) h
 unfold fR ma;rw[k28 _ (λk=>by simp),hP _ _ (some true) (λk=>aJ (by simp)),hI _ _ (some true) (λk=>aJ (by simp)),hx];cases w.fs.aa.any λx=>decide (x.kind=kd/\x.data=t)
 ·cases w.al.aO.any λx=>decide (x.kind=kd/\x.data=t)
  ·cases (decide (kd=1)&&w.al.kept.any λp=>p.content&&decide (p.data=t))<;>rfl
  ·rfl
 ·rfl
theorem rP (h1:w.fs.aa.length<=1073741824) (h2:w.al.aO.length<=1073741824) (h3:w.al.kept.length<=1073741824):lV w kd t=some (ma w kd t):=by
 have hK:cX kd t w (some true) (some false) bx (0:Int)=some (decide (kd=1)&&w.al.kept.any λp=>p.content&&decide (p.data=t)):=by
  by_cases c1:kd=1
  ·refine(EG (λp:Kept=>p.content&&decide (p.data=t)) (λ_=>some true) (some false) (some true) (λn i=>cX kd t w (some true) (some false) n i) w.al.kept h3 (λn k x hk hx=> ?_) (λn=> ?_) (λ_=>rfl)).trans ?_
   ·simp only[cX]
    rw[dec_lt hk,bu,toNat_cast,hx,aP (by omega)];simp only[aw,ae,oo];rw[aJ (by simp [c1])];cases x.content
    ·rfl
    ·by_cases c2:x.data=t<;>simp [c2]
   ·simp only[cX]
    rw[bF (Nat.le_refl _)];rfl
   ·rw[decide_eq_true c1,Bool.true_and]
    cases w.al.kept.any λp=>p.content&&decide (p.data=t)<;>rfl
  ·rw[decide_eq_false c1,Bool.false_and]
   refine(bE (l:=([] :List Nat)) (λm i (_:Unit)=>cX kd t w (some true) (some false) m i) (λ_ _ s K=>K s) (λ_=>some false) (by simp) (λm k b u hkk hx=>by simp at hkk) (λm u=> ?_) ()).trans rfl;simp only[cX];rw[aV,aU (b:=(kd==(1:Int))) (by simp [c1])];split<;>rfl
 have hP:∀(k0:Option Bool),eC kd t w (some true) k0 bx (0:Int)=if (w.al.aO.any λx=>decide (x.kind=kd/\x.data=t))=true then some true else k0:=λk0=>by
  refine EG _ (λ_=>some true) k0 (some true) (λn i=>eC kd t w (some true) k0 n i) w.al.aO h2 (λn k x hk hx=> ?_) (λn=> ?_) (λ_=>rfl)
  ·simp only[eC]
   rw[dec_lt hk,bu,toNat_cast,hx,aP (by omega)];simp only[aw,ae,eh,oo];by_cases c1:x.kind=kd
   ·by_cases c2:x.data=t<;>simp [c1,c2]
   ·simp [c1]
  ·simp only[eC]
   rw[bF (Nat.le_refl _)];rfl
 have hI:∀(k0:Option Bool),ep kd t w (some true) k0 bx (0:Int)=if (w.fs.aa.any λx=>decide (x.kind=kd/\x.data=t))=true then some true else k0:=λk0=>by
  refine EG _ (λ_=>some true) k0 (some true) (λn i=>ep kd t w (some true) k0 n i) w.fs.aa h1 (λn k x hk hx=> ?_) (λn=> ?_) (λ_=>rfl)
  ·simp only[ep]
   rw[dec_lt hk,bu,toNat_cast,hx,aP (by omega)];simp only[aw,ae,eh,oo];by_cases c1:x.kind=kd
   ·by_cases c2:x.data=t<;>simp [c1,c2]
   ·simp [c1]
  ·simp only[ep]
   rw[bF (Nat.le_refl _)];rfl
 unfold lV ma;rw[hK,hP,hI];cases w.fs.aa.any λx=>decide (x.kind=kd/\x.data=t)
 ·cases w.al.aO.any λx=>decide (x.kind=kd/\x.data=t)
  ·rfl
  ·rfl
 ·rfl
theorem sb (p:ao->Bool) (kk:List Int->Option (List Int)):∀(l:List ao) (k:Nat) (s:List Int),s.length+l.length<=LIM->
 dh (λ_ (x:ao) s K=>if p x then aS (s.length+[x.ino].length) (K (s++[x.ino])) else K s) kk k l s=kk (s++(l.filter p).map ao.ino)
 | [],_,s,_=>by simp [dh]
 |x::l,k,s,h=>by
  simp only[dh,List.filter_cons];simp only[List.length_cons] at h;split
  ·rw[bC (by simp;omega),sb p kk l _ _ (by simp;omega)];simp
  ·rw[sb p kk l _ _ (by omega)]
theorem ko (h0:f.aa.length<=1073741824) (h1:w.fs.aa.length<=1073741824) (h2:w.al.aO.length<=1073741824) (h3:w.al.kept.length<=1073741824):gh f w=some (oW f w):=by
 unfold gh oW;refine(bE (l:=f.aa) (λm i (s:List Int)=>fF f.aa (List.length f.aa:Int) w (λz9=>some z9) m i s) (λ_ (x:ao) s K=>if (!decide (x.kind=2)&& !ma w x.kind x.data) then aS (s.length+[x.ino].length) (K (s++[x.ino])) else K s) (λs=>some s) (by omega) (λm k x s hk hx=> ?_) (λm s=> ?_) []).trans ?_
 ·simp only[fF]
  rw[dec_lt hk,bu,toNat_cast,hx,aP (by omega),aw,aw,ae,jg h1 h2 h3,eh];by_cases c1:x.kind=2
  ·simp [c1]
  ·cases ma w x.kind x.data<;>simp [c1]
 ·simp only[fF]
  rw[bF (Nat.le_refl _)];rfl
 ·rw[sb _ _ _ _ _ (by unfold LIM;simp;omega)];simp
theorem Bt (h0:f.aa.length<=1073741824) (h1:w.fs.aa.length<=1073741824) (h2:w.al.aO.length<=1073741824) (h3:w.al.kept.length<=1073741824):qd f w=some (oW f w):=by
 unfold qd oW;refine(bE (l:=f.aa) (λm i (s:List Int)=>eU f w (λz8=>some z8) m i s) (λ_ (x:ao) s K=>if (!decide (x.kind=2)&& !ma w x.kind x.data) then aS (s.length+[x.ino].length) (K (s++[x.ino])) else K s) (λs=>some s) (by omega) (λm k x s hk hx=> ?_) (λm s=> ?_) []).trans ?_
 ·simp only[eU]
  rw[dec_lt hk,bu,toNat_cast,hx,aP (by omega),aw,aw,ae,rP h1 h2 h3,dS];by_cases c1:x.kind=2
  ·simp [c1]
  ·cases ma w x.kind x.data<;>simp [c1]
 ·simp only[eU]
  rw[bF (Nat.le_refl _)];rfl
 ·rw[sb _ _ _ _ _ (by unfold LIM;simp;omega)];simp
theorem DB (hi:InW w) (hl:l.length<=1073741824):∃b,kQ w l=some b/\(b=true->RW w/\Wb 549755813888 40 w/\l.length<=30/\po l):=yD hi hl
def wU:aq:=⟨⟨4,9,9,[⟨1,2,0, [],1,[⟨[97],4⟩,⟨[98],3⟩]⟩,⟨3,1,1,[121],0, []⟩,⟨4,1,1,[122],0, []⟩]⟩,⟨[], []⟩⟩
theorem H6:nW=some wU:=by
 unfold nW;have e1:oU 4 9=some ⟨4,9,2,[⟨1,2,0, [],1, []⟩]⟩:=rfl;rw[e1,ae,cf (by decide),ae,cf (by decide),ae,cf (by decide),ae];rfl
theorem rwU:RW wU:=tT.1 (by decide+kernel)
theorem wbU:Wb 549755813888 40 wU:=H9 (by decide+kernel) (by decide)
def lU:List Opn:=[⟨3,1,[47,97],[47,98], []⟩]
theorem ye:cu=some true:=by
 unfold cu;have hl:po lU:=by unfold po lU;decide
 have r1:=yg 1 lU 0 rwU wbU (by decide);have e3:lU.length=1:=rfl;have b1:=r1.2.kl;have b2:=r1.2.pl;have b3:=r1.2.bd.len;rw[H6,ae];show aj (kD wU lU 1) _=_;rw[mV rwU wbU hl (by decide) 1];unfold uY;rw[ae];show aj (gf (eI 1 0 wU lU).1 lU) _=_;rw[j1 r1.1 r1.2 hl (by decide),ae];show aj (gf wU lU) _=_;rw[j1 rwU wbU hl (by decide),ae,ko (by decide) (by show(eI 1 0 wU lU).1.fs.aa.length<=_;omega) (by decide) (by decide),ae];have e1:(u9 (eI 1 0 wU lU).1 lU).1=wU:=by decide+kernel
 rw[aJ (by decide+kernel),aJ (by decide+kernel),e1,(wbU.inw rwU (by decide)).same,ae,decide_eq_true rfl,aw,aJ (by decide+kernel)];show aj (fR (eI 1 0 wU lU).1 1 [121]) _=_;rw[jg (by omega) (by omega) (by omega),ae,aJ (by decide+kernel)];show aj (fR ⟨(eI 1 0 wU lU).1.fs,⟨[], []⟩⟩ 1 [121]) _=_;rw[jg (by show(eI 1 0 wU lU).1.fs.aa.length<=_;omega) (by decide) (by decide),ae,aJ (by decide+kernel)];show aj (gh wU.fs (eI 1 0 wU lU).1) _=_;rw[ko (by decide) (by omega) (by omega) (by omega),ae,aJ (by decide+kernel),aJ (by decide+kernel),aJ (by decide)];have e4:oW wU.fs ⟨(eI 1 0 wU lU).1.fs,⟨[], []⟩⟩=[3]:=by decide+kernel
 show aj (oW wU.fs ⟨(eI 1 0 wU lU).1.fs,⟨[], []⟩⟩)[0]? _=_;rw[e4];rfl
theorem Ln (h:RW w) (b:Wb 549755813888 n w) (hn:n+2*l.length<=8990):InW (u9 w l).1:=by
 have hu:=qU l;have ro:=yg ((dw l).length:Int) (dw l) 0 h b (by omega);unfold u9;split
 ·exact ro.2.inw ro.1 (by omega)
 ·exact b.inw h (by omega)
theorem yJ (hi:InW w) (hll:l.length<=1073741824):me w l=some true:=by
 unfold me;rw[ye];simp only[ae,Bool.not_true,ax];obtain⟨b,hb,hb2⟩:=DB hi hll;rw[hb,ae];cases b
 ·rfl
 obtain⟨r,wb,h30,hl⟩:=hb2 rfl;rw[Bool.not_true,ax,j1 r wb hl (by omega),ae,By r wb hl (by omega),ae,(Ln r wb (by omega)).same,ae,decide_eq_true rfl,aw];simp
theorem yR (hf:InF f) (hi:InW w):mw f w kd t=some true:=by
 unfold mw;rw[ye];simp only[ae,Bool.not_true,ax];obtain⟨b,hb,hb2⟩:=DB (l:= []) hi (by simp);rw[hb,ae];cases b
 ·rfl
 rw[Bool.not_true,ax,Ef hf.len hf.dD,ae];cases okF f
 ·rfl
 rw[Bool.not_true,ax];by_cases ht:t.length>1000
 ·rw[aJ (by simp;omega)]
 have p2:w.al.aO.length<=1073741824:=hi.aO.len;rw[aU (by simp;omega),ko hf.len hi.fs.len p2 hi.kl,ae,Bt hf.len hi.fs.len p2 hi.kl,ae,jg hi.fs.len p2 hi.kl,ae,rP hi.fs.len p2 hi.kl,ae,aU (by simp),aU (by simp)];have hlen:(oW f w).length<=1073741824:=by
  unfold oW;rw[List.length_map];exact Nat.le_trans (List.length_filter_le _ _) hf.len
 generalize oW f w=l at hlen;refine(EG (λ_:Int=>false) (λ_=>some false) (some true) (some false) (λn i=>d_ l l (some false) (some true) n i) l hlen (λn k x hk hx=> ?_) (λn=> ?_) (λ_=>rfl)).trans ?_
 ·simp only[d_]
  rw[dec_lt hk,bu,toNat_cast,hx,aP (by omega)];simp
 ·simp only[d_]
  rw[bF (Nat.le_refl _)];rfl
 ·simp
theorem AM (hi:InW w) (hll:l.length<=1073741824):mj w l=some true:=by
 unfold mj sh;dsimp only;rw[ye];simp only[ae,Bool.not_true,ax];obtain⟨b,hb,hb2⟩:=DB hi hll;rw[hb,ae];cases b
 ·rfl
 obtain⟨r,wb,h30,hl⟩:=hb2 rfl;have l1:=wb.bd.len;have l2:=wb.kl;have l3:=wb.pl;rw[Bool.not_true,ax,bC (by unfold LIM;simp;omega),bC (by unfold LIM;simp;omega),bC (by unfold LIM;simp;omega),bC (by unfold LIM;simp;omega)];simp only[List.nil_append];show aj (gf w l) _=_;have hL:=ko (f:=w.fs) (w:=w) (by omega) (by omega) (by omega) (by omega);have hlost:oW w.fs w= [] :=ET r.tr.sort (λx hx _=>Or.inl ⟨x.ino,x,dA r.tr.sort hx,rfl,rfl⟩);rw[j1 r wb hl (by omega),ae];show aj (gh w.fs w) _=_;rw[hL,ae];show aj (dG w w) _=_;rw[hi.same,ae,decide_eq_true rfl,aw,lB hll,ae,decide_eq_true rfl,aw,hlost];rfl
theorem vU {stop:Int} (hi:InW w) (hll:l.length<=1073741824) (h0:0<=stop) (h1:stop<256):j9 w l stop=some true:=by
 unfold j9;rw[ye];simp only[ae,Bool.not_true,ax];obtain⟨b,hb,hb2⟩:=DB hi hll;rw[hb,ae];cases b
 ·rfl
 obtain⟨r,wb,h30,hl⟩:=hb2 rfl;rw[Bool.not_true,ax,sL hl hll,ae];cases hp:rn 0 l
 ·rfl
 rw[Bool.not_true,ax,bN (by omega) (by omega),mV r wb hl (by omega) stop];obtain⟨j,a,e,k1,k2,k3,k4,k5,k6⟩:=B5 r wb (by omega) hp stop;obtain⟨p1,p2,p3⟩:=wm hp j;have hjl:(l.take j).length=j:=by simp;omega
 obtain⟨ra,rb⟩:=k4.ok r wb (by omega);have hlt:po (l.take j):=λo ho=>hl o (List.mem_of_mem_take ho)
 have hk7:∀o∈l.take j,o.kind<=7:=λo ho=>((r8 hp).1 o (List.mem_of_mem_take ho)).2
 have has:∀{kd:Int} {t:Str},xQ w kd t->xQ a kd t:=λhh=>k4.has r wb (by omega) hk7 hh
 have l1:=wb.bd.len;have l4:=wb.kl;have a1:=rb.bd.len;have a2:=rb.kl;have a3:=rb.pl;have hlost:oW w.fs a= [] :=ET ra.tr.sort (λx hx _=>has (Or.inl ⟨x.ino,x,dA r.tr.sort hx,rfl,rfl⟩));unfold uY;rw[k1,ae];simp only;rw[ko (by omega) (by omega) (by omega) (by omega),ae,hlost,aU (by simp)];have hback:u9 a (l.take j)=(w.nx a.fs.next,0):=by
  unfold u9;rw[k6,if_pos rfl]
 refine(EG (λ_:Kept=>false) (λ_=>some false) (some true) (some false) (λn i=>cT w a (some false) _ n i) w.al.kept (by omega) (λn k x hk hx=> ?_) (λn=> ?_) (λ_=>rfl)).trans (by simp)
 ·simp only[cT]
  rw[dec_lt hk,bu,toNat_cast,hx,aP (by omega),aw,aw,ae,ae,jg (by omega) (by omega) (by omega),ae];cases hc:x.content
  ·simp
  ·have hf:ma a 1 x.data=true:=(BL ra.tr.sort).2 (has (Or.inr (Or.inr ⟨rfl,x,List.mem_of_getElem? hx,hc,rfl⟩)))
   rw[hf];simp
 ·simp only[cT]
  rw[bF (Nat.le_refl _),ax,aJ (by simp;omega),toNat_cast,j1 ra rb hlt (by omega),ae,hback,aJ (by simp)];have eta:(⟨⟨(w.nx a.fs.next).fs.ay,(w.nx a.fs.next).fs.aB,w.fs.next,(w.nx a.fs.next).fs.aa⟩,(w.nx a.fs.next).al⟩:aq)=w:=rfl;simp only;rw[eta,hi.same,ae,decide_eq_true rfl]
end
end Go.Eng
