/- A part of the proofs of the laws of this seat: the engine that reads the program's code, plain functions, or facts of the program's functions. Conditions: none. -/
import Derived.Test.YtkdpombpeoiafaaGreatDoorP3
import Derived.Test.YtkdpombpeoiafaaGreatDoorE4
import Derived.Test.YtkdpombpeoiafaaGreatDoorP1
import Derived.Test.YtkdpombpeoiafaaGreatDoorP2
set_option linter.unusedSectionVars false
set_option linter.unusedVariables false
set_option linter.unusedSimpArgs false
set_option linter.unnecessarySimpa false
set_option linter.unusedSimpArgs false
set_option linter.unusedVariables false
set_option linter.unusedSectionVars false
namespace Go.Eng
open Go
section
variable {f g f1:Fs} {d1 d2 x y:ah} {a b s t:aj} {e:Entry} {n:Nat}
theorem yI {f:Fs} (w:WF f):∀{ns:List Str} {s t:aj},cD f.aa ns s=(t,0)→t.ino≠0→Way f.aa s.ino t.ino ns.length∧s.ino≠0
 | [],s,t,h,h0=>by
  simp only[cD,Prod.mk.injEq] at h;obtain⟨rfl,_⟩:=h;exact⟨.here,h0⟩
 |m::ns,s,t,h,h0=>by
  cases hf:al s.ino f.aa with
  |none=>rw[il hf] at h;simp at h
  |some d=>
   by_cases hk:d.kind=2
   ·rw[fk hf hk] at h
    obtain⟨h1,h2⟩:=yI w h h0;obtain⟨e,he,_,he2,_⟩:=wz h2;refine⟨?_,fun e=>by rw[e,w.zero] at hf;cases hf⟩;have h3:Way f.aa e.ino t.ino ns.length:=by rw[he2];exact h1
    exact Way.first hf he h3
   ·rw[iC hf hk] at h;simp at h
theorem vV {f:Fs} {l:List ah} (w:WF f) {D X B:Int} (P:Int→Str→Prop)
 (hg:∀k z,al k f.aa=some z→z.kind=2→k≠B→∃z',al k l=some z'∧z'.kind=2∧z'.ino=z.ino∧∀m,¬P k m→b9 m z'.entries=b9 m z.entries)
 (hp:∀k z m,al k f.aa=some z→P k m→b9 m z.entries=X∨b9 m z.entries=B)
 (hX:¬∃n,Way f.aa X D n) (hB:D≠B) (hBe:∀z,al B f.aa=some z→z.entries= []) (hD:D≠0):
 ∀{ns:List Str} {s t:aj},cD f.aa ns s=(t,0)→t.ino=D→(ns≠ [] →s.ino≠B)→cD l ns s=(t,0)
 | [],s,t,h,ht,_=>by
  simp only[cD,Prod.mk.injEq] at h⊢;exact h
 |m::ns,s,t,h,ht,hs=>by
  have hs:=hs (by simp);cases hf:al s.ino f.aa with
  |none=>rw[il hf] at h;simp at h
  |some d=>
   by_cases hk:d.kind=2
   ·rw[fk hf hk] at h
    obtain⟨z',hz,hzk,hzi,hze⟩:=hg _ d hf hk hs;have hw:=yI w h (by rw[ht];exact hD);rw[ht] at hw;have hnb:b9 m d.entries≠B:=fun e=>by
     have hw1:Way f.aa (b9 m d.entries) D ns.length:=hw.1;rw[e] at hw1;rcases hw1.head with⟨_,h1⟩ |⟨_,z,e',_,hz,he',_⟩
     ·exact hB h1
     ·rw[hBe z hz] at he';cases he'
    have hnp:¬P s.ino m:=fun hpp=>by
     rcases hp _ d m hf hpp with h1|h1
     ·have hw1:Way f.aa (b9 m d.entries) D ns.length:=hw.1
      rw[h1] at hw1;exact hX ⟨_,hw1⟩
     ·exact hnb h1
    rw[fk hz hzk,hzi,hze m hnp];exact vV w P hg hp hX hB hBe hD h ht (fun _=>hnb)
   ·rw[iC hf hk] at h;simp at h
theorem m6.find (m:m6 f a b x n f1 e g) (k:Int):al k g.aa=if x.ino=k then some (if x.kind=2 then x.m4 b.dir else x) else if b.dir=k then some ((mvD (aB a.dir f1.aa) (aB b.dir f1.aa) a.name).bT b.name x.ino) else if a.dir=k then some ((aB a.dir f1.aa).b_ a.name) else al k f1.aa:=by
 rw[m.eq,s8 m.pre.mv m.pre.tr,m.pre.ha,m.pre.hb]
theorem m6.xne (m:m6 f a b x n f1 e g):x.ino≠b.dir∧x.ino≠a.dir:=by
 refine⟨?_, ?_⟩
 ·have:=m.pre.mv.ne2;rwa[m.pre.hb] at this
 ·have:=m.pre.mv.ent.ne m.pre.tr;rwa[m.pre.ha] at this
structure wX (f:Fs) (a b:aj) (x d1 d2:ah):Prop where
 a1:al a.dir f.aa=some d1
 a2:d1.kind=2
 a3:a.ino=b9 a.name d1.entries
 b1:al b.dir f.aa=some d2
 b2:d2.kind=2
 b3:b.ino=b9 b.name d2.entries
 xi:x.ino=a.ino
 diff:¬(a.dir=b.dir∧a.name=b.name)
 ab:a.dir≠b.ino
 bb:b.dir≠b.ino
 xb:¬∃n,Way f.aa a.ino b.dir n
 xa:¬∃n,Way f.aa a.ino a.dir n
theorem places (ht:Tree f) (w:WF f) (h:yT f a b x):∃d1 d2,wX f a b x d1 d2:=by
 obtain⟨d1,a1,a2,a3,a4,a5⟩:=q7 h.ga h.an;obtain⟨d2,b1,b2,b3,b4,b5⟩:=q7 h.gb h.bn;obtain⟨e,he,_,hxi⟩:=q9 ht w h.ga h.an h.hx;rw[a4] at he;have hab:a.dir≠b.ino:=fun e1=>by
  have:=h.emp d1 (by rw[←e1];exact a1);have h2:=he.mem.1;rw[this] at h2;cases h2
 have hbb:b.dir≠b.ino:=fun e1=>by
  have h0:b.ino≠0:=fun e=>by rw[e1,e,w.zero] at b1;cases b1
  obtain⟨e',he',_,_,hn'⟩:=sA (by rw[←b3];exact h0);have:=h.emp d2 (by rw[←e1];exact b1);have h2:=(fN he').1;rw[this] at h2;cases h2
 refine⟨d1,d2,a1,a2,a3,b1,b2,b3,hxi,fun⟨e1,e2⟩=> ?_,hab,hbb, ?_, ?_⟩
 ·rw[e1,b1] at a1;cases a1
  exact h.ne (by rw[a3,b3,e2])
 ·by_cases hk:x.kind=2
  ·exact h.out hk
  ·intro⟨m,hm⟩
   rcases hm.head with⟨_,h1⟩ |⟨_,z,e',_,hz,he',_⟩
   ·rw[h1,h.hx] at b1;cases b1;exact hk b2
   ·rw[h.hx] at hz;cases hz
    rw[ht.xB h.hx hk] at he';cases he'
 ·obtain⟨k,hk⟩:=(ht.qd a1).way
  intro⟨m,hm⟩;refine ht.xJ hk a1 he.mem.1 (n:=m) ?_;rw[he.hn,hxi];exact hm
theorem m6.wT (w:WF f) (m:m6 f a b x n f1 e g) (p:wX f a b x d1 d2) (h:yT f a b x) {D:Int} (hD0:D≠0) (hD:¬∃n,Way f.aa a.ino D n) (hB:D≠b.ino) {ns:List Str} (hr:(al 1 f.aa).isSome=true) (hgo:cD f.aa ns dG=(t,0)) (ht:t.ino=D) (hb1:b.ino≠1):cD g.aa ns dG=(t,0):=by
 refine vV (D:=D) (X:=a.ino) (B:=b.ino) w (fun k n=>(k=a.dir∧n=a.name)∨(k=b.dir∧n=b.name)) (fun k z hz hk hkb=> ?_) (fun k z q hz hp=> ?_) hD hB h.emp hD0 hgo ht (fun _=>fun e=>hb1 e.symm)
 ·obtain⟨z',hz',hzk,hze⟩:=m.pre.find k z hz hkb
  have hzi:z'.ino=z.ino:=by rw[(aN hz').2,(aN hz).2]
  rw[m.find];by_cases c1:x.ino=k
  ·rw[if_pos c1]
   have hzx:z=x:=by
    rw[←c1,p.xi,h.hx] at hz;exact(Option.some.inj hz).symm
   subst hzx;refine⟨_,rfl, ?_, ?_,fun q _=> ?_⟩<;>(rw[if_pos hk];first|exact hk|rfl)
  ·rw[if_neg c1]
   by_cases c2:b.dir=k
   ·rw[if_pos c2]
    have hzd:aB b.dir f1.aa=z':=ba (by rw[c2];exact hz');refine⟨_,rfl, ?_, ?_,fun q hq=> ?_⟩
    ·show(mvD _ _ _).kind=2
     unfold mvD;split
     ·rename_i hd
      rw[m.pre.ha,m.pre.hb] at hd;show(aB a.dir f1.aa).kind=2;rw[hd,hzd,hzk];exact hk
     ·rw[hzd,hzk];exact hk
    ·show(mvD _ _ _).ino=z.ino
     rw[l8,m.pre.hb,c2,(aN hz).2]
    ·show b9 q (fS ⟨b.name,x.ino⟩ (mvD _ _ _).entries)=_
     rw[nN];have hq1:¬b.name=q:=fun e=>hq (Or.inr ⟨c2.symm,e.symm⟩)
     rw[if_neg hq1];have hzq:b9 q z'.entries=b9 q z.entries:=(hze q).resolve_left (fun e=>hq1 e.2.symm);unfold mvD;split
     ·rename_i hd
      rw[m.pre.ha,m.pre.hb] at hd;show b9 q (dn a.name (aB a.dir f1.aa).entries)=_;rw[lD,if_neg (fun e=>hq (Or.inl ⟨by rw[←c2,hd],e.symm⟩)),hd,hzd,hzq]
     ·rw[hzd,hzq]
   ·rw[if_neg c2]
    by_cases c3:a.dir=k
    ·rw[if_pos c3]
     have hzd:aB a.dir f1.aa=z':=ba (by rw[c3];exact hz');refine⟨_,rfl, ?_, ?_,fun q hq=> ?_⟩
     ·show(aB a.dir f1.aa).kind=2
      rw[hzd,hzk];exact hk
     ·show(aB a.dir f1.aa).ino=_
      rw[hzd,hzi]
     ·show b9 q (dn a.name (aB a.dir f1.aa).entries)=_
      rw[lD,if_neg (fun e=>hq (Or.inl ⟨c3.symm,e.symm⟩)),hzd];exact(hze q).resolve_left (fun e=>c2 e.1.symm)
    ·rw[if_neg c3]
     exact⟨z',hz',by rw[hzk];exact hk,hzi,fun q hq=>(hze q).resolve_left (fun e=>c2 e.1.symm)⟩
 ·rcases hp with⟨rfl,rfl⟩ |⟨rfl,rfl⟩
  ·rw[p.a1] at hz;cases hz;exact Or.inl p.a3.symm
  ·rw[p.b1] at hz;cases hz;exact Or.inr p.b3.symm
theorem m6.at (ht:Tree f) (w:WF f) (m:m6 f a b x n f1 e g) (p:wX f a b x d1 d2) (h:yT f a b x) {ns:List Str} (hq:cD f.aa ns dG=(b,0)) (hns:ns≠ []):cD g.aa ns dG=(⟨b.dir,b.name,a.ino⟩,0):=by
 have hb1:b.ino≠1:=fun e=>by
  obtain⟨e0,he0,_,_,hn0⟩:=sA (l:=d2.entries) (n:=b.name) (by rw[←p.b3,e];decide);exact ht.uB p.b1 (fN he0).1 (by rw[hn0,←p.b3,e])
 have hd0:b.dir≠0:=fun e=>by have:=p.b1;rw[e,w.zero] at this;cases this
 obtain⟨r,hr,_⟩:=ht.root;have hspl:ns=ns.dropLast++[ns.getLast hns]:=(List.dropLast_concat_getLast hns).symm;rw[hspl] at hq⊢;rw[ui] at hq⊢;by_cases h0:(cD f.aa ns.dropLast dG).2=0
 ·rw[if_pos h0] at hq
  have hpre:cD f.aa ns.dropLast dG=((cD f.aa ns.dropLast dG).1,0):=by rw[←h0]
  generalize (cD f.aa ns.dropLast dG).1=s at*;cases hf:al s.ino f.aa with
  |none=>rw[il hf] at hq;simp at hq
  |some d=>
   by_cases hk:d.kind=2
   ·rw[fk hf hk] at hq
    simp only[cD,Prod.mk.injEq] at hq;have hbe:=hq.1;have hs:s.ino=b.dir:=by rw[←hbe];exact(aN hf).2.symm
    have hgo:=m.wT w p h (D:=b.dir) hd0 p.xb p.bb (by rw[hr];rfl) hpre hs hb1;rw[hgo,if_pos rfl];have hgd:al s.ino g.aa=some ((mvD (aB a.dir f1.aa) (aB b.dir f1.aa) a.name).bT b.name x.ino):=by
     rw[m.find,if_neg (by rw[hs];exact m.xne.1),if_pos hs.symm]
    have hkk:((mvD (aB a.dir f1.aa) (aB b.dir f1.aa) a.name).bT b.name x.ino).kind=2:=m.pre.mv.dk m.pre.tr;rw[fk hgd hkk];have hnm:ns.getLast hns=b.name:=by rw[←hbe]
    simp only[cD,Prod.mk.injEq,and_true];have hi:((mvD (aB a.dir f1.aa) (aB b.dir f1.aa) a.name).bT b.name x.ino).ino=b.dir:=by
     show(mvD _ _ _).ino=_;rw[l8];exact m.pre.hb
    have he:b9 (ns.getLast hns) ((mvD (aB a.dir f1.aa) (aB b.dir f1.aa) a.name).bT b.name x.ino).entries=a.ino:=by
     show b9 _ (fS ⟨b.name,x.ino⟩ _)=_;rw[nN,if_pos hnm.symm];exact p.xi
    rw[hi,he,hnm]
   ·rw[iC hf hk] at hq;simp at hq
 ·rw[if_neg h0] at hq
  simp only[Prod.mk.injEq] at hq;exact absurd hq.2 h0
theorem m6.gone (ht:Tree f) (w:WF f) (m:m6 f a b x n f1 e g) (p:wX f a b x d1 d2) (h:yT f a b x) {ns:List Str} (hq:cD f.aa ns dG=(a,0)) (hns:ns≠ []):cD g.aa ns dG=(⟨a.dir,a.name,0⟩,0):=by
 have hb1:b.ino≠1:=fun e=>by
  obtain⟨e0,he0,_,_,hn0⟩:=sA (l:=d2.entries) (n:=b.name) (by rw[←p.b3,e];decide);exact ht.uB p.b1 (fN he0).1 (by rw[hn0,←p.b3,e])
 have hd0:a.dir≠0:=fun e=>by have:=p.a1;rw[e,w.zero] at this;cases this
 obtain⟨r,hr,_⟩:=ht.root;have hspl:ns=ns.dropLast++[ns.getLast hns]:=(List.dropLast_concat_getLast hns).symm;rw[hspl] at hq⊢;rw[ui] at hq⊢;by_cases h0:(cD f.aa ns.dropLast dG).2=0
 ·rw[if_pos h0] at hq
  have hpre:cD f.aa ns.dropLast dG=((cD f.aa ns.dropLast dG).1,0):=by rw[←h0]
  generalize (cD f.aa ns.dropLast dG).1=s at*;cases hf:al s.ino f.aa with
  |none=>rw[il hf] at hq;simp at hq
  |some d=>
   by_cases hk:d.kind=2
   ·rw[fk hf hk] at hq
    simp only[cD,Prod.mk.injEq] at hq;have hbe:=hq.1;have hs:s.ino=a.dir:=by rw[←hbe];exact(aN hf).2.symm
    have hgo:=m.wT w p h (D:=a.dir) hd0 p.xa p.ab (by rw[hr];rfl) hpre hs hb1;rw[hgo,if_pos rfl];have hnm:ns.getLast hns=a.name:=by rw[←hbe]
    by_cases hab:b.dir=a.dir
    ·have hgd:al s.ino g.aa=some ((mvD (aB a.dir f1.aa) (aB b.dir f1.aa) a.name).bT b.name x.ino):=by
      rw[m.find,if_neg (by rw[hs];exact m.xne.2),if_pos (by rw[hs];exact hab)]
     have hkk:((mvD (aB a.dir f1.aa) (aB b.dir f1.aa) a.name).bT b.name x.ino).kind=2:=m.pre.mv.dk m.pre.tr;rw[fk hgd hkk];simp only[cD,Prod.mk.injEq,and_true];have hi:((mvD (aB a.dir f1.aa) (aB b.dir f1.aa) a.name).bT b.name x.ino).ino=a.dir:=by
      show(mvD _ _ _).ino=_;rw[l8,m.pre.hb,hab]
     have he:b9 (ns.getLast hns) ((mvD (aB a.dir f1.aa) (aB b.dir f1.aa) a.name).bT b.name x.ino).entries=0:=by
      show b9 _ (fS ⟨b.name,x.ino⟩ (mvD _ _ _).entries)=_;rw[nN,if_neg (by rw[hnm];exact fun e=>p.diff ⟨hab.symm,e.symm⟩)];unfold mvD;rw[if_pos (by rw[m.pre.ha,m.pre.hb,hab])];show b9 _ (dn a.name _)=0;rw[lD,if_pos hnm.symm]
     rw[hi,he,hnm]
    ·have hgd:al s.ino g.aa=some ((aB a.dir f1.aa).b_ a.name):=by
      rw[m.find,if_neg (by rw[hs];exact m.xne.2),if_neg (by rw[hs];exact hab),if_pos hs.symm]
     have hkk:((aB a.dir f1.aa).b_ a.name).kind=2:=m.pre.mv.ent.kind m.pre.tr;rw[fk hgd hkk];simp only[cD,Prod.mk.injEq,and_true];have hi:((aB a.dir f1.aa).b_ a.name).ino=a.dir:=m.pre.ha;have he:b9 (ns.getLast hns) ((aB a.dir f1.aa).b_ a.name).entries=0:=by
      show b9 _ (dn a.name _)=0;rw[lD,if_pos hnm.symm]
     rw[hi,he,hnm]
   ·rw[iC hf hk] at hq;simp at hq
 ·rw[if_neg h0] at hq
  simp only[Prod.mk.injEq] at hq;exact absurd hq.2 h0
end
end Go.Eng
set_option linter.unusedSimpArgs false
set_option linter.unusedVariables false
set_option linter.unusedSectionVars false
namespace Go.Eng
open Go
def lu (f:Fs) (d o:Int):Bool:=xH f.aa f.aa.length d o
def oL (f:Fs) (d o:Int):Bool:=oH f.aa (f.aa.length+1) d o
def zS (ins:Fs→Int→Int→Bool) (mv:Fs→aj→aj→Fs) (f:Fs) (bM:Bool) (a b:aj):Fs×Int:=
 if b.name= [] then (f,10) else if a.ino=b.ino then (f,0) else
 if (aB a.ino f.aa).kind=2∧ins f b.dir a.ino=true then (f,9) else
 if b.ino=0 then (if (aB a.ino f.aa).kind≠2∧bM=true then (f,3) else if cS b.name=true then (mv f a b,0) else (f,9)) else
 if (aB a.ino f.aa).kind=2∧(aB b.ino f.aa).kind≠2 then (f,3) else
 if (aB a.ino f.aa).kind≠2∧(aB b.ino f.aa).kind=2 then (f,4) else
 if 0<(aB b.ino f.aa).entries.length then (f,5) else (mv f a b,0)
def cF (ins:Fs→Int→Int→Bool) (mv:Fs→aj→aj→Fs) (f:Fs) (base p q:Str):Fs×Int:=
 if (aG f base p false).2=0 then (if (aG f base p false).1.ino=0 then (f,1) else if (aG f base p false).1.name= [] then (f,10) else
  if (aG f base q false).2=0 then zS ins mv f (bx q).bM (aG f base p false).1 (aG f base q false).1 else (f,(aG f base q false).2)) else (f,(aG f base p false).2)
section
variable {f g:Fs} {base p q:Str} {a b:aj} {x:ah} {sl:Bool} {ins:Fs→Int→Int→Bool} {mv:Fs→aj→aj→Fs}
theorem BB (ins:Fs→Int→Int→Bool) (mv:Fs→aj→aj→Fs) (f:Fs) (sl:Bool) (a b:aj):
 (∃e:Int,e≠0∧∀m:Fs→aj→aj→Fs,zS ins m f sl a b=(f,e))∨(b.name≠ [] ∧a.ino=b.ino∧∀m:Fs→aj→aj→Fs,zS ins m f sl a b=(f,0))∨
 (b.name≠ [] ∧a.ino≠b.ino∧((aB a.ino f.aa).kind=2→ins f b.dir a.ino=false)∧(b.ino=0→cS b.name=true)∧(b.ino≠0→(aB b.ino f.aa).entries= [])∧∀m:Fs→aj→aj→Fs,zS ins m f sl a b=(m f a b,0)):=by
 unfold zS;by_cases h1:b.name= []
 ·exact Or.inl ⟨10,by decide,fun m=>by rw[if_pos h1]⟩
 by_cases h2:a.ino=b.ino
 ·exact Or.inr (Or.inl ⟨h1,h2,fun m=>by rw[if_neg h1,if_pos h2]⟩)
 by_cases h3:(aB a.ino f.aa).kind=2∧ins f b.dir a.ino=true
 ·exact Or.inl ⟨9,by decide,fun m=>by rw[if_neg h1,if_neg h2,if_pos h3]⟩
 have h3':(aB a.ino f.aa).kind=2→ins f b.dir a.ino=false:=fun hk=>by
  cases hi:ins f b.dir a.ino
  ·rfl
  ·exact absurd ⟨hk,hi⟩ h3
 by_cases h4:b.ino=0
 ·by_cases h5:(aB a.ino f.aa).kind≠2∧sl=true
  ·exact Or.inl ⟨3,by decide,fun m=>by rw[if_neg h1,if_neg h2,if_neg h3,if_pos h4,if_pos h5]⟩
  by_cases h6:cS b.name=true
  ·exact Or.inr (Or.inr ⟨h1,h2,h3',fun _=>h6,fun h=>absurd h4 h,fun m=>by rw[if_neg h1,if_neg h2,if_neg h3,if_pos h4,if_neg h5,if_pos h6]⟩)
  ·exact Or.inl ⟨9,by decide,fun m=>by rw[if_neg h1,if_neg h2,if_neg h3,if_pos h4,if_neg h5,if_neg h6]⟩
 by_cases h5:(aB a.ino f.aa).kind=2∧(aB b.ino f.aa).kind≠2
 ·exact Or.inl ⟨3,by decide,fun m=>by rw[if_neg h1,if_neg h2,if_neg h3,if_neg h4,if_pos h5]⟩
 by_cases h6:(aB a.ino f.aa).kind≠2∧(aB b.ino f.aa).kind=2
 ·exact Or.inl ⟨4,by decide,fun m=>by rw[if_neg h1,if_neg h2,if_neg h3,if_neg h4,if_neg h5,if_pos h6]⟩
 by_cases h7:0<(aB b.ino f.aa).entries.length
 ·exact Or.inl ⟨5,by decide,fun m=>by rw[if_neg h1,if_neg h2,if_neg h3,if_neg h4,if_neg h5,if_neg h6,if_pos h7]⟩
 ·exact Or.inr (Or.inr ⟨h1,h2,h3',fun h=>absurd h h4,fun _=>List.length_eq_zero_iff.1 (by omega),fun m=>by rw[if_neg h1,if_neg h2,if_neg h3,if_neg h4,if_neg h5,if_neg h6,if_neg h7]⟩)
theorem oU (ins:Fs→Int→Int→Bool) (mv:Fs→aj→aj→Fs) (f:Fs) (base p q:Str):
 (∃e:Int,e≠0∧∀m:Fs→aj→aj→Fs,cF ins m f base p q=(f,e))∨
 ∃a b,aG f base p false=(a,0)∧aG f base q false=(b,0)∧a.ino≠0∧a.name≠ [] ∧b.name≠ [] ∧
  ((a.ino=b.ino∧∀m:Fs→aj→aj→Fs,cF ins m f base p q=(f,0))∨
   (a.ino≠b.ino∧((aB a.ino f.aa).kind=2→ins f b.dir a.ino=false)∧(b.ino=0→cS b.name=true)∧(b.ino≠0→(aB b.ino f.aa).entries= [])∧∀m:Fs→aj→aj→Fs,cF ins m f base p q=(m f a b,0))):=by
 unfold cF;by_cases h1:(aG f base p false).2=0
 ·have e1:aG f base p false=((aG f base p false).1,0):=by rw[←h1]
  generalize (aG f base p false).1=a at*;by_cases h2:a.ino=0
  ·exact Or.inl ⟨1,by decide,fun m=>by rw[if_pos h1,if_pos h2]⟩
  by_cases h3:a.name= []
  ·exact Or.inl ⟨10,by decide,fun m=>by rw[if_pos h1,if_neg h2,if_pos h3]⟩
  by_cases h4:(aG f base q false).2=0
  ·have e2:aG f base q false=((aG f base q false).1,0):=by rw[←h4]
   generalize (aG f base q false).1=b at*;rcases BB ins mv f (bx q).bM a b with⟨e,he,h5⟩ |⟨b1,b2,h5⟩ |⟨b1,b2,b3,b4,b6,h5⟩
   ·exact Or.inl ⟨e,he,fun m=>by rw[if_pos h1,if_neg h2,if_neg h3,if_pos h4];exact h5 m⟩
   ·exact Or.inr ⟨a,b,e1,e2,h2,h3,b1,Or.inl ⟨b2,fun m=>by rw[if_pos h1,if_neg h2,if_neg h3,if_pos h4];exact h5 m⟩⟩
   ·exact Or.inr ⟨a,b,e1,e2,h2,h3,b1,Or.inr ⟨b2,b3,b4,b6,fun m=>by rw[if_pos h1,if_neg h2,if_neg h3,if_pos h4];exact h5 m⟩⟩
  ·exact Or.inl ⟨(aG f base q false).2,h4,fun m=>by rw[if_pos h1,if_neg h2,if_neg h3,if_neg h4]⟩
 ·exact Or.inl ⟨(aG f base p false).2,h1,fun m=>by rw[if_neg h1]⟩
theorem GP (w:WF f) {s:aj} {fol:Bool} (h:Gd f fol s) (h0:s.ino≠0):∃x,al s.ino f.aa=some x:=by
 rcases h with⟨_,_,d,hd,_⟩ |⟨_,d,hd,_,hi,_⟩
 ·exact⟨d,hd⟩
 ·have:=gA w (aN hd).1 s.name
  rw[←hi] at this;exact Option.isSome_iff_exists.1 (this.resolve_left h0)
theorem aei (ht:Tree f) (w:WS f) (h1:aG f base p false=(a,0)) (h2:aG f base q false=(b,0)) (h3:a.ino≠0) (h4:a.name≠ []) (h5:b.name≠ []) (h6:a.ino≠b.ino) (h7:(aB a.ino f.aa).kind=2→lu f b.dir a.ino=false) (h8:b.ino=0→cS b.name=true) (h9:b.ino≠0→(aB b.ino f.aa).entries= []):∃x,yT f a b x:=by
 have ga:=(fP w base p false).1 (by rw[h1]);have gb:=(fP w base q false).1 (by rw[h2]);rw[h1] at ga;rw[h2] at gb;obtain⟨x,hx⟩:=GP w.wf ga h3;refine⟨x,ga,h4,hx,gb,h5,h6,fun hk ⟨m,hm⟩=> ?_,fun y hy=> ?_,h8⟩
 ·obtain⟨d2,b1,b2,_⟩:=q7 gb h5
  have:=h7 (by rw[ba hx];exact hk);unfold lu at this;rw[(BA ht b1 b2).1,lU.2 ⟨m,hm⟩] at this;cases this
 ·have hb0:b.ino≠0:=fun e=>by rw[e,w.wf.zero] at hy;cases hy
  have:=h9 hb0;rwa[ba hy] at this
theorem Jw (ht:Tree f) (w:WS f) (m:Fs→aj→aj→Fs):cF oL m f base p q=cF lu m f base p q:=by
 unfold cF;by_cases h1:(aG f base p false).2=0
 ·rw[if_pos h1,if_pos h1]
  by_cases h4:(aG f base q false).2=0
  ·rw[if_pos h4,if_pos h4]
   have gb:=(fP w base q false).1 h4;unfold zS;by_cases h5:(aG f base q false).1.name= []
   ·rw[if_pos h5,if_pos h5]
   ·obtain⟨d2,b1,b2,_⟩:=q7 gb h5
    unfold lu oL;rw[(BA ht b1 b2).1,(BA ht b1 b2).2]
  ·rw[if_neg h4,if_neg h4]
 ·rw[if_neg h1,if_neg h1]
structure JD (f:Fs) (n:Nat) (base p q:Str) (a b:aj) (x:ah) (e:Entry) (g:Fs):Prop where
 sp:aG f base p false=(a,0)
 sq:aG f base q false=(b,0)
 ok:yT f a b x
 mv:m6 f a b x n (mvB db f b) e g
theorem ze {n:Nat} (ht:Tree f) (hb:Bd n f) (hn:n≤9000):
 (∃e:Int,e≠0∧cF lu eV f base p q=(f,e)∧cF oL j9 f base p q=(f,e))∨
 (cF lu eV f base p q=(f,0)∧cF oL j9 f base p q=(f,0)∧∃a b,aG f base p false=(a,0)∧aG f base q false=(b,0)∧a.ino=b.ino)∨
 ∃g a b x e,cF lu eV f base p q=(g,0)∧cF oL j9 f base p q=(g,0)∧JD f n base p q a b x e g:=by
 have ew:=oK ht hb (by omega);rw[Jw ht ew.ws j9];rcases oU lu eV f base p q with⟨e,he,h⟩ |⟨a,b,h1,h2,h3,h4,h5,⟨h6,h⟩ |⟨h6,h7,h8,h9,h⟩⟩
 ·exact Or.inl ⟨e,he,h _,h _⟩
 ·exact Or.inr (Or.inl ⟨h _,h _,a,b,h1,h2,h6⟩)
 ·obtain⟨x,hx⟩:=aei ht ew.ws h1 h2 h3 h4 h5 h6 h7 h8 h9
  obtain⟨e,m,m2⟩:=D9 ht hb hn hx;exact Or.inr (Or.inr ⟨eV f a b,a,b,x,e,h _,by rw[h,m2],h1,h2,hx,m⟩)
theorem v7 {n:Nat} (ht:Tree f) (hb:Bd n f) (hn:n≤9000):Tree (cF lu eV f base p q).1∧Bd (n+1) (cF lu eV f base p q).1∧cF oL j9 f base p q=cF lu eV f base p q∧((cF lu eV f base p q).2≠0→(cF lu eV f base p q).1=f):=by
 rcases ze (base:=base) (p:=p) (q:=q) ht hb hn with⟨e,he,h1,h2⟩ |⟨h1,h2,_⟩ |⟨g,a,b,x,e,h1,h2,r⟩
 ·rw[h1,h2];exact⟨ht,hb.mono (by omega),rfl,fun _=>rfl⟩
 ·rw[h1,h2];exact⟨ht,hb.mono (by omega),rfl,fun _=>rfl⟩
 ·rw[h1,h2];exact⟨r.mv.tr,r.mv.bd,rfl,fun h=>absurd rfl h⟩
end
end Go.Eng
set_option linter.unusedVariables false
set_option maxRecDepth 100000
namespace Go.Eng
open Go
end Go.Eng
set_option linter.unusedSimpArgs false
set_option linter.unusedVariables false
set_option linter.unusedSectionVars false
namespace Go.Eng
open Go
structure Sr (n:Nat) (f:Fs):Prop where
 sort:cK f.aa
 es:∀x∈f.aa,fx x.entries
 len:f.aa.length≤n
 en:∀x∈f.aa,x.entries.length≤n
section
variable {f g:Fs} {base p q:Str} {a b s:aj} {x y:ah} {n:Nat} {i:Int}
theorem Ez.sr (z:Ez f):Sr 10000 f:=⟨z.ws.wf.sort,fun x hx=>z.ws.wf.CI hx,z.lil.len,z.lil.dg⟩
theorem Sr.get (h:Sr n f) (k:Int):fx (aB k f.aa).entries∧(aB k f.aa).entries.length≤n:=by
 cases hf:al k f.aa with
 |none=>rw[cW hf];exact⟨List.Pairwise.nil,by simp [eN]⟩
 |some x=>rw[ba hf];exact⟨h.es x (aN hf).1,h.en x (aN hf).1⟩
theorem Sr.set (h:Sr n f) (hs:fx y.entries) (hl:y.entries.length≤n+1):Sr (n+1) (f.set y):=by
 refine⟨kc h.sort y,fun x hx=> ?_,by have:= @jz f y;have:=h.len;omega,fun x hx=> ?_⟩
 ·rcases fl.1 hx with rfl|⟨hx,_⟩
  ·exact hs
  ·exact h.es x hx
 ·rcases fl.1 hx with rfl|⟨hx,_⟩
  ·exact hl
  ·have:=h.en x hx;omega
theorem Sr.drop (h:Sr n f) (k:Int):Sr n (f.drop k):=by
 refine⟨Di h.sort k,fun x hx=>h.es x (gN.1 hx).1, ?_,fun x hx=>h.en x (gN.1 hx).1⟩;have h1:(ij k f.aa).length≤f.aa.length:=ek;have:=h.len;show(ij k f.aa).length≤n;omega
theorem Sr.mono (h:Sr n f) {m:Nat} (hm:n≤m):Sr m f:=⟨h.sort,h.es,by have:=h.len;omega,fun x hx=>by have:=h.en x hx;omega⟩
theorem Sr.rem (h:Sr n f) (k:Int) (m:Str):Sr (n+1) (f.set ((aB k f.aa).b_ m)):=by
 have:=h.get k;exact h.set (iG this.1) (by have:=n_ m (aB k f.aa).entries;show(dn m (aB k f.aa).entries).length≤_;omega)
theorem Sr.add (h:Sr n f) (k:Int) (m:Str) (i:Int):Sr (n+1) (f.set ((aB k f.aa).bT m i)):=by
 have:=h.get k;exact h.set (oq loS this.1) (by have:=pC ⟨m,i⟩ (aB k f.aa).entries;show(fS ⟨m,i⟩ (aB k f.aa).entries).length≤_;omega)
theorem Sr.unn (h:Sr n f) (s:aj):Sr (n+2) (db f s):=by
 have h1:=h.rem s.dir s.name;have h2:=h1.get s.ino;unfold db;split
 ·exact(h1.drop _).mono (by omega)
 ·exact h1.set h2.1 (by show(aB s.ino _).entries.length≤_;omega)
theorem Sr.mvB (h:Sr n f) (b:aj):Sr (n+2) (mvB db f b):=by
 unfold Go.Eng.mvB;split
 ·exact h.unn b
 ·exact h.mono (by omega)
theorem Gp (h:Sr n f) (s:aj):(ik f s).aa.length≤n+2∧∀x∈(ik f s).aa,x.entries.length≤n+2:=by
 have h1:=h.rem s.dir s.name;have h2:=h.get s.ino;unfold ik;split
 ·have:=(h1.drop s.ino).mono (show n+1≤n+2 by omega)
  exact⟨this.len,this.en⟩
 ·have:=h1.set (y:=(aB s.ino f.aa).fa ((aB s.ino f.aa).aL - 1)) h2.1 (by show(aB s.ino _).entries.length≤_;omega)
  exact⟨this.len,this.en⟩
theorem Cw {N:Nat} (h:∀x∈f.aa,x.entries.length≤N) (k:Int):(aB k f.aa).entries.length≤N:=by
 cases hf:al k f.aa with
 |none=>rw[cW hf];simp [eN]
 |some x=>rw[ba hf];exact h x (aN hf).1
theorem CW (h:Sr n f) (hn:n≤20000):
 (ai (bz f a.dir) fun y2=>ai (eG y2.1.entries a.name) fun y3=>ai (bG f (⟨y2.1.ino,y2.1.kind,y2.1.aL,y2.1.data,y2.1.parent,y3⟩:ah)) fun y4=>ai (bz y4 b.dir) fun y5=>ai (dE y5.1.entries b.name a.ino) fun y6=>ai (bG y4 (⟨y5.1.ino,y5.1.kind,y5.1.aL,y5.1.data,y5.1.parent,y6⟩:ah)) fun y7=>ai (bz y7 a.ino) fun y8=>
  ae (y8.1.kind==(2:Int)) (ai (bG y7 (⟨y8.1.ino,y8.1.kind,y8.1.aL,y8.1.data,b.dir,y8.1.entries⟩:ah)) fun y9=>some y9) (ai (bG y7 y8.1) fun y10=>some y10))=some (mvE (mv3 f a b) a b):=by
 have g1:=h.get a.dir;have h1:=h.rem a.dir a.name;have g2:=h1.get b.dir;have h2:=h1.add b.dir b.name a.ino;have l0:=h.len;have l1:=h1.len;have l2:=h2.len;rw[fT h.sort (by omega),af,lW g1.1 (by first|omega|(simp only;omega)),af];have e1:(⟨(aB a.dir f.aa).ino,(aB a.dir f.aa).kind,(aB a.dir f.aa).aL,(aB a.dir f.aa).data,(aB a.dir f.aa).parent,dn a.name (aB a.dir f.aa).entries⟩:ah)=(aB a.dir f.aa).b_ a.name:=rfl;simp only;rw[e1,cU h.sort (by omega),af,fT h1.sort (by omega),af,lC g2.1 (by first|omega|(simp only;omega)),af];have e2:∀d:ah,(⟨d.ino,d.kind,d.aL,d.data,d.parent,fS ⟨b.name,a.ino⟩ d.entries⟩:ah)=d.bT b.name a.ino:=fun _=>rfl
 simp only;rw[e2,cU h1.sort (by omega),af,fT h2.sort (by omega),af];unfold mvE mv3;simp only;rw[cU h2.sort (by omega),cU h2.sort (by omega),eX];by_cases hk:(aB a.ino ((f.set ((aB a.dir f.aa).b_ a.name)).set ((aB b.dir (f.set ((aB a.dir f.aa).b_ a.name)).aa).bT b.name a.ino)).aa).kind=2
 ·rw[aE (by simp [hk]),if_pos hk];rfl
 ·rw[aR (by simp [hk]),if_neg hk];rfl
theorem yz (hl:f.aa.length≤20000) (he:∀x∈f.aa,x.entries.length≤20000):
 (ai (bu f a.dir) fun y2=>ai (dH y2.1.entries a.name) fun y3=>ai (bN f (⟨y2.1.ino,y2.1.kind,y2.1.aL,y2.1.data,y2.1.parent,y3⟩:ah)) fun y4=>ai (bu y4 b.dir) fun y5=>ai (eF y5.1.entries b.name a.ino) fun y6=>ai (bN y4 (⟨y5.1.ino,y5.1.kind,y5.1.aL,y5.1.data,y5.1.parent,y6⟩:ah)) fun y7=>ai (bu y7 a.ino) fun y8=>
  ae (y8.1.kind==(2:Int)) (ai (bN y7 (⟨y8.1.ino,y8.1.kind,y8.1.aL,y8.1.data,b.dir,y8.1.entries⟩:ah)) fun y9=>some y9) (some y7))=some (EW (mv3 f a b) a b):=by
 have g1:=Cw he a.dir;have d1:=n_ a.name (aB a.dir f.aa).entries;have l1:= @jz f ((aB a.dir f.aa).b_ a.name);have he1:=FM (f:=f) (x:=(aB a.dir f.aa).b_ a.name) he (by show(dn a.name (aB a.dir f.aa).entries).length≤_;omega);have g2:=Cw he1 b.dir;have l2:= @jz (f.set ((aB a.dir f.aa).b_ a.name)) ((aB b.dir (f.set ((aB a.dir f.aa).b_ a.name)).aa).bT b.name a.ino);rw[fe (by omega),af,iD (by first|omega|(simp only;omega)),af];have e1:(⟨(aB a.dir f.aa).ino,(aB a.dir f.aa).kind,(aB a.dir f.aa).aL,(aB a.dir f.aa).data,(aB a.dir f.aa).parent,dn a.name (aB a.dir f.aa).entries⟩:ah)=(aB a.dir f.aa).b_ a.name:=rfl;simp only;rw[e1,dq (by omega),af,fe (by omega),af,lr (by first|omega|(simp only;omega)),af];have e2:∀d:ah,(⟨d.ino,d.kind,d.aL,d.data,d.parent,fS ⟨b.name,a.ino⟩ d.entries⟩:ah)=d.bT b.name a.ino:=fun _=>rfl
 simp only;rw[e2,dq (by omega),af,fe (by omega),af];unfold EW mv3;simp only;rw[dq (by omega),eX];by_cases hk:(aB a.ino ((f.set ((aB a.dir f.aa).b_ a.name)).set ((aB b.dir (f.set ((aB a.dir f.aa).b_ a.name)).aa).bT b.name a.ino)).aa).kind=2
 ·rw[aE (by simp [hk]),if_pos hk];rfl
 ·rw[aR (by simp [hk]),if_neg hk]
theorem xW (z:Ez f):ir f a b=some (eV f a b):=by
 unfold ir eV;rw[dp];by_cases h0:b.ino=0
 ·rw[aR (by simp [h0]),CW z.sr (by omega)]
  unfold mvB;rw[if_neg (fun h=>h h0)]
 ·have h1:=z.sr.unn b
  rw[aE (by simp [h0]),kh z,af,CW h1 (by omega)];unfold mvB;rw[if_pos h0]
theorem vp (z:Ez f):cI f a b=some (j9 f a b):=by
 unfold cI j9;rw[dp];by_cases h0:b.ino=0
 ·rw[aR (by simp [h0]),yz (by have:=z.lil.len;omega) (fun x hx=>by have:=z.lil.dg x hx;omega)]
  unfold mvB;rw[if_neg (fun h=>h h0)]
 ·have h1:=Gp z.sr b
  rw[aE (by simp [h0]),jn z,af,yz (by omega) (fun x hx=>by have:=h1.2 x hx;omega)];unfold mvB;rw[if_pos h0]
theorem rS (z:Ez f) {o:Int}:∀(m n:Nat) (d:Int) (i:Nat),i+m=f.aa.length→m<n→eU o false (List.length f.aa:Int) f (fun z9=>some z9) n d (i:Int)=some (xH f.aa m d o)
 |0,0,d,i,_,h=>by omega
 |m+1,0,d,i,_,h=>by omega
 |0,n+1,d,i,hi,h=>by
  have hi':f.aa.length≤i:=by omega
  simp only[eU];rw[b7 hi'];rfl
 |m+1,n+1,d,i,hi,h=>by
  have hl:=z.lil.len;have hi':i<f.aa.length:=by omega
  simp only[eU];rw[dec_lt hi',aq,z.ws.wf.get,af,eX,eX,aX (by omega),xH];simp only;rw[rS z m n _ (i+1) (by omega) (by omega)];by_cases h1:d=o
  ·rw[aE (by simp [h1]),if_pos h1]
  ·rw[aR (by simp [h1]),if_neg h1]
   by_cases h2:d=1
   ·rw[aE (by simp [h2]),if_pos h2]
   ·rw[aR (by simp [h2]),if_neg h2]
theorem ux (z:Ez f) {d o:Int}:kF f d o=some (lu f d o):=by
 unfold kF lu;have hl:=z.lil.len;exact rS z f.aa.length bo d 0 (by omega) (hY (by omega))
theorem p5 (z:Ez f) {o:Int}:∀(m n:Nat) (d:Int) (i:Nat),i+m=f.aa.length+1→m<n→eg o f (some true) (some false) n d (i:Int)=some (oH f.aa m d o)
 |0,0,d,i,_,h=>by omega
 |m+1,0,d,i,_,h=>by omega
 |0,n+1,d,i,hi,h=>by
  simp only[eg];rw[aR (decide_eq_false (by omega))];rfl
 |m+1,n+1,d,i,hi,h=>by
  have hl:=z.lil.len;simp only[eg];rw[aE (decide_eq_true (by omega)),eX,z.ws.wf.m8,af,aX (by omega),oH];simp only;rw[p5 z m n _ (i+1) (by omega) (by omega)];by_cases h1:d=o
  ·rw[aE (by simp [h1]),if_pos h1]
  ·rw[aR (by simp [h1]),if_neg h1]
theorem sy (z:Ez f) {d o:Int}:jB f d o=some (oL f d o):=by
 unfold jB oL;have hl:=z.lil.len;exact p5 z (f.aa.length+1) bo d 0 (by omega) (hY (by omega))
end
end Go.Eng
set_option linter.unusedSimpArgs false
set_option linter.unusedVariables false
set_option linter.unusedSectionVars false
namespace Go.Eng
open Go
section
variable {f g:Fs} {base p q:Str} {a b s:aj} {x y:ah} {n:Nat} {i:Int} {e:Entry}
theorem wO (x y:ah):lY x y=some (if x.kind=2∧y.kind≠2 then 3 else if x.kind≠2∧y.kind=2 then 4 else if 0<y.entries.length then 5 else 0):=by
 unfold lY;rw[eX,eX,dp,dp];by_cases h1:x.kind=2
 ·by_cases h2:y.kind=2
  ·by_cases h3:0<y.entries.length
   ·have h4:decide ((List.length y.entries:Int)>0)=true:=decide_eq_true (by omega)
    simp [h1,h2,h3,h4,ae]
   ·have h4:decide ((List.length y.entries:Int)>0)=false:=decide_eq_false (by omega)
    simp [h1,h2,h3,h4,ae]
  ·simp [h1,h2,ae]
 ·by_cases h2:y.kind=2
  ·simp [h1,h2,ae]
  ·by_cases h3:0<y.entries.length
   ·have h4:decide ((List.length y.entries:Int)>0)=true:=decide_eq_true (by omega)
    simp [h1,h2,h3,h4,ae]
   ·have h4:decide ((List.length y.entries:Int)>0)=false:=decide_eq_false (by omega)
    simp [h1,h2,h3,h4,ae]
theorem vc {nm:Str} (hn:nm.length≤1099511627775) (hq:q.length≤1073741823):j4 x nm q=some (if x.kind≠2∧(bx q).bM=true then 3 else if cS nm=true then 0 else 9):=by
 unfold j4;rw[dp,fR hq,k6 hn];simp only[af];by_cases h1:x.kind=2
 ·cases h2:cS nm<;>simp [h1,ae]
 ·cases h3:(bx q).bM
  ·cases h2:cS nm<;>simp [h1,ae]
  ·simp [h1,ae]
theorem uM (z:Ez f) (hb:base.length≤8388608) (hp:p.length≤1073741823) (hq:q.length≤1073741823):kL f base p q=some (cF lu eV f base p q):=by
 unfold kL cF zS;rw[eA z.ws hb hp,af,z.ws.wf.get,af,eA z.ws hb hq,af,z.ws.wf.get,af,ux z,wO,vc (by have:=jc f base q false;omega) hq,xW z];simp only[af,eX,dp,qk];by_cases h1:(aG f base p false).2=0
 ·rw[aR (by simp [h1]),if_pos h1]
  have hA:=nq z.ws h1;generalize (aG f base p false).1=a at*;by_cases h2:a.ino=0
  ·rw[if_pos h2,h2,z.ws.wf.zero];rfl
  have hA:=hA.resolve_left h2;rw[hA,if_neg h2,Bool.not_true,ax];by_cases h3:a.name= []
  ·rw[aE (by simp [h3]),if_pos h3]
  rw[aR (by simp [h3]),if_neg h3];by_cases h4:(aG f base q false).2=0
  ·rw[aR (by simp [h4]),if_pos h4]
   have hB:=nq z.ws h4;generalize (aG f base q false).1=b at*;by_cases h5:b.name= []
   ·rw[aE (by simp [h5]),if_pos h5]
   rw[aR (by simp [h5]),if_neg h5];by_cases h6:a.ino=b.ino
   ·rw[aE (by simp [h6]),if_pos h6]
   rw[aR (by simp [h6]),if_neg h6];have tail:(ae (al b.ino f.aa).isSome (ae (!decide ((if (aB a.ino f.aa).kind=2∧(aB b.ino f.aa).kind≠2 then (3:Int) else if (aB a.ino f.aa).kind≠2∧(aB b.ino f.aa).kind=2 then 4 else if 0<(aB b.ino f.aa).entries.length then 5 else 0)=0)) (some (f,(if (aB a.ino f.aa).kind=2∧(aB b.ino f.aa).kind≠2 then (3:Int) else if (aB a.ino f.aa).kind≠2∧(aB b.ino f.aa).kind=2 then 4 else if 0<(aB b.ino f.aa).entries.length then 5 else 0))) (some (eV f a b,0)))
    (ae (!decide ((if (aB a.ino f.aa).kind≠2∧(bx q).bM=true then (3:Int) else if cS b.name=true then 0 else 9)=0)) (some (f,(if (aB a.ino f.aa).kind≠2∧(bx q).bM=true then (3:Int) else if cS b.name=true then 0 else 9))) (some (eV f a b,0))))=
    some (if b.ino=0 then (if (aB a.ino f.aa).kind≠2∧(bx q).bM=true then (f,3) else if cS b.name=true then (eV f a b,0) else (f,9)) else
     if (aB a.ino f.aa).kind=2∧(aB b.ino f.aa).kind≠2 then (f,3) else if (aB a.ino f.aa).kind≠2∧(aB b.ino f.aa).kind=2 then (f,4) else if 0<(aB b.ino f.aa).entries.length then (f,5) else (eV f a b,0)):=by
    by_cases h7:b.ino=0
    ·have h8:(al b.ino f.aa).isSome=false:=by rw[h7,z.ws.wf.zero];rfl
     rw[h8,if_pos h7,ax];by_cases h9:(aB a.ino f.aa).kind≠2∧(bx q).bM=true
     ·rw[if_pos h9,if_pos h9];rfl
     rw[if_neg h9,if_neg h9];by_cases h10:cS b.name=true
     ·rw[if_pos h10,if_pos h10];rfl
     ·rw[if_neg h10,if_neg h10];rfl
    ·have h8:=hB.resolve_left h7
     rw[h8,if_neg h7,aq];by_cases h9:(aB a.ino f.aa).kind=2∧(aB b.ino f.aa).kind≠2
     ·rw[if_pos h9,if_pos h9];rfl
     rw[if_neg h9,if_neg h9];by_cases h10:(aB a.ino f.aa).kind≠2∧(aB b.ino f.aa).kind=2
     ·rw[if_pos h10,if_pos h10];rfl
     rw[if_neg h10,if_neg h10];by_cases h11:0<(aB b.ino f.aa).entries.length
     ·rw[if_pos h11,if_pos h11];rfl
     ·rw[if_neg h11,if_neg h11];rfl
   rw[tail];by_cases h12:(aB a.ino f.aa).kind=2
   ·rw[aE (by simp [h12])]
    cases h13:lu f b.dir a.ino
    ·rw[ax,if_neg (show¬((aB a.ino f.aa).kind=2∧false=true) from fun h=>by cases h.2)]
    ·rw[aq,if_pos ⟨h12,rfl⟩]
   ·rw[aR (by simp [h12]),if_neg (show¬((aB a.ino f.aa).kind=2∧lu f b.dir a.ino=true) from fun h=>h12 h.1)]
  ·rw[aE (by simp [h4]),if_neg h4]
 ·rw[aE (by simp [h1]),if_neg h1]
theorem sx (z:Ez f) (hb:base.length≤8388608) (hp:p.length≤1073741823) (hq:q.length≤1073741823):jN f base p q=some (cF oL j9 f base p q):=by
 unfold jN cF zS;rw[dI z.ws hb hp,af,dI z.ws hb hq,af,z.ws.wf.m8,af,sy z,gm hq,ie (by have:=jc f base q false;omega),vp z,z.ws.wf.m8];simp only[af,eX,dp,qk];by_cases h1:(aG f base p false).2=0
 ·rw[aR (by simp [h1]),if_pos h1]
  generalize (aG f base p false).1=a at*;by_cases h2:a.ino=0
  ·rw[aE (by simp [h2]),if_pos h2]
  rw[aR (by simp [h2]),if_neg h2];by_cases h3:a.name= []
  ·rw[aE (by simp [h3]),if_pos h3]
  rw[aR (by simp [h3]),if_neg h3];by_cases h4:(aG f base q false).2=0
  ·rw[aR (by simp [h4]),if_pos h4]
   generalize (aG f base q false).1=b at*;by_cases h5:b.name= []
   ·rw[aE (by simp [h5]),if_pos h5]
   rw[aR (by simp [h5]),if_neg h5];by_cases h6:a.ino=b.ino
   ·rw[aE (by simp [h6]),if_pos h6]
   rw[aR (by simp [h6]),if_neg h6];have h7:decide ((List.length (aB b.ino f.aa).entries:Int)>0)=decide (0<(aB b.ino f.aa).entries.length):=by
    rw[decide_eq_decide];omega
   rw[h7];by_cases k1:(aB a.ino f.aa).kind=2
   ·simp only[k1,decide_true,aq,ne_eq,not_true,false_and,if_false,true_and,Bool.not_true,ax]
    cases oL f b.dir a.ino
    ·rw[ax,if_neg (by simp)]
     by_cases k2:b.ino=0
     ·simp only[k2,decide_true,aq,if_true]
      cases (bx q).bM<;>cases cS b.name<;>rfl
     ·simp only[k2,decide_false,ax,if_false]
      by_cases k3:(aB b.ino f.aa).kind=2
      ·simp only[k3,decide_true,Bool.not_true,ax,not_true,if_false,aq]
       by_cases k4:0<(aB b.ino f.aa).entries.length
       ·simp only[k4,decide_true,aq,if_true]
       ·simp only[k4,decide_false,ax,if_false]
      ·simp only[k3,decide_false,Bool.not_false,aq,not_false_eq_true,if_true]
    ·rfl
   ·simp only[k1,decide_false,ax,ne_eq,not_false_eq_true,true_and,false_and,if_false,Bool.not_false,aq]
    by_cases k2:b.ino=0
    ·simp only[k2,decide_true,aq,if_true]
     cases (bx q).bM
     ·cases cS b.name<;>rfl
     ·rfl
    ·simp only[k2,decide_false,ax,if_false]
     by_cases k3:(aB b.ino f.aa).kind=2
     ·simp only[k3,decide_true,aq,if_true]
     ·simp only[k3,decide_false,ax,if_false]
      by_cases k4:0<(aB b.ino f.aa).entries.length
      ·simp only[k4,decide_true,aq,if_true]
      ·simp only[k4,decide_false,ax,if_false]
  ·rw[aE (by simp [h4]),if_neg h4]
 ·rw[aE (by simp [h1]),if_neg h1]
end
end Go.Eng
set_option linter.unusedSimpArgs false
set_option linter.unusedVariables false
set_option linter.unusedSectionVars false
namespace Go.Eng
open Go
structure Gq (n:Nat) (f:Fs):Prop where
 tr:Tree f
 bd:Bd n f
 nx:f.next≤549755813888+n
section
variable {f g:Fs} {base p q t d:Str} {n m:Nat} {i:Int} {x:ah} {s:aj}
theorem Gq.ew (h:Gq n f) (hn:n≤9000):Ew f:=oK h.tr h.bd (by omega)
theorem Gq.ez (h:Gq n f) (hn:n≤9000):Ez f:=(h.ew hn).ez
theorem Gq.mono (h:Gq n f) (hm:n≤m):Gq m f:=⟨h.tr,h.bd.mono hm,by have:=h.nx;omega⟩
theorem BJ (h:Gq n f) (hn:n≤8999) {k r:Int} (hk:tT k d) (hd:d.length≤10000000) (hr:k≠2→r≠0):Gq (n+1) (jC f base p k d r).1:=by
 rcases Classical.em ((jC f base p k d r).2=0) with h0|h0
 ·have hnx:=h.nx
  obtain⟨s,_,_,h1,m,_⟩:=E2 (n:=n) h.tr h.bd (by omega) hk hd (by omega) hr h0;rw[h1];exact⟨m.tr,m.bd,by have:=m.next;show(uc f s k d).next≤_;omega⟩
 ·rw[pz h0];exact h.mono (by omega)
theorem Qz (h:Gq n f) (hn:n≤8999):Gq (n+1) (qt f base t p).1:=by
 rcases Classical.em ((qt f base t p).2=0) with h0|h0
 ·obtain⟨h1,h2⟩:=Jb h0
  rw[h1];refine BJ h hn h2 ?_ (fun _=>by decide);rcases h2 with h|⟨h,_⟩ |⟨_,_,h,_⟩
  ·cases h
  ·cases h
  ·omega
 ·rw[yH h0];exact h.mono (by omega)
theorem Ii (h:Gq n f) (hx:al i f.aa=some x) (hk:x.kind=1) (hd:d.length≤10000000):Gq n (nO f i d).1:=by
 have hi:=(aN hx).2;unfold nO;rw[ba hx];cases hfit:dZ f 0 ((d.length:Int) - (x.data.length:Int))
 ·exact h
 ·rw[if_pos rfl]
  have hxx:al x.ino f.aa=some x:=by rw[hi];exact hx
  exact⟨h.tr.J2 hxx hk hfit,h.bd.put (z:=x) h.tr.sort hxx (Nat.le_refl _) (h.bd.find hx).1 hd,h.nx⟩
theorem F8 (h:(nO f i d).2≠0):(nO f i d).1=f:=by
 unfold nO at h⊢;split
 ·rename_i h1;rw[if_pos h1] at h;exact absurd rfl h
 ·rfl
theorem FL (h:Gq n f) (hn:n≤9000) (hd:d.length≤10000000):Gq n (jr f base p d).1∧((jr f base p d).2≠0→(jr f base p d).1=f):=by
 have e:=h.ew hn;by_cases h0:(jf f base p).2=0
 ·obtain⟨x,q1,q2,q3,_⟩:=A4 e.ws e.tr.kind h0
  have hw:jr f base p d=nO f x.ino d:=by unfold jr;rw[q1,if_pos rfl]
  rw[hw];exact⟨Ii h q2 q3 hd,F8⟩
 ·have hw:jr f base p d=(f,(jf f base p).2):=by unfold jr;rw[if_neg h0]
  rw[hw];exact⟨h,fun _=>rfl⟩
theorem qU {s:aj}:(db f s).next=f.next:=by unfold db;split<;>rfl
theorem BS {a b:aj}:(eV f a b).next=f.next:=by
 unfold eV mvE mv3;show(mvB db f b).next=f.next;unfold mvB;split
 ·exact qU
 ·rfl
theorem H6 (h:Gq n f) (hn:n≤9000):Gq (n+1) (da gv f base p q).1:=by
 have h1:=J3 (base:=base) (p:=p) (q:=q) h.tr h.bd hn;refine⟨h1.1,h1.2, ?_⟩;have:=h.nx;rcases Classical.em ((da gv f base p q).2=0) with h0|h0
 ·obtain⟨x,_,_,_,_,_,_,_,h2⟩:=qA h0
  rw[h2];show f.next≤_;omega
 ·rw[mF h0];omega
theorem C9 (h:Gq n f) (hn:n≤9000):Gq (n+1) (cw db f base p).1:=by
 have h1:=D8 (base:=base) (p:=p) h.tr h.bd hn;refine⟨h1.1,h1.2.mono (by omega), ?_⟩;have:=h.nx;rcases Classical.em ((cw db f base p).2=0) with h0|h0
 ·obtain⟨x,_,_,_,h2⟩:=ug h0
  rw[h2];show(db f _).next≤_;rw[qU];omega
 ·rw[nw h0];omega
theorem Fw (h:Gq n f) (hn:n≤9000):Gq (n+1) (dh db f base p).1:=by
 have h1:=EO (base:=base) (p:=p) h.tr h.bd hn;refine⟨h1.1,h1.2.mono (by omega), ?_⟩;have:=h.nx;rcases Classical.em ((dh db f base p).2=0) with h0|h0
 ·obtain⟨x,_,_,_,_,h2⟩:=wK h0
  rw[h2];show(db f _).next≤_;rw[qU];omega
 ·rw[o7 h0];omega
theorem DB (h:Gq n f) (hn:n≤9000):Gq (n+1) (cF lu eV f base p q).1:=by
 have h1:=v7 (base:=base) (p:=p) (q:=q) h.tr h.bd hn;refine⟨h1.1,h1.2.1, ?_⟩;have:=h.nx;rcases oU lu eV f base p q with⟨e,_,h2⟩ |⟨a,b,_,_,_,_,_,⟨_,h2⟩ |⟨_,_,_,_,h2⟩⟩
 ·rw[h2];show f.next≤_;omega
 ·rw[h2];show f.next≤_;omega
 ·rw[h2];show(eV f a b).next≤_;rw[BS];omega
def doP (f:Fs) (base:Str) (c:bZ):Fs×Int:=
 if c.op=1 then jC f base c.a 2 [] 0 else if c.op=2 then jC f base c.a 1 c.data 4 else if c.op=3 then jr f base c.a c.data else if c.op=4 then qt f base c.data c.a else
 if c.op=5 then da gv f base c.a c.b else if c.op=6 then cw db f base c.a else if c.op=7 then dh db f base c.a else if c.op=8 then cF lu eV f base c.a c.b else (f,9)
def SmC (c:bZ):Prop:=c.a.length≤300∧c.b.length≤300∧c.data.length≤300
theorem nC {c:bZ} (h:Gq n f) (hn:n≤8999) (hc:SmC c) (hb:base.length≤8388608):nf f base c=some (doP f base c)∧pA f base c=some (doP f base c)∧Gq (n+1) (doP f base c).1∧((doP f base c).2≠0→(doP f base c).1=f):=by
 have z:=h.ez (by omega);obtain⟨h1,h2,h3⟩:=hc;have hbd:=h.bd.mono (show n≤9000 by omega);unfold nf pA doP;by_cases c1:c.op=1
 ·rw[aE (show((1:Int)==c.op)=true by simp [c1]),aE (show(c.op==(1:Int))=true by simp [c1]),if_pos c1]
  unfold jX;rw[sd z hb (by omega),td z hb (by omega)];exact⟨rfl,rfl,BJ h hn (Or.inr (Or.inl ⟨rfl,rfl⟩)) (by simp) (fun h=>absurd rfl h),pz⟩
 rw[aR (show((1:Int)==c.op)=false by rw[beq_eq_false_iff_ne];exact fun e=>c1 e.symm),aR (show(c.op==(1:Int))=false by simp [c1]),if_neg c1];by_cases c2:c.op=2
 ·rw[aE (show((2:Int)==c.op)=true by simp [c2]),aE (show(c.op==(2:Int))=true by simp [c2]),if_pos c2]
  unfold km;rw[qx z hb (by omega) (by omega),sk z hb (by omega) (by omega)];exact⟨rfl,rfl,BJ h hn (Or.inl rfl) (by omega) (fun _=>by decide),pz⟩
 rw[aR (show((2:Int)==c.op)=false by rw[beq_eq_false_iff_ne];exact fun e=>c2 e.symm),aR (show(c.op==(2:Int))=false by simp [c2]),if_neg c2];by_cases c3:c.op=3
 ·rw[aE (show((3:Int)==c.op)=true by simp [c3]),aE (show(c.op==(3:Int))=true by simp [c3]),if_pos c3]
  unfold ks;obtain⟨w1,w2⟩:=FL (base:=base) (p:=c.a) (d:=c.data) h (by omega) (by omega);rw[vu z.ws hb (by omega) (by omega),uI z.ws hb (by omega) (by omega)];exact⟨rfl,rfl,w1.mono (by omega),w2⟩
 rw[aR (show((3:Int)==c.op)=false by rw[beq_eq_false_iff_ne];exact fun e=>c3 e.symm),aR (show(c.op==(3:Int))=false by simp [c3]),if_neg c3];by_cases c4:c.op=4
 ·rw[aE (show((4:Int)==c.op)=true by simp [c4]),aE (show(c.op==(4:Int))=true by simp [c4]),if_pos c4]
  unfold j5;rw[qe z hb (by omega),q6 z hb (by omega)];exact⟨rfl,rfl,Qz h hn,yH⟩
 rw[aR (show((4:Int)==c.op)=false by rw[beq_eq_false_iff_ne];exact fun e=>c4 e.symm),aR (show(c.op==(4:Int))=false by simp [c4]),if_neg c4];by_cases c5:c.op=5
 ·rw[aE (show((5:Int)==c.op)=true by simp [c5]),aE (show(c.op==(5:Int))=true by simp [c5]),if_pos c5]
  unfold kp;rw[xF z hb (by omega) (by omega),vB z hb (by omega) (by omega),Ga h.tr hbd];exact⟨rfl,rfl,H6 h (by omega),mF⟩
 rw[aR (show((5:Int)==c.op)=false by rw[beq_eq_false_iff_ne];exact fun e=>c5 e.symm),aR (show(c.op==(5:Int))=false by simp [c5]),if_neg c5];by_cases c6:c.op=6
 ·rw[aE (show((6:Int)==c.op)=true by simp [c6]),aE (show(c.op==(6:Int))=true by simp [c6]),if_pos c6]
  unfold j6;rw[ta z hb (by omega),r6 z hb (by omega),D1 h.tr hbd];exact⟨rfl,rfl,C9 h (by omega),nw⟩
 rw[aR (show((6:Int)==c.op)=false by rw[beq_eq_false_iff_ne];exact fun e=>c6 e.symm),aR (show(c.op==(6:Int))=false by simp [c6]),if_neg c6];by_cases c7:c.op=7
 ·rw[aE (show((7:Int)==c.op)=true by simp [c7]),aE (show(c.op==(7:Int))=true by simp [c7]),if_pos c7]
  unfold kA;rw[uZ z hb (by omega),uY z hb (by omega),Ft h.tr hbd];exact⟨rfl,rfl,Fw h (by omega),o7⟩
 rw[aR (show((7:Int)==c.op)=false by rw[beq_eq_false_iff_ne];exact fun e=>c7 e.symm),aR (show(c.op==(7:Int))=false by simp [c7]),if_neg c7];by_cases c8:c.op=8
 ·rw[aE (show((8:Int)==c.op)=true by simp [c8]),aE (show(c.op==(8:Int))=true by simp [c8]),if_pos c8]
  unfold j1;obtain⟨r1,r2,r3,r4⟩:=v7 (base:=base) (p:=c.a) (q:=c.b) h.tr h.bd (by omega);rw[uM z hb (by omega) (by omega),sx z hb (by omega) (by omega),r3];exact⟨rfl,rfl,DB h (by omega),r4⟩
 rw[aR (show((8:Int)==c.op)=false by rw[beq_eq_false_iff_ne];exact fun e=>c8 e.symm),aR (show(c.op==(8:Int))=false by simp [c8]),if_neg c8];exact⟨rfl,rfl,h.mono (by omega),fun _=>rfl⟩
def gi (base:Str):Fs→List bZ→Fs×List Int
 |f, [] =>(f, [])
 |f,c::l=>((gi base (doP f base c).1 l).1,(doP f base c).2::(gi base (doP f base c).1 l).2)
theorem yO (base:Str):∀(l k:List bZ) (f:Fs),gi base f (l++k)=((gi base (gi base f l).1 k).1,(gi base f l).2++(gi base (gi base f l).1 k).2)
 | [],k,f=>rfl
 |c::l,k,f=>by
  simp only[List.cons_append,gi];rw[yO base l k]
theorem p6 (base:Str):∀(l:List bZ) (f:Fs),(gi base f l).2.length=l.length
 | [],f=>rfl
 |c::l,f=>by simp only[gi,List.length_cons];rw[p6 base l]
theorem sB:∀(l:List bZ) (n:Nat) (f:Fs),Gq n f→n+l.length≤9000→(∀c∈l,SmC c)→base.length≤8388608→Gq (n+l.length) (gi base f l).1
 | [],n,f,h,_,_,_=>h
 |c::l,n,f,h,hn,hc,hb=>by
  simp only[List.length_cons] at hn;have h1:=(nC (base:=base) h (by omega) (hc c (by simp)) hb).2.2.1;have:=sB l (n+1) _ h1 (by omega) (fun c' h'=>hc c' (by simp [h'])) hb;simp only[gi,List.length_cons];have e:n+(l.length+1)=n+1+l.length:=by omega
  rw[e];exact this
theorem nF {l:List bZ} {R:Type} (k0:Fs→List Int→Option R) (hl:l.length≤1000) (hc:∀c∈l,SmC c) (hb:base.length≤8388608):∀(r:List bZ) (k n:Nat) (fuel:Nat) (f:Fs) (acc:List Int),l.drop k=r→k+r.length=l.length→r.length<fuel→acc.length=k→Gq n f→n+r.length≤9000→
 fW base l (List.length l:Int) k0 fuel (k:Int) f acc=k0 (gi base f r).1 (acc++(gi base f r).2)∧fX base l k0 fuel (k:Int) f acc=k0 (gi base f r).1 (acc++(gi base f r).2)
 | [],k,n,0,f,acc,_,_,h,_,_,_=>by simp at h
 |c::r,k,n,0,f,acc,_,_,h,_,_,_=>by simp at h
 | [],k,n,fuel+1,f,acc,hd,hk,hf,ha,hg,hn=>by
  simp only[List.length_nil] at hk;have:l.length≤k:=by omega
  simp only[fW,fX];rw[b7 this,ax,ax];simp [gi]
 |c::r,k,n,fuel+1,f,acc,hd,hk,hf,ha,hg,hn=>by
  simp only[List.length_cons] at hk hf hn;have hlt:k<l.length:=by omega
  obtain⟨y,hy,hdy⟩:=pL hlt;rw[hd] at hdy;obtain⟨rfl,hr⟩:=List.cons.inj hdy;obtain⟨d1,d2,d3,d4⟩:=nC (base:=base) hg (by omega) (hc c (List.mem_of_getElem? hy)) hb;obtain⟨i1,i2⟩:=nF k0 hl hc hb r (k+1) (n+1) fuel (doP f base c).1 (acc++[(doP f base c).2]) hr.symm (by omega) (by omega) (by simp [ha]) d3 (by omega);simp only[fW,fX];rw[dec_lt hlt,aq,aq,bR,aq,aq,toNat_cast,hy,af,af,d1,d2,af,af,bK (by unfold LIM;simp;omega),bK (by unfold LIM;simp;omega),aX (by omega),i1,i2];simp [gi]
theorem fZ {l:List bZ} (h:Gq n f) (hn:n+l.length≤9000) (hl:l.length≤1000) (hc:∀c∈l,SmC c) (hb:base.length≤8388608):gQ f base l=some (gi base f l)∧q4 f base l=some (gi base f l):=by
 obtain⟨h1,h2⟩:=nF (l:=l) (base:=base) (fun z13 z14=>some (z13,z14)) hl hc hb l 0 n bo f [] rfl (by simp) (hY (by omega)) rfl h hn;exact⟨h1,h2⟩
def iX (a b:Int):Fs:=⟨a,b,2,[⟨1,2,0, [],1, []⟩]⟩
theorem lF {a b:Int} (ha:1≤a) (ha2:a≤1073741824) (hb:0≤b) (hb2:b≤1073741824):Gq 1 (iX a b):=by
 have hfind:∀k,al k (iX a b).aa=if (1:Int)=k then some ⟨1,2,0, [],1, []⟩ else none:=fun k=>by
  show al k [⟨1,2,0, [],1, []⟩]=_;unfold al;rw[tN];rfl
 have cs:∀k x,al k (iX a b).aa=some x→k=1∧x=⟨1,2,0, [],1, []⟩:=fun k x hx=>by
  rw[hfind] at hx;by_cases h:(1:Int)=k
  ·rw[if_pos h] at hx;cases hx;exact⟨h.symm,rfl⟩
  ·rw[if_neg h] at hx;cases hx
 have hfc:∀k,fc k (iX a b).aa=0:=fun k=>rfl
 refine⟨pw ⟨ha,ha2⟩ ⟨hb,hb2⟩ (by show(2:Int)≤_;decide) ?_ (fun k x hx=> ?_) ?_ (fun k x hx=> ?_) (fun k x hx e he=> ?_) (fun k x hx=> ?_) (hfc 1) (fun k x hx _=> ?_) (fun k x hx _ j d hd e he=> ?_) (fun k x hx=> ?_) ?_,⟨by show 1≤1;omega,fun x hx=> ?_,fun x hx=> ?_⟩,by show(2:Int)≤_;decide⟩
 ·show cK [_]
  exact List.pairwise_singleton _ _
 ·rw[(cs k x hx).1];exact⟨by decide,by show(1:Int)<2;decide⟩
 ·exact⟨_,by rw[hfind,if_pos rfl],rfl,rfl⟩
 ·rw[(cs k x hx).2];rfl
 ·rw[(cs k x hx).2] at he;cases he
 ·rw[(cs k x hx).2,hfc]
 ·rw[hfc];decide
 ·rw[(cs j d hd).2] at he;cases he
 ·rw[(cs k x hx).1];exact .root
 ·unfold dZ
  simp only[Bool.and_eq_true,decide_eq_true_eq];refine⟨?_, ?_⟩
  ·show(1:Int)+0≤a;omega
  ·show(0:Int)+0≤b;omega
 ·have:x=⟨1,2,0, [],1, []⟩:=List.mem_singleton.1 hx
  rw[this];simp
 ·have:x=⟨1,2,0, [],1, []⟩:=List.mem_singleton.1 hx
  rw[this];simp
theorem NY {l:List bZ} (hl:l.length≤1099511627775):∃b,jP l=some b∧(b=true→l.length≤25∧∀c∈l,SmC c):=by
 unfold jP;refine eY (l:=l) (fun n i (_:Unit)=>fO l (some false) (some (decide ((List.length l:Int)≤(25:Int)))) n i) (fun k _=>∀(j:Nat) c,j<k→l[j]? =some c→SmC c) (fun r=>∃b,r=some b∧(b=true→l.length≤25∧∀c∈l,SmC c)) hl (fun n k c u hk hc hi hr=> ?_) (fun n u hi=> ?_) () (fun j c h=>by omega)
 ·simp only[fO]
  rw[dec_lt hk,aq];by_cases h100:k<100
  ·rw[aE (decide_eq_true (by omega)),bR,toNat_cast,hc,aX (by omega)]
   simp only[aq,af];by_cases h1:c.a.length≤300
   ·rw[aR (decide_eq_false (by omega))]
    by_cases h2:c.b.length≤300
    ·rw[aR (decide_eq_false (by omega))]
     by_cases h3:c.data.length≤300
     ·rw[aR (decide_eq_false (by omega))]
      refine hr () fun j c' hj hc'=> ?_
      by_cases hjk:j=k
      ·subst hjk
       rw[hc] at hc';cases hc';exact⟨h1,h2,h3⟩
      ·exact hi j c' (by omega) hc'
     ·rw[aE (decide_eq_true (by omega))];exact⟨false,rfl,by simp⟩
    ·rw[aE (decide_eq_true (by omega))];exact⟨false,rfl,by simp⟩
   ·rw[aE (decide_eq_true (by omega))];exact⟨false,rfl,by simp⟩
  ·rw[aR (decide_eq_false (by omega))]
   exact⟨_,rfl,fun h=>by have:=of_decide_eq_true h;omega⟩
 ·simp only[fO]
  rw[b7 (Nat.le_refl _),ax];refine⟨_,rfl,fun h=>⟨by have:=of_decide_eq_true h;omega,fun c hc=> ?_⟩⟩;obtain⟨j,hj⟩:=List.mem_iff_getElem?.1 hc;exact hi j c (List.getElem?_eq_some_iff.1 hj).1 hj
end
end Go.Eng
set_option linter.unusedSimpArgs false
set_option linter.unusedVariables false
set_option linter.unusedSectionVars false
namespace Go.Eng
open Go
section
variable {f g:Fs} {a b:Int} {l:List bZ}
theorem hJ (a b:Int):iF a b=some (iX a b):=rfl
theorem Gq.same {n:Nat} (h:Gq n f) (hn:n≤9000) (g:Fs):cr f g=some (decide (f=g)):=(h.bd.inf (by omega)).same g
theorem ly {n:Nat} (hl:l.length≤1000) (hc:∀c∈l,SmC c):im a b l=some (if 1≤a∧a≤1073741824∧0≤b∧b≤1073741824 then ((gi [47] (iX a b) l).1,0) else (⟨0,0,0, []⟩,9)):=by
 unfold im qQ;by_cases h1:a<1
 ·rw[aE (decide_eq_true h1),if_neg (by omega)];rfl
 rw[aR (decide_eq_false h1)];by_cases h2:a>1073741824
 ·rw[aE (decide_eq_true h2),if_neg (by omega)];rfl
 rw[aR (decide_eq_false h2)];by_cases h3:b<0
 ·rw[aE (decide_eq_true h3),if_neg (by omega)];rfl
 rw[aR (decide_eq_false h3)];by_cases h4:b>1073741824
 ·rw[aE (decide_eq_true h4),if_neg (by omega)];rfl
 rw[aR (decide_eq_false h4),if_pos (by omega),af];have g:=lF (a:=a) (b:=b) (by omega) (by omega) (by omega) (by omega);have:=(fZ g (by omega) hl hc (by decide:([47]:Str).length≤8388608)).1;unfold iX at this;rw[aR (by simp),this];rfl
theorem sF:cJ=some true:=by
 unfold cJ;have g:=lF (a:=9) (b:=9) (by decide) (by decide) (by decide) (by decide);rw[hJ,af,(fZ g (by decide) (by decide) (fun c hc=>by
  simp only[List.mem_cons,List.not_mem_nil,or_false] at hc;rcases hc with rfl|rfl|rfl|rfl<;>exact⟨by decide,by decide,by decide⟩) (by decide)).1,af]
 have e1:gi [47] (iX 9 9) [⟨1,[97], [], []⟩,⟨2,[97,47,102], [],[120]⟩,⟨6,[97], [], []⟩,⟨9, [], [], []⟩]=(⟨9,9,4,[⟨1,2,0, [],1,[⟨[97],2⟩]⟩,⟨2,2,1, [],1,[⟨[102],3⟩]⟩,⟨3,1,1,[120],0, []⟩]⟩,[0,0,4,9]):=by decide+kernel
 have hz:InF ⟨0,0,0, []⟩:=⟨by simp,fun x hx=>by cases hx⟩;have hs:cr ⟨0,0,0, []⟩ ⟨0,0,0, []⟩=some true:=by rw[hz.same];simp
 rw[e1,ly (n:=0) (by simp) (fun c hc=>by cases hc),af,if_neg (by decide)];simp only;rw[hs];rfl
theorem r9:iH a b=some true:=by
 unfold iH;rw[sF,af,Bool.not_true,ax,ly (n:=0) (by simp) (fun c hc=>by cases hc),af,hJ];have hz:InF ⟨0,0,0, []⟩:=⟨by simp,fun x hx=>by cases hx⟩;by_cases h1:a<1
 ·rw[aE (decide_eq_true h1),if_neg (by omega),aE (by decide),hz.same];simp
 rw[aR (decide_eq_false h1)];by_cases h2:a>1073741824
 ·rw[aE (decide_eq_true h2),if_neg (by omega),aE (by decide),hz.same];simp
 rw[aR (decide_eq_false h2)];by_cases h3:b<0
 ·rw[aE (decide_eq_true h3),if_neg (by omega),aE (by decide),hz.same];simp
 rw[aR (decide_eq_false h3)];by_cases h4:b>1073741824
 ·rw[aE (decide_eq_true h4),if_neg (by omega),aE (by decide),hz.same];simp
 rw[aR (decide_eq_false h4),if_pos (by omega)];have g:=lF (a:=a) (b:=b) (by omega) (by omega) (by omega) (by omega);rw[aE (by simp),af];simp only[gi];rw[g.same (by omega)];simp
theorem P8 {R:Type} (kr k0:Option R) (e:List Int) (hl:e.length≤1000000):cB e e kr k0 bo (0:Int)=k0:=by
 refine eY (l:=e) (fun n i (_:Unit)=>cB e e kr k0 n i) (fun _ _=>True) (fun r=>r=k0) (by omega) (fun n k x u hk hx _ hr=> ?_) (fun n u _=> ?_) () trivial
 ·simp only[cB]
  rw[dec_lt hk,aq,bR,aq,toNat_cast,hx,af,aq,af,aX (by omega),aR (by simp)];exact hr () trivial
 ·simp only[cB]
  rw[b7 (Nat.le_refl _),ax]
theorem sG {c:Int} (h0:0≤c) (h1:c<65536):IntKind.i64.wrap ((1:Int)+IntKind.i64.wrap c)=1+c∧IntKind.i64.wrap c=c:=by
 have:IntKind.i64.wrap c=c:=bC (by omega) (by omega);rw[this];exact⟨bC (by omega) (by omega),rfl⟩
theorem s_ (ha:0≤a) (ha2:a<65536) (hb:0≤b) (hb2:b<65536) (hl:l.length≤1048576):jm a b l=some true:=by
 unfold jm;rw[sF];simp only[af,Bool.not_true,ax];obtain⟨c,hc,hc2⟩:=NY (l:=l) (by omega);rw[hc,af];cases c
 ·rfl
 obtain⟨f1,f2⟩:=hc2 rfl;obtain⟨u1,u2⟩:=sG ha ha2;obtain⟨_,u4⟩:=sG hb hb2;rw[Bool.not_true,ax,u1,u4,hJ,af];have g:=lF (a:=1+a) (b:=b) (by omega) (by omega) (by omega) (by omega);obtain⟨r1,r2⟩:=fZ g (by omega) (by omega) f2 (by decide:([47]:Str).length≤8388608);have g2:=sB l 1 _ g (by omega) f2 (by decide:([47]:Str).length≤8388608);rw[r1,af,r2,af,ly (n:=0) (by omega) f2,af,if_pos (by omega),aR (by simp),aR (by simp),g2.same (by omega),af,aR (by simp),af,aR (by simp),P8 _ _ _ (by rw[p6];omega)]
theorem sb (ha:0≤a) (ha2:a<65536) (hb:0≤b) (hb2:b<65536) (hl:l.length≤1048576):iP a b l=some true:=by
 unfold iP;rw[sF];simp only[af,Bool.not_true,ax];obtain⟨c,hc,hc2⟩:=NY (l:=l) (by omega);rw[hc,af];cases c
 ·rfl
 obtain⟨f1,f2⟩:=hc2 rfl;obtain⟨u1,u2⟩:=sG ha ha2;obtain⟨_,u4⟩:=sG hb hb2;rw[Bool.not_true,ax,u1,u4,hJ,af];have g:=lF (a:=1+a) (b:=b) (by omega) (by omega) (by omega) (by omega);refine eY (l:=l) (fun n i (f:Fs)=>cC l (some false) (some true) n i f) (fun k f=>Gq (k+1) f) (fun r=>r=some true) (by omega) (fun n k c f hk hx hi hr=> ?_) (fun n f _=> ?_) _ g
 ·obtain⟨d1,_,d3,d4⟩:=nC (base:=[47]) hi (by omega) (f2 c (List.mem_of_getElem? hx)) (by decide)
  have hs:=hr _ d3;simp only[cC];rw[dec_lt hk,aq,bR,aq,toNat_cast,hx,af,d1,af,(d3.ew (by omega)).check,af,aR (by decide),aX (by omega),dp];by_cases h0:(doP f [47] c).2=0
  ·rw[aR (by simp [h0])];exact hs
  ·rw[aE (by simp [h0]),d4 h0,hi.same (by omega),af,aR (by simp)]
   rw[d4 h0] at hs;exact hs
 ·simp only[cC]
  rw[b7 (Nat.le_refl _),ax]
theorem Le {R:Type} (kr k0:Option R) (e1 e2:List Int) (hl:e1.length+e2.length≤1000000):bQ (e1.length:Int) (e1++e2) e1 e2 kr k0 bo (0:Int)=k0:=by
 refine eY (l:=e1++e2) (fun n i (_:Unit)=>bQ (e1.length:Int) (e1++e2) e1 e2 kr k0 n i) (fun _ _=>True) (fun r=>r=k0) (by simp;omega) (fun n k x u hk hx _ hr=> ?_) (fun n u _=> ?_) () trivial
 ·have hr:=hr () trivial
  rw[List.length_append] at hk;simp only[bQ];rw[aE (decide_eq_true (by rw[List.length_append];omega)),aX (by omega)];by_cases h:k<e1.length
  ·have hx1:e1[k]? =some x:=by rw[List.getElem?_append_left h] at hx;exact hx
   rw[dec_lt h,aq,bR,aq,toNat_cast,hx,af,aq,hx1,af,aR (by simp),aR (decide_eq_false (by omega))];exact hr
  ·have hx2:e2[k - e1.length]? =some x:=by rw[List.getElem?_append_right (by omega)] at hx;exact hx
   have hw:IntKind.i64.wrap ((k:Int) - (e1.length:Int))=((k - e1.length:Nat):Int):=by rw[bC (by omega) (by omega)];omega
   rw[aR (decide_eq_false (by omega)),aE (decide_eq_true (by omega)),bR,aq,toNat_cast,hx,af,hw,bR,aq,toNat_cast,hx2,af,aR (by simp)];exact hr
 ·simp only[bQ]
  rw[b7 (Nat.le_refl _),ax]
theorem sn (ha:0≤a) (ha2:a<256) (hl:l.length≤1048576):iq l a=some true:=by
 unfold iq;rw[sF];simp only[af,Bool.not_true,ax];obtain⟨c,hc,hc2⟩:=NY (l:=l) (by omega);rw[hc,af];cases c
 ·rfl
 obtain⟨f1,f2⟩:=hc2 rfl;rw[Bool.not_true,ax,H9 ha ha2,aX (by omega),aR (by simp;omega)];obtain⟨q1,q2⟩:=toNat_mod (m:=l.length+1) ha (by omega);obtain⟨m,hm⟩:=Int.eq_ofNat_of_zero_le q1;rw[hm] at q2⊢;rw[toNat_cast] at q2;have hml:m≤l.length:=by omega
 have g:=lF (a:=20) (b:=99) (by decide) (by decide) (by decide) (by decide);have t1:(l.take m).length=m:=by rw[List.length_take];omega
 have t2:(l.drop m).length=l.length - m:=List.length_drop;have c1:∀c∈l.take m,SmC c:=fun c hc=>f2 c (List.mem_of_mem_take hc)
 have c2:∀c∈l.drop m,SmC c:=fun c hc=>f2 c (List.mem_of_mem_drop hc)
 obtain⟨r1,_⟩:=fZ g (by omega) (by omega) f2 (by decide:([47]:Str).length≤8388608);obtain⟨r2,_⟩:=fZ g (by omega) (by omega) c1 (by decide:([47]:Str).length≤8388608);have g1:=sB (l.take m) 1 _ g (by omega) c1 (by decide:([47]:Str).length≤8388608);obtain⟨r3,_⟩:=fZ g1 (by omega) (by omega) c2 (by decide:([47]:Str).length≤8388608);have g2:=sB l 1 _ g (by omega) f2 (by decide:([47]:Str).length≤8388608);have happ:=yO [47] (l.take m) (l.drop m) (iX 20 99);rw[List.take_append_drop] at happ;have l1:=p6 [47] (l.take m) (iX 20 99);have l2:=p6 [47] (l.drop m) (gi [47] (iX 20 99) (l.take m)).1;rw[toNat_cast,hJ,af,r1,af,aE (decide_eq_true (by omega)),r2,af,r3,af,aE (decide_eq_true (by omega)),g2.same (by omega),af];have e1:(gi [47] (iX 20 99) l).1=(gi [47] (gi [47] (iX 20 99) (l.take m)).1 (l.drop m)).1:=by rw[happ]
 have e2:(gi [47] (iX 20 99) l).2=(gi [47] (iX 20 99) (l.take m)).2++(gi [47] (gi [47] (iX 20 99) (l.take m)).1 (l.drop m)).2:=by rw[happ]
 rw[e1,decide_eq_true rfl,Bool.not_true,ax,e2,List.length_append,aR (by rw[bC (by omega) (by omega)];simp),aR (by rw[l1,t1];simp)];have hm2:((m:Nat):Int)=((gi [47] (iX 20 99) (l.take m)).2.length:Int):=by rw[l1,t1]
 rw[hm2,Le _ _ _ _ (by omega)]
end
end Go.Eng
namespace Go.Eng
open Go
end Go.Eng
namespace Go.Eng
open Go
theorem wf_u16 {n:Int} (h:(Lit.int .u16 n).wf=true):0≤n∧n<65536:=by
 simp [Lit.wf,IntKind.min,IntKind.max,IntKind.signed,IntKind.bits] at h;omega
end Go.Eng
