/- A part of the proofs of the laws of this seat: the engine that reads the program's code, plain functions, or facts of the program's functions. Conditions: none. -/
import Derived.Test.YtcilfbaaaipbcaaGreatDoorP3
import Derived.Test.YtcilfbaaaipbcaaGreatDoorP1
import Derived.Test.YtcilfbaaaipbcaaGreatDoorP2
set_option linter.unusedSectionVars false
set_option linter.unusedVariables false
set_option linter.unusedSimpArgs false
set_option linter.unnecessarySimpa false
namespace Go.Eng
open Go
def cr (p:Str):Bool:=(cj p).2&& !(cj p).1.isEmpty
def iY (s:Str):Bool:=decide (1≤s.length∧s.length≤4095)&& !(s.any fun b=>b==0)
def fi (p q:Str):Bool:=decide ((cq p).take (cq q).length=cq q)
def gw (k:Int):Bool:=decide (k=3∨k=7∨k=9∨k=10)
def j6 (k:Int):Bool:=decide (k=2∨k=3∨k=5∨k=6)
def kp (o:Opn):Bool:=decide (1≤o.kind∧o.kind≤10)&&(cr o.a&&((if gw o.kind then decide (1≤o.slot∧o.slot≤1073741824) else decide (o.slot=0))&&((if j6 o.kind then cr o.b else decide (o.b= []))&&((if o.kind=4 then iY o.data else decide (o.data= []))&&(!decide (o.kind=6)||(!fi o.a o.b&& !fi o.b o.a))))))
def dn (f:Fs) (p:Str):Int:=if (atP f p).2=0 then (if (atP f p).1.ino=0 then 0 else 2) else (atP f p).2
def b9 (f:Fs) (p:Str):Int:=if (atP f p).2=0 then (match au (atP f p).1.ino f.aa with|some _=>0|none=>1) else (atP f p).2
def c_ (f:Fs) (p:Str):al:=aD (atP f p).1.ino f.aa
def f_ (f:Fs) (p:Str):Int:=if b9 f p=0 then (if (c_ f p).kind=2 then 4 else if (c_ f p).kind=1 then 0 else 9) else b9 f p
def m_ (w:ao) (p:Str) (k:Int) (d:Str):ao×Int:=if dn w.fs p=0 then (⟨(pM w.fs (atP w.fs p).1 k d).1,w.aq⟩,(pM w.fs (atP w.fs p).1 k d).2) else (w,dn w.fs p)
def vr (w:ao) (o:Opn):ao×Int:=if f_ w.fs o.a=0 then m_ w o.b 1 (c_ w.fs o.a).data else (w,f_ w.fs o.a)
def ou (w:ao) (o:Opn):ao×Int:=
 if f_ w.fs o.a=0 then (if f_ w.fs o.b=0 then (if (c_ w.fs o.a).ino=(c_ w.fs o.b).ino then (w,9) else
  match cF o.slot w.aq.kept with
  |some _=>(w,13)
  |none=>if (rm w.fs (c_ w.fs o.b).ino (c_ w.fs o.a).data).2=0 then (⟨(rm w.fs (c_ w.fs o.b).ino (c_ w.fs o.a).data).1,(nG w o.slot (c_ w.fs o.b)).aq⟩,0) else (w,(rm w.fs (c_ w.fs o.b).ino (c_ w.fs o.a).data).2)) else (w,f_ w.fs o.b)) else (w,f_ w.fs o.a)
def rr (w:ao) (o:Opn):ao×Int:=
 if b9 w.fs o.a=0 then (if (c_ w.fs o.a).kind=2 then (w,11) else if dn w.fs o.b=0 then (⟨m7 w.fs (atP w.fs o.b).1 (c_ w.fs o.a).ino,w.aq⟩,0) else (w,dn w.fs o.b)) else (w,b9 w.fs o.a)
def tq (w:ao) (o:Opn):ao×Int:=
 if b9 w.fs o.a=0 then (if dn w.fs o.b=0 then (⟨jk w.fs (atP w.fs o.a).1 (atP w.fs o.b).1,w.aq⟩,0) else (w,dn w.fs o.b)) else (w,b9 w.fs o.a)
def jM (w:ao) (p:Str) (how:ao×Int):ao×Int:=if b9 w.fs p=0 then (if 0<(c_ w.fs p).entries.length then (w,5) else how) else (w,b9 w.fs p)
def lx (w:ao) (a:ar):ao×Int:=
 if (w.aq.kept.any fun k=>decide (k.ino=(aD a.ino w.fs.aa).ino))=true∧(aD a.ino w.fs.aa).aI=1 then (w,13) else (⟨dV w.fs a,w.aq⟩,0)
def jI (w:ao) (o:Opn):ao×Int:=if dn w.fs o.a=0 then qf w o.slot (atP w.fs o.a).1 else (w,dn w.fs o.a)
def ir (w:ao) (o:Opn):ao×Int:=
 if b9 w.fs o.a=0 then (match cF o.slot w.aq.kept with|none=>(w,13) |some k=>if k.content=true∧k.ino=(c_ w.fs o.a).ino then oz w o.slot else (w,13)) else (w,b9 w.fs o.a)
def doO (w:ao) (o:Opn):ao×Int:=
 if kp o=true then
  (if o.kind=1 then m_ w o.a 2 [] else if o.kind=2 then vr w o else if o.kind=3 then ou w o else if o.kind=4 then m_ w o.a 3 o.data else if o.kind=5 then rr w o else if o.kind=6 then tq w o else
   if o.kind=7 then jM w o.a (nd w o.slot (atP w.fs o.a).1) else if o.kind=8 then jM w o.a (lx w (atP w.fs o.a).1) else if o.kind=9 then jI w o else ir w o)
 else (w,12)
def eU (o:Opn):Opn×Bool:=
 if o.kind=1∨o.kind=4 then (⟨8,0,o.a, [], []⟩,true) else if o.kind=2∨o.kind=5 then (⟨8,0,o.b, [], []⟩,true) else if o.kind=3 then (⟨10,o.slot,o.b, [], []⟩,true) else
 if o.kind=6 then (⟨6,0,o.b,o.a, []⟩,true) else if o.kind=7 then (⟨9,o.slot,o.a, [], []⟩,true) else (⟨0,0, [], [], []⟩,false)
section
variable {w:ao} {f g:Fs} {d x y:al} {nm p q:Str} {e:Entry} {n m:Nat} {s i:Int} {k:Kept} {a b:ar} {o:Opn}
theorem GD (h:RW w) (tr:Tree g) (nx:w.fs.next≤g.next) (hnone:∀j,j<w.fs.next→au j w.fs.aa=none→au j g.aa=none) (hstay:∀k∈w.aq.kept,∀z,au k.ino w.fs.aa=some z→∃z',au k.ino g.aa=some z'∧z'.kind=z.kind):RW ⟨g,w.aq⟩:=by
 refine⟨tr,h.ps,fun z hz=> ?_,h.ks,fun k' hk'=> ?_⟩
 ·obtain⟨p1,p2,p3,p4,k',k1,k2,k3⟩:=h.pk z hz
  exact⟨p1,p2,by show z.ino<g.next;omega,hnone _ p3 p4,k',k1,k2,k3⟩
 ·obtain⟨k1,k2,k3,z,k4,k5⟩:=h.kk k' hk'
  refine⟨k1,k2,k3, ?_⟩;rcases k4 with k4|k4
  ·obtain⟨z',hz',hzk⟩:=hstay k' hk' z k4
   exact⟨z',Or.inl hz',fun hc=>by rw[hzk];exact k5 hc⟩
  ·exact⟨z,Or.inr k4,k5⟩
theorem CO (b:Wb 549755813888 n w) (hb:Bd m g) (hm:n≤m) (nx:g.next≤549755813888+m):Wb 549755813888 m ⟨g,w.aq⟩:=⟨hb,nx,by show w.aq.kept.length≤_;have:=b.kl;omega,by show w.aq.aV.length≤_;have:=b.pl;omega,b.kd,b.pd⟩
theorem d_ (w:WF f) (hp:cr p=true) (h0:(atP f p).2=0):Gd f false (atP f p).1∧eL (atP f p).1.name=true∧(atP f p).1.name≠ [] ∧cB f.aa (cj p).1 dm=((atP f p).1,0)∧(cj p).1≠ [] ∧(cj p).2=true:=by
 unfold cr at hp;simp only[Bool.and_eq_true,Bool.not_eq_true',List.isEmpty_eq_false_iff] at hp;obtain⟨h1,h2⟩:=hp;have hat:atP f p=cB f.aa (cj p).1 dm:=by unfold atP;rw[if_pos h1]
 have hgo:cB f.aa (cj p).1 dm=((atP f p).1,0):=by rw[←hat,←h0]
 have hn:(atP f p).1.name≠ [] :=by
  rcases tE hgo with⟨h3,_⟩ |⟨d,m,ns',h3,h4,h5,h6,h7,h8⟩
  ·exact absurd h3 h2
  ·rw[h7]
   have:=(jr h1).2.1 m (by rw[h3];simp);exact(qO this).1
 obtain⟨g1,g2,_⟩:=Fy w h0 hn;exact⟨g1,g2,hn,hgo,h2,h1⟩
theorem iW (h:dn f p=0):(atP f p).2=0∧(atP f p).1.ino=0:=by
 unfold dn at h;split at h
 ·rename_i h1
  split at h
  ·rename_i h2;exact⟨h1,h2⟩
  ·simp at h
 ·rename_i h1;exact absurd h h1
theorem gz (h:b9 f p=0):(atP f p).2=0∧∃x,au (atP f p).1.ino f.aa=some x∧c_ f p=x:=by
 unfold b9 at h;by_cases h1:(atP f p).2=0
 ·rw[if_pos h1] at h
  cases hf:au (atP f p).1.ino f.aa with
  |none=>rw[hf] at h;simp at h
  |some x=>exact⟨h1,x,rfl,aR hf⟩
 ·rw[if_neg h1] at h;exact absurd h h1
theorem wh (h:f_ f p=0):(atP f p).2=0∧∃x,au (atP f p).1.ino f.aa=some x∧c_ f p=x∧x.kind=1:=by
 unfold f_ at h;by_cases h1:b9 f p=0
 ·rw[if_pos h1] at h
  obtain⟨h2,x,h3,h4⟩:=gz h1;rw[h4] at h;by_cases h5:x.kind=2
  ·rw[if_pos h5] at h;simp at h
  rw[if_neg h5] at h;by_cases h6:x.kind=1
  ·exact⟨h2,x,h3,h4,h6⟩
  ·rw[if_neg h6] at h;simp at h
 ·rw[if_neg h1] at h;exact absurd h h1
theorem nS {l:List al} {ns:List Str} {c:Str} {s t:ar} (h:cB l (ns++[c]) s=(t,0)):∃u d,cB l ns s=(u,0)∧au u.ino l=some d∧d.kind=2∧t=⟨d.ino,c,cx c d.entries⟩:=by
 rw[p_] at h;by_cases h0:(cB l ns s).2=0
 ·rw[if_pos h0] at h
  have hpre:cB l ns s=((cB l ns s).1,0):=by rw[←h0]
  generalize (cB l ns s).1=u at*;cases hf:au u.ino l with
  |none=>rw[gM hf] at h;simp at h
  |some d=>
   by_cases hk:d.kind=2
   ·rw[eD hf hk] at h
    simp only[cB,Prod.mk.injEq] at h;exact⟨u,d,hpre,hf,hk,h.1.symm⟩
   ·rw[gK hf hk] at h;simp at h
 ·rw[if_neg h0] at h
  simp only[Prod.mk.injEq] at h;exact absurd h.2 h0
theorem mz {α:Type} (l:List α):l= [] ∨∃a b,l=a++[b]:=by
 rcases Classical.em (l= []) with h|h
 ·exact Or.inl h
 ·exact Or.inr ⟨l.dropLast,l.getLast h,(List.dropLast_concat_getLast h).symm⟩
theorem C4 (ht:Tree f) (w:WF f):∀(len:Nat) (ns:List Str) (t:ar) (D:al),ns.length=len→cB f.aa ns dm=(t,0)→au t.ino f.aa=some D→D.kind=2→
 ∀(ms:List Str) (s:ar) (m:Nat),cB f.aa ms dm=(s,0)→(au s.ino f.aa).isSome=true→Way f.aa s.ino t.ino m→(m=0→ms=ns)∧∃r,ns=ms++r:=by
 have hne0:∀{k:Int},(au k f.aa).isSome=true→k≠0:=fun h e=>by rw[e,w.zero] at h;cases h
 have named:∀{d:al} {u:Int} {c:Str},au u f.aa=some d→cx c d.entries≠0→∃e∈d.entries,e.name=c∧e.ino=cx c d.entries:=fun hu h=>by
  obtain⟨e,_,h1,h2,h3⟩:=qP h;exact⟨e,h1,h2,h3⟩
 intro len;induction len with
 |zero=>
  intro ns t D hl hgo hD hk ms s m hms hs hw;have hns:ns= [] :=List.length_eq_zero_iff.1 hl;subst hns;simp only[cB,Prod.mk.injEq] at hgo;have ht1:t.ino=1:=by rw[←hgo.1];rfl
  have hs1:s.ino=1:=by
   rw[ht1] at hw;rcases hw.last with⟨_,h⟩ |⟨j,m',z,e,_,_,hz,he,h⟩
   ·exact h.symm
   ·exact absurd h (ht.qd hz he)
  have hms0:ms= [] :=by
   rcases mz ms with h|⟨a,c,h⟩
   ·exact h
   ·exfalso
    rw[h] at hms;obtain⟨u,d,_,h2,_,h4⟩:=nS hms;have h5:cx c d.entries=1:=by rw[h4] at hs1;exact hs1
    obtain⟨e,he,_,hn⟩:=named h2 (by rw[h5];decide);exact ht.qd h2 he (by rw[hn,h5])
  subst hms0;exact⟨fun _=>rfl, [],rfl⟩
 |succ len ih=>
  intro ns t D hl hgo hD hk ms s m hms hs hw;rcases mz ns with h|⟨ns',c,h⟩
  ·subst h;simp at hl
  subst h;obtain⟨u,d,hu1,hu2,hu3,hu4⟩:=nS hgo;have hti:t.ino=cx c d.entries:=by rw[hu4]
  have ht0:cx c d.entries≠0:=by rw[←hti];exact hne0 (by rw[hD];rfl)
  obtain⟨e,he,hec,hei⟩:=named hu2 ht0;have hlen:ns'.length=len:=by simpa using hl
  have heD:au e.ino f.aa=some D:=by rw[hei,←hti];exact hD
  rcases hw.last with⟨h0,h⟩ |⟨j,m',z,e',h0,hw',hz,he',h⟩
  ·
   rcases mz ms with hm|⟨ms',c',hm⟩
   ·exfalso
    subst hm;simp only[cB,Prod.mk.injEq] at hms;have hs1:s.ino=1:=by rw[←hms.1];rfl
    exact ht.qd hu2 he (by rw[hei,←hti,h,hs1])
   ·subst hm
    obtain⟨u',d',hv1,hv2,hv3,hv4⟩:=nS hms;have hsi:s.ino=cx c' d'.entries:=by rw[hv4]
    obtain⟨e2,he2,hec2,hei2⟩:=named hv2 (by rw[←hsi];exact hne0 hs);obtain⟨q1,q2,q3⟩:=ht.up hu2 he hv2 he2 (by rw[hei,hei2,←hti,←hsi,h]) heD hk;have hcc:c=c':=by rw[←hec,←hec2,q3]
    obtain⟨i1,_⟩:=ih ns' u d hlen hu1 hu2 hu3 ms' u' 0 hv1 (by rw[hv2];rfl) (by rw[q1];exact .here);have:=i1 rfl;subst this;subst hcc;exact⟨fun _=>rfl, [],by simp⟩
  ·obtain⟨q1,_,_⟩:=ht.up hu2 he hz he' (by rw[hei,←hti,h]) heD hk
   obtain⟨_,r,hr⟩:=ih ns' u d hlen hu1 hu2 hu3 ms s m' hms hs (by rw[q1];exact hw');exact⟨fun h1=>by omega,r++[c],by rw[hr];simp⟩
theorem Br (ht:Tree f) (w:WF f) (hp:cr p=true) (hq:cr q=true) (hu:fi q p=false) (h1:b9 f p=0) (h2:dn f q=0):∃x,wC f (atP f p).1 (atP f q).1 x∧c_ f p=x:=by
 obtain⟨a0,x,hx,hxi⟩:=gz h1;obtain⟨b0,bi⟩:=iW h2;obtain⟨ga,am,an,ago,ane,apl⟩:=d_ w hp a0;obtain⟨gb,bm,bn,bgo,bne,bpl⟩:=d_ w hq b0;generalize (atP f p).1=a at*;generalize (atP f q).1=b at*;have ha0:a.ino≠0:=fun e=>by rw[e,w.zero] at hx;cases hx
 refine⟨x,⟨ga,an,hx,gb,bn,by rw[bi];exact ha0,fun hk ⟨m,hm⟩=> ?_,(fun y hy=>by rw[bi,w.zero] at hy;cases hy),fun _=>bm⟩,hxi⟩;obtain⟨p1,p2,p3⟩:=jr apl;obtain⟨q1,q2,q3⟩:=jr bpl;rcases mz (cj q).1 with h|⟨ns',c,h⟩
 ·exact bne h
 rw[h] at bgo;obtain⟨u,d,hu1,hu2,hu3,hu4⟩:=nS bgo;have hbd:b.dir=u.ino:=by rw[hu4];exact(aP hu2).2
 rw[hbd] at hm;obtain⟨_,r,hr⟩:=C4 ht w ns'.length ns' u d rfl hu1 hu2 hu3 _ _ m ago (by rw[hx];rfl) hm;have:fi q p=true:=by
  unfold fi;rw[←p3,←q3,h,hr];simp
 rw[hu] at this;cases this
end
section
variable {p q s:Str} {o:Opn}
theorem th (h:cr p=true):iI (cq p)=p∧(∀x∈cq p,eL x=true)∧cq p≠ [] :=by
 unfold cr at h;simp only[Bool.and_eq_true,Bool.not_eq_true',List.isEmpty_eq_false_iff] at h;obtain⟨p1,p2,p3⟩:=jr h.1;rw[p3] at p1 p2;exact⟨p1,p2,by rw[←p3];exact h.2⟩
theorem Bv {ps qs:List Str} (h1:∀x∈ps,Nm x) (h2:∀x∈qs,Nm x) (hq:qs≠ []) (hp:ps≠ []):
 (iI ps=iI qs∨∃b,iI ps=iI qs++47::b)↔ps.take qs.length=qs:=by
 constructor
 ·rintro(h|⟨b,h⟩)
  ·have:=congrArg cq h
   rw[kZ h1,kZ h2] at this;rw[this,List.take_length]
  ·have:=congrArg cq h
   rw[kZ h1,vK h2] at this;rw[this,List.take_left'];rfl
 ·intro h
  have e:ps=qs++ps.drop qs.length:=by
   conv=>lhs;rw[←List.take_append_drop qs.length ps,h]
  cases hd:ps.drop qs.length with
  |nil=>left;rw[e,hd,List.append_nil]
  |cons x r=>
   right;rw[hd] at e;refine⟨x++r.flatMap fun x=>47::x, ?_⟩;rw[e];unfold iI;rw[if_neg (by simp),if_neg hq];simp
theorem rj (hp:cr p=true) (hq:cr q=true) (hlq:q.length≤8388608):aw p q=some (fi p q):=by
 obtain⟨p1,p2,p3⟩:=th hp;obtain⟨q1,q2,q3⟩:=th hq;have hN:=Bv (fun x hx=>qO (p2 x hx)) (fun x hx=>qO (q2 x hx)) q3 p3;rw[p1,q1] at hN;have hne:=JA (fun x hx=>qO (q2 x hx)) q3;rw[q1] at hne;unfold aw fi;rw[rQ,rQ,aZ,aZ];by_cases h1:p=q
 ·rw[if_pos (by simp [h1]),decide_eq_true (hN.1 (Or.inl h1))]
 ·rw[if_neg (by simp [h1]),if_neg (by simp [hne]),bV (by unfold LIM;simp;omega)]
  by_cases h2:(q++[47]).length≤p.length
  ·rw[aL (by simp only[decide_eq_true_eq];omega),aL (by simp only[decide_eq_true_eq];omega),toNat_cast,rQ]
   congr 1;rw[decide_eq_decide,←hN];constructor
   ·intro h
    right;refine⟨p.drop (q++[47]).length, ?_⟩;conv=>lhs;rw[←List.take_append_drop (q++[47]).length p,h]
    simp
   ·rintro(h|⟨b,h⟩)
    ·exact absurd h h1
    ·rw[h]
     rw[show q++47::b=(q++[47])++b by simp,List.take_left'];rfl
  ·rw[aW (by simp only[decide_eq_false_iff_not];omega)]
   rw[decide_eq_false];rw[←hN];rintro(h|⟨b,h⟩)
   ·exact h1 h
   ·rw[h] at h2;simp at h2
theorem Dl {R:Type} (kr k0:Option R):∀(qs ps m0:List Str) (k:Nat),m0.length=k→qs.length≤ps.length→dL (fun k (y:Str) (_:Unit) K=>aj (m0++ps)[k]? fun x=>if decide (x=y) then K () else kr) (fun _=>k0) k qs ()=if ps.take qs.length=qs then k0 else kr
 | [],ps,m0,k,_,_=>by simp [dL]
 |y::qs, [],m0,k,_,h=>by simp at h
 |y::qs,x::ps,m0,k,hk,h=>by
  simp only[dL];have e:(m0++x::ps)[k]? =some x:=by subst hk;simp
  rw[e,ah];have ih:=Dl kr k0 qs ps (m0++[x]) (k+1) (by simp [hk]) (by simpa using h);have e2:m0++x::ps=(m0++[x])++ps:=by simp
  by_cases hxy:x=y
  ·subst hxy
   rw[if_pos (by simp)];rw[e2,ih];simp
  ·rw[if_neg (by simp [hxy]),if_neg (by simp [hxy])]
theorem qg (hp:p.length≤1073741824) (hq:q.length≤1073741824):bh p q=some (fi p q):=by
 unfold bh fi;have n1:=mS p;have n2:=mS q;rw[ie hp,ah,ie hq,ah];by_cases h:(cq q).length≤(cq p).length
 ·rw[aW (by simp;omega)]
  generalize cq p=ps at*;generalize cq q=qs at*;refine(bU (l:=qs) (fun m i (_:Unit)=>fP ps qs (some false) (some true) m i) (fun k y (_:Unit) K=>aj ([] ++ps)[k]? fun x=>if decide (x=y) then K () else some false) (fun _=>some true) (by omega) (fun m k x u hk hx=> ?_) (fun m u=> ?_) ()).trans ?_
  ·simp only[fP]
   have hk':k<ps.length:=by omega
   rw[dec_lt hk,bP,toNat_cast,hx,bc (by omega),ay,ay,List.nil_append,List.getElem?_eq_getElem hk',ah,ay,ah,ah,rQ,aZ];by_cases hxy:ps[k]=x<;>simp [hxy]
  ·simp only[fP]
   rw[bW (Nat.le_refl _)];rfl
  ·rw[Dl _ _ qs ps [] 0 rfl h]
   by_cases hab:ps.take qs.length=qs<;>simp [hab]
 ·rw[aL (by simp;omega),decide_eq_false]
  intro e;have:=congrArg List.length e;rw[List.length_take] at this;omega
theorem ye (p:Str):decide (((cj p).1.length:Int)>0)= !(cj p).1.isEmpty:=by
 cases (cj p).1<;>simp<;>omega
theorem vm (hl:p.length≤8388608):jC p=some (cr p):=by
 unfold jC cr;rw[rz hl,ah,ye];cases (cj p).2<;>rfl
theorem pJ (hl:p.length≤8388608):dv p=some (cr p):=by
 unfold dv cr;rw[pE (by omega),ah,ye];cases (cj p).2<;>rfl
theorem A0:cS s=some (iY s):=by
 unfold cS iY;rw[rQ,rQ];by_cases z1:s= []
 ·subst z1;rfl
 have:1≤s.length:=by
  rcases s with _|⟨a,l⟩
  ·exact absurd rfl z1
  ·simp
 rw[aL (by simp [z1])];by_cases z2:s.length≤4095
 ·rw[aL (by simp;omega),decide_eq_true (show 1≤s.length∧s.length≤4095 from⟨this,z2⟩)]
  by_cases z3:[0]=s
  ·rw[aL (by simp [z3])];subst z3;rfl
  rw[aW (by simp [z3])];unfold stringslite_IndexByte;rw[ah,any_zero];rfl
 ·rw[aW (by simp;omega),decide_eq_false (fun h=>z2 h.2)];rfl
theorem vO (hl:s.length≤1073741824):cP s=some (iY s):=by
 unfold cP iY;refine(bU (l:=s) (fun m i (_:Unit)=>fj s (some false) (ae (decide ((List.length s:Int)≥(1:Int))) (some (decide ((List.length s:Int)≤(4095:Int)))) (some false)) m i) (fun _ (b:UInt8) u K=>if (b==0)=true then some false else K u) (fun _=>ae (decide ((List.length s:Int)≥(1:Int))) (some (decide ((List.length s:Int)≤(4095:Int)))) (some false)) (by omega) (fun m k b u hkk hx=> ?_) (fun m u=> ?_) ()).trans ?_
 ·simp only[fj]
  rw[dec_lt hkk,bP,toNat_cast,hx,bc (by omega),ay,ay,ah,aZ];have:((UInt8.toNat b:Int)==(0:Int))=(b==0):=jo b 0 (by omega);rw[this]
 ·simp only[fj]
  rw[bW (Nat.le_refl _)];rfl
 ·refine(jx (fun b:UInt8=>b==0) (fun _ _=>some false) _ (some false) (fun _ _=>rfl) _ _ _).trans ?_
  cases s.any (fun b=>b==0)
  ·rw[if_neg (by simp)]
   by_cases h1:1≤s.length
   ·rw[aL (by simp;omega)]
    by_cases h2:s.length≤4095
    ·rw[decide_eq_true (show(s.length:Int)≤4095 by omega),decide_eq_true ⟨h1,h2⟩];rfl
    ·rw[decide_eq_false (show¬(s.length:Int)≤4095 by omega),decide_eq_false (fun h=>h2 h.2)];rfl
   ·rw[aW (by simp;omega),decide_eq_false (fun h=>h1 h.1)];rfl
  ·rw[if_pos rfl];simp
theorem nQ {k:Int}:iT k=some (gw k):=by
 unfold iT gw;simp only[eO,aZ];by_cases h1:k=3
 ·simp [h1]
 by_cases h2:k=7
 ·simp [h2]
 by_cases h3:k=9
 ·simp [h3]
 by_cases h4:k=10
 ·simp [h4]
 ·simp [h1,h2,h3,h4]
end
section
variable {o:Opn}
theorem kinds {k:Int} (h1:1≤k) (h2:k≤10):k=1∨k=2∨k=3∨k=4∨k=5∨k=6∨k=7∨k=8∨k=9∨k=10:=by omega
theorem CY (s:Int):decide (1≤s∧s≤1073741824)=(!decide (s<1)&& !decide (s>1073741824)):=by
 rw[Bool.eq_iff_iff];simp;
theorem GR (ha:o.a.length≤8388608) (hb:o.b.length≤8388608):A8 o=some (kp o):=by
 obtain⟨k,s,a,b,d⟩:=o;simp only at ha hb;unfold A8 kp;simp only;by_cases h1:1≤k
 ·by_cases h2:k≤10
  ·rw[aW (by simp;omega),aW (by simp;omega),vm ha,ah,decide_eq_true (show 1≤k∧k≤10 from⟨h1,h2⟩)]
   cases hpa:cr a
   ·rfl
   rw[Bool.not_true,ax,aL (by simp;omega)];have hU:∀{R:Type} {f:Bool→Option R},cr b=true→aj (aw a b) f=f (fi a b):=fun h=>by rw[rj hpa h hb,ah]
   have hV:∀{R:Type} {f:Bool→Option R},cr b=true→aj (aw b a) f=f (fi b a):=fun h=>by rw[rj h hpa ha,ah]
   have hP:∀{R:Type} {f:Bool→Option R},aj (jC b) f=f (cr b):=by intros;rw[vm hb,ah]
   have hT:∀{R:Type} {f:Bool→Option R},aj (cS d) f=f (iY d):=by intros;rw[A0,ah]
   simp only[hP,hT];rcases kinds h1 h2 with e|e|e|e|e|e|e|e|e|e<;>subst e
   all_goals
    rw[show nq[Int.toNat _]? =some _ from rfl,ah];simp only[ay,ax,Bool.not_true,Bool.not_false,gw,j6,CY,dT,rQ]
   ·by_cases s0:s=0<;>by_cases b0:b= [] <;>by_cases d0:d= [] <;>simp [s0,b0,d0]
   ·cases pb:cr b<;>by_cases s0:s=0<;>by_cases d0:d= [] <;>simp [s0,d0]
   ·cases pb:cr b<;>by_cases s1:s<1<;>by_cases s2:s>1073741824<;>by_cases d0:d= [] <;>simp [s1,s2,d0]
   ·cases td:iY d<;>by_cases s0:s=0<;>by_cases b0:b= [] <;>simp [s0,b0]
   ·cases pb:cr b<;>by_cases s0:s=0<;>by_cases d0:d= [] <;>simp [s0,d0]
   ·cases pb:cr b
    ·by_cases s0:s=0<;>simp [s0]
    ·simp only[hU pb,hV pb]
     by_cases s0:s=0<;>by_cases d0:d= [] <;>cases fi a b<;>cases fi b a<;>simp [s0,d0]
   ·by_cases s1:s<1<;>by_cases s2:s>1073741824<;>by_cases b0:b= [] <;>by_cases d0:d= [] <;>simp [s1,s2,b0,d0]
   ·by_cases s0:s=0<;>by_cases b0:b= [] <;>by_cases d0:d= [] <;>simp [s0,b0,d0]
   ·by_cases s1:s<1<;>by_cases s2:s>1073741824<;>by_cases b0:b= [] <;>by_cases d0:d= [] <;>simp [s1,s2,b0,d0]
   ·by_cases s1:s<1<;>by_cases s2:s>1073741824<;>by_cases b0:b= [] <;>by_cases d0:d= [] <;>simp [s1,s2,b0,d0]
  ·rw[aW (by simp;omega),aL (by simp;omega),decide_eq_false (fun h=>h2 h.2)];rfl
 ·rw[aL (by simp;omega),decide_eq_false (fun h=>h1 h.1)];rfl
theorem oT (ha:o.a.length≤8388608) (hb:o.b.length≤8388608) (hd:o.data.length≤1073741824):jh o=some (kp o):=by
 obtain⟨k,s,a,b,d⟩:=o;simp only at ha hb hd;unfold jh kp;simp only;by_cases h1:1≤k
 ·by_cases h2:k≤10
  ·rw[aW (by simp;omega),aW (by simp;omega),pJ ha,ah,decide_eq_true (show 1≤k∧k≤10 from⟨h1,h2⟩)]
   cases hpa:cr a
   ·rfl
   rw[Bool.not_true,ax,nQ,ah];have hU:∀{R:Type} {f:Bool→Option R},aj (bh a b) f=f (fi a b):=by intros;rw[qg (by omega) (by omega),ah]
   have hV:∀{R:Type} {f:Bool→Option R},aj (bh b a) f=f (fi b a):=by intros;rw[qg (by omega) (by omega),ah]
   have hP:∀{R:Type} {f:Bool→Option R},aj (dv b) f=f (cr b):=by intros;rw[pJ hb,ah]
   have hT:∀{R:Type} {f:Bool→Option R},aj (cP d) f=f (iY d):=by intros;rw[vO hd,ah]
   simp only[hP,hT,hU,hV,gw,j6,CY,dT,rQ,eO];rcases kinds h1 h2 with e|e|e|e|e|e|e|e|e|e<;>subst e
   ·by_cases s0:s=0<;>by_cases b0:b= [] <;>by_cases d0:d= [] <;>simp [s0,b0,d0]
   ·cases pb:cr b<;>by_cases s0:s=0<;>by_cases d0:d= [] <;>simp [s0,d0]
   ·cases pb:cr b<;>by_cases s1:s<1<;>by_cases s2:s>1073741824<;>by_cases d0:d= [] <;>simp [s1,s2,d0]
   ·cases td:iY d<;>by_cases s0:s=0<;>by_cases b0:b= [] <;>simp [s0,b0]
   ·cases pb:cr b<;>by_cases s0:s=0<;>by_cases d0:d= [] <;>simp [s0,d0]
   ·cases pb:cr b<;>by_cases s0:s=0<;>by_cases d0:d= [] <;>cases fi a b<;>cases fi b a<;>simp [s0,d0]
   ·by_cases s1:s<1<;>by_cases s2:s>1073741824<;>by_cases b0:b= [] <;>by_cases d0:d= [] <;>simp [s1,s2,b0,d0]
   ·by_cases s0:s=0<;>by_cases b0:b= [] <;>by_cases d0:d= [] <;>simp [s0,b0,d0]
   ·by_cases s1:s<1<;>by_cases s2:s>1073741824<;>by_cases b0:b= [] <;>by_cases d0:d= [] <;>simp [s1,s2,b0,d0]
   ·by_cases s1:s<1<;>by_cases s2:s>1073741824<;>by_cases b0:b= [] <;>by_cases d0:d= [] <;>simp [s1,s2,b0,d0]
  ·rw[aW (by simp;omega),aL (by simp;omega),decide_eq_false (fun h=>h2 h.2)];rfl
 ·rw[aL (by simp;omega),decide_eq_false (fun h=>h1 h.1)];rfl
end
section
variable {w:ao} {f g:Fs} {d x y z:al} {nm p q t:Str} {e:Entry} {n m:Nat} {s i:Int} {k:Kept} {a b:ar} {o:Opn}
theorem re.stay (m:re f g d nm x) {j:Int} (hd:au d.ino f.aa=some d) (h:au j f.aa=some z):∃z',au j g.aa=some z'∧z'.kind=z.kind:=by
 rw[m.find];by_cases h1:x.ino=j
 ·rw[if_pos h1]
  rcases m.hx with h2|⟨y,hy,y1,_⟩
  ·rw[h1,h] at h2;cases h2
  ·rw[h1,h] at hy;cases hy
   exact⟨x,rfl,y1.symm⟩
 ·rw[if_neg h1]
  by_cases h2:d.ino=j
  ·rw[if_pos h2]
   rw[←h2,hd] at h;cases h;exact⟨_,rfl,rfl⟩
  ·rw[if_neg h2];exact⟨z,h,rfl⟩
theorem re.none (m:re f g d nm x) {j:Int} (hd:au d.ino f.aa=some d) (h:au j f.aa=none) (hj:x.ino≠j):au j g.aa=none:=by
 rw[m.find,if_neg hj];by_cases h2:d.ino=j
 ·rw[←h2,hd] at h;cases h
 ·rw[if_neg h2];exact h
theorem n5 {kd:Int} (h:RW w) (b:Wb 549755813888 n w) (hn:n≤8990) (hp:cr p=true) (hk:Bw kd t) (hd:t.length≤10000000):
 (∃e:Int,e≠0∧m_ w p kd t=(w,e))∨(dn w.fs p=0∧m_ w p kd t=(⟨pt w.fs (atP w.fs p).1 kd t,w.aq⟩,0)∧Made w.fs n (atP w.fs p).1 kd t (pt w.fs (atP w.fs p).1 kd t)∧RW ⟨pt w.fs (atP w.fs p).1 kd t,w.aq⟩∧Wb 549755813888 (n+2) ⟨pt w.fs (atP w.fs p).1 kd t,w.aq⟩):=by
 have ew:=iF h.tr b.bd (by omega);unfold m_;by_cases h1:dn w.fs p=0
 ·rw[if_pos h1]
  obtain⟨h2,h3⟩:=iW h1;obtain⟨ga,am,an,_⟩:=d_ ew.wf hp h2;generalize (atP w.fs p).1=a at*;by_cases h4:(pM w.fs a kd t).2=0
  ·obtain⟨h5,h6,h7⟩:=NS h4
   obtain⟨hf,hs⟩:=qY h.tr ew.wf ga h3 h6;have hnx:=b.nx;have m:=I0 h.tr b.bd hf hs hk hd (by omega) h7;refine Or.inr ⟨h1,by rw[h5],m, ?_, ?_⟩
   ·refine GD h m.tr (by rw[m.next];omega) (fun j hj hnone=>m.more.none hf.hd hnone ?_) (fun k' _ z hz=>m.more.stay hf.hd hz)
    show w.fs.next≠j;omega
   ·exact CO b (m.bd.mono (by omega)) (by omega) (by rw[m.next];omega)
  ·refine Or.inl ⟨(pM w.fs a kd t).2,h4, ?_⟩
   rw[Kb h4]
 ·exact Or.inl ⟨dn w.fs p,h1,by rw[if_neg h1]⟩
theorem Av (h:RW w) (b:Wb 549755813888 n w) (hn:n≤8990) (hp:cr o.b=true):
 (∃e:Int,e≠0∧vr w o=(w,e))∨(∃t,dn w.fs o.b=0∧vr w o=(⟨pt w.fs (atP w.fs o.b).1 1 t,w.aq⟩,0)∧Made w.fs n (atP w.fs o.b).1 1 t (pt w.fs (atP w.fs o.b).1 1 t)∧RW ⟨pt w.fs (atP w.fs o.b).1 1 t,w.aq⟩∧Wb 549755813888 (n+2) ⟨pt w.fs (atP w.fs o.b).1 1 t,w.aq⟩):=by
 unfold vr;by_cases h1:f_ w.fs o.a=0
 ·rw[if_pos h1]
  have hd:(c_ w.fs o.a).data.length≤10000000:=(b.bd.get _).2;rcases n5 h b hn hp (kd:=1) (t:=(c_ w.fs o.a).data) (Or.inl rfl) hd with h2|h2
  ·exact Or.inl h2
  ·exact Or.inr ⟨_,h2⟩
 ·exact Or.inl ⟨f_ w.fs o.a,h1,by rw[if_neg h1]⟩
theorem xo (h:RW w) (b:Wb 549755813888 n w) (hs1:1≤o.slot) (hs2:o.slot≤1073741824):
 (∃e:Int,e≠0∧ou w o=(w,e))∨(∃x y,f_ w.fs o.b=0∧c_ w.fs o.b=y∧au (atP w.fs o.b).1.ino w.fs.aa=some y∧au y.ino w.fs.aa=some y∧y.kind=1∧cF o.slot w.aq.kept=none∧cO w.fs 0 ((x:Str).length - (y.data.length:Int))=true∧ou w o=(⟨w.fs.set (y.cy x),(nG w o.slot y).aq⟩,0)∧
  RW ⟨w.fs.set (y.cy x),(nG w o.slot y).aq⟩∧Wb 549755813888 (n+2) ⟨w.fs.set (y.cy x),(nG w o.slot y).aq⟩):=by
 unfold ou;by_cases h1:f_ w.fs o.a=0
 ·rw[if_pos h1]
  by_cases h2:f_ w.fs o.b=0
  ·rw[if_pos h2]
   by_cases h3:(c_ w.fs o.a).ino=(c_ w.fs o.b).ino
   ·exact Or.inl ⟨9,by decide,by rw[if_pos h3]⟩
   rw[if_neg h3];cases hs:cF o.slot w.aq.kept with
   |some k=>exact Or.inl ⟨13,by decide,rfl⟩
   |none=>
    simp only;obtain⟨_,y,hy,hyi,hyk⟩:=wh h2;have hd:(c_ w.fs o.a).data.length≤10000000:=(b.bd.get _).2;rw[hyi];have hi:=(aP hy).2;have hyy:au y.ino w.fs.aa=some y:=by rw[hi];exact hy
    unfold rm;rw[aR hyy];cases hfit:cO w.fs 0 (((c_ w.fs o.a).data.length:Int) - (y.data.length:Int))
    ·exact Or.inl ⟨8,by decide,rfl⟩
    ·rw[if_pos rfl,if_pos rfl]
     have hr:=I3 h hyy hyk hs1 hs2 hs;have hb:=JR (s:=o.slot) h b hyy;refine Or.inr ⟨(c_ w.fs o.a).data,y,h2,rfl,hy,hyy,hyk,trivial,hfit,rfl,Ga (w:=nG w o.slot y) hr hyy hyk hfit, ?_⟩;exact CO (w:=nG w o.slot y) hb ((hb.bd.put (y:=y.cy (c_ w.fs o.a).data) (z:=y) (m:=n+1) h.tr.sort hyy (Nat.le_refl _) (hb.bd.find hyy).1 hd).mono (by omega)) (by omega) (by have:=b.nx;show w.fs.next≤_;omega)
  ·exact Or.inl ⟨f_ w.fs o.b,h2,by rw[if_neg h2]⟩
 ·exact Or.inl ⟨f_ w.fs o.a,h1,by rw[if_neg h1]⟩
theorem AL (h:RW w) (b:Wb 549755813888 n w) (hn:n≤8990) (hp:cr o.b=true):
 (∃e:Int,e≠0∧rr w o=(w,e))∨(∃x,dn w.fs o.b=0∧c_ w.fs o.a=x∧au x.ino w.fs.aa=some x∧x.kind≠2∧iJ w.fs (aD (atP w.fs o.b).1.dir w.fs.aa) (atP w.fs o.b).1.name∧(aD (atP w.fs o.b).1.dir w.fs.aa).ino=(atP w.fs o.b).1.dir∧x.ino≠(aD (atP w.fs o.b).1.dir w.fs.aa).ino∧
  rr w o=(⟨gT w.fs (aD (atP w.fs o.b).1.dir w.fs.aa) (atP w.fs o.b).1.name x,w.aq⟩,0)∧sk w.fs (atP w.fs o.b).1 x.ino=m7 w.fs (atP w.fs o.b).1 x.ino∧RW ⟨gT w.fs (aD (atP w.fs o.b).1.dir w.fs.aa) (atP w.fs o.b).1.name x,w.aq⟩∧Wb 549755813888 (n+2) ⟨gT w.fs (aD (atP w.fs o.b).1.dir w.fs.aa) (atP w.fs o.b).1.name x,w.aq⟩):=by
 have ew:=iF h.tr b.bd (by omega);unfold rr;by_cases h1:b9 w.fs o.a=0
 ·rw[if_pos h1]
  by_cases h2:(c_ w.fs o.a).kind=2
  ·exact Or.inl ⟨11,by decide,by rw[if_pos h2]⟩
  rw[if_neg h2];by_cases h3:dn w.fs o.b=0
  ·rw[if_pos h3]
   obtain⟨_,x,hx,hxi⟩:=gz h1;rw[hxi] at h2⊢;obtain⟨b0,bi⟩:=iW h3;obtain⟨gb,bm,bn,_⟩:=d_ ew.wf hp b0;generalize (atP w.fs o.b).1=c at*;obtain⟨hf,hs⟩:=qY h.tr ew.wf gb bi bm;have hi:=(aP hx).2;have hxx:au x.ino w.fs.aa=some x:=by rw[hi];exact hx
   obtain⟨q1,q2,q3⟩:=qc (s:=c) hf hxx h2;have mo:re w.fs (gT w.fs (aD c.dir w.fs.aa) c.name x) (aD c.dir w.fs.aa) c.name (x.cX (x.aI+1)):=zJ hxx q3;refine Or.inr ⟨x,h3,rfl,hxx,h2,hf,hs,q3,by rw[q1],by rw[q1,q2], ?_, ?_⟩
   ·refine GD h (BH h.tr hf hxx h2) (Int.le_refl _) (fun j hj hnone=>mo.none hf.hd hnone fun e=> ?_) (fun k' _ z hz=>mo.stay hf.hd hz)
    have e:x.ino=j:=e;rw[←e,hxx] at hnone;cases hnone
   ·exact CO b ((b.bd.gT h.tr hf hxx).mono (by omega)) (by omega) (by have:=b.nx;show w.fs.next≤_;omega)
  ·exact Or.inl ⟨dn w.fs o.b,h3,by rw[if_neg h3]⟩
 ·exact Or.inl ⟨b9 w.fs o.a,h1,by rw[if_neg h1]⟩
theorem Dv (h:b.ino=0) (un:Fs→ar→Fs):mvB un f b=f:=by unfold mvB;rw[if_neg (fun h2=>h2 h)]
theorem ji.stay (m:ji f a b x n f e g) (hx:au a.ino f.aa=some x) {d1 d2:al} (P:rY f a b x d1 d2) {j:Int} (h:au j f.aa=some z):∃z',au j g.aa=some z'∧z'.kind=z.kind:=by
 rw[m.find];by_cases h1:x.ino=j
 ·rw[if_pos h1]
  rw[←h1,P.xi,hx] at h;cases h;exact⟨_,rfl,by split<;>rfl⟩
 ·rw[if_neg h1]
  by_cases h2:b.dir=j
  ·rw[if_pos h2]
   rw[←h2,P.b1] at h;cases h;refine⟨_,rfl, ?_⟩;show(mvD _ _ _).kind=_;rw[m.pre.mv.dk m.pre.tr,P.b2]
  ·rw[if_neg h2]
   by_cases h3:a.dir=j
   ·rw[if_pos h3]
    rw[←h3,P.a1] at h;cases h;refine⟨_,rfl, ?_⟩;show(aD a.dir f.aa).kind=_;rw[aR P.a1]
   ·rw[if_neg h3];exact⟨z,h,rfl⟩
theorem ji.none (m:ji f a b x n f e g) (hx:au a.ino f.aa=some x) {d1 d2:al} (P:rY f a b x d1 d2) {j:Int} (h:au j f.aa=none):au j g.aa=none:=by
 rw[m.find];by_cases h1:x.ino=j
 ·rw[←h1,P.xi,hx] at h;cases h
 rw[if_neg h1];by_cases h2:b.dir=j
 ·rw[←h2,P.b1] at h;cases h
 rw[if_neg h2];by_cases h3:a.dir=j
 ·rw[←h3,P.a1] at h;cases h
 rw[if_neg h3];exact h
theorem Gt (h:RW w) (b:Wb 549755813888 n w) (hn:n≤8990) (hp:cr o.a=true) (hq:cr o.b=true) (hu:fi o.b o.a=false):
 (∃e:Int,e≠0∧tq w o=(w,e))∨(∃x e,b9 w.fs o.a=0∧dn w.fs o.b=0∧c_ w.fs o.a=x∧wC w.fs (atP w.fs o.a).1 (atP w.fs o.b).1 x∧ji w.fs (atP w.fs o.a).1 (atP w.fs o.b).1 x n w.fs e (jk w.fs (atP w.fs o.a).1 (atP w.fs o.b).1)∧uP w.fs (atP w.fs o.a).1 (atP w.fs o.b).1=jk w.fs (atP w.fs o.a).1 (atP w.fs o.b).1∧
  tq w o=(⟨jk w.fs (atP w.fs o.a).1 (atP w.fs o.b).1,w.aq⟩,0)∧RW ⟨jk w.fs (atP w.fs o.a).1 (atP w.fs o.b).1,w.aq⟩∧Wb 549755813888 (n+2) ⟨jk w.fs (atP w.fs o.a).1 (atP w.fs o.b).1,w.aq⟩):=by
 have ew:=iF h.tr b.bd (by omega);unfold tq;by_cases h1:b9 w.fs o.a=0
 ·rw[if_pos h1]
  by_cases h3:dn w.fs o.b=0
  ·rw[if_pos h3]
   obtain⟨x,ok,hxi⟩:=Br h.tr ew.wf hp hq hu h1 h3;obtain⟨b0,bi⟩:=iW h3;obtain⟨e,m,m2⟩:=tN h.tr b.bd (by omega) ok;rw[Dv bi] at m;obtain⟨d1,d2,P⟩:=places h.tr ew.wf ok;refine Or.inr ⟨x,e,h1,h3,hxi,ok,m,m2,rfl, ?_, ?_⟩
   ·exact GD h m.tr (by rw[oo];exact Int.le_refl _) (fun j _ hnone=>m.none ok.hx P hnone) (fun k' _ z hz=>m.stay ok.hx P hz)
   ·exact CO b (m.bd.mono (by omega)) (by omega) (by rw[oo];have:=b.nx;omega)
  ·exact Or.inl ⟨dn w.fs o.b,h3,by rw[if_neg h3]⟩
 ·exact Or.inl ⟨b9 w.fs o.a,h1,by rw[if_neg h1]⟩
theorem Ci (h:RW w) (b:Wb 549755813888 n w) (hn:n≤8990) (hp:cr p=true) (hs1:1≤s) (hs2:s≤1073741824):
 (∃e:Int,e≠0∧jM w p (nd w s (atP w.fs p).1)=(w,e))∨(∃x e,b9 w.fs p=0∧c_ w.fs p=x∧au (atP w.fs p).1.ino w.fs.aa=some x∧x.entries= [] ∧cF s w.aq.kept=none∧xJ w.fs n (atP w.fs p).1 x e (dV w.fs (atP w.fs p).1)∧jM w p (nd w s (atP w.fs p).1)=(fY w s (aD (atP w.fs p).1.dir w.fs.aa) (atP w.fs p).1.name x,0)∧
  RW (fY w s (aD (atP w.fs p).1.dir w.fs.aa) (atP w.fs p).1.name x)∧Wb 549755813888 (n+2) (fY w s (aD (atP w.fs p).1.dir w.fs.aa) (atP w.fs p).1.name x)):=by
 have ew:=iF h.tr b.bd (by omega);unfold jM;by_cases h1:b9 w.fs p=0
 ·rw[if_pos h1]
  obtain⟨a0,x,hx,hxi⟩:=gz h1;rw[hxi];by_cases h2:0<x.entries.length
  ·exact Or.inl ⟨5,by decide,by rw[if_pos h2]⟩
  rw[if_neg h2];have hx0:x.entries= [] :=List.length_eq_zero_iff.1 (by omega);obtain⟨ga,am,an,_⟩:=d_ ew.wf hp a0;rcases G8 (s:=s) h b (by omega) ga an hx hx0 hs1 hs2 with⟨_,h3⟩ |⟨h3,e,t,t2,h4,h5,h6⟩
  ·exact Or.inl ⟨13,by decide,h3⟩
  ·exact Or.inr ⟨x,e,h1,rfl,hx,hx0,h3,t,h4,h5,h6.mono (by omega)⟩
 ·exact Or.inl ⟨b9 w.fs p,h1,by rw[if_neg h1]⟩
theorem Dq (h:RW w) (b:Wb 549755813888 n w) (hn:n≤8990) (hp:cr p=true):
 (∃e:Int,e≠0∧jM w p (lx w (atP w.fs p).1)=(w,e))∨(∃x e,b9 w.fs p=0∧c_ w.fs p=x∧xJ w.fs n (atP w.fs p).1 x e (dV w.fs (atP w.fs p).1)∧nY w.fs (atP w.fs p).1=dV w.fs (atP w.fs p).1∧jM w p (lx w (atP w.fs p).1)=(⟨dV w.fs (atP w.fs p).1,w.aq⟩,0)∧
  RW ⟨dV w.fs (atP w.fs p).1,w.aq⟩∧Wb 549755813888 (n+2) ⟨dV w.fs (atP w.fs p).1,w.aq⟩):=by
 have ew:=iF h.tr b.bd (by omega);unfold jM;by_cases h1:b9 w.fs p=0
 ·rw[if_pos h1]
  obtain⟨a0,x,hx,hxi⟩:=gz h1;rw[hxi];by_cases h2:0<x.entries.length
  ·exact Or.inl ⟨5,by decide,by rw[if_pos h2]⟩
  rw[if_neg h2];have hx0:x.entries= [] :=List.length_eq_zero_iff.1 (by omega);obtain⟨ga,am,an,_⟩:=d_ ew.wf hp a0;obtain⟨e,t,t2⟩:=taken h.tr b.bd (by omega) ga an hx hx0;unfold lx;rw[aR hx];by_cases h3:(w.aq.kept.any fun k=>decide (k.ino=x.ino))=true∧x.aI=1
  ·exact Or.inl ⟨13,by decide,by rw[if_pos h3]⟩
  rw[if_neg h3];have hne:=t.ent.ne h.tr;refine Or.inr ⟨x,e,h1,rfl,t,t2,rfl, ?_,CO b (t.bd.mono (by omega)) (by omega) (by rw[ui];have:=b.nx;omega)⟩;refine GD h t.tr (by rw[ui];exact Int.le_refl _) (fun j _ hj=> ?_) (fun k' hk' z hz=> ?_)
  ·rw[t.eq,dF hne]
   by_cases c1:x.ino=j
   ·rw[←c1,t.ent.hx] at hj;cases hj
   rw[if_neg c1];by_cases c2:(aD (atP w.fs p).1.dir w.fs.aa).ino=j
   ·rw[←c2,t.ent.hd] at hj;cases hj
   rw[if_neg c2];exact hj
  ·rw[t.eq,dF hne]
   by_cases c1:x.ino=k'.ino
   ·rw[if_pos c1,if_neg (fun hl=>h3 ⟨List.any_eq_true.2 ⟨k',hk',by simp [c1]⟩,hl⟩)]
    rw[←c1,t.ent.hx] at hz;cases hz;exact⟨_,rfl,rfl⟩
   rw[if_neg c1];by_cases c2:(aD (atP w.fs p).1.dir w.fs.aa).ino=k'.ino
   ·rw[if_pos c2]
    rw[←c2,t.ent.hd] at hz;cases hz;exact⟨_,rfl,rfl⟩
   ·rw[if_neg c2];exact⟨z,hz,rfl⟩
 ·exact Or.inl ⟨b9 w.fs p,h1,by rw[if_neg h1]⟩
theorem H7 (h:RW w) (b:Wb 549755813888 n w) (hn:n≤8990) (hp:cr o.a=true):RW (jI w o).1∧Wb 549755813888 (n+2) (jI w o).1∧((jI w o).2≠0→(jI w o).1=w):=by
 have ew:=iF h.tr b.bd (by omega);unfold jI;by_cases h1:dn w.fs o.a=0
 ·rw[if_pos h1]
  obtain⟨a0,ai⟩:=iW h1;obtain⟨ga,am,an,_⟩:=d_ ew.wf hp a0;rcases He (s:=o.slot) h b (by omega) ga ai with⟨e,he,h2⟩ |⟨k,_,_,_,_,⟨x,_,_,h2,h3,h4⟩ |⟨y,_,_,_,_,h2,h3,h4⟩⟩
  ·rw[h2];exact⟨h,b.mono (by omega),fun _=>rfl⟩
  ·rw[h2];exact⟨h3,h4.mono (by omega),fun h=>absurd rfl h⟩
  ·rw[h2];exact⟨h3,h4.mono (by omega),fun h=>absurd rfl h⟩
 ·rw[if_neg h1];exact⟨h,b.mono (by omega),fun _=>rfl⟩
theorem DE (h:RW w) (b:Wb 549755813888 n w):RW (ir w o).1∧Wb 549755813888 (n+2) (ir w o).1∧((ir w o).2≠0→(ir w o).1=w):=by
 unfold ir;by_cases h1:b9 w.fs o.a=0
 ·rw[if_pos h1]
  cases hs:cF o.slot w.aq.kept with
  |none=>exact⟨h,b.mono (by omega),fun _=>rfl⟩
  |some k=>
   simp only;by_cases h2:k.content=true∧k.ino=(c_ w.fs o.a).ino
   ·rw[if_pos h2]
    rcases F6 (s:=o.slot) h b with⟨e,he,h3⟩ |⟨k',x,_,_,_,_,_,h3,h4,h5⟩
    ·rw[h3];exact⟨h,b.mono (by omega),fun _=>rfl⟩
    ·rw[h3];exact⟨h4,h5.mono (by omega),fun h=>absurd rfl h⟩
   ·rw[if_neg h2];exact⟨h,b.mono (by omega),fun _=>rfl⟩
 ·rw[if_neg h1];exact⟨h,b.mono (by omega),fun _=>rfl⟩
structure ahk (o:Opn):Prop where
 kind:1≤o.kind∧o.kind≤10
 a:cr o.a=true
 slot:gw o.kind=true→1≤o.slot∧o.slot≤1073741824
 awg:gw o.kind=false→o.slot=0
 b:j6 o.kind=true→cr o.b=true
 b0:j6 o.kind=false→o.b= []
 data:o.kind=4→iY o.data=true
 awf:o.kind≠4→o.data= []
 under:o.kind=6→fi o.a o.b=false∧fi o.b o.a=false
theorem J5 (o:Opn):kp o=true↔ahk o:=by
 unfold kp;simp only[Bool.and_eq_true,decide_eq_true_eq,Bool.or_eq_true,Bool.not_eq_true',decide_eq_false_iff_not];constructor
 ·rintro⟨h1,h2,h3,h4,h5,h6⟩
  refine⟨h1,h2,fun h=> ?_,fun h=> ?_,fun h=> ?_,fun h=> ?_,fun h=> ?_,fun h=> ?_,fun h=> ?_⟩
  ·rw[h,if_pos rfl] at h3;exact of_decide_eq_true h3
  ·rw[h,if_neg (by simp)] at h3;exact of_decide_eq_true h3
  ·rw[h,if_pos rfl] at h4;exact h4
  ·rw[h,if_neg (by simp)] at h4;exact of_decide_eq_true h4
  ·rw[if_pos h] at h5;exact h5
  ·rw[if_neg h] at h5;exact of_decide_eq_true h5
  ·exact h6.resolve_left (fun h7=>h7 h)
 ·rintro⟨h1,h2,h3,h3',h4,h4',h5,h5',h6⟩
  refine⟨h1,h2, ?_, ?_, ?_, ?_⟩
  ·cases h:gw o.kind
   ·rw[if_neg (by simp)];exact decide_eq_true (h3' h)
   ·rw[if_pos rfl];exact decide_eq_true (h3 h)
  ·cases h:j6 o.kind
   ·rw[if_neg (by simp)];exact decide_eq_true (h4' h)
   ·rw[if_pos rfl];exact h4 h
  ·by_cases h:o.kind=4
   ·rw[if_pos h];exact h5 h
   ·rw[if_neg h];exact decide_eq_true (h5' h)
  ·by_cases h:o.kind=6
   ·exact Or.inr (h6 h)
   ·exact Or.inl h
theorem zX {t:Str} (h:iY t=true):Bw 3 t:=by
 unfold iY at h;simp only[Bool.and_eq_true,decide_eq_true_eq,Bool.not_eq_true'] at h;exact Or.inr (Or.inr ⟨rfl,h.1.1,h.1.2,h.2⟩)
theorem Dk (h:RW w) (b:Wb 549755813888 n w) (hn:n≤8990):RW (doO w o).1∧Wb 549755813888 (n+2) (doO w o).1∧((doO w o).2≠0→(doO w o).1=w):=by
 have same:RW w∧Wb 549755813888 (n+2) w:=⟨h,b.mono (by omega)⟩;unfold doO;cases hm:kp o
 ·exact⟨h,b.mono (by omega),fun _=>rfl⟩
 rw[if_pos rfl];have M:=(J5 o).1 hm;by_cases k1:o.kind=1
 ·rw[if_pos k1]
  rcases n5 h b hn M.a (kd:=2) (t:= []) (Or.inr (Or.inl ⟨rfl,rfl⟩)) (by simp) with⟨e,he,h2⟩ |⟨_,h2,_,h3,h4⟩
  ·rw[h2];exact⟨h,b.mono (by omega),fun _=>rfl⟩
  ·rw[h2];exact⟨h3,h4,fun h=>absurd rfl h⟩
 rw[if_neg k1];by_cases k2:o.kind=2
 ·rw[if_pos k2]
  rcases Av (o:=o) h b hn (M.b (by unfold j6;simp [k2])) with⟨e,he,h2⟩ |⟨t,_,h2,_,h3,h4⟩
  ·rw[h2];exact⟨h,b.mono (by omega),fun _=>rfl⟩
  ·rw[h2];exact⟨h3,h4,fun h=>absurd rfl h⟩
 rw[if_neg k2];by_cases k3:o.kind=3
 ·rw[if_pos k3]
  have hs:=M.slot (by unfold gw;simp [k3]);rcases xo (o:=o) h b hs.1 hs.2 with⟨e,he,h2⟩ |⟨x,y,_,_,_,_,_,_,_,h2,h3,h4⟩
  ·rw[h2];exact⟨h,b.mono (by omega),fun _=>rfl⟩
  ·rw[h2];exact⟨h3,h4,fun h=>absurd rfl h⟩
 rw[if_neg k3];by_cases k4:o.kind=4
 ·rw[if_pos k4]
  have ht:=zX (M.data k4);rcases n5 h b hn M.a (kd:=3) (t:=o.data) ht (by rcases ht with h|⟨h,_⟩ |⟨_,_,h,_⟩<;>first|(cases h) |omega) with⟨e,he,h2⟩ |⟨_,h2,_,h3,h4⟩
  ·rw[h2];exact⟨h,b.mono (by omega),fun _=>rfl⟩
  ·rw[h2];exact⟨h3,h4,fun h=>absurd rfl h⟩
 rw[if_neg k4];by_cases k5:o.kind=5
 ·rw[if_pos k5]
  rcases AL (o:=o) h b hn (M.b (by unfold j6;simp [k5])) with⟨e,he,h2⟩ |⟨x,_,_,_,_,_,_,_,h2,_,h3,h4⟩
  ·rw[h2];exact⟨h,b.mono (by omega),fun _=>rfl⟩
  ·rw[h2];exact⟨h3,h4,fun h=>absurd rfl h⟩
 rw[if_neg k5];by_cases k6:o.kind=6
 ·rw[if_pos k6]
  rcases Gt (o:=o) h b hn M.a (M.b (by unfold j6;simp [k6])) (M.under k6).2 with⟨e,he,h2⟩ |⟨x,e,_,_,_,_,_,_,h2,h3,h4⟩
  ·rw[h2];exact⟨h,b.mono (by omega),fun _=>rfl⟩
  ·rw[h2];exact⟨h3,h4,fun h=>absurd rfl h⟩
 rw[if_neg k6];by_cases k7:o.kind=7
 ·rw[if_pos k7]
  have hs:=M.slot (by unfold gw;simp [k7]);rcases Ci (p:=o.a) h b hn M.a hs.1 hs.2 with⟨e,he,h2⟩ |⟨x,e,_,_,_,_,_,_,h2,h3,h4⟩
  ·rw[h2];exact⟨h,b.mono (by omega),fun _=>rfl⟩
  ·rw[h2];exact⟨h3,h4,fun h=>absurd rfl h⟩
 rw[if_neg k7];by_cases k8:o.kind=8
 ·rw[if_pos k8]
  rcases Dq (p:=o.a) h b hn M.a with⟨e,he,h2⟩ |⟨x,e,_,_,_,_,h2,h3,h4⟩
  ·rw[h2];exact⟨h,b.mono (by omega),fun _=>rfl⟩
  ·rw[h2];exact⟨h3,h4,fun h=>absurd rfl h⟩
 rw[if_neg k8];by_cases k9:o.kind=9
 ·rw[if_pos k9];exact H7 h b hn M.a
 ·rw[if_neg k9];exact DE h b
end
def Fs.nx (f:Fs) (c:Int):Fs:=⟨f.aA,f.aH,c,f.aa⟩
def ao.nx (w:ao) (c:Int):ao:=⟨w.fs.nx c,w.aq⟩
section
variable {w:ao} {f g:Fs} {d x y z:al} {nm p q t:Str} {e:Entry} {n m:Nat} {s i:Int} {k:Kept} {a b:ar} {o:Opn}
theorem F9 (wf:WS f) (wg:WS g) (hf:iJ f d nm) (mo:re f g d nm x) (hp:(cj p).2=true) (ha:atP f p=(a,0)) (hd:a.dir=d.ino) (hn:a.name=nm):atP g p=(⟨a.dir,a.name,x.ino⟩,0):=by
 have hex:=mo.ext wf wg hf;obtain⟨r,hr,_⟩:=wf.I8;obtain⟨u1,u2⟩:=hex.here hr;have h1:cB f.aa (cj p).1 dm=(a,0):=by
  unfold atP at ha;rw[if_pos hp] at ha;exact ha
 have h2:=(hex.cB _ _ _ u2 h1).1;rw[u1] at h2;unfold atP;rw[if_pos hp];show cB g.aa (cj p).1 ⟨0, [],1⟩=_;rw[h2];unfold p9;rw[if_pos ⟨hd,hn⟩,hd,hn]
theorem Jx {kd:Int} (ht:Tree f) (hf:iJ f d nm) (hx:au f.next f.aa=none) (hgf:∀j,au j g.aa=if f.next=j then some y else if d.ino=j then some (d.bS nm f.next) else au j f.aa) (hg:cG g.aa) (h1:g.aA=f.aA) (h2:g.aH=f.aH) (h3:g.next=f.next+1) (hyi:y.ino=f.next) (hyl:y.aI=1):dG g (d.bS nm f.next) nm y=f.nx (f.next+1):=by
 have hs:=(ht.eN hf.hd).2.2.2.2.1;have hne:y.ino≠(d.bS nm f.next).ino:=fun e1=>by
  have e2:f.next=d.ino:=by rw[←hyi];exact e1
  have:=hf.hd;rw[←e2,hx] at this;cases this
 have hm:=ml (f:=g) (d:=d.bS nm f.next) (x:=y) (nm:=nm);refine uB (by rw[hm.1,h1];rfl) (by rw[hm.2.1,h2];rfl) (by rw[hm.2.2,h3];rfl) (qJ hg) ht.sort fun j=> ?_
 show _=au j f.aa;rw[dF hne,hyi,if_pos hyl];show(if f.next=j then none else if d.ino=j then some ((d.bS nm f.next).cn nm) else _)=_;by_cases c1:f.next=j
 ·rw[if_pos c1,←c1,hx]
 rw[if_neg c1,hgf,if_neg c1];by_cases c2:d.ino=j
 ·rw[if_pos c2,←c2,hf.hd]
  show some (al.mk d.ino d.kind d.aI d.data d.parent (cN nm (fe ⟨nm,f.next⟩ d.entries)))=some d;rw[qA hs hf.h0]
 ·rw[if_neg c2,if_neg c2]
theorem B8 (mo:re f g d nm x):Ent g (d.bS nm x.ino) nm x ⟨nm,x.ino⟩:=by
 refine⟨?_, ?_,rfl, ?_⟩
 ·show au d.ino g.aa=_
  rw[mo.find,if_neg mo.ne,if_pos rfl]
 ·show cR nm (fe ⟨nm,x.ino⟩ d.entries)=_
  rw[qI,if_pos rfl]
 ·rw[mo.find,if_pos rfl]
theorem CZ (mo:re f g d nm x) (h:d.ino=i):aD i g.aa=d.bS nm x.ino:=by
 refine aR ?_;rw[mo.find,if_neg (by rw[←h];exact mo.ne),if_pos h]
theorem Oo (h:RW w) (hk:k∈w.aq.kept):k.ino<w.fs.next:=by
 obtain⟨_,_,_,z,hz,_⟩:=h.kk k hk;rcases hz with hz|hz
 ·exact(h.tr.eN hz).2.2.2.1
 ·exact(h.jg hz).2.2.2.1
theorem zF (hp:cr p=true):kp ⟨8,0,p, [], []⟩=true:=by
 unfold kp gw j6;simp [hp]
theorem ux {kd:Int} (h:RW w) (b:Wb 549755813888 n w) (hn:n≤8980) (hp:cr p=true) (hfree:dn w.fs p=0) (mk:Made w.fs n (atP w.fs p).1 kd t (pt w.fs (atP w.fs p).1 kd t)):
 doO ⟨pt w.fs (atP w.fs p).1 kd t,w.aq⟩ ⟨8,0,p, [], []⟩=(w.nx (w.fs.next+1),0):=by
 obtain⟨a0,ai⟩:=iW hfree;have ha:atP w.fs p=((atP w.fs p).1,0):=by rw[←a0]
 have ew:=iF h.tr b.bd (by omega);have eg:=iF mk.tr mk.bd (by omega);obtain⟨_,_,_,_,_,hpl⟩:=d_ ew.wf hp a0;generalize (atP w.fs p).1=a at*;have hat:=F9 ew.ws eg.ws mk.free mk.more hpl ha mk.ino.symm rfl;generalize hg:pt w.fs a kd t=g at*;have hatx:atP g p=(⟨a.dir,a.name,w.fs.next⟩,0):=hat;have hgx:au w.fs.next g.aa=some (n3 w.fs a kd t):=by rw[mk.more.find,if_pos (show(n3 w.fs a kd t).ino=w.fs.next from rfl)]
 have hth:b9 g p=0:=by
  unfold b9;rw[hatx,if_pos rfl];simp only;rw[hgx]
 have hino:c_ g p=n3 w.fs a kd t:=by
  unfold c_;rw[hatx];exact aR hgx
 unfold doO;rw[zF hp,if_pos rfl];simp only;rw[if_neg (by decide),if_neg (by decide),if_neg (by decide),if_neg (by decide),if_neg (by decide),if_neg (by decide),if_neg (by decide),if_pos trivial];unfold jM;simp only;rw[hth,if_pos rfl,hino,if_neg (by simp [n3]),hatx];unfold lx;simp only;rw[aR hgx,if_neg (fun hh=> ?_)]
 ·have hen:=B8 mk.more
  have hdir:=CZ mk.more mk.ino;rw[←hdir] at hen;have hu:=(AP (s:=⟨a.dir,a.name,w.fs.next⟩) hen mk.tr rfl).1;rw[hu];have hb:=Jx (g:=g) (y:=n3 w.fs a kd t) (kd:=kd) h.tr mk.free (wW h.tr) (fun j=>mk.more.find j) mk.tr.sort mk.max.1 mk.max.2 mk.next rfl rfl;show((⟨dG g (aD a.dir g.aa) a.name (n3 w.fs a kd t),w.aq⟩:ao),(0:Int))=_;rw[hdir];show((⟨dG g ((aD a.dir w.fs.aa).bS a.name w.fs.next) a.name (n3 w.fs a kd t),w.aq⟩:ao),(0:Int))=_;rw[hb];rfl
 ·obtain⟨k',hk',hk2⟩:=List.any_eq_true.1 hh.1
  have h1:=Oo h hk';have h2:k'.ino=w.fs.next:=of_decide_eq_true hk2;omega
theorem H4 (h:RW w) (b:Wb 549755813888 n w) (hn:n≤8980) (hp:cr p=true) (hfree:dn w.fs p=0) (hxx:au x.ino w.fs.aa=some x) (hk:x.kind≠2) (hf:iJ w.fs (aD (atP w.fs p).1.dir w.fs.aa) (atP w.fs p).1.name) (hs:(aD (atP w.fs p).1.dir w.fs.aa).ino=(atP w.fs p).1.dir) (hne:x.ino≠(aD (atP w.fs p).1.dir w.fs.aa).ino):
 doO ⟨gT w.fs (aD (atP w.fs p).1.dir w.fs.aa) (atP w.fs p).1.name x,w.aq⟩ ⟨8,0,p, [], []⟩=(w,0):=by
 obtain⟨a0,ai⟩:=iW hfree;have ha:atP w.fs p=((atP w.fs p).1,0):=by rw[←a0]
 have ew:=iF h.tr b.bd (by omega);have tg:=BH h.tr hf hxx hk;have eg:=iF tg (b.bd.gT h.tr hf hxx) (by omega);obtain⟨_,_,_,_,_,hpl⟩:=d_ ew.wf hp a0;generalize (atP w.fs p).1=a at*;have mo:re w.fs (gT w.fs (aD a.dir w.fs.aa) a.name x) (aD a.dir w.fs.aa) a.name (x.cX (x.aI+1)):=zJ hxx hne;have hat:=F9 ew.ws eg.ws hf mo hpl ha hs.symm rfl;have hlp:=zD h.tr hxx (IG h.tr hxx hk);have hback:=GS h.tr hf hxx hne (by omega);generalize gT w.fs (aD a.dir w.fs.aa) a.name x=g at*;have hatx:atP g p=(⟨a.dir,a.name,x.ino⟩,0):=hat;have hgx:au x.ino g.aa=some (x.cX (x.aI+1)):=by rw[mo.find,if_pos (show(x.cX (x.aI+1)).ino=x.ino from rfl)]
 have hth:b9 g p=0:=by
  unfold b9;rw[hatx,if_pos rfl];simp only;rw[hgx]
 have hino:c_ g p=x.cX (x.aI+1):=by
  unfold c_;rw[hatx];exact aR hgx
 have hx0:x.entries= [] :=h.tr.A6 hxx hk;unfold doO;rw[zF hp,if_pos rfl];simp only;rw[if_neg (by decide),if_neg (by decide),if_neg (by decide),if_neg (by decide),if_neg (by decide),if_neg (by decide),if_neg (by decide),if_pos trivial];unfold jM;simp only;rw[hth,if_pos rfl,hino,if_neg (by show¬0<x.entries.length;rw[hx0];simp),hatx];unfold lx;simp only;rw[aR hgx,if_neg (fun hh=>by have:x.aI+1=1:=hh.2;omega)];have hen:=B8 mo;have hdir:=CZ mo hs;rw[←hdir] at hen;have hu:=(AP (s:=⟨a.dir,a.name,x.ino⟩) hen tg rfl).1;rw[hu];show((⟨dG g (aD a.dir g.aa) a.name (x.cX (x.aI+1)),w.aq⟩:ao),(0:Int))=_;rw[hdir];show((⟨dG g ((aD a.dir w.fs.aa).bS a.name x.ino) a.name (x.cX (x.aI+1)),w.aq⟩:ao),(0:Int))=_;rw[hback]
theorem ET (h:RW w) (b:Wb 549755813888 n w) (hp:cr p=true) (hs1:1≤s) (hs2:s≤1073741824) (hfile:f_ w.fs p=0) (hy:au (atP w.fs p).1.ino w.fs.aa=some y) (hyy:au y.ino w.fs.aa=some y) (hk:y.kind=1) (hs:cF s w.aq.kept=none) (hfit:cO w.fs 0 ((t.length:Int) - (y.data.length:Int))=true):
 doO ⟨w.fs.set (y.cy t),(nG w s y).aq⟩ ⟨10,s,p, [], []⟩=(w,0):=by
 obtain⟨a0,_⟩:=wh hfile;have hsim:=CW (f:=w.fs) (d:=t) hyy hk;have hat:atP (w.fs.set (y.cy t)) p=atP w.fs p:=(Nb hsim p).symm;have hyi:=(aP hy).2;have hgy:au y.ino (w.fs.set (y.cy t)).aa=some (y.cy t):=by
  show au y.ino (bE _ w.fs.aa)=_;rw[bF,if_pos (show(y.cy t).ino=y.ino from rfl)]
 have hth:b9 (w.fs.set (y.cy t)) p=0:=by
  unfold b9;rw[hat,if_pos a0,←hyi,hgy]
 have hino:c_ (w.fs.set (y.cy t)) p=y.cy t:=by
  unfold c_;rw[hat,←hyi];exact aR hgy
 have hfs:cF s (nG w s y).aq.kept=some ⟨s,y.ino,true,y.data⟩:=by
  show b7 Kept.slot s (jc ltI Kept.slot ⟨s,y.ino,true,y.data⟩ w.aq.kept)=_;rw[qR (oY hs),if_pos rfl]
 have hfit2:cO (w.fs.set (y.cy t)) 0 ((y.data.length:Int) - ((y.cy t).data.length:Int))=true:=by
  have hb:=eR (x:=y.cy t) h.tr.sort;rw[show(y.cy t).ino=y.ino from rfl,hyy] at hb;have e1:byt y=y.data.length:=by unfold byt;rw[if_pos hk]
  have e2:byt (y.cy t)=t.length:=by unfold byt;rw[if_pos (show(y.cy t).kind=1 from hk)];rfl
  simp only[iD,e1,e2] at hb;have hl:=gB (x:=y.cy t) h.tr.sort;rw[show(y.cy t).ino=y.ino from rfl,hyy] at hl;have hl':(bE (y.cy t) w.fs.aa).length=w.fs.aa.length:=hl;have hff:=h.tr.fits;unfold cO at hff⊢;simp only[Bool.and_eq_true,decide_eq_true_eq] at hff⊢;show((bE (y.cy t) w.fs.aa).length:Int)+0≤w.fs.aA∧bytesOf (bE (y.cy t) w.fs.aa)+((y.data.length:Int) - (t.length:Int))≤w.fs.aH;omega
 have hmay:kp ⟨10,s,p, [], []⟩=true:=by
  unfold kp gw j6;simp [hp,hs1,hs2]
 unfold doO;rw[hmay,if_pos rfl];simp only;rw[if_neg (by decide),if_neg (by decide),if_neg (by decide),if_neg (by decide),if_neg (by decide),if_neg (by decide),if_neg (by decide),if_neg (by decide),if_neg (by decide)];unfold ir;simp only;rw[hth,if_pos rfl,hfs];simp only;rw[hino,if_pos ⟨trivial,rfl⟩];unfold oz;rw[hfs];simp only;rw[if_pos trivial,hgy];simp only;rw[hfit2,if_pos rfl,Db h hyy hs]
theorem JX (ht:Tree f) (w:WF f) (hp:cr p=true) (ha:atP f p=(a,0)) (tk:xJ f n a x e g):atP g p=(⟨a.dir,a.name,0⟩,0):=by
 have a0:(atP f p).2=0:=by rw[ha]
 obtain⟨_,_,_,hgo,hne,hpl⟩:=d_ w hp a0;rw[ha] at hgo;have hgo:cB f.aa (cj p).1 dm=(a,0):=hgo;have hxne:=tk.ent.ne ht;have hd:=tk.ent.hd;rw[tk.H8] at hd hxne;have hfind:=fun j=>dF (f:=f) (d:=aD a.dir f.aa) (nm:=a.name) (x:=x) (tk.ent.ne ht) j
 rw[←tk.eq,tk.H8] at hfind;have hx1:x.ino≠1:=fun e1=>ht.qd tk.ent.hd tk.ent.mem.1 (by rw[tk.ent.hn,e1])
 unfold atP;rw[if_pos hpl];rcases mz (cj p).1 with h0|⟨ns,c,h0⟩
 ·exact absurd h0 hne
 rw[h0] at hgo⊢;obtain⟨u,dd,hu1,hu2,hu3,hu4⟩:=nS hgo;have hud:u.ino=a.dir:=by rw[hu4];exact(aP hu2).2.symm
 have hc:c=a.name:=by rw[hu4]
 have hw0:∀{D:Int},D≠x.ino→¬∃m,Way f.aa x.ino D m:=fun hD ⟨m,hm⟩=>by
  rcases hm.head with⟨_,h1⟩ |⟨_,z,e',_,hz,he',_⟩
  ·exact hD h1
  ·rw[tk.ent.hx] at hz;cases hz
   rw[tk.xe] at he';cases he'
 have hD0:a.dir≠0:=fun e1=>by rw[e1,w.zero] at hd;cases hd
 have hk:=ug (l:=g.aa) w (D:=a.dir) (X:=x.ino) (B:=x.ino) (fun k q=>k=a.dir∧q=a.name) (fun k z hz hzk hkb=>by
  rw[hfind,if_neg (fun e1=>hkb e1.symm)];by_cases c2:a.dir=k
  ·rw[if_pos c2]
   rw[←c2,hd] at hz;cases hz;refine⟨_,rfl,hzk,rfl,fun q hq=> ?_⟩;show cx q (cN a.name _)=_;rw[kf,if_neg (fun e1=>hq ⟨c2.symm,e1.symm⟩)]
  ·rw[if_neg c2]
   exact⟨z,hz,hzk,rfl,fun _ _=>rfl⟩) (fun k z q hz hpq=>by
 obtain⟨rfl,rfl⟩:=hpq
 rw[hd] at hz;cases hz
 left
 rw[zR tk.ent.he,tk.ent.hn]) (hw0 (fun e1=>hxne e1.symm)) (fun e1=>hxne e1.symm) (fun z hz=>by rw[tk.ent.hx] at hz;cases hz;exact tk.xe) hD0 hu1 hud (fun _=>fun e1=>hx1 e1.symm)
 rw[p_,hk,if_pos rfl];have hgd:au u.ino g.aa=some ((aD a.dir f.aa).cn a.name):=by
  rw[hfind,hud,if_neg hxne,if_pos rfl]
 have hkk:((aD a.dir f.aa).cn a.name).kind=2:=tk.ent.kind ht;rw[eD hgd hkk];simp only[cB,Prod.mk.injEq,and_true];have hi:((aD a.dir f.aa).cn a.name).ino=a.dir:=tk.H8;have he:cx c ((aD a.dir f.aa).cn a.name).entries=0:=by
  show cx c (cN a.name _)=0;rw[kf,if_pos hc.symm]
 rw[hi,he,hc]
theorem DY (h:RW w) (b:Wb 549755813888 n w) (hn:n≤8980) (hp:cr p=true) (hs1:1≤s) (hs2:s≤1073741824) (hth:b9 w.fs p=0) (hs:cF s w.aq.kept=none) (tk:xJ w.fs n (atP w.fs p).1 x e (dV w.fs (atP w.fs p).1)):
 doO (fY w s (aD (atP w.fs p).1.dir w.fs.aa) (atP w.fs p).1.name x) ⟨9,s,p, [], []⟩=(w,0):=by
 have ew:=iF h.tr b.bd (by omega);obtain⟨a0,_⟩:=gz hth;have ha:atP w.fs p=((atP w.fs p).1,0):=by rw[←a0]
 obtain⟨_,am,an,_⟩:=d_ ew.wf hp a0;have hat:=JX h.tr ew.wf hp ha tk;generalize (atP w.fs p).1=a at*;rw[tk.eq] at hat;have hmay:kp ⟨9,s,p, [], []⟩=true:=by
  unfold kp gw j6;simp [hp,hs1,hs2]
 have hfr:dn (fY w s (aD a.dir w.fs.aa) a.name x).fs p=0:=by
  show dn (dG w.fs (aD a.dir w.fs.aa) a.name x) p=0;unfold dn;rw[hat,if_pos rfl,if_pos rfl]
 unfold doO;rw[hmay,if_pos rfl];simp only;rw[if_neg (by decide),if_neg (by decide),if_neg (by decide),if_neg (by decide),if_neg (by decide),if_neg (by decide),if_neg (by decide),if_neg (by decide),if_pos trivial];unfold jI;simp only;rw[hfr,if_pos rfl];have hat2:(atP (fY w s (aD a.dir w.fs.aa) a.name x).fs p).1=⟨a.dir,a.name,0⟩:=by
  show(atP (dG w.fs _ _ _) p).1=_;rw[hat]
 rw[hat2];exact H9 h b am hs1 hs2 hs tk
theorem Hw (ht:Tree f) (ok:wC f a b x) {d1 d2:al} (P:rY f a b x d1 d2) (b0:b.ino=0) (hf2:cR b.name d2.entries=none) (m:ji f a b x n f e g) {x':al} {e':Entry} {n':Nat} {f':Fs} (m2:ji g ⟨b.dir,b.name,a.ino⟩ ⟨a.dir,a.name,0⟩ x' n' g e' f') (hm1:f'.aA=f.aA) (hm2:f'.aH=f.aH) (hm3:f'.next=f.next):f'=f:=by
 have hxi:=P.xi;have hgx:au a.ino g.aa=some (if x.kind=2 then x.fZ b.dir else x):=by rw[m.find,if_pos hxi]
 have hx'i:x'.ino=a.ino:=m2.pre.hx;have hx':x'=if x.kind=2 then x.fZ b.dir else x:=by
  have h1:=m2.pre.mv.ent.hx;rw[hx'i,hgx] at h1;exact(Option.some.inj h1).symm
 have hent:=m.pre.mv.ent;rw[aR P.a1] at hent;have hs1:=(ht.eN P.a1).2.2.2.2.1;have hs2:=(ht.eN P.b1).2.2.2.2.1;have d1i:=(aP P.a1).2;have d2i:=(aP P.b1).2;have hne1:=m.xne.1;have hne2:=m.xne.2;have e1:e=⟨a.name,x.ino⟩:=by
  have h1:=hent.mem.2;have h2:=hent.hn;cases e;simp only at h1 h2;rw[h1,h2]
 have he1:cR a.name d1.entries=some ⟨a.name,x.ino⟩:=by rw[←e1];exact hent.he
 have hd1:fe ⟨a.name,x.ino⟩ (cN a.name d1.entries)=d1.entries:=qK hs1 he1;refine uB hm1 hm2 hm3 m2.tr.sort ht.sort fun j=> ?_
 rw[m2.find];show(if x'.ino=j then some (if x'.kind=2 then x'.fZ a.dir else x') else if a.dir=j then some ((mvD (aD b.dir g.aa) (aD a.dir g.aa) b.name).bS a.name x'.ino) else if b.dir=j then some ((aD b.dir g.aa).cn b.name) else au j g.aa)=_;by_cases c1:x'.ino=j
 ·rw[if_pos c1,←c1,hx'i,ok.hx,hx']
  by_cases hk:x.kind=2
  ·rw[if_pos hk,if_pos (show(x.fZ b.dir).kind=2 from hk)]
   have hp:x.parent=a.dir:=ht.parent ok.hx hk P.a1 hent.mem.1 (by rw[hent.hn,hxi]);show some (al.mk x.ino x.kind x.aI x.data a.dir x.entries)=some x;rw[←hp]
  ·rw[if_neg hk,if_neg hk]
 rw[if_neg c1];have c1':¬x.ino=j:=fun e2=>c1 (by rw[hx'i,←hxi];exact e2)
 by_cases hab:a.dir=b.dir
 ·have hdd:d1=d2:=by
   have:=P.a1;rw[hab,P.b1] at this;exact(Option.some.inj this).symm
  have hgd:aD a.dir g.aa=(d1.cn a.name).bS b.name x.ino:=by
   refine aR ?_;rw[m.find,if_neg hne2,if_pos hab.symm,aR P.a1,aR P.b1];unfold mvD;rw[if_pos (by rw[d1i,d2i,hab])]
  by_cases c2:a.dir=j
  ·rw[if_pos c2,←c2,P.a1,←hab,hgd]
   unfold mvD;rw[if_pos rfl,hx'i,←hxi];show some (al.mk d1.ino d1.kind d1.aI d1.data d1.parent (fe ⟨a.name,x.ino⟩ (cN b.name (fe ⟨b.name,x.ino⟩ (cN a.name d1.entries)))))=some d1;have hf3:cR b.name (cN a.name d1.entries)=none:=by
    rw[iZ];split
    ·rfl
    ·rw[hdd];exact hf2
   rw[qA (eA hs1) hf3,hd1]
  ·rw[if_neg c2,if_neg (by rw[←hab];exact c2),m.find,if_neg c1',if_neg (by rw[←hab];exact c2),if_neg c2]
 ·have hga:aD a.dir g.aa=d1.cn a.name:=by
   refine aR ?_;rw[m.find,if_neg hne2,if_neg (fun e2=>hab e2.symm),if_pos rfl,aR P.a1]
  have hgb:aD b.dir g.aa=d2.bS b.name x.ino:=by
   refine aR ?_;rw[m.find,if_neg hne1,if_pos rfl,aR P.a1,aR P.b1];unfold mvD;rw[if_neg (by rw[d1i,d2i];exact hab)]
  by_cases c2:a.dir=j
  ·rw[if_pos c2,←c2,P.a1,hga,hgb]
   unfold mvD;rw[if_neg (by show¬d2.ino=d1.ino;rw[d1i,d2i];exact fun e2=>hab e2.symm),hx'i,←hxi];show some (al.mk d1.ino d1.kind d1.aI d1.data d1.parent (fe ⟨a.name,x.ino⟩ (cN a.name d1.entries)))=some d1;rw[hd1]
  ·rw[if_neg c2]
   by_cases c3:b.dir=j
   ·rw[if_pos c3,←c3,P.b1,hgb]
    show some (al.mk d2.ino d2.kind d2.aI d2.data d2.parent (cN b.name (fe ⟨b.name,x.ino⟩ d2.entries)))=some d2;rw[qA hs2 hf2]
   ·rw[if_neg c3,m.find,if_neg c1',if_neg c3,if_neg c2]
theorem Ae {a b:ar}:(jk f a b).aA=f.aA∧(jk f a b).aH=f.aH:=by
 have h1:(mvB dV f b).aA=f.aA∧(mvB dV f b).aH=f.aH:=by
  unfold mvB;split
  ·unfold dV;split<;>exact⟨rfl,rfl⟩
  ·exact⟨rfl,rfl⟩
 exact h1
theorem HH (h:RW w) (b:Wb 549755813888 n w) (hn:n≤8980) (hp:cr p=true) (hq:cr q=true) (hu1:fi p q=false) (hu2:fi q p=false) (hth:b9 w.fs p=0) (hfree:dn w.fs q=0) (ok:wC w.fs (atP w.fs p).1 (atP w.fs q).1 x) (m:ji w.fs (atP w.fs p).1 (atP w.fs q).1 x n w.fs e (jk w.fs (atP w.fs p).1 (atP w.fs q).1)) (rw1:RW ⟨jk w.fs (atP w.fs p).1 (atP w.fs q).1,w.aq⟩):
 doO ⟨jk w.fs (atP w.fs p).1 (atP w.fs q).1,w.aq⟩ ⟨6,0,q,p, []⟩=(w,0):=by
 have ew:=iF h.tr b.bd (by omega);obtain⟨a0,_⟩:=gz hth;obtain⟨b0,bi⟩:=iW hfree;obtain⟨_,_,_,ago,ane,apl⟩:=d_ ew.wf hp a0;obtain⟨_,bm,_,bgo,bne,bpl⟩:=d_ ew.wf hq b0;have hmx:=Ae (f:=w.fs) (a:=(atP w.fs p).1) (b:=(atP w.fs q).1);have hmn:=oo (f:=w.fs) (a:=(atP w.fs p).1) (b:=(atP w.fs q).1);obtain⟨d1,d2,P⟩:=places h.tr ew.wf ok;have k1:=m.at h.tr ew.wf P ok bgo bne;have k2:=m.gone h.tr ew.wf P ok ago ane;have hfree2:=m.pre.mv.free;generalize (atP w.fs p).1=a at*;generalize (atP w.fs q).1=c at*;have hf2:cR c.name d2.entries=none:=by have:=hfree2.h0;rwa[aR P.b1] at this
 generalize jk w.fs a c=g at*;have eg:=iF m.tr m.bd (by omega);have hatq:atP g q=(⟨c.dir,c.name,a.ino⟩,0):=by unfold atP;rw[if_pos bpl];exact k1
 have hatp:atP g p=(⟨a.dir,a.name,0⟩,0):=by unfold atP;rw[if_pos apl];exact k2
 have hgx:au a.ino g.aa=some (if x.kind=2 then x.fZ c.dir else x):=by rw[m.find,if_pos P.xi]
 have hth2:b9 g q=0:=by
  unfold b9;rw[hatq,if_pos rfl];simp only;rw[hgx]
 have hfr2:dn g p=0:=by
  unfold dn;rw[hatp,if_pos rfl,if_pos rfl]
 obtain⟨x',ok2,_⟩:=Br m.tr eg.wf hq hp hu1 hth2 hfr2;rw[hatq,hatp] at ok2;obtain⟨e',m2,_⟩:=tN m.tr m.bd (by omega) ok2;rw[Dv rfl] at m2;have hmx2:=Ae (f:=g) (a:=⟨c.dir,c.name,a.ino⟩) (b:=⟨a.dir,a.name,0⟩);have hmn2:=oo (f:=g) (a:=⟨c.dir,c.name,a.ino⟩) (b:=⟨a.dir,a.name,0⟩);have hb:=Hw h.tr ok P bi hf2 m m2 (by rw[hmx2.1,hmx.1]) (by rw[hmx2.2,hmx.2]) (by rw[hmn2,hmn]);have hmay:kp ⟨6,0,q,p, []⟩=true:=by
  unfold kp gw j6;simp [hp,hq,hu1,hu2]
 unfold doO;rw[hmay,if_pos rfl];simp only;rw[if_neg (by decide),if_neg (by decide),if_neg (by decide),if_neg (by decide),if_neg (by decide),if_pos trivial];unfold tq;simp only;rw[hth2,if_pos rfl,hfr2,if_pos rfl,hatq,hatp];simp only;rw[hb]
theorem Oa (h:RW w) (b:Wb 549755813888 n w) (hn:n≤8980) (h0:(doO w o).2=0) (hi:(eU o).2=true):∃c,w.fs.next≤c∧doO (doO w o).1 (eU o).1=(w.nx c,0):=by
 have hw:w.nx w.fs.next=w:=rfl;unfold doO at h0;cases hm:kp o
 ·rw[hm] at h0;simp at h0
 have M:=(J5 o).1 hm;rw[hm,if_pos rfl] at h0;have hdo:doO w o=(if o.kind=1 then m_ w o.a 2 [] else if o.kind=2 then vr w o else if o.kind=3 then ou w o else if o.kind=4 then m_ w o.a 3 o.data else if o.kind=5 then rr w o else if o.kind=6 then tq w o else
  if o.kind=7 then jM w o.a (nd w o.slot (atP w.fs o.a).1) else if o.kind=8 then jM w o.a (lx w (atP w.fs o.a).1) else if o.kind=9 then jI w o else ir w o):=by
  unfold doO;rw[hm,if_pos rfl]
 rw[hdo];by_cases k1:o.kind=1
 ·rw[if_pos k1] at h0⊢
  have hinv:(eU o).1=⟨8,0,o.a, [], []⟩:=by unfold eU;rw[if_pos (Or.inl k1)]
  rw[hinv];rcases n5 h b (by omega) M.a (kd:=2) (t:= []) (Or.inr (Or.inl ⟨rfl,rfl⟩)) (by simp) with⟨e,he,h2⟩ |⟨h1,h2,mk,_,_⟩
  ·rw[h2] at h0;exact absurd h0 he
  ·rw[h2];exact⟨w.fs.next+1,by omega,ux h b hn M.a h1 mk⟩
 rw[if_neg k1] at h0⊢;by_cases k2:o.kind=2
 ·rw[if_pos k2] at h0⊢
  have hinv:(eU o).1=⟨8,0,o.b, [], []⟩:=by unfold eU;rw[if_neg (by omega),if_pos (Or.inl k2)]
  rw[hinv];have hpb:=M.b (by unfold j6;simp [k2]);rcases Av (o:=o) h b (by omega) hpb with⟨e,he,h2⟩ |⟨t,h1,h2,mk,_,_⟩
  ·rw[h2] at h0;exact absurd h0 he
  ·rw[h2];exact⟨w.fs.next+1,by omega,ux h b hn hpb h1 mk⟩
 rw[if_neg k2] at h0⊢;by_cases k3:o.kind=3
 ·rw[if_pos k3] at h0⊢
  have hinv:(eU o).1=⟨10,o.slot,o.b, [], []⟩:=by unfold eU;rw[if_neg (by omega),if_neg (by omega),if_pos k3]
  rw[hinv];have hpb:=M.b (by unfold j6;simp [k3]);have hs:=M.slot (by unfold gw;simp [k3]);rcases xo (o:=o) h b hs.1 hs.2 with⟨e,he,h2⟩ |⟨x,y,h1,_,hy,hyy,hk,hss,hfit,h2,_,_⟩
  ·rw[h2] at h0;exact absurd h0 he
  ·rw[h2];exact⟨w.fs.next,by omega,by rw[hw];exact ET h b hpb hs.1 hs.2 h1 hy hyy hk hss hfit⟩
 rw[if_neg k3] at h0⊢;by_cases k4:o.kind=4
 ·rw[if_pos k4] at h0⊢
  have hinv:(eU o).1=⟨8,0,o.a, [], []⟩:=by unfold eU;rw[if_pos (Or.inr k4)]
  rw[hinv];have ht:=zX (M.data k4);rcases n5 h b (by omega) M.a (kd:=3) (t:=o.data) ht (by rcases ht with h|⟨h,_⟩ |⟨_,_,h,_⟩<;>first|(cases h) |omega) with⟨e,he,h2⟩ |⟨h1,h2,mk,_,_⟩
  ·rw[h2] at h0;exact absurd h0 he
  ·rw[h2];exact⟨w.fs.next+1,by omega,ux h b hn M.a h1 mk⟩
 rw[if_neg k4] at h0⊢;by_cases k5:o.kind=5
 ·rw[if_pos k5] at h0⊢
  have hinv:(eU o).1=⟨8,0,o.b, [], []⟩:=by unfold eU;rw[if_neg (by omega),if_pos (Or.inr k5)]
  rw[hinv];have hpb:=M.b (by unfold j6;simp [k5]);rcases AL (o:=o) h b (by omega) hpb with⟨e,he,h2⟩ |⟨x,h1,_,hxx,hk,hf,hs,hne,h2,_,_,_⟩
  ·rw[h2] at h0;exact absurd h0 he
  ·rw[h2];exact⟨w.fs.next,by omega,by rw[hw];exact H4 h b hn hpb h1 hxx hk hf hs hne⟩
 rw[if_neg k5] at h0⊢;by_cases k6:o.kind=6
 ·rw[if_pos k6] at h0⊢
  have hinv:(eU o).1=⟨6,0,o.b,o.a, []⟩:=by unfold eU;rw[if_neg (by omega),if_neg (by omega),if_neg (by omega),if_pos k6]
  rw[hinv];have hpb:=M.b (by unfold j6;simp [k6]);rcases Gt (o:=o) h b (by omega) M.a hpb (M.under k6).2 with⟨e,he,h2⟩ |⟨x,e,h1,h3,_,ok,m,_,h2,rw1,_⟩
  ·rw[h2] at h0;exact absurd h0 he
  ·rw[h2];exact⟨w.fs.next,by omega,by rw[hw];exact HH h b hn M.a hpb (M.under k6).1 (M.under k6).2 h1 h3 ok m rw1⟩
 rw[if_neg k6] at h0⊢;by_cases k7:o.kind=7
 ·rw[if_pos k7] at h0⊢
  have hinv:(eU o).1=⟨9,o.slot,o.a, [], []⟩:=by unfold eU;rw[if_neg (by omega),if_neg (by omega),if_neg (by omega),if_neg (by omega),if_pos k7]
  rw[hinv];have hs:=M.slot (by unfold gw;simp [k7]);rcases Ci (p:=o.a) h b (by omega) M.a hs.1 hs.2 with⟨e,he,h2⟩ |⟨x,e,h1,_,hx,hx0,hss,tk,h2,_,_⟩
  ·rw[h2] at h0;exact absurd h0 he
  ·rw[h2];exact⟨w.fs.next,by omega,by rw[hw];exact DY h b hn M.a hs.1 hs.2 h1 hss tk⟩
 ·unfold eU at hi
  rw[if_neg (by omega),if_neg (by omega),if_neg (by omega),if_neg (by omega),if_neg k7] at hi;cases hi
end
theorem nV {l:List Kept} {n:Int} (hs:dg ltI Kept.slot l) (hl:l.length≤1073741824):iL l n=some ((dP ltI Kept.slot n l:Int),(b7 Kept.slot n l).isSome):=by
 unfold iL;have hc:dP ltI Kept.slot n l≤l.length:=m6 l;have e0:∀(k0:Int→Option (Int×Bool)),b8 l n k0 bw (0:Int) (List.length l:Int)=k0 (dP ltI Kept.slot n l:Int):=by
  intro k0;refine A3 (fun m a b=>b8 l n k0 m a b) (fun j=>match l[j]? with|some x=>decide (x.slot<n) |none=>false) l.length (dP ltI Kept.slot n l) k0 (by omega) (fun m lo hi h1 h2=> ?_) (fun m lo h1=> ?_) (fun j hj=> ?_) (fun j hj hj2=> ?_) bw 0 l.length (iu (by omega)) (Nat.zero_le _) hc (Nat.le_refl _)
  ·simp only[b8]
   have hm:(lo+hi)/2<l.length:=by omega
   rw[dec_lt h1,A7 (by omega) (by omega),bP,toNat_cast,List.getElem?_eq_getElem hm,bc (by omega)];have e1:decide ((1:Int)<0)=false:=rfl;simp only[e1,ay,ax,ah,aZ,if_true,Bool.false_eq_true,if_false,bne_self_eq_false];by_cases h9:l[(lo+hi)/2].slot<n
   ·simp [h9]
   ·simp [h9]
  ·simp only[b8]
   rw[bW (Nat.le_refl _),ax]
  ·have hj':j<l.length:=by omega
   have:=q7 (lt:=ltI) (key:=Kept.slot) hj (List.getElem?_eq_getElem hj');simp only[List.getElem?_eq_getElem hj'];exact this
  ·have:=tf loI (k:=n) hs hj (List.getElem?_eq_getElem hj2)
   simp only[List.getElem?_eq_getElem hj2];exact this
 rw[e0,jU loI hs];by_cases h:dP ltI Kept.slot n l<l.length
 ·rw[dec_lt h,bP,toNat_cast,List.getElem?_eq_getElem h]
  simp only[ay,ah,bne_self_eq_false,ax,aZ];by_cases h1:l[dP ltI Kept.slot n l].slot<n
  ·have:¬l[dP ltI Kept.slot n l].slot=n:=by omega
   simp [h1,this]
  ·by_cases h2:l[dP ltI Kept.slot n l].slot>n
   ·have:¬l[dP ltI Kept.slot n l].slot=n:=by omega
    simp [h1,h2,this]
   ·have:l[dP ltI Kept.slot n l].slot=n:=by omega
    simp [h1,h2,this]
 ·rw[bW (by omega),ax,List.getElem?_eq_none (by omega)]
  rfl
theorem mR {l:List al} {n:Int} (hs:dg ltI al.ino l) (hl:l.length≤1073741824):ik l n=some ((dP ltI al.ino n l:Int),(b7 al.ino n l).isSome):=by
 unfold ik;have hc:dP ltI al.ino n l≤l.length:=m6 l;have e0:∀(k0:Int→Option (Int×Bool)),bX l n k0 bw (0:Int) (List.length l:Int)=k0 (dP ltI al.ino n l:Int):=by
  intro k0;refine A3 (fun m a b=>bX l n k0 m a b) (fun j=>match l[j]? with|some x=>decide (x.ino<n) |none=>false) l.length (dP ltI al.ino n l) k0 (by omega) (fun m lo hi h1 h2=> ?_) (fun m lo h1=> ?_) (fun j hj=> ?_) (fun j hj hj2=> ?_) bw 0 l.length (iu (by omega)) (Nat.zero_le _) hc (Nat.le_refl _)
  ·simp only[bX]
   have hm:(lo+hi)/2<l.length:=by omega
   rw[dec_lt h1,A7 (by omega) (by omega),bP,toNat_cast,List.getElem?_eq_getElem hm,bc (by omega)];have e1:decide ((1:Int)<0)=false:=rfl;simp only[e1,ay,ax,ah,aZ,if_true,Bool.false_eq_true,if_false,bne_self_eq_false];by_cases h9:l[(lo+hi)/2].ino<n
   ·simp [h9]
   ·simp [h9]
  ·simp only[bX]
   rw[bW (Nat.le_refl _),ax]
  ·have hj':j<l.length:=by omega
   have:=q7 (lt:=ltI) (key:=al.ino) hj (List.getElem?_eq_getElem hj');simp only[List.getElem?_eq_getElem hj'];exact this
  ·have:=tf loI (k:=n) hs hj (List.getElem?_eq_getElem hj2)
   simp only[List.getElem?_eq_getElem hj2];exact this
 rw[e0,jU loI hs];by_cases h:dP ltI al.ino n l<l.length
 ·rw[dec_lt h,bP,toNat_cast,List.getElem?_eq_getElem h]
  simp only[ay,ah,bne_self_eq_false,ax,aZ];by_cases h1:l[dP ltI al.ino n l].ino<n
  ·have:¬l[dP ltI al.ino n l].ino=n:=by omega
   simp [h1,this]
  ·by_cases h2:l[dP ltI al.ino n l].ino>n
   ·have:¬l[dP ltI al.ino n l].ino=n:=by omega
    simp [h1,h2,this]
   ·have:l[dP ltI al.ino n l].ino=n:=by omega
    simp [h1,h2,this]
 ·rw[bW (by omega),ax,List.getElem?_eq_none (by omega)]
  rfl
def noS:Kept:=⟨0,0,false, []⟩
theorem iN {w:ao} {n:Int} (hs:pS w.aq.kept) (hl:w.aq.kept.length≤1073741824):gZ w n=some ((cF n w.aq.kept).getD noS,(cF n w.aq.kept).isSome):=by
 unfold gZ;rw[nV hs hl];simp only[ah];have e:=jU loI (k:=n) hs;rw[bP,toNat_cast];cases h:cF n w.aq.kept with
 |none=>simp [noS,show b7 Kept.slot n w.aq.kept=none from h]
 |some k=>
  rw[show b7 Kept.slot n w.aq.kept=some k from h] at e;cases h2:w.aq.kept[dP ltI Kept.slot n w.aq.kept]? with
  |none=>rw[h2] at e;cases e
  |some k'=>
   rw[h2] at e;simp only[ah] at e;split at e
   ·cases e;simp [show b7 Kept.slot n w.aq.kept=some k from h]
   ·cases e
theorem yJ {w:ao} {n:Int} (h1:cG w.fs.aa) (h2:w.fs.aa.length≤1073741824) (hs:cG w.aq.aV) (hl:w.aq.aV.length≤1073741824):
 mi w n=some (match au n w.fs.aa with|some x=>(x,true) |none=>(aD n w.aq.aV,(au n w.aq.aV).isSome)):=by
 unfold mi;rw[dh h1 h2];simp only[ah];cases h0:au n w.fs.aa with
 |some x=>simp [aD,h0]
 |none=>
  rw[mR hs hl];simp only[ah,Option.isSome_none,ax];have e:=jU loI (k:=n) hs;rw[bP,toNat_cast];cases h:au n w.aq.aV with
  |none=>simp [aD,jP,show b7 al.ino n w.aq.aV=none from h]
  |some k=>
   rw[show b7 al.ino n w.aq.aV=some k from h] at e;cases h3:w.aq.aV[dP ltI al.ino n w.aq.aV]? with
   |none=>rw[h3] at e;cases e
   |some k'=>
    rw[h3] at e;simp only[ah] at e;split at e
    ·cases e;simp [aD,show b7 al.ino n w.aq.aV=some k from h]
    ·cases e
theorem kO {l:List Kept} (hl:l.length≤1073741824):fu l=some l:=by
 unfold fu;refine kq (fun e=>by subst e;rfl) ?_;rw[bV (by unfold LIM;simp;omega)];simp
theorem jR {l:List al} (hl:l.length≤1073741824):dt l=some l:=by
 unfold dt;refine kq (fun e=>by subst e;rfl) ?_;rw[bV (by unfold LIM;simp;omega)];simp
theorem rF {w:ao} {x:Kept} (hs:pS w.aq.kept) (hl:w.aq.kept.length≤1073741824) (h0:cF x.slot w.aq.kept=none):eP w x=some ⟨w.fs,⟨sX x w.aq.kept,w.aq.aV⟩⟩:=by
 have e9:sX x w.aq.kept=w.aq.kept.take (dP ltI Kept.slot x.slot w.aq.kept)++x::w.aq.kept.drop (dP ltI Kept.slot x.slot w.aq.kept):=by
  have:=tp loI hs h0;unfold o7 at this;rw[oF h0] at this;exact this
 unfold eP sh;rw[nV hs hl,kO hl,e9];simp only[ah];have hc:dP ltI Kept.slot x.slot w.aq.kept≤w.aq.kept.length:=m6 w.aq.kept;generalize dP ltI Kept.slot x.slot w.aq.kept=c at hc;generalize w.aq.kept=l at hl hc;simp only[List.length_singleton];have e1:IntKind.i64.wrap ((List.length l:Int)+((1:Nat):Int))=((l.length+1:Nat):Int):=by rw[cd (by omega) (by omega)];omega
 have e2:IntKind.i64.wrap ((c:Int)+((1:Nat):Int))=((c+1:Nat):Int):=by rw[cd (by omega) (by omega)];omega
 simp only[e1,e2,toNat_cast];rw[aL (by simp;omega),aW (by simp)];by_cases hlen:c=l.length
 ·subst hlen
  rw[aL (by simp),bV (by unfold LIM;omega)];simp
 ·rw[aW (by simp;omega)]
  refine wo fun cp hcp=> ?_
  by_cases hcap:cp<l.length+1
  ·rw[aL (by simp;omega),aL (by simp;omega)]
   have e3:IntKind.i64.wrap (((l.length+1:Nat):Int) - (c:Int))=((l.length+1 - c:Nat):Int):=by rw[cd (by omega) (by omega)];omega
   simp only[e3,toNat_cast,List.drop_zero];have hA:(l.take c).length=c:=by simp;omega
   have hT:(l.take c++List.replicate (l.length+1 - c) (⟨0,0,false, []⟩:Kept)).take c=l.take c:=take_set hA;have hD:(l.take c++List.replicate (l.length+1 - c) (⟨0,0,false, []⟩:Kept)).drop c=List.replicate (l.length+1 - c) (⟨0,0,false, []⟩:Kept):=drop_set hA;have hL:(l.take c++List.replicate (l.length+1 - c) (⟨0,0,false, []⟩:Kept)).length=l.length+1:=by simp;omega
   simp only[hT,hD,hL];have hX:[x].take (l.length+1 - c)=[x]:=by rw[List.take_of_length_le];simp;omega
   have hM:min 1 (l.length+1 - c)=1:=by omega
   have hR:(List.replicate (l.length+1 - c) (⟨0,0,false, []⟩:Kept)).drop 1=List.replicate (l.length - c) (⟨0,0,false, []⟩:Kept):=by rw[List.drop_replicate];congr 1;omega
   simp only[hX,hM,hR];have hL2:(l.take c++([x]++List.replicate (l.length - c) (⟨0,0,false, []⟩:Kept))).length=l.length+1:=by simp;omega
   simp only[hL2];have hM2:min (l.length - c) (l.length+1 - (c+1))=l.length - c:=by omega
   simp only[hM2];rw[aL (by simp),bV (by unfold LIM;omega),aL (by simp;omega),aL (by simp;omega),aL (by simp;omega),aL (by simp;omega),aL (by simp;omega),aL (by simp;omega),aL (by simp;omega),aL (by simp;omega),aL (by simp;omega)];have e4:l.take c++([x]++List.replicate (l.length - c) (⟨0,0,false, []⟩:Kept))=(l.take c++[x])++List.replicate (l.length - c) (⟨0,0,false, []⟩:Kept):=by simp
   have hA1:(l.take c++[x]).length=c+1:=by simp;omega
   have hT4:(l.take c++([x]++List.replicate (l.length - c) (⟨0,0,false, []⟩:Kept))).take (c+1)=l.take c++[x]:=by rw[e4];exact take_set hA1
   have hD4:(l.take c++([x]++List.replicate (l.length - c) (⟨0,0,false, []⟩:Kept))).drop (c+1+(l.length - c))= [] :=by rw[List.drop_eq_nil_of_le];rw[hL2];omega
   have hQ:(l.drop c).take (l.length - c)=l.drop c:=by rw[List.take_of_length_le];simp
   rw[hT4,hD4,hQ];simp
  ·rw[aW (by simp;omega)]
   have hM:min (l.length+1 - c) (l.length+1 - (c+1))=l.length - c:=by omega
   simp only[hM,Nat.zero_add];have hQ:(l.drop c).take (l.length - c)=l.drop c:=by rw[List.take_of_length_le];simp
   have hX:[x].take (l.length+1 - c)=[x]:=by rw[List.take_of_length_le];simp;omega
   have hM2:min 1 (l.length+1 - c)=1:=by omega
   simp only[hQ,hX,hM2,List.drop_zero];rw[aL (by simp;omega),aL (by simp;omega),aL (by simp),aL (by simp;omega),aL (by simp;omega),aL (by simp;omega),aL (by simp;omega)];have hc1:c+1≤l.length:=by omega
   rw[aL (by simp;omega),aW (Ge (by omega)),aL (by simp;omega),aL (by simp;omega),aL (by simp;omega)];have hT1:(l.take (c+1)++l.drop c).take c=l.take c:=by rw[List.take_append_of_le_length (by simp;omega),List.take_take];congr 1;omega
   have hD1:((l.take (c+1)++l.drop c).drop c).drop 1=l.drop c:=by rw[List.drop_drop];exact drop_set (by simp;omega)
   rw[hT1,hD1];rw[List.take_of_length_le (by simp;omega)];simp
theorem rR {R:Type} (n:Int) (k0:Int→List Kept→Option R) (l:List Kept) (hl:l.length≤1073741824) (z:R)
 (hk:∀(i:Nat) (l':List Kept),l'.length=l.length→i≤l.length→l'.take i=eS n l→k0 (i:Int) l'=some z):
 ∀(m i j:Nat) (l':List Kept),l.length - j<m→l'.length=l.length→i≤j→j≤l.length→l'.drop j=l.drop j→l'.take i=eS n (l.take j)→de n k0 m (i:Int) (j:Int) l'=some z
 |0,i,j,l',hm,_,_,_,_,_=>by omega
 |m+1,i,j,l',hm,he,hij,hj,hd,ht=>by
  simp only[de];by_cases h:j<l.length
  ·have h':j<l'.length:=by omega
   rw[aL (by simp;omega),aL (by simp;omega)];have e1:l'[Int.toNat (j:Int)]? =some l[j]:=by
    have:=congrArg (fun q=>q[0]?) hd;simp only[List.getElem?_drop,Nat.add_zero] at this;rw[toNat_cast,this,List.getElem?_eq_getElem h]
   rw[e1,ah];have hw:IntKind.i64.wrap ((j:Int)+1)=((j+1:Nat):Int):=by rw[cd (by omega) (by omega)];omega
   have hw2:IntKind.i64.wrap ((i:Int)+1)=((i+1:Nat):Int):=by rw[cd (by omega) (by omega)];omega
   have et:l.take (j+1)=l.take j++[l[j]]:=by rw[List.take_add_one,List.getElem?_eq_getElem h];rfl
   by_cases hs:l[j].slot=n
   ·rw[aW (by simp [hs]),hw]
    refine rR n k0 l hl z hk m i (j+1) l' (by omega) he (by omega) (by omega) ?_ ?_
    ·rw[←List.drop_drop,←List.drop_drop,hd]
    ·rw[ht,et];unfold eS eJ;rw[List.filter_append];simp [hs]
   ·rw[aL (by simp [hs]),aL (by simp;omega)]
    have e2:l'[Int.toNat (i:Int)]? =some (l'[i]'(by omega)):=by rw[toNat_cast];exact List.getElem?_eq_getElem (by omega)
    rw[e2,ah,hw,hw2,toNat_cast];refine rR n k0 l hl z hk m (i+1) (j+1) _ (by omega) (by simpa using he) (by omega) (by omega) ?_ ?_
    ·rw[List.drop_set,if_pos (by omega),←List.drop_drop,←List.drop_drop,hd]
    ·rw[List.take_add_one,List.getElem?_set_self (by omega),et]
     have:(l'.set i l[j]).take i=l'.take i:=by rw[List.take_set,List.set_eq_of_length_le (by simp;omega)]
     rw[this,ht];unfold eS eJ;rw[List.filter_append];simp [hs]
  ·have hjl:j=l.length:=by omega
   subst hjl;rw[aW (by simp;omega)];refine hk i l' he hij ?_;rw[ht,List.take_length]
theorem j8 {w:ao} {n:Int} (hl:w.aq.kept.length≤1073741824):aY w n=some ⟨w.fs,⟨eS n w.aq.kept,w.aq.aV⟩⟩:=by
 unfold aY;rw[kO hl,ah];generalize w.aq.kept=l at hl;have key:∀(k0:Int→List Kept→Option ao),(∀(i:Nat) (l':List Kept),l'.length=l.length→i≤l.length→l'.take i=eS n l→k0 (i:Int) l'=some ⟨w.fs,⟨eS n l,w.aq.aV⟩⟩)→∀(kr:Int→Option ao),(∀j,kr j=ae (j==(-1:Int)) (some ⟨w.fs,⟨l,w.aq.aV⟩⟩) (de n k0 bw j (IntKind.i64.wrap (j+(1:Int))) l))→
  ∀(m j:Nat),l.length - j<m→j≤l.length→eS n (l.take j)=l.take j→dz (List.length l:Int) n l kr (some ⟨w.fs,⟨l,w.aq.aV⟩⟩) m (j:Int)=some ⟨w.fs,⟨eS n l,w.aq.aV⟩⟩:=by
  intro k0 hk kr hkr m;induction m with
  |zero=>intro j h;omega
  |succ m ih=>
   intro j hm hj hd;simp only[dz];by_cases h:j<l.length
   ·rw[aL (by simp;omega),aL (by simp;omega),toNat_cast,List.getElem?_eq_getElem h,ah]
    have hw:IntKind.i64.wrap ((j:Int)+1)=((j+1:Nat):Int):=by rw[cd (by omega) (by omega)];omega
    have et:l.take (j+1)=l.take j++[l[j]]:=by rw[List.take_add_one,List.getElem?_eq_getElem h];rfl
    by_cases hs:l[j].slot=n
    ·rw[aL (by simp [hs]),hkr,aW (by simp),hw]
     refine rR n k0 l hl _ hk bw j (j+1) l (iu (by omega)) rfl (by omega) (by omega) rfl ?_;rw[et];unfold eS eJ at hd⊢;rw[List.filter_append,hd];simp [hs]
    ·rw[aW (by simp [hs]),hw]
     refine ih (j+1) (by omega) (by omega) ?_;rw[et];unfold eS eJ at hd⊢;rw[List.filter_append,hd];simp [hs]
   ·have hjl:j=l.length:=by omega
    subst hjl;rw[aW (by simp)];rw[List.take_length] at hd;rw[hd]
 refine key _ (fun i l' h1 h2 h3=> ?_) _ (fun j=>rfl) bw 0 (iu (by omega)) (Nat.zero_le _) rfl;simp only[toNat_cast,List.drop_zero];have h4:(l'.take i).length=i:=by simp;omega
 have h5:(l'.take i++(List.replicate (l'.length - i) (⟨0,0,false, []⟩:Kept)++l'.drop (i+(l'.length - i)))).length=l'.length:=by simp;omega
 have h6:(l'.take i++(List.replicate (l'.length - i) (⟨0,0,false, []⟩:Kept)++l'.drop (i+(l'.length - i)))).take i=l'.take i:=take_set h4;rw[aL (by simp;omega),aL (Nat.ble_eq_true_of_le (by omega))];simp only[h5];rw[aL (by simp;omega),aL (Nat.ble_eq_true_of_le (by omega)),h6,h3]
section
variable {lim:Int} {w:ao} {s i:Int} {n:Nat}
theorem tF (h:RW w) (b:Wb lim n w) (hn:n≤9000):jt w s i=some (tQ w s i):=by
 unfold jt tQ;have h1:=b.kl;have h2:=b.bd.len;rw[iN h.ks (by omega)];simp only[ah];cases hf:cF s w.aq.kept with
 |some k=>simp [show b7 Kept.slot s w.aq.kept=some k from hf]
 |none=>
  simp only[show b7 Kept.slot s w.aq.kept=none from hf,Option.isSome_none,ax];rw[dh h.tr.sort (by omega)];simp only[ah];rw[rF h.ks (by omega) hf];rfl
theorem sE (h:RW w) (b:Wb lim n w) (hn:n≤9000):jA w s=some (oz w s):=by
 unfold jA oz;have h1:=b.kl;have h2:=b.bd.len;rw[iN h.ks (by omega)];simp only[ah];rw[dh h.tr.sort (by omega)];simp only[ah];cases hf:cF s w.aq.kept with
 |none=>simp [show b7 Kept.slot s w.aq.kept=none from hf]
 |some k=>
  have hk:=(iq hf).1;simp only[show b7 Kept.slot s w.aq.kept=some k from hf,Option.isSome_some,Option.getD_some,Bool.not_true,ax];cases hc:k.content with
  |false=>simp
  |true=>
   simp only[Bool.not_true,ax,if_true];cases hx:au k.ino w.fs.aa with
   |none=>simp [show b7 al.ino k.ino w.fs.aa=none from hx]
   |some x=>
    have hxm:=(cg hx).1;have d1:=b.kd k hk;have d2:=b.bd.data x hxm;simp only[show b7 al.ino k.ino w.fs.aa=some x from hx,aD,Option.isSome_some,Option.getD_some,Bool.not_true,ax];rw[cd (by omega) (by omega),iv (h.ew b hn).sm (by unfold Far;omega) (by unfold Far;omega)];simp only[ah];cases hft:cO w.fs 0 ((k.data.length:Int) - (x.data.length:Int)) with
    |false=>simp
    |true=>
     simp only[Bool.not_true,ax,if_true];rw[cQ h.tr.sort (by omega)];simp only[ah];rw[j8 (by simpa using(by omega:w.aq.kept.length≤1073741824))];rfl
end
section
variable {lim:Int} {w:ao} {s i:Int} {n:Nat} {a:ar} {x:al}
theorem wE (h:RW w) (b:Wb lim n w) (hn:n≤9000) (hx0:au a.ino w.fs.aa=some x) (hg:cG (dV w.fs a).aa) (hgl:(dV w.fs a).aa.length≤1073741824)
 (hfi:(au a.ino (dV w.fs a).aa).isSome= !decide (x.aI=1)):mn w s a=some (nd w s a):=by
 unfold mn sh nd;have h1:=b.kl;have h2:=b.bd.len;have h3:=b.pl;rw[iN h.ks (by omega)];simp only[ah];cases hf:cF s w.aq.kept with
 |some k=>simp [show b7 Kept.slot s w.aq.kept=some k from hf]
 |none=>
  simp only[show b7 Kept.slot s w.aq.kept=none from hf,Option.isSome_none,ax];rw[dh h.tr.sort (by omega)];simp only[ah];rw[mh (h.ew b hn).ez];simp only[ah];rw[dh hg hgl];simp only[ah,hfi,aR hx0];have hW:∀(p:List al),eP ⟨dV w.fs a,⟨w.aq.kept,p⟩⟩ ⟨s,a.ino,false, []⟩=some ⟨dV w.fs a,⟨sX ⟨s,a.ino,false, []⟩ w.aq.kept,p⟩⟩:=fun p=>rF (w:=⟨dV w.fs a,⟨w.aq.kept,p⟩⟩) h.ks (by show w.aq.kept.length≤_;omega) hf
  by_cases hl1:x.aI=1
  ·have hp:au x.ino w.aq.aV=none:=by
    rw[(aP hx0).2];exact h.oa hx0
   have e9:bE x.bare w.aq.aV=w.aq.aV.take (dP ltI al.ino x.ino w.aq.aV)++x.bare::w.aq.aV.drop (dP ltI al.ino x.ino w.aq.aV):=tp loI h.ps hp;rw[if_pos hl1,mR h.ps (by omega),jR (by omega),e9];simp only[hl1,decide_true,Bool.not_true,Bool.not_false,ay,ah,hW];have hc:dP ltI al.ino x.ino w.aq.aV≤w.aq.aV.length:=m6 w.aq.aV;have hl:w.aq.aV.length≤1073741824:=by omega
   have hxb:(⟨x.ino,x.kind,(0:Int),x.data,(0:Int),x.entries⟩:al)=x.bare:=rfl;rw[hxb];generalize dP ltI al.ino x.ino w.aq.aV=c at hc;generalize x.bare=x;generalize w.aq.aV=l at hc hl;simp only[List.length_singleton];have e1:IntKind.i64.wrap ((List.length l:Int)+((1:Nat):Int))=((l.length+1:Nat):Int):=by rw[cd (by omega) (by omega)];omega
   have e2:IntKind.i64.wrap ((c:Int)+((1:Nat):Int))=((c+1:Nat):Int):=by rw[cd (by omega) (by omega)];omega
   simp only[e1,e2,toNat_cast];rw[aL (by simp;omega),aW (by simp)];by_cases hlen:c=l.length
   ·subst hlen
    rw[aL (by simp),bV (by unfold LIM;omega)];simp
   ·rw[aW (by simp;omega)]
    refine wo fun cp hcp=> ?_
    by_cases hcap:cp<l.length+1
    ·rw[aL (by simp;omega),aL (by simp;omega)]
     have e3:IntKind.i64.wrap (((l.length+1:Nat):Int) - (c:Int))=((l.length+1 - c:Nat):Int):=by rw[cd (by omega) (by omega)];omega
     simp only[e3,toNat_cast,List.drop_zero];have hA:(l.take c).length=c:=by simp;omega
     have hT:(l.take c++List.replicate (l.length+1 - c) (⟨0,0,0, [],0,([] :List Entry)⟩:al)).take c=l.take c:=take_set hA;have hD:(l.take c++List.replicate (l.length+1 - c) (⟨0,0,0, [],0,([] :List Entry)⟩:al)).drop c=List.replicate (l.length+1 - c) (⟨0,0,0, [],0,([] :List Entry)⟩:al):=drop_set hA;have hL:(l.take c++List.replicate (l.length+1 - c) (⟨0,0,0, [],0,([] :List Entry)⟩:al)).length=l.length+1:=by simp;omega
     simp only[hT,hD,hL];have hX:[x].take (l.length+1 - c)=[x]:=by rw[List.take_of_length_le];simp;omega
     have hM:min 1 (l.length+1 - c)=1:=by omega
     have hR:(List.replicate (l.length+1 - c) (⟨0,0,0, [],0,([] :List Entry)⟩:al)).drop 1=List.replicate (l.length - c) (⟨0,0,0, [],0,([] :List Entry)⟩:al):=by rw[List.drop_replicate];congr 1;omega
     simp only[hX,hM,hR];have hL2:(l.take c++([x]++List.replicate (l.length - c) (⟨0,0,0, [],0,([] :List Entry)⟩:al))).length=l.length+1:=by simp;omega
     simp only[hL2];have hM2:min (l.length - c) (l.length+1 - (c+1))=l.length - c:=by omega
     simp only[hM2];rw[aL (by simp),bV (by unfold LIM;omega),aL (by simp;omega),aL (by simp;omega),aL (by simp;omega),aL (by simp;omega),aL (by simp;omega),aL (by simp;omega),aL (by simp;omega),aL (by simp;omega),aL (by simp;omega)];have e4:l.take c++([x]++List.replicate (l.length - c) (⟨0,0,0, [],0,([] :List Entry)⟩:al))=(l.take c++[x])++List.replicate (l.length - c) (⟨0,0,0, [],0,([] :List Entry)⟩:al):=by simp
     have hA1:(l.take c++[x]).length=c+1:=by simp;omega
     have hT4:(l.take c++([x]++List.replicate (l.length - c) (⟨0,0,0, [],0,([] :List Entry)⟩:al))).take (c+1)=l.take c++[x]:=by rw[e4];exact take_set hA1
     have hD4:(l.take c++([x]++List.replicate (l.length - c) (⟨0,0,0, [],0,([] :List Entry)⟩:al))).drop (c+1+(l.length - c))= [] :=by rw[List.drop_eq_nil_of_le];rw[hL2];omega
     have hQ:(l.drop c).take (l.length - c)=l.drop c:=by rw[List.take_of_length_le];simp
     rw[hT4,hD4,hQ];simp
    ·rw[aW (by simp;omega)]
     have hM:min (l.length+1 - c) (l.length+1 - (c+1))=l.length - c:=by omega
     simp only[hM,Nat.zero_add];have hQ:(l.drop c).take (l.length - c)=l.drop c:=by rw[List.take_of_length_le];simp
     have hX:[x].take (l.length+1 - c)=[x]:=by rw[List.take_of_length_le];simp;omega
     have hM2:min 1 (l.length+1 - c)=1:=by omega
     simp only[hQ,hX,hM2,List.drop_zero];rw[aL (by simp;omega),aL (by simp;omega),aL (by simp),aL (by simp;omega),aL (by simp;omega),aL (by simp;omega),aL (by simp;omega)];have hc1:c+1≤l.length:=by omega
     rw[aL (by simp;omega),aW (Ge (by omega)),aL (by simp;omega),aL (by simp;omega),aL (by simp;omega)];have hT1:(l.take (c+1)++l.drop c).take c=l.take c:=by rw[List.take_append_of_le_length (by simp;omega),List.take_take];congr 1;omega
     have hD1:((l.take (c+1)++l.drop c).drop c).drop 1=l.drop c:=by rw[List.drop_drop];exact drop_set (by simp;omega)
     rw[hT1,hD1];rw[List.take_of_length_le (by simp;omega)];simp
  ·rw[if_neg hl1]
   simp only[hl1,decide_false,Bool.not_false,Bool.not_true,ax];have:=hW w.aq.aV;simp only[show(⟨dV w.fs a,w.aq⟩:ao)=⟨dV w.fs a,⟨w.aq.kept,w.aq.aV⟩⟩ from rfl,this,ah]
end
theorem AI {R:Type} (y:al) (k0:Int→List al→Option R) (l:List al) (hl:l.length≤1073741824) (z:R)
 (hk:∀(i:Nat) (l':List al),l'.length=l.length→i≤l.length→l'.take i=dD y.ino l→k0 (i:Int) l'=some z):
 ∀(m i j:Nat) (l':List al),l.length - j<m→l'.length=l.length→i≤j→j≤l.length→l'.drop j=l.drop j→l'.take i=dD y.ino (l.take j)→bR y k0 m (i:Int) (j:Int) l'=some z
 |0,i,j,l',hm,_,_,_,_,_=>by omega
 |m+1,i,j,l',hm,he,hij,hj,hd,ht=>by
  simp only[bR];by_cases h:j<l.length
  ·have h':j<l'.length:=by omega
   rw[aL (by simp;omega),aL (by simp;omega)];have e1:l'[Int.toNat (j:Int)]? =some l[j]:=by
    have:=congrArg (fun q=>q[0]?) hd;simp only[List.getElem?_drop,Nat.add_zero] at this;rw[toNat_cast,this,List.getElem?_eq_getElem h]
   rw[e1,ah];have hw:IntKind.i64.wrap ((j:Int)+1)=((j+1:Nat):Int):=by rw[cd (by omega) (by omega)];omega
   have hw2:IntKind.i64.wrap ((i:Int)+1)=((i+1:Nat):Int):=by rw[cd (by omega) (by omega)];omega
   have et:l.take (j+1)=l.take j++[l[j]]:=by rw[List.take_add_one,List.getElem?_eq_getElem h];rfl
   by_cases hs:l[j].ino=y.ino
   ·rw[aW (by simp [hs]),hw]
    refine AI y k0 l hl z hk m i (j+1) l' (by omega) he (by omega) (by omega) ?_ ?_
    ·rw[←List.drop_drop,←List.drop_drop,hd]
    ·rw[ht,et];unfold dD eJ;rw[List.filter_append];simp [hs]
   ·rw[aL (by simp [hs]),aL (by simp;omega)]
    have e2:l'[Int.toNat (i:Int)]? =some (l'[i]'(by omega)):=by rw[toNat_cast];exact List.getElem?_eq_getElem (by omega)
    rw[e2,ah,hw,hw2,toNat_cast];refine AI y k0 l hl z hk m (i+1) (j+1) _ (by omega) (by simpa using he) (by omega) (by omega) ?_ ?_
    ·rw[List.drop_set,if_pos (by omega),←List.drop_drop,←List.drop_drop,hd]
    ·rw[List.take_add_one,List.getElem?_set_self (by omega),et]
     have:(l'.set i l[j]).take i=l'.take i:=by rw[List.take_set,List.set_eq_of_length_le (by simp;omega)]
     rw[this,ht];unfold dD eJ;rw[List.filter_append];simp [hs]
  ·have hjl:j=l.length:=by omega
   subst hjl;rw[aW (by simp;omega)];refine hk i l' he hij ?_;rw[ht,List.take_length]
theorem Ka {R:Type} (y:al) (l:List al) (hl:l.length≤1073741824) (z:R) (k0:Int→List al→Option R)
 (hk:∀(i:Nat) (l':List al),l'.length=l.length→i≤l.length→l'.take i=dD y.ino l→k0 (i:Int) l'=some z) (kz:Option R) (hkz:dD y.ino l=l→kz=some z) (kr:Int→Option R)
 (hkr:∀j:Nat,j<l.length→kr (j:Int)=bR y k0 bw (j:Int) (IntKind.i64.wrap ((j:Int)+(1:Int))) l):
 ∀(m j:Nat),l.length - j<m→j≤l.length→dD y.ino (l.take j)=l.take j→bK (List.length l:Int) y l kr kz m (j:Int)=some z:=by
 intro m;induction m with
 |zero=>intro j h;omega
 |succ m ih=>
  intro j hm hj hd;simp only[bK];by_cases h:j<l.length
  ·rw[aL (by simp;omega),aL (by simp;omega),toNat_cast,List.getElem?_eq_getElem h,ah]
   have hw:IntKind.i64.wrap ((j:Int)+1)=((j+1:Nat):Int):=by rw[cd (by omega) (by omega)];omega
   have et:l.take (j+1)=l.take j++[l[j]]:=by rw[List.take_add_one,List.getElem?_eq_getElem h];rfl
   by_cases hs:l[j].ino=y.ino
   ·rw[aL (by simp [hs]),hkr j h,hw]
    refine AI y k0 l hl _ hk bw j (j+1) l (iu (by omega)) rfl (by omega) (by omega) rfl ?_;rw[et];unfold dD eJ at hd⊢;rw[List.filter_append,hd];simp [hs]
   ·rw[aW (by simp [hs]),hw]
    refine ih (j+1) (by omega) (by omega) ?_;rw[et];unfold dD eJ at hd⊢;rw[List.filter_append,hd];simp [hs]
  ·have hjl:j=l.length:=by omega
   subst hjl;rw[aW (by simp)];rw[List.take_length] at hd;exact hkz hd
theorem iM {w:ao} {n:Int} (hl:w.aq.kept.length≤1073741824):gk w n=some ((cF n w.aq.kept).getD noS,(cF n w.aq.kept).isSome):=by
 unfold gk;refine(bU (l:=w.aq.kept) (fun m i (_:Unit)=>gR n w (fun z10=>some (z10,true)) (some ((⟨0,0,false, []⟩:Kept),false)) m i) (fun _ (x:Kept) s K=>if decide (x.slot=n) then some (x,true) else K s) (fun _=>some (noS,false)) (by omega) (fun m k x u hk hx=> ?_) (fun m u=> ?_) ()).trans ?_
 ·simp only[gR]
  rw[dec_lt hk,bP,toNat_cast,hx,bc (by omega)];simp only[ay,ah,aZ,if_true,eO]
 ·simp only[gR]
  rw[bW (Nat.le_refl _)];rfl
 ·rw[se (key:=Kept.slot) (k:=n) (fun x=>some (x,true)) _]
  unfold cF;cases b7 Kept.slot n w.aq.kept<;>rfl
theorem n7 {w:ao} {n:Int} (hl:w.aq.kept.length≤1073741824):cE w n=some ⟨w.fs,⟨eS n w.aq.kept,w.aq.aV⟩⟩:=by
 unfold cE;refine(bU (l:=w.aq.kept) (fun m i s=>dS n w (fun z11=>some (⟨w.fs,(⟨z11,w.aq.aV⟩:cm)⟩:ao)) m i s) (fun _ (x:Kept) s K=>if !decide (x.slot=n) then aT (s.length+[x].length) (K (s++[x])) else K s) (fun z11=>some (⟨w.fs,(⟨z11,w.aq.aV⟩:cm)⟩:ao)) (by omega) (fun m k x s hk hx=> ?_) (fun m s=> ?_) []).trans ?_
 ·simp only[dS]
  rw[dec_lt hk,bP,toNat_cast,hx,bc (by omega)];simp only[ay,ah,aZ,if_true,dT]
 ·simp only[dS]
  rw[bW (Nat.le_refl _)];rfl
 ·rw[nH _ _ _ _ _ (by unfold LIM;simp;omega)];rfl
theorem ni {w:ao} {x:Kept} (hl:w.aq.kept.length≤1073741824):kb w x=some ⟨w.fs,⟨sX x w.aq.kept,w.aq.aV⟩⟩:=by
 unfold kb;refine(bU (l:=w.aq.kept) (fun m i s=>eK w x (fun z16 z17=>ae (!z16) (aT (z17.length+[x].length) (some (⟨w.fs,(⟨(z17++[x]),w.aq.aV⟩:cm)⟩:ao))) (some (⟨w.fs,(⟨z17,w.aq.aV⟩:cm)⟩:ao))) m s.1 i s.2)
  (fun _ y (s:Bool×List Kept) K=>if !s.1 then (if ltI x.slot y.slot then aT (s.2.length+[x].length) (aT ((s.2++[x]).length+[y].length) (K (true,(s.2++[x])++[y]))) else aT (s.2.length+[y].length) (K (s.1,s.2++[y]))) else aT (s.2.length+[y].length) (K (s.1,s.2++[y])))
  (fun s=>if !s.1 then aT (s.2.length+[x].length) (some (⟨w.fs,(⟨s.2++[x],w.aq.aV⟩:cm)⟩:ao)) else some (⟨w.fs,(⟨s.2,w.aq.aV⟩:cm)⟩:ao)) (by omega) (fun m k y s hk hx=> ?_) (fun m s=> ?_) (false, [])).trans ?_
 ·simp only[eK]
  rw[dec_lt hk,bP,toNat_cast,hx,bc (by omega)];simp only[ay,ah,aZ,if_true,ltI,gt_iff_lt]
 ·simp only[eK]
  rw[bW (Nat.le_refl _),ax];simp only[aZ]
 ·rw[lT (lt:=ltI) (key:=Kept.slot) x (fun z=>some (⟨w.fs,(⟨z,w.aq.aV⟩:cm)⟩:ao)) _ _ _ (by unfold LIM;simp;omega)]
  rfl
section
variable {lim:Int} {w:ao} {s i:Int} {n:Nat}
theorem sI (h:RW w) (b:Wb lim n w) (hn:n≤9000):jK w s i=some (tQ w s i):=by
 unfold jK tQ;have h1:=b.kl;have h2:=b.bd.len;rw[iM (by omega)];simp only[ah];cases hf:cF s w.aq.kept with
 |some k=>simp [show b7 Kept.slot s w.aq.kept=some k from hf]
 |none=>
  simp only[show b7 Kept.slot s w.aq.kept=none from hf,Option.isSome_none,ax];rw[cI (by omega)];simp only[ah];rw[ni (by omega)];rfl
theorem tI (h:RW w) (b:Wb lim n w) (hn:n≤9000):hZ w s=some (oz w s):=by
 unfold hZ oz;have h1:=b.kl;have h2:=b.bd.len;rw[iM (by omega)];simp only[ah];rw[cI (by omega)];simp only[ah];cases hf:cF s w.aq.kept with
 |none=>simp [show b7 Kept.slot s w.aq.kept=none from hf]
 |some k=>
  have hk:=(iq hf).1;simp only[show b7 Kept.slot s w.aq.kept=some k from hf,Option.isSome_some,Option.getD_some,Bool.not_true,ax];cases hc:k.content with
  |false=>simp
  |true=>
   simp only[Bool.not_true,ax,if_true];cases hx:au k.ino w.fs.aa with
   |none=>simp [show b7 al.ino k.ino w.fs.aa=none from hx]
   |some x=>
    have hxm:=(cg hx).1;have d1:=b.kd k hk;have d2:=b.bd.data x hxm;simp only[show b7 al.ino k.ino w.fs.aa=some x from hx,aD,Option.isSome_some,Option.getD_some,Bool.not_true,ax];rw[cd (by omega) (by omega),fD (h.ew b hn).sm (by unfold Far;omega) (by unfold Far;omega)];simp only[ah];cases hft:cO w.fs 0 ((k.data.length:Int) - (x.data.length:Int)) with
    |false=>simp
    |true=>
     simp only[Bool.not_true,ax,if_true];rw[cu (by omega)];simp only[ah];rw[n7 (by simpa using(by omega:w.aq.kept.length≤1073741824))];rfl
end
section
variable {lim:Int} {w:ao} {s i:Int} {n:Nat} {a:ar} {x:al}
theorem yn (h:RW w) (b:Wb lim n w) (hn:n≤9000) (hr:nY w.fs a=dV w.fs a):h_ w s a=some (nd w s a):=by
 unfold h_ nd;have h1:=b.kl;have h2:=b.bd.len;have h3:=b.pl;rw[iM (by omega)];simp only[ah];cases hf:cF s w.aq.kept with
 |some k=>simp [show b7 Kept.slot s w.aq.kept=some k from hf]
 |none=>
  simp only[show b7 Kept.slot s w.aq.kept=none from hf,Option.isSome_none,ax];rw[cI (by omega)];simp only[ah];rw[lA (h.ew b hn).ez,hr];simp only[ah];by_cases hl1:(aD a.ino w.fs.aa).aI=1
  ·rw[aL (by simp [hl1]),if_pos hl1]
   show aj (some (⟨0,0,0,w.aq.aV⟩:Fs)) _=_;rw[ah,cu (by show w.aq.aV.length≤_;omega),ah,ni (by show w.aq.kept.length≤_;omega),ah];rfl
  ·rw[aW (by simp [hl1]),if_neg hl1,ni (by show w.aq.kept.length≤_;omega),ah]
end
instance abq:DecidableEq Kept:=fun a b=>
 if h:a.slot=b.slot∧a.ino=b.ino∧a.content=b.content∧a.data=b.data then isTrue (by cases a;cases b;simp at h;simp [h]) else isFalse (by intro e;subst e;exact h ⟨rfl,rfl,rfl,rfl⟩)
instance UE:DecidableEq ao:=fun a b=>
 if h:a.fs=b.fs∧a.aq.kept=b.aq.kept∧a.aq.aV=b.aq.aV then isTrue (ao.ext h.1 h.2.1 h.2.2) else isFalse (by intro e;subst e;exact h ⟨rfl,rfl,rfl⟩)
theorem KA {x y:Kept}:x=y↔x.slot=y.slot∧x.ino=y.ino∧x.content=y.content∧x.data=y.data:=by
 constructor
 ·rintro rfl;exact⟨rfl,rfl,rfl,rfl⟩
 ·rintro⟨h1,h2,h3,h4⟩;cases x;cases y;simp at h1 h2 h3 h4;simp [h1,h2,h3,h4]
theorem R5 (x y:Kept):(!((x.slot==y.slot)&&((x.ino==y.ino)&&((x.content==y.content)&&(x.data==y.data)))))= !decide (x=y):=by
 congr 1;rw[Bool.eq_iff_iff];simp only[Bool.and_eq_true,beq_iff_eq,decide_eq_true_eq,KA]
theorem M0 (a b:ao):decide (a=b)=(decide (a.fs=b.fs)&&(decide (a.aq.aV=b.aq.aV)&&decide (a.aq.kept=b.aq.kept))):=by
 rw[Bool.eq_iff_iff];simp only[decide_eq_true_eq,Bool.and_eq_true];constructor
 ·rintro rfl;exact⟨rfl,rfl,rfl⟩
 ·rintro⟨h1,h2,h3⟩;exact ao.ext h1 h3 h2
theorem zd {a b:ao} (h1:a.fs.aa.length≤1073741824) (h2:∀x∈a.fs.aa,x.entries.length≤1073741824) (h3:a.aq.aV.length≤1073741824) (h4:∀x∈a.aq.aV,x.entries.length≤1073741824) (h5:a.aq.kept.length≤1073741824):
 ep a b=some (decide (a=b)):=by
 unfold ep;rw[nC h1 h2,rG h3 h4,M0];simp only[ah,aZ];by_cases g1:a.fs=b.fs
 ·by_cases g2:a.aq.aV=b.aq.aV
  ·simp only[g1,g2,decide_true,Bool.not_true,Bool.false_eq_true,if_false,Bool.true_and]
   by_cases h:a.aq.kept.length=b.aq.kept.length
   ·have e:((List.length a.aq.kept:Int) !=(List.length b.aq.kept:Int))=false:=by rw[h];simp
    rw[e,if_neg (by simp)];refine(bU (l:=a.aq.kept) (fun m i (_:Unit)=>gH a b (some false) (some true) m i) (fun k x (_:Unit) K=>aj ([] ++b.aq.kept)[k]? fun y=>if decide (x=y) then K () else some false) (fun _=>some true) (by omega) (fun m k x u hk hx=> ?_) (fun m u=> ?_) ()).trans ?_
    ·simp only[gH]
     rw[dec_lt hk,bP,toNat_cast,hx,bc (by omega)];simp only[ay,ah,aZ,if_true,List.nil_append];have hk':k<b.aq.kept.length:=by omega
     rw[List.getElem?_eq_getElem hk'];simp only[ah,R5];by_cases hxy:x=b.aq.kept[k]<;>simp [hxy]
    ·simp only[gH]
     rw[bW (Nat.le_refl _)];rfl
    ·rw[q6 _ _ a.aq.kept b.aq.kept 0 [] h rfl]
     by_cases hab:a.aq.kept=b.aq.kept<;>simp [hab]
   ·have e:((List.length a.aq.kept:Int) !=(List.length b.aq.kept:Int))=true:=by rw[bne_iff_ne];omega
    rw[e,if_pos rfl];have:¬a.aq.kept=b.aq.kept:=fun e=>h (by rw[e])
    simp [this]
  ·simp [g1,g2]
 ·simp [g1]
section
variable {lim:Int} {w:ao} {n:Nat} {a:ar} {d y:al}
theorem Gk (h:RW w) (b:Wb lim n w) (hn:n≤9000) (hd:au a.dir w.fs.aa=some d) (hk:d.kind=2) (hy:y∈w.aq.aV):Ez (w.fs.set (if y.kind=2 then y.fZ a.dir else y)):=by
 have z:=(h.ew b hn).ez;have hp:=(h.pk y hy).1;obtain⟨_,p2,p3,p4,_⟩:=h.pk y hy;generalize hz:(if y.kind=2 then y.fZ a.dir else y)=x;have xi:x.ino=y.ino:=by rw[←hz];split<;>rfl
 have xe:x.entries= [] :=by rw[←hz];split<;>exact hp.2.2.1
 have xd:x.data=y.data:=by rw[←hz];split<;>rfl
 have xk:x.kind=y.kind:=by rw[←hz];split<;>rfl
 have xl:x.aI=0:=by rw[←hz];split<;>exact hp.1
 have hfind:∀j,au j (w.fs.set x).aa=if x.ino=j then some x else au j w.fs.aa:=fun j=>bF
 have hsome:∀j u,au j w.fs.aa=some u→au j (w.fs.set x).aa=some u:=fun j u hu=>by
  rw[hfind,if_neg (fun e=>by rw[←e,xi,p4] at hu;cases hu)];exact hu
 have hm:∀u,u∈(w.fs.set x).aa→u=x∨u∈w.fs.aa:=fun u hu=>by
  rcases dC.1 hu with h|⟨h,_⟩
  ·exact Or.inl h
  ·exact Or.inr h
 have hlen:= @kK w.fs x;have hl:=b.bd.len;have hdat:=b.pd y hy;have wf:=z.ws.wf;refine⟨⟨⟨⟨by omega,fun u hu=> ?_,fun u hu=> ?_,fun u hu=> ?_⟩,eE wf.sort x,fun u hu=> ?_,fun u hu=> ?_,fun u hu e he=> ?_, ?_⟩,fun u hu hku=> ?_,fun u hu hku=> ?_, ?_⟩,⟨by omega,fun u hu=> ?_⟩,z.nx,fun u hu=> ?_⟩
 ·rcases hm u hu with rfl|hu
  ·rw[xd];omega
  ·exact wf.sm.data u hu
 ·rcases hm u hu with rfl|hu
  ·rw[xe];simp
  ·exact wf.sm.dy u hu
 ·rcases hm u hu with rfl|hu
  ·rw[xe];simp
  ·exact wf.sm.names u hu
 ·rcases hm u hu with rfl|hu
  ·omega
  ·exact wf.pos u hu
 ·rcases hm u hu with rfl|hu
  ·rw[xe];rfl
  ·exact wf.right u hu
 ·rcases hm u hu with rfl|hu
  ·rw[xe] at he;cases he
  ·obtain⟨v,hv⟩:=Option.isSome_iff_exists.1 (wf.there u hu e he)
   rw[hsome _ v hv];rfl
 ·obtain⟨v,hv⟩:=Option.isSome_iff_exists.1 wf.root
  rw[hsome _ v hv];rfl
 ·rcases hm u hu with rfl|hu
  ·have hx2:u.parent=a.dir:=by
    rw[←hz,if_pos (by rw[←xk];exact hku)];rfl
   rw[hx2];exact⟨d,hsome _ d hd,hk⟩
  ·obtain⟨v,hv,hv2⟩:=z.ws.par u hu hku
   exact⟨v,hsome _ v hv,hv2⟩
 ·rcases hm u hu with rfl|hu
  ·rw[xd]
   rcases hp.2.2.2 with h1|⟨h1,h2⟩ |⟨_,_,h2,_⟩
   ·rw[xk,h1] at hku;cases hku
   ·rw[h2];simp
   ·exact h2
  ·exact z.ws.sym u hu hku
 ·obtain⟨r,hr,hr2⟩:=z.ws.I8
  exact⟨r,hsome _ r hr,hr2⟩
 ·rcases hm u hu with rfl|hu
  ·rw[xe];simp
  ·exact z.lil.dy u hu
 ·rcases hm u hu with rfl|hu
  ·rw[xl];omega
  ·exact z.lk u hu
end
section
variable {lim:Int} {w:ao} {n:Nat} {a:ar} {d y x:al} {i s:Int}
theorem HW {R:Type} (y:al) (l:List al) (hl:l.length≤1073741824) (z:R) (k0:Int→List al→Option R) (ke kz:Option R)
 (hk:∀(i:Nat) (l':List al),l'.length=l.length→i≤l.length→l'.take i=dD y.ino l→k0 (i:Int) l'=some z) (hkz:dD y.ino l=l→kz=some z):
 bK (List.length l:Int) y l (fun q=>ae (q==(-1:Int)) ke (bR y k0 bw q (IntKind.i64.wrap (q+(1:Int))) l)) kz bw (0:Int)=some z:=
 Ka y l hl z k0 hk kz hkz _ (fun j _=>aW (by simp)) bw 0 (iu (by omega)) (Nat.zero_le _) rfl
theorem Ht (hs:cG w.fs.aa) (hl:w.fs.aa.length≤1073741824) (ez:Ez (w.fs.set x)) (hp:w.aq.aV.length≤1073741824) (hk:w.aq.kept.length≤1073741824):
 (aj (dt w.aq.aV) fun y63=>bK (List.length y63:Int) x y63 (fun z64=>
 ae (z64==(-1:Int)) (aj (a_ w.fs x) fun y65=>aj (bN y65 a i) fun y66=>aj (aY (⟨y66,(⟨w.aq.kept,y63⟩:cm)⟩:ao) s) fun y67=>some (y67,(0:Int))) (bR x (fun z68 z69=>
 ae (decide (0≤z68∧z68≤(z69.length:Int))) (
 ae (Nat.ble ((Int.toNat z68)+(z69.length - (Int.toNat z68))) z69.length) (
 ae (decide (0≤z68∧z68≤((z69.take (Int.toNat z68)++(List.replicate (z69.length - (Int.toNat z68)) (⟨0,0,0, [],0,([] :List Entry)⟩:al)++z69.drop ((Int.toNat z68)+(z69.length - (Int.toNat z68))))).length:Int))) (aj (a_ w.fs x) fun y70=>aj (bN y70 a i) fun y71=>
 ae (Nat.ble (0+(Int.toNat z68)) (z69.take (Int.toNat z68)++(List.replicate (z69.length - (Int.toNat z68)) (⟨0,0,0, [],0,([] :List Entry)⟩:al)++z69.drop ((Int.toNat z68)+(z69.length - (Int.toNat z68))))).length) (aj (aY (⟨y71,(⟨w.aq.kept,(((z69.take (Int.toNat z68)++(List.replicate (z69.length - (Int.toNat z68)) (⟨0,0,0, [],0,([] :List Entry)⟩:al)++z69.drop ((Int.toNat z68)+(z69.length - (Int.toNat z68))))).drop 0).take (Int.toNat z68))⟩:cm)⟩:ao) s) fun y72=>some (y72,(0:Int))) (none)) (none)) (none)) (none)) bw z64 (IntKind.i64.wrap (z64+(1:Int))) y63)) (aj (a_ w.fs x) fun y73=>aj (bN y73 a i) fun y74=>aj (aY (⟨y74,(⟨w.aq.kept,y63⟩:cm)⟩:ao) s) fun y75=>some (y75,(0:Int))) bw (0:Int))=some (⟨m7 (w.fs.set x) a i,⟨eS s w.aq.kept,dD x.ino w.aq.aV⟩⟩,(0:Int)):=by
 rw[jR hp,ah];have hw:∀(g:Fs) (p:List al),aY ⟨g,⟨w.aq.kept,p⟩⟩ s=some ⟨g,⟨eS s w.aq.kept,p⟩⟩:=fun g p=>j8 (w:=⟨g,⟨w.aq.kept,p⟩⟩) (by show w.aq.kept.length≤_;omega)
 have hend:∀p:List al,(aj (a_ w.fs x) fun y57=>aj (bN y57 a i) fun y58=>aj (aY (⟨y58,(⟨w.aq.kept,p⟩:cm)⟩:ao) s) fun y59=>some (y59,(0:Int)))=some (⟨m7 (w.fs.set x) a i,⟨eS s w.aq.kept,p⟩⟩,(0:Int)):=fun p=>by
  rw[cQ hs hl,ah,lJ ez,ah,hw,ah]
 refine HW x w.aq.aV hp _ _ _ _ (fun j l' h1 h2 h3=> ?_) (fun e=> ?_)
 rotate_left
 ·rw[hend,e]
 ·simp only[toNat_cast,List.drop_zero]
  have h4:(l'.take j).length=j:=by simp;omega
  have h5:(l'.take j++(List.replicate (l'.length - j) (⟨0,0,0, [],0,([] :List Entry)⟩:al)++l'.drop (j+(l'.length - j)))).length=l'.length:=by simp;omega
  have h6:(l'.take j++(List.replicate (l'.length - j) (⟨0,0,0, [],0,([] :List Entry)⟩:al)++l'.drop (j+(l'.length - j)))).take j=l'.take j:=take_set h4;rw[aL (by simp;omega),aL (Nat.ble_eq_true_of_le (by omega))];simp only[h5];rw[aL (by simp;omega),cQ hs hl,ah,lJ ez,ah,aL (Nat.ble_eq_true_of_le (by omega)),h6,h3,hw,ah]
theorem yI {fol:Bool} (h:RW w) (b:Wb lim n w) (hn:n≤9000) (ga:Gd w.fs fol a) (a0:a.ino=0) (hal:a.name.length≤1099511627775):o3 w s a=some (qf w s a):=by
 have ew:=iF h.tr b.bd (by omega);have h1:=b.kl;have h2:=b.bd.len;have h3:=b.pl;unfold o3 sh qf;rw[iN h.ks (by omega),ah,dh h.tr.sort (by omega),ah];cases hs:cF s w.aq.kept with
 |none=>rfl
 |some k=>
  simp only[Option.isSome_some,Option.getD_some,Bool.not_true,ax];cases hc:k.content
  ·simp only[ax,Bool.false_eq_true,if_false]
   rw[qj hal,ah];cases hm:eL a.name
   ·rfl
   simp only[Bool.not_true,ax,if_true];obtain⟨hf,hfi⟩:=qY h.tr ew.wf ga a0 hm;have hd:au a.dir w.fs.aa=some (aD a.dir w.fs.aa):=by have:=hf.hd;rwa[hfi] at this
   have hWo:∀(g:Fs),aY ⟨g,w.aq⟩ s=some ⟨g,⟨eS s w.aq.kept,w.aq.aV⟩⟩:=fun g=>j8 (w:=⟨g,w.aq⟩) (by show w.aq.kept.length≤_;omega)
   cases hx:au k.ino w.fs.aa with
   |some x=>
    rw[aR hx];simp only[Option.isSome_some,ay,Bool.not_true,ax];by_cases hk:x.kind=2
    ·rw[aL (by simp [hk]),if_pos hk]
    ·rw[aW (by simp [hk]),if_neg hk,lJ (h.ew b hn).ez,ah,hWo,ah]
   |none=>
    simp only[Option.isSome_none,ax,Bool.not_false,ay];rw[yJ h.tr.sort (by omega) h.ps (by omega),ah,hx];simp only;have hkm:=iq hs;obtain⟨_,_,_,y,hy,_⟩:=h.kk k hkm.1;rw[hx] at hy;have hy:=hy.resolve_left (fun h=>by cases h);obtain⟨p1,p2,p3,p4,p5⟩:=h.jg hy;rw[aR hy];have hyd:=b.pd y (aP hy).1;have hez:=Gk h b hn hd hf.hk (aP hy).1;have fin:∀x:al,x.ino=y.ino→Ez (w.fs.set x)→(aj (dt w.aq.aV) fun y63=>bK (List.length y63:Int) x y63 (fun z64=>
 ae (z64==(-1:Int)) (aj (a_ w.fs x) fun y65=>aj (bN y65 a k.ino) fun y66=>aj (aY (⟨y66,(⟨w.aq.kept,y63⟩:cm)⟩:ao) s) fun y67=>some (y67,(0:Int))) (bR x (fun z68 z69=>
 ae (decide (0≤z68∧z68≤(z69.length:Int))) (
 ae (Nat.ble ((Int.toNat z68)+(z69.length - (Int.toNat z68))) z69.length) (
 ae (decide (0≤z68∧z68≤((z69.take (Int.toNat z68)++(List.replicate (z69.length - (Int.toNat z68)) (⟨0,0,0, [],0,([] :List Entry)⟩:al)++z69.drop ((Int.toNat z68)+(z69.length - (Int.toNat z68))))).length:Int))) (aj (a_ w.fs x) fun y70=>aj (bN y70 a k.ino) fun y71=>
 ae (Nat.ble (0+(Int.toNat z68)) (z69.take (Int.toNat z68)++(List.replicate (z69.length - (Int.toNat z68)) (⟨0,0,0, [],0,([] :List Entry)⟩:al)++z69.drop ((Int.toNat z68)+(z69.length - (Int.toNat z68))))).length) (aj (aY (⟨y71,(⟨w.aq.kept,(((z69.take (Int.toNat z68)++(List.replicate (z69.length - (Int.toNat z68)) (⟨0,0,0, [],0,([] :List Entry)⟩:al)++z69.drop ((Int.toNat z68)+(z69.length - (Int.toNat z68))))).drop 0).take (Int.toNat z68))⟩:cm)⟩:ao) s) fun y72=>some (y72,(0:Int))) (none)) (none)) (none)) (none)) bw z64 (IntKind.i64.wrap (z64+(1:Int))) y63)) (aj (a_ w.fs x) fun y73=>aj (bN y73 a k.ino) fun y74=>aj (aY (⟨y74,(⟨w.aq.kept,y63⟩:cm)⟩:ao) s) fun y75=>some (y75,(0:Int))) bw (0:Int))=some (⟨m7 (w.fs.set x) a k.ino,⟨eS s w.aq.kept,dD k.ino w.aq.aV⟩⟩,(0:Int)):=fun x hxy hez=>by
     rw[Ht h.tr.sort (by omega) hez (by omega) (by omega),hxy,p2]
    by_cases hk1:y.kind=1
    ·have hbt:byt y=(y.data.length:Int):=if_pos hk1
     rw[aL (by simp [hk1]),iv ew.sm (by unfold Far;omega) (by unfold Far;omega),ah,hbt];cases hft:cO w.fs 1 (y.data.length:Int)
     ·rfl
     simp only[Bool.not_true,ax,if_true];rw[aW (by simp [hk1]),if_neg (by omega)];rw[if_neg (by omega)] at hez;exact fin y rfl hez
    ·have hbt:byt y=0:=if_neg hk1
     rw[aW (by simp [hk1]),iv ew.sm (by unfold Far;omega) (by unfold Far;omega),ah,hbt];cases hft:cO w.fs 1 0
     ·rfl
     simp only[Bool.not_true,ax,if_true];by_cases hk2:y.kind=2
     ·rw[aL (by simp [hk2]),if_pos hk2]
      rw[if_pos hk2] at hez;exact fin (y.fZ a.dir) rfl hez
     ·rw[aW (by simp [hk2]),if_neg hk2]
      rw[if_neg hk2] at hez;exact fin y rfl hez
  ·rfl
theorem zi {fol:Bool} (h:RW w) (b:Wb lim n w) (hn:n≤9000) (ga:Gd w.fs fol a) (a0:a.ino=0) (hal:a.name.length≤1099511627775):mj w s a=some (qf w s a):=by
 have ew:=iF h.tr b.bd (by omega);have h1:=b.kl;have h2:=b.bd.len;have h3:=b.pl;unfold mj qf;rw[iM (by omega),ah];cases hs:cF s w.aq.kept with
 |none=>rfl
 |some k=>
  simp only[Option.isSome_some,Option.getD_some,Bool.not_true,ax];cases hc:k.content
  ·simp only[ax,Bool.false_eq_true,if_false]
   rw[cI (by omega),ah,lG hal,ah];cases hm:eL a.name
   ·rfl
   simp only[Bool.not_true,ax,if_true];obtain⟨hf,hfi⟩:=qY h.tr ew.wf ga a0 hm;have hd:au a.dir w.fs.aa=some (aD a.dir w.fs.aa):=by have:=hf.hd;rwa[hfi] at this
   have hWo:∀(g:Fs) (p:List al),cE ⟨g,⟨w.aq.kept,p⟩⟩ s=some ⟨g,⟨eS s w.aq.kept,p⟩⟩:=fun g p=>n7 (w:=⟨g,⟨w.aq.kept,p⟩⟩) (by show w.aq.kept.length≤_;omega)
   cases hx:au k.ino w.fs.aa with
   |some x=>
    rw[aR hx];simp only[Option.isSome_some,ay,Bool.not_true,ax];by_cases hk:x.kind=2
    ·rw[aL (by simp [hk]),if_pos hk]
    ·rw[aW (by simp [hk]),if_neg hk,iS (h.ew b hn).ez,ah,show w.aq=⟨w.aq.kept,w.aq.aV⟩ from rfl,hWo,ah]
     rw[(qc hf hx hk).1,(qc hf hx hk).2.1]
   |none=>
    simp only[Option.isSome_none,ax,Bool.not_false,ay];have hkm:=iq hs;obtain⟨_,_,_,y,hy,_⟩:=h.kk k hkm.1;rw[hx] at hy;have hy:=hy.resolve_left (fun h=>by cases h);obtain⟨p1,p2,p3,p4,p5⟩:=h.jg hy;have hyd:=b.pd y (aP hy).1;have hez:=Gk h b hn hd hf.hk (aP hy).1;have hpg:bH (⟨0,0,0,w.aq.aV⟩:Fs) k.ino=some (aD k.ino w.aq.aV,(au k.ino w.aq.aV).isSome):=cI (f:=⟨0,0,0,w.aq.aV⟩) (by show w.aq.aV.length≤_;omega);have hpd:dB (⟨0,0,0,w.aq.aV⟩:Fs) k.ino=some ⟨0,0,0,dD k.ino w.aq.aV⟩:=nu (f:=⟨0,0,0,w.aq.aV⟩) (by show w.aq.aV.length≤_;omega);have hP:∀g:Fs,cH ⟨g,w.aq⟩=some ⟨0,0,0,w.aq.aV⟩:=fun _=>rfl
    have hP0:cH w=some ⟨0,0,0,w.aq.aV⟩:=rfl;have hnn:=tK (a:=a) (y:=y) hf hfi h.tr.sort (by rw[p2];exact p5) p1.1 p1.2.1;rw[←hnn.1,p2] at hnn;have hnr:=hnn.2;rw[hP0,ah,hpg,ah,aR hy];simp only;by_cases hk1:y.kind=1
    ·have hbt:byt y=(y.data.length:Int):=if_pos hk1
     rw[aL (by simp [hk1]),fD ew.sm (by unfold Far;omega) (by unfold Far;omega),ah,hbt];cases hft:cO w.fs 1 (y.data.length:Int)
     ·rfl
     simp only[Bool.not_true,ax,if_true];rw[if_neg (by omega)] at hez hnr;rw[aW (by simp [hk1]),if_neg (by omega),cu (by omega),ah,hP,ah,hpd,ah,iS hez,ah,hWo,ah,hnr]
    ·have hbt:byt y=0:=if_neg hk1
     rw[aW (by simp [hk1]),fD ew.sm (by unfold Far;omega) (by unfold Far;omega),ah,hbt];cases hft:cO w.fs 1 0
     ·rfl
     simp only[Bool.not_true,ax,if_true];by_cases hk2:y.kind=2
     ·rw[if_pos hk2] at hez hnr
      have e1:(⟨y.ino,y.kind,y.aI,y.data,a.dir,y.entries⟩:al)=y.fZ a.dir:=rfl;rw[aL (by simp [hk2]),if_pos hk2,e1,cu (by omega),ah,hP,ah,hpd,ah,iS hez,ah,hWo,ah,hnr]
     ·rw[if_neg hk2] at hez hnr
      rw[aW (by simp [hk2]),if_neg hk2,cu (by omega),ah,hP,ah,hpd,ah,iS hez,ah,hWo,ah,hnr]
  ·rfl
end
structure InW (w:ao):Prop where
 fs:InF w.fs
 aV:InF ⟨0,0,0,w.aq.aV⟩
 kl:w.aq.kept.length≤1073741824
def Ef (w:ao):Bool:=(w.aq.kept.take 100).all (fun k=>decide (k.data.length≤5000))&&(o0 w.fs&&(o0 ⟨0,0,0,w.aq.aV⟩&&decide (w.aq.kept.length≤40)))
theorem BG {w:ao} (h:InW w):qM w=some (Ef w):=by
 unfold qM;have hK:(aj (kj w.fs) fun y6=>ae y6 (aj (cH w) fun y7=>aj (kj y7) fun y8=>ae y8 (some (decide ((List.length w.aq.kept:Int)≤(40:Int)))) (some false)) (some false))=some (o0 w.fs&&(o0 ⟨0,0,0,w.aq.aV⟩&&decide (w.aq.kept.length≤40))):=by
  rw[sQ h.fs.len h.fs.dy,ah];cases o0 w.fs
  ·rfl
  rw[ay];show aj (some (⟨0,0,0,w.aq.aV⟩:Fs)) _=_;rw[ah,sQ h.aV.len h.aV.dy,ah];cases o0 ⟨0,0,0,w.aq.aV⟩
  ·rfl
  have e:decide ((w.aq.kept.length:Int)≤(40:Int))=decide (w.aq.kept.length≤40):=by rw[decide_eq_decide];omega
  rw[e];rfl
 rw[hK];have hl:=h.kl;refine(bU (l:=w.aq.kept.take 100) (fun n i (s:Unit)=>iC w (some false) (some (o0 w.fs&&(o0 ⟨0,0,0,w.aq.aV⟩&&decide (w.aq.kept.length≤40)))) n i) (fun _ (x:Kept) s K=>if decide (x.data.length≤5000) then K s else some false) (fun _=>some (o0 w.fs&&(o0 ⟨0,0,0,w.aq.aV⟩&&decide (w.aq.kept.length≤40)))) (by simp;omega) (fun n k x s hk hx=> ?_) (fun n s=> ?_) ()).trans ?_
 ·have hk':k<w.aq.kept.length∧k<100:=by simp at hk;omega
  have hx':w.aq.kept[k]? =some x:=by rw[List.getElem?_take_of_lt hk'.2] at hx;exact hx
  simp only[iC];have h100:decide ((k:Int)<(100:Int))=true:=by simp;omega
  rw[dec_lt hk'.1,h100,bP,toNat_cast,hx',bc (by omega)];simp only[ay,ah,aZ,if_true];by_cases h1:x.data.length≤5000
  ·have h1':¬(5000:Int)<(x.data.length:Int):=by omega
   simp [h1,h1']
  ·have h1':(5000:Int)<(x.data.length:Int):=by omega
   simp [h1,h1']
 ·simp only[iC]
  by_cases h:w.aq.kept.length≤100
  ·have e:(w.aq.kept.take 100).length=w.aq.kept.length:=by simp;omega
   rw[e,bW (Nat.le_refl _)];rfl
  ·have e:(w.aq.kept.take 100).length=100:=by simp;omega
   rw[e];have h1:decide (((100:Nat):Int)<(w.aq.kept.length:Int))=true:=by simp;omega
   rw[h1];rfl
 ·rw[fM]
  unfold Ef;cases h9:(w.aq.kept.take 100).all (fun k=>decide (k.data.length≤5000))
  ·rfl
  ·rfl
theorem Gn {w:ao} (h:Ef w=true):o0 w.fs=true∧o0 ⟨0,0,0,w.aq.aV⟩=true∧w.aq.kept.length≤40∧∀k∈w.aq.kept,k.data.length≤5000:=by
 unfold Ef at h;simp only[Bool.and_eq_true,decide_eq_true_eq] at h;obtain⟨h1,h2,h3,h4⟩:=h;rw[List.take_of_length_le (by omega),List.all_eq_true] at h1;exact⟨h2,h3,h4,fun k hk=>by simpa using h1 k hk⟩
def zf (x:al):Bool:= !decide (x.kind=3)|| !(x.data.any fun b=>b==0)
def BI (w:ao) (i:Int):Bool:=w.aq.kept.any fun k=>decide (k.ino=i)&& !k.content
def mY (w:ao) (x:al):Bool:=
 !(au x.ino w.fs.aa).isSome&&(decide (1≤x.ino)&&(decide (x.ino<w.fs.next)&&(decide (x.aI=0)&&(decide (x.parent=0)&&(decide (x.entries.length=0)&&(decide (1≤x.kind)&&(decide (x.kind≤3)&&(decide (x.kind=2→x.data= [])&&(decide (x.kind=3→1≤x.data.length)&&(decide (x.kind=3→x.data.length≤4095)&&(zf x&&BI w x.ino)))))))))))
theorem vp {α β R:Type} (f:β→α→β) (E:β→Option R):∀(l:List α) (k:Nat) (s:β),dL (fun _ x s K=>K (f s x)) E k l s=E (l.foldl f s)
 | [],_,_=>rfl
 |x::l,k,s=>by
  simp only[dL,List.foldl_cons];exact vp f E l (k+1) (f s x)
theorem Da {α:Type} (p:α→Bool):∀(l:List α) (b:Bool),l.foldl (fun s x=>s||p x) b=(b||l.any p)
 | [],b=>by simp
 |x::l,b=>by rw[List.foldl_cons,Da p l,List.any_cons,Bool.or_assoc]
theorem rX {R:Type} {x:al} {kr k0:Option R} (hl:x.data.length≤1073741824):cA x kr k0 bw (0:Int)=if zf x=true then k0 else kr:=by
 by_cases hk:x.kind=3
 ·refine(bU (l:=x.data) (fun m i (_:Unit)=>cA x kr k0 m i) (fun _ (b:UInt8) s K=>if (b==0)=true then kr else K s) (fun _=>k0) (by omega) (fun m k b u hkk hx=> ?_) (fun m u=> ?_) ()).trans ?_
  ·simp only[cA]
   rw[dec_lt hkk,bP,toNat_cast,hx,bc (by omega),ay,aL (by simp [hk]),ay,ah,aZ];have:((UInt8.toNat b:Int)==(0:Int))=(b==0):=jo b 0 (by omega);rw[this]
  ·simp only[cA]
   rw[bW (Nat.le_refl _)];rfl
  ·refine(jx (fun b:UInt8=>b==0) (fun _ _=>kr) k0 kr (fun _ _=>rfl) _ _ _).trans ?_
   unfold zf;rw[decide_eq_true hk];cases x.data.any (fun b=>b==0)<;>rfl
 ·have hs:zf x=true:=by unfold zf;rw[decide_eq_false hk];rfl
  rw[hs,if_pos rfl];refine(bU (l:=([] :List Nat)) (fun m i (_:Unit)=>cA x kr k0 m i) (fun _ _ s K=>K s) (fun _=>k0) (by simp) (fun m k b u hkk hx=>by simp at hkk) (fun m u=> ?_) ()).trans rfl;simp only[cA];rw[aZ,aW (by simp [hk])];split<;>rfl
theorem q8 {R:Type} {w:ao} {x:al} {k2:Bool→Option R} (hl:w.aq.kept.length≤1073741824):ct w x k2 bw false (0:Int)=k2 (BI w x.ino):=by
 refine(bU (l:=w.aq.kept) (fun m i (s:Bool)=>ct w x k2 m s i) (fun _ (k:Kept) s K=>K (s||(decide (k.ino=x.ino)&& !k.content))) k2 (by omega) (fun m k y s hkk hx=> ?_) (fun m s=> ?_) false).trans ?_
 ·simp only[ct]
  rw[dec_lt hkk,bP,toNat_cast,hx,bc (by omega)];simp only[ay,ah,aZ,eO];cases s
  ·by_cases h:y.ino=x.ino
   ·simp [h]
   ·simp [h]
  ·simp
 ·simp only[ct]
  rw[bW (Nat.le_refl _)];rfl
 ·rw[vp (fun s (k:Kept)=>s||(decide (k.ino=x.ino)&& !k.content)),Da,Bool.false_or];rfl
theorem vT {w:ao} {x:al} (h1:w.fs.aa.length≤1073741824) (h2:w.aq.kept.length≤1073741824) (h3:x.data.length≤1073741824):lM w x=some (mY w x):=by
 have e7:∀{R:Type} {kr k0:Option R},cA x kr k0 bw (0:Int)=if zf x=true then k0 else kr:=rX h3
 have e13:∀{R:Type} {k2:Bool→Option R},ct w x k2 bw false (0:Int)=k2 (BI w x.ino):=q8 h2;unfold lM mY;rw[cI h1,ah];simp only[e13];simp only[e7];cases (au x.ino w.fs.aa).isSome
 ·by_cases c1:1≤x.ino
  ·rw[ax,aW (by simp;omega),decide_eq_true c1]
   by_cases c2:x.ino<w.fs.next
   ·rw[aW (by simp;omega),decide_eq_true c2]
    by_cases c3:x.aI=0
    ·rw[aW (by simp [c3]),decide_eq_true c3]
     by_cases c4:x.parent=0
     ·rw[aW (by simp [c4]),decide_eq_true c4]
      by_cases c5:x.entries.length=0
      ·rw[aW (by simp [c5]),decide_eq_true c5]
       by_cases c6:1≤x.kind
       ·rw[aW (by simp;omega),decide_eq_true c6]
        by_cases c7:x.kind≤3
        ·rw[aW (by simp;omega),decide_eq_true c7]
         by_cases c8:x.kind=2
         ·have c9:¬x.kind=3:=by omega
          rw[aL (by simp [c8]),aW (b:=(x.kind==(3:Int))) (by simp [c9])];by_cases d1:x.data= []
          ·rw[aW (by simp [d1]),decide_eq_true (fun _=>d1),decide_eq_true (fun h=>absurd h c9),decide_eq_true (fun h=>absurd h c9)]
           cases zf x<;>simp
          ·rw[aL (by simp [d1]),decide_eq_false (fun h=>d1 (h c8))]
           simp
         ·rw[aW (b:=(x.kind==(2:Int))) (by simp [c8]),decide_eq_true (fun h=>absurd h c8)]
          by_cases c9:x.kind=3
          ·rw[aL (by simp [c9])]
           by_cases d1:1≤x.data.length
           ·rw[aW (by simp;omega),decide_eq_true (fun _=>d1)]
            by_cases d2:x.data.length≤4095
            ·rw[aW (by simp;omega),decide_eq_true (fun _=>d2)]
             cases zf x<;>simp
            ·rw[aL (by simp;omega),decide_eq_false (fun h=>d2 (h c9))]
             simp
           ·rw[aL (by simp;omega),decide_eq_false (fun h=>d1 (h c9))]
            simp
          ·rw[aW (by simp [c9]),decide_eq_true (fun h=>absurd h c9),decide_eq_true (fun h=>absurd h c9)]
           cases zf x<;>simp
        ·rw[aL (by simp;omega),decide_eq_false c7];simp
       ·rw[aL (by simp;omega),decide_eq_false c6];simp
      ·rw[aL (by simp [c5]),decide_eq_false c5];simp
     ·rw[aL (by simp [c4]),decide_eq_false c4];simp
    ·rw[aL (by simp [c3]),decide_eq_false c3];simp
   ·rw[aL (by simp;omega),decide_eq_false c2];simp
  ·rw[ax,aL (by simp;omega),decide_eq_false c1];simp
 ·rfl
def rv (w:ao) (i:Int):al:=match au i w.aq.aV with|some y=>y|none=>aD i w.fs.aa
def vi (w:ao) (last:Int) (k:Kept):Bool:=
 decide (last<k.slot)&&(decide (k.slot≤1073741824)&&(((au k.ino w.fs.aa).isSome||(au k.ino w.aq.aV).isSome)&&(if k.content then decide ((rv w k.ino).kind=1) else decide (k.data= []))))
def n4 (w:ao):Int→List Kept→Bool
 |_, [] =>true
 |last,k::l=>vi w last k&&n4 w k.slot l
def xw (w:ao):Bool:=decide (r4 w.fs=0)&&(ib w.aq.aV&&(w.aq.aV.all (mY w)&&n4 w 0 w.aq.kept))
theorem xu {R:Type} {w:ao} (kr k0:Option R):∀(l:List Kept) (j:Nat) (last:Int),dL (fun _ (k:Kept) (s:Int) K=>if vi w s k then K k.slot else kr) (fun _=>k0) j l last=if n4 w last l=true then k0 else kr
 | [],_,_=>rfl
 |k::l,j,last=>by
  rw[show n4 w last (k::l)=(vi w last k&&n4 w k.slot l) from rfl];simp only[dL];by_cases h:vi w last k=true
  ·rw[if_pos h,h,Bool.true_and]
   exact xu kr k0 l (j+1) k.slot
  ·rw[if_neg h,Bool.eq_false_iff.2 h];rfl
theorem p8 {w:ao} (sm:SmF w.fs) (ht:(dK w.fs.aa).length≤536870912) (h1:w.aq.kept.length≤1073741824) (h2:w.aq.aV.length≤1073741824) (h3:∀x∈w.aq.aV,x.data.length≤1073741824):im w=some (xw w):=by
 unfold im xw;rw[qn sm ht,ah,dT];by_cases c1:r4 w.fs=0
 ·rw[aW (by simp [c1]),decide_eq_true c1]
  show aj (some (⟨0,0,0,w.aq.aV⟩:Fs)) _=_;rw[ah,ri (f:=⟨0,0,0,w.aq.aV⟩) h2,ah];show ae (!ib w.aq.aV) _ _=_;cases ib w.aq.aV
  ·rfl
  simp only[Bool.not_true,ax,Bool.true_and];have e10:bD w (some false) (some true) bw (0:Int) (0:Int)=some (n4 w 0 w.aq.kept):=by
   refine(bU (l:=w.aq.kept) (fun m i (s:Int)=>bD w (some false) (some true) m s i) (fun _ (k:Kept) s K=>if vi w s k then K k.slot else some false) (fun _=>some true) (by omega) (fun m k y s hkk hx=> ?_) (fun m s=> ?_) 0).trans ?_
   ·simp only[bD]
    have hpg:bH (⟨0,0,0,w.aq.aV⟩:Fs) y.ino=some (aD y.ino w.aq.aV,(au y.ino w.aq.aV).isSome):=cI (f:=⟨0,0,0,w.aq.aV⟩) h2;have hP0:cH w=some ⟨0,0,0,w.aq.aV⟩:=rfl;rw[dec_lt hkk,bP,toNat_cast,hx,bc (by omega),ay,ay,ah,cI sm.len,ah,hP0,ah,hpg,ah];simp only[dT,rQ];unfold vi;by_cases d1:s<y.slot
    ·rw[aW (by simp;omega),decide_eq_true d1]
     by_cases d2:y.slot≤1073741824
     ·rw[aW (by simp;omega),decide_eq_true d2]
      cases hp:au y.ino w.aq.aV with
      |none=>
       have hki:rv w y.ino=aD y.ino w.fs.aa:=by unfold rv;rw[hp]
       rw[hki];cases hf:au y.ino w.fs.aa with
       |none=>rfl
       |some x=>
        rw[aR hf];cases y.content
        ·by_cases g:y.data= [] <;>simp [g]
        ·by_cases g:x.kind=1<;>simp [g]
      |some x=>
       have hki:rv w y.ino=x:=by unfold rv;rw[hp]
       rw[hki,aR hp];cases hf:au y.ino w.fs.aa with
       |none=>
        cases y.content
        ·by_cases g:y.data= [] <;>simp [g]
        ·by_cases g:x.kind=1<;>simp [g]
       |some z=>
        cases y.content
        ·by_cases g:y.data= [] <;>simp [g]
        ·by_cases g:x.kind=1<;>simp [g]
     ·rw[aL (by simp;omega),decide_eq_false d2];simp
    ·rw[aL (by simp;omega),decide_eq_false d1];simp
   ·simp only[bD]
    rw[bW (Nat.le_refl _)];rfl
   ·rw[xu]
    cases n4 w 0 w.aq.kept<;>rfl
  rw[e10];refine(bU (l:=w.aq.aV) (fun m i (_:Unit)=>fV w (some false) (some (n4 w 0 w.aq.kept)) m i) (fun _ (x:al) s K=>if mY w x then K s else some false) (fun _=>some (n4 w 0 w.aq.kept)) (by omega) (fun m k x u hkk hx=> ?_) (fun m u=> ?_) ()).trans ?_
  ·simp only[fV]
   rw[dec_lt hkk,bP,toNat_cast,hx,bc (by omega),ay,ay,ah,vT sm.len h1 (h3 x (List.mem_of_getElem? hx)),ah];cases mY w x<;>rfl
  ·simp only[fV]
   rw[bW (Nat.le_refl _)];rfl
  ·rw[fM]
   cases w.aq.aV.all (mY w)<;>rfl
 ·rw[aL (by simp [c1]),decide_eq_false c1];rfl
section
variable {lim:Int} {w:ao}
theorem ve {x:al}:mY w x=true↔xV x∧1≤x.ino∧x.ino<w.fs.next∧au x.ino w.fs.aa=none∧∃k∈w.aq.kept,k.ino=x.ino∧k.content=false:=by
 unfold mY xV zf BI;simp only[Bool.and_eq_true,Bool.or_eq_true,Bool.not_eq_true',decide_eq_true_eq,decide_eq_false_iff_not,List.any_eq_true,Option.isSome_eq_false_iff,Option.isNone_iff_eq_none,List.length_eq_zero_iff];constructor
 ·rintro⟨h1,h2,h3,h4,h5,h6,h7,h8,h9,h10,h11,h12,h13⟩
  refine⟨⟨h4,h5,h6, ?_⟩,h2,h3,h1,h13⟩;by_cases k1:x.kind=1
  ·exact Or.inl k1
  by_cases k2:x.kind=2
  ·exact Or.inr (Or.inl ⟨k2,h9 k2⟩)
  have k3:x.kind=3:=by omega
  exact Or.inr (Or.inr ⟨k3,h10 k3,h11 k3,h12.resolve_left (fun h=>h k3)⟩)
 ·rintro⟨⟨h4,h5,h6,h7⟩,h2,h3,h1,h13⟩
  refine⟨h1,h2,h3,h4,h5,h6, ?_⟩;rcases h7 with k1|⟨k2,k3⟩ |⟨k2,k3,k4,k5⟩
  ·exact⟨by omega,by omega,fun h=>by omega,fun h=>by omega,fun h=>by omega,Or.inl (by omega),h13⟩
  ·exact⟨by omega,by omega,fun _=>k3,fun h=>by omega,fun h=>by omega,Or.inl (by omega),h13⟩
  ·exact⟨by omega,by omega,fun h=>by omega,fun _=>k3,fun _=>k4,Or.inr k5,h13⟩
theorem Ir {last:Int} {l:List Kept} (h:n4 w last l=true):pS l∧(∀k∈l,last<k.slot)∧∀k∈l,k.slot≤1073741824∧((au k.ino w.fs.aa).isSome||(au k.ino w.aq.aV).isSome)=true∧(if k.content then decide ((rv w k.ino).kind=1) else decide (k.data= []))=true:=by
 induction l generalizing last with
 |nil=>exact⟨List.Pairwise.nil,by simp,by simp⟩
 |cons k l ih=>
  rw[n4,Bool.and_eq_true] at h;obtain⟨h1,h2⟩:=h;unfold vi at h1;simp only[Bool.and_eq_true,decide_eq_true_eq] at h1;obtain⟨a1,a2,a3⟩:=h1;obtain⟨i1,i2,i3⟩:=ih h2;refine⟨List.Pairwise.cons (fun b hb=> ?_) i1,fun b hb=> ?_,fun b hb=> ?_⟩
  ·have:=i2 b hb;simpa [ltI] using this
  ·rcases List.mem_cons.1 hb with rfl|hb
   ·exact a1
   ·have:=i2 b hb;omega
  ·rcases List.mem_cons.1 hb with rfl|hb
   ·exact⟨a2,a3⟩
   ·exact i3 b hb
theorem IY {last:Int} {l:List Kept} (hs:pS l) (h0:∀k∈l,last<k.slot) (h:∀k∈l,k.slot≤1073741824∧((au k.ino w.fs.aa).isSome||(au k.ino w.aq.aV).isSome)=true∧(if k.content then decide ((rv w k.ino).kind=1) else decide (k.data= []))=true):n4 w last l=true:=by
 induction l generalizing last with
 |nil=>rfl
 |cons k l ih=>
  have hs':=List.pairwise_cons.1 hs;rw[n4,Bool.and_eq_true];have hk:=h k (by simp);refine⟨?_,ih hs'.2 (fun b hb=> ?_) (fun b hb=>h b (by simp [hb]))⟩
  ·unfold vi
   rw[decide_eq_true (h0 k (by simp)),decide_eq_true hk.1,hk.2.1,hk.2.2];rfl
  ·have:=hs'.1 b hb;simpa [ltI] using this
theorem rS:xw w=true↔RW w:=by
 unfold xw;simp only[Bool.and_eq_true,decide_eq_true_eq,List.all_eq_true,qL];constructor
 ·rintro⟨h1,h2,h3,h4⟩
  have ht:=(En _).1 ((wF _).1 h1);have hp:∀x∈w.aq.aV,xV x∧1≤x.ino∧x.ino<w.fs.next∧au x.ino w.fs.aa=none∧∃k∈w.aq.kept,k.ino=x.ino∧k.content=false:=fun x hx=>ve.1 (h3 x hx)
  obtain⟨k1,k2,k3⟩:=Ir h4;refine⟨ht,h2,hp,k1,fun k hk=> ?_⟩;have a0:=k2 k hk;obtain⟨a1,a2,a3⟩:=k3 k hk;refine⟨by omega,a1,fun hc=> ?_, ?_⟩
  ·rw[hc] at a3;simpa using a3
  ·cases hpf:au k.ino w.aq.aV with
   |some y=>
    refine⟨y,Or.inr rfl,fun hc=> ?_⟩;rw[hc,if_pos rfl] at a3;unfold rv at a3;rw[hpf] at a3;simpa using a3
   |none=>
    cases hff:au k.ino w.fs.aa with
    |none=>rw[hpf,hff] at a2;cases a2
    |some x=>
     refine⟨x,Or.inl rfl,fun hc=> ?_⟩;rw[hc,if_pos rfl] at a3;unfold rv at a3;rw[hpf] at a3;simp only at a3;rw[aR hff] at a3;simpa using a3
 ·intro h
  refine⟨h.tr.check,h.ps,fun x hx=>ve.2 (h.pk x hx),IY h.ks (fun k hk=> ?_) (fun k hk=> ?_)⟩
  ·have:=(h.kk k hk).1;omega
  ·obtain⟨a1,a2,a3,x,a4,a5⟩:=h.kk k hk
   refine⟨a2, ?_, ?_⟩
   ·rcases a4 with a4|a4<;>rw[a4]<;>simp
   ·cases hc:k.content
    ·simp [a3 hc]
    ·simp only[if_true,decide_eq_true_eq]
     unfold rv;rcases a4 with a4|a4
     ·rw[h.oa a4]
      simp only;rw[aR a4];exact a5 hc
     ·rw[a4];exact a5 hc
theorem ID (h:Ef w=true) (hn:w.fs.next≤lim):Wb lim 40 w:=by
 obtain⟨h1,h2,h3,h4⟩:=Gn h;obtain⟨f1,f2⟩:=qQ h1;obtain⟨p1,p2⟩:=qQ h2;exact⟨⟨f1,fun x hx=>(f2 x hx).2.1,fun x hx=>by have:=(f2 x hx).1;omega⟩,by omega,h3,p1,fun k hk=>by have:=h4 k hk;omega,fun x hx=>by have:=(p2 x hx).1;omega⟩
def okW (w:ao):Bool:=Ef w&&xw w
theorem Df (h:InW w):sP w=some (okW w):=by
 unfold sP okW;rw[BG h,ah];cases hf:Ef w
 ·rfl
 obtain⟨h1,h2,h3,h4⟩:=Gn hf;obtain⟨p1,p2⟩:=qQ h2;rw[ay,p8 (SmF.JL h1) (by have:=LL h1;omega) h.kl h.aV.len (fun x hx=>by have:=(p2 x hx).1;omega),ah];rfl
theorem qx {n:Nat} (h:RW w) (b:Wb lim n w) (hn:n≤9000):im w=some true:=by
 have ew:=iF h.tr b.bd (by omega);have h1:=b.kl;have h2:=b.pl;rw[p8 ew.sm ew.tot (by omega) (by omega) (fun x hx=>by have:=b.pd x hx;omega),rS.2 h]
theorem Wb.inw {n:Nat} (h:RW w) (b:Wb lim n w) (hn:n≤9000):InW w:=
 ⟨b.bd.inf (by omega),⟨by have:=b.pl;show w.aq.aV.length≤_;omega,fun x hx=>by
  have:=(h.pk x hx).1.2.2.1;rw[this];simp⟩,by have:=b.kl;omega⟩
theorem InW.same (h:InW w) (v:ao):ep w v=some (decide (w=v)):=zd h.fs.len h.fs.dy h.aV.len h.aV.dy h.kl
end
section
variable {lim:Int} {w:ao} {f:Fs} {d x:al} {nm:Str} {e:Entry} {n:Nat} {s i:Int} {a:ar}
theorem L4 {fol:Bool} (hw:WF f) (ga:Gd f fol a) (an:a.name≠ []) (h:au a.ino f.aa=none):a.ino=0:=by
 rcases ga with⟨h1,_⟩ |⟨_,d,hd,hk,hi,_⟩
 ·exact absurd h1 an
 ·by_cases h0:cx a.name d.entries=0
  ·rw[hi,h0]
  ·obtain⟨e,_,h2,h3,h4⟩:=qP h0
   have:=hw.there d (aP hd).1 e h2;rw[h4,←hi,h] at this;cases this
theorem rh {fol:Bool} (h:RW w) (b:Wb lim n w) (hn:n≤9000) (ga:Gd w.fs fol a) (an:a.name≠ []) (hx:au a.ino w.fs.aa=some x) (hx0:x.entries= []):
 mn w s a=some (nd w s a)∧h_ w s a=some (nd w s a):=by
 obtain⟨e,t,t2⟩:=taken h.tr b.bd hn ga an hx hx0;refine⟨wE h b hn hx t.tr.sort (by have:=t.bd.len;omega) ?_,yn h b hn t2⟩;rw[t.eq,←t.Rh,dF (t.ent.ne h.tr),if_pos rfl];by_cases hl:x.aI=1
 ·rw[if_pos hl,decide_eq_true hl];rfl
 ·rw[if_neg hl,decide_eq_false hl];rfl
end
section
variable {w:ao} {f:Fs} {p d:Str} {o:Opn} {k:Int} {n:Nat} {a:ar} {x:al}
theorem IZ (hw:WF f) (h0:(atP f p).2=0):(au (atP f p).1.ino f.aa).isSome= !decide ((atP f p).1.ino=0):=by
 by_cases hz:(atP f p).1.ino=0
 ·rw[hz,hw.zero];rfl
 ·rw[decide_eq_false hz]
  by_cases hn:(atP f p).1.name= []
  ·have hpl:(cj p).2=true:=by
    unfold atP at h0;cases h:(cj p).2
    ·rw[h] at h0;simp at h0
    ·rfl
   have hat:atP f p=cB f.aa (cj p).1 dm:=by unfold atP;rw[if_pos hpl]
   have hgo:cB f.aa (cj p).1 dm=((atP f p).1,0):=by rw[←hat,←h0]
   rcases tE hgo with⟨_,h4⟩ |⟨d,m,ns',h3,h4,h5,h6,h7,h8⟩
   ·rw[h4];exact hw.root
   ·rw[h7] at hn
    have:=(jr hpl).2.1 m (by rw[h3];simp);exact absurd hn (qO this).1
  ·cases hf:au (atP f p).1.ino f.aa with
   |some x=>rfl
   |none=>exact absurd (L4 hw (Fy hw h0 hn).1 hn hf) hz
theorem v8 (hw:WF f) (h0:(atP f p).2=0):(atP f p).1.name.length≤255:=by
 by_cases hn:(atP f p).1.name= []
 ·rw[hn];simp
 ·exact CG (Fy hw h0 hn).2.1
theorem lF (hw:WF f) (hp:p.length≤8388608):j3 f p=some ((atP f p).1,dn f p):=by
 unfold j3 dn;rw[vk hw hp,ah,dT,dT];by_cases h1:(atP f p).2=0
 ·by_cases h2:(atP f p).1.ino=0<;>simp [h1,h2]
 ·simp [h1]
theorem gQ (hw:WF f) (hp:p.length≤8388608):gi f p=some ((atP f p).1,c_ f p,b9 f p):=by
 unfold gi b9 c_;rw[vk hw hp,ah,hw.get,ah,dT];by_cases h1:(atP f p).2=0
 ·cases h2:au (atP f p).1.ino f.aa<;>simp [h1]
 ·simp [h1]
theorem is0 (hw:WF f) (hp:p.length≤8388608):dN f p 0=some ((atP f p).1,c_ f p,dn f p):=by
 unfold dN dn c_;rw[qa hw hp,ah,hw.uf,ah,eO];by_cases h1:(atP f p).2=0
 ·rw[IZ hw h1]
  by_cases h2:(atP f p).1.ino=0<;>simp [h1,h2]
 ·simp [h1]
theorem is1 (hw:WF f) (hp:p.length≤8388608):dN f p 1=some ((atP f p).1,c_ f p,b9 f p):=by
 unfold dN b9 c_;rw[qa hw hp,ah,hw.uf,ah,eO];by_cases h1:(atP f p).2=0
 ·cases h2:au (atP f p).1.ino f.aa<;>simp [h1]
 ·simp [h1]
theorem oX (hw:WF f) (hp:p.length≤8388608):lS f p=some (c_ f p,f_ f p):=by
 unfold lS f_;rw[gQ hw hp,ah,dT,eO,dT];by_cases h1:b9 f p=0
 ·by_cases h2:(c_ f p).kind=2
  ·simp [h1,h2]
  ·by_cases h3:(c_ f p).kind=1<;>simp [h1,h2,h3]
 ·simp [h1]
theorem nE (hw:WF f) (ht:Tree f) (hp:p.length≤8388608):ko f p=some (c_ f p,f_ f p):=by
 unfold ko f_;rw[is1 hw hp,ah,eO,eO,eO];by_cases h1:b9 f p=0
 ·obtain⟨_,x,h2,h3⟩:=gz h1
  rw[h3];have hk:=(ht.eN h2).1;by_cases k1:x.kind=1
  ·simp [h1,k1]
  ·by_cases k2:x.kind=2
   ·simp [h1,k2]
   ·by_cases k3:x.kind=3
    ·simp [h1,k3]
    ·rw[GN k1 k2 k3] at hk;cases hk
 ·simp [h1]
theorem oW (z:Ez w.fs) (hp:p.length≤8388608) (hd:d.length≤1073741824):lU w p k d=some (m_ w p k d):=by
 unfold lU m_;rw[lF z.ws.wf hp,ah,dT];by_cases h1:dn w.fs p=0
 ·rw[aW (by simp [h1]),if_pos h1,(z.new (v8 z.ws.wf (iW h1).1) hd).1,ah]
 ·rw[aL (by simp [h1]),if_neg h1]
theorem nD (z:Ez w.fs) (hp:p.length≤8388608) (hd:d.length≤1073741824):j7 w p k d=some (m_ w p k d):=by
 unfold j7 m_;rw[is0 z.ws.wf hp,ah,dT];by_cases h1:dn w.fs p=0
 ·rw[aW (by simp [h1]),if_pos h1,(z.new (v8 z.ws.wf (iW h1).1) hd).2,ah]
 ·rw[aL (by simp [h1]),if_neg h1]
variable (h:RW w) (b:Wb 549755813888 n w) (hn:n≤8990)
include h b hn
theorem wi (p:Str):(c_ w.fs p).data.length≤1073741824:=by
 have:=(b.bd.get (atP w.fs p).1.ino).2;unfold c_;omega
theorem xK (ha:o.a.length≤8388608) (hb:o.b.length≤8388608):mQ w o=some (vr w o):=by
 have z:=(h.ew b (by omega)).ez;unfold mQ vr;rw[oX z.ws.wf ha,ah,dT];by_cases h1:f_ w.fs o.a=0
 ·rw[aW (by simp [h1]),if_pos h1,oW z hb (wi h b hn _),ah]
 ·rw[aL (by simp [h1]),if_neg h1]
theorem zN {i s:Int} (hx:au i w.fs.aa=some x):tQ w s i=match cF s w.aq.kept with|some _=>(w,13) |none=>(nG w s x,0):=by
 unfold tQ nG;rw[aR hx,(aP hx).2];cases cF s w.aq.kept<;>rfl
theorem vI (ha:o.a.length≤8388608) (hb:o.b.length≤8388608):lL w o=some (ou w o):=by
 have z:=(h.ew b (by omega)).ez;unfold lL ou;rw[oX z.ws.wf ha,ah,dT];by_cases h1:f_ w.fs o.a=0
 ·rw[aW (by simp [h1]),if_pos h1,oX z.ws.wf hb,ah,dT,eO]
  by_cases h2:f_ w.fs o.b=0
  ·rw[aW (by simp [h2]),if_pos h2]
   by_cases h3:(c_ w.fs o.a).ino=(c_ w.fs o.b).ino
   ·rw[aL (by simp [h3]),if_pos h3]
   ·obtain⟨_,y,hy,hyi,hyk⟩:=wh h2
    have hyy:au (c_ w.fs o.b).ino w.fs.aa=some y:=by rw[hyi,(aP hy).2];exact hy
    rw[aW (by simp [h3]),if_neg h3,tF h b (by omega),ah,zN h b hn hyy,dT];cases hs:cF o.slot w.aq.kept with
    |some k=>rfl
    |none=>
     rw[aW (by simp)];show aj (qw w.fs _ _) _=_;rw[CS z.ws.wf (wi h b hn _),ah,dT];by_cases h4:(rm w.fs (c_ w.fs o.b).ino (c_ w.fs o.a).data).2=0
     ·rw[aW (by simp [h4])]
      simp only;rw[if_pos h4,←hyi]
     ·rw[aL (by simp [h4])]
      simp only;rw[if_neg h4]
  ·rw[aL (by simp [h2]),if_neg h2]
 ·rw[aL (by simp [h1]),if_neg h1]
theorem uo (ha:o.a.length≤8388608) (hb:o.b.length≤8388608):kC w o=some (ou w o):=by
 have z:=(h.ew b (by omega)).ez;unfold kC ou;rw[nE z.ws.wf h.tr ha,ah,dT];by_cases h1:f_ w.fs o.a=0
 ·rw[aW (by simp [h1]),if_pos h1,nE z.ws.wf h.tr hb,ah,dT,eO]
  by_cases h2:f_ w.fs o.b=0
  ·rw[aW (by simp [h2]),if_pos h2]
   by_cases h3:(c_ w.fs o.a).ino=(c_ w.fs o.b).ino
   ·rw[aL (by simp [h3]),if_pos h3]
   ·obtain⟨_,y,hy,hyi,hyk⟩:=wh h2
    have hyy:au (c_ w.fs o.b).ino w.fs.aa=some y:=by rw[hyi,(aP hy).2];exact hy
    rw[aW (by simp [h3]),if_neg h3,sI h b (by omega),ah,zN h b hn hyy,dT];cases hs:cF o.slot w.aq.kept with
    |some k=>rfl
    |none=>
     rw[aW (by simp)];show aj (nT w.fs _ _) _=_;rw[AG z.ws.wf (wi h b hn _),ah,dT];by_cases h4:(rm w.fs (c_ w.fs o.b).ino (c_ w.fs o.a).data).2=0
     ·rw[aW (by simp [h4])]
      simp only;rw[if_pos h4,←hyi]
     ·rw[aL (by simp [h4])]
      simp only;rw[if_neg h4]
  ·rw[aL (by simp [h2]),if_neg h2]
 ·rw[aL (by simp [h1]),if_neg h1]
theorem xT (ha:o.a.length≤8388608) (hb:o.b.length≤8388608):nf w o=some (rr w o):=by
 have z:=(h.ew b (by omega)).ez;unfold nf rr;rw[gQ z.ws.wf ha,ah,dT,eO];by_cases h1:b9 w.fs o.a=0
 ·rw[aW (by simp [h1]),if_pos h1]
  by_cases h2:(c_ w.fs o.a).kind=2
  ·rw[aL (by simp [h2]),if_pos h2]
  ·rw[aW (by simp [h2]),if_neg h2,lF z.ws.wf hb,ah,eO]
   by_cases h3:dn w.fs o.b=0
   ·rw[aL (by simp [h3]),if_pos h3,lJ z,ah,h3]
   ·rw[aW (by simp [h3]),if_neg h3]
 ·rw[aL (by simp [h1]),if_neg h1]
theorem yT (ha:o.a.length≤8388608) (hb:o.b.length≤8388608):oi w o=some (tq w o):=by
 have z:=(h.ew b (by omega)).ez;unfold oi tq;rw[gQ z.ws.wf ha,ah,dT];by_cases h1:b9 w.fs o.a=0
 ·rw[aW (by simp [h1]),if_pos h1,lF z.ws.wf hb,ah,eO]
  by_cases h3:dn w.fs o.b=0
  ·rw[aL (by simp [h3]),if_pos h3,AF z,ah,h3]
  ·rw[aW (by simp [h3]),if_neg h3]
 ·rw[aL (by simp [h1]),if_neg h1]
theorem E1 (hp:cr o.a=true) (ha:o.a.length≤8388608):kH w o=some (jM w o.a (nd w o.slot (atP w.fs o.a).1)):=by
 have z:=(h.ew b (by omega)).ez;unfold kH jM;rw[gQ z.ws.wf ha,ah,dT];by_cases h1:b9 w.fs o.a=0
 ·obtain⟨a0,x,hx,hxi⟩:=gz h1
  rw[aW (by simp [h1]),if_pos h1,hxi];by_cases h2:0<x.entries.length
  ·rw[aL (by simp;omega),if_pos h2]
  ·have hx0:x.entries= [] :=List.length_eq_zero_iff.1 (by omega)
   obtain⟨ga,am,an,_⟩:=d_ z.ws.wf hp a0;rw[aW (by simp [hx0]),if_neg h2,(rh h b (by omega) ga an hx hx0).1,ah]
 ·rw[aL (by simp [h1]),if_neg h1]
theorem xj:na w a=some (lx w a):=by
 have z:=(h.ew b (by omega)).ez;have hl:=b.kl;unfold na lx;rw[z.ws.wf.get,ah,mh z,ah];simp only[eO];generalize aD a.ino w.fs.aa=x;have key:∀(kr:Int→Option (ao×Int)) (k0 r:Option (ao×Int)),(∀j:Nat,kr (j:Int)=r)→db w.aq.kept (List.length w.aq.kept:Int) x kr k0 bw (0:Int)=if (w.aq.kept.any fun k=>decide (k.ino=x.ino))=true then r else k0:=by
  intro kr k0 r hr;refine(bU (l:=w.aq.kept) (fun m i (_:Unit)=>db w.aq.kept (List.length w.aq.kept:Int) x kr k0 m i) (fun k (y:Kept) u K=>if (decide (y.ino=x.ino)) then kr (k:Int) else K u) (fun _=>k0) (by omega) (fun m k y u hk hx=> ?_) (fun m u=> ?_) ()).trans ?_
  ·simp only[db]
   rw[dec_lt hk,bP,toNat_cast,hx,bc (by omega),ay,ay,ah,eO,aZ]
  ·simp only[db]
   rw[bW (Nat.le_refl _)];rfl
  ·exact jx (fun y:Kept=>decide (y.ino=x.ino)) (fun k _=>kr (k:Int)) k0 r (fun k _=>hr k) _ _ _
 rw[key _ _ (ae (decide (x.aI=1)) (some (w,13)) (some (⟨dV w.fs a,w.aq⟩,0))) (fun j=>aL (by simp))];cases (w.aq.kept.any fun k=>decide (k.ino=x.ino))
 ·rw[if_neg (by simp),if_neg (by simp)]
 ·rw[if_pos rfl]
  by_cases hl:x.aI=1
  ·rw[aL (by simp [hl]),if_pos ⟨rfl,hl⟩]
  ·rw[aW (by simp [hl]),if_neg (fun e=>hl e.2)]
theorem FM (ha:o.a.length≤8388608):kE w o=some (jM w o.a (lx w (atP w.fs o.a).1)):=by
 have z:=(h.ew b (by omega)).ez;unfold kE jM;rw[gQ z.ws.wf ha,ah,dT];by_cases h1:b9 w.fs o.a=0
 ·rw[aW (by simp [h1]),if_pos h1]
  by_cases h2:0<(c_ w.fs o.a).entries.length
  ·rw[aL (by simp;omega),if_pos h2]
  ·have hx0:(c_ w.fs o.a).entries= [] :=List.length_eq_zero_iff.1 (by omega)
   rw[aW (by simp [hx0]),if_neg h2,xj h b hn,ah]
 ·rw[aL (by simp [h1]),if_neg h1]
theorem uC (hp:cr o.a=true) (ha:o.a.length≤8388608):ky w o=some (jI w o):=by
 have z:=(h.ew b (by omega)).ez;unfold ky jI;rw[lF z.ws.wf ha,ah,dT];by_cases h1:dn w.fs o.a=0
 ·obtain⟨a0,ai⟩:=iW h1
  obtain⟨ga,am,an,_⟩:=d_ z.ws.wf hp a0;rw[aW (by simp [h1]),if_pos h1,yI h b (by omega) ga ai (by have:=v8 z.ws.wf a0;omega),ah]
 ·rw[aL (by simp [h1]),if_neg h1]
theorem tW (ha:o.a.length≤8388608):kD w o=some (ir w o):=by
 have z:=(h.ew b (by omega)).ez;have hl:=b.kl;unfold kD ir;rw[gQ z.ws.wf ha,ah,iN h.ks (by omega),ah,dT,dT];by_cases h1:b9 w.fs o.a=0
 ·rw[aW (by simp [h1]),if_pos h1]
  cases hs:cF o.slot w.aq.kept with
  |none=>rfl
  |some k=>
   simp only[Option.isSome_some,Option.getD_some,Bool.not_true,ax];cases hc:k.content
   ·rw[if_neg (by simp)];rfl
   ·by_cases hi:k.ino=(c_ w.fs o.a).ino
    ·rw[if_pos ⟨rfl,hi⟩,aW (by simp),aW (by simp [hi]),sE h b (by omega),ah]
    ·rw[if_neg (fun e=>hi e.2),aW (by simp),aL (by simp [hi])]
 ·rw[aL (by simp [h1]),if_neg h1]
theorem eC (ha:o.a.length≤8388608) (hb:o.b.length≤8388608) (hd:o.data.length≤1073741824):gm w o=some (doO w o):=by
 have z:=(h.ew b (by omega)).ez;unfold gm doO;rw[GR ha hb,ah];cases hm:kp o
 ·rfl
 rw[Bool.not_true,ax,if_pos rfl];have M:=(J5 o).1 hm;have e1:kJ w o=some (m_ w o.a 2 []):=by unfold kJ;rw[oW z ha (by simp),ah]
 have e4:kI w o=some (m_ w o.a 3 o.data):=by unfold kI;rw[oW z ha hd,ah]
 rw[e1,e4,xK h b hn ha hb,vI h b hn ha hb,xT h b hn ha hb,yT h b hn ha hb,E1 h b hn M.a ha,FM h b hn ha,uC h b hn M.a ha,tW h b hn ha];simp only[ah];rcases kinds M.kind.1 M.kind.2 with e|e|e|e|e|e|e|e|e|e<;>rw[e]<;>rfl
theorem sY {kr k1:Option (ao×Int)}:dE w x kr k1 bw (0:Int)=if (w.aq.kept.any fun k=>decide (k.ino=x.ino))=true∧x.aI=1 then kr else k1:=by
 have hl:=b.kl;refine(bU (l:=w.aq.kept) (fun m i (_:Unit)=>dE w x kr k1 m i) (fun k (y:Kept) u K=>if (decide (y.ino=x.ino)&&decide (x.aI=1))=true then kr else K u) (fun _=>k1) (by omega) (fun m k y u hk hx=> ?_) (fun m u=> ?_) ()).trans ?_
 ·simp only[dE]
  rw[dec_lt hk,bP,toNat_cast,hx,bc (by omega),ay,ay,ah,eO,eO];by_cases h1:y.ino=x.ino<;>by_cases h2:x.aI=1<;>simp [h1,h2]
 ·simp only[dE]
  rw[bW (Nat.le_refl _)];rfl
 ·refine(jx (fun y:Kept=>decide (y.ino=x.ino)&&decide (x.aI=1)) (fun _ _=>kr) k1 kr (fun _ _=>rfl) _ _ _).trans ?_
  by_cases h2:x.aI=1
  ·simp [h2]
  ·simp [h2]
theorem vt (ha:o.a.length≤8388608) (hb:o.b.length≤8388608) (hd:o.data.length≤1073741824):pU w o=some (doO w o):=by
 have ew:=h.ew b (by omega);have z:=ew.ez;have hl:=b.kl;unfold pU doO;rw[oT ha hb hd,ah];cases hm:kp o
 ·rfl
 rw[Bool.not_true,ax,if_pos rfl];have M:=(J5 o).1 hm;rcases kinds M.kind.1 M.kind.2 with e|e|e|e|e|e|e|e|e|e
 ·rw[aL (by simp [e]),if_pos e,nD z ha (by simp),ah]
 ·rw[aW (by simp [e]),aL (by simp [e]),if_neg (by omega),if_pos e,nE z.ws.wf h.tr ha,ah,dT]
  unfold vr;by_cases h1:f_ w.fs o.a=0
  ·rw[aW (by simp [h1]),if_pos h1,nD z hb (wi h b hn _),ah]
  ·rw[aL (by simp [h1]),if_neg h1]
 ·rw[aW (by simp [e]),aW (by simp [e]),aL (by simp [e]),if_neg (by omega),if_neg (by omega),if_pos e,uo h b hn ha hb,ah]
 ·rw[aW (by simp [e]),aW (by simp [e]),aW (by simp [e]),aL (by simp [e]),if_neg (by omega),if_neg (by omega),if_neg (by omega),if_pos e,nD z ha hd,ah]
 ·rw[aW (by simp [e]),aW (by simp [e]),aW (by simp [e]),aW (by simp [e]),aL (by simp [e]),if_neg (by omega),if_neg (by omega),if_neg (by omega),if_neg (by omega),if_pos e,is1 z.ws.wf ha,ah,is0 z.ws.wf hb,ah]
  simp only[eO,dT];rcases AL (o:=o) h b hn (M.b (by unfold j6;simp [e])) with⟨er,he,hlk⟩ |⟨x,h3,hxi,hxx,hk,_,_,_,hlk,hr,_,_⟩
  ·rw[hlk]
   unfold rr at hlk;by_cases h1:b9 w.fs o.a=0
   ·rw[if_pos h1] at hlk
    rw[aL (by simp [h1])];by_cases h2:(c_ w.fs o.a).kind=2
    ·rw[if_pos h2] at hlk
     rw[aL (by simp [h2]),←hlk]
    ·rw[if_neg h2] at hlk
     rw[aW (by simp [h2]),aW (by simp [h1])];by_cases h3:dn w.fs o.b=0
     ·rw[if_pos h3] at hlk
      exact absurd (congrArg Prod.snd hlk).symm he
     ·rw[if_neg h3] at hlk
      rw[aL (by simp [h3]),←hlk]
   ·rw[if_neg h1] at hlk
    rw[aW (by simp [h1]),aL (by simp [h1]),←hlk]
  ·have h1:b9 w.fs o.a=0:=by
    unfold rr at hlk;by_cases h1:b9 w.fs o.a=0
    ·exact h1
    ·rw[if_neg h1] at hlk;exact absurd (congrArg Prod.snd hlk) h1
   unfold rr;rw[aL (by simp [h1]),hxi,aW (by simp [hk]),aW (by simp [h1]),aW (by simp [h3]),iS z,ah,hr,if_pos h1,if_neg hk,if_pos h3]
 ·rw[aW (by simp [e]),aW (by simp [e]),aW (by simp [e]),aW (by simp [e]),aW (by simp [e]),aL (by simp [e]),if_neg (by omega),if_neg (by omega),if_neg (by omega),if_neg (by omega),if_neg (by omega),if_pos e,is1 z.ws.wf ha,ah,is0 z.ws.wf hb,ah]
  simp only[eO,dT];unfold tq;by_cases h1:b9 w.fs o.a=0
  ·rw[aW (by simp [h1]),if_pos h1]
   by_cases h3:dn w.fs o.b=0
   ·obtain⟨x,ok,_⟩:=Br h.tr z.ws.wf M.a (M.b (by unfold j6;simp [e])) (M.under e).2 h1 h3
    obtain⟨_,_,hr⟩:=tN h.tr b.bd (by omega) ok;rw[aW (by simp [h3]),if_pos h3,zb z,ah,hr]
   ·rw[aL (by simp [h3]),if_neg h3]
  ·rw[aL (by simp [h1]),if_neg h1]
 ·rw[aW (by simp [e]),aW (by simp [e]),aW (by simp [e]),aW (by simp [e]),aW (by simp [e]),aW (by simp [e]),aL (by simp [e]),aL (by simp [e]),if_neg (by omega),if_neg (by omega),if_neg (by omega),if_neg (by omega),if_neg (by omega),if_neg (by omega),if_pos e,is1 z.ws.wf ha,ah]
  simp only[eO,dT];unfold jM;by_cases h1:b9 w.fs o.a=0
  ·obtain⟨a0,x,hx,hxi⟩:=gz h1
   rw[aL (by simp [h1]),if_pos h1,hxi];by_cases h2:0<x.entries.length
   ·rw[aL (by simp;omega),if_pos h2]
   ·have hx0:x.entries= [] :=List.length_eq_zero_iff.1 (by omega)
    obtain⟨ga,am,an,_⟩:=d_ z.ws.wf M.a a0;rw[aW (by simp [hx0]),if_neg h2,aW (by simp [h1]),aL (by simp [e]),(rh h b (by omega) ga an hx hx0).2,ah]
  ·rw[aW (by simp [h1]),aL (by simp [h1]),if_neg h1]
 ·rw[aW (by simp [e]),aW (by simp [e]),aW (by simp [e]),aW (by simp [e]),aW (by simp [e]),aW (by simp [e]),aW (by simp [e]),aL (by simp [e]),if_neg (by omega),if_neg (by omega),if_neg (by omega),if_neg (by omega),if_neg (by omega),if_neg (by omega),if_neg (by omega),if_pos e,is1 z.ws.wf ha,ah]
  simp only[eO,dT];rcases Dq (p:=o.a) h b hn M.a with⟨er,he,hlk⟩ |⟨x,e',h1,hxi,tk,hr,hlk,_,_⟩
  ·rw[hlk]
   unfold jM lx at hlk;by_cases h1:b9 w.fs o.a=0
   ·obtain⟨a0,x,hx,hxi⟩:=gz h1
    rw[if_pos h1] at hlk;rw[aL (by simp [h1])];rw[hxi] at hlk⊢;by_cases h2:0<x.entries.length
    ·rw[if_pos h2] at hlk
     rw[aL (by simp;omega),←hlk]
    ·have hx0:x.entries= [] :=List.length_eq_zero_iff.1 (by omega)
     rw[if_neg h2,aR hx] at hlk;rw[aW (by simp [hx0]),aW (by simp [h1]),aW (by simp [e]),sY h b hn];split at hlk
     ·rename_i hc
      rw[if_pos hc,←hlk]
     ·exact absurd (congrArg Prod.snd hlk).symm he
   ·rw[if_neg h1] at hlk
    rw[aW (by simp [h1]),aL (by simp [h1]),←hlk]
  ·rw[hlk]
   obtain⟨a0,x',hx,hxi'⟩:=gz h1;rw[hxi] at hxi';subst hxi';unfold jM lx at hlk;rw[if_pos h1,hxi,if_neg (by rw[tk.xe];simp),aR hx] at hlk;rw[aL (by simp [h1]),hxi,aW (by simp [tk.xe]),aW (by simp [h1]),aW (by simp [e]),sY h b hn];split at hlk
   ·exact absurd (congrArg Prod.snd hlk) (by show¬((13:Int)=0);decide)
   ·rename_i hc
    rw[if_neg hc,lA z,ah,hr]
 ·rw[aW (by simp [e]),aW (by simp [e]),aW (by simp [e]),aW (by simp [e]),aW (by simp [e]),aW (by simp [e]),aW (by simp [e]),aW (by simp [e]),aL (by simp [e]),if_neg (by omega),if_neg (by omega),if_neg (by omega),if_neg (by omega),if_neg (by omega),if_neg (by omega),if_neg (by omega),if_neg (by omega),if_pos e,is0 z.ws.wf ha,ah,dT]
  unfold jI;by_cases h1:dn w.fs o.a=0
  ·obtain⟨a0,ai⟩:=iW h1
   obtain⟨ga,am,an,_⟩:=d_ z.ws.wf M.a a0;rw[aW (by simp [h1]),if_pos h1,zi h b (by omega) ga ai (by have:=v8 z.ws.wf a0;omega),ah]
  ·rw[aL (by simp [h1]),if_neg h1]
 ·rw[aW (by simp [e]),aW (by simp [e]),aW (by simp [e]),aW (by simp [e]),aW (by simp [e]),aW (by simp [e]),aW (by simp [e]),aW (by simp [e]),aW (by simp [e]),if_neg (by omega),if_neg (by omega),if_neg (by omega),if_neg (by omega),if_neg (by omega),if_neg (by omega),if_neg (by omega),if_neg (by omega),if_neg (by omega),is1 z.ws.wf ha,ah,iM (by omega),ah]
  simp only[eO,dT];unfold ir;by_cases h1:b9 w.fs o.a=0
  ·rw[aW (by simp [h1]),if_pos h1]
   cases hs:cF o.slot w.aq.kept with
   |none=>rfl
   |some k=>
    simp only[Option.isSome_some,Option.getD_some,Bool.not_true,ax];cases hc:k.content
    ·rw[if_neg (by simp)];rfl
    ·by_cases hi:k.ino=(c_ w.fs o.a).ino
     ·rw[if_pos ⟨rfl,hi⟩,aW (by simp),aW (by simp [hi]),tI h b (by omega),ah]
     ·rw[if_neg (fun e=>hi e.2),aW (by simp),aL (by simp [hi])]
  ·rw[aL (by simp [h1]),if_neg h1]
end
section
variable {w v:ao} {o:Opn} {l:List Opn} {n:Nat}
theorem fk:fp o=some (eU o):=by
 unfold fp eU;simp only[eO,aZ,decide_eq_true_eq];by_cases k1:o.kind=1
 ·simp [k1]
 by_cases k4:o.kind=4
 ·simp [k4]
 by_cases k2:o.kind=2
 ·simp [k2]
 by_cases k5:o.kind=5
 ·simp [k5]
 by_cases k3:o.kind=3
 ·simp [k3]
 by_cases k6:o.kind=6
 ·simp [k6]
 by_cases k7:o.kind=7
 ·simp [k7]
 ·simp [k1,k2,k3,k4,k5,k6,k7]
theorem uw:nr o=some (eU o):=fk
def F4 (o:Opn):Bool:=decide (o.a.length≤1000)&&(decide (o.b.length≤1000)&&decide (o.data.length≤5000))
theorem sD (hl:l.length≤1073741824):nU l=some ((l.take 200).all F4&&decide (l.length≤100)):=by
 unfold nU;refine(bU (l:=l.take 200) (fun n i (s:Unit)=>iE l (some false) (some (decide ((l.length:Int)≤(100:Int)))) n i) (fun _ x s K=>if F4 x then K s else some false) (fun _=>some (decide ((l.length:Int)≤(100:Int)))) (by simp;omega) (fun n k x s hk hx=> ?_) (fun n s=> ?_) ()).trans ?_
 ·have hk':k<l.length∧k<200:=by simp at hk;omega
  have hx':l[k]? =some x:=by rw[List.getElem?_take_of_lt hk'.2] at hx;exact hx
  simp only[iE];have h100:decide ((k:Int)<(200:Int))=true:=by simp;omega
  rw[dec_lt hk'.1,h100,bP,toNat_cast,hx',bc (by omega)];simp only[ay,ah,aZ];unfold F4;by_cases h1:x.a.length≤1000
  ·have h1':¬(1000:Int)<(x.a.length:Int):=by omega
   by_cases h2:x.b.length≤1000
   ·have h2':¬(1000:Int)<(x.b.length:Int):=by omega
    by_cases h3:x.data.length≤5000
    ·have h3':¬(5000:Int)<(x.data.length:Int):=by omega
     simp [h1,h1',h2,h2',h3,h3']
    ·have h3':(5000:Int)<(x.data.length:Int):=by omega
     simp [h1,h1',h2,h2',h3,h3']
   ·have h2':(1000:Int)<(x.b.length:Int):=by omega
    simp [h1,h1',h2,h2']
  ·have h1':(1000:Int)<(x.a.length:Int):=by omega
   simp [h1,h1']
 ·simp only[iE]
  by_cases h:l.length≤200
  ·have e:(l.take 200).length=l.length:=by simp;omega
   rw[e,bW (Nat.le_refl _)];rfl
  ·have e:(l.take 200).length=200:=by simp;omega
   rw[e];have h1:decide (((200:Nat):Int)<(l.length:Int))=true:=by simp;omega
   rw[h1];rfl
 ·rw[fM]
  have e:decide ((l.length:Int)≤(100:Int))=decide (l.length≤100):=by rw[decide_eq_decide];omega
  rw[e];cases (l.take 200).all F4<;>rfl
theorem GL (h:((l.take 200).all F4&&decide (l.length≤100))=true):l.length≤100∧∀o∈l,o.a.length≤1000∧o.b.length≤1000∧o.data.length≤5000:=by
 simp only[Bool.and_eq_true,decide_eq_true_eq] at h;obtain⟨h1,h2⟩:=h;rw[List.take_of_length_le (by omega),List.all_eq_true] at h1;refine⟨h2,fun o ho=> ?_⟩;have:=h1 o ho;unfold F4 at this;simpa only[Bool.and_eq_true,decide_eq_true_eq] using this
theorem AE (hi:InW w) (hl:l.length≤1073741824):∃b,jf w l=some b∧(b=true→RW w∧Wb 549755813888 40 w∧l.length≤100∧∀o∈l,o.a.length≤1000∧o.b.length≤1000∧o.data.length≤5000):=by
 unfold jf;rw[Df hi,ah];cases ho:okW w
 ·exact⟨false,rfl,by simp⟩
 rw[ay];by_cases hn:w.fs.next<549755813888
 ·rw[aL (by simp [hn]),sD hl,ah]
  refine⟨_,rfl,fun h=> ?_⟩;unfold okW at ho;simp only[Bool.and_eq_true] at ho;have hr:=rS.1 ho.2;exact⟨hr,ID ho.1 (by omega),GL h⟩
 ·rw[aW (by simp;omega)]
  exact⟨false,rfl,by simp⟩
def wT:ao:=⟨⟨4,9,9,[⟨1,2,0, [],1,[⟨[97],4⟩,⟨[100],3⟩]⟩,⟨3,2,1, [],1, []⟩,⟨4,1,1,[122],0, []⟩]⟩,⟨[], []⟩⟩
theorem FA:mO=some wT:=by
 unfold mO;have e1:uD 4 9=some ⟨4,9,2,[⟨1,2,0, [],1, []⟩]⟩:=rfl;rw[e1,ah,cu (by decide),ah,cu (by decide),ah,cu (by decide),ah];rfl
theorem rwT:RW wT:=rS.1 (by decide+kernel)
theorem wbT:Wb 549755813888 40 wT:=ID (by decide+kernel) (by decide)
theorem tG:cC=some true:=by
 unfold cC;have f:40≤8990:=by decide
 have f2:42≤8990:=by decide
 have d1:=Dk (o:=⟨7,1,[47,97], [], []⟩) rwT wbT f;have d2:=Dk (o:=⟨2,0,[47,97],[47,100,47,98], []⟩) rwT wbT f;rw[FA,ah,eC rwT wbT f (by decide) (by decide) (by decide),ah,eC d1.1 d1.2.1 f2 (by decide) (by decide) (by decide),ah,eC rwT wbT f (by decide) (by decide) (by decide),ah,eC d2.1 d2.2.1 f2 (by decide) (by decide) (by decide),ah,eC rwT wbT f (by decide) (by decide) (by decide),ah,eC d2.1 d2.2.1 f2 (by decide) (by decide) (by decide),ah,eC d2.1 d2.2.1 f2 (by decide) (by decide) (by decide),ah,fk,ah,fk,ah,fk,ah];have e3:(doO (doO wT ⟨7,1,[47,97], [], []⟩).1 ⟨9,1,[47,97], [], []⟩).1=wT:=by decide+kernel
 rw[aL (by decide+kernel),aL (by decide+kernel),e3,(wbT.inw rwT (by decide)).same,ah,decide_eq_true rfl,ay,aL (by decide+kernel),aL (by decide+kernel),aL (by decide+kernel),aL (by decide+kernel),aL (by decide+kernel),aL (by decide+kernel),aL (by decide+kernel),aL (by decide+kernel),aL (by decide+kernel),aL (by decide+kernel)];rfl
theorem IB (h:RW w) (b:Wb 549755813888 n w) (hn:n≤8990):InW (doO w o).1:=by
 have:=Dk (o:=o) h b hn;exact this.2.1.inw this.1 (by omega)
theorem yM (hi:InW w):ma w o=some true:=by
 unfold ma;rw[tG];simp only[ah,Bool.not_true,ax];obtain⟨b,hb,hb2⟩:=AE (l:=[o]) hi (by simp);rw[hb,ah];cases b
 ·rfl
 obtain⟨r,wb,_,hl⟩:=hb2 rfl;have ho:=hl o (by simp);rw[Bool.not_true,ax,eC r wb (by decide) (by omega) (by omega) (by omega),ah,vt r wb (by decide) (by omega) (by omega) (by omega),ah,(IB r wb (by decide)).same,ah,decide_eq_true rfl,ay];simp
theorem wy (hi:InW w):lB w o=some true:=by
 unfold lB;rw[tG];simp only[ah,Bool.not_true,ax];obtain⟨b,hb,hb2⟩:=AE (l:=[o]) hi (by simp);rw[hb,ah];cases b
 ·rfl
 obtain⟨r,wb,_,hl⟩:=hb2 rfl;have ho:=hl o (by simp);have l1:=wb.bd.len;have l2:=wb.kl;have l3:=wb.pl;have eta:(⟨⟨w.fs.aA,w.fs.aH,w.fs.next,([] :List al)++w.fs.aa⟩,⟨([] :List Kept)++w.aq.kept,([] :List al)++w.aq.aV⟩⟩:ao)=w:=rfl;rw[Bool.not_true,ax,bV (by unfold LIM;simp;omega),bV (by unfold LIM;simp;omega),bV (by unfold LIM;simp;omega)];rw[eta,eC r wb (by decide) (by omega) (by omega) (by omega),ah,vt r wb (by decide) (by omega) (by omega) (by omega),ah,hi.same,ah,decide_eq_true rfl,ay,(IB r wb (by decide)).same,ah,decide_eq_true rfl,ay];simp
theorem Gv {N:Nat} (h1:o.a.length≤N) (h2:o.b.length≤N):(eU o).1.a.length≤N∧(eU o).1.b.length≤N∧(eU o).1.data.length=0:=by
 unfold eU
 repeat' split
 all_goals simp [h1,h2]
theorem ur (hi:InW w):ju w o=some true:=by
 unfold ju;rw[tG];simp only[ah,Bool.not_true,ax];obtain⟨b,hb,hb2⟩:=AE (l:=[o]) hi (by simp);rw[hb,ah];cases b
 ·rfl
 obtain⟨r,wb,_,hl⟩:=hb2 rfl;have ho:=hl o (by simp);have dk:=Dk (o:=o) r wb (by decide);have il:=Gv (o:=o) (N:=1000) ho.1 ho.2.1;rw[Bool.not_true,ax,eC r wb (by decide) (by omega) (by omega) (by omega),ah,fk,ah,dT,eO];by_cases h0:(doO w o).2=0
 ·rw[aW (by simp [h0])]
  cases hv:(eU o).2
  ·rw[Bool.not_false,ay,aL (by simp [h0])]
  ·obtain⟨c,_,hu⟩:=Oa r wb (by decide) h0 hv
   rw[Bool.not_true,ax,eC dk.1 dk.2.1 (by decide) (by omega) (by omega) (by omega),ah,hu,aW (by simp),qx dk.1 dk.2.1 (by decide),ah,Bool.not_true,ax];have eta:(⟨⟨(w.nx c,(0:Int)).1.fs.aA,(w.nx c,(0:Int)).1.fs.aH,w.fs.next,(w.nx c,(0:Int)).1.fs.aa⟩,(w.nx c,(0:Int)).1.aq⟩:ao)=w:=rfl;rw[eta,hi.same,ah,decide_eq_true rfl]
 ·rw[aL (by simp [h0]),aW (by simp [h0]),dk.2.2 h0,hi.same,ah,decide_eq_true rfl]
theorem MU (h:kp o=true) (hv:(eU o).2=true):kp (eU o).1=true∧(eU o).1.slot≤1073741824∧((eU o).1.kind=6∨(eU o).1.kind=8∨(eU o).1.kind=9∨(eU o).1.kind=10):=by
 have M:=(J5 o).1 h;by_cases k1:o.kind=1∨o.kind=4
 ·have hinv:(eU o).1=⟨8,0,o.a, [], []⟩:=by unfold eU;rw[if_pos k1]
  rw[hinv];refine⟨?_,by show(0:Int)≤1073741824;decide,Or.inr (Or.inl rfl)⟩;unfold kp gw j6;simp [M.a]
 by_cases k2:o.kind=2∨o.kind=5
 ·have hinv:(eU o).1=⟨8,0,o.b, [], []⟩:=by unfold eU;rw[if_neg k1,if_pos k2]
  rw[hinv];refine⟨?_,by show(0:Int)≤1073741824;decide,Or.inr (Or.inl rfl)⟩;have hb:=M.b (by unfold j6;rcases k2 with e|e<;>simp [e]);unfold kp gw j6;simp [hb]
 by_cases k3:o.kind=3
 ·have hinv:(eU o).1=⟨10,o.slot,o.b, [], []⟩:=by unfold eU;rw[if_neg k1,if_neg k2,if_pos k3]
  rw[hinv];have hs:=M.slot (by unfold gw;simp [k3]);refine⟨?_,hs.2,Or.inr (Or.inr (Or.inr rfl))⟩;have hb:=M.b (by unfold j6;simp [k3]);unfold kp gw j6;simp [hb,hs.1,hs.2]
 by_cases k6:o.kind=6
 ·have hinv:(eU o).1=⟨6,0,o.b,o.a, []⟩:=by unfold eU;rw[if_neg k1,if_neg k2,if_neg k3,if_pos k6]
  rw[hinv];refine⟨?_,by show(0:Int)≤1073741824;decide,Or.inl rfl⟩;have hb:=M.b (by unfold j6;simp [k6]);have hu:=M.under k6;unfold kp gw j6;simp [hb,M.a,hu.1,hu.2]
 by_cases k7:o.kind=7
 ·have hinv:(eU o).1=⟨9,o.slot,o.a, [], []⟩:=by unfold eU;rw[if_neg k1,if_neg k2,if_neg k3,if_neg k6,if_pos k7]
  rw[hinv];have hs:=M.slot (by unfold gw;simp [k7]);refine⟨?_,hs.2,Or.inr (Or.inr (Or.inl rfl))⟩;unfold kp gw j6;simp [M.a,hs.1,hs.2]
 ·unfold eU at hv
  rw[if_neg k1,if_neg k2,if_neg k3,if_neg k6,if_neg k7] at hv;cases hv
theorem sG:jb o=some true:=by
 unfold jb;rw[tG];simp only[ah,Bool.not_true,ax];rw[sD (by simp),ah];cases hf:(([o].take 200).all F4&&decide ([o].length≤100))
 ·rfl
 have ho:=(GL hf).2 o (by simp);have il:=Gv (o:=o) (N:=1000) ho.1 ho.2.1;rw[Bool.not_true,ax,fk,ah,uw,ah,aW (by simp),aW (by simp)];cases hv:(eU o).2
 ·rfl
 rw[Bool.not_true,ax,oT (by omega) (by omega) (by omega),ah];cases hm:kp o
 ·rfl
 obtain⟨m1,m2,m3⟩:=MU hm hv;have hmi:jh (eU o).1=some true:=by rw[oT (by omega) (by omega) (by omega),m1]
 rw[Bool.not_true,ax,hmi,ah,ay];have hu:oL [(eU o).1]=some true:=by
  unfold oL;generalize (eU o).1=q at*;refine(bU (l:=[q]) (fun m i (s:Int)=>fG [q] (some false) (some true) m s i) (fun k (x:Opn) s K=>if gw q.kind then (if s≤q.slot then some false else K q.slot) else K s) (fun _=>some true) (by simp) (fun m k x u hk hx=> ?_) (fun m u=> ?_) 2147483648).trans ?_
  ·have hk0:k=0:=by simpa using hk
   subst hk0;have hxq:x=q:=by simpa using hx.symm
   subst hxq;simp only[fG];rw[dec_lt hk,bP,toNat_cast,hx,bc (by omega),ay,ay,ah,hmi,ah,Bool.not_true,ax,ay,ah,aW (by simp;omega),ay,ah,aW (by simp;omega),ay,ah,nQ,ah,aZ];cases gw x.kind
   ·simp
   ·simp only[if_true,ay,ah,aZ]
    by_cases hge:u≤x.slot<;>simp [hge]
  ·simp only[fG]
   rw[bW (Nat.le_refl _)];rfl
  ·simp only[dL]
   split
   ·rw[if_neg (by omega)]
   ·rfl
 rw[hu,ah]
theorem wD (hi:InW w) (hll:l.length≤1073741824):k_ w l=some true:=by
 unfold k_;rw[tG];simp only[ah,Bool.not_true,ax];obtain⟨b,hb,hb2⟩:=AE (l:=l) hi hll;rw[hb,ah];cases b
 ·rfl
 obtain⟨r,wb,_,hl⟩:=hb2 rfl;rw[Bool.not_true,ax];by_cases h20:l.length>20
 ·rw[aL (by simp;omega)]
 rw[aW (by simp;omega)];refine jn (l:=l) (fun m i (s:ao)=>du l (some false) (some true) m i s) (fun k s=>RW s∧Wb 549755813888 (40+2*k) s) (fun q=>q=some true) (by omega) (fun m k x s hk hx hinv hnext=> ?_) (fun m s _=> ?_) w ⟨r,wb⟩
 ·obtain⟨r1,b1⟩:=hinv
  have hx2:=hl x (List.mem_of_getElem? hx);have dk:=Dk (o:=x) r1 b1 (by omega);have b2:Wb 549755813888 (40+2*(k+1)) (doO s x).1:=dk.2.1.mono (by omega);have hn:=hnext _ ⟨dk.1,b2⟩;simp only[du];rw[dec_lt hk,bP,toNat_cast,hx,bc (by omega),ay,ay,ah,eC r1 b1 (by omega) (by omega) (by omega) (by omega),ah,qx dk.1 dk.2.1 (by omega),ah,Bool.not_true,ax,(dk.1.ew dk.2.1 (by omega)).check,dT];simp only[ah];by_cases h0:(doO s x).2=0
  ·rw[aW (by simp [h0]),aW (by simp)];exact hn
  ·have hs:=(b1.inw r1 (by omega)).same s
   rw[decide_eq_true rfl] at hs;rw[aL (by simp [h0])];rw[dk.2.2 h0] at hn⊢;rw[hs,ah,Bool.not_true,ax,aW (by simp)];exact hn
 ·simp only[du]
  rw[bW (Nat.le_refl _)];rfl
end
theorem RO {a b c:Int} {l:List al} {k:List Kept} {q:List al} (h:HL.ok 1048576 [.int .i64, .int .i64, .int .i64, .sl .aS, .sl .kept, .sl .aS] (a,b,c,l,k,q,())):InW ⟨⟨a,b,c,l⟩,⟨k,q⟩⟩:=by
 obtain⟨_,_,_,⟨h1,h2⟩,⟨h3,_⟩,⟨h5,h6⟩,_⟩:=h;have g1:l.length≤1048576:=h1;have g3:k.length≤1048576:=h3;have g5:q.length≤1048576:=h5;exact⟨⟨by show l.length≤1073741824;omega,fun x hx=>by have:x.ok 1048576:=h2 x hx;have:=this.2.2.2.2.2.1;omega⟩,⟨by show q.length≤1073741824;omega,fun x hx=>by have:x.ok 1048576:=h6 x hx;have:=this.2.2.2.2.2.1;omega⟩,by show k.length≤1073741824;omega⟩
theorem L1 {v:HL.V [.int .i64, .int .i64, .int .i64, .sl .aS, .sl .kept, .sl .aS]} (h:HL.ok 1048576 [.int .i64, .int .i64, .int .i64, .sl .aS, .sl .kept, .sl .aS] v):InW ⟨⟨v.1,v.2.1,v.2.2.1,v.2.2.2.1⟩,⟨v.2.2.2.2.1,v.2.2.2.2.2.1⟩⟩:=by
 obtain⟨a,b,c,l,k,q,u⟩:=v;exact RO h
end Go.Eng
