/- A part of the proofs of the laws of this seat: the engine that reads the program's code, plain functions, or facts of the program's functions. Conditions: none. -/
import Derived.Test.YtodknkhemckfbaaGreatDoorP3
import Derived.Test.YtodknkhemckfbaaGreatDoorP1
import Derived.Test.YtodknkhemckfbaaGreatDoorE4
import Derived.Test.YtodknkhemckfbaaGreatDoorP2
set_option linter.unusedSectionVars false
set_option linter.unusedVariables false
set_option linter.unusedSimpArgs false
set_option linter.unnecessarySimpa false
set_option maxRecDepth 100000
namespace Go.Eng
open Go
def Fs.nx (f:Fs) (c:Int):Fs:=⟨f.ay,f.aB,c,f.aa⟩
def aq.nx (w:aq) (c:Int):aq:=⟨w.fs.nx c,w.al⟩
section
variable {w:aq} {f g:Fs} {d x y z:ao} {nm p q t:Str} {e:Entry} {n m:Nat} {s i:Int} {k:Kept} {a b:au} {o:Opn}
theorem IP (wf:WS f) (wg:WS g) (hf:je f d nm) (mo:qJ f g d nm x) (hp:(bZ p).2=true) (ha:atP f p=(a,0)) (hd:a.dir=d.ino) (hn:a.name=nm):atP g p=(⟨a.dir,a.name,x.ino⟩,0):=by
 have hex:=mo.ext wf wg hf;obtain⟨r,hr,_⟩:=wf.LJ;obtain⟨u1,u2⟩:=hex.here hr;have h1:cq f.aa (bZ p).1 dt=(a,0):=by
  unfold atP at ha;rw[if_pos hp] at ha;exact ha
 have h2:=(hex.cq _ _ _ u2 h1).1;rw[u1] at h2;unfold atP;rw[if_pos hp];show cq g.aa (bZ p).1 ⟨0, [],1⟩=_;rw[h2];unfold rm;rw[if_pos ⟨hd,hn⟩,hd,hn]
theorem MU {kd:Int} (ht:Tree f) (hf:je f d nm) (hx:ar f.next f.aa=none) (hgf:∀j,ar j g.aa=if f.next=j then some y else if d.ino=j then some (d.bO nm f.next) else ar j f.aa) (hg:ct g.aa) (h1:g.ay=f.ay) (h2:g.aB=f.aB) (h3:g.next=f.next+1) (hyi:y.ino=f.next) (hyl:y.aH=1):dE g (d.bO nm f.next) nm y=f.nx (f.next+1):=by
 have hs:=(ht.eN hf.hd).2.2.2.2.1;have hne:y.ino≠(d.bO nm f.next).ino:=λe1=>by
  have e2:f.next=d.ino:=by rw[<-hyi];exact e1
  have:=hf.hd;rw[<-e2,hx] at this;cases this
 have hm:=np (f:=g) (d:=d.bO nm f.next) (x:=y) (nm:=nm);refine wa (by rw[hm.1,h1];rfl) (by rw[hm.2.1,h2];rfl) (by rw[hm.2.2,h3];rfl) (sj hg) ht.sort λj=> ?_
 show _=ar j f.aa;rw[cZ hne,hyi,if_pos hyl];show(if f.next=j then none else if d.ino=j then some ((d.bO nm f.next).b6 nm) else _)=_;by_cases c1:f.next=j
 ·rw[if_pos c1,<-c1,hx]
 rw[if_neg c1,hgf,if_neg c1];by_cases c2:d.ino=j
 ·rw[if_pos c2,<-c2,hf.hd]
  show some (ao.mk d.ino d.kind d.aH d.data d.parent (cH nm (fg ⟨nm,f.next⟩ d.entries)))=some d;rw[sB hs hf.h0]
 ·rw[if_neg c2,if_neg c2]
theorem E_ (mo:qJ f g d nm x):Ent g (d.bO nm x.ino) nm x ⟨nm,x.ino⟩:=by
 refine⟨?_, ?_,rfl, ?_⟩
 ·show ar d.ino g.aa=_
  rw[mo.find,if_neg mo.ne,if_pos rfl]
 ·show cM nm (fg ⟨nm,x.ino⟩ d.entries)=_
  rw[sA,if_pos rfl]
 ·rw[mo.find,if_pos rfl]
theorem Fw (mo:qJ f g d nm x) (h:d.ino=i):aC i g.aa=d.bO nm x.ino:=by
 refine aT ?_;rw[mo.find,if_neg (by rw[<-h];exact mo.ne),if_pos h]
theorem Om (h:RW w) (hk:k∈w.al.kept):k.ino<w.fs.next:=by
 obtain⟨_,_,_,z,hz,_⟩:=h.kk k hk;rcases hz with hz|hz
 ·exact(h.tr.eN hz).2.2.2.1
 ·exact(h.jP hz).2.2.2.1
theorem BC (hp:b_ p=true):gw ⟨8,0,p, [], []⟩=true:=by
 unfold gw db jT;simp [hp]
theorem vW {kd:Int} (h:RW w) (b:Wb 549755813888 n w) (hn:n<=8980) (hp:b_ p=true) (hfree:cN w.fs p=0) (mk:Made w.fs n (atP w.fs p).1 kd t (qI w.fs (atP w.fs p).1 kd t)):
 doO ⟨qI w.fs (atP w.fs p).1 kd t,w.al⟩ ⟨8,0,p, [], []⟩=(w.nx (w.fs.next+1),0):=by
 obtain⟨a0,ai⟩:=jr hfree;have ha:atP w.fs p=((atP w.fs p).1,0):=by rw[<-a0]
 have ew:=ja h.tr b.bd (by omega);have eg:=ja mk.tr mk.bd (by omega);obtain⟨_,_,_,_,_,hpl⟩:=eA ew.wf hp a0;generalize (atP w.fs p).1=a at*;have hat:=IP ew.ws eg.ws mk.free mk.more hpl ha mk.ino.symm rfl;generalize hg:qI w.fs a kd t=g at*;have hatx:atP g p=(⟨a.dir,a.name,w.fs.next⟩,0):=hat;have hgx:ar w.fs.next g.aa=some (o9 w.fs a kd t):=by rw[mk.more.find,if_pos (show(o9 w.fs a kd t).ino=w.fs.next from rfl)]
 have hth:bM g p=0:=by
  unfold bM;rw[hatx,if_pos rfl];simp only;rw[hgx]
 have hino:cO g p=o9 w.fs a kd t:=by
  unfold cO;rw[hatx];exact aT hgx
 unfold doO;rw[BC hp,if_pos rfl];simp only;rw[if_neg (by decide),if_neg (by decide),if_neg (by decide),if_neg (by decide),if_neg (by decide),if_neg (by decide),if_neg (by decide),if_pos trivial];unfold jQ;simp only;rw[hth,if_pos rfl,hino,if_neg (by simp [o9]),hatx];unfold lj;simp only;rw[aT hgx,if_neg (λhh=> ?_)]
 ·have hen:=E_ mk.more
  have hdir:=Fw mk.more mk.ino;rw[<-hdir] at hen;have hu:=(Df (s:=⟨a.dir,a.name,w.fs.next⟩) hen mk.tr rfl).1;rw[hu];have hb:=MU (g:=g) (y:=o9 w.fs a kd t) (kd:=kd) h.tr mk.free (zI h.tr) (λj=>mk.more.find j) mk.tr.sort mk.max.1 mk.max.2 mk.next rfl rfl;show((⟨dE g (aC a.dir g.aa) a.name (o9 w.fs a kd t),w.al⟩:aq),(0:Int))=_;rw[hdir];show((⟨dE g ((aC a.dir w.fs.aa).bO a.name w.fs.next) a.name (o9 w.fs a kd t),w.al⟩:aq),(0:Int))=_;rw[hb];rfl
 ·obtain⟨k',hk',hk2⟩:=List.any_eq_true.1 hh.1
  have h1:=Om h hk';have h2:k'.ino=w.fs.next:=of_decide_eq_true hk2;omega
theorem Kv (h:RW w) (b:Wb 549755813888 n w) (hn:n<=8980) (hp:b_ p=true) (hfree:cN w.fs p=0) (hxx:ar x.ino w.fs.aa=some x) (hk:x.kind≠2) (hf:je w.fs (aC (atP w.fs p).1.dir w.fs.aa) (atP w.fs p).1.name) (hs:(aC (atP w.fs p).1.dir w.fs.aa).ino=(atP w.fs p).1.dir) (hne:x.ino≠(aC (atP w.fs p).1.dir w.fs.aa).ino):
 doO ⟨ig w.fs (aC (atP w.fs p).1.dir w.fs.aa) (atP w.fs p).1.name x,w.al⟩ ⟨8,0,p, [], []⟩=(w,0):=by
 obtain⟨a0,ai⟩:=jr hfree;have ha:atP w.fs p=((atP w.fs p).1,0):=by rw[<-a0]
 have ew:=ja h.tr b.bd (by omega);have tg:=Dq h.tr hf hxx hk;have eg:=ja tg (b.bd.ig h.tr hf hxx) (by omega);obtain⟨_,_,_,_,_,hpl⟩:=eA ew.wf hp a0;generalize (atP w.fs p).1=a at*;have mo:qJ w.fs (ig w.fs (aC a.dir w.fs.aa) a.name x) (aC a.dir w.fs.aa) a.name (x.cL (x.aH+1)):=wC hxx hne;have hat:=IP ew.ws eg.ws hf mo hpl ha hs.symm rfl;have hlp:=B0 h.tr hxx (Md h.tr hxx hk);have hback:=J5 h.tr hf hxx hne (by omega);generalize ig w.fs (aC a.dir w.fs.aa) a.name x=g at*;have hatx:atP g p=(⟨a.dir,a.name,x.ino⟩,0):=hat;have hgx:ar x.ino g.aa=some (x.cL (x.aH+1)):=by rw[mo.find,if_pos (show(x.cL (x.aH+1)).ino=x.ino from rfl)]
 have hth:bM g p=0:=by
  unfold bM;rw[hatx,if_pos rfl];simp only;rw[hgx]
 have hino:cO g p=x.cL (x.aH+1):=by
  unfold cO;rw[hatx];exact aT hgx
 have hx0:x.entries= [] :=h.tr.CS hxx hk;unfold doO;rw[BC hp,if_pos rfl];simp only;rw[if_neg (by decide),if_neg (by decide),if_neg (by decide),if_neg (by decide),if_neg (by decide),if_neg (by decide),if_neg (by decide),if_pos trivial];unfold jQ;simp only;rw[hth,if_pos rfl,hino,if_neg (by show¬0<x.entries.length;rw[hx0];simp),hatx];unfold lj;simp only;rw[aT hgx,if_neg (λhh=>by have:x.aH+1=1:=hh.2;omega)];have hen:=E_ mo;have hdir:=Fw mo hs;rw[<-hdir] at hen;have hu:=(Df (s:=⟨a.dir,a.name,x.ino⟩) hen tg rfl).1;rw[hu];show((⟨dE g (aC a.dir g.aa) a.name (x.cL (x.aH+1)),w.al⟩:aq),(0:Int))=_;rw[hdir];show((⟨dE g ((aC a.dir w.fs.aa).bO a.name x.ino) a.name (x.cL (x.aH+1)),w.al⟩:aq),(0:Int))=_;rw[hback]
theorem GV (h:RW w) (b:Wb 549755813888 n w) (hp:b_ p=true) (hs1:1<=s) (hs2:s<=1073741824) (hfile:gD w.fs p=0) (hy:ar (atP w.fs p).1.ino w.fs.aa=some y) (hyy:ar y.ino w.fs.aa=some y) (hk:y.kind=1) (hs:b9 s w.al.kept=none) (hfit:cy w.fs 0 ((t.length:Int) - (y.data.length:Int))=true):
 doO ⟨w.fs.set (y.cd t),(pr w s y).al⟩ ⟨10,s,p, [], []⟩=(w,0):=by
 obtain⟨a0,_⟩:=yB hfile;have hsim:=En (f:=w.fs) (d:=t) hyy hk;have hat:atP (w.fs.set (y.cd t)) p=atP w.fs p:=(OH hsim p).symm;have hyi:=(aQ hy).2;have hgy:ar y.ino (w.fs.set (y.cd t)).aa=some (y.cd t):=by
  show ar y.ino (bB _ w.fs.aa)=_;rw[bA,if_pos (show(y.cd t).ino=y.ino from rfl)]
 have hth:bM (w.fs.set (y.cd t)) p=0:=by
  unfold bM;rw[hat,if_pos a0,<-hyi,hgy]
 have hino:cO (w.fs.set (y.cd t)) p=y.cd t:=by
  unfold cO;rw[hat,<-hyi];exact aT hgy
 have hfs:b9 s (pr w s y).al.kept=some ⟨s,y.ino,true,y.data⟩:=by
  show bT Kept.slot s (jB ltI Kept.slot ⟨s,y.ino,true,y.data⟩ w.al.kept)=_;rw[r4 (pK hs),if_pos rfl]
 have hfit2:cy (w.fs.set (y.cd t)) 0 ((y.data.length:Int) - ((y.cd t).data.length:Int))=true:=by
  have hb:=fb (x:=y.cd t) h.tr.sort;rw[show(y.cd t).ino=y.ino from rfl,hyy] at hb;have e1:byt y=y.data.length:=by unfold byt;rw[if_pos hk]
  have e2:byt (y.cd t)=t.length:=by unfold byt;rw[if_pos (show(y.cd t).kind=1 from hk)];rfl
  simp only[iP,e1,e2] at hb;have hl:=gV (x:=y.cd t) h.tr.sort;rw[show(y.cd t).ino=y.ino from rfl,hyy] at hl;have hl':(bB (y.cd t) w.fs.aa).length=w.fs.aa.length:=hl;have hff:=h.tr.fits;unfold cy at hff⊢;simp only[Bool.and_eq_true,decide_eq_true_eq] at hff⊢;show((bB (y.cd t) w.fs.aa).length:Int)+0<=w.fs.ay/\bytesOf (bB (y.cd t) w.fs.aa)+((y.data.length:Int) - (t.length:Int))<=w.fs.aB;omega
 have hmay:gw ⟨10,s,p, [], []⟩=true:=by
  unfold gw db jT;simp [hp,hs1,hs2]
 unfold doO;rw[hmay,if_pos rfl];simp only;rw[if_neg (by decide),if_neg (by decide),if_neg (by decide),if_neg (by decide),if_neg (by decide),if_neg (by decide),if_neg (by decide),if_neg (by decide),if_neg (by decide)];unfold gR;simp only;rw[hth,if_pos rfl,hfs];simp only;rw[hino,if_pos ⟨trivial,rfl⟩];unfold jZ;rw[hfs];simp only;rw[if_pos trivial,hgy];simp only;rw[hfit2,if_pos rfl,EN h hyy hs]
theorem K1 (ht:Tree f) (w:WF f) (hp:b_ p=true) (ha:atP f p=(a,0)) (tk:zw f n a x e g):atP g p=(⟨a.dir,a.name,0⟩,0):=by
 have a0:(atP f p).2=0:=by rw[ha]
 obtain⟨_,_,_,hgo,hne,hpl⟩:=eA w hp a0;rw[ha] at hgo;have hgo:cq f.aa (bZ p).1 dt=(a,0):=hgo;have hxne:=tk.ent.ne ht;have hd:=tk.ent.hd;rw[tk.JZ] at hd hxne;have hfind:=λj=>cZ (f:=f) (d:=aC a.dir f.aa) (nm:=a.name) (x:=x) (tk.ent.ne ht) j
 rw[<-tk.eq,tk.JZ] at hfind;have hx1:x.ino≠1:=λe1=>ht.qX tk.ent.hd tk.ent.mem.1 (by rw[tk.ent.hn,e1])
 unfold atP;rw[if_pos hpl];rcases nq (bZ p).1 with h0|⟨ns,c,h0⟩
 ·exact absurd h0 hne
 rw[h0] at hgo⊢;obtain⟨u,dd,hu1,hu2,hu3,hu4⟩:=pg hgo;have hud:u.ino=a.dir:=by rw[hu4];exact(aQ hu2).2.symm
 have hc:c=a.name:=by rw[hu4]
 have hw0:∀{D:Int},D≠x.ino->¬∃m,Way f.aa x.ino D m:=λhD ⟨m,hm⟩=>by
  rcases hm.head with⟨_,h1⟩ |⟨_,z,e',_,hz,he',_⟩
  ·exact hD h1
  ·rw[tk.ent.hx] at hz;cases hz
   rw[tk.xe] at he';cases he'
 have hD0:a.dir≠0:=λe1=>by rw[e1,w.zero] at hd;cases hd
 have hk:=wJ (l:=g.aa) w (D:=a.dir) (X:=x.ino) (B:=x.ino) (λk q=>k=a.dir/\q=a.name) (λk z hz hzk hkb=>by
  rw[hfind,if_neg (λe1=>hkb e1.symm)];by_cases c2:a.dir=k
  ·rw[if_pos c2]
   rw[<-c2,hd] at hz;cases hz;refine⟨_,rfl,hzk,rfl,λq hq=> ?_⟩;show cm q (cH a.name _)=_;rw[kE,if_neg (λe1=>hq ⟨c2.symm,e1.symm⟩)]
  ·rw[if_neg c2]
   exact⟨z,hz,hzk,rfl,λ_ _=>rfl⟩) (λk z q hz hpq=>by
 obtain⟨rfl,rfl⟩:=hpq
 rw[hd] at hz;cases hz
 left
 rw[BM tk.ent.he,tk.ent.hn]) (hw0 (λe1=>hxne e1.symm)) (λe1=>hxne e1.symm) (λz hz=>by rw[tk.ent.hx] at hz;cases hz;exact tk.xe) hD0 hu1 hud (λ_=>λe1=>hx1 e1.symm)
 rw[rD,hk,if_pos rfl];have hgd:ar u.ino g.aa=some ((aC a.dir f.aa).b6 a.name):=by
  rw[hfind,hud,if_neg hxne,if_pos rfl]
 have hkk:((aC a.dir f.aa).b6 a.name).kind=2:=tk.ent.kind ht;rw[eM hgd hkk];simp only[cq,Prod.mk.injEq,and_true];have hi:((aC a.dir f.aa).b6 a.name).ino=a.dir:=tk.JZ;have he:cm c ((aC a.dir f.aa).b6 a.name).entries=0:=by
  show cm c (cH a.name _)=0;rw[kE,if_pos hc.symm]
 rw[hi,he,hc]
theorem FY (h:RW w) (b:Wb 549755813888 n w) (hn:n<=8980) (hp:b_ p=true) (hs1:1<=s) (hs2:s<=1073741824) (hth:bM w.fs p=0) (hs:b9 s w.al.kept=none) (tk:zw w.fs n (atP w.fs p).1 x e (dF w.fs (atP w.fs p).1)):
 doO (fX w s (aC (atP w.fs p).1.dir w.fs.aa) (atP w.fs p).1.name x) ⟨9,s,p, [], []⟩=(w,0):=by
 have ew:=ja h.tr b.bd (by omega);obtain⟨a0,_⟩:=gO hth;have ha:atP w.fs p=((atP w.fs p).1,0):=by rw[<-a0]
 obtain⟨_,am,an,_⟩:=eA ew.wf hp a0;have hat:=K1 h.tr ew.wf hp ha tk;generalize (atP w.fs p).1=a at*;rw[tk.eq] at hat;have hmay:gw ⟨9,s,p, [], []⟩=true:=by
  unfold gw db jT;simp [hp,hs1,hs2]
 have hfr:cN (fX w s (aC a.dir w.fs.aa) a.name x).fs p=0:=by
  show cN (dE w.fs (aC a.dir w.fs.aa) a.name x) p=0;unfold cN;rw[hat,if_pos rfl,if_pos rfl]
 unfold doO;rw[hmay,if_pos rfl];simp only;rw[if_neg (by decide),if_neg (by decide),if_neg (by decide),if_neg (by decide),if_neg (by decide),if_neg (by decide),if_neg (by decide),if_neg (by decide),if_pos trivial];unfold jt;simp only;rw[hfr,if_pos rfl];have hat2:(atP (fX w s (aC a.dir w.fs.aa) a.name x).fs p).1=⟨a.dir,a.name,0⟩:=by
  show(atP (dE w.fs _ _ _) p).1=_;rw[hat]
 rw[hat2];exact JY h b am hs1 hs2 hs tk
theorem Jk (ht:Tree f) (ok:yL f a b x) {d1 d2:ao} (P:q8 f a b x d1 d2) (b0:b.ino=0) (hf2:cM b.name d2.entries=none) (m:jc f a b x n f e g) {x':ao} {e':Entry} {n':Nat} {f':Fs} (m2:jc g ⟨b.dir,b.name,a.ino⟩ ⟨a.dir,a.name,0⟩ x' n' g e' f') (hm1:f'.ay=f.ay) (hm2:f'.aB=f.aB) (hm3:f'.next=f.next):f'=f:=by
 have hxi:=P.xi;have hgx:ar a.ino g.aa=some (if x.kind=2 then x.gB b.dir else x):=by rw[m.find,if_pos hxi]
 have hx'i:x'.ino=a.ino:=m2.pre.hx;have hx':x'=if x.kind=2 then x.gB b.dir else x:=by
  have h1:=m2.pre.mv.ent.hx;rw[hx'i,hgx] at h1;exact(Option.some.inj h1).symm
 have hent:=m.pre.mv.ent;rw[aT P.a1] at hent;have hs1:=(ht.eN P.a1).2.2.2.2.1;have hs2:=(ht.eN P.b1).2.2.2.2.1;have d1i:=(aQ P.a1).2;have d2i:=(aQ P.b1).2;have hne1:=m.xne.1;have hne2:=m.xne.2;have e1:e=⟨a.name,x.ino⟩:=by
  have h1:=hent.mem.2;have h2:=hent.hn;cases e;simp only at h1 h2;rw[h1,h2]
 have he1:cM a.name d1.entries=some ⟨a.name,x.ino⟩:=by rw[<-e1];exact hent.he
 have hd1:fg ⟨a.name,x.ino⟩ (cH a.name d1.entries)=d1.entries:=rW hs1 he1;refine wa hm1 hm2 hm3 m2.tr.sort ht.sort λj=> ?_
 rw[m2.find];show(if x'.ino=j then some (if x'.kind=2 then x'.gB a.dir else x') else if a.dir=j then some ((mvD (aC b.dir g.aa) (aC a.dir g.aa) b.name).bO a.name x'.ino) else if b.dir=j then some ((aC b.dir g.aa).b6 b.name) else ar j g.aa)=_;by_cases c1:x'.ino=j
 ·rw[if_pos c1,<-c1,hx'i,ok.hx,hx']
  by_cases hk:x.kind=2
  ·rw[if_pos hk,if_pos (show(x.gB b.dir).kind=2 from hk)]
   have hp:x.parent=a.dir:=ht.parent ok.hx hk P.a1 hent.mem.1 (by rw[hent.hn,hxi]);show some (ao.mk x.ino x.kind x.aH x.data a.dir x.entries)=some x;rw[<-hp]
  ·rw[if_neg hk,if_neg hk]
 rw[if_neg c1];have c1':¬x.ino=j:=λe2=>c1 (by rw[hx'i,<-hxi];exact e2)
 by_cases hab:a.dir=b.dir
 ·have hdd:d1=d2:=by
   have:=P.a1;rw[hab,P.b1] at this;exact(Option.some.inj this).symm
  have hgd:aC a.dir g.aa=(d1.b6 a.name).bO b.name x.ino:=by
   refine aT ?_;rw[m.find,if_neg hne2,if_pos hab.symm,aT P.a1,aT P.b1];unfold mvD;rw[if_pos (by rw[d1i,d2i,hab])]
  by_cases c2:a.dir=j
  ·rw[if_pos c2,<-c2,P.a1,<-hab,hgd]
   unfold mvD;rw[if_pos rfl,hx'i,<-hxi];show some (ao.mk d1.ino d1.kind d1.aH d1.data d1.parent (fg ⟨a.name,x.ino⟩ (cH b.name (fg ⟨b.name,x.ino⟩ (cH a.name d1.entries)))))=some d1;have hf3:cM b.name (cH a.name d1.entries)=none:=by
    rw[jD];split
    ·rfl
    ·rw[hdd];exact hf2
   rw[sB (eJ hs1) hf3,hd1]
  ·rw[if_neg c2,if_neg (by rw[<-hab];exact c2),m.find,if_neg c1',if_neg (by rw[<-hab];exact c2),if_neg c2]
 ·have hga:aC a.dir g.aa=d1.b6 a.name:=by
   refine aT ?_;rw[m.find,if_neg hne2,if_neg (λe2=>hab e2.symm),if_pos rfl,aT P.a1]
  have hgb:aC b.dir g.aa=d2.bO b.name x.ino:=by
   refine aT ?_;rw[m.find,if_neg hne1,if_pos rfl,aT P.a1,aT P.b1];unfold mvD;rw[if_neg (by rw[d1i,d2i];exact hab)]
  by_cases c2:a.dir=j
  ·rw[if_pos c2,<-c2,P.a1,hga,hgb]
   unfold mvD;rw[if_neg (by show¬d2.ino=d1.ino;rw[d1i,d2i];exact λe2=>hab e2.symm),hx'i,<-hxi];show some (ao.mk d1.ino d1.kind d1.aH d1.data d1.parent (fg ⟨a.name,x.ino⟩ (cH a.name d1.entries)))=some d1;rw[hd1]
  ·rw[if_neg c2]
   by_cases c3:b.dir=j
   ·rw[if_pos c3,<-c3,P.b1,hgb]
    show some (ao.mk d2.ino d2.kind d2.aH d2.data d2.parent (cH b.name (fg ⟨b.name,x.ino⟩ d2.entries)))=some d2;rw[sB hs2 hf2]
   ·rw[if_neg c3,m.find,if_neg c1',if_neg c3,if_neg c2]
theorem Ch {a b:au}:(ij f a b).ay=f.ay/\(ij f a b).aB=f.aB:=by
 have h1:(mvB dF f b).ay=f.ay/\(mvB dF f b).aB=f.aB:=by
  unfold mvB;split
  ·unfold dF;split<;>exact⟨rfl,rfl⟩
  ·exact⟨rfl,rfl⟩
 exact h1
theorem Jg (h:RW w) (b:Wb 549755813888 n w) (hn:n<=8980) (hp:b_ p=true) (hq:b_ q=true) (hu1:fu p q=false) (hu2:fu q p=false) (hth:bM w.fs p=0) (hfree:cN w.fs q=0) (ok:yL w.fs (atP w.fs p).1 (atP w.fs q).1 x) (m:jc w.fs (atP w.fs p).1 (atP w.fs q).1 x n w.fs e (ij w.fs (atP w.fs p).1 (atP w.fs q).1)) (rw1:RW ⟨ij w.fs (atP w.fs p).1 (atP w.fs q).1,w.al⟩):
 doO ⟨ij w.fs (atP w.fs p).1 (atP w.fs q).1,w.al⟩ ⟨6,0,q,p, []⟩=(w,0):=by
 have ew:=ja h.tr b.bd (by omega);obtain⟨a0,_⟩:=gO hth;obtain⟨b0,bi⟩:=jr hfree;obtain⟨_,_,_,ago,ane,apl⟩:=eA ew.wf hp a0;obtain⟨_,bm,_,bgo,bne,bpl⟩:=eA ew.wf hq b0;have hmx:=Ch (f:=w.fs) (a:=(atP w.fs p).1) (b:=(atP w.fs q).1);have hmn:=qz (f:=w.fs) (a:=(atP w.fs p).1) (b:=(atP w.fs q).1);obtain⟨d1,d2,P⟩:=places h.tr ew.wf ok;have k1:=m.at h.tr ew.wf P ok bgo bne;have k2:=m.gone h.tr ew.wf P ok ago ane;have hfree2:=m.pre.mv.free;generalize (atP w.fs p).1=a at*;generalize (atP w.fs q).1=c at*;have hf2:cM c.name d2.entries=none:=by have:=hfree2.h0;rwa[aT P.b1] at this
 generalize ij w.fs a c=g at*;have eg:=ja m.tr m.bd (by omega);have hatq:atP g q=(⟨c.dir,c.name,a.ino⟩,0):=by unfold atP;rw[if_pos bpl];exact k1
 have hatp:atP g p=(⟨a.dir,a.name,0⟩,0):=by unfold atP;rw[if_pos apl];exact k2
 have hgx:ar a.ino g.aa=some (if x.kind=2 then x.gB c.dir else x):=by rw[m.find,if_pos P.xi]
 have hth2:bM g q=0:=by
  unfold bM;rw[hatq,if_pos rfl];simp only;rw[hgx]
 have hfr2:cN g p=0:=by
  unfold cN;rw[hatp,if_pos rfl,if_pos rfl]
 obtain⟨x',ok2,_⟩:=Dh m.tr eg.wf hq hp hu1 hth2 hfr2;rw[hatq,hatp] at ok2;obtain⟨e',m2,_⟩:=wM m.tr m.bd (by omega) ok2;rw[Fa rfl] at m2;have hmx2:=Ch (f:=g) (a:=⟨c.dir,c.name,a.ino⟩) (b:=⟨a.dir,a.name,0⟩);have hmn2:=qz (f:=g) (a:=⟨c.dir,c.name,a.ino⟩) (b:=⟨a.dir,a.name,0⟩);have hb:=Jk h.tr ok P bi hf2 m m2 (by rw[hmx2.1,hmx.1]) (by rw[hmx2.2,hmx.2]) (by rw[hmn2,hmn]);have hmay:gw ⟨6,0,q,p, []⟩=true:=by
  unfold gw db jT;simp [hp,hq,hu1,hu2]
 unfold doO;rw[hmay,if_pos rfl];simp only;rw[if_neg (by decide),if_neg (by decide),if_neg (by decide),if_neg (by decide),if_neg (by decide),if_pos trivial];unfold sK;simp only;rw[hth2,if_pos rfl,hfr2,if_pos rfl,hatq,hatp];simp only;rw[hb]
theorem On (h:RW w) (b:Wb 549755813888 n w) (hn:n<=8980) (h0:(doO w o).2=0) (hi:(dy o).2=true):∃c,w.fs.next<=c/\doO (doO w o).1 (dy o).1=(w.nx c,0):=by
 have hw:w.nx w.fs.next=w:=rfl;unfold doO at h0;cases hm:gw o
 ·rw[hm] at h0;simp at h0
 have M:=(Hy o).1 hm;rw[hm,if_pos rfl] at h0;have hdo:doO w o=(if o.kind=1 then nQ w o.a 2 [] else if o.kind=2 then xC w o else if o.kind=3 then qt w o else if o.kind=4 then nQ w o.a 3 o.data else if o.kind=5 then sZ w o else if o.kind=6 then sK w o else
  if o.kind=7 then jQ w o.a (n8 w o.slot (atP w.fs o.a).1) else if o.kind=8 then jQ w o.a (lj w (atP w.fs o.a).1) else if o.kind=9 then jt w o else gR w o):=by
  unfold doO;rw[hm,if_pos rfl]
 rw[hdo];by_cases k1:o.kind=1
 ·rw[if_pos k1] at h0⊢
  have hinv:(dy o).1=⟨8,0,o.a, [], []⟩:=by unfold dy;rw[if_pos (Or.inl k1)]
  rw[hinv];rcases lf h b (by omega) M.a (kd:=2) (t:= []) (Or.inr (Or.inl ⟨rfl,rfl⟩)) (by simp) with⟨e,he,h2⟩ |⟨h1,h2,mk,_,_⟩
  ·rw[h2] at h0;exact absurd h0 he
  ·rw[h2];exact⟨w.fs.next+1,by omega,vW h b hn M.a h1 mk⟩
 rw[if_neg k1] at h0⊢;by_cases k2:o.kind=2
 ·rw[if_pos k2] at h0⊢
  have hinv:(dy o).1=⟨8,0,o.b, [], []⟩:=by unfold dy;rw[if_neg (by omega),if_pos (Or.inl k2)]
  rw[hinv];have hpb:=M.b (by unfold jT;simp [k2]);rcases vR (o:=o) h b (by omega) hpb with⟨e,he,h2⟩ |⟨t,h1,h2,mk,_,_⟩
  ·rw[h2] at h0;exact absurd h0 he
  ·rw[h2];exact⟨w.fs.next+1,by omega,vW h b hn hpb h1 mk⟩
 rw[if_neg k2] at h0⊢;by_cases k3:o.kind=3
 ·rw[if_pos k3] at h0⊢
  have hinv:(dy o).1=⟨10,o.slot,o.b, [], []⟩:=by unfold dy;rw[if_neg (by omega),if_neg (by omega),if_pos k3]
  rw[hinv];have hpb:=M.b (by unfold jT;simp [k3]);have hs:=M.slot (by unfold db;simp [k3]);rcases tE (o:=o) h b hs.1 hs.2 with⟨e,he,h2⟩ |⟨x,y,h1,_,hy,hyy,hk,hss,hfit,h2,_,_⟩
  ·rw[h2] at h0;exact absurd h0 he
  ·rw[h2];exact⟨w.fs.next,by omega,by rw[hw];exact GV h b hpb hs.1 hs.2 h1 hy hyy hk hss hfit⟩
 rw[if_neg k3] at h0⊢;by_cases k4:o.kind=4
 ·rw[if_pos k4] at h0⊢
  have hinv:(dy o).1=⟨8,0,o.a, [], []⟩:=by unfold dy;rw[if_pos (Or.inr k4)]
  rw[hinv];have ht:=vK (M.data k4);rcases lf h b (by omega) M.a (kd:=3) (t:=o.data) ht (by rcases ht with h|⟨h,_⟩ |⟨_,_,h,_⟩<;>first|(cases h) |omega) with⟨e,he,h2⟩ |⟨h1,h2,mk,_,_⟩
  ·rw[h2] at h0;exact absurd h0 he
  ·rw[h2];exact⟨w.fs.next+1,by omega,vW h b hn M.a h1 mk⟩
 rw[if_neg k4] at h0⊢;by_cases k5:o.kind=5
 ·rw[if_pos k5] at h0⊢
  have hinv:(dy o).1=⟨8,0,o.b, [], []⟩:=by unfold dy;rw[if_neg (by omega),if_pos (Or.inr k5)]
  rw[hinv];have hpb:=M.b (by unfold jT;simp [k5]);rcases yb (o:=o) h b (by omega) hpb with⟨e,he,h2⟩ |⟨x,h1,_,hxx,hk,hf,hs,hne,h2,_,_,_⟩
  ·rw[h2] at h0;exact absurd h0 he
  ·rw[h2];exact⟨w.fs.next,by omega,by rw[hw];exact Kv h b hn hpb h1 hxx hk hf hs hne⟩
 rw[if_neg k5] at h0⊢;by_cases k6:o.kind=6
 ·rw[if_pos k6] at h0⊢
  have hinv:(dy o).1=⟨6,0,o.b,o.a, []⟩:=by unfold dy;rw[if_neg (by omega),if_neg (by omega),if_neg (by omega),if_pos k6]
  rw[hinv];have hpb:=M.b (by unfold jT;simp [k6]);rcases CU (o:=o) h b (by omega) M.a hpb (M.under k6).2 with⟨e,he,h2⟩ |⟨x,e,h1,h3,_,ok,m,_,h2,rw1,_⟩
  ·rw[h2] at h0;exact absurd h0 he
  ·rw[h2];exact⟨w.fs.next,by omega,by rw[hw];exact Jg h b hn M.a hpb (M.under k6).1 (M.under k6).2 h1 h3 ok m rw1⟩
 rw[if_neg k6] at h0⊢;by_cases k7:o.kind=7
 ·rw[if_pos k7] at h0⊢
  have hinv:(dy o).1=⟨9,o.slot,o.a, [], []⟩:=by unfold dy;rw[if_neg (by omega),if_neg (by omega),if_neg (by omega),if_neg (by omega),if_pos k7]
  rw[hinv];have hs:=M.slot (by unfold db;simp [k7]);rcases za (p:=o.a) h b (by omega) M.a hs.1 hs.2 with⟨e,he,h2⟩ |⟨x,e,h1,_,hx,hx0,hss,tk,h2,_,_⟩
  ·rw[h2] at h0;exact absurd h0 he
  ·rw[h2];exact⟨w.fs.next,by omega,by rw[hw];exact FY h b hn M.a hs.1 hs.2 h1 hss tk⟩
 ·unfold dy at hi
  rw[if_neg (by omega),if_neg (by omega),if_neg (by omega),if_neg (by omega),if_neg k7] at hi;cases hi
end
def eI (stop:Int):Nat->aq->List Opn->aq×Nat×Int
 |done,w, [] =>(w,done,0)
 |done,w,o::l=>if stop<=(done:Int) then (w,done,0) else if (doO w o).2=0 then eI stop (done+1) (doO w o).1 l else (w,done,(doO w o).2)
def dw:List Opn->List Opn
 | [] => []
 |o::l=>dw l++(if (dy o).2=true then [(dy o).1] else [])
def u9 (w:aq) (l:List Opn):aq×Int:=
 if (eI ((dw l).length:Int) 0 w (dw l)).2.2=0 then ((eI ((dw l).length:Int) 0 w (dw l)).1,0) else (w,(eI ((dw l).length:Int) 0 w (dw l)).2.2)
inductive jd:aq->List Opn->aq->Prop where
 |nil {w:aq}:jd w [] w
 |snoc {w v u:aq} {l:List Opn} {o:Opn}:jd w l v->doO v o=(u,0)->jd w (l++[o]) u
section
variable {w v u:aq} {l:List Opn} {o:Opn} {n m:Nat} {c:Int}
theorem jd.ok (h:jd w l v):RW w->Wb 549755813888 n w->n+2*l.length<=8990->RW v/\Wb 549755813888 (n+2*l.length) v:=by
 induction h with
 |nil=>exact λh b _=>⟨h,b⟩
 |snoc hc hd ih=>
  rename_i v' u' l' o';intro h b hn;simp only[List.length_append,List.length_singleton] at hn⊢;obtain⟨r,rb⟩:=ih h b (by omega);have:=Ms (o:=o') r rb (by omega);rw[hd] at this;exact⟨this.1,this.2.1.mono (by omega)⟩
theorem jd.cons {o:Opn} (hd:doO w o=(v,0)) (h:jd v l u):jd w (o::l) u:=by
 induction h with
 |nil=>exact jd.snoc (l:= []) .nil hd
 |snoc hc h2 ih=>exact jd.snoc ih h2
theorem vJ (stop:Int):∀(l:List Opn) (k:Nat) (w:aq),∃j,(eI stop k w l).2.1=k+j/\j<=l.length/\((k+j:Nat):Int)<=max stop k/\jd w (l.take j) (eI stop k w l).1
 | [],k,w=>⟨0,rfl,Nat.le_refl _,by simp only[Nat.add_zero];omega, .nil⟩
 |o::l,k,w=>by
  unfold eI;by_cases h1:stop<=(k:Int)
  ·rw[if_pos h1];exact⟨0,rfl,by omega,by simp only[Nat.add_zero];omega, .nil⟩
  rw[if_neg h1];by_cases h2:(doO w o).2=0
  ·rw[if_pos h2]
   obtain⟨j,h3,h4,h5,h6⟩:=vJ stop l (k+1) (doO w o).1;refine⟨j+1,by rw[h3];omega,by simp;omega,by omega, ?_⟩;rw[List.take_succ_cons];exact jd.cons (by rw[<-h2]) h6
  ·rw[if_neg h2];exact⟨0,rfl,by omega,by simp only[Nat.add_zero];omega, .nil⟩
theorem tJ (l:List Opn) (o:Opn):dw (l++[o])=(if (dy o).2=true then [(dy o).1] else [])++dw l:=by
 induction l with
 |nil=>simp [dw]
 |cons a l ih=>simp only[List.cons_append,dw,ih,List.append_assoc]
def xA (k:Int):Prop:=k=6\/k=8\/k=9\/k=10
theorem Mx {o:Opn} (h:(dy o).2=true):xA (dy o).1.kind:=by
 unfold dy at h⊢;split
 ·exact Or.inr (Or.inl rfl)
 ·split
  ·exact Or.inr (Or.inl rfl)
  ·split
   ·exact Or.inr (Or.inr (Or.inr rfl))
   ·split
    ·exact Or.inl rfl
    ·split
     ·exact Or.inr (Or.inr (Or.inl rfl))
     ·rename_i h1 h2 h3 h4 h5
      rw[if_neg h1,if_neg h2,if_neg h3,if_neg h4,if_neg h5] at h;cases h
theorem IJ {f:Fs} {a:au}:dF (f.nx c) a=(dF f a).nx c:=by
 unfold dF;show(if (aC a.ino (f.set ((aC a.dir f.aa).b6 a.name)).aa).aH - 1=0 then _ else _)=_;by_cases h:(aC a.ino (f.set ((aC a.dir f.aa).b6 a.name)).aa).aH - 1=0
 ·rw[if_pos h,if_pos h];rfl
 ·rw[if_neg h,if_neg h];rfl
theorem MX {f:Fs} {a b:au}:ij (f.nx c) a b=(ij f a b).nx c:=by
 have h1:mvB dF (f.nx c) b=(mvB dF f b).nx c:=by
  unfold mvB;split
  ·exact IJ
  ·rfl
 unfold ij;rw[h1];rfl
theorem Vp {o:Opn} (hk:xA o.kind):doO (w.nx c) o=((doO w o).1.nx c,(doO w o).2):=by
 unfold doO;cases gw o
 ·rfl
 rw[if_pos rfl,if_pos rfl];have k1:¬o.kind=1:=by unfold xA at hk;omega
 have k2:¬o.kind=2:=by unfold xA at hk;omega
 have k3:¬o.kind=3:=by unfold xA at hk;omega
 have k4:¬o.kind=4:=by unfold xA at hk;omega
 have k5:¬o.kind=5:=by unfold xA at hk;omega
 have k7:¬o.kind=7:=by unfold xA at hk;omega
 rw[if_neg k1,if_neg k2,if_neg k3,if_neg k4,if_neg k5,if_neg k1,if_neg k2,if_neg k3,if_neg k4,if_neg k5];by_cases k6:o.kind=6
 ·rw[if_pos k6,if_pos k6]
  unfold sK;show(if bM w.fs o.a=0 then (if cN w.fs o.b=0 then (⟨ij (w.fs.nx c) (atP w.fs o.a).1 (atP w.fs o.b).1,w.al⟩,0) else (w.nx c,cN w.fs o.b)) else (w.nx c,bM w.fs o.a))=_;rw[MX];by_cases h1:bM w.fs o.a=0
  ·rw[if_pos h1,if_pos h1]
   by_cases h2:cN w.fs o.b=0
   ·rw[if_pos h2,if_pos h2];rfl
   ·rw[if_neg h2,if_neg h2]
  ·rw[if_neg h1,if_neg h1]
 rw[if_neg k6,if_neg k7,if_neg k6,if_neg k7];by_cases k8:o.kind=8
 ·rw[if_pos k8,if_pos k8]
  unfold jQ lj;show(if bM w.fs o.a=0 then (if 0<(cO w.fs o.a).entries.length then (w.nx c,5) else (if (w.al.kept.any λk=>decide (k.ino=(aC (atP w.fs o.a).1.ino w.fs.aa).ino))=true/\(aC (atP w.fs o.a).1.ino w.fs.aa).aH=1 then (w.nx c,13) else (⟨dF (w.fs.nx c) (atP w.fs o.a).1,w.al⟩,0))) else (w.nx c,bM w.fs o.a))=_;rw[IJ];by_cases h1:bM w.fs o.a=0
  ·rw[if_pos h1,if_pos h1]
   by_cases h2:0<(cO w.fs o.a).entries.length
   ·rw[if_pos h2,if_pos h2]
   ·rw[if_neg h2,if_neg h2]
    by_cases h3:(w.al.kept.any λk=>decide (k.ino=(aC (atP w.fs o.a).1.ino w.fs.aa).ino))=true/\(aC (atP w.fs o.a).1.ino w.fs.aa).aH=1
    ·rw[if_pos h3,if_pos h3]
    ·rw[if_neg h3,if_neg h3];rfl
  ·rw[if_neg h1,if_neg h1]
 rw[if_neg k8,if_neg k8];by_cases k9:o.kind=9
 ·rw[if_pos k9,if_pos k9]
  unfold jt;have hg:∀a:au,mC (w.nx c) o.slot a=((mC w o.slot a).1.nx c,(mC w o.slot a).2):=by
   intro a;unfold mC;cases hf:b9 o.slot w.al.kept with
   |none=>
    have hf':b9 o.slot (w.nx c).al.kept=none:=hf;rw[hf']
   |some k=>
    have hf':b9 o.slot (w.nx c).al.kept=some k:=hf;rw[hf'];simp only;by_cases h1:k.content=true
    ·rw[if_pos h1,if_pos h1]
    rw[if_neg h1,if_neg h1];by_cases h2:eP a.name=true
    ·rw[if_pos h2,if_pos h2]
     cases hx:ar k.ino w.fs.aa with
     |some x=>
      have hx':ar k.ino (w.nx c).fs.aa=some x:=hx;rw[hx'];simp only;by_cases h3:x.kind=2
      ·rw[if_pos h3,if_pos h3]
      ·rw[if_neg h3,if_neg h3];rfl
     |none=>
      have hx':ar k.ino (w.nx c).fs.aa=none:=hx;rw[hx'];simp only;show(if cy w.fs 1 (byt (aC k.ino w.al.aO))=true then _ else _)=_;by_cases h3:cy w.fs 1 (byt (aC k.ino w.al.aO))=true
      ·rw[if_pos h3,if_pos h3];rfl
      ·rw[if_neg h3,if_neg h3]
    ·rw[if_neg h2,if_neg h2]
  show(if cN w.fs o.a=0 then mC (w.nx c) o.slot (atP w.fs o.a).1 else (w.nx c,cN w.fs o.a))=_;rw[hg];by_cases h1:cN w.fs o.a=0
  ·rw[if_pos h1,if_pos h1]
  ·rw[if_neg h1,if_neg h1]
 ·rw[if_neg k9,if_neg k9]
  unfold gR;have hg:jZ (w.nx c) o.slot=((jZ w o.slot).1.nx c,(jZ w o.slot).2):=by
   unfold jZ;cases hf:b9 o.slot w.al.kept with
   |none=>
    have hf':b9 o.slot (w.nx c).al.kept=none:=hf;rw[hf']
   |some k=>
    have hf':b9 o.slot (w.nx c).al.kept=some k:=hf;rw[hf'];simp only;by_cases h1:k.content=true
    ·rw[if_pos h1,if_pos h1]
     cases hx:ar k.ino w.fs.aa with
     |none=>
      have hx':ar k.ino (w.nx c).fs.aa=none:=hx;rw[hx']
     |some x=>
      have hx':ar k.ino (w.nx c).fs.aa=some x:=hx;rw[hx'];simp only;show(if cy w.fs 0 _=true then _ else _)=_;by_cases h3:cy w.fs 0 ((k.data.length:Int) - (x.data.length:Int))=true
      ·rw[if_pos h3,if_pos h3];rfl
      ·rw[if_neg h3,if_neg h3]
    ·rw[if_neg h1,if_neg h1]
  show(if bM w.fs o.a=0 then (match b9 o.slot w.al.kept with|none=>(w.nx c,13) |some k=>if k.content=true/\k.ino=(cO w.fs o.a).ino then jZ (w.nx c) o.slot else (w.nx c,13)) else (w.nx c,bM w.fs o.a))=_;rw[hg];by_cases h1:bM w.fs o.a=0
  ·rw[if_pos h1,if_pos h1]
   cases b9 o.slot w.al.kept with
   |none=>rfl
   |some k=>
    simp only;by_cases h2:k.content=true/\k.ino=(cO w.fs o.a).ino
    ·rw[if_pos h2,if_pos h2]
    ·rw[if_neg h2,if_neg h2]
  ·rw[if_neg h1,if_neg h1]
theorem jd.back (h:jd w l v):RW w->Wb 549755813888 n w->n+2*l.length<=8970->(∀o∈l,(dy o).2=true)->∀c,jd (v.nx c) (dw l) (w.nx c):=by
 induction h with
 |nil=>exact λ_ _ _ _ c=> .nil
 |snoc hc hd ih=>
  rename_i v u l o;intro h b hn hi c;simp only[List.length_append,List.length_singleton] at hn;obtain⟨r,rb⟩:=hc.ok h b (by omega);have hio:=hi o (by simp);obtain⟨c0,_,h1⟩:=On (o:=o) r rb (by omega) (by rw[hd]) hio;rw[hd] at h1;have h2:=Vp (w:=u) (c:=c) (Mx hio);rw[h1] at h2;rw[tJ,if_pos hio];exact jd.cons h2 (ih h b (by omega) (λo' ho'=>hi o' (by simp [ho'])) c)
theorem KC (h:jd w l v) (stop:Int):∀k:Nat,((k+l.length:Nat):Int)<=stop->∀r,eI stop k w (l++r)=eI stop (k+l.length) v r:=by
 induction h with
 |nil=>intro k _ r;simp
 |snoc hc hd ih=>
  rename_i v u l o;intro k hk r;simp only[List.length_append,List.length_singleton] at hk⊢;rw[List.append_assoc,ih k (by omega)];simp only[List.singleton_append];rw[eI,if_neg (by omega),hd,if_pos rfl];congr 1
theorem KL (h:jd w l v):eI (l.length:Int) 0 w l=(v,l.length,0):=by
 have:=KC h (l.length:Int) 0 (by simp) [];rw[List.append_nil] at this;rw[this];simp [eI]
theorem Js (h:∀o∈l,(dy o).2=true):(dw l).length=l.length:=by
 induction l with
 |nil=>rfl
 |cons o l ih=>
  rw[dw,if_pos (h o (by simp)),List.length_append,ih (λo' ho'=>h o' (by simp [ho']))];simp
end
section
variable {p q s:Str} {o:Opn}
theorem vc (h:b_ p=true):iZ (b8 p)=p/\(∀x∈b8 p,eP x=true)/\b8 p≠ [] :=by
 unfold b_ at h;simp only[Bool.and_eq_true,Bool.not_eq_true',List.isEmpty_eq_false_iff] at h;obtain⟨p1,p2,p3⟩:=jG h.1;rw[p3] at p1 p2;exact⟨p1,p2,by rw[<-p3];exact h.2⟩
theorem DM {ps qs:List Str} (h1:∀x∈ps,Nm x) (h2:∀x∈qs,Nm x) (hq:qs≠ []) (hp:ps≠ []):
 (iZ ps=iZ qs\/∃b,iZ ps=iZ qs++47::b)↔ps.take qs.length=qs:=by
 constructor
 ·rintro(h|⟨b,h⟩)
  ·have:=congrArg b8 h
   rw[l7 h1,l7 h2] at this;rw[this,List.take_length]
  ·have:=congrArg b8 h
   rw[l7 h1,xO h2] at this;rw[this,List.take_left'];rfl
 ·intro h
  have e:ps=qs++ps.drop qs.length:=by
   conv=>lhs;rw[<-List.take_append_drop qs.length ps,h]
  cases hd:ps.drop qs.length with
  |nil=>left;rw[e,hd,List.append_nil]
  |cons x r=>
   right;rw[hd] at e;refine⟨x++r.flatMap λx=>47::x, ?_⟩;rw[e];unfold iZ;rw[if_neg (by simp),if_neg hq];simp
theorem th (hp:b_ p=true) (hq:b_ q=true) (hlq:q.length<=8388608):jE p q=some (fu p q):=by
 obtain⟨p1,p2,p3⟩:=vc hp;obtain⟨q1,q2,q3⟩:=vc hq;have hN:=DM (λx hx=>rZ (p2 x hx)) (λx hx=>rZ (q2 x hx)) q3 p3;rw[p1,q1] at hN;have hne:=LX (λx hx=>rZ (q2 x hx)) q3;rw[q1] at hne;unfold jE fu;rw[oo,oo,aV,aV];by_cases h1:p=q
 ·rw[if_pos (by simp [h1]),decide_eq_true (hN.1 (Or.inl h1))]
 ·rw[if_neg (by simp [h1]),if_neg (by simp [hne]),bC (by unfold LIM;simp;omega)]
  by_cases h2:(q++[47]).length<=p.length
  ·rw[aJ (by simp only[decide_eq_true_eq];omega),aJ (by simp only[decide_eq_true_eq];omega),toNat_cast,oo]
   congr 1;rw[decide_eq_decide,<-hN];constructor
   ·intro h
    right;refine⟨p.drop (q++[47]).length, ?_⟩;conv=>lhs;rw[<-List.take_append_drop (q++[47]).length p,h]
    simp
   ·rintro(h|⟨b,h⟩)
    ·exact absurd h h1
    ·rw[h]
     rw[show q++47::b=(q++[47])++b by simp,List.take_left'];rfl
  ·rw[aU (by simp only[decide_eq_false_iff_not];omega)]
   rw[decide_eq_false];rw[<-hN];rintro(h|⟨b,h⟩)
   ·exact h1 h
   ·rw[h] at h2;simp at h2
theorem Ea {R:Type} (kr k0:Option R):∀(qs ps m0:List Str) (k:Nat),m0.length=k->qs.length<=ps.length->dh (λk (y:Str) (_:Unit) K=>aj (m0++ps)[k]? λx=>if decide (x=y) then K () else kr) (λ_=>k0) k qs ()=if ps.take qs.length=qs then k0 else kr
 | [],ps,m0,k,_,_=>by simp [dh]
 |y::qs, [],m0,k,_,h=>by simp at h
 |y::qs,x::ps,m0,k,hk,h=>by
  simp only[dh];have e:(m0++x::ps)[k]? =some x:=by subst hk;simp
  rw[e,ae];have ih:=Ea kr k0 qs ps (m0++[x]) (k+1) (by simp [hk]) (by simpa using h);have e2:m0++x::ps=(m0++[x])++ps:=by simp
  by_cases hxy:x=y
  ·subst hxy
   rw[if_pos (by simp)];rw[e2,ih];simp
  ·rw[if_neg (by simp [hxy]),if_neg (by simp [hxy])]
theorem q_ (hp:p.length<=1073741824) (hq:q.length<=1073741824):iJ p q=some (fu p q):=by
 unfold iJ fu;have n1:=nP p;have n2:=nP q;rw[ir hp,ae,ir hq,ae];by_cases h:(b8 q).length<=(b8 p).length
 ·rw[aU (by simp;omega)]
  generalize b8 p=ps at*;generalize b8 q=qs at*;refine(bE (l:=qs) (λm i (_:Unit)=>gu ps qs (some false) (some true) m i) (λk y (_:Unit) K=>aj ([] ++ps)[k]? λx=>if decide (x=y) then K () else some false) (λ_=>some true) (by omega) (λm k x u hk hx=> ?_) (λm u=> ?_) ()).trans ?_
  ·simp only[gu]
   have hk':k<ps.length:=by omega
   rw[dec_lt hk,bu,toNat_cast,hx,aP (by omega),aw,aw,List.nil_append,List.getElem?_eq_getElem hk',ae,aw,ae,ae,oo,aV];by_cases hxy:ps[k]=x<;>simp [hxy]
  ·simp only[gu]
   rw[bF (Nat.le_refl _)];rfl
  ·rw[Ea _ _ qs ps [] 0 rfl h]
   by_cases hab:ps.take qs.length=qs<;>simp [hab]
 ·rw[aJ (by simp;omega),decide_eq_false]
  intro e;have:=congrArg List.length e;rw[List.length_take] at this;omega
theorem zC (p:Str):decide (((bZ p).1.length:Int)>0)= !(bZ p).1.isEmpty:=by
 cases (bZ p).1<;>simp<;>omega
theorem wQ (hl:p.length<=8388608):oZ p=some (b_ p):=by
 unfold oZ b_;rw[sM hl,ae,zC];cases (bZ p).2<;>rfl
theorem rh (hl:p.length<=8388608):jI p=some (b_ p):=by
 unfold jI b_;rw[q7 (by omega),ae,zC];cases (bZ p).2<;>rfl
theorem CY:o0 s=some (jv s):=by
 unfold o0 jv;rw[oo,oo];by_cases z1:s= []
 ·subst z1;rfl
 have:1<=s.length:=by
  rcases s with _|⟨a,l⟩
  ·exact absurd rfl z1
  ·simp
 rw[aJ (by simp [z1])];by_cases z2:s.length<=4095
 ·rw[aJ (by simp;omega),decide_eq_true (show 1<=s.length/\s.length<=4095 from⟨this,z2⟩)]
  by_cases z3:[0]=s
  ·rw[aJ (by simp [z3])];subst z3;rfl
  rw[aU (by simp [z3])];unfold stringslite_IndexByte;rw[ae,any_zero];rfl
 ·rw[aU (by simp;omega),decide_eq_false (λh=>z2 h.2)];rfl
theorem xU (hl:s.length<=1073741824):j3 s=some (jv s):=by
 unfold j3 jv;refine(bE (l:=s) (λm i (_:Unit)=>fA s (some false) (ah (decide ((List.length s:Int)>=(1:Int))) (some (decide ((List.length s:Int)<=(4095:Int)))) (some false)) m i) (λ_ (b:UInt8) u K=>if (b==0)=true then some false else K u) (λ_=>ah (decide ((List.length s:Int)>=(1:Int))) (some (decide ((List.length s:Int)<=(4095:Int)))) (some false)) (by omega) (λm k b u hkk hx=> ?_) (λm u=> ?_) ()).trans ?_
 ·simp only[fA]
  rw[dec_lt hkk,bu,toNat_cast,hx,aP (by omega),aw,aw,ae,aV];have:((UInt8.toNat b:Int)==(0:Int))=(b==0):=jO b 0 (by omega);rw[this]
 ·simp only[fA]
  rw[bF (Nat.le_refl _)];rfl
 ·refine(jq (λb:UInt8=>b==0) (λ_ _=>some false) _ (some false) (λ_ _=>rfl) _ _ _).trans ?_
  cases s.any (λb=>b==0)
  ·rw[if_neg (by simp)]
   by_cases h1:1<=s.length
   ·rw[aJ (by simp;omega)]
    by_cases h2:s.length<=4095
    ·rw[decide_eq_true (show(s.length:Int)<=4095 by omega),decide_eq_true ⟨h1,h2⟩];rfl
    ·rw[decide_eq_false (show¬(s.length:Int)<=4095 by omega),decide_eq_false (λh=>h2 h.2)];rfl
   ·rw[aU (by simp;omega),decide_eq_false (λh=>h1 h.1)];rfl
  ·rw[if_pos rfl];simp
theorem kG {k:Int}:hY k=some (db k):=by
 unfold hY db;simp only[eh,aV];by_cases h1:k=3
 ·simp [h1]
 by_cases h2:k=7
 ·simp [h2]
 by_cases h3:k=9
 ·simp [h3]
 by_cases h4:k=10
 ·simp [h4]
 ·simp [h1,h2,h3,h4]
end
section
variable {o:Opn}
theorem kinds {k:Int} (h1:1<=k) (h2:k<=10):k=1\/k=2\/k=3\/k=4\/k=5\/k=6\/k=7\/k=8\/k=9\/k=10:=by omega
theorem Fh (s:Int):decide (1<=s/\s<=1073741824)=(!decide (s<1)&& !decide (s>1073741824)):=by
 rw[Bool.eq_iff_iff];simp;
theorem Kb (ha:o.a.length<=8388608) (hb:o.b.length<=8388608):Db o=some (gw o):=by
 obtain⟨k,s,a,b,d⟩:=o;simp only at ha hb;unfold Db sh gw;simp only;by_cases h1:1<=k
 ·by_cases h2:k<=10
  ·rw[aU (by simp;omega),aU (by simp;omega),wQ ha,ae,decide_eq_true (show 1<=k/\k<=10 from⟨h1,h2⟩)]
   cases hpa:b_ a
   ·rfl
   rw[Bool.not_true,ax,aJ (by simp;omega)];have hU:∀{R:Type} {f:Bool->Option R},b_ b=true->aj (jE a b) f=f (fu a b):=λh=>by rw[th hpa h hb,ae]
   have hV:∀{R:Type} {f:Bool->Option R},b_ b=true->aj (jE b a) f=f (fu b a):=λh=>by rw[th h hpa ha,ae]
   have hP:∀{R:Type} {f:Bool->Option R},aj (oZ b) f=f (b_ b):=by intros;rw[wQ hb,ae]
   have hT:∀{R:Type} {f:Bool->Option R},aj (o0 d) f=f (jv d):=by intros;rw[CY,ae]
   simp only[hP,hT];rcases kinds h1 h2 with e|e|e|e|e|e|e|e|e|e<;>subst e
   all_goals
    rw[show oL[Int.toNat _]? =some _ from rfl,ae];simp only[aw,ax,Bool.not_true,Bool.not_false,db,jT,Fh,dS,oo]
   ·by_cases s0:s=0<;>by_cases b0:b= [] <;>by_cases d0:d= [] <;>simp [s0,b0,d0]
   ·cases pb:b_ b<;>by_cases s0:s=0<;>by_cases d0:d= [] <;>simp [s0,d0]
   ·cases pb:b_ b<;>by_cases s1:s<1<;>by_cases s2:s>1073741824<;>by_cases d0:d= [] <;>simp [s1,s2,d0]
   ·cases td:jv d<;>by_cases s0:s=0<;>by_cases b0:b= [] <;>simp [s0,b0]
   ·cases pb:b_ b<;>by_cases s0:s=0<;>by_cases d0:d= [] <;>simp [s0,d0]
   ·cases pb:b_ b
    ·by_cases s0:s=0<;>simp [s0]
    ·simp only[hU pb,hV pb]
     by_cases s0:s=0<;>by_cases d0:d= [] <;>cases fu a b<;>cases fu b a<;>simp [s0,d0]
   ·by_cases s1:s<1<;>by_cases s2:s>1073741824<;>by_cases b0:b= [] <;>by_cases d0:d= [] <;>simp [s1,s2,b0,d0]
   ·by_cases s0:s=0<;>by_cases b0:b= [] <;>by_cases d0:d= [] <;>simp [s0,b0,d0]
   ·by_cases s1:s<1<;>by_cases s2:s>1073741824<;>by_cases b0:b= [] <;>by_cases d0:d= [] <;>simp [s1,s2,b0,d0]
   ·by_cases s1:s<1<;>by_cases s2:s>1073741824<;>by_cases b0:b= [] <;>by_cases d0:d= [] <;>simp [s1,s2,b0,d0]
  ·rw[aU (by simp;omega),aJ (by simp;omega),decide_eq_false (λh=>h2 h.2)];rfl
 ·rw[aJ (by simp;omega),decide_eq_false (λh=>h1 h.1)];rfl
theorem pO (ha:o.a.length<=8388608) (hb:o.b.length<=8388608) (hd:o.data.length<=1073741824):mX o=some (gw o):=by
 obtain⟨k,s,a,b,d⟩:=o;simp only at ha hb hd;unfold mX sh gw;simp only;by_cases h1:1<=k
 ·by_cases h2:k<=10
  ·rw[aU (by simp;omega),aU (by simp;omega),rh ha,ae,decide_eq_true (show 1<=k/\k<=10 from⟨h1,h2⟩)]
   cases hpa:b_ a
   ·rfl
   rw[Bool.not_true,ax,kG,ae];have hU:∀{R:Type} {f:Bool->Option R},aj (iJ a b) f=f (fu a b):=by intros;rw[q_ (by omega) (by omega),ae]
   have hV:∀{R:Type} {f:Bool->Option R},aj (iJ b a) f=f (fu b a):=by intros;rw[q_ (by omega) (by omega),ae]
   have hP:∀{R:Type} {f:Bool->Option R},aj (jI b) f=f (b_ b):=by intros;rw[rh hb,ae]
   have hT:∀{R:Type} {f:Bool->Option R},aj (j3 d) f=f (jv d):=by intros;rw[xU hd,ae]
   simp only[hP,hT,hU,hV,db,jT,Fh,dS,oo,eh];rcases kinds h1 h2 with e|e|e|e|e|e|e|e|e|e<;>subst e
   ·by_cases s0:s=0<;>by_cases b0:b= [] <;>by_cases d0:d= [] <;>simp [s0,b0,d0]
   ·cases pb:b_ b<;>by_cases s0:s=0<;>by_cases d0:d= [] <;>simp [s0,d0]
   ·cases pb:b_ b<;>by_cases s1:s<1<;>by_cases s2:s>1073741824<;>by_cases d0:d= [] <;>simp [s1,s2,d0]
   ·cases td:jv d<;>by_cases s0:s=0<;>by_cases b0:b= [] <;>simp [s0,b0]
   ·cases pb:b_ b<;>by_cases s0:s=0<;>by_cases d0:d= [] <;>simp [s0,d0]
   ·cases pb:b_ b<;>by_cases s0:s=0<;>by_cases d0:d= [] <;>cases fu a b<;>cases fu b a<;>simp [s0,d0]
   ·by_cases s1:s<1<;>by_cases s2:s>1073741824<;>by_cases b0:b= [] <;>by_cases d0:d= [] <;>simp [s1,s2,b0,d0]
   ·by_cases s0:s=0<;>by_cases b0:b= [] <;>by_cases d0:d= [] <;>simp [s0,b0,d0]
   ·by_cases s1:s<1<;>by_cases s2:s>1073741824<;>by_cases b0:b= [] <;>by_cases d0:d= [] <;>simp [s1,s2,b0,d0]
   ·by_cases s1:s<1<;>by_cases s2:s>1073741824<;>by_cases b0:b= [] <;>by_cases d0:d= [] <;>simp [s1,s2,b0,d0]
  ·rw[aU (by simp;omega),aJ (by simp;omega),decide_eq_false (λh=>h2 h.2)];rfl
 ·rw[aJ (by simp;omega),decide_eq_false (λh=>h1 h.1)];rfl
end
theorem o7 {l:List Kept} {n:Int} (hs:dm ltI Kept.slot l) (hl:l.length<=1073741824):jf l n=some ((dY ltI Kept.slot n l:Int),(bT Kept.slot n l).isSome):=by
 unfold jf;have hc:dY ltI Kept.slot n l<=l.length:=nY l;have e0:∀(k0:Int->Option (Int×Bool)),cI l n k0 bx (0:Int) (List.length l:Int)=k0 (dY ltI Kept.slot n l:Int):=by
  intro k0;refine DA (λm a b=>cI l n k0 m a b) (λj=>match l[j]? with|some x=>decide (x.slot<n) |none=>false) l.length (dY ltI Kept.slot n l) k0 (by omega) (λm lo hi h1 h2=> ?_) (λm lo h1=> ?_) (λj hj=> ?_) (λj hj hj2=> ?_) bx 0 l.length (fp (by omega)) (Nat.zero_le _) hc (Nat.le_refl _)
  ·simp only[cI,sh]
   have hm:(lo+hi)/2<l.length:=by omega
   rw[dec_lt h1,CB (by omega) (by omega),bu,toNat_cast,List.getElem?_eq_getElem hm,aP (by omega)];have e1:decide ((1:Int)<0)=false:=rfl;simp only[e1,aw,ax,ae,aV,if_true,Bool.false_eq_true,if_false,bne_self_eq_false];by_cases h9:l[(lo+hi)/2].slot<n
   ·simp [h9]
   ·simp [h9]
  ·simp only[cI,sh]
   rw[bF (Nat.le_refl _),ax]
  ·have hj':j<l.length:=by omega
   have:=sd (lt:=ltI) (key:=Kept.slot) hj (List.getElem?_eq_getElem hj');simp only[List.getElem?_eq_getElem hj'];exact this
  ·have:=uU loI (k:=n) hs hj (List.getElem?_eq_getElem hj2)
   simp only[List.getElem?_eq_getElem hj2];exact this
 rw[e0,ll loI hs];by_cases h:dY ltI Kept.slot n l<l.length
 ·rw[dec_lt h,bu,toNat_cast,List.getElem?_eq_getElem h]
  simp only[aw,ae,bne_self_eq_false,ax,aV];by_cases h1:l[dY ltI Kept.slot n l].slot<n
  ·have:¬l[dY ltI Kept.slot n l].slot=n:=by omega
   simp [h1,this]
  ·by_cases h2:l[dY ltI Kept.slot n l].slot>n
   ·have:¬l[dY ltI Kept.slot n l].slot=n:=by omega
    simp [h1,h2,this]
   ·have:l[dY ltI Kept.slot n l].slot=n:=by omega
    simp [h1,h2,this]
 ·rw[bF (by omega),ax,List.getElem?_eq_none (by omega)]
  rfl
theorem nT {l:List ao} {n:Int} (hs:dm ltI ao.ino l) (hl:l.length<=1073741824):iu l n=some ((dY ltI ao.ino n l:Int),(bT ao.ino n l).isSome):=by
 unfold iu;have hc:dY ltI ao.ino n l<=l.length:=nY l;have e0:∀(k0:Int->Option (Int×Bool)),cz l n k0 bx (0:Int) (List.length l:Int)=k0 (dY ltI ao.ino n l:Int):=by
  intro k0;refine DA (λm a b=>cz l n k0 m a b) (λj=>match l[j]? with|some x=>decide (x.ino<n) |none=>false) l.length (dY ltI ao.ino n l) k0 (by omega) (λm lo hi h1 h2=> ?_) (λm lo h1=> ?_) (λj hj=> ?_) (λj hj hj2=> ?_) bx 0 l.length (fp (by omega)) (Nat.zero_le _) hc (Nat.le_refl _)
  ·simp only[cz,sh]
   have hm:(lo+hi)/2<l.length:=by omega
   rw[dec_lt h1,CB (by omega) (by omega),bu,toNat_cast,List.getElem?_eq_getElem hm,aP (by omega)];have e1:decide ((1:Int)<0)=false:=rfl;simp only[e1,aw,ax,ae,aV,if_true,Bool.false_eq_true,if_false,bne_self_eq_false];by_cases h9:l[(lo+hi)/2].ino<n
   ·simp [h9]
   ·simp [h9]
  ·simp only[cz,sh]
   rw[bF (Nat.le_refl _),ax]
  ·have hj':j<l.length:=by omega
   have:=sd (lt:=ltI) (key:=ao.ino) hj (List.getElem?_eq_getElem hj');simp only[List.getElem?_eq_getElem hj'];exact this
  ·have:=uU loI (k:=n) hs hj (List.getElem?_eq_getElem hj2)
   simp only[List.getElem?_eq_getElem hj2];exact this
 rw[e0,ll loI hs];by_cases h:dY ltI ao.ino n l<l.length
 ·rw[dec_lt h,bu,toNat_cast,List.getElem?_eq_getElem h]
  simp only[aw,ae,bne_self_eq_false,ax,aV];by_cases h1:l[dY ltI ao.ino n l].ino<n
  ·have:¬l[dY ltI ao.ino n l].ino=n:=by omega
   simp [h1,this]
  ·by_cases h2:l[dY ltI ao.ino n l].ino>n
   ·have:¬l[dY ltI ao.ino n l].ino=n:=by omega
    simp [h1,h2,this]
   ·have:l[dY ltI ao.ino n l].ino=n:=by omega
    simp [h1,h2,this]
 ·rw[bF (by omega),ax,List.getElem?_eq_none (by omega)]
  rfl
def noS:Kept:=⟨0,0,false, []⟩
theorem jm {w:aq} {n:Int} (hs:qD w.al.kept) (hl:w.al.kept.length<=1073741824):iH w n=some ((b9 n w.al.kept).getD noS,(b9 n w.al.kept).isSome):=by
 unfold iH;rw[o7 hs hl];simp only[ae];have e:=ll loI (k:=n) hs;rw[bu,toNat_cast];cases h:b9 n w.al.kept with
 |none=>simp [noS,show bT Kept.slot n w.al.kept=none from h]
 |some k=>
  rw[show bT Kept.slot n w.al.kept=some k from h] at e;cases h2:w.al.kept[dY ltI Kept.slot n w.al.kept]? with
  |none=>rw[h2] at e;cases e
  |some k'=>
   rw[h2] at e;simp only[ae] at e;split at e
   ·cases e;simp [show bT Kept.slot n w.al.kept=some k from h]
   ·cases e
theorem Bk {w:aq} {n:Int} (h1:ct w.fs.aa) (h2:w.fs.aa.length<=1073741824) (hs:ct w.al.aO) (hl:w.al.aO.length<=1073741824):
 pN w n=some (match ar n w.fs.aa with|some x=>(x,true) |none=>(aC n w.al.aO,(ar n w.al.aO).isSome)):=by
 unfold pN;rw[dq h1 h2];simp only[ae];cases h0:ar n w.fs.aa with
 |some x=>simp [aC,h0]
 |none=>
  rw[nT hs hl];simp only[ae,Option.isSome_none,ax];have e:=ll loI (k:=n) hs;rw[bu,toNat_cast];cases h:ar n w.al.aO with
  |none=>simp [aC,ky,show bT ao.ino n w.al.aO=none from h]
  |some k=>
   rw[show bT ao.ino n w.al.aO=some k from h] at e;cases h3:w.al.aO[dY ltI ao.ino n w.al.aO]? with
   |none=>rw[h3] at e;cases e
   |some k'=>
    rw[h3] at e;simp only[ae] at e;split at e
    ·cases e;simp [aC,show bT ao.ino n w.al.aO=some k from h]
    ·cases e
theorem lX {l:List Kept} (hl:l.length<=1073741824):fC l=some l:=by
 unfold fC;refine lH (λe=>by subst e;rfl) ?_;rw[bC (by unfold LIM;simp;omega)];simp
theorem kC {l:List ao} (hl:l.length<=1073741824):cQ l=some l:=by
 unfold cQ;refine lH (λe=>by subst e;rfl) ?_;rw[bC (by unfold LIM;simp;omega)];simp
theorem sN {w:aq} {x:Kept} (hs:qD w.al.kept) (hl:w.al.kept.length<=1073741824) (h0:b9 x.slot w.al.kept=none):fh w x=some ⟨w.fs,⟨uA x w.al.kept,w.al.aO⟩⟩:=by
 have e9:uA x w.al.kept=w.al.kept.take (dY ltI Kept.slot x.slot w.al.kept)++x::w.al.kept.drop (dY ltI Kept.slot x.slot w.al.kept):=by
  have:=vr loI hs h0;unfold p9 at this;rw[qj h0] at this;exact this
 unfold fh sh;rw[o7 hs hl,lX hl,e9];simp only[ae];have hc:dY ltI Kept.slot x.slot w.al.kept<=w.al.kept.length:=nY w.al.kept;generalize dY ltI Kept.slot x.slot w.al.kept=c at hc;generalize w.al.kept=l at hl hc;simp only[List.length_singleton];have e1:IntKind.i64.wrap ((List.length l:Int)+((1:Nat):Int))=((l.length+1:Nat):Int):=by rw[bN (by omega) (by omega)];omega
 have e2:IntKind.i64.wrap ((c:Int)+((1:Nat):Int))=((c+1:Nat):Int):=by rw[bN (by omega) (by omega)];omega
 simp only[e1,e2,toNat_cast];rw[aJ (by simp;omega),aU (by simp)];by_cases hlen:c=l.length
 ·subst hlen
  rw[aJ (by simp),bC (by unfold LIM;omega)];simp
 ·rw[aU (by simp;omega)]
  refine yr λcp hcp=> ?_
  by_cases hcap:cp<l.length+1
  ·rw[aJ (by simp;omega),aJ (by simp;omega)]
   have e3:IntKind.i64.wrap (((l.length+1:Nat):Int) - (c:Int))=((l.length+1 - c:Nat):Int):=by rw[bN (by omega) (by omega)];omega
   simp only[e3,toNat_cast,List.drop_zero];have hA:(l.take c).length=c:=by simp;omega
   have hT:(l.take c++List.replicate (l.length+1 - c) (⟨0,0,false, []⟩:Kept)).take c=l.take c:=take_set hA;have hD:(l.take c++List.replicate (l.length+1 - c) (⟨0,0,false, []⟩:Kept)).drop c=List.replicate (l.length+1 - c) (⟨0,0,false, []⟩:Kept):=drop_set hA;have hL:(l.take c++List.replicate (l.length+1 - c) (⟨0,0,false, []⟩:Kept)).length=l.length+1:=by simp;omega
   simp only[hT,hD,hL];have hX:[x].take (l.length+1 - c)=[x]:=by rw[List.take_of_length_le];simp;omega
   have hM:min 1 (l.length+1 - c)=1:=by omega
   have hR:(List.replicate (l.length+1 - c) (⟨0,0,false, []⟩:Kept)).drop 1=List.replicate (l.length - c) (⟨0,0,false, []⟩:Kept):=by rw[List.drop_replicate];congr 1;omega
   simp only[hX,hM,hR];have hL2:(l.take c++([x]++List.replicate (l.length - c) (⟨0,0,false, []⟩:Kept))).length=l.length+1:=by simp;omega
   simp only[hL2];have hM2:min (l.length - c) (l.length+1 - (c+1))=l.length - c:=by omega
   simp only[hM2];rw[aJ (by simp),bC (by unfold LIM;omega),aJ (by simp;omega),aJ (by simp;omega),aJ (by simp;omega),aJ (by simp;omega),aJ (by simp;omega),aJ (by simp;omega),aJ (by simp;omega),aJ (by simp;omega),aJ (by simp;omega)];have e4:l.take c++([x]++List.replicate (l.length - c) (⟨0,0,false, []⟩:Kept))=(l.take c++[x])++List.replicate (l.length - c) (⟨0,0,false, []⟩:Kept):=by simp
   have hA1:(l.take c++[x]).length=c+1:=by simp;omega
   have hT4:(l.take c++([x]++List.replicate (l.length - c) (⟨0,0,false, []⟩:Kept))).take (c+1)=l.take c++[x]:=by rw[e4];exact take_set hA1
   have hD4:(l.take c++([x]++List.replicate (l.length - c) (⟨0,0,false, []⟩:Kept))).drop (c+1+(l.length - c))= [] :=by rw[List.drop_eq_nil_of_le];rw[hL2];omega
   have hQ:(l.drop c).take (l.length - c)=l.drop c:=by rw[List.take_of_length_le];simp
   rw[hT4,hD4,hQ];simp
  ·rw[aU (by simp;omega)]
   have hM:min (l.length+1 - c) (l.length+1 - (c+1))=l.length - c:=by omega
   simp only[hM,Nat.zero_add];have hQ:(l.drop c).take (l.length - c)=l.drop c:=by rw[List.take_of_length_le];simp
   have hX:[x].take (l.length+1 - c)=[x]:=by rw[List.take_of_length_le];simp;omega
   have hM2:min 1 (l.length+1 - c)=1:=by omega
   simp only[hQ,hX,hM2,List.drop_zero];rw[aJ (by simp;omega),aJ (by simp;omega),aJ (by simp),aJ (by simp;omega),aJ (by simp;omega),aJ (by simp;omega),aJ (by simp;omega)];have hc1:c+1<=l.length:=by omega
   rw[aJ (by simp;omega),aU (IK (by omega)),aJ (by simp;omega),aJ (by simp;omega),aJ (by simp;omega)];have hT1:(l.take (c+1)++l.drop c).take c=l.take c:=by rw[List.take_append_of_le_length (by simp;omega),List.take_take];congr 1;omega
   have hD1:((l.take (c+1)++l.drop c).drop c).drop 1=l.drop c:=by rw[List.drop_drop];exact drop_set (by simp;omega)
   rw[hT1,hD1];rw[List.take_of_length_le (by simp;omega)];simp
theorem tZ {R:Type} (n:Int) (k0:Int->List Kept->Option R) (l:List Kept) (hl:l.length<=1073741824) (z:R)
 (hk:∀(i:Nat) (l':List Kept),l'.length=l.length->i<=l.length->l'.take i=e_ n l->k0 (i:Int) l'=some z):
 ∀(m i j:Nat) (l':List Kept),l.length - j<m->l'.length=l.length->i<=j->j<=l.length->l'.drop j=l.drop j->l'.take i=e_ n (l.take j)->dg n k0 m (i:Int) (j:Int) l'=some z
 |0,i,j,l',hm,_,_,_,_,_=>by omega
 |m+1,i,j,l',hm,he,hij,hj,hd,ht=>by
  simp only[dg];by_cases h:j<l.length
  ·have h':j<l'.length:=by omega
   rw[aJ (by simp;omega),aJ (by simp;omega)];have e1:l'[Int.toNat (j:Int)]? =some l[j]:=by
    have:=congrArg (λq=>q[0]?) hd;simp only[List.getElem?_drop,Nat.add_zero] at this;rw[toNat_cast,this,List.getElem?_eq_getElem h]
   rw[e1,ae];have hw:IntKind.i64.wrap ((j:Int)+1)=((j+1:Nat):Int):=by rw[bN (by omega) (by omega)];omega
   have hw2:IntKind.i64.wrap ((i:Int)+1)=((i+1:Nat):Int):=by rw[bN (by omega) (by omega)];omega
   have et:l.take (j+1)=l.take j++[l[j]]:=by rw[List.take_add_one,List.getElem?_eq_getElem h];rfl
   by_cases hs:l[j].slot=n
   ·rw[aU (by simp [hs]),hw]
    refine tZ n k0 l hl z hk m i (j+1) l' (by omega) he (by omega) (by omega) ?_ ?_
    ·rw[<-List.drop_drop,<-List.drop_drop,hd]
    ·rw[ht,et];unfold e_ eR;rw[List.filter_append];simp [hs]
   ·rw[aJ (by simp [hs]),aJ (by simp;omega)]
    have e2:l'[Int.toNat (i:Int)]? =some (l'[i]'(by omega)):=by rw[toNat_cast];exact List.getElem?_eq_getElem (by omega)
    rw[e2,ae,hw,hw2,toNat_cast];refine tZ n k0 l hl z hk m (i+1) (j+1) _ (by omega) (by simpa using he) (by omega) (by omega) ?_ ?_
    ·rw[List.drop_set,if_pos (by omega),<-List.drop_drop,<-List.drop_drop,hd]
    ·rw[List.take_add_one,List.getElem?_set_self (by omega),et]
     have:(l'.set i l[j]).take i=l'.take i:=by rw[List.take_set,List.set_eq_of_length_le (by simp;omega)]
     rw[this,ht];unfold e_ eR;rw[List.filter_append];simp [hs]
  ·have hjl:j=l.length:=by omega
   subst hjl;rw[aU (by simp;omega)];refine hk i l' he hij ?_;rw[ht,List.take_length]
theorem kV {w:aq} {n:Int} (hl:w.al.kept.length<=1073741824):bW w n=some ⟨w.fs,⟨e_ n w.al.kept,w.al.aO⟩⟩:=by
 unfold bW sh;rw[lX hl,ae];generalize w.al.kept=l at hl;have key:∀(k0:Int->List Kept->Option aq),(∀(i:Nat) (l':List Kept),l'.length=l.length->i<=l.length->l'.take i=e_ n l->k0 (i:Int) l'=some ⟨w.fs,⟨e_ n l,w.al.aO⟩⟩)->∀(kr:Int->Option aq),(∀j,kr j=ah (j==(-1:Int)) (some ⟨w.fs,⟨l,w.al.aO⟩⟩) (dg n k0 bx j (IntKind.i64.wrap (j+(1:Int))) l))->
  ∀(m j:Nat),l.length - j<m->j<=l.length->e_ n (l.take j)=l.take j->dK (List.length l:Int) n l kr (some ⟨w.fs,⟨l,w.al.aO⟩⟩) m (j:Int)=some ⟨w.fs,⟨e_ n l,w.al.aO⟩⟩:=by
  intro k0 hk kr hkr m;induction m with
  |zero=>intro j h;omega
  |succ m ih=>
   intro j hm hj hd;simp only[dK];by_cases h:j<l.length
   ·rw[aJ (by simp;omega),aJ (by simp;omega),toNat_cast,List.getElem?_eq_getElem h,ae]
    have hw:IntKind.i64.wrap ((j:Int)+1)=((j+1:Nat):Int):=by rw[bN (by omega) (by omega)];omega
    have et:l.take (j+1)=l.take j++[l[j]]:=by rw[List.take_add_one,List.getElem?_eq_getElem h];rfl
    by_cases hs:l[j].slot=n
    ·rw[aJ (by simp [hs]),hkr,aU (by simp),hw]
     refine tZ n k0 l hl _ hk bx j (j+1) l (fp (by omega)) rfl (by omega) (by omega) rfl ?_;rw[et];unfold e_ eR at hd⊢;rw[List.filter_append,hd];simp [hs]
    ·rw[aU (by simp [hs]),hw]
     refine ih (j+1) (by omega) (by omega) ?_;rw[et];unfold e_ eR at hd⊢;rw[List.filter_append,hd];simp [hs]
   ·have hjl:j=l.length:=by omega
    subst hjl;rw[aU (by simp)];rw[List.take_length] at hd;rw[hd]
 refine key _ (λi l' h1 h2 h3=> ?_) _ (λj=>rfl) bx 0 (fp (by omega)) (Nat.zero_le _) rfl;simp only[toNat_cast,List.drop_zero];have h4:(l'.take i).length=i:=by simp;omega
 have h5:(l'.take i++(List.replicate (l'.length - i) (⟨0,0,false, []⟩:Kept)++l'.drop (i+(l'.length - i)))).length=l'.length:=by simp;omega
 have h6:(l'.take i++(List.replicate (l'.length - i) (⟨0,0,false, []⟩:Kept)++l'.drop (i+(l'.length - i)))).take i=l'.take i:=take_set h4;rw[aJ (by simp;omega),aJ (Nat.ble_eq_true_of_le (by omega))];simp only[h5];rw[aJ (by simp;omega),aJ (Nat.ble_eq_true_of_le (by omega)),h6,h3]
section
variable {lim:Int} {w:aq} {s i:Int} {n:Nat}
theorem uX (h:RW w) (b:Wb lim n w) (hn:n<=9000):kc w s i=some (wB w s i):=by
 unfold kc wB;have h1:=b.kl;have h2:=b.bd.len;rw[jm h.ks (by omega)];simp only[ae];cases hf:b9 s w.al.kept with
 |some k=>simp [show bT Kept.slot s w.al.kept=some k from hf]
 |none=>
  simp only[show bT Kept.slot s w.al.kept=none from hf,Option.isSome_none,ax];rw[dq h.tr.sort (by omega)];simp only[ae];rw[sN h.ks (by omega) hf];rfl
theorem vp (h:RW w) (b:Wb lim n w) (hn:n<=9000):j5 w s=some (jZ w s):=by
 unfold j5 jZ;have h1:=b.kl;have h2:=b.bd.len;rw[jm h.ks (by omega)];simp only[ae];rw[dq h.tr.sort (by omega)];simp only[ae];cases hf:b9 s w.al.kept with
 |none=>simp [show bT Kept.slot s w.al.kept=none from hf]
 |some k=>
  have hk:=(iD hf).1;simp only[show bT Kept.slot s w.al.kept=some k from hf,Option.isSome_some,Option.getD_some,Bool.not_true,ax];cases hc:k.content with
  |false=>simp
  |true=>
   simp only[Bool.not_true,ax,if_true];cases hx:ar k.ino w.fs.aa with
   |none=>simp [show bT ao.ino k.ino w.fs.aa=none from hx]
   |some x=>
    have hxm:=(bX hx).1;have d1:=b.kd k hk;have d2:=b.bd.data x hxm;simp only[show bT ao.ino k.ino w.fs.aa=some x from hx,aC,Option.isSome_some,Option.getD_some,Bool.not_true,ax];rw[bN (by omega) (by omega),iN (h.ew b hn).sm (by unfold Far;omega) (by unfold Far;omega)];simp only[ae];cases hft:cy w.fs 0 ((k.data.length:Int) - (x.data.length:Int)) with
    |false=>simp
    |true=>
     simp only[Bool.not_true,ax,if_true];rw[cJ h.tr.sort (by omega)];simp only[ae];rw[kV (by simpa using(by omega:w.al.kept.length<=1073741824))];rfl
end
section
variable {lim:Int} {w:aq} {s i:Int} {n:Nat} {a:au} {x:ao}
theorem yQ (h:RW w) (b:Wb lim n w) (hn:n<=9000) (hx0:ar a.ino w.fs.aa=some x) (hg:ct (dF w.fs a).aa) (hgl:(dF w.fs a).aa.length<=1073741824)
 (hfi:(ar a.ino (dF w.fs a).aa).isSome= !decide (x.aH=1)):ni w s a=some (n8 w s a):=by
 unfold ni sh n8;have h1:=b.kl;have h2:=b.bd.len;have h3:=b.pl;rw[jm h.ks (by omega)];simp only[ae];cases hf:b9 s w.al.kept with
 |some k=>simp [show bT Kept.slot s w.al.kept=some k from hf]
 |none=>
  simp only[show bT Kept.slot s w.al.kept=none from hf,Option.isSome_none,ax];rw[dq h.tr.sort (by omega)];simp only[ae];rw[nI (h.ew b hn).ez];simp only[ae];rw[dq hg hgl];simp only[ae,hfi,aT hx0];have hW:∀(p:List ao),fh ⟨dF w.fs a,⟨w.al.kept,p⟩⟩ ⟨s,a.ino,false, []⟩=some ⟨dF w.fs a,⟨uA ⟨s,a.ino,false, []⟩ w.al.kept,p⟩⟩:=λp=>sN (w:=⟨dF w.fs a,⟨w.al.kept,p⟩⟩) h.ks (by show w.al.kept.length<=_;omega) hf
  by_cases hl1:x.aH=1
  ·have hp:ar x.ino w.al.aO=none:=by
    rw[(aQ hx0).2];exact h.m6 hx0
   have e9:bB x.bare w.al.aO=w.al.aO.take (dY ltI ao.ino x.ino w.al.aO)++x.bare::w.al.aO.drop (dY ltI ao.ino x.ino w.al.aO):=vr loI h.ps hp;rw[if_pos hl1,nT h.ps (by omega),kC (by omega),e9];simp only[hl1,decide_true,Bool.not_true,Bool.not_false,aw,ae,hW];have hc:dY ltI ao.ino x.ino w.al.aO<=w.al.aO.length:=nY w.al.aO;have hl:w.al.aO.length<=1073741824:=by omega
   have hxb:(⟨x.ino,x.kind,(0:Int),x.data,(0:Int),x.entries⟩:ao)=x.bare:=rfl;rw[hxb];generalize dY ltI ao.ino x.ino w.al.aO=c at hc;generalize x.bare=x;generalize w.al.aO=l at hc hl;simp only[List.length_singleton];have e1:IntKind.i64.wrap ((List.length l:Int)+((1:Nat):Int))=((l.length+1:Nat):Int):=by rw[bN (by omega) (by omega)];omega
   have e2:IntKind.i64.wrap ((c:Int)+((1:Nat):Int))=((c+1:Nat):Int):=by rw[bN (by omega) (by omega)];omega
   simp only[e1,e2,toNat_cast];rw[aJ (by simp;omega),aU (by simp)];by_cases hlen:c=l.length
   ·subst hlen
    rw[aJ (by simp),bC (by unfold LIM;omega)];simp
   ·rw[aU (by simp;omega)]
    refine yr λcp hcp=> ?_
    by_cases hcap:cp<l.length+1
    ·rw[aJ (by simp;omega),aJ (by simp;omega)]
     have e3:IntKind.i64.wrap (((l.length+1:Nat):Int) - (c:Int))=((l.length+1 - c:Nat):Int):=by rw[bN (by omega) (by omega)];omega
     simp only[e3,toNat_cast,List.drop_zero];have hA:(l.take c).length=c:=by simp;omega
     have hT:(l.take c++List.replicate (l.length+1 - c) (⟨0,0,0, [],0,([] :List Entry)⟩:ao)).take c=l.take c:=take_set hA;have hD:(l.take c++List.replicate (l.length+1 - c) (⟨0,0,0, [],0,([] :List Entry)⟩:ao)).drop c=List.replicate (l.length+1 - c) (⟨0,0,0, [],0,([] :List Entry)⟩:ao):=drop_set hA;have hL:(l.take c++List.replicate (l.length+1 - c) (⟨0,0,0, [],0,([] :List Entry)⟩:ao)).length=l.length+1:=by simp;omega
     simp only[hT,hD,hL];have hX:[x].take (l.length+1 - c)=[x]:=by rw[List.take_of_length_le];simp;omega
     have hM:min 1 (l.length+1 - c)=1:=by omega
     have hR:(List.replicate (l.length+1 - c) (⟨0,0,0, [],0,([] :List Entry)⟩:ao)).drop 1=List.replicate (l.length - c) (⟨0,0,0, [],0,([] :List Entry)⟩:ao):=by rw[List.drop_replicate];congr 1;omega
     simp only[hX,hM,hR];have hL2:(l.take c++([x]++List.replicate (l.length - c) (⟨0,0,0, [],0,([] :List Entry)⟩:ao))).length=l.length+1:=by simp;omega
     simp only[hL2];have hM2:min (l.length - c) (l.length+1 - (c+1))=l.length - c:=by omega
     simp only[hM2];rw[aJ (by simp),bC (by unfold LIM;omega),aJ (by simp;omega),aJ (by simp;omega),aJ (by simp;omega),aJ (by simp;omega),aJ (by simp;omega),aJ (by simp;omega),aJ (by simp;omega),aJ (by simp;omega),aJ (by simp;omega)];have e4:l.take c++([x]++List.replicate (l.length - c) (⟨0,0,0, [],0,([] :List Entry)⟩:ao))=(l.take c++[x])++List.replicate (l.length - c) (⟨0,0,0, [],0,([] :List Entry)⟩:ao):=by simp
     have hA1:(l.take c++[x]).length=c+1:=by simp;omega
     have hT4:(l.take c++([x]++List.replicate (l.length - c) (⟨0,0,0, [],0,([] :List Entry)⟩:ao))).take (c+1)=l.take c++[x]:=by rw[e4];exact take_set hA1
     have hD4:(l.take c++([x]++List.replicate (l.length - c) (⟨0,0,0, [],0,([] :List Entry)⟩:ao))).drop (c+1+(l.length - c))= [] :=by rw[List.drop_eq_nil_of_le];rw[hL2];omega
     have hQ:(l.drop c).take (l.length - c)=l.drop c:=by rw[List.take_of_length_le];simp
     rw[hT4,hD4,hQ];simp
    ·rw[aU (by simp;omega)]
     have hM:min (l.length+1 - c) (l.length+1 - (c+1))=l.length - c:=by omega
     simp only[hM,Nat.zero_add];have hQ:(l.drop c).take (l.length - c)=l.drop c:=by rw[List.take_of_length_le];simp
     have hX:[x].take (l.length+1 - c)=[x]:=by rw[List.take_of_length_le];simp;omega
     have hM2:min 1 (l.length+1 - c)=1:=by omega
     simp only[hQ,hX,hM2,List.drop_zero];rw[aJ (by simp;omega),aJ (by simp;omega),aJ (by simp),aJ (by simp;omega),aJ (by simp;omega),aJ (by simp;omega),aJ (by simp;omega)];have hc1:c+1<=l.length:=by omega
     rw[aJ (by simp;omega),aU (IK (by omega)),aJ (by simp;omega),aJ (by simp;omega),aJ (by simp;omega)];have hT1:(l.take (c+1)++l.drop c).take c=l.take c:=by rw[List.take_append_of_le_length (by simp;omega),List.take_take];congr 1;omega
     have hD1:((l.take (c+1)++l.drop c).drop c).drop 1=l.drop c:=by rw[List.drop_drop];exact drop_set (by simp;omega)
     rw[hT1,hD1];rw[List.take_of_length_le (by simp;omega)];simp
  ·rw[if_neg hl1]
   simp only[hl1,decide_false,Bool.not_false,Bool.not_true,ax];have:=hW w.al.aO;simp only[show(⟨dF w.fs a,w.al⟩:aq)=⟨dF w.fs a,⟨w.al.kept,w.al.aO⟩⟩ from rfl,this,ae]
end
theorem CG {R:Type} (y:ao) (k0:Int->List ao->Option R) (l:List ao) (hl:l.length<=1073741824) (z:R)
 (hk:∀(i:Nat) (l':List ao),l'.length=l.length->i<=l.length->l'.take i=dI y.ino l->k0 (i:Int) l'=some z):
 ∀(m i j:Nat) (l':List ao),l.length - j<m->l'.length=l.length->i<=j->j<=l.length->l'.drop j=l.drop j->l'.take i=dI y.ino (l.take j)->cx y k0 m (i:Int) (j:Int) l'=some z
 |0,i,j,l',hm,_,_,_,_,_=>by omega
 |m+1,i,j,l',hm,he,hij,hj,hd,ht=>by
  simp only[cx];by_cases h:j<l.length
  ·have h':j<l'.length:=by omega
   rw[aJ (by simp;omega),aJ (by simp;omega)];have e1:l'[Int.toNat (j:Int)]? =some l[j]:=by
    have:=congrArg (λq=>q[0]?) hd;simp only[List.getElem?_drop,Nat.add_zero] at this;rw[toNat_cast,this,List.getElem?_eq_getElem h]
   rw[e1,ae];have hw:IntKind.i64.wrap ((j:Int)+1)=((j+1:Nat):Int):=by rw[bN (by omega) (by omega)];omega
   have hw2:IntKind.i64.wrap ((i:Int)+1)=((i+1:Nat):Int):=by rw[bN (by omega) (by omega)];omega
   have et:l.take (j+1)=l.take j++[l[j]]:=by rw[List.take_add_one,List.getElem?_eq_getElem h];rfl
   by_cases hs:l[j].ino=y.ino
   ·rw[aU (by simp [hs]),hw]
    refine CG y k0 l hl z hk m i (j+1) l' (by omega) he (by omega) (by omega) ?_ ?_
    ·rw[<-List.drop_drop,<-List.drop_drop,hd]
    ·rw[ht,et];unfold dI eR;rw[List.filter_append];simp [hs]
   ·rw[aJ (by simp [hs]),aJ (by simp;omega)]
    have e2:l'[Int.toNat (i:Int)]? =some (l'[i]'(by omega)):=by rw[toNat_cast];exact List.getElem?_eq_getElem (by omega)
    rw[e2,ae,hw,hw2,toNat_cast];refine CG y k0 l hl z hk m (i+1) (j+1) _ (by omega) (by simpa using he) (by omega) (by omega) ?_ ?_
    ·rw[List.drop_set,if_pos (by omega),<-List.drop_drop,<-List.drop_drop,hd]
    ·rw[List.take_add_one,List.getElem?_set_self (by omega),et]
     have:(l'.set i l[j]).take i=l'.take i:=by rw[List.take_set,List.set_eq_of_length_le (by simp;omega)]
     rw[this,ht];unfold dI eR;rw[List.filter_append];simp [hs]
  ·have hjl:j=l.length:=by omega
   subst hjl;rw[aU (by simp;omega)];refine hk i l' he hij ?_;rw[ht,List.take_length]
theorem KP {R:Type} (y:ao) (l:List ao) (hl:l.length<=1073741824) (z:R) (k0:Int->List ao->Option R)
 (hk:∀(i:Nat) (l':List ao),l'.length=l.length->i<=l.length->l'.take i=dI y.ino l->k0 (i:Int) l'=some z) (kz:Option R) (hkz:dI y.ino l=l->kz=some z) (kr:Int->Option R)
 (hkr:∀j:Nat,j<l.length->kr (j:Int)=cx y k0 bx (j:Int) (IntKind.i64.wrap ((j:Int)+(1:Int))) l):
 ∀(m j:Nat),l.length - j<m->j<=l.length->dI y.ino (l.take j)=l.take j->cv (List.length l:Int) y l kr kz m (j:Int)=some z:=by
 intro m;induction m with
 |zero=>intro j h;omega
 |succ m ih=>
  intro j hm hj hd;simp only[cv];by_cases h:j<l.length
  ·rw[aJ (by simp;omega),aJ (by simp;omega),toNat_cast,List.getElem?_eq_getElem h,ae]
   have hw:IntKind.i64.wrap ((j:Int)+1)=((j+1:Nat):Int):=by rw[bN (by omega) (by omega)];omega
   have et:l.take (j+1)=l.take j++[l[j]]:=by rw[List.take_add_one,List.getElem?_eq_getElem h];rfl
   by_cases hs:l[j].ino=y.ino
   ·rw[aJ (by simp [hs]),hkr j h,hw]
    refine CG y k0 l hl _ hk bx j (j+1) l (fp (by omega)) rfl (by omega) (by omega) rfl ?_;rw[et];unfold dI eR at hd⊢;rw[List.filter_append,hd];simp [hs]
   ·rw[aU (by simp [hs]),hw]
    refine ih (j+1) (by omega) (by omega) ?_;rw[et];unfold dI eR at hd⊢;rw[List.filter_append,hd];simp [hs]
  ·have hjl:j=l.length:=by omega
   subst hjl;rw[aU (by simp)];rw[List.take_length] at hd;exact hkz hd
theorem jn {w:aq} {n:Int} (hl:w.al.kept.length<=1073741824):iL w n=some ((b9 n w.al.kept).getD noS,(b9 n w.al.kept).isSome):=by
 unfold iL;refine(bE (l:=w.al.kept) (λm i (_:Unit)=>hJ n w (λz10=>some (z10,true)) (some ((⟨0,0,false, []⟩:Kept),false)) m i) (λ_ (x:Kept) s K=>if decide (x.slot=n) then some (x,true) else K s) (λ_=>some (noS,false)) (by omega) (λm k x u hk hx=> ?_) (λm u=> ?_) ()).trans ?_
 ·simp only[hJ]
  rw[dec_lt hk,bu,toNat_cast,hx,aP (by omega)];simp only[aw,ae,aV,if_true,eh]
 ·simp only[hJ]
  rw[bF (Nat.le_refl _)];rfl
 ·rw[ua (key:=Kept.slot) (k:=n) (λx=>some (x,true)) _]
  unfold b9;cases bT Kept.slot n w.al.kept<;>rfl
theorem oT {w:aq} {n:Int} (hl:w.al.kept.length<=1073741824):eV w n=some ⟨w.fs,⟨e_ n w.al.kept,w.al.aO⟩⟩:=by
 unfold eV;refine(bE (l:=w.al.kept) (λm i s=>dZ n w (λz11=>some (⟨w.fs,(⟨z11,w.al.aO⟩:du)⟩:aq)) m i s) (λ_ (x:Kept) s K=>if !decide (x.slot=n) then aS (s.length+[x].length) (K (s++[x])) else K s) (λz11=>some (⟨w.fs,(⟨z11,w.al.aO⟩:du)⟩:aq)) (by omega) (λm k x s hk hx=> ?_) (λm s=> ?_) []).trans ?_
 ·simp only[dZ]
  rw[dec_lt hk,bu,toNat_cast,hx,aP (by omega)];simp only[aw,ae,aV,if_true,dS]
 ·simp only[dZ]
  rw[bF (Nat.le_refl _)];rfl
 ·rw[oN _ _ _ _ _ (by unfold LIM;simp;omega)];rfl
theorem oM {w:aq} {x:Kept} (hl:w.al.kept.length<=1073741824):kX w x=some ⟨w.fs,⟨uA x w.al.kept,w.al.aO⟩⟩:=by
 unfold kX;refine(bE (l:=w.al.kept) (λm i s=>eX w x (λz16 z17=>ah (!z16) (aS (z17.length+[x].length) (some (⟨w.fs,(⟨(z17++[x]),w.al.aO⟩:du)⟩:aq))) (some (⟨w.fs,(⟨z17,w.al.aO⟩:du)⟩:aq))) m s.1 i s.2)
  (λ_ y (s:Bool×List Kept) K=>if !s.1 then (if ltI x.slot y.slot then aS (s.2.length+[x].length) (aS ((s.2++[x]).length+[y].length) (K (true,(s.2++[x])++[y]))) else aS (s.2.length+[y].length) (K (s.1,s.2++[y]))) else aS (s.2.length+[y].length) (K (s.1,s.2++[y])))
  (λs=>if !s.1 then aS (s.2.length+[x].length) (some (⟨w.fs,(⟨s.2++[x],w.al.aO⟩:du)⟩:aq)) else some (⟨w.fs,(⟨s.2,w.al.aO⟩:du)⟩:aq)) (by omega) (λm k y s hk hx=> ?_) (λm s=> ?_) (false, [])).trans ?_
 ·simp only[eX]
  rw[dec_lt hk,bu,toNat_cast,hx,aP (by omega)];simp only[aw,ae,aV,if_true,ltI,gt_iff_lt]
 ·simp only[eX]
  rw[bF (Nat.le_refl _),ax];simp only[aV]
 ·rw[mY (lt:=ltI) (key:=Kept.slot) x (λz=>some (⟨w.fs,(⟨z,w.al.aO⟩:du)⟩:aq)) _ _ _ (by unfold LIM;simp;omega)]
  rfl
section
variable {lim:Int} {w:aq} {s i:Int} {n:Nat}
theorem uw (h:RW w) (b:Wb lim n w) (hn:n<=9000):kf w s i=some (wB w s i):=by
 unfold kf wB;have h1:=b.kl;have h2:=b.bd.len;rw[jn (by omega)];simp only[ae];cases hf:b9 s w.al.kept with
 |some k=>simp [show bT Kept.slot s w.al.kept=some k from hf]
 |none=>
  simp only[show bT Kept.slot s w.al.kept=none from hf,Option.isSome_none,ax];rw[cD (by omega)];simp only[ae];rw[oM (by omega)];rfl
theorem vm (h:RW w) (b:Wb lim n w) (hn:n<=9000):j4 w s=some (jZ w s):=by
 unfold j4 jZ;have h1:=b.kl;have h2:=b.bd.len;rw[jn (by omega)];simp only[ae];rw[cD (by omega)];simp only[ae];cases hf:b9 s w.al.kept with
 |none=>simp [show bT Kept.slot s w.al.kept=none from hf]
 |some k=>
  have hk:=(iD hf).1;simp only[show bT Kept.slot s w.al.kept=some k from hf,Option.isSome_some,Option.getD_some,Bool.not_true,ax];cases hc:k.content with
  |false=>simp
  |true=>
   simp only[Bool.not_true,ax,if_true];cases hx:ar k.ino w.fs.aa with
   |none=>simp [show bT ao.ino k.ino w.fs.aa=none from hx]
   |some x=>
    have hxm:=(bX hx).1;have d1:=b.kd k hk;have d2:=b.bd.data x hxm;simp only[show bT ao.ino k.ino w.fs.aa=some x from hx,aC,Option.isSome_some,Option.getD_some,Bool.not_true,ax];rw[bN (by omega) (by omega),fW (h.ew b hn).sm (by unfold Far;omega) (by unfold Far;omega)];simp only[ae];cases hft:cy w.fs 0 ((k.data.length:Int) - (x.data.length:Int)) with
    |false=>simp
    |true=>
     simp only[Bool.not_true,ax,if_true];rw[cf (by omega)];simp only[ae];rw[oT (by simpa using(by omega:w.al.kept.length<=1073741824))];rfl
end
section
variable {lim:Int} {w:aq} {s i:Int} {n:Nat} {a:au} {x:ao}
theorem y_ (h:RW w) (b:Wb lim n w) (hn:n<=9000) (hr:pc w.fs a=dF w.fs a):nw w s a=some (n8 w s a):=by
 unfold nw n8;have h1:=b.kl;have h2:=b.bd.len;have h3:=b.pl;rw[jn (by omega)];simp only[ae];cases hf:b9 s w.al.kept with
 |some k=>simp [show bT Kept.slot s w.al.kept=some k from hf]
 |none=>
  simp only[show bT Kept.slot s w.al.kept=none from hf,Option.isSome_none,ax];rw[cD (by omega)];simp only[ae];rw[mg (h.ew b hn).ez,hr];simp only[ae];by_cases hl1:(aC a.ino w.fs.aa).aH=1
  ·rw[aJ (by simp [hl1]),if_pos hl1]
   show aj (some (⟨0,0,0,w.al.aO⟩:Fs)) _=_;rw[ae,cf (by show w.al.aO.length<=_;omega),ae,oM (by show w.al.kept.length<=_;omega),ae];rfl
  ·rw[aU (by simp [hl1]),if_neg hl1,oM (by show w.al.kept.length<=_;omega),ae]
end
instance aaQ:DecidableEq Kept:=λa b=>
 if h:a.slot=b.slot/\a.ino=b.ino/\a.content=b.content/\a.data=b.data then isTrue (by cases a;cases b;simp at h;simp [h]) else isFalse (by intro e;subst e;exact h ⟨rfl,rfl,rfl,rfl⟩)
instance XW:DecidableEq aq:=λa b=>
 if h:a.fs=b.fs/\a.al.kept=b.al.kept/\a.al.aO=b.al.aO then isTrue (aq.ext h.1 h.2.1 h.2.2) else isFalse (by intro e;subst e;exact h ⟨rfl,rfl,rfl⟩)
theorem Mu {x y:Kept}:x=y↔x.slot=y.slot/\x.ino=y.ino/\x.content=y.content/\x.data=y.data:=by
 constructor
 ·rintro rfl;exact⟨rfl,rfl,rfl,rfl⟩
 ·rintro⟨h1,h2,h3,h4⟩;cases x;cases y;simp at h1 h2 h3 h4;simp [h1,h2,h3,h4]
theorem SC (x y:Kept):(!((x.slot==y.slot)&&((x.ino==y.ino)&&((x.content==y.content)&&(x.data==y.data)))))= !decide (x=y):=by
 congr 1;rw[Bool.eq_iff_iff];simp only[Bool.and_eq_true,beq_iff_eq,decide_eq_true_eq,Mu]
theorem Rl (a b:aq):decide (a=b)=(decide (a.fs=b.fs)&&(decide (a.al.aO=b.al.aO)&&decide (a.al.kept=b.al.kept))):=by
 rw[Bool.eq_iff_iff];simp only[decide_eq_true_eq,Bool.and_eq_true];constructor
 ·rintro rfl;exact⟨rfl,rfl,rfl⟩
 ·rintro⟨h1,h2,h3⟩;exact aq.ext h1 h3 h2
theorem A0 {a b:aq} (h1:a.fs.aa.length<=1073741824) (h2:∀x∈a.fs.aa,x.entries.length<=1073741824) (h3:a.al.aO.length<=1073741824) (h4:∀x∈a.al.aO,x.entries.length<=1073741824) (h5:a.al.kept.length<=1073741824):
 dG a b=some (decide (a=b)):=by
 unfold dG;rw[om h1 h2,tn h3 h4,Rl];simp only[ae,aV];by_cases g1:a.fs=b.fs
 ·by_cases g2:a.al.aO=b.al.aO
  ·simp only[g1,g2,decide_true,Bool.not_true,Bool.false_eq_true,if_false,Bool.true_and]
   by_cases h:a.al.kept.length=b.al.kept.length
   ·have e:((List.length a.al.kept:Int) !=(List.length b.al.kept:Int))=false:=by rw[h];simp
    rw[e,if_neg (by simp)];refine(bE (l:=a.al.kept) (λm i (_:Unit)=>hZ a b (some false) (some true) m i) (λk x (_:Unit) K=>aj ([] ++b.al.kept)[k]? λy=>if decide (x=y) then K () else some false) (λ_=>some true) (by omega) (λm k x u hk hx=> ?_) (λm u=> ?_) ()).trans ?_
    ·simp only[hZ]
     rw[dec_lt hk,bu,toNat_cast,hx,aP (by omega)];simp only[aw,ae,aV,if_true,List.nil_append];have hk':k<b.al.kept.length:=by omega
     rw[List.getElem?_eq_getElem hk'];simp only[ae,SC];by_cases hxy:x=b.al.kept[k]<;>simp [hxy]
    ·simp only[hZ]
     rw[bF (Nat.le_refl _)];rfl
    ·rw[pt _ _ a.al.kept b.al.kept 0 [] h rfl]
     by_cases hab:a.al.kept=b.al.kept<;>simp [hab]
   ·have e:((List.length a.al.kept:Int) !=(List.length b.al.kept:Int))=true:=by rw[bne_iff_ne];omega
    rw[e,if_pos rfl];have:¬a.al.kept=b.al.kept:=λe=>h (by rw[e])
    simp [this]
  ·simp [g1,g2]
 ·simp [g1]
section
variable {lim:Int} {w:aq} {n:Nat} {a:au} {d y:ao}
theorem IT (h:RW w) (b:Wb lim n w) (hn:n<=9000) (hd:ar a.dir w.fs.aa=some d) (hk:d.kind=2) (hy:y∈w.al.aO):Ez (w.fs.set (if y.kind=2 then y.gB a.dir else y)):=by
 have z:=(h.ew b hn).ez;have hp:=(h.pk y hy).1;obtain⟨_,p2,p3,p4,_⟩:=h.pk y hy;generalize hz:(if y.kind=2 then y.gB a.dir else y)=x;have xi:x.ino=y.ino:=by rw[<-hz];split<;>rfl
 have xe:x.entries= [] :=by rw[<-hz];split<;>exact hp.2.2.1
 have xd:x.data=y.data:=by rw[<-hz];split<;>rfl
 have xk:x.kind=y.kind:=by rw[<-hz];split<;>rfl
 have xl:x.aH=0:=by rw[<-hz];split<;>exact hp.1
 have hfind:∀j,ar j (w.fs.set x).aa=if x.ino=j then some x else ar j w.fs.aa:=λj=>bA
 have hsome:∀j u,ar j w.fs.aa=some u->ar j (w.fs.set x).aa=some u:=λj u hu=>by
  rw[hfind,if_neg (λe=>by rw[<-e,xi,p4] at hu;cases hu)];exact hu
 have hm:∀u,u∈(w.fs.set x).aa->u=x\/u∈w.fs.aa:=λu hu=>by
  rcases dj.1 hu with h|⟨h,_⟩
  ·exact Or.inl h
  ·exact Or.inr h
 have hlen:= @lI w.fs x;have hl:=b.bd.len;have hdat:=b.pd y hy;have wf:=z.ws.wf;refine⟨⟨⟨⟨by omega,λu hu=> ?_,λu hu=> ?_,λu hu=> ?_⟩,eL wf.sort x,λu hu=> ?_,λu hu=> ?_,λu hu e he=> ?_, ?_⟩,λu hu hku=> ?_,λu hu hku=> ?_, ?_⟩,⟨by omega,λu hu=> ?_⟩,z.nx,λu hu=> ?_⟩
 ·rcases hm u hu with rfl|hu
  ·rw[xd];omega
  ·exact wf.sm.data u hu
 ·rcases hm u hu with rfl|hu
  ·rw[xe];simp
  ·exact wf.sm.dD u hu
 ·rcases hm u hu with rfl|hu
  ·rw[xe];simp
  ·exact wf.sm.names u hu
 ·rcases hm u hu with rfl|hu
  ·omega
  ·exact wf.pos u hu
 ·rcases hm u hu with rfl|hu
  ·rw[xe];rfl
  ·exact wf.right u hu
 ·rcases hm u hu with rfl|hu
  ·rw[xe] at he;cases he
  ·obtain⟨v,hv⟩:=Option.isSome_iff_exists.1 (wf.there u hu e he)
   rw[hsome _ v hv];rfl
 ·obtain⟨v,hv⟩:=Option.isSome_iff_exists.1 wf.root
  rw[hsome _ v hv];rfl
 ·rcases hm u hu with rfl|hu
  ·have hx2:u.parent=a.dir:=by
    rw[<-hz,if_pos (by rw[<-xk];exact hku)];rfl
   rw[hx2];exact⟨d,hsome _ d hd,hk⟩
  ·obtain⟨v,hv,hv2⟩:=z.ws.par u hu hku
   exact⟨v,hsome _ v hv,hv2⟩
 ·rcases hm u hu with rfl|hu
  ·rw[xd]
   rcases hp.2.2.2 with h1|⟨h1,h2⟩ |⟨_,_,h2,_⟩
   ·rw[xk,h1] at hku;cases hku
   ·rw[h2];simp
   ·exact h2
  ·exact z.ws.sym u hu hku
 ·obtain⟨r,hr,hr2⟩:=z.ws.LJ
  exact⟨r,hsome _ r hr,hr2⟩
 ·rcases hm u hu with rfl|hu
  ·rw[xe];simp
  ·exact z.lil.dD u hu
 ·rcases hm u hu with rfl|hu
  ·rw[xl];omega
  ·exact z.lk u hu
end
section
variable {lim:Int} {w:aq} {n:Nat} {a:au} {d y x:ao} {i s:Int}
theorem Kj {R:Type} (y:ao) (l:List ao) (hl:l.length<=1073741824) (z:R) (k0:Int->List ao->Option R) (ke kz:Option R)
 (hk:∀(i:Nat) (l':List ao),l'.length=l.length->i<=l.length->l'.take i=dI y.ino l->k0 (i:Int) l'=some z) (hkz:dI y.ino l=l->kz=some z):
 cv (List.length l:Int) y l (λq=>ah (q==(-1:Int)) ke (cx y k0 bx q (IntKind.i64.wrap (q+(1:Int))) l)) kz bx (0:Int)=some z:=
 KP y l hl z k0 hk kz hkz _ (λj _=>aU (by simp)) bx 0 (fp (by omega)) (Nat.zero_le _) rfl
theorem Ko (hs:ct w.fs.aa) (hl:w.fs.aa.length<=1073741824) (ez:Ez (w.fs.set x)) (hp:w.al.aO.length<=1073741824) (hk:w.al.kept.length<=1073741824):
 (aj (cQ w.al.aO) λy63=>cv (List.length y63:Int) x y63 (λz64=>
 ah (z64==(-1:Int)) (aj (bG w.fs x) λy65=>aj (dM y65 a i) λy66=>aj (bW (⟨y66,(⟨w.al.kept,y63⟩:du)⟩:aq) s) λy67=>some (y67,(0:Int))) (cx x (λz68 z69=>
 ah (decide (0<=z68/\z68<=(z69.length:Int))) (
 ah (Nat.ble ((Int.toNat z68)+(z69.length - (Int.toNat z68))) z69.length) (
 ah (decide (0<=z68/\z68<=((z69.take (Int.toNat z68)++(List.replicate (z69.length - (Int.toNat z68)) (⟨0,0,0, [],0,([] :List Entry)⟩:ao)++z69.drop ((Int.toNat z68)+(z69.length - (Int.toNat z68))))).length:Int))) (aj (bG w.fs x) λy70=>aj (dM y70 a i) λy71=>
 ah (Nat.ble (0+(Int.toNat z68)) (z69.take (Int.toNat z68)++(List.replicate (z69.length - (Int.toNat z68)) (⟨0,0,0, [],0,([] :List Entry)⟩:ao)++z69.drop ((Int.toNat z68)+(z69.length - (Int.toNat z68))))).length) (aj (bW (⟨y71,(⟨w.al.kept,(((z69.take (Int.toNat z68)++(List.replicate (z69.length - (Int.toNat z68)) (⟨0,0,0, [],0,([] :List Entry)⟩:ao)++z69.drop ((Int.toNat z68)+(z69.length - (Int.toNat z68))))).drop 0).take (Int.toNat z68))⟩:du)⟩:aq) s) λy72=>some (y72,(0:Int))) (none)) (none)) (none)) (none)) bx z64 (IntKind.i64.wrap (z64+(1:Int))) y63)) (aj (bG w.fs x) λy73=>aj (dM y73 a i) λy74=>aj (bW (⟨y74,(⟨w.al.kept,y63⟩:du)⟩:aq) s) λy75=>some (y75,(0:Int))) bx (0:Int))=some (⟨od (w.fs.set x) a i,⟨e_ s w.al.kept,dI x.ino w.al.aO⟩⟩,(0:Int)):=by
 rw[kC hp,ae];have hw:∀(g:Fs) (p:List ao),bW ⟨g,⟨w.al.kept,p⟩⟩ s=some ⟨g,⟨e_ s w.al.kept,p⟩⟩:=λg p=>kV (w:=⟨g,⟨w.al.kept,p⟩⟩) (by show w.al.kept.length<=_;omega)
 have hend:∀p:List ao,(aj (bG w.fs x) λy57=>aj (dM y57 a i) λy58=>aj (bW (⟨y58,(⟨w.al.kept,p⟩:du)⟩:aq) s) λy59=>some (y59,(0:Int)))=some (⟨od (w.fs.set x) a i,⟨e_ s w.al.kept,p⟩⟩,(0:Int)):=λp=>by
  rw[cJ hs hl,ae,mJ ez,ae,hw,ae]
 refine Kj x w.al.aO hp _ _ _ _ (λj l' h1 h2 h3=> ?_) (λe=> ?_)
 rotate_left
 ·rw[hend,e]
 ·simp only[toNat_cast,List.drop_zero]
  have h4:(l'.take j).length=j:=by simp;omega
  have h5:(l'.take j++(List.replicate (l'.length - j) (⟨0,0,0, [],0,([] :List Entry)⟩:ao)++l'.drop (j+(l'.length - j)))).length=l'.length:=by simp;omega
  have h6:(l'.take j++(List.replicate (l'.length - j) (⟨0,0,0, [],0,([] :List Entry)⟩:ao)++l'.drop (j+(l'.length - j)))).take j=l'.take j:=take_set h4;rw[aJ (by simp;omega),aJ (Nat.ble_eq_true_of_le (by omega))];simp only[h5];rw[aJ (by simp;omega),cJ hs hl,ae,mJ ez,ae,aJ (Nat.ble_eq_true_of_le (by omega)),h6,h3,hw,ae]
theorem Bg {fol:Bool} (h:RW w) (b:Wb lim n w) (hn:n<=9000) (ga:Gd w.fs fol a) (a0:a.ino=0) (hal:a.name.length<=1099511627775):pQ w s a=some (mC w s a):=by
 have ew:=ja h.tr b.bd (by omega);have h1:=b.kl;have h2:=b.bd.len;have h3:=b.pl;unfold pQ sh mC;rw[jm h.ks (by omega),ae,dq h.tr.sort (by omega),ae];cases hs:b9 s w.al.kept with
 |none=>rfl
 |some k=>
  simp only[Option.isSome_some,Option.getD_some,Bool.not_true,ax];cases hc:k.content
  ·simp only[ax,Bool.false_eq_true,if_false]
   rw[q5 hal,ae];cases hm:eP a.name
   ·rfl
   simp only[Bool.not_true,ax,if_true];obtain⟨hf,hfi⟩:=rY h.tr ew.wf ga a0 hm;have hd:ar a.dir w.fs.aa=some (aC a.dir w.fs.aa):=by have:=hf.hd;rwa[hfi] at this
   have hWo:∀(g:Fs),bW ⟨g,w.al⟩ s=some ⟨g,⟨e_ s w.al.kept,w.al.aO⟩⟩:=λg=>kV (w:=⟨g,w.al⟩) (by show w.al.kept.length<=_;omega)
   cases hx:ar k.ino w.fs.aa with
   |some x=>
    rw[aT hx];simp only[Option.isSome_some,aw,Bool.not_true,ax];by_cases hk:x.kind=2
    ·rw[aJ (by simp [hk]),if_pos hk]
    ·rw[aU (by simp [hk]),if_neg hk,mJ (h.ew b hn).ez,ae,hWo,ae]
   |none=>
    simp only[Option.isSome_none,ax,Bool.not_false,aw];rw[Bk h.tr.sort (by omega) h.ps (by omega),ae,hx];simp only;have hkm:=iD hs;obtain⟨_,_,_,y,hy,_⟩:=h.kk k hkm.1;rw[hx] at hy;have hy:=hy.resolve_left (λh=>by cases h);obtain⟨p1,p2,p3,p4,p5⟩:=h.jP hy;rw[aT hy];have hyd:=b.pd y (aQ hy).1;have hez:=IT h b hn hd hf.hk (aQ hy).1;have fin:∀x:ao,x.ino=y.ino->Ez (w.fs.set x)->(aj (cQ w.al.aO) λy63=>cv (List.length y63:Int) x y63 (λz64=>
 ah (z64==(-1:Int)) (aj (bG w.fs x) λy65=>aj (dM y65 a k.ino) λy66=>aj (bW (⟨y66,(⟨w.al.kept,y63⟩:du)⟩:aq) s) λy67=>some (y67,(0:Int))) (cx x (λz68 z69=>
 ah (decide (0<=z68/\z68<=(z69.length:Int))) (
 ah (Nat.ble ((Int.toNat z68)+(z69.length - (Int.toNat z68))) z69.length) (
 ah (decide (0<=z68/\z68<=((z69.take (Int.toNat z68)++(List.replicate (z69.length - (Int.toNat z68)) (⟨0,0,0, [],0,([] :List Entry)⟩:ao)++z69.drop ((Int.toNat z68)+(z69.length - (Int.toNat z68))))).length:Int))) (aj (bG w.fs x) λy70=>aj (dM y70 a k.ino) λy71=>
 ah (Nat.ble (0+(Int.toNat z68)) (z69.take (Int.toNat z68)++(List.replicate (z69.length - (Int.toNat z68)) (⟨0,0,0, [],0,([] :List Entry)⟩:ao)++z69.drop ((Int.toNat z68)+(z69.length - (Int.toNat z68))))).length) (aj (bW (⟨y71,(⟨w.al.kept,(((z69.take (Int.toNat z68)++(List.replicate (z69.length - (Int.toNat z68)) (⟨0,0,0, [],0,([] :List Entry)⟩:ao)++z69.drop ((Int.toNat z68)+(z69.length - (Int.toNat z68))))).drop 0).take (Int.toNat z68))⟩:du)⟩:aq) s) λy72=>some (y72,(0:Int))) (none)) (none)) (none)) (none)) bx z64 (IntKind.i64.wrap (z64+(1:Int))) y63)) (aj (bG w.fs x) λy73=>aj (dM y73 a k.ino) λy74=>aj (bW (⟨y74,(⟨w.al.kept,y63⟩:du)⟩:aq) s) λy75=>some (y75,(0:Int))) bx (0:Int))=some (⟨od (w.fs.set x) a k.ino,⟨e_ s w.al.kept,dI k.ino w.al.aO⟩⟩,(0:Int)):=λx hxy hez=>by
     rw[Ko h.tr.sort (by omega) hez (by omega) (by omega),hxy,p2]
    by_cases hk1:y.kind=1
    ·have hbt:byt y=(y.data.length:Int):=if_pos hk1
     rw[aJ (by simp [hk1]),iN ew.sm (by unfold Far;omega) (by unfold Far;omega),ae,hbt];cases hft:cy w.fs 1 (y.data.length:Int)
     ·rfl
     simp only[Bool.not_true,ax,if_true];rw[aU (by simp [hk1]),if_neg (by omega)];rw[if_neg (by omega)] at hez;exact fin y rfl hez
    ·have hbt:byt y=0:=if_neg hk1
     rw[aU (by simp [hk1]),iN ew.sm (by unfold Far;omega) (by unfold Far;omega),ae,hbt];cases hft:cy w.fs 1 0
     ·rfl
     simp only[Bool.not_true,ax,if_true];by_cases hk2:y.kind=2
     ·rw[aJ (by simp [hk2]),if_pos hk2]
      rw[if_pos hk2] at hez;exact fin (y.gB a.dir) rfl hez
     ·rw[aU (by simp [hk2]),if_neg hk2]
      rw[if_neg hk2] at hez;exact fin y rfl hez
  ·rfl
theorem Bb {fol:Bool} (h:RW w) (b:Wb lim n w) (hn:n<=9000) (ga:Gd w.fs fol a) (a0:a.ino=0) (hal:a.name.length<=1099511627775):pX w s a=some (mC w s a):=by
 have ew:=ja h.tr b.bd (by omega);have h1:=b.kl;have h2:=b.bd.len;have h3:=b.pl;unfold pX sh mC;rw[jn (by omega),ae];cases hs:b9 s w.al.kept with
 |none=>rfl
 |some k=>
  simp only[Option.isSome_some,Option.getD_some,Bool.not_true,ax];cases hc:k.content
  ·simp only[ax,Bool.false_eq_true,if_false]
   rw[cD (by omega),ae,mP hal,ae];cases hm:eP a.name
   ·rfl
   simp only[Bool.not_true,ax,if_true];obtain⟨hf,hfi⟩:=rY h.tr ew.wf ga a0 hm;have hd:ar a.dir w.fs.aa=some (aC a.dir w.fs.aa):=by have:=hf.hd;rwa[hfi] at this
   have hWo:∀(g:Fs) (p:List ao),eV ⟨g,⟨w.al.kept,p⟩⟩ s=some ⟨g,⟨e_ s w.al.kept,p⟩⟩:=λg p=>oT (w:=⟨g,⟨w.al.kept,p⟩⟩) (by show w.al.kept.length<=_;omega)
   cases hx:ar k.ino w.fs.aa with
   |some x=>
    rw[aT hx];simp only[Option.isSome_some,aw,Bool.not_true,ax];by_cases hk:x.kind=2
    ·rw[aJ (by simp [hk]),if_pos hk]
    ·rw[aU (by simp [hk]),if_neg hk,jo (h.ew b hn).ez,ae,show w.al=⟨w.al.kept,w.al.aO⟩ from rfl,hWo,ae]
     rw[(rE hf hx hk).1,(rE hf hx hk).2.1]
   |none=>
    simp only[Option.isSome_none,ax,Bool.not_false,aw];have hkm:=iD hs;obtain⟨_,_,_,y,hy,_⟩:=h.kk k hkm.1;rw[hx] at hy;have hy:=hy.resolve_left (λh=>by cases h);obtain⟨p1,p2,p3,p4,p5⟩:=h.jP hy;have hyd:=b.pd y (aQ hy).1;have hez:=IT h b hn hd hf.hk (aQ hy).1;have hpg:bI (⟨0,0,0,w.al.aO⟩:Fs) k.ino=some (aC k.ino w.al.aO,(ar k.ino w.al.aO).isSome):=cD (f:=⟨0,0,0,w.al.aO⟩) (by show w.al.aO.length<=_;omega);have hpd:iG (⟨0,0,0,w.al.aO⟩:Fs) k.ino=some ⟨0,0,0,dI k.ino w.al.aO⟩:=ou (f:=⟨0,0,0,w.al.aO⟩) (by show w.al.aO.length<=_;omega);have hP:∀g:Fs,eK ⟨g,w.al⟩=some ⟨0,0,0,w.al.aO⟩:=λ_=>rfl
    have hP0:eK w=some ⟨0,0,0,w.al.aO⟩:=rfl;have hnn:=vT (a:=a) (y:=y) hf hfi h.tr.sort (by rw[p2];exact p5) p1.1 p1.2.1;rw[<-hnn.1,p2] at hnn;have hnr:=hnn.2;rw[hP0,ae,hpg,ae,aT hy];simp only;by_cases hk1:y.kind=1
    ·have hbt:byt y=(y.data.length:Int):=if_pos hk1
     rw[aJ (by simp [hk1]),fW ew.sm (by unfold Far;omega) (by unfold Far;omega),ae,hbt];cases hft:cy w.fs 1 (y.data.length:Int)
     ·rfl
     simp only[Bool.not_true,ax,if_true];rw[if_neg (by omega)] at hez hnr;rw[aU (by simp [hk1]),if_neg (by omega),cf (by omega),ae,hP,ae,hpd,ae,jo hez,ae,hWo,ae,hnr]
    ·have hbt:byt y=0:=if_neg hk1
     rw[aU (by simp [hk1]),fW ew.sm (by unfold Far;omega) (by unfold Far;omega),ae,hbt];cases hft:cy w.fs 1 0
     ·rfl
     simp only[Bool.not_true,ax,if_true];by_cases hk2:y.kind=2
     ·rw[if_pos hk2] at hez hnr
      have e1:(⟨y.ino,y.kind,y.aH,y.data,a.dir,y.entries⟩:ao)=y.gB a.dir:=rfl;rw[aJ (by simp [hk2]),if_pos hk2,e1,cf (by omega),ae,hP,ae,hpd,ae,jo hez,ae,hWo,ae,hnr]
     ·rw[if_neg hk2] at hez hnr
      rw[aU (by simp [hk2]),if_neg hk2,cf (by omega),ae,hP,ae,hpd,ae,jo hez,ae,hWo,ae,hnr]
  ·rfl
end
structure InW (w:aq):Prop where
 fs:InF w.fs
 aO:InF ⟨0,0,0,w.al.aO⟩
 kl:w.al.kept.length<=1073741824
def Gk (w:aq):Bool:=(w.al.kept.take 100).all (λk=>decide (k.data.length<=5000))&&(oJ w.fs&&(oJ ⟨0,0,0,w.al.aO⟩&&decide (w.al.kept.length<=40)))
theorem C2 {w:aq} (h:InW w):se w=some (Gk w):=by
 unfold se;have hK:(aj (jM w.fs) λy6=>ah y6 (aj (eK w) λy7=>aj (jM y7) λy8=>ah y8 (some (decide ((List.length w.al.kept:Int)<=(40:Int)))) (some false)) (some false))=some (oJ w.fs&&(oJ ⟨0,0,0,w.al.aO⟩&&decide (w.al.kept.length<=40))):=by
  rw[qc h.fs.len h.fs.dD,ae];cases oJ w.fs
  ·rfl
  rw[aw];show aj (some (⟨0,0,0,w.al.aO⟩:Fs)) _=_;rw[ae,qc h.aO.len h.aO.dD,ae];cases oJ ⟨0,0,0,w.al.aO⟩
  ·rfl
  have e:decide ((w.al.kept.length:Int)<=(40:Int))=decide (w.al.kept.length<=40):=by rw[decide_eq_decide];omega
  rw[e];rfl
 rw[hK];have hl:=h.kl;refine(bE (l:=w.al.kept.take 100) (λn i (s:Unit)=>iR w (some false) (some (oJ w.fs&&(oJ ⟨0,0,0,w.al.aO⟩&&decide (w.al.kept.length<=40)))) n i) (λ_ (x:Kept) s K=>if decide (x.data.length<=5000) then K s else some false) (λ_=>some (oJ w.fs&&(oJ ⟨0,0,0,w.al.aO⟩&&decide (w.al.kept.length<=40)))) (by simp;omega) (λn k x s hk hx=> ?_) (λn s=> ?_) ()).trans ?_
 ·have hk':k<w.al.kept.length/\k<100:=by simp at hk;omega
  have hx':w.al.kept[k]? =some x:=by rw[List.getElem?_take_of_lt hk'.2] at hx;exact hx
  simp only[iR];have h100:decide ((k:Int)<(100:Int))=true:=by simp;omega
  rw[dec_lt hk'.1,h100,bu,toNat_cast,hx',aP (by omega)];simp only[aw,ae,aV,if_true];by_cases h1:x.data.length<=5000
  ·have h1':¬(5000:Int)<(x.data.length:Int):=by omega
   simp [h1,h1']
  ·have h1':(5000:Int)<(x.data.length:Int):=by omega
   simp [h1,h1']
 ·simp only[iR]
  by_cases h:w.al.kept.length<=100
  ·have e:(w.al.kept.take 100).length=w.al.kept.length:=by simp;omega
   rw[e,bF (Nat.le_refl _)];rfl
  ·have e:(w.al.kept.take 100).length=100:=by simp;omega
   rw[e];have h1:decide (((100:Nat):Int)<(w.al.kept.length:Int))=true:=by simp;omega
   rw[h1];rfl
 ·rw[gq]
  unfold Gk;cases h9:(w.al.kept.take 100).all (λk=>decide (k.data.length<=5000))
  ·rfl
  ·rfl
theorem IQ {w:aq} (h:Gk w=true):oJ w.fs=true/\oJ ⟨0,0,0,w.al.aO⟩=true/\w.al.kept.length<=40/\∀k∈w.al.kept,k.data.length<=5000:=by
 unfold Gk at h;simp only[Bool.and_eq_true,decide_eq_true_eq] at h;obtain⟨h1,h2,h3,h4⟩:=h;rw[List.take_of_length_le (by omega),List.all_eq_true] at h1;exact⟨h2,h3,h4,λk hk=>by simpa using h1 k hk⟩
def A3 (x:ao):Bool:= !decide (x.kind=3)|| !(x.data.any λb=>b==0)
def Ds (w:aq) (i:Int):Bool:=w.al.kept.any λk=>decide (k.ino=i)&& !k.content
def nX (w:aq) (x:ao):Bool:=
 !(ar x.ino w.fs.aa).isSome&&(decide (1<=x.ino)&&(decide (x.ino<w.fs.next)&&(decide (x.aH=0)&&(decide (x.parent=0)&&(decide (x.entries.length=0)&&(decide (1<=x.kind)&&(decide (x.kind<=3)&&(decide (x.kind=2->x.data= [])&&(decide (x.kind=3->1<=x.data.length)&&(decide (x.kind=3->x.data.length<=4095)&&(A3 x&&Ds w x.ino)))))))))))
theorem rG {α β R:Type} (f:β->α->β) (E:β->Option R):∀(l:List α) (k:Nat) (s:β),dh (λ_ x s K=>K (f s x)) E k l s=E (l.foldl f s)
 | [],_,_=>rfl
 |x::l,k,s=>by
  simp only[dh,List.foldl_cons];exact rG f E l (k+1) (f s x)
theorem DS {α:Type} (p:α->Bool):∀(l:List α) (b:Bool),l.foldl (λs x=>s||p x) b=(b||l.any p)
 | [],b=>by simp
 |x::l,b=>by rw[List.foldl_cons,DS p l,List.any_cons,Bool.or_assoc]
theorem ui {R:Type} {x:ao} {kr k0:Option R} (hl:x.data.length<=1073741824):cY x kr k0 bx (0:Int)=if A3 x=true then k0 else kr:=by
 by_cases hk:x.kind=3
 ·refine(bE (l:=x.data) (λm i (_:Unit)=>cY x kr k0 m i) (λ_ (b:UInt8) s K=>if (b==0)=true then kr else K s) (λ_=>k0) (by omega) (λm k b u hkk hx=> ?_) (λm u=> ?_) ()).trans ?_
  ·simp only[cY]
   rw[dec_lt hkk,bu,toNat_cast,hx,aP (by omega),aw,aJ (by simp [hk]),aw,ae,aV];have:((UInt8.toNat b:Int)==(0:Int))=(b==0):=jO b 0 (by omega);rw[this]
  ·simp only[cY]
   rw[bF (Nat.le_refl _)];rfl
  ·refine(jq (λb:UInt8=>b==0) (λ_ _=>kr) k0 kr (λ_ _=>rfl) _ _ _).trans ?_
   unfold A3;rw[decide_eq_true hk];cases x.data.any (λb=>b==0)<;>rfl
 ·have hs:A3 x=true:=by unfold A3;rw[decide_eq_false hk];rfl
  rw[hs,if_pos rfl];refine(bE (l:=([] :List Nat)) (λm i (_:Unit)=>cY x kr k0 m i) (λ_ _ s K=>K s) (λ_=>k0) (by simp) (λm k b u hkk hx=>by simp at hkk) (λm u=> ?_) ()).trans rfl;simp only[cY];rw[aV,aU (by simp [hk])];split<;>rfl
theorem sG {R:Type} {w:aq} {x:ao} {k2:Bool->Option R} (hl:w.al.kept.length<=1073741824):cF w x k2 bx false (0:Int)=k2 (Ds w x.ino):=by
 refine(bE (l:=w.al.kept) (λm i (s:Bool)=>cF w x k2 m s i) (λ_ (k:Kept) s K=>K (s||(decide (k.ino=x.ino)&& !k.content))) k2 (by omega) (λm k y s hkk hx=> ?_) (λm s=> ?_) false).trans ?_
 ·simp only[cF]
  rw[dec_lt hkk,bu,toNat_cast,hx,aP (by omega)];simp only[aw,ae,aV,eh];cases s
  ·by_cases h:y.ino=x.ino
   ·simp [h]
   ·simp [h]
  ·simp
 ·simp only[cF]
  rw[bF (Nat.le_refl _)];rfl
 ·rw[rG (λs (k:Kept)=>s||(decide (k.ino=x.ino)&& !k.content)),DS,Bool.false_or];rfl
theorem xL {w:aq} {x:ao} (h1:w.fs.aa.length<=1073741824) (h2:w.al.kept.length<=1073741824) (h3:x.data.length<=1073741824):mH w x=some (nX w x):=by
 have e7:∀{R:Type} {kr k0:Option R},cY x kr k0 bx (0:Int)=if A3 x=true then k0 else kr:=ui h3
 have e13:∀{R:Type} {k2:Bool->Option R},cF w x k2 bx false (0:Int)=k2 (Ds w x.ino):=sG h2;unfold mH sh nX;rw[cD h1,ae];simp only[e13];simp only[e7];cases (ar x.ino w.fs.aa).isSome
 ·by_cases c1:1<=x.ino
  ·rw[ax,aU (by simp;omega),decide_eq_true c1]
   by_cases c2:x.ino<w.fs.next
   ·rw[aU (by simp;omega),decide_eq_true c2]
    by_cases c3:x.aH=0
    ·rw[aU (by simp [c3]),decide_eq_true c3]
     by_cases c4:x.parent=0
     ·rw[aU (by simp [c4]),decide_eq_true c4]
      by_cases c5:x.entries.length=0
      ·rw[aU (by simp [c5]),decide_eq_true c5]
       by_cases c6:1<=x.kind
       ·rw[aU (by simp;omega),decide_eq_true c6]
        by_cases c7:x.kind<=3
        ·rw[aU (by simp;omega),decide_eq_true c7]
         by_cases c8:x.kind=2
         ·have c9:¬x.kind=3:=by omega
          rw[aJ (by simp [c8]),aU (b:=(x.kind==(3:Int))) (by simp [c9])];by_cases d1:x.data= []
          ·rw[aU (by simp [d1]),decide_eq_true (λ_=>d1),decide_eq_true (λh=>absurd h c9),decide_eq_true (λh=>absurd h c9)]
           cases A3 x<;>simp
          ·rw[aJ (by simp [d1]),decide_eq_false (λh=>d1 (h c8))]
           simp
         ·rw[aU (b:=(x.kind==(2:Int))) (by simp [c8]),decide_eq_true (λh=>absurd h c8)]
          by_cases c9:x.kind=3
          ·rw[aJ (by simp [c9])]
           by_cases d1:1<=x.data.length
           ·rw[aU (by simp;omega),decide_eq_true (λ_=>d1)]
            by_cases d2:x.data.length<=4095
            ·rw[aU (by simp;omega),decide_eq_true (λ_=>d2)]
             cases A3 x<;>simp
            ·rw[aJ (by simp;omega),decide_eq_false (λh=>d2 (h c9))]
             simp
           ·rw[aJ (by simp;omega),decide_eq_false (λh=>d1 (h c9))]
            simp
          ·rw[aU (by simp [c9]),decide_eq_true (λh=>absurd h c9),decide_eq_true (λh=>absurd h c9)]
           cases A3 x<;>simp
        ·rw[aJ (by simp;omega),decide_eq_false c7];simp
       ·rw[aJ (by simp;omega),decide_eq_false c6];simp
      ·rw[aJ (by simp [c5]),decide_eq_false c5];simp
     ·rw[aJ (by simp [c4]),decide_eq_false c4];simp
    ·rw[aJ (by simp [c3]),decide_eq_false c3];simp
   ·rw[aJ (by simp;omega),decide_eq_false c2];simp
  ·rw[ax,aJ (by simp;omega),decide_eq_false c1];simp
 ·rfl
def sT (w:aq) (i:Int):ao:=match ar i w.al.aO with|some y=>y|none=>aC i w.fs.aa
def wY (w:aq) (last:Int) (k:Kept):Bool:=
 decide (last<k.slot)&&(decide (k.slot<=1073741824)&&(((ar k.ino w.fs.aa).isSome||(ar k.ino w.al.aO).isSome)&&(if k.content then decide ((sT w k.ino).kind=1) else decide (k.data= []))))
def pq (w:aq):Int->List Kept->Bool
 |_, [] =>true
 |last,k::l=>wY w last k&&pq w k.slot l
def yN (w:aq):Bool:=decide (qW w.fs=0)&&(iE w.al.aO&&(w.al.aO.all (nX w)&&pq w 0 w.al.kept))
theorem zR {R:Type} {w:aq} (kr k0:Option R):∀(l:List Kept) (j:Nat) (last:Int),dh (λ_ (k:Kept) (s:Int) K=>if wY w s k then K k.slot else kr) (λ_=>k0) j l last=if pq w last l=true then k0 else kr
 | [],_,_=>rfl
 |k::l,j,last=>by
  rw[show pq w last (k::l)=(wY w last k&&pq w k.slot l) from rfl];simp only[dh];by_cases h:wY w last k=true
  ·rw[if_pos h,h,Bool.true_and]
   exact zR kr k0 l (j+1) k.slot
  ·rw[if_neg h,Bool.eq_false_iff.2 h];rfl
theorem AN {w:aq} (sm:SmF w.fs) (ht:(dT w.fs.aa).length<=536870912) (h1:w.al.kept.length<=1073741824) (h2:w.al.aO.length<=1073741824) (h3:∀x∈w.al.aO,x.data.length<=1073741824):nR w=some (yN w):=by
 unfold nR yN;rw[nf sm ht,ae,dS];by_cases c1:qW w.fs=0
 ·rw[aU (by simp [c1]),decide_eq_true c1]
  show aj (some (⟨0,0,0,w.al.aO⟩:Fs)) _=_;rw[ae,tf (f:=⟨0,0,0,w.al.aO⟩) h2,ae];show ah (!iE w.al.aO) _ _=_;cases iE w.al.aO
  ·rfl
  simp only[Bool.not_true,ax,Bool.true_and];have e10:eH w (some false) (some true) bx (0:Int) (0:Int)=some (pq w 0 w.al.kept):=by
   refine(bE (l:=w.al.kept) (λm i (s:Int)=>eH w (some false) (some true) m s i) (λ_ (k:Kept) s K=>if wY w s k then K k.slot else some false) (λ_=>some true) (by omega) (λm k y s hkk hx=> ?_) (λm s=> ?_) 0).trans ?_
   ·simp only[eH,sh]
    have hpg:bI (⟨0,0,0,w.al.aO⟩:Fs) y.ino=some (aC y.ino w.al.aO,(ar y.ino w.al.aO).isSome):=cD (f:=⟨0,0,0,w.al.aO⟩) h2;have hP0:eK w=some ⟨0,0,0,w.al.aO⟩:=rfl;rw[dec_lt hkk,bu,toNat_cast,hx,aP (by omega),aw,aw,ae,cD sm.len,ae,hP0,ae,hpg,ae];simp only[dS,oo];unfold wY;by_cases d1:s<y.slot
    ·rw[aU (by simp;omega),decide_eq_true d1]
     by_cases d2:y.slot<=1073741824
     ·rw[aU (by simp;omega),decide_eq_true d2]
      cases hp:ar y.ino w.al.aO with
      |none=>
       have hki:sT w y.ino=aC y.ino w.fs.aa:=by unfold sT;rw[hp]
       rw[hki];cases hf:ar y.ino w.fs.aa with
       |none=>rfl
       |some x=>
        rw[aT hf];cases y.content
        ·by_cases g:y.data= [] <;>simp [g]
        ·by_cases g:x.kind=1<;>simp [g]
      |some x=>
       have hki:sT w y.ino=x:=by unfold sT;rw[hp]
       rw[hki,aT hp];cases hf:ar y.ino w.fs.aa with
       |none=>
        cases y.content
        ·by_cases g:y.data= [] <;>simp [g]
        ·by_cases g:x.kind=1<;>simp [g]
       |some z=>
        cases y.content
        ·by_cases g:y.data= [] <;>simp [g]
        ·by_cases g:x.kind=1<;>simp [g]
     ·rw[aJ (by simp;omega),decide_eq_false d2];simp
    ·rw[aJ (by simp;omega),decide_eq_false d1];simp
   ·simp only[eH,sh]
    rw[bF (Nat.le_refl _)];rfl
   ·rw[zR]
    cases pq w 0 w.al.kept<;>rfl
  rw[e10];refine(bE (l:=w.al.aO) (λm i (_:Unit)=>f_ w (some false) (some (pq w 0 w.al.kept)) m i) (λ_ (x:ao) s K=>if nX w x then K s else some false) (λ_=>some (pq w 0 w.al.kept)) (by omega) (λm k x u hkk hx=> ?_) (λm u=> ?_) ()).trans ?_
  ·simp only[f_]
   rw[dec_lt hkk,bu,toNat_cast,hx,aP (by omega),aw,aw,ae,xL sm.len h1 (h3 x (List.mem_of_getElem? hx)),ae];cases nX w x<;>rfl
  ·simp only[f_]
   rw[bF (Nat.le_refl _)];rfl
  ·rw[gq]
   cases w.al.aO.all (nX w)<;>rfl
 ·rw[aJ (by simp [c1]),decide_eq_false c1];rfl
section
variable {lim:Int} {w:aq}
theorem xn {x:ao}:nX w x=true↔zn x/\1<=x.ino/\x.ino<w.fs.next/\ar x.ino w.fs.aa=none/\∃k∈w.al.kept,k.ino=x.ino/\k.content=false:=by
 unfold nX zn A3 Ds;simp only[Bool.and_eq_true,Bool.or_eq_true,Bool.not_eq_true',decide_eq_true_eq,decide_eq_false_iff_not,List.any_eq_true,Option.isSome_eq_false_iff,Option.isNone_iff_eq_none,List.length_eq_zero_iff];constructor
 ·rintro⟨h1,h2,h3,h4,h5,h6,h7,h8,h9,h10,h11,h12,h13⟩
  refine⟨⟨h4,h5,h6, ?_⟩,h2,h3,h1,h13⟩;by_cases k1:x.kind=1
  ·exact Or.inl k1
  by_cases k2:x.kind=2
  ·exact Or.inr (Or.inl ⟨k2,h9 k2⟩)
  have k3:x.kind=3:=by omega
  exact Or.inr (Or.inr ⟨k3,h10 k3,h11 k3,h12.resolve_left (λh=>h k3)⟩)
 ·rintro⟨⟨h4,h5,h6,h7⟩,h2,h3,h1,h13⟩
  refine⟨h1,h2,h3,h4,h5,h6, ?_⟩;rcases h7 with k1|⟨k2,k3⟩ |⟨k2,k3,k4,k5⟩
  ·exact⟨by omega,by omega,λh=>by omega,λh=>by omega,λh=>by omega,Or.inl (by omega),h13⟩
  ·exact⟨by omega,by omega,λ_=>k3,λh=>by omega,λh=>by omega,Or.inl (by omega),h13⟩
  ·exact⟨by omega,by omega,λh=>by omega,λ_=>k3,λ_=>k4,Or.inr k5,h13⟩
theorem J6 {last:Int} {l:List Kept} (h:pq w last l=true):qD l/\(∀k∈l,last<k.slot)/\∀k∈l,k.slot<=1073741824/\((ar k.ino w.fs.aa).isSome||(ar k.ino w.al.aO).isSome)=true/\(if k.content then decide ((sT w k.ino).kind=1) else decide (k.data= []))=true:=by
 induction l generalizing last with
 |nil=>exact⟨List.Pairwise.nil,by simp,by simp⟩
 |cons k l ih=>
  rw[pq,Bool.and_eq_true] at h;obtain⟨h1,h2⟩:=h;unfold wY at h1;simp only[Bool.and_eq_true,decide_eq_true_eq] at h1;obtain⟨a1,a2,a3⟩:=h1;obtain⟨i1,i2,i3⟩:=ih h2;refine⟨List.Pairwise.cons (λb hb=> ?_) i1,λb hb=> ?_,λb hb=> ?_⟩
  ·have:=i2 b hb;simpa [ltI] using this
  ·rcases List.mem_cons.1 hb with rfl|hb
   ·exact a1
   ·have:=i2 b hb;omega
  ·rcases List.mem_cons.1 hb with rfl|hb
   ·exact⟨a2,a3⟩
   ·exact i3 b hb
theorem Lv {last:Int} {l:List Kept} (hs:qD l) (h0:∀k∈l,last<k.slot) (h:∀k∈l,k.slot<=1073741824/\((ar k.ino w.fs.aa).isSome||(ar k.ino w.al.aO).isSome)=true/\(if k.content then decide ((sT w k.ino).kind=1) else decide (k.data= []))=true):pq w last l=true:=by
 induction l generalizing last with
 |nil=>rfl
 |cons k l ih=>
  have hs':=List.pairwise_cons.1 hs;rw[pq,Bool.and_eq_true];have hk:=h k (by simp);refine⟨?_,ih hs'.2 (λb hb=> ?_) (λb hb=>h b (by simp [hb]))⟩
  ·unfold wY
   rw[decide_eq_true (h0 k (by simp)),decide_eq_true hk.1,hk.2.1,hk.2.2];rfl
  ·have:=hs'.1 b hb;simpa [ltI] using this
theorem tT:yN w=true↔RW w:=by
 unfold yN;simp only[Bool.and_eq_true,decide_eq_true_eq,List.all_eq_true,sn];constructor
 ·rintro⟨h1,h2,h3,h4⟩
  have ht:=(Ip _).1 ((yW _).1 h1);have hp:∀x∈w.al.aO,zn x/\1<=x.ino/\x.ino<w.fs.next/\ar x.ino w.fs.aa=none/\∃k∈w.al.kept,k.ino=x.ino/\k.content=false:=λx hx=>xn.1 (h3 x hx)
  obtain⟨k1,k2,k3⟩:=J6 h4;refine⟨ht,h2,hp,k1,λk hk=> ?_⟩;have a0:=k2 k hk;obtain⟨a1,a2,a3⟩:=k3 k hk;refine⟨by omega,a1,λhc=> ?_, ?_⟩
  ·rw[hc] at a3;simpa using a3
  ·cases hpf:ar k.ino w.al.aO with
   |some y=>
    refine⟨y,Or.inr rfl,λhc=> ?_⟩;rw[hc,if_pos rfl] at a3;unfold sT at a3;rw[hpf] at a3;simpa using a3
   |none=>
    cases hff:ar k.ino w.fs.aa with
    |none=>rw[hpf,hff] at a2;cases a2
    |some x=>
     refine⟨x,Or.inl rfl,λhc=> ?_⟩;rw[hc,if_pos rfl] at a3;unfold sT at a3;rw[hpf] at a3;simp only at a3;rw[aT hff] at a3;simpa using a3
 ·intro h
  refine⟨h.tr.check,h.ps,λx hx=>xn.2 (h.pk x hx),Lv h.ks (λk hk=> ?_) (λk hk=> ?_)⟩
  ·have:=(h.kk k hk).1;omega
  ·obtain⟨a1,a2,a3,x,a4,a5⟩:=h.kk k hk
   refine⟨a2, ?_, ?_⟩
   ·rcases a4 with a4|a4<;>rw[a4]<;>simp
   ·cases hc:k.content
    ·simp [a3 hc]
    ·simp only[if_true,decide_eq_true_eq]
     unfold sT;rcases a4 with a4|a4
     ·rw[h.m6 a4]
      simp only;rw[aT a4];exact a5 hc
     ·rw[a4];exact a5 hc
theorem H9 (h:Gk w=true) (hn:w.fs.next<=lim):Wb lim 40 w:=by
 obtain⟨h1,h2,h3,h4⟩:=IQ h;obtain⟨f1,f2⟩:=rX h1;obtain⟨p1,p2⟩:=rX h2;exact⟨⟨f1,λx hx=>(f2 x hx).2.1,λx hx=>by have:=(f2 x hx).1;omega⟩,by omega,h3,p1,λk hk=>by have:=h4 k hk;omega,λx hx=>by have:=(p2 x hx).1;omega⟩
def okW (w:aq):Bool:=Gk w&&yN w
theorem Fg (h:InW w):rF w=some (okW w):=by
 unfold rF okW;rw[C2 h,ae];cases hf:Gk w
 ·rfl
 obtain⟨h1,h2,h3,h4⟩:=IQ hf;obtain⟨p1,p2⟩:=rX h2;rw[aw,AN (SmF.Gi h1) (by have:=I5 h1;omega) h.kl h.aO.len (λx hx=>by have:=(p2 x hx).1;omega),ae];rfl
theorem Wb.inw {n:Nat} (h:RW w) (b:Wb lim n w) (hn:n<=9000):InW w:=
 ⟨b.bd.inf (by omega),⟨by have:=b.pl;show w.al.aO.length<=_;omega,λx hx=>by
  have:=(h.pk x hx).1.2.2.1;rw[this];simp⟩,by have:=b.kl;omega⟩
theorem InW.same (h:InW w) (v:aq):dG w v=some (decide (w=v)):=A0 h.fs.len h.fs.dD h.aO.len h.aO.dD h.kl
end
section
variable {lim:Int} {w:aq} {f:Fs} {d x:ao} {nm:Str} {e:Entry} {n:Nat} {s i:Int} {a:au}
theorem Nj {fol:Bool} (hw:WF f) (ga:Gd f fol a) (an:a.name≠ []) (h:ar a.ino f.aa=none):a.ino=0:=by
 rcases ga with⟨h1,_⟩ |⟨_,d,hd,hk,hi,_⟩
 ·exact absurd h1 an
 ·by_cases h0:cm a.name d.entries=0
  ·rw[hi,h0]
  ·obtain⟨e,_,h2,h3,h4⟩:=sx h0
   have:=hw.there d (aQ hd).1 e h2;rw[h4,<-hi,h] at this;cases this
theorem sU {fol:Bool} (h:RW w) (b:Wb lim n w) (hn:n<=9000) (ga:Gd w.fs fol a) (an:a.name≠ []) (hx:ar a.ino w.fs.aa=some x) (hx0:x.entries= []):
 ni w s a=some (n8 w s a)/\nw w s a=some (n8 w s a):=by
 obtain⟨e,t,t2⟩:=taken h.tr b.bd hn ga an hx hx0;refine⟨yQ h b hn hx t.tr.sort (by have:=t.bd.len;omega) ?_,y_ h b hn t2⟩;rw[t.eq,<-t.Tf,cZ (t.ent.ne h.tr),if_pos rfl];by_cases hl:x.aH=1
 ·rw[if_pos hl,decide_eq_true hl];rfl
 ·rw[if_neg hl,decide_eq_false hl];rfl
end
section
variable {w:aq} {f:Fs} {p d:Str} {o:Opn} {k:Int} {n:Nat} {a:au} {x:ao}
theorem Mz (hw:WF f) (h0:(atP f p).2=0):(ar (atP f p).1.ino f.aa).isSome= !decide ((atP f p).1.ino=0):=by
 by_cases hz:(atP f p).1.ino=0
 ·rw[hz,hw.zero];rfl
 ·rw[decide_eq_false hz]
  by_cases hn:(atP f p).1.name= []
  ·have hpl:(bZ p).2=true:=by
    unfold atP at h0;cases h:(bZ p).2
    ·rw[h] at h0;simp at h0
    ·rfl
   have hat:atP f p=cq f.aa (bZ p).1 dt:=by unfold atP;rw[if_pos hpl]
   have hgo:cq f.aa (bZ p).1 dt=((atP f p).1,0):=by rw[<-hat,<-h0]
   rcases uO hgo with⟨_,h4⟩ |⟨d,m,ns',h3,h4,h5,h6,h7,h8⟩
   ·rw[h4];exact hw.root
   ·rw[h7] at hn
    have:=(jG hpl).2.1 m (by rw[h3];simp);exact absurd hn (rZ this).1
  ·cases hf:ar (atP f p).1.ino f.aa with
   |some x=>rfl
   |none=>exact absurd (Nj hw (GB hw h0 hn).1 hn hf) hz
theorem yA (hw:WF f) (h0:(atP f p).2=0):(atP f p).1.name.length<=255:=by
 by_cases hn:(atP f p).1.name= []
 ·rw[hn];simp
 ·exact Eu (GB hw h0 hn).2.1
theorem mI (hw:WF f) (hp:p.length<=8388608):kO f p=some ((atP f p).1,cN f p):=by
 unfold kO cN;rw[wX hw hp,ae,dS,dS];by_cases h1:(atP f p).2=0
 ·by_cases h2:(atP f p).1.ino=0<;>simp [h1,h2]
 ·simp [h1]
theorem hO (hw:WF f) (hp:p.length<=8388608):gM f p=some ((atP f p).1,cO f p,bM f p):=by
 unfold gM bM cO;rw[wX hw hp,ae,hw.get,ae,dS];by_cases h1:(atP f p).2=0
 ·cases h2:ar (atP f p).1.ino f.aa<;>simp [h1]
 ·simp [h1]
theorem is0 (hw:WF f) (hp:p.length<=8388608):iB f p 0=some ((atP f p).1,cO f p,cN f p):=by
 unfold iB cN cO;rw[rl hw hp,ae,hw.vZ,ae,eh];by_cases h1:(atP f p).2=0
 ·rw[Mz hw h1]
  by_cases h2:(atP f p).1.ino=0<;>simp [h1,h2]
 ·simp [h1]
theorem is1 (hw:WF f) (hp:p.length<=8388608):iB f p 1=some ((atP f p).1,cO f p,bM f p):=by
 unfold iB bM cO;rw[rl hw hp,ae,hw.vZ,ae,eh];by_cases h1:(atP f p).2=0
 ·cases h2:ar (atP f p).1.ino f.aa<;>simp [h1]
 ·simp [h1]
theorem qu (hw:WF f) (hp:p.length<=8388608):m7 f p=some (cO f p,gD f p):=by
 unfold m7 gD;rw[hO hw hp,ae,dS,eh,dS];by_cases h1:bM f p=0
 ·by_cases h2:(cO f p).kind=2
  ·simp [h1,h2]
  ·by_cases h3:(cO f p).kind=1<;>simp [h1,h2,h3]
 ·simp [h1]
theorem ox (hw:WF f) (ht:Tree f) (hp:p.length<=8388608):kW f p=some (cO f p,gD f p):=by
 unfold kW gD;rw[is1 hw hp,ae,eh,eh,eh];by_cases h1:bM f p=0
 ·obtain⟨_,x,h2,h3⟩:=gO h1
  rw[h3];have hk:=(ht.eN h2).1;by_cases k1:x.kind=1
  ·simp [h1,k1]
  ·by_cases k2:x.kind=2
   ·simp [h1,k2]
   ·by_cases k3:x.kind=3
    ·simp [h1,k3]
    ·rw[IV k1 k2 k3] at hk;cases hk
 ·simp [h1]
theorem pM (z:Ez w.fs) (hp:p.length<=8388608) (hd:d.length<=1073741824):m8 w p k d=some (nQ w p k d):=by
 unfold m8 nQ;rw[mI z.ws.wf hp,ae,dS];by_cases h1:cN w.fs p=0
 ·rw[aU (by simp [h1]),if_pos h1,(z.new (yA z.ws.wf (jr h1).1) hd).1,ae]
 ·rw[aJ (by simp [h1]),if_neg h1]
theorem oI (z:Ez w.fs) (hp:p.length<=8388608) (hd:d.length<=1073741824):k_ w p k d=some (nQ w p k d):=by
 unfold k_ nQ;rw[is0 z.ws.wf hp,ae,dS];by_cases h1:cN w.fs p=0
 ·rw[aU (by simp [h1]),if_pos h1,(z.new (yA z.ws.wf (jr h1).1) hd).2,ae]
 ·rw[aJ (by simp [h1]),if_neg h1]
variable (h:RW w) (b:Wb 549755813888 n w) (hn:n<=8990)
include h b hn
theorem yj (p:Str):(cO w.fs p).data.length<=1073741824:=by
 have:=(b.bd.get (atP w.fs p).1.ino).2;unfold cO;omega
theorem Ax (ha:o.a.length<=8388608) (hb:o.b.length<=8388608):oh w o=some (xC w o):=by
 have z:=(h.ew b (by omega)).ez;unfold oh xC;rw[qu z.ws.wf ha,ae,dS];by_cases h1:gD w.fs o.a=0
 ·rw[aU (by simp [h1]),if_pos h1,pM z hb (yj h b hn _),ae]
 ·rw[aJ (by simp [h1]),if_neg h1]
theorem Cp {i s:Int} (hx:ar i w.fs.aa=some x):wB w s i=match b9 s w.al.kept with|some _=>(w,13) |none=>(pr w s x,0):=by
 unfold wB pr;rw[aT hx,(aQ hx).2];cases b9 s w.al.kept<;>rfl
theorem xM (ha:o.a.length<=8388608) (hb:o.b.length<=8388608):mU w o=some (qt w o):=by
 have z:=(h.ew b (by omega)).ez;unfold mU qt;rw[qu z.ws.wf ha,ae,dS];by_cases h1:gD w.fs o.a=0
 ·rw[aU (by simp [h1]),if_pos h1,qu z.ws.wf hb,ae,dS,eh]
  by_cases h2:gD w.fs o.b=0
  ·rw[aU (by simp [h2]),if_pos h2]
   by_cases h3:(cO w.fs o.a).ino=(cO w.fs o.b).ino
   ·rw[aJ (by simp [h3]),if_pos h3]
   ·obtain⟨_,y,hy,hyi,hyk⟩:=yB h2
    have hyy:ar (cO w.fs o.b).ino w.fs.aa=some y:=by rw[hyi,(aQ hy).2];exact hy
    rw[aU (by simp [h3]),if_neg h3,uX h b (by omega),ae,Cp h b hn hyy,dS];cases hs:b9 o.slot w.al.kept with
    |some k=>rfl
    |none=>
     rw[aU (by simp)];show aj (rL w.fs _ _) _=_;rw[Ff z.ws.wf (yj h b hn _),ae,dS];by_cases h4:(sS w.fs (cO w.fs o.b).ino (cO w.fs o.a).data).2=0
     ·rw[aU (by simp [h4])]
      simp only;rw[if_pos h4,<-hyi]
     ·rw[aJ (by simp [h4])]
      simp only;rw[if_neg h4]
  ·rw[aJ (by simp [h2]),if_neg h2]
 ·rw[aJ (by simp [h1]),if_neg h1]
theorem wj (ha:o.a.length<=8388608) (hb:o.b.length<=8388608):lC w o=some (qt w o):=by
 have z:=(h.ew b (by omega)).ez;unfold lC qt;rw[ox z.ws.wf h.tr ha,ae,dS];by_cases h1:gD w.fs o.a=0
 ·rw[aU (by simp [h1]),if_pos h1,ox z.ws.wf h.tr hb,ae,dS,eh]
  by_cases h2:gD w.fs o.b=0
  ·rw[aU (by simp [h2]),if_pos h2]
   by_cases h3:(cO w.fs o.a).ino=(cO w.fs o.b).ino
   ·rw[aJ (by simp [h3]),if_pos h3]
   ·obtain⟨_,y,hy,hyi,hyk⟩:=yB h2
    have hyy:ar (cO w.fs o.b).ino w.fs.aa=some y:=by rw[hyi,(aQ hy).2];exact hy
    rw[aU (by simp [h3]),if_neg h3,uw h b (by omega),ae,Cp h b hn hyy,dS];cases hs:b9 o.slot w.al.kept with
    |some k=>rfl
    |none=>
     rw[aU (by simp)];show aj (pe w.fs _ _) _=_;rw[CZ z.ws.wf (yj h b hn _),ae,dS];by_cases h4:(sS w.fs (cO w.fs o.b).ino (cO w.fs o.a).data).2=0
     ·rw[aU (by simp [h4])]
      simp only;rw[if_pos h4,<-hyi]
     ·rw[aJ (by simp [h4])]
      simp only;rw[if_neg h4]
  ·rw[aJ (by simp [h2]),if_neg h2]
 ·rw[aJ (by simp [h1]),if_neg h1]
theorem AR (ha:o.a.length<=8388608) (hb:o.b.length<=8388608):nN w o=some (sZ w o):=by
 have z:=(h.ew b (by omega)).ez;unfold nN sZ;rw[hO z.ws.wf ha,ae,dS,eh];by_cases h1:bM w.fs o.a=0
 ·rw[aU (by simp [h1]),if_pos h1]
  by_cases h2:(cO w.fs o.a).kind=2
  ·rw[aJ (by simp [h2]),if_pos h2]
  ·rw[aU (by simp [h2]),if_neg h2,mI z.ws.wf hb,ae,eh]
   by_cases h3:cN w.fs o.b=0
   ·rw[aJ (by simp [h3]),if_pos h3,mJ z,ae,h3]
   ·rw[aU (by simp [h3]),if_neg h3]
 ·rw[aJ (by simp [h1]),if_neg h1]
theorem A5 (ha:o.a.length<=8388608) (hb:o.b.length<=8388608):pw w o=some (sK w o):=by
 have z:=(h.ew b (by omega)).ez;unfold pw sK;rw[hO z.ws.wf ha,ae,dS];by_cases h1:bM w.fs o.a=0
 ·rw[aU (by simp [h1]),if_pos h1,mI z.ws.wf hb,ae,eh]
  by_cases h3:cN w.fs o.b=0
  ·rw[aJ (by simp [h3]),if_pos h3,CV z,ae,h3]
  ·rw[aU (by simp [h3]),if_neg h3]
 ·rw[aJ (by simp [h1]),if_neg h1]
theorem G_ (hp:b_ o.a=true) (ha:o.a.length<=8388608):lA w o=some (jQ w o.a (n8 w o.slot (atP w.fs o.a).1)):=by
 have z:=(h.ew b (by omega)).ez;unfold lA jQ;rw[hO z.ws.wf ha,ae,dS];by_cases h1:bM w.fs o.a=0
 ·obtain⟨a0,x,hx,hxi⟩:=gO h1
  rw[aU (by simp [h1]),if_pos h1,hxi];by_cases h2:0<x.entries.length
  ·rw[aJ (by simp;omega),if_pos h2]
  ·have hx0:x.entries= [] :=List.length_eq_zero_iff.1 (by omega)
   obtain⟨ga,am,an,_⟩:=eA z.ws.wf hp a0;rw[aU (by simp [hx0]),if_neg h2,(sU h b (by omega) ga an hx hx0).1,ae]
 ·rw[aJ (by simp [h1]),if_neg h1]
theorem yS:n7 w a=some (lj w a):=by
 have z:=(h.ew b (by omega)).ez;have hl:=b.kl;unfold n7 lj;rw[z.ws.wf.get,ae,nI z,ae];simp only[eh];generalize aC a.ino w.fs.aa=x;have key:∀(kr:Int->Option (aq×Int)) (k0 r:Option (aq×Int)),(∀j:Nat,kr (j:Int)=r)->de w.al.kept (List.length w.al.kept:Int) x kr k0 bx (0:Int)=if (w.al.kept.any λk=>decide (k.ino=x.ino))=true then r else k0:=by
  intro kr k0 r hr;refine(bE (l:=w.al.kept) (λm i (_:Unit)=>de w.al.kept (List.length w.al.kept:Int) x kr k0 m i) (λk (y:Kept) u K=>if (decide (y.ino=x.ino)) then kr (k:Int) else K u) (λ_=>k0) (by omega) (λm k y u hk hx=> ?_) (λm u=> ?_) ()).trans ?_
  ·simp only[de]
   rw[dec_lt hk,bu,toNat_cast,hx,aP (by omega),aw,aw,ae,eh,aV]
  ·simp only[de]
   rw[bF (Nat.le_refl _)];rfl
  ·exact jq (λy:Kept=>decide (y.ino=x.ino)) (λk _=>kr (k:Int)) k0 r (λk _=>hr k) _ _ _
 rw[key _ _ (ah (decide (x.aH=1)) (some (w,13)) (some (⟨dF w.fs a,w.al⟩,0))) (λj=>aJ (by simp))];cases (w.al.kept.any λk=>decide (k.ino=x.ino))
 ·rw[if_neg (by simp),if_neg (by simp)]
 ·rw[if_pos rfl]
  by_cases hl:x.aH=1
  ·rw[aJ (by simp [hl]),if_pos ⟨rfl,hl⟩]
  ·rw[aU (by simp [hl]),if_neg (λe=>hl e.2)]
theorem GH (ha:o.a.length<=8388608):lu w o=some (jQ w o.a (lj w (atP w.fs o.a).1)):=by
 have z:=(h.ew b (by omega)).ez;unfold lu jQ;rw[hO z.ws.wf ha,ae,dS];by_cases h1:bM w.fs o.a=0
 ·rw[aU (by simp [h1]),if_pos h1]
  by_cases h2:0<(cO w.fs o.a).entries.length
  ·rw[aJ (by simp;omega),if_pos h2]
  ·have hx0:(cO w.fs o.a).entries= [] :=List.length_eq_zero_iff.1 (by omega)
   rw[aU (by simp [hx0]),if_neg h2,yS h b hn,ae]
 ·rw[aJ (by simp [h1]),if_neg h1]
theorem we (hp:b_ o.a=true) (ha:o.a.length<=8388608):lF w o=some (jt w o):=by
 have z:=(h.ew b (by omega)).ez;unfold lF jt;rw[mI z.ws.wf ha,ae,dS];by_cases h1:cN w.fs o.a=0
 ·obtain⟨a0,ai⟩:=jr h1
  obtain⟨ga,am,an,_⟩:=eA z.ws.wf hp a0;rw[aU (by simp [h1]),if_pos h1,Bg h b (by omega) ga ai (by have:=yA z.ws.wf a0;omega),ae]
 ·rw[aJ (by simp [h1]),if_neg h1]
theorem vC (ha:o.a.length<=8388608):lJ w o=some (gR w o):=by
 have z:=(h.ew b (by omega)).ez;have hl:=b.kl;unfold lJ gR;rw[hO z.ws.wf ha,ae,jm h.ks (by omega),ae,dS,dS];by_cases h1:bM w.fs o.a=0
 ·rw[aU (by simp [h1]),if_pos h1]
  cases hs:b9 o.slot w.al.kept with
  |none=>rfl
  |some k=>
   simp only[Option.isSome_some,Option.getD_some,Bool.not_true,ax];cases hc:k.content
   ·rw[if_neg (by simp)];rfl
   ·by_cases hi:k.ino=(cO w.fs o.a).ino
    ·rw[if_pos ⟨rfl,hi⟩,aU (by simp),aU (by simp [hi]),vp h b (by omega),ae]
    ·rw[if_neg (λe=>hi e.2),aU (by simp),aJ (by simp [hi])]
 ·rw[aJ (by simp [h1]),if_neg h1]
theorem G2 (ha:o.a.length<=8388608) (hb:o.b.length<=8388608) (hd:o.data.length<=1073741824):yc w o=some (doO w o):=by
 have z:=(h.ew b (by omega)).ez;unfold yc doO;rw[Kb ha hb,ae];cases hm:gw o
 ·rfl
 rw[Bool.not_true,ax,if_pos rfl];have M:=(Hy o).1 hm;have e1:ly w o=some (nQ w o.a 2 []):=by unfold ly;rw[pM z ha (by simp),ae]
 have e4:lD w o=some (nQ w o.a 3 o.data):=by unfold lD;rw[pM z ha hd,ae]
 rw[e1,e4,Ax h b hn ha hb,xM h b hn ha hb,AR h b hn ha hb,A5 h b hn ha hb,G_ h b hn M.a ha,GH h b hn ha,we h b hn M.a ha,vC h b hn ha];simp only[ae];rcases kinds M.kind.1 M.kind.2 with e|e|e|e|e|e|e|e|e|e<;>rw[e]<;>rfl
theorem uu {kr k1:Option (aq×Int)}:fG w x kr k1 bx (0:Int)=if (w.al.kept.any λk=>decide (k.ino=x.ino))=true/\x.aH=1 then kr else k1:=by
 have hl:=b.kl;refine(bE (l:=w.al.kept) (λm i (_:Unit)=>fG w x kr k1 m i) (λk (y:Kept) u K=>if (decide (y.ino=x.ino)&&decide (x.aH=1))=true then kr else K u) (λ_=>k1) (by omega) (λm k y u hk hx=> ?_) (λm u=> ?_) ()).trans ?_
 ·simp only[fG]
  rw[dec_lt hk,bu,toNat_cast,hx,aP (by omega),aw,aw,ae,eh,eh];by_cases h1:y.ino=x.ino<;>by_cases h2:x.aH=1<;>simp [h1,h2]
 ·simp only[fG]
  rw[bF (Nat.le_refl _)];rfl
 ·refine(jq (λy:Kept=>decide (y.ino=x.ino)&&decide (x.aH=1)) (λ_ _=>kr) k1 kr (λ_ _=>rfl) _ _ _).trans ?_
  by_cases h2:x.aH=1
  ·simp [h2]
  ·simp [h2]
theorem EE (ha:o.a.length<=8388608) (hb:o.b.length<=8388608) (hd:o.data.length<=1073741824):u_ w o=some (doO w o):=by
 have ew:=h.ew b (by omega);have z:=ew.ez;have hl:=b.kl;unfold u_ sh doO;dsimp only;rw[pO ha hb hd,ae];cases hm:gw o
 ·rfl
 rw[Bool.not_true,ax,if_pos rfl];have M:=(Hy o).1 hm;rcases kinds M.kind.1 M.kind.2 with e|e|e|e|e|e|e|e|e|e
 ·rw[aJ (by simp [e]),if_pos e,oI z ha (by simp),ae]
 ·rw[aU (by simp [e]),aJ (by simp [e]),if_neg (by omega),if_pos e,ox z.ws.wf h.tr ha,ae,dS]
  unfold xC;by_cases h1:gD w.fs o.a=0
  ·rw[aU (by simp [h1]),if_pos h1,oI z hb (yj h b hn _),ae]
  ·rw[aJ (by simp [h1]),if_neg h1]
 ·rw[aU (by simp [e]),aU (by simp [e]),aJ (by simp [e]),if_neg (by omega),if_neg (by omega),if_pos e,wj h b hn ha hb,ae]
 ·rw[aU (by simp [e]),aU (by simp [e]),aU (by simp [e]),aJ (by simp [e]),if_neg (by omega),if_neg (by omega),if_neg (by omega),if_pos e,oI z ha hd,ae]
 ·rw[aU (by simp [e]),aU (by simp [e]),aU (by simp [e]),aU (by simp [e]),aJ (by simp [e]),if_neg (by omega),if_neg (by omega),if_neg (by omega),if_neg (by omega),if_pos e,is1 z.ws.wf ha,ae,is0 z.ws.wf hb,ae]
  simp only[eh,dS];rcases yb (o:=o) h b hn (M.b (by unfold jT;simp [e])) with⟨er,he,hlk⟩ |⟨x,h3,hxi,hxx,hk,_,_,_,hlk,hr,_,_⟩
  ·rw[hlk]
   unfold sZ at hlk;by_cases h1:bM w.fs o.a=0
   ·rw[if_pos h1] at hlk
    rw[aJ (by simp [h1])];by_cases h2:(cO w.fs o.a).kind=2
    ·rw[if_pos h2] at hlk
     rw[aJ (by simp [h2]),<-hlk]
    ·rw[if_neg h2] at hlk
     rw[aU (by simp [h2]),aU (by simp [h1])];by_cases h3:cN w.fs o.b=0
     ·rw[if_pos h3] at hlk
      exact absurd (congrArg Prod.snd hlk).symm he
     ·rw[if_neg h3] at hlk
      rw[aJ (by simp [h3]),<-hlk]
   ·rw[if_neg h1] at hlk
    rw[aU (by simp [h1]),aJ (by simp [h1]),<-hlk]
  ·have h1:bM w.fs o.a=0:=by
    unfold sZ at hlk;by_cases h1:bM w.fs o.a=0
    ·exact h1
    ·rw[if_neg h1] at hlk;exact absurd (congrArg Prod.snd hlk) h1
   unfold sZ;rw[aJ (by simp [h1]),hxi,aU (by simp [hk]),aU (by simp [h1]),aU (by simp [h3]),jo z,ae,hr,if_pos h1,if_neg hk,if_pos h3]
 ·rw[aU (by simp [e]),aU (by simp [e]),aU (by simp [e]),aU (by simp [e]),aU (by simp [e]),aJ (by simp [e]),if_neg (by omega),if_neg (by omega),if_neg (by omega),if_neg (by omega),if_neg (by omega),if_pos e,is1 z.ws.wf ha,ae,is0 z.ws.wf hb,ae]
  simp only[eh,dS];unfold sK;by_cases h1:bM w.fs o.a=0
  ·rw[aU (by simp [h1]),if_pos h1]
   by_cases h3:cN w.fs o.b=0
   ·obtain⟨x,ok,_⟩:=Dh h.tr z.ws.wf M.a (M.b (by unfold jT;simp [e])) (M.under e).2 h1 h3
    obtain⟨_,_,hr⟩:=wM h.tr b.bd (by omega) ok;rw[aU (by simp [h3]),if_pos h3,Bf z,ae,hr]
   ·rw[aJ (by simp [h3]),if_neg h3]
  ·rw[aJ (by simp [h1]),if_neg h1]
 ·rw[aU (by simp [e]),aU (by simp [e]),aU (by simp [e]),aU (by simp [e]),aU (by simp [e]),aU (by simp [e]),aJ (by simp [e]),aJ (by simp [e]),if_neg (by omega),if_neg (by omega),if_neg (by omega),if_neg (by omega),if_neg (by omega),if_neg (by omega),if_pos e,is1 z.ws.wf ha,ae]
  simp only[eh,dS];unfold jQ;by_cases h1:bM w.fs o.a=0
  ·obtain⟨a0,x,hx,hxi⟩:=gO h1
   rw[aJ (by simp [h1]),if_pos h1,hxi];by_cases h2:0<x.entries.length
   ·rw[aJ (by simp;omega),if_pos h2]
   ·have hx0:x.entries= [] :=List.length_eq_zero_iff.1 (by omega)
    obtain⟨ga,am,an,_⟩:=eA z.ws.wf M.a a0;rw[aU (by simp [hx0]),if_neg h2,aU (by simp [h1]),aJ (by simp [e]),(sU h b (by omega) ga an hx hx0).2,ae]
  ·rw[aU (by simp [h1]),aJ (by simp [h1]),if_neg h1]
 ·rw[aU (by simp [e]),aU (by simp [e]),aU (by simp [e]),aU (by simp [e]),aU (by simp [e]),aU (by simp [e]),aU (by simp [e]),aJ (by simp [e]),if_neg (by omega),if_neg (by omega),if_neg (by omega),if_neg (by omega),if_neg (by omega),if_neg (by omega),if_neg (by omega),if_pos e,is1 z.ws.wf ha,ae]
  simp only[eh,dS];rcases Fz (p:=o.a) h b hn M.a with⟨er,he,hlk⟩ |⟨x,e',h1,hxi,tk,hr,hlk,_,_⟩
  ·rw[hlk]
   unfold jQ lj at hlk;by_cases h1:bM w.fs o.a=0
   ·obtain⟨a0,x,hx,hxi⟩:=gO h1
    rw[if_pos h1] at hlk;rw[aJ (by simp [h1])];rw[hxi] at hlk⊢;by_cases h2:0<x.entries.length
    ·rw[if_pos h2] at hlk
     rw[aJ (by simp;omega),<-hlk]
    ·have hx0:x.entries= [] :=List.length_eq_zero_iff.1 (by omega)
     rw[if_neg h2,aT hx] at hlk;rw[aU (by simp [hx0]),aU (by simp [h1]),aU (by simp [e]),uu h b hn];split at hlk
     ·rename_i hc
      rw[if_pos hc,<-hlk]
     ·exact absurd (congrArg Prod.snd hlk).symm he
   ·rw[if_neg h1] at hlk
    rw[aU (by simp [h1]),aJ (by simp [h1]),<-hlk]
  ·rw[hlk]
   obtain⟨a0,x',hx,hxi'⟩:=gO h1;rw[hxi] at hxi';subst hxi';unfold jQ lj at hlk;rw[if_pos h1,hxi,if_neg (by rw[tk.xe];simp),aT hx] at hlk;rw[aJ (by simp [h1]),hxi,aU (by simp [tk.xe]),aU (by simp [h1]),aU (by simp [e]),uu h b hn];split at hlk
   ·exact absurd (congrArg Prod.snd hlk) (by show¬((13:Int)=0);decide)
   ·rename_i hc
    rw[if_neg hc,mg z,ae,hr]
 ·rw[aU (by simp [e]),aU (by simp [e]),aU (by simp [e]),aU (by simp [e]),aU (by simp [e]),aU (by simp [e]),aU (by simp [e]),aU (by simp [e]),aJ (by simp [e]),if_neg (by omega),if_neg (by omega),if_neg (by omega),if_neg (by omega),if_neg (by omega),if_neg (by omega),if_neg (by omega),if_neg (by omega),if_pos e,is0 z.ws.wf ha,ae,dS]
  unfold jt;by_cases h1:cN w.fs o.a=0
  ·obtain⟨a0,ai⟩:=jr h1
   obtain⟨ga,am,an,_⟩:=eA z.ws.wf M.a a0;rw[aU (by simp [h1]),if_pos h1,Bb h b (by omega) ga ai (by have:=yA z.ws.wf a0;omega),ae]
  ·rw[aJ (by simp [h1]),if_neg h1]
 ·rw[aU (by simp [e]),aU (by simp [e]),aU (by simp [e]),aU (by simp [e]),aU (by simp [e]),aU (by simp [e]),aU (by simp [e]),aU (by simp [e]),aU (by simp [e]),if_neg (by omega),if_neg (by omega),if_neg (by omega),if_neg (by omega),if_neg (by omega),if_neg (by omega),if_neg (by omega),if_neg (by omega),if_neg (by omega),is1 z.ws.wf ha,ae,jn (by omega),ae]
  simp only[eh,dS];unfold gR;by_cases h1:bM w.fs o.a=0
  ·rw[aU (by simp [h1]),if_pos h1]
   cases hs:b9 o.slot w.al.kept with
   |none=>rfl
   |some k=>
    simp only[Option.isSome_some,Option.getD_some,Bool.not_true,ax];cases hc:k.content
    ·rw[if_neg (by simp)];rfl
    ·by_cases hi:k.ino=(cO w.fs o.a).ino
     ·rw[if_pos ⟨rfl,hi⟩,aU (by simp),aU (by simp [hi]),vm h b (by omega),ae]
     ·rw[if_neg (λe=>hi e.2),aU (by simp),aJ (by simp [hi])]
  ·rw[aJ (by simp [h1]),if_neg h1]
end
section
variable {w v:aq} {o:Opn} {l:List Opn} {n:Nat}
theorem qC:mW o=some (dy o):=by
 unfold mW sh dy;simp only[eh,aV,decide_eq_true_eq];by_cases k1:o.kind=1
 ·simp [k1]
 by_cases k4:o.kind=4
 ·simp [k4]
 by_cases k2:o.kind=2
 ·simp [k2]
 by_cases k5:o.kind=5
 ·simp [k5]
 by_cases k3:o.kind=3
 ·simp [k3]
 by_cases k6:o.kind=6
 ·simp [k6]
 by_cases k7:o.kind=7
 ·simp [k7]
 ·simp [k1,k2,k3,k4,k5,k6,k7]
theorem wK:oi o=some (dy o):=qC
def HN (o:Opn):Bool:=decide (o.a.length<=1000)&&(decide (o.b.length<=1000)&&decide (o.data.length<=5000))
theorem DF (hl:l.length<=1073741824):o5 l=some ((l.take 200).all HN&&decide (l.length<=100)):=by
 unfold o5;refine(bE (l:=l.take 200) (λn i (s:Unit)=>iY l (some false) (some (decide ((l.length:Int)<=(100:Int)))) n i) (λ_ x s K=>if HN x then K s else some false) (λ_=>some (decide ((l.length:Int)<=(100:Int)))) (by simp;omega) (λn k x s hk hx=> ?_) (λn s=> ?_) ()).trans ?_
 ·have hk':k<l.length/\k<200:=by simp at hk;omega
  have hx':l[k]? =some x:=by rw[List.getElem?_take_of_lt hk'.2] at hx;exact hx
  simp only[iY];have h100:decide ((k:Int)<(200:Int))=true:=by simp;omega
  rw[dec_lt hk'.1,h100,bu,toNat_cast,hx',aP (by omega)];simp only[aw,ae,aV];unfold HN;by_cases h1:x.a.length<=1000
  ·have h1':¬(1000:Int)<(x.a.length:Int):=by omega
   by_cases h2:x.b.length<=1000
   ·have h2':¬(1000:Int)<(x.b.length:Int):=by omega
    by_cases h3:x.data.length<=5000
    ·have h3':¬(5000:Int)<(x.data.length:Int):=by omega
     simp [h1,h1',h2,h2',h3,h3']
    ·have h3':(5000:Int)<(x.data.length:Int):=by omega
     simp [h1,h1',h2,h2',h3,h3']
   ·have h2':(1000:Int)<(x.b.length:Int):=by omega
    simp [h1,h1',h2,h2']
  ·have h1':(1000:Int)<(x.a.length:Int):=by omega
   simp [h1,h1']
 ·simp only[iY]
  by_cases h:l.length<=200
  ·have e:(l.take 200).length=l.length:=by simp;omega
   rw[e,bF (Nat.le_refl _)];rfl
  ·have e:(l.take 200).length=200:=by simp;omega
   rw[e];have h1:decide (((200:Nat):Int)<(l.length:Int))=true:=by simp;omega
   rw[h1];rfl
 ·rw[gq]
  have e:decide ((l.length:Int)<=(100:Int))=decide (l.length<=100):=by rw[decide_eq_decide];omega
  rw[e];cases (l.take 200).all HN<;>rfl
theorem QM (h:((l.take 200).all HN&&decide (l.length<=100))=true):l.length<=100/\∀o∈l,o.a.length<=1000/\o.b.length<=1000/\o.data.length<=5000:=by
 simp only[Bool.and_eq_true,decide_eq_true_eq] at h;obtain⟨h1,h2⟩:=h;rw[List.take_of_length_le (by omega),List.all_eq_true] at h1;refine⟨h2,λo ho=> ?_⟩;have:=h1 o ho;unfold HN at this;simpa only[Bool.and_eq_true,decide_eq_true_eq] using this
theorem PA {N:Nat} (h1:o.a.length<=N) (h2:o.b.length<=N):(dy o).1.a.length<=N/\(dy o).1.b.length<=N/\(dy o).1.data.length=0:=by
 unfold dy
 repeat' split
 all_goals simp [h1,h2]
theorem IA (h:gw o=true) (hv:(dy o).2=true):gw (dy o).1=true/\(dy o).1.slot<=1073741824/\((dy o).1.kind=6\/(dy o).1.kind=8\/(dy o).1.kind=9\/(dy o).1.kind=10):=by
 have M:=(Hy o).1 h;by_cases k1:o.kind=1\/o.kind=4
 ·have hinv:(dy o).1=⟨8,0,o.a, [], []⟩:=by unfold dy;rw[if_pos k1]
  rw[hinv];refine⟨?_,by show(0:Int)<=1073741824;decide,Or.inr (Or.inl rfl)⟩;unfold gw db jT;simp [M.a]
 by_cases k2:o.kind=2\/o.kind=5
 ·have hinv:(dy o).1=⟨8,0,o.b, [], []⟩:=by unfold dy;rw[if_neg k1,if_pos k2]
  rw[hinv];refine⟨?_,by show(0:Int)<=1073741824;decide,Or.inr (Or.inl rfl)⟩;have hb:=M.b (by unfold jT;rcases k2 with e|e<;>simp [e]);unfold gw db jT;simp [hb]
 by_cases k3:o.kind=3
 ·have hinv:(dy o).1=⟨10,o.slot,o.b, [], []⟩:=by unfold dy;rw[if_neg k1,if_neg k2,if_pos k3]
  rw[hinv];have hs:=M.slot (by unfold db;simp [k3]);refine⟨?_,hs.2,Or.inr (Or.inr (Or.inr rfl))⟩;have hb:=M.b (by unfold jT;simp [k3]);unfold gw db jT;simp [hb,hs.1,hs.2]
 by_cases k6:o.kind=6
 ·have hinv:(dy o).1=⟨6,0,o.b,o.a, []⟩:=by unfold dy;rw[if_neg k1,if_neg k2,if_neg k3,if_pos k6]
  rw[hinv];refine⟨?_,by show(0:Int)<=1073741824;decide,Or.inl rfl⟩;have hb:=M.b (by unfold jT;simp [k6]);have hu:=M.under k6;unfold gw db jT;simp [hb,M.a,hu.1,hu.2]
 by_cases k7:o.kind=7
 ·have hinv:(dy o).1=⟨9,o.slot,o.a, [], []⟩:=by unfold dy;rw[if_neg k1,if_neg k2,if_neg k3,if_neg k6,if_pos k7]
  rw[hinv];have hs:=M.slot (by unfold db;simp [k7]);refine⟨?_,hs.2,Or.inr (Or.inr (Or.inl rfl))⟩;unfold gw db jT;simp [M.a,hs.1,hs.2]
 ·unfold dy at hv
  rw[if_neg k1,if_neg k2,if_neg k3,if_neg k6,if_neg k7] at hv;cases hv
end
def rn:Int->List Opn->Bool
 |_, [] =>true
 |last,o::l=>gw o&&(decide (o.kind<=7)&&(if db o.kind then decide (last<o.slot)&&rn o.slot l else rn last l))
def wR:Int->List Opn->Bool
 |_, [] =>true
 |last,o::l=>gw o&&(decide (6<=o.kind/\o.kind≠7)&&(if db o.kind then decide (o.slot<last)&&wR o.slot l else wR last l))
def RC (a b:Opn):Prop:=db a.kind=true->db b.kind=true->b.slot<a.slot
section
variable {w v u:aq} {l:List Opn} {o:Opn} {n m:Nat}
theorem r8:∀{l:List Opn} {last:Int},rn last l=true->(∀o∈l,gw o=true/\o.kind<=7)/\(∀o∈l,db o.kind=true->last<o.slot)/\l.Pairwise (λa b=>RC b a)
 | [],_,_=>⟨by simp,by simp,List.Pairwise.nil⟩
 |o::l,last,h=>by
  unfold rn at h;simp only[Bool.and_eq_true,decide_eq_true_eq] at h;obtain⟨h1,h2,h3⟩:=h;cases hs:db o.kind
  ·rw[hs,if_neg (by simp)] at h3
   obtain⟨i1,i2,i3⟩:=r8 h3;refine⟨λx hx=> ?_,λx hx hk=> ?_,List.Pairwise.cons (λx hx=> ?_) i3⟩
   ·rcases List.mem_cons.1 hx with rfl|hx
    ·exact⟨h1,h2⟩
    ·exact i1 x hx
   ·rcases List.mem_cons.1 hx with rfl|hx
    ·rw[hs] at hk;cases hk
    ·exact i2 x hx hk
   ·intro _ h5;rw[hs] at h5;cases h5
  ·rw[hs,if_pos rfl,Bool.and_eq_true,decide_eq_true_eq] at h3
   obtain⟨i1,i2,i3⟩:=r8 h3.2;refine⟨λx hx=> ?_,λx hx hk=> ?_,List.Pairwise.cons (λx hx=> ?_) i3⟩
   ·rcases List.mem_cons.1 hx with rfl|hx
    ·exact⟨h1,h2⟩
    ·exact i1 x hx
   ·rcases List.mem_cons.1 hx with rfl|hx
    ·exact h3.1
    ·have:=i2 x hx hk;omega
   ·intro h4 _;exact i2 x hx h4
theorem Aj:∀{l:List Opn} {last:Int},(∀o∈l,gw o=true/\6<=o.kind/\o.kind≠7)->(∀o∈l,db o.kind=true->o.slot<last)->l.Pairwise RC->wR last l=true
 | [],_,_,_,_=>rfl
 |o::l,last,h1,h2,h3=>by
  have hp:=List.pairwise_cons.1 h3;have ho:=h1 o (by simp);unfold wR;rw[ho.1,decide_eq_true ho.2];cases hs:db o.kind
  ·rw[if_neg (by simp),Aj (λx hx=>h1 x (by simp [hx])) (λx hx=>h2 x (by simp [hx])) hp.2];rfl
  ·rw[if_pos rfl,decide_eq_true (h2 o (by simp) hs),Aj (λx hx=>h1 x (by simp [hx])) (λx hx hk=>hp.1 x hx hs hk) hp.2];rfl
theorem Jm (h:∀o∈l,(dy o).2=true):dw l=l.reverse.map λo=>(dy o).1:=by
 induction l with
 |nil=>rfl
 |cons o l ih=>
  rw[dw,if_pos (h o (by simp)),ih (λx hx=>h x (by simp [hx]))];simp
theorem qK (h:gw o=true) (hk:o.kind<=7):(dy o).2=true/\(db (dy o).1.kind=true->db o.kind=true/\(dy o).1.slot=o.slot)/\(db o.kind=true->o.slot<=1073741824):=by
 have M:=(Hy o).1 h;refine⟨?_, ?_,λhs=>(M.slot hs).2⟩
 ·unfold dy
  rcases kinds M.kind.1 (by omega) with e|e|e|e|e|e|e|e|e|e<;>first|(exfalso;omega) |simp [e]
 ·unfold dy
  rcases kinds M.kind.1 (by omega) with e|e|e|e|e|e|e|e|e|e<;>first|(exfalso;omega) |simp [e,db]
theorem wm (h:rn 0 l=true) (j:Nat):wR 2147483648 (dw (l.take j))=true/\(dw (l.take j)).length=(l.take j).length/\∀o∈l.take j,(dy o).2=true:=by
 obtain⟨h1,h2,h3⟩:=r8 h;have hm:∀o∈l.take j,o∈l:=λo ho=>List.mem_of_mem_take ho
 have hi:∀o∈l.take j,(dy o).2=true:=λo ho=>(qK (h1 o (hm o ho)).1 (h1 o (hm o ho)).2).1
 refine⟨?_,Js hi,hi⟩;rw[Jm hi];refine Aj (λq hq=> ?_) (λq hq hk=> ?_) ?_
 ·obtain⟨o,ho,rfl⟩:=List.mem_map.1 hq
  have ho':=hm o (List.mem_reverse.1 ho);have:=IA (h1 o ho').1 (qK (h1 o ho').1 (h1 o ho').2).1;exact⟨this.1,by have:=this.2.2;omega,by have:=this.2.2;omega⟩
 ·obtain⟨o,ho,rfl⟩:=List.mem_map.1 hq
  have ho':=hm o (List.mem_reverse.1 ho);have:=(IA (h1 o ho').1 (qK (h1 o ho').1 (h1 o ho').2).1).2.1;omega
 ·rw[List.pairwise_map,List.pairwise_reverse]
  refine((h3.sublist (List.take_sublist j l)).imp_of_mem λ{a b} ha hb hab=> ?_);intro k1 k2;have a':=(qK (h1 a (hm a ha)).1 (h1 a (hm a ha)).2).2.1 k2;have b':=(qK (h1 b (hm b hb)).1 (h1 b (hm b hb)).2).2.1 k1;have:=hab b'.1 a'.1;omega
theorem B5 (h:RW w) (b:Wb 549755813888 n w) (hn:n+2*l.length<=8970) (hp:rn 0 l=true) (stop:Int):
 ∃j a e,eI stop 0 w l=(a,j,e)/\j<=l.length/\(j:Int)<=max stop 0/\jd w (l.take j) a/\(∀c,jd (a.nx c) (dw (l.take j)) (w.nx c))/\eI ((dw (l.take j)).length:Int) 0 a (dw (l.take j))=(w.nx a.fs.next,(dw (l.take j)).length,0):=by
 obtain⟨j,h1,h2,h3,h4⟩:=vJ stop l 0 w;have hu:=(wm hp j).2.2;have hl:(l.take j).length<=l.length:=by simp;omega
 have hb:=h4.back h b (by omega) hu;have hc:=hb (eI stop 0 w l).1.fs.next;have e1:(eI stop 0 w l).1.nx (eI stop 0 w l).1.fs.next=(eI stop 0 w l).1:=rfl;rw[e1] at hc;refine⟨j,(eI stop 0 w l).1,(eI stop 0 w l).2.2, ?_,h2,by simpa using h3,h4,hb,KL hc⟩;have:(eI stop 0 w l).2.1=j:=by rw[h1];omega
 rw[<-this]
end
def po (l:List Opn):Prop:=∀o∈l,o.a.length<=1000/\o.b.length<=1000/\o.data.length<=5000
def uY (r:aq×Nat×Int):Option (aq×Int×Int):=some (r.1,(r.2.1:Int),r.2.2)
instance akb:DecidableEq Opn:=λa b=>
 if h:a.kind=b.kind/\a.slot=b.slot/\a.a=b.a/\a.b=b.b/\a.data=b.data then isTrue (by cases a;cases b;simp at h;simp [h]) else isFalse (by intro e;subst e;exact h ⟨rfl,rfl,rfl,rfl,rfl⟩)
section
variable {w v u:aq} {l:List Opn} {o:Opn} {n m:Nat}
theorem Fi {stop:Int} {k:Nat} (h:stop<=(k:Int)):eI stop k w l=(w,k,0):=by
 cases l with
 |nil=>rfl
 |cons o l=>rw[eI,if_pos h]
theorem ux (stop:Int) (hl:po l) (hn:n+2*l.length<=8990):∀(l2 l1:List Opn) (m:Nat) (w:aq),l=l1++l2->RW w->Wb 549755813888 (n+2*l1.length) w->l2.length<m->
 jR stop l (List.length l:Int) (λz16 z17=>some (z17,z16,(0:Int))) (λz18 z19 z20=>some (z20,z18,z19)) m (l1.length:Int) (l1.length:Int) w=uY (eI stop l1.length w l2)
 |_,_,0,_,_,_,_,h=>by omega
 | [],l1,m+1,w,e,r,b,hm=>by
  simp only[jR];rw[aU (by simp [e])];rfl
 |o::l2,l1,m+1,w,e,r,b,hm=>by
  simp only[jR];have hk:l1.length<l.length:=by rw[e];simp
  have hx:l[l1.length]? =some o:=by rw[e];simp
  have ho:=hl o (by rw[e];simp);rw[dec_lt hk,bu,toNat_cast,hx,aP (by omega),aw,aw,ae];by_cases hs:stop<=(l1.length:Int)
  ·rw[aJ (by simp;omega),Fi hs];rfl
  ·have dk:=Ms (o:=o) r b (by omega)
   rw[aU (by simp;omega),G2 r b (by omega) (by omega) (by omega) (by omega),ae,dS,eI,if_neg hs];by_cases h0:(doO w o).2=0
   ·rw[aU (by simp [h0]),if_pos h0]
    have:=ux stop hl hn l2 (l1++[o]) m (doO w o).1 (by simp [e]) dk.1 (dk.2.1.mono (by simp;omega)) (by simp at hm;omega);simp only[List.length_append,List.length_singleton] at this;exact this
   ·rw[aJ (by simp [h0]),if_neg h0];rfl
theorem gz (h:RW w) (b:Wb 549755813888 n w) (hl:po l) (hn:n+2*l.length<=8990) (stop:Int):gS w l stop=uY (eI stop 0 w l):=
 ux stop hl hn l [] bx w rfl h b (fp (by omega))
theorem sX (stop:Int) (hl:po l) (hn:n+2*l.length<=8990):∀(l2 l1:List Opn) (m:Nat) (w:aq),l=l1++l2->RW w->Wb 549755813888 (n+2*l1.length) w->l2.length<m->
 iW l stop (λz14 z15 z16=>some (z16,z14,z15)) (λz17 z18=>some (z18,z17,(0:Int))) m (l1.length:Int) w=uY (eI stop l1.length w l2)
 |_,_,0,_,_,_,_,h=>by omega
 | [],l1,m+1,w,e,r,b,hm=>by
  simp only[iW];rw[aU (by simp [e])];rfl
 |o::l2,l1,m+1,w,e,r,b,hm=>by
  simp only[iW];have hk:l1.length<l.length:=by rw[e];simp
  have hx:l[l1.length]? =some o:=by rw[e];simp
  have ho:=hl o (by rw[e];simp);rw[dec_lt hk,bu,toNat_cast,hx,aP (by omega),aw];by_cases hs:stop<=(l1.length:Int)
  ·rw[aU (by simp;omega),Fi hs];rfl
  ·have dk:=Ms (o:=o) r b (by omega)
   rw[aJ (by simp;omega),aw,ae,EE r b (by omega) (by omega) (by omega) (by omega),ae,dS,eI,if_neg hs];by_cases h0:(doO w o).2=0
   ·rw[aU (by simp [h0]),if_pos h0]
    have:=sX stop hl hn l2 (l1++[o]) m (doO w o).1 (by simp [e]) dk.1 (dk.2.1.mono (by simp;omega)) (by simp at hm;omega);simp only[List.length_append,List.length_singleton] at this;exact this
   ·rw[aJ (by simp [h0]),if_neg h0];rfl
theorem mV (h:RW w) (b:Wb 549755813888 n w) (hl:po l) (hn:n+2*l.length<=8990) (stop:Int):kD w l stop=uY (eI stop 0 w l):=
 sX stop hl hn l [] bx w rfl h b (fp (by omega))
theorem zb (hl:l.length<=1048576):∀(k m:Nat) (acc:List Opn),k<=l.length->k<m->acc.length+k<=1048576->cP l (λz7=>some z7) m ((k:Int) - 1) acc=some (acc++dw (l.take k))
 |k,0,_,_,h,_=>by omega
 |0,m+1,acc,_,_,_=>by
  simp only[cP];rw[aU (by simp)];simp [dw]
 |k+1,m+1,acc,hk,hm,ha=>by
  simp only[cP];have e1:(((k+1:Nat):Int) - 1)=(k:Int):=by omega
  rw[e1,aJ (by simp),bu,toNat_cast,List.getElem?_eq_getElem (by omega),aw,ae,qC,ae,bN (by omega) (by omega),List.take_add_one,List.getElem?_eq_getElem (by omega)];simp only[Option.toList_some];rw[tJ];cases hv:(dy l[k]).2
  ·rw[ax,zb hl k m acc (by omega) (by omega) (by omega)]
   simp
  ·rw[aw,bC (by unfold LIM;simp;omega),zb hl k m _ (by omega) (by omega) (by simp;omega)]
   simp
theorem jU (hl:l.length<=1048576):gW l=some (dw l):=by
 unfold gW;rw[bN (by omega) (by omega),zb hl l.length bx [] (Nat.le_refl _) (fp (by omega)) (by simp;omega)];simp
theorem nc (hl:l.length<=1048576):∀(k m:Nat) (acc:List Opn),k<=l.length->k<m->acc.length+k<=1048576->fL l (λz7=>some z7) m ((k:Int) - 1) acc=some (acc++dw (l.take k))
 |k,0,_,_,h,_=>by omega
 |0,m+1,acc,_,_,_=>by
  simp only[fL];rw[aU (by simp)];simp [dw]
 |k+1,m+1,acc,hk,hm,ha=>by
  simp only[fL];have e1:(((k+1:Nat):Int) - 1)=(k:Int):=by omega
  rw[e1,aJ (by simp),bu,toNat_cast,List.getElem?_eq_getElem (by omega),aw,ae,wK,ae,bN (by omega) (by omega),List.take_add_one,List.getElem?_eq_getElem (by omega)];simp only[Option.toList_some];rw[tJ];cases hv:(dy l[k]).2
  ·rw[ax,nc hl k m acc (by omega) (by omega) (by omega)]
   simp
  ·rw[aw,bC (by unfold LIM;simp;omega),nc hl k m _ (by omega) (by omega) (by simp;omega)]
   simp
theorem oH (hl:l.length<=1048576):kT l=some (dw l):=by
 unfold kT;rw[bN (by omega) (by omega),nc hl l.length bx [] (Nat.le_refl _) (fp (by omega)) (by simp;omega)];simp
def Iu (w:aq):Int:=match w.al.kept.getLast? with|some k=>k.slot|none=>0
theorem pz (hl:w.al.kept.length<=1048576):ld w=some (Iu w):=by
 unfold ld Iu;by_cases h0:w.al.kept= []
 ·rw[h0];rfl
 ·have hp:0<w.al.kept.length:=List.length_pos_iff.2 h0
  rw[aU (by simp;omega),bN (by omega) (by omega),aJ (by simp;omega)];have e:Int.toNat ((w.al.kept.length:Int) - 1)=w.al.kept.length - 1:=by omega
  rw[e,<-List.getLast?_eq_getElem?];cases hg:w.al.kept.getLast? with
  |none=>rw[List.getLast?_eq_none_iff] at hg;exact absurd hg h0
  |some k=>rfl
theorem Ej:∀{l:List Kept} {z:Int},qD l->(∀k∈l,z<k.slot)->l.foldl (λs k=>max s k.slot) z=match l.getLast? with|some k=>k.slot|none=>z
 | [],z,_,_=>rfl
 |k::l,z,hs,h=>by
  have hp:=List.pairwise_cons.1 hs;have hz:=h k (by simp);have em:max z k.slot=k.slot:=by omega
  rw[List.foldl_cons,em,Ej hp.2 (λb hb=>by have:=hp.1 b hb;simpa [ltI] using this)];cases l with
  |nil=>rfl
  |cons b l=>simp [List.getLast?_cons]
theorem Bo (h:RW w) (hl:w.al.kept.length<=1048576):p7 w=some (Iu w):=by
 unfold p7 Iu;refine(bE (l:=w.al.kept) (λm i (s:Int)=>hC w (λz6=>some z6) m s i) (λ_ (k:Kept) s K=>K (max s k.slot)) (λs=>some s) (by omega) (λm k y s hkk hx=> ?_) (λm s=> ?_) 0).trans ?_
 ·simp only[hC]
  rw[dec_lt hkk,bu,toNat_cast,hx,aP (by omega),aw,aw,ae]
 ·simp only[hC]
  rw[bF (Nat.le_refl _)];rfl
 ·rw[rG (λs (k:Kept)=>max s k.slot),Ej h.ks (λk hk=>by have:=(h.kk k hk).1;omega)]
theorem Zz (x y:Opn):(!((x.kind==y.kind)&&((x.slot==y.slot)&&((x.a==y.a)&&((x.b==y.b)&&(x.data==y.data))))))= !decide (x=y):=by
 congr 1;rw[Bool.eq_iff_iff];cases x;cases y;simp
theorem lB {a b:List Opn} (hl:a.length<=1073741824):jy a b=some (decide (a=b)):=by
 unfold jy;rw[aV];by_cases h:a.length=b.length
 ·have e:((List.length a:Int) !=(List.length b:Int))=false:=by rw[h];simp
  rw[e,if_neg (by simp)];refine(bE (l:=a) (λm i (_:Unit)=>g_ a b (some false) (some true) m i) (λk x (_:Unit) K=>aj ([] ++b)[k]? λy=>if decide (x=y) then K () else some false) (λ_=>some true) (by omega) (λm k x u hk hx=> ?_) (λm u=> ?_) ()).trans ?_
  ·simp only[g_]
   rw[dec_lt hk,bu,toNat_cast,hx,aP (by omega)];simp only[aw,ae,aV,List.nil_append];have hk':k<b.length:=by omega
   rw[List.getElem?_eq_getElem hk'];simp only[ae,Zz];by_cases hxy:x=b[k]<;>simp [hxy]
  ·simp only[g_]
   rw[bF (Nat.le_refl _)];rfl
  ·rw[pt _ _ a b 0 [] h rfl]
   by_cases hab:a=b<;>simp [hab]
 ·have e:((List.length a:Int) !=(List.length b:Int))=true:=by rw[bne_iff_ne];omega
  rw[e,if_pos rfl];have:¬a=b:=λe=>h (by rw[e])
  simp [this]
theorem zl:∀(l:List Opn) (k:Nat) (last:Int),dh (λ_ (x:Opn) (s:Int) K=>if gw x then (if decide (x.kind<=7) then (if db x.kind then (if decide (s<x.slot) then K x.slot else some false) else K s) else some false) else some false) (λ_=>some true) k l last=some (rn last l)
 | [],_,_=>rfl
 |x::l,k,last=>by
  simp only[dh,rn,zl l];cases gw x
  ·rfl
  by_cases h1:x.kind<=7
  ·cases db x.kind
   ·simp [h1]
   ·by_cases h2:last<x.slot<;>simp [h1,h2]
  ·simp [h1]
theorem sL (hl:po l) (hll:l.length<=1073741824):nh l=some (rn 0 l):=by
 unfold nh;refine(bE (l:=l) (λm i (s:Int)=>fQ l (some false) (some true) m s i) (λ_ (x:Opn) (s:Int) K=>if gw x then (if decide (x.kind<=7) then (if db x.kind then (if decide (s<x.slot) then K x.slot else some false) else K s) else some false) else some false) (λ_=>some true) (by omega) (λm k x s hk hx=> ?_) (λm s=> ?_) 0).trans (zl l 0 0)
 ·have ho:=hl x (List.mem_of_getElem? hx)
  simp only[fQ];rw[dec_lt hk,bu,toNat_cast,hx,aP (by omega)];simp only[aw,ae];rw[pO (by omega) (by omega) (by omega),kG];simp only[ae,aV];cases gw x
  ·rfl
  by_cases h1:x.kind<=7
  ·have h1':¬7<x.kind:=by omega
   cases db x.kind
   ·simp [h1,h1']
   ·by_cases h2:s<x.slot
    ·have h2':¬x.slot<=s:=by omega
     simp [h1,h1',h2,h2']
    ·have h2':x.slot<=s:=by omega
     simp [h1,h1',h2,h2']
  ·have h1':7<x.kind:=by omega
   simp [h1,h1']
 ·simp only[fQ]
  rw[bF (Nat.le_refl _)];rfl
theorem AP:∀(l:List Opn) (k:Nat) (last:Int),dh (λ_ (x:Opn) (s:Int) K=>if gw x then (if decide (6<=x.kind/\x.kind≠7) then (if db x.kind then (if decide (x.slot<s) then K x.slot else some false) else K s) else some false) else some false) (λ_=>some true) k l last=some (wR last l)
 | [],_,_=>rfl
 |x::l,k,last=>by
  simp only[dh,wR,AP l];cases gw x
  ·rfl
  by_cases h1:6<=x.kind/\x.kind≠7
  ·cases db x.kind
   ·simp [h1]
   ·by_cases h2:x.slot<last<;>simp [h1,h2]
  ·rw[decide_eq_false h1];simp
theorem Bu (hl:po l) (hll:l.length<=1073741824):p_ l=some (wR 2147483648 l):=by
 unfold p_;refine(bE (l:=l) (λm i (s:Int)=>fT l (some false) (some true) m s i) (λ_ (x:Opn) (s:Int) K=>if gw x then (if decide (6<=x.kind/\x.kind≠7) then (if db x.kind then (if decide (x.slot<s) then K x.slot else some false) else K s) else some false) else some false) (λ_=>some true) (by omega) (λm k x s hk hx=> ?_) (λm s=> ?_) 2147483648).trans (AP l 0 2147483648)
 ·have ho:=hl x (List.mem_of_getElem? hx)
  simp only[fT];rw[dec_lt hk,bu,toNat_cast,hx,aP (by omega)];simp only[aw,ae];rw[pO (by omega) (by omega) (by omega),kG];simp only[ae,aV];cases gw x
  ·rfl
  by_cases h1:x.kind<6
  ·have h1':¬(6<=x.kind/\x.kind≠7):=by omega
   simp [h1,h1']
  by_cases h7:x.kind=7
  ·have h1':¬(6<=x.kind/\x.kind≠7):=by omega
   simp [h7]
  ·have h1':6<=x.kind/\x.kind≠7:=by omega
   rw[decide_eq_true h1'];cases db x.kind
   ·simp [h1,h7]
   ·by_cases h2:x.slot<s
    ·have h2':¬s<=x.slot:=by omega
     simp [h1,h7,h2,h2']
    ·have h2':s<=x.slot:=by omega
     simp [h1,h7,h2,h2']
 ·simp only[fT]
  rw[bF (Nat.le_refl _)];rfl
theorem vE (h:po l):po (dw l):=by
 induction l with
 |nil=>intro o ho;cases ho
 |cons x l ih=>
  intro o ho;rw[dw] at ho;rcases List.mem_append.1 ho with ho|ho
  ·exact ih (λy hy=>h y (by simp [hy])) o ho
  ·split at ho
   ·have hx:=h x (by simp)
    have:=PA (o:=x) (N:=1000) hx.1 hx.2.1;rw[List.mem_singleton.1 ho];omega
   ·cases ho
theorem qU (l:List Opn):(dw l).length<=l.length:=by
 induction l with
 |nil=>simp [dw]
 |cons x l ih=>
  rw[dw,List.length_append,List.length_cons];split<;>simp<;>omega
theorem yD (hi:InW w) (hl:l.length<=1073741824):∃b,jx w l=some b/\(b=true->RW w/\Wb 549755813888 40 w/\l.length<=30/\po l):=by
 unfold jx;rw[Fg hi,ae];cases ho:okW w
 ·exact⟨false,rfl,by simp⟩
 rw[aw];by_cases hn:w.fs.next<549755813888
 ·rw[aJ (by simp [hn]),DF hl,ae]
  cases hf:((l.take 200).all HN&&decide (l.length<=100))
  ·exact⟨false,rfl,by simp⟩
  rw[aw];refine⟨_,rfl,λh=> ?_⟩;unfold okW at ho;simp only[Bool.and_eq_true] at ho;have hr:=tT.1 ho.2;simp only[decide_eq_true_eq] at h;exact⟨hr,H9 ho.1 (by omega),by omega,(QM hf).2⟩
 ·rw[aU (by simp;omega)]
  exact⟨false,rfl,by simp⟩
theorem yg (stop:Int):∀(l:List Opn) (k:Nat) {n:Nat} {w:aq},RW w->Wb 549755813888 n w->n+2*l.length<=8990->RW (eI stop k w l).1/\Wb 549755813888 (n+2*l.length) (eI stop k w l).1
 |l,k,n,w,h,b,hn=>by
  obtain⟨j,h1,h2,_,h4⟩:=vJ stop l k w;have hl:(l.take j).length<=l.length:=by simp;omega
  obtain⟨r,rb⟩:=h4.ok h b (by omega);exact⟨r,rb.mono (by omega)⟩
def wE:aq:=⟨⟨3,9,2,[⟨1,2,0, [],1, []⟩]⟩,⟨[], []⟩⟩
theorem rwE:RW wE:=tT.1 (by decide+kernel)
theorem wbE:Wb 549755813888 40 wE:=H9 (by decide+kernel) (by decide)
def lE:List Opn:=[⟨1,0,[47,97], [], []⟩,⟨7,4,[47,97], [], []⟩,⟨1,0,[47,98,47,99], [], []⟩]
theorem yw:cG=some true:=by
 unfold cG sh;dsimp only;have e1:oU 3 9=some ⟨3,9,2,[⟨1,2,0, [],1, []⟩]⟩:=rfl;have hl:po lE:=by unfold po lE;decide
 have r9:=yg 9 lE 0 rwE wbE (by decide);have u2:dw (lE.take 2)=[⟨9,4,[47,97], [], []⟩,⟨8,0,[47,97], [], []⟩]:=by decide+kernel
 have hu:po (dw (lE.take 2)):=by rw[u2];unfold po;decide
 rw[e1,ae];show aj (gS wE lE 9) _=_;rw[gz rwE wbE hl (by decide) 9];show aj (gS wE lE 1) _=_;rw[gz rwE wbE hl (by decide) 1];unfold uY;rw[ae,aJ (by decide)];show aj (gW (lE.take 2)) _=_;rw[jU (by decide),ae,gz r9.1 r9.2 hu (by rw[u2];decide) 9];unfold uY;rw[ae,u2];have hs:=(wbE.inw rwE (by decide)).same wE;rw[decide_eq_true rfl] at hs;have ew:(⟨⟨(eI 9 0 (eI 9 0 wE lE).1 [⟨9,4,[47,97], [], []⟩,⟨8,0,[47,97], [], []⟩]).1.fs.ay,(eI 9 0 (eI 9 0 wE lE).1 [⟨9,4,[47,97], [], []⟩,⟨8,0,[47,97], [], []⟩]).1.fs.aB,2,(eI 9 0 (eI 9 0 wE lE).1 [⟨9,4,[47,97], [], []⟩,⟨8,0,[47,97], [], []⟩]).1.fs.aa⟩,(eI 9 0 (eI 9 0 wE lE).1 [⟨9,4,[47,97], [], []⟩,⟨8,0,[47,97], [], []⟩]).1.al⟩:aq)=wE:=by decide+kernel
 rw[aJ (by decide+kernel),aJ (by decide+kernel),aJ (by decide+kernel),aJ (by decide+kernel),aJ (by decide+kernel),aJ (by decide),aJ (by decide)];show aj (some (⟨9,4,[47,97], [], []⟩:Opn)) _=_;rw[ae,aJ (by decide),aJ (by decide)];show aj (some (⟨8,0,[47,97], [], []⟩:Opn)) _=_;rw[ae,aJ (by decide),aJ (by decide+kernel),aJ (by decide+kernel),ew];show aj (dG wE wE) _=_;rw[hs,ae,aw,pz (by have:=r9.2.kl;show(eI 9 0 wE lE).1.al.kept.length<=_;have e:lE.length=3:=rfl;omega),ae,aJ (by decide+kernel)];show aj (ld wE) _=_;rw[pz (by decide),ae];rfl
theorem AY {stop:Int} (hi:InW w) (hll:l.length<=1073741824):nb w l stop=some true:=by
 unfold nb;rw[yw];simp only[ae,Bool.not_true,ax];obtain⟨b,hb,hb2⟩:=yD hi hll;rw[hb,ae];cases b
 ·rfl
 obtain⟨r,wb,h30,hl⟩:=hb2 rfl;have ro:=yg stop l 0 r wb (by omega);rw[Bool.not_true,ax,gz r wb hl (by omega) stop,mV r wb hl (by omega) stop];unfold uY;rw[ae,ae,(ro.2.inw ro.1 (by omega)).same,ae,decide_eq_true rfl,aw,aJ (by simp)];simp
theorem Ah (hi:InW w) (hll:l.length<=1073741824):mz w l=some true:=by
 unfold mz;rw[yw];simp only[ae,Bool.not_true,ax];obtain⟨b,hb,hb2⟩:=yD hi hll;rw[hb,ae];cases b
 ·rfl
 obtain⟨r,wb,h30,hl⟩:=hb2 rfl;have hk:=wb.kl;have hu:=qU l;rw[Bool.not_true,ax,jU (by omega),ae,oH (by omega),ae,lB (by omega),ae,decide_eq_true rfl,aw,pz (by omega),ae,Bo r (by omega),ae];simp
theorem Bj {stop:Int} (hi:InW w) (hll:l.length<=1073741824) (h0:0<=stop) (h1:stop<256):nv w l stop=some true:=by
 unfold nv;rw[yw];simp only[ae,Bool.not_true,ax];obtain⟨b,hb,hb2⟩:=yD hi hll;rw[hb,ae];cases b
 ·rfl
 obtain⟨r,wb,h30,hl⟩:=hb2 rfl;rw[Bool.not_true,ax,sL hl hll,ae];cases hp:rn 0 l
 ·rfl
 rw[Bool.not_true,ax,bN (by omega) (by omega),gz r wb hl (by omega) stop];obtain⟨j,a,e,k1,k2,k3,k4,k5,k6⟩:=B5 r wb (by omega) hp stop;obtain⟨p1,p2,p3⟩:=wm hp j;have hjl:(l.take j).length=j:=by simp;omega
 obtain⟨ra,rb⟩:=k4.ok r wb (by omega);have hul:po (dw (l.take j)):=vE (λo ho=>hl o (List.mem_of_mem_take ho));unfold uY;rw[k1,ae,aU (by simp),aU (by simp;omega),aU (by simp;omega),aJ (by simp;omega),toNat_cast];simp only;rw[jU (by omega),ae,gz ra rb hul (by omega) _];unfold uY;rw[k6,ae,Bu hul (by omega),ae,p1,aw,aJ (by simp;omega),aJ (by simp;omega),aJ (by simp)];have eta:(⟨⟨(w.nx a.fs.next).fs.ay,(w.nx a.fs.next).fs.aB,w.fs.next,(w.nx a.fs.next).fs.aa⟩,(w.nx a.fs.next).al⟩:aq)=w:=rfl;simp only;rw[eta,hi.same,ae,decide_eq_true rfl]
theorem Lx {R:Type} {k0 r:Option R} (hk:k0=r) (l:List Opn) (hl:l.length<=1048576):dL k0 bx (0:Int) l=r:=by
 have key:∀(m k:Nat) (l2:List Opn),l2.length=l.length->k<=l.length->l.length - k<m->dL k0 m (k:Int) l2=r:=by
  intro m;induction m with
  |zero=>intro k l2 _ _ h;omega
  |succ m ih=>
   intro k l2 h1 h2 h3;simp only[dL];by_cases h:k<l.length
   ·have hk2:k<l2.length:=by omega
    rw[aJ (by simp;omega),aJ (by simp;omega),toNat_cast,List.getElem?_eq_getElem hk2,ae,aP (by omega)];exact ih (k+1) _ (by simpa using h1) (by omega) (by omega)
   ·rw[aU (by simp;omega)];exact hk
 exact key bx 0 l rfl (Nat.zero_le _) (fp (by omega))
theorem Ak (hi:InW w) (hll:l.length<=1073741824):mr w l=some true:=by
 unfold mr;rw[yw];simp only[ae,Bool.not_true,ax];obtain⟨b,hb,hb2⟩:=yD hi hll;rw[hb,ae];cases b
 ·rfl
 obtain⟨r,wb,h30,hl⟩:=hb2 rfl;have l1:=wb.bd.len;have l2:=wb.kl;have l3:=wb.pl;have hu:=qU l;have eta:(⟨⟨w.fs.ay,w.fs.aB,w.fs.next,([] :List ao)++w.fs.aa⟩,⟨([] :List Kept)++w.al.kept,([] :List ao)++w.al.aO⟩⟩:aq)=w:=rfl;rw[Bool.not_true,ax,bC (by unfold LIM;simp;omega),bC (by unfold LIM;simp;omega),bC (by unfold LIM;simp;omega),bC (by unfold LIM;simp;omega)];rw[gz r wb hl (by omega) _];unfold uY;rw[ae,jU (by omega),ae];refine Lx ?_ _ (by omega);rw[hi.same,ae,decide_eq_true rfl,aw,lB hll,ae,decide_eq_true rfl,aw,ae,oH (by omega),ae,lB (by omega),ae,decide_eq_true rfl]
end
theorem R0 {a b c:Int} {l:List ao} (h:HL.ok 1048576 [.int .i64, .int .i64, .int .i64, .sl .aM] (a,b,c,l,())):InF ⟨a,b,c,l⟩:=by
 obtain⟨_,_,_,⟨h1,h2⟩,_⟩:=h;have h3:l.length<=1048576:=h1;exact⟨by show l.length<=1073741824;omega,λx hx=>by have:x.ok 1048576:=h2 x hx;have:=this.2.2.2.2.2.1;omega⟩
theorem ZT {v:HL.V [.int .i64, .int .i64, .int .i64, .sl .aM]} (h:HL.ok 1048576 [.int .i64, .int .i64, .int .i64, .sl .aM] v):InF ⟨v.1,v.2.1,v.2.2.1,v.2.2.2.1⟩:=by
 obtain⟨a,b,c,l,u⟩:=v;exact R0 h
theorem TE {a b c:Int} {l:List ao} {k:List Kept} {q:List ao} (h:HL.ok 1048576 [.int .i64, .int .i64, .int .i64, .sl .aM, .sl .kept, .sl .aM] (a,b,c,l,k,q,())):InW ⟨⟨a,b,c,l⟩,⟨k,q⟩⟩:=by
 obtain⟨_,_,_,⟨h1,h2⟩,⟨h3,_⟩,⟨h5,h6⟩,_⟩:=h;have g1:l.length<=1048576:=h1;have g3:k.length<=1048576:=h3;have g5:q.length<=1048576:=h5;exact⟨⟨by show l.length<=1073741824;omega,λx hx=>by have:x.ok 1048576:=h2 x hx;have:=this.2.2.2.2.2.1;omega⟩,⟨by show q.length<=1073741824;omega,λx hx=>by have:x.ok 1048576:=h6 x hx;have:=this.2.2.2.2.2.1;omega⟩,by show k.length<=1073741824;omega⟩
theorem Fu {v:HL.V [.int .i64, .int .i64, .int .i64, .sl .aM, .sl .kept, .sl .aM]} (h:HL.ok 1048576 [.int .i64, .int .i64, .int .i64, .sl .aM, .sl .kept, .sl .aM] v):InW ⟨⟨v.1,v.2.1,v.2.2.1,v.2.2.2.1⟩,⟨v.2.2.2.2.1,v.2.2.2.2.2.1⟩⟩:=by
 obtain⟨a,b,c,l,k,q,u⟩:=v;exact TE h
noncomputable def qx (w0:aq) (w1:(List Opn)):Option (aq×Int):=
 aj (kT w1) λy1=>aj (kD w0 y1 (List.length y1:Int)) λy2=>
 ah (y2.2.2 !=(0:Int)) (some (w0,y2.2.2)) (some (y2.1,(0:Int)))
noncomputable def ep {R:Type} (x1:Int) (x2:Str) (x4:aq) (kr:Option R) (k0:Option R):Nat->Int->Option R
 |0,_=>none
 |n+1,x3=>
  ah (decide (x3<(List.length x4.fs.aa:Int))) (
  ah (decide (0<=x3)) (aj x4.fs.aa[Int.toNat x3]? λe5=>
  ah (e5.kind==x1) (
  ah (decide (0<=x3)) (aj x4.fs.aa[Int.toNat x3]? λe6=>
  ah (e6.data==x2) ((kr)) ((ep x1 x2 x4 kr k0 n (IntKind.i64.wrap (x3+(1:Int)))))) (none)) ((ep x1 x2 x4 kr k0 n (IntKind.i64.wrap (x3+(1:Int)))))) (none)) ((k0))
noncomputable def eC {R:Type} (x11:Int) (x12:Str) (x14:aq) (kr:Option R) (k2:Option R):Nat->Int->Option R
 |0,_=>none
 |n+1,x13=>
  ah (decide (x13<(List.length x14.al.aO:Int))) (
  ah (decide (0<=x13)) (aj x14.al.aO[Int.toNat x13]? λe15=>
  ah (e15.kind==x11) (
  ah (decide (0<=x13)) (aj x14.al.aO[Int.toNat x13]? λe16=>
  ah (e16.data==x12) ((kr)) ((eC x11 x12 x14 kr k2 n (IntKind.i64.wrap (x13+(1:Int)))))) (none)) ((eC x11 x12 x14 kr k2 n (IntKind.i64.wrap (x13+(1:Int)))))) (none)) ((k2))
noncomputable def cX {R:Type} (x21:Int) (x22:Str) (x24:aq) (kr:Option R) (k4:Option R):Nat->Int->Option R
 |0,_=>none
 |n+1,x23=>
  ah (decide (x23<(List.length x24.al.kept:Int))) (
  ah (x21==(1:Int)) (
  ah (decide (0<=x23)) (aj x24.al.kept[Int.toNat x23]? λe25=>
  ah e25.content (
  ah (decide (0<=x23)) (aj x24.al.kept[Int.toNat x23]? λe26=>
  ah (e26.data==x22) ((kr)) ((cX x21 x22 x24 kr k4 n (IntKind.i64.wrap (x23+(1:Int)))))) (none)) ((cX x21 x22 x24 kr k4 n (IntKind.i64.wrap (x23+(1:Int)))))) (none)) ((k4))) ((k4))
noncomputable def lV (w0:aq) (w1:Int) (w2:Str):Option (Bool):=
 ep w1 w2 w0 (some true) (eC w1 w2 w0 (some true) (cX w1 w2 w0 (some true) (some false) bx (0:Int)) bx (0:Int)) bx (0:Int)
noncomputable def eU {R:Type} (x2:Fs) (x3:aq) (k0:(List Int)->Option R):Nat->Int->(List Int)->Option R
 |0,_,_=>none
 |n+1,x1,x4=>
  ah (decide (x1<(List.length x2.aa:Int))) (
  ah (decide (0<=x1)) (aj x2.aa[Int.toNat x1]? λe5=>
  ah (e5.kind !=(2:Int)) (aj (lV x3 e5.kind e5.data) λy6=>
  ah (!y6) (aS (x4.length+[e5.ino].length) ((eU x2 x3 k0 n (IntKind.i64.wrap (x1+(1:Int))) (x4++[e5.ino])))) ((eU x2 x3 k0 n (IntKind.i64.wrap (x1+(1:Int))) x4))) ((eU x2 x3 k0 n (IntKind.i64.wrap (x1+(1:Int))) x4))) (none)) ((k0 x4))
noncomputable def qd (w0:Fs) (w1:aq):Option ((List Int)):=
 eU w0 w1 (λz8=>some z8) bx (0:Int) ([] :List Int)
noncomputable def gf (w0:aq) (w1:(List Opn)):Option (aq×Int):=
 aj (gW w1) λy1=>aj (gS w0 y1 (List.length y1:Int)) λy2=>ah (y2.2.2 !=(0:Int)) (some (w0,y2.2.2)) (some (y2.1,(0:Int)))
noncomputable def cV {R:Type} (x1:List ao) (x2:Int) (x5:Int) (x6:Str) (kr:Int->Option R) (k0:Option R):Nat->Int->Option R
 |0,_=>none
 |n+1,x3=>
  ah (decide (x3<x2)) (
  ah (decide (0<=x3)) (aj x1[Int.toNat x3]? λe7=>
  ah (e7.kind==x5) (
  ah (e7.data==x6) ((kr x3)) ((cV x1 x2 x5 x6 kr k0 n (IntKind.i64.wrap (x3+(1:Int)))))) ((cV x1 x2 x5 x6 kr k0 n (IntKind.i64.wrap (x3+(1:Int)))))) (none)) ((k0))
noncomputable def cC {R:Type} (x16:List ao) (x17:Int) (x21:Int) (x22:Str) (kr:Int->Option R) (k0:Option R):Nat->Int->Option R
 |0,_=>none
 |n+1,x18=>
  ah (decide (x18<x17)) (
  ah (decide (0<=x18)) (aj x16[Int.toNat x18]? λe23=>
  ah (e23.kind==x21) (
  ah (e23.data==x22) ((kr x18)) ((cC x16 x17 x21 x22 kr k0 n (IntKind.i64.wrap (x18+(1:Int)))))) ((cC x16 x17 x21 x22 kr k0 n (IntKind.i64.wrap (x18+(1:Int)))))) (none)) ((k0))
noncomputable def bY {R:Type} (x34:List Kept) (x35:Int) (x38:Int) (x39:Str) (kr:Int->Option R) (k0:Option R):Nat->Int->Option R
 |0,_=>none
 |n+1,x36=>
  ah (decide (x36<x35)) (
  ah (decide (0<=x36)) (aj x34[Int.toNat x36]? λe40=>
  ah (x38==(1:Int)) (
  ah e40.content (
  ah (e40.data==x39) ((kr x36)) ((bY x34 x35 x38 x39 kr k0 n (IntKind.i64.wrap (x36+(1:Int)))))) ((bY x34 x35 x38 x39 kr k0 n (IntKind.i64.wrap (x36+(1:Int)))))) ((bY x34 x35 x38 x39 kr k0 n (IntKind.i64.wrap (x36+(1:Int)))))) (none)) ((k0))
noncomputable def fR (w0:aq) (w1:Int) (w2:Str):Option (Bool):=
 cV w0.fs.aa (List.length w0.fs.aa:Int) w1 w2 (λz15=>
 ah (decide (z15>=(0:Int))) (some true) (cC w0.al.aO (List.length w0.al.aO:Int) w1 w2 (λz33=>
 ah (decide (z33>=(0:Int))) (some true) (bY w0.al.kept (List.length w0.al.kept:Int) w1 w2 (λz44=>some (decide (z44>=(0:Int)))) (some false) bx (0:Int))) (bY w0.al.kept (List.length w0.al.kept:Int) w1 w2 (λz45=>some (decide (z45>=(0:Int)))) (some false) bx (0:Int)) bx (0:Int))) (cC w0.al.aO (List.length w0.al.aO:Int) w1 w2 (λz46=>
 ah (decide (z46>=(0:Int))) (some true) (bY w0.al.kept (List.length w0.al.kept:Int) w1 w2 (λz47=>some (decide (z47>=(0:Int)))) (some false) bx (0:Int))) (bY w0.al.kept (List.length w0.al.kept:Int) w1 w2 (λz48=>some (decide (z48>=(0:Int)))) (some false) bx (0:Int)) bx (0:Int)) bx (0:Int)
noncomputable def fF {R:Type} (x1:List ao) (x2:Int) (x4:aq) (k0:(List Int)->Option R):Nat->Int->(List Int)->Option R
 |0,_,_=>none
 |n+1,x3,x5=>
  ah (decide (x3<x2)) (
  ah (decide (0<=x3)) (aj x1[Int.toNat x3]? λe6=>
  ah (e6.kind==(2:Int)) ((fF x1 x2 x4 k0 n (IntKind.i64.wrap (x3+(1:Int))) x5)) (aj (fR x4 e6.kind e6.data) λy7=>
  ah y7 ((fF x1 x2 x4 k0 n (IntKind.i64.wrap (x3+(1:Int))) x5)) (aS (x5.length+[e6.ino].length) ((fF x1 x2 x4 k0 n (IntKind.i64.wrap (x3+(1:Int))) (x5++[e6.ino])))))) (none)) ((k0 x5))
noncomputable def gh (w0:Fs) (w1:aq):Option ((List Int)):=
 fF w0.aa (List.length w0.aa:Int) w1 (λz9=>some z9) bx (0:Int) ([] :List Int)
noncomputable def nW:Option (aq):=
 aj (oU (4:Int) (9:Int)) λy1=>aj (bU (⟨y1.ay,y1.aB,(9:Int),y1.aa⟩:Fs) (⟨(1:Int),(2:Int),0, [],(1:Int),[(⟨([97]:Str),(4:Int)⟩:Entry),(⟨([98]:Str),(3:Int)⟩:Entry)]⟩:ao)) λy2=>aj (bU y2 (⟨(3:Int),(1:Int),(1:Int),([121]:Str),0,([] :List Entry)⟩:ao)) λy3=>aj (bU y3 (⟨(4:Int),(1:Int),(1:Int),([122]:Str),0,([] :List Entry)⟩:ao)) λy4=>some (⟨y4,(⟨([] :List Kept),([] :List ao)⟩:du)⟩:aq)
noncomputable def cu:Option (Bool):=
 aj (nW) λy1=>aj (kD y1 [(⟨(3:Int),(1:Int),([47,97]:Str),([47,98]:Str), []⟩:Opn)] (1:Int)) λy2=>aj (gf y2.1 [(⟨(3:Int),(1:Int),([47,97]:Str),([47,98]:Str), []⟩:Opn)]) λy3=>aj (gf y1 [(⟨(3:Int),(1:Int),([47,97]:Str),([47,98]:Str), []⟩:Opn)]) λy4=>aj (gh y1.fs (⟨y2.1.fs,(⟨([] :List Kept),([] :List ao)⟩:du)⟩:aq)) λy5=>
 ah (y2.2.2==(0:Int)) (
 ah (y3.2==(0:Int)) (aj (dG y3.1 y1) λy6=>
 ah y6 (
 ah (y4.2==(13:Int)) (aj (fR y2.1 (1:Int) ([121]:Str)) λy7=>
 ah y7 (aj (fR (⟨y2.1.fs,(⟨([] :List Kept),([] :List ao)⟩:du)⟩:aq) (1:Int) ([121]:Str)) λy8=>
 ah (!y8) (aj (gh y1.fs y2.1) λy9=>
 ah ((List.length y9:Int)==(0:Int)) (
 ah ((List.length y5:Int)==(1:Int)) (
 ah (decide (0<=(0:Int))) (aj y5[Int.toNat (0:Int)]? λe10=>some (e10==(3:Int))) (none)) (some false)) (some false)) (some false)) (some false)) (some false)) (some false)) (some false)) (some false)
noncomputable def kQ (w0:aq) (w1:(List Opn)):Option (Bool):=
 aj (rF w0) λy1=>
 ah y1 (
 ah (decide (w0.fs.next<(549755813888:Int))) (aj (o5 w1) λy2=>
 ah y2 (some (decide ((List.length w1:Int)<=(30:Int)))) (some false)) (some false)) (some false)
noncomputable def me (w0:aq) (w1:(List Opn)):Option (Bool):=
 aj (cu) λy1=>
 ah (!y1) (aj (cu) λy2=>some y2) (aj (kQ w0 w1) λy3=>
 ah (!y3) (aj (cu) λy4=>some y4) (aj (gf w0 w1) λy5=>aj (qx w0 w1) λy6=>aj (dG y5.1 y6.1) λy7=>
 ah y7 (some (y5.2==y6.2)) (some false)))
noncomputable def d_ {R:Type} (x12:List Int) (x13:List Int) (kr:Option R) (k0:Option R):Nat->Int->Option R
 |0,_=>none
 |n+1,x14=>
  ah (decide (x14<(List.length x12:Int))) (
  ah (decide (0<=x14)) (aj x12[Int.toNat x14]? λe15=>
  ah (decide (0<=x14)) (aj x13[Int.toNat x14]? λe16=>
  ah (e15 !=e16) ((kr)) ((d_ x12 x13 kr k0 n (IntKind.i64.wrap (x14+(1:Int)))))) (none)) (none)) ((k0))
noncomputable def mw (w0:Fs) (w1:aq) (w2:Int) (w3:Str):Option (Bool):=
 aj (cu) λy1=>
 ah (!y1) (aj (cu) λy2=>some y2) (aj (kQ w1 ([] :List Opn)) λy3=>
 ah (!y3) (aj (cu) λy4=>some y4) (aj (uL w0) λy5=>
 ah (!y5) (aj (cu) λy6=>some y6) (
 ah (decide ((List.length w3:Int)>(1000:Int))) (aj (cu) λy7=>some y7) (aj (gh w0 w1) λy8=>aj (qd w0 w1) λy9=>aj (fR w1 w2 w3) λy10=>aj (lV w1 w2 w3) λy11=>
 ah (!(y10==y11)) (some false) (
 ah ((List.length y8:Int) !=(List.length y9:Int)) (some false) (d_ y8 y9 (some false) (some true) bx (0:Int)))))))
noncomputable def cT {R:Type} (x12:aq) (x13:aq) (kr:Option R) (k0:Option R):Nat->Int->Option R
 |0,_=>none
 |n+1,x11=>
  ah (decide (x11<(List.length x12.al.kept:Int))) (
  ah (decide (0<=x11)) (aj x12.al.kept[Int.toNat x11]? λe14=>
  ah e14.content (
  ah (decide (0<=x11)) (aj x12.al.kept[Int.toNat x11]? λe15=>aj (fR x13 (1:Int) e15.data) λy16=>
  ah (!y16) ((kr)) ((cT x12 x13 kr k0 n (IntKind.i64.wrap (x11+(1:Int)))))) (none)) ((cT x12 x13 kr k0 n (IntKind.i64.wrap (x11+(1:Int)))))) (none)) ((k0))
noncomputable def j9 (w0:aq) (w1:(List Opn)) (w2:Int):Option (Bool):=
 aj (cu) λy1=>
 ah (!y1) (aj (cu) λy2=>some y2) (aj (kQ w0 w1) λy3=>
 ah (!y3) (aj (cu) λy4=>some y4) (aj (nh w1) λy5=>
 ah (!y5) (aj (cu) λy6=>some y6) (aj (kD w0 w1 (IntKind.i64.wrap (w2))) λy7=>aj (gh w0.fs y7.1) λy8=>
 ah ((List.length y8:Int) !=(0:Int)) (some false) (cT w0 y7.1 (some false) (
 ah (decide (0<=y7.2.1/\y7.2.1<=(w1.length:Int))) (aj (gf y7.1 (w1.take (Int.toNat y7.2.1))) λy22=>
 ah (y22.2==(0:Int)) (aj (dG (⟨(⟨y22.1.fs.ay,y22.1.fs.aB,w0.fs.next,y22.1.fs.aa⟩:Fs),y22.1.al⟩:aq) w0) λy23=>some y23) (some false)) (none)) bx (0:Int)))))
noncomputable def mj (w0:aq) (w1:(List Opn)):Option (Bool):=
 aj (cu) λy1=>
 ah (!y1) (aj (cu) λy2=>some y2) (aj (kQ w0 w1) λy3=>
 ah (!y3) (aj (cu) λy4=>some y4) (aS (([] :List ao).length+w0.fs.aa.length) (aS (([] :List Kept).length+w0.al.kept.length) (aS (([] :List ao).length+w0.al.aO.length) (aS (([] :List Opn).length+w1.length) (sh (⟨w0.fs.ay,w0.fs.aB,w0.fs.next,(([] :List ao)++w0.fs.aa)⟩:Fs) λs1=>sh (⟨s1,(⟨(([] :List Kept)++w0.al.kept),(([] :List ao)++w0.al.aO)⟩:du)⟩:aq) λs0=>aj (gf s0 (([] :List Opn)++w1)) λy5=>aj (gh s1 s0) λy6=>aj (dG s0 w0) λy7=>
 ah y7 (aj (jy (([] :List Opn)++w1) w1) λy8=>
 ah y8 (aj (gh w0.fs w0) λy9=>some ((List.length y9:Int)==(0:Int))) (some false)) (some false)))))))
end Go.Eng
