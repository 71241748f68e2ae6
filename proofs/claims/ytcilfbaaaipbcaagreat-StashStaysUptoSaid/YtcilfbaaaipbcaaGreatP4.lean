/- A part of the proofs of the laws of this seat: the engine that reads the program's code, plain functions, or facts of the program's functions. Conditions: none. -/
import Derived.Test.YtcilfbaaaipbcaaGreatP3
import Derived.Test.YtcilfbaaaipbcaaGreatE4
import Derived.Test.YtcilfbaaaipbcaaGreatP1
import Derived.Test.YtcilfbaaaipbcaaGreatP2
set_option linter.unusedSectionVars false
set_option linter.unusedVariables false
set_option linter.unusedSimpArgs false
set_option linter.unnecessarySimpa false
set_option linter.unusedSimpArgs false
set_option linter.unusedVariables false
set_option linter.unusedSectionVars false
namespace Go.Eng
open Go
section
variable {f:Fs} {d1 d2 x:ae} {n1 n2:Str} {e:Entry}
def mvD (d1 d2:ae) (n1:Str):ae:=if d1.ino=d2.ino then d1.cE n1 else d2
def mvF (f:Fs) (d1:ae) (n1:Str) (d2:ae) (n2:Str) (x:ae):Fs:=
 if x.kind=2 then ((f.set (d1.cE n1)).set ((mvD d1 d2 n1).b_ n2 x.ino)).set (x.jd d2.ino) else (f.set (d1.cE n1)).set ((mvD d1 d2 n1).b_ n2 x.ino)
structure Mv (f:Fs) (d1:ae) (n1:Str) (d2:ae) (n2:Str) (x:ae) (e:Entry):Prop where
 ent:Ent f d1 n1 x e
 free:jc f d2 n2
 out:¬∃n,Way f.aa x.ino d2.ino n
theorem oJ:(mvD d1 d2 n1).ino=d2.ino:=by
 unfold mvD;split
 ·rename_i h;exact h
 ·rfl
theorem Mv.ne2 (h:Mv f d1 n1 d2 n2 x e):x.ino≠d2.ino:=fun e1=>h.out ⟨0,by rw[e1];exact .here⟩
theorem Mv.same (h:Mv f d1 n1 d2 n2 x e) (e1:d1.ino=d2.ino):d1=d2:=by
 have:=h.ent.hd;rw[e1,h.free.hd] at this;exact(Option.some.inj this).symm
theorem Mv.dk (h:Mv f d1 n1 d2 n2 x e) (ht:Tree f):(mvD d1 d2 n1).kind=2:=by
 unfold mvD;split
 ·exact h.ent.kind ht
 ·exact h.free.hk
theorem Mv.WE (h:Mv f d1 n1 d2 n2 x e):dS n2 (mvD d1 d2 n1).entries=none:=by
 unfold mvD;split
 ·rename_i e1
  show dS n2 (dV n1 d1.entries)=none;rw[m8];split
  ·rfl
  ·rw[h.same e1];exact h.free.h0
 ·exact h.free.h0
theorem Mv.NT (h:Mv f d1 n1 d2 n2 x e) (ht:Tree f):f_ (mvD d1 d2 n1).entries=true:=by
 unfold mvD;split
 ·exact u0 (ht.iy h.ent.hd).2.2.2.2.2
 ·exact(ht.iy h.free.hd).2.2.2.2.2
theorem zq (h:Mv f d1 n1 d2 n2 x e) (ht:Tree f) (k:Int):au k (mvF f d1 n1 d2 n2 x).aa=
 if x.ino=k then some (if x.kind=2 then x.jd d2.ino else x) else if d2.ino=k then some ((mvD d1 d2 n1).b_ n2 x.ino) else if d1.ino=k then some (d1.cE n1) else au k f.aa:=by
 have e1:(((mvD d1 d2 n1).b_ n2 x.ino).ino)=d2.ino:=oJ;have hx1:=h.ent.ne ht;have hx2:=h.ne2;unfold mvF;by_cases hk:x.kind=2
 ·rw[if_pos hk,if_pos hk]
  show au k (bH _ (bH _ (bH _ f.aa)))=_;rw[bR,bR,bR,e1];rfl
 ·rw[if_neg hk,if_neg hk]
  show au k (bH _ (bH _ f.aa))=_;rw[bR,bR,e1];by_cases h0:x.ino=k
  ·rw[if_pos h0,if_neg (fun e=>hx2 (by rw[h0,e])),if_neg (fun e=>hx1 (by rw[h0,←e];rfl)),←h0,h.ent.hx]
  ·rw[if_neg h0];rfl
theorem Hj (ht:Tree f):cA (mvF f d1 n1 d2 n2 x).aa:=by
 unfold mvF;split
 ·exact cg (cg (cg ht.sort))
 ·exact cg (cg ht.sort)
theorem oX {y:ae} (h:y.kind=2):byt y=0:=by unfold byt;rw[if_neg (by omega)]
theorem KS (h:Mv f d1 n1 d2 n2 x e) (ht:Tree f):(mvF f d1 n1 d2 n2 x).aa.length=f.aa.length∧bytesOf (mvF f d1 n1 d2 n2 x).aa=bytesOf f.aa∧∀n,fc n (mvF f d1 n1 d2 n2 x).aa=fc n f.aa:=by
 have hs:=ht.sort;have hs1:=cg (x:=d1.cE n1) hs;have hs2:=cg (x:=(mvD d1 d2 n1).b_ n2 x.ino) hs1;have h1:au (d1.cE n1).ino f.aa=some d1:=h.ent.hd;have h2:au ((mvD d1 d2 n1).b_ n2 x.ino).ino (bH (d1.cE n1) f.aa)=some (mvD d1 d2 n1):=by
  rw[show((mvD d1 d2 n1).b_ n2 x.ino).ino=d2.ino from oJ,bR];unfold mvD;by_cases e1:d1.ino=d2.ino
  ·rw[if_pos (show(d1.cE n1).ino=d2.ino from e1),if_pos e1]
  ·rw[if_neg (show¬(d1.cE n1).ino=d2.ino from e1),if_neg e1];exact h.free.hd
 have a1:(bH (d1.cE n1) f.aa).length=f.aa.length:=by rw[gC hs,h1];rfl
 have a2:(bH ((mvD d1 d2 n1).b_ n2 x.ino) (bH (d1.cE n1) f.aa)).length=f.aa.length:=by rw[gC hs1,h2];exact a1
 have b1:=fi (x:=d1.cE n1) hs;rw[h1] at b1;simp only[h_] at b1;rw[oX (h.ent.kind ht),oX (show(d1.cE n1).kind=2 from h.ent.kind ht)] at b1;have b2:=fi (x:=(mvD d1 d2 n1).b_ n2 x.ino) hs1;rw[h2] at b2;simp only[h_] at b2;rw[oX (h.dk ht),oX (show((mvD d1 d2 n1).b_ n2 x.ino).kind=2 from h.dk ht)] at b2;have c2:∀n,fc n (bH ((mvD d1 d2 n1).b_ n2 x.ino) (bH (d1.cE n1) f.aa))=fc n f.aa:=fun n=>by
  have c1:=jS (x:=d1.cE n1) hs n;rw[h1] at c1;have c2:=jS (x:=(mvD d1 d2 n1).b_ n2 x.ino) hs1 n;rw[h2] at c2;have c3:=Dy (m:=n1) (ht.iy h.ent.hd).2.2.2.2.1 n;rw[h.ent.he] at c3;have c4:=G1 (e:=⟨n2,x.ino⟩) ((gB _).1 (h.NT ht)).1 n;rw[show(⟨n2,x.ino⟩:Entry).name=n2 from rfl,h.WE] at c4;simp only[h_,one,h.ent.hn] at c1 c2 c3 c4;have q1:(d1.cE n1).entries=dV n1 d1.entries:=rfl;have q2:((mvD d1 d2 n1).b_ n2 x.ino).entries=hY ⟨n2,x.ino⟩ (mvD d1 d2 n1).entries:=rfl;rw[q1] at c1;rw[q2] at c2;omega
 unfold mvF;by_cases hk:x.kind=2
 ·simp only[if_pos hk]
  have h3:au (x.jd d2.ino).ino (bH ((mvD d1 d2 n1).b_ n2 x.ino) (bH (d1.cE n1) f.aa))=some x:=by
   rw[show(x.jd d2.ino).ino=x.ino from rfl,bR,if_neg (by rw[show((mvD d1 d2 n1).b_ n2 x.ino).ino=d2.ino from oJ];exact fun e=>h.ne2 e.symm),bR,if_neg (show¬(d1.cE n1).ino=x.ino from fun e=>h.ent.ne ht e.symm)];exact h.ent.hx
  refine⟨?_, ?_,fun n=> ?_⟩
  ·show(bH _ (bH _ (bH _ f.aa))).length=_
   rw[gC hs2,h3];exact a2
  ·show bytesOf (bH _ (bH _ (bH _ f.aa)))=_
   have:=fi (x:=x.jd d2.ino) hs2;rw[h3] at this;have q:byt (x.jd d2.ino)=byt x:=rfl;simp only[h_,q] at this;omega
  ·show fc n (bH _ (bH _ (bH _ f.aa)))=_
   have:=jS (x:=x.jd d2.ino) hs2 n;rw[h3,c2] at this;have q:(x.jd d2.ino).entries=x.entries:=rfl;simp only[h_,q] at this;omega
 ·simp only[if_neg hk]
  exact⟨a2,by show bytesOf (bH _ (bH _ f.aa))=_;omega,c2⟩
end
end Go.Eng
set_option linter.unusedSimpArgs false
set_option linter.unusedVariables false
set_option linter.unusedSectionVars false
namespace Go.Eng
open Go
structure Ext (f g:Fs) (D:Int) (N:Str) (x:ae):Prop where
 wf:WS f
 wg:WS g
 old:∀k a,au k f.aa=some a→∃b,au k g.aa=some b∧a.ino=b.ino∧a.kind=b.kind∧a.parent=b.parent∧(a.kind=3→a.data=b.data)∧∀n,(k=D∧n=N)∨cB n b.entries=cB n a.entries
 new:au x.ino g.aa=some x
 was:∀d,au D f.aa=some d→cB N d.entries=0
 now:∀d,au D g.aa=some d→cB N d.entries=x.ino
 pos:D≠0
def o7 (D:Int) (N:Str) (i:Int) (s:ax):ax:=if s.dir=D∧s.name=N then ⟨D,N,i⟩ else s
def OkS (f:Fs) (D:Int) (N:Str) (s:ax):Prop:=(s.dir=D∧s.name=N→s.ino=0)∧(s.ino=0∨(au s.ino f.aa).isSome=true)
section
variable {f g:Fs} {D:Int} {N:Str} {x:ae}
theorem m5 {s:ax} {i:Int} (h:¬(s.dir=D∧s.name=N)):o7 D N i s=s:=by unfold o7;rw[if_neg h]
theorem OkS.ne {s:ax} (h:OkS f D N s) (h0:s.ino≠0):¬(s.dir=D∧s.name=N):=fun e=>h0 (h.1 e)
theorem Ext.here (h:Ext f g D N x) {j:Int} {d:ae} (hj:au j f.aa=some d):o7 D N x.ino ⟨0, [],j⟩=⟨0, [],j⟩∧OkS f D N ⟨0, [],j⟩:=
 ⟨m5 fun e=>h.pos e.1.symm,fun e=>absurd e.1.symm h.pos,Or.inr (by show(au j f.aa).isSome=true;rw[hj];rfl)⟩
theorem Ext.look (h:Ext f g D N x) {k:Int} {d b:ae} (hd:au k f.aa=some d) (hb:au k g.aa=some b) (n:Str):(⟨b.ino,n,cB n b.entries⟩:ax)=o7 D N x.ino ⟨d.ino,n,cB n d.entries⟩∧OkS f D N ⟨d.ino,n,cB n d.entries⟩:=by
 have d2:=(aW hd).2;have b2:=(aW hb).2;constructor
 ·by_cases hs:d.ino=D∧n=N
  ·obtain⟨e1,rfl⟩:=hs
   unfold o7;rw[if_pos ⟨e1,rfl⟩,h.now b (by rw[←e1,d2];exact hb),b2,←d2,e1]
  ·rw[m5 hs]
   obtain⟨b',hb',_,_,_,_,h5⟩:=h.old k d hd;rw[hb] at hb';cases hb';rcases h5 n with⟨e1,e2⟩ |h5
   ·exact absurd ⟨by rw[d2,e1],e2⟩ hs
   ·rw[h5,b2,d2]
 ·refine⟨fun e=> ?_, ?_⟩
  ·obtain⟨e1,e2⟩:=e
   have e1:d.ino=D:=e1;have e2:n=N:=e2;show cB n d.entries=0;rw[e2];exact h.was d (by rw[←e1,d2];exact hd)
  ·exact na h.wf.wf (aW hd).1 n
theorem Ext.dh (h:Ext f g D N x):∀(ns:List Str) (s t:ax),OkS f D N s→dh f.aa ns s=(t,0)→dh g.aa ns (o7 D N x.ino s)=(o7 D N x.ino t,0)∧OkS f D N t
 | [],s,t,hs,hg=>by
  simp only[Go.Eng.dh,Prod.mk.injEq] at hg⊢;obtain⟨rfl,_⟩:=hg;exact⟨⟨rfl,trivial⟩,hs⟩
 |n::ns,s,t,hs,hg=>by
  cases hf:au s.ino f.aa with
  |none=>rw[js hf] at hg;simp at hg
  |some d=>
   by_cases hk:d.kind=2
   ·rw[fK hf hk] at hg
    have h0:s.ino≠0:=fun e=>by rw[e,h.wf.wf.zero] at hf;cases hf
    rw[m5 (hs.ne h0)];obtain⟨b,hb,_,h2,_⟩:=h.old _ d hf;obtain⟨l1,l2⟩:=h.look hf hb n;rw[fK hb (by rw[←h2];exact hk),l1];exact Ext.dh h ns _ t l2 hg
   ·rw[jG hf hk] at hg;simp at hg
theorem Ext.iy (h:Ext f g D N x) {k:Int} (hk:k=0∨(au k f.aa).isSome=true):(aK k g.aa).kind=(aK k f.aa).kind∧((aK k f.aa).kind=3→(aK k f.aa).data=(aK k g.aa).data):=by
 rcases hk with rfl|hk
 ·rw[dO h.wf.wf.zero,dO h.wg.wf.zero];exact⟨rfl,fun _=>rfl⟩
 ·obtain⟨a,ha⟩:=Option.isSome_iff_exists.1 hk
  obtain⟨b,hb,_,h2,_,h4,_⟩:=h.old k a ha;rw[bx ha,bx hb];exact⟨h2.symm,h4⟩
theorem Ext.ru (h:Ext f g D N x) {dir:Bool} (hx:dir=true→x.kind=2) {s t:ax} (hs:OkS f D N s) (he:ru f.aa dir s=(t,0)):ru g.aa dir (o7 D N x.ino s)=(o7 D N x.ino t,0)∧OkS f D N t:=by
 have ht:t=s:=by
  unfold Go.Eng.ru at he;split at he
  ·split at he
   ·simp at he
   ·exact(Prod.mk.inj he).1.symm
  ·exact(Prod.mk.inj he).1.symm
 subst ht;refine⟨?_,hs⟩;by_cases hsp:t.dir=D∧t.name=N
 ·have:o7 D N x.ino t=⟨D,N,x.ino⟩:=by unfold o7;rw[if_pos hsp]
  rw[this];unfold Go.Eng.ru;simp only;rw[h.new];simp only;rw[if_neg (fun e=>e.2 (hx e.1))]
 ·rw[m5 hsp]
  unfold Go.Eng.ru at he⊢;rcases hs.2 with h0|h0
  ·rw[h0,h.wg.wf.zero]
  ·obtain⟨a,ha⟩:=Option.isSome_iff_exists.1 h0
   obtain⟨b,hb,_,h2,_⟩:=h.old _ a ha;rw[ha] at he;rw[hb];simp only at he⊢;rw[←h2];exact he
theorem Ext.cY (h:Ext f g D N x) {lnk lnk':Bool→ae→ae→List Str→ax×Int} {dir:Bool} (hx:dir=true→x.kind=2)
 (hl:∀(a b d d':ae) (rest:List Str) (t:ax),(rest≠ [] ∨dir=true)→a.data=b.data→d.ino=d'.ino→(∃z,au d.ino f.aa=some z)→lnk dir a d rest=(t,0)→lnk' dir b d' rest=(o7 D N x.ino t,0)∧OkS f D N t):
 ∀(todo:List Str) (s t:ax),OkS f D N s→cY f.aa false lnk dir todo s=(t,0)→cY g.aa false lnk' dir todo (o7 D N x.ino s)=(o7 D N x.ino t,0)∧OkS f D N t
 | [],s,t,hs,hg=>h.ru hx hs hg
 |n::rest,s,t,hs,hg=>by
  cases hf:au s.ino f.aa with
  |none=>rw[lI hf] at hg;simp at hg
  |some d=>
   by_cases hk:d.kind=2
   ·have h0:s.ino≠0:=fun e=>by rw[e,h.wf.wf.zero] at hf;cases hf
    rw[m5 (hs.ne h0)];obtain⟨b,hb,h1,h2,h3,_⟩:=h.old _ d hf;have hkb:b.kind=2:=by rw[←h2];exact hk
    by_cases n1:n=[46]
    ·rw[nE hf hk n1] at hg
     rw[nE hb hkb n1,←h1];have hd:au d.ino f.aa=some d:=by rw[(aW hf).2];exact hf
     obtain⟨u1,u2⟩:=h.here hd;have:=Ext.cY h hx hl rest _ t u2 hg;rwa[u1] at this
    ·by_cases n2:n=[46,46]
     ·rw[oW hf hk n2] at hg
      rw[oW hb hkb n2,←h3];obtain⟨y,hy,_⟩:=h.wf.par d (aW hf).1 hk;obtain⟨u1,u2⟩:=h.here hy;have:=Ext.cY h hx hl rest _ t u2 hg;rwa[u1] at this
     ·obtain⟨l1,l2⟩:=h.look hf hb n
      by_cases hsp:d.ino=D∧n=N
      ·have hz:cB n d.entries=0:=l2.1 hsp
       have hki:(aK (cB n d.entries) f.aa).kind=0:=by rw[hz,dO h.wf.wf.zero];rfl
       rw[jj hf hk n1 n2 (fun c=>by rw[hki] at c;exact absurd c.1 (by decide))] at hg;cases rest with
       |nil=>
        have hb2:cB n b.entries=x.ino:=by
         rw[hsp.2];exact h.now b (by rw[←hsp.1,(aW hf).2];exact hb)
        rw[jj hb hkb n1 n2 (fun c=>by
         rw[hb2,bx h.new] at c;have:=hx (by simpa using c.2);omega),l1]
        exact h.ru hx l2 hg
       |cons m rest=>
        rw[hz,lI (h.wf.wf.zero)] at hg;simp at hg
      ·rw[m5 hsp] at l1
       have e1:cB n b.entries=cB n d.entries:=(ax.mk.inj l1).2.2;obtain⟨k1,k2⟩:=h.iy l2.2;by_cases c:(aK (cB n d.entries) f.aa).kind=3∧(rest≠ [] ∨false=true∨dir=true)
       ·rw[iD hf hk n1 n2 c] at hg
        rw[iD hb hkb n1 n2 (by rw[e1];exact⟨by rw[k1];exact c.1,c.2⟩),e1];refine hl _ _ _ _ _ _ (by simpa using c.2) (k2 c.1) h1 ⟨d,by rw[(aW hf).2];exact hf⟩ hg
       ·rw[jj hf hk n1 n2 c] at hg
        rw[jj hb hkb n1 n2 (by rw[e1];exact fun c'=>c ⟨by rw[←k1];exact c'.1,c'.2⟩),l1];have:=Ext.cY h hx hl rest _ t l2 hg;rwa[m5 hsp] at this
   ·rw[n_ hf hk] at hg;simp at hg
theorem Ext.onK (h:Ext f g D N x):∀(k:Nat) (dir:Bool) (todo:List Str) (s t:ax),(dir=true→x.kind=2)→OkS f D N s→onK f.aa false k dir todo s=(t,0)→onK g.aa false k dir todo (o7 D N x.ino s)=(o7 D N x.ino t,0)∧OkS f D N t
 |0,dir,todo,s,t,hx,hs,hg=>h.cY hx (fun a b d d' rest t _ _ _ _ hh=>by simp at hh) todo s t hs hg
 |k+1,dir,todo,s,t,hx,hs,hg=>by
  refine h.cY hx (fun a b d d' rest t hr hd hi ⟨z,hz⟩ hh=> ?_) todo s t hs hg;rw[←hd,←hi];by_cases hl:nP a.data=true
  ·rw[if_pos hl] at hh;simp at hh
  ·rw[if_neg hl] at hh⊢
   have hj:∃z',au (if (dJ a.data).abs=true then 1 else d.ino) f.aa=some z':=by
    split
    ·exact Option.isSome_iff_exists.1 h.wf.wf.root
    ·exact⟨z,hz⟩
   obtain⟨z',hz'⟩:=hj;obtain⟨u1,u2⟩:=h.here hz';have:=Ext.onK h k _ _ _ t (fun hd'=>hx (by
    rw[Bool.or_eq_true,Bool.and_eq_true] at hd';rcases hd' with hd'|⟨_,hd'⟩
    ·exact hd'
    ·rcases hr with hr|hr
     ·exact absurd (by simpa using hd') hr
     ·exact hr)) u2 hh
   rwa[u1] at this
end
end Go.Eng
set_option linter.unusedSimpArgs false
set_option linter.unusedVariables false
namespace Go.Eng
open Go
theorem wh {f:Fs} {n:Int} (hs:cA f.aa) (hl:f.aa.length≤1073741824):np f n=some (f.drop n):=by
 unfold np Fs.drop;rw[n6 hs hl];simp only[ai];generalize f.aa=l at hs hl;cases h:yo n l
 ·have hf:=wJ hs h
  have e9:dn n l=l:=nv hf;rw[e9];refine jO (fun e=> ?_) ?_
  ·subst e;rfl
  ·rw[bZ (by unfold LIM;simp;omega)]
   simp only[ay,List.nil_append]
 ·obtain⟨x,hx,hxn⟩:=w6 h
  have e9:dn n l=l.take (kb n l)++l.drop (kb n l+1):=oR loI hs hx hxn;rw[e9];have hlt:kb n l<l.length:=(List.getElem?_eq_some_iff.1 hx).1;clear h hx e9;generalize kb n l=c at hlt;refine jO (fun e=>by subst e;simp at hlt) ?_;rw[bZ (by unfold LIM;simp;omega)];have e1:IntKind.i64.wrap ((c:Int)+(1:Int))=((c+1:Nat):Int):=bc (by omega);have hS:(l.drop (c+1)).take (l.length - (c+1))=l.drop (c+1):=by rw[List.take_of_length_le];simp
  have hSl:(l.drop (c+1)).length=l.length - (c+1):=by simp
  have e2:(c:Int)+((l.length - (c+1):Nat):Int)=((l.length - 1:Nat):Int):=by omega
  simp only[aC,List.nil_append,e1,toNat_cast,Nat.zero_add,hS,hSl,e2];have e3:c+(l.length - (c+1))=l.length - 1:=by omega
  simp only[e3];have hM:(l.take c++(l.drop (c+1)++l.drop (l.length - 1))).length=l.length:=by simp;omega
  have hT:(l.take c++(l.drop (c+1)++l.drop (l.length - 1))).take (l.length - 1)=l.take c++l.drop (c+1):=by
   rw[←List.append_assoc];exact take_set (by simp;omega)
  simp only[hT,hM];have hA:(l.take c++l.drop (c+1)).length=l.length - 1:=by simp;omega
  have hQ:∀X:List ae,(((l.take c++l.drop (c+1))++X).drop 0).take (l.length - 1)=l.take c++l.drop (c+1):=fun X=>by
   rw[List.drop_zero];exact take_set hA
  rw[aN (by simp),aN (by simp;omega),aN (by simp;omega),bK (by simp;omega),aN (by simp;omega),aN (by simp;omega),aN (Nat.ble_eq_true_of_le (by omega)),aN (Nat.ble_eq_true_of_le (by omega)),aN (decide_eq_true (by omega)),aN (by simp),aN (Nat.ble_eq_true_of_le (by omega)),aN (Nat.ble_eq_true_of_le (by simp;omega)),hQ]
theorem wj {f:Fs} (hl:f.aa.length≤1073741824) (h0: -9223372036854775808≤f.next) (h1:f.next<9223372036854775807):lr f=some (⟨f.ar,f.aw,f.next+1,f.aa⟩,f.next):=by
 unfold lr;have e1:IntKind.i64.wrap (f.next+(1:Int))=f.next+1:=b9 (by omega) (by omega);rw[e1];refine jO (fun e=>by rw[e]) ?_;rw[bZ (by unfold LIM;simp;omega),List.nil_append]
end Go.Eng
set_option linter.unusedVariables false
set_option maxRecDepth 100000
namespace Go.Eng
open Go
noncomputable def qg (w0:Fs) (w1:ax) (w2:Int) (w3:Str):Option (Fs×Int):=
 ah (w2==(1:Int)) (aj (lA w1.name) fun y1=>
 ah (!y1) (some (w0,(9:Int))) (aj (fx w0 (1:Int) (List.length w3:Int)) fun y2=>
 ah (!y2) (some (w0,(8:Int))) (aj (c_ w0 w1.dir) fun y3=>aj (lr w0) fun y4=>
 ah (w2==(2:Int)) (aj (fF y3.1.entries w1.name y4.2) fun y5=>aj (bh y4.1 (⟨y3.1.ino,y3.1.kind,y3.1.aq,y3.1.data,y3.1.parent,y5⟩:ae)) fun y6=>aj (bh y6 (⟨y4.2,w2,(1:Int),w3,w1.dir,([] :List Entry)⟩:ae)) fun y7=>some (y7,(0:Int))) (aj (fF y3.1.entries w1.name y4.2) fun y8=>aj (bh y4.1 (⟨y3.1.ino,y3.1.kind,y3.1.aq,y3.1.data,y3.1.parent,y8⟩:ae)) fun y9=>aj (bh y9 (⟨y4.2,w2,(1:Int),w3,0,([] :List Entry)⟩:ae)) fun y10=>some (y10,(0:Int)))))) (aj (lA w1.name) fun y11=>
 ah (!y11) (some (w0,(9:Int))) (aj (fx w0 (1:Int) (0:Int)) fun y12=>
 ah (!y12) (some (w0,(8:Int))) (aj (c_ w0 w1.dir) fun y13=>aj (lr w0) fun y14=>
 ah (w2==(2:Int)) (aj (fF y13.1.entries w1.name y14.2) fun y15=>aj (bh y14.1 (⟨y13.1.ino,y13.1.kind,y13.1.aq,y13.1.data,y13.1.parent,y15⟩:ae)) fun y16=>aj (bh y16 (⟨y14.2,w2,(1:Int),w3,w1.dir,([] :List Entry)⟩:ae)) fun y17=>some (y17,(0:Int))) (aj (fF y13.1.entries w1.name y14.2) fun y18=>aj (bh y14.1 (⟨y13.1.ino,y13.1.kind,y13.1.aq,y13.1.data,y13.1.parent,y18⟩:ae)) fun y19=>aj (bh y19 (⟨y14.2,w2,(1:Int),w3,0,([] :List Entry)⟩:ae)) fun y20=>some (y20,(0:Int))))))
end Go.Eng
set_option linter.unusedVariables false
set_option maxRecDepth 100000
namespace Go.Eng
open Go
noncomputable def mC (w0:Fs) (w1:ax) (w2:Int) (w3:Str):Option (Fs×Int):=
 aj (jy w1.name) fun y1=>
 ah (!y1) (some (w0,(9:Int))) (
 ah (w2==(1:Int)) (aj (eH w0 (1:Int) (List.length w3:Int)) fun y2=>
 ah (!y2) (some (w0,(8:Int))) (aj (bB w0 w1.dir) fun y3=>aj (iA y3.1.entries w1.name w0.next) fun y4=>
 ah (w2==(2:Int)) (aj (b7 w0 (⟨y3.1.ino,y3.1.kind,y3.1.aq,y3.1.data,y3.1.parent,y4⟩:ae)) fun y5=>aj (b7 y5 (⟨w0.next,w2,(1:Int),w3,w1.dir,([] :List Entry)⟩:ae)) fun y6=>some ((⟨y6.ar,y6.aw,(IntKind.i64.wrap (y6.next+(1:Int))),y6.aa⟩:Fs),(0:Int))) (aj (b7 w0 (⟨y3.1.ino,y3.1.kind,y3.1.aq,y3.1.data,y3.1.parent,y4⟩:ae)) fun y7=>aj (b7 y7 (⟨w0.next,w2,(1:Int),w3,0,([] :List Entry)⟩:ae)) fun y8=>some ((⟨y8.ar,y8.aw,(IntKind.i64.wrap (y8.next+(1:Int))),y8.aa⟩:Fs),(0:Int))))) (aj (eH w0 (1:Int) (0:Int)) fun y9=>
 ah (!y9) (some (w0,(8:Int))) (aj (bB w0 w1.dir) fun y10=>aj (iA y10.1.entries w1.name w0.next) fun y11=>
 ah (w2==(2:Int)) (aj (b7 w0 (⟨y10.1.ino,y10.1.kind,y10.1.aq,y10.1.data,y10.1.parent,y11⟩:ae)) fun y12=>aj (b7 y12 (⟨w0.next,w2,(1:Int),w3,w1.dir,([] :List Entry)⟩:ae)) fun y13=>some ((⟨y13.ar,y13.aw,(IntKind.i64.wrap (y13.next+(1:Int))),y13.aa⟩:Fs),(0:Int))) (aj (b7 w0 (⟨y10.1.ino,y10.1.kind,y10.1.aq,y10.1.data,y10.1.parent,y11⟩:ae)) fun y14=>aj (b7 y14 (⟨w0.next,w2,(1:Int),w3,0,([] :List Entry)⟩:ae)) fun y15=>some ((⟨y15.ar,y15.aw,(IntKind.i64.wrap (y15.next+(1:Int))),y15.aa⟩:Fs),(0:Int))))))
noncomputable def rC (w0:Fs) (w1:Str) (w2:Str) (w3:Int) (w4:Str) (w5:Int):Option (Fs×Int):=
 aj (pN w0 w1 w2 false) fun y1=>
 ah (y1.2 !=(0:Int)) (some (w0,y1.2)) (
 ah (y1.1.ino !=(0:Int)) (some (w0,(2:Int))) (
 ah (w5 !=(0:Int)) (aj (gm w2) fun y2=>
 ah y2.gh (some (w0,w5)) (aj (mC w0 y1.1 w3 w4) fun y3=>some (y3.1,y3.2))) (aj (mC w0 y1.1 w3 w4) fun y4=>some (y4.1,y4.2))))
end Go.Eng
set_option linter.unusedSimpArgs false
set_option linter.unusedVariables false
set_option linter.unusedSectionVars false
namespace Go.Eng
open Go
def Ie (f:Fs) (s:ax) (k:Int) (d:Str):ae:=⟨f.next,k,1,d,if k=2 then s.dir else 0, []⟩
def Qf (f:Fs) (s:ax) (k:Int) (d:Str):Fs:=⟨f.ar,f.aw,f.next+1,bH (Ie f s k d) (bH ((aK s.dir f.aa).b_ s.name f.next) f.aa)⟩
def Ci (f:Fs) (s:ax) (k:Int) (d:Str):Fs×Int:=if fE s.name=true then (if dv f 1 (if k=1 then (d.length:Int) else 0)=true then (Qf f s k d,0) else (f,8)) else (f,9)
def PB (f:Fs) (base p:Str) (k:Int) (d:Str) (r:Int):Fs×Int:=
 if (je f base p false).2=0 then (if (je f base p false).1.ino=0 then (if r≠0∧(dJ p).gh=true then (f,r) else Ci f (je f base p false).1 k d) else (f,2)) else (f,(je f base p false).2)
section
variable {f:Fs} {base p d:Str} {s:ax} {k:Int}
theorem qG (h:WF f) (hl:f.aa.length≤1000000000) (he:(aK s.dir f.aa).entries.length≤1000000000) {nx:Int} {x:ae}:
 bh ⟨f.ar,f.aw,nx,f.aa⟩ ((aK s.dir f.aa).b_ s.name f.next)=some ⟨f.ar,f.aw,nx,bH ((aK s.dir f.aa).b_ s.name f.next) f.aa⟩∧
 bh ⟨f.ar,f.aw,nx,bH ((aK s.dir f.aa).b_ s.name f.next) f.aa⟩ x=some ⟨f.ar,f.aw,nx,bH x (bH ((aK s.dir f.aa).b_ s.name f.next) f.aa)⟩∧
 b7 f ((aK s.dir f.aa).b_ s.name f.next)=some (f.set ((aK s.dir f.aa).b_ s.name f.next))∧
 b7 (f.set ((aK s.dir f.aa).b_ s.name f.next)) x=some ((f.set ((aK s.dir f.aa).b_ s.name f.next)).set x):=by
 have h1:= @l_ f ((aK s.dir f.aa).b_ s.name f.next);have h2:(bH ((aK s.dir f.aa).b_ s.name f.next) f.aa).length≤f.aa.length+1:=h1;refine⟨dE (f:=⟨f.ar,f.aw,nx,f.aa⟩) h.sort (by show f.aa.length≤_;omega),dE (f:=⟨f.ar,f.aw,nx,_⟩) (cg h.sort) (by show(bH _ f.aa).length≤_;omega),cO (by omega),cO (by omega)⟩
theorem wa (h:WF f) (hn:s.name.length≤1099511627775) (hd:d.length≤1073741824) (hl:f.aa.length≤1000000000) (h0: -1152921504606846976≤f.next) (h1:f.next≤1152921504606846976) (he:(aK s.dir f.aa).entries.length≤1000000000):qg f s k d=some (Ci f s k d):=by
 unfold qg Ci Qf Ie;have hw:fF (aK s.dir f.aa).entries s.name f.next=some (hY ⟨s.name,f.next⟩ (aK s.dir f.aa).entries):=pt (qa h _) (by omega);have ht:lr f=some (⟨f.ar,f.aw,f.next+1,f.aa⟩,f.next):=wj (by omega) (by omega) (by omega);have c1:=fun x=>(qG (s:=s) h hl he (nx:=f.next+1) (x:=x)).1
 have c2:=fun x=>(qG (s:=s) h hl he (nx:=f.next+1) (x:=x)).2.1
 rw[sP hn,ai,ai,gX h.sm (by unfold Far;omega) (by unfold Far;omega),gX h.sm (by unfold Far;omega) (by unfold Far;omega),h.get,ht];simp only[ai,kE];rw[hw];simp only[ai];have c1':=c1 kj;unfold ae.b_ ae.s5 at c1';rw[c1'];simp only[ai];have c2':=c2;unfold ae.b_ ae.s5 at c2';simp only[c2',ai];by_cases hk1:k=1
 ·subst hk1
  simp only[decide_true,aC,if_true];cases fE s.name
  ·rfl
  cases dv f 1 (d.length:Int)
  ·rfl
  ·rfl
 ·simp only[hk1,decide_false,ay,if_false]
  cases fE s.name
  ·rfl
  cases dv f 1 0
  ·rfl
  by_cases hk2:k=2
  ·simp only[hk2,decide_true,if_true];rfl
  ·simp only[hk2,decide_false,if_false];rfl
theorem qp (h:WF f) (hn:s.name.length≤1099511627775) (hd:d.length≤1073741824) (hl:f.aa.length≤1000000000) (h0: -1152921504606846976≤f.next) (h1:f.next≤1152921504606846976) (he:(aK s.dir f.aa).entries.length≤1000000000):mC f s k d=some (Ci f s k d):=by
 unfold mC Ci Qf Ie;have hw:iA (aK s.dir f.aa).entries s.name f.next=some (hY ⟨s.name,f.next⟩ (aK s.dir f.aa).entries):=pz (by omega);have c1:=fun x=>(qG (s:=s) h hl he (nx:=f.next+1) (x:=x)).2.2.1
 have c2:=fun x=>(qG (s:=s) h hl he (nx:=f.next+1) (x:=x)).2.2.2
 rw[kG hn,ai,fQ h.sm (by unfold Far;omega) (by unfold Far;omega),fQ h.sm (by unfold Far;omega) (by unfold Far;omega),h.nQ];simp only[ai,kE];rw[hw];simp only[ai];have c1':=c1 kj;unfold ae.b_ ae.s5 at c1';rw[c1'];simp only[ai];have c2':=c2;unfold ae.b_ ae.s5 at c2';simp only[c2',ai];have hw1:IntKind.i64.wrap (f.next+(1:Int))=f.next+1:=b9 (by omega) (by omega);simp only[Fs.set,hw1];cases fE s.name
 ·rfl
 by_cases hk1:k=1
 ·subst hk1
  simp only[decide_true,aC,if_true,Bool.not_true,ay];cases dv f 1 (d.length:Int)
  ·rfl
  ·rfl
 ·simp only[hk1,decide_false,ay,if_false,Bool.not_true]
  cases dv f 1 0
  ·rfl
  by_cases hk2:k=2
  ·simp only[hk2,decide_true,if_true];rfl
  ·simp only[hk2,decide_false,if_false];rfl
theorem ya (h:WS f) {r:Int} (hb:base.length≤8388608) (hp:p.length≤1073741823) (hd:d.length≤1073741824) (hl:f.aa.length≤1000000000) (h0: -1152921504606846976≤f.next) (h1:f.next≤1152921504606846976) (he:∀x∈f.aa,x.entries.length≤1000000000) (hn:(je f base p false).1.name.length≤1099511627775):
 rC f base p k d r=some (PB f base p k d r):=by
 unfold rC PB;have hge:(aK (je f base p false).1.dir f.aa).entries.length≤1000000000:=by
  cases hf:au (je f base p false).1.dir f.aa with
  |none=>rw[dO hf];simp [kj]
  |some x=>rw[bx hf];exact he x (aW hf).1
 rw[vR h hb hp,ai,mg,mg,mg,mh hp,ai,qp h.wf hn hd hl h0 h1 hge];simp only[ai];by_cases z0:(je f base p false).2=0
 ·rw[bK (by simp [z0]),if_pos z0]
  by_cases z1:(je f base p false).1.ino=0
  ·rw[bK (by simp [z1]),if_pos z1]
   by_cases z2:r=0
   ·rw[bK (by simp [z2]),if_neg (by simp [z2])]
   ·rw[aN (by simp [z2])]
    cases z3:(dJ p).gh
    ·rw[if_neg (by simp)];rfl
    ·rw[if_pos (by simp [z2])];rfl
  ·rw[aN (by simp [z1]),if_neg z1]
 ·rw[aN (by simp [z0]),if_neg z0]
end
end Go.Eng
set_option linter.unusedSimpArgs false
set_option linter.unusedVariables false
set_option linter.unusedSectionVars false
namespace Go.Eng
open Go
section
variable {l:List ae} {fol:Bool}
theorem Kr {dir:Bool} {s:ax} (hs:s.name.length≤255):(ru l dir s).1.name.length≤255:=by
 unfold ru;split
 ·split
  ·simp [fz]
  ·exact hs
 ·exact hs
theorem mK {lnk:Bool→ae→ae→List Str→ax×Int} {dir:Bool} (hl:∀x d rest,(∀n∈rest,n.length≤255)→(lnk dir x d rest).1.name.length≤255):
 ∀(todo:List Str) (s:ax),(∀n∈todo,n.length≤255)→s.name.length≤255→(cY l fol lnk dir todo s).1.name.length≤255
 | [],s,_,hs=>Kr hs
 |n::rest,s,hn,hs=>by
  have hrest:∀m∈rest,m.length≤255:=fun m hm=>hn m (by simp [hm])
  cases hf:au s.ino l with
  |none=>rw[lI hf];simp [fz]
  |some d=>
   by_cases hk:d.kind=2
   ·by_cases h1:n=[46]
    ·rw[nE hf hk h1];exact mK hl rest _ hrest (by simp)
    ·by_cases h2:n=[46,46]
     ·rw[oW hf hk h2];exact mK hl rest _ hrest (by simp)
     ·by_cases h3:(aK (cB n d.entries) l).kind=3∧(rest≠ [] ∨fol=true∨dir=true)
      ·rw[iD hf hk h1 h2 h3];exact hl _ _ _ hrest
      ·rw[jj hf hk h1 h2 h3];exact mK hl rest _ hrest (hn n (by simp))
   ·rw[n_ hf hk];simp [fz]
theorem sA {p:Str} (h:nP p=false):∀n∈dM p,n.length≤255:=by
 intro n hn;unfold nP at h;simp only[Bool.or_eq_false_iff] at h;have:=List.any_eq_false.1 h.1 n hn;simpa using this
theorem A7:∀(k:Nat) (dir:Bool) (todo:List Str) (s:ax),(∀n∈todo,n.length≤255)→s.name.length≤255→(onK l fol k dir todo s).1.name.length≤255
 |0,dir,todo,s,hn,hs=>mK (fun x d rest _=>by simp [fz]) todo s hn hs
 |k+1,dir,todo,s,hn,hs=>by
  refine mK (fun x d rest hr=> ?_) todo s hn hs;split
  ·simp [fz]
  ·rename_i hlp
   refine A7 k _ _ _ (fun n hn'=> ?_) (by simp);simp only[List.mem_append] at hn';rcases hn' with hn'|hn'
   ·exact sA (by simpa using hlp) n hn'
   ·exact hr n hn'
theorem GX (f:Fs) (base p:Str) (fol:Bool):(je f base p fol).1.name.length≤255:=by
 unfold je;split
 ·simp [fz]
 ·split
  ·simp [fz]
  ·rename_i hlp
   have hn:=sA (p:=p) (by simpa using hlp);split
   ·exact A7 40 _ _ _ hn (by simp [eM])
   ·split
    ·exact A7 40 _ _ _ hn (by simp)
    ·simp [fz]
end
end Go.Eng
set_option linter.unusedSimpArgs false
set_option linter.unusedVariables false
set_option linter.unusedSectionVars false
namespace Go.Eng
open Go
structure Ez (f:Fs):Prop where
 ws:WS f
 lil:Lil f
 nx: -1152921504606846976≤f.next∧f.next≤1152921504606846976
 lk:∀x∈f.aa, -1152921504606846976≤x.aq∧x.aq≤1152921504606846976
theorem UW (n:Int) (l:List Entry):ec n l≤l.length:=by
 have:=ug (μ :=one n) (c:=1) (l:=l) (fun x _=>by unfold one;split<;>omega);unfold ec;omega
theorem RS {n:Int} {l:List ae} (h:l.length≤10000) (he:∀x∈l,x.entries.length≤10000):fc n l≤100000000:=by
 have:=ug (μ :=fun x:ae=>ec n x.entries) (c:=10000) (l:=l) (fun x hx=>by have:=UW n x.entries;have:=he x hx;omega);unfold fc;omega
section
variable {f:Fs} {base p d t:Str} {s:ax} {k:Int}
theorem Tree.next' (h:Tree f):2≤f.next∧f.next≤1099511627776:=by
 obtain⟨r,hr,_⟩:=h.root;have h1:=(h.iy hr).2.2;have h2:=h.next;omega
theorem Ew.ez (e:Ew f):Ez f:=by
 have h1:=e.tr.next';refine⟨e.ws,e.lil,by omega,fun x hx=> ?_⟩;have h2:=e.tr.aq x hx;have h3:=Gp x.ino f.aa;have h4:=RS (n:=x.ino) e.lil.len e.lil.de;omega
theorem Ez.len (e:Ez f):f.aa.length≤1000000000:=by have:=e.lil.len;omega
theorem Ez.de (e:Ez f) (k:Int):(aK k f.aa).entries.length≤1000000000:=by
 cases hf:au k f.aa with
 |none=>rw[dO hf];simp [kj]
 |some x=>rw[bx hf];have:=e.lil.de x (aW hf).1;omega
theorem Ez.new (e:Ez f) (hn:s.name.length≤255) (hd:d.length≤1073741824):qg f s k d=some (Ci f s k d)∧mC f s k d=some (Ci f s k d):=
 ⟨wa e.ws.wf (by omega) hd e.len e.nx.1 e.nx.2 (e.de _),qp e.ws.wf (by omega) hd e.len e.nx.1 e.nx.2 (e.de _)⟩
theorem Ez.put (e:Ez f) {r:Int} (hb:base.length≤8388608) (hp:p.length≤1073741823) (hd:d.length≤1073741824):rC f base p k d r=some (PB f base p k d r):=
 ya e.ws hb hp hd e.len e.nx.1 e.nx.2 (fun x hx=>by have:=e.lil.de x hx;omega) (by have:=GX f base p false;omega)
theorem oo {l:List Entry} {a:Entry} {n:Str}:cB n (hY a l)=if a.name=n then a.ino else cB n l:=by
 unfold cB;rw[xz];by_cases h:a.name=n<;>simp [h]
theorem oL {l:List Entry} {m n:Str}:cB n (dV m l)=if m=n then 0 else cB n l:=by
 unfold cB;rw[m8];by_cases h:m=n<;>simp [h]
structure E3 (f g:Fs) (d:ae) (nm:Str) (x:ae):Prop where
 find:∀k,au k g.aa=if x.ino=k then some x else if d.ino=k then some (d.b_ nm x.ino) else au k f.aa
 hx:au x.ino f.aa=none∨∃y,au x.ino f.aa=some y∧y.kind=x.kind∧y.parent=x.parent∧y.data=x.data∧y.entries=x.entries
 ne:x.ino≠d.ino
variable {g:Fs} {dd x:ae} {nm:Str}
theorem E3.ext (m:E3 f g dd nm x) (wf:WS f) (wg:WS g) (hf:jc f dd nm):Ext f g dd.ino nm x:=by
 refine⟨wf,wg,fun k a ha=> ?_, ?_,fun y hy=> ?_,fun y hy=> ?_, ?_⟩
 ·rw[m.find]
  by_cases h1:x.ino=k
  ·rw[if_pos h1]
   rcases m.hx with h|⟨y,hy,y1,y2,y3,y4⟩
   ·rw[h1,ha] at h;cases h
   ·rw[h1,ha] at hy;cases hy
    exact⟨x,rfl,by rw[(aW ha).2,h1],y1,y2,fun _=>y3,fun n=>Or.inr (by rw[y4])⟩
  ·rw[if_neg h1]
   by_cases h2:dd.ino=k
   ·rw[if_pos h2]
    have:=hf.hd;rw[h2,ha] at this;cases this;refine⟨_,rfl,rfl,rfl,rfl,fun _=>rfl,fun n=> ?_⟩;by_cases hn:nm=n
    ·exact Or.inl ⟨h2.symm,hn.symm⟩
    ·right
     show cB n (hY ⟨nm,x.ino⟩ dd.entries)=_;rw[oo,if_neg hn]
   ·rw[if_neg h2]
    exact⟨a,ha,rfl,rfl,rfl,fun _=>rfl,fun _=>Or.inr rfl⟩
 ·rw[m.find,if_pos rfl]
 ·rw[hf.hd] at hy;cases hy
  unfold cB;rw[hf.h0]
 ·rw[m.find,if_neg m.ne,if_pos rfl] at hy
  cases hy;show cB nm (hY ⟨nm,x.ino⟩ dd.entries)=_;rw[oo,if_pos rfl]
 ·have:=wf.wf.pos dd (aW hf.hd).1
  omega
end
end Go.Eng
set_option linter.unusedVariables false
set_option maxRecDepth 100000
namespace Go.Eng
open Go
end Go.Eng
set_option linter.unusedSimpArgs false
set_option linter.unusedVariables false
set_option linter.unusedSectionVars false
namespace Go.Eng
open Go
section
variable {f:Fs} {base p d t:Str} {s:ax} {k:Int}
theorem yf {fol:Bool} (ht:Tree f) (hw:WF f) (h:Gd f fol s) (h0:s.ino=0) (hm:fE s.name=true):jc f (aK s.dir f.aa) s.name∧(aK s.dir f.aa).ino=s.dir:=by
 rcases h with⟨_,_,d,hd,_⟩ |⟨_,d,hd,hk,hi,_⟩
 ·rw[h0,hw.zero] at hd;cases hd
 ·have h2:=(aW hd).2
  rw[bx hd];exact⟨⟨by rw[h2];exact hd,hk,hm,D8 (ht.iy hd).2.2.2.2.2 (by rw[←hi];exact h0)⟩,h2⟩
structure Made (f:Fs) (n:Nat) (s:ax) (k:Int) (d:Str) (g:Fs):Prop where
 tr:Tree g
 bd:Bd (n+1) g
 len:g.aa.length=f.aa.length+1
 free:jc f (aK s.dir f.aa) s.name
 ino:(aK s.dir f.aa).ino=s.dir
 more:E3 f g (aK s.dir f.aa) s.name (Ie f s k d)
 next:g.next=f.next+1
 max:g.ar=f.ar∧g.aw=f.aw
theorem Ez.inf (e:Ez f):InF f:=⟨by have:=e.lil.len;omega,fun x hx=>by have:=e.lil.de x hx;omega⟩
theorem InF.same (h:InF f) (g:Fs):jv f g=some (decide (f=g)):=mf h.len h.de
end
end Go.Eng
set_option linter.unusedSimpArgs false
set_option linter.unusedVariables false
set_option linter.unusedSectionVars false
namespace Go.Eng
open Go
def nJ (f:Fs) (s:ax) (i:Int):Fs:=
 (f.set ((aK s.dir f.aa).b_ s.name i)).set ((aK i (f.set ((aK s.dir f.aa).b_ s.name i)).aa).dQ ((aK i (f.set ((aK s.dir f.aa).b_ s.name i)).aa).aq+1))
def rj (f:Fs) (s:ax) (i:Int):Fs:=(f.set ((aK s.dir f.aa).b_ s.name i)).set ((aK i f.aa).dQ ((aK i f.aa).aq+1))
def kD (f:Fs) (s:ax):Fs:=
 if (aK s.ino (f.set ((aK s.dir f.aa).cE s.name)).aa).aq - 1=0 then (f.set ((aK s.dir f.aa).cE s.name)).drop (aK s.ino (f.set ((aK s.dir f.aa).cE s.name)).aa).ino
 else (f.set ((aK s.dir f.aa).cE s.name)).set ((aK s.ino (f.set ((aK s.dir f.aa).cE s.name)).aa).dQ ((aK s.ino (f.set ((aK s.dir f.aa).cE s.name)).aa).aq - 1))
def uz (f:Fs) (s:ax):Fs:=
 if (aK s.ino f.aa).aq - 1=0 then (f.set ((aK s.dir f.aa).cE s.name)).drop s.ino
 else (f.set ((aK s.dir f.aa).cE s.name)).set ((aK s.ino f.aa).dQ ((aK s.ino f.aa).aq - 1))
section
variable {f g:Fs} {base p q nm:Str} {s:ax} {i:Int} {d x:ae} {e:Entry}
theorem ly {l:List ae} {y:ae} {k:Int}:aK k (bH y l)=if y.ino=k then y else aK k l:=by
 unfold aK;rw[bR];split<;>rfl
theorem Ez.aq (z:Ez f) (k:Int): -1152921504606846976≤(aK k f.aa).aq∧(aK k f.aa).aq≤1152921504606846976:=by
 cases hf:au k f.aa with
 |none=>rw[dO hf];simp [kj]
 |some x=>rw[bx hf];exact z.lk x (aW hf).1
theorem Ez.Fu (z:Ez f) {y:ae} (hy:y.aq=(aK s.dir f.aa).aq) (k:Int): -1152921504606846976≤(aK k (f.set y).aa).aq∧(aK k (f.set y).aa).aq≤1152921504606846976:=by
 have e:aK k (f.set y).aa=if y.ino=k then y else aK k f.aa:=ly
 rw[e];split
 ·rw[hy];exact z.aq _
 ·exact z.aq k
theorem nf (z:Ez f):bO f s i=some (nJ f s i):=by
 have h1:=z.de s.dir;have h2:=z.len;have h3:= @l_ f ((aK s.dir f.aa).b_ s.name i);have h4:=z.Fu (s:=s) (y:=(aK s.dir f.aa).b_ s.name i) rfl i;have hs:=eS z.ws.wf.sort ((aK s.dir f.aa).b_ s.name i);unfold bO nJ;rw[z.ws.wf.get,ai,pt (qa z.ws.wf _) (by omega),ai];have e1:(⟨(aK s.dir f.aa).ino,(aK s.dir f.aa).kind,(aK s.dir f.aa).aq,(aK s.dir f.aa).data,(aK s.dir f.aa).parent,hY ⟨s.name,i⟩ (aK s.dir f.aa).entries⟩:ae)=(aK s.dir f.aa).b_ s.name i:=rfl;simp only;rw[e1,dE z.ws.wf.sort (by omega),ai,dF hs (by omega),ai];simp only;rw[b9 (by omega) (by omega),dE hs (by omega),ai];rfl
theorem jQ (z:Ez f):dA f s i=some (rj f s i):=by
 have h1:=z.de s.dir;have h2:=z.len;have h3:= @l_ f ((aK s.dir f.aa).b_ s.name i);have h4:=z.aq i;unfold dA rj;rw[z.ws.wf.nQ,ai,z.ws.wf.nQ,ai,pz (by simp only;omega),ai];have e1:(⟨(aK s.dir f.aa).ino,(aK s.dir f.aa).kind,(aK s.dir f.aa).aq,(aK s.dir f.aa).data,(aK s.dir f.aa).parent,hY ⟨s.name,i⟩ (aK s.dir f.aa).entries⟩:ae)=(aK s.dir f.aa).b_ s.name i:=rfl;simp only;rw[e1,cO (by omega),ai,b9 (by omega) (by omega),cO (by omega),ai];rfl
theorem vk (z:Ez f):lU f s=some (kD f s):=by
 have h1:=z.de s.dir;have h2:=z.len;have h3:= @l_ f ((aK s.dir f.aa).cE s.name);have h4:=z.Fu (s:=s) (y:=(aK s.dir f.aa).cE s.name) rfl s.ino;have hs:=eS z.ws.wf.sort ((aK s.dir f.aa).cE s.name);unfold lU kD;rw[z.ws.wf.get,ai,rE (qa z.ws.wf _) (by omega),ai];have e1:(⟨(aK s.dir f.aa).ino,(aK s.dir f.aa).kind,(aK s.dir f.aa).aq,(aK s.dir f.aa).data,(aK s.dir f.aa).parent,dV s.name (aK s.dir f.aa).entries⟩:ae)=(aK s.dir f.aa).cE s.name:=rfl;simp only;rw[e1,dE z.ws.wf.sort (by omega),ai,dF hs (by omega),ai];simp only;rw[b9 (by omega) (by omega),kE,wh hs (by omega),dE hs (by omega),ai,ai];by_cases h:(aK s.ino (f.set ((aK s.dir f.aa).cE s.name)).aa).aq - 1=0
 ·rw[aN (by simp [h]),if_pos h]
 ·rw[bK (by simp [h]),if_neg h];rfl
theorem tp (z:Ez f):kp f s=some (uz f s):=by
 have h1:=z.de s.dir;have h2:=z.len;have h3:= @l_ f ((aK s.dir f.aa).cE s.name);have h4:=z.aq s.ino;unfold kp uz;rw[z.ws.wf.nQ,ai,z.ws.wf.nQ,ai,mD (by simp only;omega),ai];have e1:(⟨(aK s.dir f.aa).ino,(aK s.dir f.aa).kind,(aK s.dir f.aa).aq,(aK s.dir f.aa).data,(aK s.dir f.aa).parent,dV s.name (aK s.dir f.aa).entries⟩:ae)=(aK s.dir f.aa).cE s.name:=rfl;simp only;rw[e1,cO (by omega),ai,b9 (by omega) (by omega),kE,mn (by omega),cO (by omega),ai,ai];by_cases h:(aK s.ino f.aa).aq - 1=0
 ·rw[aN (by simp [h]),if_pos h]
 ·rw[bK (by simp [h]),if_neg h];rfl
theorem q6 (hf:jc f (aK s.dir f.aa) s.name) (hx:au i f.aa=some x) (hk:x.kind≠2):nJ f s i=ko f (aK s.dir f.aa) s.name x∧rj f s i=ko f (aK s.dir f.aa) s.name x∧x.ino≠(aK s.dir f.aa).ino:=by
 have hi:=(aW hx).2;have hne:x.ino≠(aK s.dir f.aa).ino:=fun e=>by
  have:=hf.hd;rw[←e,hi,hx] at this;have h2:=Option.some.inj this;exact hk (by rw[h2];exact hf.hk)
 have h1:aK i (f.set ((aK s.dir f.aa).b_ s.name i)).aa=x:=by
  show aK i (bH _ f.aa)=x;rw[ly,if_neg (fun e=>hne (by rw[hi];exact e.symm)),bx hx]
 refine⟨?_, ?_,hne⟩
 ·unfold nJ ko
  rw[h1,hi]
 ·unfold rj ko
  rw[bx hx,hi]
theorem JZ (h:Ent f (aK s.dir f.aa) s.name x e) (ht:Tree f) (hi:x.ino=s.ino):kD f s=dT f (aK s.dir f.aa) s.name x∧uz f s=dT f (aK s.dir f.aa) s.name x:=by
 have hne:=h.ne ht;have hx:au s.ino f.aa=some x:=by rw[←hi];exact h.hx
 have h1:aK s.ino (f.set ((aK s.dir f.aa).cE s.name)).aa=x:=by
  show aK s.ino (bH _ f.aa)=x;rw[ly,if_neg (fun e=>hne (by rw[hi];exact e.symm)),bx hx]
 constructor
 ·unfold kD dT
  rw[h1];by_cases hl:x.aq=1
  ·rw[if_pos (by omega),if_pos hl]
  ·rw[if_neg (by omega),if_neg hl]
 ·unfold uz dT
  rw[bx hx,←hi];by_cases hl:x.aq=1
  ·rw[if_pos (by omega),if_pos hl]
  ·rw[if_neg (by omega),if_neg hl]
theorem rV {l:List Entry} (hs:hC l) {a:Entry} {n:Str} (h:dS n l=some a):hY ⟨n,a.ino⟩ (dV n l)=l:=by
 refine jL loS (oN loS (fh hs)) hs fun k=> ?_
 show dS k (hY _ (dV n l))=dS k l;rw[xz,m8];by_cases hk:n=k
 ·rw[if_pos hk,←hk,h]
  have:=(iu h).2;rw[←this]
 ·rw[if_neg hk,if_neg hk]
theorem rM (h:Ent f d nm x e) (ht:Tree f):E3 (dT f d nm x) f (d.cE nm) nm x∧jc (dT f d nm x) (d.cE nm) nm:=by
 have hne:=h.ne ht;have hs:=(ht.iy h.hd).2.2.2.2;have hd2:(d.cE nm).b_ nm x.ino=d:=by
  show ae.mk d.ino d.kind d.aq d.data d.parent (hY ⟨nm,x.ino⟩ (dV nm d.entries))=d;rw[←h.hn,rV hs.1 h.he]
 refine⟨⟨fun k=> ?_, ?_,hne⟩,⟨?_,h.kind ht, ?_, ?_⟩⟩
 ·rw[hd2,fO hne]
  show _=if x.ino=k then some x else if d.ino=k then some d else _
  by_cases h1:x.ino=k
  ·rw[if_pos h1,←h1,h.hx]
  ·rw[if_neg h1,if_neg h1]
   by_cases h2:d.ino=k
   ·rw[if_pos h2,←h2,h.hd]
   ·rw[if_neg h2,if_neg h2]
 ·rw[fO hne,if_pos rfl]
  by_cases hl:x.aq=1
  ·rw[if_pos hl];exact Or.inl rfl
  ·rw[if_neg hl];exact Or.inr ⟨_,rfl,rfl,rfl,rfl,rfl⟩
 ·show au d.ino _=_
  rw[fO hne,if_neg hne,if_pos rfl]
 ·have h3:=((gB d.entries).1 hs.2).2 e h.mem.1
  rw[←h.mem.2];exact h3.1
 ·show dS nm (dV nm d.entries)=none
  rw[m8,if_pos rfl]
theorem CY {a b:Fs} (h1:a.ar=b.ar) (h2:a.aw=b.aw) (h3:a.next=b.next) (ha:cA a.aa) (hb:cA b.aa) (h:∀k,au k a.aa=au k b.aa):a=b:=by
 have h4:a.aa=b.aa:=jL loI ha hb h;cases a;cases b;simp only at h1 h2 h3 h4;subst h1;subst h2;subst h3;subst h4;rfl
theorem D0 (h:cA f.aa):cA (ko f d nm x).aa:=eS (eS h _) _
theorem wX (h:cA f.aa) (k:Int):cA (f.drop k).aa:=fh h
theorem xj (h:cA f.aa):cA (dT f d nm x).aa:=by
 unfold dT;split
 ·exact wX (eS h _) _
 ·exact eS (eS h _) _
theorem od:(dT f d nm x).ar=f.ar∧(dT f d nm x).aw=f.aw∧(dT f d nm x).next=f.next:=by
 unfold dT;split<;>exact⟨rfl,rfl,rfl⟩
theorem Ff (ht:Tree f) {k:Int} (hx:au k f.aa=some x) (h1:k≠1):1≤x.aq:=by
 have h2:=aW hx;rw[(ht.iy hx).2.1];obtain⟨y,hy,e,he,hn⟩:=(ht.wq hx).named h1;exact uO hy he hn
theorem Fq {fol:Bool} (ht:Tree f) (w:WF f) (h:Gd f fol s) (hn:s.name≠ []) (hx:au s.ino f.aa=some x):∃e,Ent f (aK s.dir f.aa) s.name x e∧(aK s.dir f.aa).ino=s.dir∧x.ino=s.ino:=by
 have hi:=(aW hx).2;rcases h with⟨h1,_⟩ |⟨_,d,hd,hk,hino,_⟩
 ·exact absurd h1 hn
 ·have h2:=(aW hd).2
  rw[bx hd];have h0:cB s.name d.entries≠0:=fun e=>by rw[hino,e,w.zero] at hx;cases hx
  obtain⟨e,he,_,_,he2⟩:=tH h0;exact⟨e,⟨by rw[h2];exact hd,he,by rw[he2,←hino,hi],by rw[hi];exact hx⟩,h2,hi⟩
theorem Bd.ko {n:Nat} (hb:Bd n f) (ht:Tree f) (hf:jc f d nm) (hx:au x.ino f.aa=some x):Bd (n+1) (ko f d nm x):=by
 have h1:Bd (n+1) (f.set (d.b_ nm x.ino)):=hb.put (z:=d) ht.sort hf.hd (by omega) (by have:=qU ⟨nm,x.ino⟩ d.entries;have:=(hb.find hf.hd).1;show(hY ⟨nm,x.ino⟩ d.entries).length≤_;omega) (hb.find hf.hd).2;have h2:∃z,au (x.dQ (x.aq+1)).ino (f.set (d.b_ nm x.ino)).aa=some z:=by
  show∃z,au x.ino (bH _ f.aa)=some z;rw[bR];split
  ·exact⟨_,rfl⟩
  ·exact⟨_,hx⟩
 obtain⟨z,hz⟩:=h2;exact h1.put (eS ht.sort _) hz (Nat.le_refl _) (by have:=(hb.find hx).1;show x.entries.length≤_;omega) (hb.find hx).2
theorem Bd.dT {n:Nat} (hb:Bd n f) (ht:Tree f) (h:Ent f d nm x e):Bd n (dT f d nm x):=by
 have h1:Bd n (f.set (d.cE nm)):=hb.put (z:=d) ht.sort h.hd (Nat.le_refl _) (by have:=rQ nm d.entries;have:=(hb.find h.hd).1;show(dV nm d.entries).length≤_;omega) (hb.find h.hd).2;unfold Go.Eng.dT;split
 ·exact h1.drop
 ·have h2:∃z,au (x.dQ (x.aq - 1)).ino (f.set (d.cE nm)).aa=some z:=by
   show∃z,au x.ino (bH _ f.aa)=some z;rw[bR];split
   ·exact⟨_,rfl⟩
   ·exact⟨_,h.hx⟩
  obtain⟨z,hz⟩:=h2;exact h1.put (eS ht.sort _) hz (Nat.le_refl _) (hb.find h.hx).1 (hb.find h.hx).2
end
end Go.Eng
set_option linter.unusedVariables false
set_option maxRecDepth 100000
namespace Go.Eng
open Go
end Go.Eng
set_option linter.unusedSimpArgs false
set_option linter.unusedVariables false
set_option linter.unusedSectionVars false
namespace Go.Eng
open Go
section
variable {f g:Fs} {base p q nm:Str} {s:ax} {i:Int} {d x:ae} {e:Entry}
structure agl (f:Fs) (n:Nat) (base p q:Str) (s:ax) (x:ae) (g:Fs):Prop where
 tr:Tree g
 bd:Bd (n+1) g
 sp:(je f base p false).2=0
 hx:au (je f base p false).1.ino f.aa=some x
 hxx:au x.ino f.aa=some x
 hk:x.kind≠2
 sq:je f base q false=(s,0)
 s0:s.ino=0
 gh:(dJ q).gh=false
 free:jc f (aK s.dir f.aa) s.name
 ino:(aK s.dir f.aa).ino=s.dir
 ne:x.ino≠(aK s.dir f.aa).ino
 eq:g=ko f (aK s.dir f.aa) s.name x
 more:E3 f g (aK s.dir f.aa) s.name (x.dQ (x.aq+1))
 len:g.aa.length=f.aa.length
structure DT (f:Fs) (n:Nat) (s:ax) (x:ae) (e:Entry) (g:Fs):Prop where
 tr:Tree g
 bd:Bd n g
 ent:Ent f (aK s.dir f.aa) s.name x e
 Lt:(aK s.dir f.aa).ino=s.dir
 IY:x.ino=s.ino
 xe:x.entries= []
 eq:g=dT f (aK s.dir f.aa) s.name x
 more:E3 g f ((aK s.dir f.aa).cE s.name) s.name x
 free:jc g ((aK s.dir f.aa).cE s.name) s.name
theorem taken {n:Nat} {fol:Bool} (ht:Tree f) (hb:Bd n f) (hn:n≤9000) (hg:Gd f fol s) (h1:s.name≠ []) (hx:au s.ino f.aa=some x) (hx0:x.entries= []):∃e,DT f n s x e (kD f s)∧uz f s=kD f s:=by
 have ee:=sV ht hb (by omega);obtain⟨e,he,hd,hi⟩:=Fq ht ee.wf hg h1 hx;obtain⟨q1,q2⟩:=JZ he ht hi;obtain⟨m1,m2⟩:=rM he ht;refine⟨e,⟨?_, ?_,he,hd,hi,hx0,q1, ?_, ?_⟩,by rw[q1,q2]⟩
 ·rw[q1];exact DV ht he hx0
 ·rw[q1];exact hb.dT ht he
 ·rw[q1];exact m1
 ·rw[q1];exact m2
theorem Bd.inf {n:Nat} (hb:Bd n f) (hn:n≤10000):InF f:=⟨by have:=hb.len;omega,fun x hx=>by have:=hb.de x hx;omega⟩
end
end Go.Eng
set_option linter.unusedSimpArgs false
set_option linter.unusedVariables false
set_option linter.unusedSectionVars false
namespace Go.Eng
open Go
section
variable {f g:Fs}
theorem Way.last {l:List ae} {i k:Int} {n:Nat} (h:Way l i k n):(n=0∧k=i)∨∃j m x e,n=m+1∧Way l i j m∧au j l=some x∧e∈x.entries∧e.ino=k:=by
 cases h with
 |here=>exact Or.inl ⟨rfl,rfl⟩
 |step h hf he=>exact Or.inr ⟨_,_,_,_,rfl,h,hf,he,rfl⟩
def mvB (un:Fs→ax→Fs) (f:Fs) (b:ax):Fs:=if b.ino≠0 then un f b else f
variable {d1 d2 x y:ae} {a b:ax} {e e2:Entry} {nm:Str}
theorem Way.mono {l m:List ae} (h:∀k x,au k m=some x→∀e∈x.entries,∃y,au k l=some y∧e∈y.entries) {i k:Int} {n:Nat} (hw:Way m i k n):Way l i k n:=by
 induction hw with
 |here=>exact .here
 |step hw hf he ih=>
  obtain⟨y,hy,he'⟩:=h _ _ hf _ he;exact .step ih hy he'
end
end Go.Eng
namespace Go.Eng
open Go
section
variable {f g:Fs} {d1 d2 x y:ae} {a b s t:ax} {e e2:Entry}
structure HJ (f:Fs) (a b:ax) (x:ae):Prop where
 ga:Gd f false a
 an:a.name≠ []
 hx:au a.ino f.aa=some x
 gb:Gd f false b
 bn:b.name≠ []
 ne:a.ino≠b.ino
 out:x.kind=2→¬∃n,Way f.aa a.ino b.dir n
 emp:∀y,au b.ino f.aa=some y→y.entries= []
 may:b.ino=0→fE b.name=true
structure RI (f:Fs) (a b:ax) (x:ae) (n:Nat) (f1:Fs) (e:Entry):Prop where
 tr:Tree f1
 bd:Bd n f1
 mv:Mv f1 (aK a.dir f1.aa) a.name (aK b.dir f1.aa) b.name x e
 ha:(aK a.dir f1.aa).ino=a.dir
 hb:(aK b.dir f1.aa).ino=b.dir
 hx:x.ino=a.ino
 sub:∀k z,au k f1.aa=some z→∀e∈z.entries,∃y,au k f.aa=some y∧e∈y.entries
 find:∀k z,au k f.aa=some z→k≠b.ino→∃z',au k f1.aa=some z'∧z'.kind=z.kind∧∀n,(k=b.dir∧n=b.name)∨cB n z'.entries=cB n z.entries
 ent:∀k,k≠b.dir→k≠b.ino→(au k f1.aa).map ae.entries=(au k f.aa).map ae.entries
 len:f1.aa.length≤f.aa.length∧f.aa.length≤f1.aa.length+1
 gone:au b.ino f1.aa=none∨(au b.ino f1.aa).map ae.entries=some []
 apg:au b.ino f1.aa=none→b.ino=0∨fc b.ino f.aa≤1
theorem Bd.mvF {n:Nat} {n1 n2:Str} (hb:Bd n f) (ht:Tree f) (h:Mv f d1 n1 d2 n2 x e):Bd (n+1) (mvF f d1 n1 d2 n2 x):=by
 have hs:=(KS h ht).1;have hd1:=hb.find h.ent.hd;have hd2:=hb.find h.free.hd;have hx:=hb.find h.ent.hx;have hl:=hb.len;have hsort:=Hj (d1:=d1) (d2:=d2) (n1:=n1) (n2:=n2) (x:=x) ht;have c1:=rQ n1 d1.entries;have key:∀z∈(Go.Eng.mvF f d1 n1 d2 n2 x).aa,z.entries.length≤n+1∧z.data.length≤10000000:=by
  intro z hz;have hz':=ei hsort hz;rw[zq h ht] at hz';by_cases h1:x.ino=z.ino
  ·rw[if_pos h1] at hz'
   have hz2:=Option.some.inj hz';rw[←hz2];by_cases hk:x.kind=2
   ·rw[if_pos hk]
    exact⟨by show x.entries.length≤_;omega,hx.2⟩
   ·rw[if_neg hk];exact⟨by omega,hx.2⟩
  ·rw[if_neg h1] at hz'
   by_cases h2:d2.ino=z.ino
   ·rw[if_pos h2] at hz'
    have hz2:=Option.some.inj hz';rw[←hz2];have c2:=qU ⟨n2,x.ino⟩ (mvD d1 d2 n1).entries;show(hY ⟨n2,x.ino⟩ (mvD d1 d2 n1).entries).length≤_∧(mvD d1 d2 n1).data.length≤_;unfold mvD at c2⊢;by_cases h3:d1.ino=d2.ino
    ·rw[if_pos h3] at c2⊢
     have c3:(d1.cE n1).entries.length≤d1.entries.length:=c1;exact⟨by omega,hd1.2⟩
    ·rw[if_neg h3] at c2⊢
     exact⟨by omega,hd2.2⟩
   ·rw[if_neg h2] at hz'
    by_cases h3:d1.ino=z.ino
    ·rw[if_pos h3] at hz'
     have hz2:=Option.some.inj hz';rw[←hz2];exact⟨by show(dV n1 d1.entries).length≤_;omega,hd1.2⟩
    ·rw[if_neg h3] at hz'
     have:=hb.find hz';exact⟨by omega,this.2⟩
 exact⟨by omega,fun z hz=>(key z hz).1,fun z hz=>(key z hz).2⟩
structure oy (f:Fs) (a b:ax) (x:ae) (n:Nat) (f1:Fs) (e:Entry) (g:Fs):Prop where
 pre:RI f a b x n f1 e
 tr:Tree g
 bd:Bd (n+1) g
 eq:g=mvF f1 (aK a.dir f1.aa) a.name (aK b.dir f1.aa) b.name x
end
end Go.Eng
set_option linter.unusedSimpArgs false
set_option linter.unusedVariables false
set_option linter.unusedSectionVars false
namespace Go.Eng
open Go
section
variable {f g f1:Fs} {d1 d2 x y:ae} {a b s t:ax} {e:Entry} {n:Nat}
theorem AX {f:Fs} (w:WF f):∀{ns:List Str} {s t:ax},dh f.aa ns s=(t,0)→t.ino≠0→Way f.aa s.ino t.ino ns.length∧s.ino≠0
 | [],s,t,h,h0=>by
  simp only[dh,Prod.mk.injEq] at h;obtain⟨rfl,_⟩:=h;exact⟨.here,h0⟩
 |m::ns,s,t,h,h0=>by
  cases hf:au s.ino f.aa with
  |none=>rw[js hf] at h;simp at h
  |some d=>
   by_cases hk:d.kind=2
   ·rw[fK hf hk] at h
    obtain⟨h1,h2⟩:=AX w h h0;obtain⟨e,he,_,he2,_⟩:=xy h2;refine⟨?_,fun e=>by rw[e,w.zero] at hf;cases hf⟩;have h3:Way f.aa e.ino t.ino ns.length:=by rw[he2];exact h1
    exact Way.first hf he h3
   ·rw[jG hf hk] at h;simp at h
theorem xA {f:Fs} {l:List ae} (w:WF f) {D X B:Int} (P:Int→Str→Prop)
 (hg:∀k z,au k f.aa=some z→z.kind=2→k≠B→∃z',au k l=some z'∧z'.kind=2∧z'.ino=z.ino∧∀m,¬P k m→cB m z'.entries=cB m z.entries)
 (hp:∀k z m,au k f.aa=some z→P k m→cB m z.entries=X∨cB m z.entries=B)
 (hX:¬∃n,Way f.aa X D n) (hB:D≠B) (hBe:∀z,au B f.aa=some z→z.entries= []) (hD:D≠0):
 ∀{ns:List Str} {s t:ax},dh f.aa ns s=(t,0)→t.ino=D→(ns≠ [] →s.ino≠B)→dh l ns s=(t,0)
 | [],s,t,h,ht,_=>by
  simp only[dh,Prod.mk.injEq] at h⊢;exact h
 |m::ns,s,t,h,ht,hs=>by
  have hs:=hs (by simp);cases hf:au s.ino f.aa with
  |none=>rw[js hf] at h;simp at h
  |some d=>
   by_cases hk:d.kind=2
   ·rw[fK hf hk] at h
    obtain⟨z',hz,hzk,hzi,hze⟩:=hg _ d hf hk hs;have hw:=AX w h (by rw[ht];exact hD);rw[ht] at hw;have hnb:cB m d.entries≠B:=fun e=>by
     have hw1:Way f.aa (cB m d.entries) D ns.length:=hw.1;rw[e] at hw1;rcases hw1.head with⟨_,h1⟩ |⟨_,z,e',_,hz,he',_⟩
     ·exact hB h1
     ·rw[hBe z hz] at he';cases he'
    have hnp:¬P s.ino m:=fun hpp=>by
     rcases hp _ d m hf hpp with h1|h1
     ·have hw1:Way f.aa (cB m d.entries) D ns.length:=hw.1
      rw[h1] at hw1;exact hX ⟨_,hw1⟩
     ·exact hnb h1
    rw[fK hz hzk,hzi,hze m hnp];exact xA w P hg hp hX hB hBe hD h ht (fun _=>hnb)
   ·rw[jG hf hk] at h;simp at h
theorem oy.find (m:oy f a b x n f1 e g) (k:Int):au k g.aa=if x.ino=k then some (if x.kind=2 then x.jd b.dir else x) else if b.dir=k then some ((mvD (aK a.dir f1.aa) (aK b.dir f1.aa) a.name).b_ b.name x.ino) else if a.dir=k then some ((aK a.dir f1.aa).cE a.name) else au k f1.aa:=by
 rw[m.eq,zq m.pre.mv m.pre.tr,m.pre.ha,m.pre.hb]
theorem oy.xne (m:oy f a b x n f1 e g):x.ino≠b.dir∧x.ino≠a.dir:=by
 refine⟨?_, ?_⟩
 ·have:=m.pre.mv.ne2;rwa[m.pre.hb] at this
 ·have:=m.pre.mv.ent.ne m.pre.tr;rwa[m.pre.ha] at this
structure BB (f:Fs) (a b:ax) (x d1 d2:ae):Prop where
 a1:au a.dir f.aa=some d1
 a2:d1.kind=2
 a3:a.ino=cB a.name d1.entries
 b1:au b.dir f.aa=some d2
 b2:d2.kind=2
 b3:b.ino=cB b.name d2.entries
 xi:x.ino=a.ino
 diff:¬(a.dir=b.dir∧a.name=b.name)
 ab:a.dir≠b.ino
 bb:b.dir≠b.ino
 xb:¬∃n,Way f.aa a.ino b.dir n
 xa:¬∃n,Way f.aa a.ino a.dir n
theorem oy.D4 (w:WF f) (m:oy f a b x n f1 e g) (p:BB f a b x d1 d2) (h:HJ f a b x) {D:Int} (hD0:D≠0) (hD:¬∃n,Way f.aa a.ino D n) (hB:D≠b.ino) {ns:List Str} (hr:(au 1 f.aa).isSome=true) (hgo:dh f.aa ns eM=(t,0)) (ht:t.ino=D) (hb1:b.ino≠1):dh g.aa ns eM=(t,0):=by
 refine xA (D:=D) (X:=a.ino) (B:=b.ino) w (fun k n=>(k=a.dir∧n=a.name)∨(k=b.dir∧n=b.name)) (fun k z hz hk hkb=> ?_) (fun k z q hz hp=> ?_) hD hB h.emp hD0 hgo ht (fun _=>fun e=>hb1 e.symm)
 ·obtain⟨z',hz',hzk,hze⟩:=m.pre.find k z hz hkb
  have hzi:z'.ino=z.ino:=by rw[(aW hz').2,(aW hz).2]
  rw[m.find];by_cases c1:x.ino=k
  ·rw[if_pos c1]
   have hzx:z=x:=by
    rw[←c1,p.xi,h.hx] at hz;exact(Option.some.inj hz).symm
   subst hzx;refine⟨_,rfl, ?_, ?_,fun q _=> ?_⟩<;>(rw[if_pos hk];first|exact hk|rfl)
  ·rw[if_neg c1]
   by_cases c2:b.dir=k
   ·rw[if_pos c2]
    have hzd:aK b.dir f1.aa=z':=bx (by rw[c2];exact hz');refine⟨_,rfl, ?_, ?_,fun q hq=> ?_⟩
    ·show(mvD _ _ _).kind=2
     unfold mvD;split
     ·rename_i hd
      rw[m.pre.ha,m.pre.hb] at hd;show(aK a.dir f1.aa).kind=2;rw[hd,hzd,hzk];exact hk
     ·rw[hzd,hzk];exact hk
    ·show(mvD _ _ _).ino=z.ino
     rw[oJ,m.pre.hb,c2,(aW hz).2]
    ·show cB q (hY ⟨b.name,x.ino⟩ (mvD _ _ _).entries)=_
     rw[oo];have hq1:¬b.name=q:=fun e=>hq (Or.inr ⟨c2.symm,e.symm⟩)
     rw[if_neg hq1];have hzq:cB q z'.entries=cB q z.entries:=(hze q).resolve_left (fun e=>hq1 e.2.symm);unfold mvD;split
     ·rename_i hd
      rw[m.pre.ha,m.pre.hb] at hd;show cB q (dV a.name (aK a.dir f1.aa).entries)=_;rw[oL,if_neg (fun e=>hq (Or.inl ⟨by rw[←c2,hd],e.symm⟩)),hd,hzd,hzq]
     ·rw[hzd,hzq]
   ·rw[if_neg c2]
    by_cases c3:a.dir=k
    ·rw[if_pos c3]
     have hzd:aK a.dir f1.aa=z':=bx (by rw[c3];exact hz');refine⟨_,rfl, ?_, ?_,fun q hq=> ?_⟩
     ·show(aK a.dir f1.aa).kind=2
      rw[hzd,hzk];exact hk
     ·show(aK a.dir f1.aa).ino=_
      rw[hzd,hzi]
     ·show cB q (dV a.name (aK a.dir f1.aa).entries)=_
      rw[oL,if_neg (fun e=>hq (Or.inl ⟨c3.symm,e.symm⟩)),hzd];exact(hze q).resolve_left (fun e=>c2 e.1.symm)
    ·rw[if_neg c3]
     exact⟨z',hz',by rw[hzk];exact hk,hzi,fun q hq=>(hze q).resolve_left (fun e=>c2 e.1.symm)⟩
 ·rcases hp with⟨rfl,rfl⟩ |⟨rfl,rfl⟩
  ·rw[p.a1] at hz;cases hz;exact Or.inl p.a3.symm
  ·rw[p.b1] at hz;cases hz;exact Or.inr p.b3.symm
theorem oy.at (ht:Tree f) (w:WF f) (m:oy f a b x n f1 e g) (p:BB f a b x d1 d2) (h:HJ f a b x) {ns:List Str} (hq:dh f.aa ns eM=(b,0)) (hns:ns≠ []):dh g.aa ns eM=(⟨b.dir,b.name,a.ino⟩,0):=by
 have hb1:b.ino≠1:=fun e=>by
  obtain⟨e0,he0,_,_,hn0⟩:=tH (l:=d2.entries) (n:=b.name) (by rw[←p.b3,e];decide);exact ht.xv p.b1 (iu he0).1 (by rw[hn0,←p.b3,e])
 have hd0:b.dir≠0:=fun e=>by have:=p.b1;rw[e,w.zero] at this;cases this
 obtain⟨r,hr,_⟩:=ht.root;have hspl:ns=ns.dropLast++[ns.getLast hns]:=(List.dropLast_concat_getLast hns).symm;rw[hspl] at hq⊢;rw[u9] at hq⊢;by_cases h0:(dh f.aa ns.dropLast eM).2=0
 ·rw[if_pos h0] at hq
  have hpre:dh f.aa ns.dropLast eM=((dh f.aa ns.dropLast eM).1,0):=by rw[←h0]
  generalize (dh f.aa ns.dropLast eM).1=s at*;cases hf:au s.ino f.aa with
  |none=>rw[js hf] at hq;simp at hq
  |some d=>
   by_cases hk:d.kind=2
   ·rw[fK hf hk] at hq
    simp only[dh,Prod.mk.injEq] at hq;have hbe:=hq.1;have hs:s.ino=b.dir:=by rw[←hbe];exact(aW hf).2.symm
    have hgo:=m.D4 w p h (D:=b.dir) hd0 p.xb p.bb (by rw[hr];rfl) hpre hs hb1;rw[hgo,if_pos rfl];have hgd:au s.ino g.aa=some ((mvD (aK a.dir f1.aa) (aK b.dir f1.aa) a.name).b_ b.name x.ino):=by
     rw[m.find,if_neg (by rw[hs];exact m.xne.1),if_pos hs.symm]
    have hkk:((mvD (aK a.dir f1.aa) (aK b.dir f1.aa) a.name).b_ b.name x.ino).kind=2:=m.pre.mv.dk m.pre.tr;rw[fK hgd hkk];have hnm:ns.getLast hns=b.name:=by rw[←hbe]
    simp only[dh,Prod.mk.injEq,and_true];have hi:((mvD (aK a.dir f1.aa) (aK b.dir f1.aa) a.name).b_ b.name x.ino).ino=b.dir:=by
     show(mvD _ _ _).ino=_;rw[oJ];exact m.pre.hb
    have he:cB (ns.getLast hns) ((mvD (aK a.dir f1.aa) (aK b.dir f1.aa) a.name).b_ b.name x.ino).entries=a.ino:=by
     show cB _ (hY ⟨b.name,x.ino⟩ _)=_;rw[oo,if_pos hnm.symm];exact p.xi
    rw[hi,he,hnm]
   ·rw[jG hf hk] at hq;simp at hq
 ·rw[if_neg h0] at hq
  simp only[Prod.mk.injEq] at hq;exact absurd hq.2 h0
theorem oy.gone (ht:Tree f) (w:WF f) (m:oy f a b x n f1 e g) (p:BB f a b x d1 d2) (h:HJ f a b x) {ns:List Str} (hq:dh f.aa ns eM=(a,0)) (hns:ns≠ []):dh g.aa ns eM=(⟨a.dir,a.name,0⟩,0):=by
 have hb1:b.ino≠1:=fun e=>by
  obtain⟨e0,he0,_,_,hn0⟩:=tH (l:=d2.entries) (n:=b.name) (by rw[←p.b3,e];decide);exact ht.xv p.b1 (iu he0).1 (by rw[hn0,←p.b3,e])
 have hd0:a.dir≠0:=fun e=>by have:=p.a1;rw[e,w.zero] at this;cases this
 obtain⟨r,hr,_⟩:=ht.root;have hspl:ns=ns.dropLast++[ns.getLast hns]:=(List.dropLast_concat_getLast hns).symm;rw[hspl] at hq⊢;rw[u9] at hq⊢;by_cases h0:(dh f.aa ns.dropLast eM).2=0
 ·rw[if_pos h0] at hq
  have hpre:dh f.aa ns.dropLast eM=((dh f.aa ns.dropLast eM).1,0):=by rw[←h0]
  generalize (dh f.aa ns.dropLast eM).1=s at*;cases hf:au s.ino f.aa with
  |none=>rw[js hf] at hq;simp at hq
  |some d=>
   by_cases hk:d.kind=2
   ·rw[fK hf hk] at hq
    simp only[dh,Prod.mk.injEq] at hq;have hbe:=hq.1;have hs:s.ino=a.dir:=by rw[←hbe];exact(aW hf).2.symm
    have hgo:=m.D4 w p h (D:=a.dir) hd0 p.xa p.ab (by rw[hr];rfl) hpre hs hb1;rw[hgo,if_pos rfl];have hnm:ns.getLast hns=a.name:=by rw[←hbe]
    by_cases hab:b.dir=a.dir
    ·have hgd:au s.ino g.aa=some ((mvD (aK a.dir f1.aa) (aK b.dir f1.aa) a.name).b_ b.name x.ino):=by
      rw[m.find,if_neg (by rw[hs];exact m.xne.2),if_pos (by rw[hs];exact hab)]
     have hkk:((mvD (aK a.dir f1.aa) (aK b.dir f1.aa) a.name).b_ b.name x.ino).kind=2:=m.pre.mv.dk m.pre.tr;rw[fK hgd hkk];simp only[dh,Prod.mk.injEq,and_true];have hi:((mvD (aK a.dir f1.aa) (aK b.dir f1.aa) a.name).b_ b.name x.ino).ino=a.dir:=by
      show(mvD _ _ _).ino=_;rw[oJ,m.pre.hb,hab]
     have he:cB (ns.getLast hns) ((mvD (aK a.dir f1.aa) (aK b.dir f1.aa) a.name).b_ b.name x.ino).entries=0:=by
      show cB _ (hY ⟨b.name,x.ino⟩ (mvD _ _ _).entries)=_;rw[oo,if_neg (by rw[hnm];exact fun e=>p.diff ⟨hab.symm,e.symm⟩)];unfold mvD;rw[if_pos (by rw[m.pre.ha,m.pre.hb,hab])];show cB _ (dV a.name _)=0;rw[oL,if_pos hnm.symm]
     rw[hi,he,hnm]
    ·have hgd:au s.ino g.aa=some ((aK a.dir f1.aa).cE a.name):=by
      rw[m.find,if_neg (by rw[hs];exact m.xne.2),if_neg (by rw[hs];exact hab),if_pos hs.symm]
     have hkk:((aK a.dir f1.aa).cE a.name).kind=2:=m.pre.mv.ent.kind m.pre.tr;rw[fK hgd hkk];simp only[dh,Prod.mk.injEq,and_true];have hi:((aK a.dir f1.aa).cE a.name).ino=a.dir:=m.pre.ha;have he:cB (ns.getLast hns) ((aK a.dir f1.aa).cE a.name).entries=0:=by
      show cB _ (dV a.name _)=0;rw[oL,if_pos hnm.symm]
     rw[hi,he,hnm]
   ·rw[jG hf hk] at hq;simp at hq
 ·rw[if_neg h0] at hq
  simp only[Prod.mk.injEq] at hq;exact absurd hq.2 h0
end
end Go.Eng
set_option linter.unusedSimpArgs false
set_option linter.unusedVariables false
set_option linter.unusedSectionVars false
namespace Go.Eng
open Go
section
variable {f g:Fs} {base p q:Str} {a b:ax} {x:ae} {sl:Bool} {ins:Fs→Int→Int→Bool} {mv:Fs→ax→ax→Fs}
structure Xt (f:Fs) (n:Nat) (base p q:Str) (a b:ax) (x:ae) (e:Entry) (g:Fs):Prop where
 sp:je f base p false=(a,0)
 sq:je f base q false=(b,0)
 ok:HJ f a b x
 mv:oy f a b x n (mvB kD f b) e g
end
end Go.Eng
set_option linter.unusedVariables false
set_option maxRecDepth 100000
namespace Go.Eng
open Go
end Go.Eng
set_option linter.unusedVariables false
set_option maxRecDepth 100000
namespace Go.Eng
open Go
end Go.Eng
set_option linter.unusedVariables false
set_option maxRecDepth 100000
namespace Go.Eng
open Go
end Go.Eng
set_option linter.unusedSimpArgs false
set_option linter.unusedVariables false
set_option linter.unusedSectionVars false
namespace Go.Eng
open Go
structure Sr (n:Nat) (f:Fs):Prop where
 sort:cA f.aa
 es:∀x∈f.aa,hC x.entries
 len:f.aa.length≤n
 en:∀x∈f.aa,x.entries.length≤n
section
variable {f g:Fs} {base p q:Str} {a b s:ax} {x y:ae} {n:Nat} {i:Int}
theorem Sr.get (h:Sr n f) (k:Int):hC (aK k f.aa).entries∧(aK k f.aa).entries.length≤n:=by
 cases hf:au k f.aa with
 |none=>rw[dO hf];exact⟨List.Pairwise.nil,by simp [kj]⟩
 |some x=>rw[bx hf];exact⟨h.es x (aW hf).1,h.en x (aW hf).1⟩
theorem Sr.set (h:Sr n f) (hs:hC y.entries) (hl:y.entries.length≤n+1):Sr (n+1) (f.set y):=by
 refine⟨eS h.sort y,fun x hx=> ?_,by have:= @l_ f y;have:=h.len;omega,fun x hx=> ?_⟩
 ·rcases eK.1 hx with rfl|⟨hx,_⟩
  ·exact hs
  ·exact h.es x hx
 ·rcases eK.1 hx with rfl|⟨hx,_⟩
  ·exact hl
  ·have:=h.en x hx;omega
theorem Sr.drop (h:Sr n f) (k:Int):Sr n (f.drop k):=by
 refine⟨wX h.sort k,fun x hx=>h.es x (fo.1 hx).1, ?_,fun x hx=>h.en x (fo.1 hx).1⟩;have h1:(dn k f.aa).length≤f.aa.length:=dt;have:=h.len;show(dn k f.aa).length≤n;omega
theorem Sr.mono (h:Sr n f) {m:Nat} (hm:n≤m):Sr m f:=⟨h.sort,h.es,by have:=h.len;omega,fun x hx=>by have:=h.en x hx;omega⟩
theorem Sr.rem (h:Sr n f) (k:Int) (m:Str):Sr (n+1) (f.set ((aK k f.aa).cE m)):=by
 have:=h.get k;exact h.set (fh this.1) (by have:=rQ m (aK k f.aa).entries;show(dV m (aK k f.aa).entries).length≤_;omega)
theorem Sr.add (h:Sr n f) (k:Int) (m:Str) (i:Int):Sr (n+1) (f.set ((aK k f.aa).b_ m i)):=by
 have:=h.get k;exact h.set (oN loS this.1) (by have:=qU ⟨m,i⟩ (aK k f.aa).entries;show(hY ⟨m,i⟩ (aK k f.aa).entries).length≤_;omega)
theorem Sr.unn (h:Sr n f) (s:ax):Sr (n+2) (kD f s):=by
 have h1:=h.rem s.dir s.name;have h2:=h1.get s.ino;unfold kD;split
 ·exact(h1.drop _).mono (by omega)
 ·exact h1.set h2.1 (by show(aK s.ino _).entries.length≤_;omega)
theorem Sr.mvB (h:Sr n f) (b:ax):Sr (n+2) (mvB kD f b):=by
 unfold Go.Eng.mvB;split
 ·exact h.unn b
 ·exact h.mono (by omega)
end
end Go.Eng
set_option linter.unusedSimpArgs false
set_option linter.unusedVariables false
set_option linter.unusedSectionVars false
namespace Go.Eng
open Go
section
variable {f g:Fs} {base p q:Str} {a b s:ax} {x y:ae} {n:Nat} {i:Int} {e:Entry}
theorem tV (w:WF f) (h0:(atP f p).2=0) (hn:(atP f p).1.name≠ []):Gd f false (atP f p).1∧fE (atP f p).1.name=true∧∃ns,ns≠ [] ∧(∀m∈ns,fE m=true)∧pr ns=p∧dh f.aa ns eM=((atP f p).1,0):=by
 have hpl:(dY p).2=true:=by
  unfold atP at h0;cases h:(dY p).2
  ·rw[h,if_neg (by simp)] at h0;simp at h0
  ·rfl
 have hat:atP f p=dh f.aa (dY p).1 eM:=by unfold atP;rw[if_pos hpl]
 obtain⟨p1,p2,p3⟩:=Ab hpl;rw[hat] at h0 hn⊢;have hgo:dh f.aa (dY p).1 eM=((dh f.aa (dY p).1 eM).1,0):=by rw[←h0]
 rcases xP hgo with⟨h1,h2⟩ |⟨d,m,ns',h1,h2,h3,h4,h5,h6⟩
 ·rw[h2] at hn;exact absurd rfl hn
 ·refine⟨Or.inr ⟨hn,d,h2,h4, ?_,fun h=>by cases h⟩, ?_,(dY p).1,by rw[h1];simp,p2,p1,hgo⟩
  ·rw[h6,h5]
  ·rw[h5]
   exact p2 m (by rw[h1];simp)
end
end Go.Eng
set_option linter.unusedVariables false
set_option maxRecDepth 100000
namespace Go.Eng
open Go
end Go.Eng
set_option linter.unusedVariables false
set_option maxRecDepth 100000
namespace Go.Eng
open Go
end Go.Eng
set_option linter.unusedSimpArgs false
set_option linter.unusedVariables false
set_option linter.unusedSectionVars false
namespace Go.Eng
open Go
structure Gq (n:Nat) (f:Fs):Prop where
 tr:Tree f
 bd:Bd n f
 nx:f.next≤549755813888+n
section
variable {f g:Fs} {base p q t d:Str} {n m:Nat} {i:Int} {x:ae} {s:ax}
theorem Gq.ew (h:Gq n f) (hn:n≤9000):Ew f:=sV h.tr h.bd (by omega)
theorem Gq.ez (h:Gq n f) (hn:n≤9000):Ez f:=(h.ew hn).ez
theorem Gq.mono (h:Gq n f) (hm:n≤m):Gq m f:=⟨h.tr,h.bd.mono hm,by have:=h.nx;omega⟩
end
end Go.Eng
set_option linter.unusedSimpArgs false
set_option linter.unusedVariables false
set_option linter.unusedSectionVars false
namespace Go.Eng
open Go
abbrev oz (l:List Kept):Prop:=cU ltI Kept.slot l
abbrev cN (n:Int) (l:List Kept):Option Kept:=b5 Kept.slot n l
abbrev q5 (k:Kept) (l:List Kept):List Kept:=iG ltI Kept.slot k l
abbrev eJ (n:Int) (l:List Kept):List Kept:=eh Kept.slot n l
def vI (x:ae):Prop:=x.aq=0∧x.parent=0∧x.entries= [] ∧(x.kind=1∨(x.kind=2∧x.data= [])∨(x.kind=3∧1≤x.data.length∧x.data.length≤4095∧x.data.any (fun b=>b==0)=false))
structure RW (w:ao):Prop where
 tr:Tree w.fs
 ps:cA w.al.aI
 pk:∀x∈w.al.aI,vI x∧1≤x.ino∧x.ino<w.fs.next∧au x.ino w.fs.aa=none∧∃k∈w.al.kept,k.ino=x.ino∧k.content=false
 ks:oz w.al.kept
 kk:∀k∈w.al.kept,1≤k.slot∧k.slot≤1073741824∧(k.content=false→k.data= [])∧∃x,(au k.ino w.fs.aa=some x∨au k.ino w.al.aI=some x)∧(k.content=true→x.kind=1)
structure Wb (lim:Int) (n:Nat) (w:ao):Prop where
 bd:Bd n w.fs
 nx:w.fs.next≤lim+n
 kl:w.al.kept.length≤n
 pl:w.al.aI.length≤n
 kd:∀k∈w.al.kept,k.data.length≤10000000
 pd:∀x∈w.al.aI,x.data.length≤10000000
section
variable {lim:Int} {w:ao} {f:Fs} {d x y:ae} {nm:Str} {e:Entry} {n m:Nat} {s i:Int} {k:Kept}
theorem Wb.mono (h:Wb lim n w) (hm:n≤m):Wb lim m w:=⟨h.bd.mono hm,by have:=h.nx;omega,by have:=h.kl;omega,by have:=h.pl;omega,h.kd,h.pd⟩
theorem RW.ew (h:RW w) (b:Wb lim n w) (hn:n≤9000):Ew w.fs:=sV h.tr b.bd (by omega)
theorem RW.jE (h:RW w) (hi:au i w.al.aI=some y):vI y∧y.ino=i∧1≤i∧i<w.fs.next∧au i w.fs.aa=none:=by
 obtain⟨h1,h2⟩:=aW hi;obtain⟨p1,p2,p3,p4,_⟩:=h.pk y h1;rw[h2] at p2 p3 p4;exact⟨p1,h2,p2,p3,p4⟩
theorem RW.kO (h:RW w) (hi:au i w.fs.aa=some x):au i w.al.aI=none:=by
 cases hp:au i w.al.aI with
 |none=>rfl
 |some y=>have:=(h.jE hp).2.2.2.2;rw[hi] at this;cases this
theorem gA {l:List Kept} {n:Int} {k:Kept} (h:cN n l=some k):k∈l∧k.slot=n:=b8 h
theorem pO {l:List Kept} {n:Int} (h:cN n l=none):∀k∈l,k.slot≠n:=by
 intro k hk e;have:=List.find?_eq_none.1 h k hk;simp [e] at this
theorem rS {l:List Kept} (hs:oz l) {k:Kept} (h:k∈l):cN k.slot l=some k:=kM loI hs h
theorem lf {l:List Kept} {a b:Kept}:b∈q5 a l↔b=a∨b∈l:=qL
theorem gW {l:List Kept} {n:Int} {b:Kept}:b∈eJ n l↔b∈l∧b.slot≠n:=fo
theorem rf {l:List Kept} {a:Kept} (h:oz l) (h0:cN a.slot l=none):oz (q5 a l):=rl loI h (pO h0)
theorem qk {l:List Kept} {n:Int} (h:oz l):oz (eJ n l):=fh h
theorem xm {l:List Kept} {a:Kept} (h:oz l) (h0:cN a.slot l=none):eJ a.slot (q5 a l)=l:=by
 refine jL loI (fh (rf h h0)) h fun j=> ?_
 rw[nc,rI (pO h0)];by_cases hj:a.slot=j
 ·rw[if_pos hj,←hj];exact h0.symm
 ·rw[if_neg hj,if_neg hj]
def ae.bare (x:ae):ae:=⟨x.ino,x.kind,0,x.data,0,x.entries⟩
def eU (w:ao) (s:Int) (d:ae) (nm:Str) (x:ae):ao:=
 ⟨dT w.fs d nm x,⟨q5 ⟨s,x.ino,false, []⟩ w.al.kept,if x.aq=1 then bH x.bare w.al.aI else w.al.aI⟩⟩
theorem Fc (h:fA x=true) (he:x.entries= []):vI x.bare:=by
 refine⟨rfl,rfl,he, ?_⟩;by_cases h1:x.kind=1
 ·exact Or.inl h1
 by_cases h2:x.kind=2
 ·rw[Ax h2] at h
  simp only[Bool.and_eq_true,decide_eq_true_eq] at h;exact Or.inr (Or.inl ⟨h2,h.1⟩)
 by_cases h3:x.kind=3
 ·rw[AH h3] at h
  simp only[Bool.and_eq_true,decide_eq_true_eq] at h;obtain⟨_,_,⟨a1,a2⟩,a3⟩:=h;refine Or.inr (Or.inr ⟨h3,a1,a2, ?_⟩);show x.data.any _=false;cases hx:x.data.any (fun b=>b==0)
  ·rfl
  ·rw[hx] at a3;cases a3
 ·rw[GO h1 h2 h3] at h;cases h
theorem yn (h:RW w) (he:Ent w.fs d nm x e) (hx0:x.entries= []) (hs1:1≤s) (hs2:s≤1073741824) (hs:cN s w.al.kept=none):RW (eU w s d nm x):=by
 have hne:=he.ne h.tr;have hfind:=fun j=>fO (f:=w.fs) (d:=d) (nm:=nm) (x:=x) hne j
 have hm:=od (f:=w.fs) (d:=d) (x:=x) (nm:=nm);have hpx:au x.ino w.al.aI=none:=h.kO he.hx;have hgone:∀j,au j w.fs.aa=none→au j (dT w.fs d nm x).aa=none:=fun j hj=>by
  rw[hfind];by_cases h1:x.ino=j
  ·rw[←h1,he.hx] at hj;cases hj
  ·rw[if_neg h1]
   by_cases h2:d.ino=j
   ·rw[←h2,he.hd] at hj;cases hj
   ·rw[if_neg h2];exact hj
 have hstay:∀j z,au j w.fs.aa=some z→(j=x.ino→x.aq≠1)→∃z',au j (dT w.fs d nm x).aa=some z'∧z'.kind=z.kind:=fun j z hj hl=>by
  rw[hfind];by_cases h1:x.ino=j
  ·rw[if_pos h1,if_neg (hl h1.symm)]
   rw[←h1,he.hx] at hj;cases hj;exact⟨_,rfl,rfl⟩
  ·rw[if_neg h1]
   by_cases h2:d.ino=j
   ·rw[if_pos h2]
    rw[←h2,he.hd] at hj;cases hj;exact⟨_,rfl,rfl⟩
   ·rw[if_neg h2];exact⟨z,hj,rfl⟩
 have hpmem:∀z,z∈(eU w s d nm x).al.aI↔(z∈w.al.aI∨(x.aq=1∧z=x.bare)):=fun z=>by
  show z∈(if x.aq=1 then bH x.bare w.al.aI else w.al.aI)↔_;by_cases hl:x.aq=1
  ·rw[if_pos hl,eK]
   constructor
   ·rintro(rfl|⟨h1,_⟩)
    ·exact Or.inr ⟨hl,rfl⟩
    ·exact Or.inl h1
   ·rintro(h1|⟨_,rfl⟩)
    ·refine Or.inr ⟨h1,fun e1=> ?_⟩
     have h2:=ei h.ps h1;have e2:z.ino=x.ino:=e1;rw[e2,hpx] at h2;cases h2
    ·exact Or.inl rfl
  ·rw[if_neg hl]
   exact⟨Or.inl,fun h1=>h1.resolve_right (fun h2=>hl h2.1)⟩
 have hpfind:∀j,au j (eU w s d nm x).al.aI=if x.aq=1∧x.ino=j then some x.bare else au j w.al.aI:=fun j=>by
  show au j (if x.aq=1 then bH x.bare w.al.aI else w.al.aI)=_;by_cases hl:x.aq=1
  ·rw[if_pos hl,bR]
   show(if x.ino=j then _ else _)=_;by_cases h1:x.ino=j
   ·rw[if_pos h1,if_pos ⟨hl,h1⟩]
   ·rw[if_neg h1,if_neg (fun h=>h1 h.2)]
  ·rw[if_neg hl,if_neg (fun h=>hl h.1)]
 refine⟨DV h.tr he hx0, ?_,fun z hz=> ?_,rf h.ks hs,fun k' hk'=> ?_⟩
 ·show cA (if x.aq=1 then bH x.bare w.al.aI else w.al.aI)
  split
  ·exact cg h.ps
  ·exact h.ps
 ·rcases(hpmem z).1 hz with hz|⟨hl,rfl⟩
  ·obtain⟨p1,p2,p3,p4,k',k1,k2,k3⟩:=h.pk z hz
   exact⟨p1,p2,by show z.ino<(dT w.fs d nm x).next;rw[hm.2.2];exact p3,hgone _ p4,k',lf.2 (Or.inr k1),k2,k3⟩
  ·have hg:=h.tr.iy he.hx
   refine⟨Fc hg.1 hx0,hg.2.2.1,by show x.ino<(dT w.fs d nm x).next;rw[hm.2.2];exact hg.2.2.2.1, ?_,_,lf.2 (Or.inl rfl),rfl,rfl⟩;show au x.ino (dT w.fs d nm x).aa=none;rw[hfind,if_pos rfl,if_pos hl]
 ·rcases lf.1 hk' with rfl|hk'
  ·refine⟨hs1,hs2,fun _=>rfl, ?_⟩
   by_cases hl:x.aq=1
   ·exact⟨x.bare,Or.inr (by rw[hpfind,if_pos ⟨hl,rfl⟩]),fun h=>by cases h⟩
   ·obtain⟨z',hz',_⟩:=hstay x.ino x he.hx (fun _=>hl)
    exact⟨z',Or.inl hz',fun h=>by cases h⟩
  ·obtain⟨k1,k2,k3,z,k4,k5⟩:=h.kk k' hk'
   refine⟨k1,k2,k3, ?_⟩;rcases k4 with k4|k4
   ·by_cases hx:k'.ino=x.ino∧x.aq=1
    ·refine⟨x.bare,Or.inr (by rw[hpfind,if_pos ⟨hx.2,hx.1.symm⟩]),fun hc=> ?_⟩
     rw[hx.1,he.hx] at k4;cases k4;exact k5 hc
    ·obtain⟨z',hz',hzk⟩:=hstay k'.ino z k4 (fun e1 e2=>hx ⟨e1,e2⟩)
     exact⟨z',Or.inl hz',fun hc=>by rw[hzk];exact k5 hc⟩
   ·refine⟨z,Or.inr ?_,k5⟩
    rw[hpfind,if_neg (fun hh=> ?_)]
    ·exact k4
    ·rw[←hh.2,hpx] at k4;cases k4
def vq (w:ao) (s:Int) (d:ae) (nm:Str) (x:ae):ao:=⟨ko w.fs d nm x,⟨eJ s w.al.kept,w.al.aI⟩⟩
def ft (d:ae) (y:ae):ae:=⟨y.ino,y.kind,1,y.data,if y.kind=2 then d.ino else 0,y.entries⟩
def pC (w:ao) (s:Int) (d:ae) (nm:Str) (y:ae):ao:=
 ⟨⟨w.fs.ar,w.fs.aw,w.fs.next,bH (ft d y) (bH (d.b_ nm y.ino) w.fs.aa)⟩,⟨eJ s w.al.kept,dn y.ino w.al.aI⟩⟩
theorem IL (h:RW w) (hf:jc w.fs d nm) (hx:au x.ino w.fs.aa=some x) (hk:x.kind≠2) (hs:cN s w.al.kept=some k) (hki:k.ino=x.ino):RW (vq w s d nm x):=by
 have hxd:x.ino≠d.ino:=fun e1=>by
  have:=hf.hd;rw[←e1,hx] at this;have h2:=Option.some.inj this;exact hk (by rw[h2];exact hf.hk)
 have hfind:=fun j=>r5 (f:=w.fs) (d:=d) (nm:=nm) (x:=x) hxd j
 have hkm:=gA hs;have hiff:∀j,au j w.fs.aa=none→au j (ko w.fs d nm x).aa=none:=fun j hj=>by
  rw[hfind];by_cases h1:x.ino=j
  ·rw[←h1,hx] at hj;cases hj
  ·rw[if_neg h1]
   by_cases h2:d.ino=j
   ·rw[←h2,hf.hd] at hj;cases hj
   ·rw[if_neg h2];exact hj
 have hstay:∀j z,au j w.fs.aa=some z→∃z',au j (ko w.fs d nm x).aa=some z'∧z'.kind=z.kind:=fun j z hj=>by
  rw[hfind];by_cases h1:x.ino=j
  ·rw[if_pos h1]
   rw[←h1,hx] at hj;cases hj;exact⟨_,rfl,rfl⟩
  ·rw[if_neg h1]
   by_cases h2:d.ino=j
   ·rw[if_pos h2]
    rw[←h2,hf.hd] at hj;cases hj;exact⟨_,rfl,rfl⟩
   ·rw[if_neg h2];exact⟨z,hj,rfl⟩
 refine⟨Jq h.tr hf hx hk,h.ps,fun z hz=> ?_,qk h.ks,fun k' hk'=> ?_⟩
 ·obtain⟨p1,p2,p3,p4,k',k1,k2,k3⟩:=h.pk z hz
  refine⟨p1,p2,p3,hiff _ p4,k',gW.2 ⟨k1,fun e1=> ?_⟩,k2,k3⟩;have h1:=rS h.ks k1;rw[e1,hs] at h1;cases h1;rw[←k2,hki,hx] at p4;cases p4
 ·obtain⟨k1,k2,k3,z,k4,k5⟩:=h.kk k' (gW.1 hk').1
  refine⟨k1,k2,k3, ?_⟩;rcases k4 with k4|k4
  ·obtain⟨z',hz',hzk⟩:=hstay _ z k4
   exact⟨z',Or.inl hz',fun hc=>by rw[hzk];exact k5 hc⟩
  ·exact⟨z,Or.inr k4,k5⟩
theorem C9 (h:vI y):fA (ft d y)=true:=by
 obtain⟨h1,h2,h3,h4⟩:=h;rcases h4 with h4|⟨h4,h5⟩ |⟨h4,h5,h6,h7⟩
 ·rw[zJ (show(ft d y).kind=1 from h4)];unfold ft;simp [h3,h4]
 ·rw[Ax (show(ft d y).kind=2 from h4)];unfold ft;simp [h3,h5,f_,j7]
 ·rw[AH (show(ft d y).kind=3 from h4)]
  show(y.entries.isEmpty&&(decide ((if y.kind=2 then d.ino else 0)=0)&&(decide (1≤y.data.length∧y.data.length≤4095)&& !(y.data.any (fun b=>b==0)))))=true;rw[h3,h7,h4,if_neg (by decide),decide_eq_true (show 1≤y.data.length∧y.data.length≤4095 from⟨h5,h6⟩)];rfl
theorem FR (h:RW w) (hf:jc w.fs d nm) (hy:au y.ino w.al.aI=some y) (hs:cN s w.al.kept=some k) (hki:k.ino=y.ino) (hkc:k.content=false) (hfit:dv w.fs 1 (byt y)=true):RW (pC w s d nm y):=by
 obtain⟨p1,p2,p3,p4,p5⟩:=h.jE hy;have hbyt:byt (ft d y)=byt y:=rfl;have hx:au (ft d y).ino w.fs.aa=none:=p5;have hyd:y.ino≠d.ino:=fun e1=>by rw[e1,hf.hd] at p5;cases p5
 have htr:Tree (pC w s d nm y).fs:=KX (x:=ft d y) (nx:=w.fs.next) h.tr hf hx p3 p4 (Int.le_refl _) h.tr.next (C9 p1) rfl p1.2.2.1 (fun hk2=>by show(if y.kind=2 then d.ino else 0)=d.ino;rw[if_pos (show y.kind=2 from hk2)]) (by rw[hbyt];exact hfit);have hfind:∀j,au j (pC w s d nm y).fs.aa=if y.ino=j then some (ft d y) else if d.ino=j then some (d.b_ nm y.ino) else au j w.fs.aa:=fun j=>qS (x:=ft d y) j
 have hkm:=gA hs;have hstay:∀j z,au j w.fs.aa=some z→∃z',au j (pC w s d nm y).fs.aa=some z'∧z'.kind=z.kind:=fun j z hj=>by
  rw[hfind];by_cases h1:y.ino=j
  ·rw[←h1,p5] at hj;cases hj
  ·rw[if_neg h1]
   by_cases h2:d.ino=j
   ·rw[if_pos h2]
    rw[←h2,hf.hd] at hj;cases hj;exact⟨_,rfl,rfl⟩
   ·rw[if_neg h2];exact⟨z,hj,rfl⟩
 refine⟨htr,fh h.ps,fun z hz=> ?_,qk h.ks,fun k' hk'=> ?_⟩
 ·obtain⟨z1,z2⟩:=fo.1 hz
  obtain⟨q1,q2,q3,q4,k',k1,k2,k3⟩:=h.pk z z1;refine⟨q1,q2,q3, ?_,k',gW.2 ⟨k1,fun e1=> ?_⟩,k2,k3⟩
  ·rw[hfind,if_neg (fun e1=>z2 e1.symm)]
   by_cases h2:d.ino=z.ino
   ·rw[←h2,hf.hd] at q4;cases q4
   ·rw[if_neg h2];exact q4
  ·have h1:=rS h.ks k1
   rw[e1,hs] at h1;cases h1;exact z2 (by rw[←k2,hki])
 ·obtain⟨k1,k2,k3,z,k4,k5⟩:=h.kk k' (gW.1 hk').1
  refine⟨k1,k2,k3, ?_⟩;rcases k4 with k4|k4
  ·obtain⟨z',hz',hzk⟩:=hstay _ z k4
   exact⟨z',Or.inl hz',fun hc=>by rw[hzk];exact k5 hc⟩
  ·by_cases h1:y.ino=k'.ino
   ·refine⟨ft d y,Or.inl (by rw[hfind,if_pos h1]),fun hc=> ?_⟩
    rw[←h1,hy] at k4;cases k4;exact k5 hc
   ·refine⟨z,Or.inr ?_,k5⟩
    show au k'.ino (dn y.ino w.al.aI)=some z;rw[qj,if_neg h1];exact k4
def zh (w:ao) (s:Int) (x:ae):ao:=⟨w.fs,⟨q5 ⟨s,x.ino,true,x.data⟩ w.al.kept,w.al.aI⟩⟩
def zX (w:ao) (s:Int) (x:ae) (t:Str):ao:=⟨w.fs.set (x.eW t),⟨eJ s w.al.kept,w.al.aI⟩⟩
theorem GZ (h:RW w) (hx:au x.ino w.fs.aa=some x) (hk:x.kind=1) (hs1:1≤s) (hs2:s≤1073741824) (hs:cN s w.al.kept=none):RW (zh w s x):=by
 refine⟨h.tr,h.ps,fun z hz=> ?_,rf h.ks hs,fun k' hk'=> ?_⟩
 ·obtain⟨p1,p2,p3,p4,k',k1,k2,k3⟩:=h.pk z hz
  exact⟨p1,p2,p3,p4,k',lf.2 (Or.inr k1),k2,k3⟩
 ·rcases lf.1 hk' with rfl|hk'
  ·exact⟨hs1,hs2,(fun h=>by cases h),x,Or.inl hx,fun _=>hk⟩
  ·exact h.kk k' hk'
theorem I4 (h:RW w) (hx:au x.ino w.fs.aa=some x) (hk:x.kind=1) {t:Str} (hfit:dv w.fs 0 ((t.length:Int) - (x.data.length:Int))=true):RW ⟨w.fs.set (x.eW t),w.al⟩:=by
 have hfind:∀j,au j (w.fs.set (x.eW t)).aa=if x.ino=j then some (x.eW t) else au j w.fs.aa:=fun j=>bR
 refine⟨h.tr.KH hx hk hfit,h.ps,fun z hz=> ?_,h.ks,fun k' hk'=> ?_⟩
 ·obtain⟨p1,p2,p3,p4,k',k1,k2,k3⟩:=h.pk z hz
  refine⟨p1,p2,p3, ?_,k',k1,k2,k3⟩;show au z.ino (w.fs.set (x.eW t)).aa=none;rw[hfind,if_neg (fun e1=>by rw[←e1,hx] at p4;cases p4)];exact p4
 ·obtain⟨k1,k2,k3,z,k4,k5⟩:=h.kk k' hk'
  refine⟨k1,k2,k3, ?_⟩;rcases k4 with k4|k4
  ·by_cases h1:x.ino=k'.ino
   ·refine⟨x.eW t,Or.inl (by show au _ (w.fs.set (x.eW t)).aa=_;rw[hfind,if_pos h1]),fun _=>hk⟩
   ·exact⟨z,Or.inl (by show au _ (w.fs.set (x.eW t)).aa=_;rw[hfind,if_neg h1];exact k4),k5⟩
  ·exact⟨z,Or.inr k4,k5⟩
theorem Gf (h:RW w) (hs:cN s w.al.kept=some k) (hc:k.content=true):RW ⟨w.fs,⟨eJ s w.al.kept,w.al.aI⟩⟩:=by
 refine⟨h.tr,h.ps,fun z hz=> ?_,qk h.ks,fun k' hk'=>h.kk k' (gW.1 hk').1⟩;obtain⟨p1,p2,p3,p4,k',k1,k2,k3⟩:=h.pk z hz;refine⟨p1,p2,p3,p4,k',gW.2 ⟨k1,fun e1=> ?_⟩,k2,k3⟩;have h1:=rS h.ks k1;rw[e1,hs] at h1;cases h1;rw[hc] at k3;cases k3
theorem Gl (h:RW w) (hx:au x.ino w.fs.aa=some x) (hs:cN s w.al.kept=some k) (hc:k.content=true) (hk:x.kind=1) (hfit:dv w.fs 0 ((k.data.length:Int) - (x.data.length:Int))=true):RW (zX w s x k.data):=
 Gf (w:=⟨w.fs.set (x.eW k.data),w.al⟩) (I4 h hx hk hfit) hs hc
theorem ao.ext {a b:ao} (h1:a.fs=b.fs) (h2:a.al.kept=b.al.kept) (h3:a.al.aI=b.al.aI):a=b:=by
 obtain⟨af,ak,ap⟩:=a;obtain⟨bf,bk,bp⟩:=b;simp only at h1 h2 h3;subst h1;subst h2;subst h3;rfl
theorem ER (h:RW w) (he:Ent w.fs d nm x e) (hs:cN s w.al.kept=none) (hl:x.aq≠1):vq (eU w s d nm x) s (d.cE nm) nm (x.dQ (x.aq - 1))=w:=by
 have hne:=he.ne h.tr;have hsE:=(h.tr.iy he.hd).2.2.2.2.1;refine ao.ext ?_ (xm (a:=⟨s,x.ino,false, []⟩) h.ks hs) ?_
 ·have hm:=od (f:=w.fs) (d:=d) (x:=x) (nm:=nm)
  refine CY hm.1 hm.2.1 hm.2.2 (D0 (xj h.tr.sort)) h.tr.sort fun j=> ?_
  show au j (ko (dT w.fs d nm x) (d.cE nm) nm (x.dQ (x.aq - 1))).aa=_;rw[r5 (show(x.dQ (x.aq - 1)).ino≠(d.cE nm).ino from hne),fO hne];show(if x.ino=j then some ((x.dQ (x.aq - 1)).dQ (x.aq - 1+1)) else if d.ino=j then some ((d.cE nm).b_ nm x.ino) else _)=_;by_cases h1:x.ino=j
  ·rw[if_pos h1,←h1,he.hx]
   have:x.aq - 1+1=x.aq:=by omega
   rw[this];rfl
  ·rw[if_neg h1,if_neg h1]
   by_cases h2:d.ino=j
   ·rw[if_pos h2,←h2,he.hd]
    show some (ae.mk d.ino d.kind d.aq d.data d.parent (hY ⟨nm,x.ino⟩ (dV nm d.entries)))=some d;rw[←he.hn,rV hsE he.he]
   ·rw[if_neg h2,if_neg h2]
 ·show(if x.aq=1 then bH x.bare w.al.aI else w.al.aI)=_
  rw[if_neg hl]
theorem Ck (h:RW w) (he:Ent w.fs d nm x e) (hx0:x.entries= []) (hs:cN s w.al.kept=none) (hl:x.aq=1):pC (eU w s d nm x) s (d.cE nm) nm x.bare=w:=by
 have hne:=he.ne h.tr;have hsE:=(h.tr.iy he.hd).2.2.2.2.1;have hpx:au x.ino w.al.aI=none:=h.kO he.hx;have hback:ft (d.cE nm) x.bare=x:=by
  have hk:=(h.tr.iy he.hx).1;have hp:x.parent=if x.kind=2 then d.ino else 0:=by
   by_cases h2:x.kind=2
   ·rw[if_pos h2];exact h.tr.parent he.hx h2 he.hd he.mem.1 he.hn
   ·rw[if_neg h2]
    by_cases h1:x.kind=1
    ·rw[zJ h1] at hk;simp only[Bool.and_eq_true,decide_eq_true_eq] at hk;exact hk.2
    ·by_cases h3:x.kind=3
     ·rw[AH h3] at hk;simp only[Bool.and_eq_true,decide_eq_true_eq] at hk;exact hk.2.1
     ·rw[GO h1 h2 h3] at hk;cases hk
  show ae.mk x.ino x.kind 1 x.data (if x.kind=2 then d.ino else 0) x.entries=x;rw[←hp,←hl]
 refine ao.ext ?_ (xm (a:=⟨s,x.ino,false, []⟩) h.ks hs) ?_
 ·have hm:=od (f:=w.fs) (d:=d) (x:=x) (nm:=nm)
  refine CY hm.1 hm.2.1 hm.2.2 (cg (cg (xj h.tr.sort))) h.tr.sort fun j=> ?_
  show au j (bH (ft (d.cE nm) x.bare) (bH ((d.cE nm).b_ nm x.ino) (dT w.fs d nm x).aa))=_;rw[hback,bR,bR,fO hne];show(if x.ino=j then some x else if d.ino=j then some ((d.cE nm).b_ nm x.ino) else _)=_;by_cases h1:x.ino=j
  ·rw[if_pos h1,←h1,he.hx]
  ·rw[if_neg h1,if_neg h1]
   by_cases h2:d.ino=j
   ·rw[if_pos h2,←h2,he.hd]
    show some (ae.mk d.ino d.kind d.aq d.data d.parent (hY ⟨nm,x.ino⟩ (dV nm d.entries)))=some d;rw[←he.hn,rV hsE he.he]
   ·rw[if_neg h2,if_neg h2]
 ·show dn x.ino (if x.aq=1 then bH x.bare w.al.aI else w.al.aI)=_
  rw[if_pos hl];refine jL loI (fh (cg h.ps)) h.ps fun j=> ?_
  show au j (dn x.ino (bH x.bare w.al.aI))=au j w.al.aI;rw[qj,bR];show(if x.ino=j then none else if x.ino=j then _ else _)=_;by_cases h1:x.ino=j
  ·rw[if_pos h1,←h1,hpx]
  ·rw[if_neg h1,if_neg h1]
end
end Go.Eng
set_option linter.unusedSimpArgs false
set_option linter.unusedVariables false
set_option linter.unusedSectionVars false
namespace Go.Eng
open Go
def nL (w:ao) (s:Int) (a:ax):ao×Int:=
 match cN s w.al.kept with
 |some _=>(w,13)
 |none=>(⟨kD w.fs a,⟨q5 ⟨s,a.ino,false, []⟩ w.al.kept,if (aK a.ino w.fs.aa).aq=1 then bH (aK a.ino w.fs.aa).bare w.al.aI else w.al.aI⟩⟩,0)
def ma (w:ao) (s:Int) (a:ax):ao×Int:=
 match cN s w.al.kept with
 |none=>(w,13)
 |some k=>if k.content=true then (w,13) else if fE a.name=true then
  match au k.ino w.fs.aa with
  |some x=>if x.kind=2 then (w,9) else (⟨nJ w.fs a k.ino,⟨eJ s w.al.kept,w.al.aI⟩⟩,0)
  |none=>if dv w.fs 1 (byt (aK k.ino w.al.aI))=true then (⟨nJ (w.fs.set (if (aK k.ino w.al.aI).kind=2 then (aK k.ino w.al.aI).jd a.dir else aK k.ino w.al.aI)) a k.ino,⟨eJ s w.al.kept,dn k.ino w.al.aI⟩⟩,0) else (w,8)
  else (w,9)
def mi (w:ao) (s i:Int):ao×Int:=
 match cN s w.al.kept with
 |some _=>(w,13)
 |none=>(⟨w.fs,⟨q5 ⟨s,i,true,(aK i w.fs.aa).data⟩ w.al.kept,w.al.aI⟩⟩,0)
def nu (w:ao) (s:Int):ao×Int:=
 match cN s w.al.kept with
 |none=>(w,13)
 |some k=>if k.content=true then
  match au k.ino w.fs.aa with
  |none=>(w,13)
  |some x=>if dv w.fs 0 ((k.data.length:Int) - (x.data.length:Int))=true then (zX w s x k.data,0) else (w,8)
  else (w,13)
section
variable {lim:Int} {w:ao} {f:Fs} {d x y:ae} {nm:Str} {e:Entry} {n m:Nat} {s i:Int} {k:Kept} {a:ax}
theorem AJ (k:Kept) (l:List Kept):(q5 k l).length=l.length+1:=oa l
theorem rA (n:Int) (l:List Kept):(eJ n l).length≤l.length:=dt
theorem Im:(dT f d nm x).next=f.next:=(od (f:=f) (d:=d) (x:=x) (nm:=nm)).2.2
theorem AS (h:RW w) (b:Wb lim n w) (he:Ent w.fs d nm x e):Wb lim (n+1) (eU w s d nm x):=by
 refine⟨(b.bd.dT h.tr he).mono (by omega), ?_, ?_, ?_,fun k hk=> ?_,fun z hz=> ?_⟩
 ·show(dT w.fs d nm x).next≤_
  rw[Im];have:=b.nx;omega
 ·show(q5 _ w.al.kept).length≤_
  rw[AJ];have:=b.kl;omega
 ·show(if x.aq=1 then bH x.bare w.al.aI else w.al.aI).length≤_
  have:=b.pl;split
  ·have:(bH x.bare w.al.aI).length≤w.al.aI.length+1:=kP
   omega
  ·omega
 ·rcases lf.1 hk with rfl|hk
  ·simp
  ·exact b.kd k hk
 ·have hz':z∈(if x.aq=1 then bH x.bare w.al.aI else w.al.aI):=hz
  split at hz'
  ·rcases eK.1 hz' with rfl|⟨hz',_⟩
   ·exact(b.bd.find he.hx).2
   ·exact b.pd z hz'
  ·exact b.pd z hz'
theorem oS {fol:Bool} (h:RW w) (b:Wb lim n w) (hn:n≤9000) (ga:Gd w.fs fol a) (an:a.name≠ []) (hx:au a.ino w.fs.aa=some x) (hx0:x.entries= []) (hs1:1≤s) (hs2:s≤1073741824):
 ((cN s w.al.kept).isSome=true∧nL w s a=(w,13))∨(cN s w.al.kept=none∧∃e,DT w.fs n a x e (kD w.fs a)∧uz w.fs a=kD w.fs a∧nL w s a=(eU w s (aK a.dir w.fs.aa) a.name x,0)∧RW (eU w s (aK a.dir w.fs.aa) a.name x)∧Wb lim (n+1) (eU w s (aK a.dir w.fs.aa) a.name x)):=by
 unfold nL;cases hs:cN s w.al.kept with
 |some k=>exact Or.inl ⟨rfl,rfl⟩
 |none=>
  obtain⟨e,t,t2⟩:=taken h.tr b.bd hn ga an hx hx0;refine Or.inr ⟨rfl,e,t,t2, ?_,yn h t.ent hx0 hs1 hs2 hs,AS h b t.ent⟩;simp only;rw[bx hx,t.eq];unfold eU;rw[t.IY]
theorem rU {fs:Fs} (hf:jc fs (aK a.dir fs.aa) a.name) (hs:(aK a.dir fs.aa).ino=a.dir) (hsort:cA fs.aa) (hy:au y.ino fs.aa=none) (hyl:y.aq=0) (hyp:y.parent=0):
 nJ (fs.set (if y.kind=2 then y.jd a.dir else y)) a y.ino=⟨fs.ar,fs.aw,fs.next,bH (ft (aK a.dir fs.aa) y) (bH ((aK a.dir fs.aa).b_ a.name y.ino) fs.aa)⟩∧
 rj (fs.set (if y.kind=2 then y.jd a.dir else y)) a y.ino=⟨fs.ar,fs.aw,fs.next,bH (ft (aK a.dir fs.aa) y) (bH ((aK a.dir fs.aa).b_ a.name y.ino) fs.aa)⟩:=by
 generalize hz:(if y.kind=2 then y.jd a.dir else y)=z;have hzi:z.ino=y.ino:=by rw[←hz];split<;>rfl
 have hne:y.ino≠a.dir:=fun e1=>by
  have:=hf.hd;rw[hs,←e1,hy] at this;cases this
 have hd:aK a.dir (fs.set z).aa=aK a.dir fs.aa:=by
  show aK a.dir (bH z fs.aa)=_;rw[ly,hzi,if_neg hne]
 have hzl:z.dQ (z.aq+1)=ft (aK a.dir fs.aa) y:=by
  rw[←hz];unfold ft;split
  ·show ae.mk y.ino y.kind (y.aq+1) y.data a.dir y.entries=_
   rw[hyl,hs];rfl
  ·show ae.mk y.ino y.kind (y.aq+1) y.data y.parent y.entries=_
   rw[hyl,hyp];rfl
 have hg1:aK y.ino ((fs.set z).set ((aK a.dir fs.aa).b_ a.name y.ino)).aa=z:=by
  show aK y.ino (bH _ (bH z fs.aa))=z;rw[ly];show(if (aK a.dir fs.aa).ino=y.ino then _ else _)=_;rw[if_neg (by rw[hs];exact fun e1=>hne e1.symm),ly,if_pos hzi]
 have hg2:aK y.ino (fs.set z).aa=z:=by
  show aK y.ino (bH z fs.aa)=z;rw[ly,if_pos hzi]
 have key:((fs.set z).set ((aK a.dir fs.aa).b_ a.name y.ino)).set (z.dQ (z.aq+1))=⟨fs.ar,fs.aw,fs.next,bH (ft (aK a.dir fs.aa) y) (bH ((aK a.dir fs.aa).b_ a.name y.ino) fs.aa)⟩:=by
  rw[hzl];refine CY rfl rfl rfl (eS (eS (eS hsort _) _) _) (cg (cg hsort)) fun j=> ?_
  show au j (bH (ft _ y) (bH _ (bH z fs.aa)))=au j (bH (ft _ y) (bH _ fs.aa));rw[bR,bR,bR,bR,bR];show(if y.ino=j then _ else _)=if y.ino=j then _ else _
  by_cases h1:y.ino=j
  ·rw[if_pos h1,if_pos h1]
  ·rw[if_neg h1,if_neg h1,hzi,if_neg h1]
 constructor
 ·unfold nJ
  rw[hd,hg1];exact key
 ·unfold rj
  rw[hd,hg2];exact key
theorem Hf (h:RW w) (b:Wb lim n w) (hf:jc w.fs d nm) (hx:au x.ino w.fs.aa=some x):Wb lim (n+1) (vq w s d nm x):=by
 refine⟨b.bd.ko h.tr hf hx, ?_, ?_, ?_,fun k hk=>b.kd k (gW.1 hk).1,b.pd⟩
 ·show w.fs.next≤_;have:=b.nx;omega
 ·have:=rA s w.al.kept
  show(eJ s w.al.kept).length≤_;have:=b.kl;omega
 ·show w.al.aI.length≤_;have:=b.pl;omega
theorem GQ (h:RW w) (b:Wb lim n w) (hf:jc w.fs d nm) (hy:au y.ino w.al.aI=some y):Wb lim (n+1) (pC w s d nm y):=by
 obtain⟨p1,p2,p3,p4,p5⟩:=h.jE hy;have hlen:=(sx (x:=ft d y) h.tr hf p5).1;have hd:=b.bd.find hf.hd;refine⟨⟨?_,fun z hz=> ?_,fun z hz=> ?_⟩, ?_, ?_, ?_,fun k hk=>b.kd k (gW.1 hk).1,fun z hz=>b.pd z (fo.1 hz).1⟩
 ·show(bH (ft d y) (bH (d.b_ nm y.ino) w.fs.aa)).length≤_
  have h2:(bH (ft d y) (bH (d.b_ nm y.ino) w.fs.aa)).length=w.fs.aa.length+1:=hlen;have:=b.bd.len;omega
 ·have hz':z∈bH (ft d y) (bH (d.b_ nm y.ino) w.fs.aa):=hz
  rcases eK.1 hz' with rfl|⟨hz',_⟩
  ·show y.entries.length≤_;rw[p1.2.2.1];simp
  ·rcases eK.1 hz' with rfl|⟨hz',_⟩
   ·have:=qU ⟨nm,y.ino⟩ d.entries
    show(hY ⟨nm,y.ino⟩ d.entries).length≤_;omega
   ·have:=b.bd.de z hz';omega
 ·have hz':z∈bH (ft d y) (bH (d.b_ nm y.ino) w.fs.aa):=hz
  rcases eK.1 hz' with rfl|⟨hz',_⟩
  ·exact b.pd y (aW hy).1
  ·rcases eK.1 hz' with rfl|⟨hz',_⟩
   ·exact hd.2
   ·exact b.bd.data z hz'
 ·show w.fs.next≤_;have:=b.nx;omega
 ·have:=rA s w.al.kept
  show(eJ s w.al.kept).length≤_;have:=b.kl;omega
 ·have:(dn y.ino w.al.aI).length≤w.al.aI.length:=dt
  show(dn y.ino w.al.aI).length≤_;have:=b.pl;omega
theorem EB {fol:Bool} (h:RW w) (b:Wb lim n w) (hn:n≤9000) (ga:Gd w.fs fol a) (a0:a.ino=0):
 (∃e:Int,e≠0∧ma w s a=(w,e))∨
 (∃k,cN s w.al.kept=some k∧k.content=false∧jc w.fs (aK a.dir w.fs.aa) a.name∧(aK a.dir w.fs.aa).ino=a.dir∧
  ((∃x,au k.ino w.fs.aa=some x∧x.kind≠2∧ma w s a=(vq w s (aK a.dir w.fs.aa) a.name x,0)∧RW (vq w s (aK a.dir w.fs.aa) a.name x)∧Wb lim (n+1) (vq w s (aK a.dir w.fs.aa) a.name x))∨
   (∃y,au k.ino w.fs.aa=none∧au k.ino w.al.aI=some y∧y.ino=k.ino∧dv w.fs 1 (byt y)=true∧ma w s a=(pC w s (aK a.dir w.fs.aa) a.name y,0)∧RW (pC w s (aK a.dir w.fs.aa) a.name y)∧Wb lim (n+1) (pC w s (aK a.dir w.fs.aa) a.name y)))):=by
 have ew:=sV h.tr b.bd (by omega);unfold ma;cases hs:cN s w.al.kept with
 |none=>exact Or.inl ⟨13,by decide,rfl⟩
 |some k=>
  simp only;by_cases hc:k.content=true
  ·exact Or.inl ⟨13,by decide,by rw[if_pos hc]⟩
  rw[if_neg hc];by_cases hm:fE a.name=true
  ·rw[if_pos hm]
   obtain⟨hf,hfi⟩:=yf h.tr ew.wf ga a0 hm;cases hx:au k.ino w.fs.aa with
   |some x=>
    simp only;have hxi:=(aW hx).2;by_cases hk:x.kind=2
    ·exact Or.inl ⟨9,by decide,by rw[if_pos hk]⟩
    ·rw[if_neg hk]
     have hxx:au x.ino w.fs.aa=some x:=by rw[hxi];exact hx
     refine Or.inr ⟨k,rfl,by simpa using hc,hf,hfi,Or.inl ⟨x,hx,hk, ?_,IL h hf hxx hk hs hxi.symm,Hf h b hf hxx⟩⟩;rw[(q6 hf hx hk).1];rfl
   |none=>
    simp only;have hkm:=gA hs;obtain⟨_,_,_,y,hy,_⟩:=h.kk k hkm.1;rw[hx] at hy;have hy:=hy.resolve_left (fun h=>by cases h);obtain⟨p1,p2,p3,p4,p5⟩:=h.jE hy;have hyy:au y.ino w.al.aI=some y:=by rw[p2];exact hy
    rw[bx hy];cases hfit:dv w.fs 1 (byt y)
    ·exact Or.inl ⟨8,by decide,rfl⟩
    ·rw[if_pos rfl]
     refine Or.inr ⟨k,rfl,by simpa using hc,hf,hfi,Or.inr ⟨y,hx,hy,p2,hfit, ?_,FR h hf hyy hs p2.symm (by simpa using hc) hfit,GQ h b hf hyy⟩⟩;rw[←p2,(rU hf hfi h.tr.sort (by rw[p2];exact p5) p1.1 p1.2.1).1];rfl
  ·rw[if_neg hm];exact Or.inl ⟨9,by decide,rfl⟩
theorem GF (h:RW w) (b:Wb lim n w) (hx:au x.ino w.fs.aa=some x):Wb lim (n+1) (zh w s x):=by
 refine⟨b.bd.mono (by omega),by show w.fs.next≤_;have:=b.nx;omega, ?_,by show w.al.aI.length≤_;have:=b.pl;omega,fun k hk=> ?_,b.pd⟩
 ·show(q5 _ w.al.kept).length≤_
  rw[AJ];have:=b.kl;omega
 ·rcases lf.1 hk with rfl|hk
  ·exact(b.bd.find hx).2
  ·exact b.kd k hk
theorem By (h:RW w) (b:Wb lim n w) (hx:au i w.fs.aa=some x) (hk:x.kind=1) (hs1:1≤s) (hs2:s≤1073741824):
 ((cN s w.al.kept).isSome=true∧mi w s i=(w,13))∨(cN s w.al.kept=none∧mi w s i=(zh w s x,0)∧RW (zh w s x)∧Wb lim (n+1) (zh w s x)):=by
 have hi:=(aW hx).2;have hxx:au x.ino w.fs.aa=some x:=by rw[hi];exact hx
 unfold mi;cases hs:cN s w.al.kept with
 |some k=>exact Or.inl ⟨rfl,rfl⟩
 |none=>
  refine Or.inr ⟨rfl, ?_,GZ h hxx hk hs1 hs2 hs,GF h b hxx⟩;simp only;rw[bx hx,←hi];rfl
theorem CU (h:RW w) (b:Wb lim n w):(∃e:Int,e≠0∧nu w s=(w,e))∨∃k x,cN s w.al.kept=some k∧k.content=true∧au k.ino w.fs.aa=some x∧x.kind=1∧dv w.fs 0 ((k.data.length:Int) - (x.data.length:Int))=true∧nu w s=(zX w s x k.data,0)∧RW (zX w s x k.data)∧Wb lim (n+1) (zX w s x k.data):=by
 unfold nu;cases hs:cN s w.al.kept with
 |none=>exact Or.inl ⟨13,by decide,rfl⟩
 |some k=>
  simp only;by_cases hc:k.content=true
  ·rw[if_pos hc]
   cases hx:au k.ino w.fs.aa with
   |none=>exact Or.inl ⟨13,by decide,rfl⟩
   |some x=>
    simp only;have hi:=(aW hx).2;have hxx:au x.ino w.fs.aa=some x:=by rw[hi];exact hx
    have hkm:=gA hs;have hk1:x.kind=1:=by
     obtain⟨_,_,_,z,hz,hz2⟩:=h.kk k hkm.1;rcases hz with hz|hz
     ·rw[hx] at hz;cases hz;exact hz2 hc
     ·rw[h.kO hx] at hz;cases hz
    cases hfit:dv w.fs 0 ((k.data.length:Int) - (x.data.length:Int))
    ·exact Or.inl ⟨8,by decide,rfl⟩
    ·rw[if_pos rfl]
     refine Or.inr ⟨k,x,rfl,hc,hx,hk1,hfit,rfl,Gl h hxx hs hc hk1 hfit, ?_⟩;refine⟨(b.bd.put (y:=x.eW k.data) (z:=x) (m:=n) h.tr.sort hxx (Nat.le_refl _) (b.bd.find hxx).1 (b.kd k hkm.1)).mono (by omega),by show w.fs.next≤_;have:=b.nx;omega, ?_,by show w.al.aI.length≤_;have:=b.pl;omega,fun k' hk'=>b.kd k' (gW.1 hk').1,b.pd⟩;have:=rA s w.al.kept;show(eJ s w.al.kept).length≤_;have:=b.kl;omega
  ·rw[if_neg hc];exact Or.inl ⟨13,by decide,rfl⟩
theorem rY (h:RW w) (b:Wb lim n w) (am:fE a.name=true) (hs1:1≤s) (hs2:s≤1073741824) (hs:cN s w.al.kept=none) (tk:DT w.fs n a x e (kD w.fs a)):
 ma (eU w s (aK a.dir w.fs.aa) a.name x) s ⟨a.dir,a.name,0⟩=(w,0):=by
 have hne:=tk.ent.ne h.tr;have hfind:=fun j=>fO (f:=w.fs) (d:=aK a.dir w.fs.aa) (nm:=a.name) (x:=x) hne j
 have hfs:cN s (eU w s (aK a.dir w.fs.aa) a.name x).al.kept=some ⟨s,x.ino,false, []⟩:=by
  show b5 Kept.slot s (iG ltI Kept.slot ⟨s,x.ino,false, []⟩ w.al.kept)=_;rw[rI (pO hs),if_pos rfl]
 have hdir:aK a.dir (eU w s (aK a.dir w.fs.aa) a.name x).fs.aa=(aK a.dir w.fs.aa).cE a.name:=by
  refine bx ?_;show au a.dir (dT w.fs _ _ _).aa=_;rw[hfind,if_neg (by rw[←tk.Lt];exact hne),if_pos tk.Lt]
 have rw1:=yn h tk.ent tk.xe hs1 hs2 hs;have fr1:jc (eU w s (aK a.dir w.fs.aa) a.name x).fs ((aK a.dir w.fs.aa).cE a.name) a.name:=(rM tk.ent h.tr).2;unfold ma;rw[hfs];simp only;rw[if_neg (by decide),am,if_pos rfl];by_cases hl:x.aq=1
 ·have hg0:au x.ino (eU w s (aK a.dir w.fs.aa) a.name x).fs.aa=none:=by
   show au x.ino (dT w.fs _ _ _).aa=none;rw[hfind,if_pos rfl,if_pos hl]
  rw[hg0];simp only;have hp1:au x.ino (eU w s (aK a.dir w.fs.aa) a.name x).al.aI=some x.bare:=by
   show au x.ino (if x.aq=1 then bH x.bare w.al.aI else w.al.aI)=_;rw[if_pos hl,bR,if_pos (show x.bare.ino=x.ino from rfl)]
  rw[bx hp1];have hfit:dv (eU w s (aK a.dir w.fs.aa) a.name x).fs 1 (byt x.bare)=true:=by
   have hsum:=uq h.tr tk.ent tk.xe;have hm:=od (f:=w.fs) (d:=aK a.dir w.fs.aa) (x:=x) (nm:=a.name);have hff:=h.tr.fits;have hb:byt x.bare=byt x:=rfl;rw[if_pos hl,if_pos hl] at hsum;unfold dv at hff⊢;simp only[Bool.and_eq_true,decide_eq_true_eq] at hff⊢;show((dT w.fs _ _ _).aa.length:Int)+1≤(dT w.fs _ _ _).ar∧bytesOf (dT w.fs _ _ _).aa+byt x.bare≤(dT w.fs _ _ _).aw;rw[hm.1,hm.2.1,hb];omega
  rw[hfit,if_pos rfl];have hk:=rw1.jE hp1;have hnn:=(rU (a:=⟨a.dir,a.name,0⟩) (y:=x.bare) (fs:=(eU w s (aK a.dir w.fs.aa) a.name x).fs) (by show jc _ (aK a.dir _) a.name;rw[hdir];exact fr1) (by show(aK a.dir _).ino=a.dir;rw[hdir];exact tk.Lt) rw1.tr.sort hg0 rfl rfl).1;have hnn':nJ ((eU w s (aK a.dir w.fs.aa) a.name x).fs.set (if x.bare.kind=2 then x.bare.jd a.dir else x.bare)) ⟨a.dir,a.name,0⟩ x.ino=_:=hnn;rw[hnn'];simp only;rw[hdir];have:=Ck h tk.ent tk.xe hs hl;unfold pC at this;exact congrArg (fun v=>(v,(0:Int))) this
 ·have hg0:au x.ino (eU w s (aK a.dir w.fs.aa) a.name x).fs.aa=some (x.dQ (x.aq - 1)):=by
   show au x.ino (dT w.fs _ _ _).aa=_;rw[hfind,if_pos rfl,if_neg hl]
  rw[hg0];simp only;have hk2:x.kind≠2:=fun hk2=>by
   have h1:=h.tr.sE tk.ent.hx hk2;have h2:=(h.tr.iy tk.ent.hx).2.1;have h3:=Ff h.tr tk.ent.hx (fun e1=>h.tr.xv tk.ent.hd tk.ent.mem.1 (by rw[tk.ent.hn,e1]));omega
  rw[if_neg (show¬(x.dQ (x.aq - 1)).kind=2 from hk2)];have hnm:=(q6 (f:=(eU w s (aK a.dir w.fs.aa) a.name x).fs) (s:=⟨a.dir,a.name,0⟩) (by show jc _ (aK a.dir _) a.name;rw[hdir];exact fr1) hg0 hk2).1;rw[hnm];show((⟨ko _ (aK a.dir _) a.name _,_⟩:ao),(0:Int))=_;rw[hdir];have:=ER h tk.ent hs hl;unfold vq at this;exact congrArg (fun v=>(v,(0:Int))) this
end
end Go.Eng
set_option linter.unusedSimpArgs false
set_option linter.unusedVariables false
namespace Go.Eng
open Go
theorem mO {l:List Kept} {n:Int} (hs:cU ltI Kept.slot l) (hl:l.length≤1073741824):ie l n=some ((dz ltI Kept.slot n l:Int),(b5 Kept.slot n l).isSome):=by
 unfold ie;have hc:dz ltI Kept.slot n l≤l.length:=l7 l;have e0:∀(k0:Int→Option (Int×Bool)),b4 l n k0 bg (0:Int) (List.length l:Int)=k0 (dz ltI Kept.slot n l:Int):=by
  intro k0;refine yU (fun m a b=>b4 l n k0 m a b) (fun j=>match l[j]? with|some x=>decide (x.slot<n) |none=>false) l.length (dz ltI Kept.slot n l) k0 (by omega) (fun m lo hi h1 h2=> ?_) (fun m lo h1=> ?_) (fun j hj=> ?_) (fun j hj hj2=> ?_) bg 0 l.length (gZ (by omega)) (Nat.zero_le _) hc (Nat.le_refl _)
  ·simp only[b4]
   have hm:(lo+hi)/2<l.length:=by omega
   rw[dec_lt h1,yF (by omega) (by omega),bS,toNat_cast,List.getElem?_eq_getElem hm,bc (by omega)];have e1:decide ((1:Int)<0)=false:=rfl;simp only[e1,aC,ay,ai,aV,if_true,Bool.false_eq_true,if_false,bne_self_eq_false];by_cases h9:l[(lo+hi)/2].slot<n
   ·simp [h9]
   ·simp [h9]
  ·simp only[b4]
   rw[b6 (Nat.le_refl _),ay]
  ·have hj':j<l.length:=by omega
   have:=o4 (lt:=ltI) (key:=Kept.slot) hj (List.getElem?_eq_getElem hj');simp only[List.getElem?_eq_getElem hj'];exact this
  ·have:=qZ loI (k:=n) hs hj (List.getElem?_eq_getElem hj2)
   simp only[List.getElem?_eq_getElem hj2];exact this
 rw[e0,jm loI hs];by_cases h:dz ltI Kept.slot n l<l.length
 ·rw[dec_lt h,bS,toNat_cast,List.getElem?_eq_getElem h]
  simp only[aC,ai,bne_self_eq_false,ay,aV];by_cases h1:l[dz ltI Kept.slot n l].slot<n
  ·have:¬l[dz ltI Kept.slot n l].slot=n:=by omega
   simp [h1,this]
  ·by_cases h2:l[dz ltI Kept.slot n l].slot>n
   ·have:¬l[dz ltI Kept.slot n l].slot=n:=by omega
    simp [h1,h2,this]
   ·have:l[dz ltI Kept.slot n l].slot=n:=by omega
    simp [h1,h2,this]
 ·rw[b6 (by omega),ay,List.getElem?_eq_none (by omega)]
  rfl
theorem lO {l:List ae} {n:Int} (hs:cU ltI ae.ino l) (hl:l.length≤1073741824):gE l n=some ((dz ltI ae.ino n l:Int),(b5 ae.ino n l).isSome):=by
 unfold gE;have hc:dz ltI ae.ino n l≤l.length:=l7 l;have e0:∀(k0:Int→Option (Int×Bool)),bT l n k0 bg (0:Int) (List.length l:Int)=k0 (dz ltI ae.ino n l:Int):=by
  intro k0;refine yU (fun m a b=>bT l n k0 m a b) (fun j=>match l[j]? with|some x=>decide (x.ino<n) |none=>false) l.length (dz ltI ae.ino n l) k0 (by omega) (fun m lo hi h1 h2=> ?_) (fun m lo h1=> ?_) (fun j hj=> ?_) (fun j hj hj2=> ?_) bg 0 l.length (gZ (by omega)) (Nat.zero_le _) hc (Nat.le_refl _)
  ·simp only[bT]
   have hm:(lo+hi)/2<l.length:=by omega
   rw[dec_lt h1,yF (by omega) (by omega),bS,toNat_cast,List.getElem?_eq_getElem hm,bc (by omega)];have e1:decide ((1:Int)<0)=false:=rfl;simp only[e1,aC,ay,ai,aV,if_true,Bool.false_eq_true,if_false,bne_self_eq_false];by_cases h9:l[(lo+hi)/2].ino<n
   ·simp [h9]
   ·simp [h9]
  ·simp only[bT]
   rw[b6 (Nat.le_refl _),ay]
  ·have hj':j<l.length:=by omega
   have:=o4 (lt:=ltI) (key:=ae.ino) hj (List.getElem?_eq_getElem hj');simp only[List.getElem?_eq_getElem hj'];exact this
  ·have:=qZ loI (k:=n) hs hj (List.getElem?_eq_getElem hj2)
   simp only[List.getElem?_eq_getElem hj2];exact this
 rw[e0,jm loI hs];by_cases h:dz ltI ae.ino n l<l.length
 ·rw[dec_lt h,bS,toNat_cast,List.getElem?_eq_getElem h]
  simp only[aC,ai,bne_self_eq_false,ay,aV];by_cases h1:l[dz ltI ae.ino n l].ino<n
  ·have:¬l[dz ltI ae.ino n l].ino=n:=by omega
   simp [h1,this]
  ·by_cases h2:l[dz ltI ae.ino n l].ino>n
   ·have:¬l[dz ltI ae.ino n l].ino=n:=by omega
    simp [h1,h2,this]
   ·have:l[dz ltI ae.ino n l].ino=n:=by omega
    simp [h1,h2,this]
 ·rw[b6 (by omega),ay,List.getElem?_eq_none (by omega)]
  rfl
def noS:Kept:=⟨0,0,false, []⟩
theorem ib {w:ao} {n:Int} (hs:oz w.al.kept) (hl:w.al.kept.length≤1073741824):gr w n=some ((cN n w.al.kept).getD noS,(cN n w.al.kept).isSome):=by
 unfold gr;rw[mO hs hl];simp only[ai];have e:=jm loI (k:=n) hs;rw[bS,toNat_cast];cases h:cN n w.al.kept with
 |none=>simp [noS,show b5 Kept.slot n w.al.kept=none from h]
 |some k=>
  rw[show b5 Kept.slot n w.al.kept=some k from h] at e;cases h2:w.al.kept[dz ltI Kept.slot n w.al.kept]? with
  |none=>rw[h2] at e;cases e
  |some k'=>
   rw[h2] at e;simp only[ai] at e;split at e
   ·cases e;simp [show b5 Kept.slot n w.al.kept=some k from h]
   ·cases e
theorem po {w:ao} {n:Int} (h1:cA w.fs.aa) (h2:w.fs.aa.length≤1073741824) (hs:cA w.al.aI) (hl:w.al.aI.length≤1073741824):
 jH w n=some (match au n w.fs.aa with|some x=>(x,true) |none=>(aK n w.al.aI,(au n w.al.aI).isSome)):=by
 unfold jH;rw[dF h1 h2];simp only[ai];cases h0:au n w.fs.aa with
 |some x=>simp [aK,h0]
 |none=>
  rw[lO hs hl];simp only[ai,Option.isSome_none,ay];have e:=jm loI (k:=n) hs;rw[bS,toNat_cast];cases h:au n w.al.aI with
  |none=>simp [aK,kj,show b5 ae.ino n w.al.aI=none from h]
  |some k=>
   rw[show b5 ae.ino n w.al.aI=some k from h] at e;cases h3:w.al.aI[dz ltI ae.ino n w.al.aI]? with
   |none=>rw[h3] at e;cases e
   |some k'=>
    rw[h3] at e;simp only[ai] at e;split at e
    ·cases e;simp [aK,show b5 ae.ino n w.al.aI=some k from h]
    ·cases e
theorem gH {l:List Kept} (hl:l.length≤1073741824):dP l=some l:=by
 unfold dP;refine jO (fun e=>by subst e;rfl) ?_;rw[bZ (by unfold LIM;simp;omega)];simp
theorem fZ {l:List ae} (hl:l.length≤1073741824):bP l=some l:=by
 unfold bP;refine jO (fun e=>by subst e;rfl) ?_;rw[bZ (by unfold LIM;simp;omega)];simp
theorem pE {w:ao} {x:Kept} (hs:oz w.al.kept) (hl:w.al.kept.length≤1073741824) (h0:cN x.slot w.al.kept=none):eE w x=some ⟨w.fs,⟨q5 x w.al.kept,w.al.aI⟩⟩:=by
 have e9:q5 x w.al.kept=w.al.kept.take (dz ltI Kept.slot x.slot w.al.kept)++x::w.al.kept.drop (dz ltI Kept.slot x.slot w.al.kept):=by
  have:=qT loI hs h0;unfold nD at this;rw[nv h0] at this;exact this
 unfold eE;rw[mO hs hl,gH hl,e9];simp only[ai];have hc:dz ltI Kept.slot x.slot w.al.kept≤w.al.kept.length:=l7 w.al.kept;generalize dz ltI Kept.slot x.slot w.al.kept=c at hc;generalize w.al.kept=l at hl hc;simp only[List.length_singleton];have e1:IntKind.i64.wrap ((List.length l:Int)+((1:Nat):Int))=((l.length+1:Nat):Int):=by rw[b9 (by omega) (by omega)];omega
 have e2:IntKind.i64.wrap ((c:Int)+((1:Nat):Int))=((c+1:Nat):Int):=by rw[b9 (by omega) (by omega)];omega
 simp only[e1,e2,toNat_cast];rw[aN (by simp;omega),bK (by simp)];by_cases hlen:c=l.length
 ·subst hlen
  rw[aN (by simp),bZ (by unfold LIM;omega)];simp
 ·rw[bK (by simp;omega)]
  refine tJ fun cp hcp=> ?_
  by_cases hcap:cp<l.length+1
  ·rw[aN (by simp;omega),aN (by simp;omega)]
   have e3:IntKind.i64.wrap (((l.length+1:Nat):Int) - (c:Int))=((l.length+1 - c:Nat):Int):=by rw[b9 (by omega) (by omega)];omega
   simp only[e3,toNat_cast,List.drop_zero];have hA:(l.take c).length=c:=by simp;omega
   have hT:(l.take c++List.replicate (l.length+1 - c) (⟨0,0,false, []⟩:Kept)).take c=l.take c:=take_set hA;have hD:(l.take c++List.replicate (l.length+1 - c) (⟨0,0,false, []⟩:Kept)).drop c=List.replicate (l.length+1 - c) (⟨0,0,false, []⟩:Kept):=drop_set hA;have hL:(l.take c++List.replicate (l.length+1 - c) (⟨0,0,false, []⟩:Kept)).length=l.length+1:=by simp;omega
   simp only[hT,hD,hL];have hX:[x].take (l.length+1 - c)=[x]:=by rw[List.take_of_length_le];simp;omega
   have hM:min 1 (l.length+1 - c)=1:=by omega
   have hR:(List.replicate (l.length+1 - c) (⟨0,0,false, []⟩:Kept)).drop 1=List.replicate (l.length - c) (⟨0,0,false, []⟩:Kept):=by rw[List.drop_replicate];congr 1;omega
   simp only[hX,hM,hR];have hL2:(l.take c++([x]++List.replicate (l.length - c) (⟨0,0,false, []⟩:Kept))).length=l.length+1:=by simp;omega
   simp only[hL2];have hM2:min (l.length - c) (l.length+1 - (c+1))=l.length - c:=by omega
   simp only[hM2];rw[aN (by simp),bZ (by unfold LIM;omega),aN (by simp;omega),aN (by simp;omega),aN (by simp;omega),aN (by simp;omega),aN (by simp;omega),aN (by simp;omega),aN (by simp;omega),aN (by simp;omega),aN (by simp;omega)];have e4:l.take c++([x]++List.replicate (l.length - c) (⟨0,0,false, []⟩:Kept))=(l.take c++[x])++List.replicate (l.length - c) (⟨0,0,false, []⟩:Kept):=by simp
   have hA1:(l.take c++[x]).length=c+1:=by simp;omega
   have hT4:(l.take c++([x]++List.replicate (l.length - c) (⟨0,0,false, []⟩:Kept))).take (c+1)=l.take c++[x]:=by rw[e4];exact take_set hA1
   have hD4:(l.take c++([x]++List.replicate (l.length - c) (⟨0,0,false, []⟩:Kept))).drop (c+1+(l.length - c))= [] :=by rw[List.drop_eq_nil_of_le];rw[hL2];omega
   have hQ:(l.drop c).take (l.length - c)=l.drop c:=by rw[List.take_of_length_le];simp
   rw[hT4,hD4,hQ];simp
  ·rw[bK (by simp;omega)]
   have hM:min (l.length+1 - c) (l.length+1 - (c+1))=l.length - c:=by omega
   simp only[hM,Nat.zero_add];have hQ:(l.drop c).take (l.length - c)=l.drop c:=by rw[List.take_of_length_le];simp
   have hX:[x].take (l.length+1 - c)=[x]:=by rw[List.take_of_length_le];simp;omega
   have hM2:min 1 (l.length+1 - c)=1:=by omega
   simp only[hQ,hX,hM2,List.drop_zero];rw[aN (by simp;omega),aN (by simp;omega),aN (by simp),aN (by simp;omega),aN (by simp;omega),aN (by simp;omega),aN (by simp;omega)];have hc1:c+1≤l.length:=by omega
   rw[aN (by simp;omega),bK (Dw (by omega)),aN (by simp;omega),aN (by simp;omega),aN (by simp;omega)];have hT1:(l.take (c+1)++l.drop c).take c=l.take c:=by rw[List.take_append_of_le_length (by simp;omega),List.take_take];congr 1;omega
   have hD1:((l.take (c+1)++l.drop c).drop c).drop 1=l.drop c:=by rw[List.drop_drop];exact drop_set (by simp;omega)
   rw[hT1,hD1];rw[List.take_of_length_le (by simp;omega)];simp
end Go.Eng
set_option linter.unusedSimpArgs false
set_option linter.unusedVariables false
namespace Go.Eng
open Go
theorem pT {R:Type} (n:Int) (k0:Int→List Kept→Option R) (l:List Kept) (hl:l.length≤1073741824) (z:R)
 (hk:∀(i:Nat) (l':List Kept),l'.length=l.length→i≤l.length→l'.take i=eJ n l→k0 (i:Int) l'=some z):
 ∀(m i j:Nat) (l':List Kept),l.length - j<m→l'.length=l.length→i≤j→j≤l.length→l'.drop j=l.drop j→l'.take i=eJ n (l.take j)→cS n k0 m (i:Int) (j:Int) l'=some z
 |0,i,j,l',hm,_,_,_,_,_=>by omega
 |m+1,i,j,l',hm,he,hij,hj,hd,ht=>by
  simp only[cS];by_cases h:j<l.length
  ·have h':j<l'.length:=by omega
   rw[aN (by simp;omega),aN (by simp;omega)];have e1:l'[Int.toNat (j:Int)]? =some l[j]:=by
    have:=congrArg (fun q=>q[0]?) hd;simp only[List.getElem?_drop,Nat.add_zero] at this;rw[toNat_cast,this,List.getElem?_eq_getElem h]
   rw[e1,ai];have hw:IntKind.i64.wrap ((j:Int)+1)=((j+1:Nat):Int):=by rw[b9 (by omega) (by omega)];omega
   have hw2:IntKind.i64.wrap ((i:Int)+1)=((i+1:Nat):Int):=by rw[b9 (by omega) (by omega)];omega
   have et:l.take (j+1)=l.take j++[l[j]]:=by rw[List.take_add_one,List.getElem?_eq_getElem h];rfl
   by_cases hs:l[j].slot=n
   ·rw[bK (by simp [hs]),hw]
    refine pT n k0 l hl z hk m i (j+1) l' (by omega) he (by omega) (by omega) ?_ ?_
    ·rw[←List.drop_drop,←List.drop_drop,hd]
    ·rw[ht,et];unfold eJ eh;rw[List.filter_append];simp [hs]
   ·rw[aN (by simp [hs]),aN (by simp;omega)]
    have e2:l'[Int.toNat (i:Int)]? =some (l'[i]'(by omega)):=by rw[toNat_cast];exact List.getElem?_eq_getElem (by omega)
    rw[e2,ai,hw,hw2,toNat_cast];refine pT n k0 l hl z hk m (i+1) (j+1) _ (by omega) (by simpa using he) (by omega) (by omega) ?_ ?_
    ·rw[List.drop_set,if_pos (by omega),←List.drop_drop,←List.drop_drop,hd]
    ·rw[List.take_add_one,List.getElem?_set_self (by omega),et]
     have:(l'.set i l[j]).take i=l'.take i:=by rw[List.take_set,List.set_eq_of_length_le (by simp;omega)]
     rw[this,ht];unfold eJ eh;rw[List.filter_append];simp [hs]
  ·have hjl:j=l.length:=by omega
   subst hjl;rw[bK (by simp;omega)];refine hk i l' he hij ?_;rw[ht,List.take_length]
theorem ji {w:ao} {n:Int} (hl:w.al.kept.length≤1073741824):aR w n=some ⟨w.fs,⟨eJ n w.al.kept,w.al.aI⟩⟩:=by
 unfold aR;rw[gH hl,ai];generalize w.al.kept=l at hl;have key:∀(k0:Int→List Kept→Option ao),(∀(i:Nat) (l':List Kept),l'.length=l.length→i≤l.length→l'.take i=eJ n l→k0 (i:Int) l'=some ⟨w.fs,⟨eJ n l,w.al.aI⟩⟩)→∀(kr:Int→Option ao),(∀j,kr j=ah (j==(-1:Int)) (some ⟨w.fs,⟨l,w.al.aI⟩⟩) (cS n k0 bg j (IntKind.i64.wrap (j+(1:Int))) l))→
  ∀(m j:Nat),l.length - j<m→j≤l.length→eJ n (l.take j)=l.take j→di (List.length l:Int) n l kr (some ⟨w.fs,⟨l,w.al.aI⟩⟩) m (j:Int)=some ⟨w.fs,⟨eJ n l,w.al.aI⟩⟩:=by
  intro k0 hk kr hkr m;induction m with
  |zero=>intro j h;omega
  |succ m ih=>
   intro j hm hj hd;simp only[di];by_cases h:j<l.length
   ·rw[aN (by simp;omega),aN (by simp;omega),toNat_cast,List.getElem?_eq_getElem h,ai]
    have hw:IntKind.i64.wrap ((j:Int)+1)=((j+1:Nat):Int):=by rw[b9 (by omega) (by omega)];omega
    have et:l.take (j+1)=l.take j++[l[j]]:=by rw[List.take_add_one,List.getElem?_eq_getElem h];rfl
    by_cases hs:l[j].slot=n
    ·rw[aN (by simp [hs]),hkr,bK (by simp),hw]
     refine pT n k0 l hl _ hk bg j (j+1) l (gZ (by omega)) rfl (by omega) (by omega) rfl ?_;rw[et];unfold eJ eh at hd⊢;rw[List.filter_append,hd];simp [hs]
    ·rw[bK (by simp [hs]),hw]
     refine ih (j+1) (by omega) (by omega) ?_;rw[et];unfold eJ eh at hd⊢;rw[List.filter_append,hd];simp [hs]
   ·have hjl:j=l.length:=by omega
    subst hjl;rw[bK (by simp)];rw[List.take_length] at hd;rw[hd]
 refine key _ (fun i l' h1 h2 h3=> ?_) _ (fun j=>rfl) bg 0 (gZ (by omega)) (Nat.zero_le _) rfl;simp only[toNat_cast,List.drop_zero];have h4:(l'.take i).length=i:=by simp;omega
 have h5:(l'.take i++(List.replicate (l'.length - i) (⟨0,0,false, []⟩:Kept)++l'.drop (i+(l'.length - i)))).length=l'.length:=by simp;omega
 have h6:(l'.take i++(List.replicate (l'.length - i) (⟨0,0,false, []⟩:Kept)++l'.drop (i+(l'.length - i)))).take i=l'.take i:=take_set h4;rw[aN (by simp;omega),aN (Nat.ble_eq_true_of_le (by omega))];simp only[h5];rw[aN (by simp;omega),aN (Nat.ble_eq_true_of_le (by omega)),h6,h3]
end Go.Eng
set_option linter.unusedSimpArgs false
set_option linter.unusedVariables false
namespace Go.Eng
open Go
section
variable {lim:Int} {w:ao} {s i:Int} {n:Nat}
theorem gi (h:RW w) (b:Wb lim n w) (hn:n≤9000):cr w s i=some (mi w s i):=by
 unfold cr mi;have h1:=b.kl;have h2:=b.bd.len;rw[ib h.ks (by omega)];simp only[ai];cases hf:cN s w.al.kept with
 |some k=>simp [show b5 Kept.slot s w.al.kept=some k from hf]
 |none=>
  simp only[show b5 Kept.slot s w.al.kept=none from hf,Option.isSome_none,ay];rw[dF h.tr.sort (by omega)];simp only[ai];rw[pE h.ks (by omega) hf];rfl
theorem iU (h:RW w) (b:Wb lim n w) (hn:n≤9000):cw w s=some (nu w s):=by
 unfold cw nu;have h1:=b.kl;have h2:=b.bd.len;rw[ib h.ks (by omega)];simp only[ai];rw[dF h.tr.sort (by omega)];simp only[ai];cases hf:cN s w.al.kept with
 |none=>simp [show b5 Kept.slot s w.al.kept=none from hf]
 |some k=>
  have hk:=(gA hf).1;simp only[show b5 Kept.slot s w.al.kept=some k from hf,Option.isSome_some,Option.getD_some,Bool.not_true,ay];cases hc:k.content with
  |false=>simp
  |true=>
   simp only[Bool.not_true,ay,if_true];cases hx:au k.ino w.fs.aa with
   |none=>simp [show b5 ae.ino k.ino w.fs.aa=none from hx]
   |some x=>
    have hxm:=(b8 hx).1;have d1:=b.kd k hk;have d2:=b.bd.data x hxm;simp only[show b5 ae.ino k.ino w.fs.aa=some x from hx,aK,Option.isSome_some,Option.getD_some,Bool.not_true,ay];rw[b9 (by omega) (by omega),gX (h.ew b hn).sm (by unfold Far;omega) (by unfold Far;omega)];simp only[ai];cases hft:dv w.fs 0 ((k.data.length:Int) - (x.data.length:Int)) with
    |false=>simp
    |true=>
     simp only[Bool.not_true,ay,if_true];rw[dE h.tr.sort (by omega)];simp only[ai];rw[ji (by simpa using(by omega:w.al.kept.length≤1073741824))];rfl
end
end Go.Eng
set_option linter.unusedSimpArgs false
set_option linter.unusedVariables false
namespace Go.Eng
open Go
section
variable {lim:Int} {w:ao} {s i:Int} {n:Nat} {a:ax} {x:ae}
theorem uf (h:RW w) (b:Wb lim n w) (hn:n≤9000) (hx0:au a.ino w.fs.aa=some x) (hg:cA (kD w.fs a).aa) (hgl:(kD w.fs a).aa.length≤1073741824)
 (hfi:(au a.ino (kD w.fs a).aa).isSome= !decide (x.aq=1)):eF w s a=some (nL w s a):=by
 unfold eF nL;have h1:=b.kl;have h2:=b.bd.len;have h3:=b.pl;rw[ib h.ks (by omega)];simp only[ai];cases hf:cN s w.al.kept with
 |some k=>simp [show b5 Kept.slot s w.al.kept=some k from hf]
 |none=>
  simp only[show b5 Kept.slot s w.al.kept=none from hf,Option.isSome_none,ay];rw[dF h.tr.sort (by omega)];simp only[ai];rw[vk (h.ew b hn).ez];simp only[ai];rw[dF hg hgl];simp only[ai,hfi,bx hx0];have hW:∀(p:List ae),eE ⟨kD w.fs a,⟨w.al.kept,p⟩⟩ ⟨s,a.ino,false, []⟩=some ⟨kD w.fs a,⟨q5 ⟨s,a.ino,false, []⟩ w.al.kept,p⟩⟩:=fun p=>pE (w:=⟨kD w.fs a,⟨w.al.kept,p⟩⟩) h.ks (by show w.al.kept.length≤_;omega) hf
  by_cases hl1:x.aq=1
  ·have hp:au x.ino w.al.aI=none:=by
    rw[(aW hx0).2];exact h.kO hx0
   have e9:bH x.bare w.al.aI=w.al.aI.take (dz ltI ae.ino x.ino w.al.aI)++x.bare::w.al.aI.drop (dz ltI ae.ino x.ino w.al.aI):=qT loI h.ps hp;rw[if_pos hl1,lO h.ps (by omega),fZ (by omega),e9];simp only[hl1,decide_true,Bool.not_true,Bool.not_false,aC,ai,hW];have hc:dz ltI ae.ino x.ino w.al.aI≤w.al.aI.length:=l7 w.al.aI;have hl:w.al.aI.length≤1073741824:=by omega
   have hxb:(⟨x.ino,x.kind,(0:Int),x.data,(0:Int),x.entries⟩:ae)=x.bare:=rfl;rw[hxb];generalize dz ltI ae.ino x.ino w.al.aI=c at hc;generalize x.bare=x;generalize w.al.aI=l at hc hl;simp only[List.length_singleton];have e1:IntKind.i64.wrap ((List.length l:Int)+((1:Nat):Int))=((l.length+1:Nat):Int):=by rw[b9 (by omega) (by omega)];omega
   have e2:IntKind.i64.wrap ((c:Int)+((1:Nat):Int))=((c+1:Nat):Int):=by rw[b9 (by omega) (by omega)];omega
   simp only[e1,e2,toNat_cast];rw[aN (by simp;omega),bK (by simp)];by_cases hlen:c=l.length
   ·subst hlen
    rw[aN (by simp),bZ (by unfold LIM;omega)];simp
   ·rw[bK (by simp;omega)]
    refine tJ fun cp hcp=> ?_
    by_cases hcap:cp<l.length+1
    ·rw[aN (by simp;omega),aN (by simp;omega)]
     have e3:IntKind.i64.wrap (((l.length+1:Nat):Int) - (c:Int))=((l.length+1 - c:Nat):Int):=by rw[b9 (by omega) (by omega)];omega
     simp only[e3,toNat_cast,List.drop_zero];have hA:(l.take c).length=c:=by simp;omega
     have hT:(l.take c++List.replicate (l.length+1 - c) (⟨0,0,0, [],0,([] :List Entry)⟩:ae)).take c=l.take c:=take_set hA;have hD:(l.take c++List.replicate (l.length+1 - c) (⟨0,0,0, [],0,([] :List Entry)⟩:ae)).drop c=List.replicate (l.length+1 - c) (⟨0,0,0, [],0,([] :List Entry)⟩:ae):=drop_set hA;have hL:(l.take c++List.replicate (l.length+1 - c) (⟨0,0,0, [],0,([] :List Entry)⟩:ae)).length=l.length+1:=by simp;omega
     simp only[hT,hD,hL];have hX:[x].take (l.length+1 - c)=[x]:=by rw[List.take_of_length_le];simp;omega
     have hM:min 1 (l.length+1 - c)=1:=by omega
     have hR:(List.replicate (l.length+1 - c) (⟨0,0,0, [],0,([] :List Entry)⟩:ae)).drop 1=List.replicate (l.length - c) (⟨0,0,0, [],0,([] :List Entry)⟩:ae):=by rw[List.drop_replicate];congr 1;omega
     simp only[hX,hM,hR];have hL2:(l.take c++([x]++List.replicate (l.length - c) (⟨0,0,0, [],0,([] :List Entry)⟩:ae))).length=l.length+1:=by simp;omega
     simp only[hL2];have hM2:min (l.length - c) (l.length+1 - (c+1))=l.length - c:=by omega
     simp only[hM2];rw[aN (by simp),bZ (by unfold LIM;omega),aN (by simp;omega),aN (by simp;omega),aN (by simp;omega),aN (by simp;omega),aN (by simp;omega),aN (by simp;omega),aN (by simp;omega),aN (by simp;omega),aN (by simp;omega)];have e4:l.take c++([x]++List.replicate (l.length - c) (⟨0,0,0, [],0,([] :List Entry)⟩:ae))=(l.take c++[x])++List.replicate (l.length - c) (⟨0,0,0, [],0,([] :List Entry)⟩:ae):=by simp
     have hA1:(l.take c++[x]).length=c+1:=by simp;omega
     have hT4:(l.take c++([x]++List.replicate (l.length - c) (⟨0,0,0, [],0,([] :List Entry)⟩:ae))).take (c+1)=l.take c++[x]:=by rw[e4];exact take_set hA1
     have hD4:(l.take c++([x]++List.replicate (l.length - c) (⟨0,0,0, [],0,([] :List Entry)⟩:ae))).drop (c+1+(l.length - c))= [] :=by rw[List.drop_eq_nil_of_le];rw[hL2];omega
     have hQ:(l.drop c).take (l.length - c)=l.drop c:=by rw[List.take_of_length_le];simp
     rw[hT4,hD4,hQ];simp
    ·rw[bK (by simp;omega)]
     have hM:min (l.length+1 - c) (l.length+1 - (c+1))=l.length - c:=by omega
     simp only[hM,Nat.zero_add];have hQ:(l.drop c).take (l.length - c)=l.drop c:=by rw[List.take_of_length_le];simp
     have hX:[x].take (l.length+1 - c)=[x]:=by rw[List.take_of_length_le];simp;omega
     have hM2:min 1 (l.length+1 - c)=1:=by omega
     simp only[hQ,hX,hM2,List.drop_zero];rw[aN (by simp;omega),aN (by simp;omega),aN (by simp),aN (by simp;omega),aN (by simp;omega),aN (by simp;omega),aN (by simp;omega)];have hc1:c+1≤l.length:=by omega
     rw[aN (by simp;omega),bK (Dw (by omega)),aN (by simp;omega),aN (by simp;omega),aN (by simp;omega)];have hT1:(l.take (c+1)++l.drop c).take c=l.take c:=by rw[List.take_append_of_le_length (by simp;omega),List.take_take];congr 1;omega
     have hD1:((l.take (c+1)++l.drop c).drop c).drop 1=l.drop c:=by rw[List.drop_drop];exact drop_set (by simp;omega)
     rw[hT1,hD1];rw[List.take_of_length_le (by simp;omega)];simp
  ·rw[if_neg hl1]
   simp only[hl1,decide_false,Bool.not_false,Bool.not_true,ay];have:=hW w.al.aI;simp only[show(⟨kD w.fs a,w.al⟩:ao)=⟨kD w.fs a,⟨w.al.kept,w.al.aI⟩⟩ from rfl,this,ai]
end
end Go.Eng
set_option linter.unusedSimpArgs false
set_option linter.unusedVariables false
namespace Go.Eng
open Go
theorem yS {R:Type} (y:ae) (k0:Int→List ae→Option R) (l:List ae) (hl:l.length≤1073741824) (z:R)
 (hk:∀(i:Nat) (l':List ae),l'.length=l.length→i≤l.length→l'.take i=dn y.ino l→k0 (i:Int) l'=some z):
 ∀(m i j:Nat) (l':List ae),l.length - j<m→l'.length=l.length→i≤j→j≤l.length→l'.drop j=l.drop j→l'.take i=dn y.ino (l.take j)→bQ y k0 m (i:Int) (j:Int) l'=some z
 |0,i,j,l',hm,_,_,_,_,_=>by omega
 |m+1,i,j,l',hm,he,hij,hj,hd,ht=>by
  simp only[bQ];by_cases h:j<l.length
  ·have h':j<l'.length:=by omega
   rw[aN (by simp;omega),aN (by simp;omega)];have e1:l'[Int.toNat (j:Int)]? =some l[j]:=by
    have:=congrArg (fun q=>q[0]?) hd;simp only[List.getElem?_drop,Nat.add_zero] at this;rw[toNat_cast,this,List.getElem?_eq_getElem h]
   rw[e1,ai];have hw:IntKind.i64.wrap ((j:Int)+1)=((j+1:Nat):Int):=by rw[b9 (by omega) (by omega)];omega
   have hw2:IntKind.i64.wrap ((i:Int)+1)=((i+1:Nat):Int):=by rw[b9 (by omega) (by omega)];omega
   have et:l.take (j+1)=l.take j++[l[j]]:=by rw[List.take_add_one,List.getElem?_eq_getElem h];rfl
   by_cases hs:l[j].ino=y.ino
   ·rw[bK (by simp [hs]),hw]
    refine yS y k0 l hl z hk m i (j+1) l' (by omega) he (by omega) (by omega) ?_ ?_
    ·rw[←List.drop_drop,←List.drop_drop,hd]
    ·rw[ht,et];unfold dn eh;rw[List.filter_append];simp [hs]
   ·rw[aN (by simp [hs]),aN (by simp;omega)]
    have e2:l'[Int.toNat (i:Int)]? =some (l'[i]'(by omega)):=by rw[toNat_cast];exact List.getElem?_eq_getElem (by omega)
    rw[e2,ai,hw,hw2,toNat_cast];refine yS y k0 l hl z hk m (i+1) (j+1) _ (by omega) (by simpa using he) (by omega) (by omega) ?_ ?_
    ·rw[List.drop_set,if_pos (by omega),←List.drop_drop,←List.drop_drop,hd]
    ·rw[List.take_add_one,List.getElem?_set_self (by omega),et]
     have:(l'.set i l[j]).take i=l'.take i:=by rw[List.take_set,List.set_eq_of_length_le (by simp;omega)]
     rw[this,ht];unfold dn eh;rw[List.filter_append];simp [hs]
  ·have hjl:j=l.length:=by omega
   subst hjl;rw[bK (by simp;omega)];refine hk i l' he hij ?_;rw[ht,List.take_length]
theorem FP {R:Type} (y:ae) (l:List ae) (hl:l.length≤1073741824) (z:R) (k0:Int→List ae→Option R)
 (hk:∀(i:Nat) (l':List ae),l'.length=l.length→i≤l.length→l'.take i=dn y.ino l→k0 (i:Int) l'=some z) (kz:Option R) (hkz:dn y.ino l=l→kz=some z) (kr:Int→Option R)
 (hkr:∀j:Nat,j<l.length→kr (j:Int)=bQ y k0 bg (j:Int) (IntKind.i64.wrap ((j:Int)+(1:Int))) l):
 ∀(m j:Nat),l.length - j<m→j≤l.length→dn y.ino (l.take j)=l.take j→bJ (List.length l:Int) y l kr kz m (j:Int)=some z:=by
 intro m;induction m with
 |zero=>intro j h;omega
 |succ m ih=>
  intro j hm hj hd;simp only[bJ];by_cases h:j<l.length
  ·rw[aN (by simp;omega),aN (by simp;omega),toNat_cast,List.getElem?_eq_getElem h,ai]
   have hw:IntKind.i64.wrap ((j:Int)+1)=((j+1:Nat):Int):=by rw[b9 (by omega) (by omega)];omega
   have et:l.take (j+1)=l.take j++[l[j]]:=by rw[List.take_add_one,List.getElem?_eq_getElem h];rfl
   by_cases hs:l[j].ino=y.ino
   ·rw[aN (by simp [hs]),hkr j h,hw]
    refine yS y k0 l hl _ hk bg j (j+1) l (gZ (by omega)) rfl (by omega) (by omega) rfl ?_;rw[et];unfold dn eh at hd⊢;rw[List.filter_append,hd];simp [hs]
   ·rw[bK (by simp [hs]),hw]
    refine ih (j+1) (by omega) (by omega) ?_;rw[et];unfold dn eh at hd⊢;rw[List.filter_append,hd];simp [hs]
  ·have hjl:j=l.length:=by omega
   subst hjl;rw[bK (by simp)];rw[List.take_length] at hd;exact hkz hd
end Go.Eng
set_option linter.unusedSimpArgs false
set_option linter.unusedVariables false
namespace Go.Eng
open Go
theorem jM {w:ao} {n:Int} (hl:w.al.kept.length≤1073741824):ir w n=some ((cN n w.al.kept).getD noS,(cN n w.al.kept).isSome):=by
 unfold ir;refine(bY (l:=w.al.kept) (fun m i (_:Unit)=>fS n w (fun z10=>some (z10,true)) (some ((⟨0,0,false, []⟩:Kept),false)) m i) (fun _ (x:Kept) s K=>if decide (x.slot=n) then some (x,true) else K s) (fun _=>some (noS,false)) (by omega) (fun m k x u hk hx=> ?_) (fun m u=> ?_) ()).trans ?_
 ·simp only[fS]
  rw[dec_lt hk,bS,toNat_cast,hx,bc (by omega)];simp only[aC,ai,aV,if_true,kE]
 ·simp only[fS]
  rw[b6 (Nat.le_refl _)];rfl
 ·rw[pZ (key:=Kept.slot) (k:=n) (fun x=>some (x,true)) _]
  unfold cN;cases b5 Kept.slot n w.al.kept<;>rfl
theorem mB {w:ao} {n:Int} (hl:w.al.kept.length≤1073741824):cu w n=some ⟨w.fs,⟨eJ n w.al.kept,w.al.aI⟩⟩:=by
 unfold cu;refine(bY (l:=w.al.kept) (fun m i s=>dx n w (fun z11=>some (⟨w.fs,(⟨z11,w.al.aI⟩:aU)⟩:ao)) m i s) (fun _ (x:Kept) s K=>if !decide (x.slot=n) then aQ (s.length+[x].length) (K (s++[x])) else K s) (fun z11=>some (⟨w.fs,(⟨z11,w.al.aI⟩:aU)⟩:ao)) (by omega) (fun m k x s hk hx=> ?_) (fun m s=> ?_) []).trans ?_
 ·simp only[dx]
  rw[dec_lt hk,bS,toNat_cast,hx,bc (by omega)];simp only[aC,ai,aV,if_true,mg]
 ·simp only[dx]
  rw[b6 (Nat.le_refl _)];rfl
 ·rw[mH _ _ _ _ _ (by unfold LIM;simp;omega)];rfl
theorem mq {w:ao} {x:Kept} (hl:w.al.kept.length≤1073741824):jD w x=some ⟨w.fs,⟨q5 x w.al.kept,w.al.aI⟩⟩:=by
 unfold jD;refine(bY (l:=w.al.kept) (fun m i s=>d_ w x (fun z16 z17=>ah (!z16) (aQ (z17.length+[x].length) (some (⟨w.fs,(⟨(z17++[x]),w.al.aI⟩:aU)⟩:ao))) (some (⟨w.fs,(⟨z17,w.al.aI⟩:aU)⟩:ao))) m s.1 i s.2)
  (fun _ y (s:Bool×List Kept) K=>if !s.1 then (if ltI x.slot y.slot then aQ (s.2.length+[x].length) (aQ ((s.2++[x]).length+[y].length) (K (true,(s.2++[x])++[y]))) else aQ (s.2.length+[y].length) (K (s.1,s.2++[y]))) else aQ (s.2.length+[y].length) (K (s.1,s.2++[y])))
  (fun s=>if !s.1 then aQ (s.2.length+[x].length) (some (⟨w.fs,(⟨s.2++[x],w.al.aI⟩:aU)⟩:ao)) else some (⟨w.fs,(⟨s.2,w.al.aI⟩:aU)⟩:ao)) (by omega) (fun m k y s hk hx=> ?_) (fun m s=> ?_) (false, [])).trans ?_
 ·simp only[d_]
  rw[dec_lt hk,bS,toNat_cast,hx,bc (by omega)];simp only[aC,ai,aV,if_true,ltI,gt_iff_lt]
 ·simp only[d_]
  rw[b6 (Nat.le_refl _),ay];simp only[aV]
 ·rw[kI (lt:=ltI) (key:=Kept.slot) x (fun z=>some (⟨w.fs,(⟨z,w.al.aI⟩:aU)⟩:ao)) _ _ _ (by unfold LIM;simp;omega)]
  rfl
end Go.Eng
set_option linter.unusedSimpArgs false
set_option linter.unusedVariables false
namespace Go.Eng
open Go
section
variable {lim:Int} {w:ao} {s i:Int} {n:Nat}
theorem re (h:RW w) (b:Wb lim n w) (hn:n≤9000):iZ w s i=some (mi w s i):=by
 unfold iZ mi;have h1:=b.kl;have h2:=b.bd.len;rw[jM (by omega)];simp only[ai];cases hf:cN s w.al.kept with
 |some k=>simp [show b5 Kept.slot s w.al.kept=some k from hf]
 |none=>
  simp only[show b5 Kept.slot s w.al.kept=none from hf,Option.isSome_none,ay];rw[cP (by omega)];simp only[ai];rw[mq (by omega)];rfl
theorem qE (h:RW w) (b:Wb lim n w) (hn:n≤9000):iI w s=some (nu w s):=by
 unfold iI nu;have h1:=b.kl;have h2:=b.bd.len;rw[jM (by omega)];simp only[ai];rw[cP (by omega)];simp only[ai];cases hf:cN s w.al.kept with
 |none=>simp [show b5 Kept.slot s w.al.kept=none from hf]
 |some k=>
  have hk:=(gA hf).1;simp only[show b5 Kept.slot s w.al.kept=some k from hf,Option.isSome_some,Option.getD_some,Bool.not_true,ay];cases hc:k.content with
  |false=>simp
  |true=>
   simp only[Bool.not_true,ay,if_true];cases hx:au k.ino w.fs.aa with
   |none=>simp [show b5 ae.ino k.ino w.fs.aa=none from hx]
   |some x=>
    have hxm:=(b8 hx).1;have d1:=b.kd k hk;have d2:=b.bd.data x hxm;simp only[show b5 ae.ino k.ino w.fs.aa=some x from hx,aK,Option.isSome_some,Option.getD_some,Bool.not_true,ay];rw[b9 (by omega) (by omega),fQ (h.ew b hn).sm (by unfold Far;omega) (by unfold Far;omega)];simp only[ai];cases hft:dv w.fs 0 ((k.data.length:Int) - (x.data.length:Int)) with
    |false=>simp
    |true=>
     simp only[Bool.not_true,ay,if_true];rw[cO (by omega)];simp only[ai];rw[mB (by simpa using(by omega:w.al.kept.length≤1073741824))];rfl
end
end Go.Eng
set_option linter.unusedSimpArgs false
set_option linter.unusedVariables false
namespace Go.Eng
open Go
section
variable {lim:Int} {w:ao} {s i:Int} {n:Nat} {a:ax} {x:ae}
theorem uy (h:RW w) (b:Wb lim n w) (hn:n≤9000) (hr:uz w.fs a=kD w.fs a):lj w s a=some (nL w s a):=by
 unfold lj nL;have h1:=b.kl;have h2:=b.bd.len;have h3:=b.pl;rw[jM (by omega)];simp only[ai];cases hf:cN s w.al.kept with
 |some k=>simp [show b5 Kept.slot s w.al.kept=some k from hf]
 |none=>
  simp only[show b5 Kept.slot s w.al.kept=none from hf,Option.isSome_none,ay];rw[cP (by omega)];simp only[ai];rw[tp (h.ew b hn).ez,hr];simp only[ai];by_cases hl1:(aK a.ino w.fs.aa).aq=1
  ·rw[aN (by simp [hl1]),if_pos hl1]
   show aj (some (⟨0,0,0,w.al.aI⟩:Fs)) _=_;rw[ai,cO (by show w.al.aI.length≤_;omega),ai,mq (by show w.al.kept.length≤_;omega),ai];rfl
  ·rw[bK (by simp [hl1]),if_neg hl1,mq (by show w.al.kept.length≤_;omega),ai]
end
end Go.Eng
set_option linter.unusedSimpArgs false
set_option linter.unusedVariables false
namespace Go.Eng
open Go
instance Xr:DecidableEq Kept:=fun a b=>
 if h:a.slot=b.slot∧a.ino=b.ino∧a.content=b.content∧a.data=b.data then isTrue (by cases a;cases b;simp at h;simp [h]) else isFalse (by intro e;subst e;exact h ⟨rfl,rfl,rfl,rfl⟩)
instance UD:DecidableEq ao:=fun a b=>
 if h:a.fs=b.fs∧a.al.kept=b.al.kept∧a.al.aI=b.al.aI then isTrue (ao.ext h.1 h.2.1 h.2.2) else isFalse (by intro e;subst e;exact h ⟨rfl,rfl,rfl⟩)
theorem Hm {x y:Kept}:x=y↔x.slot=y.slot∧x.ino=y.ino∧x.content=y.content∧x.data=y.data:=by
 constructor
 ·rintro rfl;exact⟨rfl,rfl,rfl,rfl⟩
 ·rintro⟨h1,h2,h3,h4⟩;cases x;cases y;simp at h1 h2 h3 h4;simp [h1,h2,h3,h4]
theorem Ho (x y:Kept):(!((x.slot==y.slot)&&((x.ino==y.ino)&&((x.content==y.content)&&(x.data==y.data)))))= !decide (x=y):=by
 congr 1;rw[Bool.eq_iff_iff];simp only[Bool.and_eq_true,beq_iff_eq,decide_eq_true_eq,Hm]
theorem DG (a b:ao):decide (a=b)=(decide (a.fs=b.fs)&&(decide (a.al.aI=b.al.aI)&&decide (a.al.kept=b.al.kept))):=by
 rw[Bool.eq_iff_iff];simp only[decide_eq_true_eq,Bool.and_eq_true];constructor
 ·rintro rfl;exact⟨rfl,rfl,rfl⟩
 ·rintro⟨h1,h2,h3⟩;exact ao.ext h1 h3 h2
theorem wm {a b:ao} (h1:a.fs.aa.length≤1073741824) (h2:∀x∈a.fs.aa,x.entries.length≤1073741824) (h3:a.al.aI.length≤1073741824) (h4:∀x∈a.al.aI,x.entries.length≤1073741824) (h5:a.al.kept.length≤1073741824):
 bo a b=some (decide (a=b)):=by
 unfold bo;rw[mf h1 h2,pe h3 h4,DG];simp only[ai,aV];by_cases g1:a.fs=b.fs
 ·by_cases g2:a.al.aI=b.al.aI
  ·simp only[g1,g2,decide_true,Bool.not_true,Bool.false_eq_true,if_false,Bool.true_and]
   by_cases h:a.al.kept.length=b.al.kept.length
   ·have e:((List.length a.al.kept:Int) !=(List.length b.al.kept:Int))=false:=by rw[h];simp
    rw[e,if_neg (by simp)];refine(bY (l:=a.al.kept) (fun m i (_:Unit)=>fR a b (some false) (some true) m i) (fun k x (_:Unit) K=>aj ([] ++b.al.kept)[k]? fun y=>if decide (x=y) then K () else some false) (fun _=>some true) (by omega) (fun m k x u hk hx=> ?_) (fun m u=> ?_) ()).trans ?_
    ·simp only[fR]
     rw[dec_lt hk,bS,toNat_cast,hx,bc (by omega)];simp only[aC,ai,aV,if_true,List.nil_append];have hk':k<b.al.kept.length:=by omega
     rw[List.getElem?_eq_getElem hk'];simp only[ai,Ho];by_cases hxy:x=b.al.kept[k]<;>simp [hxy]
    ·simp only[fR]
     rw[b6 (Nat.le_refl _)];rfl
    ·rw[jf _ _ a.al.kept b.al.kept 0 [] h rfl]
     by_cases hab:a.al.kept=b.al.kept<;>simp [hab]
   ·have e:((List.length a.al.kept:Int) !=(List.length b.al.kept:Int))=true:=by rw[bne_iff_ne];omega
    rw[e,if_pos rfl];have:¬a.al.kept=b.al.kept:=fun e=>h (by rw[e])
    simp [this]
  ·simp [g1,g2]
 ·simp [g1]
end Go.Eng
set_option linter.unusedSimpArgs false
set_option linter.unusedVariables false
namespace Go.Eng
open Go
theorem Ub (x y:Entry):(!((x.name==y.name)&&(x.ino==y.ino)))= !decide (x=y):=by
 congr 1;rw[Bool.eq_iff_iff];cases x;cases y;simp
theorem vM {a b:ae} (hl:a.entries.length≤1073741824):lW a b=some (decide (a=b)):=by
 unfold lW;rw[RE];simp only[kE,ta,aV];by_cases h1:a.ino=b.ino
 ·by_cases h2:a.kind=b.kind
  ·by_cases h3:a.aq=b.aq
   ·by_cases h4:a.data=b.data
    ·by_cases h5:a.parent=b.parent
     ·simp only[h1,h2,h3,h4,h5,decide_true,if_true,Bool.true_and]
      generalize a.entries=l at hl;generalize b.entries=m;by_cases h:l.length=m.length
      ·have e:((List.length l:Int) !=(List.length m:Int))=false:=by rw[h];simp
       rw[e,if_neg (by simp)];refine(bY (l:=l) (fun n i (_:Unit)=>dR l m (List.length l:Int) (some false) (some true) n i) (fun k x (_:Unit) K=>aj ([] ++m)[k]? fun y=>if decide (x=y) then K () else some false) (fun _=>some true) (by omega) (fun n k x u hk hx=> ?_) (fun n u=> ?_) ()).trans ?_
       ·simp only[dR]
        rw[dec_lt hk,bS,toNat_cast,hx,bc (by omega)];simp only[aC,ai,aV,if_true,List.nil_append];have hk':k<m.length:=by omega
        rw[List.getElem?_eq_getElem hk'];simp only[ai,Ub];by_cases hxy:x=m[k]<;>simp [hxy]
       ·simp only[dR]
        rw[b6 (Nat.le_refl _)];rfl
       ·rw[jf _ _ l m 0 [] h rfl]
        by_cases hab:l=m<;>simp [hab]
      ·have e:((List.length l:Int) !=(List.length m:Int))=true:=by rw[bne_iff_ne];omega
       rw[e,if_pos rfl];have:¬l=m:=fun e=>h (by rw[e])
       simp [this]
     ·simp [h1,h2,h3,h4,h5]
    ·simp [h1,h2,h3,h4]
   ·simp [h1,h2,h3]
  ·simp [h1,h2]
 ·simp [h1]
theorem pc {a b:Fs} (hl:a.aa.length≤1073741824) (he:∀x∈a.aa,x.entries.length≤1073741824):kV a b=some (decide (a=b)):=by
 unfold kV;rw[Qy];simp only[kE,aV];by_cases h1:a.ar=b.ar
 ·by_cases h2:a.aw=b.aw
  ·by_cases h3:a.next=b.next
   ·simp only[h1,h2,h3,decide_true,if_true,Bool.true_and]
    generalize a.aa=l at hl he;generalize b.aa=m;by_cases h:l.length=m.length
    ·have e:((List.length l:Int) !=(List.length m:Int))=false:=by rw[h];simp
     rw[e,if_neg (by simp)];refine(bY (l:=l) (fun n i (_:Unit)=>eo m l (List.length l:Int) (some false) (some true) n i) (fun k x (_:Unit) K=>aj ([] ++m)[k]? fun y=>if decide (x=y) then K () else some false) (fun _=>some true) (by omega) (fun n k x u hk hx=> ?_) (fun n u=> ?_) ()).trans ?_
     ·simp only[eo]
      rw[dec_lt hk,bS,toNat_cast,hx,bc (by omega)];simp only[aC,ai,aV,if_true,List.nil_append];have hk':k<m.length:=by omega
      rw[List.getElem?_eq_getElem hk'];simp only[ai];rw[vM (he x (List.mem_of_getElem? hx))];simp only[ai];by_cases hxy:x=m[k]<;>simp [hxy]
     ·simp only[eo]
      rw[b6 (Nat.le_refl _)];rfl
     ·rw[jf _ _ l m 0 [] h rfl]
      by_cases hab:l=m<;>simp [hab]
    ·have e:((List.length l:Int) !=(List.length m:Int))=true:=by rw[bne_iff_ne];omega
     rw[e,if_pos rfl];have:¬l=m:=fun e=>h (by rw[e])
     simp [this]
   ·simp [h1,h2,h3]
  ·simp [h1,h2]
 ·simp [h1]
theorem P_ (a b:List ae):decide ((⟨0,0,0,a⟩:Fs)=⟨0,0,0,b⟩)=decide (a=b):=by
 rw[Qy];simp
theorem jR {a b:ao} (h1:a.fs.aa.length≤1073741824) (h2:∀x∈a.fs.aa,x.entries.length≤1073741824) (h3:a.al.aI.length≤1073741824) (h4:∀x∈a.al.aI,x.entries.length≤1073741824) (h5:a.al.kept.length≤1073741824):
 fD a b=some (decide (a=b)):=by
 unfold fD;rw[pc h1 h2,pc (a:=⟨0,0,0,a.al.aI⟩) h3 h4,DG,P_];simp only[ai,aV];by_cases g1:a.fs=b.fs
 ·simp only[g1,decide_true,if_true,Bool.true_and]
  by_cases h:a.al.kept.length=b.al.kept.length
  ·have e:((List.length a.al.kept:Int) !=(List.length b.al.kept:Int))=false:=by rw[h];simp
   rw[e,if_neg (by simp)];refine(bY (l:=a.al.kept) (fun m i (_:Unit)=>ek a.al.kept b.al.kept (List.length a.al.kept:Int) (some false) (some (decide (a.al.aI=b.al.aI))) m i) (fun k x (_:Unit) K=>aj ([] ++b.al.kept)[k]? fun y=>if decide (x=y) then K () else some false) (fun _=>some (decide (a.al.aI=b.al.aI))) (by omega) (fun m k x u hk hx=> ?_) (fun m u=> ?_) ()).trans ?_
   ·simp only[ek]
    rw[dec_lt hk,bS,toNat_cast,hx,bc (by omega)];simp only[aC,ai,aV,if_true,List.nil_append];have hk':k<b.al.kept.length:=by omega
    rw[List.getElem?_eq_getElem hk'];simp only[ai,Ho];by_cases hxy:x=b.al.kept[k]<;>simp [hxy]
   ·simp only[ek]
    rw[b6 (Nat.le_refl _)];rfl
   ·rw[jf _ _ a.al.kept b.al.kept 0 [] h rfl]
    by_cases hab:a.al.kept=b.al.kept<;>simp [hab]
  ·have e:((List.length a.al.kept:Int) !=(List.length b.al.kept:Int))=true:=by rw[bne_iff_ne];omega
   rw[e,if_pos rfl];have:¬a.al.kept=b.al.kept:=fun e=>h (by rw[e])
   simp [this]
 ·simp [g1]
section
variable {lim:Int} {w:ao} {n:Nat} {a:ax} {d y:ae}
theorem DU (h:RW w) (b:Wb lim n w) (hn:n≤9000) (hd:au a.dir w.fs.aa=some d) (hk:d.kind=2) (hy:y∈w.al.aI):Ez (w.fs.set (if y.kind=2 then y.jd a.dir else y)):=by
 have z:=(h.ew b hn).ez;have hp:=(h.pk y hy).1;obtain⟨_,p2,p3,p4,_⟩:=h.pk y hy;generalize hz:(if y.kind=2 then y.jd a.dir else y)=x;have xi:x.ino=y.ino:=by rw[←hz];split<;>rfl
 have xe:x.entries= [] :=by rw[←hz];split<;>exact hp.2.2.1
 have xd:x.data=y.data:=by rw[←hz];split<;>rfl
 have xk:x.kind=y.kind:=by rw[←hz];split<;>rfl
 have xl:x.aq=0:=by rw[←hz];split<;>exact hp.1
 have hfind:∀j,au j (w.fs.set x).aa=if x.ino=j then some x else au j w.fs.aa:=fun j=>bR
 have hsome:∀j u,au j w.fs.aa=some u→au j (w.fs.set x).aa=some u:=fun j u hu=>by
  rw[hfind,if_neg (fun e=>by rw[←e,xi,p4] at hu;cases hu)];exact hu
 have hm:∀u,u∈(w.fs.set x).aa→u=x∨u∈w.fs.aa:=fun u hu=>by
  rcases eK.1 hu with h|⟨h,_⟩
  ·exact Or.inl h
  ·exact Or.inr h
 have hlen:= @l_ w.fs x;have hl:=b.bd.len;have hdat:=b.pd y hy;have wf:=z.ws.wf;refine⟨⟨⟨⟨by omega,fun u hu=> ?_,fun u hu=> ?_,fun u hu=> ?_⟩,eS wf.sort x,fun u hu=> ?_,fun u hu=> ?_,fun u hu e he=> ?_, ?_⟩,fun u hu hku=> ?_,fun u hu hku=> ?_, ?_⟩,⟨by omega,fun u hu=> ?_⟩,z.nx,fun u hu=> ?_⟩
 ·rcases hm u hu with rfl|hu
  ·rw[xd];omega
  ·exact wf.sm.data u hu
 ·rcases hm u hu with rfl|hu
  ·rw[xe];simp
  ·exact wf.sm.de u hu
 ·rcases hm u hu with rfl|hu
  ·rw[xe];simp
  ·exact wf.sm.names u hu
 ·rcases hm u hu with rfl|hu
  ·omega
  ·exact wf.pos u hu
 ·rcases hm u hu with rfl|hu
  ·rw[xe];rfl
  ·exact wf.right u hu
 ·rcases hm u hu with rfl|hu
  ·rw[xe] at he;cases he
  ·obtain⟨v,hv⟩:=Option.isSome_iff_exists.1 (wf.there u hu e he)
   rw[hsome _ v hv];rfl
 ·obtain⟨v,hv⟩:=Option.isSome_iff_exists.1 wf.root
  rw[hsome _ v hv];rfl
 ·rcases hm u hu with rfl|hu
  ·have hx2:u.parent=a.dir:=by
    rw[←hz,if_pos (by rw[←xk];exact hku)];rfl
   rw[hx2];exact⟨d,hsome _ d hd,hk⟩
  ·obtain⟨v,hv,hv2⟩:=z.ws.par u hu hku
   exact⟨v,hsome _ v hv,hv2⟩
 ·rcases hm u hu with rfl|hu
  ·rw[xd]
   rcases hp.2.2.2 with h1|⟨h1,h2⟩ |⟨_,_,h2,_⟩
   ·rw[xk,h1] at hku;cases hku
   ·rw[h2];simp
   ·exact h2
  ·exact z.ws.sym u hu hku
 ·obtain⟨r,hr,hr2⟩:=z.ws.LX
  exact⟨r,hsome _ r hr,hr2⟩
 ·rcases hm u hu with rfl|hu
  ·rw[xe];simp
  ·exact z.lil.de u hu
 ·rcases hm u hu with rfl|hu
  ·rw[xl];omega
  ·exact z.lk u hu
end
end Go.Eng
set_option linter.unusedSimpArgs false
set_option linter.unusedVariables false
namespace Go.Eng
open Go
section
variable {lim:Int} {w:ao} {n:Nat} {a:ax} {d y x:ae} {i s:Int}
theorem Ek {R:Type} (y:ae) (l:List ae) (hl:l.length≤1073741824) (z:R) (k0:Int→List ae→Option R) (ke kz:Option R)
 (hk:∀(i:Nat) (l':List ae),l'.length=l.length→i≤l.length→l'.take i=dn y.ino l→k0 (i:Int) l'=some z) (hkz:dn y.ino l=l→kz=some z):
 bJ (List.length l:Int) y l (fun q=>ah (q==(-1:Int)) ke (bQ y k0 bg q (IntKind.i64.wrap (q+(1:Int))) l)) kz bg (0:Int)=some z:=
 FP y l hl z k0 hk kz hkz _ (fun j _=>bK (by simp)) bg 0 (gZ (by omega)) (Nat.zero_le _) rfl
theorem D2 (hs:cA w.fs.aa) (hl:w.fs.aa.length≤1073741824) (ez:Ez (w.fs.set x)) (hp:w.al.aI.length≤1073741824) (hk:w.al.kept.length≤1073741824):
 (aj (bP w.al.aI) fun y63=>bJ (List.length y63:Int) x y63 (fun z64=>
 ah (z64==(-1:Int)) (aj (bh w.fs x) fun y65=>aj (bO y65 a i) fun y66=>aj (aR (⟨y66,(⟨w.al.kept,y63⟩:aU)⟩:ao) s) fun y67=>some (y67,(0:Int))) (bQ x (fun z68 z69=>
 ah (decide (0≤z68∧z68≤(z69.length:Int))) (
 ah (Nat.ble ((Int.toNat z68)+(z69.length - (Int.toNat z68))) z69.length) (
 ah (decide (0≤z68∧z68≤((z69.take (Int.toNat z68)++(List.replicate (z69.length - (Int.toNat z68)) (⟨0,0,0, [],0,([] :List Entry)⟩:ae)++z69.drop ((Int.toNat z68)+(z69.length - (Int.toNat z68))))).length:Int))) (aj (bh w.fs x) fun y70=>aj (bO y70 a i) fun y71=>
 ah (Nat.ble (0+(Int.toNat z68)) (z69.take (Int.toNat z68)++(List.replicate (z69.length - (Int.toNat z68)) (⟨0,0,0, [],0,([] :List Entry)⟩:ae)++z69.drop ((Int.toNat z68)+(z69.length - (Int.toNat z68))))).length) (aj (aR (⟨y71,(⟨w.al.kept,(((z69.take (Int.toNat z68)++(List.replicate (z69.length - (Int.toNat z68)) (⟨0,0,0, [],0,([] :List Entry)⟩:ae)++z69.drop ((Int.toNat z68)+(z69.length - (Int.toNat z68))))).drop 0).take (Int.toNat z68))⟩:aU)⟩:ao) s) fun y72=>some (y72,(0:Int))) (none)) (none)) (none)) (none)) bg z64 (IntKind.i64.wrap (z64+(1:Int))) y63)) (aj (bh w.fs x) fun y73=>aj (bO y73 a i) fun y74=>aj (aR (⟨y74,(⟨w.al.kept,y63⟩:aU)⟩:ao) s) fun y75=>some (y75,(0:Int))) bg (0:Int))=some (⟨nJ (w.fs.set x) a i,⟨eJ s w.al.kept,dn x.ino w.al.aI⟩⟩,(0:Int)):=by
 rw[fZ hp,ai];have hw:∀(g:Fs) (p:List ae),aR ⟨g,⟨w.al.kept,p⟩⟩ s=some ⟨g,⟨eJ s w.al.kept,p⟩⟩:=fun g p=>ji (w:=⟨g,⟨w.al.kept,p⟩⟩) (by show w.al.kept.length≤_;omega)
 have hend:∀p:List ae,(aj (bh w.fs x) fun y57=>aj (bO y57 a i) fun y58=>aj (aR (⟨y58,(⟨w.al.kept,p⟩:aU)⟩:ao) s) fun y59=>some (y59,(0:Int)))=some (⟨nJ (w.fs.set x) a i,⟨eJ s w.al.kept,p⟩⟩,(0:Int)):=fun p=>by
  rw[dE hs hl,ai,nf ez,ai,hw,ai]
 refine Ek x w.al.aI hp _ _ _ _ (fun j l' h1 h2 h3=> ?_) (fun e=> ?_)
 rotate_left
 ·rw[hend,e]
 ·simp only[toNat_cast,List.drop_zero]
  have h4:(l'.take j).length=j:=by simp;omega
  have h5:(l'.take j++(List.replicate (l'.length - j) (⟨0,0,0, [],0,([] :List Entry)⟩:ae)++l'.drop (j+(l'.length - j)))).length=l'.length:=by simp;omega
  have h6:(l'.take j++(List.replicate (l'.length - j) (⟨0,0,0, [],0,([] :List Entry)⟩:ae)++l'.drop (j+(l'.length - j)))).take j=l'.take j:=take_set h4;rw[aN (by simp;omega),aN (Nat.ble_eq_true_of_le (by omega))];simp only[h5];rw[aN (by simp;omega),dE hs hl,ai,nf ez,ai,aN (Nat.ble_eq_true_of_le (by omega)),h6,h3,hw,ai]
theorem dZ {fol:Bool} (h:RW w) (b:Wb lim n w) (hn:n≤9000) (ga:Gd w.fs fol a) (a0:a.ino=0) (hal:a.name.length≤1099511627775):cH w s a=some (ma w s a):=by
 have ew:=sV h.tr b.bd (by omega);have h1:=b.kl;have h2:=b.bd.len;have h3:=b.pl;unfold cH ma;rw[ib h.ks (by omega),ai,dF h.tr.sort (by omega),ai];cases hs:cN s w.al.kept with
 |none=>rfl
 |some k=>
  simp only[Option.isSome_some,Option.getD_some,Bool.not_true,ay];cases hc:k.content
  ·simp only[ay,Bool.false_eq_true,if_false]
   rw[sP hal,ai];cases hm:fE a.name
   ·rfl
   simp only[Bool.not_true,ay,if_true];obtain⟨hf,hfi⟩:=yf h.tr ew.wf ga a0 hm;have hd:au a.dir w.fs.aa=some (aK a.dir w.fs.aa):=by have:=hf.hd;rwa[hfi] at this
   have hWo:∀(g:Fs),aR ⟨g,w.al⟩ s=some ⟨g,⟨eJ s w.al.kept,w.al.aI⟩⟩:=fun g=>ji (w:=⟨g,w.al⟩) (by show w.al.kept.length≤_;omega)
   cases hx:au k.ino w.fs.aa with
   |some x=>
    rw[bx hx];simp only[Option.isSome_some,aC,Bool.not_true,ay];by_cases hk:x.kind=2
    ·rw[aN (by simp [hk]),if_pos hk]
    ·rw[bK (by simp [hk]),if_neg hk,nf (h.ew b hn).ez,ai,hWo,ai]
   |none=>
    simp only[Option.isSome_none,ay,Bool.not_false,aC];rw[po h.tr.sort (by omega) h.ps (by omega),ai,hx];simp only;have hkm:=gA hs;obtain⟨_,_,_,y,hy,_⟩:=h.kk k hkm.1;rw[hx] at hy;have hy:=hy.resolve_left (fun h=>by cases h);obtain⟨p1,p2,p3,p4,p5⟩:=h.jE hy;rw[bx hy];have hyd:=b.pd y (aW hy).1;have hez:=DU h b hn hd hf.hk (aW hy).1;have fin:∀x:ae,x.ino=y.ino→Ez (w.fs.set x)→(aj (bP w.al.aI) fun y63=>bJ (List.length y63:Int) x y63 (fun z64=>
 ah (z64==(-1:Int)) (aj (bh w.fs x) fun y65=>aj (bO y65 a k.ino) fun y66=>aj (aR (⟨y66,(⟨w.al.kept,y63⟩:aU)⟩:ao) s) fun y67=>some (y67,(0:Int))) (bQ x (fun z68 z69=>
 ah (decide (0≤z68∧z68≤(z69.length:Int))) (
 ah (Nat.ble ((Int.toNat z68)+(z69.length - (Int.toNat z68))) z69.length) (
 ah (decide (0≤z68∧z68≤((z69.take (Int.toNat z68)++(List.replicate (z69.length - (Int.toNat z68)) (⟨0,0,0, [],0,([] :List Entry)⟩:ae)++z69.drop ((Int.toNat z68)+(z69.length - (Int.toNat z68))))).length:Int))) (aj (bh w.fs x) fun y70=>aj (bO y70 a k.ino) fun y71=>
 ah (Nat.ble (0+(Int.toNat z68)) (z69.take (Int.toNat z68)++(List.replicate (z69.length - (Int.toNat z68)) (⟨0,0,0, [],0,([] :List Entry)⟩:ae)++z69.drop ((Int.toNat z68)+(z69.length - (Int.toNat z68))))).length) (aj (aR (⟨y71,(⟨w.al.kept,(((z69.take (Int.toNat z68)++(List.replicate (z69.length - (Int.toNat z68)) (⟨0,0,0, [],0,([] :List Entry)⟩:ae)++z69.drop ((Int.toNat z68)+(z69.length - (Int.toNat z68))))).drop 0).take (Int.toNat z68))⟩:aU)⟩:ao) s) fun y72=>some (y72,(0:Int))) (none)) (none)) (none)) (none)) bg z64 (IntKind.i64.wrap (z64+(1:Int))) y63)) (aj (bh w.fs x) fun y73=>aj (bO y73 a k.ino) fun y74=>aj (aR (⟨y74,(⟨w.al.kept,y63⟩:aU)⟩:ao) s) fun y75=>some (y75,(0:Int))) bg (0:Int))=some (⟨nJ (w.fs.set x) a k.ino,⟨eJ s w.al.kept,dn k.ino w.al.aI⟩⟩,(0:Int)):=fun x hxy hez=>by
     rw[D2 h.tr.sort (by omega) hez (by omega) (by omega),hxy,p2]
    by_cases hk1:y.kind=1
    ·have hbt:byt y=(y.data.length:Int):=if_pos hk1
     rw[aN (by simp [hk1]),gX ew.sm (by unfold Far;omega) (by unfold Far;omega),ai,hbt];cases hft:dv w.fs 1 (y.data.length:Int)
     ·rfl
     simp only[Bool.not_true,ay,if_true];rw[bK (by simp [hk1]),if_neg (by omega)];rw[if_neg (by omega)] at hez;exact fin y rfl hez
    ·have hbt:byt y=0:=if_neg hk1
     rw[bK (by simp [hk1]),gX ew.sm (by unfold Far;omega) (by unfold Far;omega),ai,hbt];cases hft:dv w.fs 1 0
     ·rfl
     simp only[Bool.not_true,ay,if_true];by_cases hk2:y.kind=2
     ·rw[aN (by simp [hk2]),if_pos hk2]
      rw[if_pos hk2] at hez;exact fin (y.jd a.dir) rfl hez
     ·rw[bK (by simp [hk2]),if_neg hk2]
      rw[if_neg hk2] at hez;exact fin y rfl hez
  ·rfl
theorem wc {fol:Bool} (h:RW w) (b:Wb lim n w) (hn:n≤9000) (ga:Gd w.fs fol a) (a0:a.ino=0) (hal:a.name.length≤1099511627775):nw w s a=some (ma w s a):=by
 have ew:=sV h.tr b.bd (by omega);have h1:=b.kl;have h2:=b.bd.len;have h3:=b.pl;unfold nw ma;rw[jM (by omega),ai];cases hs:cN s w.al.kept with
 |none=>rfl
 |some k=>
  simp only[Option.isSome_some,Option.getD_some,Bool.not_true,ay];cases hc:k.content
  ·simp only[ay,Bool.false_eq_true,if_false]
   rw[cP (by omega),ai,kG hal,ai];cases hm:fE a.name
   ·rfl
   simp only[Bool.not_true,ay,if_true];obtain⟨hf,hfi⟩:=yf h.tr ew.wf ga a0 hm;have hd:au a.dir w.fs.aa=some (aK a.dir w.fs.aa):=by have:=hf.hd;rwa[hfi] at this
   have hWo:∀(g:Fs) (p:List ae),cu ⟨g,⟨w.al.kept,p⟩⟩ s=some ⟨g,⟨eJ s w.al.kept,p⟩⟩:=fun g p=>mB (w:=⟨g,⟨w.al.kept,p⟩⟩) (by show w.al.kept.length≤_;omega)
   cases hx:au k.ino w.fs.aa with
   |some x=>
    rw[bx hx];simp only[Option.isSome_some,aC,Bool.not_true,ay];by_cases hk:x.kind=2
    ·rw[aN (by simp [hk]),if_pos hk]
    ·rw[bK (by simp [hk]),if_neg hk,jQ (h.ew b hn).ez,ai,show w.al=⟨w.al.kept,w.al.aI⟩ from rfl,hWo,ai]
     rw[(q6 hf hx hk).1,(q6 hf hx hk).2.1]
   |none=>
    simp only[Option.isSome_none,ay,Bool.not_false,aC];have hkm:=gA hs;obtain⟨_,_,_,y,hy,_⟩:=h.kk k hkm.1;rw[hx] at hy;have hy:=hy.resolve_left (fun h=>by cases h);obtain⟨p1,p2,p3,p4,p5⟩:=h.jE hy;have hyd:=b.pd y (aW hy).1;have hez:=DU h b hn hd hf.hk (aW hy).1;have hpg:bB (⟨0,0,0,w.al.aI⟩:Fs) k.ino=some (aK k.ino w.al.aI,(au k.ino w.al.aI).isSome):=cP (f:=⟨0,0,0,w.al.aI⟩) (by show w.al.aI.length≤_;omega);have hpd:dj (⟨0,0,0,w.al.aI⟩:Fs) k.ino=some ⟨0,0,0,dn k.ino w.al.aI⟩:=mn (f:=⟨0,0,0,w.al.aI⟩) (by show w.al.aI.length≤_;omega);have hP:∀g:Fs,cv ⟨g,w.al⟩=some ⟨0,0,0,w.al.aI⟩:=fun _=>rfl
    have hP0:cv w=some ⟨0,0,0,w.al.aI⟩:=rfl;have hnn:=rU (a:=a) (y:=y) hf hfi h.tr.sort (by rw[p2];exact p5) p1.1 p1.2.1;rw[←hnn.1,p2] at hnn;have hnr:=hnn.2;rw[hP0,ai,hpg,ai,bx hy];simp only;by_cases hk1:y.kind=1
    ·have hbt:byt y=(y.data.length:Int):=if_pos hk1
     rw[aN (by simp [hk1]),fQ ew.sm (by unfold Far;omega) (by unfold Far;omega),ai,hbt];cases hft:dv w.fs 1 (y.data.length:Int)
     ·rfl
     simp only[Bool.not_true,ay,if_true];rw[if_neg (by omega)] at hez hnr;rw[bK (by simp [hk1]),if_neg (by omega),cO (by omega),ai,hP,ai,hpd,ai,jQ hez,ai,hWo,ai,hnr]
    ·have hbt:byt y=0:=if_neg hk1
     rw[bK (by simp [hk1]),fQ ew.sm (by unfold Far;omega) (by unfold Far;omega),ai,hbt];cases hft:dv w.fs 1 0
     ·rfl
     simp only[Bool.not_true,ay,if_true];by_cases hk2:y.kind=2
     ·rw[if_pos hk2] at hez hnr
      have e1:(⟨y.ino,y.kind,y.aq,y.data,a.dir,y.entries⟩:ae)=y.jd a.dir:=rfl;rw[aN (by simp [hk2]),if_pos hk2,e1,cO (by omega),ai,hP,ai,hpd,ai,jQ hez,ai,hWo,ai,hnr]
     ·rw[if_neg hk2] at hez hnr
      rw[bK (by simp [hk2]),if_neg hk2,cO (by omega),ai,hP,ai,hpd,ai,jQ hez,ai,hWo,ai,hnr]
  ·rfl
end
end Go.Eng
set_option linter.unusedSimpArgs false
set_option linter.unusedVariables false
namespace Go.Eng
open Go
structure InW (w:ao):Prop where
 fs:InF w.fs
 aI:InF ⟨0,0,0,w.al.aI⟩
 kl:w.al.kept.length≤1073741824
def yx (w:ao):Bool:=(w.al.kept.take 100).all (fun k=>decide (k.data.length≤5000))&&(m9 w.fs&&(m9 ⟨0,0,0,w.al.aI⟩&&decide (w.al.kept.length≤40)))
theorem nF {w:ao} (h:InW w):kN w=some (yx w):=by
 unfold kN;have hK:(aj (jn w.fs) fun y6=>ah y6 (aj (cv w) fun y7=>aj (jn y7) fun y8=>ah y8 (some (decide ((List.length w.al.kept:Int)≤(40:Int)))) (some false)) (some false))=some (m9 w.fs&&(m9 ⟨0,0,0,w.al.aI⟩&&decide (w.al.kept.length≤40))):=by
  rw[qI h.fs.len h.fs.de,ai];cases m9 w.fs
  ·rfl
  rw[aC];show aj (some (⟨0,0,0,w.al.aI⟩:Fs)) _=_;rw[ai,qI h.aI.len h.aI.de,ai];cases m9 ⟨0,0,0,w.al.aI⟩
  ·rfl
  have e:decide ((w.al.kept.length:Int)≤(40:Int))=decide (w.al.kept.length≤40):=by rw[decide_eq_decide];omega
  rw[e];rfl
 rw[hK];have hl:=h.kl;refine(bY (l:=w.al.kept.take 100) (fun n i (s:Unit)=>gT w (some false) (some (m9 w.fs&&(m9 ⟨0,0,0,w.al.aI⟩&&decide (w.al.kept.length≤40)))) n i) (fun _ (x:Kept) s K=>if decide (x.data.length≤5000) then K s else some false) (fun _=>some (m9 w.fs&&(m9 ⟨0,0,0,w.al.aI⟩&&decide (w.al.kept.length≤40)))) (by simp;omega) (fun n k x s hk hx=> ?_) (fun n s=> ?_) ()).trans ?_
 ·have hk':k<w.al.kept.length∧k<100:=by simp at hk;omega
  have hx':w.al.kept[k]? =some x:=by rw[List.getElem?_take_of_lt hk'.2] at hx;exact hx
  simp only[gT];have h100:decide ((k:Int)<(100:Int))=true:=by simp;omega
  rw[dec_lt hk'.1,h100,bS,toNat_cast,hx',bc (by omega)];simp only[aC,ai,aV,if_true];by_cases h1:x.data.length≤5000
  ·have h1':¬(5000:Int)<(x.data.length:Int):=by omega
   simp [h1,h1']
  ·have h1':(5000:Int)<(x.data.length:Int):=by omega
   simp [h1,h1']
 ·simp only[gT]
  by_cases h:w.al.kept.length≤100
  ·have e:(w.al.kept.take 100).length=w.al.kept.length:=by simp;omega
   rw[e,b6 (Nat.le_refl _)];rfl
  ·have e:(w.al.kept.take 100).length=100:=by simp;omega
   rw[e];have h1:decide (((100:Nat):Int)<(w.al.kept.length:Int))=true:=by simp;omega
   rw[h1];rfl
 ·rw[fV]
  unfold yx;cases h9:(w.al.kept.take 100).all (fun k=>decide (k.data.length≤5000))
  ·rfl
  ·rfl
theorem DL {w:ao} (h:yx w=true):m9 w.fs=true∧m9 ⟨0,0,0,w.al.aI⟩=true∧w.al.kept.length≤40∧∀k∈w.al.kept,k.data.length≤5000:=by
 unfold yx at h;simp only[Bool.and_eq_true,decide_eq_true_eq] at h;obtain⟨h1,h2,h3,h4⟩:=h;rw[List.take_of_length_le (by omega),List.all_eq_true] at h1;exact⟨h2,h3,h4,fun k hk=>by simpa using h1 k hk⟩
def vW (x:ae):Bool:= !decide (x.kind=3)|| !(x.data.any fun b=>b==0)
def yA (w:ao) (i:Int):Bool:=w.al.kept.any fun k=>decide (k.ino=i)&& !k.content
def lP (w:ao) (x:ae):Bool:=
 !(au x.ino w.fs.aa).isSome&&(decide (1≤x.ino)&&(decide (x.ino<w.fs.next)&&(decide (x.aq=0)&&(decide (x.parent=0)&&(decide (x.entries.length=0)&&(decide (1≤x.kind)&&(decide (x.kind≤3)&&(decide (x.kind=2→x.data= [])&&(decide (x.kind=3→1≤x.data.length)&&(decide (x.kind=3→x.data.length≤4095)&&(vW x&&yA w x.ino)))))))))))
theorem sg {α β R:Type} (f:β→α→β) (E:β→Option R):∀(l:List α) (k:Nat) (s:β),dW (fun _ x s K=>K (f s x)) E k l s=E (l.foldl f s)
 | [],_,_=>rfl
 |x::l,k,s=>by
  simp only[dW,List.foldl_cons];exact sg f E l (k+1) (f s x)
theorem zn {α:Type} (p:α→Bool):∀(l:List α) (b:Bool),l.foldl (fun s x=>s||p x) b=(b||l.any p)
 | [],b=>by simp
 |x::l,b=>by rw[List.foldl_cons,zn p l,List.any_cons,Bool.or_assoc]
theorem pL {R:Type} {x:ae} {kr k0:Option R} (hl:x.data.length≤1073741824):cq x kr k0 bg (0:Int)=if vW x=true then k0 else kr:=by
 by_cases hk:x.kind=3
 ·refine(bY (l:=x.data) (fun m i (_:Unit)=>cq x kr k0 m i) (fun _ (b:UInt8) s K=>if (b==0)=true then kr else K s) (fun _=>k0) (by omega) (fun m k b u hkk hx=> ?_) (fun m u=> ?_) ()).trans ?_
  ·simp only[cq]
   rw[dec_lt hkk,bS,toNat_cast,hx,bc (by omega),aC,aN (by simp [hk]),aC,ai,aV];have:((UInt8.toNat b:Int)==(0:Int))=(b==0):=jt b 0 (by omega);rw[this]
  ·simp only[cq]
   rw[b6 (Nat.le_refl _)];rfl
  ·refine(mL (fun b:UInt8=>b==0) (fun _ _=>kr) k0 kr (fun _ _=>rfl) _ _ _).trans ?_
   unfold vW;rw[decide_eq_true hk];cases x.data.any (fun b=>b==0)<;>rfl
 ·have hs:vW x=true:=by unfold vW;rw[decide_eq_false hk];rfl
  rw[hs,if_pos rfl];refine(bY (l:=([] :List Nat)) (fun m i (_:Unit)=>cq x kr k0 m i) (fun _ _ s K=>K s) (fun _=>k0) (by simp) (fun m k b u hkk hx=>by simp at hkk) (fun m u=> ?_) ()).trans rfl;simp only[cq];rw[aV,bK (by simp [hk])];split<;>rfl
theorem o9 {R:Type} {w:ao} {x:ae} {k2:Bool→Option R} (hl:w.al.kept.length≤1073741824):cd w x k2 bg false (0:Int)=k2 (yA w x.ino):=by
 refine(bY (l:=w.al.kept) (fun m i (s:Bool)=>cd w x k2 m s i) (fun _ (k:Kept) s K=>K (s||(decide (k.ino=x.ino)&& !k.content))) k2 (by omega) (fun m k y s hkk hx=> ?_) (fun m s=> ?_) false).trans ?_
 ·simp only[cd]
  rw[dec_lt hkk,bS,toNat_cast,hx,bc (by omega)];simp only[aC,ai,aV,kE];cases s
  ·by_cases h:y.ino=x.ino
   ·simp [h]
   ·simp [h]
  ·simp
 ·simp only[cd]
  rw[b6 (Nat.le_refl _)];rfl
 ·rw[sg (fun s (k:Kept)=>s||(decide (k.ino=x.ino)&& !k.content)),zn,Bool.false_or];rfl
theorem s9 {w:ao} {x:ae} (h1:w.fs.aa.length≤1073741824) (h2:w.al.kept.length≤1073741824) (h3:x.data.length≤1073741824):kq w x=some (lP w x):=by
 have e7:∀{R:Type} {kr k0:Option R},cq x kr k0 bg (0:Int)=if vW x=true then k0 else kr:=pL h3
 have e13:∀{R:Type} {k2:Bool→Option R},cd w x k2 bg false (0:Int)=k2 (yA w x.ino):=o9 h2;unfold kq lP;rw[cP h1,ai];simp only[e13];simp only[e7];cases (au x.ino w.fs.aa).isSome
 ·by_cases c1:1≤x.ino
  ·rw[ay,bK (by simp;omega),decide_eq_true c1]
   by_cases c2:x.ino<w.fs.next
   ·rw[bK (by simp;omega),decide_eq_true c2]
    by_cases c3:x.aq=0
    ·rw[bK (by simp [c3]),decide_eq_true c3]
     by_cases c4:x.parent=0
     ·rw[bK (by simp [c4]),decide_eq_true c4]
      by_cases c5:x.entries.length=0
      ·rw[bK (by simp [c5]),decide_eq_true c5]
       by_cases c6:1≤x.kind
       ·rw[bK (by simp;omega),decide_eq_true c6]
        by_cases c7:x.kind≤3
        ·rw[bK (by simp;omega),decide_eq_true c7]
         by_cases c8:x.kind=2
         ·have c9:¬x.kind=3:=by omega
          rw[aN (by simp [c8]),bK (b:=(x.kind==(3:Int))) (by simp [c9])];by_cases d1:x.data= []
          ·rw[bK (by simp [d1]),decide_eq_true (fun _=>d1),decide_eq_true (fun h=>absurd h c9),decide_eq_true (fun h=>absurd h c9)]
           cases vW x<;>simp
          ·rw[aN (by simp [d1]),decide_eq_false (fun h=>d1 (h c8))]
           simp
         ·rw[bK (b:=(x.kind==(2:Int))) (by simp [c8]),decide_eq_true (fun h=>absurd h c8)]
          by_cases c9:x.kind=3
          ·rw[aN (by simp [c9])]
           by_cases d1:1≤x.data.length
           ·rw[bK (by simp;omega),decide_eq_true (fun _=>d1)]
            by_cases d2:x.data.length≤4095
            ·rw[bK (by simp;omega),decide_eq_true (fun _=>d2)]
             cases vW x<;>simp
            ·rw[aN (by simp;omega),decide_eq_false (fun h=>d2 (h c9))]
             simp
           ·rw[aN (by simp;omega),decide_eq_false (fun h=>d1 (h c9))]
            simp
          ·rw[bK (by simp [c9]),decide_eq_true (fun h=>absurd h c9),decide_eq_true (fun h=>absurd h c9)]
           cases vW x<;>simp
        ·rw[aN (by simp;omega),decide_eq_false c7];simp
       ·rw[aN (by simp;omega),decide_eq_false c6];simp
      ·rw[aN (by simp [c5]),decide_eq_false c5];simp
     ·rw[aN (by simp [c4]),decide_eq_false c4];simp
    ·rw[aN (by simp [c3]),decide_eq_false c3];simp
   ·rw[aN (by simp;omega),decide_eq_false c2];simp
  ·rw[ay,aN (by simp;omega),decide_eq_false c1];simp
 ·rfl
def pf (w:ao) (i:Int):ae:=match au i w.al.aI with|some y=>y|none=>aK i w.fs.aa
def so (w:ao) (last:Int) (k:Kept):Bool:=
 decide (last<k.slot)&&(decide (k.slot≤1073741824)&&(((au k.ino w.fs.aa).isSome||(au k.ino w.al.aI).isSome)&&(if k.content then decide ((pf w k.ino).kind=1) else decide (k.data= []))))
def mQ (w:ao):Int→List Kept→Bool
 |_, [] =>true
 |last,k::l=>so w last k&&mQ w k.slot l
def uR (w:ao):Bool:=decide (qn w.fs=0)&&(gM w.al.aI&&(w.al.aI.all (lP w)&&mQ w 0 w.al.kept))
theorem uD {R:Type} {w:ao} (kr k0:Option R):∀(l:List Kept) (j:Nat) (last:Int),dW (fun _ (k:Kept) (s:Int) K=>if so w s k then K k.slot else kr) (fun _=>k0) j l last=if mQ w last l=true then k0 else kr
 | [],_,_=>rfl
 |k::l,j,last=>by
  rw[show mQ w last (k::l)=(so w last k&&mQ w k.slot l) from rfl];simp only[dW];by_cases h:so w last k=true
  ·rw[if_pos h,h,Bool.true_and]
   exact uD kr k0 l (j+1) k.slot
  ·rw[if_neg h,Bool.eq_false_iff.2 h];rfl
theorem n4 {w:ao} (sm:SmF w.fs) (ht:(du w.fs.aa).length≤536870912) (h1:w.al.kept.length≤1073741824) (h2:w.al.aI.length≤1073741824) (h3:∀x∈w.al.aI,x.data.length≤1073741824):gJ w=some (uR w):=by
 unfold gJ uR;rw[nU sm ht,ai,mg];by_cases c1:qn w.fs=0
 ·rw[bK (by simp [c1]),decide_eq_true c1]
  show aj (some (⟨0,0,0,w.al.aI⟩:Fs)) _=_;rw[ai,pA (f:=⟨0,0,0,w.al.aI⟩) h2,ai];show ah (!gM w.al.aI) _ _=_;cases gM w.al.aI
  ·rfl
  simp only[Bool.not_true,ay,Bool.true_and];have e10:bD w (some false) (some true) bg (0:Int) (0:Int)=some (mQ w 0 w.al.kept):=by
   refine(bY (l:=w.al.kept) (fun m i (s:Int)=>bD w (some false) (some true) m s i) (fun _ (k:Kept) s K=>if so w s k then K k.slot else some false) (fun _=>some true) (by omega) (fun m k y s hkk hx=> ?_) (fun m s=> ?_) 0).trans ?_
   ·simp only[bD]
    have hpg:bB (⟨0,0,0,w.al.aI⟩:Fs) y.ino=some (aK y.ino w.al.aI,(au y.ino w.al.aI).isSome):=cP (f:=⟨0,0,0,w.al.aI⟩) h2;have hP0:cv w=some ⟨0,0,0,w.al.aI⟩:=rfl;rw[dec_lt hkk,bS,toNat_cast,hx,bc (by omega),aC,aC,ai,cP sm.len,ai,hP0,ai,hpg,ai];simp only[mg,ta];unfold so;by_cases d1:s<y.slot
    ·rw[bK (by simp;omega),decide_eq_true d1]
     by_cases d2:y.slot≤1073741824
     ·rw[bK (by simp;omega),decide_eq_true d2]
      cases hp:au y.ino w.al.aI with
      |none=>
       have hki:pf w y.ino=aK y.ino w.fs.aa:=by unfold pf;rw[hp]
       rw[hki];cases hf:au y.ino w.fs.aa with
       |none=>rfl
       |some x=>
        rw[bx hf];cases y.content
        ·by_cases g:y.data= [] <;>simp [g]
        ·by_cases g:x.kind=1<;>simp [g]
      |some x=>
       have hki:pf w y.ino=x:=by unfold pf;rw[hp]
       rw[hki,bx hp];cases hf:au y.ino w.fs.aa with
       |none=>
        cases y.content
        ·by_cases g:y.data= [] <;>simp [g]
        ·by_cases g:x.kind=1<;>simp [g]
       |some z=>
        cases y.content
        ·by_cases g:y.data= [] <;>simp [g]
        ·by_cases g:x.kind=1<;>simp [g]
     ·rw[aN (by simp;omega),decide_eq_false d2];simp
    ·rw[aN (by simp;omega),decide_eq_false d1];simp
   ·simp only[bD]
    rw[b6 (Nat.le_refl _)];rfl
   ·rw[uD]
    cases mQ w 0 w.al.kept<;>rfl
  rw[e10];refine(bY (l:=w.al.aI) (fun m i (_:Unit)=>fy w (some false) (some (mQ w 0 w.al.kept)) m i) (fun _ (x:ae) s K=>if lP w x then K s else some false) (fun _=>some (mQ w 0 w.al.kept)) (by omega) (fun m k x u hkk hx=> ?_) (fun m u=> ?_) ()).trans ?_
  ·simp only[fy]
   rw[dec_lt hkk,bS,toNat_cast,hx,bc (by omega),aC,aC,ai,s9 sm.len h1 (h3 x (List.mem_of_getElem? hx)),ai];cases lP w x<;>rfl
  ·simp only[fy]
   rw[b6 (Nat.le_refl _)];rfl
  ·rw[fV]
   cases w.al.aI.all (lP w)<;>rfl
 ·rw[aN (by simp [c1]),decide_eq_false c1];rfl
section
variable {lim:Int} {w:ao}
theorem sU {x:ae}:lP w x=true↔vI x∧1≤x.ino∧x.ino<w.fs.next∧au x.ino w.fs.aa=none∧∃k∈w.al.kept,k.ino=x.ino∧k.content=false:=by
 unfold lP vI vW yA;simp only[Bool.and_eq_true,Bool.or_eq_true,Bool.not_eq_true',decide_eq_true_eq,decide_eq_false_iff_not,List.any_eq_true,Option.isSome_eq_false_iff,Option.isNone_iff_eq_none,List.length_eq_zero_iff];constructor
 ·rintro⟨h1,h2,h3,h4,h5,h6,h7,h8,h9,h10,h11,h12,h13⟩
  refine⟨⟨h4,h5,h6, ?_⟩,h2,h3,h1,h13⟩;by_cases k1:x.kind=1
  ·exact Or.inl k1
  by_cases k2:x.kind=2
  ·exact Or.inr (Or.inl ⟨k2,h9 k2⟩)
  have k3:x.kind=3:=by omega
  exact Or.inr (Or.inr ⟨k3,h10 k3,h11 k3,h12.resolve_left (fun h=>h k3)⟩)
 ·rintro⟨⟨h4,h5,h6,h7⟩,h2,h3,h1,h13⟩
  refine⟨h1,h2,h3,h4,h5,h6, ?_⟩;rcases h7 with k1|⟨k2,k3⟩ |⟨k2,k3,k4,k5⟩
  ·exact⟨by omega,by omega,fun h=>by omega,fun h=>by omega,fun h=>by omega,Or.inl (by omega),h13⟩
  ·exact⟨by omega,by omega,fun _=>k3,fun h=>by omega,fun h=>by omega,Or.inl (by omega),h13⟩
  ·exact⟨by omega,by omega,fun h=>by omega,fun _=>k3,fun _=>k4,Or.inr k5,h13⟩
theorem D6 {last:Int} {l:List Kept} (h:mQ w last l=true):oz l∧(∀k∈l,last<k.slot)∧∀k∈l,k.slot≤1073741824∧((au k.ino w.fs.aa).isSome||(au k.ino w.al.aI).isSome)=true∧(if k.content then decide ((pf w k.ino).kind=1) else decide (k.data= []))=true:=by
 induction l generalizing last with
 |nil=>exact⟨List.Pairwise.nil,by simp,by simp⟩
 |cons k l ih=>
  rw[mQ,Bool.and_eq_true] at h;obtain⟨h1,h2⟩:=h;unfold so at h1;simp only[Bool.and_eq_true,decide_eq_true_eq] at h1;obtain⟨a1,a2,a3⟩:=h1;obtain⟨i1,i2,i3⟩:=ih h2;refine⟨List.Pairwise.cons (fun b hb=> ?_) i1,fun b hb=> ?_,fun b hb=> ?_⟩
  ·have:=i2 b hb;simpa [ltI] using this
  ·rcases List.mem_cons.1 hb with rfl|hb
   ·exact a1
   ·have:=i2 b hb;omega
  ·rcases List.mem_cons.1 hb with rfl|hb
   ·exact⟨a2,a3⟩
   ·exact i3 b hb
theorem F2 {last:Int} {l:List Kept} (hs:oz l) (h0:∀k∈l,last<k.slot) (h:∀k∈l,k.slot≤1073741824∧((au k.ino w.fs.aa).isSome||(au k.ino w.al.aI).isSome)=true∧(if k.content then decide ((pf w k.ino).kind=1) else decide (k.data= []))=true):mQ w last l=true:=by
 induction l generalizing last with
 |nil=>rfl
 |cons k l ih=>
  have hs':=List.pairwise_cons.1 hs;rw[mQ,Bool.and_eq_true];have hk:=h k (by simp);refine⟨?_,ih hs'.2 (fun b hb=> ?_) (fun b hb=>h b (by simp [hb]))⟩
  ·unfold so
   rw[decide_eq_true (h0 k (by simp)),decide_eq_true hk.1,hk.2.1,hk.2.2];rfl
  ·have:=hs'.1 b hb;simpa [ltI] using this
theorem iz:uR w=true↔RW w:=by
 unfold uR;simp only[Bool.and_eq_true,decide_eq_true_eq,List.all_eq_true,jq];constructor
 ·rintro⟨h1,h2,h3,h4⟩
  have ht:=(Cy _).1 ((vK _).1 h1);have hp:∀x∈w.al.aI,vI x∧1≤x.ino∧x.ino<w.fs.next∧au x.ino w.fs.aa=none∧∃k∈w.al.kept,k.ino=x.ino∧k.content=false:=fun x hx=>sU.1 (h3 x hx)
  obtain⟨k1,k2,k3⟩:=D6 h4;refine⟨ht,h2,hp,k1,fun k hk=> ?_⟩;have a0:=k2 k hk;obtain⟨a1,a2,a3⟩:=k3 k hk;refine⟨by omega,a1,fun hc=> ?_, ?_⟩
  ·rw[hc] at a3;simpa using a3
  ·cases hpf:au k.ino w.al.aI with
   |some y=>
    refine⟨y,Or.inr rfl,fun hc=> ?_⟩;rw[hc,if_pos rfl] at a3;unfold pf at a3;rw[hpf] at a3;simpa using a3
   |none=>
    cases hff:au k.ino w.fs.aa with
    |none=>rw[hpf,hff] at a2;cases a2
    |some x=>
     refine⟨x,Or.inl rfl,fun hc=> ?_⟩;rw[hc,if_pos rfl] at a3;unfold pf at a3;rw[hpf] at a3;simp only at a3;rw[bx hff] at a3;simpa using a3
 ·intro h
  refine⟨h.tr.check,h.ps,fun x hx=>sU.2 (h.pk x hx),F2 h.ks (fun k hk=> ?_) (fun k hk=> ?_)⟩
  ·have:=(h.kk k hk).1;omega
  ·obtain⟨a1,a2,a3,x,a4,a5⟩:=h.kk k hk
   refine⟨a2, ?_, ?_⟩
   ·rcases a4 with a4|a4<;>rw[a4]<;>simp
   ·cases hc:k.content
    ·simp [a3 hc]
    ·simp only[if_true,decide_eq_true_eq]
     unfold pf;rcases a4 with a4|a4
     ·rw[h.kO a4]
      simp only;rw[bx a4];exact a5 hc
     ·rw[a4];exact a5 hc
theorem rF (h:yx w=true) (hn:w.fs.next≤lim):Wb lim 40 w:=by
 obtain⟨h1,h2,h3,h4⟩:=DL h;obtain⟨f1,f2⟩:=oK h1;obtain⟨p1,p2⟩:=oK h2;exact⟨⟨f1,fun x hx=>(f2 x hx).2.1,fun x hx=>by have:=(f2 x hx).1;omega⟩,by omega,h3,p1,fun k hk=>by have:=h4 k hk;omega,fun x hx=>by have:=(p2 x hx).1;omega⟩
def okW (w:ao):Bool:=yx w&&uR w
theorem jY (h:InW w):jU w=some (okW w):=by
 unfold jU okW;rw[nF h,ai];cases hf:yx w
 ·rfl
 obtain⟨h1,h2,h3,h4⟩:=DL hf;obtain⟨p1,p2⟩:=oK h2;rw[aC,n4 (SmF.Gv h1) (by have:=Lo h1;omega) h.kl h.aI.len (fun x hx=>by have:=(p2 x hx).1;omega),ai];rfl
theorem nV {n:Nat} (h:RW w) (b:Wb lim n w) (hn:n≤9000):gJ w=some true:=by
 have ew:=sV h.tr b.bd (by omega);have h1:=b.kl;have h2:=b.pl;rw[n4 ew.sm ew.tot (by omega) (by omega) (fun x hx=>by have:=b.pd x hx;omega),iz.2 h]
theorem Wb.inw {n:Nat} (h:RW w) (b:Wb lim n w) (hn:n≤9000):InW w:=
 ⟨b.bd.inf (by omega),⟨by have:=b.pl;show w.al.aI.length≤_;omega,fun x hx=>by
  have:=(h.pk x hx).1.2.2.1;rw[this];simp⟩,by have:=b.kl;omega⟩
theorem InW.same (h:InW w) (v:ao):bo w v=some (decide (w=v)):=wm h.fs.len h.fs.de h.aI.len h.aI.de h.kl
end
end Go.Eng
set_option linter.unusedSimpArgs false
set_option linter.unusedVariables false
namespace Go.Eng
open Go
section
variable {lim:Int} {w:ao} {f:Fs} {d x:ae} {nm:Str} {e:Entry} {n:Nat} {s i:Int} {a:ax}
theorem H0 (hw:WF f) (hf:jc f d nm) (hn:nm≠ []) (fol:Bool):Gd f fol ⟨d.ino,nm,0⟩:=by
 refine Or.inr ⟨hn,d,hf.hd,hf.hk, ?_,fun _=> ?_⟩
 ·show(0:Int)=cB nm d.entries
  unfold cB;rw[hf.h0]
 ·rw[dO hw.zero];decide
theorem ff {fol:Bool} (h:RW w) (b:Wb lim n w) (hn:n≤9000) (ga:Gd w.fs fol a) (an:a.name≠ []) (hx:au a.ino w.fs.aa=some x) (hx0:x.entries= []):
 eF w s a=some (nL w s a)∧lj w s a=some (nL w s a):=by
 obtain⟨e,t,t2⟩:=taken h.tr b.bd hn ga an hx hx0;refine⟨uf h b hn hx t.tr.sort (by have:=t.bd.len;omega) ?_,uy h b hn t2⟩;rw[t.eq,←t.IY,fO (t.ent.ne h.tr),if_pos rfl];by_cases hl:x.aq=1
 ·rw[if_pos hl,decide_eq_true hl];rfl
 ·rw[if_neg hl,decide_eq_false hl];rfl
theorem xZ (h:RW w) (b:Wb lim n w) (hn:n≤8999) (an:a.name≠ []) (hs1:1≤s) (hs2:s≤1073741824) (hs:cN s w.al.kept=none) (tk:DT w.fs n a x e (kD w.fs a)):Gd (eU w s (aK a.dir w.fs.aa) a.name x).fs false ⟨a.dir,a.name,0⟩:=by
 have rw1:=yn h tk.ent tk.xe hs1 hs2 hs;have wb1:=AS (s:=s) h b tk.ent;have fr1:jc (eU w s (aK a.dir w.fs.aa) a.name x).fs ((aK a.dir w.fs.aa).cE a.name) a.name:=(rM tk.ent h.tr).2;have:=H0 (rw1.ew wb1 (by omega)).wf fr1 an false;rw[show((aK a.dir w.fs.aa).cE a.name).ino=a.dir from tk.Lt] at this;exact this
end
end Go.Eng
