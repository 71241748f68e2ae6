/- A part of the proofs of the laws of this seat: the engine that reads the program's code, plain functions, or facts of the program's functions. Conditions: none. -/
import Derived.Test.YtodknkhemckfbaaGreatDoorP2
import Derived.Test.YtodknkhemckfbaaGreatDoorP1
import Derived.Test.YtodknkhemckfbaaGreatDoorE4
set_option linter.unusedSectionVars false
set_option linter.unusedVariables false
set_option linter.unusedSimpArgs false
set_option linter.unnecessarySimpa false
set_option maxRecDepth 100000
namespace Go.Eng
open Go
section
variable {f:Fs} {d1 d2 x:ao} {n1 n2:Str} {e:Entry}
def mvD (d1 d2:ao) (n1:Str):ao:=if d1.ino=d2.ino then d1.b6 n1 else d2
def mvF (f:Fs) (d1:ao) (n1:Str) (d2:ao) (n2:Str) (x:ao):Fs:=
 if x.kind=2 then ((f.set (d1.b6 n1)).set ((mvD d1 d2 n1).bO n2 x.ino)).set (x.gB d2.ino) else (f.set (d1.b6 n1)).set ((mvD d1 d2 n1).bO n2 x.ino)
structure Mv (f:Fs) (d1:ao) (n1:Str) (d2:ao) (n2:Str) (x:ao) (e:Entry):Prop where
 ent:Ent f d1 n1 x e
 free:je f d2 n2
 out:¬∃n,Way f.aa x.ino d2.ino n
theorem qk:(mvD d1 d2 n1).ino=d2.ino:=by
 unfold mvD;split
 ·rename_i h;exact h
 ·rfl
theorem Mv.ne2 (h:Mv f d1 n1 d2 n2 x e):x.ino≠d2.ino:=λe1=>h.out ⟨0,by rw[e1];exact .here⟩
theorem Mv.same (h:Mv f d1 n1 d2 n2 x e) (e1:d1.ino=d2.ino):d1=d2:=by
 have:=h.ent.hd;rw[e1,h.free.hd] at this;exact(Option.some.inj this).symm
theorem Mv.dk (h:Mv f d1 n1 d2 n2 x e) (ht:Tree f):(mvD d1 d2 n1).kind=2:=by
 unfold mvD;split
 ·exact h.ent.kind ht
 ·exact h.free.hk
theorem Mv.RD (h:Mv f d1 n1 d2 n2 x e):cM n2 (mvD d1 d2 n1).entries=none:=by
 unfold mvD;split
 ·rename_i e1
  show cM n2 (cH n1 d1.entries)=none;rw[jD];split
  ·rfl
  ·rw[h.same e1];exact h.free.h0
 ·exact h.free.h0
theorem Mv.Ma (h:Mv f d1 n1 d2 n2 x e) (ht:Tree f):gG (mvD d1 d2 n1).entries=true:=by
 unfold mvD;split
 ·exact pI (ht.eN h.ent.hd).2.2.2.2.2
 ·exact(ht.eN h.free.hd).2.2.2.2.2
theorem Mv.Zm (h:Mv f d1 n1 d2 n2 x e) (ht:Tree f):ft (mvD d1 d2 n1)=true:=by
 unfold mvD;split
 ·exact oS (ht.eN h.ent.hd).1 (h.ent.kind ht) (pI (ht.eN h.ent.hd).2.2.2.2.2)
 ·exact(ht.eN h.free.hd).1
theorem Lh {l:List Entry} {a e':Entry} (h:cM a.name l=none):e'∈fg a l↔e'=a\/e'∈l:=by
 rw[zM];refine⟨λh'=>h'.imp id And.left,λh'=>h'.imp id λhe=>⟨he,λhn=> ?_⟩⟩;unfold cM bT at h;rw[List.find?_eq_none] at h;exact h e' he (by simpa using hn)
theorem yO (h:Mv f d1 n1 d2 n2 x e) (ht:Tree f) (k:Int):ar k (mvF f d1 n1 d2 n2 x).aa=
 if x.ino=k then some (if x.kind=2 then x.gB d2.ino else x) else if d2.ino=k then some ((mvD d1 d2 n1).bO n2 x.ino) else if d1.ino=k then some (d1.b6 n1) else ar k f.aa:=by
 have e1:(((mvD d1 d2 n1).bO n2 x.ino).ino)=d2.ino:=qk;have hx1:=h.ent.ne ht;have hx2:=h.ne2;unfold mvF;by_cases hk:x.kind=2
 ·rw[if_pos hk,if_pos hk]
  show ar k (bB _ (bB _ (bB _ f.aa)))=_;rw[bA,bA,bA,e1];rfl
 ·rw[if_neg hk,if_neg hk]
  show ar k (bB _ (bB _ f.aa))=_;rw[bA,bA,e1];by_cases h0:x.ino=k
  ·rw[if_pos h0,if_neg (λe=>hx2 (by rw[h0,e])),if_neg (λe=>hx1 (by rw[h0,<-e];rfl)),<-h0,h.ent.hx]
  ·rw[if_neg h0];rfl
theorem E6 (ht:Tree f):ct (mvF f d1 n1 d2 n2 x).aa:=by
 unfold mvF;split
 ·exact bV (bV (bV ht.sort))
 ·exact bV (bV ht.sort)
theorem rV {y:ao} (h:y.kind=2):byt y=0:=by unfold byt;rw[if_neg (by omega)]
theorem It (h:Mv f d1 n1 d2 n2 x e) (ht:Tree f):(mvF f d1 n1 d2 n2 x).aa.length=f.aa.length/\bytesOf (mvF f d1 n1 d2 n2 x).aa=bytesOf f.aa/\∀n,fc n (mvF f d1 n1 d2 n2 x).aa=fc n f.aa:=by
 have hs:=ht.sort;have hs1:=bV (x:=d1.b6 n1) hs;have hs2:=bV (x:=(mvD d1 d2 n1).bO n2 x.ino) hs1;have h1:ar (d1.b6 n1).ino f.aa=some d1:=h.ent.hd;have h2:ar ((mvD d1 d2 n1).bO n2 x.ino).ino (bB (d1.b6 n1) f.aa)=some (mvD d1 d2 n1):=by
  rw[show((mvD d1 d2 n1).bO n2 x.ino).ino=d2.ino from qk,bA];unfold mvD;by_cases e1:d1.ino=d2.ino
  ·rw[if_pos (show(d1.b6 n1).ino=d2.ino from e1),if_pos e1]
  ·rw[if_neg (show¬(d1.b6 n1).ino=d2.ino from e1),if_neg e1];exact h.free.hd
 have a1:(bB (d1.b6 n1) f.aa).length=f.aa.length:=by rw[gV hs,h1];rfl
 have a2:(bB ((mvD d1 d2 n1).bO n2 x.ino) (bB (d1.b6 n1) f.aa)).length=f.aa.length:=by rw[gV hs1,h2];exact a1
 have b1:=fb (x:=d1.b6 n1) hs;rw[h1] at b1;simp only[iP] at b1;rw[rV (h.ent.kind ht),rV (show(d1.b6 n1).kind=2 from h.ent.kind ht)] at b1;have b2:=fb (x:=(mvD d1 d2 n1).bO n2 x.ino) hs1;rw[h2] at b2;simp only[iP] at b2;rw[rV (h.dk ht),rV (show((mvD d1 d2 n1).bO n2 x.ino).kind=2 from h.dk ht)] at b2;have c2:∀n,fc n (bB ((mvD d1 d2 n1).bO n2 x.ino) (bB (d1.b6 n1) f.aa))=fc n f.aa:=λn=>by
  have c1:=lL (x:=d1.b6 n1) hs n;rw[h1] at c1;have c2:=lL (x:=(mvD d1 d2 n1).bO n2 x.ino) hs1 n;rw[h2] at c2;have c3:=IF (m:=n1) (ht.eN h.ent.hd).2.2.2.2.1 n;rw[h.ent.he] at c3;have c4:=MH (e:=⟨n2,x.ino⟩) ((iK _).1 (h.Ma ht)).1 n;rw[show(⟨n2,x.ino⟩:Entry).name=n2 from rfl,h.RD] at c4;simp only[iP,one,h.ent.hn] at c1 c2 c3 c4;have q1:(d1.b6 n1).entries=cH n1 d1.entries:=rfl;have q2:((mvD d1 d2 n1).bO n2 x.ino).entries=fg ⟨n2,x.ino⟩ (mvD d1 d2 n1).entries:=rfl;rw[q1] at c1;rw[q2] at c2;omega
 unfold mvF;by_cases hk:x.kind=2
 ·simp only[if_pos hk]
  have h3:ar (x.gB d2.ino).ino (bB ((mvD d1 d2 n1).bO n2 x.ino) (bB (d1.b6 n1) f.aa))=some x:=by
   rw[show(x.gB d2.ino).ino=x.ino from rfl,bA,if_neg (by rw[show((mvD d1 d2 n1).bO n2 x.ino).ino=d2.ino from qk];exact λe=>h.ne2 e.symm),bA,if_neg (show¬(d1.b6 n1).ino=x.ino from λe=>h.ent.ne ht e.symm)];exact h.ent.hx
  refine⟨?_, ?_,λn=> ?_⟩
  ·show(bB _ (bB _ (bB _ f.aa))).length=_
   rw[gV hs2,h3];exact a2
  ·show bytesOf (bB _ (bB _ (bB _ f.aa)))=_
   have:=fb (x:=x.gB d2.ino) hs2;rw[h3] at this;have q:byt (x.gB d2.ino)=byt x:=rfl;simp only[iP,q] at this;omega
  ·show fc n (bB _ (bB _ (bB _ f.aa)))=_
   have:=lL (x:=x.gB d2.ino) hs2 n;rw[h3,c2] at this;have q:(x.gB d2.ino).entries=x.entries:=rfl;simp only[iP,q] at this;omega
 ·simp only[if_neg hk]
  exact⟨a2,by show bytesOf (bB _ (bB _ f.aa))=_;omega,c2⟩
theorem Zu (h:Tree f) (hm:Mv f d1 n1 d2 n2 x e):Tree (mvF f d1 n1 d2 n2 x):=by
 have hx1:=hm.ent.ne h;have hx2:=hm.ne2;have hfind:=yO hm h;obtain⟨s1,s2,s3⟩:=It hm h;have hk1:=h.eN hm.ent.hd;have hk2:=h.eN hm.free.hd;have hkx:=h.eN hm.ent.hx;have hs:ct (mvF f d1 n1 d2 n2 x).aa:=E6 h;have hmx:(mvF f d1 n1 d2 n2 x).ay=f.ay/\(mvF f d1 n1 d2 n2 x).aB=f.aB/\(mvF f d1 n1 d2 n2 x).next=f.next:=by unfold mvF;split<;>exact⟨rfl,rfl,rfl⟩
 generalize mvF f d1 n1 d2 n2 x=g at hfind s1 s2 s3 hs hmx;obtain⟨m1,m2,m3⟩:=hmx;have hde:∀{e'},e'∈((mvD d1 d2 n1).bO n2 x.ino).entries↔e'=⟨n2,x.ino⟩\/e'∈(mvD d1 d2 n1).entries:=λ{e'}=>Lh (a:=⟨n2,x.ino⟩) hm.RD
 have hmd:∀{e'},e'∈(mvD d1 d2 n1).entries↔e'∈d2.entries/\(d2.ino=d1.ino->e'≠e):=λ{e'}=>by
  unfold mvD;by_cases q:d1.ino=d2.ino
  ·rw[if_pos q,hm.ent.dD h,hm.same q]
   exact⟨λ⟨a,b⟩=>⟨a,λ_=>b⟩,λ⟨a,b⟩=>⟨a,b rfl⟩⟩
  ·rw[if_neg q]
   exact⟨λa=>⟨a,λq'=>absurd q'.symm q⟩,λa=>a.1⟩
 have cs:∀k y,ar k g.aa=some y->∃z,ar k f.aa=some z/\y.kind=z.kind/\y.aH=z.aH/\y.data=z.data/\(k≠x.ino->y.parent=z.parent)/\(k=x.ino->z=x/\(x.kind=2->y.parent=d2.ino))/\ft y=true/\∀e',e'∈y.entries↔(k=d2.ino/\e'=⟨n2,x.ino⟩)\/(e'∈z.entries/\(k=d1.ino->e'≠e)):=λk y hy=>by
  rw[hfind] at hy;by_cases e1:x.ino=k
  ·rw[if_pos e1] at hy
   subst e1;refine⟨x,hm.ent.hx, ?_⟩;have hee:∀e',e'∈x.entries↔(x.ino=d2.ino/\e'=⟨n2,x.ino⟩)\/(e'∈x.entries/\(x.ino=d1.ino->e'≠e)):=λe'=>⟨λa=>Or.inr ⟨a,λb=>absurd b hx1⟩,λa=>a.elim (λb=>absurd b.1 hx2) And.left⟩
   by_cases hk:x.kind=2
   ·rw[if_pos hk] at hy;cases hy
    refine⟨rfl,rfl,rfl,λa=>absurd rfl a,λ_=>⟨rfl,λ_=>rfl⟩, ?_,hee⟩;have:=hkx.1;rw[vg hk] at this;rw[vg (show(x.gB d2.ino).kind=2 from hk)];exact this
   ·rw[if_neg hk] at hy;cases hy
    exact⟨rfl,rfl,rfl,λa=>absurd rfl a,λ_=>⟨rfl,λa=>absurd a hk⟩,hkx.1,hee⟩
  ·rw[if_neg e1] at hy
   by_cases e2:d2.ino=k
   ·rw[if_pos e2] at hy;cases hy
    subst e2;refine⟨d2,hm.free.hd, ?_, ?_, ?_,λ_=> ?_,λa=>absurd a.symm e1,oS (hm.Zm h) (hm.dk h) (vM (hm.Ma h) hm.free.hm hkx.2.2.1),λe'=> ?_⟩
    ·show(mvD d1 d2 n1).kind=_
     rw[hm.dk h,hm.free.hk]
    ·show(mvD d1 d2 n1).aH=_
     unfold mvD;split
     ·rename_i q;rw[hm.same q];rfl
     ·rfl
    ·show(mvD d1 d2 n1).data=_
     unfold mvD;split
     ·rename_i q;rw[hm.same q];rfl
     ·rfl
    ·show(mvD d1 d2 n1).parent=_
     unfold mvD;split
     ·rename_i q;rw[hm.same q];rfl
     ·rfl
    ·rw[hde,hmd]
     exact⟨λa=>a.imp (λb=>⟨rfl,b⟩) id,λa=>a.imp And.right id⟩
   ·rw[if_neg e2] at hy
    by_cases e3:d1.ino=k
    ·rw[if_pos e3] at hy;cases hy
     subst e3;refine⟨d1,hm.ent.hd,rfl,rfl,rfl,λ_=>rfl,λa=>absurd a.symm e1,oS hk1.1 (hm.ent.kind h) (pI hk1.2.2.2.2.2),λe'=> ?_⟩;rw[hm.ent.dD h];exact⟨λ⟨a,b⟩=>Or.inr ⟨a,λ_=>b⟩,λa=>a.elim (λb=>absurd b.1.symm e2) (λb=>⟨b.1,b.2 rfl⟩)⟩
    ·rw[if_neg e3] at hy
     exact⟨y,hy,rfl,rfl,rfl,λ_=>rfl,λa=>absurd a.symm e1,(h.eN hy).1,λe'=>⟨λa=>Or.inr ⟨a,λb=>absurd b.symm e3⟩,λa=>a.elim (λb=>absurd b.1.symm e2) And.left⟩⟩
 have on:∀k z,ar k f.aa=some z->∃y,ar k g.aa=some y:=λk z hz=>by
  rw[hfind];by_cases e1:x.ino=k
  ·rw[if_pos e1];exact⟨_,rfl⟩
  ·rw[if_neg e1]
   by_cases e2:d2.ino=k
   ·rw[if_pos e2];exact⟨_,rfl⟩
   ·rw[if_neg e2]
    by_cases e3:d1.ino=k
    ·rw[if_pos e3];exact⟨_,rfl⟩
    ·rw[if_neg e3];exact⟨z,hz⟩
 have Cv:∀k z e',ar k f.aa=some z->e'∈z.entries->(k=d1.ino->e'≠e)->∃y,ar k g.aa=some y/\e'∈y.entries:=λk z e' hz he hne=>by
  obtain⟨y,hy⟩:=on k z hz;obtain⟨z',hz',_,_,_,_,_,_,h8⟩:=cs k y hy;rw[hz] at hz';cases hz';exact⟨y,hy,(h8 e').2 (Or.inr ⟨he,hne⟩)⟩
 have rA:∀k,Reach f.aa k->(¬∃n,Way f.aa x.ino k n)->Reach g.aa k:=λk hr=>by
  induction hr with
  |root=>exact λ_=> .root
  |step hr hz he ih=>
   rename_i k' z e';intro hn;obtain⟨y,hy,hey⟩:=Cv k' z e' hz he (λ_ e1=>hn ⟨0,by rw[e1,hm.ent.hn];exact .here⟩);exact Reach.step (ih (λ⟨n,hw⟩=>hn ⟨n+1, .step hw hz he⟩)) hy hey
 have rB:Reach g.aa x.ino:=by
  obtain⟨y,hy⟩:=on d2.ino d2 hm.free.hd;obtain⟨_,_,_,_,_,_,_,_,h8⟩:=cs _ y hy;exact Reach.step (e:=⟨n2,x.ino⟩) (rA _ (h.uM hm.free.hd) hm.out) hy ((h8 _).2 (Or.inl ⟨rfl,rfl⟩))
 have hloop:¬∃n,Way f.aa x.ino d1.ino n:=λ⟨n,hw⟩=>by
  obtain⟨a,ha⟩:=(h.uM hm.ent.hd).way;exact h.Dv ha hm.ent.hd hm.ent.mem.1 (by rw[hm.ent.hn];exact hw)
 have rC:∀k n,Way f.aa x.ino k n->Reach g.aa k:=λk n hw=>by
  induction hw with
  |here=>exact rB
  |step hw hz he ih=>
   rename_i k' n' z e';obtain⟨y,hy,hey⟩:=Cv k' z e' hz he (λe1 _=>hloop ⟨n',by rw[<-e1];exact hw⟩);exact Reach.step ih hy hey
 obtain⟨r,hr,hrk,hrp⟩:=h.root;have hx0:x.ino≠1:=λe1=>h.qX hm.ent.hd hm.ent.mem.1 (by rw[hm.ent.hn,e1])
 refine yu (by rw[m1];exact h.x_) (by rw[m2];exact h.xY) (by rw[m3];exact h.next) hs (λk y hy=> ?_) ?_ (λk y hy=> ?_) (λk y hy e' he'=> ?_) (λk y hy=> ?_) ?_ (λk y hy hd=> ?_) (λk y hy hd j z hz e' he' hn=> ?_) (λk y hy=> ?_) ?_
 ·obtain⟨z,hz,_⟩:=cs k y hy
  rw[m3];have:=h.eN hz;exact⟨this.2.2.1,this.2.2.2.1⟩
 ·obtain⟨y,hy⟩:=on 1 r hr
  obtain⟨z,hz,c1,_,_,c4,_⟩:=cs _ y hy;rw[hr] at hz;cases hz;exact⟨y,hy,by rw[c1];exact hrk,by rw[c4 (λe=>hx0 e.symm)];exact hrp⟩
 ·obtain⟨z,hz,_,_,_,_,_,c7,_⟩:=cs k y hy
  exact c7
 ·obtain⟨z,hz,_,_,_,_,_,_,c8⟩:=cs k y hy
  rcases(c8 e').1 he' with⟨_,rfl⟩ |⟨he,_⟩
  ·exact on _ x hm.ent.hx
  ·obtain⟨z',hz'⟩:=h.to hz he
   exact on _ z' hz'
 ·obtain⟨z,hz,_,c2,_⟩:=cs k y hy
  rw[s3,c2];exact(h.eN hz).2.1
 ·rw[s3];exact h.uy
 ·obtain⟨z,hz,c1,_⟩:=cs k y hy
  rw[s3];exact h.uN hz (by rw[<-c1];exact hd)
 ·obtain⟨y0,hy0,c1,_,_,c4,c5,_⟩:=cs k y hy
  obtain⟨z0,hz0,_,_,_,_,_,_,c8⟩:=cs j z hz;rcases(c8 e').1 he' with⟨rfl,rfl⟩ |⟨he,hne⟩
  ·have hn:x.ino=k:=hn
   obtain⟨a,b⟩:=c5 hn.symm;rw[a] at c1;exact b (by rw[<-c1];exact hd)
  ·by_cases hkx0:k=x.ino
   ·exfalso
    obtain⟨a,b⟩:=c5 hkx0;have hxk:x.kind=2:=by rw[<-a,<-c1];exact hd
    obtain⟨q1,q2,q3⟩:=h.up hz0 he hm.ent.hd hm.ent.mem.1 (by rw[hn,hkx0,hm.ent.hn]) (y:=x) (by rw[hn,hkx0];exact hm.ent.hx) hxk;exact hne q1 q3
   ·rw[c4 hkx0]
    exact h.parent hy0 (by rw[<-c1];exact hd) hz0 he hn
 ·obtain⟨z,hz,_⟩:=cs k y hy
  by_cases hb:∃n,Way f.aa x.ino k n
  ·obtain⟨n,hw⟩:=hb
   exact rC k n hw
  ·exact rA k (h.uM hz) hb
 ·have hff:=h.fits
  unfold cy at hff⊢;simp only[Bool.and_eq_true,decide_eq_true_eq] at hff⊢;rw[s1,s2,m1,m2];exact hff
end
structure Ext (f g:Fs) (D:Int) (N:Str) (x:ao):Prop where
 wf:WS f
 wg:WS g
 old:∀k a,ar k f.aa=some a->∃b,ar k g.aa=some b/\a.ino=b.ino/\a.kind=b.kind/\a.parent=b.parent/\(a.kind=3->a.data=b.data)/\∀n,(k=D/\n=N)\/cm n b.entries=cm n a.entries
 new:ar x.ino g.aa=some x
 was:∀d,ar D f.aa=some d->cm N d.entries=0
 now:∀d,ar D g.aa=some d->cm N d.entries=x.ino
 pos:D≠0
def rm (D:Int) (N:Str) (i:Int) (s:au):au:=if s.dir=D/\s.name=N then ⟨D,N,i⟩ else s
def OkS (f:Fs) (D:Int) (N:Str) (s:au):Prop:=(s.dir=D/\s.name=N->s.ino=0)/\(s.ino=0\/(ar s.ino f.aa).isSome=true)
section
variable {f g:Fs} {D:Int} {N:Str} {x:ao}
theorem qw {s:au} {i:Int} (h:¬(s.dir=D/\s.name=N)):rm D N i s=s:=by unfold rm;rw[if_neg h]
theorem OkS.ne {s:au} (h:OkS f D N s) (h0:s.ino≠0):¬(s.dir=D/\s.name=N):=λe=>h0 (h.1 e)
theorem Ext.here (h:Ext f g D N x) {j:Int} {d:ao} (hj:ar j f.aa=some d):rm D N x.ino ⟨0, [],j⟩=⟨0, [],j⟩/\OkS f D N ⟨0, [],j⟩:=
 ⟨qw λe=>h.pos e.1.symm,λe=>absurd e.1.symm h.pos,Or.inr (by show(ar j f.aa).isSome=true;rw[hj];rfl)⟩
theorem Ext.look (h:Ext f g D N x) {k:Int} {d b:ao} (hd:ar k f.aa=some d) (hb:ar k g.aa=some b) (n:Str):(⟨b.ino,n,cm n b.entries⟩:au)=rm D N x.ino ⟨d.ino,n,cm n d.entries⟩/\OkS f D N ⟨d.ino,n,cm n d.entries⟩:=by
 have d2:=(aQ hd).2;have b2:=(aQ hb).2;constructor
 ·by_cases hs:d.ino=D/\n=N
  ·obtain⟨e1,rfl⟩:=hs
   unfold rm;rw[if_pos ⟨e1,rfl⟩,h.now b (by rw[<-e1,d2];exact hb),b2,<-d2,e1]
  ·rw[qw hs]
   obtain⟨b',hb',_,_,_,_,h5⟩:=h.old k d hd;rw[hb] at hb';cases hb';rcases h5 n with⟨e1,e2⟩ |h5
   ·exact absurd ⟨by rw[d2,e1],e2⟩ hs
   ·rw[h5,b2,d2]
 ·refine⟨λe=> ?_, ?_⟩
  ·obtain⟨e1,e2⟩:=e
   have e1:d.ino=D:=e1;have e2:n=N:=e2;show cm n d.entries=0;rw[e2];exact h.was d (by rw[<-e1,d2];exact hd)
  ·exact nr h.wf.wf (aQ hd).1 n
theorem Ext.cq (h:Ext f g D N x):∀(ns:List Str) (s t:au),OkS f D N s->cq f.aa ns s=(t,0)->cq g.aa ns (rm D N x.ino s)=(rm D N x.ino t,0)/\OkS f D N t
 | [],s,t,hs,hg=>by
  simp only[Go.Eng.cq,Prod.mk.injEq] at hg⊢;obtain⟨rfl,_⟩:=hg;exact⟨⟨rfl,trivial⟩,hs⟩
 |n::ns,s,t,hs,hg=>by
  cases hf:ar s.ino f.aa with
  |none=>rw[ia hf] at hg;simp at hg
  |some d=>
   by_cases hk:d.kind=2
   ·rw[eM hf hk] at hg
    have h0:s.ino≠0:=λe=>by rw[e,h.wf.wf.zero] at hf;cases hf
    rw[qw (hs.ne h0)];obtain⟨b,hb,_,h2,_⟩:=h.old _ d hf;obtain⟨l1,l2⟩:=h.look hf hb n;rw[eM hb (by rw[<-h2];exact hk),l1];exact Ext.cq h ns _ t l2 hg
   ·rw[gY hf hk] at hg;simp at hg
theorem Ext.eN (h:Ext f g D N x) {k:Int} (hk:k=0\/(ar k f.aa).isSome=true):(aC k g.aa).kind=(aC k f.aa).kind/\((aC k f.aa).kind=3->(aC k f.aa).data=(aC k g.aa).data):=by
 rcases hk with rfl|hk
 ·rw[dW h.wf.wf.zero,dW h.wg.wf.zero];exact⟨rfl,λ_=>rfl⟩
 ·obtain⟨a,ha⟩:=Option.isSome_iff_exists.1 hk
  obtain⟨b,hb,_,h2,_,h4,_⟩:=h.old k a ha;rw[aT ha,aT hb];exact⟨h2.symm,h4⟩
theorem Ext.vD (h:Ext f g D N x) {dir:Bool} (hx:dir=true->x.kind=2) {s t:au} (hs:OkS f D N s) (he:vD f.aa dir s=(t,0)):vD g.aa dir (rm D N x.ino s)=(rm D N x.ino t,0)/\OkS f D N t:=by
 have ht:t=s:=by
  unfold Go.Eng.vD at he;split at he
  ·split at he
   ·simp at he
   ·exact(Prod.mk.inj he).1.symm
  ·exact(Prod.mk.inj he).1.symm
 subst ht;refine⟨?_,hs⟩;by_cases hsp:t.dir=D/\t.name=N
 ·have:rm D N x.ino t=⟨D,N,x.ino⟩:=by unfold rm;rw[if_pos hsp]
  rw[this];unfold Go.Eng.vD;simp only;rw[h.new];simp only;rw[if_neg (λe=>e.2 (hx e.1))]
 ·rw[qw hsp]
  unfold Go.Eng.vD at he⊢;rcases hs.2 with h0|h0
  ·rw[h0,h.wg.wf.zero]
  ·obtain⟨a,ha⟩:=Option.isSome_iff_exists.1 h0
   obtain⟨b,hb,_,h2,_⟩:=h.old _ a ha;rw[ha] at he;rw[hb];simp only at he⊢;rw[<-h2];exact he
theorem Ext.dx (h:Ext f g D N x) {lnk lnk':Bool->ao->ao->List Str->au×Int} {dir:Bool} (hx:dir=true->x.kind=2)
 (hl:∀(a b d d':ao) (rest:List Str) (t:au),(rest≠ [] \/dir=true)->a.data=b.data->d.ino=d'.ino->(∃z,ar d.ino f.aa=some z)->lnk dir a d rest=(t,0)->lnk' dir b d' rest=(rm D N x.ino t,0)/\OkS f D N t):
 ∀(todo:List Str) (s t:au),OkS f D N s->dx f.aa false lnk dir todo s=(t,0)->dx g.aa false lnk' dir todo (rm D N x.ino s)=(rm D N x.ino t,0)/\OkS f D N t
 | [],s,t,hs,hg=>h.vD hx hs hg
 |n::rest,s,t,hs,hg=>by
  cases hf:ar s.ino f.aa with
  |none=>rw[n5 hf] at hg;simp at hg
  |some d=>
   by_cases hk:d.kind=2
   ·have h0:s.ino≠0:=λe=>by rw[e,h.wf.wf.zero] at hf;cases hf
    rw[qw (hs.ne h0)];obtain⟨b,hb,h1,h2,h3,_⟩:=h.old _ d hf;have hkb:b.kind=2:=by rw[<-h2];exact hk
    by_cases n1:n=[46]
    ·rw[qv hf hk n1] at hg
     rw[qv hb hkb n1,<-h1];have hd:ar d.ino f.aa=some d:=by rw[(aQ hf).2];exact hf
     obtain⟨u1,u2⟩:=h.here hd;have:=Ext.dx h hx hl rest _ t u2 hg;rwa[u1] at this
    ·by_cases n2:n=[46,46]
     ·rw[sy hf hk n2] at hg
      rw[sy hb hkb n2,<-h3];obtain⟨y,hy,_⟩:=h.wf.par d (aQ hf).1 hk;obtain⟨u1,u2⟩:=h.here hy;have:=Ext.dx h hx hl rest _ t u2 hg;rwa[u1] at this
     ·obtain⟨l1,l2⟩:=h.look hf hb n
      by_cases hsp:d.ino=D/\n=N
      ·have hz:cm n d.entries=0:=l2.1 hsp
       have hki:(aC (cm n d.entries) f.aa).kind=0:=by rw[hz,dW h.wf.wf.zero];rfl
       rw[kM hf hk n1 n2 (λc=>by rw[hki] at c;exact absurd c.1 (by decide))] at hg;cases rest with
       |nil=>
        have hb2:cm n b.entries=x.ino:=by
         rw[hsp.2];exact h.now b (by rw[<-hsp.1,(aQ hf).2];exact hb)
        rw[kM hb hkb n1 n2 (λc=>by
         rw[hb2,aT h.new] at c;have:=hx (by simpa using c.2);omega),l1]
        exact h.vD hx l2 hg
       |cons m rest=>
        rw[hz,n5 (h.wf.wf.zero)] at hg;simp at hg
      ·rw[qw hsp] at l1
       have e1:cm n b.entries=cm n d.entries:=(au.mk.inj l1).2.2;obtain⟨k1,k2⟩:=h.eN l2.2;by_cases c:(aC (cm n d.entries) f.aa).kind=3/\(rest≠ [] \/false=true\/dir=true)
       ·rw[jL hf hk n1 n2 c] at hg
        rw[jL hb hkb n1 n2 (by rw[e1];exact⟨by rw[k1];exact c.1,c.2⟩),e1];refine hl _ _ _ _ _ _ (by simpa using c.2) (k2 c.1) h1 ⟨d,by rw[(aQ hf).2];exact hf⟩ hg
       ·rw[kM hf hk n1 n2 c] at hg
        rw[kM hb hkb n1 n2 (by rw[e1];exact λc'=>c ⟨by rw[<-k1];exact c'.1,c'.2⟩),l1];have:=Ext.dx h hx hl rest _ t l2 hg;rwa[qw hsp] at this
   ·rw[qV hf hk] at hg;simp at hg
theorem Ext.onK (h:Ext f g D N x):∀(k:Nat) (dir:Bool) (todo:List Str) (s t:au),(dir=true->x.kind=2)->OkS f D N s->onK f.aa false k dir todo s=(t,0)->onK g.aa false k dir todo (rm D N x.ino s)=(rm D N x.ino t,0)/\OkS f D N t
 |0,dir,todo,s,t,hx,hs,hg=>h.dx hx (λa b d d' rest t _ _ _ _ hh=>by simp at hh) todo s t hs hg
 |k+1,dir,todo,s,t,hx,hs,hg=>by
  refine h.dx hx (λa b d d' rest t hr hd hi ⟨z,hz⟩ hh=> ?_) todo s t hs hg;rw[<-hd,<-hi];by_cases hl:qE a.data=true
  ·rw[if_pos hl] at hh;simp at hh
  ·rw[if_neg hl] at hh⊢
   have hj:∃z',ar (if (eB a.data).abs=true then 1 else d.ino) f.aa=some z':=by
    split
    ·exact Option.isSome_iff_exists.1 h.wf.wf.root
    ·exact⟨z,hz⟩
   obtain⟨z',hz'⟩:=hj;obtain⟨u1,u2⟩:=h.here hz';have:=Ext.onK h k _ _ _ t (λhd'=>hx (by
    rw[Bool.or_eq_true,Bool.and_eq_true] at hd';rcases hd' with hd'|⟨_,hd'⟩
    ·exact hd'
    ·rcases hr with hr|hr
     ·exact absurd (by simpa using hd') hr
     ·exact hr)) u2 hh
   rwa[u1] at this
end
theorem A6 {f:Fs} {n:Int} (hs:ct f.aa) (hl:f.aa.length<=1073741824):pY f n=some (f.drop n):=by
 unfold pY sh Fs.drop;rw[qT hs hl];simp only[ae];generalize f.aa=l at hs hl;cases h:C1 n l
 ·have hf:=BX hs h
  have e9:dI n l=l:=qj hf;rw[e9];refine lH (λe=> ?_) ?_
  ·subst e;rfl
  ·rw[bC (by unfold LIM;simp;omega)]
   simp only[ax,List.nil_append]
 ·obtain⟨x,hx,hxn⟩:=BQ h
  have e9:dI n l=l.take (mf n l)++l.drop (mf n l+1):=r6 loI hs hx hxn;rw[e9];have hlt:mf n l<l.length:=(List.getElem?_eq_some_iff.1 hx).1;clear h hx e9;generalize mf n l=c at hlt;refine lH (λe=>by subst e;simp at hlt) ?_;rw[bC (by unfold LIM;simp;omega)];have e1:IntKind.i64.wrap ((c:Int)+(1:Int))=((c+1:Nat):Int):=aP (by omega);have hS:(l.drop (c+1)).take (l.length - (c+1))=l.drop (c+1):=by rw[List.take_of_length_le];simp
  have hSl:(l.drop (c+1)).length=l.length - (c+1):=by simp
  have e2:(c:Int)+((l.length - (c+1):Nat):Int)=((l.length - 1:Nat):Int):=by omega
  simp only[aw,List.nil_append,e1,toNat_cast,Nat.zero_add,hS,hSl,e2];have e3:c+(l.length - (c+1))=l.length - 1:=by omega
  simp only[e3];have hM:(l.take c++(l.drop (c+1)++l.drop (l.length - 1))).length=l.length:=by simp;omega
  have hT:(l.take c++(l.drop (c+1)++l.drop (l.length - 1))).take (l.length - 1)=l.take c++l.drop (c+1):=by
   rw[<-List.append_assoc];exact take_set (by simp;omega)
  simp only[hT,hM];have hA:(l.take c++l.drop (c+1)).length=l.length - 1:=by simp;omega
  have hQ:∀X:List ao,(((l.take c++l.drop (c+1))++X).drop 0).take (l.length - 1)=l.take c++l.drop (c+1):=λX=>by
   rw[List.drop_zero];exact take_set hA
  rw[aJ (by simp),aJ (by simp;omega),aJ (by simp;omega),aU (by simp;omega),aJ (by simp;omega),aJ (by simp;omega),aJ (Nat.ble_eq_true_of_le (by omega)),aJ (Nat.ble_eq_true_of_le (by omega)),aJ (decide_eq_true (by omega)),aJ (by simp),aJ (Nat.ble_eq_true_of_le (by omega)),aJ (Nat.ble_eq_true_of_le (by simp;omega)),hQ]
theorem AT {f:Fs} (hl:f.aa.length<=1073741824) (h0: -9223372036854775808<=f.next) (h1:f.next<9223372036854775807):nz f=some (⟨f.ay,f.aB,f.next+1,f.aa⟩,f.next):=by
 unfold nz;have e1:IntKind.i64.wrap (f.next+(1:Int))=f.next+1:=bN (by omega) (by omega);rw[e1];refine lH (λe=>by rw[e]) ?_;rw[bC (by unfold LIM;simp;omega),List.nil_append]
def o9 (f:Fs) (s:au) (k:Int) (d:Str):ao:=⟨f.next,k,1,d,if k=2 then s.dir else 0, []⟩
def qI (f:Fs) (s:au) (k:Int) (d:Str):Fs:=⟨f.ay,f.aB,f.next+1,bB (o9 f s k d) (bB ((aC s.dir f.aa).bO s.name f.next) f.aa)⟩
def rv (f:Fs) (s:au) (k:Int) (d:Str):Fs×Int:=if eP s.name=true then (if cy f 1 (if k=1 then (d.length:Int) else 0)=true then (qI f s k d,0) else (f,8)) else (f,9)
def RI (f:Fs) (base p:Str) (k:Int) (d:Str) (r:Int):Fs×Int:=
 if (ku f base p false).2=0 then (if (ku f base p false).1.ino=0 then (if r≠0/\(eB p).ik=true then (f,r) else rv f (ku f base p false).1 k d) else (f,2)) else (f,(ku f base p false).2)
section
variable {f:Fs} {base p d:Str} {s:au} {k:Int}
theorem uo (h:WF f) (hl:f.aa.length<=1000000000) (he:(aC s.dir f.aa).entries.length<=1000000000) {nx:Int} {x:ao}:
 bG ⟨f.ay,f.aB,nx,f.aa⟩ ((aC s.dir f.aa).bO s.name f.next)=some ⟨f.ay,f.aB,nx,bB ((aC s.dir f.aa).bO s.name f.next) f.aa⟩/\
 bG ⟨f.ay,f.aB,nx,bB ((aC s.dir f.aa).bO s.name f.next) f.aa⟩ x=some ⟨f.ay,f.aB,nx,bB x (bB ((aC s.dir f.aa).bO s.name f.next) f.aa)⟩/\
 bU f ((aC s.dir f.aa).bO s.name f.next)=some (f.set ((aC s.dir f.aa).bO s.name f.next))/\
 bU (f.set ((aC s.dir f.aa).bO s.name f.next)) x=some ((f.set ((aC s.dir f.aa).bO s.name f.next)).set x):=by
 have h1:= @lI f ((aC s.dir f.aa).bO s.name f.next);have h2:(bB ((aC s.dir f.aa).bO s.name f.next) f.aa).length<=f.aa.length+1:=h1;refine⟨cJ (f:=⟨f.ay,f.aB,nx,f.aa⟩) h.sort (by show f.aa.length<=_;omega),cJ (f:=⟨f.ay,f.aB,nx,_⟩) (bV h.sort) (by show(bB _ f.aa).length<=_;omega),cf (by omega),cf (by omega)⟩
theorem Bq (h:WF f) (hn:s.name.length<=1099511627775) (hd:d.length<=1073741824) (hl:f.aa.length<=1000000000) (h0: -1152921504606846976<=f.next) (h1:f.next<=1152921504606846976) (he:(aC s.dir f.aa).entries.length<=1000000000):nJ f s k d=some (rv f s k d):=by
 unfold nJ sh rv qI o9;dsimp only;have hw:fN (aC s.dir f.aa).entries s.name f.next=some (fg ⟨s.name,f.next⟩ (aC s.dir f.aa).entries):=oy (ue h _) (by omega);have ht:nz f=some (⟨f.ay,f.aB,f.next+1,f.aa⟩,f.next):=AT (by omega) (by omega) (by omega);have c1:=λx=>(uo (s:=s) h hl he (nx:=f.next+1) (x:=x)).1
 have c2:=λx=>(uo (s:=s) h hl he (nx:=f.next+1) (x:=x)).2.1
 rw[q5 hn,ae,ae,iN h.sm (by unfold Far;omega) (by unfold Far;omega),iN h.sm (by unfold Far;omega) (by unfold Far;omega),h.get,ht];simp only[ae,eh];rw[hw];simp only[ae];have c1':=c1 ky;unfold ao.bO ao.xz at c1';rw[c1'];simp only[ae];have c2':=c2;unfold ao.bO ao.xz at c2';simp only[c2',ae];by_cases hk1:k=1
 ·subst hk1
  simp only[decide_true,aw,if_true];cases eP s.name
  ·rfl
  cases cy f 1 (d.length:Int)
  ·rfl
  ·rfl
 ·simp only[hk1,decide_false,ax,if_false]
  cases eP s.name
  ·rfl
  cases cy f 1 0
  ·rfl
  by_cases hk2:k=2
  ·simp only[hk2,decide_true,if_true];rfl
  ·simp only[hk2,decide_false,if_false];rfl
theorem uJ (h:WF f) (hn:s.name.length<=1099511627775) (hd:d.length<=1073741824) (hl:f.aa.length<=1000000000) (h0: -1152921504606846976<=f.next) (h1:f.next<=1152921504606846976) (he:(aC s.dir f.aa).entries.length<=1000000000):kY f s k d=some (rv f s k d):=by
 unfold kY sh rv qI o9;dsimp only;have hw:gN (aC s.dir f.aa).entries s.name f.next=some (fg ⟨s.name,f.next⟩ (aC s.dir f.aa).entries):=oK (by omega);have c1:=λx=>(uo (s:=s) h hl he (nx:=f.next+1) (x:=x)).2.2.1
 have c2:=λx=>(uo (s:=s) h hl he (nx:=f.next+1) (x:=x)).2.2.2
 rw[mP hn,ae,fW h.sm (by unfold Far;omega) (by unfold Far;omega),fW h.sm (by unfold Far;omega) (by unfold Far;omega),h.vZ];simp only[ae,eh];rw[hw];simp only[ae];have c1':=c1 ky;unfold ao.bO ao.xz at c1';rw[c1'];simp only[ae];have c2':=c2;unfold ao.bO ao.xz at c2';simp only[c2',ae];have hw1:IntKind.i64.wrap (f.next+(1:Int))=f.next+1:=bN (by omega) (by omega);simp only[Fs.set,hw1];cases eP s.name
 ·rfl
 by_cases hk1:k=1
 ·subst hk1
  simp only[decide_true,aw,if_true,Bool.not_true,ax];cases cy f 1 (d.length:Int)
  ·rfl
  ·rfl
 ·simp only[hk1,decide_false,ax,if_false,Bool.not_true]
  cases cy f 1 0
  ·rfl
  by_cases hk2:k=2
  ·simp only[hk2,decide_true,if_true];rfl
  ·simp only[hk2,decide_false,if_false];rfl
theorem DH (h:WS f) {r:Int} (hb:base.length<=8388608) (hp:p.length<=1073741823) (hd:d.length<=1073741824) (hl:f.aa.length<=1000000000) (h0: -1152921504606846976<=f.next) (h1:f.next<=1152921504606846976) (he:∀x∈f.aa,x.entries.length<=1000000000) (hn:(ku f base p false).1.name.length<=1099511627775):
 wu f base p k d r=some (RI f base p k d r):=by
 unfold wu RI;have hge:(aC (ku f base p false).1.dir f.aa).entries.length<=1000000000:=by
  cases hf:ar (ku f base p false).1.dir f.aa with
  |none=>rw[dW hf];simp [ky]
  |some x=>rw[aT hf];exact he x (aQ hf).1
 rw[A1 h hb hp,ae,dS,dS,dS,oF hp,ae,uJ h.wf hn hd hl h0 h1 hge];simp only[ae];by_cases z0:(ku f base p false).2=0
 ·rw[aU (by simp [z0]),if_pos z0]
  by_cases z1:(ku f base p false).1.ino=0
  ·rw[aU (by simp [z1]),if_pos z1]
   by_cases z2:r=0
   ·rw[aU (by simp [z2]),if_neg (by simp [z2])]
   ·rw[aJ (by simp [z2])]
    cases z3:(eB p).ik
    ·rw[if_neg (by simp)];rfl
    ·rw[if_pos (by simp [z2])];rfl
  ·rw[aJ (by simp [z1]),if_neg z1]
 ·rw[aJ (by simp [z0]),if_neg z0]
end
section
variable {l:List ao} {fol:Bool}
theorem PR {dir:Bool} {s:au} (hs:s.name.length<=255):(vD l dir s).1.name.length<=255:=by
 unfold vD;split
 ·split
  ·simp [gA]
  ·exact hs
 ·exact hs
theorem oQ {lnk:Bool->ao->ao->List Str->au×Int} {dir:Bool} (hl:∀x d rest,(∀n∈rest,n.length<=255)->(lnk dir x d rest).1.name.length<=255):
 ∀(todo:List Str) (s:au),(∀n∈todo,n.length<=255)->s.name.length<=255->(dx l fol lnk dir todo s).1.name.length<=255
 | [],s,_,hs=>PR hs
 |n::rest,s,hn,hs=>by
  have hrest:∀m∈rest,m.length<=255:=λm hm=>hn m (by simp [hm])
  cases hf:ar s.ino l with
  |none=>rw[n5 hf];simp [gA]
  |some d=>
   by_cases hk:d.kind=2
   ·by_cases h1:n=[46]
    ·rw[qv hf hk h1];exact oQ hl rest _ hrest (by simp)
    ·by_cases h2:n=[46,46]
     ·rw[sy hf hk h2];exact oQ hl rest _ hrest (by simp)
     ·by_cases h3:(aC (cm n d.entries) l).kind=3/\(rest≠ [] \/fol=true\/dir=true)
      ·rw[jL hf hk h1 h2 h3];exact hl _ _ _ hrest
      ·rw[kM hf hk h1 h2 h3];exact oQ hl rest _ hrest (hn n (by simp))
   ·rw[qV hf hk];simp [gA]
theorem xF {p:Str} (h:qE p=false):∀n∈b8 p,n.length<=255:=by
 intro n hn;unfold qE at h;simp only[Bool.or_eq_false_iff] at h;have:=List.any_eq_false.1 h.1 n hn;simpa using this
theorem HT:∀(k:Nat) (dir:Bool) (todo:List Str) (s:au),(∀n∈todo,n.length<=255)->s.name.length<=255->(onK l fol k dir todo s).1.name.length<=255
 |0,dir,todo,s,hn,hs=>oQ (λx d rest _=>by simp [gA]) todo s hn hs
 |k+1,dir,todo,s,hn,hs=>by
  refine oQ (λx d rest hr=> ?_) todo s hn hs;split
  ·simp [gA]
  ·rename_i hlp
   refine HT k _ _ _ (λn hn'=> ?_) (by simp);simp only[List.mem_append] at hn';rcases hn' with hn'|hn'
   ·exact xF (by simpa using hlp) n hn'
   ·exact hr n hn'
theorem Mk (f:Fs) (base p:Str) (fol:Bool):(ku f base p fol).1.name.length<=255:=by
 unfold ku;split
 ·simp [gA]
 ·split
  ·simp [gA]
  ·rename_i hlp
   have hn:=xF (p:=p) (by simpa using hlp);split
   ·exact HT 40 _ _ _ hn (by simp [dt])
   ·split
    ·exact HT 40 _ _ _ hn (by simp)
    ·simp [gA]
end
structure Ez (f:Fs):Prop where
 ws:WS f
 lil:Lil f
 nx: -1152921504606846976<=f.next/\f.next<=1152921504606846976
 lk:∀x∈f.aa, -1152921504606846976<=x.aH/\x.aH<=1152921504606846976
theorem XU (n:Int) (l:List Entry):ec n l<=l.length:=by
 have:=zZ (μ :=one n) (c:=1) (l:=l) (λx _=>by unfold one;split<;>omega);unfold ec;omega
theorem Z3 {n:Int} {l:List ao} (h:l.length<=10000) (he:∀x∈l,x.entries.length<=10000):fc n l<=100000000:=by
 have:=zZ (μ :=λx:ao=>ec n x.entries) (c:=10000) (l:=l) (λx hx=>by have:=XU n x.entries;have:=he x hx;omega);unfold fc;omega
section
variable {f:Fs} {base p d t:Str} {s:au} {k:Int}
theorem Tree.next' (h:Tree f):2<=f.next/\f.next<=1099511627776:=by
 obtain⟨r,hr,_⟩:=h.root;have h1:=(h.eN hr).2.2;have h2:=h.next;omega
theorem Ew.ez (e:Ew f):Ez f:=by
 have h1:=e.tr.next';refine⟨e.ws,e.lil,by omega,λx hx=> ?_⟩;have h2:=e.tr.aH x hx;have h3:=Mh x.ino f.aa;have h4:=Z3 (n:=x.ino) e.lil.len e.lil.dD;omega
theorem Ez.len (e:Ez f):f.aa.length<=1000000000:=by have:=e.lil.len;omega
theorem Ez.dD (e:Ez f) (k:Int):(aC k f.aa).entries.length<=1000000000:=by
 cases hf:ar k f.aa with
 |none=>rw[dW hf];simp [ky]
 |some x=>rw[aT hf];have:=e.lil.dD x (aQ hf).1;omega
theorem Ez.new (e:Ez f) (hn:s.name.length<=255) (hd:d.length<=1073741824):nJ f s k d=some (rv f s k d)/\kY f s k d=some (rv f s k d):=
 ⟨Bq e.ws.wf (by omega) hd e.len e.nx.1 e.nx.2 (e.dD _),uJ e.ws.wf (by omega) hd e.len e.nx.1 e.nx.2 (e.dD _)⟩
theorem Ez.put (e:Ez f) {r:Int} (hb:base.length<=8388608) (hp:p.length<=1073741823) (hd:d.length<=1073741824):wu f base p k d r=some (RI f base p k d r):=
 DH e.ws hb hp hd e.len e.nx.1 e.nx.2 (λx hx=>by have:=e.lil.dD x hx;omega) (by have:=Mk f base p false;omega)
theorem any_zero (t:Str):decide (Lib.indexByte t ((0:Int)).toNat.toUInt8>=(0:Int))=t.any (λb=>b==0):=by
 have e0:((0:Int)).toNat.toUInt8=(0:UInt8):=rfl;rw[e0];rcases nd 0 t with⟨h1,h2⟩ |⟨a,b,h1,h2,h3⟩
 ·rw[h2]
  have:t.any (λb=>b==0)=false:=by
   rw[List.any_eq_false];intro x hx;simpa using h1 x hx
  rw[this];rfl
 ·rw[h3,h1]
  simp
theorem qN {l:List Entry} {a:Entry} {n:Str}:cm n (fg a l)=if a.name=n then a.ino else cm n l:=by
 unfold cm;rw[sA];by_cases h:a.name=n<;>simp [h]
theorem kE {l:List Entry} {m n:Str}:cm n (cH m l)=if m=n then 0 else cm n l:=by
 unfold cm;rw[jD];by_cases h:m=n<;>simp [h]
structure qJ (f g:Fs) (d:ao) (nm:Str) (x:ao):Prop where
 find:∀k,ar k g.aa=if x.ino=k then some x else if d.ino=k then some (d.bO nm x.ino) else ar k f.aa
 hx:ar x.ino f.aa=none\/∃y,ar x.ino f.aa=some y/\y.kind=x.kind/\y.parent=x.parent/\y.data=x.data/\y.entries=x.entries
 ne:x.ino≠d.ino
variable {g:Fs} {dd x:ao} {nm:Str}
theorem qJ.ext (m:qJ f g dd nm x) (wf:WS f) (wg:WS g) (hf:je f dd nm):Ext f g dd.ino nm x:=by
 refine⟨wf,wg,λk a ha=> ?_, ?_,λy hy=> ?_,λy hy=> ?_, ?_⟩
 ·rw[m.find]
  by_cases h1:x.ino=k
  ·rw[if_pos h1]
   rcases m.hx with h|⟨y,hy,y1,y2,y3,y4⟩
   ·rw[h1,ha] at h;cases h
   ·rw[h1,ha] at hy;cases hy
    exact⟨x,rfl,by rw[(aQ ha).2,h1],y1,y2,λ_=>y3,λn=>Or.inr (by rw[y4])⟩
  ·rw[if_neg h1]
   by_cases h2:dd.ino=k
   ·rw[if_pos h2]
    have:=hf.hd;rw[h2,ha] at this;cases this;refine⟨_,rfl,rfl,rfl,rfl,λ_=>rfl,λn=> ?_⟩;by_cases hn:nm=n
    ·exact Or.inl ⟨h2.symm,hn.symm⟩
    ·right
     show cm n (fg ⟨nm,x.ino⟩ dd.entries)=_;rw[qN,if_neg hn]
   ·rw[if_neg h2]
    exact⟨a,ha,rfl,rfl,rfl,λ_=>rfl,λ_=>Or.inr rfl⟩
 ·rw[m.find,if_pos rfl]
 ·rw[hf.hd] at hy;cases hy
  unfold cm;rw[hf.h0]
 ·rw[m.find,if_neg m.ne,if_pos rfl] at hy
  cases hy;show cm nm (fg ⟨nm,x.ino⟩ dd.entries)=_;rw[qN,if_pos rfl]
 ·have:=wf.wf.pos dd (aQ hf.hd).1
  omega
end
def CR (k:Int) (d:Str):Prop:=k=1\/(k=2/\d= [])\/(k=3/\1<=d.length/\d.length<=4095/\d.any (λb=>b==0)=false)
section
variable {f:Fs} {base p d t:Str} {s:au} {k:Int}
theorem J4 (h:CR k d):ft (o9 f s k d)=true:=by
 rcases h with rfl|⟨rfl,rfl⟩ |⟨rfl,h1,h2,h3⟩
 ·rw[Cm rfl];simp [o9]
 ·rw[vg rfl];simp [o9,gG,lh]
 ·rw[BH rfl]
  show(true&&(decide ((0:Int)=0)&&(decide (1<=d.length/\d.length<=4095)&& !(d.any (λb=>b==0)))))=true;rw[h3,decide_eq_true (show 1<=d.length/\d.length<=4095 from⟨h1,h2⟩)];rfl
theorem rY {fol:Bool} (ht:Tree f) (hw:WF f) (h:Gd f fol s) (h0:s.ino=0) (hm:eP s.name=true):je f (aC s.dir f.aa) s.name/\(aC s.dir f.aa).ino=s.dir:=by
 rcases h with⟨_,_,d,hd,_⟩ |⟨_,d,hd,hk,hi,_⟩
 ·rw[h0,hw.zero] at hd;cases hd
 ·have h2:=(aQ hd).2
  rw[aT hd];exact⟨⟨by rw[h2];exact hd,hk,hm,JC (ht.eN hd).2.2.2.2.2 (by rw[<-hi];exact h0)⟩,h2⟩
theorem zI (ht:Tree f):ar f.next f.aa=none:=by
 cases hf:ar f.next f.aa with
 |none=>rfl
 |some x=>have:=(ht.eN hf).2.2.2.1;omega
theorem MK (h:(rv f s k d).2≠0):(rv f s k d).1=f:=by
 unfold rv at h⊢;by_cases h1:eP s.name=true
 ·rw[if_pos h1] at h⊢
  by_cases h2:cy f 1 (if k=1 then (d.length:Int) else 0)=true
  ·rw[if_pos h2] at h;exact absurd rfl h
  ·rw[if_neg h2]
 ·rw[if_neg h1]
theorem Ni (h:(rv f s k d).2=0):rv f s k d=(qI f s k d,0)/\eP s.name=true/\cy f 1 (if k=1 then (d.length:Int) else 0)=true:=by
 unfold rv at h⊢;by_cases h1:eP s.name=true
 ·rw[if_pos h1] at h⊢
  by_cases h2:cy f 1 (if k=1 then (d.length:Int) else 0)=true
  ·rw[if_pos h2] at h⊢;exact⟨rfl,h1,h2⟩
  ·rw[if_neg h2] at h;simp at h
 ·rw[if_neg h1] at h;simp at h
structure Made (f:Fs) (n:Nat) (s:au) (k:Int) (d:Str) (g:Fs):Prop where
 tr:Tree g
 bd:Bd (n+1) g
 len:g.aa.length=f.aa.length+1
 free:je f (aC s.dir f.aa) s.name
 ino:(aC s.dir f.aa).ino=s.dir
 more:qJ f g (aC s.dir f.aa) s.name (o9 f s k d)
 next:g.next=f.next+1
 max:g.ay=f.ay/\g.aB=f.aB
theorem LG {n:Nat} (ht:Tree f) (hb:Bd n f) (hf:je f (aC s.dir f.aa) s.name) (hs:(aC s.dir f.aa).ino=s.dir) (hk:CR k d) (hd:d.length<=10000000) (hnx:f.next<1099511627776) (hfit:cy f 1 (if k=1 then (d.length:Int) else 0)=true):Made f n s k d (qI f s k d):=by
 have hx:=zI ht;have hne:f.next≠(aC s.dir f.aa).ino:=λe=>by rw[e,hf.hd] at hx;cases hx
 have h2:=ht.next';have hbyt:byt (o9 f s k d)=if k=1 then (d.length:Int) else 0:=rfl
 have htr:Tree (qI f s k d):=IU (x:=o9 f s k d) (nx:=f.next+1) ht hf hx (by show 1<=f.next;omega) (by show f.next<f.next+1;omega) (by omega) (by omega) (J4 hk) rfl rfl (λh=>by show(if k=2 then s.dir else 0)=_;rw[if_pos (show k=2 from h),hs]) (by rw[hbyt];exact hfit);have hlen:=(ry (x:=o9 f s k d) ht hf hx).1;refine⟨htr,⟨?_,λx hx'=> ?_,λx hx'=> ?_⟩,hlen,hf,hs,⟨λj=>pG j,Or.inl hx,hne⟩,rfl,rfl,rfl⟩
 ·have:=hb.len
  have h3:(qI f s k d).aa.length=f.aa.length+1:=hlen;omega
 ·have h3:x∈bB (o9 f s k d) (bB ((aC s.dir f.aa).bO s.name f.next) f.aa):=hx'
  rcases dj.1 h3 with rfl|⟨h3,_⟩
  ·simp [o9]
  ·rcases dj.1 h3 with rfl|⟨h3,_⟩
   ·have h4:=rJ ⟨s.name,f.next⟩ (aC s.dir f.aa).entries
    have h5:=(hb.get s.dir).1;show(fg ⟨s.name,f.next⟩ (aC s.dir f.aa).entries).length<=_;omega
   ·have:=hb.dD x h3;omega
 ·have h3:x∈bB (o9 f s k d) (bB ((aC s.dir f.aa).bO s.name f.next) f.aa):=hx'
  rcases dj.1 h3 with rfl|⟨h3,_⟩
  ·exact hd
  ·rcases dj.1 h3 with rfl|⟨h3,_⟩
   ·exact(hb.get s.dir).2
   ·exact hb.data x h3
theorem Ez.inf (e:Ez f):InF f:=⟨by have:=e.lil.len;omega,λx hx=>by have:=e.lil.dD x hx;omega⟩
theorem InF.same (h:InF f) (g:Fs):kR f g=some (decide (f=g)):=om h.len h.dD
end
def od (f:Fs) (s:au) (i:Int):Fs:=
 (f.set ((aC s.dir f.aa).bO s.name i)).set ((aC i (f.set ((aC s.dir f.aa).bO s.name i)).aa).cL ((aC i (f.set ((aC s.dir f.aa).bO s.name i)).aa).aH+1))
def tU (f:Fs) (s:au) (i:Int):Fs:=(f.set ((aC s.dir f.aa).bO s.name i)).set ((aC i f.aa).cL ((aC i f.aa).aH+1))
def dF (f:Fs) (s:au):Fs:=
 if (aC s.ino (f.set ((aC s.dir f.aa).b6 s.name)).aa).aH - 1=0 then (f.set ((aC s.dir f.aa).b6 s.name)).drop (aC s.ino (f.set ((aC s.dir f.aa).b6 s.name)).aa).ino
 else (f.set ((aC s.dir f.aa).b6 s.name)).set ((aC s.ino (f.set ((aC s.dir f.aa).b6 s.name)).aa).cL ((aC s.ino (f.set ((aC s.dir f.aa).b6 s.name)).aa).aH - 1))
def pc (f:Fs) (s:au):Fs:=
 if (aC s.ino f.aa).aH - 1=0 then (f.set ((aC s.dir f.aa).b6 s.name)).drop s.ino
 else (f.set ((aC s.dir f.aa).b6 s.name)).set ((aC s.ino f.aa).cL ((aC s.ino f.aa).aH - 1))
section
variable {f g:Fs} {base p q nm:Str} {s:au} {i:Int} {d x:ao} {e:Entry}
theorem lP {l:List ao} {y:ao} {k:Int}:aC k (bB y l)=if y.ino=k then y else aC k l:=by
 unfold aC;rw[bA];split<;>rfl
theorem Ez.aH (z:Ez f) (k:Int): -1152921504606846976<=(aC k f.aa).aH/\(aC k f.aa).aH<=1152921504606846976:=by
 cases hf:ar k f.aa with
 |none=>rw[dW hf];simp [ky]
 |some x=>rw[aT hf];exact z.lk x (aQ hf).1
theorem Ez.LF (z:Ez f) {y:ao} (hy:y.aH=(aC s.dir f.aa).aH) (k:Int): -1152921504606846976<=(aC k (f.set y).aa).aH/\(aC k (f.set y).aa).aH<=1152921504606846976:=by
 have e:aC k (f.set y).aa=if y.ino=k then y else aC k f.aa:=lP
 rw[e];split
 ·rw[hy];exact z.aH _
 ·exact z.aH k
theorem mJ (z:Ez f):dM f s i=some (od f s i):=by
 have h1:=z.dD s.dir;have h2:=z.len;have h3:= @lI f ((aC s.dir f.aa).bO s.name i);have h4:=z.LF (s:=s) (y:=(aC s.dir f.aa).bO s.name i) rfl i;have hs:=eL z.ws.wf.sort ((aC s.dir f.aa).bO s.name i);unfold dM od;rw[z.ws.wf.get,ae,oy (ue z.ws.wf _) (by omega),ae];have e1:(⟨(aC s.dir f.aa).ino,(aC s.dir f.aa).kind,(aC s.dir f.aa).aH,(aC s.dir f.aa).data,(aC s.dir f.aa).parent,fg ⟨s.name,i⟩ (aC s.dir f.aa).entries⟩:ao)=(aC s.dir f.aa).bO s.name i:=rfl;simp only;rw[e1,cJ z.ws.wf.sort (by omega),ae,dq hs (by omega),ae];simp only;rw[bN (by omega) (by omega),cJ hs (by omega),ae];rfl
theorem jo (z:Ez f):jw f s i=some (tU f s i):=by
 have h1:=z.dD s.dir;have h2:=z.len;have h3:= @lI f ((aC s.dir f.aa).bO s.name i);have h4:=z.aH i;unfold jw tU;rw[z.ws.wf.vZ,ae,z.ws.wf.vZ,ae,oK (by simp only;omega),ae];have e1:(⟨(aC s.dir f.aa).ino,(aC s.dir f.aa).kind,(aC s.dir f.aa).aH,(aC s.dir f.aa).data,(aC s.dir f.aa).parent,fg ⟨s.name,i⟩ (aC s.dir f.aa).entries⟩:ao)=(aC s.dir f.aa).bO s.name i:=rfl;simp only;rw[e1,cf (by omega),ae,bN (by omega) (by omega),cf (by omega),ae];rfl
theorem nI (z:Ez f):gE f s=some (dF f s):=by
 have h1:=z.dD s.dir;have h2:=z.len;have h3:= @lI f ((aC s.dir f.aa).b6 s.name);have h4:=z.LF (s:=s) (y:=(aC s.dir f.aa).b6 s.name) rfl s.ino;have hs:=eL z.ws.wf.sort ((aC s.dir f.aa).b6 s.name);unfold gE dF;rw[z.ws.wf.get,ae,oR (ue z.ws.wf _) (by omega),ae];have e1:(⟨(aC s.dir f.aa).ino,(aC s.dir f.aa).kind,(aC s.dir f.aa).aH,(aC s.dir f.aa).data,(aC s.dir f.aa).parent,cH s.name (aC s.dir f.aa).entries⟩:ao)=(aC s.dir f.aa).b6 s.name:=rfl;simp only;rw[e1,cJ z.ws.wf.sort (by omega),ae,dq hs (by omega),ae];simp only;rw[bN (by omega) (by omega),eh,A6 hs (by omega),cJ hs (by omega),ae,ae];by_cases h:(aC s.ino (f.set ((aC s.dir f.aa).b6 s.name)).aa).aH - 1=0
 ·rw[aJ (by simp [h]),if_pos h]
 ·rw[aU (by simp [h]),if_neg h];rfl
theorem mg (z:Ez f):iQ f s=some (pc f s):=by
 have h1:=z.dD s.dir;have h2:=z.len;have h3:= @lI f ((aC s.dir f.aa).b6 s.name);have h4:=z.aH s.ino;unfold iQ pc;rw[z.ws.wf.vZ,ae,z.ws.wf.vZ,ae,lg (by simp only;omega),ae];have e1:(⟨(aC s.dir f.aa).ino,(aC s.dir f.aa).kind,(aC s.dir f.aa).aH,(aC s.dir f.aa).data,(aC s.dir f.aa).parent,cH s.name (aC s.dir f.aa).entries⟩:ao)=(aC s.dir f.aa).b6 s.name:=rfl;simp only;rw[e1,cf (by omega),ae,bN (by omega) (by omega),eh,ou (by omega),cf (by omega),ae,ae];by_cases h:(aC s.ino f.aa).aH - 1=0
 ·rw[aJ (by simp [h]),if_pos h]
 ·rw[aU (by simp [h]),if_neg h];rfl
theorem rE (hf:je f (aC s.dir f.aa) s.name) (hx:ar i f.aa=some x) (hk:x.kind≠2):od f s i=ig f (aC s.dir f.aa) s.name x/\tU f s i=ig f (aC s.dir f.aa) s.name x/\x.ino≠(aC s.dir f.aa).ino:=by
 have hi:=(aQ hx).2;have hne:x.ino≠(aC s.dir f.aa).ino:=λe=>by
  have:=hf.hd;rw[<-e,hi,hx] at this;have h2:=Option.some.inj this;exact hk (by rw[h2];exact hf.hk)
 have h1:aC i (f.set ((aC s.dir f.aa).bO s.name i)).aa=x:=by
  show aC i (bB _ f.aa)=x;rw[lP,if_neg (λe=>hne (by rw[hi];exact e.symm)),aT hx]
 refine⟨?_, ?_,hne⟩
 ·unfold od ig
  rw[h1,hi]
 ·unfold tU ig
  rw[aT hx,hi]
theorem Df (h:Ent f (aC s.dir f.aa) s.name x e) (ht:Tree f) (hi:x.ino=s.ino):dF f s=dE f (aC s.dir f.aa) s.name x/\pc f s=dE f (aC s.dir f.aa) s.name x:=by
 have hne:=h.ne ht;have hx:ar s.ino f.aa=some x:=by rw[<-hi];exact h.hx
 have h1:aC s.ino (f.set ((aC s.dir f.aa).b6 s.name)).aa=x:=by
  show aC s.ino (bB _ f.aa)=x;rw[lP,if_neg (λe=>hne (by rw[hi];exact e.symm)),aT hx]
 constructor
 ·unfold dF dE
  rw[h1];by_cases hl:x.aH=1
  ·rw[if_pos (by omega),if_pos hl]
  ·rw[if_neg (by omega),if_neg hl]
 ·unfold pc dE
  rw[aT hx,<-hi];by_cases hl:x.aH=1
  ·rw[if_pos (by omega),if_pos hl]
  ·rw[if_neg (by omega),if_neg hl]
theorem wC (hx:ar x.ino f.aa=some x) (hxd:x.ino≠d.ino):qJ f (ig f d nm x) d nm (x.cL (x.aH+1)):=
 ⟨λk=>pf hxd k,Or.inr ⟨x,hx,rfl,rfl,rfl,rfl⟩,hxd⟩
theorem rW {l:List Entry} (hs:gU l) {a:Entry} {n:Str} (h:cM n l=some a):fg ⟨n,a.ino⟩ (cH n l)=l:=by
 refine fU loS (pn loS (eJ hs)) hs λk=> ?_
 show cM k (fg _ (cH n l))=cM k l;rw[sA,jD];by_cases hk:n=k
 ·rw[if_pos hk,<-hk,h]
  have:=(iC h).2;rw[<-this]
 ·rw[if_neg hk,if_neg hk]
theorem sB {l:List Entry} (hs:gU l) {n:Str} {i:Int} (h:cM n l=none):cH n (fg ⟨n,i⟩ l)=l:=by
 refine fU loS (eJ (pn loS hs)) hs λk=> ?_
 show cM k (cH n (fg _ l))=cM k l;rw[jD,sA];by_cases hk:n=k
 ·rw[if_pos hk,<-hk,h]
 ·rw[if_neg hk,if_neg hk]
theorem BT (h:Ent f d nm x e) (ht:Tree f):qJ (dE f d nm x) f (d.b6 nm) nm x/\je (dE f d nm x) (d.b6 nm) nm:=by
 have hne:=h.ne ht;have hs:=(ht.eN h.hd).2.2.2.2;have hd2:(d.b6 nm).bO nm x.ino=d:=by
  show ao.mk d.ino d.kind d.aH d.data d.parent (fg ⟨nm,x.ino⟩ (cH nm d.entries))=d;rw[<-h.hn,rW hs.1 h.he]
 refine⟨⟨λk=> ?_, ?_,hne⟩,⟨?_,h.kind ht, ?_, ?_⟩⟩
 ·rw[hd2,cZ hne]
  show _=if x.ino=k then some x else if d.ino=k then some d else _
  by_cases h1:x.ino=k
  ·rw[if_pos h1,<-h1,h.hx]
  ·rw[if_neg h1,if_neg h1]
   by_cases h2:d.ino=k
   ·rw[if_pos h2,<-h2,h.hd]
   ·rw[if_neg h2,if_neg h2]
 ·rw[cZ hne,if_pos rfl]
  by_cases hl:x.aH=1
  ·rw[if_pos hl];exact Or.inl rfl
  ·rw[if_neg hl];exact Or.inr ⟨_,rfl,rfl,rfl,rfl,rfl⟩
 ·show ar d.ino _=_
  rw[cZ hne,if_neg hne,if_pos rfl]
 ·have h3:=((iK d.entries).1 hs.2).2 e h.mem.1
  rw[<-h.mem.2];exact h3.1
 ·show cM nm (cH nm d.entries)=none
  rw[jD,if_pos rfl]
theorem wa {a b:Fs} (h1:a.ay=b.ay) (h2:a.aB=b.aB) (h3:a.next=b.next) (ha:ct a.aa) (hb:ct b.aa) (h:∀k,ar k a.aa=ar k b.aa):a=b:=by
 have h4:a.aa=b.aa:=fU loI ha hb h;cases a;cases b;simp only at h1 h2 h3 h4;subst h1;subst h2;subst h3;subst h4;rfl
theorem Cf (h:ct f.aa):ct (ig f d nm x).aa:=eL (eL h _) _
theorem Cc (h:ct f.aa) (k:Int):ct (f.drop k).aa:=eJ h
theorem sj (h:ct f.aa):ct (dE f d nm x).aa:=by
 unfold dE;split
 ·exact Cc (eL h _) _
 ·exact eL (eL h _) _
theorem np:(dE f d nm x).ay=f.ay/\(dE f d nm x).aB=f.aB/\(dE f d nm x).next=f.next:=by
 unfold dE;split<;>exact⟨rfl,rfl,rfl⟩
theorem J5 (ht:Tree f) (hf:je f d nm) (hx:ar x.ino f.aa=some x) (hxd:x.ino≠d.ino) (hl:x.aH≠0):dE (ig f d nm x) (d.bO nm x.ino) nm (x.cL (x.aH+1))=f:=by
 have hs:=(ht.eN hf.hd).2.2.2.2.1;have hm:=np (f:=ig f d nm x) (d:=d.bO nm x.ino) (x:=x.cL (x.aH+1)) (nm:=nm);refine wa hm.1 hm.2.1 hm.2.2 (sj (Cf ht.sort)) ht.sort λk=> ?_
 rw[cZ (show(x.cL (x.aH+1)).ino≠(d.bO nm x.ino).ino from hxd)];show(if x.ino=k then (if x.aH+1=1 then none else some ((x.cL (x.aH+1)).cL (x.aH+1 - 1))) else if d.ino=k then some ((d.bO nm x.ino).b6 nm) else ar k (ig f d nm x).aa)=_;by_cases h1:x.ino=k
 ·rw[if_pos h1,if_neg (by omega),<-h1,hx]
  have:x.aH+1 - 1=x.aH:=by omega
  rw[this];rfl
 ·rw[if_neg h1,pf hxd,if_neg h1]
  by_cases h2:d.ino=k
  ·rw[if_pos h2,<-h2,hf.hd]
   show some (ao.mk d.ino d.kind d.aH d.data d.parent (cH nm (fg ⟨nm,x.ino⟩ d.entries)))=some d;rw[sB hs hf.h0]
  ·rw[if_neg h2,if_neg h2]
theorem B0 (ht:Tree f) {k:Int} (hx:ar k f.aa=some x) (h1:k≠1):1<=x.aH:=by
 have h2:=aQ hx;rw[(ht.eN hx).2.1];obtain⟨y,hy,e,he,hn⟩:=(ht.uM hx).named h1;exact zq hy he hn
theorem Md (ht:Tree f) {k:Int} (hx:ar k f.aa=some x) (hk:x.kind≠2):k≠1:=λe=>by
 obtain⟨r,hr,hr2,_⟩:=ht.root;rw[e,hr] at hx;cases hx;exact hk hr2
theorem vI {fol:Bool} (ht:Tree f) (w:WF f) (h:Gd f fol s) (hn:s.name≠ []) (hx:ar s.ino f.aa=some x):∃e,Ent f (aC s.dir f.aa) s.name x e/\(aC s.dir f.aa).ino=s.dir/\x.ino=s.ino:=by
 have hi:=(aQ hx).2;rcases h with⟨h1,_⟩ |⟨_,d,hd,hk,hino,_⟩
 ·exact absurd h1 hn
 ·have h2:=(aQ hd).2
  rw[aT hd];have h0:cm s.name d.entries≠0:=λe=>by rw[hino,e,w.zero] at hx;cases hx
  obtain⟨e,he,_,_,he2⟩:=sx h0;exact⟨e,⟨by rw[h2];exact hd,he,by rw[he2,<-hino,hi],by rw[hi];exact hx⟩,h2,hi⟩
theorem Bd.ig {n:Nat} (hb:Bd n f) (ht:Tree f) (hf:je f d nm) (hx:ar x.ino f.aa=some x):Bd (n+1) (ig f d nm x):=by
 have h1:Bd (n+1) (f.set (d.bO nm x.ino)):=hb.put (z:=d) ht.sort hf.hd (by omega) (by have:=rJ ⟨nm,x.ino⟩ d.entries;have:=(hb.find hf.hd).1;show(fg ⟨nm,x.ino⟩ d.entries).length<=_;omega) (hb.find hf.hd).2;have h2:∃z,ar (x.cL (x.aH+1)).ino (f.set (d.bO nm x.ino)).aa=some z:=by
  show∃z,ar x.ino (bB _ f.aa)=some z;rw[bA];split
  ·exact⟨_,rfl⟩
  ·exact⟨_,hx⟩
 obtain⟨z,hz⟩:=h2;exact h1.put (eL ht.sort _) hz (Nat.le_refl _) (by have:=(hb.find hx).1;show x.entries.length<=_;omega) (hb.find hx).2
theorem Bd.dE {n:Nat} (hb:Bd n f) (ht:Tree f) (h:Ent f d nm x e):Bd n (dE f d nm x):=by
 have h1:Bd n (f.set (d.b6 nm)):=hb.put (z:=d) ht.sort h.hd (Nat.le_refl _) (by have:=r5 nm d.entries;have:=(hb.find h.hd).1;show(cH nm d.entries).length<=_;omega) (hb.find h.hd).2;unfold Go.Eng.dE;split
 ·exact h1.drop
 ·have h2:∃z,ar (x.cL (x.aH - 1)).ino (f.set (d.b6 nm)).aa=some z:=by
   show∃z,ar x.ino (bB _ f.aa)=some z;rw[bA];split
   ·exact⟨_,rfl⟩
   ·exact⟨_,h.hx⟩
  obtain⟨z,hz⟩:=h2;exact h1.put (eL ht.sort _) hz (Nat.le_refl _) (hb.find h.hx).1 (hb.find h.hx).2
end
section
variable {f g:Fs} {base p q nm:Str} {s:au} {i:Int} {d x:ao} {e:Entry}
structure amE (f:Fs) (n:Nat) (base p q:Str) (s:au) (x:ao) (g:Fs):Prop where
 tr:Tree g
 bd:Bd (n+1) g
 sp:(ku f base p false).2=0
 hx:ar (ku f base p false).1.ino f.aa=some x
 hxx:ar x.ino f.aa=some x
 hk:x.kind≠2
 sq:ku f base q false=(s,0)
 s0:s.ino=0
 ik:(eB q).ik=false
 free:je f (aC s.dir f.aa) s.name
 ino:(aC s.dir f.aa).ino=s.dir
 ne:x.ino≠(aC s.dir f.aa).ino
 eq:g=ig f (aC s.dir f.aa) s.name x
 more:qJ f g (aC s.dir f.aa) s.name (x.cL (x.aH+1))
 len:g.aa.length=f.aa.length
structure zw (f:Fs) (n:Nat) (s:au) (x:ao) (e:Entry) (g:Fs):Prop where
 tr:Tree g
 bd:Bd n g
 ent:Ent f (aC s.dir f.aa) s.name x e
 JZ:(aC s.dir f.aa).ino=s.dir
 Tf:x.ino=s.ino
 xe:x.entries= []
 eq:g=dE f (aC s.dir f.aa) s.name x
 more:qJ g f ((aC s.dir f.aa).b6 s.name) s.name x
 free:je g ((aC s.dir f.aa).b6 s.name) s.name
theorem taken {n:Nat} {fol:Bool} (ht:Tree f) (hb:Bd n f) (hn:n<=9000) (hg:Gd f fol s) (h1:s.name≠ []) (hx:ar s.ino f.aa=some x) (hx0:x.entries= []):∃e,zw f n s x e (dF f s)/\pc f s=dF f s:=by
 have ee:=ja ht hb (by omega);obtain⟨e,he,hd,hi⟩:=vI ht ee.wf hg h1 hx;obtain⟨q1,q2⟩:=Df he ht hi;obtain⟨m1,m2⟩:=BT he ht;refine⟨e,⟨?_, ?_,he,hd,hi,hx0,q1, ?_, ?_⟩,by rw[q1,q2]⟩
 ·rw[q1];exact ID ht he hx0
 ·rw[q1];exact hb.dE ht he
 ·rw[q1];exact m1
 ·rw[q1];exact m2
theorem Bd.inf {n:Nat} (hb:Bd n f) (hn:n<=10000):InF f:=⟨by have:=hb.len;omega,λx hx=>by have:=hb.dD x hx;omega⟩
end
end Go.Eng
namespace Go.Eng
open Go
section
variable {f g:Fs}
theorem Way.last {l:List ao} {i k:Int} {n:Nat} (h:Way l i k n):(n=0/\k=i)\/∃j m x e,n=m+1/\Way l i j m/\ar j l=some x/\e∈x.entries/\e.ino=k:=by
 cases h with
 |here=>exact Or.inl ⟨rfl,rfl⟩
 |step h hf he=>exact Or.inr ⟨_,_,_,_,rfl,h,hf,he,rfl⟩
def mvB (un:Fs->au->Fs) (f:Fs) (b:au):Fs:=if b.ino≠0 then un f b else f
def mv3 (f:Fs) (a b:au):Fs:=(f.set ((aC a.dir f.aa).b6 a.name)).set ((aC b.dir (f.set ((aC a.dir f.aa).b6 a.name)).aa).bO b.name a.ino)
def mvE (f:Fs) (a b:au):Fs:=f.set (if (aC a.ino f.aa).kind=2 then (aC a.ino f.aa).gB b.dir else aC a.ino f.aa)
def MF (f:Fs) (a b:au):Fs:=if (aC a.ino f.aa).kind=2 then f.set ((aC a.ino f.aa).gB b.dir) else f
def ij (f:Fs) (a b:au):Fs:=mvE (mv3 (mvB dF f b) a b) a b
def vL (f:Fs) (a b:au):Fs:=MF (mv3 (mvB pc f b) a b) a b
variable {d1 d2 x y:ao} {a b:au} {e e2:Entry} {nm:Str}
theorem N1 (ht:Tree f) (hm:Mv f (aC a.dir f.aa) a.name (aC b.dir f.aa) b.name x e) (ha:(aC a.dir f.aa).ino=a.dir) (hb:(aC b.dir f.aa).ino=b.dir) (hx:x.ino=a.ino):
 mvE (mv3 f a b) a b=mvF f (aC a.dir f.aa) a.name (aC b.dir f.aa) b.name x/\MF (mv3 f a b) a b=mvF f (aC a.dir f.aa) a.name (aC b.dir f.aa) b.name x:=by
 have hd:aC b.dir (f.set ((aC a.dir f.aa).b6 a.name)).aa=mvD (aC a.dir f.aa) (aC b.dir f.aa) a.name:=by
  show aC b.dir (bB _ f.aa)=_;rw[lP];unfold mvD;show(if (aC a.dir f.aa).ino=b.dir then _ else _)=_;rw[hb]
 have h3:mv3 f a b=(f.set ((aC a.dir f.aa).b6 a.name)).set ((mvD (aC a.dir f.aa) (aC b.dir f.aa) a.name).bO b.name x.ino):=by
  unfold mv3;rw[hd,hx]
 have hne:=hm.ent.ne ht;have hne2:=hm.ne2;have hxf:ar a.ino (mv3 f a b).aa=some x:=by
  rw[h3];show ar a.ino (bB _ (bB _ f.aa))=some x;rw[bA,bA];show(if (mvD _ _ _).ino=a.ino then _ else if (aC a.dir f.aa).ino=a.ino then _ else _)=_;rw[qk,if_neg (λh=>hne2 (by rw[hx];exact h.symm)),if_neg (λh=>hne (by rw[hx];exact h.symm)),<-hx];exact hm.ent.hx
 have hs:ct (mv3 f a b).aa:=by rw[h3];exact eL (eL ht.sort _) _
 unfold mvE MF mvF;rw[aT hxf,hb,<-h3];by_cases hk:x.kind=2
 ·simp only[if_pos hk]
  exact⟨trivial,trivial⟩
 ·simp only[if_neg hk]
  exact⟨E7 hs (by rw[hx];exact hxf),trivial⟩
theorem Way.mono {l m:List ao} (h:∀k x,ar k m=some x->∀e∈x.entries,∃y,ar k l=some y/\e∈y.entries) {i k:Int} {n:Nat} (hw:Way m i k n):Way l i k n:=by
 induction hw with
 |here=>exact .here
 |step hw hf he ih=>
  obtain⟨y,hy,he'⟩:=h _ _ hf _ he;exact .step ih hy he'
theorem L5 (h:Ent f d1 nm x e) (ht:Tree f):∀k z,ar k (dE f d1 nm x).aa=some z->∀e'∈z.entries,∃y,ar k f.aa=some y/\e'∈y.entries:=by
 intro k z hz e' he';rw[cZ (h.ne ht)] at hz;by_cases h1:x.ino=k
 ·rw[if_pos h1] at hz
  by_cases hl:x.aH=1
  ·rw[if_pos hl] at hz;cases hz
  ·rw[if_neg hl] at hz;cases hz
   exact⟨x,by rw[<-h1];exact h.hx,he'⟩
 ·rw[if_neg h1] at hz
  by_cases h2:d1.ino=k
  ·rw[if_pos h2] at hz;cases hz
   exact⟨d1,by rw[<-h2];exact h.hd,(wD.1 he').1⟩
  ·rw[if_neg h2] at hz
   exact⟨z,hz,he'⟩
end
end Go.Eng
namespace Go.Eng
open Go
section
variable {f g:Fs} {d1 d2 x y:ao} {a b s t:au} {e e2:Entry}
structure yL (f:Fs) (a b:au) (x:ao):Prop where
 ga:Gd f false a
 an:a.name≠ []
 hx:ar a.ino f.aa=some x
 gb:Gd f false b
 bn:b.name≠ []
 ne:a.ino≠b.ino
 out:x.kind=2->¬∃n,Way f.aa a.ino b.dir n
 emp:∀y,ar b.ino f.aa=some y->y.entries= []
 may:b.ino=0->eP b.name=true
structure RE (f:Fs) (a b:au) (x:ao) (n:Nat) (f1:Fs) (e:Entry):Prop where
 tr:Tree f1
 bd:Bd n f1
 mv:Mv f1 (aC a.dir f1.aa) a.name (aC b.dir f1.aa) b.name x e
 ha:(aC a.dir f1.aa).ino=a.dir
 hb:(aC b.dir f1.aa).ino=b.dir
 hx:x.ino=a.ino
 sub:∀k z,ar k f1.aa=some z->∀e∈z.entries,∃y,ar k f.aa=some y/\e∈y.entries
 find:∀k z,ar k f.aa=some z->k≠b.ino->∃z',ar k f1.aa=some z'/\z'.kind=z.kind/\∀n,(k=b.dir/\n=b.name)\/cm n z'.entries=cm n z.entries
 ent:∀k,k≠b.dir->k≠b.ino->(ar k f1.aa).map ao.entries=(ar k f.aa).map ao.entries
 len:f1.aa.length<=f.aa.length/\f.aa.length<=f1.aa.length+1
 gone:ar b.ino f1.aa=none\/(ar b.ino f1.aa).map ao.entries=some []
 ao6:ar b.ino f1.aa=none->b.ino=0\/fc b.ino f.aa<=1
theorem CN {fol:Bool} (h:Gd f fol s) (hn:s.name≠ []):∃d,ar s.dir f.aa=some d/\d.kind=2/\s.ino=cm s.name d.entries/\aC s.dir f.aa=d/\d.ino=s.dir:=by
 rcases h with⟨h,_⟩ |⟨_,d,h1,h2,h3,_⟩
 ·exact absurd h hn
 ·exact⟨d,h1,h2,h3,aT h1,(aQ h1).2⟩
theorem UD {n:Nat} (ht:Tree f) (hb:Bd n f) (hn:n<=9000) (h:yL f a b x):∃e,RE f a b x n (mvB dF f b) e/\mvB pc f b=mvB dF f b:=by
 have ew:=ja ht hb (by omega);obtain⟨d1,a1,a2,a3,a4,a5⟩:=CN h.ga h.an;obtain⟨d2,b1,b2,b3,b4,b5⟩:=CN h.gb h.bn;obtain⟨e,he,_,hxi⟩:=vI ht ew.wf h.ga h.an h.hx;rw[a4] at he;have hx0:x.kind≠2->x.entries= [] :=λhk=>ht.CS h.hx hk
 have hnw:∀l,(∀z,ar a.ino l=some z->z=x)->x.kind≠2->¬∃n,Way l a.ino b.dir n:=by
  intro l hl hk ⟨m,hm⟩;rcases hm.head with⟨_,h1⟩ |⟨_,z,e',_,hz,he',_⟩
  ·rw[h1,h.hx] at b1;cases b1;exact hk b2
  ·rw[hl z hz,hx0 hk] at he';cases he'
 unfold mvB;by_cases h0:b.ino=0
 ·rw[if_neg (λh=>h h0),if_neg (λh=>h h0)]
  obtain⟨hf,hfb⟩:=rY ht ew.wf h.gb h0 (h.may h0);refine⟨e,⟨ht,hb,⟨by rw[a4];exact he,hf, ?_⟩,by rw[a4,a5],hfb,hxi,λk z hz e he=>⟨z,hz,he⟩,λk z hz _=>⟨z,hz,rfl,λ_=>Or.inr rfl⟩,λk _ _=>rfl,⟨Nat.le_refl _,by omega⟩,Or.inl (by rw[h0];exact ew.wf.zero),λ_=>Or.inl h0⟩,rfl⟩;rw[hxi,b4,b5];by_cases hk:x.kind=2
  ·exact h.out hk
  ·exact hnw f.aa (λz hz=>by rw[h.hx] at hz;exact(Option.some.inj hz).symm) hk
 ·rw[if_pos h0,if_pos h0]
  have hy:∃y,ar b.ino f.aa=some y:=by
   have h1:=nr ew.wf (aQ b1).1 b.name;rw[<-b3] at h1;exact Option.isSome_iff_exists.1 (h1.resolve_left h0)
  obtain⟨y,hy⟩:=hy;have hy0:=h.emp y hy;obtain⟨e2,t,t2⟩:=taken ht hb hn h.gb h.bn hy hy0;refine⟨e, ?_,t2⟩;have teq:=t.eq;rw[b4] at teq;have te:=t.ent;rw[b4] at te;have hyi:=t.Tf;have hyne:=te.ne ht;have hfind:=λk=>cZ (f:=f) (d:=d2) (nm:=b.name) (x:=y) hyne k
  rw[<-teq] at hfind;have hnm:¬(a.dir=b.dir/\a.name=b.name):=λ⟨e1,e3⟩=>by
   rw[e1,b1] at a1;cases a1;exact h.ne (by rw[a3,b3,e3])
  have hya:y.ino≠a.dir:=λe1=>by
   have h1:=hy;rw[<-hyi,e1,a1] at h1;cases h1;have:=he.mem.1;rw[hy0] at this;cases this
  have hxy:y.ino≠a.ino:=λe1=>h.ne (by rw[<-e1,hyi])
  have hxd:d2.ino≠a.ino:=λe1=>by
   have h1:=b1;rw[<-b5,e1,h.hx] at h1;cases h1;exact h.out b2 ⟨0,by rw[<-b5,e1];exact .here⟩
  have hg1:ar a.dir (dF f b).aa=some (if d2.ino=a.dir then d2.b6 b.name else d1):=by
   rw[hfind,if_neg hya];by_cases h1:d2.ino=a.dir
   ·rw[if_pos h1,if_pos h1]
   ·rw[if_neg h1,if_neg h1];exact a1
  have hg2:ar b.dir (dF f b).aa=some (d2.b6 b.name):=by
   rw[hfind,if_neg (by rw[<-b5];exact hyne),if_pos b5]
  have hgx:ar a.ino (dF f b).aa=some x:=by
   rw[hfind,if_neg hxy,if_neg hxd];exact h.hx
  have hent:Ent (dF f b) (aC a.dir (dF f b).aa) a.name x e:=by
   rw[aT hg1];by_cases h1:d2.ino=a.dir
   ·rw[if_pos h1] at hg1⊢
    have h2:d1=d2:=by
     have h3:=a1;rw[<-h1,b5,b1] at h3;exact(Option.some.inj h3).symm
    subst h2;refine⟨?_, ?_,he.hn,by rw[hxi];exact hgx⟩
    ·show ar d1.ino _=_
     rw[h1];exact hg1
    ·show cM a.name (cH b.name d1.entries)=_
     rw[jD,if_neg (λe3=>hnm ⟨by rw[<-h1,b5],e3.symm⟩)];exact he.he
   ·rw[if_neg h1] at hg1⊢
    exact⟨by rw[a5];exact hg1,he.he,he.hn,by rw[hxi];exact hgx⟩
  have hfree:je (dF f b) (aC b.dir (dF f b).aa) b.name:=by
   rw[aT hg2];have:=t.free;rw[b4] at this;exact this
  have hsub:∀k z,ar k (dF f b).aa=some z->∀e∈z.entries,∃y,ar k f.aa=some y/\e∈y.entries:=by
   rw[teq];exact L5 te ht
  have hb2:(aC b.dir (dF f b).aa).ino=b.dir:=by rw[aT hg2];exact b5
  have hsum:=yK ht te hy0;rw[<-teq] at hsum;refine⟨t.tr,t.bd,⟨hent,hfree, ?_⟩, ?_,hb2,hxi,hsub,λk z hz hk=> ?_,λk h1 h2=> ?_, ?_, ?_,λh1=> ?_⟩
  ·rw[hxi,hb2]
   by_cases hk:x.kind=2
   ·exact λ⟨m,hm⟩=>h.out hk ⟨m,Way.mono hsub hm⟩
   ·exact hnw _ (λz hz=>by rw[hgx] at hz;exact(Option.some.inj hz).symm) hk
  ·rw[aT hg1]
   by_cases h1:d2.ino=a.dir
   ·rw[if_pos h1];exact h1
   ·rw[if_neg h1];exact a5
  ·rw[hfind,if_neg (by rw[hyi];exact λe=>hk e.symm)]
   by_cases h1:d2.ino=k
   ·rw[if_pos h1]
    have h2:=hz;rw[<-h1,b5,b1] at h2;cases h2;refine⟨_,rfl,rfl,λn=> ?_⟩;by_cases hn':b.name=n
    ·exact Or.inl ⟨by rw[<-h1,b5],hn'.symm⟩
    ·right
     show cm n (cH b.name d2.entries)=_;rw[kE,if_neg hn']
   ·rw[if_neg h1]
    exact⟨z,hz,rfl,λ_=>Or.inr rfl⟩
  ·rw[hfind,if_neg (by rw[hyi];exact λe=>h2 e.symm),if_neg (by rw[b5];exact λe=>h1 e.symm)]
  ·have:=hsum.1
   split at this<;>omega
  ·rw[hfind,if_pos hyi]
   by_cases hl:y.aH=1
   ·rw[if_pos hl];exact Or.inl rfl
   ·rw[if_neg hl];right
    show some y.entries=_;rw[hy0]
  ·right
   rw[hfind,if_pos hyi] at h1;by_cases hl:y.aH=1
   ·have:=(ht.eN hy).2.1
    omega
   ·rw[if_neg hl] at h1;cases h1
theorem Bd.mvF {n:Nat} {n1 n2:Str} (hb:Bd n f) (ht:Tree f) (h:Mv f d1 n1 d2 n2 x e):Bd (n+1) (mvF f d1 n1 d2 n2 x):=by
 have hs:=(It h ht).1;have hd1:=hb.find h.ent.hd;have hd2:=hb.find h.free.hd;have hx:=hb.find h.ent.hx;have hl:=hb.len;have hsort:=E6 (d1:=d1) (d2:=d2) (n1:=n1) (n2:=n2) (x:=x) ht;have c1:=r5 n1 d1.entries;have key:∀z∈(Go.Eng.mvF f d1 n1 d2 n2 x).aa,z.entries.length<=n+1/\z.data.length<=10000000:=by
  intro z hz;have hz':=dA hsort hz;rw[yO h ht] at hz';by_cases h1:x.ino=z.ino
  ·rw[if_pos h1] at hz'
   have hz2:=Option.some.inj hz';rw[<-hz2];by_cases hk:x.kind=2
   ·rw[if_pos hk]
    exact⟨by show x.entries.length<=_;omega,hx.2⟩
   ·rw[if_neg hk];exact⟨by omega,hx.2⟩
  ·rw[if_neg h1] at hz'
   by_cases h2:d2.ino=z.ino
   ·rw[if_pos h2] at hz'
    have hz2:=Option.some.inj hz';rw[<-hz2];have c2:=rJ ⟨n2,x.ino⟩ (mvD d1 d2 n1).entries;show(fg ⟨n2,x.ino⟩ (mvD d1 d2 n1).entries).length<=_/\(mvD d1 d2 n1).data.length<=_;unfold mvD at c2⊢;by_cases h3:d1.ino=d2.ino
    ·rw[if_pos h3] at c2⊢
     have c3:(d1.b6 n1).entries.length<=d1.entries.length:=c1;exact⟨by omega,hd1.2⟩
    ·rw[if_neg h3] at c2⊢
     exact⟨by omega,hd2.2⟩
   ·rw[if_neg h2] at hz'
    by_cases h3:d1.ino=z.ino
    ·rw[if_pos h3] at hz'
     have hz2:=Option.some.inj hz';rw[<-hz2];exact⟨by show(cH n1 d1.entries).length<=_;omega,hd1.2⟩
    ·rw[if_neg h3] at hz'
     have:=hb.find hz';exact⟨by omega,this.2⟩
 exact⟨by omega,λz hz=>(key z hz).1,λz hz=>(key z hz).2⟩
structure jc (f:Fs) (a b:au) (x:ao) (n:Nat) (f1:Fs) (e:Entry) (g:Fs):Prop where
 pre:RE f a b x n f1 e
 tr:Tree g
 bd:Bd (n+1) g
 eq:g=mvF f1 (aC a.dir f1.aa) a.name (aC b.dir f1.aa) b.name x
theorem wM {n:Nat} (ht:Tree f) (hb:Bd n f) (hn:n<=9000) (h:yL f a b x):∃e,jc f a b x n (mvB dF f b) e (ij f a b)/\vL f a b=ij f a b:=by
 obtain⟨e,p,p2⟩:=UD ht hb hn h;obtain⟨q1,q2⟩:=N1 p.tr p.mv p.ha p.hb p.hx;have h1:ij f a b=mvF (mvB dF f b) (aC a.dir (mvB dF f b).aa) a.name (aC b.dir (mvB dF f b).aa) b.name x:=q1;have h2:vL f a b=ij f a b:=by
  unfold vL;rw[p2,q2,<-q1];rfl
 refine⟨e,⟨p, ?_, ?_,h1⟩,h2⟩
 ·rw[h1];exact Zu p.tr p.mv
 ·rw[h1];exact p.bd.mvF p.tr p.mv
end
end Go.Eng
namespace Go.Eng
open Go
section
variable {f g f1:Fs} {d1 d2 x y:ao} {a b s t:au} {e:Entry} {n:Nat}
theorem D4 {f:Fs} (w:WF f):∀{ns:List Str} {s t:au},cq f.aa ns s=(t,0)->t.ino≠0->Way f.aa s.ino t.ino ns.length/\s.ino≠0
 | [],s,t,h,h0=>by
  simp only[cq,Prod.mk.injEq] at h;obtain⟨rfl,_⟩:=h;exact⟨.here,h0⟩
 |m::ns,s,t,h,h0=>by
  cases hf:ar s.ino f.aa with
  |none=>rw[ia hf] at h;simp at h
  |some d=>
   by_cases hk:d.kind=2
   ·rw[eM hf hk] at h
    obtain⟨h1,h2⟩:=D4 w h h0;obtain⟨e,he,_,he2,_⟩:=BF h2;refine⟨?_,λe=>by rw[e,w.zero] at hf;cases hf⟩;have h3:Way f.aa e.ino t.ino ns.length:=by rw[he2];exact h1
    exact Way.first hf he h3
   ·rw[gY hf hk] at h;simp at h
theorem wJ {f:Fs} {l:List ao} (w:WF f) {D X B:Int} (P:Int->Str->Prop)
 (hg:∀k z,ar k f.aa=some z->z.kind=2->k≠B->∃z',ar k l=some z'/\z'.kind=2/\z'.ino=z.ino/\∀m,¬P k m->cm m z'.entries=cm m z.entries)
 (hp:∀k z m,ar k f.aa=some z->P k m->cm m z.entries=X\/cm m z.entries=B)
 (hX:¬∃n,Way f.aa X D n) (hB:D≠B) (hBe:∀z,ar B f.aa=some z->z.entries= []) (hD:D≠0):
 ∀{ns:List Str} {s t:au},cq f.aa ns s=(t,0)->t.ino=D->(ns≠ [] ->s.ino≠B)->cq l ns s=(t,0)
 | [],s,t,h,ht,_=>by
  simp only[cq,Prod.mk.injEq] at h⊢;exact h
 |m::ns,s,t,h,ht,hs=>by
  have hs:=hs (by simp);cases hf:ar s.ino f.aa with
  |none=>rw[ia hf] at h;simp at h
  |some d=>
   by_cases hk:d.kind=2
   ·rw[eM hf hk] at h
    obtain⟨z',hz,hzk,hzi,hze⟩:=hg _ d hf hk hs;have hw:=D4 w h (by rw[ht];exact hD);rw[ht] at hw;have hnb:cm m d.entries≠B:=λe=>by
     have hw1:Way f.aa (cm m d.entries) D ns.length:=hw.1;rw[e] at hw1;rcases hw1.head with⟨_,h1⟩ |⟨_,z,e',_,hz,he',_⟩
     ·exact hB h1
     ·rw[hBe z hz] at he';cases he'
    have hnp:¬P s.ino m:=λhpp=>by
     rcases hp _ d m hf hpp with h1|h1
     ·have hw1:Way f.aa (cm m d.entries) D ns.length:=hw.1
      rw[h1] at hw1;exact hX ⟨_,hw1⟩
     ·exact hnb h1
    rw[eM hz hzk,hzi,hze m hnp];exact wJ w P hg hp hX hB hBe hD h ht (λ_=>hnb)
   ·rw[gY hf hk] at h;simp at h
theorem jc.find (m:jc f a b x n f1 e g) (k:Int):ar k g.aa=if x.ino=k then some (if x.kind=2 then x.gB b.dir else x) else if b.dir=k then some ((mvD (aC a.dir f1.aa) (aC b.dir f1.aa) a.name).bO b.name x.ino) else if a.dir=k then some ((aC a.dir f1.aa).b6 a.name) else ar k f1.aa:=by
 rw[m.eq,yO m.pre.mv m.pre.tr,m.pre.ha,m.pre.hb]
theorem jc.xne (m:jc f a b x n f1 e g):x.ino≠b.dir/\x.ino≠a.dir:=by
 refine⟨?_, ?_⟩
 ·have:=m.pre.mv.ne2;rwa[m.pre.hb] at this
 ·have:=m.pre.mv.ent.ne m.pre.tr;rwa[m.pre.ha] at this
structure q8 (f:Fs) (a b:au) (x d1 d2:ao):Prop where
 a1:ar a.dir f.aa=some d1
 a2:d1.kind=2
 a3:a.ino=cm a.name d1.entries
 b1:ar b.dir f.aa=some d2
 b2:d2.kind=2
 b3:b.ino=cm b.name d2.entries
 xi:x.ino=a.ino
 diff:¬(a.dir=b.dir/\a.name=b.name)
 ab:a.dir≠b.ino
 bb:b.dir≠b.ino
 xb:¬∃n,Way f.aa a.ino b.dir n
 xa:¬∃n,Way f.aa a.ino a.dir n
theorem places (ht:Tree f) (w:WF f) (h:yL f a b x):∃d1 d2,q8 f a b x d1 d2:=by
 obtain⟨d1,a1,a2,a3,a4,a5⟩:=CN h.ga h.an;obtain⟨d2,b1,b2,b3,b4,b5⟩:=CN h.gb h.bn;obtain⟨e,he,_,hxi⟩:=vI ht w h.ga h.an h.hx;rw[a4] at he;have hab:a.dir≠b.ino:=λe1=>by
  have:=h.emp d1 (by rw[<-e1];exact a1);have h2:=he.mem.1;rw[this] at h2;cases h2
 have hbb:b.dir≠b.ino:=λe1=>by
  have h0:b.ino≠0:=λe=>by rw[e1,e,w.zero] at b1;cases b1
  obtain⟨e',he',_,_,hn'⟩:=sx (by rw[<-b3];exact h0);have:=h.emp d2 (by rw[<-e1];exact b1);have h2:=(iC he').1;rw[this] at h2;cases h2
 refine⟨d1,d2,a1,a2,a3,b1,b2,b3,hxi,λ⟨e1,e2⟩=> ?_,hab,hbb, ?_, ?_⟩
 ·rw[e1,b1] at a1;cases a1
  exact h.ne (by rw[a3,b3,e2])
 ·by_cases hk:x.kind=2
  ·exact h.out hk
  ·intro⟨m,hm⟩
   rcases hm.head with⟨_,h1⟩ |⟨_,z,e',_,hz,he',_⟩
   ·rw[h1,h.hx] at b1;cases b1;exact hk b2
   ·rw[h.hx] at hz;cases hz
    rw[ht.CS h.hx hk] at he';cases he'
 ·obtain⟨k,hk⟩:=(ht.uM a1).way
  intro⟨m,hm⟩;refine ht.Dv hk a1 he.mem.1 (n:=m) ?_;rw[he.hn,hxi];exact hm
theorem jc.Cv (w:WF f) (m:jc f a b x n f1 e g) (p:q8 f a b x d1 d2) (h:yL f a b x) {D:Int} (hD0:D≠0) (hD:¬∃n,Way f.aa a.ino D n) (hB:D≠b.ino) {ns:List Str} (hr:(ar 1 f.aa).isSome=true) (hgo:cq f.aa ns dt=(t,0)) (ht:t.ino=D) (hb1:b.ino≠1):cq g.aa ns dt=(t,0):=by
 refine wJ (D:=D) (X:=a.ino) (B:=b.ino) w (λk n=>(k=a.dir/\n=a.name)\/(k=b.dir/\n=b.name)) (λk z hz hk hkb=> ?_) (λk z q hz hp=> ?_) hD hB h.emp hD0 hgo ht (λ_=>λe=>hb1 e.symm)
 ·obtain⟨z',hz',hzk,hze⟩:=m.pre.find k z hz hkb
  have hzi:z'.ino=z.ino:=by rw[(aQ hz').2,(aQ hz).2]
  rw[m.find];by_cases c1:x.ino=k
  ·rw[if_pos c1]
   have hzx:z=x:=by
    rw[<-c1,p.xi,h.hx] at hz;exact(Option.some.inj hz).symm
   subst hzx;refine⟨_,rfl, ?_, ?_,λq _=> ?_⟩<;>(rw[if_pos hk];first|exact hk|rfl)
  ·rw[if_neg c1]
   by_cases c2:b.dir=k
   ·rw[if_pos c2]
    have hzd:aC b.dir f1.aa=z':=aT (by rw[c2];exact hz');refine⟨_,rfl, ?_, ?_,λq hq=> ?_⟩
    ·show(mvD _ _ _).kind=2
     unfold mvD;split
     ·rename_i hd
      rw[m.pre.ha,m.pre.hb] at hd;show(aC a.dir f1.aa).kind=2;rw[hd,hzd,hzk];exact hk
     ·rw[hzd,hzk];exact hk
    ·show(mvD _ _ _).ino=z.ino
     rw[qk,m.pre.hb,c2,(aQ hz).2]
    ·show cm q (fg ⟨b.name,x.ino⟩ (mvD _ _ _).entries)=_
     rw[qN];have hq1:¬b.name=q:=λe=>hq (Or.inr ⟨c2.symm,e.symm⟩)
     rw[if_neg hq1];have hzq:cm q z'.entries=cm q z.entries:=(hze q).resolve_left (λe=>hq1 e.2.symm);unfold mvD;split
     ·rename_i hd
      rw[m.pre.ha,m.pre.hb] at hd;show cm q (cH a.name (aC a.dir f1.aa).entries)=_;rw[kE,if_neg (λe=>hq (Or.inl ⟨by rw[<-c2,hd],e.symm⟩)),hd,hzd,hzq]
     ·rw[hzd,hzq]
   ·rw[if_neg c2]
    by_cases c3:a.dir=k
    ·rw[if_pos c3]
     have hzd:aC a.dir f1.aa=z':=aT (by rw[c3];exact hz');refine⟨_,rfl, ?_, ?_,λq hq=> ?_⟩
     ·show(aC a.dir f1.aa).kind=2
      rw[hzd,hzk];exact hk
     ·show(aC a.dir f1.aa).ino=_
      rw[hzd,hzi]
     ·show cm q (cH a.name (aC a.dir f1.aa).entries)=_
      rw[kE,if_neg (λe=>hq (Or.inl ⟨c3.symm,e.symm⟩)),hzd];exact(hze q).resolve_left (λe=>c2 e.1.symm)
    ·rw[if_neg c3]
     exact⟨z',hz',by rw[hzk];exact hk,hzi,λq hq=>(hze q).resolve_left (λe=>c2 e.1.symm)⟩
 ·rcases hp with⟨rfl,rfl⟩ |⟨rfl,rfl⟩
  ·rw[p.a1] at hz;cases hz;exact Or.inl p.a3.symm
  ·rw[p.b1] at hz;cases hz;exact Or.inr p.b3.symm
theorem jc.at (ht:Tree f) (w:WF f) (m:jc f a b x n f1 e g) (p:q8 f a b x d1 d2) (h:yL f a b x) {ns:List Str} (hq:cq f.aa ns dt=(b,0)) (hns:ns≠ []):cq g.aa ns dt=(⟨b.dir,b.name,a.ino⟩,0):=by
 have hb1:b.ino≠1:=λe=>by
  obtain⟨e0,he0,_,_,hn0⟩:=sx (l:=d2.entries) (n:=b.name) (by rw[<-p.b3,e];decide);exact ht.qX p.b1 (iC he0).1 (by rw[hn0,<-p.b3,e])
 have hd0:b.dir≠0:=λe=>by have:=p.b1;rw[e,w.zero] at this;cases this
 obtain⟨r,hr,_⟩:=ht.root;have hspl:ns=ns.dropLast++[ns.getLast hns]:=(List.dropLast_concat_getLast hns).symm;rw[hspl] at hq⊢;rw[rD] at hq⊢;by_cases h0:(cq f.aa ns.dropLast dt).2=0
 ·rw[if_pos h0] at hq
  have hpre:cq f.aa ns.dropLast dt=((cq f.aa ns.dropLast dt).1,0):=by rw[<-h0]
  generalize (cq f.aa ns.dropLast dt).1=s at*;cases hf:ar s.ino f.aa with
  |none=>rw[ia hf] at hq;simp at hq
  |some d=>
   by_cases hk:d.kind=2
   ·rw[eM hf hk] at hq
    simp only[cq,Prod.mk.injEq] at hq;have hbe:=hq.1;have hs:s.ino=b.dir:=by rw[<-hbe];exact(aQ hf).2.symm
    have hgo:=m.Cv w p h (D:=b.dir) hd0 p.xb p.bb (by rw[hr];rfl) hpre hs hb1;rw[hgo,if_pos rfl];have hgd:ar s.ino g.aa=some ((mvD (aC a.dir f1.aa) (aC b.dir f1.aa) a.name).bO b.name x.ino):=by
     rw[m.find,if_neg (by rw[hs];exact m.xne.1),if_pos hs.symm]
    have hkk:((mvD (aC a.dir f1.aa) (aC b.dir f1.aa) a.name).bO b.name x.ino).kind=2:=m.pre.mv.dk m.pre.tr;rw[eM hgd hkk];have hnm:ns.getLast hns=b.name:=by rw[<-hbe]
    simp only[cq,Prod.mk.injEq,and_true];have hi:((mvD (aC a.dir f1.aa) (aC b.dir f1.aa) a.name).bO b.name x.ino).ino=b.dir:=by
     show(mvD _ _ _).ino=_;rw[qk];exact m.pre.hb
    have he:cm (ns.getLast hns) ((mvD (aC a.dir f1.aa) (aC b.dir f1.aa) a.name).bO b.name x.ino).entries=a.ino:=by
     show cm _ (fg ⟨b.name,x.ino⟩ _)=_;rw[qN,if_pos hnm.symm];exact p.xi
    rw[hi,he,hnm]
   ·rw[gY hf hk] at hq;simp at hq
 ·rw[if_neg h0] at hq
  simp only[Prod.mk.injEq] at hq;exact absurd hq.2 h0
theorem jc.gone (ht:Tree f) (w:WF f) (m:jc f a b x n f1 e g) (p:q8 f a b x d1 d2) (h:yL f a b x) {ns:List Str} (hq:cq f.aa ns dt=(a,0)) (hns:ns≠ []):cq g.aa ns dt=(⟨a.dir,a.name,0⟩,0):=by
 have hb1:b.ino≠1:=λe=>by
  obtain⟨e0,he0,_,_,hn0⟩:=sx (l:=d2.entries) (n:=b.name) (by rw[<-p.b3,e];decide);exact ht.qX p.b1 (iC he0).1 (by rw[hn0,<-p.b3,e])
 have hd0:a.dir≠0:=λe=>by have:=p.a1;rw[e,w.zero] at this;cases this
 obtain⟨r,hr,_⟩:=ht.root;have hspl:ns=ns.dropLast++[ns.getLast hns]:=(List.dropLast_concat_getLast hns).symm;rw[hspl] at hq⊢;rw[rD] at hq⊢;by_cases h0:(cq f.aa ns.dropLast dt).2=0
 ·rw[if_pos h0] at hq
  have hpre:cq f.aa ns.dropLast dt=((cq f.aa ns.dropLast dt).1,0):=by rw[<-h0]
  generalize (cq f.aa ns.dropLast dt).1=s at*;cases hf:ar s.ino f.aa with
  |none=>rw[ia hf] at hq;simp at hq
  |some d=>
   by_cases hk:d.kind=2
   ·rw[eM hf hk] at hq
    simp only[cq,Prod.mk.injEq] at hq;have hbe:=hq.1;have hs:s.ino=a.dir:=by rw[<-hbe];exact(aQ hf).2.symm
    have hgo:=m.Cv w p h (D:=a.dir) hd0 p.xa p.ab (by rw[hr];rfl) hpre hs hb1;rw[hgo,if_pos rfl];have hnm:ns.getLast hns=a.name:=by rw[<-hbe]
    by_cases hab:b.dir=a.dir
    ·have hgd:ar s.ino g.aa=some ((mvD (aC a.dir f1.aa) (aC b.dir f1.aa) a.name).bO b.name x.ino):=by
      rw[m.find,if_neg (by rw[hs];exact m.xne.2),if_pos (by rw[hs];exact hab)]
     have hkk:((mvD (aC a.dir f1.aa) (aC b.dir f1.aa) a.name).bO b.name x.ino).kind=2:=m.pre.mv.dk m.pre.tr;rw[eM hgd hkk];simp only[cq,Prod.mk.injEq,and_true];have hi:((mvD (aC a.dir f1.aa) (aC b.dir f1.aa) a.name).bO b.name x.ino).ino=a.dir:=by
      show(mvD _ _ _).ino=_;rw[qk,m.pre.hb,hab]
     have he:cm (ns.getLast hns) ((mvD (aC a.dir f1.aa) (aC b.dir f1.aa) a.name).bO b.name x.ino).entries=0:=by
      show cm _ (fg ⟨b.name,x.ino⟩ (mvD _ _ _).entries)=_;rw[qN,if_neg (by rw[hnm];exact λe=>p.diff ⟨hab.symm,e.symm⟩)];unfold mvD;rw[if_pos (by rw[m.pre.ha,m.pre.hb,hab])];show cm _ (cH a.name _)=0;rw[kE,if_pos hnm.symm]
     rw[hi,he,hnm]
    ·have hgd:ar s.ino g.aa=some ((aC a.dir f1.aa).b6 a.name):=by
      rw[m.find,if_neg (by rw[hs];exact m.xne.2),if_neg (by rw[hs];exact hab),if_pos hs.symm]
     have hkk:((aC a.dir f1.aa).b6 a.name).kind=2:=m.pre.mv.ent.kind m.pre.tr;rw[eM hgd hkk];simp only[cq,Prod.mk.injEq,and_true];have hi:((aC a.dir f1.aa).b6 a.name).ino=a.dir:=m.pre.ha;have he:cm (ns.getLast hns) ((aC a.dir f1.aa).b6 a.name).entries=0:=by
      show cm _ (cH a.name _)=0;rw[kE,if_pos hnm.symm]
     rw[hi,he,hnm]
   ·rw[gY hf hk] at hq;simp at hq
 ·rw[if_neg h0] at hq
  simp only[Prod.mk.injEq] at hq;exact absurd hq.2 h0
end
section
variable {f g:Fs} {base p q:Str} {a b:au} {x:ao} {sl:Bool} {ins:Fs->Int->Int->Bool} {mv:Fs->au->au->Fs}
structure aaR (f:Fs) (n:Nat) (base p q:Str) (a b:au) (x:ao) (e:Entry) (g:Fs):Prop where
 sp:ku f base p false=(a,0)
 sq:ku f base q false=(b,0)
 ok:yL f a b x
 mv:jc f a b x n (mvB dF f b) e g
end
structure Sr (n:Nat) (f:Fs):Prop where
 sort:ct f.aa
 es:∀x∈f.aa,gU x.entries
 len:f.aa.length<=n
 en:∀x∈f.aa,x.entries.length<=n
section
variable {f g:Fs} {base p q:Str} {a b s:au} {x y:ao} {n:Nat} {i:Int}
theorem Ez.sr (z:Ez f):Sr 10000 f:=⟨z.ws.wf.sort,λx hx=>z.ws.wf.Lm hx,z.lil.len,z.lil.dD⟩
theorem Sr.get (h:Sr n f) (k:Int):gU (aC k f.aa).entries/\(aC k f.aa).entries.length<=n:=by
 cases hf:ar k f.aa with
 |none=>rw[dW hf];exact⟨List.Pairwise.nil,by simp [ky]⟩
 |some x=>rw[aT hf];exact⟨h.es x (aQ hf).1,h.en x (aQ hf).1⟩
theorem Sr.set (h:Sr n f) (hs:gU y.entries) (hl:y.entries.length<=n+1):Sr (n+1) (f.set y):=by
 refine⟨eL h.sort y,λx hx=> ?_,by have:= @lI f y;have:=h.len;omega,λx hx=> ?_⟩
 ·rcases dj.1 hx with rfl|⟨hx,_⟩
  ·exact hs
  ·exact h.es x hx
 ·rcases dj.1 hx with rfl|⟨hx,_⟩
  ·exact hl
  ·have:=h.en x hx;omega
theorem Sr.drop (h:Sr n f) (k:Int):Sr n (f.drop k):=by
 refine⟨Cc h.sort k,λx hx=>h.es x (gm.1 hx).1, ?_,λx hx=>h.en x (gm.1 hx).1⟩;have h1:(dI k f.aa).length<=f.aa.length:=dQ;have:=h.len;show(dI k f.aa).length<=n;omega
theorem Sr.mono (h:Sr n f) {m:Nat} (hm:n<=m):Sr m f:=⟨h.sort,h.es,by have:=h.len;omega,λx hx=>by have:=h.en x hx;omega⟩
theorem Sr.rem (h:Sr n f) (k:Int) (m:Str):Sr (n+1) (f.set ((aC k f.aa).b6 m)):=by
 have:=h.get k;exact h.set (eJ this.1) (by have:=r5 m (aC k f.aa).entries;show(cH m (aC k f.aa).entries).length<=_;omega)
theorem Sr.add (h:Sr n f) (k:Int) (m:Str) (i:Int):Sr (n+1) (f.set ((aC k f.aa).bO m i)):=by
 have:=h.get k;exact h.set (pn loS this.1) (by have:=rJ ⟨m,i⟩ (aC k f.aa).entries;show(fg ⟨m,i⟩ (aC k f.aa).entries).length<=_;omega)
theorem Sr.unn (h:Sr n f) (s:au):Sr (n+2) (dF f s):=by
 have h1:=h.rem s.dir s.name;have h2:=h1.get s.ino;unfold dF;split
 ·exact(h1.drop _).mono (by omega)
 ·exact h1.set h2.1 (by show(aC s.ino _).entries.length<=_;omega)
theorem Sr.mvB (h:Sr n f) (b:au):Sr (n+2) (mvB dF f b):=by
 unfold Go.Eng.mvB;split
 ·exact h.unn b
 ·exact h.mono (by omega)
theorem M5 (h:Sr n f) (s:au):(pc f s).aa.length<=n+2/\∀x∈(pc f s).aa,x.entries.length<=n+2:=by
 have h1:=h.rem s.dir s.name;have h2:=h.get s.ino;unfold pc;split
 ·have:=(h1.drop s.ino).mono (show n+1<=n+2 by omega)
  exact⟨this.len,this.en⟩
 ·have:=h1.set (y:=(aC s.ino f.aa).cL ((aC s.ino f.aa).aH - 1)) h2.1 (by show(aC s.ino _).entries.length<=_;omega)
  exact⟨this.len,this.en⟩
theorem IZ {N:Nat} (h:∀x∈f.aa,x.entries.length<=N) (k:Int):(aC k f.aa).entries.length<=N:=by
 cases hf:ar k f.aa with
 |none=>rw[dW hf];simp [ky]
 |some x=>rw[aT hf];exact h x (aQ hf).1
theorem IC (h:Sr n f) (hn:n<=20000):
 (aj (b7 f a.dir) λy2=>aj (fJ y2.1.entries a.name) λy3=>aj (bG f (⟨y2.1.ino,y2.1.kind,y2.1.aH,y2.1.data,y2.1.parent,y3⟩:ao)) λy4=>aj (b7 y4 b.dir) λy5=>aj (fN y5.1.entries b.name a.ino) λy6=>aj (bG y4 (⟨y5.1.ino,y5.1.kind,y5.1.aH,y5.1.data,y5.1.parent,y6⟩:ao)) λy7=>aj (b7 y7 a.ino) λy8=>
  ah (y8.1.kind==(2:Int)) (aj (bG y7 (⟨y8.1.ino,y8.1.kind,y8.1.aH,y8.1.data,b.dir,y8.1.entries⟩:ao)) λy9=>some y9) (aj (bG y7 y8.1) λy10=>some y10))=some (mvE (mv3 f a b) a b):=by
 have g1:=h.get a.dir;have h1:=h.rem a.dir a.name;have g2:=h1.get b.dir;have h2:=h1.add b.dir b.name a.ino;have l0:=h.len;have l1:=h1.len;have l2:=h2.len;rw[dq h.sort (by omega),ae,oR g1.1 (by first|omega|(simp only;omega)),ae];have e1:(⟨(aC a.dir f.aa).ino,(aC a.dir f.aa).kind,(aC a.dir f.aa).aH,(aC a.dir f.aa).data,(aC a.dir f.aa).parent,cH a.name (aC a.dir f.aa).entries⟩:ao)=(aC a.dir f.aa).b6 a.name:=rfl;simp only;rw[e1,cJ h.sort (by omega),ae,dq h1.sort (by omega),ae,oy g2.1 (by first|omega|(simp only;omega)),ae];have e2:∀d:ao,(⟨d.ino,d.kind,d.aH,d.data,d.parent,fg ⟨b.name,a.ino⟩ d.entries⟩:ao)=d.bO b.name a.ino:=λ_=>rfl
 simp only;rw[e2,cJ h1.sort (by omega),ae,dq h2.sort (by omega),ae];unfold mvE mv3;simp only;rw[cJ h2.sort (by omega),cJ h2.sort (by omega),eh];by_cases hk:(aC a.ino ((f.set ((aC a.dir f.aa).b6 a.name)).set ((aC b.dir (f.set ((aC a.dir f.aa).b6 a.name)).aa).bO b.name a.ino)).aa).kind=2
 ·rw[aJ (by simp [hk]),if_pos hk];rfl
 ·rw[aU (by simp [hk]),if_neg hk];rfl
theorem Fm (hl:f.aa.length<=20000) (he:∀x∈f.aa,x.entries.length<=20000):
 (aj (bI f a.dir) λy2=>aj (eQ y2.1.entries a.name) λy3=>aj (bU f (⟨y2.1.ino,y2.1.kind,y2.1.aH,y2.1.data,y2.1.parent,y3⟩:ao)) λy4=>aj (bI y4 b.dir) λy5=>aj (gN y5.1.entries b.name a.ino) λy6=>aj (bU y4 (⟨y5.1.ino,y5.1.kind,y5.1.aH,y5.1.data,y5.1.parent,y6⟩:ao)) λy7=>aj (bI y7 a.ino) λy8=>
  ah (y8.1.kind==(2:Int)) (aj (bU y7 (⟨y8.1.ino,y8.1.kind,y8.1.aH,y8.1.data,b.dir,y8.1.entries⟩:ao)) λy9=>some y9) (some y7))=some (MF (mv3 f a b) a b):=by
 have g1:=IZ he a.dir;have d1:=r5 a.name (aC a.dir f.aa).entries;have l1:= @lI f ((aC a.dir f.aa).b6 a.name);have he1:=Mp (f:=f) (x:=(aC a.dir f.aa).b6 a.name) he (by show(cH a.name (aC a.dir f.aa).entries).length<=_;omega);have g2:=IZ he1 b.dir;have l2:= @lI (f.set ((aC a.dir f.aa).b6 a.name)) ((aC b.dir (f.set ((aC a.dir f.aa).b6 a.name)).aa).bO b.name a.ino);rw[cD (by omega),ae,lg (by first|omega|(simp only;omega)),ae];have e1:(⟨(aC a.dir f.aa).ino,(aC a.dir f.aa).kind,(aC a.dir f.aa).aH,(aC a.dir f.aa).data,(aC a.dir f.aa).parent,cH a.name (aC a.dir f.aa).entries⟩:ao)=(aC a.dir f.aa).b6 a.name:=rfl;simp only;rw[e1,cf (by omega),ae,cD (by omega),ae,oK (by first|omega|(simp only;omega)),ae];have e2:∀d:ao,(⟨d.ino,d.kind,d.aH,d.data,d.parent,fg ⟨b.name,a.ino⟩ d.entries⟩:ao)=d.bO b.name a.ino:=λ_=>rfl
 simp only;rw[e2,cf (by omega),ae,cD (by omega),ae];unfold MF mv3;simp only;rw[cf (by omega),eh];by_cases hk:(aC a.ino ((f.set ((aC a.dir f.aa).b6 a.name)).set ((aC b.dir (f.set ((aC a.dir f.aa).b6 a.name)).aa).bO b.name a.ino)).aa).kind=2
 ·rw[aJ (by simp [hk]),if_pos hk];rfl
 ·rw[aU (by simp [hk]),if_neg hk]
theorem CV (z:Ez f):sg f a b=some (ij f a b):=by
 unfold sg ij;rw[dS];by_cases h0:b.ino=0
 ·rw[aU (by simp [h0]),IC z.sr (by omega)]
  unfold mvB;rw[if_neg (λh=>h h0)]
 ·have h1:=z.sr.unn b
  rw[aJ (by simp [h0]),nI z,ae,IC h1 (by omega)];unfold mvB;rw[if_pos h0]
theorem Bf (z:Ez f):pH f a b=some (vL f a b):=by
 unfold pH vL;rw[dS];by_cases h0:b.ino=0
 ·rw[aU (by simp [h0]),Fm (by have:=z.lil.len;omega) (λx hx=>by have:=z.lil.dD x hx;omega)]
  unfold mvB;rw[if_neg (λh=>h h0)]
 ·have h1:=M5 z.sr b
  rw[aJ (by simp [h0]),mg z,ae,Fm (by omega) (λx hx=>by have:=h1.2 x hx;omega)];unfold mvB;rw[if_pos h0]
end
section
variable {f g:Fs} {base p q:Str} {a b s:au} {x y:ao} {n:Nat} {i:Int} {e:Entry}
theorem GB (w:WF f) (h0:(atP f p).2=0) (hn:(atP f p).1.name≠ []):Gd f false (atP f p).1/\eP (atP f p).1.name=true/\∃ns,ns≠ [] /\(∀m∈ns,eP m=true)/\iZ ns=p/\cq f.aa ns dt=((atP f p).1,0):=by
 have hpl:(bZ p).2=true:=by
  unfold atP at h0;cases h:(bZ p).2
  ·rw[h,if_neg (by simp)] at h0;simp at h0
  ·rfl
 have hat:atP f p=cq f.aa (bZ p).1 dt:=by unfold atP;rw[if_pos hpl]
 obtain⟨p1,p2,p3⟩:=jG hpl;rw[hat] at h0 hn⊢;have hgo:cq f.aa (bZ p).1 dt=((cq f.aa (bZ p).1 dt).1,0):=by rw[<-h0]
 rcases uO hgo with⟨h1,h2⟩ |⟨d,m,ns',h1,h2,h3,h4,h5,h6⟩
 ·rw[h2] at hn;exact absurd rfl hn
 ·refine⟨Or.inr ⟨hn,d,h2,h4, ?_,λh=>by cases h⟩, ?_,(bZ p).1,by rw[h1];simp,p2,p1,hgo⟩
  ·rw[h6,h5]
  ·rw[h5]
   exact p2 m (by rw[h1];simp)
end
structure Gq (n:Nat) (f:Fs):Prop where
 tr:Tree f
 bd:Bd n f
 nx:f.next<=549755813888+n
section
variable {f g:Fs} {base p q t d:Str} {n m:Nat} {i:Int} {x:ao} {s:au}
theorem Gq.ew (h:Gq n f) (hn:n<=9000):Ew f:=ja h.tr h.bd (by omega)
theorem Gq.ez (h:Gq n f) (hn:n<=9000):Ez f:=(h.ew hn).ez
theorem Gq.mono (h:Gq n f) (hm:n<=m):Gq m f:=⟨h.tr,h.bd.mono hm,by have:=h.nx;omega⟩
theorem wi {s:au}:(dF f s).next=f.next:=by unfold dF;split<;>rfl
theorem qz {a b:au}:(ij f a b).next=f.next:=by
 unfold ij mvE mv3;show(mvB dF f b).next=f.next;unfold mvB;split
 ·exact wi
 ·rfl
end
abbrev qD (l:List Kept):Prop:=dm ltI Kept.slot l
abbrev b9 (n:Int) (l:List Kept):Option Kept:=bT Kept.slot n l
abbrev uA (k:Kept) (l:List Kept):List Kept:=jB ltI Kept.slot k l
abbrev e_ (n:Int) (l:List Kept):List Kept:=eR Kept.slot n l
def zn (x:ao):Prop:=x.aH=0/\x.parent=0/\x.entries= [] /\(x.kind=1\/(x.kind=2/\x.data= [])\/(x.kind=3/\1<=x.data.length/\x.data.length<=4095/\x.data.any (λb=>b==0)=false))
structure RW (w:aq):Prop where
 tr:Tree w.fs
 ps:ct w.al.aO
 pk:∀x∈w.al.aO,zn x/\1<=x.ino/\x.ino<w.fs.next/\ar x.ino w.fs.aa=none/\∃k∈w.al.kept,k.ino=x.ino/\k.content=false
 ks:qD w.al.kept
 kk:∀k∈w.al.kept,1<=k.slot/\k.slot<=1073741824/\(k.content=false->k.data= [])/\∃x,(ar k.ino w.fs.aa=some x\/ar k.ino w.al.aO=some x)/\(k.content=true->x.kind=1)
structure Wb (lim:Int) (n:Nat) (w:aq):Prop where
 bd:Bd n w.fs
 nx:w.fs.next<=lim+n
 kl:w.al.kept.length<=n
 pl:w.al.aO.length<=n
 kd:∀k∈w.al.kept,k.data.length<=10000000
 pd:∀x∈w.al.aO,x.data.length<=10000000
section
variable {lim:Int} {w:aq} {f:Fs} {d x y:ao} {nm:Str} {e:Entry} {n m:Nat} {s i:Int} {k:Kept}
theorem Wb.mono (h:Wb lim n w) (hm:n<=m):Wb lim m w:=⟨h.bd.mono hm,by have:=h.nx;omega,by have:=h.kl;omega,by have:=h.pl;omega,h.kd,h.pd⟩
theorem RW.ew (h:RW w) (b:Wb lim n w) (hn:n<=9000):Ew w.fs:=ja h.tr b.bd (by omega)
theorem RW.jP (h:RW w) (hi:ar i w.al.aO=some y):zn y/\y.ino=i/\1<=i/\i<w.fs.next/\ar i w.fs.aa=none:=by
 obtain⟨h1,h2⟩:=aQ hi;obtain⟨p1,p2,p3,p4,_⟩:=h.pk y h1;rw[h2] at p2 p3 p4;exact⟨p1,h2,p2,p3,p4⟩
theorem RW.m6 (h:RW w) (hi:ar i w.fs.aa=some x):ar i w.al.aO=none:=by
 cases hp:ar i w.al.aO with
 |none=>rfl
 |some y=>have:=(h.jP hp).2.2.2.2;rw[hi] at this;cases this
theorem iD {l:List Kept} {n:Int} {k:Kept} (h:b9 n l=some k):k∈l/\k.slot=n:=bX h
theorem pK {l:List Kept} {n:Int} (h:b9 n l=none):∀k∈l,k.slot≠n:=by
 intro k hk e;have:=List.find?_eq_none.1 h k hk;simp [e] at this
theorem wo {l:List Kept} (hs:qD l) {k:Kept} (h:k∈l):b9 k.slot l=some k:=m5 loI hs h
theorem jj {l:List Kept} {a b:Kept}:b∈uA a l↔b=a\/b∈l:=vd
theorem iT {l:List Kept} {n:Int} {b:Kept}:b∈e_ n l↔b∈l/\b.slot≠n:=gm
theorem wO {l:List Kept} {a:Kept} (h:qD l) (h0:b9 a.slot l=none):qD (uA a l):=wz loI h (pK h0)
theorem tY {l:List Kept} {n:Int} (h:qD l):qD (e_ n l):=eJ h
theorem wx {l:List Kept} {a:Kept} (h:qD l) (h0:b9 a.slot l=none):e_ a.slot (uA a l)=l:=by
 refine fU loI (eJ (wO h h0)) h λj=> ?_
 rw[qo,r4 (pK h0)];by_cases hj:a.slot=j
 ·rw[if_pos hj,<-hj];exact h0.symm
 ·rw[if_neg hj,if_neg hj]
def ao.bare (x:ao):ao:=⟨x.ino,x.kind,0,x.data,0,x.entries⟩
def fX (w:aq) (s:Int) (d:ao) (nm:Str) (x:ao):aq:=
 ⟨dE w.fs d nm x,⟨uA ⟨s,x.ino,false, []⟩ w.al.kept,if x.aH=1 then bB x.bare w.al.aO else w.al.aO⟩⟩
theorem Kg (h:ft x=true) (he:x.entries= []):zn x.bare:=by
 refine⟨rfl,rfl,he, ?_⟩;by_cases h1:x.kind=1
 ·exact Or.inl h1
 by_cases h2:x.kind=2
 ·rw[vg h2] at h
  simp only[Bool.and_eq_true,decide_eq_true_eq] at h;exact Or.inr (Or.inl ⟨h2,h.1⟩)
 by_cases h3:x.kind=3
 ·rw[BH h3] at h
  simp only[Bool.and_eq_true,decide_eq_true_eq] at h;obtain⟨_,_,⟨a1,a2⟩,a3⟩:=h;refine Or.inr (Or.inr ⟨h3,a1,a2, ?_⟩);show x.data.any _=false;cases hx:x.data.any (λb=>b==0)
  ·rfl
  ·rw[hx] at a3;cases a3
 ·rw[IV h1 h2 h3] at h;cases h
theorem IX (h:RW w) (he:Ent w.fs d nm x e) (hx0:x.entries= []) (hs1:1<=s) (hs2:s<=1073741824) (hs:b9 s w.al.kept=none):RW (fX w s d nm x):=by
 have hne:=he.ne h.tr;have hfind:=λj=>cZ (f:=w.fs) (d:=d) (nm:=nm) (x:=x) hne j
 have hm:=np (f:=w.fs) (d:=d) (x:=x) (nm:=nm);have hpx:ar x.ino w.al.aO=none:=h.m6 he.hx;have hgone:∀j,ar j w.fs.aa=none->ar j (dE w.fs d nm x).aa=none:=λj hj=>by
  rw[hfind];by_cases h1:x.ino=j
  ·rw[<-h1,he.hx] at hj;cases hj
  ·rw[if_neg h1]
   by_cases h2:d.ino=j
   ·rw[<-h2,he.hd] at hj;cases hj
   ·rw[if_neg h2];exact hj
 have hstay:∀j z,ar j w.fs.aa=some z->(j=x.ino->x.aH≠1)->∃z',ar j (dE w.fs d nm x).aa=some z'/\z'.kind=z.kind:=λj z hj hl=>by
  rw[hfind];by_cases h1:x.ino=j
  ·rw[if_pos h1,if_neg (hl h1.symm)]
   rw[<-h1,he.hx] at hj;cases hj;exact⟨_,rfl,rfl⟩
  ·rw[if_neg h1]
   by_cases h2:d.ino=j
   ·rw[if_pos h2]
    rw[<-h2,he.hd] at hj;cases hj;exact⟨_,rfl,rfl⟩
   ·rw[if_neg h2];exact⟨z,hj,rfl⟩
 have hpmem:∀z,z∈(fX w s d nm x).al.aO↔(z∈w.al.aO\/(x.aH=1/\z=x.bare)):=λz=>by
  show z∈(if x.aH=1 then bB x.bare w.al.aO else w.al.aO)↔_;by_cases hl:x.aH=1
  ·rw[if_pos hl,dj]
   constructor
   ·rintro(rfl|⟨h1,_⟩)
    ·exact Or.inr ⟨hl,rfl⟩
    ·exact Or.inl h1
   ·rintro(h1|⟨_,rfl⟩)
    ·refine Or.inr ⟨h1,λe1=> ?_⟩
     have h2:=dA h.ps h1;have e2:z.ino=x.ino:=e1;rw[e2,hpx] at h2;cases h2
    ·exact Or.inl rfl
  ·rw[if_neg hl]
   exact⟨Or.inl,λh1=>h1.resolve_right (λh2=>hl h2.1)⟩
 have hpfind:∀j,ar j (fX w s d nm x).al.aO=if x.aH=1/\x.ino=j then some x.bare else ar j w.al.aO:=λj=>by
  show ar j (if x.aH=1 then bB x.bare w.al.aO else w.al.aO)=_;by_cases hl:x.aH=1
  ·rw[if_pos hl,bA]
   show(if x.ino=j then _ else _)=_;by_cases h1:x.ino=j
   ·rw[if_pos h1,if_pos ⟨hl,h1⟩]
   ·rw[if_neg h1,if_neg (λh=>h1 h.2)]
  ·rw[if_neg hl,if_neg (λh=>hl h.1)]
 refine⟨ID h.tr he hx0, ?_,λz hz=> ?_,wO h.ks hs,λk' hk'=> ?_⟩
 ·show ct (if x.aH=1 then bB x.bare w.al.aO else w.al.aO)
  split
  ·exact bV h.ps
  ·exact h.ps
 ·rcases(hpmem z).1 hz with hz|⟨hl,rfl⟩
  ·obtain⟨p1,p2,p3,p4,k',k1,k2,k3⟩:=h.pk z hz
   exact⟨p1,p2,by show z.ino<(dE w.fs d nm x).next;rw[hm.2.2];exact p3,hgone _ p4,k',jj.2 (Or.inr k1),k2,k3⟩
  ·have hg:=h.tr.eN he.hx
   refine⟨Kg hg.1 hx0,hg.2.2.1,by show x.ino<(dE w.fs d nm x).next;rw[hm.2.2];exact hg.2.2.2.1, ?_,_,jj.2 (Or.inl rfl),rfl,rfl⟩;show ar x.ino (dE w.fs d nm x).aa=none;rw[hfind,if_pos rfl,if_pos hl]
 ·rcases jj.1 hk' with rfl|hk'
  ·refine⟨hs1,hs2,λ_=>rfl, ?_⟩
   by_cases hl:x.aH=1
   ·exact⟨x.bare,Or.inr (by rw[hpfind,if_pos ⟨hl,rfl⟩]),λh=>by cases h⟩
   ·obtain⟨z',hz',_⟩:=hstay x.ino x he.hx (λ_=>hl)
    exact⟨z',Or.inl hz',λh=>by cases h⟩
  ·obtain⟨k1,k2,k3,z,k4,k5⟩:=h.kk k' hk'
   refine⟨k1,k2,k3, ?_⟩;rcases k4 with k4|k4
   ·by_cases hx:k'.ino=x.ino/\x.aH=1
    ·refine⟨x.bare,Or.inr (by rw[hpfind,if_pos ⟨hx.2,hx.1.symm⟩]),λhc=> ?_⟩
     rw[hx.1,he.hx] at k4;cases k4;exact k5 hc
    ·obtain⟨z',hz',hzk⟩:=hstay k'.ino z k4 (λe1 e2=>hx ⟨e1,e2⟩)
     exact⟨z',Or.inl hz',λhc=>by rw[hzk];exact k5 hc⟩
   ·refine⟨z,Or.inr ?_,k5⟩
    rw[hpfind,if_neg (λhh=> ?_)]
    ·exact k4
    ·rw[<-hh.2,hpx] at k4;cases k4
def Ay (w:aq) (s:Int) (d:ao) (nm:Str) (x:ao):aq:=⟨ig w.fs d nm x,⟨e_ s w.al.kept,w.al.aO⟩⟩
def gk (d:ao) (y:ao):ao:=⟨y.ino,y.kind,1,y.data,if y.kind=2 then d.ino else 0,y.entries⟩
def sO (w:aq) (s:Int) (d:ao) (nm:Str) (y:ao):aq:=
 ⟨⟨w.fs.ay,w.fs.aB,w.fs.next,bB (gk d y) (bB (d.bO nm y.ino) w.fs.aa)⟩,⟨e_ s w.al.kept,dI y.ino w.al.aO⟩⟩
theorem QU (h:RW w) (hf:je w.fs d nm) (hx:ar x.ino w.fs.aa=some x) (hk:x.kind≠2) (hs:b9 s w.al.kept=some k) (hki:k.ino=x.ino):RW (Ay w s d nm x):=by
 have hxd:x.ino≠d.ino:=λe1=>by
  have:=hf.hd;rw[<-e1,hx] at this;have h2:=Option.some.inj this;exact hk (by rw[h2];exact hf.hk)
 have hfind:=λj=>pf (f:=w.fs) (d:=d) (nm:=nm) (x:=x) hxd j
 have hkm:=iD hs;have hiff:∀j,ar j w.fs.aa=none->ar j (ig w.fs d nm x).aa=none:=λj hj=>by
  rw[hfind];by_cases h1:x.ino=j
  ·rw[<-h1,hx] at hj;cases hj
  ·rw[if_neg h1]
   by_cases h2:d.ino=j
   ·rw[<-h2,hf.hd] at hj;cases hj
   ·rw[if_neg h2];exact hj
 have hstay:∀j z,ar j w.fs.aa=some z->∃z',ar j (ig w.fs d nm x).aa=some z'/\z'.kind=z.kind:=λj z hj=>by
  rw[hfind];by_cases h1:x.ino=j
  ·rw[if_pos h1]
   rw[<-h1,hx] at hj;cases hj;exact⟨_,rfl,rfl⟩
  ·rw[if_neg h1]
   by_cases h2:d.ino=j
   ·rw[if_pos h2]
    rw[<-h2,hf.hd] at hj;cases hj;exact⟨_,rfl,rfl⟩
   ·rw[if_neg h2];exact⟨z,hj,rfl⟩
 refine⟨Dq h.tr hf hx hk,h.ps,λz hz=> ?_,tY h.ks,λk' hk'=> ?_⟩
 ·obtain⟨p1,p2,p3,p4,k',k1,k2,k3⟩:=h.pk z hz
  refine⟨p1,p2,p3,hiff _ p4,k',iT.2 ⟨k1,λe1=> ?_⟩,k2,k3⟩;have h1:=wo h.ks k1;rw[e1,hs] at h1;cases h1;rw[<-k2,hki,hx] at p4;cases p4
 ·obtain⟨k1,k2,k3,z,k4,k5⟩:=h.kk k' (iT.1 hk').1
  refine⟨k1,k2,k3, ?_⟩;rcases k4 with k4|k4
  ·obtain⟨z',hz',hzk⟩:=hstay _ z k4
   exact⟨z',Or.inl hz',λhc=>by rw[hzk];exact k5 hc⟩
  ·exact⟨z,Or.inr k4,k5⟩
theorem FJ (h:zn y):ft (gk d y)=true:=by
 obtain⟨h1,h2,h3,h4⟩:=h;rcases h4 with h4|⟨h4,h5⟩ |⟨h4,h5,h6,h7⟩
 ·rw[Cm (show(gk d y).kind=1 from h4)];unfold gk;simp [h3,h4]
 ·rw[vg (show(gk d y).kind=2 from h4)];unfold gk;simp [h3,h5,gG,lh]
 ·rw[BH (show(gk d y).kind=3 from h4)]
  show(y.entries.isEmpty&&(decide ((if y.kind=2 then d.ino else 0)=0)&&(decide (1<=y.data.length/\y.data.length<=4095)&& !(y.data.any (λb=>b==0)))))=true;rw[h3,h7,h4,if_neg (by decide),decide_eq_true (show 1<=y.data.length/\y.data.length<=4095 from⟨h5,h6⟩)];rfl
theorem MA (h:RW w) (hf:je w.fs d nm) (hy:ar y.ino w.al.aO=some y) (hs:b9 s w.al.kept=some k) (hki:k.ino=y.ino) (hkc:k.content=false) (hfit:cy w.fs 1 (byt y)=true):RW (sO w s d nm y):=by
 obtain⟨p1,p2,p3,p4,p5⟩:=h.jP hy;have hbyt:byt (gk d y)=byt y:=rfl;have hx:ar (gk d y).ino w.fs.aa=none:=p5;have hyd:y.ino≠d.ino:=λe1=>by rw[e1,hf.hd] at p5;cases p5
 have htr:Tree (sO w s d nm y).fs:=IU (x:=gk d y) (nx:=w.fs.next) h.tr hf hx p3 p4 (Int.le_refl _) h.tr.next (FJ p1) rfl p1.2.2.1 (λhk2=>by show(if y.kind=2 then d.ino else 0)=d.ino;rw[if_pos (show y.kind=2 from hk2)]) (by rw[hbyt];exact hfit);have hfind:∀j,ar j (sO w s d nm y).fs.aa=if y.ino=j then some (gk d y) else if d.ino=j then some (d.bO nm y.ino) else ar j w.fs.aa:=λj=>pG (x:=gk d y) j
 have hkm:=iD hs;have hstay:∀j z,ar j w.fs.aa=some z->∃z',ar j (sO w s d nm y).fs.aa=some z'/\z'.kind=z.kind:=λj z hj=>by
  rw[hfind];by_cases h1:y.ino=j
  ·rw[<-h1,p5] at hj;cases hj
  ·rw[if_neg h1]
   by_cases h2:d.ino=j
   ·rw[if_pos h2]
    rw[<-h2,hf.hd] at hj;cases hj;exact⟨_,rfl,rfl⟩
   ·rw[if_neg h2];exact⟨z,hj,rfl⟩
 refine⟨htr,eJ h.ps,λz hz=> ?_,tY h.ks,λk' hk'=> ?_⟩
 ·obtain⟨z1,z2⟩:=gm.1 hz
  obtain⟨q1,q2,q3,q4,k',k1,k2,k3⟩:=h.pk z z1;refine⟨q1,q2,q3, ?_,k',iT.2 ⟨k1,λe1=> ?_⟩,k2,k3⟩
  ·rw[hfind,if_neg (λe1=>z2 e1.symm)]
   by_cases h2:d.ino=z.ino
   ·rw[<-h2,hf.hd] at q4;cases q4
   ·rw[if_neg h2];exact q4
  ·have h1:=wo h.ks k1
   rw[e1,hs] at h1;cases h1;exact z2 (by rw[<-k2,hki])
 ·obtain⟨k1,k2,k3,z,k4,k5⟩:=h.kk k' (iT.1 hk').1
  refine⟨k1,k2,k3, ?_⟩;rcases k4 with k4|k4
  ·obtain⟨z',hz',hzk⟩:=hstay _ z k4
   exact⟨z',Or.inl hz',λhc=>by rw[hzk];exact k5 hc⟩
  ·by_cases h1:y.ino=k'.ino
   ·refine⟨gk d y,Or.inl (by rw[hfind,if_pos h1]),λhc=> ?_⟩
    rw[<-h1,hy] at k4;cases k4;exact k5 hc
   ·refine⟨z,Or.inr ?_,k5⟩
    show ar k'.ino (dI y.ino w.al.aO)=some z;rw[tH,if_neg h1];exact k4
def pr (w:aq) (s:Int) (x:ao):aq:=⟨w.fs,⟨uA ⟨s,x.ino,true,x.data⟩ w.al.kept,w.al.aO⟩⟩
def BP (w:aq) (s:Int) (x:ao) (t:Str):aq:=⟨w.fs.set (x.cd t),⟨e_ s w.al.kept,w.al.aO⟩⟩
theorem Ly (h:RW w) (hx:ar x.ino w.fs.aa=some x) (hk:x.kind=1) (hs1:1<=s) (hs2:s<=1073741824) (hs:b9 s w.al.kept=none):RW (pr w s x):=by
 refine⟨h.tr,h.ps,λz hz=> ?_,wO h.ks hs,λk' hk'=> ?_⟩
 ·obtain⟨p1,p2,p3,p4,k',k1,k2,k3⟩:=h.pk z hz
  exact⟨p1,p2,p3,p4,k',jj.2 (Or.inr k1),k2,k3⟩
 ·rcases jj.1 hk' with rfl|hk'
  ·exact⟨hs1,hs2,(λh=>by cases h),x,Or.inl hx,λ_=>hk⟩
  ·exact h.kk k' hk'
theorem I0 (h:RW w) (hx:ar x.ino w.fs.aa=some x) (hk:x.kind=1) {t:Str} (hfit:cy w.fs 0 ((t.length:Int) - (x.data.length:Int))=true):RW ⟨w.fs.set (x.cd t),w.al⟩:=by
 have hfind:∀j,ar j (w.fs.set (x.cd t)).aa=if x.ino=j then some (x.cd t) else ar j w.fs.aa:=λj=>bA
 refine⟨h.tr.Oa hx hk hfit,h.ps,λz hz=> ?_,h.ks,λk' hk'=> ?_⟩
 ·obtain⟨p1,p2,p3,p4,k',k1,k2,k3⟩:=h.pk z hz
  refine⟨p1,p2,p3, ?_,k',k1,k2,k3⟩;show ar z.ino (w.fs.set (x.cd t)).aa=none;rw[hfind,if_neg (λe1=>by rw[<-e1,hx] at p4;cases p4)];exact p4
 ·obtain⟨k1,k2,k3,z,k4,k5⟩:=h.kk k' hk'
  refine⟨k1,k2,k3, ?_⟩;rcases k4 with k4|k4
  ·by_cases h1:x.ino=k'.ino
   ·refine⟨x.cd t,Or.inl (by show ar _ (w.fs.set (x.cd t)).aa=_;rw[hfind,if_pos h1]),λ_=>hk⟩
   ·exact⟨z,Or.inl (by show ar _ (w.fs.set (x.cd t)).aa=_;rw[hfind,if_neg h1];exact k4),k5⟩
  ·exact⟨z,Or.inr k4,k5⟩
theorem MT (h:RW w) (hs:b9 s w.al.kept=some k) (hc:k.content=true):RW ⟨w.fs,⟨e_ s w.al.kept,w.al.aO⟩⟩:=by
 refine⟨h.tr,h.ps,λz hz=> ?_,tY h.ks,λk' hk'=>h.kk k' (iT.1 hk').1⟩;obtain⟨p1,p2,p3,p4,k',k1,k2,k3⟩:=h.pk z hz;refine⟨p1,p2,p3,p4,k',iT.2 ⟨k1,λe1=> ?_⟩,k2,k3⟩;have h1:=wo h.ks k1;rw[e1,hs] at h1;cases h1;rw[hc] at k3;cases k3
theorem KV (h:RW w) (hx:ar x.ino w.fs.aa=some x) (hs:b9 s w.al.kept=some k) (hc:k.content=true) (hk:x.kind=1) (hfit:cy w.fs 0 ((k.data.length:Int) - (x.data.length:Int))=true):RW (BP w s x k.data):=
 MT (w:=⟨w.fs.set (x.cd k.data),w.al⟩) (I0 h hx hk hfit) hs hc
theorem aq.ext {a b:aq} (h1:a.fs=b.fs) (h2:a.al.kept=b.al.kept) (h3:a.al.aO=b.al.aO):a=b:=by
 obtain⟨af,ak,ap⟩:=a;obtain⟨bf,bk,bp⟩:=b;simp only at h1 h2 h3;subst h1;subst h2;subst h3;rfl
theorem Jn (h:RW w) (he:Ent w.fs d nm x e) (hs:b9 s w.al.kept=none) (hl:x.aH≠1):Ay (fX w s d nm x) s (d.b6 nm) nm (x.cL (x.aH - 1))=w:=by
 have hne:=he.ne h.tr;have hsE:=(h.tr.eN he.hd).2.2.2.2.1;refine aq.ext ?_ (wx (a:=⟨s,x.ino,false, []⟩) h.ks hs) ?_
 ·have hm:=np (f:=w.fs) (d:=d) (x:=x) (nm:=nm)
  refine wa hm.1 hm.2.1 hm.2.2 (Cf (sj h.tr.sort)) h.tr.sort λj=> ?_
  show ar j (ig (dE w.fs d nm x) (d.b6 nm) nm (x.cL (x.aH - 1))).aa=_;rw[pf (show(x.cL (x.aH - 1)).ino≠(d.b6 nm).ino from hne),cZ hne];show(if x.ino=j then some ((x.cL (x.aH - 1)).cL (x.aH - 1+1)) else if d.ino=j then some ((d.b6 nm).bO nm x.ino) else _)=_;by_cases h1:x.ino=j
  ·rw[if_pos h1,<-h1,he.hx]
   have:x.aH - 1+1=x.aH:=by omega
   rw[this];rfl
  ·rw[if_neg h1,if_neg h1]
   by_cases h2:d.ino=j
   ·rw[if_pos h2,<-h2,he.hd]
    show some (ao.mk d.ino d.kind d.aH d.data d.parent (fg ⟨nm,x.ino⟩ (cH nm d.entries)))=some d;rw[<-he.hn,rW hsE he.he]
   ·rw[if_neg h2,if_neg h2]
 ·show(if x.aH=1 then bB x.bare w.al.aO else w.al.aO)=_
  rw[if_neg hl]
theorem FH (h:RW w) (he:Ent w.fs d nm x e) (hx0:x.entries= []) (hs:b9 s w.al.kept=none) (hl:x.aH=1):sO (fX w s d nm x) s (d.b6 nm) nm x.bare=w:=by
 have hne:=he.ne h.tr;have hsE:=(h.tr.eN he.hd).2.2.2.2.1;have hpx:ar x.ino w.al.aO=none:=h.m6 he.hx;have hback:gk (d.b6 nm) x.bare=x:=by
  have hk:=(h.tr.eN he.hx).1;have hp:x.parent=if x.kind=2 then d.ino else 0:=by
   by_cases h2:x.kind=2
   ·rw[if_pos h2];exact h.tr.parent he.hx h2 he.hd he.mem.1 he.hn
   ·rw[if_neg h2]
    by_cases h1:x.kind=1
    ·rw[Cm h1] at hk;simp only[Bool.and_eq_true,decide_eq_true_eq] at hk;exact hk.2
    ·by_cases h3:x.kind=3
     ·rw[BH h3] at hk;simp only[Bool.and_eq_true,decide_eq_true_eq] at hk;exact hk.2.1
     ·rw[IV h1 h2 h3] at hk;cases hk
  show ao.mk x.ino x.kind 1 x.data (if x.kind=2 then d.ino else 0) x.entries=x;rw[<-hp,<-hl]
 refine aq.ext ?_ (wx (a:=⟨s,x.ino,false, []⟩) h.ks hs) ?_
 ·have hm:=np (f:=w.fs) (d:=d) (x:=x) (nm:=nm)
  refine wa hm.1 hm.2.1 hm.2.2 (bV (bV (sj h.tr.sort))) h.tr.sort λj=> ?_
  show ar j (bB (gk (d.b6 nm) x.bare) (bB ((d.b6 nm).bO nm x.ino) (dE w.fs d nm x).aa))=_;rw[hback,bA,bA,cZ hne];show(if x.ino=j then some x else if d.ino=j then some ((d.b6 nm).bO nm x.ino) else _)=_;by_cases h1:x.ino=j
  ·rw[if_pos h1,<-h1,he.hx]
  ·rw[if_neg h1,if_neg h1]
   by_cases h2:d.ino=j
   ·rw[if_pos h2,<-h2,he.hd]
    show some (ao.mk d.ino d.kind d.aH d.data d.parent (fg ⟨nm,x.ino⟩ (cH nm d.entries)))=some d;rw[<-he.hn,rW hsE he.he]
   ·rw[if_neg h2,if_neg h2]
 ·show dI x.ino (if x.aH=1 then bB x.bare w.al.aO else w.al.aO)=_
  rw[if_pos hl];refine fU loI (eJ (bV h.ps)) h.ps λj=> ?_
  show ar j (dI x.ino (bB x.bare w.al.aO))=ar j w.al.aO;rw[tH,bA];show(if x.ino=j then none else if x.ino=j then _ else _)=_;by_cases h1:x.ino=j
  ·rw[if_pos h1,<-h1,hpx]
  ·rw[if_neg h1,if_neg h1]
theorem EN (h:RW w) (hx:ar x.ino w.fs.aa=some x) (hs:b9 s w.al.kept=none) {t:Str}:BP ⟨w.fs.set (x.cd t),(pr w s x).al⟩ s (x.cd t) x.data=w:=by
 refine aq.ext ?_ (wx (a:=⟨s,x.ino,true,x.data⟩) h.ks hs) rfl;show(w.fs.set (x.cd t)).set ((x.cd t).cd x.data)=w.fs;rw[set_set (show(x.cd t).ino=((x.cd t).cd x.data).ino from rfl) h.tr.sort];exact E7 h.tr.sort hx
end
def n8 (w:aq) (s:Int) (a:au):aq×Int:=
 match b9 s w.al.kept with
 |some _=>(w,13)
 |none=>(⟨dF w.fs a,⟨uA ⟨s,a.ino,false, []⟩ w.al.kept,if (aC a.ino w.fs.aa).aH=1 then bB (aC a.ino w.fs.aa).bare w.al.aO else w.al.aO⟩⟩,0)
def mC (w:aq) (s:Int) (a:au):aq×Int:=
 match b9 s w.al.kept with
 |none=>(w,13)
 |some k=>if k.content=true then (w,13) else if eP a.name=true then
  match ar k.ino w.fs.aa with
  |some x=>if x.kind=2 then (w,9) else (⟨od w.fs a k.ino,⟨e_ s w.al.kept,w.al.aO⟩⟩,0)
  |none=>if cy w.fs 1 (byt (aC k.ino w.al.aO))=true then (⟨od (w.fs.set (if (aC k.ino w.al.aO).kind=2 then (aC k.ino w.al.aO).gB a.dir else aC k.ino w.al.aO)) a k.ino,⟨e_ s w.al.kept,dI k.ino w.al.aO⟩⟩,0) else (w,8)
  else (w,9)
def wB (w:aq) (s i:Int):aq×Int:=
 match b9 s w.al.kept with
 |some _=>(w,13)
 |none=>(⟨w.fs,⟨uA ⟨s,i,true,(aC i w.fs.aa).data⟩ w.al.kept,w.al.aO⟩⟩,0)
def jZ (w:aq) (s:Int):aq×Int:=
 match b9 s w.al.kept with
 |none=>(w,13)
 |some k=>if k.content=true then
  match ar k.ino w.fs.aa with
  |none=>(w,13)
  |some x=>if cy w.fs 0 ((k.data.length:Int) - (x.data.length:Int))=true then (BP w s x k.data,0) else (w,8)
  else (w,13)
section
variable {lim:Int} {w:aq} {f:Fs} {d x y:ao} {nm:Str} {e:Entry} {n m:Nat} {s i:Int} {k:Kept} {a:au}
theorem Fe (k:Kept) (l:List Kept):(uA k l).length=l.length+1:=rf l
theorem wI (n:Int) (l:List Kept):(e_ n l).length<=l.length:=dQ
theorem NA:(dE f d nm x).next=f.next:=(np (f:=f) (d:=d) (x:=x) (nm:=nm)).2.2
theorem Mn (h:RW w) (b:Wb lim n w) (he:Ent w.fs d nm x e):Wb lim (n+1) (fX w s d nm x):=by
 refine⟨(b.bd.dE h.tr he).mono (by omega), ?_, ?_, ?_,λk hk=> ?_,λz hz=> ?_⟩
 ·show(dE w.fs d nm x).next<=_
  rw[NA];have:=b.nx;omega
 ·show(uA _ w.al.kept).length<=_
  rw[Fe];have:=b.kl;omega
 ·show(if x.aH=1 then bB x.bare w.al.aO else w.al.aO).length<=_
  have:=b.pl;split
  ·have:(bB x.bare w.al.aO).length<=w.al.aO.length+1:=nF
   omega
  ·omega
 ·rcases jj.1 hk with rfl|hk
  ·simp
  ·exact b.kd k hk
 ·have hz':z∈(if x.aH=1 then bB x.bare w.al.aO else w.al.aO):=hz
  split at hz'
  ·rcases dj.1 hz' with rfl|⟨hz',_⟩
   ·exact(b.bd.find he.hx).2
   ·exact b.pd z hz'
  ·exact b.pd z hz'
theorem Jc {fol:Bool} (h:RW w) (b:Wb lim n w) (hn:n<=9000) (ga:Gd w.fs fol a) (an:a.name≠ []) (hx:ar a.ino w.fs.aa=some x) (hx0:x.entries= []) (hs1:1<=s) (hs2:s<=1073741824):
 ((b9 s w.al.kept).isSome=true/\n8 w s a=(w,13))\/(b9 s w.al.kept=none/\∃e,zw w.fs n a x e (dF w.fs a)/\pc w.fs a=dF w.fs a/\n8 w s a=(fX w s (aC a.dir w.fs.aa) a.name x,0)/\RW (fX w s (aC a.dir w.fs.aa) a.name x)/\Wb lim (n+1) (fX w s (aC a.dir w.fs.aa) a.name x)):=by
 unfold n8;cases hs:b9 s w.al.kept with
 |some k=>exact Or.inl ⟨rfl,rfl⟩
 |none=>
  obtain⟨e,t,t2⟩:=taken h.tr b.bd hn ga an hx hx0;refine Or.inr ⟨rfl,e,t,t2, ?_,IX h t.ent hx0 hs1 hs2 hs,Mn h b t.ent⟩;simp only;rw[aT hx,t.eq];unfold fX;rw[t.Tf]
theorem vT {fs:Fs} (hf:je fs (aC a.dir fs.aa) a.name) (hs:(aC a.dir fs.aa).ino=a.dir) (hsort:ct fs.aa) (hy:ar y.ino fs.aa=none) (hyl:y.aH=0) (hyp:y.parent=0):
 od (fs.set (if y.kind=2 then y.gB a.dir else y)) a y.ino=⟨fs.ay,fs.aB,fs.next,bB (gk (aC a.dir fs.aa) y) (bB ((aC a.dir fs.aa).bO a.name y.ino) fs.aa)⟩/\
 tU (fs.set (if y.kind=2 then y.gB a.dir else y)) a y.ino=⟨fs.ay,fs.aB,fs.next,bB (gk (aC a.dir fs.aa) y) (bB ((aC a.dir fs.aa).bO a.name y.ino) fs.aa)⟩:=by
 generalize hz:(if y.kind=2 then y.gB a.dir else y)=z;have hzi:z.ino=y.ino:=by rw[<-hz];split<;>rfl
 have hne:y.ino≠a.dir:=λe1=>by
  have:=hf.hd;rw[hs,<-e1,hy] at this;cases this
 have hd:aC a.dir (fs.set z).aa=aC a.dir fs.aa:=by
  show aC a.dir (bB z fs.aa)=_;rw[lP,hzi,if_neg hne]
 have hzl:z.cL (z.aH+1)=gk (aC a.dir fs.aa) y:=by
  rw[<-hz];unfold gk;split
  ·show ao.mk y.ino y.kind (y.aH+1) y.data a.dir y.entries=_
   rw[hyl,hs];rfl
  ·show ao.mk y.ino y.kind (y.aH+1) y.data y.parent y.entries=_
   rw[hyl,hyp];rfl
 have hg1:aC y.ino ((fs.set z).set ((aC a.dir fs.aa).bO a.name y.ino)).aa=z:=by
  show aC y.ino (bB _ (bB z fs.aa))=z;rw[lP];show(if (aC a.dir fs.aa).ino=y.ino then _ else _)=_;rw[if_neg (by rw[hs];exact λe1=>hne e1.symm),lP,if_pos hzi]
 have hg2:aC y.ino (fs.set z).aa=z:=by
  show aC y.ino (bB z fs.aa)=z;rw[lP,if_pos hzi]
 have key:((fs.set z).set ((aC a.dir fs.aa).bO a.name y.ino)).set (z.cL (z.aH+1))=⟨fs.ay,fs.aB,fs.next,bB (gk (aC a.dir fs.aa) y) (bB ((aC a.dir fs.aa).bO a.name y.ino) fs.aa)⟩:=by
  rw[hzl];refine wa rfl rfl rfl (eL (eL (eL hsort _) _) _) (bV (bV hsort)) λj=> ?_
  show ar j (bB (gk _ y) (bB _ (bB z fs.aa)))=ar j (bB (gk _ y) (bB _ fs.aa));rw[bA,bA,bA,bA,bA];show(if y.ino=j then _ else _)=if y.ino=j then _ else _
  by_cases h1:y.ino=j
  ·rw[if_pos h1,if_pos h1]
  ·rw[if_neg h1,if_neg h1,hzi,if_neg h1]
 constructor
 ·unfold od
  rw[hd,hg1];exact key
 ·unfold tU
  rw[hd,hg2];exact key
theorem LR (h:RW w) (b:Wb lim n w) (hf:je w.fs d nm) (hx:ar x.ino w.fs.aa=some x):Wb lim (n+1) (Ay w s d nm x):=by
 refine⟨b.bd.ig h.tr hf hx, ?_, ?_, ?_,λk hk=>b.kd k (iT.1 hk).1,b.pd⟩
 ·show w.fs.next<=_;have:=b.nx;omega
 ·have:=wI s w.al.kept
  show(e_ s w.al.kept).length<=_;have:=b.kl;omega
 ·show w.al.aO.length<=_;have:=b.pl;omega
theorem Lp (h:RW w) (b:Wb lim n w) (hf:je w.fs d nm) (hy:ar y.ino w.al.aO=some y):Wb lim (n+1) (sO w s d nm y):=by
 obtain⟨p1,p2,p3,p4,p5⟩:=h.jP hy;have hlen:=(ry (x:=gk d y) h.tr hf p5).1;have hd:=b.bd.find hf.hd;refine⟨⟨?_,λz hz=> ?_,λz hz=> ?_⟩, ?_, ?_, ?_,λk hk=>b.kd k (iT.1 hk).1,λz hz=>b.pd z (gm.1 hz).1⟩
 ·show(bB (gk d y) (bB (d.bO nm y.ino) w.fs.aa)).length<=_
  have h2:(bB (gk d y) (bB (d.bO nm y.ino) w.fs.aa)).length=w.fs.aa.length+1:=hlen;have:=b.bd.len;omega
 ·have hz':z∈bB (gk d y) (bB (d.bO nm y.ino) w.fs.aa):=hz
  rcases dj.1 hz' with rfl|⟨hz',_⟩
  ·show y.entries.length<=_;rw[p1.2.2.1];simp
  ·rcases dj.1 hz' with rfl|⟨hz',_⟩
   ·have:=rJ ⟨nm,y.ino⟩ d.entries
    show(fg ⟨nm,y.ino⟩ d.entries).length<=_;omega
   ·have:=b.bd.dD z hz';omega
 ·have hz':z∈bB (gk d y) (bB (d.bO nm y.ino) w.fs.aa):=hz
  rcases dj.1 hz' with rfl|⟨hz',_⟩
  ·exact b.pd y (aQ hy).1
  ·rcases dj.1 hz' with rfl|⟨hz',_⟩
   ·exact hd.2
   ·exact b.bd.data z hz'
 ·show w.fs.next<=_;have:=b.nx;omega
 ·have:=wI s w.al.kept
  show(e_ s w.al.kept).length<=_;have:=b.kl;omega
 ·have:(dI y.ino w.al.aO).length<=w.al.aO.length:=dQ
  show(dI y.ino w.al.aO).length<=_;have:=b.pl;omega
theorem KF {fol:Bool} (h:RW w) (b:Wb lim n w) (hn:n<=9000) (ga:Gd w.fs fol a) (a0:a.ino=0):
 (∃e:Int,e≠0/\mC w s a=(w,e))\/
 (∃k,b9 s w.al.kept=some k/\k.content=false/\je w.fs (aC a.dir w.fs.aa) a.name/\(aC a.dir w.fs.aa).ino=a.dir/\
  ((∃x,ar k.ino w.fs.aa=some x/\x.kind≠2/\mC w s a=(Ay w s (aC a.dir w.fs.aa) a.name x,0)/\RW (Ay w s (aC a.dir w.fs.aa) a.name x)/\Wb lim (n+1) (Ay w s (aC a.dir w.fs.aa) a.name x))\/
   (∃y,ar k.ino w.fs.aa=none/\ar k.ino w.al.aO=some y/\y.ino=k.ino/\cy w.fs 1 (byt y)=true/\mC w s a=(sO w s (aC a.dir w.fs.aa) a.name y,0)/\RW (sO w s (aC a.dir w.fs.aa) a.name y)/\Wb lim (n+1) (sO w s (aC a.dir w.fs.aa) a.name y)))):=by
 have ew:=ja h.tr b.bd (by omega);unfold mC;cases hs:b9 s w.al.kept with
 |none=>exact Or.inl ⟨13,by decide,rfl⟩
 |some k=>
  simp only;by_cases hc:k.content=true
  ·exact Or.inl ⟨13,by decide,by rw[if_pos hc]⟩
  rw[if_neg hc];by_cases hm:eP a.name=true
  ·rw[if_pos hm]
   obtain⟨hf,hfi⟩:=rY h.tr ew.wf ga a0 hm;cases hx:ar k.ino w.fs.aa with
   |some x=>
    simp only;have hxi:=(aQ hx).2;by_cases hk:x.kind=2
    ·exact Or.inl ⟨9,by decide,by rw[if_pos hk]⟩
    ·rw[if_neg hk]
     have hxx:ar x.ino w.fs.aa=some x:=by rw[hxi];exact hx
     refine Or.inr ⟨k,rfl,by simpa using hc,hf,hfi,Or.inl ⟨x,hx,hk, ?_,QU h hf hxx hk hs hxi.symm,LR h b hf hxx⟩⟩;rw[(rE hf hx hk).1];rfl
   |none=>
    simp only;have hkm:=iD hs;obtain⟨_,_,_,y,hy,_⟩:=h.kk k hkm.1;rw[hx] at hy;have hy:=hy.resolve_left (λh=>by cases h);obtain⟨p1,p2,p3,p4,p5⟩:=h.jP hy;have hyy:ar y.ino w.al.aO=some y:=by rw[p2];exact hy
    rw[aT hy];cases hfit:cy w.fs 1 (byt y)
    ·exact Or.inl ⟨8,by decide,rfl⟩
    ·rw[if_pos rfl]
     refine Or.inr ⟨k,rfl,by simpa using hc,hf,hfi,Or.inr ⟨y,hx,hy,p2,hfit, ?_,MA h hf hyy hs p2.symm (by simpa using hc) hfit,Lp h b hf hyy⟩⟩;rw[<-p2,(vT hf hfi h.tr.sort (by rw[p2];exact p5) p1.1 p1.2.1).1];rfl
  ·rw[if_neg hm];exact Or.inl ⟨9,by decide,rfl⟩
theorem Ll (h:RW w) (b:Wb lim n w) (hx:ar x.ino w.fs.aa=some x):Wb lim (n+1) (pr w s x):=by
 refine⟨b.bd.mono (by omega),by show w.fs.next<=_;have:=b.nx;omega, ?_,by show w.al.aO.length<=_;have:=b.pl;omega,λk hk=> ?_,b.pd⟩
 ·show(uA _ w.al.kept).length<=_
  rw[Fe];have:=b.kl;omega
 ·rcases jj.1 hk with rfl|hk
  ·exact(b.bd.find hx).2
  ·exact b.kd k hk
theorem Gv (h:RW w) (b:Wb lim n w):(∃e:Int,e≠0/\jZ w s=(w,e))\/∃k x,b9 s w.al.kept=some k/\k.content=true/\ar k.ino w.fs.aa=some x/\x.kind=1/\cy w.fs 0 ((k.data.length:Int) - (x.data.length:Int))=true/\jZ w s=(BP w s x k.data,0)/\RW (BP w s x k.data)/\Wb lim (n+1) (BP w s x k.data):=by
 unfold jZ;cases hs:b9 s w.al.kept with
 |none=>exact Or.inl ⟨13,by decide,rfl⟩
 |some k=>
  simp only;by_cases hc:k.content=true
  ·rw[if_pos hc]
   cases hx:ar k.ino w.fs.aa with
   |none=>exact Or.inl ⟨13,by decide,rfl⟩
   |some x=>
    simp only;have hi:=(aQ hx).2;have hxx:ar x.ino w.fs.aa=some x:=by rw[hi];exact hx
    have hkm:=iD hs;have hk1:x.kind=1:=by
     obtain⟨_,_,_,z,hz,hz2⟩:=h.kk k hkm.1;rcases hz with hz|hz
     ·rw[hx] at hz;cases hz;exact hz2 hc
     ·rw[h.m6 hx] at hz;cases hz
    cases hfit:cy w.fs 0 ((k.data.length:Int) - (x.data.length:Int))
    ·exact Or.inl ⟨8,by decide,rfl⟩
    ·rw[if_pos rfl]
     refine Or.inr ⟨k,x,rfl,hc,hx,hk1,hfit,rfl,KV h hxx hs hc hk1 hfit, ?_⟩;refine⟨(b.bd.put (y:=x.cd k.data) (z:=x) (m:=n) h.tr.sort hxx (Nat.le_refl _) (b.bd.find hxx).1 (b.kd k hkm.1)).mono (by omega),by show w.fs.next<=_;have:=b.nx;omega, ?_,by show w.al.aO.length<=_;have:=b.pl;omega,λk' hk'=>b.kd k' (iT.1 hk').1,b.pd⟩;have:=wI s w.al.kept;show(e_ s w.al.kept).length<=_;have:=b.kl;omega
  ·rw[if_neg hc];exact Or.inl ⟨13,by decide,rfl⟩
theorem JY (h:RW w) (b:Wb lim n w) (am:eP a.name=true) (hs1:1<=s) (hs2:s<=1073741824) (hs:b9 s w.al.kept=none) (tk:zw w.fs n a x e (dF w.fs a)):
 mC (fX w s (aC a.dir w.fs.aa) a.name x) s ⟨a.dir,a.name,0⟩=(w,0):=by
 have hne:=tk.ent.ne h.tr;have hfind:=λj=>cZ (f:=w.fs) (d:=aC a.dir w.fs.aa) (nm:=a.name) (x:=x) hne j
 have hfs:b9 s (fX w s (aC a.dir w.fs.aa) a.name x).al.kept=some ⟨s,x.ino,false, []⟩:=by
  show bT Kept.slot s (jB ltI Kept.slot ⟨s,x.ino,false, []⟩ w.al.kept)=_;rw[r4 (pK hs),if_pos rfl]
 have hdir:aC a.dir (fX w s (aC a.dir w.fs.aa) a.name x).fs.aa=(aC a.dir w.fs.aa).b6 a.name:=by
  refine aT ?_;show ar a.dir (dE w.fs _ _ _).aa=_;rw[hfind,if_neg (by rw[<-tk.JZ];exact hne),if_pos tk.JZ]
 have rw1:=IX h tk.ent tk.xe hs1 hs2 hs;have fr1:je (fX w s (aC a.dir w.fs.aa) a.name x).fs ((aC a.dir w.fs.aa).b6 a.name) a.name:=(BT tk.ent h.tr).2;unfold mC;rw[hfs];simp only;rw[if_neg (by decide),am,if_pos rfl];by_cases hl:x.aH=1
 ·have hg0:ar x.ino (fX w s (aC a.dir w.fs.aa) a.name x).fs.aa=none:=by
   show ar x.ino (dE w.fs _ _ _).aa=none;rw[hfind,if_pos rfl,if_pos hl]
  rw[hg0];simp only;have hp1:ar x.ino (fX w s (aC a.dir w.fs.aa) a.name x).al.aO=some x.bare:=by
   show ar x.ino (if x.aH=1 then bB x.bare w.al.aO else w.al.aO)=_;rw[if_pos hl,bA,if_pos (show x.bare.ino=x.ino from rfl)]
  rw[aT hp1];have hfit:cy (fX w s (aC a.dir w.fs.aa) a.name x).fs 1 (byt x.bare)=true:=by
   have hsum:=yK h.tr tk.ent tk.xe;have hm:=np (f:=w.fs) (d:=aC a.dir w.fs.aa) (x:=x) (nm:=a.name);have hff:=h.tr.fits;have hb:byt x.bare=byt x:=rfl;rw[if_pos hl,if_pos hl] at hsum;unfold cy at hff⊢;simp only[Bool.and_eq_true,decide_eq_true_eq] at hff⊢;show((dE w.fs _ _ _).aa.length:Int)+1<=(dE w.fs _ _ _).ay/\bytesOf (dE w.fs _ _ _).aa+byt x.bare<=(dE w.fs _ _ _).aB;rw[hm.1,hm.2.1,hb];omega
  rw[hfit,if_pos rfl];have hk:=rw1.jP hp1;have hnn:=(vT (a:=⟨a.dir,a.name,0⟩) (y:=x.bare) (fs:=(fX w s (aC a.dir w.fs.aa) a.name x).fs) (by show je _ (aC a.dir _) a.name;rw[hdir];exact fr1) (by show(aC a.dir _).ino=a.dir;rw[hdir];exact tk.JZ) rw1.tr.sort hg0 rfl rfl).1;have hnn':od ((fX w s (aC a.dir w.fs.aa) a.name x).fs.set (if x.bare.kind=2 then x.bare.gB a.dir else x.bare)) ⟨a.dir,a.name,0⟩ x.ino=_:=hnn;rw[hnn'];simp only;rw[hdir];have:=FH h tk.ent tk.xe hs hl;unfold sO at this;exact congrArg (λv=>(v,(0:Int))) this
 ·have hg0:ar x.ino (fX w s (aC a.dir w.fs.aa) a.name x).fs.aa=some (x.cL (x.aH - 1)):=by
   show ar x.ino (dE w.fs _ _ _).aa=_;rw[hfind,if_pos rfl,if_neg hl]
  rw[hg0];simp only;have hk2:x.kind≠2:=λhk2=>by
   have h1:=h.tr.uN tk.ent.hx hk2;have h2:=(h.tr.eN tk.ent.hx).2.1;have h3:=B0 h.tr tk.ent.hx (λe1=>h.tr.qX tk.ent.hd tk.ent.mem.1 (by rw[tk.ent.hn,e1]));omega
  rw[if_neg (show¬(x.cL (x.aH - 1)).kind=2 from hk2)];have hnm:=(rE (f:=(fX w s (aC a.dir w.fs.aa) a.name x).fs) (s:=⟨a.dir,a.name,0⟩) (by show je _ (aC a.dir _) a.name;rw[hdir];exact fr1) hg0 hk2).1;rw[hnm];show((⟨ig _ (aC a.dir _) a.name _,_⟩:aq),(0:Int))=_;rw[hdir];have:=Jn h tk.ent hs hl;unfold Ay at this;exact congrArg (λv=>(v,(0:Int))) this
end
def b_ (p:Str):Bool:=(bZ p).2&& !(bZ p).1.isEmpty
def jv (s:Str):Bool:=decide (1<=s.length/\s.length<=4095)&& !(s.any λb=>b==0)
def fu (p q:Str):Bool:=decide ((b8 p).take (b8 q).length=b8 q)
def db (k:Int):Bool:=decide (k=3\/k=7\/k=9\/k=10)
def jT (k:Int):Bool:=decide (k=2\/k=3\/k=5\/k=6)
def gw (o:Opn):Bool:=decide (1<=o.kind/\o.kind<=10)&&(b_ o.a&&((if db o.kind then decide (1<=o.slot/\o.slot<=1073741824) else decide (o.slot=0))&&((if jT o.kind then b_ o.b else decide (o.b= []))&&((if o.kind=4 then jv o.data else decide (o.data= []))&&(!decide (o.kind=6)||(!fu o.a o.b&& !fu o.b o.a))))))
def cN (f:Fs) (p:Str):Int:=if (atP f p).2=0 then (if (atP f p).1.ino=0 then 0 else 2) else (atP f p).2
def bM (f:Fs) (p:Str):Int:=if (atP f p).2=0 then (match ar (atP f p).1.ino f.aa with|some _=>0|none=>1) else (atP f p).2
def cO (f:Fs) (p:Str):ao:=aC (atP f p).1.ino f.aa
def gD (f:Fs) (p:Str):Int:=if bM f p=0 then (if (cO f p).kind=2 then 4 else if (cO f p).kind=1 then 0 else 9) else bM f p
def nQ (w:aq) (p:Str) (k:Int) (d:Str):aq×Int:=if cN w.fs p=0 then (⟨(rv w.fs (atP w.fs p).1 k d).1,w.al⟩,(rv w.fs (atP w.fs p).1 k d).2) else (w,cN w.fs p)
def xC (w:aq) (o:Opn):aq×Int:=if gD w.fs o.a=0 then nQ w o.b 1 (cO w.fs o.a).data else (w,gD w.fs o.a)
def qt (w:aq) (o:Opn):aq×Int:=
 if gD w.fs o.a=0 then (if gD w.fs o.b=0 then (if (cO w.fs o.a).ino=(cO w.fs o.b).ino then (w,9) else
  match b9 o.slot w.al.kept with
  |some _=>(w,13)
  |none=>if (sS w.fs (cO w.fs o.b).ino (cO w.fs o.a).data).2=0 then (⟨(sS w.fs (cO w.fs o.b).ino (cO w.fs o.a).data).1,(pr w o.slot (cO w.fs o.b)).al⟩,0) else (w,(sS w.fs (cO w.fs o.b).ino (cO w.fs o.a).data).2)) else (w,gD w.fs o.b)) else (w,gD w.fs o.a)
def sZ (w:aq) (o:Opn):aq×Int:=
 if bM w.fs o.a=0 then (if (cO w.fs o.a).kind=2 then (w,11) else if cN w.fs o.b=0 then (⟨od w.fs (atP w.fs o.b).1 (cO w.fs o.a).ino,w.al⟩,0) else (w,cN w.fs o.b)) else (w,bM w.fs o.a)
def sK (w:aq) (o:Opn):aq×Int:=
 if bM w.fs o.a=0 then (if cN w.fs o.b=0 then (⟨ij w.fs (atP w.fs o.a).1 (atP w.fs o.b).1,w.al⟩,0) else (w,cN w.fs o.b)) else (w,bM w.fs o.a)
def jQ (w:aq) (p:Str) (how:aq×Int):aq×Int:=if bM w.fs p=0 then (if 0<(cO w.fs p).entries.length then (w,5) else how) else (w,bM w.fs p)
def lj (w:aq) (a:au):aq×Int:=
 if (w.al.kept.any λk=>decide (k.ino=(aC a.ino w.fs.aa).ino))=true/\(aC a.ino w.fs.aa).aH=1 then (w,13) else (⟨dF w.fs a,w.al⟩,0)
def jt (w:aq) (o:Opn):aq×Int:=if cN w.fs o.a=0 then mC w o.slot (atP w.fs o.a).1 else (w,cN w.fs o.a)
def gR (w:aq) (o:Opn):aq×Int:=
 if bM w.fs o.a=0 then (match b9 o.slot w.al.kept with|none=>(w,13) |some k=>if k.content=true/\k.ino=(cO w.fs o.a).ino then jZ w o.slot else (w,13)) else (w,bM w.fs o.a)
def doO (w:aq) (o:Opn):aq×Int:=
 if gw o=true then
  (if o.kind=1 then nQ w o.a 2 [] else if o.kind=2 then xC w o else if o.kind=3 then qt w o else if o.kind=4 then nQ w o.a 3 o.data else if o.kind=5 then sZ w o else if o.kind=6 then sK w o else
   if o.kind=7 then jQ w o.a (n8 w o.slot (atP w.fs o.a).1) else if o.kind=8 then jQ w o.a (lj w (atP w.fs o.a).1) else if o.kind=9 then jt w o else gR w o)
 else (w,12)
def dy (o:Opn):Opn×Bool:=
 if o.kind=1\/o.kind=4 then (⟨8,0,o.a, [], []⟩,true) else if o.kind=2\/o.kind=5 then (⟨8,0,o.b, [], []⟩,true) else if o.kind=3 then (⟨10,o.slot,o.b, [], []⟩,true) else
 if o.kind=6 then (⟨6,0,o.b,o.a, []⟩,true) else if o.kind=7 then (⟨9,o.slot,o.a, [], []⟩,true) else (⟨0,0, [], [], []⟩,false)
section
variable {w:aq} {f g:Fs} {d x y:ao} {nm p q:Str} {e:Entry} {n m:Nat} {s i:Int} {k:Kept} {a b:au} {o:Opn}
theorem IN (h:RW w) (tr:Tree g) (nx:w.fs.next<=g.next) (hnone:∀j,j<w.fs.next->ar j w.fs.aa=none->ar j g.aa=none) (hstay:∀k∈w.al.kept,∀z,ar k.ino w.fs.aa=some z->∃z',ar k.ino g.aa=some z'/\z'.kind=z.kind):RW ⟨g,w.al⟩:=by
 refine⟨tr,h.ps,λz hz=> ?_,h.ks,λk' hk'=> ?_⟩
 ·obtain⟨p1,p2,p3,p4,k',k1,k2,k3⟩:=h.pk z hz
  exact⟨p1,p2,by show z.ino<g.next;omega,hnone _ p3 p4,k',k1,k2,k3⟩
 ·obtain⟨k1,k2,k3,z,k4,k5⟩:=h.kk k' hk'
  refine⟨k1,k2,k3, ?_⟩;rcases k4 with k4|k4
  ·obtain⟨z',hz',hzk⟩:=hstay k' hk' z k4
   exact⟨z',Or.inl hz',λhc=>by rw[hzk];exact k5 hc⟩
  ·exact⟨z,Or.inr k4,k5⟩
theorem E5 (b:Wb 549755813888 n w) (hb:Bd m g) (hm:n<=m) (nx:g.next<=549755813888+m):Wb 549755813888 m ⟨g,w.al⟩:=⟨hb,nx,by show w.al.kept.length<=_;have:=b.kl;omega,by show w.al.aO.length<=_;have:=b.pl;omega,b.kd,b.pd⟩
theorem eA (w:WF f) (hp:b_ p=true) (h0:(atP f p).2=0):Gd f false (atP f p).1/\eP (atP f p).1.name=true/\(atP f p).1.name≠ [] /\cq f.aa (bZ p).1 dt=((atP f p).1,0)/\(bZ p).1≠ [] /\(bZ p).2=true:=by
 unfold b_ at hp;simp only[Bool.and_eq_true,Bool.not_eq_true',List.isEmpty_eq_false_iff] at hp;obtain⟨h1,h2⟩:=hp;have hat:atP f p=cq f.aa (bZ p).1 dt:=by unfold atP;rw[if_pos h1]
 have hgo:cq f.aa (bZ p).1 dt=((atP f p).1,0):=by rw[<-hat,<-h0]
 have hn:(atP f p).1.name≠ [] :=by
  rcases uO hgo with⟨h3,_⟩ |⟨d,m,ns',h3,h4,h5,h6,h7,h8⟩
  ·exact absurd h3 h2
  ·rw[h7]
   have:=(jG h1).2.1 m (by rw[h3];simp);exact(rZ this).1
 obtain⟨g1,g2,_⟩:=GB w h0 hn;exact⟨g1,g2,hn,hgo,h2,h1⟩
theorem jr (h:cN f p=0):(atP f p).2=0/\(atP f p).1.ino=0:=by
 unfold cN at h;split at h
 ·rename_i h1
  split at h
  ·rename_i h2;exact⟨h1,h2⟩
  ·simp at h
 ·rename_i h1;exact absurd h h1
theorem gO (h:bM f p=0):(atP f p).2=0/\∃x,ar (atP f p).1.ino f.aa=some x/\cO f p=x:=by
 unfold bM at h;by_cases h1:(atP f p).2=0
 ·rw[if_pos h1] at h
  cases hf:ar (atP f p).1.ino f.aa with
  |none=>rw[hf] at h;simp at h
  |some x=>exact⟨h1,x,rfl,aT hf⟩
 ·rw[if_neg h1] at h;exact absurd h h1
theorem yB (h:gD f p=0):(atP f p).2=0/\∃x,ar (atP f p).1.ino f.aa=some x/\cO f p=x/\x.kind=1:=by
 unfold gD at h;by_cases h1:bM f p=0
 ·rw[if_pos h1] at h
  obtain⟨h2,x,h3,h4⟩:=gO h1;rw[h4] at h;by_cases h5:x.kind=2
  ·rw[if_pos h5] at h;simp at h
  rw[if_neg h5] at h;by_cases h6:x.kind=1
  ·exact⟨h2,x,h3,h4,h6⟩
  ·rw[if_neg h6] at h;simp at h
 ·rw[if_neg h1] at h;exact absurd h h1
theorem pg {l:List ao} {ns:List Str} {c:Str} {s t:au} (h:cq l (ns++[c]) s=(t,0)):∃u d,cq l ns s=(u,0)/\ar u.ino l=some d/\d.kind=2/\t=⟨d.ino,c,cm c d.entries⟩:=by
 rw[rD] at h;by_cases h0:(cq l ns s).2=0
 ·rw[if_pos h0] at h
  have hpre:cq l ns s=((cq l ns s).1,0):=by rw[<-h0]
  generalize (cq l ns s).1=u at*;cases hf:ar u.ino l with
  |none=>rw[ia hf] at h;simp at h
  |some d=>
   by_cases hk:d.kind=2
   ·rw[eM hf hk] at h
    simp only[cq,Prod.mk.injEq] at h;exact⟨u,d,hpre,hf,hk,h.1.symm⟩
   ·rw[gY hf hk] at h;simp at h
 ·rw[if_neg h0] at h
  simp only[Prod.mk.injEq] at h;exact absurd h.2 h0
theorem nq {α:Type} (l:List α):l= [] \/∃a b,l=a++[b]:=by
 rcases Classical.em (l= []) with h|h
 ·exact Or.inl h
 ·exact Or.inr ⟨l.dropLast,l.getLast h,(List.dropLast_concat_getLast h).symm⟩
theorem EV (ht:Tree f) (w:WF f):∀(len:Nat) (ns:List Str) (t:au) (D:ao),ns.length=len->cq f.aa ns dt=(t,0)->ar t.ino f.aa=some D->D.kind=2->
 ∀(ms:List Str) (s:au) (m:Nat),cq f.aa ms dt=(s,0)->(ar s.ino f.aa).isSome=true->Way f.aa s.ino t.ino m->(m=0->ms=ns)/\∃r,ns=ms++r:=by
 have hne0:∀{k:Int},(ar k f.aa).isSome=true->k≠0:=λh e=>by rw[e,w.zero] at h;cases h
 have named:∀{d:ao} {u:Int} {c:Str},ar u f.aa=some d->cm c d.entries≠0->∃e∈d.entries,e.name=c/\e.ino=cm c d.entries:=λhu h=>by
  obtain⟨e,_,h1,h2,h3⟩:=sx h;exact⟨e,h1,h2,h3⟩
 intro len;induction len with
 |zero=>
  intro ns t D hl hgo hD hk ms s m hms hs hw;have hns:ns= [] :=List.length_eq_zero_iff.1 hl;subst hns;simp only[cq,Prod.mk.injEq] at hgo;have ht1:t.ino=1:=by rw[<-hgo.1];rfl
  have hs1:s.ino=1:=by
   rw[ht1] at hw;rcases hw.last with⟨_,h⟩ |⟨j,m',z,e,_,_,hz,he,h⟩
   ·exact h.symm
   ·exact absurd h (ht.qX hz he)
  have hms0:ms= [] :=by
   rcases nq ms with h|⟨a,c,h⟩
   ·exact h
   ·exfalso
    rw[h] at hms;obtain⟨u,d,_,h2,_,h4⟩:=pg hms;have h5:cm c d.entries=1:=by rw[h4] at hs1;exact hs1
    obtain⟨e,he,_,hn⟩:=named h2 (by rw[h5];decide);exact ht.qX h2 he (by rw[hn,h5])
  subst hms0;exact⟨λ_=>rfl, [],rfl⟩
 |succ len ih=>
  intro ns t D hl hgo hD hk ms s m hms hs hw;rcases nq ns with h|⟨ns',c,h⟩
  ·subst h;simp at hl
  subst h;obtain⟨u,d,hu1,hu2,hu3,hu4⟩:=pg hgo;have hti:t.ino=cm c d.entries:=by rw[hu4]
  have ht0:cm c d.entries≠0:=by rw[<-hti];exact hne0 (by rw[hD];rfl)
  obtain⟨e,he,hec,hei⟩:=named hu2 ht0;have hlen:ns'.length=len:=by simpa using hl
  have heD:ar e.ino f.aa=some D:=by rw[hei,<-hti];exact hD
  rcases hw.last with⟨h0,h⟩ |⟨j,m',z,e',h0,hw',hz,he',h⟩
  ·
   rcases nq ms with hm|⟨ms',c',hm⟩
   ·exfalso
    subst hm;simp only[cq,Prod.mk.injEq] at hms;have hs1:s.ino=1:=by rw[<-hms.1];rfl
    exact ht.qX hu2 he (by rw[hei,<-hti,h,hs1])
   ·subst hm
    obtain⟨u',d',hv1,hv2,hv3,hv4⟩:=pg hms;have hsi:s.ino=cm c' d'.entries:=by rw[hv4]
    obtain⟨e2,he2,hec2,hei2⟩:=named hv2 (by rw[<-hsi];exact hne0 hs);obtain⟨q1,q2,q3⟩:=ht.up hu2 he hv2 he2 (by rw[hei,hei2,<-hti,<-hsi,h]) heD hk;have hcc:c=c':=by rw[<-hec,<-hec2,q3]
    obtain⟨i1,_⟩:=ih ns' u d hlen hu1 hu2 hu3 ms' u' 0 hv1 (by rw[hv2];rfl) (by rw[q1];exact .here);have:=i1 rfl;subst this;subst hcc;exact⟨λ_=>rfl, [],by simp⟩
  ·obtain⟨q1,_,_⟩:=ht.up hu2 he hz he' (by rw[hei,<-hti,h]) heD hk
   obtain⟨_,r,hr⟩:=ih ns' u d hlen hu1 hu2 hu3 ms s m' hms hs (by rw[q1];exact hw');exact⟨λh1=>by omega,r++[c],by rw[hr];simp⟩
theorem Dh (ht:Tree f) (w:WF f) (hp:b_ p=true) (hq:b_ q=true) (hu:fu q p=false) (h1:bM f p=0) (h2:cN f q=0):∃x,yL f (atP f p).1 (atP f q).1 x/\cO f p=x:=by
 obtain⟨a0,x,hx,hxi⟩:=gO h1;obtain⟨b0,bi⟩:=jr h2;obtain⟨ga,am,an,ago,ane,apl⟩:=eA w hp a0;obtain⟨gb,bm,bn,bgo,bne,bpl⟩:=eA w hq b0;generalize (atP f p).1=a at*;generalize (atP f q).1=b at*;have ha0:a.ino≠0:=λe=>by rw[e,w.zero] at hx;cases hx
 refine⟨x,⟨ga,an,hx,gb,bn,by rw[bi];exact ha0,λhk ⟨m,hm⟩=> ?_,(λy hy=>by rw[bi,w.zero] at hy;cases hy),λ_=>bm⟩,hxi⟩;obtain⟨p1,p2,p3⟩:=jG apl;obtain⟨q1,q2,q3⟩:=jG bpl;rcases nq (bZ q).1 with h|⟨ns',c,h⟩
 ·exact bne h
 rw[h] at bgo;obtain⟨u,d,hu1,hu2,hu3,hu4⟩:=pg bgo;have hbd:b.dir=u.ino:=by rw[hu4];exact(aQ hu2).2
 rw[hbd] at hm;obtain⟨_,r,hr⟩:=EV ht w ns'.length ns' u d rfl hu1 hu2 hu3 _ _ m ago (by rw[hx];rfl) hm;have:fu q p=true:=by
  unfold fu;rw[<-p3,<-q3,h,hr];simp
 rw[hu] at this;cases this
end
section
variable {w:aq} {f g:Fs} {d x y z:ao} {nm p q t:Str} {e:Entry} {n m:Nat} {s i:Int} {k:Kept} {a b:au} {o:Opn}
theorem qJ.stay (m:qJ f g d nm x) {j:Int} (hd:ar d.ino f.aa=some d) (h:ar j f.aa=some z):∃z',ar j g.aa=some z'/\z'.kind=z.kind:=by
 rw[m.find];by_cases h1:x.ino=j
 ·rw[if_pos h1]
  rcases m.hx with h2|⟨y,hy,y1,_⟩
  ·rw[h1,h] at h2;cases h2
  ·rw[h1,h] at hy;cases hy
   exact⟨x,rfl,y1.symm⟩
 ·rw[if_neg h1]
  by_cases h2:d.ino=j
  ·rw[if_pos h2]
   rw[<-h2,hd] at h;cases h;exact⟨_,rfl,rfl⟩
  ·rw[if_neg h2];exact⟨z,h,rfl⟩
theorem qJ.none (m:qJ f g d nm x) {j:Int} (hd:ar d.ino f.aa=some d) (h:ar j f.aa=none) (hj:x.ino≠j):ar j g.aa=none:=by
 rw[m.find,if_neg hj];by_cases h2:d.ino=j
 ·rw[<-h2,hd] at h;cases h
 ·rw[if_neg h2];exact h
theorem lf {kd:Int} (h:RW w) (b:Wb 549755813888 n w) (hn:n<=8990) (hp:b_ p=true) (hk:CR kd t) (hd:t.length<=10000000):
 (∃e:Int,e≠0/\nQ w p kd t=(w,e))\/(cN w.fs p=0/\nQ w p kd t=(⟨qI w.fs (atP w.fs p).1 kd t,w.al⟩,0)/\Made w.fs n (atP w.fs p).1 kd t (qI w.fs (atP w.fs p).1 kd t)/\RW ⟨qI w.fs (atP w.fs p).1 kd t,w.al⟩/\Wb 549755813888 (n+2) ⟨qI w.fs (atP w.fs p).1 kd t,w.al⟩):=by
 have ew:=ja h.tr b.bd (by omega);unfold nQ;by_cases h1:cN w.fs p=0
 ·rw[if_pos h1]
  obtain⟨h2,h3⟩:=jr h1;obtain⟨ga,am,an,_⟩:=eA ew.wf hp h2;generalize (atP w.fs p).1=a at*;by_cases h4:(rv w.fs a kd t).2=0
  ·obtain⟨h5,h6,h7⟩:=Ni h4
   obtain⟨hf,hs⟩:=rY h.tr ew.wf ga h3 h6;have hnx:=b.nx;have m:=LG h.tr b.bd hf hs hk hd (by omega) h7;refine Or.inr ⟨h1,by rw[h5],m, ?_, ?_⟩
   ·refine IN h m.tr (by rw[m.next];omega) (λj hj hnone=>m.more.none hf.hd hnone ?_) (λk' _ z hz=>m.more.stay hf.hd hz)
    show w.fs.next≠j;omega
   ·exact E5 b (m.bd.mono (by omega)) (by omega) (by rw[m.next];omega)
  ·refine Or.inl ⟨(rv w.fs a kd t).2,h4, ?_⟩
   rw[MK h4]
 ·exact Or.inl ⟨cN w.fs p,h1,by rw[if_neg h1]⟩
theorem vR (h:RW w) (b:Wb 549755813888 n w) (hn:n<=8990) (hp:b_ o.b=true):
 (∃e:Int,e≠0/\xC w o=(w,e))\/(∃t,cN w.fs o.b=0/\xC w o=(⟨qI w.fs (atP w.fs o.b).1 1 t,w.al⟩,0)/\Made w.fs n (atP w.fs o.b).1 1 t (qI w.fs (atP w.fs o.b).1 1 t)/\RW ⟨qI w.fs (atP w.fs o.b).1 1 t,w.al⟩/\Wb 549755813888 (n+2) ⟨qI w.fs (atP w.fs o.b).1 1 t,w.al⟩):=by
 unfold xC;by_cases h1:gD w.fs o.a=0
 ·rw[if_pos h1]
  have hd:(cO w.fs o.a).data.length<=10000000:=(b.bd.get _).2;rcases lf h b hn hp (kd:=1) (t:=(cO w.fs o.a).data) (Or.inl rfl) hd with h2|h2
  ·exact Or.inl h2
  ·exact Or.inr ⟨_,h2⟩
 ·exact Or.inl ⟨gD w.fs o.a,h1,by rw[if_neg h1]⟩
theorem tE (h:RW w) (b:Wb 549755813888 n w) (hs1:1<=o.slot) (hs2:o.slot<=1073741824):
 (∃e:Int,e≠0/\qt w o=(w,e))\/(∃x y,gD w.fs o.b=0/\cO w.fs o.b=y/\ar (atP w.fs o.b).1.ino w.fs.aa=some y/\ar y.ino w.fs.aa=some y/\y.kind=1/\b9 o.slot w.al.kept=none/\cy w.fs 0 ((x:Str).length - (y.data.length:Int))=true/\qt w o=(⟨w.fs.set (y.cd x),(pr w o.slot y).al⟩,0)/\
  RW ⟨w.fs.set (y.cd x),(pr w o.slot y).al⟩/\Wb 549755813888 (n+2) ⟨w.fs.set (y.cd x),(pr w o.slot y).al⟩):=by
 unfold qt;by_cases h1:gD w.fs o.a=0
 ·rw[if_pos h1]
  by_cases h2:gD w.fs o.b=0
  ·rw[if_pos h2]
   by_cases h3:(cO w.fs o.a).ino=(cO w.fs o.b).ino
   ·exact Or.inl ⟨9,by decide,by rw[if_pos h3]⟩
   rw[if_neg h3];cases hs:b9 o.slot w.al.kept with
   |some k=>exact Or.inl ⟨13,by decide,rfl⟩
   |none=>
    simp only;obtain⟨_,y,hy,hyi,hyk⟩:=yB h2;have hd:(cO w.fs o.a).data.length<=10000000:=(b.bd.get _).2;rw[hyi];have hi:=(aQ hy).2;have hyy:ar y.ino w.fs.aa=some y:=by rw[hi];exact hy
    unfold sS;rw[aT hyy];cases hfit:cy w.fs 0 (((cO w.fs o.a).data.length:Int) - (y.data.length:Int))
    ·exact Or.inl ⟨8,by decide,rfl⟩
    ·rw[if_pos rfl,if_pos rfl]
     have hr:=Ly h hyy hyk hs1 hs2 hs;have hb:=Ll (s:=o.slot) h b hyy;refine Or.inr ⟨(cO w.fs o.a).data,y,h2,rfl,hy,hyy,hyk,trivial,hfit,rfl,I0 (w:=pr w o.slot y) hr hyy hyk hfit, ?_⟩;exact E5 (w:=pr w o.slot y) hb ((hb.bd.put (y:=y.cd (cO w.fs o.a).data) (z:=y) (m:=n+1) h.tr.sort hyy (Nat.le_refl _) (hb.bd.find hyy).1 hd).mono (by omega)) (by omega) (by have:=b.nx;show w.fs.next<=_;omega)
  ·exact Or.inl ⟨gD w.fs o.b,h2,by rw[if_neg h2]⟩
 ·exact Or.inl ⟨gD w.fs o.a,h1,by rw[if_neg h1]⟩
theorem yb (h:RW w) (b:Wb 549755813888 n w) (hn:n<=8990) (hp:b_ o.b=true):
 (∃e:Int,e≠0/\sZ w o=(w,e))\/(∃x,cN w.fs o.b=0/\cO w.fs o.a=x/\ar x.ino w.fs.aa=some x/\x.kind≠2/\je w.fs (aC (atP w.fs o.b).1.dir w.fs.aa) (atP w.fs o.b).1.name/\(aC (atP w.fs o.b).1.dir w.fs.aa).ino=(atP w.fs o.b).1.dir/\x.ino≠(aC (atP w.fs o.b).1.dir w.fs.aa).ino/\
  sZ w o=(⟨ig w.fs (aC (atP w.fs o.b).1.dir w.fs.aa) (atP w.fs o.b).1.name x,w.al⟩,0)/\tU w.fs (atP w.fs o.b).1 x.ino=od w.fs (atP w.fs o.b).1 x.ino/\RW ⟨ig w.fs (aC (atP w.fs o.b).1.dir w.fs.aa) (atP w.fs o.b).1.name x,w.al⟩/\Wb 549755813888 (n+2) ⟨ig w.fs (aC (atP w.fs o.b).1.dir w.fs.aa) (atP w.fs o.b).1.name x,w.al⟩):=by
 have ew:=ja h.tr b.bd (by omega);unfold sZ;by_cases h1:bM w.fs o.a=0
 ·rw[if_pos h1]
  by_cases h2:(cO w.fs o.a).kind=2
  ·exact Or.inl ⟨11,by decide,by rw[if_pos h2]⟩
  rw[if_neg h2];by_cases h3:cN w.fs o.b=0
  ·rw[if_pos h3]
   obtain⟨_,x,hx,hxi⟩:=gO h1;rw[hxi] at h2⊢;obtain⟨b0,bi⟩:=jr h3;obtain⟨gb,bm,bn,_⟩:=eA ew.wf hp b0;generalize (atP w.fs o.b).1=c at*;obtain⟨hf,hs⟩:=rY h.tr ew.wf gb bi bm;have hi:=(aQ hx).2;have hxx:ar x.ino w.fs.aa=some x:=by rw[hi];exact hx
   obtain⟨q1,q2,q3⟩:=rE (s:=c) hf hxx h2;have mo:qJ w.fs (ig w.fs (aC c.dir w.fs.aa) c.name x) (aC c.dir w.fs.aa) c.name (x.cL (x.aH+1)):=wC hxx q3;refine Or.inr ⟨x,h3,rfl,hxx,h2,hf,hs,q3,by rw[q1],by rw[q1,q2], ?_, ?_⟩
   ·refine IN h (Dq h.tr hf hxx h2) (Int.le_refl _) (λj hj hnone=>mo.none hf.hd hnone λe=> ?_) (λk' _ z hz=>mo.stay hf.hd hz)
    have e:x.ino=j:=e;rw[<-e,hxx] at hnone;cases hnone
   ·exact E5 b ((b.bd.ig h.tr hf hxx).mono (by omega)) (by omega) (by have:=b.nx;show w.fs.next<=_;omega)
  ·exact Or.inl ⟨cN w.fs o.b,h3,by rw[if_neg h3]⟩
 ·exact Or.inl ⟨bM w.fs o.a,h1,by rw[if_neg h1]⟩
theorem Fa (h:b.ino=0) (un:Fs->au->Fs):mvB un f b=f:=by unfold mvB;rw[if_neg (λh2=>h2 h)]
theorem jc.stay (m:jc f a b x n f e g) (hx:ar a.ino f.aa=some x) {d1 d2:ao} (P:q8 f a b x d1 d2) {j:Int} (h:ar j f.aa=some z):∃z',ar j g.aa=some z'/\z'.kind=z.kind:=by
 rw[m.find];by_cases h1:x.ino=j
 ·rw[if_pos h1]
  rw[<-h1,P.xi,hx] at h;cases h;exact⟨_,rfl,by split<;>rfl⟩
 ·rw[if_neg h1]
  by_cases h2:b.dir=j
  ·rw[if_pos h2]
   rw[<-h2,P.b1] at h;cases h;refine⟨_,rfl, ?_⟩;show(mvD _ _ _).kind=_;rw[m.pre.mv.dk m.pre.tr,P.b2]
  ·rw[if_neg h2]
   by_cases h3:a.dir=j
   ·rw[if_pos h3]
    rw[<-h3,P.a1] at h;cases h;refine⟨_,rfl, ?_⟩;show(aC a.dir f.aa).kind=_;rw[aT P.a1]
   ·rw[if_neg h3];exact⟨z,h,rfl⟩
theorem jc.none (m:jc f a b x n f e g) (hx:ar a.ino f.aa=some x) {d1 d2:ao} (P:q8 f a b x d1 d2) {j:Int} (h:ar j f.aa=none):ar j g.aa=none:=by
 rw[m.find];by_cases h1:x.ino=j
 ·rw[<-h1,P.xi,hx] at h;cases h
 rw[if_neg h1];by_cases h2:b.dir=j
 ·rw[<-h2,P.b1] at h;cases h
 rw[if_neg h2];by_cases h3:a.dir=j
 ·rw[<-h3,P.a1] at h;cases h
 rw[if_neg h3];exact h
theorem CU (h:RW w) (b:Wb 549755813888 n w) (hn:n<=8990) (hp:b_ o.a=true) (hq:b_ o.b=true) (hu:fu o.b o.a=false):
 (∃e:Int,e≠0/\sK w o=(w,e))\/(∃x e,bM w.fs o.a=0/\cN w.fs o.b=0/\cO w.fs o.a=x/\yL w.fs (atP w.fs o.a).1 (atP w.fs o.b).1 x/\jc w.fs (atP w.fs o.a).1 (atP w.fs o.b).1 x n w.fs e (ij w.fs (atP w.fs o.a).1 (atP w.fs o.b).1)/\vL w.fs (atP w.fs o.a).1 (atP w.fs o.b).1=ij w.fs (atP w.fs o.a).1 (atP w.fs o.b).1/\
  sK w o=(⟨ij w.fs (atP w.fs o.a).1 (atP w.fs o.b).1,w.al⟩,0)/\RW ⟨ij w.fs (atP w.fs o.a).1 (atP w.fs o.b).1,w.al⟩/\Wb 549755813888 (n+2) ⟨ij w.fs (atP w.fs o.a).1 (atP w.fs o.b).1,w.al⟩):=by
 have ew:=ja h.tr b.bd (by omega);unfold sK;by_cases h1:bM w.fs o.a=0
 ·rw[if_pos h1]
  by_cases h3:cN w.fs o.b=0
  ·rw[if_pos h3]
   obtain⟨x,ok,hxi⟩:=Dh h.tr ew.wf hp hq hu h1 h3;obtain⟨b0,bi⟩:=jr h3;obtain⟨e,m,m2⟩:=wM h.tr b.bd (by omega) ok;rw[Fa bi] at m;obtain⟨d1,d2,P⟩:=places h.tr ew.wf ok;refine Or.inr ⟨x,e,h1,h3,hxi,ok,m,m2,rfl, ?_, ?_⟩
   ·exact IN h m.tr (by rw[qz];exact Int.le_refl _) (λj _ hnone=>m.none ok.hx P hnone) (λk' _ z hz=>m.stay ok.hx P hz)
   ·exact E5 b (m.bd.mono (by omega)) (by omega) (by rw[qz];have:=b.nx;omega)
  ·exact Or.inl ⟨cN w.fs o.b,h3,by rw[if_neg h3]⟩
 ·exact Or.inl ⟨bM w.fs o.a,h1,by rw[if_neg h1]⟩
theorem za (h:RW w) (b:Wb 549755813888 n w) (hn:n<=8990) (hp:b_ p=true) (hs1:1<=s) (hs2:s<=1073741824):
 (∃e:Int,e≠0/\jQ w p (n8 w s (atP w.fs p).1)=(w,e))\/(∃x e,bM w.fs p=0/\cO w.fs p=x/\ar (atP w.fs p).1.ino w.fs.aa=some x/\x.entries= [] /\b9 s w.al.kept=none/\zw w.fs n (atP w.fs p).1 x e (dF w.fs (atP w.fs p).1)/\jQ w p (n8 w s (atP w.fs p).1)=(fX w s (aC (atP w.fs p).1.dir w.fs.aa) (atP w.fs p).1.name x,0)/\
  RW (fX w s (aC (atP w.fs p).1.dir w.fs.aa) (atP w.fs p).1.name x)/\Wb 549755813888 (n+2) (fX w s (aC (atP w.fs p).1.dir w.fs.aa) (atP w.fs p).1.name x)):=by
 have ew:=ja h.tr b.bd (by omega);unfold jQ;by_cases h1:bM w.fs p=0
 ·rw[if_pos h1]
  obtain⟨a0,x,hx,hxi⟩:=gO h1;rw[hxi];by_cases h2:0<x.entries.length
  ·exact Or.inl ⟨5,by decide,by rw[if_pos h2]⟩
  rw[if_neg h2];have hx0:x.entries= [] :=List.length_eq_zero_iff.1 (by omega);obtain⟨ga,am,an,_⟩:=eA ew.wf hp a0;rcases Jc (s:=s) h b (by omega) ga an hx hx0 hs1 hs2 with⟨_,h3⟩ |⟨h3,e,t,t2,h4,h5,h6⟩
  ·exact Or.inl ⟨13,by decide,h3⟩
  ·exact Or.inr ⟨x,e,h1,rfl,hx,hx0,h3,t,h4,h5,h6.mono (by omega)⟩
 ·exact Or.inl ⟨bM w.fs p,h1,by rw[if_neg h1]⟩
theorem Fz (h:RW w) (b:Wb 549755813888 n w) (hn:n<=8990) (hp:b_ p=true):
 (∃e:Int,e≠0/\jQ w p (lj w (atP w.fs p).1)=(w,e))\/(∃x e,bM w.fs p=0/\cO w.fs p=x/\zw w.fs n (atP w.fs p).1 x e (dF w.fs (atP w.fs p).1)/\pc w.fs (atP w.fs p).1=dF w.fs (atP w.fs p).1/\jQ w p (lj w (atP w.fs p).1)=(⟨dF w.fs (atP w.fs p).1,w.al⟩,0)/\
  RW ⟨dF w.fs (atP w.fs p).1,w.al⟩/\Wb 549755813888 (n+2) ⟨dF w.fs (atP w.fs p).1,w.al⟩):=by
 have ew:=ja h.tr b.bd (by omega);unfold jQ;by_cases h1:bM w.fs p=0
 ·rw[if_pos h1]
  obtain⟨a0,x,hx,hxi⟩:=gO h1;rw[hxi];by_cases h2:0<x.entries.length
  ·exact Or.inl ⟨5,by decide,by rw[if_pos h2]⟩
  rw[if_neg h2];have hx0:x.entries= [] :=List.length_eq_zero_iff.1 (by omega);obtain⟨ga,am,an,_⟩:=eA ew.wf hp a0;obtain⟨e,t,t2⟩:=taken h.tr b.bd (by omega) ga an hx hx0;unfold lj;rw[aT hx];by_cases h3:(w.al.kept.any λk=>decide (k.ino=x.ino))=true/\x.aH=1
  ·exact Or.inl ⟨13,by decide,by rw[if_pos h3]⟩
  rw[if_neg h3];have hne:=t.ent.ne h.tr;refine Or.inr ⟨x,e,h1,rfl,t,t2,rfl, ?_,E5 b (t.bd.mono (by omega)) (by omega) (by rw[wi];have:=b.nx;omega)⟩;refine IN h t.tr (by rw[wi];exact Int.le_refl _) (λj _ hj=> ?_) (λk' hk' z hz=> ?_)
  ·rw[t.eq,cZ hne]
   by_cases c1:x.ino=j
   ·rw[<-c1,t.ent.hx] at hj;cases hj
   rw[if_neg c1];by_cases c2:(aC (atP w.fs p).1.dir w.fs.aa).ino=j
   ·rw[<-c2,t.ent.hd] at hj;cases hj
   rw[if_neg c2];exact hj
  ·rw[t.eq,cZ hne]
   by_cases c1:x.ino=k'.ino
   ·rw[if_pos c1,if_neg (λhl=>h3 ⟨List.any_eq_true.2 ⟨k',hk',by simp [c1]⟩,hl⟩)]
    rw[<-c1,t.ent.hx] at hz;cases hz;exact⟨_,rfl,rfl⟩
   rw[if_neg c1];by_cases c2:(aC (atP w.fs p).1.dir w.fs.aa).ino=k'.ino
   ·rw[if_pos c2]
    rw[<-c2,t.ent.hd] at hz;cases hz;exact⟨_,rfl,rfl⟩
   ·rw[if_neg c2];exact⟨z,hz,rfl⟩
 ·exact Or.inl ⟨bM w.fs p,h1,by rw[if_neg h1]⟩
theorem KK (h:RW w) (b:Wb 549755813888 n w) (hn:n<=8990) (hp:b_ o.a=true):RW (jt w o).1/\Wb 549755813888 (n+2) (jt w o).1/\((jt w o).2≠0->(jt w o).1=w):=by
 have ew:=ja h.tr b.bd (by omega);unfold jt;by_cases h1:cN w.fs o.a=0
 ·rw[if_pos h1]
  obtain⟨a0,ai⟩:=jr h1;obtain⟨ga,am,an,_⟩:=eA ew.wf hp a0;rcases KF (s:=o.slot) h b (by omega) ga ai with⟨e,he,h2⟩ |⟨k,_,_,_,_,⟨x,_,_,h2,h3,h4⟩ |⟨y,_,_,_,_,h2,h3,h4⟩⟩
  ·rw[h2];exact⟨h,b.mono (by omega),λ_=>rfl⟩
  ·rw[h2];exact⟨h3,h4.mono (by omega),λh=>absurd rfl h⟩
  ·rw[h2];exact⟨h3,h4.mono (by omega),λh=>absurd rfl h⟩
 ·rw[if_neg h1];exact⟨h,b.mono (by omega),λ_=>rfl⟩
theorem Gm (h:RW w) (b:Wb 549755813888 n w):RW (gR w o).1/\Wb 549755813888 (n+2) (gR w o).1/\((gR w o).2≠0->(gR w o).1=w):=by
 unfold gR;by_cases h1:bM w.fs o.a=0
 ·rw[if_pos h1]
  cases hs:b9 o.slot w.al.kept with
  |none=>exact⟨h,b.mono (by omega),λ_=>rfl⟩
  |some k=>
   simp only;by_cases h2:k.content=true/\k.ino=(cO w.fs o.a).ino
   ·rw[if_pos h2]
    rcases Gv (s:=o.slot) h b with⟨e,he,h3⟩ |⟨k',x,_,_,_,_,_,h3,h4,h5⟩
    ·rw[h3];exact⟨h,b.mono (by omega),λ_=>rfl⟩
    ·rw[h3];exact⟨h4,h5.mono (by omega),λh=>absurd rfl h⟩
   ·rw[if_neg h2];exact⟨h,b.mono (by omega),λ_=>rfl⟩
 ·rw[if_neg h1];exact⟨h,b.mono (by omega),λ_=>rfl⟩
structure afB (o:Opn):Prop where
 kind:1<=o.kind/\o.kind<=10
 a:b_ o.a=true
 slot:db o.kind=true->1<=o.slot/\o.slot<=1073741824
 ao8:db o.kind=false->o.slot=0
 b:jT o.kind=true->b_ o.b=true
 b0:jT o.kind=false->o.b= []
 data:o.kind=4->jv o.data=true
 ao9:o.kind≠4->o.data= []
 under:o.kind=6->fu o.a o.b=false/\fu o.b o.a=false
theorem Hy (o:Opn):gw o=true↔afB o:=by
 unfold gw;simp only[Bool.and_eq_true,decide_eq_true_eq,Bool.or_eq_true,Bool.not_eq_true',decide_eq_false_iff_not];constructor
 ·rintro⟨h1,h2,h3,h4,h5,h6⟩
  refine⟨h1,h2,λh=> ?_,λh=> ?_,λh=> ?_,λh=> ?_,λh=> ?_,λh=> ?_,λh=> ?_⟩
  ·rw[h,if_pos rfl] at h3;exact of_decide_eq_true h3
  ·rw[h,if_neg (by simp)] at h3;exact of_decide_eq_true h3
  ·rw[h,if_pos rfl] at h4;exact h4
  ·rw[h,if_neg (by simp)] at h4;exact of_decide_eq_true h4
  ·rw[if_pos h] at h5;exact h5
  ·rw[if_neg h] at h5;exact of_decide_eq_true h5
  ·exact h6.resolve_left (λh7=>h7 h)
 ·rintro⟨h1,h2,h3,h3',h4,h4',h5,h5',h6⟩
  refine⟨h1,h2, ?_, ?_, ?_, ?_⟩
  ·cases h:db o.kind
   ·rw[if_neg (by simp)];exact decide_eq_true (h3' h)
   ·rw[if_pos rfl];exact decide_eq_true (h3 h)
  ·cases h:jT o.kind
   ·rw[if_neg (by simp)];exact decide_eq_true (h4' h)
   ·rw[if_pos rfl];exact h4 h
  ·by_cases h:o.kind=4
   ·rw[if_pos h];exact h5 h
   ·rw[if_neg h];exact decide_eq_true (h5' h)
  ·by_cases h:o.kind=6
   ·exact Or.inr (h6 h)
   ·exact Or.inl h
theorem vK {t:Str} (h:jv t=true):CR 3 t:=by
 unfold jv at h;simp only[Bool.and_eq_true,decide_eq_true_eq,Bool.not_eq_true'] at h;exact Or.inr (Or.inr ⟨rfl,h.1.1,h.1.2,h.2⟩)
theorem Ms (h:RW w) (b:Wb 549755813888 n w) (hn:n<=8990):RW (doO w o).1/\Wb 549755813888 (n+2) (doO w o).1/\((doO w o).2≠0->(doO w o).1=w):=by
 have same:RW w/\Wb 549755813888 (n+2) w:=⟨h,b.mono (by omega)⟩;unfold doO;cases hm:gw o
 ·exact⟨h,b.mono (by omega),λ_=>rfl⟩
 rw[if_pos rfl];have M:=(Hy o).1 hm;by_cases k1:o.kind=1
 ·rw[if_pos k1]
  rcases lf h b hn M.a (kd:=2) (t:= []) (Or.inr (Or.inl ⟨rfl,rfl⟩)) (by simp) with⟨e,he,h2⟩ |⟨_,h2,_,h3,h4⟩
  ·rw[h2];exact⟨h,b.mono (by omega),λ_=>rfl⟩
  ·rw[h2];exact⟨h3,h4,λh=>absurd rfl h⟩
 rw[if_neg k1];by_cases k2:o.kind=2
 ·rw[if_pos k2]
  rcases vR (o:=o) h b hn (M.b (by unfold jT;simp [k2])) with⟨e,he,h2⟩ |⟨t,_,h2,_,h3,h4⟩
  ·rw[h2];exact⟨h,b.mono (by omega),λ_=>rfl⟩
  ·rw[h2];exact⟨h3,h4,λh=>absurd rfl h⟩
 rw[if_neg k2];by_cases k3:o.kind=3
 ·rw[if_pos k3]
  have hs:=M.slot (by unfold db;simp [k3]);rcases tE (o:=o) h b hs.1 hs.2 with⟨e,he,h2⟩ |⟨x,y,_,_,_,_,_,_,_,h2,h3,h4⟩
  ·rw[h2];exact⟨h,b.mono (by omega),λ_=>rfl⟩
  ·rw[h2];exact⟨h3,h4,λh=>absurd rfl h⟩
 rw[if_neg k3];by_cases k4:o.kind=4
 ·rw[if_pos k4]
  have ht:=vK (M.data k4);rcases lf h b hn M.a (kd:=3) (t:=o.data) ht (by rcases ht with h|⟨h,_⟩ |⟨_,_,h,_⟩<;>first|(cases h) |omega) with⟨e,he,h2⟩ |⟨_,h2,_,h3,h4⟩
  ·rw[h2];exact⟨h,b.mono (by omega),λ_=>rfl⟩
  ·rw[h2];exact⟨h3,h4,λh=>absurd rfl h⟩
 rw[if_neg k4];by_cases k5:o.kind=5
 ·rw[if_pos k5]
  rcases yb (o:=o) h b hn (M.b (by unfold jT;simp [k5])) with⟨e,he,h2⟩ |⟨x,_,_,_,_,_,_,_,h2,_,h3,h4⟩
  ·rw[h2];exact⟨h,b.mono (by omega),λ_=>rfl⟩
  ·rw[h2];exact⟨h3,h4,λh=>absurd rfl h⟩
 rw[if_neg k5];by_cases k6:o.kind=6
 ·rw[if_pos k6]
  rcases CU (o:=o) h b hn M.a (M.b (by unfold jT;simp [k6])) (M.under k6).2 with⟨e,he,h2⟩ |⟨x,e,_,_,_,_,_,_,h2,h3,h4⟩
  ·rw[h2];exact⟨h,b.mono (by omega),λ_=>rfl⟩
  ·rw[h2];exact⟨h3,h4,λh=>absurd rfl h⟩
 rw[if_neg k6];by_cases k7:o.kind=7
 ·rw[if_pos k7]
  have hs:=M.slot (by unfold db;simp [k7]);rcases za (p:=o.a) h b hn M.a hs.1 hs.2 with⟨e,he,h2⟩ |⟨x,e,_,_,_,_,_,_,h2,h3,h4⟩
  ·rw[h2];exact⟨h,b.mono (by omega),λ_=>rfl⟩
  ·rw[h2];exact⟨h3,h4,λh=>absurd rfl h⟩
 rw[if_neg k7];by_cases k8:o.kind=8
 ·rw[if_pos k8]
  rcases Fz (p:=o.a) h b hn M.a with⟨e,he,h2⟩ |⟨x,e,_,_,_,_,h2,h3,h4⟩
  ·rw[h2];exact⟨h,b.mono (by omega),λ_=>rfl⟩
  ·rw[h2];exact⟨h3,h4,λh=>absurd rfl h⟩
 rw[if_neg k8];by_cases k9:o.kind=9
 ·rw[if_pos k9];exact KK h b hn M.a
 ·rw[if_neg k9];exact Gm h b
end
end Go.Eng
