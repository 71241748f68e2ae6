/- A part of the proofs of the laws of this seat: the engine that reads the program's code, plain functions, or facts of the program's functions. Conditions: none. -/
import Derived.Test.YtcilfbaaaipbcaaGreatP4
import Derived.Test.YtcilfbaaaipbcaaGreatP2
import Derived.Test.YtcilfbaaaipbcaaGreatP3
set_option linter.unusedSectionVars false
set_option linter.unusedVariables false
set_option linter.unusedSimpArgs false
set_option linter.unnecessarySimpa false
set_option linter.unusedSimpArgs false
set_option linter.unusedVariables false
namespace Go.Eng
open Go
theorem iV:∃k,bg=k+9:=⟨bg - 9,by have:=qP;omega⟩
def fsC:Fs:=⟨9,9,9,[⟨1,2,0, [],1, []⟩]⟩
def wC:al:=⟨fsC,⟨[⟨1,4,false, []⟩,⟨2,4,false, []⟩],[⟨4,1,0,[122],0, []⟩]⟩⟩
theorem GZ:jO fsC=some true:=by
 obtain⟨k,hk⟩:=iV;unfold jO;rw[hk];rfl
theorem OJ:lR fsC=some true:=by
 obtain⟨k,hk⟩:=iV;have e:cf [] =some true:=by
  unfold cf;rw[hk];rfl
 unfold lR;rw[hk];show aj (cf []) (fun y=>ah y (some true) (some false))=_;rw[e];rfl
theorem L0:lG fsC=some true:=by
 obtain⟨k,hk⟩:=iV;unfold lG;rw[hk];show iT (R:=Bool) [] 0 _ _ _ bg 0=_;rw[hk];rfl
theorem Mw:lO fsC=some true:=by
 obtain⟨k,hk⟩:=iV;unfold lO;rw[hk];show gv (R:=Bool) [] 0 _ _ bg 0 _ _ _ _=_;rw[hk];rfl
theorem al8:oV fsC=some true:=by
 obtain⟨k,hk⟩:=iV;unfold oV;rw[hk];rfl
theorem Ml:oD fsC=some true:=by
 unfold oD oz p6;rw[GZ,ai,Bool.not_true,az,OJ,ai,Bool.not_true,az,L0,ai,Bool.not_true,az,Mw,ai,Bool.not_true,az,al8,ai,Bool.not_true,az,gQ ⟨by decide,by decide,by decide,by decide⟩ (by unfold Far;omega) (by unfold Far;omega)];rfl
theorem Pw:il wC.ao.kept=some true:=by
 obtain⟨k,hk⟩:=iV;unfold il;rw[hk,gq (by decide)];rfl
theorem Nr:gY wC.ao.aJ=some true:=by
 obtain⟨k,hk⟩:=iV;unfold gY;rw[hk,fZ (by decide)];rfl
theorem Lo:iO wC ⟨4,1,0,[122],0, []⟩=some true:=by
 obtain⟨k,hk⟩:=iV;unfold iO;rw[dE (by show cz fsC.aa;exact(jr _).1 rfl) (by decide),hk];rfl
theorem FZ (s:Int) (h1:1≤s) (h2:s≤1073741824):jf wC ⟨s,4,false, []⟩=some true:=by
 unfold jf;rw[pn (by show cz fsC.aa;exact(jr _).1 rfl) (by decide) (by show cz wC.ao.aJ;exact(jr _).1 rfl) (by decide),ai];show ah true (ah (decide (s≥1)) (ah (decide (s≤1073741824)) (some true) (some false)) (some false)) (some false)=some true;rw[aE,decide_eq_true h1,decide_eq_true h2];rfl
theorem Qo:iA wC=some true:=by
 obtain⟨k,hk⟩:=iV;unfold iA;have e:oD wC.fs=some true:=Ml;rw[e,Pw,Nr];simp only[ai,Bool.not_true,az];rw[hk];show aj (iO wC ⟨4,1,0,[122],0, []⟩) _=_;rw[Lo,ai];show aj (jf wC ⟨1,4,false, []⟩) _=_;rw[FZ 1 (by decide) (by decide),ai];show aj (jf wC ⟨2,4,false, []⟩) _=_;rw[FZ 2 (by decide) (by decide),ai];rfl
theorem PS:iA ⟨⟨0,0,0, []⟩,⟨[], []⟩⟩=some false:=rfl
end Go.Eng
set_option linter.unusedSimpArgs false
set_option linter.unusedVariables false
namespace Go.Eng
open Go
def wS:al:=⟨⟨9,9,9,[⟨1,2,0, [],1,[⟨[97],4⟩,⟨[98],4⟩]⟩,⟨4,1,2,[122],0, []⟩]⟩,⟨[], []⟩⟩
def wS1:al:=⟨⟨9,9,9,[⟨1,2,0, [],1,[⟨[98],4⟩]⟩,⟨4,1,1,[122],0, []⟩]⟩,⟨[⟨1,4,false, []⟩], []⟩⟩
def wS2:al:=⟨⟨9,9,9,[⟨1,2,0, [],1,[⟨[97],4⟩]⟩,⟨4,1,1,[122],0, []⟩]⟩,⟨[⟨2,4,false, []⟩], []⟩⟩
def wS3:al:=⟨⟨9,9,9,[⟨1,2,0, [],1,[⟨[97],4⟩,⟨[98],4⟩]⟩,⟨4,1,2,[122],0, []⟩]⟩,⟨[⟨7,4,true,[122]⟩], []⟩⟩
theorem Cc:lY=some wS:=by
 unfold lY;have e1:r5 9 9=some ⟨9,9,2,[⟨1,2,0, [],1, []⟩]⟩:=rfl;rw[e1,ai,cP (by decide),ai,cP (by decide),ai];rfl
theorem rwS:RW wS:=iu.1 (by decide+kernel)
theorem Zc:RW wS1:=iu.1 (by decide+kernel)
theorem amA:RW wS2:=iu.1 (by decide+kernel)
theorem Ng:RW wS3:=iu.1 (by decide+kernel)
theorem rwC:RW wC:=iu.1 (by decide+kernel)
theorem wbS:Wb 9 40 wS:=rO (by decide+kernel) (by decide)
theorem agM:Wb 9 40 wS1:=rO (by decide+kernel) (by decide)
theorem agU:Wb 9 40 wS2:=rO (by decide+kernel) (by decide)
theorem RF:Wb 9 40 wS3:=rO (by decide+kernel) (by decide)
theorem wbC:Wb 9 40 wC:=rO (by decide+kernel) (by decide)
theorem oT:bu=some true:=by
 unfold bu;have f40:40≤9000:=by decide
 rw[Cc,ai,
  (fe (fol:=false) rwS wbS f40 (Or.inr ⟨by decide,⟨1,2,0, [],1,[⟨[97],4⟩,⟨[98],4⟩]⟩,rfl,rfl,by decide+kernel,fun h=>by cases h⟩) (by decide) (x:=⟨4,1,2,[122],0, []⟩) (by decide+kernel) rfl).1,ai,
  show nO wS 1 ⟨1,[97],4⟩=(wS1,0) by decide+kernel,
  (fe (fol:=false) Zc agM f40 (Or.inr ⟨by decide,⟨1,2,0, [],1,[⟨[98],4⟩]⟩,rfl,rfl,by decide+kernel,fun h=>by cases h⟩) (by decide) (x:=⟨4,1,1,[122],0, []⟩) (by decide+kernel) rfl).1,ai,
  show nO wS1 2 ⟨1,[98],4⟩=(wC,0) by decide+kernel,
  d_ (fol:=false) rwC wbC f40 (Or.inr ⟨by decide,⟨1,2,0, [],1, []⟩,rfl,rfl,by decide+kernel,fun h=>by cases h⟩) rfl (by decide),ai,
  show l_ wC 1 ⟨1,[97],0⟩=(wS2,0) by decide+kernel,
  d_ (fol:=false) amA agU f40 (Or.inr ⟨by decide,⟨1,2,0, [],1,[⟨[97],4⟩]⟩,rfl,rfl,by decide+kernel,fun h=>by cases h⟩) rfl (by decide),ai,
  show l_ wS2 2 ⟨1,[98],0⟩=(wS,0) by decide+kernel,
  d_ (fol:=false) rwC wbC f40 (Or.inr ⟨by decide,⟨1,2,0, [],1, []⟩,rfl,rfl,by decide+kernel,fun h=>by cases h⟩) rfl (by decide),ai,
  show l_ wC 3 ⟨1,[97],0⟩=(wC,13) by decide+kernel,
  gh rwS wbS f40,ai,show mh wS 7 4=(wS3,0) by decide+kernel,
  gh Ng RF f40,ai,show mh wS3 7 4=(wS3,13) by decide+kernel,
  iX Ng RF f40,ai,show nF wS3 7=(wS,0) by decide+kernel,
  h_ Ng.ks (by decide),ai,show cN 7 wS3.ao.kept=some ⟨7,4,true,[122]⟩ by decide+kernel]
 have hi:=wbS.inw rwS f40;have s1:=hi.same wS;rw[decide_eq_true rfl] at s1;have s2:fA wS wS=some true:=by rw[jM hi.fs.len hi.fs.db hi.aJ.len hi.aJ.db hi.kl,decide_eq_true rfl]
 have s3:fA wS wS3=some false:=by rw[jM hi.fs.len hi.fs.db hi.aJ.len hi.aJ.db hi.kl,decide_eq_false (by decide+kernel)]
 have p:bM wS3=some wS:=rfl;have e:((7:Int)==7&&((4:Int)==4&&(true==true&&(([122]:Str)==[122]))))=true:=by decide+kernel
 rw[aO (by decide),aO (by decide),aO (by decide),aO (by decide),aO (by decide),aO (by decide),s1,ai,aE,aO (by decide),aO (by decide),aO (by decide),aO (by decide),ai,aO (by decide),aO (by decide+kernel),Qo,PS,p,s2,s3];simp only[ai,aE,Bool.not_false,Bool.not_true];rw[s1];rfl
end Go.Eng
set_option linter.unusedSimpArgs false
set_option linter.unusedVariables false
namespace Go.Eng
open Go
section
variable {w v:al} {p q:Str} {s i:Int} {a:ax} {x:ae} {n:Nat} {f:Fs}
theorem DF {fol:Bool} (hw:WF f) (ga:Gd f fol a) (an:a.name≠ []) (h:aw a.ino f.aa=none):a.ino=0:=by
 rcases ga with⟨h1,_⟩ |⟨_,d,hd,hk,hi,_⟩
 ·exact absurd h1 an
 ·by_cases h0:cC a.name d.entries=0
  ·rw[hi,h0]
  ·obtain⟨e,_,h2,h3,h4⟩:=tI h0
   have:=hw.there d (aW hd).1 e h2;rw[h4,←hi,h] at this;cases this
theorem vo (h:okW w=true):RW w∧Wb 1099511627776 40 w:=by
 unfold okW at h;simp only[Bool.and_eq_true] at h;have hr:=iu.1 h.2;exact⟨hr,rO h.1 (by have:=hr.tr.next';omega)⟩
theorem s6 (ha:InW w) (hb:InW v):jx w v=some true:=by
 unfold jx;rw[oT];simp only[ai,Bool.not_true,az];rw[nj ha,ai];cases xP w
 ·rfl
 rw[Bool.not_true,az,nj hb,ai];cases xP v
 ·rfl
 rw[Bool.not_true,az,ha.same,jM ha.fs.len ha.fs.db ha.aJ.len ha.aJ.db ha.kl,jM ha.fs.len ha.fs.db ha.aJ.len ha.aJ.db ha.kl,decide_eq_true (rfl:w=w)];simp
theorem FN {lim:Int} {fol:Bool} (h:RW w) (b:Wb lim n w) (hn:n≤8999) (ga:Gd w.fs fol a) (a0:a.ino=0):InW (l_ w s a).1:=by
 rcases D1 (s:=s) h b (by omega) ga a0 with⟨e,_,h1⟩ |⟨k,_,_,_,_,⟨x,_,_,h1,r,b'⟩ |⟨y,_,_,_,_,h1,r,b'⟩⟩
 ·rw[h1];exact b.inw h (by omega)
 ·rw[h1];exact b'.inw r (by omega)
 ·rw[h1];exact b'.inw r (by omega)
theorem GB {lim:Int} {fol:Bool} (h:RW w) (b:Wb lim n w) (hn:n≤8999) (ga:Gd w.fs fol a) (an:a.name≠ []) (hx:aw a.ino w.fs.aa=some x) (hx0:x.entries= []) (hs1:1≤s) (hs2:s≤1073741824):InW (nO w s a).1:=by
 rcases oH h b (by omega) ga an hx hx0 hs1 hs2 with⟨_,h1⟩ |⟨_,e,_,_,h1,r,b'⟩
 ·rw[h1];exact b.inw h (by omega)
 ·rw[h1];exact b'.inw r (by omega)
theorem Fj {lim:Int} (h:RW w) (b:Wb lim n w) (hn:n≤8999):InW (nF w s).1:=by
 rcases CE (s:=s) h b with⟨e,_,h1⟩ |⟨k,x,_,_,_,_,_,h1,r,b'⟩
 ·rw[h1];exact b.inw h (by omega)
 ·rw[h1];exact b'.inw r (by omega)
theorem Ff {lim:Int} (h:RW w) (b:Wb lim n w) (hn:n≤8999) (hx:aw i w.fs.aa=some x) (hk:x.kind=1) (hs1:1≤s) (hs2:s≤1073741824):InW (mh w s i).1:=by
 rcases C3 h b hx hk hs1 hs2 with⟨_,h1⟩ |⟨_,h1,r,b'⟩
 ·rw[h1];exact b.inw h (by omega)
 ·rw[h1];exact b'.inw r (by omega)
theorem tg (hi:InW w):jE w s p=some true:=by
 unfold jE;rw[oT];simp only[ai,Bool.not_true,az];rw[jY hi,ai];cases ho:okW w
 ·rfl
 obtain⟨r,b⟩:=vo ho;have ew:=r.ew b (by decide);rw[Bool.not_true,az];by_cases s1:s<1
 ·rw[aO (by simp [s1])]
 rw[bK (by simp;omega)];by_cases s2:s>1073741824
 ·rw[aO (by simp;omega)]
 rw[bK (by simp;omega)];by_cases hp:p.length>1000
 ·rw[aO (by simp;omega)]
 rw[bK (by simp;omega),gJ ew.wf (by omega),ai,mq,s_];by_cases z0:(atP w.fs p).2=0
 ·rw[bK (by simp [z0])]
  by_cases z1:(atP w.fs p).1.name= []
  ·rw[aO (by simp [z1])]
  rw[bK (by simp [z1])];obtain⟨ga,am,_⟩:=vd ew.wf z0 z1;generalize (atP w.fs p).1=a at*;have hlen:=mI am;rw[ew.wf.nS,ai];cases hx:aw a.ino w.fs.aa with
  |none=>
   have a0:=DF ew.wf ga z1 hx;rw[Option.isSome_none,az,d_ r b (by decide) ga a0 (by omega),ai,wB r b (by decide) ga a0 (by omega),ai,(FN r b (by decide) ga a0).same,ai,decide_eq_true rfl];simp
  |some x=>
   rw[Option.isSome_some,aE,bx hx];simp only;by_cases hx0:x.entries.length>0
   ·rw[aO (by simp;omega)]
   have hx1:x.entries= [] :=List.length_eq_zero_iff.1 (by omega);rw[bK (by simp [hx1])];have hk:=fe (s:=s) r b (by decide) ga z1 hx hx1;rw[hk.1,ai,hk.2,ai,(GB r b (by decide) ga z1 hx hx1 (by omega) (by omega)).same,ai,decide_eq_true rfl];simp
 ·rw[aO (by simp [z0])]
theorem s8 (hi:InW w):jD w s i=some true:=by
 unfold jD;rw[oT];simp only[ai,Bool.not_true,az];rw[jY hi,ai];cases ho:okW w
 ·rfl
 obtain⟨r,b⟩:=vo ho;have ew:=r.ew b (by decide);rw[Bool.not_true,az];by_cases s1:s<1
 ·rw[aO (by simp [s1])]
 rw[bK (by simp;omega)];by_cases s2:s>1073741824
 ·rw[aO (by simp;omega)]
 rw[bK (by simp;omega),iX r b (by decide),ai,q6 r b (by decide),ai,(Fj r b (by decide)).same,ai,decide_eq_true rfl,Bool.not_true,az,bK (by simp),ew.wf.nS,ai];cases hx:aw i w.fs.aa with
 |none=>rfl
 |some x=>
  rw[bx hx];simp only[Option.isSome_some,Bool.not_true,az];by_cases hk:x.kind=1
  ·rw[bK (by simp [hk]),gh r b (by decide),ai,qt r b (by decide),ai,(Ff r b (by decide) hx hk (by omega) (by omega)).same,ai,decide_eq_true rfl]
   simp
  ·rw[aO (by simp [hk])]
theorem vN (hi:InW w):j5 w s p=some true:=by
 unfold j5;rw[oT];simp only[ai,Bool.not_true,az];rw[jY hi,ai];cases ho:okW w
 ·rfl
 obtain⟨r,b⟩:=vo ho;have ew:=r.ew b (by decide);rw[Bool.not_true,az];by_cases s1:s<1
 ·rw[aO (by simp [s1])]
 rw[bK (by simp;omega)];by_cases s2:s>1073741824
 ·rw[aO (by simp;omega)]
 rw[bK (by simp;omega)];by_cases hp:p.length>1000
 ·rw[aO (by simp;omega)]
 rw[bK (by simp;omega),gJ ew.wf (by omega),ai,ew.wf.nS,ai,mq,s_];by_cases z0:(atP w.fs p).2=0
 ·rw[bK (by simp [z0])]
  by_cases z1:(atP w.fs p).1.name= []
  ·rw[aO (by simp [z1])]
  rw[bK (by simp [z1])];obtain⟨ga,am,_⟩:=vd ew.wf z0 z1;generalize (atP w.fs p).1=a at*;have hlen:=mI am;cases hx:aw a.ino w.fs.aa with
  |none=>rfl
  |some x=>
   rw[bx hx];simp only[Option.isSome_some,Bool.not_true,az];by_cases hx0:x.entries.length>0
   ·rw[aO (by simp;omega)]
   have hx1:x.entries= [] :=List.length_eq_zero_iff.1 (by omega);rw[bK (by simp [hx1])];rw[(fe (s:=s) r b (by decide) ga z1 hx hx1).1,ai];rcases oH r b (by decide) ga z1 hx hx1 (show 1≤s by omega) (show s≤1073741824 by omega) with⟨_,h1⟩ |⟨hs,e,t,t2,h1,r',b'⟩
   ·rw[h1,aO (by simp),aO (by simp),hi.same,ai,decide_eq_true rfl]
   ·have ew':=r'.ew b' (by decide)
    have gd':=yw r b (by decide) z1 (show 1≤s by omega) (show s≤1073741824 by omega) hs t;have gk:=r7 r b am (show 1≤s by omega) (show s≤1073741824 by omega) hs t;have hsum:=(vk r.tr t.ent t.xe).1;have hfind:=fU (f:=w.fs) (nm:=a.name) (t.ent.ne r.tr) a.ino;rw[h1];have hle:¬((dS w.fs (aM a.dir w.fs.aa) a.name x).aa.length:Int)>(w.fs.aa.length:Int):=by
     rw[hsum];split<;>omega
    have hpl:(eW w s (aM a.dir w.fs.aa) a.name x).ao.aJ=if x.ar=1 then bH x.bare w.ao.aJ else w.ao.aJ:=rfl
    have hpool:cu (eW w s (aM a.dir w.fs.aa) a.name x)=some ⟨0,0,0,if x.ar=1 then bH x.bare w.ao.aJ else w.ao.aJ⟩:=rfl;have hpn:=r.kJ hx;have hpk:aw a.ino (if x.ar=1 then bH x.bare w.ao.aJ else w.ao.aJ)=if x.ar=1 then some x.bare else none:=by
     by_cases hl:x.ar=1
     ·rw[if_pos hl,if_pos hl,bR,if_pos (show x.bare.ino=a.ino from t.Kp)]
     ·rw[if_neg hl,if_neg hl];exact hpn
    have hpg:=cO (f:=⟨0,0,0,if x.ar=1 then bH x.bare w.ao.aJ else w.ao.aJ⟩) (n:=a.ino) (by have:=b'.pl;rw[hpl] at this;show(if x.ar=1 then bH x.bare w.ao.aJ else w.ao.aJ).length≤_;omega);rw[if_pos t.Kp] at hfind;clear hpl;generalize (if x.ar=1 then bH x.bare w.ao.aJ else w.ao.aJ)=P at hpool hpk hpg;have hgi:cH (eW w s (aM a.dir w.fs.aa) a.name x) s ⟨a.dir,a.name,0⟩=some (w,0):=by
     rw[d_ r' b' (by decide) gd' rfl (by show a.name.length≤_;omega),gk]
    rw[bK (by simp),ew'.wf.nS,ai,hpool,ai,hpg,ai,oq r' b' (by decide),ai,Bool.not_true,az,ew'.check,hgi];have hfs:(eW w s (aM a.dir w.fs.aa) a.name x).fs=dS w.fs (aM a.dir w.fs.aa) a.name x:=rfl;simp only[ai,hfs];by_cases hl:x.ar=1
    ·rw[if_pos hl] at hfind hpk
     rw[hfind,hpk,bx hpk,bK (by simp),bK (by simp),aO (by simp),bK (by simp [ae.bare]),bK (by simpa using hle),bK (by simp),aO (by simp),hi.same,ai,decide_eq_true rfl]
    ·rw[if_neg hl] at hfind hpk
     rw[hfind,hpk,bx hfind,bK (by simp),aO (by simp),bK (by simp [ae.dP]),bK (by simp),bK (by simpa using hle),bK (by simp),aO (by simp),hi.same,ai,decide_eq_true rfl]
 ·rw[aO (by simp [z0])]
theorem we (hi:InW w):lg w s p q=some true:=by
 unfold lg;rw[oT];simp only[ai,Bool.not_true,az];rw[jY hi,ai];cases ho:okW w
 ·rfl
 obtain⟨r,b⟩:=vo ho;have ew:=r.ew b (by decide);rw[Bool.not_true,az];by_cases s1:s<1
 ·rw[aO (by simp [s1])]
 rw[bK (by simp;omega)];by_cases s2:s>1073741823
 ·rw[aO (by simp;omega)]
 rw[bK (by simp;omega)];by_cases hp:p.length>1000
 ·rw[aO (by simp;omega)]
 rw[bK (by simp;omega)];by_cases hq:q.length>1000
 ·rw[aO (by simp;omega)]
 rw[bK (by simp;omega),gJ ew.wf (by omega),ai,ew.wf.nS,ai,mq,s_];by_cases z0:(atP w.fs p).2=0
 ·rw[bK (by simp [z0])]
  by_cases z1:(atP w.fs p).1.name= []
  ·rw[aO (by simp [z1])]
  rw[bK (by simp [z1])];obtain⟨ga,am,_⟩:=vd ew.wf z0 z1;generalize (atP w.fs p).1=a at*;have hlen:=mI am;cases hx:aw a.ino w.fs.aa with
  |none=>rfl
  |some x=>
   rw[bx hx];simp only[Option.isSome_some,Bool.not_true,az];by_cases hx0:x.entries.length>0
   ·rw[aO (by simp;omega)]
   have hx1:x.entries= [] :=List.length_eq_zero_iff.1 (by omega);rw[bK (by simp [hx1])];rw[(fe (s:=s) r b (by decide) ga z1 hx hx1).1,ai];rcases oH r b (by decide) ga z1 hx hx1 (show 1≤s by omega) (show s≤1073741824 by omega) with⟨_,h1⟩ |⟨hs,e,t,t2,h1,r',b'⟩
   ·rw[h1,gJ ew.wf (by omega),ai,ew.wf.nS,ai,aO (by simp)]
   ·have ew':=r'.ew b' (by decide)
    have gd':=yw r b (by decide) z1 (show 1≤s by omega) (show s≤1073741824 by omega) hs t;have gk:=r7 r b am (show 1≤s by omega) (show s≤1073741824 by omega) hs t;have hgi:cH (eW w s (aM a.dir w.fs.aa) a.name x) s ⟨a.dir,a.name,0⟩=some (w,0):=by
     rw[d_ r' b' (by decide) gd' rfl (by show a.name.length≤_;omega),gk]
    rw[h1];simp only;generalize eW w s (aM a.dir w.fs.aa) a.name x=w1 at*;rw[gJ ew'.wf (by omega),ai,ew'.wf.nS,ai,bK (by simp),mq,s_];by_cases y0:(atP w1.fs q).2=0
    ·rw[bK (by simp [y0])]
     by_cases y1:(atP w1.fs q).1.name= []
     ·rw[aO (by simp [y1])]
     rw[bK (by simp [y1])];obtain⟨gb,bm,_⟩:=vd ew'.wf y0 y1;generalize (atP w1.fs q).1=c at*;have hlen2:=mI bm;cases hy:aw c.ino w1.fs.aa with
     |none=>rfl
     |some y=>
      rw[bx hy];simp only[Option.isSome_some,Bool.not_true,az];by_cases hy0:y.entries.length>0
      ·rw[aO (by simp;omega)]
      have hy1:y.entries= [] :=List.length_eq_zero_iff.1 (by omega);rw[bK (by simp [hy1])];rw[b9 (by omega) (by omega),(fe (s:=s+1) r' b' (by decide) gb y1 hy hy1).1,ai];rcases oH r' b' (by decide) gb y1 hy hy1 (show 1≤s+1 by omega) (show s+1≤1073741824 by omega) with⟨_,h2⟩ |⟨hs2,e2,t3,t4,h2,r2,b2⟩
      ·rw[h2];rfl
      ·have gd2:=yw r' b' (by decide) y1 (show 1≤s+1 by omega) (show s+1≤1073741824 by omega) hs2 t3
       have gk2:=r7 r' b' bm (show 1≤s+1 by omega) (show s+1≤1073741824 by omega) hs2 t3;rw[h2,bK (by simp)];simp only;rw[d_ r2 b2 (by decide) gd2 rfl (by show c.name.length≤_;omega),gk2,ai,hgi,ai,aO (by simp),aO (by simp),oq r2 b2 (by decide),ai,aE,(b'.inw r' (by decide)).same,ai,decide_eq_true rfl,aE,hi.same,ai,decide_eq_true rfl]
    ·rw[aO (by simp [y0])]
 ·rw[aO (by simp [z0])]
theorem tf (hi:InW w):jv w s p i=some true:=by
 unfold jv;rw[oT];simp only[ai,Bool.not_true,az];rw[jY hi,ai];cases ho:okW w
 ·rfl
 obtain⟨r,b⟩:=vo ho;have ew:=r.ew b (by decide);rw[Bool.not_true,az];by_cases s1:s<1
 ·rw[aO (by simp [s1])]
 rw[bK (by simp;omega)];by_cases s2:s>1073741824
 ·rw[aO (by simp;omega)]
 rw[bK (by simp;omega)];by_cases hp:p.length>1000
 ·rw[aO (by simp;omega)]
 have l1:=b.bd.len;have l2:=b.kl;have l3:=b.pl;have eta:(⟨⟨w.fs.aq,w.fs.au,w.fs.next,([] :List ae)++w.fs.aa⟩,⟨([] :List Kept)++w.ao.kept,([] :List ae)++w.ao.aJ⟩⟩:al)=w:=rfl;have sm:=hi.same w;rw[decide_eq_true rfl] at sm;have hpg:bM w=some ⟨w.fs,⟨[], []⟩⟩:=rfl;rw[bK (by simp;omega),bY (by unfold LIM;simp;omega),bY (by unfold LIM;simp;omega),bY (by unfold LIM;simp;omega),gJ ew.wf (by omega),ai];simp only[eta,ew.wf.nS,ai,iX r b (by decide),gh r b (by decide),hpg,sm,aV,ite_self];by_cases z0:(atP w.fs p).2=0
 ·rw[if_pos (by simp [z0])]
  by_cases z1:(atP w.fs p).1.name= []
  ·rw[if_neg (by simp [z1])]
  rw[if_pos (by simp [z1])];obtain⟨ga,am,_⟩:=vd ew.wf z0 z1;generalize (atP w.fs p).1=a at*;have hlen:=mI am;cases hx:aw a.ino w.fs.aa with
  |none=>
   have a0:=DF ew.wf ga z1 hx;simp only[Option.isSome_none,Bool.not_false,if_true,Bool.false_eq_true,if_false,d_ r b (by decide) ga a0 (show a.name.length≤1099511627775 by omega),ai]
  |some x=>
   rw[bx hx];simp only[Option.isSome_some,Bool.not_true,if_true,Bool.false_eq_true,if_false];by_cases hx0:x.entries.length=0
   ·rw[if_pos (by simpa using List.length_eq_zero_iff.1 hx0),(fe (s:=s) r b (by decide) ga z1 hx (List.length_eq_zero_iff.1 hx0)).1,ai]
   ·rw[if_neg (by simpa using fun e=>hx0 (List.length_eq_zero_iff.2 e))]
 ·rw[if_neg (by simp [z0])]
end
end Go.Eng
namespace Go.Eng
open Go
end Go.Eng
namespace Go.Eng
open Go
theorem Qs {a b c:Int} {l:List ae} {k:List Kept} {q:List ae} (h:HL.ok 1048576 [.int .i64, .int .i64, .int .i64, .sl .aB, .sl .kept, .sl .aB] (a,b,c,l,k,q,())):InW ⟨⟨a,b,c,l⟩,⟨k,q⟩⟩:=by
 obtain⟨_,_,_,⟨h1,h2⟩,⟨h3,_⟩,⟨h5,h6⟩,_⟩:=h;have g1:l.length≤1048576:=h1;have g3:k.length≤1048576:=h3;have g5:q.length≤1048576:=h5;exact⟨⟨by show l.length≤1073741824;omega,fun x hx=>by have:x.ok 1048576:=h2 x hx;have:=this.2.2.2.2.2.1;omega⟩,⟨by show q.length≤1073741824;omega,fun x hx=>by have:x.ok 1048576:=h6 x hx;have:=this.2.2.2.2.2.1;omega⟩,by show k.length≤1073741824;omega⟩
theorem Ch {v:HL.V [.int .i64, .int .i64, .int .i64, .sl .aB, .sl .kept, .sl .aB]} (h:HL.ok 1048576 [.int .i64, .int .i64, .int .i64, .sl .aB, .sl .kept, .sl .aB] v):InW ⟨⟨v.1,v.2.1,v.2.2.1,v.2.2.2.1⟩,⟨v.2.2.2.2.1,v.2.2.2.2.2.1⟩⟩:=by
 obtain⟨a,b,c,l,k,q,u⟩:=v;exact Qs h
end Go.Eng
