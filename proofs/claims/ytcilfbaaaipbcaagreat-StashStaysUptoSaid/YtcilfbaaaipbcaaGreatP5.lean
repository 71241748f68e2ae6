/- A part of the proofs of the laws of this seat: the engine that reads the program's code, plain functions, or facts of the program's functions. Conditions: none. -/
import Derived.Test.YtcilfbaaaipbcaaGreatP4
import Derived.Test.YtcilfbaaaipbcaaGreatP2
import Derived.Test.YtcilfbaaaipbcaaGreatP3
set_option linter.unusedSectionVars false
set_option linter.unusedVariables false
set_option linter.unusedSimpArgs false
set_option linter.unnecessarySimpa false
set_option linter.unusedSimpArgs false
set_option linter.unusedVariables false
namespace Go.Eng
open Go
theorem iW:∃k,bg=k+9:=⟨bg - 9,by have:=qW;omega⟩
def fsC:Fs:=⟨9,9,9,[⟨1,2,0, [],1, []⟩]⟩
def wC:ao:=⟨fsC,⟨[⟨1,4,false, []⟩,⟨2,4,false, []⟩],[⟨4,1,0,[122],0, []⟩]⟩⟩
theorem F9:jK fsC=some true:=by
 obtain⟨k,hk⟩:=iW;unfold jK;rw[hk];rfl
theorem Pb:l6 fsC=some true:=by
 obtain⟨k,hk⟩:=iW;have e:cf [] =some true:=by
  unfold cf;rw[hk];rfl
 unfold l6;rw[hk];show aj (cf []) (fun y=>ah y (some true) (some false))=_;rw[e];rfl
theorem N9:lY fsC=some true:=by
 obtain⟨k,hk⟩:=iW;unfold lY;rw[hk];show iT (R:=Bool) [] 0 _ _ _ bg 0=_;rw[hk];rfl
theorem OD:lX fsC=some true:=by
 obtain⟨k,hk⟩:=iW;unfold lX;rw[hk];show gI (R:=Bool) [] 0 _ _ bg 0 _ _ _ _=_;rw[hk];rfl
theorem akV:oQ fsC=some true:=by
 obtain⟨k,hk⟩:=iW;unfold oQ;rw[hk];rfl
theorem Oy:oD fsC=some true:=by
 unfold oD oB pU;rw[F9,ai,Bool.not_true,ay,Pb,ai,Bool.not_true,ay,N9,ai,Bool.not_true,ay,OD,ai,Bool.not_true,ay,akV,ai,Bool.not_true,ay,gX ⟨by decide,by decide,by decide,by decide⟩ (by unfold Far;omega) (by unfold Far;omega)];rfl
theorem PZ:il wC.al.kept=some true:=by
 obtain⟨k,hk⟩:=iW;unfold il;rw[hk,gH (by decide)];rfl
theorem Ol:gO wC.al.aI=some true:=by
 obtain⟨k,hk⟩:=iW;unfold gO;rw[hk,fZ (by decide)];rfl
theorem Kq:jb wC ⟨4,1,0,[122],0, []⟩=some true:=by
 obtain⟨k,hk⟩:=iW;unfold jb;rw[dF (by show cA fsC.aa;exact(jq _).1 rfl) (by decide),hk];rfl
theorem Hp (s:Int) (h1:1≤s) (h2:s≤1073741824):jI wC ⟨s,4,false, []⟩=some true:=by
 unfold jI;rw[po (by show cA fsC.aa;exact(jq _).1 rfl) (by decide) (by show cA wC.al.aI;exact(jq _).1 rfl) (by decide),ai];show ah true (ah (decide (s≥1)) (ah (decide (s≤1073741824)) (some true) (some false)) (some false)) (some false)=some true;rw[aC,decide_eq_true h1,decide_eq_true h2];rfl
theorem M1:iE wC=some true:=by
 obtain⟨k,hk⟩:=iW;unfold iE;have e:oD wC.fs=some true:=Oy;rw[e,PZ,Ol];simp only[ai,Bool.not_true,ay];rw[hk];show aj (jb wC ⟨4,1,0,[122],0, []⟩) _=_;rw[Kq,ai];show aj (jI wC ⟨1,4,false, []⟩) _=_;rw[Hp 1 (by decide) (by decide),ai];show aj (jI wC ⟨2,4,false, []⟩) _=_;rw[Hp 2 (by decide) (by decide),ai];rfl
theorem Q8:iE ⟨⟨0,0,0, []⟩,⟨[], []⟩⟩=some false:=rfl
end Go.Eng
set_option linter.unusedSimpArgs false
set_option linter.unusedVariables false
namespace Go.Eng
open Go
def wS:ao:=⟨⟨9,9,9,[⟨1,2,0, [],1,[⟨[97],4⟩,⟨[98],4⟩]⟩,⟨4,1,2,[122],0, []⟩]⟩,⟨[], []⟩⟩
def wS1:ao:=⟨⟨9,9,9,[⟨1,2,0, [],1,[⟨[98],4⟩]⟩,⟨4,1,1,[122],0, []⟩]⟩,⟨[⟨1,4,false, []⟩], []⟩⟩
def wS2:ao:=⟨⟨9,9,9,[⟨1,2,0, [],1,[⟨[97],4⟩]⟩,⟨4,1,1,[122],0, []⟩]⟩,⟨[⟨2,4,false, []⟩], []⟩⟩
def wS3:ao:=⟨⟨9,9,9,[⟨1,2,0, [],1,[⟨[97],4⟩,⟨[98],4⟩]⟩,⟨4,1,2,[122],0, []⟩]⟩,⟨[⟨7,4,true,[122]⟩], []⟩⟩
theorem B6:l8=some wS:=by
 unfold l8;have e1:rn 9 9=some ⟨9,9,2,[⟨1,2,0, [],1, []⟩]⟩:=rfl;rw[e1,ai,cO (by decide),ai,cO (by decide),ai];rfl
theorem rwS:RW wS:=iz.1 (by decide+kernel)
theorem Z4:RW wS1:=iz.1 (by decide+kernel)
theorem aj9:RW wS2:=iz.1 (by decide+kernel)
theorem Om:RW wS3:=iz.1 (by decide+kernel)
theorem rwC:RW wC:=iz.1 (by decide+kernel)
theorem wbS:Wb 9 40 wS:=rF (by decide+kernel) (by decide)
theorem YE:Wb 9 40 wS1:=rF (by decide+kernel) (by decide)
theorem XZ:Wb 9 40 wS2:=rF (by decide+kernel) (by decide)
theorem Un:Wb 9 40 wS3:=rF (by decide+kernel) (by decide)
theorem wbC:Wb 9 40 wC:=rF (by decide+kernel) (by decide)
theorem o0:bu=some true:=by
 unfold bu;have f40:40≤9000:=by decide
 rw[B6,ai,
  (ff (fol:=false) rwS wbS f40 (Or.inr ⟨by decide,⟨1,2,0, [],1,[⟨[97],4⟩,⟨[98],4⟩]⟩,rfl,rfl,by decide+kernel,fun h=>by cases h⟩) (by decide) (x:=⟨4,1,2,[122],0, []⟩) (by decide+kernel) rfl).1,ai,
  show nL wS 1 ⟨1,[97],4⟩=(wS1,0) by decide+kernel,
  (ff (fol:=false) Z4 YE f40 (Or.inr ⟨by decide,⟨1,2,0, [],1,[⟨[98],4⟩]⟩,rfl,rfl,by decide+kernel,fun h=>by cases h⟩) (by decide) (x:=⟨4,1,1,[122],0, []⟩) (by decide+kernel) rfl).1,ai,
  show nL wS1 2 ⟨1,[98],4⟩=(wC,0) by decide+kernel,
  dZ (fol:=false) rwC wbC f40 (Or.inr ⟨by decide,⟨1,2,0, [],1, []⟩,rfl,rfl,by decide+kernel,fun h=>by cases h⟩) rfl (by decide),ai,
  show ma wC 1 ⟨1,[97],0⟩=(wS2,0) by decide+kernel,
  dZ (fol:=false) aj9 XZ f40 (Or.inr ⟨by decide,⟨1,2,0, [],1,[⟨[97],4⟩]⟩,rfl,rfl,by decide+kernel,fun h=>by cases h⟩) rfl (by decide),ai,
  show ma wS2 2 ⟨1,[98],0⟩=(wS,0) by decide+kernel,
  dZ (fol:=false) rwC wbC f40 (Or.inr ⟨by decide,⟨1,2,0, [],1, []⟩,rfl,rfl,by decide+kernel,fun h=>by cases h⟩) rfl (by decide),ai,
  show ma wC 3 ⟨1,[97],0⟩=(wC,13) by decide+kernel,
  gi rwS wbS f40,ai,show mi wS 7 4=(wS3,0) by decide+kernel,
  gi Om Un f40,ai,show mi wS3 7 4=(wS3,13) by decide+kernel,
  iU Om Un f40,ai,show nu wS3 7=(wS,0) by decide+kernel,
  ib Om.ks (by decide),ai,show cN 7 wS3.al.kept=some ⟨7,4,true,[122]⟩ by decide+kernel]
 have hi:=wbS.inw rwS f40;have s1:=hi.same wS;rw[decide_eq_true rfl] at s1;have s2:fD wS wS=some true:=by rw[jR hi.fs.len hi.fs.de hi.aI.len hi.aI.de hi.kl,decide_eq_true rfl]
 have s3:fD wS wS3=some false:=by rw[jR hi.fs.len hi.fs.de hi.aI.len hi.aI.de hi.kl,decide_eq_false (by decide+kernel)]
 have p:bN wS3=some wS:=rfl;have e:((7:Int)==7&&((4:Int)==4&&(true==true&&(([122]:Str)==[122]))))=true:=by decide+kernel
 rw[aN (by decide),aN (by decide),aN (by decide),aN (by decide),aN (by decide),aN (by decide),s1,ai,aC,aN (by decide),aN (by decide),aN (by decide),aN (by decide),ai,aN (by decide),aN (by decide+kernel),M1,Q8,p,s2,s3];simp only[ai,aC,Bool.not_false,Bool.not_true];rw[s1];rfl
end Go.Eng
set_option linter.unusedSimpArgs false
set_option linter.unusedVariables false
namespace Go.Eng
open Go
section
variable {w v:ao} {p q:Str} {s i:Int} {a:ax} {x:ae} {n:Nat} {f:Fs}
theorem DO {fol:Bool} (hw:WF f) (ga:Gd f fol a) (an:a.name≠ []) (h:au a.ino f.aa=none):a.ino=0:=by
 rcases ga with⟨h1,_⟩ |⟨_,d,hd,hk,hi,_⟩
 ·exact absurd h1 an
 ·by_cases h0:cB a.name d.entries=0
  ·rw[hi,h0]
  ·obtain⟨e,_,h2,h3,h4⟩:=tH h0
   have:=hw.there d (aW hd).1 e h2;rw[h4,←hi,h] at this;cases this
theorem vj (h:okW w=true):RW w∧Wb 1099511627776 40 w:=by
 unfold okW at h;simp only[Bool.and_eq_true] at h;have hr:=iz.1 h.2;exact⟨hr,rF h.1 (by have:=hr.tr.next';omega)⟩
theorem s6 (ha:InW w) (hb:InW v):jl w v=some true:=by
 unfold jl;rw[o0];simp only[ai,Bool.not_true,ay];rw[nF ha,ai];cases yx w
 ·rfl
 rw[Bool.not_true,ay,nF hb,ai];cases yx v
 ·rfl
 rw[Bool.not_true,ay,ha.same,jR ha.fs.len ha.fs.de ha.aI.len ha.aI.de ha.kl,jR ha.fs.len ha.fs.de ha.aI.len ha.aI.de ha.kl,decide_eq_true (rfl:w=w)];simp
theorem F0 {lim:Int} {fol:Bool} (h:RW w) (b:Wb lim n w) (hn:n≤8999) (ga:Gd w.fs fol a) (a0:a.ino=0):InW (ma w s a).1:=by
 rcases EB (s:=s) h b (by omega) ga a0 with⟨e,_,h1⟩ |⟨k,_,_,_,_,⟨x,_,_,h1,r,b'⟩ |⟨y,_,_,_,_,h1,r,b'⟩⟩
 ·rw[h1];exact b.inw h (by omega)
 ·rw[h1];exact b'.inw r (by omega)
 ·rw[h1];exact b'.inw r (by omega)
theorem Hh {lim:Int} {fol:Bool} (h:RW w) (b:Wb lim n w) (hn:n≤8999) (ga:Gd w.fs fol a) (an:a.name≠ []) (hx:au a.ino w.fs.aa=some x) (hx0:x.entries= []) (hs1:1≤s) (hs2:s≤1073741824):InW (nL w s a).1:=by
 rcases oS h b (by omega) ga an hx hx0 hs1 hs2 with⟨_,h1⟩ |⟨_,e,_,_,h1,r,b'⟩
 ·rw[h1];exact b.inw h (by omega)
 ·rw[h1];exact b'.inw r (by omega)
theorem Ec {lim:Int} (h:RW w) (b:Wb lim n w) (hn:n≤8999):InW (nu w s).1:=by
 rcases CU (s:=s) h b with⟨e,_,h1⟩ |⟨k,x,_,_,_,_,_,h1,r,b'⟩
 ·rw[h1];exact b.inw h (by omega)
 ·rw[h1];exact b'.inw r (by omega)
theorem E8 {lim:Int} (h:RW w) (b:Wb lim n w) (hn:n≤8999) (hx:au i w.fs.aa=some x) (hk:x.kind=1) (hs1:1≤s) (hs2:s≤1073741824):InW (mi w s i).1:=by
 rcases By h b hx hk hs1 hs2 with⟨_,h1⟩ |⟨_,h1,r,b'⟩
 ·rw[h1];exact b.inw h (by omega)
 ·rw[h1];exact b'.inw r (by omega)
theorem td (hi:InW w):jr w s p=some true:=by
 unfold jr;rw[o0];simp only[ai,Bool.not_true,ay];rw[jY hi,ai];cases ho:okW w
 ·rfl
 obtain⟨r,b⟩:=vj ho;have ew:=r.ew b (by decide);rw[Bool.not_true,ay];by_cases s1:s<1
 ·rw[aN (by simp [s1])]
 rw[bK (by simp;omega)];by_cases s2:s>1073741824
 ·rw[aN (by simp;omega)]
 rw[bK (by simp;omega)];by_cases hp:p.length>1000
 ·rw[aN (by simp;omega)]
 rw[bK (by simp;omega),gp ew.wf (by omega),ai,mg,ta];by_cases z0:(atP w.fs p).2=0
 ·rw[bK (by simp [z0])]
  by_cases z1:(atP w.fs p).1.name= []
  ·rw[aN (by simp [z1])]
  rw[bK (by simp [z1])];obtain⟨ga,am,_⟩:=tV ew.wf z0 z1;generalize (atP w.fs p).1=a at*;have hlen:=mR am;rw[ew.wf.nQ,ai];cases hx:au a.ino w.fs.aa with
  |none=>
   have a0:=DO ew.wf ga z1 hx;rw[Option.isSome_none,ay,dZ r b (by decide) ga a0 (by omega),ai,wc r b (by decide) ga a0 (by omega),ai,(F0 r b (by decide) ga a0).same,ai,decide_eq_true rfl];simp
  |some x=>
   rw[Option.isSome_some,aC,bx hx];simp only;by_cases hx0:x.entries.length>0
   ·rw[aN (by simp;omega)]
   have hx1:x.entries= [] :=List.length_eq_zero_iff.1 (by omega);rw[bK (by simp [hx1])];have hk:=ff (s:=s) r b (by decide) ga z1 hx hx1;rw[hk.1,ai,hk.2,ai,(Hh r b (by decide) ga z1 hx hx1 (by omega) (by omega)).same,ai,decide_eq_true rfl];simp
 ·rw[aN (by simp [z0])]
theorem th (hi:InW w):ju w s i=some true:=by
 unfold ju;rw[o0];simp only[ai,Bool.not_true,ay];rw[jY hi,ai];cases ho:okW w
 ·rfl
 obtain⟨r,b⟩:=vj ho;have ew:=r.ew b (by decide);rw[Bool.not_true,ay];by_cases s1:s<1
 ·rw[aN (by simp [s1])]
 rw[bK (by simp;omega)];by_cases s2:s>1073741824
 ·rw[aN (by simp;omega)]
 rw[bK (by simp;omega),iU r b (by decide),ai,qE r b (by decide),ai,(Ec r b (by decide)).same,ai,decide_eq_true rfl,Bool.not_true,ay,bK (by simp),ew.wf.nQ,ai];cases hx:au i w.fs.aa with
 |none=>rfl
 |some x=>
  rw[bx hx];simp only[Option.isSome_some,Bool.not_true,ay];by_cases hk:x.kind=1
  ·rw[bK (by simp [hk]),gi r b (by decide),ai,re r b (by decide),ai,(E8 r b (by decide) hx hk (by omega) (by omega)).same,ai,decide_eq_true rfl]
   simp
  ·rw[aN (by simp [hk])]
theorem uL (hi:InW w):j5 w s p=some true:=by
 unfold j5;rw[o0];simp only[ai,Bool.not_true,ay];rw[jY hi,ai];cases ho:okW w
 ·rfl
 obtain⟨r,b⟩:=vj ho;have ew:=r.ew b (by decide);rw[Bool.not_true,ay];by_cases s1:s<1
 ·rw[aN (by simp [s1])]
 rw[bK (by simp;omega)];by_cases s2:s>1073741824
 ·rw[aN (by simp;omega)]
 rw[bK (by simp;omega)];by_cases hp:p.length>1000
 ·rw[aN (by simp;omega)]
 rw[bK (by simp;omega),gp ew.wf (by omega),ai,ew.wf.nQ,ai,mg,ta];by_cases z0:(atP w.fs p).2=0
 ·rw[bK (by simp [z0])]
  by_cases z1:(atP w.fs p).1.name= []
  ·rw[aN (by simp [z1])]
  rw[bK (by simp [z1])];obtain⟨ga,am,_⟩:=tV ew.wf z0 z1;generalize (atP w.fs p).1=a at*;have hlen:=mR am;cases hx:au a.ino w.fs.aa with
  |none=>rfl
  |some x=>
   rw[bx hx];simp only[Option.isSome_some,Bool.not_true,ay];by_cases hx0:x.entries.length>0
   ·rw[aN (by simp;omega)]
   have hx1:x.entries= [] :=List.length_eq_zero_iff.1 (by omega);rw[bK (by simp [hx1])];rw[(ff (s:=s) r b (by decide) ga z1 hx hx1).1,ai];rcases oS r b (by decide) ga z1 hx hx1 (show 1≤s by omega) (show s≤1073741824 by omega) with⟨_,h1⟩ |⟨hs,e,t,t2,h1,r',b'⟩
   ·rw[h1,aN (by simp),aN (by simp),hi.same,ai,decide_eq_true rfl]
   ·have ew':=r'.ew b' (by decide)
    have gd':=xZ r b (by decide) z1 (show 1≤s by omega) (show s≤1073741824 by omega) hs t;have gk:=rY r b am (show 1≤s by omega) (show s≤1073741824 by omega) hs t;have hsum:=(uq r.tr t.ent t.xe).1;have hfind:=fO (f:=w.fs) (nm:=a.name) (t.ent.ne r.tr) a.ino;rw[h1];have hle:¬((dT w.fs (aK a.dir w.fs.aa) a.name x).aa.length:Int)>(w.fs.aa.length:Int):=by
     rw[hsum];split<;>omega
    have hpl:(eU w s (aK a.dir w.fs.aa) a.name x).al.aI=if x.aq=1 then bH x.bare w.al.aI else w.al.aI:=rfl
    have hpool:cv (eU w s (aK a.dir w.fs.aa) a.name x)=some ⟨0,0,0,if x.aq=1 then bH x.bare w.al.aI else w.al.aI⟩:=rfl;have hpn:=r.kO hx;have hpk:au a.ino (if x.aq=1 then bH x.bare w.al.aI else w.al.aI)=if x.aq=1 then some x.bare else none:=by
     by_cases hl:x.aq=1
     ·rw[if_pos hl,if_pos hl,bR,if_pos (show x.bare.ino=a.ino from t.IY)]
     ·rw[if_neg hl,if_neg hl];exact hpn
    have hpg:=cP (f:=⟨0,0,0,if x.aq=1 then bH x.bare w.al.aI else w.al.aI⟩) (n:=a.ino) (by have:=b'.pl;rw[hpl] at this;show(if x.aq=1 then bH x.bare w.al.aI else w.al.aI).length≤_;omega);rw[if_pos t.IY] at hfind;clear hpl;generalize (if x.aq=1 then bH x.bare w.al.aI else w.al.aI)=P at hpool hpk hpg;have hgi:cH (eU w s (aK a.dir w.fs.aa) a.name x) s ⟨a.dir,a.name,0⟩=some (w,0):=by
     rw[dZ r' b' (by decide) gd' rfl (by show a.name.length≤_;omega),gk]
    rw[bK (by simp),ew'.wf.nQ,ai,hpool,ai,hpg,ai,nV r' b' (by decide),ai,Bool.not_true,ay,ew'.check,hgi];have hfs:(eU w s (aK a.dir w.fs.aa) a.name x).fs=dT w.fs (aK a.dir w.fs.aa) a.name x:=rfl;simp only[ai,hfs];by_cases hl:x.aq=1
    ·rw[if_pos hl] at hfind hpk
     rw[hfind,hpk,bx hpk,bK (by simp),bK (by simp),aN (by simp),bK (by simp [ae.bare]),bK (by simpa using hle),bK (by simp),aN (by simp),hi.same,ai,decide_eq_true rfl]
    ·rw[if_neg hl] at hfind hpk
     rw[hfind,hpk,bx hfind,bK (by simp),aN (by simp),bK (by simp [ae.dQ]),bK (by simp),bK (by simpa using hle),bK (by simp),aN (by simp),hi.same,ai,decide_eq_true rfl]
 ·rw[aN (by simp [z0])]
theorem v_ (hi:InW w):ll w s p q=some true:=by
 unfold ll;rw[o0];simp only[ai,Bool.not_true,ay];rw[jY hi,ai];cases ho:okW w
 ·rfl
 obtain⟨r,b⟩:=vj ho;have ew:=r.ew b (by decide);rw[Bool.not_true,ay];by_cases s1:s<1
 ·rw[aN (by simp [s1])]
 rw[bK (by simp;omega)];by_cases s2:s>1073741823
 ·rw[aN (by simp;omega)]
 rw[bK (by simp;omega)];by_cases hp:p.length>1000
 ·rw[aN (by simp;omega)]
 rw[bK (by simp;omega)];by_cases hq:q.length>1000
 ·rw[aN (by simp;omega)]
 rw[bK (by simp;omega),gp ew.wf (by omega),ai,ew.wf.nQ,ai,mg,ta];by_cases z0:(atP w.fs p).2=0
 ·rw[bK (by simp [z0])]
  by_cases z1:(atP w.fs p).1.name= []
  ·rw[aN (by simp [z1])]
  rw[bK (by simp [z1])];obtain⟨ga,am,_⟩:=tV ew.wf z0 z1;generalize (atP w.fs p).1=a at*;have hlen:=mR am;cases hx:au a.ino w.fs.aa with
  |none=>rfl
  |some x=>
   rw[bx hx];simp only[Option.isSome_some,Bool.not_true,ay];by_cases hx0:x.entries.length>0
   ·rw[aN (by simp;omega)]
   have hx1:x.entries= [] :=List.length_eq_zero_iff.1 (by omega);rw[bK (by simp [hx1])];rw[(ff (s:=s) r b (by decide) ga z1 hx hx1).1,ai];rcases oS r b (by decide) ga z1 hx hx1 (show 1≤s by omega) (show s≤1073741824 by omega) with⟨_,h1⟩ |⟨hs,e,t,t2,h1,r',b'⟩
   ·rw[h1,gp ew.wf (by omega),ai,ew.wf.nQ,ai,aN (by simp)]
   ·have ew':=r'.ew b' (by decide)
    have gd':=xZ r b (by decide) z1 (show 1≤s by omega) (show s≤1073741824 by omega) hs t;have gk:=rY r b am (show 1≤s by omega) (show s≤1073741824 by omega) hs t;have hgi:cH (eU w s (aK a.dir w.fs.aa) a.name x) s ⟨a.dir,a.name,0⟩=some (w,0):=by
     rw[dZ r' b' (by decide) gd' rfl (by show a.name.length≤_;omega),gk]
    rw[h1];simp only;generalize eU w s (aK a.dir w.fs.aa) a.name x=w1 at*;rw[gp ew'.wf (by omega),ai,ew'.wf.nQ,ai,bK (by simp),mg,ta];by_cases y0:(atP w1.fs q).2=0
    ·rw[bK (by simp [y0])]
     by_cases y1:(atP w1.fs q).1.name= []
     ·rw[aN (by simp [y1])]
     rw[bK (by simp [y1])];obtain⟨gb,bm,_⟩:=tV ew'.wf y0 y1;generalize (atP w1.fs q).1=c at*;have hlen2:=mR bm;cases hy:au c.ino w1.fs.aa with
     |none=>rfl
     |some y=>
      rw[bx hy];simp only[Option.isSome_some,Bool.not_true,ay];by_cases hy0:y.entries.length>0
      ·rw[aN (by simp;omega)]
      have hy1:y.entries= [] :=List.length_eq_zero_iff.1 (by omega);rw[bK (by simp [hy1])];rw[b9 (by omega) (by omega),(ff (s:=s+1) r' b' (by decide) gb y1 hy hy1).1,ai];rcases oS r' b' (by decide) gb y1 hy hy1 (show 1≤s+1 by omega) (show s+1≤1073741824 by omega) with⟨_,h2⟩ |⟨hs2,e2,t3,t4,h2,r2,b2⟩
      ·rw[h2];rfl
      ·have gd2:=xZ r' b' (by decide) y1 (show 1≤s+1 by omega) (show s+1≤1073741824 by omega) hs2 t3
       have gk2:=rY r' b' bm (show 1≤s+1 by omega) (show s+1≤1073741824 by omega) hs2 t3;rw[h2,bK (by simp)];simp only;rw[dZ r2 b2 (by decide) gd2 rfl (by show c.name.length≤_;omega),gk2,ai,hgi,ai,aN (by simp),aN (by simp),nV r2 b2 (by decide),ai,aC,(b'.inw r' (by decide)).same,ai,decide_eq_true rfl,aC,hi.same,ai,decide_eq_true rfl]
    ·rw[aN (by simp [y0])]
 ·rw[aN (by simp [z0])]
theorem tu (hi:InW w):jh w s p i=some true:=by
 unfold jh;rw[o0];simp only[ai,Bool.not_true,ay];rw[jY hi,ai];cases ho:okW w
 ·rfl
 obtain⟨r,b⟩:=vj ho;have ew:=r.ew b (by decide);rw[Bool.not_true,ay];by_cases s1:s<1
 ·rw[aN (by simp [s1])]
 rw[bK (by simp;omega)];by_cases s2:s>1073741824
 ·rw[aN (by simp;omega)]
 rw[bK (by simp;omega)];by_cases hp:p.length>1000
 ·rw[aN (by simp;omega)]
 have l1:=b.bd.len;have l2:=b.kl;have l3:=b.pl;have eta:(⟨⟨w.fs.ar,w.fs.aw,w.fs.next,([] :List ae)++w.fs.aa⟩,⟨([] :List Kept)++w.al.kept,([] :List ae)++w.al.aI⟩⟩:ao)=w:=rfl;have sm:=hi.same w;rw[decide_eq_true rfl] at sm;have hpg:bN w=some ⟨w.fs,⟨[], []⟩⟩:=rfl;rw[bK (by simp;omega),bZ (by unfold LIM;simp;omega),bZ (by unfold LIM;simp;omega),bZ (by unfold LIM;simp;omega),gp ew.wf (by omega),ai];simp only[eta,ew.wf.nQ,ai,iU r b (by decide),gi r b (by decide),hpg,sm,aV,ite_self];by_cases z0:(atP w.fs p).2=0
 ·rw[if_pos (by simp [z0])]
  by_cases z1:(atP w.fs p).1.name= []
  ·rw[if_neg (by simp [z1])]
  rw[if_pos (by simp [z1])];obtain⟨ga,am,_⟩:=tV ew.wf z0 z1;generalize (atP w.fs p).1=a at*;have hlen:=mR am;cases hx:au a.ino w.fs.aa with
  |none=>
   have a0:=DO ew.wf ga z1 hx;simp only[Option.isSome_none,Bool.not_false,if_true,Bool.false_eq_true,if_false,dZ r b (by decide) ga a0 (show a.name.length≤1099511627775 by omega),ai]
  |some x=>
   rw[bx hx];simp only[Option.isSome_some,Bool.not_true,if_true,Bool.false_eq_true,if_false];by_cases hx0:x.entries.length=0
   ·rw[if_pos (by simpa using List.length_eq_zero_iff.1 hx0),(ff (s:=s) r b (by decide) ga z1 hx (List.length_eq_zero_iff.1 hx0)).1,ai]
   ·rw[if_neg (by simpa using fun e=>hx0 (List.length_eq_zero_iff.2 e))]
 ·rw[if_neg (by simp [z0])]
end
end Go.Eng
namespace Go.Eng
open Go
end Go.Eng
namespace Go.Eng
open Go
theorem QY {a b c:Int} {l:List ae} {k:List Kept} {q:List ae} (h:HL.ok 1048576 [.int .i64, .int .i64, .int .i64, .sl .aL, .sl .kept, .sl .aL] (a,b,c,l,k,q,())):InW ⟨⟨a,b,c,l⟩,⟨k,q⟩⟩:=by
 obtain⟨_,_,_,⟨h1,h2⟩,⟨h3,_⟩,⟨h5,h6⟩,_⟩:=h;have g1:l.length≤1048576:=h1;have g3:k.length≤1048576:=h3;have g5:q.length≤1048576:=h5;exact⟨⟨by show l.length≤1073741824;omega,fun x hx=>by have:x.ok 1048576:=h2 x hx;have:=this.2.2.2.2.2.1;omega⟩,⟨by show q.length≤1073741824;omega,fun x hx=>by have:x.ok 1048576:=h6 x hx;have:=this.2.2.2.2.2.1;omega⟩,by show k.length≤1073741824;omega⟩
theorem BS {v:HL.V [.int .i64, .int .i64, .int .i64, .sl .aL, .sl .kept, .sl .aL]} (h:HL.ok 1048576 [.int .i64, .int .i64, .int .i64, .sl .aL, .sl .kept, .sl .aL] v):InW ⟨⟨v.1,v.2.1,v.2.2.1,v.2.2.2.1⟩,⟨v.2.2.2.2.1,v.2.2.2.2.2.1⟩⟩:=by
 obtain⟨a,b,c,l,k,q,u⟩:=v;exact QY h
end Go.Eng
