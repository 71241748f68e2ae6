/- A part of the proofs of the laws of this seat: the engine that reads the program's code, plain functions, or facts of the program's functions. Conditions: none. -/
import Derived.Test.YtodknkhemckfbaaGreatDoorP1
import Derived.Test.YtodknkhemckfbaaGreatDoorE4
set_option linter.unusedSectionVars false
set_option linter.unusedVariables false
set_option linter.unusedSimpArgs false
set_option linter.unnecessarySimpa false
set_option maxRecDepth 100000
namespace Go.Eng
open Go
theorem B9 {l:List Entry} {n:Str} (h:Ct n l=true):∃x,l[pB n l]? =some x/\x.name=n:=by
 unfold Ct at h;split at h
 ·rename_i x hx;exact⟨x,hx,by simpa using h⟩
 ·cases h
theorem Ce {l:List Entry} {n:Str} (hs:gU l) (h:Ct n l=false):cM n l=none:=by
 rw[BE hs];unfold Ct at h;cases hx:l[pB n l]? with
 |none=>rfl
 |some x=>
  rw[hx] at h;have h:¬x.name=n:=by simpa using h
  simp [h]
theorem take_set {α:Type} {a b:List α} {c:Nat} (h:a.length=c):(a++b).take c=a:=by subst h;simp
theorem drop_set {α:Type} {a b:List α} {c:Nat} (h:a.length=c):(a++b).drop c=b:=by subst h;simp
theorem oR {l:List Entry} {n:Str} (hs:gU l) (hl:l.length<=1073741824):fJ l n=some (cH n l):=by
 unfold fJ sh;rw[q9 hs hl];simp only[ae];cases h:Ct n l
 ·rw[Bool.not_false,aw]
  have e9:cH n l=l:=qj (Ce hs h);rw[e9];refine lH (λe=>by subst e;rfl) ?_;rw[bC (by unfold LIM;simp;omega)];rfl
 ·obtain⟨x,hx,hn⟩:=B9 h
  have e9:cH n l=l.take (pB n l)++l.drop (pB n l+1):=r6 loS hs hx hn;rw[Bool.not_true,ax,e9];have hc:=(List.getElem?_eq_some_iff.1 hx).1;generalize pB n l=c at hx hc;have e1:IntKind.i64.wrap ((List.length l:Int) - 1)=((l.length - 1:Nat):Int):=by rw[bN (by omega) (by omega)];omega
  rw[e1,aP (by omega)];simp only[toNat_cast];have hA:(l.take c).length=c:=by simp;omega
  have hmin:min (l.take c).length (List.replicate (l.length - 1) (⟨[],0⟩:Entry)).length=c:=by simp;omega
  simp only[hmin,toNat_cast];have hAB:(l.take c).take (List.replicate (l.length - 1) (⟨[],0⟩:Entry)).length=l.take c:=by rw[List.take_take];congr 1;simp;omega
  simp only[hAB];have hB:(List.replicate (l.length - 1) (⟨[],0⟩:Entry)).drop (l.take c).length=List.replicate (l.length - 1 - c) (⟨[],0⟩:Entry):=by rw[hA,List.drop_replicate]
  simp only[hB];have hlen:(l.take c++List.replicate (l.length - 1 - c) (⟨[],0⟩:Entry)).length=l.length - 1:=by simp;omega
  simp only[hlen];rw[aJ (by simp),bC (by unfold LIM;omega),aJ (by simp;omega),aJ (by simp;omega),aJ (by simp;omega),aJ (by simp;omega),take_set hA,drop_set hA];have hD:(l.drop (c+1)).take (l.length - 1 - c)=l.drop (c+1):=by rw[List.take_of_length_le];simp;omega
  have hE:(List.replicate (l.length - 1 - c) (⟨[],0⟩:Entry)).drop (min (l.drop (c+1)).length (l.length - 1 - c))= [] :=by rw[List.drop_eq_nil_of_le];simp;omega
  rw[hD,hE,List.append_nil]
theorem oy {l:List Entry} {n:Str} {i:Int} (hs:gU l) (hl:l.length<=1073741824):fN l n i=some (fg ⟨n,i⟩ l):=by
 unfold fN sh;rw[q9 hs hl];simp only[ae];have hc:pB n l<=l.length:=nY l;cases h:Ct n l
 ·have hf:=Ce hs h
  have e9:fg (⟨n,i⟩:Entry) l=l.take (pB n l)++⟨n,i⟩::l.drop (pB n l):=vr loS hs hf;rw[e9];generalize pB n l=c at hc;refine lH (λe=> ?_) ?_
  ·subst e
   have:c=0:=by simpa using hc
   subst this;rfl
  ·rw[bC (by unfold LIM;simp;omega)]
   simp only[ax,List.nil_append,List.length_singleton];have e1:IntKind.i64.wrap ((List.length l:Int)+((1:Nat):Int))=((l.length+1:Nat):Int):=by rw[bN (by omega) (by omega)];omega
   have e2:IntKind.i64.wrap ((c:Int)+((1:Nat):Int))=((c+1:Nat):Int):=by rw[bN (by omega) (by omega)];omega
   simp only[e1,e2,toNat_cast];rw[aJ (by simp;omega),aU (by simp)];by_cases hlen:c=l.length
   ·subst hlen
    rw[aJ (by simp),bC (by unfold LIM;omega)];simp
   ·rw[aU (by simp;omega)]
    refine yr λcp hcp=> ?_
    by_cases hcap:cp<l.length+1
    ·rw[aJ (by simp;omega),aJ (by simp;omega)]
     have e3:IntKind.i64.wrap (((l.length+1:Nat):Int) - (c:Int))=((l.length+1 - c:Nat):Int):=by rw[bN (by omega) (by omega)];omega
     simp only[e3,toNat_cast,List.drop_zero];have hA:(l.take c).length=c:=by simp;omega
     have hT:(l.take c++List.replicate (l.length+1 - c) (⟨[],0⟩:Entry)).take c=l.take c:=take_set hA;have hD:(l.take c++List.replicate (l.length+1 - c) (⟨[],0⟩:Entry)).drop c=List.replicate (l.length+1 - c) (⟨[],0⟩:Entry):=drop_set hA;have hL:(l.take c++List.replicate (l.length+1 - c) (⟨[],0⟩:Entry)).length=l.length+1:=by simp;omega
     simp only[hT,hD,hL];have hX:[(⟨n,i⟩:Entry)].take (l.length+1 - c)=[⟨n,i⟩]:=by rw[List.take_of_length_le];simp;omega
     have hM:min 1 (l.length+1 - c)=1:=by omega
     have hR:(List.replicate (l.length+1 - c) (⟨[],0⟩:Entry)).drop 1=List.replicate (l.length - c) (⟨[],0⟩:Entry):=by rw[List.drop_replicate];congr 1;omega
     simp only[hX,hM,hR];have hL2:(l.take c++([(⟨n,i⟩:Entry)]++List.replicate (l.length - c) (⟨[],0⟩:Entry))).length=l.length+1:=by simp;omega
     simp only[hL2];have hM2:min (l.length - c) (l.length+1 - (c+1))=l.length - c:=by omega
     simp only[hM2];rw[aJ (by simp),bC (by unfold LIM;omega),aJ (by simp;omega),aJ (by simp;omega),aJ (by simp;omega),aJ (by simp;omega),aJ (by simp;omega),aJ (by simp;omega),aJ (by simp;omega),aJ (by simp;omega),aJ (by simp;omega)];have e4:l.take c++([(⟨n,i⟩:Entry)]++List.replicate (l.length - c) (⟨[],0⟩:Entry))=(l.take c++[(⟨n,i⟩:Entry)])++List.replicate (l.length - c) (⟨[],0⟩:Entry):=by simp
     have hA1:(l.take c++[(⟨n,i⟩:Entry)]).length=c+1:=by simp;omega
     have hT4:(l.take c++([(⟨n,i⟩:Entry)]++List.replicate (l.length - c) (⟨[],0⟩:Entry))).take (c+1)=l.take c++[(⟨n,i⟩:Entry)]:=by rw[e4];exact take_set hA1
     have hD4:(l.take c++([(⟨n,i⟩:Entry)]++List.replicate (l.length - c) (⟨[],0⟩:Entry))).drop (c+1+(l.length - c))= [] :=by rw[List.drop_eq_nil_of_le];rw[hL2];omega
     have hQ:(l.drop c).take (l.length - c)=l.drop c:=by rw[List.take_of_length_le];simp
     rw[hT4,hD4,hQ];simp
    ·rw[aU (by simp;omega)]
     have hM:min (l.length+1 - c) (l.length+1 - (c+1))=l.length - c:=by omega
     simp only[hM,Nat.zero_add];have hQ:(l.drop c).take (l.length - c)=l.drop c:=by rw[List.take_of_length_le];simp
     have hX:[(⟨n,i⟩:Entry)].take (l.length+1 - c)=[⟨n,i⟩]:=by rw[List.take_of_length_le];simp;omega
     have hM2:min 1 (l.length+1 - c)=1:=by omega
     simp only[hQ,hX,hM2,List.drop_zero];rw[aJ (by simp;omega),aJ (by simp;omega),aJ (by simp),aJ (by simp;omega),aJ (by simp;omega),aJ (by simp;omega),aJ (by simp;omega)];by_cases hc1:c+1<=l.length
     ·rw[aJ (by simp;omega),aU (IK (by omega)),aJ (by simp;omega),aJ (by simp;omega),aJ (by simp;omega)]
      have hT1:(l.take (c+1)++l.drop c).take c=l.take c:=by rw[List.take_append_of_le_length (by simp;omega),List.take_take];congr 1;omega
      have hD1:((l.take (c+1)++l.drop c).drop c).drop 1=l.drop c:=by rw[List.drop_drop];exact drop_set (by simp;omega)
      rw[hT1,hD1];rw[List.take_of_length_le (by simp;omega)];simp
     ·omega
 ·obtain⟨x,hx,hn⟩:=B9 h
  have e9:fg (⟨n,i⟩:Entry) l=l.set (pB n l) ⟨n,i⟩:=El loS hs hx hn;rw[e9];have hc':=(List.getElem?_eq_some_iff.1 hx).1;generalize pB n l=c at hx hc hc';refine lH (λe=>by subst e;simp at hx) ?_;rw[bC (by unfold LIM;simp;omega)];simp only[aw,List.nil_append,toNat_cast,hx,ae];rw[aJ (by simp;omega)];subst hn;rfl
instance ahc:DecidableEq ao:=λa b=>
 if h:a.ino=b.ino/\a.kind=b.kind/\a.aH=b.aH/\a.data=b.data/\a.parent=b.parent/\a.entries=b.entries then isTrue (by cases a;cases b;simp at h;simp [h]) else isFalse (by intro e;subst e;exact h ⟨rfl,rfl,rfl,rfl,rfl,rfl⟩)
instance ao7:DecidableEq Fs:=λa b=>
 if h:a.ay=b.ay/\a.aB=b.aB/\a.next=b.next/\a.aa=b.aa then isTrue (by cases a;cases b;simp at h;simp [h]) else isFalse (by intro e;subst e;exact h ⟨rfl,rfl,rfl,rfl⟩)
abbrev ct (l:List ao):Prop:=dm ltI ao.ino l
abbrev ar (n:Int) (l:List ao):Option ao:=bT ao.ino n l
abbrev dI (n:Int) (l:List ao):List ao:=eR ao.ino n l
abbrev bB (x:ao) (l:List ao):List ao:=p9 ltI ao.ino x l
abbrev mf (n:Int) (l:List ao):Nat:=dY ltI ao.ino n l
def ky:ao:=⟨0,0,0, [],0, []⟩
def aC (n:Int) (l:List ao):ao:=(ar n l).getD ky
def Fs.set (f:Fs) (x:ao):Fs:=⟨f.ay,f.aB,f.next,bB x f.aa⟩
def Fs.drop (f:Fs) (n:Int):Fs:=⟨f.ay,f.aB,f.next,dI n f.aa⟩
def C1 (n:Int) (l:List ao):Bool:=match l[mf n l]? with|some x=>decide (x.ino=n) |none=>false
theorem BB {l:List ao} {n:Int} (hs:ct l):ar n l=aj l[mf n l]? λx=>if x.ino=n then some x else none:=ll loI hs
theorem BQ {l:List ao} {n:Int} (h:C1 n l=true):∃x,l[mf n l]? =some x/\x.ino=n:=by
 unfold C1 at h;split at h
 ·rename_i x hx;exact⟨x,hx,by simpa using h⟩
 ·cases h
theorem BX {l:List ao} {n:Int} (hs:ct l) (h:C1 n l=false):ar n l=none:=by
 rw[BB hs];unfold C1 at h;cases hx:l[mf n l]? with
 |none=>rfl
 |some x=>
  rw[hx] at h;have h:¬x.ino=n:=by simpa using h
  simp [h]
theorem qT {f:Fs} {n:Int} (hs:ct f.aa) (hl:f.aa.length<=1073741824):o_ f n=some ((mf n f.aa:Int),C1 n f.aa):=by
 unfold o_;generalize f.aa=l at hs hl;have hc:mf n l<=l.length:=nY l;have e0:∀(k0:Int->Option (Int×Bool)),eS l n k0 bx (0:Int) (List.length l:Int)=k0 (mf n l:Int):=by
  intro k0;refine DA (λm a b=>eS l n k0 m a b) (λj=>match l[j]? with|some x=>decide (x.ino<n) |none=>false) l.length (mf n l) k0 (by omega) (λm lo hi h1 h2=> ?_) (λm lo h1=> ?_) (λj hj=> ?_) (λj hj hj2=> ?_) bx 0 l.length (fp (by omega)) (Nat.zero_le _) hc (Nat.le_refl _)
  ·simp only[eS,sh]
   have hm:(lo+hi)/2<l.length:=by omega
   rw[dec_lt h1,CB (by omega) (by omega),bu,toNat_cast,List.getElem?_eq_getElem hm,aP (by omega)];have e1:decide ((1:Int)<0)=false:=rfl;simp only[e1,aw,ax,ae,aV,if_true,Bool.false_eq_true,if_false,bne_self_eq_false];by_cases h9:l[(lo+hi)/2].ino<n
   ·simp [h9]
   ·simp [h9]
  ·simp only[eS,sh]
   rw[bF (Nat.le_refl _),ax]
  ·have hj':j<l.length:=by omega
   have:=sd (lt:=ltI) (key:=ao.ino) hj (List.getElem?_eq_getElem hj');simp only[List.getElem?_eq_getElem hj'];exact this
  ·have:=uU loI (k:=n) hs hj (List.getElem?_eq_getElem hj2)
   simp only[List.getElem?_eq_getElem hj2];exact this
 rw[e0];unfold C1;by_cases h:mf n l<l.length
 ·rw[dec_lt h,bu,toNat_cast,List.getElem?_eq_getElem h]
  simp only[aw,ae,bne_self_eq_false,ax,aV];by_cases h1:l[mf n l].ino<n
  ·have:¬l[mf n l].ino=n:=by omega
   simp [h1,this]
  ·by_cases h2:l[mf n l].ino>n
   ·have:¬l[mf n l].ino=n:=by omega
    simp [h1,h2,this]
   ·have:l[mf n l].ino=n:=by omega
    simp [h1,h2,this]
 ·rw[bF (by omega),ax,List.getElem?_eq_none (by omega)]
theorem dq {f:Fs} {n:Int} (hs:ct f.aa) (hl:f.aa.length<=1073741824):b7 f n=some (aC n f.aa,(ar n f.aa).isSome):=by
 unfold b7 aC;rw[qT hs hl,BB hs];simp only[ae];unfold C1;rw[bu,toNat_cast];cases h:f.aa[mf n f.aa]? with
 |none=>rfl
 |some x=>
  simp only[ae];by_cases he:x.ino=n
  ·simp [he]
  ·simp [he];rfl
theorem cJ {f:Fs} {x:ao} (hs:ct f.aa) (hl:f.aa.length<=1073741824):bG f x=some (f.set x):=by
 unfold bG sh Fs.set;rw[qT hs hl];simp only[ae];have hc:mf x.ino f.aa<=f.aa.length:=nY f.aa;generalize f.aa=l at hs hl hc;cases h:C1 x.ino l
 ·have hf:=BX hs h
  have e9:bB x l=l.take (mf x.ino l)++x::l.drop (mf x.ino l):=vr loI hs hf;rw[e9];generalize mf x.ino l=c at hc;refine lH (λe=> ?_) ?_
  ·subst e
   have:c=0:=by simpa using hc
   subst this;rfl
  ·rw[bC (by unfold LIM;simp;omega)]
   simp only[ax,List.nil_append,List.length_singleton];have e1:IntKind.i64.wrap ((List.length l:Int)+((1:Nat):Int))=((l.length+1:Nat):Int):=by rw[bN (by omega) (by omega)];omega
   have e2:IntKind.i64.wrap ((c:Int)+((1:Nat):Int))=((c+1:Nat):Int):=by rw[bN (by omega) (by omega)];omega
   simp only[e1,e2,toNat_cast];rw[aJ (by simp;omega),aU (by simp)];by_cases hlen:c=l.length
   ·subst hlen
    rw[aJ (by simp),bC (by unfold LIM;omega)];simp
   ·rw[aU (by simp;omega)]
    refine yr λcp hcp=> ?_
    by_cases hcap:cp<l.length+1
    ·rw[aJ (by simp;omega),aJ (by simp;omega)]
     have e3:IntKind.i64.wrap (((l.length+1:Nat):Int) - (c:Int))=((l.length+1 - c:Nat):Int):=by rw[bN (by omega) (by omega)];omega
     simp only[e3,toNat_cast,List.drop_zero];have hA:(l.take c).length=c:=by simp;omega
     have hT:(l.take c++List.replicate (l.length+1 - c) (⟨0,0,0, [],0,([] :List Entry)⟩:ao)).take c=l.take c:=take_set hA;have hD:(l.take c++List.replicate (l.length+1 - c) (⟨0,0,0, [],0,([] :List Entry)⟩:ao)).drop c=List.replicate (l.length+1 - c) (⟨0,0,0, [],0,([] :List Entry)⟩:ao):=drop_set hA;have hL:(l.take c++List.replicate (l.length+1 - c) (⟨0,0,0, [],0,([] :List Entry)⟩:ao)).length=l.length+1:=by simp;omega
     simp only[hT,hD,hL];have hX:[x].take (l.length+1 - c)=[x]:=by rw[List.take_of_length_le];simp;omega
     have hM:min 1 (l.length+1 - c)=1:=by omega
     have hR:(List.replicate (l.length+1 - c) (⟨0,0,0, [],0,([] :List Entry)⟩:ao)).drop 1=List.replicate (l.length - c) (⟨0,0,0, [],0,([] :List Entry)⟩:ao):=by rw[List.drop_replicate];congr 1;omega
     simp only[hX,hM,hR];have hL2:(l.take c++([x]++List.replicate (l.length - c) (⟨0,0,0, [],0,([] :List Entry)⟩:ao))).length=l.length+1:=by simp;omega
     simp only[hL2];have hM2:min (l.length - c) (l.length+1 - (c+1))=l.length - c:=by omega
     simp only[hM2];rw[aJ (by simp),bC (by unfold LIM;omega),aJ (by simp;omega),aJ (by simp;omega),aJ (by simp;omega),aJ (by simp;omega),aJ (by simp;omega),aJ (by simp;omega),aJ (by simp;omega),aJ (by simp;omega),aJ (by simp;omega)];have e4:l.take c++([x]++List.replicate (l.length - c) (⟨0,0,0, [],0,([] :List Entry)⟩:ao))=(l.take c++[x])++List.replicate (l.length - c) (⟨0,0,0, [],0,([] :List Entry)⟩:ao):=by simp
     have hA1:(l.take c++[x]).length=c+1:=by simp;omega
     have hT4:(l.take c++([x]++List.replicate (l.length - c) (⟨0,0,0, [],0,([] :List Entry)⟩:ao))).take (c+1)=l.take c++[x]:=by rw[e4];exact take_set hA1
     have hD4:(l.take c++([x]++List.replicate (l.length - c) (⟨0,0,0, [],0,([] :List Entry)⟩:ao))).drop (c+1+(l.length - c))= [] :=by rw[List.drop_eq_nil_of_le];rw[hL2];omega
     have hQ:(l.drop c).take (l.length - c)=l.drop c:=by rw[List.take_of_length_le];simp
     rw[hT4,hD4,hQ];simp
    ·rw[aU (by simp;omega)]
     have hM:min (l.length+1 - c) (l.length+1 - (c+1))=l.length - c:=by omega
     simp only[hM,Nat.zero_add];have hQ:(l.drop c).take (l.length - c)=l.drop c:=by rw[List.take_of_length_le];simp
     have hX:[x].take (l.length+1 - c)=[x]:=by rw[List.take_of_length_le];simp;omega
     have hM2:min 1 (l.length+1 - c)=1:=by omega
     simp only[hQ,hX,hM2,List.drop_zero];rw[aJ (by simp;omega),aJ (by simp;omega),aJ (by simp),aJ (by simp;omega),aJ (by simp;omega),aJ (by simp;omega),aJ (by simp;omega)];have hc1:c+1<=l.length:=by omega
     rw[aJ (by simp;omega),aU (IK (by omega)),aJ (by simp;omega),aJ (by simp;omega),aJ (by simp;omega)];have hT1:(l.take (c+1)++l.drop c).take c=l.take c:=by rw[List.take_append_of_le_length (by simp;omega),List.take_take];congr 1;omega
     have hD1:((l.take (c+1)++l.drop c).drop c).drop 1=l.drop c:=by rw[List.drop_drop];exact drop_set (by simp;omega)
     rw[hT1,hD1];rw[List.take_of_length_le (by simp;omega)];simp
 ·obtain⟨y,hx,hn⟩:=BQ h
  have e9:bB x l=l.set (mf x.ino l) x:=El loI hs hx hn;rw[e9];have hc':=(List.getElem?_eq_some_iff.1 hx).1;generalize mf x.ino l=c at hx hc hc';refine lH (λe=>by subst e;simp at hx) ?_;rw[bC (by unfold LIM;simp;omega)];simp only[aw,List.nil_append,toNat_cast,hx,ae];rw[aJ (by simp;omega)]
theorem ua {α κ R:Type} [DecidableEq κ] {key:α->κ} {k:κ} (kr:α->Option R) (k0:Option R):∀(l:List α) (i:Nat) (s:Unit),dh (λ_ x s K=>if decide (key x=k) then kr x else K s) (λ_=>k0) i l s=match bT key k l with|some x=>kr x|none=>k0
 | [],_,_=>rfl
 |x::l,i,s=>by
  simp only[dh];unfold bT;rw[List.find?_cons];by_cases h:key x=k
  ·simp [h]
  ·simp only[h,decide_false,Bool.false_eq_true,if_false]
   have:=ua (key:=key) (k:=k) kr k0 l (i+1) s;unfold bT at this;rw[this]
theorem eh (a b:Int):(a==b)=decide (a=b):=by rw[Bool.eq_iff_iff,beq_iff_eq,decide_eq_true_eq]
theorem dS (a b:Int):(a !=b)= !decide (a=b):=by rw[bne,eh]
theorem cD {f:Fs} {n:Int} (hl:f.aa.length<=1073741824):bI f n=some (aC n f.aa,(ar n f.aa).isSome):=by
 unfold bI;refine(bE (l:=f.aa) (λm i (_:Unit)=>iO n f (λz10=>some (z10,true)) (some ((⟨0,0,0, [],0,([] :List Entry)⟩:ao),false)) m i) (λ_ (x:ao) s K=>if decide (x.ino=n) then some (x,true) else K s) (λ_=>some (ky,false)) (by omega) (λm k x u hk hx=> ?_) (λm u=> ?_) ()).trans ?_
 ·simp only[iO]
  rw[dec_lt hk,bu,toNat_cast,hx,aP (by omega)];simp only[aw,ae,aV,if_true,eh]
 ·simp only[iO]
  rw[bF (Nat.le_refl _)];rfl
 ·rw[ua (key:=ao.ino) (k:=n) (λx=>some (x,true)) _]
  unfold aC ar;cases bT ao.ino n f.aa<;>rfl
theorem ou {f:Fs} {n:Int} (hl:f.aa.length<=1073741824):iG f n=some (f.drop n):=by
 unfold iG;refine(bE (l:=f.aa) (λm i s=>fS n f (λz11=>some (⟨f.ay,f.aB,f.next,z11⟩:Fs)) m i s) (λ_ (x:ao) s K=>if !decide (x.ino=n) then aS (s.length+[x].length) (K (s++[x])) else K s) (λz11=>some (⟨f.ay,f.aB,f.next,z11⟩:Fs)) (by omega) (λm k x s hk hx=> ?_) (λm s=> ?_) []).trans ?_
 ·simp only[fS]
  rw[dec_lt hk,bu,toNat_cast,hx,aP (by omega)];simp only[aw,ae,aV,if_true,dS]
 ·simp only[fS]
  rw[bF (Nat.le_refl _)];rfl
 ·rw[oN _ _ _ _ _ (by unfold LIM;simp;omega)];rfl
theorem cf {f:Fs} {x:ao} (hl:f.aa.length<=1073741824):bU f x=some (f.set x):=by
 unfold bU;rw[ou hl];simp only[ae];have hfl:(dI x.ino f.aa).length<=f.aa.length:=dQ (key:=ao.ino);unfold Fs.set Fs.drop bB p9;show _=some (⟨f.ay,f.aB,f.next,jB ltI ao.ino x (dI x.ino f.aa)⟩:Fs);generalize dI x.ino f.aa=rest at hfl⊢;refine(bE (l:=rest) (λm i s=>fH rest x (λz18 z19=>ah (!z18) (aS (z19.length+[x].length) (some (⟨f.ay,f.aB,f.next,(z19++[x])⟩:Fs))) (some (⟨f.ay,f.aB,f.next,z19⟩:Fs))) m s.1 i s.2)
  (λ_ y (s:Bool×List ao) K=>if !s.1 then (if ltI x.ino y.ino then aS (s.2.length+[x].length) (aS ((s.2++[x]).length+[y].length) (K (true,(s.2++[x])++[y]))) else aS (s.2.length+[y].length) (K (s.1,s.2++[y]))) else aS (s.2.length+[y].length) (K (s.1,s.2++[y])))
  (λs=>if !s.1 then aS (s.2.length+[x].length) (some (⟨f.ay,f.aB,f.next,s.2++[x]⟩:Fs)) else some (⟨f.ay,f.aB,f.next,s.2⟩:Fs)) (by omega) (λm k y s hk hx=> ?_) (λm s=> ?_) (false, [])).trans ?_
 ·simp only[fH]
  rw[dec_lt hk,bu,toNat_cast,hx,aP (by omega)];simp only[aw,ae,aV,if_true,ltI,gt_iff_lt]
 ·simp only[fH]
  rw[bF (Nat.le_refl _),ax];simp only[aV]
 ·rw[mY (lt:=ltI) (key:=ao.ino) x (λz=>some (⟨f.ay,f.aB,f.next,z⟩:Fs)) _ _ _ (by unfold LIM;simp;omega)]
  rfl
theorem aim (a b:ao):decide (a=b)=(decide (a.ino=b.ino)&&(decide (a.kind=b.kind)&&(decide (a.aH=b.aH)&&(decide (a.data=b.data)&&(decide (a.parent=b.parent)&&decide (a.entries=b.entries)))))):=by
 rw[Bool.eq_iff_iff];cases a;cases b;simp
theorem DO {a b:ao} (hl:a.entries.length<=1073741824):rR a b=some (decide (a=b)):=by
 unfold rR;rw[AZ hl,aim];simp only[eh,oo,aV,ae];by_cases h1:a.ino=b.ino
 ·by_cases h2:a.kind=b.kind
  ·by_cases h3:a.aH=b.aH
   ·by_cases h4:a.data=b.data
    ·by_cases h5:a.parent=b.parent
     ·simp [h1,h2,h3,h4,h5]
     ·simp [h1,h2,h3,h4,h5]
    ·simp [h1,h2,h3,h4]
   ·simp [h1,h2,h3]
  ·simp [h1,h2]
 ·simp [h1]
theorem tn {a b:List ao} (hl:a.length<=1073741824) (he:∀x∈a,x.entries.length<=1073741824):nt a b=some (decide (a=b)):=by
 unfold nt;rw[aV];by_cases h:a.length=b.length
 ·have e:((List.length a:Int) !=(List.length b:Int))=false:=by rw[h];simp
  rw[e,if_neg (by simp)];refine(bE (l:=a) (λm i (_:Unit)=>gX a b (some false) (some true) m i) (λk x (_:Unit) K=>aj ([] ++b)[k]? λy=>if decide (x=y) then K () else some false) (λ_=>some true) (by omega) (λm k x u hk hx=> ?_) (λm u=> ?_) ()).trans ?_
  ·simp only[gX]
   rw[dec_lt hk,bu,toNat_cast,hx,aP (by omega)];simp only[aw,ae,aV,if_true,List.nil_append];have hk':k<b.length:=by omega
   rw[List.getElem?_eq_getElem hk'];simp only[ae];rw[DO (he x (List.mem_of_getElem? hx))];simp only[ae];by_cases hxy:x=b[k]<;>simp [hxy]
  ·simp only[gX]
   rw[bF (Nat.le_refl _)];rfl
  ·rw[pt _ _ a b 0 [] h rfl]
   by_cases hab:a=b<;>simp [hab]
 ·have e:((List.length a:Int) !=(List.length b:Int))=true:=by rw[bne_iff_ne];omega
  rw[e,if_pos rfl];have:¬a=b:=λe=>h (by rw[e])
  simp [this]
theorem acn (a b:Fs):decide (a=b)=(decide (a.ay=b.ay)&&(decide (a.aB=b.aB)&&(decide (a.next=b.next)&&decide (a.aa=b.aa)))):=by
 rw[Bool.eq_iff_iff];cases a;cases b;simp
theorem om {a b:Fs} (hl:a.aa.length<=1073741824) (he:∀x∈a.aa,x.entries.length<=1073741824):kR a b=some (decide (a=b)):=by
 unfold kR;rw[tn hl he,acn];simp only[eh,aV,ae];by_cases h1:a.ay=b.ay
 ·by_cases h2:a.aB=b.aB
  ·by_cases h3:a.next=b.next
   ·simp [h1,h2,h3]
   ·simp [h1,h2,h3]
  ·simp [h1,h2]
 ·simp [h1]
def bytesOf (l:List ao):Int:=(l.map λx=>if x.kind=1 then (x.data.length:Int) else 0).sum
def cy (f:Fs) (a b:Int):Bool:=decide ((f.aa.length:Int)+a<=f.ay)&&decide (bytesOf f.aa+b<=f.aB)
structure SmF (f:Fs):Prop where
 len:f.aa.length<=1073741824
 data:∀x∈f.aa,x.data.length<=1073741824
 dD:∀x∈f.aa,x.entries.length<=1073741824
 names:∀x∈f.aa,∀e∈x.entries,e.name.length<=1099511627775
theorem pC (x:ao) (l:List ao):bytesOf (x::l)=(if x.kind=1 then (x.data.length:Int) else 0)+bytesOf l:=by simp [bytesOf]
theorem ud (l:List ao):0<=bytesOf l:=by
 induction l with
 |nil=>simp [bytesOf]
 |cons x l ih=>rw[pC];split<;>omega
theorem HO {N:Nat} {l:List ao} (h:∀x∈l,x.data.length<=N):bytesOf l<=((l.length*N:Nat):Int):=by
 induction l with
 |nil=>simp [bytesOf]
 |cons x l ih=>
  have h1:=ih (λy hy=>h y (by simp [hy]));have h2:=h x (by simp);rw[pC,List.length_cons,Nat.succ_mul];split<;>omega
theorem SmF.bytes {f:Fs} (h:SmF f):bytesOf f.aa<=1152921504606846976:=by
 have h1:=HO h.data;have h2:f.aa.length*1073741824<=1073741824*1073741824:=Nat.mul_le_mul_right _ h.len;omega
theorem pA {R:Type} (kk:Int->Option R):∀(l:List ao) (k:Nat) (s:Int),0<=s->s+bytesOf l<=4611686018427387904->
 dh (λ_ (x:ao) s K=>if decide (x.kind=1) then K (IntKind.i64.wrap (s+(x.data.length:Int))) else K s) kk k l s=kk (s+bytesOf l)
 | [],k,s,_,_=>by simp [dh,bytesOf]
 |x::l,k,s,h0,h=>by
  have hn:=ud l;rw[pC] at h⊢;simp only[dh];by_cases hk:x.kind=1
  ·rw[if_pos hk] at h
   rw[if_pos (by simp [hk]),if_pos hk,bN (by omega) (by omega),pA kk l (k+1) _ (by omega) (by omega),Int.add_assoc]
  ·rw[if_neg hk] at h
   rw[if_neg (by simp [hk]),if_neg hk,pA kk l (k+1) _ (by omega) (by omega)];simp
theorem A9 {f:Fs} (h:SmF f):pF f=some (bytesOf f.aa):=by
 have hs:=h.bytes;have hl:=h.len;unfold pF;refine(bE (l:=f.aa) (λn i s=>fI (f.aa.length:Int) f (λz8=>some z8) n s i) (λ_ (x:ao) s K=>if decide (x.kind=1) then K (IntKind.i64.wrap (s+(x.data.length:Int))) else K s) (λz=>some z) (by omega) (λn k x s hk hx=> ?_) (λn s=> ?_) 0).trans ?_
 ·simp only[fI]
  rw[dec_lt hk,bu,toNat_cast,hx,aP (by omega)];simp only[aw,ae,aV,if_true,eh]
 ·simp only[fI]
  rw[bF (Nat.le_refl _)];rfl
 ·rw[pA _ _ _ _ (by omega) (by omega)];simp
theorem zU {f:Fs} (h:SmF f):nO f=some (bytesOf f.aa):=by
 have hs:=h.bytes;have hl:=h.len;unfold nO;refine(bE (l:=f.aa) (λn i s=>fm f (λz7=>some z7) n s i) (λ_ (x:ao) s K=>if decide (x.kind=1) then K (IntKind.i64.wrap (s+(x.data.length:Int))) else K s) (λz=>some z) (by omega) (λn k x s hk hx=> ?_) (λn s=> ?_) 0).trans ?_
 ·simp only[fm]
  rw[dec_lt hk,bu,toNat_cast,hx,aP (by omega)];simp only[aw,ae,aV,if_true,eh]
 ·simp only[fm]
  rw[bF (Nat.le_refl _)];rfl
 ·rw[pA _ _ _ _ (by omega) (by omega)];simp
def Far (n:Int):Prop:= -1152921504606846976<=n/\n<=1152921504606846976
theorem iN {f:Fs} {a b:Int} (h:SmF f) (ha:Far a) (hb:Far b):iS f a b=some (cy f a b):=by
 have hs:=h.bytes;have h0:=ud f.aa;have hl:=h.len;unfold Far at ha hb;unfold iS cy rj;rw[A9 h];simp only[ae,aV];rw[bN (by omega) (by omega),bN (by omega) (by omega)];by_cases h1:(f.aa.length:Int)+a<=f.ay<;>simp [h1]
theorem fW {f:Fs} {a b:Int} (h:SmF f) (ha:Far a) (hb:Far b):fM f a b=some (cy f a b):=by
 have hs:=h.bytes;have h0:=ud f.aa;have hl:=h.len;unfold Far at ha hb;unfold fM cy;rw[zU h];simp only[ae,aV];rw[bN (by omega) (by omega),bN (by omega) (by omega)];by_cases h1:(f.aa.length:Int)+a<=f.ay
 ·have h2:¬f.ay<(f.aa.length:Int)+a:=by omega
  simp [h1,h2]
 ·have h2:f.ay<(f.aa.length:Int)+a:=by omega
  simp [h1,h2]
def Ji (x:ao):Bool:=decide (x.data.length<=5000)&&(decide (x.entries.length<=40)&&x.entries.all λe=>decide (e.name.length<=300))
def oJ (f:Fs):Bool:=(f.aa.take 100).all Ji&&decide (f.aa.length<=40)
theorem gq {α R:Type} (p:α->Bool) (kr k0:Option R):∀(l:List α) (k:Nat) (s:Unit),dh (λ_ x s K=>if p x then K s else kr) (λ_=>k0) k l s=if l.all p then k0 else kr
 | [],_,_=>rfl
 |x::l,k,s=>by
  by_cases h:p x=true
  ·have e:(x::l).all p=l.all p:=by simp [h]
   rw[e];simp only[dh];rw[if_pos h];exact gq p kr k0 l (k+1) s
  ·have e:(x::l).all p=false:=by simp [h]
   rw[e];simp [dh,h]
theorem xN {R:Type} {x:ao} {kr k2:Option R} (hl:x.entries.length<=1073741824):gJ x kr k2 bx (0:Int)=if x.entries.all (λe=>decide (e.name.length<=300)) then k2 else kr:=by
 refine(bE (l:=x.entries) (λn i (s:Unit)=>gJ x kr k2 n i) (λ_ (e:Entry) s K=>if decide (e.name.length<=300) then K s else kr) (λ_=>k2) (by omega) (λn k e s hk hx=> ?_) (λn s=> ?_) ()).trans ?_
 ·simp only[gJ]
  rw[dec_lt hk,bu,toNat_cast,hx,aP (by omega)];simp only[aw,ae,aV,if_true];by_cases h:e.name.length<=300
  ·have h2:¬(300:Int)<(e.name.length:Int):=by omega
   simp [h,h2]
  ·have h2:(300:Int)<(e.name.length:Int):=by omega
   simp [h,h2]
 ·simp only[gJ]
  rw[bF (Nat.le_refl _)];rfl
 ·exact gq _ _ _ _ _ _
theorem qc {f:Fs} (hl:f.aa.length<=1073741824) (he:∀x∈f.aa,x.entries.length<=1073741824):jM f=some (oJ f):=by
 unfold jM;refine(bE (l:=f.aa.take 100) (λn i (s:Unit)=>iX f (some false) (some (decide ((f.aa.length:Int)<=(40:Int)))) n i) (λ_ x s K=>if Ji x then K s else some false) (λ_=>some (decide ((f.aa.length:Int)<=(40:Int)))) (by simp;omega) (λn k x s hk hx=> ?_) (λn s=> ?_) ()).trans ?_
 ·have hk':k<f.aa.length/\k<100:=by simp at hk;omega
  have hx':f.aa[k]? =some x:=by rw[List.getElem?_take_of_lt hk'.2] at hx;exact hx
  have hxm:=he x (List.mem_of_getElem? hx');simp only[iX];have h100:decide ((k:Int)<(100:Int))=true:=by simp;omega
  rw[dec_lt hk'.1,h100,bu,toNat_cast,hx',aP (by omega)];simp only[aw,ae,aV,if_true];rw[xN hxm];unfold Ji;by_cases h1:x.data.length<=5000
  ·have h1':¬(5000:Int)<(x.data.length:Int):=by omega
   by_cases h2:x.entries.length<=40
   ·have h2':¬(40:Int)<(x.entries.length:Int):=by omega
    simp [h1,h1',h2,h2']
   ·have h2':(40:Int)<(x.entries.length:Int):=by omega
    simp [h1,h1',h2,h2']
  ·have h1':(5000:Int)<(x.data.length:Int):=by omega
   simp [h1,h1']
 ·simp only[iX]
  by_cases h:f.aa.length<=100
  ·have e:(f.aa.take 100).length=f.aa.length:=by simp;omega
   rw[e,bF (Nat.le_refl _)];rfl
  ·have e:(f.aa.take 100).length=100:=by simp;omega
   rw[e];have h1:decide (((100:Nat):Int)<(f.aa.length:Int))=true:=by simp;omega
   rw[h1];rfl
 ·rw[gq]
  unfold oJ;have e:decide ((f.aa.length:Int)<=(40:Int))=decide (f.aa.length<=40):=by rw[decide_eq_decide];omega
  rw[e];by_cases h9:(f.aa.take 100).all Ji=true
  ·rw[if_pos h9,h9];rfl
  ·rw[if_neg h9]
   have:(f.aa.take 100).all Ji=false:=by simpa using h9
   rw[this];rfl
theorem rX {f:Fs} (h:oJ f=true):f.aa.length<=40/\∀x∈f.aa,x.data.length<=5000/\x.entries.length<=40/\∀e∈x.entries,e.name.length<=300:=by
 unfold oJ at h;simp only[Bool.and_eq_true,decide_eq_true_eq] at h;obtain⟨h1,h2⟩:=h;rw[List.take_of_length_le (by omega),List.all_eq_true] at h1;refine⟨h2,λx hx=> ?_⟩;have:=h1 x hx;unfold Ji at this;simp only[Bool.and_eq_true,decide_eq_true_eq,List.all_eq_true] at this;exact this
theorem SmF.Gi {f:Fs} (h:oJ f=true):SmF f:=by
 obtain⟨h1,h2⟩:=rX h;exact⟨by omega,λx hx=>by have:=(h2 x hx).1;omega,λx hx=>by have:=(h2 x hx).2.1;omega,λx hx e he=>by have:=(h2 x hx).2.2 e he;omega⟩
def iE:List ao->Bool
 | [] =>true
 |[_]=>true
 |x::y::l=>decide (x.ino<y.ino)&&iE (y::l)
theorem sn:∀l:List ao,iE l=true↔ct l
 | [] =>by simp [iE,ct,dm]
 |[x]=>by simp [iE,ct,dm]
 |x::y::l=>by
  have ih:=sn (y::l);unfold ct dm at ih⊢;rw[List.pairwise_cons];simp only[iE,Bool.and_eq_true,ih,decide_eq_true_eq];constructor
  ·rintro⟨h1,h2⟩
   refine⟨λz hz=> ?_,h2⟩;rw[List.pairwise_cons] at h2;simp only[List.mem_cons] at hz;rcases hz with rfl|hz
   ·simp [ltI,h1]
   ·have:=h2.1 z hz
    simp only[ltI,decide_eq_true_eq] at this⊢;omega
  ·rintro⟨h1,h2⟩
   have:=h1 y (by simp);simp only[ltI,decide_eq_true_eq] at this;exact⟨this,h2⟩
theorem v7:∀(a:List ao) (x y:ao) (l:List ao),iE (a++x::y::l)=(iE (a++[x])&&(decide (x.ino<y.ino)&&iE (y::l)))
 | [],x,y,l=>by simp [iE]
 |[z],x,y,l=>by simp [iE,Bool.and_assoc]
 |z::z2::a,x,y,l=>by
  have:=v7 (z2::a) x y l;simp only[List.cons_append] at this⊢;simp only[iE,this,Bool.and_assoc]
theorem tf {f:Fs} (hl:f.aa.length<=1073741824):nE f=some (iE f.aa):=by
 unfold nE;have key:∀(n k:Nat),1<=k->f.aa.length - k<n->iE (f.aa.take k)=true->jh f (some false) (some true) n (k:Int)=some (iE f.aa):=by
  intro n;induction n with
  |zero=>intro k _ h;omega
  |succ n ih=>
   intro k h1 hn hr;simp only[jh];by_cases hk:k<f.aa.length
   ·rw[dec_lt hk,aw,BN (by omega) (by omega),bu,aw,toNat_cast,List.getElem?_eq_getElem (by omega),ae,bu,aw,toNat_cast,List.getElem?_eq_getElem hk,ae,aP (by omega)]
    have e1:f.aa.take k=f.aa.take (k - 1)++[f.aa[k - 1]]:=by
     have:k=(k - 1)+1:=by omega
     conv=>lhs;rw[this]
     rw[List.take_add_one,List.getElem?_eq_getElem (by omega)];rfl
    have e2:f.aa=f.aa.take (k - 1)++f.aa[k - 1]::f.aa[k]::f.aa.drop (k+1):=by
     conv=>lhs;rw[<-List.take_append_drop (k - 1) f.aa]
     rw[List.drop_eq_getElem_cons (i:=k - 1) (by omega)];have:k - 1+1=k:=by omega
     rw[this,List.drop_eq_getElem_cons hk]
    by_cases h:f.aa[k - 1].ino<f.aa[k].ino
    ·rw[aU (by simp;omega)]
     refine ih (k+1) (by omega) (by omega) ?_;have e3:f.aa.take (k+1)=f.aa.take (k - 1)++f.aa[k - 1]::[f.aa[k]]:=by
      rw[List.take_add_one,List.getElem?_eq_getElem hk];conv=>lhs;rw[e1]
      rw[List.append_assoc];rfl
     rw[e3,v7,<-e1,hr];simp [iE,h]
    ·rw[aJ (by simp;omega)]
     rw[e2,v7];simp [h]
   ·rw[bF (by omega),ax]
    rw[List.take_of_length_le (by omega)] at hr;rw[hr]
 refine key bx 1 (Nat.le_refl _) (fp (by omega)) ?_;cases h:f.aa with
 |nil=>rfl
 |cons x l=>simp [iE]
def tM (f:Fs):Bool:=decide (1<=f.ay/\f.ay<=1073741824/\0<=f.aB/\f.aB<=1073741824/\f.next<=1099511627776)&&(f.aa.all (λx=>decide (1<=x.ino/\x.ino<f.next))&&(iE f.aa&&((ar 1 f.aa).isSome&&decide ((aC 1 f.aa).kind=2))))
theorem z_ {f:Fs} (hl:f.aa.length<=1073741824):n4 f=some (tM f):=by
 unfold n4 tM;rw[cD hl,tf hl];simp only[ae];by_cases h1:f.ay<1
 ·rw[aJ (by simp [h1]),decide_eq_false (by omega)];rfl
 rw[aU (by simp [h1])];by_cases h2:f.ay>1073741824
 ·rw[aJ (by simp [h2]),decide_eq_false (by omega)];rfl
 rw[aU (by simp [h2])];by_cases h3:f.aB<0
 ·rw[aJ (by simp [h3]),decide_eq_false (by omega)];rfl
 rw[aU (by simp [h3])];by_cases h4:f.aB>1073741824
 ·rw[aJ (by simp [h4]),decide_eq_false (by omega)];rfl
 rw[aU (by simp [h4])];by_cases h5:f.next>1099511627776
 ·rw[aJ (by simp [h5]),decide_eq_false (by omega)];rfl
 rw[aU (by simp [h5]),decide_eq_true (by omega),Bool.true_and];generalize hk0:(ah (iE f.aa) (ah (ar 1 f.aa).isSome (some ((aC 1 f.aa).kind==(2:Int))) (some false)) (some false))=k0;have e0:k0=some (iE f.aa&&((ar 1 f.aa).isSome&&decide ((aC 1 f.aa).kind=2))):=by
  rw[<-hk0,eh];cases iE f.aa<;>cases (ar 1 f.aa).isSome<;>rfl
 refine(bE (l:=f.aa) (λm i (_:Unit)=>gv f (some false) k0 m i) (λ_ (x:ao) s K=>if decide (1<=x.ino/\x.ino<f.next) then K s else some false) (λ_=>k0) (by omega) (λm k x u hk hx=> ?_) (λm u=> ?_) ()).trans ?_
 ·simp only[gv]
  rw[dec_lt hk,bu,toNat_cast,hx,aP (by omega)];simp only[aw,ae,aV,if_true];by_cases h6:x.ino<1
  ·have:¬(1<=x.ino/\x.ino<f.next):=by omega
   simp [h6,this]
  ·by_cases h7:x.ino>=f.next
   ·have:¬(1<=x.ino/\x.ino<f.next):=by omega
    have h7':f.next<=x.ino:=h7;simp [h6,h7',this]
   ·have:1<=x.ino/\x.ino<f.next:=by omega
    have h7':¬f.next<=x.ino:=h7;simp [h6,h7',this]
 ·simp only[gv]
  rw[bF (Nat.le_refl _)];rfl
 ·rw[gq,e0]
  by_cases h9:f.aa.all (λx=>decide (1<=x.ino/\x.ino<f.next))=true
  ·rw[if_pos h9,h9,Bool.true_and]
  ·rw[if_neg h9]
   have:f.aa.all (λx=>decide (1<=x.ino/\x.ino<f.next))=false:=by simpa using h9
   rw[this,Bool.false_and]
def ft (x:ao):Bool:=(decide (x.kind=1)&&(x.entries.isEmpty&&decide (x.parent=0)))||((decide (x.kind=2)&&(decide (x.data= [])&&gG x.entries))||(decide (x.kind=3)&&(x.entries.isEmpty&&(decide (x.parent=0)&&(decide (1<=x.data.length/\x.data.length<=4095)&& !(x.data.any (λb=>b==0)))))))
def pU (f:Fs):Bool:=f.aa.all ft
theorem FM {R:Type} {x:ao} {kr k2:Option R} (hl:x.data.length<=1073741824):dz x kr k2 bx (0:Int)=if decide (x.kind=3)&&x.data.any (λb=>b==0) then kr else k2:=by
 by_cases h3:x.kind=3
 ·refine(bE (l:=x.data) (λm i (_:Unit)=>dz x kr k2 m i) (λ_ (b:UInt8) s K=>if b==0 then kr else K s) (λ_=>k2) (by omega) (λm k b u hk hx=> ?_) (λm u=> ?_) ()).trans ?_
  ·simp only[dz]
   rw[dec_lt hk,bu,toNat_cast,hx,aP (by omega),aJ rfl,aJ (by simp [h3]),aJ rfl,ae,aV];have:((UInt8.toNat b:Int)==(0:Int))=(b==0):=jO b 0 (by omega);rw[this]
  ·simp only[dz]
   rw[bF (Nat.le_refl _)];rfl
  ·rw[jq (λb:UInt8=>b==0) (λ_ _=>kr) k2 kr (λ_ _=>rfl)]
   simp [h3]
 ·obtain⟨m,hm⟩:=KZ
  rw[hm];simp only[dz];rw[if_neg (by simp [h3])];cases decide ((0:Int)<(List.length x.data:Int))
  ·rfl
  ·rw[aw,aU (by simp [h3])]
theorem Cm {x:ao} (h:x.kind=1):ft x=(x.entries.isEmpty&&decide (x.parent=0)):=by
 unfold ft;simp [h]
theorem vg {x:ao} (h:x.kind=2):ft x=(decide (x.data= [])&&gG x.entries):=by
 unfold ft;simp [h]
theorem BH {x:ao} (h:x.kind=3):ft x=(x.entries.isEmpty&&(decide (x.parent=0)&&(decide (1<=x.data.length/\x.data.length<=4095)&& !(x.data.any (λb=>b==0))))):=by
 unfold ft;simp [h]
theorem IV {x:ao} (h1:¬x.kind=1) (h2:¬x.kind=2) (h3:¬x.kind=3):ft x=false:=by
 unfold ft;simp [h1,h2,h3]
theorem Ee {α:Type} (l:List α):decide ((List.length l:Int)>(0:Int))= !l.isEmpty:=by
 cases l with
 |nil=>rfl
 |cons x l=>simp
theorem xZ {f:Fs} (h:SmF f):mR f=some (pU f):=by
 have hl:=h.len;unfold mR pU;refine(bE (l:=f.aa) (λm i (_:Unit)=>fx f (some false) (some true) m i) (λ_ (x:ao) s K=>if ft x then K s else some false) (λ_=>some true) (by omega) (λm k x u hk hx=> ?_) (λm u=> ?_) ()).trans ?_
 ·simp only[fx,sh]
  have hxm:=List.mem_of_getElem? hx;have hsm:Sm x.entries:=⟨h.dD x hxm,h.names x hxm⟩;rw[dec_lt hk,bu,toNat_cast,hx,aP (by omega)];simp only[aw,ae,Ar hsm,FM (h.data x hxm),Ee,dS,eh,oo];by_cases h1:x.kind=1
  ·rw[Cm h1]
   have e2:¬x.kind=2:=by omega
   have e3:¬x.kind=3:=by omega
   rw[aU (by simp [h1]),aJ (by simp [e2])];simp only[h1];cases x.entries.isEmpty
   ·rfl
   ·by_cases hp:x.parent=0
    ·simp [hp]
    ·simp [hp]
  ·rw[aJ (by simp [h1])]
   by_cases h2:x.kind=2
   ·rw[vg h2]
    have e3:¬x.kind=3:=by omega
    rw[aU (by simp [h2]),aU (by simp [h2]),aJ (by simp [h2])];simp only[h2];by_cases hd:x.data= []
    ·simp only[hd]
     cases gG x.entries<;>simp
    ·simp [hd]
   ·rw[aJ (by simp [h2])]
    by_cases h3:x.kind=3
    ·rw[BH h3,aU (by simp [h3]),aJ (by simp [h2])]
     simp only[h3];cases x.entries.isEmpty
     ·rfl
     ·by_cases hp:x.parent=0
      ·by_cases hd1:x.data.length<1
       ·have:¬(1<=x.data.length/\x.data.length<=4095):=by omega
        have hd1':((List.length x.data:Int)<1):=by omega
        simp [hp,hd1',this]
       ·by_cases hd2:x.data.length>4095
        ·have:¬(1<=x.data.length/\x.data.length<=4095):=by omega
         have hd1':¬((List.length x.data:Int)<1):=by omega
         have hd2':(4095:Int)<(List.length x.data:Int):=by omega
         simp [hp,hd1',hd2',this]
        ·have:1<=x.data.length/\x.data.length<=4095:=by omega
         have hd1':¬((List.length x.data:Int)<1):=by omega
         have hd2':¬(4095:Int)<(List.length x.data:Int):=by omega
         rw[decide_eq_true this,decide_eq_true hp];cases hany:x.data.any (λb=>b==0)
         ·simp [hp,hd1',hd2']
         ·simp [hp,hd1',hd2']
      ·simp [hp]
    ·rw[IV h1 h2 h3,aJ (by simp [h3])];rfl
 ·simp only[fx,sh]
  rw[bF (Nat.le_refl _)];rfl
 ·rw[gq];exact I3
def t_ (f:Fs):Bool:=f.aa.all λx=>x.entries.all λe=>(ar e.ino f.aa).isSome
theorem MR {R:Type} {f:Fs} {k:Nat} {x:ao} {kr k2:Option R} (hx:f.aa[k]? =some x) (hl:f.aa.length<=1073741824) (he:x.entries.length<=1073741824):eZ (k:Int) f kr k2 bx (0:Int)=if x.entries.all (λe=>(ar e.ino f.aa).isSome) then k2 else kr:=by
 refine(bE (l:=x.entries) (λm i (_:Unit)=>eZ (k:Int) f kr k2 m i) (λ_ (e:Entry) s K=>if (ar e.ino f.aa).isSome then K s else kr) (λ_=>k2) (by omega) (λm j e u hj he'=> ?_) (λm u=> ?_) ()).trans ?_
 ·simp only[eZ]
  rw[bu,toNat_cast,hx];simp only[aw,ae];rw[dec_lt hj,bu,toNat_cast,he',aP (by omega)];simp only[aw,ae];rw[cD hl];simp only[ae,aV];cases (ar e.ino f.aa).isSome<;>rfl
 ·simp only[eZ]
  rw[bu,toNat_cast,hx];simp only[aw,ae];rw[bF (Nat.le_refl _)];rfl
 ·exact gq _ _ _ _ _ _
theorem yZ {f:Fs} (h:SmF f):nS f=some (t_ f):=by
 have hl:=h.len;unfold nS t_;refine(bE (l:=f.aa) (λm i (_:Unit)=>gj f (some false) (some true) m i) (λ_ (x:ao) s K=>if x.entries.all (λe=>(ar e.ino f.aa).isSome) then K s else some false) (λ_=>some true) (by omega) (λm k x u hk hx=> ?_) (λm u=> ?_) ()).trans ?_
 ·simp only[gj]
  rw[dec_lt hk,aw,MR hx hl (h.dD x (List.mem_of_getElem? hx)),aP (by omega)]
 ·simp only[gj]
  rw[bF (Nat.le_refl _)];rfl
 ·rw[gq (λx:ao=>x.entries.all λe=>(ar e.ino f.aa).isSome)]
  exact I3
def oq (n:Int) (l:List Entry):Nat:=(l.filter λe=>decide (e.ino=n)).length
def fK (n:Int):List ao->Nat×Int->Nat×Int
 | [],s=>s
 |x::l,s=>fK n l (s.1+oq n x.entries,if oq n x.entries=0 then s.2 else x.ino)
def eo (f:Fs) (n:Int):Nat×Int:=fK n f.aa (0,0)
theorem I9 (n:Int) (e:Entry) (l:List Entry):oq n (e::l)=(if e.ino=n then 1 else 0)+oq n l:=by
 unfold oq;rw[List.filter_cons];by_cases h:e.ino=n<;>simp [h];omega
theorem IY (n:Int) (l:List Entry):oq n l<=l.length:=List.length_filter_le _ _
theorem Au {n:Int} {l:List Entry} {j:Nat} {e:Entry} (h:l[j]? =some e):oq n (l.take (j+1))=oq n (l.take j)+if e.ino=n then 1 else 0:=by
 unfold oq;rw[List.take_add_one,h];simp only[Option.toList_some,List.filter_append,List.length_append];by_cases h':e.ino=n<;>simp [h']
theorem MD {R:Type} {f:Fs} {n:Int} {k:Nat} {x:ao} {k2:Int->Int->Option R} (hx:f.aa[k]? =some x) (hl:f.aa.length<=1073741824) (he:x.entries.length<=1073741824) {c:Nat} {d:Int} (hc:c<=1152921504606846976):
 ek n (k:Int) f k2 bx (c:Int) d (0:Int)=k2 ((c+oq n x.entries:Nat):Int) (if oq n x.entries=0 then d else x.ino):=by
 refine kK (l:=x.entries) (λm i (s:Int×Int)=>ek n (k:Int) f k2 m s.1 s.2 i) (λj s=>s=(((c+oq n (x.entries.take j):Nat):Int),if oq n (x.entries.take j)=0 then d else x.ino)) (λr=>r=k2 ((c+oq n x.entries:Nat):Int) (if oq n x.entries=0 then d else x.ino)) (by omega) (λm j e s hj he' hi hr=> ?_) (λm s hi=> ?_) ((c:Int),d) (by simp [oq])
 ·simp only[ek]
  have hcl:=IY n (x.entries.take j);have hcl':(x.entries.take j).length<=x.entries.length:=by simp;omega
  have ht:=Au (n:=n) he';rw[bu,toNat_cast,hx];simp only[aw,ae];rw[dec_lt hj,bu,toNat_cast,he',aP (by omega)];simp only[aw,ae,eh,aV,if_true];by_cases h:e.ino=n
  ·rw[if_pos (by simp [h])]
   rw[if_pos h] at ht;refine hr (IntKind.i64.wrap (s.1+1),x.ino) ?_;rw[hi,ht];simp only;rw[aP (by omega)];have:¬oq n (x.entries.take j)+1=0:=by omega
   rw[if_neg this];rfl
  ·rw[if_neg (by simp [h])]
   rw[if_neg h,Nat.add_zero] at ht;refine hr _ ?_;rw[hi,ht];simp only[Nat.add_zero]
 ·simp only[ek]
  rw[List.take_length] at hi;rw[bu,toNat_cast,hx];simp only[aw,ae];rw[bF (Nat.le_refl _),ax,hi]
theorem yE (n:Int):∀(a b:List ao) (s:Nat×Int),fK n (a++b) s=fK n b (fK n a s)
 | [],_,_=>rfl
 |x::a,b,s=>by simp only[List.cons_append,fK];exact yE n a b _
theorem Co {n:Int} {N:Nat}:∀(l:List ao) (s:Nat×Int),(∀x∈l,x.entries.length<=N)->(fK n l s).1<=s.1+l.length*N
 | [],s,_=>by simp [fK]
 |x::l,s,h=>by
  simp only[fK];have h1:=Co (n:=n) l (s.1+oq n x.entries,if oq n x.entries=0 then s.2 else x.ino) (λy hy=>h y (by simp [hy]));have h2:=IY n x.entries;have h3:=h x (by simp);rw[List.length_cons,Nat.succ_mul];simp only at h1;omega
theorem yI {f:Fs} {n:Int} (h:SmF f):n3 f n=some (((eo f n).1:Int),(eo f n).2):=by
 have hl:=h.len;unfold n3 eo;refine kK (l:=f.aa) (λm i (s:Int×Int)=>gd n f (λz25 z26=>some (z25,z26)) m s.1 s.2 i) (λj s=>s=(((fK n (f.aa.take j) (0,0)).1:Int),(fK n (f.aa.take j) (0,0)).2)) (λr=>r=some (((fK n f.aa (0,0)).1:Int),(fK n f.aa (0,0)).2)) (by omega) (λm k x s hk hx hi hr=> ?_) (λm s hi=> ?_) (0,0) (by simp [fK])
 ·simp only[gd]
  have hb:=Co (n:=n) (N:=1073741824) (f.aa.take k) (0,0) (λy hy=>h.dD y (List.mem_of_mem_take hy));have hk2:(f.aa.take k).length<=1073741824:=by simp;omega
  have hb2:(f.aa.take k).length*1073741824<=1073741824*1073741824:=Nat.mul_le_mul_right _ hk2;rw[dec_lt hk,aw,hi];simp only;rw[MD hx hl (h.dD x (List.mem_of_getElem? hx)) (by simp only at hb;omega),aP (by omega)];refine hr (_,_) ?_;rw[List.take_add_one,hx];simp only[Option.toList_some,yE,fK];rfl
 ·simp only[gd]
  rw[List.take_length] at hi;rw[bF (Nat.le_refl _),ax,hi]
def Cl (f:Fs) (x:ao):Bool:=decide (x.aH=(eo f x.ino).1)&&(if x.ino=1 then decide ((eo f x.ino).1=0)&&decide (x.parent=1) else decide (1<=(eo f x.ino).1)&&(if x.kind=2 then decide ((eo f x.ino).1=1)&&decide (x.parent=(eo f x.ino).2) else true))
def pE (f:Fs):Bool:=f.aa.all (Cl f)
theorem xR {f:Fs} (h:SmF f):mS f=some (pE f):=by
 have hl:=h.len;unfold mS pE;refine(bE (l:=f.aa) (λm i (_:Unit)=>dP f (some false) (some true) m i) (λ_ (x:ao) s K=>if Cl f x then K s else some false) (λ_=>some true) (by omega) (λm k x u hk hx=> ?_) (λm u=> ?_) ()).trans ?_
 ·simp only[dP]
  rw[dec_lt hk,bu,toNat_cast,hx,aP (by omega)];simp only[aw,ae];rw[yI h];simp only[ae,dS,eh];unfold Cl;by_cases h1:x.aH=((eo f x.ino).1:Int)
  ·simp only[h1,decide_true,Bool.not_true,ax,Bool.true_and]
   by_cases h2:x.ino=1
   ·simp only[h2,decide_true,aw,if_true]
    by_cases h3:(eo f 1).1=0
    ·have h3':((eo f 1).1:Int)=0:=by omega
     simp only[h3,h3',decide_true,Bool.not_true,ax,Bool.true_and];by_cases h4:x.parent=1<;>simp [h4]
    ·have h3':¬((eo f 1).1:Int)=0:=by omega
     simp [h3,h3']
   ·simp only[h2,decide_false,ax,if_false]
    by_cases h3:(eo f x.ino).1<1
    ·have h3':((eo f x.ino).1:Int)<1:=by omega
     have h3'':¬1<=(eo f x.ino).1:=by omega
     simp [h3',h3'']
    ·have h3':¬((eo f x.ino).1:Int)<1:=by omega
     have h3'':1<=(eo f x.ino).1:=by omega
     simp only[h3',h3'',decide_true,decide_false,ax,Bool.true_and];by_cases h4:x.kind=2
     ·simp only[h4,decide_true,aw,if_true]
      by_cases h5:(eo f x.ino).1=1
      ·have h5':((eo f x.ino).1:Int)=1:=by omega
       simp only[h5,h5',decide_true,Bool.not_true,ax,Bool.true_and];by_cases h6:x.parent=(eo f x.ino).2<;>simp [h6]
      ·have h5':¬((eo f x.ino).1:Int)=1:=by omega
       simp [h5,h5']
     ·simp [h4]
  ·simp [h1]
 ·simp only[dP]
  rw[bF (Nat.le_refl _)];rfl
 ·rw[gq];exact I3
def visit (s:List Int) (e:Entry):List Int:=if e.ino∈s then s else s++[e.ino]
def oG (x:ao) (s:List Int):List Int:=x.entries.foldl visit s
def ju (l:List ao):Nat->Nat->List Int->List Int
 |0,_,s=>s
 |n+1,i,s=>match s[i]? with|some k=>ju l n (i+1) (oG (aC k l) s) |none=>s
def dT (l:List ao):List Int:=1::l.flatMap λx=>x.entries.map Entry.ino
def Cw (l:List ao):List Int:=ju l ((dT l).length+1) 0 [1]
def tw (f:Fs):Bool:=decide ((Cw f.aa).length=f.aa.length)
theorem so {l m:List Int} (h:l.Nodup) (hs:∀x∈l,x∈m):l.length<=m.length:=by
 induction l generalizing m with
 |nil=>simp
 |cons x l ih=>
  rw[List.nodup_cons] at h;have hx:=hs x (by simp);have:=ih (m:=m.erase x) h.2 (λy hy=>by
   have hne:y≠x:=by intro e;subst e;exact h.1 hy
   exact(List.mem_erase_of_ne hne).2 (hs y (by simp [hy])))
  rw[List.length_erase_of_mem hx] at this;have:=List.length_pos_of_mem hx;simp only[List.length_cons];omega
structure qG (l:List ao) (s:List Int):Prop where
 nodup:s.Nodup
 sub:∀x∈s,x∈dT l
theorem qG.len {l:List ao} {s:List Int} (h:qG l s):s.length<=(dT l).length:=so h.nodup h.sub
theorem L2 {l:List ao} {s:List Int} {e:Entry} (h:qG l s) (he:e.ino∈dT l):qG l (visit s e):=by
 unfold visit;split
 ·exact h
 ·rename_i hn
  refine⟨?_,λx hx=> ?_⟩
  ·rw[List.nodup_append]
   refine⟨h.nodup,by simp,λa ha b hb=> ?_⟩;simp at hb;subst hb;intro e';subst e';exact hn ha
  ·simp at hx
   rcases hx with hx|rfl
   ·exact h.sub x hx
   ·exact he
theorem rK {l:List ao}:∀(es:List Entry) {s:List Int},qG l s->(∀e∈es,e.ino∈dT l)->qG l (es.foldl visit s)
 | [],s,h,_=>h
 |e::es,s,h,he=>by
  simp only[List.foldl_cons];exact rK es (L2 h (he e (by simp))) (λe' h'=>he e' (by simp [h']))
theorem Ju {l:List ao} {k:Int} {e:Entry} (h:e∈(aC k l).entries):e.ino∈dT l:=by
 unfold aC at h;cases hf:ar k l with
 |none=>rw[hf] at h;simp [ky] at h
 |some x=>
  rw[hf] at h;simp only[Option.getD_some] at h;unfold dT;rw[List.mem_cons];right;rw[List.mem_flatMap];exact⟨x,(bX hf).1,List.mem_map.2 ⟨e,h,rfl⟩⟩
theorem vB {l:List ao} {s:List Int} {k:Int} (h:qG l s):qG l (oG (aC k l) s):=rK _ h (λe he=>Ju he)
theorem mB:∀(es:List Entry) (s:List Int),∃t,es.foldl visit s=s++t
 | [],s=>⟨[],by simp⟩
 |e::es,s=>by
  simp only[List.foldl_cons];obtain⟨t,ht⟩:=mB es (visit s e);unfold visit at ht⊢;split at ht
  ·rename_i h;rw[if_pos h];exact⟨t,ht⟩
  ·rename_i h;rw[if_neg h];exact⟨e.ino::t,by rw[ht];simp⟩
theorem xK (es:List Entry) (s:List Int):(es.foldl visit s).length<=s.length+es.length:=by
 induction es generalizing s with
 |nil=>simp
 |cons e es ih=>
  simp only[List.foldl_cons,List.length_cons];have:=ih (visit s e);have h2:(visit s e).length<=s.length+1:=by unfold visit;split<;>simp
  omega
theorem Kq {R:Type} {x:ao} {s:List Int} {j:Nat} {e:Entry} {k4:Bool->Option R} (he:x.entries[j]? =some e) (hl:s.length<=1099511627775):dO (j:Int) s x k4 bx false (0:Int)=k4 (decide (e.ino∈s)):=by
 refine kK (l:=s) (λm i (b:Bool)=>dO (j:Int) s x k4 m b i) (λk b=>b=decide (e.ino∈s.take k)) (λr=>r=k4 (decide (e.ino∈s))) hl (λm k y b hk hy hi hr=> ?_) (λm b hi=> ?_) false (by simp)
 ·simp only[dO]
  have ht:decide (e.ino∈s.take (k+1))=(decide (e.ino∈s.take k)||decide (y=e.ino)):=by
   rw[List.take_add_one,hy,Bool.eq_iff_iff];simp only[Option.toList_some,List.mem_append,List.mem_singleton,Bool.or_eq_true,decide_eq_true_eq];exact or_congr_right ⟨λh=>h.symm,λh=>h.symm⟩
  rw[dec_lt hk,aw,aP (by omega)];cases b
  ·rw[ax,Hm hk,aw,toNat_cast,hy,ae,bu,aw,toNat_cast,he,ae,eh]
   refine hr _ ?_;rw[ht,<-hi,Bool.false_or]
  ·rw[aw]
   refine hr _ ?_;rw[ht,<-hi];simp
 ·simp only[dO]
  rw[List.take_length] at hi;rw[bF (Nat.le_refl _),ax,hi]
theorem LL {R:Type} {x:ao} {s:List Int} {k2:List Int->Option R} (hl:s.length+x.entries.length<=1073741824):eD x k2 bx (0:Int) s=k2 (oG x s):=by
 unfold oG;refine kK (l:=x.entries) (λm i (t:List Int)=>eD x k2 m i t) (λk t=>t=(x.entries.take k).foldl visit s) (λr=>r=k2 (x.entries.foldl visit s)) (by omega) (λm k e t hk he hi hr=> ?_) (λm t hi=> ?_) s (by simp)
 ·simp only[eD]
  have hlen:=xK (x.entries.take k) s;have hk':(x.entries.take k).length<=x.entries.length:=by simp;omega
  rw[<-hi] at hlen;have ht:(x.entries.take (k+1)).foldl visit s=visit t e:=by
   rw[List.take_add_one,he,List.foldl_append,<-hi];rfl
  rw[dec_lt hk,aw,Kq he (by omega),aP (by omega),bu,toNat_cast,he];simp only[aw,ae];by_cases hm:e.ino∈t
  ·rw[aU (by simp [hm])]
   refine hr _ ?_;rw[ht];unfold visit;rw[if_pos hm]
  ·rw[aJ (by simp [hm]),bC (by unfold LIM;simp;omega)]
   refine hr _ ?_;rw[ht];unfold visit;rw[if_neg hm]
 ·simp only[eD]
  rw[List.take_length] at hi;rw[bF (Nat.le_refl _),ax,hi]
theorem K5 {f:Fs} (h:SmF f) (ht:(dT f.aa).length<=536870912) (k0:List Int->Option Bool):∀(m n i:Nat) (s:List Int),qG f.aa s->i<=s.length->(dT f.aa).length+1 - i<=m->(dT f.aa).length+1 - i<n->
 ix f k0 n (i:Int) s=k0 (ju f.aa m i s):=by
 intro m;induction m with
 |zero=>
  intro n i s hv hi hm hn;have:=hv.len;omega
 |succ m ih=>
  intro n i s hv hi hm hn;cases n with
  |zero=>omega
  |succ n=>
   have hlen:=hv.len;simp only[ix,ju];by_cases hlt:i<s.length
   ·rw[dec_lt hlt,aw,Hm hlt,aw,toNat_cast,List.getElem?_eq_getElem hlt,ae,cD h.len,ae]
    have hents:(aC s[i] f.aa).entries.length<=536870912:=by
     unfold aC;cases hf:ar s[i] f.aa with
     |none=>simp [ky]
     |some x=>
      have hx:=(bX hf).1;simp only[Option.getD_some];have h1:x.entries.length<=(f.aa.flatMap λx=>x.entries.map Entry.ino).length:=by
       obtain⟨a,b,e⟩:=List.append_of_mem hx;rw[e];simp only[List.flatMap_append,List.flatMap_cons,List.length_append,List.length_map];omega
      unfold dT at ht;simp only[List.length_cons] at ht;omega
    rw[LL (by simp only;omega),aP (by omega)];have hv':=vB (k:=s[i]) hv;obtain⟨t,htt⟩:=mB (aC s[i] f.aa).entries s;refine ih n (i+1) _ hv' ?_ (by omega) (by omega);unfold oG;rw[htt];simp;omega
   ·rw[bF (by omega),ax,List.getElem?_eq_none (by omega)]
theorem He (l:List ao):qG l [1]:=⟨by simp,λx hx=>by simp at hx;subst hx;simp [dT]⟩
theorem Aq {f:Fs} (h:SmF f) (ht:(dT f.aa).length<=536870912):nZ f=some (tw f):=by
 unfold nZ tw Cw;have:=K5 h ht (λz34=>some ((List.length z34:Int)==(List.length f.aa:Int))) ((dT f.aa).length+1) bx 0 [1] (He _) (Nat.zero_le _) (by omega) (by have:=ur;omega);refine this.trans ?_;rw[eh];congr 1;rw[decide_eq_decide];omega
def qW (f:Fs):Int:=if tM f then (if pU f then (if t_ f then (if pE f then (if tw f then (if cy f 0 0 then 0 else 6) else 5) else 4) else 3) else 2) else 1
def okF (f:Fs):Bool:=oJ f&&decide (qW f=0)
theorem Ae {N:Nat} {l:List ao} (h:∀x∈l,x.entries.length<=N):(dT l).length<=l.length*N+1:=by
 unfold dT;rw[List.length_cons];have:(l.flatMap λx=>x.entries.map Entry.ino).length<=l.length*N:=by
  induction l with
  |nil=>simp
  |cons x l ih=>
   have h1:=ih (λy hy=>h y (by simp [hy]));have h2:=h x (by simp);simp only[List.flatMap_cons,List.length_append,List.length_map,List.length_cons,Nat.succ_mul];omega
 omega
theorem nf {f:Fs} (h:SmF f) (ht:(dT f.aa).length<=536870912):jH f=some (qW f):=by
 unfold jH qW;rw[z_ h.len,xZ h,yZ h,xR h,Aq h ht,fW h (by unfold Far;omega) (by unfold Far;omega)];simp only[ae];cases tM f
 ·rfl
 ·cases pU f
  ·rfl
  ·cases t_ f
   ·rfl
   ·cases pE f
    ·rfl
    ·cases tw f
     ·rfl
     ·cases cy f 0 0<;>rfl
theorem I5 {f:Fs} (h:oJ f=true):(dT f.aa).length<=1601:=by
 obtain⟨h1,h2⟩:=rX h;have:=Ae (N:=40) (λx hx=>(h2 x hx).2.1);have:f.aa.length*40<=40*40:=Nat.mul_le_mul_right _ h1;omega
theorem Ef {f:Fs} (hl:f.aa.length<=1073741824) (he:∀x∈f.aa,x.entries.length<=1073741824):uL f=some (okF f):=by
 unfold uL okF;rw[qc hl he,ae];cases h:oJ f
 ·rfl
 ·rw[aw,nf (SmF.Gi h) (by have:=I5 h;omega),ae,eh];rfl
structure Sound (f:Fs):Prop where
 x_:1<=f.ay/\f.ay<=1073741824
 xY:0<=f.aB/\f.aB<=1073741824
 next:f.next<=1099511627776
 ino:∀x∈f.aa,1<=x.ino/\x.ino<f.next
 sort:ct f.aa
 root:∃r,ar 1 f.aa=some r/\r.kind=2
 kind:∀x∈f.aa,ft x=true
 there:∀x∈f.aa,∀e∈x.entries,∃y,ar e.ino f.aa=some y
 link:∀x∈f.aa,Cl f x=true
 led:(Cw f.aa).length=f.aa.length
 fits:cy f 0 0=true
theorem yW (f:Fs):qW f=0↔Sound f:=by
 unfold qW;constructor
 ·intro h
  split at h
  ·rename_i h1
   split at h
   ·rename_i h2
    split at h
    ·rename_i h3
     split at h
     ·rename_i h4
      split at h
      ·rename_i h5
       split at h
       ·rename_i h6
        unfold tM at h1;simp only[Bool.and_eq_true,decide_eq_true_eq,List.all_eq_true] at h1;obtain⟨⟨a1,a2,a3,a4,a5⟩,a6,a7,a8,a9⟩:=h1;obtain⟨r,hr⟩:=Option.isSome_iff_exists.1 a8;refine⟨⟨a1,a2⟩,⟨a3,a4⟩,a5,a6,(sn _).1 a7,⟨r,hr, ?_⟩, ?_, ?_, ?_, ?_,h6⟩
        ·unfold aC at a9;rw[hr] at a9;exact a9
        ·unfold pU at h2;simpa [List.all_eq_true] using h2
        ·unfold t_ at h3
         simp only[List.all_eq_true] at h3;exact λx hx e he=>Option.isSome_iff_exists.1 (h3 x hx e he)
        ·unfold pE at h4;simpa [List.all_eq_true] using h4
        ·unfold tw at h5;simpa using h5
       ·simp at h
      ·simp at h
     ·simp at h
    ·simp at h
   ·simp at h
  ·simp at h
 ·intro h
  obtain⟨r,hr,hk⟩:=h.root;have h1:tM f=true:=by
   unfold tM;simp only[Bool.and_eq_true,decide_eq_true_eq,List.all_eq_true];refine⟨⟨h.x_.1,h.x_.2,h.xY.1,h.xY.2,h.next⟩,h.ino,(sn _).2 h.sort,by rw[hr];rfl,by unfold aC;rw[hr];exact hk⟩
  have h2:pU f=true:=by unfold pU;rw[List.all_eq_true];exact h.kind
  have h3:t_ f=true:=by
   unfold t_;simp only[List.all_eq_true];exact λx hx e he=>Option.isSome_iff_exists.2 (h.there x hx e he)
  have h4:pE f=true:=by unfold pE;rw[List.all_eq_true];exact h.link
  have h5:tw f=true:=by unfold tw;rw[decide_eq_true_eq];exact h.led
  rw[if_pos h1,if_pos h2,if_pos h3,if_pos h4,if_pos h5,if_pos h.fits]
def splitN:Str->Str->List Str×Str
 |cur, [] =>([],cur)
 |cur,c::s=>if c=47 then (if cur= [] then splitN [] s else (cur::(splitN [] s).1,(splitN [] s).2)) else splitN (cur++[c]) s
def fD (r:List Str×Str):List Str:=if r.2= [] then r.1 else r.1++[r.2]
def b8 (s:Str):List Str:=fD (splitN [] s)
def iZ (l:List Str):Str:=if l= [] then [47] else l.flatMap λx=>47::x
def qE (s:Str):Bool:=(b8 s).any (λx=>decide (255<x.length))||decide (4095<s.length)
def bZ (s:Str):List Str×Bool:=if iZ (b8 s)=s/\(b8 s).all eP=true then (b8 s,true) else ([],false)
def eB (s:Str):Pth:=⟨s.take 1==[47],b8 s, !(b8 s).isEmpty&&(s.drop (s.length - 1)==[47])⟩
theorem uh:∀(a cur b:Str),(∀x∈a,x≠47)->splitN cur (a++47::b)=if cur++a= [] then splitN [] b else ((cur++a)::(splitN [] b).1,(splitN [] b).2)
 | [],cur,b,_=>by simp [splitN]
 |c::a,cur,b,h=>by
  have hc:¬c=47:=h c (by simp);simp only[List.cons_append,splitN,if_neg hc];rw[uh a (cur++[c]) b (λx hx=>h x (by simp [hx]))];simp
theorem rI:∀(a cur:Str),(∀x∈a,x≠47)->splitN cur a=([],cur++a)
 | [],cur,_=>by simp [splitN]
 |c::a,cur,h=>by
  have hc:¬c=47:=h c (by simp);simp only[splitN,if_neg hc];rw[rI a (cur++[c]) (λx hx=>h x (by simp [hx]))];simp
theorem nd (c:UInt8):∀l:Str,((∀x∈l,x≠c)/\Lib.indexByte l c= -1)\/∃a b,l=a++c::b/\(∀x∈a,x≠c)/\Lib.indexByte l c=a.length
 | [] =>Or.inl ⟨by simp,rfl⟩
 |x::l=>by
  unfold Lib.indexByte;by_cases h:x=c
  ·subst h;right;exact⟨[],l,rfl,by simp,by simp⟩
  ·have hb:(x==c)=false:=by rw[beq_eq_false_iff_ne];exact h
   rw[hb];simp only[Bool.false_eq_true,if_false];rcases nd c l with⟨h1,h2⟩ |⟨a,b,h1,h2,h3⟩
   ·left
    refine⟨λy hy=> ?_,by rw[h2];rfl⟩;simp only[List.mem_cons] at hy;rcases hy with rfl|hy
    ·exact h
    ·exact h1 y hy
   ·right
    refine⟨x::a,b,by rw[h1];rfl,λy hy=> ?_, ?_⟩
    ·simp only[List.mem_cons] at hy
     rcases hy with rfl|hy
     ·exact h
     ·exact h2 y hy
    ·rw[h3]
     have:((a.length:Int)== -1)=false:=by rw[beq_eq_false_iff_ne];omega
     rw[this];simp
theorem qi:∀(s cur:Str),(splitN cur s).1.length<=s.length/\(splitN cur s).2.length<=cur.length+s.length/\(fD (splitN cur s)).flatten.length+(fD (splitN cur s)).length<=cur.length+s.length+1
 | [],cur=>by
  simp only[splitN,fD,List.length_nil];by_cases h:cur= []
  ·subst h;simp
  ·simp [h]
 |c::s,cur=>by
  simp only[splitN];by_cases hc:c=47
  ·rw[if_pos hc]
   obtain⟨h1,h2,h3⟩:=qi s [];by_cases hcur:cur= []
   ·rw[if_pos hcur]
    simp only[List.length_nil,List.length_cons] at*;exact⟨by omega,by omega,by omega⟩
   ·rw[if_neg hcur]
    simp only[List.length_nil,List.length_cons] at*;refine⟨by omega,by omega, ?_⟩;have e:fD (cur::(splitN [] s).1,(splitN [] s).2)=cur::fD (splitN [] s):=by
     unfold fD;simp only;split<;>simp
    rw[e];simp only[List.flatten_cons,List.length_append,List.length_cons];have hcl:0<cur.length:=List.length_pos_iff.2 hcur;omega
  ·rw[if_neg hc]
   obtain⟨h1,h2,h3⟩:=qi s (cur++[c]);simp only[List.length_append,List.length_singleton,List.length_cons,List.length_nil] at*;exact⟨by omega,by omega,by omega⟩
theorem lq (s:Str):(b8 s).flatten.length+(b8 s).length<=s.length+1:=by
 have:=(qi s []).2.2;simp only[List.length_nil,Nat.zero_add] at this;exact this
theorem qF {l:List Str} {x:Str} (h:x∈l):x.length<=l.flatten.length:=by
 induction l with
 |nil=>cases h
 |cons y l ih=>
  simp only[List.mem_cons] at h;simp only[List.flatten_cons,List.length_append];rcases h with rfl|h
  ·omega
  ·have:=ih h;omega
theorem nG {s x:Str} (h:x∈b8 s):x.length<=s.length:=by
 have h1:=lq s;have h2:=qF h;have h3:0<(b8 s).length:=List.length_pos_of_mem h;omega
theorem qZ:∀l:List Str,(l.flatMap λx=>47::x).length=l.flatten.length+l.length
 | [] =>rfl
 |x::l=>by simp [List.flatMap_cons,List.length_append,qZ l];omega
theorem ir {s:Str} (hl:s.length<=1073741824):gC s=some (b8 s):=by
 unfold gC;have key:∀(n k:Nat) (cur:Str) (acc:List Str),k<=s.length->s.length+1 - k<n->cur.length<=k->acc.length<=k->cS s (λz7=>some z7) n cur (k:Int) acc=some (acc++fD (splitN cur (s.drop k))):=by
  intro n;induction n with
  |zero=>intro k _ _ _ h;omega
  |succ n ih=>
   intro k cur acc hk hn hcur hacc;simp only[cS];have e1:decide ((k:Int)<=(List.length s:Int))=true:=by simp;omega
   rw[e1,aw];by_cases h:k<s.length
   ·obtain⟨c,hc,hd⟩:=ya h
    rw[dec_lt h,aw,bu,aw,toNat_cast,hc,ae,hd];simp only[splitN];by_cases h47:c=47
    ·subst h47
     have e2:((UInt8.toNat (47:UInt8):Int) !=(47:Int))=false:=by decide
     rw[e2,ax,if_pos rfl,aP (by omega)];by_cases hc0:cur= []
     ·subst hc0
      have e3:(!(([] :Str)==([] :Str)))=false:=rfl;rw[e3,ax,if_pos rfl];exact ih (k+1) [] acc (by omega) (by omega) (by simp) (by omega)
     ·have e3:(!(cur==([] :Str)))=true:=by simp [hc0]
      rw[e3,aw,if_neg hc0,bC (by unfold LIM;simp;omega),ih (k+1) [] (acc++[cur]) (by omega) (by omega) (by simp) (by simp;omega)];unfold fD;simp only;split<;>simp
    ·have e2:((UInt8.toNat c:Int) !=(47:Int))=true:=by
      rw[bne_iff_ne];intro e;apply h47;have:=jO c 47 (by omega);rw[e] at this;simpa using this
     rw[e2,aw,if_neg h47,aP (by omega)];have e4:(s.take (k+1)).drop k=[c]:=by
      have e9:=(List.getElem?_eq_some_iff.1 hc);rw[List.take_add_one,hc];have:(s.take k).length=k:=by simp;omega
      rw[List.drop_append_of_le_length (by omega),List.drop_eq_nil_of_le (by omega)];rfl
     simp only[toNat_cast];rw[aJ (by simp;omega),aJ (by simp;omega),e4,bC (by unfold LIM;simp;omega)];exact ih (k+1) (cur++[c]) acc (by omega) (by omega) (by simp;omega) (by omega)
   ·have hkl:k=s.length:=by omega
    subst hkl;rw[bF (Nat.le_refl _),ax,List.drop_length,aP (by omega)];simp only[splitN,fD];have ex:∀acc:List Str,cS s (λz7=>some z7) n ([] :Str) ((s.length+1:Nat):Int) acc=some acc:=by
     intro acc;cases n with
     |zero=>omega
     |succ n=>
      simp only[cS];have:decide (((s.length+1:Nat):Int)<=(List.length s:Int))=false:=by simp;omega
      rw[this,ax]
    by_cases hc0:cur= []
    ·subst hc0
     have e3:(!(([] :Str)==([] :Str)))=false:=rfl;rw[e3,ax,ex];simp
    ·have e3:(!(cur==([] :Str)))=true:=by simp [hc0]
     rw[e3,aw,bC (by unfold LIM;simp;omega),ex];simp [hc0]
 have:=key bx 0 [] [] (Nat.zero_le _) (by have:=ur;omega) (by simp) (by simp);simpa [b8] using this
theorem A7 {l:List Str} (hl:l.flatten.length+l.length<=1073741824):pL l=some (iZ l):=by
 unfold pL iZ;by_cases h0:l= []
 ·subst h0;rfl
 ·rw[aU (by simp [h0]),if_neg h0]
  refine kK (l:=l) (λn i s=>ic l (λz6=>some z6) n s i) (λk s=>s=(l.take k).flatMap λx=>47::x) (λr=>r=some (l.flatMap λx=>47::x)) (by omega) (λn k x s hk hx hi hr=> ?_) (λn s hi=> ?_) [] (by simp)
  ·simp only[ic]
   have hs:s.length<=1073741824:=by
    subst hi;rw[qZ];have h1:(l.take k).flatten.length<=l.flatten.length:=by
     conv=>rhs;rw[<-List.take_append_drop k l]
     rw[List.flatten_append,List.length_append];omega
    have h2:(l.take k).length<=l.length:=by simp;omega
    omega
   have hxl:=qF (List.mem_of_getElem? hx);rw[dec_lt hk,aw,bC (by unfold LIM;simp;omega),bu,aw,toNat_cast,hx,ae,bC (by unfold LIM;simp;omega),aP (by omega)];refine hr _ ?_;rw[List.take_add_one,hx,hi];simp
  ·simp only[ic]
   rw[bF (Nat.le_refl _),ax];rw[List.take_length] at hi;rw[hi]
theorem G0 {l:List Str} (h:l≠ []):([47]:Str)++Lib.join l [47]=l.flatMap λx=>47::x:=by
 cases l with
 |nil=>exact absurd rfl h
 |cons x r=>
  rw[Lib.join_cons];simp [Lib.joinTail,List.flatMap_cons,List.flatMap_def]
theorem Dn {l:List Str} (hl:l.flatten.length+l.length<=16777216):mZ l=some (iZ l):=by
 unfold mZ iZ;by_cases h0:l= []
 ·subst h0;rfl
 ·have e:=G0 h0
  have hlen:(Lib.join l [47]).length+1=l.flatten.length+l.length:=by rw[<-qZ,<-e];simp
  rw[aU (by simp [h0]),if_neg h0];unfold strings_Join;rw[if_pos (by omega),ae,bC (by unfold LIM;simp;omega),e]
theorem Hj {l:List Str} {p:Bool} (hl:l.length<=1073741824):gZ l (some true) (some p) bx (0:Int)=some (l.any (λx=>decide (255<x.length))||p):=by
 refine(bE (l:=l) (λn i (_:Unit)=>gZ l (some true) (some p) n i) (λk (x:Str) s K=>if decide (255<x.length) then some true else K s) (λ_=>some p) (by omega) (λn k x u hk hx=> ?_) (λn u=> ?_) ()).trans ?_
 ·simp only[gZ]
  rw[dec_lt hk,bu,toNat_cast,hx,aP (by omega)];simp only[aw,ae,aV,if_true];have:decide ((List.length x:Int)>(255:Int))=decide (255<x.length):=by rw[decide_eq_decide];omega
  rw[this]
 ·simp only[gZ]
  rw[bF (Nat.le_refl _)];rfl
 ·rw[jq (λx:Str=>decide (255<x.length)) _ _ (some true) (λk x=>rfl)]
  cases l.any (λx=>decide (255<x.length))<;>rfl
theorem sJ {s:Str} (hl:s.length<=1073741823):jz s=some (qE s):=by
 unfold jz;have:=lq s;rw[ir (by omega),ae,Hj (by omega)];unfold qE;have:decide ((List.length s:Int)>(4095:Int))=decide (4095<s.length):=by rw[decide_eq_decide];omega
 rw[this]
theorem vN {α R:Type} (p:α->Bool) (kr k0:Option R):∀(l:List α) (k:Nat) (s:Unit),dh (λ_ x s K=>if !p x then kr else K s) (λ_=>k0) k l s=if l.all p then k0 else kr
 | [],_,_=>rfl
 |x::l,k,s=>by
  by_cases h:p x=true
  ·have e:(x::l).all p=l.all p:=by simp [h]
   rw[e];simp only[dh];rw[if_neg (by simp [h])];exact vN p kr k0 l (k+1) s
  ·have e:(x::l).all p=false:=by simp [h]
   rw[e];simp [dh,h]
theorem Jw {R:Type} {l:List Str} (kr k0:Option R) (hl:l.length<=1073741824) (hx:∀x∈l,x.length<=1099511627775):fa l kr k0 bx (0:Int)=if l.all eP then k0 else kr:=by
 refine(bE (l:=l) (λn i (_:Unit)=>fa l kr k0 n i) (λk (x:Str) s K=>if !eP x then kr else K s) (λ_=>k0) (by omega) (λn k x u hk hx'=> ?_) (λn u=> ?_) ()).trans ?_
 ·simp only[fa]
  rw[dec_lt hk,bu,toNat_cast,hx',aP (by omega)];simp only[aw,ae,aV,if_true];rw[mP (hx x (List.mem_of_getElem? hx'))];simp only[ae]
 ·simp only[fa]
  rw[bF (Nat.le_refl _)];rfl
 ·exact vN eP _ _ _ _ _
theorem q7 {s:Str} (hl:s.length<=1073741823):lS s=some (bZ s):=by
 unfold lS;have:=lq s;rw[ir (by omega),ae,Jw _ _ (by omega) (λx hx=>by have:=nG hx;omega),A7 (by omega),ae];unfold bZ;by_cases h1:(b8 s).all eP=true
 ·rw[if_pos h1]
  by_cases h2:iZ (b8 s)=s
  ·rw[aU (by simp [h2]),if_pos ⟨h2,h1⟩]
  ·rw[aJ (by simp [h2]),if_neg (λh=>h2 h.1)]
 ·rw[if_neg h1,if_neg (λh=>h1 h.2)]
theorem Hl {R:Type} (k2:Str->List Str->Option R):∀(n:Nat) (s:Str) (acc:List Str),s.length<n->s.length<=1073741823->acc.length+s.length<=1073741824->
 bz k2 n s acc=k2 (splitN [] s).2 (acc++(splitN [] s).1):=by
 intro n;induction n with
 |zero=>intro s acc h;omega
 |succ n ih=>
  intro s acc hn hl hacc;simp only[bz];by_cases h1:s=[47]
  ·subst h1
   rw[aJ (by rfl),aJ (by decide),aU (by rfl),aJ (by decide)];show bz k2 n [] acc=_;have hn':1<n+1:=hn;rw[ih [] acc (by simp;omega) (by simp) (by simp at hacc⊢;omega)];rfl
  ·rw[aU (by rw[beq_eq_false_iff_ne];exact λe=>h1 e.symm)]
   unfold stringslite_IndexByte;have e47:((47:Int).toNat.toUInt8)=47:=rfl;rw[ae,e47];rcases nd 47 s with⟨h2,h3⟩ |⟨a,b,h2,h3,h4⟩
   ·rw[h3,aJ (by decide),rI s [] h2];simp
   ·have hsl:s.length=a.length+(b.length+1):=by rw[h2];simp
    rw[h4,aU (by simp)];have e0:IntKind.i64.wrap ((a.length:Int)+0)=(a.length:Int):=by rw[bN (by omega) (by omega)];omega
    rw[e0,aP (by omega)];simp only[toNat_cast];have e1:s.take a.length=a:=by rw[h2];simp
    have e2:s.drop (a.length+1)=b:=by rw[h2];simp
    rw[e1,e2,aJ (by simp;omega)];have hsp:=uh a [] b h3;rw[<-h2,List.nil_append] at hsp;rw[hsp];by_cases ha:a= []
    ·rw[aU (by simp [ha]),aJ (by simp;omega),ih b acc (by omega) (by omega) (by omega),if_pos ha]
    ·rw[aJ (by simp [ha]),bC (by unfold LIM;simp;omega),aJ (by simp;omega),ih b (acc++[a]) (by omega) (by omega) (by simp;omega),if_neg ha]
     simp
theorem Ia {R:Type} {l:List Str} (kr:Int->Option R) (k0:Option R) (hl:l.length<=1073741824) (hx:∀x∈l,x.length<=1099511627775) (r:Option R) (hr:∀k:Nat,kr (k:Int)=r):cB (List.length l:Int) l kr k0 bx (0:Int)=if l.all eP then k0 else r:=by
 refine(bE (l:=l) (λn i (_:Unit)=>cB (List.length l:Int) l kr k0 n i) (λk (x:Str) s K=>if !eP x then r else K s) (λ_=>k0) (by omega) (λn k x u hk hx'=> ?_) (λn u=> ?_) ()).trans ?_
 ·simp only[cB]
  rw[dec_lt hk,Hm hk,toNat_cast,hx',aP (by omega)];simp only[aw,ae,aV,if_true];rw[q5 (hx x (List.mem_of_getElem? hx')),hr];simp only[ae]
 ·simp only[cB]
  rw[bF (Nat.le_refl _)];rfl
 ·exact vN eP _ _ _ _ _
theorem sM {s:Str} (hl:s.length<=8388608):ny s=some (bZ s):=by
 unfold ny;rw[Hl _ bx s [] (by have:=ur;omega) (by omega) (by simp;omega)];have h1:=lq s;have h2:∀l,l=b8 s->(aj (mZ l) λy10=>ah (!(y10==s)) (some (([] :List Str),false)) (cB (List.length l:Int) l (λz22=>ah (decide (z22>=(0:Int))) (some (([] :List Str),false)) (some (l,true))) (some (l,true)) bx (0:Int)))=some (bZ s):=by
  rintro l rfl;rw[Dn (by omega),ae,Ia _ _ (by omega) (λx hx=>by have:=nG hx;omega) (some ([],false)) (λk=>by rw[aJ (by simp)])];unfold bZ;by_cases h2:iZ (b8 s)=s
  ·rw[aU (by simp [h2])]
   by_cases h1:(b8 s).all eP=true
   ·rw[if_pos h1,if_pos ⟨h2,h1⟩]
   ·rw[if_neg h1,if_neg (λh=>h1 h.2)]
  ·rw[aJ (by simp [h2]),if_neg (λh=>h2 h.1)]
 have hs:=qi s [];simp only[List.nil_append];by_cases h0:(splitN [] s).2= []
 ·rw[aU (by simp [h0])]
  exact h2 _ (by unfold b8 fD;rw[if_pos h0])
 ·rw[aJ (by simp [h0]),bC (by unfold LIM;simp;omega)]
  exact h2 _ (by unfold b8 fD;rw[if_neg h0])
theorem oF {s:Str} (hl:s.length<=1073741823):iz s=some (eB s):=by
 unfold iz eB;rw[ir (by omega),ae];by_cases h0:s= []
 ·subst h0;rfl
 ·have hp:0<s.length:=List.length_pos_iff.2 h0
  have e1:IntKind.i64.wrap ((List.length s:Int) - 1)=((s.length - 1:Nat):Int):=by rw[bN (by omega) (by omega)];omega
  have e3:Int.toNat (0:Int)=0:=rfl;rw[aJ (by simp;omega),aJ (by decide),e3,e1,toNat_cast,List.getElem?_eq_getElem hp,ae];have ht:s.take 1=[s[0]]:=by
   rw[List.take_add_one,List.getElem?_eq_getElem hp];simp
  have hd:s.drop (s.length - 1)=[s[s.length - 1]]:=by
   rw[List.drop_eq_getElem_cons (by omega),List.drop_eq_nil_of_le (by omega)]
  have b1:((UInt8.toNat s[0]:Int)==(47:Int))=(s.take 1==[47]):=by
   rw[ht];have:=jO s[0] 47 (by omega);have e:((UInt8.toNat s[0]:Int)==(47:Int))=(s[0]==47):=this;rw[e,Bool.eq_iff_iff];simp
  have b2:((UInt8.toNat s[s.length - 1]:Int)==(47:Int))=(s.drop (s.length - 1)==[47]):=by
   rw[hd];have:=jO s[s.length - 1] 47 (by omega);have e:((UInt8.toNat s[s.length - 1]:Int)==(47:Int))=(s[s.length - 1]==47):=this;rw[e,Bool.eq_iff_iff];simp
  rw[b1];cases hn:b8 s with
  |nil=>rw[aU (by simp)];simp
  |cons x l=>
   rw[aJ (by simp),aJ (by simp),List.getElem?_eq_getElem (by omega),ae,b2];simp
structure WF (f:Fs):Prop where
 sm:SmF f
 sort:ct f.aa
 pos:∀x∈f.aa,1<=x.ino
 right:∀x∈f.aa,gG x.entries=true
 there:∀x∈f.aa,∀e∈x.entries,(ar e.ino f.aa).isSome=true
 root:(ar 1 f.aa).isSome=true
theorem tu {x:ao} (h:ft x=true):gG x.entries=true:=by
 unfold ft at h;simp only[Bool.or_eq_true,Bool.and_eq_true,decide_eq_true_eq] at h;rcases h with⟨_,h,_⟩ |⟨_,_,h⟩ |⟨_,h,_⟩
 ·have:x.entries= [] :=by simpa using h
  rw[this];rfl
 ·exact h
 ·have:x.entries= [] :=by simpa using h
  rw[this];rfl
theorem Sound.wf {f:Fs} (h:Sound f) (hs:SmF f):WF f:=by
 obtain⟨r,hr,_⟩:=h.root;exact⟨hs,h.sort,λx hx=>(h.ino x hx).1,λx hx=>tu (h.kind x hx),λx hx e he=>by
  obtain⟨y,hy⟩:=h.there x hx e he;rw[hy];rfl,by rw[hr];rfl⟩
section
variable {f:Fs}
theorem WF.Lm (h:WF f) {x:ao} (hx:x∈f.aa):gU x.entries:=((iK _).1 (h.right x hx)).1
theorem WF.found (h:WF f) {n:Int} {x:ao} (hx:ar n f.aa=some x):x∈f.aa/\x.ino=n:=bX hx
theorem WF.zero (h:WF f):ar 0 f.aa=none:=by
 cases hf:ar 0 f.aa with
 |none=>rfl
 |some x=>
  obtain⟨h1,h2⟩:=bX hf;have:=h.pos x h1;omega
theorem WF.get (h:WF f) (n:Int):b7 f n=some (aC n f.aa,(ar n f.aa).isSome):=dq h.sort h.sm.len
theorem WF.vZ (h:WF f) (n:Int):bI f n=some (aC n f.aa,(ar n f.aa).isSome):=cD h.sm.len
theorem WF.set (h:WF f) (x:ao):bG f x=some (f.set x):=cJ h.sort h.sm.len
theorem WF.akD (h:WF f) (x:ao):bU f x=some (f.set x):=cf h.sm.len
end
def cm (n:Str) (l:List Entry):Int:=match cM n l with|some e=>e.ino|none=>0
theorem yM {l:List Entry} {n:Str} (hs:gU l) (hl:l.length<=1073741824):na l n=some (cm n l,(cM n l).isSome):=by
 rw[AX hs hl];unfold cm;cases cM n l<;>rfl
theorem rz {l:List Entry} {n:Str} (hl:l.length<=1073741824):kL l n=some (cm n l,(cM n l).isSome):=by
 rw[Bm hl];unfold cm;cases cM n l<;>rfl
theorem nr {f:Fs} (h:WF f) {x:ao} (hx:x∈f.aa) (n:Str):cm n x.entries=0\/(ar (cm n x.entries) f.aa).isSome=true:=by
 unfold cm;cases hf:cM n x.entries with
 |none=>exact Or.inl rfl
 |some e=>exact Or.inr (h.there x hx e (bX hf).1)
def gA:au:=⟨0, [],0⟩
def dt:au:=⟨0, [],1⟩
def cq (l:List ao):List Str->au->au×Int
 | [],s=>(s,0)
 |n::ns,s=>match ar s.ino l with
  |none=>(gA,1)
  |some d=>if d.kind=2 then cq l ns ⟨d.ino,n,cm n d.entries⟩ else (gA,3)
def atP (f:Fs) (p:Str):au×Int:=if (bZ p).2=true then cq f.aa (bZ p).1 dt else (gA,9)
theorem Ci {p:Str}:(bZ p).1.length<=p.length+1/\∀x∈(bZ p).1,x.length<=p.length:=by
 unfold bZ;split
 ·exact⟨by have:=lq p;simp only;omega,λx hx=>nG hx⟩
 ·exact⟨by simp,by simp⟩
theorem drop_cons {α:Type} {l:List α} {k:Nat} {x:α} (h:l[k]? =some x):l.drop k=x::l.drop (k+1):=by
 obtain⟨hk,e⟩:=List.getElem?_eq_some_iff.1 h;rw[List.drop_eq_getElem_cons hk,e]
theorem wX {f:Fs} {p:Str} (h:WF f) (hp:p.length<=8388608):rp f p=some (atP f p):=by
 unfold rp atP;rw[sM hp,ae];have hl:=Ci (p:=p);cases hb:(bZ p).2
 ·rfl
 ·simp only[Bool.not_true,ax,if_true]
  generalize (bZ p).1=l at hl;refine kK (l:=l) (λn i s=>jJ l (List.length l:Int) f (λz15=>some ((⟨((⟨0, [],0⟩:au).dir),((⟨0, [],0⟩:au).name),((⟨0, [],0⟩:au).ino)⟩:au),z15)) (λz16=>some (z16,(0:Int))) n i s) (λk s=>cq f.aa (l.drop k) s=cq f.aa l dt) (λr=>r=some (cq f.aa l dt)) (by omega) (λn k x s hk hx hi hr=> ?_) (λn s hi=> ?_) dt (by simp)
  ·simp only[jJ]
   rw[drop_cons hx] at hi;simp only[cq] at hi;rw[dec_lt hk,bu,toNat_cast,hx,aP (by omega)];simp only[aw,ae];rw[h.get,ae];unfold aC;cases hf:ar s.ino f.aa with
   |none=>rw[hf] at hi;simp only[Option.isSome_none,Bool.not_false,aw];rw[<-hi];rfl
   |some d=>
    rw[hf] at hi;simp only[Option.isSome_some,Bool.not_true,ax,Option.getD_some,dS] at hi⊢;by_cases hk2:d.kind=2
    ·rw[if_pos hk2] at hi
     have hd:=(h.found hf).1;rw[aU (by simp [hk2]),yM (h.Lm hd) (h.sm.dD d hd),ae];exact hr _ hi
    ·rw[if_neg hk2] at hi
     rw[aJ (by simp [hk2]),<-hi];rfl
  ·simp only[jJ]
   rw[List.drop_length] at hi;simp only[cq] at hi;rw[bF (Nat.le_refl _),ax,<-hi]
theorem rl {f:Fs} {p:Str} (h:WF f) (hp:p.length<=8388608):qY f p=some (atP f p):=by
 unfold qY atP;rw[q7 (by omega),ae];have hl:=Ci (p:=p);cases hb:(bZ p).2
 ·rfl
 ·simp only[Bool.not_true,ax,if_true]
  generalize (bZ p).1=l at hl;refine kK (l:=l) (λn i s=>jK l f (λz15=>some ((⟨((⟨0, [],0⟩:au).dir),((⟨0, [],0⟩:au).name),((⟨0, [],0⟩:au).ino)⟩:au),z15)) (λz16=>some (z16,(0:Int))) n i s) (λk s=>cq f.aa (l.drop k) s=cq f.aa l dt/\(s.ino=0\/(ar s.ino f.aa).isSome=true)) (λr=>r=some (cq f.aa l dt)) (by omega) (λn k x s hk hx hi hr=> ?_) (λn s hi=> ?_) dt ⟨by simp,Or.inr h.root⟩
  ·simp only[jK]
   obtain⟨hi,hz⟩:=hi;rw[drop_cons hx] at hi;simp only[cq] at hi;rw[dec_lt hk,aw,eh,bu,toNat_cast,hx,aP (by omega)];by_cases h0:s.ino=0
   ·rw[aJ (by simp [h0]),<-hi,h0,h.zero];rfl
   ·rw[aU (by simp [h0]),h.vZ,ae]
    obtain⟨d,hf⟩:=Option.isSome_iff_exists.1 (hz.resolve_left h0);unfold aC;rw[hf] at hi⊢;simp only[aw,ae,Option.getD_some,dS] at hi⊢;by_cases hk2:d.kind=2
    ·rw[if_pos hk2] at hi
     have hd:=(h.found hf).1;rw[aU (by simp [hk2]),rz (h.sm.dD d hd),ae];exact hr _ ⟨hi,nr h hd x⟩
    ·rw[if_neg hk2] at hi
     rw[aJ (by simp [hk2]),<-hi];rfl
  ·simp only[jK]
   obtain⟨hi,_⟩:=hi;rw[List.drop_length] at hi;simp only[cq] at hi;rw[bF (Nat.le_refl _),ax,<-hi]
theorem uO {l:List ao}:∀{ns:List Str} {s t:au},cq l ns s=(t,0)->(ns= [] /\t=s)\/∃d n ns',ns=ns'++[n]/\ar t.dir l=some d/\d.ino=t.dir/\d.kind=2/\t.name=n/\t.ino=cm n d.entries
 | [],s,t,h=>by simp [cq] at h;exact Or.inl ⟨rfl,h.symm⟩
 |n::ns,s,t,h=>by
  right;simp only[cq] at h;cases hf:ar s.ino l with
  |none=>rw[hf] at h;simp at h
  |some d=>
   rw[hf] at h;simp only at h;by_cases hk:d.kind=2
   ·rw[if_pos hk] at h
    rcases uO h with⟨rfl,rfl⟩ |⟨d',n',ns',h1,h2,h3,h4,h5,h6⟩
    ·refine⟨d,n, [],rfl, ?_,rfl,hk,rfl,rfl⟩
     have:=(bX hf).2;simp only;rw[this];exact hf
    ·exact⟨d',n',n::ns',by rw[h1];rfl,h2,h3,h4,h5,h6⟩
   ·rw[if_neg hk] at h;simp at h
theorem Ml {f:Fs} (h:WF f) {ns:List Str} {t:au} (hg:cq f.aa ns dt=(t,0)):t.ino=0\/(ar t.ino f.aa).isSome=true:=by
 rcases uO hg with⟨_,rfl⟩ |⟨d,n,ns',_,h2,_,_,_,h6⟩
 ·exact Or.inr h.root
 ·rw[h6];exact nr h (bX h2).1 n
def xS (f:Fs) (p:Str):ao×Int:=if (atP f p).2=0 then (match ar (atP f p).1.ino f.aa with|some x=>(x,0) |none=>(ky,1)) else (ky,(atP f p).2)
theorem Rs {f:Fs} {p:Str} (h:WF f) (h0:(atP f p).2=0):(atP f p).1.ino=0\/(ar (atP f p).1.ino f.aa).isSome=true:=by
 unfold atP at h0⊢;split
 ·rename_i hb
  rw[if_pos hb] at h0;have:cq f.aa (bZ p).1 dt=((cq f.aa (bZ p).1 dt).1,0):=by rw[<-h0]
  exact Ml h this
 ·rename_i hb
  rw[if_neg hb] at h0;cases h0
theorem Dt {f:Fs} {p:Str} (h:WF f) (hp:p.length<=8388608):vS f p=some (xS f p):=by
 unfold vS xS;rw[rl h hp,ae,dS,eh];by_cases h0:(atP f p).2=0
 ·rw[aU (by simp [h0]),if_pos h0]
  by_cases hi:(atP f p).1.ino=0
  ·rw[aJ (by simp [hi]),hi,h.zero];rfl
  ·rw[aU (by simp [hi]),h.vZ,ae]
   obtain⟨x,hx⟩:=Option.isSome_iff_exists.1 ((Rs h h0).resolve_left hi);unfold aC;rw[hx];rfl
 ·rw[aJ (by simp [h0]),if_neg h0];rfl
def ao.xz (d:ao) (l:List Entry):ao:=⟨d.ino,d.kind,d.aH,d.data,d.parent,l⟩
theorem lI {f:Fs} {x:ao}:(f.set x).aa.length<=f.aa.length+1:=nF
theorem Mp {f:Fs} {x:ao} {N:Nat} (h:∀y∈f.aa,y.entries.length<=N) (hx:x.entries.length<=N):∀y∈(f.set x).aa,y.entries.length<=N:=by
 intro y hy;rcases zr.1 hy with rfl|⟨hy,_⟩
 ·exact hx
 ·exact h y hy
def mK {α:Type} (μ :α->Int) (l:List α):Int:=(l.map μ).sum
section
variable {α:Type} {μ :α->Int}
theorem eF (μ :α->Int) (x:α) (l:List α):mK μ (x::l)= μ x+mK μ l:=by simp [mK]
theorem yp (h:∀x,0<= μ x):∀l:List α,0<=mK μ l
 | [] =>by simp [mK]
 |x::l=>by rw[eF];have:=h x;have:=yp h l;omega
theorem oY (h:∀x,0<= μ x) {x:α}:∀{l:List α},x∈l-> μ x<=mK μ l
 |y::l,hx=>by
  rw[eF];have h1:=h y;have h2:=yp h l;simp only[List.mem_cons] at hx;rcases hx with rfl|hx
  ·omega
  ·have:=oY h hx;omega
theorem zW (h:∀x,0<= μ x) {x y:α} (hne:x≠y):∀{l:List α},x∈l->y∈l-> μ x+ μ y<=mK μ l
 |z::l,hx,hy=>by
  rw[eF];have h1:=h z;simp only[List.mem_cons] at hx hy;rcases hx with rfl|hx
  ·rcases hy with rfl|hy
   ·exact absurd rfl hne
   ·have:=oY h hy;omega
  ·rcases hy with rfl|hy
   ·have:=oY h hx;omega
   ·have:=zW h hne hx hy;omega
theorem yF (h:∀x,0<= μ x):∀{l:List α},0<mK μ l->∃x∈l,0< μ x
 | [],hp=>by simp [mK] at hp
 |z::l,hp=>by
  rw[eF] at hp;by_cases hz:0< μ z
  ·exact⟨z,by simp,hz⟩
  ·obtain⟨x,hx,h2⟩:=yF h (l:=l) (by omega)
   exact⟨x,by simp [hx],h2⟩
theorem uF (l:List α):mK (λ_=>1) l=(l.length:Int):=by
 induction l with
 |nil=>rfl
 |cons x l ih=>rw[eF,ih,List.length_cons];omega
end
def iP {α:Type} (μ :α->Int):Option α->Int
 |some x=> μ x
 |none=>0
section
variable {α κ:Type} [DecidableEq κ] {lt:κ->κ->Bool} {key:α->κ}
theorem ES (μ :α->Int) (x:α):∀l:List α,mK μ (jB lt key x l)= μ x+mK μ l
 | [] =>by simp [jB,mK]
 |y::l=>by
  simp only[jB];split
  ·rw[eF]
  ·rw[eF,ES μ x l,eF];omega
theorem GI (k:κ) (y:α) (l:List α):eR key k (y::l)=if key y=k then eR key k l else y::eR key k l:=by
 unfold eR;rw[List.filter_cons];by_cases h:key y=k<;>simp [h]
theorem Ig (k:κ) (y:α) (l:List α):bT key k (y::l)=if key y=k then some y else bT key k l:=by
 unfold bT;rw[List.find?_cons];by_cases h:key y=k<;>simp [h]
theorem m9 (O:LO lt) (μ :α->Int) {k:κ}:∀{l:List α},dm lt key l->mK μ (eR key k l)+iP μ (bT key k l)=mK μ l
 | [],_=>by simp [eR,bT,mK,iP]
 |y::l,hs=>by
  unfold dm at hs;rw[List.pairwise_cons] at hs;rw[GI,Ig,eF];by_cases h:key y=k
  ·rw[if_pos h,if_pos h,E0 O (λx hx=>by rw[<-h];exact hs.1 x hx)]
   simp only[iP];omega
  ·rw[if_neg h,if_neg h,eF]
   have:=m9 O μ (k:=k) hs.2;omega
theorem uP (O:LO lt) (μ :α->Int) {x:α} {l:List α} (hs:dm lt key l):mK μ (p9 lt key x l)+iP μ (bT key (key x) l)=mK μ l+ μ x:=by
 unfold p9;rw[ES];have:=m9 O μ (k:=key x) hs;omega
theorem Ob (O:LO lt) {x:α} {l:List α} (hs:dm lt key l):(p9 lt key x l).length=if (bT key (key x) l).isSome then l.length else l.length+1:=by
 have h:=uP O (λ_=>1) (x:=x) hs;rw[uF,uF] at h;cases hf:bT key (key x) l with
 |none=>rw[hf] at h;simp only[iP] at h;simp;omega
 |some y=>rw[hf] at h;simp only[iP] at h;simp;omega
theorem LC (O:LO lt) {k:κ} {l:List α} (hs:dm lt key l):(eR key k l).length+(if (bT key k l).isSome then 1 else 0)=l.length:=by
 have h:=m9 O (λ_=>1) (k:=k) hs;rw[uF,uF] at h;cases hf:bT key k l with
 |none=>rw[hf] at h;simp only[iP] at h;simp;omega
 |some y=>rw[hf] at h;simp only[iP] at h;simp;omega
end
def one (n:Int) (e:Entry):Int:=if e.ino=n then 1 else 0
def ec (n:Int) (l:List Entry):Int:=mK (one n) l
def fc (n:Int) (l:List ao):Int:=mK (λx=>ec n x.entries) l
theorem Dd (n:Int) (e:Entry):0<=one n e:=by unfold one;split<;>omega
theorem Cq (n:Int) (l:List Entry):0<=ec n l:=yp (Dd n) l
theorem Mh (n:Int) (l:List ao):0<=fc n l:=yp (μ :=λx:ao=>ec n x.entries) (λx=>Cq n x.entries) l
theorem Il {n:Int} {l:List Entry} {e:Entry} (h:e∈l) (he:e.ino=n):1<=ec n l:=by
 have:=oY (Dd n) h;unfold one at this;rw[if_pos he] at this;exact this
theorem ML {n:Int} {l:List Entry} (h:0<ec n l):∃e∈l,e.ino=n:=by
 obtain⟨e,he,h2⟩:=yF (Dd n) h;refine⟨e,he, ?_⟩;unfold one at h2;split at h2
 ·assumption
 ·omega
theorem zq {n:Int} {l:List ao} {x:ao} {e:Entry} (hx:x∈l) (h:e∈x.entries) (he:e.ino=n):1<=fc n l:=by
 have h1:=oY (μ :=λx:ao=>ec n x.entries) (λx=>Cq n x.entries) hx;have h2:=Il h he;unfold fc;omega
theorem L8 {n:Int} {l:List ao} (h:0<fc n l):∃x∈l,∃e∈x.entries,e.ino=n:=by
 obtain⟨x,hx,h2⟩:=yF (μ :=λx:ao=>ec n x.entries) (λx=>Cq n x.entries) h;exact⟨x,hx,ML h2⟩
theorem yf {n:Int} {l:List ao} (h:fc n l<=1) {x y:ao} {e e':Entry} (hx:x∈l) (he:e∈x.entries) (hn:e.ino=n) (hy:y∈l) (he':e'∈y.entries) (hn':e'.ino=n):x=y/\e=e':=by
 have hxy:x=y:=by
  rcases Classical.em (x=y) with h'|h'
  ·exact h'
  ·have h1:=zW (μ :=λx:ao=>ec n x.entries) (λx=>Cq n x.entries) h' hx hy
   have h2:=Il he hn;have h3:=Il he' hn';unfold fc at h;omega
 subst hxy;refine⟨rfl, ?_⟩;rcases Classical.em (e=e') with h'|h'
 ·exact h'
 ·have h1:=zW (Dd n) h' he he'
  unfold one at h1;rw[if_pos hn,if_pos hn'] at h1;have h2:=oY (μ :=λx:ao=>ec n x.entries) (λx=>Cq n x.entries) hx;unfold fc at h;unfold ec at h h2;unfold one at h h2;omega
theorem DC (n:Int) (l:List Entry):ec n l=(oq n l:Int):=by
 induction l with
 |nil=>rfl
 |cons e l ih=>
  unfold ec at ih⊢;rw[eF,ih,I9];unfold one;split<;>omega
theorem BK (n:Int):∀(l:List ao) (s:Nat×Int),((fK n l s).1:Int)=s.1+fc n l
 | [],s=>by simp [fK,fc,mK]
 |x::l,s=>by
  simp only[fK];rw[BK n l];unfold fc;rw[eF,DC];simp only;omega
theorem BA (f:Fs) (n:Int):((eo f n).1:Int)=fc n f.aa:=by
 unfold eo;rw[BK];simp
theorem wG (n:Int):∀(l:List ao) (s:Nat×Int) (k:Int),(∀x∈l,∀e∈x.entries,e.ino=n->x.ino=k)->(fK n l s).2=if fc n l=0 then s.2 else k
 | [],s,k,_=>by simp [fK,fc,mK]
 |x::l,s,k,h=>by
  simp only[fK];rw[wG n l _ k (λy hy=>h y (by simp [hy]))];have h1:=Cq n x.entries;have h2:=Mh n l;have h3:fc n (x::l)=ec n x.entries+fc n l:=by unfold fc;rw[eF]
  rw[h3];by_cases h0:oq n x.entries=0
  ·have:ec n x.entries=0:=by rw[DC,h0];rfl
   simp only[h0,if_true,this,Int.zero_add]
  ·have h4:0<ec n x.entries:=by rw[DC];omega
   obtain⟨e,he,hn⟩:=ML h4;have h5:=h x (by simp) e he hn;have h6:¬ec n x.entries+fc n l=0:=by omega
   simp only[h0,if_false,h6,h5];split<;>rfl
theorem dA {l:List ao} {x:ao} (hs:ct l) (hx:x∈l):ar x.ino l=some x:=m5 loI hs hx
theorem Hu {l:List ao} {x:ao} {k:Int} (hs:ct l) (hx:x∈l) (hk:x.ino=k):ar k l=some x:=hk▸m5 loI hs hx
theorem aQ {l:List ao} {k:Int} {x:ao} (h:ar k l=some x):x∈l/\x.ino=k:=bX h
inductive Reach (l:List ao):Int->Prop where
 |root:Reach l 1
 |step {k:Int} {x:ao} {e:Entry}:Reach l k->ar k l=some x->e∈x.entries->Reach l e.ino
theorem aT {k:Int} {l:List ao} {x:ao} (h:ar k l=some x):aC k l=x:=by unfold aC;rw[h];rfl
theorem dW {k:Int} {l:List ao} (h:ar k l=none):aC k l=ky:=by unfold aC;rw[h];rfl
theorem Reach.get {l:List ao} {k:Int} {e:Entry} (h:Reach l k) (he:e∈(aC k l).entries):Reach l e.ino:=by
 cases hf:ar k l with
 |none=>rw[dW hf] at he;simp [ky] at he
 |some x=>rw[aT hf] at he;exact .step h hf he
theorem mu:∀(es:List Entry) (s:List Int) (n:Int),n∈es.foldl visit s↔n∈s\/∃e∈es,e.ino=n
 | [],s,n=>by simp
 |e::es,s,n=>by
  simp only[List.foldl_cons];rw[mu es (visit s e) n];have:n∈visit s e↔n∈s\/e.ino=n:=by
   unfold visit;split
   ·rename_i h
    constructor
    ·exact Or.inl
    ·rintro(h'|rfl)
     ·exact h'
     ·exact h
   ·simp [eq_comm]
  rw[this];simp only[List.mem_cons];constructor
  ·rintro((h|h) |⟨e',h1,h2⟩)
   ·exact Or.inl h
   ·exact Or.inr ⟨e,Or.inl rfl,h⟩
   ·exact Or.inr ⟨e',Or.inr h1,h2⟩
  ·rintro(h|⟨e',rfl|h1,h2⟩)
   ·exact Or.inl (Or.inl h)
   ·exact Or.inl (Or.inr h2)
   ·exact Or.inr ⟨e',h1,h2⟩
theorem vu (l:List ao):∀(n i:Nat) (s:List Int),(∀k∈s,Reach l k)->∀k∈ju l n i s,Reach l k
 |0,_,s,h=>h
 |n+1,i,s,h=>by
  simp only[ju];cases hi:s[i]? with
  |none=>exact h
  |some k=>
   refine vu l n (i+1) _ λm hm=> ?_
   unfold oG at hm;rw[mu] at hm;rcases hm with hm|⟨e,he,rfl⟩
   ·exact h m hm
   ·exact(h k (List.mem_of_getElem? hi)).get he
theorem sI (l:List ao):∀(n i:Nat) (s:List Int),qG l s->(dT l).length+1 - i<=n->i<=s.length->(∀j k,j<i->s[j]? =some k->∀e∈(aC k l).entries,e.ino∈s)->
 (∀k∈s,k∈ju l n i s)/\∀k∈ju l n i s,∀e∈(aC k l).entries,e.ino∈ju l n i s
 |0,i,s,hv,hn,hi,h=>by
  have:=hv.len;omega
 |n+1,i,s,hv,hn,hi,h=>by
  simp only[ju];cases hk:s[i]? with
  |none=>
   refine⟨λk hk=>hk,λk hk2 e he=> ?_⟩;obtain⟨j,hj⟩:=List.mem_iff_getElem?.1 hk2;have h1:j<s.length:=(List.getElem?_eq_some_iff.1 hj).1;have h2:s.length<=i:=List.getElem?_eq_none_iff.1 hk;exact h j k (by omega) hj e he
  |some k=>
   have hlt:i<s.length:=(List.getElem?_eq_some_iff.1 hk).1;obtain⟨t,ht⟩:=mB (aC k l).entries s;have h3:=sI l n (i+1) (oG (aC k l) s) (vB hv) (by omega) (by unfold oG;rw[ht];simp;omega) (by
    intro j m hj hm e he;unfold oG at hm⊢;rw[mu];rw[ht,List.getElem?_append_left (by omega)] at hm;by_cases hji:j=i
    ·subst hji
     rw[hk] at hm;cases hm;exact Or.inr ⟨e,he,rfl⟩
    ·exact Or.inl (h j m (by omega) hm e he))
   refine⟨λm hm=>h3.1 m ?_,h3.2⟩;unfold oG;rw[ht];simp [hm]
theorem zo {l:List ao} {n:Int}:n∈Cw l↔Reach l n:=by
 unfold Cw;constructor
 ·exact vu l _ _ _ (λk hk=>by simp at hk;subst hk;exact .root) n
 ·intro h
  have hc:=sI l ((dT l).length+1) 0 [1] (He l) (by omega) (by simp) (λj k hj=>by omega);induction h with
  |root=>exact hc.1 1 (by simp)
  |step h hf he ih=>exact hc.2 _ ih _ (by rw[aT hf];exact he)
theorem u5 (l:List ao):∀(n i:Nat) (s:List Int),qG l s->(ju l n i s).Nodup
 |0,_,s,h=>h.nodup
 |n+1,i,s,h=>by
  simp only[ju];cases hi:s[i]? with
  |none=>exact h.nodup
  |some k=>exact u5 l n (i+1) _ (vB h)
theorem zT (l:List ao):(Cw l).Nodup:=u5 l _ _ _ (He l)
theorem Gl {l:List ao} (h:ct l):(l.map ao.ino).Nodup:=by
 unfold List.Nodup;rw[List.pairwise_map];unfold ct dm at h;exact h.imp λ{a b} hab e=>by simp only[ltI,decide_eq_true_eq] at hab;omega
theorem HC {a b:List Int} (ha:a.Nodup) (hs:∀x∈a,x∈b) (hl:b.length<=a.length):∀x∈b,x∈a:=by
 intro x hx;rcases Classical.em (x∈a) with h|h
 ·exact h
 ·have:=so (m:=b.erase x) ha (λy hy=>(List.mem_erase_of_ne (by intro e;subst e;exact h hy)).2 (hs y hy))
  rw[List.length_erase_of_mem hx] at this;have:=List.length_pos_of_mem hx;omega
structure Tree (f:Fs):Prop where
 x_:1<=f.ay/\f.ay<=1073741824
 xY:0<=f.aB/\f.aB<=1073741824
 next:f.next<=1099511627776
 ino:∀x∈f.aa,1<=x.ino/\x.ino<f.next
 sort:ct f.aa
 root:∃r,ar 1 f.aa=some r/\r.kind=2/\r.parent=1
 kind:∀x∈f.aa,ft x=true
 there:∀x∈f.aa,∀e∈x.entries,∃y,ar e.ino f.aa=some y
 aH:∀x∈f.aa,x.aH=fc x.ino f.aa
 uy:fc 1 f.aa=0
 JK:∀x∈f.aa,x.kind=2->fc x.ino f.aa<=1
 par:∀x∈f.aa,x.kind=2->∀d∈f.aa,∀e∈d.entries,e.ino=x.ino->x.parent=d.ino
 led:∀x∈f.aa,Reach f.aa x.ino
 fits:cy f 0 0=true
theorem Reach.there {f:Fs} (ht:∀x∈f.aa,∀e∈x.entries,∃y,ar e.ino f.aa=some y) (hr:∃r,ar 1 f.aa=some r) {k:Int} (h:Reach f.aa k):∃y,ar k f.aa=some y:=by
 cases h with
 |root=>exact hr
 |step h hf he=>exact ht _ (bX hf).1 _ he
theorem Reach.named {l:List ao} {k:Int} (h:Reach l k) (h1:k≠1):∃x∈l,∃e∈x.entries,e.ino=k:=by
 cases h with
 |root=>exact absurd rfl h1
 |step h hf he=>exact⟨_,(bX hf).1,_,he,rfl⟩
theorem Iy {f:Fs} (hs:ct f.aa) (ht:∀x∈f.aa,∀e∈x.entries,∃y,ar e.ino f.aa=some y) (hr:∃r,ar 1 f.aa=some r):(Cw f.aa).length=f.aa.length↔∀x∈f.aa,Reach f.aa x.ino:=by
 have hsub:∀k∈Cw f.aa,k∈f.aa.map ao.ino:=λk hk=>by
  obtain⟨y,hy⟩:=Reach.there ht hr (zo.1 hk);obtain⟨h1,h2⟩:=bX hy;exact List.mem_map.2 ⟨y,h1,h2⟩
 constructor
 ·intro h x hx
  exact zo.1 (HC (zT _) hsub (by rw[List.length_map];omega) x.ino (List.mem_map.2 ⟨x,hx,rfl⟩))
 ·intro h
  have h1:=so (zT f.aa) hsub;have h2:=so (m:=Cw f.aa) (Gl hs) (λk hk=>by
   obtain⟨x,hx,rfl⟩:=List.mem_map.1 hk;exact zo.2 (h x hx))
  rw[List.length_map] at h1 h2;omega
theorem Ip (f:Fs):Sound f↔Tree f:=by
 constructor
 ·intro h
  obtain⟨r,hr,hk⟩:=h.root;have hrm:=bX hr;have hlink:∀x∈f.aa,x.aH=fc x.ino f.aa/\(x.ino=1->fc 1 f.aa=0/\x.parent=1)/\(x.ino≠1->x.kind=2->fc x.ino f.aa=1/\x.parent=(eo f x.ino).2):=by
   intro x hx;have hl:=h.link x hx;unfold Cl at hl;simp only[Bool.and_eq_true,decide_eq_true_eq] at hl;obtain⟨h1,h2⟩:=hl;have h3:=BA f x.ino;refine⟨by omega,λe=> ?_,λe e2=> ?_⟩
   ·rw[if_pos e] at h2
    simp only[Bool.and_eq_true,decide_eq_true_eq] at h2;rw[e] at h3 h2;exact⟨by omega,h2.2⟩
   ·rw[if_neg e] at h2
    simp only[Bool.and_eq_true,decide_eq_true_eq,e2,if_true] at h2;exact⟨by omega,h2.2.2⟩
  have hrl:=hlink r hrm.1;have hr1:r.ino=1:=hrm.2;have hr0:=hrl.2.1 hr1;refine⟨h.x_,h.xY,h.next,h.ino,h.sort,⟨r,hr,hk,hr0.2⟩,h.kind,h.there,λx hx=>(hlink x hx).1,hr0.1,λx hx hk2=> ?_,λx hx hk2 d hd e he hn=> ?_,(Iy h.sort h.there ⟨r,hr⟩).1 h.led,h.fits⟩
  ·by_cases h1:x.ino=1
   ·rw[h1,hr0.1];omega
   ·rw[((hlink x hx).2.2 h1 hk2).1];omega
  ·by_cases h1:x.ino=1
   ·have:=zq hd he hn
    rw[h1,hr0.1] at this;omega
   ·obtain⟨h2,h3⟩:=(hlink x hx).2.2 h1 hk2
    rw[h3];unfold eo;rw[wG x.ino f.aa (0,0) d.ino (λy hy e' he' hn'=>by rw[(yf (by omega) hy he' hn' hd he hn).1]),if_neg (by omega)]
 ·intro h
  obtain⟨r,hr,hk,hp⟩:=h.root;refine⟨h.x_,h.xY,h.next,h.ino,h.sort,⟨r,hr,hk⟩,h.kind,h.there,λx hx=> ?_,(Iy h.sort h.there ⟨r,hr⟩).2 h.led,h.fits⟩;have h3:=BA f x.ino;have h4:=h.aH x hx;unfold Cl;simp only[Bool.and_eq_true,decide_eq_true_eq];refine⟨by omega, ?_⟩;by_cases h1:x.ino=1
  ·have h5:=h.uy
   have:x=r:=by
    have:=dA h.sort hx;rw[h1,hr] at this;exact(Option.some.inj this).symm
   rw[if_pos h1];simp only[Bool.and_eq_true,decide_eq_true_eq];rw[h1] at h3⊢;exact⟨by omega,by rw[this];exact hp⟩
  ·rw[if_neg h1]
   obtain⟨d,hd,e,he,hn⟩:=(h.led x hx).named h1;have h5:=zq hd he hn;simp only[Bool.and_eq_true,decide_eq_true_eq];refine⟨by omega, ?_⟩;by_cases hk2:x.kind=2
   ·rw[if_pos hk2]
    simp only[Bool.and_eq_true,decide_eq_true_eq];have h6:=h.JK x hx hk2;refine⟨by omega, ?_⟩;unfold eo;rw[wG x.ino f.aa (0,0) d.ino (λy hy e' he' hn'=>by rw[(yf h6 hy he' hn' hd he hn).1]),if_neg (by omega)];exact h.par x hx hk2 d hd e he hn
   ·rw[if_neg hk2]
inductive Way (l:List ao) (i:Int):Int->Nat->Prop where
 |here:Way l i i 0
 |step {k:Int} {n:Nat} {x:ao} {e:Entry}:Way l i k n->ar k l=some x->e∈x.entries->Way l i e.ino (n+1)
theorem Reach.way {l:List ao} {k:Int} (h:Reach l k):∃n,Way l 1 k n:=by
 induction h with
 |root=>exact⟨0, .here⟩
 |step _ hf he ih=>obtain⟨n,hn⟩:=ih;exact⟨n+1, .step hn hf he⟩
theorem Way.trans {l:List ao} {i j k:Int} {n m:Nat} (h1:Way l i j n) (h2:Way l j k m):Way l i k (n+m):=by
 induction h2 with
 |here=>exact h1
 |step _ hf he ih=>exact .step ih hf he
theorem Way.first {l:List ao} {i k:Int} {n:Nat} {x:ao} {e:Entry} (hf:ar i l=some x) (he:e∈x.entries) (h:Way l e.ino k n):Way l i k (n+1):=by
 have:=Way.trans (.step .here hf he) h;rwa[Nat.add_comm] at this
theorem Way.head {l:List ao} {i k:Int} {n:Nat} (h:Way l i k n):(n=0/\k=i)\/∃m x e,n=m+1/\ar i l=some x/\e∈x.entries/\Way l e.ino k m:=by
 induction h with
 |here=>exact Or.inl ⟨rfl,rfl⟩
 |step h hf he ih=>
  rcases ih with⟨rfl,rfl⟩ |⟨m,y,e',rfl,h1,h2,h3⟩
  ·exact Or.inr ⟨0,_,_,rfl,hf,he, .here⟩
  ·exact Or.inr ⟨m+1,y,e',rfl,h1,h2, .step h3 hf he⟩
section
variable {f:Fs}
theorem B3 {x:ao} (h:ft x=true) {e:Entry} (he:e∈x.entries):x.kind=2:=by
 unfold ft at h;simp only[Bool.or_eq_true,Bool.and_eq_true,decide_eq_true_eq] at h;rcases h with⟨_,h,_⟩ |⟨h,_⟩ |⟨_,h,_⟩
 ·have:x.entries= [] :=by simpa using h
  rw[this] at he;cases he
 ·exact h
 ·have:x.entries= [] :=by simpa using h
  rw[this] at he;cases he
theorem Tree.dD (h:Tree f) {k:Int} {x:ao} {e:Entry} (hf:ar k f.aa=some x) (he:e∈x.entries):x.kind=2:=B3 (h.kind x (bX hf).1) he
theorem Tree.up (h:Tree f) {k k':Int} {x x' y:ao} {e e':Entry} (hf:ar k f.aa=some x) (he:e∈x.entries) (hf':ar k' f.aa=some x') (he':e'∈x'.entries) (hn:e.ino=e'.ino) (hy:ar e.ino f.aa=some y) (hd:y.kind=2):k=k'/\x=x'/\e=e':=by
 obtain⟨y1,y2⟩:=bX hy;obtain⟨x1,x2⟩:=bX hf;obtain⟨x1',x2'⟩:=bX hf';have h1:=yf (h.JK y y1 hd) x1 he y2.symm x1' he' (hn▸y2.symm);refine⟨?_,h1.1,h1.2⟩;rw[<-x2,<-x2',h1.1]
theorem Tree.qX (h:Tree f) {k:Int} {x:ao} {e:Entry} (hf:ar k f.aa=some x) (he:e∈x.entries):e.ino≠1:=by
 intro h1;have:=zq (bX hf).1 he h1;rw[h.uy] at this;omega
theorem Tree.deep (h:Tree f) {k:Int} {n:Nat} (hw:Way f.aa 1 k n):∀{m:Nat} {y:ao},ar k f.aa=some y->y.kind=2->Way f.aa 1 k m->n=m:=by
 induction hw with
 |here=>
  intro m y _ _ hm;generalize hk:(1:Int)=k at hm;cases hm with
  |here=>rfl
  |step h1 hf he=>exact absurd hk.symm (h.qX hf he)
 |step hw hf he ih=>
  rename_i k' n' x e;intro m y hy hd hm;generalize hk:e.ino=k at hm;cases hm with
  |here=>exact absurd hk (h.qX hf he)
  |step h1 hf' he'=>
   obtain⟨rfl,rfl,rfl⟩:=h.up hf he hf' he' hk hy hd;rw[ih hf (h.dD hf he) h1]
theorem Tree.Dv (h:Tree f) {i:Int} {a n:Nat} {x:ao} {e:Entry} (hi:Way f.aa 1 i a) (hx:ar i f.aa=some x) (he:e∈x.entries):¬Way f.aa e.ino i n:=λw=>by
 have:=h.deep hi hx (h.dD hx he) (hi.trans (w.first hx he));omega
end
def T7 (p n:Str):Str:=if p=[47] then p++n else (p++[47])++n
def Oy {α:Type} (l m:List α):Prop:=∃a b s,l=a++b/\m=a++s::b
theorem Oy.len {α:Type} {l m:List α} (h:Oy l m):m.length=l.length+1:=by
 obtain⟨a,b,s,rfl,rfl⟩:=h;simp;omega
theorem Oy.sub {α:Type} {l m:List α} (h:Oy l m):List.Sublist l m:=by
 obtain⟨a,b,s,rfl,rfl⟩:=h;exact(List.Sublist.refl a).append (List.sublist_cons_self s b)
structure Lil (f:Fs):Prop where
 len:f.aa.length<=10000
 dD:∀x∈f.aa,x.entries.length<=10000
theorem Lil.Gi {f:Fs} (h:oJ f=true):Lil f:=by
 obtain⟨h1,h2⟩:=rX h;exact⟨by omega,λx hx=>by have:=(h2 x hx).2.1;omega⟩
theorem zZ {α:Type} {μ :α->Int} {c:Int} {l:List α} (h:∀x∈l, μ x<=c):mK μ l<=l.length*c:=by
 induction l with
 |nil=>simp [mK]
 |cons x l ih=>
  rw[eF,List.length_cons];have h1:=ih (λy hy=>h y (by simp [hy]));have h2:=h x (by simp);have:((l.length+1:Nat):Int)*c=(l.length:Int)*c+c:=by
   rw[Int.natCast_add,Int.add_mul];simp
  omega
structure InF (f:Fs):Prop where
 len:f.aa.length<=1073741824
 dD:∀x∈f.aa,x.entries.length<=1073741824
def Nm (x:Str):Prop:=x≠ [] /\∀c∈x,c≠47
theorem rZ {x:Str} (h:eP x=true):Nm x:=by
 unfold eP at h;simp only[Bool.and_eq_true,Bool.not_eq_true',beq_eq_false_iff_ne] at h;obtain⟨h1,_,h3,_⟩:=h;refine⟨h1,λc hc e=> ?_⟩;rw[List.any_eq_false] at h3;have:=h3 c hc;unfold mA at this;rw[e] at this;exact this rfl
theorem Eu {x:Str} (h:eP x=true):x.length<=255:=by
 unfold eP at h;simp only[Bool.and_eq_true,decide_eq_true_eq] at h;exact h.2.1
theorem Qy (ns:List Str) (b:Str):∃r,(ns.flatMap λx=>47::x)++47::b=47::r:=by
 cases ns with
 |nil=>exact⟨b,rfl⟩
 |cons x ns=>exact⟨x++((ns.flatMap λx=>47::x)++47::b),by simp⟩
theorem sk (b:Str):splitN [] (47::b)=splitN [] b:=by simp [splitN]
theorem xg (b:Str):∀ns:List Str,(∀x∈ns,Nm x)->splitN [] ((ns.flatMap λx=>47::x)++47::b)=(ns++(splitN [] b).1,(splitN [] b).2)
 | [],_=>by simp [sk]
 |x::ns,h=>by
  have hx:=h x (by simp);obtain⟨r,hr⟩:=Qy ns b;have ih:=xg b ns (λy hy=>h y (by simp [hy]));rw[hr,sk] at ih;have e:((x::ns).flatMap λx=>47::x)++47::b=47::(x++47::r):=by
   rw[List.flatMap_cons,List.append_assoc,hr];simp
  rw[e,sk,uh x [] r hx.2,ih,List.nil_append,if_neg hx.1];simp
theorem xD (b:Str) {ns:List Str} (h:∀x∈ns,Nm x):b8 ((ns.flatMap λx=>47::x)++47::b)=ns++b8 b:=by
 unfold b8;rw[xg b ns h];unfold fD;simp only;split<;>simp
theorem FI {x:Str} (h:Nm x):b8 x=[x]:=by
 unfold b8;rw[rI x [] h.2];unfold fD;rw[List.nil_append,if_neg h.1];rfl
theorem BS (b:Str):b8 (47::b)=b8 b:=by unfold b8;rw[sk]
theorem l7 {ns:List Str} (h:∀x∈ns,Nm x):b8 (iZ ns)=ns:=by
 unfold iZ;rcases List.eq_nil_or_concat ns with rfl|⟨ns',x,rfl⟩
 ·rfl
 ·rw[List.concat_eq_append] at h⊢
  rw[if_neg (by simp),List.flatMap_append];have e:([x].flatMap λx=>(47:UInt8)::x)=47::x:=by simp
  rw[e,xD x (λy hy=>h y (by simp [hy])),FI (h x (by simp))]
theorem LX {ns:List Str} (h:∀x∈ns,Nm x) (h0:ns≠ []):iZ ns≠[47]:=by
 intro e;have:=l7 h;rw[e] at this;exact h0 this.symm
theorem xO {ns:List Str} (h:∀x∈ns,Nm x) (b:Str):b8 (iZ ns++47::b)=ns++b8 b:=by
 unfold iZ;by_cases h0:ns= []
 ·subst h0
  show b8 (47::47::b)=_;rw[BS,BS];rfl
 ·rw[if_neg h0,xD b h]
theorem DV {ns:List Str} (h:∀x∈ns,eP x=true):bZ (iZ ns)=(ns,true):=by
 have:=l7 (λx hx=>rZ (h x hx));unfold bZ;rw[this,if_pos ⟨rfl,by rw[List.all_eq_true];exact h⟩]
theorem jG {p:Str} (h:(bZ p).2=true):iZ (bZ p).1=p/\(∀x∈(bZ p).1,eP x=true)/\(bZ p).1=b8 p:=by
 unfold bZ at h⊢;split
 ·rename_i h1
  refine⟨h1.1, ?_,rfl⟩;have:=h1.2;rw[List.all_eq_true] at this;exact this
 ·rename_i h1
  rw[if_neg h1] at h;cases h
theorem ia {l:List ao} {n:Str} {ns:List Str} {s:au} (hf:ar s.ino l=none):cq l (n::ns) s=(gA,1):=by
 simp only[cq];rw[hf]
theorem eM {l:List ao} {n:Str} {ns:List Str} {s:au} {d:ao} (hf:ar s.ino l=some d) (hk:d.kind=2):cq l (n::ns) s=cq l ns ⟨d.ino,n,cm n d.entries⟩:=by
 simp only[cq];rw[hf];simp only;rw[if_pos hk]
theorem gY {l:List ao} {n:Str} {ns:List Str} {s:au} {d:ao} (hf:ar s.ino l=some d) (hk:d.kind≠2):cq l (n::ns) s=(gA,3):=by
 simp only[cq];rw[hf];simp only;rw[if_neg hk]
theorem rD (l:List ao):∀(a b:List Str) (s:au),cq l (a++b) s=if (cq l a s).2=0 then cq l b (cq l a s).1 else (gA,(cq l a s).2)
 | [],b,s=>by simp [cq]
 |n::a,b,s=>by
  rw[List.cons_append];cases hf:ar s.ino l with
  |none=>rw[ia hf,ia hf];rfl
  |some d=>
   by_cases hk:d.kind=2
   ·rw[eM hf hk,eM hf hk];exact rD l a b _
   ·rw[gY hf hk,gY hf hk];rfl
theorem BF {x:ao} {n:Str} (h:cm n x.entries≠0):∃e∈x.entries,e.name=n/\e.ino=cm n x.entries/\cM n x.entries=some e:=by
 unfold cm at h⊢;cases hf:cM n x.entries with
 |none=>rw[hf] at h;exact absurd rfl h
 |some e=>exact⟨e,(bX hf).1,(bX hf).2,rfl,rfl⟩
structure OnW (f:Fs) (m:Nat) (i:Int) (p:Str) (s:Seen) (ns:List Str):Prop where
 may:∀n∈ns,eP n=true
 len:ns.length<=m
 path:s.path=ns.foldl T7 p
 there:∃x,ar s.ino f.aa=some x
 go:∀sp:au,sp.ino=i->∃t,cq f.aa ns sp=(t,0)/\t.ino=s.ino/\(ns= [] ->t=sp)
 way:Way f.aa i s.ino ns.length
structure AtR (f:Fs) (s:Seen) (ns:List Str) (x:ao) (t:au):Prop where
 may:∀n∈ns,eP n=true
 len:ns.length<=f.aa.length+1
 path:s.path=iZ ns
 there:ar s.ino f.aa=some x
 go:cq f.aa ns dt=(t,0)
 ino:t.ino=s.ino
 nil:ns= [] ->t=dt
theorem AtR.atP {f:Fs} {s:Seen} {ns:List Str} {x:ao} {t:au} (h:AtR f s ns x t):atP f s.path=(t,0):=by
 unfold Go.Eng.atP;rw[h.path,DV h.may,if_pos rfl,h.go]
theorem AtR.xS {f:Fs} {s:Seen} {ns:List Str} {x:ao} {t:au} (h:AtR f s ns x t):xS f s.path=(x,0):=by
 unfold Go.Eng.xS;rw[h.atP,if_pos rfl,h.ino,h.there]
instance aaS:DecidableEq Seen:=λa b=>
 if h:a.path=b.path/\a.ino=b.ino then isTrue (by cases a;cases b;simp at h;simp [h]) else isFalse (by intro e;subst e;exact h ⟨rfl,rfl⟩)
theorem Ix {α:Type} (a:α) (l:List α):((List.length (a::l):Int)==(0:Int))=false:=by
 rw[beq_eq_false_iff_ne];simp only[List.length_cons];omega
structure WS (f:Fs):Prop where
 wf:WF f
 par:∀x∈f.aa,x.kind=2->∃y,ar x.parent f.aa=some y/\y.kind=2
 sym:∀x∈f.aa,x.kind=3->x.data.length<=4095
 LJ:∃r,ar 1 f.aa=some r/\r.kind=2
theorem M0 {x:ao} (h:ft x=true) (hk:x.kind=3):x.data.length<=4095/\1<=x.data.length:=by
 rw[BH hk] at h;simp only[Bool.and_eq_true,decide_eq_true_eq] at h;exact⟨h.2.2.1.2,h.2.2.1.1⟩
theorem Tree.ws {f:Fs} (h:Tree f) (hw:WF f):WS f where
 wf:=hw
 par:=λx hx hk=>by
  obtain⟨r,hr,hk',hp⟩:=h.root;by_cases h1:x.ino=1
  ·have:=Hu h.sort hx h1
   rw[hr] at this;cases this;exact⟨_,by rw[hp];exact hr,hk'⟩
  ·obtain⟨d,hd,e,he,hn⟩:=(h.led x hx).named h1
   have:=h.par x hx hk d hd e he hn;exact⟨d,by rw[this];exact dA h.sort hd,B3 (h.kind d hd) he⟩
 sym:=λx hx hk=>(M0 (h.kind x hx) hk).1
 LJ:=by obtain⟨r,hr,hk,_⟩:=h.root;exact⟨r,hr,hk⟩
def vD (l:List ao) (dir:Bool) (s:au):au×Int:=match ar s.ino l with
 |some x=>if dir=true/\x.kind≠2 then (gA,3) else (s,0)
 |none=>(s,0)
def dx (l:List ao) (fol:Bool) (lnk:Bool->ao->ao->List Str->au×Int) (dir:Bool):List Str->au->au×Int
 | [],s=>vD l dir s
 |n::rest,s=>match ar s.ino l with
  |none=>(gA,1)
  |some d=>if d.kind=2 then (if n=[46] then dx l fol lnk dir rest ⟨0, [],d.ino⟩ else if n=[46,46] then dx l fol lnk dir rest ⟨0, [],d.parent⟩
   else if (aC (cm n d.entries) l).kind=3/\(rest≠ [] \/fol=true\/dir=true) then lnk dir (aC (cm n d.entries) l) d rest
   else dx l fol lnk dir rest ⟨d.ino,n,cm n d.entries⟩) else (gA,3)
def onK (l:List ao) (fol:Bool):Nat->Bool->List Str->au->au×Int
 |0=>dx l fol λ_ _ _ _=>(gA,6)
 |k+1=>dx l fol λdir x d rest=>if qE x.data=true then (gA,7) else onK l fol k (dir||((eB x.data).ik&&rest.isEmpty)) ((eB x.data).names++rest) ⟨0, [],if (eB x.data).abs=true then 1 else d.ino⟩
def sY (f:Fs) (base:Str):Int×Int:=if (xS f base).2=0 then (if (xS f base).1.kind=2 then ((xS f base).1.ino,0) else (0,3)) else (0,(xS f base).2)
def ku (f:Fs) (base p:Str) (fol:Bool):au×Int:=
 if p= [] then (gA,1) else if qE p=true then (gA,7) else
 if (eB p).abs=true then onK f.aa fol 40 (eB p).ik (eB p).names dt else
 if (sY f base).2=0 then onK f.aa fol 40 (eB p).ik (eB p).names ⟨0, [],(sY f base).1⟩ else (gA,(sY f base).2)
def Qd (l:List ao) (fol:Bool):Nat->Bool->ao->ao->List Str->au×Int
 |0=>λ_ _ _ _=>(gA,6)
 |k+1=>λdir x d rest=>if qE x.data=true then (gA,7) else onK l fol k (dir||((eB x.data).ik&&rest.isEmpty)) ((eB x.data).names++rest) ⟨0, [],if (eB x.data).abs=true then 1 else d.ino⟩
theorem KY (l:List ao) (fol:Bool) (k:Nat):onK l fol k=dx l fol (Qd l fol k):=by cases k<;>rfl
section
variable {l:List ao} {fol dir:Bool} {lnk:Bool->ao->ao->List Str->au×Int} {n:Str} {rest:List Str} {s:au} {d:ao}
theorem n5 (hf:ar s.ino l=none):dx l fol lnk dir (n::rest) s=(gA,1):=by simp only[dx];rw[hf]
theorem qV (hf:ar s.ino l=some d) (hk:d.kind≠2):dx l fol lnk dir (n::rest) s=(gA,3):=by simp only[dx];rw[hf];simp only;rw[if_neg hk]
theorem qv (hf:ar s.ino l=some d) (hk:d.kind=2) (hn:n=[46]):dx l fol lnk dir (n::rest) s=dx l fol lnk dir rest ⟨0, [],d.ino⟩:=by simp only[dx];rw[hf];simp only;rw[if_pos hk,if_pos hn]
theorem sy (hf:ar s.ino l=some d) (hk:d.kind=2) (hn:n=[46,46]):dx l fol lnk dir (n::rest) s=dx l fol lnk dir rest ⟨0, [],d.parent⟩:=by simp only[dx];rw[hf];simp only;rw[if_pos hk,if_neg (by rw[hn];decide),if_pos hn]
theorem jL (hf:ar s.ino l=some d) (hk:d.kind=2) (h1:n≠[46]) (h2:n≠[46,46]) (h3:(aC (cm n d.entries) l).kind=3/\(rest≠ [] \/fol=true\/dir=true)):dx l fol lnk dir (n::rest) s=lnk dir (aC (cm n d.entries) l) d rest:=by simp only[dx];rw[hf];simp only;rw[if_pos hk,if_neg h1,if_neg h2,if_pos h3]
theorem kM (hf:ar s.ino l=some d) (hk:d.kind=2) (h1:n≠[46]) (h2:n≠[46,46]) (h3:¬((aC (cm n d.entries) l).kind=3/\(rest≠ [] \/fol=true\/dir=true))):dx l fol lnk dir (n::rest) s=dx l fol lnk dir rest ⟨d.ino,n,cm n d.entries⟩:=by simp only[dx];rw[hf];simp only;rw[if_pos hk,if_neg h1,if_neg h2,if_neg h3]
end
theorem q6 (s:Str):(eB s).names=b8 s:=rfl
theorem nP (s:Str):(b8 s).length<=s.length+1:=by have:=lq s;omega
theorem Hk {f:Fs} {i:Int} (h:(aC i f.aa).kind=3):∃x,ar i f.aa=some x/\aC i f.aa=x:=by
 cases hf:ar i f.aa with
 |none=>rw[dW hf] at h;cases h
 |some x=>exact⟨x,rfl,aT hf⟩
def wt:Nat->Nat
 |0=>0
 |k+1=>wt k+210000
theorem aiW:wt 40=8400000:=rfl
theorem A2 {f:Fs} (h:WF f) {base:Str} (hb:base.length<=8388608):tN f base=some (sY f base):=by
 unfold tN sY;rw[Dt h hb,ae,dS,dS];by_cases h1:(xS f base).2=0
 ·rw[aU (by simp [h1]),if_pos h1]
  by_cases h2:(xS f base).1.kind=2
  ·rw[aU (by simp [h2]),if_pos h2]
  ·rw[aJ (by simp [h2]),if_neg h2]
 ·rw[aJ (by simp [h1]),if_neg h1]
theorem Je {p:Str} (h:qE p=false):p.length<=4095:=by
 unfold qE at h;simp only[Bool.or_eq_false_iff,decide_eq_false_iff_not] at h;omega
theorem aes {f:Fs} (h:WS f) (fol:Bool):∀(n k:Nat) (dir:Bool) (todo:List Str) (s:au),(s.ino=0\/(ar s.ino f.aa).isSome=true)->k<=40->todo.length<=5000*(41 - k)->wt k+todo.length<n->
 bH n f s todo fol dir ((40 - k:Nat):Int)=some (onK f.aa fol k dir todo s):=by
 intro n;induction n with
 |zero=>intro k dir todo s _ _ _ h;omega
 |succ n ih=>
  intro k dir todo s hs hk ht hn;simp only[bH];rw[KY];cases todo with
  |nil=>
   rw[aJ (by simp),h.wf.vZ,ae];show _=some (vD f.aa dir s);unfold vD;cases hf:ar s.ino f.aa with
   |none=>rfl
   |some x=>
    rw[aT hf,dS];simp only[Option.isSome_some,aw];cases dir
    ·simp
    ·by_cases hk:x.kind=2
     ·simp [hk]
     ·simp [hk];rfl
  |cons nm rest=>
   have hti:Int.toNat (0:Int)=0:=rfl;have ht1:Int.toNat (1:Int)=1:=rfl;simp only[List.length_cons] at ht hn;have ih':∀(s':au),(s'.ino=0\/(ar s'.ino f.aa).isSome=true)->(aj (bH n f s' rest fol dir ((40 - k:Nat):Int)) λy4=>some (y4.1,y4.2))=some (dx f.aa fol (Qd f.aa fol k) dir rest s'):=λs' hs'=>by
    rw[ih k dir rest s' hs' hk (by omega) (by omega),KY];rfl
   rw[aU (Ix _ _),eh];by_cases h0:s.ino=0
   ·rw[aJ (by simp [h0]),n5 (by rw[h0];exact h.wf.zero)];rfl
   rw[aU (by simp [h0]),h.wf.vZ,ae];obtain⟨d,hf⟩:=Option.isSome_iff_exists.1 (hs.resolve_left h0);rw[aT hf,dS];by_cases hk2:d.kind=2
   case neg=>rw[qV hf hk2,aJ (by simp [hk2])];rfl
   rw[aU (by simp [hk2]),aJ (by decide),hti,List.getElem?_cons_zero,ae,ht1,aJ (by simp;omega),List.drop_one,List.tail_cons];have hdm:=h.wf.found hf;by_cases hd1:nm=[46]
   ·rw[qv hf hk2 hd1,aJ (by simp [hd1])]
    exact ih' ⟨0, [],d.ino⟩ (Or.inr (by rw[hdm.2,hf];rfl))
   rw[aU (by simp [hd1])];by_cases hd2:nm=[46,46]
   ·rw[sy hf hk2 hd2,aJ (by simp [hd2])]
    exact ih' ⟨0, [],d.parent⟩ (Or.inr (by obtain⟨y,hy,_⟩:=h.par d hdm.1 hk2;rw[hy];rfl))
   rw[aU (by simp [hd2]),rz (h.wf.sm.dD d hdm.1),ae,h.wf.vZ,ae];simp only;have hon:=ih' ⟨d.ino,nm,cm nm d.entries⟩ (nr h.wf hdm.1 nm);rw[dS];by_cases hk3:(aC (cm nm d.entries) f.aa).kind=3
   ·obtain⟨x,hx,hgx⟩:=Hk hk3
    rw[hgx] at hk3;have hxm:=h.wf.found hx;have hxl:=h.sym x hxm.1 hk3;have hne:cm nm d.entries≠0:=by intro e;rw[e,h.wf.zero] at hx;cases hx
    obtain⟨e,_,_,_,he4⟩:=BF hne;rw[he4,hgx,aU (by simp),aU (by simp [hk3])];have hnl:(b8 x.data).length<=4096:=by have:=nP x.data;omega
    have blk:ah ((((40 - k:Nat):Int))==(40:Int)) (some ((⟨0, [],0⟩:au),(6:Int))) (aj (jz x.data) λy11=>
 ah y11 (some ((⟨0, [],0⟩:au),(7:Int))) (aj (iz x.data) λy12=>
 ah y12.abs (
 ah y12.ik (
 ah ((List.length rest:Int)==(0:Int)) (aS (([] :List Str).length+y12.names.length) (aS (y12.names.length+rest.length) (aj (bH n f (⟨0, [],(1:Int)⟩:au) (y12.names++rest) fol true (IntKind.i64.wrap (((40 - k:Nat):Int)+(1:Int)))) λy13=>some (y13.1,y13.2)))) (aS (([] :List Str).length+y12.names.length) (aS (y12.names.length+rest.length) (aj (bH n f (⟨0, [],(1:Int)⟩:au) (y12.names++rest) fol dir (IntKind.i64.wrap (((40 - k:Nat):Int)+(1:Int)))) λy14=>some (y14.1,y14.2))))) (aS (([] :List Str).length+y12.names.length) (aS (y12.names.length+rest.length) (aj (bH n f (⟨0, [],(1:Int)⟩:au) (y12.names++rest) fol dir (IntKind.i64.wrap (((40 - k:Nat):Int)+(1:Int)))) λy15=>some (y15.1,y15.2))))) (
 ah y12.ik (
 ah ((List.length rest:Int)==(0:Int)) (aS (([] :List Str).length+y12.names.length) (aS (y12.names.length+rest.length) (aj (bH n f (⟨0, [],d.ino⟩:au) (y12.names++rest) fol true (IntKind.i64.wrap (((40 - k:Nat):Int)+(1:Int)))) λy16=>some (y16.1,y16.2)))) (aS (([] :List Str).length+y12.names.length) (aS (y12.names.length+rest.length) (aj (bH n f (⟨0, [],d.ino⟩:au) (y12.names++rest) fol dir (IntKind.i64.wrap (((40 - k:Nat):Int)+(1:Int)))) λy17=>some (y17.1,y17.2))))) (aS (([] :List Str).length+y12.names.length) (aS (y12.names.length+rest.length) (aj (bH n f (⟨0, [],d.ino⟩:au) (y12.names++rest) fol dir (IntKind.i64.wrap (((40 - k:Nat):Int)+(1:Int)))) λy18=>some (y18.1,y18.2)))))))=some (Qd f.aa fol k dir x d rest):=by
     cases k with
     |zero=>rw[aJ (by simp)];rfl
     |succ k=>
      have e:IntKind.i64.wrap (((40 - (k+1):Nat):Int)+1)=((40 - k:Nat):Int):=by rw[bN (by omega) (by omega)];omega
      rw[e,aU (by rw[eh];simp;omega),sJ (by omega),ae];simp only[Qd];cases hlong:qE x.data
      case true=>rw[aw,if_pos rfl];rfl
      rw[ax,oF (by omega),ae,if_neg (by simp)];have hlen:((eB x.data).names++rest).length<=rest.length+4096:=by rw[List.length_append,q6];omega
      have go:∀(dir':Bool) (s':au),(s'.ino=0\/(ar s'.ino f.aa).isSome=true)->aS (([] :List Str).length+(eB x.data).names.length) (aS ((eB x.data).names.length+rest.length) (aj (bH n f s' ((eB x.data).names++rest) fol dir' ((40 - k:Nat):Int)) λy13=>some (y13.1,y13.2)))=some (onK f.aa fol k dir' ((eB x.data).names++rest) s'):=by
       intro dir' s' hs';have h7:(eB x.data).names.length<=4096:=by rw[q6];omega
       rw[bC (by unfold LIM;simp;omega),bC (by unfold LIM;omega),ih k dir' _ s' hs' (by omega) (by clear ih ih';omega) (by clear ih ih';simp only[wt] at hn;omega)];rfl
      have r1:=λdir'=>go dir' ⟨0, [],1⟩ (Or.inr h.wf.root)
      have r2:=λdir'=>go dir' ⟨0, [],d.ino⟩ (Or.inr (by rw[hdm.2,hf];rfl))
      simp only[r1,r2];cases (eB x.data).abs
      ·cases (eB x.data).ik
       ·simp
       ·cases rest
        ·simp
        ·simp only[aw,ax,Ix];simp
      ·cases (eB x.data).ik
       ·simp
       ·cases rest
        ·simp
        ·simp only[aw,ax,Ix];simp
    by_cases hr:rest= []
    ·subst hr
     rw[aJ (by simp)];cases fol
     ·cases dir
      ·simp only[Bool.not_false,aw]
       rw[kM hf hk2 hd1 hd2 (by simp)];exact hon
      ·simp only[Bool.not_false,aw,Bool.not_true,ax]
       rw[jL hf hk2 hd1 hd2 ⟨by rw[hgx];exact hk3,Or.inr (Or.inr rfl)⟩,hgx];exact blk
     ·simp only[Bool.not_true,ax]
      rw[jL hf hk2 hd1 hd2 ⟨by rw[hgx];exact hk3,Or.inr (Or.inl rfl)⟩,hgx];exact blk
    ·rw[aU (by cases rest with|nil=>exact absurd rfl hr|cons a b=>exact Ix _ _),jL hf hk2 hd1 hd2 ⟨by rw[hgx];exact hk3,Or.inl hr⟩,hgx]
     exact blk
   ·rw[aJ (b:= !decide _) (by simp [hk3]),kM hf hk2 hd1 hd2 (λh9=>hk3 h9.1)]
    cases hfe:(cM nm d.entries).isSome
    ·rw[aJ (by simp)];exact hon
    ·rw[aU (by simp)];exact hon
theorem EL {f:Fs} (h:WF f) {base:Str}:(sY f base).1=0\/(ar (sY f base).1 f.aa).isSome=true:=by
 unfold sY xS;by_cases h1:(atP f base).2=0
 ·simp only[h1,if_true]
  cases hf:ar (atP f base).1.ino f.aa with
  |none=>left;rfl
  |some x=>
   simp only[if_true];split
   ·right
    simp only;have:=h.found hf;rw[this.2,hf];rfl
   ·left;rfl
 ·left
  simp only[h1,if_false]
theorem A1 {f:Fs} (h:WS f) {base p:Str} {fol:Bool} (hb:base.length<=8388608) (hp:p.length<=1073741823):uc f base p fol=some (ku f base p fol):=by
 unfold uc ku;by_cases h0:p= []
 ·rw[aJ (by simp [h0]),if_pos h0];rfl
 rw[aU (by simp [h0]),if_neg h0,sJ hp,ae];cases hl:qE p
 case true=>rw[aw,if_pos rfl];rfl
 have hlen:=Je hl;rw[ax,if_neg (by simp),oF hp,ae];have hnm:(eB p).names.length<=4096:=by rw[q6];have:=nP p;omega
 have go:∀(s:au),(s.ino=0\/(ar s.ino f.aa).isSome=true)->(aj (uk f s (eB p).names fol (eB p).ik (0:Int)) λy4=>some (y4.1,y4.2))=some (onK f.aa fol 40 (eB p).ik (eB p).names s):=λs hs=>by
  unfold uk;have:=aes h fol bx 40 (eB p).ik (eB p).names s hs (Nat.le_refl _) (by omega) (fp (by rw[aiW];omega));have e:((40 - 40:Nat):Int)=0:=rfl;rw[e] at this;rw[this];rfl
 cases (eB p).abs
 ·simp only[Bool.not_false,aw,Bool.false_eq_true,if_false]
  rw[A2 h.wf hb,ae,dS];by_cases h2:(sY f base).2=0
  ·rw[aU (by simp [h2]),if_pos h2]
   exact go ⟨0, [],(sY f base).1⟩ (EL h.wf)
  ·rw[aJ (by simp [h2]),if_neg h2];rfl
 ·simp only[Bool.not_true,ax,if_true]
  exact go dt (Or.inr h.wf.root)
def Gd (f:Fs) (fol:Bool) (s:au):Prop:=(s.name= [] /\s.dir=0/\∃d,ar s.ino f.aa=some d/\d.kind=2)\/(s.name≠ [] /\∃d,ar s.dir f.aa=some d/\d.kind=2/\s.ino=cm s.name d.entries/\(fol=true->(aC s.ino f.aa).kind≠3))
def ao.cd (x:ao) (d:Str):ao:=⟨x.ino,x.kind,x.aH,d,x.parent,x.entries⟩
def sS (f:Fs) (ino:Int) (d:Str):Fs×Int:=if cy f 0 ((d.length:Int) - ((aC ino f.aa).data.length:Int))=true then (f.set ((aC ino f.aa).cd d),0) else (f,8)
section
variable {f:Fs} {base p:Str}
theorem B4 (h:WF f) (i:Int):(aC i f.aa).data.length<=1073741824:=by
 cases hf:ar i f.aa with
 |none=>rw[dW hf];simp [ky]
 |some x=>rw[aT hf];exact h.sm.data x (aQ hf).1
theorem Ff (h:WF f) {i:Int} {d:Str} (hd:d.length<=1073741824):rL f i d=some (sS f i d):=by
 unfold rL sS;have hg:=B4 h i;rw[h.get,ae];simp only;rw[bN (by omega) (by omega),iN h.sm (by unfold Far;omega) (by unfold Far;omega),ae];cases hfit:cy f 0 ((d.length:Int) - ((aC i f.aa).data.length:Int))
 ·rfl
 ·rw[Bool.not_true,ax,h.set,ae];rfl
theorem CZ (h:WF f) {i:Int} {d:Str} (hd:d.length<=1073741824):pe f i d=some (sS f i d):=by
 unfold pe sS;have hg:=B4 h i;rw[h.vZ,ae];simp only;rw[bN (by omega) (by omega),fW h.sm (by unfold Far;omega) (by unfold Far;omega),ae];cases hfit:cy f 0 ((d.length:Int) - ((aC i f.aa).data.length:Int))
 ·rfl
 ·rw[Bool.not_true,ax,h.akD,ae];rfl
end
def YP:Option ao->Option ao->Prop
 |none,none=>True
 |some x,some y=>x.ino=y.ino/\x.kind=y.kind/\x.parent=y.parent/\x.entries=y.entries/\(x.kind=3->x.data=y.data)
 |_,_=>False
def A8 (l m:List ao):Prop:=∀k,YP (ar k l) (ar k m)
section
variable {l m:List ao}
theorem A8.none (h:A8 l m) {k:Int} (hf:ar k l=none):ar k m=none:=by
 have:=h k;rw[hf] at this;cases hm:ar k m with
 |none=>rfl
 |some y=>rw[hm] at this;exact this.elim
theorem A8.some (h:A8 l m) {k:Int} {x:ao} (hf:ar k l=some x):∃y,ar k m=some y/\x.ino=y.ino/\x.kind=y.kind/\x.parent=y.parent/\x.entries=y.entries/\(x.kind=3->x.data=y.data):=by
 have:=h k;rw[hf] at this;cases hm:ar k m with
 |none=>rw[hm] at this;exact this.elim
 |some y=>rw[hm] at this;exact⟨y,rfl,this⟩
theorem A8.kind (h:A8 l m) (k:Int):(aC k l).kind=(aC k m).kind:=by
 cases hf:ar k l with
 |none=>rw[dW hf,dW (h.none hf)]
 |some x=>obtain⟨y,hy,h1⟩:=h.some hf;rw[aT hf,aT hy];exact h1.2.1
theorem Ei (h:A8 l m):∀(ns:List Str) (s:au),cq l ns s=cq m ns s
 | [],s=>rfl
 |n::ns,s=>by
  cases hf:ar s.ino l with
  |none=>rw[ia hf,ia (h.none hf)]
  |some x=>
   obtain⟨y,hy,h1,h2,h3,h4,h5⟩:=h.some hf;by_cases hk:x.kind=2
   ·rw[eM hf hk,eM hy (h2▸hk),h1,h4];exact Ei h ns _
   ·rw[gY hf hk,gY hy (h2▸hk)]
end
theorem OH {f g:Fs} (h:A8 f.aa g.aa) (p:Str):atP f p=atP g p:=by
 unfold atP;rw[Ei h]
section
variable {f:Fs} {x:ao} {d:Str}
theorem bA {l:List ao} {x:ao} {k:Int}:ar k (bB x l)=if x.ino=k then some x else ar k l:=BU
theorem tH {l:List ao} {k k':Int}:ar k' (dI k l)=if k=k' then none else ar k' l:=qo
theorem dj {l:List ao} {x y:ao}:y∈bB x l↔y=x\/(y∈l/\y.ino≠x.ino):=zr
theorem bV {l:List ao} {x:ao} (h:ct l):ct (bB x l):=pn loI h
theorem gV {l:List ao} {x:ao} (h:ct l):(bB x l).length=if (ar x.ino l).isSome then l.length else l.length+1:=Ob loI h
def byt (x:ao):Int:=if x.kind=1 then (x.data.length:Int) else 0
theorem fb {l:List ao} {x:ao} (h:ct l):bytesOf (bB x l)+iP byt (ar x.ino l)=bytesOf l+byt x:=uP loI byt h
theorem lL {l:List ao} {x:ao} (h:ct l) (n:Int):fc n (bB x l)+iP (λy:ao=>ec n y.entries) (ar x.ino l)=fc n l+ec n x.entries:=uP loI _ h
theorem EZ {l:List ao} {k:Int} (h:ct l):bytesOf (dI k l)+iP byt (ar k l)=bytesOf l:=m9 loI byt h
theorem Lg {l:List ao} {k:Int} (h:ct l) (n:Int):fc n (dI k l)+iP (λy:ao=>ec n y.entries) (ar k l)=fc n l:=m9 loI _ h
theorem Kc {l:List ao} {k:Int} (h:ct l):(dI k l).length+(if (ar k l).isSome then 1 else 0)=l.length:=LC loI h
theorem En (hx:ar x.ino f.aa=some x) (hk:x.kind=1):A8 f.aa (f.set (x.cd d)).aa:=by
 intro k;show YP _ (ar k (bB (x.cd d) f.aa));rw[bA];by_cases e:(x.cd d).ino=k
 ·rw[if_pos e]
  have e:x.ino=k:=e;subst e;rw[hx];exact⟨rfl,rfl,rfl,rfl,λh=>by rw[hk] at h;cases h⟩
 ·rw[if_neg e]
  cases ar k f.aa with
  |none=>trivial
  |some y=>exact⟨rfl,rfl,rfl,rfl,λ_=>rfl⟩
theorem Reach.mono {l m:List ao} (h:∀k x,ar k l=some x->∃y,ar k m=some y/\∀e∈x.entries,∃e'∈y.entries,e'.ino=e.ino) {k:Int} (hr:Reach l k):Reach m k:=by
 induction hr with
 |root=>exact .root
 |step _ hf he ih=>
  obtain⟨y,hy,h2⟩:=h _ _ hf;obtain⟨e',he',hn⟩:=h2 _ he;rw[<-hn];exact .step ih hy he'
theorem Tree.Oa (h:Tree f) (hx:ar x.ino f.aa=some x) (hk:x.kind=1) (hfit:cy f 0 ((d.length:Int) - (x.data.length:Int))=true):Tree (f.set (x.cd d)):=by
 have hxm:=(aQ hx).1;have hfc:∀n,fc n (f.set (x.cd d)).aa=fc n f.aa:=λn=>by
  have:=lL (x:=x.cd d) h.sort n;rw[show(x.cd d).ino=x.ino from rfl,hx] at this;have e:(x.cd d).entries=x.entries:=rfl;simp only[iP,e] at this;show fc n (bB (x.cd d) f.aa)=_;omega
 have hmem:∀y∈(f.set (x.cd d)).aa,∃z∈f.aa,z.ino=y.ino/\z.kind=y.kind/\z.aH=y.aH/\z.parent=y.parent/\z.entries=y.entries/\(y.kind≠1->y=z):=λy hy=>by
  rcases dj.1 hy with rfl|⟨hy,_⟩
  ·exact⟨x,hxm,rfl,rfl,rfl,rfl,rfl,λhn=>absurd hk hn⟩
  ·exact⟨y,hy,rfl,rfl,rfl,rfl,rfl,λ_=>rfl⟩
 have hsim:=En (d:=d) hx hk;obtain⟨r,hr,hrk,hrp⟩:=h.root;refine⟨h.x_,h.xY,h.next,λy hy=> ?_,bV h.sort, ?_,λy hy=> ?_,λy hy e he=> ?_,λy hy=> ?_, ?_,λy hy hd=> ?_,λy hy hd z hz e he hn=> ?_,λy hy=> ?_, ?_⟩
 ·obtain⟨z,hz,e1,_⟩:=hmem y hy
  rw[<-e1];exact h.ino z hz
 ·obtain⟨y,hy,e1,e2,e3,_⟩:=hsim.some hr
  exact⟨y,hy,by rw[<-e2];exact hrk,by rw[<-e3];exact hrp⟩
 ·rcases dj.1 hy with rfl|⟨hy,_⟩
  ·have:=h.kind x hxm
   rw[Cm hk] at this;rw[Cm (show(x.cd d).kind=1 from hk)];exact this
  ·exact h.kind y hy
 ·obtain⟨z,hz,_,_,_,_,e5,_⟩:=hmem y hy
  obtain⟨u,hu⟩:=h.there z hz e (by rw[e5];exact he);obtain⟨v,hv,_⟩:=hsim.some hu;exact⟨v,hv⟩
 ·obtain⟨z,hz,e1,_,e3,_⟩:=hmem y hy
  rw[hfc,<-e1,<-e3];exact h.aH z hz
 ·rw[hfc];exact h.uy
 ·obtain⟨z,hz,e1,e2,_⟩:=hmem y hy
  rw[hfc,<-e1];exact h.JK z hz (by rw[e2];exact hd)
 ·obtain⟨z',hz',e1,e2,_,e4,_⟩:=hmem y hy
  obtain⟨w,hw,f1,_,_,_,f5,_⟩:=hmem z hz;rw[<-e4,<-f1];exact h.par z' hz' (by rw[e2];exact hd) w hw e (by rw[f5];exact he) (by rw[e1];exact hn)
 ·obtain⟨z,hz,e1,_⟩:=hmem y hy
  rw[<-e1];refine Reach.mono (λk u hu=> ?_) (h.led z hz);obtain⟨v,hv,_,_,_,e4,_⟩:=hsim.some hu;exact⟨v,hv,λe he=>⟨e,by rw[<-e4];exact he,rfl⟩⟩
 ·have hb:=fb (x:=x.cd d) h.sort
  have hl:=gV (x:=x.cd d) h.sort;rw[show(x.cd d).ino=x.ino from rfl,hx] at hb hl;have e1:byt x=x.data.length:=by unfold byt;rw[if_pos hk]
  have e2:byt (x.cd d)=d.length:=by unfold byt;rw[if_pos (show(x.cd d).kind=1 from hk)];rfl
  simp only[iP,e1,e2] at hb;simp only[Option.isSome_some,if_true] at hl;unfold cy at hfit⊢;simp only[Bool.and_eq_true,decide_eq_true_eq] at hfit⊢;show((bB (x.cd d) f.aa).length:Int)+0<=f.ay/\bytesOf (bB (x.cd d) f.aa)+0<=f.aB;omega
theorem set_set {a b:ao} (h:a.ino=b.ino) (hs:ct f.aa):(f.set a).set b=f.set b:=by
 unfold Fs.set;congr 1;refine fU loI (bV (bV hs)) (bV hs) λk=> ?_
 show ar k (bB b (bB a f.aa))=ar k (bB b f.aa);rw[bA,bA,bA];by_cases e:b.ino=k
 ·rw[if_pos e,if_pos e]
 ·rw[if_neg e,if_neg e,if_neg (by rw[h];exact e)]
theorem E7 (hs:ct f.aa) (hx:ar x.ino f.aa=some x):f.set x=f:=by
 cases f with
 |mk a b c l=>
  unfold Fs.set;congr 1;refine fU loI (bV hs) hs λk=> ?_
  show ar k (bB x l)=ar k l;rw[bA];by_cases e:x.ino=k
  ·rw[if_pos e,<-e];exact hx.symm
  ·rw[if_neg e]
end
theorem Tree.wf {f:Fs} (h:Tree f) (hs:SmF f):WF f:=((Ip f).2 h).wf hs
theorem Tree.check {f:Fs} (h:Tree f):qW f=0:=(yW f).2 ((Ip f).2 h)
structure Ev (f:Fs):Prop where
 tr:Tree f
 sm:SmF f
 wf:WF f
 ws:WS f
 lil:Lil f
 len:f.aa.length<=40
 few:∀x∈f.aa,x.data.length<=5000/\x.entries.length<=40/\∀e∈x.entries,e.name.length<=300
section
variable {f:Fs} {base p d:Str}
structure Wr (f:Fs) (x:ao) (d:Str) (g:Fs):Prop where
 tr:Tree g
 sm:SmF g
 ws:WS g
 lil:Lil g
 len:g.aa.length=f.aa.length
 sim:A8 f.aa g.aa
 find:∀k,ar k g.aa=if x.ino=k then some (x.cd d) else ar k f.aa
end
theorem sA {l:List Entry} {e:Entry} {n:Str}:cM n (fg e l)=if e.name=n then some e else cM n l:=BU
theorem jD {l:List Entry} {n n':Str}:cM n' (cH n l)=if n=n' then none else cM n' l:=qo
theorem zM {l:List Entry} {e e':Entry}:e'∈fg e l↔e'=e\/(e'∈l/\e'.name≠e.name):=zr
theorem wD {l:List Entry} {n:Str} {e:Entry}:e∈cH n l↔e∈l/\e.name≠n:=gm
theorem KG {l:List Entry} {e:Entry} (hs:gU l) (h:e∈l):cM e.name l=some e:=m5 loS hs h
theorem iC {l:List Entry} {n:Str} {e:Entry} (h:cM n l=some e):e∈l/\e.name=n:=bX h
theorem MH {l:List Entry} {e:Entry} (h:gU l) (n:Int):ec n (fg e l)+iP (one n) (cM e.name l)=ec n l+one n e:=uP loS (one n) h
theorem IF {l:List Entry} {m:Str} (h:gU l) (n:Int):ec n (cH m l)+iP (one n) (cM m l)=ec n l:=m9 loS (one n) h
theorem vM {l:List Entry} {e:Entry} (h:gG l=true) (h1:eP e.name=true) (h2:1<=e.ino):gG (fg e l)=true:=by
 rw[iK] at h⊢;refine⟨pn loS h.1,λx hx=> ?_⟩;rcases zM.1 hx with rfl|⟨hx,_⟩
 ·exact⟨h1,h2⟩
 ·exact h.2 x hx
theorem pI {l:List Entry} {n:Str} (h:gG l=true):gG (cH n l)=true:=by
 rw[iK] at h⊢;exact⟨eJ h.1,λx hx=>h.2 x (wD.1 hx).1⟩
theorem JC {l:List Entry} (h:gG l=true) {n:Str} (h0:cm n l=0):cM n l=none:=by
 unfold cm at h0;cases hf:cM n l with
 |none=>rfl
 |some e=>
  rw[hf] at h0;have:=(((iK _).1 h).2 e (iC hf).1).2;simp only at h0;omega
theorem BM {l:List Entry} {n:Str} {e:Entry} (h:cM n l=some e):cm n l=e.ino:=by unfold cm;rw[h]
theorem sx {l:List Entry} {n:Str} (h:cm n l≠0):∃e,cM n l=some e/\e∈l/\e.name=n/\e.ino=cm n l:=by
 unfold cm at h;cases hf:cM n l with
 |none=>rw[hf] at h;exact absurd rfl h
 |some e=>exact⟨e,rfl,(iC hf).1,(iC hf).2,(BM hf).symm⟩
def ao.cL (x:ao) (n:Int):ao:=⟨x.ino,x.kind,n,x.data,x.parent,x.entries⟩
def ao.gB (x:ao) (n:Int):ao:=⟨x.ino,x.kind,x.aH,x.data,n,x.entries⟩
def ao.bO (d:ao) (nm:Str) (n:Int):ao:=d.xz (fg ⟨nm,n⟩ d.entries)
def ao.b6 (d:ao) (nm:Str):ao:=d.xz (cH nm d.entries)
theorem yu {g:Fs} (x_:1<=g.ay/\g.ay<=1073741824) (xY:0<=g.aB/\g.aB<=1073741824) (next:g.next<=1099511627776) (sort:ct g.aa)
 (ino:∀k x,ar k g.aa=some x->1<=k/\k<g.next) (root:∃r,ar 1 g.aa=some r/\r.kind=2/\r.parent=1) (kind:∀k x,ar k g.aa=some x->ft x=true)
 (there:∀k x,ar k g.aa=some x->∀e∈x.entries,∃y,ar e.ino g.aa=some y) (aH:∀k x,ar k g.aa=some x->x.aH=fc k g.aa) (uy:fc 1 g.aa=0)
 (JK:∀k x,ar k g.aa=some x->x.kind=2->fc k g.aa<=1) (par:∀k x,ar k g.aa=some x->x.kind=2->∀j d,ar j g.aa=some d->∀e∈d.entries,e.ino=k->x.parent=j)
 (led:∀k x,ar k g.aa=some x->Reach g.aa k) (fits:cy g 0 0=true):Tree g:=
 ⟨x_,xY,next,λx hx=>ino _ x (dA sort hx),sort,root,λx hx=>kind _ x (dA sort hx),λx hx=>there _ x (dA sort hx),λx hx=>aH _ x (dA sort hx),uy,
  λx hx=>JK _ x (dA sort hx),λx hx hk d hd e he hn=>par _ x (dA sort hx) hk _ d (dA sort hd) e he hn,λx hx=>led _ x (dA sort hx),fits⟩
section
variable {f:Fs}
theorem Tree.eN (h:Tree f) {k:Int} {x:ao} (hx:ar k f.aa=some x):ft x=true/\x.aH=fc k f.aa/\1<=k/\k<f.next/\gU x.entries/\gG x.entries=true:=by
 obtain⟨h1,h2⟩:=aQ hx;have hk:=h.kind x h1;have hi:=h.ino x h1;subst h2;have hr:=tu hk;exact⟨hk,h.aH x h1,hi.1,hi.2,((iK _).1 hr).1,hr⟩
theorem Tree.to (h:Tree f) {k:Int} {x:ao} (hx:ar k f.aa=some x) {e:Entry} (he:e∈x.entries):∃y,ar e.ino f.aa=some y:=h.there x (aQ hx).1 e he
theorem Tree.fc0 (h:Tree f) {k:Int} (hk:ar k f.aa=none):fc k f.aa=0:=by
 have h0:=Mh k f.aa;by_cases hp:0<fc k f.aa
 ·obtain⟨x,hx,e,he,hn⟩:=L8 hp
  obtain⟨y,hy⟩:=h.there x hx e he;rw[hn,hk] at hy;cases hy
 ·omega
theorem Tree.parent (h:Tree f) {k j:Int} {x d:ao} {e:Entry} (hx:ar k f.aa=some x) (hk:x.kind=2) (hd:ar j f.aa=some d) (he:e∈d.entries) (hn:e.ino=k):x.parent=j:=by
 obtain⟨x1,x2⟩:=aQ hx;obtain⟨d1,d2⟩:=aQ hd;rw[h.par x x1 hk d d1 e he (by rw[hn,x2]),d2]
theorem Tree.uN (h:Tree f) {k:Int} {x:ao} (hx:ar k f.aa=some x) (hk:x.kind=2):fc k f.aa<=1:=by
 obtain⟨x1,x2⟩:=aQ hx;rw[<-x2];exact h.JK x x1 hk
theorem Tree.uM (h:Tree f) {k:Int} {x:ao} (hx:ar k f.aa=some x):Reach f.aa k:=by
 obtain⟨x1,x2⟩:=aQ hx;rw[<-x2];exact h.led x x1
theorem oS {x:ao} (h:ft x=true) (hk:x.kind=2) {l:List Entry} (hr:gG l=true):ft (x.xz l)=true:=by
 rw[vg hk,Bool.and_eq_true] at h;rw[vg (show(x.xz l).kind=2 from hk),Bool.and_eq_true];exact⟨h.1,hr⟩
theorem AG {x:ao} (h:ft x=true) {n:Int}:ft (x.cL n)=true:=h
end
structure je (f:Fs) (d:ao) (nm:Str):Prop where
 hd:ar d.ino f.aa=some d
 hk:d.kind=2
 hm:eP nm=true
 h0:cM nm d.entries=none
section
variable {f:Fs} {d x:ao} {nm:Str}
theorem je.dD (h:je f d nm) {n:Int} {e:Entry}:e∈(d.bO nm n).entries↔e=⟨nm,n⟩\/e∈d.entries:=by
 show e∈fg ⟨nm,n⟩ d.entries↔_;rw[zM];refine⟨λh'=>h'.imp id And.left,λh'=>h'.imp id λhe=>⟨he,λhn=> ?_⟩⟩;have hn:e.name=nm:=hn;have:=h.h0;have hf:cM nm d.entries≠none:=by
  intro hh;have:∀y∈d.entries,y.name≠nm:=λy hy hyn=>by
   unfold cM bT at hh;rw[List.find?_eq_none] at hh;exact hh y hy (by simpa using hyn)
  exact this e he hn
 exact hf this
theorem je.ec (h:je f d nm) (ht:Tree f) (n m:Int):Go.Eng.ec m (d.bO nm n).entries=Go.Eng.ec m d.entries+if n=m then 1 else 0:=by
 have:=MH (e:=⟨nm,n⟩) (ht.eN h.hd).2.2.2.2.1 m;rw[show(⟨nm,n⟩:Entry).name=nm from rfl,h.h0] at this;simp only[iP,one] at this;show Go.Eng.ec m (fg ⟨nm,n⟩ d.entries)=_;omega
theorem pG {n:Int} (k:Int):ar k (bB x (bB (d.bO nm n) f.aa))=if x.ino=k then some x else if d.ino=k then some (d.bO nm n) else ar k f.aa:=by
 rw[bA,bA];rfl
theorem sf (h:d.kind=2):byt d=0:=by unfold byt;rw[if_neg (by omega)]
theorem ry (h:Tree f) (hf:je f d nm) (hx:ar x.ino f.aa=none):
 (bB x (bB (d.bO nm x.ino) f.aa)).length=f.aa.length+1/\bytesOf (bB x (bB (d.bO nm x.ino) f.aa))=bytesOf f.aa+byt x/\
  (x.entries= [] ->∀n,fc n (bB x (bB (d.bO nm x.ino) f.aa))=fc n f.aa+if x.ino=n then 1 else 0):=by
 have hxd:d.ino≠x.ino:=λe=>by rw[<-e,hf.hd] at hx;cases hx
 have hs:=h.sort;have hs1:=bV (x:=d.bO nm x.ino) hs;have h1:ar x.ino (bB (d.bO nm x.ino) f.aa)=none:=by rw[bA,if_neg (show¬(d.bO nm x.ino).ino=x.ino from hxd)];exact hx
 have h2:ar (d.bO nm x.ino).ino f.aa=some d:=hf.hd;refine⟨?_, ?_,λhe n=> ?_⟩
 ·rw[gV hs1,h1,gV hs,h2];rfl
 ·have a:=fb (x:=x) hs1
  have b:=fb (x:=d.bO nm x.ino) hs;rw[h1] at a;rw[h2] at b;simp only[iP] at a b;rw[sf hf.hk,sf (show(d.bO nm x.ino).kind=2 from hf.hk)] at b;omega
 ·have a:=lL (x:=x) hs1 n
  have b:=lL (x:=d.bO nm x.ino) hs n;rw[h1,he] at a;rw[h2] at b;simp only[iP] at a b;have c:=hf.ec h x.ino n;have c0:Go.Eng.ec n ([] :List Entry)=0:=rfl;omega
theorem IU (h:Tree f) (hf:je f d nm) (hx:ar x.ino f.aa=none) {nx:Int} (h1:1<=x.ino) (h2:x.ino<nx) (h3:f.next<=nx) (h4:nx<=1099511627776) (hk:ft x=true) (hl:x.aH=1) (he:x.entries= []) (hp:x.kind=2->x.parent=d.ino)
 (hfit:cy f 1 (byt x)=true):Tree ⟨f.ay,f.aB,nx,bB x (bB (d.bO nm x.ino) f.aa)⟩:=by
 have hfind:=pG (f:=f) (d:=d) (x:=x) (nm:=nm) (n:=x.ino);obtain⟨s1,s2,s3⟩:=ry h hf hx;have s3:=s3 he;have hxd:d.ino≠x.ino:=λe=>by rw[<-e,hf.hd] at hx;cases hx
 have hfx:=h.fc0 hx;have hdk:=h.eN hf.hd;generalize hL:bB x (bB (d.bO nm x.ino) f.aa)=L at hfind s1 s2 s3;have hs:ct L:=by rw[<-hL];exact bV (bV h.sort)
 have cs:∀k y,ar k L=some y->(k=x.ino/\y=x)\/(k=d.ino/\y=d.bO nm x.ino)\/(k≠x.ino/\k≠d.ino/\ar k f.aa=some y):=λk y hy=>by
  rw[hfind] at hy;by_cases e1:x.ino=k
  ·rw[if_pos e1] at hy;cases hy;exact Or.inl ⟨e1.symm,rfl⟩
  ·rw[if_neg e1] at hy
   by_cases e2:d.ino=k
   ·rw[if_pos e2] at hy;cases hy;exact Or.inr (Or.inl ⟨e2.symm,rfl⟩)
   ·rw[if_neg e2] at hy;exact Or.inr (Or.inr ⟨λe=>e1 e.symm,λe=>e2 e.symm,hy⟩)
 have on:∀k,(∃y,ar k f.aa=some y)->∃y,ar k L=some y:=λk ⟨y,hy⟩=>by
  rw[hfind];by_cases e1:x.ino=k
  ·rw[if_pos e1];exact⟨_,rfl⟩
  ·rw[if_neg e1]
   by_cases e2:d.ino=k
   ·rw[if_pos e2];exact⟨_,rfl⟩
   ·rw[if_neg e2];exact⟨y,hy⟩
 have hreach:∀k,Reach f.aa k->Reach L k:=λk hr=>by
  refine Reach.mono (λk z hz=> ?_) hr;rw[hfind];by_cases e1:x.ino=k
  ·rw[<-e1,hx] at hz;cases hz
  ·rw[if_neg e1]
   by_cases e2:d.ino=k
   ·rw[if_pos e2]
    rw[<-e2,hf.hd] at hz;cases hz;exact⟨_,rfl,λe he=>⟨e,hf.dD.2 (Or.inr he),rfl⟩⟩
   ·rw[if_neg e2];exact⟨z,hz,λe he=>⟨e,he,rfl⟩⟩
 obtain⟨r,hr,hrk,hrp⟩:=h.root;have hx1:x.ino≠1:=λe=>by rw[e,hr] at hx;cases hx
 refine yu h.x_ h.xY h4 hs (λk y hy=> ?_) ?_ (λk y hy=> ?_) (λk y hy e he'=> ?_) (λk y hy=> ?_) ?_ (λk y hy hd=> ?_) (λk y hy hd j z hz e he' hn=> ?_) (λk y hy=> ?_) ?_
 ·rcases cs k y hy with⟨rfl,rfl⟩ |⟨rfl,rfl⟩ |⟨_,_,hy⟩
  ·exact⟨h1,h2⟩
  ·exact⟨hdk.2.2.1,by have:=hdk.2.2.2.1;show d.ino<nx;omega⟩
  ·have:=h.eN hy
   exact⟨this.2.2.1,by have:=this.2.2.2.1;show k<nx;omega⟩
 ·show∃r,ar 1 L=some r/\_
  rw[hfind,if_neg hx1];by_cases e2:d.ino=1
  ·rw[if_pos e2]
   have hd1:=hf.hd;rw[e2,hr] at hd1;cases hd1;exact⟨_,rfl,hrk,hrp⟩
  ·rw[if_neg e2];exact⟨r,hr,hrk,hrp⟩
 ·rcases cs k y hy with⟨_,rfl⟩ |⟨_,rfl⟩ |⟨_,_,hy⟩
  ·exact hk
  ·exact oS hdk.1 hf.hk (vM hdk.2.2.2.2.2 hf.hm h1)
  ·exact(h.eN hy).1
 ·refine(?_ :∃y,ar e.ino L=some y)
  rcases cs k y hy with⟨_,rfl⟩ |⟨_,rfl⟩ |⟨_,_,hy⟩
  ·rw[he] at he';cases he'
  ·rcases hf.dD.1 he' with rfl|he'
   ·show∃y,ar x.ino L=some y
    rw[hfind,if_pos rfl];exact⟨_,rfl⟩
   ·exact on _ (h.to hf.hd he')
  ·exact on _ (h.to hy he')
 ·show y.aH=fc k L
  rw[s3];rcases cs k y hy with⟨rfl,rfl⟩ |⟨rfl,rfl⟩ |⟨e1,_,hy⟩
  ·rw[if_pos rfl,hfx,hl];rfl
  ·rw[if_neg (λe=>hxd e.symm)]
   have:=hdk.2.1;show d.aH=_;omega
  ·rw[if_neg (λe=>e1 e.symm)]
   have:=(h.eN hy).2.1;omega
 ·show fc 1 L=0
  rw[s3,if_neg hx1,h.uy];rfl
 ·show fc k L<=1
  rw[s3];rcases cs k y hy with⟨rfl,rfl⟩ |⟨rfl,rfl⟩ |⟨e1,_,hy⟩
  ·rw[if_pos rfl,hfx];decide
  ·rw[if_neg (λe=>hxd e.symm)]
   have:=h.uN hf.hd hf.hk;omega
  ·rw[if_neg (λe=>e1 e.symm)]
   have:=h.uN hy hd;omega
 ·have hz':ar j L=some z:=hz
  have hz0:(∃d0,ar j f.aa=some d0/\e∈d0.entries)\/(j=d.ino/\e=⟨nm,x.ino⟩):=by
   rcases cs j z hz' with⟨_,rfl⟩ |⟨rfl,rfl⟩ |⟨_,_,hz⟩
   ·rw[he] at he';cases he'
   ·rcases hf.dD.1 he' with rfl|he'
    ·exact Or.inr ⟨rfl,rfl⟩
    ·exact Or.inl ⟨d,hf.hd,he'⟩
   ·exact Or.inl ⟨z,hz,he'⟩
  rcases cs k y hy with⟨rfl,rfl⟩ |⟨rfl,rfl⟩ |⟨e1,_,hy⟩
  ·rcases hz0 with⟨d0,q1,q2⟩ |⟨rfl,rfl⟩
   ·obtain⟨y',hy'⟩:=h.to q1 q2
    rw[hn,hx] at hy';cases hy'
   ·exact hp hd
  ·rcases hz0 with⟨d0,q1,q2⟩ |⟨rfl,rfl⟩
   ·show d.parent=j
    exact h.parent hf.hd hf.hk q1 q2 hn
   ·exact absurd hn.symm hxd
  ·rcases hz0 with⟨d0,q1,q2⟩ |⟨rfl,rfl⟩
   ·exact h.parent hy hd q1 q2 hn
   ·exact absurd hn.symm e1
 ·show Reach L k
  rcases cs k y hy with⟨rfl,_⟩ |⟨rfl,_⟩ |⟨_,_,hy⟩
  ·have hd':ar d.ino L=some (d.bO nm x.ino):=by rw[hfind,if_neg (λe=>hxd e.symm),if_pos rfl]
   exact Reach.step (e:=⟨nm,x.ino⟩) (hreach _ (h.uM hf.hd)) hd' (hf.dD.2 (Or.inl rfl))
  ·exact hreach _ (h.uM hf.hd)
  ·exact hreach _ (h.uM hy)
 ·have hff:=h.fits
  unfold cy at hfit hff⊢;simp only[Bool.and_eq_true,decide_eq_true_eq] at hfit hff⊢;show(L.length:Int)+0<=f.ay/\bytesOf L+0<=f.aB;omega
end
section
variable {f:Fs} {d x:ao} {nm:Str} {e:Entry}
def ig (f:Fs) (d:ao) (nm:Str) (x:ao):Fs:=(f.set (d.bO nm x.ino)).set (x.cL (x.aH+1))
theorem pf (hxd:x.ino≠d.ino) (k:Int):ar k (ig f d nm x).aa=if x.ino=k then some (x.cL (x.aH+1)) else if d.ino=k then some (d.bO nm x.ino) else ar k f.aa:=by
 show ar k (bB _ (bB _ f.aa))=_;rw[bA,bA];rfl
theorem Tree.CS (h:Tree f) {k:Int} (hx:ar k f.aa=some x) (hk:x.kind≠2):x.entries= [] :=by
 cases he:x.entries with
 |nil=>rfl
 |cons e l=>exact absurd (h.dD hx (e:=e) (by rw[he];simp)) hk
theorem Cb {n:Int}:byt (x.cL n)=byt x:=rfl
theorem L_ (h:Tree f) (hf:je f d nm) (hx:ar x.ino f.aa=some x) (hxd:x.ino≠d.ino):
 (ig f d nm x).aa.length=f.aa.length/\bytesOf (ig f d nm x).aa=bytesOf f.aa/\∀n,fc n (ig f d nm x).aa=fc n f.aa+if x.ino=n then 1 else 0:=by
 have hs:=h.sort;have hs1:=bV (x:=d.bO nm x.ino) hs;have h1:ar (x.cL (x.aH+1)).ino (bB (d.bO nm x.ino) f.aa)=some x:=by rw[bA,if_neg (show¬(d.bO nm x.ino).ino=(x.cL (x.aH+1)).ino from λe=>hxd e.symm)];exact hx
 have h2:ar (d.bO nm x.ino).ino f.aa=some d:=hf.hd;refine⟨?_, ?_,λn=> ?_⟩
 ·show(bB _ (bB _ f.aa)).length=_
  rw[gV hs1,h1,gV hs,h2];rfl
 ·show bytesOf (bB _ (bB _ f.aa))=_
  have a:=fb (x:=x.cL (x.aH+1)) hs1;have b:=fb (x:=d.bO nm x.ino) hs;rw[h1] at a;rw[h2] at b;simp only[iP] at a b;rw[sf hf.hk,sf (show(d.bO nm x.ino).kind=2 from hf.hk)] at b;rw[Cb] at a;omega
 ·show fc n (bB _ (bB _ f.aa))=_
  have a:=lL (x:=x.cL (x.aH+1)) hs1 n;have b:=lL (x:=d.bO nm x.ino) hs n;rw[h1] at a;rw[h2] at b;simp only[iP] at a b;have c:=hf.ec h x.ino n;have c0:(x.cL (x.aH+1)).entries=x.entries:=rfl;rw[c0] at a;omega
theorem Dq (h:Tree f) (hf:je f d nm) (hx:ar x.ino f.aa=some x) (hk:x.kind≠2):Tree (ig f d nm x):=by
 have hxd:x.ino≠d.ino:=λe=>by rw[e,hf.hd] at hx;cases hx;exact hk hf.hk
 have hfind:=pf (f:=f) (d:=d) (x:=x) (nm:=nm) hxd;obtain⟨s1,s2,s3⟩:=L_ h hf hx hxd;have hdk:=h.eN hf.hd;have hxk:=h.eN hx;have hs:ct (ig f d nm x).aa:=bV (bV h.sort);have hmx:(ig f d nm x).ay=f.ay/\(ig f d nm x).aB=f.aB/\(ig f d nm x).next=f.next:=⟨rfl,rfl,rfl⟩;generalize ig f d nm x=g at hfind s1 s2 s3 hs hmx;obtain⟨m1,m2,m3⟩:=hmx;have cs:∀k y,ar k g.aa=some y->(k=x.ino/\y=x.cL (x.aH+1))\/(k=d.ino/\y=d.bO nm x.ino)\/(k≠x.ino/\k≠d.ino/\ar k f.aa=some y):=λk y hy=>by
  rw[hfind] at hy;by_cases e1:x.ino=k
  ·rw[if_pos e1] at hy;cases hy;exact Or.inl ⟨e1.symm,rfl⟩
  ·rw[if_neg e1] at hy
   by_cases e2:d.ino=k
   ·rw[if_pos e2] at hy;cases hy;exact Or.inr (Or.inl ⟨e2.symm,rfl⟩)
   ·rw[if_neg e2] at hy;exact Or.inr (Or.inr ⟨λe=>e1 e.symm,λe=>e2 e.symm,hy⟩)
 have on:∀k z,ar k f.aa=some z->∃y,ar k g.aa=some y/\y.kind=z.kind/\y.parent=z.parent/\∀e∈z.entries,e∈y.entries:=λk z hz=>by
  rw[hfind];by_cases e1:x.ino=k
  ·rw[if_pos e1]
   rw[<-e1,hx] at hz;cases hz;exact⟨_,rfl,rfl,rfl,λe he=>he⟩
  ·rw[if_neg e1]
   by_cases e2:d.ino=k
   ·rw[if_pos e2]
    rw[<-e2,hf.hd] at hz;cases hz;exact⟨_,rfl,rfl,rfl,λe he=>hf.dD.2 (Or.inr he)⟩
   ·rw[if_neg e2];exact⟨z,hz,rfl,rfl,λe he=>he⟩
 have hreach:∀k,Reach f.aa k->Reach g.aa k:=λk hr=>by
  refine Reach.mono (λk z hz=> ?_) hr;obtain⟨y,hy,_,_,h4⟩:=on k z hz;exact⟨y,hy,λe he=>⟨e,h4 e he,rfl⟩⟩
 have ed:∀j z e,ar j g.aa=some z->e∈z.entries->(∃d0,ar j f.aa=some d0/\e∈d0.entries)\/(j=d.ino/\e=⟨nm,x.ino⟩):=λj z e hz he=>by
  rcases cs j z hz with⟨rfl,rfl⟩ |⟨rfl,rfl⟩ |⟨_,_,hz⟩
  ·exact Or.inl ⟨x,hx,he⟩
  ·rcases hf.dD.1 he with rfl|he
   ·exact Or.inr ⟨rfl,rfl⟩
   ·exact Or.inl ⟨d,hf.hd,he⟩
  ·exact Or.inl ⟨z,hz,he⟩
 obtain⟨r,hr,hrk,hrp⟩:=h.root;have hx1:x.ino≠1:=λe=>by rw[e,hr] at hx;cases hx;exact hk hrk
 refine yu (by rw[m1];exact h.x_) (by rw[m2];exact h.xY) (by rw[m3];exact h.next) hs (λk y hy=> ?_) ?_ (λk y hy=> ?_) (λk y hy e he'=> ?_) (λk y hy=> ?_) ?_ (λk y hy hd=> ?_) (λk y hy hd j z hz e he' hn=> ?_) (λk y hy=> ?_) ?_
 ·rw[m3]
  rcases cs k y hy with⟨rfl,_⟩ |⟨rfl,_⟩ |⟨_,_,hy⟩
  ·exact⟨hxk.2.2.1,hxk.2.2.2.1⟩
  ·exact⟨hdk.2.2.1,hdk.2.2.2.1⟩
  ·have:=h.eN hy
   exact⟨this.2.2.1,this.2.2.2.1⟩
 ·obtain⟨y,hy,h2,h3,_⟩:=on 1 r hr
  exact⟨y,hy,by rw[h2];exact hrk,by rw[h3];exact hrp⟩
 ·rcases cs k y hy with⟨_,rfl⟩ |⟨_,rfl⟩ |⟨_,_,hy⟩
  ·exact AG hxk.1
  ·exact oS hdk.1 hf.hk (vM hdk.2.2.2.2.2 hf.hm hxk.2.2.1)
  ·exact(h.eN hy).1
 ·rcases ed k y e hy he' with⟨d0,q1,q2⟩ |⟨_,rfl⟩
  ·obtain⟨z,hz⟩:=h.to q1 q2
   obtain⟨y',hy',_⟩:=on _ z hz;exact⟨y',hy'⟩
  ·obtain⟨y',hy',_⟩:=on _ x hx
   exact⟨y',hy'⟩
 ·rw[s3]
  rcases cs k y hy with⟨rfl,rfl⟩ |⟨rfl,rfl⟩ |⟨e1,_,hy⟩
  ·rw[if_pos rfl]
   have:=hxk.2.1;show x.aH+1=_;omega
  ·rw[if_neg hxd]
   have:=hdk.2.1;show d.aH=_;omega
  ·rw[if_neg (λe=>e1 e.symm)]
   have:=(h.eN hy).2.1;omega
 ·rw[s3,if_neg hx1,h.uy];rfl
 ·rw[s3]
  rcases cs k y hy with⟨rfl,rfl⟩ |⟨rfl,rfl⟩ |⟨e1,_,hy⟩
  ·exact absurd hd hk
  ·rw[if_neg hxd]
   have:=h.uN hf.hd hf.hk;omega
  ·rw[if_neg (λe=>e1 e.symm)]
   have:=h.uN hy hd;omega
 ·rcases ed j z e hz he' with⟨d0,q1,q2⟩ |⟨rfl,rfl⟩
  ·rcases cs k y hy with⟨rfl,rfl⟩ |⟨rfl,rfl⟩ |⟨e1,_,hy⟩
   ·exact absurd hd hk
   ·show d.parent=j
    exact h.parent hf.hd hf.hk q1 q2 hn
   ·exact h.parent hy hd q1 q2 hn
  ·rcases cs k y hy with⟨rfl,rfl⟩ |⟨rfl,rfl⟩ |⟨e1,_,hy⟩
   ·exact absurd hd hk
   ·exact absurd hn hxd
   ·exact absurd hn.symm e1
 ·rcases cs k y hy with⟨rfl,_⟩ |⟨rfl,_⟩ |⟨_,_,hy⟩
  ·exact hreach _ (h.uM hx)
  ·exact hreach _ (h.uM hf.hd)
  ·exact hreach _ (h.uM hy)
 ·have hff:=h.fits
  unfold cy at hff⊢;simp only[Bool.and_eq_true,decide_eq_true_eq] at hff⊢;rw[s1,s2,m1,m2];exact hff
structure Ent (f:Fs) (d:ao) (nm:Str) (x:ao) (e:Entry):Prop where
 hd:ar d.ino f.aa=some d
 he:cM nm d.entries=some e
 hn:e.ino=x.ino
 hx:ar x.ino f.aa=some x
def dE (f:Fs) (d:ao) (nm:Str) (x:ao):Fs:=if x.aH=1 then (f.set (d.b6 nm)).drop x.ino else (f.set (d.b6 nm)).set (x.cL (x.aH - 1))
theorem Ent.mem (h:Ent f d nm x e):e∈d.entries/\e.name=nm:=iC h.he
theorem Ent.kind (h:Ent f d nm x e) (ht:Tree f):d.kind=2:=ht.dD h.hd h.mem.1
theorem Ent.way (h:Ent f d nm x e):Way f.aa d.ino x.ino 1:=h.hn▸ .step .here h.hd h.mem.1
theorem Ent.ne (h:Ent f d nm x e) (ht:Tree f):x.ino≠d.ino:=λe1=>by
 obtain⟨n,hw⟩:=(ht.uM h.hd).way;exact ht.Dv hw h.hd h.mem.1 (n:=0) (by rw[h.hn,e1];exact .here)
theorem Ent.dD (h:Ent f d nm x e) (ht:Tree f) {e':Entry}:e'∈(d.b6 nm).entries↔e'∈d.entries/\e'≠e:=by
 show e'∈cH nm d.entries↔_;rw[wD];refine⟨λ⟨a,b⟩=>⟨a,λc=>b (by rw[c];exact h.mem.2)⟩,λ⟨a,b⟩=>⟨a,λc=>b ?_⟩⟩;have h1:=KG (ht.eN h.hd).2.2.2.2.1 a;rw[c,h.he] at h1;exact(Option.some.inj h1).symm
theorem cZ (hxd:x.ino≠d.ino) (k:Int):ar k (dE f d nm x).aa=if x.ino=k then (if x.aH=1 then none else some (x.cL (x.aH - 1))) else if d.ino=k then some (d.b6 nm) else ar k f.aa:=by
 unfold dE;by_cases hl:x.aH=1
 ·rw[if_pos hl,if_pos hl]
  show ar k (dI x.ino (bB _ f.aa))=_;rw[tH,bA];rfl
 ·rw[if_neg hl,if_neg hl]
  show ar k (bB _ (bB _ f.aa))=_;rw[bA,bA];rfl
theorem yK (h:Tree f) (hf:Ent f d nm x e) (hx0:x.entries= []):
 ((dE f d nm x).aa.length:Int)=f.aa.length - (if x.aH=1 then 1 else 0)/\bytesOf (dE f d nm x).aa=bytesOf f.aa - (if x.aH=1 then byt x else 0)/\∀n,fc n (dE f d nm x).aa=fc n f.aa - if x.ino=n then 1 else 0:=by
 have hxd:=hf.ne h;have hs:=h.sort;have hs1:=bV (x:=d.b6 nm) hs;have h1:ar x.ino (bB (d.b6 nm) f.aa)=some x:=by rw[bA,if_neg (show¬(d.b6 nm).ino=x.ino from λe=>hxd e.symm)];exact hf.hx
 have h2:ar (d.b6 nm).ino f.aa=some d:=hf.hd;have a1:(bB (d.b6 nm) f.aa).length=f.aa.length:=by rw[gV hs,h2];rfl
 have b:=fb (x:=d.b6 nm) hs;rw[h2] at b;simp only[iP] at b;rw[sf (hf.kind h),sf (show(d.b6 nm).kind=2 from hf.kind h)] at b;have c:∀n,fc n (bB (d.b6 nm) f.aa)=fc n f.aa - if x.ino=n then 1 else 0:=λn=>by
  have c:=lL (x:=d.b6 nm) hs n;rw[h2] at c;simp only[iP] at c;have:=IF (m:=nm) (h.eN hf.hd).2.2.2.2.1 n;rw[hf.he] at this;simp only[iP,one,hf.hn] at this;have c1:(d.b6 nm).entries=cH nm d.entries:=rfl;rw[c1] at c;omega
 unfold dE;by_cases hl:x.aH=1
 ·simp only[if_pos hl]
  refine⟨?_, ?_,λn=> ?_⟩
  ·show((dI x.ino (bB _ f.aa)).length:Int)=_
   have:=Kc (k:=x.ino) hs1;rw[h1] at this;simp only[Option.isSome_some,if_true] at this;omega
  ·show bytesOf (dI x.ino (bB _ f.aa))=_
   have:=EZ (k:=x.ino) hs1;rw[h1] at this;simp only[iP] at this;omega
  ·show fc n (dI x.ino (bB _ f.aa))=_
   have:=Lg (k:=x.ino) hs1 n;rw[h1,<-c n] at*;simp only[iP,hx0] at this;have c0:ec n ([] :List Entry)=0:=rfl;omega
 ·simp only[if_neg hl]
  have h1':ar (x.cL (x.aH - 1)).ino (bB (d.b6 nm) f.aa)=some x:=h1;refine⟨?_, ?_,λn=> ?_⟩
  ·show((bB _ (bB _ f.aa)).length:Int)=_
   rw[gV hs1,h1'];simp only[Option.isSome_some,if_true];omega
  ·show bytesOf (bB _ (bB _ f.aa))=_
   have:=fb (x:=x.cL (x.aH - 1)) hs1;rw[h1'] at this;simp only[iP,Cb] at this;omega
  ·show fc n (bB _ (bB _ f.aa))=_
   have:=lL (x:=x.cL (x.aH - 1)) hs1 n;rw[h1'] at this;have c0:(x.cL (x.aH - 1)).entries=x.entries:=rfl;simp only[iP,c0] at this;rw[<-c n];omega
theorem ID (h:Tree f) (hf:Ent f d nm x e) (hx0:x.entries= []):Tree (dE f d nm x):=by
 have hxd:=hf.ne h;have hfind:=cZ (f:=f) (d:=d) (x:=x) (nm:=nm) hxd;obtain⟨s1,s2,s3⟩:=yK h hf hx0;have hdk:=h.eN hf.hd;have hxk:=h.eN hf.hx;have hk2:=hf.kind h;have hs:ct (dE f d nm x).aa:=by
  unfold dE;split
  ·exact eJ (bV h.sort)
  ·exact bV (bV h.sort)
 have hmx:(dE f d nm x).ay=f.ay/\(dE f d nm x).aB=f.aB/\(dE f d nm x).next=f.next:=by unfold dE;split<;>exact⟨rfl,rfl,rfl⟩
 generalize dE f d nm x=g at hfind s1 s2 s3 hs hmx;obtain⟨m1,m2,m3⟩:=hmx;have cs:∀k y,ar k g.aa=some y->(k=x.ino/\x.aH≠1/\y=x.cL (x.aH - 1))\/(k=d.ino/\y=d.b6 nm)\/(k≠x.ino/\k≠d.ino/\ar k f.aa=some y):=λk y hy=>by
  rw[hfind] at hy;by_cases e1:x.ino=k
  ·rw[if_pos e1] at hy
   by_cases hl:x.aH=1
   ·rw[if_pos hl] at hy;cases hy
   ·rw[if_neg hl] at hy;cases hy;exact Or.inl ⟨e1.symm,hl,rfl⟩
  ·rw[if_neg e1] at hy
   by_cases e2:d.ino=k
   ·rw[if_pos e2] at hy;cases hy;exact Or.inr (Or.inl ⟨e2.symm,rfl⟩)
   ·rw[if_neg e2] at hy;exact Or.inr (Or.inr ⟨λe=>e1 e.symm,λe=>e2 e.symm,hy⟩)
 have on:∀k z,ar k f.aa=some z->(k=x.ino->x.aH≠1)->∃y,ar k g.aa=some y/\y.kind=z.kind/\y.parent=z.parent/\∀e'∈z.entries,(k=d.ino->e'≠e)->e'∈y.entries:=λk z hz hl=>by
  rw[hfind];by_cases e1:x.ino=k
  ·rw[if_pos e1,if_neg (hl e1.symm)]
   have hz':=hz;rw[<-e1,hf.hx] at hz';cases hz';exact⟨_,rfl,rfl,rfl,λe he _=>he⟩
  ·rw[if_neg e1]
   by_cases e2:d.ino=k
   ·rw[if_pos e2]
    have hz':=hz;rw[<-e2,hf.hd] at hz';cases hz';exact⟨_,rfl,rfl,rfl,λe' he hne=>(hf.dD h).2 ⟨he,hne e2.symm⟩⟩
   ·rw[if_neg e2];exact⟨z,hz,rfl,rfl,λe he _=>he⟩
 have ed:∀j z e',ar j g.aa=some z->e'∈z.entries->∃d0,ar j f.aa=some d0/\e'∈d0.entries/\(j=d.ino->e'≠e):=λj z e' hz he=>by
  rcases cs j z hz with⟨rfl,_,rfl⟩ |⟨rfl,rfl⟩ |⟨_,h2,hz⟩
  ·exact⟨x,hf.hx,he,λe=>absurd e hxd⟩
  ·exact⟨d,hf.hd,((hf.dD h).1 he).1,λ_=>((hf.dD h).1 he).2⟩
  ·exact⟨z,hz,he,λe=>absurd e h2⟩
 have still:∀j z e',ar j f.aa=some z->e'∈z.entries->(j=d.ino->e'≠e)->e'.ino=x.ino->x.aH≠1:=λj z e' hz he hne hn hl=>by
  have hc:fc x.ino f.aa<=1:=by rw[<-hxk.2.1];omega
  obtain⟨a,b⟩:=yf hc (aQ hz).1 he hn (aQ hf.hd).1 hf.mem.1 hf.hn;exact hne (by rw[<-(aQ hz).2,a]) b
 have hreach:∀k,Reach f.aa k->k≠x.ino->Reach g.aa k:=λk hr=>by
  induction hr with
  |root=>exact λ_=> .root
  |step hr hz he ih=>
   rename_i k' z e';intro hne;have hk':k'≠x.ino:=λe1=>by
    rw[e1,hf.hx] at hz;cases hz;rw[hx0] at he;cases he
   obtain⟨y,hy,_,_,h4⟩:=on k' z hz (λe1=>absurd e1 hk');exact Reach.step (ih hk') hy (h4 e' he (λ_ e1=>hne (by rw[e1];exact hf.hn)))
 obtain⟨r,hr,hrk,hrp⟩:=h.root;have hx1:x.ino≠1:=λe1=>h.qX hf.hd hf.mem.1 (by rw[hf.hn,e1])
 refine yu (by rw[m1];exact h.x_) (by rw[m2];exact h.xY) (by rw[m3];exact h.next) hs (λk y hy=> ?_) ?_ (λk y hy=> ?_) (λk y hy e' he'=> ?_) (λk y hy=> ?_) ?_ (λk y hy hd=> ?_) (λk y hy hd j z hz e' he' hn=> ?_) (λk y hy=> ?_) ?_
 ·rw[m3]
  rcases cs k y hy with⟨rfl,_⟩ |⟨rfl,_⟩ |⟨_,_,hy⟩
  ·exact⟨hxk.2.2.1,hxk.2.2.2.1⟩
  ·exact⟨hdk.2.2.1,hdk.2.2.2.1⟩
  ·have:=h.eN hy
   exact⟨this.2.2.1,this.2.2.2.1⟩
 ·obtain⟨y,hy,h2,h3,_⟩:=on 1 r hr (λe1=>absurd e1.symm hx1)
  exact⟨y,hy,by rw[h2];exact hrk,by rw[h3];exact hrp⟩
 ·rcases cs k y hy with⟨_,_,rfl⟩ |⟨_,rfl⟩ |⟨_,_,hy⟩
  ·exact AG hxk.1
  ·exact oS hdk.1 hk2 (pI hdk.2.2.2.2.2)
  ·exact(h.eN hy).1
 ·obtain⟨d0,q1,q2,q3⟩:=ed k y e' hy he'
  obtain⟨z,hz⟩:=h.to q1 q2;obtain⟨y',hy',_⟩:=on _ z hz (λe1=>still _ _ _ q1 q2 q3 e1);exact⟨y',hy'⟩
 ·rw[s3]
  rcases cs k y hy with⟨rfl,_,rfl⟩ |⟨rfl,rfl⟩ |⟨e1,_,hy⟩
  ·rw[if_pos rfl]
   have:=hxk.2.1;show x.aH - 1=_;omega
  ·rw[if_neg hxd]
   have:=hdk.2.1;show d.aH=_;omega
  ·rw[if_neg (λe=>e1 e.symm)]
   have:=(h.eN hy).2.1;omega
 ·rw[s3,if_neg hx1,h.uy];rfl
 ·rw[s3]
  rcases cs k y hy with⟨rfl,_,rfl⟩ |⟨rfl,rfl⟩ |⟨e1,_,hy⟩
  ·have:=h.uN hf.hx hd
   rw[if_pos rfl];omega
  ·rw[if_neg hxd]
   have:=h.uN hf.hd hk2;omega
  ·rw[if_neg (λe=>e1 e.symm)]
   have:=h.uN hy hd;omega
 ·obtain⟨d0,q1,q2,q3⟩:=ed j z e' hz he'
  rcases cs k y hy with⟨rfl,_,rfl⟩ |⟨rfl,rfl⟩ |⟨e1,_,hy⟩
  ·show x.parent=j
   exact h.parent hf.hx hd q1 q2 hn
  ·show d.parent=j
   exact h.parent hf.hd hk2 q1 q2 hn
  ·exact h.parent hy hd q1 q2 hn
 ·by_cases e1:k=x.ino
  ·subst e1
   rcases cs _ y hy with⟨_,hl,_⟩ |⟨e2,_⟩ |⟨e2,_⟩
   ·have hp:0<fc x.ino g.aa:=by
     rw[s3,if_pos rfl];have h1:=zq (aQ hf.hd).1 hf.mem.1 hf.hn;have h2:=hxk.2.1;omega
    obtain⟨z,hz,e',he',hn⟩:=L8 hp;have hz:=dA hs hz;have hzx:z.ino≠x.ino:=λe1=>by
     rw[e1] at hz;obtain⟨d0,q1,q2,_⟩:=ed _ z e' hz he';rw[hf.hx] at q1;cases q1;rw[hx0] at q2;cases q2
    obtain⟨d0,q1,_⟩:=ed _ z e' hz he';have:=Reach.step (hreach _ (h.uM q1) hzx) hz he';rw[hn] at this;exact this
   ·exact absurd e2 hxd
   ·exact absurd rfl e2
  ·have:∃z,ar k f.aa=some z:=by
    rcases cs _ y hy with⟨e2,_⟩ |⟨rfl,_⟩ |⟨_,_,hy⟩
    ·exact absurd e2 e1
    ·exact⟨d,hf.hd⟩
    ·exact⟨y,hy⟩
   obtain⟨z,hz⟩:=this;exact hreach _ (h.uM hz) e1
 ·have hff:=h.fits
  have hbx:0<=byt x:=by unfold byt;split<;>omega
  unfold cy at hff⊢;simp only[Bool.and_eq_true,decide_eq_true_eq] at hff⊢;rw[m1,m2];split at s1<;>rename_i hl
  ·rw[if_pos hl] at s2;omega
  ·rw[if_neg hl] at s2;omega
end
structure Bd (n:Nat) (f:Fs):Prop where
 len:f.aa.length<=n
 dD:∀x∈f.aa,x.entries.length<=n
 data:∀x∈f.aa,x.data.length<=10000000
structure Ew (f:Fs):Prop where
 tr:Tree f
 sm:SmF f
 wf:WF f
 ws:WS f
 lil:Lil f
 tot:(dT f.aa).length<=536870912
section
variable {f:Fs} {n m:Nat}
theorem Bd.mono (h:Bd n f) (hm:n<=m):Bd m f:=
 ⟨Nat.le_trans h.len hm,λx hx=>Nat.le_trans (h.dD x hx) hm,h.data⟩
theorem Bd.sm (h:Bd n f) (hn:n<=10000) (ht:Tree f):SmF f:=by
 refine⟨by have:=h.len;omega,λx hx=>by have:=h.data x hx;omega,λx hx=>by have:=h.dD x hx;omega,λx hx e he=> ?_⟩;have h1:=(iK x.entries).1 (tu (ht.kind x hx));have:=Eu (h1.2 e he).1;omega
theorem ja (ht:Tree f) (h:Bd n f) (hn:n<=10000):Ew f:=by
 have hm:=h.sm hn ht;have hw:=ht.wf hm;have hl:=h.len;refine⟨ht,hm,hw,ht.ws hw,⟨by omega,λx hx=>by have:=h.dD x hx;omega⟩, ?_⟩;have h1:=Ae (N:=10000) (l:=f.aa) (λx hx=>by have:=h.dD x hx;omega);have:f.aa.length*10000<=10000*10000:=Nat.mul_le_mul_right _ (by omega);omega
theorem Ev.bd (e:Ev f):Bd 40 f:=⟨e.len,λx hx=>(e.few x hx).2.1,λx hx=>by have:=(e.few x hx).1;omega⟩
theorem Ev.ew (e:Ev f):Ew f:=ja e.tr e.bd (by omega)
theorem Ew.check (e:Ew f):jH f=some 0:=by rw[nf e.sm e.tot,e.tr.check]
theorem Ew.same (e:Ew f) (g:Fs):kR f g=some (decide (f=g)):=om e.sm.len e.sm.dD
theorem Bd.set (h:Bd n f) {y:ao} (hm:n+1<=m) (he:y.entries.length<=m) (hd:y.data.length<=10000000):Bd m (f.set y):=by
 refine⟨by have:= @lI f y;have:=h.len;omega,λx hx=> ?_,λx hx=> ?_⟩
 ·rcases dj.1 hx with rfl|⟨hx,_⟩
  ·exact he
  ·have:=h.dD x hx;omega
 ·rcases dj.1 hx with rfl|⟨hx,_⟩
  ·exact hd
  ·exact h.data x hx
theorem Bd.put (h:Bd n f) (hs:ct f.aa) {y z:ao} (hz:ar y.ino f.aa=some z) (hm:n<=m) (he:y.entries.length<=m) (hd:y.data.length<=10000000):Bd m (f.set y):=by
 refine⟨?_,λx hx=> ?_,λx hx=> ?_⟩
 ·have:=gV (x:=y) hs
  rw[hz] at this;have h1:(bB y f.aa).length=f.aa.length:=this;have:=h.len;show(bB y f.aa).length<=m;omega
 ·rcases dj.1 hx with rfl|⟨hx,_⟩
  ·exact he
  ·have:=h.dD x hx;omega
 ·rcases dj.1 hx with rfl|⟨hx,_⟩
  ·exact hd
  ·exact h.data x hx
theorem Bd.drop (h:Bd n f) {k:Int}:Bd n (f.drop k):=by
 refine⟨by have h1:(dI k f.aa).length<=f.aa.length:=dQ;have:=h.len;show(dI k f.aa).length<=n;omega,λx hx=> ?_,λx hx=> ?_⟩
 ·exact h.dD x (gm.1 hx).1
 ·exact h.data x (gm.1 hx).1
theorem Bd.find (h:Bd n f) {k:Int} {x:ao} (hx:ar k f.aa=some x):x.entries.length<=n/\x.data.length<=10000000:=⟨h.dD x (aQ hx).1,h.data x (aQ hx).1⟩
theorem Bd.get (h:Bd n f) (k:Int):(aC k f.aa).entries.length<=n/\(aC k f.aa).data.length<=10000000:=by
 cases hf:ar k f.aa with
 |none=>rw[dW hf];simp [ky]
 |some x=>rw[aT hf];exact h.find hf
theorem rJ (e:Entry) (l:List Entry):(fg e l).length<=l.length+1:=nF
theorem r5 (n:Str) (l:List Entry):(cH n l).length<=l.length:=dQ
theorem eL (h:ct f.aa) (x:ao):ct (f.set x).aa:=bV h
theorem ue (h:WF f) (k:Int):gU (aC k f.aa).entries:=by
 cases hf:ar k f.aa with
 |none=>rw[dW hf];exact List.Pairwise.nil
 |some x=>rw[aT hf];exact h.Lm (aQ hf).1
end
end Go.Eng
