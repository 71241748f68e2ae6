/- A part of the proofs of the laws of this seat: the engine that reads the program's code, plain functions, or facts of the program's functions. Conditions: none. -/
import Derived.Test.YtcilfbaaaipbcaaGreatP2
import Derived.Test.YtcilfbaaaipbcaaGreatP1
import Derived.Test.YtcilfbaaaipbcaaGreatE2
import Derived.Test.YtcilfbaaaipbcaaGreatE4
set_option linter.unusedSectionVars false
set_option linter.unusedVariables false
set_option linter.unusedSimpArgs false
set_option linter.unnecessarySimpa false
set_option linter.unusedSimpArgs false
set_option linter.unusedVariables false
namespace Go.Eng
open Go
instance abe:DecidableEq Entry:=fun a b=>
 if h:a.name=b.name∧a.ino=b.ino then isTrue (by cases a;cases b;simp at h;simp [h.1,h.2]) else isFalse (by intro e;subst e;exact h ⟨rfl,rfl⟩)
theorem Dv {b:Bool} {h:Decidable (b=true)}:(@ite _ (b=true) h (some true) (some false))=some b:=by
 split
 ·rename_i e;rw[e]
 ·rename_i e;have:b=false:=by simpa using e
  rw[this]
theorem loS:LO ltS:=⟨k7,fun h1 h2=>oU h1 h2,yd⟩
abbrev hC (l:List Entry):Prop:=cU ltS Entry.name l
abbrev dS (n:Str) (l:List Entry):Option Entry:=b5 Entry.name n l
abbrev dV (n:Str) (l:List Entry):List Entry:=eh Entry.name n l
abbrev hY (x:Entry) (l:List Entry):List Entry:=nD ltS Entry.name x l
abbrev nT (n:Str) (l:List Entry):Nat:=dz ltS Entry.name n l
def Sm (l:List Entry):Prop:=l.length≤1073741824∧∀e∈l,e.name.length≤1099511627775
theorem ta (a b:Str):(a==b)=decide (a=b):=by
 rw[Bool.eq_iff_iff,beq_iff_eq,decide_eq_true_eq]
theorem wD {l:List Entry} {n:Str} (hl:l.length≤1073741824):jx l n=some (match dS n l with|some e=>(e.ino,true) |none=>(0,false)):=by
 unfold jx;refine(bY (l:=l) (fun m i (_:Unit)=>fW l n (fun z8=>some (z8,true)) (some ((0:Int),false)) m i) (fun k x s K=>if decide (x.name=n) then some (x.ino,true) else K s) (fun _=>some ((0:Int),false)) (by omega) (fun m k x u hk hx=> ?_) (fun m u=> ?_) ()).trans ?_
 ·simp only[fW]
  rw[dec_lt hk,bS,toNat_cast,hx,bc (by omega)];simp only[aC,ai,aV,if_true,ta]
 ·simp only[fW]
  rw[b6 (Nat.le_refl _)];rfl
 ·unfold dS b5
  generalize 0=q;clear hl;revert q;induction l with
  |nil=>intro q;rfl
  |cons y l ih=>
   intro q;simp only[dW,List.find?_cons];by_cases h:y.name=n
   ·simp [h]
   ·simp [h];simpa using ih (q+1)
theorem mH {α R:Type} (p:α→Bool) (kk:List α→Option R):∀(l:List α) (k:Nat) (s:List α),s.length+l.length≤LIM→
 dW (fun _ x s K=>if p x then aQ (s.length+[x].length) (K (s++[x])) else K s) kk k l s=kk (s++l.filter p)
 | [],_,s,_=>by simp [dW]
 |x::l,k,s,h=>by
  simp only[dW,List.filter_cons];simp only[List.length_cons] at h;split
  ·rw[bZ (by simp;omega),mH p kk l _ _ (by simp;omega)];simp
  ·rw[mH p kk l _ _ (by omega)]
theorem mD {l:List Entry} {n:Str} (hl:l.length≤1073741824):ic l n=some (dV n l):=by
 unfold ic;refine(bY (l:=l) (fun m i s=>dy l n (fun z8=>some z8) m i s) (fun _ x s K=>if !decide (x.name=n) then aQ (s.length+[x].length) (K (s++[x])) else K s) (fun z=>some z) (by omega) (fun m k x s hk hx=> ?_) (fun m s=> ?_) []).trans ?_
 ·simp only[dy]
  rw[dec_lt hk,bS,toNat_cast,hx,bc (by omega)];simp only[aC,ai,aV,if_true,ta]
 ·simp only[dy]
  rw[b6 (Nat.le_refl _)];rfl
 ·rw[mH _ _ _ _ _ (by unfold LIM;simp;omega)];rfl
theorem kI {α κ R:Type} {lt:κ→κ→Bool} {key:α→κ} (x:α) (kk:List α→Option R):∀(l:List α) (k:Nat) (s:Bool×List α),s.2.length+l.length+(if s.1 then 0 else 1)≤LIM→
 dW (fun _ y (s:Bool×List α) K=>if !s.1 then (if lt (key x) (key y) then aQ (s.2.length+[x].length) (aQ ((s.2++[x]).length+[y].length) (K (true,(s.2++[x])++[y]))) else aQ (s.2.length+[y].length) (K (s.1,s.2++[y]))) else aQ (s.2.length+[y].length) (K (s.1,s.2++[y])))
  (fun s=>if !s.1 then aQ (s.2.length+[x].length) (kk (s.2++[x])) else kk s.2) k l s=kk (s.2++if s.1 then l else iG lt key x l)
 | [],_,(b,s),h=>by
  simp only[dW];cases b
  ·simp only[Bool.not_false,if_true]
   rw[bZ (by simp at h⊢;omega)];simp [iG]
  ·simp
 |y::l,k,(b,s),h=>by
  simp only[dW];simp only[List.length_cons] at h;cases b
  ·simp only[Bool.not_false,if_true]
   simp at h;by_cases hy:lt (key x) (key y)=true
   ·rw[if_pos hy,bZ (by simp;omega),bZ (by simp;omega),kI x kk l _ _ (by simp;omega)]
    simp [iG,hy]
   ·rw[if_neg hy,bZ (by simp;omega),kI x kk l _ _ (by simp;omega)]
    simp [iG,hy]
  ·simp only[Bool.not_true]
   simp at h;rw[if_neg (by simp),bZ (by simp;omega),kI x kk l _ _ (by simp;omega)];simp
theorem Xk (a b:Str):(!(Op.bytesLess a b||a==b))=ltS b a:=by
 rw[ta];rcases yd a b with h|h|h
 ·have:=xF h
  have h:Op.bytesLess a b=true:=h;rw[h,this];rfl
 ·subst h
  have:=k7 a;rw[this];simp
 ·have h1:=xF h
  have h2:=Ma h;have h1:Op.bytesLess a b=false:=h1;rw[h,h1];simp;exact fun e=>h2 e.symm
theorem pz {l:List Entry} {n:Str} {i:Int} (hl:l.length≤1073741824):iA l n i=some (hY ⟨n,i⟩ l):=by
 unfold iA;rw[mD hl];simp only[ai];have hfl:(dV n l).length≤l.length:=dt;unfold hY nD;show _=some (iG ltS Entry.name ⟨n,i⟩ (dV n l));generalize dV n l=rest at hfl⊢;refine(bY (l:=rest) (fun m i' s=>eg n i rest (fun z16 z17=>ah (!z16) (aQ (z17.length+[(⟨n,i⟩:Entry)].length) (some (z17++[(⟨n,i⟩:Entry)]))) (some z17)) m s.1 i' s.2)
  (fun _ y (s:Bool×List Entry) K=>if !s.1 then (if ltS n y.name then aQ (s.2.length+[(⟨n,i⟩:Entry)].length) (aQ ((s.2++[(⟨n,i⟩:Entry)]).length+[y].length) (K (true,(s.2++[(⟨n,i⟩:Entry)])++[y]))) else aQ (s.2.length+[y].length) (K (s.1,s.2++[y]))) else aQ (s.2.length+[y].length) (K (s.1,s.2++[y])))
  (fun s=>if !s.1 then aQ (s.2.length+[(⟨n,i⟩:Entry)].length) (some (s.2++[(⟨n,i⟩:Entry)])) else some s.2) (by omega) (fun m k y s hk hx=> ?_) (fun m s=> ?_) (false, [])).trans ?_
 ·simp only[eg]
  rw[dec_lt hk,bS,toNat_cast,hx,bc (by omega)];simp only[aC,ai,aV,if_true,Xk]
 ·simp only[eg]
  rw[b6 (Nat.le_refl _),ay];simp only[aV]
 ·rw[kI (lt:=ltS) (key:=Entry.name) (⟨n,i⟩:Entry) (fun z=>some z) _ _ _ (by unfold LIM;simp;omega)]
  rfl
theorem eqE (a b:Entry):((a.name==b.name)&&(a.ino==b.ino))=decide (a=b):=by
 rw[Bool.eq_iff_iff];cases a;cases b;simp
theorem jf {α R:Type} [DecidableEq α] (kr k0:Option R):∀(l m:List α) (k:Nat) (m0:List α),l.length=m.length→m0.length=k→dW (fun k x (_:Unit) K=>aj (m0++m)[k]? fun y=>if decide (x=y) then K () else kr) (fun _=>k0) k l ()=if l=m then k0 else kr
 | [], [],_,_,_,_=>rfl
 | [],_::_,_,_,h,_=>by simp at h
 |_::_, [],_,_,h,_=>by simp at h
 |x::l,y::m,k,m0,h,hk=>by
  simp only[dW];have e:(m0++y::m)[k]? =some y:=by subst hk;simp
  rw[e,ai];have ih:=jf kr k0 l m (k+1) (m0++[y]) (by simpa using h) (by simp [hk]);have e2:m0++[y]++m=m0++y::m:=by simp
  rw[e2] at ih;by_cases hxy:x=y
  ·subst hxy
   simp only[decide_true,if_true,List.cons.injEq,true_and];exact ih
  ·simp [hxy]
theorem we {a b:List Entry} (hl:a.length≤1073741824):nG a b=some (decide (a=b)):=by
 unfold nG;rw[aV];by_cases h:a.length=b.length
 ·have e:((List.length a:Int) !=(List.length b:Int))=false:=by rw[h];simp
  rw[e,if_neg (by simp)];refine(bY (l:=a) (fun m i (_:Unit)=>fX a b (some false) (some true) m i) (fun k x (_:Unit) K=>aj ([] ++b)[k]? fun y=>if decide (x=y) then K () else some false) (fun _=>some true) (by omega) (fun m k x u hk hx=> ?_) (fun m u=> ?_) ()).trans ?_
  ·simp only[fX]
   rw[dec_lt hk,bS,toNat_cast,hx,bc (by omega)];simp only[aC,ai,aV,if_true,List.nil_append];have hk':k<b.length:=by omega
   rw[List.getElem?_eq_getElem hk'];simp only[ai,eqE];by_cases hxy:x=b[k]<;>simp [hxy]
  ·simp only[fX]
   rw[b6 (Nat.le_refl _)];rfl
  ·rw[jf _ _ a b 0 [] h rfl]
   by_cases hab:a=b<;>simp [hab]
 ·have e:((List.length a:Int) !=(List.length b:Int))=true:=by rw[bne_iff_ne];omega
  rw[e,if_pos rfl];have:¬a=b:=fun e=>h (by rw[e])
  simp [this]
def j7:Option Str→List Entry→Bool
 |_, [] =>true
 |none,x::l=>j7 (some x.name) l
 |some n,x::l=>ltS n x.name&&j7 (some x.name) l
def f_ (l:List Entry):Bool:=l.all (fun e=>fE e.name&&decide (1≤e.ino))&&j7 none l
theorem sr:∀(l:List Entry) (p:Option Str),j7 p l=true↔(hC l∧∀n,p=some n→∀x∈l,ltS n x.name=true)
 | [],p=>by simp [j7,hC,cU]
 |x::l,p=>by
  have ih:=sr l (some x.name);have key:(hC l∧∀n,some x.name=some n→∀x∈l,ltS n x.name=true)↔hC (x::l):=by
   unfold hC cU;rw[List.pairwise_cons];constructor
   ·rintro⟨h1,h2⟩;exact⟨h2 _ rfl,h1⟩
   ·rintro⟨h1,h2⟩;exact⟨h2,fun n e=>by cases e;exact h1⟩
  rw[key] at ih;cases p with
  |none=>simp only[j7,ih];simp
  |some n=>
   simp only[j7,Bool.and_eq_true,ih];constructor
   ·rintro⟨h1,h2⟩
    refine⟨h2,fun n' e=> ?_⟩;cases e;intro y hy;simp only[List.mem_cons] at hy;rcases hy with rfl|hy
    ·exact h1
    ·unfold hC cU at h2
     rw[List.pairwise_cons] at h2;exact oU h1 (h2.1 y hy)
   ·rintro⟨h1,h2⟩
    exact⟨h2 n rfl x (by simp),h1⟩
theorem gB (l:List Entry):f_ l=true↔(hC l∧∀e∈l,fE e.name=true∧1≤e.ino):=by
 unfold f_;simp only[Bool.and_eq_true,List.all_eq_true,decide_eq_true_eq,sr];constructor
 ·rintro⟨h1,h2,_⟩;exact⟨h2,h1⟩
 ·rintro⟨h1,h2⟩;exact⟨h2,h1,fun n e=>by cases e⟩
def sZ (m:List Entry):Option Str:=m.getLast?.map Entry.name
theorem u_ {R:Type} (kr k0:Option R) (hc:R→Prop):∀(l:List Entry) (k:Nat) (m:List Entry),m.length=k→
 dW (fun k (x:Entry) (_:Unit) K=>if fE x.name then (if decide (1≤x.ino) then (if 0<k then (aj (m++l)[k - 1]? fun y=>if ltS y.name x.name then K () else kr) else K ()) else kr) else kr) (fun _=>k0) k l ()=if l.all (fun e=>fE e.name&&decide (1≤e.ino))&&j7 (sZ m) l then k0 else kr
 | [],k,m,_=>by cases h:sZ m<;>simp [dW,j7]
 |x::l,k,m,hk=>by
  simp only[dW];have ih:=u_ kr k0 hc l (k+1) (m++[x]) (by simp [hk]);have e2:m++[x]++l=m++x::l:=by simp
  have e3:sZ (m++[x])=some x.name:=by simp [sZ]
  rw[e2,e3] at ih;rw[ih];simp only[List.all_cons];by_cases h1:fE x.name=true
  case neg=>simp [h1]
  ·by_cases h2:decide (1≤x.ino)=true
   case neg=>simp [h1,h2]
   ·simp only[h1,h2,if_true,Bool.true_and]
    rcases List.eq_nil_or_concat m with rfl|⟨m',y,rfl⟩
    ·simp at hk;subst hk
     simp [sZ,j7]
    ·have hk':0<k:=by simp at hk;omega
     rw[if_pos hk'];have e:(m'++[y]++x::l)[k - 1]? =some y:=by
      have:k - 1=m'.length:=by simp at hk;omega
      rw[this];simp
     have e4:sZ (m'.concat y)=some y.name:=by simp [sZ]
     simp only[List.concat_eq_append] at e4⊢;rw[e,e4,ai];simp only[j7];by_cases h3:Op.bytesLess y.name x.name=true<;>simp [ltS,h3]
theorem w7 {k:Nat} (h:0<k) (h2:k≤1099511627775):IntKind.i64.wrap ((k:Int) - 1)=((k - 1:Nat):Int):=by
 rw[b9 (by omega) (by omega)];omega
theorem tW {l:List Entry} (hs:Sm l):eZ l=some (f_ l):=by
 have hl:=hs.1;unfold eZ;refine(bY (l:=l) (fun m i (_:Unit)=>eI l (some false) (some true) m i) (fun k (x:Entry) (_:Unit) K=>if fE x.name then (if decide (1≤x.ino) then (if 0<k then (aj ([] ++l)[k - 1]? fun y=>if ltS y.name x.name then K () else some false) else K ()) else some false) else some false) (fun _=>some true) (by omega) (fun m k x u hk hx=> ?_) (fun m u=> ?_) ()).trans ?_
 ·simp only[eI]
  have hn:=hs.2 x (List.mem_of_getElem? hx);rw[dec_lt hk,bS,toNat_cast,hx,bc (by omega)];simp only[aC,ai,aV,if_true,List.nil_append,kG hn];cases h1:fE x.name
  ·simp
  ·have e1:decide (x.ino<(1:Int))= !decide (1≤x.ino):=by
    by_cases h:1≤x.ino
    ·have:¬x.ino<1:=by omega
     simp [h,this]
    ·have:x.ino<1:=by omega
     simp [h,this]
   rw[e1];cases h2:decide (1≤x.ino)
   ·simp
   ·simp only[Bool.not_true,Bool.false_eq_true,if_false,if_true]
    by_cases hk0:0<k
    ·have e2:decide ((k:Int)>(0:Int))=true:=by simp;omega
     rw[e2,if_pos rfl,if_pos hk0,w7 hk0 (by omega),bS,toNat_cast,if_pos rfl];have hk1:k - 1<l.length:=by omega
     rw[List.getElem?_eq_getElem hk1];simp only[ai];by_cases h3:Op.bytesLess l[k - 1].name x.name=true<;>simp [ltS,h3]
    ·have e2:decide ((k:Int)>(0:Int))=false:=by simp;omega
     rw[e2,if_neg (by simp),if_neg hk0]
 ·simp only[eI]
  rw[b6 (Nat.le_refl _)];rfl
 ·rw[u_ (some false) (some true) (fun _=>True) l 0 [] rfl]
  unfold f_;simp only[sZ,List.getLast?_nil,Option.map_none];exact Dv
def Af (n:Str) (l:List Entry):Bool:=match l[nT n l]? with|some x=>decide (x.name=n) |none=>false
theorem sO {l:List Entry} {n:Str} (hs:hC l) (hl:l.length≤1073741824):nW l n=some ((nT n l:Int),Af n l):=by
 unfold nW;have hc:nT n l≤l.length:=l7 l;have e0:∀(k0:Int→Option (Int×Bool)),ef l n k0 bg (0:Int) (List.length l:Int)=k0 (nT n l:Int):=by
  intro k0;refine yU (fun m a b=>ef l n k0 m a b) (fun j=>match l[j]? with|some x=>ltS x.name n|none=>false) l.length (nT n l) k0 (by omega) (fun m lo hi h1 h2=> ?_) (fun m lo h1=> ?_) (fun j hj=> ?_) (fun j hj hj2=> ?_) bg 0 l.length (gZ (by omega)) (Nat.zero_le _) hc (Nat.le_refl _)
  ·simp only[ef]
   have hm:(lo+hi)/2<l.length:=by omega
   rw[dec_lt h1,yF (by omega) (by omega),bS,toNat_cast,List.getElem?_eq_getElem hm,bc (by omega)];have e1:decide ((1:Int)<0)=false:=rfl;simp only[e1,aC,ay,ai,strings_Compare,ub,aV,if_true,Bool.false_eq_true,if_false]
  ·simp only[ef]
   rw[b6 (Nat.le_refl _),ay]
  ·have hj':j<l.length:=by omega
   have:=o4 (lt:=ltS) (key:=Entry.name) hj (List.getElem?_eq_getElem hj');simp only[List.getElem?_eq_getElem hj'];exact this
  ·have:=qZ loS (k:=n) hs hj (List.getElem?_eq_getElem hj2)
   simp only[List.getElem?_eq_getElem hj2];exact this
 rw[e0];unfold Af;by_cases h:nT n l<l.length
 ·rw[dec_lt h,bS,toNat_cast,List.getElem?_eq_getElem h]
  simp only[aC,ai,strings_Compare,vi,ta]
 ·rw[b6 (by omega),ay,List.getElem?_eq_none (by omega)]
theorem Fb {l:List Entry} {n:Str} (hs:hC l):dS n l=aj l[nT n l]? fun x=>if x.name=n then some x else none:=jm loS hs
theorem E6 {R:Type} (x:Option R):both x x=x:=by unfold both;rw[if_pos rfl]
theorem jO {α R:Type} {l:List α} {x y r:Option R} (h1:l= [] →x=r) (h2:y=r):za l x y=r:=by
 unfold za;cases l with
 |nil=>rw[h1 rfl,h2];exact E6 r
 |cons a l=>exact h2
end Go.Eng
set_option linter.unusedSimpArgs false
set_option linter.unusedVariables false
namespace Go.Eng
open Go
theorem xo {l:List Entry} {n:Str} (h:Af n l=true):∃x,l[nT n l]? =some x∧x.name=n:=by
 unfold Af at h;split at h
 ·rename_i x hx;exact⟨x,hx,by simpa using h⟩
 ·cases h
theorem wO {l:List Entry} {n:Str} (hs:hC l) (h:Af n l=false):dS n l=none:=by
 rw[Fb hs];unfold Af at h;cases hx:l[nT n l]? with
 |none=>rfl
 |some x=>
  rw[hx] at h;have h:¬x.name=n:=by simpa using h
  simp [h]
theorem take_set {α:Type} {a b:List α} {c:Nat} (h:a.length=c):(a++b).take c=a:=by subst h;simp
theorem drop_set {α:Type} {a b:List α} {c:Nat} (h:a.length=c):(a++b).drop c=b:=by subst h;simp
theorem rE {l:List Entry} {n:Str} (hs:hC l) (hl:l.length≤1073741824):jJ l n=some (dV n l):=by
 unfold jJ;rw[sO hs hl];simp only[ai];cases h:Af n l
 ·rw[Bool.not_false,aC]
  have e9:dV n l=l:=nv (wO hs h);rw[e9];refine jO (fun e=>by subst e;rfl) ?_;rw[bZ (by unfold LIM;simp;omega)];rfl
 ·obtain⟨x,hx,hn⟩:=xo h
  have e9:dV n l=l.take (nT n l)++l.drop (nT n l+1):=oR loS hs hx hn;rw[Bool.not_true,ay,e9];have hc:=(List.getElem?_eq_some_iff.1 hx).1;generalize nT n l=c at hx hc;have e1:IntKind.i64.wrap ((List.length l:Int) - 1)=((l.length - 1:Nat):Int):=by rw[b9 (by omega) (by omega)];omega
  rw[e1,bc (by omega)];simp only[toNat_cast];have hA:(l.take c).length=c:=by simp;omega
  have hmin:min (l.take c).length (List.replicate (l.length - 1) (⟨[],0⟩:Entry)).length=c:=by simp;omega
  simp only[hmin,toNat_cast];have hAB:(l.take c).take (List.replicate (l.length - 1) (⟨[],0⟩:Entry)).length=l.take c:=by rw[List.take_take];congr 1;simp;omega
  simp only[hAB];have hB:(List.replicate (l.length - 1) (⟨[],0⟩:Entry)).drop (l.take c).length=List.replicate (l.length - 1 - c) (⟨[],0⟩:Entry):=by rw[hA,List.drop_replicate]
  simp only[hB];have hlen:(l.take c++List.replicate (l.length - 1 - c) (⟨[],0⟩:Entry)).length=l.length - 1:=by simp;omega
  simp only[hlen];rw[aN (by simp),bZ (by unfold LIM;omega),aN (by simp;omega),aN (by simp;omega),aN (by simp;omega),aN (by simp;omega),take_set hA,drop_set hA];have hD:(l.drop (c+1)).take (l.length - 1 - c)=l.drop (c+1):=by rw[List.take_of_length_le];simp;omega
  have hE:(List.replicate (l.length - 1 - c) (⟨[],0⟩:Entry)).drop (min (l.drop (c+1)).length (l.length - 1 - c))= [] :=by rw[List.drop_eq_nil_of_le];simp;omega
  rw[hD,hE,List.append_nil]
theorem pt {l:List Entry} {n:Str} {i:Int} (hs:hC l) (hl:l.length≤1073741824):fF l n i=some (hY ⟨n,i⟩ l):=by
 unfold fF;rw[sO hs hl];simp only[ai];have hc:nT n l≤l.length:=l7 l;cases h:Af n l
 ·have hf:=wO hs h
  have e9:hY (⟨n,i⟩:Entry) l=l.take (nT n l)++⟨n,i⟩::l.drop (nT n l):=qT loS hs hf;rw[e9];generalize nT n l=c at hc;refine jO (fun e=> ?_) ?_
  ·subst e
   have:c=0:=by simpa using hc
   subst this;rfl
  ·rw[bZ (by unfold LIM;simp;omega)]
   simp only[ay,List.nil_append,List.length_singleton];have e1:IntKind.i64.wrap ((List.length l:Int)+((1:Nat):Int))=((l.length+1:Nat):Int):=by rw[b9 (by omega) (by omega)];omega
   have e2:IntKind.i64.wrap ((c:Int)+((1:Nat):Int))=((c+1:Nat):Int):=by rw[b9 (by omega) (by omega)];omega
   simp only[e1,e2,toNat_cast];rw[aN (by simp;omega),bK (by simp)];by_cases hlen:c=l.length
   ·subst hlen
    rw[aN (by simp),bZ (by unfold LIM;omega)];simp
   ·rw[bK (by simp;omega)]
    refine tJ fun cp hcp=> ?_
    by_cases hcap:cp<l.length+1
    ·rw[aN (by simp;omega),aN (by simp;omega)]
     have e3:IntKind.i64.wrap (((l.length+1:Nat):Int) - (c:Int))=((l.length+1 - c:Nat):Int):=by rw[b9 (by omega) (by omega)];omega
     simp only[e3,toNat_cast,List.drop_zero];have hA:(l.take c).length=c:=by simp;omega
     have hT:(l.take c++List.replicate (l.length+1 - c) (⟨[],0⟩:Entry)).take c=l.take c:=take_set hA;have hD:(l.take c++List.replicate (l.length+1 - c) (⟨[],0⟩:Entry)).drop c=List.replicate (l.length+1 - c) (⟨[],0⟩:Entry):=drop_set hA;have hL:(l.take c++List.replicate (l.length+1 - c) (⟨[],0⟩:Entry)).length=l.length+1:=by simp;omega
     simp only[hT,hD,hL];have hX:[(⟨n,i⟩:Entry)].take (l.length+1 - c)=[⟨n,i⟩]:=by rw[List.take_of_length_le];simp;omega
     have hM:min 1 (l.length+1 - c)=1:=by omega
     have hR:(List.replicate (l.length+1 - c) (⟨[],0⟩:Entry)).drop 1=List.replicate (l.length - c) (⟨[],0⟩:Entry):=by rw[List.drop_replicate];congr 1;omega
     simp only[hX,hM,hR];have hL2:(l.take c++([(⟨n,i⟩:Entry)]++List.replicate (l.length - c) (⟨[],0⟩:Entry))).length=l.length+1:=by simp;omega
     simp only[hL2];have hM2:min (l.length - c) (l.length+1 - (c+1))=l.length - c:=by omega
     simp only[hM2];rw[aN (by simp),bZ (by unfold LIM;omega),aN (by simp;omega),aN (by simp;omega),aN (by simp;omega),aN (by simp;omega),aN (by simp;omega),aN (by simp;omega),aN (by simp;omega),aN (by simp;omega),aN (by simp;omega)];have e4:l.take c++([(⟨n,i⟩:Entry)]++List.replicate (l.length - c) (⟨[],0⟩:Entry))=(l.take c++[(⟨n,i⟩:Entry)])++List.replicate (l.length - c) (⟨[],0⟩:Entry):=by simp
     have hA1:(l.take c++[(⟨n,i⟩:Entry)]).length=c+1:=by simp;omega
     have hT4:(l.take c++([(⟨n,i⟩:Entry)]++List.replicate (l.length - c) (⟨[],0⟩:Entry))).take (c+1)=l.take c++[(⟨n,i⟩:Entry)]:=by rw[e4];exact take_set hA1
     have hD4:(l.take c++([(⟨n,i⟩:Entry)]++List.replicate (l.length - c) (⟨[],0⟩:Entry))).drop (c+1+(l.length - c))= [] :=by rw[List.drop_eq_nil_of_le];rw[hL2];omega
     have hQ:(l.drop c).take (l.length - c)=l.drop c:=by rw[List.take_of_length_le];simp
     rw[hT4,hD4,hQ];simp
    ·rw[bK (by simp;omega)]
     have hM:min (l.length+1 - c) (l.length+1 - (c+1))=l.length - c:=by omega
     simp only[hM,Nat.zero_add];have hQ:(l.drop c).take (l.length - c)=l.drop c:=by rw[List.take_of_length_le];simp
     have hX:[(⟨n,i⟩:Entry)].take (l.length+1 - c)=[⟨n,i⟩]:=by rw[List.take_of_length_le];simp;omega
     have hM2:min 1 (l.length+1 - c)=1:=by omega
     simp only[hQ,hX,hM2,List.drop_zero];rw[aN (by simp;omega),aN (by simp;omega),aN (by simp),aN (by simp;omega),aN (by simp;omega),aN (by simp;omega),aN (by simp;omega)];by_cases hc1:c+1≤l.length
     ·rw[aN (by simp;omega),bK (Dw (by omega)),aN (by simp;omega),aN (by simp;omega),aN (by simp;omega)]
      have hT1:(l.take (c+1)++l.drop c).take c=l.take c:=by rw[List.take_append_of_le_length (by simp;omega),List.take_take];congr 1;omega
      have hD1:((l.take (c+1)++l.drop c).drop c).drop 1=l.drop c:=by rw[List.drop_drop];exact drop_set (by simp;omega)
      rw[hT1,hD1];rw[List.take_of_length_le (by simp;omega)];simp
     ·omega
 ·obtain⟨x,hx,hn⟩:=xo h
  have e9:hY (⟨n,i⟩:Entry) l=l.set (nT n l) ⟨n,i⟩:=zf loS hs hx hn;rw[e9];have hc':=(List.getElem?_eq_some_iff.1 hx).1;generalize nT n l=c at hx hc hc';refine jO (fun e=>by subst e;simp at hx) ?_;rw[bZ (by unfold LIM;simp;omega)];simp only[aC,List.nil_append,toNat_cast,hx,ai];rw[aN (by simp;omega)];subst hn;rfl
end Go.Eng
set_option linter.unusedSimpArgs false
set_option linter.unusedVariables false
namespace Go.Eng
open Go
instance acM:DecidableEq ae:=fun a b=>
 if h:a.ino=b.ino∧a.kind=b.kind∧a.aq=b.aq∧a.data=b.data∧a.parent=b.parent∧a.entries=b.entries then isTrue (by cases a;cases b;simp at h;simp [h]) else isFalse (by intro e;subst e;exact h ⟨rfl,rfl,rfl,rfl,rfl,rfl⟩)
instance apf:DecidableEq Fs:=fun a b=>
 if h:a.ar=b.ar∧a.aw=b.aw∧a.next=b.next∧a.aa=b.aa then isTrue (by cases a;cases b;simp at h;simp [h]) else isFalse (by intro e;subst e;exact h ⟨rfl,rfl,rfl,rfl⟩)
abbrev cA (l:List ae):Prop:=cU ltI ae.ino l
abbrev au (n:Int) (l:List ae):Option ae:=b5 ae.ino n l
abbrev dn (n:Int) (l:List ae):List ae:=eh ae.ino n l
abbrev bH (x:ae) (l:List ae):List ae:=nD ltI ae.ino x l
abbrev kb (n:Int) (l:List ae):Nat:=dz ltI ae.ino n l
def kj:ae:=⟨0,0,0, [],0, []⟩
def aK (n:Int) (l:List ae):ae:=(au n l).getD kj
def Fs.set (f:Fs) (x:ae):Fs:=⟨f.ar,f.aw,f.next,bH x f.aa⟩
def Fs.drop (f:Fs) (n:Int):Fs:=⟨f.ar,f.aw,f.next,dn n f.aa⟩
def yo (n:Int) (l:List ae):Bool:=match l[kb n l]? with|some x=>decide (x.ino=n) |none=>false
theorem wP {l:List ae} {n:Int} (hs:cA l):au n l=aj l[kb n l]? fun x=>if x.ino=n then some x else none:=jm loI hs
theorem w6 {l:List ae} {n:Int} (h:yo n l=true):∃x,l[kb n l]? =some x∧x.ino=n:=by
 unfold yo at h;split at h
 ·rename_i x hx;exact⟨x,hx,by simpa using h⟩
 ·cases h
theorem wJ {l:List ae} {n:Int} (hs:cA l) (h:yo n l=false):au n l=none:=by
 rw[wP hs];unfold yo at h;cases hx:l[kb n l]? with
 |none=>rfl
 |some x=>
  rw[hx] at h;have h:¬x.ino=n:=by simpa using h
  simp [h]
theorem n6 {f:Fs} {n:Int} (hs:cA f.aa) (hl:f.aa.length≤1073741824):mM f n=some ((kb n f.aa:Int),yo n f.aa):=by
 unfold mM;generalize f.aa=l at hs hl;have hc:kb n l≤l.length:=l7 l;have e0:∀(k0:Int→Option (Int×Bool)),cM l n k0 bg (0:Int) (List.length l:Int)=k0 (kb n l:Int):=by
  intro k0;refine yU (fun m a b=>cM l n k0 m a b) (fun j=>match l[j]? with|some x=>decide (x.ino<n) |none=>false) l.length (kb n l) k0 (by omega) (fun m lo hi h1 h2=> ?_) (fun m lo h1=> ?_) (fun j hj=> ?_) (fun j hj hj2=> ?_) bg 0 l.length (gZ (by omega)) (Nat.zero_le _) hc (Nat.le_refl _)
  ·simp only[cM]
   have hm:(lo+hi)/2<l.length:=by omega
   rw[dec_lt h1,yF (by omega) (by omega),bS,toNat_cast,List.getElem?_eq_getElem hm,bc (by omega)];have e1:decide ((1:Int)<0)=false:=rfl;simp only[e1,aC,ay,ai,aV,if_true,Bool.false_eq_true,if_false,bne_self_eq_false];by_cases h9:l[(lo+hi)/2].ino<n
   ·simp [h9]
   ·simp [h9]
  ·simp only[cM]
   rw[b6 (Nat.le_refl _),ay]
  ·have hj':j<l.length:=by omega
   have:=o4 (lt:=ltI) (key:=ae.ino) hj (List.getElem?_eq_getElem hj');simp only[List.getElem?_eq_getElem hj'];exact this
  ·have:=qZ loI (k:=n) hs hj (List.getElem?_eq_getElem hj2)
   simp only[List.getElem?_eq_getElem hj2];exact this
 rw[e0];unfold yo;by_cases h:kb n l<l.length
 ·rw[dec_lt h,bS,toNat_cast,List.getElem?_eq_getElem h]
  simp only[aC,ai,bne_self_eq_false,ay,aV];by_cases h1:l[kb n l].ino<n
  ·have:¬l[kb n l].ino=n:=by omega
   simp [h1,this]
  ·by_cases h2:l[kb n l].ino>n
   ·have:¬l[kb n l].ino=n:=by omega
    simp [h1,h2,this]
   ·have:l[kb n l].ino=n:=by omega
    simp [h1,h2,this]
 ·rw[b6 (by omega),ay,List.getElem?_eq_none (by omega)]
theorem dF {f:Fs} {n:Int} (hs:cA f.aa) (hl:f.aa.length≤1073741824):c_ f n=some (aK n f.aa,(au n f.aa).isSome):=by
 unfold c_ aK;rw[n6 hs hl,wP hs];simp only[ai];unfold yo;rw[bS,toNat_cast];cases h:f.aa[kb n f.aa]? with
 |none=>rfl
 |some x=>
  simp only[ai];by_cases he:x.ino=n
  ·simp [he]
  ·simp [he];rfl
theorem dE {f:Fs} {x:ae} (hs:cA f.aa) (hl:f.aa.length≤1073741824):bh f x=some (f.set x):=by
 unfold bh Fs.set;rw[n6 hs hl];simp only[ai];have hc:kb x.ino f.aa≤f.aa.length:=l7 f.aa;generalize f.aa=l at hs hl hc;cases h:yo x.ino l
 ·have hf:=wJ hs h
  have e9:bH x l=l.take (kb x.ino l)++x::l.drop (kb x.ino l):=qT loI hs hf;rw[e9];generalize kb x.ino l=c at hc;refine jO (fun e=> ?_) ?_
  ·subst e
   have:c=0:=by simpa using hc
   subst this;rfl
  ·rw[bZ (by unfold LIM;simp;omega)]
   simp only[ay,List.nil_append,List.length_singleton];have e1:IntKind.i64.wrap ((List.length l:Int)+((1:Nat):Int))=((l.length+1:Nat):Int):=by rw[b9 (by omega) (by omega)];omega
   have e2:IntKind.i64.wrap ((c:Int)+((1:Nat):Int))=((c+1:Nat):Int):=by rw[b9 (by omega) (by omega)];omega
   simp only[e1,e2,toNat_cast];rw[aN (by simp;omega),bK (by simp)];by_cases hlen:c=l.length
   ·subst hlen
    rw[aN (by simp),bZ (by unfold LIM;omega)];simp
   ·rw[bK (by simp;omega)]
    refine tJ fun cp hcp=> ?_
    by_cases hcap:cp<l.length+1
    ·rw[aN (by simp;omega),aN (by simp;omega)]
     have e3:IntKind.i64.wrap (((l.length+1:Nat):Int) - (c:Int))=((l.length+1 - c:Nat):Int):=by rw[b9 (by omega) (by omega)];omega
     simp only[e3,toNat_cast,List.drop_zero];have hA:(l.take c).length=c:=by simp;omega
     have hT:(l.take c++List.replicate (l.length+1 - c) (⟨0,0,0, [],0,([] :List Entry)⟩:ae)).take c=l.take c:=take_set hA;have hD:(l.take c++List.replicate (l.length+1 - c) (⟨0,0,0, [],0,([] :List Entry)⟩:ae)).drop c=List.replicate (l.length+1 - c) (⟨0,0,0, [],0,([] :List Entry)⟩:ae):=drop_set hA;have hL:(l.take c++List.replicate (l.length+1 - c) (⟨0,0,0, [],0,([] :List Entry)⟩:ae)).length=l.length+1:=by simp;omega
     simp only[hT,hD,hL];have hX:[x].take (l.length+1 - c)=[x]:=by rw[List.take_of_length_le];simp;omega
     have hM:min 1 (l.length+1 - c)=1:=by omega
     have hR:(List.replicate (l.length+1 - c) (⟨0,0,0, [],0,([] :List Entry)⟩:ae)).drop 1=List.replicate (l.length - c) (⟨0,0,0, [],0,([] :List Entry)⟩:ae):=by rw[List.drop_replicate];congr 1;omega
     simp only[hX,hM,hR];have hL2:(l.take c++([x]++List.replicate (l.length - c) (⟨0,0,0, [],0,([] :List Entry)⟩:ae))).length=l.length+1:=by simp;omega
     simp only[hL2];have hM2:min (l.length - c) (l.length+1 - (c+1))=l.length - c:=by omega
     simp only[hM2];rw[aN (by simp),bZ (by unfold LIM;omega),aN (by simp;omega),aN (by simp;omega),aN (by simp;omega),aN (by simp;omega),aN (by simp;omega),aN (by simp;omega),aN (by simp;omega),aN (by simp;omega),aN (by simp;omega)];have e4:l.take c++([x]++List.replicate (l.length - c) (⟨0,0,0, [],0,([] :List Entry)⟩:ae))=(l.take c++[x])++List.replicate (l.length - c) (⟨0,0,0, [],0,([] :List Entry)⟩:ae):=by simp
     have hA1:(l.take c++[x]).length=c+1:=by simp;omega
     have hT4:(l.take c++([x]++List.replicate (l.length - c) (⟨0,0,0, [],0,([] :List Entry)⟩:ae))).take (c+1)=l.take c++[x]:=by rw[e4];exact take_set hA1
     have hD4:(l.take c++([x]++List.replicate (l.length - c) (⟨0,0,0, [],0,([] :List Entry)⟩:ae))).drop (c+1+(l.length - c))= [] :=by rw[List.drop_eq_nil_of_le];rw[hL2];omega
     have hQ:(l.drop c).take (l.length - c)=l.drop c:=by rw[List.take_of_length_le];simp
     rw[hT4,hD4,hQ];simp
    ·rw[bK (by simp;omega)]
     have hM:min (l.length+1 - c) (l.length+1 - (c+1))=l.length - c:=by omega
     simp only[hM,Nat.zero_add];have hQ:(l.drop c).take (l.length - c)=l.drop c:=by rw[List.take_of_length_le];simp
     have hX:[x].take (l.length+1 - c)=[x]:=by rw[List.take_of_length_le];simp;omega
     have hM2:min 1 (l.length+1 - c)=1:=by omega
     simp only[hQ,hX,hM2,List.drop_zero];rw[aN (by simp;omega),aN (by simp;omega),aN (by simp),aN (by simp;omega),aN (by simp;omega),aN (by simp;omega),aN (by simp;omega)];have hc1:c+1≤l.length:=by omega
     rw[aN (by simp;omega),bK (Dw (by omega)),aN (by simp;omega),aN (by simp;omega),aN (by simp;omega)];have hT1:(l.take (c+1)++l.drop c).take c=l.take c:=by rw[List.take_append_of_le_length (by simp;omega),List.take_take];congr 1;omega
     have hD1:((l.take (c+1)++l.drop c).drop c).drop 1=l.drop c:=by rw[List.drop_drop];exact drop_set (by simp;omega)
     rw[hT1,hD1];rw[List.take_of_length_le (by simp;omega)];simp
 ·obtain⟨y,hx,hn⟩:=w6 h
  have e9:bH x l=l.set (kb x.ino l) x:=zf loI hs hx hn;rw[e9];have hc':=(List.getElem?_eq_some_iff.1 hx).1;generalize kb x.ino l=c at hx hc hc';refine jO (fun e=>by subst e;simp at hx) ?_;rw[bZ (by unfold LIM;simp;omega)];simp only[aC,List.nil_append,toNat_cast,hx,ai];rw[aN (by simp;omega)]
theorem pZ {α κ R:Type} [DecidableEq κ] {key:α→κ} {k:κ} (kr:α→Option R) (k0:Option R):∀(l:List α) (i:Nat) (s:Unit),dW (fun _ x s K=>if decide (key x=k) then kr x else K s) (fun _=>k0) i l s=match b5 key k l with|some x=>kr x|none=>k0
 | [],_,_=>rfl
 |x::l,i,s=>by
  simp only[dW];unfold b5;rw[List.find?_cons];by_cases h:key x=k
  ·simp [h]
  ·simp only[h,decide_false,Bool.false_eq_true,if_false]
   have:=pZ (key:=key) (k:=k) kr k0 l (i+1) s;unfold b5 at this;rw[this]
theorem kE (a b:Int):(a==b)=decide (a=b):=by rw[Bool.eq_iff_iff,beq_iff_eq,decide_eq_true_eq]
theorem mg (a b:Int):(a !=b)= !decide (a=b):=by rw[bne,kE]
theorem cP {f:Fs} {n:Int} (hl:f.aa.length≤1073741824):bB f n=some (aK n f.aa,(au n f.aa).isSome):=by
 unfold bB;refine(bY (l:=f.aa) (fun m i (_:Unit)=>g_ n f (fun z10=>some (z10,true)) (some ((⟨0,0,0, [],0,([] :List Entry)⟩:ae),false)) m i) (fun _ (x:ae) s K=>if decide (x.ino=n) then some (x,true) else K s) (fun _=>some (kj,false)) (by omega) (fun m k x u hk hx=> ?_) (fun m u=> ?_) ()).trans ?_
 ·simp only[g_]
  rw[dec_lt hk,bS,toNat_cast,hx,bc (by omega)];simp only[aC,ai,aV,if_true,kE]
 ·simp only[g_]
  rw[b6 (Nat.le_refl _)];rfl
 ·rw[pZ (key:=ae.ino) (k:=n) (fun x=>some (x,true)) _]
  unfold aK au;cases b5 ae.ino n f.aa<;>rfl
theorem mn {f:Fs} {n:Int} (hl:f.aa.length≤1073741824):dj f n=some (f.drop n):=by
 unfold dj;refine(bY (l:=f.aa) (fun m i s=>fj n f (fun z11=>some (⟨f.ar,f.aw,f.next,z11⟩:Fs)) m i s) (fun _ (x:ae) s K=>if !decide (x.ino=n) then aQ (s.length+[x].length) (K (s++[x])) else K s) (fun z11=>some (⟨f.ar,f.aw,f.next,z11⟩:Fs)) (by omega) (fun m k x s hk hx=> ?_) (fun m s=> ?_) []).trans ?_
 ·simp only[fj]
  rw[dec_lt hk,bS,toNat_cast,hx,bc (by omega)];simp only[aC,ai,aV,if_true,mg]
 ·simp only[fj]
  rw[b6 (Nat.le_refl _)];rfl
 ·rw[mH _ _ _ _ _ (by unfold LIM;simp;omega)];rfl
theorem cO {f:Fs} {x:ae} (hl:f.aa.length≤1073741824):b7 f x=some (f.set x):=by
 unfold b7;rw[mn hl];simp only[ai];have hfl:(dn x.ino f.aa).length≤f.aa.length:=dt (key:=ae.ino);unfold Fs.set Fs.drop bH nD;show _=some (⟨f.ar,f.aw,f.next,iG ltI ae.ino x (dn x.ino f.aa)⟩:Fs);generalize dn x.ino f.aa=rest at hfl⊢;refine(bY (l:=rest) (fun m i s=>eY rest x (fun z18 z19=>ah (!z18) (aQ (z19.length+[x].length) (some (⟨f.ar,f.aw,f.next,(z19++[x])⟩:Fs))) (some (⟨f.ar,f.aw,f.next,z19⟩:Fs))) m s.1 i s.2)
  (fun _ y (s:Bool×List ae) K=>if !s.1 then (if ltI x.ino y.ino then aQ (s.2.length+[x].length) (aQ ((s.2++[x]).length+[y].length) (K (true,(s.2++[x])++[y]))) else aQ (s.2.length+[y].length) (K (s.1,s.2++[y]))) else aQ (s.2.length+[y].length) (K (s.1,s.2++[y])))
  (fun s=>if !s.1 then aQ (s.2.length+[x].length) (some (⟨f.ar,f.aw,f.next,s.2++[x]⟩:Fs)) else some (⟨f.ar,f.aw,f.next,s.2⟩:Fs)) (by omega) (fun m k y s hk hx=> ?_) (fun m s=> ?_) (false, [])).trans ?_
 ·simp only[eY]
  rw[dec_lt hk,bS,toNat_cast,hx,bc (by omega)];simp only[aC,ai,aV,if_true,ltI,gt_iff_lt]
 ·simp only[eY]
  rw[b6 (Nat.le_refl _),ay];simp only[aV]
 ·rw[kI (lt:=ltI) (key:=ae.ino) x (fun z=>some (⟨f.ar,f.aw,f.next,z⟩:Fs)) _ _ _ (by unfold LIM;simp;omega)]
  rfl
theorem RE (a b:ae):decide (a=b)=(decide (a.ino=b.ino)&&(decide (a.kind=b.kind)&&(decide (a.aq=b.aq)&&(decide (a.data=b.data)&&(decide (a.parent=b.parent)&&decide (a.entries=b.entries)))))):=by
 rw[Bool.eq_iff_iff];cases a;cases b;simp
theorem yI {a b:ae} (hl:a.entries.length≤1073741824):oI a b=some (decide (a=b)):=by
 unfold oI;rw[we hl,RE];simp only[kE,ta,aV,ai];by_cases h1:a.ino=b.ino
 ·by_cases h2:a.kind=b.kind
  ·by_cases h3:a.aq=b.aq
   ·by_cases h4:a.data=b.data
    ·by_cases h5:a.parent=b.parent
     ·simp [h1,h2,h3,h4,h5]
     ·simp [h1,h2,h3,h4,h5]
    ·simp [h1,h2,h3,h4]
   ·simp [h1,h2,h3]
  ·simp [h1,h2]
 ·simp [h1]
theorem pe {a b:List ae} (hl:a.length≤1073741824) (he:∀x∈a,x.entries.length≤1073741824):kT a b=some (decide (a=b)):=by
 unfold kT;rw[aV];by_cases h:a.length=b.length
 ·have e:((List.length a:Int) !=(List.length b:Int))=false:=by rw[h];simp
  rw[e,if_neg (by simp)];refine(bY (l:=a) (fun m i (_:Unit)=>fU a b (some false) (some true) m i) (fun k x (_:Unit) K=>aj ([] ++b)[k]? fun y=>if decide (x=y) then K () else some false) (fun _=>some true) (by omega) (fun m k x u hk hx=> ?_) (fun m u=> ?_) ()).trans ?_
  ·simp only[fU]
   rw[dec_lt hk,bS,toNat_cast,hx,bc (by omega)];simp only[aC,ai,aV,if_true,List.nil_append];have hk':k<b.length:=by omega
   rw[List.getElem?_eq_getElem hk'];simp only[ai];rw[yI (he x (List.mem_of_getElem? hx))];simp only[ai];by_cases hxy:x=b[k]<;>simp [hxy]
  ·simp only[fU]
   rw[b6 (Nat.le_refl _)];rfl
  ·rw[jf _ _ a b 0 [] h rfl]
   by_cases hab:a=b<;>simp [hab]
 ·have e:((List.length a:Int) !=(List.length b:Int))=true:=by rw[bne_iff_ne];omega
  rw[e,if_pos rfl];have:¬a=b:=fun e=>h (by rw[e])
  simp [this]
theorem Qy (a b:Fs):decide (a=b)=(decide (a.ar=b.ar)&&(decide (a.aw=b.aw)&&(decide (a.next=b.next)&&decide (a.aa=b.aa)))):=by
 rw[Bool.eq_iff_iff];cases a;cases b;simp
theorem mf {a b:Fs} (hl:a.aa.length≤1073741824) (he:∀x∈a.aa,x.entries.length≤1073741824):jv a b=some (decide (a=b)):=by
 unfold jv;rw[pe hl he,Qy];simp only[kE,aV,ai];by_cases h1:a.ar=b.ar
 ·by_cases h2:a.aw=b.aw
  ·by_cases h3:a.next=b.next
   ·simp [h1,h2,h3]
   ·simp [h1,h2,h3]
  ·simp [h1,h2]
 ·simp [h1]
end Go.Eng
set_option linter.unusedSimpArgs false
set_option linter.unusedVariables false
namespace Go.Eng
open Go
def bytesOf (l:List ae):Int:=(l.map fun x=>if x.kind=1 then (x.data.length:Int) else 0).sum
def dv (f:Fs) (a b:Int):Bool:=decide ((f.aa.length:Int)+a≤f.ar)&&decide (bytesOf f.aa+b≤f.aw)
structure SmF (f:Fs):Prop where
 len:f.aa.length≤1073741824
 data:∀x∈f.aa,x.data.length≤1073741824
 de:∀x∈f.aa,x.entries.length≤1073741824
 names:∀x∈f.aa,∀e∈x.entries,e.name.length≤1099511627775
theorem ni (x:ae) (l:List ae):bytesOf (x::l)=(if x.kind=1 then (x.data.length:Int) else 0)+bytesOf l:=by simp [bytesOf]
theorem pQ (l:List ae):0≤bytesOf l:=by
 induction l with
 |nil=>simp [bytesOf]
 |cons x l ih=>rw[ni];split<;>omega
theorem CN {N:Nat} {l:List ae} (h:∀x∈l,x.data.length≤N):bytesOf l≤((l.length*N:Nat):Int):=by
 induction l with
 |nil=>simp [bytesOf]
 |cons x l ih=>
  have h1:=ih (fun y hy=>h y (by simp [hy]));have h2:=h x (by simp);rw[ni,List.length_cons,Nat.succ_mul];split<;>omega
theorem SmF.bytes {f:Fs} (h:SmF f):bytesOf f.aa≤1152921504606846976:=by
 have h1:=CN h.data;have h2:f.aa.length*1073741824≤1073741824*1073741824:=Nat.mul_le_mul_right _ h.len;omega
theorem nj {R:Type} (kk:Int→Option R):∀(l:List ae) (k:Nat) (s:Int),0≤s→s+bytesOf l≤4611686018427387904→
 dW (fun _ (x:ae) s K=>if decide (x.kind=1) then K (IntKind.i64.wrap (s+(x.data.length:Int))) else K s) kk k l s=kk (s+bytesOf l)
 | [],k,s,_,_=>by simp [dW,bytesOf]
 |x::l,k,s,h0,h=>by
  have hn:=pQ l;rw[ni] at h⊢;simp only[dW];by_cases hk:x.kind=1
  ·rw[if_pos hk] at h
   rw[if_pos (by simp [hk]),if_pos hk,b9 (by omega) (by omega),nj kk l (k+1) _ (by omega) (by omega),Int.add_assoc]
  ·rw[if_neg hk] at h
   rw[if_neg (by simp [hk]),if_neg hk,nj kk l (k+1) _ (by omega) (by omega)];simp
theorem wA {f:Fs} (h:SmF f):m7 f=some (bytesOf f.aa):=by
 have hs:=h.bytes;have hl:=h.len;unfold m7;refine(bY (l:=f.aa) (fun n i s=>fa (f.aa.length:Int) f (fun z8=>some z8) n s i) (fun _ (x:ae) s K=>if decide (x.kind=1) then K (IntKind.i64.wrap (s+(x.data.length:Int))) else K s) (fun z=>some z) (by omega) (fun n k x s hk hx=> ?_) (fun n s=> ?_) 0).trans ?_
 ·simp only[fa]
  rw[dec_lt hk,bS,toNat_cast,hx,bc (by omega)];simp only[aC,ai,aV,if_true,kE]
 ·simp only[fa]
  rw[b6 (Nat.le_refl _)];rfl
 ·rw[nj _ _ _ _ (by omega) (by omega)];simp
theorem vn {f:Fs} (h:SmF f):lQ f=some (bytesOf f.aa):=by
 have hs:=h.bytes;have hl:=h.len;unfold lQ;refine(bY (l:=f.aa) (fun n i s=>eB f (fun z7=>some z7) n s i) (fun _ (x:ae) s K=>if decide (x.kind=1) then K (IntKind.i64.wrap (s+(x.data.length:Int))) else K s) (fun z=>some z) (by omega) (fun n k x s hk hx=> ?_) (fun n s=> ?_) 0).trans ?_
 ·simp only[eB]
  rw[dec_lt hk,bS,toNat_cast,hx,bc (by omega)];simp only[aC,ai,aV,if_true,kE]
 ·simp only[eB]
  rw[b6 (Nat.le_refl _)];rfl
 ·rw[nj _ _ _ _ (by omega) (by omega)];simp
def Far (n:Int):Prop:= -1152921504606846976≤n∧n≤1152921504606846976
theorem gX {f:Fs} {a b:Int} (h:SmF f) (ha:Far a) (hb:Far b):fx f a b=some (dv f a b):=by
 have hs:=h.bytes;have h0:=pQ f.aa;have hl:=h.len;unfold Far at ha hb;unfold fx dv n0;rw[wA h];simp only[ai,aV];rw[b9 (by omega) (by omega),b9 (by omega) (by omega)];by_cases h1:(f.aa.length:Int)+a≤f.ar<;>simp [h1]
theorem fQ {f:Fs} {a b:Int} (h:SmF f) (ha:Far a) (hb:Far b):eH f a b=some (dv f a b):=by
 have hs:=h.bytes;have h0:=pQ f.aa;have hl:=h.len;unfold Far at ha hb;unfold eH dv;rw[vn h];simp only[ai,aV];rw[b9 (by omega) (by omega),b9 (by omega) (by omega)];by_cases h1:(f.aa.length:Int)+a≤f.ar
 ·have h2:¬f.ar<(f.aa.length:Int)+a:=by omega
  simp [h1,h2]
 ·have h2:f.ar<(f.aa.length:Int)+a:=by omega
  simp [h1,h2]
def E2 (x:ae):Bool:=decide (x.data.length≤5000)&&(decide (x.entries.length≤40)&&x.entries.all fun e=>decide (e.name.length≤300))
def m9 (f:Fs):Bool:=(f.aa.take 100).all E2&&decide (f.aa.length≤40)
theorem fV {α R:Type} (p:α→Bool) (kr k0:Option R):∀(l:List α) (k:Nat) (s:Unit),dW (fun _ x s K=>if p x then K s else kr) (fun _=>k0) k l s=if l.all p then k0 else kr
 | [],_,_=>rfl
 |x::l,k,s=>by
  by_cases h:p x=true
  ·have e:(x::l).all p=l.all p:=by simp [h]
   rw[e];simp only[dW];rw[if_pos h];exact fV p kr k0 l (k+1) s
  ·have e:(x::l).all p=false:=by simp [h]
   rw[e];simp [dW,h]
theorem tl {R:Type} {x:ae} {kr k2:Option R} (hl:x.entries.length≤1073741824):fB x kr k2 bg (0:Int)=if x.entries.all (fun e=>decide (e.name.length≤300)) then k2 else kr:=by
 refine(bY (l:=x.entries) (fun n i (s:Unit)=>fB x kr k2 n i) (fun _ (e:Entry) s K=>if decide (e.name.length≤300) then K s else kr) (fun _=>k2) (by omega) (fun n k e s hk hx=> ?_) (fun n s=> ?_) ()).trans ?_
 ·simp only[fB]
  rw[dec_lt hk,bS,toNat_cast,hx,bc (by omega)];simp only[aC,ai,aV,if_true];by_cases h:e.name.length≤300
  ·have h2:¬(300:Int)<(e.name.length:Int):=by omega
   simp [h,h2]
  ·have h2:(300:Int)<(e.name.length:Int):=by omega
   simp [h,h2]
 ·simp only[fB]
  rw[b6 (Nat.le_refl _)];rfl
 ·exact fV _ _ _ _ _ _
theorem qI {f:Fs} (hl:f.aa.length≤1073741824) (he:∀x∈f.aa,x.entries.length≤1073741824):jn f=some (m9 f):=by
 unfold jn;refine(bY (l:=f.aa.take 100) (fun n i (s:Unit)=>gU f (some false) (some (decide ((f.aa.length:Int)≤(40:Int)))) n i) (fun _ x s K=>if E2 x then K s else some false) (fun _=>some (decide ((f.aa.length:Int)≤(40:Int)))) (by simp;omega) (fun n k x s hk hx=> ?_) (fun n s=> ?_) ()).trans ?_
 ·have hk':k<f.aa.length∧k<100:=by simp at hk;omega
  have hx':f.aa[k]? =some x:=by rw[List.getElem?_take_of_lt hk'.2] at hx;exact hx
  have hxm:=he x (List.mem_of_getElem? hx');simp only[gU];have h100:decide ((k:Int)<(100:Int))=true:=by simp;omega
  rw[dec_lt hk'.1,h100,bS,toNat_cast,hx',bc (by omega)];simp only[aC,ai,aV,if_true];rw[tl hxm];unfold E2;by_cases h1:x.data.length≤5000
  ·have h1':¬(5000:Int)<(x.data.length:Int):=by omega
   by_cases h2:x.entries.length≤40
   ·have h2':¬(40:Int)<(x.entries.length:Int):=by omega
    simp [h1,h1',h2,h2']
   ·have h2':(40:Int)<(x.entries.length:Int):=by omega
    simp [h1,h1',h2,h2']
  ·have h1':(5000:Int)<(x.data.length:Int):=by omega
   simp [h1,h1']
 ·simp only[gU]
  by_cases h:f.aa.length≤100
  ·have e:(f.aa.take 100).length=f.aa.length:=by simp;omega
   rw[e,b6 (Nat.le_refl _)];rfl
  ·have e:(f.aa.take 100).length=100:=by simp;omega
   rw[e];have h1:decide (((100:Nat):Int)<(f.aa.length:Int))=true:=by simp;omega
   rw[h1];rfl
 ·rw[fV]
  unfold m9;have e:decide ((f.aa.length:Int)≤(40:Int))=decide (f.aa.length≤40):=by rw[decide_eq_decide];omega
  rw[e];by_cases h9:(f.aa.take 100).all E2=true
  ·rw[if_pos h9,h9];rfl
  ·rw[if_neg h9]
   have:(f.aa.take 100).all E2=false:=by simpa using h9
   rw[this];rfl
theorem oK {f:Fs} (h:m9 f=true):f.aa.length≤40∧∀x∈f.aa,x.data.length≤5000∧x.entries.length≤40∧∀e∈x.entries,e.name.length≤300:=by
 unfold m9 at h;simp only[Bool.and_eq_true,decide_eq_true_eq] at h;obtain⟨h1,h2⟩:=h;rw[List.take_of_length_le (by omega),List.all_eq_true] at h1;refine⟨h2,fun x hx=> ?_⟩;have:=h1 x hx;unfold E2 at this;simp only[Bool.and_eq_true,decide_eq_true_eq,List.all_eq_true] at this;exact this
theorem SmF.Gv {f:Fs} (h:m9 f=true):SmF f:=by
 obtain⟨h1,h2⟩:=oK h;exact⟨by omega,fun x hx=>by have:=(h2 x hx).1;omega,fun x hx=>by have:=(h2 x hx).2.1;omega,fun x hx e he=>by have:=(h2 x hx).2.2 e he;omega⟩
def gM:List ae→Bool
 | [] =>true
 |[_]=>true
 |x::y::l=>decide (x.ino<y.ino)&&gM (y::l)
theorem jq:∀l:List ae,gM l=true↔cA l
 | [] =>by simp [gM,cA,cU]
 |[x]=>by simp [gM,cA,cU]
 |x::y::l=>by
  have ih:=jq (y::l);unfold cA cU at ih⊢;rw[List.pairwise_cons];simp only[gM,Bool.and_eq_true,ih,decide_eq_true_eq];constructor
  ·rintro⟨h1,h2⟩
   refine⟨fun z hz=> ?_,h2⟩;rw[List.pairwise_cons] at h2;simp only[List.mem_cons] at hz;rcases hz with rfl|hz
   ·simp [ltI,h1]
   ·have:=h2.1 z hz
    simp only[ltI,decide_eq_true_eq] at this⊢;omega
  ·rintro⟨h1,h2⟩
   have:=h1 y (by simp);simp only[ltI,decide_eq_true_eq] at this;exact⟨this,h2⟩
theorem rP:∀(a:List ae) (x y:ae) (l:List ae),gM (a++x::y::l)=(gM (a++[x])&&(decide (x.ino<y.ino)&&gM (y::l)))
 | [],x,y,l=>by simp [gM]
 |[z],x,y,l=>by simp [gM,Bool.and_assoc]
 |z::z2::a,x,y,l=>by
  have:=rP (z2::a) x y l;simp only[List.cons_append] at this⊢;simp only[gM,this,Bool.and_assoc]
theorem pA {f:Fs} (hl:f.aa.length≤1073741824):k6 f=some (gM f.aa):=by
 unfold k6;have key:∀(n k:Nat),1≤k→f.aa.length - k<n→gM (f.aa.take k)=true→ia f (some false) (some true) n (k:Int)=some (gM f.aa):=by
  intro n;induction n with
  |zero=>intro k _ h;omega
  |succ n ih=>
   intro k h1 hn hr;simp only[ia];by_cases hk:k<f.aa.length
   ·rw[dec_lt hk,aC,w7 (by omega) (by omega),bS,aC,toNat_cast,List.getElem?_eq_getElem (by omega),ai,bS,aC,toNat_cast,List.getElem?_eq_getElem hk,ai,bc (by omega)]
    have e1:f.aa.take k=f.aa.take (k - 1)++[f.aa[k - 1]]:=by
     have:k=(k - 1)+1:=by omega
     conv=>lhs;rw[this]
     rw[List.take_add_one,List.getElem?_eq_getElem (by omega)];rfl
    have e2:f.aa=f.aa.take (k - 1)++f.aa[k - 1]::f.aa[k]::f.aa.drop (k+1):=by
     conv=>lhs;rw[←List.take_append_drop (k - 1) f.aa]
     rw[List.drop_eq_getElem_cons (i:=k - 1) (by omega)];have:k - 1+1=k:=by omega
     rw[this,List.drop_eq_getElem_cons hk]
    by_cases h:f.aa[k - 1].ino<f.aa[k].ino
    ·rw[bK (by simp;omega)]
     refine ih (k+1) (by omega) (by omega) ?_;have e3:f.aa.take (k+1)=f.aa.take (k - 1)++f.aa[k - 1]::[f.aa[k]]:=by
      rw[List.take_add_one,List.getElem?_eq_getElem hk];conv=>lhs;rw[e1]
      rw[List.append_assoc];rfl
     rw[e3,rP,←e1,hr];simp [gM,h]
    ·rw[aN (by simp;omega)]
     rw[e2,rP];simp [h]
   ·rw[b6 (by omega),ay]
    rw[List.take_of_length_le (by omega)] at hr;rw[hr]
 refine key bg 1 (Nat.le_refl _) (gZ (by omega)) ?_;cases h:f.aa with
 |nil=>rfl
 |cons x l=>simp [gM]
def pY (f:Fs):Bool:=decide (1≤f.ar∧f.ar≤1073741824∧0≤f.aw∧f.aw≤1073741824∧f.next≤1099511627776)&&(f.aa.all (fun x=>decide (1≤x.ino∧x.ino<f.next))&&(gM f.aa&&((au 1 f.aa).isSome&&decide ((aK 1 f.aa).kind=2))))
theorem uJ {f:Fs} (hl:f.aa.length≤1073741824):lS f=some (pY f):=by
 unfold lS pY;rw[cP hl,pA hl];simp only[ai];by_cases h1:f.ar<1
 ·rw[aN (by simp [h1]),decide_eq_false (by omega)];rfl
 rw[bK (by simp [h1])];by_cases h2:f.ar>1073741824
 ·rw[aN (by simp [h2]),decide_eq_false (by omega)];rfl
 rw[bK (by simp [h2])];by_cases h3:f.aw<0
 ·rw[aN (by simp [h3]),decide_eq_false (by omega)];rfl
 rw[bK (by simp [h3])];by_cases h4:f.aw>1073741824
 ·rw[aN (by simp [h4]),decide_eq_false (by omega)];rfl
 rw[bK (by simp [h4])];by_cases h5:f.next>1099511627776
 ·rw[aN (by simp [h5]),decide_eq_false (by omega)];rfl
 rw[bK (by simp [h5]),decide_eq_true (by omega),Bool.true_and];generalize hk0:(ah (gM f.aa) (ah (au 1 f.aa).isSome (some ((aK 1 f.aa).kind==(2:Int))) (some false)) (some false))=k0;have e0:k0=some (gM f.aa&&((au 1 f.aa).isSome&&decide ((aK 1 f.aa).kind=2))):=by
  rw[←hk0,kE];cases gM f.aa<;>cases (au 1 f.aa).isSome<;>rfl
 refine(bY (l:=f.aa) (fun m i (_:Unit)=>fm f (some false) k0 m i) (fun _ (x:ae) s K=>if decide (1≤x.ino∧x.ino<f.next) then K s else some false) (fun _=>k0) (by omega) (fun m k x u hk hx=> ?_) (fun m u=> ?_) ()).trans ?_
 ·simp only[fm]
  rw[dec_lt hk,bS,toNat_cast,hx,bc (by omega)];simp only[aC,ai,aV,if_true];by_cases h6:x.ino<1
  ·have:¬(1≤x.ino∧x.ino<f.next):=by omega
   simp [h6,this]
  ·by_cases h7:x.ino≥f.next
   ·have:¬(1≤x.ino∧x.ino<f.next):=by omega
    have h7':f.next≤x.ino:=h7;simp [h6,h7',this]
   ·have:1≤x.ino∧x.ino<f.next:=by omega
    have h7':¬f.next≤x.ino:=h7;simp [h6,h7',this]
 ·simp only[fm]
  rw[b6 (Nat.le_refl _)];rfl
 ·rw[fV,e0]
  by_cases h9:f.aa.all (fun x=>decide (1≤x.ino∧x.ino<f.next))=true
  ·rw[if_pos h9,h9,Bool.true_and]
  ·rw[if_neg h9]
   have:f.aa.all (fun x=>decide (1≤x.ino∧x.ino<f.next))=false:=by simpa using h9
   rw[this,Bool.false_and]
def fA (x:ae):Bool:=(decide (x.kind=1)&&(x.entries.isEmpty&&decide (x.parent=0)))||((decide (x.kind=2)&&(decide (x.data= [])&&f_ x.entries))||(decide (x.kind=3)&&(x.entries.isEmpty&&(decide (x.parent=0)&&(decide (1≤x.data.length∧x.data.length≤4095)&& !(x.data.any (fun b=>b==0)))))))
def mW (f:Fs):Bool:=f.aa.all fA
theorem Bf {R:Type} {x:ae} {kr k2:Option R} (hl:x.data.length≤1073741824):aP x kr k2 bg (0:Int)=if decide (x.kind=3)&&x.data.any (fun b=>b==0) then kr else k2:=by
 by_cases h3:x.kind=3
 ·refine(bY (l:=x.data) (fun m i (_:Unit)=>aP x kr k2 m i) (fun _ (b:UInt8) s K=>if b==0 then kr else K s) (fun _=>k2) (by omega) (fun m k b u hk hx=> ?_) (fun m u=> ?_) ()).trans ?_
  ·simp only[aP]
   rw[dec_lt hk,bS,toNat_cast,hx,bc (by omega),aN rfl,aN (by simp [h3]),aN rfl,ai,aV];have:((UInt8.toNat b:Int)==(0:Int))=(b==0):=jt b 0 (by omega);rw[this]
  ·simp only[aP]
   rw[b6 (Nat.le_refl _)];rfl
  ·rw[mL (fun b:UInt8=>b==0) (fun _ _=>kr) k2 kr (fun _ _=>rfl)]
   simp [h3]
 ·obtain⟨m,hm⟩:=Ge
  rw[hm];simp only[aP];rw[if_neg (by simp [h3])];cases decide ((0:Int)<(List.length x.data:Int))
  ·rfl
  ·rw[aC,bK (by simp [h3])]
theorem zJ {x:ae} (h:x.kind=1):fA x=(x.entries.isEmpty&&decide (x.parent=0)):=by
 unfold fA;simp [h]
theorem Ax {x:ae} (h:x.kind=2):fA x=(decide (x.data= [])&&f_ x.entries):=by
 unfold fA;simp [h]
theorem AH {x:ae} (h:x.kind=3):fA x=(x.entries.isEmpty&&(decide (x.parent=0)&&(decide (1≤x.data.length∧x.data.length≤4095)&& !(x.data.any (fun b=>b==0))))):=by
 unfold fA;simp [h]
theorem GO {x:ae} (h1:¬x.kind=1) (h2:¬x.kind=2) (h3:¬x.kind=3):fA x=false:=by
 unfold fA;simp [h1,h2,h3]
theorem zp {α:Type} (l:List α):decide ((List.length l:Int)>(0:Int))= !l.isEmpty:=by
 cases l with
 |nil=>rfl
 |cons x l=>simp
theorem s7 {f:Fs} (h:SmF f):kx f=some (mW f):=by
 have hl:=h.len;unfold kx mW;refine(bY (l:=f.aa) (fun m i (_:Unit)=>aY f (some false) (some true) m i) (fun _ (x:ae) s K=>if fA x then K s else some false) (fun _=>some true) (by omega) (fun m k x u hk hx=> ?_) (fun m u=> ?_) ()).trans ?_
 ·simp only[aY]
  have hxm:=List.mem_of_getElem? hx;have hsm:Sm x.entries:=⟨h.de x hxm,h.names x hxm⟩;rw[dec_lt hk,bS,toNat_cast,hx,bc (by omega)];simp only[aC,ai,tW hsm,Bf (h.data x hxm),zp,mg,kE,ta];by_cases h1:x.kind=1
  ·rw[zJ h1]
   have e2:¬x.kind=2:=by omega
   have e3:¬x.kind=3:=by omega
   rw[bK (by simp [h1]),aN (by simp [e2])];simp only[h1];cases x.entries.isEmpty
   ·rfl
   ·by_cases hp:x.parent=0
    ·simp [hp]
    ·simp [hp]
  ·rw[aN (by simp [h1])]
   by_cases h2:x.kind=2
   ·rw[Ax h2]
    have e3:¬x.kind=3:=by omega
    rw[bK (by simp [h2]),bK (by simp [h2]),aN (by simp [h2])];simp only[h2];by_cases hd:x.data= []
    ·simp only[hd]
     cases f_ x.entries<;>simp
    ·simp [hd]
   ·rw[aN (by simp [h2])]
    by_cases h3:x.kind=3
    ·rw[AH h3,bK (by simp [h3]),aN (by simp [h2])]
     simp only[h3];cases x.entries.isEmpty
     ·rfl
     ·by_cases hp:x.parent=0
      ·by_cases hd1:x.data.length<1
       ·have:¬(1≤x.data.length∧x.data.length≤4095):=by omega
        have hd1':((List.length x.data:Int)<1):=by omega
        simp [hp,hd1',this]
       ·by_cases hd2:x.data.length>4095
        ·have:¬(1≤x.data.length∧x.data.length≤4095):=by omega
         have hd1':¬((List.length x.data:Int)<1):=by omega
         have hd2':(4095:Int)<(List.length x.data:Int):=by omega
         simp [hp,hd1',hd2',this]
        ·have:1≤x.data.length∧x.data.length≤4095:=by omega
         have hd1':¬((List.length x.data:Int)<1):=by omega
         have hd2':¬(4095:Int)<(List.length x.data:Int):=by omega
         rw[decide_eq_true this,decide_eq_true hp];cases hany:x.data.any (fun b=>b==0)
         ·simp [hp,hd1',hd2']
         ·simp [hp,hd1',hd2']
      ·simp [hp]
    ·rw[GO h1 h2 h3,aN (by simp [h3])];rfl
 ·simp only[aY]
  rw[b6 (Nat.le_refl _)];rfl
 ·rw[fV];exact Dv
end Go.Eng
set_option linter.unusedSimpArgs false
set_option linter.unusedVariables false
namespace Go.Eng
open Go
def p9 (f:Fs):Bool:=f.aa.all fun x=>x.entries.all fun e=>(au e.ino f.aa).isSome
theorem G8 {R:Type} {f:Fs} {k:Nat} {x:ae} {kr k2:Option R} (hx:f.aa[k]? =some x) (hl:f.aa.length≤1073741824) (he:x.entries.length≤1073741824):er (k:Int) f kr k2 bg (0:Int)=if x.entries.all (fun e=>(au e.ino f.aa).isSome) then k2 else kr:=by
 refine(bY (l:=x.entries) (fun m i (_:Unit)=>er (k:Int) f kr k2 m i) (fun _ (e:Entry) s K=>if (au e.ino f.aa).isSome then K s else kr) (fun _=>k2) (by omega) (fun m j e u hj he'=> ?_) (fun m u=> ?_) ()).trans ?_
 ·simp only[er]
  rw[bS,toNat_cast,hx];simp only[aC,ai];rw[dec_lt hj,bS,toNat_cast,he',bc (by omega)];simp only[aC,ai];rw[cP hl];simp only[ai,aV];cases (au e.ino f.aa).isSome<;>rfl
 ·simp only[er]
  rw[bS,toNat_cast,hx];simp only[aC,ai];rw[b6 (Nat.le_refl _)];rfl
 ·exact fV _ _ _ _ _ _
theorem vB {f:Fs} (h:SmF f):lT f=some (p9 f):=by
 have hl:=h.len;unfold lT p9;refine(bY (l:=f.aa) (fun m i (_:Unit)=>fv f (some false) (some true) m i) (fun _ (x:ae) s K=>if x.entries.all (fun e=>(au e.ino f.aa).isSome) then K s else some false) (fun _=>some true) (by omega) (fun m k x u hk hx=> ?_) (fun m u=> ?_) ()).trans ?_
 ·simp only[fv]
  rw[dec_lt hk,aC,G8 hx hl (h.de x (List.mem_of_getElem? hx)),bc (by omega)]
 ·simp only[fv]
  rw[b6 (Nat.le_refl _)];rfl
 ·rw[fV (fun x:ae=>x.entries.all fun e=>(au e.ino f.aa).isSome)]
  exact Dv
def mu (n:Int) (l:List Entry):Nat:=(l.filter fun e=>decide (e.ino=n)).length
def fe (n:Int):List ae→Nat×Int→Nat×Int
 | [],s=>s
 |x::l,s=>fe n l (s.1+mu n x.entries,if mu n x.entries=0 then s.2 else x.ino)
def dH (f:Fs) (n:Int):Nat×Int:=fe n f.aa (0,0)
theorem DZ (n:Int) (e:Entry) (l:List Entry):mu n (e::l)=(if e.ino=n then 1 else 0)+mu n l:=by
 unfold mu;rw[List.filter_cons];by_cases h:e.ino=n<;>simp [h];omega
theorem DN (n:Int) (l:List Entry):mu n l≤l.length:=List.length_filter_le _ _
theorem u7 {n:Int} {l:List Entry} {j:Nat} {e:Entry} (h:l[j]? =some e):mu n (l.take (j+1))=mu n (l.take j)+if e.ino=n then 1 else 0:=by
 unfold mu;rw[List.take_add_one,h];simp only[Option.toList_some,List.filter_append,List.length_append];by_cases h':e.ino=n<;>simp [h']
theorem FM {R:Type} {f:Fs} {n:Int} {k:Nat} {x:ae} {k2:Int→Int→Option R} (hx:f.aa[k]? =some x) (hl:f.aa.length≤1073741824) (he:x.entries.length≤1073741824) {c:Nat} {d:Int} (hc:c≤1152921504606846976):
 dL n (k:Int) f k2 bg (c:Int) d (0:Int)=k2 ((c+mu n x.entries:Nat):Int) (if mu n x.entries=0 then d else x.ino):=by
 refine kK (l:=x.entries) (fun m i (s:Int×Int)=>dL n (k:Int) f k2 m s.1 s.2 i) (fun j s=>s=(((c+mu n (x.entries.take j):Nat):Int),if mu n (x.entries.take j)=0 then d else x.ino)) (fun r=>r=k2 ((c+mu n x.entries:Nat):Int) (if mu n x.entries=0 then d else x.ino)) (by omega) (fun m j e s hj he' hi hr=> ?_) (fun m s hi=> ?_) ((c:Int),d) (by simp [mu])
 ·simp only[dL]
  have hcl:=DN n (x.entries.take j);have hcl':(x.entries.take j).length≤x.entries.length:=by simp;omega
  have ht:=u7 (n:=n) he';rw[bS,toNat_cast,hx];simp only[aC,ai];rw[dec_lt hj,bS,toNat_cast,he',bc (by omega)];simp only[aC,ai,kE,aV,if_true];by_cases h:e.ino=n
  ·rw[if_pos (by simp [h])]
   rw[if_pos h] at ht;refine hr (IntKind.i64.wrap (s.1+1),x.ino) ?_;rw[hi,ht];simp only;rw[bc (by omega)];have:¬mu n (x.entries.take j)+1=0:=by omega
   rw[if_neg this];rfl
  ·rw[if_neg (by simp [h])]
   rw[if_neg h,Nat.add_zero] at ht;refine hr _ ?_;rw[hi,ht];simp only[Nat.add_zero]
 ·simp only[dL]
  rw[List.take_length] at hi;rw[bS,toNat_cast,hx];simp only[aC,ai];rw[b6 (Nat.le_refl _),ay,hi]
theorem uY (n:Int):∀(a b:List ae) (s:Nat×Int),fe n (a++b) s=fe n b (fe n a s)
 | [],_,_=>rfl
 |x::a,b,s=>by simp only[List.cons_append,fe];exact uY n a b _
theorem wY {n:Int} {N:Nat}:∀(l:List ae) (s:Nat×Int),(∀x∈l,x.entries.length≤N)→(fe n l s).1≤s.1+l.length*N
 | [],s,_=>by simp [fe]
 |x::l,s,h=>by
  simp only[fe];have h1:=wY (n:=n) l (s.1+mu n x.entries,if mu n x.entries=0 then s.2 else x.ino) (fun y hy=>h y (by simp [hy]));have h2:=DN n x.entries;have h3:=h x (by simp);rw[List.length_cons,Nat.succ_mul];simp only at h1;omega
theorem u3 {f:Fs} {n:Int} (h:SmF f):lM f n=some (((dH f n).1:Int),(dH f n).2):=by
 have hl:=h.len;unfold lM dH;refine kK (l:=f.aa) (fun m i (s:Int×Int)=>fq n f (fun z25 z26=>some (z25,z26)) m s.1 s.2 i) (fun j s=>s=(((fe n (f.aa.take j) (0,0)).1:Int),(fe n (f.aa.take j) (0,0)).2)) (fun r=>r=some (((fe n f.aa (0,0)).1:Int),(fe n f.aa (0,0)).2)) (by omega) (fun m k x s hk hx hi hr=> ?_) (fun m s hi=> ?_) (0,0) (by simp [fe])
 ·simp only[fq]
  have hb:=wY (n:=n) (N:=1073741824) (f.aa.take k) (0,0) (fun y hy=>h.de y (List.mem_of_mem_take hy));have hk2:(f.aa.take k).length≤1073741824:=by simp;omega
  have hb2:(f.aa.take k).length*1073741824≤1073741824*1073741824:=Nat.mul_le_mul_right _ hk2;rw[dec_lt hk,aC,hi];simp only;rw[FM hx hl (h.de x (List.mem_of_getElem? hx)) (by simp only at hb;omega),bc (by omega)];refine hr (_,_) ?_;rw[List.take_add_one,hx];simp only[Option.toList_some,uY,fe];rfl
 ·simp only[fq]
  rw[List.take_length] at hi;rw[b6 (Nat.le_refl _),ay,hi]
def xc (f:Fs) (x:ae):Bool:=decide (x.aq=(dH f x.ino).1)&&(if x.ino=1 then decide ((dH f x.ino).1=0)&&decide (x.parent=1) else decide (1≤(dH f x.ino).1)&&(if x.kind=2 then decide ((dH f x.ino).1=1)&&decide (x.parent=(dH f x.ino).2) else true))
def mX (f:Fs):Bool:=f.aa.all (xc f)
theorem s_ {f:Fs} (h:SmF f):ky f=some (mX f):=by
 have hl:=h.len;unfold ky mX;refine(bY (l:=f.aa) (fun m i (_:Unit)=>dp f (some false) (some true) m i) (fun _ (x:ae) s K=>if xc f x then K s else some false) (fun _=>some true) (by omega) (fun m k x u hk hx=> ?_) (fun m u=> ?_) ()).trans ?_
 ·simp only[dp]
  rw[dec_lt hk,bS,toNat_cast,hx,bc (by omega)];simp only[aC,ai];rw[u3 h];simp only[ai,mg,kE];unfold xc;by_cases h1:x.aq=((dH f x.ino).1:Int)
  ·simp only[h1,decide_true,Bool.not_true,ay,Bool.true_and]
   by_cases h2:x.ino=1
   ·simp only[h2,decide_true,aC,if_true]
    by_cases h3:(dH f 1).1=0
    ·have h3':((dH f 1).1:Int)=0:=by omega
     simp only[h3,h3',decide_true,Bool.not_true,ay,Bool.true_and];by_cases h4:x.parent=1<;>simp [h4]
    ·have h3':¬((dH f 1).1:Int)=0:=by omega
     simp [h3,h3']
   ·simp only[h2,decide_false,ay,if_false]
    by_cases h3:(dH f x.ino).1<1
    ·have h3':((dH f x.ino).1:Int)<1:=by omega
     have h3'':¬1≤(dH f x.ino).1:=by omega
     simp [h3',h3'']
    ·have h3':¬((dH f x.ino).1:Int)<1:=by omega
     have h3'':1≤(dH f x.ino).1:=by omega
     simp only[h3',h3'',decide_true,decide_false,ay,Bool.true_and];by_cases h4:x.kind=2
     ·simp only[h4,decide_true,aC,if_true]
      by_cases h5:(dH f x.ino).1=1
      ·have h5':((dH f x.ino).1:Int)=1:=by omega
       simp only[h5,h5',decide_true,Bool.not_true,ay,Bool.true_and];by_cases h6:x.parent=(dH f x.ino).2<;>simp [h6]
      ·have h5':¬((dH f x.ino).1:Int)=1:=by omega
       simp [h5,h5']
     ·simp [h4]
  ·simp [h1]
 ·simp only[dp]
  rw[b6 (Nat.le_refl _)];rfl
 ·rw[fV];exact Dv
def visit (s:List Int) (e:Entry):List Int:=if e.ino∈s then s else s++[e.ino]
def mr (x:ae) (s:List Int):List Int:=x.entries.foldl visit s
def iq (l:List ae):Nat→Nat→List Int→List Int
 |0,_,s=>s
 |n+1,i,s=>match s[i]? with|some k=>iq l n (i+1) (mr (aK k l) s) |none=>s
def du (l:List ae):List Int:=1::l.flatMap fun x=>x.entries.map Entry.ino
def yO (l:List ae):List Int:=iq l ((du l).length+1) 0 [1]
def pV (f:Fs):Bool:=decide ((yO f.aa).length=f.aa.length)
theorem oV {l m:List Int} (h:l.Nodup) (hs:∀x∈l,x∈m):l.length≤m.length:=by
 induction l generalizing m with
 |nil=>simp
 |cons x l ih=>
  rw[List.nodup_cons] at h;have hx:=hs x (by simp);have:=ih (m:=m.erase x) h.2 (fun y hy=>by
   have hne:y≠x:=by intro e;subst e;exact h.1 hy
   exact(List.mem_erase_of_ne hne).2 (hs y (by simp [hy])))
  rw[List.length_erase_of_mem hx] at this;have:=List.length_pos_of_mem hx;simp only[List.length_cons];omega
structure nO (l:List ae) (s:List Int):Prop where
 nodup:s.Nodup
 sub:∀x∈s,x∈du l
theorem nO.len {l:List ae} {s:List Int} (h:nO l s):s.length≤(du l).length:=oV h.nodup h.sub
theorem Gs {l:List ae} {s:List Int} {e:Entry} (h:nO l s) (he:e.ino∈du l):nO l (visit s e):=by
 unfold visit;split
 ·exact h
 ·rename_i hn
  refine⟨?_,fun x hx=> ?_⟩
  ·rw[List.nodup_append]
   refine⟨h.nodup,by simp,fun a ha b hb=> ?_⟩;simp at hb;subst hb;intro e';subst e';exact hn ha
  ·simp at hx
   rcases hx with hx|rfl
   ·exact h.sub x hx
   ·exact he
theorem oH {l:List ae}:∀(es:List Entry) {s:List Int},nO l s→(∀e∈es,e.ino∈du l)→nO l (es.foldl visit s)
 | [],s,h,_=>h
 |e::es,s,h,he=>by
  simp only[List.foldl_cons];exact oH es (Gs h (he e (by simp))) (fun e' h'=>he e' (by simp [h']))
theorem EJ {l:List ae} {k:Int} {e:Entry} (h:e∈(aK k l).entries):e.ino∈du l:=by
 unfold aK at h;cases hf:au k l with
 |none=>rw[hf] at h;simp [kj] at h
 |some x=>
  rw[hf] at h;simp only[Option.getD_some] at h;unfold du;rw[List.mem_cons];right;rw[List.mem_flatMap];exact⟨x,(b8 hf).1,List.mem_map.2 ⟨e,h,rfl⟩⟩
theorem rr {l:List ae} {s:List Int} {k:Int} (h:nO l s):nO l (mr (aK k l) s):=oH _ h (fun e he=>EJ he)
theorem j_:∀(es:List Entry) (s:List Int),∃t,es.foldl visit s=s++t
 | [],s=>⟨[],by simp⟩
 |e::es,s=>by
  simp only[List.foldl_cons];obtain⟨t,ht⟩:=j_ es (visit s e);unfold visit at ht⊢;split at ht
  ·rename_i h;rw[if_pos h];exact⟨t,ht⟩
  ·rename_i h;rw[if_neg h];exact⟨e.ino::t,by rw[ht];simp⟩
theorem tg (es:List Entry) (s:List Int):(es.foldl visit s).length≤s.length+es.length:=by
 induction es generalizing s with
 |nil=>simp
 |cons e es ih=>
  simp only[List.foldl_cons,List.length_cons];have:=ih (visit s e);have h2:(visit s e).length≤s.length+1:=by unfold visit;split<;>simp
  omega
theorem D3 {R:Type} {x:ae} {s:List Int} {j:Nat} {e:Entry} {k4:Bool→Option R} (he:x.entries[j]? =some e) (hl:s.length≤1099511627775):dq (j:Int) s x k4 bg false (0:Int)=k4 (decide (e.ino∈s)):=by
 refine kK (l:=s) (fun m i (b:Bool)=>dq (j:Int) s x k4 m b i) (fun k b=>b=decide (e.ino∈s.take k)) (fun r=>r=k4 (decide (e.ino∈s))) hl (fun m k y b hk hy hi hr=> ?_) (fun m b hi=> ?_) false (by simp)
 ·simp only[dq]
  have ht:decide (e.ino∈s.take (k+1))=(decide (e.ino∈s.take k)||decide (y=e.ino)):=by
   rw[List.take_add_one,hy,Bool.eq_iff_iff];simp only[Option.toList_some,List.mem_append,List.mem_singleton,Bool.or_eq_true,decide_eq_true_eq];exact or_congr_right ⟨fun h=>h.symm,fun h=>h.symm⟩
  rw[dec_lt hk,aC,bc (by omega)];cases b
  ·rw[ay,Gy hk,aC,toNat_cast,hy,ai,bS,aC,toNat_cast,he,ai,kE]
   refine hr _ ?_;rw[ht,←hi,Bool.false_or]
  ·rw[aC]
   refine hr _ ?_;rw[ht,←hi];simp
 ·simp only[dq]
  rw[List.take_length] at hi;rw[b6 (Nat.le_refl _),ay,hi]
theorem FK {R:Type} {x:ae} {s:List Int} {k2:List Int→Option R} (hl:s.length+x.entries.length≤1073741824):dK x k2 bg (0:Int) s=k2 (mr x s):=by
 unfold mr;refine kK (l:=x.entries) (fun m i (t:List Int)=>dK x k2 m i t) (fun k t=>t=(x.entries.take k).foldl visit s) (fun r=>r=k2 (x.entries.foldl visit s)) (by omega) (fun m k e t hk he hi hr=> ?_) (fun m t hi=> ?_) s (by simp)
 ·simp only[dK]
  have hlen:=tg (x.entries.take k) s;have hk':(x.entries.take k).length≤x.entries.length:=by simp;omega
  rw[←hi] at hlen;have ht:(x.entries.take (k+1)).foldl visit s=visit t e:=by
   rw[List.take_add_one,he,List.foldl_append,←hi];rfl
  rw[dec_lt hk,aC,D3 he (by omega),bc (by omega),bS,toNat_cast,he];simp only[aC,ai];by_cases hm:e.ino∈t
  ·rw[bK (by simp [hm])]
   refine hr _ ?_;rw[ht];unfold visit;rw[if_pos hm]
  ·rw[aN (by simp [hm]),bZ (by unfold LIM;simp;omega)]
   refine hr _ ?_;rw[ht];unfold visit;rw[if_neg hm]
 ·simp only[dK]
  rw[List.take_length] at hi;rw[b6 (Nat.le_refl _),ay,hi]
theorem G0 {f:Fs} (h:SmF f) (ht:(du f.aa).length≤536870912) (k0:List Int→Option Bool):∀(m n i:Nat) (s:List Int),nO f.aa s→i≤s.length→(du f.aa).length+1 - i≤m→(du f.aa).length+1 - i<n→
 gq f k0 n (i:Int) s=k0 (iq f.aa m i s):=by
 intro m;induction m with
 |zero=>
  intro n i s hv hi hm hn;have:=hv.len;omega
 |succ m ih=>
  intro n i s hv hi hm hn;cases n with
  |zero=>omega
  |succ n=>
   have hlen:=hv.len;simp only[gq,iq];by_cases hlt:i<s.length
   ·rw[dec_lt hlt,aC,Gy hlt,aC,toNat_cast,List.getElem?_eq_getElem hlt,ai,cP h.len,ai]
    have hents:(aK s[i] f.aa).entries.length≤536870912:=by
     unfold aK;cases hf:au s[i] f.aa with
     |none=>simp [kj]
     |some x=>
      have hx:=(b8 hf).1;simp only[Option.getD_some];have h1:x.entries.length≤(f.aa.flatMap fun x=>x.entries.map Entry.ino).length:=by
       obtain⟨a,b,e⟩:=List.append_of_mem hx;rw[e];simp only[List.flatMap_append,List.flatMap_cons,List.length_append,List.length_map];omega
      unfold du at ht;simp only[List.length_cons] at ht;omega
    rw[FK (by simp only;omega),bc (by omega)];have hv':=rr (k:=s[i]) hv;obtain⟨t,htt⟩:=j_ (aK s[i] f.aa).entries s;refine ih n (i+1) _ hv' ?_ (by omega) (by omega);unfold mr;rw[htt];simp;omega
   ·rw[b6 (by omega),ay,List.getElem?_eq_none (by omega)]
theorem BW (l:List ae):nO l [1]:=⟨by simp,fun x hx=>by simp at hx;subst hx;simp [du]⟩
theorem ui {f:Fs} (h:SmF f) (ht:(du f.aa).length≤536870912):mb f=some (pV f):=by
 unfold mb pV yO;have:=G0 h ht (fun z34=>some ((List.length z34:Int)==(List.length f.aa:Int))) ((du f.aa).length+1) bg 0 [1] (BW _) (Nat.zero_le _) (by omega) (by have:=qW;omega);refine this.trans ?_;rw[kE];congr 1;rw[decide_eq_decide];omega
def qn (f:Fs):Int:=if pY f then (if mW f then (if p9 f then (if mX f then (if pV f then (if dv f 0 0 then 0 else 6) else 5) else 4) else 3) else 2) else 1
theorem um {N:Nat} {l:List ae} (h:∀x∈l,x.entries.length≤N):(du l).length≤l.length*N+1:=by
 unfold du;rw[List.length_cons];have:(l.flatMap fun x=>x.entries.map Entry.ino).length≤l.length*N:=by
  induction l with
  |nil=>simp
  |cons x l ih=>
   have h1:=ih (fun y hy=>h y (by simp [hy]));have h2:=h x (by simp);simp only[List.flatMap_cons,List.length_append,List.length_map,List.length_cons,Nat.succ_mul];omega
 omega
theorem nU {f:Fs} (h:SmF f) (ht:(du f.aa).length≤536870912):e_ f=some (qn f):=by
 unfold e_ qn;rw[uJ h.len,s7 h,vB h,s_ h,ui h ht,fQ h (by unfold Far;omega) (by unfold Far;omega)];simp only[ai];cases pY f
 ·rfl
 ·cases mW f
  ·rfl
  ·cases p9 f
   ·rfl
   ·cases mX f
    ·rfl
    ·cases pV f
     ·rfl
     ·cases dv f 0 0<;>rfl
theorem Lo {f:Fs} (h:m9 f=true):(du f.aa).length≤1601:=by
 obtain⟨h1,h2⟩:=oK h;have:=um (N:=40) (fun x hx=>(h2 x hx).2.1);have:f.aa.length*40≤40*40:=Nat.mul_le_mul_right _ h1;omega
structure Sound (f:Fs):Prop where
 vr:1≤f.ar∧f.ar≤1073741824
 uj:0≤f.aw∧f.aw≤1073741824
 next:f.next≤1099511627776
 ino:∀x∈f.aa,1≤x.ino∧x.ino<f.next
 sort:cA f.aa
 root:∃r,au 1 f.aa=some r∧r.kind=2
 kind:∀x∈f.aa,fA x=true
 there:∀x∈f.aa,∀e∈x.entries,∃y,au e.ino f.aa=some y
 link:∀x∈f.aa,xc f x=true
 led:(yO f.aa).length=f.aa.length
 fits:dv f 0 0=true
theorem vK (f:Fs):qn f=0↔Sound f:=by
 unfold qn;constructor
 ·intro h
  split at h
  ·rename_i h1
   split at h
   ·rename_i h2
    split at h
    ·rename_i h3
     split at h
     ·rename_i h4
      split at h
      ·rename_i h5
       split at h
       ·rename_i h6
        unfold pY at h1;simp only[Bool.and_eq_true,decide_eq_true_eq,List.all_eq_true] at h1;obtain⟨⟨a1,a2,a3,a4,a5⟩,a6,a7,a8,a9⟩:=h1;obtain⟨r,hr⟩:=Option.isSome_iff_exists.1 a8;refine⟨⟨a1,a2⟩,⟨a3,a4⟩,a5,a6,(jq _).1 a7,⟨r,hr, ?_⟩, ?_, ?_, ?_, ?_,h6⟩
        ·unfold aK at a9;rw[hr] at a9;exact a9
        ·unfold mW at h2;simpa [List.all_eq_true] using h2
        ·unfold p9 at h3
         simp only[List.all_eq_true] at h3;exact fun x hx e he=>Option.isSome_iff_exists.1 (h3 x hx e he)
        ·unfold mX at h4;simpa [List.all_eq_true] using h4
        ·unfold pV at h5;simpa using h5
       ·simp at h
      ·simp at h
     ·simp at h
    ·simp at h
   ·simp at h
  ·simp at h
 ·intro h
  obtain⟨r,hr,hk⟩:=h.root;have h1:pY f=true:=by
   unfold pY;simp only[Bool.and_eq_true,decide_eq_true_eq,List.all_eq_true];refine⟨⟨h.vr.1,h.vr.2,h.uj.1,h.uj.2,h.next⟩,h.ino,(jq _).2 h.sort,by rw[hr];rfl,by unfold aK;rw[hr];exact hk⟩
  have h2:mW f=true:=by unfold mW;rw[List.all_eq_true];exact h.kind
  have h3:p9 f=true:=by
   unfold p9;simp only[List.all_eq_true];exact fun x hx e he=>Option.isSome_iff_exists.2 (h.there x hx e he)
  have h4:mX f=true:=by unfold mX;rw[List.all_eq_true];exact h.link
  have h5:pV f=true:=by unfold pV;rw[decide_eq_true_eq];exact h.led
  rw[if_pos h1,if_pos h2,if_pos h3,if_pos h4,if_pos h5,if_pos h.fits]
end Go.Eng
set_option linter.unusedSimpArgs false
set_option linter.unusedVariables false
namespace Go.Eng
open Go
def splitN:Str→Str→List Str×Str
 |cur, [] =>([],cur)
 |cur,c::s=>if c=47 then (if cur= [] then splitN [] s else (cur::(splitN [] s).1,(splitN [] s).2)) else splitN (cur++[c]) s
def fM (r:List Str×Str):List Str:=if r.2= [] then r.1 else r.1++[r.2]
def dM (s:Str):List Str:=fM (splitN [] s)
def pr (l:List Str):Str:=if l= [] then [47] else l.flatMap fun x=>47::x
def nP (s:Str):Bool:=(dM s).any (fun x=>decide (255<x.length))||decide (4095<s.length)
def dY (s:Str):List Str×Bool:=if pr (dM s)=s∧(dM s).all fE=true then (dM s,true) else ([],false)
def dJ (s:Str):Pth:=⟨s.take 1==[47],dM s, !(dM s).isEmpty&&(s.drop (s.length - 1)==[47])⟩
theorem uK:∀(a cur b:Str),(∀x∈a,x≠47)→splitN cur (a++47::b)=if cur++a= [] then splitN [] b else ((cur++a)::(splitN [] b).1,(splitN [] b).2)
 | [],cur,b,_=>by simp [splitN]
 |c::a,cur,b,h=>by
  have hc:¬c=47:=h c (by simp);simp only[List.cons_append,splitN,if_neg hc];rw[uK a (cur++[c]) b (fun x hx=>h x (by simp [hx]))];simp
theorem sC:∀(a cur:Str),(∀x∈a,x≠47)→splitN cur a=([],cur++a)
 | [],cur,_=>by simp [splitN]
 |c::a,cur,h=>by
  have hc:¬c=47:=h c (by simp);simp only[splitN,if_neg hc];rw[sC a (cur++[c]) (fun x hx=>h x (by simp [hx]))];simp
theorem qc:∀(s cur:Str),(splitN cur s).1.length≤s.length∧(splitN cur s).2.length≤cur.length+s.length∧(fM (splitN cur s)).flatten.length+(fM (splitN cur s)).length≤cur.length+s.length+1
 | [],cur=>by
  simp only[splitN,fM,List.length_nil];by_cases h:cur= []
  ·subst h;simp
  ·simp [h]
 |c::s,cur=>by
  simp only[splitN];by_cases hc:c=47
  ·rw[if_pos hc]
   obtain⟨h1,h2,h3⟩:=qc s [];by_cases hcur:cur= []
   ·rw[if_pos hcur]
    simp only[List.length_nil,List.length_cons] at*;exact⟨by omega,by omega,by omega⟩
   ·rw[if_neg hcur]
    simp only[List.length_nil,List.length_cons] at*;refine⟨by omega,by omega, ?_⟩;have e:fM (cur::(splitN [] s).1,(splitN [] s).2)=cur::fM (splitN [] s):=by
     unfold fM;simp only;split<;>simp
    rw[e];simp only[List.flatten_cons,List.length_append,List.length_cons];have hcl:0<cur.length:=List.length_pos_iff.2 hcur;omega
  ·rw[if_neg hc]
   obtain⟨h1,h2,h3⟩:=qc s (cur++[c]);simp only[List.length_append,List.length_singleton,List.length_cons,List.length_nil] at*;exact⟨by omega,by omega,by omega⟩
theorem lh (s:Str):(dM s).flatten.length+(dM s).length≤s.length+1:=by
 have:=(qc s []).2.2;simp only[List.length_nil,Nat.zero_add] at this;exact this
theorem nM {l:List Str} {x:Str} (h:x∈l):x.length≤l.flatten.length:=by
 induction l with
 |nil=>cases h
 |cons y l ih=>
  simp only[List.mem_cons] at h;simp only[List.flatten_cons,List.length_append];rcases h with rfl|h
  ·omega
  ·have:=ih h;omega
theorem nX {s x:Str} (h:x∈dM s):x.length≤s.length:=by
 have h1:=lh s;have h2:=nM h;have h3:0<(dM s).length:=List.length_pos_of_mem h;omega
theorem sY:∀l:List Str,(l.flatMap fun x=>47::x).length=l.flatten.length+l.length
 | [] =>rfl
 |x::l=>by simp [List.flatMap_cons,List.length_append,sY l];omega
theorem lg {s:Str} (hl:s.length≤1073741824):iF s=some (dM s):=by
 unfold iF;have key:∀(n k:Nat) (cur:Str) (acc:List Str),k≤s.length→s.length+1 - k<n→cur.length≤k→acc.length≤k→cI s (fun z7=>some z7) n cur (k:Int) acc=some (acc++fM (splitN cur (s.drop k))):=by
  intro n;induction n with
  |zero=>intro k _ _ _ h;omega
  |succ n ih=>
   intro k cur acc hk hn hcur hacc;simp only[cI];have e1:decide ((k:Int)≤(List.length s:Int))=true:=by simp;omega
   rw[e1,aC];by_cases h:k<s.length
   ·obtain⟨c,hc,hd⟩:=tL h
    rw[dec_lt h,aC,bS,aC,toNat_cast,hc,ai,hd];simp only[splitN];by_cases h47:c=47
    ·subst h47
     have e2:((UInt8.toNat (47:UInt8):Int) !=(47:Int))=false:=by decide
     rw[e2,ay,if_pos rfl,bc (by omega)];by_cases hc0:cur= []
     ·subst hc0
      have e3:(!(([] :Str)==([] :Str)))=false:=rfl;rw[e3,ay,if_pos rfl];exact ih (k+1) [] acc (by omega) (by omega) (by simp) (by omega)
     ·have e3:(!(cur==([] :Str)))=true:=by simp [hc0]
      rw[e3,aC,if_neg hc0,bZ (by unfold LIM;simp;omega),ih (k+1) [] (acc++[cur]) (by omega) (by omega) (by simp) (by simp;omega)];unfold fM;simp only;split<;>simp
    ·have e2:((UInt8.toNat c:Int) !=(47:Int))=true:=by
      rw[bne_iff_ne];intro e;apply h47;have:=jt c 47 (by omega);rw[e] at this;simpa using this
     rw[e2,aC,if_neg h47,bc (by omega)];have e4:(s.take (k+1)).drop k=[c]:=by
      have e9:=(List.getElem?_eq_some_iff.1 hc);rw[List.take_add_one,hc];have:(s.take k).length=k:=by simp;omega
      rw[List.drop_append_of_le_length (by omega),List.drop_eq_nil_of_le (by omega)];rfl
     simp only[toNat_cast];rw[aN (by simp;omega),aN (by simp;omega),e4,bZ (by unfold LIM;simp;omega)];exact ih (k+1) (cur++[c]) acc (by omega) (by omega) (by simp;omega) (by omega)
   ·have hkl:k=s.length:=by omega
    subst hkl;rw[b6 (Nat.le_refl _),ay,List.drop_length,bc (by omega)];simp only[splitN,fM];have ex:∀acc:List Str,cI s (fun z7=>some z7) n ([] :Str) ((s.length+1:Nat):Int) acc=some acc:=by
     intro acc;cases n with
     |zero=>omega
     |succ n=>
      simp only[cI];have:decide (((s.length+1:Nat):Int)≤(List.length s:Int))=false:=by simp;omega
      rw[this,ay]
    by_cases hc0:cur= []
    ·subst hc0
     have e3:(!(([] :Str)==([] :Str)))=false:=rfl;rw[e3,ay,ex];simp
    ·have e3:(!(cur==([] :Str)))=true:=by simp [hc0]
     rw[e3,aC,bZ (by unfold LIM;simp;omega),ex];simp [hc0]
 have:=key bg 0 [] [] (Nat.zero_le _) (by have:=qW;omega) (by simp) (by simp);simpa [dM] using this
theorem vS {l:List Str} (hl:l.flatten.length+l.length≤1073741824):nz l=some (pr l):=by
 unfold nz pr;by_cases h0:l= []
 ·subst h0;rfl
 ·rw[bK (by simp [h0]),if_neg h0]
  refine kK (l:=l) (fun n i s=>fY l (fun z6=>some z6) n s i) (fun k s=>s=(l.take k).flatMap fun x=>47::x) (fun r=>r=some (l.flatMap fun x=>47::x)) (by omega) (fun n k x s hk hx hi hr=> ?_) (fun n s hi=> ?_) [] (by simp)
  ·simp only[fY]
   have hs:s.length≤1073741824:=by
    subst hi;rw[sY];have h1:(l.take k).flatten.length≤l.flatten.length:=by
     conv=>rhs;rw[←List.take_append_drop k l]
     rw[List.flatten_append,List.length_append];omega
    have h2:(l.take k).length≤l.length:=by simp;omega
    omega
   have hxl:=nM (List.mem_of_getElem? hx);rw[dec_lt hk,aC,bZ (by unfold LIM;simp;omega),bS,aC,toNat_cast,hx,ai,bZ (by unfold LIM;simp;omega),bc (by omega)];refine hr _ ?_;rw[List.take_add_one,hx,hi];simp
  ·simp only[fY]
   rw[b6 (Nat.le_refl _),ay];rw[List.take_length] at hi;rw[hi]
theorem BF {l:List Str} {p:Bool} (hl:l.length≤1073741824):fP l (some true) (some p) bg (0:Int)=some (l.any (fun x=>decide (255<x.length))||p):=by
 refine(bY (l:=l) (fun n i (_:Unit)=>fP l (some true) (some p) n i) (fun k (x:Str) s K=>if decide (255<x.length) then some true else K s) (fun _=>some p) (by omega) (fun n k x u hk hx=> ?_) (fun n u=> ?_) ()).trans ?_
 ·simp only[fP]
  rw[dec_lt hk,bS,toNat_cast,hx,bc (by omega)];simp only[aC,ai,aV,if_true];have:decide ((List.length x:Int)>(255:Int))=decide (255<x.length):=by rw[decide_eq_decide];omega
  rw[this]
 ·simp only[fP]
  rw[b6 (Nat.le_refl _)];rfl
 ·rw[mL (fun x:Str=>decide (255<x.length)) _ _ (some true) (fun k x=>rfl)]
  cases l.any (fun x=>decide (255<x.length))<;>rfl
theorem pw {s:Str} (hl:s.length≤1073741823):iv s=some (nP s):=by
 unfold iv;have:=lh s;rw[lg (by omega),ai,BF (by omega)];unfold nP;have:decide ((List.length s:Int)>(4095:Int))=decide (4095<s.length):=by rw[decide_eq_decide];omega
 rw[this]
theorem xf {α R:Type} (p:α→Bool) (kr k0:Option R):∀(l:List α) (k:Nat) (s:Unit),dW (fun _ x s K=>if !p x then kr else K s) (fun _=>k0) k l s=if l.all p then k0 else kr
 | [],_,_=>rfl
 |x::l,k,s=>by
  by_cases h:p x=true
  ·have e:(x::l).all p=l.all p:=by simp [h]
   rw[e];simp only[dW];rw[if_neg (by simp [h])];exact xf p kr k0 l (k+1) s
  ·have e:(x::l).all p=false:=by simp [h]
   rw[e];simp [dW,h]
theorem DX {R:Type} {l:List Str} (kr k0:Option R) (hl:l.length≤1073741824) (hx:∀x∈l,x.length≤1099511627775):eu l kr k0 bg (0:Int)=if l.all fE then k0 else kr:=by
 refine(bY (l:=l) (fun n i (_:Unit)=>eu l kr k0 n i) (fun k (x:Str) s K=>if !fE x then kr else K s) (fun _=>k0) (by omega) (fun n k x u hk hx'=> ?_) (fun n u=> ?_) ()).trans ?_
 ·simp only[eu]
  rw[dec_lt hk,bS,toNat_cast,hx',bc (by omega)];simp only[aC,ai,aV,if_true];rw[kG (hx x (List.mem_of_getElem? hx'))];simp only[ai]
 ·simp only[eu]
  rw[b6 (Nat.le_refl _)];rfl
 ·exact xf fE _ _ _ _ _
theorem vz {s:Str} (hl:s.length≤1073741823):lV s=some (dY s):=by
 unfold lV;have:=lh s;rw[lg (by omega),ai,DX _ _ (by omega) (fun x hx=>by have:=nX hx;omega),vS (by omega),ai];unfold dY;by_cases h1:(dM s).all fE=true
 ·rw[if_pos h1]
  by_cases h2:pr (dM s)=s
  ·rw[bK (by simp [h2]),if_pos ⟨h2,h1⟩]
  ·rw[aN (by simp [h2]),if_neg (fun h=>h2 h.1)]
 ·rw[if_neg h1,if_neg (fun h=>h1 h.2)]
theorem mh {s:Str} (hl:s.length≤1073741823):gm s=some (dJ s):=by
 unfold gm dJ;rw[lg (by omega),ai];by_cases h0:s= []
 ·subst h0;rfl
 ·have hp:0<s.length:=List.length_pos_iff.2 h0
  have e1:IntKind.i64.wrap ((List.length s:Int) - 1)=((s.length - 1:Nat):Int):=by rw[b9 (by omega) (by omega)];omega
  have e3:Int.toNat (0:Int)=0:=rfl;rw[aN (by simp;omega),aN (by decide),e3,e1,toNat_cast,List.getElem?_eq_getElem hp,ai];have ht:s.take 1=[s[0]]:=by
   rw[List.take_add_one,List.getElem?_eq_getElem hp];simp
  have hd:s.drop (s.length - 1)=[s[s.length - 1]]:=by
   rw[List.drop_eq_getElem_cons (by omega),List.drop_eq_nil_of_le (by omega)]
  have b1:((UInt8.toNat s[0]:Int)==(47:Int))=(s.take 1==[47]):=by
   rw[ht];have:=jt s[0] 47 (by omega);have e:((UInt8.toNat s[0]:Int)==(47:Int))=(s[0]==47):=this;rw[e,Bool.eq_iff_iff];simp
  have b2:((UInt8.toNat s[s.length - 1]:Int)==(47:Int))=(s.drop (s.length - 1)==[47]):=by
   rw[hd];have:=jt s[s.length - 1] 47 (by omega);have e:((UInt8.toNat s[s.length - 1]:Int)==(47:Int))=(s[s.length - 1]==47):=this;rw[e,Bool.eq_iff_iff];simp
  rw[b1];cases hn:dM s with
  |nil=>rw[bK (by simp)];simp
  |cons x l=>
   rw[aN (by simp),aN (by simp),List.getElem?_eq_getElem (by omega),ai,b2];simp
end Go.Eng
set_option linter.unusedSimpArgs false
set_option linter.unusedVariables false
namespace Go.Eng
open Go
structure WF (f:Fs):Prop where
 sm:SmF f
 sort:cA f.aa
 pos:∀x∈f.aa,1≤x.ino
 right:∀x∈f.aa,f_ x.entries=true
 there:∀x∈f.aa,∀e∈x.entries,(au e.ino f.aa).isSome=true
 root:(au 1 f.aa).isSome=true
theorem p6 {x:ae} (h:fA x=true):f_ x.entries=true:=by
 unfold fA at h;simp only[Bool.or_eq_true,Bool.and_eq_true,decide_eq_true_eq] at h;rcases h with⟨_,h,_⟩ |⟨_,_,h⟩ |⟨_,h,_⟩
 ·have:x.entries= [] :=by simpa using h
  rw[this];rfl
 ·exact h
 ·have:x.entries= [] :=by simpa using h
  rw[this];rfl
theorem Sound.wf {f:Fs} (h:Sound f) (hs:SmF f):WF f:=by
 obtain⟨r,hr,_⟩:=h.root;exact⟨hs,h.sort,fun x hx=>(h.ino x hx).1,fun x hx=>p6 (h.kind x hx),fun x hx e he=>by
  obtain⟨y,hy⟩:=h.there x hx e he;rw[hy];rfl,by rw[hr];rfl⟩
section
variable {f:Fs}
theorem WF.T9 (h:WF f) {x:ae} (hx:x∈f.aa):hC x.entries:=((gB _).1 (h.right x hx)).1
theorem WF.found (h:WF f) {n:Int} {x:ae} (hx:au n f.aa=some x):x∈f.aa∧x.ino=n:=b8 hx
theorem WF.zero (h:WF f):au 0 f.aa=none:=by
 cases hf:au 0 f.aa with
 |none=>rfl
 |some x=>
  obtain⟨h1,h2⟩:=b8 hf;have:=h.pos x h1;omega
theorem WF.get (h:WF f) (n:Int):c_ f n=some (aK n f.aa,(au n f.aa).isSome):=dF h.sort h.sm.len
theorem WF.nQ (h:WF f) (n:Int):bB f n=some (aK n f.aa,(au n f.aa).isSome):=cP h.sm.len
theorem WF.set (h:WF f) (x:ae):bh f x=some (f.set x):=dE h.sort h.sm.len
end
def cB (n:Str) (l:List Entry):Int:=match dS n l with|some e=>e.ino|none=>0
theorem nZ {l:List Entry} {n:Str} (hl:l.length≤1073741824):jx l n=some (cB n l,(dS n l).isSome):=by
 rw[wD hl];unfold cB;cases dS n l<;>rfl
theorem na {f:Fs} (h:WF f) {x:ae} (hx:x∈f.aa) (n:Str):cB n x.entries=0∨(au (cB n x.entries) f.aa).isSome=true:=by
 unfold cB;cases hf:dS n x.entries with
 |none=>exact Or.inl rfl
 |some e=>exact Or.inr (h.there x hx e (b8 hf).1)
def fz:ax:=⟨0, [],0⟩
def eM:ax:=⟨0, [],1⟩
def dh (l:List ae):List Str→ax→ax×Int
 | [],s=>(s,0)
 |n::ns,s=>match au s.ino l with
  |none=>(fz,1)
  |some d=>if d.kind=2 then dh l ns ⟨d.ino,n,cB n d.entries⟩ else (fz,3)
def atP (f:Fs) (p:Str):ax×Int:=if (dY p).2=true then dh f.aa (dY p).1 eM else (fz,9)
theorem Eh {p:Str}:(dY p).1.length≤p.length+1∧∀x∈(dY p).1,x.length≤p.length:=by
 unfold dY;split
 ·exact⟨by have:=lh p;simp only;omega,fun x hx=>nX hx⟩
 ·exact⟨by simp,by simp⟩
theorem drop_cons {α:Type} {l:List α} {k:Nat} {x:α} (h:l[k]? =some x):l.drop k=x::l.drop (k+1):=by
 obtain⟨hk,e⟩:=List.getElem?_eq_some_iff.1 h;rw[List.drop_eq_getElem_cons hk,e]
theorem gp {f:Fs} {p:Str} (h:WF f) (hp:p.length≤8388608):iO f p=some (atP f p):=by
 unfold iO atP;rw[vz (by omega),ai];have hl:=Eh (p:=p);cases hb:(dY p).2
 ·rfl
 ·simp only[Bool.not_true,ay,if_true]
  generalize (dY p).1=l at hl;refine kK (l:=l) (fun n i s=>iB l f (fun z15=>some ((⟨((⟨0, [],0⟩:ax).dir),((⟨0, [],0⟩:ax).name),((⟨0, [],0⟩:ax).ino)⟩:ax),z15)) (fun z16=>some (z16,(0:Int))) n i s) (fun k s=>dh f.aa (l.drop k) s=dh f.aa l eM∧(s.ino=0∨(au s.ino f.aa).isSome=true)) (fun r=>r=some (dh f.aa l eM)) (by omega) (fun n k x s hk hx hi hr=> ?_) (fun n s hi=> ?_) eM ⟨by simp,Or.inr h.root⟩
  ·simp only[iB]
   obtain⟨hi,hz⟩:=hi;rw[drop_cons hx] at hi;simp only[dh] at hi;rw[dec_lt hk,aC,kE,bS,toNat_cast,hx,bc (by omega)];by_cases h0:s.ino=0
   ·rw[aN (by simp [h0]),←hi,h0,h.zero];rfl
   ·rw[bK (by simp [h0]),h.nQ,ai]
    obtain⟨d,hf⟩:=Option.isSome_iff_exists.1 (hz.resolve_left h0);unfold aK;rw[hf] at hi⊢;simp only[aC,ai,Option.getD_some,mg] at hi⊢;by_cases hk2:d.kind=2
    ·rw[if_pos hk2] at hi
     have hd:=(h.found hf).1;rw[bK (by simp [hk2]),nZ (h.sm.de d hd),ai];exact hr _ ⟨hi,na h hd x⟩
    ·rw[if_neg hk2] at hi
     rw[aN (by simp [hk2]),←hi];rfl
  ·simp only[iB]
   obtain⟨hi,_⟩:=hi;rw[List.drop_length] at hi;simp only[dh] at hi;rw[b6 (Nat.le_refl _),ay,←hi]
theorem xP {l:List ae}:∀{ns:List Str} {s t:ax},dh l ns s=(t,0)→(ns= [] ∧t=s)∨∃d n ns',ns=ns'++[n]∧au t.dir l=some d∧d.ino=t.dir∧d.kind=2∧t.name=n∧t.ino=cB n d.entries
 | [],s,t,h=>by simp [dh] at h;exact Or.inl ⟨rfl,h.symm⟩
 |n::ns,s,t,h=>by
  right;simp only[dh] at h;cases hf:au s.ino l with
  |none=>rw[hf] at h;simp at h
  |some d=>
   rw[hf] at h;simp only at h;by_cases hk:d.kind=2
   ·rw[if_pos hk] at h
    rcases xP h with⟨rfl,rfl⟩ |⟨d',n',ns',h1,h2,h3,h4,h5,h6⟩
    ·refine⟨d,n, [],rfl, ?_,rfl,hk,rfl,rfl⟩
     have:=(b8 hf).2;simp only;rw[this];exact hf
    ·exact⟨d',n',n::ns',by rw[h1];rfl,h2,h3,h4,h5,h6⟩
   ·rw[if_neg hk] at h;simp at h
theorem FZ {f:Fs} (h:WF f) {ns:List Str} {t:ax} (hg:dh f.aa ns eM=(t,0)):t.ino=0∨(au t.ino f.aa).isSome=true:=by
 rcases xP hg with⟨_,rfl⟩ |⟨d,n,ns',_,h2,_,_,_,h6⟩
 ·exact Or.inr h.root
 ·rw[h6];exact na h (b8 h2).1 n
def tn (f:Fs) (p:Str):ae×Int:=if (atP f p).2=0 then (match au (atP f p).1.ino f.aa with|some x=>(x,0) |none=>(kj,1)) else (kj,(atP f p).2)
theorem Jj {f:Fs} {p:Str} (h:WF f) (h0:(atP f p).2=0):(atP f p).1.ino=0∨(au (atP f p).1.ino f.aa).isSome=true:=by
 unfold atP at h0⊢;split
 ·rename_i hb
  rw[if_pos hb] at h0;have:dh f.aa (dY p).1 eM=((dh f.aa (dY p).1 eM).1,0):=by rw[←h0]
  exact FZ h this
 ·rename_i hb
  rw[if_neg hb] at h0;cases h0
theorem xN {f:Fs} {p:Str} (h:WF f) (hp:p.length≤8388608):r4 f p=some (tn f p):=by
 unfold r4 tn;rw[gp h hp,ai,mg,kE];by_cases h0:(atP f p).2=0
 ·rw[bK (by simp [h0]),if_pos h0]
  by_cases hi:(atP f p).1.ino=0
  ·rw[aN (by simp [hi]),hi,h.zero];rfl
  ·rw[bK (by simp [hi]),h.nQ,ai]
   obtain⟨x,hx⟩:=Option.isSome_iff_exists.1 ((Jj h h0).resolve_left hi);unfold aK;rw[hx];rfl
 ·rw[aN (by simp [h0]),if_neg h0];rfl
def ae.s5 (d:ae) (l:List Entry):ae:=⟨d.ino,d.kind,d.aq,d.data,d.parent,l⟩
theorem l_ {f:Fs} {x:ae}:(f.set x).aa.length≤f.aa.length+1:=kP
end Go.Eng
set_option linter.unusedSimpArgs false
set_option linter.unusedVariables false
set_option linter.unusedSectionVars false
namespace Go.Eng
open Go
def kC {α:Type} (μ :α→Int) (l:List α):Int:=(l.map μ).sum
section
variable {α:Type} {μ :α→Int}
theorem dN (μ :α→Int) (x:α) (l:List α):kC μ (x::l)= μ x+kC μ l:=by simp [kC]
theorem tv (h:∀x,0≤ μ x):∀l:List α,0≤kC μ l
 | [] =>by simp [kC]
 |x::l=>by rw[dN];have:=h x;have:=tv h l;omega
theorem mF (h:∀x,0≤ μ x) {x:α}:∀{l:List α},x∈l→ μ x≤kC μ l
 |y::l,hx=>by
  rw[dN];have h1:=h y;have h2:=tv h l;simp only[List.mem_cons] at hx;rcases hx with rfl|hx
  ·omega
  ·have:=mF h hx;omega
theorem tQ (h:∀x,0≤ μ x) {x y:α} (hne:x≠y):∀{l:List α},x∈l→y∈l→ μ x+ μ y≤kC μ l
 |z::l,hx,hy=>by
  rw[dN];have h1:=h z;simp only[List.mem_cons] at hx hy;rcases hx with rfl|hx
  ·rcases hy with rfl|hy
   ·exact absurd rfl hne
   ·have:=mF h hy;omega
  ·rcases hy with rfl|hy
   ·have:=mF h hx;omega
   ·have:=tQ h hne hx hy;omega
theorem ux (h:∀x,0≤ μ x):∀{l:List α},0<kC μ l→∃x∈l,0< μ x
 | [],hp=>by simp [kC] at hp
 |z::l,hp=>by
  rw[dN] at hp;by_cases hz:0< μ z
  ·exact⟨z,by simp,hz⟩
  ·obtain⟨x,hx,h2⟩:=ux h (l:=l) (by omega)
   exact⟨x,by simp [hx],h2⟩
theorem qF (l:List α):kC (fun _=>1) l=(l.length:Int):=by
 induction l with
 |nil=>rfl
 |cons x l ih=>rw[dN,ih,List.length_cons];omega
end
def h_ {α:Type} (μ :α→Int):Option α→Int
 |some x=> μ x
 |none=>0
section
variable {α κ:Type} [DecidableEq κ] {lt:κ→κ→Bool} {key:α→κ}
theorem AW (μ :α→Int) (x:α):∀l:List α,kC μ (iG lt key x l)= μ x+kC μ l
 | [] =>by simp [iG,kC]
 |y::l=>by
  simp only[iG];split
  ·rw[dN]
  ·rw[dN,AW μ x l,dN];omega
theorem B1 (k:κ) (y:α) (l:List α):eh key k (y::l)=if key y=k then eh key k l else y::eh key k l:=by
 unfold eh;rw[List.filter_cons];by_cases h:key y=k<;>simp [h]
theorem BJ (k:κ) (y:α) (l:List α):b5 key k (y::l)=if key y=k then some y else b5 key k l:=by
 unfold b5;rw[List.find?_cons];by_cases h:key y=k<;>simp [h]
theorem kL (O:LO lt) (μ :α→Int) {k:κ}:∀{l:List α},cU lt key l→kC μ (eh key k l)+h_ μ (b5 key k l)=kC μ l
 | [],_=>by simp [eh,b5,kC,h_]
 |y::l,hs=>by
  unfold cU at hs;rw[List.pairwise_cons] at hs;rw[B1,BJ,dN];by_cases h:key y=k
  ·rw[if_pos h,if_pos h,zi O (fun x hx=>by rw[←h];exact hs.1 x hx)]
   simp only[h_];omega
  ·rw[if_neg h,if_neg h,dN]
   have:=kL O μ (k:=k) hs.2;omega
theorem qx (O:LO lt) (μ :α→Int) {x:α} {l:List α} (hs:cU lt key l):kC μ (nD lt key x l)+h_ μ (b5 key (key x) l)=kC μ l+ μ x:=by
 unfold nD;rw[AW];have:=kL O μ (k:=key x) hs;omega
theorem LJ (O:LO lt) {x:α} {l:List α} (hs:cU lt key l):(nD lt key x l).length=if (b5 key (key x) l).isSome then l.length else l.length+1:=by
 have h:=qx O (fun _=>1) (x:=x) hs;rw[qF,qF] at h;cases hf:b5 key (key x) l with
 |none=>rw[hf] at h;simp only[h_] at h;simp;omega
 |some y=>rw[hf] at h;simp only[h_] at h;simp;omega
theorem Gk (O:LO lt) {k:κ} {l:List α} (hs:cU lt key l):(eh key k l).length+(if (b5 key k l).isSome then 1 else 0)=l.length:=by
 have h:=kL O (fun _=>1) (k:=k) hs;rw[qF,qF] at h;cases hf:b5 key k l with
 |none=>rw[hf] at h;simp only[h_] at h;simp;omega
 |some y=>rw[hf] at h;simp only[h_] at h;simp;omega
end
def one (n:Int) (e:Entry):Int:=if e.ino=n then 1 else 0
def ec (n:Int) (l:List Entry):Int:=kC (one n) l
def fc (n:Int) (l:List ae):Int:=kC (fun x=>ec n x.entries) l
theorem xI (n:Int) (e:Entry):0≤one n e:=by unfold one;split<;>omega
theorem wU (n:Int) (l:List Entry):0≤ec n l:=tv (xI n) l
theorem Gp (n:Int) (l:List ae):0≤fc n l:=tv (μ :=fun x:ae=>ec n x.entries) (fun x=>wU n x.entries) l
theorem Ca {n:Int} {l:List Entry} {e:Entry} (h:e∈l) (he:e.ino=n):1≤ec n l:=by
 have:=mF (xI n) h;unfold one at this;rw[if_pos he] at this;exact this
theorem G5 {n:Int} {l:List Entry} (h:0<ec n l):∃e∈l,e.ino=n:=by
 obtain⟨e,he,h2⟩:=ux (xI n) h;refine⟨e,he, ?_⟩;unfold one at h2;split at h2
 ·assumption
 ·omega
theorem uO {n:Int} {l:List ae} {x:ae} {e:Entry} (hx:x∈l) (h:e∈x.entries) (he:e.ino=n):1≤fc n l:=by
 have h1:=mF (μ :=fun x:ae=>ec n x.entries) (fun x=>wU n x.entries) hx;have h2:=Ca h he;unfold fc;omega
theorem FT {n:Int} {l:List ae} (h:0<fc n l):∃x∈l,∃e∈x.entries,e.ino=n:=by
 obtain⟨x,hx,h2⟩:=ux (μ :=fun x:ae=>ec n x.entries) (fun x=>wU n x.entries) h;exact⟨x,hx,G5 h2⟩
theorem tM {n:Int} {l:List ae} (h:fc n l≤1) {x y:ae} {e e':Entry} (hx:x∈l) (he:e∈x.entries) (hn:e.ino=n) (hy:y∈l) (he':e'∈y.entries) (hn':e'.ino=n):x=y∧e=e':=by
 have hxy:x=y:=by
  rcases Classical.em (x=y) with h'|h'
  ·exact h'
  ·have h1:=tQ (μ :=fun x:ae=>ec n x.entries) (fun x=>wU n x.entries) h' hx hy
   have h2:=Ca he hn;have h3:=Ca he' hn';unfold fc at h;omega
 subst hxy;refine⟨rfl, ?_⟩;rcases Classical.em (e=e') with h'|h'
 ·exact h'
 ·have h1:=tQ (xI n) h' he he'
  unfold one at h1;rw[if_pos hn,if_pos hn'] at h1;have h2:=mF (μ :=fun x:ae=>ec n x.entries) (fun x=>wU n x.entries) hx;unfold fc at h;unfold ec at h h2;unfold one at h h2;omega
theorem yu (n:Int) (l:List Entry):ec n l=(mu n l:Int):=by
 induction l with
 |nil=>rfl
 |cons e l ih=>
  unfold ec at ih⊢;rw[dN,ih,DZ];unfold one;split<;>omega
theorem w8 (n:Int):∀(l:List ae) (s:Nat×Int),((fe n l s).1:Int)=s.1+fc n l
 | [],s=>by simp [fe,fc,kC]
 |x::l,s=>by
  simp only[fe];rw[w8 n l];unfold fc;rw[dN,yu];simp only;omega
theorem wR (f:Fs) (n:Int):((dH f n).1:Int)=fc n f.aa:=by
 unfold dH;rw[w8];simp
theorem ry (n:Int):∀(l:List ae) (s:Nat×Int) (k:Int),(∀x∈l,∀e∈x.entries,e.ino=n→x.ino=k)→(fe n l s).2=if fc n l=0 then s.2 else k
 | [],s,k,_=>by simp [fe,fc,kC]
 |x::l,s,k,h=>by
  simp only[fe];rw[ry n l _ k (fun y hy=>h y (by simp [hy]))];have h1:=wU n x.entries;have h2:=Gp n l;have h3:fc n (x::l)=ec n x.entries+fc n l:=by unfold fc;rw[dN]
  rw[h3];by_cases h0:mu n x.entries=0
  ·have:ec n x.entries=0:=by rw[yu,h0];rfl
   simp only[h0,if_true,this,Int.zero_add]
  ·have h4:0<ec n x.entries:=by rw[yu];omega
   obtain⟨e,he,hn⟩:=G5 h4;have h5:=h x (by simp) e he hn;have h6:¬ec n x.entries+fc n l=0:=by omega
   simp only[h0,if_false,h6,h5];split<;>rfl
theorem ei {l:List ae} {x:ae} (hs:cA l) (hx:x∈l):au x.ino l=some x:=kM loI hs hx
theorem BE {l:List ae} {x:ae} {k:Int} (hs:cA l) (hx:x∈l) (hk:x.ino=k):au k l=some x:=hk▸kM loI hs hx
theorem aW {l:List ae} {k:Int} {x:ae} (h:au k l=some x):x∈l∧x.ino=k:=b8 h
inductive Reach (l:List ae):Int→Prop where
 |root:Reach l 1
 |step {k:Int} {x:ae} {e:Entry}:Reach l k→au k l=some x→e∈x.entries→Reach l e.ino
theorem bx {k:Int} {l:List ae} {x:ae} (h:au k l=some x):aK k l=x:=by unfold aK;rw[h];rfl
theorem dO {k:Int} {l:List ae} (h:au k l=none):aK k l=kj:=by unfold aK;rw[h];rfl
theorem Reach.get {l:List ae} {k:Int} {e:Entry} (h:Reach l k) (he:e∈(aK k l).entries):Reach l e.ino:=by
 cases hf:au k l with
 |none=>rw[dO hf] at he;simp [kj] at he
 |some x=>rw[bx hf] at he;exact .step h hf he
theorem kg:∀(es:List Entry) (s:List Int) (n:Int),n∈es.foldl visit s↔n∈s∨∃e∈es,e.ino=n
 | [],s,n=>by simp
 |e::es,s,n=>by
  simp only[List.foldl_cons];rw[kg es (visit s e) n];have:n∈visit s e↔n∈s∨e.ino=n:=by
   unfold visit;split
   ·rename_i h
    constructor
    ·exact Or.inl
    ·rintro(h'|rfl)
     ·exact h'
     ·exact h
   ·simp [eq_comm]
  rw[this];simp only[List.mem_cons];constructor
  ·rintro((h|h) |⟨e',h1,h2⟩)
   ·exact Or.inl h
   ·exact Or.inr ⟨e,Or.inl rfl,h⟩
   ·exact Or.inr ⟨e',Or.inr h1,h2⟩
  ·rintro(h|⟨e',rfl|h1,h2⟩)
   ·exact Or.inl (Or.inl h)
   ·exact Or.inl (Or.inr h2)
   ·exact Or.inr ⟨e',h1,h2⟩
theorem qt (l:List ae):∀(n i:Nat) (s:List Int),(∀k∈s,Reach l k)→∀k∈iq l n i s,Reach l k
 |0,_,s,h=>h
 |n+1,i,s,h=>by
  simp only[iq];cases hi:s[i]? with
  |none=>exact h
  |some k=>
   refine qt l n (i+1) _ fun m hm=> ?_
   unfold mr at hm;rw[kg] at hm;rcases hm with hm|⟨e,he,rfl⟩
   ·exact h m hm
   ·exact(h k (List.mem_of_getElem? hi)).get he
theorem pn (l:List ae):∀(n i:Nat) (s:List Int),nO l s→(du l).length+1 - i≤n→i≤s.length→(∀j k,j<i→s[j]? =some k→∀e∈(aK k l).entries,e.ino∈s)→
 (∀k∈s,k∈iq l n i s)∧∀k∈iq l n i s,∀e∈(aK k l).entries,e.ino∈iq l n i s
 |0,i,s,hv,hn,hi,h=>by
  have:=hv.len;omega
 |n+1,i,s,hv,hn,hi,h=>by
  simp only[iq];cases hk:s[i]? with
  |none=>
   refine⟨fun k hk=>hk,fun k hk2 e he=> ?_⟩;obtain⟨j,hj⟩:=List.mem_iff_getElem?.1 hk2;have h1:j<s.length:=(List.getElem?_eq_some_iff.1 hj).1;have h2:s.length≤i:=List.getElem?_eq_none_iff.1 hk;exact h j k (by omega) hj e he
  |some k=>
   have hlt:i<s.length:=(List.getElem?_eq_some_iff.1 hk).1;obtain⟨t,ht⟩:=j_ (aK k l).entries s;have h3:=pn l n (i+1) (mr (aK k l) s) (rr hv) (by omega) (by unfold mr;rw[ht];simp;omega) (by
    intro j m hj hm e he;unfold mr at hm⊢;rw[kg];rw[ht,List.getElem?_append_left (by omega)] at hm;by_cases hji:j=i
    ·subst hji
     rw[hk] at hm;cases hm;exact Or.inr ⟨e,he,rfl⟩
    ·exact Or.inl (h j m (by omega) hm e he))
   refine⟨fun m hm=>h3.1 m ?_,h3.2⟩;unfold mr;rw[ht];simp [hm]
theorem vL {l:List ae} {n:Int}:n∈yO l↔Reach l n:=by
 unfold yO;constructor
 ·exact qt l _ _ _ (fun k hk=>by simp at hk;subst hk;exact .root) n
 ·intro h
  have hc:=pn l ((du l).length+1) 0 [1] (BW l) (by omega) (by simp) (fun j k hj=>by omega);induction h with
  |root=>exact hc.1 1 (by simp)
  |step h hf he ih=>exact hc.2 _ ih _ (by rw[bx hf];exact he)
theorem q8 (l:List ae):∀(n i:Nat) (s:List Int),nO l s→(iq l n i s).Nodup
 |0,_,s,h=>h.nodup
 |n+1,i,s,h=>by
  simp only[iq];cases hi:s[i]? with
  |none=>exact h.nodup
  |some k=>exact q8 l n (i+1) _ (rr h)
theorem ud (l:List ae):(yO l).Nodup:=q8 l _ _ _ (BW l)
theorem BU {l:List ae} (h:cA l):(l.map ae.ino).Nodup:=by
 unfold List.Nodup;rw[List.pairwise_map];unfold cA cU at h;exact h.imp fun{a b} hab e=>by simp only[ltI,decide_eq_true_eq] at hab;omega
theorem Bi {a b:List Int} (ha:a.Nodup) (hs:∀x∈a,x∈b) (hl:b.length≤a.length):∀x∈b,x∈a:=by
 intro x hx;rcases Classical.em (x∈a) with h|h
 ·exact h
 ·have:=oV (m:=b.erase x) ha (fun y hy=>(List.mem_erase_of_ne (by intro e;subst e;exact h hy)).2 (hs y hy))
  rw[List.length_erase_of_mem hx] at this;have:=List.length_pos_of_mem hx;omega
structure Tree (f:Fs):Prop where
 vr:1≤f.ar∧f.ar≤1073741824
 uj:0≤f.aw∧f.aw≤1073741824
 next:f.next≤1099511627776
 ino:∀x∈f.aa,1≤x.ino∧x.ino<f.next
 sort:cA f.aa
 root:∃r,au 1 f.aa=some r∧r.kind=2∧r.parent=1
 kind:∀x∈f.aa,fA x=true
 there:∀x∈f.aa,∀e∈x.entries,∃y,au e.ino f.aa=some y
 aq:∀x∈f.aa,x.aq=fc x.ino f.aa
 sk:fc 1 f.aa=0
 EE:∀x∈f.aa,x.kind=2→fc x.ino f.aa≤1
 par:∀x∈f.aa,x.kind=2→∀d∈f.aa,∀e∈d.entries,e.ino=x.ino→x.parent=d.ino
 led:∀x∈f.aa,Reach f.aa x.ino
 fits:dv f 0 0=true
theorem Reach.there {f:Fs} (ht:∀x∈f.aa,∀e∈x.entries,∃y,au e.ino f.aa=some y) (hr:∃r,au 1 f.aa=some r) {k:Int} (h:Reach f.aa k):∃y,au k f.aa=some y:=by
 cases h with
 |root=>exact hr
 |step h hf he=>exact ht _ (b8 hf).1 _ he
theorem Reach.named {l:List ae} {k:Int} (h:Reach l k) (h1:k≠1):∃x∈l,∃e∈x.entries,e.ino=k:=by
 cases h with
 |root=>exact absurd rfl h1
 |step h hf he=>exact⟨_,(b8 hf).1,_,he,rfl⟩
theorem DQ {f:Fs} (hs:cA f.aa) (ht:∀x∈f.aa,∀e∈x.entries,∃y,au e.ino f.aa=some y) (hr:∃r,au 1 f.aa=some r):(yO f.aa).length=f.aa.length↔∀x∈f.aa,Reach f.aa x.ino:=by
 have hsub:∀k∈yO f.aa,k∈f.aa.map ae.ino:=fun k hk=>by
  obtain⟨y,hy⟩:=Reach.there ht hr (vL.1 hk);obtain⟨h1,h2⟩:=b8 hy;exact List.mem_map.2 ⟨y,h1,h2⟩
 constructor
 ·intro h x hx
  exact vL.1 (Bi (ud _) hsub (by rw[List.length_map];omega) x.ino (List.mem_map.2 ⟨x,hx,rfl⟩))
 ·intro h
  have h1:=oV (ud f.aa) hsub;have h2:=oV (m:=yO f.aa) (BU hs) (fun k hk=>by
   obtain⟨x,hx,rfl⟩:=List.mem_map.1 hk;exact vL.2 (h x hx))
  rw[List.length_map] at h1 h2;omega
theorem Cy (f:Fs):Sound f↔Tree f:=by
 constructor
 ·intro h
  obtain⟨r,hr,hk⟩:=h.root;have hrm:=b8 hr;have hlink:∀x∈f.aa,x.aq=fc x.ino f.aa∧(x.ino=1→fc 1 f.aa=0∧x.parent=1)∧(x.ino≠1→x.kind=2→fc x.ino f.aa=1∧x.parent=(dH f x.ino).2):=by
   intro x hx;have hl:=h.link x hx;unfold xc at hl;simp only[Bool.and_eq_true,decide_eq_true_eq] at hl;obtain⟨h1,h2⟩:=hl;have h3:=wR f x.ino;refine⟨by omega,fun e=> ?_,fun e e2=> ?_⟩
   ·rw[if_pos e] at h2
    simp only[Bool.and_eq_true,decide_eq_true_eq] at h2;rw[e] at h3 h2;exact⟨by omega,h2.2⟩
   ·rw[if_neg e] at h2
    simp only[Bool.and_eq_true,decide_eq_true_eq,e2,if_true] at h2;exact⟨by omega,h2.2.2⟩
  have hrl:=hlink r hrm.1;have hr1:r.ino=1:=hrm.2;have hr0:=hrl.2.1 hr1;refine⟨h.vr,h.uj,h.next,h.ino,h.sort,⟨r,hr,hk,hr0.2⟩,h.kind,h.there,fun x hx=>(hlink x hx).1,hr0.1,fun x hx hk2=> ?_,fun x hx hk2 d hd e he hn=> ?_,(DQ h.sort h.there ⟨r,hr⟩).1 h.led,h.fits⟩
  ·by_cases h1:x.ino=1
   ·rw[h1,hr0.1];omega
   ·rw[((hlink x hx).2.2 h1 hk2).1];omega
  ·by_cases h1:x.ino=1
   ·have:=uO hd he hn
    rw[h1,hr0.1] at this;omega
   ·obtain⟨h2,h3⟩:=(hlink x hx).2.2 h1 hk2
    rw[h3];unfold dH;rw[ry x.ino f.aa (0,0) d.ino (fun y hy e' he' hn'=>by rw[(tM (by omega) hy he' hn' hd he hn).1]),if_neg (by omega)]
 ·intro h
  obtain⟨r,hr,hk,hp⟩:=h.root;refine⟨h.vr,h.uj,h.next,h.ino,h.sort,⟨r,hr,hk⟩,h.kind,h.there,fun x hx=> ?_,(DQ h.sort h.there ⟨r,hr⟩).2 h.led,h.fits⟩;have h3:=wR f x.ino;have h4:=h.aq x hx;unfold xc;simp only[Bool.and_eq_true,decide_eq_true_eq];refine⟨by omega, ?_⟩;by_cases h1:x.ino=1
  ·have h5:=h.sk
   have:x=r:=by
    have:=ei h.sort hx;rw[h1,hr] at this;exact(Option.some.inj this).symm
   rw[if_pos h1];simp only[Bool.and_eq_true,decide_eq_true_eq];rw[h1] at h3⊢;exact⟨by omega,by rw[this];exact hp⟩
  ·rw[if_neg h1]
   obtain⟨d,hd,e,he,hn⟩:=(h.led x hx).named h1;have h5:=uO hd he hn;simp only[Bool.and_eq_true,decide_eq_true_eq];refine⟨by omega, ?_⟩;by_cases hk2:x.kind=2
   ·rw[if_pos hk2]
    simp only[Bool.and_eq_true,decide_eq_true_eq];have h6:=h.EE x hx hk2;refine⟨by omega, ?_⟩;unfold dH;rw[ry x.ino f.aa (0,0) d.ino (fun y hy e' he' hn'=>by rw[(tM h6 hy he' hn' hd he hn).1]),if_neg (by omega)];exact h.par x hx hk2 d hd e he hn
   ·rw[if_neg hk2]
end Go.Eng
set_option linter.unusedVariables false
set_option maxRecDepth 100000
namespace Go.Eng
open Go
end Go.Eng
set_option linter.unusedSimpArgs false
set_option linter.unusedVariables false
set_option linter.unusedSectionVars false
namespace Go.Eng
open Go
inductive Way (l:List ae) (i:Int):Int→Nat→Prop where
 |here:Way l i i 0
 |step {k:Int} {n:Nat} {x:ae} {e:Entry}:Way l i k n→au k l=some x→e∈x.entries→Way l i e.ino (n+1)
theorem Reach.way {l:List ae} {k:Int} (h:Reach l k):∃n,Way l 1 k n:=by
 induction h with
 |root=>exact⟨0, .here⟩
 |step _ hf he ih=>obtain⟨n,hn⟩:=ih;exact⟨n+1, .step hn hf he⟩
theorem Way.trans {l:List ae} {i j k:Int} {n m:Nat} (h1:Way l i j n) (h2:Way l j k m):Way l i k (n+m):=by
 induction h2 with
 |here=>exact h1
 |step _ hf he ih=>exact .step ih hf he
theorem Way.first {l:List ae} {i k:Int} {n:Nat} {x:ae} {e:Entry} (hf:au i l=some x) (he:e∈x.entries) (h:Way l e.ino k n):Way l i k (n+1):=by
 have:=Way.trans (.step .here hf he) h;rwa[Nat.add_comm] at this
theorem Way.head {l:List ae} {i k:Int} {n:Nat} (h:Way l i k n):(n=0∧k=i)∨∃m x e,n=m+1∧au i l=some x∧e∈x.entries∧Way l e.ino k m:=by
 induction h with
 |here=>exact Or.inl ⟨rfl,rfl⟩
 |step h hf he ih=>
  rcases ih with⟨rfl,rfl⟩ |⟨m,y,e',rfl,h1,h2,h3⟩
  ·exact Or.inr ⟨0,_,_,rfl,hf,he, .here⟩
  ·exact Or.inr ⟨m+1,y,e',rfl,h1,h2, .step h3 hf he⟩
section
variable {f:Fs}
theorem wT {x:ae} (h:fA x=true) {e:Entry} (he:e∈x.entries):x.kind=2:=by
 unfold fA at h;simp only[Bool.or_eq_true,Bool.and_eq_true,decide_eq_true_eq] at h;rcases h with⟨_,h,_⟩ |⟨h,_⟩ |⟨_,h,_⟩
 ·have:x.entries= [] :=by simpa using h
  rw[this] at he;cases he
 ·exact h
 ·have:x.entries= [] :=by simpa using h
  rw[this] at he;cases he
theorem Tree.de (h:Tree f) {k:Int} {x:ae} {e:Entry} (hf:au k f.aa=some x) (he:e∈x.entries):x.kind=2:=wT (h.kind x (b8 hf).1) he
theorem Tree.up (h:Tree f) {k k':Int} {x x' y:ae} {e e':Entry} (hf:au k f.aa=some x) (he:e∈x.entries) (hf':au k' f.aa=some x') (he':e'∈x'.entries) (hn:e.ino=e'.ino) (hy:au e.ino f.aa=some y) (hd:y.kind=2):k=k'∧x=x'∧e=e':=by
 obtain⟨y1,y2⟩:=b8 hy;obtain⟨x1,x2⟩:=b8 hf;obtain⟨x1',x2'⟩:=b8 hf';have h1:=tM (h.EE y y1 hd) x1 he y2.symm x1' he' (hn▸y2.symm);refine⟨?_,h1.1,h1.2⟩;rw[←x2,←x2',h1.1]
theorem Tree.xv (h:Tree f) {k:Int} {x:ae} {e:Entry} (hf:au k f.aa=some x) (he:e∈x.entries):e.ino≠1:=by
 intro h1;have:=uO (b8 hf).1 he h1;rw[h.sk] at this;omega
theorem Tree.deep (h:Tree f) {k:Int} {n:Nat} (hw:Way f.aa 1 k n):∀{m:Nat} {y:ae},au k f.aa=some y→y.kind=2→Way f.aa 1 k m→n=m:=by
 induction hw with
 |here=>
  intro m y _ _ hm;generalize hk:(1:Int)=k at hm;cases hm with
  |here=>rfl
  |step h1 hf he=>exact absurd hk.symm (h.xv hf he)
 |step hw hf he ih=>
  rename_i k' n' x e;intro m y hy hd hm;generalize hk:e.ino=k at hm;cases hm with
  |here=>exact absurd hk (h.xv hf he)
  |step h1 hf' he'=>
   obtain⟨rfl,rfl,rfl⟩:=h.up hf he hf' he' hk hy hd;rw[ih hf (h.de hf he) h1]
theorem Tree.Ic (h:Tree f) {i:Int} {a n:Nat} {x:ae} {e:Entry} (hi:Way f.aa 1 i a) (hx:au i f.aa=some x) (he:e∈x.entries):¬Way f.aa e.ino i n:=fun w=>by
 have:=h.deep hi hx (h.de hx he) (hi.trans (w.first hx he));omega
end
def ND (p n:Str):Str:=if p=[47] then p++n else (p++[47])++n
def JB {α:Type} (l m:List α):Prop:=∃a b s,l=a++b∧m=a++s::b
theorem JB.len {α:Type} {l m:List α} (h:JB l m):m.length=l.length+1:=by
 obtain⟨a,b,s,rfl,rfl⟩:=h;simp;omega
theorem JB.sub {α:Type} {l m:List α} (h:JB l m):List.Sublist l m:=by
 obtain⟨a,b,s,rfl,rfl⟩:=h;exact(List.Sublist.refl a).append (List.sublist_cons_self s b)
structure Lil (f:Fs):Prop where
 len:f.aa.length≤10000
 de:∀x∈f.aa,x.entries.length≤10000
theorem Lil.Gv {f:Fs} (h:m9 f=true):Lil f:=by
 obtain⟨h1,h2⟩:=oK h;exact⟨by omega,fun x hx=>by have:=(h2 x hx).2.1;omega⟩
theorem ug {α:Type} {μ :α→Int} {c:Int} {l:List α} (h:∀x∈l, μ x≤c):kC μ l≤l.length*c:=by
 induction l with
 |nil=>simp [kC]
 |cons x l ih=>
  rw[dN,List.length_cons];have h1:=ih (fun y hy=>h y (by simp [hy]));have h2:=h x (by simp);have:((l.length+1:Nat):Int)*c=(l.length:Int)*c+c:=by
   rw[Int.natCast_add,Int.add_mul];simp
  omega
end Go.Eng
set_option linter.unusedVariables false
set_option maxRecDepth 100000
namespace Go.Eng
open Go
end Go.Eng
set_option linter.unusedSimpArgs false
set_option linter.unusedVariables false
namespace Go.Eng
open Go
structure InF (f:Fs):Prop where
 len:f.aa.length≤1073741824
 de:∀x∈f.aa,x.entries.length≤1073741824
end Go.Eng
set_option linter.unusedSimpArgs false
set_option linter.unusedVariables false
set_option linter.unusedSectionVars false
namespace Go.Eng
open Go
def Nm (x:Str):Prop:=x≠ [] ∧∀c∈x,c≠47
theorem KF {x:Str} (h:fE x=true):Nm x:=by
 unfold fE at h;simp only[Bool.and_eq_true,Bool.not_eq_true',beq_eq_false_iff_ne] at h;obtain⟨h1,_,h3,_⟩:=h;refine⟨h1,fun c hc e=> ?_⟩;rw[List.any_eq_false] at h3;have:=h3 c hc;unfold j9 at this;rw[e] at this;exact this rfl
theorem mR {x:Str} (h:fE x=true):x.length≤255:=by
 unfold fE at h;simp only[Bool.and_eq_true,decide_eq_true_eq] at h;exact h.2.1
theorem IJ (ns:List Str) (b:Str):∃r,(ns.flatMap fun x=>47::x)++47::b=47::r:=by
 cases ns with
 |nil=>exact⟨b,rfl⟩
 |cons x ns=>exact⟨x++((ns.flatMap fun x=>47::x)++47::b),by simp⟩
theorem rX (b:Str):splitN [] (47::b)=splitN [] b:=by simp [splitN]
theorem sG (b:Str):∀ns:List Str,(∀x∈ns,Nm x)→splitN [] ((ns.flatMap fun x=>47::x)++47::b)=(ns++(splitN [] b).1,(splitN [] b).2)
 | [],_=>by simp [rX]
 |x::ns,h=>by
  have hx:=h x (by simp);obtain⟨r,hr⟩:=IJ ns b;have ih:=sG b ns (fun y hy=>h y (by simp [hy]));rw[hr,rX] at ih;have e:((x::ns).flatMap fun x=>47::x)++47::b=47::(x++47::r):=by
   rw[List.flatMap_cons,List.append_assoc,hr];simp
  rw[e,rX,uK x [] r hx.2,ih,List.nil_append,if_neg hx.1];simp
theorem AT (b:Str) {ns:List Str} (h:∀x∈ns,Nm x):dM ((ns.flatMap fun x=>47::x)++47::b)=ns++dM b:=by
 unfold dM;rw[sG b ns h];unfold fM;simp only;split<;>simp
theorem Ct {x:Str} (h:Nm x):dM x=[x]:=by
 unfold dM;rw[sC x [] h.2];unfold fM;rw[List.nil_append,if_neg h.1];rfl
theorem zO {ns:List Str} (h:∀x∈ns,Nm x):dM (pr ns)=ns:=by
 unfold pr;rcases List.eq_nil_or_concat ns with rfl|⟨ns',x,rfl⟩
 ·rfl
 ·rw[List.concat_eq_append] at h⊢
  rw[if_neg (by simp),List.flatMap_append];have e:([x].flatMap fun x=>(47:UInt8)::x)=47::x:=by simp
  rw[e,AT x (fun y hy=>h y (by simp [hy])),Ct (h x (by simp))]
theorem zo {ns:List Str} (h:∀x∈ns,fE x=true):dY (pr ns)=(ns,true):=by
 have:=zO (fun x hx=>KF (h x hx));unfold dY;rw[this,if_pos ⟨rfl,by rw[List.all_eq_true];exact h⟩]
theorem Ab {p:Str} (h:(dY p).2=true):pr (dY p).1=p∧(∀x∈(dY p).1,fE x=true)∧(dY p).1=dM p:=by
 unfold dY at h⊢;split
 ·rename_i h1
  refine⟨h1.1, ?_,rfl⟩;have:=h1.2;rw[List.all_eq_true] at this;exact this
 ·rename_i h1
  rw[if_neg h1] at h;cases h
theorem js {l:List ae} {n:Str} {ns:List Str} {s:ax} (hf:au s.ino l=none):dh l (n::ns) s=(fz,1):=by
 simp only[dh];rw[hf]
theorem fK {l:List ae} {n:Str} {ns:List Str} {s:ax} {d:ae} (hf:au s.ino l=some d) (hk:d.kind=2):dh l (n::ns) s=dh l ns ⟨d.ino,n,cB n d.entries⟩:=by
 simp only[dh];rw[hf];simp only;rw[if_pos hk]
theorem jG {l:List ae} {n:Str} {ns:List Str} {s:ax} {d:ae} (hf:au s.ino l=some d) (hk:d.kind≠2):dh l (n::ns) s=(fz,3):=by
 simp only[dh];rw[hf];simp only;rw[if_neg hk]
theorem u9 (l:List ae):∀(a b:List Str) (s:ax),dh l (a++b) s=if (dh l a s).2=0 then dh l b (dh l a s).1 else (fz,(dh l a s).2)
 | [],b,s=>by simp [dh]
 |n::a,b,s=>by
  rw[List.cons_append];cases hf:au s.ino l with
  |none=>rw[js hf,js hf];rfl
  |some d=>
   by_cases hk:d.kind=2
   ·rw[fK hf hk,fK hf hk];exact u9 l a b _
   ·rw[jG hf hk,jG hf hk];rfl
theorem xy {x:ae} {n:Str} (h:cB n x.entries≠0):∃e∈x.entries,e.name=n∧e.ino=cB n x.entries∧dS n x.entries=some e:=by
 unfold cB at h⊢;cases hf:dS n x.entries with
 |none=>rw[hf] at h;exact absurd rfl h
 |some e=>exact⟨e,(b8 hf).1,(b8 hf).2,rfl,rfl⟩
structure OnW (f:Fs) (m:Nat) (i:Int) (p:Str) (s:Seen) (ns:List Str):Prop where
 may:∀n∈ns,fE n=true
 len:ns.length≤m
 path:s.path=ns.foldl ND p
 there:∃x,au s.ino f.aa=some x
 go:∀sp:ax,sp.ino=i→∃t,dh f.aa ns sp=(t,0)∧t.ino=s.ino∧(ns= [] →t=sp)
 way:Way f.aa i s.ino ns.length
structure AtR (f:Fs) (s:Seen) (ns:List Str) (x:ae) (t:ax):Prop where
 may:∀n∈ns,fE n=true
 len:ns.length≤f.aa.length+1
 path:s.path=pr ns
 there:au s.ino f.aa=some x
 go:dh f.aa ns eM=(t,0)
 ino:t.ino=s.ino
 nil:ns= [] →t=eM
theorem AtR.atP {f:Fs} {s:Seen} {ns:List Str} {x:ae} {t:ax} (h:AtR f s ns x t):atP f s.path=(t,0):=by
 unfold Go.Eng.atP;rw[h.path,zo h.may,if_pos rfl,h.go]
theorem AtR.tn {f:Fs} {s:Seen} {ns:List Str} {x:ae} {t:ax} (h:AtR f s ns x t):tn f s.path=(x,0):=by
 unfold Go.Eng.tn;rw[h.atP,if_pos rfl,h.ino,h.there]
instance Xs:DecidableEq Seen:=fun a b=>
 if h:a.path=b.path∧a.ino=b.ino then isTrue (by cases a;cases b;simp at h;simp [h]) else isFalse (by intro e;subst e;exact h ⟨rfl,rfl⟩)
end Go.Eng
set_option linter.unusedSimpArgs false
set_option linter.unusedVariables false
set_option linter.unusedSectionVars false
namespace Go.Eng
open Go
theorem DK {α:Type} (a:α) (l:List α):((List.length (a::l):Int)==(0:Int))=false:=by
 rw[beq_eq_false_iff_ne];simp only[List.length_cons];omega
structure WS (f:Fs):Prop where
 wf:WF f
 par:∀x∈f.aa,x.kind=2→∃y,au x.parent f.aa=some y∧y.kind=2
 sym:∀x∈f.aa,x.kind=3→x.data.length≤4095
 LX:∃r,au 1 f.aa=some r∧r.kind=2
theorem Ha {x:ae} (h:fA x=true) (hk:x.kind=3):x.data.length≤4095∧1≤x.data.length:=by
 rw[AH hk] at h;simp only[Bool.and_eq_true,decide_eq_true_eq] at h;exact⟨h.2.2.1.2,h.2.2.1.1⟩
theorem Tree.ws {f:Fs} (h:Tree f) (hw:WF f):WS f where
 wf:=hw
 par:=fun x hx hk=>by
  obtain⟨r,hr,hk',hp⟩:=h.root;by_cases h1:x.ino=1
  ·have:=BE h.sort hx h1
   rw[hr] at this;cases this;exact⟨_,by rw[hp];exact hr,hk'⟩
  ·obtain⟨d,hd,e,he,hn⟩:=(h.led x hx).named h1
   have:=h.par x hx hk d hd e he hn;exact⟨d,by rw[this];exact ei h.sort hd,wT (h.kind d hd) he⟩
 sym:=fun x hx hk=>(Ha (h.kind x hx) hk).1
 LX:=by obtain⟨r,hr,hk,_⟩:=h.root;exact⟨r,hr,hk⟩
def ru (l:List ae) (dir:Bool) (s:ax):ax×Int:=match au s.ino l with
 |some x=>if dir=true∧x.kind≠2 then (fz,3) else (s,0)
 |none=>(s,0)
def cY (l:List ae) (fol:Bool) (lnk:Bool→ae→ae→List Str→ax×Int) (dir:Bool):List Str→ax→ax×Int
 | [],s=>ru l dir s
 |n::rest,s=>match au s.ino l with
  |none=>(fz,1)
  |some d=>if d.kind=2 then (if n=[46] then cY l fol lnk dir rest ⟨0, [],d.ino⟩ else if n=[46,46] then cY l fol lnk dir rest ⟨0, [],d.parent⟩
   else if (aK (cB n d.entries) l).kind=3∧(rest≠ [] ∨fol=true∨dir=true) then lnk dir (aK (cB n d.entries) l) d rest
   else cY l fol lnk dir rest ⟨d.ino,n,cB n d.entries⟩) else (fz,3)
def onK (l:List ae) (fol:Bool):Nat→Bool→List Str→ax→ax×Int
 |0=>cY l fol fun _ _ _ _=>(fz,6)
 |k+1=>cY l fol fun dir x d rest=>if nP x.data=true then (fz,7) else onK l fol k (dir||((dJ x.data).gh&&rest.isEmpty)) ((dJ x.data).names++rest) ⟨0, [],if (dJ x.data).abs=true then 1 else d.ino⟩
def pG (f:Fs) (base:Str):Int×Int:=if (tn f base).2=0 then (if (tn f base).1.kind=2 then ((tn f base).1.ino,0) else (0,3)) else (0,(tn f base).2)
def je (f:Fs) (base p:Str) (fol:Bool):ax×Int:=
 if p= [] then (fz,1) else if nP p=true then (fz,7) else
 if (dJ p).abs=true then onK f.aa fol 40 (dJ p).gh (dJ p).names eM else
 if (pG f base).2=0 then onK f.aa fol 40 (dJ p).gh (dJ p).names ⟨0, [],(pG f base).1⟩ else (fz,(pG f base).2)
def KA (l:List ae) (fol:Bool):Nat→Bool→ae→ae→List Str→ax×Int
 |0=>fun _ _ _ _=>(fz,6)
 |k+1=>fun dir x d rest=>if nP x.data=true then (fz,7) else onK l fol k (dir||((dJ x.data).gh&&rest.isEmpty)) ((dJ x.data).names++rest) ⟨0, [],if (dJ x.data).abs=true then 1 else d.ino⟩
theorem FG (l:List ae) (fol:Bool) (k:Nat):onK l fol k=cY l fol (KA l fol k):=by cases k<;>rfl
section
variable {l:List ae} {fol dir:Bool} {lnk:Bool→ae→ae→List Str→ax×Int} {n:Str} {rest:List Str} {s:ax} {d:ae}
theorem lI (hf:au s.ino l=none):cY l fol lnk dir (n::rest) s=(fz,1):=by simp only[cY];rw[hf]
theorem n_ (hf:au s.ino l=some d) (hk:d.kind≠2):cY l fol lnk dir (n::rest) s=(fz,3):=by simp only[cY];rw[hf];simp only;rw[if_neg hk]
theorem nE (hf:au s.ino l=some d) (hk:d.kind=2) (hn:n=[46]):cY l fol lnk dir (n::rest) s=cY l fol lnk dir rest ⟨0, [],d.ino⟩:=by simp only[cY];rw[hf];simp only;rw[if_pos hk,if_pos hn]
theorem oW (hf:au s.ino l=some d) (hk:d.kind=2) (hn:n=[46,46]):cY l fol lnk dir (n::rest) s=cY l fol lnk dir rest ⟨0, [],d.parent⟩:=by simp only[cY];rw[hf];simp only;rw[if_pos hk,if_neg (by rw[hn];decide),if_pos hn]
theorem iD (hf:au s.ino l=some d) (hk:d.kind=2) (h1:n≠[46]) (h2:n≠[46,46]) (h3:(aK (cB n d.entries) l).kind=3∧(rest≠ [] ∨fol=true∨dir=true)):cY l fol lnk dir (n::rest) s=lnk dir (aK (cB n d.entries) l) d rest:=by simp only[cY];rw[hf];simp only;rw[if_pos hk,if_neg h1,if_neg h2,if_pos h3]
theorem jj (hf:au s.ino l=some d) (hk:d.kind=2) (h1:n≠[46]) (h2:n≠[46,46]) (h3:¬((aK (cB n d.entries) l).kind=3∧(rest≠ [] ∨fol=true∨dir=true))):cY l fol lnk dir (n::rest) s=cY l fol lnk dir rest ⟨d.ino,n,cB n d.entries⟩:=by simp only[cY];rw[hf];simp only;rw[if_pos hk,if_neg h1,if_neg h2,if_neg h3]
end
theorem oE (s:Str):(dJ s).names=dM s:=rfl
theorem sR (s:Str):(dM s).length≤s.length+1:=by have:=lh s;omega
theorem Db {f:Fs} {i:Int} (h:(aK i f.aa).kind=3):∃x,au i f.aa=some x∧aK i f.aa=x:=by
 cases hf:au i f.aa with
 |none=>rw[dO hf] at h;cases h
 |some x=>exact⟨x,rfl,bx hf⟩
def wt:Nat→Nat
 |0=>0
 |k+1=>wt k+210000
theorem aoI:wt 40=8400000:=rfl
theorem wk {f:Fs} (h:WF f) {base:Str} (hb:base.length≤8388608):p_ f base=some (pG f base):=by
 unfold p_ pG;rw[xN h hb,ai,mg,mg];by_cases h1:(tn f base).2=0
 ·rw[bK (by simp [h1]),if_pos h1]
  by_cases h2:(tn f base).1.kind=2
  ·rw[bK (by simp [h2]),if_pos h2]
  ·rw[aN (by simp [h2]),if_neg h2]
 ·rw[aN (by simp [h1]),if_neg h1]
theorem ED {p:Str} (h:nP p=false):p.length≤4095:=by
 unfold nP at h;simp only[Bool.or_eq_false_iff,decide_eq_false_iff_not] at h;omega
theorem YG {f:Fs} (h:WS f) (fol:Bool):∀(n k:Nat) (dir:Bool) (todo:List Str) (s:ax),(s.ino=0∨(au s.ino f.aa).isSome=true)→k≤40→todo.length≤5000*(41 - k)→wt k+todo.length<n→
 bG n f s todo fol dir ((40 - k:Nat):Int)=some (onK f.aa fol k dir todo s):=by
 intro n;induction n with
 |zero=>intro k dir todo s _ _ _ h;omega
 |succ n ih=>
  intro k dir todo s hs hk ht hn;simp only[bG];rw[FG];cases todo with
  |nil=>
   rw[aN (by simp),h.wf.nQ,ai];show _=some (ru f.aa dir s);unfold ru;cases hf:au s.ino f.aa with
   |none=>rfl
   |some x=>
    rw[bx hf,mg];simp only[Option.isSome_some,aC];cases dir
    ·simp
    ·by_cases hk:x.kind=2
     ·simp [hk]
     ·simp [hk];rfl
  |cons nm rest=>
   have hti:Int.toNat (0:Int)=0:=rfl;have ht1:Int.toNat (1:Int)=1:=rfl;simp only[List.length_cons] at ht hn;have ih':∀(s':ax),(s'.ino=0∨(au s'.ino f.aa).isSome=true)→(aj (bG n f s' rest fol dir ((40 - k:Nat):Int)) fun y4=>some (y4.1,y4.2))=some (cY f.aa fol (KA f.aa fol k) dir rest s'):=fun s' hs'=>by
    rw[ih k dir rest s' hs' hk (by omega) (by omega),FG];rfl
   rw[bK (DK _ _),kE];by_cases h0:s.ino=0
   ·rw[aN (by simp [h0]),lI (by rw[h0];exact h.wf.zero)];rfl
   rw[bK (by simp [h0]),h.wf.nQ,ai];obtain⟨d,hf⟩:=Option.isSome_iff_exists.1 (hs.resolve_left h0);rw[bx hf,mg];by_cases hk2:d.kind=2
   case neg=>rw[n_ hf hk2,aN (by simp [hk2])];rfl
   rw[bK (by simp [hk2]),aN (by decide),hti,List.getElem?_cons_zero,ai,ht1,aN (by simp;omega),List.drop_one,List.tail_cons];have hdm:=h.wf.found hf;by_cases hd1:nm=[46]
   ·rw[nE hf hk2 hd1,aN (by simp [hd1])]
    exact ih' ⟨0, [],d.ino⟩ (Or.inr (by rw[hdm.2,hf];rfl))
   rw[bK (by simp [hd1])];by_cases hd2:nm=[46,46]
   ·rw[oW hf hk2 hd2,aN (by simp [hd2])]
    exact ih' ⟨0, [],d.parent⟩ (Or.inr (by obtain⟨y,hy,_⟩:=h.par d hdm.1 hk2;rw[hy];rfl))
   rw[bK (by simp [hd2]),nZ (h.wf.sm.de d hdm.1),ai,h.wf.nQ,ai];simp only;have hon:=ih' ⟨d.ino,nm,cB nm d.entries⟩ (na h.wf hdm.1 nm);rw[mg];by_cases hk3:(aK (cB nm d.entries) f.aa).kind=3
   ·obtain⟨x,hx,hgx⟩:=Db hk3
    rw[hgx] at hk3;have hxm:=h.wf.found hx;have hxl:=h.sym x hxm.1 hk3;have hne:cB nm d.entries≠0:=by intro e;rw[e,h.wf.zero] at hx;cases hx
    obtain⟨e,_,_,_,he4⟩:=xy hne;rw[he4,hgx,bK (by simp),bK (by simp [hk3])];have hnl:(dM x.data).length≤4096:=by have:=sR x.data;omega
    have blk:ah ((((40 - k:Nat):Int))==(40:Int)) (some ((⟨0, [],0⟩:ax),(6:Int))) (aj (iv x.data) fun y11=>
 ah y11 (some ((⟨0, [],0⟩:ax),(7:Int))) (aj (gm x.data) fun y12=>
 ah y12.abs (
 ah y12.gh (
 ah ((List.length rest:Int)==(0:Int)) (aQ (([] :List Str).length+y12.names.length) (aQ (y12.names.length+rest.length) (aj (bG n f (⟨0, [],(1:Int)⟩:ax) (y12.names++rest) fol true (IntKind.i64.wrap (((40 - k:Nat):Int)+(1:Int)))) fun y13=>some (y13.1,y13.2)))) (aQ (([] :List Str).length+y12.names.length) (aQ (y12.names.length+rest.length) (aj (bG n f (⟨0, [],(1:Int)⟩:ax) (y12.names++rest) fol dir (IntKind.i64.wrap (((40 - k:Nat):Int)+(1:Int)))) fun y14=>some (y14.1,y14.2))))) (aQ (([] :List Str).length+y12.names.length) (aQ (y12.names.length+rest.length) (aj (bG n f (⟨0, [],(1:Int)⟩:ax) (y12.names++rest) fol dir (IntKind.i64.wrap (((40 - k:Nat):Int)+(1:Int)))) fun y15=>some (y15.1,y15.2))))) (
 ah y12.gh (
 ah ((List.length rest:Int)==(0:Int)) (aQ (([] :List Str).length+y12.names.length) (aQ (y12.names.length+rest.length) (aj (bG n f (⟨0, [],d.ino⟩:ax) (y12.names++rest) fol true (IntKind.i64.wrap (((40 - k:Nat):Int)+(1:Int)))) fun y16=>some (y16.1,y16.2)))) (aQ (([] :List Str).length+y12.names.length) (aQ (y12.names.length+rest.length) (aj (bG n f (⟨0, [],d.ino⟩:ax) (y12.names++rest) fol dir (IntKind.i64.wrap (((40 - k:Nat):Int)+(1:Int)))) fun y17=>some (y17.1,y17.2))))) (aQ (([] :List Str).length+y12.names.length) (aQ (y12.names.length+rest.length) (aj (bG n f (⟨0, [],d.ino⟩:ax) (y12.names++rest) fol dir (IntKind.i64.wrap (((40 - k:Nat):Int)+(1:Int)))) fun y18=>some (y18.1,y18.2)))))))=some (KA f.aa fol k dir x d rest):=by
     cases k with
     |zero=>rw[aN (by simp)];rfl
     |succ k=>
      have e:IntKind.i64.wrap (((40 - (k+1):Nat):Int)+1)=((40 - k:Nat):Int):=by rw[b9 (by omega) (by omega)];omega
      rw[e,bK (by rw[kE];simp;omega),pw (by omega),ai];simp only[KA];cases hlong:nP x.data
      case true=>rw[aC,if_pos rfl];rfl
      rw[ay,mh (by omega),ai,if_neg (by simp)];have hlen:((dJ x.data).names++rest).length≤rest.length+4096:=by rw[List.length_append,oE];omega
      have go:∀(dir':Bool) (s':ax),(s'.ino=0∨(au s'.ino f.aa).isSome=true)→aQ (([] :List Str).length+(dJ x.data).names.length) (aQ ((dJ x.data).names.length+rest.length) (aj (bG n f s' ((dJ x.data).names++rest) fol dir' ((40 - k:Nat):Int)) fun y13=>some (y13.1,y13.2)))=some (onK f.aa fol k dir' ((dJ x.data).names++rest) s'):=by
       intro dir' s' hs';have h7:(dJ x.data).names.length≤4096:=by rw[oE];omega
       rw[bZ (by unfold LIM;simp;omega),bZ (by unfold LIM;omega),ih k dir' _ s' hs' (by omega) (by clear ih ih';omega) (by clear ih ih';simp only[wt] at hn;omega)];rfl
      have r1:=fun dir'=>go dir' ⟨0, [],1⟩ (Or.inr h.wf.root)
      have r2:=fun dir'=>go dir' ⟨0, [],d.ino⟩ (Or.inr (by rw[hdm.2,hf];rfl))
      simp only[r1,r2];cases (dJ x.data).abs
      ·cases (dJ x.data).gh
       ·simp
       ·cases rest
        ·simp
        ·simp only[aC,ay,DK];simp
      ·cases (dJ x.data).gh
       ·simp
       ·cases rest
        ·simp
        ·simp only[aC,ay,DK];simp
    by_cases hr:rest= []
    ·subst hr
     rw[aN (by simp)];cases fol
     ·cases dir
      ·simp only[Bool.not_false,aC]
       rw[jj hf hk2 hd1 hd2 (by simp)];exact hon
      ·simp only[Bool.not_false,aC,Bool.not_true,ay]
       rw[iD hf hk2 hd1 hd2 ⟨by rw[hgx];exact hk3,Or.inr (Or.inr rfl)⟩,hgx];exact blk
     ·simp only[Bool.not_true,ay]
      rw[iD hf hk2 hd1 hd2 ⟨by rw[hgx];exact hk3,Or.inr (Or.inl rfl)⟩,hgx];exact blk
    ·rw[bK (by cases rest with|nil=>exact absurd rfl hr|cons a b=>exact DK _ _),iD hf hk2 hd1 hd2 ⟨by rw[hgx];exact hk3,Or.inl hr⟩,hgx]
     exact blk
   ·rw[aN (b:= !decide _) (by simp [hk3]),jj hf hk2 hd1 hd2 (fun h9=>hk3 h9.1)]
    cases hfe:(dS nm d.entries).isSome
    ·rw[aN (by simp)];exact hon
    ·rw[bK (by simp)];exact hon
theorem Ac {f:Fs} (h:WF f) {base:Str}:(pG f base).1=0∨(au (pG f base).1 f.aa).isSome=true:=by
 unfold pG tn;by_cases h1:(atP f base).2=0
 ·simp only[h1,if_true]
  cases hf:au (atP f base).1.ino f.aa with
  |none=>left;rfl
  |some x=>
   simp only[if_true];split
   ·right
    simp only;have:=h.found hf;rw[this.2,hf];rfl
   ·left;rfl
 ·left
  simp only[h1,if_false]
theorem vR {f:Fs} (h:WS f) {base p:Str} {fol:Bool} (hb:base.length≤8388608) (hp:p.length≤1073741823):pN f base p fol=some (je f base p fol):=by
 unfold pN je;by_cases h0:p= []
 ·rw[aN (by simp [h0]),if_pos h0];rfl
 rw[bK (by simp [h0]),if_neg h0,pw hp,ai];cases hl:nP p
 case true=>rw[aC,if_pos rfl];rfl
 have hlen:=ED hl;rw[ay,if_neg (by simp),mh hp,ai];have hnm:(dJ p).names.length≤4096:=by rw[oE];have:=sR p;omega
 have go:∀(s:ax),(s.ino=0∨(au s.ino f.aa).isSome=true)→(aj (qy f s (dJ p).names fol (dJ p).gh (0:Int)) fun y4=>some (y4.1,y4.2))=some (onK f.aa fol 40 (dJ p).gh (dJ p).names s):=fun s hs=>by
  unfold qy;have:=YG h fol bg 40 (dJ p).gh (dJ p).names s hs (Nat.le_refl _) (by omega) (gZ (by rw[aoI];omega));have e:((40 - 40:Nat):Int)=0:=rfl;rw[e] at this;rw[this];rfl
 cases (dJ p).abs
 ·simp only[Bool.not_false,aC,Bool.false_eq_true,if_false]
  rw[wk h.wf hb,ai,mg];by_cases h2:(pG f base).2=0
  ·rw[bK (by simp [h2]),if_pos h2]
   exact go ⟨0, [],(pG f base).1⟩ (Ac h.wf)
  ·rw[aN (by simp [h2]),if_neg h2];rfl
 ·simp only[Bool.not_true,ay,if_true]
  exact go eM (Or.inr h.wf.root)
end Go.Eng
set_option linter.unusedVariables false
set_option maxRecDepth 100000
namespace Go.Eng
open Go
end Go.Eng
set_option linter.unusedSimpArgs false
set_option linter.unusedVariables false
set_option linter.unusedSectionVars false
namespace Go.Eng
open Go
def Gd (f:Fs) (fol:Bool) (s:ax):Prop:=(s.name= [] ∧s.dir=0∧∃d,au s.ino f.aa=some d∧d.kind=2)∨(s.name≠ [] ∧∃d,au s.dir f.aa=some d∧d.kind=2∧s.ino=cB s.name d.entries∧(fol=true→(aK s.ino f.aa).kind≠3))
end Go.Eng
set_option linter.unusedVariables false
set_option maxRecDepth 100000
namespace Go.Eng
open Go
end Go.Eng
set_option linter.unusedVariables false
set_option maxRecDepth 100000
namespace Go.Eng
open Go
end Go.Eng
set_option linter.unusedSimpArgs false
set_option linter.unusedVariables false
set_option linter.unusedSectionVars false
namespace Go.Eng
open Go
def ae.eW (x:ae) (d:Str):ae:=⟨x.ino,x.kind,x.aq,d,x.parent,x.entries⟩
section
variable {f:Fs} {base p:Str}
end
def V7:Option ae→Option ae→Prop
 |none,none=>True
 |some x,some y=>x.ino=y.ino∧x.kind=y.kind∧x.parent=y.parent∧x.entries=y.entries∧(x.kind=3→x.data=y.data)
 |_,_=>False
def zH (l m:List ae):Prop:=∀k,V7 (au k l) (au k m)
section
variable {l m:List ae}
theorem zH.none (h:zH l m) {k:Int} (hf:au k l=none):au k m=none:=by
 have:=h k;rw[hf] at this;cases hm:au k m with
 |none=>rfl
 |some y=>rw[hm] at this;exact this.elim
theorem zH.some (h:zH l m) {k:Int} {x:ae} (hf:au k l=some x):∃y,au k m=some y∧x.ino=y.ino∧x.kind=y.kind∧x.parent=y.parent∧x.entries=y.entries∧(x.kind=3→x.data=y.data):=by
 have:=h k;rw[hf] at this;cases hm:au k m with
 |none=>rw[hm] at this;exact this.elim
 |some y=>rw[hm] at this;exact⟨y,rfl,this⟩
theorem zH.kind (h:zH l m) (k:Int):(aK k l).kind=(aK k m).kind:=by
 cases hf:au k l with
 |none=>rw[dO hf,dO (h.none hf)]
 |some x=>obtain⟨y,hy,h1⟩:=h.some hf;rw[bx hf,bx hy];exact h1.2.1
end
section
variable {f:Fs} {x:ae} {d:Str}
theorem bR {l:List ae} {x:ae} {k:Int}:au k (bH x l)=if x.ino=k then some x else au k l:=xp
theorem qj {l:List ae} {k k':Int}:au k' (dn k l)=if k=k' then none else au k' l:=nc
theorem eK {l:List ae} {x y:ae}:y∈bH x l↔y=x∨(y∈l∧y.ino≠x.ino):=zC
theorem cg {l:List ae} {x:ae} (h:cA l):cA (bH x l):=oN loI h
theorem gC {l:List ae} {x:ae} (h:cA l):(bH x l).length=if (au x.ino l).isSome then l.length else l.length+1:=LJ loI h
def byt (x:ae):Int:=if x.kind=1 then (x.data.length:Int) else 0
theorem fi {l:List ae} {x:ae} (h:cA l):bytesOf (bH x l)+h_ byt (au x.ino l)=bytesOf l+byt x:=qx loI byt h
theorem jS {l:List ae} {x:ae} (h:cA l) (n:Int):fc n (bH x l)+h_ (fun y:ae=>ec n y.entries) (au x.ino l)=fc n l+ec n x.entries:=qx loI _ h
theorem ze {l:List ae} {k:Int} (h:cA l):bytesOf (dn k l)+h_ byt (au k l)=bytesOf l:=kL loI byt h
theorem FE {l:List ae} {k:Int} (h:cA l) (n:Int):fc n (dn k l)+h_ (fun y:ae=>ec n y.entries) (au k l)=fc n l:=kL loI _ h
theorem Fg {l:List ae} {k:Int} (h:cA l):(dn k l).length+(if (au k l).isSome then 1 else 0)=l.length:=Gk loI h
theorem FV (hx:au x.ino f.aa=some x) (hk:x.kind=1):zH f.aa (f.set (x.eW d)).aa:=by
 intro k;show V7 _ (au k (bH (x.eW d) f.aa));rw[bR];by_cases e:(x.eW d).ino=k
 ·rw[if_pos e]
  have e:x.ino=k:=e;subst e;rw[hx];exact⟨rfl,rfl,rfl,rfl,fun h=>by rw[hk] at h;cases h⟩
 ·rw[if_neg e]
  cases au k f.aa with
  |none=>trivial
  |some y=>exact⟨rfl,rfl,rfl,rfl,fun _=>rfl⟩
theorem Reach.mono {l m:List ae} (h:∀k x,au k l=some x→∃y,au k m=some y∧∀e∈x.entries,∃e'∈y.entries,e'.ino=e.ino) {k:Int} (hr:Reach l k):Reach m k:=by
 induction hr with
 |root=>exact .root
 |step _ hf he ih=>
  obtain⟨y,hy,h2⟩:=h _ _ hf;obtain⟨e',he',hn⟩:=h2 _ he;rw[←hn];exact .step ih hy he'
theorem Tree.KH (h:Tree f) (hx:au x.ino f.aa=some x) (hk:x.kind=1) (hfit:dv f 0 ((d.length:Int) - (x.data.length:Int))=true):Tree (f.set (x.eW d)):=by
 have hxm:=(aW hx).1;have hfc:∀n,fc n (f.set (x.eW d)).aa=fc n f.aa:=fun n=>by
  have:=jS (x:=x.eW d) h.sort n;rw[show(x.eW d).ino=x.ino from rfl,hx] at this;have e:(x.eW d).entries=x.entries:=rfl;simp only[h_,e] at this;show fc n (bH (x.eW d) f.aa)=_;omega
 have hmem:∀y∈(f.set (x.eW d)).aa,∃z∈f.aa,z.ino=y.ino∧z.kind=y.kind∧z.aq=y.aq∧z.parent=y.parent∧z.entries=y.entries∧(y.kind≠1→y=z):=fun y hy=>by
  rcases eK.1 hy with rfl|⟨hy,_⟩
  ·exact⟨x,hxm,rfl,rfl,rfl,rfl,rfl,fun hn=>absurd hk hn⟩
  ·exact⟨y,hy,rfl,rfl,rfl,rfl,rfl,fun _=>rfl⟩
 have hsim:=FV (d:=d) hx hk;obtain⟨r,hr,hrk,hrp⟩:=h.root;refine⟨h.vr,h.uj,h.next,fun y hy=> ?_,cg h.sort, ?_,fun y hy=> ?_,fun y hy e he=> ?_,fun y hy=> ?_, ?_,fun y hy hd=> ?_,fun y hy hd z hz e he hn=> ?_,fun y hy=> ?_, ?_⟩
 ·obtain⟨z,hz,e1,_⟩:=hmem y hy
  rw[←e1];exact h.ino z hz
 ·obtain⟨y,hy,e1,e2,e3,_⟩:=hsim.some hr
  exact⟨y,hy,by rw[←e2];exact hrk,by rw[←e3];exact hrp⟩
 ·rcases eK.1 hy with rfl|⟨hy,_⟩
  ·have:=h.kind x hxm
   rw[zJ hk] at this;rw[zJ (show(x.eW d).kind=1 from hk)];exact this
  ·exact h.kind y hy
 ·obtain⟨z,hz,_,_,_,_,e5,_⟩:=hmem y hy
  obtain⟨u,hu⟩:=h.there z hz e (by rw[e5];exact he);obtain⟨v,hv,_⟩:=hsim.some hu;exact⟨v,hv⟩
 ·obtain⟨z,hz,e1,_,e3,_⟩:=hmem y hy
  rw[hfc,←e1,←e3];exact h.aq z hz
 ·rw[hfc];exact h.sk
 ·obtain⟨z,hz,e1,e2,_⟩:=hmem y hy
  rw[hfc,←e1];exact h.EE z hz (by rw[e2];exact hd)
 ·obtain⟨z',hz',e1,e2,_,e4,_⟩:=hmem y hy
  obtain⟨w,hw,f1,_,_,_,f5,_⟩:=hmem z hz;rw[←e4,←f1];exact h.par z' hz' (by rw[e2];exact hd) w hw e (by rw[f5];exact he) (by rw[e1];exact hn)
 ·obtain⟨z,hz,e1,_⟩:=hmem y hy
  rw[←e1];refine Reach.mono (fun k u hu=> ?_) (h.led z hz);obtain⟨v,hv,_,_,_,e4,_⟩:=hsim.some hu;exact⟨v,hv,fun e he=>⟨e,by rw[←e4];exact he,rfl⟩⟩
 ·have hb:=fi (x:=x.eW d) h.sort
  have hl:=gC (x:=x.eW d) h.sort;rw[show(x.eW d).ino=x.ino from rfl,hx] at hb hl;have e1:byt x=x.data.length:=by unfold byt;rw[if_pos hk]
  have e2:byt (x.eW d)=d.length:=by unfold byt;rw[if_pos (show(x.eW d).kind=1 from hk)];rfl
  simp only[h_,e1,e2] at hb;simp only[Option.isSome_some,if_true] at hl;unfold dv at hfit⊢;simp only[Bool.and_eq_true,decide_eq_true_eq] at hfit⊢;show((bH (x.eW d) f.aa).length:Int)+0≤f.ar∧bytesOf (bH (x.eW d) f.aa)+0≤f.aw;omega
end
theorem Tree.wf {f:Fs} (h:Tree f) (hs:SmF f):WF f:=((Cy f).2 h).wf hs
theorem Tree.check {f:Fs} (h:Tree f):qn f=0:=(vK f).2 ((Cy f).2 h)
end Go.Eng
set_option linter.unusedVariables false
set_option maxRecDepth 100000
namespace Go.Eng
open Go
end Go.Eng
set_option linter.unusedSimpArgs false
set_option linter.unusedVariables false
set_option linter.unusedSectionVars false
namespace Go.Eng
open Go
structure Ev (f:Fs):Prop where
 tr:Tree f
 sm:SmF f
 wf:WF f
 ws:WS f
 lil:Lil f
 len:f.aa.length≤40
 few:∀x∈f.aa,x.data.length≤5000∧x.entries.length≤40∧∀e∈x.entries,e.name.length≤300
section
variable {f:Fs} {base p d:Str}
structure Wr (f:Fs) (x:ae) (d:Str) (g:Fs):Prop where
 tr:Tree g
 sm:SmF g
 ws:WS g
 lil:Lil g
 len:g.aa.length=f.aa.length
 sim:zH f.aa g.aa
 find:∀k,au k g.aa=if x.ino=k then some (x.eW d) else au k f.aa
end
end Go.Eng
set_option linter.unusedSimpArgs false
set_option linter.unusedVariables false
set_option linter.unusedSectionVars false
namespace Go.Eng
open Go
theorem xz {l:List Entry} {e:Entry} {n:Str}:dS n (hY e l)=if e.name=n then some e else dS n l:=xp
theorem m8 {l:List Entry} {n n':Str}:dS n' (dV n l)=if n=n' then none else dS n' l:=nc
theorem zk {l:List Entry} {e e':Entry}:e'∈hY e l↔e'=e∨(e'∈l∧e'.name≠e.name):=zC
theorem wW {l:List Entry} {n:Str} {e:Entry}:e∈dV n l↔e∈l∧e.name≠n:=fo
theorem En {l:List Entry} {e:Entry} (hs:hC l) (h:e∈l):dS e.name l=some e:=kM loS hs h
theorem iu {l:List Entry} {n:Str} {e:Entry} (h:dS n l=some e):e∈l∧e.name=n:=b8 h
theorem G1 {l:List Entry} {e:Entry} (h:hC l) (n:Int):ec n (hY e l)+h_ (one n) (dS e.name l)=ec n l+one n e:=qx loS (one n) h
theorem Dy {l:List Entry} {m:Str} (h:hC l) (n:Int):ec n (dV m l)+h_ (one n) (dS m l)=ec n l:=kL loS (one n) h
theorem wN {l:List Entry} {e:Entry} (h:f_ l=true) (h1:fE e.name=true) (h2:1≤e.ino):f_ (hY e l)=true:=by
 rw[gB] at h⊢;refine⟨oN loS h.1,fun x hx=> ?_⟩;rcases zk.1 hx with rfl|⟨hx,_⟩
 ·exact⟨h1,h2⟩
 ·exact h.2 x hx
theorem u0 {l:List Entry} {n:Str} (h:f_ l=true):f_ (dV n l)=true:=by
 rw[gB] at h⊢;exact⟨fh h.1,fun x hx=>h.2 x (wW.1 hx).1⟩
theorem D8 {l:List Entry} (h:f_ l=true) {n:Str} (h0:cB n l=0):dS n l=none:=by
 unfold cB at h0;cases hf:dS n l with
 |none=>rfl
 |some e=>
  rw[hf] at h0;have:=(((gB _).1 h).2 e (iu hf).1).2;simp only at h0;omega
theorem Fo {l:List Entry} {n:Str} {e:Entry} (h:dS n l=some e):cB n l=e.ino:=by unfold cB;rw[h]
theorem tH {l:List Entry} {n:Str} (h:cB n l≠0):∃e,dS n l=some e∧e∈l∧e.name=n∧e.ino=cB n l:=by
 unfold cB at h;cases hf:dS n l with
 |none=>rw[hf] at h;exact absurd rfl h
 |some e=>exact⟨e,rfl,(iu hf).1,(iu hf).2,(Fo hf).symm⟩
def ae.dQ (x:ae) (n:Int):ae:=⟨x.ino,x.kind,n,x.data,x.parent,x.entries⟩
def ae.jd (x:ae) (n:Int):ae:=⟨x.ino,x.kind,x.aq,x.data,n,x.entries⟩
def ae.b_ (d:ae) (nm:Str) (n:Int):ae:=d.s5 (hY ⟨nm,n⟩ d.entries)
def ae.cE (d:ae) (nm:Str):ae:=d.s5 (dV nm d.entries)
theorem yP {g:Fs} (vr:1≤g.ar∧g.ar≤1073741824) (uj:0≤g.aw∧g.aw≤1073741824) (next:g.next≤1099511627776) (sort:cA g.aa)
 (ino:∀k x,au k g.aa=some x→1≤k∧k<g.next) (root:∃r,au 1 g.aa=some r∧r.kind=2∧r.parent=1) (kind:∀k x,au k g.aa=some x→fA x=true)
 (there:∀k x,au k g.aa=some x→∀e∈x.entries,∃y,au e.ino g.aa=some y) (aq:∀k x,au k g.aa=some x→x.aq=fc k g.aa) (sk:fc 1 g.aa=0)
 (EE:∀k x,au k g.aa=some x→x.kind=2→fc k g.aa≤1) (par:∀k x,au k g.aa=some x→x.kind=2→∀j d,au j g.aa=some d→∀e∈d.entries,e.ino=k→x.parent=j)
 (led:∀k x,au k g.aa=some x→Reach g.aa k) (fits:dv g 0 0=true):Tree g:=
 ⟨vr,uj,next,fun x hx=>ino _ x (ei sort hx),sort,root,fun x hx=>kind _ x (ei sort hx),fun x hx=>there _ x (ei sort hx),fun x hx=>aq _ x (ei sort hx),sk,
  fun x hx=>EE _ x (ei sort hx),fun x hx hk d hd e he hn=>par _ x (ei sort hx) hk _ d (ei sort hd) e he hn,fun x hx=>led _ x (ei sort hx),fits⟩
section
variable {f:Fs}
theorem Tree.iy (h:Tree f) {k:Int} {x:ae} (hx:au k f.aa=some x):fA x=true∧x.aq=fc k f.aa∧1≤k∧k<f.next∧hC x.entries∧f_ x.entries=true:=by
 obtain⟨h1,h2⟩:=aW hx;have hk:=h.kind x h1;have hi:=h.ino x h1;subst h2;have hr:=p6 hk;exact⟨hk,h.aq x h1,hi.1,hi.2,((gB _).1 hr).1,hr⟩
theorem Tree.to (h:Tree f) {k:Int} {x:ae} (hx:au k f.aa=some x) {e:Entry} (he:e∈x.entries):∃y,au e.ino f.aa=some y:=h.there x (aW hx).1 e he
theorem Tree.fc0 (h:Tree f) {k:Int} (hk:au k f.aa=none):fc k f.aa=0:=by
 have h0:=Gp k f.aa;by_cases hp:0<fc k f.aa
 ·obtain⟨x,hx,e,he,hn⟩:=FT hp
  obtain⟨y,hy⟩:=h.there x hx e he;rw[hn,hk] at hy;cases hy
 ·omega
theorem Tree.parent (h:Tree f) {k j:Int} {x d:ae} {e:Entry} (hx:au k f.aa=some x) (hk:x.kind=2) (hd:au j f.aa=some d) (he:e∈d.entries) (hn:e.ino=k):x.parent=j:=by
 obtain⟨x1,x2⟩:=aW hx;obtain⟨d1,d2⟩:=aW hd;rw[h.par x x1 hk d d1 e he (by rw[hn,x2]),d2]
theorem Tree.sE (h:Tree f) {k:Int} {x:ae} (hx:au k f.aa=some x) (hk:x.kind=2):fc k f.aa≤1:=by
 obtain⟨x1,x2⟩:=aW hx;rw[←x2];exact h.EE x x1 hk
theorem Tree.wq (h:Tree f) {k:Int} {x:ae} (hx:au k f.aa=some x):Reach f.aa k:=by
 obtain⟨x1,x2⟩:=aW hx;rw[←x2];exact h.led x x1
theorem uU {x:ae} (h:fA x=true) (hk:x.kind=2) {l:List Entry} (hr:f_ l=true):fA (x.s5 l)=true:=by
 rw[Ax hk,Bool.and_eq_true] at h;rw[Ax (show(x.s5 l).kind=2 from hk),Bool.and_eq_true];exact⟨h.1,hr⟩
theorem uV {x:ae} (h:fA x=true) {n:Int}:fA (x.dQ n)=true:=h
end
structure jc (f:Fs) (d:ae) (nm:Str):Prop where
 hd:au d.ino f.aa=some d
 hk:d.kind=2
 hm:fE nm=true
 h0:dS nm d.entries=none
section
variable {f:Fs} {d x:ae} {nm:Str}
theorem jc.de (h:jc f d nm) {n:Int} {e:Entry}:e∈(d.b_ nm n).entries↔e=⟨nm,n⟩∨e∈d.entries:=by
 show e∈hY ⟨nm,n⟩ d.entries↔_;rw[zk];refine⟨fun h'=>h'.imp id And.left,fun h'=>h'.imp id fun he=>⟨he,fun hn=> ?_⟩⟩;have hn:e.name=nm:=hn;have:=h.h0;have hf:dS nm d.entries≠none:=by
  intro hh;have:∀y∈d.entries,y.name≠nm:=fun y hy hyn=>by
   unfold dS b5 at hh;rw[List.find?_eq_none] at hh;exact hh y hy (by simpa using hyn)
  exact this e he hn
 exact hf this
theorem jc.ec (h:jc f d nm) (ht:Tree f) (n m:Int):Go.Eng.ec m (d.b_ nm n).entries=Go.Eng.ec m d.entries+if n=m then 1 else 0:=by
 have:=G1 (e:=⟨nm,n⟩) (ht.iy h.hd).2.2.2.2.1 m;rw[show(⟨nm,n⟩:Entry).name=nm from rfl,h.h0] at this;simp only[h_,one] at this;show Go.Eng.ec m (hY ⟨nm,n⟩ d.entries)=_;omega
theorem qS {n:Int} (k:Int):au k (bH x (bH (d.b_ nm n) f.aa))=if x.ino=k then some x else if d.ino=k then some (d.b_ nm n) else au k f.aa:=by
 rw[bR,bR];rfl
theorem oP (h:d.kind=2):byt d=0:=by unfold byt;rw[if_neg (by omega)]
theorem sx (h:Tree f) (hf:jc f d nm) (hx:au x.ino f.aa=none):
 (bH x (bH (d.b_ nm x.ino) f.aa)).length=f.aa.length+1∧bytesOf (bH x (bH (d.b_ nm x.ino) f.aa))=bytesOf f.aa+byt x∧
  (x.entries= [] →∀n,fc n (bH x (bH (d.b_ nm x.ino) f.aa))=fc n f.aa+if x.ino=n then 1 else 0):=by
 have hxd:d.ino≠x.ino:=fun e=>by rw[←e,hf.hd] at hx;cases hx
 have hs:=h.sort;have hs1:=cg (x:=d.b_ nm x.ino) hs;have h1:au x.ino (bH (d.b_ nm x.ino) f.aa)=none:=by rw[bR,if_neg (show¬(d.b_ nm x.ino).ino=x.ino from hxd)];exact hx
 have h2:au (d.b_ nm x.ino).ino f.aa=some d:=hf.hd;refine⟨?_, ?_,fun he n=> ?_⟩
 ·rw[gC hs1,h1,gC hs,h2];rfl
 ·have a:=fi (x:=x) hs1
  have b:=fi (x:=d.b_ nm x.ino) hs;rw[h1] at a;rw[h2] at b;simp only[h_] at a b;rw[oP hf.hk,oP (show(d.b_ nm x.ino).kind=2 from hf.hk)] at b;omega
 ·have a:=jS (x:=x) hs1 n
  have b:=jS (x:=d.b_ nm x.ino) hs n;rw[h1,he] at a;rw[h2] at b;simp only[h_] at a b;have c:=hf.ec h x.ino n;have c0:Go.Eng.ec n ([] :List Entry)=0:=rfl;omega
theorem KX (h:Tree f) (hf:jc f d nm) (hx:au x.ino f.aa=none) {nx:Int} (h1:1≤x.ino) (h2:x.ino<nx) (h3:f.next≤nx) (h4:nx≤1099511627776) (hk:fA x=true) (hl:x.aq=1) (he:x.entries= []) (hp:x.kind=2→x.parent=d.ino)
 (hfit:dv f 1 (byt x)=true):Tree ⟨f.ar,f.aw,nx,bH x (bH (d.b_ nm x.ino) f.aa)⟩:=by
 have hfind:=qS (f:=f) (d:=d) (x:=x) (nm:=nm) (n:=x.ino);obtain⟨s1,s2,s3⟩:=sx h hf hx;have s3:=s3 he;have hxd:d.ino≠x.ino:=fun e=>by rw[←e,hf.hd] at hx;cases hx
 have hfx:=h.fc0 hx;have hdk:=h.iy hf.hd;generalize hL:bH x (bH (d.b_ nm x.ino) f.aa)=L at hfind s1 s2 s3;have hs:cA L:=by rw[←hL];exact cg (cg h.sort)
 have cs:∀k y,au k L=some y→(k=x.ino∧y=x)∨(k=d.ino∧y=d.b_ nm x.ino)∨(k≠x.ino∧k≠d.ino∧au k f.aa=some y):=fun k y hy=>by
  rw[hfind] at hy;by_cases e1:x.ino=k
  ·rw[if_pos e1] at hy;cases hy;exact Or.inl ⟨e1.symm,rfl⟩
  ·rw[if_neg e1] at hy
   by_cases e2:d.ino=k
   ·rw[if_pos e2] at hy;cases hy;exact Or.inr (Or.inl ⟨e2.symm,rfl⟩)
   ·rw[if_neg e2] at hy;exact Or.inr (Or.inr ⟨fun e=>e1 e.symm,fun e=>e2 e.symm,hy⟩)
 have on:∀k,(∃y,au k f.aa=some y)→∃y,au k L=some y:=fun k ⟨y,hy⟩=>by
  rw[hfind];by_cases e1:x.ino=k
  ·rw[if_pos e1];exact⟨_,rfl⟩
  ·rw[if_neg e1]
   by_cases e2:d.ino=k
   ·rw[if_pos e2];exact⟨_,rfl⟩
   ·rw[if_neg e2];exact⟨y,hy⟩
 have hreach:∀k,Reach f.aa k→Reach L k:=fun k hr=>by
  refine Reach.mono (fun k z hz=> ?_) hr;rw[hfind];by_cases e1:x.ino=k
  ·rw[←e1,hx] at hz;cases hz
  ·rw[if_neg e1]
   by_cases e2:d.ino=k
   ·rw[if_pos e2]
    rw[←e2,hf.hd] at hz;cases hz;exact⟨_,rfl,fun e he=>⟨e,hf.de.2 (Or.inr he),rfl⟩⟩
   ·rw[if_neg e2];exact⟨z,hz,fun e he=>⟨e,he,rfl⟩⟩
 obtain⟨r,hr,hrk,hrp⟩:=h.root;have hx1:x.ino≠1:=fun e=>by rw[e,hr] at hx;cases hx
 refine yP h.vr h.uj h4 hs (fun k y hy=> ?_) ?_ (fun k y hy=> ?_) (fun k y hy e he'=> ?_) (fun k y hy=> ?_) ?_ (fun k y hy hd=> ?_) (fun k y hy hd j z hz e he' hn=> ?_) (fun k y hy=> ?_) ?_
 ·rcases cs k y hy with⟨rfl,rfl⟩ |⟨rfl,rfl⟩ |⟨_,_,hy⟩
  ·exact⟨h1,h2⟩
  ·exact⟨hdk.2.2.1,by have:=hdk.2.2.2.1;show d.ino<nx;omega⟩
  ·have:=h.iy hy
   exact⟨this.2.2.1,by have:=this.2.2.2.1;show k<nx;omega⟩
 ·show∃r,au 1 L=some r∧_
  rw[hfind,if_neg hx1];by_cases e2:d.ino=1
  ·rw[if_pos e2]
   have hd1:=hf.hd;rw[e2,hr] at hd1;cases hd1;exact⟨_,rfl,hrk,hrp⟩
  ·rw[if_neg e2];exact⟨r,hr,hrk,hrp⟩
 ·rcases cs k y hy with⟨_,rfl⟩ |⟨_,rfl⟩ |⟨_,_,hy⟩
  ·exact hk
  ·exact uU hdk.1 hf.hk (wN hdk.2.2.2.2.2 hf.hm h1)
  ·exact(h.iy hy).1
 ·refine(?_ :∃y,au e.ino L=some y)
  rcases cs k y hy with⟨_,rfl⟩ |⟨_,rfl⟩ |⟨_,_,hy⟩
  ·rw[he] at he';cases he'
  ·rcases hf.de.1 he' with rfl|he'
   ·show∃y,au x.ino L=some y
    rw[hfind,if_pos rfl];exact⟨_,rfl⟩
   ·exact on _ (h.to hf.hd he')
  ·exact on _ (h.to hy he')
 ·show y.aq=fc k L
  rw[s3];rcases cs k y hy with⟨rfl,rfl⟩ |⟨rfl,rfl⟩ |⟨e1,_,hy⟩
  ·rw[if_pos rfl,hfx,hl];rfl
  ·rw[if_neg (fun e=>hxd e.symm)]
   have:=hdk.2.1;show d.aq=_;omega
  ·rw[if_neg (fun e=>e1 e.symm)]
   have:=(h.iy hy).2.1;omega
 ·show fc 1 L=0
  rw[s3,if_neg hx1,h.sk];rfl
 ·show fc k L≤1
  rw[s3];rcases cs k y hy with⟨rfl,rfl⟩ |⟨rfl,rfl⟩ |⟨e1,_,hy⟩
  ·rw[if_pos rfl,hfx];decide
  ·rw[if_neg (fun e=>hxd e.symm)]
   have:=h.sE hf.hd hf.hk;omega
  ·rw[if_neg (fun e=>e1 e.symm)]
   have:=h.sE hy hd;omega
 ·have hz':au j L=some z:=hz
  have hz0:(∃d0,au j f.aa=some d0∧e∈d0.entries)∨(j=d.ino∧e=⟨nm,x.ino⟩):=by
   rcases cs j z hz' with⟨_,rfl⟩ |⟨rfl,rfl⟩ |⟨_,_,hz⟩
   ·rw[he] at he';cases he'
   ·rcases hf.de.1 he' with rfl|he'
    ·exact Or.inr ⟨rfl,rfl⟩
    ·exact Or.inl ⟨d,hf.hd,he'⟩
   ·exact Or.inl ⟨z,hz,he'⟩
  rcases cs k y hy with⟨rfl,rfl⟩ |⟨rfl,rfl⟩ |⟨e1,_,hy⟩
  ·rcases hz0 with⟨d0,q1,q2⟩ |⟨rfl,rfl⟩
   ·obtain⟨y',hy'⟩:=h.to q1 q2
    rw[hn,hx] at hy';cases hy'
   ·exact hp hd
  ·rcases hz0 with⟨d0,q1,q2⟩ |⟨rfl,rfl⟩
   ·show d.parent=j
    exact h.parent hf.hd hf.hk q1 q2 hn
   ·exact absurd hn.symm hxd
  ·rcases hz0 with⟨d0,q1,q2⟩ |⟨rfl,rfl⟩
   ·exact h.parent hy hd q1 q2 hn
   ·exact absurd hn.symm e1
 ·show Reach L k
  rcases cs k y hy with⟨rfl,_⟩ |⟨rfl,_⟩ |⟨_,_,hy⟩
  ·have hd':au d.ino L=some (d.b_ nm x.ino):=by rw[hfind,if_neg (fun e=>hxd e.symm),if_pos rfl]
   exact Reach.step (e:=⟨nm,x.ino⟩) (hreach _ (h.wq hf.hd)) hd' (hf.de.2 (Or.inl rfl))
  ·exact hreach _ (h.wq hf.hd)
  ·exact hreach _ (h.wq hy)
 ·have hff:=h.fits
  unfold dv at hfit hff⊢;simp only[Bool.and_eq_true,decide_eq_true_eq] at hfit hff⊢;show(L.length:Int)+0≤f.ar∧bytesOf L+0≤f.aw;omega
end
end Go.Eng
set_option linter.unusedSimpArgs false
set_option linter.unusedVariables false
set_option linter.unusedSectionVars false
namespace Go.Eng
open Go
section
variable {f:Fs} {d x:ae} {nm:Str} {e:Entry}
def ko (f:Fs) (d:ae) (nm:Str) (x:ae):Fs:=(f.set (d.b_ nm x.ino)).set (x.dQ (x.aq+1))
theorem r5 (hxd:x.ino≠d.ino) (k:Int):au k (ko f d nm x).aa=if x.ino=k then some (x.dQ (x.aq+1)) else if d.ino=k then some (d.b_ nm x.ino) else au k f.aa:=by
 show au k (bH _ (bH _ f.aa))=_;rw[bR,bR];rfl
theorem wZ {n:Int}:byt (x.dQ n)=byt x:=rfl
theorem Gj (h:Tree f) (hf:jc f d nm) (hx:au x.ino f.aa=some x) (hxd:x.ino≠d.ino):
 (ko f d nm x).aa.length=f.aa.length∧bytesOf (ko f d nm x).aa=bytesOf f.aa∧∀n,fc n (ko f d nm x).aa=fc n f.aa+if x.ino=n then 1 else 0:=by
 have hs:=h.sort;have hs1:=cg (x:=d.b_ nm x.ino) hs;have h1:au (x.dQ (x.aq+1)).ino (bH (d.b_ nm x.ino) f.aa)=some x:=by rw[bR,if_neg (show¬(d.b_ nm x.ino).ino=(x.dQ (x.aq+1)).ino from fun e=>hxd e.symm)];exact hx
 have h2:au (d.b_ nm x.ino).ino f.aa=some d:=hf.hd;refine⟨?_, ?_,fun n=> ?_⟩
 ·show(bH _ (bH _ f.aa)).length=_
  rw[gC hs1,h1,gC hs,h2];rfl
 ·show bytesOf (bH _ (bH _ f.aa))=_
  have a:=fi (x:=x.dQ (x.aq+1)) hs1;have b:=fi (x:=d.b_ nm x.ino) hs;rw[h1] at a;rw[h2] at b;simp only[h_] at a b;rw[oP hf.hk,oP (show(d.b_ nm x.ino).kind=2 from hf.hk)] at b;rw[wZ] at a;omega
 ·show fc n (bH _ (bH _ f.aa))=_
  have a:=jS (x:=x.dQ (x.aq+1)) hs1 n;have b:=jS (x:=d.b_ nm x.ino) hs n;rw[h1] at a;rw[h2] at b;simp only[h_] at a b;have c:=hf.ec h x.ino n;have c0:(x.dQ (x.aq+1)).entries=x.entries:=rfl;rw[c0] at a;omega
theorem Jq (h:Tree f) (hf:jc f d nm) (hx:au x.ino f.aa=some x) (hk:x.kind≠2):Tree (ko f d nm x):=by
 have hxd:x.ino≠d.ino:=fun e=>by rw[e,hf.hd] at hx;cases hx;exact hk hf.hk
 have hfind:=r5 (f:=f) (d:=d) (x:=x) (nm:=nm) hxd;obtain⟨s1,s2,s3⟩:=Gj h hf hx hxd;have hdk:=h.iy hf.hd;have hxk:=h.iy hx;have hs:cA (ko f d nm x).aa:=cg (cg h.sort);have hmx:(ko f d nm x).ar=f.ar∧(ko f d nm x).aw=f.aw∧(ko f d nm x).next=f.next:=⟨rfl,rfl,rfl⟩;generalize ko f d nm x=g at hfind s1 s2 s3 hs hmx;obtain⟨m1,m2,m3⟩:=hmx;have cs:∀k y,au k g.aa=some y→(k=x.ino∧y=x.dQ (x.aq+1))∨(k=d.ino∧y=d.b_ nm x.ino)∨(k≠x.ino∧k≠d.ino∧au k f.aa=some y):=fun k y hy=>by
  rw[hfind] at hy;by_cases e1:x.ino=k
  ·rw[if_pos e1] at hy;cases hy;exact Or.inl ⟨e1.symm,rfl⟩
  ·rw[if_neg e1] at hy
   by_cases e2:d.ino=k
   ·rw[if_pos e2] at hy;cases hy;exact Or.inr (Or.inl ⟨e2.symm,rfl⟩)
   ·rw[if_neg e2] at hy;exact Or.inr (Or.inr ⟨fun e=>e1 e.symm,fun e=>e2 e.symm,hy⟩)
 have on:∀k z,au k f.aa=some z→∃y,au k g.aa=some y∧y.kind=z.kind∧y.parent=z.parent∧∀e∈z.entries,e∈y.entries:=fun k z hz=>by
  rw[hfind];by_cases e1:x.ino=k
  ·rw[if_pos e1]
   rw[←e1,hx] at hz;cases hz;exact⟨_,rfl,rfl,rfl,fun e he=>he⟩
  ·rw[if_neg e1]
   by_cases e2:d.ino=k
   ·rw[if_pos e2]
    rw[←e2,hf.hd] at hz;cases hz;exact⟨_,rfl,rfl,rfl,fun e he=>hf.de.2 (Or.inr he)⟩
   ·rw[if_neg e2];exact⟨z,hz,rfl,rfl,fun e he=>he⟩
 have hreach:∀k,Reach f.aa k→Reach g.aa k:=fun k hr=>by
  refine Reach.mono (fun k z hz=> ?_) hr;obtain⟨y,hy,_,_,h4⟩:=on k z hz;exact⟨y,hy,fun e he=>⟨e,h4 e he,rfl⟩⟩
 have ed:∀j z e,au j g.aa=some z→e∈z.entries→(∃d0,au j f.aa=some d0∧e∈d0.entries)∨(j=d.ino∧e=⟨nm,x.ino⟩):=fun j z e hz he=>by
  rcases cs j z hz with⟨rfl,rfl⟩ |⟨rfl,rfl⟩ |⟨_,_,hz⟩
  ·exact Or.inl ⟨x,hx,he⟩
  ·rcases hf.de.1 he with rfl|he
   ·exact Or.inr ⟨rfl,rfl⟩
   ·exact Or.inl ⟨d,hf.hd,he⟩
  ·exact Or.inl ⟨z,hz,he⟩
 obtain⟨r,hr,hrk,hrp⟩:=h.root;have hx1:x.ino≠1:=fun e=>by rw[e,hr] at hx;cases hx;exact hk hrk
 refine yP (by rw[m1];exact h.vr) (by rw[m2];exact h.uj) (by rw[m3];exact h.next) hs (fun k y hy=> ?_) ?_ (fun k y hy=> ?_) (fun k y hy e he'=> ?_) (fun k y hy=> ?_) ?_ (fun k y hy hd=> ?_) (fun k y hy hd j z hz e he' hn=> ?_) (fun k y hy=> ?_) ?_
 ·rw[m3]
  rcases cs k y hy with⟨rfl,_⟩ |⟨rfl,_⟩ |⟨_,_,hy⟩
  ·exact⟨hxk.2.2.1,hxk.2.2.2.1⟩
  ·exact⟨hdk.2.2.1,hdk.2.2.2.1⟩
  ·have:=h.iy hy
   exact⟨this.2.2.1,this.2.2.2.1⟩
 ·obtain⟨y,hy,h2,h3,_⟩:=on 1 r hr
  exact⟨y,hy,by rw[h2];exact hrk,by rw[h3];exact hrp⟩
 ·rcases cs k y hy with⟨_,rfl⟩ |⟨_,rfl⟩ |⟨_,_,hy⟩
  ·exact uV hxk.1
  ·exact uU hdk.1 hf.hk (wN hdk.2.2.2.2.2 hf.hm hxk.2.2.1)
  ·exact(h.iy hy).1
 ·rcases ed k y e hy he' with⟨d0,q1,q2⟩ |⟨_,rfl⟩
  ·obtain⟨z,hz⟩:=h.to q1 q2
   obtain⟨y',hy',_⟩:=on _ z hz;exact⟨y',hy'⟩
  ·obtain⟨y',hy',_⟩:=on _ x hx
   exact⟨y',hy'⟩
 ·rw[s3]
  rcases cs k y hy with⟨rfl,rfl⟩ |⟨rfl,rfl⟩ |⟨e1,_,hy⟩
  ·rw[if_pos rfl]
   have:=hxk.2.1;show x.aq+1=_;omega
  ·rw[if_neg hxd]
   have:=hdk.2.1;show d.aq=_;omega
  ·rw[if_neg (fun e=>e1 e.symm)]
   have:=(h.iy hy).2.1;omega
 ·rw[s3,if_neg hx1,h.sk];rfl
 ·rw[s3]
  rcases cs k y hy with⟨rfl,rfl⟩ |⟨rfl,rfl⟩ |⟨e1,_,hy⟩
  ·exact absurd hd hk
  ·rw[if_neg hxd]
   have:=h.sE hf.hd hf.hk;omega
  ·rw[if_neg (fun e=>e1 e.symm)]
   have:=h.sE hy hd;omega
 ·rcases ed j z e hz he' with⟨d0,q1,q2⟩ |⟨rfl,rfl⟩
  ·rcases cs k y hy with⟨rfl,rfl⟩ |⟨rfl,rfl⟩ |⟨e1,_,hy⟩
   ·exact absurd hd hk
   ·show d.parent=j
    exact h.parent hf.hd hf.hk q1 q2 hn
   ·exact h.parent hy hd q1 q2 hn
  ·rcases cs k y hy with⟨rfl,rfl⟩ |⟨rfl,rfl⟩ |⟨e1,_,hy⟩
   ·exact absurd hd hk
   ·exact absurd hn hxd
   ·exact absurd hn.symm e1
 ·rcases cs k y hy with⟨rfl,_⟩ |⟨rfl,_⟩ |⟨_,_,hy⟩
  ·exact hreach _ (h.wq hx)
  ·exact hreach _ (h.wq hf.hd)
  ·exact hreach _ (h.wq hy)
 ·have hff:=h.fits
  unfold dv at hff⊢;simp only[Bool.and_eq_true,decide_eq_true_eq] at hff⊢;rw[s1,s2,m1,m2];exact hff
structure Ent (f:Fs) (d:ae) (nm:Str) (x:ae) (e:Entry):Prop where
 hd:au d.ino f.aa=some d
 he:dS nm d.entries=some e
 hn:e.ino=x.ino
 hx:au x.ino f.aa=some x
def dT (f:Fs) (d:ae) (nm:Str) (x:ae):Fs:=if x.aq=1 then (f.set (d.cE nm)).drop x.ino else (f.set (d.cE nm)).set (x.dQ (x.aq - 1))
theorem Ent.mem (h:Ent f d nm x e):e∈d.entries∧e.name=nm:=iu h.he
theorem Ent.kind (h:Ent f d nm x e) (ht:Tree f):d.kind=2:=ht.de h.hd h.mem.1
theorem Ent.way (h:Ent f d nm x e):Way f.aa d.ino x.ino 1:=h.hn▸ .step .here h.hd h.mem.1
theorem Ent.ne (h:Ent f d nm x e) (ht:Tree f):x.ino≠d.ino:=fun e1=>by
 obtain⟨n,hw⟩:=(ht.wq h.hd).way;exact ht.Ic hw h.hd h.mem.1 (n:=0) (by rw[h.hn,e1];exact .here)
theorem Ent.de (h:Ent f d nm x e) (ht:Tree f) {e':Entry}:e'∈(d.cE nm).entries↔e'∈d.entries∧e'≠e:=by
 show e'∈dV nm d.entries↔_;rw[wW];refine⟨fun⟨a,b⟩=>⟨a,fun c=>b (by rw[c];exact h.mem.2)⟩,fun⟨a,b⟩=>⟨a,fun c=>b ?_⟩⟩;have h1:=En (ht.iy h.hd).2.2.2.2.1 a;rw[c,h.he] at h1;exact(Option.some.inj h1).symm
theorem fO (hxd:x.ino≠d.ino) (k:Int):au k (dT f d nm x).aa=if x.ino=k then (if x.aq=1 then none else some (x.dQ (x.aq - 1))) else if d.ino=k then some (d.cE nm) else au k f.aa:=by
 unfold dT;by_cases hl:x.aq=1
 ·rw[if_pos hl,if_pos hl]
  show au k (dn x.ino (bH _ f.aa))=_;rw[qj,bR];rfl
 ·rw[if_neg hl,if_neg hl]
  show au k (bH _ (bH _ f.aa))=_;rw[bR,bR];rfl
theorem uq (h:Tree f) (hf:Ent f d nm x e) (hx0:x.entries= []):
 ((dT f d nm x).aa.length:Int)=f.aa.length - (if x.aq=1 then 1 else 0)∧bytesOf (dT f d nm x).aa=bytesOf f.aa - (if x.aq=1 then byt x else 0)∧∀n,fc n (dT f d nm x).aa=fc n f.aa - if x.ino=n then 1 else 0:=by
 have hxd:=hf.ne h;have hs:=h.sort;have hs1:=cg (x:=d.cE nm) hs;have h1:au x.ino (bH (d.cE nm) f.aa)=some x:=by rw[bR,if_neg (show¬(d.cE nm).ino=x.ino from fun e=>hxd e.symm)];exact hf.hx
 have h2:au (d.cE nm).ino f.aa=some d:=hf.hd;have a1:(bH (d.cE nm) f.aa).length=f.aa.length:=by rw[gC hs,h2];rfl
 have b:=fi (x:=d.cE nm) hs;rw[h2] at b;simp only[h_] at b;rw[oP (hf.kind h),oP (show(d.cE nm).kind=2 from hf.kind h)] at b;have c:∀n,fc n (bH (d.cE nm) f.aa)=fc n f.aa - if x.ino=n then 1 else 0:=fun n=>by
  have c:=jS (x:=d.cE nm) hs n;rw[h2] at c;simp only[h_] at c;have:=Dy (m:=nm) (h.iy hf.hd).2.2.2.2.1 n;rw[hf.he] at this;simp only[h_,one,hf.hn] at this;have c1:(d.cE nm).entries=dV nm d.entries:=rfl;rw[c1] at c;omega
 unfold dT;by_cases hl:x.aq=1
 ·simp only[if_pos hl]
  refine⟨?_, ?_,fun n=> ?_⟩
  ·show((dn x.ino (bH _ f.aa)).length:Int)=_
   have:=Fg (k:=x.ino) hs1;rw[h1] at this;simp only[Option.isSome_some,if_true] at this;omega
  ·show bytesOf (dn x.ino (bH _ f.aa))=_
   have:=ze (k:=x.ino) hs1;rw[h1] at this;simp only[h_] at this;omega
  ·show fc n (dn x.ino (bH _ f.aa))=_
   have:=FE (k:=x.ino) hs1 n;rw[h1,←c n] at*;simp only[h_,hx0] at this;have c0:ec n ([] :List Entry)=0:=rfl;omega
 ·simp only[if_neg hl]
  have h1':au (x.dQ (x.aq - 1)).ino (bH (d.cE nm) f.aa)=some x:=h1;refine⟨?_, ?_,fun n=> ?_⟩
  ·show((bH _ (bH _ f.aa)).length:Int)=_
   rw[gC hs1,h1'];simp only[Option.isSome_some,if_true];omega
  ·show bytesOf (bH _ (bH _ f.aa))=_
   have:=fi (x:=x.dQ (x.aq - 1)) hs1;rw[h1'] at this;simp only[h_,wZ] at this;omega
  ·show fc n (bH _ (bH _ f.aa))=_
   have:=jS (x:=x.dQ (x.aq - 1)) hs1 n;rw[h1'] at this;have c0:(x.dQ (x.aq - 1)).entries=x.entries:=rfl;simp only[h_,c0] at this;rw[←c n];omega
theorem DV (h:Tree f) (hf:Ent f d nm x e) (hx0:x.entries= []):Tree (dT f d nm x):=by
 have hxd:=hf.ne h;have hfind:=fO (f:=f) (d:=d) (x:=x) (nm:=nm) hxd;obtain⟨s1,s2,s3⟩:=uq h hf hx0;have hdk:=h.iy hf.hd;have hxk:=h.iy hf.hx;have hk2:=hf.kind h;have hs:cA (dT f d nm x).aa:=by
  unfold dT;split
  ·exact fh (cg h.sort)
  ·exact cg (cg h.sort)
 have hmx:(dT f d nm x).ar=f.ar∧(dT f d nm x).aw=f.aw∧(dT f d nm x).next=f.next:=by unfold dT;split<;>exact⟨rfl,rfl,rfl⟩
 generalize dT f d nm x=g at hfind s1 s2 s3 hs hmx;obtain⟨m1,m2,m3⟩:=hmx;have cs:∀k y,au k g.aa=some y→(k=x.ino∧x.aq≠1∧y=x.dQ (x.aq - 1))∨(k=d.ino∧y=d.cE nm)∨(k≠x.ino∧k≠d.ino∧au k f.aa=some y):=fun k y hy=>by
  rw[hfind] at hy;by_cases e1:x.ino=k
  ·rw[if_pos e1] at hy
   by_cases hl:x.aq=1
   ·rw[if_pos hl] at hy;cases hy
   ·rw[if_neg hl] at hy;cases hy;exact Or.inl ⟨e1.symm,hl,rfl⟩
  ·rw[if_neg e1] at hy
   by_cases e2:d.ino=k
   ·rw[if_pos e2] at hy;cases hy;exact Or.inr (Or.inl ⟨e2.symm,rfl⟩)
   ·rw[if_neg e2] at hy;exact Or.inr (Or.inr ⟨fun e=>e1 e.symm,fun e=>e2 e.symm,hy⟩)
 have on:∀k z,au k f.aa=some z→(k=x.ino→x.aq≠1)→∃y,au k g.aa=some y∧y.kind=z.kind∧y.parent=z.parent∧∀e'∈z.entries,(k=d.ino→e'≠e)→e'∈y.entries:=fun k z hz hl=>by
  rw[hfind];by_cases e1:x.ino=k
  ·rw[if_pos e1,if_neg (hl e1.symm)]
   have hz':=hz;rw[←e1,hf.hx] at hz';cases hz';exact⟨_,rfl,rfl,rfl,fun e he _=>he⟩
  ·rw[if_neg e1]
   by_cases e2:d.ino=k
   ·rw[if_pos e2]
    have hz':=hz;rw[←e2,hf.hd] at hz';cases hz';exact⟨_,rfl,rfl,rfl,fun e' he hne=>(hf.de h).2 ⟨he,hne e2.symm⟩⟩
   ·rw[if_neg e2];exact⟨z,hz,rfl,rfl,fun e he _=>he⟩
 have ed:∀j z e',au j g.aa=some z→e'∈z.entries→∃d0,au j f.aa=some d0∧e'∈d0.entries∧(j=d.ino→e'≠e):=fun j z e' hz he=>by
  rcases cs j z hz with⟨rfl,_,rfl⟩ |⟨rfl,rfl⟩ |⟨_,h2,hz⟩
  ·exact⟨x,hf.hx,he,fun e=>absurd e hxd⟩
  ·exact⟨d,hf.hd,((hf.de h).1 he).1,fun _=>((hf.de h).1 he).2⟩
  ·exact⟨z,hz,he,fun e=>absurd e h2⟩
 have still:∀j z e',au j f.aa=some z→e'∈z.entries→(j=d.ino→e'≠e)→e'.ino=x.ino→x.aq≠1:=fun j z e' hz he hne hn hl=>by
  have hc:fc x.ino f.aa≤1:=by rw[←hxk.2.1];omega
  obtain⟨a,b⟩:=tM hc (aW hz).1 he hn (aW hf.hd).1 hf.mem.1 hf.hn;exact hne (by rw[←(aW hz).2,a]) b
 have hreach:∀k,Reach f.aa k→k≠x.ino→Reach g.aa k:=fun k hr=>by
  induction hr with
  |root=>exact fun _=> .root
  |step hr hz he ih=>
   rename_i k' z e';intro hne;have hk':k'≠x.ino:=fun e1=>by
    rw[e1,hf.hx] at hz;cases hz;rw[hx0] at he;cases he
   obtain⟨y,hy,_,_,h4⟩:=on k' z hz (fun e1=>absurd e1 hk');exact Reach.step (ih hk') hy (h4 e' he (fun _ e1=>hne (by rw[e1];exact hf.hn)))
 obtain⟨r,hr,hrk,hrp⟩:=h.root;have hx1:x.ino≠1:=fun e1=>h.xv hf.hd hf.mem.1 (by rw[hf.hn,e1])
 refine yP (by rw[m1];exact h.vr) (by rw[m2];exact h.uj) (by rw[m3];exact h.next) hs (fun k y hy=> ?_) ?_ (fun k y hy=> ?_) (fun k y hy e' he'=> ?_) (fun k y hy=> ?_) ?_ (fun k y hy hd=> ?_) (fun k y hy hd j z hz e' he' hn=> ?_) (fun k y hy=> ?_) ?_
 ·rw[m3]
  rcases cs k y hy with⟨rfl,_⟩ |⟨rfl,_⟩ |⟨_,_,hy⟩
  ·exact⟨hxk.2.2.1,hxk.2.2.2.1⟩
  ·exact⟨hdk.2.2.1,hdk.2.2.2.1⟩
  ·have:=h.iy hy
   exact⟨this.2.2.1,this.2.2.2.1⟩
 ·obtain⟨y,hy,h2,h3,_⟩:=on 1 r hr (fun e1=>absurd e1.symm hx1)
  exact⟨y,hy,by rw[h2];exact hrk,by rw[h3];exact hrp⟩
 ·rcases cs k y hy with⟨_,_,rfl⟩ |⟨_,rfl⟩ |⟨_,_,hy⟩
  ·exact uV hxk.1
  ·exact uU hdk.1 hk2 (u0 hdk.2.2.2.2.2)
  ·exact(h.iy hy).1
 ·obtain⟨d0,q1,q2,q3⟩:=ed k y e' hy he'
  obtain⟨z,hz⟩:=h.to q1 q2;obtain⟨y',hy',_⟩:=on _ z hz (fun e1=>still _ _ _ q1 q2 q3 e1);exact⟨y',hy'⟩
 ·rw[s3]
  rcases cs k y hy with⟨rfl,_,rfl⟩ |⟨rfl,rfl⟩ |⟨e1,_,hy⟩
  ·rw[if_pos rfl]
   have:=hxk.2.1;show x.aq - 1=_;omega
  ·rw[if_neg hxd]
   have:=hdk.2.1;show d.aq=_;omega
  ·rw[if_neg (fun e=>e1 e.symm)]
   have:=(h.iy hy).2.1;omega
 ·rw[s3,if_neg hx1,h.sk];rfl
 ·rw[s3]
  rcases cs k y hy with⟨rfl,_,rfl⟩ |⟨rfl,rfl⟩ |⟨e1,_,hy⟩
  ·have:=h.sE hf.hx hd
   rw[if_pos rfl];omega
  ·rw[if_neg hxd]
   have:=h.sE hf.hd hk2;omega
  ·rw[if_neg (fun e=>e1 e.symm)]
   have:=h.sE hy hd;omega
 ·obtain⟨d0,q1,q2,q3⟩:=ed j z e' hz he'
  rcases cs k y hy with⟨rfl,_,rfl⟩ |⟨rfl,rfl⟩ |⟨e1,_,hy⟩
  ·show x.parent=j
   exact h.parent hf.hx hd q1 q2 hn
  ·show d.parent=j
   exact h.parent hf.hd hk2 q1 q2 hn
  ·exact h.parent hy hd q1 q2 hn
 ·by_cases e1:k=x.ino
  ·subst e1
   rcases cs _ y hy with⟨_,hl,_⟩ |⟨e2,_⟩ |⟨e2,_⟩
   ·have hp:0<fc x.ino g.aa:=by
     rw[s3,if_pos rfl];have h1:=uO (aW hf.hd).1 hf.mem.1 hf.hn;have h2:=hxk.2.1;omega
    obtain⟨z,hz,e',he',hn⟩:=FT hp;have hz:=ei hs hz;have hzx:z.ino≠x.ino:=fun e1=>by
     rw[e1] at hz;obtain⟨d0,q1,q2,_⟩:=ed _ z e' hz he';rw[hf.hx] at q1;cases q1;rw[hx0] at q2;cases q2
    obtain⟨d0,q1,_⟩:=ed _ z e' hz he';have:=Reach.step (hreach _ (h.wq q1) hzx) hz he';rw[hn] at this;exact this
   ·exact absurd e2 hxd
   ·exact absurd rfl e2
  ·have:∃z,au k f.aa=some z:=by
    rcases cs _ y hy with⟨e2,_⟩ |⟨rfl,_⟩ |⟨_,_,hy⟩
    ·exact absurd e2 e1
    ·exact⟨d,hf.hd⟩
    ·exact⟨y,hy⟩
   obtain⟨z,hz⟩:=this;exact hreach _ (h.wq hz) e1
 ·have hff:=h.fits
  have hbx:0≤byt x:=by unfold byt;split<;>omega
  unfold dv at hff⊢;simp only[Bool.and_eq_true,decide_eq_true_eq] at hff⊢;rw[m1,m2];split at s1<;>rename_i hl
  ·rw[if_pos hl] at s2;omega
  ·rw[if_neg hl] at s2;omega
end
end Go.Eng
set_option linter.unusedSimpArgs false
set_option linter.unusedVariables false
set_option linter.unusedSectionVars false
namespace Go.Eng
open Go
structure Bd (n:Nat) (f:Fs):Prop where
 len:f.aa.length≤n
 de:∀x∈f.aa,x.entries.length≤n
 data:∀x∈f.aa,x.data.length≤10000000
structure Ew (f:Fs):Prop where
 tr:Tree f
 sm:SmF f
 wf:WF f
 ws:WS f
 lil:Lil f
 tot:(du f.aa).length≤536870912
section
variable {f:Fs} {n m:Nat}
theorem Bd.mono (h:Bd n f) (hm:n≤m):Bd m f:=
 ⟨Nat.le_trans h.len hm,fun x hx=>Nat.le_trans (h.de x hx) hm,h.data⟩
theorem Bd.sm (h:Bd n f) (hn:n≤10000) (ht:Tree f):SmF f:=by
 refine⟨by have:=h.len;omega,fun x hx=>by have:=h.data x hx;omega,fun x hx=>by have:=h.de x hx;omega,fun x hx e he=> ?_⟩;have h1:=(gB x.entries).1 (p6 (ht.kind x hx));have:=mR (h1.2 e he).1;omega
theorem sV (ht:Tree f) (h:Bd n f) (hn:n≤10000):Ew f:=by
 have hm:=h.sm hn ht;have hw:=ht.wf hm;have hl:=h.len;refine⟨ht,hm,hw,ht.ws hw,⟨by omega,fun x hx=>by have:=h.de x hx;omega⟩, ?_⟩;have h1:=um (N:=10000) (l:=f.aa) (fun x hx=>by have:=h.de x hx;omega);have:f.aa.length*10000≤10000*10000:=Nat.mul_le_mul_right _ (by omega);omega
theorem Ev.bd (e:Ev f):Bd 40 f:=⟨e.len,fun x hx=>(e.few x hx).2.1,fun x hx=>by have:=(e.few x hx).1;omega⟩
theorem Ev.ew (e:Ev f):Ew f:=sV e.tr e.bd (by omega)
theorem Ew.check (e:Ew f):e_ f=some 0:=by rw[nU e.sm e.tot,e.tr.check]
theorem Ew.same (e:Ew f) (g:Fs):jv f g=some (decide (f=g)):=mf e.sm.len e.sm.de
theorem Bd.set (h:Bd n f) {y:ae} (hm:n+1≤m) (he:y.entries.length≤m) (hd:y.data.length≤10000000):Bd m (f.set y):=by
 refine⟨by have:= @l_ f y;have:=h.len;omega,fun x hx=> ?_,fun x hx=> ?_⟩
 ·rcases eK.1 hx with rfl|⟨hx,_⟩
  ·exact he
  ·have:=h.de x hx;omega
 ·rcases eK.1 hx with rfl|⟨hx,_⟩
  ·exact hd
  ·exact h.data x hx
theorem Bd.put (h:Bd n f) (hs:cA f.aa) {y z:ae} (hz:au y.ino f.aa=some z) (hm:n≤m) (he:y.entries.length≤m) (hd:y.data.length≤10000000):Bd m (f.set y):=by
 refine⟨?_,fun x hx=> ?_,fun x hx=> ?_⟩
 ·have:=gC (x:=y) hs
  rw[hz] at this;have h1:(bH y f.aa).length=f.aa.length:=this;have:=h.len;show(bH y f.aa).length≤m;omega
 ·rcases eK.1 hx with rfl|⟨hx,_⟩
  ·exact he
  ·have:=h.de x hx;omega
 ·rcases eK.1 hx with rfl|⟨hx,_⟩
  ·exact hd
  ·exact h.data x hx
theorem Bd.drop (h:Bd n f) {k:Int}:Bd n (f.drop k):=by
 refine⟨by have h1:(dn k f.aa).length≤f.aa.length:=dt;have:=h.len;show(dn k f.aa).length≤n;omega,fun x hx=> ?_,fun x hx=> ?_⟩
 ·exact h.de x (fo.1 hx).1
 ·exact h.data x (fo.1 hx).1
theorem Bd.find (h:Bd n f) {k:Int} {x:ae} (hx:au k f.aa=some x):x.entries.length≤n∧x.data.length≤10000000:=⟨h.de x (aW hx).1,h.data x (aW hx).1⟩
theorem Bd.get (h:Bd n f) (k:Int):(aK k f.aa).entries.length≤n∧(aK k f.aa).data.length≤10000000:=by
 cases hf:au k f.aa with
 |none=>rw[dO hf];simp [kj]
 |some x=>rw[bx hf];exact h.find hf
theorem qU (e:Entry) (l:List Entry):(hY e l).length≤l.length+1:=kP
theorem rQ (n:Str) (l:List Entry):(dV n l).length≤l.length:=dt
theorem eS (h:cA f.aa) (x:ae):cA (f.set x).aa:=cg h
theorem qa (h:WF f) (k:Int):hC (aK k f.aa).entries:=by
 cases hf:au k f.aa with
 |none=>rw[dO hf];exact List.Pairwise.nil
 |some x=>rw[bx hf];exact h.T9 (aW hf).1
end
end Go.Eng
