/- A part of the proofs of the laws of this seat: the engine that reads the program's code, plain functions, or facts of the program's functions. Conditions: none. -/
import Derived.Test.YtcilfbaaaipbcaaGreatP2
import Derived.Test.YtcilfbaaaipbcaaGreatP1
import Derived.Test.YtcilfbaaaipbcaaGreatE2
import Derived.Test.YtcilfbaaaipbcaaGreatE4
set_option linter.unusedSectionVars false
set_option linter.unusedVariables false
set_option linter.unusedSimpArgs false
set_option linter.unnecessarySimpa false
set_option linter.unusedSimpArgs false
set_option linter.unusedVariables false
namespace Go.Eng
open Go
instance afJ:DecidableEq Entry:=fun a b=>
 if h:a.name=b.name∧a.ino=b.ino then isTrue (by cases a;cases b;simp at h;simp [h.1,h.2]) else isFalse (by intro e;subst e;exact h ⟨rfl,rfl⟩)
theorem DD {b:Bool} {h:Decidable (b=true)}:(@ite _ (b=true) h (some true) (some false))=some b:=by
 split
 ·rename_i e;rw[e]
 ·rename_i e;have:b=false:=by simpa using e
  rw[this]
theorem loS:LO ltS:=⟨k7,fun h1 h2=>oQ h1 h2,xR⟩
abbrev hC (l:List Entry):Prop:=cU ltS Entry.name l
abbrev dR (n:Str) (l:List Entry):Option Entry:=b5 Entry.name n l
abbrev dU (n:Str) (l:List Entry):List Entry:=dZ Entry.name n l
abbrev hY (x:Entry) (l:List Entry):List Entry:=nt ltS Entry.name x l
abbrev nQ (n:Str) (l:List Entry):Nat:=dy ltS Entry.name n l
def Sm (l:List Entry):Prop:=l.length≤1073741824∧∀e∈l,e.name.length≤1099511627775
theorem s_ (a b:Str):(a==b)=decide (a=b):=by
 rw[Bool.eq_iff_iff,beq_iff_eq,decide_eq_true_eq]
theorem wq {l:List Entry} {n:Str} (hl:l.length≤1073741824):ji l n=some (match dR n l with|some e=>(e.ino,true) |none=>(0,false)):=by
 unfold ji;refine(bZ (l:=l) (fun m i (_:Unit)=>fQ l n (fun z8=>some (z8,true)) (some ((0:Int),false)) m i) (fun k x s K=>if decide (x.name=n) then some (x.ino,true) else K s) (fun _=>some ((0:Int),false)) (by omega) (fun m k x u hk hx=> ?_) (fun m u=> ?_) ()).trans ?_
 ·simp only[fQ]
  rw[dec_lt hk,bS,toNat_cast,hx,bc (by omega)];simp only[aE,ai,aV,if_true,s_]
 ·simp only[fQ]
  rw[b6 (Nat.le_refl _)];rfl
 ·unfold dR b5
  generalize 0=q;clear hl;revert q;induction l with
  |nil=>intro q;rfl
  |cons y l ih=>
   intro q;simp only[dV,List.find?_cons];by_cases h:y.name=n
   ·simp [h]
   ·simp [h];simpa using ih (q+1)
theorem mP {α R:Type} (p:α→Bool) (kk:List α→Option R):∀(l:List α) (k:Nat) (s:List α),s.length+l.length≤LIM→
 dV (fun _ x s K=>if p x then aR (s.length+[x].length) (K (s++[x])) else K s) kk k l s=kk (s++l.filter p)
 | [],_,s,_=>by simp [dV]
 |x::l,k,s,h=>by
  simp only[dV,List.filter_cons];simp only[List.length_cons] at h;split
  ·rw[bY (by simp;omega),mP p kk l _ _ (by simp;omega)];simp
  ·rw[mP p kk l _ _ (by omega)]
theorem mM {l:List Entry} {n:Str} (hl:l.length≤1073741824):ij l n=some (dU n l):=by
 unfold ij;refine(bZ (l:=l) (fun m i s=>dA l n (fun z8=>some z8) m i s) (fun _ x s K=>if !decide (x.name=n) then aR (s.length+[x].length) (K (s++[x])) else K s) (fun z=>some z) (by omega) (fun m k x s hk hx=> ?_) (fun m s=> ?_) []).trans ?_
 ·simp only[dA]
  rw[dec_lt hk,bS,toNat_cast,hx,bc (by omega)];simp only[aE,ai,aV,if_true,s_]
 ·simp only[dA]
  rw[b6 (Nat.le_refl _)];rfl
 ·rw[mP _ _ _ _ _ (by unfold LIM;simp;omega)];rfl
theorem kM {α κ R:Type} {lt:κ→κ→Bool} {key:α→κ} (x:α) (kk:List α→Option R):∀(l:List α) (k:Nat) (s:Bool×List α),s.2.length+l.length+(if s.1 then 0 else 1)≤LIM→
 dV (fun _ y (s:Bool×List α) K=>if !s.1 then (if lt (key x) (key y) then aR (s.2.length+[x].length) (aR ((s.2++[x]).length+[y].length) (K (true,(s.2++[x])++[y]))) else aR (s.2.length+[y].length) (K (s.1,s.2++[y]))) else aR (s.2.length+[y].length) (K (s.1,s.2++[y])))
  (fun s=>if !s.1 then aR (s.2.length+[x].length) (kk (s.2++[x])) else kk s.2) k l s=kk (s.2++if s.1 then l else iF lt key x l)
 | [],_,(b,s),h=>by
  simp only[dV];cases b
  ·simp only[Bool.not_false,if_true]
   rw[bY (by simp at h⊢;omega)];simp [iF]
  ·simp
 |y::l,k,(b,s),h=>by
  simp only[dV];simp only[List.length_cons] at h;cases b
  ·simp only[Bool.not_false,if_true]
   simp at h;by_cases hy:lt (key x) (key y)=true
   ·rw[if_pos hy,bY (by simp;omega),bY (by simp;omega),kM x kk l _ _ (by simp;omega)]
    simp [iF,hy]
   ·rw[if_neg hy,bY (by simp;omega),kM x kk l _ _ (by simp;omega)]
    simp [iF,hy]
  ·simp only[Bool.not_true]
   simp at h;rw[if_neg (by simp),bY (by simp;omega),kM x kk l _ _ (by simp;omega)];simp
theorem Sn (a b:Str):(!(Op.bytesLess a b||a==b))=ltS b a:=by
 rw[s_];rcases xR a b with h|h|h
 ·have:=xB h
  have h:Op.bytesLess a b=true:=h;rw[h,this];rfl
 ·subst h
  have:=k7 a;rw[this];simp
 ·have h1:=xB h
  have h2:=Nk h;have h1:Op.bytesLess a b=false:=h1;rw[h,h1];simp;exact fun e=>h2 e.symm
theorem pc {l:List Entry} {n:Str} {i:Int} (hl:l.length≤1073741824):iq l n i=some (hY ⟨n,i⟩ l):=by
 unfold iq;rw[mM hl];simp only[ai];have hfl:(dU n l).length≤l.length:=dp;unfold hY nt;show _=some (iF ltS Entry.name ⟨n,i⟩ (dU n l));generalize dU n l=rest at hfl⊢;refine(bZ (l:=rest) (fun m i' s=>ef n i rest (fun z16 z17=>ah (!z16) (aR (z17.length+[(⟨n,i⟩:Entry)].length) (some (z17++[(⟨n,i⟩:Entry)]))) (some z17)) m s.1 i' s.2)
  (fun _ y (s:Bool×List Entry) K=>if !s.1 then (if ltS n y.name then aR (s.2.length+[(⟨n,i⟩:Entry)].length) (aR ((s.2++[(⟨n,i⟩:Entry)]).length+[y].length) (K (true,(s.2++[(⟨n,i⟩:Entry)])++[y]))) else aR (s.2.length+[y].length) (K (s.1,s.2++[y]))) else aR (s.2.length+[y].length) (K (s.1,s.2++[y])))
  (fun s=>if !s.1 then aR (s.2.length+[(⟨n,i⟩:Entry)].length) (some (s.2++[(⟨n,i⟩:Entry)])) else some s.2) (by omega) (fun m k y s hk hx=> ?_) (fun m s=> ?_) (false, [])).trans ?_
 ·simp only[ef]
  rw[dec_lt hk,bS,toNat_cast,hx,bc (by omega)];simp only[aE,ai,aV,if_true,Sn]
 ·simp only[ef]
  rw[b6 (Nat.le_refl _),az];simp only[aV]
 ·rw[kM (lt:=ltS) (key:=Entry.name) (⟨n,i⟩:Entry) (fun z=>some z) _ _ _ (by unfold LIM;simp;omega)]
  rfl
theorem eqE (a b:Entry):((a.name==b.name)&&(a.ino==b.ino))=decide (a=b):=by
 rw[Bool.eq_iff_iff];cases a;cases b;simp
theorem jz {α R:Type} [DecidableEq α] (kr k0:Option R):∀(l m:List α) (k:Nat) (m0:List α),l.length=m.length→m0.length=k→dV (fun k x (_:Unit) K=>aj (m0++m)[k]? fun y=>if decide (x=y) then K () else kr) (fun _=>k0) k l ()=if l=m then k0 else kr
 | [], [],_,_,_,_=>rfl
 | [],_::_,_,_,h,_=>by simp at h
 |_::_, [],_,_,h,_=>by simp at h
 |x::l,y::m,k,m0,h,hk=>by
  simp only[dV];have e:(m0++y::m)[k]? =some y:=by subst hk;simp
  rw[e,ai];have ih:=jz kr k0 l m (k+1) (m0++[y]) (by simpa using h) (by simp [hk]);have e2:m0++[y]++m=m0++y::m:=by simp
  rw[e2] at ih;by_cases hxy:x=y
  ·subst hxy
   simp only[decide_true,if_true,List.cons.injEq,true_and];exact ih
  ·simp [hxy]
theorem v_ {a b:List Entry} (hl:a.length≤1073741824):nq a b=some (decide (a=b)):=by
 unfold nq;rw[aV];by_cases h:a.length=b.length
 ·have e:((List.length a:Int) !=(List.length b:Int))=false:=by rw[h];simp
  rw[e,if_neg (by simp)];refine(bZ (l:=a) (fun m i (_:Unit)=>fV a b (some false) (some true) m i) (fun k x (_:Unit) K=>aj ([] ++b)[k]? fun y=>if decide (x=y) then K () else some false) (fun _=>some true) (by omega) (fun m k x u hk hx=> ?_) (fun m u=> ?_) ()).trans ?_
  ·simp only[fV]
   rw[dec_lt hk,bS,toNat_cast,hx,bc (by omega)];simp only[aE,ai,aV,if_true,List.nil_append];have hk':k<b.length:=by omega
   rw[List.getElem?_eq_getElem hk'];simp only[ai,eqE];by_cases hxy:x=b[k]<;>simp [hxy]
  ·simp only[fV]
   rw[b6 (Nat.le_refl _)];rfl
  ·rw[jz _ _ a b 0 [] h rfl]
   by_cases hab:a=b<;>simp [hab]
 ·have e:((List.length a:Int) !=(List.length b:Int))=true:=by rw[bne_iff_ne];omega
  rw[e,if_pos rfl];have:¬a=b:=fun e=>h (by rw[e])
  simp [this]
def j_:Option Str→List Entry→Bool
 |_, [] =>true
 |none,x::l=>j_ (some x.name) l
 |some n,x::l=>ltS n x.name&&j_ (some x.name) l
def gd (l:List Entry):Bool:=l.all (fun e=>fD e.name&&decide (1≤e.ino))&&j_ none l
theorem ss:∀(l:List Entry) (p:Option Str),j_ p l=true↔(hC l∧∀n,p=some n→∀x∈l,ltS n x.name=true)
 | [],p=>by simp [j_,hC,cU]
 |x::l,p=>by
  have ih:=ss l (some x.name);have key:(hC l∧∀n,some x.name=some n→∀x∈l,ltS n x.name=true)↔hC (x::l):=by
   unfold hC cU;rw[List.pairwise_cons];constructor
   ·rintro⟨h1,h2⟩;exact⟨h2 _ rfl,h1⟩
   ·rintro⟨h1,h2⟩;exact⟨h2,fun n e=>by cases e;exact h1⟩
  rw[key] at ih;cases p with
  |none=>simp only[j_,ih];simp
  |some n=>
   simp only[j_,Bool.and_eq_true,ih];constructor
   ·rintro⟨h1,h2⟩
    refine⟨h2,fun n' e=> ?_⟩;cases e;intro y hy;simp only[List.mem_cons] at hy;rcases hy with rfl|hy
    ·exact h1
    ·unfold hC cU at h2
     rw[List.pairwise_cons] at h2;exact oQ h1 (h2.1 y hy)
   ·rintro⟨h1,h2⟩
    exact⟨h2 n rfl x (by simp),h1⟩
theorem gB (l:List Entry):gd l=true↔(hC l∧∀e∈l,fD e.name=true∧1≤e.ino):=by
 unfold gd;simp only[Bool.and_eq_true,List.all_eq_true,decide_eq_true_eq,ss];constructor
 ·rintro⟨h1,h2,_⟩;exact⟨h2,h1⟩
 ·rintro⟨h1,h2⟩;exact⟨h2,h1,fun n e=>by cases e⟩
def sg (m:List Entry):Option Str:=m.getLast?.map Entry.name
theorem vH {R:Type} (kr k0:Option R) (hc:R→Prop):∀(l:List Entry) (k:Nat) (m:List Entry),m.length=k→
 dV (fun k (x:Entry) (_:Unit) K=>if fD x.name then (if decide (1≤x.ino) then (if 0<k then (aj (m++l)[k - 1]? fun y=>if ltS y.name x.name then K () else kr) else K ()) else kr) else kr) (fun _=>k0) k l ()=if l.all (fun e=>fD e.name&&decide (1≤e.ino))&&j_ (sg m) l then k0 else kr
 | [],k,m,_=>by cases h:sg m<;>simp [dV,j_]
 |x::l,k,m,hk=>by
  simp only[dV];have ih:=vH kr k0 hc l (k+1) (m++[x]) (by simp [hk]);have e2:m++[x]++l=m++x::l:=by simp
  have e3:sg (m++[x])=some x.name:=by simp [sg]
  rw[e2,e3] at ih;rw[ih];simp only[List.all_cons];by_cases h1:fD x.name=true
  case neg=>simp [h1]
  ·by_cases h2:decide (1≤x.ino)=true
   case neg=>simp [h1,h2]
   ·simp only[h1,h2,if_true,Bool.true_and]
    rcases List.eq_nil_or_concat m with rfl|⟨m',y,rfl⟩
    ·simp at hk;subst hk
     simp [sg,j_]
    ·have hk':0<k:=by simp at hk;omega
     rw[if_pos hk'];have e:(m'++[y]++x::l)[k - 1]? =some y:=by
      have:k - 1=m'.length:=by simp at hk;omega
      rw[this];simp
     have e4:sg (m'.concat y)=some y.name:=by simp [sg]
     simp only[List.concat_eq_append] at e4⊢;rw[e,e4,ai];simp only[j_];by_cases h3:Op.bytesLess y.name x.name=true<;>simp [ltS,h3]
theorem wJ {k:Nat} (h:0<k) (h2:k≤1099511627775):IntKind.i64.wrap ((k:Int) - 1)=((k - 1:Nat):Int):=by
 rw[b9 (by omega) (by omega)];omega
theorem ud {l:List Entry} (hs:Sm l):eZ l=some (gd l):=by
 have hl:=hs.1;unfold eZ;refine(bZ (l:=l) (fun m i (_:Unit)=>ep l (some false) (some true) m i) (fun k (x:Entry) (_:Unit) K=>if fD x.name then (if decide (1≤x.ino) then (if 0<k then (aj ([] ++l)[k - 1]? fun y=>if ltS y.name x.name then K () else some false) else K ()) else some false) else some false) (fun _=>some true) (by omega) (fun m k x u hk hx=> ?_) (fun m u=> ?_) ()).trans ?_
 ·simp only[ep]
  have hn:=hs.2 x (List.mem_of_getElem? hx);rw[dec_lt hk,bS,toNat_cast,hx,bc (by omega)];simp only[aE,ai,aV,if_true,List.nil_append,kx hn];cases h1:fD x.name
  ·simp
  ·have e1:decide (x.ino<(1:Int))= !decide (1≤x.ino):=by
    by_cases h:1≤x.ino
    ·have:¬x.ino<1:=by omega
     simp [h,this]
    ·have:x.ino<1:=by omega
     simp [h,this]
   rw[e1];cases h2:decide (1≤x.ino)
   ·simp
   ·simp only[Bool.not_true,Bool.false_eq_true,if_false,if_true]
    by_cases hk0:0<k
    ·have e2:decide ((k:Int)>(0:Int))=true:=by simp;omega
     rw[e2,if_pos rfl,if_pos hk0,wJ hk0 (by omega),bS,toNat_cast,if_pos rfl];have hk1:k - 1<l.length:=by omega
     rw[List.getElem?_eq_getElem hk1];simp only[ai];by_cases h3:Op.bytesLess l[k - 1].name x.name=true<;>simp [ltS,h3]
    ·have e2:decide ((k:Int)>(0:Int))=false:=by simp;omega
     rw[e2,if_neg (by simp),if_neg hk0]
 ·simp only[ep]
  rw[b6 (Nat.le_refl _)];rfl
 ·rw[vH (some false) (some true) (fun _=>True) l 0 [] rfl]
  unfold gd;simp only[sg,List.getLast?_nil,Option.map_none];exact DD
def AT (n:Str) (l:List Entry):Bool:=match l[nQ n l]? with|some x=>decide (x.name=n) |none=>false
theorem sZ {l:List Entry} {n:Str} (hs:hC l) (hl:l.length≤1073741824):og l n=some ((nQ n l:Int),AT n l):=by
 unfold og;have hc:nQ n l≤l.length:=lX l;have e0:∀(k0:Int→Option (Int×Bool)),eg l n k0 bg (0:Int) (List.length l:Int)=k0 (nQ n l:Int):=by
  intro k0;refine xW (fun m a b=>eg l n k0 m a b) (fun j=>match l[j]? with|some x=>ltS x.name n|none=>false) l.length (nQ n l) k0 (by omega) (fun m lo hi h1 h2=> ?_) (fun m lo h1=> ?_) (fun j hj=> ?_) (fun j hj hj2=> ?_) bg 0 l.length (gN (by omega)) (Nat.zero_le _) hc (Nat.le_refl _)
  ·simp only[eg]
   have hm:(lo+hi)/2<l.length:=by omega
   rw[dec_lt h1,yE (by omega) (by omega),bS,toNat_cast,List.getElem?_eq_getElem hm,bc (by omega)];have e1:decide ((1:Int)<0)=false:=rfl;simp only[e1,aE,az,ai,strings_Compare,uA,aV,if_true,Bool.false_eq_true,if_false]
  ·simp only[eg]
   rw[b6 (Nat.le_refl _),az]
  ·have hj':j<l.length:=by omega
   have:=oP (lt:=ltS) (key:=Entry.name) hj (List.getElem?_eq_getElem hj');simp only[List.getElem?_eq_getElem hj'];exact this
  ·have:=qA loS (k:=n) hs hj (List.getElem?_eq_getElem hj2)
   simp only[List.getElem?_eq_getElem hj2];exact this
 rw[e0];unfold AT;by_cases h:nQ n l<l.length
 ·rw[dec_lt h,bS,toNat_cast,List.getElem?_eq_getElem h]
  simp only[aE,ai,strings_Compare,tM,s_]
 ·rw[b6 (by omega),az,List.getElem?_eq_none (by omega)]
theorem D5 {l:List Entry} {n:Str} (hs:hC l):dR n l=aj l[nQ n l]? fun x=>if x.name=n then some x else none:=jk loS hs
theorem Fc {R:Type} (x:Option R):both x x=x:=by unfold both;rw[if_pos rfl]
theorem jS {α R:Type} {l:List α} {x y r:Option R} (h1:l= [] →x=r) (h2:y=r):yZ l x y=r:=by
 unfold yZ;cases l with
 |nil=>rw[h1 rfl,h2];exact Fc r
 |cons a l=>exact h2
end Go.Eng
set_option linter.unusedSimpArgs false
set_option linter.unusedVariables false
namespace Go.Eng
open Go
theorem xj {l:List Entry} {n:Str} (h:AT n l=true):∃x,l[nQ n l]? =some x∧x.name=n:=by
 unfold AT at h;split at h
 ·rename_i x hx;exact⟨x,hx,by simpa using h⟩
 ·cases h
theorem xf {l:List Entry} {n:Str} (hs:hC l) (h:AT n l=false):dR n l=none:=by
 rw[D5 hs];unfold AT at h;cases hx:l[nQ n l]? with
 |none=>rfl
 |some x=>
  rw[hx] at h;have h:¬x.name=n:=by simpa using h
  simp [h]
theorem take_set {α:Type} {a b:List α} {c:Nat} (h:a.length=c):(a++b).take c=a:=by subst h;simp
theorem drop_set {α:Type} {a b:List α} {c:Nat} (h:a.length=c):(a++b).drop c=b:=by subst h;simp
theorem rr {l:List Entry} {n:Str} (hs:hC l) (hl:l.length≤1073741824):jL l n=some (dU n l):=by
 unfold jL;rw[sZ hs hl];simp only[ai];cases h:AT n l
 ·rw[Bool.not_false,aE]
  have e9:dU n l=l:=na (xf hs h);rw[e9];refine jS (fun e=>by subst e;rfl) ?_;rw[bY (by unfold LIM;simp;omega)];rfl
 ·obtain⟨x,hx,hn⟩:=xj h
  have e9:dU n l=l.take (nQ n l)++l.drop (nQ n l+1):=oM loS hs hx hn;rw[Bool.not_true,az,e9];have hc:=(List.getElem?_eq_some_iff.1 hx).1;generalize nQ n l=c at hx hc;have e1:IntKind.i64.wrap ((List.length l:Int) - 1)=((l.length - 1:Nat):Int):=by rw[b9 (by omega) (by omega)];omega
  rw[e1,bc (by omega)];simp only[toNat_cast];have hA:(l.take c).length=c:=by simp;omega
  have hmin:min (l.take c).length (List.replicate (l.length - 1) (⟨[],0⟩:Entry)).length=c:=by simp;omega
  simp only[hmin,toNat_cast];have hAB:(l.take c).take (List.replicate (l.length - 1) (⟨[],0⟩:Entry)).length=l.take c:=by rw[List.take_take];congr 1;simp;omega
  simp only[hAB];have hB:(List.replicate (l.length - 1) (⟨[],0⟩:Entry)).drop (l.take c).length=List.replicate (l.length - 1 - c) (⟨[],0⟩:Entry):=by rw[hA,List.drop_replicate]
  simp only[hB];have hlen:(l.take c++List.replicate (l.length - 1 - c) (⟨[],0⟩:Entry)).length=l.length - 1:=by simp;omega
  simp only[hlen];rw[aO (by simp),bY (by unfold LIM;omega),aO (by simp;omega),aO (by simp;omega),aO (by simp;omega),aO (by simp;omega),take_set hA,drop_set hA];have hD:(l.drop (c+1)).take (l.length - 1 - c)=l.drop (c+1):=by rw[List.take_of_length_le];simp;omega
  have hE:(List.replicate (l.length - 1 - c) (⟨[],0⟩:Entry)).drop (min (l.drop (c+1)).length (l.length - 1 - c))= [] :=by rw[List.drop_eq_nil_of_le];simp;omega
  rw[hD,hE,List.append_nil]
theorem pz {l:List Entry} {n:Str} {i:Int} (hs:hC l) (hl:l.length≤1073741824):fI l n i=some (hY ⟨n,i⟩ l):=by
 unfold fI;rw[sZ hs hl];simp only[ai];have hc:nQ n l≤l.length:=lX l;cases h:AT n l
 ·have hf:=xf hs h
  have e9:hY (⟨n,i⟩:Entry) l=l.take (nQ n l)++⟨n,i⟩::l.drop (nQ n l):=qw loS hs hf;rw[e9];generalize nQ n l=c at hc;refine jS (fun e=> ?_) ?_
  ·subst e
   have:c=0:=by simpa using hc
   subst this;rfl
  ·rw[bY (by unfold LIM;simp;omega)]
   simp only[az,List.nil_append,List.length_singleton];have e1:IntKind.i64.wrap ((List.length l:Int)+((1:Nat):Int))=((l.length+1:Nat):Int):=by rw[b9 (by omega) (by omega)];omega
   have e2:IntKind.i64.wrap ((c:Int)+((1:Nat):Int))=((c+1:Nat):Int):=by rw[b9 (by omega) (by omega)];omega
   simp only[e1,e2,toNat_cast];rw[aO (by simp;omega),bK (by simp)];by_cases hlen:c=l.length
   ·subst hlen
    rw[aO (by simp),bY (by unfold LIM;omega)];simp
   ·rw[bK (by simp;omega)]
    refine tw fun cp hcp=> ?_
    by_cases hcap:cp<l.length+1
    ·rw[aO (by simp;omega),aO (by simp;omega)]
     have e3:IntKind.i64.wrap (((l.length+1:Nat):Int) - (c:Int))=((l.length+1 - c:Nat):Int):=by rw[b9 (by omega) (by omega)];omega
     simp only[e3,toNat_cast,List.drop_zero];have hA:(l.take c).length=c:=by simp;omega
     have hT:(l.take c++List.replicate (l.length+1 - c) (⟨[],0⟩:Entry)).take c=l.take c:=take_set hA;have hD:(l.take c++List.replicate (l.length+1 - c) (⟨[],0⟩:Entry)).drop c=List.replicate (l.length+1 - c) (⟨[],0⟩:Entry):=drop_set hA;have hL:(l.take c++List.replicate (l.length+1 - c) (⟨[],0⟩:Entry)).length=l.length+1:=by simp;omega
     simp only[hT,hD,hL];have hX:[(⟨n,i⟩:Entry)].take (l.length+1 - c)=[⟨n,i⟩]:=by rw[List.take_of_length_le];simp;omega
     have hM:min 1 (l.length+1 - c)=1:=by omega
     have hR:(List.replicate (l.length+1 - c) (⟨[],0⟩:Entry)).drop 1=List.replicate (l.length - c) (⟨[],0⟩:Entry):=by rw[List.drop_replicate];congr 1;omega
     simp only[hX,hM,hR];have hL2:(l.take c++([(⟨n,i⟩:Entry)]++List.replicate (l.length - c) (⟨[],0⟩:Entry))).length=l.length+1:=by simp;omega
     simp only[hL2];have hM2:min (l.length - c) (l.length+1 - (c+1))=l.length - c:=by omega
     simp only[hM2];rw[aO (by simp),bY (by unfold LIM;omega),aO (by simp;omega),aO (by simp;omega),aO (by simp;omega),aO (by simp;omega),aO (by simp;omega),aO (by simp;omega),aO (by simp;omega),aO (by simp;omega),aO (by simp;omega)];have e4:l.take c++([(⟨n,i⟩:Entry)]++List.replicate (l.length - c) (⟨[],0⟩:Entry))=(l.take c++[(⟨n,i⟩:Entry)])++List.replicate (l.length - c) (⟨[],0⟩:Entry):=by simp
     have hA1:(l.take c++[(⟨n,i⟩:Entry)]).length=c+1:=by simp;omega
     have hT4:(l.take c++([(⟨n,i⟩:Entry)]++List.replicate (l.length - c) (⟨[],0⟩:Entry))).take (c+1)=l.take c++[(⟨n,i⟩:Entry)]:=by rw[e4];exact take_set hA1
     have hD4:(l.take c++([(⟨n,i⟩:Entry)]++List.replicate (l.length - c) (⟨[],0⟩:Entry))).drop (c+1+(l.length - c))= [] :=by rw[List.drop_eq_nil_of_le];rw[hL2];omega
     have hQ:(l.drop c).take (l.length - c)=l.drop c:=by rw[List.take_of_length_le];simp
     rw[hT4,hD4,hQ];simp
    ·rw[bK (by simp;omega)]
     have hM:min (l.length+1 - c) (l.length+1 - (c+1))=l.length - c:=by omega
     simp only[hM,Nat.zero_add];have hQ:(l.drop c).take (l.length - c)=l.drop c:=by rw[List.take_of_length_le];simp
     have hX:[(⟨n,i⟩:Entry)].take (l.length+1 - c)=[⟨n,i⟩]:=by rw[List.take_of_length_le];simp;omega
     have hM2:min 1 (l.length+1 - c)=1:=by omega
     simp only[hQ,hX,hM2,List.drop_zero];rw[aO (by simp;omega),aO (by simp;omega),aO (by simp),aO (by simp;omega),aO (by simp;omega),aO (by simp;omega),aO (by simp;omega)];by_cases hc1:c+1≤l.length
     ·rw[aO (by simp;omega),bK (DT (by omega)),aO (by simp;omega),aO (by simp;omega),aO (by simp;omega)]
      have hT1:(l.take (c+1)++l.drop c).take c=l.take c:=by rw[List.take_append_of_le_length (by simp;omega),List.take_take];congr 1;omega
      have hD1:((l.take (c+1)++l.drop c).drop c).drop 1=l.drop c:=by rw[List.drop_drop];exact drop_set (by simp;omega)
      rw[hT1,hD1];rw[List.take_of_length_le (by simp;omega)];simp
     ·omega
 ·obtain⟨x,hx,hn⟩:=xj h
  have e9:hY (⟨n,i⟩:Entry) l=l.set (nQ n l) ⟨n,i⟩:=zw loS hs hx hn;rw[e9];have hc':=(List.getElem?_eq_some_iff.1 hx).1;generalize nQ n l=c at hx hc hc';refine jS (fun e=>by subst e;simp at hx) ?_;rw[bY (by unfold LIM;simp;omega)];simp only[aE,List.nil_append,toNat_cast,hx,ai];rw[aO (by simp;omega)];subst hn;rfl
end Go.Eng
set_option linter.unusedSimpArgs false
set_option linter.unusedVariables false
namespace Go.Eng
open Go
instance aj8:DecidableEq ae:=fun a b=>
 if h:a.ino=b.ino∧a.kind=b.kind∧a.ar=b.ar∧a.data=b.data∧a.parent=b.parent∧a.entries=b.entries then isTrue (by cases a;cases b;simp at h;simp [h]) else isFalse (by intro e;subst e;exact h ⟨rfl,rfl,rfl,rfl,rfl,rfl⟩)
instance apd:DecidableEq Fs:=fun a b=>
 if h:a.aq=b.aq∧a.au=b.au∧a.next=b.next∧a.aa=b.aa then isTrue (by cases a;cases b;simp at h;simp [h]) else isFalse (by intro e;subst e;exact h ⟨rfl,rfl,rfl,rfl⟩)
abbrev cz (l:List ae):Prop:=cU ltI ae.ino l
abbrev aw (n:Int) (l:List ae):Option ae:=b5 ae.ino n l
abbrev di (n:Int) (l:List ae):List ae:=dZ ae.ino n l
abbrev bH (x:ae) (l:List ae):List ae:=nt ltI ae.ino x l
abbrev ka (n:Int) (l:List ae):Nat:=dy ltI ae.ino n l
def kj:ae:=⟨0,0,0, [],0, []⟩
def aM (n:Int) (l:List ae):ae:=(aw n l).getD kj
def Fs.set (f:Fs) (x:ae):Fs:=⟨f.aq,f.au,f.next,bH x f.aa⟩
def Fs.drop (f:Fs) (n:Int):Fs:=⟨f.aq,f.au,f.next,di n f.aa⟩
def yd (n:Int) (l:List ae):Bool:=match l[ka n l]? with|some x=>decide (x.ino=n) |none=>false
theorem xA {l:List ae} {n:Int} (hs:cz l):aw n l=aj l[ka n l]? fun x=>if x.ino=n then some x else none:=jk loI hs
theorem w8 {l:List ae} {n:Int} (h:yd n l=true):∃x,l[ka n l]? =some x∧x.ino=n:=by
 unfold yd at h;split at h
 ·rename_i x hx;exact⟨x,hx,by simpa using h⟩
 ·cases h
theorem xn {l:List ae} {n:Int} (hs:cz l) (h:yd n l=false):aw n l=none:=by
 rw[xA hs];unfold yd at h;cases hx:l[ka n l]? with
 |none=>rfl
 |some x=>
  rw[hx] at h;have h:¬x.ino=n:=by simpa using h
  simp [h]
theorem om {f:Fs} {n:Int} (hs:cz f.aa) (hl:f.aa.length≤1073741824):mD f n=some ((ka n f.aa:Int),yd n f.aa):=by
 unfold mD;generalize f.aa=l at hs hl;have hc:ka n l≤l.length:=lX l;have e0:∀(k0:Int→Option (Int×Bool)),cM l n k0 bg (0:Int) (List.length l:Int)=k0 (ka n l:Int):=by
  intro k0;refine xW (fun m a b=>cM l n k0 m a b) (fun j=>match l[j]? with|some x=>decide (x.ino<n) |none=>false) l.length (ka n l) k0 (by omega) (fun m lo hi h1 h2=> ?_) (fun m lo h1=> ?_) (fun j hj=> ?_) (fun j hj hj2=> ?_) bg 0 l.length (gN (by omega)) (Nat.zero_le _) hc (Nat.le_refl _)
  ·simp only[cM]
   have hm:(lo+hi)/2<l.length:=by omega
   rw[dec_lt h1,yE (by omega) (by omega),bS,toNat_cast,List.getElem?_eq_getElem hm,bc (by omega)];have e1:decide ((1:Int)<0)=false:=rfl;simp only[e1,aE,az,ai,aV,if_true,Bool.false_eq_true,if_false,bne_self_eq_false];by_cases h9:l[(lo+hi)/2].ino<n
   ·simp [h9]
   ·simp [h9]
  ·simp only[cM]
   rw[b6 (Nat.le_refl _),az]
  ·have hj':j<l.length:=by omega
   have:=oP (lt:=ltI) (key:=ae.ino) hj (List.getElem?_eq_getElem hj');simp only[List.getElem?_eq_getElem hj'];exact this
  ·have:=qA loI (k:=n) hs hj (List.getElem?_eq_getElem hj2)
   simp only[List.getElem?_eq_getElem hj2];exact this
 rw[e0];unfold yd;by_cases h:ka n l<l.length
 ·rw[dec_lt h,bS,toNat_cast,List.getElem?_eq_getElem h]
  simp only[aE,ai,bne_self_eq_false,az,aV];by_cases h1:l[ka n l].ino<n
  ·have:¬l[ka n l].ino=n:=by omega
   simp [h1,this]
  ·by_cases h2:l[ka n l].ino>n
   ·have:¬l[ka n l].ino=n:=by omega
    simp [h1,h2,this]
   ·have:l[ka n l].ino=n:=by omega
    simp [h1,h2,this]
 ·rw[b6 (by omega),az,List.getElem?_eq_none (by omega)]
theorem dE {f:Fs} {n:Int} (hs:cz f.aa) (hl:f.aa.length≤1073741824):cZ f n=some (aM n f.aa,(aw n f.aa).isSome):=by
 unfold cZ aM;rw[om hs hl,xA hs];simp only[ai];unfold yd;rw[bS,toNat_cast];cases h:f.aa[ka n f.aa]? with
 |none=>rfl
 |some x=>
  simp only[ai];by_cases he:x.ino=n
  ·simp [he]
  ·simp [he];rfl
theorem dC {f:Fs} {x:ae} (hs:cz f.aa) (hl:f.aa.length≤1073741824):bh f x=some (f.set x):=by
 unfold bh Fs.set;rw[om hs hl];simp only[ai];have hc:ka x.ino f.aa≤f.aa.length:=lX f.aa;generalize f.aa=l at hs hl hc;cases h:yd x.ino l
 ·have hf:=xn hs h
  have e9:bH x l=l.take (ka x.ino l)++x::l.drop (ka x.ino l):=qw loI hs hf;rw[e9];generalize ka x.ino l=c at hc;refine jS (fun e=> ?_) ?_
  ·subst e
   have:c=0:=by simpa using hc
   subst this;rfl
  ·rw[bY (by unfold LIM;simp;omega)]
   simp only[az,List.nil_append,List.length_singleton];have e1:IntKind.i64.wrap ((List.length l:Int)+((1:Nat):Int))=((l.length+1:Nat):Int):=by rw[b9 (by omega) (by omega)];omega
   have e2:IntKind.i64.wrap ((c:Int)+((1:Nat):Int))=((c+1:Nat):Int):=by rw[b9 (by omega) (by omega)];omega
   simp only[e1,e2,toNat_cast];rw[aO (by simp;omega),bK (by simp)];by_cases hlen:c=l.length
   ·subst hlen
    rw[aO (by simp),bY (by unfold LIM;omega)];simp
   ·rw[bK (by simp;omega)]
    refine tw fun cp hcp=> ?_
    by_cases hcap:cp<l.length+1
    ·rw[aO (by simp;omega),aO (by simp;omega)]
     have e3:IntKind.i64.wrap (((l.length+1:Nat):Int) - (c:Int))=((l.length+1 - c:Nat):Int):=by rw[b9 (by omega) (by omega)];omega
     simp only[e3,toNat_cast,List.drop_zero];have hA:(l.take c).length=c:=by simp;omega
     have hT:(l.take c++List.replicate (l.length+1 - c) (⟨0,0,0, [],0,([] :List Entry)⟩:ae)).take c=l.take c:=take_set hA;have hD:(l.take c++List.replicate (l.length+1 - c) (⟨0,0,0, [],0,([] :List Entry)⟩:ae)).drop c=List.replicate (l.length+1 - c) (⟨0,0,0, [],0,([] :List Entry)⟩:ae):=drop_set hA;have hL:(l.take c++List.replicate (l.length+1 - c) (⟨0,0,0, [],0,([] :List Entry)⟩:ae)).length=l.length+1:=by simp;omega
     simp only[hT,hD,hL];have hX:[x].take (l.length+1 - c)=[x]:=by rw[List.take_of_length_le];simp;omega
     have hM:min 1 (l.length+1 - c)=1:=by omega
     have hR:(List.replicate (l.length+1 - c) (⟨0,0,0, [],0,([] :List Entry)⟩:ae)).drop 1=List.replicate (l.length - c) (⟨0,0,0, [],0,([] :List Entry)⟩:ae):=by rw[List.drop_replicate];congr 1;omega
     simp only[hX,hM,hR];have hL2:(l.take c++([x]++List.replicate (l.length - c) (⟨0,0,0, [],0,([] :List Entry)⟩:ae))).length=l.length+1:=by simp;omega
     simp only[hL2];have hM2:min (l.length - c) (l.length+1 - (c+1))=l.length - c:=by omega
     simp only[hM2];rw[aO (by simp),bY (by unfold LIM;omega),aO (by simp;omega),aO (by simp;omega),aO (by simp;omega),aO (by simp;omega),aO (by simp;omega),aO (by simp;omega),aO (by simp;omega),aO (by simp;omega),aO (by simp;omega)];have e4:l.take c++([x]++List.replicate (l.length - c) (⟨0,0,0, [],0,([] :List Entry)⟩:ae))=(l.take c++[x])++List.replicate (l.length - c) (⟨0,0,0, [],0,([] :List Entry)⟩:ae):=by simp
     have hA1:(l.take c++[x]).length=c+1:=by simp;omega
     have hT4:(l.take c++([x]++List.replicate (l.length - c) (⟨0,0,0, [],0,([] :List Entry)⟩:ae))).take (c+1)=l.take c++[x]:=by rw[e4];exact take_set hA1
     have hD4:(l.take c++([x]++List.replicate (l.length - c) (⟨0,0,0, [],0,([] :List Entry)⟩:ae))).drop (c+1+(l.length - c))= [] :=by rw[List.drop_eq_nil_of_le];rw[hL2];omega
     have hQ:(l.drop c).take (l.length - c)=l.drop c:=by rw[List.take_of_length_le];simp
     rw[hT4,hD4,hQ];simp
    ·rw[bK (by simp;omega)]
     have hM:min (l.length+1 - c) (l.length+1 - (c+1))=l.length - c:=by omega
     simp only[hM,Nat.zero_add];have hQ:(l.drop c).take (l.length - c)=l.drop c:=by rw[List.take_of_length_le];simp
     have hX:[x].take (l.length+1 - c)=[x]:=by rw[List.take_of_length_le];simp;omega
     have hM2:min 1 (l.length+1 - c)=1:=by omega
     simp only[hQ,hX,hM2,List.drop_zero];rw[aO (by simp;omega),aO (by simp;omega),aO (by simp),aO (by simp;omega),aO (by simp;omega),aO (by simp;omega),aO (by simp;omega)];have hc1:c+1≤l.length:=by omega
     rw[aO (by simp;omega),bK (DT (by omega)),aO (by simp;omega),aO (by simp;omega),aO (by simp;omega)];have hT1:(l.take (c+1)++l.drop c).take c=l.take c:=by rw[List.take_append_of_le_length (by simp;omega),List.take_take];congr 1;omega
     have hD1:((l.take (c+1)++l.drop c).drop c).drop 1=l.drop c:=by rw[List.drop_drop];exact drop_set (by simp;omega)
     rw[hT1,hD1];rw[List.take_of_length_le (by simp;omega)];simp
 ·obtain⟨y,hx,hn⟩:=w8 h
  have e9:bH x l=l.set (ka x.ino l) x:=zw loI hs hx hn;rw[e9];have hc':=(List.getElem?_eq_some_iff.1 hx).1;generalize ka x.ino l=c at hx hc hc';refine jS (fun e=>by subst e;simp at hx) ?_;rw[bY (by unfold LIM;simp;omega)];simp only[aE,List.nil_append,toNat_cast,hx,ai];rw[aO (by simp;omega)]
theorem pO {α κ R:Type} [DecidableEq κ] {key:α→κ} {k:κ} (kr:α→Option R) (k0:Option R):∀(l:List α) (i:Nat) (s:Unit),dV (fun _ x s K=>if decide (key x=k) then kr x else K s) (fun _=>k0) i l s=match b5 key k l with|some x=>kr x|none=>k0
 | [],_,_=>rfl
 |x::l,i,s=>by
  simp only[dV];unfold b5;rw[List.find?_cons];by_cases h:key x=k
  ·simp [h]
  ·simp only[h,decide_false,Bool.false_eq_true,if_false]
   have:=pO (key:=key) (k:=k) kr k0 l (i+1) s;unfold b5 at this;rw[this]
theorem kE (a b:Int):(a==b)=decide (a=b):=by rw[Bool.eq_iff_iff,beq_iff_eq,decide_eq_true_eq]
theorem mq (a b:Int):(a !=b)= !decide (a=b):=by rw[bne,kE]
theorem cO {f:Fs} {n:Int} (hl:f.aa.length≤1073741824):bB f n=some (aM n f.aa,(aw n f.aa).isSome):=by
 unfold bB;refine(bZ (l:=f.aa) (fun m i (_:Unit)=>gR n f (fun z10=>some (z10,true)) (some ((⟨0,0,0, [],0,([] :List Entry)⟩:ae),false)) m i) (fun _ (x:ae) s K=>if decide (x.ino=n) then some (x,true) else K s) (fun _=>some (kj,false)) (by omega) (fun m k x u hk hx=> ?_) (fun m u=> ?_) ()).trans ?_
 ·simp only[gR]
  rw[dec_lt hk,bS,toNat_cast,hx,bc (by omega)];simp only[aE,ai,aV,if_true,kE]
 ·simp only[gR]
  rw[b6 (Nat.le_refl _)];rfl
 ·rw[pO (key:=ae.ino) (k:=n) (fun x=>some (x,true)) _]
  unfold aM aw;cases b5 ae.ino n f.aa<;>rfl
theorem mw {f:Fs} {n:Int} (hl:f.aa.length≤1073741824):dh f n=some (f.drop n):=by
 unfold dh;refine(bZ (l:=f.aa) (fun m i s=>fb n f (fun z11=>some (⟨f.aq,f.au,f.next,z11⟩:Fs)) m i s) (fun _ (x:ae) s K=>if !decide (x.ino=n) then aR (s.length+[x].length) (K (s++[x])) else K s) (fun z11=>some (⟨f.aq,f.au,f.next,z11⟩:Fs)) (by omega) (fun m k x s hk hx=> ?_) (fun m s=> ?_) []).trans ?_
 ·simp only[fb]
  rw[dec_lt hk,bS,toNat_cast,hx,bc (by omega)];simp only[aE,ai,aV,if_true,mq]
 ·simp only[fb]
  rw[b6 (Nat.le_refl _)];rfl
 ·rw[mP _ _ _ _ _ (by unfold LIM;simp;omega)];rfl
theorem cP {f:Fs} {x:ae} (hl:f.aa.length≤1073741824):b7 f x=some (f.set x):=by
 unfold b7;rw[mw hl];simp only[ai];have hfl:(di x.ino f.aa).length≤f.aa.length:=dp (key:=ae.ino);unfold Fs.set Fs.drop bH nt;show _=some (⟨f.aq,f.au,f.next,iF ltI ae.ino x (di x.ino f.aa)⟩:Fs);generalize di x.ino f.aa=rest at hfl⊢;refine(bZ (l:=rest) (fun m i s=>eT rest x (fun z18 z19=>ah (!z18) (aR (z19.length+[x].length) (some (⟨f.aq,f.au,f.next,(z19++[x])⟩:Fs))) (some (⟨f.aq,f.au,f.next,z19⟩:Fs))) m s.1 i s.2)
  (fun _ y (s:Bool×List ae) K=>if !s.1 then (if ltI x.ino y.ino then aR (s.2.length+[x].length) (aR ((s.2++[x]).length+[y].length) (K (true,(s.2++[x])++[y]))) else aR (s.2.length+[y].length) (K (s.1,s.2++[y]))) else aR (s.2.length+[y].length) (K (s.1,s.2++[y])))
  (fun s=>if !s.1 then aR (s.2.length+[x].length) (some (⟨f.aq,f.au,f.next,s.2++[x]⟩:Fs)) else some (⟨f.aq,f.au,f.next,s.2⟩:Fs)) (by omega) (fun m k y s hk hx=> ?_) (fun m s=> ?_) (false, [])).trans ?_
 ·simp only[eT]
  rw[dec_lt hk,bS,toNat_cast,hx,bc (by omega)];simp only[aE,ai,aV,if_true,ltI,gt_iff_lt]
 ·simp only[eT]
  rw[b6 (Nat.le_refl _),az];simp only[aV]
 ·rw[kM (lt:=ltI) (key:=ae.ino) x (fun z=>some (⟨f.aq,f.au,f.next,z⟩:Fs)) _ _ _ (by unfold LIM;simp;omega)]
  rfl
theorem Ui (a b:ae):decide (a=b)=(decide (a.ino=b.ino)&&(decide (a.kind=b.kind)&&(decide (a.ar=b.ar)&&(decide (a.data=b.data)&&(decide (a.parent=b.parent)&&decide (a.entries=b.entries)))))):=by
 rw[Bool.eq_iff_iff];cases a;cases b;simp
theorem yQ {a b:ae} (hl:a.entries.length≤1073741824):oW a b=some (decide (a=b)):=by
 unfold oW;rw[v_ hl,Ui];simp only[kE,s_,aV,ai];by_cases h1:a.ino=b.ino
 ·by_cases h2:a.kind=b.kind
  ·by_cases h3:a.ar=b.ar
   ·by_cases h4:a.data=b.data
    ·by_cases h5:a.parent=b.parent
     ·simp [h1,h2,h3,h4,h5]
     ·simp [h1,h2,h3,h4,h5]
    ·simp [h1,h2,h3,h4]
   ·simp [h1,h2,h3]
  ·simp [h1,h2]
 ·simp [h1]
theorem pH {a b:List ae} (hl:a.length≤1073741824) (he:∀x∈a,x.entries.length≤1073741824):ld a b=some (decide (a=b)):=by
 unfold ld;rw[aV];by_cases h:a.length=b.length
 ·have e:((List.length a:Int) !=(List.length b:Int))=false:=by rw[h];simp
  rw[e,if_neg (by simp)];refine(bZ (l:=a) (fun m i (_:Unit)=>fX a b (some false) (some true) m i) (fun k x (_:Unit) K=>aj ([] ++b)[k]? fun y=>if decide (x=y) then K () else some false) (fun _=>some true) (by omega) (fun m k x u hk hx=> ?_) (fun m u=> ?_) ()).trans ?_
  ·simp only[fX]
   rw[dec_lt hk,bS,toNat_cast,hx,bc (by omega)];simp only[aE,ai,aV,if_true,List.nil_append];have hk':k<b.length:=by omega
   rw[List.getElem?_eq_getElem hk'];simp only[ai];rw[yQ (he x (List.mem_of_getElem? hx))];simp only[ai];by_cases hxy:x=b[k]<;>simp [hxy]
  ·simp only[fX]
   rw[b6 (Nat.le_refl _)];rfl
  ·rw[jz _ _ a b 0 [] h rfl]
   by_cases hab:a=b<;>simp [hab]
 ·have e:((List.length a:Int) !=(List.length b:Int))=true:=by rw[bne_iff_ne];omega
  rw[e,if_pos rfl];have:¬a=b:=fun e=>h (by rw[e])
  simp [this]
theorem Mi (a b:Fs):decide (a=b)=(decide (a.aq=b.aq)&&(decide (a.au=b.au)&&(decide (a.next=b.next)&&decide (a.aa=b.aa)))):=by
 rw[Bool.eq_iff_iff];cases a;cases b;simp
theorem mg {a b:Fs} (hl:a.aa.length≤1073741824) (he:∀x∈a.aa,x.entries.length≤1073741824):jF a b=some (decide (a=b)):=by
 unfold jF;rw[pH hl he,Mi];simp only[kE,aV,ai];by_cases h1:a.aq=b.aq
 ·by_cases h2:a.au=b.au
  ·by_cases h3:a.next=b.next
   ·simp [h1,h2,h3]
   ·simp [h1,h2,h3]
  ·simp [h1,h2]
 ·simp [h1]
end Go.Eng
set_option linter.unusedSimpArgs false
set_option linter.unusedVariables false
namespace Go.Eng
open Go
def bytesOf (l:List ae):Int:=(l.map fun x=>if x.kind=1 then (x.data.length:Int) else 0).sum
def du (f:Fs) (a b:Int):Bool:=decide ((f.aa.length:Int)+a≤f.aq)&&decide (bytesOf f.aa+b≤f.au)
structure SmF (f:Fs):Prop where
 len:f.aa.length≤1073741824
 data:∀x∈f.aa,x.data.length≤1073741824
 db:∀x∈f.aa,x.entries.length≤1073741824
 names:∀x∈f.aa,∀e∈x.entries,e.name.length≤1099511627775
theorem nB (x:ae) (l:List ae):bytesOf (x::l)=(if x.kind=1 then (x.data.length:Int) else 0)+bytesOf l:=by simp [bytesOf]
theorem qk (l:List ae):0≤bytesOf l:=by
 induction l with
 |nil=>simp [bytesOf]
 |cons x l ih=>rw[nB];split<;>omega
theorem C_ {N:Nat} {l:List ae} (h:∀x∈l,x.data.length≤N):bytesOf l≤((l.length*N:Nat):Int):=by
 induction l with
 |nil=>simp [bytesOf]
 |cons x l ih=>
  have h1:=ih (fun y hy=>h y (by simp [hy]));have h2:=h x (by simp);rw[nB,List.length_cons,Nat.succ_mul];split<;>omega
theorem SmF.bytes {f:Fs} (h:SmF f):bytesOf f.aa≤1152921504606846976:=by
 have h1:=C_ h.data;have h2:f.aa.length*1073741824≤1073741824*1073741824:=Nat.mul_le_mul_right _ h.len;omega
theorem nc {R:Type} (kk:Int→Option R):∀(l:List ae) (k:Nat) (s:Int),0≤s→s+bytesOf l≤4611686018427387904→
 dV (fun _ (x:ae) s K=>if decide (x.kind=1) then K (IntKind.i64.wrap (s+(x.data.length:Int))) else K s) kk k l s=kk (s+bytesOf l)
 | [],k,s,_,_=>by simp [dV,bytesOf]
 |x::l,k,s,h0,h=>by
  have hn:=qk l;rw[nB] at h⊢;simp only[dV];by_cases hk:x.kind=1
  ·rw[if_pos hk] at h
   rw[if_pos (by simp [hk]),if_pos hk,b9 (by omega) (by omega),nc kk l (k+1) _ (by omega) (by omega),Int.add_assoc]
  ·rw[if_neg hk] at h
   rw[if_neg (by simp [hk]),if_neg hk,nc kk l (k+1) _ (by omega) (by omega)];simp
theorem wy {f:Fs} (h:SmF f):np f=some (bytesOf f.aa):=by
 have hs:=h.bytes;have hl:=h.len;unfold np;refine(bZ (l:=f.aa) (fun n i s=>fg (f.aa.length:Int) f (fun z8=>some z8) n s i) (fun _ (x:ae) s K=>if decide (x.kind=1) then K (IntKind.i64.wrap (s+(x.data.length:Int))) else K s) (fun z=>some z) (by omega) (fun n k x s hk hx=> ?_) (fun n s=> ?_) 0).trans ?_
 ·simp only[fg]
  rw[dec_lt hk,bS,toNat_cast,hx,bc (by omega)];simp only[aE,ai,aV,if_true,kE]
 ·simp only[fg]
  rw[b6 (Nat.le_refl _)];rfl
 ·rw[nc _ _ _ _ (by omega) (by omega)];simp
theorem uv {f:Fs} (h:SmF f):lF f=some (bytesOf f.aa):=by
 have hs:=h.bytes;have hl:=h.len;unfold lF;refine(bZ (l:=f.aa) (fun n i s=>eB f (fun z7=>some z7) n s i) (fun _ (x:ae) s K=>if decide (x.kind=1) then K (IntKind.i64.wrap (s+(x.data.length:Int))) else K s) (fun z=>some z) (by omega) (fun n k x s hk hx=> ?_) (fun n s=> ?_) 0).trans ?_
 ·simp only[eB]
  rw[dec_lt hk,bS,toNat_cast,hx,bc (by omega)];simp only[aE,ai,aV,if_true,kE]
 ·simp only[eB]
  rw[b6 (Nat.le_refl _)];rfl
 ·rw[nc _ _ _ _ (by omega) (by omega)];simp
def Far (n:Int):Prop:= -1152921504606846976≤n∧n≤1152921504606846976
theorem gQ {f:Fs} {a b:Int} (h:SmF f) (ha:Far a) (hb:Far b):fx f a b=some (du f a b):=by
 have hs:=h.bytes;have h0:=qk f.aa;have hl:=h.len;unfold Far at ha hb;unfold fx du n3;rw[wy h];simp only[ai,aV];rw[b9 (by omega) (by omega),b9 (by omega) (by omega)];by_cases h1:(f.aa.length:Int)+a≤f.aq<;>simp [h1]
theorem fS {f:Fs} {a b:Int} (h:SmF f) (ha:Far a) (hb:Far b):eu f a b=some (du f a b):=by
 have hs:=h.bytes;have h0:=qk f.aa;have hl:=h.len;unfold Far at ha hb;unfold eu du;rw[uv h];simp only[ai,aV];rw[b9 (by omega) (by omega),b9 (by omega) (by omega)];by_cases h1:(f.aa.length:Int)+a≤f.aq
 ·have h2:¬f.aq<(f.aa.length:Int)+a:=by omega
  simp [h1,h2]
 ·have h2:f.aq<(f.aa.length:Int)+a:=by omega
  simp [h1,h2]
def EM (x:ae):Bool:=decide (x.data.length≤5000)&&(decide (x.entries.length≤40)&&x.entries.all fun e=>decide (e.name.length≤300))
def m9 (f:Fs):Bool:=(f.aa.take 100).all EM&&decide (f.aa.length≤40)
theorem fP {α R:Type} (p:α→Bool) (kr k0:Option R):∀(l:List α) (k:Nat) (s:Unit),dV (fun _ x s K=>if p x then K s else kr) (fun _=>k0) k l s=if l.all p then k0 else kr
 | [],_,_=>rfl
 |x::l,k,s=>by
  by_cases h:p x=true
  ·have e:(x::l).all p=l.all p:=by simp [h]
   rw[e];simp only[dV];rw[if_pos h];exact fP p kr k0 l (k+1) s
  ·have e:(x::l).all p=false:=by simp [h]
   rw[e];simp [dV,h]
theorem tl {R:Type} {x:ae} {kr k2:Option R} (hl:x.entries.length≤1073741824):fF x kr k2 bg (0:Int)=if x.entries.all (fun e=>decide (e.name.length≤300)) then k2 else kr:=by
 refine(bZ (l:=x.entries) (fun n i (s:Unit)=>fF x kr k2 n i) (fun _ (e:Entry) s K=>if decide (e.name.length≤300) then K s else kr) (fun _=>k2) (by omega) (fun n k e s hk hx=> ?_) (fun n s=> ?_) ()).trans ?_
 ·simp only[fF]
  rw[dec_lt hk,bS,toNat_cast,hx,bc (by omega)];simp only[aE,ai,aV,if_true];by_cases h:e.name.length≤300
  ·have h2:¬(300:Int)<(e.name.length:Int):=by omega
   simp [h,h2]
  ·have h2:(300:Int)<(e.name.length:Int):=by omega
   simp [h,h2]
 ·simp only[fF]
  rw[b6 (Nat.le_refl _)];rfl
 ·exact fP _ _ _ _ _ _
theorem qS {f:Fs} (hl:f.aa.length≤1073741824) (he:∀x∈f.aa,x.entries.length≤1073741824):jy f=some (m9 f):=by
 unfold jy;refine(bZ (l:=f.aa.take 100) (fun n i (s:Unit)=>gU f (some false) (some (decide ((f.aa.length:Int)≤(40:Int)))) n i) (fun _ x s K=>if EM x then K s else some false) (fun _=>some (decide ((f.aa.length:Int)≤(40:Int)))) (by simp;omega) (fun n k x s hk hx=> ?_) (fun n s=> ?_) ()).trans ?_
 ·have hk':k<f.aa.length∧k<100:=by simp at hk;omega
  have hx':f.aa[k]? =some x:=by rw[List.getElem?_take_of_lt hk'.2] at hx;exact hx
  have hxm:=he x (List.mem_of_getElem? hx');simp only[gU];have h100:decide ((k:Int)<(100:Int))=true:=by simp;omega
  rw[dec_lt hk'.1,h100,bS,toNat_cast,hx',bc (by omega)];simp only[aE,ai,aV,if_true];rw[tl hxm];unfold EM;by_cases h1:x.data.length≤5000
  ·have h1':¬(5000:Int)<(x.data.length:Int):=by omega
   by_cases h2:x.entries.length≤40
   ·have h2':¬(40:Int)<(x.entries.length:Int):=by omega
    simp [h1,h1',h2,h2']
   ·have h2':(40:Int)<(x.entries.length:Int):=by omega
    simp [h1,h1',h2,h2']
  ·have h1':(5000:Int)<(x.data.length:Int):=by omega
   simp [h1,h1']
 ·simp only[gU]
  by_cases h:f.aa.length≤100
  ·have e:(f.aa.take 100).length=f.aa.length:=by simp;omega
   rw[e,b6 (Nat.le_refl _)];rfl
  ·have e:(f.aa.take 100).length=100:=by simp;omega
   rw[e];have h1:decide (((100:Nat):Int)<(f.aa.length:Int))=true:=by simp;omega
   rw[h1];rfl
 ·rw[fP]
  unfold m9;have e:decide ((f.aa.length:Int)≤(40:Int))=decide (f.aa.length≤40):=by rw[decide_eq_decide];omega
  rw[e];by_cases h9:(f.aa.take 100).all EM=true
  ·rw[if_pos h9,h9];rfl
  ·rw[if_neg h9]
   have:(f.aa.take 100).all EM=false:=by simpa using h9
   rw[this];rfl
theorem oN {f:Fs} (h:m9 f=true):f.aa.length≤40∧∀x∈f.aa,x.data.length≤5000∧x.entries.length≤40∧∀e∈x.entries,e.name.length≤300:=by
 unfold m9 at h;simp only[Bool.and_eq_true,decide_eq_true_eq] at h;obtain⟨h1,h2⟩:=h;rw[List.take_of_length_le (by omega),List.all_eq_true] at h1;refine⟨h2,fun x hx=> ?_⟩;have:=h1 x hx;unfold EM at this;simp only[Bool.and_eq_true,decide_eq_true_eq,List.all_eq_true] at this;exact this
theorem SmF.G0 {f:Fs} (h:m9 f=true):SmF f:=by
 obtain⟨h1,h2⟩:=oN h;exact⟨by omega,fun x hx=>by have:=(h2 x hx).1;omega,fun x hx=>by have:=(h2 x hx).2.1;omega,fun x hx e he=>by have:=(h2 x hx).2.2 e he;omega⟩
def gz:List ae→Bool
 | [] =>true
 |[_]=>true
 |x::y::l=>decide (x.ino<y.ino)&&gz (y::l)
theorem jr:∀l:List ae,gz l=true↔cz l
 | [] =>by simp [gz,cz,cU]
 |[x]=>by simp [gz,cz,cU]
 |x::y::l=>by
  have ih:=jr (y::l);unfold cz cU at ih⊢;rw[List.pairwise_cons];simp only[gz,Bool.and_eq_true,ih,decide_eq_true_eq];constructor
  ·rintro⟨h1,h2⟩
   refine⟨fun z hz=> ?_,h2⟩;rw[List.pairwise_cons] at h2;simp only[List.mem_cons] at hz;rcases hz with rfl|hz
   ·simp [ltI,h1]
   ·have:=h2.1 z hz
    simp only[ltI,decide_eq_true_eq] at this⊢;omega
  ·rintro⟨h1,h2⟩
   have:=h1 y (by simp);simp only[ltI,decide_eq_true_eq] at this;exact⟨this,h2⟩
theorem rz:∀(a:List ae) (x y:ae) (l:List ae),gz (a++x::y::l)=(gz (a++[x])&&(decide (x.ino<y.ino)&&gz (y::l)))
 | [],x,y,l=>by simp [gz]
 |[z],x,y,l=>by simp [gz,Bool.and_assoc]
 |z::z2::a,x,y,l=>by
  have:=rz (z2::a) x y l;simp only[List.cons_append] at this⊢;simp only[gz,this,Bool.and_assoc]
theorem pq {f:Fs} (hl:f.aa.length≤1073741824):kV f=some (gz f.aa):=by
 unfold kV;have key:∀(n k:Nat),1≤k→f.aa.length - k<n→gz (f.aa.take k)=true→ie f (some false) (some true) n (k:Int)=some (gz f.aa):=by
  intro n;induction n with
  |zero=>intro k _ h;omega
  |succ n ih=>
   intro k h1 hn hr;simp only[ie];by_cases hk:k<f.aa.length
   ·rw[dec_lt hk,aE,wJ (by omega) (by omega),bS,aE,toNat_cast,List.getElem?_eq_getElem (by omega),ai,bS,aE,toNat_cast,List.getElem?_eq_getElem hk,ai,bc (by omega)]
    have e1:f.aa.take k=f.aa.take (k - 1)++[f.aa[k - 1]]:=by
     have:k=(k - 1)+1:=by omega
     conv=>lhs;rw[this]
     rw[List.take_add_one,List.getElem?_eq_getElem (by omega)];rfl
    have e2:f.aa=f.aa.take (k - 1)++f.aa[k - 1]::f.aa[k]::f.aa.drop (k+1):=by
     conv=>lhs;rw[←List.take_append_drop (k - 1) f.aa]
     rw[List.drop_eq_getElem_cons (i:=k - 1) (by omega)];have:k - 1+1=k:=by omega
     rw[this,List.drop_eq_getElem_cons hk]
    by_cases h:f.aa[k - 1].ino<f.aa[k].ino
    ·rw[bK (by simp;omega)]
     refine ih (k+1) (by omega) (by omega) ?_;have e3:f.aa.take (k+1)=f.aa.take (k - 1)++f.aa[k - 1]::[f.aa[k]]:=by
      rw[List.take_add_one,List.getElem?_eq_getElem hk];conv=>lhs;rw[e1]
      rw[List.append_assoc];rfl
     rw[e3,rz,←e1,hr];simp [gz,h]
    ·rw[aO (by simp;omega)]
     rw[e2,rz];simp [h]
   ·rw[b6 (by omega),az]
    rw[List.take_of_length_le (by omega)] at hr;rw[hr]
 refine key bg 1 (Nat.le_refl _) (gN (by omega)) ?_;cases h:f.aa with
 |nil=>rfl
 |cons x l=>simp [gz]
def qj (f:Fs):Bool:=decide (1≤f.aq∧f.aq≤1073741824∧0≤f.au∧f.au≤1073741824∧f.next≤1099511627776)&&(f.aa.all (fun x=>decide (1≤x.ino∧x.ino<f.next))&&(gz f.aa&&((aw 1 f.aa).isSome&&decide ((aM 1 f.aa).kind=2))))
theorem vt {f:Fs} (hl:f.aa.length≤1073741824):lM f=some (qj f):=by
 unfold lM qj;rw[cO hl,pq hl];simp only[ai];by_cases h1:f.aq<1
 ·rw[aO (by simp [h1]),decide_eq_false (by omega)];rfl
 rw[bK (by simp [h1])];by_cases h2:f.aq>1073741824
 ·rw[aO (by simp [h2]),decide_eq_false (by omega)];rfl
 rw[bK (by simp [h2])];by_cases h3:f.au<0
 ·rw[aO (by simp [h3]),decide_eq_false (by omega)];rfl
 rw[bK (by simp [h3])];by_cases h4:f.au>1073741824
 ·rw[aO (by simp [h4]),decide_eq_false (by omega)];rfl
 rw[bK (by simp [h4])];by_cases h5:f.next>1099511627776
 ·rw[aO (by simp [h5]),decide_eq_false (by omega)];rfl
 rw[bK (by simp [h5]),decide_eq_true (by omega),Bool.true_and];generalize hk0:(ah (gz f.aa) (ah (aw 1 f.aa).isSome (some ((aM 1 f.aa).kind==(2:Int))) (some false)) (some false))=k0;have e0:k0=some (gz f.aa&&((aw 1 f.aa).isSome&&decide ((aM 1 f.aa).kind=2))):=by
  rw[←hk0,kE];cases gz f.aa<;>cases (aw 1 f.aa).isSome<;>rfl
 refine(bZ (l:=f.aa) (fun m i (_:Unit)=>fu f (some false) k0 m i) (fun _ (x:ae) s K=>if decide (1≤x.ino∧x.ino<f.next) then K s else some false) (fun _=>k0) (by omega) (fun m k x u hk hx=> ?_) (fun m u=> ?_) ()).trans ?_
 ·simp only[fu]
  rw[dec_lt hk,bS,toNat_cast,hx,bc (by omega)];simp only[aE,ai,aV,if_true];by_cases h6:x.ino<1
  ·have:¬(1≤x.ino∧x.ino<f.next):=by omega
   simp [h6,this]
  ·by_cases h7:x.ino≥f.next
   ·have:¬(1≤x.ino∧x.ino<f.next):=by omega
    have h7':f.next≤x.ino:=h7;simp [h6,h7',this]
   ·have:1≤x.ino∧x.ino<f.next:=by omega
    have h7':¬f.next≤x.ino:=h7;simp [h6,h7',this]
 ·simp only[fu]
  rw[b6 (Nat.le_refl _)];rfl
 ·rw[fP,e0]
  by_cases h9:f.aa.all (fun x=>decide (1≤x.ino∧x.ino<f.next))=true
  ·rw[if_pos h9,h9,Bool.true_and]
  ·rw[if_neg h9]
   have:f.aa.all (fun x=>decide (1≤x.ino∧x.ino<f.next))=false:=by simpa using h9
   rw[this,Bool.false_and]
def fy (x:ae):Bool:=(decide (x.kind=1)&&(x.entries.isEmpty&&decide (x.parent=0)))||((decide (x.kind=2)&&(decide (x.data= [])&&gd x.entries))||(decide (x.kind=3)&&(x.entries.isEmpty&&(decide (x.parent=0)&&(decide (1≤x.data.length∧x.data.length≤4095)&& !(x.data.any (fun b=>b==0)))))))
def nA (f:Fs):Bool:=f.aa.all fy
theorem BW {R:Type} {x:ae} {kr k2:Option R} (hl:x.data.length≤1073741824):aQ x kr k2 bg (0:Int)=if decide (x.kind=3)&&x.data.any (fun b=>b==0) then kr else k2:=by
 by_cases h3:x.kind=3
 ·refine(bZ (l:=x.data) (fun m i (_:Unit)=>aQ x kr k2 m i) (fun _ (b:UInt8) s K=>if b==0 then kr else K s) (fun _=>k2) (by omega) (fun m k b u hk hx=> ?_) (fun m u=> ?_) ()).trans ?_
  ·simp only[aQ]
   rw[dec_lt hk,bS,toNat_cast,hx,bc (by omega),aO rfl,aO (by simp [h3]),aO rfl,ai,aV];have:((UInt8.toNat b:Int)==(0:Int))=(b==0):=jH b 0 (by omega);rw[this]
  ·simp only[aQ]
   rw[b6 (Nat.le_refl _)];rfl
  ·rw[mQ (fun b:UInt8=>b==0) (fun _ _=>kr) k2 kr (fun _ _=>rfl)]
   simp [h3]
 ·obtain⟨m,hm⟩:=Gt
  rw[hm];simp only[aQ];rw[if_neg (by simp [h3])];cases decide ((0:Int)<(List.length x.data:Int))
  ·rfl
  ·rw[aE,bK (by simp [h3])]
theorem zl {x:ae} (h:x.kind=1):fy x=(x.entries.isEmpty&&decide (x.parent=0)):=by
 unfold fy;simp [h]
theorem Aw {x:ae} (h:x.kind=2):fy x=(decide (x.data= [])&&gd x.entries):=by
 unfold fy;simp [h]
theorem zd {x:ae} (h:x.kind=3):fy x=(x.entries.isEmpty&&(decide (x.parent=0)&&(decide (1≤x.data.length∧x.data.length≤4095)&& !(x.data.any (fun b=>b==0))))):=by
 unfold fy;simp [h]
theorem Hr {x:ae} (h1:¬x.kind=1) (h2:¬x.kind=2) (h3:¬x.kind=3):fy x=false:=by
 unfold fy;simp [h1,h2,h3]
theorem AR {α:Type} (l:List α):decide ((List.length l:Int)>(0:Int))= !l.isEmpty:=by
 cases l with
 |nil=>rfl
 |cons x l=>simp
theorem tp {f:Fs} (h:SmF f):ko f=some (nA f):=by
 have hl:=h.len;unfold ko nA;refine(bZ (l:=f.aa) (fun m i (_:Unit)=>aY f (some false) (some true) m i) (fun _ (x:ae) s K=>if fy x then K s else some false) (fun _=>some true) (by omega) (fun m k x u hk hx=> ?_) (fun m u=> ?_) ()).trans ?_
 ·simp only[aY]
  have hxm:=List.mem_of_getElem? hx;have hsm:Sm x.entries:=⟨h.db x hxm,h.names x hxm⟩;rw[dec_lt hk,bS,toNat_cast,hx,bc (by omega)];simp only[aE,ai,ud hsm,BW (h.data x hxm),AR,mq,kE,s_];by_cases h1:x.kind=1
  ·rw[zl h1]
   have e2:¬x.kind=2:=by omega
   have e3:¬x.kind=3:=by omega
   rw[bK (by simp [h1]),aO (by simp [e2])];simp only[h1];cases x.entries.isEmpty
   ·rfl
   ·by_cases hp:x.parent=0
    ·simp [hp]
    ·simp [hp]
  ·rw[aO (by simp [h1])]
   by_cases h2:x.kind=2
   ·rw[Aw h2]
    have e3:¬x.kind=3:=by omega
    rw[bK (by simp [h2]),bK (by simp [h2]),aO (by simp [h2])];simp only[h2];by_cases hd:x.data= []
    ·simp only[hd]
     cases gd x.entries<;>simp
    ·simp [hd]
   ·rw[aO (by simp [h2])]
    by_cases h3:x.kind=3
    ·rw[zd h3,bK (by simp [h3]),aO (by simp [h2])]
     simp only[h3];cases x.entries.isEmpty
     ·rfl
     ·by_cases hp:x.parent=0
      ·by_cases hd1:x.data.length<1
       ·have:¬(1≤x.data.length∧x.data.length≤4095):=by omega
        have hd1':((List.length x.data:Int)<1):=by omega
        simp [hp,hd1',this]
       ·by_cases hd2:x.data.length>4095
        ·have:¬(1≤x.data.length∧x.data.length≤4095):=by omega
         have hd1':¬((List.length x.data:Int)<1):=by omega
         have hd2':(4095:Int)<(List.length x.data:Int):=by omega
         simp [hp,hd1',hd2',this]
        ·have:1≤x.data.length∧x.data.length≤4095:=by omega
         have hd1':¬((List.length x.data:Int)<1):=by omega
         have hd2':¬(4095:Int)<(List.length x.data:Int):=by omega
         rw[decide_eq_true this,decide_eq_true hp];cases hany:x.data.any (fun b=>b==0)
         ·simp [hp,hd1',hd2']
         ·simp [hp,hd1',hd2']
      ·simp [hp]
    ·rw[Hr h1 h2 h3,aO (by simp [h3])];rfl
 ·simp only[aY]
  rw[b6 (Nat.le_refl _)];rfl
 ·rw[fP];exact DD
end Go.Eng
set_option linter.unusedSimpArgs false
set_option linter.unusedVariables false
namespace Go.Eng
open Go
def qg (f:Fs):Bool:=f.aa.all fun x=>x.entries.all fun e=>(aw e.ino f.aa).isSome
theorem F9 {R:Type} {f:Fs} {k:Nat} {x:ae} {kr k2:Option R} (hx:f.aa[k]? =some x) (hl:f.aa.length≤1073741824) (he:x.entries.length≤1073741824):eC (k:Int) f kr k2 bg (0:Int)=if x.entries.all (fun e=>(aw e.ino f.aa).isSome) then k2 else kr:=by
 refine(bZ (l:=x.entries) (fun m i (_:Unit)=>eC (k:Int) f kr k2 m i) (fun _ (e:Entry) s K=>if (aw e.ino f.aa).isSome then K s else kr) (fun _=>k2) (by omega) (fun m j e u hj he'=> ?_) (fun m u=> ?_) ()).trans ?_
 ·simp only[eC]
  rw[bS,toNat_cast,hx];simp only[aE,ai];rw[dec_lt hj,bS,toNat_cast,he',bc (by omega)];simp only[aE,ai];rw[cO hl];simp only[ai,aV];cases (aw e.ino f.aa).isSome<;>rfl
 ·simp only[eC]
  rw[bS,toNat_cast,hx];simp only[aE,ai];rw[b6 (Nat.le_refl _)];rfl
 ·exact fP _ _ _ _ _ _
theorem tT {f:Fs} (h:SmF f):lS f=some (qg f):=by
 have hl:=h.len;unfold lS qg;refine(bZ (l:=f.aa) (fun m i (_:Unit)=>fm f (some false) (some true) m i) (fun _ (x:ae) s K=>if x.entries.all (fun e=>(aw e.ino f.aa).isSome) then K s else some false) (fun _=>some true) (by omega) (fun m k x u hk hx=> ?_) (fun m u=> ?_) ()).trans ?_
 ·simp only[fm]
  rw[dec_lt hk,aE,F9 hx hl (h.db x (List.mem_of_getElem? hx)),bc (by omega)]
 ·simp only[fm]
  rw[b6 (Nat.le_refl _)];rfl
 ·rw[fP (fun x:ae=>x.entries.all fun e=>(aw e.ino f.aa).isSome)]
  exact DD
def mb (n:Int) (l:List Entry):Nat:=(l.filter fun e=>decide (e.ino=n)).length
def ff (n:Int):List ae→Nat×Int→Nat×Int
 | [],s=>s
 |x::l,s=>ff n l (s.1+mb n x.entries,if mb n x.entries=0 then s.2 else x.ino)
def dF (f:Fs) (n:Int):Nat×Int:=ff n f.aa (0,0)
theorem D9 (n:Int) (e:Entry) (l:List Entry):mb n (e::l)=(if e.ino=n then 1 else 0)+mb n l:=by
 unfold mb;rw[List.filter_cons];by_cases h:e.ino=n<;>simp [h];omega
theorem DO (n:Int) (l:List Entry):mb n l≤l.length:=List.length_filter_le _ _
theorem uL {n:Int} {l:List Entry} {j:Nat} {e:Entry} (h:l[j]? =some e):mb n (l.take (j+1))=mb n (l.take j)+if e.ino=n then 1 else 0:=by
 unfold mb;rw[List.take_add_one,h];simp only[Option.toList_some,List.filter_append,List.length_append];by_cases h':e.ino=n<;>simp [h']
theorem GW {R:Type} {f:Fs} {n:Int} {k:Nat} {x:ae} {k2:Int→Int→Option R} (hx:f.aa[k]? =some x) (hl:f.aa.length≤1073741824) (he:x.entries.length≤1073741824) {c:Nat} {d:Int} (hc:c≤1152921504606846976):
 dK n (k:Int) f k2 bg (c:Int) d (0:Int)=k2 ((c+mb n x.entries:Nat):Int) (if mb n x.entries=0 then d else x.ino):=by
 refine kK (l:=x.entries) (fun m i (s:Int×Int)=>dK n (k:Int) f k2 m s.1 s.2 i) (fun j s=>s=(((c+mb n (x.entries.take j):Nat):Int),if mb n (x.entries.take j)=0 then d else x.ino)) (fun r=>r=k2 ((c+mb n x.entries:Nat):Int) (if mb n x.entries=0 then d else x.ino)) (by omega) (fun m j e s hj he' hi hr=> ?_) (fun m s hi=> ?_) ((c:Int),d) (by simp [mb])
 ·simp only[dK]
  have hcl:=DO n (x.entries.take j);have hcl':(x.entries.take j).length≤x.entries.length:=by simp;omega
  have ht:=uL (n:=n) he';rw[bS,toNat_cast,hx];simp only[aE,ai];rw[dec_lt hj,bS,toNat_cast,he',bc (by omega)];simp only[aE,ai,kE,aV,if_true];by_cases h:e.ino=n
  ·rw[if_pos (by simp [h])]
   rw[if_pos h] at ht;refine hr (IntKind.i64.wrap (s.1+1),x.ino) ?_;rw[hi,ht];simp only;rw[bc (by omega)];have:¬mb n (x.entries.take j)+1=0:=by omega
   rw[if_neg this];rfl
  ·rw[if_neg (by simp [h])]
   rw[if_neg h,Nat.add_zero] at ht;refine hr _ ?_;rw[hi,ht];simp only[Nat.add_zero]
 ·simp only[dK]
  rw[List.take_length] at hi;rw[bS,toNat_cast,hx];simp only[aE,ai];rw[b6 (Nat.le_refl _),az,hi]
theorem vl (n:Int):∀(a b:List ae) (s:Nat×Int),ff n (a++b) s=ff n b (ff n a s)
 | [],_,_=>rfl
 |x::a,b,s=>by simp only[List.cons_append,ff];exact vl n a b _
theorem w6 {n:Int} {N:Nat}:∀(l:List ae) (s:Nat×Int),(∀x∈l,x.entries.length≤N)→(ff n l s).1≤s.1+l.length*N
 | [],s,_=>by simp [ff]
 |x::l,s,h=>by
  simp only[ff];have h1:=w6 (n:=n) l (s.1+mb n x.entries,if mb n x.entries=0 then s.2 else x.ino) (fun y hy=>h y (by simp [hy]));have h2:=DO n x.entries;have h3:=h x (by simp);rw[List.length_cons,Nat.succ_mul];simp only at h1;omega
theorem tU {f:Fs} {n:Int} (h:SmF f):lD f n=some (((dF f n).1:Int),(dF f n).2):=by
 have hl:=h.len;unfold lD dF;refine kK (l:=f.aa) (fun m i (s:Int×Int)=>ft n f (fun z25 z26=>some (z25,z26)) m s.1 s.2 i) (fun j s=>s=(((ff n (f.aa.take j) (0,0)).1:Int),(ff n (f.aa.take j) (0,0)).2)) (fun r=>r=some (((ff n f.aa (0,0)).1:Int),(ff n f.aa (0,0)).2)) (by omega) (fun m k x s hk hx hi hr=> ?_) (fun m s hi=> ?_) (0,0) (by simp [ff])
 ·simp only[ft]
  have hb:=w6 (n:=n) (N:=1073741824) (f.aa.take k) (0,0) (fun y hy=>h.db y (List.mem_of_mem_take hy));have hk2:(f.aa.take k).length≤1073741824:=by simp;omega
  have hb2:(f.aa.take k).length*1073741824≤1073741824*1073741824:=Nat.mul_le_mul_right _ hk2;rw[dec_lt hk,aE,hi];simp only;rw[GW hx hl (h.db x (List.mem_of_getElem? hx)) (by simp only at hb;omega),bc (by omega)];refine hr (_,_) ?_;rw[List.take_add_one,hx];simp only[Option.toList_some,vl,ff];rfl
 ·simp only[ft]
  rw[List.take_length] at hi;rw[b6 (Nat.le_refl _),az,hi]
def wP (f:Fs) (x:ae):Bool:=decide (x.ar=(dF f x.ino).1)&&(if x.ino=1 then decide ((dF f x.ino).1=0)&&decide (x.parent=1) else decide (1≤(dF f x.ino).1)&&(if x.kind=2 then decide ((dF f x.ino).1=1)&&decide (x.parent=(dF f x.ino).2) else true))
def m_ (f:Fs):Bool:=f.aa.all (wP f)
theorem tq {f:Fs} (h:SmF f):kq f=some (m_ f):=by
 have hl:=h.len;unfold kq m_;refine(bZ (l:=f.aa) (fun m i (_:Unit)=>dn f (some false) (some true) m i) (fun _ (x:ae) s K=>if wP f x then K s else some false) (fun _=>some true) (by omega) (fun m k x u hk hx=> ?_) (fun m u=> ?_) ()).trans ?_
 ·simp only[dn]
  rw[dec_lt hk,bS,toNat_cast,hx,bc (by omega)];simp only[aE,ai];rw[tU h];simp only[ai,mq,kE];unfold wP;by_cases h1:x.ar=((dF f x.ino).1:Int)
  ·simp only[h1,decide_true,Bool.not_true,az,Bool.true_and]
   by_cases h2:x.ino=1
   ·simp only[h2,decide_true,aE,if_true]
    by_cases h3:(dF f 1).1=0
    ·have h3':((dF f 1).1:Int)=0:=by omega
     simp only[h3,h3',decide_true,Bool.not_true,az,Bool.true_and];by_cases h4:x.parent=1<;>simp [h4]
    ·have h3':¬((dF f 1).1:Int)=0:=by omega
     simp [h3,h3']
   ·simp only[h2,decide_false,az,if_false]
    by_cases h3:(dF f x.ino).1<1
    ·have h3':((dF f x.ino).1:Int)<1:=by omega
     have h3'':¬1≤(dF f x.ino).1:=by omega
     simp [h3',h3'']
    ·have h3':¬((dF f x.ino).1:Int)<1:=by omega
     have h3'':1≤(dF f x.ino).1:=by omega
     simp only[h3',h3'',decide_true,decide_false,az,Bool.true_and];by_cases h4:x.kind=2
     ·simp only[h4,decide_true,aE,if_true]
      by_cases h5:(dF f x.ino).1=1
      ·have h5':((dF f x.ino).1:Int)=1:=by omega
       simp only[h5,h5',decide_true,Bool.not_true,az,Bool.true_and];by_cases h6:x.parent=(dF f x.ino).2<;>simp [h6]
      ·have h5':¬((dF f x.ino).1:Int)=1:=by omega
       simp [h5,h5']
     ·simp [h4]
  ·simp [h1]
 ·simp only[dn]
  rw[b6 (Nat.le_refl _)];rfl
 ·rw[fP];exact DD
def visit (s:List Int) (e:Entry):List Int:=if e.ino∈s then s else s++[e.ino]
def mo (x:ae) (s:List Int):List Int:=x.entries.foldl visit s
def ik (l:List ae):Nat→Nat→List Int→List Int
 |0,_,s=>s
 |n+1,i,s=>match s[i]? with|some k=>ik l n (i+1) (mo (aM k l) s) |none=>s
def dt (l:List ae):List Int:=1::l.flatMap fun x=>x.entries.map Entry.ino
def yU (l:List ae):List Int:=ik l ((dt l).length+1) 0 [1]
def qi (f:Fs):Bool:=decide ((yU f.aa).length=f.aa.length)
theorem oU {l m:List Int} (h:l.Nodup) (hs:∀x∈l,x∈m):l.length≤m.length:=by
 induction l generalizing m with
 |nil=>simp
 |cons x l ih=>
  rw[List.nodup_cons] at h;have hx:=hs x (by simp);have:=ih (m:=m.erase x) h.2 (fun y hy=>by
   have hne:y≠x:=by intro e;subst e;exact h.1 hy
   exact(List.mem_erase_of_ne hne).2 (hs y (by simp [hy])))
  rw[List.length_erase_of_mem hx] at this;have:=List.length_pos_of_mem hx;simp only[List.length_cons];omega
structure nI (l:List ae) (s:List Int):Prop where
 nodup:s.Nodup
 sub:∀x∈s,x∈dt l
theorem nI.len {l:List ae} {s:List Int} (h:nI l s):s.length≤(dt l).length:=oU h.nodup h.sub
theorem Gw {l:List ae} {s:List Int} {e:Entry} (h:nI l s) (he:e.ino∈dt l):nI l (visit s e):=by
 unfold visit;split
 ·exact h
 ·rename_i hn
  refine⟨?_,fun x hx=> ?_⟩
  ·rw[List.nodup_append]
   refine⟨h.nodup,by simp,fun a ha b hb=> ?_⟩;simp at hb;subst hb;intro e';subst e';exact hn ha
  ·simp at hx
   rcases hx with hx|rfl
   ·exact h.sub x hx
   ·exact he
theorem nU {l:List ae}:∀(es:List Entry) {s:List Int},nI l s→(∀e∈es,e.ino∈dt l)→nI l (es.foldl visit s)
 | [],s,h,_=>h
 |e::es,s,h,he=>by
  simp only[List.foldl_cons];exact nU es (Gw h (he e (by simp))) (fun e' h'=>he e' (by simp [h']))
theorem Em {l:List ae} {k:Int} {e:Entry} (h:e∈(aM k l).entries):e.ino∈dt l:=by
 unfold aM at h;cases hf:aw k l with
 |none=>rw[hf] at h;simp [kj] at h
 |some x=>
  rw[hf] at h;simp only[Option.getD_some] at h;unfold dt;rw[List.mem_cons];right;rw[List.mem_flatMap];exact⟨x,(b8 hf).1,List.mem_map.2 ⟨e,h,rfl⟩⟩
theorem ri {l:List ae} {s:List Int} {k:Int} (h:nI l s):nI l (mo (aM k l) s):=nU _ h (fun e he=>Em he)
theorem j8:∀(es:List Entry) (s:List Int),∃t,es.foldl visit s=s++t
 | [],s=>⟨[],by simp⟩
 |e::es,s=>by
  simp only[List.foldl_cons];obtain⟨t,ht⟩:=j8 es (visit s e);unfold visit at ht⊢;split at ht
  ·rename_i h;rw[if_pos h];exact⟨t,ht⟩
  ·rename_i h;rw[if_neg h];exact⟨e.ino::t,by rw[ht];simp⟩
theorem s7 (es:List Entry) (s:List Int):(es.foldl visit s).length≤s.length+es.length:=by
 induction es generalizing s with
 |nil=>simp
 |cons e es ih=>
  simp only[List.foldl_cons,List.length_cons];have:=ih (visit s e);have h2:(visit s e).length≤s.length+1:=by unfold visit;split<;>simp
  omega
theorem ET {R:Type} {x:ae} {s:List Int} {j:Nat} {e:Entry} {k4:Bool→Option R} (he:x.entries[j]? =some e) (hl:s.length≤1099511627775):dq (j:Int) s x k4 bg false (0:Int)=k4 (decide (e.ino∈s)):=by
 refine kK (l:=s) (fun m i (b:Bool)=>dq (j:Int) s x k4 m b i) (fun k b=>b=decide (e.ino∈s.take k)) (fun r=>r=k4 (decide (e.ino∈s))) hl (fun m k y b hk hy hi hr=> ?_) (fun m b hi=> ?_) false (by simp)
 ·simp only[dq]
  have ht:decide (e.ino∈s.take (k+1))=(decide (e.ino∈s.take k)||decide (y=e.ino)):=by
   rw[List.take_add_one,hy,Bool.eq_iff_iff];simp only[Option.toList_some,List.mem_append,List.mem_singleton,Bool.or_eq_true,decide_eq_true_eq];exact or_congr_right ⟨fun h=>h.symm,fun h=>h.symm⟩
  rw[dec_lt hk,aE,bc (by omega)];cases b
  ·rw[az,F7 hk,aE,toNat_cast,hy,ai,bS,aE,toNat_cast,he,ai,kE]
   refine hr _ ?_;rw[ht,←hi,Bool.false_or]
  ·rw[aE]
   refine hr _ ?_;rw[ht,←hi];simp
 ·simp only[dq]
  rw[List.take_length] at hi;rw[b6 (Nat.le_refl _),az,hi]
theorem FE {R:Type} {x:ae} {s:List Int} {k2:List Int→Option R} (hl:s.length+x.entries.length≤1073741824):dH x k2 bg (0:Int) s=k2 (mo x s):=by
 unfold mo;refine kK (l:=x.entries) (fun m i (t:List Int)=>dH x k2 m i t) (fun k t=>t=(x.entries.take k).foldl visit s) (fun r=>r=k2 (x.entries.foldl visit s)) (by omega) (fun m k e t hk he hi hr=> ?_) (fun m t hi=> ?_) s (by simp)
 ·simp only[dH]
  have hlen:=s7 (x.entries.take k) s;have hk':(x.entries.take k).length≤x.entries.length:=by simp;omega
  rw[←hi] at hlen;have ht:(x.entries.take (k+1)).foldl visit s=visit t e:=by
   rw[List.take_add_one,he,List.foldl_append,←hi];rfl
  rw[dec_lt hk,aE,ET he (by omega),bc (by omega),bS,toNat_cast,he];simp only[aE,ai];by_cases hm:e.ino∈t
  ·rw[bK (by simp [hm])]
   refine hr _ ?_;rw[ht];unfold visit;rw[if_pos hm]
  ·rw[aO (by simp [hm]),bY (by unfold LIM;simp;omega)]
   refine hr _ ?_;rw[ht];unfold visit;rw[if_neg hm]
 ·simp only[dH]
  rw[List.take_length] at hi;rw[b6 (Nat.le_refl _),az,hi]
theorem Gl {f:Fs} (h:SmF f) (ht:(dt f.aa).length≤536870912) (k0:List Int→Option Bool):∀(m n i:Nat) (s:List Int),nI f.aa s→i≤s.length→(dt f.aa).length+1 - i≤m→(dt f.aa).length+1 - i<n→
 gr f k0 n (i:Int) s=k0 (ik f.aa m i s):=by
 intro m;induction m with
 |zero=>
  intro n i s hv hi hm hn;have:=hv.len;omega
 |succ m ih=>
  intro n i s hv hi hm hn;cases n with
  |zero=>omega
  |succ n=>
   have hlen:=hv.len;simp only[gr,ik];by_cases hlt:i<s.length
   ·rw[dec_lt hlt,aE,F7 hlt,aE,toNat_cast,List.getElem?_eq_getElem hlt,ai,cO h.len,ai]
    have hents:(aM s[i] f.aa).entries.length≤536870912:=by
     unfold aM;cases hf:aw s[i] f.aa with
     |none=>simp [kj]
     |some x=>
      have hx:=(b8 hf).1;simp only[Option.getD_some];have h1:x.entries.length≤(f.aa.flatMap fun x=>x.entries.map Entry.ino).length:=by
       obtain⟨a,b,e⟩:=List.append_of_mem hx;rw[e];simp only[List.flatMap_append,List.flatMap_cons,List.length_append,List.length_map];omega
      unfold dt at ht;simp only[List.length_cons] at ht;omega
    rw[FE (by simp only;omega),bc (by omega)];have hv':=ri (k:=s[i]) hv;obtain⟨t,htt⟩:=j8 (aM s[i] f.aa).entries s;refine ih n (i+1) _ hv' ?_ (by omega) (by omega);unfold mo;rw[htt];simp;omega
   ·rw[b6 (by omega),az,List.getElem?_eq_none (by omega)]
theorem Bx (l:List ae):nI l [1]:=⟨by simp,fun x hx=>by simp at hx;subst hx;simp [dt]⟩
theorem vC {f:Fs} (h:SmF f) (ht:(dt f.aa).length≤536870912):lU f=some (qi f):=by
 unfold lU qi yU;have:=Gl h ht (fun z34=>some ((List.length z34:Int)==(List.length f.aa:Int))) ((dt f.aa).length+1) bg 0 [1] (Bx _) (Nat.zero_le _) (by omega) (by have:=qP;omega);refine this.trans ?_;rw[kE];congr 1;rw[decide_eq_decide];omega
def qd (f:Fs):Int:=if qj f then (if nA f then (if qg f then (if m_ f then (if qi f then (if du f 0 0 then 0 else 6) else 5) else 4) else 3) else 2) else 1
theorem uF {N:Nat} {l:List ae} (h:∀x∈l,x.entries.length≤N):(dt l).length≤l.length*N+1:=by
 unfold dt;rw[List.length_cons];have:(l.flatMap fun x=>x.entries.map Entry.ino).length≤l.length*N:=by
  induction l with
  |nil=>simp
  |cons x l ih=>
   have h1:=ih (fun y hy=>h y (by simp [hy]));have h2:=h x (by simp);simp only[List.flatMap_cons,List.length_append,List.length_map,List.length_cons,Nat.succ_mul];omega
 omega
theorem oA {f:Fs} (h:SmF f) (ht:(dt f.aa).length≤536870912):eY f=some (qd f):=by
 unfold eY qd;rw[vt h.len,tp h,tT h,tq h,vC h ht,fS h (by unfold Far;omega) (by unfold Far;omega)];simp only[ai];cases qj f
 ·rfl
 ·cases nA f
  ·rfl
  ·cases qg f
   ·rfl
   ·cases m_ f
    ·rfl
    ·cases qi f
     ·rfl
     ·cases du f 0 0<;>rfl
theorem IY {f:Fs} (h:m9 f=true):(dt f.aa).length≤1601:=by
 obtain⟨h1,h2⟩:=oN h;have:=uF (N:=40) (fun x hx=>(h2 x hx).2.1);have:f.aa.length*40≤40*40:=Nat.mul_le_mul_right _ h1;omega
structure Sound (f:Fs):Prop where
 ui:1≤f.aq∧f.aq≤1073741824
 um:0≤f.au∧f.au≤1073741824
 next:f.next≤1099511627776
 ino:∀x∈f.aa,1≤x.ino∧x.ino<f.next
 sort:cz f.aa
 root:∃r,aw 1 f.aa=some r∧r.kind=2
 kind:∀x∈f.aa,fy x=true
 there:∀x∈f.aa,∀e∈x.entries,∃y,aw e.ino f.aa=some y
 link:∀x∈f.aa,wP f x=true
 led:(yU f.aa).length=f.aa.length
 fits:du f 0 0=true
theorem uZ (f:Fs):qd f=0↔Sound f:=by
 unfold qd;constructor
 ·intro h
  split at h
  ·rename_i h1
   split at h
   ·rename_i h2
    split at h
    ·rename_i h3
     split at h
     ·rename_i h4
      split at h
      ·rename_i h5
       split at h
       ·rename_i h6
        unfold qj at h1;simp only[Bool.and_eq_true,decide_eq_true_eq,List.all_eq_true] at h1;obtain⟨⟨a1,a2,a3,a4,a5⟩,a6,a7,a8,a9⟩:=h1;obtain⟨r,hr⟩:=Option.isSome_iff_exists.1 a8;refine⟨⟨a1,a2⟩,⟨a3,a4⟩,a5,a6,(jr _).1 a7,⟨r,hr, ?_⟩, ?_, ?_, ?_, ?_,h6⟩
        ·unfold aM at a9;rw[hr] at a9;exact a9
        ·unfold nA at h2;simpa [List.all_eq_true] using h2
        ·unfold qg at h3
         simp only[List.all_eq_true] at h3;exact fun x hx e he=>Option.isSome_iff_exists.1 (h3 x hx e he)
        ·unfold m_ at h4;simpa [List.all_eq_true] using h4
        ·unfold qi at h5;simpa using h5
       ·simp at h
      ·simp at h
     ·simp at h
    ·simp at h
   ·simp at h
  ·simp at h
 ·intro h
  obtain⟨r,hr,hk⟩:=h.root;have h1:qj f=true:=by
   unfold qj;simp only[Bool.and_eq_true,decide_eq_true_eq,List.all_eq_true];refine⟨⟨h.ui.1,h.ui.2,h.um.1,h.um.2,h.next⟩,h.ino,(jr _).2 h.sort,by rw[hr];rfl,by unfold aM;rw[hr];exact hk⟩
  have h2:nA f=true:=by unfold nA;rw[List.all_eq_true];exact h.kind
  have h3:qg f=true:=by
   unfold qg;simp only[List.all_eq_true];exact fun x hx e he=>Option.isSome_iff_exists.2 (h.there x hx e he)
  have h4:m_ f=true:=by unfold m_;rw[List.all_eq_true];exact h.link
  have h5:qi f=true:=by unfold qi;rw[decide_eq_true_eq];exact h.led
  rw[if_pos h1,if_pos h2,if_pos h3,if_pos h4,if_pos h5,if_pos h.fits]
end Go.Eng
set_option linter.unusedSimpArgs false
set_option linter.unusedVariables false
namespace Go.Eng
open Go
def splitN:Str→Str→List Str×Str
 |cur, [] =>([],cur)
 |cur,c::s=>if c=47 then (if cur= [] then splitN [] s else (cur::(splitN [] s).1,(splitN [] s).2)) else splitN (cur++[c]) s
def fJ (r:List Str×Str):List Str:=if r.2= [] then r.1 else r.1++[r.2]
def dG (s:Str):List Str:=fJ (splitN [] s)
def pA (l:List Str):Str:=if l= [] then [47] else l.flatMap fun x=>47::x
def nN (s:Str):Bool:=(dG s).any (fun x=>decide (255<x.length))||decide (4095<s.length)
def dX (s:Str):List Str×Bool:=if pA (dG s)=s∧(dG s).all fD=true then (dG s,true) else ([],false)
def dI (s:Str):Pth:=⟨s.take 1==[47],dG s, !(dG s).isEmpty&&(s.drop (s.length - 1)==[47])⟩
theorem ux:∀(a cur b:Str),(∀x∈a,x≠47)→splitN cur (a++47::b)=if cur++a= [] then splitN [] b else ((cur++a)::(splitN [] b).1,(splitN [] b).2)
 | [],cur,b,_=>by simp [splitN]
 |c::a,cur,b,h=>by
  have hc:¬c=47:=h c (by simp);simp only[List.cons_append,splitN,if_neg hc];rw[ux a (cur++[c]) b (fun x hx=>h x (by simp [hx]))];simp
theorem sJ:∀(a cur:Str),(∀x∈a,x≠47)→splitN cur a=([],cur++a)
 | [],cur,_=>by simp [splitN]
 |c::a,cur,h=>by
  have hc:¬c=47:=h c (by simp);simp only[splitN,if_neg hc];rw[sJ a (cur++[c]) (fun x hx=>h x (by simp [hx]))];simp
theorem pJ:∀(s cur:Str),(splitN cur s).1.length≤s.length∧(splitN cur s).2.length≤cur.length+s.length∧(fJ (splitN cur s)).flatten.length+(fJ (splitN cur s)).length≤cur.length+s.length+1
 | [],cur=>by
  simp only[splitN,fJ,List.length_nil];by_cases h:cur= []
  ·subst h;simp
  ·simp [h]
 |c::s,cur=>by
  simp only[splitN];by_cases hc:c=47
  ·rw[if_pos hc]
   obtain⟨h1,h2,h3⟩:=pJ s [];by_cases hcur:cur= []
   ·rw[if_pos hcur]
    simp only[List.length_nil,List.length_cons] at*;exact⟨by omega,by omega,by omega⟩
   ·rw[if_neg hcur]
    simp only[List.length_nil,List.length_cons] at*;refine⟨by omega,by omega, ?_⟩;have e:fJ (cur::(splitN [] s).1,(splitN [] s).2)=cur::fJ (splitN [] s):=by
     unfold fJ;simp only;split<;>simp
    rw[e];simp only[List.flatten_cons,List.length_append,List.length_cons];have hcl:0<cur.length:=List.length_pos_iff.2 hcur;omega
  ·rw[if_neg hc]
   obtain⟨h1,h2,h3⟩:=pJ s (cur++[c]);simp only[List.length_append,List.length_singleton,List.length_cons,List.length_nil] at*;exact⟨by omega,by omega,by omega⟩
theorem lr (s:Str):(dG s).flatten.length+(dG s).length≤s.length+1:=by
 have:=(pJ s []).2.2;simp only[List.length_nil,Nat.zero_add] at this;exact this
theorem nL {l:List Str} {x:Str} (h:x∈l):x.length≤l.flatten.length:=by
 induction l with
 |nil=>cases h
 |cons y l ih=>
  simp only[List.mem_cons] at h;simp only[List.flatten_cons,List.length_append];rcases h with rfl|h
  ·omega
  ·have:=ih h;omega
theorem nX {s x:Str} (h:x∈dG s):x.length≤s.length:=by
 have h1:=lr s;have h2:=nL h;have h3:0<(dG s).length:=List.length_pos_of_mem h;omega
theorem sU:∀l:List Str,(l.flatMap fun x=>47::x).length=l.flatten.length+l.length
 | [] =>rfl
 |x::l=>by simp [List.flatMap_cons,List.length_append,sU l];omega
theorem kR {s:Str} (hl:s.length≤1073741824):iC s=some (dG s):=by
 unfold iC;have key:∀(n k:Nat) (cur:Str) (acc:List Str),k≤s.length→s.length+1 - k<n→cur.length≤k→acc.length≤k→cK s (fun z7=>some z7) n cur (k:Int) acc=some (acc++fJ (splitN cur (s.drop k))):=by
  intro n;induction n with
  |zero=>intro k _ _ _ h;omega
  |succ n ih=>
   intro k cur acc hk hn hcur hacc;simp only[cK];have e1:decide ((k:Int)≤(List.length s:Int))=true:=by simp;omega
   rw[e1,aE];by_cases h:k<s.length
   ·obtain⟨c,hc,hd⟩:=tG h
    rw[dec_lt h,aE,bS,aE,toNat_cast,hc,ai,hd];simp only[splitN];by_cases h47:c=47
    ·subst h47
     have e2:((UInt8.toNat (47:UInt8):Int) !=(47:Int))=false:=by decide
     rw[e2,az,if_pos rfl,bc (by omega)];by_cases hc0:cur= []
     ·subst hc0
      have e3:(!(([] :Str)==([] :Str)))=false:=rfl;rw[e3,az,if_pos rfl];exact ih (k+1) [] acc (by omega) (by omega) (by simp) (by omega)
     ·have e3:(!(cur==([] :Str)))=true:=by simp [hc0]
      rw[e3,aE,if_neg hc0,bY (by unfold LIM;simp;omega),ih (k+1) [] (acc++[cur]) (by omega) (by omega) (by simp) (by simp;omega)];unfold fJ;simp only;split<;>simp
    ·have e2:((UInt8.toNat c:Int) !=(47:Int))=true:=by
      rw[bne_iff_ne];intro e;apply h47;have:=jH c 47 (by omega);rw[e] at this;simpa using this
     rw[e2,aE,if_neg h47,bc (by omega)];have e4:(s.take (k+1)).drop k=[c]:=by
      have e9:=(List.getElem?_eq_some_iff.1 hc);rw[List.take_add_one,hc];have:(s.take k).length=k:=by simp;omega
      rw[List.drop_append_of_le_length (by omega),List.drop_eq_nil_of_le (by omega)];rfl
     simp only[toNat_cast];rw[aO (by simp;omega),aO (by simp;omega),e4,bY (by unfold LIM;simp;omega)];exact ih (k+1) (cur++[c]) acc (by omega) (by omega) (by simp;omega) (by omega)
   ·have hkl:k=s.length:=by omega
    subst hkl;rw[b6 (Nat.le_refl _),az,List.drop_length,bc (by omega)];simp only[splitN,fJ];have ex:∀acc:List Str,cK s (fun z7=>some z7) n ([] :Str) ((s.length+1:Nat):Int) acc=some acc:=by
     intro acc;cases n with
     |zero=>omega
     |succ n=>
      simp only[cK];have:decide (((s.length+1:Nat):Int)≤(List.length s:Int))=false:=by simp;omega
      rw[this,az]
    by_cases hc0:cur= []
    ·subst hc0
     have e3:(!(([] :Str)==([] :Str)))=false:=rfl;rw[e3,az,ex];simp
    ·have e3:(!(cur==([] :Str)))=true:=by simp [hc0]
     rw[e3,aE,bY (by unfold LIM;simp;omega),ex];simp [hc0]
 have:=key bg 0 [] [] (Nat.zero_le _) (by have:=qP;omega) (by simp) (by simp);simpa [dG] using this
theorem vT {l:List Str} (hl:l.flatten.length+l.length≤1073741824):m4 l=some (pA l):=by
 unfold m4 pA;by_cases h0:l= []
 ·subst h0;rfl
 ·rw[bK (by simp [h0]),if_neg h0]
  refine kK (l:=l) (fun n i s=>fT l (fun z6=>some z6) n s i) (fun k s=>s=(l.take k).flatMap fun x=>47::x) (fun r=>r=some (l.flatMap fun x=>47::x)) (by omega) (fun n k x s hk hx hi hr=> ?_) (fun n s hi=> ?_) [] (by simp)
  ·simp only[fT]
   have hs:s.length≤1073741824:=by
    subst hi;rw[sU];have h1:(l.take k).flatten.length≤l.flatten.length:=by
     conv=>rhs;rw[←List.take_append_drop k l]
     rw[List.flatten_append,List.length_append];omega
    have h2:(l.take k).length≤l.length:=by simp;omega
    omega
   have hxl:=nL (List.mem_of_getElem? hx);rw[dec_lt hk,aE,bY (by unfold LIM;simp;omega),bS,aE,toNat_cast,hx,ai,bY (by unfold LIM;simp;omega),bc (by omega)];refine hr _ ?_;rw[List.take_add_one,hx,hi];simp
  ·simp only[fT]
   rw[b6 (Nat.le_refl _),az];rw[List.take_length] at hi;rw[hi]
theorem CN {l:List Str} {p:Bool} (hl:l.length≤1073741824):fW l (some true) (some p) bg (0:Int)=some (l.any (fun x=>decide (255<x.length))||p):=by
 refine(bZ (l:=l) (fun n i (_:Unit)=>fW l (some true) (some p) n i) (fun k (x:Str) s K=>if decide (255<x.length) then some true else K s) (fun _=>some p) (by omega) (fun n k x u hk hx=> ?_) (fun n u=> ?_) ()).trans ?_
 ·simp only[fW]
  rw[dec_lt hk,bS,toNat_cast,hx,bc (by omega)];simp only[aE,ai,aV,if_true];have:decide ((List.length x:Int)>(255:Int))=decide (255<x.length):=by rw[decide_eq_decide];omega
  rw[this]
 ·simp only[fW]
  rw[b6 (Nat.le_refl _)];rfl
 ·rw[mQ (fun x:Str=>decide (255<x.length)) _ _ (some true) (fun k x=>rfl)]
  cases l.any (fun x=>decide (255<x.length))<;>rfl
theorem pE {s:Str} (hl:s.length≤1073741823):iv s=some (nN s):=by
 unfold iv;have:=lr s;rw[kR (by omega),ai,CN (by omega)];unfold nN;have:decide ((List.length s:Int)>(4095:Int))=decide (4095<s.length):=by rw[decide_eq_decide];omega
 rw[this]
theorem xv {α R:Type} (p:α→Bool) (kr k0:Option R):∀(l:List α) (k:Nat) (s:Unit),dV (fun _ x s K=>if !p x then kr else K s) (fun _=>k0) k l s=if l.all p then k0 else kr
 | [],_,_=>rfl
 |x::l,k,s=>by
  by_cases h:p x=true
  ·have e:(x::l).all p=l.all p:=by simp [h]
   rw[e];simp only[dV];rw[if_neg (by simp [h])];exact xv p kr k0 l (k+1) s
  ·have e:(x::l).all p=false:=by simp [h]
   rw[e];simp [dV,h]
theorem EU {R:Type} {l:List Str} (kr k0:Option R) (hl:l.length≤1073741824) (hx:∀x∈l,x.length≤1099511627775):eG l kr k0 bg (0:Int)=if l.all fD then k0 else kr:=by
 refine(bZ (l:=l) (fun n i (_:Unit)=>eG l kr k0 n i) (fun k (x:Str) s K=>if !fD x then kr else K s) (fun _=>k0) (by omega) (fun n k x u hk hx'=> ?_) (fun n u=> ?_) ()).trans ?_
 ·simp only[eG]
  rw[dec_lt hk,bS,toNat_cast,hx',bc (by omega)];simp only[aE,ai,aV,if_true];rw[kx (hx x (List.mem_of_getElem? hx'))];simp only[ai]
 ·simp only[eG]
  rw[b6 (Nat.le_refl _)];rfl
 ·exact xv fD _ _ _ _ _
theorem uh {s:Str} (hl:s.length≤1073741823):lZ s=some (dX s):=by
 unfold lZ;have:=lr s;rw[kR (by omega),ai,EU _ _ (by omega) (fun x hx=>by have:=nX hx;omega),vT (by omega),ai];unfold dX;by_cases h1:(dG s).all fD=true
 ·rw[if_pos h1]
  by_cases h2:pA (dG s)=s
  ·rw[bK (by simp [h2]),if_pos ⟨h2,h1⟩]
  ·rw[aO (by simp [h2]),if_neg (fun h=>h2 h.1)]
 ·rw[if_neg h1,if_neg (fun h=>h1 h.2)]
theorem ml {s:Str} (hl:s.length≤1073741823):gw s=some (dI s):=by
 unfold gw dI;rw[kR (by omega),ai];by_cases h0:s= []
 ·subst h0;rfl
 ·have hp:0<s.length:=List.length_pos_iff.2 h0
  have e1:IntKind.i64.wrap ((List.length s:Int) - 1)=((s.length - 1:Nat):Int):=by rw[b9 (by omega) (by omega)];omega
  have e3:Int.toNat (0:Int)=0:=rfl;rw[aO (by simp;omega),aO (by decide),e3,e1,toNat_cast,List.getElem?_eq_getElem hp,ai];have ht:s.take 1=[s[0]]:=by
   rw[List.take_add_one,List.getElem?_eq_getElem hp];simp
  have hd:s.drop (s.length - 1)=[s[s.length - 1]]:=by
   rw[List.drop_eq_getElem_cons (by omega),List.drop_eq_nil_of_le (by omega)]
  have b1:((UInt8.toNat s[0]:Int)==(47:Int))=(s.take 1==[47]):=by
   rw[ht];have:=jH s[0] 47 (by omega);have e:((UInt8.toNat s[0]:Int)==(47:Int))=(s[0]==47):=this;rw[e,Bool.eq_iff_iff];simp
  have b2:((UInt8.toNat s[s.length - 1]:Int)==(47:Int))=(s.drop (s.length - 1)==[47]):=by
   rw[hd];have:=jH s[s.length - 1] 47 (by omega);have e:((UInt8.toNat s[s.length - 1]:Int)==(47:Int))=(s[s.length - 1]==47):=this;rw[e,Bool.eq_iff_iff];simp
  rw[b1];cases hn:dG s with
  |nil=>rw[bK (by simp)];simp
  |cons x l=>
   rw[aO (by simp),aO (by simp),List.getElem?_eq_getElem (by omega),ai,b2];simp
end Go.Eng
set_option linter.unusedSimpArgs false
set_option linter.unusedVariables false
namespace Go.Eng
open Go
structure WF (f:Fs):Prop where
 sm:SmF f
 sort:cz f.aa
 pos:∀x∈f.aa,1≤x.ino
 right:∀x∈f.aa,gd x.entries=true
 there:∀x∈f.aa,∀e∈x.entries,(aw e.ino f.aa).isSome=true
 root:(aw 1 f.aa).isSome=true
theorem qe {x:ae} (h:fy x=true):gd x.entries=true:=by
 unfold fy at h;simp only[Bool.or_eq_true,Bool.and_eq_true,decide_eq_true_eq] at h;rcases h with⟨_,h,_⟩ |⟨_,_,h⟩ |⟨_,h,_⟩
 ·have:x.entries= [] :=by simpa using h
  rw[this];rfl
 ·exact h
 ·have:x.entries= [] :=by simpa using h
  rw[this];rfl
theorem Sound.wf {f:Fs} (h:Sound f) (hs:SmF f):WF f:=by
 obtain⟨r,hr,_⟩:=h.root;exact⟨hs,h.sort,fun x hx=>(h.ino x hx).1,fun x hx=>qe (h.kind x hx),fun x hx e he=>by
  obtain⟨y,hy⟩:=h.there x hx e he;rw[hy];rfl,by rw[hr];rfl⟩
section
variable {f:Fs}
theorem WF.U6 (h:WF f) {x:ae} (hx:x∈f.aa):hC x.entries:=((gB _).1 (h.right x hx)).1
theorem WF.found (h:WF f) {n:Int} {x:ae} (hx:aw n f.aa=some x):x∈f.aa∧x.ino=n:=b8 hx
theorem WF.zero (h:WF f):aw 0 f.aa=none:=by
 cases hf:aw 0 f.aa with
 |none=>rfl
 |some x=>
  obtain⟨h1,h2⟩:=b8 hf;have:=h.pos x h1;omega
theorem WF.get (h:WF f) (n:Int):cZ f n=some (aM n f.aa,(aw n f.aa).isSome):=dE h.sort h.sm.len
theorem WF.nS (h:WF f) (n:Int):bB f n=some (aM n f.aa,(aw n f.aa).isSome):=cO h.sm.len
theorem WF.set (h:WF f) (x:ae):bh f x=some (f.set x):=dC h.sort h.sm.len
end
def cC (n:Str) (l:List Entry):Int:=match dR n l with|some e=>e.ino|none=>0
theorem n7 {l:List Entry} {n:Str} (hl:l.length≤1073741824):ji l n=some (cC n l,(dR n l).isSome):=by
 rw[wq hl];unfold cC;cases dR n l<;>rfl
theorem m7 {f:Fs} (h:WF f) {x:ae} (hx:x∈f.aa) (n:Str):cC n x.entries=0∨(aw (cC n x.entries) f.aa).isSome=true:=by
 unfold cC;cases hf:dR n x.entries with
 |none=>exact Or.inl rfl
 |some e=>exact Or.inr (h.there x hx e (b8 hf).1)
def fz:ax:=⟨0, [],0⟩
def eL:ax:=⟨0, [],1⟩
def dg (l:List ae):List Str→ax→ax×Int
 | [],s=>(s,0)
 |n::ns,s=>match aw s.ino l with
  |none=>(fz,1)
  |some d=>if d.kind=2 then dg l ns ⟨d.ino,n,cC n d.entries⟩ else (fz,3)
def atP (f:Fs) (p:Str):ax×Int:=if (dX p).2=true then dg f.aa (dX p).1 eL else (fz,9)
theorem EJ {p:Str}:(dX p).1.length≤p.length+1∧∀x∈(dX p).1,x.length≤p.length:=by
 unfold dX;split
 ·exact⟨by have:=lr p;simp only;omega,fun x hx=>nX hx⟩
 ·exact⟨by simp,by simp⟩
theorem drop_cons {α:Type} {l:List α} {k:Nat} {x:α} (h:l[k]? =some x):l.drop k=x::l.drop (k+1):=by
 obtain⟨hk,e⟩:=List.getElem?_eq_some_iff.1 h;rw[List.drop_eq_getElem_cons hk,e]
theorem gJ {f:Fs} {p:Str} (h:WF f) (hp:p.length≤8388608):iP f p=some (atP f p):=by
 unfold iP atP;rw[uh (by omega),ai];have hl:=EJ (p:=p);cases hb:(dX p).2
 ·rfl
 ·simp only[Bool.not_true,az,if_true]
  generalize (dX p).1=l at hl;refine kK (l:=l) (fun n i s=>iE l f (fun z15=>some ((⟨((⟨0, [],0⟩:ax).dir),((⟨0, [],0⟩:ax).name),((⟨0, [],0⟩:ax).ino)⟩:ax),z15)) (fun z16=>some (z16,(0:Int))) n i s) (fun k s=>dg f.aa (l.drop k) s=dg f.aa l eL∧(s.ino=0∨(aw s.ino f.aa).isSome=true)) (fun r=>r=some (dg f.aa l eL)) (by omega) (fun n k x s hk hx hi hr=> ?_) (fun n s hi=> ?_) eL ⟨by simp,Or.inr h.root⟩
  ·simp only[iE]
   obtain⟨hi,hz⟩:=hi;rw[drop_cons hx] at hi;simp only[dg] at hi;rw[dec_lt hk,aE,kE,bS,toNat_cast,hx,bc (by omega)];by_cases h0:s.ino=0
   ·rw[aO (by simp [h0]),←hi,h0,h.zero];rfl
   ·rw[bK (by simp [h0]),h.nS,ai]
    obtain⟨d,hf⟩:=Option.isSome_iff_exists.1 (hz.resolve_left h0);unfold aM;rw[hf] at hi⊢;simp only[aE,ai,Option.getD_some,mq] at hi⊢;by_cases hk2:d.kind=2
    ·rw[if_pos hk2] at hi
     have hd:=(h.found hf).1;rw[bK (by simp [hk2]),n7 (h.sm.db d hd),ai];exact hr _ ⟨hi,m7 h hd x⟩
    ·rw[if_neg hk2] at hi
     rw[aO (by simp [hk2]),←hi];rfl
  ·simp only[iE]
   obtain⟨hi,_⟩:=hi;rw[List.drop_length] at hi;simp only[dg] at hi;rw[b6 (Nat.le_refl _),az,←hi]
theorem xF {l:List ae}:∀{ns:List Str} {s t:ax},dg l ns s=(t,0)→(ns= [] ∧t=s)∨∃d n ns',ns=ns'++[n]∧aw t.dir l=some d∧d.ino=t.dir∧d.kind=2∧t.name=n∧t.ino=cC n d.entries
 | [],s,t,h=>by simp [dg] at h;exact Or.inl ⟨rfl,h.symm⟩
 |n::ns,s,t,h=>by
  right;simp only[dg] at h;cases hf:aw s.ino l with
  |none=>rw[hf] at h;simp at h
  |some d=>
   rw[hf] at h;simp only at h;by_cases hk:d.kind=2
   ·rw[if_pos hk] at h
    rcases xF h with⟨rfl,rfl⟩ |⟨d',n',ns',h1,h2,h3,h4,h5,h6⟩
    ·refine⟨d,n, [],rfl, ?_,rfl,hk,rfl,rfl⟩
     have:=(b8 hf).2;simp only;rw[this];exact hf
    ·exact⟨d',n',n::ns',by rw[h1];rfl,h2,h3,h4,h5,h6⟩
   ·rw[if_neg hk] at h;simp at h
theorem FD {f:Fs} (h:WF f) {ns:List Str} {t:ax} (hg:dg f.aa ns eL=(t,0)):t.ino=0∨(aw t.ino f.aa).isSome=true:=by
 rcases xF hg with⟨_,rfl⟩ |⟨d,n,ns',_,h2,_,_,_,h6⟩
 ·exact Or.inr h.root
 ·rw[h6];exact m7 h (b8 h2).1 n
def tn (f:Fs) (p:Str):ae×Int:=if (atP f p).2=0 then (match aw (atP f p).1.ino f.aa with|some x=>(x,0) |none=>(kj,1)) else (kj,(atP f p).2)
theorem LC {f:Fs} {p:Str} (h:WF f) (h0:(atP f p).2=0):(atP f p).1.ino=0∨(aw (atP f p).1.ino f.aa).isSome=true:=by
 unfold atP at h0⊢;split
 ·rename_i hb
  rw[if_pos hb] at h0;have:dg f.aa (dX p).1 eL=((dg f.aa (dX p).1 eL).1,0):=by rw[←h0]
  exact FD h this
 ·rename_i hb
  rw[if_neg hb] at h0;cases h0
theorem yW {f:Fs} {p:Str} (h:WF f) (hp:p.length≤8388608):rW f p=some (tn f p):=by
 unfold rW tn;rw[gJ h hp,ai,mq,kE];by_cases h0:(atP f p).2=0
 ·rw[bK (by simp [h0]),if_pos h0]
  by_cases hi:(atP f p).1.ino=0
  ·rw[aO (by simp [hi]),hi,h.zero];rfl
  ·rw[bK (by simp [hi]),h.nS,ai]
   obtain⟨x,hx⟩:=Option.isSome_iff_exists.1 ((LC h h0).resolve_left hi);unfold aM;rw[hx];rfl
 ·rw[aO (by simp [h0]),if_neg h0];rfl
def ae.sM (d:ae) (l:List Entry):ae:=⟨d.ino,d.kind,d.ar,d.data,d.parent,l⟩
theorem lI {f:Fs} {x:ae}:(f.set x).aa.length≤f.aa.length+1:=lx
end Go.Eng
set_option linter.unusedSimpArgs false
set_option linter.unusedVariables false
set_option linter.unusedSectionVars false
namespace Go.Eng
open Go
def kC {α:Type} (μ :α→Int) (l:List α):Int:=(l.map μ).sum
section
variable {α:Type} {μ :α→Int}
theorem dQ (μ :α→Int) (x:α) (l:List α):kC μ (x::l)= μ x+kC μ l:=by simp [kC]
theorem tF (h:∀x,0≤ μ x):∀l:List α,0≤kC μ l
 | [] =>by simp [kC]
 |x::l=>by rw[dQ];have:=h x;have:=tF h l;omega
theorem mz (h:∀x,0≤ μ x) {x:α}:∀{l:List α},x∈l→ μ x≤kC μ l
 |y::l,hx=>by
  rw[dQ];have h1:=h y;have h2:=tF h l;simp only[List.mem_cons] at hx;rcases hx with rfl|hx
  ·omega
  ·have:=mz h hx;omega
theorem u5 (h:∀x,0≤ μ x) {x y:α} (hne:x≠y):∀{l:List α},x∈l→y∈l→ μ x+ μ y≤kC μ l
 |z::l,hx,hy=>by
  rw[dQ];have h1:=h z;simp only[List.mem_cons] at hx hy;rcases hx with rfl|hx
  ·rcases hy with rfl|hy
   ·exact absurd rfl hne
   ·have:=mz h hy;omega
  ·rcases hy with rfl|hy
   ·have:=mz h hx;omega
   ·have:=u5 h hne hx hy;omega
theorem uX (h:∀x,0≤ μ x):∀{l:List α},0<kC μ l→∃x∈l,0< μ x
 | [],hp=>by simp [kC] at hp
 |z::l,hp=>by
  rw[dQ] at hp;by_cases hz:0< μ z
  ·exact⟨z,by simp,hz⟩
  ·obtain⟨x,hx,h2⟩:=uX h (l:=l) (by omega)
   exact⟨x,by simp [hx],h2⟩
theorem qp (l:List α):kC (fun _=>1) l=(l.length:Int):=by
 induction l with
 |nil=>rfl
 |cons x l ih=>rw[dQ,ih,List.length_cons];omega
end
def hZ {α:Type} (μ :α→Int):Option α→Int
 |some x=> μ x
 |none=>0
section
variable {α κ:Type} [DecidableEq κ] {lt:κ→κ→Bool} {key:α→κ}
theorem zF (μ :α→Int) (x:α):∀l:List α,kC μ (iF lt key x l)= μ x+kC μ l
 | [] =>by simp [iF,kC]
 |y::l=>by
  simp only[iF];split
  ·rw[dQ]
  ·rw[dQ,zF μ x l,dQ];omega
theorem Cm (k:κ) (y:α) (l:List α):dZ key k (y::l)=if key y=k then dZ key k l else y::dZ key k l:=by
 unfold dZ;rw[List.filter_cons];by_cases h:key y=k<;>simp [h]
theorem Bw (k:κ) (y:α) (l:List α):b5 key k (y::l)=if key y=k then some y else b5 key k l:=by
 unfold b5;rw[List.find?_cons];by_cases h:key y=k<;>simp [h]
theorem kG (O:LO lt) (μ :α→Int) {k:κ}:∀{l:List α},cU lt key l→kC μ (dZ key k l)+hZ μ (b5 key k l)=kC μ l
 | [],_=>by simp [dZ,b5,kC,hZ]
 |y::l,hs=>by
  unfold cU at hs;rw[List.pairwise_cons] at hs;rw[Cm,Bw,dQ];by_cases h:key y=k
  ·rw[if_pos h,if_pos h,Aq O (fun x hx=>by rw[←h];exact hs.1 x hx)]
   simp only[hZ];omega
  ·rw[if_neg h,if_neg h,dQ]
   have:=kG O μ (k:=k) hs.2;omega
theorem qy (O:LO lt) (μ :α→Int) {x:α} {l:List α} (hs:cU lt key l):kC μ (nt lt key x l)+hZ μ (b5 key (key x) l)=kC μ l+ μ x:=by
 unfold nt;rw[zF];have:=kG O μ (k:=key x) hs;omega
theorem J8 (O:LO lt) {x:α} {l:List α} (hs:cU lt key l):(nt lt key x l).length=if (b5 key (key x) l).isSome then l.length else l.length+1:=by
 have h:=qy O (fun _=>1) (x:=x) hs;rw[qp,qp] at h;cases hf:b5 key (key x) l with
 |none=>rw[hf] at h;simp only[hZ] at h;simp;omega
 |some y=>rw[hf] at h;simp only[hZ] at h;simp;omega
theorem Ga (O:LO lt) {k:κ} {l:List α} (hs:cU lt key l):(dZ key k l).length+(if (b5 key k l).isSome then 1 else 0)=l.length:=by
 have h:=kG O (fun _=>1) (k:=k) hs;rw[qp,qp] at h;cases hf:b5 key k l with
 |none=>rw[hf] at h;simp only[hZ] at h;simp;omega
 |some y=>rw[hf] at h;simp only[hZ] at h;simp;omega
end
def one (n:Int) (e:Entry):Int:=if e.ino=n then 1 else 0
def ec (n:Int) (l:List Entry):Int:=kC (one n) l
def fc (n:Int) (l:List ae):Int:=kC (fun x=>ec n x.entries) l
theorem yx (n:Int) (e:Entry):0≤one n e:=by unfold one;split<;>omega
theorem wV (n:Int) (l:List Entry):0≤ec n l:=tF (yx n) l
theorem Ge (n:Int) (l:List ae):0≤fc n l:=tF (μ :=fun x:ae=>ec n x.entries) (fun x=>wV n x.entries) l
theorem B0 {n:Int} {l:List Entry} {e:Entry} (h:e∈l) (he:e.ino=n):1≤ec n l:=by
 have:=mz (yx n) h;unfold one at this;rw[if_pos he] at this;exact this
theorem GK {n:Int} {l:List Entry} (h:0<ec n l):∃e∈l,e.ino=n:=by
 obtain⟨e,he,h2⟩:=uX (yx n) h;refine⟨e,he, ?_⟩;unfold one at h2;split at h2
 ·assumption
 ·omega
theorem u3 {n:Int} {l:List ae} {x:ae} {e:Entry} (hx:x∈l) (h:e∈x.entries) (he:e.ino=n):1≤fc n l:=by
 have h1:=mz (μ :=fun x:ae=>ec n x.entries) (fun x=>wV n x.entries) hx;have h2:=B0 h he;unfold fc;omega
theorem F2 {n:Int} {l:List ae} (h:0<fc n l):∃x∈l,∃e∈x.entries,e.ino=n:=by
 obtain⟨x,hx,h2⟩:=uX (μ :=fun x:ae=>ec n x.entries) (fun x=>wV n x.entries) h;exact⟨x,hx,GK h2⟩
theorem tv {n:Int} {l:List ae} (h:fc n l≤1) {x y:ae} {e e':Entry} (hx:x∈l) (he:e∈x.entries) (hn:e.ino=n) (hy:y∈l) (he':e'∈y.entries) (hn':e'.ino=n):x=y∧e=e':=by
 have hxy:x=y:=by
  rcases Classical.em (x=y) with h'|h'
  ·exact h'
  ·have h1:=u5 (μ :=fun x:ae=>ec n x.entries) (fun x=>wV n x.entries) h' hx hy
   have h2:=B0 he hn;have h3:=B0 he' hn';unfold fc at h;omega
 subst hxy;refine⟨rfl, ?_⟩;rcases Classical.em (e=e') with h'|h'
 ·exact h'
 ·have h1:=u5 (yx n) h' he he'
  unfold one at h1;rw[if_pos hn,if_pos hn'] at h1;have h2:=mz (μ :=fun x:ae=>ec n x.entries) (fun x=>wV n x.entries) hx;unfold fc at h;unfold ec at h h2;unfold one at h h2;omega
theorem yS (n:Int) (l:List Entry):ec n l=(mb n l:Int):=by
 induction l with
 |nil=>rfl
 |cons e l ih=>
  unfold ec at ih⊢;rw[dQ,ih,D9];unfold one;split<;>omega
theorem w_ (n:Int):∀(l:List ae) (s:Nat×Int),((ff n l s).1:Int)=s.1+fc n l
 | [],s=>by simp [ff,fc,kC]
 |x::l,s=>by
  simp only[ff];rw[w_ n l];unfold fc;rw[dQ,yS];simp only;omega
theorem wN (f:Fs) (n:Int):((dF f n).1:Int)=fc n f.aa:=by
 unfold dF;rw[w_];simp
theorem rX (n:Int):∀(l:List ae) (s:Nat×Int) (k:Int),(∀x∈l,∀e∈x.entries,e.ino=n→x.ino=k)→(ff n l s).2=if fc n l=0 then s.2 else k
 | [],s,k,_=>by simp [ff,fc,kC]
 |x::l,s,k,h=>by
  simp only[ff];rw[rX n l _ k (fun y hy=>h y (by simp [hy]))];have h1:=wV n x.entries;have h2:=Ge n l;have h3:fc n (x::l)=ec n x.entries+fc n l:=by unfold fc;rw[dQ]
  rw[h3];by_cases h0:mb n x.entries=0
  ·have:ec n x.entries=0:=by rw[yS,h0];rfl
   simp only[h0,if_true,this,Int.zero_add]
  ·have h4:0<ec n x.entries:=by rw[yS];omega
   obtain⟨e,he,hn⟩:=GK h4;have h5:=h x (by simp) e he hn;have h6:¬ec n x.entries+fc n l=0:=by omega
   simp only[h0,if_false,h6,h5];split<;>rfl
theorem eh {l:List ae} {x:ae} (hs:cz l) (hx:x∈l):aw x.ino l=some x:=kI loI hs hx
theorem Cd {l:List ae} {x:ae} {k:Int} (hs:cz l) (hx:x∈l) (hk:x.ino=k):aw k l=some x:=hk▸kI loI hs hx
theorem aW {l:List ae} {k:Int} {x:ae} (h:aw k l=some x):x∈l∧x.ino=k:=b8 h
inductive Reach (l:List ae):Int→Prop where
 |root:Reach l 1
 |step {k:Int} {x:ae} {e:Entry}:Reach l k→aw k l=some x→e∈x.entries→Reach l e.ino
theorem bx {k:Int} {l:List ae} {x:ae} (h:aw k l=some x):aM k l=x:=by unfold aM;rw[h];rfl
theorem dN {k:Int} {l:List ae} (h:aw k l=none):aM k l=kj:=by unfold aM;rw[h];rfl
theorem Reach.get {l:List ae} {k:Int} {e:Entry} (h:Reach l k) (he:e∈(aM k l).entries):Reach l e.ino:=by
 cases hf:aw k l with
 |none=>rw[dN hf] at he;simp [kj] at he
 |some x=>rw[bx hf] at he;exact .step h hf he
theorem kf:∀(es:List Entry) (s:List Int) (n:Int),n∈es.foldl visit s↔n∈s∨∃e∈es,e.ino=n
 | [],s,n=>by simp
 |e::es,s,n=>by
  simp only[List.foldl_cons];rw[kf es (visit s e) n];have:n∈visit s e↔n∈s∨e.ino=n:=by
   unfold visit;split
   ·rename_i h
    constructor
    ·exact Or.inl
    ·rintro(h'|rfl)
     ·exact h'
     ·exact h
   ·simp [eq_comm]
  rw[this];simp only[List.mem_cons];constructor
  ·rintro((h|h) |⟨e',h1,h2⟩)
   ·exact Or.inl h
   ·exact Or.inr ⟨e,Or.inl rfl,h⟩
   ·exact Or.inr ⟨e',Or.inr h1,h2⟩
  ·rintro(h|⟨e',rfl|h1,h2⟩)
   ·exact Or.inl (Or.inl h)
   ·exact Or.inl (Or.inr h2)
   ·exact Or.inr ⟨e',h1,h2⟩
theorem qR (l:List ae):∀(n i:Nat) (s:List Int),(∀k∈s,Reach l k)→∀k∈ik l n i s,Reach l k
 |0,_,s,h=>h
 |n+1,i,s,h=>by
  simp only[ik];cases hi:s[i]? with
  |none=>exact h
  |some k=>
   refine qR l n (i+1) _ fun m hm=> ?_
   unfold mo at hm;rw[kf] at hm;rcases hm with hm|⟨e,he,rfl⟩
   ·exact h m hm
   ·exact(h k (List.mem_of_getElem? hi)).get he
theorem pj (l:List ae):∀(n i:Nat) (s:List Int),nI l s→(dt l).length+1 - i≤n→i≤s.length→(∀j k,j<i→s[j]? =some k→∀e∈(aM k l).entries,e.ino∈s)→
 (∀k∈s,k∈ik l n i s)∧∀k∈ik l n i s,∀e∈(aM k l).entries,e.ino∈ik l n i s
 |0,i,s,hv,hn,hi,h=>by
  have:=hv.len;omega
 |n+1,i,s,hv,hn,hi,h=>by
  simp only[ik];cases hk:s[i]? with
  |none=>
   refine⟨fun k hk=>hk,fun k hk2 e he=> ?_⟩;obtain⟨j,hj⟩:=List.mem_iff_getElem?.1 hk2;have h1:j<s.length:=(List.getElem?_eq_some_iff.1 hj).1;have h2:s.length≤i:=List.getElem?_eq_none_iff.1 hk;exact h j k (by omega) hj e he
  |some k=>
   have hlt:i<s.length:=(List.getElem?_eq_some_iff.1 hk).1;obtain⟨t,ht⟩:=j8 (aM k l).entries s;have h3:=pj l n (i+1) (mo (aM k l) s) (ri hv) (by omega) (by unfold mo;rw[ht];simp;omega) (by
    intro j m hj hm e he;unfold mo at hm⊢;rw[kf];rw[ht,List.getElem?_append_left (by omega)] at hm;by_cases hji:j=i
    ·subst hji
     rw[hk] at hm;cases hm;exact Or.inr ⟨e,he,rfl⟩
    ·exact Or.inl (h j m (by omega) hm e he))
   refine⟨fun m hm=>h3.1 m ?_,h3.2⟩;unfold mo;rw[ht];simp [hm]
theorem uG {l:List ae} {n:Int}:n∈yU l↔Reach l n:=by
 unfold yU;constructor
 ·exact qR l _ _ _ (fun k hk=>by simp at hk;subst hk;exact .root) n
 ·intro h
  have hc:=pj l ((dt l).length+1) 0 [1] (Bx l) (by omega) (by simp) (fun j k hj=>by omega);induction h with
  |root=>exact hc.1 1 (by simp)
  |step h hf he ih=>exact hc.2 _ ih _ (by rw[bx hf];exact he)
theorem qs (l:List ae):∀(n i:Nat) (s:List Int),nI l s→(ik l n i s).Nodup
 |0,_,s,h=>h.nodup
 |n+1,i,s,h=>by
  simp only[ik];cases hi:s[i]? with
  |none=>exact h.nodup
  |some k=>exact qs l n (i+1) _ (ri h)
theorem uq (l:List ae):(yU l).Nodup:=qs l _ _ _ (Bx l)
theorem BX {l:List ae} (h:cz l):(l.map ae.ino).Nodup:=by
 unfold List.Nodup;rw[List.pairwise_map];unfold cz cU at h;exact h.imp fun{a b} hab e=>by simp only[ltI,decide_eq_true_eq] at hab;omega
theorem CK {a b:List Int} (ha:a.Nodup) (hs:∀x∈a,x∈b) (hl:b.length≤a.length):∀x∈b,x∈a:=by
 intro x hx;rcases Classical.em (x∈a) with h|h
 ·exact h
 ·have:=oU (m:=b.erase x) ha (fun y hy=>(List.mem_erase_of_ne (by intro e;subst e;exact h hy)).2 (hs y hy))
  rw[List.length_erase_of_mem hx] at this;have:=List.length_pos_of_mem hx;omega
structure Tree (f:Fs):Prop where
 ui:1≤f.aq∧f.aq≤1073741824
 um:0≤f.au∧f.au≤1073741824
 next:f.next≤1099511627776
 ino:∀x∈f.aa,1≤x.ino∧x.ino<f.next
 sort:cz f.aa
 root:∃r,aw 1 f.aa=some r∧r.kind=2∧r.parent=1
 kind:∀x∈f.aa,fy x=true
 there:∀x∈f.aa,∀e∈x.entries,∃y,aw e.ino f.aa=some y
 ar:∀x∈f.aa,x.ar=fc x.ino f.aa
 se:fc 1 f.aa=0
 Eh:∀x∈f.aa,x.kind=2→fc x.ino f.aa≤1
 par:∀x∈f.aa,x.kind=2→∀d∈f.aa,∀e∈d.entries,e.ino=x.ino→x.parent=d.ino
 led:∀x∈f.aa,Reach f.aa x.ino
 fits:du f 0 0=true
theorem Reach.there {f:Fs} (ht:∀x∈f.aa,∀e∈x.entries,∃y,aw e.ino f.aa=some y) (hr:∃r,aw 1 f.aa=some r) {k:Int} (h:Reach f.aa k):∃y,aw k f.aa=some y:=by
 cases h with
 |root=>exact hr
 |step h hf he=>exact ht _ (b8 hf).1 _ he
theorem Reach.named {l:List ae} {k:Int} (h:Reach l k) (h1:k≠1):∃x∈l,∃e∈x.entries,e.ino=k:=by
 cases h with
 |root=>exact absurd rfl h1
 |step h hf he=>exact⟨_,(b8 hf).1,_,he,rfl⟩
theorem DA {f:Fs} (hs:cz f.aa) (ht:∀x∈f.aa,∀e∈x.entries,∃y,aw e.ino f.aa=some y) (hr:∃r,aw 1 f.aa=some r):(yU f.aa).length=f.aa.length↔∀x∈f.aa,Reach f.aa x.ino:=by
 have hsub:∀k∈yU f.aa,k∈f.aa.map ae.ino:=fun k hk=>by
  obtain⟨y,hy⟩:=Reach.there ht hr (uG.1 hk);obtain⟨h1,h2⟩:=b8 hy;exact List.mem_map.2 ⟨y,h1,h2⟩
 constructor
 ·intro h x hx
  exact uG.1 (CK (uq _) hsub (by rw[List.length_map];omega) x.ino (List.mem_map.2 ⟨x,hx,rfl⟩))
 ·intro h
  have h1:=oU (uq f.aa) hsub;have h2:=oU (m:=yU f.aa) (BX hs) (fun k hk=>by
   obtain⟨x,hx,rfl⟩:=List.mem_map.1 hk;exact uG.2 (h x hx))
  rw[List.length_map] at h1 h2;omega
theorem Bc (f:Fs):Sound f↔Tree f:=by
 constructor
 ·intro h
  obtain⟨r,hr,hk⟩:=h.root;have hrm:=b8 hr;have hlink:∀x∈f.aa,x.ar=fc x.ino f.aa∧(x.ino=1→fc 1 f.aa=0∧x.parent=1)∧(x.ino≠1→x.kind=2→fc x.ino f.aa=1∧x.parent=(dF f x.ino).2):=by
   intro x hx;have hl:=h.link x hx;unfold wP at hl;simp only[Bool.and_eq_true,decide_eq_true_eq] at hl;obtain⟨h1,h2⟩:=hl;have h3:=wN f x.ino;refine⟨by omega,fun e=> ?_,fun e e2=> ?_⟩
   ·rw[if_pos e] at h2
    simp only[Bool.and_eq_true,decide_eq_true_eq] at h2;rw[e] at h3 h2;exact⟨by omega,h2.2⟩
   ·rw[if_neg e] at h2
    simp only[Bool.and_eq_true,decide_eq_true_eq,e2,if_true] at h2;exact⟨by omega,h2.2.2⟩
  have hrl:=hlink r hrm.1;have hr1:r.ino=1:=hrm.2;have hr0:=hrl.2.1 hr1;refine⟨h.ui,h.um,h.next,h.ino,h.sort,⟨r,hr,hk,hr0.2⟩,h.kind,h.there,fun x hx=>(hlink x hx).1,hr0.1,fun x hx hk2=> ?_,fun x hx hk2 d hd e he hn=> ?_,(DA h.sort h.there ⟨r,hr⟩).1 h.led,h.fits⟩
  ·by_cases h1:x.ino=1
   ·rw[h1,hr0.1];omega
   ·rw[((hlink x hx).2.2 h1 hk2).1];omega
  ·by_cases h1:x.ino=1
   ·have:=u3 hd he hn
    rw[h1,hr0.1] at this;omega
   ·obtain⟨h2,h3⟩:=(hlink x hx).2.2 h1 hk2
    rw[h3];unfold dF;rw[rX x.ino f.aa (0,0) d.ino (fun y hy e' he' hn'=>by rw[(tv (by omega) hy he' hn' hd he hn).1]),if_neg (by omega)]
 ·intro h
  obtain⟨r,hr,hk,hp⟩:=h.root;refine⟨h.ui,h.um,h.next,h.ino,h.sort,⟨r,hr,hk⟩,h.kind,h.there,fun x hx=> ?_,(DA h.sort h.there ⟨r,hr⟩).2 h.led,h.fits⟩;have h3:=wN f x.ino;have h4:=h.ar x hx;unfold wP;simp only[Bool.and_eq_true,decide_eq_true_eq];refine⟨by omega, ?_⟩;by_cases h1:x.ino=1
  ·have h5:=h.se
   have:x=r:=by
    have:=eh h.sort hx;rw[h1,hr] at this;exact(Option.some.inj this).symm
   rw[if_pos h1];simp only[Bool.and_eq_true,decide_eq_true_eq];rw[h1] at h3⊢;exact⟨by omega,by rw[this];exact hp⟩
  ·rw[if_neg h1]
   obtain⟨d,hd,e,he,hn⟩:=(h.led x hx).named h1;have h5:=u3 hd he hn;simp only[Bool.and_eq_true,decide_eq_true_eq];refine⟨by omega, ?_⟩;by_cases hk2:x.kind=2
   ·rw[if_pos hk2]
    simp only[Bool.and_eq_true,decide_eq_true_eq];have h6:=h.Eh x hx hk2;refine⟨by omega, ?_⟩;unfold dF;rw[rX x.ino f.aa (0,0) d.ino (fun y hy e' he' hn'=>by rw[(tv h6 hy he' hn' hd he hn).1]),if_neg (by omega)];exact h.par x hx hk2 d hd e he hn
   ·rw[if_neg hk2]
end Go.Eng
set_option linter.unusedVariables false
set_option maxRecDepth 100000
namespace Go.Eng
open Go
end Go.Eng
set_option linter.unusedSimpArgs false
set_option linter.unusedVariables false
set_option linter.unusedSectionVars false
namespace Go.Eng
open Go
inductive Way (l:List ae) (i:Int):Int→Nat→Prop where
 |here:Way l i i 0
 |step {k:Int} {n:Nat} {x:ae} {e:Entry}:Way l i k n→aw k l=some x→e∈x.entries→Way l i e.ino (n+1)
theorem Reach.way {l:List ae} {k:Int} (h:Reach l k):∃n,Way l 1 k n:=by
 induction h with
 |root=>exact⟨0, .here⟩
 |step _ hf he ih=>obtain⟨n,hn⟩:=ih;exact⟨n+1, .step hn hf he⟩
theorem Way.trans {l:List ae} {i j k:Int} {n m:Nat} (h1:Way l i j n) (h2:Way l j k m):Way l i k (n+m):=by
 induction h2 with
 |here=>exact h1
 |step _ hf he ih=>exact .step ih hf he
theorem Way.first {l:List ae} {i k:Int} {n:Nat} {x:ae} {e:Entry} (hf:aw i l=some x) (he:e∈x.entries) (h:Way l e.ino k n):Way l i k (n+1):=by
 have:=Way.trans (.step .here hf he) h;rwa[Nat.add_comm] at this
theorem Way.head {l:List ae} {i k:Int} {n:Nat} (h:Way l i k n):(n=0∧k=i)∨∃m x e,n=m+1∧aw i l=some x∧e∈x.entries∧Way l e.ino k m:=by
 induction h with
 |here=>exact Or.inl ⟨rfl,rfl⟩
 |step h hf he ih=>
  rcases ih with⟨rfl,rfl⟩ |⟨m,y,e',rfl,h1,h2,h3⟩
  ·exact Or.inr ⟨0,_,_,rfl,hf,he, .here⟩
  ·exact Or.inr ⟨m+1,y,e',rfl,h1,h2, .step h3 hf he⟩
section
variable {f:Fs}
theorem wH {x:ae} (h:fy x=true) {e:Entry} (he:e∈x.entries):x.kind=2:=by
 unfold fy at h;simp only[Bool.or_eq_true,Bool.and_eq_true,decide_eq_true_eq] at h;rcases h with⟨_,h,_⟩ |⟨h,_⟩ |⟨_,h,_⟩
 ·have:x.entries= [] :=by simpa using h
  rw[this] at he;cases he
 ·exact h
 ·have:x.entries= [] :=by simpa using h
  rw[this] at he;cases he
theorem Tree.db (h:Tree f) {k:Int} {x:ae} {e:Entry} (hf:aw k f.aa=some x) (he:e∈x.entries):x.kind=2:=wH (h.kind x (b8 hf).1) he
theorem Tree.up (h:Tree f) {k k':Int} {x x' y:ae} {e e':Entry} (hf:aw k f.aa=some x) (he:e∈x.entries) (hf':aw k' f.aa=some x') (he':e'∈x'.entries) (hn:e.ino=e'.ino) (hy:aw e.ino f.aa=some y) (hd:y.kind=2):k=k'∧x=x'∧e=e':=by
 obtain⟨y1,y2⟩:=b8 hy;obtain⟨x1,x2⟩:=b8 hf;obtain⟨x1',x2'⟩:=b8 hf';have h1:=tv (h.Eh y y1 hd) x1 he y2.symm x1' he' (hn▸y2.symm);refine⟨?_,h1.1,h1.2⟩;rw[←x2,←x2',h1.1]
theorem Tree.wX (h:Tree f) {k:Int} {x:ae} {e:Entry} (hf:aw k f.aa=some x) (he:e∈x.entries):e.ino≠1:=by
 intro h1;have:=u3 (b8 hf).1 he h1;rw[h.se] at this;omega
theorem Tree.deep (h:Tree f) {k:Int} {n:Nat} (hw:Way f.aa 1 k n):∀{m:Nat} {y:ae},aw k f.aa=some y→y.kind=2→Way f.aa 1 k m→n=m:=by
 induction hw with
 |here=>
  intro m y _ _ hm;generalize hk:(1:Int)=k at hm;cases hm with
  |here=>rfl
  |step h1 hf he=>exact absurd hk.symm (h.wX hf he)
 |step hw hf he ih=>
  rename_i k' n' x e;intro m y hy hd hm;generalize hk:e.ino=k at hm;cases hm with
  |here=>exact absurd hk (h.wX hf he)
  |step h1 hf' he'=>
   obtain⟨rfl,rfl,rfl⟩:=h.up hf he hf' he' hk hy hd;rw[ih hf (h.db hf he) h1]
theorem Tree.Ii (h:Tree f) {i:Int} {a n:Nat} {x:ae} {e:Entry} (hi:Way f.aa 1 i a) (hx:aw i f.aa=some x) (he:e∈x.entries):¬Way f.aa e.ino i n:=fun w=>by
 have:=h.deep hi hx (h.db hx he) (hi.trans (w.first hx he));omega
end
def QU (p n:Str):Str:=if p=[47] then p++n else (p++[47])++n
def H5 {α:Type} (l m:List α):Prop:=∃a b s,l=a++b∧m=a++s::b
theorem H5.len {α:Type} {l m:List α} (h:H5 l m):m.length=l.length+1:=by
 obtain⟨a,b,s,rfl,rfl⟩:=h;simp;omega
theorem H5.sub {α:Type} {l m:List α} (h:H5 l m):List.Sublist l m:=by
 obtain⟨a,b,s,rfl,rfl⟩:=h;exact(List.Sublist.refl a).append (List.sublist_cons_self s b)
structure Lil (f:Fs):Prop where
 len:f.aa.length≤10000
 db:∀x∈f.aa,x.entries.length≤10000
theorem Lil.G0 {f:Fs} (h:m9 f=true):Lil f:=by
 obtain⟨h1,h2⟩:=oN h;exact⟨by omega,fun x hx=>by have:=(h2 x hx).2.1;omega⟩
theorem tZ {α:Type} {μ :α→Int} {c:Int} {l:List α} (h:∀x∈l, μ x≤c):kC μ l≤l.length*c:=by
 induction l with
 |nil=>simp [kC]
 |cons x l ih=>
  rw[dQ,List.length_cons];have h1:=ih (fun y hy=>h y (by simp [hy]));have h2:=h x (by simp);have:((l.length+1:Nat):Int)*c=(l.length:Int)*c+c:=by
   rw[Int.natCast_add,Int.add_mul];simp
  omega
end Go.Eng
set_option linter.unusedVariables false
set_option maxRecDepth 100000
namespace Go.Eng
open Go
end Go.Eng
set_option linter.unusedSimpArgs false
set_option linter.unusedVariables false
namespace Go.Eng
open Go
structure InF (f:Fs):Prop where
 len:f.aa.length≤1073741824
 db:∀x∈f.aa,x.entries.length≤1073741824
end Go.Eng
set_option linter.unusedSimpArgs false
set_option linter.unusedVariables false
set_option linter.unusedSectionVars false
namespace Go.Eng
open Go
def Nm (x:Str):Prop:=x≠ [] ∧∀c∈x,c≠47
theorem Jx {x:Str} (h:fD x=true):Nm x:=by
 unfold fD at h;simp only[Bool.and_eq_true,Bool.not_eq_true',beq_eq_false_iff_ne] at h;obtain⟨h1,_,h3,_⟩:=h;refine⟨h1,fun c hc e=> ?_⟩;rw[List.any_eq_false] at h3;have:=h3 c hc;unfold kc at this;rw[e] at this;exact this rfl
theorem mI {x:Str} (h:fD x=true):x.length≤255:=by
 unfold fD at h;simp only[Bool.and_eq_true,decide_eq_true_eq] at h;exact h.2.1
theorem LJ (ns:List Str) (b:Str):∃r,(ns.flatMap fun x=>47::x)++47::b=47::r:=by
 cases ns with
 |nil=>exact⟨b,rfl⟩
 |cons x ns=>exact⟨x++((ns.flatMap fun x=>47::x)++47::b),by simp⟩
theorem re (b:Str):splitN [] (47::b)=splitN [] b:=by simp [splitN]
theorem sL (b:Str):∀ns:List Str,(∀x∈ns,Nm x)→splitN [] ((ns.flatMap fun x=>47::x)++47::b)=(ns++(splitN [] b).1,(splitN [] b).2)
 | [],_=>by simp [re]
 |x::ns,h=>by
  have hx:=h x (by simp);obtain⟨r,hr⟩:=LJ ns b;have ih:=sL b ns (fun y hy=>h y (by simp [hy]));rw[hr,re] at ih;have e:((x::ns).flatMap fun x=>47::x)++47::b=47::(x++47::r):=by
   rw[List.flatMap_cons,List.append_assoc,hr];simp
  rw[e,re,ux x [] r hx.2,ih,List.nil_append,if_neg hx.1];simp
theorem zb (b:Str) {ns:List Str} (h:∀x∈ns,Nm x):dG ((ns.flatMap fun x=>47::x)++47::b)=ns++dG b:=by
 unfold dG;rw[sL b ns h];unfold fJ;simp only;split<;>simp
theorem A5 {x:Str} (h:Nm x):dG x=[x]:=by
 unfold dG;rw[sJ x [] h.2];unfold fJ;rw[List.nil_append,if_neg h.1];rfl
theorem zh {ns:List Str} (h:∀x∈ns,Nm x):dG (pA ns)=ns:=by
 unfold pA;rcases List.eq_nil_or_concat ns with rfl|⟨ns',x,rfl⟩
 ·rfl
 ·rw[List.concat_eq_append] at h⊢
  rw[if_neg (by simp),List.flatMap_append];have e:([x].flatMap fun x=>(47:UInt8)::x)=47::x:=by simp
  rw[e,zb x (fun y hy=>h y (by simp [hy])),A5 (h x (by simp))]
theorem zB {ns:List Str} (h:∀x∈ns,fD x=true):dX (pA ns)=(ns,true):=by
 have:=zh (fun x hx=>Jx (h x hx));unfold dX;rw[this,if_pos ⟨rfl,by rw[List.all_eq_true];exact h⟩]
theorem Ac {p:Str} (h:(dX p).2=true):pA (dX p).1=p∧(∀x∈(dX p).1,fD x=true)∧(dX p).1=dG p:=by
 unfold dX at h⊢;split
 ·rename_i h1
  refine⟨h1.1, ?_,rfl⟩;have:=h1.2;rw[List.all_eq_true] at this;exact this
 ·rename_i h1
  rw[if_neg h1] at h;cases h
theorem jG {l:List ae} {n:Str} {ns:List Str} {s:ax} (hf:aw s.ino l=none):dg l (n::ns) s=(fz,1):=by
 simp only[dg];rw[hf]
theorem fK {l:List ae} {n:Str} {ns:List Str} {s:ax} {d:ae} (hf:aw s.ino l=some d) (hk:d.kind=2):dg l (n::ns) s=dg l ns ⟨d.ino,n,cC n d.entries⟩:=by
 simp only[dg];rw[hf];simp only;rw[if_pos hk]
theorem jm {l:List ae} {n:Str} {ns:List Str} {s:ax} {d:ae} (hf:aw s.ino l=some d) (hk:d.kind≠2):dg l (n::ns) s=(fz,3):=by
 simp only[dg];rw[hf];simp only;rw[if_neg hk]
theorem uI (l:List ae):∀(a b:List Str) (s:ax),dg l (a++b) s=if (dg l a s).2=0 then dg l b (dg l a s).1 else (fz,(dg l a s).2)
 | [],b,s=>by simp [dg]
 |n::a,b,s=>by
  rw[List.cons_append];cases hf:aw s.ino l with
  |none=>rw[jG hf,jG hf];rfl
  |some d=>
   by_cases hk:d.kind=2
   ·rw[fK hf hk,fK hf hk];exact uI l a b _
   ·rw[jm hf hk,jm hf hk];rfl
theorem wW {x:ae} {n:Str} (h:cC n x.entries≠0):∃e∈x.entries,e.name=n∧e.ino=cC n x.entries∧dR n x.entries=some e:=by
 unfold cC at h⊢;cases hf:dR n x.entries with
 |none=>rw[hf] at h;exact absurd rfl h
 |some e=>exact⟨e,(b8 hf).1,(b8 hf).2,rfl,rfl⟩
structure OnW (f:Fs) (m:Nat) (i:Int) (p:Str) (s:Seen) (ns:List Str):Prop where
 may:∀n∈ns,fD n=true
 len:ns.length≤m
 path:s.path=ns.foldl QU p
 there:∃x,aw s.ino f.aa=some x
 go:∀sp:ax,sp.ino=i→∃t,dg f.aa ns sp=(t,0)∧t.ino=s.ino∧(ns= [] →t=sp)
 way:Way f.aa i s.ino ns.length
structure AtR (f:Fs) (s:Seen) (ns:List Str) (x:ae) (t:ax):Prop where
 may:∀n∈ns,fD n=true
 len:ns.length≤f.aa.length+1
 path:s.path=pA ns
 there:aw s.ino f.aa=some x
 go:dg f.aa ns eL=(t,0)
 ino:t.ino=s.ino
 nil:ns= [] →t=eL
theorem AtR.atP {f:Fs} {s:Seen} {ns:List Str} {x:ae} {t:ax} (h:AtR f s ns x t):atP f s.path=(t,0):=by
 unfold Go.Eng.atP;rw[h.path,zB h.may,if_pos rfl,h.go]
theorem AtR.tn {f:Fs} {s:Seen} {ns:List Str} {x:ae} {t:ax} (h:AtR f s ns x t):tn f s.path=(x,0):=by
 unfold Go.Eng.tn;rw[h.atP,if_pos rfl,h.ino,h.there]
instance Xq:DecidableEq Seen:=fun a b=>
 if h:a.path=b.path∧a.ino=b.ino then isTrue (by cases a;cases b;simp at h;simp [h]) else isFalse (by intro e;subst e;exact h ⟨rfl,rfl⟩)
end Go.Eng
set_option linter.unusedSimpArgs false
set_option linter.unusedVariables false
set_option linter.unusedSectionVars false
namespace Go.Eng
open Go
theorem Dv {α:Type} (a:α) (l:List α):((List.length (a::l):Int)==(0:Int))=false:=by
 rw[beq_eq_false_iff_ne];simp only[List.length_cons];omega
structure WS (f:Fs):Prop where
 wf:WF f
 par:∀x∈f.aa,x.kind=2→∃y,aw x.parent f.aa=some y∧y.kind=2
 sym:∀x∈f.aa,x.kind=3→x.data.length≤4095
 LV:∃r,aw 1 f.aa=some r∧r.kind=2
theorem Hj {x:ae} (h:fy x=true) (hk:x.kind=3):x.data.length≤4095∧1≤x.data.length:=by
 rw[zd hk] at h;simp only[Bool.and_eq_true,decide_eq_true_eq] at h;exact⟨h.2.2.1.2,h.2.2.1.1⟩
theorem Tree.ws {f:Fs} (h:Tree f) (hw:WF f):WS f where
 wf:=hw
 par:=fun x hx hk=>by
  obtain⟨r,hr,hk',hp⟩:=h.root;by_cases h1:x.ino=1
  ·have:=Cd h.sort hx h1
   rw[hr] at this;cases this;exact⟨_,by rw[hp];exact hr,hk'⟩
  ·obtain⟨d,hd,e,he,hn⟩:=(h.led x hx).named h1
   have:=h.par x hx hk d hd e he hn;exact⟨d,by rw[this];exact eh h.sort hd,wH (h.kind d hd) he⟩
 sym:=fun x hx hk=>(Hj (h.kind x hx) hk).1
 LV:=by obtain⟨r,hr,hk,_⟩:=h.root;exact⟨r,hr,hk⟩
def rv (l:List ae) (dir:Bool) (s:ax):ax×Int:=match aw s.ino l with
 |some x=>if dir=true∧x.kind≠2 then (fz,3) else (s,0)
 |none=>(s,0)
def cX (l:List ae) (fol:Bool) (lnk:Bool→ae→ae→List Str→ax×Int) (dir:Bool):List Str→ax→ax×Int
 | [],s=>rv l dir s
 |n::rest,s=>match aw s.ino l with
  |none=>(fz,1)
  |some d=>if d.kind=2 then (if n=[46] then cX l fol lnk dir rest ⟨0, [],d.ino⟩ else if n=[46,46] then cX l fol lnk dir rest ⟨0, [],d.parent⟩
   else if (aM (cC n d.entries) l).kind=3∧(rest≠ [] ∨fol=true∨dir=true) then lnk dir (aM (cC n d.entries) l) d rest
   else cX l fol lnk dir rest ⟨d.ino,n,cC n d.entries⟩) else (fz,3)
def onK (l:List ae) (fol:Bool):Nat→Bool→List Str→ax→ax×Int
 |0=>cX l fol fun _ _ _ _=>(fz,6)
 |k+1=>cX l fol fun dir x d rest=>if nN x.data=true then (fz,7) else onK l fol k (dir||((dI x.data).gf&&rest.isEmpty)) ((dI x.data).names++rest) ⟨0, [],if (dI x.data).abs=true then 1 else d.ino⟩
def pg (f:Fs) (base:Str):Int×Int:=if (tn f base).2=0 then (if (tn f base).1.kind=2 then ((tn f base).1.ino,0) else (0,3)) else (0,(tn f base).2)
def jc (f:Fs) (base p:Str) (fol:Bool):ax×Int:=
 if p= [] then (fz,1) else if nN p=true then (fz,7) else
 if (dI p).abs=true then onK f.aa fol 40 (dI p).gf (dI p).names eL else
 if (pg f base).2=0 then onK f.aa fol 40 (dI p).gf (dI p).names ⟨0, [],(pg f base).1⟩ else (fz,(pg f base).2)
def Ij (l:List ae) (fol:Bool):Nat→Bool→ae→ae→List Str→ax×Int
 |0=>fun _ _ _ _=>(fz,6)
 |k+1=>fun dir x d rest=>if nN x.data=true then (fz,7) else onK l fol k (dir||((dI x.data).gf&&rest.isEmpty)) ((dI x.data).names++rest) ⟨0, [],if (dI x.data).abs=true then 1 else d.ino⟩
theorem F0 (l:List ae) (fol:Bool) (k:Nat):onK l fol k=cX l fol (Ij l fol k):=by cases k<;>rfl
section
variable {l:List ae} {fol dir:Bool} {lnk:Bool→ae→ae→List Str→ax×Int} {n:Str} {rest:List Str} {s:ax} {d:ae}
theorem lE (hf:aw s.ino l=none):cX l fol lnk dir (n::rest) s=(fz,1):=by simp only[cX];rw[hf]
theorem oc (hf:aw s.ino l=some d) (hk:d.kind≠2):cX l fol lnk dir (n::rest) s=(fz,3):=by simp only[cX];rw[hf];simp only;rw[if_neg hk]
theorem nu (hf:aw s.ino l=some d) (hk:d.kind=2) (hn:n=[46]):cX l fol lnk dir (n::rest) s=cX l fol lnk dir rest ⟨0, [],d.ino⟩:=by simp only[cX];rw[hf];simp only;rw[if_pos hk,if_pos hn]
theorem oX (hf:aw s.ino l=some d) (hk:d.kind=2) (hn:n=[46,46]):cX l fol lnk dir (n::rest) s=cX l fol lnk dir rest ⟨0, [],d.parent⟩:=by simp only[cX];rw[hf];simp only;rw[if_pos hk,if_neg (by rw[hn];decide),if_pos hn]
theorem iB (hf:aw s.ino l=some d) (hk:d.kind=2) (h1:n≠[46]) (h2:n≠[46,46]) (h3:(aM (cC n d.entries) l).kind=3∧(rest≠ [] ∨fol=true∨dir=true)):cX l fol lnk dir (n::rest) s=lnk dir (aM (cC n d.entries) l) d rest:=by simp only[cX];rw[hf];simp only;rw[if_pos hk,if_neg h1,if_neg h2,if_pos h3]
theorem jt (hf:aw s.ino l=some d) (hk:d.kind=2) (h1:n≠[46]) (h2:n≠[46,46]) (h3:¬((aM (cC n d.entries) l).kind=3∧(rest≠ [] ∨fol=true∨dir=true))):cX l fol lnk dir (n::rest) s=cX l fol lnk dir rest ⟨d.ino,n,cC n d.entries⟩:=by simp only[cX];rw[hf];simp only;rw[if_pos hk,if_neg h1,if_neg h2,if_neg h3]
end
theorem oB (s:Str):(dI s).names=dG s:=rfl
theorem sS (s:Str):(dG s).length≤s.length+1:=by have:=lr s;omega
theorem BO {f:Fs} {i:Int} (h:(aM i f.aa).kind=3):∃x,aw i f.aa=some x∧aM i f.aa=x:=by
 cases hf:aw i f.aa with
 |none=>rw[dN hf] at h;cases h
 |some x=>exact⟨x,rfl,bx hf⟩
def wt:Nat→Nat
 |0=>0
 |k+1=>wt k+210000
theorem Za:wt 40=8400000:=rfl
theorem vU {f:Fs} (h:WF f) {base:Str} (hb:base.length≤8388608):pQ f base=some (pg f base):=by
 unfold pQ pg;rw[yW h hb,ai,mq,mq];by_cases h1:(tn f base).2=0
 ·rw[bK (by simp [h1]),if_pos h1]
  by_cases h2:(tn f base).1.kind=2
  ·rw[bK (by simp [h2]),if_pos h2]
  ·rw[aO (by simp [h2]),if_neg h2]
 ·rw[aO (by simp [h1]),if_neg h1]
theorem Ec {p:Str} (h:nN p=false):p.length≤4095:=by
 unfold nN at h;simp only[Bool.or_eq_false_iff,decide_eq_false_iff_not] at h;omega
theorem alV {f:Fs} (h:WS f) (fol:Bool):∀(n k:Nat) (dir:Bool) (todo:List Str) (s:ax),(s.ino=0∨(aw s.ino f.aa).isSome=true)→k≤40→todo.length≤5000*(41 - k)→wt k+todo.length<n→
 bG n f s todo fol dir ((40 - k:Nat):Int)=some (onK f.aa fol k dir todo s):=by
 intro n;induction n with
 |zero=>intro k dir todo s _ _ _ h;omega
 |succ n ih=>
  intro k dir todo s hs hk ht hn;simp only[bG];rw[F0];cases todo with
  |nil=>
   rw[aO (by simp),h.wf.nS,ai];show _=some (rv f.aa dir s);unfold rv;cases hf:aw s.ino f.aa with
   |none=>rfl
   |some x=>
    rw[bx hf,mq];simp only[Option.isSome_some,aE];cases dir
    ·simp
    ·by_cases hk:x.kind=2
     ·simp [hk]
     ·simp [hk];rfl
  |cons nm rest=>
   have hti:Int.toNat (0:Int)=0:=rfl;have ht1:Int.toNat (1:Int)=1:=rfl;simp only[List.length_cons] at ht hn;have ih':∀(s':ax),(s'.ino=0∨(aw s'.ino f.aa).isSome=true)→(aj (bG n f s' rest fol dir ((40 - k:Nat):Int)) fun y4=>some (y4.1,y4.2))=some (cX f.aa fol (Ij f.aa fol k) dir rest s'):=fun s' hs'=>by
    rw[ih k dir rest s' hs' hk (by omega) (by omega),F0];rfl
   rw[bK (Dv _ _),kE];by_cases h0:s.ino=0
   ·rw[aO (by simp [h0]),lE (by rw[h0];exact h.wf.zero)];rfl
   rw[bK (by simp [h0]),h.wf.nS,ai];obtain⟨d,hf⟩:=Option.isSome_iff_exists.1 (hs.resolve_left h0);rw[bx hf,mq];by_cases hk2:d.kind=2
   case neg=>rw[oc hf hk2,aO (by simp [hk2])];rfl
   rw[bK (by simp [hk2]),aO (by decide),hti,List.getElem?_cons_zero,ai,ht1,aO (by simp;omega),List.drop_one,List.tail_cons];have hdm:=h.wf.found hf;by_cases hd1:nm=[46]
   ·rw[nu hf hk2 hd1,aO (by simp [hd1])]
    exact ih' ⟨0, [],d.ino⟩ (Or.inr (by rw[hdm.2,hf];rfl))
   rw[bK (by simp [hd1])];by_cases hd2:nm=[46,46]
   ·rw[oX hf hk2 hd2,aO (by simp [hd2])]
    exact ih' ⟨0, [],d.parent⟩ (Or.inr (by obtain⟨y,hy,_⟩:=h.par d hdm.1 hk2;rw[hy];rfl))
   rw[bK (by simp [hd2]),n7 (h.wf.sm.db d hdm.1),ai,h.wf.nS,ai];simp only;have hon:=ih' ⟨d.ino,nm,cC nm d.entries⟩ (m7 h.wf hdm.1 nm);rw[mq];by_cases hk3:(aM (cC nm d.entries) f.aa).kind=3
   ·obtain⟨x,hx,hgx⟩:=BO hk3
    rw[hgx] at hk3;have hxm:=h.wf.found hx;have hxl:=h.sym x hxm.1 hk3;have hne:cC nm d.entries≠0:=by intro e;rw[e,h.wf.zero] at hx;cases hx
    obtain⟨e,_,_,_,he4⟩:=wW hne;rw[he4,hgx,bK (by simp),bK (by simp [hk3])];have hnl:(dG x.data).length≤4096:=by have:=sS x.data;omega
    have blk:ah ((((40 - k:Nat):Int))==(40:Int)) (some ((⟨0, [],0⟩:ax),(6:Int))) (aj (iv x.data) fun y11=>
 ah y11 (some ((⟨0, [],0⟩:ax),(7:Int))) (aj (gw x.data) fun y12=>
 ah y12.abs (
 ah y12.gf (
 ah ((List.length rest:Int)==(0:Int)) (aR (([] :List Str).length+y12.names.length) (aR (y12.names.length+rest.length) (aj (bG n f (⟨0, [],(1:Int)⟩:ax) (y12.names++rest) fol true (IntKind.i64.wrap (((40 - k:Nat):Int)+(1:Int)))) fun y13=>some (y13.1,y13.2)))) (aR (([] :List Str).length+y12.names.length) (aR (y12.names.length+rest.length) (aj (bG n f (⟨0, [],(1:Int)⟩:ax) (y12.names++rest) fol dir (IntKind.i64.wrap (((40 - k:Nat):Int)+(1:Int)))) fun y14=>some (y14.1,y14.2))))) (aR (([] :List Str).length+y12.names.length) (aR (y12.names.length+rest.length) (aj (bG n f (⟨0, [],(1:Int)⟩:ax) (y12.names++rest) fol dir (IntKind.i64.wrap (((40 - k:Nat):Int)+(1:Int)))) fun y15=>some (y15.1,y15.2))))) (
 ah y12.gf (
 ah ((List.length rest:Int)==(0:Int)) (aR (([] :List Str).length+y12.names.length) (aR (y12.names.length+rest.length) (aj (bG n f (⟨0, [],d.ino⟩:ax) (y12.names++rest) fol true (IntKind.i64.wrap (((40 - k:Nat):Int)+(1:Int)))) fun y16=>some (y16.1,y16.2)))) (aR (([] :List Str).length+y12.names.length) (aR (y12.names.length+rest.length) (aj (bG n f (⟨0, [],d.ino⟩:ax) (y12.names++rest) fol dir (IntKind.i64.wrap (((40 - k:Nat):Int)+(1:Int)))) fun y17=>some (y17.1,y17.2))))) (aR (([] :List Str).length+y12.names.length) (aR (y12.names.length+rest.length) (aj (bG n f (⟨0, [],d.ino⟩:ax) (y12.names++rest) fol dir (IntKind.i64.wrap (((40 - k:Nat):Int)+(1:Int)))) fun y18=>some (y18.1,y18.2)))))))=some (Ij f.aa fol k dir x d rest):=by
     cases k with
     |zero=>rw[aO (by simp)];rfl
     |succ k=>
      have e:IntKind.i64.wrap (((40 - (k+1):Nat):Int)+1)=((40 - k:Nat):Int):=by rw[b9 (by omega) (by omega)];omega
      rw[e,bK (by rw[kE];simp;omega),pE (by omega),ai];simp only[Ij];cases hlong:nN x.data
      case true=>rw[aE,if_pos rfl];rfl
      rw[az,ml (by omega),ai,if_neg (by simp)];have hlen:((dI x.data).names++rest).length≤rest.length+4096:=by rw[List.length_append,oB];omega
      have go:∀(dir':Bool) (s':ax),(s'.ino=0∨(aw s'.ino f.aa).isSome=true)→aR (([] :List Str).length+(dI x.data).names.length) (aR ((dI x.data).names.length+rest.length) (aj (bG n f s' ((dI x.data).names++rest) fol dir' ((40 - k:Nat):Int)) fun y13=>some (y13.1,y13.2)))=some (onK f.aa fol k dir' ((dI x.data).names++rest) s'):=by
       intro dir' s' hs';have h7:(dI x.data).names.length≤4096:=by rw[oB];omega
       rw[bY (by unfold LIM;simp;omega),bY (by unfold LIM;omega),ih k dir' _ s' hs' (by omega) (by clear ih ih';omega) (by clear ih ih';simp only[wt] at hn;omega)];rfl
      have r1:=fun dir'=>go dir' ⟨0, [],1⟩ (Or.inr h.wf.root)
      have r2:=fun dir'=>go dir' ⟨0, [],d.ino⟩ (Or.inr (by rw[hdm.2,hf];rfl))
      simp only[r1,r2];cases (dI x.data).abs
      ·cases (dI x.data).gf
       ·simp
       ·cases rest
        ·simp
        ·simp only[aE,az,Dv];simp
      ·cases (dI x.data).gf
       ·simp
       ·cases rest
        ·simp
        ·simp only[aE,az,Dv];simp
    by_cases hr:rest= []
    ·subst hr
     rw[aO (by simp)];cases fol
     ·cases dir
      ·simp only[Bool.not_false,aE]
       rw[jt hf hk2 hd1 hd2 (by simp)];exact hon
      ·simp only[Bool.not_false,aE,Bool.not_true,az]
       rw[iB hf hk2 hd1 hd2 ⟨by rw[hgx];exact hk3,Or.inr (Or.inr rfl)⟩,hgx];exact blk
     ·simp only[Bool.not_true,az]
      rw[iB hf hk2 hd1 hd2 ⟨by rw[hgx];exact hk3,Or.inr (Or.inl rfl)⟩,hgx];exact blk
    ·rw[bK (by cases rest with|nil=>exact absurd rfl hr|cons a b=>exact Dv _ _),iB hf hk2 hd1 hd2 ⟨by rw[hgx];exact hk3,Or.inl hr⟩,hgx]
     exact blk
   ·rw[aO (b:= !decide _) (by simp [hk3]),jt hf hk2 hd1 hd2 (fun h9=>hk3 h9.1)]
    cases hfe:(dR nm d.entries).isSome
    ·rw[aO (by simp)];exact hon
    ·rw[bK (by simp)];exact hon
theorem Au {f:Fs} (h:WF f) {base:Str}:(pg f base).1=0∨(aw (pg f base).1 f.aa).isSome=true:=by
 unfold pg tn;by_cases h1:(atP f base).2=0
 ·simp only[h1,if_true]
  cases hf:aw (atP f base).1.ino f.aa with
  |none=>left;rfl
  |some x=>
   simp only[if_true];split
   ·right
    simp only;have:=h.found hf;rw[this.2,hf];rfl
   ·left;rfl
 ·left
  simp only[h1,if_false]
theorem wh {f:Fs} (h:WS f) {base p:Str} {fol:Bool} (hb:base.length≤8388608) (hp:p.length≤1073741823):pV f base p fol=some (jc f base p fol):=by
 unfold pV jc;by_cases h0:p= []
 ·rw[aO (by simp [h0]),if_pos h0];rfl
 rw[bK (by simp [h0]),if_neg h0,pE hp,ai];cases hl:nN p
 case true=>rw[aE,if_pos rfl];rfl
 have hlen:=Ec hl;rw[az,if_neg (by simp),ml hp,ai];have hnm:(dI p).names.length≤4096:=by rw[oB];have:=sS p;omega
 have go:∀(s:ax),(s.ino=0∨(aw s.ino f.aa).isSome=true)→(aj (qW f s (dI p).names fol (dI p).gf (0:Int)) fun y4=>some (y4.1,y4.2))=some (onK f.aa fol 40 (dI p).gf (dI p).names s):=fun s hs=>by
  unfold qW;have:=alV h fol bg 40 (dI p).gf (dI p).names s hs (Nat.le_refl _) (by omega) (gN (by rw[Za];omega));have e:((40 - 40:Nat):Int)=0:=rfl;rw[e] at this;rw[this];rfl
 cases (dI p).abs
 ·simp only[Bool.not_false,aE,Bool.false_eq_true,if_false]
  rw[vU h.wf hb,ai,mq];by_cases h2:(pg f base).2=0
  ·rw[bK (by simp [h2]),if_pos h2]
   exact go ⟨0, [],(pg f base).1⟩ (Au h.wf)
  ·rw[aO (by simp [h2]),if_neg h2];rfl
 ·simp only[Bool.not_true,az,if_true]
  exact go eL (Or.inr h.wf.root)
end Go.Eng
set_option linter.unusedVariables false
set_option maxRecDepth 100000
namespace Go.Eng
open Go
end Go.Eng
set_option linter.unusedSimpArgs false
set_option linter.unusedVariables false
set_option linter.unusedSectionVars false
namespace Go.Eng
open Go
def Gd (f:Fs) (fol:Bool) (s:ax):Prop:=(s.name= [] ∧s.dir=0∧∃d,aw s.ino f.aa=some d∧d.kind=2)∨(s.name≠ [] ∧∃d,aw s.dir f.aa=some d∧d.kind=2∧s.ino=cC s.name d.entries∧(fol=true→(aM s.ino f.aa).kind≠3))
end Go.Eng
set_option linter.unusedVariables false
set_option maxRecDepth 100000
namespace Go.Eng
open Go
end Go.Eng
set_option linter.unusedVariables false
set_option maxRecDepth 100000
namespace Go.Eng
open Go
end Go.Eng
set_option linter.unusedSimpArgs false
set_option linter.unusedVariables false
set_option linter.unusedSectionVars false
namespace Go.Eng
open Go
def ae.eU (x:ae) (d:Str):ae:=⟨x.ino,x.kind,x.ar,d,x.parent,x.entries⟩
section
variable {f:Fs} {base p:Str}
end
def Wq:Option ae→Option ae→Prop
 |none,none=>True
 |some x,some y=>x.ino=y.ino∧x.kind=y.kind∧x.parent=y.parent∧x.entries=y.entries∧(x.kind=3→x.data=y.data)
 |_,_=>False
def zy (l m:List ae):Prop:=∀k,Wq (aw k l) (aw k m)
section
variable {l m:List ae}
theorem zy.none (h:zy l m) {k:Int} (hf:aw k l=none):aw k m=none:=by
 have:=h k;rw[hf] at this;cases hm:aw k m with
 |none=>rfl
 |some y=>rw[hm] at this;exact this.elim
theorem zy.some (h:zy l m) {k:Int} {x:ae} (hf:aw k l=some x):∃y,aw k m=some y∧x.ino=y.ino∧x.kind=y.kind∧x.parent=y.parent∧x.entries=y.entries∧(x.kind=3→x.data=y.data):=by
 have:=h k;rw[hf] at this;cases hm:aw k m with
 |none=>rw[hm] at this;exact this.elim
 |some y=>rw[hm] at this;exact⟨y,rfl,this⟩
theorem zy.kind (h:zy l m) (k:Int):(aM k l).kind=(aM k m).kind:=by
 cases hf:aw k l with
 |none=>rw[dN hf,dN (h.none hf)]
 |some x=>obtain⟨y,hy,h1⟩:=h.some hf;rw[bx hf,bx hy];exact h1.2.1
end
section
variable {f:Fs} {x:ae} {d:Str}
theorem bR {l:List ae} {x:ae} {k:Int}:aw k (bH x l)=if x.ino=k then some x else aw k l:=wK
theorem p9 {l:List ae} {k k':Int}:aw k' (di k l)=if k=k' then none else aw k' l:=mZ
theorem eJ {l:List ae} {x y:ae}:y∈bH x l↔y=x∨(y∈l∧y.ino≠x.ino):=AJ
theorem cg {l:List ae} {x:ae} (h:cz l):cz (bH x l):=oZ loI h
theorem gp {l:List ae} {x:ae} (h:cz l):(bH x l).length=if (aw x.ino l).isSome then l.length else l.length+1:=J8 loI h
def byt (x:ae):Int:=if x.kind=1 then (x.data.length:Int) else 0
theorem fa {l:List ae} {x:ae} (h:cz l):bytesOf (bH x l)+hZ byt (aw x.ino l)=bytesOf l+byt x:=qy loI byt h
theorem jQ {l:List ae} {x:ae} (h:cz l) (n:Int):fc n (bH x l)+hZ (fun y:ae=>ec n y.entries) (aw x.ino l)=fc n l+ec n x.entries:=qy loI _ h
theorem za {l:List ae} {k:Int} (h:cz l):bytesOf (di k l)+hZ byt (aw k l)=bytesOf l:=kG loI byt h
theorem Hu {l:List ae} {k:Int} (h:cz l) (n:Int):fc n (di k l)+hZ (fun y:ae=>ec n y.entries) (aw k l)=fc n l:=kG loI _ h
theorem Er {l:List ae} {k:Int} (h:cz l):(di k l).length+(if (aw k l).isSome then 1 else 0)=l.length:=Ga loI h
theorem Fx (hx:aw x.ino f.aa=some x) (hk:x.kind=1):zy f.aa (f.set (x.eU d)).aa:=by
 intro k;show Wq _ (aw k (bH (x.eU d) f.aa));rw[bR];by_cases e:(x.eU d).ino=k
 ·rw[if_pos e]
  have e:x.ino=k:=e;subst e;rw[hx];exact⟨rfl,rfl,rfl,rfl,fun h=>by rw[hk] at h;cases h⟩
 ·rw[if_neg e]
  cases aw k f.aa with
  |none=>trivial
  |some y=>exact⟨rfl,rfl,rfl,rfl,fun _=>rfl⟩
theorem Reach.mono {l m:List ae} (h:∀k x,aw k l=some x→∃y,aw k m=some y∧∀e∈x.entries,∃e'∈y.entries,e'.ino=e.ino) {k:Int} (hr:Reach l k):Reach m k:=by
 induction hr with
 |root=>exact .root
 |step _ hf he ih=>
  obtain⟨y,hy,h2⟩:=h _ _ hf;obtain⟨e',he',hn⟩:=h2 _ he;rw[←hn];exact .step ih hy he'
theorem Tree.J2 (h:Tree f) (hx:aw x.ino f.aa=some x) (hk:x.kind=1) (hfit:du f 0 ((d.length:Int) - (x.data.length:Int))=true):Tree (f.set (x.eU d)):=by
 have hxm:=(aW hx).1;have hfc:∀n,fc n (f.set (x.eU d)).aa=fc n f.aa:=fun n=>by
  have:=jQ (x:=x.eU d) h.sort n;rw[show(x.eU d).ino=x.ino from rfl,hx] at this;have e:(x.eU d).entries=x.entries:=rfl;simp only[hZ,e] at this;show fc n (bH (x.eU d) f.aa)=_;omega
 have hmem:∀y∈(f.set (x.eU d)).aa,∃z∈f.aa,z.ino=y.ino∧z.kind=y.kind∧z.ar=y.ar∧z.parent=y.parent∧z.entries=y.entries∧(y.kind≠1→y=z):=fun y hy=>by
  rcases eJ.1 hy with rfl|⟨hy,_⟩
  ·exact⟨x,hxm,rfl,rfl,rfl,rfl,rfl,fun hn=>absurd hk hn⟩
  ·exact⟨y,hy,rfl,rfl,rfl,rfl,rfl,fun _=>rfl⟩
 have hsim:=Fx (d:=d) hx hk;obtain⟨r,hr,hrk,hrp⟩:=h.root;refine⟨h.ui,h.um,h.next,fun y hy=> ?_,cg h.sort, ?_,fun y hy=> ?_,fun y hy e he=> ?_,fun y hy=> ?_, ?_,fun y hy hd=> ?_,fun y hy hd z hz e he hn=> ?_,fun y hy=> ?_, ?_⟩
 ·obtain⟨z,hz,e1,_⟩:=hmem y hy
  rw[←e1];exact h.ino z hz
 ·obtain⟨y,hy,e1,e2,e3,_⟩:=hsim.some hr
  exact⟨y,hy,by rw[←e2];exact hrk,by rw[←e3];exact hrp⟩
 ·rcases eJ.1 hy with rfl|⟨hy,_⟩
  ·have:=h.kind x hxm
   rw[zl hk] at this;rw[zl (show(x.eU d).kind=1 from hk)];exact this
  ·exact h.kind y hy
 ·obtain⟨z,hz,_,_,_,_,e5,_⟩:=hmem y hy
  obtain⟨u,hu⟩:=h.there z hz e (by rw[e5];exact he);obtain⟨v,hv,_⟩:=hsim.some hu;exact⟨v,hv⟩
 ·obtain⟨z,hz,e1,_,e3,_⟩:=hmem y hy
  rw[hfc,←e1,←e3];exact h.ar z hz
 ·rw[hfc];exact h.se
 ·obtain⟨z,hz,e1,e2,_⟩:=hmem y hy
  rw[hfc,←e1];exact h.Eh z hz (by rw[e2];exact hd)
 ·obtain⟨z',hz',e1,e2,_,e4,_⟩:=hmem y hy
  obtain⟨w,hw,f1,_,_,_,f5,_⟩:=hmem z hz;rw[←e4,←f1];exact h.par z' hz' (by rw[e2];exact hd) w hw e (by rw[f5];exact he) (by rw[e1];exact hn)
 ·obtain⟨z,hz,e1,_⟩:=hmem y hy
  rw[←e1];refine Reach.mono (fun k u hu=> ?_) (h.led z hz);obtain⟨v,hv,_,_,_,e4,_⟩:=hsim.some hu;exact⟨v,hv,fun e he=>⟨e,by rw[←e4];exact he,rfl⟩⟩
 ·have hb:=fa (x:=x.eU d) h.sort
  have hl:=gp (x:=x.eU d) h.sort;rw[show(x.eU d).ino=x.ino from rfl,hx] at hb hl;have e1:byt x=x.data.length:=by unfold byt;rw[if_pos hk]
  have e2:byt (x.eU d)=d.length:=by unfold byt;rw[if_pos (show(x.eU d).kind=1 from hk)];rfl
  simp only[hZ,e1,e2] at hb;simp only[Option.isSome_some,if_true] at hl;unfold du at hfit⊢;simp only[Bool.and_eq_true,decide_eq_true_eq] at hfit⊢;show((bH (x.eU d) f.aa).length:Int)+0≤f.aq∧bytesOf (bH (x.eU d) f.aa)+0≤f.au;omega
end
theorem Tree.wf {f:Fs} (h:Tree f) (hs:SmF f):WF f:=((Bc f).2 h).wf hs
theorem Tree.check {f:Fs} (h:Tree f):qd f=0:=(uZ f).2 ((Bc f).2 h)
end Go.Eng
set_option linter.unusedVariables false
set_option maxRecDepth 100000
namespace Go.Eng
open Go
end Go.Eng
set_option linter.unusedSimpArgs false
set_option linter.unusedVariables false
set_option linter.unusedSectionVars false
namespace Go.Eng
open Go
structure Ev (f:Fs):Prop where
 tr:Tree f
 sm:SmF f
 wf:WF f
 ws:WS f
 lil:Lil f
 len:f.aa.length≤40
 few:∀x∈f.aa,x.data.length≤5000∧x.entries.length≤40∧∀e∈x.entries,e.name.length≤300
section
variable {f:Fs} {base p d:Str}
structure Wr (f:Fs) (x:ae) (d:Str) (g:Fs):Prop where
 tr:Tree g
 sm:SmF g
 ws:WS g
 lil:Lil g
 len:g.aa.length=f.aa.length
 sim:zy f.aa g.aa
 find:∀k,aw k g.aa=if x.ino=k then some (x.eU d) else aw k f.aa
end
end Go.Eng
set_option linter.unusedSimpArgs false
set_option linter.unusedVariables false
set_option linter.unusedSectionVars false
namespace Go.Eng
open Go
theorem xq {l:List Entry} {e:Entry} {n:Str}:dR n (hY e l)=if e.name=n then some e else dR n l:=wK
theorem nC {l:List Entry} {n n':Str}:dR n' (dU n l)=if n=n' then none else dR n' l:=mZ
theorem AK {l:List Entry} {e e':Entry}:e'∈hY e l↔e'=e∨(e'∈l∧e'.name≠e.name):=AJ
theorem xC {l:List Entry} {n:Str} {e:Entry}:e∈dU n l↔e∈l∧e.name≠n:=fp
theorem Eg {l:List Entry} {e:Entry} (hs:hC l) (h:e∈l):dR e.name l=some e:=kI loS hs h
theorem ir {l:List Entry} {n:Str} {e:Entry} (h:dR n l=some e):e∈l∧e.name=n:=b8 h
theorem GI {l:List Entry} {e:Entry} (h:hC l) (n:Int):ec n (hY e l)+hZ (one n) (dR e.name l)=ec n l+one n e:=qy loS (one n) h
theorem Dx {l:List Entry} {m:Str} (h:hC l) (n:Int):ec n (dU m l)+hZ (one n) (dR m l)=ec n l:=kG loS (one n) h
theorem xu {l:List Entry} {e:Entry} (h:gd l=true) (h1:fD e.name=true) (h2:1≤e.ino):gd (hY e l)=true:=by
 rw[gB] at h⊢;refine⟨oZ loS h.1,fun x hx=> ?_⟩;rcases AK.1 hx with rfl|⟨hx,_⟩
 ·exact⟨h1,h2⟩
 ·exact h.2 x hx
theorem vO {l:List Entry} {n:Str} (h:gd l=true):gd (dU n l)=true:=by
 rw[gB] at h⊢;exact⟨fi h.1,fun x hx=>h.2 x (xC.1 hx).1⟩
theorem D8 {l:List Entry} (h:gd l=true) {n:Str} (h0:cC n l=0):dR n l=none:=by
 unfold cC at h0;cases hf:dR n l with
 |none=>rfl
 |some e=>
  rw[hf] at h0;have:=(((gB _).1 h).2 e (ir hf).1).2;simp only at h0;omega
theorem Ek {l:List Entry} {n:Str} {e:Entry} (h:dR n l=some e):cC n l=e.ino:=by unfold cC;rw[h]
theorem tI {l:List Entry} {n:Str} (h:cC n l≠0):∃e,dR n l=some e∧e∈l∧e.name=n∧e.ino=cC n l:=by
 unfold cC at h;cases hf:dR n l with
 |none=>rw[hf] at h;exact absurd rfl h
 |some e=>exact⟨e,rfl,(ir hf).1,(ir hf).2,(Ek hf).symm⟩
def ae.dP (x:ae) (n:Int):ae:=⟨x.ino,x.kind,n,x.data,x.parent,x.entries⟩
def ae.jd (x:ae) (n:Int):ae:=⟨x.ino,x.kind,x.ar,x.data,n,x.entries⟩
def ae.cd (d:ae) (nm:Str) (n:Int):ae:=d.sM (hY ⟨nm,n⟩ d.entries)
def ae.cE (d:ae) (nm:Str):ae:=d.sM (dU nm d.entries)
theorem yG {g:Fs} (ui:1≤g.aq∧g.aq≤1073741824) (um:0≤g.au∧g.au≤1073741824) (next:g.next≤1099511627776) (sort:cz g.aa)
 (ino:∀k x,aw k g.aa=some x→1≤k∧k<g.next) (root:∃r,aw 1 g.aa=some r∧r.kind=2∧r.parent=1) (kind:∀k x,aw k g.aa=some x→fy x=true)
 (there:∀k x,aw k g.aa=some x→∀e∈x.entries,∃y,aw e.ino g.aa=some y) (ar:∀k x,aw k g.aa=some x→x.ar=fc k g.aa) (se:fc 1 g.aa=0)
 (Eh:∀k x,aw k g.aa=some x→x.kind=2→fc k g.aa≤1) (par:∀k x,aw k g.aa=some x→x.kind=2→∀j d,aw j g.aa=some d→∀e∈d.entries,e.ino=k→x.parent=j)
 (led:∀k x,aw k g.aa=some x→Reach g.aa k) (fits:du g 0 0=true):Tree g:=
 ⟨ui,um,next,fun x hx=>ino _ x (eh sort hx),sort,root,fun x hx=>kind _ x (eh sort hx),fun x hx=>there _ x (eh sort hx),fun x hx=>ar _ x (eh sort hx),se,
  fun x hx=>Eh _ x (eh sort hx),fun x hx hk d hd e he hn=>par _ x (eh sort hx) hk _ d (eh sort hd) e he hn,fun x hx=>led _ x (eh sort hx),fits⟩
section
variable {f:Fs}
theorem Tree.iy (h:Tree f) {k:Int} {x:ae} (hx:aw k f.aa=some x):fy x=true∧x.ar=fc k f.aa∧1≤k∧k<f.next∧hC x.entries∧gd x.entries=true:=by
 obtain⟨h1,h2⟩:=aW hx;have hk:=h.kind x h1;have hi:=h.ino x h1;subst h2;have hr:=qe hk;exact⟨hk,h.ar x h1,hi.1,hi.2,((gB _).1 hr).1,hr⟩
theorem Tree.to (h:Tree f) {k:Int} {x:ae} (hx:aw k f.aa=some x) {e:Entry} (he:e∈x.entries):∃y,aw e.ino f.aa=some y:=h.there x (aW hx).1 e he
theorem Tree.fc0 (h:Tree f) {k:Int} (hk:aw k f.aa=none):fc k f.aa=0:=by
 have h0:=Ge k f.aa;by_cases hp:0<fc k f.aa
 ·obtain⟨x,hx,e,he,hn⟩:=F2 hp
  obtain⟨y,hy⟩:=h.there x hx e he;rw[hn,hk] at hy;cases hy
 ·omega
theorem Tree.parent (h:Tree f) {k j:Int} {x d:ae} {e:Entry} (hx:aw k f.aa=some x) (hk:x.kind=2) (hd:aw j f.aa=some d) (he:e∈d.entries) (hn:e.ino=k):x.parent=j:=by
 obtain⟨x1,x2⟩:=aW hx;obtain⟨d1,d2⟩:=aW hd;rw[h.par x x1 hk d d1 e he (by rw[hn,x2]),d2]
theorem Tree.sr (h:Tree f) {k:Int} {x:ae} (hx:aw k f.aa=some x) (hk:x.kind=2):fc k f.aa≤1:=by
 obtain⟨x1,x2⟩:=aW hx;rw[←x2];exact h.Eh x x1 hk
theorem Tree.vY (h:Tree f) {k:Int} {x:ae} (hx:aw k f.aa=some x):Reach f.aa k:=by
 obtain⟨x1,x2⟩:=aW hx;rw[←x2];exact h.led x x1
theorem vr {x:ae} (h:fy x=true) (hk:x.kind=2) {l:List Entry} (hr:gd l=true):fy (x.sM l)=true:=by
 rw[Aw hk,Bool.and_eq_true] at h;rw[Aw (show(x.sM l).kind=2 from hk),Bool.and_eq_true];exact⟨h.1,hr⟩
theorem uQ {x:ae} (h:fy x=true) {n:Int}:fy (x.dP n)=true:=h
end
structure jb (f:Fs) (d:ae) (nm:Str):Prop where
 hd:aw d.ino f.aa=some d
 hk:d.kind=2
 hm:fD nm=true
 h0:dR nm d.entries=none
section
variable {f:Fs} {d x:ae} {nm:Str}
theorem jb.db (h:jb f d nm) {n:Int} {e:Entry}:e∈(d.cd nm n).entries↔e=⟨nm,n⟩∨e∈d.entries:=by
 show e∈hY ⟨nm,n⟩ d.entries↔_;rw[AK];refine⟨fun h'=>h'.imp id And.left,fun h'=>h'.imp id fun he=>⟨he,fun hn=> ?_⟩⟩;have hn:e.name=nm:=hn;have:=h.h0;have hf:dR nm d.entries≠none:=by
  intro hh;have:∀y∈d.entries,y.name≠nm:=fun y hy hyn=>by
   unfold dR b5 at hh;rw[List.find?_eq_none] at hh;exact hh y hy (by simpa using hyn)
  exact this e he hn
 exact hf this
theorem jb.ec (h:jb f d nm) (ht:Tree f) (n m:Int):Go.Eng.ec m (d.cd nm n).entries=Go.Eng.ec m d.entries+if n=m then 1 else 0:=by
 have:=GI (e:=⟨nm,n⟩) (ht.iy h.hd).2.2.2.2.1 m;rw[show(⟨nm,n⟩:Entry).name=nm from rfl,h.h0] at this;simp only[hZ,one] at this;show Go.Eng.ec m (hY ⟨nm,n⟩ d.entries)=_;omega
theorem qF {n:Int} (k:Int):aw k (bH x (bH (d.cd nm n) f.aa))=if x.ino=k then some x else if d.ino=k then some (d.cd nm n) else aw k f.aa:=by
 rw[bR,bR];rfl
theorem oL (h:d.kind=2):byt d=0:=by unfold byt;rw[if_neg (by omega)]
theorem sC (h:Tree f) (hf:jb f d nm) (hx:aw x.ino f.aa=none):
 (bH x (bH (d.cd nm x.ino) f.aa)).length=f.aa.length+1∧bytesOf (bH x (bH (d.cd nm x.ino) f.aa))=bytesOf f.aa+byt x∧
  (x.entries= [] →∀n,fc n (bH x (bH (d.cd nm x.ino) f.aa))=fc n f.aa+if x.ino=n then 1 else 0):=by
 have hxd:d.ino≠x.ino:=fun e=>by rw[←e,hf.hd] at hx;cases hx
 have hs:=h.sort;have hs1:=cg (x:=d.cd nm x.ino) hs;have h1:aw x.ino (bH (d.cd nm x.ino) f.aa)=none:=by rw[bR,if_neg (show¬(d.cd nm x.ino).ino=x.ino from hxd)];exact hx
 have h2:aw (d.cd nm x.ino).ino f.aa=some d:=hf.hd;refine⟨?_, ?_,fun he n=> ?_⟩
 ·rw[gp hs1,h1,gp hs,h2];rfl
 ·have a:=fa (x:=x) hs1
  have b:=fa (x:=d.cd nm x.ino) hs;rw[h1] at a;rw[h2] at b;simp only[hZ] at a b;rw[oL hf.hk,oL (show(d.cd nm x.ino).kind=2 from hf.hk)] at b;omega
 ·have a:=jQ (x:=x) hs1 n
  have b:=jQ (x:=d.cd nm x.ino) hs n;rw[h1,he] at a;rw[h2] at b;simp only[hZ] at a b;have c:=hf.ec h x.ino n;have c0:Go.Eng.ec n ([] :List Entry)=0:=rfl;omega
theorem JO (h:Tree f) (hf:jb f d nm) (hx:aw x.ino f.aa=none) {nx:Int} (h1:1≤x.ino) (h2:x.ino<nx) (h3:f.next≤nx) (h4:nx≤1099511627776) (hk:fy x=true) (hl:x.ar=1) (he:x.entries= []) (hp:x.kind=2→x.parent=d.ino)
 (hfit:du f 1 (byt x)=true):Tree ⟨f.aq,f.au,nx,bH x (bH (d.cd nm x.ino) f.aa)⟩:=by
 have hfind:=qF (f:=f) (d:=d) (x:=x) (nm:=nm) (n:=x.ino);obtain⟨s1,s2,s3⟩:=sC h hf hx;have s3:=s3 he;have hxd:d.ino≠x.ino:=fun e=>by rw[←e,hf.hd] at hx;cases hx
 have hfx:=h.fc0 hx;have hdk:=h.iy hf.hd;generalize hL:bH x (bH (d.cd nm x.ino) f.aa)=L at hfind s1 s2 s3;have hs:cz L:=by rw[←hL];exact cg (cg h.sort)
 have cs:∀k y,aw k L=some y→(k=x.ino∧y=x)∨(k=d.ino∧y=d.cd nm x.ino)∨(k≠x.ino∧k≠d.ino∧aw k f.aa=some y):=fun k y hy=>by
  rw[hfind] at hy;by_cases e1:x.ino=k
  ·rw[if_pos e1] at hy;cases hy;exact Or.inl ⟨e1.symm,rfl⟩
  ·rw[if_neg e1] at hy
   by_cases e2:d.ino=k
   ·rw[if_pos e2] at hy;cases hy;exact Or.inr (Or.inl ⟨e2.symm,rfl⟩)
   ·rw[if_neg e2] at hy;exact Or.inr (Or.inr ⟨fun e=>e1 e.symm,fun e=>e2 e.symm,hy⟩)
 have on:∀k,(∃y,aw k f.aa=some y)→∃y,aw k L=some y:=fun k ⟨y,hy⟩=>by
  rw[hfind];by_cases e1:x.ino=k
  ·rw[if_pos e1];exact⟨_,rfl⟩
  ·rw[if_neg e1]
   by_cases e2:d.ino=k
   ·rw[if_pos e2];exact⟨_,rfl⟩
   ·rw[if_neg e2];exact⟨y,hy⟩
 have hreach:∀k,Reach f.aa k→Reach L k:=fun k hr=>by
  refine Reach.mono (fun k z hz=> ?_) hr;rw[hfind];by_cases e1:x.ino=k
  ·rw[←e1,hx] at hz;cases hz
  ·rw[if_neg e1]
   by_cases e2:d.ino=k
   ·rw[if_pos e2]
    rw[←e2,hf.hd] at hz;cases hz;exact⟨_,rfl,fun e he=>⟨e,hf.db.2 (Or.inr he),rfl⟩⟩
   ·rw[if_neg e2];exact⟨z,hz,fun e he=>⟨e,he,rfl⟩⟩
 obtain⟨r,hr,hrk,hrp⟩:=h.root;have hx1:x.ino≠1:=fun e=>by rw[e,hr] at hx;cases hx
 refine yG h.ui h.um h4 hs (fun k y hy=> ?_) ?_ (fun k y hy=> ?_) (fun k y hy e he'=> ?_) (fun k y hy=> ?_) ?_ (fun k y hy hd=> ?_) (fun k y hy hd j z hz e he' hn=> ?_) (fun k y hy=> ?_) ?_
 ·rcases cs k y hy with⟨rfl,rfl⟩ |⟨rfl,rfl⟩ |⟨_,_,hy⟩
  ·exact⟨h1,h2⟩
  ·exact⟨hdk.2.2.1,by have:=hdk.2.2.2.1;show d.ino<nx;omega⟩
  ·have:=h.iy hy
   exact⟨this.2.2.1,by have:=this.2.2.2.1;show k<nx;omega⟩
 ·show∃r,aw 1 L=some r∧_
  rw[hfind,if_neg hx1];by_cases e2:d.ino=1
  ·rw[if_pos e2]
   have hd1:=hf.hd;rw[e2,hr] at hd1;cases hd1;exact⟨_,rfl,hrk,hrp⟩
  ·rw[if_neg e2];exact⟨r,hr,hrk,hrp⟩
 ·rcases cs k y hy with⟨_,rfl⟩ |⟨_,rfl⟩ |⟨_,_,hy⟩
  ·exact hk
  ·exact vr hdk.1 hf.hk (xu hdk.2.2.2.2.2 hf.hm h1)
  ·exact(h.iy hy).1
 ·refine(?_ :∃y,aw e.ino L=some y)
  rcases cs k y hy with⟨_,rfl⟩ |⟨_,rfl⟩ |⟨_,_,hy⟩
  ·rw[he] at he';cases he'
  ·rcases hf.db.1 he' with rfl|he'
   ·show∃y,aw x.ino L=some y
    rw[hfind,if_pos rfl];exact⟨_,rfl⟩
   ·exact on _ (h.to hf.hd he')
  ·exact on _ (h.to hy he')
 ·show y.ar=fc k L
  rw[s3];rcases cs k y hy with⟨rfl,rfl⟩ |⟨rfl,rfl⟩ |⟨e1,_,hy⟩
  ·rw[if_pos rfl,hfx,hl];rfl
  ·rw[if_neg (fun e=>hxd e.symm)]
   have:=hdk.2.1;show d.ar=_;omega
  ·rw[if_neg (fun e=>e1 e.symm)]
   have:=(h.iy hy).2.1;omega
 ·show fc 1 L=0
  rw[s3,if_neg hx1,h.se];rfl
 ·show fc k L≤1
  rw[s3];rcases cs k y hy with⟨rfl,rfl⟩ |⟨rfl,rfl⟩ |⟨e1,_,hy⟩
  ·rw[if_pos rfl,hfx];decide
  ·rw[if_neg (fun e=>hxd e.symm)]
   have:=h.sr hf.hd hf.hk;omega
  ·rw[if_neg (fun e=>e1 e.symm)]
   have:=h.sr hy hd;omega
 ·have hz':aw j L=some z:=hz
  have hz0:(∃d0,aw j f.aa=some d0∧e∈d0.entries)∨(j=d.ino∧e=⟨nm,x.ino⟩):=by
   rcases cs j z hz' with⟨_,rfl⟩ |⟨rfl,rfl⟩ |⟨_,_,hz⟩
   ·rw[he] at he';cases he'
   ·rcases hf.db.1 he' with rfl|he'
    ·exact Or.inr ⟨rfl,rfl⟩
    ·exact Or.inl ⟨d,hf.hd,he'⟩
   ·exact Or.inl ⟨z,hz,he'⟩
  rcases cs k y hy with⟨rfl,rfl⟩ |⟨rfl,rfl⟩ |⟨e1,_,hy⟩
  ·rcases hz0 with⟨d0,q1,q2⟩ |⟨rfl,rfl⟩
   ·obtain⟨y',hy'⟩:=h.to q1 q2
    rw[hn,hx] at hy';cases hy'
   ·exact hp hd
  ·rcases hz0 with⟨d0,q1,q2⟩ |⟨rfl,rfl⟩
   ·show d.parent=j
    exact h.parent hf.hd hf.hk q1 q2 hn
   ·exact absurd hn.symm hxd
  ·rcases hz0 with⟨d0,q1,q2⟩ |⟨rfl,rfl⟩
   ·exact h.parent hy hd q1 q2 hn
   ·exact absurd hn.symm e1
 ·show Reach L k
  rcases cs k y hy with⟨rfl,_⟩ |⟨rfl,_⟩ |⟨_,_,hy⟩
  ·have hd':aw d.ino L=some (d.cd nm x.ino):=by rw[hfind,if_neg (fun e=>hxd e.symm),if_pos rfl]
   exact Reach.step (e:=⟨nm,x.ino⟩) (hreach _ (h.vY hf.hd)) hd' (hf.db.2 (Or.inl rfl))
  ·exact hreach _ (h.vY hf.hd)
  ·exact hreach _ (h.vY hy)
 ·have hff:=h.fits
  unfold du at hfit hff⊢;simp only[Bool.and_eq_true,decide_eq_true_eq] at hfit hff⊢;show(L.length:Int)+0≤f.aq∧bytesOf L+0≤f.au;omega
end
end Go.Eng
set_option linter.unusedSimpArgs false
set_option linter.unusedVariables false
set_option linter.unusedSectionVars false
namespace Go.Eng
open Go
section
variable {f:Fs} {d x:ae} {nm:Str} {e:Entry}
def kF (f:Fs) (d:ae) (nm:Str) (x:ae):Fs:=(f.set (d.cd nm x.ino)).set (x.dP (x.ar+1))
theorem rC (hxd:x.ino≠d.ino) (k:Int):aw k (kF f d nm x).aa=if x.ino=k then some (x.dP (x.ar+1)) else if d.ino=k then some (d.cd nm x.ino) else aw k f.aa:=by
 show aw k (bH _ (bH _ f.aa))=_;rw[bR,bR];rfl
theorem xy {n:Int}:byt (x.dP n)=byt x:=rfl
theorem GU (h:Tree f) (hf:jb f d nm) (hx:aw x.ino f.aa=some x) (hxd:x.ino≠d.ino):
 (kF f d nm x).aa.length=f.aa.length∧bytesOf (kF f d nm x).aa=bytesOf f.aa∧∀n,fc n (kF f d nm x).aa=fc n f.aa+if x.ino=n then 1 else 0:=by
 have hs:=h.sort;have hs1:=cg (x:=d.cd nm x.ino) hs;have h1:aw (x.dP (x.ar+1)).ino (bH (d.cd nm x.ino) f.aa)=some x:=by rw[bR,if_neg (show¬(d.cd nm x.ino).ino=(x.dP (x.ar+1)).ino from fun e=>hxd e.symm)];exact hx
 have h2:aw (d.cd nm x.ino).ino f.aa=some d:=hf.hd;refine⟨?_, ?_,fun n=> ?_⟩
 ·show(bH _ (bH _ f.aa)).length=_
  rw[gp hs1,h1,gp hs,h2];rfl
 ·show bytesOf (bH _ (bH _ f.aa))=_
  have a:=fa (x:=x.dP (x.ar+1)) hs1;have b:=fa (x:=d.cd nm x.ino) hs;rw[h1] at a;rw[h2] at b;simp only[hZ] at a b;rw[oL hf.hk,oL (show(d.cd nm x.ino).kind=2 from hf.hk)] at b;rw[xy] at a;omega
 ·show fc n (bH _ (bH _ f.aa))=_
  have a:=jQ (x:=x.dP (x.ar+1)) hs1 n;have b:=jQ (x:=d.cd nm x.ino) hs n;rw[h1] at a;rw[h2] at b;simp only[hZ] at a b;have c:=hf.ec h x.ino n;have c0:(x.dP (x.ar+1)).entries=x.entries:=rfl;rw[c0] at a;omega
theorem IM (h:Tree f) (hf:jb f d nm) (hx:aw x.ino f.aa=some x) (hk:x.kind≠2):Tree (kF f d nm x):=by
 have hxd:x.ino≠d.ino:=fun e=>by rw[e,hf.hd] at hx;cases hx;exact hk hf.hk
 have hfind:=rC (f:=f) (d:=d) (x:=x) (nm:=nm) hxd;obtain⟨s1,s2,s3⟩:=GU h hf hx hxd;have hdk:=h.iy hf.hd;have hxk:=h.iy hx;have hs:cz (kF f d nm x).aa:=cg (cg h.sort);have hmx:(kF f d nm x).aq=f.aq∧(kF f d nm x).au=f.au∧(kF f d nm x).next=f.next:=⟨rfl,rfl,rfl⟩;generalize kF f d nm x=g at hfind s1 s2 s3 hs hmx;obtain⟨m1,m2,m3⟩:=hmx;have cs:∀k y,aw k g.aa=some y→(k=x.ino∧y=x.dP (x.ar+1))∨(k=d.ino∧y=d.cd nm x.ino)∨(k≠x.ino∧k≠d.ino∧aw k f.aa=some y):=fun k y hy=>by
  rw[hfind] at hy;by_cases e1:x.ino=k
  ·rw[if_pos e1] at hy;cases hy;exact Or.inl ⟨e1.symm,rfl⟩
  ·rw[if_neg e1] at hy
   by_cases e2:d.ino=k
   ·rw[if_pos e2] at hy;cases hy;exact Or.inr (Or.inl ⟨e2.symm,rfl⟩)
   ·rw[if_neg e2] at hy;exact Or.inr (Or.inr ⟨fun e=>e1 e.symm,fun e=>e2 e.symm,hy⟩)
 have on:∀k z,aw k f.aa=some z→∃y,aw k g.aa=some y∧y.kind=z.kind∧y.parent=z.parent∧∀e∈z.entries,e∈y.entries:=fun k z hz=>by
  rw[hfind];by_cases e1:x.ino=k
  ·rw[if_pos e1]
   rw[←e1,hx] at hz;cases hz;exact⟨_,rfl,rfl,rfl,fun e he=>he⟩
  ·rw[if_neg e1]
   by_cases e2:d.ino=k
   ·rw[if_pos e2]
    rw[←e2,hf.hd] at hz;cases hz;exact⟨_,rfl,rfl,rfl,fun e he=>hf.db.2 (Or.inr he)⟩
   ·rw[if_neg e2];exact⟨z,hz,rfl,rfl,fun e he=>he⟩
 have hreach:∀k,Reach f.aa k→Reach g.aa k:=fun k hr=>by
  refine Reach.mono (fun k z hz=> ?_) hr;obtain⟨y,hy,_,_,h4⟩:=on k z hz;exact⟨y,hy,fun e he=>⟨e,h4 e he,rfl⟩⟩
 have ed:∀j z e,aw j g.aa=some z→e∈z.entries→(∃d0,aw j f.aa=some d0∧e∈d0.entries)∨(j=d.ino∧e=⟨nm,x.ino⟩):=fun j z e hz he=>by
  rcases cs j z hz with⟨rfl,rfl⟩ |⟨rfl,rfl⟩ |⟨_,_,hz⟩
  ·exact Or.inl ⟨x,hx,he⟩
  ·rcases hf.db.1 he with rfl|he
   ·exact Or.inr ⟨rfl,rfl⟩
   ·exact Or.inl ⟨d,hf.hd,he⟩
  ·exact Or.inl ⟨z,hz,he⟩
 obtain⟨r,hr,hrk,hrp⟩:=h.root;have hx1:x.ino≠1:=fun e=>by rw[e,hr] at hx;cases hx;exact hk hrk
 refine yG (by rw[m1];exact h.ui) (by rw[m2];exact h.um) (by rw[m3];exact h.next) hs (fun k y hy=> ?_) ?_ (fun k y hy=> ?_) (fun k y hy e he'=> ?_) (fun k y hy=> ?_) ?_ (fun k y hy hd=> ?_) (fun k y hy hd j z hz e he' hn=> ?_) (fun k y hy=> ?_) ?_
 ·rw[m3]
  rcases cs k y hy with⟨rfl,_⟩ |⟨rfl,_⟩ |⟨_,_,hy⟩
  ·exact⟨hxk.2.2.1,hxk.2.2.2.1⟩
  ·exact⟨hdk.2.2.1,hdk.2.2.2.1⟩
  ·have:=h.iy hy
   exact⟨this.2.2.1,this.2.2.2.1⟩
 ·obtain⟨y,hy,h2,h3,_⟩:=on 1 r hr
  exact⟨y,hy,by rw[h2];exact hrk,by rw[h3];exact hrp⟩
 ·rcases cs k y hy with⟨_,rfl⟩ |⟨_,rfl⟩ |⟨_,_,hy⟩
  ·exact uQ hxk.1
  ·exact vr hdk.1 hf.hk (xu hdk.2.2.2.2.2 hf.hm hxk.2.2.1)
  ·exact(h.iy hy).1
 ·rcases ed k y e hy he' with⟨d0,q1,q2⟩ |⟨_,rfl⟩
  ·obtain⟨z,hz⟩:=h.to q1 q2
   obtain⟨y',hy',_⟩:=on _ z hz;exact⟨y',hy'⟩
  ·obtain⟨y',hy',_⟩:=on _ x hx
   exact⟨y',hy'⟩
 ·rw[s3]
  rcases cs k y hy with⟨rfl,rfl⟩ |⟨rfl,rfl⟩ |⟨e1,_,hy⟩
  ·rw[if_pos rfl]
   have:=hxk.2.1;show x.ar+1=_;omega
  ·rw[if_neg hxd]
   have:=hdk.2.1;show d.ar=_;omega
  ·rw[if_neg (fun e=>e1 e.symm)]
   have:=(h.iy hy).2.1;omega
 ·rw[s3,if_neg hx1,h.se];rfl
 ·rw[s3]
  rcases cs k y hy with⟨rfl,rfl⟩ |⟨rfl,rfl⟩ |⟨e1,_,hy⟩
  ·exact absurd hd hk
  ·rw[if_neg hxd]
   have:=h.sr hf.hd hf.hk;omega
  ·rw[if_neg (fun e=>e1 e.symm)]
   have:=h.sr hy hd;omega
 ·rcases ed j z e hz he' with⟨d0,q1,q2⟩ |⟨rfl,rfl⟩
  ·rcases cs k y hy with⟨rfl,rfl⟩ |⟨rfl,rfl⟩ |⟨e1,_,hy⟩
   ·exact absurd hd hk
   ·show d.parent=j
    exact h.parent hf.hd hf.hk q1 q2 hn
   ·exact h.parent hy hd q1 q2 hn
  ·rcases cs k y hy with⟨rfl,rfl⟩ |⟨rfl,rfl⟩ |⟨e1,_,hy⟩
   ·exact absurd hd hk
   ·exact absurd hn hxd
   ·exact absurd hn.symm e1
 ·rcases cs k y hy with⟨rfl,_⟩ |⟨rfl,_⟩ |⟨_,_,hy⟩
  ·exact hreach _ (h.vY hx)
  ·exact hreach _ (h.vY hf.hd)
  ·exact hreach _ (h.vY hy)
 ·have hff:=h.fits
  unfold du at hff⊢;simp only[Bool.and_eq_true,decide_eq_true_eq] at hff⊢;rw[s1,s2,m1,m2];exact hff
structure Ent (f:Fs) (d:ae) (nm:Str) (x:ae) (e:Entry):Prop where
 hd:aw d.ino f.aa=some d
 he:dR nm d.entries=some e
 hn:e.ino=x.ino
 hx:aw x.ino f.aa=some x
def dS (f:Fs) (d:ae) (nm:Str) (x:ae):Fs:=if x.ar=1 then (f.set (d.cE nm)).drop x.ino else (f.set (d.cE nm)).set (x.dP (x.ar - 1))
theorem Ent.mem (h:Ent f d nm x e):e∈d.entries∧e.name=nm:=ir h.he
theorem Ent.kind (h:Ent f d nm x e) (ht:Tree f):d.kind=2:=ht.db h.hd h.mem.1
theorem Ent.way (h:Ent f d nm x e):Way f.aa d.ino x.ino 1:=h.hn▸ .step .here h.hd h.mem.1
theorem Ent.ne (h:Ent f d nm x e) (ht:Tree f):x.ino≠d.ino:=fun e1=>by
 obtain⟨n,hw⟩:=(ht.vY h.hd).way;exact ht.Ii hw h.hd h.mem.1 (n:=0) (by rw[h.hn,e1];exact .here)
theorem Ent.db (h:Ent f d nm x e) (ht:Tree f) {e':Entry}:e'∈(d.cE nm).entries↔e'∈d.entries∧e'≠e:=by
 show e'∈dU nm d.entries↔_;rw[xC];refine⟨fun⟨a,b⟩=>⟨a,fun c=>b (by rw[c];exact h.mem.2)⟩,fun⟨a,b⟩=>⟨a,fun c=>b ?_⟩⟩;have h1:=Eg (ht.iy h.hd).2.2.2.2.1 a;rw[c,h.he] at h1;exact(Option.some.inj h1).symm
theorem fU (hxd:x.ino≠d.ino) (k:Int):aw k (dS f d nm x).aa=if x.ino=k then (if x.ar=1 then none else some (x.dP (x.ar - 1))) else if d.ino=k then some (d.cE nm) else aw k f.aa:=by
 unfold dS;by_cases hl:x.ar=1
 ·rw[if_pos hl,if_pos hl]
  show aw k (di x.ino (bH _ f.aa))=_;rw[p9,bR];rfl
 ·rw[if_neg hl,if_neg hl]
  show aw k (bH _ (bH _ f.aa))=_;rw[bR,bR];rfl
theorem vk (h:Tree f) (hf:Ent f d nm x e) (hx0:x.entries= []):
 ((dS f d nm x).aa.length:Int)=f.aa.length - (if x.ar=1 then 1 else 0)∧bytesOf (dS f d nm x).aa=bytesOf f.aa - (if x.ar=1 then byt x else 0)∧∀n,fc n (dS f d nm x).aa=fc n f.aa - if x.ino=n then 1 else 0:=by
 have hxd:=hf.ne h;have hs:=h.sort;have hs1:=cg (x:=d.cE nm) hs;have h1:aw x.ino (bH (d.cE nm) f.aa)=some x:=by rw[bR,if_neg (show¬(d.cE nm).ino=x.ino from fun e=>hxd e.symm)];exact hf.hx
 have h2:aw (d.cE nm).ino f.aa=some d:=hf.hd;have a1:(bH (d.cE nm) f.aa).length=f.aa.length:=by rw[gp hs,h2];rfl
 have b:=fa (x:=d.cE nm) hs;rw[h2] at b;simp only[hZ] at b;rw[oL (hf.kind h),oL (show(d.cE nm).kind=2 from hf.kind h)] at b;have c:∀n,fc n (bH (d.cE nm) f.aa)=fc n f.aa - if x.ino=n then 1 else 0:=fun n=>by
  have c:=jQ (x:=d.cE nm) hs n;rw[h2] at c;simp only[hZ] at c;have:=Dx (m:=nm) (h.iy hf.hd).2.2.2.2.1 n;rw[hf.he] at this;simp only[hZ,one,hf.hn] at this;have c1:(d.cE nm).entries=dU nm d.entries:=rfl;rw[c1] at c;omega
 unfold dS;by_cases hl:x.ar=1
 ·simp only[if_pos hl]
  refine⟨?_, ?_,fun n=> ?_⟩
  ·show((di x.ino (bH _ f.aa)).length:Int)=_
   have:=Er (k:=x.ino) hs1;rw[h1] at this;simp only[Option.isSome_some,if_true] at this;omega
  ·show bytesOf (di x.ino (bH _ f.aa))=_
   have:=za (k:=x.ino) hs1;rw[h1] at this;simp only[hZ] at this;omega
  ·show fc n (di x.ino (bH _ f.aa))=_
   have:=Hu (k:=x.ino) hs1 n;rw[h1,←c n] at*;simp only[hZ,hx0] at this;have c0:ec n ([] :List Entry)=0:=rfl;omega
 ·simp only[if_neg hl]
  have h1':aw (x.dP (x.ar - 1)).ino (bH (d.cE nm) f.aa)=some x:=h1;refine⟨?_, ?_,fun n=> ?_⟩
  ·show((bH _ (bH _ f.aa)).length:Int)=_
   rw[gp hs1,h1'];simp only[Option.isSome_some,if_true];omega
  ·show bytesOf (bH _ (bH _ f.aa))=_
   have:=fa (x:=x.dP (x.ar - 1)) hs1;rw[h1'] at this;simp only[hZ,xy] at this;omega
  ·show fc n (bH _ (bH _ f.aa))=_
   have:=jQ (x:=x.dP (x.ar - 1)) hs1 n;rw[h1'] at this;have c0:(x.dP (x.ar - 1)).entries=x.entries:=rfl;simp only[hZ,c0] at this;rw[←c n];omega
theorem DQ (h:Tree f) (hf:Ent f d nm x e) (hx0:x.entries= []):Tree (dS f d nm x):=by
 have hxd:=hf.ne h;have hfind:=fU (f:=f) (d:=d) (x:=x) (nm:=nm) hxd;obtain⟨s1,s2,s3⟩:=vk h hf hx0;have hdk:=h.iy hf.hd;have hxk:=h.iy hf.hx;have hk2:=hf.kind h;have hs:cz (dS f d nm x).aa:=by
  unfold dS;split
  ·exact fi (cg h.sort)
  ·exact cg (cg h.sort)
 have hmx:(dS f d nm x).aq=f.aq∧(dS f d nm x).au=f.au∧(dS f d nm x).next=f.next:=by unfold dS;split<;>exact⟨rfl,rfl,rfl⟩
 generalize dS f d nm x=g at hfind s1 s2 s3 hs hmx;obtain⟨m1,m2,m3⟩:=hmx;have cs:∀k y,aw k g.aa=some y→(k=x.ino∧x.ar≠1∧y=x.dP (x.ar - 1))∨(k=d.ino∧y=d.cE nm)∨(k≠x.ino∧k≠d.ino∧aw k f.aa=some y):=fun k y hy=>by
  rw[hfind] at hy;by_cases e1:x.ino=k
  ·rw[if_pos e1] at hy
   by_cases hl:x.ar=1
   ·rw[if_pos hl] at hy;cases hy
   ·rw[if_neg hl] at hy;cases hy;exact Or.inl ⟨e1.symm,hl,rfl⟩
  ·rw[if_neg e1] at hy
   by_cases e2:d.ino=k
   ·rw[if_pos e2] at hy;cases hy;exact Or.inr (Or.inl ⟨e2.symm,rfl⟩)
   ·rw[if_neg e2] at hy;exact Or.inr (Or.inr ⟨fun e=>e1 e.symm,fun e=>e2 e.symm,hy⟩)
 have on:∀k z,aw k f.aa=some z→(k=x.ino→x.ar≠1)→∃y,aw k g.aa=some y∧y.kind=z.kind∧y.parent=z.parent∧∀e'∈z.entries,(k=d.ino→e'≠e)→e'∈y.entries:=fun k z hz hl=>by
  rw[hfind];by_cases e1:x.ino=k
  ·rw[if_pos e1,if_neg (hl e1.symm)]
   have hz':=hz;rw[←e1,hf.hx] at hz';cases hz';exact⟨_,rfl,rfl,rfl,fun e he _=>he⟩
  ·rw[if_neg e1]
   by_cases e2:d.ino=k
   ·rw[if_pos e2]
    have hz':=hz;rw[←e2,hf.hd] at hz';cases hz';exact⟨_,rfl,rfl,rfl,fun e' he hne=>(hf.db h).2 ⟨he,hne e2.symm⟩⟩
   ·rw[if_neg e2];exact⟨z,hz,rfl,rfl,fun e he _=>he⟩
 have ed:∀j z e',aw j g.aa=some z→e'∈z.entries→∃d0,aw j f.aa=some d0∧e'∈d0.entries∧(j=d.ino→e'≠e):=fun j z e' hz he=>by
  rcases cs j z hz with⟨rfl,_,rfl⟩ |⟨rfl,rfl⟩ |⟨_,h2,hz⟩
  ·exact⟨x,hf.hx,he,fun e=>absurd e hxd⟩
  ·exact⟨d,hf.hd,((hf.db h).1 he).1,fun _=>((hf.db h).1 he).2⟩
  ·exact⟨z,hz,he,fun e=>absurd e h2⟩
 have still:∀j z e',aw j f.aa=some z→e'∈z.entries→(j=d.ino→e'≠e)→e'.ino=x.ino→x.ar≠1:=fun j z e' hz he hne hn hl=>by
  have hc:fc x.ino f.aa≤1:=by rw[←hxk.2.1];omega
  obtain⟨a,b⟩:=tv hc (aW hz).1 he hn (aW hf.hd).1 hf.mem.1 hf.hn;exact hne (by rw[←(aW hz).2,a]) b
 have hreach:∀k,Reach f.aa k→k≠x.ino→Reach g.aa k:=fun k hr=>by
  induction hr with
  |root=>exact fun _=> .root
  |step hr hz he ih=>
   rename_i k' z e';intro hne;have hk':k'≠x.ino:=fun e1=>by
    rw[e1,hf.hx] at hz;cases hz;rw[hx0] at he;cases he
   obtain⟨y,hy,_,_,h4⟩:=on k' z hz (fun e1=>absurd e1 hk');exact Reach.step (ih hk') hy (h4 e' he (fun _ e1=>hne (by rw[e1];exact hf.hn)))
 obtain⟨r,hr,hrk,hrp⟩:=h.root;have hx1:x.ino≠1:=fun e1=>h.wX hf.hd hf.mem.1 (by rw[hf.hn,e1])
 refine yG (by rw[m1];exact h.ui) (by rw[m2];exact h.um) (by rw[m3];exact h.next) hs (fun k y hy=> ?_) ?_ (fun k y hy=> ?_) (fun k y hy e' he'=> ?_) (fun k y hy=> ?_) ?_ (fun k y hy hd=> ?_) (fun k y hy hd j z hz e' he' hn=> ?_) (fun k y hy=> ?_) ?_
 ·rw[m3]
  rcases cs k y hy with⟨rfl,_⟩ |⟨rfl,_⟩ |⟨_,_,hy⟩
  ·exact⟨hxk.2.2.1,hxk.2.2.2.1⟩
  ·exact⟨hdk.2.2.1,hdk.2.2.2.1⟩
  ·have:=h.iy hy
   exact⟨this.2.2.1,this.2.2.2.1⟩
 ·obtain⟨y,hy,h2,h3,_⟩:=on 1 r hr (fun e1=>absurd e1.symm hx1)
  exact⟨y,hy,by rw[h2];exact hrk,by rw[h3];exact hrp⟩
 ·rcases cs k y hy with⟨_,_,rfl⟩ |⟨_,rfl⟩ |⟨_,_,hy⟩
  ·exact uQ hxk.1
  ·exact vr hdk.1 hk2 (vO hdk.2.2.2.2.2)
  ·exact(h.iy hy).1
 ·obtain⟨d0,q1,q2,q3⟩:=ed k y e' hy he'
  obtain⟨z,hz⟩:=h.to q1 q2;obtain⟨y',hy',_⟩:=on _ z hz (fun e1=>still _ _ _ q1 q2 q3 e1);exact⟨y',hy'⟩
 ·rw[s3]
  rcases cs k y hy with⟨rfl,_,rfl⟩ |⟨rfl,rfl⟩ |⟨e1,_,hy⟩
  ·rw[if_pos rfl]
   have:=hxk.2.1;show x.ar - 1=_;omega
  ·rw[if_neg hxd]
   have:=hdk.2.1;show d.ar=_;omega
  ·rw[if_neg (fun e=>e1 e.symm)]
   have:=(h.iy hy).2.1;omega
 ·rw[s3,if_neg hx1,h.se];rfl
 ·rw[s3]
  rcases cs k y hy with⟨rfl,_,rfl⟩ |⟨rfl,rfl⟩ |⟨e1,_,hy⟩
  ·have:=h.sr hf.hx hd
   rw[if_pos rfl];omega
  ·rw[if_neg hxd]
   have:=h.sr hf.hd hk2;omega
  ·rw[if_neg (fun e=>e1 e.symm)]
   have:=h.sr hy hd;omega
 ·obtain⟨d0,q1,q2,q3⟩:=ed j z e' hz he'
  rcases cs k y hy with⟨rfl,_,rfl⟩ |⟨rfl,rfl⟩ |⟨e1,_,hy⟩
  ·show x.parent=j
   exact h.parent hf.hx hd q1 q2 hn
  ·show d.parent=j
   exact h.parent hf.hd hk2 q1 q2 hn
  ·exact h.parent hy hd q1 q2 hn
 ·by_cases e1:k=x.ino
  ·subst e1
   rcases cs _ y hy with⟨_,hl,_⟩ |⟨e2,_⟩ |⟨e2,_⟩
   ·have hp:0<fc x.ino g.aa:=by
     rw[s3,if_pos rfl];have h1:=u3 (aW hf.hd).1 hf.mem.1 hf.hn;have h2:=hxk.2.1;omega
    obtain⟨z,hz,e',he',hn⟩:=F2 hp;have hz:=eh hs hz;have hzx:z.ino≠x.ino:=fun e1=>by
     rw[e1] at hz;obtain⟨d0,q1,q2,_⟩:=ed _ z e' hz he';rw[hf.hx] at q1;cases q1;rw[hx0] at q2;cases q2
    obtain⟨d0,q1,_⟩:=ed _ z e' hz he';have:=Reach.step (hreach _ (h.vY q1) hzx) hz he';rw[hn] at this;exact this
   ·exact absurd e2 hxd
   ·exact absurd rfl e2
  ·have:∃z,aw k f.aa=some z:=by
    rcases cs _ y hy with⟨e2,_⟩ |⟨rfl,_⟩ |⟨_,_,hy⟩
    ·exact absurd e2 e1
    ·exact⟨d,hf.hd⟩
    ·exact⟨y,hy⟩
   obtain⟨z,hz⟩:=this;exact hreach _ (h.vY hz) e1
 ·have hff:=h.fits
  have hbx:0≤byt x:=by unfold byt;split<;>omega
  unfold du at hff⊢;simp only[Bool.and_eq_true,decide_eq_true_eq] at hff⊢;rw[m1,m2];split at s1<;>rename_i hl
  ·rw[if_pos hl] at s2;omega
  ·rw[if_neg hl] at s2;omega
end
end Go.Eng
set_option linter.unusedSimpArgs false
set_option linter.unusedVariables false
set_option linter.unusedSectionVars false
namespace Go.Eng
open Go
structure Bd (n:Nat) (f:Fs):Prop where
 len:f.aa.length≤n
 db:∀x∈f.aa,x.entries.length≤n
 data:∀x∈f.aa,x.data.length≤10000000
structure Ew (f:Fs):Prop where
 tr:Tree f
 sm:SmF f
 wf:WF f
 ws:WS f
 lil:Lil f
 tot:(dt f.aa).length≤536870912
section
variable {f:Fs} {n m:Nat}
theorem Bd.mono (h:Bd n f) (hm:n≤m):Bd m f:=
 ⟨Nat.le_trans h.len hm,fun x hx=>Nat.le_trans (h.db x hx) hm,h.data⟩
theorem Bd.sm (h:Bd n f) (hn:n≤10000) (ht:Tree f):SmF f:=by
 refine⟨by have:=h.len;omega,fun x hx=>by have:=h.data x hx;omega,fun x hx=>by have:=h.db x hx;omega,fun x hx e he=> ?_⟩;have h1:=(gB x.entries).1 (qe (ht.kind x hx));have:=mI (h1.2 e he).1;omega
theorem sw (ht:Tree f) (h:Bd n f) (hn:n≤10000):Ew f:=by
 have hm:=h.sm hn ht;have hw:=ht.wf hm;have hl:=h.len;refine⟨ht,hm,hw,ht.ws hw,⟨by omega,fun x hx=>by have:=h.db x hx;omega⟩, ?_⟩;have h1:=uF (N:=10000) (l:=f.aa) (fun x hx=>by have:=h.db x hx;omega);have:f.aa.length*10000≤10000*10000:=Nat.mul_le_mul_right _ (by omega);omega
theorem Ev.bd (e:Ev f):Bd 40 f:=⟨e.len,fun x hx=>(e.few x hx).2.1,fun x hx=>by have:=(e.few x hx).1;omega⟩
theorem Ev.ew (e:Ev f):Ew f:=sw e.tr e.bd (by omega)
theorem Ew.check (e:Ew f):eY f=some 0:=by rw[oA e.sm e.tot,e.tr.check]
theorem Ew.same (e:Ew f) (g:Fs):jF f g=some (decide (f=g)):=mg e.sm.len e.sm.db
theorem Bd.set (h:Bd n f) {y:ae} (hm:n+1≤m) (he:y.entries.length≤m) (hd:y.data.length≤10000000):Bd m (f.set y):=by
 refine⟨by have:= @lI f y;have:=h.len;omega,fun x hx=> ?_,fun x hx=> ?_⟩
 ·rcases eJ.1 hx with rfl|⟨hx,_⟩
  ·exact he
  ·have:=h.db x hx;omega
 ·rcases eJ.1 hx with rfl|⟨hx,_⟩
  ·exact hd
  ·exact h.data x hx
theorem Bd.put (h:Bd n f) (hs:cz f.aa) {y z:ae} (hz:aw y.ino f.aa=some z) (hm:n≤m) (he:y.entries.length≤m) (hd:y.data.length≤10000000):Bd m (f.set y):=by
 refine⟨?_,fun x hx=> ?_,fun x hx=> ?_⟩
 ·have:=gp (x:=y) hs
  rw[hz] at this;have h1:(bH y f.aa).length=f.aa.length:=this;have:=h.len;show(bH y f.aa).length≤m;omega
 ·rcases eJ.1 hx with rfl|⟨hx,_⟩
  ·exact he
  ·have:=h.db x hx;omega
 ·rcases eJ.1 hx with rfl|⟨hx,_⟩
  ·exact hd
  ·exact h.data x hx
theorem Bd.drop (h:Bd n f) {k:Int}:Bd n (f.drop k):=by
 refine⟨by have h1:(di k f.aa).length≤f.aa.length:=dp;have:=h.len;show(di k f.aa).length≤n;omega,fun x hx=> ?_,fun x hx=> ?_⟩
 ·exact h.db x (fp.1 hx).1
 ·exact h.data x (fp.1 hx).1
theorem Bd.find (h:Bd n f) {k:Int} {x:ae} (hx:aw k f.aa=some x):x.entries.length≤n∧x.data.length≤10000000:=⟨h.db x (aW hx).1,h.data x (aW hx).1⟩
theorem Bd.get (h:Bd n f) (k:Int):(aM k f.aa).entries.length≤n∧(aM k f.aa).data.length≤10000000:=by
 cases hf:aw k f.aa with
 |none=>rw[dN hf];simp [kj]
 |some x=>rw[bx hf];exact h.find hf
theorem q5 (e:Entry) (l:List Entry):(hY e l).length≤l.length+1:=lx
theorem rA (n:Str) (l:List Entry):(dU n l).length≤l.length:=dp
theorem eX (h:cz f.aa) (x:ae):cz (f.set x).aa:=cg h
theorem pZ (h:WF f) (k:Int):hC (aM k f.aa).entries:=by
 cases hf:aw k f.aa with
 |none=>rw[dN hf];exact List.Pairwise.nil
 |some x=>rw[bx hf];exact h.U6 (aW hf).1
end
end Go.Eng
