/- A part of the proofs of the laws of this seat: the engine that reads the program's code, plain functions, or facts of the program's functions. Conditions: none. -/
import Derived.Test.YtcilfbaaaipbcaaGreatDoorP1
import Derived.Test.YtcilfbaaaipbcaaGreatDoorE2
import Derived.Test.YtcilfbaaaipbcaaGreatDoorE4
set_option linter.unusedSectionVars false
set_option linter.unusedVariables false
set_option linter.unusedSimpArgs false
set_option linter.unnecessarySimpa false
set_option maxRecDepth 100000
namespace Go.Eng
open Go
def lu (b:UInt8):Bool:=b==47||b==0
def eL (s:Str):Bool:= !(s== [])&&(decide (s.length≤255)&&(!(s.any lu)&&(!(s==[46])&& !(s==[46,46]))))
theorem Aa {R:Type} (k:Nat→Option R):∀(m i n:Nat),i≤n→n<i+m→splitK (n:Int) m i k=k n
 |0,i,n,h1,h2=>by omega
 |m+1,i,n,h1,h2=>by
  unfold splitK;by_cases h:n=i
  ·subst h;simp
  ·have e:((n:Int)==(i:Int))=false:=by rw[beq_eq_false_iff_ne];omega
   rw[e,ax];exact Aa k m (i+1) n (by omega) (by omega)
theorem UK (b:UInt8):b.toNat<256:=b.toNat_lt
theorem xt (b:UInt8) (n:Nat) (h:n<256):Nat.beq b.toNat n=(b==UInt8.ofNat n):=by
 rw[Bool.eq_iff_iff,beq_iff_eq];constructor
 ·intro e
  have e:=Nat.eq_of_beq_eq_true e;apply UInt8.toNat_inj.1;rw[UInt8.toNat_ofNat',e];omega
 ·intro e
  subst e;rw[UInt8.toNat_ofNat'];have:n%2^8=n:=Nat.mod_eq_of_lt h;rw[this];simp
theorem jo (b:UInt8) (n:Nat) (h:n<256):((b.toNat:Int)==(n:Int))=(b==UInt8.ofNat n):=by
 rw[←xt b n h,Bool.eq_iff_iff];constructor
 ·intro e
  have e:=beq_iff_eq.1 e;have:b.toNat=n:=by omega
  rw[this];simp
 ·intro e
  have e:=Nat.eq_of_beq_eq_true e;rw[e];simp
theorem jx {α R:Type} (p:α→Bool) (kr:Nat→α→Option R) (k0:Option R) (r:Option R) (hr:∀k x,kr k x=r):∀(l:List α) (k:Nat) (s:Unit),dL (fun k x s K=>if p x then kr k x else K s) (fun _=>k0) k l s=if l.any p then r else k0
 | [],_,_=>rfl
 |x::l,k,s=>by
  simp only[dL,List.any_cons];by_cases h:p x=true
  ·simp [h,hr]
  ·simp [h,jx p kr k0 r hr l]
theorem MD {s:Str} (hl:s.length≤1099511627775):cz s (fun z6=>some (decide (z6≥(0:Int)))) (some false) bw (0:Int)=some (s.any lu):=by
 refine(bU (l:=s) (fun n i (_:Unit)=>cz s (fun z6=>some (decide (z6≥(0:Int)))) (some false) n i) (fun k x s K=>if lu x then some (decide ((k:Int)≥(0:Int))) else K s) (fun _=>some false) hl (fun n k x u hk hx=> ?_) (fun n u=> ?_) ()).trans ?_
 ·simp only[cz]
  rw[dec_lt hk,bP,toNat_cast,hx,bc (by omega)];simp only[ay,ah,aZ,if_true];rw[Aa _ _ _ _ (Nat.zero_le _) (by have:=UK x;omega),xt x 0 (by omega),xt x 47 (by omega)];unfold lu;rw[Bool.or_comm];rfl
 ·simp only[cz]
  rw[bW (Nat.le_refl _)];rfl
 ·rw[jx lu _ _ (some true) (fun k x=>by simp)]
  cases s.any lu<;>rfl
theorem Ck {s:Str} {i:Nat} {x:UInt8} (h:s[i]? =some x):
 (x.toNat<128∧bA s i=(x.toNat,1))∨(128≤x.toNat∧128≤(bA s i).1∧1≤(bA s i).2∧∀j,j<(bA s i).2→∃b,s[i+j]? =some b∧128≤b.toNat):=by
 have hget:∀k b,s[i+k]? =some b→(ByteArray.get! ⟨s.toArray⟩ (i+k))=b:=by
  intro k b hb;have:(ByteArray.mk s.toArray).get! (i+k)=s.toArray[i+k]! :=rfl;rw[this];simp [hb]
 have hx0:(ByteArray.get! ⟨s.toArray⟩ (i+0))=x:=hget 0 x (by simpa using h);have hcont:∀k,((decide (i+k<(ByteArray.mk s.toArray).size)&&((ByteArray.get! ⟨s.toArray⟩ (i+k)).toNat/64==2))=true)→∃b,s[i+k]? =some b∧128≤b.toNat:=by
  intro k hk;simp only[Bool.and_eq_true,decide_eq_true_eq,beq_iff_eq] at hk;obtain⟨h1,h2⟩:=hk;have h1':i+k<s.length:=h1;refine⟨s[i+k],by simp [h1'], ?_⟩;rw[hget k s[i+k] (by simp [h1'])] at h2;omega
 unfold bA Utf8.decode;simp only[hx0];by_cases hb:x.toNat<128
 ·left;exact⟨hb,by rw[if_pos hb]⟩
 ·right
  refine⟨by omega, ?_⟩;rw[if_neg hb];have base:∃b,s[i+0]? =some b∧128≤b.toNat:=⟨x,by simpa using h,by omega⟩;have one:128≤((Utf8.runeError,1):Nat×Nat).1∧1≤((Utf8.runeError,1):Nat×Nat).2∧∀j,j<((Utf8.runeError,1):Nat×Nat).2→∃b,s[i+j]? =some b∧128≤b.toNat:=by
   refine⟨by decide,by decide,fun j hj=> ?_⟩;have:j=0:=by simp at hj;exact hj
   subst this;exact base
  split
  ·rename_i hc
   simp only[Bool.and_eq_true] at hc;have c1:=hcont 1 (by simpa using hc.2);split
   ·rename_i hv
    refine⟨by simpa using hv,by show 1≤2;omega,fun j hj=> ?_⟩;simp at hj;have:j=0∨j=1:=by omega
    rcases this with rfl|rfl
    ·exact base
    ·exact c1
   ·exact one
  ·split
   ·rename_i hc
    simp only[Bool.and_eq_true] at hc;have c1:=hcont 1 (by simpa using hc.1.2);have c2:=hcont 2 (by simpa using hc.2);split
    ·rename_i hv
     simp only[Bool.and_eq_true,decide_eq_true_eq] at hv;refine⟨by simp;omega,by show 1≤3;omega,fun j hj=> ?_⟩;simp at hj;have:j=0∨j=1∨j=2:=by omega
     rcases this with rfl|rfl|rfl
     ·exact base
     ·exact c1
     ·exact c2
    ·exact one
   ·split
    ·rename_i hc
     simp only[Bool.and_eq_true] at hc;have c1:=hcont 1 (by simpa using hc.1.1.2);have c2:=hcont 2 (by simpa using hc.1.2);have c3:=hcont 3 (by simpa using hc.2);split
     ·rename_i hv
      simp only[Bool.and_eq_true,decide_eq_true_eq] at hv;refine⟨by simp;omega,by show 1≤4;omega,fun j hj=> ?_⟩;simp at hj;have:j=0∨j=1∨j=2∨j=3:=by omega
      rcases this with rfl|rfl|rfl|rfl
      ·exact base
      ·exact c1
      ·exact c2
      ·exact c3
     ·exact one
    ·exact one
theorem u3 {s:Str}:∀(w i:Nat),(∀j,j<w→∃b,s[i+j]? =some b∧128≤b.toNat)→(s.drop i).any lu=(s.drop (i+w)).any lu
 |0,i,_=>rfl
 |w+1,i,h=>by
  obtain⟨b,hb,h128⟩:=h 0 (by omega);simp only[Nat.add_zero] at hb;have hi:=(List.getElem?_eq_some_iff.1 hb).1;obtain⟨x,hx,hd⟩:=wq hi;rw[hb] at hx;cases hx;rw[hd,List.any_cons,u3 w (i+1) (fun j hj=>by
   obtain⟨b,h1,h2⟩:=h (j+1) (by omega);exact⟨b,by rw[←h1];congr 1;omega,h2⟩)]
  have hn:lu b=false:=by
   unfold lu;simp only[Bool.or_eq_false_iff,beq_eq_false_iff_ne];constructor<;>(intro e;subst e;revert h128;decide)
  rw[hn,Bool.false_or];congr 2;omega
theorem Dt {s:Str} {w i:Nat} (h1:1≤w) (h:∀j,j<w→∃b,s[i+j]? =some b∧128≤b.toNat):i+w≤s.length:=by
 obtain⟨b,hb,_⟩:=h (w - 1) (by omega);have:=(List.getElem?_eq_some_iff.1 hb).1;omega
theorem I9:∃m,bw=m+3:=⟨bw - 3,by have:=sU;omega⟩
theorem L_ {r:Nat} (h:128≤r):(2=(Utf8.encode (r:Int)).data.toList.length∧∃a b:UInt8,(Utf8.encode (r:Int)).data.toList=[a,b]∧128≤b.toNat)∨3≤(Utf8.encode (r:Int)).data.toList.length:=by
 unfold Utf8.encode;have hc:128≤(if Utf8.valid (r:Int) then (r:Int).toNat else Utf8.runeError):=by
  split
  ·simpa using h
  ·decide
 generalize (if Utf8.valid (r:Int) then (r:Int).toNat else Utf8.runeError)=c at hc;simp only;rw[if_neg (by omega)];split
 ·left
  refine⟨rfl,_,_,rfl, ?_⟩;rw[UInt8.toNat_ofNat'];omega
 ·right
  split
  ·exact Nat.le_refl 3
  ·show 3≤4;omega
theorem Zo {R:Type} {e:Str} (kr:Int→Option R) (k1:Option R) (r:Option R) (h:(∃a b:UInt8,e=[a,b]∧128≤b.toNat)∨3≤e.length) (hs:e.length≤10) (h1:kr (-1)=r) (h2:k1=r):
 bJ e (IntKind.i64.wrap ((List.length e:Int) - (1:Int))) (IntKind.i64.wrap ((List.length e:Int) - (1:Int))) kr k1 bw=r:=by
 obtain⟨m,hm⟩:=I9;rw[hm];simp only[bJ];rcases h with⟨a,b,rfl,hb⟩ |h
 ·have e1:IntKind.i64.wrap ((List.length [a,b]:Int) - (1:Int))=1:=by rfl
  rw[e1];have e2:((UInt8.toNat (0:UInt8):Int) !=(UInt8.toNat b:Int))=true:=by
   rw[bne_iff_ne];simp;omega
  have e3:Lib.indexByte ([] :Str) ((UInt8.toNat b:Int)).toNat.toUInt8= -1:=rfl;show ae true (ae true (aj (some (0:UInt8)) fun c31=>ae true (aj (some b) fun c32=>_) none) none) k1=r;simp only[ay,ah,e2];exact h1
 ·rw[cd (by omega) (by omega)]
  have:decide (((e.length:Int) - 1)<(2:Int))=false:=by simp;omega
  rw[this,ax,h2]
theorem Qb {R:Type} (kr:Int→Option R) (k9:Option R):cK ([47,0]:Str) kr k9 bw 0=k9:=by
 obtain⟨m,hm⟩:=I9;rw[hm];rfl
theorem So (r:Int):(Utf8.encode r).data.toList.length≤10:=by
 unfold Utf8.encode;simp only;generalize (if Utf8.valid r then r.toNat else Utf8.runeError)=c;split
 ·show 1≤10;omega
 ·split
  ·show 2≤10;omega
  ·split
   ·show 3≤10;omega
   ·show 4≤10;omega
theorem Kx {s:Str} (hl:s.length≤1099511627775):∀(n i:Nat),i≤s.length→s.length - i<n→aJ s (fun z67=>some (decide (z67≥(0:Int)))) (some false) n i=some ((s.drop i).any lu):=by
 intro n;induction n with
 |zero=>intro i _ h;omega
 |succ n ih=>
  intro i hi hn;simp only[aJ];by_cases hlt:i<s.length
  ·have e0:Nat.blt i s.length=true:=by simpa [Nat.blt_eq] using hlt
   rw[e0,ay];obtain⟨x,hx,hd⟩:=wq hlt;rcases Ck hx with⟨h1,h2⟩ |⟨h1,h2,h3,h4⟩
   ·rw[h2]
    simp only;have a1:decide ((0:Int)≤(x.toNat:Int))=true:=by simp
    have a2:decide ((x.toNat:Int)<(128:Int))=true:=by simp;omega
    rw[a1,a2,ay,ay];have a3:IntKind.u8.wrap (x.toNat:Int)=(x.toNat:Int):=by
     simp [IntKind.wrap,IntKind.bits,IntKind.signed];omega
    rw[a3];unfold stringslite_IndexByte;have a4:((x.toNat:Int).toNat.toUInt8)=x:=by
     apply UInt8.toNat_inj.1;simp
    rw[a4,ah,hd,List.any_cons];by_cases hb:lu x=true
    ·rw[hb]
     have:Lib.indexByte ([47,0]:Str) x≥0:=by
      unfold lu at hb;simp at hb;rcases hb with rfl|rfl<;>decide
     rw[decide_eq_true this];simp
    ·have hb':lu x=false:=by simpa using hb
     rw[hb'];have:¬Lib.indexByte ([47,0]:Str) x≥0:=by
      unfold lu at hb';simp only[Bool.or_eq_false_iff,beq_eq_false_iff_ne] at hb';have e1:((47:UInt8)==x)=false:=by rw[beq_eq_false_iff_ne];exact fun e=>hb'.1 e.symm
      have e2:((0:UInt8)==x)=false:=by rw[beq_eq_false_iff_ne];exact fun e=>hb'.2 e.symm
      simp [Lib.indexByte,e1,e2]
     rw[decide_eq_false this,ax,ih (i+1) (by omega) (by omega),Bool.false_or]
   ·have hw:=Dt h3 h4
    have hrec:=ih (i+(bA s i).2) hw (by omega);rw[←u3 _ _ h4] at hrec;generalize hr:aJ s (fun z67=>some (decide (z67≥(0:Int)))) (some false) n (i+(bA s i).2)=rc at hrec;subst hrec;have b1:decide ((0:Int)≤((bA s i).1:Int))=true:=by simp
    have b2:decide (((bA s i).1:Int)<(128:Int))=false:=by simp;omega
    have he:=L_ h2;have he':(∃a b:UInt8,(Utf8.encode ((bA s i).1:Int)).data.toList=[a,b]∧128≤b.toNat)∨3≤(Utf8.encode ((bA s i).1:Int)).data.toList.length:=by
     rcases he with⟨_,h⟩ |h
     ·exact Or.inl h
     ·exact Or.inr h
    have h5:∀kr:Int→Option Bool,kr (-1)=some ((s.drop i).any lu)→bJ (Utf8.encode ((bA s i).1:Int)).data.toList (IntKind.i64.wrap ((List.length (Utf8.encode ((bA s i).1:Int)).data.toList:Int) - (1:Int))) (IntKind.i64.wrap ((List.length (Utf8.encode ((bA s i).1:Int)).data.toList:Int) - (1:Int))) kr (some ((s.drop i).any lu)) bw=some ((s.drop i).any lu):=
     fun kr hk=>Zo _ _ _ he' (So _) hk rfl
    rw[b1,b2,ay,ax];simp only[Qb];rw[h5 _ (by rfl)];simp only[aZ,if_true]
    repeat' split
    all_goals rfl
  ·have e0:Nat.blt i s.length=false:=by
    cases h:Nat.blt i s.length with
    |false=>rfl
    |true=>exact absurd (Nat.le_of_ble_eq_true h) (by omega)
   rw[e0,ax,List.drop_eq_nil_of_le (by omega)];rfl
theorem oS {s:Str} (hl:s.length≤1099511627775):fL s=some (s.any lu):=by
 unfold fL;rw[MD hl,Kx hl bw 0 (Nat.zero_le _) (iu (by omega))];simp [aZ]
theorem qj {s:Str} (hl:s.length≤1099511627775):mu s=some (eL s):=by
 unfold mu eL;rw[oS hl];have e:decide ((List.length s:Int)≤(255:Int))=decide (s.length≤255):=by
  rw[decide_eq_decide];omega
 rw[e];simp only[ah,aZ];cases (!(s==([] :Str)))<;>cases decide (s.length≤255)<;>cases (s.any lu)<;>cases (!(s==([46]:Str)))<;>simp
theorem lG {s:Str} (hl:s.length≤1099511627775):j5 s=some (eL s):=by
 unfold j5;refine(bU (l:=s) (fun n i (_:Unit)=>iw s (some false) (ae (decide ((List.length s:Int)≥(1:Int))) (ae (decide ((List.length s:Int)≤(255:Int))) (ae (!(s==([46]:Str))) (some (!(s==([46,46]:Str)))) (some false)) (some false)) (some false)) n i) (fun k x s K=>if lu x then some false else K s) (fun _=>(ae (decide ((List.length s:Int)≥(1:Int))) (ae (decide ((List.length s:Int)≤(255:Int))) (ae (!(s==([46]:Str))) (some (!(s==([46,46]:Str)))) (some false)) (some false)) (some false))) hl (fun n k x u hk hx=> ?_) (fun n u=> ?_) ()).trans ?_
 ·simp only[iw]
  rw[dec_lt hk,bP,toNat_cast,hx,bc (by omega)];simp only[ay,ah,aZ,if_true];have e1:((UInt8.toNat x:Int)==(47:Int))=(x==47):=jo x 47 (by omega);have e2:((UInt8.toNat x:Int)==(0:Int))=(x==0):=jo x 0 (by omega);rw[e1,e2];unfold lu;cases (x==47)<;>simp
 ·simp only[iw]
  rw[bW (Nat.le_refl _)];rfl
 ·rw[jx lu _ _ (some false) (fun k x=>rfl)]
  unfold eL;have e:decide ((List.length s:Int)≤(255:Int))=decide (s.length≤255):=by
   rw[decide_eq_decide];omega
  have e':decide ((List.length s:Int)≥(1:Int))= !(s==([] :Str)):=by
   cases s with
   |nil=>rfl
   |cons a l=>
    have:(a::l==([] :Str))=false:=rfl;rw[this];simp;omega
  rw[e,e'];simp only[aZ];cases (!(s==([] :Str)))<;>cases decide (s.length≤255)<;>cases (s.any lu)<;>cases (!(s==([46]:Str)))<;>simp
abbrev ltS (a b:Str):Bool:=Op.bytesLess a b
theorem mq:∀a:Str,ltS a a=false
 | [] =>rfl
 |a::l=>by
  have:=mq l;simp only[ltS] at this;simp [ltS,Op.bytesLess,this,UInt8.lt_irrefl]
theorem qV:∀{a b c:Str},ltS a b=true→ltS b c=true→ltS a c=true
 | [], [],_,h,_=>by simp [ltS,Op.bytesLess] at h
 | [],_::_, [],_,h=>by simp [ltS,Op.bytesLess] at h
 | [],_::_,_::_,_,_=>rfl
 |_::_, [],_,h,_=>by simp [ltS,Op.bytesLess] at h
 |_::_,_::_, [],_,h=>by simp [ltS,Op.bytesLess] at h
 |a::l,b::m,c::k,h1,h2=>by
  simp only[ltS,Op.bytesLess,Bool.or_eq_true,decide_eq_true_eq,Bool.and_eq_true,beq_iff_eq] at h1 h2⊢;rcases h1 with h1|⟨rfl,h1⟩
  ·rcases h2 with h2|⟨rfl,h2⟩
   ·exact Or.inl (UInt8.lt_trans h1 h2)
   ·exact Or.inl h1
  ·rcases h2 with h2|⟨rfl,h2⟩
   ·exact Or.inl h2
   ·exact Or.inr ⟨rfl,qV h1 h2⟩
theorem BE:∀a b:Str,ltS a b=true∨a=b∨ltS b a=true
 | [], [] =>Or.inr (Or.inl rfl)
 | [],_::_=>Or.inl rfl
 |_::_, [] =>Or.inr (Or.inr rfl)
 |a::l,b::m=>by
  simp only[ltS,Op.bytesLess,Bool.or_eq_true,decide_eq_true_eq,Bool.and_eq_true,beq_iff_eq,List.cons.injEq];rcases UInt8.lt_or_lt_of_ne (a:=a) (b:=b) |> fun h=>(Decidable.em (a=b)).elim (fun e=>Or.inr e) (fun e=>Or.inl (h e)) with h|rfl
  ·rcases h with h|h
   ·exact Or.inl (Or.inl h)
   ·exact Or.inr (Or.inr (Or.inl h))
  ·rcases BE l m with h|rfl|h
   ·exact Or.inl (Or.inr ⟨rfl,h⟩)
   ·exact Or.inr (Or.inl ⟨rfl,rfl⟩)
   ·exact Or.inr (Or.inr (Or.inr ⟨rfl,h⟩))
theorem Aw {a b:Str} (h:ltS a b=true):ltS b a=false:=by
 cases h':ltS b a
 ·rfl
 ·have:=qV h h';rw[mq] at this;cases this
theorem Sv {a b:Str} (h:ltS a b=true):a≠b:=by intro e;subst e;rw[mq] at h;cases h
theorem yG:∀a b:Str,decide (Lib.compareBytes a b<0)=ltS a b
 | [], [] =>rfl
 | [],_::_=>rfl
 |_::_, [] =>rfl
 |a::l,b::m=>by
  simp only[Lib.compareBytes,ltS,Op.bytesLess];by_cases h:a<b
  ·simp [h]
  ·by_cases h':b<a
   ·have hne:(a==b)=false:=by rw[beq_eq_false_iff_ne];intro e;subst e;exact UInt8.lt_irrefl _ h'
    simp [h,h',hne]
   ·have he:a=b:=UInt8.le_antisymm (UInt8.not_lt.1 h') (UInt8.not_lt.1 h)
    subst he;have:=yG l m;simp only[if_neg h,decide_eq_false h,beq_self_eq_true,Bool.true_and,Bool.false_or];exact this
theorem yg:∀a b:Str,(Lib.compareBytes a b==0)=(a==b)
 | [], [] =>rfl
 | [],_::_=>rfl
 |_::_, [] =>rfl
 |a::l,b::m=>by
  simp only[Lib.compareBytes];by_cases h:a<b
  ·have hne:(a==b)=false:=by rw[beq_eq_false_iff_ne];intro e;subst e;exact UInt8.lt_irrefl _ h
   rw[if_pos h];have:(a::l==b::m)=false:=by rw[beq_eq_false_iff_ne] at hne⊢;intro e;cases e;exact hne rfl
   rw[this];rfl
  ·rw[if_neg h]
   by_cases h':b<a
   ·have hne:(a==b)=false:=by rw[beq_eq_false_iff_ne];intro e;subst e;exact UInt8.lt_irrefl _ h'
    rw[if_pos h'];have:(a::l==b::m)=false:=by rw[beq_eq_false_iff_ne] at hne⊢;intro e;cases e;exact hne rfl
    rw[this];rfl
   ·rw[if_neg h']
    have he:a=b:=UInt8.le_antisymm (UInt8.not_lt.1 h') (UInt8.not_lt.1 h);subst he;rw[yg l m,Bool.eq_iff_iff];simp
structure LO {κ:Type} (lt:κ→κ→Bool):Prop where
 irrefl:∀a,lt a a=false
 trans:∀{a b c},lt a b=true→lt b c=true→lt a c=true
 tri:∀a b,lt a b=true∨a=b∨lt b a=true
def ltI (a b:Int):Bool:=decide (a<b)
theorem loI:LO ltI where
 irrefl a:=by simp [ltI]
 trans h1 h2:=by simp only[ltI,decide_eq_true_eq] at*;omega
 tri a b:=by simp only[ltI,decide_eq_true_eq];omega
section
set_option linter.unusedSectionVars false
variable {α κ:Type} [DecidableEq κ] {lt:κ→κ→Bool} {key:α→κ}
def dg (lt:κ→κ→Bool) (key:α→κ) (l:List α):Prop:=l.Pairwise fun x y=>lt (key x) (key y)=true
def dP (lt:κ→κ→Bool) (key:α→κ) (k:κ):List α→Nat
 | [] =>0
 |x::l=>if lt (key x) k then dP lt key k l+1 else 0
def b7 (key:α→κ) (k:κ) (l:List α):Option α:=l.find? fun x=>decide (key x=k)
def jc (lt:κ→κ→Bool) (key:α→κ) (x:α):List α→List α
 | [] =>[x]
 |y::l=>if lt (key x) (key y) then x::y::l else y::jc lt key x l
def eJ (key:α→κ) (k:κ) (l:List α):List α:=l.filter fun y=> !decide (key y=k)
def o7 (lt:κ→κ→Bool) (key:α→κ) (x:α) (l:List α):List α:=jc lt key x (eJ key (key x) l)
theorem LO.asymm (O:LO lt) {a b:κ} (h:lt a b=true):lt b a=false:=by
 cases h':lt b a
 ·rfl
 ·have:=O.trans h h';rw[O.irrefl] at this;cases this
theorem LO.ne (O:LO lt) {a b:κ} (h:lt a b=true):a≠b:=by intro e;subst e;rw[O.irrefl] at h;cases h
theorem m6 {k:κ} (l:List α):dP lt key k l≤l.length:=by
 induction l with
 |nil=>exact Nat.le_refl _
 |cons x l ih=>
  simp only[dP];split<;>simp only[List.length_cons]<;>omega
theorem q7 {k:κ}:∀{l:List α} {j:Nat} {x:α},j<dP lt key k l→l[j]? =some x→lt (key x) k=true
 | [],j,x,h,_=>by simp [dP] at h
 |y::l,j,x,h,hx=>by
  simp only[dP] at h;split at h
  ·rename_i hy
   cases j with
   |zero=>simp at hx;subst hx;exact hy
   |succ j=>exact q7 (l:=l) (j:=j) (by omega) (by simpa using hx)
  ·omega
theorem tf (O:LO lt) {k:κ}:∀{l:List α} {j:Nat} {x:α},dg lt key l→dP lt key k l≤j→l[j]? =some x→lt (key x) k=false
 | [],j,x,_,_,hx=>by simp at hx
 |y::l,j,x,hs,h,hx=>by
  simp only[dP] at h;unfold dg at hs;rw[List.pairwise_cons] at hs;split at h
  ·cases j with
   |zero=>omega
   |succ j=>exact tf O (l:=l) (j:=j) hs.2 (by omega) (by simpa using hx)
  ·rename_i hy
   cases j with
   |zero=>simp at hx;subst hx;simpa using hy
   |succ j=>
    have h2:x∈l:=List.mem_of_getElem? (by simpa using hx);cases h':lt (key x) k
    ·rfl
    ·have:=O.trans (hs.1 x h2) h'
     exact absurd this hy
theorem Kq (O:LO lt) {k:κ}:∀{l:List α},dg lt key l→(∀x∈l,lt k (key x)=true)→b7 key k l=none:=by
 intro l _ h;unfold b7;rw[List.find?_eq_none];intro x hx;have:=O.ne (h x hx);simp;exact fun e=>this e.symm
theorem jU (O:LO lt) {k:κ}:∀{l:List α},dg lt key l→b7 key k l=aj l[dP lt key k l]? fun x=>if key x=k then some x else none
 | [],_=>rfl
 |y::l,hs=>by
  unfold dg at hs;rw[List.pairwise_cons] at hs;have ih:=jU O (k:=k) hs.2;simp only[dP];by_cases hy:lt (key y) k=true
  ·rw[if_pos hy]
   simp only[List.getElem?_cons_succ];rw[←ih];unfold b7;rw[List.find?_cons];simp [O.ne hy]
  ·rw[if_neg hy]
   simp only[List.getElem?_cons_zero,ah];unfold b7;rw[List.find?_cons];by_cases he:key y=k
   ·simp [he]
   ·simp only[he,decide_false,if_false]
    have h1:lt k (key y)=true:=by
     rcases O.tri (key y) k with h|h|h
     ·exact absurd h hy
     ·exact absurd h he
     ·exact h
    exact Kq O hs.2 (fun x hx=>O.trans h1 (hs.1 x hx))
theorem oF {k:κ} {l:List α} (h:b7 key k l=none):eJ key k l=l:=by
 unfold b7 at h;unfold eJ;rw[List.find?_eq_none] at h;rw[List.filter_eq_self];intro x hx;have:=h x hx;simpa using this
theorem CJ (O:LO lt) {k:κ} {l:List α} (h:∀x∈l,lt k (key x)=true):eJ key k l=l:=by
 unfold eJ;rw[List.filter_eq_self];intro x hx;have:=O.ne (h x hx);simp;exact fun e=>this e.symm
theorem qE (O:LO lt) {k:κ}:∀{l:List α} {x:α},dg lt key l→l[dP lt key k l]? =some x→key x=k→eJ key k l=l.take (dP lt key k l)++l.drop (dP lt key k l+1)
 | [],x,_,h,_=>by simp at h
 |y::l,x,hs,h,hk=>by
  unfold dg at hs;rw[List.pairwise_cons] at hs;simp only[dP] at h⊢;by_cases hy:lt (key y) k=true
  ·rw[if_pos hy] at h⊢
   have:=qE O (k:=k) hs.2 (by simpa using h) hk;simp only[List.take_succ_cons,List.drop_succ_cons,List.cons_append];rw[←this];unfold eJ;rw[List.filter_cons];simp [O.ne hy]
  ·rw[if_neg hy] at h⊢
   simp at h;subst h;simp only[List.take_zero,List.nil_append,List.drop_succ_cons,List.drop_zero,Nat.zero_add];have:=CJ O (key:=key) (l:=l) (k:=k) (fun z hz=>by rw[←hk];exact hs.1 z hz);rw[←this];unfold eJ;rw[List.filter_cons];simp [hk]
theorem Nh (O:LO lt) {x:α}:∀{l:List α},(∀y∈l,lt (key x) (key y)=true)→jc lt key x l=x::l
 | [],_=>rfl
 |y::l,h=>by simp only[jc];rw[if_pos (h y (by simp))]
theorem tp (O:LO lt) {x:α}:∀{l:List α},dg lt key l→b7 key (key x) l=none→o7 lt key x l=l.take (dP lt key (key x) l)++x::l.drop (dP lt key (key x) l):=by
 intro l hs hf;unfold o7;rw[oF hf];induction l with
 |nil=>rfl
 |cons y l ih=>
  unfold dg at hs;rw[List.pairwise_cons] at hs;have hf':¬key y=key x∧b7 key (key x) l=none:=by
   unfold b7 at hf⊢;rw[List.find?_cons] at hf;split at hf
   ·cases hf
   ·rename_i h;exact⟨by simpa using h,hf⟩
  simp only[dP,jc];by_cases hy:lt (key y) (key x)=true
  ·rw[if_pos hy,O.asymm hy]
   simp only[List.take_succ_cons,List.drop_succ_cons,List.cons_append,Bool.false_eq_true,if_false];rw[ih hs.2 hf'.2]
  ·rw[if_neg hy]
   have h1:lt (key x) (key y)=true:=by
    rcases O.tri (key y) (key x) with h|h|h
    ·exact absurd h hy
    ·exact absurd h hf'.1
    ·exact h
   rw[if_pos h1];rfl
theorem zw (O:LO lt) {x:α}:∀{a b:List α},(∀y∈a,lt (key y) (key x)=true)→jc lt key x (a++b)=a++jc lt key x b
 | [],b,_=>rfl
 |y::a,b,h=>by
  simp only[List.cons_append,jc];rw[O.asymm (h y (by simp))];simp only[Bool.false_eq_true,if_false];rw[zw O (fun z hz=>h z (by simp [hz]))]
theorem C0 (O:LO lt) {x y:α} {l:List α} (hs:dg lt key l) (h:l[dP lt key (key x) l]? =some y) (hk:key y=key x):o7 lt key x l=l.set (dP lt key (key x) l) x:=by
 unfold o7;rw[qE O hs h hk];have hc:=(List.getElem?_eq_some_iff.1 h).1;have h1:∀z∈l.take (dP lt key (key x) l),lt (key z) (key x)=true:=by
  intro z hz;obtain⟨j,hj,e⟩:=List.getElem_of_mem hz;have hj':j<dP lt key (key x) l:=by simp at hj;omega
  exact q7 hj' (by rw[←e];simp)
 have h2:∀z∈l.drop (dP lt key (key x) l+1),lt (key x) (key z)=true:=by
  intro z hz;unfold dg at hs;rw[←List.take_append_drop (dP lt key (key x) l) l,List.pairwise_append] at hs;have hd:=hs.2.1;rw[List.drop_eq_getElem_cons hc,List.pairwise_cons] at hd;have:=hd.1 z hz;rw[List.getElem?_eq_getElem hc] at h;cases h;rw[←hk];exact this
 rw[zw O h1,Nh O h2,List.set_eq_take_append_cons_drop,if_pos hc]
theorem sZ {x y:α}:∀{l:List α},y∈jc lt key x l↔y=x∨y∈l
 | [] =>by simp [jc]
 |z::l=>by
  simp only[jc];split
  ·simp
  ·simp only[List.mem_cons,sZ (l:=l)]
   constructor
   ·rintro(h|h|h)
    ·exact Or.inr (Or.inl h)
    ·exact Or.inl h
    ·exact Or.inr (Or.inr h)
   ·rintro(h|h|h)
    ·exact Or.inr (Or.inl h)
    ·exact Or.inl h
    ·exact Or.inr (Or.inr h)
theorem fR {k:κ} {y:α} {l:List α}:y∈eJ key k l↔y∈l∧key y≠k:=by
 unfold eJ;rw[List.mem_filter];simp
theorem yA {x y:α} {l:List α}:y∈o7 lt key x l↔y=x∨(y∈l∧key y≠key x):=by
 unfold o7;rw[sZ,fR]
theorem eA {k:κ} {l:List α} (h:dg lt key l):dg lt key (eJ key k l):=List.Pairwise.filter _ h
theorem ud (O:LO lt) {x:α}:∀{l:List α},dg lt key l→(∀y∈l,key y≠key x)→dg lt key (jc lt key x l)
 | [],_,_=>by unfold dg jc;simp
 |y::l,hs,hn=>by
  unfold dg at hs⊢;rw[List.pairwise_cons] at hs;simp only[jc];split
  ·rename_i h
   rw[List.pairwise_cons];refine⟨fun z hz=> ?_,List.pairwise_cons.2 hs⟩;simp only[List.mem_cons] at hz;rcases hz with rfl|hz
   ·exact h
   ·exact O.trans h (hs.1 z hz)
  ·rename_i h
   rw[List.pairwise_cons];refine⟨fun z hz=> ?_,ud O hs.2 (fun z hz=>hn z (by simp [hz]))⟩;rw[sZ] at hz;rcases hz with rfl|hz
   ·rcases O.tri (key y) (key z) with h'|h'|h'
    ·exact h'
    ·exact absurd h' (hn y (by simp))
    ·exact absurd h' h
   ·exact hs.1 z hz
theorem nF (O:LO lt) {x:α} {l:List α} (h:dg lt key l):dg lt key (o7 lt key x l):=
 ud O (eA h) (fun y hy=>(fR.1 hy).2)
theorem qR {x:α} {k:κ} {l:List α} (hn:∀y∈l,key y≠key x):b7 key k (jc lt key x l)=if key x=k then some x else b7 key k l:=by
 induction l with
 |nil=>
  unfold b7 jc;simp only[List.find?_cons,List.find?_nil];by_cases h:key x=k<;>simp [h]
 |cons y l ih=>
  simp only[jc];split
  ·unfold b7
   rw[List.find?_cons];by_cases h:key x=k<;>simp [h]
  ·have ih:=ih (fun z hz=>hn z (by simp [hz]))
   unfold b7 at ih⊢;rw[List.find?_cons,List.find?_cons,ih];by_cases h:key y=k
   ·have:¬key x=k:=by intro e;exact hn y (by simp) (h.trans e.symm)
    simp [h,this]
   ·simp [h]
theorem o9 {k k':κ} {l:List α}:b7 key k' (eJ key k l)=if k=k' then none else b7 key k' l:=by
 unfold b7 eJ;rw[List.find?_filter];by_cases h:k=k'
 ·subst h
  rw[if_pos rfl,List.find?_eq_none];intro x _;simp
 ·rw[if_neg h]
  congr 1;funext x;by_cases hx:key x=k'
  ·have:¬key x=k:=by intro e;exact h (e.symm.trans hx)
   simp [hx];intro e;exact h e.symm
  ·simp [hx]
theorem zY {x:α} {k:κ} {l:List α}:b7 key k (o7 lt key x l)=if key x=k then some x else b7 key k l:=by
 unfold o7;rw[qR (fun y hy=>(fR.1 hy).2),o9];by_cases h:key x=k<;>simp [h]
theorem cg {k:κ} {l:List α} {x:α} (h:b7 key k l=some x):x∈l∧key x=k:=by
 unfold b7 at h;exact⟨List.mem_of_find?_eq_some h,by have:=List.find?_some h;simpa using this⟩
theorem lR (O:LO lt) {l:List α} {x:α} (hs:dg lt key l) (h:x∈l):b7 key (key x) l=some x:=by
 induction l with
 |nil=>cases h
 |cons y l ih=>
  unfold dg at hs;rw[List.pairwise_cons] at hs;unfold b7 at ih⊢;rw[List.find?_cons];simp only[List.mem_cons] at h;rcases h with rfl|h
  ·simp
  ·have:=O.ne (hs.1 x h)
   simp [this];exact ih hs.2 h
theorem pw {x:α}:∀l:List α,(jc lt key x l).length=l.length+1
 | [] =>rfl
 |y::l=>by simp only[jc];split<;>simp [pw l]
theorem dI {k:κ} {l:List α}:(eJ key k l).length≤l.length:=List.length_filter_le _ _
theorem l8 {x:α} {l:List α}:(o7 lt key x l).length≤l.length+1:=by
 unfold o7;rw[pw];have:=dI (key:=key) (k:=key x) (l:=l);omega
theorem Cy (O:LO lt):∀{l m:List α},dg lt key l→dg lt key m→(∀x,x∈l↔x∈m)→l=m
 | [], [],_,_,_=>rfl
 | [],y::m,_,_,h=>by have:=(h y).2 (by simp);cases this
 |x::l, [],_,_,h=>by have:=(h x).1 (by simp);cases this
 |x::l,y::m,hl,hm,h=>by
  unfold dg at hl hm;rw[List.pairwise_cons] at hl hm;have hxy:x=y:=by
   have h1:=(h x).1 (by simp);have h2:=(h y).2 (by simp);simp only[List.mem_cons] at h1 h2;rcases h1 with h1|h1
   ·exact h1
   ·rcases h2 with h2|h2
    ·exact h2.symm
    ·have a:=hm.1 x h1
     have b:=hl.1 y h2;rw[O.asymm a] at b;cases b
  subst hxy;congr 1;refine Cy O hl.2 hm.2 fun z=> ?_
  have hz:=h z;simp only[List.mem_cons] at hz;constructor
  ·intro hzl
   rcases hz.1 (Or.inr hzl) with rfl|h
   ·have:=hl.1 z hzl;rw[O.irrefl] at this;cases this
   ·exact h
  ·intro hzm
   rcases hz.2 (Or.inr hzm) with rfl|h
   ·have:=hm.1 z hzm;rw[O.irrefl] at this;cases this
   ·exact h
theorem fF (O:LO lt) {l m:List α} (hl:dg lt key l) (hm:dg lt key m) (h:∀k,b7 key k l=b7 key k m):l=m:=by
 refine Cy O hl hm fun x=>⟨fun hx=> ?_,fun hx=> ?_⟩
 ·have:=lR O hl hx
  rw[h] at this;exact(cg this).1
 ·have:=lR O hm hx
  rw[←h] at this;exact(cg this).1
end
theorem A3 {R:Type} (F:Nat→Int→Int→Option R) (p:Nat→Bool) (len c:Nat) (k0:Int→Option R) (hlen:len≤1099511627775)
 (h1:∀(n lo hi:Nat),lo<hi→hi≤len→F (n+1) (lo:Int) (hi:Int)=if p ((lo+hi)/2) then F n (((lo+hi)/2+1:Nat):Int) (hi:Int) else F n (lo:Int) (((lo+hi)/2:Nat):Int))
 (h0:∀(n lo:Nat),lo≤len→F (n+1) (lo:Int) (lo:Int)=k0 (lo:Int)) (hp:∀j,j<c→p j=true) (hn:∀j,c≤j→j<len→p j=false):
 ∀(n lo hi:Nat),hi - lo<n→lo≤c→c≤hi→hi≤len→F n (lo:Int) (hi:Int)=k0 (c:Int):=by
 intro n;induction n with
 |zero=>intro lo hi h;omega
 |succ n ih=>
  intro lo hi hd hlo hhi hle;by_cases h:lo<hi
  ·rw[h1 n lo hi h hle]
   by_cases hm:(lo+hi)/2<c
   ·rw[hp _ hm]
    exact ih _ _ (by omega) (by omega) hhi hle
   ·rw[hn _ (by omega) (by omega)]
    exact ih _ _ (by omega) hlo (by omega) (by omega)
  ·have e1:lo=c:=by omega
   have e2:hi=c:=by omega
   subst e1;subst e2;exact h0 n _ hle
theorem A7 {lo hi:Nat} (h1:lo≤1099511627775) (h2:hi≤1099511627775):(IntKind.i64.wrap (Int.fdiv (IntKind.u64.wrap (IntKind.i64.wrap ((lo:Int)+(hi:Int)))) (2^(min (Int.toNat (1:Int)) (IntKind.bits .u64)))))=(((lo+hi)/2:Nat):Int):=by
 rw[cd (n:=(lo:Int)+hi) (by omega) (by omega)];have e1:IntKind.u64.wrap ((lo:Int)+(hi:Int))=(lo:Int)+hi:=by
  simp [IntKind.wrap,IntKind.bits,IntKind.signed];omega
 have e2:(2:Int)^(min (Int.toNat (1:Int)) (IntKind.bits .u64))=2:=by decide
 rw[e1,e2,Int.fdiv_eq_ediv_of_nonneg _ (by omega)];rw[cd (by omega) (by omega)];omega
instance am_:DecidableEq Entry:=fun a b=>
 if h:a.name=b.name∧a.ino=b.ino then isTrue (by cases a;cases b;simp at h;simp [h.1,h.2]) else isFalse (by intro e;subst e;exact h ⟨rfl,rfl⟩)
theorem Gr {b:Bool} {h:Decidable (b=true)}:(@ite _ (b=true) h (some true) (some false))=some b:=by
 split
 ·rename_i e;rw[e]
 ·rename_i e;have:b=false:=by simpa using e
  rw[this]
theorem loS:LO ltS:=⟨mq,fun h1 h2=>qV h1 h2,BE⟩
abbrev gD (l:List Entry):Prop:=dg ltS Entry.name l
abbrev cR (n:Str) (l:List Entry):Option Entry:=b7 Entry.name n l
abbrev cN (n:Str) (l:List Entry):List Entry:=eJ Entry.name n l
abbrev fe (x:Entry) (l:List Entry):List Entry:=o7 ltS Entry.name x l
abbrev oq (n:Str) (l:List Entry):Nat:=dP ltS Entry.name n l
def Sm (l:List Entry):Prop:=l.length≤1073741824∧∀e∈l,e.name.length≤1099511627775
theorem rQ (a b:Str):(a==b)=decide (a=b):=by
 rw[Bool.eq_iff_iff,beq_iff_eq,decide_eq_true_eq]
theorem yZ {l:List Entry} {n:Str} (hl:l.length≤1073741824):km l n=some (match cR n l with|some e=>(e.ino,true) |none=>(0,false)):=by
 unfold km;refine(bU (l:=l) (fun m i (_:Unit)=>gJ l n (fun z8=>some (z8,true)) (some ((0:Int),false)) m i) (fun k x s K=>if decide (x.name=n) then some (x.ino,true) else K s) (fun _=>some ((0:Int),false)) (by omega) (fun m k x u hk hx=> ?_) (fun m u=> ?_) ()).trans ?_
 ·simp only[gJ]
  rw[dec_lt hk,bP,toNat_cast,hx,bc (by omega)];simp only[ay,ah,aZ,if_true,rQ]
 ·simp only[gJ]
  rw[bW (Nat.le_refl _)];rfl
 ·unfold cR b7
  generalize 0=q;clear hl;revert q;induction l with
  |nil=>intro q;rfl
  |cons y l ih=>
   intro q;simp only[dL,List.find?_cons];by_cases h:y.name=n
   ·simp [h]
   ·simp [h];simpa using ih (q+1)
theorem nH {α R:Type} (p:α→Bool) (kk:List α→Option R):∀(l:List α) (k:Nat) (s:List α),s.length+l.length≤LIM→
 dL (fun _ x s K=>if p x then aT (s.length+[x].length) (K (s++[x])) else K s) kk k l s=kk (s++l.filter p)
 | [],_,s,_=>by simp [dL]
 |x::l,k,s,h=>by
  simp only[dL,List.filter_cons];simp only[List.length_cons] at h;split
  ·rw[bV (by simp;omega),nH p kk l _ _ (by simp;omega)];simp
  ·rw[nH p kk l _ _ (by omega)]
theorem jZ {l:List Entry} {n:Str} (hl:l.length≤1073741824):eI l n=some (cN n l):=by
 unfold eI;refine(bU (l:=l) (fun m i s=>dO l n (fun z8=>some z8) m i s) (fun _ x s K=>if !decide (x.name=n) then aT (s.length+[x].length) (K (s++[x])) else K s) (fun z=>some z) (by omega) (fun m k x s hk hx=> ?_) (fun m s=> ?_) []).trans ?_
 ·simp only[dO]
  rw[dec_lt hk,bP,toNat_cast,hx,bc (by omega)];simp only[ay,ah,aZ,if_true,rQ]
 ·simp only[dO]
  rw[bW (Nat.le_refl _)];rfl
 ·rw[nH _ _ _ _ _ (by unfold LIM;simp;omega)];rfl
theorem lT {α κ R:Type} {lt:κ→κ→Bool} {key:α→κ} (x:α) (kk:List α→Option R):∀(l:List α) (k:Nat) (s:Bool×List α),s.2.length+l.length+(if s.1 then 0 else 1)≤LIM→
 dL (fun _ y (s:Bool×List α) K=>if !s.1 then (if lt (key x) (key y) then aT (s.2.length+[x].length) (aT ((s.2++[x]).length+[y].length) (K (true,(s.2++[x])++[y]))) else aT (s.2.length+[y].length) (K (s.1,s.2++[y]))) else aT (s.2.length+[y].length) (K (s.1,s.2++[y])))
  (fun s=>if !s.1 then aT (s.2.length+[x].length) (kk (s.2++[x])) else kk s.2) k l s=kk (s.2++if s.1 then l else jc lt key x l)
 | [],_,(b,s),h=>by
  simp only[dL];cases b
  ·simp only[Bool.not_false,if_true]
   rw[bV (by simp at h⊢;omega)];simp [jc]
  ·simp
 |y::l,k,(b,s),h=>by
  simp only[dL];simp only[List.length_cons] at h;cases b
  ·simp only[Bool.not_false,if_true]
   simp at h;by_cases hy:lt (key x) (key y)=true
   ·rw[if_pos hy,bV (by simp;omega),bV (by simp;omega),lT x kk l _ _ (by simp;omega)]
    simp [jc,hy]
   ·rw[if_neg hy,bV (by simp;omega),lT x kk l _ _ (by simp;omega)]
    simp [jc,hy]
  ·simp only[Bool.not_true]
   simp at h;rw[if_neg (by simp),bV (by simp;omega),lT x kk l _ _ (by simp;omega)];simp
theorem Vx (a b:Str):(!(Op.bytesLess a b||a==b))=ltS b a:=by
 rw[rQ];rcases BE a b with h|h|h
 ·have:=Aw h
  have h:Op.bytesLess a b=true:=h;rw[h,this];rfl
 ·subst h
  have:=mq a;rw[this];simp
 ·have h1:=Aw h
  have h2:=Sv h;have h1:Op.bytesLess a b=false:=h1;rw[h,h1];simp;exact fun e=>h2 e.symm
theorem nv {l:List Entry} {n:Str} {i:Int} (hl:l.length≤1073741824):fE l n i=some (fe ⟨n,i⟩ l):=by
 unfold fE;rw[jZ hl];simp only[ah];have hfl:(cN n l).length≤l.length:=dI;unfold fe o7;show _=some (jc ltS Entry.name ⟨n,i⟩ (cN n l));generalize cN n l=rest at hfl⊢;refine(bU (l:=rest) (fun m i' s=>eG n i rest (fun z16 z17=>ae (!z16) (aT (z17.length+[(⟨n,i⟩:Entry)].length) (some (z17++[(⟨n,i⟩:Entry)]))) (some z17)) m s.1 i' s.2)
  (fun _ y (s:Bool×List Entry) K=>if !s.1 then (if ltS n y.name then aT (s.2.length+[(⟨n,i⟩:Entry)].length) (aT ((s.2++[(⟨n,i⟩:Entry)]).length+[y].length) (K (true,(s.2++[(⟨n,i⟩:Entry)])++[y]))) else aT (s.2.length+[y].length) (K (s.1,s.2++[y]))) else aT (s.2.length+[y].length) (K (s.1,s.2++[y])))
  (fun s=>if !s.1 then aT (s.2.length+[(⟨n,i⟩:Entry)].length) (some (s.2++[(⟨n,i⟩:Entry)])) else some s.2) (by omega) (fun m k y s hk hx=> ?_) (fun m s=> ?_) (false, [])).trans ?_
 ·simp only[eG]
  rw[dec_lt hk,bP,toNat_cast,hx,bc (by omega)];simp only[ay,ah,aZ,if_true,Vx]
 ·simp only[eG]
  rw[bW (Nat.le_refl _),ax];simp only[aZ]
 ·rw[lT (lt:=ltS) (key:=Entry.name) (⟨n,i⟩:Entry) (fun z=>some z) _ _ _ (by unfold LIM;simp;omega)]
  rfl
theorem eqE (a b:Entry):((a.name==b.name)&&(a.ino==b.ino))=decide (a=b):=by
 rw[Bool.eq_iff_iff];cases a;cases b;simp
theorem q6 {α R:Type} [DecidableEq α] (kr k0:Option R):∀(l m:List α) (k:Nat) (m0:List α),l.length=m.length→m0.length=k→dL (fun k x (_:Unit) K=>aj (m0++m)[k]? fun y=>if decide (x=y) then K () else kr) (fun _=>k0) k l ()=if l=m then k0 else kr
 | [], [],_,_,_,_=>rfl
 | [],_::_,_,_,h,_=>by simp at h
 |_::_, [],_,_,h,_=>by simp at h
 |x::l,y::m,k,m0,h,hk=>by
  simp only[dL];have e:(m0++y::m)[k]? =some y:=by subst hk;simp
  rw[e,ah];have ih:=q6 kr k0 l m (k+1) (m0++[y]) (by simpa using h) (by simp [hk]);have e2:m0++[y]++m=m0++y::m:=by simp
  rw[e2] at ih;by_cases hxy:x=y
  ·subst hxy
   simp only[decide_true,if_true,List.cons.injEq,true_and];exact ih
  ·simp [hxy]
theorem yY {a b:List Entry} (hl:a.length≤1073741824):oO a b=some (decide (a=b)):=by
 unfold oO;rw[aZ];by_cases h:a.length=b.length
 ·have e:((List.length a:Int) !=(List.length b:Int))=false:=by rw[h];simp
  rw[e,if_neg (by simp)];refine(bU (l:=a) (fun m i (_:Unit)=>gG a b (some false) (some true) m i) (fun k x (_:Unit) K=>aj ([] ++b)[k]? fun y=>if decide (x=y) then K () else some false) (fun _=>some true) (by omega) (fun m k x u hk hx=> ?_) (fun m u=> ?_) ()).trans ?_
  ·simp only[gG]
   rw[dec_lt hk,bP,toNat_cast,hx,bc (by omega)];simp only[ay,ah,aZ,if_true,List.nil_append];have hk':k<b.length:=by omega
   rw[List.getElem?_eq_getElem hk'];simp only[ah,eqE];by_cases hxy:x=b[k]<;>simp [hxy]
  ·simp only[gG]
   rw[bW (Nat.le_refl _)];rfl
  ·rw[q6 _ _ a b 0 [] h rfl]
   by_cases hab:a=b<;>simp [hab]
 ·have e:((List.length a:Int) !=(List.length b:Int))=true:=by rw[bne_iff_ne];omega
  rw[e,if_pos rfl];have:¬a=b:=fun e=>h (by rw[e])
  simp [this]
def jW:Option Str→List Entry→Bool
 |_, [] =>true
 |none,x::l=>jW (some x.name) l
 |some n,x::l=>ltS n x.name&&jW (some x.name) l
def gu (l:List Entry):Bool:=l.all (fun e=>eL e.name&&decide (1≤e.ino))&&jW none l
theorem vh:∀(l:List Entry) (p:Option Str),jW p l=true↔(gD l∧∀n,p=some n→∀x∈l,ltS n x.name=true)
 | [],p=>by simp [jW,gD,dg]
 |x::l,p=>by
  have ih:=vh l (some x.name);have key:(gD l∧∀n,some x.name=some n→∀x∈l,ltS n x.name=true)↔gD (x::l):=by
   unfold gD dg;rw[List.pairwise_cons];constructor
   ·rintro⟨h1,h2⟩;exact⟨h2 _ rfl,h1⟩
   ·rintro⟨h1,h2⟩;exact⟨h2,fun n e=>by cases e;exact h1⟩
  rw[key] at ih;cases p with
  |none=>simp only[jW,ih];simp
  |some n=>
   simp only[jW,Bool.and_eq_true,ih];constructor
   ·rintro⟨h1,h2⟩
    refine⟨h2,fun n' e=> ?_⟩;cases e;intro y hy;simp only[List.mem_cons] at hy;rcases hy with rfl|hy
    ·exact h1
    ·unfold gD dg at h2
     rw[List.pairwise_cons] at h2;exact qV h1 (h2.1 y hy)
   ·rintro⟨h1,h2⟩
    exact⟨h2 n rfl x (by simp),h1⟩
theorem ic (l:List Entry):gu l=true↔(gD l∧∀e∈l,eL e.name=true∧1≤e.ino):=by
 unfold gu;simp only[Bool.and_eq_true,List.all_eq_true,decide_eq_true_eq,vh];constructor
 ·rintro⟨h1,h2,_⟩;exact⟨h2,h1⟩
 ·rintro⟨h1,h2⟩;exact⟨h2,h1,fun n e=>by cases e⟩
def vE (m:List Entry):Option Str:=m.getLast?.map Entry.name
theorem xz {R:Type} (kr k0:Option R) (hc:R→Prop):∀(l:List Entry) (k:Nat) (m:List Entry),m.length=k→
 dL (fun k (x:Entry) (_:Unit) K=>if eL x.name then (if decide (1≤x.ino) then (if 0<k then (aj (m++l)[k - 1]? fun y=>if ltS y.name x.name then K () else kr) else K ()) else kr) else kr) (fun _=>k0) k l ()=if l.all (fun e=>eL e.name&&decide (1≤e.ino))&&jW (vE m) l then k0 else kr
 | [],k,m,_=>by cases h:vE m<;>simp [dL,jW]
 |x::l,k,m,hk=>by
  simp only[dL];have ih:=xz kr k0 hc l (k+1) (m++[x]) (by simp [hk]);have e2:m++[x]++l=m++x::l:=by simp
  have e3:vE (m++[x])=some x.name:=by simp [vE]
  rw[e2,e3] at ih;rw[ih];simp only[List.all_cons];by_cases h1:eL x.name=true
  case neg=>simp [h1]
  ·by_cases h2:decide (1≤x.ino)=true
   case neg=>simp [h1,h2]
   ·simp only[h1,h2,if_true,Bool.true_and]
    rcases List.eq_nil_or_concat m with rfl|⟨m',y,rfl⟩
    ·simp at hk;subst hk
     simp [vE,jW]
    ·have hk':0<k:=by simp at hk;omega
     rw[if_pos hk'];have e:(m'++[y]++x::l)[k - 1]? =some y:=by
      have:k - 1=m'.length:=by simp at hk;omega
      rw[this];simp
     have e4:vE (m'.concat y)=some y.name:=by simp [vE]
     simp only[List.concat_eq_append] at e4⊢;rw[e,e4,ah];simp only[jW];by_cases h3:Op.bytesLess y.name x.name=true<;>simp [ltS,h3]
theorem zM {k:Nat} (h:0<k) (h2:k≤1099511627775):IntKind.i64.wrap ((k:Int) - 1)=((k - 1:Nat):Int):=by
 rw[cd (by omega) (by omega)];omega
theorem wI {l:List Entry} (hs:Sm l):fo l=some (gu l):=by
 have hl:=hs.1;unfold fo;refine(bU (l:=l) (fun m i (_:Unit)=>e_ l (some false) (some true) m i) (fun k (x:Entry) (_:Unit) K=>if eL x.name then (if decide (1≤x.ino) then (if 0<k then (aj ([] ++l)[k - 1]? fun y=>if ltS y.name x.name then K () else some false) else K ()) else some false) else some false) (fun _=>some true) (by omega) (fun m k x u hk hx=> ?_) (fun m u=> ?_) ()).trans ?_
 ·simp only[e_]
  have hn:=hs.2 x (List.mem_of_getElem? hx);rw[dec_lt hk,bP,toNat_cast,hx,bc (by omega)];simp only[ay,ah,aZ,if_true,List.nil_append,lG hn];cases h1:eL x.name
  ·simp
  ·have e1:decide (x.ino<(1:Int))= !decide (1≤x.ino):=by
    by_cases h:1≤x.ino
    ·have:¬x.ino<1:=by omega
     simp [h,this]
    ·have:x.ino<1:=by omega
     simp [h,this]
   rw[e1];cases h2:decide (1≤x.ino)
   ·simp
   ·simp only[Bool.not_true,Bool.false_eq_true,if_false,if_true]
    by_cases hk0:0<k
    ·have e2:decide ((k:Int)>(0:Int))=true:=by simp;omega
     rw[e2,if_pos rfl,if_pos hk0,zM hk0 (by omega),bP,toNat_cast,if_pos rfl];have hk1:k - 1<l.length:=by omega
     rw[List.getElem?_eq_getElem hk1];simp only[ah];by_cases h3:Op.bytesLess l[k - 1].name x.name=true<;>simp [ltS,h3]
    ·have e2:decide ((k:Int)>(0:Int))=false:=by simp;omega
     rw[e2,if_neg (by simp),if_neg hk0]
 ·simp only[e_]
  rw[bW (Nat.le_refl _)];rfl
 ·rw[xz (some false) (some true) (fun _=>True) l 0 [] rfl]
  unfold gu;simp only[vE,List.getLast?_nil,Option.map_none];exact Gr
def Bs (n:Str) (l:List Entry):Bool:=match l[oq n l]? with|some x=>decide (x.name=n) |none=>false
theorem pF {l:List Entry} {n:Str} (hs:gD l) (hl:l.length≤1073741824):nZ l n=some ((oq n l:Int),Bs n l):=by
 unfold nZ;have hc:oq n l≤l.length:=m6 l;have e0:∀(k0:Int→Option (Int×Bool)),eH l n k0 bw (0:Int) (List.length l:Int)=k0 (oq n l:Int):=by
  intro k0;refine A3 (fun m a b=>eH l n k0 m a b) (fun j=>match l[j]? with|some x=>ltS x.name n|none=>false) l.length (oq n l) k0 (by omega) (fun m lo hi h1 h2=> ?_) (fun m lo h1=> ?_) (fun j hj=> ?_) (fun j hj hj2=> ?_) bw 0 l.length (iu (by omega)) (Nat.zero_le _) hc (Nat.le_refl _)
  ·simp only[eH]
   have hm:(lo+hi)/2<l.length:=by omega
   rw[dec_lt h1,A7 (by omega) (by omega),bP,toNat_cast,List.getElem?_eq_getElem hm,bc (by omega)];have e1:decide ((1:Int)<0)=false:=rfl;simp only[e1,ay,ax,ah,strings_Compare,yG,aZ,if_true,Bool.false_eq_true,if_false]
  ·simp only[eH]
   rw[bW (Nat.le_refl _),ax]
  ·have hj':j<l.length:=by omega
   have:=q7 (lt:=ltS) (key:=Entry.name) hj (List.getElem?_eq_getElem hj');simp only[List.getElem?_eq_getElem hj'];exact this
  ·have:=tf loS (k:=n) hs hj (List.getElem?_eq_getElem hj2)
   simp only[List.getElem?_eq_getElem hj2];exact this
 rw[e0];unfold Bs;by_cases h:oq n l<l.length
 ·rw[dec_lt h,bP,toNat_cast,List.getElem?_eq_getElem h]
  simp only[ay,ah,strings_Compare,yg,rQ]
 ·rw[bW (by omega),ax,List.getElem?_eq_none (by omega)]
theorem zU {l:List Entry} {n:Str} (hs:gD l):cR n l=aj l[oq n l]? fun x=>if x.name=n then some x else none:=jU loS hs
theorem yW {l:List Entry} {n:Str} (hs:gD l) (hl:l.length≤1073741824):my l n=some (match cR n l with|some e=>(e.ino,true) |none=>(0,false)):=by
 unfold my;rw[pF hs hl,zU hs];simp only[ah];unfold Bs;rw[bP,toNat_cast];cases h:l[oq n l]? with
 |none=>rfl
 |some x=>
  simp only[ah];by_cases he:x.name=n
  ·simp [he]
  ·simp [he]
theorem HK {R:Type} (x:Option R):both x x=x:=by unfold both;rw[if_pos rfl]
theorem kq {α R:Type} {l:List α} {x y r:Option R} (h1:l= [] →x=r) (h2:y=r):Bz l x y=r:=by
 unfold Bz;cases l with
 |nil=>rw[h1 rfl,h2];exact HK r
 |cons a l=>exact h2
theorem zG {l:List Entry} {n:Str} (h:Bs n l=true):∃x,l[oq n l]? =some x∧x.name=n:=by
 unfold Bs at h;split at h
 ·rename_i x hx;exact⟨x,hx,by simpa using h⟩
 ·cases h
theorem zB {l:List Entry} {n:Str} (hs:gD l) (h:Bs n l=false):cR n l=none:=by
 rw[zU hs];unfold Bs at h;cases hx:l[oq n l]? with
 |none=>rfl
 |some x=>
  rw[hx] at h;have h:¬x.name=n:=by simpa using h
  simp [h]
theorem take_set {α:Type} {a b:List α} {c:Nat} (h:a.length=c):(a++b).take c=a:=by subst h;simp
theorem drop_set {α:Type} {a b:List α} {c:Nat} (h:a.length=c):(a++b).drop c=b:=by subst h;simp
theorem nK {l:List Entry} {n:Str} (hs:gD l) (hl:l.length≤1073741824):fH l n=some (cN n l):=by
 unfold fH sh;rw[pF hs hl];simp only[ah];cases h:Bs n l
 ·rw[Bool.not_false,ay]
  have e9:cN n l=l:=oF (zB hs h);rw[e9];refine kq (fun e=>by subst e;rfl) ?_;rw[bV (by unfold LIM;simp;omega)];rfl
 ·obtain⟨x,hx,hn⟩:=zG h
  have e9:cN n l=l.take (oq n l)++l.drop (oq n l+1):=qE loS hs hx hn;rw[Bool.not_true,ax,e9];have hc:=(List.getElem?_eq_some_iff.1 hx).1;generalize oq n l=c at hx hc;have e1:IntKind.i64.wrap ((List.length l:Int) - 1)=((l.length - 1:Nat):Int):=by rw[cd (by omega) (by omega)];omega
  rw[e1,bc (by omega)];simp only[toNat_cast];have hA:(l.take c).length=c:=by simp;omega
  have hmin:min (l.take c).length (List.replicate (l.length - 1) (⟨[],0⟩:Entry)).length=c:=by simp;omega
  simp only[hmin,toNat_cast];have hAB:(l.take c).take (List.replicate (l.length - 1) (⟨[],0⟩:Entry)).length=l.take c:=by rw[List.take_take];congr 1;simp;omega
  simp only[hAB];have hB:(List.replicate (l.length - 1) (⟨[],0⟩:Entry)).drop (l.take c).length=List.replicate (l.length - 1 - c) (⟨[],0⟩:Entry):=by rw[hA,List.drop_replicate]
  simp only[hB];have hlen:(l.take c++List.replicate (l.length - 1 - c) (⟨[],0⟩:Entry)).length=l.length - 1:=by simp;omega
  simp only[hlen];rw[aL (by simp),bV (by unfold LIM;omega),aL (by simp;omega),aL (by simp;omega),aL (by simp;omega),aL (by simp;omega),take_set hA,drop_set hA];have hD:(l.drop (c+1)).take (l.length - 1 - c)=l.drop (c+1):=by rw[List.take_of_length_le];simp;omega
  have hE:(List.replicate (l.length - 1 - c) (⟨[],0⟩:Entry)).drop (min (l.drop (c+1)).length (l.length - 1 - c))= [] :=by rw[List.drop_eq_nil_of_le];simp;omega
  rw[hD,hE,List.append_nil]
theorem ny {l:List Entry} {n:Str} {i:Int} (hs:gD l) (hl:l.length≤1073741824):eo l n i=some (fe ⟨n,i⟩ l):=by
 unfold eo sh;rw[pF hs hl];simp only[ah];have hc:oq n l≤l.length:=m6 l;cases h:Bs n l
 ·have hf:=zB hs h
  have e9:fe (⟨n,i⟩:Entry) l=l.take (oq n l)++⟨n,i⟩::l.drop (oq n l):=tp loS hs hf;rw[e9];generalize oq n l=c at hc;refine kq (fun e=> ?_) ?_
  ·subst e
   have:c=0:=by simpa using hc
   subst this;rfl
  ·rw[bV (by unfold LIM;simp;omega)]
   simp only[ax,List.nil_append,List.length_singleton];have e1:IntKind.i64.wrap ((List.length l:Int)+((1:Nat):Int))=((l.length+1:Nat):Int):=by rw[cd (by omega) (by omega)];omega
   have e2:IntKind.i64.wrap ((c:Int)+((1:Nat):Int))=((c+1:Nat):Int):=by rw[cd (by omega) (by omega)];omega
   simp only[e1,e2,toNat_cast];rw[aL (by simp;omega),aW (by simp)];by_cases hlen:c=l.length
   ·subst hlen
    rw[aL (by simp),bV (by unfold LIM;omega)];simp
   ·rw[aW (by simp;omega)]
    refine wo fun cp hcp=> ?_
    by_cases hcap:cp<l.length+1
    ·rw[aL (by simp;omega),aL (by simp;omega)]
     have e3:IntKind.i64.wrap (((l.length+1:Nat):Int) - (c:Int))=((l.length+1 - c:Nat):Int):=by rw[cd (by omega) (by omega)];omega
     simp only[e3,toNat_cast,List.drop_zero];have hA:(l.take c).length=c:=by simp;omega
     have hT:(l.take c++List.replicate (l.length+1 - c) (⟨[],0⟩:Entry)).take c=l.take c:=take_set hA;have hD:(l.take c++List.replicate (l.length+1 - c) (⟨[],0⟩:Entry)).drop c=List.replicate (l.length+1 - c) (⟨[],0⟩:Entry):=drop_set hA;have hL:(l.take c++List.replicate (l.length+1 - c) (⟨[],0⟩:Entry)).length=l.length+1:=by simp;omega
     simp only[hT,hD,hL];have hX:[(⟨n,i⟩:Entry)].take (l.length+1 - c)=[⟨n,i⟩]:=by rw[List.take_of_length_le];simp;omega
     have hM:min 1 (l.length+1 - c)=1:=by omega
     have hR:(List.replicate (l.length+1 - c) (⟨[],0⟩:Entry)).drop 1=List.replicate (l.length - c) (⟨[],0⟩:Entry):=by rw[List.drop_replicate];congr 1;omega
     simp only[hX,hM,hR];have hL2:(l.take c++([(⟨n,i⟩:Entry)]++List.replicate (l.length - c) (⟨[],0⟩:Entry))).length=l.length+1:=by simp;omega
     simp only[hL2];have hM2:min (l.length - c) (l.length+1 - (c+1))=l.length - c:=by omega
     simp only[hM2];rw[aL (by simp),bV (by unfold LIM;omega),aL (by simp;omega),aL (by simp;omega),aL (by simp;omega),aL (by simp;omega),aL (by simp;omega),aL (by simp;omega),aL (by simp;omega),aL (by simp;omega),aL (by simp;omega)];have e4:l.take c++([(⟨n,i⟩:Entry)]++List.replicate (l.length - c) (⟨[],0⟩:Entry))=(l.take c++[(⟨n,i⟩:Entry)])++List.replicate (l.length - c) (⟨[],0⟩:Entry):=by simp
     have hA1:(l.take c++[(⟨n,i⟩:Entry)]).length=c+1:=by simp;omega
     have hT4:(l.take c++([(⟨n,i⟩:Entry)]++List.replicate (l.length - c) (⟨[],0⟩:Entry))).take (c+1)=l.take c++[(⟨n,i⟩:Entry)]:=by rw[e4];exact take_set hA1
     have hD4:(l.take c++([(⟨n,i⟩:Entry)]++List.replicate (l.length - c) (⟨[],0⟩:Entry))).drop (c+1+(l.length - c))= [] :=by rw[List.drop_eq_nil_of_le];rw[hL2];omega
     have hQ:(l.drop c).take (l.length - c)=l.drop c:=by rw[List.take_of_length_le];simp
     rw[hT4,hD4,hQ];simp
    ·rw[aW (by simp;omega)]
     have hM:min (l.length+1 - c) (l.length+1 - (c+1))=l.length - c:=by omega
     simp only[hM,Nat.zero_add];have hQ:(l.drop c).take (l.length - c)=l.drop c:=by rw[List.take_of_length_le];simp
     have hX:[(⟨n,i⟩:Entry)].take (l.length+1 - c)=[⟨n,i⟩]:=by rw[List.take_of_length_le];simp;omega
     have hM2:min 1 (l.length+1 - c)=1:=by omega
     simp only[hQ,hX,hM2,List.drop_zero];rw[aL (by simp;omega),aL (by simp;omega),aL (by simp),aL (by simp;omega),aL (by simp;omega),aL (by simp;omega),aL (by simp;omega)];by_cases hc1:c+1≤l.length
     ·rw[aL (by simp;omega),aW (Ge (by omega)),aL (by simp;omega),aL (by simp;omega),aL (by simp;omega)]
      have hT1:(l.take (c+1)++l.drop c).take c=l.take c:=by rw[List.take_append_of_le_length (by simp;omega),List.take_take];congr 1;omega
      have hD1:((l.take (c+1)++l.drop c).drop c).drop 1=l.drop c:=by rw[List.drop_drop];exact drop_set (by simp;omega)
      rw[hT1,hD1];rw[List.take_of_length_le (by simp;omega)];simp
     ·omega
 ·obtain⟨x,hx,hn⟩:=zG h
  have e9:fe (⟨n,i⟩:Entry) l=l.set (oq n l) ⟨n,i⟩:=C0 loS hs hx hn;rw[e9];have hc':=(List.getElem?_eq_some_iff.1 hx).1;generalize oq n l=c at hx hc hc';refine kq (fun e=>by subst e;simp at hx) ?_;rw[bV (by unfold LIM;simp;omega)];simp only[ay,List.nil_append,toNat_cast,hx,ah];rw[aL (by simp;omega)];subst hn;rfl
instance ae3:DecidableEq al:=fun a b=>
 if h:a.ino=b.ino∧a.kind=b.kind∧a.aI=b.aI∧a.data=b.data∧a.parent=b.parent∧a.entries=b.entries then isTrue (by cases a;cases b;simp at h;simp [h]) else isFalse (by intro e;subst e;exact h ⟨rfl,rfl,rfl,rfl,rfl,rfl⟩)
instance awe:DecidableEq Fs:=fun a b=>
 if h:a.aA=b.aA∧a.aH=b.aH∧a.next=b.next∧a.aa=b.aa then isTrue (by cases a;cases b;simp at h;simp [h]) else isFalse (by intro e;subst e;exact h ⟨rfl,rfl,rfl,rfl⟩)
abbrev cG (l:List al):Prop:=dg ltI al.ino l
abbrev au (n:Int) (l:List al):Option al:=b7 al.ino n l
abbrev dD (n:Int) (l:List al):List al:=eJ al.ino n l
abbrev bE (x:al) (l:List al):List al:=o7 ltI al.ino x l
abbrev lh (n:Int) (l:List al):Nat:=dP ltI al.ino n l
def jP:al:=⟨0,0,0, [],0, []⟩
def aD (n:Int) (l:List al):al:=(au n l).getD jP
def Fs.set (f:Fs) (x:al):Fs:=⟨f.aA,f.aH,f.next,bE x f.aa⟩
def Fs.drop (f:Fs) (n:Int):Fs:=⟨f.aA,f.aH,f.next,dD n f.aa⟩
def BL (n:Int) (l:List al):Bool:=match l[lh n l]? with|some x=>decide (x.ino=n) |none=>false
theorem zz {l:List al} {n:Int} (hs:cG l):au n l=aj l[lh n l]? fun x=>if x.ino=n then some x else none:=jU loI hs
theorem Ar {l:List al} {n:Int} (h:BL n l=true):∃x,l[lh n l]? =some x∧x.ino=n:=by
 unfold BL at h;split at h
 ·rename_i x hx;exact⟨x,hx,by simpa using h⟩
 ·cases h
theorem z_ {l:List al} {n:Int} (hs:cG l) (h:BL n l=false):au n l=none:=by
 rw[zz hs];unfold BL at h;cases hx:l[lh n l]? with
 |none=>rfl
 |some x=>
  rw[hx] at h;have h:¬x.ino=n:=by simpa using h
  simp [h]
theorem pV {f:Fs} {n:Int} (hs:cG f.aa) (hl:f.aa.length≤1073741824):nM f n=some ((lh n f.aa:Int),BL n f.aa):=by
 unfold nM;generalize f.aa=l at hs hl;have hc:lh n l≤l.length:=m6 l;have e0:∀(k0:Int→Option (Int×Bool)),cY l n k0 bw (0:Int) (List.length l:Int)=k0 (lh n l:Int):=by
  intro k0;refine A3 (fun m a b=>cY l n k0 m a b) (fun j=>match l[j]? with|some x=>decide (x.ino<n) |none=>false) l.length (lh n l) k0 (by omega) (fun m lo hi h1 h2=> ?_) (fun m lo h1=> ?_) (fun j hj=> ?_) (fun j hj hj2=> ?_) bw 0 l.length (iu (by omega)) (Nat.zero_le _) hc (Nat.le_refl _)
  ·simp only[cY]
   have hm:(lo+hi)/2<l.length:=by omega
   rw[dec_lt h1,A7 (by omega) (by omega),bP,toNat_cast,List.getElem?_eq_getElem hm,bc (by omega)];have e1:decide ((1:Int)<0)=false:=rfl;simp only[e1,ay,ax,ah,aZ,if_true,Bool.false_eq_true,if_false,bne_self_eq_false];by_cases h9:l[(lo+hi)/2].ino<n
   ·simp [h9]
   ·simp [h9]
  ·simp only[cY]
   rw[bW (Nat.le_refl _),ax]
  ·have hj':j<l.length:=by omega
   have:=q7 (lt:=ltI) (key:=al.ino) hj (List.getElem?_eq_getElem hj');simp only[List.getElem?_eq_getElem hj'];exact this
  ·have:=tf loI (k:=n) hs hj (List.getElem?_eq_getElem hj2)
   simp only[List.getElem?_eq_getElem hj2];exact this
 rw[e0];unfold BL;by_cases h:lh n l<l.length
 ·rw[dec_lt h,bP,toNat_cast,List.getElem?_eq_getElem h]
  simp only[ay,ah,bne_self_eq_false,ax,aZ];by_cases h1:l[lh n l].ino<n
  ·have:¬l[lh n l].ino=n:=by omega
   simp [h1,this]
  ·by_cases h2:l[lh n l].ino>n
   ·have:¬l[lh n l].ino=n:=by omega
    simp [h1,h2,this]
   ·have:l[lh n l].ino=n:=by omega
    simp [h1,h2,this]
 ·rw[bW (by omega),ax,List.getElem?_eq_none (by omega)]
theorem dh {f:Fs} {n:Int} (hs:cG f.aa) (hl:f.aa.length≤1073741824):cf f n=some (aD n f.aa,(au n f.aa).isSome):=by
 unfold cf aD;rw[pV hs hl,zz hs];simp only[ah];unfold BL;rw[bP,toNat_cast];cases h:f.aa[lh n f.aa]? with
 |none=>rfl
 |some x=>
  simp only[ah];by_cases he:x.ino=n
  ·simp [he]
  ·simp [he];rfl
theorem cQ {f:Fs} {x:al} (hs:cG f.aa) (hl:f.aa.length≤1073741824):a_ f x=some (f.set x):=by
 unfold a_ sh Fs.set;rw[pV hs hl];simp only[ah];have hc:lh x.ino f.aa≤f.aa.length:=m6 f.aa;generalize f.aa=l at hs hl hc;cases h:BL x.ino l
 ·have hf:=z_ hs h
  have e9:bE x l=l.take (lh x.ino l)++x::l.drop (lh x.ino l):=tp loI hs hf;rw[e9];generalize lh x.ino l=c at hc;refine kq (fun e=> ?_) ?_
  ·subst e
   have:c=0:=by simpa using hc
   subst this;rfl
  ·rw[bV (by unfold LIM;simp;omega)]
   simp only[ax,List.nil_append,List.length_singleton];have e1:IntKind.i64.wrap ((List.length l:Int)+((1:Nat):Int))=((l.length+1:Nat):Int):=by rw[cd (by omega) (by omega)];omega
   have e2:IntKind.i64.wrap ((c:Int)+((1:Nat):Int))=((c+1:Nat):Int):=by rw[cd (by omega) (by omega)];omega
   simp only[e1,e2,toNat_cast];rw[aL (by simp;omega),aW (by simp)];by_cases hlen:c=l.length
   ·subst hlen
    rw[aL (by simp),bV (by unfold LIM;omega)];simp
   ·rw[aW (by simp;omega)]
    refine wo fun cp hcp=> ?_
    by_cases hcap:cp<l.length+1
    ·rw[aL (by simp;omega),aL (by simp;omega)]
     have e3:IntKind.i64.wrap (((l.length+1:Nat):Int) - (c:Int))=((l.length+1 - c:Nat):Int):=by rw[cd (by omega) (by omega)];omega
     simp only[e3,toNat_cast,List.drop_zero];have hA:(l.take c).length=c:=by simp;omega
     have hT:(l.take c++List.replicate (l.length+1 - c) (⟨0,0,0, [],0,([] :List Entry)⟩:al)).take c=l.take c:=take_set hA;have hD:(l.take c++List.replicate (l.length+1 - c) (⟨0,0,0, [],0,([] :List Entry)⟩:al)).drop c=List.replicate (l.length+1 - c) (⟨0,0,0, [],0,([] :List Entry)⟩:al):=drop_set hA;have hL:(l.take c++List.replicate (l.length+1 - c) (⟨0,0,0, [],0,([] :List Entry)⟩:al)).length=l.length+1:=by simp;omega
     simp only[hT,hD,hL];have hX:[x].take (l.length+1 - c)=[x]:=by rw[List.take_of_length_le];simp;omega
     have hM:min 1 (l.length+1 - c)=1:=by omega
     have hR:(List.replicate (l.length+1 - c) (⟨0,0,0, [],0,([] :List Entry)⟩:al)).drop 1=List.replicate (l.length - c) (⟨0,0,0, [],0,([] :List Entry)⟩:al):=by rw[List.drop_replicate];congr 1;omega
     simp only[hX,hM,hR];have hL2:(l.take c++([x]++List.replicate (l.length - c) (⟨0,0,0, [],0,([] :List Entry)⟩:al))).length=l.length+1:=by simp;omega
     simp only[hL2];have hM2:min (l.length - c) (l.length+1 - (c+1))=l.length - c:=by omega
     simp only[hM2];rw[aL (by simp),bV (by unfold LIM;omega),aL (by simp;omega),aL (by simp;omega),aL (by simp;omega),aL (by simp;omega),aL (by simp;omega),aL (by simp;omega),aL (by simp;omega),aL (by simp;omega),aL (by simp;omega)];have e4:l.take c++([x]++List.replicate (l.length - c) (⟨0,0,0, [],0,([] :List Entry)⟩:al))=(l.take c++[x])++List.replicate (l.length - c) (⟨0,0,0, [],0,([] :List Entry)⟩:al):=by simp
     have hA1:(l.take c++[x]).length=c+1:=by simp;omega
     have hT4:(l.take c++([x]++List.replicate (l.length - c) (⟨0,0,0, [],0,([] :List Entry)⟩:al))).take (c+1)=l.take c++[x]:=by rw[e4];exact take_set hA1
     have hD4:(l.take c++([x]++List.replicate (l.length - c) (⟨0,0,0, [],0,([] :List Entry)⟩:al))).drop (c+1+(l.length - c))= [] :=by rw[List.drop_eq_nil_of_le];rw[hL2];omega
     have hQ:(l.drop c).take (l.length - c)=l.drop c:=by rw[List.take_of_length_le];simp
     rw[hT4,hD4,hQ];simp
    ·rw[aW (by simp;omega)]
     have hM:min (l.length+1 - c) (l.length+1 - (c+1))=l.length - c:=by omega
     simp only[hM,Nat.zero_add];have hQ:(l.drop c).take (l.length - c)=l.drop c:=by rw[List.take_of_length_le];simp
     have hX:[x].take (l.length+1 - c)=[x]:=by rw[List.take_of_length_le];simp;omega
     have hM2:min 1 (l.length+1 - c)=1:=by omega
     simp only[hQ,hX,hM2,List.drop_zero];rw[aL (by simp;omega),aL (by simp;omega),aL (by simp),aL (by simp;omega),aL (by simp;omega),aL (by simp;omega),aL (by simp;omega)];have hc1:c+1≤l.length:=by omega
     rw[aL (by simp;omega),aW (Ge (by omega)),aL (by simp;omega),aL (by simp;omega),aL (by simp;omega)];have hT1:(l.take (c+1)++l.drop c).take c=l.take c:=by rw[List.take_append_of_le_length (by simp;omega),List.take_take];congr 1;omega
     have hD1:((l.take (c+1)++l.drop c).drop c).drop 1=l.drop c:=by rw[List.drop_drop];exact drop_set (by simp;omega)
     rw[hT1,hD1];rw[List.take_of_length_le (by simp;omega)];simp
 ·obtain⟨y,hx,hn⟩:=Ar h
  have e9:bE x l=l.set (lh x.ino l) x:=C0 loI hs hx hn;rw[e9];have hc':=(List.getElem?_eq_some_iff.1 hx).1;generalize lh x.ino l=c at hx hc hc';refine kq (fun e=>by subst e;simp at hx) ?_;rw[bV (by unfold LIM;simp;omega)];simp only[ay,List.nil_append,toNat_cast,hx,ah];rw[aL (by simp;omega)]
theorem se {α κ R:Type} [DecidableEq κ] {key:α→κ} {k:κ} (kr:α→Option R) (k0:Option R):∀(l:List α) (i:Nat) (s:Unit),dL (fun _ x s K=>if decide (key x=k) then kr x else K s) (fun _=>k0) i l s=match b7 key k l with|some x=>kr x|none=>k0
 | [],_,_=>rfl
 |x::l,i,s=>by
  simp only[dL];unfold b7;rw[List.find?_cons];by_cases h:key x=k
  ·simp [h]
  ·simp only[h,decide_false,Bool.false_eq_true,if_false]
   have:=se (key:=key) (k:=k) kr k0 l (i+1) s;unfold b7 at this;rw[this]
theorem eO (a b:Int):(a==b)=decide (a=b):=by rw[Bool.eq_iff_iff,beq_iff_eq,decide_eq_true_eq]
theorem dT (a b:Int):(a !=b)= !decide (a=b):=by rw[bne,eO]
theorem cI {f:Fs} {n:Int} (hl:f.aa.length≤1073741824):bH f n=some (aD n f.aa,(au n f.aa).isSome):=by
 unfold bH;refine(bU (l:=f.aa) (fun m i (_:Unit)=>iB n f (fun z10=>some (z10,true)) (some ((⟨0,0,0, [],0,([] :List Entry)⟩:al),false)) m i) (fun _ (x:al) s K=>if decide (x.ino=n) then some (x,true) else K s) (fun _=>some (jP,false)) (by omega) (fun m k x u hk hx=> ?_) (fun m u=> ?_) ()).trans ?_
 ·simp only[iB]
  rw[dec_lt hk,bP,toNat_cast,hx,bc (by omega)];simp only[ay,ah,aZ,if_true,eO]
 ·simp only[iB]
  rw[bW (Nat.le_refl _)];rfl
 ·rw[se (key:=al.ino) (k:=n) (fun x=>some (x,true)) _]
  unfold aD au;cases b7 al.ino n f.aa<;>rfl
theorem nu {f:Fs} {n:Int} (hl:f.aa.length≤1073741824):dB f n=some (f.drop n):=by
 unfold dB;refine(bU (l:=f.aa) (fun m i s=>fI n f (fun z11=>some (⟨f.aA,f.aH,f.next,z11⟩:Fs)) m i s) (fun _ (x:al) s K=>if !decide (x.ino=n) then aT (s.length+[x].length) (K (s++[x])) else K s) (fun z11=>some (⟨f.aA,f.aH,f.next,z11⟩:Fs)) (by omega) (fun m k x s hk hx=> ?_) (fun m s=> ?_) []).trans ?_
 ·simp only[fI]
  rw[dec_lt hk,bP,toNat_cast,hx,bc (by omega)];simp only[ay,ah,aZ,if_true,dT]
 ·simp only[fI]
  rw[bW (Nat.le_refl _)];rfl
 ·rw[nH _ _ _ _ _ (by unfold LIM;simp;omega)];rfl
theorem cu {f:Fs} {x:al} (hl:f.aa.length≤1073741824):bG f x=some (f.set x):=by
 unfold bG;rw[nu hl];simp only[ah];have hfl:(dD x.ino f.aa).length≤f.aa.length:=dI (key:=al.ino);unfold Fs.set Fs.drop bE o7;show _=some (⟨f.aA,f.aH,f.next,jc ltI al.ino x (dD x.ino f.aa)⟩:Fs);generalize dD x.ino f.aa=rest at hfl⊢;refine(bU (l:=rest) (fun m i s=>fw rest x (fun z18 z19=>ae (!z18) (aT (z19.length+[x].length) (some (⟨f.aA,f.aH,f.next,(z19++[x])⟩:Fs))) (some (⟨f.aA,f.aH,f.next,z19⟩:Fs))) m s.1 i s.2)
  (fun _ y (s:Bool×List al) K=>if !s.1 then (if ltI x.ino y.ino then aT (s.2.length+[x].length) (aT ((s.2++[x]).length+[y].length) (K (true,(s.2++[x])++[y]))) else aT (s.2.length+[y].length) (K (s.1,s.2++[y]))) else aT (s.2.length+[y].length) (K (s.1,s.2++[y])))
  (fun s=>if !s.1 then aT (s.2.length+[x].length) (some (⟨f.aA,f.aH,f.next,s.2++[x]⟩:Fs)) else some (⟨f.aA,f.aH,f.next,s.2⟩:Fs)) (by omega) (fun m k y s hk hx=> ?_) (fun m s=> ?_) (false, [])).trans ?_
 ·simp only[fw]
  rw[dec_lt hk,bP,toNat_cast,hx,bc (by omega)];simp only[ay,ah,aZ,if_true,ltI,gt_iff_lt]
 ·simp only[fw]
  rw[bW (Nat.le_refl _),ax];simp only[aZ]
 ·rw[lT (lt:=ltI) (key:=al.ino) x (fun z=>some (⟨f.aA,f.aH,f.next,z⟩:Fs)) _ _ _ (by unfold LIM;simp;omega)]
  rfl
theorem auh (a b:al):decide (a=b)=(decide (a.ino=b.ino)&&(decide (a.kind=b.kind)&&(decide (a.aI=b.aI)&&(decide (a.data=b.data)&&(decide (a.parent=b.parent)&&decide (a.entries=b.entries)))))):=by
 rw[Bool.eq_iff_iff];cases a;cases b;simp
theorem BK {a b:al} (hl:a.entries.length≤1073741824):qZ a b=some (decide (a=b)):=by
 unfold qZ;rw[yY hl,auh];simp only[eO,rQ,aZ,ah];by_cases h1:a.ino=b.ino
 ·by_cases h2:a.kind=b.kind
  ·by_cases h3:a.aI=b.aI
   ·by_cases h4:a.data=b.data
    ·by_cases h5:a.parent=b.parent
     ·simp [h1,h2,h3,h4,h5]
     ·simp [h1,h2,h3,h4,h5]
    ·simp [h1,h2,h3,h4]
   ·simp [h1,h2,h3]
  ·simp [h1,h2]
 ·simp [h1]
theorem rG {a b:List al} (hl:a.length≤1073741824) (he:∀x∈a,x.entries.length≤1073741824):mB a b=some (decide (a=b)):=by
 unfold mB;rw[aZ];by_cases h:a.length=b.length
 ·have e:((List.length a:Int) !=(List.length b:Int))=false:=by rw[h];simp
  rw[e,if_neg (by simp)];refine(bU (l:=a) (fun m i (_:Unit)=>gE a b (some false) (some true) m i) (fun k x (_:Unit) K=>aj ([] ++b)[k]? fun y=>if decide (x=y) then K () else some false) (fun _=>some true) (by omega) (fun m k x u hk hx=> ?_) (fun m u=> ?_) ()).trans ?_
  ·simp only[gE]
   rw[dec_lt hk,bP,toNat_cast,hx,bc (by omega)];simp only[ay,ah,aZ,if_true,List.nil_append];have hk':k<b.length:=by omega
   rw[List.getElem?_eq_getElem hk'];simp only[ah];rw[BK (he x (List.mem_of_getElem? hx))];simp only[ah];by_cases hxy:x=b[k]<;>simp [hxy]
  ·simp only[gE]
   rw[bW (Nat.le_refl _)];rfl
  ·rw[q6 _ _ a b 0 [] h rfl]
   by_cases hab:a=b<;>simp [hab]
 ·have e:((List.length a:Int) !=(List.length b:Int))=true:=by rw[bne_iff_ne];omega
  rw[e,if_pos rfl];have:¬a=b:=fun e=>h (by rw[e])
  simp [this]
theorem aqR (a b:Fs):decide (a=b)=(decide (a.aA=b.aA)&&(decide (a.aH=b.aH)&&(decide (a.next=b.next)&&decide (a.aa=b.aa)))):=by
 rw[Bool.eq_iff_iff];cases a;cases b;simp
theorem nC {a b:Fs} (hl:a.aa.length≤1073741824) (he:∀x∈a.aa,x.entries.length≤1073741824):j4 a b=some (decide (a=b)):=by
 unfold j4;rw[rG hl he,aqR];simp only[eO,aZ,ah];by_cases h1:a.aA=b.aA
 ·by_cases h2:a.aH=b.aH
  ·by_cases h3:a.next=b.next
   ·simp [h1,h2,h3]
   ·simp [h1,h2,h3]
  ·simp [h1,h2]
 ·simp [h1]
def bytesOf (l:List al):Int:=(l.map fun x=>if x.kind=1 then (x.data.length:Int) else 0).sum
def cO (f:Fs) (a b:Int):Bool:=decide ((f.aa.length:Int)+a≤f.aA)&&decide (bytesOf f.aa+b≤f.aH)
structure SmF (f:Fs):Prop where
 len:f.aa.length≤1073741824
 data:∀x∈f.aa,x.data.length≤1073741824
 dy:∀x∈f.aa,x.entries.length≤1073741824
 names:∀x∈f.aa,∀e∈x.entries,e.name.length≤1099511627775
theorem om (x:al) (l:List al):bytesOf (x::l)=(if x.kind=1 then (x.data.length:Int) else 0)+bytesOf l:=by simp [bytesOf]
theorem si (l:List al):0≤bytesOf l:=by
 induction l with
 |nil=>simp [bytesOf]
 |cons x l ih=>rw[om];split<;>omega
theorem FL {N:Nat} {l:List al} (h:∀x∈l,x.data.length≤N):bytesOf l≤((l.length*N:Nat):Int):=by
 induction l with
 |nil=>simp [bytesOf]
 |cons x l ih=>
  have h1:=ih (fun y hy=>h y (by simp [hy]));have h2:=h x (by simp);rw[om,List.length_cons,Nat.succ_mul];split<;>omega
theorem SmF.bytes {f:Fs} (h:SmF f):bytesOf f.aa≤1152921504606846976:=by
 have h1:=FL h.data;have h2:f.aa.length*1073741824≤1073741824*1073741824:=Nat.mul_le_mul_right _ h.len;omega
theorem oh {R:Type} (kk:Int→Option R):∀(l:List al) (k:Nat) (s:Int),0≤s→s+bytesOf l≤4611686018427387904→
 dL (fun _ (x:al) s K=>if decide (x.kind=1) then K (IntKind.i64.wrap (s+(x.data.length:Int))) else K s) kk k l s=kk (s+bytesOf l)
 | [],k,s,_,_=>by simp [dL,bytesOf]
 |x::l,k,s,h0,h=>by
  have hn:=si l;rw[om] at h⊢;simp only[dL];by_cases hk:x.kind=1
  ·rw[if_pos hk] at h
   rw[if_pos (by simp [hk]),if_pos hk,cd (by omega) (by omega),oh kk l (k+1) _ (by omega) (by omega),Int.add_assoc]
  ·rw[if_neg hk] at h
   rw[if_neg (by simp [hk]),if_neg hk,oh kk l (k+1) _ (by omega) (by omega)];simp
theorem yU {f:Fs} (h:SmF f):oU f=some (bytesOf f.aa):=by
 have hs:=h.bytes;have hl:=h.len;unfold oU;refine(bU (l:=f.aa) (fun n i s=>fy (f.aa.length:Int) f (fun z8=>some z8) n s i) (fun _ (x:al) s K=>if decide (x.kind=1) then K (IntKind.i64.wrap (s+(x.data.length:Int))) else K s) (fun z=>some z) (by omega) (fun n k x s hk hx=> ?_) (fun n s=> ?_) 0).trans ?_
 ·simp only[fy]
  rw[dec_lt hk,bP,toNat_cast,hx,bc (by omega)];simp only[ay,ah,aZ,if_true,eO]
 ·simp only[fy]
  rw[bW (Nat.le_refl _)];rfl
 ·rw[oh _ _ _ _ (by omega) (by omega)];simp
theorem yj {f:Fs} (h:SmF f):mJ f=some (bytesOf f.aa):=by
 have hs:=h.bytes;have hl:=h.len;unfold mJ;refine(bU (l:=f.aa) (fun n i s=>eZ f (fun z7=>some z7) n s i) (fun _ (x:al) s K=>if decide (x.kind=1) then K (IntKind.i64.wrap (s+(x.data.length:Int))) else K s) (fun z=>some z) (by omega) (fun n k x s hk hx=> ?_) (fun n s=> ?_) 0).trans ?_
 ·simp only[eZ]
  rw[dec_lt hk,bP,toNat_cast,hx,bc (by omega)];simp only[ay,ah,aZ,if_true,eO]
 ·simp only[eZ]
  rw[bW (Nat.le_refl _)];rfl
 ·rw[oh _ _ _ _ (by omega) (by omega)];simp
def Far (n:Int):Prop:= -1152921504606846976≤n∧n≤1152921504606846976
theorem iv {f:Fs} {a b:Int} (h:SmF f) (ha:Far a) (hb:Far b):fN f a b=some (cO f a b):=by
 have hs:=h.bytes;have h0:=si f.aa;have hl:=h.len;unfold Far at ha hb;unfold fN cO qe;rw[yU h];simp only[ah,aZ];rw[cd (by omega) (by omega),cd (by omega) (by omega)];by_cases h1:(f.aa.length:Int)+a≤f.aA<;>simp [h1]
theorem fD {f:Fs} {a b:Int} (h:SmF f) (ha:Far a) (hb:Far b):eu f a b=some (cO f a b):=by
 have hs:=h.bytes;have h0:=si f.aa;have hl:=h.len;unfold Far at ha hb;unfold eu cO;rw[yj h];simp only[ah,aZ];rw[cd (by omega) (by omega),cd (by omega) (by omega)];by_cases h1:(f.aa.length:Int)+a≤f.aA
 ·have h2:¬f.aA<(f.aa.length:Int)+a:=by omega
  simp [h1,h2]
 ·have h2:f.aA<(f.aa.length:Int)+a:=by omega
  simp [h1,h2]
def G9 (x:al):Bool:=decide (x.data.length≤5000)&&(decide (x.entries.length≤40)&&x.entries.all fun e=>decide (e.name.length≤300))
def o0 (f:Fs):Bool:=(f.aa.take 100).all G9&&decide (f.aa.length≤40)
theorem fM {α R:Type} (p:α→Bool) (kr k0:Option R):∀(l:List α) (k:Nat) (s:Unit),dL (fun _ x s K=>if p x then K s else kr) (fun _=>k0) k l s=if l.all p then k0 else kr
 | [],_,_=>rfl
 |x::l,k,s=>by
  by_cases h:p x=true
  ·have e:(x::l).all p=l.all p:=by simp [h]
   rw[e];simp only[dL];rw[if_pos h];exact fM p kr k0 l (k+1) s
  ·have e:(x::l).all p=false:=by simp [h]
   rw[e];simp [dL,h]
theorem vV {R:Type} {x:al} {kr k2:Option R} (hl:x.entries.length≤1073741824):gj x kr k2 bw (0:Int)=if x.entries.all (fun e=>decide (e.name.length≤300)) then k2 else kr:=by
 refine(bU (l:=x.entries) (fun n i (s:Unit)=>gj x kr k2 n i) (fun _ (e:Entry) s K=>if decide (e.name.length≤300) then K s else kr) (fun _=>k2) (by omega) (fun n k e s hk hx=> ?_) (fun n s=> ?_) ()).trans ?_
 ·simp only[gj]
  rw[dec_lt hk,bP,toNat_cast,hx,bc (by omega)];simp only[ay,ah,aZ,if_true];by_cases h:e.name.length≤300
  ·have h2:¬(300:Int)<(e.name.length:Int):=by omega
   simp [h,h2]
  ·have h2:(300:Int)<(e.name.length:Int):=by omega
   simp [h,h2]
 ·simp only[gj]
  rw[bW (Nat.le_refl _)];rfl
 ·exact fM _ _ _ _ _ _
theorem sQ {f:Fs} (hl:f.aa.length≤1073741824) (he:∀x∈f.aa,x.entries.length≤1073741824):kj f=some (o0 f):=by
 unfold kj;refine(bU (l:=f.aa.take 100) (fun n i (s:Unit)=>iy f (some false) (some (decide ((f.aa.length:Int)≤(40:Int)))) n i) (fun _ x s K=>if G9 x then K s else some false) (fun _=>some (decide ((f.aa.length:Int)≤(40:Int)))) (by simp;omega) (fun n k x s hk hx=> ?_) (fun n s=> ?_) ()).trans ?_
 ·have hk':k<f.aa.length∧k<100:=by simp at hk;omega
  have hx':f.aa[k]? =some x:=by rw[List.getElem?_take_of_lt hk'.2] at hx;exact hx
  have hxm:=he x (List.mem_of_getElem? hx');simp only[iy];have h100:decide ((k:Int)<(100:Int))=true:=by simp;omega
  rw[dec_lt hk'.1,h100,bP,toNat_cast,hx',bc (by omega)];simp only[ay,ah,aZ,if_true];rw[vV hxm];unfold G9;by_cases h1:x.data.length≤5000
  ·have h1':¬(5000:Int)<(x.data.length:Int):=by omega
   by_cases h2:x.entries.length≤40
   ·have h2':¬(40:Int)<(x.entries.length:Int):=by omega
    simp [h1,h1',h2,h2']
   ·have h2':(40:Int)<(x.entries.length:Int):=by omega
    simp [h1,h1',h2,h2']
  ·have h1':(5000:Int)<(x.data.length:Int):=by omega
   simp [h1,h1']
 ·simp only[iy]
  by_cases h:f.aa.length≤100
  ·have e:(f.aa.take 100).length=f.aa.length:=by simp;omega
   rw[e,bW (Nat.le_refl _)];rfl
  ·have e:(f.aa.take 100).length=100:=by simp;omega
   rw[e];have h1:decide (((100:Nat):Int)<(f.aa.length:Int))=true:=by simp;omega
   rw[h1];rfl
 ·rw[fM]
  unfold o0;have e:decide ((f.aa.length:Int)≤(40:Int))=decide (f.aa.length≤40):=by rw[decide_eq_decide];omega
  rw[e];by_cases h9:(f.aa.take 100).all G9=true
  ·rw[if_pos h9,h9];rfl
  ·rw[if_neg h9]
   have:(f.aa.take 100).all G9=false:=by simpa using h9
   rw[this];rfl
theorem qQ {f:Fs} (h:o0 f=true):f.aa.length≤40∧∀x∈f.aa,x.data.length≤5000∧x.entries.length≤40∧∀e∈x.entries,e.name.length≤300:=by
 unfold o0 at h;simp only[Bool.and_eq_true,decide_eq_true_eq] at h;obtain⟨h1,h2⟩:=h;rw[List.take_of_length_le (by omega),List.all_eq_true] at h1;refine⟨h2,fun x hx=> ?_⟩;have:=h1 x hx;unfold G9 at this;simp only[Bool.and_eq_true,decide_eq_true_eq,List.all_eq_true] at this;exact this
theorem SmF.JL {f:Fs} (h:o0 f=true):SmF f:=by
 obtain⟨h1,h2⟩:=qQ h;exact⟨by omega,fun x hx=>by have:=(h2 x hx).1;omega,fun x hx=>by have:=(h2 x hx).2.1;omega,fun x hx e he=>by have:=(h2 x hx).2.2 e he;omega⟩
def ib:List al→Bool
 | [] =>true
 |[_]=>true
 |x::y::l=>decide (x.ino<y.ino)&&ib (y::l)
theorem qL:∀l:List al,ib l=true↔cG l
 | [] =>by simp [ib,cG,dg]
 |[x]=>by simp [ib,cG,dg]
 |x::y::l=>by
  have ih:=qL (y::l);unfold cG dg at ih⊢;rw[List.pairwise_cons];simp only[ib,Bool.and_eq_true,ih,decide_eq_true_eq];constructor
  ·rintro⟨h1,h2⟩
   refine⟨fun z hz=> ?_,h2⟩;rw[List.pairwise_cons] at h2;simp only[List.mem_cons] at hz;rcases hz with rfl|hz
   ·simp [ltI,h1]
   ·have:=h2.1 z hz
    simp only[ltI,decide_eq_true_eq] at this⊢;omega
  ·rintro⟨h1,h2⟩
   have:=h1 y (by simp);simp only[ltI,decide_eq_true_eq] at this;exact⟨this,h2⟩
theorem tO:∀(a:List al) (x y:al) (l:List al),ib (a++x::y::l)=(ib (a++[x])&&(decide (x.ino<y.ino)&&ib (y::l)))
 | [],x,y,l=>by simp [ib]
 |[z],x,y,l=>by simp [ib,Bool.and_assoc]
 |z::z2::a,x,y,l=>by
  have:=tO (z2::a) x y l;simp only[List.cons_append] at this⊢;simp only[ib,this,Bool.and_assoc]
theorem ri {f:Fs} (hl:f.aa.length≤1073741824):mf f=some (ib f.aa):=by
 unfold mf;have key:∀(n k:Nat),1≤k→f.aa.length - k<n→ib (f.aa.take k)=true→iK f (some false) (some true) n (k:Int)=some (ib f.aa):=by
  intro n;induction n with
  |zero=>intro k _ h;omega
  |succ n ih=>
   intro k h1 hn hr;simp only[iK];by_cases hk:k<f.aa.length
   ·rw[dec_lt hk,ay,zM (by omega) (by omega),bP,ay,toNat_cast,List.getElem?_eq_getElem (by omega),ah,bP,ay,toNat_cast,List.getElem?_eq_getElem hk,ah,bc (by omega)]
    have e1:f.aa.take k=f.aa.take (k - 1)++[f.aa[k - 1]]:=by
     have:k=(k - 1)+1:=by omega
     conv=>lhs;rw[this]
     rw[List.take_add_one,List.getElem?_eq_getElem (by omega)];rfl
    have e2:f.aa=f.aa.take (k - 1)++f.aa[k - 1]::f.aa[k]::f.aa.drop (k+1):=by
     conv=>lhs;rw[←List.take_append_drop (k - 1) f.aa]
     rw[List.drop_eq_getElem_cons (i:=k - 1) (by omega)];have:k - 1+1=k:=by omega
     rw[this,List.drop_eq_getElem_cons hk]
    by_cases h:f.aa[k - 1].ino<f.aa[k].ino
    ·rw[aW (by simp;omega)]
     refine ih (k+1) (by omega) (by omega) ?_;have e3:f.aa.take (k+1)=f.aa.take (k - 1)++f.aa[k - 1]::[f.aa[k]]:=by
      rw[List.take_add_one,List.getElem?_eq_getElem hk];conv=>lhs;rw[e1]
      rw[List.append_assoc];rfl
     rw[e3,tO,←e1,hr];simp [ib,h]
    ·rw[aL (by simp;omega)]
     rw[e2,tO];simp [h]
   ·rw[bW (by omega),ax]
    rw[List.take_of_length_le (by omega)] at hr;rw[hr]
 refine key bw 1 (Nat.le_refl _) (iu (by omega)) ?_;cases h:f.aa with
 |nil=>rfl
 |cons x l=>simp [ib]
def rP (f:Fs):Bool:=decide (1≤f.aA∧f.aA≤1073741824∧0≤f.aH∧f.aH≤1073741824∧f.next≤1099511627776)&&(f.aa.all (fun x=>decide (1≤x.ino∧x.ino<f.next))&&(ib f.aa&&((au 1 f.aa).isSome&&decide ((aD 1 f.aa).kind=2))))
theorem yC {f:Fs} (hl:f.aa.length≤1073741824):nc f=some (rP f):=by
 unfold nc rP;rw[cI hl,ri hl];simp only[ah];by_cases h1:f.aA<1
 ·rw[aL (by simp [h1]),decide_eq_false (by omega)];rfl
 rw[aW (by simp [h1])];by_cases h2:f.aA>1073741824
 ·rw[aL (by simp [h2]),decide_eq_false (by omega)];rfl
 rw[aW (by simp [h2])];by_cases h3:f.aH<0
 ·rw[aL (by simp [h3]),decide_eq_false (by omega)];rfl
 rw[aW (by simp [h3])];by_cases h4:f.aH>1073741824
 ·rw[aL (by simp [h4]),decide_eq_false (by omega)];rfl
 rw[aW (by simp [h4])];by_cases h5:f.next>1099511627776
 ·rw[aL (by simp [h5]),decide_eq_false (by omega)];rfl
 rw[aW (by simp [h5]),decide_eq_true (by omega),Bool.true_and];generalize hk0:(ae (ib f.aa) (ae (au 1 f.aa).isSome (some ((aD 1 f.aa).kind==(2:Int))) (some false)) (some false))=k0;have e0:k0=some (ib f.aa&&((au 1 f.aa).isSome&&decide ((aD 1 f.aa).kind=2))):=by
  rw[←hk0,eO];cases ib f.aa<;>cases (au 1 f.aa).isSome<;>rfl
 refine(bU (l:=f.aa) (fun m i (_:Unit)=>fU f (some false) k0 m i) (fun _ (x:al) s K=>if decide (1≤x.ino∧x.ino<f.next) then K s else some false) (fun _=>k0) (by omega) (fun m k x u hk hx=> ?_) (fun m u=> ?_) ()).trans ?_
 ·simp only[fU]
  rw[dec_lt hk,bP,toNat_cast,hx,bc (by omega)];simp only[ay,ah,aZ,if_true];by_cases h6:x.ino<1
  ·have:¬(1≤x.ino∧x.ino<f.next):=by omega
   simp [h6,this]
  ·by_cases h7:x.ino≥f.next
   ·have:¬(1≤x.ino∧x.ino<f.next):=by omega
    have h7':f.next≤x.ino:=h7;simp [h6,h7',this]
   ·have:1≤x.ino∧x.ino<f.next:=by omega
    have h7':¬f.next≤x.ino:=h7;simp [h6,h7',this]
 ·simp only[fU]
  rw[bW (Nat.le_refl _)];rfl
 ·rw[fM,e0]
  by_cases h9:f.aa.all (fun x=>decide (1≤x.ino∧x.ino<f.next))=true
  ·rw[if_pos h9,h9,Bool.true_and]
  ·rw[if_neg h9]
   have:f.aa.all (fun x=>decide (1≤x.ino∧x.ino<f.next))=false:=by simpa using h9
   rw[this,Bool.false_and]
def fq (x:al):Bool:=(decide (x.kind=1)&&(x.entries.isEmpty&&decide (x.parent=0)))||((decide (x.kind=2)&&(decide (x.data= [])&&gu x.entries))||(decide (x.kind=3)&&(x.entries.isEmpty&&(decide (x.parent=0)&&(decide (1≤x.data.length∧x.data.length≤4095)&& !(x.data.any (fun b=>b==0)))))))
def pc (f:Fs):Bool:=f.aa.all fq
theorem FG {R:Type} {x:al} {kr k2:Option R} (hl:x.data.length≤1073741824):aU x kr k2 bw (0:Int)=if decide (x.kind=3)&&x.data.any (fun b=>b==0) then kr else k2:=by
 by_cases h3:x.kind=3
 ·refine(bU (l:=x.data) (fun m i (_:Unit)=>aU x kr k2 m i) (fun _ (b:UInt8) s K=>if b==0 then kr else K s) (fun _=>k2) (by omega) (fun m k b u hk hx=> ?_) (fun m u=> ?_) ()).trans ?_
  ·simp only[aU]
   rw[dec_lt hk,bP,toNat_cast,hx,bc (by omega),aL rfl,aL (by simp [h3]),aL rfl,ah,aZ];have:((UInt8.toNat b:Int)==(0:Int))=(b==0):=jo b 0 (by omega);rw[this]
  ·simp only[aU]
   rw[bW (Nat.le_refl _)];rfl
  ·rw[jx (fun b:UInt8=>b==0) (fun _ _=>kr) k2 kr (fun _ _=>rfl)]
   simp [h3]
 ·obtain⟨m,hm⟩:=I9
  rw[hm];simp only[aU];rw[if_neg (by simp [h3])];cases decide ((0:Int)<(List.length x.data:Int))
  ·rfl
  ·rw[ay,aW (by simp [h3])]
theorem Au {x:al} (h:x.kind=1):fq x=(x.entries.isEmpty&&decide (x.parent=0)):=by
 unfold fq;simp [h]
theorem vG {x:al} (h:x.kind=2):fq x=(decide (x.data= [])&&gu x.entries):=by
 unfold fq;simp [h]
theorem zQ {x:al} (h:x.kind=3):fq x=(x.entries.isEmpty&&(decide (x.parent=0)&&(decide (1≤x.data.length∧x.data.length≤4095)&& !(x.data.any (fun b=>b==0))))):=by
 unfold fq;simp [h]
theorem GN {x:al} (h1:¬x.kind=1) (h2:¬x.kind=2) (h3:¬x.kind=3):fq x=false:=by
 unfold fq;simp [h1,h2,h3]
theorem B9 {α:Type} (l:List α):decide ((List.length l:Int)>(0:Int))= !l.isEmpty:=by
 cases l with
 |nil=>rfl
 |cons x l=>simp
theorem vR {f:Fs} (h:SmF f):lQ f=some (pc f):=by
 have hl:=h.len;unfold lQ pc;refine(bU (l:=f.aa) (fun m i (_:Unit)=>bl f (some false) (some true) m i) (fun _ (x:al) s K=>if fq x then K s else some false) (fun _=>some true) (by omega) (fun m k x u hk hx=> ?_) (fun m u=> ?_) ()).trans ?_
 ·simp only[bl]
  have hxm:=List.mem_of_getElem? hx;have hsm:Sm x.entries:=⟨h.dy x hxm,h.names x hxm⟩;rw[dec_lt hk,bP,toNat_cast,hx,bc (by omega)];simp only[ay,ah,wI hsm,FG (h.data x hxm),B9,dT,eO,rQ];by_cases h1:x.kind=1
  ·rw[Au h1]
   have e2:¬x.kind=2:=by omega
   have e3:¬x.kind=3:=by omega
   rw[aW (by simp [h1]),aL (by simp [e2])];simp only[h1];cases x.entries.isEmpty
   ·rfl
   ·by_cases hp:x.parent=0
    ·simp [hp]
    ·simp [hp]
  ·rw[aL (by simp [h1])]
   by_cases h2:x.kind=2
   ·rw[vG h2]
    have e3:¬x.kind=3:=by omega
    rw[aW (by simp [h2]),aW (by simp [h2]),aL (by simp [h2])];simp only[h2];by_cases hd:x.data= []
    ·simp only[hd]
     cases gu x.entries<;>simp
    ·simp [hd]
   ·rw[aL (by simp [h2])]
    by_cases h3:x.kind=3
    ·rw[zQ h3,aW (by simp [h3]),aL (by simp [h2])]
     simp only[h3];cases x.entries.isEmpty
     ·rfl
     ·by_cases hp:x.parent=0
      ·by_cases hd1:x.data.length<1
       ·have:¬(1≤x.data.length∧x.data.length≤4095):=by omega
        have hd1':((List.length x.data:Int)<1):=by omega
        simp [hp,hd1',this]
       ·by_cases hd2:x.data.length>4095
        ·have:¬(1≤x.data.length∧x.data.length≤4095):=by omega
         have hd1':¬((List.length x.data:Int)<1):=by omega
         have hd2':(4095:Int)<(List.length x.data:Int):=by omega
         simp [hp,hd1',hd2',this]
        ·have:1≤x.data.length∧x.data.length≤4095:=by omega
         have hd1':¬((List.length x.data:Int)<1):=by omega
         have hd2':¬(4095:Int)<(List.length x.data:Int):=by omega
         rw[decide_eq_true this,decide_eq_true hp];cases hany:x.data.any (fun b=>b==0)
         ·simp [hp,hd1',hd2']
         ·simp [hp,hd1',hd2']
      ·simp [hp]
    ·rw[GN h1 h2 h3,aL (by simp [h3])];rfl
 ·simp only[bl]
  rw[bW (Nat.le_refl _)];rfl
 ·rw[fM];exact Gr
def sj (f:Fs):Bool:=f.aa.all fun x=>x.entries.all fun e=>(au e.ino f.aa).isSome
theorem Ko {R:Type} {f:Fs} {k:Nat} {x:al} {kr k2:Option R} (hx:f.aa[k]? =some x) (hl:f.aa.length≤1073741824) (he:x.entries.length≤1073741824):eY (k:Int) f kr k2 bw (0:Int)=if x.entries.all (fun e=>(au e.ino f.aa).isSome) then k2 else kr:=by
 refine(bU (l:=x.entries) (fun m i (_:Unit)=>eY (k:Int) f kr k2 m i) (fun _ (e:Entry) s K=>if (au e.ino f.aa).isSome then K s else kr) (fun _=>k2) (by omega) (fun m j e u hj he'=> ?_) (fun m u=> ?_) ()).trans ?_
 ·simp only[eY]
  rw[bP,toNat_cast,hx];simp only[ay,ah];rw[dec_lt hj,bP,toNat_cast,he',bc (by omega)];simp only[ay,ah];rw[cI hl];simp only[ah,aZ];cases (au e.ino f.aa).isSome<;>rfl
 ·simp only[eY]
  rw[bP,toNat_cast,hx];simp only[ay,ah];rw[bW (Nat.le_refl _)];rfl
 ·exact fM _ _ _ _ _ _
theorem yH {f:Fs} (h:SmF f):nb f=some (sj f):=by
 have hl:=h.len;unfold nb sj;refine(bU (l:=f.aa) (fun m i (_:Unit)=>fQ f (some false) (some true) m i) (fun _ (x:al) s K=>if x.entries.all (fun e=>(au e.ino f.aa).isSome) then K s else some false) (fun _=>some true) (by omega) (fun m k x u hk hx=> ?_) (fun m u=> ?_) ()).trans ?_
 ·simp only[fQ]
  rw[dec_lt hk,ay,Ko hx hl (h.dy x (List.mem_of_getElem? hx)),bc (by omega)]
 ·simp only[fQ]
  rw[bW (Nat.le_refl _)];rfl
 ·rw[fM (fun x:al=>x.entries.all fun e=>(au e.ino f.aa).isSome)]
  exact Gr
def nk (n:Int) (l:List Entry):Nat:=(l.filter fun e=>decide (e.ino=n)).length
def fB (n:Int):List al→Nat×Int→Nat×Int
 | [],s=>s
 |x::l,s=>fB n l (s.1+nk n x.entries,if nk n x.entries=0 then s.2 else x.ino)
def dY (f:Fs) (n:Int):Nat×Int:=fB n f.aa (0,0)
theorem Hy (n:Int) (e:Entry) (l:List Entry):nk n (e::l)=(if e.ino=n then 1 else 0)+nk n l:=by
 unfold nk;rw[List.filter_cons];by_cases h:e.ino=n<;>simp [h];omega
theorem GJ (n:Int) (l:List Entry):nk n l≤l.length:=List.length_filter_le _ _
theorem wx {n:Int} {l:List Entry} {j:Nat} {e:Entry} (h:l[j]? =some e):nk n (l.take (j+1))=nk n (l.take j)+if e.ino=n then 1 else 0:=by
 unfold nk;rw[List.take_add_one,h];simp only[Option.toList_some,List.filter_append,List.length_append];by_cases h':e.ino=n<;>simp [h']
theorem I_ {R:Type} {f:Fs} {n:Int} {k:Nat} {x:al} {k2:Int→Int→Option R} (hx:f.aa[k]? =some x) (hl:f.aa.length≤1073741824) (he:x.entries.length≤1073741824) {c:Nat} {d:Int} (hc:c≤1152921504606846976):
 ei n (k:Int) f k2 bw (c:Int) d (0:Int)=k2 ((c+nk n x.entries:Nat):Int) (if nk n x.entries=0 then d else x.ino):=by
 refine jn (l:=x.entries) (fun m i (s:Int×Int)=>ei n (k:Int) f k2 m s.1 s.2 i) (fun j s=>s=(((c+nk n (x.entries.take j):Nat):Int),if nk n (x.entries.take j)=0 then d else x.ino)) (fun r=>r=k2 ((c+nk n x.entries:Nat):Int) (if nk n x.entries=0 then d else x.ino)) (by omega) (fun m j e s hj he' hi hr=> ?_) (fun m s hi=> ?_) ((c:Int),d) (by simp [nk])
 ·simp only[ei]
  have hcl:=GJ n (x.entries.take j);have hcl':(x.entries.take j).length≤x.entries.length:=by simp;omega
  have ht:=wx (n:=n) he';rw[bP,toNat_cast,hx];simp only[ay,ah];rw[dec_lt hj,bP,toNat_cast,he',bc (by omega)];simp only[ay,ah,eO,aZ,if_true];by_cases h:e.ino=n
  ·rw[if_pos (by simp [h])]
   rw[if_pos h] at ht;refine hr (IntKind.i64.wrap (s.1+1),x.ino) ?_;rw[hi,ht];simp only;rw[bc (by omega)];have:¬nk n (x.entries.take j)+1=0:=by omega
   rw[if_neg this];rfl
  ·rw[if_neg (by simp [h])]
   rw[if_neg h,Nat.add_zero] at ht;refine hr _ ?_;rw[hi,ht];simp only[Nat.add_zero]
 ·simp only[ei]
  rw[List.take_length] at hi;rw[bP,toNat_cast,hx];simp only[ay,ah];rw[bW (Nat.le_refl _),ax,hi]
theorem yD (n:Int):∀(a b:List al) (s:Nat×Int),fB n (a++b) s=fB n b (fB n a s)
 | [],_,_=>rfl
 |x::a,b,s=>by simp only[List.cons_append,fB];exact yD n a b _
theorem Ag {n:Int} {N:Nat}:∀(l:List al) (s:Nat×Int),(∀x∈l,x.entries.length≤N)→(fB n l s).1≤s.1+l.length*N
 | [],s,_=>by simp [fB]
 |x::l,s,h=>by
  simp only[fB];have h1:=Ag (n:=n) l (s.1+nk n x.entries,if nk n x.entries=0 then s.2 else x.ino) (fun y hy=>h y (by simp [hy]));have h2:=GJ n x.entries;have h3:=h x (by simp);rw[List.length_cons,Nat.succ_mul];simp only at h1;omega
theorem wR {f:Fs} {n:Int} (h:SmF f):mK f n=some (((dY f n).1:Int),(dY f n).2):=by
 have hl:=h.len;unfold mK dY;refine jn (l:=f.aa) (fun m i (s:Int×Int)=>fS n f (fun z25 z26=>some (z25,z26)) m s.1 s.2 i) (fun j s=>s=(((fB n (f.aa.take j) (0,0)).1:Int),(fB n (f.aa.take j) (0,0)).2)) (fun r=>r=some (((fB n f.aa (0,0)).1:Int),(fB n f.aa (0,0)).2)) (by omega) (fun m k x s hk hx hi hr=> ?_) (fun m s hi=> ?_) (0,0) (by simp [fB])
 ·simp only[fS]
  have hb:=Ag (n:=n) (N:=1073741824) (f.aa.take k) (0,0) (fun y hy=>h.dy y (List.mem_of_mem_take hy));have hk2:(f.aa.take k).length≤1073741824:=by simp;omega
  have hb2:(f.aa.take k).length*1073741824≤1073741824*1073741824:=Nat.mul_le_mul_right _ hk2;rw[dec_lt hk,ay,hi];simp only;rw[I_ hx hl (h.dy x (List.mem_of_getElem? hx)) (by simp only at hb;omega),bc (by omega)];refine hr (_,_) ?_;rw[List.take_add_one,hx];simp only[Option.toList_some,yD,fB];rfl
 ·simp only[fS]
  rw[List.take_length] at hi;rw[bW (Nat.le_refl _),ax,hi]
def zp (f:Fs) (x:al):Bool:=decide (x.aI=(dY f x.ino).1)&&(if x.ino=1 then decide ((dY f x.ino).1=0)&&decide (x.parent=1) else decide (1≤(dY f x.ino).1)&&(if x.kind=2 then decide ((dY f x.ino).1=1)&&decide (x.parent=(dY f x.ino).2) else true))
def oK (f:Fs):Bool:=f.aa.all (zp f)
theorem vJ {f:Fs} (h:SmF f):lK f=some (oK f):=by
 have hl:=h.len;unfold lK oK;refine(bU (l:=f.aa) (fun m i (_:Unit)=>dJ f (some false) (some true) m i) (fun _ (x:al) s K=>if zp f x then K s else some false) (fun _=>some true) (by omega) (fun m k x u hk hx=> ?_) (fun m u=> ?_) ()).trans ?_
 ·simp only[dJ]
  rw[dec_lt hk,bP,toNat_cast,hx,bc (by omega)];simp only[ay,ah];rw[wR h];simp only[ah,dT,eO];unfold zp;by_cases h1:x.aI=((dY f x.ino).1:Int)
  ·simp only[h1,decide_true,Bool.not_true,ax,Bool.true_and]
   by_cases h2:x.ino=1
   ·simp only[h2,decide_true,ay,if_true]
    by_cases h3:(dY f 1).1=0
    ·have h3':((dY f 1).1:Int)=0:=by omega
     simp only[h3,h3',decide_true,Bool.not_true,ax,Bool.true_and];by_cases h4:x.parent=1<;>simp [h4]
    ·have h3':¬((dY f 1).1:Int)=0:=by omega
     simp [h3,h3']
   ·simp only[h2,decide_false,ax,if_false]
    by_cases h3:(dY f x.ino).1<1
    ·have h3':((dY f x.ino).1:Int)<1:=by omega
     have h3'':¬1≤(dY f x.ino).1:=by omega
     simp [h3',h3'']
    ·have h3':¬((dY f x.ino).1:Int)<1:=by omega
     have h3'':1≤(dY f x.ino).1:=by omega
     simp only[h3',h3'',decide_true,decide_false,ax,Bool.true_and];by_cases h4:x.kind=2
     ·simp only[h4,decide_true,ay,if_true]
      by_cases h5:(dY f x.ino).1=1
      ·have h5':((dY f x.ino).1:Int)=1:=by omega
       simp only[h5,h5',decide_true,Bool.not_true,ax,Bool.true_and];by_cases h6:x.parent=(dY f x.ino).2<;>simp [h6]
      ·have h5':¬((dY f x.ino).1:Int)=1:=by omega
       simp [h5,h5']
     ·simp [h4]
  ·simp [h1]
 ·simp only[dJ]
  rw[bW (Nat.le_refl _)];rfl
 ·rw[fM];exact Gr
def visit (s:List Int) (e:Entry):List Int:=if e.ino∈s then s else s++[e.ino]
def nt (x:al) (s:List Int):List Int:=x.entries.foldl visit s
def iX (l:List al):Nat→Nat→List Int→List Int
 |0,_,s=>s
 |n+1,i,s=>match s[i]? with|some k=>iX l n (i+1) (nt (aD k l) s) |none=>s
def dK (l:List al):List Int:=1::l.flatMap fun x=>x.entries.map Entry.ino
def A_ (l:List al):List Int:=iX l ((dK l).length+1) 0 [1]
def rV (f:Fs):Bool:=decide ((A_ f.aa).length=f.aa.length)
theorem qX {l m:List Int} (h:l.Nodup) (hs:∀x∈l,x∈m):l.length≤m.length:=by
 induction l generalizing m with
 |nil=>simp
 |cons x l ih=>
  rw[List.nodup_cons] at h;have hx:=hs x (by simp);have:=ih (m:=m.erase x) h.2 (fun y hy=>by
   have hne:y≠x:=by intro e;subst e;exact h.1 hy
   exact(List.mem_erase_of_ne hne).2 (hs y (by simp [hy])))
  rw[List.length_erase_of_mem hx] at this;have:=List.length_pos_of_mem hx;simp only[List.length_cons];omega
structure pe (l:List al) (s:List Int):Prop where
 nodup:s.Nodup
 sub:∀x∈s,x∈dK l
theorem pe.len {l:List al} {s:List Int} (h:pe l s):s.length≤(dK l).length:=qX h.nodup h.sub
theorem Ix {l:List al} {s:List Int} {e:Entry} (h:pe l s) (he:e.ino∈dK l):pe l (visit s e):=by
 unfold visit;split
 ·exact h
 ·rename_i hn
  refine⟨?_,fun x hx=> ?_⟩
  ·rw[List.nodup_append]
   refine⟨h.nodup,by simp,fun a ha b hb=> ?_⟩;simp at hb;subst hb;intro e';subst e';exact hn ha
  ·simp at hx
   rcases hx with hx|rfl
   ·exact h.sub x hx
   ·exact he
theorem pX {l:List al}:∀(es:List Entry) {s:List Int},pe l s→(∀e∈es,e.ino∈dK l)→pe l (es.foldl visit s)
 | [],s,h,_=>h
 |e::es,s,h,he=>by
  simp only[List.foldl_cons];exact pX es (Ix h (he e (by simp))) (fun e' h'=>he e' (by simp [h']))
theorem Ip {l:List al} {k:Int} {e:Entry} (h:e∈(aD k l).entries):e.ino∈dK l:=by
 unfold aD at h;cases hf:au k l with
 |none=>rw[hf] at h;simp [jP] at h
 |some x=>
  rw[hf] at h;simp only[Option.getD_some] at h;unfold dK;rw[List.mem_cons];right;rw[List.mem_flatMap];exact⟨x,(cg hf).1,List.mem_map.2 ⟨e,h,rfl⟩⟩
theorem uj {l:List al} {s:List Int} {k:Int} (h:pe l s):pe l (nt (aD k l) s):=pX _ h (fun e he=>Ip he)
theorem ll:∀(es:List Entry) (s:List Int),∃t,es.foldl visit s=s++t
 | [],s=>⟨[],by simp⟩
 |e::es,s=>by
  simp only[List.foldl_cons];obtain⟨t,ht⟩:=ll es (visit s e);unfold visit at ht⊢;split at ht
  ·rename_i h;rw[if_pos h];exact⟨t,ht⟩
  ·rename_i h;rw[if_neg h];exact⟨e.ino::t,by rw[ht];simp⟩
theorem vN (es:List Entry) (s:List Int):(es.foldl visit s).length≤s.length+es.length:=by
 induction es generalizing s with
 |nil=>simp
 |cons e es ih=>
  simp only[List.foldl_cons,List.length_cons];have:=ih (visit s e);have h2:(visit s e).length≤s.length+1:=by unfold visit;split<;>simp
  omega
theorem Hg {R:Type} {x:al} {s:List Int} {j:Nat} {e:Entry} {k4:Bool→Option R} (he:x.entries[j]? =some e) (hl:s.length≤1099511627775):dH (j:Int) s x k4 bw false (0:Int)=k4 (decide (e.ino∈s)):=by
 refine jn (l:=s) (fun m i (b:Bool)=>dH (j:Int) s x k4 m b i) (fun k b=>b=decide (e.ino∈s.take k)) (fun r=>r=k4 (decide (e.ino∈s))) hl (fun m k y b hk hy hi hr=> ?_) (fun m b hi=> ?_) false (by simp)
 ·simp only[dH]
  have ht:decide (e.ino∈s.take (k+1))=(decide (e.ino∈s.take k)||decide (y=e.ino)):=by
   rw[List.take_add_one,hy,Bool.eq_iff_iff];simp only[Option.toList_some,List.mem_append,List.mem_singleton,Bool.or_eq_true,decide_eq_true_eq];exact or_congr_right ⟨fun h=>h.symm,fun h=>h.symm⟩
  rw[dec_lt hk,ay,bc (by omega)];cases b
  ·rw[ax,F3 hk,ay,toNat_cast,hy,ah,bP,ay,toNat_cast,he,ah,eO]
   refine hr _ ?_;rw[ht,←hi,Bool.false_or]
  ·rw[ay]
   refine hr _ ?_;rw[ht,←hi];simp
 ·simp only[dH]
  rw[List.take_length] at hi;rw[bW (Nat.le_refl _),ax,hi]
theorem Kg {R:Type} {x:al} {s:List Int} {k2:List Int→Option R} (hl:s.length+x.entries.length≤1073741824):ef x k2 bw (0:Int) s=k2 (nt x s):=by
 unfold nt;refine jn (l:=x.entries) (fun m i (t:List Int)=>ef x k2 m i t) (fun k t=>t=(x.entries.take k).foldl visit s) (fun r=>r=k2 (x.entries.foldl visit s)) (by omega) (fun m k e t hk he hi hr=> ?_) (fun m t hi=> ?_) s (by simp)
 ·simp only[ef]
  have hlen:=vN (x.entries.take k) s;have hk':(x.entries.take k).length≤x.entries.length:=by simp;omega
  rw[←hi] at hlen;have ht:(x.entries.take (k+1)).foldl visit s=visit t e:=by
   rw[List.take_add_one,he,List.foldl_append,←hi];rfl
  rw[dec_lt hk,ay,Hg he (by omega),bc (by omega),bP,toNat_cast,he];simp only[ay,ah];by_cases hm:e.ino∈t
  ·rw[aW (by simp [hm])]
   refine hr _ ?_;rw[ht];unfold visit;rw[if_pos hm]
  ·rw[aL (by simp [hm]),bV (by unfold LIM;simp;omega)]
   refine hr _ ?_;rw[ht];unfold visit;rw[if_neg hm]
 ·simp only[ef]
  rw[List.take_length] at hi;rw[bW (Nat.le_refl _),ax,hi]
theorem Kw {f:Fs} (h:SmF f) (ht:(dK f.aa).length≤536870912) (k0:List Int→Option Bool):∀(m n i:Nat) (s:List Int),pe f.aa s→i≤s.length→(dK f.aa).length+1 - i≤m→(dK f.aa).length+1 - i<n→
 hC f k0 n (i:Int) s=k0 (iX f.aa m i s):=by
 intro m;induction m with
 |zero=>
  intro n i s hv hi hm hn;have:=hv.len;omega
 |succ m ih=>
  intro n i s hv hi hm hn;cases n with
  |zero=>omega
  |succ n=>
   have hlen:=hv.len;simp only[hC,iX];by_cases hlt:i<s.length
   ·rw[dec_lt hlt,ay,F3 hlt,ay,toNat_cast,List.getElem?_eq_getElem hlt,ah,cI h.len,ah]
    have hents:(aD s[i] f.aa).entries.length≤536870912:=by
     unfold aD;cases hf:au s[i] f.aa with
     |none=>simp [jP]
     |some x=>
      have hx:=(cg hf).1;simp only[Option.getD_some];have h1:x.entries.length≤(f.aa.flatMap fun x=>x.entries.map Entry.ino).length:=by
       obtain⟨a,b,e⟩:=List.append_of_mem hx;rw[e];simp only[List.flatMap_append,List.flatMap_cons,List.length_append,List.length_map];omega
      unfold dK at ht;simp only[List.length_cons] at ht;omega
    rw[Kg (by simp only;omega),bc (by omega)];have hv':=uj (k:=s[i]) hv;obtain⟨t,htt⟩:=ll (aD s[i] f.aa).entries s;refine ih n (i+1) _ hv' ?_ (by omega) (by omega);unfold nt;rw[htt];simp;omega
   ·rw[bW (by omega),ax,List.getElem?_eq_none (by omega)]
theorem D3 (l:List al):pe l [1]:=⟨by simp,fun x hx=>by simp at hx;subst hx;simp [dK]⟩
theorem yr {f:Fs} (h:SmF f) (ht:(dK f.aa).length≤536870912):mX f=some (rV f):=by
 unfold mX rV A_;have:=Kw h ht (fun z34=>some ((List.length z34:Int)==(List.length f.aa:Int))) ((dK f.aa).length+1) bw 0 [1] (D3 _) (Nat.zero_le _) (by omega) (by have:=sU;omega);refine this.trans ?_;rw[eO];congr 1;rw[decide_eq_decide];omega
def r4 (f:Fs):Int:=if rP f then (if pc f then (if sj f then (if oK f then (if rV f then (if cO f 0 0 then 0 else 6) else 5) else 4) else 3) else 2) else 1
theorem yb {N:Nat} {l:List al} (h:∀x∈l,x.entries.length≤N):(dK l).length≤l.length*N+1:=by
 unfold dK;rw[List.length_cons];have:(l.flatMap fun x=>x.entries.map Entry.ino).length≤l.length*N:=by
  induction l with
  |nil=>simp
  |cons x l ih=>
   have h1:=ih (fun y hy=>h y (by simp [hy]));have h2:=h x (by simp);simp only[List.flatMap_cons,List.length_append,List.length_map,List.length_cons,Nat.succ_mul];omega
 omega
theorem qn {f:Fs} (h:SmF f) (ht:(dK f.aa).length≤536870912):gW f=some (r4 f):=by
 unfold gW r4;rw[yC h.len,vR h,yH h,vJ h,yr h ht,fD h (by unfold Far;omega) (by unfold Far;omega)];simp only[ah];cases rP f
 ·rfl
 ·cases pc f
  ·rfl
  ·cases sj f
   ·rfl
   ·cases oK f
    ·rfl
    ·cases rV f
     ·rfl
     ·cases cO f 0 0<;>rfl
theorem LL {f:Fs} (h:o0 f=true):(dK f.aa).length≤1601:=by
 obtain⟨h1,h2⟩:=qQ h;have:=yb (N:=40) (fun x hx=>(h2 x hx).2.1);have:f.aa.length*40≤40*40:=Nat.mul_le_mul_right _ h1;omega
structure Sound (f:Fs):Prop where
 vS:1≤f.aA∧f.aA≤1073741824
 vL:0≤f.aH∧f.aH≤1073741824
 next:f.next≤1099511627776
 ino:∀x∈f.aa,1≤x.ino∧x.ino<f.next
 sort:cG f.aa
 root:∃r,au 1 f.aa=some r∧r.kind=2
 kind:∀x∈f.aa,fq x=true
 there:∀x∈f.aa,∀e∈x.entries,∃y,au e.ino f.aa=some y
 link:∀x∈f.aa,zp f x=true
 led:(A_ f.aa).length=f.aa.length
 fits:cO f 0 0=true
theorem wF (f:Fs):r4 f=0↔Sound f:=by
 unfold r4;constructor
 ·intro h
  split at h
  ·rename_i h1
   split at h
   ·rename_i h2
    split at h
    ·rename_i h3
     split at h
     ·rename_i h4
      split at h
      ·rename_i h5
       split at h
       ·rename_i h6
        unfold rP at h1;simp only[Bool.and_eq_true,decide_eq_true_eq,List.all_eq_true] at h1;obtain⟨⟨a1,a2,a3,a4,a5⟩,a6,a7,a8,a9⟩:=h1;obtain⟨r,hr⟩:=Option.isSome_iff_exists.1 a8;refine⟨⟨a1,a2⟩,⟨a3,a4⟩,a5,a6,(qL _).1 a7,⟨r,hr, ?_⟩, ?_, ?_, ?_, ?_,h6⟩
        ·unfold aD at a9;rw[hr] at a9;exact a9
        ·unfold pc at h2;simpa [List.all_eq_true] using h2
        ·unfold sj at h3
         simp only[List.all_eq_true] at h3;exact fun x hx e he=>Option.isSome_iff_exists.1 (h3 x hx e he)
        ·unfold oK at h4;simpa [List.all_eq_true] using h4
        ·unfold rV at h5;simpa using h5
       ·simp at h
      ·simp at h
     ·simp at h
    ·simp at h
   ·simp at h
  ·simp at h
 ·intro h
  obtain⟨r,hr,hk⟩:=h.root;have h1:rP f=true:=by
   unfold rP;simp only[Bool.and_eq_true,decide_eq_true_eq,List.all_eq_true];refine⟨⟨h.vS.1,h.vS.2,h.vL.1,h.vL.2,h.next⟩,h.ino,(qL _).2 h.sort,by rw[hr];rfl,by unfold aD;rw[hr];exact hk⟩
  have h2:pc f=true:=by unfold pc;rw[List.all_eq_true];exact h.kind
  have h3:sj f=true:=by
   unfold sj;simp only[List.all_eq_true];exact fun x hx e he=>Option.isSome_iff_exists.2 (h.there x hx e he)
  have h4:oK f=true:=by unfold oK;rw[List.all_eq_true];exact h.link
  have h5:rV f=true:=by unfold rV;rw[decide_eq_true_eq];exact h.led
  rw[if_pos h1,if_pos h2,if_pos h3,if_pos h4,if_pos h5,if_pos h.fits]
def splitN:Str→Str→List Str×Str
 |cur, [] =>([],cur)
 |cur,c::s=>if c=47 then (if cur= [] then splitN [] s else (cur::(splitN [] s).1,(splitN [] s).2)) else splitN (cur++[c]) s
def fv (r:List Str×Str):List Str:=if r.2= [] then r.1 else r.1++[r.2]
def cq (s:Str):List Str:=fv (splitN [] s)
def iI (l:List Str):Str:=if l= [] then [47] else l.flatMap fun x=>47::x
def pj (s:Str):Bool:=(cq s).any (fun x=>decide (255<x.length))||decide (4095<s.length)
def cj (s:Str):List Str×Bool:=if iI (cq s)=s∧(cq s).all eL=true then (cq s,true) else ([],false)
def dX (s:Str):Pth:=⟨s.take 1==[47],cq s, !(cq s).isEmpty&&(s.drop (s.length - 1)==[47])⟩
theorem sd:∀(a cur b:Str),(∀x∈a,x≠47)→splitN cur (a++47::b)=if cur++a= [] then splitN [] b else ((cur++a)::(splitN [] b).1,(splitN [] b).2)
 | [],cur,b,_=>by simp [splitN]
 |c::a,cur,b,h=>by
  have hc:¬c=47:=h c (by simp);simp only[List.cons_append,splitN,if_neg hc];rw[sd a (cur++[c]) b (fun x hx=>h x (by simp [hx]))];simp
theorem pW:∀(a cur:Str),(∀x∈a,x≠47)→splitN cur a=([],cur++a)
 | [],cur,_=>by simp [splitN]
 |c::a,cur,h=>by
  have hc:¬c=47:=h c (by simp);simp only[splitN,if_neg hc];rw[pW a (cur++[c]) (fun x hx=>h x (by simp [hx]))];simp
theorem mr (c:UInt8):∀l:Str,((∀x∈l,x≠c)∧Lib.indexByte l c= -1)∨∃a b,l=a++c::b∧(∀x∈a,x≠c)∧Lib.indexByte l c=a.length
 | [] =>Or.inl ⟨by simp,rfl⟩
 |x::l=>by
  unfold Lib.indexByte;by_cases h:x=c
  ·subst h;right;exact⟨[],l,rfl,by simp,by simp⟩
  ·have hb:(x==c)=false:=by rw[beq_eq_false_iff_ne];exact h
   rw[hb];simp only[Bool.false_eq_true,if_false];rcases mr c l with⟨h1,h2⟩ |⟨a,b,h1,h2,h3⟩
   ·left
    refine⟨fun y hy=> ?_,by rw[h2];rfl⟩;simp only[List.mem_cons] at hy;rcases hy with rfl|hy
    ·exact h
    ·exact h1 y hy
   ·right
    refine⟨x::a,b,by rw[h1];rfl,fun y hy=> ?_, ?_⟩
    ·simp only[List.mem_cons] at hy
     rcases hy with rfl|hy
     ·exact h
     ·exact h2 y hy
    ·rw[h3]
     have:((a.length:Int)== -1)=false:=by rw[beq_eq_false_iff_ne];omega
     rw[this];simp
theorem oD:∀(s cur:Str),(splitN cur s).1.length≤s.length∧(splitN cur s).2.length≤cur.length+s.length∧(fv (splitN cur s)).flatten.length+(fv (splitN cur s)).length≤cur.length+s.length+1
 | [],cur=>by
  simp only[splitN,fv,List.length_nil];by_cases h:cur= []
  ·subst h;simp
  ·simp [h]
 |c::s,cur=>by
  simp only[splitN];by_cases hc:c=47
  ·rw[if_pos hc]
   obtain⟨h1,h2,h3⟩:=oD s [];by_cases hcur:cur= []
   ·rw[if_pos hcur]
    simp only[List.length_nil,List.length_cons] at*;exact⟨by omega,by omega,by omega⟩
   ·rw[if_neg hcur]
    simp only[List.length_nil,List.length_cons] at*;refine⟨by omega,by omega, ?_⟩;have e:fv (cur::(splitN [] s).1,(splitN [] s).2)=cur::fv (splitN [] s):=by
     unfold fv;simp only;split<;>simp
    rw[e];simp only[List.flatten_cons,List.length_append,List.length_cons];have hcl:0<cur.length:=List.length_pos_iff.2 hcur;omega
  ·rw[if_neg hc]
   obtain⟨h1,h2,h3⟩:=oD s (cur++[c]);simp only[List.length_append,List.length_singleton,List.length_cons,List.length_nil] at*;exact⟨by omega,by omega,by omega⟩
theorem jS (s:Str):(cq s).flatten.length+(cq s).length≤s.length+1:=by
 have:=(oD s []).2.2;simp only[List.length_nil,Nat.zero_add] at this;exact this
theorem pg {l:List Str} {x:Str} (h:x∈l):x.length≤l.flatten.length:=by
 induction l with
 |nil=>cases h
 |cons y l ih=>
  simp only[List.mem_cons] at h;simp only[List.flatten_cons,List.length_append];rcases h with rfl|h
  ·omega
  ·have:=ih h;omega
theorem mc {s x:Str} (h:x∈cq s):x.length≤s.length:=by
 have h1:=jS s;have h2:=pg h;have h3:0<(cq s).length:=List.length_pos_of_mem h;omega
theorem pN:∀l:List Str,(l.flatMap fun x=>47::x).length=l.flatten.length+l.length
 | [] =>rfl
 |x::l=>by simp [List.flatMap_cons,List.length_append,pN l];omega
theorem ie {s:Str} (hl:s.length≤1073741824):gh s=some (cq s):=by
 unfold gh;have key:∀(n k:Nat) (cur:Str) (acc:List Str),k≤s.length→s.length+1 - k<n→cur.length≤k→acc.length≤k→cT s (fun z7=>some z7) n cur (k:Int) acc=some (acc++fv (splitN cur (s.drop k))):=by
  intro n;induction n with
  |zero=>intro k _ _ _ h;omega
  |succ n ih=>
   intro k cur acc hk hn hcur hacc;simp only[cT];have e1:decide ((k:Int)≤(List.length s:Int))=true:=by simp;omega
   rw[e1,ay];by_cases h:k<s.length
   ·obtain⟨c,hc,hd⟩:=wq h
    rw[dec_lt h,ay,bP,ay,toNat_cast,hc,ah,hd];simp only[splitN];by_cases h47:c=47
    ·subst h47
     have e2:((UInt8.toNat (47:UInt8):Int) !=(47:Int))=false:=by decide
     rw[e2,ax,if_pos rfl,bc (by omega)];by_cases hc0:cur= []
     ·subst hc0
      have e3:(!(([] :Str)==([] :Str)))=false:=rfl;rw[e3,ax,if_pos rfl];exact ih (k+1) [] acc (by omega) (by omega) (by simp) (by omega)
     ·have e3:(!(cur==([] :Str)))=true:=by simp [hc0]
      rw[e3,ay,if_neg hc0,bV (by unfold LIM;simp;omega),ih (k+1) [] (acc++[cur]) (by omega) (by omega) (by simp) (by simp;omega)];unfold fv;simp only;split<;>simp
    ·have e2:((UInt8.toNat c:Int) !=(47:Int))=true:=by
      rw[bne_iff_ne];intro e;apply h47;have:=jo c 47 (by omega);rw[e] at this;simpa using this
     rw[e2,ay,if_neg h47,bc (by omega)];have e4:(s.take (k+1)).drop k=[c]:=by
      have e9:=(List.getElem?_eq_some_iff.1 hc);rw[List.take_add_one,hc];have:(s.take k).length=k:=by simp;omega
      rw[List.drop_append_of_le_length (by omega),List.drop_eq_nil_of_le (by omega)];rfl
     simp only[toNat_cast];rw[aL (by simp;omega),aL (by simp;omega),e4,bV (by unfold LIM;simp;omega)];exact ih (k+1) (cur++[c]) acc (by omega) (by omega) (by simp;omega) (by omega)
   ·have hkl:k=s.length:=by omega
    subst hkl;rw[bW (Nat.le_refl _),ax,List.drop_length,bc (by omega)];simp only[splitN,fv];have ex:∀acc:List Str,cT s (fun z7=>some z7) n ([] :Str) ((s.length+1:Nat):Int) acc=some acc:=by
     intro acc;cases n with
     |zero=>omega
     |succ n=>
      simp only[cT];have:decide (((s.length+1:Nat):Int)≤(List.length s:Int))=false:=by simp;omega
      rw[this,ax]
    by_cases hc0:cur= []
    ·subst hc0
     have e3:(!(([] :Str)==([] :Str)))=false:=rfl;rw[e3,ax,ex];simp
    ·have e3:(!(cur==([] :Str)))=true:=by simp [hc0]
     rw[e3,ay,bV (by unfold LIM;simp;omega),ex];simp [hc0]
 have:=key bw 0 [] [] (Nat.zero_le _) (by have:=sU;omega) (by simp) (by simp);simpa [cq] using this
theorem yN {l:List Str} (hl:l.flatten.length+l.length≤1073741824):oQ l=some (iI l):=by
 unfold oQ iI;by_cases h0:l= []
 ·subst h0;rfl
 ·rw[aW (by simp [h0]),if_neg h0]
  refine jn (l:=l) (fun n i s=>gI l (fun z6=>some z6) n s i) (fun k s=>s=(l.take k).flatMap fun x=>47::x) (fun r=>r=some (l.flatMap fun x=>47::x)) (by omega) (fun n k x s hk hx hi hr=> ?_) (fun n s hi=> ?_) [] (by simp)
  ·simp only[gI]
   have hs:s.length≤1073741824:=by
    subst hi;rw[pN];have h1:(l.take k).flatten.length≤l.flatten.length:=by
     conv=>rhs;rw[←List.take_append_drop k l]
     rw[List.flatten_append,List.length_append];omega
    have h2:(l.take k).length≤l.length:=by simp;omega
    omega
   have hxl:=pg (List.mem_of_getElem? hx);rw[dec_lt hk,ay,bV (by unfold LIM;simp;omega),bP,ay,toNat_cast,hx,ah,bV (by unfold LIM;simp;omega),bc (by omega)];refine hr _ ?_;rw[List.take_add_one,hx,hi];simp
  ·simp only[gI]
   rw[bW (Nat.le_refl _),ax];rw[List.take_length] at hi;rw[hi]
theorem Fq {l:List Str} (h:l≠ []):([47]:Str)++Lib.join l [47]=l.flatMap fun x=>47::x:=by
 cases l with
 |nil=>exact absurd rfl h
 |cons x r=>
  rw[Lib.join_cons];simp [Lib.joinTail,List.flatMap_cons,List.flatMap_def]
theorem A1 {l:List Str} (hl:l.flatten.length+l.length≤16777216):lW l=some (iI l):=by
 unfold lW iI;by_cases h0:l= []
 ·subst h0;rfl
 ·have e:=Fq h0
  have hlen:(Lib.join l [47]).length+1=l.flatten.length+l.length:=by rw[←pN,←e];simp
  rw[aW (by simp [h0]),if_neg h0];unfold strings_Join;rw[if_pos (by omega),ah,bV (by unfold LIM;simp;omega),e]
theorem DL {l:List Str} {p:Bool} (hl:l.length≤1073741824):gN l (some true) (some p) bw (0:Int)=some (l.any (fun x=>decide (255<x.length))||p):=by
 refine(bU (l:=l) (fun n i (_:Unit)=>gN l (some true) (some p) n i) (fun k (x:Str) s K=>if decide (255<x.length) then some true else K s) (fun _=>some p) (by omega) (fun n k x u hk hx=> ?_) (fun n u=> ?_) ()).trans ?_
 ·simp only[gN]
  rw[dec_lt hk,bP,toNat_cast,hx,bc (by omega)];simp only[ay,ah,aZ,if_true];have:decide ((List.length x:Int)>(255:Int))=decide (255<x.length):=by rw[decide_eq_decide];omega
  rw[this]
 ·simp only[gN]
  rw[bW (Nat.le_refl _)];rfl
 ·rw[jx (fun x:Str=>decide (255<x.length)) _ _ (some true) (fun k x=>rfl)]
  cases l.any (fun x=>decide (255<x.length))<;>rfl
theorem rL {s:Str} (hl:s.length≤1073741823):ja s=some (pj s):=by
 unfold ja;have:=jS s;rw[ie (by omega),ah,DL (by omega)];unfold pj;have:decide ((List.length s:Int)>(4095:Int))=decide (4095<s.length):=by rw[decide_eq_decide];omega
 rw[this]
theorem uM {α R:Type} (p:α→Bool) (kr k0:Option R):∀(l:List α) (k:Nat) (s:Unit),dL (fun _ x s K=>if !p x then kr else K s) (fun _=>k0) k l s=if l.all p then k0 else kr
 | [],_,_=>rfl
 |x::l,k,s=>by
  by_cases h:p x=true
  ·have e:(x::l).all p=l.all p:=by simp [h]
   rw[e];simp only[dL];rw[if_neg (by simp [h])];exact uM p kr k0 l (k+1) s
  ·have e:(x::l).all p=false:=by simp [h]
   rw[e];simp [dL,h]
theorem GZ {R:Type} {l:List Str} (kr k0:Option R) (hl:l.length≤1073741824) (hx:∀x∈l,x.length≤1099511627775):eX l kr k0 bw (0:Int)=if l.all eL then k0 else kr:=by
 refine(bU (l:=l) (fun n i (_:Unit)=>eX l kr k0 n i) (fun k (x:Str) s K=>if !eL x then kr else K s) (fun _=>k0) (by omega) (fun n k x u hk hx'=> ?_) (fun n u=> ?_) ()).trans ?_
 ·simp only[eX]
  rw[dec_lt hk,bP,toNat_cast,hx',bc (by omega)];simp only[ay,ah,aZ,if_true];rw[lG (hx x (List.mem_of_getElem? hx'))];simp only[ah]
 ·simp only[eX]
  rw[bW (Nat.le_refl _)];rfl
 ·exact uM eL _ _ _ _ _
theorem pE {s:Str} (hl:s.length≤1073741823):kN s=some (cj s):=by
 unfold kN;have:=jS s;rw[ie (by omega),ah,GZ _ _ (by omega) (fun x hx=>by have:=mc hx;omega),yN (by omega),ah];unfold cj;by_cases h1:(cq s).all eL=true
 ·rw[if_pos h1]
  by_cases h2:iI (cq s)=s
  ·rw[aW (by simp [h2]),if_pos ⟨h2,h1⟩]
  ·rw[aL (by simp [h2]),if_neg (fun h=>h2 h.1)]
 ·rw[if_neg h1,if_neg (fun h=>h1 h.2)]
theorem Ee {R:Type} (k2:Str→List Str→Option R):∀(n:Nat) (s:Str) (acc:List Str),s.length<n→s.length≤1073741823→acc.length+s.length≤1073741824→
 bB k2 n s acc=k2 (splitN [] s).2 (acc++(splitN [] s).1):=by
 intro n;induction n with
 |zero=>intro s acc h;omega
 |succ n ih=>
  intro s acc hn hl hacc;simp only[bB];by_cases h1:s=[47]
  ·subst h1
   rw[aL (by rfl),aL (by decide),aW (by rfl),aL (by decide)];show bB k2 n [] acc=_;have hn':1<n+1:=hn;rw[ih [] acc (by simp;omega) (by simp) (by simp at hacc⊢;omega)];rfl
  ·rw[aW (by rw[beq_eq_false_iff_ne];exact fun e=>h1 e.symm)]
   unfold stringslite_IndexByte;have e47:((47:Int).toNat.toUInt8)=47:=rfl;rw[ah,e47];rcases mr 47 s with⟨h2,h3⟩ |⟨a,b,h2,h3,h4⟩
   ·rw[h3,aL (by decide),pW s [] h2];simp
   ·have hsl:s.length=a.length+(b.length+1):=by rw[h2];simp
    rw[h4,aW (by simp)];have e0:IntKind.i64.wrap ((a.length:Int)+0)=(a.length:Int):=by rw[cd (by omega) (by omega)];omega
    rw[e0,bc (by omega)];simp only[toNat_cast];have e1:s.take a.length=a:=by rw[h2];simp
    have e2:s.drop (a.length+1)=b:=by rw[h2];simp
    rw[e1,e2,aL (by simp;omega)];have hsp:=sd a [] b h3;rw[←h2,List.nil_append] at hsp;rw[hsp];by_cases ha:a= []
    ·rw[aW (by simp [ha]),aL (by simp;omega),ih b acc (by omega) (by omega) (by omega),if_pos ha]
    ·rw[aL (by simp [ha]),bV (by unfold LIM;simp;omega),aL (by simp;omega),ih b (acc++[a]) (by omega) (by omega) (by simp;omega),if_neg ha]
     simp
theorem DF {R:Type} {l:List Str} (kr:Int→Option R) (k0:Option R) (hl:l.length≤1073741824) (hx:∀x∈l,x.length≤1099511627775) (r:Option R) (hr:∀k:Nat,kr (k:Int)=r):cJ (List.length l:Int) l kr k0 bw (0:Int)=if l.all eL then k0 else r:=by
 refine(bU (l:=l) (fun n i (_:Unit)=>cJ (List.length l:Int) l kr k0 n i) (fun k (x:Str) s K=>if !eL x then r else K s) (fun _=>k0) (by omega) (fun n k x u hk hx'=> ?_) (fun n u=> ?_) ()).trans ?_
 ·simp only[cJ]
  rw[dec_lt hk,F3 hk,toNat_cast,hx',bc (by omega)];simp only[ay,ah,aZ,if_true];rw[qj (hx x (List.mem_of_getElem? hx')),hr];simp only[ah]
 ·simp only[cJ]
  rw[bW (Nat.le_refl _)];rfl
 ·exact uM eL _ _ _ _ _
theorem rz {s:Str} (hl:s.length≤8388608):l6 s=some (cj s):=by
 unfold l6;rw[Ee _ bw s [] (by have:=sU;omega) (by omega) (by simp;omega)];have h1:=jS s;have h2:∀l,l=cq s→(aj (lW l) fun y10=>ae (!(y10==s)) (some (([] :List Str),false)) (cJ (List.length l:Int) l (fun z22=>ae (decide (z22≥(0:Int))) (some (([] :List Str),false)) (some (l,true))) (some (l,true)) bw (0:Int)))=some (cj s):=by
  rintro l rfl;rw[A1 (by omega),ah,DF _ _ (by omega) (fun x hx=>by have:=mc hx;omega) (some ([],false)) (fun k=>by rw[aL (by simp)])];unfold cj;by_cases h2:iI (cq s)=s
  ·rw[aW (by simp [h2])]
   by_cases h1:(cq s).all eL=true
   ·rw[if_pos h1,if_pos ⟨h2,h1⟩]
   ·rw[if_neg h1,if_neg (fun h=>h1 h.2)]
  ·rw[aL (by simp [h2]),if_neg (fun h=>h2 h.1)]
 have hs:=oD s [];simp only[List.nil_append];by_cases h0:(splitN [] s).2= []
 ·rw[aW (by simp [h0])]
  exact h2 _ (by unfold cq fv;rw[if_pos h0])
 ·rw[aL (by simp [h0]),bV (by unfold LIM;simp;omega)]
  exact h2 _ (by unfold cq fv;rw[if_neg h0])
theorem nB {s:Str} (hl:s.length≤1073741823):ij s=some (dX s):=by
 unfold ij dX;rw[ie (by omega),ah];by_cases h0:s= []
 ·subst h0;rfl
 ·have hp:0<s.length:=List.length_pos_iff.2 h0
  have e1:IntKind.i64.wrap ((List.length s:Int) - 1)=((s.length - 1:Nat):Int):=by rw[cd (by omega) (by omega)];omega
  have e3:Int.toNat (0:Int)=0:=rfl;rw[aL (by simp;omega),aL (by decide),e3,e1,toNat_cast,List.getElem?_eq_getElem hp,ah];have ht:s.take 1=[s[0]]:=by
   rw[List.take_add_one,List.getElem?_eq_getElem hp];simp
  have hd:s.drop (s.length - 1)=[s[s.length - 1]]:=by
   rw[List.drop_eq_getElem_cons (by omega),List.drop_eq_nil_of_le (by omega)]
  have b1:((UInt8.toNat s[0]:Int)==(47:Int))=(s.take 1==[47]):=by
   rw[ht];have:=jo s[0] 47 (by omega);have e:((UInt8.toNat s[0]:Int)==(47:Int))=(s[0]==47):=this;rw[e,Bool.eq_iff_iff];simp
  have b2:((UInt8.toNat s[s.length - 1]:Int)==(47:Int))=(s.drop (s.length - 1)==[47]):=by
   rw[hd];have:=jo s[s.length - 1] 47 (by omega);have e:((UInt8.toNat s[s.length - 1]:Int)==(47:Int))=(s[s.length - 1]==47):=this;rw[e,Bool.eq_iff_iff];simp
  rw[b1];cases hn:cq s with
  |nil=>rw[aW (by simp)];simp
  |cons x l=>
   rw[aL (by simp),aL (by simp),List.getElem?_eq_getElem (by omega),ah,b2];simp
structure WF (f:Fs):Prop where
 sm:SmF f
 sort:cG f.aa
 pos:∀x∈f.aa,1≤x.ino
 right:∀x∈f.aa,gu x.entries=true
 there:∀x∈f.aa,∀e∈x.entries,(au e.ino f.aa).isSome=true
 root:(au 1 f.aa).isSome=true
theorem r5 {x:al} (h:fq x=true):gu x.entries=true:=by
 unfold fq at h;simp only[Bool.or_eq_true,Bool.and_eq_true,decide_eq_true_eq] at h;rcases h with⟨_,h,_⟩ |⟨_,_,h⟩ |⟨_,h,_⟩
 ·have:x.entries= [] :=by simpa using h
  rw[this];rfl
 ·exact h
 ·have:x.entries= [] :=by simpa using h
  rw[this];rfl
theorem Sound.wf {f:Fs} (h:Sound f) (hs:SmF f):WF f:=by
 obtain⟨r,hr,_⟩:=h.root;exact⟨hs,h.sort,fun x hx=>(h.ino x hx).1,fun x hx=>r5 (h.kind x hx),fun x hx e he=>by
  obtain⟨y,hy⟩:=h.there x hx e he;rw[hy];rfl,by rw[hr];rfl⟩
section
variable {f:Fs}
theorem WF.IF (h:WF f) {x:al} (hx:x∈f.aa):gD x.entries:=((ic _).1 (h.right x hx)).1
theorem WF.found (h:WF f) {n:Int} {x:al} (hx:au n f.aa=some x):x∈f.aa∧x.ino=n:=cg hx
theorem WF.zero (h:WF f):au 0 f.aa=none:=by
 cases hf:au 0 f.aa with
 |none=>rfl
 |some x=>
  obtain⟨h1,h2⟩:=cg hf;have:=h.pos x h1;omega
theorem WF.get (h:WF f) (n:Int):cf f n=some (aD n f.aa,(au n f.aa).isSome):=dh h.sort h.sm.len
theorem WF.uf (h:WF f) (n:Int):bH f n=some (aD n f.aa,(au n f.aa).isSome):=cI h.sm.len
theorem WF.set (h:WF f) (x:al):a_ f x=some (f.set x):=cQ h.sort h.sm.len
theorem WF.ajM (h:WF f) (x:al):bG f x=some (f.set x):=cu h.sm.len
end
def cx (n:Str) (l:List Entry):Int:=match cR n l with|some e=>e.ino|none=>0
theorem w7 {l:List Entry} {n:Str} (hs:gD l) (hl:l.length≤1073741824):my l n=some (cx n l,(cR n l).isSome):=by
 rw[yW hs hl];unfold cx;cases cR n l<;>rfl
theorem pC {l:List Entry} {n:Str} (hl:l.length≤1073741824):km l n=some (cx n l,(cR n l).isSome):=by
 rw[yZ hl];unfold cx;cases cR n l<;>rfl
theorem mg {f:Fs} (h:WF f) {x:al} (hx:x∈f.aa) (n:Str):cx n x.entries=0∨(au (cx n x.entries) f.aa).isSome=true:=by
 unfold cx;cases hf:cR n x.entries with
 |none=>exact Or.inl rfl
 |some e=>exact Or.inr (h.there x hx e (cg hf).1)
def gd:ar:=⟨0, [],0⟩
def dm:ar:=⟨0, [],1⟩
def cB (l:List al):List Str→ar→ar×Int
 | [],s=>(s,0)
 |n::ns,s=>match au s.ino l with
  |none=>(gd,1)
  |some d=>if d.kind=2 then cB l ns ⟨d.ino,n,cx n d.entries⟩ else (gd,3)
def atP (f:Fs) (p:Str):ar×Int:=if (cj p).2=true then cB f.aa (cj p).1 dm else (gd,9)
theorem Ab {p:Str}:(cj p).1.length≤p.length+1∧∀x∈(cj p).1,x.length≤p.length:=by
 unfold cj;split
 ·exact⟨by have:=jS p;simp only;omega,fun x hx=>mc hx⟩
 ·exact⟨by simp,by simp⟩
theorem drop_cons {α:Type} {l:List α} {k:Nat} {x:α} (h:l[k]? =some x):l.drop k=x::l.drop (k+1):=by
 obtain⟨hk,e⟩:=List.getElem?_eq_some_iff.1 h;rw[List.drop_eq_getElem_cons hk,e]
theorem vk {f:Fs} {p:Str} (h:WF f) (hp:p.length≤8388608):pz f p=some (atP f p):=by
 unfold pz atP;rw[rz hp,ah];have hl:=Ab (p:=p);cases hb:(cj p).2
 ·rfl
 ·simp only[Bool.not_true,ax,if_true]
  generalize (cj p).1=l at hl;refine jn (l:=l) (fun n i s=>jj l (List.length l:Int) f (fun z15=>some ((⟨((⟨0, [],0⟩:ar).dir),((⟨0, [],0⟩:ar).name),((⟨0, [],0⟩:ar).ino)⟩:ar),z15)) (fun z16=>some (z16,(0:Int))) n i s) (fun k s=>cB f.aa (l.drop k) s=cB f.aa l dm) (fun r=>r=some (cB f.aa l dm)) (by omega) (fun n k x s hk hx hi hr=> ?_) (fun n s hi=> ?_) dm (by simp)
  ·simp only[jj]
   rw[drop_cons hx] at hi;simp only[cB] at hi;rw[dec_lt hk,bP,toNat_cast,hx,bc (by omega)];simp only[ay,ah];rw[h.get,ah];unfold aD;cases hf:au s.ino f.aa with
   |none=>rw[hf] at hi;simp only[Option.isSome_none,Bool.not_false,ay];rw[←hi];rfl
   |some d=>
    rw[hf] at hi;simp only[Option.isSome_some,Bool.not_true,ax,Option.getD_some,dT] at hi⊢;by_cases hk2:d.kind=2
    ·rw[if_pos hk2] at hi
     have hd:=(h.found hf).1;rw[aW (by simp [hk2]),w7 (h.IF hd) (h.sm.dy d hd),ah];exact hr _ hi
    ·rw[if_neg hk2] at hi
     rw[aL (by simp [hk2]),←hi];rfl
  ·simp only[jj]
   rw[List.drop_length] at hi;simp only[cB] at hi;rw[bW (Nat.le_refl _),ax,←hi]
theorem qa {f:Fs} {p:Str} (h:WF f) (hp:p.length≤8388608):qt f p=some (atP f p):=by
 unfold qt atP;rw[pE (by omega),ah];have hl:=Ab (p:=p);cases hb:(cj p).2
 ·rfl
 ·simp only[Bool.not_true,ax,if_true]
  generalize (cj p).1=l at hl;refine jn (l:=l) (fun n i s=>jm l f (fun z15=>some ((⟨((⟨0, [],0⟩:ar).dir),((⟨0, [],0⟩:ar).name),((⟨0, [],0⟩:ar).ino)⟩:ar),z15)) (fun z16=>some (z16,(0:Int))) n i s) (fun k s=>cB f.aa (l.drop k) s=cB f.aa l dm∧(s.ino=0∨(au s.ino f.aa).isSome=true)) (fun r=>r=some (cB f.aa l dm)) (by omega) (fun n k x s hk hx hi hr=> ?_) (fun n s hi=> ?_) dm ⟨by simp,Or.inr h.root⟩
  ·simp only[jm]
   obtain⟨hi,hz⟩:=hi;rw[drop_cons hx] at hi;simp only[cB] at hi;rw[dec_lt hk,ay,eO,bP,toNat_cast,hx,bc (by omega)];by_cases h0:s.ino=0
   ·rw[aL (by simp [h0]),←hi,h0,h.zero];rfl
   ·rw[aW (by simp [h0]),h.uf,ah]
    obtain⟨d,hf⟩:=Option.isSome_iff_exists.1 (hz.resolve_left h0);unfold aD;rw[hf] at hi⊢;simp only[ay,ah,Option.getD_some,dT] at hi⊢;by_cases hk2:d.kind=2
    ·rw[if_pos hk2] at hi
     have hd:=(h.found hf).1;rw[aW (by simp [hk2]),pC (h.sm.dy d hd),ah];exact hr _ ⟨hi,mg h hd x⟩
    ·rw[if_neg hk2] at hi
     rw[aL (by simp [hk2]),←hi];rfl
  ·simp only[jm]
   obtain⟨hi,_⟩:=hi;rw[List.drop_length] at hi;simp only[cB] at hi;rw[bW (Nat.le_refl _),ax,←hi]
theorem tE {l:List al}:∀{ns:List Str} {s t:ar},cB l ns s=(t,0)→(ns= [] ∧t=s)∨∃d n ns',ns=ns'++[n]∧au t.dir l=some d∧d.ino=t.dir∧d.kind=2∧t.name=n∧t.ino=cx n d.entries
 | [],s,t,h=>by simp [cB] at h;exact Or.inl ⟨rfl,h.symm⟩
 |n::ns,s,t,h=>by
  right;simp only[cB] at h;cases hf:au s.ino l with
  |none=>rw[hf] at h;simp at h
  |some d=>
   rw[hf] at h;simp only at h;by_cases hk:d.kind=2
   ·rw[if_pos hk] at h
    rcases tE h with⟨rfl,rfl⟩ |⟨d',n',ns',h1,h2,h3,h4,h5,h6⟩
    ·refine⟨d,n, [],rfl, ?_,rfl,hk,rfl,rfl⟩
     have:=(cg hf).2;simp only;rw[this];exact hf
    ·exact⟨d',n',n::ns',by rw[h1];rfl,h2,h3,h4,h5,h6⟩
   ·rw[if_neg hk] at h;simp at h
theorem JB {f:Fs} (h:WF f) {ns:List Str} {t:ar} (hg:cB f.aa ns dm=(t,0)):t.ino=0∨(au t.ino f.aa).isSome=true:=by
 rcases tE hg with⟨_,rfl⟩ |⟨d,n,ns',_,h2,_,_,_,h6⟩
 ·exact Or.inr h.root
 ·rw[h6];exact mg h (cg h2).1 n
def vP (f:Fs) (p:Str):al×Int:=if (atP f p).2=0 then (match au (atP f p).1.ino f.aa with|some x=>(x,0) |none=>(jP,1)) else (jP,(atP f p).2)
theorem Nk {f:Fs} {p:Str} (h:WF f) (h0:(atP f p).2=0):(atP f p).1.ino=0∨(au (atP f p).1.ino f.aa).isSome=true:=by
 unfold atP at h0⊢;split
 ·rename_i hb
  rw[if_pos hb] at h0;have:cB f.aa (cj p).1 dm=((cB f.aa (cj p).1 dm).1,0):=by rw[←h0]
  exact JB h this
 ·rename_i hb
  rw[if_neg hb] at h0;cases h0
theorem Bx {f:Fs} {p:Str} (h:WF f) (hp:p.length≤8388608):uy f p=some (vP f p):=by
 unfold uy vP;rw[qa h hp,ah,dT,eO];by_cases h0:(atP f p).2=0
 ·rw[aW (by simp [h0]),if_pos h0]
  by_cases hi:(atP f p).1.ino=0
  ·rw[aL (by simp [hi]),hi,h.zero];rfl
  ·rw[aW (by simp [hi]),h.uf,ah]
   obtain⟨x,hx⟩:=Option.isSome_iff_exists.1 ((Nk h h0).resolve_left hi);unfold aD;rw[hx];rfl
 ·rw[aL (by simp [h0]),if_neg h0];rfl
def al.vd (d:al) (l:List Entry):al:=⟨d.ino,d.kind,d.aI,d.data,d.parent,l⟩
theorem kK {f:Fs} {x:al}:(f.set x).aa.length≤f.aa.length+1:=l8
theorem Iz {f:Fs} {x:al} {N:Nat} (h:∀y∈f.aa,y.entries.length≤N) (hx:x.entries.length≤N):∀y∈(f.set x).aa,y.entries.length≤N:=by
 intro y hy;rcases yA.1 hy with rfl|⟨hy,_⟩
 ·exact hx
 ·exact h y hy
def lH {α:Type} (μ :α→Int) (l:List α):Int:=(l.map μ).sum
section
variable {α:Type} {μ :α→Int}
theorem ek (μ :α→Int) (x:α) (l:List α):lH μ (x::l)= μ x+lH μ l:=by simp [lH]
theorem wc (h:∀x,0≤ μ x):∀l:List α,0≤lH μ l
 | [] =>by simp [lH]
 |x::l=>by rw[ek];have:=h x;have:=wc h l;omega
theorem nR (h:∀x,0≤ μ x) {x:α}:∀{l:List α},x∈l→ μ x≤lH μ l
 |y::l,hx=>by
  rw[ek];have h1:=h y;have h2:=wc h l;simp only[List.mem_cons] at hx;rcases hx with rfl|hx
  ·omega
  ·have:=nR h hx;omega
theorem xF (h:∀x,0≤ μ x) {x y:α} (hne:x≠y):∀{l:List α},x∈l→y∈l→ μ x+ μ y≤lH μ l
 |z::l,hx,hy=>by
  rw[ek];have h1:=h z;simp only[List.mem_cons] at hx hy;rcases hx with rfl|hx
  ·rcases hy with rfl|hy
   ·exact absurd rfl hne
   ·have:=nR h hy;omega
  ·rcases hy with rfl|hy
   ·have:=nR h hx;omega
   ·have:=xF h hne hx hy;omega
theorem xM (h:∀x,0≤ μ x):∀{l:List α},0<lH μ l→∃x∈l,0< μ x
 | [],hp=>by simp [lH] at hp
 |z::l,hp=>by
  rw[ek] at hp;by_cases hz:0< μ z
  ·exact⟨z,by simp,hz⟩
  ·obtain⟨x,hx,h2⟩:=xM h (l:=l) (by omega)
   exact⟨x,by simp [hx],h2⟩
theorem sM (l:List α):lH (fun _=>1) l=(l.length:Int):=by
 induction l with
 |nil=>rfl
 |cons x l ih=>rw[ek,ih,List.length_cons];omega
end
def iD {α:Type} (μ :α→Int):Option α→Int
 |some x=> μ x
 |none=>0
section
variable {α κ:Type} [DecidableEq κ] {lt:κ→κ→Bool} {key:α→κ}
theorem Dw (μ :α→Int) (x:α):∀l:List α,lH μ (jc lt key x l)= μ x+lH μ l
 | [] =>by simp [jc,lH]
 |y::l=>by
  simp only[jc];split
  ·rw[ek]
  ·rw[ek,Dw μ x l,ek];omega
theorem FP (k:κ) (y:α) (l:List α):eJ key k (y::l)=if key y=k then eJ key k l else y::eJ key k l:=by
 unfold eJ;rw[List.filter_cons];by_cases h:key y=k<;>simp [h]
theorem EL (k:κ) (y:α) (l:List α):b7 key k (y::l)=if key y=k then some y else b7 key k l:=by
 unfold b7;rw[List.find?_cons];by_cases h:key y=k<;>simp [h]
theorem lX (O:LO lt) (μ :α→Int) {k:κ}:∀{l:List α},dg lt key l→lH μ (eJ key k l)+iD μ (b7 key k l)=lH μ l
 | [],_=>by simp [eJ,b7,lH,iD]
 |y::l,hs=>by
  unfold dg at hs;rw[List.pairwise_cons] at hs;rw[FP,EL,ek];by_cases h:key y=k
  ·rw[if_pos h,if_pos h,CJ O (fun x hx=>by rw[←h];exact hs.1 x hx)]
   simp only[iD];omega
  ·rw[if_neg h,if_neg h,ek]
   have:=lX O μ (k:=k) hs.2;omega
theorem sy (O:LO lt) (μ :α→Int) {x:α} {l:List α} (hs:dg lt key l):lH μ (o7 lt key x l)+iD μ (b7 key (key x) l)=lH μ l+ μ x:=by
 unfold o7;rw[Dw];have:=lX O μ (k:=key x) hs;omega
theorem Le (O:LO lt) {x:α} {l:List α} (hs:dg lt key l):(o7 lt key x l).length=if (b7 key (key x) l).isSome then l.length else l.length+1:=by
 have h:=sy O (fun _=>1) (x:=x) hs;rw[sM,sM] at h;cases hf:b7 key (key x) l with
 |none=>rw[hf] at h;simp only[iD] at h;simp;omega
 |some y=>rw[hf] at h;simp only[iD] at h;simp;omega
theorem IM (O:LO lt) {k:κ} {l:List α} (hs:dg lt key l):(eJ key k l).length+(if (b7 key k l).isSome then 1 else 0)=l.length:=by
 have h:=lX O (fun _=>1) (k:=k) hs;rw[sM,sM] at h;cases hf:b7 key k l with
 |none=>rw[hf] at h;simp only[iD] at h;simp;omega
 |some y=>rw[hf] at h;simp only[iD] at h;simp;omega
end
def one (n:Int) (e:Entry):Int:=if e.ino=n then 1 else 0
def ec (n:Int) (l:List Entry):Int:=lH (one n) l
def fc (n:Int) (l:List al):Int:=lH (fun x=>ec n x.entries) l
theorem BP (n:Int) (e:Entry):0≤one n e:=by unfold one;split<;>omega
theorem Af (n:Int) (l:List Entry):0≤ec n l:=wc (BP n) l
theorem Ki (n:Int) (l:List al):0≤fc n l:=wc (μ :=fun x:al=>ec n x.entries) (fun x=>Af n x.entries) l
theorem E6 {n:Int} {l:List Entry} {e:Entry} (h:e∈l) (he:e.ino=n):1≤ec n l:=by
 have:=nR (BP n) h;unfold one at this;rw[if_pos he] at this;exact this
theorem KC {n:Int} {l:List Entry} (h:0<ec n l):∃e∈l,e.ino=n:=by
 obtain⟨e,he,h2⟩:=xM (BP n) h;refine⟨e,he, ?_⟩;unfold one at h2;split at h2
 ·assumption
 ·omega
theorem xB {n:Int} {l:List al} {x:al} {e:Entry} (hx:x∈l) (h:e∈x.entries) (he:e.ino=n):1≤fc n l:=by
 have h1:=nR (μ :=fun x:al=>ec n x.entries) (fun x=>Af n x.entries) hx;have h2:=E6 h he;unfold fc;omega
theorem Jg {n:Int} {l:List al} (h:0<fc n l):∃x∈l,∃e∈x.entries,e.ino=n:=by
 obtain⟨x,hx,h2⟩:=xM (μ :=fun x:al=>ec n x.entries) (fun x=>Af n x.entries) h;exact⟨x,hx,KC h2⟩
theorem wa {n:Int} {l:List al} (h:fc n l≤1) {x y:al} {e e':Entry} (hx:x∈l) (he:e∈x.entries) (hn:e.ino=n) (hy:y∈l) (he':e'∈y.entries) (hn':e'.ino=n):x=y∧e=e':=by
 have hxy:x=y:=by
  rcases Classical.em (x=y) with h'|h'
  ·exact h'
  ·have h1:=xF (μ :=fun x:al=>ec n x.entries) (fun x=>Af n x.entries) h' hx hy
   have h2:=E6 he hn;have h3:=E6 he' hn';unfold fc at h;omega
 subst hxy;refine⟨rfl, ?_⟩;rcases Classical.em (e=e') with h'|h'
 ·exact h'
 ·have h1:=xF (BP n) h' he he'
  unfold one at h1;rw[if_pos hn,if_pos hn'] at h1;have h2:=nR (μ :=fun x:al=>ec n x.entries) (fun x=>Af n x.entries) hx;unfold fc at h;unfold ec at h h2;unfold one at h h2;omega
theorem A9 (n:Int) (l:List Entry):ec n l=(nk n l:Int):=by
 induction l with
 |nil=>rfl
 |cons e l ih=>
  unfold ec at ih⊢;rw[ek,ih,Hy];unfold one;split<;>omega
theorem Ap (n:Int):∀(l:List al) (s:Nat×Int),((fB n l s).1:Int)=s.1+fc n l
 | [],s=>by simp [fB,fc,lH]
 |x::l,s=>by
  simp only[fB];rw[Ap n l];unfold fc;rw[ek,A9];simp only;omega
theorem zO (f:Fs) (n:Int):((dY f n).1:Int)=fc n f.aa:=by
 unfold dY;rw[Ap];simp
theorem tX (n:Int):∀(l:List al) (s:Nat×Int) (k:Int),(∀x∈l,∀e∈x.entries,e.ino=n→x.ino=k)→(fB n l s).2=if fc n l=0 then s.2 else k
 | [],s,k,_=>by simp [fB,fc,lH]
 |x::l,s,k,h=>by
  simp only[fB];rw[tX n l _ k (fun y hy=>h y (by simp [hy]))];have h1:=Af n x.entries;have h2:=Ki n l;have h3:fc n (x::l)=ec n x.entries+fc n l:=by unfold fc;rw[ek]
  rw[h3];by_cases h0:nk n x.entries=0
  ·have:ec n x.entries=0:=by rw[A9,h0];rfl
   simp only[h0,if_true,this,Int.zero_add]
  ·have h4:0<ec n x.entries:=by rw[A9];omega
   obtain⟨e,he,hn⟩:=KC h4;have h5:=h x (by simp) e he hn;have h6:¬ec n x.entries+fc n l=0:=by omega
   simp only[h0,if_false,h6,h5];split<;>rfl
theorem eM {l:List al} {x:al} (hs:cG l) (hx:x∈l):au x.ino l=some x:=lR loI hs hx
theorem Fg {l:List al} {x:al} {k:Int} (hs:cG l) (hx:x∈l) (hk:x.ino=k):au k l=some x:=hk▸lR loI hs hx
theorem aP {l:List al} {k:Int} {x:al} (h:au k l=some x):x∈l∧x.ino=k:=cg h
inductive Reach (l:List al):Int→Prop where
 |root:Reach l 1
 |step {k:Int} {x:al} {e:Entry}:Reach l k→au k l=some x→e∈x.entries→Reach l e.ino
theorem aR {k:Int} {l:List al} {x:al} (h:au k l=some x):aD k l=x:=by unfold aD;rw[h];rfl
theorem dQ {k:Int} {l:List al} (h:au k l=none):aD k l=jP:=by unfold aD;rw[h];rfl
theorem Reach.get {l:List al} {k:Int} {e:Entry} (h:Reach l k) (he:e∈(aD k l).entries):Reach l e.ino:=by
 cases hf:au k l with
 |none=>rw[dQ hf] at he;simp [jP] at he
 |some x=>rw[aR hf] at he;exact .step h hf he
theorem lq:∀(es:List Entry) (s:List Int) (n:Int),n∈es.foldl visit s↔n∈s∨∃e∈es,e.ino=n
 | [],s,n=>by simp
 |e::es,s,n=>by
  simp only[List.foldl_cons];rw[lq es (visit s e) n];have:n∈visit s e↔n∈s∨e.ino=n:=by
   unfold visit;split
   ·rename_i h
    constructor
    ·exact Or.inl
    ·rintro(h'|rfl)
     ·exact h'
     ·exact h
   ·simp [eq_comm]
  rw[this];simp only[List.mem_cons];constructor
  ·rintro((h|h) |⟨e',h1,h2⟩)
   ·exact Or.inl h
   ·exact Or.inr ⟨e,Or.inl rfl,h⟩
   ·exact Or.inr ⟨e',Or.inr h1,h2⟩
  ·rintro(h|⟨e',rfl|h1,h2⟩)
   ·exact Or.inl (Or.inl h)
   ·exact Or.inl (Or.inr h2)
   ·exact Or.inr ⟨e',h1,h2⟩
theorem sN (l:List al):∀(n i:Nat) (s:List Int),(∀k∈s,Reach l k)→∀k∈iX l n i s,Reach l k
 |0,_,s,h=>h
 |n+1,i,s,h=>by
  simp only[iX];cases hi:s[i]? with
  |none=>exact h
  |some k=>
   refine sN l n (i+1) _ fun m hm=> ?_
   unfold nt at hm;rw[lq] at hm;rcases hm with hm|⟨e,he,rfl⟩
   ·exact h m hm
   ·exact(h k (List.mem_of_getElem? hi)).get he
theorem rE (l:List al):∀(n i:Nat) (s:List Int),pe l s→(dK l).length+1 - i≤n→i≤s.length→(∀j k,j<i→s[j]? =some k→∀e∈(aD k l).entries,e.ino∈s)→
 (∀k∈s,k∈iX l n i s)∧∀k∈iX l n i s,∀e∈(aD k l).entries,e.ino∈iX l n i s
 |0,i,s,hv,hn,hi,h=>by
  have:=hv.len;omega
 |n+1,i,s,hv,hn,hi,h=>by
  simp only[iX];cases hk:s[i]? with
  |none=>
   refine⟨fun k hk=>hk,fun k hk2 e he=> ?_⟩;obtain⟨j,hj⟩:=List.mem_iff_getElem?.1 hk2;have h1:j<s.length:=(List.getElem?_eq_some_iff.1 hj).1;have h2:s.length≤i:=List.getElem?_eq_none_iff.1 hk;exact h j k (by omega) hj e he
  |some k=>
   have hlt:i<s.length:=(List.getElem?_eq_some_iff.1 hk).1;obtain⟨t,ht⟩:=ll (aD k l).entries s;have h3:=rE l n (i+1) (nt (aD k l) s) (uj hv) (by omega) (by unfold nt;rw[ht];simp;omega) (by
    intro j m hj hm e he;unfold nt at hm⊢;rw[lq];rw[ht,List.getElem?_append_left (by omega)] at hm;by_cases hji:j=i
    ·subst hji
     rw[hk] at hm;cases hm;exact Or.inr ⟨e,he,rfl⟩
    ·exact Or.inl (h j m (by omega) hm e he))
   refine⟨fun m hm=>h3.1 m ?_,h3.2⟩;unfold nt;rw[ht];simp [hm]
theorem yx {l:List al} {n:Int}:n∈A_ l↔Reach l n:=by
 unfold A_;constructor
 ·exact sN l _ _ _ (fun k hk=>by simp at hk;subst hk;exact .root) n
 ·intro h
  have hc:=rE l ((dK l).length+1) 0 [1] (D3 l) (by omega) (by simp) (fun j k hj=>by omega);induction h with
  |root=>exact hc.1 1 (by simp)
  |step h hf he ih=>exact hc.2 _ ih _ (by rw[aR hf];exact he)
theorem tn (l:List al):∀(n i:Nat) (s:List Int),pe l s→(iX l n i s).Nodup
 |0,_,s,h=>h.nodup
 |n+1,i,s,h=>by
  simp only[iX];cases hi:s[i]? with
  |none=>exact h.nodup
  |some k=>exact tn l n (i+1) _ (uj h)
theorem wS (l:List al):(A_ l).Nodup:=tn l _ _ _ (D3 l)
theorem Fk {l:List al} (h:cG l):(l.map al.ino).Nodup:=by
 unfold List.Nodup;rw[List.pairwise_map];unfold cG dg at h;exact h.imp fun{a b} hab e=>by simp only[ltI,decide_eq_true_eq] at hab;omega
theorem EF {a b:List Int} (ha:a.Nodup) (hs:∀x∈a,x∈b) (hl:b.length≤a.length):∀x∈b,x∈a:=by
 intro x hx;rcases Classical.em (x∈a) with h|h
 ·exact h
 ·have:=qX (m:=b.erase x) ha (fun y hy=>(List.mem_erase_of_ne (by intro e;subst e;exact h hy)).2 (hs y hy))
  rw[List.length_erase_of_mem hx] at this;have:=List.length_pos_of_mem hx;omega
structure Tree (f:Fs):Prop where
 vS:1≤f.aA∧f.aA≤1073741824
 vL:0≤f.aH∧f.aH≤1073741824
 next:f.next≤1099511627776
 ino:∀x∈f.aa,1≤x.ino∧x.ino<f.next
 sort:cG f.aa
 root:∃r,au 1 f.aa=some r∧r.kind=2∧r.parent=1
 kind:∀x∈f.aa,fq x=true
 there:∀x∈f.aa,∀e∈x.entries,∃y,au e.ino f.aa=some y
 aI:∀x∈f.aa,x.aI=fc x.ino f.aa
 sW:fc 1 f.aa=0
 Ig:∀x∈f.aa,x.kind=2→fc x.ino f.aa≤1
 par:∀x∈f.aa,x.kind=2→∀d∈f.aa,∀e∈d.entries,e.ino=x.ino→x.parent=d.ino
 led:∀x∈f.aa,Reach f.aa x.ino
 fits:cO f 0 0=true
theorem Reach.there {f:Fs} (ht:∀x∈f.aa,∀e∈x.entries,∃y,au e.ino f.aa=some y) (hr:∃r,au 1 f.aa=some r) {k:Int} (h:Reach f.aa k):∃y,au k f.aa=some y:=by
 cases h with
 |root=>exact hr
 |step h hf he=>exact ht _ (cg hf).1 _ he
theorem Reach.named {l:List al} {k:Int} (h:Reach l k) (h1:k≠1):∃x∈l,∃e∈x.entries,e.ino=k:=by
 cases h with
 |root=>exact absurd rfl h1
 |step h hf he=>exact⟨_,(cg hf).1,_,he,rfl⟩
theorem GC {f:Fs} (hs:cG f.aa) (ht:∀x∈f.aa,∀e∈x.entries,∃y,au e.ino f.aa=some y) (hr:∃r,au 1 f.aa=some r):(A_ f.aa).length=f.aa.length↔∀x∈f.aa,Reach f.aa x.ino:=by
 have hsub:∀k∈A_ f.aa,k∈f.aa.map al.ino:=fun k hk=>by
  obtain⟨y,hy⟩:=Reach.there ht hr (yx.1 hk);obtain⟨h1,h2⟩:=cg hy;exact List.mem_map.2 ⟨y,h1,h2⟩
 constructor
 ·intro h x hx
  exact yx.1 (EF (wS _) hsub (by rw[List.length_map];omega) x.ino (List.mem_map.2 ⟨x,hx,rfl⟩))
 ·intro h
  have h1:=qX (wS f.aa) hsub;have h2:=qX (m:=A_ f.aa) (Fk hs) (fun k hk=>by
   obtain⟨x,hx,rfl⟩:=List.mem_map.1 hk;exact yx.2 (h x hx))
  rw[List.length_map] at h1 h2;omega
theorem En (f:Fs):Sound f↔Tree f:=by
 constructor
 ·intro h
  obtain⟨r,hr,hk⟩:=h.root;have hrm:=cg hr;have hlink:∀x∈f.aa,x.aI=fc x.ino f.aa∧(x.ino=1→fc 1 f.aa=0∧x.parent=1)∧(x.ino≠1→x.kind=2→fc x.ino f.aa=1∧x.parent=(dY f x.ino).2):=by
   intro x hx;have hl:=h.link x hx;unfold zp at hl;simp only[Bool.and_eq_true,decide_eq_true_eq] at hl;obtain⟨h1,h2⟩:=hl;have h3:=zO f x.ino;refine⟨by omega,fun e=> ?_,fun e e2=> ?_⟩
   ·rw[if_pos e] at h2
    simp only[Bool.and_eq_true,decide_eq_true_eq] at h2;rw[e] at h3 h2;exact⟨by omega,h2.2⟩
   ·rw[if_neg e] at h2
    simp only[Bool.and_eq_true,decide_eq_true_eq,e2,if_true] at h2;exact⟨by omega,h2.2.2⟩
  have hrl:=hlink r hrm.1;have hr1:r.ino=1:=hrm.2;have hr0:=hrl.2.1 hr1;refine⟨h.vS,h.vL,h.next,h.ino,h.sort,⟨r,hr,hk,hr0.2⟩,h.kind,h.there,fun x hx=>(hlink x hx).1,hr0.1,fun x hx hk2=> ?_,fun x hx hk2 d hd e he hn=> ?_,(GC h.sort h.there ⟨r,hr⟩).1 h.led,h.fits⟩
  ·by_cases h1:x.ino=1
   ·rw[h1,hr0.1];omega
   ·rw[((hlink x hx).2.2 h1 hk2).1];omega
  ·by_cases h1:x.ino=1
   ·have:=xB hd he hn
    rw[h1,hr0.1] at this;omega
   ·obtain⟨h2,h3⟩:=(hlink x hx).2.2 h1 hk2
    rw[h3];unfold dY;rw[tX x.ino f.aa (0,0) d.ino (fun y hy e' he' hn'=>by rw[(wa (by omega) hy he' hn' hd he hn).1]),if_neg (by omega)]
 ·intro h
  obtain⟨r,hr,hk,hp⟩:=h.root;refine⟨h.vS,h.vL,h.next,h.ino,h.sort,⟨r,hr,hk⟩,h.kind,h.there,fun x hx=> ?_,(GC h.sort h.there ⟨r,hr⟩).2 h.led,h.fits⟩;have h3:=zO f x.ino;have h4:=h.aI x hx;unfold zp;simp only[Bool.and_eq_true,decide_eq_true_eq];refine⟨by omega, ?_⟩;by_cases h1:x.ino=1
  ·have h5:=h.sW
   have:x=r:=by
    have:=eM h.sort hx;rw[h1,hr] at this;exact(Option.some.inj this).symm
   rw[if_pos h1];simp only[Bool.and_eq_true,decide_eq_true_eq];rw[h1] at h3⊢;exact⟨by omega,by rw[this];exact hp⟩
  ·rw[if_neg h1]
   obtain⟨d,hd,e,he,hn⟩:=(h.led x hx).named h1;have h5:=xB hd he hn;simp only[Bool.and_eq_true,decide_eq_true_eq];refine⟨by omega, ?_⟩;by_cases hk2:x.kind=2
   ·rw[if_pos hk2]
    simp only[Bool.and_eq_true,decide_eq_true_eq];have h6:=h.Ig x hx hk2;refine⟨by omega, ?_⟩;unfold dY;rw[tX x.ino f.aa (0,0) d.ino (fun y hy e' he' hn'=>by rw[(wa h6 hy he' hn' hd he hn).1]),if_neg (by omega)];exact h.par x hx hk2 d hd e he hn
   ·rw[if_neg hk2]
inductive Way (l:List al) (i:Int):Int→Nat→Prop where
 |here:Way l i i 0
 |step {k:Int} {n:Nat} {x:al} {e:Entry}:Way l i k n→au k l=some x→e∈x.entries→Way l i e.ino (n+1)
theorem Reach.way {l:List al} {k:Int} (h:Reach l k):∃n,Way l 1 k n:=by
 induction h with
 |root=>exact⟨0, .here⟩
 |step _ hf he ih=>obtain⟨n,hn⟩:=ih;exact⟨n+1, .step hn hf he⟩
theorem Way.trans {l:List al} {i j k:Int} {n m:Nat} (h1:Way l i j n) (h2:Way l j k m):Way l i k (n+m):=by
 induction h2 with
 |here=>exact h1
 |step _ hf he ih=>exact .step ih hf he
theorem Way.first {l:List al} {i k:Int} {n:Nat} {x:al} {e:Entry} (hf:au i l=some x) (he:e∈x.entries) (h:Way l e.ino k n):Way l i k (n+1):=by
 have:=Way.trans (.step .here hf he) h;rwa[Nat.add_comm] at this
theorem Way.head {l:List al} {i k:Int} {n:Nat} (h:Way l i k n):(n=0∧k=i)∨∃m x e,n=m+1∧au i l=some x∧e∈x.entries∧Way l e.ino k m:=by
 induction h with
 |here=>exact Or.inl ⟨rfl,rfl⟩
 |step h hf he ih=>
  rcases ih with⟨rfl,rfl⟩ |⟨m,y,e',rfl,h1,h2,h3⟩
  ·exact Or.inr ⟨0,_,_,rfl,hf,he, .here⟩
  ·exact Or.inr ⟨m+1,y,e',rfl,h1,h2, .step h3 hf he⟩
section
variable {f:Fs}
theorem Az {x:al} (h:fq x=true) {e:Entry} (he:e∈x.entries):x.kind=2:=by
 unfold fq at h;simp only[Bool.or_eq_true,Bool.and_eq_true,decide_eq_true_eq] at h;rcases h with⟨_,h,_⟩ |⟨h,_⟩ |⟨_,h,_⟩
 ·have:x.entries= [] :=by simpa using h
  rw[this] at he;cases he
 ·exact h
 ·have:x.entries= [] :=by simpa using h
  rw[this] at he;cases he
theorem Tree.dy (h:Tree f) {k:Int} {x:al} {e:Entry} (hf:au k f.aa=some x) (he:e∈x.entries):x.kind=2:=Az (h.kind x (cg hf).1) he
theorem Tree.up (h:Tree f) {k k':Int} {x x' y:al} {e e':Entry} (hf:au k f.aa=some x) (he:e∈x.entries) (hf':au k' f.aa=some x') (he':e'∈x'.entries) (hn:e.ino=e'.ino) (hy:au e.ino f.aa=some y) (hd:y.kind=2):k=k'∧x=x'∧e=e':=by
 obtain⟨y1,y2⟩:=cg hy;obtain⟨x1,x2⟩:=cg hf;obtain⟨x1',x2'⟩:=cg hf';have h1:=wa (h.Ig y y1 hd) x1 he y2.symm x1' he' (hn▸y2.symm);refine⟨?_,h1.1,h1.2⟩;rw[←x2,←x2',h1.1]
theorem Tree.qd (h:Tree f) {k:Int} {x:al} {e:Entry} (hf:au k f.aa=some x) (he:e∈x.entries):e.ino≠1:=by
 intro h1;have:=xB (cg hf).1 he h1;rw[h.sW] at this;omega
theorem Tree.deep (h:Tree f) {k:Int} {n:Nat} (hw:Way f.aa 1 k n):∀{m:Nat} {y:al},au k f.aa=some y→y.kind=2→Way f.aa 1 k m→n=m:=by
 induction hw with
 |here=>
  intro m y _ _ hm;generalize hk:(1:Int)=k at hm;cases hm with
  |here=>rfl
  |step h1 hf he=>exact absurd hk.symm (h.qd hf he)
 |step hw hf he ih=>
  rename_i k' n' x e;intro m y hy hd hm;generalize hk:e.ino=k at hm;cases hm with
  |here=>exact absurd hk (h.qd hf he)
  |step h1 hf' he'=>
   obtain⟨rfl,rfl,rfl⟩:=h.up hf he hf' he' hk hy hd;rw[ih hf (h.dy hf he) h1]
theorem Tree.BZ (h:Tree f) {i:Int} {a n:Nat} {x:al} {e:Entry} (hi:Way f.aa 1 i a) (hx:au i f.aa=some x) (he:e∈x.entries):¬Way f.aa e.ino i n:=fun w=>by
 have:=h.deep hi hx (h.dy hx he) (hi.trans (w.first hx he));omega
end
def TY (p n:Str):Str:=if p=[47] then p++n else (p++[47])++n
def Ot {α:Type} (l m:List α):Prop:=∃a b s,l=a++b∧m=a++s::b
theorem Ot.len {α:Type} {l m:List α} (h:Ot l m):m.length=l.length+1:=by
 obtain⟨a,b,s,rfl,rfl⟩:=h;simp;omega
theorem Ot.sub {α:Type} {l m:List α} (h:Ot l m):List.Sublist l m:=by
 obtain⟨a,b,s,rfl,rfl⟩:=h;exact(List.Sublist.refl a).append (List.sublist_cons_self s b)
structure Lil (f:Fs):Prop where
 len:f.aa.length≤10000
 dy:∀x∈f.aa,x.entries.length≤10000
theorem Lil.JL {f:Fs} (h:o0 f=true):Lil f:=by
 obtain⟨h1,h2⟩:=qQ h;exact⟨by omega,fun x hx=>by have:=(h2 x hx).2.1;omega⟩
theorem yq {α:Type} {μ :α→Int} {c:Int} {l:List α} (h:∀x∈l, μ x≤c):lH μ l≤l.length*c:=by
 induction l with
 |nil=>simp [lH]
 |cons x l ih=>
  rw[ek,List.length_cons];have h1:=ih (fun y hy=>h y (by simp [hy]));have h2:=h x (by simp);have:((l.length+1:Nat):Int)*c=(l.length:Int)*c+c:=by
   rw[Int.natCast_add,Int.add_mul];simp
  omega
structure InF (f:Fs):Prop where
 len:f.aa.length≤1073741824
 dy:∀x∈f.aa,x.entries.length≤1073741824
def Nm (x:Str):Prop:=x≠ [] ∧∀c∈x,c≠47
theorem qO {x:Str} (h:eL x=true):Nm x:=by
 unfold eL at h;simp only[Bool.and_eq_true,Bool.not_eq_true',beq_eq_false_iff_ne] at h;obtain⟨h1,_,h3,_⟩:=h;refine⟨h1,fun c hc e=> ?_⟩;rw[List.any_eq_false] at h3;have:=h3 c hc;unfold lu at this;rw[e] at this;exact this rfl
theorem CG {x:Str} (h:eL x=true):x.length≤255:=by
 unfold eL at h;simp only[Bool.and_eq_true,decide_eq_true_eq] at h;exact h.2.1
theorem KK (ns:List Str) (b:Str):∃r,(ns.flatMap fun x=>47::x)++47::b=47::r:=by
 cases ns with
 |nil=>exact⟨b,rfl⟩
 |cons x ns=>exact⟨x++((ns.flatMap fun x=>47::x)++47::b),by simp⟩
theorem qN (b:Str):splitN [] (47::b)=splitN [] b:=by simp [splitN]
theorem u4 (b:Str):∀ns:List Str,(∀x∈ns,Nm x)→splitN [] ((ns.flatMap fun x=>47::x)++47::b)=(ns++(splitN [] b).1,(splitN [] b).2)
 | [],_=>by simp [qN]
 |x::ns,h=>by
  have hx:=h x (by simp);obtain⟨r,hr⟩:=KK ns b;have ih:=u4 b ns (fun y hy=>h y (by simp [hy]));rw[hr,qN] at ih;have e:((x::ns).flatMap fun x=>47::x)++47::b=47::(x++47::r):=by
   rw[List.flatMap_cons,List.append_assoc,hr];simp
  rw[e,qN,sd x [] r hx.2,ih,List.nil_append,if_neg hx.1];simp
theorem vu (b:Str) {ns:List Str} (h:∀x∈ns,Nm x):cq ((ns.flatMap fun x=>47::x)++47::b)=ns++cq b:=by
 unfold cq;rw[u4 b ns h];unfold fv;simp only;split<;>simp
theorem Fb {x:Str} (h:Nm x):cq x=[x]:=by
 unfold cq;rw[pW x [] h.2];unfold fv;rw[List.nil_append,if_neg h.1];rfl
theorem Ai (b:Str):cq (47::b)=cq b:=by unfold cq;rw[qN]
theorem kZ {ns:List Str} (h:∀x∈ns,Nm x):cq (iI ns)=ns:=by
 unfold iI;rcases List.eq_nil_or_concat ns with rfl|⟨ns',x,rfl⟩
 ·rfl
 ·rw[List.concat_eq_append] at h⊢
  rw[if_neg (by simp),List.flatMap_append];have e:([x].flatMap fun x=>(47:UInt8)::x)=47::x:=by simp
  rw[e,vu x (fun y hy=>h y (by simp [hy])),Fb (h x (by simp))]
theorem JA {ns:List Str} (h:∀x∈ns,Nm x) (h0:ns≠ []):iI ns≠[47]:=by
 intro e;have:=kZ h;rw[e] at this;exact h0 this.symm
theorem vK {ns:List Str} (h:∀x∈ns,Nm x) (b:Str):cq (iI ns++47::b)=ns++cq b:=by
 unfold iI;by_cases h0:ns= []
 ·subst h0
  show cq (47::47::b)=_;rw[Ai,Ai];rfl
 ·rw[if_neg h0,vu b h]
theorem B3 {ns:List Str} (h:∀x∈ns,eL x=true):cj (iI ns)=(ns,true):=by
 have:=kZ (fun x hx=>qO (h x hx));unfold cj;rw[this,if_pos ⟨rfl,by rw[List.all_eq_true];exact h⟩]
theorem jr {p:Str} (h:(cj p).2=true):iI (cj p).1=p∧(∀x∈(cj p).1,eL x=true)∧(cj p).1=cq p:=by
 unfold cj at h⊢;split
 ·rename_i h1
  refine⟨h1.1, ?_,rfl⟩;have:=h1.2;rw[List.all_eq_true] at this;exact this
 ·rename_i h1
  rw[if_neg h1] at h;cases h
theorem gM {l:List al} {n:Str} {ns:List Str} {s:ar} (hf:au s.ino l=none):cB l (n::ns) s=(gd,1):=by
 simp only[cB];rw[hf]
theorem eD {l:List al} {n:Str} {ns:List Str} {s:ar} {d:al} (hf:au s.ino l=some d) (hk:d.kind=2):cB l (n::ns) s=cB l ns ⟨d.ino,n,cx n d.entries⟩:=by
 simp only[cB];rw[hf];simp only;rw[if_pos hk]
theorem gK {l:List al} {n:Str} {ns:List Str} {s:ar} {d:al} (hf:au s.ino l=some d) (hk:d.kind≠2):cB l (n::ns) s=(gd,3):=by
 simp only[cB];rw[hf];simp only;rw[if_neg hk]
theorem p_ (l:List al):∀(a b:List Str) (s:ar),cB l (a++b) s=if (cB l a s).2=0 then cB l b (cB l a s).1 else (gd,(cB l a s).2)
 | [],b,s=>by simp [cB]
 |n::a,b,s=>by
  rw[List.cons_append];cases hf:au s.ino l with
  |none=>rw[gM hf,gM hf];rfl
  |some d=>
   by_cases hk:d.kind=2
   ·rw[eD hf hk,eD hf hk];exact p_ l a b _
   ·rw[gK hf hk,gK hf hk];rfl
theorem zy {x:al} {n:Str} (h:cx n x.entries≠0):∃e∈x.entries,e.name=n∧e.ino=cx n x.entries∧cR n x.entries=some e:=by
 unfold cx at h⊢;cases hf:cR n x.entries with
 |none=>rw[hf] at h;exact absurd rfl h
 |some e=>exact⟨e,(cg hf).1,(cg hf).2,rfl,rfl⟩
structure OnW (f:Fs) (m:Nat) (i:Int) (p:Str) (s:Seen) (ns:List Str):Prop where
 may:∀n∈ns,eL n=true
 len:ns.length≤m
 path:s.path=ns.foldl TY p
 there:∃x,au s.ino f.aa=some x
 go:∀sp:ar,sp.ino=i→∃t,cB f.aa ns sp=(t,0)∧t.ino=s.ino∧(ns= [] →t=sp)
 way:Way f.aa i s.ino ns.length
structure AtR (f:Fs) (s:Seen) (ns:List Str) (x:al) (t:ar):Prop where
 may:∀n∈ns,eL n=true
 len:ns.length≤f.aa.length+1
 path:s.path=iI ns
 there:au s.ino f.aa=some x
 go:cB f.aa ns dm=(t,0)
 ino:t.ino=s.ino
 nil:ns= [] →t=dm
theorem AtR.atP {f:Fs} {s:Seen} {ns:List Str} {x:al} {t:ar} (h:AtR f s ns x t):atP f s.path=(t,0):=by
 unfold Go.Eng.atP;rw[h.path,B3 h.may,if_pos rfl,h.go]
theorem AtR.vP {f:Fs} {s:Seen} {ns:List Str} {x:al} {t:ar} (h:AtR f s ns x t):vP f s.path=(x,0):=by
 unfold Go.Eng.vP;rw[h.atP,if_pos rfl,h.ino,h.there]
instance abt:DecidableEq Seen:=fun a b=>
 if h:a.path=b.path∧a.ino=b.ino then isTrue (by cases a;cases b;simp at h;simp [h]) else isFalse (by intro e;subst e;exact h ⟨rfl,rfl⟩)
theorem Gm {α:Type} (a:α) (l:List α):((List.length (a::l):Int)==(0:Int))=false:=by
 rw[beq_eq_false_iff_ne];simp only[List.length_cons];omega
structure WS (f:Fs):Prop where
 wf:WF f
 par:∀x∈f.aa,x.kind=2→∃y,au x.parent f.aa=some y∧y.kind=2
 sym:∀x∈f.aa,x.kind=3→x.data.length≤4095
 I8:∃r,au 1 f.aa=some r∧r.kind=2
theorem Kh {x:al} (h:fq x=true) (hk:x.kind=3):x.data.length≤4095∧1≤x.data.length:=by
 rw[zQ hk] at h;simp only[Bool.and_eq_true,decide_eq_true_eq] at h;exact⟨h.2.2.1.2,h.2.2.1.1⟩
theorem Tree.ws {f:Fs} (h:Tree f) (hw:WF f):WS f where
 wf:=hw
 par:=fun x hx hk=>by
  obtain⟨r,hr,hk',hp⟩:=h.root;by_cases h1:x.ino=1
  ·have:=Fg h.sort hx h1
   rw[hr] at this;cases this;exact⟨_,by rw[hp];exact hr,hk'⟩
  ·obtain⟨d,hd,e,he,hn⟩:=(h.led x hx).named h1
   have:=h.par x hx hk d hd e he hn;exact⟨d,by rw[this];exact eM h.sort hd,Az (h.kind d hd) he⟩
 sym:=fun x hx hk=>(Kh (h.kind x hx) hk).1
 I8:=by obtain⟨r,hr,hk,_⟩:=h.root;exact⟨r,hr,hk⟩
def ub (l:List al) (dir:Bool) (s:ar):ar×Int:=match au s.ino l with
 |some x=>if dir=true∧x.kind≠2 then (gd,3) else (s,0)
 |none=>(s,0)
def dq (l:List al) (fol:Bool) (lnk:Bool→al→al→List Str→ar×Int) (dir:Bool):List Str→ar→ar×Int
 | [],s=>ub l dir s
 |n::rest,s=>match au s.ino l with
  |none=>(gd,1)
  |some d=>if d.kind=2 then (if n=[46] then dq l fol lnk dir rest ⟨0, [],d.ino⟩ else if n=[46,46] then dq l fol lnk dir rest ⟨0, [],d.parent⟩
   else if (aD (cx n d.entries) l).kind=3∧(rest≠ [] ∨fol=true∨dir=true) then lnk dir (aD (cx n d.entries) l) d rest
   else dq l fol lnk dir rest ⟨d.ino,n,cx n d.entries⟩) else (gd,3)
def onK (l:List al) (fol:Bool):Nat→Bool→List Str→ar→ar×Int
 |0=>dq l fol fun _ _ _ _=>(gd,6)
 |k+1=>dq l fol fun dir x d rest=>if pj x.data=true then (gd,7) else onK l fol k (dir||((dX x.data).gU&&rest.isEmpty)) ((dX x.data).names++rest) ⟨0, [],if (dX x.data).abs=true then 1 else d.ino⟩
def rJ (f:Fs) (base:Str):Int×Int:=if (vP f base).2=0 then (if (vP f base).1.kind=2 then ((vP f base).1.ino,0) else (0,3)) else (0,(vP f base).2)
def jQ (f:Fs) (base p:Str) (fol:Bool):ar×Int:=
 if p= [] then (gd,1) else if pj p=true then (gd,7) else
 if (dX p).abs=true then onK f.aa fol 40 (dX p).gU (dX p).names dm else
 if (rJ f base).2=0 then onK f.aa fol 40 (dX p).gU (dX p).names ⟨0, [],(rJ f base).1⟩ else (gd,(rJ f base).2)
def Lp (l:List al) (fol:Bool):Nat→Bool→al→al→List Str→ar×Int
 |0=>fun _ _ _ _=>(gd,6)
 |k+1=>fun dir x d rest=>if pj x.data=true then (gd,7) else onK l fol k (dir||((dX x.data).gU&&rest.isEmpty)) ((dX x.data).names++rest) ⟨0, [],if (dX x.data).abs=true then 1 else d.ino⟩
theorem Kz (l:List al) (fol:Bool) (k:Nat):onK l fol k=dq l fol (Lp l fol k):=by cases k<;>rfl
section
variable {l:List al} {fol dir:Bool} {lnk:Bool→al→al→List Str→ar×Int} {n:Str} {rest:List Str} {s:ar} {d:al}
theorem m4 (hf:au s.ino l=none):dq l fol lnk dir (n::rest) s=(gd,1):=by simp only[dq];rw[hf]
theorem qo (hf:au s.ino l=some d) (hk:d.kind≠2):dq l fol lnk dir (n::rest) s=(gd,3):=by simp only[dq];rw[hf];simp only;rw[if_neg hk]
theorem ot (hf:au s.ino l=some d) (hk:d.kind=2) (hn:n=[46]):dq l fol lnk dir (n::rest) s=dq l fol lnk dir rest ⟨0, [],d.ino⟩:=by simp only[dq];rw[hf];simp only;rw[if_pos hk,if_pos hn]
theorem qS (hf:au s.ino l=some d) (hk:d.kind=2) (hn:n=[46,46]):dq l fol lnk dir (n::rest) s=dq l fol lnk dir rest ⟨0, [],d.parent⟩:=by simp only[dq];rw[hf];simp only;rw[if_pos hk,if_neg (by rw[hn];decide),if_pos hn]
theorem js (hf:au s.ino l=some d) (hk:d.kind=2) (h1:n≠[46]) (h2:n≠[46,46]) (h3:(aD (cx n d.entries) l).kind=3∧(rest≠ [] ∨fol=true∨dir=true)):dq l fol lnk dir (n::rest) s=lnk dir (aD (cx n d.entries) l) d rest:=by simp only[dq];rw[hf];simp only;rw[if_pos hk,if_neg h1,if_neg h2,if_pos h3]
theorem j_ (hf:au s.ino l=some d) (hk:d.kind=2) (h1:n≠[46]) (h2:n≠[46,46]) (h3:¬((aD (cx n d.entries) l).kind=3∧(rest≠ [] ∨fol=true∨dir=true))):dq l fol lnk dir (n::rest) s=dq l fol lnk dir rest ⟨d.ino,n,cx n d.entries⟩:=by simp only[dq];rw[hf];simp only;rw[if_pos hk,if_neg h1,if_neg h2,if_neg h3]
end
theorem pQ (s:Str):(dX s).names=cq s:=rfl
theorem mS (s:Str):(cq s).length≤s.length+1:=by have:=jS s;omega
theorem D8 {f:Fs} {i:Int} (h:(aD i f.aa).kind=3):∃x,au i f.aa=some x∧aD i f.aa=x:=by
 cases hf:au i f.aa with
 |none=>rw[dQ hf] at h;cases h
 |some x=>exact⟨x,rfl,aR hf⟩
def wt:Nat→Nat
 |0=>0
 |k+1=>wt k+210000
theorem aug:wt 40=8400000:=rfl
theorem yO {f:Fs} (h:WF f) {base:Str} (hb:base.length≤8388608):r9 f base=some (rJ f base):=by
 unfold r9 rJ;rw[Bx h hb,ah,dT,dT];by_cases h1:(vP f base).2=0
 ·rw[aW (by simp [h1]),if_pos h1]
  by_cases h2:(vP f base).1.kind=2
  ·rw[aW (by simp [h2]),if_pos h2]
  ·rw[aL (by simp [h2]),if_neg h2]
 ·rw[aL (by simp [h1]),if_neg h1]
theorem GV {p:Str} (h:pj p=false):p.length≤4095:=by
 unfold pj at h;simp only[Bool.or_eq_false_iff,decide_eq_false_iff_not] at h;omega
theorem ajE {f:Fs} (h:WS f) (fol:Bool):∀(n k:Nat) (dir:Bool) (todo:List Str) (s:ar),(s.ino=0∨(au s.ino f.aa).isSome=true)→k≤40→todo.length≤5000*(41 - k)→wt k+todo.length<n→
 bI n f s todo fol dir ((40 - k:Nat):Int)=some (onK f.aa fol k dir todo s):=by
 intro n;induction n with
 |zero=>intro k dir todo s _ _ _ h;omega
 |succ n ih=>
  intro k dir todo s hs hk ht hn;simp only[bI];rw[Kz];cases todo with
  |nil=>
   rw[aL (by simp),h.wf.uf,ah];show _=some (ub f.aa dir s);unfold ub;cases hf:au s.ino f.aa with
   |none=>rfl
   |some x=>
    rw[aR hf,dT];simp only[Option.isSome_some,ay];cases dir
    ·simp
    ·by_cases hk:x.kind=2
     ·simp [hk]
     ·simp [hk];rfl
  |cons nm rest=>
   have hti:Int.toNat (0:Int)=0:=rfl;have ht1:Int.toNat (1:Int)=1:=rfl;simp only[List.length_cons] at ht hn;have ih':∀(s':ar),(s'.ino=0∨(au s'.ino f.aa).isSome=true)→(aj (bI n f s' rest fol dir ((40 - k:Nat):Int)) fun y4=>some (y4.1,y4.2))=some (dq f.aa fol (Lp f.aa fol k) dir rest s'):=fun s' hs'=>by
    rw[ih k dir rest s' hs' hk (by omega) (by omega),Kz];rfl
   rw[aW (Gm _ _),eO];by_cases h0:s.ino=0
   ·rw[aL (by simp [h0]),m4 (by rw[h0];exact h.wf.zero)];rfl
   rw[aW (by simp [h0]),h.wf.uf,ah];obtain⟨d,hf⟩:=Option.isSome_iff_exists.1 (hs.resolve_left h0);rw[aR hf,dT];by_cases hk2:d.kind=2
   case neg=>rw[qo hf hk2,aL (by simp [hk2])];rfl
   rw[aW (by simp [hk2]),aL (by decide),hti,List.getElem?_cons_zero,ah,ht1,aL (by simp;omega),List.drop_one,List.tail_cons];have hdm:=h.wf.found hf;by_cases hd1:nm=[46]
   ·rw[ot hf hk2 hd1,aL (by simp [hd1])]
    exact ih' ⟨0, [],d.ino⟩ (Or.inr (by rw[hdm.2,hf];rfl))
   rw[aW (by simp [hd1])];by_cases hd2:nm=[46,46]
   ·rw[qS hf hk2 hd2,aL (by simp [hd2])]
    exact ih' ⟨0, [],d.parent⟩ (Or.inr (by obtain⟨y,hy,_⟩:=h.par d hdm.1 hk2;rw[hy];rfl))
   rw[aW (by simp [hd2]),pC (h.wf.sm.dy d hdm.1),ah,h.wf.uf,ah];simp only;have hon:=ih' ⟨d.ino,nm,cx nm d.entries⟩ (mg h.wf hdm.1 nm);rw[dT];by_cases hk3:(aD (cx nm d.entries) f.aa).kind=3
   ·obtain⟨x,hx,hgx⟩:=D8 hk3
    rw[hgx] at hk3;have hxm:=h.wf.found hx;have hxl:=h.sym x hxm.1 hk3;have hne:cx nm d.entries≠0:=by intro e;rw[e,h.wf.zero] at hx;cases hx
    obtain⟨e,_,_,_,he4⟩:=zy hne;rw[he4,hgx,aW (by simp),aW (by simp [hk3])];have hnl:(cq x.data).length≤4096:=by have:=mS x.data;omega
    have blk:ae ((((40 - k:Nat):Int))==(40:Int)) (some ((⟨0, [],0⟩:ar),(6:Int))) (aj (ja x.data) fun y11=>
 ae y11 (some ((⟨0, [],0⟩:ar),(7:Int))) (aj (ij x.data) fun y12=>
 ae y12.abs (
 ae y12.gU (
 ae ((List.length rest:Int)==(0:Int)) (aT (([] :List Str).length+y12.names.length) (aT (y12.names.length+rest.length) (aj (bI n f (⟨0, [],(1:Int)⟩:ar) (y12.names++rest) fol true (IntKind.i64.wrap (((40 - k:Nat):Int)+(1:Int)))) fun y13=>some (y13.1,y13.2)))) (aT (([] :List Str).length+y12.names.length) (aT (y12.names.length+rest.length) (aj (bI n f (⟨0, [],(1:Int)⟩:ar) (y12.names++rest) fol dir (IntKind.i64.wrap (((40 - k:Nat):Int)+(1:Int)))) fun y14=>some (y14.1,y14.2))))) (aT (([] :List Str).length+y12.names.length) (aT (y12.names.length+rest.length) (aj (bI n f (⟨0, [],(1:Int)⟩:ar) (y12.names++rest) fol dir (IntKind.i64.wrap (((40 - k:Nat):Int)+(1:Int)))) fun y15=>some (y15.1,y15.2))))) (
 ae y12.gU (
 ae ((List.length rest:Int)==(0:Int)) (aT (([] :List Str).length+y12.names.length) (aT (y12.names.length+rest.length) (aj (bI n f (⟨0, [],d.ino⟩:ar) (y12.names++rest) fol true (IntKind.i64.wrap (((40 - k:Nat):Int)+(1:Int)))) fun y16=>some (y16.1,y16.2)))) (aT (([] :List Str).length+y12.names.length) (aT (y12.names.length+rest.length) (aj (bI n f (⟨0, [],d.ino⟩:ar) (y12.names++rest) fol dir (IntKind.i64.wrap (((40 - k:Nat):Int)+(1:Int)))) fun y17=>some (y17.1,y17.2))))) (aT (([] :List Str).length+y12.names.length) (aT (y12.names.length+rest.length) (aj (bI n f (⟨0, [],d.ino⟩:ar) (y12.names++rest) fol dir (IntKind.i64.wrap (((40 - k:Nat):Int)+(1:Int)))) fun y18=>some (y18.1,y18.2)))))))=some (Lp f.aa fol k dir x d rest):=by
     cases k with
     |zero=>rw[aL (by simp)];rfl
     |succ k=>
      have e:IntKind.i64.wrap (((40 - (k+1):Nat):Int)+1)=((40 - k:Nat):Int):=by rw[cd (by omega) (by omega)];omega
      rw[e,aW (by rw[eO];simp;omega),rL (by omega),ah];simp only[Lp];cases hlong:pj x.data
      case true=>rw[ay,if_pos rfl];rfl
      rw[ax,nB (by omega),ah,if_neg (by simp)];have hlen:((dX x.data).names++rest).length≤rest.length+4096:=by rw[List.length_append,pQ];omega
      have go:∀(dir':Bool) (s':ar),(s'.ino=0∨(au s'.ino f.aa).isSome=true)→aT (([] :List Str).length+(dX x.data).names.length) (aT ((dX x.data).names.length+rest.length) (aj (bI n f s' ((dX x.data).names++rest) fol dir' ((40 - k:Nat):Int)) fun y13=>some (y13.1,y13.2)))=some (onK f.aa fol k dir' ((dX x.data).names++rest) s'):=by
       intro dir' s' hs';have h7:(dX x.data).names.length≤4096:=by rw[pQ];omega
       rw[bV (by unfold LIM;simp;omega),bV (by unfold LIM;omega),ih k dir' _ s' hs' (by omega) (by clear ih ih';omega) (by clear ih ih';simp only[wt] at hn;omega)];rfl
      have r1:=fun dir'=>go dir' ⟨0, [],1⟩ (Or.inr h.wf.root)
      have r2:=fun dir'=>go dir' ⟨0, [],d.ino⟩ (Or.inr (by rw[hdm.2,hf];rfl))
      simp only[r1,r2];cases (dX x.data).abs
      ·cases (dX x.data).gU
       ·simp
       ·cases rest
        ·simp
        ·simp only[ay,ax,Gm];simp
      ·cases (dX x.data).gU
       ·simp
       ·cases rest
        ·simp
        ·simp only[ay,ax,Gm];simp
    by_cases hr:rest= []
    ·subst hr
     rw[aL (by simp)];cases fol
     ·cases dir
      ·simp only[Bool.not_false,ay]
       rw[j_ hf hk2 hd1 hd2 (by simp)];exact hon
      ·simp only[Bool.not_false,ay,Bool.not_true,ax]
       rw[js hf hk2 hd1 hd2 ⟨by rw[hgx];exact hk3,Or.inr (Or.inr rfl)⟩,hgx];exact blk
     ·simp only[Bool.not_true,ax]
      rw[js hf hk2 hd1 hd2 ⟨by rw[hgx];exact hk3,Or.inr (Or.inl rfl)⟩,hgx];exact blk
    ·rw[aW (by cases rest with|nil=>exact absurd rfl hr|cons a b=>exact Gm _ _),js hf hk2 hd1 hd2 ⟨by rw[hgx];exact hk3,Or.inl hr⟩,hgx]
     exact blk
   ·rw[aL (b:= !decide _) (by simp [hk3]),j_ hf hk2 hd1 hd2 (fun h9=>hk3 h9.1)]
    cases hfe:(cR nm d.entries).isSome
    ·rw[aL (by simp)];exact hon
    ·rw[aW (by simp)];exact hon
theorem De {f:Fs} (h:WF f) {base:Str}:(rJ f base).1=0∨(au (rJ f base).1 f.aa).isSome=true:=by
 unfold rJ vP;by_cases h1:(atP f base).2=0
 ·simp only[h1,if_true]
  cases hf:au (atP f base).1.ino f.aa with
  |none=>left;rfl
  |some x=>
   simp only[if_true];split
   ·right
    simp only;have:=h.found hf;rw[this.2,hf];rfl
   ·left;rfl
 ·left
  simp only[h1,if_false]
theorem yV {f:Fs} (h:WS f) {base p:Str} {fol:Bool} (hb:base.length≤8388608) (hp:p.length≤1073741823):sf f base p fol=some (jQ f base p fol):=by
 unfold sf jQ;by_cases h0:p= []
 ·rw[aL (by simp [h0]),if_pos h0];rfl
 rw[aW (by simp [h0]),if_neg h0,rL hp,ah];cases hl:pj p
 case true=>rw[ay,if_pos rfl];rfl
 have hlen:=GV hl;rw[ax,if_neg (by simp),nB hp,ah];have hnm:(dX p).names.length≤4096:=by rw[pQ];have:=mS p;omega
 have go:∀(s:ar),(s.ino=0∨(au s.ino f.aa).isSome=true)→(aj (tl f s (dX p).names fol (dX p).gU (0:Int)) fun y4=>some (y4.1,y4.2))=some (onK f.aa fol 40 (dX p).gU (dX p).names s):=fun s hs=>by
  unfold tl;have:=ajE h fol bw 40 (dX p).gU (dX p).names s hs (Nat.le_refl _) (by omega) (iu (by rw[aug];omega));have e:((40 - 40:Nat):Int)=0:=rfl;rw[e] at this;rw[this];rfl
 cases (dX p).abs
 ·simp only[Bool.not_false,ay,Bool.false_eq_true,if_false]
  rw[yO h.wf hb,ah,dT];by_cases h2:(rJ f base).2=0
  ·rw[aW (by simp [h2]),if_pos h2]
   exact go ⟨0, [],(rJ f base).1⟩ (De h.wf)
  ·rw[aL (by simp [h2]),if_neg h2];rfl
 ·simp only[Bool.not_true,ax,if_true]
  exact go dm (Or.inr h.wf.root)
def Gd (f:Fs) (fol:Bool) (s:ar):Prop:=(s.name= [] ∧s.dir=0∧∃d,au s.ino f.aa=some d∧d.kind=2)∨(s.name≠ [] ∧∃d,au s.dir f.aa=some d∧d.kind=2∧s.ino=cx s.name d.entries∧(fol=true→(aD s.ino f.aa).kind≠3))
end Go.Eng
