/- A part of the proofs of the laws of this seat: the engine that reads the program's code, plain functions, or facts of the program's functions. Conditions: none. -/
import Derived.Test.YtkdpombpeoiafaaGreatDoorE4
import Derived.Test.YtkdpombpeoiafaaGreatDoorP1
import Derived.Test.YtkdpombpeoiafaaGreatDoorE2
set_option linter.unusedSectionVars false
set_option linter.unusedVariables false
set_option linter.unusedSimpArgs false
set_option linter.unnecessarySimpa false
set_option linter.unusedSimpArgs false
set_option linter.unusedVariables false
namespace Go.Eng
open Go
@[simp] theorem bcase_true {α:Type} (x y:Option α):bcase true x y=x:=rfl
@[simp] theorem bcase_false {α:Type} (x y:Option α):bcase false x y=y:=rfl
@[simp] theorem ocase_some' {α β:Type} (a:α) (f:α→Option β):ocase (some a) f=f a:=rfl
theorem bcase_ite {α:Type} (b:Bool) (x y:Option α):bcase b x y=if b then x else y:=by cases b<;>rfl
theorem lcase_le {α:Type} {n:Nat} {x:Option α} (h:n≤LIM):lcase n x=x:=by
 unfold lcase;rw[Nat.ble_eq_true_of_le h]
theorem wrap_id {n:Int} (h1: -9223372036854775808≤n) (h2:n<9223372036854775808):IntKind.i64.wrap n=n:=by
 simp [IntKind.wrap,IntKind.bits,IntKind.signed];omega
theorem wrap_succ {k:Nat} (h:k<4611686018427387904):IntKind.i64.wrap ((k:Int)+1)=((k+1:Nat):Int):=by
 rw[wrap_id (by omega) (by omega)];rfl
theorem at_step {α:Type} {l:List α} {k:Nat} (h:k<l.length):∃x,l[k]? =some x∧l.drop k=x::l.drop (k+1):=
 ⟨l[k],by simp,List.drop_eq_getElem_cons h⟩
theorem dec_lt {k n:Nat} (h:k<n):decide ((k:Int)<(n:Int))=true:=by simp;omega
theorem dec_ge {k n:Nat} (h:n≤k):decide ((k:Int)<(n:Int))=false:=by simp;omega
theorem dec_nn (k:Nat):decide (0≤(k:Int))=true:=by simp
theorem dec_in {k n:Nat} (h:k<n):decide (0≤(k:Int)∧(k:Int)<(n:Int))=true:=by simp;omega
theorem toNat_cast (k:Nat):Int.toNat (k:Int)=k:=Int.toNat_natCast k
theorem fuel_ok {n:Nat} (h:n≤1099511627775):n<FUEL:=Nat.lt_of_lt_of_le (by omega) FUEL_ge
end Go.Eng
namespace Go.Eng
def foldG {α S R:Type} (G:Nat→α→S→(S→Option R)→Option R) (E:S→Option R):Nat→List α→S→Option R
 |_, [],s=>E s
 |k,x::r,s=>G k x s (foldG G E (k+1) r)
theorem loop_list {α S R:Type} {l:List α} (F:Nat→Int→S→Option R) (G:Nat→α→S→(S→Option R)→Option R) (E:S→Option R) (hl:l.length≤1099511627775)
 (h1:∀(n k:Nat) (x:α) (s:S),k<l.length→l[k]? =some x→F (n+1) (k:Int) s=G k x s (F n ((k+1:Nat):Int))) (h0:∀(n:Nat) (s:S),F (n+1) (l.length:Int) s=E s):
 ∀(n k:Nat) (s:S),k≤l.length→l.length - k<n→F n (k:Int) s=foldG G E k (l.drop k) s:=by
 intro n;induction n with
 |zero=>intro k s _ h;omega
 |succ n ih=>
  intro k s hk hn;by_cases h:k<l.length
  ·obtain⟨x,hx,hd⟩:=at_step h
   rw[h1 n k x s h hx,hd];simp only[foldG];congr 1;funext s';exact ih (k+1) s' (by omega) (by omega)
  ·have:k=l.length:=by omega
   subst this;rw[h0,List.drop_length];rfl
theorem loop_all {α S R:Type} {l:List α} (F:Nat→Int→S→Option R) (G:Nat→α→S→(S→Option R)→Option R) (E:S→Option R) (hl:l.length≤1099511627775)
 (h1:∀(n k:Nat) (x:α) (s:S),k<l.length→l[k]? =some x→F (n+1) (k:Int) s=G k x s (F n ((k+1:Nat):Int))) (h0:∀(n:Nat) (s:S),F (n+1) (l.length:Int) s=E s) (s:S):F FUEL (0:Int) s=foldG G E 0 l s:=
 loop_list F G E hl h1 h0 FUEL 0 s (Nat.zero_le _) (fuel_ok (by omega))
end Go.Eng
namespace Go.Eng
theorem loop_post {α S R:Type} {l:List α} (F:Nat→Int→S→Option R) (Inv:Nat→S→Prop) (P:Option R→Prop) (hl:l.length≤1099511627775)
 (h1:∀(n k:Nat) (x:α) (s:S),k<l.length→l[k]? =some x→Inv k s→(∀s',Inv (k+1) s'→P (F n ((k+1:Nat):Int) s'))→P (F (n+1) (k:Int) s))
 (h0:∀(n:Nat) (s:S),Inv l.length s→P (F (n+1) (l.length:Int) s)) (s:S) (hi:Inv 0 s):P (F FUEL (0:Int) s):=by
 have key:∀(n k:Nat) (s:S),Inv k s→k≤l.length→l.length - k<n→P (F n (k:Int) s):=by
  intro n;induction n with
  |zero=>intro k s _ _ h;omega
  |succ n ih=>
   intro k s hs hk hn;by_cases h:k<l.length
   ·exact h1 n k l[k] s h (by simp [h]) hs fun s' hs'=>ih (k+1) s' hs' (by omega) (by omega)
   ·have:k=l.length:=by omega
    subst this;exact h0 n s hs
 exact key FUEL 0 s hi (Nat.zero_le _) (fuel_ok (by omega))
end Go.Eng
namespace Go.Eng
theorem bc_t {α:Type} {b:Bool} {x y:Option α} (h:b=true):bcase b x y=x:=by subst h;rfl
theorem bc_f {α:Type} {b:Bool} {x y:Option α} (h:b=false):bcase b x y=y:=by subst h;rfl
theorem ble_f {a b:Nat} (h:b<a):Nat.ble a b=false:=by
 cases e:Nat.ble a b with
 |false=>rfl
 |true=>exact absurd (Nat.le_of_ble_eq_true e) (by omega)
end Go.Eng
set_option linter.unusedSimpArgs false
set_option linter.unusedVariables false
namespace Go.Eng
open Go
def badB (b:UInt8):Bool:=b==47||b==0
def mayN (s:Str):Bool:= !(s== [])&&(decide (s.length≤255)&&(!(s.any badB)&&(!(s==[46])&& !(s==[46,46]))))
theorem splitK_eq {R:Type} (k:Nat→Option R):∀(m i n:Nat),i≤n→n<i+m→splitK (n:Int) m i k=k n
 |0,i,n,h1,h2=>by omega
 |m+1,i,n,h1,h2=>by
  unfold splitK;by_cases h:n=i
  ·subst h;simp
  ·have e:((n:Int)==(i:Int))=false:=by rw[beq_eq_false_iff_ne];omega
   rw[e,bcase_false];exact splitK_eq k m (i+1) n (by omega) (by omega)
theorem u8_lt (b:UInt8):b.toNat<256:=b.toNat_lt
theorem beq_byte (b:UInt8) (n:Nat) (h:n<256):Nat.beq b.toNat n=(b==UInt8.ofNat n):=by
 rw[Bool.eq_iff_iff,beq_iff_eq];constructor
 ·intro e
  have e:=Nat.eq_of_beq_eq_true e;apply UInt8.toNat_inj.1;rw[UInt8.toNat_ofNat',e];omega
 ·intro e
  subst e;rw[UInt8.toNat_ofNat'];have:n%2^8=n:=Nat.mod_eq_of_lt h;rw[this];simp
theorem beq_byteI (b:UInt8) (n:Nat) (h:n<256):((b.toNat:Int)==(n:Int))=(b==UInt8.ofNat n):=by
 rw[←beq_byte b n h,Bool.eq_iff_iff];constructor
 ·intro e
  have e:=beq_iff_eq.1 e;have:b.toNat=n:=by omega
  rw[this];simp
 ·intro e
  have e:=Nat.eq_of_beq_eq_true e;rw[e];simp
theorem any_fold {α R:Type} (p:α→Bool) (kr:Nat→α→Option R) (k0:Option R) (r:Option R) (hr:∀k x,kr k x=r):∀(l:List α) (k:Nat) (s:Unit),foldG (fun k x s K=>if p x then kr k x else K s) (fun _=>k0) k l s=if l.any p then r else k0
 | [],_,_=>rfl
 |x::l,k,s=>by
  simp only[foldG,List.any_cons];by_cases h:p x=true
  ·simp [h,hr]
  ·simp [h,any_fold p kr k0 r hr l]
theorem CA_long {s:Str} (hl:s.length≤1099511627775):strings_ContainsAny_7_L12 s (fun z6=>some (decide (z6≥(0:Int)))) (some false) FUEL (0:Int)=some (s.any badB):=by
 refine(loop_all (l:=s) (fun n i (_:Unit)=>strings_ContainsAny_7_L12 s (fun z6=>some (decide (z6≥(0:Int)))) (some false) n i) (fun k x s K=>if badB x then some (decide ((k:Int)≥(0:Int))) else K s) (fun _=>some false) hl (fun n k x u hk hx=> ?_) (fun n u=> ?_) ()).trans ?_
 ·simp only[strings_ContainsAny_7_L12]
  rw[dec_lt hk,dec_nn,toNat_cast,hx,wrap_succ (by omega)];simp only[bcase_true,ocase_some',bcase_ite,if_true];rw[splitK_eq _ _ _ _ (Nat.zero_le _) (by have:=u8_lt x;omega),beq_byte x 0 (by omega),beq_byte x 47 (by omega)];unfold badB;rw[Bool.or_comm];rfl
 ·simp only[strings_ContainsAny_7_L12]
  rw[dec_ge (Nat.le_refl _)];rfl
 ·rw[any_fold badB _ _ (some true) (fun k x=>by simp)]
  cases s.any badB<;>rfl
theorem runeAt_spec {s:Str} {i:Nat} {x:UInt8} (h:s[i]? =some x):
 (x.toNat<128∧runeAt s i=(x.toNat,1))∨(128≤x.toNat∧128≤(runeAt s i).1∧1≤(runeAt s i).2∧∀j,j<(runeAt s i).2→∃b,s[i+j]? =some b∧128≤b.toNat):=by
 have hget:∀k b,s[i+k]? =some b→(ByteArray.get! ⟨s.toArray⟩ (i+k))=b:=by
  intro k b hb;have:(ByteArray.mk s.toArray).get! (i+k)=s.toArray[i+k]! :=rfl;rw[this];simp [hb]
 have hx0:(ByteArray.get! ⟨s.toArray⟩ (i+0))=x:=hget 0 x (by simpa using h);have hcont:∀k,((decide (i+k<(ByteArray.mk s.toArray).size)&&((ByteArray.get! ⟨s.toArray⟩ (i+k)).toNat/64==2))=true)→∃b,s[i+k]? =some b∧128≤b.toNat:=by
  intro k hk;simp only[Bool.and_eq_true,decide_eq_true_eq,beq_iff_eq] at hk;obtain⟨h1,h2⟩:=hk;have h1':i+k<s.length:=h1;refine⟨s[i+k],by simp [h1'], ?_⟩;rw[hget k s[i+k] (by simp [h1'])] at h2;omega
 unfold runeAt Utf8.decode;simp only[hx0];by_cases hb:x.toNat<128
 ·left;exact⟨hb,by rw[if_pos hb]⟩
 ·right
  refine⟨by omega, ?_⟩;rw[if_neg hb];have base:∃b,s[i+0]? =some b∧128≤b.toNat:=⟨x,by simpa using h,by omega⟩;have one:128≤((Utf8.runeError,1):Nat×Nat).1∧1≤((Utf8.runeError,1):Nat×Nat).2∧∀j,j<((Utf8.runeError,1):Nat×Nat).2→∃b,s[i+j]? =some b∧128≤b.toNat:=by
   refine⟨by decide,by decide,fun j hj=> ?_⟩;have:j=0:=by simp at hj;exact hj
   subst this;exact base
  split
  ·rename_i hc
   simp only[Bool.and_eq_true] at hc;have c1:=hcont 1 (by simpa using hc.2);split
   ·rename_i hv
    refine⟨by simpa using hv,by show 1≤2;omega,fun j hj=> ?_⟩;simp at hj;have:j=0∨j=1:=by omega
    rcases this with rfl|rfl
    ·exact base
    ·exact c1
   ·exact one
  ·split
   ·rename_i hc
    simp only[Bool.and_eq_true] at hc;have c1:=hcont 1 (by simpa using hc.1.2);have c2:=hcont 2 (by simpa using hc.2);split
    ·rename_i hv
     simp only[Bool.and_eq_true,decide_eq_true_eq] at hv;refine⟨by simp;omega,by show 1≤3;omega,fun j hj=> ?_⟩;simp at hj;have:j=0∨j=1∨j=2:=by omega
     rcases this with rfl|rfl|rfl
     ·exact base
     ·exact c1
     ·exact c2
    ·exact one
   ·split
    ·rename_i hc
     simp only[Bool.and_eq_true] at hc;have c1:=hcont 1 (by simpa using hc.1.1.2);have c2:=hcont 2 (by simpa using hc.1.2);have c3:=hcont 3 (by simpa using hc.2);split
     ·rename_i hv
      simp only[Bool.and_eq_true,decide_eq_true_eq] at hv;refine⟨by simp;omega,by show 1≤4;omega,fun j hj=> ?_⟩;simp at hj;have:j=0∨j=1∨j=2∨j=3:=by omega
      rcases this with rfl|rfl|rfl|rfl
      ·exact base
      ·exact c1
      ·exact c2
      ·exact c3
     ·exact one
    ·exact one
theorem drop_any_hi {s:Str}:∀(w i:Nat),(∀j,j<w→∃b,s[i+j]? =some b∧128≤b.toNat)→(s.drop i).any badB=(s.drop (i+w)).any badB
 |0,i,_=>rfl
 |w+1,i,h=>by
  obtain⟨b,hb,h128⟩:=h 0 (by omega);simp only[Nat.add_zero] at hb;have hi:=(List.getElem?_eq_some_iff.1 hb).1;obtain⟨x,hx,hd⟩:=at_step hi;rw[hb] at hx;cases hx;rw[hd,List.any_cons,drop_any_hi w (i+1) (fun j hj=>by
   obtain⟨b,h1,h2⟩:=h (j+1) (by omega);exact⟨b,by rw[←h1];congr 1;omega,h2⟩)]
  have hn:badB b=false:=by
   unfold badB;simp only[Bool.or_eq_false_iff,beq_eq_false_iff_ne];constructor<;>(intro e;subst e;revert h128;decide)
  rw[hn,Bool.false_or];congr 2;omega
theorem drop_len_hi {s:Str} {w i:Nat} (h1:1≤w) (h:∀j,j<w→∃b,s[i+j]? =some b∧128≤b.toNat):i+w≤s.length:=by
 obtain⟨b,hb,_⟩:=h (w - 1) (by omega);have:=(List.getElem?_eq_some_iff.1 hb).1;omega
theorem fuel3:∃m,FUEL=m+3:=⟨FUEL - 3,by have:=FUEL_ge;omega⟩
theorem enc_len {r:Nat} (h:128≤r):(2=(Utf8.encode (r:Int)).data.toList.length∧∃a b:UInt8,(Utf8.encode (r:Int)).data.toList=[a,b]∧128≤b.toNat)∨3≤(Utf8.encode (r:Int)).data.toList.length:=by
 unfold Utf8.encode;have hc:128≤(if Utf8.valid (r:Int) then (r:Int).toNat else Utf8.runeError):=by
  split
  ·simpa using h
  ·decide
 generalize (if Utf8.valid (r:Int) then (r:Int).toNat else Utf8.runeError)=c at hc;simp only;rw[if_neg (by omega)];split
 ·left
  refine⟨rfl,_,_,rfl, ?_⟩;rw[UInt8.toNat_ofNat'];omega
 ·right
  split
  ·exact Nat.le_refl 3
  ·show 3≤4;omega
theorem CA_L5 {R:Type} {e:Str} (kr:Int→Option R) (k1:Option R) (r:Option R) (h:(∃a b:UInt8,e=[a,b]∧128≤b.toNat)∨3≤e.length) (hs:e.length≤10) (h1:kr (-1)=r) (h2:k1=r):
 strings_ContainsAny_7_52_L5 e (IntKind.i64.wrap ((List.length e:Int) - (1:Int))) (IntKind.i64.wrap ((List.length e:Int) - (1:Int))) kr k1 FUEL=r:=by
 obtain⟨m,hm⟩:=fuel3;rw[hm];simp only[strings_ContainsAny_7_52_L5];rcases h with⟨a,b,rfl,hb⟩ |h
 ·have e1:IntKind.i64.wrap ((List.length [a,b]:Int) - (1:Int))=1:=by rfl
  rw[e1];have e2:((UInt8.toNat (0:UInt8):Int) !=(UInt8.toNat b:Int))=true:=by
   rw[bne_iff_ne];simp;omega
  have e3:Lib.indexByte ([] :Str) ((UInt8.toNat b:Int)).toNat.toUInt8= -1:=rfl;show bcase true (bcase true (ocase (some (0:UInt8)) fun c31=>bcase true (ocase (some b) fun c32=>_) none) none) k1=r;simp only[bcase_true,ocase_some',e2];exact h1
 ·rw[wrap_id (by omega) (by omega)]
  have:decide (((e.length:Int) - 1)<(2:Int))=false:=by simp;omega
  rw[this,bcase_false,h2]
theorem CA_L38 {R:Type} (kr:Int→Option R) (k9:Option R):strings_ContainsAny_7_52_L38 ([47,0]:Str) kr k9 FUEL 0=k9:=by
 obtain⟨m,hm⟩:=fuel3;rw[hm];rfl
theorem enc_le (r:Int):(Utf8.encode r).data.toList.length≤10:=by
 unfold Utf8.encode;simp only;generalize (if Utf8.valid r then r.toNat else Utf8.runeError)=c;split
 ·show 1≤10;omega
 ·split
  ·show 2≤10;omega
  ·split
   ·show 3≤10;omega
   ·show 4≤10;omega
theorem CA_short {s:Str} (hl:s.length≤1099511627775):∀(n i:Nat),i≤s.length→s.length - i<n→strings_ContainsAny_7_L18 s (fun z67=>some (decide (z67≥(0:Int)))) (some false) n i=some ((s.drop i).any badB):=by
 intro n;induction n with
 |zero=>intro i _ h;omega
 |succ n ih=>
  intro i hi hn;simp only[strings_ContainsAny_7_L18];by_cases hlt:i<s.length
  ·have e0:Nat.blt i s.length=true:=by simpa [Nat.blt_eq] using hlt
   rw[e0,bcase_true];obtain⟨x,hx,hd⟩:=at_step hlt;rcases runeAt_spec hx with⟨h1,h2⟩ |⟨h1,h2,h3,h4⟩
   ·rw[h2]
    simp only;have a1:decide ((0:Int)≤(x.toNat:Int))=true:=by simp
    have a2:decide ((x.toNat:Int)<(128:Int))=true:=by simp;omega
    rw[a1,a2,bcase_true,bcase_true];have a3:IntKind.u8.wrap (x.toNat:Int)=(x.toNat:Int):=by
     simp [IntKind.wrap,IntKind.bits,IntKind.signed];omega
    rw[a3];unfold stringslite_IndexByte;have a4:((x.toNat:Int).toNat.toUInt8)=x:=by
     apply UInt8.toNat_inj.1;simp
    rw[a4,ocase_some',hd,List.any_cons];by_cases hb:badB x=true
    ·rw[hb]
     have:Lib.indexByte ([47,0]:Str) x≥0:=by
      unfold badB at hb;simp at hb;rcases hb with rfl|rfl<;>decide
     rw[decide_eq_true this];simp
    ·have hb':badB x=false:=by simpa using hb
     rw[hb'];have:¬Lib.indexByte ([47,0]:Str) x≥0:=by
      unfold badB at hb';simp only[Bool.or_eq_false_iff,beq_eq_false_iff_ne] at hb';have e1:((47:UInt8)==x)=false:=by rw[beq_eq_false_iff_ne];exact fun e=>hb'.1 e.symm
      have e2:((0:UInt8)==x)=false:=by rw[beq_eq_false_iff_ne];exact fun e=>hb'.2 e.symm
      simp [Lib.indexByte,e1,e2]
     rw[decide_eq_false this,bcase_false,ih (i+1) (by omega) (by omega),Bool.false_or]
   ·have hw:=drop_len_hi h3 h4
    have hrec:=ih (i+(runeAt s i).2) hw (by omega);rw[←drop_any_hi _ _ h4] at hrec;generalize hr:strings_ContainsAny_7_L18 s (fun z67=>some (decide (z67≥(0:Int)))) (some false) n (i+(runeAt s i).2)=rc at hrec;subst hrec;have b1:decide ((0:Int)≤((runeAt s i).1:Int))=true:=by simp
    have b2:decide (((runeAt s i).1:Int)<(128:Int))=false:=by simp;omega
    have he:=enc_len h2;have he':(∃a b:UInt8,(Utf8.encode ((runeAt s i).1:Int)).data.toList=[a,b]∧128≤b.toNat)∨3≤(Utf8.encode ((runeAt s i).1:Int)).data.toList.length:=by
     rcases he with⟨_,h⟩ |h
     ·exact Or.inl h
     ·exact Or.inr h
    have h5:∀kr:Int→Option Bool,kr (-1)=some ((s.drop i).any badB)→strings_ContainsAny_7_52_L5 (Utf8.encode ((runeAt s i).1:Int)).data.toList (IntKind.i64.wrap ((List.length (Utf8.encode ((runeAt s i).1:Int)).data.toList:Int) - (1:Int))) (IntKind.i64.wrap ((List.length (Utf8.encode ((runeAt s i).1:Int)).data.toList:Int) - (1:Int))) kr (some ((s.drop i).any badB)) FUEL=some ((s.drop i).any badB):=
     fun kr hk=>CA_L5 _ _ _ he' (enc_le _) hk rfl
    rw[b1,b2,bcase_true,bcase_false];simp only[CA_L38];rw[h5 _ (by rfl)];simp only[bcase_ite,if_true]
    repeat' split
    all_goals rfl
  ·have e0:Nat.blt i s.length=false:=by
    cases h:Nat.blt i s.length with
    |false=>rfl
    |true=>exact absurd (Nat.le_of_ble_eq_true h) (by omega)
   rw[e0,bcase_false,List.drop_eq_nil_of_le (by omega)];rfl
theorem strings_ContainsAny_eq {s:Str} (hl:s.length≤1099511627775):strings_ContainsAny s=some (s.any badB):=by
 unfold strings_ContainsAny;rw[CA_long hl,CA_short hl FUEL 0 (Nat.zero_le _) (fuel_ok (by omega))];simp [bcase_ite]
theorem path_May_eq {s:Str} (hl:s.length≤1099511627775):path_May s=some (mayN s):=by
 unfold path_May mayN;rw[strings_ContainsAny_eq hl];have e:decide ((List.length s:Int)≤(255:Int))=decide (s.length≤255):=by
  rw[decide_eq_decide];omega
 rw[e];simp only[ocase_some',bcase_ite];cases (!(s==([] :Str)))<;>cases decide (s.length≤255)<;>cases (s.any badB)<;>cases (!(s==([46]:Str)))<;>simp
theorem ref03_May_eq {s:Str} (hl:s.length≤1099511627775):ref03_May s=some (mayN s):=by
 unfold ref03_May;refine(loop_all (l:=s) (fun n i (_:Unit)=>ref03_May_L2 s (some false) (bcase (decide ((List.length s:Int)≥(1:Int))) (bcase (decide ((List.length s:Int)≤(255:Int))) (bcase (!(s==([46]:Str))) (some (!(s==([46,46]:Str)))) (some false)) (some false)) (some false)) n i) (fun k x s K=>if badB x then some false else K s) (fun _=>(bcase (decide ((List.length s:Int)≥(1:Int))) (bcase (decide ((List.length s:Int)≤(255:Int))) (bcase (!(s==([46]:Str))) (some (!(s==([46,46]:Str)))) (some false)) (some false)) (some false))) hl (fun n k x u hk hx=> ?_) (fun n u=> ?_) ()).trans ?_
 ·simp only[ref03_May_L2]
  rw[dec_lt hk,dec_nn,toNat_cast,hx,wrap_succ (by omega)];simp only[bcase_true,ocase_some',bcase_ite,if_true];have e1:((UInt8.toNat x:Int)==(47:Int))=(x==47):=beq_byteI x 47 (by omega);have e2:((UInt8.toNat x:Int)==(0:Int))=(x==0):=beq_byteI x 0 (by omega);rw[e1,e2];unfold badB;cases (x==47)<;>simp
 ·simp only[ref03_May_L2]
  rw[dec_ge (Nat.le_refl _)];rfl
 ·rw[any_fold badB _ _ (some false) (fun k x=>rfl)]
  unfold mayN;have e:decide ((List.length s:Int)≤(255:Int))=decide (s.length≤255):=by
   rw[decide_eq_decide];omega
  have e':decide ((List.length s:Int)≥(1:Int))= !(s==([] :Str)):=by
   cases s with
   |nil=>rfl
   |cons a l=>
    have:(a::l==([] :Str))=false:=rfl;rw[this];simp;omega
  rw[e,e'];simp only[bcase_ite];cases (!(s==([] :Str)))<;>cases decide (s.length≤255)<;>cases (s.any badB)<;>cases (!(s==([46]:Str)))<;>simp
abbrev ltS (a b:Str):Bool:=Op.bytesLess a b
theorem ltS_irrefl:∀a:Str,ltS a a=false
 | [] =>rfl
 |a::l=>by
  have:=ltS_irrefl l;simp only[ltS] at this;simp [ltS,Op.bytesLess,this,UInt8.lt_irrefl]
theorem ltS_trans:∀{a b c:Str},ltS a b=true→ltS b c=true→ltS a c=true
 | [], [],_,h,_=>by simp [ltS,Op.bytesLess] at h
 | [],_::_, [],_,h=>by simp [ltS,Op.bytesLess] at h
 | [],_::_,_::_,_,_=>rfl
 |_::_, [],_,h,_=>by simp [ltS,Op.bytesLess] at h
 |_::_,_::_, [],_,h=>by simp [ltS,Op.bytesLess] at h
 |a::l,b::m,c::k,h1,h2=>by
  simp only[ltS,Op.bytesLess,Bool.or_eq_true,decide_eq_true_eq,Bool.and_eq_true,beq_iff_eq] at h1 h2⊢;rcases h1 with h1|⟨rfl,h1⟩
  ·rcases h2 with h2|⟨rfl,h2⟩
   ·exact Or.inl (UInt8.lt_trans h1 h2)
   ·exact Or.inl h1
  ·rcases h2 with h2|⟨rfl,h2⟩
   ·exact Or.inl h2
   ·exact Or.inr ⟨rfl,ltS_trans h1 h2⟩
theorem ltS_tri:∀a b:Str,ltS a b=true∨a=b∨ltS b a=true
 | [], [] =>Or.inr (Or.inl rfl)
 | [],_::_=>Or.inl rfl
 |_::_, [] =>Or.inr (Or.inr rfl)
 |a::l,b::m=>by
  simp only[ltS,Op.bytesLess,Bool.or_eq_true,decide_eq_true_eq,Bool.and_eq_true,beq_iff_eq,List.cons.injEq];rcases UInt8.lt_or_lt_of_ne (a:=a) (b:=b) |> fun h=>(Decidable.em (a=b)).elim (fun e=>Or.inr e) (fun e=>Or.inl (h e)) with h|rfl
  ·rcases h with h|h
   ·exact Or.inl (Or.inl h)
   ·exact Or.inr (Or.inr (Or.inl h))
  ·rcases ltS_tri l m with h|rfl|h
   ·exact Or.inl (Or.inr ⟨rfl,h⟩)
   ·exact Or.inr (Or.inl ⟨rfl,rfl⟩)
   ·exact Or.inr (Or.inr (Or.inr ⟨rfl,h⟩))
theorem ltS_asymm {a b:Str} (h:ltS a b=true):ltS b a=false:=by
 cases h':ltS b a
 ·rfl
 ·have:=ltS_trans h h';rw[ltS_irrefl] at this;cases this
theorem ltS_ne {a b:Str} (h:ltS a b=true):a≠b:=by intro e;subst e;rw[ltS_irrefl] at h;cases h
theorem compare_lt:∀a b:Str,decide (Lib.compareBytes a b<0)=ltS a b
 | [], [] =>rfl
 | [],_::_=>rfl
 |_::_, [] =>rfl
 |a::l,b::m=>by
  simp only[Lib.compareBytes,ltS,Op.bytesLess];by_cases h:a<b
  ·simp [h]
  ·by_cases h':b<a
   ·have hne:(a==b)=false:=by rw[beq_eq_false_iff_ne];intro e;subst e;exact UInt8.lt_irrefl _ h'
    simp [h,h',hne]
   ·have he:a=b:=UInt8.le_antisymm (UInt8.not_lt.1 h') (UInt8.not_lt.1 h)
    subst he;have:=compare_lt l m;simp only[if_neg h,decide_eq_false h,beq_self_eq_true,Bool.true_and,Bool.false_or];exact this
theorem compare_eq:∀a b:Str,(Lib.compareBytes a b==0)=(a==b)
 | [], [] =>rfl
 | [],_::_=>rfl
 |_::_, [] =>rfl
 |a::l,b::m=>by
  simp only[Lib.compareBytes];by_cases h:a<b
  ·have hne:(a==b)=false:=by rw[beq_eq_false_iff_ne];intro e;subst e;exact UInt8.lt_irrefl _ h
   rw[if_pos h];have:(a::l==b::m)=false:=by rw[beq_eq_false_iff_ne] at hne⊢;intro e;cases e;exact hne rfl
   rw[this];rfl
  ·rw[if_neg h]
   by_cases h':b<a
   ·have hne:(a==b)=false:=by rw[beq_eq_false_iff_ne];intro e;subst e;exact UInt8.lt_irrefl _ h'
    rw[if_pos h'];have:(a::l==b::m)=false:=by rw[beq_eq_false_iff_ne] at hne⊢;intro e;cases e;exact hne rfl
    rw[this];rfl
   ·rw[if_neg h']
    have he:a=b:=UInt8.le_antisymm (UInt8.not_lt.1 h') (UInt8.not_lt.1 h);subst he;rw[compare_eq l m,Bool.eq_iff_iff];simp
end Go.Eng
set_option linter.unusedSimpArgs false
set_option linter.unusedVariables false
namespace Go.Eng
open Go
structure LO {κ:Type} (lt:κ→κ→Bool):Prop where
 irrefl:∀a,lt a a=false
 trans:∀{a b c},lt a b=true→lt b c=true→lt a c=true
 tri:∀a b,lt a b=true∨a=b∨lt b a=true
def ltI (a b:Int):Bool:=decide (a<b)
theorem loI:LO ltI where
 irrefl a:=by simp [ltI]
 trans h1 h2:=by simp only[ltI,decide_eq_true_eq] at*;omega
 tri a b:=by simp only[ltI,decide_eq_true_eq];omega
section
set_option linter.unusedSectionVars false
variable {α κ:Type} [DecidableEq κ] {lt:κ→κ→Bool} {key:α→κ}
def SortK (lt:κ→κ→Bool) (key:α→κ) (l:List α):Prop:=l.Pairwise fun x y=>lt (key x) (key y)=true
def cntK (lt:κ→κ→Bool) (key:α→κ) (k:κ):List α→Nat
 | [] =>0
 |x::l=>if lt (key x) k then cntK lt key k l+1 else 0
def findK (key:α→κ) (k:κ) (l:List α):Option α:=l.find? fun x=>decide (key x=k)
def insK (lt:κ→κ→Bool) (key:α→κ) (x:α):List α→List α
 | [] =>[x]
 |y::l=>if lt (key x) (key y) then x::y::l else y::insK lt key x l
def dropK (key:α→κ) (k:κ) (l:List α):List α:=l.filter fun y=> !decide (key y=k)
def setK (lt:κ→κ→Bool) (key:α→κ) (x:α) (l:List α):List α:=insK lt key x (dropK key (key x) l)
theorem LO.asymm (O:LO lt) {a b:κ} (h:lt a b=true):lt b a=false:=by
 cases h':lt b a
 ·rfl
 ·have:=O.trans h h';rw[O.irrefl] at this;cases this
theorem LO.ne (O:LO lt) {a b:κ} (h:lt a b=true):a≠b:=by intro e;subst e;rw[O.irrefl] at h;cases h
theorem cntK_le {k:κ} (l:List α):cntK lt key k l≤l.length:=by
 induction l with
 |nil=>exact Nat.le_refl _
 |cons x l ih=>
  simp only[cntK];split<;>simp only[List.length_cons]<;>omega
theorem cntK_lt {k:κ}:∀{l:List α} {j:Nat} {x:α},j<cntK lt key k l→l[j]? =some x→lt (key x) k=true
 | [],j,x,h,_=>by simp [cntK] at h
 |y::l,j,x,h,hx=>by
  simp only[cntK] at h;split at h
  ·rename_i hy
   cases j with
   |zero=>simp at hx;subst hx;exact hy
   |succ j=>exact cntK_lt (l:=l) (j:=j) (by omega) (by simpa using hx)
  ·omega
theorem cntK_ge (O:LO lt) {k:κ}:∀{l:List α} {j:Nat} {x:α},SortK lt key l→cntK lt key k l≤j→l[j]? =some x→lt (key x) k=false
 | [],j,x,_,_,hx=>by simp at hx
 |y::l,j,x,hs,h,hx=>by
  simp only[cntK] at h;unfold SortK at hs;rw[List.pairwise_cons] at hs;split at h
  ·cases j with
   |zero=>omega
   |succ j=>exact cntK_ge O (l:=l) (j:=j) hs.2 (by omega) (by simpa using hx)
  ·rename_i hy
   cases j with
   |zero=>simp at hx;subst hx;simpa using hy
   |succ j=>
    have h2:x∈l:=List.mem_of_getElem? (by simpa using hx);cases h':lt (key x) k
    ·rfl
    ·have:=O.trans (hs.1 x h2) h'
     exact absurd this hy
theorem findK_lt (O:LO lt) {k:κ}:∀{l:List α},SortK lt key l→(∀x∈l,lt k (key x)=true)→findK key k l=none:=by
 intro l _ h;unfold findK;rw[List.find?_eq_none];intro x hx;have:=O.ne (h x hx);simp;exact fun e=>this e.symm
theorem findK_cnt (O:LO lt) {k:κ}:∀{l:List α},SortK lt key l→findK key k l=ocase l[cntK lt key k l]? fun x=>if key x=k then some x else none
 | [],_=>rfl
 |y::l,hs=>by
  unfold SortK at hs;rw[List.pairwise_cons] at hs;have ih:=findK_cnt O (k:=k) hs.2;simp only[cntK];by_cases hy:lt (key y) k=true
  ·rw[if_pos hy]
   simp only[List.getElem?_cons_succ];rw[←ih];unfold findK;rw[List.find?_cons];simp [O.ne hy]
  ·rw[if_neg hy]
   simp only[List.getElem?_cons_zero,ocase_some'];unfold findK;rw[List.find?_cons];by_cases he:key y=k
   ·simp [he]
   ·simp only[he,decide_false,if_false]
    have h1:lt k (key y)=true:=by
     rcases O.tri (key y) k with h|h|h
     ·exact absurd h hy
     ·exact absurd h he
     ·exact h
    exact findK_lt O hs.2 (fun x hx=>O.trans h1 (hs.1 x hx))
theorem dropK_none {k:κ} {l:List α} (h:findK key k l=none):dropK key k l=l:=by
 unfold findK at h;unfold dropK;rw[List.find?_eq_none] at h;rw[List.filter_eq_self];intro x hx;have:=h x hx;simpa using this
theorem dropK_lt (O:LO lt) {k:κ} {l:List α} (h:∀x∈l,lt k (key x)=true):dropK key k l=l:=by
 unfold dropK;rw[List.filter_eq_self];intro x hx;have:=O.ne (h x hx);simp;exact fun e=>this e.symm
theorem dropK_cnt (O:LO lt) {k:κ}:∀{l:List α} {x:α},SortK lt key l→l[cntK lt key k l]? =some x→key x=k→dropK key k l=l.take (cntK lt key k l)++l.drop (cntK lt key k l+1)
 | [],x,_,h,_=>by simp at h
 |y::l,x,hs,h,hk=>by
  unfold SortK at hs;rw[List.pairwise_cons] at hs;simp only[cntK] at h⊢;by_cases hy:lt (key y) k=true
  ·rw[if_pos hy] at h⊢
   have:=dropK_cnt O (k:=k) hs.2 (by simpa using h) hk;simp only[List.take_succ_cons,List.drop_succ_cons,List.cons_append];rw[←this];unfold dropK;rw[List.filter_cons];simp [O.ne hy]
  ·rw[if_neg hy] at h⊢
   simp at h;subst h;simp only[List.take_zero,List.nil_append,List.drop_succ_cons,List.drop_zero,Nat.zero_add];have:=dropK_lt O (key:=key) (l:=l) (k:=k) (fun z hz=>by rw[←hk];exact hs.1 z hz);rw[←this];unfold dropK;rw[List.filter_cons];simp [hk]
theorem insK_lt (O:LO lt) {x:α}:∀{l:List α},(∀y∈l,lt (key x) (key y)=true)→insK lt key x l=x::l
 | [],_=>rfl
 |y::l,h=>by simp only[insK];rw[if_pos (h y (by simp))]
theorem setK_new (O:LO lt) {x:α}:∀{l:List α},SortK lt key l→findK key (key x) l=none→setK lt key x l=l.take (cntK lt key (key x) l)++x::l.drop (cntK lt key (key x) l):=by
 intro l hs hf;unfold setK;rw[dropK_none hf];induction l with
 |nil=>rfl
 |cons y l ih=>
  unfold SortK at hs;rw[List.pairwise_cons] at hs;have hf':¬key y=key x∧findK key (key x) l=none:=by
   unfold findK at hf⊢;rw[List.find?_cons] at hf;split at hf
   ·cases hf
   ·rename_i h;exact⟨by simpa using h,hf⟩
  simp only[cntK,insK];by_cases hy:lt (key y) (key x)=true
  ·rw[if_pos hy,O.asymm hy]
   simp only[List.take_succ_cons,List.drop_succ_cons,List.cons_append,Bool.false_eq_true,if_false];rw[ih hs.2 hf'.2]
  ·rw[if_neg hy]
   have h1:lt (key x) (key y)=true:=by
    rcases O.tri (key y) (key x) with h|h|h
    ·exact absurd h hy
    ·exact absurd h hf'.1
    ·exact h
   rw[if_pos h1];rfl
theorem insK_skip (O:LO lt) {x:α}:∀{a b:List α},(∀y∈a,lt (key y) (key x)=true)→insK lt key x (a++b)=a++insK lt key x b
 | [],b,_=>rfl
 |y::a,b,h=>by
  simp only[List.cons_append,insK];rw[O.asymm (h y (by simp))];simp only[Bool.false_eq_true,if_false];rw[insK_skip O (fun z hz=>h z (by simp [hz]))]
theorem setK_old (O:LO lt) {x y:α} {l:List α} (hs:SortK lt key l) (h:l[cntK lt key (key x) l]? =some y) (hk:key y=key x):setK lt key x l=l.set (cntK lt key (key x) l) x:=by
 unfold setK;rw[dropK_cnt O hs h hk];have hc:=(List.getElem?_eq_some_iff.1 h).1;have h1:∀z∈l.take (cntK lt key (key x) l),lt (key z) (key x)=true:=by
  intro z hz;obtain⟨j,hj,e⟩:=List.getElem_of_mem hz;have hj':j<cntK lt key (key x) l:=by simp at hj;omega
  exact cntK_lt hj' (by rw[←e];simp)
 have h2:∀z∈l.drop (cntK lt key (key x) l+1),lt (key x) (key z)=true:=by
  intro z hz;unfold SortK at hs;rw[←List.take_append_drop (cntK lt key (key x) l) l,List.pairwise_append] at hs;have hd:=hs.2.1;rw[List.drop_eq_getElem_cons hc,List.pairwise_cons] at hd;have:=hd.1 z hz;rw[List.getElem?_eq_getElem hc] at h;cases h;rw[←hk];exact this
 rw[insK_skip O h1,insK_lt O h2,List.set_eq_take_append_cons_drop,if_pos hc]
theorem insK_mem {x y:α}:∀{l:List α},y∈insK lt key x l↔y=x∨y∈l
 | [] =>by simp [insK]
 |z::l=>by
  simp only[insK];split
  ·simp
  ·simp only[List.mem_cons,insK_mem (l:=l)]
   constructor
   ·rintro(h|h|h)
    ·exact Or.inr (Or.inl h)
    ·exact Or.inl h
    ·exact Or.inr (Or.inr h)
   ·rintro(h|h|h)
    ·exact Or.inr (Or.inl h)
    ·exact Or.inl h
    ·exact Or.inr (Or.inr h)
theorem dropK_mem {k:κ} {y:α} {l:List α}:y∈dropK key k l↔y∈l∧key y≠k:=by
 unfold dropK;rw[List.mem_filter];simp
theorem setK_mem {x y:α} {l:List α}:y∈setK lt key x l↔y=x∨(y∈l∧key y≠key x):=by
 unfold setK;rw[insK_mem,dropK_mem]
theorem dropK_sort {k:κ} {l:List α} (h:SortK lt key l):SortK lt key (dropK key k l):=List.Pairwise.filter _ h
theorem insK_sort (O:LO lt) {x:α}:∀{l:List α},SortK lt key l→(∀y∈l,key y≠key x)→SortK lt key (insK lt key x l)
 | [],_,_=>by unfold SortK insK;simp
 |y::l,hs,hn=>by
  unfold SortK at hs⊢;rw[List.pairwise_cons] at hs;simp only[insK];split
  ·rename_i h
   rw[List.pairwise_cons];refine⟨fun z hz=> ?_,List.pairwise_cons.2 hs⟩;simp only[List.mem_cons] at hz;rcases hz with rfl|hz
   ·exact h
   ·exact O.trans h (hs.1 z hz)
  ·rename_i h
   rw[List.pairwise_cons];refine⟨fun z hz=> ?_,insK_sort O hs.2 (fun z hz=>hn z (by simp [hz]))⟩;rw[insK_mem] at hz;rcases hz with rfl|hz
   ·rcases O.tri (key y) (key z) with h'|h'|h'
    ·exact h'
    ·exact absurd h' (hn y (by simp))
    ·exact absurd h' h
   ·exact hs.1 z hz
theorem setK_sort (O:LO lt) {x:α} {l:List α} (h:SortK lt key l):SortK lt key (setK lt key x l):=
 insK_sort O (dropK_sort h) (fun y hy=>(dropK_mem.1 hy).2)
theorem findK_ins {x:α} {k:κ} {l:List α} (hn:∀y∈l,key y≠key x):findK key k (insK lt key x l)=if key x=k then some x else findK key k l:=by
 induction l with
 |nil=>
  unfold findK insK;simp only[List.find?_cons,List.find?_nil];by_cases h:key x=k<;>simp [h]
 |cons y l ih=>
  simp only[insK];split
  ·unfold findK
   rw[List.find?_cons];by_cases h:key x=k<;>simp [h]
  ·have ih:=ih (fun z hz=>hn z (by simp [hz]))
   unfold findK at ih⊢;rw[List.find?_cons,List.find?_cons,ih];by_cases h:key y=k
   ·have:¬key x=k:=by intro e;exact hn y (by simp) (h.trans e.symm)
    simp [h,this]
   ·simp [h]
theorem findK_drop {k k':κ} {l:List α}:findK key k' (dropK key k l)=if k=k' then none else findK key k' l:=by
 unfold findK dropK;rw[List.find?_filter];by_cases h:k=k'
 ·subst h
  rw[if_pos rfl,List.find?_eq_none];intro x _;simp
 ·rw[if_neg h]
  congr 1;funext x;by_cases hx:key x=k'
  ·have:¬key x=k:=by intro e;exact h (e.symm.trans hx)
   simp [hx];intro e;exact h e.symm
  ·simp [hx]
theorem findK_set {x:α} {k:κ} {l:List α}:findK key k (setK lt key x l)=if key x=k then some x else findK key k l:=by
 unfold setK;rw[findK_ins (fun y hy=>(dropK_mem.1 hy).2),findK_drop];by_cases h:key x=k<;>simp [h]
theorem findK_some {k:κ} {l:List α} {x:α} (h:findK key k l=some x):x∈l∧key x=k:=by
 unfold findK at h;exact⟨List.mem_of_find?_eq_some h,by have:=List.find?_some h;simpa using this⟩
theorem findK_mem (O:LO lt) {l:List α} {x:α} (hs:SortK lt key l) (h:x∈l):findK key (key x) l=some x:=by
 induction l with
 |nil=>cases h
 |cons y l ih=>
  unfold SortK at hs;rw[List.pairwise_cons] at hs;unfold findK at ih⊢;rw[List.find?_cons];simp only[List.mem_cons] at h;rcases h with rfl|h
  ·simp
  ·have:=O.ne (hs.1 x h)
   simp [this];exact ih hs.2 h
theorem insK_length {x:α}:∀l:List α,(insK lt key x l).length=l.length+1
 | [] =>rfl
 |y::l=>by simp only[insK];split<;>simp [insK_length l]
theorem dropK_length_le {k:κ} {l:List α}:(dropK key k l).length≤l.length:=List.length_filter_le _ _
theorem setK_length_le {x:α} {l:List α}:(setK lt key x l).length≤l.length+1:=by
 unfold setK;rw[insK_length];have:=dropK_length_le (key:=key) (k:=key x) (l:=l);omega
theorem sort_ext (O:LO lt):∀{l m:List α},SortK lt key l→SortK lt key m→(∀x,x∈l↔x∈m)→l=m
 | [], [],_,_,_=>rfl
 | [],y::m,_,_,h=>by have:=(h y).2 (by simp);cases this
 |x::l, [],_,_,h=>by have:=(h x).1 (by simp);cases this
 |x::l,y::m,hl,hm,h=>by
  unfold SortK at hl hm;rw[List.pairwise_cons] at hl hm;have hxy:x=y:=by
   have h1:=(h x).1 (by simp);have h2:=(h y).2 (by simp);simp only[List.mem_cons] at h1 h2;rcases h1 with h1|h1
   ·exact h1
   ·rcases h2 with h2|h2
    ·exact h2.symm
    ·have a:=hm.1 x h1
     have b:=hl.1 y h2;rw[O.asymm a] at b;cases b
  subst hxy;congr 1;refine sort_ext O hl.2 hm.2 fun z=> ?_
  have hz:=h z;simp only[List.mem_cons] at hz;constructor
  ·intro hzl
   rcases hz.1 (Or.inr hzl) with rfl|h
   ·have:=hl.1 z hzl;rw[O.irrefl] at this;cases this
   ·exact h
  ·intro hzm
   rcases hz.2 (Or.inr hzm) with rfl|h
   ·have:=hm.1 z hzm;rw[O.irrefl] at this;cases this
   ·exact h
theorem sort_ext_find (O:LO lt) {l m:List α} (hl:SortK lt key l) (hm:SortK lt key m) (h:∀k,findK key k l=findK key k m):l=m:=by
 refine sort_ext O hl hm fun x=>⟨fun hx=> ?_,fun hx=> ?_⟩
 ·have:=findK_mem O hl hx
  rw[h] at this;exact(findK_some this).1
 ·have:=findK_mem O hm hx
  rw[←h] at this;exact(findK_some this).1
end
theorem halves {R:Type} (F:Nat→Int→Int→Option R) (p:Nat→Bool) (len c:Nat) (k0:Int→Option R) (hlen:len≤1099511627775)
 (h1:∀(n lo hi:Nat),lo<hi→hi≤len→F (n+1) (lo:Int) (hi:Int)=if p ((lo+hi)/2) then F n (((lo+hi)/2+1:Nat):Int) (hi:Int) else F n (lo:Int) (((lo+hi)/2:Nat):Int))
 (h0:∀(n lo:Nat),lo≤len→F (n+1) (lo:Int) (lo:Int)=k0 (lo:Int)) (hp:∀j,j<c→p j=true) (hn:∀j,c≤j→j<len→p j=false):
 ∀(n lo hi:Nat),hi - lo<n→lo≤c→c≤hi→hi≤len→F n (lo:Int) (hi:Int)=k0 (c:Int):=by
 intro n;induction n with
 |zero=>intro lo hi h;omega
 |succ n ih=>
  intro lo hi hd hlo hhi hle;by_cases h:lo<hi
  ·rw[h1 n lo hi h hle]
   by_cases hm:(lo+hi)/2<c
   ·rw[hp _ hm]
    exact ih _ _ (by omega) (by omega) hhi hle
   ·rw[hn _ (by omega) (by omega)]
    exact ih _ _ (by omega) hlo (by omega) (by omega)
  ·have e1:lo=c:=by omega
   have e2:hi=c:=by omega
   subst e1;subst e2;exact h0 n _ hle
theorem mid_eq {lo hi:Nat} (h1:lo≤1099511627775) (h2:hi≤1099511627775):(IntKind.i64.wrap (Int.fdiv (IntKind.u64.wrap (IntKind.i64.wrap ((lo:Int)+(hi:Int)))) (2^(min (Int.toNat (1:Int)) (IntKind.bits .u64)))))=(((lo+hi)/2:Nat):Int):=by
 rw[wrap_id (n:=(lo:Int)+hi) (by omega) (by omega)];have e1:IntKind.u64.wrap ((lo:Int)+(hi:Int))=(lo:Int)+hi:=by
  simp [IntKind.wrap,IntKind.bits,IntKind.signed];omega
 have e2:(2:Int)^(min (Int.toNat (1:Int)) (IntKind.bits .u64))=2:=by decide
 rw[e1,e2,Int.fdiv_eq_ediv_of_nonneg _ (by omega)];rw[wrap_id (by omega) (by omega)];omega
end Go.Eng
set_option linter.unusedSimpArgs false
set_option linter.unusedVariables false
namespace Go.Eng
open Go
instance entDec:DecidableEq Entry:=fun a b=>
 if h:a.name=b.name∧a.ino=b.ino then isTrue (by cases a;cases b;simp at h;simp [h.1,h.2]) else isFalse (by intro e;subst e;exact h ⟨rfl,rfl⟩)
theorem someB {b:Bool} {h:Decidable (b=true)}:(@ite _ (b=true) h (some true) (some false))=some b:=by
 split
 ·rename_i e;rw[e]
 ·rename_i e;have:b=false:=by simpa using e
  rw[this]
theorem loS:LO ltS:=⟨ltS_irrefl,fun h1 h2=>ltS_trans h1 h2,ltS_tri⟩
abbrev SortE (l:List Entry):Prop:=SortK ltS Entry.name l
abbrev findE (n:Str) (l:List Entry):Option Entry:=findK Entry.name n l
abbrev dropE (n:Str) (l:List Entry):List Entry:=dropK Entry.name n l
abbrev setE (x:Entry) (l:List Entry):List Entry:=setK ltS Entry.name x l
abbrev cntE (n:Str) (l:List Entry):Nat:=cntK ltS Entry.name n l
def Sm (l:List Entry):Prop:=l.length≤1073741824∧∀e∈l,e.name.length≤1099511627775
theorem beqS (a b:Str):(a==b)=decide (a=b):=by
 rw[Bool.eq_iff_iff,beq_iff_eq,decide_eq_true_eq]
theorem ref04_Find_eq {l:List Entry} {n:Str} (hl:l.length≤1073741824):ref04_Find l n=some (match findE n l with|some e=>(e.ino,true) |none=>(0,false)):=by
 unfold ref04_Find;refine(loop_all (l:=l) (fun m i (_:Unit)=>ref04_Find_L2 l n (fun z8=>some (z8,true)) (some ((0:Int),false)) m i) (fun k x s K=>if decide (x.name=n) then some (x.ino,true) else K s) (fun _=>some ((0:Int),false)) (by omega) (fun m k x u hk hx=> ?_) (fun m u=> ?_) ()).trans ?_
 ·simp only[ref04_Find_L2]
  rw[dec_lt hk,dec_nn,toNat_cast,hx,wrap_succ (by omega)];simp only[bcase_true,ocase_some',bcase_ite,if_true,beqS]
 ·simp only[ref04_Find_L2]
  rw[dec_ge (Nat.le_refl _)];rfl
 ·unfold findE findK
  generalize 0=q;clear hl;revert q;induction l with
  |nil=>intro q;rfl
  |cons y l ih=>
   intro q;simp only[foldG,List.find?_cons];by_cases h:y.name=n
   ·simp [h]
   ·simp [h];simpa using ih (q+1)
theorem filt_fold {α R:Type} (p:α→Bool) (kk:List α→Option R):∀(l:List α) (k:Nat) (s:List α),s.length+l.length≤LIM→
 foldG (fun _ x s K=>if p x then lcase (s.length+[x].length) (K (s++[x])) else K s) kk k l s=kk (s++l.filter p)
 | [],_,s,_=>by simp [foldG]
 |x::l,k,s,h=>by
  simp only[foldG,List.filter_cons];simp only[List.length_cons] at h;split
  ·rw[lcase_le (by simp;omega),filt_fold p kk l _ _ (by simp;omega)];simp
  ·rw[filt_fold p kk l _ _ (by omega)]
theorem ref04_Without_eq {l:List Entry} {n:Str} (hl:l.length≤1073741824):ref04_Without l n=some (dropE n l):=by
 unfold ref04_Without;refine(loop_all (l:=l) (fun m i s=>ref04_Without_L3 l n (fun z8=>some z8) m i s) (fun _ x s K=>if !decide (x.name=n) then lcase (s.length+[x].length) (K (s++[x])) else K s) (fun z=>some z) (by omega) (fun m k x s hk hx=> ?_) (fun m s=> ?_) []).trans ?_
 ·simp only[ref04_Without_L3]
  rw[dec_lt hk,dec_nn,toNat_cast,hx,wrap_succ (by omega)];simp only[bcase_true,ocase_some',bcase_ite,if_true,beqS]
 ·simp only[ref04_Without_L3]
  rw[dec_ge (Nat.le_refl _)];rfl
 ·rw[filt_fold _ _ _ _ _ (by unfold LIM;simp;omega)];rfl
theorem insK_fold {α κ R:Type} {lt:κ→κ→Bool} {key:α→κ} (x:α) (kk:List α→Option R):∀(l:List α) (k:Nat) (s:Bool×List α),s.2.length+l.length+(if s.1 then 0 else 1)≤LIM→
 foldG (fun _ y (s:Bool×List α) K=>if !s.1 then (if lt (key x) (key y) then lcase (s.2.length+[x].length) (lcase ((s.2++[x]).length+[y].length) (K (true,(s.2++[x])++[y]))) else lcase (s.2.length+[y].length) (K (s.1,s.2++[y]))) else lcase (s.2.length+[y].length) (K (s.1,s.2++[y])))
  (fun s=>if !s.1 then lcase (s.2.length+[x].length) (kk (s.2++[x])) else kk s.2) k l s=kk (s.2++if s.1 then l else insK lt key x l)
 | [],_,(b,s),h=>by
  simp only[foldG];cases b
  ·simp only[Bool.not_false,if_true]
   rw[lcase_le (by simp at h⊢;omega)];simp [insK]
  ·simp
 |y::l,k,(b,s),h=>by
  simp only[foldG];simp only[List.length_cons] at h;cases b
  ·simp only[Bool.not_false,if_true]
   simp at h;by_cases hy:lt (key x) (key y)=true
   ·rw[if_pos hy,lcase_le (by simp;omega),lcase_le (by simp;omega),insK_fold x kk l _ _ (by simp;omega)]
    simp [insK,hy]
   ·rw[if_neg hy,lcase_le (by simp;omega),insK_fold x kk l _ _ (by simp;omega)]
    simp [insK,hy]
  ·simp only[Bool.not_true]
   simp at h;rw[if_neg (by simp),lcase_le (by simp;omega),insK_fold x kk l _ _ (by simp;omega)];simp
theorem gt_lt (a b:Str):(!(Op.bytesLess a b||a==b))=ltS b a:=by
 rw[beqS];rcases ltS_tri a b with h|h|h
 ·have:=ltS_asymm h
  have h:Op.bytesLess a b=true:=h;rw[h,this];rfl
 ·subst h
  have:=ltS_irrefl a;rw[this];simp
 ·have h1:=ltS_asymm h
  have h2:=ltS_ne h;have h1:Op.bytesLess a b=false:=h1;rw[h,h1];simp;exact fun e=>h2 e.symm
theorem ref04_With_eq {l:List Entry} {n:Str} {i:Int} (hl:l.length≤1073741824):ref04_With l n i=some (setE ⟨n,i⟩ l):=by
 unfold ref04_With;rw[ref04_Without_eq hl];simp only[ocase_some'];have hfl:(dropE n l).length≤l.length:=dropK_length_le;unfold setE setK;show _=some (insK ltS Entry.name ⟨n,i⟩ (dropE n l));generalize dropE n l=rest at hfl⊢;refine(loop_all (l:=rest) (fun m i' s=>ref04_With_L5 n i rest (fun z16 z17=>bcase (!z16) (lcase (z17.length+[(⟨n,i⟩:Entry)].length) (some (z17++[(⟨n,i⟩:Entry)]))) (some z17)) m s.1 i' s.2)
  (fun _ y (s:Bool×List Entry) K=>if !s.1 then (if ltS n y.name then lcase (s.2.length+[(⟨n,i⟩:Entry)].length) (lcase ((s.2++[(⟨n,i⟩:Entry)]).length+[y].length) (K (true,(s.2++[(⟨n,i⟩:Entry)])++[y]))) else lcase (s.2.length+[y].length) (K (s.1,s.2++[y]))) else lcase (s.2.length+[y].length) (K (s.1,s.2++[y])))
  (fun s=>if !s.1 then lcase (s.2.length+[(⟨n,i⟩:Entry)].length) (some (s.2++[(⟨n,i⟩:Entry)])) else some s.2) (by omega) (fun m k y s hk hx=> ?_) (fun m s=> ?_) (false, [])).trans ?_
 ·simp only[ref04_With_L5]
  rw[dec_lt hk,dec_nn,toNat_cast,hx,wrap_succ (by omega)];simp only[bcase_true,ocase_some',bcase_ite,if_true,gt_lt]
 ·simp only[ref04_With_L5]
  rw[dec_ge (Nat.le_refl _),bcase_false];simp only[bcase_ite]
 ·rw[insK_fold (lt:=ltS) (key:=Entry.name) (⟨n,i⟩:Entry) (fun z=>some z) _ _ _ (by unfold LIM;simp;omega)]
  rfl
theorem eqE (a b:Entry):((a.name==b.name)&&(a.ino==b.ino))=decide (a=b):=by
 rw[Bool.eq_iff_iff];cases a;cases b;simp
theorem same_fold {α R:Type} [DecidableEq α] (kr k0:Option R):∀(l m:List α) (k:Nat) (m0:List α),l.length=m.length→m0.length=k→foldG (fun k x (_:Unit) K=>ocase (m0++m)[k]? fun y=>if decide (x=y) then K () else kr) (fun _=>k0) k l ()=if l=m then k0 else kr
 | [], [],_,_,_,_=>rfl
 | [],_::_,_,_,h,_=>by simp at h
 |_::_, [],_,_,h,_=>by simp at h
 |x::l,y::m,k,m0,h,hk=>by
  simp only[foldG];have e:(m0++y::m)[k]? =some y:=by subst hk;simp
  rw[e,ocase_some'];have ih:=same_fold kr k0 l m (k+1) (m0++[y]) (by simpa using h) (by simp [hk]);have e2:m0++[y]++m=m0++y::m:=by simp
  rw[e2] at ih;by_cases hxy:x=y
  ·subst hxy
   simp only[decide_true,if_true,List.cons.injEq,true_and];exact ih
  ·simp [hxy]
theorem ref04_Same_eq {a b:List Entry} (hl:a.length≤1073741824):ref04_Same a b=some (decide (a=b)):=by
 unfold ref04_Same;rw[bcase_ite];by_cases h:a.length=b.length
 ·have e:((List.length a:Int) !=(List.length b:Int))=false:=by rw[h];simp
  rw[e,if_neg (by simp)];refine(loop_all (l:=a) (fun m i (_:Unit)=>ref04_Same_L4 a b (some false) (some true) m i) (fun k x (_:Unit) K=>ocase ([] ++b)[k]? fun y=>if decide (x=y) then K () else some false) (fun _=>some true) (by omega) (fun m k x u hk hx=> ?_) (fun m u=> ?_) ()).trans ?_
  ·simp only[ref04_Same_L4]
   rw[dec_lt hk,dec_nn,toNat_cast,hx,wrap_succ (by omega)];simp only[bcase_true,ocase_some',bcase_ite,if_true,List.nil_append];have hk':k<b.length:=by omega
   rw[List.getElem?_eq_getElem hk'];simp only[ocase_some',eqE];by_cases hxy:x=b[k]<;>simp [hxy]
  ·simp only[ref04_Same_L4]
   rw[dec_ge (Nat.le_refl _)];rfl
  ·rw[same_fold _ _ a b 0 [] h rfl]
   by_cases hab:a=b<;>simp [hab]
 ·have e:((List.length a:Int) !=(List.length b:Int))=true:=by rw[bne_iff_ne];omega
  rw[e,if_pos rfl];have:¬a=b:=fun e=>h (by rw[e])
  simp [this]
def chainE:Option Str→List Entry→Bool
 |_, [] =>true
 |none,x::l=>chainE (some x.name) l
 |some n,x::l=>ltS n x.name&&chainE (some x.name) l
def rightE (l:List Entry):Bool:=l.all (fun e=>mayN e.name&&decide (1≤e.ino))&&chainE none l
theorem chainE_sort:∀(l:List Entry) (p:Option Str),chainE p l=true↔(SortE l∧∀n,p=some n→∀x∈l,ltS n x.name=true)
 | [],p=>by simp [chainE,SortE,SortK]
 |x::l,p=>by
  have ih:=chainE_sort l (some x.name);have key:(SortE l∧∀n,some x.name=some n→∀x∈l,ltS n x.name=true)↔SortE (x::l):=by
   unfold SortE SortK;rw[List.pairwise_cons];constructor
   ·rintro⟨h1,h2⟩;exact⟨h2 _ rfl,h1⟩
   ·rintro⟨h1,h2⟩;exact⟨h2,fun n e=>by cases e;exact h1⟩
  rw[key] at ih;cases p with
  |none=>simp only[chainE,ih];simp
  |some n=>
   simp only[chainE,Bool.and_eq_true,ih];constructor
   ·rintro⟨h1,h2⟩
    refine⟨h2,fun n' e=> ?_⟩;cases e;intro y hy;simp only[List.mem_cons] at hy;rcases hy with rfl|hy
    ·exact h1
    ·unfold SortE SortK at h2
     rw[List.pairwise_cons] at h2;exact ltS_trans h1 (h2.1 y hy)
   ·rintro⟨h1,h2⟩
    exact⟨h2 n rfl x (by simp),h1⟩
theorem rightE_iff (l:List Entry):rightE l=true↔(SortE l∧∀e∈l,mayN e.name=true∧1≤e.ino):=by
 unfold rightE;simp only[Bool.and_eq_true,List.all_eq_true,decide_eq_true_eq,chainE_sort];constructor
 ·rintro⟨h1,h2,_⟩;exact⟨h2,h1⟩
 ·rintro⟨h1,h2⟩;exact⟨h2,h1,fun n e=>by cases e⟩
def lastN (m:List Entry):Option Str:=m.getLast?.map Entry.name
theorem right_fold {R:Type} (kr k0:Option R) (hc:R→Prop):∀(l:List Entry) (k:Nat) (m:List Entry),m.length=k→
 foldG (fun k (x:Entry) (_:Unit) K=>if mayN x.name then (if decide (1≤x.ino) then (if 0<k then (ocase (m++l)[k - 1]? fun y=>if ltS y.name x.name then K () else kr) else K ()) else kr) else kr) (fun _=>k0) k l ()=if l.all (fun e=>mayN e.name&&decide (1≤e.ino))&&chainE (lastN m) l then k0 else kr
 | [],k,m,_=>by cases h:lastN m<;>simp [foldG,chainE]
 |x::l,k,m,hk=>by
  simp only[foldG];have ih:=right_fold kr k0 hc l (k+1) (m++[x]) (by simp [hk]);have e2:m++[x]++l=m++x::l:=by simp
  have e3:lastN (m++[x])=some x.name:=by simp [lastN]
  rw[e2,e3] at ih;rw[ih];simp only[List.all_cons];by_cases h1:mayN x.name=true
  case neg=>simp [h1]
  ·by_cases h2:decide (1≤x.ino)=true
   case neg=>simp [h1,h2]
   ·simp only[h1,h2,if_true,Bool.true_and]
    rcases List.eq_nil_or_concat m with rfl|⟨m',y,rfl⟩
    ·simp at hk;subst hk
     simp [lastN,chainE]
    ·have hk':0<k:=by simp at hk;omega
     rw[if_pos hk'];have e:(m'++[y]++x::l)[k - 1]? =some y:=by
      have:k - 1=m'.length:=by simp at hk;omega
      rw[this];simp
     have e4:lastN (m'.concat y)=some y.name:=by simp [lastN]
     simp only[List.concat_eq_append] at e4⊢;rw[e,e4,ocase_some'];simp only[chainE];by_cases h3:Op.bytesLess y.name x.name=true<;>simp [ltS,h3]
theorem pred_wrap {k:Nat} (h:0<k) (h2:k≤1099511627775):IntKind.i64.wrap ((k:Int) - 1)=((k - 1:Nat):Int):=by
 rw[wrap_id (by omega) (by omega)];omega
theorem ref04_Right_eq {l:List Entry} (hs:Sm l):ref04_Right l=some (rightE l):=by
 have hl:=hs.1;unfold ref04_Right;refine(loop_all (l:=l) (fun m i (_:Unit)=>ref04_Right_L2 l (some false) (some true) m i) (fun k (x:Entry) (_:Unit) K=>if mayN x.name then (if decide (1≤x.ino) then (if 0<k then (ocase ([] ++l)[k - 1]? fun y=>if ltS y.name x.name then K () else some false) else K ()) else some false) else some false) (fun _=>some true) (by omega) (fun m k x u hk hx=> ?_) (fun m u=> ?_) ()).trans ?_
 ·simp only[ref04_Right_L2]
  have hn:=hs.2 x (List.mem_of_getElem? hx);rw[dec_lt hk,dec_nn,toNat_cast,hx,wrap_succ (by omega)];simp only[bcase_true,ocase_some',bcase_ite,if_true,List.nil_append,ref03_May_eq hn];cases h1:mayN x.name
  ·simp
  ·have e1:decide (x.ino<(1:Int))= !decide (1≤x.ino):=by
    by_cases h:1≤x.ino
    ·have:¬x.ino<1:=by omega
     simp [h,this]
    ·have:x.ino<1:=by omega
     simp [h,this]
   rw[e1];cases h2:decide (1≤x.ino)
   ·simp
   ·simp only[Bool.not_true,Bool.false_eq_true,if_false,if_true]
    by_cases hk0:0<k
    ·have e2:decide ((k:Int)>(0:Int))=true:=by simp;omega
     rw[e2,if_pos rfl,if_pos hk0,pred_wrap hk0 (by omega),dec_nn,toNat_cast,if_pos rfl];have hk1:k - 1<l.length:=by omega
     rw[List.getElem?_eq_getElem hk1];simp only[ocase_some'];by_cases h3:Op.bytesLess l[k - 1].name x.name=true<;>simp [ltS,h3]
    ·have e2:decide ((k:Int)>(0:Int))=false:=by simp;omega
     rw[e2,if_neg (by simp),if_neg hk0]
 ·simp only[ref04_Right_L2]
  rw[dec_ge (Nat.le_refl _)];rfl
 ·rw[right_fold (some false) (some true) (fun _=>True) l 0 [] rfl]
  unfold rightE;simp only[lastN,List.getLast?_nil,Option.map_none];exact someB
def hasE (n:Str) (l:List Entry):Bool:=match l[cntE n l]? with|some x=>decide (x.name=n) |none=>false
theorem entry_at_eq {l:List Entry} {n:Str} (hs:SortE l) (hl:l.length≤1073741824):entry_at l n=some ((cntE n l:Int),hasE n l):=by
 unfold entry_at;have hc:cntE n l≤l.length:=cntK_le l;have e0:∀(k0:Int→Option (Int×Bool)),entry_at_8_L3 l n k0 FUEL (0:Int) (List.length l:Int)=k0 (cntE n l:Int):=by
  intro k0;refine halves (fun m a b=>entry_at_8_L3 l n k0 m a b) (fun j=>match l[j]? with|some x=>ltS x.name n|none=>false) l.length (cntE n l) k0 (by omega) (fun m lo hi h1 h2=> ?_) (fun m lo h1=> ?_) (fun j hj=> ?_) (fun j hj hj2=> ?_) FUEL 0 l.length (fuel_ok (by omega)) (Nat.zero_le _) hc (Nat.le_refl _)
  ·simp only[entry_at_8_L3]
   have hm:(lo+hi)/2<l.length:=by omega
   rw[dec_lt h1,mid_eq (by omega) (by omega),dec_nn,toNat_cast,List.getElem?_eq_getElem hm,wrap_succ (by omega)];have e1:decide ((1:Int)<0)=false:=rfl;simp only[e1,bcase_true,bcase_false,ocase_some',strings_Compare,compare_lt,bcase_ite,if_true,Bool.false_eq_true,if_false]
  ·simp only[entry_at_8_L3]
   rw[dec_ge (Nat.le_refl _),bcase_false]
  ·have hj':j<l.length:=by omega
   have:=cntK_lt (lt:=ltS) (key:=Entry.name) hj (List.getElem?_eq_getElem hj');simp only[List.getElem?_eq_getElem hj'];exact this
  ·have:=cntK_ge loS (k:=n) hs hj (List.getElem?_eq_getElem hj2)
   simp only[List.getElem?_eq_getElem hj2];exact this
 rw[e0];unfold hasE;by_cases h:cntE n l<l.length
 ·rw[dec_lt h,dec_nn,toNat_cast,List.getElem?_eq_getElem h]
  simp only[bcase_true,ocase_some',strings_Compare,compare_eq,beqS]
 ·rw[dec_ge (by omega),bcase_false,List.getElem?_eq_none (by omega)]
theorem findE_has {l:List Entry} {n:Str} (hs:SortE l):findE n l=ocase l[cntE n l]? fun x=>if x.name=n then some x else none:=findK_cnt loS hs
theorem entry_Find_eq {l:List Entry} {n:Str} (hs:SortE l) (hl:l.length≤1073741824):entry_Find l n=some (match findE n l with|some e=>(e.ino,true) |none=>(0,false)):=by
 unfold entry_Find;rw[entry_at_eq hs hl,findE_has hs];simp only[ocase_some'];unfold hasE;rw[dec_nn,toNat_cast];cases h:l[cntE n l]? with
 |none=>rfl
 |some x=>
  simp only[ocase_some'];by_cases he:x.name=n
  ·simp [he]
  ·simp [he]
theorem both_same {R:Type} (x:Option R):both x x=x:=by unfold both;rw[if_pos rfl]
theorem nilK_eq {α R:Type} {l:List α} {x y r:Option R} (h1:l= [] →x=r) (h2:y=r):nilK l x y=r:=by
 unfold nilK;cases l with
 |nil=>rw[h1 rfl,h2];exact both_same r
 |cons a l=>exact h2
end Go.Eng
set_option linter.unusedSimpArgs false
set_option linter.unusedVariables false
namespace Go.Eng
open Go
theorem hasE_some {l:List Entry} {n:Str} (h:hasE n l=true):∃x,l[cntE n l]? =some x∧x.name=n:=by
 unfold hasE at h;split at h
 ·rename_i x hx;exact⟨x,hx,by simpa using h⟩
 ·cases h
theorem hasE_none {l:List Entry} {n:Str} (hs:SortE l) (h:hasE n l=false):findE n l=none:=by
 rw[findE_has hs];unfold hasE at h;cases hx:l[cntE n l]? with
 |none=>rfl
 |some x=>
  rw[hx] at h;have h:¬x.name=n:=by simpa using h
  simp [h]
theorem take_set {α:Type} {a b:List α} {c:Nat} (h:a.length=c):(a++b).take c=a:=by subst h;simp
theorem drop_set {α:Type} {a b:List α} {c:Nat} (h:a.length=c):(a++b).drop c=b:=by subst h;simp
theorem entry_Without_eq {l:List Entry} {n:Str} (hs:SortE l) (hl:l.length≤1073741824):entry_Without l n=some (dropE n l):=by
 unfold entry_Without;rw[entry_at_eq hs hl];simp only[ocase_some'];cases h:hasE n l
 ·rw[Bool.not_false,bcase_true]
  have e9:dropE n l=l:=dropK_none (hasE_none hs h);rw[e9];refine nilK_eq (fun e=>by subst e;rfl) ?_;rw[lcase_le (by unfold LIM;simp;omega)];rfl
 ·obtain⟨x,hx,hn⟩:=hasE_some h
  have e9:dropE n l=l.take (cntE n l)++l.drop (cntE n l+1):=dropK_cnt loS hs hx hn;rw[Bool.not_true,bcase_false,e9];have hc:=(List.getElem?_eq_some_iff.1 hx).1;generalize cntE n l=c at hx hc;have e1:IntKind.i64.wrap ((List.length l:Int) - 1)=((l.length - 1:Nat):Int):=by rw[wrap_id (by omega) (by omega)];omega
  rw[e1,wrap_succ (by omega)];simp only[toNat_cast];have hA:(l.take c).length=c:=by simp;omega
  have hmin:min (l.take c).length (List.replicate (l.length - 1) (⟨[],0⟩:Entry)).length=c:=by simp;omega
  simp only[hmin,toNat_cast];have hAB:(l.take c).take (List.replicate (l.length - 1) (⟨[],0⟩:Entry)).length=l.take c:=by rw[List.take_take];congr 1;simp;omega
  simp only[hAB];have hB:(List.replicate (l.length - 1) (⟨[],0⟩:Entry)).drop (l.take c).length=List.replicate (l.length - 1 - c) (⟨[],0⟩:Entry):=by rw[hA,List.drop_replicate]
  simp only[hB];have hlen:(l.take c++List.replicate (l.length - 1 - c) (⟨[],0⟩:Entry)).length=l.length - 1:=by simp;omega
  simp only[hlen];rw[bc_t (by simp),lcase_le (by unfold LIM;omega),bc_t (by simp;omega),bc_t (by simp;omega),bc_t (by simp;omega),bc_t (by simp;omega),take_set hA,drop_set hA];have hD:(l.drop (c+1)).take (l.length - 1 - c)=l.drop (c+1):=by rw[List.take_of_length_le];simp;omega
  have hE:(List.replicate (l.length - 1 - c) (⟨[],0⟩:Entry)).drop (min (l.drop (c+1)).length (l.length - 1 - c))= [] :=by rw[List.drop_eq_nil_of_le];simp;omega
  rw[hD,hE,List.append_nil]
theorem entry_With_eq {l:List Entry} {n:Str} {i:Int} (hs:SortE l) (hl:l.length≤1073741824):entry_With l n i=some (setE ⟨n,i⟩ l):=by
 unfold entry_With;rw[entry_at_eq hs hl];simp only[ocase_some'];have hc:cntE n l≤l.length:=cntK_le l;cases h:hasE n l
 ·have hf:=hasE_none hs h
  have e9:setE (⟨n,i⟩:Entry) l=l.take (cntE n l)++⟨n,i⟩::l.drop (cntE n l):=setK_new loS hs hf;rw[e9];generalize cntE n l=c at hc;refine nilK_eq (fun e=> ?_) ?_
  ·subst e
   have:c=0:=by simpa using hc
   subst this;rfl
  ·rw[lcase_le (by unfold LIM;simp;omega)]
   simp only[bcase_false,List.nil_append,List.length_singleton];have e1:IntKind.i64.wrap ((List.length l:Int)+((1:Nat):Int))=((l.length+1:Nat):Int):=by rw[wrap_id (by omega) (by omega)];omega
   have e2:IntKind.i64.wrap ((c:Int)+((1:Nat):Int))=((c+1:Nat):Int):=by rw[wrap_id (by omega) (by omega)];omega
   simp only[e1,e2,toNat_cast];rw[bc_t (by simp;omega),bc_f (by simp)];by_cases hlen:c=l.length
   ·subst hlen
    rw[bc_t (by simp),lcase_le (by unfold LIM;omega)];simp
   ·rw[bc_f (by simp;omega)]
    refine capQ_eq fun cp hcp=> ?_
    by_cases hcap:cp<l.length+1
    ·rw[bc_t (by simp;omega),bc_t (by simp;omega)]
     have e3:IntKind.i64.wrap (((l.length+1:Nat):Int) - (c:Int))=((l.length+1 - c:Nat):Int):=by rw[wrap_id (by omega) (by omega)];omega
     simp only[e3,toNat_cast,List.drop_zero];have hA:(l.take c).length=c:=by simp;omega
     have hT:(l.take c++List.replicate (l.length+1 - c) (⟨[],0⟩:Entry)).take c=l.take c:=take_set hA;have hD:(l.take c++List.replicate (l.length+1 - c) (⟨[],0⟩:Entry)).drop c=List.replicate (l.length+1 - c) (⟨[],0⟩:Entry):=drop_set hA;have hL:(l.take c++List.replicate (l.length+1 - c) (⟨[],0⟩:Entry)).length=l.length+1:=by simp;omega
     simp only[hT,hD,hL];have hX:[(⟨n,i⟩:Entry)].take (l.length+1 - c)=[⟨n,i⟩]:=by rw[List.take_of_length_le];simp;omega
     have hM:min 1 (l.length+1 - c)=1:=by omega
     have hR:(List.replicate (l.length+1 - c) (⟨[],0⟩:Entry)).drop 1=List.replicate (l.length - c) (⟨[],0⟩:Entry):=by rw[List.drop_replicate];congr 1;omega
     simp only[hX,hM,hR];have hL2:(l.take c++([(⟨n,i⟩:Entry)]++List.replicate (l.length - c) (⟨[],0⟩:Entry))).length=l.length+1:=by simp;omega
     simp only[hL2];have hM2:min (l.length - c) (l.length+1 - (c+1))=l.length - c:=by omega
     simp only[hM2];rw[bc_t (by simp),lcase_le (by unfold LIM;omega),bc_t (by simp;omega),bc_t (by simp;omega),bc_t (by simp;omega),bc_t (by simp;omega),bc_t (by simp;omega),bc_t (by simp;omega),bc_t (by simp;omega),bc_t (by simp;omega),bc_t (by simp;omega)];have e4:l.take c++([(⟨n,i⟩:Entry)]++List.replicate (l.length - c) (⟨[],0⟩:Entry))=(l.take c++[(⟨n,i⟩:Entry)])++List.replicate (l.length - c) (⟨[],0⟩:Entry):=by simp
     have hA1:(l.take c++[(⟨n,i⟩:Entry)]).length=c+1:=by simp;omega
     have hT4:(l.take c++([(⟨n,i⟩:Entry)]++List.replicate (l.length - c) (⟨[],0⟩:Entry))).take (c+1)=l.take c++[(⟨n,i⟩:Entry)]:=by rw[e4];exact take_set hA1
     have hD4:(l.take c++([(⟨n,i⟩:Entry)]++List.replicate (l.length - c) (⟨[],0⟩:Entry))).drop (c+1+(l.length - c))= [] :=by rw[List.drop_eq_nil_of_le];rw[hL2];omega
     have hQ:(l.drop c).take (l.length - c)=l.drop c:=by rw[List.take_of_length_le];simp
     rw[hT4,hD4,hQ];simp
    ·rw[bc_f (by simp;omega)]
     have hM:min (l.length+1 - c) (l.length+1 - (c+1))=l.length - c:=by omega
     simp only[hM,Nat.zero_add];have hQ:(l.drop c).take (l.length - c)=l.drop c:=by rw[List.take_of_length_le];simp
     have hX:[(⟨n,i⟩:Entry)].take (l.length+1 - c)=[⟨n,i⟩]:=by rw[List.take_of_length_le];simp;omega
     have hM2:min 1 (l.length+1 - c)=1:=by omega
     simp only[hQ,hX,hM2,List.drop_zero];rw[bc_t (by simp;omega),bc_t (by simp;omega),bc_t (by simp),bc_t (by simp;omega),bc_t (by simp;omega),bc_t (by simp;omega),bc_t (by simp;omega)];by_cases hc1:c+1≤l.length
     ·rw[bc_t (by simp;omega),bc_f (ble_f (by omega)),bc_t (by simp;omega),bc_t (by simp;omega),bc_t (by simp;omega)]
      have hT1:(l.take (c+1)++l.drop c).take c=l.take c:=by rw[List.take_append_of_le_length (by simp;omega),List.take_take];congr 1;omega
      have hD1:((l.take (c+1)++l.drop c).drop c).drop 1=l.drop c:=by rw[List.drop_drop];exact drop_set (by simp;omega)
      rw[hT1,hD1];rw[List.take_of_length_le (by simp;omega)];simp
     ·omega
 ·obtain⟨x,hx,hn⟩:=hasE_some h
  have e9:setE (⟨n,i⟩:Entry) l=l.set (cntE n l) ⟨n,i⟩:=setK_old loS hs hx hn;rw[e9];have hc':=(List.getElem?_eq_some_iff.1 hx).1;generalize cntE n l=c at hx hc hc';refine nilK_eq (fun e=>by subst e;simp at hx) ?_;rw[lcase_le (by unfold LIM;simp;omega)];simp only[bcase_true,List.nil_append,toNat_cast,hx,ocase_some'];rw[bc_t (by simp;omega)];subst hn;rfl
end Go.Eng
set_option linter.unusedSimpArgs false
set_option linter.unusedVariables false
namespace Go.Eng
open Go
instance inoDec:DecidableEq Inode:=fun a b=>
 if h:a.ino=b.ino∧a.kind=b.kind∧a.links=b.links∧a.data=b.data∧a.parent=b.parent∧a.entries=b.entries then isTrue (by cases a;cases b;simp at h;simp [h]) else isFalse (by intro e;subst e;exact h ⟨rfl,rfl,rfl,rfl,rfl,rfl⟩)
instance fsDec:DecidableEq Fs:=fun a b=>
 if h:a.maxInodes=b.maxInodes∧a.maxBytes=b.maxBytes∧a.next=b.next∧a.inodes=b.inodes then isTrue (by cases a;cases b;simp at h;simp [h]) else isFalse (by intro e;subst e;exact h ⟨rfl,rfl,rfl,rfl⟩)
abbrev SortI (l:List Inode):Prop:=SortK ltI Inode.ino l
abbrev findI (n:Int) (l:List Inode):Option Inode:=findK Inode.ino n l
abbrev dropI (n:Int) (l:List Inode):List Inode:=dropK Inode.ino n l
abbrev setI (x:Inode) (l:List Inode):List Inode:=setK ltI Inode.ino x l
abbrev cntI (n:Int) (l:List Inode):Nat:=cntK ltI Inode.ino n l
def zeroI:Inode:=⟨0,0,0, [],0, []⟩
def getI (n:Int) (l:List Inode):Inode:=(findI n l).getD zeroI
def Fs.set (f:Fs) (x:Inode):Fs:=⟨f.maxInodes,f.maxBytes,f.next,setI x f.inodes⟩
def Fs.drop (f:Fs) (n:Int):Fs:=⟨f.maxInodes,f.maxBytes,f.next,dropI n f.inodes⟩
def hasI (n:Int) (l:List Inode):Bool:=match l[cntI n l]? with|some x=>decide (x.ino=n) |none=>false
theorem findI_has {l:List Inode} {n:Int} (hs:SortI l):findI n l=ocase l[cntI n l]? fun x=>if x.ino=n then some x else none:=findK_cnt loI hs
theorem hasI_some {l:List Inode} {n:Int} (h:hasI n l=true):∃x,l[cntI n l]? =some x∧x.ino=n:=by
 unfold hasI at h;split at h
 ·rename_i x hx;exact⟨x,hx,by simpa using h⟩
 ·cases h
theorem hasI_none {l:List Inode} {n:Int} (hs:SortI l) (h:hasI n l=false):findI n l=none:=by
 rw[findI_has hs];unfold hasI at h;cases hx:l[cntI n l]? with
 |none=>rfl
 |some x=>
  rw[hx] at h;have h:¬x.ino=n:=by simpa using h
  simp [h]
theorem table_at_eq {f:Fs} {n:Int} (hs:SortI f.inodes) (hl:f.inodes.length≤1073741824):table_at f n=some ((cntI n f.inodes:Int),hasI n f.inodes):=by
 unfold table_at;generalize f.inodes=l at hs hl;have hc:cntI n l≤l.length:=cntK_le l;have e0:∀(k0:Int→Option (Int×Bool)),table_at_9_L3 l n k0 FUEL (0:Int) (List.length l:Int)=k0 (cntI n l:Int):=by
  intro k0;refine halves (fun m a b=>table_at_9_L3 l n k0 m a b) (fun j=>match l[j]? with|some x=>decide (x.ino<n) |none=>false) l.length (cntI n l) k0 (by omega) (fun m lo hi h1 h2=> ?_) (fun m lo h1=> ?_) (fun j hj=> ?_) (fun j hj hj2=> ?_) FUEL 0 l.length (fuel_ok (by omega)) (Nat.zero_le _) hc (Nat.le_refl _)
  ·simp only[table_at_9_L3]
   have hm:(lo+hi)/2<l.length:=by omega
   rw[dec_lt h1,mid_eq (by omega) (by omega),dec_nn,toNat_cast,List.getElem?_eq_getElem hm,wrap_succ (by omega)];have e1:decide ((1:Int)<0)=false:=rfl;simp only[e1,bcase_true,bcase_false,ocase_some',bcase_ite,if_true,Bool.false_eq_true,if_false,bne_self_eq_false];by_cases h9:l[(lo+hi)/2].ino<n
   ·simp [h9]
   ·simp [h9]
  ·simp only[table_at_9_L3]
   rw[dec_ge (Nat.le_refl _),bcase_false]
  ·have hj':j<l.length:=by omega
   have:=cntK_lt (lt:=ltI) (key:=Inode.ino) hj (List.getElem?_eq_getElem hj');simp only[List.getElem?_eq_getElem hj'];exact this
  ·have:=cntK_ge loI (k:=n) hs hj (List.getElem?_eq_getElem hj2)
   simp only[List.getElem?_eq_getElem hj2];exact this
 rw[e0];unfold hasI;by_cases h:cntI n l<l.length
 ·rw[dec_lt h,dec_nn,toNat_cast,List.getElem?_eq_getElem h]
  simp only[bcase_true,ocase_some',bne_self_eq_false,bcase_false,bcase_ite];by_cases h1:l[cntI n l].ino<n
  ·have:¬l[cntI n l].ino=n:=by omega
   simp [h1,this]
  ·by_cases h2:l[cntI n l].ino>n
   ·have:¬l[cntI n l].ino=n:=by omega
    simp [h1,h2,this]
   ·have:l[cntI n l].ino=n:=by omega
    simp [h1,h2,this]
 ·rw[dec_ge (by omega),bcase_false,List.getElem?_eq_none (by omega)]
theorem table_Get_eq {f:Fs} {n:Int} (hs:SortI f.inodes) (hl:f.inodes.length≤1073741824):table_Get f n=some (getI n f.inodes,(findI n f.inodes).isSome):=by
 unfold table_Get getI;rw[table_at_eq hs hl,findI_has hs];simp only[ocase_some'];unfold hasI;rw[dec_nn,toNat_cast];cases h:f.inodes[cntI n f.inodes]? with
 |none=>rfl
 |some x=>
  simp only[ocase_some'];by_cases he:x.ino=n
  ·simp [he]
  ·simp [he];rfl
theorem table_Set_eq {f:Fs} {x:Inode} (hs:SortI f.inodes) (hl:f.inodes.length≤1073741824):table_Set f x=some (f.set x):=by
 unfold table_Set Fs.set;rw[table_at_eq hs hl];simp only[ocase_some'];have hc:cntI x.ino f.inodes≤f.inodes.length:=cntK_le f.inodes;generalize f.inodes=l at hs hl hc;cases h:hasI x.ino l
 ·have hf:=hasI_none hs h
  have e9:setI x l=l.take (cntI x.ino l)++x::l.drop (cntI x.ino l):=setK_new loI hs hf;rw[e9];generalize cntI x.ino l=c at hc;refine nilK_eq (fun e=> ?_) ?_
  ·subst e
   have:c=0:=by simpa using hc
   subst this;rfl
  ·rw[lcase_le (by unfold LIM;simp;omega)]
   simp only[bcase_false,List.nil_append,List.length_singleton];have e1:IntKind.i64.wrap ((List.length l:Int)+((1:Nat):Int))=((l.length+1:Nat):Int):=by rw[wrap_id (by omega) (by omega)];omega
   have e2:IntKind.i64.wrap ((c:Int)+((1:Nat):Int))=((c+1:Nat):Int):=by rw[wrap_id (by omega) (by omega)];omega
   simp only[e1,e2,toNat_cast];rw[bc_t (by simp;omega),bc_f (by simp)];by_cases hlen:c=l.length
   ·subst hlen
    rw[bc_t (by simp),lcase_le (by unfold LIM;omega)];simp
   ·rw[bc_f (by simp;omega)]
    refine capQ_eq fun cp hcp=> ?_
    by_cases hcap:cp<l.length+1
    ·rw[bc_t (by simp;omega),bc_t (by simp;omega)]
     have e3:IntKind.i64.wrap (((l.length+1:Nat):Int) - (c:Int))=((l.length+1 - c:Nat):Int):=by rw[wrap_id (by omega) (by omega)];omega
     simp only[e3,toNat_cast,List.drop_zero];have hA:(l.take c).length=c:=by simp;omega
     have hT:(l.take c++List.replicate (l.length+1 - c) (⟨0,0,0, [],0,([] :List Entry)⟩:Inode)).take c=l.take c:=take_set hA;have hD:(l.take c++List.replicate (l.length+1 - c) (⟨0,0,0, [],0,([] :List Entry)⟩:Inode)).drop c=List.replicate (l.length+1 - c) (⟨0,0,0, [],0,([] :List Entry)⟩:Inode):=drop_set hA;have hL:(l.take c++List.replicate (l.length+1 - c) (⟨0,0,0, [],0,([] :List Entry)⟩:Inode)).length=l.length+1:=by simp;omega
     simp only[hT,hD,hL];have hX:[x].take (l.length+1 - c)=[x]:=by rw[List.take_of_length_le];simp;omega
     have hM:min 1 (l.length+1 - c)=1:=by omega
     have hR:(List.replicate (l.length+1 - c) (⟨0,0,0, [],0,([] :List Entry)⟩:Inode)).drop 1=List.replicate (l.length - c) (⟨0,0,0, [],0,([] :List Entry)⟩:Inode):=by rw[List.drop_replicate];congr 1;omega
     simp only[hX,hM,hR];have hL2:(l.take c++([x]++List.replicate (l.length - c) (⟨0,0,0, [],0,([] :List Entry)⟩:Inode))).length=l.length+1:=by simp;omega
     simp only[hL2];have hM2:min (l.length - c) (l.length+1 - (c+1))=l.length - c:=by omega
     simp only[hM2];rw[bc_t (by simp),lcase_le (by unfold LIM;omega),bc_t (by simp;omega),bc_t (by simp;omega),bc_t (by simp;omega),bc_t (by simp;omega),bc_t (by simp;omega),bc_t (by simp;omega),bc_t (by simp;omega),bc_t (by simp;omega),bc_t (by simp;omega)];have e4:l.take c++([x]++List.replicate (l.length - c) (⟨0,0,0, [],0,([] :List Entry)⟩:Inode))=(l.take c++[x])++List.replicate (l.length - c) (⟨0,0,0, [],0,([] :List Entry)⟩:Inode):=by simp
     have hA1:(l.take c++[x]).length=c+1:=by simp;omega
     have hT4:(l.take c++([x]++List.replicate (l.length - c) (⟨0,0,0, [],0,([] :List Entry)⟩:Inode))).take (c+1)=l.take c++[x]:=by rw[e4];exact take_set hA1
     have hD4:(l.take c++([x]++List.replicate (l.length - c) (⟨0,0,0, [],0,([] :List Entry)⟩:Inode))).drop (c+1+(l.length - c))= [] :=by rw[List.drop_eq_nil_of_le];rw[hL2];omega
     have hQ:(l.drop c).take (l.length - c)=l.drop c:=by rw[List.take_of_length_le];simp
     rw[hT4,hD4,hQ];simp
    ·rw[bc_f (by simp;omega)]
     have hM:min (l.length+1 - c) (l.length+1 - (c+1))=l.length - c:=by omega
     simp only[hM,Nat.zero_add];have hQ:(l.drop c).take (l.length - c)=l.drop c:=by rw[List.take_of_length_le];simp
     have hX:[x].take (l.length+1 - c)=[x]:=by rw[List.take_of_length_le];simp;omega
     have hM2:min 1 (l.length+1 - c)=1:=by omega
     simp only[hQ,hX,hM2,List.drop_zero];rw[bc_t (by simp;omega),bc_t (by simp;omega),bc_t (by simp),bc_t (by simp;omega),bc_t (by simp;omega),bc_t (by simp;omega),bc_t (by simp;omega)];have hc1:c+1≤l.length:=by omega
     rw[bc_t (by simp;omega),bc_f (ble_f (by omega)),bc_t (by simp;omega),bc_t (by simp;omega),bc_t (by simp;omega)];have hT1:(l.take (c+1)++l.drop c).take c=l.take c:=by rw[List.take_append_of_le_length (by simp;omega),List.take_take];congr 1;omega
     have hD1:((l.take (c+1)++l.drop c).drop c).drop 1=l.drop c:=by rw[List.drop_drop];exact drop_set (by simp;omega)
     rw[hT1,hD1];rw[List.take_of_length_le (by simp;omega)];simp
 ·obtain⟨y,hx,hn⟩:=hasI_some h
  have e9:setI x l=l.set (cntI x.ino l) x:=setK_old loI hs hx hn;rw[e9];have hc':=(List.getElem?_eq_some_iff.1 hx).1;generalize cntI x.ino l=c at hx hc hc';refine nilK_eq (fun e=>by subst e;simp at hx) ?_;rw[lcase_le (by unfold LIM;simp;omega)];simp only[bcase_true,List.nil_append,toNat_cast,hx,ocase_some'];rw[bc_t (by simp;omega)]
theorem find_foldK {α κ R:Type} [DecidableEq κ] {key:α→κ} {k:κ} (kr:α→Option R) (k0:Option R):∀(l:List α) (i:Nat) (s:Unit),foldG (fun _ x s K=>if decide (key x=k) then kr x else K s) (fun _=>k0) i l s=match findK key k l with|some x=>kr x|none=>k0
 | [],_,_=>rfl
 |x::l,i,s=>by
  simp only[foldG];unfold findK;rw[List.find?_cons];by_cases h:key x=k
  ·simp [h]
  ·simp only[h,decide_false,Bool.false_eq_true,if_false]
   have:=find_foldK (key:=key) (k:=k) kr k0 l (i+1) s;unfold findK at this;rw[this]
theorem beqI (a b:Int):(a==b)=decide (a=b):=by rw[Bool.eq_iff_iff,beq_iff_eq,decide_eq_true_eq]
theorem bneI (a b:Int):(a !=b)= !decide (a=b):=by rw[bne,beqI]
theorem ref05_Get_eq {f:Fs} {n:Int} (hl:f.inodes.length≤1073741824):ref05_Get f n=some (getI n f.inodes,(findI n f.inodes).isSome):=by
 unfold ref05_Get;refine(loop_all (l:=f.inodes) (fun m i (_:Unit)=>ref05_Get_L2 n f (fun z10=>some (z10,true)) (some ((⟨0,0,0, [],0,([] :List Entry)⟩:Inode),false)) m i) (fun _ (x:Inode) s K=>if decide (x.ino=n) then some (x,true) else K s) (fun _=>some (zeroI,false)) (by omega) (fun m k x u hk hx=> ?_) (fun m u=> ?_) ()).trans ?_
 ·simp only[ref05_Get_L2]
  rw[dec_lt hk,dec_nn,toNat_cast,hx,wrap_succ (by omega)];simp only[bcase_true,ocase_some',bcase_ite,if_true,beqI]
 ·simp only[ref05_Get_L2]
  rw[dec_ge (Nat.le_refl _)];rfl
 ·rw[find_foldK (key:=Inode.ino) (k:=n) (fun x=>some (x,true)) _]
  unfold getI findI;cases findK Inode.ino n f.inodes<;>rfl
theorem ref05_Drop_eq {f:Fs} {n:Int} (hl:f.inodes.length≤1073741824):ref05_Drop f n=some (f.drop n):=by
 unfold ref05_Drop;refine(loop_all (l:=f.inodes) (fun m i s=>ref05_Drop_L3 n f (fun z11=>some (⟨f.maxInodes,f.maxBytes,f.next,z11⟩:Fs)) m i s) (fun _ (x:Inode) s K=>if !decide (x.ino=n) then lcase (s.length+[x].length) (K (s++[x])) else K s) (fun z11=>some (⟨f.maxInodes,f.maxBytes,f.next,z11⟩:Fs)) (by omega) (fun m k x s hk hx=> ?_) (fun m s=> ?_) []).trans ?_
 ·simp only[ref05_Drop_L3]
  rw[dec_lt hk,dec_nn,toNat_cast,hx,wrap_succ (by omega)];simp only[bcase_true,ocase_some',bcase_ite,if_true,bneI]
 ·simp only[ref05_Drop_L3]
  rw[dec_ge (Nat.le_refl _)];rfl
 ·rw[filt_fold _ _ _ _ _ (by unfold LIM;simp;omega)];rfl
theorem ref05_Set_eq {f:Fs} {x:Inode} (hl:f.inodes.length≤1073741824):ref05_Set f x=some (f.set x):=by
 unfold ref05_Set;rw[ref05_Drop_eq hl];simp only[ocase_some'];have hfl:(dropI x.ino f.inodes).length≤f.inodes.length:=dropK_length_le (key:=Inode.ino);unfold Fs.set Fs.drop setI setK;show _=some (⟨f.maxInodes,f.maxBytes,f.next,insK ltI Inode.ino x (dropI x.ino f.inodes)⟩:Fs);generalize dropI x.ino f.inodes=rest at hfl⊢;refine(loop_all (l:=rest) (fun m i s=>ref05_Set_L5 rest x (fun z18 z19=>bcase (!z18) (lcase (z19.length+[x].length) (some (⟨f.maxInodes,f.maxBytes,f.next,(z19++[x])⟩:Fs))) (some (⟨f.maxInodes,f.maxBytes,f.next,z19⟩:Fs))) m s.1 i s.2)
  (fun _ y (s:Bool×List Inode) K=>if !s.1 then (if ltI x.ino y.ino then lcase (s.2.length+[x].length) (lcase ((s.2++[x]).length+[y].length) (K (true,(s.2++[x])++[y]))) else lcase (s.2.length+[y].length) (K (s.1,s.2++[y]))) else lcase (s.2.length+[y].length) (K (s.1,s.2++[y])))
  (fun s=>if !s.1 then lcase (s.2.length+[x].length) (some (⟨f.maxInodes,f.maxBytes,f.next,s.2++[x]⟩:Fs)) else some (⟨f.maxInodes,f.maxBytes,f.next,s.2⟩:Fs)) (by omega) (fun m k y s hk hx=> ?_) (fun m s=> ?_) (false, [])).trans ?_
 ·simp only[ref05_Set_L5]
  rw[dec_lt hk,dec_nn,toNat_cast,hx,wrap_succ (by omega)];simp only[bcase_true,ocase_some',bcase_ite,if_true,ltI,gt_iff_lt]
 ·simp only[ref05_Set_L5]
  rw[dec_ge (Nat.le_refl _),bcase_false];simp only[bcase_ite]
 ·rw[insK_fold (lt:=ltI) (key:=Inode.ino) x (fun z=>some (⟨f.maxInodes,f.maxBytes,f.next,z⟩:Fs)) _ _ _ (by unfold LIM;simp;omega)]
  rfl
theorem eqIn (a b:Inode):decide (a=b)=(decide (a.ino=b.ino)&&(decide (a.kind=b.kind)&&(decide (a.links=b.links)&&(decide (a.data=b.data)&&(decide (a.parent=b.parent)&&decide (a.entries=b.entries)))))):=by
 rw[Bool.eq_iff_iff];cases a;cases b;simp
theorem ref05_One_eq {a b:Inode} (hl:a.entries.length≤1073741824):ref05_One a b=some (decide (a=b)):=by
 unfold ref05_One;rw[ref04_Same_eq hl,eqIn];simp only[beqI,beqS,bcase_ite,ocase_some'];by_cases h1:a.ino=b.ino
 ·by_cases h2:a.kind=b.kind
  ·by_cases h3:a.links=b.links
   ·by_cases h4:a.data=b.data
    ·by_cases h5:a.parent=b.parent
     ·simp [h1,h2,h3,h4,h5]
     ·simp [h1,h2,h3,h4,h5]
    ·simp [h1,h2,h3,h4]
   ·simp [h1,h2,h3]
  ·simp [h1,h2]
 ·simp [h1]
theorem ref05_Ones_eq {a b:List Inode} (hl:a.length≤1073741824) (he:∀x∈a,x.entries.length≤1073741824):ref05_Ones a b=some (decide (a=b)):=by
 unfold ref05_Ones;rw[bcase_ite];by_cases h:a.length=b.length
 ·have e:((List.length a:Int) !=(List.length b:Int))=false:=by rw[h];simp
  rw[e,if_neg (by simp)];refine(loop_all (l:=a) (fun m i (_:Unit)=>ref05_Ones_L4 a b (some false) (some true) m i) (fun k x (_:Unit) K=>ocase ([] ++b)[k]? fun y=>if decide (x=y) then K () else some false) (fun _=>some true) (by omega) (fun m k x u hk hx=> ?_) (fun m u=> ?_) ()).trans ?_
  ·simp only[ref05_Ones_L4]
   rw[dec_lt hk,dec_nn,toNat_cast,hx,wrap_succ (by omega)];simp only[bcase_true,ocase_some',bcase_ite,if_true,List.nil_append];have hk':k<b.length:=by omega
   rw[List.getElem?_eq_getElem hk'];simp only[ocase_some'];rw[ref05_One_eq (he x (List.mem_of_getElem? hx))];simp only[ocase_some'];by_cases hxy:x=b[k]<;>simp [hxy]
  ·simp only[ref05_Ones_L4]
   rw[dec_ge (Nat.le_refl _)];rfl
  ·rw[same_fold _ _ a b 0 [] h rfl]
   by_cases hab:a=b<;>simp [hab]
 ·have e:((List.length a:Int) !=(List.length b:Int))=true:=by rw[bne_iff_ne];omega
  rw[e,if_pos rfl];have:¬a=b:=fun e=>h (by rw[e])
  simp [this]
theorem eqFs (a b:Fs):decide (a=b)=(decide (a.maxInodes=b.maxInodes)&&(decide (a.maxBytes=b.maxBytes)&&(decide (a.next=b.next)&&decide (a.inodes=b.inodes)))):=by
 rw[Bool.eq_iff_iff];cases a;cases b;simp
theorem ref05_Same_eq {a b:Fs} (hl:a.inodes.length≤1073741824) (he:∀x∈a.inodes,x.entries.length≤1073741824):ref05_Same a b=some (decide (a=b)):=by
 unfold ref05_Same;rw[ref05_Ones_eq hl he,eqFs];simp only[beqI,bcase_ite,ocase_some'];by_cases h1:a.maxInodes=b.maxInodes
 ·by_cases h2:a.maxBytes=b.maxBytes
  ·by_cases h3:a.next=b.next
   ·simp [h1,h2,h3]
   ·simp [h1,h2,h3]
  ·simp [h1,h2]
 ·simp [h1]
end Go.Eng
set_option linter.unusedVariables false
set_option maxRecDepth 100000
namespace Go.Eng
open Go
noncomputable def room_Inodes (w0:Fs):Option (Int):=
 some (List.length w0.inodes:Int)
noncomputable def room_Bytes_L3 {R:Type} (x2:Int) (x4:Fs) (k0:Int→Option R):Nat→Int→Int→Option R
 |0,_,_=>none
 |n+1,x1,x3=>
  bcase (decide (x3<x2)) (
  bcase (decide (0≤x3)) (ocase x4.inodes[Int.toNat x3]? fun e5=>
  bcase (e5.kind==(1:Int)) (
  bcase (decide (0≤x3)) (ocase x4.inodes[Int.toNat x3]? fun e6=>(room_Bytes_L3 x2 x4 k0 n (IntKind.i64.wrap (x1+(List.length e6.data:Int))) (IntKind.i64.wrap (x3+(1:Int))))) (none)) ((room_Bytes_L3 x2 x4 k0 n x1 (IntKind.i64.wrap (x3+(1:Int)))))) (none)) ((k0 x1))
noncomputable def room_Bytes (w0:Fs):Option (Int):=
 room_Bytes_L3 (List.length w0.inodes:Int) w0 (fun z8=>some z8) FUEL (0:Int) (0:Int)
noncomputable def room_Fits (w0:Fs) (w1:Int) (w2:Int):Option (Bool):=
 ocase (room_Inodes w0) fun y1=>
 bcase (decide ((IntKind.i64.wrap (y1+w1))≤w0.maxInodes)) (ocase (room_Bytes w0) fun y2=>some (decide ((IntKind.i64.wrap (y2+w2))≤w0.maxBytes))) (some false)
end Go.Eng
set_option linter.unusedSimpArgs false
set_option linter.unusedVariables false
namespace Go.Eng
open Go
def bytesOf (l:List Inode):Int:=(l.map fun x=>if x.kind=1 then (x.data.length:Int) else 0).sum
def fitsI (f:Fs) (a b:Int):Bool:=decide ((f.inodes.length:Int)+a≤f.maxInodes)&&decide (bytesOf f.inodes+b≤f.maxBytes)
structure SmF (f:Fs):Prop where
 len:f.inodes.length≤1073741824
 data:∀x∈f.inodes,x.data.length≤1073741824
 ents:∀x∈f.inodes,x.entries.length≤1073741824
 names:∀x∈f.inodes,∀e∈x.entries,e.name.length≤1099511627775
theorem bytesOf_cons (x:Inode) (l:List Inode):bytesOf (x::l)=(if x.kind=1 then (x.data.length:Int) else 0)+bytesOf l:=by simp [bytesOf]
theorem bytesOf_nn (l:List Inode):0≤bytesOf l:=by
 induction l with
 |nil=>simp [bytesOf]
 |cons x l ih=>rw[bytesOf_cons];split<;>omega
theorem bytesOf_le {N:Nat} {l:List Inode} (h:∀x∈l,x.data.length≤N):bytesOf l≤((l.length*N:Nat):Int):=by
 induction l with
 |nil=>simp [bytesOf]
 |cons x l ih=>
  have h1:=ih (fun y hy=>h y (by simp [hy]));have h2:=h x (by simp);rw[bytesOf_cons,List.length_cons,Nat.succ_mul];split<;>omega
theorem SmF.bytes {f:Fs} (h:SmF f):bytesOf f.inodes≤1152921504606846976:=by
 have h1:=bytesOf_le h.data;have h2:f.inodes.length*1073741824≤1073741824*1073741824:=Nat.mul_le_mul_right _ h.len;omega
theorem bytes_fold {R:Type} (kk:Int→Option R):∀(l:List Inode) (k:Nat) (s:Int),0≤s→s+bytesOf l≤4611686018427387904→
 foldG (fun _ (x:Inode) s K=>if decide (x.kind=1) then K (IntKind.i64.wrap (s+(x.data.length:Int))) else K s) kk k l s=kk (s+bytesOf l)
 | [],k,s,_,_=>by simp [foldG,bytesOf]
 |x::l,k,s,h0,h=>by
  have hn:=bytesOf_nn l;rw[bytesOf_cons] at h⊢;simp only[foldG];by_cases hk:x.kind=1
  ·rw[if_pos hk] at h
   rw[if_pos (by simp [hk]),if_pos hk,wrap_id (by omega) (by omega),bytes_fold kk l (k+1) _ (by omega) (by omega),Int.add_assoc]
  ·rw[if_neg hk] at h
   rw[if_neg (by simp [hk]),if_neg hk,bytes_fold kk l (k+1) _ (by omega) (by omega)];simp
theorem room_Bytes_eq {f:Fs} (h:SmF f):room_Bytes f=some (bytesOf f.inodes):=by
 have hs:=h.bytes;have hl:=h.len;unfold room_Bytes;refine(loop_all (l:=f.inodes) (fun n i s=>room_Bytes_L3 (f.inodes.length:Int) f (fun z8=>some z8) n s i) (fun _ (x:Inode) s K=>if decide (x.kind=1) then K (IntKind.i64.wrap (s+(x.data.length:Int))) else K s) (fun z=>some z) (by omega) (fun n k x s hk hx=> ?_) (fun n s=> ?_) 0).trans ?_
 ·simp only[room_Bytes_L3]
  rw[dec_lt hk,dec_nn,toNat_cast,hx,wrap_succ (by omega)];simp only[bcase_true,ocase_some',bcase_ite,if_true,beqI]
 ·simp only[room_Bytes_L3]
  rw[dec_ge (Nat.le_refl _)];rfl
 ·rw[bytes_fold _ _ _ _ (by omega) (by omega)];simp
theorem ref06_Bytes_eq {f:Fs} (h:SmF f):ref06_Bytes f=some (bytesOf f.inodes):=by
 have hs:=h.bytes;have hl:=h.len;unfold ref06_Bytes;refine(loop_all (l:=f.inodes) (fun n i s=>ref06_Bytes_L3 f (fun z7=>some z7) n s i) (fun _ (x:Inode) s K=>if decide (x.kind=1) then K (IntKind.i64.wrap (s+(x.data.length:Int))) else K s) (fun z=>some z) (by omega) (fun n k x s hk hx=> ?_) (fun n s=> ?_) 0).trans ?_
 ·simp only[ref06_Bytes_L3]
  rw[dec_lt hk,dec_nn,toNat_cast,hx,wrap_succ (by omega)];simp only[bcase_true,ocase_some',bcase_ite,if_true,beqI]
 ·simp only[ref06_Bytes_L3]
  rw[dec_ge (Nat.le_refl _)];rfl
 ·rw[bytes_fold _ _ _ _ (by omega) (by omega)];simp
def Far (n:Int):Prop:= -1152921504606846976≤n∧n≤1152921504606846976
theorem room_Fits_eq {f:Fs} {a b:Int} (h:SmF f) (ha:Far a) (hb:Far b):room_Fits f a b=some (fitsI f a b):=by
 have hs:=h.bytes;have h0:=bytesOf_nn f.inodes;have hl:=h.len;unfold Far at ha hb;unfold room_Fits fitsI room_Inodes;rw[room_Bytes_eq h];simp only[ocase_some',bcase_ite];rw[wrap_id (by omega) (by omega),wrap_id (by omega) (by omega)];by_cases h1:(f.inodes.length:Int)+a≤f.maxInodes<;>simp [h1]
theorem ref06_Fits_eq {f:Fs} {a b:Int} (h:SmF f) (ha:Far a) (hb:Far b):ref06_Fits f a b=some (fitsI f a b):=by
 have hs:=h.bytes;have h0:=bytesOf_nn f.inodes;have hl:=h.len;unfold Far at ha hb;unfold ref06_Fits fitsI;rw[ref06_Bytes_eq h];simp only[ocase_some',bcase_ite];rw[wrap_id (by omega) (by omega),wrap_id (by omega) (by omega)];by_cases h1:(f.inodes.length:Int)+a≤f.maxInodes
 ·have h2:¬f.maxInodes<(f.inodes.length:Int)+a:=by omega
  simp [h1,h2]
 ·have h2:f.maxInodes<(f.inodes.length:Int)+a:=by omega
  simp [h1,h2]
def fewE (x:Inode):Bool:=decide (x.data.length≤5000)&&(decide (x.entries.length≤40)&&x.entries.all fun e=>decide (e.name.length≤300))
def fewF (f:Fs):Bool:=(f.inodes.take 100).all fewE&&decide (f.inodes.length≤40)
theorem all_foldT {α R:Type} (p:α→Bool) (kr k0:Option R):∀(l:List α) (k:Nat) (s:Unit),foldG (fun _ x s K=>if p x then K s else kr) (fun _=>k0) k l s=if l.all p then k0 else kr
 | [],_,_=>rfl
 |x::l,k,s=>by
  by_cases h:p x=true
  ·have e:(x::l).all p=l.all p:=by simp [h]
   rw[e];simp only[foldG];rw[if_pos h];exact all_foldT p kr k0 l (k+1) s
  ·have e:(x::l).all p=false:=by simp [h]
   rw[e];simp [foldG,h]
theorem ref05_Few_L8_eq {R:Type} {x:Inode} {kr k2:Option R} (hl:x.entries.length≤1073741824):ref05_Few_L8 x kr k2 FUEL (0:Int)=if x.entries.all (fun e=>decide (e.name.length≤300)) then k2 else kr:=by
 refine(loop_all (l:=x.entries) (fun n i (s:Unit)=>ref05_Few_L8 x kr k2 n i) (fun _ (e:Entry) s K=>if decide (e.name.length≤300) then K s else kr) (fun _=>k2) (by omega) (fun n k e s hk hx=> ?_) (fun n s=> ?_) ()).trans ?_
 ·simp only[ref05_Few_L8]
  rw[dec_lt hk,dec_nn,toNat_cast,hx,wrap_succ (by omega)];simp only[bcase_true,ocase_some',bcase_ite,if_true];by_cases h:e.name.length≤300
  ·have h2:¬(300:Int)<(e.name.length:Int):=by omega
   simp [h,h2]
  ·have h2:(300:Int)<(e.name.length:Int):=by omega
   simp [h,h2]
 ·simp only[ref05_Few_L8]
  rw[dec_ge (Nat.le_refl _)];rfl
 ·exact all_foldT _ _ _ _ _ _
theorem ref05_Few_eq {f:Fs} (hl:f.inodes.length≤1073741824) (he:∀x∈f.inodes,x.entries.length≤1073741824):ref05_Few f=some (fewF f):=by
 unfold ref05_Few;refine(loop_all (l:=f.inodes.take 100) (fun n i (s:Unit)=>ref05_Few_L2 f (some false) (some (decide ((f.inodes.length:Int)≤(40:Int)))) n i) (fun _ x s K=>if fewE x then K s else some false) (fun _=>some (decide ((f.inodes.length:Int)≤(40:Int)))) (by simp;omega) (fun n k x s hk hx=> ?_) (fun n s=> ?_) ()).trans ?_
 ·have hk':k<f.inodes.length∧k<100:=by simp at hk;omega
  have hx':f.inodes[k]? =some x:=by rw[List.getElem?_take_of_lt hk'.2] at hx;exact hx
  have hxm:=he x (List.mem_of_getElem? hx');simp only[ref05_Few_L2];have h100:decide ((k:Int)<(100:Int))=true:=by simp;omega
  rw[dec_lt hk'.1,h100,dec_nn,toNat_cast,hx',wrap_succ (by omega)];simp only[bcase_true,ocase_some',bcase_ite,if_true];rw[ref05_Few_L8_eq hxm];unfold fewE;by_cases h1:x.data.length≤5000
  ·have h1':¬(5000:Int)<(x.data.length:Int):=by omega
   by_cases h2:x.entries.length≤40
   ·have h2':¬(40:Int)<(x.entries.length:Int):=by omega
    simp [h1,h1',h2,h2']
   ·have h2':(40:Int)<(x.entries.length:Int):=by omega
    simp [h1,h1',h2,h2']
  ·have h1':(5000:Int)<(x.data.length:Int):=by omega
   simp [h1,h1']
 ·simp only[ref05_Few_L2]
  by_cases h:f.inodes.length≤100
  ·have e:(f.inodes.take 100).length=f.inodes.length:=by simp;omega
   rw[e,dec_ge (Nat.le_refl _)];rfl
  ·have e:(f.inodes.take 100).length=100:=by simp;omega
   rw[e];have h1:decide (((100:Nat):Int)<(f.inodes.length:Int))=true:=by simp;omega
   rw[h1];rfl
 ·rw[all_foldT]
  unfold fewF;have e:decide ((f.inodes.length:Int)≤(40:Int))=decide (f.inodes.length≤40):=by rw[decide_eq_decide];omega
  rw[e];by_cases h9:(f.inodes.take 100).all fewE=true
  ·rw[if_pos h9,h9];rfl
  ·rw[if_neg h9]
   have:(f.inodes.take 100).all fewE=false:=by simpa using h9
   rw[this];rfl
theorem fewF_sm {f:Fs} (h:fewF f=true):f.inodes.length≤40∧∀x∈f.inodes,x.data.length≤5000∧x.entries.length≤40∧∀e∈x.entries,e.name.length≤300:=by
 unfold fewF at h;simp only[Bool.and_eq_true,decide_eq_true_eq] at h;obtain⟨h1,h2⟩:=h;rw[List.take_of_length_le (by omega),List.all_eq_true] at h1;refine⟨h2,fun x hx=> ?_⟩;have:=h1 x hx;unfold fewE at this;simp only[Bool.and_eq_true,decide_eq_true_eq,List.all_eq_true] at this;exact this
theorem SmF.of_few {f:Fs} (h:fewF f=true):SmF f:=by
 obtain⟨h1,h2⟩:=fewF_sm h;exact⟨by omega,fun x hx=>by have:=(h2 x hx).1;omega,fun x hx=>by have:=(h2 x hx).2.1;omega,fun x hx e he=>by have:=(h2 x hx).2.2 e he;omega⟩
def riseB:List Inode→Bool
 | [] =>true
 |[_]=>true
 |x::y::l=>decide (x.ino<y.ino)&&riseB (y::l)
theorem riseB_iff:∀l:List Inode,riseB l=true↔SortI l
 | [] =>by simp [riseB,SortI,SortK]
 |[x]=>by simp [riseB,SortI,SortK]
 |x::y::l=>by
  have ih:=riseB_iff (y::l);unfold SortI SortK at ih⊢;rw[List.pairwise_cons];simp only[riseB,Bool.and_eq_true,ih,decide_eq_true_eq];constructor
  ·rintro⟨h1,h2⟩
   refine⟨fun z hz=> ?_,h2⟩;rw[List.pairwise_cons] at h2;simp only[List.mem_cons] at hz;rcases hz with rfl|hz
   ·simp [ltI,h1]
   ·have:=h2.1 z hz
    simp only[ltI,decide_eq_true_eq] at this⊢;omega
  ·rintro⟨h1,h2⟩
   have:=h1 y (by simp);simp only[ltI,decide_eq_true_eq] at this;exact⟨this,h2⟩
theorem riseB_app:∀(a:List Inode) (x y:Inode) (l:List Inode),riseB (a++x::y::l)=(riseB (a++[x])&&(decide (x.ino<y.ino)&&riseB (y::l)))
 | [],x,y,l=>by simp [riseB]
 |[z],x,y,l=>by simp [riseB,Bool.and_assoc]
 |z::z2::a,x,y,l=>by
  have:=riseB_app (z2::a) x y l;simp only[List.cons_append] at this⊢;simp only[riseB,this,Bool.and_assoc]
theorem ref05_Rise_eq {f:Fs} (hl:f.inodes.length≤1073741824):ref05_Rise f=some (riseB f.inodes):=by
 unfold ref05_Rise;have key:∀(n k:Nat),1≤k→f.inodes.length - k<n→riseB (f.inodes.take k)=true→ref05_Rise_L2 f (some false) (some true) n (k:Int)=some (riseB f.inodes):=by
  intro n;induction n with
  |zero=>intro k _ h;omega
  |succ n ih=>
   intro k h1 hn hr;simp only[ref05_Rise_L2];by_cases hk:k<f.inodes.length
   ·rw[dec_lt hk,bcase_true,pred_wrap (by omega) (by omega),dec_nn,bcase_true,toNat_cast,List.getElem?_eq_getElem (by omega),ocase_some',dec_nn,bcase_true,toNat_cast,List.getElem?_eq_getElem hk,ocase_some',wrap_succ (by omega)]
    have e1:f.inodes.take k=f.inodes.take (k - 1)++[f.inodes[k - 1]]:=by
     have:k=(k - 1)+1:=by omega
     conv=>lhs;rw[this]
     rw[List.take_add_one,List.getElem?_eq_getElem (by omega)];rfl
    have e2:f.inodes=f.inodes.take (k - 1)++f.inodes[k - 1]::f.inodes[k]::f.inodes.drop (k+1):=by
     conv=>lhs;rw[←List.take_append_drop (k - 1) f.inodes]
     rw[List.drop_eq_getElem_cons (i:=k - 1) (by omega)];have:k - 1+1=k:=by omega
     rw[this,List.drop_eq_getElem_cons hk]
    by_cases h:f.inodes[k - 1].ino<f.inodes[k].ino
    ·rw[bc_f (by simp;omega)]
     refine ih (k+1) (by omega) (by omega) ?_;have e3:f.inodes.take (k+1)=f.inodes.take (k - 1)++f.inodes[k - 1]::[f.inodes[k]]:=by
      rw[List.take_add_one,List.getElem?_eq_getElem hk];conv=>lhs;rw[e1]
      rw[List.append_assoc];rfl
     rw[e3,riseB_app,←e1,hr];simp [riseB,h]
    ·rw[bc_t (by simp;omega)]
     rw[e2,riseB_app];simp [h]
   ·rw[dec_ge (by omega),bcase_false]
    rw[List.take_of_length_le (by omega)] at hr;rw[hr]
 refine key FUEL 1 (Nat.le_refl _) (fuel_ok (by omega)) ?_;cases h:f.inodes with
 |nil=>rfl
 |cons x l=>simp [riseB]
def firstB (f:Fs):Bool:=decide (1≤f.maxInodes∧f.maxInodes≤1073741824∧0≤f.maxBytes∧f.maxBytes≤1073741824∧f.next≤1099511627776)&&(f.inodes.all (fun x=>decide (1≤x.ino∧x.ino<f.next))&&(riseB f.inodes&&((findI 1 f.inodes).isSome&&decide ((getI 1 f.inodes).kind=2))))
theorem ref07_first_eq {f:Fs} (hl:f.inodes.length≤1073741824):ref07_first f=some (firstB f):=by
 unfold ref07_first firstB;rw[ref05_Get_eq hl,ref05_Rise_eq hl];simp only[ocase_some'];by_cases h1:f.maxInodes<1
 ·rw[bc_t (by simp [h1]),decide_eq_false (by omega)];rfl
 rw[bc_f (by simp [h1])];by_cases h2:f.maxInodes>1073741824
 ·rw[bc_t (by simp [h2]),decide_eq_false (by omega)];rfl
 rw[bc_f (by simp [h2])];by_cases h3:f.maxBytes<0
 ·rw[bc_t (by simp [h3]),decide_eq_false (by omega)];rfl
 rw[bc_f (by simp [h3])];by_cases h4:f.maxBytes>1073741824
 ·rw[bc_t (by simp [h4]),decide_eq_false (by omega)];rfl
 rw[bc_f (by simp [h4])];by_cases h5:f.next>1099511627776
 ·rw[bc_t (by simp [h5]),decide_eq_false (by omega)];rfl
 rw[bc_f (by simp [h5]),decide_eq_true (by omega),Bool.true_and];generalize hk0:(bcase (riseB f.inodes) (bcase (findI 1 f.inodes).isSome (some ((getI 1 f.inodes).kind==(2:Int))) (some false)) (some false))=k0;have e0:k0=some (riseB f.inodes&&((findI 1 f.inodes).isSome&&decide ((getI 1 f.inodes).kind=2))):=by
  rw[←hk0,beqI];cases riseB f.inodes<;>cases (findI 1 f.inodes).isSome<;>rfl
 refine(loop_all (l:=f.inodes) (fun m i (_:Unit)=>ref07_first_L4 f (some false) k0 m i) (fun _ (x:Inode) s K=>if decide (1≤x.ino∧x.ino<f.next) then K s else some false) (fun _=>k0) (by omega) (fun m k x u hk hx=> ?_) (fun m u=> ?_) ()).trans ?_
 ·simp only[ref07_first_L4]
  rw[dec_lt hk,dec_nn,toNat_cast,hx,wrap_succ (by omega)];simp only[bcase_true,ocase_some',bcase_ite,if_true];by_cases h6:x.ino<1
  ·have:¬(1≤x.ino∧x.ino<f.next):=by omega
   simp [h6,this]
  ·by_cases h7:x.ino≥f.next
   ·have:¬(1≤x.ino∧x.ino<f.next):=by omega
    have h7':f.next≤x.ino:=h7;simp [h6,h7',this]
   ·have:1≤x.ino∧x.ino<f.next:=by omega
    have h7':¬f.next≤x.ino:=h7;simp [h6,h7',this]
 ·simp only[ref07_first_L4]
  rw[dec_ge (Nat.le_refl _)];rfl
 ·rw[all_foldT,e0]
  by_cases h9:f.inodes.all (fun x=>decide (1≤x.ino∧x.ino<f.next))=true
  ·rw[if_pos h9,h9,Bool.true_and]
  ·rw[if_neg h9]
   have:f.inodes.all (fun x=>decide (1≤x.ino∧x.ino<f.next))=false:=by simpa using h9
   rw[this,Bool.false_and]
def kindB (x:Inode):Bool:=(decide (x.kind=1)&&(x.entries.isEmpty&&decide (x.parent=0)))||((decide (x.kind=2)&&(decide (x.data= [])&&rightE x.entries))||(decide (x.kind=3)&&(x.entries.isEmpty&&(decide (x.parent=0)&&(decide (1≤x.data.length∧x.data.length≤4095)&& !(x.data.any (fun b=>b==0)))))))
def secondB (f:Fs):Bool:=f.inodes.all kindB
theorem second_L14 {R:Type} {x:Inode} {kr k2:Option R} (hl:x.data.length≤1073741824):ref07_second_L14 x kr k2 FUEL (0:Int)=if decide (x.kind=3)&&x.data.any (fun b=>b==0) then kr else k2:=by
 by_cases h3:x.kind=3
 ·refine(loop_all (l:=x.data) (fun m i (_:Unit)=>ref07_second_L14 x kr k2 m i) (fun _ (b:UInt8) s K=>if b==0 then kr else K s) (fun _=>k2) (by omega) (fun m k b u hk hx=> ?_) (fun m u=> ?_) ()).trans ?_
  ·simp only[ref07_second_L14]
   rw[dec_lt hk,dec_nn,toNat_cast,hx,wrap_succ (by omega),bc_t rfl,bc_t (by simp [h3]),bc_t rfl,ocase_some',bcase_ite];have:((UInt8.toNat b:Int)==(0:Int))=(b==0):=beq_byteI b 0 (by omega);rw[this]
  ·simp only[ref07_second_L14]
   rw[dec_ge (Nat.le_refl _)];rfl
  ·rw[any_fold (fun b:UInt8=>b==0) (fun _ _=>kr) k2 kr (fun _ _=>rfl)]
   simp [h3]
 ·obtain⟨m,hm⟩:=fuel3
  rw[hm];simp only[ref07_second_L14];rw[if_neg (by simp [h3])];cases decide ((0:Int)<(List.length x.data:Int))
  ·rfl
  ·rw[bcase_true,bc_f (by simp [h3])]
theorem kind1 {x:Inode} (h:x.kind=1):kindB x=(x.entries.isEmpty&&decide (x.parent=0)):=by
 unfold kindB;simp [h]
theorem kind2 {x:Inode} (h:x.kind=2):kindB x=(decide (x.data= [])&&rightE x.entries):=by
 unfold kindB;simp [h]
theorem kind3 {x:Inode} (h:x.kind=3):kindB x=(x.entries.isEmpty&&(decide (x.parent=0)&&(decide (1≤x.data.length∧x.data.length≤4095)&& !(x.data.any (fun b=>b==0))))):=by
 unfold kindB;simp [h]
theorem kind0 {x:Inode} (h1:¬x.kind=1) (h2:¬x.kind=2) (h3:¬x.kind=3):kindB x=false:=by
 unfold kindB;simp [h1,h2,h3]
theorem isEmpty_len {α:Type} (l:List α):decide ((List.length l:Int)>(0:Int))= !l.isEmpty:=by
 cases l with
 |nil=>rfl
 |cons x l=>simp
theorem ref07_second_eq {f:Fs} (h:SmF f):ref07_second f=some (secondB f):=by
 have hl:=h.len;unfold ref07_second secondB;refine(loop_all (l:=f.inodes) (fun m i (_:Unit)=>ref07_second_L2 f (some false) (some true) m i) (fun _ (x:Inode) s K=>if kindB x then K s else some false) (fun _=>some true) (by omega) (fun m k x u hk hx=> ?_) (fun m u=> ?_) ()).trans ?_
 ·simp only[ref07_second_L2]
  have hxm:=List.mem_of_getElem? hx;have hsm:Sm x.entries:=⟨h.ents x hxm,h.names x hxm⟩;rw[dec_lt hk,dec_nn,toNat_cast,hx,wrap_succ (by omega)];simp only[bcase_true,ocase_some',ref04_Right_eq hsm,second_L14 (h.data x hxm),isEmpty_len,bneI,beqI,beqS];by_cases h1:x.kind=1
  ·rw[kind1 h1]
   have e2:¬x.kind=2:=by omega
   have e3:¬x.kind=3:=by omega
   rw[bc_f (by simp [h1]),bc_t (by simp [e2])];simp only[h1];cases x.entries.isEmpty
   ·rfl
   ·by_cases hp:x.parent=0
    ·simp [hp]
    ·simp [hp]
  ·rw[bc_t (by simp [h1])]
   by_cases h2:x.kind=2
   ·rw[kind2 h2]
    have e3:¬x.kind=3:=by omega
    rw[bc_f (by simp [h2]),bc_f (by simp [h2]),bc_t (by simp [h2])];simp only[h2];by_cases hd:x.data= []
    ·simp only[hd]
     cases rightE x.entries<;>simp
    ·simp [hd]
   ·rw[bc_t (by simp [h2])]
    by_cases h3:x.kind=3
    ·rw[kind3 h3,bc_f (by simp [h3]),bc_t (by simp [h2])]
     simp only[h3];cases x.entries.isEmpty
     ·rfl
     ·by_cases hp:x.parent=0
      ·by_cases hd1:x.data.length<1
       ·have:¬(1≤x.data.length∧x.data.length≤4095):=by omega
        have hd1':((List.length x.data:Int)<1):=by omega
        simp [hp,hd1',this]
       ·by_cases hd2:x.data.length>4095
        ·have:¬(1≤x.data.length∧x.data.length≤4095):=by omega
         have hd1':¬((List.length x.data:Int)<1):=by omega
         have hd2':(4095:Int)<(List.length x.data:Int):=by omega
         simp [hp,hd1',hd2',this]
        ·have:1≤x.data.length∧x.data.length≤4095:=by omega
         have hd1':¬((List.length x.data:Int)<1):=by omega
         have hd2':¬(4095:Int)<(List.length x.data:Int):=by omega
         rw[decide_eq_true this,decide_eq_true hp];cases hany:x.data.any (fun b=>b==0)
         ·simp [hp,hd1',hd2']
         ·simp [hp,hd1',hd2']
      ·simp [hp]
    ·rw[kind0 h1 h2 h3,bc_t (by simp [h3])];rfl
 ·simp only[ref07_second_L2]
  rw[dec_ge (Nat.le_refl _)];rfl
 ·rw[all_foldT];exact someB
end Go.Eng
set_option linter.unusedSimpArgs false
set_option linter.unusedVariables false
namespace Go.Eng
open Go
def thirdB (f:Fs):Bool:=f.inodes.all fun x=>x.entries.all fun e=>(findI e.ino f.inodes).isSome
theorem third_L5 {R:Type} {f:Fs} {k:Nat} {x:Inode} {kr k2:Option R} (hx:f.inodes[k]? =some x) (hl:f.inodes.length≤1073741824) (he:x.entries.length≤1073741824):ref07_third_L5 (k:Int) f kr k2 FUEL (0:Int)=if x.entries.all (fun e=>(findI e.ino f.inodes).isSome) then k2 else kr:=by
 refine(loop_all (l:=x.entries) (fun m i (_:Unit)=>ref07_third_L5 (k:Int) f kr k2 m i) (fun _ (e:Entry) s K=>if (findI e.ino f.inodes).isSome then K s else kr) (fun _=>k2) (by omega) (fun m j e u hj he'=> ?_) (fun m u=> ?_) ()).trans ?_
 ·simp only[ref07_third_L5]
  rw[dec_nn,toNat_cast,hx];simp only[bcase_true,ocase_some'];rw[dec_lt hj,dec_nn,toNat_cast,he',wrap_succ (by omega)];simp only[bcase_true,ocase_some'];rw[ref05_Get_eq hl];simp only[ocase_some',bcase_ite];cases (findI e.ino f.inodes).isSome<;>rfl
 ·simp only[ref07_third_L5]
  rw[dec_nn,toNat_cast,hx];simp only[bcase_true,ocase_some'];rw[dec_ge (Nat.le_refl _)];rfl
 ·exact all_foldT _ _ _ _ _ _
theorem ref07_third_eq {f:Fs} (h:SmF f):ref07_third f=some (thirdB f):=by
 have hl:=h.len;unfold ref07_third thirdB;refine(loop_all (l:=f.inodes) (fun m i (_:Unit)=>ref07_third_L2 f (some false) (some true) m i) (fun _ (x:Inode) s K=>if x.entries.all (fun e=>(findI e.ino f.inodes).isSome) then K s else some false) (fun _=>some true) (by omega) (fun m k x u hk hx=> ?_) (fun m u=> ?_) ()).trans ?_
 ·simp only[ref07_third_L2]
  rw[dec_lt hk,bcase_true,third_L5 hx hl (h.ents x (List.mem_of_getElem? hx)),wrap_succ (by omega)]
 ·simp only[ref07_third_L2]
  rw[dec_ge (Nat.le_refl _)];rfl
 ·rw[all_foldT (fun x:Inode=>x.entries.all fun e=>(findI e.ino f.inodes).isSome)]
  exact someB
def cntN (n:Int) (l:List Entry):Nat:=(l.filter fun e=>decide (e.ino=n)).length
def namesN (n:Int):List Inode→Nat×Int→Nat×Int
 | [],s=>s
 |x::l,s=>namesN n l (s.1+cntN n x.entries,if cntN n x.entries=0 then s.2 else x.ino)
def namesF (f:Fs) (n:Int):Nat×Int:=namesN n f.inodes (0,0)
theorem cntN_cons (n:Int) (e:Entry) (l:List Entry):cntN n (e::l)=(if e.ino=n then 1 else 0)+cntN n l:=by
 unfold cntN;rw[List.filter_cons];by_cases h:e.ino=n<;>simp [h];omega
theorem cntN_le (n:Int) (l:List Entry):cntN n l≤l.length:=List.length_filter_le _ _
theorem cntN_take_succ {n:Int} {l:List Entry} {j:Nat} {e:Entry} (h:l[j]? =some e):cntN n (l.take (j+1))=cntN n (l.take j)+if e.ino=n then 1 else 0:=by
 unfold cntN;rw[List.take_add_one,h];simp only[Option.toList_some,List.filter_append,List.length_append];by_cases h':e.ino=n<;>simp [h']
theorem names_L7 {R:Type} {f:Fs} {n:Int} {k:Nat} {x:Inode} {k2:Int→Int→Option R} (hx:f.inodes[k]? =some x) (hl:f.inodes.length≤1073741824) (he:x.entries.length≤1073741824) {c:Nat} {d:Int} (hc:c≤1152921504606846976):
 ref07_Names_L7 n (k:Int) f k2 FUEL (c:Int) d (0:Int)=k2 ((c+cntN n x.entries:Nat):Int) (if cntN n x.entries=0 then d else x.ino):=by
 refine loop_post (l:=x.entries) (fun m i (s:Int×Int)=>ref07_Names_L7 n (k:Int) f k2 m s.1 s.2 i) (fun j s=>s=(((c+cntN n (x.entries.take j):Nat):Int),if cntN n (x.entries.take j)=0 then d else x.ino)) (fun r=>r=k2 ((c+cntN n x.entries:Nat):Int) (if cntN n x.entries=0 then d else x.ino)) (by omega) (fun m j e s hj he' hi hr=> ?_) (fun m s hi=> ?_) ((c:Int),d) (by simp [cntN])
 ·simp only[ref07_Names_L7]
  have hcl:=cntN_le n (x.entries.take j);have hcl':(x.entries.take j).length≤x.entries.length:=by simp;omega
  have ht:=cntN_take_succ (n:=n) he';rw[dec_nn,toNat_cast,hx];simp only[bcase_true,ocase_some'];rw[dec_lt hj,dec_nn,toNat_cast,he',wrap_succ (by omega)];simp only[bcase_true,ocase_some',beqI,bcase_ite,if_true];by_cases h:e.ino=n
  ·rw[if_pos (by simp [h])]
   rw[if_pos h] at ht;refine hr (IntKind.i64.wrap (s.1+1),x.ino) ?_;rw[hi,ht];simp only;rw[wrap_succ (by omega)];have:¬cntN n (x.entries.take j)+1=0:=by omega
   rw[if_neg this];rfl
  ·rw[if_neg (by simp [h])]
   rw[if_neg h,Nat.add_zero] at ht;refine hr _ ?_;rw[hi,ht];simp only[Nat.add_zero]
 ·simp only[ref07_Names_L7]
  rw[List.take_length] at hi;rw[dec_nn,toNat_cast,hx];simp only[bcase_true,ocase_some'];rw[dec_ge (Nat.le_refl _),bcase_false,hi]
theorem namesN_app (n:Int):∀(a b:List Inode) (s:Nat×Int),namesN n (a++b) s=namesN n b (namesN n a s)
 | [],_,_=>rfl
 |x::a,b,s=>by simp only[List.cons_append,namesN];exact namesN_app n a b _
theorem namesN_le {n:Int} {N:Nat}:∀(l:List Inode) (s:Nat×Int),(∀x∈l,x.entries.length≤N)→(namesN n l s).1≤s.1+l.length*N
 | [],s,_=>by simp [namesN]
 |x::l,s,h=>by
  simp only[namesN];have h1:=namesN_le (n:=n) l (s.1+cntN n x.entries,if cntN n x.entries=0 then s.2 else x.ino) (fun y hy=>h y (by simp [hy]));have h2:=cntN_le n x.entries;have h3:=h x (by simp);rw[List.length_cons,Nat.succ_mul];simp only at h1;omega
theorem ref07_Names_eq {f:Fs} {n:Int} (h:SmF f):ref07_Names f n=some (((namesF f n).1:Int),(namesF f n).2):=by
 have hl:=h.len;unfold ref07_Names namesF;refine loop_post (l:=f.inodes) (fun m i (s:Int×Int)=>ref07_Names_L4 n f (fun z25 z26=>some (z25,z26)) m s.1 s.2 i) (fun j s=>s=(((namesN n (f.inodes.take j) (0,0)).1:Int),(namesN n (f.inodes.take j) (0,0)).2)) (fun r=>r=some (((namesN n f.inodes (0,0)).1:Int),(namesN n f.inodes (0,0)).2)) (by omega) (fun m k x s hk hx hi hr=> ?_) (fun m s hi=> ?_) (0,0) (by simp [namesN])
 ·simp only[ref07_Names_L4]
  have hb:=namesN_le (n:=n) (N:=1073741824) (f.inodes.take k) (0,0) (fun y hy=>h.ents y (List.mem_of_mem_take hy));have hk2:(f.inodes.take k).length≤1073741824:=by simp;omega
  have hb2:(f.inodes.take k).length*1073741824≤1073741824*1073741824:=Nat.mul_le_mul_right _ hk2;rw[dec_lt hk,bcase_true,hi];simp only;rw[names_L7 hx hl (h.ents x (List.mem_of_getElem? hx)) (by simp only at hb;omega),wrap_succ (by omega)];refine hr (_,_) ?_;rw[List.take_add_one,hx];simp only[Option.toList_some,namesN_app,namesN];rfl
 ·simp only[ref07_Names_L4]
  rw[List.take_length] at hi;rw[dec_ge (Nat.le_refl _),bcase_false,hi]
def linkB (f:Fs) (x:Inode):Bool:=decide (x.links=(namesF f x.ino).1)&&(if x.ino=1 then decide ((namesF f x.ino).1=0)&&decide (x.parent=1) else decide (1≤(namesF f x.ino).1)&&(if x.kind=2 then decide ((namesF f x.ino).1=1)&&decide (x.parent=(namesF f x.ino).2) else true))
def fourthB (f:Fs):Bool:=f.inodes.all (linkB f)
theorem ref07_fourth_eq {f:Fs} (h:SmF f):ref07_fourth f=some (fourthB f):=by
 have hl:=h.len;unfold ref07_fourth fourthB;refine(loop_all (l:=f.inodes) (fun m i (_:Unit)=>ref07_fourth_L2 f (some false) (some true) m i) (fun _ (x:Inode) s K=>if linkB f x then K s else some false) (fun _=>some true) (by omega) (fun m k x u hk hx=> ?_) (fun m u=> ?_) ()).trans ?_
 ·simp only[ref07_fourth_L2]
  rw[dec_lt hk,dec_nn,toNat_cast,hx,wrap_succ (by omega)];simp only[bcase_true,ocase_some'];rw[ref07_Names_eq h];simp only[ocase_some',bneI,beqI];unfold linkB;by_cases h1:x.links=((namesF f x.ino).1:Int)
  ·simp only[h1,decide_true,Bool.not_true,bcase_false,Bool.true_and]
   by_cases h2:x.ino=1
   ·simp only[h2,decide_true,bcase_true,if_true]
    by_cases h3:(namesF f 1).1=0
    ·have h3':((namesF f 1).1:Int)=0:=by omega
     simp only[h3,h3',decide_true,Bool.not_true,bcase_false,Bool.true_and];by_cases h4:x.parent=1<;>simp [h4]
    ·have h3':¬((namesF f 1).1:Int)=0:=by omega
     simp [h3,h3']
   ·simp only[h2,decide_false,bcase_false,if_false]
    by_cases h3:(namesF f x.ino).1<1
    ·have h3':((namesF f x.ino).1:Int)<1:=by omega
     have h3'':¬1≤(namesF f x.ino).1:=by omega
     simp [h3',h3'']
    ·have h3':¬((namesF f x.ino).1:Int)<1:=by omega
     have h3'':1≤(namesF f x.ino).1:=by omega
     simp only[h3',h3'',decide_true,decide_false,bcase_false,Bool.true_and];by_cases h4:x.kind=2
     ·simp only[h4,decide_true,bcase_true,if_true]
      by_cases h5:(namesF f x.ino).1=1
      ·have h5':((namesF f x.ino).1:Int)=1:=by omega
       simp only[h5,h5',decide_true,Bool.not_true,bcase_false,Bool.true_and];by_cases h6:x.parent=(namesF f x.ino).2<;>simp [h6]
      ·have h5':¬((namesF f x.ino).1:Int)=1:=by omega
       simp [h5,h5']
     ·simp [h4]
  ·simp [h1]
 ·simp only[ref07_fourth_L2]
  rw[dec_ge (Nat.le_refl _)];rfl
 ·rw[all_foldT];exact someB
def visit (s:List Int) (e:Entry):List Int:=if e.ino∈s then s else s++[e.ino]
def visits (x:Inode) (s:List Int):List Int:=x.entries.foldl visit s
def roundsL (l:List Inode):Nat→Nat→List Int→List Int
 |0,_,s=>s
 |n+1,i,s=>match s[i]? with|some k=>roundsL l n (i+1) (visits (getI k l) s) |none=>s
def allInos (l:List Inode):List Int:=1::l.flatMap fun x=>x.entries.map Entry.ino
def ledL (l:List Inode):List Int:=roundsL l ((allInos l).length+1) 0 [1]
def fifthB (f:Fs):Bool:=decide ((ledL f.inodes).length=f.inodes.length)
theorem nodup_len {l m:List Int} (h:l.Nodup) (hs:∀x∈l,x∈m):l.length≤m.length:=by
 induction l generalizing m with
 |nil=>simp
 |cons x l ih=>
  rw[List.nodup_cons] at h;have hx:=hs x (by simp);have:=ih (m:=m.erase x) h.2 (fun y hy=>by
   have hne:y≠x:=by intro e;subst e;exact h.1 hy
   exact(List.mem_erase_of_ne hne).2 (hs y (by simp [hy])))
  rw[List.length_erase_of_mem hx] at this;have:=List.length_pos_of_mem hx;simp only[List.length_cons];omega
structure VisOK (l:List Inode) (s:List Int):Prop where
 nodup:s.Nodup
 sub:∀x∈s,x∈allInos l
theorem VisOK.len {l:List Inode} {s:List Int} (h:VisOK l s):s.length≤(allInos l).length:=nodup_len h.nodup h.sub
theorem visit_ok {l:List Inode} {s:List Int} {e:Entry} (h:VisOK l s) (he:e.ino∈allInos l):VisOK l (visit s e):=by
 unfold visit;split
 ·exact h
 ·rename_i hn
  refine⟨?_,fun x hx=> ?_⟩
  ·rw[List.nodup_append]
   refine⟨h.nodup,by simp,fun a ha b hb=> ?_⟩;simp at hb;subst hb;intro e';subst e';exact hn ha
  ·simp at hx
   rcases hx with hx|rfl
   ·exact h.sub x hx
   ·exact he
theorem foldl_visit_ok {l:List Inode}:∀(es:List Entry) {s:List Int},VisOK l s→(∀e∈es,e.ino∈allInos l)→VisOK l (es.foldl visit s)
 | [],s,h,_=>h
 |e::es,s,h,he=>by
  simp only[List.foldl_cons];exact foldl_visit_ok es (visit_ok h (he e (by simp))) (fun e' h'=>he e' (by simp [h']))
theorem getI_ents {l:List Inode} {k:Int} {e:Entry} (h:e∈(getI k l).entries):e.ino∈allInos l:=by
 unfold getI at h;cases hf:findI k l with
 |none=>rw[hf] at h;simp [zeroI] at h
 |some x=>
  rw[hf] at h;simp only[Option.getD_some] at h;unfold allInos;rw[List.mem_cons];right;rw[List.mem_flatMap];exact⟨x,(findK_some hf).1,List.mem_map.2 ⟨e,h,rfl⟩⟩
theorem visits_ok {l:List Inode} {s:List Int} {k:Int} (h:VisOK l s):VisOK l (visits (getI k l) s):=foldl_visit_ok _ h (fun e he=>getI_ents he)
theorem foldl_visit_pre:∀(es:List Entry) (s:List Int),∃t,es.foldl visit s=s++t
 | [],s=>⟨[],by simp⟩
 |e::es,s=>by
  simp only[List.foldl_cons];obtain⟨t,ht⟩:=foldl_visit_pre es (visit s e);unfold visit at ht⊢;split at ht
  ·rename_i h;rw[if_pos h];exact⟨t,ht⟩
  ·rename_i h;rw[if_neg h];exact⟨e.ino::t,by rw[ht];simp⟩
theorem foldl_visit_len (es:List Entry) (s:List Int):(es.foldl visit s).length≤s.length+es.length:=by
 induction es generalizing s with
 |nil=>simp
 |cons e es ih=>
  simp only[List.foldl_cons,List.length_cons];have:=ih (visit s e);have h2:(visit s e).length≤s.length+1:=by unfold visit;split<;>simp
  omega
theorem fifth_L11 {R:Type} {x:Inode} {s:List Int} {j:Nat} {e:Entry} {k4:Bool→Option R} (he:x.entries[j]? =some e) (hl:s.length≤1099511627775):ref07_fifth_L11 (j:Int) s x k4 FUEL false (0:Int)=k4 (decide (e.ino∈s)):=by
 refine loop_post (l:=s) (fun m i (b:Bool)=>ref07_fifth_L11 (j:Int) s x k4 m b i) (fun k b=>b=decide (e.ino∈s.take k)) (fun r=>r=k4 (decide (e.ino∈s))) hl (fun m k y b hk hy hi hr=> ?_) (fun m b hi=> ?_) false (by simp)
 ·simp only[ref07_fifth_L11]
  have ht:decide (e.ino∈s.take (k+1))=(decide (e.ino∈s.take k)||decide (y=e.ino)):=by
   rw[List.take_add_one,hy,Bool.eq_iff_iff];simp only[Option.toList_some,List.mem_append,List.mem_singleton,Bool.or_eq_true,decide_eq_true_eq];exact or_congr_right ⟨fun h=>h.symm,fun h=>h.symm⟩
  rw[dec_lt hk,bcase_true,wrap_succ (by omega)];cases b
  ·rw[bcase_false,dec_in hk,bcase_true,toNat_cast,hy,ocase_some',dec_nn,bcase_true,toNat_cast,he,ocase_some',beqI]
   refine hr _ ?_;rw[ht,←hi,Bool.false_or]
  ·rw[bcase_true]
   refine hr _ ?_;rw[ht,←hi];simp
 ·simp only[ref07_fifth_L11]
  rw[List.take_length] at hi;rw[dec_ge (Nat.le_refl _),bcase_false,hi]
theorem fifth_L7 {R:Type} {x:Inode} {s:List Int} {k2:List Int→Option R} (hl:s.length+x.entries.length≤1073741824):ref07_fifth_L7 x k2 FUEL (0:Int) s=k2 (visits x s):=by
 unfold visits;refine loop_post (l:=x.entries) (fun m i (t:List Int)=>ref07_fifth_L7 x k2 m i t) (fun k t=>t=(x.entries.take k).foldl visit s) (fun r=>r=k2 (x.entries.foldl visit s)) (by omega) (fun m k e t hk he hi hr=> ?_) (fun m t hi=> ?_) s (by simp)
 ·simp only[ref07_fifth_L7]
  have hlen:=foldl_visit_len (x.entries.take k) s;have hk':(x.entries.take k).length≤x.entries.length:=by simp;omega
  rw[←hi] at hlen;have ht:(x.entries.take (k+1)).foldl visit s=visit t e:=by
   rw[List.take_add_one,he,List.foldl_append,←hi];rfl
  rw[dec_lt hk,bcase_true,fifth_L11 he (by omega),wrap_succ (by omega),dec_nn,toNat_cast,he];simp only[bcase_true,ocase_some'];by_cases hm:e.ino∈t
  ·rw[bc_f (by simp [hm])]
   refine hr _ ?_;rw[ht];unfold visit;rw[if_pos hm]
  ·rw[bc_t (by simp [hm]),lcase_le (by unfold LIM;simp;omega)]
   refine hr _ ?_;rw[ht];unfold visit;rw[if_neg hm]
 ·simp only[ref07_fifth_L7]
  rw[List.take_length] at hi;rw[dec_ge (Nat.le_refl _),bcase_false,hi]
theorem fifth_L3 {f:Fs} (h:SmF f) (ht:(allInos f.inodes).length≤536870912) (k0:List Int→Option Bool):∀(m n i:Nat) (s:List Int),VisOK f.inodes s→i≤s.length→(allInos f.inodes).length+1 - i≤m→(allInos f.inodes).length+1 - i<n→
 ref07_fifth_L3 f k0 n (i:Int) s=k0 (roundsL f.inodes m i s):=by
 intro m;induction m with
 |zero=>
  intro n i s hv hi hm hn;have:=hv.len;omega
 |succ m ih=>
  intro n i s hv hi hm hn;cases n with
  |zero=>omega
  |succ n=>
   have hlen:=hv.len;simp only[ref07_fifth_L3,roundsL];by_cases hlt:i<s.length
   ·rw[dec_lt hlt,bcase_true,dec_in hlt,bcase_true,toNat_cast,List.getElem?_eq_getElem hlt,ocase_some',ref05_Get_eq h.len,ocase_some']
    have hents:(getI s[i] f.inodes).entries.length≤536870912:=by
     unfold getI;cases hf:findI s[i] f.inodes with
     |none=>simp [zeroI]
     |some x=>
      have hx:=(findK_some hf).1;simp only[Option.getD_some];have h1:x.entries.length≤(f.inodes.flatMap fun x=>x.entries.map Entry.ino).length:=by
       obtain⟨a,b,e⟩:=List.append_of_mem hx;rw[e];simp only[List.flatMap_append,List.flatMap_cons,List.length_append,List.length_map];omega
      unfold allInos at ht;simp only[List.length_cons] at ht;omega
    rw[fifth_L7 (by simp only;omega),wrap_succ (by omega)];have hv':=visits_ok (k:=s[i]) hv;obtain⟨t,htt⟩:=foldl_visit_pre (getI s[i] f.inodes).entries s;refine ih n (i+1) _ hv' ?_ (by omega) (by omega);unfold visits;rw[htt];simp;omega
   ·rw[dec_ge (by omega),bcase_false,List.getElem?_eq_none (by omega)]
theorem visOK1 (l:List Inode):VisOK l [1]:=⟨by simp,fun x hx=>by simp at hx;subst hx;simp [allInos]⟩
theorem ref07_fifth_eq {f:Fs} (h:SmF f) (ht:(allInos f.inodes).length≤536870912):ref07_fifth f=some (fifthB f):=by
 unfold ref07_fifth fifthB ledL;have:=fifth_L3 h ht (fun z34=>some ((List.length z34:Int)==(List.length f.inodes:Int))) ((allInos f.inodes).length+1) FUEL 0 [1] (visOK1 _) (Nat.zero_le _) (by omega) (by have:=FUEL_ge;omega);refine this.trans ?_;rw[beqI];congr 1;rw[decide_eq_decide];omega
def checkF (f:Fs):Int:=if firstB f then (if secondB f then (if thirdB f then (if fourthB f then (if fifthB f then (if fitsI f 0 0 then 0 else 6) else 5) else 4) else 3) else 2) else 1
def okF (f:Fs):Bool:=fewF f&&decide (checkF f=0)
theorem allInos_le {N:Nat} {l:List Inode} (h:∀x∈l,x.entries.length≤N):(allInos l).length≤l.length*N+1:=by
 unfold allInos;rw[List.length_cons];have:(l.flatMap fun x=>x.entries.map Entry.ino).length≤l.length*N:=by
  induction l with
  |nil=>simp
  |cons x l ih=>
   have h1:=ih (fun y hy=>h y (by simp [hy]));have h2:=h x (by simp);simp only[List.flatMap_cons,List.length_append,List.length_map,List.length_cons,Nat.succ_mul];omega
 omega
theorem ref07_Check_eq {f:Fs} (h:SmF f) (ht:(allInos f.inodes).length≤536870912):ref07_Check f=some (checkF f):=by
 unfold ref07_Check checkF;rw[ref07_first_eq h.len,ref07_second_eq h,ref07_third_eq h,ref07_fourth_eq h,ref07_fifth_eq h ht,ref06_Fits_eq h (by unfold Far;omega) (by unfold Far;omega)];simp only[ocase_some'];cases firstB f
 ·rfl
 ·cases secondB f
  ·rfl
  ·cases thirdB f
   ·rfl
   ·cases fourthB f
    ·rfl
    ·cases fifthB f
     ·rfl
     ·cases fitsI f 0 0<;>rfl
theorem few_all {f:Fs} (h:fewF f=true):(allInos f.inodes).length≤1601:=by
 obtain⟨h1,h2⟩:=fewF_sm h;have:=allInos_le (N:=40) (fun x hx=>(h2 x hx).2.1);have:f.inodes.length*40≤40*40:=Nat.mul_le_mul_right _ h1;omega
theorem ref07_Ok_eq {f:Fs} (hl:f.inodes.length≤1073741824) (he:∀x∈f.inodes,x.entries.length≤1073741824):ref07_Ok f=some (okF f):=by
 unfold ref07_Ok okF;rw[ref05_Few_eq hl he,ocase_some'];cases h:fewF f
 ·rfl
 ·rw[bcase_true,ref07_Check_eq (SmF.of_few h) (by have:=few_all h;omega),ocase_some',beqI];rfl
structure Sound (f:Fs):Prop where
 maxI:1≤f.maxInodes∧f.maxInodes≤1073741824
 maxB:0≤f.maxBytes∧f.maxBytes≤1073741824
 next:f.next≤1099511627776
 ino:∀x∈f.inodes,1≤x.ino∧x.ino<f.next
 sort:SortI f.inodes
 root:∃r,findI 1 f.inodes=some r∧r.kind=2
 kind:∀x∈f.inodes,kindB x=true
 there:∀x∈f.inodes,∀e∈x.entries,∃y,findI e.ino f.inodes=some y
 link:∀x∈f.inodes,linkB f x=true
 led:(ledL f.inodes).length=f.inodes.length
 fits:fitsI f 0 0=true
theorem checkF_iff (f:Fs):checkF f=0↔Sound f:=by
 unfold checkF;constructor
 ·intro h
  split at h
  ·rename_i h1
   split at h
   ·rename_i h2
    split at h
    ·rename_i h3
     split at h
     ·rename_i h4
      split at h
      ·rename_i h5
       split at h
       ·rename_i h6
        unfold firstB at h1;simp only[Bool.and_eq_true,decide_eq_true_eq,List.all_eq_true] at h1;obtain⟨⟨a1,a2,a3,a4,a5⟩,a6,a7,a8,a9⟩:=h1;obtain⟨r,hr⟩:=Option.isSome_iff_exists.1 a8;refine⟨⟨a1,a2⟩,⟨a3,a4⟩,a5,a6,(riseB_iff _).1 a7,⟨r,hr, ?_⟩, ?_, ?_, ?_, ?_,h6⟩
        ·unfold getI at a9;rw[hr] at a9;exact a9
        ·unfold secondB at h2;simpa [List.all_eq_true] using h2
        ·unfold thirdB at h3
         simp only[List.all_eq_true] at h3;exact fun x hx e he=>Option.isSome_iff_exists.1 (h3 x hx e he)
        ·unfold fourthB at h4;simpa [List.all_eq_true] using h4
        ·unfold fifthB at h5;simpa using h5
       ·simp at h
      ·simp at h
     ·simp at h
    ·simp at h
   ·simp at h
  ·simp at h
 ·intro h
  obtain⟨r,hr,hk⟩:=h.root;have h1:firstB f=true:=by
   unfold firstB;simp only[Bool.and_eq_true,decide_eq_true_eq,List.all_eq_true];refine⟨⟨h.maxI.1,h.maxI.2,h.maxB.1,h.maxB.2,h.next⟩,h.ino,(riseB_iff _).2 h.sort,by rw[hr];rfl,by unfold getI;rw[hr];exact hk⟩
  have h2:secondB f=true:=by unfold secondB;rw[List.all_eq_true];exact h.kind
  have h3:thirdB f=true:=by
   unfold thirdB;simp only[List.all_eq_true];exact fun x hx e he=>Option.isSome_iff_exists.2 (h.there x hx e he)
  have h4:fourthB f=true:=by unfold fourthB;rw[List.all_eq_true];exact h.link
  have h5:fifthB f=true:=by unfold fifthB;rw[decide_eq_true_eq];exact h.led
  rw[if_pos h1,if_pos h2,if_pos h3,if_pos h4,if_pos h5,if_pos h.fits]
theorem okF_iff (f:Fs):okF f=true↔fewF f=true∧Sound f:=by
 unfold okF;rw[Bool.and_eq_true,decide_eq_true_eq,checkF_iff]
end Go.Eng
set_option linter.unusedSimpArgs false
set_option linter.unusedVariables false
namespace Go.Eng
open Go
def splitN:Str→Str→List Str×Str
 |cur, [] =>([],cur)
 |cur,c::s=>if c=47 then (if cur= [] then splitN [] s else (cur::(splitN [] s).1,(splitN [] s).2)) else splitN (cur++[c]) s
def withLast (r:List Str×Str):List Str:=if r.2= [] then r.1 else r.1++[r.2]
def namesP (s:Str):List Str:=withLast (splitN [] s)
def joinP (l:List Str):Str:=if l= [] then [47] else l.flatMap fun x=>47::x
def longP (s:Str):Bool:=(namesP s).any (fun x=>decide (255<x.length))||decide (4095<s.length)
def plainP (s:Str):List Str×Bool:=if joinP (namesP s)=s∧(namesP s).all mayN=true then (namesP s,true) else ([],false)
def readP (s:Str):Pth:=⟨s.take 1==[47],namesP s, !(namesP s).isEmpty&&(s.drop (s.length - 1)==[47])⟩
theorem splitN_app:∀(a cur b:Str),(∀x∈a,x≠47)→splitN cur (a++47::b)=if cur++a= [] then splitN [] b else ((cur++a)::(splitN [] b).1,(splitN [] b).2)
 | [],cur,b,_=>by simp [splitN]
 |c::a,cur,b,h=>by
  have hc:¬c=47:=h c (by simp);simp only[List.cons_append,splitN,if_neg hc];rw[splitN_app a (cur++[c]) b (fun x hx=>h x (by simp [hx]))];simp
theorem splitN_none:∀(a cur:Str),(∀x∈a,x≠47)→splitN cur a=([],cur++a)
 | [],cur,_=>by simp [splitN]
 |c::a,cur,h=>by
  have hc:¬c=47:=h c (by simp);simp only[splitN,if_neg hc];rw[splitN_none a (cur++[c]) (fun x hx=>h x (by simp [hx]))];simp
theorem indexByte_spec (c:UInt8):∀l:Str,((∀x∈l,x≠c)∧Lib.indexByte l c= -1)∨∃a b,l=a++c::b∧(∀x∈a,x≠c)∧Lib.indexByte l c=a.length
 | [] =>Or.inl ⟨by simp,rfl⟩
 |x::l=>by
  unfold Lib.indexByte;by_cases h:x=c
  ·subst h;right;exact⟨[],l,rfl,by simp,by simp⟩
  ·have hb:(x==c)=false:=by rw[beq_eq_false_iff_ne];exact h
   rw[hb];simp only[Bool.false_eq_true,if_false];rcases indexByte_spec c l with⟨h1,h2⟩ |⟨a,b,h1,h2,h3⟩
   ·left
    refine⟨fun y hy=> ?_,by rw[h2];rfl⟩;simp only[List.mem_cons] at hy;rcases hy with rfl|hy
    ·exact h
    ·exact h1 y hy
   ·right
    refine⟨x::a,b,by rw[h1];rfl,fun y hy=> ?_, ?_⟩
    ·simp only[List.mem_cons] at hy
     rcases hy with rfl|hy
     ·exact h
     ·exact h2 y hy
    ·rw[h3]
     have:((a.length:Int)== -1)=false:=by rw[beq_eq_false_iff_ne];omega
     rw[this];simp
theorem splitN_len:∀(s cur:Str),(splitN cur s).1.length≤s.length∧(splitN cur s).2.length≤cur.length+s.length∧(withLast (splitN cur s)).flatten.length+(withLast (splitN cur s)).length≤cur.length+s.length+1
 | [],cur=>by
  simp only[splitN,withLast,List.length_nil];by_cases h:cur= []
  ·subst h;simp
  ·simp [h]
 |c::s,cur=>by
  simp only[splitN];by_cases hc:c=47
  ·rw[if_pos hc]
   obtain⟨h1,h2,h3⟩:=splitN_len s [];by_cases hcur:cur= []
   ·rw[if_pos hcur]
    simp only[List.length_nil,List.length_cons] at*;exact⟨by omega,by omega,by omega⟩
   ·rw[if_neg hcur]
    simp only[List.length_nil,List.length_cons] at*;refine⟨by omega,by omega, ?_⟩;have e:withLast (cur::(splitN [] s).1,(splitN [] s).2)=cur::withLast (splitN [] s):=by
     unfold withLast;simp only;split<;>simp
    rw[e];simp only[List.flatten_cons,List.length_append,List.length_cons];have hcl:0<cur.length:=List.length_pos_iff.2 hcur;omega
  ·rw[if_neg hc]
   obtain⟨h1,h2,h3⟩:=splitN_len s (cur++[c]);simp only[List.length_append,List.length_singleton,List.length_cons,List.length_nil] at*;exact⟨by omega,by omega,by omega⟩
theorem namesP_len (s:Str):(namesP s).flatten.length+(namesP s).length≤s.length+1:=by
 have:=(splitN_len s []).2.2;simp only[List.length_nil,Nat.zero_add] at this;exact this
theorem mem_flatten_len {l:List Str} {x:Str} (h:x∈l):x.length≤l.flatten.length:=by
 induction l with
 |nil=>cases h
 |cons y l ih=>
  simp only[List.mem_cons] at h;simp only[List.flatten_cons,List.length_append];rcases h with rfl|h
  ·omega
  ·have:=ih h;omega
theorem namesP_mem_len {s x:Str} (h:x∈namesP s):x.length≤s.length:=by
 have h1:=namesP_len s;have h2:=mem_flatten_len h;have h3:0<(namesP s).length:=List.length_pos_of_mem h;omega
theorem flatMap_len:∀l:List Str,(l.flatMap fun x=>47::x).length=l.flatten.length+l.length
 | [] =>rfl
 |x::l=>by simp [List.flatMap_cons,List.length_append,flatMap_len l];omega
theorem ref03_Names_eq {s:Str} (hl:s.length≤1073741824):ref03_Names s=some (namesP s):=by
 unfold ref03_Names;have key:∀(n k:Nat) (cur:Str) (acc:List Str),k≤s.length→s.length+1 - k<n→cur.length≤k→acc.length≤k→ref03_Names_L4 s (fun z7=>some z7) n cur (k:Int) acc=some (acc++withLast (splitN cur (s.drop k))):=by
  intro n;induction n with
  |zero=>intro k _ _ _ h;omega
  |succ n ih=>
   intro k cur acc hk hn hcur hacc;simp only[ref03_Names_L4];have e1:decide ((k:Int)≤(List.length s:Int))=true:=by simp;omega
   rw[e1,bcase_true];by_cases h:k<s.length
   ·obtain⟨c,hc,hd⟩:=at_step h
    rw[dec_lt h,bcase_true,dec_nn,bcase_true,toNat_cast,hc,ocase_some',hd];simp only[splitN];by_cases h47:c=47
    ·subst h47
     have e2:((UInt8.toNat (47:UInt8):Int) !=(47:Int))=false:=by decide
     rw[e2,bcase_false,if_pos rfl,wrap_succ (by omega)];by_cases hc0:cur= []
     ·subst hc0
      have e3:(!(([] :Str)==([] :Str)))=false:=rfl;rw[e3,bcase_false,if_pos rfl];exact ih (k+1) [] acc (by omega) (by omega) (by simp) (by omega)
     ·have e3:(!(cur==([] :Str)))=true:=by simp [hc0]
      rw[e3,bcase_true,if_neg hc0,lcase_le (by unfold LIM;simp;omega),ih (k+1) [] (acc++[cur]) (by omega) (by omega) (by simp) (by simp;omega)];unfold withLast;simp only;split<;>simp
    ·have e2:((UInt8.toNat c:Int) !=(47:Int))=true:=by
      rw[bne_iff_ne];intro e;apply h47;have:=beq_byteI c 47 (by omega);rw[e] at this;simpa using this
     rw[e2,bcase_true,if_neg h47,wrap_succ (by omega)];have e4:(s.take (k+1)).drop k=[c]:=by
      have e9:=(List.getElem?_eq_some_iff.1 hc);rw[List.take_add_one,hc];have:(s.take k).length=k:=by simp;omega
      rw[List.drop_append_of_le_length (by omega),List.drop_eq_nil_of_le (by omega)];rfl
     simp only[toNat_cast];rw[bc_t (by simp;omega),bc_t (by simp;omega),e4,lcase_le (by unfold LIM;simp;omega)];exact ih (k+1) (cur++[c]) acc (by omega) (by omega) (by simp;omega) (by omega)
   ·have hkl:k=s.length:=by omega
    subst hkl;rw[dec_ge (Nat.le_refl _),bcase_false,List.drop_length,wrap_succ (by omega)];simp only[splitN,withLast];have ex:∀acc:List Str,ref03_Names_L4 s (fun z7=>some z7) n ([] :Str) ((s.length+1:Nat):Int) acc=some acc:=by
     intro acc;cases n with
     |zero=>omega
     |succ n=>
      simp only[ref03_Names_L4];have:decide (((s.length+1:Nat):Int)≤(List.length s:Int))=false:=by simp;omega
      rw[this,bcase_false]
    by_cases hc0:cur= []
    ·subst hc0
     have e3:(!(([] :Str)==([] :Str)))=false:=rfl;rw[e3,bcase_false,ex];simp
    ·have e3:(!(cur==([] :Str)))=true:=by simp [hc0]
     rw[e3,bcase_true,lcase_le (by unfold LIM;simp;omega),ex];simp [hc0]
 have:=key FUEL 0 [] [] (Nat.zero_le _) (by have:=FUEL_ge;omega) (by simp) (by simp);simpa [namesP] using this
theorem ref03_Join_eq {l:List Str} (hl:l.flatten.length+l.length≤1073741824):ref03_Join l=some (joinP l):=by
 unfold ref03_Join joinP;by_cases h0:l= []
 ·subst h0;rfl
 ·rw[bc_f (by simp [h0]),if_neg h0]
  refine loop_post (l:=l) (fun n i s=>ref03_Join_L5 l (fun z6=>some z6) n s i) (fun k s=>s=(l.take k).flatMap fun x=>47::x) (fun r=>r=some (l.flatMap fun x=>47::x)) (by omega) (fun n k x s hk hx hi hr=> ?_) (fun n s hi=> ?_) [] (by simp)
  ·simp only[ref03_Join_L5]
   have hs:s.length≤1073741824:=by
    subst hi;rw[flatMap_len];have h1:(l.take k).flatten.length≤l.flatten.length:=by
     conv=>rhs;rw[←List.take_append_drop k l]
     rw[List.flatten_append,List.length_append];omega
    have h2:(l.take k).length≤l.length:=by simp;omega
    omega
   have hxl:=mem_flatten_len (List.mem_of_getElem? hx);rw[dec_lt hk,bcase_true,lcase_le (by unfold LIM;simp;omega),dec_nn,bcase_true,toNat_cast,hx,ocase_some',lcase_le (by unfold LIM;simp;omega),wrap_succ (by omega)];refine hr _ ?_;rw[List.take_add_one,hx,hi];simp
  ·simp only[ref03_Join_L5]
   rw[dec_ge (Nat.le_refl _),bcase_false];rw[List.take_length] at hi;rw[hi]
theorem join_joinP {l:List Str} (h:l≠ []):([47]:Str)++Lib.join l [47]=l.flatMap fun x=>47::x:=by
 cases l with
 |nil=>exact absurd rfl h
 |cons x r=>
  rw[Lib.join_cons];simp [Lib.joinTail,List.flatMap_cons,List.flatMap_def]
theorem path_Join_eq {l:List Str} (hl:l.flatten.length+l.length≤16777216):path_Join l=some (joinP l):=by
 unfold path_Join joinP;by_cases h0:l= []
 ·subst h0;rfl
 ·have e:=join_joinP h0
  have hlen:(Lib.join l [47]).length+1=l.flatten.length+l.length:=by rw[←flatMap_len,←e];simp
  rw[bc_f (by simp [h0]),if_neg h0];unfold strings_Join;rw[if_pos (by omega),ocase_some',lcase_le (by unfold LIM;simp;omega),e]
theorem longs_loop {l:List Str} {p:Bool} (hl:l.length≤1073741824):ref03_Long_L3 l (some true) (some p) FUEL (0:Int)=some (l.any (fun x=>decide (255<x.length))||p):=by
 refine(loop_all (l:=l) (fun n i (_:Unit)=>ref03_Long_L3 l (some true) (some p) n i) (fun k (x:Str) s K=>if decide (255<x.length) then some true else K s) (fun _=>some p) (by omega) (fun n k x u hk hx=> ?_) (fun n u=> ?_) ()).trans ?_
 ·simp only[ref03_Long_L3]
  rw[dec_lt hk,dec_nn,toNat_cast,hx,wrap_succ (by omega)];simp only[bcase_true,ocase_some',bcase_ite,if_true];have:decide ((List.length x:Int)>(255:Int))=decide (255<x.length):=by rw[decide_eq_decide];omega
  rw[this]
 ·simp only[ref03_Long_L3]
  rw[dec_ge (Nat.le_refl _)];rfl
 ·rw[any_fold (fun x:Str=>decide (255<x.length)) _ _ (some true) (fun k x=>rfl)]
  cases l.any (fun x=>decide (255<x.length))<;>rfl
theorem ref03_Long_eq {s:Str} (hl:s.length≤1073741823):ref03_Long s=some (longP s):=by
 unfold ref03_Long;have:=namesP_len s;rw[ref03_Names_eq (by omega),ocase_some',longs_loop (by omega)];unfold longP;have:decide ((List.length s:Int)>(4095:Int))=decide (4095<s.length):=by rw[decide_eq_decide];omega
 rw[this]
theorem all_fold' {α R:Type} (p:α→Bool) (kr k0:Option R):∀(l:List α) (k:Nat) (s:Unit),foldG (fun _ x s K=>if !p x then kr else K s) (fun _=>k0) k l s=if l.all p then k0 else kr
 | [],_,_=>rfl
 |x::l,k,s=>by
  by_cases h:p x=true
  ·have e:(x::l).all p=l.all p:=by simp [h]
   rw[e];simp only[foldG];rw[if_neg (by simp [h])];exact all_fold' p kr k0 l (k+1) s
  ·have e:(x::l).all p=false:=by simp [h]
   rw[e];simp [foldG,h]
theorem mays_loop {R:Type} {l:List Str} (kr k0:Option R) (hl:l.length≤1073741824) (hx:∀x∈l,x.length≤1099511627775):ref03_Plain_L3 l kr k0 FUEL (0:Int)=if l.all mayN then k0 else kr:=by
 refine(loop_all (l:=l) (fun n i (_:Unit)=>ref03_Plain_L3 l kr k0 n i) (fun k (x:Str) s K=>if !mayN x then kr else K s) (fun _=>k0) (by omega) (fun n k x u hk hx'=> ?_) (fun n u=> ?_) ()).trans ?_
 ·simp only[ref03_Plain_L3]
  rw[dec_lt hk,dec_nn,toNat_cast,hx',wrap_succ (by omega)];simp only[bcase_true,ocase_some',bcase_ite,if_true];rw[ref03_May_eq (hx x (List.mem_of_getElem? hx'))];simp only[ocase_some']
 ·simp only[ref03_Plain_L3]
  rw[dec_ge (Nat.le_refl _)];rfl
 ·exact all_fold' mayN _ _ _ _ _
theorem ref03_Plain_eq {s:Str} (hl:s.length≤1073741823):ref03_Plain s=some (plainP s):=by
 unfold ref03_Plain;have:=namesP_len s;rw[ref03_Names_eq (by omega),ocase_some',mays_loop _ _ (by omega) (fun x hx=>by have:=namesP_mem_len hx;omega),ref03_Join_eq (by omega),ocase_some'];unfold plainP;by_cases h1:(namesP s).all mayN=true
 ·rw[if_pos h1]
  by_cases h2:joinP (namesP s)=s
  ·rw[bc_f (by simp [h2]),if_pos ⟨h2,h1⟩]
  ·rw[bc_t (by simp [h2]),if_neg (fun h=>h2 h.1)]
 ·rw[if_neg h1,if_neg (fun h=>h1 h.2)]
theorem plain_loop {R:Type} (k2:Str→List Str→Option R):∀(n:Nat) (s:Str) (acc:List Str),s.length<n→s.length≤1073741823→acc.length+s.length≤1073741824→
 path_Plain_7_4_1000003_1000003_L5 k2 n s acc=k2 (splitN [] s).2 (acc++(splitN [] s).1):=by
 intro n;induction n with
 |zero=>intro s acc h;omega
 |succ n ih=>
  intro s acc hn hl hacc;simp only[path_Plain_7_4_1000003_1000003_L5];by_cases h1:s=[47]
  ·subst h1
   rw[bc_t (by rfl),bc_t (by decide),bc_f (by rfl),bc_t (by decide)];show path_Plain_7_4_1000003_1000003_L5 k2 n [] acc=_;have hn':1<n+1:=hn;rw[ih [] acc (by simp;omega) (by simp) (by simp at hacc⊢;omega)];rfl
  ·rw[bc_f (by rw[beq_eq_false_iff_ne];exact fun e=>h1 e.symm)]
   unfold stringslite_IndexByte;have e47:((47:Int).toNat.toUInt8)=47:=rfl;rw[ocase_some',e47];rcases indexByte_spec 47 s with⟨h2,h3⟩ |⟨a,b,h2,h3,h4⟩
   ·rw[h3,bc_t (by decide),splitN_none s [] h2];simp
   ·have hsl:s.length=a.length+(b.length+1):=by rw[h2];simp
    rw[h4,bc_f (by simp)];have e0:IntKind.i64.wrap ((a.length:Int)+0)=(a.length:Int):=by rw[wrap_id (by omega) (by omega)];omega
    rw[e0,wrap_succ (by omega)];simp only[toNat_cast];have e1:s.take a.length=a:=by rw[h2];simp
    have e2:s.drop (a.length+1)=b:=by rw[h2];simp
    rw[e1,e2,bc_t (by simp;omega)];have hsp:=splitN_app a [] b h3;rw[←h2,List.nil_append] at hsp;rw[hsp];by_cases ha:a= []
    ·rw[bc_f (by simp [ha]),bc_t (by simp;omega),ih b acc (by omega) (by omega) (by omega),if_pos ha]
    ·rw[bc_t (by simp [ha]),lcase_le (by unfold LIM;simp;omega),bc_t (by simp;omega),ih b (acc++[a]) (by omega) (by omega) (by simp;omega),if_neg ha]
     simp
theorem plain_mays {R:Type} {l:List Str} (kr:Int→Option R) (k0:Option R) (hl:l.length≤1073741824) (hx:∀x∈l,x.length≤1099511627775) (r:Option R) (hr:∀k:Nat,kr (k:Int)=r):path_Plain_14_7_L2 (List.length l:Int) l kr k0 FUEL (0:Int)=if l.all mayN then k0 else r:=by
 refine(loop_all (l:=l) (fun n i (_:Unit)=>path_Plain_14_7_L2 (List.length l:Int) l kr k0 n i) (fun k (x:Str) s K=>if !mayN x then r else K s) (fun _=>k0) (by omega) (fun n k x u hk hx'=> ?_) (fun n u=> ?_) ()).trans ?_
 ·simp only[path_Plain_14_7_L2]
  rw[dec_lt hk,dec_in hk,toNat_cast,hx',wrap_succ (by omega)];simp only[bcase_true,ocase_some',bcase_ite,if_true];rw[path_May_eq (hx x (List.mem_of_getElem? hx')),hr];simp only[ocase_some']
 ·simp only[path_Plain_14_7_L2]
  rw[dec_ge (Nat.le_refl _)];rfl
 ·exact all_fold' mayN _ _ _ _ _
theorem path_Plain_eq {s:Str} (hl:s.length≤8388608):path_Plain s=some (plainP s):=by
 unfold path_Plain;rw[plain_loop _ FUEL s [] (by have:=FUEL_ge;omega) (by omega) (by simp;omega)];have h1:=namesP_len s;have h2:∀l,l=namesP s→(ocase (path_Join l) fun y10=>bcase (!(y10==s)) (some (([] :List Str),false)) (path_Plain_14_7_L2 (List.length l:Int) l (fun z22=>bcase (decide (z22≥(0:Int))) (some (([] :List Str),false)) (some (l,true))) (some (l,true)) FUEL (0:Int)))=some (plainP s):=by
  rintro l rfl;rw[path_Join_eq (by omega),ocase_some',plain_mays _ _ (by omega) (fun x hx=>by have:=namesP_mem_len hx;omega) (some ([],false)) (fun k=>by rw[bc_t (by simp)])];unfold plainP;by_cases h2:joinP (namesP s)=s
  ·rw[bc_f (by simp [h2])]
   by_cases h1:(namesP s).all mayN=true
   ·rw[if_pos h1,if_pos ⟨h2,h1⟩]
   ·rw[if_neg h1,if_neg (fun h=>h1 h.2)]
  ·rw[bc_t (by simp [h2]),if_neg (fun h=>h2 h.1)]
 have hs:=splitN_len s [];simp only[List.nil_append];by_cases h0:(splitN [] s).2= []
 ·rw[bc_f (by simp [h0])]
  exact h2 _ (by unfold namesP withLast;rw[if_pos h0])
 ·rw[bc_t (by simp [h0]),lcase_le (by unfold LIM;simp;omega)]
  exact h2 _ (by unfold namesP withLast;rw[if_neg h0])
theorem long_loop (k2:Str→Option Bool):∀(n:Nat) (s:Str),s.length<n→s.length≤1073741823→
 path_Long_1000003_1000003_L5 (some true) k2 n s=if (splitN [] s).1.any (fun x=>decide (255<x.length)) then some true else k2 (splitN [] s).2:=by
 intro n;induction n with
 |zero=>intro s h;omega
 |succ n ih=>
  intro s hn hl;simp only[path_Long_1000003_1000003_L5];by_cases h1:s=[47]
  ·subst h1
   rw[bc_t (by rfl),bc_t (by decide),bc_f (by rfl),bc_t (by decide)];show path_Long_1000003_1000003_L5 (some true) k2 n [] =_;have hn':1<n+1:=hn;rw[ih [] (by simp;omega) (by simp)];rfl
  ·rw[bc_f (by rw[beq_eq_false_iff_ne];exact fun e=>h1 e.symm)]
   unfold stringslite_IndexByte;have e47:((47:Int).toNat.toUInt8)=47:=rfl;rw[ocase_some',e47];rcases indexByte_spec 47 s with⟨h2,h3⟩ |⟨a,b,h2,h3,h4⟩
   ·rw[h3,bc_t (by decide),splitN_none s [] h2];simp
   ·have hsl:s.length=a.length+(b.length+1):=by rw[h2];simp
    rw[h4,bc_f (by simp)];have e0:IntKind.i64.wrap ((a.length:Int)+0)=(a.length:Int):=by rw[wrap_id (by omega) (by omega)];omega
    rw[e0,wrap_succ (by omega)];simp only[toNat_cast];have e1:s.take a.length=a:=by rw[h2];simp
    have e2:s.drop (a.length+1)=b:=by rw[h2];simp
    rw[e1,e2,bc_t (by simp;omega)];have hsp:=splitN_app a [] b h3;rw[←h2,List.nil_append] at hsp;rw[hsp];by_cases ha:a= []
    ·rw[bc_f (by simp [ha]),bc_t (by simp;omega),ih b (by omega) (by omega),if_pos ha]
    ·rw[bc_t (by simp [ha]),if_neg ha]
     simp only[List.any_cons];by_cases hlen:255<a.length
     ·rw[bc_t (by simp;omega)];simp [hlen]
     ·rw[bc_f (by simp;omega),bc_t (by simp;omega),ih b (by omega) (by omega)];simp [hlen]
theorem path_Long_eq {s:Str} (hl:s.length≤1073741823):path_Long s=some (longP s):=by
 unfold path_Long;rw[long_loop _ FUEL s (by have:=FUEL_ge;omega) hl];have e9:decide ((List.length s:Int)>(4095:Int))=decide (4095<s.length):=by rw[decide_eq_decide];omega
 rw[e9];unfold longP namesP withLast;by_cases h0:(splitN [] s).2= []
 ·rw[bc_f (by simp [h0]),if_pos h0]
  cases (splitN [] s).1.any (fun x=>decide (255<x.length))<;>simp
 ·rw[bc_t (by simp [h0]),if_neg h0]
  simp only[List.any_append,List.any_cons,List.any_nil,Bool.or_false];by_cases h5:255<(splitN [] s).2.length
  ·rw[bc_t (by simp;omega)]
   cases (splitN [] s).1.any (fun x=>decide (255<x.length))<;>simp [h5]
  ·rw[bc_f (by simp;omega)]
   cases (splitN [] s).1.any (fun x=>decide (255<x.length))<;>simp [h5]
theorem read_loop {R:Type} (k2:Str→List Str→Option R):∀(n:Nat) (s:Str) (acc:List Str),s.length<n→s.length≤1073741823→acc.length+s.length≤1073741824→
 path_Read_6_4_1000003_1000003_L5 k2 n s acc=k2 (splitN [] s).2 (acc++(splitN [] s).1):=by
 intro n;induction n with
 |zero=>intro s acc h;omega
 |succ n ih=>
  intro s acc hn hl hacc;simp only[path_Read_6_4_1000003_1000003_L5];by_cases h1:s=[47]
  ·subst h1
   rw[bc_t (by rfl),bc_t (by decide),bc_f (by rfl),bc_t (by decide)];show path_Read_6_4_1000003_1000003_L5 k2 n [] acc=_;have hn':1<n+1:=hn;rw[ih [] acc (by simp;omega) (by simp) (by simp at hacc⊢;omega)];rfl
  ·rw[bc_f (by rw[beq_eq_false_iff_ne];exact fun e=>h1 e.symm)]
   unfold stringslite_IndexByte;have e47:((47:Int).toNat.toUInt8)=47:=rfl;rw[ocase_some',e47];rcases indexByte_spec 47 s with⟨h2,h3⟩ |⟨a,b,h2,h3,h4⟩
   ·rw[h3,bc_t (by decide),splitN_none s [] h2];simp
   ·have hsl:s.length=a.length+(b.length+1):=by rw[h2];simp
    rw[h4,bc_f (by simp)];have e0:IntKind.i64.wrap ((a.length:Int)+0)=(a.length:Int):=by rw[wrap_id (by omega) (by omega)];omega
    rw[e0,wrap_succ (by omega)];simp only[toNat_cast];have e1:s.take a.length=a:=by rw[h2];simp
    have e2:s.drop (a.length+1)=b:=by rw[h2];simp
    rw[e1,e2,bc_t (by simp;omega)];have hsp:=splitN_app a [] b h3;rw[←h2,List.nil_append] at hsp;rw[hsp];by_cases ha:a= []
    ·rw[bc_f (by simp [ha]),bc_t (by simp;omega),ih b acc (by omega) (by omega) (by omega),if_pos ha]
    ·rw[bc_t (by simp [ha]),lcase_le (by unfold LIM;simp;omega),bc_t (by simp;omega),ih b (acc++[a]) (by omega) (by omega) (by simp;omega),if_neg ha]
     simp
theorem path_Read_eq {s:Str} (hl:s.length≤1073741823):path_Read s=some (readP s):=by
 unfold path_Read;rw[read_loop _ FUEL s [] (by have:=FUEL_ge;omega) hl (by simp;omega)];have hs:=splitN_len s [];simp only[List.nil_append];have fin:∀l:List Str,l=namesP s→(bcase (decide ((List.length s:Int)≥(1:Int))) (
  bcase (decide (0≤(1:Int)∧(1:Int)≤(s.length:Int))) (
  bcase (decide ((List.length l:Int)>(0:Int))) (
  bcase (decide ((List.length s:Int)≥(1:Int))) (
  bcase (decide (0≤(IntKind.i64.wrap ((List.length s:Int) - (1:Int)))∧(IntKind.i64.wrap ((List.length s:Int) - (1:Int)))≤(s.length:Int))) (some (⟨((s.take (Int.toNat (1:Int)))==([47]:Str)),l,((s.drop (Int.toNat (IntKind.i64.wrap ((List.length s:Int) - (1:Int)))))==([47]:Str))⟩:Pth)) (none)) (some (⟨((s.take (Int.toNat (1:Int)))==([47]:Str)),l,false⟩:Pth))) (some (⟨((s.take (Int.toNat (1:Int)))==([47]:Str)),l,false⟩:Pth))) (none)) (
  bcase (decide ((List.length l:Int)>(0:Int))) (
  bcase (decide ((List.length s:Int)≥(1:Int))) (
  bcase (decide (0≤(IntKind.i64.wrap ((List.length s:Int) - (1:Int)))∧(IntKind.i64.wrap ((List.length s:Int) - (1:Int)))≤(s.length:Int))) (some (⟨false,l,((s.drop (Int.toNat (IntKind.i64.wrap ((List.length s:Int) - (1:Int)))))==([47]:Str))⟩:Pth)) (none)) (some (⟨false,l,false⟩:Pth))) (some (⟨false,l,false⟩:Pth))))=some (readP s):=by
  rintro l rfl;unfold readP;by_cases h0:s= []
  ·subst h0;rfl
  ·have hp:0<s.length:=List.length_pos_iff.2 h0
   have e1:IntKind.i64.wrap ((List.length s:Int) - 1)=((s.length - 1:Nat):Int):=by rw[wrap_id (by omega) (by omega)];omega
   have e2:decide ((List.length s:Int)≥(1:Int))=true:=by simp;omega
   rw[e2,bcase_true,bc_t (by simp;omega),e1,toNat_cast];have e3:Int.toNat (1:Int)=1:=rfl;rw[e3];simp only[bcase_true];cases hn:namesP s with
   |nil=>rw[bc_f (by simp)];simp
   |cons x l=>rw[bc_t (by simp),bc_t (by simp)];simp
 by_cases h0:(splitN [] s).2= []
 ·rw[bc_f (by simp [h0])]
  exact fin _ (by unfold namesP withLast;rw[if_pos h0])
 ·rw[bc_t (by simp [h0]),lcase_le (by unfold LIM;simp;omega)]
  exact fin _ (by unfold namesP withLast;rw[if_neg h0])
theorem ref03_Read_eq {s:Str} (hl:s.length≤1073741823):ref03_Read s=some (readP s):=by
 unfold ref03_Read readP;rw[ref03_Names_eq (by omega),ocase_some'];by_cases h0:s= []
 ·subst h0;rfl
 ·have hp:0<s.length:=List.length_pos_iff.2 h0
  have e1:IntKind.i64.wrap ((List.length s:Int) - 1)=((s.length - 1:Nat):Int):=by rw[wrap_id (by omega) (by omega)];omega
  have e3:Int.toNat (0:Int)=0:=rfl;rw[bc_t (by simp;omega),bc_t (by decide),e3,e1,toNat_cast,List.getElem?_eq_getElem hp,ocase_some'];have ht:s.take 1=[s[0]]:=by
   rw[List.take_add_one,List.getElem?_eq_getElem hp];simp
  have hd:s.drop (s.length - 1)=[s[s.length - 1]]:=by
   rw[List.drop_eq_getElem_cons (by omega),List.drop_eq_nil_of_le (by omega)]
  have b1:((UInt8.toNat s[0]:Int)==(47:Int))=(s.take 1==[47]):=by
   rw[ht];have:=beq_byteI s[0] 47 (by omega);have e:((UInt8.toNat s[0]:Int)==(47:Int))=(s[0]==47):=this;rw[e,Bool.eq_iff_iff];simp
  have b2:((UInt8.toNat s[s.length - 1]:Int)==(47:Int))=(s.drop (s.length - 1)==[47]):=by
   rw[hd];have:=beq_byteI s[s.length - 1] 47 (by omega);have e:((UInt8.toNat s[s.length - 1]:Int)==(47:Int))=(s[s.length - 1]==47):=this;rw[e,Bool.eq_iff_iff];simp
  rw[b1];cases hn:namesP s with
  |nil=>rw[bc_f (by simp)];simp
  |cons x l=>
   rw[bc_t (by simp),bc_t (by simp),List.getElem?_eq_getElem (by omega),ocase_some',b2];simp
end Go.Eng
set_option linter.unusedSimpArgs false
set_option linter.unusedVariables false
namespace Go.Eng
open Go
structure WF (f:Fs):Prop where
 sm:SmF f
 sort:SortI f.inodes
 pos:∀x∈f.inodes,1≤x.ino
 right:∀x∈f.inodes,rightE x.entries=true
 there:∀x∈f.inodes,∀e∈x.entries,(findI e.ino f.inodes).isSome=true
 root:(findI 1 f.inodes).isSome=true
def wfB (f:Fs):Bool:=decide (f.inodes.length≤1073741824)&&(f.inodes.all (fun x=>decide (x.data.length≤1073741824)&&(decide (x.entries.length≤1073741824)&&(x.entries.all fun e=>decide (e.name.length≤1099511627775))))&&(riseB f.inodes&&(f.inodes.all (fun x=>decide (1≤x.ino))&&(f.inodes.all (fun x=>rightE x.entries)&&((f.inodes.all fun x=>x.entries.all fun e=>(findI e.ino f.inodes).isSome)&&(findI 1 f.inodes).isSome)))))
theorem wf_of {f:Fs} (h:wfB f=true):WF f:=by
 unfold wfB at h;simp only[Bool.and_eq_true,decide_eq_true_eq,List.all_eq_true] at h;obtain⟨h1,h2,h3,h4,h5,h6,h7⟩:=h;exact⟨⟨h1,fun x hx=>(h2 x hx).1,fun x hx=>(h2 x hx).2.1,fun x hx=>(h2 x hx).2.2⟩,(riseB_iff _).1 h3,h4,h5,h6,h7⟩
theorem kind_right {x:Inode} (h:kindB x=true):rightE x.entries=true:=by
 unfold kindB at h;simp only[Bool.or_eq_true,Bool.and_eq_true,decide_eq_true_eq] at h;rcases h with⟨_,h,_⟩ |⟨_,_,h⟩ |⟨_,h,_⟩
 ·have:x.entries= [] :=by simpa using h
  rw[this];rfl
 ·exact h
 ·have:x.entries= [] :=by simpa using h
  rw[this];rfl
theorem Sound.wf {f:Fs} (h:Sound f) (hs:SmF f):WF f:=by
 obtain⟨r,hr,_⟩:=h.root;exact⟨hs,h.sort,fun x hx=>(h.ino x hx).1,fun x hx=>kind_right (h.kind x hx),fun x hx e he=>by
  obtain⟨y,hy⟩:=h.there x hx e he;rw[hy];rfl,by rw[hr];rfl⟩
theorem ok_sound {f:Fs} (h:okF f=true):Sound f∧SmF f∧WF f:=by
 obtain⟨h1,h2⟩:=(okF_iff f).1 h;have h3:=SmF.of_few h1;exact⟨h2,h3,h2.wf h3⟩
section
variable {f:Fs}
theorem WF.sortE (h:WF f) {x:Inode} (hx:x∈f.inodes):SortE x.entries:=((rightE_iff _).1 (h.right x hx)).1
theorem WF.found (h:WF f) {n:Int} {x:Inode} (hx:findI n f.inodes=some x):x∈f.inodes∧x.ino=n:=findK_some hx
theorem WF.zero (h:WF f):findI 0 f.inodes=none:=by
 cases hf:findI 0 f.inodes with
 |none=>rfl
 |some x=>
  obtain⟨h1,h2⟩:=findK_some hf;have:=h.pos x h1;omega
theorem WF.get (h:WF f) (n:Int):table_Get f n=some (getI n f.inodes,(findI n f.inodes).isSome):=table_Get_eq h.sort h.sm.len
theorem WF.rget (h:WF f) (n:Int):ref05_Get f n=some (getI n f.inodes,(findI n f.inodes).isSome):=ref05_Get_eq h.sm.len
theorem WF.set (h:WF f) (x:Inode):table_Set f x=some (f.set x):=table_Set_eq h.sort h.sm.len
end
def inoE (n:Str) (l:List Entry):Int:=match findE n l with|some e=>e.ino|none=>0
theorem entry_Find_ino {l:List Entry} {n:Str} (hs:SortE l) (hl:l.length≤1073741824):entry_Find l n=some (inoE n l,(findE n l).isSome):=by
 rw[entry_Find_eq hs hl];unfold inoE;cases findE n l<;>rfl
theorem ref04_Find_ino {l:List Entry} {n:Str} (hl:l.length≤1073741824):ref04_Find l n=some (inoE n l,(findE n l).isSome):=by
 rw[ref04_Find_eq hl];unfold inoE;cases findE n l<;>rfl
theorem inoE_there {f:Fs} (h:WF f) {x:Inode} (hx:x∈f.inodes) (n:Str):inoE n x.entries=0∨(findI (inoE n x.entries) f.inodes).isSome=true:=by
 unfold inoE;cases hf:findE n x.entries with
 |none=>exact Or.inl rfl
 |some e=>exact Or.inr (h.there x hx e (findK_some hf).1)
def zeroS:Spotted:=⟨0, [],0⟩
def rootS:Spotted:=⟨0, [],1⟩
def goAt (l:List Inode):List Str→Spotted→Spotted×Int
 | [],s=>(s,0)
 |n::ns,s=>match findI s.ino l with
  |none=>(zeroS,1)
  |some d=>if d.kind=2 then goAt l ns ⟨d.ino,n,inoE n d.entries⟩ else (zeroS,3)
def atP (f:Fs) (p:Str):Spotted×Int:=if (plainP p).2=true then goAt f.inodes (plainP p).1 rootS else (zeroS,9)
theorem plain_len {p:Str}:(plainP p).1.length≤p.length+1∧∀x∈(plainP p).1,x.length≤p.length:=by
 unfold plainP;split
 ·exact⟨by have:=namesP_len p;simp only;omega,fun x hx=>namesP_mem_len hx⟩
 ·exact⟨by simp,by simp⟩
theorem drop_cons {α:Type} {l:List α} {k:Nat} {x:α} (h:l[k]? =some x):l.drop k=x::l.drop (k+1):=by
 obtain⟨hk,e⟩:=List.getElem?_eq_some_iff.1 h;rw[List.drop_eq_getElem_cons hk,e]
theorem place_At_eq {f:Fs} {p:Str} (h:WF f) (hp:p.length≤8388608):place_At f p=some (atP f p):=by
 unfold place_At atP;rw[path_Plain_eq hp,ocase_some'];have hl:=plain_len (p:=p);cases hb:(plainP p).2
 ·rfl
 ·simp only[Bool.not_true,bcase_false,if_true]
  generalize (plainP p).1=l at hl;refine loop_post (l:=l) (fun n i s=>place_At_L6 l (List.length l:Int) f (fun z15=>some ((⟨((⟨0, [],0⟩:Spotted).dir),((⟨0, [],0⟩:Spotted).name),((⟨0, [],0⟩:Spotted).ino)⟩:Spotted),z15)) (fun z16=>some (z16,(0:Int))) n i s) (fun k s=>goAt f.inodes (l.drop k) s=goAt f.inodes l rootS) (fun r=>r=some (goAt f.inodes l rootS)) (by omega) (fun n k x s hk hx hi hr=> ?_) (fun n s hi=> ?_) rootS (by simp)
  ·simp only[place_At_L6]
   rw[drop_cons hx] at hi;simp only[goAt] at hi;rw[dec_lt hk,dec_nn,toNat_cast,hx,wrap_succ (by omega)];simp only[bcase_true,ocase_some'];rw[h.get,ocase_some'];unfold getI;cases hf:findI s.ino f.inodes with
   |none=>rw[hf] at hi;simp only[Option.isSome_none,Bool.not_false,bcase_true];rw[←hi];rfl
   |some d=>
    rw[hf] at hi;simp only[Option.isSome_some,Bool.not_true,bcase_false,Option.getD_some,bneI] at hi⊢;by_cases hk2:d.kind=2
    ·rw[if_pos hk2] at hi
     have hd:=(h.found hf).1;rw[bc_f (by simp [hk2]),entry_Find_ino (h.sortE hd) (h.sm.ents d hd),ocase_some'];exact hr _ hi
    ·rw[if_neg hk2] at hi
     rw[bc_t (by simp [hk2]),←hi];rfl
  ·simp only[place_At_L6]
   rw[List.drop_length] at hi;simp only[goAt] at hi;rw[dec_ge (Nat.le_refl _),bcase_false,←hi]
theorem ref09_At_eq {f:Fs} {p:Str} (h:WF f) (hp:p.length≤8388608):ref09_At f p=some (atP f p):=by
 unfold ref09_At atP;rw[ref03_Plain_eq (by omega),ocase_some'];have hl:=plain_len (p:=p);cases hb:(plainP p).2
 ·rfl
 ·simp only[Bool.not_true,bcase_false,if_true]
  generalize (plainP p).1=l at hl;refine loop_post (l:=l) (fun n i s=>ref09_At_L6 l f (fun z15=>some ((⟨((⟨0, [],0⟩:Spotted).dir),((⟨0, [],0⟩:Spotted).name),((⟨0, [],0⟩:Spotted).ino)⟩:Spotted),z15)) (fun z16=>some (z16,(0:Int))) n i s) (fun k s=>goAt f.inodes (l.drop k) s=goAt f.inodes l rootS∧(s.ino=0∨(findI s.ino f.inodes).isSome=true)) (fun r=>r=some (goAt f.inodes l rootS)) (by omega) (fun n k x s hk hx hi hr=> ?_) (fun n s hi=> ?_) rootS ⟨by simp,Or.inr h.root⟩
  ·simp only[ref09_At_L6]
   obtain⟨hi,hz⟩:=hi;rw[drop_cons hx] at hi;simp only[goAt] at hi;rw[dec_lt hk,bcase_true,beqI,dec_nn,toNat_cast,hx,wrap_succ (by omega)];by_cases h0:s.ino=0
   ·rw[bc_t (by simp [h0]),←hi,h0,h.zero];rfl
   ·rw[bc_f (by simp [h0]),h.rget,ocase_some']
    obtain⟨d,hf⟩:=Option.isSome_iff_exists.1 (hz.resolve_left h0);unfold getI;rw[hf] at hi⊢;simp only[bcase_true,ocase_some',Option.getD_some,bneI] at hi⊢;by_cases hk2:d.kind=2
    ·rw[if_pos hk2] at hi
     have hd:=(h.found hf).1;rw[bc_f (by simp [hk2]),ref04_Find_ino (h.sm.ents d hd),ocase_some'];exact hr _ ⟨hi,inoE_there h hd x⟩
    ·rw[if_neg hk2] at hi
     rw[bc_t (by simp [hk2]),←hi];rfl
  ·simp only[ref09_At_L6]
   obtain⟨hi,_⟩:=hi;rw[List.drop_length] at hi;simp only[goAt] at hi;rw[dec_ge (Nat.le_refl _),bcase_false,←hi]
theorem goAt_ok {l:List Inode}:∀{ns:List Str} {s t:Spotted},goAt l ns s=(t,0)→(ns= [] ∧t=s)∨∃d n ns',ns=ns'++[n]∧findI t.dir l=some d∧d.ino=t.dir∧d.kind=2∧t.name=n∧t.ino=inoE n d.entries
 | [],s,t,h=>by simp [goAt] at h;exact Or.inl ⟨rfl,h.symm⟩
 |n::ns,s,t,h=>by
  right;simp only[goAt] at h;cases hf:findI s.ino l with
  |none=>rw[hf] at h;simp at h
  |some d=>
   rw[hf] at h;simp only at h;by_cases hk:d.kind=2
   ·rw[if_pos hk] at h
    rcases goAt_ok h with⟨rfl,rfl⟩ |⟨d',n',ns',h1,h2,h3,h4,h5,h6⟩
    ·refine⟨d,n, [],rfl, ?_,rfl,hk,rfl,rfl⟩
     have:=(findK_some hf).2;simp only;rw[this];exact hf
    ·exact⟨d',n',n::ns',by rw[h1];rfl,h2,h3,h4,h5,h6⟩
   ·rw[if_neg hk] at h;simp at h
theorem goAt_end {f:Fs} (h:WF f) {ns:List Str} {t:Spotted} (hg:goAt f.inodes ns rootS=(t,0)):t.ino=0∨(findI t.ino f.inodes).isSome=true:=by
 rcases goAt_ok hg with⟨_,rfl⟩ |⟨d,n,ns',_,h2,_,_,_,h6⟩
 ·exact Or.inr h.root
 ·rw[h6];exact inoE_there h (findK_some h2).1 n
def getP (f:Fs) (p:Str):Inode×Int:=if (atP f p).2=0 then (match findI (atP f p).1.ino f.inodes with|some x=>(x,0) |none=>(zeroI,1)) else (zeroI,(atP f p).2)
theorem place_Get_eq {f:Fs} {p:Str} (h:WF f) (hp:p.length≤8388608):place_Get f p=some (getP f p):=by
 unfold place_Get getP;rw[place_At_eq h hp,ocase_some',bneI];by_cases h0:(atP f p).2=0
 ·rw[bc_f (by simp [h0]),if_pos h0,h.get,ocase_some']
  unfold getI;cases findI (atP f p).1.ino f.inodes<;>rfl
 ·rw[bc_t (by simp [h0]),if_neg h0];rfl
theorem atP_end {f:Fs} {p:Str} (h:WF f) (h0:(atP f p).2=0):(atP f p).1.ino=0∨(findI (atP f p).1.ino f.inodes).isSome=true:=by
 unfold atP at h0⊢;split
 ·rename_i hb
  rw[if_pos hb] at h0;have:goAt f.inodes (plainP p).1 rootS=((goAt f.inodes (plainP p).1 rootS).1,0):=by rw[←h0]
  exact goAt_end h this
 ·rename_i hb
  rw[if_neg hb] at h0;cases h0
theorem ref09_Get_eq {f:Fs} {p:Str} (h:WF f) (hp:p.length≤8388608):ref09_Get f p=some (getP f p):=by
 unfold ref09_Get getP;rw[ref09_At_eq h hp,ocase_some',bneI,beqI];by_cases h0:(atP f p).2=0
 ·rw[bc_f (by simp [h0]),if_pos h0]
  by_cases hi:(atP f p).1.ino=0
  ·rw[bc_t (by simp [hi]),hi,h.zero];rfl
  ·rw[bc_f (by simp [hi]),h.rget,ocase_some']
   obtain⟨x,hx⟩:=Option.isSome_iff_exists.1 ((atP_end h h0).resolve_left hi);unfold getI;rw[hx];rfl
 ·rw[bc_t (by simp [h0]),if_neg h0];rfl
def Inode.withE (d:Inode) (l:List Entry):Inode:=⟨d.ino,d.kind,d.links,d.data,d.parent,l⟩
theorem set_len {f:Fs} {x:Inode}:(f.set x).inodes.length≤f.inodes.length+1:=setK_length_le
theorem set_ents {f:Fs} {x:Inode} {N:Nat} (h:∀y∈f.inodes,y.entries.length≤N) (hx:x.entries.length≤N):∀y∈(f.set x).inodes,y.entries.length≤N:=by
 intro y hy;rcases setK_mem.1 hy with rfl|⟨hy,_⟩
 ·exact hx
 ·exact h y hy
end Go.Eng
