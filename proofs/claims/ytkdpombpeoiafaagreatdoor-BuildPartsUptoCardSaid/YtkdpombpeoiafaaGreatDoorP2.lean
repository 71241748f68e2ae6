/- A part of the proofs of the laws of this seat: the engine that reads the program's code, plain functions, or facts of the program's functions. Conditions: none. -/
import Derived.Test.YtkdpombpeoiafaaGreatDoorE4
import Derived.Test.YtkdpombpeoiafaaGreatDoorP1
import Derived.Test.YtkdpombpeoiafaaGreatDoorE2
set_option linter.unusedSectionVars false
set_option linter.unusedVariables false
set_option linter.unusedSimpArgs false
set_option linter.unnecessarySimpa false
set_option linter.unusedSimpArgs false
set_option linter.unusedVariables false
namespace Go.Eng
open Go
@[simp] theorem aq {α:Type} (x y:Option α):ae true x y=x:=rfl
@[simp] theorem ax {α:Type} (x y:Option α):ae false x y=y:=rfl
@[simp] theorem af {α β:Type} (a:α) (f:α→Option β):ai (some a) f=f a:=rfl
theorem bt {α:Type} (b:Bool) (x y:Option α):ae b x y=if b then x else y:=by cases b<;>rfl
theorem bK {α:Type} {n:Nat} {x:Option α} (h:n≤LIM):aQ n x=x:=by
 unfold aQ;rw[Nat.ble_eq_true_of_le h]
theorem bC {n:Int} (h1: -9223372036854775808≤n) (h2:n<9223372036854775808):IntKind.i64.wrap n=n:=by
 simp [IntKind.wrap,IntKind.bits,IntKind.signed];omega
theorem aX {k:Nat} (h:k<4611686018427387904):IntKind.i64.wrap ((k:Int)+1)=((k+1:Nat):Int):=by
 rw[bC (by omega) (by omega)];rfl
theorem pL {α:Type} {l:List α} {k:Nat} (h:k<l.length):∃x,l[k]? =some x∧l.drop k=x::l.drop (k+1):=
 ⟨l[k],by simp,List.drop_eq_getElem_cons h⟩
theorem dec_lt {k n:Nat} (h:k<n):decide ((k:Int)<(n:Int))=true:=by simp;omega
theorem b7 {k n:Nat} (h:n≤k):decide ((k:Int)<(n:Int))=false:=by simp;omega
theorem bR (k:Nat):decide (0≤(k:Int))=true:=by simp
theorem A2 {k n:Nat} (h:k<n):decide (0≤(k:Int)∧(k:Int)<(n:Int))=true:=by simp;omega
theorem toNat_cast (k:Nat):Int.toNat (k:Int)=k:=Int.toNat_natCast k
theorem hY {n:Nat} (h:n≤1099511627775):n<bo:=Nat.lt_of_lt_of_le (by omega) mA
end Go.Eng
namespace Go.Eng
def et {α S R:Type} (G:Nat→α→S→(S→Option R)→Option R) (E:S→Option R):Nat→List α→S→Option R
 |_, [],s=>E s
 |k,x::r,s=>G k x s (et G E (k+1) r)
theorem DC {α S R:Type} {l:List α} (F:Nat→Int→S→Option R) (G:Nat→α→S→(S→Option R)→Option R) (E:S→Option R) (hl:l.length≤1099511627775)
 (h1:∀(n k:Nat) (x:α) (s:S),k<l.length→l[k]? =some x→F (n+1) (k:Int) s=G k x s (F n ((k+1:Nat):Int))) (h0:∀(n:Nat) (s:S),F (n+1) (l.length:Int) s=E s):
 ∀(n k:Nat) (s:S),k≤l.length→l.length - k<n→F n (k:Int) s=et G E k (l.drop k) s:=by
 intro n;induction n with
 |zero=>intro k s _ h;omega
 |succ n ih=>
  intro k s hk hn;by_cases h:k<l.length
  ·obtain⟨x,hx,hd⟩:=pL h
   rw[h1 n k x s h hx,hd];simp only[et];congr 1;funext s';exact ih (k+1) s' (by omega) (by omega)
  ·have:k=l.length:=by omega
   subst this;rw[h0,List.drop_length];rfl
theorem cu {α S R:Type} {l:List α} (F:Nat→Int→S→Option R) (G:Nat→α→S→(S→Option R)→Option R) (E:S→Option R) (hl:l.length≤1099511627775)
 (h1:∀(n k:Nat) (x:α) (s:S),k<l.length→l[k]? =some x→F (n+1) (k:Int) s=G k x s (F n ((k+1:Nat):Int))) (h0:∀(n:Nat) (s:S),F (n+1) (l.length:Int) s=E s) (s:S):F bo (0:Int) s=et G E 0 l s:=
 DC F G E hl h1 h0 bo 0 s (Nat.zero_le _) (hY (by omega))
end Go.Eng
namespace Go.Eng
theorem eY {α S R:Type} {l:List α} (F:Nat→Int→S→Option R) (Inv:Nat→S→Prop) (P:Option R→Prop) (hl:l.length≤1099511627775)
 (h1:∀(n k:Nat) (x:α) (s:S),k<l.length→l[k]? =some x→Inv k s→(∀s',Inv (k+1) s'→P (F n ((k+1:Nat):Int) s'))→P (F (n+1) (k:Int) s))
 (h0:∀(n:Nat) (s:S),Inv l.length s→P (F (n+1) (l.length:Int) s)) (s:S) (hi:Inv 0 s):P (F bo (0:Int) s):=by
 have key:∀(n k:Nat) (s:S),Inv k s→k≤l.length→l.length - k<n→P (F n (k:Int) s):=by
  intro n;induction n with
  |zero=>intro k s _ _ h;omega
  |succ n ih=>
   intro k s hs hk hn;by_cases h:k<l.length
   ·exact h1 n k l[k] s h (by simp [h]) hs fun s' hs'=>ih (k+1) s' hs' (by omega) (by omega)
   ·have:k=l.length:=by omega
    subst this;exact h0 n s hs
 exact key bo 0 s hi (Nat.zero_le _) (hY (by omega))
end Go.Eng
namespace Go.Eng
theorem aE {α:Type} {b:Bool} {x y:Option α} (h:b=true):ae b x y=x:=by subst h;rfl
theorem aR {α:Type} {b:Bool} {x y:Option α} (h:b=false):ae b x y=y:=by subst h;rfl
theorem K5 {a b:Nat} (h:b<a):Nat.ble a b=false:=by
 cases e:Nat.ble a b with
 |false=>rfl
 |true=>exact absurd (Nat.le_of_ble_eq_true e) (by omega)
end Go.Eng
set_option linter.unusedSimpArgs false
set_option linter.unusedVariables false
namespace Go.Eng
open Go
def jx (b:UInt8):Bool:=b==47||b==0
def cS (s:Str):Bool:= !(s== [])&&(decide (s.length≤255)&&(!(s.any jx)&&(!(s==[46])&& !(s==[46,46]))))
theorem vY {R:Type} (k:Nat→Option R):∀(m i n:Nat),i≤n→n<i+m→splitK (n:Int) m i k=k n
 |0,i,n,h1,h2=>by omega
 |m+1,i,n,h1,h2=>by
  unfold splitK;by_cases h:n=i
  ·subst h;simp
  ·have e:((n:Int)==(i:Int))=false:=by rw[beq_eq_false_iff_ne];omega
   rw[e,ax];exact vY k m (i+1) n (by omega) (by omega)
theorem S_ (b:UInt8):b.toNat<256:=b.toNat_lt
theorem tI (b:UInt8) (n:Nat) (h:n<256):Nat.beq b.toNat n=(b==UInt8.ofNat n):=by
 rw[Bool.eq_iff_iff,beq_iff_eq];constructor
 ·intro e
  have e:=Nat.eq_of_beq_eq_true e;apply UInt8.toNat_inj.1;rw[UInt8.toNat_ofNat',e];omega
 ·intro e
  subst e;rw[UInt8.toNat_ofNat'];have:n%2^8=n:=Nat.mod_eq_of_lt h;rw[this];simp
theorem iL (b:UInt8) (n:Nat) (h:n<256):((b.toNat:Int)==(n:Int))=(b==UInt8.ofNat n):=by
 rw[←tI b n h,Bool.eq_iff_iff];constructor
 ·intro e
  have e:=beq_iff_eq.1 e;have:b.toNat=n:=by omega
  rw[this];simp
 ·intro e
  have e:=Nat.eq_of_beq_eq_true e;rw[e];simp
theorem lO {α R:Type} (p:α→Bool) (kr:Nat→α→Option R) (k0:Option R) (r:Option R) (hr:∀k x,kr k x=r):∀(l:List α) (k:Nat) (s:Unit),et (fun k x s K=>if p x then kr k x else K s) (fun _=>k0) k l s=if l.any p then r else k0
 | [],_,_=>rfl
 |x::l,k,s=>by
  simp only[et,List.any_cons];by_cases h:p x=true
  ·simp [h,hr]
  ·simp [h,lO p kr k0 r hr l]
theorem JR {s:Str} (hl:s.length≤1099511627775):bW s (fun z6=>some (decide (z6≥(0:Int)))) (some false) bo (0:Int)=some (s.any jx):=by
 refine(cu (l:=s) (fun n i (_:Unit)=>bW s (fun z6=>some (decide (z6≥(0:Int)))) (some false) n i) (fun k x s K=>if jx x then some (decide ((k:Int)≥(0:Int))) else K s) (fun _=>some false) hl (fun n k x u hk hx=> ?_) (fun n u=> ?_) ()).trans ?_
 ·simp only[bW]
  rw[dec_lt hk,bR,toNat_cast,hx,aX (by omega)];simp only[aq,af,bt,if_true];rw[vY _ _ _ _ (Nat.zero_le _) (by have:=S_ x;omega),tI x 0 (by omega),tI x 47 (by omega)];unfold jx;rw[Bool.or_comm];rfl
 ·simp only[bW]
  rw[b7 (Nat.le_refl _)];rfl
 ·rw[lO jx _ _ (some true) (fun k x=>by simp)]
  cases s.any jx<;>rfl
theorem yx {s:Str} {i:Nat} {x:UInt8} (h:s[i]? =some x):
 (x.toNat<128∧a_ s i=(x.toNat,1))∨(128≤x.toNat∧128≤(a_ s i).1∧1≤(a_ s i).2∧∀j,j<(a_ s i).2→∃b,s[i+j]? =some b∧128≤b.toNat):=by
 have hget:∀k b,s[i+k]? =some b→(ByteArray.get! ⟨s.toArray⟩ (i+k))=b:=by
  intro k b hb;have:(ByteArray.mk s.toArray).get! (i+k)=s.toArray[i+k]! :=rfl;rw[this];simp [hb]
 have hx0:(ByteArray.get! ⟨s.toArray⟩ (i+0))=x:=hget 0 x (by simpa using h);have hcont:∀k,((decide (i+k<(ByteArray.mk s.toArray).size)&&((ByteArray.get! ⟨s.toArray⟩ (i+k)).toNat/64==2))=true)→∃b,s[i+k]? =some b∧128≤b.toNat:=by
  intro k hk;simp only[Bool.and_eq_true,decide_eq_true_eq,beq_iff_eq] at hk;obtain⟨h1,h2⟩:=hk;have h1':i+k<s.length:=h1;refine⟨s[i+k],by simp [h1'], ?_⟩;rw[hget k s[i+k] (by simp [h1'])] at h2;omega
 unfold a_ Utf8.decode;simp only[hx0];by_cases hb:x.toNat<128
 ·left;exact⟨hb,by rw[if_pos hb]⟩
 ·right
  refine⟨by omega, ?_⟩;rw[if_neg hb];have base:∃b,s[i+0]? =some b∧128≤b.toNat:=⟨x,by simpa using h,by omega⟩;have one:128≤((Utf8.runeError,1):Nat×Nat).1∧1≤((Utf8.runeError,1):Nat×Nat).2∧∀j,j<((Utf8.runeError,1):Nat×Nat).2→∃b,s[i+j]? =some b∧128≤b.toNat:=by
   refine⟨by decide,by decide,fun j hj=> ?_⟩;have:j=0:=by simp at hj;exact hj
   subst this;exact base
  split
  ·rename_i hc
   simp only[Bool.and_eq_true] at hc;have c1:=hcont 1 (by simpa using hc.2);split
   ·rename_i hv
    refine⟨by simpa using hv,by show 1≤2;omega,fun j hj=> ?_⟩;simp at hj;have:j=0∨j=1:=by omega
    rcases this with rfl|rfl
    ·exact base
    ·exact c1
   ·exact one
  ·split
   ·rename_i hc
    simp only[Bool.and_eq_true] at hc;have c1:=hcont 1 (by simpa using hc.1.2);have c2:=hcont 2 (by simpa using hc.2);split
    ·rename_i hv
     simp only[Bool.and_eq_true,decide_eq_true_eq] at hv;refine⟨by simp;omega,by show 1≤3;omega,fun j hj=> ?_⟩;simp at hj;have:j=0∨j=1∨j=2:=by omega
     rcases this with rfl|rfl|rfl
     ·exact base
     ·exact c1
     ·exact c2
    ·exact one
   ·split
    ·rename_i hc
     simp only[Bool.and_eq_true] at hc;have c1:=hcont 1 (by simpa using hc.1.1.2);have c2:=hcont 2 (by simpa using hc.1.2);have c3:=hcont 3 (by simpa using hc.2);split
     ·rename_i hv
      simp only[Bool.and_eq_true,decide_eq_true_eq] at hv;refine⟨by simp;omega,by show 1≤4;omega,fun j hj=> ?_⟩;simp at hj;have:j=0∨j=1∨j=2∨j=3:=by omega
      rcases this with rfl|rfl|rfl|rfl
      ·exact base
      ·exact c1
      ·exact c2
      ·exact c3
     ·exact one
    ·exact one
theorem rJ {s:Str}:∀(w i:Nat),(∀j,j<w→∃b,s[i+j]? =some b∧128≤b.toNat)→(s.drop i).any jx=(s.drop (i+w)).any jx
 |0,i,_=>rfl
 |w+1,i,h=>by
  obtain⟨b,hb,h128⟩:=h 0 (by omega);simp only[Nat.add_zero] at hb;have hi:=(List.getElem?_eq_some_iff.1 hb).1;obtain⟨x,hx,hd⟩:=pL hi;rw[hb] at hx;cases hx;rw[hd,List.any_cons,rJ w (i+1) (fun j hj=>by
   obtain⟨b,h1,h2⟩:=h (j+1) (by omega);exact⟨b,by rw[←h1];congr 1;omega,h2⟩)]
  have hn:jx b=false:=by
   unfold jx;simp only[Bool.or_eq_false_iff,beq_eq_false_iff_ne];constructor<;>(intro e;subst e;revert h128;decide)
  rw[hn,Bool.false_or];congr 2;omega
theorem zl {s:Str} {w i:Nat} (h1:1≤w) (h:∀j,j<w→∃b,s[i+j]? =some b∧128≤b.toNat):i+w≤s.length:=by
 obtain⟨b,hb,_⟩:=h (w - 1) (by omega);have:=(List.getElem?_eq_some_iff.1 hb).1;omega
theorem zY:∃m,bo=m+3:=⟨bo - 3,by have:=mA;omega⟩
theorem Kb {r:Nat} (h:128≤r):(2=(Utf8.encode (r:Int)).data.toList.length∧∃a b:UInt8,(Utf8.encode (r:Int)).data.toList=[a,b]∧128≤b.toNat)∨3≤(Utf8.encode (r:Int)).data.toList.length:=by
 unfold Utf8.encode;have hc:128≤(if Utf8.valid (r:Int) then (r:Int).toNat else Utf8.runeError):=by
  split
  ·simpa using h
  ·decide
 generalize (if Utf8.valid (r:Int) then (r:Int).toNat else Utf8.runeError)=c at hc;simp only;rw[if_neg (by omega)];split
 ·left
  refine⟨rfl,_,_,rfl, ?_⟩;rw[UInt8.toNat_ofNat'];omega
 ·right
  split
  ·exact Nat.le_refl 3
  ·show 3≤4;omega
theorem Rt {R:Type} {e:Str} (kr:Int→Option R) (k1:Option R) (r:Option R) (h:(∃a b:UInt8,e=[a,b]∧128≤b.toNat)∨3≤e.length) (hs:e.length≤10) (h1:kr (-1)=r) (h2:k1=r):
 bm e (IntKind.i64.wrap ((List.length e:Int) - (1:Int))) (IntKind.i64.wrap ((List.length e:Int) - (1:Int))) kr k1 bo=r:=by
 obtain⟨m,hm⟩:=zY;rw[hm];simp only[bm];rcases h with⟨a,b,rfl,hb⟩ |h
 ·have e1:IntKind.i64.wrap ((List.length [a,b]:Int) - (1:Int))=1:=by rfl
  rw[e1];have e2:((UInt8.toNat (0:UInt8):Int) !=(UInt8.toNat b:Int))=true:=by
   rw[bne_iff_ne];simp;omega
  have e3:Lib.indexByte ([] :Str) ((UInt8.toNat b:Int)).toNat.toUInt8= -1:=rfl;show ae true (ae true (ai (some (0:UInt8)) fun c31=>ae true (ai (some b) fun c32=>_) none) none) k1=r;simp only[aq,af,e2];exact h1
 ·rw[bC (by omega) (by omega)]
  have:decide (((e.length:Int) - 1)<(2:Int))=false:=by simp;omega
  rw[this,ax,h2]
theorem PE {R:Type} (kr:Int→Option R) (k9:Option R):cg ([47,0]:Str) kr k9 bo 0=k9:=by
 obtain⟨m,hm⟩:=zY;rw[hm];rfl
theorem NI (r:Int):(Utf8.encode r).data.toList.length≤10:=by
 unfold Utf8.encode;simp only;generalize (if Utf8.valid r then r.toNat else Utf8.runeError)=c;split
 ·show 1≤10;omega
 ·split
  ·show 2≤10;omega
  ·split
   ·show 3≤10;omega
   ·show 4≤10;omega
theorem EZ {s:Str} (hl:s.length≤1099511627775):∀(n i:Nat),i≤s.length→s.length - i<n→aC s (fun z67=>some (decide (z67≥(0:Int)))) (some false) n i=some ((s.drop i).any jx):=by
 intro n;induction n with
 |zero=>intro i _ h;omega
 |succ n ih=>
  intro i hi hn;simp only[aC];by_cases hlt:i<s.length
  ·have e0:Nat.blt i s.length=true:=by simpa [Nat.blt_eq] using hlt
   rw[e0,aq];obtain⟨x,hx,hd⟩:=pL hlt;rcases yx hx with⟨h1,h2⟩ |⟨h1,h2,h3,h4⟩
   ·rw[h2]
    simp only;have a1:decide ((0:Int)≤(x.toNat:Int))=true:=by simp
    have a2:decide ((x.toNat:Int)<(128:Int))=true:=by simp;omega
    rw[a1,a2,aq,aq];have a3:IntKind.u8.wrap (x.toNat:Int)=(x.toNat:Int):=by
     simp [IntKind.wrap,IntKind.bits,IntKind.signed];omega
    rw[a3];unfold stringslite_IndexByte;have a4:((x.toNat:Int).toNat.toUInt8)=x:=by
     apply UInt8.toNat_inj.1;simp
    rw[a4,af,hd,List.any_cons];by_cases hb:jx x=true
    ·rw[hb]
     have:Lib.indexByte ([47,0]:Str) x≥0:=by
      unfold jx at hb;simp at hb;rcases hb with rfl|rfl<;>decide
     rw[decide_eq_true this];simp
    ·have hb':jx x=false:=by simpa using hb
     rw[hb'];have:¬Lib.indexByte ([47,0]:Str) x≥0:=by
      unfold jx at hb';simp only[Bool.or_eq_false_iff,beq_eq_false_iff_ne] at hb';have e1:((47:UInt8)==x)=false:=by rw[beq_eq_false_iff_ne];exact fun e=>hb'.1 e.symm
      have e2:((0:UInt8)==x)=false:=by rw[beq_eq_false_iff_ne];exact fun e=>hb'.2 e.symm
      simp [Lib.indexByte,e1,e2]
     rw[decide_eq_false this,ax,ih (i+1) (by omega) (by omega),Bool.false_or]
   ·have hw:=zl h3 h4
    have hrec:=ih (i+(a_ s i).2) hw (by omega);rw[←rJ _ _ h4] at hrec;generalize hr:aC s (fun z67=>some (decide (z67≥(0:Int)))) (some false) n (i+(a_ s i).2)=rc at hrec;subst hrec;have b1:decide ((0:Int)≤((a_ s i).1:Int))=true:=by simp
    have b2:decide (((a_ s i).1:Int)<(128:Int))=false:=by simp;omega
    have he:=Kb h2;have he':(∃a b:UInt8,(Utf8.encode ((a_ s i).1:Int)).data.toList=[a,b]∧128≤b.toNat)∨3≤(Utf8.encode ((a_ s i).1:Int)).data.toList.length:=by
     rcases he with⟨_,h⟩ |h
     ·exact Or.inl h
     ·exact Or.inr h
    have h5:∀kr:Int→Option Bool,kr (-1)=some ((s.drop i).any jx)→bm (Utf8.encode ((a_ s i).1:Int)).data.toList (IntKind.i64.wrap ((List.length (Utf8.encode ((a_ s i).1:Int)).data.toList:Int) - (1:Int))) (IntKind.i64.wrap ((List.length (Utf8.encode ((a_ s i).1:Int)).data.toList:Int) - (1:Int))) kr (some ((s.drop i).any jx)) bo=some ((s.drop i).any jx):=
     fun kr hk=>Rt _ _ _ he' (NI _) hk rfl
    rw[b1,b2,aq,ax];simp only[PE];rw[h5 _ (by rfl)];simp only[bt,if_true]
    repeat' split
    all_goals rfl
  ·have e0:Nat.blt i s.length=false:=by
    cases h:Nat.blt i s.length with
    |false=>rfl
    |true=>exact absurd (Nat.le_of_ble_eq_true h) (by omega)
   rw[e0,ax,List.drop_eq_nil_of_le (by omega)];rfl
theorem mO {s:Str} (hl:s.length≤1099511627775):eM s=some (s.any jx):=by
 unfold eM;rw[JR hl,EZ hl bo 0 (Nat.zero_le _) (hY (by omega))];simp [bt]
theorem k6 {s:Str} (hl:s.length≤1099511627775):gZ s=some (cS s):=by
 unfold gZ cS;rw[mO hl];have e:decide ((List.length s:Int)≤(255:Int))=decide (s.length≤255):=by
  rw[decide_eq_decide];omega
 rw[e];simp only[af,bt];cases (!(s==([] :Str)))<;>cases decide (s.length≤255)<;>cases (s.any jx)<;>cases (!(s==([46]:Str)))<;>simp
theorem ie {s:Str} (hl:s.length≤1099511627775):eQ s=some (cS s):=by
 unfold eQ;refine(cu (l:=s) (fun n i (_:Unit)=>fQ s (some false) (ae (decide ((List.length s:Int)≥(1:Int))) (ae (decide ((List.length s:Int)≤(255:Int))) (ae (!(s==([46]:Str))) (some (!(s==([46,46]:Str)))) (some false)) (some false)) (some false)) n i) (fun k x s K=>if jx x then some false else K s) (fun _=>(ae (decide ((List.length s:Int)≥(1:Int))) (ae (decide ((List.length s:Int)≤(255:Int))) (ae (!(s==([46]:Str))) (some (!(s==([46,46]:Str)))) (some false)) (some false)) (some false))) hl (fun n k x u hk hx=> ?_) (fun n u=> ?_) ()).trans ?_
 ·simp only[fQ]
  rw[dec_lt hk,bR,toNat_cast,hx,aX (by omega)];simp only[aq,af,bt,if_true];have e1:((UInt8.toNat x:Int)==(47:Int))=(x==47):=iL x 47 (by omega);have e2:((UInt8.toNat x:Int)==(0:Int))=(x==0):=iL x 0 (by omega);rw[e1,e2];unfold jx;cases (x==47)<;>simp
 ·simp only[fQ]
  rw[b7 (Nat.le_refl _)];rfl
 ·rw[lO jx _ _ (some false) (fun k x=>rfl)]
  unfold cS;have e:decide ((List.length s:Int)≤(255:Int))=decide (s.length≤255):=by
   rw[decide_eq_decide];omega
  have e':decide ((List.length s:Int)≥(1:Int))= !(s==([] :Str)):=by
   cases s with
   |nil=>rfl
   |cons a l=>
    have:(a::l==([] :Str))=false:=rfl;rw[this];simp;omega
  rw[e,e'];simp only[bt];cases (!(s==([] :Str)))<;>cases decide (s.length≤255)<;>cases (s.any jx)<;>cases (!(s==([46]:Str)))<;>simp
abbrev ltS (a b:Str):Bool:=Op.bytesLess a b
theorem ky:∀a:Str,ltS a a=false
 | [] =>rfl
 |a::l=>by
  have:=ky l;simp only[ltS] at this;simp [ltS,Op.bytesLess,this,UInt8.lt_irrefl]
theorem nZ:∀{a b c:Str},ltS a b=true→ltS b c=true→ltS a c=true
 | [], [],_,h,_=>by simp [ltS,Op.bytesLess] at h
 | [],_::_, [],_,h=>by simp [ltS,Op.bytesLess] at h
 | [],_::_,_::_,_,_=>rfl
 |_::_, [],_,h,_=>by simp [ltS,Op.bytesLess] at h
 |_::_,_::_, [],_,h=>by simp [ltS,Op.bytesLess] at h
 |a::l,b::m,c::k,h1,h2=>by
  simp only[ltS,Op.bytesLess,Bool.or_eq_true,decide_eq_true_eq,Bool.and_eq_true,beq_iff_eq] at h1 h2⊢;rcases h1 with h1|⟨rfl,h1⟩
  ·rcases h2 with h2|⟨rfl,h2⟩
   ·exact Or.inl (UInt8.lt_trans h1 h2)
   ·exact Or.inl h1
  ·rcases h2 with h2|⟨rfl,h2⟩
   ·exact Or.inl h2
   ·exact Or.inr ⟨rfl,nZ h1 h2⟩
theorem yb:∀a b:Str,ltS a b=true∨a=b∨ltS b a=true
 | [], [] =>Or.inr (Or.inl rfl)
 | [],_::_=>Or.inl rfl
 |_::_, [] =>Or.inr (Or.inr rfl)
 |a::l,b::m=>by
  simp only[ltS,Op.bytesLess,Bool.or_eq_true,decide_eq_true_eq,Bool.and_eq_true,beq_iff_eq,List.cons.injEq];rcases UInt8.lt_or_lt_of_ne (a:=a) (b:=b) |> fun h=>(Decidable.em (a=b)).elim (fun e=>Or.inr e) (fun e=>Or.inl (h e)) with h|rfl
  ·rcases h with h|h
   ·exact Or.inl (Or.inl h)
   ·exact Or.inr (Or.inr (Or.inl h))
  ·rcases yb l m with h|rfl|h
   ·exact Or.inl (Or.inr ⟨rfl,h⟩)
   ·exact Or.inr (Or.inl ⟨rfl,rfl⟩)
   ·exact Or.inr (Or.inr (Or.inr ⟨rfl,h⟩))
theorem vG {a b:Str} (h:ltS a b=true):ltS b a=false:=by
 cases h':ltS b a
 ·rfl
 ·have:=nZ h h';rw[ky] at this;cases this
theorem QB {a b:Str} (h:ltS a b=true):a≠b:=by intro e;subst e;rw[ky] at h;cases h
theorem s9:∀a b:Str,decide (Lib.compareBytes a b<0)=ltS a b
 | [], [] =>rfl
 | [],_::_=>rfl
 |_::_, [] =>rfl
 |a::l,b::m=>by
  simp only[Lib.compareBytes,ltS,Op.bytesLess];by_cases h:a<b
  ·simp [h]
  ·by_cases h':b<a
   ·have hne:(a==b)=false:=by rw[beq_eq_false_iff_ne];intro e;subst e;exact UInt8.lt_irrefl _ h'
    simp [h,h',hne]
   ·have he:a=b:=UInt8.le_antisymm (UInt8.not_lt.1 h') (UInt8.not_lt.1 h)
    subst he;have:=s9 l m;simp only[if_neg h,decide_eq_false h,beq_self_eq_true,Bool.true_and,Bool.false_or];exact this
theorem tW:∀a b:Str,(Lib.compareBytes a b==0)=(a==b)
 | [], [] =>rfl
 | [],_::_=>rfl
 |_::_, [] =>rfl
 |a::l,b::m=>by
  simp only[Lib.compareBytes];by_cases h:a<b
  ·have hne:(a==b)=false:=by rw[beq_eq_false_iff_ne];intro e;subst e;exact UInt8.lt_irrefl _ h
   rw[if_pos h];have:(a::l==b::m)=false:=by rw[beq_eq_false_iff_ne] at hne⊢;intro e;cases e;exact hne rfl
   rw[this];rfl
  ·rw[if_neg h]
   by_cases h':b<a
   ·have hne:(a==b)=false:=by rw[beq_eq_false_iff_ne];intro e;subst e;exact UInt8.lt_irrefl _ h'
    rw[if_pos h'];have:(a::l==b::m)=false:=by rw[beq_eq_false_iff_ne] at hne⊢;intro e;cases e;exact hne rfl
    rw[this];rfl
   ·rw[if_neg h']
    have he:a=b:=UInt8.le_antisymm (UInt8.not_lt.1 h') (UInt8.not_lt.1 h);subst he;rw[tW l m,Bool.eq_iff_iff];simp
end Go.Eng
set_option linter.unusedSimpArgs false
set_option linter.unusedVariables false
namespace Go.Eng
open Go
structure LO {κ:Type} (lt:κ→κ→Bool):Prop where
 irrefl:∀a,lt a a=false
 trans:∀{a b c},lt a b=true→lt b c=true→lt a c=true
 tri:∀a b,lt a b=true∨a=b∨lt b a=true
def ltI (a b:Int):Bool:=decide (a<b)
theorem loI:LO ltI where
 irrefl a:=by simp [ltI]
 trans h1 h2:=by simp only[ltI,decide_eq_true_eq] at*;omega
 tri a b:=by simp only[ltI,decide_eq_true_eq];omega
section
set_option linter.unusedSectionVars false
variable {α κ:Type} [DecidableEq κ] {lt:κ→κ→Bool} {key:α→κ}
def cQ (lt:κ→κ→Bool) (key:α→κ) (l:List α):Prop:=l.Pairwise fun x y=>lt (key x) (key y)=true
def ju (lt:κ→κ→Bool) (key:α→κ) (k:κ):List α→Nat
 | [] =>0
 |x::l=>if lt (key x) k then ju lt key k l+1 else 0
def cx (key:α→κ) (k:κ) (l:List α):Option α:=l.find? fun x=>decide (key x=k)
def ig (lt:κ→κ→Bool) (key:α→κ) (x:α):List α→List α
 | [] =>[x]
 |y::l=>if lt (key x) (key y) then x::y::l else y::ig lt key x l
def fF (key:α→κ) (k:κ) (l:List α):List α:=l.filter fun y=> !decide (key y=k)
def na (lt:κ→κ→Bool) (key:α→κ) (x:α) (l:List α):List α:=ig lt key x (fF key (key x) l)
theorem LO.asymm (O:LO lt) {a b:κ} (h:lt a b=true):lt b a=false:=by
 cases h':lt b a
 ·rfl
 ·have:=O.trans h h';rw[O.irrefl] at this;cases this
theorem LO.ne (O:LO lt) {a b:κ} (h:lt a b=true):a≠b:=by intro e;subst e;rw[O.irrefl] at h;cases h
theorem sR {k:κ} (l:List α):ju lt key k l≤l.length:=by
 induction l with
 |nil=>exact Nat.le_refl _
 |cons x l ih=>
  simp only[ju];split<;>simp only[List.length_cons]<;>omega
theorem sN {k:κ}:∀{l:List α} {j:Nat} {x:α},j<ju lt key k l→l[j]? =some x→lt (key x) k=true
 | [],j,x,h,_=>by simp [ju] at h
 |y::l,j,x,h,hx=>by
  simp only[ju] at h;split at h
  ·rename_i hy
   cases j with
   |zero=>simp at hx;subst hx;exact hy
   |succ j=>exact sN (l:=l) (j:=j) (by omega) (by simpa using hx)
  ·omega
theorem wV (O:LO lt) {k:κ}:∀{l:List α} {j:Nat} {x:α},cQ lt key l→ju lt key k l≤j→l[j]? =some x→lt (key x) k=false
 | [],j,x,_,_,hx=>by simp at hx
 |y::l,j,x,hs,h,hx=>by
  simp only[ju] at h;unfold cQ at hs;rw[List.pairwise_cons] at hs;split at h
  ·cases j with
   |zero=>omega
   |succ j=>exact wV O (l:=l) (j:=j) hs.2 (by omega) (by simpa using hx)
  ·rename_i hy
   cases j with
   |zero=>simp at hx;subst hx;simpa using hy
   |succ j=>
    have h2:x∈l:=List.mem_of_getElem? (by simpa using hx);cases h':lt (key x) k
    ·rfl
    ·have:=O.trans (hs.1 x h2) h'
     exact absurd this hy
theorem GK (O:LO lt) {k:κ}:∀{l:List α},cQ lt key l→(∀x∈l,lt k (key x)=true)→cx key k l=none:=by
 intro l _ h;unfold cx;rw[List.find?_eq_none];intro x hx;have:=O.ne (h x hx);simp;exact fun e=>this e.symm
theorem qK (O:LO lt) {k:κ}:∀{l:List α},cQ lt key l→cx key k l=ai l[ju lt key k l]? fun x=>if key x=k then some x else none
 | [],_=>rfl
 |y::l,hs=>by
  unfold cQ at hs;rw[List.pairwise_cons] at hs;have ih:=qK O (k:=k) hs.2;simp only[ju];by_cases hy:lt (key y) k=true
  ·rw[if_pos hy]
   simp only[List.getElem?_cons_succ];rw[←ih];unfold cx;rw[List.find?_cons];simp [O.ne hy]
  ·rw[if_neg hy]
   simp only[List.getElem?_cons_zero,af];unfold cx;rw[List.find?_cons];by_cases he:key y=k
   ·simp [he]
   ·simp only[he,decide_false,if_false]
    have h1:lt k (key y)=true:=by
     rcases O.tri (key y) k with h|h|h
     ·exact absurd h hy
     ·exact absurd h he
     ·exact h
    exact GK O hs.2 (fun x hx=>O.trans h1 (hs.1 x hx))
theorem o5 {k:κ} {l:List α} (h:cx key k l=none):fF key k l=l:=by
 unfold cx at h;unfold fF;rw[List.find?_eq_none] at h;rw[List.filter_eq_self];intro x hx;have:=h x hx;simpa using this
theorem yq (O:LO lt) {k:κ} {l:List α} (h:∀x∈l,lt k (key x)=true):fF key k l=l:=by
 unfold fF;rw[List.filter_eq_self];intro x hx;have:=O.ne (h x hx);simp;exact fun e=>this e.symm
theorem oh (O:LO lt) {k:κ}:∀{l:List α} {x:α},cQ lt key l→l[ju lt key k l]? =some x→key x=k→fF key k l=l.take (ju lt key k l)++l.drop (ju lt key k l+1)
 | [],x,_,h,_=>by simp at h
 |y::l,x,hs,h,hk=>by
  unfold cQ at hs;rw[List.pairwise_cons] at hs;simp only[ju] at h⊢;by_cases hy:lt (key y) k=true
  ·rw[if_pos hy] at h⊢
   have:=oh O (k:=k) hs.2 (by simpa using h) hk;simp only[List.take_succ_cons,List.drop_succ_cons,List.cons_append];rw[←this];unfold fF;rw[List.filter_cons];simp [O.ne hy]
  ·rw[if_neg hy] at h⊢
   simp at h;subst h;simp only[List.take_zero,List.nil_append,List.drop_succ_cons,List.drop_zero,Nat.zero_add];have:=yq O (key:=key) (l:=l) (k:=k) (fun z hz=>by rw[←hk];exact hs.1 z hz);rw[←this];unfold fF;rw[List.filter_cons];simp [hk]
theorem I2 (O:LO lt) {x:α}:∀{l:List α},(∀y∈l,lt (key x) (key y)=true)→ig lt key x l=x::l
 | [],_=>rfl
 |y::l,h=>by simp only[ig];rw[if_pos (h y (by simp))]
theorem zJ (O:LO lt) {x:α}:∀{l:List α},cQ lt key l→cx key (key x) l=none→na lt key x l=l.take (ju lt key (key x) l)++x::l.drop (ju lt key (key x) l):=by
 intro l hs hf;unfold na;rw[o5 hf];induction l with
 |nil=>rfl
 |cons y l ih=>
  unfold cQ at hs;rw[List.pairwise_cons] at hs;have hf':¬key y=key x∧cx key (key x) l=none:=by
   unfold cx at hf⊢;rw[List.find?_cons] at hf;split at hf
   ·cases hf
   ·rename_i h;exact⟨by simpa using h,hf⟩
  simp only[ju,ig];by_cases hy:lt (key y) (key x)=true
  ·rw[if_pos hy,O.asymm hy]
   simp only[List.take_succ_cons,List.drop_succ_cons,List.cons_append,Bool.false_eq_true,if_false];rw[ih hs.2 hf'.2]
  ·rw[if_neg hy]
   have h1:lt (key x) (key y)=true:=by
    rcases O.tri (key y) (key x) with h|h|h
    ·exact absurd h hy
    ·exact absurd h hf'.1
    ·exact h
   rw[if_pos h1];rfl
theorem wv (O:LO lt) {x:α}:∀{a b:List α},(∀y∈a,lt (key y) (key x)=true)→ig lt key x (a++b)=a++ig lt key x b
 | [],b,_=>rfl
 |y::a,b,h=>by
  simp only[List.cons_append,ig];rw[O.asymm (h y (by simp))];simp only[Bool.false_eq_true,if_false];rw[wv O (fun z hz=>h z (by simp [hz]))]
theorem yS (O:LO lt) {x y:α} {l:List α} (hs:cQ lt key l) (h:l[ju lt key (key x) l]? =some y) (hk:key y=key x):na lt key x l=l.set (ju lt key (key x) l) x:=by
 unfold na;rw[oh O hs h hk];have hc:=(List.getElem?_eq_some_iff.1 h).1;have h1:∀z∈l.take (ju lt key (key x) l),lt (key z) (key x)=true:=by
  intro z hz;obtain⟨j,hj,e⟩:=List.getElem_of_mem hz;have hj':j<ju lt key (key x) l:=by simp at hj;omega
  exact sN hj' (by rw[←e];simp)
 have h2:∀z∈l.drop (ju lt key (key x) l+1),lt (key x) (key z)=true:=by
  intro z hz;unfold cQ at hs;rw[←List.take_append_drop (ju lt key (key x) l) l,List.pairwise_append] at hs;have hd:=hs.2.1;rw[List.drop_eq_getElem_cons hc,List.pairwise_cons] at hd;have:=hd.1 z hz;rw[List.getElem?_eq_getElem hc] at h;cases h;rw[←hk];exact this
 rw[wv O h1,I2 O h2,List.set_eq_take_append_cons_drop,if_pos hc]
theorem uA {x y:α}:∀{l:List α},y∈ig lt key x l↔y=x∨y∈l
 | [] =>by simp [ig]
 |z::l=>by
  simp only[ig];split
  ·simp
  ·simp only[List.mem_cons,uA (l:=l)]
   constructor
   ·rintro(h|h|h)
    ·exact Or.inr (Or.inl h)
    ·exact Or.inl h
    ·exact Or.inr (Or.inr h)
   ·rintro(h|h|h)
    ·exact Or.inr (Or.inl h)
    ·exact Or.inl h
    ·exact Or.inr (Or.inr h)
theorem gN {k:κ} {y:α} {l:List α}:y∈fF key k l↔y∈l∧key y≠k:=by
 unfold fF;rw[List.mem_filter];simp
theorem tP {x y:α} {l:List α}:y∈na lt key x l↔y=x∨(y∈l∧key y≠key x):=by
 unfold na;rw[uA,gN]
theorem iG {k:κ} {l:List α} (h:cQ lt key l):cQ lt key (fF key k l):=List.Pairwise.filter _ h
theorem v_ (O:LO lt) {x:α}:∀{l:List α},cQ lt key l→(∀y∈l,key y≠key x)→cQ lt key (ig lt key x l)
 | [],_,_=>by unfold cQ ig;simp
 |y::l,hs,hn=>by
  unfold cQ at hs⊢;rw[List.pairwise_cons] at hs;simp only[ig];split
  ·rename_i h
   rw[List.pairwise_cons];refine⟨fun z hz=> ?_,List.pairwise_cons.2 hs⟩;simp only[List.mem_cons] at hz;rcases hz with rfl|hz
   ·exact h
   ·exact O.trans h (hs.1 z hz)
  ·rename_i h
   rw[List.pairwise_cons];refine⟨fun z hz=> ?_,v_ O hs.2 (fun z hz=>hn z (by simp [hz]))⟩;rw[uA] at hz;rcases hz with rfl|hz
   ·rcases O.tri (key y) (key z) with h'|h'|h'
    ·exact h'
    ·exact absurd h' (hn y (by simp))
    ·exact absurd h' h
   ·exact hs.1 z hz
theorem oq (O:LO lt) {x:α} {l:List α} (h:cQ lt key l):cQ lt key (na lt key x l):=
 v_ O (iG h) (fun y hy=>(gN.1 hy).2)
theorem Dr {x:α} {k:κ} {l:List α} (hn:∀y∈l,key y≠key x):cx key k (ig lt key x l)=if key x=k then some x else cx key k l:=by
 induction l with
 |nil=>
  unfold cx ig;simp only[List.find?_cons,List.find?_nil];by_cases h:key x=k<;>simp [h]
 |cons y l ih=>
  simp only[ig];split
  ·unfold cx
   rw[List.find?_cons];by_cases h:key x=k<;>simp [h]
  ·have ih:=ih (fun z hz=>hn z (by simp [hz]))
   unfold cx at ih⊢;rw[List.find?_cons,List.find?_cons,ih];by_cases h:key y=k
   ·have:¬key x=k:=by intro e;exact hn y (by simp) (h.trans e.symm)
    simp [h,this]
   ·simp [h]
theorem pq {k k':κ} {l:List α}:cx key k' (fF key k l)=if k=k' then none else cx key k' l:=by
 unfold cx fF;rw[List.find?_filter];by_cases h:k=k'
 ·subst h
  rw[if_pos rfl,List.find?_eq_none];intro x _;simp
 ·rw[if_neg h]
  congr 1;funext x;by_cases hx:key x=k'
  ·have:¬key x=k:=by intro e;exact h (e.symm.trans hx)
   simp [hx];intro e;exact h e.symm
  ·simp [hx]
theorem vK {x:α} {k:κ} {l:List α}:cx key k (na lt key x l)=if key x=k then some x else cx key k l:=by
 unfold na;rw[Dr (fun y hy=>(gN.1 hy).2),pq];by_cases h:key x=k<;>simp [h]
theorem bS {k:κ} {l:List α} {x:α} (h:cx key k l=some x):x∈l∧key x=k:=by
 unfold cx at h;exact⟨List.mem_of_find?_eq_some h,by have:=List.find?_some h;simpa using this⟩
theorem lE (O:LO lt) {l:List α} {x:α} (hs:cQ lt key l) (h:x∈l):cx key (key x) l=some x:=by
 induction l with
 |nil=>cases h
 |cons y l ih=>
  unfold cQ at hs;rw[List.pairwise_cons] at hs;unfold cx at ih⊢;rw[List.find?_cons];simp only[List.mem_cons] at h;rcases h with rfl|h
  ·simp
  ·have:=O.ne (hs.1 x h)
   simp [this];exact ih hs.2 h
theorem rM {x:α}:∀l:List α,(ig lt key x l).length=l.length+1
 | [] =>rfl
 |y::l=>by simp only[ig];split<;>simp [rM l]
theorem ek {k:κ} {l:List α}:(fF key k l).length≤l.length:=List.length_filter_le _ _
theorem nc {x:α} {l:List α}:(na lt key x l).length≤l.length+1:=by
 unfold na;rw[rM];have:=ek (key:=key) (k:=key x) (l:=l);omega
theorem zk (O:LO lt):∀{l m:List α},cQ lt key l→cQ lt key m→(∀x,x∈l↔x∈m)→l=m
 | [], [],_,_,_=>rfl
 | [],y::m,_,_,h=>by have:=(h y).2 (by simp);cases this
 |x::l, [],_,_,h=>by have:=(h x).1 (by simp);cases this
 |x::l,y::m,hl,hm,h=>by
  unfold cQ at hl hm;rw[List.pairwise_cons] at hl hm;have hxy:x=y:=by
   have h1:=(h x).1 (by simp);have h2:=(h y).2 (by simp);simp only[List.mem_cons] at h1 h2;rcases h1 with h1|h1
   ·exact h1
   ·rcases h2 with h2|h2
    ·exact h2.symm
    ·have a:=hm.1 x h1
     have b:=hl.1 y h2;rw[O.asymm a] at b;cases b
  subst hxy;congr 1;refine zk O hl.2 hm.2 fun z=> ?_
  have hz:=h z;simp only[List.mem_cons] at hz;constructor
  ·intro hzl
   rcases hz.1 (Or.inr hzl) with rfl|h
   ·have:=hl.1 z hzl;rw[O.irrefl] at this;cases this
   ·exact h
  ·intro hzm
   rcases hz.2 (Or.inr hzm) with rfl|h
   ·have:=hm.1 z hzm;rw[O.irrefl] at this;cases this
   ·exact h
theorem oT (O:LO lt) {l m:List α} (hl:cQ lt key l) (hm:cQ lt key m) (h:∀k,cx key k l=cx key k m):l=m:=by
 refine zk O hl hm fun x=>⟨fun hx=> ?_,fun hx=> ?_⟩
 ·have:=lE O hl hx
  rw[h] at this;exact(bS this).1
 ·have:=lE O hm hx
  rw[←h] at this;exact(bS this).1
end
theorem FU {R:Type} (F:Nat→Int→Int→Option R) (p:Nat→Bool) (len c:Nat) (k0:Int→Option R) (hlen:len≤1099511627775)
 (h1:∀(n lo hi:Nat),lo<hi→hi≤len→F (n+1) (lo:Int) (hi:Int)=if p ((lo+hi)/2) then F n (((lo+hi)/2+1:Nat):Int) (hi:Int) else F n (lo:Int) (((lo+hi)/2:Nat):Int))
 (h0:∀(n lo:Nat),lo≤len→F (n+1) (lo:Int) (lo:Int)=k0 (lo:Int)) (hp:∀j,j<c→p j=true) (hn:∀j,c≤j→j<len→p j=false):
 ∀(n lo hi:Nat),hi - lo<n→lo≤c→c≤hi→hi≤len→F n (lo:Int) (hi:Int)=k0 (c:Int):=by
 intro n;induction n with
 |zero=>intro lo hi h;omega
 |succ n ih=>
  intro lo hi hd hlo hhi hle;by_cases h:lo<hi
  ·rw[h1 n lo hi h hle]
   by_cases hm:(lo+hi)/2<c
   ·rw[hp _ hm]
    exact ih _ _ (by omega) (by omega) hhi hle
   ·rw[hn _ (by omega) (by omega)]
    exact ih _ _ (by omega) hlo (by omega) (by omega)
  ·have e1:lo=c:=by omega
   have e2:hi=c:=by omega
   subst e1;subst e2;exact h0 n _ hle
theorem EL {lo hi:Nat} (h1:lo≤1099511627775) (h2:hi≤1099511627775):(IntKind.i64.wrap (Int.fdiv (IntKind.u64.wrap (IntKind.i64.wrap ((lo:Int)+(hi:Int)))) (2^(min (Int.toNat (1:Int)) (IntKind.bits .u64)))))=(((lo+hi)/2:Nat):Int):=by
 rw[bC (n:=(lo:Int)+hi) (by omega) (by omega)];have e1:IntKind.u64.wrap ((lo:Int)+(hi:Int))=(lo:Int)+hi:=by
  simp [IntKind.wrap,IntKind.bits,IntKind.signed];omega
 have e2:(2:Int)^(min (Int.toNat (1:Int)) (IntKind.bits .u64))=2:=by decide
 rw[e1,e2,Int.fdiv_eq_ediv_of_nonneg _ (by omega)];rw[bC (by omega) (by omega)];omega
end Go.Eng
set_option linter.unusedSimpArgs false
set_option linter.unusedVariables false
namespace Go.Eng
open Go
instance aar:DecidableEq Entry:=fun a b=>
 if h:a.name=b.name∧a.ino=b.ino then isTrue (by cases a;cases b;simp at h;simp [h.1,h.2]) else isFalse (by intro e;subst e;exact h ⟨rfl,rfl⟩)
theorem CF {b:Bool} {h:Decidable (b=true)}:(@ite _ (b=true) h (some true) (some false))=some b:=by
 split
 ·rename_i e;rw[e]
 ·rename_i e;have:b=false:=by simpa using e
  rw[this]
theorem loS:LO ltS:=⟨ky,fun h1 h2=>nZ h1 h2,yb⟩
abbrev fx (l:List Entry):Prop:=cQ ltS Entry.name l
abbrev cP (n:Str) (l:List Entry):Option Entry:=cx Entry.name n l
abbrev dn (n:Str) (l:List Entry):List Entry:=fF Entry.name n l
abbrev fS (x:Entry) (l:List Entry):List Entry:=na ltS Entry.name x l
abbrev mg (n:Str) (l:List Entry):Nat:=ju ltS Entry.name n l
def Sm (l:List Entry):Prop:=l.length≤1073741824∧∀e∈l,e.name.length≤1099511627775
theorem qk (a b:Str):(a==b)=decide (a=b):=by
 rw[Bool.eq_iff_iff,beq_iff_eq,decide_eq_true_eq]
theorem u6 {l:List Entry} {n:Str} (hl:l.length≤1073741824):ix l n=some (match cP n l with|some e=>(e.ino,true) |none=>(0,false)):=by
 unfold ix;refine(cu (l:=l) (fun m i (_:Unit)=>fv l n (fun z8=>some (z8,true)) (some ((0:Int),false)) m i) (fun k x s K=>if decide (x.name=n) then some (x.ino,true) else K s) (fun _=>some ((0:Int),false)) (by omega) (fun m k x u hk hx=> ?_) (fun m u=> ?_) ()).trans ?_
 ·simp only[fv]
  rw[dec_lt hk,bR,toNat_cast,hx,aX (by omega)];simp only[aq,af,bt,if_true,qk]
 ·simp only[fv]
  rw[b7 (Nat.le_refl _)];rfl
 ·unfold cP cx
  generalize 0=q;clear hl;revert q;induction l with
  |nil=>intro q;rfl
  |cons y l ih=>
   intro q;simp only[et,List.find?_cons];by_cases h:y.name=n
   ·simp [h]
   ·simp [h];simpa using ih (q+1)
theorem od {α R:Type} (p:α→Bool) (kk:List α→Option R):∀(l:List α) (k:Nat) (s:List α),s.length+l.length≤LIM→
 et (fun _ x s K=>if p x then aQ (s.length+[x].length) (K (s++[x])) else K s) kk k l s=kk (s++l.filter p)
 | [],_,s,_=>by simp [et]
 |x::l,k,s,h=>by
  simp only[et,List.filter_cons];simp only[List.length_cons] at h;split
  ·rw[bK (by simp;omega),od p kk l _ _ (by simp;omega)];simp
  ·rw[od p kk l _ _ (by omega)]
theorem iD {l:List Entry} {n:Str} (hl:l.length≤1073741824):dH l n=some (dn n l):=by
 unfold dH;refine(cu (l:=l) (fun m i s=>di l n (fun z8=>some z8) m i s) (fun _ x s K=>if !decide (x.name=n) then aQ (s.length+[x].length) (K (s++[x])) else K s) (fun z=>some z) (by omega) (fun m k x s hk hx=> ?_) (fun m s=> ?_) []).trans ?_
 ·simp only[di]
  rw[dec_lt hk,bR,toNat_cast,hx,aX (by omega)];simp only[aq,af,bt,if_true,qk]
 ·simp only[di]
  rw[b7 (Nat.le_refl _)];rfl
 ·rw[od _ _ _ _ _ (by unfold LIM;simp;omega)];rfl
theorem lI {α κ R:Type} {lt:κ→κ→Bool} {key:α→κ} (x:α) (kk:List α→Option R):∀(l:List α) (k:Nat) (s:Bool×List α),s.2.length+l.length+(if s.1 then 0 else 1)≤LIM→
 et (fun _ y (s:Bool×List α) K=>if !s.1 then (if lt (key x) (key y) then aQ (s.2.length+[x].length) (aQ ((s.2++[x]).length+[y].length) (K (true,(s.2++[x])++[y]))) else aQ (s.2.length+[y].length) (K (s.1,s.2++[y]))) else aQ (s.2.length+[y].length) (K (s.1,s.2++[y])))
  (fun s=>if !s.1 then aQ (s.2.length+[x].length) (kk (s.2++[x])) else kk s.2) k l s=kk (s.2++if s.1 then l else ig lt key x l)
 | [],_,(b,s),h=>by
  simp only[et];cases b
  ·simp only[Bool.not_false,if_true]
   rw[bK (by simp at h⊢;omega)];simp [ig]
  ·simp
 |y::l,k,(b,s),h=>by
  simp only[et];simp only[List.length_cons] at h;cases b
  ·simp only[Bool.not_false,if_true]
   simp at h;by_cases hy:lt (key x) (key y)=true
   ·rw[if_pos hy,bK (by simp;omega),bK (by simp;omega),lI x kk l _ _ (by simp;omega)]
    simp [ig,hy]
   ·rw[if_neg hy,bK (by simp;omega),lI x kk l _ _ (by simp;omega)]
    simp [ig,hy]
  ·simp only[Bool.not_true]
   simp at h;rw[if_neg (by simp),bK (by simp;omega),lI x kk l _ _ (by simp;omega)];simp
theorem Vp (a b:Str):(!(Op.bytesLess a b||a==b))=ltS b a:=by
 rw[qk];rcases yb a b with h|h|h
 ·have:=vG h
  have h:Op.bytesLess a b=true:=h;rw[h,this];rfl
 ·subst h
  have:=ky a;rw[this];simp
 ·have h1:=vG h
  have h2:=QB h;have h1:Op.bytesLess a b=false:=h1;rw[h,h1];simp;exact fun e=>h2 e.symm
theorem lr {l:List Entry} {n:Str} {i:Int} (hl:l.length≤1073741824):eF l n i=some (fS ⟨n,i⟩ l):=by
 unfold eF;rw[iD hl];simp only[af];have hfl:(dn n l).length≤l.length:=ek;unfold fS na;show _=some (ig ltS Entry.name ⟨n,i⟩ (dn n l));generalize dn n l=rest at hfl⊢;refine(cu (l:=rest) (fun m i' s=>dK n i rest (fun z16 z17=>ae (!z16) (aQ (z17.length+[(⟨n,i⟩:Entry)].length) (some (z17++[(⟨n,i⟩:Entry)]))) (some z17)) m s.1 i' s.2)
  (fun _ y (s:Bool×List Entry) K=>if !s.1 then (if ltS n y.name then aQ (s.2.length+[(⟨n,i⟩:Entry)].length) (aQ ((s.2++[(⟨n,i⟩:Entry)]).length+[y].length) (K (true,(s.2++[(⟨n,i⟩:Entry)])++[y]))) else aQ (s.2.length+[y].length) (K (s.1,s.2++[y]))) else aQ (s.2.length+[y].length) (K (s.1,s.2++[y])))
  (fun s=>if !s.1 then aQ (s.2.length+[(⟨n,i⟩:Entry)].length) (some (s.2++[(⟨n,i⟩:Entry)])) else some s.2) (by omega) (fun m k y s hk hx=> ?_) (fun m s=> ?_) (false, [])).trans ?_
 ·simp only[dK]
  rw[dec_lt hk,bR,toNat_cast,hx,aX (by omega)];simp only[aq,af,bt,if_true,Vp]
 ·simp only[dK]
  rw[b7 (Nat.le_refl _),ax];simp only[bt]
 ·rw[lI (lt:=ltS) (key:=Entry.name) (⟨n,i⟩:Entry) (fun z=>some z) _ _ _ (by unfold LIM;simp;omega)]
  rfl
theorem eqE (a b:Entry):((a.name==b.name)&&(a.ino==b.ino))=decide (a=b):=by
 rw[Bool.eq_iff_iff];cases a;cases b;simp
theorem qj {α R:Type} [DecidableEq α] (kr k0:Option R):∀(l m:List α) (k:Nat) (m0:List α),l.length=m.length→m0.length=k→et (fun k x (_:Unit) K=>ai (m0++m)[k]? fun y=>if decide (x=y) then K () else kr) (fun _=>k0) k l ()=if l=m then k0 else kr
 | [], [],_,_,_,_=>rfl
 | [],_::_,_,_,h,_=>by simp at h
 |_::_, [],_,_,h,_=>by simp at h
 |x::l,y::m,k,m0,h,hk=>by
  simp only[et];have e:(m0++y::m)[k]? =some y:=by subst hk;simp
  rw[e,af];have ih:=qj kr k0 l m (k+1) (m0++[y]) (by simpa using h) (by simp [hk]);have e2:m0++[y]++m=m0++y::m:=by simp
  rw[e2] at ih;by_cases hxy:x=y
  ·subst hxy
   simp only[decide_true,if_true,List.cons.injEq,true_and];exact ih
  ·simp [hxy]
theorem vw {a b:List Entry} (hl:a.length≤1073741824):mP a b=some (decide (a=b)):=by
 unfold mP;rw[bt];by_cases h:a.length=b.length
 ·have e:((List.length a:Int) !=(List.length b:Int))=false:=by rw[h];simp
  rw[e,if_neg (by simp)];refine(cu (l:=a) (fun m i (_:Unit)=>fq a b (some false) (some true) m i) (fun k x (_:Unit) K=>ai ([] ++b)[k]? fun y=>if decide (x=y) then K () else some false) (fun _=>some true) (by omega) (fun m k x u hk hx=> ?_) (fun m u=> ?_) ()).trans ?_
  ·simp only[fq]
   rw[dec_lt hk,bR,toNat_cast,hx,aX (by omega)];simp only[aq,af,bt,if_true,List.nil_append];have hk':k<b.length:=by omega
   rw[List.getElem?_eq_getElem hk'];simp only[af,eqE];by_cases hxy:x=b[k]<;>simp [hxy]
  ·simp only[fq]
   rw[b7 (Nat.le_refl _)];rfl
  ·rw[qj _ _ a b 0 [] h rfl]
   by_cases hab:a=b<;>simp [hab]
 ·have e:((List.length a:Int) !=(List.length b:Int))=true:=by rw[bne_iff_ne];omega
  rw[e,if_pos rfl];have:¬a=b:=fun e=>h (by rw[e])
  simp [this]
def jo:Option Str→List Entry→Bool
 |_, [] =>true
 |none,x::l=>jo (some x.name) l
 |some n,x::l=>ltS n x.name&&jo (some x.name) l
def fw (l:List Entry):Bool:=l.all (fun e=>cS e.name&&decide (1≤e.ino))&&jo none l
theorem rm:∀(l:List Entry) (p:Option Str),jo p l=true↔(fx l∧∀n,p=some n→∀x∈l,ltS n x.name=true)
 | [],p=>by simp [jo,fx,cQ]
 |x::l,p=>by
  have ih:=rm l (some x.name);have key:(fx l∧∀n,some x.name=some n→∀x∈l,ltS n x.name=true)↔fx (x::l):=by
   unfold fx cQ;rw[List.pairwise_cons];constructor
   ·rintro⟨h1,h2⟩;exact⟨h2 _ rfl,h1⟩
   ·rintro⟨h1,h2⟩;exact⟨h2,fun n e=>by cases e;exact h1⟩
  rw[key] at ih;cases p with
  |none=>simp only[jo,ih];simp
  |some n=>
   simp only[jo,Bool.and_eq_true,ih];constructor
   ·rintro⟨h1,h2⟩
    refine⟨h2,fun n' e=> ?_⟩;cases e;intro y hy;simp only[List.mem_cons] at hy;rcases hy with rfl|hy
    ·exact h1
    ·unfold fx cQ at h2
     rw[List.pairwise_cons] at h2;exact nZ h1 (h2.1 y hy)
   ·rintro⟨h1,h2⟩
    exact⟨h2 n rfl x (by simp),h1⟩
theorem fA (l:List Entry):fw l=true↔(fx l∧∀e∈l,cS e.name=true∧1≤e.ino):=by
 unfold fw;simp only[Bool.and_eq_true,List.all_eq_true,decide_eq_true_eq,rm];constructor
 ·rintro⟨h1,h2,_⟩;exact⟨h2,h1⟩
 ·rintro⟨h1,h2⟩;exact⟨h2,h1,fun n e=>by cases e⟩
def rU (m:List Entry):Option Str:=m.getLast?.map Entry.name
theorem tq {R:Type} (kr k0:Option R) (hc:R→Prop):∀(l:List Entry) (k:Nat) (m:List Entry),m.length=k→
 et (fun k (x:Entry) (_:Unit) K=>if cS x.name then (if decide (1≤x.ino) then (if 0<k then (ai (m++l)[k - 1]? fun y=>if ltS y.name x.name then K () else kr) else K ()) else kr) else kr) (fun _=>k0) k l ()=if l.all (fun e=>cS e.name&&decide (1≤e.ino))&&jo (rU m) l then k0 else kr
 | [],k,m,_=>by cases h:rU m<;>simp [et,jo]
 |x::l,k,m,hk=>by
  simp only[et];have ih:=tq kr k0 hc l (k+1) (m++[x]) (by simp [hk]);have e2:m++[x]++l=m++x::l:=by simp
  have e3:rU (m++[x])=some x.name:=by simp [rU]
  rw[e2,e3] at ih;rw[ih];simp only[List.all_cons];by_cases h1:cS x.name=true
  case neg=>simp [h1]
  ·by_cases h2:decide (1≤x.ino)=true
   case neg=>simp [h1,h2]
   ·simp only[h1,h2,if_true,Bool.true_and]
    rcases List.eq_nil_or_concat m with rfl|⟨m',y,rfl⟩
    ·simp at hk;subst hk
     simp [rU,jo]
    ·have hk':0<k:=by simp at hk;omega
     rw[if_pos hk'];have e:(m'++[y]++x::l)[k - 1]? =some y:=by
      have:k - 1=m'.length:=by simp at hk;omega
      rw[this];simp
     have e4:rU (m'.concat y)=some y.name:=by simp [rU]
     simp only[List.concat_eq_append] at e4⊢;rw[e,e4,af];simp only[jo];by_cases h3:Op.bytesLess y.name x.name=true<;>simp [ltS,h3]
theorem wu {k:Nat} (h:0<k) (h2:k≤1099511627775):IntKind.i64.wrap ((k:Int) - 1)=((k - 1:Nat):Int):=by
 rw[bC (by omega) (by omega)];omega
theorem ub {l:List Entry} (hs:Sm l):ep l=some (fw l):=by
 have hl:=hs.1;unfold ep;refine(cu (l:=l) (fun m i (_:Unit)=>dR l (some false) (some true) m i) (fun k (x:Entry) (_:Unit) K=>if cS x.name then (if decide (1≤x.ino) then (if 0<k then (ai ([] ++l)[k - 1]? fun y=>if ltS y.name x.name then K () else some false) else K ()) else some false) else some false) (fun _=>some true) (by omega) (fun m k x u hk hx=> ?_) (fun m u=> ?_) ()).trans ?_
 ·simp only[dR]
  have hn:=hs.2 x (List.mem_of_getElem? hx);rw[dec_lt hk,bR,toNat_cast,hx,aX (by omega)];simp only[aq,af,bt,if_true,List.nil_append,ie hn];cases h1:cS x.name
  ·simp
  ·have e1:decide (x.ino<(1:Int))= !decide (1≤x.ino):=by
    by_cases h:1≤x.ino
    ·have:¬x.ino<1:=by omega
     simp [h,this]
    ·have:x.ino<1:=by omega
     simp [h,this]
   rw[e1];cases h2:decide (1≤x.ino)
   ·simp
   ·simp only[Bool.not_true,Bool.false_eq_true,if_false,if_true]
    by_cases hk0:0<k
    ·have e2:decide ((k:Int)>(0:Int))=true:=by simp;omega
     rw[e2,if_pos rfl,if_pos hk0,wu hk0 (by omega),bR,toNat_cast,if_pos rfl];have hk1:k - 1<l.length:=by omega
     rw[List.getElem?_eq_getElem hk1];simp only[af];by_cases h3:Op.bytesLess l[k - 1].name x.name=true<;>simp [ltS,h3]
    ·have e2:decide ((k:Int)>(0:Int))=false:=by simp;omega
     rw[e2,if_neg (by simp),if_neg hk0]
 ·simp only[dR]
  rw[b7 (Nat.le_refl _)];rfl
 ·rw[tq (some false) (some true) (fun _=>True) l 0 [] rfl]
  unfold fw;simp only[rU,List.getLast?_nil,Option.map_none];exact CF
def xG (n:Str) (l:List Entry):Bool:=match l[mg n l]? with|some x=>decide (x.name=n) |none=>false
theorem nG {l:List Entry} {n:Str} (hs:fx l) (hl:l.length≤1073741824):lK l n=some ((mg n l:Int),xG n l):=by
 unfold lK;have hc:mg n l≤l.length:=sR l;have e0:∀(k0:Int→Option (Int×Bool)),dM l n k0 bo (0:Int) (List.length l:Int)=k0 (mg n l:Int):=by
  intro k0;refine FU (fun m a b=>dM l n k0 m a b) (fun j=>match l[j]? with|some x=>ltS x.name n|none=>false) l.length (mg n l) k0 (by omega) (fun m lo hi h1 h2=> ?_) (fun m lo h1=> ?_) (fun j hj=> ?_) (fun j hj hj2=> ?_) bo 0 l.length (hY (by omega)) (Nat.zero_le _) hc (Nat.le_refl _)
  ·simp only[dM]
   have hm:(lo+hi)/2<l.length:=by omega
   rw[dec_lt h1,EL (by omega) (by omega),bR,toNat_cast,List.getElem?_eq_getElem hm,aX (by omega)];have e1:decide ((1:Int)<0)=false:=rfl;simp only[e1,aq,ax,af,strings_Compare,s9,bt,if_true,Bool.false_eq_true,if_false]
  ·simp only[dM]
   rw[b7 (Nat.le_refl _),ax]
  ·have hj':j<l.length:=by omega
   have:=sN (lt:=ltS) (key:=Entry.name) hj (List.getElem?_eq_getElem hj');simp only[List.getElem?_eq_getElem hj'];exact this
  ·have:=wV loS (k:=n) hs hj (List.getElem?_eq_getElem hj2)
   simp only[List.getElem?_eq_getElem hj2];exact this
 rw[e0];unfold xG;by_cases h:mg n l<l.length
 ·rw[dec_lt h,bR,toNat_cast,List.getElem?_eq_getElem h]
  simp only[aq,af,strings_Compare,tW,qk]
 ·rw[b7 (by omega),ax,List.getElem?_eq_none (by omega)]
theorem vW {l:List Entry} {n:Str} (hs:fx l):cP n l=ai l[mg n l]? fun x=>if x.name=n then some x else none:=qK loS hs
theorem vg {l:List Entry} {n:Str} (hs:fx l) (hl:l.length≤1073741824):iy l n=some (match cP n l with|some e=>(e.ino,true) |none=>(0,false)):=by
 unfold iy;rw[nG hs hl,vW hs];simp only[af];unfold xG;rw[bR,toNat_cast];cases h:l[mg n l]? with
 |none=>rfl
 |some x=>
  simp only[af];by_cases he:x.name=n
  ·simp [he]
  ·simp [he]
theorem DO {R:Type} (x:Option R):both x x=x:=by unfold both;rw[if_pos rfl]
theorem kO {α R:Type} {l:List α} {x y r:Option R} (h1:l= [] →x=r) (h2:y=r):BM l x y=r:=by
 unfold BM;cases l with
 |nil=>rw[h1 rfl,h2];exact DO r
 |cons a l=>exact h2
end Go.Eng
set_option linter.unusedSimpArgs false
set_option linter.unusedVariables false
namespace Go.Eng
open Go
theorem wk {l:List Entry} {n:Str} (h:xG n l=true):∃x,l[mg n l]? =some x∧x.name=n:=by
 unfold xG at h;split at h
 ·rename_i x hx;exact⟨x,hx,by simpa using h⟩
 ·cases h
theorem wx {l:List Entry} {n:Str} (hs:fx l) (h:xG n l=false):cP n l=none:=by
 rw[vW hs];unfold xG at h;cases hx:l[mg n l]? with
 |none=>rfl
 |some x=>
  rw[hx] at h;have h:¬x.name=n:=by simpa using h
  simp [h]
theorem take_set {α:Type} {a b:List α} {c:Nat} (h:a.length=c):(a++b).take c=a:=by subst h;simp
theorem drop_set {α:Type} {a b:List α} {c:Nat} (h:a.length=c):(a++b).drop c=b:=by subst h;simp
theorem lW {l:List Entry} {n:Str} (hs:fx l) (hl:l.length≤1073741824):eG l n=some (dn n l):=by
 unfold eG;rw[nG hs hl];simp only[af];cases h:xG n l
 ·rw[Bool.not_false,aq]
  have e9:dn n l=l:=o5 (wx hs h);rw[e9];refine kO (fun e=>by subst e;rfl) ?_;rw[bK (by unfold LIM;simp;omega)];rfl
 ·obtain⟨x,hx,hn⟩:=wk h
  have e9:dn n l=l.take (mg n l)++l.drop (mg n l+1):=oh loS hs hx hn;rw[Bool.not_true,ax,e9];have hc:=(List.getElem?_eq_some_iff.1 hx).1;generalize mg n l=c at hx hc;have e1:IntKind.i64.wrap ((List.length l:Int) - 1)=((l.length - 1:Nat):Int):=by rw[bC (by omega) (by omega)];omega
  rw[e1,aX (by omega)];simp only[toNat_cast];have hA:(l.take c).length=c:=by simp;omega
  have hmin:min (l.take c).length (List.replicate (l.length - 1) (⟨[],0⟩:Entry)).length=c:=by simp;omega
  simp only[hmin,toNat_cast];have hAB:(l.take c).take (List.replicate (l.length - 1) (⟨[],0⟩:Entry)).length=l.take c:=by rw[List.take_take];congr 1;simp;omega
  simp only[hAB];have hB:(List.replicate (l.length - 1) (⟨[],0⟩:Entry)).drop (l.take c).length=List.replicate (l.length - 1 - c) (⟨[],0⟩:Entry):=by rw[hA,List.drop_replicate]
  simp only[hB];have hlen:(l.take c++List.replicate (l.length - 1 - c) (⟨[],0⟩:Entry)).length=l.length - 1:=by simp;omega
  simp only[hlen];rw[aE (by simp),bK (by unfold LIM;omega),aE (by simp;omega),aE (by simp;omega),aE (by simp;omega),aE (by simp;omega),take_set hA,drop_set hA];have hD:(l.drop (c+1)).take (l.length - 1 - c)=l.drop (c+1):=by rw[List.take_of_length_le];simp;omega
  have hE:(List.replicate (l.length - 1 - c) (⟨[],0⟩:Entry)).drop (min (l.drop (c+1)).length (l.length - 1 - c))= [] :=by rw[List.drop_eq_nil_of_le];simp;omega
  rw[hD,hE,List.append_nil]
theorem lC {l:List Entry} {n:Str} {i:Int} (hs:fx l) (hl:l.length≤1073741824):dE l n i=some (fS ⟨n,i⟩ l):=by
 unfold dE;rw[nG hs hl];simp only[af];have hc:mg n l≤l.length:=sR l;cases h:xG n l
 ·have hf:=wx hs h
  have e9:fS (⟨n,i⟩:Entry) l=l.take (mg n l)++⟨n,i⟩::l.drop (mg n l):=zJ loS hs hf;rw[e9];generalize mg n l=c at hc;refine kO (fun e=> ?_) ?_
  ·subst e
   have:c=0:=by simpa using hc
   subst this;rfl
  ·rw[bK (by unfold LIM;simp;omega)]
   simp only[ax,List.nil_append,List.length_singleton];have e1:IntKind.i64.wrap ((List.length l:Int)+((1:Nat):Int))=((l.length+1:Nat):Int):=by rw[bC (by omega) (by omega)];omega
   have e2:IntKind.i64.wrap ((c:Int)+((1:Nat):Int))=((c+1:Nat):Int):=by rw[bC (by omega) (by omega)];omega
   simp only[e1,e2,toNat_cast];rw[aE (by simp;omega),aR (by simp)];by_cases hlen:c=l.length
   ·subst hlen
    rw[aE (by simp),bK (by unfold LIM;omega)];simp
   ·rw[aR (by simp;omega)]
    refine C1 fun cp hcp=> ?_
    by_cases hcap:cp<l.length+1
    ·rw[aE (by simp;omega),aE (by simp;omega)]
     have e3:IntKind.i64.wrap (((l.length+1:Nat):Int) - (c:Int))=((l.length+1 - c:Nat):Int):=by rw[bC (by omega) (by omega)];omega
     simp only[e3,toNat_cast,List.drop_zero];have hA:(l.take c).length=c:=by simp;omega
     have hT:(l.take c++List.replicate (l.length+1 - c) (⟨[],0⟩:Entry)).take c=l.take c:=take_set hA;have hD:(l.take c++List.replicate (l.length+1 - c) (⟨[],0⟩:Entry)).drop c=List.replicate (l.length+1 - c) (⟨[],0⟩:Entry):=drop_set hA;have hL:(l.take c++List.replicate (l.length+1 - c) (⟨[],0⟩:Entry)).length=l.length+1:=by simp;omega
     simp only[hT,hD,hL];have hX:[(⟨n,i⟩:Entry)].take (l.length+1 - c)=[⟨n,i⟩]:=by rw[List.take_of_length_le];simp;omega
     have hM:min 1 (l.length+1 - c)=1:=by omega
     have hR:(List.replicate (l.length+1 - c) (⟨[],0⟩:Entry)).drop 1=List.replicate (l.length - c) (⟨[],0⟩:Entry):=by rw[List.drop_replicate];congr 1;omega
     simp only[hX,hM,hR];have hL2:(l.take c++([(⟨n,i⟩:Entry)]++List.replicate (l.length - c) (⟨[],0⟩:Entry))).length=l.length+1:=by simp;omega
     simp only[hL2];have hM2:min (l.length - c) (l.length+1 - (c+1))=l.length - c:=by omega
     simp only[hM2];rw[aE (by simp),bK (by unfold LIM;omega),aE (by simp;omega),aE (by simp;omega),aE (by simp;omega),aE (by simp;omega),aE (by simp;omega),aE (by simp;omega),aE (by simp;omega),aE (by simp;omega),aE (by simp;omega)];have e4:l.take c++([(⟨n,i⟩:Entry)]++List.replicate (l.length - c) (⟨[],0⟩:Entry))=(l.take c++[(⟨n,i⟩:Entry)])++List.replicate (l.length - c) (⟨[],0⟩:Entry):=by simp
     have hA1:(l.take c++[(⟨n,i⟩:Entry)]).length=c+1:=by simp;omega
     have hT4:(l.take c++([(⟨n,i⟩:Entry)]++List.replicate (l.length - c) (⟨[],0⟩:Entry))).take (c+1)=l.take c++[(⟨n,i⟩:Entry)]:=by rw[e4];exact take_set hA1
     have hD4:(l.take c++([(⟨n,i⟩:Entry)]++List.replicate (l.length - c) (⟨[],0⟩:Entry))).drop (c+1+(l.length - c))= [] :=by rw[List.drop_eq_nil_of_le];rw[hL2];omega
     have hQ:(l.drop c).take (l.length - c)=l.drop c:=by rw[List.take_of_length_le];simp
     rw[hT4,hD4,hQ];simp
    ·rw[aR (by simp;omega)]
     have hM:min (l.length+1 - c) (l.length+1 - (c+1))=l.length - c:=by omega
     simp only[hM,Nat.zero_add];have hQ:(l.drop c).take (l.length - c)=l.drop c:=by rw[List.take_of_length_le];simp
     have hX:[(⟨n,i⟩:Entry)].take (l.length+1 - c)=[⟨n,i⟩]:=by rw[List.take_of_length_le];simp;omega
     have hM2:min 1 (l.length+1 - c)=1:=by omega
     simp only[hQ,hX,hM2,List.drop_zero];rw[aE (by simp;omega),aE (by simp;omega),aE (by simp),aE (by simp;omega),aE (by simp;omega),aE (by simp;omega),aE (by simp;omega)];by_cases hc1:c+1≤l.length
     ·rw[aE (by simp;omega),aR (K5 (by omega)),aE (by simp;omega),aE (by simp;omega),aE (by simp;omega)]
      have hT1:(l.take (c+1)++l.drop c).take c=l.take c:=by rw[List.take_append_of_le_length (by simp;omega),List.take_take];congr 1;omega
      have hD1:((l.take (c+1)++l.drop c).drop c).drop 1=l.drop c:=by rw[List.drop_drop];exact drop_set (by simp;omega)
      rw[hT1,hD1];rw[List.take_of_length_le (by simp;omega)];simp
     ·omega
 ·obtain⟨x,hx,hn⟩:=wk h
  have e9:fS (⟨n,i⟩:Entry) l=l.set (mg n l) ⟨n,i⟩:=yS loS hs hx hn;rw[e9];have hc':=(List.getElem?_eq_some_iff.1 hx).1;generalize mg n l=c at hx hc hc';refine kO (fun e=>by subst e;simp at hx) ?_;rw[bK (by unfold LIM;simp;omega)];simp only[aq,List.nil_append,toNat_cast,hx,af];rw[aE (by simp;omega)];subst hn;rfl
end Go.Eng
set_option linter.unusedSimpArgs false
set_option linter.unusedVariables false
namespace Go.Eng
open Go
instance ani:DecidableEq ah:=fun a b=>
 if h:a.ino=b.ino∧a.kind=b.kind∧a.aL=b.aL∧a.data=b.data∧a.parent=b.parent∧a.entries=b.entries then isTrue (by cases a;cases b;simp at h;simp [h]) else isFalse (by intro e;subst e;exact h ⟨rfl,rfl,rfl,rfl,rfl,rfl⟩)
instance aqH:DecidableEq Fs:=fun a b=>
 if h:a.ak=b.ak∧a.aw=b.aw∧a.next=b.next∧a.aa=b.aa then isTrue (by cases a;cases b;simp at h;simp [h]) else isFalse (by intro e;subst e;exact h ⟨rfl,rfl,rfl,rfl⟩)
abbrev cK (l:List ah):Prop:=cQ ltI ah.ino l
abbrev al (n:Int) (l:List ah):Option ah:=cx ah.ino n l
abbrev ij (n:Int) (l:List ah):List ah:=fF ah.ino n l
abbrev bO (x:ah) (l:List ah):List ah:=na ltI ah.ino x l
abbrev jq (n:Int) (l:List ah):Nat:=ju ltI ah.ino n l
def eN:ah:=⟨0,0,0, [],0, []⟩
def aB (n:Int) (l:List ah):ah:=(al n l).getD eN
def Fs.set (f:Fs) (x:ah):Fs:=⟨f.ak,f.aw,f.next,bO x f.aa⟩
def Fs.drop (f:Fs) (n:Int):Fs:=⟨f.ak,f.aw,f.next,ij n f.aa⟩
def w7 (n:Int) (l:List ah):Bool:=match l[jq n l]? with|some x=>decide (x.ino=n) |none=>false
theorem vS {l:List ah} {n:Int} (hs:cK l):al n l=ai l[jq n l]? fun x=>if x.ino=n then some x else none:=qK loI hs
theorem wi {l:List ah} {n:Int} (h:w7 n l=true):∃x,l[jq n l]? =some x∧x.ino=n:=by
 unfold w7 at h;split at h
 ·rename_i x hx;exact⟨x,hx,by simpa using h⟩
 ·cases h
theorem wE {l:List ah} {n:Int} (hs:cK l) (h:w7 n l=false):al n l=none:=by
 rw[vS hs];unfold w7 at h;cases hx:l[jq n l]? with
 |none=>rfl
 |some x=>
  rw[hx] at h;have h:¬x.ino=n:=by simpa using h
  simp [h]
theorem nH {f:Fs} {n:Int} (hs:cK f.aa) (hl:f.aa.length≤1073741824):lM f n=some ((jq n f.aa:Int),w7 n f.aa):=by
 unfold lM;generalize f.aa=l at hs hl;have hc:jq n l≤l.length:=sR l;have e0:∀(k0:Int→Option (Int×Bool)),cv l n k0 bo (0:Int) (List.length l:Int)=k0 (jq n l:Int):=by
  intro k0;refine FU (fun m a b=>cv l n k0 m a b) (fun j=>match l[j]? with|some x=>decide (x.ino<n) |none=>false) l.length (jq n l) k0 (by omega) (fun m lo hi h1 h2=> ?_) (fun m lo h1=> ?_) (fun j hj=> ?_) (fun j hj hj2=> ?_) bo 0 l.length (hY (by omega)) (Nat.zero_le _) hc (Nat.le_refl _)
  ·simp only[cv]
   have hm:(lo+hi)/2<l.length:=by omega
   rw[dec_lt h1,EL (by omega) (by omega),bR,toNat_cast,List.getElem?_eq_getElem hm,aX (by omega)];have e1:decide ((1:Int)<0)=false:=rfl;simp only[e1,aq,ax,af,bt,if_true,Bool.false_eq_true,if_false,bne_self_eq_false];by_cases h9:l[(lo+hi)/2].ino<n
   ·simp [h9]
   ·simp [h9]
  ·simp only[cv]
   rw[b7 (Nat.le_refl _),ax]
  ·have hj':j<l.length:=by omega
   have:=sN (lt:=ltI) (key:=ah.ino) hj (List.getElem?_eq_getElem hj');simp only[List.getElem?_eq_getElem hj'];exact this
  ·have:=wV loI (k:=n) hs hj (List.getElem?_eq_getElem hj2)
   simp only[List.getElem?_eq_getElem hj2];exact this
 rw[e0];unfold w7;by_cases h:jq n l<l.length
 ·rw[dec_lt h,bR,toNat_cast,List.getElem?_eq_getElem h]
  simp only[aq,af,bne_self_eq_false,ax,bt];by_cases h1:l[jq n l].ino<n
  ·have:¬l[jq n l].ino=n:=by omega
   simp [h1,this]
  ·by_cases h2:l[jq n l].ino>n
   ·have:¬l[jq n l].ino=n:=by omega
    simp [h1,h2,this]
   ·have:l[jq n l].ino=n:=by omega
    simp [h1,h2,this]
 ·rw[b7 (by omega),ax,List.getElem?_eq_none (by omega)]
theorem fT {f:Fs} {n:Int} (hs:cK f.aa) (hl:f.aa.length≤1073741824):bz f n=some (aB n f.aa,(al n f.aa).isSome):=by
 unfold bz aB;rw[nH hs hl,vS hs];simp only[af];unfold w7;rw[bR,toNat_cast];cases h:f.aa[jq n f.aa]? with
 |none=>rfl
 |some x=>
  simp only[af];by_cases he:x.ino=n
  ·simp [he]
  ·simp [he];rfl
theorem cU {f:Fs} {x:ah} (hs:cK f.aa) (hl:f.aa.length≤1073741824):bG f x=some (f.set x):=by
 unfold bG Fs.set;rw[nH hs hl];simp only[af];have hc:jq x.ino f.aa≤f.aa.length:=sR f.aa;generalize f.aa=l at hs hl hc;cases h:w7 x.ino l
 ·have hf:=wE hs h
  have e9:bO x l=l.take (jq x.ino l)++x::l.drop (jq x.ino l):=zJ loI hs hf;rw[e9];generalize jq x.ino l=c at hc;refine kO (fun e=> ?_) ?_
  ·subst e
   have:c=0:=by simpa using hc
   subst this;rfl
  ·rw[bK (by unfold LIM;simp;omega)]
   simp only[ax,List.nil_append,List.length_singleton];have e1:IntKind.i64.wrap ((List.length l:Int)+((1:Nat):Int))=((l.length+1:Nat):Int):=by rw[bC (by omega) (by omega)];omega
   have e2:IntKind.i64.wrap ((c:Int)+((1:Nat):Int))=((c+1:Nat):Int):=by rw[bC (by omega) (by omega)];omega
   simp only[e1,e2,toNat_cast];rw[aE (by simp;omega),aR (by simp)];by_cases hlen:c=l.length
   ·subst hlen
    rw[aE (by simp),bK (by unfold LIM;omega)];simp
   ·rw[aR (by simp;omega)]
    refine C1 fun cp hcp=> ?_
    by_cases hcap:cp<l.length+1
    ·rw[aE (by simp;omega),aE (by simp;omega)]
     have e3:IntKind.i64.wrap (((l.length+1:Nat):Int) - (c:Int))=((l.length+1 - c:Nat):Int):=by rw[bC (by omega) (by omega)];omega
     simp only[e3,toNat_cast,List.drop_zero];have hA:(l.take c).length=c:=by simp;omega
     have hT:(l.take c++List.replicate (l.length+1 - c) (⟨0,0,0, [],0,([] :List Entry)⟩:ah)).take c=l.take c:=take_set hA;have hD:(l.take c++List.replicate (l.length+1 - c) (⟨0,0,0, [],0,([] :List Entry)⟩:ah)).drop c=List.replicate (l.length+1 - c) (⟨0,0,0, [],0,([] :List Entry)⟩:ah):=drop_set hA;have hL:(l.take c++List.replicate (l.length+1 - c) (⟨0,0,0, [],0,([] :List Entry)⟩:ah)).length=l.length+1:=by simp;omega
     simp only[hT,hD,hL];have hX:[x].take (l.length+1 - c)=[x]:=by rw[List.take_of_length_le];simp;omega
     have hM:min 1 (l.length+1 - c)=1:=by omega
     have hR:(List.replicate (l.length+1 - c) (⟨0,0,0, [],0,([] :List Entry)⟩:ah)).drop 1=List.replicate (l.length - c) (⟨0,0,0, [],0,([] :List Entry)⟩:ah):=by rw[List.drop_replicate];congr 1;omega
     simp only[hX,hM,hR];have hL2:(l.take c++([x]++List.replicate (l.length - c) (⟨0,0,0, [],0,([] :List Entry)⟩:ah))).length=l.length+1:=by simp;omega
     simp only[hL2];have hM2:min (l.length - c) (l.length+1 - (c+1))=l.length - c:=by omega
     simp only[hM2];rw[aE (by simp),bK (by unfold LIM;omega),aE (by simp;omega),aE (by simp;omega),aE (by simp;omega),aE (by simp;omega),aE (by simp;omega),aE (by simp;omega),aE (by simp;omega),aE (by simp;omega),aE (by simp;omega)];have e4:l.take c++([x]++List.replicate (l.length - c) (⟨0,0,0, [],0,([] :List Entry)⟩:ah))=(l.take c++[x])++List.replicate (l.length - c) (⟨0,0,0, [],0,([] :List Entry)⟩:ah):=by simp
     have hA1:(l.take c++[x]).length=c+1:=by simp;omega
     have hT4:(l.take c++([x]++List.replicate (l.length - c) (⟨0,0,0, [],0,([] :List Entry)⟩:ah))).take (c+1)=l.take c++[x]:=by rw[e4];exact take_set hA1
     have hD4:(l.take c++([x]++List.replicate (l.length - c) (⟨0,0,0, [],0,([] :List Entry)⟩:ah))).drop (c+1+(l.length - c))= [] :=by rw[List.drop_eq_nil_of_le];rw[hL2];omega
     have hQ:(l.drop c).take (l.length - c)=l.drop c:=by rw[List.take_of_length_le];simp
     rw[hT4,hD4,hQ];simp
    ·rw[aR (by simp;omega)]
     have hM:min (l.length+1 - c) (l.length+1 - (c+1))=l.length - c:=by omega
     simp only[hM,Nat.zero_add];have hQ:(l.drop c).take (l.length - c)=l.drop c:=by rw[List.take_of_length_le];simp
     have hX:[x].take (l.length+1 - c)=[x]:=by rw[List.take_of_length_le];simp;omega
     have hM2:min 1 (l.length+1 - c)=1:=by omega
     simp only[hQ,hX,hM2,List.drop_zero];rw[aE (by simp;omega),aE (by simp;omega),aE (by simp),aE (by simp;omega),aE (by simp;omega),aE (by simp;omega),aE (by simp;omega)];have hc1:c+1≤l.length:=by omega
     rw[aE (by simp;omega),aR (K5 (by omega)),aE (by simp;omega),aE (by simp;omega),aE (by simp;omega)];have hT1:(l.take (c+1)++l.drop c).take c=l.take c:=by rw[List.take_append_of_le_length (by simp;omega),List.take_take];congr 1;omega
     have hD1:((l.take (c+1)++l.drop c).drop c).drop 1=l.drop c:=by rw[List.drop_drop];exact drop_set (by simp;omega)
     rw[hT1,hD1];rw[List.take_of_length_le (by simp;omega)];simp
 ·obtain⟨y,hx,hn⟩:=wi h
  have e9:bO x l=l.set (jq x.ino l) x:=yS loI hs hx hn;rw[e9];have hc':=(List.getElem?_eq_some_iff.1 hx).1;generalize jq x.ino l=c at hx hc hc';refine kO (fun e=>by subst e;simp at hx) ?_;rw[bK (by unfold LIM;simp;omega)];simp only[aq,List.nil_append,toNat_cast,hx,af];rw[aE (by simp;omega)]
theorem sX {α κ R:Type} [DecidableEq κ] {key:α→κ} {k:κ} (kr:α→Option R) (k0:Option R):∀(l:List α) (i:Nat) (s:Unit),et (fun _ x s K=>if decide (key x=k) then kr x else K s) (fun _=>k0) i l s=match cx key k l with|some x=>kr x|none=>k0
 | [],_,_=>rfl
 |x::l,i,s=>by
  simp only[et];unfold cx;rw[List.find?_cons];by_cases h:key x=k
  ·simp [h]
  ·simp only[h,decide_false,Bool.false_eq_true,if_false]
   have:=sX (key:=key) (k:=k) kr k0 l (i+1) s;unfold cx at this;rw[this]
theorem eX (a b:Int):(a==b)=decide (a=b):=by rw[Bool.eq_iff_iff,beq_iff_eq,decide_eq_true_eq]
theorem dp (a b:Int):(a !=b)= !decide (a=b):=by rw[bne,eX]
theorem fe {f:Fs} {n:Int} (hl:f.aa.length≤1073741824):bu f n=some (aB n f.aa,(al n f.aa).isSome):=by
 unfold bu;refine(cu (l:=f.aa) (fun m i (_:Unit)=>fY n f (fun z10=>some (z10,true)) (some ((⟨0,0,0, [],0,([] :List Entry)⟩:ah),false)) m i) (fun _ (x:ah) s K=>if decide (x.ino=n) then some (x,true) else K s) (fun _=>some (eN,false)) (by omega) (fun m k x u hk hx=> ?_) (fun m u=> ?_) ()).trans ?_
 ·simp only[fY]
  rw[dec_lt hk,bR,toNat_cast,hx,aX (by omega)];simp only[aq,af,bt,if_true,eX]
 ·simp only[fY]
  rw[b7 (Nat.le_refl _)];rfl
 ·rw[sX (key:=ah.ino) (k:=n) (fun x=>some (x,true)) _]
  unfold aB al;cases cx ah.ino n f.aa<;>rfl
theorem oO {f:Fs} {n:Int} (hl:f.aa.length≤1073741824):kq f n=some (f.drop n):=by
 unfold kq;refine(cu (l:=f.aa) (fun m i s=>eC n f (fun z11=>some (⟨f.ak,f.aw,f.next,z11⟩:Fs)) m i s) (fun _ (x:ah) s K=>if !decide (x.ino=n) then aQ (s.length+[x].length) (K (s++[x])) else K s) (fun z11=>some (⟨f.ak,f.aw,f.next,z11⟩:Fs)) (by omega) (fun m k x s hk hx=> ?_) (fun m s=> ?_) []).trans ?_
 ·simp only[eC]
  rw[dec_lt hk,bR,toNat_cast,hx,aX (by omega)];simp only[aq,af,bt,if_true,dp]
 ·simp only[eC]
  rw[b7 (Nat.le_refl _)];rfl
 ·rw[od _ _ _ _ _ (by unfold LIM;simp;omega)];rfl
theorem dq {f:Fs} {x:ah} (hl:f.aa.length≤1073741824):bN f x=some (f.set x):=by
 unfold bN;rw[oO hl];simp only[af];have hfl:(ij x.ino f.aa).length≤f.aa.length:=ek (key:=ah.ino);unfold Fs.set Fs.drop bO na;show _=some (⟨f.ak,f.aw,f.next,ig ltI ah.ino x (ij x.ino f.aa)⟩:Fs);generalize ij x.ino f.aa=rest at hfl⊢;refine(cu (l:=rest) (fun m i s=>eu rest x (fun z18 z19=>ae (!z18) (aQ (z19.length+[x].length) (some (⟨f.ak,f.aw,f.next,(z19++[x])⟩:Fs))) (some (⟨f.ak,f.aw,f.next,z19⟩:Fs))) m s.1 i s.2)
  (fun _ y (s:Bool×List ah) K=>if !s.1 then (if ltI x.ino y.ino then aQ (s.2.length+[x].length) (aQ ((s.2++[x]).length+[y].length) (K (true,(s.2++[x])++[y]))) else aQ (s.2.length+[y].length) (K (s.1,s.2++[y]))) else aQ (s.2.length+[y].length) (K (s.1,s.2++[y])))
  (fun s=>if !s.1 then aQ (s.2.length+[x].length) (some (⟨f.ak,f.aw,f.next,s.2++[x]⟩:Fs)) else some (⟨f.ak,f.aw,f.next,s.2⟩:Fs)) (by omega) (fun m k y s hk hx=> ?_) (fun m s=> ?_) (false, [])).trans ?_
 ·simp only[eu]
  rw[dec_lt hk,bR,toNat_cast,hx,aX (by omega)];simp only[aq,af,bt,if_true,ltI,gt_iff_lt]
 ·simp only[eu]
  rw[b7 (Nat.le_refl _),ax];simp only[bt]
 ·rw[lI (lt:=ltI) (key:=ah.ino) x (fun z=>some (⟨f.ak,f.aw,f.next,z⟩:Fs)) _ _ _ (by unfold LIM;simp;omega)]
  rfl
theorem aeA (a b:ah):decide (a=b)=(decide (a.ino=b.ino)&&(decide (a.kind=b.kind)&&(decide (a.aL=b.aL)&&(decide (a.data=b.data)&&(decide (a.parent=b.parent)&&decide (a.entries=b.entries)))))):=by
 rw[Bool.eq_iff_iff];cases a;cases b;simp
theorem xo {a b:ah} (hl:a.entries.length≤1073741824):oa a b=some (decide (a=b)):=by
 unfold oa;rw[vw hl,aeA];simp only[eX,qk,bt,af];by_cases h1:a.ino=b.ino
 ·by_cases h2:a.kind=b.kind
  ·by_cases h3:a.aL=b.aL
   ·by_cases h4:a.data=b.data
    ·by_cases h5:a.parent=b.parent
     ·simp [h1,h2,h3,h4,h5]
     ·simp [h1,h2,h3,h4,h5]
    ·simp [h1,h2,h3,h4]
   ·simp [h1,h2,h3]
  ·simp [h1,h2]
 ·simp [h1]
theorem vh {a b:List ah} (hl:a.length≤1073741824) (he:∀x∈a,x.entries.length≤1073741824):mh a b=some (decide (a=b)):=by
 unfold mh;rw[bt];by_cases h:a.length=b.length
 ·have e:((List.length a:Int) !=(List.length b:Int))=false:=by rw[h];simp
  rw[e,if_neg (by simp)];refine(cu (l:=a) (fun m i (_:Unit)=>ft a b (some false) (some true) m i) (fun k x (_:Unit) K=>ai ([] ++b)[k]? fun y=>if decide (x=y) then K () else some false) (fun _=>some true) (by omega) (fun m k x u hk hx=> ?_) (fun m u=> ?_) ()).trans ?_
  ·simp only[ft]
   rw[dec_lt hk,bR,toNat_cast,hx,aX (by omega)];simp only[aq,af,bt,if_true,List.nil_append];have hk':k<b.length:=by omega
   rw[List.getElem?_eq_getElem hk'];simp only[af];rw[xo (he x (List.mem_of_getElem? hx))];simp only[af];by_cases hxy:x=b[k]<;>simp [hxy]
  ·simp only[ft]
   rw[b7 (Nat.le_refl _)];rfl
  ·rw[qj _ _ a b 0 [] h rfl]
   by_cases hab:a=b<;>simp [hab]
 ·have e:((List.length a:Int) !=(List.length b:Int))=true:=by rw[bne_iff_ne];omega
  rw[e,if_pos rfl];have:¬a=b:=fun e=>h (by rw[e])
  simp [this]
theorem aeD (a b:Fs):decide (a=b)=(decide (a.ak=b.ak)&&(decide (a.aw=b.aw)&&(decide (a.next=b.next)&&decide (a.aa=b.aa)))):=by
 rw[Bool.eq_iff_iff];cases a;cases b;simp
theorem oA {a b:Fs} (hl:a.aa.length≤1073741824) (he:∀x∈a.aa,x.entries.length≤1073741824):cr a b=some (decide (a=b)):=by
 unfold cr;rw[vh hl he,aeD];simp only[eX,bt,af];by_cases h1:a.ak=b.ak
 ·by_cases h2:a.aw=b.aw
  ·by_cases h3:a.next=b.next
   ·simp [h1,h2,h3]
   ·simp [h1,h2,h3]
  ·simp [h1,h2]
 ·simp [h1]
end Go.Eng
set_option linter.unusedSimpArgs false
set_option linter.unusedVariables false
namespace Go.Eng
open Go
def bytesOf (l:List ah):Int:=(l.map fun x=>if x.kind=1 then (x.data.length:Int) else 0).sum
def dZ (f:Fs) (a b:Int):Bool:=decide ((f.aa.length:Int)+a≤f.ak)&&decide (bytesOf f.aa+b≤f.aw)
structure SmF (f:Fs):Prop where
 len:f.aa.length≤1073741824
 data:∀x∈f.aa,x.data.length≤1073741824
 dg:∀x∈f.aa,x.entries.length≤1073741824
 names:∀x∈f.aa,∀e∈x.entries,e.name.length≤1099511627775
theorem mz (x:ah) (l:List ah):bytesOf (x::l)=(if x.kind=1 then (x.data.length:Int) else 0)+bytesOf l:=by simp [bytesOf]
theorem pg (l:List ah):0≤bytesOf l:=by
 induction l with
 |nil=>simp [bytesOf]
 |cons x l ih=>rw[mz];split<;>omega
theorem B6 {N:Nat} {l:List ah} (h:∀x∈l,x.data.length≤N):bytesOf l≤((l.length*N:Nat):Int):=by
 induction l with
 |nil=>simp [bytesOf]
 |cons x l ih=>
  have h1:=ih (fun y hy=>h y (by simp [hy]));have h2:=h x (by simp);rw[mz,List.length_cons,Nat.succ_mul];split<;>omega
theorem SmF.bytes {f:Fs} (h:SmF f):bytesOf f.aa≤1152921504606846976:=by
 have h1:=B6 h.data;have h2:f.aa.length*1073741824≤1073741824*1073741824:=Nat.mul_le_mul_right _ h.len;omega
theorem mI {R:Type} (kk:Int→Option R):∀(l:List ah) (k:Nat) (s:Int),0≤s→s+bytesOf l≤4611686018427387904→
 et (fun _ (x:ah) s K=>if decide (x.kind=1) then K (IntKind.i64.wrap (s+(x.data.length:Int))) else K s) kk k l s=kk (s+bytesOf l)
 | [],k,s,_,_=>by simp [et,bytesOf]
 |x::l,k,s,h0,h=>by
  have hn:=pg l;rw[mz] at h⊢;simp only[et];by_cases hk:x.kind=1
  ·rw[if_pos hk] at h
   rw[if_pos (by simp [hk]),if_pos hk,bC (by omega) (by omega),mI kk l (k+1) _ (by omega) (by omega),Int.add_assoc]
  ·rw[if_neg hk] at h
   rw[if_neg (by simp [hk]),if_neg hk,mI kk l (k+1) _ (by omega) (by omega)];simp
theorem vq {f:Fs} (h:SmF f):mG f=some (bytesOf f.aa):=by
 have hs:=h.bytes;have hl:=h.len;unfold mG;refine(cu (l:=f.aa) (fun n i s=>eJ (f.aa.length:Int) f (fun z8=>some z8) n s i) (fun _ (x:ah) s K=>if decide (x.kind=1) then K (IntKind.i64.wrap (s+(x.data.length:Int))) else K s) (fun z=>some z) (by omega) (fun n k x s hk hx=> ?_) (fun n s=> ?_) 0).trans ?_
 ·simp only[eJ]
  rw[dec_lt hk,bR,toNat_cast,hx,aX (by omega)];simp only[aq,af,bt,if_true,eX]
 ·simp only[eJ]
  rw[b7 (Nat.le_refl _)];rfl
 ·rw[mI _ _ _ _ (by omega) (by omega)];simp
theorem tC {f:Fs} (h:SmF f):k5 f=some (bytesOf f.aa):=by
 have hs:=h.bytes;have hl:=h.len;unfold k5;refine(cu (l:=f.aa) (fun n i s=>dW f (fun z7=>some z7) n s i) (fun _ (x:ah) s K=>if decide (x.kind=1) then K (IntKind.i64.wrap (s+(x.data.length:Int))) else K s) (fun z=>some z) (by omega) (fun n k x s hk hx=> ?_) (fun n s=> ?_) 0).trans ?_
 ·simp only[dW]
  rw[dec_lt hk,bR,toNat_cast,hx,aX (by omega)];simp only[aq,af,bt,if_true,eX]
 ·simp only[dW]
  rw[b7 (Nat.le_refl _)];rfl
 ·rw[mI _ _ _ _ (by omega) (by omega)];simp
def Far (n:Int):Prop:= -1152921504606846976≤n∧n≤1152921504606846976
theorem mW {f:Fs} {a b:Int} (h:SmF f) (ha:Far a) (hb:Far b):jR f a b=some (dZ f a b):=by
 have hs:=h.bytes;have h0:=pg f.aa;have hl:=h.len;unfold Far at ha hb;unfold jR dZ nh;rw[vq h];simp only[af,bt];rw[bC (by omega) (by omega),bC (by omega) (by omega)];by_cases h1:(f.aa.length:Int)+a≤f.ak<;>simp [h1]
theorem iU {f:Fs} {a b:Int} (h:SmF f) (ha:Far a) (hb:Far b):gD f a b=some (dZ f a b):=by
 have hs:=h.bytes;have h0:=pg f.aa;have hl:=h.len;unfold Far at ha hb;unfold gD dZ;rw[tC h];simp only[af,bt];rw[bC (by omega) (by omega),bC (by omega) (by omega)];by_cases h1:(f.aa.length:Int)+a≤f.ak
 ·have h2:¬f.ak<(f.aa.length:Int)+a:=by omega
  simp [h1,h2]
 ·have h2:f.ak<(f.aa.length:Int)+a:=by omega
  simp [h1,h2]
theorem jO {α R:Type} (p:α→Bool) (kr k0:Option R):∀(l:List α) (k:Nat) (s:Unit),et (fun _ x s K=>if p x then K s else kr) (fun _=>k0) k l s=if l.all p then k0 else kr
 | [],_,_=>rfl
 |x::l,k,s=>by
  by_cases h:p x=true
  ·have e:(x::l).all p=l.all p:=by simp [h]
   rw[e];simp only[et];rw[if_pos h];exact jO p kr k0 l (k+1) s
  ·have e:(x::l).all p=false:=by simp [h]
   rw[e];simp [et,h]
def gS:List ah→Bool
 | [] =>true
 |[_]=>true
 |x::y::l=>decide (x.ino<y.ino)&&gS (y::l)
theorem qD:∀l:List ah,gS l=true↔cK l
 | [] =>by simp [gS,cK,cQ]
 |[x]=>by simp [gS,cK,cQ]
 |x::y::l=>by
  have ih:=qD (y::l);unfold cK cQ at ih⊢;rw[List.pairwise_cons];simp only[gS,Bool.and_eq_true,ih,decide_eq_true_eq];constructor
  ·rintro⟨h1,h2⟩
   refine⟨fun z hz=> ?_,h2⟩;rw[List.pairwise_cons] at h2;simp only[List.mem_cons] at hz;rcases hz with rfl|hz
   ·simp [ltI,h1]
   ·have:=h2.1 z hz
    simp only[ltI,decide_eq_true_eq] at this⊢;omega
  ·rintro⟨h1,h2⟩
   have:=h1 y (by simp);simp only[ltI,decide_eq_true_eq] at this;exact⟨this,h2⟩
theorem qu:∀(a:List ah) (x y:ah) (l:List ah),gS (a++x::y::l)=(gS (a++[x])&&(decide (x.ino<y.ino)&&gS (y::l)))
 | [],x,y,l=>by simp [gS]
 |[z],x,y,l=>by simp [gS,Bool.and_assoc]
 |z::z2::a,x,y,l=>by
  have:=qu (z2::a) x y l;simp only[List.cons_append] at this⊢;simp only[gS,this,Bool.and_assoc]
theorem vl {f:Fs} (hl:f.aa.length≤1073741824):mb f=some (gS f.aa):=by
 unfold mb;have key:∀(n k:Nat),1≤k→f.aa.length - k<n→gS (f.aa.take k)=true→gp f (some false) (some true) n (k:Int)=some (gS f.aa):=by
  intro n;induction n with
  |zero=>intro k _ h;omega
  |succ n ih=>
   intro k h1 hn hr;simp only[gp];by_cases hk:k<f.aa.length
   ·rw[dec_lt hk,aq,wu (by omega) (by omega),bR,aq,toNat_cast,List.getElem?_eq_getElem (by omega),af,bR,aq,toNat_cast,List.getElem?_eq_getElem hk,af,aX (by omega)]
    have e1:f.aa.take k=f.aa.take (k - 1)++[f.aa[k - 1]]:=by
     have:k=(k - 1)+1:=by omega
     conv=>lhs;rw[this]
     rw[List.take_add_one,List.getElem?_eq_getElem (by omega)];rfl
    have e2:f.aa=f.aa.take (k - 1)++f.aa[k - 1]::f.aa[k]::f.aa.drop (k+1):=by
     conv=>lhs;rw[←List.take_append_drop (k - 1) f.aa]
     rw[List.drop_eq_getElem_cons (i:=k - 1) (by omega)];have:k - 1+1=k:=by omega
     rw[this,List.drop_eq_getElem_cons hk]
    by_cases h:f.aa[k - 1].ino<f.aa[k].ino
    ·rw[aR (by simp;omega)]
     refine ih (k+1) (by omega) (by omega) ?_;have e3:f.aa.take (k+1)=f.aa.take (k - 1)++f.aa[k - 1]::[f.aa[k]]:=by
      rw[List.take_add_one,List.getElem?_eq_getElem hk];conv=>lhs;rw[e1]
      rw[List.append_assoc];rfl
     rw[e3,qu,←e1,hr];simp [gS,h]
    ·rw[aE (by simp;omega)]
     rw[e2,qu];simp [h]
   ·rw[b7 (by omega),ax]
    rw[List.take_of_length_le (by omega)] at hr;rw[hr]
 refine key bo 1 (Nat.le_refl _) (hY (by omega)) ?_;cases h:f.aa with
 |nil=>rfl
 |cons x l=>simp [gS]
def oV (f:Fs):Bool:=decide (1≤f.ak∧f.ak≤1073741824∧0≤f.aw∧f.aw≤1073741824∧f.next≤1099511627776)&&(f.aa.all (fun x=>decide (1≤x.ino∧x.ino<f.next))&&(gS f.aa&&((al 1 f.aa).isSome&&decide ((aB 1 f.aa).kind=2))))
theorem tG {f:Fs} (hl:f.aa.length≤1073741824):kK f=some (oV f):=by
 unfold kK oV;rw[fe hl,vl hl];simp only[af];by_cases h1:f.ak<1
 ·rw[aE (by simp [h1]),decide_eq_false (by omega)];rfl
 rw[aR (by simp [h1])];by_cases h2:f.ak>1073741824
 ·rw[aE (by simp [h2]),decide_eq_false (by omega)];rfl
 rw[aR (by simp [h2])];by_cases h3:f.aw<0
 ·rw[aE (by simp [h3]),decide_eq_false (by omega)];rfl
 rw[aR (by simp [h3])];by_cases h4:f.aw>1073741824
 ·rw[aE (by simp [h4]),decide_eq_false (by omega)];rfl
 rw[aR (by simp [h4])];by_cases h5:f.next>1099511627776
 ·rw[aE (by simp [h5]),decide_eq_false (by omega)];rfl
 rw[aR (by simp [h5]),decide_eq_true (by omega),Bool.true_and];generalize hk0:(ae (gS f.aa) (ae (al 1 f.aa).isSome (some ((aB 1 f.aa).kind==(2:Int))) (some false)) (some false))=k0;have e0:k0=some (gS f.aa&&((al 1 f.aa).isSome&&decide ((aB 1 f.aa).kind=2))):=by
  rw[←hk0,eX];cases gS f.aa<;>cases (al 1 f.aa).isSome<;>rfl
 refine(cu (l:=f.aa) (fun m i (_:Unit)=>eT f (some false) k0 m i) (fun _ (x:ah) s K=>if decide (1≤x.ino∧x.ino<f.next) then K s else some false) (fun _=>k0) (by omega) (fun m k x u hk hx=> ?_) (fun m u=> ?_) ()).trans ?_
 ·simp only[eT]
  rw[dec_lt hk,bR,toNat_cast,hx,aX (by omega)];simp only[aq,af,bt,if_true];by_cases h6:x.ino<1
  ·have:¬(1≤x.ino∧x.ino<f.next):=by omega
   simp [h6,this]
  ·by_cases h7:x.ino≥f.next
   ·have:¬(1≤x.ino∧x.ino<f.next):=by omega
    have h7':f.next≤x.ino:=h7;simp [h6,h7',this]
   ·have:1≤x.ino∧x.ino<f.next:=by omega
    have h7':¬f.next≤x.ino:=h7;simp [h6,h7',this]
 ·simp only[eT]
  rw[b7 (Nat.le_refl _)];rfl
 ·rw[jO,e0]
  by_cases h9:f.aa.all (fun x=>decide (1≤x.ino∧x.ino<f.next))=true
  ·rw[if_pos h9,h9,Bool.true_and]
  ·rw[if_neg h9]
   have:f.aa.all (fun x=>decide (1≤x.ino∧x.ino<f.next))=false:=by simpa using h9
   rw[this,Bool.false_and]
def eK (x:ah):Bool:=(decide (x.kind=1)&&(x.entries.isEmpty&&decide (x.parent=0)))||((decide (x.kind=2)&&(decide (x.data= [])&&fw x.entries))||(decide (x.kind=3)&&(x.entries.isEmpty&&(decide (x.parent=0)&&(decide (1≤x.data.length∧x.data.length≤4095)&& !(x.data.any (fun b=>b==0)))))))
def ma (f:Fs):Bool:=f.aa.all eK
theorem Ch {R:Type} {x:ah} {kr k2:Option R} (hl:x.data.length≤1073741824):aM x kr k2 bo (0:Int)=if decide (x.kind=3)&&x.data.any (fun b=>b==0) then kr else k2:=by
 by_cases h3:x.kind=3
 ·refine(cu (l:=x.data) (fun m i (_:Unit)=>aM x kr k2 m i) (fun _ (b:UInt8) s K=>if b==0 then kr else K s) (fun _=>k2) (by omega) (fun m k b u hk hx=> ?_) (fun m u=> ?_) ()).trans ?_
  ·simp only[aM]
   rw[dec_lt hk,bR,toNat_cast,hx,aX (by omega),aE rfl,aE (by simp [h3]),aE rfl,af,bt];have:((UInt8.toNat b:Int)==(0:Int))=(b==0):=iL b 0 (by omega);rw[this]
  ·simp only[aM]
   rw[b7 (Nat.le_refl _)];rfl
  ·rw[lO (fun b:UInt8=>b==0) (fun _ _=>kr) k2 kr (fun _ _=>rfl)]
   simp [h3]
 ·obtain⟨m,hm⟩:=zY
  rw[hm];simp only[aM];rw[if_neg (by simp [h3])];cases decide ((0:Int)<(List.length x.data:Int))
  ·rfl
  ·rw[aq,aR (by simp [h3])]
theorem C0 {x:ah} (h:x.kind=1):eK x=(x.entries.isEmpty&&decide (x.parent=0)):=by
 unfold eK;simp [h]
theorem wB {x:ah} (h:x.kind=2):eK x=(decide (x.data= [])&&fw x.entries):=by
 unfold eK;simp [h]
theorem Fx {x:ah} (h:x.kind=3):eK x=(x.entries.isEmpty&&(decide (x.parent=0)&&(decide (1≤x.data.length∧x.data.length≤4095)&& !(x.data.any (fun b=>b==0))))):=by
 unfold eK;simp [h]
theorem K_ {x:ah} (h1:¬x.kind=1) (h2:¬x.kind=2) (h3:¬x.kind=3):eK x=false:=by
 unfold eK;simp [h1,h2,h3]
theorem zX {α:Type} (l:List α):decide ((List.length l:Int)>(0:Int))= !l.isEmpty:=by
 cases l with
 |nil=>rfl
 |cons x l=>simp
theorem ss {f:Fs} (h:SmF f):jK f=some (ma f):=by
 have hl:=h.len;unfold jK ma;refine(cu (l:=f.aa) (fun m i (_:Unit)=>aS f (some false) (some true) m i) (fun _ (x:ah) s K=>if eK x then K s else some false) (fun _=>some true) (by omega) (fun m k x u hk hx=> ?_) (fun m u=> ?_) ()).trans ?_
 ·simp only[aS]
  have hxm:=List.mem_of_getElem? hx;have hsm:Sm x.entries:=⟨h.dg x hxm,h.names x hxm⟩;rw[dec_lt hk,bR,toNat_cast,hx,aX (by omega)];simp only[aq,af,ub hsm,Ch (h.data x hxm),zX,dp,eX,qk];by_cases h1:x.kind=1
  ·rw[C0 h1]
   have e2:¬x.kind=2:=by omega
   have e3:¬x.kind=3:=by omega
   rw[aR (by simp [h1]),aE (by simp [e2])];simp only[h1];cases x.entries.isEmpty
   ·rfl
   ·by_cases hp:x.parent=0
    ·simp [hp]
    ·simp [hp]
  ·rw[aE (by simp [h1])]
   by_cases h2:x.kind=2
   ·rw[wB h2]
    have e3:¬x.kind=3:=by omega
    rw[aR (by simp [h2]),aR (by simp [h2]),aE (by simp [h2])];simp only[h2];by_cases hd:x.data= []
    ·simp only[hd]
     cases fw x.entries<;>simp
    ·simp [hd]
   ·rw[aE (by simp [h2])]
    by_cases h3:x.kind=3
    ·rw[Fx h3,aR (by simp [h3]),aE (by simp [h2])]
     simp only[h3];cases x.entries.isEmpty
     ·rfl
     ·by_cases hp:x.parent=0
      ·by_cases hd1:x.data.length<1
       ·have:¬(1≤x.data.length∧x.data.length≤4095):=by omega
        have hd1':((List.length x.data:Int)<1):=by omega
        simp [hp,hd1',this]
       ·by_cases hd2:x.data.length>4095
        ·have:¬(1≤x.data.length∧x.data.length≤4095):=by omega
         have hd1':¬((List.length x.data:Int)<1):=by omega
         have hd2':(4095:Int)<(List.length x.data:Int):=by omega
         simp [hp,hd1',hd2',this]
        ·have:1≤x.data.length∧x.data.length≤4095:=by omega
         have hd1':¬((List.length x.data:Int)<1):=by omega
         have hd2':¬(4095:Int)<(List.length x.data:Int):=by omega
         rw[decide_eq_true this,decide_eq_true hp];cases hany:x.data.any (fun b=>b==0)
         ·simp [hp,hd1',hd2']
         ·simp [hp,hd1',hd2']
      ·simp [hp]
    ·rw[K_ h1 h2 h3,aE (by simp [h3])];rfl
 ·simp only[aS]
  rw[b7 (Nat.le_refl _)];rfl
 ·rw[jO];exact CF
end Go.Eng
set_option linter.unusedSimpArgs false
set_option linter.unusedVariables false
namespace Go.Eng
open Go
def o3 (f:Fs):Bool:=f.aa.all fun x=>x.entries.all fun e=>(al e.ino f.aa).isSome
theorem Fe {R:Type} {f:Fs} {k:Nat} {x:ah} {kr k2:Option R} (hx:f.aa[k]? =some x) (hl:f.aa.length≤1073741824) (he:x.entries.length≤1073741824):dQ (k:Int) f kr k2 bo (0:Int)=if x.entries.all (fun e=>(al e.ino f.aa).isSome) then k2 else kr:=by
 refine(cu (l:=x.entries) (fun m i (_:Unit)=>dQ (k:Int) f kr k2 m i) (fun _ (e:Entry) s K=>if (al e.ino f.aa).isSome then K s else kr) (fun _=>k2) (by omega) (fun m j e u hj he'=> ?_) (fun m u=> ?_) ()).trans ?_
 ·simp only[dQ]
  rw[bR,toNat_cast,hx];simp only[aq,af];rw[dec_lt hj,bR,toNat_cast,he',aX (by omega)];simp only[aq,af];rw[fe hl];simp only[af,bt];cases (al e.ino f.aa).isSome<;>rfl
 ·simp only[dQ]
  rw[bR,toNat_cast,hx];simp only[aq,af];rw[b7 (Nat.le_refl _)];rfl
 ·exact jO _ _ _ _ _ _
theorem tx {f:Fs} (h:SmF f):kJ f=some (o3 f):=by
 have hl:=h.len;unfold kJ o3;refine(cu (l:=f.aa) (fun m i (_:Unit)=>eW f (some false) (some true) m i) (fun _ (x:ah) s K=>if x.entries.all (fun e=>(al e.ino f.aa).isSome) then K s else some false) (fun _=>some true) (by omega) (fun m k x u hk hx=> ?_) (fun m u=> ?_) ()).trans ?_
 ·simp only[eW]
  rw[dec_lt hk,aq,Fe hx hl (h.dg x (List.mem_of_getElem? hx)),aX (by omega)]
 ·simp only[eW]
  rw[b7 (Nat.le_refl _)];rfl
 ·rw[jO (fun x:ah=>x.entries.all fun e=>(al e.ino f.aa).isSome)]
  exact CF
def k8 (n:Int) (l:List Entry):Nat:=(l.filter fun e=>decide (e.ino=n)).length
def eH (n:Int):List ah→Nat×Int→Nat×Int
 | [],s=>s
 |x::l,s=>eH n l (s.1+k8 n x.entries,if k8 n x.entries=0 then s.2 else x.ino)
def dw (f:Fs) (n:Int):Nat×Int:=eH n f.aa (0,0)
theorem D3 (n:Int) (e:Entry) (l:List Entry):k8 n (e::l)=(if e.ino=n then 1 else 0)+k8 n l:=by
 unfold k8;rw[List.filter_cons];by_cases h:e.ino=n<;>simp [h];omega
theorem CH (n:Int) (l:List Entry):k8 n l≤l.length:=List.length_filter_le _ _
theorem uD {n:Int} {l:List Entry} {j:Nat} {e:Entry} (h:l[j]? =some e):k8 n (l.take (j+1))=k8 n (l.take j)+if e.ino=n then 1 else 0:=by
 unfold k8;rw[List.take_add_one,h];simp only[Option.toList_some,List.filter_append,List.length_append];by_cases h':e.ino=n<;>simp [h']
theorem FP {R:Type} {f:Fs} {n:Int} {k:Nat} {x:ah} {k2:Int→Int→Option R} (hx:f.aa[k]? =some x) (hl:f.aa.length≤1073741824) (he:x.entries.length≤1073741824) {c:Nat} {d:Int} (hc:c≤1152921504606846976):
 dv n (k:Int) f k2 bo (c:Int) d (0:Int)=k2 ((c+k8 n x.entries:Nat):Int) (if k8 n x.entries=0 then d else x.ino):=by
 refine eY (l:=x.entries) (fun m i (s:Int×Int)=>dv n (k:Int) f k2 m s.1 s.2 i) (fun j s=>s=(((c+k8 n (x.entries.take j):Nat):Int),if k8 n (x.entries.take j)=0 then d else x.ino)) (fun r=>r=k2 ((c+k8 n x.entries:Nat):Int) (if k8 n x.entries=0 then d else x.ino)) (by omega) (fun m j e s hj he' hi hr=> ?_) (fun m s hi=> ?_) ((c:Int),d) (by simp [k8])
 ·simp only[dv]
  have hcl:=CH n (x.entries.take j);have hcl':(x.entries.take j).length≤x.entries.length:=by simp;omega
  have ht:=uD (n:=n) he';rw[bR,toNat_cast,hx];simp only[aq,af];rw[dec_lt hj,bR,toNat_cast,he',aX (by omega)];simp only[aq,af,eX,bt,if_true];by_cases h:e.ino=n
  ·rw[if_pos (by simp [h])]
   rw[if_pos h] at ht;refine hr (IntKind.i64.wrap (s.1+1),x.ino) ?_;rw[hi,ht];simp only;rw[aX (by omega)];have:¬k8 n (x.entries.take j)+1=0:=by omega
   rw[if_neg this];rfl
  ·rw[if_neg (by simp [h])]
   rw[if_neg h,Nat.add_zero] at ht;refine hr _ ?_;rw[hi,ht];simp only[Nat.add_zero]
 ·simp only[dv]
  rw[List.take_length] at hi;rw[bR,toNat_cast,hx];simp only[aq,af];rw[b7 (Nat.le_refl _),ax,hi]
theorem tk (n:Int):∀(a b:List ah) (s:Nat×Int),eH n (a++b) s=eH n b (eH n a s)
 | [],_,_=>rfl
 |x::a,b,s=>by simp only[List.cons_append,eH];exact tk n a b _
theorem wo {n:Int} {N:Nat}:∀(l:List ah) (s:Nat×Int),(∀x∈l,x.entries.length≤N)→(eH n l s).1≤s.1+l.length*N
 | [],s,_=>by simp [eH]
 |x::l,s,h=>by
  simp only[eH];have h1:=wo (n:=n) l (s.1+k8 n x.entries,if k8 n x.entries=0 then s.2 else x.ino) (fun y hy=>h y (by simp [hy]));have h2:=CH n x.entries;have h3:=h x (by simp);rw[List.length_cons,Nat.succ_mul];simp only at h1;omega
theorem sV {f:Fs} {n:Int} (h:SmF f):kZ f n=some (((dw f n).1:Int),(dw f n).2):=by
 have hl:=h.len;unfold kZ dw;refine eY (l:=f.aa) (fun m i (s:Int×Int)=>e_ n f (fun z25 z26=>some (z25,z26)) m s.1 s.2 i) (fun j s=>s=(((eH n (f.aa.take j) (0,0)).1:Int),(eH n (f.aa.take j) (0,0)).2)) (fun r=>r=some (((eH n f.aa (0,0)).1:Int),(eH n f.aa (0,0)).2)) (by omega) (fun m k x s hk hx hi hr=> ?_) (fun m s hi=> ?_) (0,0) (by simp [eH])
 ·simp only[e_]
  have hb:=wo (n:=n) (N:=1073741824) (f.aa.take k) (0,0) (fun y hy=>h.dg y (List.mem_of_mem_take hy));have hk2:(f.aa.take k).length≤1073741824:=by simp;omega
  have hb2:(f.aa.take k).length*1073741824≤1073741824*1073741824:=Nat.mul_le_mul_right _ hk2;rw[dec_lt hk,aq,hi];simp only;rw[FP hx hl (h.dg x (List.mem_of_getElem? hx)) (by simp only at hb;omega),aX (by omega)];refine hr (_,_) ?_;rw[List.take_add_one,hx];simp only[Option.toList_some,tk,eH];rfl
 ·simp only[e_]
  rw[List.take_length] at hi;rw[b7 (Nat.le_refl _),ax,hi]
def vZ (f:Fs) (x:ah):Bool:=decide (x.aL=(dw f x.ino).1)&&(if x.ino=1 then decide ((dw f x.ino).1=0)&&decide (x.parent=1) else decide (1≤(dw f x.ino).1)&&(if x.kind=2 then decide ((dw f x.ino).1=1)&&decide (x.parent=(dw f x.ino).2) else true))
def mr (f:Fs):Bool:=f.aa.all (vZ f)
theorem sg {f:Fs} (h:SmF f):jH f=some (mr f):=by
 have hl:=h.len;unfold jH mr;refine(cu (l:=f.aa) (fun m i (_:Unit)=>cZ f (some false) (some true) m i) (fun _ (x:ah) s K=>if vZ f x then K s else some false) (fun _=>some true) (by omega) (fun m k x u hk hx=> ?_) (fun m u=> ?_) ()).trans ?_
 ·simp only[cZ]
  rw[dec_lt hk,bR,toNat_cast,hx,aX (by omega)];simp only[aq,af];rw[sV h];simp only[af,dp,eX];unfold vZ;by_cases h1:x.aL=((dw f x.ino).1:Int)
  ·simp only[h1,decide_true,Bool.not_true,ax,Bool.true_and]
   by_cases h2:x.ino=1
   ·simp only[h2,decide_true,aq,if_true]
    by_cases h3:(dw f 1).1=0
    ·have h3':((dw f 1).1:Int)=0:=by omega
     simp only[h3,h3',decide_true,Bool.not_true,ax,Bool.true_and];by_cases h4:x.parent=1<;>simp [h4]
    ·have h3':¬((dw f 1).1:Int)=0:=by omega
     simp [h3,h3']
   ·simp only[h2,decide_false,ax,if_false]
    by_cases h3:(dw f x.ino).1<1
    ·have h3':((dw f x.ino).1:Int)<1:=by omega
     have h3'':¬1≤(dw f x.ino).1:=by omega
     simp [h3',h3'']
    ·have h3':¬((dw f x.ino).1:Int)<1:=by omega
     have h3'':1≤(dw f x.ino).1:=by omega
     simp only[h3',h3'',decide_true,decide_false,ax,Bool.true_and];by_cases h4:x.kind=2
     ·simp only[h4,decide_true,aq,if_true]
      by_cases h5:(dw f x.ino).1=1
      ·have h5':((dw f x.ino).1:Int)=1:=by omega
       simp only[h5,h5',decide_true,Bool.not_true,ax,Bool.true_and];by_cases h6:x.parent=(dw f x.ino).2<;>simp [h6]
      ·have h5':¬((dw f x.ino).1:Int)=1:=by omega
       simp [h5,h5']
     ·simp [h4]
  ·simp [h1]
 ·simp only[cZ]
  rw[b7 (Nat.le_refl _)];rfl
 ·rw[jO];exact CF
def visit (s:List Int) (e:Entry):List Int:=if e.ino∈s then s else s++[e.ino]
def lq (x:ah) (s:List Int):List Int:=x.entries.foldl visit s
def gw (l:List ah):Nat→Nat→List Int→List Int
 |0,_,s=>s
 |n+1,i,s=>match s[i]? with|some k=>gw l n (i+1) (lq (aB k l) s) |none=>s
def dz (l:List ah):List Int:=1::l.flatMap fun x=>x.entries.map Entry.ino
def xL (l:List ah):List Int:=gw l ((dz l).length+1) 0 [1]
def o6 (f:Fs):Bool:=decide ((xL f.aa).length=f.aa.length)
theorem lL {l m:List Int} (h:l.Nodup) (hs:∀x∈l,x∈m):l.length≤m.length:=by
 induction l generalizing m with
 |nil=>simp
 |cons x l ih=>
  rw[List.nodup_cons] at h;have hx:=hs x (by simp);have:=ih (m:=m.erase x) h.2 (fun y hy=>by
   have hne:y≠x:=by intro e;subst e;exact h.1 hy
   exact(List.mem_erase_of_ne hne).2 (hs y (by simp [hy])))
  rw[List.length_erase_of_mem hx] at this;have:=List.length_pos_of_mem hx;simp only[List.length_cons];omega
structure m5 (l:List ah) (s:List Int):Prop where
 nodup:s.Nodup
 sub:∀x∈s,x∈dz l
theorem m5.len {l:List ah} {s:List Int} (h:m5 l s):s.length≤(dz l).length:=lL h.nodup h.sub
theorem FG {l:List ah} {s:List Int} {e:Entry} (h:m5 l s) (he:e.ino∈dz l):m5 l (visit s e):=by
 unfold visit;split
 ·exact h
 ·rename_i hn
  refine⟨?_,fun x hx=> ?_⟩
  ·rw[List.nodup_append]
   refine⟨h.nodup,by simp,fun a ha b hb=> ?_⟩;simp at hb;subst hb;intro e';subst e';exact hn ha
  ·simp at hx
   rcases hx with hx|rfl
   ·exact h.sub x hx
   ·exact he
theorem nB {l:List ah}:∀(es:List Entry) {s:List Int},m5 l s→(∀e∈es,e.ino∈dz l)→m5 l (es.foldl visit s)
 | [],s,h,_=>h
 |e::es,s,h,he=>by
  simp only[List.foldl_cons];exact nB es (FG h (he e (by simp))) (fun e' h'=>he e' (by simp [h']))
theorem Dd {l:List ah} {k:Int} {e:Entry} (h:e∈(aB k l).entries):e.ino∈dz l:=by
 unfold aB at h;cases hf:al k l with
 |none=>rw[hf] at h;simp [eN] at h
 |some x=>
  rw[hf] at h;simp only[Option.getD_some] at h;unfold dz;rw[List.mem_cons];right;rw[List.mem_flatMap];exact⟨x,(bS hf).1,List.mem_map.2 ⟨e,h,rfl⟩⟩
theorem qI {l:List ah} {s:List Int} {k:Int} (h:m5 l s):m5 l (lq (aB k l) s):=nB _ h (fun e he=>Dd he)
theorem jv:∀(es:List Entry) (s:List Int),∃t,es.foldl visit s=s++t
 | [],s=>⟨[],by simp⟩
 |e::es,s=>by
  simp only[List.foldl_cons];obtain⟨t,ht⟩:=jv es (visit s e);unfold visit at ht⊢;split at ht
  ·rename_i h;rw[if_pos h];exact⟨t,ht⟩
  ·rename_i h;rw[if_neg h];exact⟨e.ino::t,by rw[ht];simp⟩
theorem r7 (es:List Entry) (s:List Int):(es.foldl visit s).length≤s.length+es.length:=by
 induction es generalizing s with
 |nil=>simp
 |cons e es ih=>
  simp only[List.foldl_cons,List.length_cons];have:=ih (visit s e);have h2:(visit s e).length≤s.length+1:=by unfold visit;split<;>simp
  omega
theorem D2 {R:Type} {x:ah} {s:List Int} {j:Nat} {e:Entry} {k4:Bool→Option R} (he:x.entries[j]? =some e) (hl:s.length≤1099511627775):c_ (j:Int) s x k4 bo false (0:Int)=k4 (decide (e.ino∈s)):=by
 refine eY (l:=s) (fun m i (b:Bool)=>c_ (j:Int) s x k4 m b i) (fun k b=>b=decide (e.ino∈s.take k)) (fun r=>r=k4 (decide (e.ino∈s))) hl (fun m k y b hk hy hi hr=> ?_) (fun m b hi=> ?_) false (by simp)
 ·simp only[c_]
  have ht:decide (e.ino∈s.take (k+1))=(decide (e.ino∈s.take k)||decide (y=e.ino)):=by
   rw[List.take_add_one,hy,Bool.eq_iff_iff];simp only[Option.toList_some,List.mem_append,List.mem_singleton,Bool.or_eq_true,decide_eq_true_eq];exact or_congr_right ⟨fun h=>h.symm,fun h=>h.symm⟩
  rw[dec_lt hk,aq,aX (by omega)];cases b
  ·rw[ax,A2 hk,aq,toNat_cast,hy,af,bR,aq,toNat_cast,he,af,eX]
   refine hr _ ?_;rw[ht,←hi,Bool.false_or]
  ·rw[aq]
   refine hr _ ?_;rw[ht,←hi];simp
 ·simp only[c_]
  rw[List.take_length] at hi;rw[b7 (Nat.le_refl _),ax,hi]
theorem GI {R:Type} {x:ah} {s:List Int} {k2:List Int→Option R} (hl:s.length+x.entries.length≤1073741824):dx x k2 bo (0:Int) s=k2 (lq x s):=by
 unfold lq;refine eY (l:=x.entries) (fun m i (t:List Int)=>dx x k2 m i t) (fun k t=>t=(x.entries.take k).foldl visit s) (fun r=>r=k2 (x.entries.foldl visit s)) (by omega) (fun m k e t hk he hi hr=> ?_) (fun m t hi=> ?_) s (by simp)
 ·simp only[dx]
  have hlen:=r7 (x.entries.take k) s;have hk':(x.entries.take k).length≤x.entries.length:=by simp;omega
  rw[←hi] at hlen;have ht:(x.entries.take (k+1)).foldl visit s=visit t e:=by
   rw[List.take_add_one,he,List.foldl_append,←hi];rfl
  rw[dec_lt hk,aq,D2 he (by omega),aX (by omega),bR,toNat_cast,he];simp only[aq,af];by_cases hm:e.ino∈t
  ·rw[aR (by simp [hm])]
   refine hr _ ?_;rw[ht];unfold visit;rw[if_pos hm]
  ·rw[aE (by simp [hm]),bK (by unfold LIM;simp;omega)]
   refine hr _ ?_;rw[ht];unfold visit;rw[if_neg hm]
 ·simp only[dx]
  rw[List.take_length] at hi;rw[b7 (Nat.le_refl _),ax,hi]
theorem EU {f:Fs} (h:SmF f) (ht:(dz f.aa).length≤536870912) (k0:List Int→Option Bool):∀(m n i:Nat) (s:List Int),m5 f.aa s→i≤s.length→(dz f.aa).length+1 - i≤m→(dz f.aa).length+1 - i<n→
 fM f k0 n (i:Int) s=k0 (gw f.aa m i s):=by
 intro m;induction m with
 |zero=>
  intro n i s hv hi hm hn;have:=hv.len;omega
 |succ m ih=>
  intro n i s hv hi hm hn;cases n with
  |zero=>omega
  |succ n=>
   have hlen:=hv.len;simp only[fM,gw];by_cases hlt:i<s.length
   ·rw[dec_lt hlt,aq,A2 hlt,aq,toNat_cast,List.getElem?_eq_getElem hlt,af,fe h.len,af]
    have hents:(aB s[i] f.aa).entries.length≤536870912:=by
     unfold aB;cases hf:al s[i] f.aa with
     |none=>simp [eN]
     |some x=>
      have hx:=(bS hf).1;simp only[Option.getD_some];have h1:x.entries.length≤(f.aa.flatMap fun x=>x.entries.map Entry.ino).length:=by
       obtain⟨a,b,e⟩:=List.append_of_mem hx;rw[e];simp only[List.flatMap_append,List.flatMap_cons,List.length_append,List.length_map];omega
      unfold dz at ht;simp only[List.length_cons] at ht;omega
    rw[GI (by simp only;omega),aX (by omega)];have hv':=qI (k:=s[i]) hv;obtain⟨t,htt⟩:=jv (aB s[i] f.aa).entries s;refine ih n (i+1) _ hv' ?_ (by omega) (by omega);unfold lq;rw[htt];simp;omega
   ·rw[b7 (by omega),ax,List.getElem?_eq_none (by omega)]
theorem Cg (l:List ah):m5 l [1]:=⟨by simp,fun x hx=>by simp at hx;subst hx;simp [dz]⟩
theorem uN {f:Fs} (h:SmF f) (ht:(dz f.aa).length≤536870912):kD f=some (o6 f):=by
 unfold kD o6 xL;have:=EU h ht (fun z34=>some ((List.length z34:Int)==(List.length f.aa:Int))) ((dz f.aa).length+1) bo 0 [1] (Cg _) (Nat.zero_le _) (by omega) (by have:=mA;omega);refine this.trans ?_;rw[eX];congr 1;rw[decide_eq_decide];omega
def uo (f:Fs):Int:=if oV f then (if ma f then (if o3 f then (if mr f then (if o6 f then (if dZ f 0 0 then 0 else 6) else 5) else 4) else 3) else 2) else 1
theorem Cn {N:Nat} {l:List ah} (h:∀x∈l,x.entries.length≤N):(dz l).length≤l.length*N+1:=by
 unfold dz;rw[List.length_cons];have:(l.flatMap fun x=>x.entries.map Entry.ino).length≤l.length*N:=by
  induction l with
  |nil=>simp
  |cons x l ih=>
   have h1:=ih (fun y hy=>h y (by simp [hy]));have h2:=h x (by simp);simp only[List.flatMap_cons,List.length_append,List.length_map,List.length_cons,Nat.succ_mul];omega
 omega
theorem tD {f:Fs} (h:SmF f) (ht:(dz f.aa).length≤536870912):je f=some (uo f):=by
 unfold je uo;rw[tG h.len,ss h,tx h,sg h,uN h ht,iU h (by unfold Far;omega) (by unfold Far;omega)];simp only[af];cases oV f
 ·rfl
 ·cases ma f
  ·rfl
  ·cases o3 f
   ·rfl
   ·cases mr f
    ·rfl
    ·cases o6 f
     ·rfl
     ·cases dZ f 0 0<;>rfl
structure Sound (f:Fs):Prop where
 r_:1≤f.ak∧f.ak≤1073741824
 se:0≤f.aw∧f.aw≤1073741824
 next:f.next≤1099511627776
 ino:∀x∈f.aa,1≤x.ino∧x.ino<f.next
 sort:cK f.aa
 root:∃r,al 1 f.aa=some r∧r.kind=2
 kind:∀x∈f.aa,eK x=true
 there:∀x∈f.aa,∀e∈x.entries,∃y,al e.ino f.aa=some y
 link:∀x∈f.aa,vZ f x=true
 led:(xL f.aa).length=f.aa.length
 fits:dZ f 0 0=true
theorem Bz (f:Fs):uo f=0↔Sound f:=by
 unfold uo;constructor
 ·intro h
  split at h
  ·rename_i h1
   split at h
   ·rename_i h2
    split at h
    ·rename_i h3
     split at h
     ·rename_i h4
      split at h
      ·rename_i h5
       split at h
       ·rename_i h6
        unfold oV at h1;simp only[Bool.and_eq_true,decide_eq_true_eq,List.all_eq_true] at h1;obtain⟨⟨a1,a2,a3,a4,a5⟩,a6,a7,a8,a9⟩:=h1;obtain⟨r,hr⟩:=Option.isSome_iff_exists.1 a8;refine⟨⟨a1,a2⟩,⟨a3,a4⟩,a5,a6,(qD _).1 a7,⟨r,hr, ?_⟩, ?_, ?_, ?_, ?_,h6⟩
        ·unfold aB at a9;rw[hr] at a9;exact a9
        ·unfold ma at h2;simpa [List.all_eq_true] using h2
        ·unfold o3 at h3
         simp only[List.all_eq_true] at h3;exact fun x hx e he=>Option.isSome_iff_exists.1 (h3 x hx e he)
        ·unfold mr at h4;simpa [List.all_eq_true] using h4
        ·unfold o6 at h5;simpa using h5
       ·simp at h
      ·simp at h
     ·simp at h
    ·simp at h
   ·simp at h
  ·simp at h
 ·intro h
  obtain⟨r,hr,hk⟩:=h.root;have h1:oV f=true:=by
   unfold oV;simp only[Bool.and_eq_true,decide_eq_true_eq,List.all_eq_true];refine⟨⟨h.r_.1,h.r_.2,h.se.1,h.se.2,h.next⟩,h.ino,(qD _).2 h.sort,by rw[hr];rfl,by unfold aB;rw[hr];exact hk⟩
  have h2:ma f=true:=by unfold ma;rw[List.all_eq_true];exact h.kind
  have h3:o3 f=true:=by
   unfold o3;simp only[List.all_eq_true];exact fun x hx e he=>Option.isSome_iff_exists.2 (h.there x hx e he)
  have h4:mr f=true:=by unfold mr;rw[List.all_eq_true];exact h.link
  have h5:o6 f=true:=by unfold o6;rw[decide_eq_true_eq];exact h.led
  rw[if_pos h1,if_pos h2,if_pos h3,if_pos h4,if_pos h5,if_pos h.fits]
end Go.Eng
set_option linter.unusedSimpArgs false
set_option linter.unusedVariables false
namespace Go.Eng
open Go
def splitN:Str→Str→List Str×Str
 |cur, [] =>([],cur)
 |cur,c::s=>if c=47 then (if cur= [] then splitN [] s else (cur::(splitN [] s).1,(splitN [] s).2)) else splitN (cur++[c]) s
def de (r:List Str×Str):List Str:=if r.2= [] then r.1 else r.1++[r.2]
def cf (s:Str):List Str:=de (splitN [] s)
def nt (l:List Str):Str:=if l= [] then [47] else l.flatMap fun x=>47::x
def jg (s:Str):Bool:=(cf s).any (fun x=>decide (255<x.length))||decide (4095<s.length)
def fg (s:Str):List Str×Bool:=if nt (cf s)=s∧(cf s).all cS=true then (cf s,true) else ([],false)
def bx (s:Str):Pth:=⟨s.take 1==[47],cf s, !(cf s).isEmpty&&(s.drop (s.length - 1)==[47])⟩
theorem kB:∀(a cur b:Str),(∀x∈a,x≠47)→splitN cur (a++47::b)=if cur++a= [] then splitN [] b else ((cur++a)::(splitN [] b).1,(splitN [] b).2)
 | [],cur,b,_=>by simp [splitN]
 |c::a,cur,b,h=>by
  have hc:¬c=47:=h c (by simp);simp only[List.cons_append,splitN,if_neg hc];rw[kB a (cur++[c]) b (fun x hx=>h x (by simp [hx]))];simp
theorem iW:∀(a cur:Str),(∀x∈a,x≠47)→splitN cur a=([],cur++a)
 | [],cur,_=>by simp [splitN]
 |c::a,cur,h=>by
  have hc:¬c=47:=h c (by simp);simp only[splitN,if_neg hc];rw[iW a (cur++[c]) (fun x hx=>h x (by simp [hx]))];simp
theorem fG (c:UInt8):∀l:Str,((∀x∈l,x≠c)∧Lib.indexByte l c= -1)∨∃a b,l=a++c::b∧(∀x∈a,x≠c)∧Lib.indexByte l c=a.length
 | [] =>Or.inl ⟨by simp,rfl⟩
 |x::l=>by
  unfold Lib.indexByte;by_cases h:x=c
  ·subst h;right;exact⟨[],l,rfl,by simp,by simp⟩
  ·have hb:(x==c)=false:=by rw[beq_eq_false_iff_ne];exact h
   rw[hb];simp only[Bool.false_eq_true,if_false];rcases fG c l with⟨h1,h2⟩ |⟨a,b,h1,h2,h3⟩
   ·left
    refine⟨fun y hy=> ?_,by rw[h2];rfl⟩;simp only[List.mem_cons] at hy;rcases hy with rfl|hy
    ·exact h
    ·exact h1 y hy
   ·right
    refine⟨x::a,b,by rw[h1];rfl,fun y hy=> ?_, ?_⟩
    ·simp only[List.mem_cons] at hy
     rcases hy with rfl|hy
     ·exact h
     ·exact h2 y hy
    ·rw[h3]
     have:((a.length:Int)== -1)=false:=by rw[beq_eq_false_iff_ne];omega
     rw[this];simp
theorem ku:∀(s cur:Str),(splitN cur s).1.length≤s.length∧(splitN cur s).2.length≤cur.length+s.length∧(de (splitN cur s)).flatten.length+(de (splitN cur s)).length≤cur.length+s.length+1
 | [],cur=>by
  simp only[splitN,de,List.length_nil];by_cases h:cur= []
  ·subst h;simp
  ·simp [h]
 |c::s,cur=>by
  simp only[splitN];by_cases hc:c=47
  ·rw[if_pos hc]
   obtain⟨h1,h2,h3⟩:=ku s [];by_cases hcur:cur= []
   ·rw[if_pos hcur]
    simp only[List.length_nil,List.length_cons] at*;exact⟨by omega,by omega,by omega⟩
   ·rw[if_neg hcur]
    simp only[List.length_nil,List.length_cons] at*;refine⟨by omega,by omega, ?_⟩;have e:de (cur::(splitN [] s).1,(splitN [] s).2)=cur::de (splitN [] s):=by
     unfold de;simp only;split<;>simp
    rw[e];simp only[List.flatten_cons,List.length_append,List.length_cons];have hcl:0<cur.length:=List.length_pos_iff.2 hcur;omega
  ·rw[if_neg hc]
   obtain⟨h1,h2,h3⟩:=ku s (cur++[c]);simp only[List.length_append,List.length_singleton,List.length_cons,List.length_nil] at*;exact⟨by omega,by omega,by omega⟩
theorem iK (s:Str):(cf s).flatten.length+(cf s).length≤s.length+1:=by
 have:=(ku s []).2.2;simp only[List.length_nil,Nat.zero_add] at this;exact this
theorem mZ {l:List Str} {x:Str} (h:x∈l):x.length≤l.flatten.length:=by
 induction l with
 |nil=>cases h
 |cons y l ih=>
  simp only[List.mem_cons] at h;simp only[List.flatten_cons,List.length_append];rcases h with rfl|h
  ·omega
  ·have:=ih h;omega
theorem kd {s x:Str} (h:x∈cf s):x.length≤s.length:=by
 have h1:=iK s;have h2:=mZ h;have h3:0<(cf s).length:=List.length_pos_of_mem h;omega
theorem nj:∀l:List Str,(l.flatMap fun x=>47::x).length=l.flatten.length+l.length
 | [] =>rfl
 |x::l=>by simp [List.flatMap_cons,List.length_append,nj l];omega
theorem j_ {s:Str} (hl:s.length≤1073741824):gO s=some (cf s):=by
 unfold gO;have key:∀(n k:Nat) (cur:Str) (acc:List Str),k≤s.length→s.length+1 - k<n→cur.length≤k→acc.length≤k→ct s (fun z7=>some z7) n cur (k:Int) acc=some (acc++de (splitN cur (s.drop k))):=by
  intro n;induction n with
  |zero=>intro k _ _ _ h;omega
  |succ n ih=>
   intro k cur acc hk hn hcur hacc;simp only[ct];have e1:decide ((k:Int)≤(List.length s:Int))=true:=by simp;omega
   rw[e1,aq];by_cases h:k<s.length
   ·obtain⟨c,hc,hd⟩:=pL h
    rw[dec_lt h,aq,bR,aq,toNat_cast,hc,af,hd];simp only[splitN];by_cases h47:c=47
    ·subst h47
     have e2:((UInt8.toNat (47:UInt8):Int) !=(47:Int))=false:=by decide
     rw[e2,ax,if_pos rfl,aX (by omega)];by_cases hc0:cur= []
     ·subst hc0
      have e3:(!(([] :Str)==([] :Str)))=false:=rfl;rw[e3,ax,if_pos rfl];exact ih (k+1) [] acc (by omega) (by omega) (by simp) (by omega)
     ·have e3:(!(cur==([] :Str)))=true:=by simp [hc0]
      rw[e3,aq,if_neg hc0,bK (by unfold LIM;simp;omega),ih (k+1) [] (acc++[cur]) (by omega) (by omega) (by simp) (by simp;omega)];unfold de;simp only;split<;>simp
    ·have e2:((UInt8.toNat c:Int) !=(47:Int))=true:=by
      rw[bne_iff_ne];intro e;apply h47;have:=iL c 47 (by omega);rw[e] at this;simpa using this
     rw[e2,aq,if_neg h47,aX (by omega)];have e4:(s.take (k+1)).drop k=[c]:=by
      have e9:=(List.getElem?_eq_some_iff.1 hc);rw[List.take_add_one,hc];have:(s.take k).length=k:=by simp;omega
      rw[List.drop_append_of_le_length (by omega),List.drop_eq_nil_of_le (by omega)];rfl
     simp only[toNat_cast];rw[aE (by simp;omega),aE (by simp;omega),e4,bK (by unfold LIM;simp;omega)];exact ih (k+1) (cur++[c]) acc (by omega) (by omega) (by simp;omega) (by omega)
   ·have hkl:k=s.length:=by omega
    subst hkl;rw[b7 (Nat.le_refl _),ax,List.drop_length,aX (by omega)];simp only[splitN,de];have ex:∀acc:List Str,ct s (fun z7=>some z7) n ([] :Str) ((s.length+1:Nat):Int) acc=some acc:=by
     intro acc;cases n with
     |zero=>omega
     |succ n=>
      simp only[ct];have:decide (((s.length+1:Nat):Int)≤(List.length s:Int))=false:=by simp;omega
      rw[this,ax]
    by_cases hc0:cur= []
    ·subst hc0
     have e3:(!(([] :Str)==([] :Str)))=false:=rfl;rw[e3,ax,ex];simp
    ·have e3:(!(cur==([] :Str)))=true:=by simp [hc0]
     rw[e3,aq,bK (by unfold LIM;simp;omega),ex];simp [hc0]
 have:=key bo 0 [] [] (Nat.zero_le _) (by have:=mA;omega) (by simp) (by simp);simpa [cf] using this
theorem vA {l:List Str} (hl:l.flatten.length+l.length≤1073741824):mQ l=some (nt l):=by
 unfold mQ nt;by_cases h0:l= []
 ·subst h0;rfl
 ·rw[aR (by simp [h0]),if_neg h0]
  refine eY (l:=l) (fun n i s=>fp l (fun z6=>some z6) n s i) (fun k s=>s=(l.take k).flatMap fun x=>47::x) (fun r=>r=some (l.flatMap fun x=>47::x)) (by omega) (fun n k x s hk hx hi hr=> ?_) (fun n s hi=> ?_) [] (by simp)
  ·simp only[fp]
   have hs:s.length≤1073741824:=by
    subst hi;rw[nj];have h1:(l.take k).flatten.length≤l.flatten.length:=by
     conv=>rhs;rw[←List.take_append_drop k l]
     rw[List.flatten_append,List.length_append];omega
    have h2:(l.take k).length≤l.length:=by simp;omega
    omega
   have hxl:=mZ (List.mem_of_getElem? hx);rw[dec_lt hk,aq,bK (by unfold LIM;simp;omega),bR,aq,toNat_cast,hx,af,bK (by unfold LIM;simp;omega),aX (by omega)];refine hr _ ?_;rw[List.take_add_one,hx,hi];simp
  ·simp only[fp]
   rw[b7 (Nat.le_refl _),ax];rw[List.take_length] at hi;rw[hi]
theorem BE {l:List Str} (h:l≠ []):([47]:Str)++Lib.join l [47]=l.flatMap fun x=>47::x:=by
 cases l with
 |nil=>exact absurd rfl h
 |cons x r=>
  rw[Lib.join_cons];simp [Lib.joinTail,List.flatMap_cons,List.flatMap_def]
theorem xX {l:List Str} (hl:l.flatten.length+l.length≤16777216):jT l=some (nt l):=by
 unfold jT nt;by_cases h0:l= []
 ·subst h0;rfl
 ·have e:=BE h0
  have hlen:(Lib.join l [47]).length+1=l.flatten.length+l.length:=by rw[←nj,←e];simp
  rw[aR (by simp [h0]),if_neg h0];unfold strings_Join;rw[if_pos (by omega),af,bK (by unfold LIM;simp;omega),e]
theorem A3 {l:List Str} {p:Bool} (hl:l.length≤1073741824):eE l (some true) (some p) bo (0:Int)=some (l.any (fun x=>decide (255<x.length))||p):=by
 refine(cu (l:=l) (fun n i (_:Unit)=>eE l (some true) (some p) n i) (fun k (x:Str) s K=>if decide (255<x.length) then some true else K s) (fun _=>some p) (by omega) (fun n k x u hk hx=> ?_) (fun n u=> ?_) ()).trans ?_
 ·simp only[eE]
  rw[dec_lt hk,bR,toNat_cast,hx,aX (by omega)];simp only[aq,af,bt,if_true];have:decide ((List.length x:Int)>(255:Int))=decide (255<x.length):=by rw[decide_eq_decide];omega
  rw[this]
 ·simp only[eE]
  rw[b7 (Nat.le_refl _)];rfl
 ·rw[lO (fun x:Str=>decide (255<x.length)) _ _ (some true) (fun k x=>rfl)]
  cases l.any (fun x=>decide (255<x.length))<;>rfl
theorem oI {s:Str} (hl:s.length≤1073741823):fC s=some (jg s):=by
 unfold fC;have:=iK s;rw[j_ (by omega),af,A3 (by omega)];unfold jg;have:decide ((List.length s:Int)>(4095:Int))=decide (4095<s.length):=by rw[decide_eq_decide];omega
 rw[this]
theorem qJ {α R:Type} (p:α→Bool) (kr k0:Option R):∀(l:List α) (k:Nat) (s:Unit),et (fun _ x s K=>if !p x then kr else K s) (fun _=>k0) k l s=if l.all p then k0 else kr
 | [],_,_=>rfl
 |x::l,k,s=>by
  by_cases h:p x=true
  ·have e:(x::l).all p=l.all p:=by simp [h]
   rw[e];simp only[et];rw[if_neg (by simp [h])];exact qJ p kr k0 l (k+1) s
  ·have e:(x::l).all p=false:=by simp [h]
   rw[e];simp [et,h]
theorem Dv {R:Type} {l:List Str} (kr k0:Option R) (hl:l.length≤1073741824) (hx:∀x∈l,x.length≤1099511627775):dP l kr k0 bo (0:Int)=if l.all cS then k0 else kr:=by
 refine(cu (l:=l) (fun n i (_:Unit)=>dP l kr k0 n i) (fun k (x:Str) s K=>if !cS x then kr else K s) (fun _=>k0) (by omega) (fun n k x u hk hx'=> ?_) (fun n u=> ?_) ()).trans ?_
 ·simp only[dP]
  rw[dec_lt hk,bR,toNat_cast,hx',aX (by omega)];simp only[aq,af,bt,if_true];rw[ie (hx x (List.mem_of_getElem? hx'))];simp only[af]
 ·simp only[dP]
  rw[b7 (Nat.le_refl _)];rfl
 ·exact qJ cS _ _ _ _ _
theorem uj {s:Str} (hl:s.length≤1073741823):kQ s=some (fg s):=by
 unfold kQ;have:=iK s;rw[j_ (by omega),af,Dv _ _ (by omega) (fun x hx=>by have:=kd hx;omega),vA (by omega),af];unfold fg;by_cases h1:(cf s).all cS=true
 ·rw[if_pos h1]
  by_cases h2:nt (cf s)=s
  ·rw[aR (by simp [h2]),if_pos ⟨h2,h1⟩]
  ·rw[aE (by simp [h2]),if_neg (fun h=>h2 h.1)]
 ·rw[if_neg h1,if_neg (fun h=>h1 h.2)]
theorem Ak {R:Type} (k2:Str→List Str→Option R):∀(n:Nat) (s:Str) (acc:List Str),s.length<n→s.length≤1073741823→acc.length+s.length≤1073741824→
 bc k2 n s acc=k2 (splitN [] s).2 (acc++(splitN [] s).1):=by
 intro n;induction n with
 |zero=>intro s acc h;omega
 |succ n ih=>
  intro s acc hn hl hacc;simp only[bc];by_cases h1:s=[47]
  ·subst h1
   rw[aE (by rfl),aE (by decide),aR (by rfl),aE (by decide)];show bc k2 n [] acc=_;have hn':1<n+1:=hn;rw[ih [] acc (by simp;omega) (by simp) (by simp at hacc⊢;omega)];rfl
  ·rw[aR (by rw[beq_eq_false_iff_ne];exact fun e=>h1 e.symm)]
   unfold stringslite_IndexByte;have e47:((47:Int).toNat.toUInt8)=47:=rfl;rw[af,e47];rcases fG 47 s with⟨h2,h3⟩ |⟨a,b,h2,h3,h4⟩
   ·rw[h3,aE (by decide),iW s [] h2];simp
   ·have hsl:s.length=a.length+(b.length+1):=by rw[h2];simp
    rw[h4,aR (by simp)];have e0:IntKind.i64.wrap ((a.length:Int)+0)=(a.length:Int):=by rw[bC (by omega) (by omega)];omega
    rw[e0,aX (by omega)];simp only[toNat_cast];have e1:s.take a.length=a:=by rw[h2];simp
    have e2:s.drop (a.length+1)=b:=by rw[h2];simp
    rw[e1,e2,aE (by simp;omega)];have hsp:=kB a [] b h3;rw[←h2,List.nil_append] at hsp;rw[hsp];by_cases ha:a= []
    ·rw[aR (by simp [ha]),aE (by simp;omega),ih b acc (by omega) (by omega) (by omega),if_pos ha]
    ·rw[aE (by simp [ha]),bK (by unfold LIM;simp;omega),aE (by simp;omega),ih b (acc++[a]) (by omega) (by omega) (by simp;omega),if_neg ha]
     simp
theorem Ci {R:Type} {l:List Str} (kr:Int→Option R) (k0:Option R) (hl:l.length≤1073741824) (hx:∀x∈l,x.length≤1099511627775) (r:Option R) (hr:∀k:Nat,kr (k:Int)=r):cd (List.length l:Int) l kr k0 bo (0:Int)=if l.all cS then k0 else r:=by
 refine(cu (l:=l) (fun n i (_:Unit)=>cd (List.length l:Int) l kr k0 n i) (fun k (x:Str) s K=>if !cS x then r else K s) (fun _=>k0) (by omega) (fun n k x u hk hx'=> ?_) (fun n u=> ?_) ()).trans ?_
 ·simp only[cd]
  rw[dec_lt hk,A2 hk,toNat_cast,hx',aX (by omega)];simp only[aq,af,bt,if_true];rw[k6 (hx x (List.mem_of_getElem? hx')),hr];simp only[af]
 ·simp only[cd]
  rw[b7 (Nat.le_refl _)];rfl
 ·exact qJ cS _ _ _ _ _
theorem vk {s:Str} (hl:s.length≤8388608):mu s=some (fg s):=by
 unfold mu;rw[Ak _ bo s [] (by have:=mA;omega) (by omega) (by simp;omega)];have h1:=iK s;have h2:∀l,l=cf s→(ai (jT l) fun y10=>ae (!(y10==s)) (some (([] :List Str),false)) (cd (List.length l:Int) l (fun z22=>ae (decide (z22≥(0:Int))) (some (([] :List Str),false)) (some (l,true))) (some (l,true)) bo (0:Int)))=some (fg s):=by
  rintro l rfl;rw[xX (by omega),af,Ci _ _ (by omega) (fun x hx=>by have:=kd hx;omega) (some ([],false)) (fun k=>by rw[aE (by simp)])];unfold fg;by_cases h2:nt (cf s)=s
  ·rw[aR (by simp [h2])]
   by_cases h1:(cf s).all cS=true
   ·rw[if_pos h1,if_pos ⟨h2,h1⟩]
   ·rw[if_neg h1,if_neg (fun h=>h1 h.2)]
  ·rw[aE (by simp [h2]),if_neg (fun h=>h2 h.1)]
 have hs:=ku s [];simp only[List.nil_append];by_cases h0:(splitN [] s).2= []
 ·rw[aR (by simp [h0])]
  exact h2 _ (by unfold cf de;rw[if_pos h0])
 ·rw[aE (by simp [h0]),bK (by unfold LIM;simp;omega)]
  exact h2 _ (by unfold cf de;rw[if_neg h0])
theorem De (k2:Str→Option Bool):∀(n:Nat) (s:Str),s.length<n→s.length≤1073741823→
 br (some true) k2 n s=if (splitN [] s).1.any (fun x=>decide (255<x.length)) then some true else k2 (splitN [] s).2:=by
 intro n;induction n with
 |zero=>intro s h;omega
 |succ n ih=>
  intro s hn hl;simp only[br];by_cases h1:s=[47]
  ·subst h1
   rw[aE (by rfl),aE (by decide),aR (by rfl),aE (by decide)];show br (some true) k2 n [] =_;have hn':1<n+1:=hn;rw[ih [] (by simp;omega) (by simp)];rfl
  ·rw[aR (by rw[beq_eq_false_iff_ne];exact fun e=>h1 e.symm)]
   unfold stringslite_IndexByte;have e47:((47:Int).toNat.toUInt8)=47:=rfl;rw[af,e47];rcases fG 47 s with⟨h2,h3⟩ |⟨a,b,h2,h3,h4⟩
   ·rw[h3,aE (by decide),iW s [] h2];simp
   ·have hsl:s.length=a.length+(b.length+1):=by rw[h2];simp
    rw[h4,aR (by simp)];have e0:IntKind.i64.wrap ((a.length:Int)+0)=(a.length:Int):=by rw[bC (by omega) (by omega)];omega
    rw[e0,aX (by omega)];simp only[toNat_cast];have e1:s.take a.length=a:=by rw[h2];simp
    have e2:s.drop (a.length+1)=b:=by rw[h2];simp
    rw[e1,e2,aE (by simp;omega)];have hsp:=kB a [] b h3;rw[←h2,List.nil_append] at hsp;rw[hsp];by_cases ha:a= []
    ·rw[aR (by simp [ha]),aE (by simp;omega),ih b (by omega) (by omega),if_pos ha]
    ·rw[aE (by simp [ha]),if_neg ha]
     simp only[List.any_cons];by_cases hlen:255<a.length
     ·rw[aE (by simp;omega)];simp [hlen]
     ·rw[aR (by simp;omega),aE (by simp;omega),ih b (by omega) (by omega)];simp [hlen]
theorem pI {s:Str} (hl:s.length≤1073741823):gK s=some (jg s):=by
 unfold gK;rw[De _ bo s (by have:=mA;omega) hl];have e9:decide ((List.length s:Int)>(4095:Int))=decide (4095<s.length):=by rw[decide_eq_decide];omega
 rw[e9];unfold jg cf de;by_cases h0:(splitN [] s).2= []
 ·rw[aR (by simp [h0]),if_pos h0]
  cases (splitN [] s).1.any (fun x=>decide (255<x.length))<;>simp
 ·rw[aE (by simp [h0]),if_neg h0]
  simp only[List.any_append,List.any_cons,List.any_nil,Bool.or_false];by_cases h5:255<(splitN [] s).2.length
  ·rw[aE (by simp;omega)]
   cases (splitN [] s).1.any (fun x=>decide (255<x.length))<;>simp [h5]
  ·rw[aR (by simp;omega)]
   cases (splitN [] s).1.any (fun x=>decide (255<x.length))<;>simp [h5]
theorem Ds {R:Type} (k2:Str→List Str→Option R):∀(n:Nat) (s:Str) (acc:List Str),s.length<n→s.length≤1073741823→acc.length+s.length≤1073741824→
 bh k2 n s acc=k2 (splitN [] s).2 (acc++(splitN [] s).1):=by
 intro n;induction n with
 |zero=>intro s acc h;omega
 |succ n ih=>
  intro s acc hn hl hacc;simp only[bh];by_cases h1:s=[47]
  ·subst h1
   rw[aE (by rfl),aE (by decide),aR (by rfl),aE (by decide)];show bh k2 n [] acc=_;have hn':1<n+1:=hn;rw[ih [] acc (by simp;omega) (by simp) (by simp at hacc⊢;omega)];rfl
  ·rw[aR (by rw[beq_eq_false_iff_ne];exact fun e=>h1 e.symm)]
   unfold stringslite_IndexByte;have e47:((47:Int).toNat.toUInt8)=47:=rfl;rw[af,e47];rcases fG 47 s with⟨h2,h3⟩ |⟨a,b,h2,h3,h4⟩
   ·rw[h3,aE (by decide),iW s [] h2];simp
   ·have hsl:s.length=a.length+(b.length+1):=by rw[h2];simp
    rw[h4,aR (by simp)];have e0:IntKind.i64.wrap ((a.length:Int)+0)=(a.length:Int):=by rw[bC (by omega) (by omega)];omega
    rw[e0,aX (by omega)];simp only[toNat_cast];have e1:s.take a.length=a:=by rw[h2];simp
    have e2:s.drop (a.length+1)=b:=by rw[h2];simp
    rw[e1,e2,aE (by simp;omega)];have hsp:=kB a [] b h3;rw[←h2,List.nil_append] at hsp;rw[hsp];by_cases ha:a= []
    ·rw[aR (by simp [ha]),aE (by simp;omega),ih b acc (by omega) (by omega) (by omega),if_pos ha]
    ·rw[aE (by simp [ha]),bK (by unfold LIM;simp;omega),aE (by simp;omega),ih b (acc++[a]) (by omega) (by omega) (by simp;omega),if_neg ha]
     simp
theorem fR {s:Str} (hl:s.length≤1073741823):eo s=some (bx s):=by
 unfold eo;rw[Ds _ bo s [] (by have:=mA;omega) hl (by simp;omega)];have hs:=ku s [];simp only[List.nil_append];have fin:∀l:List Str,l=cf s→(ae (decide ((List.length s:Int)≥(1:Int))) (
  ae (decide (0≤(1:Int)∧(1:Int)≤(s.length:Int))) (
  ae (decide ((List.length l:Int)>(0:Int))) (
  ae (decide ((List.length s:Int)≥(1:Int))) (
  ae (decide (0≤(IntKind.i64.wrap ((List.length s:Int) - (1:Int)))∧(IntKind.i64.wrap ((List.length s:Int) - (1:Int)))≤(s.length:Int))) (some (⟨((s.take (Int.toNat (1:Int)))==([47]:Str)),l,((s.drop (Int.toNat (IntKind.i64.wrap ((List.length s:Int) - (1:Int)))))==([47]:Str))⟩:Pth)) (none)) (some (⟨((s.take (Int.toNat (1:Int)))==([47]:Str)),l,false⟩:Pth))) (some (⟨((s.take (Int.toNat (1:Int)))==([47]:Str)),l,false⟩:Pth))) (none)) (
  ae (decide ((List.length l:Int)>(0:Int))) (
  ae (decide ((List.length s:Int)≥(1:Int))) (
  ae (decide (0≤(IntKind.i64.wrap ((List.length s:Int) - (1:Int)))∧(IntKind.i64.wrap ((List.length s:Int) - (1:Int)))≤(s.length:Int))) (some (⟨false,l,((s.drop (Int.toNat (IntKind.i64.wrap ((List.length s:Int) - (1:Int)))))==([47]:Str))⟩:Pth)) (none)) (some (⟨false,l,false⟩:Pth))) (some (⟨false,l,false⟩:Pth))))=some (bx s):=by
  rintro l rfl;unfold bx;by_cases h0:s= []
  ·subst h0;rfl
  ·have hp:0<s.length:=List.length_pos_iff.2 h0
   have e1:IntKind.i64.wrap ((List.length s:Int) - 1)=((s.length - 1:Nat):Int):=by rw[bC (by omega) (by omega)];omega
   have e2:decide ((List.length s:Int)≥(1:Int))=true:=by simp;omega
   rw[e2,aq,aE (by simp;omega),e1,toNat_cast];have e3:Int.toNat (1:Int)=1:=rfl;rw[e3];simp only[aq];cases hn:cf s with
   |nil=>rw[aR (by simp)];simp
   |cons x l=>rw[aE (by simp),aE (by simp)];simp
 by_cases h0:(splitN [] s).2= []
 ·rw[aR (by simp [h0])]
  exact fin _ (by unfold cf de;rw[if_pos h0])
 ·rw[aE (by simp [h0]),bK (by unfold LIM;simp;omega)]
  exact fin _ (by unfold cf de;rw[if_neg h0])
theorem gm {s:Str} (hl:s.length≤1073741823):dD s=some (bx s):=by
 unfold dD bx;rw[j_ (by omega),af];by_cases h0:s= []
 ·subst h0;rfl
 ·have hp:0<s.length:=List.length_pos_iff.2 h0
  have e1:IntKind.i64.wrap ((List.length s:Int) - 1)=((s.length - 1:Nat):Int):=by rw[bC (by omega) (by omega)];omega
  have e3:Int.toNat (0:Int)=0:=rfl;rw[aE (by simp;omega),aE (by decide),e3,e1,toNat_cast,List.getElem?_eq_getElem hp,af];have ht:s.take 1=[s[0]]:=by
   rw[List.take_add_one,List.getElem?_eq_getElem hp];simp
  have hd:s.drop (s.length - 1)=[s[s.length - 1]]:=by
   rw[List.drop_eq_getElem_cons (by omega),List.drop_eq_nil_of_le (by omega)]
  have b1:((UInt8.toNat s[0]:Int)==(47:Int))=(s.take 1==[47]):=by
   rw[ht];have:=iL s[0] 47 (by omega);have e:((UInt8.toNat s[0]:Int)==(47:Int))=(s[0]==47):=this;rw[e,Bool.eq_iff_iff];simp
  have b2:((UInt8.toNat s[s.length - 1]:Int)==(47:Int))=(s.drop (s.length - 1)==[47]):=by
   rw[hd];have:=iL s[s.length - 1] 47 (by omega);have e:((UInt8.toNat s[s.length - 1]:Int)==(47:Int))=(s[s.length - 1]==47):=this;rw[e,Bool.eq_iff_iff];simp
  rw[b1];cases hn:cf s with
  |nil=>rw[aR (by simp)];simp
  |cons x l=>
   rw[aE (by simp),aE (by simp),List.getElem?_eq_getElem (by omega),af,b2];simp
end Go.Eng
set_option linter.unusedSimpArgs false
set_option linter.unusedVariables false
namespace Go.Eng
open Go
structure WF (f:Fs):Prop where
 sm:SmF f
 sort:cK f.aa
 pos:∀x∈f.aa,1≤x.ino
 right:∀x∈f.aa,fw x.entries=true
 there:∀x∈f.aa,∀e∈x.entries,(al e.ino f.aa).isSome=true
 root:(al 1 f.aa).isSome=true
theorem oX {x:ah} (h:eK x=true):fw x.entries=true:=by
 unfold eK at h;simp only[Bool.or_eq_true,Bool.and_eq_true,decide_eq_true_eq] at h;rcases h with⟨_,h,_⟩ |⟨_,_,h⟩ |⟨_,h,_⟩
 ·have:x.entries= [] :=by simpa using h
  rw[this];rfl
 ·exact h
 ·have:x.entries= [] :=by simpa using h
  rw[this];rfl
theorem Sound.wf {f:Fs} (h:Sound f) (hs:SmF f):WF f:=by
 obtain⟨r,hr,_⟩:=h.root;exact⟨hs,h.sort,fun x hx=>(h.ino x hx).1,fun x hx=>oX (h.kind x hx),fun x hx e he=>by
  obtain⟨y,hy⟩:=h.there x hx e he;rw[hy];rfl,by rw[hr];rfl⟩
section
variable {f:Fs}
theorem WF.CI (h:WF f) {x:ah} (hx:x∈f.aa):fx x.entries:=((fA _).1 (h.right x hx)).1
theorem WF.found (h:WF f) {n:Int} {x:ah} (hx:al n f.aa=some x):x∈f.aa∧x.ino=n:=bS hx
theorem WF.zero (h:WF f):al 0 f.aa=none:=by
 cases hf:al 0 f.aa with
 |none=>rfl
 |some x=>
  obtain⟨h1,h2⟩:=bS hf;have:=h.pos x h1;omega
theorem WF.get (h:WF f) (n:Int):bz f n=some (aB n f.aa,(al n f.aa).isSome):=fT h.sort h.sm.len
theorem WF.m8 (h:WF f) (n:Int):bu f n=some (aB n f.aa,(al n f.aa).isSome):=fe h.sm.len
theorem WF.set (h:WF f) (x:ah):bG f x=some (f.set x):=cU h.sort h.sm.len
theorem WF.apo (h:WF f) (x:ah):bN f x=some (f.set x):=dq h.sm.len
end
def b9 (n:Str) (l:List Entry):Int:=match cP n l with|some e=>e.ino|none=>0
theorem nU {l:List Entry} {n:Str} (hs:fx l) (hl:l.length≤1073741824):iy l n=some (b9 n l,(cP n l).isSome):=by
 rw[vg hs hl];unfold b9;cases cP n l<;>rfl
theorem nJ {l:List Entry} {n:Str} (hl:l.length≤1073741824):ix l n=some (b9 n l,(cP n l).isSome):=by
 rw[u6 hl];unfold b9;cases cP n l<;>rfl
theorem gA {f:Fs} (h:WF f) {x:ah} (hx:x∈f.aa) (n:Str):b9 n x.entries=0∨(al (b9 n x.entries) f.aa).isSome=true:=by
 unfold b9;cases hf:cP n x.entries with
 |none=>exact Or.inl rfl
 |some e=>exact Or.inr (h.there x hx e (bS hf).1)
def eL:aj:=⟨0, [],0⟩
def dG:aj:=⟨0, [],1⟩
def cD (l:List ah):List Str→aj→aj×Int
 | [],s=>(s,0)
 |n::ns,s=>match al s.ino l with
  |none=>(eL,1)
  |some d=>if d.kind=2 then cD l ns ⟨d.ino,n,b9 n d.entries⟩ else (eL,3)
def atP (f:Fs) (p:Str):aj×Int:=if (fg p).2=true then cD f.aa (fg p).1 dG else (eL,9)
theorem vN {p:Str}:(fg p).1.length≤p.length+1∧∀x∈(fg p).1,x.length≤p.length:=by
 unfold fg;split
 ·exact⟨by have:=iK p;simp only;omega,fun x hx=>kd hx⟩
 ·exact⟨by simp,by simp⟩
theorem drop_cons {α:Type} {l:List α} {k:Nat} {x:α} (h:l[k]? =some x):l.drop k=x::l.drop (k+1):=by
 obtain⟨hk,e⟩:=List.getElem?_eq_some_iff.1 h;rw[List.drop_eq_getElem_cons hk,e]
theorem z_ {f:Fs} {p:Str} (h:WF f) (hp:p.length≤8388608):qb f p=some (atP f p):=by
 unfold qb atP;rw[vk hp,af];have hl:=vN (p:=p);cases hb:(fg p).2
 ·rfl
 ·simp only[Bool.not_true,ax,if_true]
  generalize (fg p).1=l at hl;refine eY (l:=l) (fun n i s=>gH l (List.length l:Int) f (fun z15=>some ((⟨((⟨0, [],0⟩:aj).dir),((⟨0, [],0⟩:aj).name),((⟨0, [],0⟩:aj).ino)⟩:aj),z15)) (fun z16=>some (z16,(0:Int))) n i s) (fun k s=>cD f.aa (l.drop k) s=cD f.aa l dG) (fun r=>r=some (cD f.aa l dG)) (by omega) (fun n k x s hk hx hi hr=> ?_) (fun n s hi=> ?_) dG (by simp)
  ·simp only[gH]
   rw[drop_cons hx] at hi;simp only[cD] at hi;rw[dec_lt hk,bR,toNat_cast,hx,aX (by omega)];simp only[aq,af];rw[h.get,af];unfold aB;cases hf:al s.ino f.aa with
   |none=>rw[hf] at hi;simp only[Option.isSome_none,Bool.not_false,aq];rw[←hi];rfl
   |some d=>
    rw[hf] at hi;simp only[Option.isSome_some,Bool.not_true,ax,Option.getD_some,dp] at hi⊢;by_cases hk2:d.kind=2
    ·rw[if_pos hk2] at hi
     have hd:=(h.found hf).1;rw[aR (by simp [hk2]),nU (h.CI hd) (h.sm.dg d hd),af];exact hr _ hi
    ·rw[if_neg hk2] at hi
     rw[aE (by simp [hk2]),←hi];rfl
  ·simp only[gH]
   rw[List.drop_length] at hi;simp only[cD] at hi;rw[b7 (Nat.le_refl _),ax,←hi]
theorem yP {f:Fs} {p:Str} (h:WF f) (hp:p.length≤8388608):pF f p=some (atP f p):=by
 unfold pF atP;rw[uj (by omega),af];have hl:=vN (p:=p);cases hb:(fg p).2
 ·rfl
 ·simp only[Bool.not_true,ax,if_true]
  generalize (fg p).1=l at hl;refine eY (l:=l) (fun n i s=>gR l f (fun z15=>some ((⟨((⟨0, [],0⟩:aj).dir),((⟨0, [],0⟩:aj).name),((⟨0, [],0⟩:aj).ino)⟩:aj),z15)) (fun z16=>some (z16,(0:Int))) n i s) (fun k s=>cD f.aa (l.drop k) s=cD f.aa l dG∧(s.ino=0∨(al s.ino f.aa).isSome=true)) (fun r=>r=some (cD f.aa l dG)) (by omega) (fun n k x s hk hx hi hr=> ?_) (fun n s hi=> ?_) dG ⟨by simp,Or.inr h.root⟩
  ·simp only[gR]
   obtain⟨hi,hz⟩:=hi;rw[drop_cons hx] at hi;simp only[cD] at hi;rw[dec_lt hk,aq,eX,bR,toNat_cast,hx,aX (by omega)];by_cases h0:s.ino=0
   ·rw[aE (by simp [h0]),←hi,h0,h.zero];rfl
   ·rw[aR (by simp [h0]),h.m8,af]
    obtain⟨d,hf⟩:=Option.isSome_iff_exists.1 (hz.resolve_left h0);unfold aB;rw[hf] at hi⊢;simp only[aq,af,Option.getD_some,dp] at hi⊢;by_cases hk2:d.kind=2
    ·rw[if_pos hk2] at hi
     have hd:=(h.found hf).1;rw[aR (by simp [hk2]),nJ (h.sm.dg d hd),af];exact hr _ ⟨hi,gA h hd x⟩
    ·rw[if_neg hk2] at hi
     rw[aE (by simp [hk2]),←hi];rfl
  ·simp only[gR]
   obtain⟨hi,_⟩:=hi;rw[List.drop_length] at hi;simp only[cD] at hi;rw[b7 (Nat.le_refl _),ax,←hi]
theorem CY {l:List ah}:∀{ns:List Str} {s t:aj},cD l ns s=(t,0)→(ns= [] ∧t=s)∨∃d n ns',ns=ns'++[n]∧al t.dir l=some d∧d.ino=t.dir∧d.kind=2∧t.name=n∧t.ino=b9 n d.entries
 | [],s,t,h=>by simp [cD] at h;exact Or.inl ⟨rfl,h.symm⟩
 |n::ns,s,t,h=>by
  right;simp only[cD] at h;cases hf:al s.ino l with
  |none=>rw[hf] at h;simp at h
  |some d=>
   rw[hf] at h;simp only at h;by_cases hk:d.kind=2
   ·rw[if_pos hk] at h
    rcases CY h with⟨rfl,rfl⟩ |⟨d',n',ns',h1,h2,h3,h4,h5,h6⟩
    ·refine⟨d,n, [],rfl, ?_,rfl,hk,rfl,rfl⟩
     have:=(bS hf).2;simp only;rw[this];exact hf
    ·exact⟨d',n',n::ns',by rw[h1];rfl,h2,h3,h4,h5,h6⟩
   ·rw[if_neg hk] at h;simp at h
theorem FJ {f:Fs} (h:WF f) {ns:List Str} {t:aj} (hg:cD f.aa ns dG=(t,0)):t.ino=0∨(al t.ino f.aa).isSome=true:=by
 rcases CY hg with⟨_,rfl⟩ |⟨d,n,ns',_,h2,_,_,_,h6⟩
 ·exact Or.inr h.root
 ·rw[h6];exact gA h (bS h2).1 n
def kC (f:Fs) (p:Str):ah×Int:=if (atP f p).2=0 then (match al (atP f p).1.ino f.aa with|some x=>(x,0) |none=>(eN,1)) else (eN,(atP f p).2)
theorem xA {f:Fs} {p:Str} (h:WF f) (hp:p.length≤8388608):n3 f p=some (kC f p):=by
 unfold n3 kC;rw[z_ h hp,af,dp];by_cases h0:(atP f p).2=0
 ·rw[aR (by simp [h0]),if_pos h0,h.get,af]
  unfold aB;cases al (atP f p).1.ino f.aa<;>rfl
 ·rw[aE (by simp [h0]),if_neg h0];rfl
theorem K3 {f:Fs} {p:Str} (h:WF f) (h0:(atP f p).2=0):(atP f p).1.ino=0∨(al (atP f p).1.ino f.aa).isSome=true:=by
 unfold atP at h0⊢;split
 ·rename_i hb
  rw[if_pos hb] at h0;have:cD f.aa (fg p).1 dG=((cD f.aa (fg p).1 dG).1,0):=by rw[←h0]
  exact FJ h this
 ·rename_i hb
  rw[if_neg hb] at h0;cases h0
theorem xg {f:Fs} {p:Str} (h:WF f) (hp:p.length≤8388608):n7 f p=some (kC f p):=by
 unfold n7 kC;rw[yP h hp,af,dp,eX];by_cases h0:(atP f p).2=0
 ·rw[aR (by simp [h0]),if_pos h0]
  by_cases hi:(atP f p).1.ino=0
  ·rw[aE (by simp [hi]),hi,h.zero];rfl
  ·rw[aR (by simp [hi]),h.m8,af]
   obtain⟨x,hx⟩:=Option.isSome_iff_exists.1 ((K3 h h0).resolve_left hi);unfold aB;rw[hx];rfl
 ·rw[aE (by simp [h0]),if_neg h0];rfl
def ah.rK (d:ah) (l:List Entry):ah:=⟨d.ino,d.kind,d.aL,d.data,d.parent,l⟩
theorem jz {f:Fs} {x:ah}:(f.set x).aa.length≤f.aa.length+1:=nc
theorem FM {f:Fs} {x:ah} {N:Nat} (h:∀y∈f.aa,y.entries.length≤N) (hx:x.entries.length≤N):∀y∈(f.set x).aa,y.entries.length≤N:=by
 intro y hy;rcases tP.1 hy with rfl|⟨hy,_⟩
 ·exact hx
 ·exact h y hy
end Go.Eng
set_option linter.unusedSimpArgs false
set_option linter.unusedVariables false
set_option linter.unusedSectionVars false
namespace Go.Eng
open Go
def jA {α:Type} (μ :α→Int) (l:List α):Int:=(l.map μ).sum
section
variable {α:Type} {μ :α→Int}
theorem dA (μ :α→Int) (x:α) (l:List α):jA μ (x::l)= μ x+jA μ l:=by simp [jA]
theorem sD (h:∀x,0≤ μ x):∀l:List α,0≤jA μ l
 | [] =>by simp [jA]
 |x::l=>by rw[dA];have:=h x;have:=sD h l;omega
theorem lH (h:∀x,0≤ μ x) {x:α}:∀{l:List α},x∈l→ μ x≤jA μ l
 |y::l,hx=>by
  rw[dA];have h1:=h y;have h2:=sD h l;simp only[List.mem_cons] at hx;rcases hx with rfl|hx
  ·omega
  ·have:=lH h hx;omega
theorem ue (h:∀x,0≤ μ x) {x y:α} (hne:x≠y):∀{l:List α},x∈l→y∈l→ μ x+ μ y≤jA μ l
 |z::l,hx,hy=>by
  rw[dA];have h1:=h z;simp only[List.mem_cons] at hx hy;rcases hx with rfl|hx
  ·rcases hy with rfl|hy
   ·exact absurd rfl hne
   ·have:=lH h hy;omega
  ·rcases hy with rfl|hy
   ·have:=lH h hx;omega
   ·have:=ue h hne hx hy;omega
theorem uG (h:∀x,0≤ μ x):∀{l:List α},0<jA μ l→∃x∈l,0< μ x
 | [],hp=>by simp [jA] at hp
 |z::l,hp=>by
  rw[dA] at hp;by_cases hz:0< μ z
  ·exact⟨z,by simp,hz⟩
  ·obtain⟨x,hx,h2⟩:=uG h (l:=l) (by omega)
   exact⟨x,by simp [hx],h2⟩
theorem qg (l:List α):jA (fun _=>1) l=(l.length:Int):=by
 induction l with
 |nil=>rfl
 |cons x l ih=>rw[dA,ih,List.length_cons];omega
end
def gj {α:Type} (μ :α→Int):Option α→Int
 |some x=> μ x
 |none=>0
section
variable {α κ:Type} [DecidableEq κ] {lt:κ→κ→Bool} {key:α→κ}
theorem zh (μ :α→Int) (x:α):∀l:List α,jA μ (ig lt key x l)= μ x+jA μ l
 | [] =>by simp [ig,jA]
 |y::l=>by
  simp only[ig];split
  ·rw[dA]
  ·rw[dA,zh μ x l,dA];omega
theorem AP (k:κ) (y:α) (l:List α):fF key k (y::l)=if key y=k then fF key k l else y::fF key k l:=by
 unfold fF;rw[List.filter_cons];by_cases h:key y=k<;>simp [h]
theorem tN (k:κ) (y:α) (l:List α):cx key k (y::l)=if key y=k then some y else cx key k l:=by
 unfold cx;rw[List.find?_cons];by_cases h:key y=k<;>simp [h]
theorem jU (O:LO lt) (μ :α→Int) {k:κ}:∀{l:List α},cQ lt key l→jA μ (fF key k l)+gj μ (cx key k l)=jA μ l
 | [],_=>by simp [fF,cx,jA,gj]
 |y::l,hs=>by
  unfold cQ at hs;rw[List.pairwise_cons] at hs;rw[AP,tN,dA];by_cases h:key y=k
  ·rw[if_pos h,if_pos h,yq O (fun x hx=>by rw[←h];exact hs.1 x hx)]
   simp only[gj];omega
  ·rw[if_neg h,if_neg h,dA]
   have:=jU O μ (k:=k) hs.2;omega
theorem pE (O:LO lt) (μ :α→Int) {x:α} {l:List α} (hs:cQ lt key l):jA μ (na lt key x l)+gj μ (cx key (key x) l)=jA μ l+ μ x:=by
 unfold na;rw[zh];have:=jU O μ (k:=key x) hs;omega
theorem Hp (O:LO lt) {x:α} {l:List α} (hs:cQ lt key l):(na lt key x l).length=if (cx key (key x) l).isSome then l.length else l.length+1:=by
 have h:=pE O (fun _=>1) (x:=x) hs;rw[qg,qg] at h;cases hf:cx key (key x) l with
 |none=>rw[hf] at h;simp only[gj] at h;simp;omega
 |some y=>rw[hf] at h;simp only[gj] at h;simp;omega
theorem Fo (O:LO lt) {k:κ} {l:List α} (hs:cQ lt key l):(fF key k l).length+(if (cx key k l).isSome then 1 else 0)=l.length:=by
 have h:=jU O (fun _=>1) (k:=k) hs;rw[qg,qg] at h;cases hf:cx key k l with
 |none=>rw[hf] at h;simp only[gj] at h;simp;omega
 |some y=>rw[hf] at h;simp only[gj] at h;simp;omega
end
def one (n:Int) (e:Entry):Int:=if e.ino=n then 1 else 0
def ec (n:Int) (l:List Entry):Int:=jA (one n) l
def fc (n:Int) (l:List ah):Int:=jA (fun x=>ec n x.entries) l
theorem xM (n:Int) (e:Entry):0≤one n e:=by unfold one;split<;>omega
theorem wc (n:Int) (l:List Entry):0≤ec n l:=sD (xM n) l
theorem FF (n:Int) (l:List ah):0≤fc n l:=sD (μ :=fun x:ah=>ec n x.entries) (fun x=>wc n x.entries) l
theorem Aj {n:Int} {l:List Entry} {e:Entry} (h:e∈l) (he:e.ino=n):1≤ec n l:=by
 have:=lH (xM n) h;unfold one at this;rw[if_pos he] at this;exact this
theorem Gl {n:Int} {l:List Entry} (h:0<ec n l):∃e∈l,e.ino=n:=by
 obtain⟨e,he,h2⟩:=uG (xM n) h;refine⟨e,he, ?_⟩;unfold one at h2;split at h2
 ·assumption
 ·omega
theorem xm {n:Int} {l:List ah} {x:ah} {e:Entry} (hx:x∈l) (h:e∈x.entries) (he:e.ino=n):1≤fc n l:=by
 have h1:=lH (μ :=fun x:ah=>ec n x.entries) (fun x=>wc n x.entries) hx;have h2:=Aj h he;unfold fc;omega
theorem Gj {n:Int} {l:List ah} (h:0<fc n l):∃x∈l,∃e∈x.entries,e.ino=n:=by
 obtain⟨x,hx,h2⟩:=uG (μ :=fun x:ah=>ec n x.entries) (fun x=>wc n x.entries) h;exact⟨x,hx,Gl h2⟩
theorem sP {n:Int} {l:List ah} (h:fc n l≤1) {x y:ah} {e e':Entry} (hx:x∈l) (he:e∈x.entries) (hn:e.ino=n) (hy:y∈l) (he':e'∈y.entries) (hn':e'.ino=n):x=y∧e=e':=by
 have hxy:x=y:=by
  rcases Classical.em (x=y) with h'|h'
  ·exact h'
  ·have h1:=ue (μ :=fun x:ah=>ec n x.entries) (fun x=>wc n x.entries) h' hx hy
   have h2:=Aj he hn;have h3:=Aj he' hn';unfold fc at h;omega
 subst hxy;refine⟨rfl, ?_⟩;rcases Classical.em (e=e') with h'|h'
 ·exact h'
 ·have h1:=ue (xM n) h' he he'
  unfold one at h1;rw[if_pos hn,if_pos hn'] at h1;have h2:=lH (μ :=fun x:ah=>ec n x.entries) (fun x=>wc n x.entries) hx;unfold fc at h;unfold ec at h h2;unfold one at h h2;omega
theorem xc (n:Int) (l:List Entry):ec n l=(k8 n l:Int):=by
 induction l with
 |nil=>rfl
 |cons e l ih=>
  unfold ec at ih⊢;rw[dA,ih,D3];unfold one;split<;>omega
theorem vP (n:Int):∀(l:List ah) (s:Nat×Int),((eH n l s).1:Int)=s.1+fc n l
 | [],s=>by simp [eH,fc,jA]
 |x::l,s=>by
  simp only[eH];rw[vP n l];unfold fc;rw[dA,xc];simp only;omega
theorem wy (f:Fs) (n:Int):((dw f n).1:Int)=fc n f.aa:=by
 unfold dw;rw[vP];simp
theorem qO (n:Int):∀(l:List ah) (s:Nat×Int) (k:Int),(∀x∈l,∀e∈x.entries,e.ino=n→x.ino=k)→(eH n l s).2=if fc n l=0 then s.2 else k
 | [],s,k,_=>by simp [eH,fc,jA]
 |x::l,s,k,h=>by
  simp only[eH];rw[qO n l _ k (fun y hy=>h y (by simp [hy]))];have h1:=wc n x.entries;have h2:=FF n l;have h3:fc n (x::l)=ec n x.entries+fc n l:=by unfold fc;rw[dA]
  rw[h3];by_cases h0:k8 n x.entries=0
  ·have:ec n x.entries=0:=by rw[xc,h0];rfl
   simp only[h0,if_true,this,Int.zero_add]
  ·have h4:0<ec n x.entries:=by rw[xc];omega
   obtain⟨e,he,hn⟩:=Gl h4;have h5:=h x (by simp) e he hn;have h6:¬ec n x.entries+fc n l=0:=by omega
   simp only[h0,if_false,h6,h5];split<;>rfl
theorem dN {l:List ah} {x:ah} (hs:cK l) (hx:x∈l):al x.ino l=some x:=lE loI hs hx
theorem Bk {l:List ah} {x:ah} {k:Int} (hs:cK l) (hx:x∈l) (hk:x.ino=k):al k l=some x:=hk▸lE loI hs hx
theorem aN {l:List ah} {k:Int} {x:ah} (h:al k l=some x):x∈l∧x.ino=k:=bS h
inductive Reach (l:List ah):Int→Prop where
 |root:Reach l 1
 |step {k:Int} {x:ah} {e:Entry}:Reach l k→al k l=some x→e∈x.entries→Reach l e.ino
theorem ba {k:Int} {l:List ah} {x:ah} (h:al k l=some x):aB k l=x:=by unfold aB;rw[h];rfl
theorem cW {k:Int} {l:List ah} (h:al k l=none):aB k l=eN:=by unfold aB;rw[h];rfl
theorem Reach.get {l:List ah} {k:Int} {e:Entry} (h:Reach l k) (he:e∈(aB k l).entries):Reach l e.ino:=by
 cases hf:al k l with
 |none=>rw[cW hf] at he;simp [eN] at he
 |some x=>rw[ba hf] at he;exact .step h hf he
theorem jl:∀(es:List Entry) (s:List Int) (n:Int),n∈es.foldl visit s↔n∈s∨∃e∈es,e.ino=n
 | [],s,n=>by simp
 |e::es,s,n=>by
  simp only[List.foldl_cons];rw[jl es (visit s e) n];have:n∈visit s e↔n∈s∨e.ino=n:=by
   unfold visit;split
   ·rename_i h
    constructor
    ·exact Or.inl
    ·rintro(h'|rfl)
     ·exact h'
     ·exact h
   ·simp [eq_comm]
  rw[this];simp only[List.mem_cons];constructor
  ·rintro((h|h) |⟨e',h1,h2⟩)
   ·exact Or.inl h
   ·exact Or.inr ⟨e,Or.inl rfl,h⟩
   ·exact Or.inr ⟨e',Or.inr h1,h2⟩
  ·rintro(h|⟨e',rfl|h1,h2⟩)
   ·exact Or.inl (Or.inl h)
   ·exact Or.inl (Or.inr h2)
   ·exact Or.inr ⟨e',h1,h2⟩
theorem pQ (l:List ah):∀(n i:Nat) (s:List Int),(∀k∈s,Reach l k)→∀k∈gw l n i s,Reach l k
 |0,_,s,h=>h
 |n+1,i,s,h=>by
  simp only[gw];cases hi:s[i]? with
  |none=>exact h
  |some k=>
   refine pQ l n (i+1) _ fun m hm=> ?_
   unfold lq at hm;rw[jl] at hm;rcases hm with hm|⟨e,he,rfl⟩
   ·exact h m hm
   ·exact(h k (List.mem_of_getElem? hi)).get he
theorem oP (l:List ah):∀(n i:Nat) (s:List Int),m5 l s→(dz l).length+1 - i≤n→i≤s.length→(∀j k,j<i→s[j]? =some k→∀e∈(aB k l).entries,e.ino∈s)→
 (∀k∈s,k∈gw l n i s)∧∀k∈gw l n i s,∀e∈(aB k l).entries,e.ino∈gw l n i s
 |0,i,s,hv,hn,hi,h=>by
  have:=hv.len;omega
 |n+1,i,s,hv,hn,hi,h=>by
  simp only[gw];cases hk:s[i]? with
  |none=>
   refine⟨fun k hk=>hk,fun k hk2 e he=> ?_⟩;obtain⟨j,hj⟩:=List.mem_iff_getElem?.1 hk2;have h1:j<s.length:=(List.getElem?_eq_some_iff.1 hj).1;have h2:s.length≤i:=List.getElem?_eq_none_iff.1 hk;exact h j k (by omega) hj e he
  |some k=>
   have hlt:i<s.length:=(List.getElem?_eq_some_iff.1 hk).1;obtain⟨t,ht⟩:=jv (aB k l).entries s;have h3:=oP l n (i+1) (lq (aB k l) s) (qI hv) (by omega) (by unfold lq;rw[ht];simp;omega) (by
    intro j m hj hm e he;unfold lq at hm⊢;rw[jl];rw[ht,List.getElem?_append_left (by omega)] at hm;by_cases hji:j=i
    ·subst hji
     rw[hk] at hm;cases hm;exact Or.inr ⟨e,he,rfl⟩
    ·exact Or.inl (h j m (by omega) hm e he))
   refine⟨fun m hm=>h3.1 m ?_,h3.2⟩;unfold lq;rw[ht];simp [hm]
theorem tn {l:List ah} {n:Int}:n∈xL l↔Reach l n:=by
 unfold xL;constructor
 ·exact pQ l _ _ _ (fun k hk=>by simp at hk;subst hk;exact .root) n
 ·intro h
  have hc:=oP l ((dz l).length+1) 0 [1] (Cg l) (by omega) (by simp) (fun j k hj=>by omega);induction h with
  |root=>exact hc.1 1 (by simp)
  |step h hf he ih=>exact hc.2 _ ih _ (by rw[ba hf];exact he)
theorem qi (l:List ah):∀(n i:Nat) (s:List Int),m5 l s→(gw l n i s).Nodup
 |0,_,s,h=>h.nodup
 |n+1,i,s,h=>by
  simp only[gw];cases hi:s[i]? with
  |none=>exact h.nodup
  |some k=>exact qi l n (i+1) _ (qI h)
theorem tU (l:List ah):(xL l).Nodup:=qi l _ _ _ (Cg l)
theorem Cu {l:List ah} (h:cK l):(l.map ah.ino).Nodup:=by
 unfold List.Nodup;rw[List.pairwise_map];unfold cK cQ at h;exact h.imp fun{a b} hab e=>by simp only[ltI,decide_eq_true_eq] at hab;omega
theorem Bm {a b:List Int} (ha:a.Nodup) (hs:∀x∈a,x∈b) (hl:b.length≤a.length):∀x∈b,x∈a:=by
 intro x hx;rcases Classical.em (x∈a) with h|h
 ·exact h
 ·have:=lL (m:=b.erase x) ha (fun y hy=>(List.mem_erase_of_ne (by intro e;subst e;exact h hy)).2 (hs y hy))
  rw[List.length_erase_of_mem hx] at this;have:=List.length_pos_of_mem hx;omega
structure Tree (f:Fs):Prop where
 r_:1≤f.ak∧f.ak≤1073741824
 se:0≤f.aw∧f.aw≤1073741824
 next:f.next≤1099511627776
 ino:∀x∈f.aa,1≤x.ino∧x.ino<f.next
 sort:cK f.aa
 root:∃r,al 1 f.aa=some r∧r.kind=2∧r.parent=1
 kind:∀x∈f.aa,eK x=true
 there:∀x∈f.aa,∀e∈x.entries,∃y,al e.ino f.aa=some y
 aL:∀x∈f.aa,x.aL=fc x.ino f.aa
 pM:fc 1 f.aa=0
 Eb:∀x∈f.aa,x.kind=2→fc x.ino f.aa≤1
 par:∀x∈f.aa,x.kind=2→∀d∈f.aa,∀e∈d.entries,e.ino=x.ino→x.parent=d.ino
 led:∀x∈f.aa,Reach f.aa x.ino
 fits:dZ f 0 0=true
theorem Reach.there {f:Fs} (ht:∀x∈f.aa,∀e∈x.entries,∃y,al e.ino f.aa=some y) (hr:∃r,al 1 f.aa=some r) {k:Int} (h:Reach f.aa k):∃y,al k f.aa=some y:=by
 cases h with
 |root=>exact hr
 |step h hf he=>exact ht _ (bS hf).1 _ he
theorem Reach.named {l:List ah} {k:Int} (h:Reach l k) (h1:k≠1):∃x∈l,∃e∈x.entries,e.ino=k:=by
 cases h with
 |root=>exact absurd rfl h1
 |step h hf he=>exact⟨_,(bS hf).1,_,he,rfl⟩
theorem CC {f:Fs} (hs:cK f.aa) (ht:∀x∈f.aa,∀e∈x.entries,∃y,al e.ino f.aa=some y) (hr:∃r,al 1 f.aa=some r):(xL f.aa).length=f.aa.length↔∀x∈f.aa,Reach f.aa x.ino:=by
 have hsub:∀k∈xL f.aa,k∈f.aa.map ah.ino:=fun k hk=>by
  obtain⟨y,hy⟩:=Reach.there ht hr (tn.1 hk);obtain⟨h1,h2⟩:=bS hy;exact List.mem_map.2 ⟨y,h1,h2⟩
 constructor
 ·intro h x hx
  exact tn.1 (Bm (tU _) hsub (by rw[List.length_map];omega) x.ino (List.mem_map.2 ⟨x,hx,rfl⟩))
 ·intro h
  have h1:=lL (tU f.aa) hsub;have h2:=lL (m:=xL f.aa) (Cu hs) (fun k hk=>by
   obtain⟨x,hx,rfl⟩:=List.mem_map.1 hk;exact tn.2 (h x hx))
  rw[List.length_map] at h1 h2;omega
theorem F2 (f:Fs):Sound f↔Tree f:=by
 constructor
 ·intro h
  obtain⟨r,hr,hk⟩:=h.root;have hrm:=bS hr;have hlink:∀x∈f.aa,x.aL=fc x.ino f.aa∧(x.ino=1→fc 1 f.aa=0∧x.parent=1)∧(x.ino≠1→x.kind=2→fc x.ino f.aa=1∧x.parent=(dw f x.ino).2):=by
   intro x hx;have hl:=h.link x hx;unfold vZ at hl;simp only[Bool.and_eq_true,decide_eq_true_eq] at hl;obtain⟨h1,h2⟩:=hl;have h3:=wy f x.ino;refine⟨by omega,fun e=> ?_,fun e e2=> ?_⟩
   ·rw[if_pos e] at h2
    simp only[Bool.and_eq_true,decide_eq_true_eq] at h2;rw[e] at h3 h2;exact⟨by omega,h2.2⟩
   ·rw[if_neg e] at h2
    simp only[Bool.and_eq_true,decide_eq_true_eq,e2,if_true] at h2;exact⟨by omega,h2.2.2⟩
  have hrl:=hlink r hrm.1;have hr1:r.ino=1:=hrm.2;have hr0:=hrl.2.1 hr1;refine⟨h.r_,h.se,h.next,h.ino,h.sort,⟨r,hr,hk,hr0.2⟩,h.kind,h.there,fun x hx=>(hlink x hx).1,hr0.1,fun x hx hk2=> ?_,fun x hx hk2 d hd e he hn=> ?_,(CC h.sort h.there ⟨r,hr⟩).1 h.led,h.fits⟩
  ·by_cases h1:x.ino=1
   ·rw[h1,hr0.1];omega
   ·rw[((hlink x hx).2.2 h1 hk2).1];omega
  ·by_cases h1:x.ino=1
   ·have:=xm hd he hn
    rw[h1,hr0.1] at this;omega
   ·obtain⟨h2,h3⟩:=(hlink x hx).2.2 h1 hk2
    rw[h3];unfold dw;rw[qO x.ino f.aa (0,0) d.ino (fun y hy e' he' hn'=>by rw[(sP (by omega) hy he' hn' hd he hn).1]),if_neg (by omega)]
 ·intro h
  obtain⟨r,hr,hk,hp⟩:=h.root;refine⟨h.r_,h.se,h.next,h.ino,h.sort,⟨r,hr,hk⟩,h.kind,h.there,fun x hx=> ?_,(CC h.sort h.there ⟨r,hr⟩).2 h.led,h.fits⟩;have h3:=wy f x.ino;have h4:=h.aL x hx;unfold vZ;simp only[Bool.and_eq_true,decide_eq_true_eq];refine⟨by omega, ?_⟩;by_cases h1:x.ino=1
  ·have h5:=h.pM
   have:x=r:=by
    have:=dN h.sort hx;rw[h1,hr] at this;exact(Option.some.inj this).symm
   rw[if_pos h1];simp only[Bool.and_eq_true,decide_eq_true_eq];rw[h1] at h3⊢;exact⟨by omega,by rw[this];exact hp⟩
  ·rw[if_neg h1]
   obtain⟨d,hd,e,he,hn⟩:=(h.led x hx).named h1;have h5:=xm hd he hn;simp only[Bool.and_eq_true,decide_eq_true_eq];refine⟨by omega, ?_⟩;by_cases hk2:x.kind=2
   ·rw[if_pos hk2]
    simp only[Bool.and_eq_true,decide_eq_true_eq];have h6:=h.Eb x hx hk2;refine⟨by omega, ?_⟩;unfold dw;rw[qO x.ino f.aa (0,0) d.ino (fun y hy e' he' hn'=>by rw[(sP h6 hy he' hn' hd he hn).1]),if_neg (by omega)];exact h.par x hx hk2 d hd e he hn
   ·rw[if_neg hk2]
end Go.Eng
set_option linter.unusedVariables false
set_option maxRecDepth 100000
namespace Go.Eng
open Go
end Go.Eng
set_option linter.unusedSimpArgs false
set_option linter.unusedVariables false
set_option linter.unusedSectionVars false
namespace Go.Eng
open Go
inductive Way (l:List ah) (i:Int):Int→Nat→Prop where
 |here:Way l i i 0
 |step {k:Int} {n:Nat} {x:ah} {e:Entry}:Way l i k n→al k l=some x→e∈x.entries→Way l i e.ino (n+1)
theorem Reach.way {l:List ah} {k:Int} (h:Reach l k):∃n,Way l 1 k n:=by
 induction h with
 |root=>exact⟨0, .here⟩
 |step _ hf he ih=>obtain⟨n,hn⟩:=ih;exact⟨n+1, .step hn hf he⟩
theorem Way.trans {l:List ah} {i j k:Int} {n m:Nat} (h1:Way l i j n) (h2:Way l j k m):Way l i k (n+m):=by
 induction h2 with
 |here=>exact h1
 |step _ hf he ih=>exact .step ih hf he
theorem Way.first {l:List ah} {i k:Int} {n:Nat} {x:ah} {e:Entry} (hf:al i l=some x) (he:e∈x.entries) (h:Way l e.ino k n):Way l i k (n+1):=by
 have:=Way.trans (.step .here hf he) h;rwa[Nat.add_comm] at this
theorem Way.head {l:List ah} {i k:Int} {n:Nat} (h:Way l i k n):(n=0∧k=i)∨∃m x e,n=m+1∧al i l=some x∧e∈x.entries∧Way l e.ino k m:=by
 induction h with
 |here=>exact Or.inl ⟨rfl,rfl⟩
 |step h hf he ih=>
  rcases ih with⟨rfl,rfl⟩ |⟨m,y,e',rfl,h1,h2,h3⟩
  ·exact Or.inr ⟨0,_,_,rfl,hf,he, .here⟩
  ·exact Or.inr ⟨m+1,y,e',rfl,h1,h2, .step h3 hf he⟩
section
variable {f:Fs}
theorem vL {x:ah} (h:eK x=true) {e:Entry} (he:e∈x.entries):x.kind=2:=by
 unfold eK at h;simp only[Bool.or_eq_true,Bool.and_eq_true,decide_eq_true_eq] at h;rcases h with⟨_,h,_⟩ |⟨h,_⟩ |⟨_,h,_⟩
 ·have:x.entries= [] :=by simpa using h
  rw[this] at he;cases he
 ·exact h
 ·have:x.entries= [] :=by simpa using h
  rw[this] at he;cases he
theorem Tree.dg (h:Tree f) {k:Int} {x:ah} {e:Entry} (hf:al k f.aa=some x) (he:e∈x.entries):x.kind=2:=vL (h.kind x (bS hf).1) he
theorem Tree.up (h:Tree f) {k k':Int} {x x' y:ah} {e e':Entry} (hf:al k f.aa=some x) (he:e∈x.entries) (hf':al k' f.aa=some x') (he':e'∈x'.entries) (hn:e.ino=e'.ino) (hy:al e.ino f.aa=some y) (hd:y.kind=2):k=k'∧x=x'∧e=e':=by
 obtain⟨y1,y2⟩:=bS hy;obtain⟨x1,x2⟩:=bS hf;obtain⟨x1',x2'⟩:=bS hf';have h1:=sP (h.Eb y y1 hd) x1 he y2.symm x1' he' (hn▸y2.symm);refine⟨?_,h1.1,h1.2⟩;rw[←x2,←x2',h1.1]
theorem Tree.uB (h:Tree f) {k:Int} {x:ah} {e:Entry} (hf:al k f.aa=some x) (he:e∈x.entries):e.ino≠1:=by
 intro h1;have:=xm (bS hf).1 he h1;rw[h.pM] at this;omega
theorem Tree.deep (h:Tree f) {k:Int} {n:Nat} (hw:Way f.aa 1 k n):∀{m:Nat} {y:ah},al k f.aa=some y→y.kind=2→Way f.aa 1 k m→n=m:=by
 induction hw with
 |here=>
  intro m y _ _ hm;generalize hk:(1:Int)=k at hm;cases hm with
  |here=>rfl
  |step h1 hf he=>exact absurd hk.symm (h.uB hf he)
 |step hw hf he ih=>
  rename_i k' n' x e;intro m y hy hd hm;generalize hk:e.ino=k at hm;cases hm with
  |here=>exact absurd hk (h.uB hf he)
  |step h1 hf' he'=>
   obtain⟨rfl,rfl,rfl⟩:=h.up hf he hf' he' hk hy hd;rw[ih hf (h.dg hf he) h1]
theorem Tree.chain (h:Tree f) {k:Int} {n:Nat} (hw:Way f.aa 1 k n):∀{y:ah},al k f.aa=some y→y.kind=2→
 ∃c:List Int,c.length=n+1∧c.Nodup∧∀j∈c,∃m z,m≤n∧Way f.aa 1 j m∧al j f.aa=some z∧z.kind=2:=by
 induction hw with
 |here=>exact fun{y} hy hd=>⟨[1],rfl,by simp,fun j hj=>by simp at hj;subst hj;exact⟨0,y,Nat.le_refl _, .here,hy,hd⟩⟩
 |step hw hf he ih=>
  rename_i k' n' x e;intro y hy hd;obtain⟨c,h1,h2,h3⟩:=ih hf (h.dg hf he);refine⟨e.ino::c,by simp [h1], ?_,fun j hj=> ?_⟩
  ·rw[List.nodup_cons]
   refine⟨fun hm=> ?_,h2⟩;obtain⟨m,z,h4,h5,h6,h7⟩:=h3 _ hm;have:=h.deep (.step hw hf he) hy hd h5;omega
  ·simp only[List.mem_cons] at hj
   rcases hj with rfl|hj
   ·exact⟨n'+1,y,Nat.le_refl _, .step hw hf he,hy,hd⟩
   ·obtain⟨m,z,h4,h5⟩:=h3 _ hj
    exact⟨m,z,by omega,h5⟩
theorem Tree.Nb (h:Tree f) {k:Int} {n:Nat} (hw:Way f.aa 1 k n) {y:ah} (hy:al k f.aa=some y) (hd:y.kind=2):n<f.aa.length:=by
 obtain⟨c,h1,h2,h3⟩:=h.chain hw hy hd;have:=lL (m:=f.aa.map ah.ino) h2 (fun j hj=>by
  obtain⟨m,z,_,_,h6,_⟩:=h3 j hj;obtain⟨a,b⟩:=bS h6;exact List.mem_map.2 ⟨z,a,b⟩)
 rw[List.length_map] at this;omega
theorem Tree.xJ (h:Tree f) {i:Int} {a n:Nat} {x:ah} {e:Entry} (hi:Way f.aa 1 i a) (hx:al i f.aa=some x) (he:e∈x.entries):¬Way f.aa e.ino i n:=fun w=>by
 have:=h.deep hi hx (h.dg hx he) (hi.trans (w.first hx he));omega
end
def N7 (p n:Str):Str:=if p=[47] then p++n else (p++[47])++n
def IW {α:Type} (l m:List α):Prop:=∃a b s,l=a++b∧m=a++s::b
theorem IW.len {α:Type} {l m:List α} (h:IW l m):m.length=l.length+1:=by
 obtain⟨a,b,s,rfl,rfl⟩:=h;simp;omega
theorem IW.sub {α:Type} {l m:List α} (h:IW l m):List.Sublist l m:=by
 obtain⟨a,b,s,rfl,rfl⟩:=h;exact(List.Sublist.refl a).append (List.sublist_cons_self s b)
structure Lil (f:Fs):Prop where
 len:f.aa.length≤10000
 dg:∀x∈f.aa,x.entries.length≤10000
theorem tp {α:Type} {μ :α→Int} {c:Int} {l:List α} (h:∀x∈l, μ x≤c):jA μ l≤l.length*c:=by
 induction l with
 |nil=>simp [jA]
 |cons x l ih=>
  rw[dA,List.length_cons];have h1:=ih (fun y hy=>h y (by simp [hy]));have h2:=h x (by simp);have:((l.length+1:Nat):Int)*c=(l.length:Int)*c+c:=by
   rw[Int.natCast_add,Int.add_mul];simp
  omega
end Go.Eng
set_option linter.unusedVariables false
set_option maxRecDepth 100000
namespace Go.Eng
open Go
end Go.Eng
set_option linter.unusedSimpArgs false
set_option linter.unusedVariables false
namespace Go.Eng
open Go
structure InF (f:Fs):Prop where
 len:f.aa.length≤1073741824
 dg:∀x∈f.aa,x.entries.length≤1073741824
end Go.Eng
set_option linter.unusedSimpArgs false
set_option linter.unusedVariables false
set_option linter.unusedSectionVars false
namespace Go.Eng
open Go
def Nm (x:Str):Prop:=x≠ [] ∧∀c∈x,c≠47
theorem G_ {x:Str} (h:cS x=true):Nm x:=by
 unfold cS at h;simp only[Bool.and_eq_true,Bool.not_eq_true',beq_eq_false_iff_ne] at h;obtain⟨h1,_,h3,_⟩:=h;refine⟨h1,fun c hc e=> ?_⟩;rw[List.any_eq_false] at h3;have:=h3 c hc;unfold jx at this;rw[e] at this;exact this rfl
theorem E9 {x:Str} (h:cS x=true):x.length≤255:=by
 unfold cS at h;simp only[Bool.and_eq_true,decide_eq_true_eq] at h;exact h.2.1
theorem J9 (ns:List Str) (b:Str):∃r,(ns.flatMap fun x=>47::x)++47::b=47::r:=by
 cases ns with
 |nil=>exact⟨b,rfl⟩
 |cons x ns=>exact⟨x++((ns.flatMap fun x=>47::x)++47::b),by simp⟩
theorem rf (b:Str):splitN [] (47::b)=splitN [] b:=by simp [splitN]
theorem ru (b:Str):∀ns:List Str,(∀x∈ns,Nm x)→splitN [] ((ns.flatMap fun x=>47::x)++47::b)=(ns++(splitN [] b).1,(splitN [] b).2)
 | [],_=>by simp [rf]
 |x::ns,h=>by
  have hx:=h x (by simp);obtain⟨r,hr⟩:=J9 ns b;have ih:=ru b ns (fun y hy=>h y (by simp [hy]));rw[hr,rf] at ih;have e:((x::ns).flatMap fun x=>47::x)++47::b=47::(x++47::r):=by
   rw[List.flatMap_cons,List.append_assoc,hr];simp
  rw[e,rf,kB x [] r hx.2,ih,List.nil_append,if_neg hx.1];simp
theorem zg (b:Str) {ns:List Str} (h:∀x∈ns,Nm x):cf ((ns.flatMap fun x=>47::x)++47::b)=ns++cf b:=by
 unfold cf;rw[ru b ns h];unfold de;simp only;split<;>simp
theorem Br {x:Str} (h:Nm x):cf x=[x]:=by
 unfold cf;rw[iW x [] h.2];unfold de;rw[List.nil_append,if_neg h.1];rfl
theorem yL {ns:List Str} (h:∀x∈ns,Nm x):cf (nt ns)=ns:=by
 unfold nt;rcases List.eq_nil_or_concat ns with rfl|⟨ns',x,rfl⟩
 ·rfl
 ·rw[List.concat_eq_append] at h⊢
  rw[if_neg (by simp),List.flatMap_append];have e:([x].flatMap fun x=>(47:UInt8)::x)=47::x:=by simp
  rw[e,zg x (fun y hy=>h y (by simp [hy])),Br (h x (by simp))]
theorem zW {ns:List Str} (h:∀x∈ns,cS x=true):fg (nt ns)=(ns,true):=by
 have:=yL (fun x hx=>G_ (h x hx));unfold fg;rw[this,if_pos ⟨rfl,by rw[List.all_eq_true];exact h⟩]
theorem il {l:List ah} {n:Str} {ns:List Str} {s:aj} (hf:al s.ino l=none):cD l (n::ns) s=(eL,1):=by
 simp only[cD];rw[hf]
theorem fk {l:List ah} {n:Str} {ns:List Str} {s:aj} {d:ah} (hf:al s.ino l=some d) (hk:d.kind=2):cD l (n::ns) s=cD l ns ⟨d.ino,n,b9 n d.entries⟩:=by
 simp only[cD];rw[hf];simp only;rw[if_pos hk]
theorem iC {l:List ah} {n:Str} {ns:List Str} {s:aj} {d:ah} (hf:al s.ino l=some d) (hk:d.kind≠2):cD l (n::ns) s=(eL,3):=by
 simp only[cD];rw[hf];simp only;rw[if_neg hk]
theorem ui (l:List ah):∀(a b:List Str) (s:aj),cD l (a++b) s=if (cD l a s).2=0 then cD l b (cD l a s).1 else (eL,(cD l a s).2)
 | [],b,s=>by simp [cD]
 |n::a,b,s=>by
  rw[List.cons_append];cases hf:al s.ino l with
  |none=>rw[il hf,il hf];rfl
  |some d=>
   by_cases hk:d.kind=2
   ·rw[fk hf hk,fk hf hk];exact ui l a b _
   ·rw[iC hf hk,iC hf hk];rfl
theorem wz {x:ah} {n:Str} (h:b9 n x.entries≠0):∃e∈x.entries,e.name=n∧e.ino=b9 n x.entries∧cP n x.entries=some e:=by
 unfold b9 at h⊢;cases hf:cP n x.entries with
 |none=>rw[hf] at h;exact absurd rfl h
 |some e=>exact⟨e,(bS hf).1,(bS hf).2,rfl,rfl⟩
structure OnW (f:Fs) (m:Nat) (i:Int) (p:Str) (s:Seen) (ns:List Str):Prop where
 may:∀n∈ns,cS n=true
 len:ns.length≤m
 path:s.path=ns.foldl N7 p
 there:∃x,al s.ino f.aa=some x
 go:∀sp:aj,sp.ino=i→∃t,cD f.aa ns sp=(t,0)∧t.ino=s.ino∧(ns= [] →t=sp)
 way:Way f.aa i s.ino ns.length
structure AtR (f:Fs) (s:Seen) (ns:List Str) (x:ah) (t:aj):Prop where
 may:∀n∈ns,cS n=true
 len:ns.length≤f.aa.length+1
 path:s.path=nt ns
 there:al s.ino f.aa=some x
 go:cD f.aa ns dG=(t,0)
 ino:t.ino=s.ino
 nil:ns= [] →t=dG
theorem AtR.atP {f:Fs} {s:Seen} {ns:List Str} {x:ah} {t:aj} (h:AtR f s ns x t):atP f s.path=(t,0):=by
 unfold Go.Eng.atP;rw[h.path,zW h.may,if_pos rfl,h.go]
theorem AtR.kC {f:Fs} {s:Seen} {ns:List Str} {x:ah} {t:aj} (h:AtR f s ns x t):kC f s.path=(x,0):=by
 unfold Go.Eng.kC;rw[h.atP,if_pos rfl,h.ino,h.there]
instance Xn:DecidableEq Seen:=fun a b=>
 if h:a.path=b.path∧a.ino=b.ino then isTrue (by cases a;cases b;simp at h;simp [h]) else isFalse (by intro e;subst e;exact h ⟨rfl,rfl⟩)
end Go.Eng
