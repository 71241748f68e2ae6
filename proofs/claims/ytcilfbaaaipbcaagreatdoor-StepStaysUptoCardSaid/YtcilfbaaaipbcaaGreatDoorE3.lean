/- A part of the proofs of the laws of this seat: the engine that reads the program's code, plain functions, or facts of the program's functions. Conditions: none. -/
import Derived.Test.YtcilfbaaaipbcaaGreatDoorE2
import Derived.MapKept
import Derived.Lib.SliceRun
import Derived.OrdersIn
set_option linter.unusedSectionVars false
set_option linter.unusedVariables false
set_option linter.unusedSimpArgs false
set_option linter.unnecessarySimpa false
namespace Go.Eng
open Go Go.RowKit Go.MapKept
section
variable {P:Program} [aE P] {F:Fence} {n:Nat} {c:Cfg} {g g':Gh} {r:cv} {m:Mem} {a:Act} {w w':World} {o:Oper} {R:Type} {k:St→Option R} {res:R}
variable {base:Nat} {w0:World} {S0:Nat→Prop} {N:Nat} {D:Wt} {sv:Nat→Value} {σ:St}
def DH (P:Program) (kt:TypeId) (κ:Ty):Prop:=(κ= .int∧P.underlying kt=some (.int .i64))∨(κ= .str∧P.underlying kt=some .string)
theorem Lb {κ:Ty} {x:At} {key:κ.T} {v:Value} (hv:VA g w x v) (h:keyOf κ x=some key):AR κ key v:=by
 unfold keyOf at h;split at h
 ·cases h;cases hv;rfl
 ·cases h;cases hv with|str _ b e=>exact⟨b,rfl,e⟩
 ·cases h
theorem D6 {kt:TypeId} {κ:Ty} (hk:DH P kt κ):∃d,P.underlying kt=some d:=by rcases hk with⟨_,h⟩ |⟨_,h⟩<;>exact⟨_,h⟩
theorem Ba {kt:TypeId} {κ:Ty} {key:κ.T} {v:Value} {d:TypeDesc} (hk:DH P kt κ) (hd:P.underlying kt=some d) (hv:AR κ key v):IsKey d v:=by
 rcases hk with⟨rfl,hu⟩ |⟨rfl,hu⟩
 ·rw[hu] at hd;cases hd
  have:v= .int .i64 key:=hv;subst this;simp [IsKey]
 ·rw[hu] at hd;cases hd
  obtain⟨b,rfl, -⟩:=hv;simp [IsKey]
theorem bytes_inj {b b':ByteArray}:b.data.toList=b'.data.toList↔b=b':=by
 constructor
 ·intro h;cases b;cases b';simp at h;subst h;rfl
 ·rintro rfl;rfl
theorem D1 {kt:TypeId} {κ:Ty} {key k':κ.T} {v v':Value} {d:TypeDesc} (hk:DH P kt κ) (hd:P.underlying kt=some d) (hv:AR κ key v) (hv':AR κ k' v'):Instr.sameNow d v v'=some (pD κ k' key):=by
 rcases hk with⟨rfl,hu⟩ |⟨rfl,hu⟩
 ·rw[hu] at hd;cases hd
  have e1:v= .int .i64 key:=hv;have e2:v'= .int .i64 k':=hv';subst e1;subst e2;have:((show Int from key)==(show Int from k'))=((show Int from k')==(show Int from key)):=by
   rw[Bool.eq_iff_iff];simp only[beq_iff_eq];exact eq_comm
  simp only[Instr.sameNow,pD,if_pos rfl];exact congrArg some this
 ·rw[hu] at hd;cases hd
  obtain⟨b,rfl,e1⟩:=hv;obtain⟨b',rfl,e2⟩:=hv';simp only[Instr.sameNow,pD];have:(b==b')=((show Str from k')==(show Str from key)):=by
   rw[Bool.eq_iff_iff,bytes_beq,←bytes_inj,e1,e2];simp only[beq_iff_eq];exact eq_comm
  exact congrArg some this
theorem C5 {kt:TypeId} {κ:Ty} {key k':κ.T} {v v':Value} (hk:DH P kt κ) (hv:AR κ key v) (hv':AR κ k' v') (h:pD κ k' key=true):v'=v:=by
 rcases hk with⟨rfl,hu⟩ |⟨rfl,hu⟩
 ·have e1:v= .int .i64 key:=hv
  have e2:v'= .int .i64 k':=hv';have e3:k'=key:=by
   have:((show Int from k')==(show Int from key))=true:=h;exact beq_iff_eq.1 this
  rw[e1,e2,e3]
 ·obtain⟨b,rfl,e1⟩:=hv
  obtain⟨b',rfl,e2⟩:=hv';have e3:(show Str from k')=key:=by
   have:((show Str from k')==(show Str from key))=true:=h;exact beq_iff_eq.1 this
  rw[bytes_inj.1 (e2.trans (e3.trans e1.symm))]
theorem j9 {kt:TypeId} {κ τ:Ty} {key:κ.T} {v:Value} {d:TypeDesc} {ag:Bool} (hk:DH P kt κ) (hd:P.underlying kt=some d) (hv:AR κ key v):
 ∀{l:List (κ.T×τ.T×Nat)} {es:List MapEntry} (i:Nat),bZ (Bn g w ag) l es→
  (∃(j:Nat) (x:κ.T×τ.T×Nat) (e:MapEntry),l[j]? =some x∧es[j]? =some e∧pD κ x.1 key=true∧(∀(i':Nat) (x':κ.T×τ.T×Nat),i'<j→l[i']? =some x'→pD κ x'.1 key=false)∧Instr.findNow d v es i=some (some (i+j,e.val)))∨
  ((∀x∈l,pD κ x.1 key=false)∧Instr.findNow d v es i=some none)
 | [], [],i, .nil=> .inr ⟨fun x hx=>by simp at hx,rfl⟩
 |x::l,e::es,i, .cons hx ht=>by
  have h1:=D1 hk hd hv hx.1;cases hb:pD κ x.1 key with
  |true=>
   refine .inl ⟨0,x,e,rfl,rfl,hb,fun i' x' h=>by omega, ?_⟩;simp [Instr.findNow,h1,hb]
  |false=>
   rcases j9 hk hd hv (i+1) ht with⟨j,x',e',h2,h3,h4,h5,h6⟩ |⟨h2,h3⟩
   ·refine .inl ⟨j+1,x',e',by simpa using h2,by simpa using h3,h4,fun i' x'' hi hx''=> ?_, ?_⟩
    ·cases i' with
     |zero=>simp at hx'';subst hx'';exact hb
     |succ i'=>exact h5 i' x'' (by omega) (by simpa using hx'')
    ·simp only[Instr.findNow,h1,hb,h6]
     congr 2;congr 1;omega
   ·refine .inr ⟨fun y hy=> ?_, ?_⟩
    ·rcases List.mem_cons.1 hy with rfl|hy
     ·exact hb
     ·exact h2 y hy
    ·simp only[Instr.findNow,h1,hb,h3]
theorem w_ {κ τ:Ty} {key:κ.T} {kv:τ.T→Nat→Option R} {kn:Option R}:∀{l:List (κ.T×τ.T×Nat)},kT key l kv kn=some res→
 (∃(j:Nat) (x:κ.T×τ.T×Nat),l[j]? =some x∧pD κ x.1 key=true∧(∀(i':Nat) (x':κ.T×τ.T×Nat),i'<j→l[i']? =some x'→pD κ x'.1 key=false)∧kv x.2.1 x.2.2=some res)∨((∀x∈l,pD κ x.1 key=false)∧kn=some res)
 | [],h=> .inr ⟨fun x hx=>by simp at hx,h⟩
 |x::l,h=>by
  simp only[kT] at h;rcases bo h with⟨hb,h⟩ |⟨hb,h⟩
  ·exact .inl ⟨0,x,rfl,hb,fun i' x' h=>by omega,h⟩
  ·rcases w_ h with⟨j,x',h1,h2,h3,h4⟩ |⟨h1,h2⟩
   ·refine .inl ⟨j+1,x',by simpa using h1,h2,fun i' x'' hi hx''=> ?_,h4⟩
    cases i' with
    |zero=>simp at hx'';subst hx'';exact hb
    |succ i'=>exact h3 i' x'' (by omega) (by simpa using hx'')
   ·refine .inr ⟨fun y hy=> ?_,h2⟩
    rcases List.mem_cons.1 hy with rfl|hy
    ·exact hb
    ·exact h1 y hy
theorem vB {κ τ:Ty} {key:κ.T} {v:τ.T} {ck:Nat}:∀{l:List (κ.T×τ.T×Nat)} {j:Nat} {x:κ.T×τ.T×Nat},l[j]? =some x→pD κ x.1 key=true→(∀(i':Nat) (x':κ.T×τ.T×Nat),i'<j→l[i']? =some x'→pD κ x'.1 key=false)→
 wJ key v ck l=l.set j (x.1,v,x.2.2)∧H_ key ck l=ck
 |y::l,0,x,h1,h2,h3=>by
  simp at h1;subst h1;simp [wJ,H_,Cs,h2]
 |y::l,j+1,x,h1,h2,h3=>by
  have h0:=h3 0 y (by omega) rfl;have ih:=vB (v:=v) (ck:=ck) (l:=l) (j:=j) (by simpa using h1) h2 (fun i' x' hi hx'=>h3 (i'+1) x' (by omega) (by simpa using hx'));refine⟨by simp only[wJ,h0,ih.1,List.set_cons_succ], ?_⟩;have:=ih.2;unfold H_ at this⊢;simp only[Cs,h0];exact this
theorem x_ {κ τ:Ty} {key:κ.T} {v:τ.T} {ck:Nat}:∀{l:List (κ.T×τ.T×Nat)},(∀x∈l,pD κ x.1 key=false)→wJ key v ck l=l++[(key,v,ck)]∧H_ key ck l=ck+1
 | [],_=>⟨rfl,rfl⟩
 |y::l,h=>by
  have h0:=h y (by simp);have ih:=x_ (v:=v) (ck:=ck) (l:=l) (fun x hx=>h x (by simp [hx]));refine⟨by simp only[wJ,h0,ih.1,List.cons_append], ?_⟩;have:=ih.2;unfold H_ at this⊢;simp only[Cs,h0];exact this
theorem Bf (h:Rel P base w0 S0 N D sv g σ a w) (C:aF P c) {t:TypeId} {x i:Operand} {kk:(id:Nat)→(ag:Bool)→(κ τ:Ty)→List (κ.T×τ.T×Nat)→Nat→κ.T→TI→Option R} (hs:q9 c σ t x i kk=some res):
 ∃(id:Nat) (ag:Bool) (κ τ:Ty) (l:List (κ.T×τ.T×Nat)) (ck:Nat) (key:κ.T) (te:TI) (kt e:TypeId) (b:Gb) (q:Nat) (es:Array MapEntry),
  kk id ag κ τ l ck key te=some res∧look id σ.mem=some (.map ag κ τ l ck)∧P.underlying t=some (.map kt e)∧DH P kt κ∧c.ti e=some te∧a.eval x= .map (some q)∧AR κ key (a.eval i)∧
  g.m id=some b∧b.blk=some q∧w.heap[q]? =some (.map es ck)∧bZ (Bn g w ag) l es.toList:=by
 have E:=h.env C [x,i];unfold q9 at hs;split at hs
 ·rename_i ag0 sz z κ τ0 kt e hti
  split at hs
  ·rename_i id ki te hx hi hte
   split at hs
   ·rename_i ag κ' τ l ck hl
    split at hs
    ·rename_i hsame
     split at hs
     ·rename_i key hkey
      obtain⟨i',d,T⟩:=C.ts _ _ hti;obtain⟨rfl,hk, -⟩:=T.map rfl;obtain⟨b,hb,q,es,hq,hh,ha⟩:=h.mem id _ hl;have hxv:a.eval x= .map (some q):=by
       have:=E.evA (by simp) hx;generalize a.eval x=u at this⊢;cases this with
       |fT _ b' k' hm hk'=>rw[hb] at hm;cases hm;rw[hq] at hk';cases hk';rfl
      have hkt:DH P kt κ':=by
       rcases hk with⟨rfl,hu⟩ |⟨rfl,hu⟩
       ·cases κ'<;>simp [Jb] at hsame;exact .inl ⟨rfl,hu⟩
       ·cases κ'<;>simp [Jb] at hsame;exact .inr ⟨rfl,hu⟩
      exact⟨id,ag,κ',τ,l,ck,key,te,kt,e,b,q,es,hs,hl,T.und,hkt,hte,hxv,Lb (E.evA (by simp) hi) hkey,hb,hq,hh,ha⟩
     ·simp at hs
    ·simp at hs
   ·simp at hs
  ·simp at hs
 ·simp at hs
theorem G0 (h:Rel P base w0 S0 N D sv g σ a w) (C:aF P c) (hN:c.N=N) (hF:bY F) {K:Act→World→Prop} {Q:Exit→Act→World→Prop} (hK:∀g' σ' a' w',k σ'=some res→Rel P base w0 S0 N D sv g' σ' a' w'→K a' w') {t:TypeId} {nn:Option Operand}
 (hop:o.op= .makeMap t nn) (hs:yt c o σ t nn k=some res):o.wpIn F n P a w K Q:=by
 unfold yt at hs;split at hs
 ·rename_i hint
  split at hs
  ·rename_i ag0 sz z κ τ kt e hti
   split at hs
   ·rename_i te hte
    obtain⟨i',d,T⟩:=C.ts _ _ hti;obtain⟨rfl,hk, -⟩:=T.map rfl;obtain⟨b,hbd⟩:∃b:Gb,b=⟨some w.heap.size,0,0,0,default⟩:=⟨_,rfl⟩;have hbl:Below w.heap.size w (w.alloc (.map #[] 0)):=Below.push (obj:= .map #[] 0) rfl rfl rfl rfl;have hn:=h.new (w':=w.alloc (.map #[] 0)) (id:=σ.nx) (Nat.le_refl _) (b:=b) (x:= .map te.agg κ τ [] 0) hbl ⟨w.heap.size, #[],by rw[hbd],n0 (w':=w.alloc (.map #[] 0)) rfl, .nil⟩ (fun q hq=>by rw[hbd] at hq;cases hq;exact⟨Nat.le_refl _,by simp⟩);have hv:VA (g.set σ.nx b) (w.alloc (.map #[] 0)) (.fT σ.nx) (.map (some w.heap.size)):=VA.fT σ.nx b _ (by simp [Gh.set]) (by rw[hbd]);obtain⟨σ2,hk2,h2⟩:=hn.put hN (x:= .one (.fT σ.nx)) hv hs;refine bO hF (by simp [hop]) ?_ (hK _ _ _ _ hk2 h2);cases nn with
    |none=>simp [execOp,hop,Instr.makeMap]
    |some x=>
     unfold Jt at hint;split at hint
     ·cases ‹some x=none›
     ·rename_i y heq
      obtain rfl:=Option.some.inj heq;split at hint
      ·rename_i κ0 q0 hy
       have E:=h.env C [x];have hyv:a.eval x= .int κ0 q0:=by
        have:=E.evA (by simp) hy;generalize a.eval x=u at this⊢;cases this;rfl
       simp [execOp,hop,Instr.makeMap,hyv,run_underlying T.und,asInt,asIntOf]
      ·cases hint
   ·simp at hs
  ·simp at hs
 ·simp at hs
theorem bZ.xR {α β:Type} {R:α→β→Prop} {l:List α} {m:List β} (h:bZ R l m) {i:Nat} {a:α} {b:β} (ha:l[i]? =some a) (hb:m[i]? =some b):R a b:=by
 obtain⟨b',hb',hr⟩:=h.get ha;rw[hb] at hb';cases hb';exact hr
theorem Rel.Mj (h:Rel P base w0 S0 N D sv g σ a w) {id:Nat} {b:AB} (hl:look id σ.mem=some b):Rel P base w0 S0 N D sv g (σ.set id b) a w:=by
 have e:∀i,look i (σ.set id b).mem=look i σ.mem:=fun i=>by
  simp only[St.set,bt];split
  ·rename_i e;subst e;exact hl.symm
  ·rfl
 exact{h with mem:=fun i x hx=>h.mem i x (by rw[←e];exact hx),inj:=fun i i' x x' b b' q h1 h2=>h.inj i i' x x' b b' q (by rw[←e];exact h1) (by rw[←e];exact h2),own:=fun i x b q h1=>h.own i x b q (by rw[←e];exact h1),lp:=fun i x b h1=>h.lp i x b (by rw[←e];exact h1)}
theorem J4 (h:Rel P base w0 S0 N D sv g σ a w) (C:aF P c) (hN:c.N=N) (hF:bY F) {K:Act→World→Prop} {Q:Exit→Act→World→Prop} (hK:∀g' σ' a' w',k σ'=some res→Rel P base w0 S0 N D sv g' σ' a' w'→K a' w') {t:TypeId} {x i:Operand} {ok:Bool}
 (hop:o.op= .lookup t x i ok) (hs:vZ c o σ t x i ok k=some res):o.wpIn F n P a w K Q:=by
 unfold vZ at hs;obtain⟨id,ag,κ,τ,l,ck,key,te,kt,e,b,q,es,hs,hl,hu,hkt,hte,hxv,hkv,hb,hq,hh,ha⟩:=Bf h C hs;obtain⟨d,hd⟩:=D6 hkt;have hik:=Ba hkt hd hkv;have hR:Rel P base w0 S0 N D sv g (σ.set id (.map ag κ τ l ck)) a w:=h.Mj hl;have fin:∀{y:V1} {v:Value} {bb:Bool},V1R g w y v→(σ.set id (.map ag κ τ l ck)).put c o.dst (mM ok y bb) k=some res→(Instr.lookup t (a.eval x) (a.eval i) ok).run P w= .ok (if ok then .tuple #[v, .bool bb] else v) w→o.wpIn F n P a w K Q:=by
  intro y v bb hv hp hr;have hav:AVR g w (mM ok y bb) (if ok then .tuple #[v, .bool bb] else v):=by
   cases ok with
   |true=>exact⟨[v, .bool bb],rfl, .cons hv (.cons (VA.bool bb) .nil)⟩
   |false=>exact hv
  obtain⟨σ2,hk2,h2⟩:=hR.put hN hav hp;refine bO hF (by simp [hop]) ?_ (hK _ _ _ _ hk2 h2);simp [execOp,hop,hr]
 rcases w_ hs with⟨j,xe,h1,h2,h3,hs⟩ |⟨h1,hs⟩
 ·obtain⟨y,hy,hs⟩:=bz hs
  rcases j9 hkt hd hkv 0 ha with⟨j',xe',e',g1,g2,g3,g4,g5⟩ |⟨g1,g2⟩
  ·have ej:j=j':=by
    rcases Nat.lt_trichotomy j j' with hlt|hlt|hlt
    ·have:=g4 j xe hlt h1;rw[h2] at this;cases this
    ·exact hlt
    ·have:=h3 j' xe' hlt g1;rw[g3] at this;cases this
   subst ej;rw[h1] at g1;cases g1;obtain⟨-, -,y',hy',hv⟩:=ha.xR h1 g2;rw[hy] at hy';cases hy';refine fin hv hs ?_;have e0:=run_findKey (P:=P) (w:=w) hd (l:=es.toList) g5;simp only[Instr.lookup,hxv,Sem.run_bind,run_underlying hu,Result.andThen,Go.MapKept.run_getObj_map hh,Sem.run_pure,Go.MapKept.run_checkKey hd hik,e0]
  ·exact absurd (g1 xe (List.mem_of_getElem? h1)) (by rw[h2];simp)
 ·rcases j9 hkt hd hkv 0 ha with⟨j',xe',e',g1,g2,g3,g4,g5⟩ |⟨g1,g2⟩
  ·exact absurd (h1 xe' (List.mem_of_getElem? g1)) (by rw[g3];simp)
  ·obtain⟨i2,d2,T2⟩:=C.ts e te hte
   obtain⟨z,hz, -,hzr⟩:=T2.zero;refine fin (hzr g w) hs ?_;have e0:=run_findKey (P:=P) (w:=w) hd (l:=es.toList) g2;have ez:(zeroValue e).run P w= .ok z w:=by simp [zeroValue,typeInfo,T2.info,hz]
   simp only[Instr.lookup,hxv,Sem.run_bind,run_underlying hu,Result.andThen,Go.MapKept.run_getObj_map hh,Sem.run_pure,Go.MapKept.run_checkKey hd hik,e0,ez]
theorem Rel.xm (h:Rel P base w0 S0 N D sv g σ a w) {id:Nat} {ag:Bool} {κ τ:Ty} {l:List (κ.T×τ.T×Nat)} {ck:Nat} {b:Gb} {q:Nat} {es:Array MapEntry} (hl:look id σ.mem=some (.map ag κ τ l ck)) (hb:g.m id=some b) (hq:b.blk=some q) (hh:w.heap[q]? =some (.map es ck))
 {l':List (κ.T×τ.T×Nat)} {ck':Nat} {es':Array MapEntry} (ha:bZ (Bn g w ag) l' es'.toList):Rel P base w0 S0 N D sv g (σ.set id (.map ag κ τ l' ck')) a {w with heap:=w.heap.setIfInBounds q (.map es' ck')}:=by
 have hown:=h.own id _ b q hl rfl hb hq;refine h.set (w':={w with heap:=w.heap.setIfInBounds q (.map es' ck')}) hl rfl hb hq (by simp) (fun j hj=>(heap_set hh).2 j hj) ⟨rfl,rfl,rfl⟩ (fun hH=> ?_);refine⟨q,es',hq,(heap_set hh).1,ha.mono fun x e k=>k.of fun y v hy hv=> ?_⟩;have hH':cD g w {w with heap:=w.heap.setIfInBounds q (.map es' ck')}:=fun j hj=>(heap_set hh).2 j (fun e=>by subst e;exact hown.2 hj)
 exact hv.mono hH' (Gh.le.refl g)
theorem Lx {τ:Ty} {l:List At} {x:τ.T} (h:τ.po l=some x) {vs:List Value} (hv:bZ (VA g w) l vs):bZ (VA g w) (τ.enc x) vs:=by
 rw[qi τ h];exact hv.DR fun _ _ k=>k.hO
theorem bZ.push {α β:Type} {R:α→β→Prop} {l:List α} {m:List β} (h:bZ R l m) {a:α} {b:β} (hr:R a b):bZ R (l++[a]) (m++[b]):=h.append (.cons hr .nil)
theorem V1.Ei {ag:Bool} {x:V1} (hx:x.is ag=true) {v:Value} (hv:V1R g w x v) {τ:Ty} {e:τ.T} (he:τ.po x.cells=some e):∃y',V1.dw ag (τ.enc e)=some y'∧V1R g w y' v:=by
 have hva:=Lx he hv.cells;cases x with
 |one x=>
  have hag:ag=false:=by simpa [V1.is] using hx
  subst hag;have h1:VA g w x v:=hv;have h2:=h1.one;have e1:v.cells.toList=[v]:=by cases v<;>first|rfl|(simp [Value.oneCell'] at h2)
  have hl:(τ.enc e).length=1:=by
   have:=hva.length;rw[e1] at this;exact this
  obtain⟨z,hz⟩:=List.length_eq_one_iff.1 hl;rw[e1] at hva;rw[hz] at hva⊢;cases hva with|cons ha _=>exact⟨_,rfl,ha⟩
 |agg l=>
  have hag:ag=true:=hx;subst hag;obtain⟨vs,rfl,_⟩:=hv;exact⟨.agg (τ.enc e),rfl,vs,rfl,hva⟩
theorem np {es:Array MapEntry} {j:Nat} {e:MapEntry} {f:MapEntry→MapEntry} (h:es.toList[j]? =some e):(es.modify j f).toList=es.toList.set j (f e):=by
 have hj:j<es.size:=by have:=(List.getElem?_eq_some_iff.1 h).1;simpa using this
 apply List.ext_getElem?;intro i;simp only[Array.toList_modify,List.getElem?_modify,List.getElem?_set];split
 ·rename_i e1;subst e1
  rw[if_pos (by simpa using hj),h];rfl
 ·cases es.toList[i]? <;>rfl
theorem Cm (h:Rel P base w0 S0 N D sv g σ a w) (C:aF P c) (hN:c.N=N) (hF:bY F) {K:Act→World→Prop} {Q:Exit→Act→World→Prop} (hK:∀g' σ' a' w',k σ'=some res→Rel P base w0 S0 N D sv g' σ' a' w'→K a' w') {t:TypeId} {x i v:Operand}
 (hop:o.op= .mapUpdate t x i v∨o.op= .insert t x i v) (hs:v_ c o σ t x i v k=some res):o.wpIn F n P a w K Q:=by
 unfold v_ at hs;obtain⟨id,ag,κ,τ,l,ck,key,te,kt,e,b,q,es,hs,hl,hu,hkt,hte,hxv,hkv,hb,hq,hh,ha⟩:=Bf h C hs;obtain⟨d,hd⟩:=D6 hkt;have hik:=Ba hkt hd hkv;have E:=h.env C [v];split at hs
 ·rename_i y hy
  have hyv:=E.evV (by simp) hy;split at hs
  ·rename_i z hag hz
   obtain⟨y',hy',hyr⟩:=V1.Ei hag hyv hz;have hnd:∀c,o.op≠ .defer c:=fun c=>by rcases hop with e|e<;>simp [e]
   have hex:∀{w2:World},(Instr.mapUpdate t (a.eval x) (a.eval i) (a.eval v)).run P w= .ok () w2→(execOp a.eval o).run P w= .ok .skip w2:=fun{w2} hr=>by
    rcases hop with e|e<;>simp [execOp,e,hr]
   rcases j9 hkt hd hkv 0 ha with⟨j,xe,e',g1,g2,g3,g4,g5⟩ |⟨g1,g2⟩
   ·obtain⟨e1,e2⟩:=vB (v:=z) (ck:=ck) g1 g3 g4
    have hxe:=ha.xR g1 g2;have hsame:=C5 hkt hkv hxe.1 g3;have g2':es[j]? =some e':=by simpa using g2
    rw[e1,e2] at hs;have hR:=h.xm (es':=es.modify j fun e=>{e with key:=a.eval i,val:=a.eval v}) (l':=l.set j (xe.1,z,xe.2.2)) (ck':=ck) hl hb hq hh (by
     rw[np g2];refine ha.set (a:=(xe.1,z,xe.2.2)) (b:={e' with key:=a.eval i,val:=a.eval v}) ?_ j;exact⟨by rw[←hsame];exact hxe.1,hxe.2.1,y',hy',hyr⟩)
    obtain⟨σ2,hk2,h2⟩:=hR.put hN (x:= .undef) (v:=undef) rfl hs;refine lO hF hnd (hex ?_) (hK _ _ _ _ hk2 h2);have e0:=run_findKey (P:=P) (w:=w) hd (l:=es.toList) g5;simp [Instr.mapUpdate,hxv,run_underlying hu,Go.MapKept.run_getObj_map hh,Go.MapKept.run_checkKey hd hik,e0,g2',hsame,run_keyThatStays hik,run_setObj_map _ hh,Result.andThen]
   ·obtain⟨e1,e2⟩:=x_ (v:=z) (ck:=ck) g1
    rw[e1,e2] at hs;have hR:=h.xm (es':=es.push {key:=a.eval i,val:=a.eval v,born:=ck}) (l':=l++[(key,z,ck)]) (ck':=ck+1) hl hb hq hh (by
     rw[Array.toList_push];exact ha.push ⟨hkv,rfl,y',hy',hyr⟩)
    obtain⟨σ2,hk2,h2⟩:=hR.put hN (x:= .undef) (v:=undef) rfl hs;refine lO hF hnd (hex ?_) (hK _ _ _ _ hk2 h2);have e0:=run_findKey (P:=P) (w:=w) hd (l:=es.toList) g2;simp [Instr.mapUpdate,hxv,run_underlying hu,Go.MapKept.run_getObj_map hh,Go.MapKept.run_checkKey hd hik,e0,run_setObj_map _ hh,Result.andThen]
  ·simp at hs
 ·simp at hs
theorem Jv (h:Rel P base w0 S0 N D sv g σ a w) (C:aF P c) (hN:c.N=N) (hF:bY F) {K:Act→World→Prop} {Q:Exit→Act→World→Prop} (hK:∀g' σ' a' w',k σ'=some res→Rel P base w0 S0 N D sv g' σ' a' w'→K a' w') {t:TypeId} {x i:Operand}
 (hop:o.op= .mapEntry t x i) (hs:Bt c o σ t x i k=some res):o.wpIn F n P a w K Q:=by
 unfold Bt at hs;obtain⟨id,ag,κ,τ,l,ck,key,te,kt,e,b,q,es,hs,hl,hu,hkt,hte,hxv,hkv,hb,hq,hh,ha⟩:=Bf h C hs;obtain⟨d,hd⟩:=D6 hkt;have hik:=Ba hkt hd hkv;rcases w_ hs with⟨j,xe,h1,h2,h3,hs⟩ |⟨h1,hs⟩
 ·obtain⟨y,hy,hs⟩:=bz hs
  rcases j9 hkt hd hkv 0 ha with⟨j',xe',e',g1,g2,g3,g4,g5⟩ |⟨g1,g2⟩
  ·have ej:j=j':=by
    rcases Nat.lt_trichotomy j j' with hlt|hlt|hlt
    ·have:=g4 j xe hlt h1;rw[h2] at this;cases this
    ·exact hlt
    ·have:=h3 j' xe' hlt g1;rw[g3] at this;cases this
   subst ej;rw[h1] at g1;cases g1;have hxe:=ha.xR h1 g2;have hsame:=C5 hkt hkv hxe.1 h2;have g2':es[j]? =some e':=by simpa using g2
   obtain⟨hk1,hborn,y',hy',hv⟩:=hxe;rw[hy] at hy';cases hy';have hR:=h.xm (es':=es.modify j fun e=>{e with key:=a.eval i}) (l':=l) (ck':=ck) hl hb hq hh (by
    rw[np g2];have e9:l=l.set j xe:=by
     obtain⟨hj,e⟩:=List.getElem?_eq_some_iff.1 h1;rw[←e];simp
    rw[e9];refine ha.set (a:=xe) (b:={e' with key:=a.eval i}) ?_ j;exact⟨by rw[←hsame];exact hk1,hborn,y,hy,hv⟩)
   have hR2:Rel P base w0 S0 N D sv g σ a {w with heap:=w.heap.setIfInBounds q (.map (es.modify j fun e=>{e with key:=a.eval i}) ck)}:=by
    have e:∀i,look i (σ.set id (.map ag κ τ l ck)).mem=look i σ.mem:=fun i=>by
     simp only[St.set,bt];split
     ·rename_i e;subst e;exact hl.symm
     ·rfl
    exact{az:=hR.az,size:=hR.size,dfr:=hR.dfr,glo:=hR.glo,lp:=fun i z b h1=>hR.lp i z b (by rw[e];exact h1),mem:=fun i z hz=>hR.mem i z (by rw[e];exact hz),inj:=fun i i' z z' b b' q h1 h2=>hR.inj i i' z z' b b' q (by rw[e];exact h1) (by rw[e];exact h2),own:=fun i z b q h1=>hR.own i z b q (by rw[e];exact h1),S:=hR.S,blk:=hR.blk,nx:=hR.nx,bel:=hR.bel,bs:=hR.bs,sub:=hR.sub}
   have hv2:AVR g {w with heap:=w.heap.setIfInBounds q (.map (es.modify j fun e=>{e with key:=a.eval i}) ck)} (.tup [y, .one (.int .i64 xe.2.2)]) (.tuple #[e'.val, .int .i64 xe.2.2]):=by
    have hown:=h.own id _ b q hl rfl hb hq;exact⟨[e'.val, .int .i64 xe.2.2],rfl, .cons (hv.mono (fun j hj=>(heap_set hh).2 j (fun e=>by subst e;exact hown.2 hj)) (Gh.le.refl g)) (.cons (VA.int _ _) .nil)⟩
   obtain⟨σ2,hk2,h2⟩:=hR2.put hN hv2 hs;refine bO hF (by simp [hop]) ?_ (hK _ _ _ _ hk2 h2);have e0:=run_findKey (P:=P) (w:=w) hd (l:=es.toList) g5;simp [execOp,hop,Instr.mapEntry,hxv,run_underlying hu,Go.MapKept.run_getObj_map hh,Go.MapKept.run_checkKey hd hik,e0,g2',hsame,run_keyThatStays hik,run_setObj_map _ hh,Result.andThen,hborn,goInt]
  ·exact absurd (g1 xe (List.mem_of_getElem? h1)) (by rw[h2];simp)
 ·rcases j9 hkt hd hkv 0 ha with⟨j',xe',e',g1,g2,g3,g4,g5⟩ |⟨g1,g2⟩
  ·exact absurd (h1 xe' (List.mem_of_getElem? g1)) (by rw[g3];simp)
  ·split at hs
   ·rename_i hag
    obtain⟨z,hz,hs⟩:=bz hs;obtain⟨i2,d2,T2⟩:=C.ts e te hte;obtain⟨zv,hzv, -,hzr⟩:=T2.zero;obtain⟨y',hy',hyr⟩:=V1.Ei hag (hzr g w) hz;have hR:=h.xm (es':=es.push {key:=a.eval i,val:=zv,born:=ck}) (l':=l++[(key,z,ck)]) (ck':=ck+1) hl hb hq hh (by
     rw[Array.toList_push];exact ha.push ⟨hkv,rfl,y',hy',hyr⟩)
    obtain⟨σ2,hk2,h2⟩:=hR.put hN (x:= .tup [te.zero, .one (.int .i64 ck)]) (v:= .tuple #[zv, .int .i64 ck]) ⟨[zv, .int .i64 ck],rfl, .cons (hzr _ _) (.cons (VA.int _ _) .nil)⟩ hs;refine bO hF (by simp [hop]) ?_ (hK _ _ _ _ hk2 h2);have e0:=run_findKey (P:=P) (w:=w) hd (l:=es.toList) g2;have ez:(zeroValue e).run P w= .ok zv w:=by simp [zeroValue,typeInfo,T2.info,hzv]
    simp [execOp,hop,Instr.mapEntry,hxv,run_underlying hu,Go.MapKept.run_getObj_map hh,Go.MapKept.run_checkKey hd hik,e0,ez,run_setObj_map _ hh,Result.andThen,goInt]
   ·simp at hs
theorem GA {ag:Bool} {κ τ:Ty} {bn:Int} {v:τ.T} {vv:Value}:∀{l l':List (κ.T×τ.T×Nat)} {es:List MapEntry},IJ bn v l=some l'→bZ (Bn g w ag) l es→(∃y,V1.dw ag (τ.enc v)=some y∧V1R g w y vv)→
 ∃j,es.findIdx? (fun e=>(e.born:Int)==bn)=some j∧∃e,es[j]? =some e∧bZ (Bn g w ag) l' (es.set j {e with val:=vv})
 | [],l',es,h,_,_=>by simp [IJ] at h
 |x::l,l',_,h, .cons (b:=e) (m:=es) hx ht,hv=>by
  simp only[IJ] at h;split at h
  ·rename_i hb
   cases h;refine⟨0, ?_,e,rfl, ?_⟩
   ·rw[List.findIdx?_cons,hx.2.1,hb];rfl
   ·obtain⟨y,hy,hr⟩:=hv
    exact .cons ⟨hx.1,hx.2.1,y,hy,hr⟩ ht
  ·rename_i hb
   split at h
   ·rename_i l2 hl2
    cases h;obtain⟨j,h1,e2,h2,h3⟩:=GA hl2 ht hv;refine⟨j+1, ?_,e2,by simpa using h2, ?_⟩
    ·rw[List.findIdx?_cons,hx.2.1,hb,h1];rfl
    ·exact .cons hx h3
   ·cases h
theorem MT (h:Rel P base w0 S0 N D sv g σ a w) (C:aF P c) (hN:c.N=N) (hF:bY F) {K:Act→World→Prop} {Q:Exit→Act→World→Prop} (hK:∀g' σ' a' w',k σ'=some res→Rel P base w0 S0 N D sv g' σ' a' w'→K a' w') {t:TypeId} {x s v:Operand}
 (hop:o.op= .entryStore t x s v) (hs:Fp c o σ t x s v k=some res):o.wpIn F n P a w K Q:=by
 unfold Fp at hs;have E:=h.env C [x,s,v];split at hs
 ·rename_i id κ0 bn y hx hsv hy
  split at hs
  ·rename_i ag κ τ l ck hl
   split at hs
   ·rename_i z hag hz
    obtain⟨l',hl',hs⟩:=bz hs;obtain⟨b,hb,q,es,hq,hh,ha⟩:=h.mem id _ hl;have hxv:a.eval x= .map (some q):=by
     have:=E.evA (by simp) hx;generalize a.eval x=u at this⊢;cases this with
     |fT _ b' k' hm hk'=>rw[hb] at hm;cases hm;rw[hq] at hk';cases hk';rfl
    have hsv':a.eval s= .int κ0 bn:=by
     have:=E.evA (by simp) hsv;generalize a.eval s=u at this⊢;cases this;rfl
    obtain⟨y',hy',hyr⟩:=V1.Ei hag (E.evV (by simp) hy) hz;obtain⟨j,h1,e,h2,h3⟩:=GA hl' ha ⟨y',hy',hyr⟩;have hR:=h.xm (es':=es.modify j fun e=>{e with val:=a.eval v}) (l':=l') (ck':=ck) hl hb hq hh (by rw[np h2];exact h3);obtain⟨σ2,hk2,h2⟩:=hR.put hN (x:= .undef) (v:=undef) rfl hs;refine lO hF (by simp [hop]) ?_ (hK _ _ _ _ hk2 h2);have hf:es.findIdx? (fun e=>(e.born:Int)==bn)=some j:=by rw[←Array.toArray_toList (xs:=es),List.findIdx?_toArray];exact h1
    simp [execOp,hop,Instr.entryStore,hxv,hsv',asInt,asIntOf,Go.MapKept.run_getObj_map hh,hf,run_setObj_map _ hh,Result.andThen]
   ·simp at hs
  ·simp at hs
 ·simp at hs
end
end Go.Eng
namespace Go.Eng
open Go Go.RowKit
section
variable {P:Program} [aE P] {F:Fence} {n:Nat} {c:Cfg} {g g':Gh} {r:cv} {m:Mem} {a:Act} {w w':World} {o:Oper} {R:Type} {k:St→Option R} {res:R} {xs:List Operand}
variable {base:Nat} {w0:World} {S0:Nat→Prop} {N:Nat} {D:Wt} {sv:Nat→Value} {σ:St}
theorem vD {x:At} {kk:At→Option R} (h:viewAt m x kk=some res):(∃y,kk y=some res)∧∀i∈jD x,∃τ l,look i m=some (.row τ l):=by
 cases x<;>simp only[viewAt,reduceCtorEq] at h
 case own id=>
  simp only[cw] at h;split at h
  ·rename_i τ l hl
   exact⟨⟨_,h⟩,fun i hi=>by simp [jD] at hi;subst hi;exact⟨τ,l,hl⟩⟩
  ·simp at h
 case sub id off len=>
  simp only[cw] at h;split at h
  ·rename_i τ l hl
   split at h
   ·exact⟨⟨_,h⟩,fun i hi=>by simp [jD] at hi;subst hi;exact⟨τ,l,hl⟩⟩
   ·simp at h
  ·simp at h
 all_goals exact⟨⟨_,h⟩,fun i hi=>by simp [jD] at hi⟩
theorem r6:∀{l:List At} {kk:List At→Option R},iR m l kk=some res→(∃y,kk y=some res)∧∀i∈uS l,∃τ l,look i m=some (.row τ l)
 | [],kk,h=>⟨⟨_,h⟩,fun i hi=>by simp [uS] at hi⟩
 |x::l,kk,h=>by
  simp only[iR] at h;obtain⟨⟨y,h1⟩,h2⟩:=vD h;obtain⟨⟨y',h3⟩,h4⟩:=r6 h1;refine⟨⟨_,h3⟩,fun i hi=> ?_⟩;simp only[uS,List.mem_append] at hi;rcases hi with hi|hi
  ·exact h2 i hi
  ·exact h4 i hi
theorem kW:∀{l:List AV} {kk:List AV→Option R},dx m l kk=some res→(∃y,kk y=some res)∧∀i∈cV l,∃τ l,look i m=some (.row τ l)
 | [],kk,h=>⟨⟨_,h⟩,fun i hi=>by simp [cV] at hi⟩
 |x::l,kk,h=>by
  simp only[dx] at h;unfold iU at h;split at h
  ·obtain⟨⟨y,h1⟩,h2⟩:=vD h
   obtain⟨⟨y',h3⟩,h4⟩:=kW h1;refine⟨⟨_,h3⟩,fun i hi=> ?_⟩;simp only[cV,List.mem_append] at hi;rcases hi with hi|hi
   ·exact h2 i hi
   ·exact h4 i hi
  ·obtain⟨⟨y,h1⟩,h2⟩:=r6 h
   obtain⟨⟨y',h3⟩,h4⟩:=kW h1;refine⟨⟨_,h3⟩,fun i hi=> ?_⟩;simp only[cV,List.mem_append] at hi;rcases hi with hi|hi
   ·exact h2 i hi
   ·exact h4 i hi
  ·simp at h
theorem Dh (h:Rel P base w0 S0 N D sv g σ a w) (C:aF P c) (hN:c.N=N) (hF:bY F) {K:Act→World→Prop} {Q:Exit→Act→World→Prop} (hK:∀g' σ' a' w',k σ'=some res→Rel P base w0 S0 N D sv g' σ' a' w'→K a' w') {f:Operand} {args:Array Operand} {ts:Array TypeId}
 (hop:o.op= .call {callee:= .value f,args,argTypes:=ts}) (hs:xE c o f args ts σ k=some res):o.wpIn F n P a w K Q:=by
 unfold xE at hs;split at hs
 ·rename_i nn as hn has
  split at hs
  ·rename_i s hsp
   obtain⟨y,hy,hcall⟩:=AX (n:=n) (h.env C (f::args.toList)) hF (by simp) (fun x hx=>by simp [hx]) hop hn has (C.sp _ _ hsp) hs;split at hy
   ·rename_i hfl
    refine hcall K Q (fun q=>q<w.heap.size) ⟨h.S,fun id b q _ hb hq=>h.blk id b q hb hq⟩ (fun q h=>h) (h.glo.mono (cD.refl _ _) h.S) fun v w' hb hv=> ?_
    obtain⟨σ2,hk,h2⟩:=(h.grow hb).put hN (x:=y) (hv.flat hfl) hy;exact hK _ _ _ _ hk h2
   ·obtain⟨g1,σ1,h1,hr,hle,hfr⟩:=h.fm hy
    have hrows:=(kW hs).2;refine hcall K Q g1.S ⟨hle.S,fun id b q hi hb hq=> ?_⟩ hr.S (hr.glo.mono (cD.refl _ _) fun _ h=>h) fun v w' hb hv=> ?_
    ·obtain⟨τ,l,hl⟩:=hrows id hi
     rcases hfr id τ l hl with hS|⟨hn,_⟩
     ·exact hS b q hb hq
     ·exact absurd hi hn
    ·obtain⟨σ2,hk,h2⟩:=(hr.grow hb).put hN (x:=y) (hv.mono (cD.refl _ _) ⟨fun _ h=>h,fun _ _ h=>by cases h⟩) h1
     exact hK _ _ _ _ hk h2
  ·simp at hs
 ·simp at hs
theorem C9 {τ:Ty} (hf:τ.flat=true):∀(x:τ.T) (j:Nat) (y:At),(τ.enc x)[j]? =some y→qy y=true:=by
 intro x j y h;cases τ<;>simp [Ty.flat] at hf<;>simp only[Ty.enc] at h<;>
  (have hm:=List.mem_of_getElem? h;simp at hm;(try rcases hm with rfl|hm)<;>(try rcases hm with rfl|hm)<;>(try rcases hm with rfl|hm)<;>(try rcases hm with rfl|hm)<;>(try subst hm)<;>rfl)
theorem VA.Yh {g g':Gh} {w w':World} {x:At} {v:Value} (h:VA g w x v) (hp:qy x=true):VA g' w' x v:=V1R.flat (x:= .one x) h hp
theorem B_:∀{l:List At},(∀y∈l,qy y=true)→zu l=true
 | [],_=>rfl
 |x::l,h=>by simp only[zu,h x (by simp)];exact B_ fun y hy=>h y (by simp [hy])
theorem V1.A5 {ag:Bool} {l:List At} {y:V1} (h:V1.dw ag l=some y) (hl:∀y∈l,qy y=true):BW y=true:=by
 unfold V1.dw at h;split at h
 ·cases h;exact B_ hl
 ·cases h;exact hl _ (by simp)
 ·cases h
theorem BR.flat {g g':Gh} {b:Gb} {x:AB} (h:BR P g w b x) (hf:zr x=true):BR P g' w b x:=by
 cases x<;>simp only[zr,Bool.false_eq_true] at hf
 case row τ l=>
  obtain⟨h1,h2,h3⟩:=h;refine⟨h1,h2, ?_⟩;rcases h3 with h3|⟨k,cs,e,hb,hh,hs,hl,ho,ha⟩
  ·exact .inl h3
  ·exact .inr ⟨k,cs,e,hb,hh,hs,hl,ho,fun i x j y hx hy=>let ⟨v,hv,ha'⟩:=ha i x j y hx hy;⟨v,hv,ha'.Yh (C9 hf x j y hy)⟩⟩
 case map ag κ τ l ck=>
  obtain⟨k,es,hb,hh,ha⟩:=h;refine⟨k,es,hb,hh,ha.mono fun x e k=>k.of fun y v hy hv=>V1R.flat hv (V1.A5 hy fun z hz=> ?_)⟩;obtain⟨j,hj⟩:=List.getElem?_of_mem hz;exact C9 hf _ j z hj
theorem Ao {f:Operand} {args:Array Operand} {ts:Array TypeId} {r:cv} {m:Mem} {nx:Nat} {kk:At→AB→Option R} (h:uO c f args ts r m nx kk=some res):
 ∃(nn:Nat) (as as':List AV) (s:kM) (x:s.X) (ab:AB) (y:At),fb c r f=some nn∧fg c r args.toList ts.toList=some as∧look nn c.fresh=some s∧(∀{R':Type} (k':List AV→Option R'),dx m as k'=k' as')∧
  s.pat as'=some x∧s.f x=some ab∧AO nx ab=some y∧(zr ab=true∨cV as= [])∧kk y ab=some res:=by
 unfold uO at h;split at h
 ·rename_i nn as hn has
  split at h
  ·rename_i s hs
   obtain⟨as',hu⟩:=xA h;rw[hu] at h;unfold uQ at h;split at h
   ·rename_i x hx
    obtain⟨ab,hab,h⟩:=bz h;split at h
    ·rename_i y hy
     simp only at h;split at h
     ·rename_i hc
      rw[Bool.or_eq_true] at hc;exact⟨nn,as,as',s,x,s.enc ab,y,hn,has,hs,hu,hx,(by unfold kM.f;rw[hab]),hy,hc.imp id (fun h=>by simpa using h),h⟩
     ·cases h
    ·cases h
   ·cases h
  ·cases h
 ·cases h
theorem MN {g':Gh} {ab:AB} {b:Gb} {y y0:At} {v:Value} {id:Nat} (h0:AO 0 ab=some y0) (h1:AO id ab=some y) (hv:VA ⟨fun _=>False,fun i=>if i=0 then some b else none⟩ w y0 v) (hm:g'.m id=some b):VA g' w y v:=by
 cases ab<;>simp only[AO,reduceCtorEq,Option.some.injEq] at h0 h1
 case row τ l=>
  subst h0;subst h1;cases hv with
  |own _ b' a hm' hk h0=>simp at hm';subst hm';exact .own id b a hm hk h0
 case map ag κ τ l ck=>
  subst h0;subst h1;cases hv with
  |fT _ b' k hm' hk=>simp at hm';subst hm';exact .fT id b k hm hk
theorem BQ (h:Rel P base w0 S0 N D sv g σ a w) (C:aF P c) (hN:c.N=N) (hF:bY F) {K:Act→World→Prop} {Q:Exit→Act→World→Prop} (hK:∀g' σ' a' w',k σ'=some res→Rel P base w0 S0 N D sv g' σ' a' w'→K a' w') {f:Operand} {args:Array Operand} {ts:Array TypeId}
 (hop:o.op= .call {callee:= .value f,args,argTypes:=ts}) (hs:t_ c o f args ts σ k=some res):o.wpIn F n P a w K Q:=by
 obtain⟨nn,as,as',s,x,ab,y,hn,has,hsp,hu,hx,hab,hy,hc,hk⟩:=Ao hs;have E:=h.env C (f::args.toList);have hal:=jl E (fun x hx=>by simp [hx]) has;have hfv:a.eval f= .func (.func nn) #[] #[] :=by
  unfold fb at hn;split at hn
  ·rename_i q hq
   cases hn;have:=E.ev f (by simp) _ _ hq;generalize a.eval f=u at this⊢;cases this;rfl
  ·simp at hn
 have FO:=C.fr nn s hsp;obtain⟨S,hS,hSb,hSg,hSf⟩:∃S,vH g (cV as) S∧(∀q,S q→q<w.heap.size)∧lE P ⟨S,fun _=>none⟩ w∧(zr ab=true∨∀q,S q→g.S q):=by
  rcases hc with hc|hc
  ·exact⟨fun q=>q<w.heap.size,⟨h.S,fun id b q _ hb hq=>h.blk id b q hb hq⟩,fun q h=>h,h.glo.mono (cD.refl _ _) h.S, .inl hc⟩
  ·exact⟨g.S,⟨fun _ h=>h,fun id b q hi=>by rw[hc] at hi;simp at hi⟩,h.S,h.glo.mono (cD.refl _ _) fun _ h=>h, .inr fun _ h=>h⟩
 obtain⟨as2,h2,hav⟩:=nW (R:=List AV) (res:=as') (kk:=some) E.mem hal hS (hu some);cases h2;have hcalls:=FO.calls S w as' _ x ab hSb hSg hav hx hab;have e:(args.toList.map a.eval).toArray=args.map a.eval:=by apply Array.ext';simp
 rw[e] at hcalls;refine⟨fun f _=>hF.fn f, ?_⟩;rw[Oper.semAt_eq _ _ _ (by simp [hop]),xv hop hfv FO.enters];refine⟨fun hd=>(by rw[hF.depth] at hd;cases hd), ?_⟩;refine(fX hF hcalls).mono ?_;rintro e w' ⟨v,rfl,hb,b,hbq,hlive,hloop,hbr,y0,hy0,hva⟩;have hR:=h.afM (Nat.le_refl σ.nx) (b:=b) (x:=ab) (fun k=>w.heap.size≤k∧k<w'.heap.size∧b.blk≠some k) (fun k hk=>hk) hb (by
  rcases hSf with hfl|hSs
  ·exact hbr.flat hfl
  ·exact hbr.mono (cD.refl _ _) (fun _ _=>rfl) ⟨fun q hq=>hq.imp (hSs q) id,fun _ _ h=>by cases h⟩) hbq (fun hl=>by rw[hloop] at hl;cases hl)
 obtain⟨σ2,hk2,h3⟩:=hR.put hN (x:= .one y) (MN hy0 hy hva (by simp [Gh.set])) hk;exact hK _ _ _ _ hk2 h3
theorem I5 (h:Rel P base w0 S0 N D sv g σ a w) (C:aF P c) (hN:c.N=N) (hF:bY F) {K:Act→World→Prop} {Q:Exit→Act→World→Prop} (hK:∀g' σ' a' w',k σ'=some res→Rel P base w0 S0 N D sv g' σ' a' w'→K a' w')
 (hs:jJ c σ.az σ.mem o (fun v=>σ.put c o.dst v k)=some res):o.wpIn F n P a w K Q:=by
 obtain⟨y,hy,hq⟩:=yp (n:=n) (h.env C o.op.operands.toList) hF (fun _ h=>h) hs;refine hq K Q fun v w' hb hv=> ?_
 obtain⟨σ2,hk,h2⟩:=(h.grow hb).put hN (x:=y) hv hy;exact hK _ _ _ _ hk h2
theorem zE {x y:Option R} (h:both x y=some res):x=some res∧y=some res:=by
 unfold both at h;split at h
 ·rename_i e;exact⟨h,e▸h⟩
 ·cases h
theorem zq {p:At} {v:Value} {kk:Bool→Option R} (hv:VA g w p v) (h:G5 p kk=some res):∃ad n cp,v= .slice ad n cp∧kk ad.isNone=some res:=by
 cases p<;>simp only[G5,reduceCtorEq] at h
 case sl τ l=>
  cases hv with
  |sl _ _ ad n cp bk of f hn hc ha hcell hf=>
   refine⟨ad,n,cp,rfl, ?_⟩;rcases bo h with⟨hb,h⟩ |⟨hb,h⟩
   ·obtain⟨h1,h2⟩:=zE h
    cases ad.isNone
    ·exact h2
    ·exact h1
   ·have:l≠ [] :=by intro e;subst e;simp at hb
    rw[(ha this).1];exact h
 case clip τ l=>
  cases hv with
  |clip _ _ ad n bk of f hn ha hcell hf=>
   refine⟨ad,n,n,rfl, ?_⟩;rcases bo h with⟨hb,h⟩ |⟨hb,h⟩
   ·obtain⟨h1,h2⟩:=zE h
    cases ad.isNone
    ·exact h2
    ·exact h1
   ·have:l≠ [] :=by intro e;subst e;simp at hb
    rw[(ha this).1];exact h
theorem Ww (h:Rel P base w0 S0 N D sv g σ a w) (C:aF P c) (hN:c.N=N) (hF:bY F) {K:Act→World→Prop} {Q:Exit→Act→World→Prop} (hK:∀g' σ' a' w',k σ'=some res→Rel P base w0 S0 N D sv g' σ' a' w'→K a' w') {op:BinOp} {t t':TypeId} {x y:Operand} {p:At}
 (hs:(match op with
  | .eql=>G5 p fun b=>σ.put c o.dst (.one (.bool b)) k
  | .neq=>G5 p fun b=>σ.put c o.dst (.one (.bool (!b))) k
  |_=>none)=some res)
 (hop:o.op= .binOp op t x y t') (hy:BS y=true) {ti:TI} {τ:Ty} {e:TypeId} (hti:c.ti t=some ti) (hk:ti.k= .slice τ e) (hx:evA c σ.az t x=some p):o.wpIn F n P a w K Q:=by
 have E:=h.env C [x];have hv:=E.evA (by simp) hx;obtain⟨i,d,T⟩:=C.ts _ _ hti;have hu:∃e',P.underlying t=some (.slice e'):=by
  have h1:=T.k;rw[hk] at h1;have h2:=T.und;cases d<;>simp [tkB] at h1
  exact⟨_,h2⟩
 obtain⟨e',hu⟩:=hu;have hyv:a.eval y= .slice none 0 0:=by
  unfold BS at hy;split at hy
  ·rfl
  ·cases hy
 cases op<;>simp only[reduceCtorEq] at hs
 case eql=>
  obtain⟨ad,n1,cp,hxv,hs⟩:=zq hv hs;obtain⟨σ2,hk2,hr2⟩:=h.put (v:= .bool ad.isNone) hN (x:= .one (.bool ad.isNone)) (VA.bool _) hs;refine bO hF (by simp [hop]) ?_ (hK _ _ _ _ hk2 hr2);simp [execOp,hop,hxv,hyv,eqGuard,binOp,Op.equal,Op.maxDepth,Lib.run_equalIn_slice_nil w 9999 t e' ad n1 cp 0 0 hu]
 case neq=>
  obtain⟨ad,n1,cp,hxv,hs⟩:=zq hv hs;obtain⟨σ2,hk2,hr2⟩:=h.put (v:= .bool (!ad.isNone)) hN (x:= .one (.bool (!ad.isNone))) (VA.bool _) hs;refine bO hF (by simp [hop]) ?_ (hK _ _ _ _ hk2 hr2);simp [execOp,hop,hxv,hyv,eqGuard,binOp,Op.equal,Op.maxDepth,Lib.run_equalIn_slice_nil w 9999 t e' ad n1 cp 0 0 hu]
theorem J1 (h:Rel P base w0 S0 N D sv g σ a w) (C:aF P c) (hN:c.N=N) (hF:bY F) {K:Act→World→Prop} {Q:Exit→Act→World→Prop} (hK:∀g' σ' a' w',k σ'=some res→Rel P base w0 S0 N D sv g' σ' a' w'→K a' w')
 (hs:jE c o σ k=some res):o.wpIn F n P a w K Q:=by
 unfold jE at hs;split at hs
 ·rename_i t hop
  split at hs
  ·rename_i ti hti
   exact MZ h C hN hF hK hop hti hs
  ·simp at hs
 ·rename_i t x hop
  split at hs
  ·rename_i v hv
   exact W3 h C hN hF hK hop hv hs
  ·simp at hs
 ·rename_i t q parts hop
  obtain⟨g1,σ1,hs,h1, -, -⟩:=h.fm hs;split at hs
  ·rename_i ag sz z τ e hti
   split at hs
   ·rename_i te hte
    split at hs
    ·rename_i cells hcells
     split at hcells
     ·rename_i hsz
      obtain⟨l,hl,hp⟩:=bz hs;exact AT h1 C hN hF hK hop hti rfl hte (Nat.le_of_ble_eq_true hsz) hcells hl hp
     ·simp at hcells
    ·simp at hs
   ·simp at hs
  ·simp at hs
 ·rename_i t x y hop
  split at hs
  ·rename_i ag sz z τ e κ p κ' q hti hx hy
   split at hs
   ·rename_i te hte
    rcases bo hs with⟨hb,hs⟩ |⟨_,hs⟩
    ·simp only[decide_eq_true_eq] at hb
     obtain⟨hlim,hs⟩:=gX hs;obtain⟨z0,hz0,hp⟩:=bz hs;exact C2 h C hN hF hK hop hti rfl hte hx hy hb.1 hb.2 hlim hz0 hp
    ·simp at hs
   ·simp at hs
  ·simp at hs
 ·rename_i t x y hop
  obtain⟨g1,σ1,hs,h1, -, -⟩:=h.fm hs;split at hs
  ·rename_i p v ti hp hv hti
   split at hs
   ·rename_i hsz
    exact Np h1 C hN hF hK hop hp hv hti hsz hs
   ·simp at hs
  ·simp at hs
 ·rename_i t x hop
  split at hs
  ·rename_i ag sz z s hti hx
   exact M1 h C hN hF hK hop hti rfl hx hs
  ·simp at hs
 ·rename_i t q hop
  exact G0 h C hN hF hK hop hs
 ·rename_i t x i ok hop
  exact J4 h C hN hF hK hop hs
 ·rename_i t x i v hop
  exact Cm h C hN hF hK (.inl hop) hs
 ·rename_i t x i v hop
  exact Cm h C hN hF hK (.inr hop) hs
 ·rename_i t x i hop
  exact Jv h C hN hF hK hop hs
 ·rename_i t x i v hop
  exact MT h C hN hF hK hop hs
 ·rename_i x hop
  split at hs
  ·rename_i px hx
   exact QW h C hN hF hK hop hx hs
  ·simp at hs
 ·rename_i f p q hop
  split at hs
  ·rename_i as bs has hbs
   split at hs
   ·rename_i as1 bs1 ha1 hb1
    exact Eb h C hN hF hK hop has hbs ha1 hb1 hs
   ·simp at hs
  ·simp at hs
 ·rename_i op t x y t' hop
  split at hs
  ·rename_i ag sz z τ e p hy hti hx
   exact Ww h C hN hF hK hs hop hy hti rfl hx
  ·simp at hs
 ·rename_i args argTypes hop
  split at hs
  ·rename_i x y t t' hargs hts
   have e1:args= #[x,y]:=by apply Array.ext';simpa using hargs
   have e2:argTypes= #[t,t']:=by apply Array.ext';simpa using hts
   subst e1;subst e2;split at hs
   ·rename_i ag sz z τ e hti htt
    have htt:=Nat.eq_of_beq_eq_true htt;subst htt;split at hs
    ·rename_i te px py hte hx hy
     exact I6 h C hN hF hK hop hti rfl hte hx hy hs
    ·simp at hs
   ·rename_i ag sz z τ e hti htt
    split at hs
    ·rename_i ag1 sz1 z1 κ0 te px κ nn hti' hte hx hy
     obtain⟨z0,hz0,hs⟩:=bz hs;exact Eo h C hN hF hK hop hti rfl hte hti' rfl hx hy hz0 hs
    ·simp at hs
   ·simp at hs
  ·simp at hs
 ·rename_i args argTypes hop
  split at hs
  ·rename_i x t hargs hts
   have e1:args= #[x]:=by apply Array.ext';simpa using hargs
   have e2:argTypes= #[t]:=by apply Array.ext';simpa using hts
   subst e1;subst e2;split at hs
   ·rename_i ag sz z τ e px hti hx
    exact WZ h C hN hF hK hop hti rfl hx hs
   ·simp at hs
  ·simp at hs
 ·rename_i args argTypes hop
  split at hs
  ·rename_i x t hargs hts
   have e1:args= #[x]:=by apply Array.ext';simpa using hargs
   have e2:argTypes= #[t]:=by apply Array.ext';simpa using hts
   subst e1;subst e2;split at hs
   ·rename_i ag sz z τ e px hti hx
    split at hs
    ·rename_i te hte
     exact KQ h C hN hF hK hop hti rfl hte hx hs
    ·simp at hs
   ·simp at hs
  ·simp at hs
 ·rename_i args argTypes hop
  split at hs
  ·rename_i x y t t' hargs hts
   have e1:args= #[x,y]:=by apply Array.ext';simpa using hargs
   have e2:argTypes= #[t,t']:=by apply Array.ext';simpa using hts
   subst e1;subst e2;split at hs
   ·rename_i ag sz z τ e hti htt
    have htt:=Nat.eq_of_beq_eq_true htt;subst htt;split at hs
    ·rename_i id off len id2 off2 len2 hx hy
     exact J9 h C hN hF hK hop hti rfl hx hy hs
    ·rename_i px py _ hx hy
     exact Sf h C hN hF hK hop hti rfl hx hy hs
    ·simp at hs
   ·simp at hs
  ·simp at hs
 ·simp at hs
def l_ (P:Program) [aE P] (H:Hnd R):Prop:=
 (∀{base:Nat} {w0:World} {S0:Nat→Prop} {N:Nat} {D:Wt} {sv:Nat→Value} {g:Gh} {σ:St} {a:Act} {w:World} {res:R} {dst:Option Nat} {f:Nat} {as:List AV} {kk:AV→St→Option R} {vs:List Value},
  Rel P base w0 S0 N D sv g σ a w→bZ (AVR g w) as vs→f<OFF→H dst f as σ kk=some res→
  (∀args w,(callFunc f args).run P w= .ok (.enter f args) w)∧Calls P f vs.toArray w fun e w'=>∃v x g' σ',e= .returned v∧kk x σ'=some res∧Rel P base w0 S0 N D sv g' σ' a w'∧AVR g' w' x v)∧
 (∀{base:Nat} {w0:World} {S0:Nat→Prop} {N:Nat} {D:Wt} {sv:Nat→Value} {g:Gh} {σ:St} {a:Act} {w:World} {res:R} {dst:Option Nat} {id:Nat} {as:List AV} {kk:AV→St→Option R} {vs:List Value} {b:Gb} {l:Nat},
  Rel P base w0 S0 N D sv g σ a w→bZ (AVR g w) as vs→g.m id=some b→b.blk=some l→H dst (OFF+id) as σ kk=some res→
  ∃fn tmps assign body,(Instr.yield l vs.toArray).run P w= .ok (.round l fn tmps assign body) w∧∀(F:Fence) (n:Nat),bY F→RoundIn F n P l fn tmps assign body w fun e w'=>∃v x g' σ',e= .returned v∧kk x σ'=some res∧Rel P base w0 S0 N D sv g' σ' a w'∧AVR g' w' x v)
theorem Io {f:Operand} {args:Array Operand} {ts:Array TypeId} {nn:Nat} {fs cs:Array Value} (hop:o.op= .call {callee:= .value f,args,argTypes:=ts}) (hf:a.eval f= .func (.func nn) fs cs) (he:∀args w,(callFunc nn args).run P w= .ok (.enter nn args) w):
 (execOp a.eval o).run P w= .ok (.enter nn (fs++args.map a.eval++cs)) w:=by
 simp [execOp,hop,resolve,hf,Deferred.ofValue,invoke,he]
theorem wm {l:List At} {vs:List Value} (h:bZ (VA g w) l vs):bZ (AVR g w) (l.map AV.one) vs:=by
 induction h with
 |nil=>exact .nil
 |cons h _ ih=>exact .cons h ih
theorem tZ (h:Rel P base w0 S0 N D sv g σ a w) {x:At} {v:Value} {i:Nat} {τ:Ty} {l:List τ.T} (hv:VA g w x v) (hi:jD x=[i]) (hl:look i σ.mem=some (.row τ l)) (hne:0<l.length):
 ∃ad len cap,v= .slice ad len cap∧(len=0∨∃q of cs e b,ad=some ⟨q,of,none⟩∧g.m i=some b∧b.blk=some q∧w.heap[q]? =some (.cells cs e (0,0))∧cs.size≠0):=by
 obtain⟨b,hm,hbr⟩:=h.mem i _ hl;obtain⟨g1,g2,g3⟩:=hbr;rcases g3 with⟨_,g3,_⟩ |⟨q,cs,e,hb,hh,hcs,hl',ho,ha⟩
 ·subst g3;simp at hne
 have hsz:cs.size≠0:=by
  rw[hcs];exact Nat.mul_ne_zero (by omega) (by have:=vg τ;omega)
 cases x<;>simp [jD] at hi
 case own id=>
  subst hi;cases hv with
  |own _ b' ad hm' hk h0=>
   rw[hm] at hm';cases hm';exact⟨ad,_,_,rfl, .inr ⟨q,0,cs,e,b,hk q hb,hm,hb,hh,hsz⟩⟩
 case sub id off len=>
  subst hi;cases hv with
  |sub _ _ _ b' ad cc hm' hl2 hc hk=>
   rw[hm] at hm';cases hm';refine⟨ad,_,_,rfl, ?_⟩;by_cases h0:len=0
   ·exact .inl h0
   ·obtain⟨k',hk',had⟩:=hk (by omega)
    have:k'=q:=by rw[hb] at hk';exact(Option.some.inj hk').symm
    subst this;exact .inr ⟨k',_,cs,e,b,had,hm,hb,hh,hsz⟩
theorem N9 (h:Rel P base w0 S0 N D sv g σ a w) (C:aF P c) (hN:c.N=N) (hF:bY F) {K:Act→World→Prop} {Q:Exit→Act→World→Prop} (hK:∀g' σ' a' w',k σ'=some res→Rel P base w0 S0 N D sv g' σ' a' w'→K a' w') {f:Operand} {args:Array Operand} {ts:Array TypeId} {nn:Nat}
 (hop:o.op= .call {callee:= .value f,args,argTypes:=ts}) (hov:vf P nn) (hfv:a.eval f= .func (.func nn) #[] #[]) {x y:At} (hal:bZ (AVR g w) [.v (.one x), .v (.one y)] (args.toList.map a.eval)) (hs:apart σ.mem x y (σ.put c o.dst (.one (.bool false)) k)=some res):o.wpIn F n P a w K Q:=by
 unfold apart at hs;split at hs
 ·rename_i i j hi hj
  split at hs
  ·rename_i τ l τ' l' hij hl hl'
   rcases bo hs with⟨h1,hs⟩ |⟨_,hs⟩
   rotate_left
   ·simp at hs
   rcases bo hs with⟨h2,hs⟩ |⟨_,hs⟩
   rotate_left
   ·simp at hs
   have h1:0<l.length:=Nat.le_of_ble_eq_true h1;have h2:0<l'.length:=Nat.le_of_ble_eq_true h2;have hne:i≠j:=fun e=>by subst e;simp at hij
   generalize hargs:args.toList.map a.eval=vs at hal;cases hal with
   |cons hv1 ht=>
    cases ht with
    |cons hv2 ht=>
     cases ht;rename_i v1 v2;obtain⟨ad,len,cap,rfl,hc1⟩:=tZ h hv1 hi hl h1;obtain⟨ad2,len2,cap2,rfl,hc2⟩:=tZ h hv2 hj hl' h2;have hrun:=hov w ad ad2 len cap len2 cap2 (by
      rcases hc1 with hc1|⟨q,of,cs,e,b,e1,e2,e3,e4,e5⟩
      ·exact .inl hc1
      ·rcases hc2 with hc2|⟨q2,of2,cs2,e0,b2,f1,f2,f3,f4,f5⟩
       ·exact .inr (.inl hc2)
       ·refine .inr (.inr (.inl ⟨q,q2,of,of2,cs,cs2,e,e0,e1,f1,fun e9=> ?_,e4,f4,f5⟩))
        subst e9;exact hne (h.inj i j _ _ b b2 q hl hl' rfl rfl e2 f2 e3 f3))
     have e:args.map a.eval= #[.slice ad len cap, .slice ad2 len2 cap2]:=by
      apply Array.ext';simpa using hargs
     obtain⟨σ2,hk2,hr2⟩:=h.put (v:= .bool false) hN (x:= .one (.bool false)) (VA.bool _) hs;refine bO hF (by simp [hop]) ?_ (hK _ _ _ _ hk2 hr2);simp [execOp,hop,resolve,hfv,Deferred.ofValue,invoke,e,hrun]
  ·simp at hs
 ·rename_i j hi hj
  split at hs
  ·rename_i τ l τ' l' hl'
   rcases bo hs with⟨h1,hs⟩ |⟨_,hs⟩
   rotate_left
   ·simp at hs
   rcases bo hs with⟨h2,hs⟩ |⟨_,hs⟩
   rotate_left
   ·simp at hs
   have h1:0<l.length:=Nat.le_of_ble_eq_true h1;have h2:0<l'.length:=Nat.le_of_ble_eq_true h2;generalize hargs:args.toList.map a.eval=vs at hal;cases hal with
   |cons hv1 ht=>
    cases ht with
    |cons hv2 ht=>
     cases ht;rename_i v1 v2;obtain⟨ad2,len2,cap2,rfl,hc2⟩:=tZ h hv2 hj hl' h2;have hv1':VA g w (.sl τ l) v1:=hv1;cases hv1' with
     |sl _ _ ad len cap bk of fc hn hcc ha hcell hfc=>
      obtain⟨rfl,hS⟩:=ha (by intro e;subst e;simp at h1);have hrun:=hov w (some ⟨bk,of,none⟩) ad2 len cap len2 cap2 (by
       rcases hc2 with hc2|⟨q2,of2,cs2,e0,b2,f1,f2,f3,f4,f5⟩
       ·exact .inr (.inl hc2)
       ·have hce:=hcell 0 0 h1 (vg τ)
        unfold World.cell? at hce;split at hce
        ·rename_i cs e s hb
         refine .inr (.inr (.inr ⟨bk,q2,of,of2,cs,cs2,e,e0,s,rfl,f1,fun e9=> ?_,hb,f4,fun e8=> ?_⟩))
         ·subst e9
          exact(h.own j _ b2 bk hl' rfl f2 f3).2 hS
         ·have:cs= #[] :=by apply Array.ext';simpa using e8
          subst this;simp at hce
        ·simp at hce)
      have e:args.map a.eval= #[.slice (some ⟨bk,of,none⟩) len cap, .slice ad2 len2 cap2]:=by
       apply Array.ext';simpa using hargs
      obtain⟨σ2,hk2,hr2⟩:=h.put (v:= .bool false) hN (x:= .one (.bool false)) (VA.bool _) hs;refine bO hF (by simp [hop]) ?_ (hK _ _ _ _ hk2 hr2);simp [execOp,hop,resolve,hfv,Deferred.ofValue,invoke,e,hrun]
  ·simp at hs
 ·simp at hs
theorem Eh {H:Hnd R} (hH:l_ P H) (h:Rel P base w0 S0 N D sv g σ a w) (C:aF P c) (hN:c.N=N) (hF:bY F) {K:Act→World→Prop} {Q:Exit→Act→World→Prop} (hK:∀g' σ' a' w',k σ'=some res→Rel P base w0 S0 N D sv g' σ' a' w'→K a' w') {f:Operand} {args:Array Operand} {ts:Array TypeId}
 (hop:o.op= .call {callee:= .value f,args,argTypes:=ts}) (hs:Bb H c o f args ts σ k=some res):o.wpIn F n P a w K Q:=by
 have E:=h.env C (f::args.toList);unfold Bb at hs;split at hs
 ·rename_i nn as hf has
  have hal:=jl E (fun x hx=>by simp [hx]) has;have hfv:a.eval f= .func (.func nn) #[] #[] :=by
   have:=E.evA (by simp) hf;generalize a.eval f=u at this⊢;cases this;rfl
  split at hs
  ·rename_i hov
   split at hs
   ·rename_i x y
    exact N9 h C hN hF hK hop (C.ovl _ hov) hfv hal hs
   ·simp at hs
  split at hs
  rotate_left
  ·simp at hs
  rename_i hlt;obtain⟨h1,h2⟩:=hH.1 h hal (Nat.le_of_ble_eq_true hlt) hs;have e:(args.toList.map a.eval).toArray=args.map a.eval:=by apply Array.ext';simp
  rw[e] at h2;refine⟨fun f _=>hF.fn f, ?_⟩;rw[Oper.semAt_eq _ _ _ (by simp [hop]),xv hop hfv h1];refine⟨fun hd=>(by rw[hF.depth] at hd;cases hd), ?_⟩;refine(fX hF h2).mono ?_;rintro e w' ⟨v,x,g',σ',rfl,hk,hr,hv⟩;obtain⟨σ2,hk2,h3⟩:=hr.put hN hv hk;exact hK _ _ _ _ hk2 h3
 ·rename_i id as hf has
  split at hs
  ·rename_i nn first capt hl
   have hal:=jl E (fun x hx=>by simp [hx]) has;split at hs
   rotate_left
   ·simp at hs
   rename_i hlt;obtain⟨b,hm, -,fs,cs,hb,hfs,hcs⟩:=h.mem id _ hl;have hfv:a.eval f= .func (.func nn) fs cs:=by
    have:=E.evA (by simp) hf;generalize a.eval f=u at this⊢;cases this with
    |clo _ b' f' fs' cs' hm' hv'=>
     rw[hm] at hm';cases hm';rw[hb] at hv';cases hv';rfl
   obtain⟨h1,h2⟩:=hH.1 h ((wm hfs).append (hal.append (wm hcs))) (Nat.le_of_ble_eq_true hlt) hs;have e:(fs.toList++(args.toList.map a.eval++cs.toList)).toArray=fs++args.map a.eval++cs:=by apply Array.ext';simp
   rw[e] at h2;refine⟨fun f _=>hF.fn f, ?_⟩;rw[Oper.semAt_eq _ _ _ (by simp [hop]),Io hop hfv h1];refine⟨fun hd=>(by rw[hF.depth] at hd;cases hd), ?_⟩;refine(fX hF h2).mono ?_;rintro e w' ⟨v,x,g',σ',rfl,hk,hr,hv⟩;obtain⟨σ2,hk2,h3⟩:=hr.put hN hv hk;exact hK _ _ _ _ hk2 h3
  ·simp at hs
 ·rename_i id as hf has
  have hal:=jl E (fun x hx=>by simp [hx]) has;have hfv:=E.evA (by simp) hf;generalize hfe:a.eval f=u at hfv;cases hfv with
  |yld _ b l hm hb=>
   obtain⟨fn,tmps,assign,body,hy,hround⟩:=hH.2 h hal hm hb hs;have e:(args.toList.map a.eval).toArray=args.map a.eval:=by apply Array.ext';simp
   rw[e] at hy;refine⟨fun f _=>hF.fn f, ?_⟩;have hrun:(execOp a.eval o).run P w= .ok (.round l fn tmps assign body) w:=by
    simp [execOp,hop,resolve,hfe,Deferred.ofValue,invoke,hy]
   rw[Oper.semAt_eq _ _ _ (by simp [hop]),hrun,Oper.uponIn_round];refine⟨fun hd=>(by rw[hF.depth] at hd;cases hd),(hround F _ hF).mono ?_⟩;rintro e w' ⟨v,x,g',σ',rfl,hk,hr,hv⟩;obtain⟨σ2,hk2,h3⟩:=hr.put hN hv hk;exact hK _ _ _ _ hk2 h3
 ·simp at hs
theorem Dg {H:Hnd R} (hH:l_ P H) (h:Rel P base w0 S0 N D sv g σ a w) (C:aF P c) (hN:c.N=N) (hF:bY F) {K:Act→World→Prop} {Q:Exit→Act→World→Prop} (hK:∀g' σ' a' w',k σ'=some res→Rel P base w0 S0 N D sv g' σ' a' w'→K a' w') {f:Operand} {args:Array Operand} {ts:Array TypeId}
 (hop:o.op= .call {callee:= .value f,args,argTypes:=ts}) (hs:Cp H c o f args ts σ k=some res):o.wpIn F n P a w K Q:=by
 unfold Cp at hs;split at hs
 ·exact BQ h C hN hF hK hop hs
 ·exact Eh hH h C hN hF hK hop hs
theorem Jy {H:Hnd R} (hH:l_ P H) (h:Rel P base w0 S0 N D sv g σ a w) (C:aF P c) (hN:c.N=N) (hF:bY F) {K:Act→World→Prop} {Q:Exit→Act→World→Prop} (hK:∀g' σ' a' w',k σ'=some res→Rel P base w0 S0 N D sv g' σ' a' w'→K a' w')
 (hs:lZ H c o σ k=some res):o.wpIn F n P a w K Q:=by
 unfold lZ at hs;split at hs
 ·rename_i f args ts hop
  exact Dg hH h C hN hF hK hop hs
 ·exact J1 h C hN hF hK hs
theorem uF {H:Hnd R} (hH:l_ P H) (h:Rel P base w0 S0 N D sv g σ a w) (C:aF P c) (hN:c.N=N) (hF:bY F) {K:Act→World→Prop} {Q:Exit→Act→World→Prop} (hK:∀g' σ' a' w',k σ'=some res→Rel P base w0 S0 N D sv g' σ' a' w'→K a' w') {dr:Bool}
 (hs:ig H c dr o σ k=some res):o.wpIn F n P a w K Q:=by
 unfold ig at hs;split at hs
 ·rename_i f args ts hop
  split at hs
  ·exact Dh h C hN hF hK hop hs
  ·exact Dg hH h C hN hF hK hop hs
 ·split at hs
  ·exact I5 h C hN hF hK hs
  ·exact Jy hH h C hN hF hK hs
end
section
variable {R R':Type} {c:Cfg} {r:cv} {m:Mem} {o:Oper}
theorem eB (b:Bool) (x y:Option R) (k:R→Option R'):(ae b x y).bind k=ae b (x.bind k) (y.bind k):=by cases b<;>rfl
theorem eQ {α:Type} (x:Option α) (f:α→Option R) (k:R→Option R'):(aj x f).bind k=aj x fun y=>(f y).bind k:=by cases x<;>rfl
theorem r_ (n:Nat) (x:Option R) (k:R→Option R'):(aT n x).bind k=aT n (x.bind k):=by unfold aT;split<;>rfl
theorem kL (p:At) (f:(τ:Ty)→List τ.T→Option R) (k:R→Option R'):(cw m p f).bind k=cw m p fun τ l=>(f τ l).bind k:=by
 unfold cw;repeat' split
 all_goals first|rfl|simp_all
theorem BM (p:At) (n:Nat) (f:List At→Option R) (k:R→Option R'):(iV m p n f).bind k=iV m p n fun l=>(f l).bind k:=by
 unfold iV;repeat' split
 all_goals first|rfl|simp_all [eQ]
theorem u6 (p:At) (f:At→Option R) (k:R→Option R'):(viewAt m p f).bind k=viewAt m p fun l=>(f l).bind k:=by
 unfold viewAt;repeat' split
 all_goals first|rfl|simp_all [kL]
theorem wK:∀(l:List At) (f:List At→Option R) (k:R→Option R'),(iR m l f).bind k=iR m l fun l=>(f l).bind k
 | [],f,k=>rfl
 |x::l,f,k=>by simp only[iR,u6,wK l]
theorem FX (p:AV) (f:AV→Option R) (k:R→Option R'):(iU m p f).bind k=iU m p fun l=>(f l).bind k:=by
 unfold iU;repeat' split
 all_goals first|rfl|simp_all [u6,wK]
theorem kV:∀(l:List AV) (f:List AV→Option R) (k:R→Option R'),(dx m l f).bind k=dx m l fun l=>(f l).bind k
 | [],f,k=>rfl
 |x::l,f,k=>by simp only[dx,FX,kV l]
theorem o_ (n:Nat) (lo hi:Option Int) (f:Nat→Nat→Option R) (k:R→Option R'):(jH n lo hi f).bind k=jH n lo hi fun a b=>(f a b).bind k:=by
 unfold jH;repeat' split
 all_goals first|rfl|simp [eB]
theorem Bj (cp n:Nat) (lo hi:Option Int) (f:Nat→Nat→Option R) (k:R→Option R'):(mV cp n lo hi f).bind k=mV cp n lo hi fun a b=>(f a b).bind k:=by
 unfold mV;split<;>exact o_ _ _ _ _ _
theorem so (s:Spec) (as:List AV) (f:AV→Option R) (k:R→Option R'):(nO s as f).bind k=nO s as fun a=>(f a).bind k:=by
 unfold nO;split
 ·simp [eQ]
 ·rfl
theorem Hn (op:BinOp) (κ:IntKind) (a b:Int) (f:AV→Option R) (k:R→Option R'):(Hz op κ a b f).bind k=Hz op κ a b fun a=>(f a).bind k:=by
 unfold Hz;split<;>first|rfl|simp [eB]
theorem Ca (op:BinOp) (κ:IntKind) (a b:Int) (f:AV→Option R) (k:R→Option R'):(uh op κ a b f).bind k=uh op κ a b fun a=>(f a).bind k:=by
 unfold uh;split<;>first|rfl|simp [eB]
theorem Hk (op:BinOp) (a b:Str) (f:AV→Option R) (k:R→Option R'):(Ij op a b f).bind k=Ij op a b fun a=>(f a).bind k:=by
 unfold Ij;split<;>first|rfl|simp [r_]
theorem Hh (tb:Bool) (eq:Option (List EK)) (op:BinOp) (x y:AV) (f:AV→Option R) (k:R→Option R'):(FC tb eq op x y f).bind k=FC tb eq op x y fun a=>(f a).bind k:=by
 unfold FC;repeat' split
 all_goals first|rfl|simp_all [Hn,Ca,Hk]
theorem JV (op:UnOp) (x:AV) (f:AV→Option R) (k:R→Option R'):(unQ op x f).bind k=unQ op x fun a=>(f a).bind k:=by
 unfold unQ;split<;>rfl
theorem Al (τ:Ty) (l:List τ.T) (lo hi mx:Option Int) (f:AV→Option R) (k:R→Option R'):(By τ l lo hi mx f).bind k=By τ l lo hi mx fun a=>(f a).bind k:=by
 unfold By;split<;>simp [o_,eB]
theorem Ej (τ:Ty) (l:List τ.T) (lo hi mx:Option Int) (f:AV→Option R) (k:R→Option R'):(CL τ l lo hi mx f).bind k=CL τ l lo hi mx fun a=>(f a).bind k:=by
 unfold CL;split<;>simp [Al,eB]
theorem CU (t:TypeId) (x:At) (lo hi mx:Option Operand) (f:AV→Option R) (k:R→Option R'):(oN c r m t x lo hi mx f).bind k=oN c r m t x lo hi mx fun a=>(f a).bind k:=by
 unfold oN;repeat' split
 all_goals first|rfl|simp_all [o_,Bj,Al,Ej,eB]
theorem Hu (t:TypeId) (x:At) (f:AV→Option R) (k:R→Option R'):(BD c m t x f).bind k=BD c m t x fun a=>(f a).bind k:=by
 unfold BD;repeat' split
 all_goals first|rfl|simp_all [kL]
theorem uY (n:Int) (f:Nat→Option R) (k:R→Option R'):∀(m i:Nat),(splitK n m i f).bind k=splitK n m i fun a=>(f a).bind k
 |0,_=>rfl
 |m+1,i=>by simp only[splitK,eB,uY n f k m (i+1)]
theorem Iw (t:TypeId) (x:At) (n:Int) (f:AV→Option R) (k:R→Option R'):(BV c m t x n f).bind k=BV c m t x n fun a=>(f a).bind k:=by
 unfold BV;repeat' split
 all_goals first|rfl|simp_all [eB,eQ,uY]
theorem CH (f:AV→Option R) (k:R→Option R'):(jJ c r m o f).bind k=jJ c r m o fun a=>(f a).bind k:=by
 unfold jJ;repeat' split
 all_goals first|rfl|(simp_all [eB,eQ,BM,Iw,Hh,JV,kL,CU,Hu,kV,so];done) |skip
 rw[kV];congr 1;funext as';rw[so];congr 1;funext y;split<;>rfl
theorem FR {k:AV→Option R} {res:R} (h:jJ c r m o k=some res):∃y,jJ c r m o some=some y∧k y=some res:=by
 have e:=CH (c:=c) (r:=r) (m:=m) (o:=o) (f:=some) (k:=k);simp only[Option.bind_some] at e;rw[←e] at h;exact Option.bind_eq_some_iff.1 h
end
section
variable {P:Program} [aE P] {F:Fence} {n:Nat} {c:Cfg} {g g':Gh} {r:cv} {m:Mem} {a:Act} {w w':World} {o:Oper} {R:Type} {k:St→Option R} {res:R} {xs:List Operand}
variable {base:Nat} {w0:World} {S0:Nat→Prop} {N:Nat} {D:Wt} {sv:Nat→Value} {σ:St} {ops:Array Oper} {Q:Exit→Act→World→Prop}
theorem lY (hF:bY F):∀f,o.about P w a.eval=some f→F.fn f:=fun f _=>hF.fn f
theorem jT {j d:Nat} (hj:(ops.toList.map (·.dst))[j]? =some (some d)) (hd:d<a.tmps.size):yielded ops a.tmps j=match a.tmps.getD d undef with| .bool b=>some b|_=>none:=by
 have h1:(ops[j]?).bind (·.dst)=some d:=by
  simp only[List.getElem?_map,Array.getElem?_toList] at hj;cases h:ops[j]? with
  |none=>rw[h] at hj;simp at hj
  |some o=>rw[h] at hj;simp at hj;simpa using hj
 unfold yielded;rw[h1];simp [hd];cases a.tmps[d]<;>rfl
theorem tY {dst:Nat} {x:AV} {σ:St} {kk:St→Option R} (h:σ.put c (some dst) x kk=some res):dst<c.N∧dst<OFF∧kk {az:=(dst,x)::σ.az,mem:=σ.mem,nx:=σ.nx}=some res:=by
 unfold St.put at h;simp only at h;split at h
 ·rename_i hd
  split at h
  ·rename_i ho
   exact⟨Nat.le_of_ble_eq_true hd,Nat.le_of_ble_eq_true ho,h⟩
  ·simp at h
 ·simp at h
theorem Rel.again (h:Rel P base w0 S0 N D sv g σ a w) {d:Nat} {x:AV} (hx:look d σ.az=some x):Rel P base w0 S0 N D sv g {az:=(d,x)::σ.az,mem:=σ.mem,nx:=σ.nx} a w:=
 have hr:∀t y,look t ((d,x)::σ.az)=some y→AVR g w y (vof sv a t):=by
  intro t y hy;simp only[bt] at hy;split at hy
  ·rename_i e;subst e;cases hy;exact h.az _ _ hx
  ·exact h.az t y hy
 {h with az:=hr}
theorem oB {H:Hnd R} (hH:l_ P H) (h:Rel P base w0 S0 N D sv g σ a w) (C:aF P c) (hN:c.N=N) (hF:bY F) {K:Act→World→Prop} {dr:Bool} {kk:St→Option R} (hK:∀g' σ' a' w',kk σ'=some res→Rel P base w0 S0 N D sv g' σ' a' w'→K a' w')
 (hs:(match o.guard with
 |none=>ig H c dr o σ kk
 |some (j,want)=>match (ops.toList.map (·.dst))[j]? with
  |some (some d)=>match jy d σ.az with
   |some (.v (.one (.bool b)))=>ae b
    (σ.put c (some d) (.one (.bool true)) fun σ'=>match want with
     |true=>ig H c dr o σ' kk
     |false=>σ'.put c o.dst .undef kk)
    (σ.put c (some d) (.one (.bool false)) fun σ'=>match want with
     |true=>σ'.put c o.dst .undef kk
     |false=>ig H c dr o σ' kk)
   |some .undef=>σ.put c o.dst .undef kk
   |_=>none
  |_=>none)=some res):
 if Region.wanted o (yielded ops a.tmps) then o.wpIn F n P a w K Q else (∀f,o.about P w a.eval=some f→F.fn f)∧K (a.put o.dst undef) w:=by
 split at hs
 ·rename_i hg
  rw[if_pos (by simp [Region.wanted,hg])];exact uF hH h C hN hF hK hs
 ·rename_i j want hg
  have skip:∀{σ1:St},Rel P base w0 S0 N D sv g σ1 a w→σ1.put c o.dst .undef kk=some res→Region.wanted o (yielded ops a.tmps)=false→if Region.wanted o (yielded ops a.tmps) then o.wpIn F n P a w K Q else (∀f,o.about P w a.eval=some f→F.fn f)∧K (a.put o.dst undef) w:=by
   intro σ1 h1 hp hw;rw[if_neg (by simp [hw])];obtain⟨σ2,hk,h2⟩:=h1.put (v:=undef) hN (x:= .undef) rfl hp;exact⟨lY hF,hK _ _ _ _ hk h2⟩
  split at hs
  ·rename_i d hd
   split at hs
   ·rename_i b hb
    have hbv:a.tmps.getD d undef= .bool b:=by
     have:=h.az d _ (b6 hb).2;rw[hJ (b6 hb).1] at this;generalize a.tmps.getD d undef=u at this;cases this;rfl
    have hlt:d<c.N:=by
     rcases bo hs with⟨_,hs⟩ |⟨_,hs⟩<;>exact(tY hs).1
    have hwant:Region.wanted o (yielded ops a.tmps)=(b==want):=by
     simp only[Region.wanted,hg,jT hd (by rw[h.size];omega),hbv];cases b<;>cases want<;>rfl
    rcases bo hs with⟨rfl,hs1⟩ |⟨rfl,hs1⟩
    ·obtain⟨-, -,hs2⟩:=tY hs1
     have h1:=h.again (b6 hb).2;cases want
     ·exact skip h1 hs2 (by rw[hwant];rfl)
     ·rw[if_pos (by rw[hwant];rfl)]
      exact uF hH h1 C hN hF hK hs2
    ·obtain⟨-, -,hs2⟩:=tY hs1
     have h1:=h.again (b6 hb).2;cases want
     ·rw[if_pos (by rw[hwant];rfl)]
      exact uF hH h1 C hN hF hK hs2
     ·exact skip h1 hs2 (by rw[hwant];rfl)
   ·rename_i hu
    refine skip h hs ?_;have huv:a.tmps.getD d undef=undef:=by
     have:=h.az d _ (b6 hu).2;rw[hJ (b6 hu).1] at this;exact this
    have:yielded ops a.tmps j=none:=by
     by_cases hlt:d<a.tmps.size
     ·rw[jT hd hlt,huv];rfl
     ·have h1:(ops[j]?).bind (·.dst)=some d:=by
       simp only[List.getElem?_map,Array.getElem?_toList] at hd;cases h:ops[j]? with
       |none=>rw[h] at hd;simp at hd
       |some o=>rw[h] at hd;simp at hd;simpa using hd
      unfold yielded;rw[h1];simp [hlt]
    simp [Region.wanted,hg,this]
   ·simp at hs
  ·simp at hs
theorem mU {H:Hnd R} {dr:Bool} {ds:List (Option Nat)} {l:List Oper}:dA H c dr ds (o::l) σ k=(match o.guard with
 |none=>ig H c dr o σ (fun σ'=>dA H c dr ds l σ' k)
 |some (j,want)=>match ds[j]? with
  |some (some d)=>match jy d σ.az with
   |some (.v (.one (.bool b)))=>ae b
    (σ.put c (some d) (.one (.bool true)) fun σ'=>match want with
     |true=>ig H c dr o σ' (fun σ'=>dA H c dr ds l σ' k)
     |false=>σ'.put c o.dst .undef (fun σ'=>dA H c dr ds l σ' k))
    (σ.put c (some d) (.one (.bool false)) fun σ'=>match want with
     |true=>σ'.put c o.dst .undef (fun σ'=>dA H c dr ds l σ' k)
     |false=>ig H c dr o σ' (fun σ'=>dA H c dr ds l σ' k))
   |some .undef=>σ.put c o.dst .undef (fun σ'=>dA H c dr ds l σ' k)
   |_=>none
  |_=>none):=rfl
theorem zP {H:Hnd R} (hH:l_ P H) (C:aF P c) (hN:c.N=N) (hF:bY F) (hK:∀g' σ' a' w',k σ'=some res→Rel P base w0 S0 N D sv g' σ' a' w'→Q .normal a' w'):∀(l:List Oper) (i:Nat) {g:Gh} {σ:St} {a:Act} {w:World},ops.toList.drop i=l→Rel P base w0 S0 N D sv g σ a w→
 dA H c false (ops.toList.map (·.dst)) l σ k=some res→wpOpsIn F n P ops Q (List.range' i l.length) a w
 | [],i,g,σ,a,w,_,h,hs=>hK g σ a w hs h
 |o::l,i,g,σ,a,w,hd,h,hs=>by
  have ho:ops[i]? =some o:=by
   have:(ops.toList.drop i)[0]? =some o:=by rw[hd];rfl
   simpa using this
  have hd':ops.toList.drop (i+1)=l:=by
   have:(ops.toList.drop i).drop 1=l:=by rw[hd];rfl
   rwa[List.drop_drop] at this
  rw[List.length_cons,List.range'_succ];simp only[wpOpsIn,ho];rw[mU] at hs;exact oB hH h C hN hF (fun g' σ' a' w' hk h'=>zP hH C hN hF hK l (i+1) hd' h' hk) hs
theorem Il {H:Hnd R} (hH:l_ P H) (C:aF P c) (hN:c.N=N) (hF:bY F) (hK:∀g' σ' a' w',k σ'=some res→Rel P base w0 S0 N D sv g' σ' a' w'→Q .normal a' w') {id:Nat} (h:Rel P base w0 S0 N D sv g σ a w)
 (hs:dA H c false (ops.toList.map (·.dst)) ops.toList σ k=some res):(Code.region id ops false).wpIn F n P Q a w:=by
 refine wpIn_region ?_;have:=zP (n:=n) hH C hN hF hK ops.toList 0 (by simp) h hs;rw[List.range_eq_range'];simpa using this
end
section
variable {P:Program} [aE P] {F:Fence} {n:Nat} {c:Cfg} {g g':Gh} {r:cv} {m:Mem} {a:Act} {w w':World} {o:Oper} {R:Type} {k:St→Option R} {res:R} {xs:List Operand}
variable {base:Nat} {w0:World} {S0:Nat→Prop} {N:Nat} {D:Wt} {sv:Nat→Value} {σ:St} {ops:Array Oper} {Q:Exit→Act→World→Prop} {ds:List (Option Nat)}
theorem pO {x:Oper} {i:Nat}:∀{l:List (Oper×Nat)},wZ c ds i x l=true→∀y∈l,mI c ds x y.1=true→Nat.testBit y.2 i=true
 | [],_,y,hy,_=>by simp at hy
 |z::l,h,y,hy,hc=>by
  unfold wZ at h;split at h
  ·split at h
   ·rename_i hb
    rcases List.mem_cons.1 hy with rfl|hy
    ·exact hb
    ·exact pO h y hy hc
   ·simp at h
  ·rename_i hcl
   rcases List.mem_cons.1 hy with rfl|hy
   ·rw[hc] at hcl;cases hcl
   ·exact pO h y hy hc
theorem yw:∀{l:List (Oper×Nat)} {i:Nat},GB c ds i l=true→∀{p q:Nat} {x y:Oper×Nat},p<q→l[p]? =some x→l[q]? =some y→mI c ds x.1 y.1=true→Nat.testBit y.2 (i+p)=true
 | [],i,_,p,q,x,y,_,hx,_,_=>by simp at hx
 |z::l,i,h,p,q,x,y,hpq,hx,hy,hc=>by
  unfold GB at h;split at h
  ·rename_i hf
   cases q with
   |zero=>omega
   |succ q=>
    simp at hy;cases p with
    |zero=>
     simp at hx;subst hx;exact pO hf y (List.mem_of_getElem? hy) hc
    |succ p=>
     simp at hx;have:=yw h (by omega:p<q) hx hy hc;rw[show i+(p+1)=i+1+p from by omega];exact this
  ·simp at h
theorem mb:∀{l:List Oper} {i:Nat},gO i l=true→∀{p:Nat} {o:Oper},l[p]? =some o→∀e∈o.after,eh e=true→e.on<i+p
 | [],i,_,p,o,ho,_,_,_=>by simp at ho
 |z::l,i,h,p,o,ho,e,he,hb=>by
  unfold gO at h;split at h
  ·rename_i hz
   cases p with
   |zero=>
    simp at ho;subst ho;have:=(List.all_eq_true.1 hz) e (by simpa using he);rw[hb] at this;exact Nat.le_of_ble_eq_true this
   |succ p=>
    have:=mb h (p:=p) (by simpa using ho) e he hb;omega
  ·simp at h
theorem jG:∀(l:List Oper) (acc:List Nat),∃rest,jz acc l=acc++rest∧rest.length=l.length∧∀q o,l[q]? =some o→rest[q]? =some (qu (acc++rest.take q) o)
 | [],acc=>⟨[],by simp [jz],rfl,fun q o h=>by simp at h⟩
 |o::l,acc=>by
  obtain⟨rest,h1,h2,h3⟩:=jG l (acc++[qu acc o]);refine⟨qu acc o::rest,by simp only[jz,h1];simp,by simp [h2],fun q o' h=> ?_⟩;cases q with
  |zero=>simp at h;subst h;simp
  |succ q=>
   have:=h3 q o' (by simpa using h);simp only[List.getElem?_cons_succ,this,List.take_succ_cons];simp
theorem rp {acc:List Nat} {i:Nat}:∀(l:List Edge) (s:Nat),Nat.testBit (l.foldl (fun s e=>match eh e with|true=>(s|||2^e.on)|||acc.getD e.on 0|false=>s) s) i=true→
 Nat.testBit s i=true∨∃e∈l,eh e=true∧(i=e.on∨Nat.testBit (acc.getD e.on 0) i=true)
 | [],s,h=> .inl h
 |e::l,s,h=>by
  simp only[List.foldl_cons] at h;rcases rp l _ h with h1|⟨e',he',h1⟩
  ·split at h1
   ·rename_i hb
    simp only[Nat.testBit_or,Bool.or_eq_true,Nat.testBit_two_pow,decide_eq_true_eq] at h1;rcases h1 with(h1|h1) |h1
    ·exact .inl h1
    ·exact .inr ⟨e,by simp,hb, .inl h1.symm⟩
    ·exact .inr ⟨e,by simp,hb, .inr h1⟩
   ·exact .inl h1
  ·exact .inr ⟨e',by simp [he'],h1⟩
def oZ (ops:Array Oper) (L:Array Bool):Prop:=∀(p:Nat) (o:Oper),ops[p]? =some o→L.getD p false=true→∀e∈o.after,eh e=true→L.getD e.on false=true
theorem u_ {L:Array Bool} (hc:oZ ops L) (hb:gO 0 ops.toList=true):∀(j:Nat) (o:Oper) (b:Nat),ops[j]? =some o→(jz [] ops.toList)[j]? =some b→(∀e∈o.after,eh e=true→L.getD e.on false=true)→
 ∀i,Nat.testBit b i=true→L.getD i false=true:=by
 obtain⟨rest,h1,h2,h3⟩:=jG ops.toList [];simp only[List.nil_append] at h1 h3;intro j;induction j using Nat.strongRecOn with
 |_ j ih=>
  intro o b ho hbj he i hi;rw[h1] at hbj ih;have:=h3 j o (by simpa using ho);rw[hbj] at this;cases this;unfold qu at hi;rcases rp _ _ hi with h0|⟨e,hea,heb,h4⟩
  ·simp at h0
  ·have hea:e∈o.after:=by simpa using hea
   rcases h4 with rfl|h4
   ·exact he e hea heb
   ·have hlt:=mb hb (p:=j) (by simpa using ho) e hea heb
    simp only[Nat.zero_add] at hlt;have hjs:j<ops.size:=(Array.getElem?_eq_some_iff.1 ho).1;have hlt':e.on<rest.length:=by rw[h2];simp;omega
    have hLe:=he e hea heb;obtain⟨oe,hoe⟩:∃oe,ops[e.on]? =some oe:=⟨ops[e.on],by simp⟩;rw[List.getD_eq_getElem?_getD,List.getElem?_take_of_lt hlt,List.getElem?_eq_getElem hlt'] at h4;exact ih e.on hlt oe rest[e.on] hoe (List.getElem?_eq_getElem hlt') (fun e' he' hb'=>hc e.on oe hoe hLe e' he' hb') i (by simpa using h4)
theorem tC {L:Array Bool} (ho:qz c ops.toList=true) (hc:oZ ops L) {i j:Nat} {x y:Oper} (hij:i<j) (hx:ops[i]? =some x) (hy:ops[j]? =some y) (hcl:mI c (ops.toList.map (·.dst)) x y=true)
 (he:∀e∈y.after,eh e=true→L.getD e.on false=true):L.getD i false=true:=by
 unfold qz at ho;split at ho
 ·rename_i hb
  obtain⟨rest,h1,h2,h3⟩:=jG ops.toList [];simp only[List.nil_append] at h1 h3;have hjs:j<ops.size:=(Array.getElem?_eq_some_iff.1 hy).1;have hjr:j<rest.length:=by rw[h2];simpa using hjs
  have hir:i<rest.length:=by omega
  have z:∀{q:Nat} {u:Oper} (hq:q<rest.length),ops[q]? =some u→(ops.toList.zip (jz [] ops.toList))[q]? =some (u,rest[q]):=by
   intro q u hq hu;rw[h1];rw[List.getElem?_zip_eq_some];exact⟨by simpa using hu,List.getElem?_eq_getElem hq⟩
  have hbit:=yw ho hij (z hir hx) (z hjr hy) hcl;simp only[Nat.zero_add] at hbit;exact u_ hc hb j y rest[j] hy (by rw[h1];exact List.getElem?_eq_getElem hjr) he i hbit
 ·simp at ho
def iG (d:Option Nat) (y:AV) (r:cv):cv:=
 match d with
 |none=>r
 |some d=>(d,y)::r
abbrev Tr:=List (Option Nat×AV)
def l7:Tr→cv→cv
 | [],r=>r
 |x::l,r=>l7 l (iG x.1 x.2 r)
def nJ (L:Nat→Bool):Nat→Tr→cv→cv
 |_, [],r=>r
 |i,x::l,r=>nJ L (i+1) l (if L i then iG x.1 x.2 r else r)
theorem fz {d:Option Nat} {y:AV} {t:Nat}:look t (iG d y r)=if d=some t then some y else look t r:=by
 cases d with
 |none=>simp [iG]
 |some d=>simp [iG,bt]
theorem pR {t:Nat}:∀{tr:Tr} {r r':cv},look t r=look t r'→look t (l7 tr r)=look t (l7 tr r')
 | [],_,_,h=>h
 |x::l,r,r',h=>by
  simp only[l7];refine pR ?_;simp only[fz,h]
theorem gY {L:Nat→Bool} {t:Nat}:∀{tr:Tr} {i p:Nat} {r r':cv},look t r=look t r'→(∀q x,tr[q]? =some x→x.1=some t→(q<p↔L (i+q)=true))→look t (nJ L i tr r)=look t (l7 (tr.take p) r')
 | [],i,p,r,r',h,_=>by simpa [nJ,l7] using h
 |x::l,i,p,r,r',h,hL=>by
  have h0:=hL 0 x (by simp);simp only[nJ];cases p with
  |zero=>
   have:=gY (L:=L) (t:=t) (tr:=l) (i:=i+1) (p:=0) (r:=if L i then iG x.1 x.2 r else r) (r':=r') (by
    split
    ·rename_i hl
     rw[fz];split
     ·rename_i e
      have:=(h0 e).2 (by simpa using hl);omega
     ·exact h
    ·exact h) (fun q x hq hx=>by
     have:=hL (q+1) x (by simpa using hq) hx;rw[show i+1+q=i+(q+1) from by omega,←this];omega)
   simpa [l7] using this
  |succ p=>
   simp only[List.take_succ_cons,l7];refine gY ?_ (fun q x hq hx=> ?_)
   ·by_cases e:x.1=some t
    ·have:=(h0 e).1 (by omega)
     simp only[Nat.add_zero] at this;rw[if_pos this];simp only[fz,if_pos e]
    ·rw[fz,if_neg e]
     split
     ·rw[fz,if_neg e];exact h
     ·exact h
   ·have:=hL (q+1) x (by simpa using hq) hx
    rw[show i+1+q=i+(q+1) from by omega,←this];omega
theorem rl {L L':Nat→Bool} {t:Nat}:∀{tr:Tr} {i:Nat} {r r':cv},look t r=look t r'→(∀q x,tr[q]? =some x→x.1=some t→L (i+q)=L' (i+q))→look t (nJ L i tr r)=look t (nJ L' i tr r')
 | [],i,r,r',h,_=>h
 |x::l,i,r,r',h,hL=>by
  simp only[nJ];refine rl ?_ (fun q y hq hy=>by
   have:=hL (q+1) y (by simpa using hq) hy;rwa[show i+1+q=i+(q+1) from by omega])
  by_cases e:x.1=some t
  ·have:=hL 0 x (by simp) e
   simp only[Nat.add_zero] at this;rw[this];split
   ·simp only[fz,if_pos e]
   ·exact h
  ·split<;>split<;>simp only[fz,if_neg e,h]
theorem rk {L:Nat→Bool} {t:Nat} {y:AV}:∀{tr:Tr} {i p:Nat} {r:cv},tr[p]? =some (some t,y)→L (i+p)=true→(∀q x,p<q→tr[q]? =some x→x.1=some t→L (i+q)=false)→look t (nJ L i tr r)=some y
 | [],i,p,r,h,_,_=>by simp at h
 |x::l,i,0,r,h,h0,hL=>by
  simp at h;subst h;simp only[nJ];simp only[Nat.add_zero] at h0;rw[if_pos h0,gY (p:=0) (r':=iG (some t) y r) rfl (fun q x hq hx=> ?_)]
  ·simp [l7,fz]
  ·have:=hL (q+1) x (by omega) (by simpa using hq) hx
   rw[show i+1+q=i+(q+1) from by omega,this];simp
 |x::l,i,p+1,r,h,h0,hL=>by
  simp only[nJ];refine rk (p:=p) (by simpa using h) (by rw[show i+1+p=i+(p+1) from by omega];exact h0) (fun q y hq hy he=> ?_);rw[show i+1+q=i+(q+1) from by omega];exact hL (q+1) y (by omega) (by simpa using hy) he
def Cg (c:Cfg) (ds:List (Option Nat)) (o:Oper) (r:cv) (m:Mem) (y:AV):Prop:=
 (o.guard=none∧jJ c r m o some=some y)∨
 (∃j want d,o.guard=some (j,want)∧ds[j]? =some (some d)∧
  ((∃b,jy d r=some (.one (.bool b))∧d<c.N∧((b=want∧jJ c r m o some=some y)∨(b≠want∧y= .undef)))∨(jy d r=some .undef∧y= .undef)))
theorem qG {dst:Option Nat} {x:AV} {σ:St} {kk:St→Option R} (h:σ.put c dst x kk=some res):(∀d,dst=some d→d<c.N∧d<OFF)∧kk {az:=iG dst x σ.az,mem:=σ.mem,nx:=σ.nx}=some res:=by
 cases dst with
 |none=>exact⟨fun d h=>(by cases h),h⟩
 |some d=>obtain⟨h1,h0,h2⟩:=tY h;exact⟨fun d' h=>(by cases h;exact⟨h1,h0⟩),h2⟩
theorem Cn {H:Hnd R} {σ:St} {kk:St→Option R} (hq:isQ c o.op=true) (h:ig H c true o σ kk=some res):∃y,jJ c σ.az σ.mem o some=some y∧(∀d,o.dst=some d→d<c.N∧d<OFF)∧kk {az:=iG o.dst y σ.az,mem:=σ.mem,nx:=σ.nx}=some res:=by
 simp only[ig,hq] at h;obtain⟨y,h1,h2⟩:=FR h;exact⟨y,h1,qG h2⟩
theorem CR {H:Hnd R} {l:List Oper} (hq:isQ c o.op=true) (h:dA H c true ds (o::l) σ k=some res):∃(r:cv) (y:AV),(∀t,look t r=look t σ.az)∧Cg c ds o r σ.mem y∧(∀d,o.dst=some d→d<c.N∧d<OFF)∧dA H c true ds l {az:=iG o.dst y r,mem:=σ.mem,nx:=σ.nx} k=some res:=by
 rw[mU] at h;split at h
 ·rename_i hg
  obtain⟨y,h1,h2,h3⟩:=Cn hq h;exact⟨σ.az,y,fun _=>rfl, .inl ⟨hg,h1⟩,h2,h3⟩
 ·rename_i j want hg
  split at h
  ·rename_i d hd
   split at h
   ·rename_i b hb
    have again:∀{b:Bool},jy d σ.az=some (.one (.bool b))→∀t,look t ((d,AV.one (.bool b))::σ.az)=look t σ.az:=by
     intro b hb t;have hb:=(b6 hb).2;rw[bt];split
     ·rename_i e;subst e;exact hb.symm
     ·rfl
    have fin:∀{b:Bool},jy d σ.az=some (.one (.bool b))→d<c.N→(match (b==want) with
     |true=>ig H c true o {az:=(d, .one (.bool b))::σ.az,mem:=σ.mem,nx:=σ.nx} fun σ'=>dA H c true ds l σ' k
     |false=>St.put c {az:=(d, .one (.bool b))::σ.az,mem:=σ.mem,nx:=σ.nx} o.dst .undef fun σ'=>dA H c true ds l σ' k)=some res→∃(r:cv) (y:AV),(∀t,look t r=look t σ.az)∧Cg c ds o r σ.mem y∧(∀d,o.dst=some d→d<c.N∧d<OFF)∧dA H c true ds l {az:=iG o.dst y r,mem:=σ.mem,nx:=σ.nx} k=some res:=by
     intro b hb hlt h;split at h
     ·rename_i e
      obtain⟨y,h1,h2,h3⟩:=Cn hq h;exact⟨_,y,again hb, .inr ⟨j,want,d,hg,hd, .inl ⟨b,by rw[uX (again hb _)];exact hb,hlt, .inl ⟨by simpa using e,h1⟩⟩⟩,h2,h3⟩
     ·rename_i e
      obtain⟨h2,h3⟩:=qG h;exact⟨_, .undef,again hb, .inr ⟨j,want,d,hg,hd, .inl ⟨b,by rw[uX (again hb _)];exact hb,hlt, .inr ⟨by simpa using e,rfl⟩⟩⟩,h2,h3⟩
    rcases bo h with⟨rfl,h1⟩ |⟨rfl,h1⟩
    ·obtain⟨hlt, -,h2⟩:=tY h1
     refine fin hb hlt ?_;cases want<;>exact h2
    ·obtain⟨hlt, -,h2⟩:=tY h1
     refine fin hb hlt ?_;cases want<;>exact h2
   ·rename_i hu
    obtain⟨h2,h3⟩:=qG h;exact⟨_, .undef,fun _=>rfl, .inr ⟨j,want,d,hg,hd, .inr ⟨hu,rfl⟩⟩,h2,h3⟩
   ·simp at h
  ·simp at h
structure Seg (H:Hnd R) (c:Cfg) (ds:List (Option Nat)) (k:St→Option R) (res:R) (σ:St) (l:List Oper) (tr:Tr) (σe:St):Prop where
 le:tr.length≤l.length
 rest:dA H c true ds (l.drop tr.length) σe k=some res
 head:∀o,l[tr.length]? =some o→isQ c o.op=false
 mem:σe.mem=σ.mem
 nx:σe.nx=σ.nx
 az:∀t,look t σe.az=look t (l7 tr σ.az)
 step:∀p o x,l[p]? =some o→tr[p]? =some x→isQ c o.op=true∧x.1=o.dst∧(∀d,o.dst=some d→d<c.N∧d<OFF)∧∃r,(∀t,look t r=look t (l7 (tr.take p) σ.az))∧Cg c ds o r σ.mem x.2
theorem IP {H:Hnd R}:∀(l:List Oper) (σ:St),dA H c true ds l σ k=some res→∃tr σe,Seg H c ds k res σ l tr σe
 | [],σ,h=>⟨[],σ,by simp,by simpa using h,fun o h=>by simp at h,rfl,rfl,fun _=>rfl,fun p o x h=>by simp at h⟩
 |o::l,σ,h=>by
  cases hq:isQ c o.op with
  |false=>exact⟨[],σ,by simp,by simpa using h,fun o' h=>by simp at h;subst h;exact hq,rfl,rfl,fun _=>rfl,fun p o' x _ h=>by simp at h⟩
  |true=>
   obtain⟨r,y,hr,hs,hd,h1⟩:=CR hq h;obtain⟨tr,σe,S⟩:=IP l _ h1;have hpr:∀t,look t (iG o.dst y r)=look t (iG o.dst y σ.az):=fun t=>by simp only[fz,hr]
   refine⟨(o.dst,y)::tr,σe,by have:=S.le;simp;omega,by simpa using S.rest,fun o' h=>S.head o' (by simpa using h),S.mem,S.nx,fun t=>(S.az t).trans (pR (hpr t)),fun p o' x hp hx=> ?_⟩;cases p with
   |zero=>
    simp at hp hx;subst hp;subst hx;exact⟨hq,rfl,hd,r,by simpa [l7] using hr,hs⟩
   |succ p=>
    obtain⟨h1,h2,h3,r',h4,h5⟩:=S.step p o' x (by simpa using hp) (by simpa using hx);exact⟨h1,h2,h3,r',fun t=>by rw[h4];simpa [l7] using pR (hpr t),h5⟩
end
section
variable {P:Program} [aE P] {F:Fence} {n:Nat} {c:Cfg} {g g':Gh} {r:cv} {m:Mem} {a:Act} {w w':World} {o:Oper} {R:Type} {k:St→Option R} {res:R} {xs:List Operand}
variable {base:Nat} {w0:World} {S0:Nat→Prop} {N:Nat} {D:Wt} {sv:Nat→Value} {σ:St} {ops:Array Oper} {Q:Exit→Act→World→Prop}
theorem xU {t:Nat} (h:t∈fh o) (ds:List (Option Nat)):t∈gq ds o:=by
 unfold gq;split
 ·exact h
 ·split
  ·exact List.mem_cons_of_mem _ h
  ·exact h
theorem vA {ds:List (Option Nat)} {j d:Nat} {want:Bool} (hg:o.guard=some (j,want)) (hd:ds[j]? =some (some d)):d∈gq ds o:=by
 unfold gq;rw[hg];simp [hd]
theorem kY {n:Nat}:∀{l:List Nat},tx n l=true↔n∈l
 | [] =>by simp [tx]
 |m::l=>by
  unfold tx;split
  ·rename_i h;have:=Nat.eq_of_beq_eq_true h;subst this;simp
  ·rename_i h
   have h:m≠n:=fun e=>by subst e;simp at h
   rw[kY];simp [Ne.symm h]
theorem LS {ds:List (Option Nat)} {x y:Oper} {t:Nat} (hx:x.dst=some t) (hy:t∈gq ds y):mI c ds x y=true:=by
 unfold mI;split
 ·simp [vl,hx,kY.2 hy]
 ·rfl
theorem ME {ds:List (Option Nat)} {x y:Oper} {t:Nat} (hy:y.dst=some t) (hx:t∈gq ds x):mI c ds x y=true:=by
 unfold mI;split
 ·simp [vl,hy,kY.2 hx]
 ·rfl
theorem NP {ds:List (Option Nat)} {x y:Oper} {t:Nat} (hx:x.dst=some t) (hy:y.dst=some t):mI c ds x y=true:=by
 unfold mI;split
 ·simp [vY,hx,hy]
 ·rfl
theorem Gw {ds:List (Option Nat)} {x y:Oper} (h:isQ c x.op=false∨isQ c y.op=false):mI c ds x y=true:=by
 unfold mI;split
 ·rename_i h1 h2
  rcases h with h|h
  ·rw[h1] at h;cases h
  ·rw[h2] at h;cases h
 ·rfl
structure Inv (P:Program) [aE P] (H:Hnd R) (sv:Nat→Value) (base:Nat) (w0:World) (S0:Nat→Prop) (N:Nat) (D:Wt) (c:Cfg) (ops:Array Oper) (k:St→Option R) (res:R) (s:Nat) (σ:St) (tr:Tr) (σe:St) (L:Array Bool) (g:Gh) (a:Act) (w:World):Prop where
 size:L.size=ops.size
 closed:oZ ops L
 sz:s≤ops.size
 low:∀p,p<s→L.getD p false=true
 high:∀p,L.getD p false=true→p<s+tr.length
 rel:Rel P base w0 S0 N D sv g {az:=nJ (fun i=>L.getD i false) s tr σ.az,mem:=σ.mem,nx:=σ.nx} a w
 seg:Seg H c (ops.toList.map (·.dst)) k res σ (ops.toList.drop s) tr σe
theorem JY {l:List Oper} {i:Nat} (h:l[i]? =some o):l.drop i=o::l.drop (i+1):=by
 have hi:=(List.getElem?_eq_some_iff.1 h).1;rw[List.drop_eq_getElem_cons hi];congr 1;exact(List.getElem?_eq_some_iff.1 h).2
theorem Inv.done {H:Hnd R} {s:Nat} {tr:Tr} {σe:St} {L:Array Bool} (I:Inv P H sv base w0 S0 N D c ops k res s σ tr σe L g a w) (hall:∀p,p<ops.size→L.getD p false=true):k σe=some res∧Rel P base w0 S0 N D sv g σe a w:=by
 have he:s+tr.length=ops.size:=by
  have h1:=I.seg.le;simp at h1;rcases Nat.lt_or_ge (s+tr.length) ops.size with h|h
  ·have:=I.high _ (hall _ h);omega
  ·have:=I.sz;omega
 refine⟨?_, ?_⟩
 ·have:=I.seg.rest
  rw[List.drop_drop,he,List.drop_eq_nil_of_le (by simp)] at this;exact this
 ·have hrel:=I.rel
  refine{hrel with az:=fun t x hx=>hrel.az t x ?_,mem:=by rw[I.seg.mem];exact hrel.mem,inj:=by rw[I.seg.mem];exact hrel.inj,own:=by rw[I.seg.mem];exact hrel.own,lp:=by rw[I.seg.mem];exact hrel.lp,nx:=by rw[I.seg.nx];exact hrel.nx};rw[I.seg.az] at hx;rw[gY (p:=tr.length) (r':=σ.az) rfl (fun q x hq _=> ?_),List.take_length]
  ·exact hx
  ·have hq:=(List.getElem?_eq_some_iff.1 hq).1
   exact⟨fun _=>hall _ (by omega),fun _=>hq⟩
theorem rH {L:Array Bool} (hs:L.size=ops.size) (hb:gO 0 ops.toList=true) (hr:Region.ready .any ops L= []):∀p,p<ops.size→L.getD p false=true:=by
 intro p;induction p using Nat.strongRecOn with
 |_ p ih=>
  intro hp;cases hL:L.getD p false with
  |true=>rfl
  |false=>
   have hmem:p∈Region.ready .any ops L:=by
    rw[mem_ready];refine⟨?_,ops[p],by simp,fun e he hbe=> ?_⟩
    ·have:p<L.size:=by omega
     simp [this] at hL⊢;exact hL
    ·have hlt:=mb hb (p:=p) (o:=ops[p]) (by simp) e he (by
      have:Region.binds .any e=eh e:=by unfold Region.binds eh;cases e.ground<;>rfl
      rw[←this];exact hbe)
     exact ih e.on (by omega) (by omega)
   rw[hr] at hmem;cases hmem
theorem u0 {L:Array Bool} {i:Nat} (hi:i<L.size) (h:L.getD i false=false):(L.setIfInBounds i true).toList.count false+1=L.toList.count false:=by
 have hL:L[i]=false:=by simpa [hi] using h
 simp only[Array.toList_setIfInBounds];rw[List.count_eq_countP,List.count_eq_countP,List.countP_set (by simpa using hi)];simp [hL];have:0<List.countP (fun x=>x==false) L.toList:=by
  rw[List.countP_pos_iff];exact⟨L[i],by simp,by simp [hL]⟩
 have e:List.countP (fun x=>x==false) L.toList=Array.countP (fun x=> !x) L:=by
  rw[←Array.countP_toList];congr 1;funext x;cases x<;>rfl
 rw[e] at this;omega
theorem rD {L:Array Bool} (h:L.toList.count false=0):∀p,p<L.size→L.getD p false=true:=by
 intro p hp;cases hL:L.getD p false with
 |true=>rfl
 |false=>
  have h1:L[p]=false:=by simpa [hp] using hL
  rw[List.count_eq_zero] at h;exact(h (by rw[←h1];simp)).elim
theorem oZ.set {L:Array Bool} (h:oZ ops L) {j:Nat} (hj:ops[j]? =some o) (he:∀e∈o.after,eh e=true→L.getD e.on false=true):oZ ops (L.setIfInBounds j true):=by
 intro p o' ho' hp e hea hb;refine getD_set_true ?_;by_cases e':j=p
 ·subst e'
  rw[hj] at ho';cases ho';exact he e hea hb
 ·rw[getD_set_ne false e'] at hp
  exact h p o' ho' hp e hea hb
theorem Am (e:Edge):Region.binds .any e=eh e:=by unfold Region.binds eh;cases e.ground<;>rfl
theorem oJ {L:Array Bool} {j:Nat} (h:L.getD j true=false):j<L.size∧L.getD j false=false:=by
 rcases Nat.lt_or_ge j L.size with h'|h'
 ·simp [h'] at h⊢;exact h
 ·simp [Array.getElem?_eq_none h'] at h
theorem Q9 {H:Hnd R} (hH:l_ P H) (C:aF P c) (hN:c.N=N) (hF:bY F) (ho:qz c ops.toList=true) (hK:∀g' σ' a' w',k σ'=some res→Rel P base w0 S0 N D sv g' σ' a' w'→Q .normal a' w'):
 ∀(fuel:Nat) {s:Nat} {σ:St} {tr:Tr} {σe:St} {L:Array Bool} {g:Gh} {a:Act} {w:World},Inv P H sv base w0 S0 N D c ops k res s σ tr σe L g a w→L.toList.count false≤fuel→wpAnyIn F n P .any ops Q fuel L a w:=by
 have hb:gO 0 ops.toList=true:=by
  unfold qz at ho;split at ho
  ·assumption
  ·simp at ho
 intro fuel;induction fuel with
 |zero=>
  intro s σ tr σe L g a w I hf;have hall:=rD (by omega:L.toList.count false=0);refine⟨?_, ?_⟩
  ·cases hr:Region.ready .any ops L with
   |nil=>rfl
   |cons j _=>
    have hj:j∈Region.ready .any ops L:=by rw[hr];simp
    obtain⟨h1,h2⟩:=oJ (mem_ready.1 hj).1;rw[hall j h1] at h2;cases h2
  ·obtain⟨h1,h2⟩:=I.done (fun p hp=>hall p (by rw[I.size];exact hp))
   exact hK _ _ _ _ h1 h2
 |succ fuel ih=>
  intro s σ tr σe L g a w I hf;refine⟨fun hr=> ?_,fun j hj=> ?_⟩
  ·obtain⟨h1,h2⟩:=I.done (rH I.size hb hr)
   exact hK _ _ _ _ h1 h2
  ·obtain⟨hun,oj,hoj,hall⟩:=mem_ready.1 hj
   obtain⟨hjL,hun⟩:=oJ hun;have hedge:∀e∈oj.after,eh e=true→L.getD e.on false=true:=fun e he hbe=>hall e he (by rw[Am];exact hbe)
   have hcnt:=u0 hjL hun;have hclosed':=I.closed.set hoj hedge;have before:∀{i:Nat} {x:Oper},i<j→ops[i]? =some x→mI c (ops.toList.map (·.dst)) x oj=true→L.getD i false=true:=fun hij hx hcl=>tC ho I.closed hij hx hoj hcl hedge
   have behind:∀{i:Nat} {y:Oper},j<i→ops[i]? =some y→mI c (ops.toList.map (·.dst)) oj y=true→L.getD i false=false:=by
    intro i y hji hy hcl;cases hLi:L.getD i false with
    |false=>rfl
    |true=>
     have:=tC ho I.closed hji hoj hy hcl (fun e he hbe=>I.closed i y hy hLi e he hbe);rw[hun] at this;cases this
   have hjs:s≤j:=by
    rcases Nat.lt_or_ge j s with h|h
    ·have:=I.low j h;rw[hun] at this;cases this
    ·exact h
   have hjsz:j<ops.size:=by rw[←I.size];exact hjL
   have htl:s+tr.length≤ops.size:=by have:=I.seg.le;simp at this;have:=I.sz;omega
   have seg_get:∀{q:Nat} {u:Oper},ops[s+q]? =some u→(ops.toList.drop s)[q]? =some u:=fun h=>by simpa using h
   have hLs:∀{i:Nat},i≠j→(L.setIfInBounds j true).getD i false=L.getD i false:=fun h=>getD_set_ne false (Ne.symm h)
   have hLj:(L.setIfInBounds j true).getD j false=true:=by simp [hjL]
   by_cases hjt:j<s+tr.length
   ·
    obtain⟨p,rfl⟩:∃p,j=s+p:=⟨j - s,by omega⟩;have hp:p<tr.length:=by omega
    obtain⟨hq,hxd,hdN,r,hr,hst⟩:=I.seg.step p oj tr[p] (seg_get hoj) (by simp [hp]);have tr_dst:∀{q:Nat} {x:Option Nat×AV},tr[q]? =some x→∃u,ops[s+q]? =some u∧x.1=u.dst:=by
     intro q x hx;have hlt:=(List.getElem?_eq_some_iff.1 hx).1;have h1:ops[s+q]? =some ops[s+q]:=by simp
     exact⟨_,h1,(I.seg.step q _ x (seg_get h1) hx).2.1⟩
    have agree:∀t,t∈gq (ops.toList.map (·.dst)) oj→look t (nJ (fun i=>L.getD i false) s tr σ.az)=look t r:=by
     intro t ht;rw[hr,gY (p:=p) (r':=σ.az) rfl];intro q x hx hxt;obtain⟨u,hu,hxu⟩:=tr_dst hx;rw[hxu] at hxt;constructor
     ·intro hqp
      exact before (by omega) hu (LS hxt ht)
     ·intro hLq
      rcases Nat.lt_or_ge q p with h|h
      ·exact h
      ·exfalso
       rcases Nat.lt_or_ge p q with h'|h'
       ·rw[behind (by omega:s+p<s+q) hu (ME hxt ht)] at hLq;cases hLq
       ·have:q=p:=by omega
        subst this;rw[hun] at hLq;cases hLq
    have upd:∀{g1:Gh} {w1:World} {v:Value},Rel P base w0 S0 N D sv g1 {az:=nJ (fun i=>L.getD i false) s tr σ.az,mem:=σ.mem,nx:=σ.nx} a w1→AVR g1 w1 tr[p].2 v→wpAnyIn F n P .any ops Q fuel (L.setIfInBounds (s+p) true) (a.put oj.dst v) w1:=by
     intro g1 w1 v hrel hv;refine ih (s:=s) (σ:=σ) (tr:=tr) (σe:=σe) (g:=g1) ⟨by simp [I.size],hclosed',I.sz,fun q hq=>getD_set_true (I.low q hq),fun q hq=> ?_, ?_,I.seg⟩ (by omega)
     ·by_cases e:q=s+p
      ·omega
      ·rw[hLs e] at hq;exact I.high q hq
     ·refine{hrel with az:=fun t x hx=> ?_,size:= ?_,dfr:= ?_ }
      ·by_cases e:oj.dst=some t
       ·rw[rk (p:=p) (y:=tr[p].2) (by rw[List.getElem?_eq_getElem hp,←e,←hxd]) hLj (fun q x' hpq hx' hxt=> ?_)] at hx
        ·cases hx
         rw[e,sS (hdN t e).2 (by rw[hrel.size,←hN];exact(hdN t e).1),if_pos rfl];exact hv
        ·obtain⟨u,hu,hxu⟩:=tr_dst hx'
         rw[hxu] at hxt;rw[hLs (by omega)];exact behind (by omega) hu (NP e hxt)
       ·have notp:∀{q:Nat} {x':Option Nat×AV},tr[q]? =some x'→x'.1=some t→¬s+q=s+p:=by
         intro q x' hx' hxt e';have e9:q=p:=by omega
         rw[e9,List.getElem?_eq_getElem hp] at hx';have e8:tr[p]=x':=Option.some.inj hx';exact e (by rw[←hxd,e8];exact hxt)
        rw[rl (L':=fun i=>L.getD i false) (r':=σ.az) rfl (fun q x' hx' hxt=>hLs (fun e'=>notp hx' hxt e'))] at hx
        ·cases hd:oj.dst with
         |none=>exact hrel.az t x hx
         |some d=>
          rw[sS (hdN d hd).2 (by rw[hrel.size,←hN];exact(hdN d hd).1),if_neg (fun e'=>e (by rw[hd,e']))];exact hrel.az t x hx
      ·have:=hrel.size
       cases hd:oj.dst<;>simpa [Act.put] using this
      ·have:=hrel.dfr
       cases hd:oj.dst<;>simpa [Act.put] using this
    have run:jJ c r σ.mem oj some=some tr[p].2→oj.wpIn F n P a w (wpAnyIn F n P .any ops Q fuel (L.setIfInBounds (s+p) true)) Q:=by
     intro he;have E:Env P c g r σ.mem oj.op.operands.toList a w:={ev:=I7 (fun t ht x hx=>I.rel.az t x (by rw[agree t (xU ht _)];exact hx)) I.rel.glo C.glb,glo:=I.rel.glo,mem:=I.rel.mem,ts:=C.ts,sp:=C.sp,S:=I.rel.S,blk:=I.rel.blk,eqs:=C.eqs};obtain⟨y,hy,hqr⟩:=yp (n:=n) E hF (fun _ h=>h) he;cases hy;exact hqr _ _ fun v w' hbw hv=>upd (I.rel.grow hbw) hv
    have skip:tr[p].2= .undef→wpAnyIn F n P .any ops Q fuel (L.setIfInBounds (s+p) true) (a.put oj.dst undef) w:=fun he=>upd I.rel (by rw[he];rfl)
    unfold wpOpIn;simp only[hoj];rcases hst with⟨hg,he⟩ |⟨i,want,d,hg,hd,hst⟩
    ·rw[if_pos (by simp [Region.wanted,hg])]
     exact run he
    ·have hag:=agree d (vA hg hd)
     rcases hst with⟨b,hb',hdN',hst⟩ |⟨hu,he⟩
     ·have hbv:a.tmps.getD d undef= .bool b:=by
       have:=I.rel.az d _ (by rw[hag];exact(b6 hb').2);rw[hJ (b6 hb').1] at this;generalize a.tmps.getD d undef=u at this;cases this;rfl
      have hwant:Region.wanted oj (yielded ops a.tmps)=(b==want):=by
       simp only[Region.wanted,hg,jT hd (by rw[I.rel.size,←hN];exact hdN'),hbv];cases b<;>cases want<;>rfl
      rcases hst with⟨rfl,he⟩ |⟨hne,he⟩
      ·rw[if_pos (by rw[hwant];simp)]
       exact run he
      ·rw[if_neg (by rw[hwant];simpa using hne)]
       exact⟨lY hF,skip he⟩
     ·have huv:a.tmps.getD d undef=undef:=by
       have:=I.rel.az d .undef (by rw[hag];exact(b6 hu).2);rw[hJ (b6 hu).1] at this;exact this
      have hy:yielded ops a.tmps i=none:=by
       by_cases hlt:d<a.tmps.size
       ·rw[jT hd hlt,huv];rfl
       ·have h1:(ops[i]?).bind (·.dst)=some d:=by
         simp only[List.getElem?_map,Array.getElem?_toList] at hd;cases h:ops[i]? with
         |none=>rw[h] at hd;simp at hd
         |some o=>rw[h] at hd;simp at hd;simpa using hd
        unfold yielded;rw[h1];simp [hlt]
      rw[if_neg (by simp [Region.wanted,hg,hy])];exact⟨lY hF,skip he⟩
   ·
    have hje:j=s+tr.length:=by
     rcases Nat.lt_or_ge (s+tr.length) j with h|h
     ·exfalso
      have hoe:ops[s+tr.length]? =some ops[s+tr.length]:=by simp
      have:=before h hoe (Gw (.inl (I.seg.head _ (seg_get hoe))));have:=I.high _ this;omega
     ·omega
    have hnq:isQ c oj.op=false:=I.seg.head oj (seg_get (by rw[←hje];exact hoj));have hallL:∀p,p<j→L.getD p false=true:=fun p hp=>before hp (x:=ops[p]) (by simp) (Gw (.inr hnq))
    have hrel:Rel P base w0 S0 N D sv g σe a w:=by
     have hrel:=I.rel;refine{hrel with az:=fun t x hx=>hrel.az t x ?_,mem:=by rw[I.seg.mem];exact hrel.mem,inj:=by rw[I.seg.mem];exact hrel.inj,own:=by rw[I.seg.mem];exact hrel.own,lp:=by rw[I.seg.mem];exact hrel.lp,nx:=by rw[I.seg.nx];exact hrel.nx};rw[I.seg.az] at hx;rw[gY (p:=tr.length) (r':=σ.az) rfl (fun q x hq _=> ?_),List.take_length]
     ·exact hx
     ·have hq:=(List.getElem?_eq_some_iff.1 hq).1
      exact⟨fun _=>hallL _ (by omega),fun _=>hq⟩
    have hrest:=I.seg.rest;rw[List.drop_drop,←hje,JY (by simpa using hoj),mU] at hrest;unfold wpOpIn;simp only[hoj];refine oB hH hrel C hN hF (fun g1 σ1 a1 w1 hk h1=> ?_) hrest;obtain⟨tr1,σe1,S1⟩:=IP _ _ hk;refine ih (s:=j+1) (σ:=σ1) (tr:=tr1) (σe:=σe1) (g:=g1) ⟨by simp [I.size],hclosed',by omega,fun q hq=> ?_,fun q hq=> ?_, ?_,S1⟩ (by omega)
    ·by_cases e:q=j
     ·subst e;exact hLj
     ·exact getD_set_true (hallL q (by omega))
    ·by_cases e:q=j
     ·omega
     ·rw[hLs e] at hq;have:=I.high q hq;omega
    ·refine{h1 with az:=fun t x hx=>h1.az t x ?_ }
     rw[gY (p:=0) (r':=σ1.az) rfl (fun q x' _ _=> ?_)] at hx
     ·simpa [l7] using hx
     ·simp only[Nat.not_lt_zero,false_iff]
      rw[hLs (by omega)];intro hq;have:=I.high _ hq;omega
theorem Rel.drawn (h:Rel P base w0 S0 N D sv g σ a w):Rel P base w0 S0 N D sv g σ a {w with drawn:=w.drawn+1}:=
 {az:=fun t x hx=>(h.az t x hx).mono (fun _ _=>rfl) (Gh.le.refl g),size:=h.size,dfr:=h.dfr,glo:=h.glo.mono (fun _ _=>rfl) (fun _ h=>h),lp:=h.lp,mem:=fun i x hx=>(by
  obtain⟨b,hm,hr⟩:=h.mem i x hx;exact⟨b,hm,hr.mono (fun _ _=>rfl) (fun _ _=>rfl) (Gh.le.refl g)⟩),inj:=h.inj,own:=h.own,S:=h.S,blk:=h.blk,nx:=h.nx,bel:=h.bel.trans ⟨rfl,rfl,rfl,Nat.le_refl _,fun _ _=>rfl⟩,bs:=h.bs,sub:=h.sub}
theorem yX {H:Hnd R} (hH:l_ P H) (C:aF P c) (hN:c.N=N) (hF:bY F) (hm:P.follows .mixedOrders=true) (ho:qz c ops.toList=true) (hK:∀g' σ' a' w',k σ'=some res→Rel P base w0 S0 N D sv g' σ' a' w'→Q .normal a' w') {id:Nat} (h:Rel P base w0 S0 N D sv g σ a w)
 (hs:dA H c true (ops.toList.map (·.dst)) ops.toList σ k=some res):(Code.region id ops true).wpIn F n P Q a w:=by
 obtain⟨tr,σe,S⟩:=IP _ _ hs;refine wpIn_region_any hm (Q9 hH C hN hF ho hK ops.size (s:=0) (σ:=σ) (tr:=tr) (σe:=σe) (g:=g) ⟨by simp,fun p o _ hp=> ?_,Nat.zero_le _,fun p hp=>by omega,fun p hp=> ?_, ?_,by simpa using S⟩ (by simp [List.count_replicate]))
 ·exfalso
  by_cases h:p<ops.size<;>simp [h] at hp
 ·exfalso
  by_cases h:p<ops.size<;>simp [h] at hp
 ·have h1:=h.drawn
  refine{h1 with az:=fun t x hx=>h1.az t x ?_ };rw[gY (p:=0) (r':=σ.az) rfl (fun q x' _ _=> ?_)] at hx
  ·simpa [l7] using hx
  ·simp only[Nat.not_lt_zero,false_iff]
   by_cases h:q<ops.size<;>simp [h]
end
section
variable {P:Program} [aE P] {F:Fence} {n:Nat} {c:Cfg} {g g':Gh} {r:cv} {m:Mem} {a:Act} {w w':World} {o:Oper} {R:Type} {k:St→Option R} {res:R} {xs:List Operand}
variable {base:Nat} {w0:World} {S0:Nat→Prop} {N:Nat} {D:Wt} {sv:Nat→Value} {σ:St} {ops:Array Oper} {Q:Exit→Act→World→Prop} {ids:List Nat}
def Gh.only (g:Gh) (ids:List Nat):Gh:={S:=g.S,m:=fun i=>if i∈ids then g.m i else none}
theorem Gh.jF {id:Nat} {b:Gb} (h:id∈ids) (hm:g.m id=some b):(g.only ids).m id=some b:=by
 show(if id∈ids then g.m id else none)=some b;rw[if_pos h];exact hm
theorem Gh.lV {id:Nat} {b:Gb} (h:(g.only ids).m id=some b):id∈ids∧g.m id=some b:=by
 change (if id∈ids then g.m id else none)=some b at h;split at h
 ·exact⟨‹_›,h⟩
 ·cases h
theorem VA.only {x:At} {v:Value} (h:VA g w x v) (hi:∀i∈eV x,i∈ids):VA (g.only ids) w x v:=by
 have pur:∀{x:At} {v:Value},VA g w x v→mW x=true→VA (g.only ids) w x v:=fun h hp=>h.pure hp (fun _ h=>h)
 cases x
 case int κ q=>exact pur h rfl
 case bool b=>exact pur h rfl
 case str s=>exact pur h rfl
 case sl τ l=>exact pur h rfl
 case fnc f=>exact pur h rfl
 case clip τ l=>
  cases h with
  |clip _ _ ad len bk of f hl ha hcell hf=>exact .clip τ l ad len bk of f hl ha hcell (fun i x j y hx hy=>pur (hf i x j y hx hy) (cZ _ _ _ _ hy))
 case gC τ x j=>
  cases h with
  |gC _ _ _ bk of f ha hcell hf=>exact .gC τ x j bk of f ha hcell (fun i y hy=>pur (hf i y hy) (cZ _ _ _ _ hy))
 case own i=>
  cases h with
  |own _ b ad hm hk h0=>exact .own i b ad (Gh.jF (hi i (by simp [eV])) hm) hk h0
 case sub i off len=>
  cases h with
  |sub _ _ _ b ad cc hm hl hc hk=>exact .sub i off len b ad cc (Gh.jF (hi i (by simp [eV])) hm) hl hc hk
 case ptr i off=>
  cases h with
  |ptr _ _ b kk hm hk=>exact .ptr i off b kk (Gh.jF (hi i (by simp [eV])) hm) hk
 case ft i p q=>
  cases h with
  |ft _ _ _ b kk hm hk=>exact .ft i p q b kk (Gh.jF (hi i (by simp [eV])) hm) hk
 case clo i=>
  cases h with
  |clo _ b f fs cs hm hv=>exact .clo i b f fs cs (Gh.jF (hi i (by simp [eV])) hm) hv
 case fT i=>
  cases h with
  |fT _ b kk hm hk=>exact .fT i b kk (Gh.jF (hi i (by simp [eV])) hm) hk
 case iter i=>
  cases h with
  |iter _ b kk hm hk=>exact .iter i b kk (Gh.jF (hi i (by simp [eV])) hm) hk
 case yld i=>
  cases h with
  |yld _ b kk hm hk=>exact .yld i b kk (Gh.jF (hi i (by simp [eV])) hm) hk
 case gl τ l=>
  cases h with
  |gl _ _ bk f ha hcell hf=>exact .gl τ l bk f ha hcell (fun i x j y hx hy=>pur (hf i x j y hx hy) (cZ _ _ _ _ hy))
 case oG=>cases h;exact .oG
 case mC=>cases h;exact .mC
 case n_=>cases h;exact .n_
 case dead=>exact .dead _ h.one
theorem ka:∀{l:List At},sA ids l=true→∀x∈l,∀i∈eV x,i∈ids
 | [],_,x,hx=>by simp at hx
 |y::l,h,x,hx=>by
  unfold sA at h;split at h
  ·rename_i hy
   rcases List.mem_cons.1 hx with rfl|hx
   ·exact fun i hi=>kY.1 ((List.all_eq_true.1 hy) i hi)
   ·exact ka h x hx
  ·simp at h
theorem bZ.Di {α β:Type} {R R':α→β→Prop} {l:List α} {m:List β} (h:bZ R l m) (hr:∀a∈l,∀b,R a b→R' a b):bZ R' l m:=by
 induction h with
 |nil=>exact .nil
 |cons h _ ih=>exact .cons (hr _ (by simp) _ h) (ih fun a ha=>hr a (by simp [ha]))
theorem V1R.only {x:V1} {v:Value} (h:V1R g w x v) (hi:JH ids x=true):V1R (g.only ids) w x v:=by
 cases x with
 |one x=>exact VA.only h (ka hi x (by simp))
 |agg l=>obtain⟨vs,rfl,h⟩:=h;exact⟨vs,rfl,h.Di fun x hx v hv=>hv.only (ka hi x hx)⟩
theorem AVR.only {x:AV} {v:Value} (h:AVR g w x v) (hi:K_ ids x=true):AVR (g.only ids) w x v:=by
 cases x with
 |v x=>exact V1R.only h hi
 |tup l=>obtain⟨vs,rfl,h⟩:=h;exact⟨vs,rfl,h.Di fun x hx v hv=>V1R.only hv ((List.all_eq_true.1 hi) x hx)⟩
 |undef=>exact h
 |dead=>trivial
theorem BR.only {b:Gb} {x:AB} (h:BR P g w b x) (hi:LH ids x=true):BR P (g.only ids) w b x:=by
 cases x with
 |cells l=>obtain⟨k,cs,e,hb,hh,ha⟩:=h;exact⟨k,cs,e,hb,hh,ha.Di fun x hx v hv=>hv.only (ka hi x hx)⟩
 |row τ l=>
  obtain⟨h1,h2,h3⟩:=h;refine⟨h1,h2, ?_⟩;rcases h3 with h3|⟨k,cs,e,hb,hh,hs,hl,ho,ha⟩
  ·exact .inl h3
  ·exact .inr ⟨k,cs,e,hb,hh,hs,hl,ho,fun i x j y hx hy=>let ⟨v,hv,ha'⟩:=ha i x j y hx hy;⟨v,hv,ha'.pure (cZ _ _ _ _ hy) (fun _ h=>h)⟩⟩
 |clo f a c=>
  obtain⟨h0,fs,cs,hb,h1,h2⟩:=h;simp only[LH] at hi;split at hi
  ·rename_i ha
   exact⟨h0,fs,cs,hb,h1.Di fun x hx v hv=>hv.only (ka ha x hx),h2.Di fun x hx v hv=>hv.only (ka hi x hx)⟩
  ·simp at hi
 |iter s p=>exact h
 |nz x n=>obtain⟨hb,ad,len,hv⟩:=h;exact⟨hb,ad,len,hv.only (ka hi x (by simp))⟩
 |loop ph n fid rid az=>
  obtain⟨k,r,hb,hh,h1,h2,h3,h4,h5⟩:=h;exact⟨k,r,hb,hh,h1,h2,h3,h4,fun t x hx=>⟨(h5 t x hx).1,(h5 t x hx).2.only ((List.all_eq_true.1 hi) _ (wB hx))⟩⟩
 |over e=>obtain⟨k,r,hb,hh,h1⟩:=h;exact⟨k,r,hb,hh,h1⟩
 |map ag κ τ l ck=>obtain⟨k,es,hb,hh,ha⟩:=h;exact⟨k,es,hb,hh,ha.mono fun x e k=>k.of fun y v hy hv=>V1R.YT (g:=g) (g':=g.only ids) (w:=w) (w':=w) (fun x v hp hv=>hv.pure hp (fun _ h=>h)) hy hv⟩
 |gone=>trivial
theorem vo {mem:List Nat}:∀{l:List Nat} {r r':cv},pT mem r l=some r'→∀t x,look t r'=some x→look t r=some x∧K_ mem x=true
 | [],r,r',h,t,x,hx=>by simp [pT] at h;subst h;simp [look] at hx
 |n::l,r,r',h,t,x,hx=>by
  simp only[pT] at h;split at h
  ·rename_i v r2 hv hr2
   split at h
   ·rename_i hi
    cases h;rw[bt] at hx;split at hx
    ·rename_i e;subst e;cases hx;exact⟨hv,hi⟩
    ·exact vo hr2 t x hx
   ·simp at h
  ·simp at h
theorem jY {mem:List Nat}:∀{l:List Nat} {r r':Mem},tw mem r l=some r'→∀t x,look t r'=some x→t∈l∧look t r=some x∧LH mem x=true
 | [],r,r',h,t,x,hx=>by simp [tw] at h;subst h;simp [look] at hx
 |n::l,r,r',h,t,x,hx=>by
  simp only[tw] at h;split at h
  ·rename_i v r2 hv hr2
   split at h
   ·rename_i hi
    cases h;rw[bt] at hx;split at hx
    ·rename_i e;subst e;cases hx;exact⟨by simp,hv,hi⟩
    ·obtain⟨h1,h2,h3⟩:=jY hr2 t x hx
     exact⟨by simp [h1],h2,h3⟩
   ·simp at h
  ·simp at h
theorem uA:∀{l:List (Nat×Nat×Ty)} {σ σ':St} {g:Gh},uz l σ=some σ'→Rel P base w0 S0 N D sv g σ a w→∃g',Rel P base w0 S0 N D sv g' σ' a w
 | [],σ,σ',g,h,hr=>by simp [uz] at h;subst h;exact⟨g,hr⟩
 |(r,id,τ)::l,σ,σ',g,h,hr=>by
  simp only[uz] at h;split at h
  ·split at h
   ·exact uA h hr
   ·simp at h
  ·rename_i τ' hlk
   split at h
   ·rename_i hle
    have hle:=Nat.le_of_ble_eq_true hle;have hv:=hr.az r _ hlk;obtain⟨b,hbd⟩:∃b:Gb,b=⟨none,0,0,τ.n,default⟩:=⟨_,rfl⟩;have h1:=hr.new (id:=id) hle (b:=b) (x:= .row τ []) (Below.refl _ _) (by rw[hbd];exact⟨rfl,rfl, .inl ⟨rfl,rfl,rfl⟩⟩) (fun q hq=>by rw[hbd] at hq;cases hq);have hmg:(g.set id b).m id=some b:=by simp [Gh.set]
    have hva:VA (g.set id b) w (.own id) (vof sv a r):=by
     generalize vof sv a r=u at hv;cases hv with
     |clip _ _ ad len bk of f hl ha hcell hf=>
      simp at hl;subst hl;have:=VA.own (g:=g.set id b) (w:=w) id b ad hmg (fun q hq=>by rw[hbd] at hq;cases hq) (fun _=>by rw[hbd];exact⟨rfl,rfl⟩);rw[hbd] at this⊢;exact this
    refine uA h (g:=g.set id b) {h1 with az:=fun t y hy=> ?_ };simp only[bt] at hy;split at hy
    ·rename_i e;subst e;cases hy;exact hva
    ·exact h1.az t y hy
   ·simp at h
  ·simp at h
theorem tL:∀{l:List (Nat×Nat×Ty)} {σ σ':St} {g:Gh},uc l σ=some σ'→Rel P base w0 S0 N D sv g σ a w→∃g',Rel P base w0 S0 N D sv g' σ' a w
 | [],σ,σ',g,h,hr=>by simp [uc] at h;subst h;exact⟨g,hr⟩
 |(r,id,τ)::l,σ,σ',g,h,hr=>by
  simp only[uc] at h;split at h
  ·split at h
   ·exact tL h hr
   ·simp at h
  ·rename_i τ' hlk
   split at h
   ·rename_i hle
    have hle:=Nat.le_of_ble_eq_true hle;have hv:=hr.az r _ hlk;obtain⟨b,hbd⟩:∃b:Gb,b=⟨none,0,0,τ.n,default⟩:=⟨_,rfl⟩;have h1:=hr.new (id:=id) hle (b:=b) (x:= .row τ []) (Below.refl _ _) (by rw[hbd];exact⟨rfl,rfl, .inl ⟨rfl,rfl,rfl⟩⟩) (fun q hq=>by rw[hbd] at hq;cases hq);have hmg:(g.set id b).m id=some b:=by simp [Gh.set]
    have hva:VA (g.set id b) w (.sub id 0 0) (vof sv a r):=by
     generalize vof sv a r=u at hv;cases hv with
     |clip _ _ ad len bk of f hl ha hcell hf=>
      simp at hl;subst hl;exact VA.sub (g:=g.set id b) (w:=w) id 0 0 b ad 0 hmg (by rw[hbd];exact Nat.le_refl _) (by rw[hbd];rfl) (fun e=>absurd rfl e)
    refine tL h (g:=g.set id b) {h1 with az:=fun t y hy=> ?_ };simp only[bt] at hy;split at hy
    ·rename_i e;subst e;cases hy;exact hva
    ·exact h1.az t y hy
   ·simp at h
  ·simp at h
theorem Rel.say (h:Rel P base w0 S0 N D sv g σ a w) {id:Nat} {x y:AB} (hx:look id σ.mem=some x) (hl:x.live=true) (hB:∀b,BR P g w b x→BR P g w b y) (hyl:y.jL=false:=by rfl):Rel P base w0 S0 N D sv g (σ.set id y) a w:=by
 have e:∀i z,look i (σ.set id y).mem=some z→(i=id∧z=y)∨look i σ.mem=some z:=fun i z hz=>by
  simp only[St.set,bt] at hz;split at hz
  ·rename_i e;cases hz;exact .inl ⟨e.symm,rfl⟩
  ·exact .inr hz
 have e2:∀i z,look i (σ.set id y).mem=some z→z.live=true→∃z',look i σ.mem=some z'∧z'.live=true:=fun i z hz hlz=>by
  rcases e i z hz with⟨rfl,_⟩ |hz'
  ·exact⟨x,hx,hl⟩
  ·exact⟨z,hz',hlz⟩
 refine{az:=h.az,size:=h.size,dfr:=h.dfr,glo:=h.glo,lp:=fun i z b h1 hl1=> ?_,mem:=fun i z hz=> ?_,inj:=fun i i' z z' b b' q h1 h2 hl1 hl2=> ?_,own:=fun i z b q h1 hl1=> ?_,S:=h.S,blk:=h.blk,nx:=h.nx,bel:=h.bel,bs:=h.bs,sub:=h.sub}
 ·intro hm1
  rcases e i z h1 with⟨rfl,rfl⟩ |h1
  ·rw[hyl] at hl1;cases hl1
  ·exact h.lp i z b h1 hl1 hm1
 ·rcases e i z hz with⟨rfl,rfl⟩ |hz'
  ·obtain⟨b,hm,hr⟩:=h.mem i x hx
   exact⟨b,hm,hB b hr⟩
  ·exact h.mem i z hz'
 ·obtain⟨z1,h3,h4⟩:=e2 i z h1 hl1
  obtain⟨z2,h5,h6⟩:=e2 i' z' h2 hl2;exact h.inj i i' z1 z2 b b' q h3 h5 h4 h6
 ·obtain⟨z1,h3,h4⟩:=e2 i z h1 hl1
  exact h.own i z1 b q h3 h4
theorem Ce:∀{l:List Nat} {σ σ':St},CF l σ=some σ'→Rel P base w0 S0 N D sv g σ a w→Rel P base w0 S0 N D sv g σ' a w
 | [],σ,σ',h,hr=>by simp [CF] at h;subst h;exact hr
 |r::l,σ,σ',h,hr=>by
  simp only[CF] at h;split at h
  ·rename_i x hx
   refine Ce h {hr with az:=fun t y hy=> ?_ };simp only[bt] at hy;split at hy
   ·rename_i e;subst e;cases hy;exact VA.hO (hr.az _ _ hx)
   ·exact hr.az t y hy
  ·simp at h
theorem Dd:∀{l:List Nat} {σ σ':St},Cx l σ=some σ'→Rel P base w0 S0 N D sv g σ a w→Rel P base w0 S0 N D sv g σ' a w
 | [],σ,σ',h,hr=>by simp [Cx] at h;subst h;exact hr
 |id::l,σ,σ',h,hr=>by
  simp only[Cx] at h;split at h
  ·rename_i cs hcs
   refine Dd h (hr.say hcs rfl fun b hb=> ?_);obtain⟨k,us,e,hk,hh,ha⟩:=hb;exact⟨k,us,e,hk,hh,ha.hO⟩
  ·simp at h
theorem uN:∀{l:List (Nat×Nat×Nat×Ty)} {σ σ':St} {g:Gh},ua l σ=some σ'→Rel P base w0 S0 N D sv g σ a w→∃g',Rel P base w0 S0 N D sv g' σ' a w
 | [],σ,σ',g,h,hr=>by simp [ua] at h;subst h;exact⟨g,hr⟩
 |(bk,j,id,τ)::l,σ,σ',g,h,hr=>by
  simp only[ua] at h;split at h
  ·rename_i cs hcs
   split at h
   ·split at h
    ·exact uN h hr
    ·simp at h
   ·rename_i τ' hj
    split at h
    ·rename_i hle
     have hle:=Nat.le_of_ble_eq_true hle;obtain⟨b,hbd⟩:∃b:Gb,b=⟨none,0,0,τ.n,default⟩:=⟨_,rfl⟩;have h1:=hr.new (id:=id) hle (b:=b) (x:= .row τ []) (Below.refl _ _) (by rw[hbd];exact⟨rfl,rfl, .inl ⟨rfl,rfl,rfl⟩⟩) (fun q hq=>by rw[hbd] at hq;cases hq);have hmg:(g.set id b).m id=some b:=by simp [Gh.set]
     have hbk:bk≠id:=by
      obtain⟨b0,hb0,_⟩:=hr.mem bk _ hcs;have:=hr.nx bk b0 hb0;omega
     have hlk:look bk ((id,AB.row τ [])::σ.mem)=some (.cells cs):=by rw[bt,if_neg (Ne.symm hbk)];exact hcs
     refine uN h (g:=g.set id b) (h1.say (id:=bk) hlk rfl (y:= .cells (cs.set j (.own id))) fun b1 hb1=> ?_);obtain⟨k,us,e,hk,hh,ha⟩:=hb1;refine⟨k,us,e,hk,hh, ?_⟩;obtain⟨u,hu,hv⟩:=ha.get hj;have hva:VA (g.set id b) w (.own id) u:=by
      cases hv with
      |clip _ _ ad len bk of f hl ha hcell hf=>
       simp at hl;subst hl;have:=VA.own (g:=g.set id b) (w:=w) id b ad hmg (fun q hq=>by rw[hbd] at hq;cases hq) (fun _=>by rw[hbd];exact⟨rfl,rfl⟩);rw[hbd] at this⊢;exact this
     have:=ha.set hva j;have e9:us.toList.set j u=us.toList:=by
      obtain⟨hj2,e⟩:=List.getElem?_eq_some_iff.1 hu;rw[←e];exact List.set_getElem_self hj2
     rwa[e9] at this
    ·simp at h
   ·simp at h
  ·simp at h
theorem G4 {an:Ann} {σ σ':St} (h:coerce an σ=some σ') (hr:Rel P base w0 S0 N D sv g σ a w):∃g',Rel P base w0 S0 N D sv g' σ' a w:=by
 unfold coerce at h;split at h
 ·simp at h
 ·rename_i σ0 h0
  obtain⟨g0,r0⟩:=tL h0 hr;split at h
  ·rename_i σ1 h1
   obtain⟨g1,r1⟩:=uA h1 r0;split at h
   ·rename_i σ2 h2
    obtain⟨g2,r2⟩:=uN h2 r1;split at h
    ·rename_i σ3 h3
     exact⟨g2,Dd h (Ce h3 r2)⟩
    ·simp at h
   ·simp at h
  ·simp at h
theorem N0 {an:Ann} {σ':St} (h:AK an σ=some σ') (hr:Rel P base w0 S0 N D sv g σ a w):∃g',Rel P base w0 S0 N D sv g' σ' a w:=by
 unfold AK at h;split at h
 ·rename_i σ1 h1
  obtain⟨g1,r1⟩:=G4 h1 hr;split at h
  ·rename_i r2 m2 hr2 hm2 hlt
   cases h;refine⟨g1.only an.mem,{az:=fun t x hx=> ?_,size:=r1.size,dfr:=r1.dfr,glo:=r1.glo,lp:=fun id x b hx hl hm=>r1.lp id x b (jY hm2 id x hx).2.1 hl (Gh.lV hm).2,mem:=fun id x hx=> ?_,inj:=fun id id' x x' b b' q hx hx' hl hl' hm hm'=> ?_,own:=fun id x b q hx hl hm hq=> ?_,S:=r1.S,blk:=fun id b q hm hq=>r1.blk id b q (Gh.lV hm).2 hq,nx:=fun id b hm=> ?_,bel:=r1.bel,bs:=r1.bs,sub:=r1.sub}⟩
   ·obtain⟨h2,h3⟩:=vo hr2 t x hx
    exact(r1.az t x h2).only h3
   ·obtain⟨h2,h3,h4⟩:=jY hm2 id x hx
    obtain⟨b,hb,hbr⟩:=r1.mem id x h3;exact⟨b,Gh.jF h2 hb,hbr.only h4⟩
   ·exact r1.inj id id' x x' b b' q (jY hm2 id x hx).2.1 (jY hm2 id' x' hx').2.1 hl hl' (Gh.lV hm).2 (Gh.lV hm').2
   ·exact r1.own id x b q (jY hm2 id x hx).2.1 hl (Gh.lV hm).2 hq
   ·have:=(List.all_eq_true.1 hlt) id (Gh.lV hm).1
    exact Nat.le_of_ble_eq_true this
  ·simp at h
 ·simp at h
theorem iA {an:Option Ann} (h:lD an σ k=some res) (hr:Rel P base w0 S0 N D sv g σ a w):∃g' σ',k σ'=some res∧Rel P base w0 S0 N D sv g' σ' a w:=by
 unfold lD at h;split at h
 ·exact⟨g,σ,h,hr⟩
 ·split at h
  ·rename_i h1
   obtain⟨g',h2⟩:=N0 h1 hr;exact⟨g',_,h,h2⟩
  ·simp at h
end
section
variable {R:Type} {c:Cfg} {r:cv} {m m':Mem} {o:Oper}
theorem y_ {p:At} {n:Nat} {k:List At→Option R} (h:∀i∈eV p,look i m=look i m'):iV m p n k=iV m' p n k:=by
 cases p<;>simp only[iV]<;>simp [eV] at h<;>rw[h]
theorem o6 {p:At} {k:(τ:Ty)→List τ.T→Option R} (h:∀i∈eV p,look i m=look i m'):cw m p k=cw m' p k:=by
 cases p<;>simp only[cw]<;>simp [eV] at h<;>rw[h]
theorem sL {p:At} {k:At→Option R} (h:∀i∈eV p,look i m=look i m'):viewAt m p k=viewAt m' p k:=by
 cases p<;>simp only[viewAt]<;>first|rfl|exact o6 h
theorem uR:∀{l:List At} {k:List At→Option R},(∀i∈l.flatMap eV,look i m=look i m')→iR m l k=iR m' l k
 | [],k,_=>rfl
 |x::l,k,h=>by
  simp only[iR];rw[sL (m':=m') (fun i hi=>h i (by simp [hi]))];congr 1;funext y;exact uR (fun i hi=>h i (by rw[List.flatMap_cons];exact List.mem_append_right _ hi))
theorem CI {x:AV} {k:AV→Option R} (h:∀i∈pn x,look i m=look i m'):iU m x k=iU m' x k:=by
 unfold iU;split
 ·exact sL h
 ·exact uR h
 ·rfl
theorem tJ:∀{l:List AV} {k:List AV→Option R},(∀i∈l.flatMap pn,look i m=look i m')→dx m l k=dx m' l k
 | [],k,_=>rfl
 |x::l,k,h=>by
  simp only[dx];rw[CI (m':=m') (fun i hi=>h i (by simp [hi]))];congr 1;funext y;exact tJ (fun i hi=>h i (by rw[List.flatMap_cons];exact List.mem_append_right _ hi))
theorem FD {t:TypeId} {p:At} {k:AV→Option R} (h:∀i∈eV p,look i m=look i m'):BD c m t p k=BD c m' t p k:=by
 unfold BD;split
 ·rfl
 ·split
  ·rfl
  ·exact o6 h
 ·split
  ·rw[h _ (by simp [eV])]
  ·rfl
 ·rfl
theorem DK {t:TypeId} {p:At} {n:Int} {k:AV→Option R} (h:∀i∈eV p,look i m=look i m'):BV c m t p n k=BV c m' t p n k:=by
 unfold BV;split
 ·cases p<;>simp [eV] at h<;>first|rfl|(simp only [];rw[h])
 ·rfl
 ·rfl
theorem AD {t:TypeId} {p:At} {lo hi mx:Option Operand} {k:AV→Option R} (h:∀i∈eV p,look i m=look i m') (hc:∀i∈eV p,iQ m i m=iQ m' i m'):oN c r m t p lo hi mx k=oN c r m' t p lo hi mx k:=by
 unfold oN;split
 ·split
  ·rfl
  ·cases p<;>simp [eV] at h hc<;>first|rfl|(simp only [];rw[h,hc])
  ·rfl
 ·rfl
theorem SE {t:TypeId} {x:Operand} {v:AV} (h:ev c r t x=some v):∀i∈pn v,∃n u,x= .tmp n∧look n r=some u∧i∈pn u:=by
 intro i hi;cases x with
 |tmp n=>exact⟨n,v,rfl,(b6 h).2,hi⟩
 |const v'=>
  exfalso;simp only[ev] at h;unfold wk at h;split at h<;>first|(cases h;simp [pn,uL,eV] at hi;done) |skip
  split at h
  ·cases h;simp [pn,uL,eV] at hi
  ·cases h
  ·cases h
 |func f=>simp only[ev] at h;cases h;simp [pn,uL,eV] at hi
 |«global» _=>
  simp only[ev] at h;split at h
  ·cases h;simp [pn,uL,eV] at hi
  ·cases h
theorem HU {n:Nat} {u:AV} {i:Nat} (hl:uJ o.op=true) (h1:n∈fh o) (h2:look n r=some u) (h3:i∈pn u):i∈iH r o:=by
 unfold iH;rw[hl];simp only [];rw[List.mem_flatMap];exact⟨n,h1,by rw[h2];exact h3⟩
theorem yv {n:Nat} (h:Operand.tmp n∈o.op.operands.toList):n∈fh o:=by
 unfold fh;rw[List.mem_filterMap];exact⟨_,h,rfl⟩
theorem xq (hl:uJ o.op=true) {t:TypeId} {x:Operand} {v:AV} (h:ev c r t x=some v) (hx:x∈o.op.operands.toList):∀i∈pn v,i∈iH r o:=by
 intro i hi;obtain⟨n,u,rfl,h2,h3⟩:=SE h i hi;exact HU hl (yv hx) h2 h3
theorem Se {t:TypeId} {x:Operand} {p:At} (h:evA c r t x=some p):ev c r t x=some (.one p):=by
 unfold evA at h;split at h
 ·rename_i e;cases h;exact e
 ·cases h
theorem qU (hl:uJ o.op=true) {t:TypeId} {x:Operand} {p:At} (h:evA c r t x=some p) (hx:x∈o.op.operands.toList):∀i∈eV p,i∈iH r o:=xq hl (Se h) hx
theorem sV (hl:uJ o.op=true):∀{l:List Operand} {ts:List TypeId} {as:List AV},fg c r l ts=some as→(∀x∈l,x∈o.op.operands.toList)→∀i∈as.flatMap pn,i∈iH r o
 | [],ts,as,h,_,i,hi=>by simp only[fg] at h;cases h;simp at hi
 |x::l,ts,as,h,hx,i,hi=>by
  simp only[fg] at h;split at h
  ·rename_i y l' h1 h2
   cases h;rw[List.flatMap_cons,List.mem_append] at hi;rcases hi with hi|hi
   ·exact xq hl h1 (hx x (by simp)) i hi
   ·exact sV hl h2 (fun z hz=>hx z (by simp [hz])) i hi
  ·cases h
theorem Cq {k:AV→Option R} (h:∀i∈iH r o,look i m=look i m') (hc:∀i,iQ m i m=iQ m' i m'):jJ c r m o k=jJ c r m' o k:=by
 unfold jJ;split
 case h_4 t a ho=>
  split
  ·rename_i ti p h1 h2
   exact y_ fun i hi=>h i (qU (by rw[ho];rfl) h2 (by simp [ho,Op.operands]) i hi)
  ·rfl
 case h_8 t x i ho=>
  split
  ·rename_i p _ n h1 h2
   exact DK fun i hi=>h i (qU (by rw[ho];rfl) h1 (by simp [ho,Op.operands]) i hi)
  ·rfl
 case h_13 s d x ho=>
  split
  ·rfl
  ·rfl
  ·rename_i p h1 h2 h3
   split
   ·exact o6 fun i hi=>h i (xq (by rw[ho];rfl) h3 (by simp [ho,Op.operands]) i hi)
   ·rfl
  ·rfl
  ·rfl
 case h_15 t x lo hi mx ho=>
  split
  ·rename_i p h1
   exact AD (fun i hi=>h i (qU (by rw[ho];rfl) h1 (by simp [ho,Op.operands]) i hi)) (fun i _=>hc i)
  ·rfl
 case h_17 args ts ho=>
  split
  ·rename_i x t h1 h2
   split
   ·rename_i p h3
    exact FD fun i hi=>h i (qU (by rw[ho];rfl) h3 (by simp [ho,Op.operands,Call.operands,h1]) i hi)
   ·rfl
  ·rfl
 case h_18 f args ts ho=>
  split
  ·rename_i n as h1 h2
   split
   ·exact tJ fun i hi=>h i (sV (by rw[ho];rfl) h2 (by intro x hx;simp only[ho,Op.operands,Call.operands,Array.toList_append,List.mem_append];simp [hx]) i hi)
   ·rfl
  ·rfl
 all_goals rfl
end
section
variable {α:Type}
def gP (d:Option Nat) (y:α) (r:List (Nat×α)):List (Nat×α):=
 match d with
 |none=>r
 |some d=>(d,y)::r
def gF:List (Option Nat×α)→List (Nat×α)→List (Nat×α)
 | [],r=>r
 |x::l,r=>gF l (gP x.1 x.2 r)
def gL (L:Nat→Bool):Nat→List (Option Nat×α)→List (Nat×α)→List (Nat×α)
 |_, [],r=>r
 |i,x::l,r=>gL L (i+1) l (if L i then gP x.1 x.2 r else r)
theorem iz {d:Option Nat} {y:α} {r:List (Nat×α)} {t:Nat}:look t (gP d y r)=if d=some t then some y else look t r:=by
 cases d with
 |none=>simp [gP]
 |some d=>
  simp only[gP,look,Option.some.injEq];by_cases h:d=t
  ·subst h;simp
  ·have:Nat.beq d t=false:=by
    cases e:Nat.beq d t with
    |false=>rfl
    |true=>exact(h (Nat.eq_of_beq_eq_true e)).elim
   simp [this,h]
theorem yf {t:Nat}:∀{tr:List (Option Nat×α)} {r r':List (Nat×α)},look t r=look t r'→look t (gF tr r)=look t (gF tr r')
 | [],_,_,h=>h
 |x::l,r,r',h=>by
  simp only[gF];refine yf ?_;simp only[iz,h]
theorem m5 {L:Nat→Bool} {t:Nat}:∀{tr:List (Option Nat×α)} {i p:Nat} {r r':List (Nat×α)},look t r=look t r'→(∀q x,tr[q]? =some x→x.1=some t→(q<p↔L (i+q)=true))→look t (gL L i tr r)=look t (gF (tr.take p) r')
 | [],i,p,r,r',h,_=>by simpa [gL,gF] using h
 |x::l,i,p,r,r',h,hL=>by
  have h0:=hL 0 x (by simp);simp only[gL];cases p with
  |zero=>
   have:=m5 (L:=L) (t:=t) (tr:=l) (i:=i+1) (p:=0) (r:=if L i then gP x.1 x.2 r else r) (r':=r') (by
    split
    ·rename_i hl
     rw[iz];split
     ·rename_i e
      have:=(h0 e).2 (by simpa using hl);omega
     ·exact h
    ·exact h) (fun q x hq hx=>by
     have:=hL (q+1) x (by simpa using hq) hx;rw[show i+1+q=i+(q+1) from by omega,←this];omega)
   simpa [gF] using this
  |succ p=>
   simp only[List.take_succ_cons,gF];refine m5 ?_ (fun q x hq hx=> ?_)
   ·by_cases e:x.1=some t
    ·have:=(h0 e).1 (by omega)
     simp only[Nat.add_zero] at this;rw[if_pos this];simp only[iz,if_pos e]
    ·rw[iz,if_neg e]
     split
     ·rw[iz,if_neg e];exact h
     ·exact h
   ·have:=hL (q+1) x (by simpa using hq) hx
    rw[show i+1+q=i+(q+1) from by omega,←this];omega
theorem xf {L L':Nat→Bool} {t:Nat}:∀{tr:List (Option Nat×α)} {i:Nat} {r r':List (Nat×α)},look t r=look t r'→(∀q x,tr[q]? =some x→x.1=some t→L (i+q)=L' (i+q))→look t (gL L i tr r)=look t (gL L' i tr r')
 | [],i,r,r',h,_=>h
 |x::l,i,r,r',h,hL=>by
  simp only[gL];refine xf ?_ (fun q y hq hy=>by
   have:=hL (q+1) y (by simpa using hq) hy;rwa[show i+1+q=i+(q+1) from by omega])
  by_cases e:x.1=some t
  ·have:=hL 0 x (by simp) e
   simp only[Nat.add_zero] at this;rw[this];split
   ·simp only[iz,if_pos e]
   ·exact h
  ·split<;>split<;>simp only[iz,if_neg e,h]
theorem wP {L:Nat→Bool} {t:Nat} {y:α}:∀{tr:List (Option Nat×α)} {i p:Nat} {r:List (Nat×α)},tr[p]? =some (some t,y)→L (i+p)=true→(∀q x,p<q→tr[q]? =some x→x.1=some t→L (i+q)=false)→look t (gL L i tr r)=some y
 | [],i,p,r,h,_,_=>by simp at h
 |x::l,i,0,r,h,h0,hL=>by
  simp at h;subst h;simp only[gL];simp only[Nat.add_zero] at h0;rw[if_pos h0,m5 (p:=0) (r':=gP (some t) y r) rfl (fun q x hq hx=> ?_)]
  ·simp [gF,iz]
  ·have:=hL (q+1) x (by omega) (by simpa using hq) hx
   rw[show i+1+q=i+(q+1) from by omega,this];simp
 |x::l,i,p+1,r,h,h0,hL=>by
  simp only[gL];refine wP (p:=p) (by simpa using h) (by rw[show i+1+p=i+(p+1) from by omega];exact h0) (fun q y hq hy he=> ?_);rw[show i+1+q=i+(q+1) from by omega];exact hL (q+1) y (by omega) (by simpa using hy) he
theorem kG {L:Nat→Bool}:∀{tr:List (Option Nat×α)} {i p:Nat} {r:List (Nat×α)},(∀q x d,tr[q]? =some x→x.1=some d→(q<p↔L (i+q)=true))→gL L i tr r=gF (tr.take p) r
 | [],i,p,r,_=>by simp [gL,gF]
 |x::l,i,p,r,hL=>by
  simp only[gL];have nx:∀p',p=p'+1→∀q y d,l[q]? =some y→y.1=some d→(q<p'↔L (i+1+q)=true):=by
   intro p' e q y d hq hd;have:=hL (q+1) y d (by simpa using hq) hd;rw[show i+1+q=i+(q+1) from by omega,←this];omega
  cases hx:x.1 with
  |none=>
   have e0:gP (none:Option Nat) x.2 r=r:=rfl;rw[e0];cases p with
   |zero=>
    rw[show(if L i=true then r else r)=r from by split<;>rfl,kG (p:=0) (fun q y d hq hd=>by
     have:=hL (q+1) y d (by simpa using hq) hd;rw[show i+1+q=i+(q+1) from by omega,←this];omega)]
    simp [gF]
   |succ p=>
    rw[show(if L i=true then r else r)=r from by split<;>rfl,kG (p:=p) (nx p rfl)];simp only[List.take_succ_cons,gF,hx,e0]
  |some d0=>
   have h0:=hL 0 x d0 (by simp) hx;simp only[Nat.add_zero] at h0;cases p with
   |zero=>
    have:¬L i=true:=fun h=>by have:=h0.2 h;omega
    rw[if_neg this,kG (p:=0) (fun q y d hq hd=>by
     have:=hL (q+1) y d (by simpa using hq) hd;rw[show i+1+q=i+(q+1) from by omega,←this];omega)]
    simp [gF]
   |succ p=>
    rw[if_pos (h0.1 (by omega)),kG (p:=p) (nx p rfl)];simp only[List.take_succ_cons,gF,hx]
theorem Gg {L L':Nat→Bool}:∀{tr:List (Option Nat×α)} {i:Nat} {r:List (Nat×α)},(∀q x d,tr[q]? =some x→x.1=some d→L (i+q)=L' (i+q))→gL L i tr r=gL L' i tr r
 | [],i,r,_=>rfl
 |x::l,i,r,hL=>by
  simp only[gL];have e:(if L i=true then gP x.1 x.2 r else r)=(if L' i=true then gP x.1 x.2 r else r):=by
   cases hx:x.1 with
   |none=>simp [gP]
   |some d=>have:=hL 0 x d (by simp) hx;simp only[Nat.add_zero] at this;rw[this]
  rw[e];exact Gg fun q y d hq hd=>by
   have:=hL (q+1) y d (by simpa using hq) hd;rwa[show i+1+q=i+(q+1) from by omega]
theorem GK:∀(tr:List (Option Nat×α)) (x:Option Nat×α) (r:List (Nat×α)),gF (tr++[x]) r=gP x.1 x.2 (gF tr r)
 | [],x,r=>rfl
 |y::l,x,r=>by simp only[List.cons_append,gF];exact GK l x _
theorem A4 {tr:List (Option Nat×α)} {p:Nat} {x:Option Nat×α} (h:tr[p]? =some x) (r:List (Nat×α)):gF (tr.take (p+1)) r=gP x.1 x.2 (gF (tr.take p) r):=by
 rw[←GK];congr 1;rw[List.take_add_one,h];rfl
end
theorem C6 {m m':Mem} {id:Nat}:∀(l:Mem),(∀x∈l,lr (look x.1 m)=true∨lr (look x.1 m')=true→look x.1 m=look x.1 m')→iQ m id l=iQ m' id l
 | [],_=>rfl
 |x::l,h=>by
  have ih:=C6 (id:=id) l (fun y hy=>h y (by simp [hy]));have hx:=h x (by simp);simp only[iQ];rw[ih];cases h1:look x.1 m with
  |none=>
   cases h2:look x.1 m' with
   |none=>rfl
   |some b=>
    cases b<;>first|rfl|skip
    rename_i a n;exfalso;have:=hx (.inr (by rw[h2];rfl));rw[h1,h2] at this;cases this
  |some b=>
   by_cases hc:lr (some b)=true
   ·have:=hx (.inl (by rw[h1];exact hc))
    rw[h1] at this;rw[←this]
   ·cases b<;>first|(simp [lr] at hc;done) |skip
    all_goals
     cases h2:look x.1 m' with
     |none=>rfl
     |some b'=>
      cases b'<;>first|rfl|skip
      exfalso;have:=hx (.inr (by rw[h2];rfl));rw[h1,h2] at this;cases this
def Plain (tr:List (Option Nat×AB)) (m:Mem):Prop:=∀x∈tr,∀d,x.1=some d→lr (some x.2)=false∧lr (look d m)=false
theorem lI {L:Nat→Bool} {t:Nat}:∀{tr:List (Option Nat×AB)} {i:Nat} {m:Mem},Plain tr m→look t (gL L i tr m)=look t m∨(lr (look t (gL L i tr m))=false∧lr (look t m)=false)
 | [],i,m,_=> .inl rfl
 |x::l,i,m,h=>by
  simp only[gL];have hx:=h x (by simp);split
  ·have hp:Plain l (gP x.1 x.2 m):=by
    intro y hy d hd;refine⟨(h y (by simp [hy]) d hd).1, ?_⟩;rw[iz];split
    ·rename_i e;exact(hx d e).1
    ·exact(h y (by simp [hy]) d hd).2
   rcases lI (L:=L) (t:=t) (i:=i+1) hp with h1|⟨h1,h2⟩
   ·rw[iz] at h1
    split at h1
    ·rename_i e
     right;rw[h1];exact hx t e
    ·exact .inl h1
   ·right
    refine⟨h1, ?_⟩;rw[iz] at h2;split at h2
    ·rename_i e;exact(hx t e).2
    ·exact h2
  ·exact lI fun y hy=>h y (by simp [hy])
theorem Du {L:Nat→Bool} {M:Mem} {id:Nat}:∀{tr:List (Option Nat×AB)} {i:Nat} {m:Mem},(∀x∈tr,∀d,x.1=some d→lr (look d M)=false)→iQ M id (gL L i tr m)=iQ M id m
 | [],i,m,_=>rfl
 |x::l,i,m,h=>by
  simp only[gL];rw[Du fun y hy=>h y (by simp [hy])];split
  ·cases hx:x.1 with
   |none=>rfl
   |some d=>
    have:=h x (by simp) d hx;simp only[gP,iQ];cases h1:look d M with
    |none=>rfl
    |some b=>
     rw[h1] at this;cases b<;>first|rfl|(simp [lr] at this)
  ·rfl
theorem rq {L:Nat→Bool} {id i:Nat} {tr:List (Option Nat×AB)} {m:Mem} (h:Plain tr m):iQ (gL L i tr m) id (gL L i tr m)=iQ m id m:=by
 rw[Du fun x hx d hd=> ?_]
 ·refine C6 m fun x hx hc=> ?_
  rcases lI (L:=L) (t:=x.1) (i:=i) h with h1|⟨h1,h2⟩
  ·exact h1
  ·rw[h1,h2] at hc;simp at hc
 ·rcases lI (L:=L) (t:=d) (i:=i) h with h1|⟨h1,h2⟩
  ·rw[h1];exact(h x hx d hd).2
  ·exact h1
theorem D4 {α:Type} {tr:List (Option Nat×α)} {r:List (Nat×α)} (p:Nat):gF (tr.take p) r=gL (fun q=>decide (q<p)) 0 tr r:=by
 rw[kG (p:=p)];intro q x d _ _;simp
def upL (L:Nat→Bool):Nat→List Bool→Nat→Nat
 |_, [],n=>n
 |i,x::l,n=>upL L (i+1) l (if L i&&x then n+1 else n)
def upF:List Bool→Nat→Nat
 | [],n=>n
 |x::l,n=>upF l (if x then n+1 else n)
theorem mF {L:Nat→Bool}:∀{tr:List Bool} {i p n:Nat},(∀q,tr[q]? =some true→(q<p↔L (i+q)=true))→upL L i tr n=upF (tr.take p) n
 | [],i,p,n,_=>by simp [upL,upF]
 |x::l,i,p,n,hL=>by
  simp only[upL];have h0:=hL 0;simp only[List.getElem?_cons_zero,Nat.add_zero] at h0;cases p with
  |zero=>
   rw[mF (p:=0) (fun q hq=>by
    have:=hL (q+1) (by simpa using hq);rw[show i+1+q=i+(q+1) from by omega,←this];omega)]
   simp only[List.take_zero,upF];cases x
   ·simp
   ·have:=h0 rfl
    simp at this;simp [this]
  |succ p=>
   rw[mF (p:=p) (fun q hq=>by
    have:=hL (q+1) (by simpa using hq);rw[show i+1+q=i+(q+1) from by omega,←this];omega)]
   simp only[List.take_succ_cons,upF];cases x
   ·simp
   ·have:=(h0 rfl).1 (by omega)
    simp [this]
theorem Cu {L L':Nat→Bool}:∀{tr:List Bool} {i n:Nat},(∀q,tr[q]? =some true→L (i+q)=L' (i+q))→upL L i tr n=upL L' i tr n
 | [],i,n,_=>rfl
 |x::l,i,n,hL=>by
  simp only[upL];have e:(if (L i&&x)=true then n+1 else n)=(if (L' i&&x)=true then n+1 else n):=by
   cases x
   ·simp
   ·have:=hL 0 rfl;simp only[Nat.add_zero] at this;rw[this]
  rw[e];exact Cu fun q hq=>by
   have:=hL (q+1) (by simpa using hq);rwa[show i+1+q=i+(q+1) from by omega]
theorem Cb:∀(tr:List Bool) (x:Bool) (n:Nat),upF (tr++[x]) n=if x then upF tr n+1 else upF tr n
 | [],x,n=>by cases x<;>rfl
 |y::l,x,n=>by simp only[List.cons_append,upF];exact Cb l x _
theorem ze {tr:List Bool} {p:Nat} {x:Bool} (h:tr[p]? =some x) (n:Nat):upF (tr.take (p+1)) n=if x then upF (tr.take p) n+1 else upF (tr.take p) n:=by
 rw[←Cb];congr 1;rw[List.take_add_one,h];rfl
section
variable {R R':Type} {c:Cfg} {r r':cv} {m m':Mem} {o:Oper} {nx:Nat}
theorem zj (p:At) (v:V1) (f:Nat→AB→Option R) (k:R→Option R'):(pA m p v f).bind k=pA m p v fun a b=>(f a b).bind k:=by
 unfold pA;repeat' split
 all_goals first|rfl|simp_all [eQ]
theorem Bi (τ0:Ty) (x:At) (τ':Ty) (src:List τ'.T) (f:AV→Nat→AB→Option R) (k:R→Option R'):(qF m τ0 x τ' src f).bind k=qF m τ0 x τ' src fun y a b=>(f y a b).bind k:=by
 unfold qF;repeat' split
 all_goals first|rfl|simp_all [eQ,eB]
theorem CV (s:kM) (as:List AV) (f:At→AB→Option R) (k:R→Option R'):(uQ s nx as f).bind k=uQ s nx as fun y b=>(f y b).bind k:=by
 unfold uQ;split
 ·rw[eQ];congr 1;funext b;split<;>rfl
 ·rfl
theorem GW (f:Operand) (args:Array Operand) (ts:Array TypeId) (g:At→AB→Option R) (k:R→Option R'):(uO c f args ts r m nx g).bind k=uO c f args ts r m nx fun y b=>(g y b).bind k:=by
 unfold uO;split
 ·split
  ·rw[kV];congr 1;funext as';rw[CV];congr 1;funext y b;split<;>rfl
  ·rfl
 ·rfl
theorem xO {κ τ:Ty} (key:κ.T):∀(l:List (κ.T×τ.T×Nat)) (kv:τ.T→Nat→Option R) (kn:Option R) (k:R→Option R'),(kT key l kv kn).bind k=kT key l (fun v b=>(kv v b).bind k) (kn.bind k)
 | [],_,_,_=>rfl
 |x::l,kv,kn,k=>by simp only[kT];rw[eB,xO key l]
theorem Hx {σ:St} {t:TypeId} {x i:Operand} {kk:(id:Nat)→(ag:Bool)→(κ τ:Ty)→List (κ.T×τ.T×Nat)→Nat→κ.T→TI→Option R} (k:R→Option R'):(q9 c σ t x i kk).bind k=q9 c σ t x i fun id ag κ τ l ck key te=>(kk id ag κ τ l ck key te).bind k:=by
 unfold q9;repeat' split
 all_goals first|rfl|simp_all
theorem HT (f:Operand) (args:Array Operand) (ts:Array TypeId) (g:AV→Nat→Option R) (k:R→Option R'):(sO c f args ts r m g).bind k=sO c f args ts r m fun y b=>(g y b).bind k:=by
 unfold sO;split
 ·split
  ·split
   ·rw[kV];congr 1;funext as';rw[so]
   ·rfl
  ·rfl
 ·rfl
theorem Ic (τ:Ty) (x:At) (ys:List τ.T) (f:AV→Nat→AB→Bool→Option R) (k:R→Option R'):(Hl τ m x nx ys f).bind k=Hl τ m x nx ys fun y a b u=>(f y a b u).bind k:=by
 unfold Hl;repeat' split
 all_goals first|rfl|simp_all [eQ,r_]
theorem Hv (f:AV→Nat→AB→Bool→Option R) (k:R→Option R'):(zk c o r m nx f).bind k=zk c o r m nx fun y a b u=>(f y a b u).bind k:=by
 unfold zk;repeat' split
 all_goals first|rfl|(simp_all [eQ,eB,r_,zj,Bi,kL];done) |(rw[GW];done) |(rw[HT];done) |(simp_all [eQ,kL,Ic];done) |(rw[Hx];simp only[xO,eQ];done)
abbrev Kd (c:Cfg) (o:Oper) (r:cv) (m:Mem) (nx:Nat):Option (AV×Nat×AB×Bool):=zk c o r m nx fun y a b u=>some (y,a,b,u)
theorem GU {k:AV→Nat→AB→Bool→Option R} {res:R} (h:zk c o r m nx k=some res):∃y id b up,Kd c o r m nx=some (y,id,b,up)∧k y id b up=some res:=by
 have e:=Hv (c:=c) (o:=o) (r:=r) (m:=m) (nx:=nx) (f:=fun y a b u=>some (y,a,b,u)) (k:=fun x=>k x.1 x.2.1 x.2.2.1 x.2.2.2);simp only[Option.bind_some] at e;rw[←e] at h;obtain⟨⟨y,id,b,up⟩,h1,h2⟩:=Option.bind_eq_some_iff.1 h;exact⟨y,id,b,up,h1,h2⟩
theorem ox {t:TypeId} {x:Operand} (h:∀t∈fh o,look t r=look t r') (hx:x∈o.op.operands.toList):ev c r t x=ev c r' t x:=by
 cases x with
 |tmp n=>
  have:=h n (yv hx);simp only[ev,jy];rw[this]
 |const v=>rfl
 |func f=>rfl
 |global _=>rfl
theorem jB {t:TypeId} {x:Operand} (h:∀t∈fh o,look t r=look t r') (hx:x∈o.op.operands.toList):evA c r t x=evA c r' t x:=by unfold evA;rw[ox h hx]
theorem wY {t:TypeId} {x:Operand} (h:∀t∈fh o,look t r=look t r') (hx:x∈o.op.operands.toList):evV c r t x=evV c r' t x:=by unfold evV;rw[ox h hx]
theorem oH (h:∀t∈fh o,look t r=look t r'):∀{l:List (Nat×Operand)},(∀x∈l,x.2∈o.op.operands.toList)→kx c r l=kx c r' l
 | [],_=>rfl
 |x::l,hl=>by
  simp only[kx];rw[ox h (hl x (by simp)),oH h (fun y hy=>hl y (by simp [hy]))]
theorem wN (h:∀t∈fh o,look t r=look t r') {t:TypeId} {s:Nat}:∀{l:List (Nat×Operand)} {cells:List At},(∀x∈l,x.2∈o.op.operands.toList)→pf c r t s cells l=pf c r' t s cells l
 | [],_,_=>rfl
 |x::l,cells,hl=>by
  simp only[pf];rw[wY h (hl x (by simp))];split
  ·split
   ·exact wN h (fun y hy=>hl y (by simp [hy]))
   ·rfl
  ·rfl
theorem rU (h:∀t∈fh o,look t r=look t r'):iH r o=iH r' o:=by
 unfold iH;cases uJ o.op
 ·rfl
 ·simp only []
  generalize fh o=l at h;induction l with
  |nil=>rfl
  |cons a l ih=>
   simp only[List.flatMap_cons];rw[h a (by simp),ih (fun t ht=>h t (by simp [ht]))]
theorem pK (h:∀t∈fh o,look t r=look t r'):∀{l:List Operand} {ts:List TypeId},(∀x∈l,x∈o.op.operands.toList)→fg c r l ts=fg c r' l ts
 | [],_,_=>rfl
 |x::l,ts,hl=>by
  simp only[fg];rw[ox h (hl x (by simp)),pK h (fun y hy=>hl y (by simp [hy]))]
theorem Ia {f:Operand} {args:Array Operand} {ts:Array TypeId} {kk:At→AB→Option R} (h:∀t∈fh o,look t r=look t r') (hf:f∈o.op.operands.toList) (ha:∀x∈args.toList,x∈o.op.operands.toList):uO c f args ts r m nx kk=uO c f args ts r' m nx kk:=by
 unfold uO fb;rw[ox h hf,pK h ha]
theorem G3 {f:Operand} {args:Array Operand} {ts:Array TypeId} {kk:AV→Nat→Option R} (h:∀t∈fh o,look t r=look t r') (hf:f∈o.op.operands.toList) (ha:∀x∈args.toList,x∈o.op.operands.toList):sO c f args ts r m kk=sO c f args ts r' m kk:=by
 unfold sO fb;rw[ox h hf,pK h ha]
theorem BA {f:Operand} (h:∀t∈fh o,look t r=look t r') (hf:f∈o.op.operands.toList):vX c r f=vX c r' f:=by
 unfold vX fb;rw[ox h hf]
theorem Im {t:TypeId} {x i:Operand} {kk:(id:Nat)→(ag:Bool)→(κ τ:Ty)→List (κ.T×τ.T×Nat)→Nat→κ.T→TI→Option R} (h:∀t∈fh o,look t r=look t r') (hx:x∈o.op.operands.toList) (hi:i∈o.op.operands.toList):
 q9 c {az:=r,mem:=m,nx:=nx} t x i kk=q9 c {az:=r',mem:=m,nx:=nx} t x i kk:=by
 unfold q9;simp only;rw[jB h hx,jB h hi]
theorem HY {k:AV→Nat→AB→Bool→Option R} (h:∀t∈fh o,look t r=look t r'):zk c o r m nx k=zk c o r' m nx k:=by
 unfold zk;split
 case h_1=>rfl
 case h_2 t x ho=>rw[wY h (by simp [ho,Op.operands])]
 case h_3 t n parts ho=>
  have hp:∀x∈parts.toList,x.2∈o.op.operands.toList:=by
   intro x hx;simp only[ho,Op.operands,Array.toList_map,List.mem_map];exact⟨x,hx,rfl⟩
  rw[oH h hp];split
  ·split
   ·split
    ·rw[wN h hp]
    ·rfl
   ·rfl
  ·rfl
 case h_4 t n q ho=>rw[jB h (x:=n) (by simp [ho,Op.operands]),jB h (x:=q) (by simp [ho,Op.operands])]
 case h_5 t a x ho=>
  rw[jB h (x:=a) (by simp [ho,Op.operands]),wY h (x:=x) (by simp [ho,Op.operands])];have hx:∀z∈[((0:Nat),x)],z.2∈o.op.operands.toList:=by intro z hz;simp at hz;subst hz;simp [ho,Op.operands]
  have e:=oH (c:=c) h hx;cases evA c r' 0 a with
  |none=>rfl
  |some p=>cases p<;>first|rfl|(simp only [];rw[e])
 case h_6 args ts ho=>
  split
  ·rename_i x y t t' h1 h2
   have hx:x∈o.op.operands.toList:=by simp [ho,Op.operands,Call.operands,h1]
   have hy:y∈o.op.operands.toList:=by simp [ho,Op.operands,Call.operands,h1]
   rw[jB h hx,jB h hy]
  ·rfl
 case h_7 f args ts ho=>
  have hf:f∈o.op.operands.toList:=by simp [ho,Op.operands,Call.operands]
  have ha:∀x∈args.toList,x∈o.op.operands.toList:=by intro x hx;simp only[ho,Op.operands,Call.operands,Array.toList_append,List.mem_append];simp [hx]
  rw[BA h hf];split
  ·exact G3 h hf ha
  ·exact Ia h hf ha
 case h_8 args ts ho=>
  split
  ·rename_i x y t t' h1 h2
   have hx:x∈o.op.operands.toList:=by simp [ho,Op.operands,Call.operands,h1]
   have hy:y∈o.op.operands.toList:=by simp [ho,Op.operands,Call.operands,h1]
   rw[jB h hx,jB h hy]
  ·rfl
 case h_9 t x i ok ho=>exact Im h (by simp [ho,Op.operands]) (by simp [ho,Op.operands])
 case h_10=>rfl
theorem Kk {σ:St} {t:TypeId} {x i:Operand} {kk:(id:Nat)→(ag:Bool)→(κ τ:Ty)→List (κ.T×τ.T×Nat)→Nat→κ.T→TI→Option R} {res:R} (h:q9 c σ t x i kk=some res):
 ∃id ag κ τ l ck key te,kk id ag κ τ l ck key te=some res∧∀{R':Type} (kk':(id:Nat)→(ag:Bool)→(κ τ:Ty)→List (κ.T×τ.T×Nat)→Nat→κ.T→TI→Option R'),q9 c σ t x i kk'=kk' id ag κ τ l ck key te:=by
 unfold q9 at h;split at h
 ·rename_i ag0 sz z κ τ0 kt e hti
  split at h
  ·rename_i id ki te hx hi hte
   split at h
   ·rename_i ag κ' τ l ck hl
    split at h
    ·rename_i hsame
     split at h
     ·rename_i key hkey
      exact⟨id,ag,κ',τ,l,ck,key,te,h,fun kk'=>by unfold q9;simp only[hti,hx,hi,hte,hl,hsame,hkey]⟩
     ·cases h
    ·cases h
   ·cases h
  ·cases h
 ·cases h
theorem zC {κ τ:Ty} {key:κ.T}:∀{l:List (κ.T×τ.T×Nat)} {kv:τ.T→Nat→Option R} {kn:Option R} {res:R},kT key l kv kn=some res→
 (∃v b,kv v b=some res∧∀{R':Type} (kv':τ.T→Nat→Option R') (kn':Option R'),kT key l kv' kn'=kv' v b)∨(kn=some res∧∀{R':Type} (kv':τ.T→Nat→Option R') (kn':Option R'),kT key l kv' kn'=kn')
 | [],kv,kn,res,h=> .inr ⟨h,fun _ _=>rfl⟩
 |x::l,kv,kn,res,h=>by
  simp only[kT] at h;rcases bo h with⟨hb,h⟩ |⟨hb,h⟩
  ·exact .inl ⟨_,_,h,fun kv' kn'=>by simp only[kT,hb,ae]⟩
  ·rcases zC h with⟨v,b,h1,h2⟩ |⟨h1,h2⟩
   ·exact .inl ⟨v,b,h1,fun kv' kn'=>by simp only[kT,hb,ae,h2]⟩
   ·exact .inr ⟨h1,fun kv' kn'=>by simp only[kT,hb,ae,h2]⟩
theorem II {f:Operand} {args:Array Operand} {ts:Array TypeId} {kk:At→AB→Option R} {res:R} (h:uO c f args ts r m nx kk=some res):∃y b,kk y b=some res∧wX c r f=true∧∀{R':Type} (kk':At→AB→Option R'),uO c f args ts r m nx kk'=kk' y b:=by
 obtain⟨nn,as,as',s,x,ab,y,hn,has,hsp,hu,hx,hab,hy,hc,hk⟩:=Ao h;refine⟨y,ab,hk,by unfold wX;simp only[hn,hsp],fun kk'=> ?_⟩;unfold uO;simp only[hn,has,hsp];rw[hu];unfold uQ;have e:(zr ab||(cV as).isEmpty)=true:=by
  rcases hc with hc|hc
  ·simp [hc]
  ·simp [hc]
 obtain⟨z,hz,rfl⟩:∃z,s.g x=some z∧s.enc z=ab:=by
  unfold kM.f at hab;split at hab
  ·rename_i z hz;exact⟨z,hz,by cases hab;rfl⟩
  ·cases hab
 simp only[hx,hz,aj,hy,e]
theorem EA {p:At} {kk:(τ:Ty)→List τ.T→Option R} {res:R} (h:cw m p kk=some res):∃τ l,(∀{R':Type} (kk':(τ:Ty)→List τ.T→Option R'),cw m p kk'=kk' τ l)∧kk τ l=some res:=by
 unfold cw at h;split at h
 ·exact⟨_,_,fun _=>rfl,h⟩
 ·exact⟨_,_,fun _=>rfl,h⟩
 ·split at h
  ·rename_i h7;exact⟨_,_,fun _=>by simp only[cw,h7],h⟩
  ·cases h
 ·split at h
  ·rename_i h7
   split at h
   ·rename_i h8;exact⟨_,_,fun _=>by simp only[cw,h7,h8],h⟩
   ·cases h
  ·cases h
 ·cases h
theorem Js {f:Operand} {args:Array Operand} {ts:Array TypeId} {kk:AV→Nat→Option R} {res:R} (h:sO c f args ts r m kk=some res):∃y id,kk y id=some res∧∀{R':Type} (kk':AV→Nat→Option R'),sO c f args ts r m kk'=kk' y id:=by
 unfold sO at h;split at h
 ·rename_i nn as hn has
  split at h
  ·rename_i s hsp
   split at h
   ·rename_i id hid
    obtain⟨as',hu⟩:=xA h;rw[hu] at h;obtain⟨x,y,hx,hy,hk⟩:=xQ h;refine⟨s.enc y,id,hk,fun kk'=> ?_⟩;unfold sO;simp only[hn,has,hsp,hid];rw[hu];unfold nO;simp only[hx,hy,aj]
   ·cases h
  ·cases h
 ·cases h
theorem HG {σ:St} {y:AV} {id:Nat} {b:AB} {up:Bool} (h:Kd c o σ.az σ.mem σ.nx=some (y,id,b,up)):
 (∀(H:Hnd R) (k:St→Option R),lZ H c o σ k=St.put c {az:=σ.az,mem:=(id,b)::σ.mem,nx:=wG up σ.nx} o.dst y k)∨
 (∀(k:St→Option R),zT c o σ k=St.put c {az:=σ.az,mem:=(id,b)::σ.mem,nx:=wG up σ.nx} o.dst y k):=by
 unfold Kd zk at h;split at h
 case h_7 f args ts ho=>
  split at h
  ·obtain⟨y',id',h1,h2⟩:=Js h
   cases h1;refine .inr fun k=> ?_
   simp only[zT,ho,h2];rfl
  ·obtain⟨y',b',h1,h2,h3⟩:=II h
   cases h1;refine .inl fun H k=> ?_
   simp only[lZ,ho,Cp,h2,t_,h3];rfl
 case h_8 args ts ho=>
  split at h
  ·rename_i x y' t t' h1 h2
   split at h
   ·rename_i τ e h3 h4
    split at h
    ·rename_i te xx yy h5 h6 h7
     have go:∀(τ':Ty) (ys:List τ'.T),(∀{R':Type} (kk:(τ:Ty)→List τ.T→Option R'),cw σ.mem yy kk=kk τ' ys)→(aj (dM τ' τ ys) fun ys=>Hl τ σ.mem xx σ.nx ys fun y id b u=>some (y,id,b,u))=some (y,id,b,up)→
      (∀(H:Hnd R) (k:St→Option R),lZ H c o σ k=St.put c {az:=σ.az,mem:=(id,b)::σ.mem,nx:=wG up σ.nx} o.dst y k)∨
      (∀(k:St→Option R),zT c o σ k=St.put c {az:=σ.az,mem:=(id,b)::σ.mem,nx:=wG up σ.nx} o.dst y k):=by
      intro τ' ys hl h;obtain⟨ys',hys,h⟩:=bz h;unfold Hl at h;split at h
      ·rename_i τ1
       obtain⟨l,hl1,h⟩:=bz h;refine .inl fun H k=> ?_
       simp only[lZ,jE,ho,h1,h2,h3,h4,h5,h6,h7,hl,hys,aj,wu,hl1];unfold aT at h⊢;split at h
       ·cases h;rfl
       ·cases h
      ·rename_i id'
       split at h
       ·rename_i τ1 l0 h8
        obtain⟨l,hl1,h⟩:=bz h;refine .inr fun k=> ?_
        simp only[zT,ho,h1,h2,h3,h4,h5,h6,h7,hl,hys,aj,h8,hl1];unfold aT at h⊢;split at h
        ·cases h;rfl
        ·cases h
       ·cases h
      ·cases h
     obtain⟨τ',ys,hl,hk⟩:=EA h;exact go τ' ys hl hk
    ·cases h
   ·cases h
  ·cases h
 all_goals refine .inl fun H k=> ?_
 case h_9 t x i ok ho=>
  simp only[lZ,ho,jE,vZ];obtain⟨id',ag,κ,τ,l,ck,key,te,h1,h2⟩:=Kk h;rw[h2 (fun id ag κ τ l ck key te=>kT key l (fun v _=>aj (V1.dw ag (τ.enc v)) fun y=>(σ.set id (.map ag κ τ l ck)).put c o.dst (mM ok y true) k) ((σ.set id (.map ag κ τ l ck)).put c o.dst (mM ok te.zero false) k))];rcases zC h1 with⟨v,bb,h4,h5⟩ |⟨h4,h5⟩
  ·rw[h5]
   cases h6:V1.dw ag (τ.enc v) with
   |none=>rw[h6] at h4;cases h4
   |some z=>rw[h6] at h4;cases h4;rfl
  ·rw[h5]
   cases h4;rfl
 case h_1 t ho=>
  simp only[lZ,jE,ho];split at h
  ·rename_i h1;cases h;(try simp only[h1]);rfl
  ·cases h
 case h_2 t x ho=>
  simp only[lZ,jE,ho];split at h
  ·rename_i h1;cases h;(try simp only[h1]);rfl
  ·cases h
 case h_3 t n parts ho=>
  simp only[lZ,jE,ho];split at h
  ·rename_i h0
   rw[h0];simp only[fm];split at h
   ·rename_i τ e h1
    (try simp only[h1])
    split at h
    ·rename_i te h2
     (try simp only[h2])
     split at h
     ·rename_i cells h3
      (try simp only[h3])
      cases h4:ld τ n cells with
      |none=>rw[h4] at h;cases h
      |some l=>rw[h4] at h;cases h;rfl
     ·cases h
    ·cases h
   ·cases h
  ·cases h
 case h_4 t n q ho=>
  simp only[lZ,jE,ho];split at h
  ·rename_i τ e k1 a k2 b h1 h2 h3
   (try simp only[h1,h2,h3])
   split at h
   ·rename_i te h4
    (try simp only[h4])
    rcases bo h with⟨hb,h⟩ |⟨hb,h⟩
    ·rw[hb]
     simp only[ae];unfold aT at h⊢;split at h
     ·rename_i hl
      (try simp only [])
      cases h5:τ.po te.zero.cells with
      |none=>rw[h5] at h;cases h
      |some z=>rw[h5] at h;cases h;rfl
     ·cases h
    ·cases h
   ·cases h
  ·cases h
 case h_5 t a x ho=>
  simp only[lZ,jE,ho];split at h
  ·rename_i h0
   rw[h0];simp only[fm];split at h
   ·rename_i p v ti h1 h2 h3
    (try simp only[h1,h2,h3])
    split at h
    ·rename_i h4
     (try simp only[h4])
     unfold pA at h;split at h
     ·rename_i id' off
      split at h
      ·rename_i l h5
       split at h
       ·rename_i h6;cases h;(try simp only[storeAt,h5,h6]);rfl
       ·cases h
      ·cases h
     ·rename_i id' i j
      split at h
      ·rename_i τ l h5
       split at h
       ·rename_i h6
        (try simp only[storeAt,h5,h6])
        cases h7:l[i]? with
        |none=>rw[h7] at h;cases h
        |some e=>
         rw[h7] at h;simp only[aj] at h⊢;cases h8:τ.po (setCells (τ.enc e) j v.cells) with
         |none=>rw[h8] at h;cases h
         |some e'=>rw[h8] at h;cases h;rfl
       ·cases h
      ·cases h
     ·cases h
    ·cases h
   ·cases h
  ·cases h
 case h_6 args ts ho=>
  simp only[lZ,jE,ho];split at h
  ·rename_i x y' t t' h1 h2
   (try simp only[h1,h2])
   split at h
   ·rename_i τ0 e h3 h4
    (try simp only[h3,h4])
    split at h
    ·cases h
    ·rename_i xx yy h5 h6 hno
     have go:∀(τ':Ty) (src:List τ'.T),(qF σ.mem τ0 xx τ' src fun y id b=>some (y,id,b,false))=some (y,id,b,up)→Ay c o σ τ0 xx τ' src k=St.put c {az:=σ.az,mem:=(id,b)::σ.mem,nx:=wG up σ.nx} o.dst y k:=by
      intro τ' src h;unfold qF at h;split at h
      ·split at h
       ·rename_i h5
        split at h
        ·rename_i h6
         (try simp only[Ay,h5,h6])
         cases h7:dM τ' _ src with
         |none=>rw[h7] at h;cases h
         |some s=>rw[h7] at h;cases h;rfl
        ·cases h
       ·cases h
      ·split at h
       ·rename_i h5
        split at h
        ·rename_i h6
         (try simp only[Ay,h5,h6])
         rcases bo h with⟨h6',h⟩ |⟨_,h⟩
         rotate_left
         ·cases h
         rw[h6'];simp only[ae];cases h7:dM τ' _ src with
         |none=>rw[h7] at h;cases h
         |some s=>rw[h7] at h;cases h;rfl
        ·cases h
       ·cases h
      ·cases h
     unfold cw at h⊢;split at h
     ·exact go _ _ h
     ·exact go _ _ h
     ·split at h
      ·rename_i h7;(try simp only[h7]);exact go _ _ h
      ·cases h
     ·split at h
      ·rename_i h7
       (try simp only[h7])
       split at h
       ·rename_i h8;(try simp only[h8]);exact go _ _ h
       ·cases h
      ·cases h
     ·cases h
    ·cases h
   ·cases h
  ·cases h
 case h_10=>cases h
theorem Ja {H:Hnd R} {σ:St} {k:St→Option R} {y:AV} {id:Nat} {b:AB} {up:Bool} (hq:isQ c o.op=false) (h:lZ H c o σ k=St.put c {az:=σ.az,mem:=(id,b)::σ.mem,nx:=wG up σ.nx} o.dst y k):
 ig H c true o σ k=St.put c {az:=σ.az,mem:=(id,b)::σ.mem,nx:=wG up σ.nx} o.dst y k:=by
 rw[←h];simp only[ig,hq]
end
section
variable {P:Program} [aE P] {F:Fence} {n:Nat} {c:Cfg} {g g':Gh} {r:cv} {m:Mem} {a:Act} {w w':World} {o:Oper} {R:Type} {k:St→Option R} {res:R}
variable {base:Nat} {w0:World} {S0:Nat→Prop} {N:Nat} {D:Wt} {sv:Nat→Value} {σ:St}
theorem Rel.consume (h:Rel P base w0 S0 N D sv g σ a w) {id:Nat} {b:Gb} {x:AB} (hx:look id σ.mem=some x) (hl:x.live=true) (hm:g.m id=some b) (hsz:w.heap.size≤w'.heap.size) (hos:w'.os=w.os∧w'.tape=w.tape∧w'.output=w.output)
 (hoth:∀j,j<w.heap.size→b.blk≠some j→w'.heap[j]? =w.heap[j]?):
 ∃g',Rel P base w0 S0 N D sv g' (rI id σ) a w'∧g'.m=g.m∧(∀q,g.S q→g'.S q)∧(∀q,b.blk=some q→g'.S q)∧(∀q,w.heap.size≤q→q<w'.heap.size→g'.S q):=by
 obtain⟨g',hg'⟩:∃g':Gh,g'={S:=fun q=>g.S q∨b.blk=some q∨(w.heap.size≤q∧q<w'.heap.size),m:=g.m}:=⟨_,rfl⟩;have hgm:g'.m=g.m:=by subst hg';rfl
 have hgS:∀q,g'.S q↔g.S q∨b.blk=some q∨(w.heap.size≤q∧q<w'.heap.size):=by subst hg';exact fun q=>Iff.rfl
 have hle:g.le g':=by subst hg';exact⟨fun _ h=> .inl h,fun _ _ h=>h⟩
 have hown:∀q,b.blk=some q→base≤q∧¬g.S q:=fun q hq=>h.own id x b q hx hl hm hq
 have hH:cD g w w':=fun j hj=>hoth j (h.S j hj) (fun e=>(hown j e).2 hj)
 refine⟨g', ?_,hgm,hle.S,fun q hq=>(hgS q).2 (.inr (.inl hq)),fun q h1 h2=>(hgS q).2 (.inr (.inr ⟨h1,h2⟩))⟩;refine{az:=fun t y hy=>(h.az t y hy).mono hH hle,size:=h.size,dfr:=h.dfr.mono fun q _ he hs=>⟨(hoth q (hY he) (fun e=>h.p6 hx hl hm e he)).trans he,fun hs'=>((hgS q).1 hs').elim hs fun hq=>hq.elim (fun hq=>h.p6 hx hl hm hq he) fun hq=>by have:=hY he;omega⟩,glo:=h.glo.mono hH hle.S,lp:=fun i z b1 hz hlz hm1=> ?_,mem:=fun i z hz=> ?_,inj:=fun i i' z z' b1 b2 p hz hz' hlz hlz' hm1 hm2 hp1 hp2=> ?_,own:=fun i z b1 p hz hlz hm1 hp1=> ?_,S:=fun p hp=> ?_,blk:=fun i b1 p hm1 hp1=> ?_,nx:=fun i b1 hm1=> ?_,bel:=h.bel.trans ⟨hos.1,hos.2.1,hos.2.2,hsz,fun j hj=> ?_⟩,bs:=Nat.le_trans h.bs hsz,sub:=fun p hp=> ?_ }
 ·simp only[rI,bt] at hz
  rw[hgm] at hm1;split at hz
  ·cases hz;cases hlz
  ·exact h.lp i z b1 hz hlz hm1
 ·simp only[rI,bt] at hz
  split at hz
  ·rename_i e;subst e;cases hz;exact⟨b,by rw[hgm];exact hm,trivial⟩
  ·rename_i e
   obtain⟨b1,hm1,hr1⟩:=h.mem i z hz;refine⟨b1,by rw[hgm];exact hm1, ?_⟩;by_cases hlz:z.live=true
   ·exact hr1.mono hH (fun q hq=>hoth q (h.blk i b1 q hm1 hq) (fun e'=>e (h.inj id i x z b b1 q hx hz hl hlz hm hm1 e' hq))) hle
   ·cases z<;>simp [AB.live] at hlz
    exact trivial
 ·simp only[rI,bt] at hz hz'
  rw[hgm] at hm1 hm2;split at hz
  ·cases hz;simp [AB.live] at hlz
  ·split at hz'
   ·cases hz';simp [AB.live] at hlz'
   ·exact h.inj i i' z z' b1 b2 p hz hz' hlz hlz' hm1 hm2 hp1 hp2
 ·simp only[rI,bt] at hz
  rw[hgm] at hm1;split at hz
  ·cases hz;simp [AB.live] at hlz
  ·rename_i e
   obtain⟨h1,h2⟩:=h.own i z b1 p hz hlz hm1 hp1;refine⟨h1,fun hs=> ?_⟩;rcases(hgS p).1 hs with hs|hs|hs
   ·exact h2 hs
   ·exact e (h.inj id i x z b b1 p hx hz hl hlz hm hm1 hs hp1)
   ·have:=h.blk i b1 p hm1 hp1;omega
 ·rcases(hgS p).1 hp with hp|hp|hp
  ·exact Nat.lt_of_lt_of_le (h.S p hp) hsz
  ·exact Nat.lt_of_lt_of_le (h.blk id b p hm hp) hsz
  ·exact hp.2
 ·rw[hgm] at hm1
  exact Nat.lt_of_lt_of_le (h.blk i b1 p hm1 hp1) hsz
 ·rw[hgm] at hm1
  exact h.nx i b1 hm1
 ·refine hoth j (by have:=h.bs;omega) (fun e=> ?_)
  have:=(hown j e).1;omega
 ·rcases(hgS p).1 hp with hp|hp|hp
  ·exact h.sub p hp
  ·exact .inr (hown p hp).1
  ·exact .inr (by have:=h.bs;omega)
theorem MV (h:Rel P base w0 S0 N D sv g σ a w) (C:aF P c) (hN:c.N=N) (hF:bY F) {K:Act→World→Prop} {Q:Exit→Act→World→Prop} (hK:∀g' σ' a' w',k σ'=some res→Rel P base w0 S0 N D sv g' σ' a' w'→K a' w') {f:Operand} {args:Array Operand} {ts:Array TypeId}
 (hop:o.op= .call {callee:= .value f,args,argTypes:=ts}) (hs:sO c f args ts σ.az σ.mem (fun y id=>(rI id σ).put c o.dst y k)=some res):o.wpIn F n P a w K Q:=by
 unfold sO at hs;split at hs
 ·rename_i nn as hn has
  split at hs
  ·rename_i s hsp
   split at hs
   ·rename_i id hid
    obtain⟨y,hy,hcall⟩:=AX (n:=n) (h.env C (f::args.toList)) hF (by simp) (fun x hx=>by simp [hx]) hop hn has (C.gn _ _ hsp) hs;have hrows:=(kW hs).2;obtain⟨τ,l,hl⟩:=hrows id (by rw[hid];simp);obtain⟨b,hm,hbr⟩:=h.mem id _ hl;obtain⟨g1,hr,hgm,hS,hblk, -⟩:=h.consume (w':=w) hl rfl hm (Nat.le_refl _) ⟨rfl,rfl,rfl⟩ (fun _ _ _=>rfl);refine hcall K Q g1.S ⟨hS,fun id' b' q hi hb hq=> ?_⟩ hr.S (hr.glo.mono (cD.refl _ _) fun _ h=>h) fun v w' hb hv=> ?_
    ·rw[hid] at hi
     simp at hi;subst hi;rw[hm] at hb;cases hb;exact hblk q hq
    ·obtain⟨σ2,hk,h2⟩:=(hr.grow hb).put hN (x:=y) (hv.mono (cD.refl _ _) ⟨fun _ h=>h,fun _ _ h=>by cases h⟩) hy
     exact hK _ _ _ _ hk h2
   ·cases hs
  ·cases hs
 ·cases hs
theorem Hb (h:Rel P base w0 S0 N D sv g σ a w) (C:aF P c) (hN:c.N=N) (hF:bY F) {K:Act→World→Prop} {Q:Exit→Act→World→Prop} (hK:∀g' σ' a' w',k σ'=some res→Rel P base w0 S0 N D sv g' σ' a' w'→K a' w') {t e:TypeId} {x y:Operand}
 (hop:o.op= .call {callee:= .builtin .append,args:= #[x,y],argTypes:= #[t,t]}) {ti te:TI} {τ:Ty} (hti:c.ti t=some ti) (htk:ti.k= .slice τ e) (hte:c.ti e=some te) {id:Nat} {py:At} (hx:evA c σ.az t x=some (.own id)) (hy:evA c σ.az t y=some py)
 (hs0:cw σ.mem py (fun τ' l=>aj (dM τ' τ l) fun ys=>match look id σ.mem with
  |some (.row τ' l)=>aj (dM τ' τ l) fun l=>aT (l.length+ys.length) ((rI id σ).put c o.dst (.one (.sl τ (l++ys))) k)
  |_=>none)=some res):o.wpIn F n P a w K Q:=by
 obtain⟨i,d,T⟩:=C.ts t ti hti;obtain⟨rfl,j,hj,hjs,hjb⟩:=T.slice htk;obtain⟨i2,d2,T2⟩:=C.ts e te hte;obtain rfl:i2=j:=by have:=T2.info;rw[hj] at this;exact(Option.some.inj this).symm
 have E:=h.env C [x,y];have hxv:=E.evA (x:=x) (by simp) hx;have hyv:=E.evA (x:=y) (by simp) hy;generalize hxe:a.eval x=vx at hxv;generalize hye:a.eval y=vy at hyv;obtain⟨τ',ys,ad2,m2,c2,hs1,rfl,hm2, -,hsrc2⟩:=fW h.mem hyv hs0;clear hs0;obtain⟨ys',hcast,hs⟩:=bz hs1;clear hs1;obtain⟨e9,hys⟩:=dZ hcast;clear hcast;subst e9;simp only at hys;subst hys;subst hm2;have hsrc2:=oP hsrc2;split at hs
 ·rename_i τ1 l0 hl0
  obtain⟨l,hl,hs1⟩:=bz hs;clear hs;obtain⟨e9,hll⟩:=dZ hl;clear hl;subst e9;simp only at hll;subst hll;obtain⟨hlim,hs⟩:=gX hs1;clear hs1;obtain⟨b,hm,hbr⟩:=h.mem id _ hl0;have keepG:∀{w':World} {b':Gb} {y:AB},w.heap.size≤w'.heap.size→(w'.os=w.os∧w'.tape=w.tape∧w'.output=w.output)→(∀j,j<w.heap.size→b.blk≠some j→w'.heap[j]? =w.heap[j]?)→
   (∀q,b'.blk=some q→(b.blk=some q∨(w.heap.size≤q))∧q<w'.heap.size)→(cD g w w'→BR P (g.set id b') w' b' y)→w.heap.size≤w'.heap.size∧(w'.os=w.os∧w'.tape=w.tape∧w'.output=w.output)∧(∀j,j<w.heap.size→b.blk≠some j→w'.heap[j]? =w.heap[j]?)∧
   (∀q,b'.blk=some q→(b.blk=some q∨(w.heap.size≤q))∧q<w'.heap.size)∧(cD g w w'→BR P (g.set id b') w' b' y):=fun h1 h2 h3 h4 h5=>⟨h1,h2,h3,h4,h5⟩
  have fin:∀{v:Value} {w1:World} {b2:Gb} {lz:List τ1.T},(Builtin.append_ #[t,t] o.type #[vx, .slice ad2 ys.length c2]).run P w= .ok v w1→(w.heap.size≤w1.heap.size∧(w1.os=w.os∧w1.tape=w.tape∧w1.output=w.output)∧(∀j,j<w.heap.size→b.blk≠some j→w1.heap[j]? =w.heap[j]?)∧
   (∀q,b2.blk=some q→(b.blk=some q∨(w.heap.size≤q))∧q<w1.heap.size)∧(cD g w w1→BR P (g.set id b2) w1 b2 (.row τ1 lz)))→VA (g.set id b2) w1 (.own id) v→(rI id σ).put c o.dst (.one (.sl τ1 lz)) k=some res→o.wpIn F n P a w K Q:=by
   intro v w1 b2 lz hr ⟨sz,os,oth,qq,bb⟩ hva hp;obtain⟨g1,h1,hgm,hS,hblk,hnew⟩:=h.consume hl0 rfl hm sz os oth;have hbr2:=bb (fun j hj=>oth j (h.S j hj) (fun e=>(h.own id _ b j hl0 rfl hm e).2 hj));cases hva with
   |own _ b' ad hm' hk h0=>
    have e:b2=b':=by simpa [Gh.set] using hm'
    subst e;have hz:VA g1 w1 (.sl τ1 lz) (.slice ad b2.ln b2.cp):=hbr2.whole (g':=g1) hS (fun q hq=>by
     obtain⟨h3,h4⟩:=qq q hq;rcases h3 with h3|h3
     ·exact hblk q h3
     ·exact hnew q h3 h4) hk h0
    obtain⟨σ2,hk2,h2⟩:=h1.put (v:= .slice ad b2.ln b2.cp) hN (x:= .one (.sl τ1 lz)) hz hp;refine bO hF (by simp [hop]) ?_ (hK _ _ _ _ hk2 h2);have e1:(#[x,y].map a.eval)= #[vx, .slice ad2 ys.length c2]:=by simp [hxe,hye]
    simp only[execOp,hop,resolve,Sem.run_bind,Sem.run_pure,Result.andThen_ok,invoke,builtin,e1,hr]
  have hlen:=hbr.len;have hli:cw σ.mem (.own id) (fun _ _=>some ())=some ():=by simp [cw,hl0]
  have hsrc1:∀{ad:Option Addr},VA g w (.own id) (.slice ad b.ln b.cp)→Src g w τ1 l0 ad:=by
   intro ad hv;obtain⟨τ9,l9,ad9,n9,c9,hk9,e9,hl9,_,hs9⟩:=fW (kk:=fun τ l=>some (Sigma.mk τ l)) (res:=(Sigma.mk τ1 l0:(τ:Ty)×List τ.T)) h.mem hv (by simp [cw,hl0]);cases hk9;cases e9;exact oP hs9
  cases hxv with
  |own _ b' ad hm' hk' h0'=>
   rw[hm] at hm';cases hm';have hsrc1:=hsrc1 (VA.own id b ad hm hk' h0');rw[hlen.1] at fin hxe;by_cases hne:ys= []
   ·subst hne
    have hrw:=keepG (w':=w) (b':=b) (y:= .row τ1 (l0++ [])) (Nat.le_refl _) ⟨rfl,rfl,rfl⟩ (fun _ _ _=>rfl) (fun q hq=>⟨.inl hq,h.blk id b q hm hq⟩) (fun hH=>by
     simp only[List.append_nil];exact hbr.mono (cD.refl _ _) (fun _ _=>rfl) ⟨fun _ h=>h,fun i b1 hb1=>by
      show(if i=id then some b else g.m i)=some b1;split
      ·rename_i e1;subst e1;rw[hm] at hb1;exact hb1
      ·exact hb1⟩)
    refine fin (by simpa using m9 (P:=P) (w:=w) T.und hj (ad:=ad) (ad2:=ad2) (n1:=l0.length) (c1:=b.cp) (c2:=c2) hlen.2.1 o.type) hrw ?_ hs;have:=VA.own (g:=g.set id b) (w:=w) id b ad (by simp [Gh.set]) hk' h0';rwa[hlen.1] at this
   ·by_cases hroom:l0.length+ys.length≤b.cp
    ·
     have hyp:0<ys.length:=List.length_pos_iff.2 hne;obtain⟨h1,h2,h3⟩:=hbr;rcases h3 with⟨_,_,h3⟩ |⟨q,cs,ec,hb,hh,hcs,hl',ho,ha⟩
     ·omega
     ·have had:=hk' q hb
      subst had;obtain⟨bk2,of2,vs,rfl,hvl,hvc,hve⟩:=hsrc2 hne;have hfit:l0.length*τ1.n+vs.length≤cs.size:=by rw[hvl,hcs,←Nat.add_mul];exact Nat.mul_le_mul_right _ hroom
      obtain⟨new,hnew⟩:∃new,new=(cs.toList.take (l0.length*τ1.n)++vs++cs.toList.drop (l0.length*τ1.n+vs.length)).toArray:=⟨_,rfl⟩;have hrun:(Builtin.append_ #[t,t] o.type #[.slice (some ⟨q,0,none⟩) l0.length b.cp, .slice (some ⟨bk2,of2,none⟩) ys.length c2]).run P w= .ok (.slice (some ⟨q,0,none⟩) (l0.length+ys.length) b.cp) (w.setRow q new):=by
       have hf:=run_firstCells_some (P:=P) w i2.size ys.length ⟨bk2,of2,none⟩ ys.length c2 vs (by rw[hvl,hjs]) (fun j u hu=>by rw[da];exact hvc j u hu);have hst:=run_storeCells_at P q (l0.length*i2.size) ec vs 0 cs w hh (by rw[hjs];simpa using hfit) (hve.one hvl);simp only[Nat.add_zero] at hst;rw[hnew];rw[hjs] at hst hf;simp [Builtin.append_,run_underlying T.und,sizeOf,typeInfo,hj,Builtin.lenOf,hroom,hjs,hf,Addr.add_lit,hst]
      obtain⟨f1,f2,f3,f4,f5⟩:=gp w q new;obtain⟨b2,hb2⟩:∃b2:Gb,b2=⟨b.blk,l0.length+ys.length,b.cp,b.sz,b.val⟩:=⟨_,rfl⟩;have hnl:new.size=cs.size:=by rw[hnew];simp;omega
      have hrw:=keepG (w':=w.setRow q new) (b':=b2) (y:= .row τ1 (l0++ys)) (by rw[f4];exact Nat.le_refl _) ⟨f1,f2,f3⟩ (fun j hj hne'=>f5 j (fun e'=>hne' (by rw[e'];exact hb))) (fun p hp=>by
       rw[hb2] at hp;exact⟨.inl hp,by rw[f4];exact h.blk id b p hm hp⟩) (fun hH=>by
       have hle:∀{x v},mW x=true→VA g w x v→VA (g.set id b2) (w.setRow q new) x v:=fun hp hv=>(hv.pure (g':=⟨g.S,fun _=>none⟩) hp (fun _ h=>h)).mono hH ⟨fun _ h=>h,fun _ _ h=>by cases h⟩
       refine⟨by rw[hb2];exact h1,by rw[hb2];simp, .inr ⟨q,new,ec,by rw[hb2];exact hb,setRow_heap w q cs _ ec _ hh,by rw[hnl,hcs,hb2],by rw[hb2];simpa using hroom, ?_, ?_⟩⟩
       ·intro u hu
        rw[hnew] at hu;simp only[List.toList_toArray,List.mem_append] at hu;rcases hu with(hu|hu) |hu
        ·exact ho u (List.mem_of_mem_take hu)
        ·exact hve.one hvl u hu
        ·exact ho u (List.mem_of_mem_drop hu)
       ·have hold:dj g w τ1 l0 (cs.toList.take (l0.length*τ1.n)):=by
         intro i x j y hx hy;obtain⟨v,hv,hr⟩:=ha i x j y hx hy;have hi:i<l0.length:=(List.getElem?_eq_some_iff.1 hx).1;have hjj:j<τ1.n:=by rw[←cU τ1 x];exact(List.getElem?_eq_some_iff.1 hy).1
         have:i*τ1.n+j<l0.length*τ1.n:=by
          calc i*τ1.n+j<i*τ1.n+τ1.n:=by omega
           _=(i+1)*τ1.n:=by rw[Nat.succ_mul]
           _≤l0.length*τ1.n:=Nat.mul_le_mul_right _ hi
         exact⟨v,by rw[List.getElem?_take_of_lt this];simpa using hv,hr⟩
        have htk:(cs.toList.take (l0.length*τ1.n)).length=l0.length*τ1.n:=by simp;omega
        intro i x j y hx hy;obtain⟨v,hv,hr⟩:=((hold.append htk hve).more (cs.toList.drop (l0.length*τ1.n+vs.length))) i x j y hx hy;exact⟨v,by rw[hnew];simpa using hv,hle (cZ _ _ _ _ hy) hr⟩)
      refine fin hrun hrw ?_ hs;have:=VA.own (g:=g.set id b2) (w:=w.setRow q new) id b2 (some ⟨q,0,none⟩) (by simp [Gh.set]) (fun p hp=>by rw[hb2] at hp;exact hk' p hp) (fun hn=>by rw[hb2] at hn;rw[hb] at hn;cases hn);rw[hb2] at this⊢;exact this
    ·
     obtain⟨w1,cap,cs,hr,hh,e1,e2,e3,hsz,hcap,hone,hel⟩:=sR (P:=P) (g:=g) (w:=w) T.und hj hjs hjb T2 (l:=l0) (ys:=ys) (ad:=ad) (ad2:=ad2) (c1:=b.cp) (c2:=c2) hsrc1 hsrc2 (fun hn=>by
      cases hbk:b.blk with
      |none=>exact(h0' hbk).1
      |some q=>have:=hk' q hbk;rw[hn] at this;cases this) hne (by omega) hlim o.type
     obtain⟨b2,hb2⟩:∃b2:Gb,b2=⟨some w.heap.size,l0.length+ys.length,cap,τ1.n,b.val⟩:=⟨_,rfl⟩;have hb':=Below.push hh e1 e2 e3;have hrw:=keepG (w':=w1) (b':=b2) (y:= .row τ1 (l0++ys)) hb'.size ⟨e1,e2,e3⟩ (fun j hj _=>hb'.block j hj) (fun p hp=>by
      rw[hb2] at hp;cases hp;exact⟨.inr (Nat.le_refl _),by rw[hh];simp⟩) (fun hH=>by
      have hle:∀{x v},mW x=true→VA g w x v→VA (g.set id b2) w1 x v:=fun hp hv=>(hv.pure (g':=⟨g.S,fun _=>none⟩) hp (fun _ h=>h)).mono hH ⟨fun _ h=>h,fun _ _ h=>by cases h⟩
      refine⟨by rw[hb2],by rw[hb2];simp, .inr ⟨w.heap.size,cs,e,by rw[hb2],n0 hh,by rw[hb2];exact hsz,by rw[hb2];simpa using hcap,hone, ?_⟩⟩;intro i x j y hx hy;obtain⟨v,hv,hr⟩:=hel i x j y hx hy;exact⟨v,by simpa using hv,hle (cZ _ _ _ _ hy) hr⟩)
     refine fin hr hrw ?_ hs;have:=VA.own (g:=g.set id b2) (w:=w1) id b2 (some ⟨w.heap.size,0,none⟩) (by simp [Gh.set]) (fun p hp=>by rw[hb2] at hp;cases hp;rfl) (fun hn=>by rw[hb2] at hn;cases hn);rw[hb2] at this⊢;exact this
 ·simp at hs
theorem IH (h:Rel P base w0 S0 N D sv g σ a w) (C:aF P c) (hN:c.N=N) (hF:bY F) {K:Act→World→Prop} {Q:Exit→Act→World→Prop} (hK:∀g' σ' a' w',k σ'=some res→Rel P base w0 S0 N D sv g' σ' a' w'→K a' w') (hs:zT c o σ k=some res):o.wpIn F n P a w K Q:=by
 unfold zT at hs;split at hs
 ·rename_i args ts ho
  split at hs
  ·rename_i x y t t' ha ht
   split at hs
   ·rename_i τ e hti hb
    have:=Nat.eq_of_beq_eq_true hb;subst this;split at hs
    ·rename_i te id py hte hx hy
     have e1:args= #[x,y]:=by apply Array.ext';simpa using ha
     have e2:ts= #[t,t]:=by apply Array.ext';simpa using ht
     subst e1;subst e2;exact Hb h C hN hF hK ho hti rfl hte hx hy hs
    ·cases hs
   ·cases hs
  ·cases hs
 ·rename_i f args ts ho
  exact MV h C hN hF hK ho hs
 ·cases hs
end
end Go.Eng
