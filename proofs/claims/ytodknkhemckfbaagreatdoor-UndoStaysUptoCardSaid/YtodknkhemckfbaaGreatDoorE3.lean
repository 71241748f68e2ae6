/- A part of the proofs of the laws of this seat: the engine that reads the program's code, plain functions, or facts of the program's functions. Conditions: none. -/
import Derived.Test.YtodknkhemckfbaaGreatDoorE2
import Derived.MapKept
import Derived.Lib.SliceRun
import Derived.OrdersIn
set_option linter.unusedSectionVars false
set_option linter.unusedVariables false
set_option linter.unusedSimpArgs false
set_option linter.unnecessarySimpa false
namespace Go.Eng
open Go Go.RowKit Go.MapKept
section
variable {P:Program} [aD P] {F:Fence} {n:Nat} {c:Cfg} {g g':Gh} {r:cj} {m:Mem} {a:Act} {w w':World} {o:Oper} {R:Type} {k:St->Option R} {res:R}
variable {base:Nat} {w0:World} {S0:Nat->Prop} {N:Nat} {D:Wt} {sv:Nat->Value} {σ:St}
def GL (P:Program) (kt:TypeId) (κ:Ty):Prop:=(κ= .int/\P.underlying kt=some (.int .i64))\/(κ= .str/\P.underlying kt=some .string)
theorem OE {κ:Ty} {x:At} {key:κ.T} {v:Value} (hv:VA g w x v) (h:keyOf κ x=some key):CM κ key v:=by
 unfold keyOf at h;split at h
 ·cases h;cases hv;rfl
 ·cases h;cases hv with|str _ b e=>exact⟨b,rfl,e⟩
 ·cases h
theorem F6 {kt:TypeId} {κ:Ty} (hk:GL P kt κ):∃d,P.underlying kt=some d:=by rcases hk with⟨_,h⟩ |⟨_,h⟩<;>exact⟨_,h⟩
theorem DK {kt:TypeId} {κ:Ty} {key:κ.T} {v:Value} {d:TypeDesc} (hk:GL P kt κ) (hd:P.underlying kt=some d) (hv:CM κ key v):IsKey d v:=by
 rcases hk with⟨rfl,hu⟩ |⟨rfl,hu⟩
 ·rw[hu] at hd;cases hd
  have:v= .int .i64 key:=hv;subst this;simp [IsKey]
 ·rw[hu] at hd;cases hd
  obtain⟨b,rfl, -⟩:=hv;simp [IsKey]
theorem bytes_inj {b b':ByteArray}:b.data.toList=b'.data.toList↔b=b':=by
 constructor
 ·intro h;cases b;cases b';simp at h;subst h;rfl
 ·rintro rfl;rfl
theorem Ic {kt:TypeId} {κ:Ty} {key k':κ.T} {v v':Value} {d:TypeDesc} (hk:GL P kt κ) (hd:P.underlying kt=some d) (hv:CM κ key v) (hv':CM κ k' v'):Instr.sameNow d v v'=some (qO κ k' key):=by
 rcases hk with⟨rfl,hu⟩ |⟨rfl,hu⟩
 ·rw[hu] at hd;cases hd
  have e1:v= .int .i64 key:=hv;have e2:v'= .int .i64 k':=hv';subst e1;subst e2;have:((show Int from key)==(show Int from k'))=((show Int from k')==(show Int from key)):=by
   rw[Bool.eq_iff_iff];simp only[beq_iff_eq];exact eq_comm
  simp only[Instr.sameNow,qO,if_pos rfl];exact congrArg some this
 ·rw[hu] at hd;cases hd
  obtain⟨b,rfl,e1⟩:=hv;obtain⟨b',rfl,e2⟩:=hv';simp only[Instr.sameNow,qO];have:(b==b')=((show Str from k')==(show Str from key)):=by
   rw[Bool.eq_iff_iff,bytes_beq,<-bytes_inj,e1,e2];simp only[beq_iff_eq];exact eq_comm
  exact congrArg some this
theorem EI {kt:TypeId} {κ:Ty} {key k':κ.T} {v v':Value} (hk:GL P kt κ) (hv:CM κ key v) (hv':CM κ k' v') (h:qO κ k' key=true):v'=v:=by
 rcases hk with⟨rfl,hu⟩ |⟨rfl,hu⟩
 ·have e1:v= .int .i64 key:=hv
  have e2:v'= .int .i64 k':=hv';have e3:k'=key:=by
   have:((show Int from k')==(show Int from key))=true:=h;exact beq_iff_eq.1 this
  rw[e1,e2,e3]
 ·obtain⟨b,rfl,e1⟩:=hv
  obtain⟨b',rfl,e2⟩:=hv';have e3:(show Str from k')=key:=by
   have:((show Str from k')==(show Str from key))=true:=h;exact beq_iff_eq.1 this
  rw[bytes_inj.1 (e2.trans (e3.trans e1.symm))]
theorem kS {kt:TypeId} {κ τ:Ty} {key:κ.T} {v:Value} {d:TypeDesc} {ag:Bool} (hk:GL P kt κ) (hd:P.underlying kt=some d) (hv:CM κ key v):
 ∀{l:List (κ.T×τ.T×Nat)} {es:List MapEntry} (i:Nat),bR (Dp g w ag) l es->
  (∃(j:Nat) (x:κ.T×τ.T×Nat) (e:MapEntry),l[j]? =some x/\es[j]? =some e/\qO κ x.1 key=true/\(∀(i':Nat) (x':κ.T×τ.T×Nat),i'<j->l[i']? =some x'->qO κ x'.1 key=false)/\Instr.findNow d v es i=some (some (i+j,e.val)))\/
  ((∀x∈l,qO κ x.1 key=false)/\Instr.findNow d v es i=some none)
 | [], [],i, .nil=> .inr ⟨λx hx=>by simp at hx,rfl⟩
 |x::l,e::es,i, .cons hx ht=>by
  have h1:=Ic hk hd hv hx.1;cases hb:qO κ x.1 key with
  |true=>
   refine .inl ⟨0,x,e,rfl,rfl,hb,λi' x' h=>by omega, ?_⟩;simp [Instr.findNow,h1,hb]
  |false=>
   rcases kS hk hd hv (i+1) ht with⟨j,x',e',h2,h3,h4,h5,h6⟩ |⟨h2,h3⟩
   ·refine .inl ⟨j+1,x',e',by simpa using h2,by simpa using h3,h4,λi' x'' hi hx''=> ?_, ?_⟩
    ·cases i' with
     |zero=>simp at hx'';subst hx'';exact hb
     |succ i'=>exact h5 i' x'' (by omega) (by simpa using hx'')
    ·simp only[Instr.findNow,h1,hb,h6]
     congr 2;congr 1;omega
   ·refine .inr ⟨λy hy=> ?_, ?_⟩
    ·rcases List.mem_cons.1 hy with rfl|hy
     ·exact hb
     ·exact h2 y hy
    ·simp only[Instr.findNow,h1,hb,h3]
theorem zE {κ τ:Ty} {key:κ.T} {kv:τ.T->Nat->Option R} {kn:Option R}:∀{l:List (κ.T×τ.T×Nat)},lO key l kv kn=some res->
 (∃(j:Nat) (x:κ.T×τ.T×Nat),l[j]? =some x/\qO κ x.1 key=true/\(∀(i':Nat) (x':κ.T×τ.T×Nat),i'<j->l[i']? =some x'->qO κ x'.1 key=false)/\kv x.2.1 x.2.2=some res)\/((∀x∈l,qO κ x.1 key=false)/\kn=some res)
 | [],h=> .inr ⟨λx hx=>by simp at hx,h⟩
 |x::l,h=>by
  simp only[lO] at h;rcases a_ h with⟨hb,h⟩ |⟨hb,h⟩
  ·exact .inl ⟨0,x,rfl,hb,λi' x' h=>by omega,h⟩
  ·rcases zE h with⟨j,x',h1,h2,h3,h4⟩ |⟨h1,h2⟩
   ·refine .inl ⟨j+1,x',by simpa using h1,h2,λi' x'' hi hx''=> ?_,h4⟩
    cases i' with
    |zero=>simp at hx'';subst hx'';exact hb
    |succ i'=>exact h3 i' x'' (by omega) (by simpa using hx'')
   ·refine .inr ⟨λy hy=> ?_,h2⟩
    rcases List.mem_cons.1 hy with rfl|hy
    ·exact hb
    ·exact h1 y hy
theorem xq {κ τ:Ty} {key:κ.T} {v:τ.T} {ck:Nat}:∀{l:List (κ.T×τ.T×Nat)} {j:Nat} {x:κ.T×τ.T×Nat},l[j]? =some x->qO κ x.1 key=true->(∀(i':Nat) (x':κ.T×τ.T×Nat),i'<j->l[i']? =some x'->qO κ x'.1 key=false)->
 AS key v ck l=l.set j (x.1,v,x.2.2)/\Kw key ck l=ck
 |y::l,0,x,h1,h2,h3=>by
  simp at h1;subst h1;simp [AS,Kw,Fk,h2]
 |y::l,j+1,x,h1,h2,h3=>by
  have h0:=h3 0 y (by omega) rfl;have ih:=xq (v:=v) (ck:=ck) (l:=l) (j:=j) (by simpa using h1) h2 (λi' x' hi hx'=>h3 (i'+1) x' (by omega) (by simpa using hx'));refine⟨by simp only[AS,h0,ih.1,List.set_cons_succ], ?_⟩;have:=ih.2;unfold Kw at this⊢;simp only[Fk,h0];exact this
theorem zy {κ τ:Ty} {key:κ.T} {v:τ.T} {ck:Nat}:∀{l:List (κ.T×τ.T×Nat)},(∀x∈l,qO κ x.1 key=false)->AS key v ck l=l++[(key,v,ck)]/\Kw key ck l=ck+1
 | [],_=>⟨rfl,rfl⟩
 |y::l,h=>by
  have h0:=h y (by simp);have ih:=zy (v:=v) (ck:=ck) (l:=l) (λx hx=>h x (by simp [hx]));refine⟨by simp only[AS,h0,ih.1,List.cons_append], ?_⟩;have:=ih.2;unfold Kw at this⊢;simp only[Fk,h0];exact this
theorem Cz (h:Rel P base w0 S0 N D sv g σ a w) (C:aE P c) {t:TypeId} {x i:Operand} {kk:(id:Nat)->(ag:Bool)->(κ τ:Ty)->List (κ.T×τ.T×Nat)->Nat->κ.T->TI->Option R} (hs:sC c σ t x i kk=some res):
 ∃(id:Nat) (ag:Bool) (κ τ:Ty) (l:List (κ.T×τ.T×Nat)) (ck:Nat) (key:κ.T) (te:TI) (kt e:TypeId) (b:Gb) (q:Nat) (es:Array MapEntry),
  kk id ag κ τ l ck key te=some res/\look id σ.mem=some (.map ag κ τ l ck)/\P.underlying t=some (.map kt e)/\GL P kt κ/\c.ti e=some te/\a.eval x= .map (some q)/\CM κ key (a.eval i)/\
  g.m id=some b/\b.blk=some q/\w.heap[q]? =some (.map es ck)/\bR (Dp g w ag) l es.toList:=by
 have E:=h.env C [x,i];unfold sC at hs;split at hs
 ·rename_i ag0 sz z κ τ0 kt e hti
  split at hs
  ·rename_i id ki te hx hi hte
   split at hs
   ·rename_i ag κ' τ l ck hl
    split at hs
    ·rename_i hsame
     split at hs
     ·rename_i key hkey
      obtain⟨i',d,T⟩:=C.ts _ _ hti;obtain⟨rfl,hk, -⟩:=T.map rfl;obtain⟨b,hb,q,es,hq,hh,ha⟩:=h.mem id _ hl;have hxv:a.eval x= .map (some q):=by
       have:=E.evA (by simp) hx;generalize a.eval x=u at this⊢;cases this with
       |gp _ b' k' hm hk'=>rw[hb] at hm;cases hm;rw[hq] at hk';cases hk';rfl
      have hkt:GL P kt κ':=by
       rcases hk with⟨rfl,hu⟩ |⟨rfl,hu⟩
       ·cases κ'<;>simp [LU] at hsame;exact .inl ⟨rfl,hu⟩
       ·cases κ'<;>simp [LU] at hsame;exact .inr ⟨rfl,hu⟩
      exact⟨id,ag,κ',τ,l,ck,key,te,kt,e,b,q,es,hs,hl,T.und,hkt,hte,hxv,OE (E.evA (by simp) hi) hkey,hb,hq,hh,ha⟩
     ·simp at hs
    ·simp at hs
   ·simp at hs
  ·simp at hs
 ·simp at hs
theorem JJ (h:Rel P base w0 S0 N D sv g σ a w) (C:aE P c) (hN:c.N=N) (hF:bP F) {K:Act->World->Prop} {Q:Exit->Act->World->Prop} (hK:∀g' σ' a' w',k σ'=some res->Rel P base w0 S0 N D sv g' σ' a' w'->K a' w') {t:TypeId} {nn:Option Operand}
 (hop:o.op= .makeMap t nn) (hs:zQ c o σ t nn k=some res):o.wpIn F n P a w K Q:=by
 unfold zQ at hs;split at hs
 ·rename_i hint
  split at hs
  ·rename_i ag0 sz z κ τ kt e hti
   split at hs
   ·rename_i te hte
    obtain⟨i',d,T⟩:=C.ts _ _ hti;obtain⟨rfl,hk, -⟩:=T.map rfl;obtain⟨b,hbd⟩:∃b:Gb,b=⟨some w.heap.size,0,0,0,default⟩:=⟨_,rfl⟩;have hbl:Below w.heap.size w (w.alloc (.map #[] 0)):=Below.push (obj:= .map #[] 0) rfl rfl rfl rfl;have hn:=h.new (w':=w.alloc (.map #[] 0)) (id:=σ.nx) (Nat.le_refl _) (b:=b) (x:= .map te.agg κ τ [] 0) hbl ⟨w.heap.size, #[],by rw[hbd],o4 (w':=w.alloc (.map #[] 0)) rfl, .nil⟩ (λq hq=>by rw[hbd] at hq;cases hq;exact⟨Nat.le_refl _,by simp⟩);have hv:VA (g.set σ.nx b) (w.alloc (.map #[] 0)) (.gp σ.nx) (.map (some w.heap.size)):=VA.gp σ.nx b _ (by simp [Gh.set]) (by rw[hbd]);obtain⟨σ2,hk2,h2⟩:=hn.put hN (x:= .one (.gp σ.nx)) hv hs;refine bK hF (by simp [hop]) ?_ (hK _ _ _ _ hk2 h2);cases nn with
    |none=>simp [execOp,hop,Instr.makeMap]
    |some x=>
     unfold LI at hint;split at hint
     ·cases ‹some x=none›
     ·rename_i y heq
      obtain rfl:=Option.some.inj heq;split at hint
      ·rename_i κ0 q0 hy
       have E:=h.env C [x];have hyv:a.eval x= .int κ0 q0:=by
        have:=E.evA (by simp) hy;generalize a.eval x=u at this⊢;cases this;rfl
       simp [execOp,hop,Instr.makeMap,hyv,run_underlying T.und,asInt,asIntOf]
      ·cases hint
   ·simp at hs
  ·simp at hs
 ·simp at hs
theorem bR.Aa {α β:Type} {R:α->β->Prop} {l:List α} {m:List β} (h:bR R l m) {i:Nat} {a:α} {b:β} (ha:l[i]? =some a) (hb:m[i]? =some b):R a b:=by
 obtain⟨b',hb',hr⟩:=h.get ha;rw[hb] at hb';cases hb';exact hr
theorem Rel.Rw (h:Rel P base w0 S0 N D sv g σ a w) {id:Nat} {b:AB} (hl:look id σ.mem=some b):Rel P base w0 S0 N D sv g (σ.set id b) a w:=by
 have e:∀i,look i (σ.set id b).mem=look i σ.mem:=λi=>by
  simp only[St.set,ba];split
  ·rename_i e;subst e;exact hl.symm
  ·rfl
 exact{h with mem:=λi x hx=>h.mem i x (by rw[<-e];exact hx),inj:=λi i' x x' b b' q h1 h2=>h.inj i i' x x' b b' q (by rw[<-e];exact h1) (by rw[<-e];exact h2),own:=λi x b q h1=>h.own i x b q (by rw[<-e];exact h1),lp:=λi x b h1=>h.lp i x b (by rw[<-e];exact h1)}
theorem Mg (h:Rel P base w0 S0 N D sv g σ a w) (C:aE P c) (hN:c.N=N) (hF:bP F) {K:Act->World->Prop} {Q:Exit->Act->World->Prop} (hK:∀g' σ' a' w',k σ'=some res->Rel P base w0 S0 N D sv g' σ' a' w'->K a' w') {t:TypeId} {x i:Operand} {ok:Bool}
 (hop:o.op= .lookup t x i ok) (hs:yt c o σ t x i ok k=some res):o.wpIn F n P a w K Q:=by
 unfold yt at hs;obtain⟨id,ag,κ,τ,l,ck,key,te,kt,e,b,q,es,hs,hl,hu,hkt,hte,hxv,hkv,hb,hq,hh,ha⟩:=Cz h C hs;obtain⟨d,hd⟩:=F6 hkt;have hik:=DK hkt hd hkv;have hR:Rel P base w0 S0 N D sv g (σ.set id (.map ag κ τ l ck)) a w:=h.Rw hl;have fin:∀{y:V1} {v:Value} {bb:Bool},V1R g w y v->(σ.set id (.map ag κ τ l ck)).put c o.dst (nM ok y bb) k=some res->(Instr.lookup t (a.eval x) (a.eval i) ok).run P w= .ok (if ok then .tuple #[v, .bool bb] else v) w->o.wpIn F n P a w K Q:=by
  intro y v bb hv hp hr;have hav:AVR g w (nM ok y bb) (if ok then .tuple #[v, .bool bb] else v):=by
   cases ok with
   |true=>exact⟨[v, .bool bb],rfl, .cons hv (.cons (VA.bool bb) .nil)⟩
   |false=>exact hv
  obtain⟨σ2,hk2,h2⟩:=hR.put hN hav hp;refine bK hF (by simp [hop]) ?_ (hK _ _ _ _ hk2 h2);simp [execOp,hop,hr]
 rcases zE hs with⟨j,xe,h1,h2,h3,hs⟩ |⟨h1,hs⟩
 ·obtain⟨y,hy,hs⟩:=bo hs
  rcases kS hkt hd hkv 0 ha with⟨j',xe',e',g1,g2,g3,g4,g5⟩ |⟨g1,g2⟩
  ·have ej:j=j':=by
    rcases Nat.lt_trichotomy j j' with hlt|hlt|hlt
    ·have:=g4 j xe hlt h1;rw[h2] at this;cases this
    ·exact hlt
    ·have:=h3 j' xe' hlt g1;rw[g3] at this;cases this
   subst ej;rw[h1] at g1;cases g1;obtain⟨-, -,y',hy',hv⟩:=ha.Aa h1 g2;rw[hy] at hy';cases hy';refine fin hv hs ?_;have e0:=run_findKey (P:=P) (w:=w) hd (l:=es.toList) g5;simp only[Instr.lookup,hxv,Sem.run_bind,run_underlying hu,Result.andThen,Go.MapKept.run_getObj_map hh,Sem.run_pure,Go.MapKept.run_checkKey hd hik,e0]
  ·exact absurd (g1 xe (List.mem_of_getElem? h1)) (by rw[h2];simp)
 ·rcases kS hkt hd hkv 0 ha with⟨j',xe',e',g1,g2,g3,g4,g5⟩ |⟨g1,g2⟩
  ·exact absurd (h1 xe' (List.mem_of_getElem? g1)) (by rw[g3];simp)
  ·obtain⟨i2,d2,T2⟩:=C.ts e te hte
   obtain⟨z,hz, -,hzr⟩:=T2.zero;refine fin (hzr g w) hs ?_;have e0:=run_findKey (P:=P) (w:=w) hd (l:=es.toList) g2;have ez:(zeroValue e).run P w= .ok z w:=by simp [zeroValue,typeInfo,T2.info,hz]
   simp only[Instr.lookup,hxv,Sem.run_bind,run_underlying hu,Result.andThen,Go.MapKept.run_getObj_map hh,Sem.run_pure,Go.MapKept.run_checkKey hd hik,e0,ez]
theorem Rel.As (h:Rel P base w0 S0 N D sv g σ a w) {id:Nat} {ag:Bool} {κ τ:Ty} {l:List (κ.T×τ.T×Nat)} {ck:Nat} {b:Gb} {q:Nat} {es:Array MapEntry} (hl:look id σ.mem=some (.map ag κ τ l ck)) (hb:g.m id=some b) (hq:b.blk=some q) (hh:w.heap[q]? =some (.map es ck))
 {l':List (κ.T×τ.T×Nat)} {ck':Nat} {es':Array MapEntry} (ha:bR (Dp g w ag) l' es'.toList):Rel P base w0 S0 N D sv g (σ.set id (.map ag κ τ l' ck')) a {w with heap:=w.heap.setIfInBounds q (.map es' ck')}:=by
 have hown:=h.own id _ b q hl rfl hb hq;refine h.set (w':={w with heap:=w.heap.setIfInBounds q (.map es' ck')}) hl rfl hb hq (by simp) (λj hj=>(heap_set hh).2 j hj) ⟨rfl,rfl,rfl⟩ (λhH=> ?_);refine⟨q,es',hq,(heap_set hh).1,ha.mono λx e k=>k.of λy v hy hv=> ?_⟩;have hH':cr g w {w with heap:=w.heap.setIfInBounds q (.map es' ck')}:=λj hj=>(heap_set hh).2 j (λe=>by subst e;exact hown.2 hj)
 exact hv.mono hH' (Gh.le.refl g)
theorem QH {τ:Ty} {l:List At} {x:τ.T} (h:τ.qH l=some x) {vs:List Value} (hv:bR (VA g w) l vs):bR (VA g w) (τ.enc x) vs:=by
 rw[rr τ h];exact hv.Ho λ_ _ k=>k.iF
theorem bR.push {α β:Type} {R:α->β->Prop} {l:List α} {m:List β} (h:bR R l m) {a:α} {b:β} (hr:R a b):bR R (l++[a]) (m++[b]):=h.append (.cons hr .nil)
theorem V1.G5 {ag:Bool} {x:V1} (hx:x.is ag=true) {v:Value} (hv:V1R g w x v) {τ:Ty} {e:τ.T} (he:τ.qH x.cells=some e):∃y',V1.dB ag (τ.enc e)=some y'/\V1R g w y' v:=by
 have hva:=QH he hv.cells;cases x with
 |one x=>
  have hag:ag=false:=by simpa [V1.is] using hx
  subst hag;have h1:VA g w x v:=hv;have h2:=h1.one;have e1:v.cells.toList=[v]:=by cases v<;>first|rfl|(simp [Value.oneCell'] at h2)
  have hl:(τ.enc e).length=1:=by
   have:=hva.length;rw[e1] at this;exact this
  obtain⟨z,hz⟩:=List.length_eq_one_iff.1 hl;rw[e1] at hva;rw[hz] at hva⊢;cases hva with|cons ha _=>exact⟨_,rfl,ha⟩
 |agg l=>
  have hag:ag=true:=hx;subst hag;obtain⟨vs,rfl,_⟩:=hv;exact⟨.agg (τ.enc e),rfl,vs,rfl,hva⟩
theorem oA {es:Array MapEntry} {j:Nat} {e:MapEntry} {f:MapEntry->MapEntry} (h:es.toList[j]? =some e):(es.modify j f).toList=es.toList.set j (f e):=by
 have hj:j<es.size:=by have:=(List.getElem?_eq_some_iff.1 h).1;simpa using this
 apply List.ext_getElem?;intro i;simp only[Array.toList_modify,List.getElem?_modify,List.getElem?_set];split
 ·rename_i e1;subst e1
  rw[if_pos (by simpa using hj),h];rfl
 ·cases es.toList[i]? <;>rfl
theorem D9 (h:Rel P base w0 S0 N D sv g σ a w) (C:aE P c) (hN:c.N=N) (hF:bP F) {K:Act->World->Prop} {Q:Exit->Act->World->Prop} (hK:∀g' σ' a' w',k σ'=some res->Rel P base w0 S0 N D sv g' σ' a' w'->K a' w') {t:TypeId} {x i v:Operand}
 (hop:o.op= .mapUpdate t x i v\/o.op= .insert t x i v) (hs:yz c o σ t x i v k=some res):o.wpIn F n P a w K Q:=by
 unfold yz at hs;obtain⟨id,ag,κ,τ,l,ck,key,te,kt,e,b,q,es,hs,hl,hu,hkt,hte,hxv,hkv,hb,hq,hh,ha⟩:=Cz h C hs;obtain⟨d,hd⟩:=F6 hkt;have hik:=DK hkt hd hkv;have E:=h.env C [v];split at hs
 ·rename_i y hy
  have hyv:=E.evV (by simp) hy;split at hs
  ·rename_i z hag hz
   obtain⟨y',hy',hyr⟩:=V1.G5 hag hyv hz;have hnd:∀c,o.op≠ .defer c:=λc=>by rcases hop with e|e<;>simp [e]
   have hex:∀{w2:World},(Instr.mapUpdate t (a.eval x) (a.eval i) (a.eval v)).run P w= .ok () w2->(execOp a.eval o).run P w= .ok .skip w2:=λ{w2} hr=>by
    rcases hop with e|e<;>simp [execOp,e,hr]
   rcases kS hkt hd hkv 0 ha with⟨j,xe,e',g1,g2,g3,g4,g5⟩ |⟨g1,g2⟩
   ·obtain⟨e1,e2⟩:=xq (v:=z) (ck:=ck) g1 g3 g4
    have hxe:=ha.Aa g1 g2;have hsame:=EI hkt hkv hxe.1 g3;have g2':es[j]? =some e':=by simpa using g2
    rw[e1,e2] at hs;have hR:=h.As (es':=es.modify j λe=>{e with key:=a.eval i,val:=a.eval v}) (l':=l.set j (xe.1,z,xe.2.2)) (ck':=ck) hl hb hq hh (by
     rw[oA g2];refine ha.set (a:=(xe.1,z,xe.2.2)) (b:={e' with key:=a.eval i,val:=a.eval v}) ?_ j;exact⟨by rw[<-hsame];exact hxe.1,hxe.2.1,y',hy',hyr⟩)
    obtain⟨σ2,hk2,h2⟩:=hR.put hN (x:= .undef) (v:=undef) rfl hs;refine mF hF hnd (hex ?_) (hK _ _ _ _ hk2 h2);have e0:=run_findKey (P:=P) (w:=w) hd (l:=es.toList) g5;simp [Instr.mapUpdate,hxv,run_underlying hu,Go.MapKept.run_getObj_map hh,Go.MapKept.run_checkKey hd hik,e0,g2',hsame,run_keyThatStays hik,run_setObj_map _ hh,Result.andThen]
   ·obtain⟨e1,e2⟩:=zy (v:=z) (ck:=ck) g1
    rw[e1,e2] at hs;have hR:=h.As (es':=es.push {key:=a.eval i,val:=a.eval v,born:=ck}) (l':=l++[(key,z,ck)]) (ck':=ck+1) hl hb hq hh (by
     rw[Array.toList_push];exact ha.push ⟨hkv,rfl,y',hy',hyr⟩)
    obtain⟨σ2,hk2,h2⟩:=hR.put hN (x:= .undef) (v:=undef) rfl hs;refine mF hF hnd (hex ?_) (hK _ _ _ _ hk2 h2);have e0:=run_findKey (P:=P) (w:=w) hd (l:=es.toList) g2;simp [Instr.mapUpdate,hxv,run_underlying hu,Go.MapKept.run_getObj_map hh,Go.MapKept.run_checkKey hd hik,e0,run_setObj_map _ hh,Result.andThen]
  ·simp at hs
 ·simp at hs
theorem Lz (h:Rel P base w0 S0 N D sv g σ a w) (C:aE P c) (hN:c.N=N) (hF:bP F) {K:Act->World->Prop} {Q:Exit->Act->World->Prop} (hK:∀g' σ' a' w',k σ'=some res->Rel P base w0 S0 N D sv g' σ' a' w'->K a' w') {t:TypeId} {x i:Operand}
 (hop:o.op= .mapEntry t x i) (hs:Da c o σ t x i k=some res):o.wpIn F n P a w K Q:=by
 unfold Da at hs;obtain⟨id,ag,κ,τ,l,ck,key,te,kt,e,b,q,es,hs,hl,hu,hkt,hte,hxv,hkv,hb,hq,hh,ha⟩:=Cz h C hs;obtain⟨d,hd⟩:=F6 hkt;have hik:=DK hkt hd hkv;rcases zE hs with⟨j,xe,h1,h2,h3,hs⟩ |⟨h1,hs⟩
 ·obtain⟨y,hy,hs⟩:=bo hs
  rcases kS hkt hd hkv 0 ha with⟨j',xe',e',g1,g2,g3,g4,g5⟩ |⟨g1,g2⟩
  ·have ej:j=j':=by
    rcases Nat.lt_trichotomy j j' with hlt|hlt|hlt
    ·have:=g4 j xe hlt h1;rw[h2] at this;cases this
    ·exact hlt
    ·have:=h3 j' xe' hlt g1;rw[g3] at this;cases this
   subst ej;rw[h1] at g1;cases g1;have hxe:=ha.Aa h1 g2;have hsame:=EI hkt hkv hxe.1 h2;have g2':es[j]? =some e':=by simpa using g2
   obtain⟨hk1,hborn,y',hy',hv⟩:=hxe;rw[hy] at hy';cases hy';have hR:=h.As (es':=es.modify j λe=>{e with key:=a.eval i}) (l':=l) (ck':=ck) hl hb hq hh (by
    rw[oA g2];have e9:l=l.set j xe:=by
     obtain⟨hj,e⟩:=List.getElem?_eq_some_iff.1 h1;rw[<-e];simp
    rw[e9];refine ha.set (a:=xe) (b:={e' with key:=a.eval i}) ?_ j;exact⟨by rw[<-hsame];exact hk1,hborn,y,hy,hv⟩)
   have hR2:Rel P base w0 S0 N D sv g σ a {w with heap:=w.heap.setIfInBounds q (.map (es.modify j λe=>{e with key:=a.eval i}) ck)}:=by
    have e:∀i,look i (σ.set id (.map ag κ τ l ck)).mem=look i σ.mem:=λi=>by
     simp only[St.set,ba];split
     ·rename_i e;subst e;exact hl.symm
     ·rfl
    exact{az:=hR.az,size:=hR.size,dfr:=hR.dfr,glo:=hR.glo,lp:=λi z b h1=>hR.lp i z b (by rw[e];exact h1),mem:=λi z hz=>hR.mem i z (by rw[e];exact hz),inj:=λi i' z z' b b' q h1 h2=>hR.inj i i' z z' b b' q (by rw[e];exact h1) (by rw[e];exact h2),own:=λi z b q h1=>hR.own i z b q (by rw[e];exact h1),S:=hR.S,blk:=hR.blk,nx:=hR.nx,bel:=hR.bel,bs:=hR.bs,sub:=hR.sub}
   have hv2:AVR g {w with heap:=w.heap.setIfInBounds q (.map (es.modify j λe=>{e with key:=a.eval i}) ck)} (.tup [y, .one (.int .i64 xe.2.2)]) (.tuple #[e'.val, .int .i64 xe.2.2]):=by
    have hown:=h.own id _ b q hl rfl hb hq;exact⟨[e'.val, .int .i64 xe.2.2],rfl, .cons (hv.mono (λj hj=>(heap_set hh).2 j (λe=>by subst e;exact hown.2 hj)) (Gh.le.refl g)) (.cons (VA.int _ _) .nil)⟩
   obtain⟨σ2,hk2,h2⟩:=hR2.put hN hv2 hs;refine bK hF (by simp [hop]) ?_ (hK _ _ _ _ hk2 h2);have e0:=run_findKey (P:=P) (w:=w) hd (l:=es.toList) g5;simp [execOp,hop,Instr.mapEntry,hxv,run_underlying hu,Go.MapKept.run_getObj_map hh,Go.MapKept.run_checkKey hd hik,e0,g2',hsame,run_keyThatStays hik,run_setObj_map _ hh,Result.andThen,hborn,goInt]
  ·exact absurd (g1 xe (List.mem_of_getElem? h1)) (by rw[h2];simp)
 ·rcases kS hkt hd hkv 0 ha with⟨j',xe',e',g1,g2,g3,g4,g5⟩ |⟨g1,g2⟩
  ·exact absurd (h1 xe' (List.mem_of_getElem? g1)) (by rw[g3];simp)
  ·split at hs
   ·rename_i hag
    obtain⟨z,hz,hs⟩:=bo hs;obtain⟨i2,d2,T2⟩:=C.ts e te hte;obtain⟨zv,hzv, -,hzr⟩:=T2.zero;obtain⟨y',hy',hyr⟩:=V1.G5 hag (hzr g w) hz;have hR:=h.As (es':=es.push {key:=a.eval i,val:=zv,born:=ck}) (l':=l++[(key,z,ck)]) (ck':=ck+1) hl hb hq hh (by
     rw[Array.toList_push];exact ha.push ⟨hkv,rfl,y',hy',hyr⟩)
    obtain⟨σ2,hk2,h2⟩:=hR.put hN (x:= .tup [te.zero, .one (.int .i64 ck)]) (v:= .tuple #[zv, .int .i64 ck]) ⟨[zv, .int .i64 ck],rfl, .cons (hzr _ _) (.cons (VA.int _ _) .nil)⟩ hs;refine bK hF (by simp [hop]) ?_ (hK _ _ _ _ hk2 h2);have e0:=run_findKey (P:=P) (w:=w) hd (l:=es.toList) g2;have ez:(zeroValue e).run P w= .ok zv w:=by simp [zeroValue,typeInfo,T2.info,hzv]
    simp [execOp,hop,Instr.mapEntry,hxv,run_underlying hu,Go.MapKept.run_getObj_map hh,Go.MapKept.run_checkKey hd hik,e0,ez,run_setObj_map _ hh,Result.andThen,goInt]
   ·simp at hs
theorem Iz {ag:Bool} {κ τ:Ty} {bn:Int} {v:τ.T} {vv:Value}:∀{l l':List (κ.T×τ.T×Nat)} {es:List MapEntry},MY bn v l=some l'->bR (Dp g w ag) l es->(∃y,V1.dB ag (τ.enc v)=some y/\V1R g w y vv)->
 ∃j,es.findIdx? (λe=>(e.born:Int)==bn)=some j/\∃e,es[j]? =some e/\bR (Dp g w ag) l' (es.set j {e with val:=vv})
 | [],l',es,h,_,_=>by simp [MY] at h
 |x::l,l',_,h, .cons (b:=e) (m:=es) hx ht,hv=>by
  simp only[MY] at h;split at h
  ·rename_i hb
   cases h;refine⟨0, ?_,e,rfl, ?_⟩
   ·rw[List.findIdx?_cons,hx.2.1,hb];rfl
   ·obtain⟨y,hy,hr⟩:=hv
    exact .cons ⟨hx.1,hx.2.1,y,hy,hr⟩ ht
  ·rename_i hb
   split at h
   ·rename_i l2 hl2
    cases h;obtain⟨j,h1,e2,h2,h3⟩:=Iz hl2 ht hv;refine⟨j+1, ?_,e2,by simpa using h2, ?_⟩
    ·rw[List.findIdx?_cons,hx.2.1,hb,h1];rfl
    ·exact .cons hx h3
   ·cases h
theorem P7 (h:Rel P base w0 S0 N D sv g σ a w) (C:aE P c) (hN:c.N=N) (hF:bP F) {K:Act->World->Prop} {Q:Exit->Act->World->Prop} (hK:∀g' σ' a' w',k σ'=some res->Rel P base w0 S0 N D sv g' σ' a' w'->K a' w') {t:TypeId} {x s v:Operand}
 (hop:o.op= .entryStore t x s v) (hs:HY c o σ t x s v k=some res):o.wpIn F n P a w K Q:=by
 unfold HY at hs;have E:=h.env C [x,s,v];split at hs
 ·rename_i id κ0 bn y hx hsv hy
  split at hs
  ·rename_i ag κ τ l ck hl
   split at hs
   ·rename_i z hag hz
    obtain⟨l',hl',hs⟩:=bo hs;obtain⟨b,hb,q,es,hq,hh,ha⟩:=h.mem id _ hl;have hxv:a.eval x= .map (some q):=by
     have:=E.evA (by simp) hx;generalize a.eval x=u at this⊢;cases this with
     |gp _ b' k' hm hk'=>rw[hb] at hm;cases hm;rw[hq] at hk';cases hk';rfl
    have hsv':a.eval s= .int κ0 bn:=by
     have:=E.evA (by simp) hsv;generalize a.eval s=u at this⊢;cases this;rfl
    obtain⟨y',hy',hyr⟩:=V1.G5 hag (E.evV (by simp) hy) hz;obtain⟨j,h1,e,h2,h3⟩:=Iz hl' ha ⟨y',hy',hyr⟩;have hR:=h.As (es':=es.modify j λe=>{e with val:=a.eval v}) (l':=l') (ck':=ck) hl hb hq hh (by rw[oA h2];exact h3);obtain⟨σ2,hk2,h2⟩:=hR.put hN (x:= .undef) (v:=undef) rfl hs;refine mF hF (by simp [hop]) ?_ (hK _ _ _ _ hk2 h2);have hf:es.findIdx? (λe=>(e.born:Int)==bn)=some j:=by rw[<-Array.toArray_toList (xs:=es),List.findIdx?_toArray];exact h1
    simp [execOp,hop,Instr.entryStore,hxv,hsv',asInt,asIntOf,Go.MapKept.run_getObj_map hh,hf,run_setObj_map _ hh,Result.andThen]
   ·simp at hs
  ·simp at hs
 ·simp at hs
end
end Go.Eng
namespace Go.Eng
open Go Go.RowKit
section
variable {P:Program} [aD P] {F:Fence} {n:Nat} {c:Cfg} {g g':Gh} {r:cj} {m:Mem} {a:Act} {w w':World} {o:Oper} {R:Type} {k:St->Option R} {res:R} {xs:List Operand}
variable {base:Nat} {w0:World} {S0:Nat->Prop} {N:Nat} {D:Wt} {sv:Nat->Value} {σ:St}
theorem xc {x:At} {kk:At->Option R} (h:viewAt m x kk=some res):(∃y,kk y=some res)/\∀i∈kh x,∃τ l,look i m=some (.row τ l):=by
 cases x<;>simp only[viewAt,reduceCtorEq] at h
 case own id=>
  simp only[cg] at h;split at h
  ·rename_i τ l hl
   exact⟨⟨_,h⟩,λi hi=>by simp [kh] at hi;subst hi;exact⟨τ,l,hl⟩⟩
  ·simp at h
 case sub id off len=>
  simp only[cg] at h;split at h
  ·rename_i τ l hl
   split at h
   ·exact⟨⟨_,h⟩,λi hi=>by simp [kh] at hi;subst hi;exact⟨τ,l,hl⟩⟩
   ·simp at h
  ·simp at h
 all_goals exact⟨⟨_,h⟩,λi hi=>by simp [kh] at hi⟩
theorem tx:∀{l:List At} {kk:List At->Option R},ji m l kk=some res->(∃y,kk y=some res)/\∀i∈wW l,∃τ l,look i m=some (.row τ l)
 | [],kk,h=>⟨⟨_,h⟩,λi hi=>by simp [wW] at hi⟩
 |x::l,kk,h=>by
  simp only[ji] at h;obtain⟨⟨y,h1⟩,h2⟩:=xc h;obtain⟨⟨y',h3⟩,h4⟩:=tx h1;refine⟨⟨_,h3⟩,λi hi=> ?_⟩;simp only[wW,List.mem_append] at hi;rcases hi with hi|hi
  ·exact h2 i hi
  ·exact h4 i hi
theorem l8:∀{l:List AV} {kk:List AV->Option R},dC m l kk=some res->(∃y,kk y=some res)/\∀i∈cR l,∃τ l,look i m=some (.row τ l)
 | [],kk,h=>⟨⟨_,h⟩,λi hi=>by simp [cR] at hi⟩
 |x::l,kk,h=>by
  simp only[dC] at h;unfold jk at h;split at h
  ·obtain⟨⟨y,h1⟩,h2⟩:=xc h
   obtain⟨⟨y',h3⟩,h4⟩:=l8 h1;refine⟨⟨_,h3⟩,λi hi=> ?_⟩;simp only[cR,List.mem_append] at hi;rcases hi with hi|hi
   ·exact h2 i hi
   ·exact h4 i hi
  ·obtain⟨⟨y,h1⟩,h2⟩:=tx h
   obtain⟨⟨y',h3⟩,h4⟩:=l8 h1;refine⟨⟨_,h3⟩,λi hi=> ?_⟩;simp only[cR,List.mem_append] at hi;rcases hi with hi|hi
   ·exact h2 i hi
   ·exact h4 i hi
  ·simp at h
theorem E9 (h:Rel P base w0 S0 N D sv g σ a w) (C:aE P c) (hN:c.N=N) (hF:bP F) {K:Act->World->Prop} {Q:Exit->Act->World->Prop} (hK:∀g' σ' a' w',k σ'=some res->Rel P base w0 S0 N D sv g' σ' a' w'->K a' w') {f:Operand} {args:Array Operand} {ts:Array TypeId}
 (hop:o.op= .call {callee:= .value f,args,argTypes:=ts}) (hs:yV c o f args ts σ k=some res):o.wpIn F n P a w K Q:=by
 unfold yV at hs;split at hs
 ·rename_i nn as hn has
  split at hs
  ·rename_i s hsp
   obtain⟨y,hy,hcall⟩:=C_ (n:=n) (h.env C (f::args.toList)) hF (by simp) (λx hx=>by simp [hx]) hop hn has (C.sp _ _ hsp) hs;split at hy
   ·rename_i hfl
    refine hcall K Q (λq=>q<w.heap.size) ⟨h.S,λid b q _ hb hq=>h.blk id b q hb hq⟩ (λq h=>h) (h.glo.mono (cr.refl _ _) h.S) λv w' hb hv=> ?_
    obtain⟨σ2,hk,h2⟩:=(h.grow hb).put hN (x:=y) (hv.flat hfl) hy;exact hK _ _ _ _ hk h2
   ·obtain⟨g1,σ1,h1,hr,hle,hfr⟩:=h.fy hy
    have hrows:=(l8 hs).2;refine hcall K Q g1.S ⟨hle.S,λid b q hi hb hq=> ?_⟩ hr.S (hr.glo.mono (cr.refl _ _) λ_ h=>h) λv w' hb hv=> ?_
    ·obtain⟨τ,l,hl⟩:=hrows id hi
     rcases hfr id τ l hl with hS|⟨hn,_⟩
     ·exact hS b q hb hq
     ·exact absurd hi hn
    ·obtain⟨σ2,hk,h2⟩:=(hr.grow hb).put hN (x:=y) (hv.mono (cr.refl _ _) ⟨λ_ h=>h,λ_ _ h=>by cases h⟩) h1
     exact hK _ _ _ _ hk h2
  ·simp at hs
 ·simp at hs
theorem Er {τ:Ty} (hf:τ.flat=true):∀(x:τ.T) (j:Nat) (y:At),(τ.enc x)[j]? =some y->qR y=true:=by
 intro x j y h;cases τ<;>simp [Ty.flat] at hf<;>simp only[Ty.enc] at h<;>
  (have hm:=List.mem_of_getElem? h;simp at hm;(try rcases hm with rfl|hm)<;>(try rcases hm with rfl|hm)<;>(try rcases hm with rfl|hm)<;>(try rcases hm with rfl|hm)<;>(try subst hm)<;>rfl)
theorem VA.X0 {g g':Gh} {w w':World} {x:At} {v:Value} (h:VA g w x v) (hp:qR x=true):VA g' w' x v:=V1R.flat (x:= .one x) h hp
theorem E3:∀{l:List At},(∀y∈l,qR y=true)->B1 l=true
 | [],_=>rfl
 |x::l,h=>by simp only[B1,h x (by simp)];exact E3 λy hy=>h y (by simp [hy])
theorem V1.CJ {ag:Bool} {l:List At} {y:V1} (h:V1.dB ag l=some y) (hl:∀y∈l,qR y=true):Dx y=true:=by
 unfold V1.dB at h;split at h
 ·cases h;exact E3 hl
 ·cases h;exact hl _ (by simp)
 ·cases h
theorem BR.flat {g g':Gh} {b:Gb} {x:AB} (h:BR P g w b x) (hf:BO x=true):BR P g' w b x:=by
 cases x<;>simp only[BO,Bool.false_eq_true] at hf
 case row τ l=>
  obtain⟨h1,h2,h3⟩:=h;refine⟨h1,h2, ?_⟩;rcases h3 with h3|⟨k,cs,e,hb,hh,hs,hl,ho,ha⟩
  ·exact .inl h3
  ·exact .inr ⟨k,cs,e,hb,hh,hs,hl,ho,λi x j y hx hy=>let ⟨v,hv,ha'⟩:=ha i x j y hx hy;⟨v,hv,ha'.X0 (Er hf x j y hy)⟩⟩
 case map ag κ τ l ck=>
  obtain⟨k,es,hb,hh,ha⟩:=h;refine⟨k,es,hb,hh,ha.mono λx e k=>k.of λy v hy hv=>V1R.flat hv (V1.CJ hy λz hz=> ?_)⟩;obtain⟨j,hj⟩:=List.getElem?_of_mem hz;exact Er hf _ j z hj
theorem Ca {f:Operand} {args:Array Operand} {ts:Array TypeId} {r:cj} {m:Mem} {nx:Nat} {kk:At->AB->Option R} (h:v_ c f args ts r m nx kk=some res):
 ∃(nn:Nat) (as as':List AV) (s:kx) (x:s.X) (ab:AB) (y:At),fk c r f=some nn/\fw c r args.toList ts.toList=some as/\look nn c.fresh=some s/\(∀{R':Type} (k':List AV->Option R'),dC m as k'=k' as')/\
  s.pat as'=some x/\s.f x=some ab/\DI nx ab=some y/\(BO ab=true\/cR as= [])/\kk y ab=some res:=by
 unfold v_ at h;split at h
 ·rename_i nn as hn has
  split at h
  ·rename_i s hs
   obtain⟨as',hu⟩:=AK h;rw[hu] at h;unfold v8 at h;split at h
   ·rename_i x hx
    obtain⟨ab,hab,h⟩:=bo h;split at h
    ·rename_i y hy
     simp only at h;split at h
     ·rename_i hc
      rw[Bool.or_eq_true] at hc;exact⟨nn,as,as',s,x,s.enc ab,y,hn,has,hs,hu,hx,(by unfold kx.f;rw[hab]),hy,hc.imp id (λh=>by simpa using h),h⟩
     ·cases h
    ·cases h
   ·cases h
  ·cases h
 ·cases h
theorem PX {g':Gh} {ab:AB} {b:Gb} {y y0:At} {v:Value} {id:Nat} (h0:DI 0 ab=some y0) (h1:DI id ab=some y) (hv:VA ⟨λ_=>False,λi=>if i=0 then some b else none⟩ w y0 v) (hm:g'.m id=some b):VA g' w y v:=by
 cases ab<;>simp only[DI,reduceCtorEq,Option.some.injEq] at h0 h1
 case row τ l=>
  subst h0;subst h1;cases hv with
  |own _ b' a hm' hk h0=>simp at hm';subst hm';exact .own id b a hm hk h0
 case map ag κ τ l ck=>
  subst h0;subst h1;cases hv with
  |gp _ b' k hm' hk=>simp at hm';subst hm';exact .gp id b k hm hk
theorem DQ (h:Rel P base w0 S0 N D sv g σ a w) (C:aE P c) (hN:c.N=N) (hF:bP F) {K:Act->World->Prop} {Q:Exit->Act->World->Prop} (hK:∀g' σ' a' w',k σ'=some res->Rel P base w0 S0 N D sv g' σ' a' w'->K a' w') {f:Operand} {args:Array Operand} {ts:Array TypeId}
 (hop:o.op= .call {callee:= .value f,args,argTypes:=ts}) (hs:vO c o f args ts σ k=some res):o.wpIn F n P a w K Q:=by
 obtain⟨nn,as,as',s,x,ab,y,hn,has,hsp,hu,hx,hab,hy,hc,hk⟩:=Ca hs;have E:=h.env C (f::args.toList);have hal:=jS E (λx hx=>by simp [hx]) has;have hfv:a.eval f= .func (.func nn) #[] #[] :=by
  unfold fk at hn;split at hn
  ·rename_i q hq
   cases hn;have:=E.ev f (by simp) _ _ hq;generalize a.eval f=u at this⊢;cases this;rfl
  ·simp at hn
 have FO:=C.fr nn s hsp;obtain⟨S,hS,hSb,hSg,hSf⟩:∃S,xV g (cR as) S/\(∀q,S q->q<w.heap.size)/\mD P ⟨S,λ_=>none⟩ w/\(BO ab=true\/∀q,S q->g.S q):=by
  rcases hc with hc|hc
  ·exact⟨λq=>q<w.heap.size,⟨h.S,λid b q _ hb hq=>h.blk id b q hb hq⟩,λq h=>h,h.glo.mono (cr.refl _ _) h.S, .inl hc⟩
  ·exact⟨g.S,⟨λ_ h=>h,λid b q hi=>by rw[hc] at hi;simp at hi⟩,h.S,h.glo.mono (cr.refl _ _) λ_ h=>h, .inr λ_ h=>h⟩
 obtain⟨as2,h2,hav⟩:=oP (R:=List AV) (res:=as') (kk:=some) E.mem hal hS (hu some);cases h2;have hcalls:=FO.calls S w as' _ x ab hSb hSg hav hx hab;have e:(args.toList.map a.eval).toArray=args.map a.eval:=by apply Array.ext';simp
 rw[e] at hcalls;refine⟨λf _=>hF.fn f, ?_⟩;rw[Oper.semAt_eq _ _ _ (by simp [hop]),Ap hop hfv FO.enters];refine⟨λhd=>(by rw[hF.depth] at hd;cases hd), ?_⟩;refine(gr hF hcalls).mono ?_;rintro e w' ⟨v,rfl,hb,b,hbq,hlive,hloop,hbr,y0,hy0,hva⟩;have hR:=h.akC (Nat.le_refl σ.nx) (b:=b) (x:=ab) (λk=>w.heap.size<=k/\k<w'.heap.size/\b.blk≠some k) (λk hk=>hk) hb (by
  rcases hSf with hfl|hSs
  ·exact hbr.flat hfl
  ·exact hbr.mono (cr.refl _ _) (λ_ _=>rfl) ⟨λq hq=>hq.imp (hSs q) id,λ_ _ h=>by cases h⟩) hbq (λhl=>by rw[hloop] at hl;cases hl)
 obtain⟨σ2,hk2,h3⟩:=hR.put hN (x:= .one y) (PX hy0 hy hva (by simp [Gh.set])) hk;exact hK _ _ _ _ hk2 h3
theorem M7 (h:Rel P base w0 S0 N D sv g σ a w) (C:aE P c) (hN:c.N=N) (hF:bP F) {K:Act->World->Prop} {Q:Exit->Act->World->Prop} (hK:∀g' σ' a' w',k σ'=some res->Rel P base w0 S0 N D sv g' σ' a' w'->K a' w')
 (hs:jY c σ.az σ.mem o (λv=>σ.put c o.dst v k)=some res):o.wpIn F n P a w K Q:=by
 obtain⟨y,hy,hq⟩:=zP (n:=n) (h.env C o.op.operands.toList) hF (λ_ h=>h) hs;refine hq K Q λv w' hb hv=> ?_
 obtain⟨σ2,hk,h2⟩:=(h.grow hb).put hN (x:=y) hv hy;exact hK _ _ _ _ hk h2
theorem Cj {x y:Option R} (h:both x y=some res):x=some res/\y=some res:=by
 unfold both at h;split at h
 ·rename_i e;exact⟨h,e▸h⟩
 ·cases h
theorem BV {p:At} {v:Value} {kk:Bool->Option R} (hv:VA g w p v) (h:Kp p kk=some res):∃ad n cp,v= .slice ad n cp/\kk ad.isNone=some res:=by
 cases p<;>simp only[Kp,reduceCtorEq] at h
 case sl τ l=>
  cases hv with
  |sl _ _ ad n cp bk of f hn hc ha hcell hf=>
   refine⟨ad,n,cp,rfl, ?_⟩;rcases a_ h with⟨hb,h⟩ |⟨hb,h⟩
   ·obtain⟨h1,h2⟩:=Cj h
    cases ad.isNone
    ·exact h2
    ·exact h1
   ·have:l≠ [] :=by intro e;subst e;simp at hb
    rw[(ha this).1];exact h
 case clip τ l=>
  cases hv with
  |clip _ _ ad n bk of f hn ha hcell hf=>
   refine⟨ad,n,n,rfl, ?_⟩;rcases a_ h with⟨hb,h⟩ |⟨hb,h⟩
   ·obtain⟨h1,h2⟩:=Cj h
    cases ad.isNone
    ·exact h2
    ·exact h1
   ·have:l≠ [] :=by intro e;subst e;simp at hb
    rw[(ha this).1];exact h
theorem Vz (h:Rel P base w0 S0 N D sv g σ a w) (C:aE P c) (hN:c.N=N) (hF:bP F) {K:Act->World->Prop} {Q:Exit->Act->World->Prop} (hK:∀g' σ' a' w',k σ'=some res->Rel P base w0 S0 N D sv g' σ' a' w'->K a' w') {op:BinOp} {t t':TypeId} {x y:Operand} {p:At}
 (hs:(match op with
  | .eql=>Kp p λb=>σ.put c o.dst (.one (.bool b)) k
  | .neq=>Kp p λb=>σ.put c o.dst (.one (.bool (!b))) k
  |_=>none)=some res)
 (hop:o.op= .binOp op t x y t') (hy:C3 y=true) {ti:TI} {τ:Ty} {e:TypeId} (hti:c.ti t=some ti) (hk:ti.k= .slice τ e) (hx:evA c σ.az t x=some p):o.wpIn F n P a w K Q:=by
 have E:=h.env C [x];have hv:=E.evA (by simp) hx;obtain⟨i,d,T⟩:=C.ts _ _ hti;have hu:∃e',P.underlying t=some (.slice e'):=by
  have h1:=T.k;rw[hk] at h1;have h2:=T.und;cases d<;>simp [tkB] at h1
  exact⟨_,h2⟩
 obtain⟨e',hu⟩:=hu;have hyv:a.eval y= .slice none 0 0:=by
  unfold C3 at hy;split at hy
  ·rfl
  ·cases hy
 cases op<;>simp only[reduceCtorEq] at hs
 case eql=>
  obtain⟨ad,n1,cp,hxv,hs⟩:=BV hv hs;obtain⟨σ2,hk2,hr2⟩:=h.put (v:= .bool ad.isNone) hN (x:= .one (.bool ad.isNone)) (VA.bool _) hs;refine bK hF (by simp [hop]) ?_ (hK _ _ _ _ hk2 hr2);simp [execOp,hop,hxv,hyv,eqGuard,binOp,Op.equal,Op.maxDepth,Lib.run_equalIn_slice_nil w 9999 t e' ad n1 cp 0 0 hu]
 case neq=>
  obtain⟨ad,n1,cp,hxv,hs⟩:=BV hv hs;obtain⟨σ2,hk2,hr2⟩:=h.put (v:= .bool (!ad.isNone)) hN (x:= .one (.bool (!ad.isNone))) (VA.bool _) hs;refine bK hF (by simp [hop]) ?_ (hK _ _ _ _ hk2 hr2);simp [execOp,hop,hxv,hyv,eqGuard,binOp,Op.equal,Op.maxDepth,Lib.run_equalIn_slice_nil w 9999 t e' ad n1 cp 0 0 hu]
theorem Mc (h:Rel P base w0 S0 N D sv g σ a w) (C:aE P c) (hN:c.N=N) (hF:bP F) {K:Act->World->Prop} {Q:Exit->Act->World->Prop} (hK:∀g' σ' a' w',k σ'=some res->Rel P base w0 S0 N D sv g' σ' a' w'->K a' w')
 (hs:jX c o σ k=some res):o.wpIn F n P a w K Q:=by
 unfold jX at hs;split at hs
 ·rename_i t hop
  split at hs
  ·rename_i ti hti
   exact P8 h C hN hF hK hop hti hs
  ·simp at hs
 ·rename_i t x hop
  split at hs
  ·rename_i v hv
   exact We h C hN hF hK hop hv hs
  ·simp at hs
 ·rename_i t q parts hop
  obtain⟨g1,σ1,hs,h1, -, -⟩:=h.fy hs;split at hs
  ·rename_i ag sz z τ e hti
   split at hs
   ·rename_i te hte
    split at hs
    ·rename_i cells hcells
     split at hcells
     ·rename_i hsz
      obtain⟨l,hl,hp⟩:=bo hs;exact Dw h1 C hN hF hK hop hti rfl hte (Nat.le_of_ble_eq_true hsz) hcells hl hp
     ·simp at hcells
    ·simp at hs
   ·simp at hs
  ·simp at hs
 ·rename_i t x y hop
  split at hs
  ·rename_i ag sz z τ e κ p κ' q hti hx hy
   split at hs
   ·rename_i te hte
    rcases a_ hs with⟨hb,hs⟩ |⟨_,hs⟩
    ·simp only[decide_eq_true_eq] at hb
     obtain⟨hlim,hs⟩:=iv hs;obtain⟨z0,hz0,hp⟩:=bo hs;exact Fp h C hN hF hK hop hti rfl hte hx hy hb.1 hb.2 hlim hz0 hp
    ·simp at hs
   ·simp at hs
  ·simp at hs
 ·rename_i t x y hop
  obtain⟨g1,σ1,hs,h1, -, -⟩:=h.fy hs;split at hs
  ·rename_i p v ti hp hv hti
   split at hs
   ·rename_i hsz
    exact Py h1 C hN hF hK hop hp hv hti hsz hs
   ·simp at hs
  ·simp at hs
 ·rename_i t x hop
  split at hs
  ·rename_i ag sz z s hti hx
   exact O4 h C hN hF hK hop hti rfl hx hs
  ·simp at hs
 ·rename_i t q hop
  exact JJ h C hN hF hK hop hs
 ·rename_i t x i ok hop
  exact Mg h C hN hF hK hop hs
 ·rename_i t x i v hop
  exact D9 h C hN hF hK (.inl hop) hs
 ·rename_i t x i v hop
  exact D9 h C hN hF hK (.inr hop) hs
 ·rename_i t x i hop
  exact Lz h C hN hF hK hop hs
 ·rename_i t x i v hop
  exact P7 h C hN hF hK hop hs
 ·rename_i x hop
  split at hs
  ·rename_i px hx
   exact SI h C hN hF hK hop hx hs
  ·simp at hs
 ·rename_i f p q hop
  split at hs
  ·rename_i as bs has hbs
   split at hs
   ·rename_i as1 bs1 ha1 hb1
    exact GD h C hN hF hK hop has hbs ha1 hb1 hs
   ·simp at hs
  ·simp at hs
 ·rename_i op t x y t' hop
  split at hs
  ·rename_i ag sz z τ e p hy hti hx
   exact Vz h C hN hF hK hs hop hy hti rfl hx
  ·simp at hs
 ·rename_i args argTypes hop
  split at hs
  ·rename_i x y t t' hargs hts
   have e1:args= #[x,y]:=by apply Array.ext';simpa using hargs
   have e2:argTypes= #[t,t']:=by apply Array.ext';simpa using hts
   subst e1;subst e2;split at hs
   ·rename_i ag sz z τ e hti htt
    have htt:=Nat.eq_of_beq_eq_true htt;subst htt;split at hs
    ·rename_i te px py hte hx hy
     exact La h C hN hF hK hop hti rfl hte hx hy hs
    ·simp at hs
   ·rename_i ag sz z τ e hti htt
    split at hs
    ·rename_i ag1 sz1 z1 κ0 te px κ nn hti' hte hx hy
     obtain⟨z0,hz0,hs⟩:=bo hs;exact FF h C hN hF hK hop hti rfl hte hti' rfl hx hy hz0 hs
    ·simp at hs
   ·simp at hs
  ·simp at hs
 ·rename_i args argTypes hop
  split at hs
  ·rename_i x t hargs hts
   have e1:args= #[x]:=by apply Array.ext';simpa using hargs
   have e2:argTypes= #[t]:=by apply Array.ext';simpa using hts
   subst e1;subst e2;split at hs
   ·rename_i ag sz z τ e px hti hx
    exact Yx h C hN hF hK hop hti rfl hx hs
   ·simp at hs
  ·simp at hs
 ·rename_i args argTypes hop
  split at hs
  ·rename_i x t hargs hts
   have e1:args= #[x]:=by apply Array.ext';simpa using hargs
   have e2:argTypes= #[t]:=by apply Array.ext';simpa using hts
   subst e1;subst e2;split at hs
   ·rename_i ag sz z τ e px hti hx
    split at hs
    ·rename_i te hte
     exact Qf h C hN hF hK hop hti rfl hte hx hs
    ·simp at hs
   ·simp at hs
  ·simp at hs
 ·rename_i args argTypes hop
  split at hs
  ·rename_i x y t t' hargs hts
   have e1:args= #[x,y]:=by apply Array.ext';simpa using hargs
   have e2:argTypes= #[t,t']:=by apply Array.ext';simpa using hts
   subst e1;subst e2;split at hs
   ·rename_i ag sz z τ e hti htt
    have htt:=Nat.eq_of_beq_eq_true htt;subst htt;split at hs
    ·rename_i id off len id2 off2 len2 hx hy
     exact MQ h C hN hF hK hop hti rfl hx hy hs
    ·rename_i px py _ hx hy
     exact TG h C hN hF hK hop hti rfl hx hy hs
    ·simp at hs
   ·simp at hs
  ·simp at hs
 ·simp at hs
def nu (P:Program) [aD P] (H:Hnd R):Prop:=
 (∀{base:Nat} {w0:World} {S0:Nat->Prop} {N:Nat} {D:Wt} {sv:Nat->Value} {g:Gh} {σ:St} {a:Act} {w:World} {res:R} {dst:Option Nat} {f:Nat} {as:List AV} {kk:AV->St->Option R} {vs:List Value},
  Rel P base w0 S0 N D sv g σ a w->bR (AVR g w) as vs->f<OFF->H dst f as σ kk=some res->
  (∀args w,(callFunc f args).run P w= .ok (.enter f args) w)/\Calls P f vs.toArray w λe w'=>∃v x g' σ',e= .returned v/\kk x σ'=some res/\Rel P base w0 S0 N D sv g' σ' a w'/\AVR g' w' x v)/\
 (∀{base:Nat} {w0:World} {S0:Nat->Prop} {N:Nat} {D:Wt} {sv:Nat->Value} {g:Gh} {σ:St} {a:Act} {w:World} {res:R} {dst:Option Nat} {id:Nat} {as:List AV} {kk:AV->St->Option R} {vs:List Value} {b:Gb} {l:Nat},
  Rel P base w0 S0 N D sv g σ a w->bR (AVR g w) as vs->g.m id=some b->b.blk=some l->H dst (OFF+id) as σ kk=some res->
  ∃fn tmps assign body,(Instr.yield l vs.toArray).run P w= .ok (.round l fn tmps assign body) w/\∀(F:Fence) (n:Nat),bP F->RoundIn F n P l fn tmps assign body w λe w'=>∃v x g' σ',e= .returned v/\kk x σ'=some res/\Rel P base w0 S0 N D sv g' σ' a w'/\AVR g' w' x v)
theorem JV {f:Operand} {args:Array Operand} {ts:Array TypeId} {nn:Nat} {fs cs:Array Value} (hop:o.op= .call {callee:= .value f,args,argTypes:=ts}) (hf:a.eval f= .func (.func nn) fs cs) (he:∀args w,(callFunc nn args).run P w= .ok (.enter nn args) w):
 (execOp a.eval o).run P w= .ok (.enter nn (fs++args.map a.eval++cs)) w:=by
 simp [execOp,hop,resolve,hf,Deferred.ofValue,invoke,he]
theorem yo {l:List At} {vs:List Value} (h:bR (VA g w) l vs):bR (AVR g w) (l.map AV.one) vs:=by
 induction h with
 |nil=>exact .nil
 |cons h _ ih=>exact .cons h ih
theorem vQ (h:Rel P base w0 S0 N D sv g σ a w) {x:At} {v:Value} {i:Nat} {τ:Ty} {l:List τ.T} (hv:VA g w x v) (hi:kh x=[i]) (hl:look i σ.mem=some (.row τ l)) (hne:0<l.length):
 ∃ad len cap,v= .slice ad len cap/\(len=0\/∃q of cs e b,ad=some ⟨q,of,none⟩/\g.m i=some b/\b.blk=some q/\w.heap[q]? =some (.cells cs e (0,0))/\cs.size≠0):=by
 obtain⟨b,hm,hbr⟩:=h.mem i _ hl;obtain⟨g1,g2,g3⟩:=hbr;rcases g3 with⟨_,g3,_⟩ |⟨q,cs,e,hb,hh,hcs,hl',ho,ha⟩
 ·subst g3;simp at hne
 have hsz:cs.size≠0:=by
  rw[hcs];exact Nat.mul_ne_zero (by omega) (by have:=wP τ;omega)
 cases x<;>simp [kh] at hi
 case own id=>
  subst hi;cases hv with
  |own _ b' ad hm' hk h0=>
   rw[hm] at hm';cases hm';exact⟨ad,_,_,rfl, .inr ⟨q,0,cs,e,b,hk q hb,hm,hb,hh,hsz⟩⟩
 case sub id off len=>
  subst hi;cases hv with
  |sub _ _ _ b' ad cc hm' hl2 hc hk=>
   rw[hm] at hm';cases hm';refine⟨ad,_,_,rfl, ?_⟩;by_cases h0:len=0
   ·exact .inl h0
   ·obtain⟨k',hk',had⟩:=hk (by omega)
    have:k'=q:=by rw[hb] at hk';exact(Option.some.inj hk').symm
    subst this;exact .inr ⟨k',_,cs,e,b,had,hm,hb,hh,hsz⟩
theorem Pc (h:Rel P base w0 S0 N D sv g σ a w) (C:aE P c) (hN:c.N=N) (hF:bP F) {K:Act->World->Prop} {Q:Exit->Act->World->Prop} (hK:∀g' σ' a' w',k σ'=some res->Rel P base w0 S0 N D sv g' σ' a' w'->K a' w') {f:Operand} {args:Array Operand} {ts:Array TypeId} {nn:Nat}
 (hop:o.op= .call {callee:= .value f,args,argTypes:=ts}) (hov:xH P nn) (hfv:a.eval f= .func (.func nn) #[] #[]) {x y:At} (hal:bR (AVR g w) [.v (.one x), .v (.one y)] (args.toList.map a.eval)) (hs:apart σ.mem x y (σ.put c o.dst (.one (.bool false)) k)=some res):o.wpIn F n P a w K Q:=by
 unfold apart at hs;split at hs
 ·rename_i i j hi hj
  split at hs
  ·rename_i τ l τ' l' hij hl hl'
   rcases a_ hs with⟨h1,hs⟩ |⟨_,hs⟩
   rotate_left
   ·simp at hs
   rcases a_ hs with⟨h2,hs⟩ |⟨_,hs⟩
   rotate_left
   ·simp at hs
   have h1:0<l.length:=Nat.le_of_ble_eq_true h1;have h2:0<l'.length:=Nat.le_of_ble_eq_true h2;have hne:i≠j:=λe=>by subst e;simp at hij
   generalize hargs:args.toList.map a.eval=vs at hal;cases hal with
   |cons hv1 ht=>
    cases ht with
    |cons hv2 ht=>
     cases ht;rename_i v1 v2;obtain⟨ad,len,cap,rfl,hc1⟩:=vQ h hv1 hi hl h1;obtain⟨ad2,len2,cap2,rfl,hc2⟩:=vQ h hv2 hj hl' h2;have hrun:=hov w ad ad2 len cap len2 cap2 (by
      rcases hc1 with hc1|⟨q,of,cs,e,b,e1,e2,e3,e4,e5⟩
      ·exact .inl hc1
      ·rcases hc2 with hc2|⟨q2,of2,cs2,e0,b2,f1,f2,f3,f4,f5⟩
       ·exact .inr (.inl hc2)
       ·refine .inr (.inr (.inl ⟨q,q2,of,of2,cs,cs2,e,e0,e1,f1,λe9=> ?_,e4,f4,f5⟩))
        subst e9;exact hne (h.inj i j _ _ b b2 q hl hl' rfl rfl e2 f2 e3 f3))
     have e:args.map a.eval= #[.slice ad len cap, .slice ad2 len2 cap2]:=by
      apply Array.ext';simpa using hargs
     obtain⟨σ2,hk2,hr2⟩:=h.put (v:= .bool false) hN (x:= .one (.bool false)) (VA.bool _) hs;refine bK hF (by simp [hop]) ?_ (hK _ _ _ _ hk2 hr2);simp [execOp,hop,resolve,hfv,Deferred.ofValue,invoke,e,hrun]
  ·simp at hs
 ·rename_i j hi hj
  split at hs
  ·rename_i τ l τ' l' hl'
   rcases a_ hs with⟨h1,hs⟩ |⟨_,hs⟩
   rotate_left
   ·simp at hs
   rcases a_ hs with⟨h2,hs⟩ |⟨_,hs⟩
   rotate_left
   ·simp at hs
   have h1:0<l.length:=Nat.le_of_ble_eq_true h1;have h2:0<l'.length:=Nat.le_of_ble_eq_true h2;generalize hargs:args.toList.map a.eval=vs at hal;cases hal with
   |cons hv1 ht=>
    cases ht with
    |cons hv2 ht=>
     cases ht;rename_i v1 v2;obtain⟨ad2,len2,cap2,rfl,hc2⟩:=vQ h hv2 hj hl' h2;have hv1':VA g w (.sl τ l) v1:=hv1;cases hv1' with
     |sl _ _ ad len cap bk of fc hn hcc ha hcell hfc=>
      obtain⟨rfl,hS⟩:=ha (by intro e;subst e;simp at h1);have hrun:=hov w (some ⟨bk,of,none⟩) ad2 len cap len2 cap2 (by
       rcases hc2 with hc2|⟨q2,of2,cs2,e0,b2,f1,f2,f3,f4,f5⟩
       ·exact .inr (.inl hc2)
       ·have hce:=hcell 0 0 h1 (wP τ)
        unfold World.cell? at hce;split at hce
        ·rename_i cs e s hb
         refine .inr (.inr (.inr ⟨bk,q2,of,of2,cs,cs2,e,e0,s,rfl,f1,λe9=> ?_,hb,f4,λe8=> ?_⟩))
         ·subst e9
          exact(h.own j _ b2 bk hl' rfl f2 f3).2 hS
         ·have:cs= #[] :=by apply Array.ext';simpa using e8
          subst this;simp at hce
        ·simp at hce)
      have e:args.map a.eval= #[.slice (some ⟨bk,of,none⟩) len cap, .slice ad2 len2 cap2]:=by
       apply Array.ext';simpa using hargs
      obtain⟨σ2,hk2,hr2⟩:=h.put (v:= .bool false) hN (x:= .one (.bool false)) (VA.bool _) hs;refine bK hF (by simp [hop]) ?_ (hK _ _ _ _ hk2 hr2);simp [execOp,hop,resolve,hfv,Deferred.ofValue,invoke,e,hrun]
  ·simp at hs
 ·simp at hs
theorem HE {H:Hnd R} (hH:nu P H) (h:Rel P base w0 S0 N D sv g σ a w) (C:aE P c) (hN:c.N=N) (hF:bP F) {K:Act->World->Prop} {Q:Exit->Act->World->Prop} (hK:∀g' σ' a' w',k σ'=some res->Rel P base w0 S0 N D sv g' σ' a' w'->K a' w') {f:Operand} {args:Array Operand} {ts:Array TypeId}
 (hop:o.op= .call {callee:= .value f,args,argTypes:=ts}) (hs:DD H c o f args ts σ k=some res):o.wpIn F n P a w K Q:=by
 have E:=h.env C (f::args.toList);unfold DD at hs;split at hs
 ·rename_i nn as hf has
  have hal:=jS E (λx hx=>by simp [hx]) has;have hfv:a.eval f= .func (.func nn) #[] #[] :=by
   have:=E.evA (by simp) hf;generalize a.eval f=u at this⊢;cases this;rfl
  split at hs
  ·rename_i hov
   split at hs
   ·rename_i x y
    exact Pc h C hN hF hK hop (C.ovl _ hov) hfv hal hs
   ·simp at hs
  split at hs
  rotate_left
  ·simp at hs
  rename_i hlt;obtain⟨h1,h2⟩:=hH.1 h hal (Nat.le_of_ble_eq_true hlt) hs;have e:(args.toList.map a.eval).toArray=args.map a.eval:=by apply Array.ext';simp
  rw[e] at h2;refine⟨λf _=>hF.fn f, ?_⟩;rw[Oper.semAt_eq _ _ _ (by simp [hop]),Ap hop hfv h1];refine⟨λhd=>(by rw[hF.depth] at hd;cases hd), ?_⟩;refine(gr hF h2).mono ?_;rintro e w' ⟨v,x,g',σ',rfl,hk,hr,hv⟩;obtain⟨σ2,hk2,h3⟩:=hr.put hN hv hk;exact hK _ _ _ _ hk2 h3
 ·rename_i id as hf has
  split at hs
  ·rename_i nn first capt hl
   have hal:=jS E (λx hx=>by simp [hx]) has;split at hs
   rotate_left
   ·simp at hs
   rename_i hlt;obtain⟨b,hm, -,fs,cs,hb,hfs,hcs⟩:=h.mem id _ hl;have hfv:a.eval f= .func (.func nn) fs cs:=by
    have:=E.evA (by simp) hf;generalize a.eval f=u at this⊢;cases this with
    |clo _ b' f' fs' cs' hm' hv'=>
     rw[hm] at hm';cases hm';rw[hb] at hv';cases hv';rfl
   obtain⟨h1,h2⟩:=hH.1 h ((yo hfs).append (hal.append (yo hcs))) (Nat.le_of_ble_eq_true hlt) hs;have e:(fs.toList++(args.toList.map a.eval++cs.toList)).toArray=fs++args.map a.eval++cs:=by apply Array.ext';simp
   rw[e] at h2;refine⟨λf _=>hF.fn f, ?_⟩;rw[Oper.semAt_eq _ _ _ (by simp [hop]),JV hop hfv h1];refine⟨λhd=>(by rw[hF.depth] at hd;cases hd), ?_⟩;refine(gr hF h2).mono ?_;rintro e w' ⟨v,x,g',σ',rfl,hk,hr,hv⟩;obtain⟨σ2,hk2,h3⟩:=hr.put hN hv hk;exact hK _ _ _ _ hk2 h3
  ·simp at hs
 ·rename_i id as hf has
  have hal:=jS E (λx hx=>by simp [hx]) has;have hfv:=E.evA (by simp) hf;generalize hfe:a.eval f=u at hfv;cases hfv with
  |yld _ b l hm hb=>
   obtain⟨fn,tmps,assign,body,hy,hround⟩:=hH.2 h hal hm hb hs;have e:(args.toList.map a.eval).toArray=args.map a.eval:=by apply Array.ext';simp
   rw[e] at hy;refine⟨λf _=>hF.fn f, ?_⟩;have hrun:(execOp a.eval o).run P w= .ok (.round l fn tmps assign body) w:=by
    simp [execOp,hop,resolve,hfe,Deferred.ofValue,invoke,hy]
   rw[Oper.semAt_eq _ _ _ (by simp [hop]),hrun,Oper.uponIn_round];refine⟨λhd=>(by rw[hF.depth] at hd;cases hd),(hround F _ hF).mono ?_⟩;rintro e w' ⟨v,x,g',σ',rfl,hk,hr,hv⟩;obtain⟨σ2,hk2,h3⟩:=hr.put hN hv hk;exact hK _ _ _ _ hk2 h3
 ·simp at hs
theorem Ey {H:Hnd R} (hH:nu P H) (h:Rel P base w0 S0 N D sv g σ a w) (C:aE P c) (hN:c.N=N) (hF:bP F) {K:Act->World->Prop} {Q:Exit->Act->World->Prop} (hK:∀g' σ' a' w',k σ'=some res->Rel P base w0 S0 N D sv g' σ' a' w'->K a' w') {f:Operand} {args:Array Operand} {ts:Array TypeId}
 (hop:o.op= .call {callee:= .value f,args,argTypes:=ts}) (hs:ER H c o f args ts σ k=some res):o.wpIn F n P a w K Q:=by
 unfold ER at hs;split at hs
 ·exact DQ h C hN hF hK hop hs
 ·exact HE hH h C hN hF hK hop hs
theorem M6 {H:Hnd R} (hH:nu P H) (h:Rel P base w0 S0 N D sv g σ a w) (C:aE P c) (hN:c.N=N) (hF:bP F) {K:Act->World->Prop} {Q:Exit->Act->World->Prop} (hK:∀g' σ' a' w',k σ'=some res->Rel P base w0 S0 N D sv g' σ' a' w'->K a' w')
 (hs:m_ H c o σ k=some res):o.wpIn F n P a w K Q:=by
 unfold m_ at hs;split at hs
 ·rename_i f args ts hop
  exact Ey hH h C hN hF hK hop hs
 ·exact Mc h C hN hF hK hs
theorem vF {H:Hnd R} (hH:nu P H) (h:Rel P base w0 S0 N D sv g σ a w) (C:aE P c) (hN:c.N=N) (hF:bP F) {K:Act->World->Prop} {Q:Exit->Act->World->Prop} (hK:∀g' σ' a' w',k σ'=some res->Rel P base w0 S0 N D sv g' σ' a' w'->K a' w') {dr:Bool}
 (hs:iA H c dr o σ k=some res):o.wpIn F n P a w K Q:=by
 unfold iA at hs;split at hs
 ·rename_i f args ts hop
  split at hs
  ·exact E9 h C hN hF hK hop hs
  ·exact Ey hH h C hN hF hK hop hs
 ·split at hs
  ·exact M7 h C hN hF hK hs
  ·exact M6 hH h C hN hF hK hs
end
section
variable {R R':Type} {c:Cfg} {r:cj} {m:Mem} {o:Oper}
theorem eG (b:Bool) (x y:Option R) (k:R->Option R'):(ah b x y).bind k=ah b (x.bind k) (y.bind k):=by cases b<;>rfl
theorem fi {α:Type} (x:Option α) (f:α->Option R) (k:R->Option R'):(aj x f).bind k=aj x λy=>(f y).bind k:=by cases x<;>rfl
theorem ug (n:Nat) (x:Option R) (k:R->Option R'):(aS n x).bind k=aS n (x.bind k):=by unfold aS;split<;>rfl
theorem lW (p:At) (f:(τ:Ty)->List τ.T->Option R) (k:R->Option R'):(cg m p f).bind k=cg m p λτ l=>(f τ l).bind k:=by
 unfold cg;repeat' split
 all_goals first|rfl|simp_all
theorem CH (p:At) (n:Nat) (f:List At->Option R) (k:R->Option R'):(js m p n f).bind k=js m p n λl=>(f l).bind k:=by
 unfold js;repeat' split
 all_goals first|rfl|simp_all [fi]
theorem xw (p:At) (f:At->Option R) (k:R->Option R'):(viewAt m p f).bind k=viewAt m p λl=>(f l).bind k:=by
 unfold viewAt;repeat' split
 all_goals first|rfl|simp_all [lW]
theorem Aw:∀(l:List At) (f:List At->Option R) (k:R->Option R'),(ji m l f).bind k=ji m l λl=>(f l).bind k
 | [],f,k=>rfl
 |x::l,f,k=>by simp only[ji,xw,Aw l]
theorem Hx (p:AV) (f:AV->Option R) (k:R->Option R'):(jk m p f).bind k=jk m p λl=>(f l).bind k:=by
 unfold jk;repeat' split
 all_goals first|rfl|simp_all [xw,Aw]
theorem lZ:∀(l:List AV) (f:List AV->Option R) (k:R->Option R'),(dC m l f).bind k=dC m l λl=>(f l).bind k
 | [],f,k=>rfl
 |x::l,f,k=>by simp only[dC,Hx,lZ l]
theorem qe (n:Nat) (lo hi:Option Int) (f:Nat->Nat->Option R) (k:R->Option R'):(j6 n lo hi f).bind k=j6 n lo hi λa b=>(f a b).bind k:=by
 unfold j6;repeat' split
 all_goals first|rfl|simp [eG]
theorem C5 (cp n:Nat) (lo hi:Option Int) (f:Nat->Nat->Option R) (k:R->Option R'):(og cp n lo hi f).bind k=og cp n lo hi λa b=>(f a b).bind k:=by
 unfold og;split<;>exact qe _ _ _ _ _
theorem tD (s:Spec) (as:List AV) (f:AV->Option R) (k:R->Option R'):(o8 s as f).bind k=o8 s as λa=>(f a).bind k:=by
 unfold o8;split
 ·simp [fi]
 ·rfl
theorem KI (op:BinOp) (κ:IntKind) (a b:Int) (f:AV->Option R) (k:R->Option R'):(Ks op κ a b f).bind k=Ks op κ a b λa=>(f a).bind k:=by
 unfold Ks;split<;>first|rfl|simp [eG]
theorem EU (op:BinOp) (κ:IntKind) (a b:Int) (f:AV->Option R) (k:R->Option R'):(wk op κ a b f).bind k=wk op κ a b λa=>(f a).bind k:=by
 unfold wk;split<;>first|rfl|simp [eG]
theorem Kr (op:BinOp) (a b:Str) (f:AV->Option R) (k:R->Option R'):(Jp op a b f).bind k=Jp op a b λa=>(f a).bind k:=by
 unfold Jp;split<;>first|rfl|simp [ug]
theorem J8 (tb:Bool) (eq:Option (List EK)) (op:BinOp) (x y:AV) (f:AV->Option R) (k:R->Option R'):(FL tb eq op x y f).bind k=FL tb eq op x y λa=>(f a).bind k:=by
 unfold FL;repeat' split
 all_goals first|rfl|simp_all [KI,EU,Kr]
theorem My (op:UnOp) (x:AV) (f:AV->Option R) (k:R->Option R'):(unQ op x f).bind k=unQ op x λa=>(f a).bind k:=by
 unfold unQ;split<;>rfl
theorem B7 (τ:Ty) (l:List τ.T) (lo hi mx:Option Int) (f:AV->Option R) (k:R->Option R'):(Cx τ l lo hi mx f).bind k=Cx τ l lo hi mx λa=>(f a).bind k:=by
 unfold Cx;split<;>simp [qe,eG]
theorem Ii (τ:Ty) (l:List τ.T) (lo hi mx:Option Int) (f:AV->Option R) (k:R->Option R'):(D8 τ l lo hi mx f).bind k=D8 τ l lo hi mx λa=>(f a).bind k:=by
 unfold D8;split<;>simp [B7,eG]
theorem Fl (t:TypeId) (x:At) (lo hi mx:Option Operand) (f:AV->Option R) (k:R->Option R'):(qf c r m t x lo hi mx f).bind k=qf c r m t x lo hi mx λa=>(f a).bind k:=by
 unfold qf;repeat' split
 all_goals first|rfl|simp_all [qe,C5,B7,Ii,eG]
theorem J1 (t:TypeId) (x:At) (f:AV->Option R) (k:R->Option R'):(CX c m t x f).bind k=CX c m t x λa=>(f a).bind k:=by
 unfold CX;repeat' split
 all_goals first|rfl|simp_all [lW]
theorem xp (n:Int) (f:Nat->Option R) (k:R->Option R'):∀(m i:Nat),(splitK n m i f).bind k=splitK n m i λa=>(f a).bind k
 |0,_=>rfl
 |m+1,i=>by simp only[splitK,eG,xp n f k m (i+1)]
theorem Km (t:TypeId) (x:At) (n:Int) (f:AV->Option R) (k:R->Option R'):(C6 c m t x n f).bind k=C6 c m t x n λa=>(f a).bind k:=by
 unfold C6;repeat' split
 all_goals first|rfl|simp_all [eG,fi,xp]
theorem D6 (f:AV->Option R) (k:R->Option R'):(jY c r m o f).bind k=jY c r m o λa=>(f a).bind k:=by
 unfold jY;repeat' split
 all_goals first|rfl|(simp_all [eG,fi,CH,Km,J8,My,lW,Fl,J1,lZ,tD];done) |skip
 rw[lZ];congr 1;funext as';rw[tD];congr 1;funext y;split<;>rfl
theorem FK {k:AV->Option R} {res:R} (h:jY c r m o k=some res):∃y,jY c r m o some=some y/\k y=some res:=by
 have e:=D6 (c:=c) (r:=r) (m:=m) (o:=o) (f:=some) (k:=k);simp only[Option.bind_some] at e;rw[<-e] at h;exact Option.bind_eq_some_iff.1 h
end
section
variable {P:Program} [aD P] {F:Fence} {n:Nat} {c:Cfg} {g g':Gh} {r:cj} {m:Mem} {a:Act} {w w':World} {o:Oper} {R:Type} {k:St->Option R} {res:R} {xs:List Operand}
variable {base:Nat} {w0:World} {S0:Nat->Prop} {N:Nat} {D:Wt} {sv:Nat->Value} {σ:St} {ops:Array Oper} {Q:Exit->Act->World->Prop}
theorem nC (hF:bP F):∀f,o.about P w a.eval=some f->F.fn f:=λf _=>hF.fn f
theorem kF {j d:Nat} (hj:(ops.toList.map (·.dst))[j]? =some (some d)) (hd:d<a.tmps.size):yielded ops a.tmps j=match a.tmps.getD d undef with| .bool b=>some b|_=>none:=by
 have h1:(ops[j]?).bind (·.dst)=some d:=by
  simp only[List.getElem?_map,Array.getElem?_toList] at hj;cases h:ops[j]? with
  |none=>rw[h] at hj;simp at hj
  |some o=>rw[h] at hj;simp at hj;simpa using hj
 unfold yielded;rw[h1];simp [hd];cases a.tmps[d]<;>rfl
theorem wq {dst:Nat} {x:AV} {σ:St} {kk:St->Option R} (h:σ.put c (some dst) x kk=some res):dst<c.N/\dst<OFF/\kk {az:=(dst,x)::σ.az,mem:=σ.mem,nx:=σ.nx}=some res:=by
 unfold St.put at h;simp only at h;split at h
 ·rename_i hd
  split at h
  ·rename_i ho
   exact⟨Nat.le_of_ble_eq_true hd,Nat.le_of_ble_eq_true ho,h⟩
  ·simp at h
 ·simp at h
theorem Rel.again (h:Rel P base w0 S0 N D sv g σ a w) {d:Nat} {x:AV} (hx:look d σ.az=some x):Rel P base w0 S0 N D sv g {az:=(d,x)::σ.az,mem:=σ.mem,nx:=σ.nx} a w:=
 have hr:∀t y,look t ((d,x)::σ.az)=some y->AVR g w y (vof sv a t):=by
  intro t y hy;simp only[ba] at hy;split at hy
  ·rename_i e;subst e;cases hy;exact h.az _ _ hx
  ·exact h.az t y hy
 {h with az:=hr}
theorem pW {H:Hnd R} (hH:nu P H) (h:Rel P base w0 S0 N D sv g σ a w) (C:aE P c) (hN:c.N=N) (hF:bP F) {K:Act->World->Prop} {dr:Bool} {kk:St->Option R} (hK:∀g' σ' a' w',kk σ'=some res->Rel P base w0 S0 N D sv g' σ' a' w'->K a' w')
 (hs:(match o.guard with
 |none=>iA H c dr o σ kk
 |some (j,want)=>match (ops.toList.map (·.dst))[j]? with
  |some (some d)=>match j_ d σ.az with
   |some (.v (.one (.bool b)))=>ah b
    (σ.put c (some d) (.one (.bool true)) λσ'=>match want with
     |true=>iA H c dr o σ' kk
     |false=>σ'.put c o.dst .undef kk)
    (σ.put c (some d) (.one (.bool false)) λσ'=>match want with
     |true=>σ'.put c o.dst .undef kk
     |false=>iA H c dr o σ' kk)
   |some .undef=>σ.put c o.dst .undef kk
   |_=>none
  |_=>none)=some res):
 if Region.wanted o (yielded ops a.tmps) then o.wpIn F n P a w K Q else (∀f,o.about P w a.eval=some f->F.fn f)/\K (a.put o.dst undef) w:=by
 split at hs
 ·rename_i hg
  rw[if_pos (by simp [Region.wanted,hg])];exact vF hH h C hN hF hK hs
 ·rename_i j want hg
  have skip:∀{σ1:St},Rel P base w0 S0 N D sv g σ1 a w->σ1.put c o.dst .undef kk=some res->Region.wanted o (yielded ops a.tmps)=false->if Region.wanted o (yielded ops a.tmps) then o.wpIn F n P a w K Q else (∀f,o.about P w a.eval=some f->F.fn f)/\K (a.put o.dst undef) w:=by
   intro σ1 h1 hp hw;rw[if_neg (by simp [hw])];obtain⟨σ2,hk,h2⟩:=h1.put (v:=undef) hN (x:= .undef) rfl hp;exact⟨nC hF,hK _ _ _ _ hk h2⟩
  split at hs
  ·rename_i d hd
   split at hs
   ·rename_i b hb
    have hbv:a.tmps.getD d undef= .bool b:=by
     have:=h.az d _ (bS hb).2;rw[iw (bS hb).1] at this;generalize a.tmps.getD d undef=u at this;cases this;rfl
    have hlt:d<c.N:=by
     rcases a_ hs with⟨_,hs⟩ |⟨_,hs⟩<;>exact(wq hs).1
    have hwant:Region.wanted o (yielded ops a.tmps)=(b==want):=by
     simp only[Region.wanted,hg,kF hd (by rw[h.size];omega),hbv];cases b<;>cases want<;>rfl
    rcases a_ hs with⟨rfl,hs1⟩ |⟨rfl,hs1⟩
    ·obtain⟨-, -,hs2⟩:=wq hs1
     have h1:=h.again (bS hb).2;cases want
     ·exact skip h1 hs2 (by rw[hwant];rfl)
     ·rw[if_pos (by rw[hwant];rfl)]
      exact vF hH h1 C hN hF hK hs2
    ·obtain⟨-, -,hs2⟩:=wq hs1
     have h1:=h.again (bS hb).2;cases want
     ·rw[if_pos (by rw[hwant];rfl)]
      exact vF hH h1 C hN hF hK hs2
     ·exact skip h1 hs2 (by rw[hwant];rfl)
   ·rename_i hu
    refine skip h hs ?_;have huv:a.tmps.getD d undef=undef:=by
     have:=h.az d _ (bS hu).2;rw[iw (bS hu).1] at this;exact this
    have:yielded ops a.tmps j=none:=by
     by_cases hlt:d<a.tmps.size
     ·rw[kF hd hlt,huv];rfl
     ·have h1:(ops[j]?).bind (·.dst)=some d:=by
       simp only[List.getElem?_map,Array.getElem?_toList] at hd;cases h:ops[j]? with
       |none=>rw[h] at hd;simp at hd
       |some o=>rw[h] at hd;simp at hd;simpa using hd
      unfold yielded;rw[h1];simp [hlt]
    simp [Region.wanted,hg,this]
   ·simp at hs
  ·simp at hs
theorem n6 {H:Hnd R} {dr:Bool} {ds:List (Option Nat)} {l:List Oper}:dH H c dr ds (o::l) σ k=(match o.guard with
 |none=>iA H c dr o σ (λσ'=>dH H c dr ds l σ' k)
 |some (j,want)=>match ds[j]? with
  |some (some d)=>match j_ d σ.az with
   |some (.v (.one (.bool b)))=>ah b
    (σ.put c (some d) (.one (.bool true)) λσ'=>match want with
     |true=>iA H c dr o σ' (λσ'=>dH H c dr ds l σ' k)
     |false=>σ'.put c o.dst .undef (λσ'=>dH H c dr ds l σ' k))
    (σ.put c (some d) (.one (.bool false)) λσ'=>match want with
     |true=>σ'.put c o.dst .undef (λσ'=>dH H c dr ds l σ' k)
     |false=>iA H c dr o σ' (λσ'=>dH H c dr ds l σ' k))
   |some .undef=>σ.put c o.dst .undef (λσ'=>dH H c dr ds l σ' k)
   |_=>none
  |_=>none):=rfl
theorem B8 {H:Hnd R} (hH:nu P H) (C:aE P c) (hN:c.N=N) (hF:bP F) (hK:∀g' σ' a' w',k σ'=some res->Rel P base w0 S0 N D sv g' σ' a' w'->Q .normal a' w'):∀(l:List Oper) (i:Nat) {g:Gh} {σ:St} {a:Act} {w:World},ops.toList.drop i=l->Rel P base w0 S0 N D sv g σ a w->
 dH H c false (ops.toList.map (·.dst)) l σ k=some res->wpOpsIn F n P ops Q (List.range' i l.length) a w
 | [],i,g,σ,a,w,_,h,hs=>hK g σ a w hs h
 |o::l,i,g,σ,a,w,hd,h,hs=>by
  have ho:ops[i]? =some o:=by
   have:(ops.toList.drop i)[0]? =some o:=by rw[hd];rfl
   simpa using this
  have hd':ops.toList.drop (i+1)=l:=by
   have:(ops.toList.drop i).drop 1=l:=by rw[hd];rfl
   rwa[List.drop_drop] at this
  rw[List.length_cons,List.range'_succ];simp only[wpOpsIn,ho];rw[n6] at hs;exact pW hH h C hN hF (λg' σ' a' w' hk h'=>B8 hH C hN hF hK l (i+1) hd' h' hk) hs
theorem Jt {H:Hnd R} (hH:nu P H) (C:aE P c) (hN:c.N=N) (hF:bP F) (hK:∀g' σ' a' w',k σ'=some res->Rel P base w0 S0 N D sv g' σ' a' w'->Q .normal a' w') {id:Nat} (h:Rel P base w0 S0 N D sv g σ a w)
 (hs:dH H c false (ops.toList.map (·.dst)) ops.toList σ k=some res):(Code.region id ops false).wpIn F n P Q a w:=by
 refine wpIn_region ?_;have:=B8 (n:=n) hH C hN hF hK ops.toList 0 (by simp) h hs;rw[List.range_eq_range'];simpa using this
end
section
variable {P:Program} [aD P] {F:Fence} {n:Nat} {c:Cfg} {g g':Gh} {r:cj} {m:Mem} {a:Act} {w w':World} {o:Oper} {R:Type} {k:St->Option R} {res:R} {xs:List Operand}
variable {base:Nat} {w0:World} {S0:Nat->Prop} {N:Nat} {D:Wt} {sv:Nat->Value} {σ:St} {ops:Array Oper} {Q:Exit->Act->World->Prop} {ds:List (Option Nat)}
theorem qM {x:Oper} {i:Nat}:∀{l:List (Oper×Nat)},zz c ds i x l=true->∀y∈l,nV c ds x y.1=true->Nat.testBit y.2 i=true
 | [],_,y,hy,_=>by simp at hy
 |z::l,h,y,hy,hc=>by
  unfold zz at h;split at h
  ·split at h
   ·rename_i hb
    rcases List.mem_cons.1 hy with rfl|hy
    ·exact hb
    ·exact qM h y hy hc
   ·simp at h
  ·rename_i hcl
   rcases List.mem_cons.1 hy with rfl|hy
   ·rw[hc] at hcl;cases hcl
   ·exact qM h y hy hc
theorem zt:∀{l:List (Oper×Nat)} {i:Nat},I2 c ds i l=true->∀{p q:Nat} {x y:Oper×Nat},p<q->l[p]? =some x->l[q]? =some y->nV c ds x.1 y.1=true->Nat.testBit y.2 (i+p)=true
 | [],i,_,p,q,x,y,_,hx,_,_=>by simp at hx
 |z::l,i,h,p,q,x,y,hpq,hx,hy,hc=>by
  unfold I2 at h;split at h
  ·rename_i hf
   cases q with
   |zero=>omega
   |succ q=>
    simp at hy;cases p with
    |zero=>
     simp at hx;subst hx;exact qM hf y (List.mem_of_getElem? hy) hc
    |succ p=>
     simp at hx;have:=zt h (by omega:p<q) hx hy hc;rw[show i+(p+1)=i+1+p from by omega];exact this
  ·simp at h
theorem nB:∀{l:List Oper} {i:Nat},h_ i l=true->∀{p:Nat} {o:Oper},l[p]? =some o->∀e∈o.after,eu e=true->e.on<i+p
 | [],i,_,p,o,ho,_,_,_=>by simp at ho
 |z::l,i,h,p,o,ho,e,he,hb=>by
  unfold h_ at h;split at h
  ·rename_i hz
   cases p with
   |zero=>
    simp at ho;subst ho;have:=(List.all_eq_true.1 hz) e (by simpa using he);rw[hb] at this;exact Nat.le_of_ble_eq_true this
   |succ p=>
    have:=nB h (p:=p) (by simpa using ho) e he hb;omega
  ·simp at h
theorem km:∀(l:List Oper) (acc:List Nat),∃rest,kb acc l=acc++rest/\rest.length=l.length/\∀q o,l[q]? =some o->rest[q]? =some (rH (acc++rest.take q) o)
 | [],acc=>⟨[],by simp [kb],rfl,λq o h=>by simp at h⟩
 |o::l,acc=>by
  obtain⟨rest,h1,h2,h3⟩:=km l (acc++[rH acc o]);refine⟨rH acc o::rest,by simp only[kb,h1];simp,by simp [h2],λq o' h=> ?_⟩;cases q with
  |zero=>simp at h;subst h;simp
  |succ q=>
   have:=h3 q o' (by simpa using h);simp only[List.getElem?_cons_succ,this,List.take_succ_cons];simp
theorem tq {acc:List Nat} {i:Nat}:∀(l:List Edge) (s:Nat),Nat.testBit (l.foldl (λs e=>match eu e with|true=>(s|||2^e.on)|||acc.getD e.on 0|false=>s) s) i=true->
 Nat.testBit s i=true\/∃e∈l,eu e=true/\(i=e.on\/Nat.testBit (acc.getD e.on 0) i=true)
 | [],s,h=> .inl h
 |e::l,s,h=>by
  simp only[List.foldl_cons] at h;rcases tq l _ h with h1|⟨e',he',h1⟩
  ·split at h1
   ·rename_i hb
    simp only[Nat.testBit_or,Bool.or_eq_true,Nat.testBit_two_pow,decide_eq_true_eq] at h1;rcases h1 with(h1|h1) |h1
    ·exact .inl h1
    ·exact .inr ⟨e,by simp,hb, .inl h1.symm⟩
    ·exact .inr ⟨e,by simp,hb, .inr h1⟩
   ·exact .inl h1
  ·exact .inr ⟨e',by simp [he'],h1⟩
def pT (ops:Array Oper) (L:Array Bool):Prop:=∀(p:Nat) (o:Oper),ops[p]? =some o->L.getD p false=true->∀e∈o.after,eu e=true->L.getD e.on false=true
theorem xf {L:Array Bool} (hc:pT ops L) (hb:h_ 0 ops.toList=true):∀(j:Nat) (o:Oper) (b:Nat),ops[j]? =some o->(kb [] ops.toList)[j]? =some b->(∀e∈o.after,eu e=true->L.getD e.on false=true)->
 ∀i,Nat.testBit b i=true->L.getD i false=true:=by
 obtain⟨rest,h1,h2,h3⟩:=km ops.toList [];simp only[List.nil_append] at h1 h3;intro j;induction j using Nat.strongRecOn with
 |_ j ih=>
  intro o b ho hbj he i hi;rw[h1] at hbj ih;have:=h3 j o (by simpa using ho);rw[hbj] at this;cases this;unfold rH at hi;rcases tq _ _ hi with h0|⟨e,hea,heb,h4⟩
  ·simp at h0
  ·have hea:e∈o.after:=by simpa using hea
   rcases h4 with rfl|h4
   ·exact he e hea heb
   ·have hlt:=nB hb (p:=j) (by simpa using ho) e hea heb
    simp only[Nat.zero_add] at hlt;have hjs:j<ops.size:=(Array.getElem?_eq_some_iff.1 ho).1;have hlt':e.on<rest.length:=by rw[h2];simp;omega
    have hLe:=he e hea heb;obtain⟨oe,hoe⟩:∃oe,ops[e.on]? =some oe:=⟨ops[e.on],by simp⟩;rw[List.getD_eq_getElem?_getD,List.getElem?_take_of_lt hlt,List.getElem?_eq_getElem hlt'] at h4;exact ih e.on hlt oe rest[e.on] hoe (List.getElem?_eq_getElem hlt') (λe' he' hb'=>hc e.on oe hoe hLe e' he' hb') i (by simpa using h4)
theorem u0 {L:Array Bool} (ho:sw c ops.toList=true) (hc:pT ops L) {i j:Nat} {x y:Oper} (hij:i<j) (hx:ops[i]? =some x) (hy:ops[j]? =some y) (hcl:nV c (ops.toList.map (·.dst)) x y=true)
 (he:∀e∈y.after,eu e=true->L.getD e.on false=true):L.getD i false=true:=by
 unfold sw at ho;split at ho
 ·rename_i hb
  obtain⟨rest,h1,h2,h3⟩:=km ops.toList [];simp only[List.nil_append] at h1 h3;have hjs:j<ops.size:=(Array.getElem?_eq_some_iff.1 hy).1;have hjr:j<rest.length:=by rw[h2];simpa using hjs
  have hir:i<rest.length:=by omega
  have z:∀{q:Nat} {u:Oper} (hq:q<rest.length),ops[q]? =some u->(ops.toList.zip (kb [] ops.toList))[q]? =some (u,rest[q]):=by
   intro q u hq hu;rw[h1];rw[List.getElem?_zip_eq_some];exact⟨by simpa using hu,List.getElem?_eq_getElem hq⟩
  have hbit:=zt ho hij (z hir hx) (z hjr hy) hcl;simp only[Nat.zero_add] at hbit;exact xf hc hb j y rest[j] hy (by rw[h1];exact List.getElem?_eq_getElem hjr) he i hbit
 ·simp at ho
def i_ (d:Option Nat) (y:AV) (r:cj):cj:=
 match d with
 |none=>r
 |some d=>(d,y)::r
abbrev Tr:=List (Option Nat×AV)
def nj:Tr->cj->cj
 | [],r=>r
 |x::l,r=>nj l (i_ x.1 x.2 r)
def oV (L:Nat->Bool):Nat->Tr->cj->cj
 |_, [],r=>r
 |i,x::l,r=>oV L (i+1) l (if L i then i_ x.1 x.2 r else r)
theorem fV {d:Option Nat} {y:AV} {t:Nat}:look t (i_ d y r)=if d=some t then some y else look t r:=by
 cases d with
 |none=>simp [i_]
 |some d=>simp [i_,ba]
theorem ri {t:Nat}:∀{tr:Tr} {r r':cj},look t r=look t r'->look t (nj tr r)=look t (nj tr r')
 | [],_,_,h=>h
 |x::l,r,r',h=>by
  simp only[nj];refine ri ?_;simp only[fV,h]
theorem iy {L:Nat->Bool} {t:Nat}:∀{tr:Tr} {i p:Nat} {r r':cj},look t r=look t r'->(∀q x,tr[q]? =some x->x.1=some t->(q<p↔L (i+q)=true))->look t (oV L i tr r)=look t (nj (tr.take p) r')
 | [],i,p,r,r',h,_=>by simpa [oV,nj] using h
 |x::l,i,p,r,r',h,hL=>by
  have h0:=hL 0 x (by simp);simp only[oV];cases p with
  |zero=>
   have:=iy (L:=L) (t:=t) (tr:=l) (i:=i+1) (p:=0) (r:=if L i then i_ x.1 x.2 r else r) (r':=r') (by
    split
    ·rename_i hl
     rw[fV];split
     ·rename_i e
      have:=(h0 e).2 (by simpa using hl);omega
     ·exact h
    ·exact h) (λq x hq hx=>by
     have:=hL (q+1) x (by simpa using hq) hx;rw[show i+1+q=i+(q+1) from by omega,<-this];omega)
   simpa [nj] using this
  |succ p=>
   simp only[List.take_succ_cons,nj];refine iy ?_ (λq x hq hx=> ?_)
   ·by_cases e:x.1=some t
    ·have:=(h0 e).1 (by omega)
     simp only[Nat.add_zero] at this;rw[if_pos this];simp only[fV,if_pos e]
    ·rw[fV,if_neg e]
     split
     ·rw[fV,if_neg e];exact h
     ·exact h
   ·have:=hL (q+1) x (by simpa using hq) hx
    rw[show i+1+q=i+(q+1) from by omega,<-this];omega
theorem sR {L L':Nat->Bool} {t:Nat}:∀{tr:Tr} {i:Nat} {r r':cj},look t r=look t r'->(∀q x,tr[q]? =some x->x.1=some t->L (i+q)=L' (i+q))->look t (oV L i tr r)=look t (oV L' i tr r')
 | [],i,r,r',h,_=>h
 |x::l,i,r,r',h,hL=>by
  simp only[oV];refine sR ?_ (λq y hq hy=>by
   have:=hL (q+1) y (by simpa using hq) hy;rwa[show i+1+q=i+(q+1) from by omega])
  by_cases e:x.1=some t
  ·have:=hL 0 x (by simp) e
   simp only[Nat.add_zero] at this;rw[this];split
   ·simp only[fV,if_pos e]
   ·exact h
  ·split<;>split<;>simp only[fV,if_neg e,h]
theorem tp {L:Nat->Bool} {t:Nat} {y:AV}:∀{tr:Tr} {i p:Nat} {r:cj},tr[p]? =some (some t,y)->L (i+p)=true->(∀q x,p<q->tr[q]? =some x->x.1=some t->L (i+q)=false)->look t (oV L i tr r)=some y
 | [],i,p,r,h,_,_=>by simp at h
 |x::l,i,0,r,h,h0,hL=>by
  simp at h;subst h;simp only[oV];simp only[Nat.add_zero] at h0;rw[if_pos h0,iy (p:=0) (r':=i_ (some t) y r) rfl (λq x hq hx=> ?_)]
  ·simp [nj,fV]
  ·have:=hL (q+1) x (by omega) (by simpa using hq) hx
   rw[show i+1+q=i+(q+1) from by omega,this];simp
 |x::l,i,p+1,r,h,h0,hL=>by
  simp only[oV];refine tp (p:=p) (by simpa using h) (by rw[show i+1+p=i+(p+1) from by omega];exact h0) (λq y hq hy he=> ?_);rw[show i+1+q=i+(q+1) from by omega];exact hL (q+1) y (by omega) (by simpa using hy) he
def Eh (c:Cfg) (ds:List (Option Nat)) (o:Oper) (r:cj) (m:Mem) (y:AV):Prop:=
 (o.guard=none/\jY c r m o some=some y)\/
 (∃j want d,o.guard=some (j,want)/\ds[j]? =some (some d)/\
  ((∃b,j_ d r=some (.one (.bool b))/\d<c.N/\((b=want/\jY c r m o some=some y)\/(b≠want/\y= .undef)))\/(j_ d r=some .undef/\y= .undef)))
theorem r_ {dst:Option Nat} {x:AV} {σ:St} {kk:St->Option R} (h:σ.put c dst x kk=some res):(∀d,dst=some d->d<c.N/\d<OFF)/\kk {az:=i_ dst x σ.az,mem:=σ.mem,nx:=σ.nx}=some res:=by
 cases dst with
 |none=>exact⟨λd h=>(by cases h),h⟩
 |some d=>obtain⟨h1,h0,h2⟩:=wq h;exact⟨λd' h=>(by cases h;exact⟨h1,h0⟩),h2⟩
theorem Fo {H:Hnd R} {σ:St} {kk:St->Option R} (hq:isQ c o.op=true) (h:iA H c true o σ kk=some res):∃y,jY c σ.az σ.mem o some=some y/\(∀d,o.dst=some d->d<c.N/\d<OFF)/\kk {az:=i_ o.dst y σ.az,mem:=σ.mem,nx:=σ.nx}=some res:=by
 simp only[iA,hq] at h;obtain⟨y,h1,h2⟩:=FK h;exact⟨y,h1,r_ h2⟩
theorem Fv {H:Hnd R} {l:List Oper} (hq:isQ c o.op=true) (h:dH H c true ds (o::l) σ k=some res):∃(r:cj) (y:AV),(∀t,look t r=look t σ.az)/\Eh c ds o r σ.mem y/\(∀d,o.dst=some d->d<c.N/\d<OFF)/\dH H c true ds l {az:=i_ o.dst y r,mem:=σ.mem,nx:=σ.nx} k=some res:=by
 rw[n6] at h;split at h
 ·rename_i hg
  obtain⟨y,h1,h2,h3⟩:=Fo hq h;exact⟨σ.az,y,λ_=>rfl, .inl ⟨hg,h1⟩,h2,h3⟩
 ·rename_i j want hg
  split at h
  ·rename_i d hd
   split at h
   ·rename_i b hb
    have again:∀{b:Bool},j_ d σ.az=some (.one (.bool b))->∀t,look t ((d,AV.one (.bool b))::σ.az)=look t σ.az:=by
     intro b hb t;have hb:=(bS hb).2;rw[ba];split
     ·rename_i e;subst e;exact hb.symm
     ·rfl
    have fin:∀{b:Bool},j_ d σ.az=some (.one (.bool b))->d<c.N->(match (b==want) with
     |true=>iA H c true o {az:=(d, .one (.bool b))::σ.az,mem:=σ.mem,nx:=σ.nx} λσ'=>dH H c true ds l σ' k
     |false=>St.put c {az:=(d, .one (.bool b))::σ.az,mem:=σ.mem,nx:=σ.nx} o.dst .undef λσ'=>dH H c true ds l σ' k)=some res->∃(r:cj) (y:AV),(∀t,look t r=look t σ.az)/\Eh c ds o r σ.mem y/\(∀d,o.dst=some d->d<c.N/\d<OFF)/\dH H c true ds l {az:=i_ o.dst y r,mem:=σ.mem,nx:=σ.nx} k=some res:=by
     intro b hb hlt h;split at h
     ·rename_i e
      obtain⟨y,h1,h2,h3⟩:=Fo hq h;exact⟨_,y,again hb, .inr ⟨j,want,d,hg,hd, .inl ⟨b,by rw[wZ (again hb _)];exact hb,hlt, .inl ⟨by simpa using e,h1⟩⟩⟩,h2,h3⟩
     ·rename_i e
      obtain⟨h2,h3⟩:=r_ h;exact⟨_, .undef,again hb, .inr ⟨j,want,d,hg,hd, .inl ⟨b,by rw[wZ (again hb _)];exact hb,hlt, .inr ⟨by simpa using e,rfl⟩⟩⟩,h2,h3⟩
    rcases a_ h with⟨rfl,h1⟩ |⟨rfl,h1⟩
    ·obtain⟨hlt, -,h2⟩:=wq h1
     refine fin hb hlt ?_;cases want<;>exact h2
    ·obtain⟨hlt, -,h2⟩:=wq h1
     refine fin hb hlt ?_;cases want<;>exact h2
   ·rename_i hu
    obtain⟨h2,h3⟩:=r_ h;exact⟨_, .undef,λ_=>rfl, .inr ⟨j,want,d,hg,hd, .inr ⟨hu,rfl⟩⟩,h2,h3⟩
   ·simp at h
  ·simp at h
structure Seg (H:Hnd R) (c:Cfg) (ds:List (Option Nat)) (k:St->Option R) (res:R) (σ:St) (l:List Oper) (tr:Tr) (σe:St):Prop where
 le:tr.length<=l.length
 rest:dH H c true ds (l.drop tr.length) σe k=some res
 head:∀o,l[tr.length]? =some o->isQ c o.op=false
 mem:σe.mem=σ.mem
 nx:σe.nx=σ.nx
 az:∀t,look t σe.az=look t (nj tr σ.az)
 step:∀p o x,l[p]? =some o->tr[p]? =some x->isQ c o.op=true/\x.1=o.dst/\(∀d,o.dst=some d->d<c.N/\d<OFF)/\∃r,(∀t,look t r=look t (nj (tr.take p) σ.az))/\Eh c ds o r σ.mem x.2
theorem KU {H:Hnd R}:∀(l:List Oper) (σ:St),dH H c true ds l σ k=some res->∃tr σe,Seg H c ds k res σ l tr σe
 | [],σ,h=>⟨[],σ,by simp,by simpa using h,λo h=>by simp at h,rfl,rfl,λ_=>rfl,λp o x h=>by simp at h⟩
 |o::l,σ,h=>by
  cases hq:isQ c o.op with
  |false=>exact⟨[],σ,by simp,by simpa using h,λo' h=>by simp at h;subst h;exact hq,rfl,rfl,λ_=>rfl,λp o' x _ h=>by simp at h⟩
  |true=>
   obtain⟨r,y,hr,hs,hd,h1⟩:=Fv hq h;obtain⟨tr,σe,S⟩:=KU l _ h1;have hpr:∀t,look t (i_ o.dst y r)=look t (i_ o.dst y σ.az):=λt=>by simp only[fV,hr]
   refine⟨(o.dst,y)::tr,σe,by have:=S.le;simp;omega,by simpa using S.rest,λo' h=>S.head o' (by simpa using h),S.mem,S.nx,λt=>(S.az t).trans (ri (hpr t)),λp o' x hp hx=> ?_⟩;cases p with
   |zero=>
    simp at hp hx;subst hp;subst hx;exact⟨hq,rfl,hd,r,by simpa [nj] using hr,hs⟩
   |succ p=>
    obtain⟨h1,h2,h3,r',h4,h5⟩:=S.step p o' x (by simpa using hp) (by simpa using hx);exact⟨h1,h2,h3,r',λt=>by rw[h4];simpa [nj] using ri (hpr t),h5⟩
end
section
variable {P:Program} [aD P] {F:Fence} {n:Nat} {c:Cfg} {g g':Gh} {r:cj} {m:Mem} {a:Act} {w w':World} {o:Oper} {R:Type} {k:St->Option R} {res:R} {xs:List Operand}
variable {base:Nat} {w0:World} {S0:Nat->Prop} {N:Nat} {D:Wt} {sv:Nat->Value} {σ:St} {ops:Array Oper} {Q:Exit->Act->World->Prop}
theorem yY {t:Nat} (h:t∈fv o) (ds:List (Option Nat)):t∈gK ds o:=by
 unfold gK;split
 ·exact h
 ·split
  ·exact List.mem_cons_of_mem _ h
  ·exact h
theorem xE {ds:List (Option Nat)} {j d:Nat} {want:Bool} (hg:o.guard=some (j,want)) (hd:ds[j]? =some (some d)):d∈gK ds o:=by
 unfold gK;rw[hg];simp [hd]
theorem l6 {n:Nat}:∀{l:List Nat},vf n l=true↔n∈l
 | [] =>by simp [vf]
 |m::l=>by
  unfold vf;split
  ·rename_i h;have:=Nat.eq_of_beq_eq_true h;subst this;simp
  ·rename_i h
   have h:m≠n:=λe=>by subst e;simp at h
   rw[l6];simp [Ne.symm h]
theorem Q5 {ds:List (Option Nat)} {x y:Oper} {t:Nat} (hx:x.dst=some t) (hy:t∈gK ds y):nV c ds x y=true:=by
 unfold nV;split
 ·simp [xj,hx,l6.2 hy]
 ·rfl
theorem NJ {ds:List (Option Nat)} {x y:Oper} {t:Nat} (hy:y.dst=some t) (hx:t∈gK ds x):nV c ds x y=true:=by
 unfold nV;split
 ·simp [xj,hy,l6.2 hx]
 ·rfl
theorem Qr {ds:List (Option Nat)} {x y:Oper} {t:Nat} (hx:x.dst=some t) (hy:y.dst=some t):nV c ds x y=true:=by
 unfold nV;split
 ·simp [yi,hx,hy]
 ·rfl
theorem IL {ds:List (Option Nat)} {x y:Oper} (h:isQ c x.op=false\/isQ c y.op=false):nV c ds x y=true:=by
 unfold nV;split
 ·rename_i h1 h2
  rcases h with h|h
  ·rw[h1] at h;cases h
  ·rw[h2] at h;cases h
 ·rfl
structure Inv (P:Program) [aD P] (H:Hnd R) (sv:Nat->Value) (base:Nat) (w0:World) (S0:Nat->Prop) (N:Nat) (D:Wt) (c:Cfg) (ops:Array Oper) (k:St->Option R) (res:R) (s:Nat) (σ:St) (tr:Tr) (σe:St) (L:Array Bool) (g:Gh) (a:Act) (w:World):Prop where
 size:L.size=ops.size
 closed:pT ops L
 sz:s<=ops.size
 low:∀p,p<s->L.getD p false=true
 high:∀p,L.getD p false=true->p<s+tr.length
 rel:Rel P base w0 S0 N D sv g {az:=oV (λi=>L.getD i false) s tr σ.az,mem:=σ.mem,nx:=σ.nx} a w
 seg:Seg H c (ops.toList.map (·.dst)) k res σ (ops.toList.drop s) tr σe
theorem LY {l:List Oper} {i:Nat} (h:l[i]? =some o):l.drop i=o::l.drop (i+1):=by
 have hi:=(List.getElem?_eq_some_iff.1 h).1;rw[List.drop_eq_getElem_cons hi];congr 1;exact(List.getElem?_eq_some_iff.1 h).2
theorem Inv.done {H:Hnd R} {s:Nat} {tr:Tr} {σe:St} {L:Array Bool} (I:Inv P H sv base w0 S0 N D c ops k res s σ tr σe L g a w) (hall:∀p,p<ops.size->L.getD p false=true):k σe=some res/\Rel P base w0 S0 N D sv g σe a w:=by
 have he:s+tr.length=ops.size:=by
  have h1:=I.seg.le;simp at h1;rcases Nat.lt_or_ge (s+tr.length) ops.size with h|h
  ·have:=I.high _ (hall _ h);omega
  ·have:=I.sz;omega
 refine⟨?_, ?_⟩
 ·have:=I.seg.rest
  rw[List.drop_drop,he,List.drop_eq_nil_of_le (by simp)] at this;exact this
 ·have hrel:=I.rel
  refine{hrel with az:=λt x hx=>hrel.az t x ?_,mem:=by rw[I.seg.mem];exact hrel.mem,inj:=by rw[I.seg.mem];exact hrel.inj,own:=by rw[I.seg.mem];exact hrel.own,lp:=by rw[I.seg.mem];exact hrel.lp,nx:=by rw[I.seg.nx];exact hrel.nx};rw[I.seg.az] at hx;rw[iy (p:=tr.length) (r':=σ.az) rfl (λq x hq _=> ?_),List.take_length]
  ·exact hx
  ·have hq:=(List.getElem?_eq_some_iff.1 hq).1
   exact⟨λ_=>hall _ (by omega),λ_=>hq⟩
theorem tc {L:Array Bool} (hs:L.size=ops.size) (hb:h_ 0 ops.toList=true) (hr:Region.ready .any ops L= []):∀p,p<ops.size->L.getD p false=true:=by
 intro p;induction p using Nat.strongRecOn with
 |_ p ih=>
  intro hp;cases hL:L.getD p false with
  |true=>rfl
  |false=>
   have hmem:p∈Region.ready .any ops L:=by
    rw[mem_ready];refine⟨?_,ops[p],by simp,λe he hbe=> ?_⟩
    ·have:p<L.size:=by omega
     simp [this] at hL⊢;exact hL
    ·have hlt:=nB hb (p:=p) (o:=ops[p]) (by simp) e he (by
      have:Region.binds .any e=eu e:=by unfold Region.binds eu;cases e.ground<;>rfl
      rw[<-this];exact hbe)
     exact ih e.on (by omega) (by omega)
   rw[hr] at hmem;cases hmem
theorem w6 {L:Array Bool} {i:Nat} (hi:i<L.size) (h:L.getD i false=false):(L.setIfInBounds i true).toList.count false+1=L.toList.count false:=by
 have hL:L[i]=false:=by simpa [hi] using h
 simp only[Array.toList_setIfInBounds];rw[List.count_eq_countP,List.count_eq_countP,List.countP_set (by simpa using hi)];simp [hL];have:0<List.countP (λx=>x==false) L.toList:=by
  rw[List.countP_pos_iff];exact⟨L[i],by simp,by simp [hL]⟩
 have e:List.countP (λx=>x==false) L.toList=Array.countP (λx=> !x) L:=by
  rw[<-Array.countP_toList];congr 1;funext x;cases x<;>rfl
 rw[e] at this;omega
theorem sW {L:Array Bool} (h:L.toList.count false=0):∀p,p<L.size->L.getD p false=true:=by
 intro p hp;cases hL:L.getD p false with
 |true=>rfl
 |false=>
  have h1:L[p]=false:=by simpa [hp] using hL
  rw[List.count_eq_zero] at h;exact(h (by rw[<-h1];simp)).elim
theorem pT.set {L:Array Bool} (h:pT ops L) {j:Nat} (hj:ops[j]? =some o) (he:∀e∈o.after,eu e=true->L.getD e.on false=true):pT ops (L.setIfInBounds j true):=by
 intro p o' ho' hp e hea hb;refine getD_set_true ?_;by_cases e':j=p
 ·subst e'
  rw[hj] at ho';cases ho';exact he e hea hb
 ·rw[getD_set_ne false e'] at hp
  exact h p o' ho' hp e hea hb
theorem BG (e:Edge):Region.binds .any e=eu e:=by unfold Region.binds eu;cases e.ground<;>rfl
theorem pZ {L:Array Bool} {j:Nat} (h:L.getD j true=false):j<L.size/\L.getD j false=false:=by
 rcases Nat.lt_or_ge j L.size with h'|h'
 ·simp [h'] at h⊢;exact h
 ·simp [Array.getElem?_eq_none h'] at h
theorem Sl {H:Hnd R} (hH:nu P H) (C:aE P c) (hN:c.N=N) (hF:bP F) (ho:sw c ops.toList=true) (hK:∀g' σ' a' w',k σ'=some res->Rel P base w0 S0 N D sv g' σ' a' w'->Q .normal a' w'):
 ∀(fuel:Nat) {s:Nat} {σ:St} {tr:Tr} {σe:St} {L:Array Bool} {g:Gh} {a:Act} {w:World},Inv P H sv base w0 S0 N D c ops k res s σ tr σe L g a w->L.toList.count false<=fuel->wpAnyIn F n P .any ops Q fuel L a w:=by
 have hb:h_ 0 ops.toList=true:=by
  unfold sw at ho;split at ho
  ·assumption
  ·simp at ho
 intro fuel;induction fuel with
 |zero=>
  intro s σ tr σe L g a w I hf;have hall:=sW (by omega:L.toList.count false=0);refine⟨?_, ?_⟩
  ·cases hr:Region.ready .any ops L with
   |nil=>rfl
   |cons j _=>
    have hj:j∈Region.ready .any ops L:=by rw[hr];simp
    obtain⟨h1,h2⟩:=pZ (mem_ready.1 hj).1;rw[hall j h1] at h2;cases h2
  ·obtain⟨h1,h2⟩:=I.done (λp hp=>hall p (by rw[I.size];exact hp))
   exact hK _ _ _ _ h1 h2
 |succ fuel ih=>
  intro s σ tr σe L g a w I hf;refine⟨λhr=> ?_,λj hj=> ?_⟩
  ·obtain⟨h1,h2⟩:=I.done (tc I.size hb hr)
   exact hK _ _ _ _ h1 h2
  ·obtain⟨hun,oj,hoj,hall⟩:=mem_ready.1 hj
   obtain⟨hjL,hun⟩:=pZ hun;have hedge:∀e∈oj.after,eu e=true->L.getD e.on false=true:=λe he hbe=>hall e he (by rw[BG];exact hbe)
   have hcnt:=w6 hjL hun;have hclosed':=I.closed.set hoj hedge;have before:∀{i:Nat} {x:Oper},i<j->ops[i]? =some x->nV c (ops.toList.map (·.dst)) x oj=true->L.getD i false=true:=λhij hx hcl=>u0 ho I.closed hij hx hoj hcl hedge
   have behind:∀{i:Nat} {y:Oper},j<i->ops[i]? =some y->nV c (ops.toList.map (·.dst)) oj y=true->L.getD i false=false:=by
    intro i y hji hy hcl;cases hLi:L.getD i false with
    |false=>rfl
    |true=>
     have:=u0 ho I.closed hji hoj hy hcl (λe he hbe=>I.closed i y hy hLi e he hbe);rw[hun] at this;cases this
   have hjs:s<=j:=by
    rcases Nat.lt_or_ge j s with h|h
    ·have:=I.low j h;rw[hun] at this;cases this
    ·exact h
   have hjsz:j<ops.size:=by rw[<-I.size];exact hjL
   have htl:s+tr.length<=ops.size:=by have:=I.seg.le;simp at this;have:=I.sz;omega
   have seg_get:∀{q:Nat} {u:Oper},ops[s+q]? =some u->(ops.toList.drop s)[q]? =some u:=λh=>by simpa using h
   have hLs:∀{i:Nat},i≠j->(L.setIfInBounds j true).getD i false=L.getD i false:=λh=>getD_set_ne false (Ne.symm h)
   have hLj:(L.setIfInBounds j true).getD j false=true:=by simp [hjL]
   by_cases hjt:j<s+tr.length
   ·
    obtain⟨p,rfl⟩:∃p,j=s+p:=⟨j - s,by omega⟩;have hp:p<tr.length:=by omega
    obtain⟨hq,hxd,hdN,r,hr,hst⟩:=I.seg.step p oj tr[p] (seg_get hoj) (by simp [hp]);have tr_dst:∀{q:Nat} {x:Option Nat×AV},tr[q]? =some x->∃u,ops[s+q]? =some u/\x.1=u.dst:=by
     intro q x hx;have hlt:=(List.getElem?_eq_some_iff.1 hx).1;have h1:ops[s+q]? =some ops[s+q]:=by simp
     exact⟨_,h1,(I.seg.step q _ x (seg_get h1) hx).2.1⟩
    have agree:∀t,t∈gK (ops.toList.map (·.dst)) oj->look t (oV (λi=>L.getD i false) s tr σ.az)=look t r:=by
     intro t ht;rw[hr,iy (p:=p) (r':=σ.az) rfl];intro q x hx hxt;obtain⟨u,hu,hxu⟩:=tr_dst hx;rw[hxu] at hxt;constructor
     ·intro hqp
      exact before (by omega) hu (Q5 hxt ht)
     ·intro hLq
      rcases Nat.lt_or_ge q p with h|h
      ·exact h
      ·exfalso
       rcases Nat.lt_or_ge p q with h'|h'
       ·rw[behind (by omega:s+p<s+q) hu (NJ hxt ht)] at hLq;cases hLq
       ·have:q=p:=by omega
        subst this;rw[hun] at hLq;cases hLq
    have upd:∀{g1:Gh} {w1:World} {v:Value},Rel P base w0 S0 N D sv g1 {az:=oV (λi=>L.getD i false) s tr σ.az,mem:=σ.mem,nx:=σ.nx} a w1->AVR g1 w1 tr[p].2 v->wpAnyIn F n P .any ops Q fuel (L.setIfInBounds (s+p) true) (a.put oj.dst v) w1:=by
     intro g1 w1 v hrel hv;refine ih (s:=s) (σ:=σ) (tr:=tr) (σe:=σe) (g:=g1) ⟨by simp [I.size],hclosed',I.sz,λq hq=>getD_set_true (I.low q hq),λq hq=> ?_, ?_,I.seg⟩ (by omega)
     ·by_cases e:q=s+p
      ·omega
      ·rw[hLs e] at hq;exact I.high q hq
     ·refine{hrel with az:=λt x hx=> ?_,size:= ?_,dfr:= ?_ }
      ·by_cases e:oj.dst=some t
       ·rw[tp (p:=p) (y:=tr[p].2) (by rw[List.getElem?_eq_getElem hp,<-e,<-hxd]) hLj (λq x' hpq hx' hxt=> ?_)] at hx
        ·cases hx
         rw[e,u6 (hdN t e).2 (by rw[hrel.size,<-hN];exact(hdN t e).1),if_pos rfl];exact hv
        ·obtain⟨u,hu,hxu⟩:=tr_dst hx'
         rw[hxu] at hxt;rw[hLs (by omega)];exact behind (by omega) hu (Qr e hxt)
       ·have notp:∀{q:Nat} {x':Option Nat×AV},tr[q]? =some x'->x'.1=some t->¬s+q=s+p:=by
         intro q x' hx' hxt e';have e9:q=p:=by omega
         rw[e9,List.getElem?_eq_getElem hp] at hx';have e8:tr[p]=x':=Option.some.inj hx';exact e (by rw[<-hxd,e8];exact hxt)
        rw[sR (L':=λi=>L.getD i false) (r':=σ.az) rfl (λq x' hx' hxt=>hLs (λe'=>notp hx' hxt e'))] at hx
        ·cases hd:oj.dst with
         |none=>exact hrel.az t x hx
         |some d=>
          rw[u6 (hdN d hd).2 (by rw[hrel.size,<-hN];exact(hdN d hd).1),if_neg (λe'=>e (by rw[hd,e']))];exact hrel.az t x hx
      ·have:=hrel.size
       cases hd:oj.dst<;>simpa [Act.put] using this
      ·have:=hrel.dfr
       cases hd:oj.dst<;>simpa [Act.put] using this
    have run:jY c r σ.mem oj some=some tr[p].2->oj.wpIn F n P a w (wpAnyIn F n P .any ops Q fuel (L.setIfInBounds (s+p) true)) Q:=by
     intro he;have E:Env P c g r σ.mem oj.op.operands.toList a w:={ev:=K2 (λt ht x hx=>I.rel.az t x (by rw[agree t (yY ht _)];exact hx)) I.rel.glo C.glb,glo:=I.rel.glo,mem:=I.rel.mem,ts:=C.ts,sp:=C.sp,S:=I.rel.S,blk:=I.rel.blk,eqs:=C.eqs};obtain⟨y,hy,hqr⟩:=zP (n:=n) E hF (λ_ h=>h) he;cases hy;exact hqr _ _ λv w' hbw hv=>upd (I.rel.grow hbw) hv
    have skip:tr[p].2= .undef->wpAnyIn F n P .any ops Q fuel (L.setIfInBounds (s+p) true) (a.put oj.dst undef) w:=λhe=>upd I.rel (by rw[he];rfl)
    unfold wpOpIn;simp only[hoj];rcases hst with⟨hg,he⟩ |⟨i,want,d,hg,hd,hst⟩
    ·rw[if_pos (by simp [Region.wanted,hg])]
     exact run he
    ·have hag:=agree d (xE hg hd)
     rcases hst with⟨b,hb',hdN',hst⟩ |⟨hu,he⟩
     ·have hbv:a.tmps.getD d undef= .bool b:=by
       have:=I.rel.az d _ (by rw[hag];exact(bS hb').2);rw[iw (bS hb').1] at this;generalize a.tmps.getD d undef=u at this;cases this;rfl
      have hwant:Region.wanted oj (yielded ops a.tmps)=(b==want):=by
       simp only[Region.wanted,hg,kF hd (by rw[I.rel.size,<-hN];exact hdN'),hbv];cases b<;>cases want<;>rfl
      rcases hst with⟨rfl,he⟩ |⟨hne,he⟩
      ·rw[if_pos (by rw[hwant];simp)]
       exact run he
      ·rw[if_neg (by rw[hwant];simpa using hne)]
       exact⟨nC hF,skip he⟩
     ·have huv:a.tmps.getD d undef=undef:=by
       have:=I.rel.az d .undef (by rw[hag];exact(bS hu).2);rw[iw (bS hu).1] at this;exact this
      have hy:yielded ops a.tmps i=none:=by
       by_cases hlt:d<a.tmps.size
       ·rw[kF hd hlt,huv];rfl
       ·have h1:(ops[i]?).bind (·.dst)=some d:=by
         simp only[List.getElem?_map,Array.getElem?_toList] at hd;cases h:ops[i]? with
         |none=>rw[h] at hd;simp at hd
         |some o=>rw[h] at hd;simp at hd;simpa using hd
        unfold yielded;rw[h1];simp [hlt]
      rw[if_neg (by simp [Region.wanted,hg,hy])];exact⟨nC hF,skip he⟩
   ·
    have hje:j=s+tr.length:=by
     rcases Nat.lt_or_ge (s+tr.length) j with h|h
     ·exfalso
      have hoe:ops[s+tr.length]? =some ops[s+tr.length]:=by simp
      have:=before h hoe (IL (.inl (I.seg.head _ (seg_get hoe))));have:=I.high _ this;omega
     ·omega
    have hnq:isQ c oj.op=false:=I.seg.head oj (seg_get (by rw[<-hje];exact hoj));have hallL:∀p,p<j->L.getD p false=true:=λp hp=>before hp (x:=ops[p]) (by simp) (IL (.inr hnq))
    have hrel:Rel P base w0 S0 N D sv g σe a w:=by
     have hrel:=I.rel;refine{hrel with az:=λt x hx=>hrel.az t x ?_,mem:=by rw[I.seg.mem];exact hrel.mem,inj:=by rw[I.seg.mem];exact hrel.inj,own:=by rw[I.seg.mem];exact hrel.own,lp:=by rw[I.seg.mem];exact hrel.lp,nx:=by rw[I.seg.nx];exact hrel.nx};rw[I.seg.az] at hx;rw[iy (p:=tr.length) (r':=σ.az) rfl (λq x hq _=> ?_),List.take_length]
     ·exact hx
     ·have hq:=(List.getElem?_eq_some_iff.1 hq).1
      exact⟨λ_=>hallL _ (by omega),λ_=>hq⟩
    have hrest:=I.seg.rest;rw[List.drop_drop,<-hje,LY (by simpa using hoj),n6] at hrest;unfold wpOpIn;simp only[hoj];refine pW hH hrel C hN hF (λg1 σ1 a1 w1 hk h1=> ?_) hrest;obtain⟨tr1,σe1,S1⟩:=KU _ _ hk;refine ih (s:=j+1) (σ:=σ1) (tr:=tr1) (σe:=σe1) (g:=g1) ⟨by simp [I.size],hclosed',by omega,λq hq=> ?_,λq hq=> ?_, ?_,S1⟩ (by omega)
    ·by_cases e:q=j
     ·subst e;exact hLj
     ·exact getD_set_true (hallL q (by omega))
    ·by_cases e:q=j
     ·omega
     ·rw[hLs e] at hq;have:=I.high q hq;omega
    ·refine{h1 with az:=λt x hx=>h1.az t x ?_ }
     rw[iy (p:=0) (r':=σ1.az) rfl (λq x' _ _=> ?_)] at hx
     ·simpa [nj] using hx
     ·simp only[Nat.not_lt_zero,false_iff]
      rw[hLs (by omega)];intro hq;have:=I.high _ hq;omega
theorem Rel.drawn (h:Rel P base w0 S0 N D sv g σ a w):Rel P base w0 S0 N D sv g σ a {w with drawn:=w.drawn+1}:=
 {az:=λt x hx=>(h.az t x hx).mono (λ_ _=>rfl) (Gh.le.refl g),size:=h.size,dfr:=h.dfr,glo:=h.glo.mono (λ_ _=>rfl) (λ_ h=>h),lp:=h.lp,mem:=λi x hx=>(by
  obtain⟨b,hm,hr⟩:=h.mem i x hx;exact⟨b,hm,hr.mono (λ_ _=>rfl) (λ_ _=>rfl) (Gh.le.refl g)⟩),inj:=h.inj,own:=h.own,S:=h.S,blk:=h.blk,nx:=h.nx,bel:=h.bel.trans ⟨rfl,rfl,rfl,Nat.le_refl _,λ_ _=>rfl⟩,bs:=h.bs,sub:=h.sub}
theorem Bl {H:Hnd R} (hH:nu P H) (C:aE P c) (hN:c.N=N) (hF:bP F) (hm:P.follows .mixedOrders=true) (ho:sw c ops.toList=true) (hK:∀g' σ' a' w',k σ'=some res->Rel P base w0 S0 N D sv g' σ' a' w'->Q .normal a' w') {id:Nat} (h:Rel P base w0 S0 N D sv g σ a w)
 (hs:dH H c true (ops.toList.map (·.dst)) ops.toList σ k=some res):(Code.region id ops true).wpIn F n P Q a w:=by
 obtain⟨tr,σe,S⟩:=KU _ _ hs;refine wpIn_region_any hm (Sl hH C hN hF ho hK ops.size (s:=0) (σ:=σ) (tr:=tr) (σe:=σe) (g:=g) ⟨by simp,λp o _ hp=> ?_,Nat.zero_le _,λp hp=>by omega,λp hp=> ?_, ?_,by simpa using S⟩ (by simp [List.count_replicate]))
 ·exfalso
  by_cases h:p<ops.size<;>simp [h] at hp
 ·exfalso
  by_cases h:p<ops.size<;>simp [h] at hp
 ·have h1:=h.drawn
  refine{h1 with az:=λt x hx=>h1.az t x ?_ };rw[iy (p:=0) (r':=σ.az) rfl (λq x' _ _=> ?_)] at hx
  ·simpa [nj] using hx
  ·simp only[Nat.not_lt_zero,false_iff]
   by_cases h:q<ops.size<;>simp [h]
end
section
variable {P:Program} [aD P] {F:Fence} {n:Nat} {c:Cfg} {g g':Gh} {r:cj} {m:Mem} {a:Act} {w w':World} {o:Oper} {R:Type} {k:St->Option R} {res:R} {xs:List Operand}
variable {base:Nat} {w0:World} {S0:Nat->Prop} {N:Nat} {D:Wt} {sv:Nat->Value} {σ:St} {ops:Array Oper} {Q:Exit->Act->World->Prop} {ids:List Nat}
def Gh.only (g:Gh) (ids:List Nat):Gh:={S:=g.S,m:=λi=>if i∈ids then g.m i else none}
theorem Gh.kg {id:Nat} {b:Gb} (h:id∈ids) (hm:g.m id=some b):(g.only ids).m id=some b:=by
 show(if id∈ids then g.m id else none)=some b;rw[if_pos h];exact hm
theorem Gh.m4 {id:Nat} {b:Gb} (h:(g.only ids).m id=some b):id∈ids/\g.m id=some b:=by
 change (if id∈ids then g.m id else none)=some b at h;split at h
 ·exact⟨‹_›,h⟩
 ·cases h
theorem VA.only {x:At} {v:Value} (h:VA g w x v) (hi:∀i∈ff x,i∈ids):VA (g.only ids) w x v:=by
 have pur:∀{x:At} {v:Value},VA g w x v->nL x=true->VA (g.only ids) w x v:=λh hp=>h.pure hp (λ_ h=>h)
 cases x
 case int κ q=>exact pur h rfl
 case bool b=>exact pur h rfl
 case str s=>exact pur h rfl
 case sl τ l=>exact pur h rfl
 case fnc f=>exact pur h rfl
 case clip τ l=>
  cases h with
  |clip _ _ ad len bk of f hl ha hcell hf=>exact .clip τ l ad len bk of f hl ha hcell (λi x j y hx hy=>pur (hf i x j y hx hy) (c_ _ _ _ _ hy))
 case gQ τ x j=>
  cases h with
  |gQ _ _ _ bk of f ha hcell hf=>exact .gQ τ x j bk of f ha hcell (λi y hy=>pur (hf i y hy) (c_ _ _ _ _ hy))
 case own i=>
  cases h with
  |own _ b ad hm hk h0=>exact .own i b ad (Gh.kg (hi i (by simp [ff])) hm) hk h0
 case sub i off len=>
  cases h with
  |sub _ _ _ b ad cc hm hl hc hk=>exact .sub i off len b ad cc (Gh.kg (hi i (by simp [ff])) hm) hl hc hk
 case ptr i off=>
  cases h with
  |ptr _ _ b kk hm hk=>exact .ptr i off b kk (Gh.kg (hi i (by simp [ff])) hm) hk
 case fB i p q=>
  cases h with
  |fB _ _ _ b kk hm hk=>exact .fB i p q b kk (Gh.kg (hi i (by simp [ff])) hm) hk
 case clo i=>
  cases h with
  |clo _ b f fs cs hm hv=>exact .clo i b f fs cs (Gh.kg (hi i (by simp [ff])) hm) hv
 case gp i=>
  cases h with
  |gp _ b kk hm hk=>exact .gp i b kk (Gh.kg (hi i (by simp [ff])) hm) hk
 case iter i=>
  cases h with
  |iter _ b kk hm hk=>exact .iter i b kk (Gh.kg (hi i (by simp [ff])) hm) hk
 case yld i=>
  cases h with
  |yld _ b kk hm hk=>exact .yld i b kk (Gh.kg (hi i (by simp [ff])) hm) hk
 case gl τ l=>
  cases h with
  |gl _ _ bk f ha hcell hf=>exact .gl τ l bk f ha hcell (λi x j y hx hy=>pur (hf i x j y hx hy) (c_ _ _ _ _ hy))
 case pS=>cases h;exact .pS
 case ng=>cases h;exact .ng
 case oO=>cases h;exact .oO
 case dead=>exact .dead _ h.one
theorem kJ:∀{l:List At},uS ids l=true->∀x∈l,∀i∈ff x,i∈ids
 | [],_,x,hx=>by simp at hx
 |y::l,h,x,hx=>by
  unfold uS at h;split at h
  ·rename_i hy
   rcases List.mem_cons.1 hx with rfl|hx
   ·exact λi hi=>l6.1 ((List.all_eq_true.1 hy) i hi)
   ·exact kJ h x hx
  ·simp at h
theorem bR.Ed {α β:Type} {R R':α->β->Prop} {l:List α} {m:List β} (h:bR R l m) (hr:∀a∈l,∀b,R a b->R' a b):bR R' l m:=by
 induction h with
 |nil=>exact .nil
 |cons h _ ih=>exact .cons (hr _ (by simp) _ h) (ih λa ha=>hr a (by simp [ha]))
theorem V1R.only {x:V1} {v:Value} (h:V1R g w x v) (hi:LD ids x=true):V1R (g.only ids) w x v:=by
 cases x with
 |one x=>exact VA.only h (kJ hi x (by simp))
 |agg l=>obtain⟨vs,rfl,h⟩:=h;exact⟨vs,rfl,h.Ed λx hx v hv=>hv.only (kJ hi x hx)⟩
theorem AVR.only {x:AV} {v:Value} (h:AVR g w x v) (hi:Nl ids x=true):AVR (g.only ids) w x v:=by
 cases x with
 |v x=>exact V1R.only h hi
 |tup l=>obtain⟨vs,rfl,h⟩:=h;exact⟨vs,rfl,h.Ed λx hx v hv=>V1R.only hv ((List.all_eq_true.1 hi) x hx)⟩
 |undef=>exact h
 |dead=>trivial
theorem BR.only {b:Gb} {x:AB} (h:BR P g w b x) (hi:Pq ids x=true):BR P (g.only ids) w b x:=by
 cases x with
 |cells l=>obtain⟨k,cs,e,hb,hh,ha⟩:=h;exact⟨k,cs,e,hb,hh,ha.Ed λx hx v hv=>hv.only (kJ hi x hx)⟩
 |row τ l=>
  obtain⟨h1,h2,h3⟩:=h;refine⟨h1,h2, ?_⟩;rcases h3 with h3|⟨k,cs,e,hb,hh,hs,hl,ho,ha⟩
  ·exact .inl h3
  ·exact .inr ⟨k,cs,e,hb,hh,hs,hl,ho,λi x j y hx hy=>let ⟨v,hv,ha'⟩:=ha i x j y hx hy;⟨v,hv,ha'.pure (c_ _ _ _ _ hy) (λ_ h=>h)⟩⟩
 |clo f a c=>
  obtain⟨h0,fs,cs,hb,h1,h2⟩:=h;simp only[Pq] at hi;split at hi
  ·rename_i ha
   exact⟨h0,fs,cs,hb,h1.Ed λx hx v hv=>hv.only (kJ ha x hx),h2.Ed λx hx v hv=>hv.only (kJ hi x hx)⟩
  ·simp at hi
 |iter s p=>exact h
 |oE x n=>obtain⟨hb,ad,len,hv⟩:=h;exact⟨hb,ad,len,hv.only (kJ hi x (by simp))⟩
 |loop ph n fid rid az=>
  obtain⟨k,r,hb,hh,h1,h2,h3,h4,h5⟩:=h;exact⟨k,r,hb,hh,h1,h2,h3,h4,λt x hx=>⟨(h5 t x hx).1,(h5 t x hx).2.only ((List.all_eq_true.1 hi) _ (yX hx))⟩⟩
 |over e=>obtain⟨k,r,hb,hh,h1⟩:=h;exact⟨k,r,hb,hh,h1⟩
 |map ag κ τ l ck=>obtain⟨k,es,hb,hh,ha⟩:=h;exact⟨k,es,hb,hh,ha.mono λx e k=>k.of λy v hy hv=>V1R.ZQ (g:=g) (g':=g.only ids) (w:=w) (w':=w) (λx v hp hv=>hv.pure hp (λ_ h=>h)) hy hv⟩
 |gone=>trivial
theorem wT {mem:List Nat}:∀{l:List Nat} {r r':cj},qS mem r l=some r'->∀t x,look t r'=some x->look t r=some x/\Nl mem x=true
 | [],r,r',h,t,x,hx=>by simp [qS] at h;subst h;simp [look] at hx
 |n::l,r,r',h,t,x,hx=>by
  simp only[qS] at h;split at h
  ·rename_i v r2 hv hr2
   split at h
   ·rename_i hi
    cases h;rw[ba] at hx;split at hx
    ·rename_i e;subst e;cases hx;exact⟨hv,hi⟩
    ·exact wT hr2 t x hx
   ·simp at h
  ·simp at h
theorem kN {mem:List Nat}:∀{l:List Nat} {r r':Mem},vt mem r l=some r'->∀t x,look t r'=some x->t∈l/\look t r=some x/\Pq mem x=true
 | [],r,r',h,t,x,hx=>by simp [vt] at h;subst h;simp [look] at hx
 |n::l,r,r',h,t,x,hx=>by
  simp only[vt] at h;split at h
  ·rename_i v r2 hv hr2
   split at h
   ·rename_i hi
    cases h;rw[ba] at hx;split at hx
    ·rename_i e;subst e;cases hx;exact⟨by simp,hv,hi⟩
    ·obtain⟨h1,h2,h3⟩:=kN hr2 t x hx
     exact⟨by simp [h1],h2,h3⟩
   ·simp at h
  ·simp at h
theorem vA:∀{l:List (Nat×Nat×Ty)} {σ σ':St} {g:Gh},wc l σ=some σ'->Rel P base w0 S0 N D sv g σ a w->∃g',Rel P base w0 S0 N D sv g' σ' a w
 | [],σ,σ',g,h,hr=>by simp [wc] at h;subst h;exact⟨g,hr⟩
 |(r,id,τ)::l,σ,σ',g,h,hr=>by
  simp only[wc] at h;split at h
  ·split at h
   ·exact vA h hr
   ·simp at h
  ·rename_i τ' hlk
   split at h
   ·rename_i hle
    have hle:=Nat.le_of_ble_eq_true hle;have hv:=hr.az r _ hlk;obtain⟨b,hbd⟩:∃b:Gb,b=⟨none,0,0,τ.n,default⟩:=⟨_,rfl⟩;have h1:=hr.new (id:=id) hle (b:=b) (x:= .row τ []) (Below.refl _ _) (by rw[hbd];exact⟨rfl,rfl, .inl ⟨rfl,rfl,rfl⟩⟩) (λq hq=>by rw[hbd] at hq;cases hq);have hmg:(g.set id b).m id=some b:=by simp [Gh.set]
    have hva:VA (g.set id b) w (.own id) (vof sv a r):=by
     generalize vof sv a r=u at hv;cases hv with
     |clip _ _ ad len bk of f hl ha hcell hf=>
      simp at hl;subst hl;have:=VA.own (g:=g.set id b) (w:=w) id b ad hmg (λq hq=>by rw[hbd] at hq;cases hq) (λ_=>by rw[hbd];exact⟨rfl,rfl⟩);rw[hbd] at this⊢;exact this
    refine vA h (g:=g.set id b) {h1 with az:=λt y hy=> ?_ };simp only[ba] at hy;split at hy
    ·rename_i e;subst e;cases hy;exact hva
    ·exact h1.az t y hy
   ·simp at h
  ·simp at h
theorem vG:∀{l:List (Nat×Nat×Ty)} {σ σ':St} {g:Gh},wL l σ=some σ'->Rel P base w0 S0 N D sv g σ a w->∃g',Rel P base w0 S0 N D sv g' σ' a w
 | [],σ,σ',g,h,hr=>by simp [wL] at h;subst h;exact⟨g,hr⟩
 |(r,id,τ)::l,σ,σ',g,h,hr=>by
  simp only[wL] at h;split at h
  ·split at h
   ·exact vG h hr
   ·simp at h
  ·rename_i τ' hlk
   split at h
   ·rename_i hle
    have hle:=Nat.le_of_ble_eq_true hle;have hv:=hr.az r _ hlk;obtain⟨b,hbd⟩:∃b:Gb,b=⟨none,0,0,τ.n,default⟩:=⟨_,rfl⟩;have h1:=hr.new (id:=id) hle (b:=b) (x:= .row τ []) (Below.refl _ _) (by rw[hbd];exact⟨rfl,rfl, .inl ⟨rfl,rfl,rfl⟩⟩) (λq hq=>by rw[hbd] at hq;cases hq);have hmg:(g.set id b).m id=some b:=by simp [Gh.set]
    have hva:VA (g.set id b) w (.sub id 0 0) (vof sv a r):=by
     generalize vof sv a r=u at hv;cases hv with
     |clip _ _ ad len bk of f hl ha hcell hf=>
      simp at hl;subst hl;exact VA.sub (g:=g.set id b) (w:=w) id 0 0 b ad 0 hmg (by rw[hbd];exact Nat.le_refl _) (by rw[hbd];rfl) (λe=>absurd rfl e)
    refine vG h (g:=g.set id b) {h1 with az:=λt y hy=> ?_ };simp only[ba] at hy;split at hy
    ·rename_i e;subst e;cases hy;exact hva
    ·exact h1.az t y hy
   ·simp at h
  ·simp at h
theorem Rel.say (h:Rel P base w0 S0 N D sv g σ a w) {id:Nat} {x y:AB} (hx:look id σ.mem=some x) (hl:x.live=true) (hB:∀b,BR P g w b x->BR P g w b y) (hyl:y.kj=false:=by rfl):Rel P base w0 S0 N D sv g (σ.set id y) a w:=by
 have e:∀i z,look i (σ.set id y).mem=some z->(i=id/\z=y)\/look i σ.mem=some z:=λi z hz=>by
  simp only[St.set,ba] at hz;split at hz
  ·rename_i e;cases hz;exact .inl ⟨e.symm,rfl⟩
  ·exact .inr hz
 have e2:∀i z,look i (σ.set id y).mem=some z->z.live=true->∃z',look i σ.mem=some z'/\z'.live=true:=λi z hz hlz=>by
  rcases e i z hz with⟨rfl,_⟩ |hz'
  ·exact⟨x,hx,hl⟩
  ·exact⟨z,hz',hlz⟩
 refine{az:=h.az,size:=h.size,dfr:=h.dfr,glo:=h.glo,lp:=λi z b h1 hl1=> ?_,mem:=λi z hz=> ?_,inj:=λi i' z z' b b' q h1 h2 hl1 hl2=> ?_,own:=λi z b q h1 hl1=> ?_,S:=h.S,blk:=h.blk,nx:=h.nx,bel:=h.bel,bs:=h.bs,sub:=h.sub}
 ·intro hm1
  rcases e i z h1 with⟨rfl,rfl⟩ |h1
  ·rw[hyl] at hl1;cases hl1
  ·exact h.lp i z b h1 hl1 hm1
 ·rcases e i z hz with⟨rfl,rfl⟩ |hz'
  ·obtain⟨b,hm,hr⟩:=h.mem i x hx
   exact⟨b,hm,hB b hr⟩
  ·exact h.mem i z hz'
 ·obtain⟨z1,h3,h4⟩:=e2 i z h1 hl1
  obtain⟨z2,h5,h6⟩:=e2 i' z' h2 hl2;exact h.inj i i' z1 z2 b b' q h3 h5 h4 h6
 ·obtain⟨z1,h3,h4⟩:=e2 i z h1 hl1
  exact h.own i z1 b q h3 h4
theorem E4:∀{l:List Nat} {σ σ':St},EX l σ=some σ'->Rel P base w0 S0 N D sv g σ a w->Rel P base w0 S0 N D sv g σ' a w
 | [],σ,σ',h,hr=>by simp [EX] at h;subst h;exact hr
 |r::l,σ,σ',h,hr=>by
  simp only[EX] at h;split at h
  ·rename_i x hx
   refine E4 h {hr with az:=λt y hy=> ?_ };simp only[ba] at hy;split at hy
   ·rename_i e;subst e;cases hy;exact VA.iF (hr.az _ _ hx)
   ·exact hr.az t y hy
  ·simp at h
theorem EH:∀{l:List Nat} {σ σ':St},Ft l σ=some σ'->Rel P base w0 S0 N D sv g σ a w->Rel P base w0 S0 N D sv g σ' a w
 | [],σ,σ',h,hr=>by simp [Ft] at h;subst h;exact hr
 |id::l,σ,σ',h,hr=>by
  simp only[Ft] at h;split at h
  ·rename_i cs hcs
   refine EH h (hr.say hcs rfl λb hb=> ?_);obtain⟨k,us,e,hk,hh,ha⟩:=hb;exact⟨k,us,e,hk,hh,ha.iF⟩
  ·simp at h
theorem wy:∀{l:List (Nat×Nat×Nat×Ty)} {σ σ':St} {g:Gh},wF l σ=some σ'->Rel P base w0 S0 N D sv g σ a w->∃g',Rel P base w0 S0 N D sv g' σ' a w
 | [],σ,σ',g,h,hr=>by simp [wF] at h;subst h;exact⟨g,hr⟩
 |(bk,j,id,τ)::l,σ,σ',g,h,hr=>by
  simp only[wF] at h;split at h
  ·rename_i cs hcs
   split at h
   ·split at h
    ·exact wy h hr
    ·simp at h
   ·rename_i τ' hj
    split at h
    ·rename_i hle
     have hle:=Nat.le_of_ble_eq_true hle;obtain⟨b,hbd⟩:∃b:Gb,b=⟨none,0,0,τ.n,default⟩:=⟨_,rfl⟩;have h1:=hr.new (id:=id) hle (b:=b) (x:= .row τ []) (Below.refl _ _) (by rw[hbd];exact⟨rfl,rfl, .inl ⟨rfl,rfl,rfl⟩⟩) (λq hq=>by rw[hbd] at hq;cases hq);have hmg:(g.set id b).m id=some b:=by simp [Gh.set]
     have hbk:bk≠id:=by
      obtain⟨b0,hb0,_⟩:=hr.mem bk _ hcs;have:=hr.nx bk b0 hb0;omega
     have hlk:look bk ((id,AB.row τ [])::σ.mem)=some (.cells cs):=by rw[ba,if_neg (Ne.symm hbk)];exact hcs
     refine wy h (g:=g.set id b) (h1.say (id:=bk) hlk rfl (y:= .cells (cs.set j (.own id))) λb1 hb1=> ?_);obtain⟨k,us,e,hk,hh,ha⟩:=hb1;refine⟨k,us,e,hk,hh, ?_⟩;obtain⟨u,hu,hv⟩:=ha.get hj;have hva:VA (g.set id b) w (.own id) u:=by
      cases hv with
      |clip _ _ ad len bk of f hl ha hcell hf=>
       simp at hl;subst hl;have:=VA.own (g:=g.set id b) (w:=w) id b ad hmg (λq hq=>by rw[hbd] at hq;cases hq) (λ_=>by rw[hbd];exact⟨rfl,rfl⟩);rw[hbd] at this⊢;exact this
     have:=ha.set hva j;have e9:us.toList.set j u=us.toList:=by
      obtain⟨hj2,e⟩:=List.getElem?_eq_some_iff.1 hu;rw[<-e];exact List.set_getElem_self hj2
     rwa[e9] at this
    ·simp at h
   ·simp at h
  ·simp at h
theorem Kx {an:Ann} {σ σ':St} (h:coerce an σ=some σ') (hr:Rel P base w0 S0 N D sv g σ a w):∃g',Rel P base w0 S0 N D sv g' σ' a w:=by
 unfold coerce at h;split at h
 ·simp at h
 ·rename_i σ0 h0
  obtain⟨g0,r0⟩:=vG h0 hr;split at h
  ·rename_i σ1 h1
   obtain⟨g1,r1⟩:=vA h1 r0;split at h
   ·rename_i σ2 h2
    obtain⟨g2,r2⟩:=wy h2 r1;split at h
    ·rename_i σ3 h3
     exact⟨g2,EH h (E4 h3 r2)⟩
    ·simp at h
   ·simp at h
  ·simp at h
theorem Qw {an:Ann} {σ':St} (h:Cv an σ=some σ') (hr:Rel P base w0 S0 N D sv g σ a w):∃g',Rel P base w0 S0 N D sv g' σ' a w:=by
 unfold Cv at h;split at h
 ·rename_i σ1 h1
  obtain⟨g1,r1⟩:=Kx h1 hr;split at h
  ·rename_i r2 m2 hr2 hm2 hlt
   cases h;refine⟨g1.only an.mem,{az:=λt x hx=> ?_,size:=r1.size,dfr:=r1.dfr,glo:=r1.glo,lp:=λid x b hx hl hm=>r1.lp id x b (kN hm2 id x hx).2.1 hl (Gh.m4 hm).2,mem:=λid x hx=> ?_,inj:=λid id' x x' b b' q hx hx' hl hl' hm hm'=> ?_,own:=λid x b q hx hl hm hq=> ?_,S:=r1.S,blk:=λid b q hm hq=>r1.blk id b q (Gh.m4 hm).2 hq,nx:=λid b hm=> ?_,bel:=r1.bel,bs:=r1.bs,sub:=r1.sub}⟩
   ·obtain⟨h2,h3⟩:=wT hr2 t x hx
    exact(r1.az t x h2).only h3
   ·obtain⟨h2,h3,h4⟩:=kN hm2 id x hx
    obtain⟨b,hb,hbr⟩:=r1.mem id x h3;exact⟨b,Gh.kg h2 hb,hbr.only h4⟩
   ·exact r1.inj id id' x x' b b' q (kN hm2 id x hx).2.1 (kN hm2 id' x' hx').2.1 hl hl' (Gh.m4 hm).2 (Gh.m4 hm').2
   ·exact r1.own id x b q (kN hm2 id x hx).2.1 hl (Gh.m4 hm).2 hq
   ·have:=(List.all_eq_true.1 hlt) id (Gh.m4 hm).1
    exact Nat.le_of_ble_eq_true this
  ·simp at h
 ·simp at h
theorem iV {an:Option Ann} (h:mi an σ k=some res) (hr:Rel P base w0 S0 N D sv g σ a w):∃g' σ',k σ'=some res/\Rel P base w0 S0 N D sv g' σ' a w:=by
 unfold mi at h;split at h
 ·exact⟨g,σ,h,hr⟩
 ·split at h
  ·rename_i h1
   obtain⟨g',h2⟩:=Qw h1 hr;exact⟨g',_,h,h2⟩
  ·simp at h
end
section
variable {R:Type} {c:Cfg} {r:cj} {m m':Mem} {o:Oper}
theorem Bp {p:At} {n:Nat} {k:List At->Option R} (h:∀i∈ff p,look i m=look i m'):js m p n k=js m' p n k:=by
 cases p<;>simp only[js]<;>simp [ff] at h<;>rw[h]
theorem pR {p:At} {k:(τ:Ty)->List τ.T->Option R} (h:∀i∈ff p,look i m=look i m'):cg m p k=cg m' p k:=by
 cases p<;>simp only[cg]<;>simp [ff] at h<;>rw[h]
theorem u7 {p:At} {k:At->Option R} (h:∀i∈ff p,look i m=look i m'):viewAt m p k=viewAt m' p k:=by
 cases p<;>simp only[viewAt]<;>first|rfl|exact pR h
theorem xo:∀{l:List At} {k:List At->Option R},(∀i∈l.flatMap ff,look i m=look i m')->ji m l k=ji m' l k
 | [],k,_=>rfl
 |x::l,k,h=>by
  simp only[ji];rw[u7 (m':=m') (λi hi=>h i (by simp [hi]))];congr 1;funext y;exact xo (λi hi=>h i (by rw[List.flatMap_cons];exact List.mem_append_right _ hi))
theorem EA {x:AV} {k:AV->Option R} (h:∀i∈qA x,look i m=look i m'):jk m x k=jk m' x k:=by
 unfold jk;split
 ·exact u7 h
 ·exact xo h
 ·rfl
theorem uC:∀{l:List AV} {k:List AV->Option R},(∀i∈l.flatMap qA,look i m=look i m')->dC m l k=dC m' l k
 | [],k,_=>rfl
 |x::l,k,h=>by
  simp only[dC];rw[EA (m':=m') (λi hi=>h i (by simp [hi]))];congr 1;funext y;exact uC (λi hi=>h i (by rw[List.flatMap_cons];exact List.mem_append_right _ hi))
theorem Ie {t:TypeId} {p:At} {k:AV->Option R} (h:∀i∈ff p,look i m=look i m'):CX c m t p k=CX c m' t p k:=by
 unfold CX;split
 ·rfl
 ·split
  ·rfl
  ·exact pR h
 ·split
  ·rw[h _ (by simp [ff])]
  ·rfl
 ·rfl
theorem H7 {t:TypeId} {p:At} {n:Int} {k:AV->Option R} (h:∀i∈ff p,look i m=look i m'):C6 c m t p n k=C6 c m' t p n k:=by
 unfold C6;split
 ·cases p<;>simp [ff] at h<;>first|rfl|(simp only [];rw[h])
 ·rfl
 ·rfl
theorem DE {t:TypeId} {p:At} {lo hi mx:Option Operand} {k:AV->Option R} (h:∀i∈ff p,look i m=look i m') (hc:∀i∈ff p,jl m i m=jl m' i m'):qf c r m t p lo hi mx k=qf c r m' t p lo hi mx k:=by
 unfold qf;split
 ·split
  ·rfl
  ·cases p<;>simp [ff] at h hc<;>first|rfl|(simp only [];rw[h,hc])
  ·rfl
 ·rfl
theorem R8 {t:TypeId} {x:Operand} {v:AV} (h:ev c r t x=some v):∀i∈qA v,∃n u,x= .tmp n/\look n r=some u/\i∈qA u:=by
 intro i hi;cases x with
 |tmp n=>exact⟨n,v,rfl,(bS h).2,hi⟩
 |const v'=>
  exfalso;simp only[ev] at h;unfold yn at h;split at h<;>first|(cases h;simp [qA,vV,ff] at hi;done) |skip
  split at h
  ·cases h;simp [qA,vV,ff] at hi
  ·cases h
  ·cases h
 |func f=>simp only[ev] at h;cases h;simp [qA,vV,ff] at hi
 |«global» _=>
  simp only[ev] at h;split at h
  ·cases h;simp [qA,vV,ff] at hi
  ·cases h
theorem JE {n:Nat} {u:AV} {i:Nat} (hl:vY o.op=true) (h1:n∈fv o) (h2:look n r=some u) (h3:i∈qA u):i∈jb r o:=by
 unfold jb;rw[hl];simp only [];rw[List.mem_flatMap];exact⟨n,h1,by rw[h2];exact h3⟩
theorem zD {n:Nat} (h:Operand.tmp n∈o.op.operands.toList):n∈fv o:=by
 unfold fv;rw[List.mem_filterMap];exact⟨_,h,rfl⟩
theorem zH (hl:vY o.op=true) {t:TypeId} {x:Operand} {v:AV} (h:ev c r t x=some v) (hx:x∈o.op.operands.toList):∀i∈qA v,i∈jb r o:=by
 intro i hi;obtain⟨n,u,rfl,h2,h3⟩:=R8 h i hi;exact JE hl (zD hx) h2 h3
theorem UI {t:TypeId} {x:Operand} {p:At} (h:evA c r t x=some p):ev c r t x=some (.one p):=by
 unfold evA at h;split at h
 ·rename_i e;cases h;exact e
 ·cases h
theorem sa (hl:vY o.op=true) {t:TypeId} {x:Operand} {p:At} (h:evA c r t x=some p) (hx:x∈o.op.operands.toList):∀i∈ff p,i∈jb r o:=zH hl (UI h) hx
theorem uR (hl:vY o.op=true):∀{l:List Operand} {ts:List TypeId} {as:List AV},fw c r l ts=some as->(∀x∈l,x∈o.op.operands.toList)->∀i∈as.flatMap qA,i∈jb r o
 | [],ts,as,h,_,i,hi=>by simp only[fw] at h;cases h;simp at hi
 |x::l,ts,as,h,hx,i,hi=>by
  simp only[fw] at h;split at h
  ·rename_i y l' h1 h2
   cases h;rw[List.flatMap_cons,List.mem_append] at hi;rcases hi with hi|hi
   ·exact zH hl h1 (hx x (by simp)) i hi
   ·exact uR hl h2 (λz hz=>hx z (by simp [hz])) i hi
  ·cases h
theorem Ek {k:AV->Option R} (h:∀i∈jb r o,look i m=look i m') (hc:∀i,jl m i m=jl m' i m'):jY c r m o k=jY c r m' o k:=by
 unfold jY;split
 case h_4 t a ho=>
  split
  ·rename_i ti p h1 h2
   exact Bp λi hi=>h i (sa (by rw[ho];rfl) h2 (by simp [ho,Op.operands]) i hi)
  ·rfl
 case h_8 t x i ho=>
  split
  ·rename_i p _ n h1 h2
   exact H7 λi hi=>h i (sa (by rw[ho];rfl) h1 (by simp [ho,Op.operands]) i hi)
  ·rfl
 case h_13 s d x ho=>
  split
  ·rfl
  ·rfl
  ·rename_i p h1 h2 h3
   split
   ·exact pR λi hi=>h i (zH (by rw[ho];rfl) h3 (by simp [ho,Op.operands]) i hi)
   ·rfl
  ·rfl
  ·rfl
 case h_15 t x lo hi mx ho=>
  split
  ·rename_i p h1
   exact DE (λi hi=>h i (sa (by rw[ho];rfl) h1 (by simp [ho,Op.operands]) i hi)) (λi _=>hc i)
  ·rfl
 case h_17 args ts ho=>
  split
  ·rename_i x t h1 h2
   split
   ·rename_i p h3
    exact Ie λi hi=>h i (sa (by rw[ho];rfl) h3 (by simp [ho,Op.operands,Call.operands,h1]) i hi)
   ·rfl
  ·rfl
 case h_19 f args ts ho=>
  split
  ·rename_i n as h1 h2
   split
   ·exact uC λi hi=>h i (uR (by rw[ho];rfl) h2 (by intro x hx;simp only[ho,Op.operands,Call.operands,Array.toList_append,List.mem_append];simp [hx]) i hi)
   ·rfl
  ·rfl
 all_goals rfl
end
section
variable {α:Type}
def gP (d:Option Nat) (y:α) (r:List (Nat×α)):List (Nat×α):=
 match d with
 |none=>r
 |some d=>(d,y)::r
def gF:List (Option Nat×α)->List (Nat×α)->List (Nat×α)
 | [],r=>r
 |x::l,r=>gF l (gP x.1 x.2 r)
def gL (L:Nat->Bool):Nat->List (Option Nat×α)->List (Nat×α)->List (Nat×α)
 |_, [],r=>r
 |i,x::l,r=>gL L (i+1) l (if L i then gP x.1 x.2 r else r)
theorem iU {d:Option Nat} {y:α} {r:List (Nat×α)} {t:Nat}:look t (gP d y r)=if d=some t then some y else look t r:=by
 cases d with
 |none=>simp [gP]
 |some d=>
  simp only[gP,look,Option.some.injEq];by_cases h:d=t
  ·subst h;simp
  ·have:Nat.beq d t=false:=by
    cases e:Nat.beq d t with
    |false=>rfl
    |true=>exact(h (Nat.eq_of_beq_eq_true e)).elim
   simp [this,h]
theorem zG {t:Nat}:∀{tr:List (Option Nat×α)} {r r':List (Nat×α)},look t r=look t r'->look t (gF tr r)=look t (gF tr r')
 | [],_,_,h=>h
 |x::l,r,r',h=>by
  simp only[gF];refine zG ?_;simp only[iU,h]
theorem nU {L:Nat->Bool} {t:Nat}:∀{tr:List (Option Nat×α)} {i p:Nat} {r r':List (Nat×α)},look t r=look t r'->(∀q x,tr[q]? =some x->x.1=some t->(q<p↔L (i+q)=true))->look t (gL L i tr r)=look t (gF (tr.take p) r')
 | [],i,p,r,r',h,_=>by simpa [gL,gF] using h
 |x::l,i,p,r,r',h,hL=>by
  have h0:=hL 0 x (by simp);simp only[gL];cases p with
  |zero=>
   have:=nU (L:=L) (t:=t) (tr:=l) (i:=i+1) (p:=0) (r:=if L i then gP x.1 x.2 r else r) (r':=r') (by
    split
    ·rename_i hl
     rw[iU];split
     ·rename_i e
      have:=(h0 e).2 (by simpa using hl);omega
     ·exact h
    ·exact h) (λq x hq hx=>by
     have:=hL (q+1) x (by simpa using hq) hx;rw[show i+1+q=i+(q+1) from by omega,<-this];omega)
   simpa [gF] using this
  |succ p=>
   simp only[List.take_succ_cons,gF];refine nU ?_ (λq x hq hx=> ?_)
   ·by_cases e:x.1=some t
    ·have:=(h0 e).1 (by omega)
     simp only[Nat.add_zero] at this;rw[if_pos this];simp only[iU,if_pos e]
    ·rw[iU,if_neg e]
     split
     ·rw[iU,if_neg e];exact h
     ·exact h
   ·have:=hL (q+1) x (by simpa using hq) hx
    rw[show i+1+q=i+(q+1) from by omega,<-this];omega
theorem AH {L L':Nat->Bool} {t:Nat}:∀{tr:List (Option Nat×α)} {i:Nat} {r r':List (Nat×α)},look t r=look t r'->(∀q x,tr[q]? =some x->x.1=some t->L (i+q)=L' (i+q))->look t (gL L i tr r)=look t (gL L' i tr r')
 | [],i,r,r',h,_=>h
 |x::l,i,r,r',h,hL=>by
  simp only[gL];refine AH ?_ (λq y hq hy=>by
   have:=hL (q+1) y (by simpa using hq) hy;rwa[show i+1+q=i+(q+1) from by omega])
  by_cases e:x.1=some t
  ·have:=hL 0 x (by simp) e
   simp only[Nat.add_zero] at this;rw[this];split
   ·simp only[iU,if_pos e]
   ·exact h
  ·split<;>split<;>simp only[iU,if_neg e,h]
theorem zB {L:Nat->Bool} {t:Nat} {y:α}:∀{tr:List (Option Nat×α)} {i p:Nat} {r:List (Nat×α)},tr[p]? =some (some t,y)->L (i+p)=true->(∀q x,p<q->tr[q]? =some x->x.1=some t->L (i+q)=false)->look t (gL L i tr r)=some y
 | [],i,p,r,h,_,_=>by simp at h
 |x::l,i,0,r,h,h0,hL=>by
  simp at h;subst h;simp only[gL];simp only[Nat.add_zero] at h0;rw[if_pos h0,nU (p:=0) (r':=gP (some t) y r) rfl (λq x hq hx=> ?_)]
  ·simp [gF,iU]
  ·have:=hL (q+1) x (by omega) (by simpa using hq) hx
   rw[show i+1+q=i+(q+1) from by omega,this];simp
 |x::l,i,p+1,r,h,h0,hL=>by
  simp only[gL];refine zB (p:=p) (by simpa using h) (by rw[show i+1+p=i+(p+1) from by omega];exact h0) (λq y hq hy he=> ?_);rw[show i+1+q=i+(q+1) from by omega];exact hL (q+1) y (by omega) (by simpa using hy) he
theorem lx {L:Nat->Bool}:∀{tr:List (Option Nat×α)} {i p:Nat} {r:List (Nat×α)},(∀q x d,tr[q]? =some x->x.1=some d->(q<p↔L (i+q)=true))->gL L i tr r=gF (tr.take p) r
 | [],i,p,r,_=>by simp [gL,gF]
 |x::l,i,p,r,hL=>by
  simp only[gL];have nx:∀p',p=p'+1->∀q y d,l[q]? =some y->y.1=some d->(q<p'↔L (i+1+q)=true):=by
   intro p' e q y d hq hd;have:=hL (q+1) y d (by simpa using hq) hd;rw[show i+1+q=i+(q+1) from by omega,<-this];omega
  cases hx:x.1 with
  |none=>
   have e0:gP (none:Option Nat) x.2 r=r:=rfl;rw[e0];cases p with
   |zero=>
    rw[show(if L i=true then r else r)=r from by split<;>rfl,lx (p:=0) (λq y d hq hd=>by
     have:=hL (q+1) y d (by simpa using hq) hd;rw[show i+1+q=i+(q+1) from by omega,<-this];omega)]
    simp [gF]
   |succ p=>
    rw[show(if L i=true then r else r)=r from by split<;>rfl,lx (p:=p) (nx p rfl)];simp only[List.take_succ_cons,gF,hx,e0]
  |some d0=>
   have h0:=hL 0 x d0 (by simp) hx;simp only[Nat.add_zero] at h0;cases p with
   |zero=>
    have:¬L i=true:=λh=>by have:=h0.2 h;omega
    rw[if_neg this,lx (p:=0) (λq y d hq hd=>by
     have:=hL (q+1) y d (by simpa using hq) hd;rw[show i+1+q=i+(q+1) from by omega,<-this];omega)]
    simp [gF]
   |succ p=>
    rw[if_pos (h0.1 (by omega)),lx (p:=p) (nx p rfl)];simp only[List.take_succ_cons,gF,hx]
theorem II {L L':Nat->Bool}:∀{tr:List (Option Nat×α)} {i:Nat} {r:List (Nat×α)},(∀q x d,tr[q]? =some x->x.1=some d->L (i+q)=L' (i+q))->gL L i tr r=gL L' i tr r
 | [],i,r,_=>rfl
 |x::l,i,r,hL=>by
  simp only[gL];have e:(if L i=true then gP x.1 x.2 r else r)=(if L' i=true then gP x.1 x.2 r else r):=by
   cases hx:x.1 with
   |none=>simp [gP]
   |some d=>have:=hL 0 x d (by simp) hx;simp only[Nat.add_zero] at this;rw[this]
  rw[e];exact II λq y d hq hd=>by
   have:=hL (q+1) y d (by simpa using hq) hd;rwa[show i+1+q=i+(q+1) from by omega]
theorem IM:∀(tr:List (Option Nat×α)) (x:Option Nat×α) (r:List (Nat×α)),gF (tr++[x]) r=gP x.1 x.2 (gF tr r)
 | [],x,r=>rfl
 |y::l,x,r=>by simp only[List.cons_append,gF];exact IM l x _
theorem Dy {tr:List (Option Nat×α)} {p:Nat} {x:Option Nat×α} (h:tr[p]? =some x) (r:List (Nat×α)):gF (tr.take (p+1)) r=gP x.1 x.2 (gF (tr.take p) r):=by
 rw[<-IM];congr 1;rw[List.take_add_one,h];rfl
end
theorem Et {m m':Mem} {id:Nat}:∀(l:Mem),(∀x∈l,mq (look x.1 m)=true\/mq (look x.1 m')=true->look x.1 m=look x.1 m')->jl m id l=jl m' id l
 | [],_=>rfl
 |x::l,h=>by
  have ih:=Et (id:=id) l (λy hy=>h y (by simp [hy]));have hx:=h x (by simp);simp only[jl];rw[ih];cases h1:look x.1 m with
  |none=>
   cases h2:look x.1 m' with
   |none=>rfl
   |some b=>
    cases b<;>first|rfl|skip
    rename_i a n;exfalso;have:=hx (.inr (by rw[h2];rfl));rw[h1,h2] at this;cases this
  |some b=>
   by_cases hc:mq (some b)=true
   ·have:=hx (.inl (by rw[h1];exact hc))
    rw[h1] at this;rw[<-this]
   ·cases b<;>first|(simp [mq] at hc;done) |skip
    all_goals
     cases h2:look x.1 m' with
     |none=>rfl
     |some b'=>
      cases b'<;>first|rfl|skip
      exfalso;have:=hx (.inr (by rw[h2];rfl));rw[h1,h2] at this;cases this
def Plain (tr:List (Option Nat×AB)) (m:Mem):Prop:=∀x∈tr,∀d,x.1=some d->mq (some x.2)=false/\mq (look d m)=false
theorem mM {L:Nat->Bool} {t:Nat}:∀{tr:List (Option Nat×AB)} {i:Nat} {m:Mem},Plain tr m->look t (gL L i tr m)=look t m\/(mq (look t (gL L i tr m))=false/\mq (look t m)=false)
 | [],i,m,_=> .inl rfl
 |x::l,i,m,h=>by
  simp only[gL];have hx:=h x (by simp);split
  ·have hp:Plain l (gP x.1 x.2 m):=by
    intro y hy d hd;refine⟨(h y (by simp [hy]) d hd).1, ?_⟩;rw[iU];split
    ·rename_i e;exact(hx d e).1
    ·exact(h y (by simp [hy]) d hd).2
   rcases mM (L:=L) (t:=t) (i:=i+1) hp with h1|⟨h1,h2⟩
   ·rw[iU] at h1
    split at h1
    ·rename_i e
     right;rw[h1];exact hx t e
    ·exact .inl h1
   ·right
    refine⟨h1, ?_⟩;rw[iU] at h2;split at h2
    ·rename_i e;exact(hx t e).2
    ·exact h2
  ·exact mM λy hy=>h y (by simp [hy])
theorem D0 {L:Nat->Bool} {M:Mem} {id:Nat}:∀{tr:List (Option Nat×AB)} {i:Nat} {m:Mem},(∀x∈tr,∀d,x.1=some d->mq (look d M)=false)->jl M id (gL L i tr m)=jl M id m
 | [],i,m,_=>rfl
 |x::l,i,m,h=>by
  simp only[gL];rw[D0 λy hy=>h y (by simp [hy])];split
  ·cases hx:x.1 with
   |none=>rfl
   |some d=>
    have:=h x (by simp) d hx;simp only[gP,jl];cases h1:look d M with
    |none=>rfl
    |some b=>
     rw[h1] at this;cases b<;>first|rfl|(simp [mq] at this)
  ·rfl
theorem sQ {L:Nat->Bool} {id i:Nat} {tr:List (Option Nat×AB)} {m:Mem} (h:Plain tr m):jl (gL L i tr m) id (gL L i tr m)=jl m id m:=by
 rw[D0 λx hx d hd=> ?_]
 ·refine Et m λx hx hc=> ?_
  rcases mM (L:=L) (t:=x.1) (i:=i) h with h1|⟨h1,h2⟩
  ·exact h1
  ·rw[h1,h2] at hc;simp at hc
 ·rcases mM (L:=L) (t:=d) (i:=i) h with h1|⟨h1,h2⟩
  ·rw[h1];exact(h x hx d hd).2
  ·exact h1
theorem Gs {α:Type} {tr:List (Option Nat×α)} {r:List (Nat×α)} (p:Nat):gF (tr.take p) r=gL (λq=>decide (q<p)) 0 tr r:=by
 rw[lx (p:=p)];intro q x d _ _;simp
def upL (L:Nat->Bool):Nat->List Bool->Nat->Nat
 |_, [],n=>n
 |i,x::l,n=>upL L (i+1) l (if L i&&x then n+1 else n)
def upF:List Bool->Nat->Nat
 | [],n=>n
 |x::l,n=>upF l (if x then n+1 else n)
theorem nD {L:Nat->Bool}:∀{tr:List Bool} {i p n:Nat},(∀q,tr[q]? =some true->(q<p↔L (i+q)=true))->upL L i tr n=upF (tr.take p) n
 | [],i,p,n,_=>by simp [upL,upF]
 |x::l,i,p,n,hL=>by
  simp only[upL];have h0:=hL 0;simp only[List.getElem?_cons_zero,Nat.add_zero] at h0;cases p with
  |zero=>
   rw[nD (p:=0) (λq hq=>by
    have:=hL (q+1) (by simpa using hq);rw[show i+1+q=i+(q+1) from by omega,<-this];omega)]
   simp only[List.take_zero,upF];cases x
   ·simp
   ·have:=h0 rfl
    simp at this;simp [this]
  |succ p=>
   rw[nD (p:=p) (λq hq=>by
    have:=hL (q+1) (by simpa using hq);rw[show i+1+q=i+(q+1) from by omega,<-this];omega)]
   simp only[List.take_succ_cons,upF];cases x
   ·simp
   ·have:=(h0 rfl).1 (by omega)
    simp [this]
theorem EW {L L':Nat->Bool}:∀{tr:List Bool} {i n:Nat},(∀q,tr[q]? =some true->L (i+q)=L' (i+q))->upL L i tr n=upL L' i tr n
 | [],i,n,_=>rfl
 |x::l,i,n,hL=>by
  simp only[upL];have e:(if (L i&&x)=true then n+1 else n)=(if (L' i&&x)=true then n+1 else n):=by
   cases x
   ·simp
   ·have:=hL 0 rfl;simp only[Nat.add_zero] at this;rw[this]
  rw[e];exact EW λq hq=>by
   have:=hL (q+1) (by simpa using hq);rwa[show i+1+q=i+(q+1) from by omega]
theorem EM:∀(tr:List Bool) (x:Bool) (n:Nat),upF (tr++[x]) n=if x then upF tr n+1 else upF tr n
 | [],x,n=>by cases x<;>rfl
 |y::l,x,n=>by simp only[List.cons_append,upF];exact EM l x _
theorem Bn {tr:List Bool} {p:Nat} {x:Bool} (h:tr[p]? =some x) (n:Nat):upF (tr.take (p+1)) n=if x then upF (tr.take p) n+1 else upF (tr.take p) n:=by
 rw[<-EM];congr 1;rw[List.take_add_one,h];rfl
section
variable {R R':Type} {c:Cfg} {r r':cj} {m m':Mem} {o:Oper} {nx:Nat}
theorem Bh (p:At) (v:V1) (f:Nat->AB->Option R) (k:R->Option R'):(rk m p v f).bind k=rk m p v λa b=>(f a b).bind k:=by
 unfold rk;repeat' split
 all_goals first|rfl|simp_all [fi]
theorem CE (τ0:Ty) (x:At) (τ':Ty) (src:List τ'.T) (f:AV->Nat->AB->Option R) (k:R->Option R'):(ss m τ0 x τ' src f).bind k=ss m τ0 x τ' src λy a b=>(f y a b).bind k:=by
 unfold ss;repeat' split
 all_goals first|rfl|simp_all [fi,eG]
theorem EB (s:kx) (as:List AV) (f:At->AB->Option R) (k:R->Option R'):(v8 s nx as f).bind k=v8 s nx as λy b=>(f y b).bind k:=by
 unfold v8;split
 ·rw[fi];congr 1;funext b;split<;>rfl
 ·rfl
theorem Ja (f:Operand) (args:Array Operand) (ts:Array TypeId) (g:At->AB->Option R) (k:R->Option R'):(v_ c f args ts r m nx g).bind k=v_ c f args ts r m nx λy b=>(g y b).bind k:=by
 unfold v_;split
 ·split
  ·rw[lZ];congr 1;funext as';rw[EB];congr 1;funext y b;split<;>rfl
  ·rfl
 ·rfl
theorem zY {κ τ:Ty} (key:κ.T):∀(l:List (κ.T×τ.T×Nat)) (kv:τ.T->Nat->Option R) (kn:Option R) (k:R->Option R'),(lO key l kv kn).bind k=lO key l (λv b=>(kv v b).bind k) (kn.bind k)
 | [],_,_,_=>rfl
 |x::l,kv,kn,k=>by simp only[lO];rw[eG,zY key l]
theorem JD {σ:St} {t:TypeId} {x i:Operand} {kk:(id:Nat)->(ag:Bool)->(κ τ:Ty)->List (κ.T×τ.T×Nat)->Nat->κ.T->TI->Option R} (k:R->Option R'):(sC c σ t x i kk).bind k=sC c σ t x i λid ag κ τ l ck key te=>(kk id ag κ τ l ck key te).bind k:=by
 unfold sC;repeat' split
 all_goals first|rfl|simp_all
theorem JX (f:Operand) (args:Array Operand) (ts:Array TypeId) (g:AV->Nat->Option R) (k:R->Option R'):(uG c f args ts r m g).bind k=uG c f args ts r m λy b=>(g y b).bind k:=by
 unfold uG;split
 ·split
  ·split
   ·rw[lZ];congr 1;funext as';rw[tD]
   ·rfl
  ·rfl
 ·rfl
theorem Jf (τ:Ty) (x:At) (ys:List τ.T) (f:AV->Nat->AB->Bool->Option R) (k:R->Option R'):(Jq τ m x nx ys f).bind k=Jq τ m x nx ys λy a b u=>(f y a b u).bind k:=by
 unfold Jq;repeat' split
 all_goals first|rfl|simp_all [fi,ug]
theorem KM (f:AV->Nat->AB->Bool->Option R) (k:R->Option R'):(AW c o r m nx f).bind k=AW c o r m nx λy a b u=>(f y a b u).bind k:=by
 unfold AW;repeat' split
 all_goals first|rfl|(simp_all [fi,eG,ug,Bh,CE,lW];done) |(rw[Ja];done) |(rw[JX];done) |(simp_all [fi,lW,Jf];done) |(rw[JD];simp only[zY,fi];done)
abbrev MJ (c:Cfg) (o:Oper) (r:cj) (m:Mem) (nx:Nat):Option (AV×Nat×AB×Bool):=AW c o r m nx λy a b u=>some (y,a,b,u)
theorem Ke {k:AV->Nat->AB->Bool->Option R} {res:R} (h:AW c o r m nx k=some res):∃y id b up,MJ c o r m nx=some (y,id,b,up)/\k y id b up=some res:=by
 have e:=KM (c:=c) (o:=o) (r:=r) (m:=m) (nx:=nx) (f:=λy a b u=>some (y,a,b,u)) (k:=λx=>k x.1 x.2.1 x.2.2.1 x.2.2.2);simp only[Option.bind_some] at e;rw[<-e] at h;obtain⟨⟨y,id,b,up⟩,h1,h2⟩:=Option.bind_eq_some_iff.1 h;exact⟨y,id,b,up,h1,h2⟩
theorem pP {t:TypeId} {x:Operand} (h:∀t∈fv o,look t r=look t r') (hx:x∈o.op.operands.toList):ev c r t x=ev c r' t x:=by
 cases x with
 |tmp n=>
  have:=h n (zD hx);simp only[ev,j_];rw[this]
 |const v=>rfl
 |func f=>rfl
 |global _=>rfl
theorem ka {t:TypeId} {x:Operand} (h:∀t∈fv o,look t r=look t r') (hx:x∈o.op.operands.toList):evA c r t x=evA c r' t x:=by unfold evA;rw[pP h hx]
theorem Am {t:TypeId} {x:Operand} (h:∀t∈fv o,look t r=look t r') (hx:x∈o.op.operands.toList):evV c r t x=evV c r' t x:=by unfold evV;rw[pP h hx]
theorem pD (h:∀t∈fv o,look t r=look t r'):∀{l:List (Nat×Operand)},(∀x∈l,x.2∈o.op.operands.toList)->lG c r l=lG c r' l
 | [],_=>rfl
 |x::l,hl=>by
  simp only[lG];rw[pP h (hl x (by simp)),pD h (λy hy=>hl y (by simp [hy]))]
theorem zS (h:∀t∈fv o,look t r=look t r') {t:TypeId} {s:Nat}:∀{l:List (Nat×Operand)} {cells:List At},(∀x∈l,x.2∈o.op.operands.toList)->qB c r t s cells l=qB c r' t s cells l
 | [],_,_=>rfl
 |x::l,cells,hl=>by
  simp only[qB];rw[Am h (hl x (by simp))];split
  ·split
   ·exact zS h (λy hy=>hl y (by simp [hy]))
   ·rfl
  ·rfl
theorem tX (h:∀t∈fv o,look t r=look t r'):jb r o=jb r' o:=by
 unfold jb;cases vY o.op
 ·rfl
 ·simp only []
  generalize fv o=l at h;induction l with
  |nil=>rfl
  |cons a l ih=>
   simp only[List.flatMap_cons];rw[h a (by simp),ih (λt ht=>h t (by simp [ht]))]
theorem rM (h:∀t∈fv o,look t r=look t r'):∀{l:List Operand} {ts:List TypeId},(∀x∈l,x∈o.op.operands.toList)->fw c r l ts=fw c r' l ts
 | [],_,_=>rfl
 |x::l,ts,hl=>by
  simp only[fw];rw[pP h (hl x (by simp)),rM h (λy hy=>hl y (by simp [hy]))]
theorem Jy {f:Operand} {args:Array Operand} {ts:Array TypeId} {kk:At->AB->Option R} (h:∀t∈fv o,look t r=look t r') (hf:f∈o.op.operands.toList) (ha:∀x∈args.toList,x∈o.op.operands.toList):v_ c f args ts r m nx kk=v_ c f args ts r' m nx kk:=by
 unfold v_ fk;rw[pP h hf,rM h ha]
theorem Jd {f:Operand} {args:Array Operand} {ts:Array TypeId} {kk:AV->Nat->Option R} (h:∀t∈fv o,look t r=look t r') (hf:f∈o.op.operands.toList) (ha:∀x∈args.toList,x∈o.op.operands.toList):uG c f args ts r m kk=uG c f args ts r' m kk:=by
 unfold uG fk;rw[pP h hf,rM h ha]
theorem CD {f:Operand} (h:∀t∈fv o,look t r=look t r') (hf:f∈o.op.operands.toList):yk c r f=yk c r' f:=by
 unfold yk fk;rw[pP h hf]
theorem Jj {t:TypeId} {x i:Operand} {kk:(id:Nat)->(ag:Bool)->(κ τ:Ty)->List (κ.T×τ.T×Nat)->Nat->κ.T->TI->Option R} (h:∀t∈fv o,look t r=look t r') (hx:x∈o.op.operands.toList) (hi:i∈o.op.operands.toList):
 sC c {az:=r,mem:=m,nx:=nx} t x i kk=sC c {az:=r',mem:=m,nx:=nx} t x i kk:=by
 unfold sC;simp only;rw[ka h hx,ka h hi]
theorem Ki {k:AV->Nat->AB->Bool->Option R} (h:∀t∈fv o,look t r=look t r'):AW c o r m nx k=AW c o r' m nx k:=by
 unfold AW;split
 case h_1=>rfl
 case h_2 t x ho=>rw[Am h (by simp [ho,Op.operands])]
 case h_3 t n parts ho=>
  have hp:∀x∈parts.toList,x.2∈o.op.operands.toList:=by
   intro x hx;simp only[ho,Op.operands,Array.toList_map,List.mem_map];exact⟨x,hx,rfl⟩
  rw[pD h hp];split
  ·split
   ·split
    ·rw[zS h hp]
    ·rfl
   ·rfl
  ·rfl
 case h_4 t n q ho=>rw[ka h (x:=n) (by simp [ho,Op.operands]),ka h (x:=q) (by simp [ho,Op.operands])]
 case h_5 t a x ho=>
  rw[ka h (x:=a) (by simp [ho,Op.operands]),Am h (x:=x) (by simp [ho,Op.operands])];have hx:∀z∈[((0:Nat),x)],z.2∈o.op.operands.toList:=by intro z hz;simp at hz;subst hz;simp [ho,Op.operands]
  have e:=pD (c:=c) h hx;cases evA c r' 0 a with
  |none=>rfl
  |some p=>cases p<;>first|rfl|(simp only [];rw[e])
 case h_6 args ts ho=>
  split
  ·rename_i x y t t' h1 h2
   have hx:x∈o.op.operands.toList:=by simp [ho,Op.operands,Call.operands,h1]
   have hy:y∈o.op.operands.toList:=by simp [ho,Op.operands,Call.operands,h1]
   rw[ka h hx,ka h hy]
  ·rfl
 case h_7 f args ts ho=>
  have hf:f∈o.op.operands.toList:=by simp [ho,Op.operands,Call.operands]
  have ha:∀x∈args.toList,x∈o.op.operands.toList:=by intro x hx;simp only[ho,Op.operands,Call.operands,Array.toList_append,List.mem_append];simp [hx]
  rw[CD h hf];split
  ·exact Jd h hf ha
  ·exact Jy h hf ha
 case h_8 args ts ho=>
  split
  ·rename_i x y t t' h1 h2
   have hx:x∈o.op.operands.toList:=by simp [ho,Op.operands,Call.operands,h1]
   have hy:y∈o.op.operands.toList:=by simp [ho,Op.operands,Call.operands,h1]
   rw[ka h hx,ka h hy]
  ·rfl
 case h_9 t x i ok ho=>exact Jj h (by simp [ho,Op.operands]) (by simp [ho,Op.operands])
 case h_10=>rfl
theorem Lk {σ:St} {t:TypeId} {x i:Operand} {kk:(id:Nat)->(ag:Bool)->(κ τ:Ty)->List (κ.T×τ.T×Nat)->Nat->κ.T->TI->Option R} {res:R} (h:sC c σ t x i kk=some res):
 ∃id ag κ τ l ck key te,kk id ag κ τ l ck key te=some res/\∀{R':Type} (kk':(id:Nat)->(ag:Bool)->(κ τ:Ty)->List (κ.T×τ.T×Nat)->Nat->κ.T->TI->Option R'),sC c σ t x i kk'=kk' id ag κ τ l ck key te:=by
 unfold sC at h;split at h
 ·rename_i ag0 sz z κ τ0 kt e hti
  split at h
  ·rename_i id ki te hx hi hte
   split at h
   ·rename_i ag κ' τ l ck hl
    split at h
    ·rename_i hsame
     split at h
     ·rename_i key hkey
      exact⟨id,ag,κ',τ,l,ck,key,te,h,λkk'=>by unfold sC;simp only[hti,hx,hi,hte,hl,hsame,hkey]⟩
     ·cases h
    ·cases h
   ·cases h
  ·cases h
 ·cases h
theorem BI {κ τ:Ty} {key:κ.T}:∀{l:List (κ.T×τ.T×Nat)} {kv:τ.T->Nat->Option R} {kn:Option R} {res:R},lO key l kv kn=some res->
 (∃v b,kv v b=some res/\∀{R':Type} (kv':τ.T->Nat->Option R') (kn':Option R'),lO key l kv' kn'=kv' v b)\/(kn=some res/\∀{R':Type} (kv':τ.T->Nat->Option R') (kn':Option R'),lO key l kv' kn'=kn')
 | [],kv,kn,res,h=> .inr ⟨h,λ_ _=>rfl⟩
 |x::l,kv,kn,res,h=>by
  simp only[lO] at h;rcases a_ h with⟨hb,h⟩ |⟨hb,h⟩
  ·exact .inl ⟨_,_,h,λkv' kn'=>by simp only[lO,hb,ah]⟩
  ·rcases BI h with⟨v,b,h1,h2⟩ |⟨h1,h2⟩
   ·exact .inl ⟨v,b,h1,λkv' kn'=>by simp only[lO,hb,ah,h2]⟩
   ·exact .inr ⟨h1,λkv' kn'=>by simp only[lO,hb,ah,h2]⟩
theorem LP {f:Operand} {args:Array Operand} {ts:Array TypeId} {kk:At->AB->Option R} {res:R} (h:v_ c f args ts r m nx kk=some res):∃y b,kk y b=some res/\Af c r f=true/\∀{R':Type} (kk':At->AB->Option R'),v_ c f args ts r m nx kk'=kk' y b:=by
 obtain⟨nn,as,as',s,x,ab,y,hn,has,hsp,hu,hx,hab,hy,hc,hk⟩:=Ca h;refine⟨y,ab,hk,by unfold Af;simp only[hn,hsp],λkk'=> ?_⟩;unfold v_;simp only[hn,has,hsp];rw[hu];unfold v8;have e:(BO ab||(cR as).isEmpty)=true:=by
  rcases hc with hc|hc
  ·simp [hc]
  ·simp [hc]
 obtain⟨z,hz,rfl⟩:∃z,s.g x=some z/\s.enc z=ab:=by
  unfold kx.f at hab;split at hab
  ·rename_i z hz;exact⟨z,hz,by cases hab;rfl⟩
  ·cases hab
 simp only[hx,hz,aj,hy,e]
theorem HK {p:At} {kk:(τ:Ty)->List τ.T->Option R} {res:R} (h:cg m p kk=some res):∃τ l,(∀{R':Type} (kk':(τ:Ty)->List τ.T->Option R'),cg m p kk'=kk' τ l)/\kk τ l=some res:=by
 unfold cg at h;split at h
 ·exact⟨_,_,λ_=>rfl,h⟩
 ·exact⟨_,_,λ_=>rfl,h⟩
 ·split at h
  ·rename_i h7;exact⟨_,_,λ_=>by simp only[cg,h7],h⟩
  ·cases h
 ·split at h
  ·rename_i h7
   split at h
   ·rename_i h8;exact⟨_,_,λ_=>by simp only[cg,h7,h8],h⟩
   ·cases h
  ·cases h
 ·cases h
theorem LQ {f:Operand} {args:Array Operand} {ts:Array TypeId} {kk:AV->Nat->Option R} {res:R} (h:uG c f args ts r m kk=some res):∃y id,kk y id=some res/\∀{R':Type} (kk':AV->Nat->Option R'),uG c f args ts r m kk'=kk' y id:=by
 unfold uG at h;split at h
 ·rename_i nn as hn has
  split at h
  ·rename_i s hsp
   split at h
   ·rename_i id hid
    obtain⟨as',hu⟩:=AK h;rw[hu] at h;obtain⟨x,y,hx,hy,hk⟩:=Ab h;refine⟨s.enc y,id,hk,λkk'=> ?_⟩;unfold uG;simp only[hn,has,hsp,hid];rw[hu];unfold o8;simp only[hx,hy,aj]
   ·cases h
  ·cases h
 ·cases h
theorem KB {σ:St} {y:AV} {id:Nat} {b:AB} {up:Bool} (h:MJ c o σ.az σ.mem σ.nx=some (y,id,b,up)):
 (∀(H:Hnd R) (k:St->Option R),m_ H c o σ k=St.put c {az:=σ.az,mem:=(id,b)::σ.mem,nx:=zF up σ.nx} o.dst y k)\/
 (∀(k:St->Option R),BJ c o σ k=St.put c {az:=σ.az,mem:=(id,b)::σ.mem,nx:=zF up σ.nx} o.dst y k):=by
 unfold MJ AW at h;split at h
 case h_7 f args ts ho=>
  split at h
  ·obtain⟨y',id',h1,h2⟩:=LQ h
   cases h1;refine .inr λk=> ?_
   simp only[BJ,ho,h2];rfl
  ·obtain⟨y',b',h1,h2,h3⟩:=LP h
   cases h1;refine .inl λH k=> ?_
   simp only[m_,ho,ER,h2,vO,h3];rfl
 case h_8 args ts ho=>
  split at h
  ·rename_i x y' t t' h1 h2
   split at h
   ·rename_i τ e h3 h4
    split at h
    ·rename_i te xx yy h5 h6 h7
     have go:∀(τ':Ty) (ys:List τ'.T),(∀{R':Type} (kk:(τ:Ty)->List τ.T->Option R'),cg σ.mem yy kk=kk τ' ys)->(aj (dV τ' τ ys) λys=>Jq τ σ.mem xx σ.nx ys λy id b u=>some (y,id,b,u))=some (y,id,b,up)->
      (∀(H:Hnd R) (k:St->Option R),m_ H c o σ k=St.put c {az:=σ.az,mem:=(id,b)::σ.mem,nx:=zF up σ.nx} o.dst y k)\/
      (∀(k:St->Option R),BJ c o σ k=St.put c {az:=σ.az,mem:=(id,b)::σ.mem,nx:=zF up σ.nx} o.dst y k):=by
      intro τ' ys hl h;obtain⟨ys',hys,h⟩:=bo h;unfold Jq at h;split at h
      ·rename_i τ1
       obtain⟨l,hl1,h⟩:=bo h;refine .inl λH k=> ?_
       simp only[m_,jX,ho,h1,h2,h3,h4,h5,h6,h7,hl,hys,aj,yx,hl1];unfold aS at h⊢;split at h
       ·cases h;rfl
       ·cases h
      ·rename_i id'
       split at h
       ·rename_i τ1 l0 h8
        obtain⟨l,hl1,h⟩:=bo h;refine .inr λk=> ?_
        simp only[BJ,ho,h1,h2,h3,h4,h5,h6,h7,hl,hys,aj,h8,hl1];unfold aS at h⊢;split at h
        ·cases h;rfl
        ·cases h
       ·cases h
      ·cases h
     obtain⟨τ',ys,hl,hk⟩:=HK h;exact go τ' ys hl hk
    ·cases h
   ·cases h
  ·cases h
 all_goals refine .inl λH k=> ?_
 case h_9 t x i ok ho=>
  simp only[m_,ho,jX,yt];obtain⟨id',ag,κ,τ,l,ck,key,te,h1,h2⟩:=Lk h;rw[h2 (λid ag κ τ l ck key te=>lO key l (λv _=>aj (V1.dB ag (τ.enc v)) λy=>(σ.set id (.map ag κ τ l ck)).put c o.dst (nM ok y true) k) ((σ.set id (.map ag κ τ l ck)).put c o.dst (nM ok te.zero false) k))];rcases BI h1 with⟨v,bb,h4,h5⟩ |⟨h4,h5⟩
  ·rw[h5]
   cases h6:V1.dB ag (τ.enc v) with
   |none=>rw[h6] at h4;cases h4
   |some z=>rw[h6] at h4;cases h4;rfl
  ·rw[h5]
   cases h4;rfl
 case h_1 t ho=>
  simp only[m_,jX,ho];split at h
  ·rename_i h1;cases h;(try simp only[h1]);rfl
  ·cases h
 case h_2 t x ho=>
  simp only[m_,jX,ho];split at h
  ·rename_i h1;cases h;(try simp only[h1]);rfl
  ·cases h
 case h_3 t n parts ho=>
  simp only[m_,jX,ho];split at h
  ·rename_i h0
   rw[h0];simp only[fy];split at h
   ·rename_i τ e h1
    (try simp only[h1])
    split at h
    ·rename_i te h2
     (try simp only[h2])
     split at h
     ·rename_i cells h3
      (try simp only[h3])
      cases h4:mc τ n cells with
      |none=>rw[h4] at h;cases h
      |some l=>rw[h4] at h;cases h;rfl
     ·cases h
    ·cases h
   ·cases h
  ·cases h
 case h_4 t n q ho=>
  simp only[m_,jX,ho];split at h
  ·rename_i τ e k1 a k2 b h1 h2 h3
   (try simp only[h1,h2,h3])
   split at h
   ·rename_i te h4
    (try simp only[h4])
    rcases a_ h with⟨hb,h⟩ |⟨hb,h⟩
    ·rw[hb]
     simp only[ah];unfold aS at h⊢;split at h
     ·rename_i hl
      (try simp only [])
      cases h5:τ.qH te.zero.cells with
      |none=>rw[h5] at h;cases h
      |some z=>rw[h5] at h;cases h;rfl
     ·cases h
    ·cases h
   ·cases h
  ·cases h
 case h_5 t a x ho=>
  simp only[m_,jX,ho];split at h
  ·rename_i h0
   rw[h0];simp only[fy];split at h
   ·rename_i p v ti h1 h2 h3
    (try simp only[h1,h2,h3])
    split at h
    ·rename_i h4
     (try simp only[h4])
     unfold rk at h;split at h
     ·rename_i id' off
      split at h
      ·rename_i l h5
       split at h
       ·rename_i h6;cases h;(try simp only[storeAt,h5,h6]);rfl
       ·cases h
      ·cases h
     ·rename_i id' i j
      split at h
      ·rename_i τ l h5
       split at h
       ·rename_i h6
        (try simp only[storeAt,h5,h6])
        cases h7:l[i]? with
        |none=>rw[h7] at h;cases h
        |some e=>
         rw[h7] at h;simp only[aj] at h⊢;cases h8:τ.qH (setCells (τ.enc e) j v.cells) with
         |none=>rw[h8] at h;cases h
         |some e'=>rw[h8] at h;cases h;rfl
       ·cases h
      ·cases h
     ·cases h
    ·cases h
   ·cases h
  ·cases h
 case h_6 args ts ho=>
  simp only[m_,jX,ho];split at h
  ·rename_i x y' t t' h1 h2
   (try simp only[h1,h2])
   split at h
   ·rename_i τ0 e h3 h4
    (try simp only[h3,h4])
    split at h
    ·cases h
    ·rename_i xx yy h5 h6 hno
     have go:∀(τ':Ty) (src:List τ'.T),(ss σ.mem τ0 xx τ' src λy id b=>some (y,id,b,false))=some (y,id,b,up)->B2 c o σ τ0 xx τ' src k=St.put c {az:=σ.az,mem:=(id,b)::σ.mem,nx:=zF up σ.nx} o.dst y k:=by
      intro τ' src h;unfold ss at h;split at h
      ·split at h
       ·rename_i h5
        split at h
        ·rename_i h6
         (try simp only[B2,h5,h6])
         cases h7:dV τ' _ src with
         |none=>rw[h7] at h;cases h
         |some s=>rw[h7] at h;cases h;rfl
        ·cases h
       ·cases h
      ·split at h
       ·rename_i h5
        split at h
        ·rename_i h6
         (try simp only[B2,h5,h6])
         rcases a_ h with⟨h6',h⟩ |⟨_,h⟩
         rotate_left
         ·cases h
         rw[h6'];simp only[ah];cases h7:dV τ' _ src with
         |none=>rw[h7] at h;cases h
         |some s=>rw[h7] at h;cases h;rfl
        ·cases h
       ·cases h
      ·cases h
     unfold cg at h⊢;split at h
     ·exact go _ _ h
     ·exact go _ _ h
     ·split at h
      ·rename_i h7;(try simp only[h7]);exact go _ _ h
      ·cases h
     ·split at h
      ·rename_i h7
       (try simp only[h7])
       split at h
       ·rename_i h8;(try simp only[h8]);exact go _ _ h
       ·cases h
      ·cases h
     ·cases h
    ·cases h
   ·cases h
  ·cases h
 case h_10=>cases h
theorem Mo {H:Hnd R} {σ:St} {k:St->Option R} {y:AV} {id:Nat} {b:AB} {up:Bool} (hq:isQ c o.op=false) (h:m_ H c o σ k=St.put c {az:=σ.az,mem:=(id,b)::σ.mem,nx:=zF up σ.nx} o.dst y k):
 iA H c true o σ k=St.put c {az:=σ.az,mem:=(id,b)::σ.mem,nx:=zF up σ.nx} o.dst y k:=by
 rw[<-h];simp only[iA,hq]
end
section
variable {P:Program} [aD P] {F:Fence} {n:Nat} {c:Cfg} {g g':Gh} {r:cj} {m:Mem} {a:Act} {w w':World} {o:Oper} {R:Type} {k:St->Option R} {res:R}
variable {base:Nat} {w0:World} {S0:Nat->Prop} {N:Nat} {D:Wt} {sv:Nat->Value} {σ:St}
theorem Rel.consume (h:Rel P base w0 S0 N D sv g σ a w) {id:Nat} {b:Gb} {x:AB} (hx:look id σ.mem=some x) (hl:x.live=true) (hm:g.m id=some b) (hsz:w.heap.size<=w'.heap.size) (hos:w'.os=w.os/\w'.tape=w.tape/\w'.output=w.output)
 (hoth:∀j,j<w.heap.size->b.blk≠some j->w'.heap[j]? =w.heap[j]?):
 ∃g',Rel P base w0 S0 N D sv g' (sP id σ) a w'/\g'.m=g.m/\(∀q,g.S q->g'.S q)/\(∀q,b.blk=some q->g'.S q)/\(∀q,w.heap.size<=q->q<w'.heap.size->g'.S q):=by
 obtain⟨g',hg'⟩:∃g':Gh,g'={S:=λq=>g.S q\/b.blk=some q\/(w.heap.size<=q/\q<w'.heap.size),m:=g.m}:=⟨_,rfl⟩;have hgm:g'.m=g.m:=by subst hg';rfl
 have hgS:∀q,g'.S q↔g.S q\/b.blk=some q\/(w.heap.size<=q/\q<w'.heap.size):=by subst hg';exact λq=>Iff.rfl
 have hle:g.le g':=by subst hg';exact⟨λ_ h=> .inl h,λ_ _ h=>h⟩
 have hown:∀q,b.blk=some q->base<=q/\¬g.S q:=λq hq=>h.own id x b q hx hl hm hq
 have hH:cr g w w':=λj hj=>hoth j (h.S j hj) (λe=>(hown j e).2 hj)
 refine⟨g', ?_,hgm,hle.S,λq hq=>(hgS q).2 (.inr (.inl hq)),λq h1 h2=>(hgS q).2 (.inr (.inr ⟨h1,h2⟩))⟩;refine{az:=λt y hy=>(h.az t y hy).mono hH hle,size:=h.size,dfr:=h.dfr.mono λq _ he hs=>⟨(hoth q (iq he) (λe=>h.qL hx hl hm e he)).trans he,λhs'=>((hgS q).1 hs').elim hs λhq=>hq.elim (λhq=>h.qL hx hl hm hq he) λhq=>by have:=iq he;omega⟩,glo:=h.glo.mono hH hle.S,lp:=λi z b1 hz hlz hm1=> ?_,mem:=λi z hz=> ?_,inj:=λi i' z z' b1 b2 p hz hz' hlz hlz' hm1 hm2 hp1 hp2=> ?_,own:=λi z b1 p hz hlz hm1 hp1=> ?_,S:=λp hp=> ?_,blk:=λi b1 p hm1 hp1=> ?_,nx:=λi b1 hm1=> ?_,bel:=h.bel.trans ⟨hos.1,hos.2.1,hos.2.2,hsz,λj hj=> ?_⟩,bs:=Nat.le_trans h.bs hsz,sub:=λp hp=> ?_ }
 ·simp only[sP,ba] at hz
  rw[hgm] at hm1;split at hz
  ·cases hz;cases hlz
  ·exact h.lp i z b1 hz hlz hm1
 ·simp only[sP,ba] at hz
  split at hz
  ·rename_i e;subst e;cases hz;exact⟨b,by rw[hgm];exact hm,trivial⟩
  ·rename_i e
   obtain⟨b1,hm1,hr1⟩:=h.mem i z hz;refine⟨b1,by rw[hgm];exact hm1, ?_⟩;by_cases hlz:z.live=true
   ·exact hr1.mono hH (λq hq=>hoth q (h.blk i b1 q hm1 hq) (λe'=>e (h.inj id i x z b b1 q hx hz hl hlz hm hm1 e' hq))) hle
   ·cases z<;>simp [AB.live] at hlz
    exact trivial
 ·simp only[sP,ba] at hz hz'
  rw[hgm] at hm1 hm2;split at hz
  ·cases hz;simp [AB.live] at hlz
  ·split at hz'
   ·cases hz';simp [AB.live] at hlz'
   ·exact h.inj i i' z z' b1 b2 p hz hz' hlz hlz' hm1 hm2 hp1 hp2
 ·simp only[sP,ba] at hz
  rw[hgm] at hm1;split at hz
  ·cases hz;simp [AB.live] at hlz
  ·rename_i e
   obtain⟨h1,h2⟩:=h.own i z b1 p hz hlz hm1 hp1;refine⟨h1,λhs=> ?_⟩;rcases(hgS p).1 hs with hs|hs|hs
   ·exact h2 hs
   ·exact e (h.inj id i x z b b1 p hx hz hl hlz hm hm1 hs hp1)
   ·have:=h.blk i b1 p hm1 hp1;omega
 ·rcases(hgS p).1 hp with hp|hp|hp
  ·exact Nat.lt_of_lt_of_le (h.S p hp) hsz
  ·exact Nat.lt_of_lt_of_le (h.blk id b p hm hp) hsz
  ·exact hp.2
 ·rw[hgm] at hm1
  exact Nat.lt_of_lt_of_le (h.blk i b1 p hm1 hp1) hsz
 ·rw[hgm] at hm1
  exact h.nx i b1 hm1
 ·refine hoth j (by have:=h.bs;omega) (λe=> ?_)
  have:=(hown j e).1;omega
 ·rcases(hgS p).1 hp with hp|hp|hp
  ·exact h.sub p hp
  ·exact .inr (hown p hp).1
  ·exact .inr (by have:=h.bs;omega)
theorem Qn (h:Rel P base w0 S0 N D sv g σ a w) (C:aE P c) (hN:c.N=N) (hF:bP F) {K:Act->World->Prop} {Q:Exit->Act->World->Prop} (hK:∀g' σ' a' w',k σ'=some res->Rel P base w0 S0 N D sv g' σ' a' w'->K a' w') {f:Operand} {args:Array Operand} {ts:Array TypeId}
 (hop:o.op= .call {callee:= .value f,args,argTypes:=ts}) (hs:uG c f args ts σ.az σ.mem (λy id=>(sP id σ).put c o.dst y k)=some res):o.wpIn F n P a w K Q:=by
 unfold uG at hs;split at hs
 ·rename_i nn as hn has
  split at hs
  ·rename_i s hsp
   split at hs
   ·rename_i id hid
    obtain⟨y,hy,hcall⟩:=C_ (n:=n) (h.env C (f::args.toList)) hF (by simp) (λx hx=>by simp [hx]) hop hn has (C.gn _ _ hsp) hs;have hrows:=(l8 hs).2;obtain⟨τ,l,hl⟩:=hrows id (by rw[hid];simp);obtain⟨b,hm,hbr⟩:=h.mem id _ hl;obtain⟨g1,hr,hgm,hS,hblk, -⟩:=h.consume (w':=w) hl rfl hm (Nat.le_refl _) ⟨rfl,rfl,rfl⟩ (λ_ _ _=>rfl);refine hcall K Q g1.S ⟨hS,λid' b' q hi hb hq=> ?_⟩ hr.S (hr.glo.mono (cr.refl _ _) λ_ h=>h) λv w' hb hv=> ?_
    ·rw[hid] at hi
     simp at hi;subst hi;rw[hm] at hb;cases hb;exact hblk q hq
    ·obtain⟨σ2,hk,h2⟩:=(hr.grow hb).put hN (x:=y) (hv.mono (cr.refl _ _) ⟨λ_ h=>h,λ_ _ h=>by cases h⟩) hy
     exact hK _ _ _ _ hk h2
   ·cases hs
  ·cases hs
 ·cases hs
theorem I_ (h:Rel P base w0 S0 N D sv g σ a w) (C:aE P c) (hN:c.N=N) (hF:bP F) {K:Act->World->Prop} {Q:Exit->Act->World->Prop} (hK:∀g' σ' a' w',k σ'=some res->Rel P base w0 S0 N D sv g' σ' a' w'->K a' w') {t e:TypeId} {x y:Operand}
 (hop:o.op= .call {callee:= .builtin .append,args:= #[x,y],argTypes:= #[t,t]}) {ti te:TI} {τ:Ty} (hti:c.ti t=some ti) (htk:ti.k= .slice τ e) (hte:c.ti e=some te) {id:Nat} {py:At} (hx:evA c σ.az t x=some (.own id)) (hy:evA c σ.az t y=some py)
 (hs0:cg σ.mem py (λτ' l=>aj (dV τ' τ l) λys=>match look id σ.mem with
  |some (.row τ' l)=>aj (dV τ' τ l) λl=>aS (l.length+ys.length) ((sP id σ).put c o.dst (.one (.sl τ (l++ys))) k)
  |_=>none)=some res):o.wpIn F n P a w K Q:=by
 obtain⟨i,d,T⟩:=C.ts t ti hti;obtain⟨rfl,j,hj,hjs,hjb⟩:=T.slice htk;obtain⟨i2,d2,T2⟩:=C.ts e te hte;obtain rfl:i2=j:=by have:=T2.info;rw[hj] at this;exact(Option.some.inj this).symm
 have E:=h.env C [x,y];have hxv:=E.evA (x:=x) (by simp) hx;have hyv:=E.evA (x:=y) (by simp) hy;generalize hxe:a.eval x=vx at hxv;generalize hye:a.eval y=vy at hyv;obtain⟨τ',ys,ad2,m2,c2,hs1,rfl,hm2, -,hsrc2⟩:=gi h.mem hyv hs0;clear hs0;obtain⟨ys',hcast,hs⟩:=bo hs1;clear hs1;obtain⟨e9,hys⟩:=ei hcast;clear hcast;subst e9;simp only at hys;subst hys;subst hm2;have hsrc2:=pV hsrc2;split at hs
 ·rename_i τ1 l0 hl0
  obtain⟨l,hl,hs1⟩:=bo hs;clear hs;obtain⟨e9,hll⟩:=ei hl;clear hl;subst e9;simp only at hll;subst hll;obtain⟨hlim,hs⟩:=iv hs1;clear hs1;obtain⟨b,hm,hbr⟩:=h.mem id _ hl0;have keepG:∀{w':World} {b':Gb} {y:AB},w.heap.size<=w'.heap.size->(w'.os=w.os/\w'.tape=w.tape/\w'.output=w.output)->(∀j,j<w.heap.size->b.blk≠some j->w'.heap[j]? =w.heap[j]?)->
   (∀q,b'.blk=some q->(b.blk=some q\/(w.heap.size<=q))/\q<w'.heap.size)->(cr g w w'->BR P (g.set id b') w' b' y)->w.heap.size<=w'.heap.size/\(w'.os=w.os/\w'.tape=w.tape/\w'.output=w.output)/\(∀j,j<w.heap.size->b.blk≠some j->w'.heap[j]? =w.heap[j]?)/\
   (∀q,b'.blk=some q->(b.blk=some q\/(w.heap.size<=q))/\q<w'.heap.size)/\(cr g w w'->BR P (g.set id b') w' b' y):=λh1 h2 h3 h4 h5=>⟨h1,h2,h3,h4,h5⟩
  have fin:∀{v:Value} {w1:World} {b2:Gb} {lz:List τ1.T},(Builtin.append_ #[t,t] o.type #[vx, .slice ad2 ys.length c2]).run P w= .ok v w1->(w.heap.size<=w1.heap.size/\(w1.os=w.os/\w1.tape=w.tape/\w1.output=w.output)/\(∀j,j<w.heap.size->b.blk≠some j->w1.heap[j]? =w.heap[j]?)/\
   (∀q,b2.blk=some q->(b.blk=some q\/(w.heap.size<=q))/\q<w1.heap.size)/\(cr g w w1->BR P (g.set id b2) w1 b2 (.row τ1 lz)))->VA (g.set id b2) w1 (.own id) v->(sP id σ).put c o.dst (.one (.sl τ1 lz)) k=some res->o.wpIn F n P a w K Q:=by
   intro v w1 b2 lz hr ⟨sz,os,oth,qq,bb⟩ hva hp;obtain⟨g1,h1,hgm,hS,hblk,hnew⟩:=h.consume hl0 rfl hm sz os oth;have hbr2:=bb (λj hj=>oth j (h.S j hj) (λe=>(h.own id _ b j hl0 rfl hm e).2 hj));cases hva with
   |own _ b' ad hm' hk h0=>
    have e:b2=b':=by simpa [Gh.set] using hm'
    subst e;have hz:VA g1 w1 (.sl τ1 lz) (.slice ad b2.ln b2.cp):=hbr2.whole (g':=g1) hS (λq hq=>by
     obtain⟨h3,h4⟩:=qq q hq;rcases h3 with h3|h3
     ·exact hblk q h3
     ·exact hnew q h3 h4) hk h0
    obtain⟨σ2,hk2,h2⟩:=h1.put (v:= .slice ad b2.ln b2.cp) hN (x:= .one (.sl τ1 lz)) hz hp;refine bK hF (by simp [hop]) ?_ (hK _ _ _ _ hk2 h2);have e1:(#[x,y].map a.eval)= #[vx, .slice ad2 ys.length c2]:=by simp [hxe,hye]
    simp only[execOp,hop,resolve,Sem.run_bind,Sem.run_pure,Result.andThen_ok,invoke,builtin,e1,hr]
  have hlen:=hbr.len;have hli:cg σ.mem (.own id) (λ_ _=>some ())=some ():=by simp [cg,hl0]
  have hsrc1:∀{ad:Option Addr},VA g w (.own id) (.slice ad b.ln b.cp)->Src g w τ1 l0 ad:=by
   intro ad hv;obtain⟨τ9,l9,ad9,n9,c9,hk9,e9,hl9,_,hs9⟩:=gi (kk:=λτ l=>some (Sigma.mk τ l)) (res:=(Sigma.mk τ1 l0:(τ:Ty)×List τ.T)) h.mem hv (by simp [cg,hl0]);cases hk9;cases e9;exact pV hs9
  cases hxv with
  |own _ b' ad hm' hk' h0'=>
   rw[hm] at hm';cases hm';have hsrc1:=hsrc1 (VA.own id b ad hm hk' h0');rw[hlen.1] at fin hxe;by_cases hne:ys= []
   ·subst hne
    have hrw:=keepG (w':=w) (b':=b) (y:= .row τ1 (l0++ [])) (Nat.le_refl _) ⟨rfl,rfl,rfl⟩ (λ_ _ _=>rfl) (λq hq=>⟨.inl hq,h.blk id b q hm hq⟩) (λhH=>by
     simp only[List.append_nil];exact hbr.mono (cr.refl _ _) (λ_ _=>rfl) ⟨λ_ h=>h,λi b1 hb1=>by
      show(if i=id then some b else g.m i)=some b1;split
      ·rename_i e1;subst e1;rw[hm] at hb1;exact hb1
      ·exact hb1⟩)
    refine fin (by simpa using n_ (P:=P) (w:=w) T.und hj (ad:=ad) (ad2:=ad2) (n1:=l0.length) (c1:=b.cp) (c2:=c2) hlen.2.1 o.type) hrw ?_ hs;have:=VA.own (g:=g.set id b) (w:=w) id b ad (by simp [Gh.set]) hk' h0';rwa[hlen.1] at this
   ·by_cases hroom:l0.length+ys.length<=b.cp
    ·
     have hyp:0<ys.length:=List.length_pos_iff.2 hne;obtain⟨h1,h2,h3⟩:=hbr;rcases h3 with⟨_,_,h3⟩ |⟨q,cs,ec,hb,hh,hcs,hl',ho,ha⟩
     ·omega
     ·have had:=hk' q hb
      subst had;obtain⟨bk2,of2,vs,rfl,hvl,hvc,hve⟩:=hsrc2 hne;have hfit:l0.length*τ1.n+vs.length<=cs.size:=by rw[hvl,hcs,<-Nat.add_mul];exact Nat.mul_le_mul_right _ hroom
      obtain⟨new,hnew⟩:∃new,new=(cs.toList.take (l0.length*τ1.n)++vs++cs.toList.drop (l0.length*τ1.n+vs.length)).toArray:=⟨_,rfl⟩;have hrun:(Builtin.append_ #[t,t] o.type #[.slice (some ⟨q,0,none⟩) l0.length b.cp, .slice (some ⟨bk2,of2,none⟩) ys.length c2]).run P w= .ok (.slice (some ⟨q,0,none⟩) (l0.length+ys.length) b.cp) (w.setRow q new):=by
       have hf:=run_firstCells_some (P:=P) w i2.size ys.length ⟨bk2,of2,none⟩ ys.length c2 vs (by rw[hvl,hjs]) (λj u hu=>by rw[da];exact hvc j u hu);have hst:=run_storeCells_at P q (l0.length*i2.size) ec vs 0 cs w hh (by rw[hjs];simpa using hfit) (hve.one hvl);simp only[Nat.add_zero] at hst;rw[hnew];rw[hjs] at hst hf;simp [Builtin.append_,run_underlying T.und,sizeOf,typeInfo,hj,Builtin.lenOf,hroom,hjs,hf,Addr.add_lit,hst]
      obtain⟨f1,f2,f3,f4,f5⟩:=gH w q new;obtain⟨b2,hb2⟩:∃b2:Gb,b2=⟨b.blk,l0.length+ys.length,b.cp,b.sz,b.val⟩:=⟨_,rfl⟩;have hnl:new.size=cs.size:=by rw[hnew];simp;omega
      have hrw:=keepG (w':=w.setRow q new) (b':=b2) (y:= .row τ1 (l0++ys)) (by rw[f4];exact Nat.le_refl _) ⟨f1,f2,f3⟩ (λj hj hne'=>f5 j (λe'=>hne' (by rw[e'];exact hb))) (λp hp=>by
       rw[hb2] at hp;exact⟨.inl hp,by rw[f4];exact h.blk id b p hm hp⟩) (λhH=>by
       have hle:∀{x v},nL x=true->VA g w x v->VA (g.set id b2) (w.setRow q new) x v:=λhp hv=>(hv.pure (g':=⟨g.S,λ_=>none⟩) hp (λ_ h=>h)).mono hH ⟨λ_ h=>h,λ_ _ h=>by cases h⟩
       refine⟨by rw[hb2];exact h1,by rw[hb2];simp, .inr ⟨q,new,ec,by rw[hb2];exact hb,setRow_heap w q cs _ ec _ hh,by rw[hnl,hcs,hb2],by rw[hb2];simpa using hroom, ?_, ?_⟩⟩
       ·intro u hu
        rw[hnew] at hu;simp only[List.toList_toArray,List.mem_append] at hu;rcases hu with(hu|hu) |hu
        ·exact ho u (List.mem_of_mem_take hu)
        ·exact hve.one hvl u hu
        ·exact ho u (List.mem_of_mem_drop hu)
       ·have hold:dv g w τ1 l0 (cs.toList.take (l0.length*τ1.n)):=by
         intro i x j y hx hy;obtain⟨v,hv,hr⟩:=ha i x j y hx hy;have hi:i<l0.length:=(List.getElem?_eq_some_iff.1 hx).1;have hjj:j<τ1.n:=by rw[<-cU τ1 x];exact(List.getElem?_eq_some_iff.1 hy).1
         have:i*τ1.n+j<l0.length*τ1.n:=by
          calc i*τ1.n+j<i*τ1.n+τ1.n:=by omega
           _=(i+1)*τ1.n:=by rw[Nat.succ_mul]
           _<=l0.length*τ1.n:=Nat.mul_le_mul_right _ hi
         exact⟨v,by rw[List.getElem?_take_of_lt this];simpa using hv,hr⟩
        have htk:(cs.toList.take (l0.length*τ1.n)).length=l0.length*τ1.n:=by simp;omega
        intro i x j y hx hy;obtain⟨v,hv,hr⟩:=((hold.append htk hve).more (cs.toList.drop (l0.length*τ1.n+vs.length))) i x j y hx hy;exact⟨v,by rw[hnew];simpa using hv,hle (c_ _ _ _ _ hy) hr⟩)
      refine fin hrun hrw ?_ hs;have:=VA.own (g:=g.set id b2) (w:=w.setRow q new) id b2 (some ⟨q,0,none⟩) (by simp [Gh.set]) (λp hp=>by rw[hb2] at hp;exact hk' p hp) (λhn=>by rw[hb2] at hn;rw[hb] at hn;cases hn);rw[hb2] at this⊢;exact this
    ·
     obtain⟨w1,cap,cs,hr,hh,e1,e2,e3,hsz,hcap,hone,hel⟩:=uj (P:=P) (g:=g) (w:=w) T.und hj hjs hjb T2 (l:=l0) (ys:=ys) (ad:=ad) (ad2:=ad2) (c1:=b.cp) (c2:=c2) hsrc1 hsrc2 (λhn=>by
      cases hbk:b.blk with
      |none=>exact(h0' hbk).1
      |some q=>have:=hk' q hbk;rw[hn] at this;cases this) hne (by omega) hlim o.type
     obtain⟨b2,hb2⟩:∃b2:Gb,b2=⟨some w.heap.size,l0.length+ys.length,cap,τ1.n,b.val⟩:=⟨_,rfl⟩;have hb':=Below.push hh e1 e2 e3;have hrw:=keepG (w':=w1) (b':=b2) (y:= .row τ1 (l0++ys)) hb'.size ⟨e1,e2,e3⟩ (λj hj _=>hb'.block j hj) (λp hp=>by
      rw[hb2] at hp;cases hp;exact⟨.inr (Nat.le_refl _),by rw[hh];simp⟩) (λhH=>by
      have hle:∀{x v},nL x=true->VA g w x v->VA (g.set id b2) w1 x v:=λhp hv=>(hv.pure (g':=⟨g.S,λ_=>none⟩) hp (λ_ h=>h)).mono hH ⟨λ_ h=>h,λ_ _ h=>by cases h⟩
      refine⟨by rw[hb2],by rw[hb2];simp, .inr ⟨w.heap.size,cs,e,by rw[hb2],o4 hh,by rw[hb2];exact hsz,by rw[hb2];simpa using hcap,hone, ?_⟩⟩;intro i x j y hx hy;obtain⟨v,hv,hr⟩:=hel i x j y hx hy;exact⟨v,by simpa using hv,hle (c_ _ _ _ _ hy) hr⟩)
     refine fin hr hrw ?_ hs;have:=VA.own (g:=g.set id b2) (w:=w1) id b2 (some ⟨w.heap.size,0,none⟩) (by simp [Gh.set]) (λp hp=>by rw[hb2] at hp;cases hp;rfl) (λhn=>by rw[hb2] at hn;cases hn);rw[hb2] at this⊢;exact this
 ·simp at hs
theorem Mr (h:Rel P base w0 S0 N D sv g σ a w) (C:aE P c) (hN:c.N=N) (hF:bP F) {K:Act->World->Prop} {Q:Exit->Act->World->Prop} (hK:∀g' σ' a' w',k σ'=some res->Rel P base w0 S0 N D sv g' σ' a' w'->K a' w') (hs:BJ c o σ k=some res):o.wpIn F n P a w K Q:=by
 unfold BJ at hs;split at hs
 ·rename_i args ts ho
  split at hs
  ·rename_i x y t t' ha ht
   split at hs
   ·rename_i τ e hti hb
    have:=Nat.eq_of_beq_eq_true hb;subst this;split at hs
    ·rename_i te id py hte hx hy
     have e1:args= #[x,y]:=by apply Array.ext';simpa using ha
     have e2:ts= #[t,t]:=by apply Array.ext';simpa using ht
     subst e1;subst e2;exact I_ h C hN hF hK ho hti rfl hte hx hy hs
    ·cases hs
   ·cases hs
  ·cases hs
 ·rename_i f args ts ho
  exact Qn h C hN hF hK ho hs
 ·cases hs
end
end Go.Eng
