/- A part of the proofs of the laws of this seat: the engine that reads the program's code, plain functions, or facts of the program's functions. Conditions: none. -/
import Derived.Test.YtodknkhemckfbaaGreatDoorE1
import Derived.Great.BuildSlice
import Derived.Laws.MakeOwn
import Derived.Laws.IdiomStrings
import Derived.Laws.Tables
import Derived.Laws.CopyRow
import Derived.Laws.Append
import Derived.Laws.AppendOwn
import Derived.Lib.Overlaps
import Derived.Laws.Externs
import Derived.Laws.RangeString
set_option linter.unusedSectionVars false
set_option linter.unusedVariables false
set_option linter.unusedSimpArgs false
set_option linter.unnecessarySimpa false
namespace Go.Eng
open Go Go.RowKit
section
variable {P:Program} [aD P] {F:Fence} {n:Nat} {c:Cfg} {g g':Gh} {r:cj} {m:Mem} {a:Act} {w w':World} {o:Oper} {R:Type} {k:AV->Option R} {res:R} {xs:List Operand}
def dv (g:Gh) (w:World) (τ:Ty) (l:List τ.T) (vs:List Value):Prop:=
 ∀i x j y,l[i]? =some x->(τ.enc x)[j]? =some y->∃v,vs[i*τ.n+j]? =some v/\VA g w y v
theorem N_:∀(τ:Ty) {l:List At} {x:τ.T},τ.dec l=some x->τ.enc x=l:=by
 intro τ l x h;unfold Ty.dec at h;split at h<;>first|(cases h;rfl) |skip
 ·rename_i q
  split at h
  ·rename_i hq
   cases h;simp only[decide_eq_true_eq] at hq;simp only[Ty.enc];congr 2;have:q.toNat<256:=by omega
   simp [UInt8.toNat_ofNat,Nat.mod_eq_of_lt this];omega
  ·simp at h
 ·cases h
theorem VA.iF {x:At} {v:Value} (h:VA g w x v):VA g w (iF x) v:=by
 cases x<;>first|exact h|skip
 rename_i τ l;cases h with
 |clip _ _ ad len bk of f hl ha hcell hf=>exact .sl τ l ad len len bk of f hl (Nat.le_refl _) ha hcell hf
theorem bR.iF {l:List At} {vs:List Value} (h:bR (VA g w) l vs):bR (VA g w) (l.map iF) vs:=h.Ho λ_ _ k=>k.iF
theorem rr (τ:Ty) {l:List At} {x:τ.T} (h:τ.qH l=some x):τ.enc x=l.map Go.Eng.iF:=N_ τ h
theorem rQ {α:Type} (l:List α):∀q,(mh l q).length=q*l.length
 |0=>by simp [mh]
 |q+1=>by simp [mh,rQ l q,Nat.succ_mul];omega
theorem Fq {α:Type} {l:List α} (h0:0<l.length):∀{q j:Nat},j<q*l.length->(mh l q)[j]? =l[j%l.length]?
 |0,j,h=>by simp at h
 |q+1,j,h=>by
  simp only[mh];by_cases hj:j<l.length
  ·rw[List.getElem?_append_left hj,Nat.mod_eq_of_lt hj]
  ·rw[List.getElem?_append_right (by omega),Fq h0 (by rw[Nat.succ_mul] at h;omega),Nat.mod_eq_sub_mod (by omega:l.length<=j)]
theorem DY {z:Array Value} {q j:Nat} (hj:j<q) (h0:0<z.size):(madeCells z q).toList[j]? =z.toList[j%z.size]? :=by
 have hlt:j%z.size<z.size:=Nat.mod_lt _ h0;simp [madeCells,hj,hlt]
theorem CK {l:List At} {z:Array Value} (h:bR (VA g w) l z.toList) (q:Nat):bR (VA g w) (mh l q) (madeCells z (q*z.size)).toList:=by
 have hl:l.length=z.size:=by simpa using h.length
 refine bR.Hq (by rw[rQ,hl];simp [madeCells]) λj x v hx hv=> ?_
 have hj:j<q*l.length:=by
  rw[<-rQ];exact(List.getElem?_eq_some_iff.1 hx).1
 have h0:0<l.length:=by
  rcases Nat.eq_zero_or_pos l.length with h'|h'
  ·rw[h'] at hj;simp at hj
  ·exact h'
 rw[Fq h0 hj] at hx;rw[DY (by rw[<-hl];exact hj) (by omega),<-hl] at hv;obtain⟨v',hv',hr⟩:=h.get hx;rw[hv] at hv';cases hv';exact hr
theorem rS {τ:Ty}:∀{q:Nat} {cells:List At} {l:List τ.T},mc τ q cells=some l->l.length=q/\cells.length=q*τ.n/\∀(i:Nat) (x:τ.T) (j:Nat) (y:At),l[i]? =some x->(τ.enc x)[j]? =some y->(cells.map iF)[i*τ.n+j]? =some y
 |0, [],l,h=>by simp [mc] at h;subst h;simp
 |0,_::_,l,h=>by simp [mc] at h
 |q+1,cells,l,h=>by
  simp only[mc] at h;split at h
  ·rename_i x0 r0 hx0 hr0
   cases h;obtain⟨h1,h2,h3⟩:=rS hr0;have he:=rr τ hx0;have hlen:(cells.take τ.n).length=τ.n:=by rw[<-cU τ x0,he];simp
   have hle:τ.n<=cells.length:=by simp at hlen;omega
   refine⟨by simp [h1], ?_,λi x j y hx hy=> ?_⟩
   ·simp at h2;rw[Nat.succ_mul];omega
   ·have hj:j<τ.n:=by rw[<-cU τ x];exact(List.getElem?_eq_some_iff.1 hy).1
    cases i with
    |zero=>
     simp at hx;subst hx;rw[he,List.map_take,List.getElem?_take_of_lt hj] at hy;simpa using hy
    |succ i=>
     have:=h3 i x j y (by simpa using hx) hy;rw[List.map_drop,List.getElem?_drop] at this;rw[<-this];congr 1;rw[Nat.succ_mul];omega
  ·simp at h
theorem ve {τ:Ty} {q:Nat} {cells:List At} {l:List τ.T} {vs:List Value} (h:mc τ q cells=some l) (ha:bR (VA g w) cells vs):dv g w τ l vs:=λi x j y hx hy=>
 ha.iF.get ((rS h).2.2 i x j y hx hy)
theorem Az (E:Env P c g r m xs a w) {e:TypeId} {size:Nat}:
 ∀(parts:List (Nat×Operand)) (cells:List At) (vals:Array Value) (l:List At),(∀q∈parts,q.2∈xs)->bR (VA g w) cells vals.toList->qB c r e size cells parts=some l->
  ∃out:Array Value,Instr.fill (λi=>some (i*size,size)) vals (parts.map λ(i,x)=>(i,a.eval x))=some out/\bR (VA g w) l out.toList
 | [],cells,vals,l,_,ha,h=>by
  simp only[qB,Option.some.injEq] at h;subst h;exact⟨vals,by simp [Instr.fill],ha⟩
 |(i,x)::parts,cells,vals,l,hxs,ha,h=>by
  simp only[qB] at h;split at h
  ·rename_i v hv
   split at h
   ·rename_i h1 h2
    have h1:=Nat.eq_of_beq_eq_true h1;have h2:=Nat.le_of_ble_eq_true h2;have hvr:=E.evV (hxs (i,x) (by simp)) hv;have hvc:=hvr.cells;have hlen:=hvc.length;have hcl:=ha.length;have ha':=nK (i*size) hvc ha;obtain⟨out,ho,hoa⟩:=Az E parts _ (cE vals.toList (i*size) (a.eval x).cells.toList).toArray l (λq hq=>hxs q (by simp [hq])) (by simpa using ha') h;refine⟨out, ?_,hoa⟩;have e1:(a.eval x).cells.size=size:=by simp at hlen;omega
    have e3:¬(i*size+size>vals.size):=by simp at hcl;omega
    simp only[List.map_cons,Instr.fill,e1,ne_eq,not_true_eq_false,decide_false,decide_true,Bool.false_or,Bool.or_false,Bool.false_eq_true,if_false];rw[zj];simp only[e3,decide_false,Bool.false_eq_true,if_false];exact ho
   ·simp at h
  ·simp at h
theorem CI (E:Env P c g r m xs a w) (hF:bP F) {t e:TypeId} {q:Nat} {parts:Array (Nat×Operand)} (hxs:∀x∈parts.toList,x.2∈xs) (hop:o.op= .buildSlice t q parts)
 {ti te:TI} {τ:Ty} (hti:c.ti t=some ti) (htk:ti.k= .slice τ e) (hte:c.ti e=some te) {cells:List At} (hsz:q*te.size<=16777216) (hf:qB c r e te.size (mh te.zero.cells q) parts.toList=some cells)
 {l:List τ.T} (hl:mc τ q cells=some l) (h:k (.one (.sl τ l))=some res):∃y,k y=some res/\dR P F n g w o a y:=by
 obtain⟨i,d,T⟩:=E.ts t ti hti;obtain⟨rfl,j,hj,hjs,hjb⟩:=T.slice htk;obtain⟨i2,d2,T2⟩:=E.ts e te hte;obtain rfl:i2=j:=by have:=T2.info;rw[hj] at this;exact(Option.some.inj this).symm
 obtain⟨z,hz,hzs,hzr⟩:=T2.zero;have hzc:=(hzr g w).cells;have hzsz:z.cells.size=te.size:=hzs;have hts:te.size=τ.n:=by rw[<-T2.size,hjs]
 have hrep:=CK hzc q;rw[hzsz] at hrep;obtain⟨out,ho,hoa⟩:=Az E parts.toList _ _ cells hxs hrep hf;obtain⟨d1,d2,d3⟩:=rS hl;have hos:out.size=q*τ.n:=by have:=hoa.length;simp at this;omega
 have hel:=ve hl hoa;obtain⟨w',hw'⟩:∃w',w'=w.alloc (.cells out e):=⟨_,rfl⟩;have hheap:w'.heap=w.heap.push (.cells out e (0,0)):=by rw[hw'];rfl
 have hb:Below w.heap.size w w':=⟨by rw[hw'];rfl,by rw[hw'];rfl,by rw[hw'];rfl,by rw[hheap];simp,λj hj=>by rw[hheap,Array.getElem?_push,if_neg (by omega)]⟩;have hrun:(execOp a.eval o).run P w= .ok (.value (.slice (some ⟨w.heap.size,0,none⟩) q q)) w':=by
  rw[hw'];have hsmall:¬q*i2.size>2^24:=by rw[T2.size];omega
  by_cases h0:q*i2.size=0
  ·have hq:q=0:=by
    rcases Nat.mul_eq_zero.1 h0 with h0|h0
    ·exact h0
    ·rw[hjs] at h0;have:=wP τ;omega
   subst hq;have e2:(parts.map λ(i,x)=>(i,a.eval x)).toList=parts.toList.map λ(i,x)=>(i,a.eval x):=by simp
   have e3:(#[] :Array Value)=madeCells z.cells (0*te.size):=by simp [madeCells,Array.range_zero']
   have:(Instr.buildSlice t 0 (parts.map λ(i,x)=>(i,a.eval x))).run P w= .ok (.slice (some ⟨w.heap.size,0,none⟩) 0 0) (w.alloc (.cells out e)):=by
    rw[<-e3] at ho;rw[<-e2,<-T2.size] at ho;simp only[Nat.zero_mul] at ho;simp [Instr.buildSlice,run_underlying T.und,sizeOf,typeInfo,hj,newRow,Array.range_zero'];simp at ho;simp [ho]
   simp only[execOp,hop,Sem.run_bind,this,Result.andThen_ok];rfl
  ·have:=run_buildSlice (P:=P) w t e q (parts.map λ(i,x)=>(i,a.eval x)) out i2 z T.und hj hz hsmall h0 (by
    have e2:(parts.map λ(i,x)=>(i,a.eval x)).toList=parts.toList.map λ(i,x)=>(i,a.eval x):=by simp
    rw[e2,T2.size];exact ho)
   simp only[execOp,hop,Sem.run_bind,this,Result.andThen_ok];rfl
 refine⟨_,h,λK Q hK=> ?_⟩;refine⟨λf _=>hF.fn f, ?_⟩;rw[Oper.semAt_eq _ _ _ (by rw[hop];intro c;exact Op.noConfusion),hrun];refine hK _ w' hb ?_;have hsz':w'.heap.size=w.heap.size+1:=by rw[hheap];simp
 refine VA.sl τ l _ q q w.heap.size 0 (λi j=>(out[i*τ.n+j]?).getD default) d1.symm (Nat.le_refl _) (λ_=>⟨rfl, .inr ⟨Nat.le_refl _,by omega⟩⟩) (λi j hi hj=> ?_) (λi x j y hx hy=> ?_)
 ·have hlt:i*τ.n+j<out.size:=by
   rw[hos];have:(i+1)*τ.n<=q*τ.n:=Nat.mul_le_mul_right _ (by omega);rw[Nat.succ_mul] at this;omega
  have hh:w'.heap[w.heap.size]? =some (.cells out e (0,0)):=by rw[hheap];simp
  simp [World.cell?,hh,hlt]
 ·obtain⟨v,hv,hr⟩:=hel i x j y hx hy
  have hv':out[i*τ.n+j]? =some v:=by simpa using hv
  simp only[hv',Option.getD_some];exact hr.mono (cr.lR E.S hb) (Gh.Du g w w')
end
section
variable {P:Program} [aD P] {F:Fence} {n:Nat} {c:Cfg} {g:Gh} {r:cj} {m:Mem} {xs:List Operand} {a:Act} {w:World} {o:Oper} {R:Type} {k:AV->Option R} {res:R}
theorem rN (hF:bP F) (mm:Machine):mm.fenced P F:=by
 intro gg _;refine⟨λh=> ?_, .inl (hF.fn _),λ_ _=>hF.fn _,λ_ h=> ?_⟩
 ·rw[hF.alive] at h;cases h
 ·rw[hF.depth] at h;cases h
theorem gr (hF:bP F) {f:Nat} {args:Array Value} {Q:Ending->World->Prop} (h:Calls P f args w Q):CallsIn F n P f args w Q:=by
 refine⟨hF.fn f,λcs _=> ?_⟩;obtain⟨e,w',fr,hq,hc,hf,hl⟩:=h cs;refine⟨e,w',fr,hq, ?_,hf,hl⟩;cases e with
 |returned v=>exact(StepsIn.of_steps hc).mono λ_ _=>rN hF _
 |panicked ch=>exact(StepsIn.of_steps hc).mono λ_ _=>rN hF _
 |outgrown=>exact hc
def xV (g:Gh) (ids:List Nat) (S:Nat->Prop):Prop:=(∀q,g.S q->S q)/\∀id b q,id∈ids->g.m id=some b->b.blk=some q->S q
theorem xV.sub {ids ids':List Nat} {S:Nat->Prop} (h:xV g ids S) (hs:∀i,i∈ids'->i∈ids):xV g ids' S:=⟨h.1,λid b q hi=>h.2 id b q (hs id hi)⟩
theorem BW {x:At} {v:Value} {S:Nat->Prop} {kk:At->Option R} (hm:xI P g w m) (hv:VA g w x v) (hS:xV g (kh x) S) (h:viewAt m x kk=some res):
 ∃y,kk y=some res/\VA ⟨S,λ_=>none⟩ w y v:=by
 cases x<;>simp only[viewAt,reduceCtorEq] at h
 case int κ q=>exact⟨_,h,hv.pure rfl hS.1⟩
 case bool b=>exact⟨_,h,hv.pure rfl hS.1⟩
 case str s=>exact⟨_,h,hv.pure rfl hS.1⟩
 case sl τ l=>exact⟨_,h,hv.pure rfl hS.1⟩
 case fnc f=>exact⟨_,h,hv.pure rfl hS.1⟩
 case clip τ l=>
  cases hv with
  |clip _ _ ad len bk of f hl ha hcell hf=>exact⟨_,h,(VA.sl τ l ad len len bk of f hl (Nat.le_refl _) ha hcell hf).pure rfl hS.1⟩
 case own id=>
  obtain⟨τ,l,ad,len,cp,hk,e,hl,hvv,_⟩:=gi hm hv h;exact⟨_,hk,hvv ⟨S,λ_=>none⟩ hS.1 (λi b q hi=>hS.2 i b q hi)⟩
 case sub id off len=>
  obtain⟨τ,l,ad,len,cp,hk,e,hl,hvv,_⟩:=gi hm hv h;exact⟨_,hk,hvv ⟨S,λ_=>none⟩ hS.1 (λi b q hi=>hS.2 i b q hi)⟩
theorem AI {S:Nat->Prop} (hm:xI P g w m):∀{l:List At} {vs:List Value} {kk:List At->Option R},bR (VA g w) l vs->xV g (wW l) S->ji m l kk=some res->
 ∃l',kk l'=some res/\bR (VA ⟨S,λ_=>none⟩ w) l' vs
 | [],_,kk,ha,_,h=>by cases ha;exact⟨[],h, .nil⟩
 |x::l,_,kk,ha,hS,h=>by
  cases ha with
  |cons h1 h2=>
   simp only[ji] at h;obtain⟨y,hy,hyv⟩:=BW hm h1 (hS.sub λi hi=>by simp [wW,hi]) h;obtain⟨l',hl',hlv⟩:=AI hm h2 (hS.sub λi hi=>by simp [wW,hi]) hy;exact⟨_,hl', .cons hyv hlv⟩
theorem MO {x:AV} {v:Value} {S:Nat->Prop} {kk:AV->Option R} (hm:xI P g w m) (hv:AVR g w x v) (hS:xV g (cR [x]) S) (h:jk m x kk=some res):
 ∃y,kk y=some res/\AVR ⟨S,λ_=>none⟩ w y v:=by
 unfold jk at h;split at h
 ·rename_i y
  obtain⟨z,hz,hzv⟩:=BW hm hv (hS.sub λi hi=>by simp [cR,hi]) h;exact⟨_,hz,hzv⟩
 ·rename_i l
  obtain⟨vs,rfl,ha⟩:=hv;obtain⟨l',hl',hlv⟩:=AI hm ha (hS.sub λi hi=>by simp [cR,hi]) h;exact⟨_,hl',vs,rfl,hlv⟩
 ·simp at h
theorem xt {x:AV} {l:List AV}:(∀i,i∈cR [x]->i∈cR (x::l))/\∀i,i∈cR l->i∈cR (x::l):=by
 cases x with
 |v y=>cases y<;>exact⟨λi hi=>by simp [cR] at hi⊢;exact .inl hi,λi hi=>by simp [cR,hi]⟩
 |tup l=>exact⟨λi hi=>by simp [cR] at hi,λi hi=>by simpa [cR] using hi⟩
 |undef=>exact⟨λi hi=>by simp [cR] at hi,λi hi=>by simpa [cR] using hi⟩
 |dead=>exact⟨λi hi=>by simp [cR] at hi,λi hi=>by simpa [cR] using hi⟩
theorem oP {S:Nat->Prop} (hm:xI P g w m):∀{l:List AV} {vs:List Value} {kk:List AV->Option R},bR (AVR g w) l vs->xV g (cR l) S->dC m l kk=some res->
 ∃l',kk l'=some res/\bR (AVR ⟨S,λ_=>none⟩ w) l' vs
 | [],_,kk,ha,_,h=>by cases ha;exact⟨[],h, .nil⟩
 |x::l,_,kk,ha,hS,h=>by
  cases ha with
  |cons h1 h2=>
   simp only[dC] at h;obtain⟨y,hy,hyv⟩:=MO hm h1 (hS.sub xt.1) h;obtain⟨l',hl',hlv⟩:=oP hm h2 (hS.sub xt.2) hy;exact⟨_,hl', .cons hyv hlv⟩
theorem jS (E:Env P c g r m xs a w):∀{l:List Operand} {ts:List TypeId} {as:List AV},(∀x∈l,x∈xs)->fw c r l ts=some as->bR (AVR g w) as (l.map a.eval)
 | [],ts,as,_,h=>by simp [fw] at h;subst h;exact .nil
 |x::l,ts,as,hx,h=>by
  simp only[fw] at h;split at h
  ·rename_i y l' hy hl'
   cases h;exact .cons (E.ev x (hx x (by simp)) _ _ hy) (jS E (λx' h'=>hx x' (by simp [h'])) hl')
  ·simp at h
theorem Ab {s:Spec} {as:List AV} (h:o8 s as k=some res):∃x y,s.pat as=some x/\s.f x=some y/\k (s.enc y)=some res:=by
 unfold o8 at h;split at h
 ·rename_i x hx
  obtain⟨y,hy,hk⟩:=bo h;exact⟨x,y,hx,hy,hk⟩
 ·simp at h
theorem Ap {f:Operand} {args:Array Operand} {ts:Array TypeId} {nn:Nat} (hop:o.op= .call {callee:= .value f,args,argTypes:=ts}) (hf:a.eval f= .func (.func nn) #[] #[]) (he:∀args w,(callFunc nn args).run P w= .ok (.enter nn args) w):
 (execOp a.eval o).run P w= .ok (.enter nn (args.map a.eval)) w:=by
 simp [execOp,hop,resolve,hf,Deferred.ofValue,invoke,he]
theorem AK {l:List AV} {kk:List AV->Option R} (h:dC m l kk=some res):∃l',∀{R':Type} (k':List AV->Option R'),dC m l k'=k' l':=by
 have one:∀{R:Type} {res:R} (x:At) (k':At->Option R),viewAt m x k'=some res->∃y,∀{R':Type} (k':At->Option R'),viewAt m x k'=k' y:=by
  intro _ _ x k' h;cases x<;>simp only[viewAt,reduceCtorEq] at h
  case int κ q=>exact⟨_,λk'=>rfl⟩
  case bool b=>exact⟨_,λk'=>rfl⟩
  case str s=>exact⟨_,λk'=>rfl⟩
  case sl τ l=>exact⟨_,λk'=>rfl⟩
  case clip τ l=>exact⟨_,λk'=>rfl⟩
  case fnc f=>exact⟨_,λk'=>rfl⟩
  case own id=>
   simp only[cg] at h;split at h
   ·rename_i τ l hl;exact⟨.sl τ l,λk'=>by simp [viewAt,cg,hl]⟩
   ·simp at h
  case sub id off len=>
   simp only[cg] at h;split at h
   ·rename_i τ l hl
    split at h
    ·rename_i hle;exact⟨.sl τ ((l.drop off).take len),λk'=>by simp [viewAt,cg,hl,hle]⟩
    ·simp at h
   ·simp at h
 have many:∀(l:List At) (k':List At->Option R),ji m l k'=some res->∃l',∀{R':Type} (k':List At->Option R'),ji m l k'=k' l':=by
  intro l;induction l with
  |nil=>intro k' _;exact⟨[],λ_=>rfl⟩
  |cons x l ih=>
   intro k' h;simp only[ji] at h;obtain⟨y,hy⟩:=one x _ h;rw[hy] at h;obtain⟨l',hl'⟩:=ih _ h;exact⟨y::l',λk''=>by simp only[ji,hy,hl']⟩
 have val:∀(x:AV) (k':AV->Option R),jk m x k'=some res->∃y,∀{R':Type} (k':AV->Option R'),jk m x k'=k' y:=by
  intro x k' h;unfold jk at h;split at h
  ·obtain⟨y,hy⟩:=one _ _ h;exact⟨.one y,λk''=>by simp only[jk,hy]⟩
  ·obtain⟨y,hy⟩:=many _ _ h;exact⟨.agg y,λk''=>by simp only[jk,hy]⟩
  ·simp at h
 revert kk h;induction l with
 |nil=>intro kk _;exact⟨[],λ_=>rfl⟩
 |cons x l ih=>
  intro kk h;simp only[dC] at h;obtain⟨y,hy⟩:=val x _ h;rw[hy] at h;obtain⟨l',hl'⟩:=ih h;exact⟨y::l',λk''=>by simp only[dC,hy,hl']⟩
theorem C_ (E:Env P c g r m xs a w) (hF:bP F) {f:Operand} {args:Array Operand} {ts:Array TypeId} (hf:f∈xs) (hxs:∀x∈args.toList,x∈xs) (hop:o.op= .call {callee:= .value f,args,argTypes:=ts}) {nn:Nat} {as:List AV}
 (hn:fk c r f=some nn) (has:fw c r args.toList ts.toList=some as) {s:Spec} (hs:aK P nn s) {kk:AV->Option R} (h:dC m as (λas'=>o8 s as' kk)=some res):
 ∃y,kk y=some res/\∀(K:Act->World->Prop) (Q:Exit->Act->World->Prop) (S:Nat->Prop),xV g (cR as) S->(∀q,S q->q<w.heap.size)->mD P ⟨S,λ_=>none⟩ w->
  (∀v w',Below w.heap.size w w'->AVR ⟨λk=>S k\/(w.heap.size<=k/\k<w'.heap.size),λ_=>none⟩ w' y v->K (a.put o.dst v) w')->o.wpIn F n P a w K Q:=by
 have hal:=jS E hxs has;have key:∀S,xV g (cR as) S->(∀q,S q->q<w.heap.size)->mD P ⟨S,λ_=>none⟩ w->∃y,kk y=some res/\Calls P nn (args.map a.eval) w λe w'=>∃v,e= .returned v/\Below w.heap.size w w'/\AVR ⟨λk=>S k\/(w.heap.size<=k/\k<w'.heap.size),λ_=>none⟩ w' y v:=by
  intro S hS hSb hSg;obtain⟨as',h',hav⟩:=oP E.mem hal hS h;obtain⟨x,y,hx,hy,hk⟩:=Ab h';refine⟨_,hk, ?_⟩;have:=hs.calls S w as' _ x y hSb hSg hav hx hy;have e:(args.toList.map a.eval).toArray=args.map a.eval:=by apply Array.ext';simp
  rwa[e] at this
 have hfv:a.eval f= .func (.func nn) #[] #[] :=by
  unfold fk at hn;split at hn
  ·rename_i q hq
   cases hn;have:=E.ev f hf _ _ hq;generalize a.eval f=u at this⊢;cases this;rfl
  ·simp at hn
 have uniq:∃y,kk y=some res/\∀S,xV g (cR as) S->(∀q,S q->q<w.heap.size)->mD P ⟨S,λ_=>none⟩ w->Calls P nn (args.map a.eval) w λe w'=>∃v,e= .returned v/\Below w.heap.size w w'/\AVR ⟨λk=>S k\/(w.heap.size<=k/\k<w'.heap.size),λ_=>none⟩ w' y v:=by
  obtain⟨as',hsome,hvw⟩:∃as',dC m as (λas'=>o8 s as' kk)=o8 s as' kk/\∀{R':Type} (k':List AV->Option R'),dC m as k'=k' as':=by
   have one:∀{R':Type} (x:At) (k':At->Option R),viewAt m x k'=some res->∃y,∀{R':Type} (k':At->Option R'),viewAt m x k'=k' y:=by
    intro _ x k' h;cases x<;>simp only[viewAt,reduceCtorEq] at h
    case int κ q=>exact⟨_,λk'=>rfl⟩
    case bool b=>exact⟨_,λk'=>rfl⟩
    case str s=>exact⟨_,λk'=>rfl⟩
    case sl τ l=>exact⟨_,λk'=>rfl⟩
    case clip τ l=>exact⟨_,λk'=>rfl⟩
    case fnc f=>exact⟨_,λk'=>rfl⟩
    case own id=>
     simp only[cg] at h;split at h
     ·rename_i τ l hl;exact⟨.sl τ l,λk'=>by simp [viewAt,cg,hl]⟩
     ·simp at h
    case sub id off len=>
     simp only[cg] at h;split at h
     ·rename_i τ l hl
      split at h
      ·rename_i hle;exact⟨.sl τ ((l.drop off).take len),λk'=>by simp [viewAt,cg,hl,hle]⟩
      ·simp at h
     ·simp at h
   have many:∀(l:List At) (k':List At->Option R),ji m l k'=some res->∃l',∀{R':Type} (k':List At->Option R'),ji m l k'=k' l':=by
    intro l;induction l with
    |nil=>intro k' _;exact⟨[],λ_=>rfl⟩
    |cons x l ih=>
     intro k' h;simp only[ji] at h;obtain⟨y,hy⟩:=one (R':=R) x _ h;rw[hy] at h;obtain⟨l',hl'⟩:=ih _ h;exact⟨y::l',λk''=>by simp only[ji,hy,hl']⟩
   have val:∀(x:AV) (k':AV->Option R),jk m x k'=some res->∃y,∀{R':Type} (k':AV->Option R'),jk m x k'=k' y:=by
    intro x k' h;unfold jk at h;split at h
    ·obtain⟨y,hy⟩:=one (R':=R) _ _ h;exact⟨.one y,λk''=>by simp only[jk,hy]⟩
    ·obtain⟨y,hy⟩:=many _ _ h;exact⟨.agg y,λk''=>by simp only[jk,hy]⟩
    ·simp at h
   have vals:∀(l:List AV) (k':List AV->Option R),dC m l k'=some res->∃l',∀{R':Type} (k':List AV->Option R'),dC m l k'=k' l':=by
    intro l;induction l with
    |nil=>intro k' _;exact⟨[],λ_=>rfl⟩
    |cons x l ih=>
     intro k' h;simp only[dC] at h;obtain⟨y,hy⟩:=val x _ h;rw[hy] at h;obtain⟨l',hl'⟩:=ih _ h;exact⟨y::l',λk''=>by simp only[dC,hy,hl']⟩
   obtain⟨as',has'⟩:=vals as _ h;exact⟨as',has' _,has'⟩
  rw[hsome] at h;obtain⟨x,y,hx,hy,hk⟩:=Ab h;refine⟨_,hk,λS hS hSb hSg=> ?_⟩;obtain⟨as2,h2,hav⟩:=oP (R:=List AV) (res:=as') (kk:=some) E.mem hal hS (hvw some);cases h2;have:=hs.calls S w as' _ x y hSb hSg hav hx hy;have e:(args.toList.map a.eval).toArray=args.map a.eval:=by apply Array.ext';simp
  rwa[e] at this
 obtain⟨y,hk,hcalls⟩:=uniq;refine⟨y,hk,λK Q S hS hSb hSg hK=> ?_⟩;refine⟨λf _=>hF.fn f, ?_⟩;rw[Oper.semAt_eq _ _ _ (by simp [hop]),Ap hop hfv hs.enters];refine⟨λhd=>(by rw[hF.depth] at hd;cases hd), ?_⟩;refine(gr hF (hcalls S hS hSb hSg)).mono ?_;rintro e w' ⟨v,rfl,hb,hv⟩;exact hK v w' hb hv
theorem UW (E:Env P c g r m xs a w) (hF:bP F) {f:Operand} {args:Array Operand} {ts:Array TypeId} (hf:f∈xs) (hxs:∀x∈args.toList,x∈xs) (hop:o.op= .call {callee:= .value f,args,argTypes:=ts}) {nn:Nat} {as:List AV}
 (hn:fk c r f=some nn) (has:fw c r args.toList ts.toList=some as) {s:Spec} (hs:look nn c.spec=some s) (h:dC m as (λas'=>o8 s as' λy=>match Cs y,cR as with
  |true,_=>k y
  |false, [] =>k y
  |_,_=>none)=some res):∃y,k y=some res/\dR P F n g w o a y:=by
 obtain⟨y,hy,hcall⟩:=C_ (n:=n) E hF hf hxs hop hn has (E.sp nn s hs) h;split at hy
 ·rename_i hfl
  refine⟨y,hy,λK Q hK=>hcall K Q (λq=>q<w.heap.size) ⟨E.S,λid b q _ hb hq=>E.blk id b q hb hq⟩ (λq h=>h) (E.glo.mono (cr.refl _ _) E.S) λv w' hb hv=>hK v w' hb (hv.flat hfl)⟩
 ·rename_i hown
  refine⟨y,hy,λK Q hK=>hcall K Q g.S ⟨λ_ h=>h,λid b q hi=>by rw[hown] at hi;simp at hi⟩ E.S (E.glo.mono (cr.refl _ _) λ_ h=>h) λv w' hb hv=>hK v w' hb (hv.mono (cr.refl _ _) ⟨λ_ h=>h,λ_ _ h=>by cases h⟩)⟩
 ·simp at hy
theorem EJ (E:Env P c g r m xs a w) (hF:bP F) {s d:TypeId} {x:Operand} (hx:x∈xs) (hop:o.op= .convert s d x) {ti tj:TI} {τ0:Ty} {e0:TypeId} (hs:c.ti s=some ti) (hsk:ti.k= .slice τ0 e0) (hd:c.ti d=some tj) (hdk:tj.k= .str) {te:TI} (hte:c.ti e0=some te) (htk:te.k= .int .u8)
 {p:At} (hq:Go.Eng.ev c r s x=some (.one p)) (h:cg m p (λτ l=>aj (dV τ .byte l) λb=>k (.one (.str b)))=some res):∃y,k y=some res/\dR P F n g w o a y:=by
 obtain⟨i,ds,T⟩:=E.ts s ti hs;obtain⟨j,dd,T'⟩:=E.ts d tj hd;obtain⟨j2,d2,T2⟩:=E.ts e0 te hte;have e2:=T'.str hdk;obtain⟨e1,_⟩:=T.slice hsk;have e3:=T2.int htk;subst e1;subst e2;subst e3;have hv:=E.ev x hx _ _ hq;generalize hxv:a.eval x=v at hv;obtain⟨τ,l,ad,len,cp,hk,rfl,hl,_,hcells⟩:=gi E.mem hv h;obtain⟨bs,hb,hk⟩:=bo hk;have hτ:∃e:τ= .byte,e▸l=bs:=by
  cases τ<;>simp [dV] at hb
  exact⟨rfl,hb⟩
 obtain⟨rfl,hb⟩:=hτ;simp only at hb;subst hb;refine⟨_,hk,dR.val hF (by simp [hop]) (v:= .string ⟨l.toArray⟩) ?_ (VA.str _ _ (by simp))⟩;by_cases hne:l= []
 ·subst hne
  simp at hl;subst hl;simp only[execOp,hop,hxv,convert,Sem.run_bind,run_underlying T.und,run_underlying T'.und,Result.andThen_ok,run_underlying T2.und];cases ad with
  |none=>simp [Conv.bytesToString];rfl
  |some ad=>simp [Conv.bytesToString,loadCells,loadCellsFrom];rfl
 ·obtain⟨bk,of,f,rfl,hc,hf⟩:=hcells hne
  have hb:=run_convert_bytes_back (P:=P) w s d e0 ⟨bk,of,none⟩ cp l T.und T2.und T'.und (λj hj=>by
   rw[da];have h1:=hc j 0 hj (by decide);have h2:=hf j l[j] 0 (.int .u8 (l[j]:UInt8).toNat) (by simp [hj]) rfl;simp only[Ty.n,Nat.mul_one,Nat.add_zero] at h1;rw[h1];generalize f j 0=u at h2⊢;cases h2;rfl)
  subst hl;simp only[execOp,hop,hxv,Sem.run_bind,hb,Result.andThen_ok];rfl
theorem zP (E:Env P c g r m xs a w) (hF:bP F) (hxs:∀x∈o.op.operands.toList,x∈xs) (h:jY c r m o k=some res):∃y,k y=some res/\dR P F n g w o a y:=by
 unfold jY at h;split at h
 ·rename_i x hop
  exact L4 E hF (hxs x (by simp [hop,Op.operands])) (.inl hop) h
 ·rename_i x hop
  exact L4 E hF (hxs x (by simp [hop,Op.operands])) (.inr hop) h
 ·rename_i b x y hop
  split at h
  ·exact Uo E hF (hxs b (by simp [hop,Op.operands])) (hxs x (by simp [hop,Op.operands])) (hxs y (by simp [hop,Op.operands])) hop ‹_› h
  ·simp at h
 ·rename_i t x hop
  split at h
  ·exact Te E hF (hxs x (by simp [hop,Op.operands])) hop ‹_› ‹_› h
  ·simp at h
 ·rename_i x hop
  have hx:=hxs x (by simp [hop,Op.operands]);split at h
  ·exact kH E hF hx hop ‹_› h (.inl ⟨_,_,rfl⟩)
  ·exact kH E hF hx hop ‹_› h (.inr (.inl ⟨_,_,_,rfl⟩))
  ·exact kH E hF hx hop ‹_› h (.inr (.inr (.inl ⟨_,_,_,rfl⟩)))
  ·exact kH E hF hx hop ‹_› h (.inr (.inr (.inr (.inl ⟨_,_,rfl⟩))))
  ·exact kH E hF hx hop ‹_› h (.inr (.inr (.inr (.inr (.inl ⟨_,rfl⟩)))))
  ·exact kH E hF hx hop ‹_› h (.inr (.inr (.inr (.inr (.inr ⟨_,rfl⟩)))))
  ·simp at h
 ·rename_i s x f hop
  split at h
  ·split at h
   ·exact DU E hF (hxs x (by simp [hop,Op.operands])) hop ‹_› rfl ‹_› ‹_› h
   ·simp at h
  ·simp at h
 ·rename_i t x f hop
  split at h
  ·split at h
   ·split at h
    ·split at h
     ·exact Rf E hF (hxs x (by simp [hop,Op.operands])) hop ‹c.ti t=_› rfl ‹_› ‹_› ‹c.ti _=some _› ‹_› h
     ·simp at h
    ·simp at h
   ·simp at h
  ·simp at h
 ·rename_i t x i hop
  split at h
  ·exact Fy E hF (hxs x (by simp [hop,Op.operands])) (hxs i (by simp [hop,Op.operands])) hop ‹_› ‹_› h
  ·simp at h
 ·rename_i t x i hop
  split at h
  ·obtain⟨i',d,T⟩:=E.ts t _ ‹c.ti t=_›
   have e:=T.str rfl;subst e;exact Po E hF (hxs x (by simp [hop,Op.operands])) (hxs i (by simp [hop,Op.operands])) hop ‹_› ‹_› T.und h
  ·simp at h
 ·rename_i t parts hop
  split at h
  ·refine O5 E hF (λq hq=>hxs q.2 ?_) hop ‹_› rfl rfl h
   simp only[hop,Op.operands,List.mem_map];exact⟨q,hq,rfl⟩
  ·simp at h
 ·rename_i op t x y t' hop
  split at h
  ·exact VX E hF (hxs x (by simp [hop,Op.operands])) (hxs y (by simp [hop,Op.operands])) hop ‹_› ‹_› h
  ·simp at h
 ·rename_i op t x hop
  split at h
  ·exact adp E hF (hxs x (by simp [hop,Op.operands])) hop ‹_› h
  ·simp at h
 ·rename_i s d x hop
  have hx:=hxs x (by simp [hop,Op.operands]);split at h
  ·exact Ka E hF hx hop ‹c.ti s=_› rfl ‹c.ti d=_› rfl ‹_› h
  ·exact I8 E hF hx hop ‹c.ti s=_› rfl ‹c.ti d=_› rfl ‹_› h
  ·split at h
   ·exact EJ E hF hx hop ‹c.ti s=_› rfl ‹c.ti d=_› rfl ‹c.ti _=some _› rfl ‹_› h
   ·simp at h
  ·exact GP E hF hx hop ‹c.ti s=_› rfl ‹c.ti d=_› rfl ‹_› h
  ·simp at h
 ·rename_i x i hop
  split at h
  ·split at h
   ·exact Jo E hF (hxs x (by simp [hop,Op.operands])) hop ‹_› ‹_› h
   ·simp at h
  ·simp at h
 ·rename_i t x lo hi mx hop
  split at h
  ·refine N6 E hF (hxs x (by simp [hop,Op.operands])) (λy hy=>hxs y ?_) (λy hy=>hxs y ?_) (λy hy=>hxs y ?_) hop ‹_› h<;>simp [hop,Op.operands,hy]
  ·simp at h
 ·rename_i f p q hop
  split at h
  ·rename_i hp hq
   obtain rfl:p= #[] :=by apply Array.ext';simpa using hp
   obtain rfl:q= #[] :=by apply Array.ext';simpa using hq
   exact G6 E hF hop h
  ·simp at h
 ·rename_i args ts hop
  split at h
  ·rename_i x t hp hq
   obtain rfl:args= #[x]:=by apply Array.ext';simpa using hp
   obtain rfl:ts= #[t]:=by apply Array.ext';simpa using hq
   split at h
   ·exact Za E hF (hxs x (by simp [hop,Op.operands,Call.operands])) hop ‹_› h
   ·simp at h
  ·simp at h
 ·rename_i args ts hop
  split at h
  ·rename_i x y t t' hp hq
   obtain rfl:args= #[x,y]:=by apply Array.ext';simpa using hp
   obtain rfl:ts= #[t,t']:=by apply Array.ext';simpa using hq
   split at h
   ·exact Yk E hF (hxs x (by simp [hop,Op.operands,Call.operands])) (hxs y (by simp [hop,Op.operands,Call.operands])) hop ‹_› ‹_› h
   ·simp at h
  ·simp at h
 ·rename_i f args ts hop
  split at h
  ·split at h
   ·refine UW E hF (hxs f (by simp [hop,Op.operands,Call.operands])) (λx hx=>hxs x ?_) hop ‹_› ‹_› ‹_› h
    simp only[hop,Op.operands,Call.operands,Array.toList_append,List.mem_append];exact .inr hx
   ·simp at h
  ·simp at h
 ·rename_i t q parts hop
  split at h
  ·split at h
   ·rename_i ag sz z τ e hti
    split at h
    ·rename_i te hte
     split at h
     ·rename_i cells hcells
      split at hcells
      ·rename_i hsz
       obtain⟨l,hl,hp⟩:=bo h;refine CI E hF (λx hx=>hxs x.2 ?_) hop hti rfl hte (Nat.le_of_ble_eq_true hsz) hcells hl hp;simp only[hop,Op.operands,List.mem_map,Array.toList_map];exact⟨x,hx,rfl⟩
      ·simp at hcells
     ·simp at h
    ·simp at h
   ·simp at h
  ·simp at h
 ·simp at h
end
section
variable {P:Program} [aD P] {F:Fence} {n:Nat} {c:Cfg} {g g':Gh} {r:cj} {m:Mem} {a:Act} {w w':World} {o:Oper} {R:Type} {k:AV->Option R} {res:R}
variable {base:Nat} {w0:World} {S0:Nat->Prop} {N:Nat} {D:Wt} {sv:Nat->Value} {σ:St}
theorem ba {α:Type} {i n:Nat} {x:α} {l:List (Nat×α)}:look n ((i,x)::l)=if i=n then some x else look n l:=by
 simp only[look];split
 ·rename_i h;rw[if_pos (Nat.eq_of_beq_eq_true h)]
 ·rename_i h;rw[if_neg (λe=>by subst e;simp at h)]
theorem VA.mh {id:Nat} {ow:At} {su:Nat->Nat->At} {x:At} {v:Value} (h:VA g w x v) (hw:cr g w w') (hS:∀q,g.S q->g'.S q) (hm:∀i,i≠id->∀b,g.m i=some b->g'.m i=some b)
 (ho:∀v,VA g w (.own id) v->VA g' w' ow v) (hs:∀o n v,VA g w (.sub id o n) v->VA g' w' (su o n) v):VA g' w' (CL id ow su x) v:=by
 have pur:∀{x:At} {v:Value},VA g w x v->nL x=true->VA g' w' x v:=λ{x v} h hp=>
  (h.pure (g':=⟨g.S,λ_=>none⟩) hp (λ_ h=>h)).mono hw ⟨hS,λ_ _ h=>by cases h⟩
 have dd:∀{x:At} {v:Value},VA g w x v->VA g' w' .dead v:=λh=> .dead _ h.one
 cases x<;>simp only[CL]
 case int κ q=>exact pur h rfl
 case bool b=>exact pur h rfl
 case str s=>exact pur h rfl
 case sl τ l=>exact pur h rfl
 case fnc f=>exact pur h rfl
 case clip τ l=>
  cases h with
  |clip _ _ ad len bk of f hl ha hcell hf=>
   have hsl:=pur (VA.sl τ l ad len len bk of f hl (Nat.le_refl _) ha hcell hf) rfl;refine .clip τ l ad len bk of f hl (λe=>⟨(ha e).1,hS _ (ha e).2⟩) (λi j hi hj=> ?_) (λi x j y hx hy=>pur (hf i x j y hx hy) (c_ _ _ _ _ hy));rw[cell_of_heap (hw bk (ha (ne_of_lt hi)).2)];exact hcell i j hi hj
 case gQ τ x j=>
  cases h with
  |gQ _ _ _ bk of f ha hcell hf=>
   refine .gQ τ x j bk of f (hS _ ha) (λi hi=> ?_) (λi y hy=>pur (hf i y hy) (c_ _ _ _ _ hy));rw[cell_of_heap (hw bk ha)];exact hcell i hi
 case own i=>
  split
  ·rename_i e;have:=Nat.eq_of_beq_eq_true e;subst this;exact ho v h
  ·rename_i e
   have e:i≠id:=λe'=>by subst e';simp at e
   cases h with
   |own _ b ad hm' hk h0=>exact .own i b ad (hm i e _ hm') hk h0
 case sub i off len=>
  split
  ·rename_i e;have:=Nat.eq_of_beq_eq_true e;subst this;exact hs _ _ v h
  ·rename_i e
   have e:i≠id:=λe'=>by subst e';simp at e
   cases h with
   |sub _ _ _ b ad cc hm' hl hc hk=>exact .sub i off len b ad cc (hm i e _ hm') hl hc hk
 case ptr i off=>
  split
  ·exact dd h
  ·rename_i e
   have e:i≠id:=λe'=>by subst e';simp at e
   cases h with
   |ptr _ _ b kk hm' hk=>exact .ptr i off b kk (hm i e _ hm') hk
 case fB i p q=>
  split
  ·exact dd h
  ·rename_i e
   have e:i≠id:=λe'=>by subst e';simp at e
   cases h with
   |fB _ _ _ b kk hm' hk=>exact .fB i p q b kk (hm i e _ hm') hk
 case clo i=>
  split
  ·exact dd h
  ·rename_i e
   have e:i≠id:=λe'=>by subst e';simp at e
   cases h with
   |clo _ b f fs cs hm' hv=>exact .clo i b f fs cs (hm i e _ hm') hv
 case gp i=>
  split
  ·exact dd h
  ·rename_i e
   have e:i≠id:=λe'=>by subst e';simp at e
   cases h with
   |gp _ b kk hm' hk=>exact .gp i b kk (hm i e _ hm') hk
 case iter i=>
  split
  ·exact dd h
  ·rename_i e
   have e:i≠id:=λe'=>by subst e';simp at e
   cases h with
   |iter _ b kk hm' hk=>exact .iter i b kk (hm i e _ hm') hk
 case yld i=>
  split
  ·exact dd h
  ·rename_i e
   have e:i≠id:=λe'=>by subst e';simp at e
   cases h with
   |yld _ b kk hm' hk=>exact .yld i b kk (hm i e _ hm') hk
 case gl τ l=>
  cases h with
  |gl _ _ bk f ha hcell hf=>
   refine .gl τ l bk f (hS _ ha) (λi j hi hj=> ?_) (λi x j y hx hy=>pur (hf i x j y hx hy) (c_ _ _ _ _ hy));rw[cell_of_heap (hw bk ha)];exact hcell i j hi hj
 case pS=>cases h;exact .pS
 case ng=>cases h;exact .ng
 case oO=>cases h;exact .oO
 case dead=>exact dd h
theorem V1R.mh {f:At->At} (hf:∀x v,VA g w x v->VA g' w' (f x) v) {x:V1} {v:Value} (h:V1R g w x v):V1R g' w' (GJ f x) v:=by
 cases x with
 |one x=>exact hf _ _ h
 |agg l=>obtain⟨vs,rfl,h⟩:=h;exact⟨vs,rfl,h.Ho λ_ _ k=>hf _ _ k⟩
theorem AVR.mh {f:At->At} (hf:∀x v,VA g w x v->VA g' w' (f x) v) {x:AV} {v:Value} (h:AVR g w x v):AVR g' w' (KX f x) v:=by
 cases x with
 |v x=>exact V1R.mh hf h
 |tup l=>obtain⟨vs,rfl,h⟩:=h;exact⟨vs,rfl,h.Ho λ_ _ k=>V1R.mh hf k⟩
 |undef=>exact h
 |dead=>trivial
theorem lK {f:At->At} {t:Nat}:∀{r:cj},look t (j8 f r)=(look t r).map (KX f)
 | [] =>rfl
 |x::r=>by
  simp only[j8,look];split
  ·rfl
  ·exact lK
theorem V1R.ZQ (hp:∀x v,nL x=true->VA g w x v->VA g' w' x v) {ag:Bool} {τ:Ty} {x:τ.T} {y:V1} {v:Value} (hy:V1.dB ag (τ.enc x)=some y) (h:V1R g w y v):V1R g' w' y v:=by
 unfold V1.dB at hy;split at hy
 ·cases hy
  obtain⟨vs,rfl,h⟩:=h;refine⟨vs,rfl,h.Iw λz hz v hv=> ?_⟩;obtain⟨j,hj⟩:=List.getElem?_of_mem hz;exact hp _ _ (c_ _ _ _ _ hj) hv
 ·rename_i z hz
  cases hy;exact hp _ _ (c_ τ x 0 z (by rw[hz];rfl)) h
 ·cases hy
theorem BR.mh {f:At->At} (hf:∀x v,VA g w x v->VA g' w' (f x) v) (hp:∀x v,nL x=true->VA g w x v->VA g' w' x v) {b:Gb} (hk:∀q,b.blk=some q->w'.heap[q]? =w.heap[q]?) {x:AB} (h:BR P g w b x):BR P g' w' b (BZ f x):=by
 cases x with
 |cells l=>obtain⟨q,cs,e,hb,hh,ha⟩:=h;exact⟨q,cs,e,hb,(hk q hb).trans hh,ha.Ho λ_ _ k=>hf _ _ k⟩
 |row τ l=>
  obtain⟨h1,h2,h3⟩:=h;refine⟨h1,h2, ?_⟩;rcases h3 with h3|⟨q,cs,e,hb,hh,hs,hl,ho,ha⟩
  ·exact .inl h3
  ·exact .inr ⟨q,cs,e,hb,(hk q hb).trans hh,hs,hl,ho,λi x j y hx hy=>let ⟨v,hv,ha'⟩:=ha i x j y hx hy;⟨v,hv,hp _ _ (c_ _ _ _ _ hy) ha'⟩⟩
 |clo fn p q=>obtain⟨h0,fs,cs,hb,h1,h2⟩:=h;exact⟨h0,fs,cs,hb,h1.Ho λ_ _ k=>hf _ _ k,h2.Ho λ_ _ k=>hf _ _ k⟩
 |iter s p=>obtain⟨q,bs,hb,hh,e⟩:=h;exact⟨q,bs,hb,(hk q hb).trans hh,e⟩
 |oE x n=>obtain⟨hb,ad,len,hv⟩:=h;exact⟨hb,ad,len,hf _ _ hv⟩
 |loop ph n fid rid az=>
  obtain⟨q,r,hb,hh,h1,h2,h3,h4,h5⟩:=h;refine⟨q,r,hb,(hk q hb).trans hh,h1,h2,h3,h4,λt x hx=> ?_⟩;rw[lK] at hx;cases hy:look t az with
  |none=>rw[hy] at hx;simp at hx
  |some y=>rw[hy] at hx;simp at hx;subst hx;exact⟨(h5 t y hy).1,(h5 t y hy).2.mh hf⟩
 |over e=>obtain⟨q,r,hb,hh,h1⟩:=h;exact⟨q,r,hb,(hk q hb).trans hh,h1⟩
 |map ag κ τ l ck=>obtain⟨q,es,hb,hh,ha⟩:=h;exact⟨q,es,hb,(hk q hb).trans hh,ha.mono λx e k=>k.of λy v hy hv=>V1R.ZQ hp hy hv⟩
 |gone=>trivial
theorem gI {f:At->At} {t:Nat}:∀{r:Mem},look t (jW f r)=(look t r).map (BZ f)
 | [] =>rfl
 |x::r=>by
  simp only[jW,look];split
  ·rfl
  ·exact gI
theorem xB {f:At->At} {x:AB}:(BZ f x).kj=x.kj:=by cases x<;>rfl
theorem oX {f:At->At} {x:AB}:(BZ f x).live=x.live:=by cases x<;>rfl
theorem u6 {sv:Nat->Value} {d t:Nat} {v:Value} (ho:d<OFF) (hd:d<a.tmps.size):vof sv (a.put (some d) v) t=if d=t then v else vof sv a t:=by
 unfold vof;by_cases h:t<OFF
 ·rw[if_pos h,if_pos h]
  simp only[Act.put,Array.getD_eq_getD_getElem?,Array.getElem?_setIfInBounds];split
  ·rename_i h;subst h;simp [hd]
  ·rfl
 ·rw[if_neg h,if_neg h,if_neg (by omega)]
theorem Rel.put (h:Rel P base w0 S0 N D sv g σ a w) (hN:c.N=N) {dst:Option Nat} {x:AV} {v:Value} (hv:AVR g w x v) {kk:St->Option R} (hp:σ.put c dst x kk=some res):
 ∃σ',kk σ'=some res/\Rel P base w0 S0 N D sv g σ' (a.put dst v) w:=by
 unfold St.put at hp;split at hp
 ·exact⟨σ,hp,h⟩
 ·rename_i d
  split at hp
  ·rename_i hd
   have hd:d<a.tmps.size:=by
    have:d<c.N:=Nat.le_of_ble_eq_true hd;rw[h.size];omega
   split at hp
   rotate_left
   ·simp at hp
   rename_i ho;have ho:d<OFF:=Nat.le_of_ble_eq_true ho;refine⟨_,hp,{h with az:=λt y hy=> ?_,size:= ?_,dfr:=h.dfr}⟩
   ·rw[u6 ho hd]
    simp only[ba] at hy;split at hy
    ·rename_i e;subst e;rw[if_pos rfl];cases hy;exact hv
    ·rename_i e;rw[if_neg e];exact h.az t y hy
   ·simp [Act.put,h.size]
  ·simp at hp
theorem Rel.qL (h:Rel P base w0 S0 N D sv g σ a w) {id q:Nat} {x:AB} {b:Gb} (hx:look id σ.mem=some x) (hl:x.live=true) (hm:g.m id=some b) (hq:b.blk=some q) {d:Option (List Deferred)}:w.heap[q]? ≠some (.deferred d):=by
 obtain⟨b',hm',hr⟩:=h.mem id x hx;rw[hm] at hm';cases hm';exact hr.qL hl hq
theorem iq {r:Nat} {o:Obj} (h:w.heap[r]? =some o):r<w.heap.size:=(Array.getElem?_eq_some_iff.1 h).1
theorem Rel.grow (h:Rel P base w0 S0 N D sv g σ a w) (hb:Below w.heap.size w w'):Rel P base w0 S0 N D sv (g.grow w w') σ a w':=by
 have hH:cr g w w':=cr.lR h.S hb;have hle:=Gh.Du g w w';refine{az:=λt x hx=>(h.az t x hx).mono hH hle,size:=h.size,dfr:=h.dfr.mono λr _ he hs=>⟨(hb.block r (iq he)).trans he,λhs'=>hs'.elim hs λh'=>by have:=iq he;omega⟩,glo:=h.glo.mono hH hle.S,lp:=h.lp,mem:=λid x hx=> ?_,inj:=λid id' x x' b b' q=>h.inj id id' x x' b b' q,own:=λid x b q hx hl hm hq=> ?_,S:=λq hq=> ?_,blk:=λid b q hm hq=> ?_,nx:=h.nx,bel:=h.bel.trans (hb.mono h.bs),bs:=Nat.le_trans h.bs hb.size,sub:=λq hq=>hq.elim (h.sub q) λhq=> .inr (Nat.le_trans h.bs hq.1)}
 ·obtain⟨b,hm,hr⟩:=h.mem id x hx
  exact⟨b,hm,hr.mono hH (λq hq=>hb.block q (h.blk id b q hm hq)) hle⟩
 ·obtain⟨h1,h2⟩:=h.own id x b q hx hl hm hq
  refine⟨h1,λhs=> ?_⟩;rcases hs with hs|hs
  ·exact h2 hs
  ·have:=h.blk id b q hm hq;omega
 ·rcases hq with hq|hq
  ·exact Nat.lt_of_lt_of_le (h.S q hq) hb.size
  ·exact hq.2
 ·exact Nat.lt_of_lt_of_le (h.blk id b q hm hq) hb.size
def Gh.set (g:Gh) (id:Nat) (b:Gb):Gh:={S:=g.S,m:=λi=>if i=id then some b else g.m i}
theorem Gh.tQ {id:Nat} {b:Gb} (h:g.m id=none):g.le (g.set id b):=
 ⟨λ_ h=>h,λi b' hb=>by
  show(if i=id then some b else g.m i)=some b';rw[if_neg (λe=>by subst e;rw[h] at hb;cases hb)];exact hb⟩
theorem Rel.fresh (h:Rel P base w0 S0 N D sv g σ a w) {id:Nat} (hi:σ.nx<=id):g.m id=none:=by
 cases hm:g.m id with
 |none=>rfl
 |some b=>have:=h.nx id b hm;omega
theorem Rel.new (h:Rel P base w0 S0 N D sv g σ a w) {id:Nat} (hi:σ.nx<=id) {b:Gb} {x:AB} (hb:Below w.heap.size w w') (hB:BR P (g.set id b) w' b x) (hq:∀q,b.blk=some q->w.heap.size<=q/\q<w'.heap.size) (hxl:x.kj=true->b.blk=D.lv id:=by exact λh=>by cases h):
 Rel P base w0 S0 N D sv (g.set id b) {az:=σ.az,mem:=(id,x)::σ.mem,nx:=id+1} a w':=by
 have hH:cr g w w':=cr.lR h.S hb;have hle:g.le (g.set id b):=Gh.tQ (h.fresh hi);have hset:∀i,(g.set id b).m i=if i=id then some b else g.m i:=λ_=>rfl
 refine{az:=λt x hx=>(h.az t x hx).mono hH hle,size:=h.size,dfr:=h.dfr.mono λr _ he hs=>⟨(hb.block r (iq he)).trans he,hs⟩,glo:=h.glo.mono hH hle.S,lp:=λi y b1 hy hl hm=> ?_,mem:=λi y hy=> ?_,inj:=λi i' y y' b1 b2 q hy hy' hl hl' hm hm' hq1 hq2=> ?_,own:=λi y b1 q hy hl hm hq1=> ?_,S:=λq hq=>Nat.lt_of_lt_of_le (h.S q hq) hb.size,blk:=λi b1 q hm hq1=> ?_,nx:=λi b1 hm=> ?_,bel:=h.bel.trans (hb.mono h.bs),bs:=Nat.le_trans h.bs hb.size,sub:=h.sub}
 ·simp only[ba] at hy
  split at hy
  ·rename_i e;subst e;cases hy
   rw[hset,if_pos rfl] at hm;cases hm;exact hxl hl
  ·rename_i e
   rw[hset,if_neg (Ne.symm e)] at hm;exact h.lp i y b1 hy hl hm
 ·simp only[ba] at hy
  split at hy
  ·rename_i e;subst e;cases hy
   exact⟨b,by rw[hset,if_pos rfl],hB⟩
  ·rename_i e
   obtain⟨b1,hm,hr⟩:=h.mem i y hy;exact⟨b1,hle.m _ _ hm,hr.mono hH (λq hq=>hb.block q (h.blk i b1 q hm hq)) hle⟩
 ·simp only[ba] at hy hy'
  rw[hset] at hm hm';by_cases e:id=i
  ·by_cases e':id=i'
   ·omega
   ·rw[if_pos e.symm] at hm;rw[if_neg (Ne.symm e')] at hm';rw[if_neg e'] at hy'
    cases hm;have:=hq q hq1;have:=h.blk i' b2 q hm' hq2;omega
  ·rw[if_neg (Ne.symm e)] at hm;rw[if_neg e] at hy
   by_cases e':id=i'
   ·rw[if_pos e'.symm] at hm'
    cases hm';have:=hq q hq2;have:=h.blk i b1 q hm hq1;omega
   ·rw[if_neg (Ne.symm e')] at hm';rw[if_neg e'] at hy'
    exact h.inj i i' y y' b1 b2 q hy hy' hl hl' hm hm' hq1 hq2
 ·simp only[ba] at hy
  rw[hset] at hm;by_cases e:id=i
  ·rw[if_pos e.symm] at hm;cases hm
   have:=hq q hq1;exact⟨by have:=h.bs;omega,λhs=>by have:=h.S q hs;omega⟩
  ·rw[if_neg (Ne.symm e)] at hm;rw[if_neg e] at hy
   exact h.own i y b1 q hy hl hm hq1
 ·rw[hset] at hm
  by_cases e:i=id
  ·rw[if_pos e] at hm;cases hm;exact(hq q hq1).2
  ·rw[if_neg e] at hm;exact Nat.lt_of_lt_of_le (h.blk i b1 q hm hq1) hb.size
 ·rw[hset] at hm
  show i<id+1;by_cases e:i=id
  ·omega
  ·rw[if_neg e] at hm;have:=h.nx i b1 hm;omega
def Gh.MG (g:Gh) (E:Nat->Prop):Gh:={S:=λk=>g.S k\/E k,m:=g.m}
theorem Gh.PS (g:Gh) (E:Nat->Prop):g.le (g.MG E):=⟨λ_ h=> .inl h,λ_ _ h=>h⟩
theorem Rel.akC (h:Rel P base w0 S0 N D sv g σ a w) {id:Nat} (hi:σ.nx<=id) {b:Gb} {x:AB} (E:Nat->Prop) (hE:∀k,E k->w.heap.size<=k/\k<w'.heap.size/\b.blk≠some k) (hb:Below w.heap.size w w') (hB:BR P ((g.MG E).set id b) w' b x) (hq:∀q,b.blk=some q->w.heap.size<=q/\q<w'.heap.size) (hxl:x.kj=true->b.blk=D.lv id:=by exact λh=>by cases h):
 Rel P base w0 S0 N D sv ((g.MG E).set id b) {az:=σ.az,mem:=(id,x)::σ.mem,nx:=id+1} a w':=by
 have hH:cr g w w':=cr.lR h.S hb;have hle:g.le ((g.MG E).set id b):=(Gh.PS g E).trans (Gh.tQ (h.fresh hi));have hset:∀i,((g.MG E).set id b).m i=if i=id then some b else g.m i:=λ_=>rfl
 refine{az:=λt x hx=>(h.az t x hx).mono hH hle,size:=h.size,dfr:=h.dfr.mono λr _ he hs=>⟨(hb.block r (iq he)).trans he,λhs'=>hs'.elim hs λh'=>by have:=iq he;have:=hE _ h';omega⟩,glo:=h.glo.mono hH hle.S,lp:=λi y b1 hy hl hm=> ?_,mem:=λi y hy=> ?_,inj:=λi i' y y' b1 b2 q hy hy' hl hl' hm hm' hq1 hq2=> ?_,own:=λi y b1 q hy hl hm hq1=> ?_,S:=λq hq=>hq.elim (λhq=>Nat.lt_of_lt_of_le (h.S q hq) hb.size) λhq=>(hE q hq).2.1,blk:=λi b1 q hm hq1=> ?_,nx:=λi b1 hm=> ?_,bel:=h.bel.trans (hb.mono h.bs),bs:=Nat.le_trans h.bs hb.size,sub:=λq hq=>hq.elim (h.sub q) λhq=> .inr (Nat.le_trans h.bs (hE q hq).1)}
 ·simp only[ba] at hy
  split at hy
  ·rename_i e;subst e;cases hy
   rw[hset,if_pos rfl] at hm;cases hm;exact hxl hl
  ·rename_i e
   rw[hset,if_neg (Ne.symm e)] at hm;exact h.lp i y b1 hy hl hm
 ·simp only[ba] at hy
  split at hy
  ·rename_i e;subst e;cases hy
   exact⟨b,by rw[hset,if_pos rfl],hB⟩
  ·rename_i e
   obtain⟨b1,hm,hr⟩:=h.mem i y hy;exact⟨b1,hle.m _ _ hm,hr.mono hH (λq hq=>hb.block q (h.blk i b1 q hm hq)) hle⟩
 ·simp only[ba] at hy hy'
  rw[hset] at hm hm';by_cases e:id=i
  ·by_cases e':id=i'
   ·omega
   ·rw[if_pos e.symm] at hm;rw[if_neg (Ne.symm e')] at hm';rw[if_neg e'] at hy'
    cases hm;have:=hq q hq1;have:=h.blk i' b2 q hm' hq2;omega
  ·rw[if_neg (Ne.symm e)] at hm;rw[if_neg e] at hy
   by_cases e':id=i'
   ·rw[if_pos e'.symm] at hm'
    cases hm';have:=hq q hq2;have:=h.blk i b1 q hm hq1;omega
   ·rw[if_neg (Ne.symm e')] at hm';rw[if_neg e'] at hy'
    exact h.inj i i' y y' b1 b2 q hy hy' hl hl' hm hm' hq1 hq2
 ·simp only[ba] at hy
  rw[hset] at hm;by_cases e:id=i
  ·rw[if_pos e.symm] at hm;cases hm
   have:=hq q hq1;exact⟨by have:=h.bs;omega,λhs=>hs.elim (λhs=>by have:=h.S q hs;omega) λhs=>(hE q hs).2.2 hq1⟩
  ·rw[if_neg (Ne.symm e)] at hm;rw[if_neg e] at hy
   obtain⟨o1,o2⟩:=h.own i y b1 q hy hl hm hq1;exact⟨o1,λhs=>hs.elim o2 λhs=>by have:=(hE q hs).1;have:=h.blk i b1 q hm hq1;omega⟩
 ·rw[hset] at hm
  by_cases e:i=id
  ·rw[if_pos e] at hm;cases hm;exact(hq q hq1).2
  ·rw[if_neg e] at hm;exact Nat.lt_of_lt_of_le (h.blk i b1 q hm hq1) hb.size
 ·rw[hset] at hm
  show i<id+1;by_cases e:i=id
  ·omega
  ·rw[if_neg e] at hm;have:=h.nx i b1 hm;omega
theorem Rel.set (h:Rel P base w0 S0 N D sv g σ a w) {id:Nat} {b:Gb} {x y:AB} (hx:look id σ.mem=some x) (hl:x.live=true) (hm:g.m id=some b) {q:Nat} (hq:b.blk=some q) (hsz:w'.heap.size=w.heap.size)
 (hoth:∀j,j≠q->w'.heap[j]? =w.heap[j]?) (hos:w'.os=w.os/\w'.tape=w.tape/\w'.output=w.output) (hB:(∀g1,(∀j,g1.S j->j≠q)->cr g1 w w')->BR P g w' b y) (hyl:y.kj=false\/x.kj=true:=by exact .inl rfl):Rel P base w0 S0 N D sv g (σ.set id y) a w':=by
 have hbase:=h.own id x b q hx hl hm hq;have hH:cr g w w':=λj hj=>hoth j (λe=>by subst e;exact hbase.2 hj)
 refine{az:=λt x hx=>(h.az t x hx).mono hH (Gh.le.refl g),size:=h.size,dfr:=h.dfr.mono λr _ he hs=>⟨(hoth r (λe=>h.qL hx hl hm hq (e▸he))).trans he,hs⟩,glo:=h.glo.mono hH (λ_ h=>h),lp:=λi z b1 hz hlz hm1=> ?_,mem:=λi z hz=> ?_,inj:=λi i' z z' b1 b2 p hz hz' hlz hlz' hm1 hm2 hp1 hp2=> ?_,own:=λi z b1 p hz hlz hm1 hp1=> ?_,S:=λp hp=>by rw[hsz];exact h.S p hp,blk:=λi b1 p hm1 hp1=>by rw[hsz];exact h.blk i b1 p hm1 hp1,nx:=h.nx,bel:=h.bel.trans ⟨hos.1,hos.2.1,hos.2.2,by omega,λj hj=>hoth j (by omega)⟩,bs:=by rw[hsz];exact h.bs,sub:=h.sub}
 ·simp only[St.set,ba] at hz
  split at hz
  ·rename_i e;subst e;cases hz
   rcases hyl with hyl|hyl
   ·rw[hyl] at hlz;cases hlz
   ·exact h.lp _ x b1 hx hyl hm1
  ·exact h.lp i z b1 hz hlz hm1
 ·simp only[St.set,ba] at hz
  split at hz
  ·rename_i e;subst e;cases hz
   exact⟨b,hm,hB λg1 h1 j hj=>hoth j (h1 j hj)⟩
  ·rename_i e
   obtain⟨b1,hm1,hr⟩:=h.mem i z hz;refine⟨b1,hm1, ?_⟩;by_cases hlz:z.live=true
   ·exact hr.mono hH (λp hp=>hoth p (λe'=>by subst e';exact e (h.inj id i x z b b1 p hx hz hl hlz hm hm1 hq hp))) (Gh.le.refl g)
   ·cases z<;>simp [AB.live] at hlz
    exact trivial
 ·simp only[St.set,ba] at hz hz'
  have conv:∀{i:Nat} {z:AB},(if id=i then some y else look i σ.mem)=some z->z.live=true->∃z1,look i σ.mem=some z1/\z1.live=true:=by
   intro i z hz hlz;split at hz
   ·rename_i e;subst e;exact⟨x,hx,hl⟩
   ·exact⟨z,hz,hlz⟩
  obtain⟨z1,hz1,hl1⟩:=conv hz hlz;obtain⟨z2,hz2,hl2⟩:=conv hz' hlz';exact h.inj i i' z1 z2 b1 b2 p hz1 hz2 hl1 hl2 hm1 hm2 hp1 hp2
 ·simp only[St.set,ba] at hz
  split at hz
  ·rename_i e;subst e;exact h.own id x b1 p hx hl hm1 hp1
  ·exact h.own i z b1 p hz hlz hm1 hp1
def Frz (σ σ':St) (g g':Gh) (ids:List Nat):Prop:=∀i τ l,look i σ.mem=some (.row τ l)->(∀b q,g.m i=some b->b.blk=some q->g'.S q)\/(i ∉ids/\look i σ'.mem=some (.row τ l))
theorem Rel.OM (h:Rel P base w0 S0 N D sv g σ a w) {id:Nat} {kk:St->Option R} (hf:freeze id σ kk=some res):∃g' σ',kk σ'=some res/\Rel P base w0 S0 N D sv g' σ' a w/\g.le g'/\Frz σ σ' g g' [id]:=by
 unfold Go.Eng.freeze at hf;split at hf
 ·rename_i τ l hl
  obtain⟨b,hm,hbr⟩:=h.mem id _ hl;obtain⟨g',hg'⟩:∃g':Gh,g'={S:=λq=>g.S q\/b.blk=some q,m:=g.m}:=⟨_,rfl⟩;have hle:g.le g':=by subst hg';exact⟨λ_ h=> .inl h,λ_ _ h=>h⟩
  have hgm:g'.m=g.m:=by subst hg';rfl
  have hgS:∀q,g'.S q↔g.S q\/b.blk=some q:=by subst hg';exact λq=>Iff.rfl
  obtain⟨f,hfe⟩:∃f,f=DJ id l:=⟨_,rfl⟩;rw[<-hfe] at hf;have hva:∀x v,VA g w x v->VA g' w (f x) v:=by
   intro x v hv;rw[hfe];unfold DJ;refine hv.mh (cr.refl _ _) hle.S (λi _ b hb=>by rw[hgm];exact hb) (λv hv=> ?_) (λo n v hv=> ?_)
   ·cases hv with
    |own _ b' ad hm' hk h0=>
     rw[hm] at hm';cases hm';exact hbr.whole hle.S (λq hq=>(hgS q).2 (.inr hq)) hk h0
   ·cases hv with
    |sub _ _ _ b' ad cc hm' hl' hc hk=>
     rw[hm] at hm';cases hm';exact .dead _ rfl
  have hfr:Frz σ {az:=j8 f σ.az,mem:=(id, .gone)::jW f σ.mem,nx:=σ.nx} g g' [id]:=by
   intro i τ' l' hi;by_cases e:i=id
   ·subst e
    exact .inl λb' q hb' hq=>(hgS q).2 (.inr (by rw[hm] at hb';cases hb';exact hq))
   ·refine .inr ⟨by simpa using e, ?_⟩
    simp only[ba];rw[if_neg (Ne.symm e),gI,hi];rfl
  refine⟨g',_,hf, ?_,hle,hfr⟩;refine{az:=λt x hx=> ?_,size:=h.size,dfr:=h.dfr.mono λr _ he hs=>⟨he,λhs'=>((hgS r).1 hs').elim hs λhq=>h.qL hl rfl hm hq he⟩,glo:=h.glo.mono (cr.refl _ _) hle.S,lp:=λi z b1 hz hlz hm1=> ?_,mem:=λi z hz=> ?_,inj:=λi i' z z' b1 b2 p hz hz' hlz hlz' hm1 hm2 hp1 hp2=> ?_,own:=λi z b1 p hz hlz hm1 hp1=> ?_,S:=λp hp=> ?_,blk:=λi b1 p hm1 hp1=>h.blk i b1 p (by rw[<-hgm];exact hm1) hp1,nx:=λi b1 hm1=>h.nx i b1 (by rw[<-hgm];exact hm1),bel:=h.bel,bs:=h.bs,sub:=λq hq=>((hgS q).1 hq).elim (h.sub q) λhq=> .inr (h.own id _ b q hl rfl hm hq).1}
  ·rw[lK] at hx
   cases hy:look t σ.az with
   |none=>rw[hy] at hx;simp at hx
   |some y=>rw[hy] at hx;simp at hx;subst hx;exact(h.az t y hy).mh hva
  ·simp only[ba] at hz
   rw[hgm] at hm1;split at hz
   ·cases hz;cases hlz
   ·rw[gI] at hz
    cases hy:look i σ.mem with
    |none=>rw[hy] at hz;simp at hz
    |some y=>rw[hy] at hz;simp at hz;subst hz;rw[xB] at hlz;exact h.lp i y b1 hy hlz hm1
  ·simp only[ba] at hz
   split at hz
   ·rename_i e;subst e;cases hz;exact⟨b,by rw[hgm];exact hm,trivial⟩
   ·rw[gI] at hz
    cases hy:look i σ.mem with
    |none=>rw[hy] at hz;simp at hz
    |some y=>
     rw[hy] at hz;simp at hz;subst hz;obtain⟨b1,hm1,hr1⟩:=h.mem i y hy;exact⟨b1,by rw[hgm];exact hm1,hr1.mh hva (λx v hp hv=>hv.pure hp hle.S) (λ_ _=>rfl)⟩
  ·simp only[ba] at hz hz'
   rw[hgm] at hm1 hm2;have conv:∀{i:Nat} {z:AB},(if id=i then some AB.gone else look i (jW f σ.mem))=some z->z.live=true->id≠i/\∃y,look i σ.mem=some y/\y.live=true:=by
    intro i z hz hlz;split at hz
    ·cases hz;simp [AB.live] at hlz
    ·rename_i e
     rw[gI] at hz;cases hy:look i σ.mem with
     |none=>rw[hy] at hz;simp at hz
     |some y=>rw[hy] at hz;simp at hz;subst hz;exact⟨e,y,rfl,by rw[oX] at hlz;exact hlz⟩
   obtain⟨-,y1,hy1,hl1⟩:=conv hz hlz;obtain⟨-,y2,hy2,hl2⟩:=conv hz' hlz';exact h.inj i i' y1 y2 b1 b2 p hy1 hy2 hl1 hl2 hm1 hm2 hp1 hp2
  ·simp only[ba] at hz
   rw[hgm] at hm1;split at hz
   ·cases hz;simp [AB.live] at hlz
   ·rename_i e
    rw[gI] at hz;cases hy:look i σ.mem with
    |none=>rw[hy] at hz;simp at hz
    |some y=>
     rw[hy] at hz;simp at hz;subst hz;rw[oX] at hlz;obtain⟨h1,h2⟩:=h.own i y b1 p hy hlz hm1 hp1;refine⟨h1,λhs=> ?_⟩;rcases(hgS p).1 hs with hs|hs
     ·exact h2 hs
     ·exact e (h.inj id i _ y b b1 p hl hy rfl hlz hm hm1 hs hp1)
  ·rcases(hgS p).1 hp with hp|hp
   ·exact h.S p hp
   ·exact h.blk id b p hm hp
 ·rename_i hno
  refine⟨g,σ,hf,h,Gh.le.refl g,λi τ l hi=> ?_⟩;by_cases e:i=id
  ·subst e;exact(hno τ l hi).elim
  ·exact .inr ⟨by simpa using e,hi⟩
theorem Rel.fy (h:Rel P base w0 S0 N D sv g σ a w):∀{ids:List Nat} {kk:St->Option R},fy ids σ kk=some res->∃g' σ',kk σ'=some res/\Rel P base w0 S0 N D sv g' σ' a w/\g.le g'/\Frz σ σ' g g' ids:=by
 intro ids;induction ids generalizing g σ with
 |nil=>intro kk hf;exact⟨g,σ,hf,h,Gh.le.refl g,λi τ l hi=> .inr ⟨by simp,hi⟩⟩
 |cons id ids ih=>
  intro kk hf;simp only[Go.Eng.fy] at hf;obtain⟨g1,σ1,h1,r1,l1,f1⟩:=h.OM hf;obtain⟨g2,σ2,h2,r2,l2,f2⟩:=ih r1 h1;refine⟨g2,σ2,h2,r2,l1.trans l2,λi τ l hi=> ?_⟩;rcases f1 i τ l hi with hS|⟨hn,hr⟩
  ·exact .inl λb q hb hq=>l2.S _ (hS b q hb hq)
  ·rcases f2 i τ l hr with hS|⟨hn2,hr2⟩
   ·exact .inl λb q hb hq=>hS b q (l1.m _ _ hb) hq
   ·exact .inr ⟨by simp at hn⊢;exact⟨hn,hn2⟩,hr2⟩
theorem Rel.E2 (f:At->At) (h:Rel P base w0 S0 N D sv g σ a w) {id:Nat} {b b':Gb} {x y:AB} (hx:look id σ.mem=some x) (hl:x.live=true) (hm:g.m id=some b) (hsz:w.heap.size<=w'.heap.size) (hos:w'.os=w.os/\w'.tape=w.tape/\w'.output=w.output)
 (hoth:∀j,j<w.heap.size->b.blk≠some j->w'.heap[j]? =w.heap[j]?) (hq:∀q,b'.blk=some q->(b.blk=some q\/(w.heap.size<=q))/\q<w'.heap.size)
 (hB:cr g w w'->BR P (g.set id b') w' b' y) (hva:cr g w w'->∀x v,VA g w x v->VA (g.set id b') w' (f x) v) (hyl:y.kj=false:=by rfl):Rel P base w0 S0 N D sv (g.set id b') {az:=j8 f σ.az,mem:=(id,y)::jW f σ.mem,nx:=σ.nx} a w':=by
 have hown:∀q,b.blk=some q->base<=q/\¬g.S q:=λq hq=>h.own id x b q hx hl hm hq
 have hH:cr g w w':=λj hj=>hoth j (h.S j hj) (λe=>(hown j e).2 hj)
 have hset:∀i,(g.set id b').m i=if i=id then some b' else g.m i:=λ_=>rfl
 have hva:=hva hH;have lk:∀{i:Nat} {z:AB},look i (jW f σ.mem)=some z->∃z1,look i σ.mem=some z1/\z=BZ f z1:=by
  intro i z hz;rw[gI] at hz;cases hy:look i σ.mem with
  |none=>rw[hy] at hz;simp at hz
  |some y=>rw[hy] at hz;simp at hz;exact⟨y,rfl,hz.symm⟩
 refine{az:=λt x hx=> ?_,size:=h.size,dfr:=h.dfr.mono λr _ he hs=>⟨(hoth r (iq he) (λe=>h.qL hx hl hm e he)).trans he,hs⟩,glo:=h.glo.mono hH (λ_ h=>h),lp:=λi z b1 hz hlz hm1=> ?_,mem:=λi z hz=> ?_,inj:=λi i' z z' b1 b2 p hz hz' hlz hlz' hm1 hm2 hp1 hp2=> ?_,own:=λi z b1 p hz hlz hm1 hp1=> ?_,S:=λp hp=>Nat.lt_of_lt_of_le (h.S p hp) hsz,blk:=λi b1 p hm1 hp1=> ?_,nx:=λi b1 hm1=> ?_,bel:=h.bel.trans ⟨hos.1,hos.2.1,hos.2.2,hsz,λj hj=> ?_⟩,bs:=Nat.le_trans h.bs hsz,sub:=h.sub}
 ·rw[lK] at hx
  cases hy:look t σ.az with
  |none=>rw[hy] at hx;simp at hx
  |some y=>rw[hy] at hx;simp at hx;subst hx;exact(h.az t y hy).mh hva
 ·simp only[ba] at hz
  rw[hset] at hm1;split at hz
  ·cases hz;rw[hyl] at hlz;cases hlz
  ·rename_i e
   rw[if_neg (Ne.symm e)] at hm1;obtain⟨z1,hz1,rfl⟩:=lk hz;rw[xB] at hlz;exact h.lp i z1 b1 hz1 hlz hm1
 ·simp only[ba] at hz
  split at hz
  ·rename_i e;subst e;cases hz;exact⟨b',by rw[hset,if_pos rfl],hB hH⟩
  ·rename_i e
   obtain⟨z1,hz1,rfl⟩:=lk hz;obtain⟨b1,hm1,hr1⟩:=h.mem i z1 hz1;refine⟨b1,by rw[hset,if_neg (Ne.symm e)];exact hm1, ?_⟩;by_cases hlz:z1.live=true
   ·exact hr1.mh hva (λx v hp hv=>(hv.pure (g':=⟨g.S,λ_=>none⟩) hp (λ_ h=>h)).mono hH ⟨λ_ h=>h,λ_ _ h=>by cases h⟩)
     (λq hq=>hoth q (h.blk i b1 q hm1 hq) (λe'=>e (h.inj id i x z1 b b1 q hx hz1 hl hlz hm hm1 e' hq)))
   ·cases z1<;>simp [AB.live] at hlz
    exact trivial
 ·simp only[ba] at hz hz'
  rw[hset] at hm1 hm2;have one:∀{i:Nat} {z:AB} {b1:Gb},id≠i->(if id=i then some y else look i (jW f σ.mem))=some z->z.live=true->(if i=id then some b' else g.m i)=some b1->b1.blk=some p->b'.blk=some p->False:=by
   intro i z b1 e hz hlz hm1 hp1 hp';rw[if_neg e] at hz;rw[if_neg (Ne.symm e)] at hm1;obtain⟨z1,hz1,rfl⟩:=lk hz;rw[oX] at hlz;obtain⟨hh,_⟩:=hq p hp';rcases hh with hh|hh
   ·exact e (h.inj id i x z1 b b1 p hx hz1 hl hlz hm hm1 hh hp1)
   ·have:=h.blk i b1 p hm1 hp1;omega
  by_cases e:id=i
  ·by_cases e':id=i'
   ·omega
   ·rw[if_pos e.symm] at hm1;cases hm1
    exact(one e' hz' hlz' hm2 hp2 hp1).elim
  ·by_cases e':id=i'
   ·rw[if_pos e'.symm] at hm2;cases hm2
    exact(one e hz hlz hm1 hp1 hp2).elim
   ·rw[if_neg e] at hz;rw[if_neg e'] at hz';rw[if_neg (Ne.symm e)] at hm1;rw[if_neg (Ne.symm e')] at hm2
    obtain⟨z1,hz1,rfl⟩:=lk hz;obtain⟨z2,hz2,rfl⟩:=lk hz';rw[oX] at hlz hlz';exact h.inj i i' z1 z2 b1 b2 p hz1 hz2 hlz hlz' hm1 hm2 hp1 hp2
 ·simp only[ba] at hz
  rw[hset] at hm1;by_cases e:id=i
  ·rw[if_pos e.symm] at hm1;cases hm1
   obtain⟨hh,_⟩:=hq p hp1;rcases hh with hh|hh
   ·exact hown p hh
   ·exact⟨by have:=h.bs;omega,λhs=>by have:=h.S p hs;omega⟩
  ·rw[if_neg e] at hz;rw[if_neg (Ne.symm e)] at hm1
   obtain⟨z1,hz1,rfl⟩:=lk hz;rw[oX] at hlz;exact h.own i z1 b1 p hz1 hlz hm1 hp1
 ·rw[hset] at hm1
  by_cases e:i=id
  ·rw[if_pos e] at hm1;cases hm1;exact(hq p hp1).2
  ·rw[if_neg e] at hm1;exact Nat.lt_of_lt_of_le (h.blk i b1 p hm1 hp1) hsz
 ·rw[hset] at hm1
  by_cases e:i=id
  ·rw[e];exact h.nx id b hm
  ·rw[if_neg e] at hm1;exact h.nx i b1 hm1
 ·exact hoth j (by have:=h.bs;omega) (λe=>by have:=(hown j e).1;omega)
theorem Rel.rewrite (h:Rel P base w0 S0 N D sv g σ a w) {id:Nat} {b b':Gb} {x y:AB} (hx:look id σ.mem=some x) (hl:x.live=true) (hm:g.m id=some b) (hsz:w.heap.size<=w'.heap.size) (hos:w'.os=w.os/\w'.tape=w.tape/\w'.output=w.output)
 (hoth:∀j,j<w.heap.size->b.blk≠some j->w'.heap[j]? =w.heap[j]?) (hq:∀q,b'.blk=some q->(b.blk=some q\/(w.heap.size<=q))/\q<w'.heap.size)
 (hB:cr g w w'->BR P (g.set id b') w' b' y) (hyl:y.kj=false:=by rfl):Rel P base w0 S0 N D sv (g.set id b') (rewrite id y σ) a w':=
 h.E2 (yd id) hx hl hm hsz hos hoth hq hB (hyl:=hyl) λhH x v hv=>by
  unfold yd;exact hv.mh hH (λ_ h=>h) (λi hi b hb=>by
   show(if i=id then some b' else g.m i)=some b;rw[if_neg hi];exact hb) (λv hv=> .dead _ hv.one) (λo n v hv=> .dead _ hv.one)
theorem VA.Iq {id:Nat} {b b2:Gb} (hH:cr g w w') (hm:g.m id=some b) (e1:b2.blk=b.blk) (e2:b2.cp=b.cp) (e3:b2.sz=b.sz) (e4:b2.val=b.val) {x:At} {v:Value} (h:VA g w x v):VA (g.set id b2) w' (ru id x) v:=by
 have get:∀{i:Nat} {b':Gb},g.m i=some b'->∃b'',(g.set id b2).m i=some b''/\b''.blk=b'.blk/\b''.cp=b'.cp/\b''.sz=b'.sz/\b''.val=b'.val:=by
  intro i b' hb';show∃b'',(if i=id then some b2 else g.m i)=some b''/\_;by_cases e:i=id
  ·subst e;rw[hm] at hb';cases hb'
   exact⟨b2,if_pos rfl,e1,e2,e3,e4⟩
  ·exact⟨b',by rw[if_neg e];exact hb',rfl,rfl,rfl,rfl⟩
 have pure:nL x=true->VA (g.set id b2) w' x v:=λhp=>(h.pure (g':=⟨g.S,λ_=>none⟩) hp (λ_ h=>h)).mono hH ⟨λ_ h=>h,λ_ _ h=>by cases h⟩
 cases x
 case own i=>
  simp only[ru];split
  ·exact .dead _ h.one
  ·rename_i e
   have e:i≠id:=λe'=>by subst e';simp at e
   cases h with
   |own _ b' ad hm' hk h0=>exact .own i b' ad (by show(if i=id then some b2 else g.m i)=some b';rw[if_neg e];exact hm') hk h0
 case sub i off len=>
  cases h with
  |sub _ _ _ b' ad cc hm' hl hc hk=>
   obtain⟨b'',g1,g2,g3,g4,g5⟩:=get hm';exact .sub i off len b'' ad cc g1 (by rw[g3];exact hl) (by rw[g3];exact hc) (by rw[g2,g4];exact hk)
 case ptr i off=>
  cases h with
  |ptr _ _ b' k hm' hk=>obtain⟨b'',g1,g2,g3,g4,g5⟩:=get hm';exact .ptr i off b'' k g1 (by rw[g2];exact hk)
 case fB i p q=>
  cases h with
  |fB _ _ _ b' k hm' hk=>
   obtain⟨b'',g1,g2,g3,g4,g5⟩:=get hm';have:=VA.fB (g:=g.set id b2) (w:=w') i p q b'' k g1 (by rw[g2];exact hk);rw[g4] at this;exact this
 case clo i=>
  cases h with
  |clo _ b' f fs cs hm' hv=>obtain⟨b'',g1,g2,g3,g4,g5⟩:=get hm';exact .clo i b'' f fs cs g1 (by rw[g5];exact hv)
 case gp i=>
  cases h with
  |gp _ b' k hm' hk=>obtain⟨b'',g1,g2,g3,g4,g5⟩:=get hm';exact .gp i b'' k g1 (by rw[g2];exact hk)
 case iter i=>
  cases h with
  |iter _ b' k hm' hk=>obtain⟨b'',g1,g2,g3,g4,g5⟩:=get hm';exact .iter i b'' k g1 (by rw[g2];exact hk)
 case yld i=>
  cases h with
  |yld _ b' k hm' hk=>obtain⟨b'',g1,g2,g3,g4,g5⟩:=get hm';exact .yld i b'' k g1 (by rw[g2];exact hk)
 case gl τ l=>
  cases h with
  |gl _ _ bk f ha hcell hf=>
   exact .gl τ l bk f ha (λi j hi hj=>by rw[cell_of_heap (hH bk ha)];exact hcell i j hi hj) (λi x j y hx hy=>
    ((hf i x j y hx hy).pure (g':=⟨g.S,λ_=>none⟩) (c_ _ _ _ _ hy) (λ_ h=>h)).mono hH ⟨λ_ h=>h,λ_ _ h=>by cases h⟩)
 case dead=>exact .dead _ h.one
 case pS=>cases h;exact .pS
 case ng=>cases h;exact .ng
 case oO=>cases h;exact .oO
 case clip τ l=>
  cases h with
  |clip _ _ ad nn bk of f hn ha hcell hf=>
   exact .clip τ l ad nn bk of f hn ha (λi j hi hj=>by rw[cell_of_heap (hH bk (ha (ne_of_lt hi)).2)];exact hcell i j hi hj) (λi x j y hx hy=>
    ((hf i x j y hx hy).pure (g':=⟨g.S,λ_=>none⟩) (c_ _ _ _ _ hy) (λ_ h=>h)).mono hH ⟨λ_ h=>h,λ_ _ h=>by cases h⟩)
 case gQ τ y j=>
  cases h with
  |gQ _ _ _ bk of f ha hcell hf=>
   exact .gQ τ y j bk of f ha (λi hi=>by rw[cell_of_heap (hH bk ha)];exact hcell i hi) (λi y hy=>
    ((hf i y hy).pure (g':=⟨g.S,λ_=>none⟩) (c_ _ _ _ _ hy) (λ_ h=>h)).mono hH ⟨λ_ h=>h,λ_ _ h=>by cases h⟩)
 all_goals exact pure rfl
end
def xH (P:Program) (f:Nat):Prop:=∀(w:World) (x y:Option Addr) (la ca lb cb:Nat),(la=0\/lb=0\/(∃p q o o' csx csy ex ey,x=some ⟨p,o,none⟩/\y=some ⟨q,o',none⟩/\p≠q/\w.heap[p]? =some (.cells csx ex (0,0))/\w.heap[q]? =some (.cells csy ey (0,0))/\csy.size≠0)\/(∃p q o o' csx csy ex ey s,x=some ⟨p,o,none⟩/\y=some ⟨q,o',none⟩/\p≠q/\w.heap[p]? =some (.cells csx ex s)/\w.heap[q]? =some (.cells csy ey (0,0))/\csx.size≠0))->
 (callFunc f #[.slice x la ca, .slice y lb cb]).run P w= .ok (.value (.bool false)) w
structure aE (P:Program) [aD P] (c:Cfg):Prop where
 ts:Q2 P c
 sp:∀f s,look f c.spec=some s->aK P f s
 eqs:IW P c
 ovl:∀f,vf f c.ovl=true->xH P f
 glb:Dk P c
 fr:∀f s,look f c.fresh=some s->mL P f s:=by intro f s h;cases h
 gn:∀f s,look f c.gns=some s->aK P f s:=by intro f s h;cases h
section
variable {P:Program} [aD P] {F:Fence} {n:Nat} {c:Cfg} {g g':Gh} {r:cj} {m:Mem} {a:Act} {w w':World} {o:Oper} {R:Type} {k:St->Option R} {res:R}
variable {base:Nat} {w0:World} {S0:Nat->Prop} {N:Nat} {D:Wt} {sv:Nat->Value} {σ:St}
theorem Rel.env (h:Rel P base w0 S0 N D sv g σ a w) (C:aE P c) (xs:List Operand):Env P c g σ.az σ.mem xs a w where
 ev:=λx _ t y hy=>by
  cases x with
  |tmp i=>obtain⟨hn,hy⟩:=bS hy;have:=h.az i y hy;rw[iw hn] at this;exact this
  |const v=>exact Ao hy g w
  |func f=>simp only[ev,Option.some.injEq] at hy;subst hy;exact VA.fnc f
  |«global» q=>
   simp only[ev] at hy;split at hy
   ·rename_i τ l hl
    simp only[Option.some.injEq] at hy;subst hy;exact h.glo.va (C.glb q τ l hl)
   ·simp at hy
 mem:=h.mem
 ts:=C.ts
 sp:=C.sp
 S:=h.S
 blk:=h.blk
 eqs:=C.eqs
 glo:=h.glo
theorem bK {K:Act->World->Prop} {Q:Exit->Act->World->Prop} {v:Value} (hF:bP F) (hd:∀c,o.op≠ .defer c) (hr:(execOp a.eval o).run P w= .ok (.value v) w') (hK:K (a.put o.dst v) w'):o.wpIn F n P a w K Q:=by
 refine⟨λf _=>hF.fn f, ?_⟩;rw[Oper.semAt_eq _ _ _ hd,hr];exact hK
theorem mF {K:Act->World->Prop} {Q:Exit->Act->World->Prop} (hF:bP F) (hd:∀c,o.op≠ .defer c) (hr:(execOp a.eval o).run P w= .ok .skip w') (hK:K (a.put o.dst undef) w'):o.wpIn F n P a w K Q:=by
 refine⟨λf _=>hF.fn f, ?_⟩;rw[Oper.semAt_eq _ _ _ hd,hr];exact hK
theorem Below.push {obj:Obj} (hh:w'.heap=w.heap.push obj) (h1:w'.os=w.os) (h2:w'.tape=w.tape) (h3:w'.output=w.output):Below w.heap.size w w':=
 ⟨h1,h2,h3,by rw[hh];simp,λj hj=>by rw[hh,Array.getElem?_push,if_neg (by omega)]⟩
theorem o4 {obj:Obj} (hh:w'.heap=w.heap.push obj):w'.heap[w.heap.size]? =some obj:=by rw[hh];simp
theorem Rel.Ep (h:Rel P base w0 S0 N D sv g σ a w) {l:List At} {cs:Array Value} {e:TypeId} (ha:bR (VA g w) l cs.toList) (hh:w'.heap=w.heap.push (.cells cs e (0,0))) (h1:w'.os=w.os) (h2:w'.tape=w.tape) (h3:w'.output=w.output):
 ∃g',Rel P base w0 S0 N D sv g' (σ.new (.cells l)) a w'/\VA g' w' (.ptr σ.nx 0) (.pointer (some ⟨w.heap.size,0,none⟩)):=by
 have hb:=Below.push hh h1 h2 h3;have hle:g.le (g.set σ.nx ⟨some w.heap.size,0,1,1,default⟩):=Gh.tQ (h.fresh (Nat.le_refl _));refine⟨g.set σ.nx ⟨some w.heap.size,0,1,1,default⟩,h.new (Nat.le_refl _) hb ⟨w.heap.size,cs,e,rfl,o4 hh,ha.mono λ_ _ k=>k.mono (cr.lR h.S hb) hle⟩ (λq hq=> ?_), ?_⟩
 ·cases hq;exact⟨Nat.le_refl _,by rw[hh];simp⟩
 ·exact VA.ptr _ _ ⟨some w.heap.size,0,1,1,default⟩ _ (by simp [Gh.set]) rfl
theorem P8 (h:Rel P base w0 S0 N D sv g σ a w) (C:aE P c) (hN:c.N=N) (hF:bP F) {K:Act->World->Prop} {Q:Exit->Act->World->Prop} (hK:∀g' σ' a' w',k σ'=some res->Rel P base w0 S0 N D sv g' σ' a' w'->K a' w') {t:TypeId} (hop:o.op= .alloc t) {ti:TI} (hti:c.ti t=some ti)
 (hs:(σ.new (.cells ti.zero.cells)).put c o.dst (.one (.ptr σ.nx 0)) k=some res):o.wpIn F n P a w K Q:=by
 obtain⟨i,d,T⟩:=C.ts t ti hti;obtain⟨z,hz, -,hzr⟩:=T.zero;obtain⟨g1,h1,hv⟩:=h.Ep (w':=w.alloc (.cells z.cells t)) (e:=t) (hzr g w).cells rfl rfl rfl rfl;obtain⟨σ2,hk,h2⟩:=h1.put hN (x:= .one (.ptr σ.nx 0)) hv hs;refine bK hF (by simp [hop]) ?_ (hK _ _ _ _ hk h2);simp [execOp,hop,Instr.alloc,zeroValue,typeInfo,T.info,hz,newVar,newRow]
theorem We (h:Rel P base w0 S0 N D sv g σ a w) (C:aE P c) (hN:c.N=N) (hF:bP F) {K:Act->World->Prop} {Q:Exit->Act->World->Prop} (hK:∀g' σ' a' w',k σ'=some res->Rel P base w0 S0 N D sv g' σ' a' w'->K a' w') {t:TypeId} {x:Operand} (hop:o.op= .box t x) {v:V1} (hv:evV c σ.az t x=some v)
 (hs:(σ.new (.cells v.cells)).put c o.dst (.one (.ptr σ.nx 0)) k=some res):o.wpIn F n P a w K Q:=by
 have hvr:=(h.env C [x]).evV (x:=x) (by simp) hv;obtain⟨g1,h1,hv'⟩:=h.Ep (w':=w.alloc (.cells (a.eval x).cells t)) (e:=t) hvr.cells rfl rfl rfl rfl;obtain⟨σ2,hk,h2⟩:=h1.put hN (x:= .one (.ptr σ.nx 0)) hv' hs;refine bK hF (by simp [hop]) ?_ (hK _ _ _ _ hk h2);simp [execOp,hop,Instr.box,newVar,newRow]
theorem gH (w:World) (q:Nat) (cs:Array Value):(w.setRow q cs).os=w.os/\(w.setRow q cs).tape=w.tape/\(w.setRow q cs).output=w.output/\(w.setRow q cs).heap.size=w.heap.size/\∀j,j≠q->(w.setRow q cs).heap[j]? =w.heap[j]? :=by
 refine⟨rfl,rfl,rfl,by simp [World.setRow],λj hj=> ?_⟩;simp [World.setRow,Array.getElem?_modify,Ne.symm hj]
theorem fO:∀(u l:List Value) (off:Nat),off+u.length<=l.length->cE l off u=l.take off++u++l.drop (off+u.length)
 | [],l,off,_=>by simp [cE]
 |x::u,l,off,h=>by
  simp only[cE];rw[fO u _ (off+1) (by simp at h⊢;omega)];have e:=list_seg_step l off x u (by simpa using h);rw[e];simp
theorem Cu {t:TypeId} {i:TypeInfo} {v:Value} {q off:Nat} {cs:Array Value} {e:TypeId} (hi:P.info? t=some i) (hsz:v.cells.size=i.size) (hh:w.heap[q]? =some (.cells cs e (0,0))) (hle:off+v.cells.size<=cs.size) (ho:∀u∈v.cells.toList,u.oneCell'=true):
 (storeVar t ⟨q,off,none⟩ v).run P w= .ok () (w.setRow q (cE cs.toList off v.cells.toList).toArray):=by
 have hst:=run_storeCells_at P q off e v.cells.toList 0 cs w hh (by simpa using hle) ho;simp only[Nat.add_zero] at hst;simp only[storeVar,Sem.run_bind,run_sizeOf hi,Result.andThen_ok,hsz,ne_eq,not_true_eq_false,if_false,hst];rw[fO _ _ _ (by simpa using hle)]
theorem bR.one {l:List At} {vs:List Value} (h:bR (VA g w) l vs):∀u∈vs,u.oneCell'=true:=by
 induction h with
 |nil=>intro u hu;simp at hu
 |cons h _ ih=>
  intro u hu;rcases List.mem_cons.1 hu with rfl|hu
  ·exact h.one
  ·exact ih u hu
theorem w_ {u l:List Value} {off j:Nat} (h:off+u.length<=l.length):(cE l off u)[j]? =if off<=j/\j<off+u.length then u[j - off]? else l[j]? :=by
 rw[fO _ _ _ h];by_cases h1:j<off
 ·rw[if_neg (by omega),List.append_assoc,List.getElem?_append_left (by simp;omega),List.getElem?_take_of_lt h1]
 ·by_cases h2:j<off+u.length
  ·rw[if_pos ⟨by omega,h2⟩,List.getElem?_append_left (by simp;omega),List.getElem?_append_right (by simp;omega)]
   congr 1;simp;omega
  ·rw[if_neg (by omega),List.getElem?_append_right (by simp;omega),List.getElem?_drop]
   congr 1;simp;omega
theorem Py (h:Rel P base w0 S0 N D sv g σ a w) (C:aE P c) (hN:c.N=N) (hF:bP F) {K:Act->World->Prop} {Q:Exit->Act->World->Prop} (hK:∀g' σ' a' w',k σ'=some res->Rel P base w0 S0 N D sv g' σ' a' w'->K a' w') {t:TypeId} {x y:Operand} (hop:o.op= .store t x y) {p:At} {v:V1} {ti:TI}
 (hp:evA c σ.az 0 x=some p) (hv:evV c σ.az t y=some v) (hti:c.ti t=some ti) (hsz:Nat.beq v.cells.length ti.size=true) (hs:storeAt σ p v (λσ'=>σ'.put c o.dst .undef k)=some res):o.wpIn F n P a w K Q:=by
 obtain⟨i,d,T⟩:=C.ts t ti hti;have E:=h.env C [x,y];have hpv:=E.evA (x:=x) (by simp) hp;have hvv:=(E.evV (x:=y) (by simp) hv).cells;have hlen:=hvv.length;have hsz:=Nat.eq_of_beq_eq_true hsz;have hcsz:(a.eval y).cells.size=i.size:=by rw[T.size,<-hsz,hlen];simp
 have fin:∀{q off:Nat} {cs:Array Value} {e:TypeId} {σ1:St} {g1:Gh},a.eval x= .pointer (some ⟨q,off,none⟩)->w.heap[q]? =some (.cells cs e (0,0))->off+v.cells.length<=cs.size->
  Rel P base w0 S0 N D sv g1 σ1 a (w.setRow q (cE cs.toList off (a.eval y).cells.toList).toArray)->σ1.put c o.dst .undef k=some res->o.wpIn F n P a w K Q:=by
  intro q off cs e σ1 g1 he hh hle hr hput;obtain⟨σ2,hk,h2⟩:=hr.put (v:=undef) hN (x:= .undef) rfl hput;refine mF hF (by simp [hop]) ?_ (hK _ _ _ _ hk h2);simp only[execOp,hop,Instr.storeAt,he,Instr.sureAddr,Sem.run_bind,Sem.run_pure,Result.andThen_ok];rw[Cu T.info hcsz hh (by rw[hlen] at hle;simpa using hle) hvv.one];rfl
 generalize hxv:a.eval x=u at hpv;unfold storeAt at hs;split at hs
 ·rename_i id off
  split at hs
  ·rename_i l hl
   split at hs
   ·rename_i hle
    have hle:=Nat.le_of_ble_eq_true hle;obtain⟨b,hm,q,cs,e,hb,hh,ha⟩:=h.mem id _ hl;cases hpv with
    |ptr _ _ b' q' hm' hb'=>
     rw[hm] at hm';cases hm';rw[hb] at hb';cases hb';have hcl:=ha.length;obtain⟨f1,f2,f3,f4,f5⟩:=gH w q (cE cs.toList off (a.eval y).cells.toList).toArray;refine fin hxv hh (by simp at hcl;omega) (h.set hl rfl hm hb f4 f5 ⟨f1,f2,f3⟩ (λhH=> ?_)) hs;refine⟨q,_,e,hb,setRow_heap w q cs _ e _ hh, ?_⟩;have hH':=hH g (λj hj e'=>by subst e';exact(h.own id _ b j hl rfl hm hb).2 hj);simp only[List.toList_toArray];exact(nK off hvv ha).mono λ_ _ k=>k.mono hH' (Gh.le.refl g)
   ·simp at hs
  ·simp at hs
 ·rename_i id i0 j0
  split at hs
  ·rename_i τ l hl
   split at hs
   ·rename_i hle
    have hle:=Nat.le_of_ble_eq_true hle;obtain⟨e0,he0,hs⟩:=bo hs;obtain⟨e1,he1,hs⟩:=bo hs;obtain⟨b,hm,hbr⟩:=h.mem id _ hl;cases hpv with
    |fB _ _ _ b' q' hm' hb'=>
     rw[hm] at hm';cases hm';have hlen':=hbr.len;obtain⟨h1,h2,h3⟩:=hbr;rcases h3 with⟨h3,_⟩ |⟨q,cs,e,hb,hh,hcs,hl',ho,ha⟩
     ·rw[hb'] at h3;cases h3
     ·have hqq:q=q':=by rw[hb] at hb';exact Option.some.inj hb'
      subst hqq;have hi0:i0<l.length:=by
       rcases Nat.lt_or_ge i0 l.length with h'|h'
       ·exact h'
       ·rw[List.getElem?_eq_none h'] at he0;cases he0
      have hbound:i0*τ.n+τ.n<=cs.size:=by
       rw[hcs,<-Nat.succ_mul];exact Nat.mul_le_mul_right _ (by omega)
      have hoff:i0*b.sz+j0=i0*τ.n+j0:=by rw[h1]
      have hfit:i0*τ.n+j0+v.cells.length<=cs.size:=by omega
      rw[hoff] at hxv;obtain⟨f1,f2,f3,f4,f5⟩:=gH w q (cE cs.toList (i0*τ.n+j0) (a.eval y).cells.toList).toArray;refine fin hxv hh hfit (h.set hl rfl hm hb f4 f5 ⟨f1,f2,f3⟩ (λhH=> ?_)) hs;have hH':=hH g (λj hj e'=>by subst e';exact(h.own id _ b j hl rfl hm hb).2 hj);refine⟨h1,by simpa using h2, .inr ⟨q,_,e,hb,setRow_heap w q cs _ e _ hh, ?_,by simpa using hl', ?_, ?_⟩⟩
      ·simp [fj,hcs]
      ·intro u hu
       simp only[List.toList_toArray] at hu;rw[fO _ _ _ (by rw[<-hlen];simpa using hfit)] at hu;simp only[List.mem_append] at hu;rcases hu with(hu|hu) |hu
       ·exact ho u (List.mem_of_mem_take hu)
       ·exact hvv.one u hu
       ·exact ho u (List.mem_of_mem_drop hu)
      ·intro i z j y' hz hy'
       have hj:j<τ.n:=by rw[<-cU τ z];exact(List.getElem?_eq_some_iff.1 hy').1
       have hget:(cE cs.toList (i0*τ.n+j0) (a.eval y).cells.toList)[i*τ.n+j]? =if i0*τ.n+j0<=i*τ.n+j/\i*τ.n+j<i0*τ.n+j0+(a.eval y).cells.toList.length then (a.eval y).cells.toList[i*τ.n+j - (i0*τ.n+j0)]? else cs.toList[i*τ.n+j]? :=
        w_ (by rw[<-hlen];simpa using hfit)
       by_cases hii:i=i0
       ·subst hii
        rw[List.getElem?_set_self hi0] at hz;cases hz;have hd:=rr τ he1;rw[hd] at hy';have hset:=nK (g:=g) (w:=w) j0 hvv (l:=τ.enc e0) (v:=(List.range τ.n).map λj=>cs.toList.getD (i*τ.n+j) undef) (bR.Hq (by simp [cU]) (λj' x' v' hx' hv'=>by
         obtain⟨v2,hv2,hr2⟩:=ha i e0 j' x' he0 hx';have hj':j'<τ.n:=by rw[<-cU τ e0];exact(List.getElem?_eq_some_iff.1 hx').1
         simp [hj'] at hv';subst hv';have:cs.toList[i*τ.n+j']? =some v2:=by simpa using hv2
         simp at this;rw[this];exact hr2))
        obtain⟨v2,hv2,hr2⟩:=hset.iF.get hy';refine⟨v2, ?_,hr2.mono hH' (Gh.le.refl g)⟩;have hb9:j0+(a.eval y).cells.toList.length<=((List.range τ.n).map λj=>cs.toList.getD (i*τ.n+j) undef).length:=by
         rw[<-hlen];simpa using hle
        rw[w_ hb9] at hv2;simp only[List.getElem?_toArray];rw[hget];by_cases hc:j0<=j/\j<j0+(a.eval y).cells.toList.length
        ·rw[if_pos (by omega)]
         rw[if_pos hc] at hv2;rw[show i*τ.n+j - (i*τ.n+j0)=j - j0 from by omega];exact hv2
        ·rw[if_neg (by omega)]
         rw[if_neg hc] at hv2;have hlt:i*τ.n+j<cs.size:=by omega
         simp [hj,hlt] at hv2;simp [hlt,hv2]
       ·rw[List.getElem?_set_ne (Ne.symm hii)] at hz
        obtain⟨v2,hv2,hr2⟩:=ha i z j y' hz hy';refine⟨v2, ?_,hr2.mono hH' (Gh.le.refl g)⟩;simp only[List.getElem?_toArray];rw[hget,if_neg, ]
        ·simpa using hv2
        ·rintro⟨c1,c2⟩
         rw[<-hlen] at c2;rcases Nat.lt_or_gt_of_ne hii with hlt|hgt
         ·have:(i+1)*τ.n<=i0*τ.n:=Nat.mul_le_mul_right _ hlt
          rw[Nat.succ_mul] at this;omega
         ·have:(i0+1)*τ.n<=i*τ.n:=Nat.mul_le_mul_right _ hgt
          rw[Nat.succ_mul] at this;omega
   ·simp at hs
  ·simp at hs
 ·simp at hs
end
section
variable {P:Program} [aD P] {F:Fence} {n:Nat} {c:Cfg} {g g':Gh} {r:cj} {m:Mem} {a:Act} {w w':World} {o:Oper} {R:Type} {k:St->Option R} {res:R}
variable {base:Nat} {w0:World} {S0:Nat->Prop} {N:Nat} {D:Wt} {sv:Nat->Value} {σ:St}
theorem dv.one {τ:Ty} {l:List τ.T} {vs:List Value} (h:dv g w τ l vs) (hl:vs.length=l.length*τ.n):∀u∈vs,u.oneCell'=true:=by
 intro u hu;obtain⟨p,hp,rfl⟩:=List.getElem_of_mem hu;have hn:=wP τ;have hi:p/τ.n<l.length:=by rw[hl] at hp;exact Nat.div_lt_of_lt_mul (by rw[Nat.mul_comm];exact hp)
 have hj:p%τ.n<τ.n:=Nat.mod_lt _ hn;obtain⟨v,hv,hr⟩:=h (p/τ.n) l[p/τ.n] (p%τ.n) ((τ.enc l[p/τ.n])[p%τ.n]'(by rw[cU];exact hj)) (by simp [hi]) (by simp [cU,hj]);have e:p/τ.n*τ.n+p%τ.n=p:=by rw[Nat.mul_comm];exact Nat.div_add_mod p τ.n
 rw[e] at hv;rw[List.getElem?_eq_getElem hp] at hv;cases hv;exact hr.one
theorem dv.mono {τ:Ty} {l:List τ.T} {vs:List Value} (h:dv g w τ l vs) (hw:cr g w w') (hg:g.le g'):dv g' w' τ l vs:=λi x j y hx hy=>let ⟨v,hv,hr⟩:=h i x j y hx hy;⟨v,hv,hr.mono hw hg⟩
def Src (g:Gh) (w:World) (τ:Ty) (l:List τ.T) (ad:Option Addr):Prop:=
 l≠ [] ->∃(bk of:Nat) (vs:List Value),ad=some ⟨bk,of,none⟩/\vs.length=l.length*τ.n/\(∀j u,vs[j]? =some u->w.cell? ⟨bk,of+j,none⟩=some u)/\dv g w τ l vs
theorem pV {τ:Ty} {l:List τ.T} {ad:Option Addr} (h:l≠ [] ->∃(bk of:Nat) (f:Nat->Nat->Value),ad=some ⟨bk,of,none⟩/\(∀i j,i<l.length->j<τ.n->w.cell? ⟨bk,of+(i*τ.n+j),none⟩=some (f i j))/\∀i x j y,l[i]? =some x->(τ.enc x)[j]? =some y->VA g w y (f i j)):Src g w τ l ad:=by
 intro hne;obtain⟨bk,of,f,e,hc,hf⟩:=h hne;have hn:=wP τ;refine⟨bk,of,(List.range (l.length*τ.n)).map λp=>f (p/τ.n) (p%τ.n),e,by simp,λj u hu=> ?_,λi x j y hx hy=> ?_⟩
 ·have hj:j<l.length*τ.n:=by
   rcases Nat.lt_or_ge j (l.length*τ.n) with h'|h'
   ·exact h'
   ·rw[List.getElem?_eq_none (by simpa using h')] at hu;cases hu
  simp [hj] at hu;subst hu;have:=hc (j/τ.n) (j%τ.n) (Nat.div_lt_of_lt_mul (by rw[Nat.mul_comm];exact hj)) (Nat.mod_lt _ hn);have e:j/τ.n*τ.n+j%τ.n=j:=by rw[Nat.mul_comm];exact Nat.div_add_mod j τ.n
  rwa[e] at this
 ·have hi:i<l.length:=(List.getElem?_eq_some_iff.1 hx).1
  have hj:j<τ.n:=by rw[<-cU τ x];exact(List.getElem?_eq_some_iff.1 hy).1
  have hlt:i*τ.n+j<l.length*τ.n:=by
   calc i*τ.n+j<i*τ.n+τ.n:=by omega
    _=(i+1)*τ.n:=by rw[Nat.succ_mul]
    _<=l.length*τ.n:=Nat.mul_le_mul_right _ hi
  refine⟨f i j, ?_,hf i x j y hx hy⟩;have e1:(i*τ.n+j)/τ.n=i:=by rw[Nat.mul_comm,Nat.mul_add_div hn,Nat.div_eq_of_lt hj];rfl
  have e2:(i*τ.n+j)%τ.n=j:=by rw[Nat.mul_comm,Nat.mul_add_mod,Nat.mod_eq_of_lt hj]
  simp [hlt,e1,e2]
theorem dv.append {τ:Ty} {l l':List τ.T} {vs vs':List Value} (h:dv g w τ l vs) (hl:vs.length=l.length*τ.n) (h':dv g w τ l' vs'):dv g w τ (l++l') (vs++vs'):=by
 intro i x j y hx hy;have hj:j<τ.n:=by rw[<-cU τ x];exact(List.getElem?_eq_some_iff.1 hy).1
 by_cases hi:i<l.length
 ·rw[List.getElem?_append_left hi] at hx
  obtain⟨v,hv,hr⟩:=h i x j y hx hy;refine⟨v, ?_,hr⟩;rw[List.getElem?_append_left (List.getElem?_eq_some_iff.1 hv).1];exact hv
 ·rw[List.getElem?_append_right (by omega)] at hx
  obtain⟨v,hv,hr⟩:=h' _ x j y hx hy;refine⟨v, ?_,hr⟩;have:i*τ.n=l.length*τ.n+(i - l.length)*τ.n:=by rw[<-Nat.add_mul];congr 1;omega
  rw[List.getElem?_append_right (by omega)];rw[<-hv];congr 1;omega
theorem dv.more {τ:Ty} {l:List τ.T} {vs:List Value} (h:dv g w τ l vs) (vs':List Value):dv g w τ l (vs++vs'):=by
 intro i x j y hx hy;obtain⟨v,hv,hr⟩:=h i x j y hx hy;exact⟨v,by rw[List.getElem?_append_left (List.getElem?_eq_some_iff.1 hv).1];exact hv,hr⟩
theorem dv.nil {τ:Ty} {vs:List Value}:dv g w τ [] vs:=λi x j y hx _=>by simp at hx
theorem xv {z:Value} (hz:∀u∈z.cells.toList,u.oneCell'=true) (q:Nat):∀u∈(Builtin.zeroCells z.cells q).toList,u.oneCell'=true:=by
 intro u hu;simp only[Builtin.zeroCells,Array.toList_map,List.mem_map] at hu;obtain⟨i,hi,rfl⟩:=hu;have hi':i<q*z.cells.size:=by simpa using hi
 have h0:0<z.cells.size:=by
  rcases Nat.eq_zero_or_pos z.cells.size with h|h
  ·rw[h] at hi';omega
  ·exact h
 have hlt:i%z.cells.size<z.cells.size:=Nat.mod_lt _ h0;rw[getElem!_pos z.cells _ hlt];exact hz _ (by simp)
theorem uj {t e:TypeId} {te:TI} {i:TypeInfo} {d:TypeDesc} {τ:Ty} (ht:P.underlying t=some (.slice e)) (hj:P.info? e=some i) (hs:i.size=τ.n) (hby:i.bytes<=4096) (T:rq P e te i d)
 {l ys:List τ.T} {ad ad2:Option Addr} {c1 c2:Nat} (h1:Src g w τ l ad) (h2:Src g w τ ys ad2) (h0:ad=none->c1=0) (hne:ys≠ []) (hg:c1<l.length+ys.length) (hlim:l.length+ys.length<=LIM) (ty:TypeId):
 ∃(w':World) (cap:Nat) (cs:Array Value),(Builtin.append_ #[t,t] ty #[.slice ad l.length c1, .slice ad2 ys.length c2]).run P w= .ok (.slice (some ⟨w.heap.size,0,none⟩) (l.length+ys.length) cap) w'/\
  w'.heap=w.heap.push (.cells cs e (0,0))/\w'.os=w.os/\w'.tape=w.tape/\w'.output=w.output/\cs.size=cap*τ.n/\l.length+ys.length<=cap/\(∀u∈cs.toList,u.oneCell'=true)/\dv g w τ (l++ys) cs.toList:=by
 obtain⟨z,hz,hzs,hzr⟩:=T.zero;have hzc:=(hzr g w).cells;rw[<-T.size,hs] at hzs;obtain⟨bk,of,vs,rfl,hvl,hvc,hve⟩:=h2 hne;have hyl:0<ys.length:=List.length_pos_iff.2 hne;have hfit:(l.length+ys.length)*i.bytes<=140737488355328:=by
  have:(l.length+ys.length)*i.bytes<=LIM*4096:=Nat.mul_le_mul hlim hby;unfold LIM at this;omega
 have hgr:=growslice_fits (bytes:=i.bytes) hg hfit;have h63:((l.length+ys.length:Nat):Int)<=9223372036854775807:=by unfold LIM at hlim;omega
 have hzo:=xv hzc.one;by_cases hl:l= []
 ·subst hl
  cases ad with
  |none=>
   have hc1:=h0 rfl;subst hc1;have hnil:Builtin.nextslicecap ys.length 0*i.bytes<=281474976710656:=by simpa using hgr
   have hrun:=run_append_nil (P:=P) w t ty e i z ht hj hz ⟨bk,of,none⟩ ys.length c2 vs (by rw[hvl,hs]) (λj u hu=>by rw[da];exact hvc j u hu) hyl (by simpa using h63) (by rw[nextslicecap_zero hyl] at hnil;exact hnil);refine⟨w.drew.alloc (.cells (vs.toArray++Builtin.zeroCells z.cells (grownCap w ys.length 0 e - ys.length)) e),grownCap w ys.length 0 e,_,by simpa using hrun,rfl,rfl,rfl,rfl, ?_, ?_, ?_, ?_⟩
   ·have hge:=grownCap_ge w ys.length 0 e
    simp only[Array.size_append,List.size_toArray,size_zeroCells,hvl,hzs];rw[<-Nat.add_mul];congr 1;omega
   ·have hge:=grownCap_ge w ys.length 0 e;simpa using hge
   ·intro u hu
    simp only[Array.toList_append,List.mem_append] at hu;rcases hu with hu|hu
    ·exact hve.one hvl u hu
    ·exact hzo _ u hu
   ·simp only[Array.toList_append,List.nil_append]
    exact hve.more _
  |some b=>
   have hrun:=run_append_grow (P:=P) w t ty e i z ht hj hz b 0 c1 [] (by simp) (λj v h=>by simp at h) ⟨bk,of,none⟩ ys.length c2 vs (by rw[hvl,hs]) (λj u hu=>by rw[da];exact hvc j u hu) (by simpa using hg) (by simpa using h63) (by simpa using hgr);refine⟨w.drew.alloc (.cells (vs.toArray++Builtin.zeroCells z.cells (grownCap w ys.length c1 e - ys.length)) e),grownCap w ys.length c1 e,_,by simpa using hrun,rfl,rfl,rfl,rfl, ?_, ?_, ?_, ?_⟩
   ·have hge:=grownCap_ge w ys.length c1 e
    simp only[Array.size_append,List.size_toArray,size_zeroCells,hvl,hzs];rw[<-Nat.add_mul];congr 1;omega
   ·have hge:=grownCap_ge w ys.length c1 e;simpa using hge
   ·intro u hu
    simp only[Array.toList_append,List.mem_append] at hu;rcases hu with hu|hu
    ·exact hve.one hvl u hu
    ·exact hzo _ u hu
   ·simp only[Array.toList_append,List.nil_append]
    exact hve.more _
 ·obtain⟨bk1,of1,us,rfl,hul,huc,hue⟩:=h1 hl
  have hrun:=run_append_grow (P:=P) w t ty e i z ht hj hz ⟨bk1,of1,none⟩ l.length c1 us (by rw[hul,hs]) (λj u hu=>by rw[da];exact huc j u hu) ⟨bk,of,none⟩ ys.length c2 vs (by rw[hvl,hs]) (λj u hu=>by rw[da];exact hvc j u hu) hg h63 hgr;refine⟨_,_,_,hrun,rfl,rfl,rfl,rfl, ?_,grownCap_ge w _ c1 e, ?_, ?_⟩
  ·have hge:=grownCap_ge w (l.length+ys.length) c1 e
   simp only[Array.size_append,List.size_toArray,size_zeroCells,hvl,hul,hzs];rw[<-Nat.add_mul,<-Nat.add_mul];congr 1;omega
  ·intro u hu
   simp only[Array.toList_append,List.mem_append] at hu;rcases hu with(hu|hu) |hu
   ·exact hue.one hul u hu
   ·exact hve.one hvl u hu
   ·exact hzo _ u hu
  ·simp only[Array.toList_append]
   exact(hue.append hul hve).more _
theorem n_ {t e:TypeId} {i:TypeInfo} (ht:P.underlying t=some (.slice e)) (hj:P.info? e=some i) {ad ad2:Option Addr} {n1 c1 c2:Nat} (hle:n1<=c1) (ty:TypeId):
 (Builtin.append_ #[t,t] ty #[.slice ad n1 c1, .slice ad2 0 c2]).run P w= .ok (.slice ad n1 c1) w:=by
 cases ad2<;>cases ad<;>simp [Builtin.append_,run_underlying ht,run_sizeOf hj,Builtin.lenOf,hle,Builtin.firstCells,loadCells,loadCellsFrom,storeCells]
end
section
variable {P:Program} [aD P] {F:Fence} {n:Nat} {c:Cfg} {g g':Gh} {r:cj} {m:Mem} {a:Act} {w w':World} {o:Oper} {R:Type} {k:St->Option R} {res:R}
variable {base:Nat} {w0:World} {S0:Nat->Prop} {N:Nat} {D:Wt} {sv:Nat->Value} {σ:St}
theorem dv.drop {τ:Ty} {l:List τ.T} {vs:List Value} (h:dv g w τ l vs) (q:Nat):dv g w τ (l.drop q) (vs.drop (q*τ.n)):=by
 intro i x j y hx hy;rw[List.getElem?_drop] at hx;obtain⟨v,hv,hr⟩:=h _ x j y hx hy;refine⟨v, ?_,hr⟩;rw[List.getElem?_drop,<-hv];congr 1;rw[Nat.add_mul];omega
theorem dv.take {τ:Ty} {l:List τ.T} {vs:List Value} (h:dv g w τ l vs) (q:Nat):dv g w τ (l.take q) (vs.take (q*τ.n)):=by
 intro i x j y hx hy;have hi:i<q:=by
  rcases Nat.lt_or_ge i q with h'|h'
  ·exact h'
  ·rw[List.getElem?_eq_none (by simp;omega)] at hx;cases hx
 rw[List.getElem?_take_of_lt hi] at hx;obtain⟨v,hv,hr⟩:=h _ x j y hx hy;have hj:j<τ.n:=by rw[<-cU τ x];exact(List.getElem?_eq_some_iff.1 hy).1
 refine⟨v, ?_,hr⟩;rw[List.getElem?_take_of_lt,hv];have:(i+1)*τ.n<=q*τ.n:=Nat.mul_le_mul_right _ hi;rw[Nat.succ_mul] at this;omega
theorem dv.CC {τ:Ty} {l s:List τ.T} {cs vs:List Value} {off:Nat} (h:dv g w τ l cs) (hs:dv g w τ s vs) (hv:vs.length=s.length*τ.n) (hl:off+s.length<=l.length) (hc:l.length*τ.n<=cs.length):
 dv g w τ (l.take off++(s++l.drop (off+s.length))) (cE cs (off*τ.n) vs):=by
 have h1:off*τ.n+s.length*τ.n<=l.length*τ.n:=by rw[<-Nat.add_mul];exact Nat.mul_le_mul_right _ hl
 rw[fO _ _ _ (by omega),List.append_assoc];refine(h.take off).append ?_ (hs.append hv ?_)
 ·simp;rw[Nat.min_eq_left (by omega),Nat.min_eq_left (by omega)]
 ·have:=h.drop (off+s.length)
  rw[Nat.add_mul,<-hv] at this;exact this
theorem Rel.same (h:Rel P base w0 S0 N D sv g σ a w) {id:Nat} {x:AB} (hx:look id σ.mem=some x):Rel P base w0 S0 N D sv g (σ.set id x) a w:=by
 have e:∀i,look i (σ.set id x).mem=look i σ.mem:=λi=>by
  simp only[St.set,ba];split
  ·rename_i e;subst e;exact hx.symm
  ·rfl
 exact{az:=h.az,size:=h.size,dfr:=h.dfr,glo:=h.glo,lp:=λi z b h1=>h.lp i z b (by rw[<-e];exact h1),mem:=λi z hz=>h.mem i z (by rw[<-e];exact hz),inj:=λi i' z z' b b' q h1 h2=>h.inj i i' z z' b b' q (by rw[<-e];exact h1) (by rw[<-e];exact h2),own:=λi z b q h1=>h.own i z b q (by rw[<-e];exact h1),S:=h.S,blk:=h.blk,nx:=h.nx,bel:=h.bel,bs:=h.bs,sub:=h.sub}
theorem lT {l u:List Value} {off:Nat} (h:off+u.length<=l.length) (h1:∀v∈l,v.oneCell'=true) (h2:∀v∈u,v.oneCell'=true):∀v∈cE l off u,v.oneCell'=true:=by
 intro v hv;rw[fO _ _ _ h] at hv;simp only[List.mem_append] at hv;rcases hv with(hv|hv) |hv
 ·exact h1 v (List.mem_of_mem_take hv)
 ·exact h2 v hv
 ·exact h1 v (List.mem_of_mem_drop hv)
theorem Rel.newRow (h:Rel P base w0 S0 N D sv g σ a w) {τ:Ty} {l:List τ.T} {cs:Array Value} {e:TypeId} {cp:Nat} (hh:w'.heap=w.heap.push (.cells cs e (0,0))) (h1:w'.os=w.os) (h2:w'.tape=w.tape) (h3:w'.output=w.output)
 (hsz:cs.size=cp*τ.n) (hl:l.length<=cp) (ho:∀u∈cs.toList,u.oneCell'=true) (he:dv g w τ l cs.toList):
 ∃g',Rel P base w0 S0 N D sv g' (σ.new (.row τ l)) a w'/\VA g' w' (.own σ.nx) (.slice (some ⟨w.heap.size,0,none⟩) l.length cp):=by
 have hb:=Below.push hh h1 h2 h3;obtain⟨b,hbd⟩:∃b:Gb,b=⟨some w.heap.size,l.length,cp,τ.n,default⟩:=⟨_,rfl⟩;have hle:g.le (g.set σ.nx b):=Gh.tQ (h.fresh (Nat.le_refl _));refine⟨g.set σ.nx b,h.new (Nat.le_refl _) hb ⟨by rw[hbd],by rw[hbd], .inr ⟨w.heap.size,cs,e,by rw[hbd],o4 hh,by rw[hbd];exact hsz,by rw[hbd];exact hl,ho, ?_⟩⟩ (λq hq=> ?_), ?_⟩
 ·intro i x j y hx hy
  obtain⟨v,hv,hr⟩:=he i x j y hx hy;exact⟨v,by simpa using hv,hr.mono (cr.lR h.S hb) hle⟩
 ·rw[hbd] at hq;cases hq;exact⟨Nat.le_refl _,by rw[hh];simp⟩
 ·have:=VA.own (g:=g.set σ.nx b) (w:=w') σ.nx b (some ⟨w.heap.size,0,none⟩) (by simp [Gh.set]) (λq hq=>by rw[hbd] at hq;cases hq;rfl) (λhn=>by rw[hbd] at hn;cases hn)
  rw[hbd] at this⊢;exact this
theorem Rel.SN (h:Rel P base w0 S0 N D sv g σ a w) (τ:Ty) (ad:Option Addr):∃g',Rel P base w0 S0 N D sv g' (σ.new (.row τ [])) a w/\VA g' w (.own σ.nx) (.slice ad 0 0):=by
 refine⟨g.set σ.nx ⟨none,0,0,τ.n,default⟩,h.new (Nat.le_refl _) (Below.refl _ _) ⟨rfl,rfl, .inl ⟨rfl,rfl,rfl⟩⟩ (λq hq=>by cases hq), ?_⟩;exact VA.own σ.nx ⟨none,0,0,τ.n,default⟩ ad (by simp [Gh.set]) (λq hq=>by cases hq) (λ_=>⟨rfl,rfl⟩)
theorem Rel.zp (h:Rel P base w0 S0 N D sv g σ a w) {id:Nat} {τ:Ty} {l l':List τ.T} {b:Gb} {q:Nat} {cs:Array Value} {ec:TypeId}
 (hl:look id σ.mem=some (.row τ l)) (hm:g.m id=some b) (hb:b.blk=some q) (hh:w.heap[q]? =some (.cells cs ec (0,0))) (hbr:BR P g w b (.row τ l)) (hll:l'.length=l.length) {new:Array Value} (hnl:new.size=cs.size) (hno:∀u∈new.toList,u.oneCell'=true) (hel:dv g w τ l' new.toList):
 Rel P base w0 S0 N D sv g (σ.set id (.row τ l')) a (w.setRow q new):=by
 obtain⟨f1,f2,f3,f4,f5⟩:=gH w q new;obtain⟨h1,h2,h3⟩:=hbr;exact h.set (y:= .row τ l') hl rfl hm hb f4 f5 ⟨f1,f2,f3⟩ (λhH=>by
  have hH':=hH g (λj hj e'=>by subst e';exact(h.own id _ b j hl rfl hm hb).2 hj);rcases h3 with⟨h3,_⟩ |⟨q',cs',e',hb',hh',hcs,hl',ho,ha⟩
  ·rw[hb] at h3;cases h3
  ·have:q=q':=by rw[hb] at hb';exact Option.some.inj hb'
   subst this;rw[hh] at hh';cases hh';refine⟨h1,by rw[h2,hll], .inr ⟨q,new,ec,hb,setRow_heap w q cs _ ec _ hh,by rw[hnl,hcs],by rw[hll];exact hl',hno, ?_⟩⟩;intro i x j y hx hy;obtain⟨v,hv,hr⟩:=hel i x j y hx hy;exact⟨v,by simpa using hv,hr.mono hH' (Gh.le.refl g)⟩)
theorem ei {τ τ':Ty} {l:List τ.T} {l':List τ'.T} (h:dV τ τ' l=some l'):∃e:τ=τ',e▸l=l':=by
 cases τ<;>cases τ'<;>simp [dV] at h<;>exact⟨rfl,h⟩
theorem La (h:Rel P base w0 S0 N D sv g σ a w) (C:aE P c) (hN:c.N=N) (hF:bP F) {K:Act->World->Prop} {Q:Exit->Act->World->Prop} (hK:∀g' σ' a' w',k σ'=some res->Rel P base w0 S0 N D sv g' σ' a' w'->K a' w') {t e:TypeId} {x y:Operand}
 (hop:o.op= .call {callee:= .builtin .append,args:= #[x,y],argTypes:= #[t,t]}) {ti te:TI} {τ:Ty} (hti:c.ti t=some ti) (htk:ti.k= .slice τ e) (hte:c.ti e=some te) {px py:At} (hx:evA c σ.az t x=some px) (hy:evA c σ.az t y=some py)
 (hs0:cg σ.mem py (λτ' l=>aj (dV τ' τ l) λl=>yx c o σ τ px l k)=some res):o.wpIn F n P a w K Q:=by
 obtain⟨i,d,T⟩:=C.ts t ti hti;obtain⟨rfl,j,hj,hjs,hjb⟩:=T.slice htk;obtain⟨i2,d2,T2⟩:=C.ts e te hte;obtain rfl:i2=j:=by have:=T2.info;rw[hj] at this;exact(Option.some.inj this).symm
 have E:=h.env C [x,y];have hxv:=E.evA (x:=x) (by simp) hx;have hyv:=E.evA (x:=y) (by simp) hy;generalize hxe:a.eval x=vx at hxv;generalize hye:a.eval y=vy at hyv;obtain⟨τ',ys,ad2,m2,c2,hs1,rfl,hm2, -,hsrc2⟩:=gi h.mem hyv hs0;clear hs0;obtain⟨ys',hcast,hs⟩:=bo hs1;clear hs1;obtain⟨e9,hys⟩:=ei hcast;clear hcast;subst e9;simp only at hys;subst hys;subst hm2;have hsrc2:=pV hsrc2;have fin:∀{v:Value} {w1:World} {σ1:St} {z:At} {g1:Gh},(Builtin.append_ #[t,t] o.type #[vx, .slice ad2 ys.length c2]).run P w= .ok v w1->Rel P base w0 S0 N D sv g1 σ1 a w1->VA g1 w1 z v->σ1.put c o.dst (.one z) k=some res->o.wpIn F n P a w K Q:=by
  intro v w1 σ1 z g1 hr h1 hz hp;obtain⟨σ2,hk,h2⟩:=h1.put (v:=v) hN (x:= .one z) hz hp;refine bK hF (by simp [hop]) ?_ (hK _ _ _ _ hk h2);have e1:(#[x,y].map a.eval)= #[vx, .slice ad2 ys.length c2]:=by simp [hxe,hye]
  simp only[execOp,hop,resolve,Sem.run_bind,Sem.run_pure,Result.andThen_ok,invoke,builtin,e1,hr]
 cases px<;>simp only[yx,reduceCtorEq] at hs
 case clip τ1 l0=>
  cases l0 with
  |nil=>
   simp only at hs;obtain⟨l,hl,hs1⟩:=bo hs;clear hs;obtain⟨e9,hll⟩:=ei hl;clear hl;subst e9;simp only at hll;subst hll;obtain⟨hlim,hs⟩:=iv hs1;clear hs1;cases hxv with
   |clip _ _ ad len bk of f hlen ha hcell hf=>
    simp only[List.length_nil] at hlen;subst hlen;by_cases hne:ys= []
    ·subst hne
     obtain⟨g1,h1,hv⟩:=h.SN τ1 ad;exact fin (by simpa using n_ (P:=P) (w:=w) T.und hj (ad:=ad) (ad2:=ad2) (n1:=0) (c1:=0) (c2:=c2) (Nat.le_refl _) o.type) h1 hv hs
    ·obtain⟨w1,cap,cs,hr,hh,e1,e2,e3,hsz,hcap,hone,hel⟩:=uj (P:=P) (g:=g) (w:=w) T.und hj hjs hjb T2 (l:=([] :List τ1.T)) (ys:=ys) (ad:=ad) (ad2:=ad2) (c1:=0) (c2:=c2) (λh=>absurd rfl h) hsrc2 (λ_=>rfl) hne (by simpa using List.length_pos_iff.2 hne) (by simpa using hlim) o.type
     simp only[List.length_nil,Nat.zero_add,List.nil_append] at hr hcap hel;obtain⟨g1,h1,hv⟩:=h.newRow hh e1 e2 e3 hsz hcap hone hel;exact fin (by simpa using hr) h1 hv hs
  |cons x0 l0=>
   cases ys with
   |nil=>simp at hs
   |cons y0 ys0=>
    simp only at hs;obtain⟨l,hl,hs1⟩:=bo hs;clear hs;obtain⟨e9,hll⟩:=ei hl;clear hl;subst e9;simp only at hll;subst hll;obtain⟨hlim,hs⟩:=iv hs1;clear hs1;cases hxv with
    |clip _ _ ad len bk of f hlen ha hcell hf=>
     subst hlen;have hsrc1:Src g w τ1 (x0::l0) ad:=pV λhne=>⟨bk,of,f,(ha hne).1,hcell,hf⟩
     obtain⟨w1,cap,cs,hr,hh,e1,e2,e3,hsz,hcap,hone,hel⟩:=uj (P:=P) (g:=g) (w:=w) T.und hj hjs hjb T2 (l:=x0::l0) (ys:=y0::ys0) (ad:=ad) (ad2:=ad2) (c1:=(x0::l0).length) (c2:=c2) hsrc1 hsrc2 (λhn=>by have:=(ha (by simp)).1;rw[hn] at this;cases this) (by simp) (by simp) hlim o.type;obtain⟨g1,h1,hv⟩:=h.newRow (l:=x0::l0++y0::ys0) hh e1 e2 e3 hsz (by simp at hcap⊢;omega) hone hel;refine fin hr h1 ?_ hs;have e9:(x0::l0++y0::ys0).length=(x0::l0).length+(y0::ys0).length:=by simp;omega
     rwa[e9] at hv
 case own id=>
  split at hs
  ·rename_i τ1 l0 hl0
   obtain⟨l,hl,hs1⟩:=bo hs;clear hs;obtain⟨e9,hll⟩:=ei hl;clear hl;subst e9;simp only at hll;subst hll;obtain⟨hlim,hs⟩:=iv hs1;clear hs1;obtain⟨b,hm,hbr⟩:=h.mem id _ hl0;have hlen:=hbr.len;have hli:cg σ.mem (.own id) (λ_ _=>some ())=some ():=by simp [cg,hl0]
   have hsrc1:∀{ad:Option Addr},VA g w (.own id) (.slice ad b.ln b.cp)->Src g w τ1 l0 ad:=by
    intro ad hv;obtain⟨τ9,l9,ad9,n9,c9,hk9,e9,hl9,_,hs9⟩:=gi (kk:=λτ l=>some (Sigma.mk τ l)) (res:=(Sigma.mk τ1 l0:(τ:Ty)×List τ.T)) h.mem hv (by simp [cg,hl0]);cases hk9;cases e9;exact pV hs9
   cases hxv with
   |own _ b' ad hm' hk' h0'=>
    rw[hm] at hm';cases hm';have hsrc1:=hsrc1 (VA.own id b ad hm hk' h0');rw[hlen.1] at fin hxe;by_cases hne:ys= []
    ·subst hne
     have hrw:=h.rewrite (w':=w) (b':=b) (y:= .row τ1 (l0++ [])) hl0 rfl hm (Nat.le_refl _) ⟨rfl,rfl,rfl⟩ (λ_ _ _=>rfl) (λq hq=>⟨.inl hq,h.blk id b q hm hq⟩) (λhH=>by
      simp only[List.append_nil];exact hbr.mono (cr.refl _ _) (λ_ _=>rfl) ⟨λ_ h=>h,λi b1 hb1=>by
       show(if i=id then some b else g.m i)=some b1;split
       ·rename_i e1;subst e1;rw[hm] at hb1;exact hb1
       ·exact hb1⟩)
     refine fin (by simpa using n_ (P:=P) (w:=w) T.und hj (ad:=ad) (ad2:=ad2) (n1:=l0.length) (c1:=b.cp) (c2:=c2) hlen.2.1 o.type) hrw ?_ hs;have:=VA.own (g:=g.set id b) (w:=w) id b ad (by simp [Gh.set]) hk' h0';rwa[hlen.1] at this
    ·by_cases hroom:l0.length+ys.length<=b.cp
     ·
      have hyp:0<ys.length:=List.length_pos_iff.2 hne;obtain⟨h1,h2,h3⟩:=hbr;rcases h3 with⟨_,_,h3⟩ |⟨q,cs,ec,hb,hh,hcs,hl',ho,ha⟩
      ·omega
      ·have had:=hk' q hb
       subst had;obtain⟨bk2,of2,vs,rfl,hvl,hvc,hve⟩:=hsrc2 hne;have hfit:l0.length*τ1.n+vs.length<=cs.size:=by rw[hvl,hcs,<-Nat.add_mul];exact Nat.mul_le_mul_right _ hroom
       obtain⟨new,hnew⟩:∃new,new=(cs.toList.take (l0.length*τ1.n)++vs++cs.toList.drop (l0.length*τ1.n+vs.length)).toArray:=⟨_,rfl⟩;have hrun:(Builtin.append_ #[t,t] o.type #[.slice (some ⟨q,0,none⟩) l0.length b.cp, .slice (some ⟨bk2,of2,none⟩) ys.length c2]).run P w= .ok (.slice (some ⟨q,0,none⟩) (l0.length+ys.length) b.cp) (w.setRow q new):=by
        have hf:=run_firstCells_some (P:=P) w i2.size ys.length ⟨bk2,of2,none⟩ ys.length c2 vs (by rw[hvl,hjs]) (λj u hu=>by rw[da];exact hvc j u hu);have hst:=run_storeCells_at P q (l0.length*i2.size) ec vs 0 cs w hh (by rw[hjs];simpa using hfit) (hve.one hvl);simp only[Nat.add_zero] at hst;rw[hnew];rw[hjs] at hst hf;simp [Builtin.append_,run_underlying T.und,sizeOf,typeInfo,hj,Builtin.lenOf,hroom,hjs,hf,Addr.add_lit,hst]
       obtain⟨f1,f2,f3,f4,f5⟩:=gH w q new;obtain⟨b2,hb2⟩:∃b2:Gb,b2=⟨b.blk,l0.length+ys.length,b.cp,b.sz,b.val⟩:=⟨_,rfl⟩;have hnl:new.size=cs.size:=by rw[hnew];simp;omega
       have hrw:=h.rewrite (w':=w.setRow q new) (b':=b2) (y:= .row τ1 (l0++ys)) hl0 rfl hm (by rw[f4];exact Nat.le_refl _) ⟨f1,f2,f3⟩ (λj hj hne'=>f5 j (λe'=>hne' (by rw[e'];exact hb))) (λp hp=>by
        rw[hb2] at hp;exact⟨.inl hp,by rw[f4];exact h.blk id b p hm hp⟩) (λhH=>by
        have hle:∀{x v},nL x=true->VA g w x v->VA (g.set id b2) (w.setRow q new) x v:=λhp hv=>(hv.pure (g':=⟨g.S,λ_=>none⟩) hp (λ_ h=>h)).mono hH ⟨λ_ h=>h,λ_ _ h=>by cases h⟩
        refine⟨by rw[hb2];exact h1,by rw[hb2];simp, .inr ⟨q,new,ec,by rw[hb2];exact hb,setRow_heap w q cs _ ec _ hh,by rw[hnl,hcs,hb2],by rw[hb2];simpa using hroom, ?_, ?_⟩⟩
        ·intro u hu
         rw[hnew] at hu;simp only[List.toList_toArray,List.mem_append] at hu;rcases hu with(hu|hu) |hu
         ·exact ho u (List.mem_of_mem_take hu)
         ·exact hve.one hvl u hu
         ·exact ho u (List.mem_of_mem_drop hu)
        ·have hold:dv g w τ1 l0 (cs.toList.take (l0.length*τ1.n)):=by
          intro i x j y hx hy;obtain⟨v,hv,hr⟩:=ha i x j y hx hy;have hi:i<l0.length:=(List.getElem?_eq_some_iff.1 hx).1;have hjj:j<τ1.n:=by rw[<-cU τ1 x];exact(List.getElem?_eq_some_iff.1 hy).1
          have:i*τ1.n+j<l0.length*τ1.n:=by
           calc i*τ1.n+j<i*τ1.n+τ1.n:=by omega
            _=(i+1)*τ1.n:=by rw[Nat.succ_mul]
            _<=l0.length*τ1.n:=Nat.mul_le_mul_right _ hi
          exact⟨v,by rw[List.getElem?_take_of_lt this];simpa using hv,hr⟩
         have htk:(cs.toList.take (l0.length*τ1.n)).length=l0.length*τ1.n:=by simp;omega
         intro i x j y hx hy;obtain⟨v,hv,hr⟩:=((hold.append htk hve).more (cs.toList.drop (l0.length*τ1.n+vs.length))) i x j y hx hy;exact⟨v,by rw[hnew];simpa using hv,hle (c_ _ _ _ _ hy) hr⟩)
       refine fin hrun hrw ?_ hs;have:=VA.own (g:=g.set id b2) (w:=w.setRow q new) id b2 (some ⟨q,0,none⟩) (by simp [Gh.set]) (λp hp=>by rw[hb2] at hp;exact hk' p hp) (λhn=>by rw[hb2] at hn;rw[hb] at hn;cases hn);rw[hb2] at this⊢;exact this
     ·
      obtain⟨w1,cap,cs,hr,hh,e1,e2,e3,hsz,hcap,hone,hel⟩:=uj (P:=P) (g:=g) (w:=w) T.und hj hjs hjb T2 (l:=l0) (ys:=ys) (ad:=ad) (ad2:=ad2) (c1:=b.cp) (c2:=c2) hsrc1 hsrc2 (λhn=>by
       cases hbk:b.blk with
       |none=>exact(h0' hbk).1
       |some q=>have:=hk' q hbk;rw[hn] at this;cases this) hne (by omega) hlim o.type
      obtain⟨b2,hb2⟩:∃b2:Gb,b2=⟨some w.heap.size,l0.length+ys.length,cap,τ1.n,b.val⟩:=⟨_,rfl⟩;have hb':=Below.push hh e1 e2 e3;have hrw:=h.rewrite (w':=w1) (b':=b2) (y:= .row τ1 (l0++ys)) hl0 rfl hm hb'.size ⟨e1,e2,e3⟩ (λj hj _=>hb'.block j hj) (λp hp=>by
       rw[hb2] at hp;cases hp;exact⟨.inr (Nat.le_refl _),by rw[hh];simp⟩) (λhH=>by
       have hle:∀{x v},nL x=true->VA g w x v->VA (g.set id b2) w1 x v:=λhp hv=>(hv.pure (g':=⟨g.S,λ_=>none⟩) hp (λ_ h=>h)).mono hH ⟨λ_ h=>h,λ_ _ h=>by cases h⟩
       refine⟨by rw[hb2],by rw[hb2];simp, .inr ⟨w.heap.size,cs,e,by rw[hb2],o4 hh,by rw[hb2];exact hsz,by rw[hb2];simpa using hcap,hone, ?_⟩⟩;intro i x j y hx hy;obtain⟨v,hv,hr⟩:=hel i x j y hx hy;exact⟨v,by simpa using hv,hle (c_ _ _ _ _ hy) hr⟩)
      refine fin hr hrw ?_ hs;have:=VA.own (g:=g.set id b2) (w:=w1) id b2 (some ⟨w.heap.size,0,none⟩) (by simp [Gh.set]) (λp hp=>by rw[hb2] at hp;cases hp;rfl) (λhn=>by rw[hb2] at hn;cases hn);rw[hb2] at this⊢;exact this
  ·simp at hs
 case sub id off m=>
  split at hs
  ·rename_i τ1 l0 hl0
   rcases a_ hs with⟨hble,hs⟩ |⟨_,hs⟩
   ·have hble:=Nat.le_of_ble_eq_true hble
    obtain⟨l,hl,hs1⟩:=bo hs;clear hs;obtain⟨e9,hll⟩:=ei hl;clear hl;subst e9;simp only at hll;subst hll;obtain⟨b,hm,hbr⟩:=h.mem id _ hl0;have hlen:=hbr.len;cases hxv with
    |sub _ _ _ b' ad cc hm' hl' hc hk=>
     rw[hm] at hm';cases hm';by_cases hne:ys= []
     ·subst hne
      have e5:l0.take (off+m)++([] ++l0.drop (off+m+([] :List τ1.T).length))=l0:=by simp
      rw[e5] at hs1;exact fin (by simpa using n_ (P:=P) (w:=w) T.und hj (ad:=ad) (ad2:=ad2) (n1:=m) (c1:=cc) (c2:=c2) (by omega) o.type) (h.same hl0) (VA.sub id off m b ad cc hm hl' hc hk) hs1
     ·have hyp:0<ys.length:=List.length_pos_iff.2 hne
      obtain⟨q,hb,had⟩:=hk (by omega);subst had;obtain⟨h1,h2,h3⟩:=hbr;rcases h3 with⟨h3,_⟩ |⟨q',cs,ec,hb',hh,hcs,hl'',ho,ha⟩
      ·rw[hb] at h3;cases h3
      ·have hqq:q=q':=by rw[hb] at hb';exact Option.some.inj hb'
       subst hqq;obtain⟨bk2,of2,vs,rfl,hvl,hvc,hve⟩:=hsrc2 hne;have hlc:l0.length*τ1.n<=cs.toList.length:=by simp [hcs];exact Nat.mul_le_mul_right _ hl''
       have hfit:(off+m)*τ1.n+vs.length<=cs.size:=by
        have:(off+m+ys.length)*τ1.n<=l0.length*τ1.n:=Nat.mul_le_mul_right _ hble;rw[hvl];rw[Nat.add_mul] at this;simp at hlc;omega
       have hroom:m+ys.length<=cc:=by omega
       have hrun:(Builtin.append_ #[t,t] o.type #[.slice (some ⟨q,off*b.sz,none⟩) m cc, .slice (some ⟨bk2,of2,none⟩) ys.length c2]).run P w= .ok (.slice (some ⟨q,off*b.sz,none⟩) (m+ys.length) cc) (w.setRow q (cE cs.toList ((off+m)*τ1.n) vs).toArray):=by
        have hf:=run_firstCells_some (P:=P) w i2.size ys.length ⟨bk2,of2,none⟩ ys.length c2 vs (by rw[hvl,hjs]) (λj u hu=>by rw[da];exact hvc j u hu);have hst:=run_storeCells_at P q ((off+m)*i2.size) ec vs 0 cs w hh (by rw[hjs];simpa using hfit) (hve.one hvl);simp only[Nat.add_zero] at hst;rw[fO _ _ _ (by simpa using hfit)];rw[hjs] at hst hf;rw[h1];rw[Nat.add_mul] at hst⊢;simp [Builtin.append_,run_underlying T.und,sizeOf,typeInfo,hj,Builtin.lenOf,hroom,hjs,hf,Addr.add_lit,da,hst]
       have he:dv g w τ1 l0 cs.toList:=λi x p y hx hy=>by
        obtain⟨v,hv,hr⟩:=ha i x p y hx hy;exact⟨v,by simpa using hv,hr⟩
       have hspl:=he.CC hve hvl (off:=off+m) hble hlc;refine fin hrun (h.zp (new:=(cE cs.toList ((off+m)*τ1.n) vs).toArray) hl0 hm hb hh ⟨h1,h2, .inr ⟨q,cs,ec,hb,hh,hcs,hl'',ho,ha⟩⟩ ?_ ?_ ?_ (by simpa using hspl)) (VA.sub id off (m+ys.length) b _ cc hm (by omega) hc (λ_=>⟨q,hb,rfl⟩)) hs1
       ·simp;omega
       ·simp [fj]
       ·simpa using lT (by simpa using hfit) ho (hve.one hvl)
   ·simp at hs
  ·simp at hs
theorem D5 {t e:TypeId} {i:TypeInfo} {q off cs_n dl dc:Nat} {cs:Array Value} {ec:TypeId} {ad2:Option Addr} {sl sc:Nat} {vs:List Value} (ht:P.underlying t=some (.slice e)) (hj:P.info? e=some i)
 (hh:w.heap[q]? =some (.cells cs ec (0,0))) (hvl:vs.length=Nat.min sl dl*i.size) (hvs:vs≠ [] ->∃b,ad2=some b/\∀j u,vs[j]? =some u->w.cell? (b.add j)=some u) (hfit:off+vs.length<=cs.size) (ho:∀u∈vs,u.oneCell'=true) (ty:TypeId):
 (Builtin.copy_ #[t,t] ty #[.slice (some ⟨q,off,none⟩) dl dc, .slice ad2 sl sc]).run P w= .ok (goInt (Nat.min sl dl)) (w.setRow q (cE cs.toList off vs).toArray):=by
 have hst:=run_storeCells_at P q off ec vs 0 cs w hh (by simpa using hfit) ho;simp only[Nat.add_zero] at hst;have hfc:(Builtin.firstCells i.size (Nat.min sl dl) (.slice ad2 sl sc)).run P w= .ok vs.toArray w:=by
  by_cases hne:vs= []
  ·subst hne
   simp at hvl;cases ad2 with
   |none=>simp [Builtin.firstCells]
   |some b=>simp [Builtin.firstCells,Nat.mul_comm,<-hvl,loadCells,loadCellsFrom]
  ·obtain⟨b,rfl,hb⟩:=hvs hne
   exact run_firstCells_some (P:=P) w i.size (Nat.min sl dl) b sl sc vs hvl hb
 rw[fO _ _ _ (by simpa using hfit)];simp [Builtin.copy_,run_underlying ht,Builtin.lenOf,run_sizeOf hj,hfc,hst]
theorem JN (h:Rel P base w0 S0 N D sv g σ a w) (hN:c.N=N) (hF:bP F) {K:Act->World->Prop} {Q:Exit->Act->World->Prop} (hK:∀g' σ' a' w',k σ'=some res->Rel P base w0 S0 N D sv g' σ' a' w'->K a' w') {id:Nat} {τ:Ty} {l l':List τ.T} {b:Gb} {q:Nat} {cs:Array Value} {ec:TypeId}
 (hl:look id σ.mem=some (.row τ l)) (hm:g.m id=some b) (hb:b.blk=some q) (hh:w.heap[q]? =some (.cells cs ec (0,0))) (hbr:BR P g w b (.row τ l)) (hll:l'.length=l.length) {new:Array Value} (hnl:new.size=cs.size) (hno:∀u∈new.toList,u.oneCell'=true) (hel:dv g w τ l' new.toList) {nn:Nat}
 (hrun:(execOp a.eval o).run P w= .ok (.value (goInt nn)) (w.setRow q new)) (hd:∀c,o.op≠ .defer c) (hp:(σ.set id (.row τ l')).put c o.dst (.one (.int .i64 nn)) k=some res):o.wpIn F n P a w K Q:=by
 obtain⟨f1,f2,f3,f4,f5⟩:=gH w q new;obtain⟨h1,h2,h3⟩:=hbr;have hset:=h.set (y:= .row τ l') hl rfl hm hb f4 f5 ⟨f1,f2,f3⟩ (λhH=>by
  have hH':=hH g (λj hj e'=>by subst e';exact(h.own id _ b j hl rfl hm hb).2 hj);rcases h3 with⟨h3,_⟩ |⟨q',cs',e',hb',hh',hcs,hl',ho,ha⟩
  ·rw[hb] at h3;cases h3
  ·have:q=q':=by rw[hb] at hb';exact Option.some.inj hb'
   subst this;rw[hh] at hh';cases hh';refine⟨h1,by rw[h2,hll], .inr ⟨q,new,ec,hb,setRow_heap w q cs _ ec _ hh,by rw[hnl,hcs],by rw[hll];exact hl',hno, ?_⟩⟩;intro i x j y hx hy;obtain⟨v,hv,hr⟩:=hel i x j y hx hy;exact⟨v,by simpa using hv,hr.mono hH' (Gh.le.refl g)⟩)
 obtain⟨σ2,hk,hr2⟩:=hset.put (v:=goInt nn) hN (x:= .one (.int .i64 nn)) (VA.int _ _) hp;exact bK hF hd hrun (hK _ _ _ _ hk hr2)
end
section
variable {P:Program} [aD P] {F:Fence} {n:Nat} {c:Cfg} {g g':Gh} {r:cj} {m:Mem} {a:Act} {w w':World} {o:Oper} {R:Type} {k:St->Option R} {res:R}
variable {base:Nat} {w0:World} {S0:Nat->Prop} {N:Nat} {D:Wt} {sv:Nat->Value} {σ:St}
theorem B6 {t e:TypeId} {i:TypeInfo} {ad ad2:Option Addr} {dl dc sl sc:Nat} (ht:P.underlying t=some (.slice e)) (hj:P.info? e=some i) (h0:Nat.min sl dl=0) (ty:TypeId):
 (Builtin.copy_ #[t,t] ty #[.slice ad dl dc, .slice ad2 sl sc]).run P w= .ok (goInt 0) w:=by
 have hfc:(Builtin.firstCells i.size 0 (.slice ad2 sl sc)).run P w= .ok #[] w:=by
  cases ad2<;>simp [Builtin.firstCells,loadCells,loadCellsFrom]
 cases ad<;>simp [Builtin.copy_,run_underlying ht,Builtin.lenOf,run_sizeOf hj,h0,hfc,storeCells]
theorem TG (h:Rel P base w0 S0 N D sv g σ a w) (C:aE P c) (hN:c.N=N) (hF:bP F) {K:Act->World->Prop} {Q:Exit->Act->World->Prop} (hK:∀g' σ' a' w',k σ'=some res->Rel P base w0 S0 N D sv g' σ' a' w'->K a' w') {t e:TypeId} {x y:Operand}
 (hop:o.op= .call {callee:= .builtin .copy,args:= #[x,y],argTypes:= #[t,t]}) {ti:TI} {τ0:Ty} (hti:c.ti t=some ti) (htk:ti.k= .slice τ0 e) {px py:At} (hx:evA c σ.az t x=some px) (hy:evA c σ.az t y=some py)
 (hs0:cg σ.mem py (λτ' src=>B2 c o σ τ0 px τ' src k)=some res):o.wpIn F n P a w K Q:=by
 obtain⟨i,d,T⟩:=C.ts t ti hti;obtain⟨rfl,j,hj,hjs,hjb⟩:=T.slice htk;have E:=h.env C [x,y];have hxv:=E.evA (x:=x) (by simp) hx;have hyv:=E.evA (x:=y) (by simp) hy;generalize hxe:a.eval x=vx at hxv;generalize hye:a.eval y=vy at hyv;obtain⟨τ',src0,ad2,m2,c2,hs1,rfl,hm2, -,hsrc2⟩:=gi h.mem hyv hs0;clear hs0;subst hm2;have hsrc2:=pV hsrc2;have e1:(#[x,y].map a.eval)= #[vx, .slice ad2 src0.length c2]:=by simp [hxe,hye]
 have key:∀{id off len:Nat} {τ:Ty} {l:List τ.T} {src:List τ.T} {b:Gb} {ad:Option Addr} {cp:Nat},look id σ.mem=some (.row τ l)->τ.n=τ0.n->(src.length=src0.length/\Src g w τ src ad2)->g.m id=some b->off+len<=l.length->vx= .slice ad len cp->
  (len≠0->∃q,b.blk=some q/\ad=some ⟨q,off*τ.n,none⟩)->(σ.set id (.row τ (l.take off++(src.take len++(l.drop off).drop (min src.length len))))).put c o.dst (.one (.int .i64 (min src.length len:Nat))) k=some res->o.wpIn F n P a w K Q:=by
  intro id off len τ l src b ad cp hl hn hss hm hle hvx hbk hp;obtain⟨hsl,hsrc⟩:=hss;have hbr:BR P g w b (.row τ l):=by
   obtain⟨b',hm',hbr⟩:=h.mem id _ hl;rw[hm] at hm';cases hm';exact hbr
  rw[hvx,<-hsl] at e1;by_cases h0:Nat.min src.length len=0
  ·have e2:l.take off++(src.take len++(l.drop off).drop (min src.length len))=l:=by
    have:src.take len= [] :=by
     have:(src.take len).length=0:=by rw[List.length_take,Nat.min_comm];exact h0
     exact List.length_eq_zero_iff.1 this
    have h0':min src.length len=0:=h0;rw[this,h0'];simp
   rw[e2] at hp;have h0':min src.length len=0:=h0;rw[h0'] at hp;obtain⟨σ2,hk,hr2⟩:=(h.same hl).put (v:=goInt 0) hN (x:= .one (.int .i64 0)) (VA.int _ _) hp;refine bK hF (by simp [hop]) ?_ (hK _ _ _ _ hk hr2);simp only[execOp,hop,resolve,Sem.run_bind,Sem.run_pure,Result.andThen_ok,invoke,builtin,e1,B6 (P:=P) (w:=w) T.und hj h0]
  ·have hpos:0<min src.length len:=Nat.pos_of_ne_zero h0
   have hne:src≠ [] :=by intro e;subst e;simp at hpos
   obtain⟨q,hb,had⟩:=hbk (by omega);obtain⟨bk2,of2,vs,hadd,hvl,hvc,hve⟩:=hsrc hne;have h3:=hbr.2.2;rcases h3 with⟨h3,_⟩ |⟨q',cs,ec,hb',hh,hcs,hl',ho,ha⟩
   ·rw[hb] at h3;cases h3
   ·have hqq:q=q':=by rw[hb] at hb';exact Option.some.inj hb'
    subst hqq;have hsize:j.size=τ.n:=by rw[hjs,hn]
    have hmin:min src.length len<=src.length:=Nat.min_le_left _ _;have hmin2:min src.length len<=len:=Nat.min_le_right _ _;have hlc:l.length*τ.n<=cs.toList.length:=by simp [hcs];exact Nat.mul_le_mul_right _ hl'
    have htl:(src.take len).length=min src.length len:=by rw[List.length_take,Nat.min_comm]
    have hvs':(vs.take (len*τ.n)).length=(src.take len).length*τ.n:=by
     rw[htl,List.length_take,hvl];rcases Nat.le_total src.length len with hc|hc
     ·rw[Nat.min_eq_left hc,Nat.min_eq_right (Nat.mul_le_mul_right _ hc)]
     ·rw[Nat.min_eq_right hc,Nat.min_eq_left (Nat.mul_le_mul_right _ hc)]
    have hfit:off*τ.n+(vs.take (len*τ.n)).length<=cs.size:=by
     have:(off+min src.length len)*τ.n<=l.length*τ.n:=Nat.mul_le_mul_right _ (by omega);rw[hvs',htl];rw[Nat.add_mul] at this;simp at hlc;omega
    have hel:dv g w τ (src.take len) (vs.take (len*τ.n)):=hve.take len;have hone:∀u∈vs.take (len*τ.n),u.oneCell'=true:=hel.one hvs';have hrun:=D5 (P:=P) (w:=w) (cs_n:=0) (q:=q) (off:=off*τ.n) (dl:=len) (dc:=cp) (cs:=cs) (ec:=ec) (ad2:=ad2) (sl:=src.length) (sc:=c2) (vs:=vs.take (len*τ.n)) T.und hj hh (by rw[hvs',htl,hsize]) (λ_=>⟨_,hadd,λp u hu=>by
     rw[da];refine hvc p u ?_;rw[List.getElem?_take] at hu;split at hu
     ·exact hu
     ·cases hu⟩) hfit hone o.type
    have hcs':∀u∈cs.toList,u.oneCell'=true:=ho;have he:dv g w τ l cs.toList:=λi x p y hx hy=>by
     obtain⟨v,hv,hr⟩:=ha i x p y hx hy;exact⟨v,by simpa using hv,hr⟩
    have hspl:=he.CC hel hvs' (off:=off) (by rw[htl];omega) hlc;rw[htl] at hspl;rw[List.drop_drop] at hp;refine JN h hN hF hK (l':=l.take off++(src.take len++l.drop (off+min src.length len))) hl hm hb hh hbr ?_ (new:=(cE cs.toList (off*τ.n) (vs.take (len*τ.n))).toArray) ?_ ?_ (by simpa using hspl) (nn:=min src.length len) ?_ (by simp [hop]) hp
    ·simp;omega
    ·simp [fj]
    ·simpa using lT (by simpa using hfit) hcs' hone
    ·simp only[execOp,hop,resolve,Sem.run_bind,Sem.run_pure,Result.andThen_ok,invoke,builtin,e1,had,hrun]
 cases px<;>simp only[B2,reduceCtorEq] at hs1
 case own id=>
  split at hs1
  ·rename_i τ l hl
   split at hs1
   ·rename_i hn
    have hn:=Nat.eq_of_beq_eq_true hn;obtain⟨src,hcast,hs⟩:=bo hs1;obtain⟨e9,hys⟩:=ei hcast;subst e9;simp only at hys;subst hys;cases hxv with
    |own _ b ad hm hk h0=>
     have hbr:BR P g w b (.row τ' l):=by
      obtain⟨b',hm',hbr⟩:=h.mem id _ hl;rw[hm] at hm';cases hm';exact hbr
     have hlen:=hbr.len;refine key (off:=0) (len:=l.length) (b:=b) (ad:=ad) (cp:=b.cp) hl hn ⟨rfl,hsrc2⟩ hm (by omega) (by rw[hlen.1]) (λhne=> ?_) ?_
     ·cases hbk:b.blk with
      |none=>have:=(h0 hbk).2;omega
      |some q=>exact⟨q,rfl,by rw[hk q hbk];simp⟩
     ·simp only[List.take_zero,List.nil_append,List.drop_zero]
      have e3:l.drop (min src0.length l.length)=l.drop src0.length:=by
       rcases Nat.le_total src0.length l.length with hc|hc
       ·rw[Nat.min_eq_left hc]
       ·rw[Nat.min_eq_right hc,List.drop_of_length_le hc,List.drop_length]
      rw[e3];exact hs
   ·simp at hs1
  ·simp at hs1
 case sub id off len=>
  split at hs1
  ·rename_i τ l hl
   split at hs1
   ·rename_i hn
    have hn:=Nat.eq_of_beq_eq_true hn;rcases a_ hs1 with⟨hle,hs1⟩ |⟨_,hs1⟩
    rotate_left
    ·cases hs1
    have hle:=Nat.le_of_ble_eq_true hle;obtain⟨src,hcast,hs⟩:=bo hs1;obtain⟨e9,hys⟩:=ei hcast;subst e9;simp only at hys;subst hys;cases hxv with
    |sub _ _ _ b ad cc hm hl' hc hk=>
     have hbr:BR P g w b (.row τ' l):=by
      obtain⟨b',hm',hbr⟩:=h.mem id _ hl;rw[hm] at hm';cases hm';exact hbr
     have hlen:=hbr.len;refine key (off:=off) (len:=len) (b:=b) (ad:=ad) (cp:=cc) hl hn ⟨rfl,hsrc2⟩ hm hle rfl (λhne=> ?_) hs;obtain⟨q,h1,h2⟩:=hk (by omega);exact⟨q,h1,by rw[h2,hlen.2.2]⟩
   ·simp at hs1
  ·simp at hs1
end
section
variable {P:Program} [aD P] {F:Fence} {n:Nat} {c:Cfg} {g g':Gh} {r:cj} {m:Mem} {a:Act} {w w':World} {o:Oper} {R:Type} {k:St->Option R} {res:R} {xs:List Operand}
variable {base:Nat} {w0:World} {S0:Nat->Prop} {N:Nat} {D:Wt} {sv:Nat->Value} {σ:St}
theorem Dw (h:Rel P base w0 S0 N D sv g σ a w) (C:aE P c) (hN:c.N=N) (hF:bP F) {K:Act->World->Prop} {Q:Exit->Act->World->Prop} (hK:∀g' σ' a' w',k σ'=some res->Rel P base w0 S0 N D sv g' σ' a' w'->K a' w') {t e:TypeId} {q:Nat} {parts:Array (Nat×Operand)}
 (hop:o.op= .buildSlice t q parts) {ti te:TI} {τ:Ty} (hti:c.ti t=some ti) (htk:ti.k= .slice τ e) (hte:c.ti e=some te) {cells:List At} (hsz:q*te.size<=16777216) (hf:qB c σ.az e te.size (mh te.zero.cells q) parts.toList=some cells)
 {l:List τ.T} (hl:mc τ q cells=some l) (hp:(σ.new (.row τ l)).put c o.dst (.one (uV τ q σ.nx)) k=some res):o.wpIn F n P a w K Q:=by
 obtain⟨i,d,T⟩:=C.ts t ti hti;obtain⟨rfl,j,hj,hjs,hjb⟩:=T.slice htk;obtain⟨i2,d2,T2⟩:=C.ts e te hte;obtain rfl:i2=j:=by have:=T2.info;rw[hj] at this;exact(Option.some.inj this).symm
 obtain⟨z,hz,hzs,hzr⟩:=T2.zero;have hzc:=(hzr g w).cells;have hzsz:z.cells.size=te.size:=hzs;have hts:te.size=τ.n:=by rw[<-T2.size,hjs]
 have E:=h.env C (parts.toList.map (·.2));have hrep:=CK hzc q;rw[hzsz] at hrep;obtain⟨out,ho,hoa⟩:=Az E parts.toList _ _ cells (λx hx=>List.mem_map.2 ⟨x,hx,rfl⟩) hrep hf;obtain⟨d1,d2,d3⟩:=rS hl;have hos:out.size=q*τ.n:=by have:=hoa.length;simp at this;omega
 obtain⟨g1,h1,hv⟩:=h.newRow (w':=w.alloc (.cells out e)) (τ:=τ) (l:=l) (cs:=out) (e:=e) (cp:=q) rfl rfl rfl rfl hos (by omega) hoa.one (ve hl hoa);rw[d1] at hv;have hvb:VA g1 (w.alloc (.cells out e)) (uV τ q σ.nx) (.slice (some ⟨w.heap.size,0,none⟩) q q):=by
  cases q with
  |zero=>exact .clip τ [] _ 0 0 0 (λ_ _=>default) rfl (λe=>absurd rfl e) (λi j hi _=>by simp at hi) (λi x j y hx=>by simp at hx)
  |succ q=>exact hv
 obtain⟨σ2,hk,h2⟩:=h1.put hN (x:= .one (uV τ q σ.nx)) hvb hp;refine bK hF (by simp [hop]) ?_ (hK _ _ _ _ hk h2);have hsmall:¬q*i2.size>2^24:=by rw[T2.size];omega
 by_cases h0:q*i2.size=0
 ·have hq:q=0:=by
   rcases Nat.mul_eq_zero.1 h0 with h0|h0
   ·exact h0
   ·rw[hjs] at h0;have:=wP τ;omega
  subst hq;have e2:(parts.map λ(i,x)=>(i,a.eval x)).toList=parts.toList.map λ(i,x)=>(i,a.eval x):=by simp
  have e3:(#[] :Array Value)=madeCells z.cells (0*te.size):=by simp [madeCells,Array.range_zero']
  have:(Instr.buildSlice t 0 (parts.map λ(i,x)=>(i,a.eval x))).run P w= .ok (.slice (some ⟨w.heap.size,0,none⟩) 0 0) (w.alloc (.cells out e)):=by
   rw[<-e3] at ho;rw[<-e2,<-T2.size] at ho;simp only[Nat.zero_mul] at ho;simp [Instr.buildSlice,run_underlying T.und,sizeOf,typeInfo,hj,newRow,Array.range_zero'];simp at ho;simp [ho]
  simp only[execOp,hop,Sem.run_bind,this,Result.andThen_ok];rfl
 ·have:=run_buildSlice (P:=P) w t e q (parts.map λ(i,x)=>(i,a.eval x)) out i2 z T.und hj hz hsmall h0 (by
   have e2:(parts.map λ(i,x)=>(i,a.eval x)).toList=parts.toList.map λ(i,x)=>(i,a.eval x):=by simp
   rw[e2,T2.size];exact ho)
  simp only[execOp,hop,Sem.run_bind,this,Result.andThen_ok];rfl
theorem Fp (h:Rel P base w0 S0 N D sv g σ a w) (C:aE P c) (hN:c.N=N) (hF:bP F) {K:Act->World->Prop} {Q:Exit->Act->World->Prop} (hK:∀g' σ' a' w',k σ'=some res->Rel P base w0 S0 N D sv g' σ' a' w'->K a' w') {t e:TypeId} {x y:Operand}
 (hop:o.op= .makeSlice t x y) {ti te:TI} {τ:Ty} (hti:c.ti t=some ti) (htk:ti.k= .slice τ e) (hte:c.ti e=some te) {κ κ':IntKind} {p q:Int} (hx:evA c σ.az 0 x=some (.int κ p)) (hy:evA c σ.az 0 y=some (.int κ' q)) (h0:0<=p) (hpq:p=q) (hlim:p.toNat<=LIM)
 {z0:τ.T} (hz0:τ.qH te.zero.cells=some z0) (hp:(σ.new (.row τ (List.replicate p.toNat z0))).put c o.dst (.one (.own σ.nx)) k=some res):o.wpIn F n P a w K Q:=by
 subst hpq;obtain⟨i,d,T⟩:=C.ts t ti hti;obtain⟨rfl,j,hj,hjs,hjb⟩:=T.slice htk;obtain⟨i2,d2,T2⟩:=C.ts e te hte;obtain rfl:i2=j:=by have:=T2.info;rw[hj] at this;exact(Option.some.inj this).symm
 obtain⟨z,hz,hzs,hzr⟩:=T2.zero;have hzc:=(hzr g w).cells;have hzsz:z.cells.size=te.size:=hzs;have hts:te.size=τ.n:=by rw[<-T2.size,hjs]
 have E:=h.env C [x,y];have hxv:=E.evA (x:=x) (by simp) hx;have hyv:=E.evA (x:=y) (by simp) hy;generalize hxe:a.eval x=vx at hxv;generalize hye:a.eval y=vy at hyv;cases hxv;cases hyv;have he:=rr τ hz0;have hb:(i2.bytes:Int)*p<=281474976710656:=by
  have h1:i2.bytes*p.toNat<=4096*LIM:=Nat.mul_le_mul hjb hlim;unfold LIM at h1;have h2:p=(p.toNat:Int):=by omega
  rw[h2,<-Int.natCast_mul];omega
 have hrun:=run_make (P:=P) w t e i2 z T.und hj hz κ κ' p p h0 (Int.le_refl _) hb (by unfold LIM at hlim;omega);rw[hjs] at hrun;obtain⟨g1,h1,hv⟩:=h.newRow (w':=w.alloc (.cells (madeCells z.cells (p.toNat*τ.n)) e)) (τ:=τ) (l:=List.replicate p.toNat z0) (cs:=madeCells z.cells (p.toNat*τ.n)) (e:=e) (cp:=p.toNat) rfl rfl rfl rfl (by simp [madeCells]) (by simp) (by
  have:=CK hzc p.toNat;rw[hzsz,hts] at this;exact this.one) (by
  intro i x j y hx hy;have hi:i<p.toNat:=by simpa using(List.getElem?_eq_some_iff.1 hx).1
  have hj:j<τ.n:=by rw[<-cU τ x];exact(List.getElem?_eq_some_iff.1 hy).1
  simp [List.getElem?_replicate,hi] at hx;subst hx;rw[he] at hy;obtain⟨v,hv,hr⟩:=hzc.iF.get hy;refine⟨v, ?_,hr⟩;have:(i+1)*τ.n<=p.toNat*τ.n:=Nat.mul_le_mul_right _ hi;rw[Nat.succ_mul] at this;rw[DY (by omega) (by rw[hzsz,hts];exact wP τ),hzsz,hts,Nat.mul_comm,Nat.mul_add_mod,Nat.mod_eq_of_lt hj];exact hv)
 simp only[List.length_replicate] at hv;obtain⟨σ2,hk,h2⟩:=h1.put hN (x:= .one (.own σ.nx)) hv hp;refine bK hF (by simp [hop]) ?_ (hK _ _ _ _ hk h2);simp only[execOp,hop,hxe,hye,Sem.run_bind,hrun,Result.andThen_ok];rfl
theorem C4:∀{l:List AV} {vs:List Value} {xs:List At},bR (AVR g w) l vs->qP l=some xs->bR (VA g w) xs vs
 | [],_,_,ha,h=>by simp [qP] at h;subst h;cases ha;exact .nil
 |x::l,vs,xs,ha,h=>by
  cases ha with
  |cons h1 h2=>
   unfold qP at h;split at h
   ·simp_all
   ·rename_i x' l' e
    cases e;split at h
    ·rename_i r hr
     cases h;exact .cons h1 (C4 h2 hr)
    ·simp at h
   ·simp at h
theorem GD (h:Rel P base w0 S0 N D sv g σ a w) (C:aE P c) (hN:c.N=N) (hF:bP F) {K:Act->World->Prop} {Q:Exit->Act->World->Prop} (hK:∀g' σ' a' w',k σ'=some res->Rel P base w0 S0 N D sv g' σ' a' w'->K a' w') {f:Nat} {p q:Array Operand}
 (hop:o.op= .makeFunc (.func f) p q) {as bs:List AV} (has:fw c σ.az p.toList [] =some as) (hbs:fw c σ.az q.toList [] =some bs) {as1 bs1:List At} (ha1:qP as=some as1) (hb1:qP bs=some bs1)
 (hp:(σ.new (.clo f as1 bs1)).put c o.dst (.one (.clo σ.nx)) k=some res):o.wpIn F n P a w K Q:=by
 have E:=h.env C (p.toList++q.toList);have h1:=C4 (jS E (λx hx=>by simp only[List.mem_append];exact .inl hx) has) ha1;have h2:=C4 (jS E (λx hx=>by simp only[List.mem_append];exact .inr hx) hbs) hb1;obtain⟨b,hbd⟩:∃b:Gb,b=⟨none,0,0,0, .func (.func f) (p.map a.eval) (q.map a.eval)⟩:=⟨_,rfl⟩;have hle:g.le (g.set σ.nx b):=Gh.tQ (h.fresh (Nat.le_refl _));have hn:=h.new (id:=σ.nx) (Nat.le_refl _) (b:=b) (x:= .clo f as1 bs1) (Below.refl _ _) ⟨by rw[hbd],p.map a.eval,q.map a.eval,by rw[hbd],by simpa using h1.mono λ_ _ k=>k.mono (cr.refl _ _) hle,by simpa using h2.mono λ_ _ k=>k.mono (cr.refl _ _) hle⟩ (λq hq=>by rw[hbd] at hq;cases hq);have hv:VA (g.set σ.nx b) w (.clo σ.nx) (.func (.func f) (p.map a.eval) (q.map a.eval)):=VA.clo σ.nx b f _ _ (by simp [Gh.set]) (by rw[hbd]);obtain⟨σ2,hk,h2⟩:=hn.put hN (x:= .one (.clo σ.nx)) hv hp;refine bK hF (by simp [hop]) ?_ (hK _ _ _ _ hk h2);simp [execOp,hop,Instr.makeFunc]
end
section
variable {P:Program} [aD P] {F:Fence} {n:Nat} {c:Cfg} {g g':Gh} {r:cj} {m:Mem} {a:Act} {w w':World} {o:Oper} {R:Type} {k:St->Option R} {res:R} {xs:List Operand}
variable {base:Nat} {w0:World} {S0:Nat->Prop} {N:Nat} {D:Wt} {sv:Nat->Value} {σ:St}
theorem Kn {α:Type} {n:Nat} {f:Nat->Option α} {y:α} (h:Dl n f=some y):∀q,n<=q->f q=some y:=by
 unfold Dl at h;split at h
 ·rename_i hx
  cases h;exact Classical.choose_spec hx
 ·cases h
theorem yr {α:Type} {n:Nat} {f:Nat->Option α} {y:α} (h:∀q,n<=q->f q=some y):Dl n f=some y:=by
 have hx:∃y,∀q,n<=q->f q=some y:=⟨y,h⟩;unfold Dl;rw[dif_pos hx];have h1:=Classical.choose_spec hx n (Nat.le_refl _);rw[h n (Nat.le_refl _)] at h1;exact h1.symm
theorem Yx (h:Rel P base w0 S0 N D sv g σ a w) (C:aE P c) (hN:c.N=N) (hF:bP F) {K:Act->World->Prop} {Q:Exit->Act->World->Prop} (hK:∀g' σ' a' w',k σ'=some res->Rel P base w0 S0 N D sv g' σ' a' w'->K a' w') {t:TypeId} {x:Operand}
 (hop:o.op= .call {callee:= .builtin .cap,args:= #[x],argTypes:= #[t]}) {ti:TI} {τ0:Ty} {e:TypeId} (hti:c.ti t=some ti) (htk:ti.k= .slice τ0 e) {px:At} (hx:evA c σ.az t x=some px) (hs:RN c o σ px k=some res):o.wpIn F n P a w K Q:=by
 obtain⟨i,d,T⟩:=C.ts t ti hti;obtain⟨rfl,j,hj,hjs,hjb⟩:=T.slice htk;have E:=h.env C [x];have hxv:=E.evA (x:=x) (by simp) hx;generalize hxe:a.eval x=vx at hxv;unfold RN at hs;split at hs
 ·rename_i id
  split at hs
  ·rename_i τ l hl
   obtain⟨b,hm,hbr⟩:=h.mem id _ hl;have hlen:=hbr.len;cases hxv with
   |own _ b' ad hm' hk' h0=>
    rw[hm] at hm';cases hm';have hs1:=Kn hs b.cp (by have:=hlen.2.1;have:=hlen.1;omega);have hle:g.le (g.set σ.nx ⟨none,0,0,0,default⟩):=Gh.tQ (h.fresh (Nat.le_refl _));have hn:=h.new (id:=σ.nx) (Nat.le_refl _) (w':=w) (b:=⟨none,0,0,0,default⟩) (x:= .oE (.own id) b.cp) (Below.refl _ _) ⟨rfl,ad,b.ln,(VA.own id b ad hm hk' h0).mono (cr.refl _ _) hle⟩ (λq hq=>by cases hq);obtain⟨σ2,hk,h2⟩:=hn.put (v:=goInt b.cp) hN (x:= .one (.int .i64 b.cp)) (VA.int _ _) hs1;refine bK hF (by simp [hop]) ?_ (hK _ _ _ _ hk h2);have e1:(#[x].map a.eval)= #[.slice ad b.ln b.cp]:=by simp [hxe]
    simp [execOp,hop,resolve,invoke,builtin,e1,hxe,Builtin.cap_,run_underlying T.und]
  ·simp at hs
 ·rename_i τ l
  split at hs
  rotate_left
  ·simp at hs
  cases hxv with
  |clip _ _ ad len bk of f hl ha hcell hf=>
   subst hl;obtain⟨σ2,hk,h2⟩:=h.put (v:=goInt l.length) hN (x:= .one (.int .i64 l.length)) (VA.int _ _) hs;refine bK hF (by simp [hop]) ?_ (hK _ _ _ _ hk h2);have e1:(#[x].map a.eval)= #[.slice ad l.length l.length]:=by simp [hxe]
   simp [execOp,hop,resolve,invoke,builtin,e1,hxe,Builtin.cap_,run_underlying T.und]
 ·simp at hs
theorem LH {z:Value} {q j:Nat} (hj:j<q*z.cells.size):(Builtin.zeroCells z.cells q).toList[j]? =z.cells.toList[j%z.cells.size]? :=by
 have h0:0<z.cells.size:=by
  rcases Nat.eq_zero_or_pos z.cells.size with h|h
  ·rw[h] at hj;omega
  ·exact h
 have hlt:j%z.cells.size<z.cells.size:=Nat.mod_lt _ h0;simp [Builtin.zeroCells,hj,hlt]
theorem yP {τ:Ty} {z:Value} {zs:List At} {z0:τ.T} (hz0:τ.qH zs=some z0) (hzc:bR (VA g w) zs z.cells.toList) (q:Nat):dv g w τ (List.replicate q z0) (Builtin.zeroCells z.cells q).toList:=by
 intro i x j y hx hy;have he:=rr τ hz0;have hi:i<q:=by simpa using(List.getElem?_eq_some_iff.1 hx).1
 have hj:j<τ.n:=by rw[<-cU τ x];exact(List.getElem?_eq_some_iff.1 hy).1
 simp [List.getElem?_replicate,hi] at hx;subst hx;have hzn:z.cells.size=τ.n:=by
  have:=hzc.length;have h1:=congrArg List.length he;rw[cU] at h1;simp at h1 this;omega
 rw[he] at hy;obtain⟨v,hv,hr⟩:=hzc.iF.get hy;refine⟨v, ?_,hr⟩;have:(i+1)*τ.n<=q*τ.n:=Nat.mul_le_mul_right _ hi;rw[Nat.succ_mul] at this;rw[LH (by rw[hzn];omega),hzn,Nat.mul_comm,Nat.mul_add_mod,Nat.mod_eq_of_lt hj];exact hv
theorem Jb {τ:Ty} {l:List τ.T} {ad:Option Addr} (h:Src g w τ l ad) (cc:Nat):∃vs:List Value,vs.length=l.length*τ.n/\dv g w τ l vs/\(Builtin.firstCells τ.n l.length (.slice ad l.length cc)).run P w.drew= .ok vs.toArray w.drew:=by
 by_cases hne:l= []
 ·subst hne
  refine⟨[],by simp,dv.nil, ?_⟩;cases ad<;>simp [Builtin.firstCells,loadCells,loadCellsFrom]
 ·obtain⟨bk,of,vs,rfl,h1,h2,h3⟩:=h hne
  exact⟨vs,h1,h3,run_firstCells_some (P:=P) w.drew τ.n l.length ⟨bk,of,none⟩ l.length cc vs h1 (λj u hu=>by rw[da];simpa using h2 j u hu)⟩
theorem FF (h:Rel P base w0 S0 N D sv g σ a w) (C:aE P c) (hN:c.N=N) (hF:bP F) {K:Act->World->Prop} {Q:Exit->Act->World->Prop} (hK:∀g' σ' a' w',k σ'=some res->Rel P base w0 S0 N D sv g' σ' a' w'->K a' w') {t t' e:TypeId} {x y:Operand}
 (hop:o.op= .call {callee:= .builtin .append,args:= #[x,y],argTypes:= #[t,t']}) {ti ti' te:TI} {τ:Ty} (hti:c.ti t=some ti) (htk:ti.k= .slice τ e) (hte:c.ti e=some te) {κ0:IntKind} (hti':c.ti t'=some ti') (htk':ti'.k= .int κ0) {px:At} {κ:IntKind} {nn:Int} (hx:evA c σ.az t x=some px) (hy:evA c σ.az t' y=some (.int κ nn))
 {z0:τ.T} (hz0:τ.qH te.zero.cells=some z0) (hs:AF c o σ τ px z0 nn k=some res):o.wpIn F n P a w K Q:=by
 obtain⟨i,d,T⟩:=C.ts t ti hti;obtain⟨rfl,j,hj,hjs,hjb⟩:=T.slice htk;obtain⟨i3,d3,T3⟩:=C.ts t' ti' hti';have e3:=T3.int htk';subst e3;obtain⟨i2,d2,T2⟩:=C.ts e te hte;obtain rfl:i2=j:=by have:=T2.info;rw[hj] at this;exact(Option.some.inj this).symm
 obtain⟨z,hz,hzs,hzr⟩:=T2.zero;have hzc:=(hzr g w).cells;have hzsz:z.cells.size=te.size:=hzs;have hts:te.size=τ.n:=by rw[<-T2.size,hjs]
 have E:=h.env C [x,y];have hxv:=E.evA (x:=x) (by simp) hx;have hyv:=E.evA (x:=y) (by simp) hy;generalize hxe:a.eval x=vx at hxv;generalize hye:a.eval y=vy at hyv;cases hyv;have grow:∀{L:List τ.T} {ad:Option Addr} {cc:Nat},Src g w τ L ad->vx= .slice ad L.length cc->0<=nn->L.length+nn.toNat<=LIM->cc<L.length+nn.toNat->(σ.new (.row τ (L++List.replicate nn.toNat z0))).put c o.dst (.one (.own σ.nx)) k=some res->o.wpIn F n P a w K Q:=by
  intro L ad cc hsrc hvx h0 hlim h2 hs;subst hvx;obtain⟨vs,hvl,hve,hfc⟩:=Jb (P:=P) hsrc cc;obtain⟨need,hneed⟩:∃need,need=L.length+nn.toNat:=⟨_,rfl⟩;have hgr:cc<need:=by omega
  have hfit:need*i2.bytes<=140737488355328:=by
   have:need*i2.bytes<=LIM*4096:=Nat.mul_le_mul (by omega) hjb;unfold LIM at this;omega
  have hgs:=growslice_fits (bytes:=i2.bytes) hgr hfit;have hzo:=xv hzc.one;have hzn:z.cells.size=τ.n:=by rw[hzsz,hts]
  obtain⟨cs,hcs⟩:∃cs:Array Value,cs=vs.toArray++Builtin.zeroCells z.cells nn.toNat++Builtin.zeroCells z.cells (grownCap w need cc e - need):=⟨_,rfl⟩;have hrun:(Builtin.append_ #[t,t'] o.type #[.slice ad L.length cc, .int κ nn]).run P w= .ok (.slice (some ⟨w.heap.size,0,none⟩) need (grownCap w need cc e)) (w.drew.alloc (.cells cs e)):=by
   have w64:IntKind.i64.wrap nn=nn:=by unfold LIM at hlim;simp [IntKind.wrap,IntKind.bits,IntKind.signed];omega
   have l0:¬nn<0:=by omega
   have l1:¬281474976710656<nn*(i2.bytes:Int):=by
    have h3:nn.toNat*i2.bytes<=LIM*4096:=Nat.mul_le_mul (by omega) hjb;unfold LIM at h3;have h4:nn=(nn.toNat:Int):=by omega
    rw[h4,<-Int.natCast_mul];omega
   have l2:¬need<=cc:=by omega
   have l3:¬(9223372036854775807<(need:Int)):=by unfold LIM at hlim;omega
   have l4:¬281474976710656<Builtin.nextslicecap need cc*i2.bytes:=by omega
   have l5:¬(9223372036854775807<(L.length:Int)+max nn 0):=by rw[Int.max_eq_left h0];unfold LIM at hlim;omega
   have hz9:nn.toNat*τ.n=0->Builtin.zeroCells z.cells nn.toNat= #[] :=λh5=>by
    apply Array.eq_empty_of_size_eq_zero;rw[size_zeroCells,hzn];exact h5
   rw[hcs];have hfc':(Builtin.firstCells i2.size L.length (.slice ad L.length cc)).run P w.drew= .ok vs.toArray w.drew:=by rw[hjs];exact hfc
   by_cases h5:nn.toNat*i2.size=0
   ·have h6:=hz9 (by rw[<-hjs];exact h5)
    simp [Builtin.append_,run_underlying T.und,run_underlying T3.und,sizeOf,typeInfo,zeroValue,hj,hz,asInt,asIntOf,w64,l0,l1,l2,l3,l4,l5,<-hneed,Question.forced,hfc',newRow,grownCap,h5,h6]
   ·simp [Builtin.append_,run_underlying T.und,run_underlying T3.und,sizeOf,typeInfo,zeroValue,hj,hz,asInt,asIntOf,w64,l0,l1,l2,l3,l4,l5,<-hneed,Question.forced,hfc',newRow,grownCap,h5]
  have hcap:need<=grownCap w need cc e:=grownCap_ge w need cc e;have hcsz:cs.size=grownCap w need cc e*τ.n:=by
   rw[hcs];simp only[Array.size_append,List.size_toArray,size_zeroCells,hvl,hzn];rw[<-Nat.add_mul,<-Nat.add_mul];congr 1;omega
  have hzel:=yP hz0 hzc nn.toNat;have hcse:dv g w τ (L++List.replicate nn.toNat z0) cs.toList:=by
   rw[hcs];simp only[Array.toList_append];exact(hve.append hvl hzel).more _
  have hone:∀u∈cs.toList,u.oneCell'=true:=by
   intro u hu;rw[hcs] at hu;simp only[Array.toList_append,List.mem_append] at hu;rcases hu with(hu|hu) |hu
   ·exact hve.one hvl u hu
   ·exact hzo _ u hu
   ·exact hzo _ u hu
  have hlen9:(L++List.replicate nn.toNat z0).length=need:=by simp;omega
  obtain⟨g1,h1,hv⟩:=h.newRow (w':=w.drew.alloc (.cells cs e)) (τ:=τ) (l:=L++List.replicate nn.toNat z0) (cs:=cs) (e:=e) (cp:=grownCap w need cc e) rfl rfl rfl rfl hcsz (by rw[hlen9];exact hcap) hone hcse;rw[hlen9] at hv;obtain⟨σ2,hk2,h2⟩:=h1.put hN (x:= .one (.own σ.nx)) hv hs;refine bK hF (by simp [hop]) ?_ (hK _ _ _ _ hk2 h2);have e1:(#[x,y].map a.eval)= #[.slice ad L.length cc, .int κ nn]:=by simp [hxe,hye]
  simp only[execOp,hop,resolve,Sem.run_bind,Sem.run_pure,Result.andThen_ok,invoke,builtin,e1,hrun]
 unfold AF at hs;split at hs
 ·rename_i id off m
  split at hs
  ·rename_i τ1 l cp hl hcp
   rcases a_ hs with⟨h0,hs⟩ |⟨_,hs⟩
   rotate_left
   ·simp at hs
   obtain⟨hlim,hs⟩:=iv hs;rcases a_ hs with⟨h1,hs⟩ |⟨_,hs⟩
   rotate_left
   ·simp at hs
   rcases a_ hs with⟨h2,hs⟩ |⟨_,hs⟩
   rotate_left
   ·simp at hs
   obtain⟨l',hcast,hs⟩:=bo hs;obtain⟨e9,hll⟩:=ei hcast;subst e9;simp only at hll;subst hll;simp only[decide_eq_true_eq] at h0;have h1:=Nat.le_of_ble_eq_true h1;have h2:cp - off<m+nn.toNat:=Nat.le_of_ble_eq_true h2;obtain⟨b,hm,hbr⟩:=h.mem id _ hl;have hcpb:=AO h.mem hcp hm;cases hxv with
   |sub _ _ _ b' ad cc hm' hl' hc hk=>
    have hbb:b=b':=by rw[hm] at hm';exact Option.some.inj hm'
    subst hbb;obtain⟨τ9,l9,ad9,n9,c9,hk9,e9,hl9,_,hs9⟩:=gi (kk:=λτ l=>some (Sigma.mk τ l)) (res:=(Sigma.mk τ1 ((l.drop off).take m):(τ:Ty)×List τ.T)) h.mem (VA.sub id off m b ad cc hm hl' hc hk) (by simp [cg,hl,Nat.ble_eq_true_of_le h1]);cases hk9;cases e9;have hsrc:=pV hs9;have hlm:((l.drop off).take m).length=m:=by simp;omega
    exact grow hsrc (by rw[hlm]) h0 (by rw[hlm];exact hlim) (by rw[hlm];omega) hs
  ·simp at hs
 ·rename_i τ1 l
  rcases a_ hs with⟨h0,hs⟩ |⟨_,hs⟩
  rotate_left
  ·simp at hs
  obtain⟨hlim,hs⟩:=iv hs;obtain⟨l',hcast,hs⟩:=bo hs;obtain⟨e9,hll⟩:=ei hcast;subst e9;simp only at hll;subst hll;simp only[decide_eq_true_eq] at h0;cases hxv with
  |clip _ _ ad len bk of f hlen ha hcell hf=>
   exact grow (pV λhne=>⟨bk,of,f,(ha hne).1,hcell,hf⟩) (by rw[hlen]) (by omega) hlim (by omega) hs
 ·simp at hs
theorem MQ (h:Rel P base w0 S0 N D sv g σ a w) (C:aE P c) (hN:c.N=N) (hF:bP F) {K:Act->World->Prop} {Q:Exit->Act->World->Prop} (hK:∀g' σ' a' w',k σ'=some res->Rel P base w0 S0 N D sv g' σ' a' w'->K a' w') {t e:TypeId} {x y:Operand}
 (hop:o.op= .call {callee:= .builtin .copy,args:= #[x,y],argTypes:= #[t,t]}) {ti:TI} {τ0:Ty} (hti:c.ti t=some ti) (htk:ti.k= .slice τ0 e) {id off len id2 off2 len2:Nat} (hx:evA c σ.az t x=some (.sub id off len)) (hy:evA c σ.az t y=some (.sub id2 off2 len2))
 (hs:Gw c o σ τ0 id off len id2 off2 len2 k=some res):o.wpIn F n P a w K Q:=by
 obtain⟨i,d,T⟩:=C.ts t ti hti;obtain⟨rfl,j,hj,hjs,hjb⟩:=T.slice htk;have E:=h.env C [x,y];have hxv:=E.evA (x:=x) (by simp) hx;have hyv:=E.evA (x:=y) (by simp) hy;generalize hxe:a.eval x=vx at hxv;generalize hye:a.eval y=vy at hyv;unfold Gw at hs;split at hs
 ·rename_i τ l τ2 l2 hl hl2
  split at hs
  ·rename_i hn
   have hn:=Nat.eq_of_beq_eq_true hn;rcases a_ hs with⟨h1,hs⟩ |⟨_,hs⟩
   rotate_left
   ·simp at hs
   rcases a_ hs with⟨h2,hs⟩ |⟨_,hs⟩
   rotate_left
   ·simp at hs
   have h1:=Nat.le_of_ble_eq_true h1;have h2:=Nat.le_of_ble_eq_true h2;obtain⟨l2',hcast,hs⟩:=bo hs;obtain⟨e9,hll⟩:=ei hcast;subst e9;simp only at hll;subst hll;obtain⟨b,hm,hbr⟩:=h.mem id _ hl;have hlen:=hbr.len;cases hxv with
   |sub _ _ _ b' ad cc hm' hl' hc hk=>
    rw[hm] at hm';cases hm';cases hyv with
    |sub _ _ _ b2 ad2 cc2 hm2 hl2' hc2 hk2=>
     have e1:(#[x,y].map a.eval)= #[.slice ad len cc, .slice ad2 len2 cc2]:=by simp [hxe,hye]
     obtain⟨q,hq⟩:∃q,q=min len2 len:=⟨_,rfl⟩;rw[<-hq] at h1 hs;obtain⟨src,hsrcd⟩:∃src,src=(l2.drop off2).take q:=⟨_,rfl⟩;rw[<-hsrcd] at hs;have hsl:src.length=q:=by rw[hsrcd];simp;omega
     have hsrc:Src g w τ2 src ad2:=by
      obtain⟨τ9,l9,ad9,n9,c9,hk9,e9,hl9,_,hs9⟩:=gi (kk:=λτ l=>some (Sigma.mk τ l)) (res:=(Sigma.mk τ2 ((l2.drop off2).take q):(τ:Ty)×List τ.T)) h.mem (VA.sub id2 off2 q b2 ad2 cc2 hm2 (by omega) hc2 hk2) (by simp [cg,hl2,Nat.ble_eq_true_of_le h1]);cases hk9;cases e9;rw[hsrcd];exact pV hs9
     by_cases h0:q=0
     ·have hs0:src= [] :=List.length_eq_zero_iff.1 (by omega)
      have e2:l.take off++(src++l.drop (off+q))=l:=by rw[hs0,h0];simp
      rcases a_ hs with⟨_,hs⟩ |⟨h3,hs⟩
      ·rw[e2] at hs
       rw[h0] at hs;obtain⟨σ2,hk3,hr2⟩:=(h.same hl).put (v:=goInt 0) hN (x:= .one (.int .i64 0)) (VA.int _ _) hs;refine bK hF (by simp [hop]) ?_ (hK _ _ _ _ hk3 hr2);simp only[execOp,hop,resolve,Sem.run_bind,Sem.run_pure,Result.andThen_ok,invoke,builtin,e1,B6 (P:=P) (w:=w) (dl:=len) (sl:=len2) T.und hj (by rw[<-h0,hq])]
      ·rw[h0] at h3
       have:Nat.ble (off+0) l.length=true:=Nat.ble_eq_true_of_le (by omega);rw[this] at h3;cases h3
     ·have hne:src≠ [] :=by intro e;subst e;simp at hsl;omega
      obtain⟨bq,hb,had⟩:=hk (by omega);obtain⟨bk2,of2,vs,hadd,hvl,hvc,hve⟩:=hsrc hne;obtain⟨g1,g2,g3⟩:=hbr;rcases g3 with⟨g3,_⟩ |⟨q',cs,ec,hb',hh,hcs,hl'',ho,ha⟩
      ·rw[hb] at g3;cases g3
      ·have hqq:bq=q':=by rw[hb] at hb';exact Option.some.inj hb'
       subst hqq;have hsize:j.size=τ2.n:=by rw[hjs,hn]
       have hlc:l.length*τ2.n<=cs.toList.length:=by simp [hcs];exact Nat.mul_le_mul_right _ hl''
       have hfit:off*τ2.n+vs.length<=cs.size:=by
        have:(off+q)*τ2.n<=b.cp*τ2.n:=Nat.mul_le_mul_right _ (by omega);rw[hvl,hsl,hcs];rw[Nat.add_mul] at this;exact this
       have hone:=hve.one hvl;have hrun:=D5 (P:=P) (w:=w) (cs_n:=0) (q:=bq) (off:=off*τ2.n) (dl:=len) (dc:=cc) (cs:=cs) (ec:=ec) (ad2:=ad2) (sl:=len2) (sc:=cc2) (vs:=vs) T.und hj hh (by rw[hvl,hsl,hsize,hq]) (λ_=>⟨_,hadd,λp u hu=>by rw[da];exact hvc p u hu⟩) hfit hone o.type;have he:dv g w τ2 l cs.toList:=λi x p y hx hy=>by
        obtain⟨v,hv,hr⟩:=ha i x p y hx hy;exact⟨v,by simpa using hv,hr⟩
       have hexec:(execOp a.eval o).run P w= .ok (.value (goInt (q:Nat))) (w.setRow bq (cE cs.toList (off*τ2.n) vs).toArray):=by
        have hmin:Nat.min len2 len=q:=hq.symm;rw[hmin] at hrun;simp only[execOp,hop,resolve,Sem.run_bind,Sem.run_pure,Result.andThen_ok,invoke,builtin,e1,had,g1,hrun]
       rcases a_ hs with⟨h3,hs⟩ |⟨h3,hs⟩
       ·have h3:=Nat.le_of_ble_eq_true h3
        have hspl:=he.CC hve hvl (off:=off) (by rw[hsl];exact h3) hlc;rw[hsl] at hspl;have hset:=h.zp (l':=l.take off++(src++l.drop (off+q))) (new:=(cE cs.toList (off*τ2.n) vs).toArray) hl hm hb hh ⟨g1,g2, .inr ⟨bq,cs,ec,hb,hh,hcs,hl'',ho,ha⟩⟩ (by simp;omega) (by simp [fj]) (by simpa using lT (by simpa using hfit) ho hone) (by simpa using hspl);obtain⟨σ2,hk3,hr2⟩:=hset.put (v:=goInt (q:Nat)) hN (x:= .one (.int .i64 (q:Nat))) (VA.int _ _) hs;exact bK hF (by simp [hop]) hexec (hK _ _ _ _ hk3 hr2)
       ·have h3:¬off+q<=l.length:=λe=>by rw[Nat.ble_eq_true_of_le e] at h3;cases h3
        obtain⟨bn,hbn⟩:∃bn:Gb,bn=⟨b.blk,off+q,b.cp,b.sz,b.val⟩:=⟨_,rfl⟩;obtain⟨f1,f2,f3,f4,f5⟩:=gH w bq (cE cs.toList (off*τ2.n) vs).toArray;obtain⟨new,hnew⟩:∃new,new=(cE cs.toList (off*τ2.n) vs).toArray:=⟨_,rfl⟩;rw[<-hnew] at f1 f2 f3 f4 f5 hexec;have hnl:new.size=cs.size:=by rw[hnew];simp [fj]
        have hno:∀u∈new.toList,u.oneCell'=true:=by rw[hnew];simpa using lT (by simpa using hfit) ho hone
        have hel:dv g w τ2 (l.take off++src) new.toList:=by
         rw[hnew];simp only[List.toList_toArray];rw[fO _ _ _ (by simpa using hfit)];refine((he.take off).append ?_ hve).more _;simp;rw[Nat.min_eq_left (by omega),Nat.min_eq_left (by
          have:off*τ2.n<=l.length*τ2.n:=Nat.mul_le_mul_right _ h2;simp at hlc;omega)]
        have hll:(l.take off++src).length=off+q:=by simp;omega
        have hrw:=h.E2 (w':=w.setRow bq new) (b':=bn) (y:= .row τ2 (l.take off++src)) (ru id) hl rfl hm (by rw[f4];exact Nat.le_refl _) ⟨f1,f2,f3⟩ (λp hp hne'=>f5 p (λe'=>hne' (by rw[e'];exact hb))) (λp hp=>by
         rw[hbn] at hp;exact⟨.inl hp,by rw[f4];exact h.blk id b p hm hp⟩) (λhH=>by
         have hle:∀{x v},nL x=true->VA g w x v->VA (g.set id bn) (w.setRow bq new) x v:=λhp hv=>(hv.pure (g':=⟨g.S,λ_=>none⟩) hp (λ_ h=>h)).mono hH ⟨λ_ h=>h,λ_ _ h=>by cases h⟩
         refine⟨by rw[hbn];exact g1,by rw[hbn,hll], .inr ⟨bq,new,ec,by rw[hbn];exact hb,setRow_heap w bq cs _ ec _ hh,by rw[hnl,hcs,hbn],by rw[hll,hbn];show off+q<=b.cp;omega,hno, ?_⟩⟩;intro i x p y hx hy;obtain⟨v,hv,hr⟩:=hel i x p y hx hy;exact⟨v,by simpa using hv,hle (c_ _ _ _ _ hy) hr⟩) (λhH x v hv=>hv.Iq hH hm (by rw[hbn]) (by rw[hbn]) (by rw[hbn]) (by rw[hbn]))
        obtain⟨σ2,hk3,hr2⟩:=hrw.put (v:=goInt (q:Nat)) hN (x:= .one (.int .i64 (q:Nat))) (VA.int _ _) hs;exact bK hF (by simp [hop]) hexec (hK _ _ _ _ hk3 hr2)
  ·simp at hs
 ·simp at hs
theorem Qf (h:Rel P base w0 S0 N D sv g σ a w) (C:aE P c) (hN:c.N=N) (hF:bP F) {K:Act->World->Prop} {Q:Exit->Act->World->Prop} (hK:∀g' σ' a' w',k σ'=some res->Rel P base w0 S0 N D sv g' σ' a' w'->K a' w') {t e:TypeId} {x:Operand}
 (hop:o.op= .call {callee:= .builtin .clear,args:= #[x],argTypes:= #[t]}) {ti te:TI} {τ0:Ty} (hti:c.ti t=some ti) (htk:ti.k= .slice τ0 e) (hte:c.ti e=some te) {px:At} (hx:evA c σ.az t x=some px)
 (hs:FC c o σ τ0 te.zero.cells px k=some res):o.wpIn F n P a w K Q:=by
 obtain⟨i,d,T⟩:=C.ts t ti hti;obtain⟨rfl,j,hj,hjs,hjb⟩:=T.slice htk;obtain⟨i2,d2,T2⟩:=C.ts e te hte;obtain rfl:i2=j:=by have:=T2.info;rw[hj] at this;exact(Option.some.inj this).symm
 obtain⟨z,hz,hzs,hzr⟩:=T2.zero;have hzc:=(hzr g w).cells;have hzsz:z.cells.size=te.size:=hzs;have hts:te.size=τ0.n:=by rw[<-T2.size,hjs]
 have E:=h.env C [x];have hxv:=E.evA (x:=x) (by simp) hx;generalize hxe:a.eval x=vx at hxv;unfold FC at hs;split at hs
 ·rename_i id off m
  split at hs
  ·rename_i τ l hl
   split at hs
   ·rename_i hn
    have hn:=Nat.eq_of_beq_eq_true hn;obtain⟨z0,hz0,hs⟩:=bo hs;rcases a_ hs with⟨h1,hs⟩ |⟨_,hs⟩
    rotate_left
    ·simp at hs
    have h1:=Nat.le_of_ble_eq_true h1;obtain⟨b,hm,hbr⟩:=h.mem id _ hl;cases hxv with
    |sub _ _ _ b' ad cc hm' hl' hc hk=>
     rw[hm] at hm';cases hm';have e1:(#[x].map a.eval)= #[.slice ad m cc]:=by simp [hxe]
     by_cases h0:m=0
     ·subst h0
      have e2:l.take off++(List.replicate 0 z0++l.drop (off+0))=l:=by simp
      rw[e2] at hs;obtain⟨σ2,hk2,h2⟩:=(h.same hl).put (v:= .tuple #[]) hN (x:= .tup []) ⟨[],rfl, .nil⟩ hs;refine bK hF (by simp [hop]) ?_ (hK _ _ _ _ hk2 h2);cases ad<;>simp [execOp,hop,resolve,invoke,builtin,e1,hxe,Builtin.clear_,run_underlying T.und]
     ·obtain⟨q,hb,had⟩:=hk (by omega)
      subst had;obtain⟨g1,g2,g3⟩:=hbr;rcases g3 with⟨g3,_⟩ |⟨q',cs,ec,hb',hh,hcs,hl'',ho,ha⟩
      ·rw[hb] at g3;cases g3
      ·have hqq:q=q':=by rw[hb] at hb';exact Option.some.inj hb'
       subst hqq;have hzn:z.cells.size=τ.n:=by rw[hzsz,hts,hn]
       have hvl:(Builtin.zeroCells z.cells m).toList.length=(List.replicate m z0).length*τ.n:=by
        rw[Array.length_toList,size_zeroCells,hzn];simp
       have hlc:l.length*τ.n<=cs.toList.length:=by simp [hcs];exact Nat.mul_le_mul_right _ hl''
       have hfit:off*τ.n+(Builtin.zeroCells z.cells m).toList.length<=cs.size:=by
        have:(off+m)*τ.n<=l.length*τ.n:=Nat.mul_le_mul_right _ h1;rw[hvl];rw[Nat.add_mul] at this;simp at hlc⊢;omega
       have hve:=yP hz0 hzc m;have hone:=hve.one hvl;have hst:=run_storeCells_at P q (off*τ.n) ec (Builtin.zeroCells z.cells m).toList 0 cs w hh (by simpa using hfit) hone;simp only[Nat.add_zero] at hst;have he:dv g w τ l cs.toList:=λi x p y hx hy=>by
        obtain⟨v,hv,hr⟩:=ha i x p y hx hy;exact⟨v,by simpa using hv,hr⟩
       have hspl:=he.CC hve hvl (off:=off) (by simpa using h1) hlc;rw[List.length_replicate] at hspl;have hset:=h.zp (l':=l.take off++(List.replicate m z0++l.drop (off+m))) (new:=(cE cs.toList (off*τ.n) (Builtin.zeroCells z.cells m).toList).toArray) hl hm hb hh ⟨g1,g2, .inr ⟨q,cs,ec,hb,hh,hcs,hl'',ho,ha⟩⟩ (by simp;omega) (by simp [fj]) (by simpa using lT (by simpa using hfit) ho hone) (by simpa using hspl);obtain⟨σ2,hk2,h2⟩:=hset.put (v:= .tuple #[]) hN (x:= .tup []) ⟨[],rfl, .nil⟩ hs;refine bK hF (by simp [hop]) ?_ (hK _ _ _ _ hk2 h2);rw[fO _ _ _ (by simpa using hfit)];simp [execOp,hop,resolve,invoke,builtin,e1,hxe,Builtin.clear_,run_underlying T.und,h0,zeroValue,typeInfo,hj,hz,g1,hst]
   ·simp at hs
  ·simp at hs
 ·simp at hs
end
section
variable {P:Program} [aD P] {F:Fence} {n:Nat} {c:Cfg} {g g':Gh} {r:cj} {m:Mem} {a:Act} {w w':World} {o:Oper} {R:Type} {k:St->Option R} {res:R} {xs:List Operand}
variable {base:Nat} {w0:World} {S0:Nat->Prop} {N:Nat} {D:Wt} {sv:Nat->Value} {σ:St}
theorem O4 (h:Rel P base w0 S0 N D sv g σ a w) (C:aE P c) (hN:c.N=N) (hF:bP F) {K:Act->World->Prop} {Q:Exit->Act->World->Prop} (hK:∀g' σ' a' w',k σ'=some res->Rel P base w0 S0 N D sv g' σ' a' w'->K a' w') {t:TypeId} {x:Operand}
 (hop:o.op= .range t x) {ti:TI} (hti:c.ti t=some ti) (htk:ti.k= .str) {s:Str} (hx:evA c σ.az t x=some (.str s)) (hs:(σ.new (.iter s 0)).put c o.dst (.one (.iter σ.nx)) k=some res):o.wpIn F n P a w K Q:=by
 obtain⟨i,d,T⟩:=C.ts t ti hti;have e:=T.str htk;subst e;have E:=h.env C [x];have hxv:=E.evA (x:=x) (by simp) hx;generalize hxe:a.eval x=vx at hxv;cases hxv with
 |str _ bs hbs=>
  obtain⟨b,hbd⟩:∃b:Gb,b=⟨some w.heap.size,0,0,0,default⟩:=⟨_,rfl⟩;have hb:Below w.heap.size w (w.iter bs 0):=(Below.refl _ _).alloc (Nat.le_refl _) _;have hn:=h.new (id:=σ.nx) (Nat.le_refl _) (w':=w.iter bs 0) (b:=b) (x:= .iter s 0) hb ⟨w.heap.size,bs,by rw[hbd],World.iter_heap w bs 0,hbs⟩ (λq hq=>by
   rw[hbd] at hq;cases hq;exact⟨Nat.le_refl _,by show w.heap.size<(w.heap.push _).size;rw[Array.size_push];omega⟩)
  obtain⟨σ2,hk,h2⟩:=hn.put (v:= .pointer (some ⟨w.heap.size,0,none⟩)) hN (x:= .one (.iter σ.nx)) (VA.iter σ.nx b w.heap.size (by simp [Gh.set]) (by rw[hbd])) hs;refine bK hF (by simp [hop]) ?_ (hK _ _ _ _ hk h2);simp [execOp,hop,hxe,run_range_string w t bs T.und]
theorem SI (h:Rel P base w0 S0 N D sv g σ a w) (C:aE P c) (hN:c.N=N) (hF:bP F) {K:Act->World->Prop} {Q:Exit->Act->World->Prop} (hK:∀g' σ' a' w',k σ'=some res->Rel P base w0 S0 N D sv g' σ' a' w'->K a' w') {x:Operand}
 (hop:o.op= .next x true) {px:At} (hx:evA c σ.az 0 x=some px) (hs:Lj c o σ px k=some res):o.wpIn F n P a w K Q:=by
 have E:=h.env C [x];have hxv:=E.evA (x:=x) (by simp) hx;generalize hxe:a.eval x=vx at hxv;unfold Lj at hs;split at hs
 ·rename_i id
  split at hs
  ·rename_i s pos hl
   obtain⟨b,hm,q,bs,hb,hh,hbs⟩:=h.mem id _ hl;cases hxv with
   |iter _ b' q' hm' hq'=>
    rw[hm] at hm';cases hm';rw[hb] at hq';cases hq';have hsz:bs.size=s.length:=by rw[<-hbs];simp
    have hdec:dJ s pos=Utf8.decode bs pos:=by
     unfold dJ;congr 1;subst hbs;rfl
    rcases a_ hs with⟨h1,hs⟩ |⟨h1,hs⟩
    ·have h1:pos<s.length:=Nat.le_of_ble_eq_true h1
     rw[hdec] at hs;obtain⟨w1,hw1⟩:∃w1:World,w1={w with heap:=w.heap.setIfInBounds q (.stringIter bs (pos+(Utf8.decode bs pos).2))}:=⟨_,rfl⟩;have hqlt:q<w.heap.size:=(Array.getElem?_eq_some_iff.1 hh).1;have hset:=h.set (w':=w1) (y:= .iter s (pos+(Utf8.decode bs pos).2)) hl rfl hm hb (by rw[hw1];simp) (λj hj=>by
      rw[hw1];show(w.heap.setIfInBounds q _)[j]? =_;rw[Array.getElem?_setIfInBounds_ne (Ne.symm hj)]) ⟨by rw[hw1],by rw[hw1],by rw[hw1]⟩ (λ_=>⟨q,bs,hb,by rw[hw1];show(w.heap.setIfInBounds q _)[q]? =_;simp [hqlt],hbs⟩)
     obtain⟨σ2,hk,h2⟩:=hset.put (v:= .tuple #[.bool true, .int .i64 pos, .int .i32 (Utf8.decode bs pos).1]) hN (x:= .tup [.one (.bool true), .one (.int .i64 pos), .one (.int .i32 (Utf8.decode bs pos).1)])
      ⟨[.bool true, .int .i64 pos, .int .i32 (Utf8.decode bs pos).1],rfl, .cons (VA.bool _) (.cons (VA.int _ _) (.cons (VA.int _ _) .nil))⟩ hs
     refine bK hF (by simp [hop]) ?_ (hK _ _ _ _ hk h2);simp [execOp,hop,hxe,Instr.next,getObj,setObj,Sem.run,hh,hsz,h1,hw1,goInt]
    ·have h1:¬pos<s.length:=λe=>by
      have:Nat.blt pos s.length=true:=Nat.ble_eq_true_of_le e;rw[this] at h1;cases h1
     obtain⟨σ2,hk,h2⟩:=h.put (v:= .tuple #[.bool false]) hN (x:= .tup [.one (.bool false)]) ⟨[.bool false],rfl, .cons (VA.bool _) .nil⟩ hs;refine bK hF (by simp [hop]) ?_ (hK _ _ _ _ hk h2);simp [execOp,hop,hxe,Instr.next,getObj,Sem.run,hh,hsz,h1]
  ·simp at hs
 ·simp at hs
end
end Go.Eng
