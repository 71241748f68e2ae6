/- A part of the proofs of the laws of this seat: the engine that reads the program's code, plain functions, or facts of the program's functions. Conditions: none. -/
import Derived.Test.YtkdpombpeoiafaaGreatDoorE2
import Derived.Laws.RangeString
import Derived.MapKept
import Derived.Lib.SliceRun
import Derived.OrdersIn
set_option linter.unusedSectionVars false
set_option linter.unusedVariables false
set_option linter.unusedSimpArgs false
set_option linter.unnecessarySimpa false
set_option linter.unusedSimpArgs false
set_option linter.unusedVariables false
set_option linter.unnecessarySimpa false
namespace Go.Eng
open Go Go.RowKit
section
variable {P:Program} [GlobL P] {F:Fence} {n:Nat} {c:Cfg} {g g':Gh} {r:Regs} {m:Mem} {a:Act} {w w':World} {o:Oper} {R:Type} {k:St→Option R} {res:R} {xs:List Operand}
variable {base:Nat} {w0:World} {S0:Nat→Prop} {N:Nat} {D:Wt} {sv:Nat→Value} {σ:St}
theorem w_range (h:Rel P base w0 S0 N D sv g σ a w) (C:CfgOK P c) (hN:c.N=N) (hF:WideF F) {K:Act→World→Prop} {Q:Exit→Act→World→Prop} (hK:∀g' σ' a' w',k σ'=some res→Rel P base w0 S0 N D sv g' σ' a' w'→K a' w') {t:TypeId} {x:Operand}
 (hop:o.op= .range t x) {ti:TI} (hti:c.ti t=some ti) (htk:ti.k= .str) {s:Str} (hx:evA c σ.regs t x=some (.str s)) (hs:(σ.new (.iter s 0)).put c o.dst (.one (.iter σ.nx)) k=some res):o.wpIn F n P a w K Q:=by
 obtain⟨i,d,T⟩:=C.ts t ti hti;have e:=T.str htk;subst e;have E:=h.env C [x];have hxv:=E.evA (x:=x) (by simp) hx;generalize hxe:a.eval x=vx at hxv;cases hxv with
 |str _ bs hbs=>
  obtain⟨b,hbd⟩:∃b:Gb,b=⟨some w.heap.size,0,0,0,default⟩:=⟨_,rfl⟩;have hb:Below w.heap.size w (w.iter bs 0):=(Below.refl _ _).alloc (Nat.le_refl _) _;have hn:=h.new (id:=σ.nx) (Nat.le_refl _) (w':=w.iter bs 0) (b:=b) (x:= .iter s 0) hb ⟨w.heap.size,bs,by rw[hbd],World.iter_heap w bs 0,hbs⟩ (fun q hq=>by
   rw[hbd] at hq;cases hq;exact⟨Nat.le_refl _,by show w.heap.size<(w.heap.push _).size;rw[Array.size_push];omega⟩)
  obtain⟨σ2,hk,h2⟩:=hn.put (v:= .pointer (some ⟨w.heap.size,0,none⟩)) hN (x:= .one (.iter σ.nx)) (VA.iter σ.nx b w.heap.size (by simp [Gh.set]) (by rw[hbd])) hs;refine wpIn_of_run hF (by simp [hop]) ?_ (hK _ _ _ _ hk h2);simp [execOp,hop,hxe,run_range_string w t bs T.und]
theorem w_next (h:Rel P base w0 S0 N D sv g σ a w) (C:CfgOK P c) (hN:c.N=N) (hF:WideF F) {K:Act→World→Prop} {Q:Exit→Act→World→Prop} (hK:∀g' σ' a' w',k σ'=some res→Rel P base w0 S0 N D sv g' σ' a' w'→K a' w') {x:Operand}
 (hop:o.op= .next x true) {px:At} (hx:evA c σ.regs 0 x=some px) (hs:nextW c o σ px k=some res):o.wpIn F n P a w K Q:=by
 have E:=h.env C [x];have hxv:=E.evA (x:=x) (by simp) hx;generalize hxe:a.eval x=vx at hxv;unfold nextW at hs;split at hs
 ·rename_i id
  split at hs
  ·rename_i s pos hl
   obtain⟨b,hm,q,bs,hb,hh,hbs⟩:=h.mem id _ hl;cases hxv with
   |iter _ b' q' hm' hq'=>
    rw[hm] at hm';cases hm';rw[hb] at hq';cases hq';have hsz:bs.size=s.length:=by rw[←hbs];simp
    have hdec:runeAt s pos=Utf8.decode bs pos:=by
     unfold runeAt;congr 1;subst hbs;rfl
    rcases bcase_some hs with⟨h1,hs⟩ |⟨h1,hs⟩
    ·have h1:pos<s.length:=Nat.le_of_ble_eq_true h1
     rw[hdec] at hs;obtain⟨w1,hw1⟩:∃w1:World,w1={w with heap:=w.heap.setIfInBounds q (.stringIter bs (pos+(Utf8.decode bs pos).2))}:=⟨_,rfl⟩;have hqlt:q<w.heap.size:=(Array.getElem?_eq_some_iff.1 hh).1;have hset:=h.set (w':=w1) (y:= .iter s (pos+(Utf8.decode bs pos).2)) hl rfl hm hb (by rw[hw1];simp) (fun j hj=>by
      rw[hw1];show(w.heap.setIfInBounds q _)[j]? =_;rw[Array.getElem?_setIfInBounds_ne (Ne.symm hj)]) ⟨by rw[hw1],by rw[hw1],by rw[hw1]⟩ (fun _=>⟨q,bs,hb,by rw[hw1];show(w.heap.setIfInBounds q _)[q]? =_;simp [hqlt],hbs⟩)
     obtain⟨σ2,hk,h2⟩:=hset.put (v:= .tuple #[.bool true, .int .i64 pos, .int .i32 (Utf8.decode bs pos).1]) hN (x:= .tup [.one (.bool true), .one (.int .i64 pos), .one (.int .i32 (Utf8.decode bs pos).1)])
      ⟨[.bool true, .int .i64 pos, .int .i32 (Utf8.decode bs pos).1],rfl, .cons (VA.bool _) (.cons (VA.int _ _) (.cons (VA.int _ _) .nil))⟩ hs
     refine wpIn_of_run hF (by simp [hop]) ?_ (hK _ _ _ _ hk h2);simp [execOp,hop,hxe,Instr.next,getObj,setObj,Sem.run,hh,hsz,h1,hw1,goInt]
    ·have h1:¬pos<s.length:=fun e=>by
      have:Nat.blt pos s.length=true:=Nat.ble_eq_true_of_le e;rw[this] at h1;cases h1
     obtain⟨σ2,hk,h2⟩:=h.put (v:= .tuple #[.bool false]) hN (x:= .tup [.one (.bool false)]) ⟨[.bool false],rfl, .cons (VA.bool _) .nil⟩ hs;refine wpIn_of_run hF (by simp [hop]) ?_ (hK _ _ _ _ hk h2);simp [execOp,hop,hxe,Instr.next,getObj,Sem.run,hh,hsz,h1]
  ·simp at hs
 ·simp at hs
end
end Go.Eng
set_option linter.unusedSimpArgs false
set_option linter.unusedVariables false
set_option linter.unnecessarySimpa false
namespace Go.Eng
open Go Go.RowKit Go.MapKept
section
variable {P:Program} [GlobL P] {F:Fence} {n:Nat} {c:Cfg} {g g':Gh} {r:Regs} {m:Mem} {a:Act} {w w':World} {o:Oper} {R:Type} {k:St→Option R} {res:R}
variable {base:Nat} {w0:World} {S0:Nat→Prop} {N:Nat} {D:Wt} {sv:Nat→Value} {σ:St}
def KeyT (P:Program) (kt:TypeId) (κ:Ty):Prop:=(κ= .int∧P.underlying kt=some (.int .i64))∨(κ= .str∧P.underlying kt=some .string)
theorem keyOf_v {κ:Ty} {x:At} {key:κ.T} {v:Value} (hv:VA g w x v) (h:keyOf κ x=some key):keyV κ key v:=by
 unfold keyOf at h;split at h
 ·cases h;cases hv;rfl
 ·cases h;cases hv with|str _ b e=>exact⟨b,rfl,e⟩
 ·cases h
theorem keyT_d {kt:TypeId} {κ:Ty} (hk:KeyT P kt κ):∃d,P.underlying kt=some d:=by rcases hk with⟨_,h⟩ |⟨_,h⟩<;>exact⟨_,h⟩
theorem keyV_is {kt:TypeId} {κ:Ty} {key:κ.T} {v:Value} {d:TypeDesc} (hk:KeyT P kt κ) (hd:P.underlying kt=some d) (hv:keyV κ key v):IsKey d v:=by
 rcases hk with⟨rfl,hu⟩ |⟨rfl,hu⟩
 ·rw[hu] at hd;cases hd
  have:v= .int .i64 key:=hv;subst this;simp [IsKey]
 ·rw[hu] at hd;cases hd
  obtain⟨b,rfl, -⟩:=hv;simp [IsKey]
theorem bytes_inj {b b':ByteArray}:b.data.toList=b'.data.toList↔b=b':=by
 constructor
 ·intro h;cases b;cases b';simp at h;subst h;rfl
 ·rintro rfl;rfl
theorem sameNow_ok {kt:TypeId} {κ:Ty} {key k':κ.T} {v v':Value} {d:TypeDesc} (hk:KeyT P kt κ) (hd:P.underlying kt=some d) (hv:keyV κ key v) (hv':keyV κ k' v'):Instr.sameNow d v v'=some (keyB κ k' key):=by
 rcases hk with⟨rfl,hu⟩ |⟨rfl,hu⟩
 ·rw[hu] at hd;cases hd
  have e1:v= .int .i64 key:=hv;have e2:v'= .int .i64 k':=hv';subst e1;subst e2;have:((show Int from key)==(show Int from k'))=((show Int from k')==(show Int from key)):=by
   rw[Bool.eq_iff_iff];simp only[beq_iff_eq];exact eq_comm
  simp only[Instr.sameNow,keyB,if_pos rfl];exact congrArg some this
 ·rw[hu] at hd;cases hd
  obtain⟨b,rfl,e1⟩:=hv;obtain⟨b',rfl,e2⟩:=hv';simp only[Instr.sameNow,keyB];have:(b==b')=((show Str from k')==(show Str from key)):=by
   rw[Bool.eq_iff_iff,bytes_beq,←bytes_inj,e1,e2];simp only[beq_iff_eq];exact eq_comm
  exact congrArg some this
theorem key_same {kt:TypeId} {κ:Ty} {key k':κ.T} {v v':Value} (hk:KeyT P kt κ) (hv:keyV κ key v) (hv':keyV κ k' v') (h:keyB κ k' key=true):v'=v:=by
 rcases hk with⟨rfl,hu⟩ |⟨rfl,hu⟩
 ·have e1:v= .int .i64 key:=hv
  have e2:v'= .int .i64 k':=hv';have e3:k'=key:=by
   have:((show Int from k')==(show Int from key))=true:=h;exact beq_iff_eq.1 this
  rw[e1,e2,e3]
 ·obtain⟨b,rfl,e1⟩:=hv
  obtain⟨b',rfl,e2⟩:=hv';have e3:(show Str from k')=key:=by
   have:((show Str from k')==(show Str from key))=true:=h;exact beq_iff_eq.1 this
  rw[bytes_inj.1 (e2.trans (e3.trans e1.symm))]
theorem findNow_ok {kt:TypeId} {κ τ:Ty} {key:κ.T} {v:Value} {d:TypeDesc} {ag:Bool} (hk:KeyT P kt κ) (hd:P.underlying kt=some d) (hv:keyV κ key v):
 ∀{l:List (κ.T×τ.T×Nat)} {es:List MapEntry} (i:Nat),All2 (EntR g w ag) l es→
  (∃(j:Nat) (x:κ.T×τ.T×Nat) (e:MapEntry),l[j]? =some x∧es[j]? =some e∧keyB κ x.1 key=true∧(∀(i':Nat) (x':κ.T×τ.T×Nat),i'<j→l[i']? =some x'→keyB κ x'.1 key=false)∧Instr.findNow d v es i=some (some (i+j,e.val)))∨
  ((∀x∈l,keyB κ x.1 key=false)∧Instr.findNow d v es i=some none)
 | [], [],i, .nil=> .inr ⟨fun x hx=>by simp at hx,rfl⟩
 |x::l,e::es,i, .cons hx ht=>by
  have h1:=sameNow_ok hk hd hv hx.1;cases hb:keyB κ x.1 key with
  |true=>
   refine .inl ⟨0,x,e,rfl,rfl,hb,fun i' x' h=>by omega, ?_⟩;simp [Instr.findNow,h1,hb]
  |false=>
   rcases findNow_ok hk hd hv (i+1) ht with⟨j,x',e',h2,h3,h4,h5,h6⟩ |⟨h2,h3⟩
   ·refine .inl ⟨j+1,x',e',by simpa using h2,by simpa using h3,h4,fun i' x'' hi hx''=> ?_, ?_⟩
    ·cases i' with
     |zero=>simp at hx'';subst hx'';exact hb
     |succ i'=>exact h5 i' x'' (by omega) (by simpa using hx'')
    ·simp only[Instr.findNow,h1,hb,h6]
     congr 2;congr 1;omega
   ·refine .inr ⟨fun y hy=> ?_, ?_⟩
    ·rcases List.mem_cons.1 hy with rfl|hy
     ·exact hb
     ·exact h2 y hy
    ·simp only[Instr.findNow,h1,hb,h3]
theorem mgetK_ok {κ τ:Ty} {key:κ.T} {kv:τ.T→Nat→Option R} {kn:Option R}:∀{l:List (κ.T×τ.T×Nat)},mgetK key l kv kn=some res→
 (∃(j:Nat) (x:κ.T×τ.T×Nat),l[j]? =some x∧keyB κ x.1 key=true∧(∀(i':Nat) (x':κ.T×τ.T×Nat),i'<j→l[i']? =some x'→keyB κ x'.1 key=false)∧kv x.2.1 x.2.2=some res)∨((∀x∈l,keyB κ x.1 key=false)∧kn=some res)
 | [],h=> .inr ⟨fun x hx=>by simp at hx,h⟩
 |x::l,h=>by
  simp only[mgetK] at h;rcases bcase_some h with⟨hb,h⟩ |⟨hb,h⟩
  ·exact .inl ⟨0,x,rfl,hb,fun i' x' h=>by omega,h⟩
  ·rcases mgetK_ok h with⟨j,x',h1,h2,h3,h4⟩ |⟨h1,h2⟩
   ·refine .inl ⟨j+1,x',by simpa using h1,h2,fun i' x'' hi hx''=> ?_,h4⟩
    cases i' with
    |zero=>simp at hx'';subst hx'';exact hb
    |succ i'=>exact h3 i' x'' (by omega) (by simpa using hx'')
   ·refine .inr ⟨fun y hy=> ?_,h2⟩
    rcases List.mem_cons.1 hy with rfl|hy
    ·exact hb
    ·exact h1 y hy
theorem msetL_found {κ τ:Ty} {key:κ.T} {v:τ.T} {ck:Nat}:∀{l:List (κ.T×τ.T×Nat)} {j:Nat} {x:κ.T×τ.T×Nat},l[j]? =some x→keyB κ x.1 key=true→(∀(i':Nat) (x':κ.T×τ.T×Nat),i'<j→l[i']? =some x'→keyB κ x'.1 key=false)→
 msetL key v ck l=l.set j (x.1,v,x.2.2)∧mckL key ck l=ck
 |y::l,0,x,h1,h2,h3=>by
  simp at h1;subst h1;simp [msetL,mckL,mhasL,h2]
 |y::l,j+1,x,h1,h2,h3=>by
  have h0:=h3 0 y (by omega) rfl;have ih:=msetL_found (v:=v) (ck:=ck) (l:=l) (j:=j) (by simpa using h1) h2 (fun i' x' hi hx'=>h3 (i'+1) x' (by omega) (by simpa using hx'));refine⟨by simp only[msetL,h0,ih.1,List.set_cons_succ], ?_⟩;have:=ih.2;unfold mckL at this⊢;simp only[mhasL,h0];exact this
theorem msetL_none {κ τ:Ty} {key:κ.T} {v:τ.T} {ck:Nat}:∀{l:List (κ.T×τ.T×Nat)},(∀x∈l,keyB κ x.1 key=false)→msetL key v ck l=l++[(key,v,ck)]∧mckL key ck l=ck+1
 | [],_=>⟨rfl,rfl⟩
 |y::l,h=>by
  have h0:=h y (by simp);have ih:=msetL_none (v:=v) (ck:=ck) (l:=l) (fun x hx=>h x (by simp [hx]));refine⟨by simp only[msetL,h0,ih.1,List.cons_append], ?_⟩;have:=ih.2;unfold mckL at this⊢;simp only[mhasL,h0];exact this
theorem mapW_ok (h:Rel P base w0 S0 N D sv g σ a w) (C:CfgOK P c) {t:TypeId} {x i:Operand} {kk:(id:Nat)→(ag:Bool)→(κ τ:Ty)→List (κ.T×τ.T×Nat)→Nat→κ.T→TI→Option R} (hs:mapW c σ t x i kk=some res):
 ∃(id:Nat) (ag:Bool) (κ τ:Ty) (l:List (κ.T×τ.T×Nat)) (ck:Nat) (key:κ.T) (te:TI) (kt e:TypeId) (b:Gb) (q:Nat) (es:Array MapEntry),
  kk id ag κ τ l ck key te=some res∧look id σ.mem=some (.map ag κ τ l ck)∧P.underlying t=some (.map kt e)∧KeyT P kt κ∧c.ti e=some te∧a.eval x= .map (some q)∧keyV κ key (a.eval i)∧
  g.m id=some b∧b.blk=some q∧w.heap[q]? =some (.map es ck)∧All2 (EntR g w ag) l es.toList:=by
 have E:=h.env C [x,i];unfold mapW at hs;split at hs
 ·rename_i ag0 sz z κ τ0 kt e hti
  split at hs
  ·rename_i id ki te hx hi hte
   split at hs
   ·rename_i ag κ' τ l ck hl
    split at hs
    ·rename_i hsame
     split at hs
     ·rename_i key hkey
      obtain⟨i',d,T⟩:=C.ts _ _ hti;obtain⟨rfl,hk, -⟩:=T.map rfl;obtain⟨b,hb,q,es,hq,hh,ha⟩:=h.mem id _ hl;have hxv:a.eval x= .map (some q):=by
       have:=E.evA (by simp) hx;generalize a.eval x=u at this⊢;cases this with
       |mapr _ b' k' hm hk'=>rw[hb] at hm;cases hm;rw[hq] at hk';cases hk';rfl
      have hkt:KeyT P kt κ':=by
       rcases hk with⟨rfl,hu⟩ |⟨rfl,hu⟩
       ·cases κ'<;>simp [sameK] at hsame;exact .inl ⟨rfl,hu⟩
       ·cases κ'<;>simp [sameK] at hsame;exact .inr ⟨rfl,hu⟩
      exact⟨id,ag,κ',τ,l,ck,key,te,kt,e,b,q,es,hs,hl,T.und,hkt,hte,hxv,keyOf_v (E.evA (by simp) hi) hkey,hb,hq,hh,ha⟩
     ·simp at hs
    ·simp at hs
   ·simp at hs
  ·simp at hs
 ·simp at hs
theorem w_makeMap (h:Rel P base w0 S0 N D sv g σ a w) (C:CfgOK P c) (hN:c.N=N) (hF:WideF F) {K:Act→World→Prop} {Q:Exit→Act→World→Prop} (hK:∀g' σ' a' w',k σ'=some res→Rel P base w0 S0 N D sv g' σ' a' w'→K a' w') {t:TypeId} {nn:Option Operand}
 (hop:o.op= .makeMap t nn) (hs:makeMapW c o σ t nn k=some res):o.wpIn F n P a w K Q:=by
 unfold makeMapW at hs;split at hs
 ·rename_i hint
  split at hs
  ·rename_i ag0 sz z κ τ kt e hti
   split at hs
   ·rename_i te hte
    obtain⟨i',d,T⟩:=C.ts _ _ hti;obtain⟨rfl,hk, -⟩:=T.map rfl;obtain⟨b,hbd⟩:∃b:Gb,b=⟨some w.heap.size,0,0,0,default⟩:=⟨_,rfl⟩;have hbl:Below w.heap.size w (w.alloc (.map #[] 0)):=Below.push (obj:= .map #[] 0) rfl rfl rfl rfl;have hn:=h.new (w':=w.alloc (.map #[] 0)) (id:=σ.nx) (Nat.le_refl _) (b:=b) (x:= .map te.agg κ τ [] 0) hbl ⟨w.heap.size, #[],by rw[hbd],heap_push (w':=w.alloc (.map #[] 0)) rfl, .nil⟩ (fun q hq=>by rw[hbd] at hq;cases hq;exact⟨Nat.le_refl _,by simp⟩);have hv:VA (g.set σ.nx b) (w.alloc (.map #[] 0)) (.mapr σ.nx) (.map (some w.heap.size)):=VA.mapr σ.nx b _ (by simp [Gh.set]) (by rw[hbd]);obtain⟨σ2,hk2,h2⟩:=hn.put hN (x:= .one (.mapr σ.nx)) hv hs;refine wpIn_of_run hF (by simp [hop]) ?_ (hK _ _ _ _ hk2 h2);cases nn with
    |none=>simp [execOp,hop,Instr.makeMap]
    |some x=>
     unfold isIntA at hint;split at hint
     ·cases ‹some x=none›
     ·rename_i y heq
      obtain rfl:=Option.some.inj heq;split at hint
      ·rename_i κ0 q0 hy
       have E:=h.env C [x];have hyv:a.eval x= .int κ0 q0:=by
        have:=E.evA (by simp) hy;generalize a.eval x=u at this⊢;cases this;rfl
       simp [execOp,hop,Instr.makeMap,hyv,run_underlying T.und,asInt,asIntOf]
      ·cases hint
   ·simp at hs
  ·simp at hs
 ·simp at hs
theorem All2.get_both {α β:Type} {R:α→β→Prop} {l:List α} {m:List β} (h:All2 R l m) {i:Nat} {a:α} {b:β} (ha:l[i]? =some a) (hb:m[i]? =some b):R a b:=by
 obtain⟨b',hb',hr⟩:=h.get ha;rw[hb] at hb';cases hb';exact hr
theorem Rel.setSame (h:Rel P base w0 S0 N D sv g σ a w) {id:Nat} {b:AB} (hl:look id σ.mem=some b):Rel P base w0 S0 N D sv g (σ.set id b) a w:=by
 have e:∀i,look i (σ.set id b).mem=look i σ.mem:=fun i=>by
  simp only[St.set,look_cons];split
  ·rename_i e;subst e;exact hl.symm
  ·rfl
 exact{h with mem:=fun i x hx=>h.mem i x (by rw[←e];exact hx),inj:=fun i i' x x' b b' q h1 h2=>h.inj i i' x x' b b' q (by rw[←e];exact h1) (by rw[←e];exact h2),own:=fun i x b q h1=>h.own i x b q (by rw[←e];exact h1),lp:=fun i x b h1=>h.lp i x b (by rw[←e];exact h1)}
theorem w_lookup (h:Rel P base w0 S0 N D sv g σ a w) (C:CfgOK P c) (hN:c.N=N) (hF:WideF F) {K:Act→World→Prop} {Q:Exit→Act→World→Prop} (hK:∀g' σ' a' w',k σ'=some res→Rel P base w0 S0 N D sv g' σ' a' w'→K a' w') {t:TypeId} {x i:Operand} {ok:Bool}
 (hop:o.op= .lookup t x i ok) (hs:lookupW c o σ t x i ok k=some res):o.wpIn F n P a w K Q:=by
 unfold lookupW at hs;obtain⟨id,ag,κ,τ,l,ck,key,te,kt,e,b,q,es,hs,hl,hu,hkt,hte,hxv,hkv,hb,hq,hh,ha⟩:=mapW_ok h C hs;obtain⟨d,hd⟩:=keyT_d hkt;have hik:=keyV_is hkt hd hkv;have hR:Rel P base w0 S0 N D sv g (σ.set id (.map ag κ τ l ck)) a w:=h.setSame hl;have fin:∀{y:V1} {v:Value} {bb:Bool},V1R g w y v→(σ.set id (.map ag κ τ l ck)).put c o.dst (commaOk ok y bb) k=some res→(Instr.lookup t (a.eval x) (a.eval i) ok).run P w= .ok (if ok then .tuple #[v, .bool bb] else v) w→o.wpIn F n P a w K Q:=by
  intro y v bb hv hp hr;have hav:AVR g w (commaOk ok y bb) (if ok then .tuple #[v, .bool bb] else v):=by
   cases ok with
   |true=>exact⟨[v, .bool bb],rfl, .cons hv (.cons (VA.bool bb) .nil)⟩
   |false=>exact hv
  obtain⟨σ2,hk2,h2⟩:=hR.put hN hav hp;refine wpIn_of_run hF (by simp [hop]) ?_ (hK _ _ _ _ hk2 h2);simp [execOp,hop,hr]
 rcases mgetK_ok hs with⟨j,xe,h1,h2,h3,hs⟩ |⟨h1,hs⟩
 ·obtain⟨y,hy,hs⟩:=ocase_some hs
  rcases findNow_ok hkt hd hkv 0 ha with⟨j',xe',e',g1,g2,g3,g4,g5⟩ |⟨g1,g2⟩
  ·have ej:j=j':=by
    rcases Nat.lt_trichotomy j j' with hlt|hlt|hlt
    ·have:=g4 j xe hlt h1;rw[h2] at this;cases this
    ·exact hlt
    ·have:=h3 j' xe' hlt g1;rw[g3] at this;cases this
   subst ej;rw[h1] at g1;cases g1;obtain⟨-, -,y',hy',hv⟩:=ha.get_both h1 g2;rw[hy] at hy';cases hy';refine fin hv hs ?_;have e0:=run_findKey (P:=P) (w:=w) hd (l:=es.toList) g5;simp only[Instr.lookup,hxv,Sem.run_bind,run_underlying hu,Result.andThen,Go.MapKept.run_getObj_map hh,Sem.run_pure,Go.MapKept.run_checkKey hd hik,e0]
  ·exact absurd (g1 xe (List.mem_of_getElem? h1)) (by rw[h2];simp)
 ·rcases findNow_ok hkt hd hkv 0 ha with⟨j',xe',e',g1,g2,g3,g4,g5⟩ |⟨g1,g2⟩
  ·exact absurd (h1 xe' (List.mem_of_getElem? g1)) (by rw[g3];simp)
  ·obtain⟨i2,d2,T2⟩:=C.ts e te hte
   obtain⟨z,hz, -,hzr⟩:=T2.zero;refine fin (hzr g w) hs ?_;have e0:=run_findKey (P:=P) (w:=w) hd (l:=es.toList) g2;have ez:(zeroValue e).run P w= .ok z w:=by simp [zeroValue,typeInfo,T2.info,hz]
   simp only[Instr.lookup,hxv,Sem.run_bind,run_underlying hu,Result.andThen,Go.MapKept.run_getObj_map hh,Sem.run_pure,Go.MapKept.run_checkKey hd hik,e0,ez]
theorem Rel.setMap (h:Rel P base w0 S0 N D sv g σ a w) {id:Nat} {ag:Bool} {κ τ:Ty} {l:List (κ.T×τ.T×Nat)} {ck:Nat} {b:Gb} {q:Nat} {es:Array MapEntry} (hl:look id σ.mem=some (.map ag κ τ l ck)) (hb:g.m id=some b) (hq:b.blk=some q) (hh:w.heap[q]? =some (.map es ck))
 {l':List (κ.T×τ.T×Nat)} {ck':Nat} {es':Array MapEntry} (ha:All2 (EntR g w ag) l' es'.toList):Rel P base w0 S0 N D sv g (σ.set id (.map ag κ τ l' ck')) a {w with heap:=w.heap.setIfInBounds q (.map es' ck')}:=by
 have hown:=h.own id _ b q hl rfl hb hq;refine h.set (w':={w with heap:=w.heap.setIfInBounds q (.map es' ck')}) hl rfl hb hq (by simp) (fun j hj=>(heap_set hh).2 j hj) ⟨rfl,rfl,rfl⟩ (fun hH=> ?_);refine⟨q,es',hq,(heap_set hh).1,ha.mono fun x e k=>k.of fun y v hy hv=> ?_⟩;have hH':Holds g w {w with heap:=w.heap.setIfInBounds q (.map es' ck')}:=fun j hj=>(heap_set hh).2 j (fun e=>by subst e;exact hown.2 hj)
 exact hv.mono hH' (Gh.le.refl g)
theorem decC_va {τ:Ty} {l:List At} {x:τ.T} (h:τ.decC l=some x) {vs:List Value} (hv:All2 (VA g w) l vs):All2 (VA g w) (τ.enc x) vs:=by
 rw[decC_enc τ h];exact hv.mapL fun _ _ k=>k.unclip
theorem All2.push {α β:Type} {R:α→β→Prop} {l:List α} {m:List β} (h:All2 R l m) {a:α} {b:β} (hr:R a b):All2 R (l++[a]) (m++[b]):=h.append (.cons hr .nil)
theorem V1.recell {ag:Bool} {x:V1} (hx:x.is ag=true) {v:Value} (hv:V1R g w x v) {τ:Ty} {e:τ.T} (he:τ.decC x.cells=some e):∃y',V1.ofCells ag (τ.enc e)=some y'∧V1R g w y' v:=by
 have hva:=decC_va he hv.cells;cases x with
 |one x=>
  have hag:ag=false:=by simpa [V1.is] using hx
  subst hag;have h1:VA g w x v:=hv;have h2:=h1.one;have e1:v.cells.toList=[v]:=by cases v<;>first|rfl|(simp [Value.oneCell'] at h2)
  have hl:(τ.enc e).length=1:=by
   have:=hva.length;rw[e1] at this;exact this
  obtain⟨z,hz⟩:=List.length_eq_one_iff.1 hl;rw[e1] at hva;rw[hz] at hva⊢;cases hva with|cons ha _=>exact⟨_,rfl,ha⟩
 |agg l=>
  have hag:ag=true:=hx;subst hag;obtain⟨vs,rfl,_⟩:=hv;exact⟨.agg (τ.enc e),rfl,vs,rfl,hva⟩
theorem modify_toList {es:Array MapEntry} {j:Nat} {e:MapEntry} {f:MapEntry→MapEntry} (h:es.toList[j]? =some e):(es.modify j f).toList=es.toList.set j (f e):=by
 have hj:j<es.size:=by have:=(List.getElem?_eq_some_iff.1 h).1;simpa using this
 apply List.ext_getElem?;intro i;simp only[Array.toList_modify,List.getElem?_modify,List.getElem?_set];split
 ·rename_i e1;subst e1
  rw[if_pos (by simpa using hj),h];rfl
 ·cases es.toList[i]? <;>rfl
theorem w_mapUpd (h:Rel P base w0 S0 N D sv g σ a w) (C:CfgOK P c) (hN:c.N=N) (hF:WideF F) {K:Act→World→Prop} {Q:Exit→Act→World→Prop} (hK:∀g' σ' a' w',k σ'=some res→Rel P base w0 S0 N D sv g' σ' a' w'→K a' w') {t:TypeId} {x i v:Operand}
 (hop:o.op= .mapUpdate t x i v∨o.op= .insert t x i v) (hs:mapUpdW c o σ t x i v k=some res):o.wpIn F n P a w K Q:=by
 unfold mapUpdW at hs;obtain⟨id,ag,κ,τ,l,ck,key,te,kt,e,b,q,es,hs,hl,hu,hkt,hte,hxv,hkv,hb,hq,hh,ha⟩:=mapW_ok h C hs;obtain⟨d,hd⟩:=keyT_d hkt;have hik:=keyV_is hkt hd hkv;have E:=h.env C [v];split at hs
 ·rename_i y hy
  have hyv:=E.evV (by simp) hy;split at hs
  ·rename_i z hag hz
   obtain⟨y',hy',hyr⟩:=V1.recell hag hyv hz;have hnd:∀c,o.op≠ .defer c:=fun c=>by rcases hop with e|e<;>simp [e]
   have hex:∀{w2:World},(Instr.mapUpdate t (a.eval x) (a.eval i) (a.eval v)).run P w= .ok () w2→(execOp a.eval o).run P w= .ok .skip w2:=fun{w2} hr=>by
    rcases hop with e|e<;>simp [execOp,e,hr]
   rcases findNow_ok hkt hd hkv 0 ha with⟨j,xe,e',g1,g2,g3,g4,g5⟩ |⟨g1,g2⟩
   ·obtain⟨e1,e2⟩:=msetL_found (v:=z) (ck:=ck) g1 g3 g4
    have hxe:=ha.get_both g1 g2;have hsame:=key_same hkt hkv hxe.1 g3;have g2':es[j]? =some e':=by simpa using g2
    rw[e1,e2] at hs;have hR:=h.setMap (es':=es.modify j fun e=>{e with key:=a.eval i,val:=a.eval v}) (l':=l.set j (xe.1,z,xe.2.2)) (ck':=ck) hl hb hq hh (by
     rw[modify_toList g2];refine ha.set (a:=(xe.1,z,xe.2.2)) (b:={e' with key:=a.eval i,val:=a.eval v}) ?_ j;exact⟨by rw[←hsame];exact hxe.1,hxe.2.1,y',hy',hyr⟩)
    obtain⟨σ2,hk2,h2⟩:=hR.put hN (x:= .undef) (v:=undef) rfl hs;refine wpIn_of_skip hF hnd (hex ?_) (hK _ _ _ _ hk2 h2);have e0:=run_findKey (P:=P) (w:=w) hd (l:=es.toList) g5;simp [Instr.mapUpdate,hxv,run_underlying hu,Go.MapKept.run_getObj_map hh,Go.MapKept.run_checkKey hd hik,e0,g2',hsame,run_keyThatStays hik,run_setObj_map _ hh,Result.andThen]
   ·obtain⟨e1,e2⟩:=msetL_none (v:=z) (ck:=ck) g1
    rw[e1,e2] at hs;have hR:=h.setMap (es':=es.push {key:=a.eval i,val:=a.eval v,born:=ck}) (l':=l++[(key,z,ck)]) (ck':=ck+1) hl hb hq hh (by
     rw[Array.toList_push];exact ha.push ⟨hkv,rfl,y',hy',hyr⟩)
    obtain⟨σ2,hk2,h2⟩:=hR.put hN (x:= .undef) (v:=undef) rfl hs;refine wpIn_of_skip hF hnd (hex ?_) (hK _ _ _ _ hk2 h2);have e0:=run_findKey (P:=P) (w:=w) hd (l:=es.toList) g2;simp [Instr.mapUpdate,hxv,run_underlying hu,Go.MapKept.run_getObj_map hh,Go.MapKept.run_checkKey hd hik,e0,run_setObj_map _ hh,Result.andThen]
  ·simp at hs
 ·simp at hs
theorem w_mapEnt (h:Rel P base w0 S0 N D sv g σ a w) (C:CfgOK P c) (hN:c.N=N) (hF:WideF F) {K:Act→World→Prop} {Q:Exit→Act→World→Prop} (hK:∀g' σ' a' w',k σ'=some res→Rel P base w0 S0 N D sv g' σ' a' w'→K a' w') {t:TypeId} {x i:Operand}
 (hop:o.op= .mapEntry t x i) (hs:mapEntW c o σ t x i k=some res):o.wpIn F n P a w K Q:=by
 unfold mapEntW at hs;obtain⟨id,ag,κ,τ,l,ck,key,te,kt,e,b,q,es,hs,hl,hu,hkt,hte,hxv,hkv,hb,hq,hh,ha⟩:=mapW_ok h C hs;obtain⟨d,hd⟩:=keyT_d hkt;have hik:=keyV_is hkt hd hkv;rcases mgetK_ok hs with⟨j,xe,h1,h2,h3,hs⟩ |⟨h1,hs⟩
 ·obtain⟨y,hy,hs⟩:=ocase_some hs
  rcases findNow_ok hkt hd hkv 0 ha with⟨j',xe',e',g1,g2,g3,g4,g5⟩ |⟨g1,g2⟩
  ·have ej:j=j':=by
    rcases Nat.lt_trichotomy j j' with hlt|hlt|hlt
    ·have:=g4 j xe hlt h1;rw[h2] at this;cases this
    ·exact hlt
    ·have:=h3 j' xe' hlt g1;rw[g3] at this;cases this
   subst ej;rw[h1] at g1;cases g1;have hxe:=ha.get_both h1 g2;have hsame:=key_same hkt hkv hxe.1 h2;have g2':es[j]? =some e':=by simpa using g2
   obtain⟨hk1,hborn,y',hy',hv⟩:=hxe;rw[hy] at hy';cases hy';have hR:=h.setMap (es':=es.modify j fun e=>{e with key:=a.eval i}) (l':=l) (ck':=ck) hl hb hq hh (by
    rw[modify_toList g2];have e9:l=l.set j xe:=by
     obtain⟨hj,e⟩:=List.getElem?_eq_some_iff.1 h1;rw[←e];simp
    rw[e9];refine ha.set (a:=xe) (b:={e' with key:=a.eval i}) ?_ j;exact⟨by rw[←hsame];exact hk1,hborn,y,hy,hv⟩)
   have hR2:Rel P base w0 S0 N D sv g σ a {w with heap:=w.heap.setIfInBounds q (.map (es.modify j fun e=>{e with key:=a.eval i}) ck)}:=by
    have e:∀i,look i (σ.set id (.map ag κ τ l ck)).mem=look i σ.mem:=fun i=>by
     simp only[St.set,look_cons];split
     ·rename_i e;subst e;exact hl.symm
     ·rfl
    exact{regs:=hR.regs,size:=hR.size,dfr:=hR.dfr,glo:=hR.glo,lp:=fun i z b h1=>hR.lp i z b (by rw[e];exact h1),mem:=fun i z hz=>hR.mem i z (by rw[e];exact hz),inj:=fun i i' z z' b b' q h1 h2=>hR.inj i i' z z' b b' q (by rw[e];exact h1) (by rw[e];exact h2),own:=fun i z b q h1=>hR.own i z b q (by rw[e];exact h1),S:=hR.S,blk:=hR.blk,nx:=hR.nx,bel:=hR.bel,bs:=hR.bs,sub:=hR.sub}
   have hv2:AVR g {w with heap:=w.heap.setIfInBounds q (.map (es.modify j fun e=>{e with key:=a.eval i}) ck)} (.tup [y, .one (.int .i64 xe.2.2)]) (.tuple #[e'.val, .int .i64 xe.2.2]):=by
    have hown:=h.own id _ b q hl rfl hb hq;exact⟨[e'.val, .int .i64 xe.2.2],rfl, .cons (hv.mono (fun j hj=>(heap_set hh).2 j (fun e=>by subst e;exact hown.2 hj)) (Gh.le.refl g)) (.cons (VA.int _ _) .nil)⟩
   obtain⟨σ2,hk2,h2⟩:=hR2.put hN hv2 hs;refine wpIn_of_run hF (by simp [hop]) ?_ (hK _ _ _ _ hk2 h2);have e0:=run_findKey (P:=P) (w:=w) hd (l:=es.toList) g5;simp [execOp,hop,Instr.mapEntry,hxv,run_underlying hu,Go.MapKept.run_getObj_map hh,Go.MapKept.run_checkKey hd hik,e0,g2',hsame,run_keyThatStays hik,run_setObj_map _ hh,Result.andThen,hborn,goInt]
  ·exact absurd (g1 xe (List.mem_of_getElem? h1)) (by rw[h2];simp)
 ·rcases findNow_ok hkt hd hkv 0 ha with⟨j',xe',e',g1,g2,g3,g4,g5⟩ |⟨g1,g2⟩
  ·exact absurd (h1 xe' (List.mem_of_getElem? g1)) (by rw[g3];simp)
  ·split at hs
   ·rename_i hag
    obtain⟨z,hz,hs⟩:=ocase_some hs;obtain⟨i2,d2,T2⟩:=C.ts e te hte;obtain⟨zv,hzv, -,hzr⟩:=T2.zero;obtain⟨y',hy',hyr⟩:=V1.recell hag (hzr g w) hz;have hR:=h.setMap (es':=es.push {key:=a.eval i,val:=zv,born:=ck}) (l':=l++[(key,z,ck)]) (ck':=ck+1) hl hb hq hh (by
     rw[Array.toList_push];exact ha.push ⟨hkv,rfl,y',hy',hyr⟩)
    obtain⟨σ2,hk2,h2⟩:=hR.put hN (x:= .tup [te.zero, .one (.int .i64 ck)]) (v:= .tuple #[zv, .int .i64 ck]) ⟨[zv, .int .i64 ck],rfl, .cons (hzr _ _) (.cons (VA.int _ _) .nil)⟩ hs;refine wpIn_of_run hF (by simp [hop]) ?_ (hK _ _ _ _ hk2 h2);have e0:=run_findKey (P:=P) (w:=w) hd (l:=es.toList) g2;have ez:(zeroValue e).run P w= .ok zv w:=by simp [zeroValue,typeInfo,T2.info,hzv]
    simp [execOp,hop,Instr.mapEntry,hxv,run_underlying hu,Go.MapKept.run_getObj_map hh,Go.MapKept.run_checkKey hd hik,e0,ez,run_setObj_map _ hh,Result.andThen,goInt]
   ·simp at hs
theorem mstL_ok {ag:Bool} {κ τ:Ty} {bn:Int} {v:τ.T} {vv:Value}:∀{l l':List (κ.T×τ.T×Nat)} {es:List MapEntry},mstL bn v l=some l'→All2 (EntR g w ag) l es→(∃y,V1.ofCells ag (τ.enc v)=some y∧V1R g w y vv)→
 ∃j,es.findIdx? (fun e=>(e.born:Int)==bn)=some j∧∃e,es[j]? =some e∧All2 (EntR g w ag) l' (es.set j {e with val:=vv})
 | [],l',es,h,_,_=>by simp [mstL] at h
 |x::l,l',_,h, .cons (b:=e) (m:=es) hx ht,hv=>by
  simp only[mstL] at h;split at h
  ·rename_i hb
   cases h;refine⟨0, ?_,e,rfl, ?_⟩
   ·rw[List.findIdx?_cons,hx.2.1,hb];rfl
   ·obtain⟨y,hy,hr⟩:=hv
    exact .cons ⟨hx.1,hx.2.1,y,hy,hr⟩ ht
  ·rename_i hb
   split at h
   ·rename_i l2 hl2
    cases h;obtain⟨j,h1,e2,h2,h3⟩:=mstL_ok hl2 ht hv;refine⟨j+1, ?_,e2,by simpa using h2, ?_⟩
    ·rw[List.findIdx?_cons,hx.2.1,hb,h1];rfl
    ·exact .cons hx h3
   ·cases h
theorem w_entSt (h:Rel P base w0 S0 N D sv g σ a w) (C:CfgOK P c) (hN:c.N=N) (hF:WideF F) {K:Act→World→Prop} {Q:Exit→Act→World→Prop} (hK:∀g' σ' a' w',k σ'=some res→Rel P base w0 S0 N D sv g' σ' a' w'→K a' w') {t:TypeId} {x s v:Operand}
 (hop:o.op= .entryStore t x s v) (hs:entStW c o σ t x s v k=some res):o.wpIn F n P a w K Q:=by
 unfold entStW at hs;have E:=h.env C [x,s,v];split at hs
 ·rename_i id κ0 bn y hx hsv hy
  split at hs
  ·rename_i ag κ τ l ck hl
   split at hs
   ·rename_i z hag hz
    obtain⟨l',hl',hs⟩:=ocase_some hs;obtain⟨b,hb,q,es,hq,hh,ha⟩:=h.mem id _ hl;have hxv:a.eval x= .map (some q):=by
     have:=E.evA (by simp) hx;generalize a.eval x=u at this⊢;cases this with
     |mapr _ b' k' hm hk'=>rw[hb] at hm;cases hm;rw[hq] at hk';cases hk';rfl
    have hsv':a.eval s= .int κ0 bn:=by
     have:=E.evA (by simp) hsv;generalize a.eval s=u at this⊢;cases this;rfl
    obtain⟨y',hy',hyr⟩:=V1.recell hag (E.evV (by simp) hy) hz;obtain⟨j,h1,e,h2,h3⟩:=mstL_ok hl' ha ⟨y',hy',hyr⟩;have hR:=h.setMap (es':=es.modify j fun e=>{e with val:=a.eval v}) (l':=l') (ck':=ck) hl hb hq hh (by rw[modify_toList h2];exact h3);obtain⟨σ2,hk2,h2⟩:=hR.put hN (x:= .undef) (v:=undef) rfl hs;refine wpIn_of_skip hF (by simp [hop]) ?_ (hK _ _ _ _ hk2 h2);have hf:es.findIdx? (fun e=>(e.born:Int)==bn)=some j:=by rw[←Array.toArray_toList (xs:=es),List.findIdx?_toArray];exact h1
    simp [execOp,hop,Instr.entryStore,hxv,hsv',asInt,asIntOf,Go.MapKept.run_getObj_map hh,hf,run_setObj_map _ hh,Result.andThen]
   ·simp at hs
  ·simp at hs
 ·simp at hs
end
end Go.Eng
set_option linter.unusedSimpArgs false
set_option linter.unusedVariables false
set_option linter.unnecessarySimpa false
namespace Go.Eng
open Go Go.RowKit
section
variable {P:Program} [GlobL P] {F:Fence} {n:Nat} {c:Cfg} {g g':Gh} {r:Regs} {m:Mem} {a:Act} {w w':World} {o:Oper} {R:Type} {k:St→Option R} {res:R} {xs:List Operand}
variable {base:Nat} {w0:World} {S0:Nat→Prop} {N:Nat} {D:Wt} {sv:Nat→Value} {σ:St}
theorem viewAt_rows {x:At} {kk:At→Option R} (h:viewAt m x kk=some res):(∃y,kk y=some res)∧∀i∈ownsAt x,∃τ l,look i m=some (.row τ l):=by
 cases x<;>simp only[viewAt,reduceCtorEq] at h
 case own id=>
  simp only[listOf] at h;split at h
  ·rename_i τ l hl
   exact⟨⟨_,h⟩,fun i hi=>by simp [ownsAt] at hi;subst hi;exact⟨τ,l,hl⟩⟩
  ·simp at h
 case sub id off len=>
  simp only[listOf] at h;split at h
  ·rename_i τ l hl
   split at h
   ·exact⟨⟨_,h⟩,fun i hi=>by simp [ownsAt] at hi;subst hi;exact⟨τ,l,hl⟩⟩
   ·simp at h
  ·simp at h
 all_goals exact⟨⟨_,h⟩,fun i hi=>by simp [ownsAt] at hi⟩
theorem viewL_rows:∀{l:List At} {kk:List At→Option R},viewL m l kk=some res→(∃y,kk y=some res)∧∀i∈ownsL l,∃τ l,look i m=some (.row τ l)
 | [],kk,h=>⟨⟨_,h⟩,fun i hi=>by simp [ownsL] at hi⟩
 |x::l,kk,h=>by
  simp only[viewL] at h;obtain⟨⟨y,h1⟩,h2⟩:=viewAt_rows h;obtain⟨⟨y',h3⟩,h4⟩:=viewL_rows h1;refine⟨⟨_,h3⟩,fun i hi=> ?_⟩;simp only[ownsL,List.mem_append] at hi;rcases hi with hi|hi
  ·exact h2 i hi
  ·exact h4 i hi
theorem viewVs_rows:∀{l:List AV} {kk:List AV→Option R},viewVs m l kk=some res→(∃y,kk y=some res)∧∀i∈ownsVs l,∃τ l,look i m=some (.row τ l)
 | [],kk,h=>⟨⟨_,h⟩,fun i hi=>by simp [ownsVs] at hi⟩
 |x::l,kk,h=>by
  simp only[viewVs] at h;unfold viewV at h;split at h
  ·obtain⟨⟨y,h1⟩,h2⟩:=viewAt_rows h
   obtain⟨⟨y',h3⟩,h4⟩:=viewVs_rows h1;refine⟨⟨_,h3⟩,fun i hi=> ?_⟩;simp only[ownsVs,List.mem_append] at hi;rcases hi with hi|hi
   ·exact h2 i hi
   ·exact h4 i hi
  ·obtain⟨⟨y,h1⟩,h2⟩:=viewL_rows h
   obtain⟨⟨y',h3⟩,h4⟩:=viewVs_rows h1;refine⟨⟨_,h3⟩,fun i hi=> ?_⟩;simp only[ownsVs,List.mem_append] at hi;rcases hi with hi|hi
   ·exact h2 i hi
   ·exact h4 i hi
  ·simp at h
theorem stepCall_ok (h:Rel P base w0 S0 N D sv g σ a w) (C:CfgOK P c) (hN:c.N=N) (hF:WideF F) {K:Act→World→Prop} {Q:Exit→Act→World→Prop} (hK:∀g' σ' a' w',k σ'=some res→Rel P base w0 S0 N D sv g' σ' a' w'→K a' w') {f:Operand} {args:Array Operand} {ts:Array TypeId}
 (hop:o.op= .call {callee:= .value f,args,argTypes:=ts}) (hs:stepCall c o f args ts σ k=some res):o.wpIn F n P a w K Q:=by
 unfold stepCall at hs;split at hs
 ·rename_i nn as hn has
  split at hs
  ·rename_i s hsp
   obtain⟨y,hy,hcall⟩:=call_ok (n:=n) (h.env C (f::args.toList)) hF (by simp) (fun x hx=>by simp [hx]) hop hn has (C.sp _ _ hsp) hs;split at hy
   ·rename_i hfl
    refine hcall K Q (fun q=>q<w.heap.size) ⟨h.S,fun id b q _ hb hq=>h.blk id b q hb hq⟩ (fun q h=>h) (h.glo.mono (Holds.refl _ _) h.S) fun v w' hb hv=> ?_
    obtain⟨σ2,hk,h2⟩:=(h.grow hb).put hN (x:=y) (hv.flat hfl) hy;exact hK _ _ _ _ hk h2
   ·obtain⟨g1,σ1,h1,hr,hle,hfr⟩:=h.freezeAll hy
    have hrows:=(viewVs_rows hs).2;refine hcall K Q g1.S ⟨hle.S,fun id b q hi hb hq=> ?_⟩ hr.S (hr.glo.mono (Holds.refl _ _) fun _ h=>h) fun v w' hb hv=> ?_
    ·obtain⟨τ,l,hl⟩:=hrows id hi
     rcases hfr id τ l hl with hS|⟨hn,_⟩
     ·exact hS b q hb hq
     ·exact absurd hi hn
    ·obtain⟨σ2,hk,h2⟩:=(hr.grow hb).put hN (x:=y) (hv.mono (Holds.refl _ _) ⟨fun _ h=>h,fun _ _ h=>by cases h⟩) h1
     exact hK _ _ _ _ hk h2
  ·simp at hs
 ·simp at hs
theorem flat_enc {τ:Ty} (hf:τ.flat=true):∀(x:τ.T) (j:Nat) (y:At),(τ.enc x)[j]? =some y→flatAt y=true:=by
 intro x j y h;cases τ<;>simp [Ty.flat] at hf<;>simp only[Ty.enc] at h<;>
  (have hm:=List.mem_of_getElem? h;simp at hm;(try rcases hm with rfl|hm)<;>(try rcases hm with rfl|hm)<;>(try rcases hm with rfl|hm)<;>(try rcases hm with rfl|hm)<;>(try subst hm)<;>rfl)
theorem VA.flat1 {g g':Gh} {w w':World} {x:At} {v:Value} (h:VA g w x v) (hp:flatAt x=true):VA g' w' x v:=V1R.flat (x:= .one x) h hp
theorem flatL_of:∀{l:List At},(∀y∈l,flatAt y=true)→flatL l=true
 | [],_=>rfl
 |x::l,h=>by simp only[flatL,h x (by simp)];exact flatL_of fun y hy=>h y (by simp [hy])
theorem V1.ofCells_flat {ag:Bool} {l:List At} {y:V1} (h:V1.ofCells ag l=some y) (hl:∀y∈l,flatAt y=true):flatV1 y=true:=by
 unfold V1.ofCells at h;split at h
 ·cases h;exact flatL_of hl
 ·cases h;exact hl _ (by simp)
 ·cases h
theorem BR.flat {g g':Gh} {b:Gb} {x:AB} (h:BR P g w b x) (hf:flatB x=true):BR P g' w b x:=by
 cases x<;>simp only[flatB,Bool.false_eq_true] at hf
 case row τ l=>
  obtain⟨h1,h2,h3⟩:=h;refine⟨h1,h2, ?_⟩;rcases h3 with h3|⟨k,cs,e,hb,hh,hs,hl,ho,ha⟩
  ·exact .inl h3
  ·exact .inr ⟨k,cs,e,hb,hh,hs,hl,ho,fun i x j y hx hy=>let ⟨v,hv,ha'⟩:=ha i x j y hx hy;⟨v,hv,ha'.flat1 (flat_enc hf x j y hy)⟩⟩
 case map ag κ τ l ck=>
  obtain⟨k,es,hb,hh,ha⟩:=h;refine⟨k,es,hb,hh,ha.mono fun x e k=>k.of fun y v hy hv=>V1R.flat hv (V1.ofCells_flat hy fun z hz=> ?_)⟩;obtain⟨j,hj⟩:=List.getElem?_of_mem hz;exact flat_enc hf _ j z hj
theorem effF_some {f:Operand} {args:Array Operand} {ts:Array TypeId} {r:Regs} {m:Mem} {nx:Nat} {kk:At→AB→Option R} (h:effF c f args ts r m nx kk=some res):
 ∃(nn:Nat) (as as':List AV) (s:FSpec) (x:s.X) (ab:AB) (y:At),calleeOf c r f=some nn∧evArgs c r args.toList ts.toList=some as∧look nn c.fresh=some s∧(∀{R':Type} (k':List AV→Option R'),viewVs m as k'=k' as')∧
  s.pat as'=some x∧s.f x=some ab∧frAt nx ab=some y∧(flatB ab=true∨ownsVs as= [])∧kk y ab=some res:=by
 unfold effF at h;split at h
 ·rename_i nn as hn has
  split at h
  ·rename_i s hs
   obtain⟨as',hu⟩:=viewVs_one h;rw[hu] at h;unfold freshQ at h;split at h
   ·rename_i x hx
    obtain⟨ab,hab,h⟩:=ocase_some h;split at h
    ·rename_i y hy
     simp only at h;split at h
     ·rename_i hc
      rw[Bool.or_eq_true] at hc;exact⟨nn,as,as',s,x,s.enc ab,y,hn,has,hs,hu,hx,(by unfold FSpec.f;rw[hab]),hy,hc.imp id (fun h=>by simpa using h),h⟩
     ·cases h
    ·cases h
   ·cases h
  ·cases h
 ·cases h
theorem frAt_va {g':Gh} {ab:AB} {b:Gb} {y y0:At} {v:Value} {id:Nat} (h0:frAt 0 ab=some y0) (h1:frAt id ab=some y) (hv:VA ⟨fun _=>False,fun i=>if i=0 then some b else none⟩ w y0 v) (hm:g'.m id=some b):VA g' w y v:=by
 cases ab<;>simp only[frAt,reduceCtorEq,Option.some.injEq] at h0 h1
 case row τ l=>
  subst h0;subst h1;cases hv with
  |own _ b' a hm' hk h0=>simp at hm';subst hm';exact .own id b a hm hk h0
 case map ag κ τ l ck=>
  subst h0;subst h1;cases hv with
  |mapr _ b' k hm' hk=>simp at hm';subst hm';exact .mapr id b k hm hk
theorem stepFresh_ok (h:Rel P base w0 S0 N D sv g σ a w) (C:CfgOK P c) (hN:c.N=N) (hF:WideF F) {K:Act→World→Prop} {Q:Exit→Act→World→Prop} (hK:∀g' σ' a' w',k σ'=some res→Rel P base w0 S0 N D sv g' σ' a' w'→K a' w') {f:Operand} {args:Array Operand} {ts:Array TypeId}
 (hop:o.op= .call {callee:= .value f,args,argTypes:=ts}) (hs:stepFresh c o f args ts σ k=some res):o.wpIn F n P a w K Q:=by
 obtain⟨nn,as,as',s,x,ab,y,hn,has,hsp,hu,hx,hab,hy,hc,hk⟩:=effF_some hs;have E:=h.env C (f::args.toList);have hal:=evArgs_ok E (fun x hx=>by simp [hx]) has;have hfv:a.eval f= .func (.func nn) #[] #[] :=by
  unfold calleeOf at hn;split at hn
  ·rename_i q hq
   cases hn;have:=E.ev f (by simp) _ _ hq;generalize a.eval f=u at this⊢;cases this;rfl
  ·simp at hn
 have FO:=C.fr nn s hsp;obtain⟨S,hS,hSb,hSg,hSf⟩:∃S,Sees g (ownsVs as) S∧(∀q,S q→q<w.heap.size)∧GlobR P ⟨S,fun _=>none⟩ w∧(flatB ab=true∨∀q,S q→g.S q):=by
  rcases hc with hc|hc
  ·exact⟨fun q=>q<w.heap.size,⟨h.S,fun id b q _ hb hq=>h.blk id b q hb hq⟩,fun q h=>h,h.glo.mono (Holds.refl _ _) h.S, .inl hc⟩
  ·exact⟨g.S,⟨fun _ h=>h,fun id b q hi=>by rw[hc] at hi;simp at hi⟩,h.S,h.glo.mono (Holds.refl _ _) fun _ h=>h, .inr fun _ h=>h⟩
 obtain⟨as2,h2,hav⟩:=viewVs_ok (R:=List AV) (res:=as') (kk:=some) E.mem hal hS (hu some);cases h2;have hcalls:=FO.calls S w as' _ x ab hSb hSg hav hx hab;have e:(args.toList.map a.eval).toArray=args.map a.eval:=by apply Array.ext';simp
 rw[e] at hcalls;refine⟨fun f _=>hF.fn f, ?_⟩;rw[Oper.semAt_eq _ _ _ (by simp [hop]),run_call hop hfv FO.enters];refine⟨fun hd=>(by rw[hF.depth] at hd;cases hd), ?_⟩;refine(callsIn_of_calls hF hcalls).mono ?_;rintro e w' ⟨v,rfl,hb,b,hbq,hlive,hloop,hbr,y0,hy0,hva⟩;have hR:=h.newX (Nat.le_refl σ.nx) (b:=b) (x:=ab) (fun k=>w.heap.size≤k∧k<w'.heap.size∧b.blk≠some k) (fun k hk=>hk) hb (by
  rcases hSf with hfl|hSs
  ·exact hbr.flat hfl
  ·exact hbr.mono (Holds.refl _ _) (fun _ _=>rfl) ⟨fun q hq=>hq.imp (hSs q) id,fun _ _ h=>by cases h⟩) hbq (fun hl=>by rw[hloop] at hl;cases hl)
 obtain⟨σ2,hk2,h3⟩:=hR.put hN (x:= .one y) (frAt_va hy0 hy hva (by simp [Gh.set])) hk;exact hK _ _ _ _ hk2 h3
theorem stepQ_ok (h:Rel P base w0 S0 N D sv g σ a w) (C:CfgOK P c) (hN:c.N=N) (hF:WideF F) {K:Act→World→Prop} {Q:Exit→Act→World→Prop} (hK:∀g' σ' a' w',k σ'=some res→Rel P base w0 S0 N D sv g' σ' a' w'→K a' w')
 (hs:evalQ c σ.regs σ.mem o (fun v=>σ.put c o.dst v k)=some res):o.wpIn F n P a w K Q:=by
 obtain⟨y,hy,hq⟩:=evalQ_ok (n:=n) (h.env C o.op.operands.toList) hF (fun _ h=>h) hs;refine hq K Q fun v w' hb hv=> ?_
 obtain⟨σ2,hk,h2⟩:=(h.grow hb).put hN (x:=y) hv hy;exact hK _ _ _ _ hk h2
theorem both_some {x y:Option R} (h:both x y=some res):x=some res∧y=some res:=by
 unfold both at h;split at h
 ·rename_i e;exact⟨h,e▸h⟩
 ·cases h
theorem nilW_some {p:At} {v:Value} {kk:Bool→Option R} (hv:VA g w p v) (h:nilW p kk=some res):∃ad n cp,v= .slice ad n cp∧kk ad.isNone=some res:=by
 cases p<;>simp only[nilW,reduceCtorEq] at h
 case sl τ l=>
  cases hv with
  |sl _ _ ad n cp bk of f hn hc ha hcell hf=>
   refine⟨ad,n,cp,rfl, ?_⟩;rcases bcase_some h with⟨hb,h⟩ |⟨hb,h⟩
   ·obtain⟨h1,h2⟩:=both_some h
    cases ad.isNone
    ·exact h2
    ·exact h1
   ·have:l≠ [] :=by intro e;subst e;simp at hb
    rw[(ha this).1];exact h
 case clip τ l=>
  cases hv with
  |clip _ _ ad n bk of f hn ha hcell hf=>
   refine⟨ad,n,n,rfl, ?_⟩;rcases bcase_some h with⟨hb,h⟩ |⟨hb,h⟩
   ·obtain⟨h1,h2⟩:=both_some h
    cases ad.isNone
    ·exact h2
    ·exact h1
   ·have:l≠ [] :=by intro e;subst e;simp at hb
    rw[(ha this).1];exact h
theorem w_nil (h:Rel P base w0 S0 N D sv g σ a w) (C:CfgOK P c) (hN:c.N=N) (hF:WideF F) {K:Act→World→Prop} {Q:Exit→Act→World→Prop} (hK:∀g' σ' a' w',k σ'=some res→Rel P base w0 S0 N D sv g' σ' a' w'→K a' w') {op:BinOp} {t t':TypeId} {x y:Operand} {p:At}
 (hs:(match op with
  | .eql=>nilW p fun b=>σ.put c o.dst (.one (.bool b)) k
  | .neq=>nilW p fun b=>σ.put c o.dst (.one (.bool (!b))) k
  |_=>none)=some res)
 (hop:o.op= .binOp op t x y t') (hy:isNilC y=true) {ti:TI} {τ:Ty} {e:TypeId} (hti:c.ti t=some ti) (hk:ti.k= .slice τ e) (hx:evA c σ.regs t x=some p):o.wpIn F n P a w K Q:=by
 have E:=h.env C [x];have hv:=E.evA (by simp) hx;obtain⟨i,d,T⟩:=C.ts _ _ hti;have hu:∃e',P.underlying t=some (.slice e'):=by
  have h1:=T.k;rw[hk] at h1;have h2:=T.und;cases d<;>simp [tkB] at h1
  exact⟨_,h2⟩
 obtain⟨e',hu⟩:=hu;have hyv:a.eval y= .slice none 0 0:=by
  unfold isNilC at hy;split at hy
  ·rfl
  ·cases hy
 cases op<;>simp only[reduceCtorEq] at hs
 case eql=>
  obtain⟨ad,n1,cp,hxv,hs⟩:=nilW_some hv hs;obtain⟨σ2,hk2,hr2⟩:=h.put (v:= .bool ad.isNone) hN (x:= .one (.bool ad.isNone)) (VA.bool _) hs;refine wpIn_of_run hF (by simp [hop]) ?_ (hK _ _ _ _ hk2 hr2);simp [execOp,hop,hxv,hyv,eqGuard,binOp,Op.equal,Op.maxDepth,Lib.run_equalIn_slice_nil w 9999 t e' ad n1 cp 0 0 hu]
 case neq=>
  obtain⟨ad,n1,cp,hxv,hs⟩:=nilW_some hv hs;obtain⟨σ2,hk2,hr2⟩:=h.put (v:= .bool (!ad.isNone)) hN (x:= .one (.bool (!ad.isNone))) (VA.bool _) hs;refine wpIn_of_run hF (by simp [hop]) ?_ (hK _ _ _ _ hk2 hr2);simp [execOp,hop,hxv,hyv,eqGuard,binOp,Op.equal,Op.maxDepth,Lib.run_equalIn_slice_nil w 9999 t e' ad n1 cp 0 0 hu]
theorem stepW_ok (h:Rel P base w0 S0 N D sv g σ a w) (C:CfgOK P c) (hN:c.N=N) (hF:WideF F) {K:Act→World→Prop} {Q:Exit→Act→World→Prop} (hK:∀g' σ' a' w',k σ'=some res→Rel P base w0 S0 N D sv g' σ' a' w'→K a' w')
 (hs:stepW c o σ k=some res):o.wpIn F n P a w K Q:=by
 unfold stepW at hs;split at hs
 ·rename_i t hop
  split at hs
  ·rename_i ti hti
   exact w_alloc h C hN hF hK hop hti hs
  ·simp at hs
 ·rename_i t x hop
  split at hs
  ·rename_i v hv
   exact w_box h C hN hF hK hop hv hs
  ·simp at hs
 ·rename_i t q parts hop
  obtain⟨g1,σ1,hs,h1, -, -⟩:=h.freezeAll hs;split at hs
  ·rename_i ag sz z τ e hti
   split at hs
   ·rename_i te hte
    split at hs
    ·rename_i cells hcells
     split at hcells
     ·rename_i hsz
      obtain⟨l,hl,hp⟩:=ocase_some hs;exact w_buildSlice h1 C hN hF hK hop hti rfl hte (Nat.le_of_ble_eq_true hsz) hcells hl hp
     ·simp at hcells
    ·simp at hs
   ·simp at hs
  ·simp at hs
 ·rename_i t x y hop
  split at hs
  ·rename_i ag sz z τ e κ p κ' q hti hx hy
   split at hs
   ·rename_i te hte
    rcases bcase_some hs with⟨hb,hs⟩ |⟨_,hs⟩
    ·simp only[decide_eq_true_eq] at hb
     obtain⟨hlim,hs⟩:=lcase_some hs;obtain⟨z0,hz0,hp⟩:=ocase_some hs;exact w_makeSlice h C hN hF hK hop hti rfl hte hx hy hb.1 hb.2 hlim hz0 hp
    ·simp at hs
   ·simp at hs
  ·simp at hs
 ·rename_i t x y hop
  obtain⟨g1,σ1,hs,h1, -, -⟩:=h.freezeAll hs;split at hs
  ·rename_i p v ti hp hv hti
   split at hs
   ·rename_i hsz
    exact w_store h1 C hN hF hK hop hp hv hti hsz hs
   ·simp at hs
  ·simp at hs
 ·rename_i t x hop
  split at hs
  ·rename_i ag sz z s hti hx
   exact w_range h C hN hF hK hop hti rfl hx hs
  ·simp at hs
 ·rename_i t q hop
  exact w_makeMap h C hN hF hK hop hs
 ·rename_i t x i ok hop
  exact w_lookup h C hN hF hK hop hs
 ·rename_i t x i v hop
  exact w_mapUpd h C hN hF hK (.inl hop) hs
 ·rename_i t x i v hop
  exact w_mapUpd h C hN hF hK (.inr hop) hs
 ·rename_i t x i hop
  exact w_mapEnt h C hN hF hK hop hs
 ·rename_i t x i v hop
  exact w_entSt h C hN hF hK hop hs
 ·rename_i x hop
  split at hs
  ·rename_i px hx
   exact w_next h C hN hF hK hop hx hs
  ·simp at hs
 ·rename_i f p q hop
  split at hs
  ·rename_i as bs has hbs
   split at hs
   ·rename_i as1 bs1 ha1 hb1
    exact w_makeFunc h C hN hF hK hop has hbs ha1 hb1 hs
   ·simp at hs
  ·simp at hs
 ·rename_i op t x y t' hop
  split at hs
  ·rename_i ag sz z τ e p hy hti hx
   exact w_nil h C hN hF hK hs hop hy hti rfl hx
  ·simp at hs
 ·rename_i args argTypes hop
  split at hs
  ·rename_i x y t t' hargs hts
   have e1:args= #[x,y]:=by apply Array.ext';simpa using hargs
   have e2:argTypes= #[t,t']:=by apply Array.ext';simpa using hts
   subst e1;subst e2;split at hs
   ·rename_i ag sz z τ e hti htt
    have htt:=Nat.eq_of_beq_eq_true htt;subst htt;split at hs
    ·rename_i te px py hte hx hy
     exact w_append h C hN hF hK hop hti rfl hte hx hy hs
    ·simp at hs
   ·rename_i ag sz z τ e hti htt
    split at hs
    ·rename_i ag1 sz1 z1 κ0 te px κ nn hti' hte hx hy
     obtain⟨z0,hz0,hs⟩:=ocase_some hs;exact w_appendMk h C hN hF hK hop hti rfl hte hti' rfl hx hy hz0 hs
    ·simp at hs
   ·simp at hs
  ·simp at hs
 ·rename_i args argTypes hop
  split at hs
  ·rename_i x t hargs hts
   have e1:args= #[x]:=by apply Array.ext';simpa using hargs
   have e2:argTypes= #[t]:=by apply Array.ext';simpa using hts
   subst e1;subst e2;split at hs
   ·rename_i ag sz z τ e px hti hx
    exact w_cap h C hN hF hK hop hti rfl hx hs
   ·simp at hs
  ·simp at hs
 ·rename_i args argTypes hop
  split at hs
  ·rename_i x t hargs hts
   have e1:args= #[x]:=by apply Array.ext';simpa using hargs
   have e2:argTypes= #[t]:=by apply Array.ext';simpa using hts
   subst e1;subst e2;split at hs
   ·rename_i ag sz z τ e px hti hx
    split at hs
    ·rename_i te hte
     exact w_clear h C hN hF hK hop hti rfl hte hx hs
    ·simp at hs
   ·simp at hs
  ·simp at hs
 ·rename_i args argTypes hop
  split at hs
  ·rename_i x y t t' hargs hts
   have e1:args= #[x,y]:=by apply Array.ext';simpa using hargs
   have e2:argTypes= #[t,t']:=by apply Array.ext';simpa using hts
   subst e1;subst e2;split at hs
   ·rename_i ag sz z τ e hti htt
    have htt:=Nat.eq_of_beq_eq_true htt;subst htt;split at hs
    ·rename_i id off len id2 off2 len2 hx hy
     exact w_copySS h C hN hF hK hop hti rfl hx hy hs
    ·rename_i px py _ hx hy
     exact w_copy h C hN hF hK hop hti rfl hx hy hs
    ·simp at hs
   ·simp at hs
  ·simp at hs
 ·simp at hs
def HndOK (P:Program) [GlobL P] (H:Hnd R):Prop:=
 (∀{base:Nat} {w0:World} {S0:Nat→Prop} {N:Nat} {D:Wt} {sv:Nat→Value} {g:Gh} {σ:St} {a:Act} {w:World} {res:R} {dst:Option Nat} {f:Nat} {as:List AV} {kk:AV→St→Option R} {vs:List Value},
  Rel P base w0 S0 N D sv g σ a w→All2 (AVR g w) as vs→f<OFF→H dst f as σ kk=some res→
  (∀args w,(callFunc f args).run P w= .ok (.enter f args) w)∧Calls P f vs.toArray w fun e w'=>∃v x g' σ',e= .returned v∧kk x σ'=some res∧Rel P base w0 S0 N D sv g' σ' a w'∧AVR g' w' x v)∧
 (∀{base:Nat} {w0:World} {S0:Nat→Prop} {N:Nat} {D:Wt} {sv:Nat→Value} {g:Gh} {σ:St} {a:Act} {w:World} {res:R} {dst:Option Nat} {id:Nat} {as:List AV} {kk:AV→St→Option R} {vs:List Value} {b:Gb} {l:Nat},
  Rel P base w0 S0 N D sv g σ a w→All2 (AVR g w) as vs→g.m id=some b→b.blk=some l→H dst (OFF+id) as σ kk=some res→
  ∃fn tmps assign body,(Instr.yield l vs.toArray).run P w= .ok (.round l fn tmps assign body) w∧∀(F:Fence) (n:Nat),WideF F→RoundIn F n P l fn tmps assign body w fun e w'=>∃v x g' σ',e= .returned v∧kk x σ'=some res∧Rel P base w0 S0 N D sv g' σ' a w'∧AVR g' w' x v)
theorem run_callC {f:Operand} {args:Array Operand} {ts:Array TypeId} {nn:Nat} {fs cs:Array Value} (hop:o.op= .call {callee:= .value f,args,argTypes:=ts}) (hf:a.eval f= .func (.func nn) fs cs) (he:∀args w,(callFunc nn args).run P w= .ok (.enter nn args) w):
 (execOp a.eval o).run P w= .ok (.enter nn (fs++args.map a.eval++cs)) w:=by
 simp [execOp,hop,resolve,hf,Deferred.ofValue,invoke,he]
theorem ones_av {l:List At} {vs:List Value} (h:All2 (VA g w) l vs):All2 (AVR g w) (l.map AV.one) vs:=by
 induction h with
 |nil=>exact .nil
 |cons h _ ih=>exact .cons h ih
theorem own_block (h:Rel P base w0 S0 N D sv g σ a w) {x:At} {v:Value} {i:Nat} {τ:Ty} {l:List τ.T} (hv:VA g w x v) (hi:ownsAt x=[i]) (hl:look i σ.mem=some (.row τ l)) (hne:0<l.length):
 ∃ad len cap,v= .slice ad len cap∧(len=0∨∃q of cs e b,ad=some ⟨q,of,none⟩∧g.m i=some b∧b.blk=some q∧w.heap[q]? =some (.cells cs e (0,0))∧cs.size≠0):=by
 obtain⟨b,hm,hbr⟩:=h.mem i _ hl;obtain⟨g1,g2,g3⟩:=hbr;rcases g3 with⟨_,g3,_⟩ |⟨q,cs,e,hb,hh,hcs,hl',ho,ha⟩
 ·subst g3;simp at hne
 have hsz:cs.size≠0:=by
  rw[hcs];exact Nat.mul_ne_zero (by omega) (by have:=n_pos τ;omega)
 cases x<;>simp [ownsAt] at hi
 case own id=>
  subst hi;cases hv with
  |own _ b' ad hm' hk h0=>
   rw[hm] at hm';cases hm';exact⟨ad,_,_,rfl, .inr ⟨q,0,cs,e,b,hk q hb,hm,hb,hh,hsz⟩⟩
 case sub id off len=>
  subst hi;cases hv with
  |sub _ _ _ b' ad cc hm' hl2 hc hk=>
   rw[hm] at hm';cases hm';refine⟨ad,_,_,rfl, ?_⟩;by_cases h0:len=0
   ·exact .inl h0
   ·obtain⟨k',hk',had⟩:=hk (by omega)
    have:k'=q:=by rw[hb] at hk';exact(Option.some.inj hk').symm
    subst this;exact .inr ⟨k',_,cs,e,b,had,hm,hb,hh,hsz⟩
theorem w_apart (h:Rel P base w0 S0 N D sv g σ a w) (C:CfgOK P c) (hN:c.N=N) (hF:WideF F) {K:Act→World→Prop} {Q:Exit→Act→World→Prop} (hK:∀g' σ' a' w',k σ'=some res→Rel P base w0 S0 N D sv g' σ' a' w'→K a' w') {f:Operand} {args:Array Operand} {ts:Array TypeId} {nn:Nat}
 (hop:o.op= .call {callee:= .value f,args,argTypes:=ts}) (hov:OvlOK P nn) (hfv:a.eval f= .func (.func nn) #[] #[]) {x y:At} (hal:All2 (AVR g w) [.v (.one x), .v (.one y)] (args.toList.map a.eval)) (hs:apart σ.mem x y (σ.put c o.dst (.one (.bool false)) k)=some res):o.wpIn F n P a w K Q:=by
 unfold apart at hs;split at hs
 ·rename_i i j hi hj
  split at hs
  ·rename_i τ l τ' l' hij hl hl'
   rcases bcase_some hs with⟨h1,hs⟩ |⟨_,hs⟩
   rotate_left
   ·simp at hs
   rcases bcase_some hs with⟨h2,hs⟩ |⟨_,hs⟩
   rotate_left
   ·simp at hs
   have h1:0<l.length:=Nat.le_of_ble_eq_true h1;have h2:0<l'.length:=Nat.le_of_ble_eq_true h2;have hne:i≠j:=fun e=>by subst e;simp at hij
   generalize hargs:args.toList.map a.eval=vs at hal;cases hal with
   |cons hv1 ht=>
    cases ht with
    |cons hv2 ht=>
     cases ht;rename_i v1 v2;obtain⟨ad,len,cap,rfl,hc1⟩:=own_block h hv1 hi hl h1;obtain⟨ad2,len2,cap2,rfl,hc2⟩:=own_block h hv2 hj hl' h2;have hrun:=hov w ad ad2 len cap len2 cap2 (by
      rcases hc1 with hc1|⟨q,of,cs,e,b,e1,e2,e3,e4,e5⟩
      ·exact .inl hc1
      ·rcases hc2 with hc2|⟨q2,of2,cs2,e0,b2,f1,f2,f3,f4,f5⟩
       ·exact .inr (.inl hc2)
       ·refine .inr (.inr ⟨q,q2,of,of2,cs,cs2,e,e0,e1,f1,fun e9=> ?_,e4,f4,f5⟩)
        subst e9;exact hne (h.inj i j _ _ b b2 q hl hl' rfl rfl e2 f2 e3 f3))
     have e:args.map a.eval= #[.slice ad len cap, .slice ad2 len2 cap2]:=by
      apply Array.ext';simpa using hargs
     obtain⟨σ2,hk2,hr2⟩:=h.put (v:= .bool false) hN (x:= .one (.bool false)) (VA.bool _) hs;refine wpIn_of_run hF (by simp [hop]) ?_ (hK _ _ _ _ hk2 hr2);simp [execOp,hop,resolve,hfv,Deferred.ofValue,invoke,e,hrun]
  ·simp at hs
 ·simp at hs
theorem stepInl_ok {H:Hnd R} (hH:HndOK P H) (h:Rel P base w0 S0 N D sv g σ a w) (C:CfgOK P c) (hN:c.N=N) (hF:WideF F) {K:Act→World→Prop} {Q:Exit→Act→World→Prop} (hK:∀g' σ' a' w',k σ'=some res→Rel P base w0 S0 N D sv g' σ' a' w'→K a' w') {f:Operand} {args:Array Operand} {ts:Array TypeId}
 (hop:o.op= .call {callee:= .value f,args,argTypes:=ts}) (hs:stepInl H c o f args ts σ k=some res):o.wpIn F n P a w K Q:=by
 have E:=h.env C (f::args.toList);unfold stepInl at hs;split at hs
 ·rename_i nn as hf has
  have hal:=evArgs_ok E (fun x hx=>by simp [hx]) has;have hfv:a.eval f= .func (.func nn) #[] #[] :=by
   have:=E.evA (by simp) hf;generalize a.eval f=u at this⊢;cases this;rfl
  split at hs
  ·rename_i hov
   split at hs
   ·rename_i x y
    exact w_apart h C hN hF hK hop (C.ovl _ hov) hfv hal hs
   ·simp at hs
  split at hs
  rotate_left
  ·simp at hs
  rename_i hlt;obtain⟨h1,h2⟩:=hH.1 h hal (Nat.le_of_ble_eq_true hlt) hs;have e:(args.toList.map a.eval).toArray=args.map a.eval:=by apply Array.ext';simp
  rw[e] at h2;refine⟨fun f _=>hF.fn f, ?_⟩;rw[Oper.semAt_eq _ _ _ (by simp [hop]),run_call hop hfv h1];refine⟨fun hd=>(by rw[hF.depth] at hd;cases hd), ?_⟩;refine(callsIn_of_calls hF h2).mono ?_;rintro e w' ⟨v,x,g',σ',rfl,hk,hr,hv⟩;obtain⟨σ2,hk2,h3⟩:=hr.put hN hv hk;exact hK _ _ _ _ hk2 h3
 ·rename_i id as hf has
  split at hs
  ·rename_i nn first capt hl
   have hal:=evArgs_ok E (fun x hx=>by simp [hx]) has;split at hs
   rotate_left
   ·simp at hs
   rename_i hlt;obtain⟨b,hm, -,fs,cs,hb,hfs,hcs⟩:=h.mem id _ hl;have hfv:a.eval f= .func (.func nn) fs cs:=by
    have:=E.evA (by simp) hf;generalize a.eval f=u at this⊢;cases this with
    |clo _ b' f' fs' cs' hm' hv'=>
     rw[hm] at hm';cases hm';rw[hb] at hv';cases hv';rfl
   obtain⟨h1,h2⟩:=hH.1 h ((ones_av hfs).append (hal.append (ones_av hcs))) (Nat.le_of_ble_eq_true hlt) hs;have e:(fs.toList++(args.toList.map a.eval++cs.toList)).toArray=fs++args.map a.eval++cs:=by apply Array.ext';simp
   rw[e] at h2;refine⟨fun f _=>hF.fn f, ?_⟩;rw[Oper.semAt_eq _ _ _ (by simp [hop]),run_callC hop hfv h1];refine⟨fun hd=>(by rw[hF.depth] at hd;cases hd), ?_⟩;refine(callsIn_of_calls hF h2).mono ?_;rintro e w' ⟨v,x,g',σ',rfl,hk,hr,hv⟩;obtain⟨σ2,hk2,h3⟩:=hr.put hN hv hk;exact hK _ _ _ _ hk2 h3
  ·simp at hs
 ·rename_i id as hf has
  have hal:=evArgs_ok E (fun x hx=>by simp [hx]) has;have hfv:=E.evA (by simp) hf;generalize hfe:a.eval f=u at hfv;cases hfv with
  |yld _ b l hm hb=>
   obtain⟨fn,tmps,assign,body,hy,hround⟩:=hH.2 h hal hm hb hs;have e:(args.toList.map a.eval).toArray=args.map a.eval:=by apply Array.ext';simp
   rw[e] at hy;refine⟨fun f _=>hF.fn f, ?_⟩;have hrun:(execOp a.eval o).run P w= .ok (.round l fn tmps assign body) w:=by
    simp [execOp,hop,resolve,hfe,Deferred.ofValue,invoke,hy]
   rw[Oper.semAt_eq _ _ _ (by simp [hop]),hrun,Oper.uponIn_round];refine⟨fun hd=>(by rw[hF.depth] at hd;cases hd),(hround F _ hF).mono ?_⟩;rintro e w' ⟨v,x,g',σ',rfl,hk,hr,hv⟩;obtain⟨σ2,hk2,h3⟩:=hr.put hN hv hk;exact hK _ _ _ _ hk2 h3
 ·simp at hs
theorem stepV_ok {H:Hnd R} (hH:HndOK P H) (h:Rel P base w0 S0 N D sv g σ a w) (C:CfgOK P c) (hN:c.N=N) (hF:WideF F) {K:Act→World→Prop} {Q:Exit→Act→World→Prop} (hK:∀g' σ' a' w',k σ'=some res→Rel P base w0 S0 N D sv g' σ' a' w'→K a' w') {f:Operand} {args:Array Operand} {ts:Array TypeId}
 (hop:o.op= .call {callee:= .value f,args,argTypes:=ts}) (hs:stepV H c o f args ts σ k=some res):o.wpIn F n P a w K Q:=by
 unfold stepV at hs;split at hs
 ·exact stepFresh_ok h C hN hF hK hop hs
 ·exact stepInl_ok hH h C hN hF hK hop hs
theorem stepX_ok {H:Hnd R} (hH:HndOK P H) (h:Rel P base w0 S0 N D sv g σ a w) (C:CfgOK P c) (hN:c.N=N) (hF:WideF F) {K:Act→World→Prop} {Q:Exit→Act→World→Prop} (hK:∀g' σ' a' w',k σ'=some res→Rel P base w0 S0 N D sv g' σ' a' w'→K a' w')
 (hs:stepX H c o σ k=some res):o.wpIn F n P a w K Q:=by
 unfold stepX at hs;split at hs
 ·rename_i f args ts hop
  exact stepV_ok hH h C hN hF hK hop hs
 ·exact stepW_ok h C hN hF hK hs
theorem stepOp_ok {H:Hnd R} (hH:HndOK P H) (h:Rel P base w0 S0 N D sv g σ a w) (C:CfgOK P c) (hN:c.N=N) (hF:WideF F) {K:Act→World→Prop} {Q:Exit→Act→World→Prop} (hK:∀g' σ' a' w',k σ'=some res→Rel P base w0 S0 N D sv g' σ' a' w'→K a' w') {dr:Bool}
 (hs:stepOp H c dr o σ k=some res):o.wpIn F n P a w K Q:=by
 unfold stepOp at hs;split at hs
 ·rename_i f args ts hop
  split at hs
  ·exact stepCall_ok h C hN hF hK hop hs
  ·exact stepV_ok hH h C hN hF hK hop hs
 ·split at hs
  ·exact stepQ_ok h C hN hF hK hs
  ·exact stepX_ok hH h C hN hF hK hs
end
end Go.Eng
set_option linter.unusedSimpArgs false
set_option linter.unusedVariables false
set_option linter.unnecessarySimpa false
namespace Go.Eng
open Go Go.RowKit
section
variable {R R':Type} {c:Cfg} {r:Regs} {m:Mem} {o:Oper}
theorem bcase_bind (b:Bool) (x y:Option R) (k:R→Option R'):(bcase b x y).bind k=bcase b (x.bind k) (y.bind k):=by cases b<;>rfl
theorem ocase_bind {α:Type} (x:Option α) (f:α→Option R) (k:R→Option R'):(ocase x f).bind k=ocase x fun y=>(f y).bind k:=by cases x<;>rfl
theorem lcase_bind (n:Nat) (x:Option R) (k:R→Option R'):(lcase n x).bind k=lcase n (x.bind k):=by unfold lcase;split<;>rfl
theorem listOf_bind (p:At) (f:(τ:Ty)→List τ.T→Option R) (k:R→Option R'):(listOf m p f).bind k=listOf m p fun τ l=>(f τ l).bind k:=by
 unfold listOf;repeat' split
 all_goals first|rfl|simp_all
theorem cellsAt_bind (p:At) (n:Nat) (f:List At→Option R) (k:R→Option R'):(cellsAt m p n f).bind k=cellsAt m p n fun l=>(f l).bind k:=by
 unfold cellsAt;repeat' split
 all_goals first|rfl|simp_all [ocase_bind]
theorem viewAt_bind (p:At) (f:At→Option R) (k:R→Option R'):(viewAt m p f).bind k=viewAt m p fun l=>(f l).bind k:=by
 unfold viewAt;repeat' split
 all_goals first|rfl|simp_all [listOf_bind]
theorem viewL_bind:∀(l:List At) (f:List At→Option R) (k:R→Option R'),(viewL m l f).bind k=viewL m l fun l=>(f l).bind k
 | [],f,k=>rfl
 |x::l,f,k=>by simp only[viewL,viewAt_bind,viewL_bind l]
theorem viewV_bind (p:AV) (f:AV→Option R) (k:R→Option R'):(viewV m p f).bind k=viewV m p fun l=>(f l).bind k:=by
 unfold viewV;repeat' split
 all_goals first|rfl|simp_all [viewAt_bind,viewL_bind]
theorem viewVs_bind:∀(l:List AV) (f:List AV→Option R) (k:R→Option R'),(viewVs m l f).bind k=viewVs m l fun l=>(f l).bind k
 | [],f,k=>rfl
 |x::l,f,k=>by simp only[viewVs,viewV_bind,viewVs_bind l]
theorem boundsQ_bind (n:Nat) (lo hi:Option Int) (f:Nat→Nat→Option R) (k:R→Option R'):(boundsQ n lo hi f).bind k=boundsQ n lo hi fun a b=>(f a b).bind k:=by
 unfold boundsQ;repeat' split
 all_goals first|rfl|simp [bcase_bind]
theorem boundsC_bind (cp n:Nat) (lo hi:Option Int) (f:Nat→Nat→Option R) (k:R→Option R'):(boundsC cp n lo hi f).bind k=boundsC cp n lo hi fun a b=>(f a b).bind k:=by
 unfold boundsC;split<;>exact boundsQ_bind _ _ _ _ _
theorem specQ_bind (s:Spec) (as:List AV) (f:AV→Option R) (k:R→Option R'):(specQ s as f).bind k=specQ s as fun a=>(f a).bind k:=by
 unfold specQ;split
 ·simp [ocase_bind]
 ·rfl
theorem intQ_bind (op:BinOp) (κ:IntKind) (a b:Int) (f:AV→Option R) (k:R→Option R'):(intQ op κ a b f).bind k=intQ op κ a b fun a=>(f a).bind k:=by
 unfold intQ;split<;>first|rfl|simp [bcase_bind]
theorem shiftQ_bind (op:BinOp) (κ:IntKind) (a b:Int) (f:AV→Option R) (k:R→Option R'):(shiftQ op κ a b f).bind k=shiftQ op κ a b fun a=>(f a).bind k:=by
 unfold shiftQ;split<;>first|rfl|simp [bcase_bind]
theorem strQ_bind (op:BinOp) (a b:Str) (f:AV→Option R) (k:R→Option R'):(strQ op a b f).bind k=strQ op a b fun a=>(f a).bind k:=by
 unfold strQ;split<;>first|rfl|simp [lcase_bind]
theorem binQ_bind (tb:Bool) (eq:Option (List EK)) (op:BinOp) (x y:AV) (f:AV→Option R) (k:R→Option R'):(binQ tb eq op x y f).bind k=binQ tb eq op x y fun a=>(f a).bind k:=by
 unfold binQ;repeat' split
 all_goals first|rfl|simp_all [intQ_bind,shiftQ_bind,strQ_bind]
theorem unQ_bind (op:UnOp) (x:AV) (f:AV→Option R) (k:R→Option R'):(unQ op x f).bind k=unQ op x fun a=>(f a).bind k:=by
 unfold unQ;split<;>rfl
theorem cutQ_bind (τ:Ty) (l:List τ.T) (lo hi mx:Option Int) (f:AV→Option R) (k:R→Option R'):(cutQ τ l lo hi mx f).bind k=cutQ τ l lo hi mx fun a=>(f a).bind k:=by
 unfold cutQ;split<;>simp [boundsQ_bind,bcase_bind]
theorem clipQ_bind (τ:Ty) (l:List τ.T) (lo hi mx:Option Int) (f:AV→Option R) (k:R→Option R'):(clipQ τ l lo hi mx f).bind k=clipQ τ l lo hi mx fun a=>(f a).bind k:=by
 unfold clipQ;split<;>simp [cutQ_bind,bcase_bind]
theorem sliceQ_bind (t:TypeId) (x:At) (lo hi mx:Option Operand) (f:AV→Option R) (k:R→Option R'):(sliceQ c r m t x lo hi mx f).bind k=sliceQ c r m t x lo hi mx fun a=>(f a).bind k:=by
 unfold sliceQ;repeat' split
 all_goals first|rfl|simp_all [boundsQ_bind,boundsC_bind,cutQ_bind,clipQ_bind,bcase_bind]
theorem lenQ_bind (t:TypeId) (x:At) (f:AV→Option R) (k:R→Option R'):(lenQ c m t x f).bind k=lenQ c m t x fun a=>(f a).bind k:=by
 unfold lenQ;repeat' split
 all_goals first|rfl|simp_all [listOf_bind]
theorem splitK_bind (n:Int) (f:Nat→Option R) (k:R→Option R'):∀(m i:Nat),(splitK n m i f).bind k=splitK n m i fun a=>(f a).bind k
 |0,_=>rfl
 |m+1,i=>by simp only[splitK,bcase_bind,splitK_bind n f k m (i+1)]
theorem idxQ_bind (t:TypeId) (x:At) (n:Int) (f:AV→Option R) (k:R→Option R'):(idxQ c m t x n f).bind k=idxQ c m t x n fun a=>(f a).bind k:=by
 unfold idxQ;repeat' split
 all_goals first|rfl|simp_all [bcase_bind,ocase_bind,splitK_bind]
theorem evalQ_bind' (f:AV→Option R) (k:R→Option R'):(evalQ c r m o f).bind k=evalQ c r m o fun a=>(f a).bind k:=by
 unfold evalQ;repeat' split
 all_goals first|rfl|(simp_all [bcase_bind,ocase_bind,cellsAt_bind,idxQ_bind,binQ_bind,unQ_bind,listOf_bind,sliceQ_bind,lenQ_bind,viewVs_bind,specQ_bind];done) |skip
 rw[viewVs_bind];congr 1;funext as';rw[specQ_bind];congr 1;funext y;split<;>rfl
theorem evalQ_some {k:AV→Option R} {res:R} (h:evalQ c r m o k=some res):∃y,evalQ c r m o some=some y∧k y=some res:=by
 have e:=evalQ_bind' (c:=c) (r:=r) (m:=m) (o:=o) (f:=some) (k:=k);simp only[Option.bind_some] at e;rw[←e] at h;exact Option.bind_eq_some_iff.1 h
end
end Go.Eng
set_option linter.unusedSimpArgs false
set_option linter.unusedVariables false
set_option linter.unnecessarySimpa false
namespace Go.Eng
open Go Go.RowKit
section
variable {P:Program} [GlobL P] {F:Fence} {n:Nat} {c:Cfg} {g g':Gh} {r:Regs} {m:Mem} {a:Act} {w w':World} {o:Oper} {R:Type} {k:St→Option R} {res:R} {xs:List Operand}
variable {base:Nat} {w0:World} {S0:Nat→Prop} {N:Nat} {D:Wt} {sv:Nat→Value} {σ:St} {ops:Array Oper} {Q:Exit→Act→World→Prop}
theorem about_wide (hF:WideF F):∀f,o.about P w a.eval=some f→F.fn f:=fun f _=>hF.fn f
theorem yielded_eq {j d:Nat} (hj:(ops.toList.map (·.dst))[j]? =some (some d)) (hd:d<a.tmps.size):yielded ops a.tmps j=match a.tmps.getD d undef with| .bool b=>some b|_=>none:=by
 have h1:(ops[j]?).bind (·.dst)=some d:=by
  simp only[List.getElem?_map,Array.getElem?_toList] at hj;cases h:ops[j]? with
  |none=>rw[h] at hj;simp at hj
  |some o=>rw[h] at hj;simp at hj;simpa using hj
 unfold yielded;rw[h1];simp [hd];cases a.tmps[d]<;>rfl
theorem put_lt {dst:Nat} {x:AV} {σ:St} {kk:St→Option R} (h:σ.put c (some dst) x kk=some res):dst<c.N∧dst<OFF∧kk {regs:=(dst,x)::σ.regs,mem:=σ.mem,nx:=σ.nx}=some res:=by
 unfold St.put at h;simp only at h;split at h
 ·rename_i hd
  split at h
  ·rename_i ho
   exact⟨Nat.le_of_ble_eq_true hd,Nat.le_of_ble_eq_true ho,h⟩
  ·simp at h
 ·simp at h
theorem Rel.again (h:Rel P base w0 S0 N D sv g σ a w) {d:Nat} {x:AV} (hx:look d σ.regs=some x):Rel P base w0 S0 N D sv g {regs:=(d,x)::σ.regs,mem:=σ.mem,nx:=σ.nx} a w:=
 have hr:∀t y,look t ((d,x)::σ.regs)=some y→AVR g w y (vof sv a t):=by
  intro t y hy;simp only[look_cons] at hy;split at hy
  ·rename_i e;subst e;cases hy;exact h.regs _ _ hx
  ·exact h.regs t y hy
 {h with regs:=hr}
theorem guarded_ok {H:Hnd R} (hH:HndOK P H) (h:Rel P base w0 S0 N D sv g σ a w) (C:CfgOK P c) (hN:c.N=N) (hF:WideF F) {K:Act→World→Prop} {dr:Bool} {kk:St→Option R} (hK:∀g' σ' a' w',kk σ'=some res→Rel P base w0 S0 N D sv g' σ' a' w'→K a' w')
 (hs:(match o.guard with
 |none=>stepOp H c dr o σ kk
 |some (j,want)=>match (ops.toList.map (·.dst))[j]? with
  |some (some d)=>match lookT d σ.regs with
   |some (.v (.one (.bool b)))=>bcase b
    (σ.put c (some d) (.one (.bool true)) fun σ'=>match want with
     |true=>stepOp H c dr o σ' kk
     |false=>σ'.put c o.dst .undef kk)
    (σ.put c (some d) (.one (.bool false)) fun σ'=>match want with
     |true=>σ'.put c o.dst .undef kk
     |false=>stepOp H c dr o σ' kk)
   |some .undef=>σ.put c o.dst .undef kk
   |_=>none
  |_=>none)=some res):
 if Region.wanted o (yielded ops a.tmps) then o.wpIn F n P a w K Q else (∀f,o.about P w a.eval=some f→F.fn f)∧K (a.put o.dst undef) w:=by
 split at hs
 ·rename_i hg
  rw[if_pos (by simp [Region.wanted,hg])];exact stepOp_ok hH h C hN hF hK hs
 ·rename_i j want hg
  have skip:∀{σ1:St},Rel P base w0 S0 N D sv g σ1 a w→σ1.put c o.dst .undef kk=some res→Region.wanted o (yielded ops a.tmps)=false→if Region.wanted o (yielded ops a.tmps) then o.wpIn F n P a w K Q else (∀f,o.about P w a.eval=some f→F.fn f)∧K (a.put o.dst undef) w:=by
   intro σ1 h1 hp hw;rw[if_neg (by simp [hw])];obtain⟨σ2,hk,h2⟩:=h1.put (v:=undef) hN (x:= .undef) rfl hp;exact⟨about_wide hF,hK _ _ _ _ hk h2⟩
  split at hs
  ·rename_i d hd
   split at hs
   ·rename_i b hb
    have hbv:a.tmps.getD d undef= .bool b:=by
     have:=h.regs d _ (lookT_some hb).2;rw[vof_lt (lookT_some hb).1] at this;generalize a.tmps.getD d undef=u at this;cases this;rfl
    have hlt:d<c.N:=by
     rcases bcase_some hs with⟨_,hs⟩ |⟨_,hs⟩<;>exact(put_lt hs).1
    have hwant:Region.wanted o (yielded ops a.tmps)=(b==want):=by
     simp only[Region.wanted,hg,yielded_eq hd (by rw[h.size];omega),hbv];cases b<;>cases want<;>rfl
    rcases bcase_some hs with⟨rfl,hs1⟩ |⟨rfl,hs1⟩
    ·obtain⟨-, -,hs2⟩:=put_lt hs1
     have h1:=h.again (lookT_some hb).2;cases want
     ·exact skip h1 hs2 (by rw[hwant];rfl)
     ·rw[if_pos (by rw[hwant];rfl)]
      exact stepOp_ok hH h1 C hN hF hK hs2
    ·obtain⟨-, -,hs2⟩:=put_lt hs1
     have h1:=h.again (lookT_some hb).2;cases want
     ·rw[if_pos (by rw[hwant];rfl)]
      exact stepOp_ok hH h1 C hN hF hK hs2
     ·exact skip h1 hs2 (by rw[hwant];rfl)
   ·rename_i hu
    refine skip h hs ?_;have huv:a.tmps.getD d undef=undef:=by
     have:=h.regs d _ (lookT_some hu).2;rw[vof_lt (lookT_some hu).1] at this;exact this
    have:yielded ops a.tmps j=none:=by
     by_cases hlt:d<a.tmps.size
     ·rw[yielded_eq hd hlt,huv];rfl
     ·have h1:(ops[j]?).bind (·.dst)=some d:=by
       simp only[List.getElem?_map,Array.getElem?_toList] at hd;cases h:ops[j]? with
       |none=>rw[h] at hd;simp at hd
       |some o=>rw[h] at hd;simp at hd;simpa using hd
      unfold yielded;rw[h1];simp [hlt]
    simp [Region.wanted,hg,this]
   ·simp at hs
  ·simp at hs
theorem runOps_cons {H:Hnd R} {dr:Bool} {ds:List (Option Nat)} {l:List Oper}:runOps H c dr ds (o::l) σ k=(match o.guard with
 |none=>stepOp H c dr o σ (fun σ'=>runOps H c dr ds l σ' k)
 |some (j,want)=>match ds[j]? with
  |some (some d)=>match lookT d σ.regs with
   |some (.v (.one (.bool b)))=>bcase b
    (σ.put c (some d) (.one (.bool true)) fun σ'=>match want with
     |true=>stepOp H c dr o σ' (fun σ'=>runOps H c dr ds l σ' k)
     |false=>σ'.put c o.dst .undef (fun σ'=>runOps H c dr ds l σ' k))
    (σ.put c (some d) (.one (.bool false)) fun σ'=>match want with
     |true=>σ'.put c o.dst .undef (fun σ'=>runOps H c dr ds l σ' k)
     |false=>stepOp H c dr o σ' (fun σ'=>runOps H c dr ds l σ' k))
   |some .undef=>σ.put c o.dst .undef (fun σ'=>runOps H c dr ds l σ' k)
   |_=>none
  |_=>none):=rfl
theorem runOps_ok {H:Hnd R} (hH:HndOK P H) (C:CfgOK P c) (hN:c.N=N) (hF:WideF F) (hK:∀g' σ' a' w',k σ'=some res→Rel P base w0 S0 N D sv g' σ' a' w'→Q .normal a' w'):∀(l:List Oper) (i:Nat) {g:Gh} {σ:St} {a:Act} {w:World},ops.toList.drop i=l→Rel P base w0 S0 N D sv g σ a w→
 runOps H c false (ops.toList.map (·.dst)) l σ k=some res→wpOpsIn F n P ops Q (List.range' i l.length) a w
 | [],i,g,σ,a,w,_,h,hs=>hK g σ a w hs h
 |o::l,i,g,σ,a,w,hd,h,hs=>by
  have ho:ops[i]? =some o:=by
   have:(ops.toList.drop i)[0]? =some o:=by rw[hd];rfl
   simpa using this
  have hd':ops.toList.drop (i+1)=l:=by
   have:(ops.toList.drop i).drop 1=l:=by rw[hd];rfl
   rwa[List.drop_drop] at this
  rw[List.length_cons,List.range'_succ];simp only[wpOpsIn,ho];rw[runOps_cons] at hs;exact guarded_ok hH h C hN hF (fun g' σ' a' w' hk h'=>runOps_ok hH C hN hF hK l (i+1) hd' h' hk) hs
theorem region_ok {H:Hnd R} (hH:HndOK P H) (C:CfgOK P c) (hN:c.N=N) (hF:WideF F) (hK:∀g' σ' a' w',k σ'=some res→Rel P base w0 S0 N D sv g' σ' a' w'→Q .normal a' w') {id:Nat} (h:Rel P base w0 S0 N D sv g σ a w)
 (hs:runOps H c false (ops.toList.map (·.dst)) ops.toList σ k=some res):(Code.region id ops false).wpIn F n P Q a w:=by
 refine wpIn_region ?_;have:=runOps_ok (n:=n) hH C hN hF hK ops.toList 0 (by simp) h hs;rw[List.range_eq_range'];simpa using this
end
end Go.Eng
set_option linter.unusedSimpArgs false
set_option linter.unusedVariables false
set_option linter.unnecessarySimpa false
namespace Go.Eng
open Go Go.RowKit
section
variable {P:Program} [GlobL P] {F:Fence} {n:Nat} {c:Cfg} {g g':Gh} {r:Regs} {m:Mem} {a:Act} {w w':World} {o:Oper} {R:Type} {k:St→Option R} {res:R} {xs:List Operand}
variable {base:Nat} {w0:World} {S0:Nat→Prop} {N:Nat} {D:Wt} {sv:Nat→Value} {σ:St} {ops:Array Oper} {Q:Exit→Act→World→Prop} {ds:List (Option Nat)}
theorem okFrom_spec {x:Oper} {i:Nat}:∀{l:List (Oper×Nat)},okFrom c ds i x l=true→∀y∈l,clash c ds x y.1=true→Nat.testBit y.2 i=true
 | [],_,y,hy,_=>by simp at hy
 |z::l,h,y,hy,hc=>by
  unfold okFrom at h;split at h
  ·split at h
   ·rename_i hb
    rcases List.mem_cons.1 hy with rfl|hy
    ·exact hb
    ·exact okFrom_spec h y hy hc
   ·simp at h
  ·rename_i hcl
   rcases List.mem_cons.1 hy with rfl|hy
   ·rw[hc] at hcl;cases hcl
   ·exact okFrom_spec h y hy hc
theorem okAll_spec:∀{l:List (Oper×Nat)} {i:Nat},okAll c ds i l=true→∀{p q:Nat} {x y:Oper×Nat},p<q→l[p]? =some x→l[q]? =some y→clash c ds x.1 y.1=true→Nat.testBit y.2 (i+p)=true
 | [],i,_,p,q,x,y,_,hx,_,_=>by simp at hx
 |z::l,i,h,p,q,x,y,hpq,hx,hy,hc=>by
  unfold okAll at h;split at h
  ·rename_i hf
   cases q with
   |zero=>omega
   |succ q=>
    simp at hy;cases p with
    |zero=>
     simp at hx;subst hx;exact okFrom_spec hf y (List.mem_of_getElem? hy) hc
    |succ p=>
     simp at hx;have:=okAll_spec h (by omega:p<q) hx hy hc;rw[show i+(p+1)=i+1+p from by omega];exact this
  ·simp at h
theorem edgesBack_spec:∀{l:List Oper} {i:Nat},edgesBack i l=true→∀{p:Nat} {o:Oper},l[p]? =some o→∀e∈o.after,bindsAny e=true→e.on<i+p
 | [],i,_,p,o,ho,_,_,_=>by simp at ho
 |z::l,i,h,p,o,ho,e,he,hb=>by
  unfold edgesBack at h;split at h
  ·rename_i hz
   cases p with
   |zero=>
    simp at ho;subst ho;have:=(List.all_eq_true.1 hz) e (by simpa using he);rw[hb] at this;exact Nat.le_of_ble_eq_true this
   |succ p=>
    have:=edgesBack_spec h (p:=p) (by simpa using ho) e he hb;omega
  ·simp at h
theorem befores_spec:∀(l:List Oper) (acc:List Nat),∃rest,befores acc l=acc++rest∧rest.length=l.length∧∀q o,l[q]? =some o→rest[q]? =some (beforeOf (acc++rest.take q) o)
 | [],acc=>⟨[],by simp [befores],rfl,fun q o h=>by simp at h⟩
 |o::l,acc=>by
  obtain⟨rest,h1,h2,h3⟩:=befores_spec l (acc++[beforeOf acc o]);refine⟨beforeOf acc o::rest,by simp only[befores,h1];simp,by simp [h2],fun q o' h=> ?_⟩;cases q with
  |zero=>simp at h;subst h;simp
  |succ q=>
   have:=h3 q o' (by simpa using h);simp only[List.getElem?_cons_succ,this,List.take_succ_cons];simp
theorem beforeOf_spec {acc:List Nat} {i:Nat}:∀(l:List Edge) (s:Nat),Nat.testBit (l.foldl (fun s e=>match bindsAny e with|true=>(s|||2^e.on)|||acc.getD e.on 0|false=>s) s) i=true→
 Nat.testBit s i=true∨∃e∈l,bindsAny e=true∧(i=e.on∨Nat.testBit (acc.getD e.on 0) i=true)
 | [],s,h=> .inl h
 |e::l,s,h=>by
  simp only[List.foldl_cons] at h;rcases beforeOf_spec l _ h with h1|⟨e',he',h1⟩
  ·split at h1
   ·rename_i hb
    simp only[Nat.testBit_or,Bool.or_eq_true,Nat.testBit_two_pow,decide_eq_true_eq] at h1;rcases h1 with(h1|h1) |h1
    ·exact .inl h1
    ·exact .inr ⟨e,by simp,hb, .inl h1.symm⟩
    ·exact .inr ⟨e,by simp,hb, .inr h1⟩
   ·exact .inl h1
  ·exact .inr ⟨e',by simp [he'],h1⟩
def Closed (ops:Array Oper) (L:Array Bool):Prop:=∀(p:Nat) (o:Oper),ops[p]? =some o→L.getD p false=true→∀e∈o.after,bindsAny e=true→L.getD e.on false=true
theorem closed_bits {L:Array Bool} (hc:Closed ops L) (hb:edgesBack 0 ops.toList=true):∀(j:Nat) (o:Oper) (b:Nat),ops[j]? =some o→(befores [] ops.toList)[j]? =some b→(∀e∈o.after,bindsAny e=true→L.getD e.on false=true)→
 ∀i,Nat.testBit b i=true→L.getD i false=true:=by
 obtain⟨rest,h1,h2,h3⟩:=befores_spec ops.toList [];simp only[List.nil_append] at h1 h3;intro j;induction j using Nat.strongRecOn with
 |_ j ih=>
  intro o b ho hbj he i hi;rw[h1] at hbj ih;have:=h3 j o (by simpa using ho);rw[hbj] at this;cases this;unfold beforeOf at hi;rcases beforeOf_spec _ _ hi with h0|⟨e,hea,heb,h4⟩
  ·simp at h0
  ·have hea:e∈o.after:=by simpa using hea
   rcases h4 with rfl|h4
   ·exact he e hea heb
   ·have hlt:=edgesBack_spec hb (p:=j) (by simpa using ho) e hea heb
    simp only[Nat.zero_add] at hlt;have hjs:j<ops.size:=(Array.getElem?_eq_some_iff.1 ho).1;have hlt':e.on<rest.length:=by rw[h2];simp;omega
    have hLe:=he e hea heb;obtain⟨oe,hoe⟩:∃oe,ops[e.on]? =some oe:=⟨ops[e.on],by simp⟩;rw[List.getD_eq_getElem?_getD,List.getElem?_take_of_lt hlt,List.getElem?_eq_getElem hlt'] at h4;exact ih e.on hlt oe rest[e.on] hoe (List.getElem?_eq_getElem hlt') (fun e' he' hb'=>hc e.on oe hoe hLe e' he' hb') i (by simpa using h4)
theorem clash_before {L:Array Bool} (ho:orderOK c ops.toList=true) (hc:Closed ops L) {i j:Nat} {x y:Oper} (hij:i<j) (hx:ops[i]? =some x) (hy:ops[j]? =some y) (hcl:clash c (ops.toList.map (·.dst)) x y=true)
 (he:∀e∈y.after,bindsAny e=true→L.getD e.on false=true):L.getD i false=true:=by
 unfold orderOK at ho;split at ho
 ·rename_i hb
  obtain⟨rest,h1,h2,h3⟩:=befores_spec ops.toList [];simp only[List.nil_append] at h1 h3;have hjs:j<ops.size:=(Array.getElem?_eq_some_iff.1 hy).1;have hjr:j<rest.length:=by rw[h2];simpa using hjs
  have hir:i<rest.length:=by omega
  have z:∀{q:Nat} {u:Oper} (hq:q<rest.length),ops[q]? =some u→(ops.toList.zip (befores [] ops.toList))[q]? =some (u,rest[q]):=by
   intro q u hq hu;rw[h1];rw[List.getElem?_zip_eq_some];exact⟨by simpa using hu,List.getElem?_eq_getElem hq⟩
  have hbit:=okAll_spec ho hij (z hir hx) (z hjr hy) hcl;simp only[Nat.zero_add] at hbit;exact closed_bits hc hb j y rest[j] hy (by rw[h1];exact List.getElem?_eq_getElem hjr) he i hbit
 ·simp at ho
def pushD (d:Option Nat) (y:AV) (r:Regs):Regs:=
 match d with
 |none=>r
 |some d=>(d,y)::r
abbrev Tr:=List (Option Nat×AV)
def regsF:Tr→Regs→Regs
 | [],r=>r
 |x::l,r=>regsF l (pushD x.1 x.2 r)
def regsL (L:Nat→Bool):Nat→Tr→Regs→Regs
 |_, [],r=>r
 |i,x::l,r=>regsL L (i+1) l (if L i then pushD x.1 x.2 r else r)
theorem look_pushD {d:Option Nat} {y:AV} {t:Nat}:look t (pushD d y r)=if d=some t then some y else look t r:=by
 cases d with
 |none=>simp [pushD]
 |some d=>simp [pushD,look_cons]
theorem regsF_congr {t:Nat}:∀{tr:Tr} {r r':Regs},look t r=look t r'→look t (regsF tr r)=look t (regsF tr r')
 | [],_,_,h=>h
 |x::l,r,r',h=>by
  simp only[regsF];refine regsF_congr ?_;simp only[look_pushD,h]
theorem look_regsL {L:Nat→Bool} {t:Nat}:∀{tr:Tr} {i p:Nat} {r r':Regs},look t r=look t r'→(∀q x,tr[q]? =some x→x.1=some t→(q<p↔L (i+q)=true))→look t (regsL L i tr r)=look t (regsF (tr.take p) r')
 | [],i,p,r,r',h,_=>by simpa [regsL,regsF] using h
 |x::l,i,p,r,r',h,hL=>by
  have h0:=hL 0 x (by simp);simp only[regsL];cases p with
  |zero=>
   have:=look_regsL (L:=L) (t:=t) (tr:=l) (i:=i+1) (p:=0) (r:=if L i then pushD x.1 x.2 r else r) (r':=r') (by
    split
    ·rename_i hl
     rw[look_pushD];split
     ·rename_i e
      have:=(h0 e).2 (by simpa using hl);omega
     ·exact h
    ·exact h) (fun q x hq hx=>by
     have:=hL (q+1) x (by simpa using hq) hx;rw[show i+1+q=i+(q+1) from by omega,←this];omega)
   simpa [regsF] using this
  |succ p=>
   simp only[List.take_succ_cons,regsF];refine look_regsL ?_ (fun q x hq hx=> ?_)
   ·by_cases e:x.1=some t
    ·have:=(h0 e).1 (by omega)
     simp only[Nat.add_zero] at this;rw[if_pos this];simp only[look_pushD,if_pos e]
    ·rw[look_pushD,if_neg e]
     split
     ·rw[look_pushD,if_neg e];exact h
     ·exact h
   ·have:=hL (q+1) x (by simpa using hq) hx
    rw[show i+1+q=i+(q+1) from by omega,←this];omega
theorem look_regsL_eq {L L':Nat→Bool} {t:Nat}:∀{tr:Tr} {i:Nat} {r r':Regs},look t r=look t r'→(∀q x,tr[q]? =some x→x.1=some t→L (i+q)=L' (i+q))→look t (regsL L i tr r)=look t (regsL L' i tr r')
 | [],i,r,r',h,_=>h
 |x::l,i,r,r',h,hL=>by
  simp only[regsL];refine look_regsL_eq ?_ (fun q y hq hy=>by
   have:=hL (q+1) y (by simpa using hq) hy;rwa[show i+1+q=i+(q+1) from by omega])
  by_cases e:x.1=some t
  ·have:=hL 0 x (by simp) e
   simp only[Nat.add_zero] at this;rw[this];split
   ·simp only[look_pushD,if_pos e]
   ·exact h
  ·split<;>split<;>simp only[look_pushD,if_neg e,h]
theorem look_regsL_at {L:Nat→Bool} {t:Nat} {y:AV}:∀{tr:Tr} {i p:Nat} {r:Regs},tr[p]? =some (some t,y)→L (i+p)=true→(∀q x,p<q→tr[q]? =some x→x.1=some t→L (i+q)=false)→look t (regsL L i tr r)=some y
 | [],i,p,r,h,_,_=>by simp at h
 |x::l,i,0,r,h,h0,hL=>by
  simp at h;subst h;simp only[regsL];simp only[Nat.add_zero] at h0;rw[if_pos h0,look_regsL (p:=0) (r':=pushD (some t) y r) rfl (fun q x hq hx=> ?_)]
  ·simp [regsF,look_pushD]
  ·have:=hL (q+1) x (by omega) (by simpa using hq) hx
   rw[show i+1+q=i+(q+1) from by omega,this];simp
 |x::l,i,p+1,r,h,h0,hL=>by
  simp only[regsL];refine look_regsL_at (p:=p) (by simpa using h) (by rw[show i+1+p=i+(p+1) from by omega];exact h0) (fun q y hq hy he=> ?_);rw[show i+1+q=i+(q+1) from by omega];exact hL (q+1) y (by omega) (by simpa using hy) he
def StepQ (c:Cfg) (ds:List (Option Nat)) (o:Oper) (r:Regs) (m:Mem) (y:AV):Prop:=
 (o.guard=none∧evalQ c r m o some=some y)∨
 (∃j want d,o.guard=some (j,want)∧ds[j]? =some (some d)∧
  ((∃b,lookT d r=some (.one (.bool b))∧d<c.N∧((b=want∧evalQ c r m o some=some y)∨(b≠want∧y= .undef)))∨(lookT d r=some .undef∧y= .undef)))
theorem put_pushD {dst:Option Nat} {x:AV} {σ:St} {kk:St→Option R} (h:σ.put c dst x kk=some res):(∀d,dst=some d→d<c.N∧d<OFF)∧kk {regs:=pushD dst x σ.regs,mem:=σ.mem,nx:=σ.nx}=some res:=by
 cases dst with
 |none=>exact⟨fun d h=>(by cases h),h⟩
 |some d=>obtain⟨h1,h0,h2⟩:=put_lt h;exact⟨fun d' h=>(by cases h;exact⟨h1,h0⟩),h2⟩
theorem stepOp_Q {H:Hnd R} {σ:St} {kk:St→Option R} (hq:isQ c o.op=true) (h:stepOp H c true o σ kk=some res):∃y,evalQ c σ.regs σ.mem o some=some y∧(∀d,o.dst=some d→d<c.N∧d<OFF)∧kk {regs:=pushD o.dst y σ.regs,mem:=σ.mem,nx:=σ.nx}=some res:=by
 simp only[stepOp,hq] at h;obtain⟨y,h1,h2⟩:=evalQ_some h;exact⟨y,h1,put_pushD h2⟩
theorem stepQ_of {H:Hnd R} {l:List Oper} (hq:isQ c o.op=true) (h:runOps H c true ds (o::l) σ k=some res):∃(r:Regs) (y:AV),(∀t,look t r=look t σ.regs)∧StepQ c ds o r σ.mem y∧(∀d,o.dst=some d→d<c.N∧d<OFF)∧runOps H c true ds l {regs:=pushD o.dst y r,mem:=σ.mem,nx:=σ.nx} k=some res:=by
 rw[runOps_cons] at h;split at h
 ·rename_i hg
  obtain⟨y,h1,h2,h3⟩:=stepOp_Q hq h;exact⟨σ.regs,y,fun _=>rfl, .inl ⟨hg,h1⟩,h2,h3⟩
 ·rename_i j want hg
  split at h
  ·rename_i d hd
   split at h
   ·rename_i b hb
    have again:∀{b:Bool},lookT d σ.regs=some (.one (.bool b))→∀t,look t ((d,AV.one (.bool b))::σ.regs)=look t σ.regs:=by
     intro b hb t;have hb:=(lookT_some hb).2;rw[look_cons];split
     ·rename_i e;subst e;exact hb.symm
     ·rfl
    have fin:∀{b:Bool},lookT d σ.regs=some (.one (.bool b))→d<c.N→(match (b==want) with
     |true=>stepOp H c true o {regs:=(d, .one (.bool b))::σ.regs,mem:=σ.mem,nx:=σ.nx} fun σ'=>runOps H c true ds l σ' k
     |false=>St.put c {regs:=(d, .one (.bool b))::σ.regs,mem:=σ.mem,nx:=σ.nx} o.dst .undef fun σ'=>runOps H c true ds l σ' k)=some res→∃(r:Regs) (y:AV),(∀t,look t r=look t σ.regs)∧StepQ c ds o r σ.mem y∧(∀d,o.dst=some d→d<c.N∧d<OFF)∧runOps H c true ds l {regs:=pushD o.dst y r,mem:=σ.mem,nx:=σ.nx} k=some res:=by
     intro b hb hlt h;split at h
     ·rename_i e
      obtain⟨y,h1,h2,h3⟩:=stepOp_Q hq h;exact⟨_,y,again hb, .inr ⟨j,want,d,hg,hd, .inl ⟨b,by rw[lookT_congr (again hb _)];exact hb,hlt, .inl ⟨by simpa using e,h1⟩⟩⟩,h2,h3⟩
     ·rename_i e
      obtain⟨h2,h3⟩:=put_pushD h;exact⟨_, .undef,again hb, .inr ⟨j,want,d,hg,hd, .inl ⟨b,by rw[lookT_congr (again hb _)];exact hb,hlt, .inr ⟨by simpa using e,rfl⟩⟩⟩,h2,h3⟩
    rcases bcase_some h with⟨rfl,h1⟩ |⟨rfl,h1⟩
    ·obtain⟨hlt, -,h2⟩:=put_lt h1
     refine fin hb hlt ?_;cases want<;>exact h2
    ·obtain⟨hlt, -,h2⟩:=put_lt h1
     refine fin hb hlt ?_;cases want<;>exact h2
   ·rename_i hu
    obtain⟨h2,h3⟩:=put_pushD h;exact⟨_, .undef,fun _=>rfl, .inr ⟨j,want,d,hg,hd, .inr ⟨hu,rfl⟩⟩,h2,h3⟩
   ·simp at h
  ·simp at h
structure Seg (H:Hnd R) (c:Cfg) (ds:List (Option Nat)) (k:St→Option R) (res:R) (σ:St) (l:List Oper) (tr:Tr) (σe:St):Prop where
 le:tr.length≤l.length
 rest:runOps H c true ds (l.drop tr.length) σe k=some res
 head:∀o,l[tr.length]? =some o→isQ c o.op=false
 mem:σe.mem=σ.mem
 nx:σe.nx=σ.nx
 regs:∀t,look t σe.regs=look t (regsF tr σ.regs)
 step:∀p o x,l[p]? =some o→tr[p]? =some x→isQ c o.op=true∧x.1=o.dst∧(∀d,o.dst=some d→d<c.N∧d<OFF)∧∃r,(∀t,look t r=look t (regsF (tr.take p) σ.regs))∧StepQ c ds o r σ.mem x.2
theorem mkSeg {H:Hnd R}:∀(l:List Oper) (σ:St),runOps H c true ds l σ k=some res→∃tr σe,Seg H c ds k res σ l tr σe
 | [],σ,h=>⟨[],σ,by simp,by simpa using h,fun o h=>by simp at h,rfl,rfl,fun _=>rfl,fun p o x h=>by simp at h⟩
 |o::l,σ,h=>by
  cases hq:isQ c o.op with
  |false=>exact⟨[],σ,by simp,by simpa using h,fun o' h=>by simp at h;subst h;exact hq,rfl,rfl,fun _=>rfl,fun p o' x _ h=>by simp at h⟩
  |true=>
   obtain⟨r,y,hr,hs,hd,h1⟩:=stepQ_of hq h;obtain⟨tr,σe,S⟩:=mkSeg l _ h1;have hpr:∀t,look t (pushD o.dst y r)=look t (pushD o.dst y σ.regs):=fun t=>by simp only[look_pushD,hr]
   refine⟨(o.dst,y)::tr,σe,by have:=S.le;simp;omega,by simpa using S.rest,fun o' h=>S.head o' (by simpa using h),S.mem,S.nx,fun t=>(S.regs t).trans (regsF_congr (hpr t)),fun p o' x hp hx=> ?_⟩;cases p with
   |zero=>
    simp at hp hx;subst hp;subst hx;exact⟨hq,rfl,hd,r,by simpa [regsF] using hr,hs⟩
   |succ p=>
    obtain⟨h1,h2,h3,r',h4,h5⟩:=S.step p o' x (by simpa using hp) (by simpa using hx);exact⟨h1,h2,h3,r',fun t=>by rw[h4];simpa [regsF] using regsF_congr (hpr t),h5⟩
end
end Go.Eng
set_option linter.unusedSimpArgs false
set_option linter.unusedVariables false
set_option linter.unnecessarySimpa false
namespace Go.Eng
open Go Go.RowKit
section
variable {P:Program} [GlobL P] {F:Fence} {n:Nat} {c:Cfg} {g g':Gh} {r:Regs} {m:Mem} {a:Act} {w w':World} {o:Oper} {R:Type} {k:St→Option R} {res:R} {xs:List Operand}
variable {base:Nat} {w0:World} {S0:Nat→Prop} {N:Nat} {D:Wt} {sv:Nat→Value} {σ:St} {ops:Array Oper} {Q:Exit→Act→World→Prop}
theorem looks_of {t:Nat} (h:t∈opTmps o) (ds:List (Option Nat)):t∈looksOf ds o:=by
 unfold looksOf;split
 ·exact h
 ·split
  ·exact List.mem_cons_of_mem _ h
  ·exact h
theorem looks_guard {ds:List (Option Nat)} {j d:Nat} {want:Bool} (hg:o.guard=some (j,want)) (hd:ds[j]? =some (some d)):d∈looksOf ds o:=by
 unfold looksOf;rw[hg];simp [hd]
theorem hasN_mem {n:Nat}:∀{l:List Nat},hasN n l=true↔n∈l
 | [] =>by simp [hasN]
 |m::l=>by
  unfold hasN;split
  ·rename_i h;have:=Nat.eq_of_beq_eq_true h;subst this;simp
  ·rename_i h
   have h:m≠n:=fun e=>by subst e;simp at h
   rw[hasN_mem];simp [Ne.symm h]
theorem clash_l {ds:List (Option Nat)} {x y:Oper} {t:Nat} (hx:x.dst=some t) (hy:t∈looksOf ds y):clash c ds x y=true:=by
 unfold clash;split
 ·simp [dstIn,hx,hasN_mem.2 hy]
 ·rfl
theorem clash_r {ds:List (Option Nat)} {x y:Oper} {t:Nat} (hy:y.dst=some t) (hx:t∈looksOf ds x):clash c ds x y=true:=by
 unfold clash;split
 ·simp [dstIn,hy,hasN_mem.2 hx]
 ·rfl
theorem clash_d {ds:List (Option Nat)} {x y:Oper} {t:Nat} (hx:x.dst=some t) (hy:y.dst=some t):clash c ds x y=true:=by
 unfold clash;split
 ·simp [sameDst,hx,hy]
 ·rfl
theorem clash_b {ds:List (Option Nat)} {x y:Oper} (h:isQ c x.op=false∨isQ c y.op=false):clash c ds x y=true:=by
 unfold clash;split
 ·rename_i h1 h2
  rcases h with h|h
  ·rw[h1] at h;cases h
  ·rw[h2] at h;cases h
 ·rfl
structure Inv (P:Program) [GlobL P] (H:Hnd R) (sv:Nat→Value) (base:Nat) (w0:World) (S0:Nat→Prop) (N:Nat) (D:Wt) (c:Cfg) (ops:Array Oper) (k:St→Option R) (res:R) (s:Nat) (σ:St) (tr:Tr) (σe:St) (L:Array Bool) (g:Gh) (a:Act) (w:World):Prop where
 size:L.size=ops.size
 closed:Closed ops L
 sz:s≤ops.size
 low:∀p,p<s→L.getD p false=true
 high:∀p,L.getD p false=true→p<s+tr.length
 rel:Rel P base w0 S0 N D sv g {regs:=regsL (fun i=>L.getD i false) s tr σ.regs,mem:=σ.mem,nx:=σ.nx} a w
 seg:Seg H c (ops.toList.map (·.dst)) k res σ (ops.toList.drop s) tr σe
theorem drop_get {l:List Oper} {i:Nat} (h:l[i]? =some o):l.drop i=o::l.drop (i+1):=by
 have hi:=(List.getElem?_eq_some_iff.1 h).1;rw[List.drop_eq_getElem_cons hi];congr 1;exact(List.getElem?_eq_some_iff.1 h).2
theorem Inv.done {H:Hnd R} {s:Nat} {tr:Tr} {σe:St} {L:Array Bool} (I:Inv P H sv base w0 S0 N D c ops k res s σ tr σe L g a w) (hall:∀p,p<ops.size→L.getD p false=true):k σe=some res∧Rel P base w0 S0 N D sv g σe a w:=by
 have he:s+tr.length=ops.size:=by
  have h1:=I.seg.le;simp at h1;rcases Nat.lt_or_ge (s+tr.length) ops.size with h|h
  ·have:=I.high _ (hall _ h);omega
  ·have:=I.sz;omega
 refine⟨?_, ?_⟩
 ·have:=I.seg.rest
  rw[List.drop_drop,he,List.drop_eq_nil_of_le (by simp)] at this;exact this
 ·have hrel:=I.rel
  refine{hrel with regs:=fun t x hx=>hrel.regs t x ?_,mem:=by rw[I.seg.mem];exact hrel.mem,inj:=by rw[I.seg.mem];exact hrel.inj,own:=by rw[I.seg.mem];exact hrel.own,lp:=by rw[I.seg.mem];exact hrel.lp,nx:=by rw[I.seg.nx];exact hrel.nx};rw[I.seg.regs] at hx;rw[look_regsL (p:=tr.length) (r':=σ.regs) rfl (fun q x hq _=> ?_),List.take_length]
  ·exact hx
  ·have hq:=(List.getElem?_eq_some_iff.1 hq).1
   exact⟨fun _=>hall _ (by omega),fun _=>hq⟩
theorem full_of_ready {L:Array Bool} (hs:L.size=ops.size) (hb:edgesBack 0 ops.toList=true) (hr:Region.ready .any ops L= []):∀p,p<ops.size→L.getD p false=true:=by
 intro p;induction p using Nat.strongRecOn with
 |_ p ih=>
  intro hp;cases hL:L.getD p false with
  |true=>rfl
  |false=>
   have hmem:p∈Region.ready .any ops L:=by
    rw[mem_ready];refine⟨?_,ops[p],by simp,fun e he hbe=> ?_⟩
    ·have:p<L.size:=by omega
     simp [this] at hL⊢;exact hL
    ·have hlt:=edgesBack_spec hb (p:=p) (o:=ops[p]) (by simp) e he (by
      have:Region.binds .any e=bindsAny e:=by unfold Region.binds bindsAny;cases e.ground<;>rfl
      rw[←this];exact hbe)
     exact ih e.on (by omega) (by omega)
   rw[hr] at hmem;cases hmem
theorem count_false {L:Array Bool} {i:Nat} (hi:i<L.size) (h:L.getD i false=false):(L.setIfInBounds i true).toList.count false+1=L.toList.count false:=by
 have hL:L[i]=false:=by simpa [hi] using h
 simp only[Array.toList_setIfInBounds];rw[List.count_eq_countP,List.count_eq_countP,List.countP_set (by simpa using hi)];simp [hL];have:0<List.countP (fun x=>x==false) L.toList:=by
  rw[List.countP_pos_iff];exact⟨L[i],by simp,by simp [hL]⟩
 have e:List.countP (fun x=>x==false) L.toList=Array.countP (fun x=> !x) L:=by
  rw[←Array.countP_toList];congr 1;funext x;cases x<;>rfl
 rw[e] at this;omega
theorem full_of_count {L:Array Bool} (h:L.toList.count false=0):∀p,p<L.size→L.getD p false=true:=by
 intro p hp;cases hL:L.getD p false with
 |true=>rfl
 |false=>
  have h1:L[p]=false:=by simpa [hp] using hL
  rw[List.count_eq_zero] at h;exact(h (by rw[←h1];simp)).elim
theorem Closed.set {L:Array Bool} (h:Closed ops L) {j:Nat} (hj:ops[j]? =some o) (he:∀e∈o.after,bindsAny e=true→L.getD e.on false=true):Closed ops (L.setIfInBounds j true):=by
 intro p o' ho' hp e hea hb;refine getD_set_true ?_;by_cases e':j=p
 ·subst e'
  rw[hj] at ho';cases ho';exact he e hea hb
 ·rw[getD_set_ne false e'] at hp
  exact h p o' ho' hp e hea hb
theorem binds_any (e:Edge):Region.binds .any e=bindsAny e:=by unfold Region.binds bindsAny;cases e.ground<;>rfl
theorem getD_false {L:Array Bool} {j:Nat} (h:L.getD j true=false):j<L.size∧L.getD j false=false:=by
 rcases Nat.lt_or_ge j L.size with h'|h'
 ·simp [h'] at h⊢;exact h
 ·simp [Array.getElem?_eq_none h'] at h
theorem any_ok {H:Hnd R} (hH:HndOK P H) (C:CfgOK P c) (hN:c.N=N) (hF:WideF F) (ho:orderOK c ops.toList=true) (hK:∀g' σ' a' w',k σ'=some res→Rel P base w0 S0 N D sv g' σ' a' w'→Q .normal a' w'):
 ∀(fuel:Nat) {s:Nat} {σ:St} {tr:Tr} {σe:St} {L:Array Bool} {g:Gh} {a:Act} {w:World},Inv P H sv base w0 S0 N D c ops k res s σ tr σe L g a w→L.toList.count false≤fuel→wpAnyIn F n P .any ops Q fuel L a w:=by
 have hb:edgesBack 0 ops.toList=true:=by
  unfold orderOK at ho;split at ho
  ·assumption
  ·simp at ho
 intro fuel;induction fuel with
 |zero=>
  intro s σ tr σe L g a w I hf;have hall:=full_of_count (by omega:L.toList.count false=0);refine⟨?_, ?_⟩
  ·cases hr:Region.ready .any ops L with
   |nil=>rfl
   |cons j _=>
    have hj:j∈Region.ready .any ops L:=by rw[hr];simp
    obtain⟨h1,h2⟩:=getD_false (mem_ready.1 hj).1;rw[hall j h1] at h2;cases h2
  ·obtain⟨h1,h2⟩:=I.done (fun p hp=>hall p (by rw[I.size];exact hp))
   exact hK _ _ _ _ h1 h2
 |succ fuel ih=>
  intro s σ tr σe L g a w I hf;refine⟨fun hr=> ?_,fun j hj=> ?_⟩
  ·obtain⟨h1,h2⟩:=I.done (full_of_ready I.size hb hr)
   exact hK _ _ _ _ h1 h2
  ·obtain⟨hun,oj,hoj,hall⟩:=mem_ready.1 hj
   obtain⟨hjL,hun⟩:=getD_false hun;have hedge:∀e∈oj.after,bindsAny e=true→L.getD e.on false=true:=fun e he hbe=>hall e he (by rw[binds_any];exact hbe)
   have hcnt:=count_false hjL hun;have hclosed':=I.closed.set hoj hedge;have before:∀{i:Nat} {x:Oper},i<j→ops[i]? =some x→clash c (ops.toList.map (·.dst)) x oj=true→L.getD i false=true:=fun hij hx hcl=>clash_before ho I.closed hij hx hoj hcl hedge
   have behind:∀{i:Nat} {y:Oper},j<i→ops[i]? =some y→clash c (ops.toList.map (·.dst)) oj y=true→L.getD i false=false:=by
    intro i y hji hy hcl;cases hLi:L.getD i false with
    |false=>rfl
    |true=>
     have:=clash_before ho I.closed hji hoj hy hcl (fun e he hbe=>I.closed i y hy hLi e he hbe);rw[hun] at this;cases this
   have hjs:s≤j:=by
    rcases Nat.lt_or_ge j s with h|h
    ·have:=I.low j h;rw[hun] at this;cases this
    ·exact h
   have hjsz:j<ops.size:=by rw[←I.size];exact hjL
   have htl:s+tr.length≤ops.size:=by have:=I.seg.le;simp at this;have:=I.sz;omega
   have seg_get:∀{q:Nat} {u:Oper},ops[s+q]? =some u→(ops.toList.drop s)[q]? =some u:=fun h=>by simpa using h
   have hLs:∀{i:Nat},i≠j→(L.setIfInBounds j true).getD i false=L.getD i false:=fun h=>getD_set_ne false (Ne.symm h)
   have hLj:(L.setIfInBounds j true).getD j false=true:=by simp [hjL]
   by_cases hjt:j<s+tr.length
   ·
    obtain⟨p,rfl⟩:∃p,j=s+p:=⟨j - s,by omega⟩;have hp:p<tr.length:=by omega
    obtain⟨hq,hxd,hdN,r,hr,hst⟩:=I.seg.step p oj tr[p] (seg_get hoj) (by simp [hp]);have tr_dst:∀{q:Nat} {x:Option Nat×AV},tr[q]? =some x→∃u,ops[s+q]? =some u∧x.1=u.dst:=by
     intro q x hx;have hlt:=(List.getElem?_eq_some_iff.1 hx).1;have h1:ops[s+q]? =some ops[s+q]:=by simp
     exact⟨_,h1,(I.seg.step q _ x (seg_get h1) hx).2.1⟩
    have agree:∀t,t∈looksOf (ops.toList.map (·.dst)) oj→look t (regsL (fun i=>L.getD i false) s tr σ.regs)=look t r:=by
     intro t ht;rw[hr,look_regsL (p:=p) (r':=σ.regs) rfl];intro q x hx hxt;obtain⟨u,hu,hxu⟩:=tr_dst hx;rw[hxu] at hxt;constructor
     ·intro hqp
      exact before (by omega) hu (clash_l hxt ht)
     ·intro hLq
      rcases Nat.lt_or_ge q p with h|h
      ·exact h
      ·exfalso
       rcases Nat.lt_or_ge p q with h'|h'
       ·rw[behind (by omega:s+p<s+q) hu (clash_r hxt ht)] at hLq;cases hLq
       ·have:q=p:=by omega
        subst this;rw[hun] at hLq;cases hLq
    have upd:∀{g1:Gh} {w1:World} {v:Value},Rel P base w0 S0 N D sv g1 {regs:=regsL (fun i=>L.getD i false) s tr σ.regs,mem:=σ.mem,nx:=σ.nx} a w1→AVR g1 w1 tr[p].2 v→wpAnyIn F n P .any ops Q fuel (L.setIfInBounds (s+p) true) (a.put oj.dst v) w1:=by
     intro g1 w1 v hrel hv;refine ih (s:=s) (σ:=σ) (tr:=tr) (σe:=σe) (g:=g1) ⟨by simp [I.size],hclosed',I.sz,fun q hq=>getD_set_true (I.low q hq),fun q hq=> ?_, ?_,I.seg⟩ (by omega)
     ·by_cases e:q=s+p
      ·omega
      ·rw[hLs e] at hq;exact I.high q hq
     ·refine{hrel with regs:=fun t x hx=> ?_,size:= ?_,dfr:= ?_ }
      ·by_cases e:oj.dst=some t
       ·rw[look_regsL_at (p:=p) (y:=tr[p].2) (by rw[List.getElem?_eq_getElem hp,←e,←hxd]) hLj (fun q x' hpq hx' hxt=> ?_)] at hx
        ·cases hx
         rw[e,vof_put (hdN t e).2 (by rw[hrel.size,←hN];exact(hdN t e).1),if_pos rfl];exact hv
        ·obtain⟨u,hu,hxu⟩:=tr_dst hx'
         rw[hxu] at hxt;rw[hLs (by omega)];exact behind (by omega) hu (clash_d e hxt)
       ·have notp:∀{q:Nat} {x':Option Nat×AV},tr[q]? =some x'→x'.1=some t→¬s+q=s+p:=by
         intro q x' hx' hxt e';have e9:q=p:=by omega
         rw[e9,List.getElem?_eq_getElem hp] at hx';have e8:tr[p]=x':=Option.some.inj hx';exact e (by rw[←hxd,e8];exact hxt)
        rw[look_regsL_eq (L':=fun i=>L.getD i false) (r':=σ.regs) rfl (fun q x' hx' hxt=>hLs (fun e'=>notp hx' hxt e'))] at hx
        ·cases hd:oj.dst with
         |none=>exact hrel.regs t x hx
         |some d=>
          rw[vof_put (hdN d hd).2 (by rw[hrel.size,←hN];exact(hdN d hd).1),if_neg (fun e'=>e (by rw[hd,e']))];exact hrel.regs t x hx
      ·have:=hrel.size
       cases hd:oj.dst<;>simpa [Act.put] using this
      ·have:=hrel.dfr
       cases hd:oj.dst<;>simpa [Act.put] using this
    have run:evalQ c r σ.mem oj some=some tr[p].2→oj.wpIn F n P a w (wpAnyIn F n P .any ops Q fuel (L.setIfInBounds (s+p) true)) Q:=by
     intro he;have E:Env P c g r σ.mem oj.op.operands.toList a w:={ev:=env_ev (fun t ht x hx=>I.rel.regs t x (by rw[agree t (looks_of ht _)];exact hx)) I.rel.glo C.glb,glo:=I.rel.glo,mem:=I.rel.mem,ts:=C.ts,sp:=C.sp,S:=I.rel.S,blk:=I.rel.blk,eqs:=C.eqs};obtain⟨y,hy,hqr⟩:=evalQ_ok (n:=n) E hF (fun _ h=>h) he;cases hy;exact hqr _ _ fun v w' hbw hv=>upd (I.rel.grow hbw) hv
    have skip:tr[p].2= .undef→wpAnyIn F n P .any ops Q fuel (L.setIfInBounds (s+p) true) (a.put oj.dst undef) w:=fun he=>upd I.rel (by rw[he];rfl)
    unfold wpOpIn;simp only[hoj];rcases hst with⟨hg,he⟩ |⟨i,want,d,hg,hd,hst⟩
    ·rw[if_pos (by simp [Region.wanted,hg])]
     exact run he
    ·have hag:=agree d (looks_guard hg hd)
     rcases hst with⟨b,hb',hdN',hst⟩ |⟨hu,he⟩
     ·have hbv:a.tmps.getD d undef= .bool b:=by
       have:=I.rel.regs d _ (by rw[hag];exact(lookT_some hb').2);rw[vof_lt (lookT_some hb').1] at this;generalize a.tmps.getD d undef=u at this;cases this;rfl
      have hwant:Region.wanted oj (yielded ops a.tmps)=(b==want):=by
       simp only[Region.wanted,hg,yielded_eq hd (by rw[I.rel.size,←hN];exact hdN'),hbv];cases b<;>cases want<;>rfl
      rcases hst with⟨rfl,he⟩ |⟨hne,he⟩
      ·rw[if_pos (by rw[hwant];simp)]
       exact run he
      ·rw[if_neg (by rw[hwant];simpa using hne)]
       exact⟨about_wide hF,skip he⟩
     ·have huv:a.tmps.getD d undef=undef:=by
       have:=I.rel.regs d .undef (by rw[hag];exact(lookT_some hu).2);rw[vof_lt (lookT_some hu).1] at this;exact this
      have hy:yielded ops a.tmps i=none:=by
       by_cases hlt:d<a.tmps.size
       ·rw[yielded_eq hd hlt,huv];rfl
       ·have h1:(ops[i]?).bind (·.dst)=some d:=by
         simp only[List.getElem?_map,Array.getElem?_toList] at hd;cases h:ops[i]? with
         |none=>rw[h] at hd;simp at hd
         |some o=>rw[h] at hd;simp at hd;simpa using hd
        unfold yielded;rw[h1];simp [hlt]
      rw[if_neg (by simp [Region.wanted,hg,hy])];exact⟨about_wide hF,skip he⟩
   ·
    have hje:j=s+tr.length:=by
     rcases Nat.lt_or_ge (s+tr.length) j with h|h
     ·exfalso
      have hoe:ops[s+tr.length]? =some ops[s+tr.length]:=by simp
      have:=before h hoe (clash_b (.inl (I.seg.head _ (seg_get hoe))));have:=I.high _ this;omega
     ·omega
    have hnq:isQ c oj.op=false:=I.seg.head oj (seg_get (by rw[←hje];exact hoj));have hallL:∀p,p<j→L.getD p false=true:=fun p hp=>before hp (x:=ops[p]) (by simp) (clash_b (.inr hnq))
    have hrel:Rel P base w0 S0 N D sv g σe a w:=by
     have hrel:=I.rel;refine{hrel with regs:=fun t x hx=>hrel.regs t x ?_,mem:=by rw[I.seg.mem];exact hrel.mem,inj:=by rw[I.seg.mem];exact hrel.inj,own:=by rw[I.seg.mem];exact hrel.own,lp:=by rw[I.seg.mem];exact hrel.lp,nx:=by rw[I.seg.nx];exact hrel.nx};rw[I.seg.regs] at hx;rw[look_regsL (p:=tr.length) (r':=σ.regs) rfl (fun q x hq _=> ?_),List.take_length]
     ·exact hx
     ·have hq:=(List.getElem?_eq_some_iff.1 hq).1
      exact⟨fun _=>hallL _ (by omega),fun _=>hq⟩
    have hrest:=I.seg.rest;rw[List.drop_drop,←hje,drop_get (by simpa using hoj),runOps_cons] at hrest;unfold wpOpIn;simp only[hoj];refine guarded_ok hH hrel C hN hF (fun g1 σ1 a1 w1 hk h1=> ?_) hrest;obtain⟨tr1,σe1,S1⟩:=mkSeg _ _ hk;refine ih (s:=j+1) (σ:=σ1) (tr:=tr1) (σe:=σe1) (g:=g1) ⟨by simp [I.size],hclosed',by omega,fun q hq=> ?_,fun q hq=> ?_, ?_,S1⟩ (by omega)
    ·by_cases e:q=j
     ·subst e;exact hLj
     ·exact getD_set_true (hallL q (by omega))
    ·by_cases e:q=j
     ·omega
     ·rw[hLs e] at hq;have:=I.high q hq;omega
    ·refine{h1 with regs:=fun t x hx=>h1.regs t x ?_ }
     rw[look_regsL (p:=0) (r':=σ1.regs) rfl (fun q x' _ _=> ?_)] at hx
     ·simpa [regsF] using hx
     ·simp only[Nat.not_lt_zero,false_iff]
      rw[hLs (by omega)];intro hq;have:=I.high _ hq;omega
theorem Rel.drawn (h:Rel P base w0 S0 N D sv g σ a w):Rel P base w0 S0 N D sv g σ a {w with drawn:=w.drawn+1}:=
 {regs:=fun t x hx=>(h.regs t x hx).mono (fun _ _=>rfl) (Gh.le.refl g),size:=h.size,dfr:=h.dfr,glo:=h.glo.mono (fun _ _=>rfl) (fun _ h=>h),lp:=h.lp,mem:=fun i x hx=>(by
  obtain⟨b,hm,hr⟩:=h.mem i x hx;exact⟨b,hm,hr.mono (fun _ _=>rfl) (fun _ _=>rfl) (Gh.le.refl g)⟩),inj:=h.inj,own:=h.own,S:=h.S,blk:=h.blk,nx:=h.nx,bel:=h.bel.trans ⟨rfl,rfl,rfl,Nat.le_refl _,fun _ _=>rfl⟩,bs:=h.bs,sub:=h.sub}
theorem regionDraw_ok {H:Hnd R} (hH:HndOK P H) (C:CfgOK P c) (hN:c.N=N) (hF:WideF F) (hm:P.follows .mixedOrders=true) (ho:orderOK c ops.toList=true) (hK:∀g' σ' a' w',k σ'=some res→Rel P base w0 S0 N D sv g' σ' a' w'→Q .normal a' w') {id:Nat} (h:Rel P base w0 S0 N D sv g σ a w)
 (hs:runOps H c true (ops.toList.map (·.dst)) ops.toList σ k=some res):(Code.region id ops true).wpIn F n P Q a w:=by
 obtain⟨tr,σe,S⟩:=mkSeg _ _ hs;refine wpIn_region_any hm (any_ok hH C hN hF ho hK ops.size (s:=0) (σ:=σ) (tr:=tr) (σe:=σe) (g:=g) ⟨by simp,fun p o _ hp=> ?_,Nat.zero_le _,fun p hp=>by omega,fun p hp=> ?_, ?_,by simpa using S⟩ (by simp [List.count_replicate]))
 ·exfalso
  by_cases h:p<ops.size<;>simp [h] at hp
 ·exfalso
  by_cases h:p<ops.size<;>simp [h] at hp
 ·have h1:=h.drawn
  refine{h1 with regs:=fun t x hx=>h1.regs t x ?_ };rw[look_regsL (p:=0) (r':=σ.regs) rfl (fun q x' _ _=> ?_)] at hx
  ·simpa [regsF] using hx
  ·simp only[Nat.not_lt_zero,false_iff]
   by_cases h:q<ops.size<;>simp [h]
end
end Go.Eng
set_option linter.unusedSimpArgs false
set_option linter.unusedVariables false
set_option linter.unnecessarySimpa false
namespace Go.Eng
open Go Go.RowKit
section
variable {P:Program} [GlobL P] {F:Fence} {n:Nat} {c:Cfg} {g g':Gh} {r:Regs} {m:Mem} {a:Act} {w w':World} {o:Oper} {R:Type} {k:St→Option R} {res:R} {xs:List Operand}
variable {base:Nat} {w0:World} {S0:Nat→Prop} {N:Nat} {D:Wt} {sv:Nat→Value} {σ:St} {ops:Array Oper} {Q:Exit→Act→World→Prop} {ids:List Nat}
def Gh.only (g:Gh) (ids:List Nat):Gh:={S:=g.S,m:=fun i=>if i∈ids then g.m i else none}
theorem Gh.only_get {id:Nat} {b:Gb} (h:id∈ids) (hm:g.m id=some b):(g.only ids).m id=some b:=by
 show(if id∈ids then g.m id else none)=some b;rw[if_pos h];exact hm
theorem Gh.only_some {id:Nat} {b:Gb} (h:(g.only ids).m id=some b):id∈ids∧g.m id=some b:=by
 change (if id∈ids then g.m id else none)=some b at h;split at h
 ·exact⟨‹_›,h⟩
 ·cases h
theorem VA.only {x:At} {v:Value} (h:VA g w x v) (hi:∀i∈idsAt x,i∈ids):VA (g.only ids) w x v:=by
 have pur:∀{x:At} {v:Value},VA g w x v→pureA x=true→VA (g.only ids) w x v:=fun h hp=>h.pure hp (fun _ h=>h)
 cases x
 case int κ q=>exact pur h rfl
 case bool b=>exact pur h rfl
 case str s=>exact pur h rfl
 case sl τ l=>exact pur h rfl
 case fnc f=>exact pur h rfl
 case clip τ l=>
  cases h with
  |clip _ _ ad len bk of f hl ha hcell hf=>exact .clip τ l ad len bk of f hl ha hcell (fun i x j y hx hy=>pur (hf i x j y hx hy) (enc_pure _ _ _ _ hy))
 case vptr τ x j=>
  cases h with
  |vptr _ _ _ bk of f ha hcell hf=>exact .vptr τ x j bk of f ha hcell (fun i y hy=>pur (hf i y hy) (enc_pure _ _ _ _ hy))
 case own i=>
  cases h with
  |own _ b ad hm hk h0=>exact .own i b ad (Gh.only_get (hi i (by simp [idsAt])) hm) hk h0
 case sub i off len=>
  cases h with
  |sub _ _ _ b ad cc hm hl hc hk=>exact .sub i off len b ad cc (Gh.only_get (hi i (by simp [idsAt])) hm) hl hc hk
 case ptr i off=>
  cases h with
  |ptr _ _ b kk hm hk=>exact .ptr i off b kk (Gh.only_get (hi i (by simp [idsAt])) hm) hk
 case eptr i p q=>
  cases h with
  |eptr _ _ _ b kk hm hk=>exact .eptr i p q b kk (Gh.only_get (hi i (by simp [idsAt])) hm) hk
 case clo i=>
  cases h with
  |clo _ b f fs cs hm hv=>exact .clo i b f fs cs (Gh.only_get (hi i (by simp [idsAt])) hm) hv
 case mapr i=>
  cases h with
  |mapr _ b kk hm hk=>exact .mapr i b kk (Gh.only_get (hi i (by simp [idsAt])) hm) hk
 case iter i=>
  cases h with
  |iter _ b kk hm hk=>exact .iter i b kk (Gh.only_get (hi i (by simp [idsAt])) hm) hk
 case yld i=>
  cases h with
  |yld _ b kk hm hk=>exact .yld i b kk (Gh.only_get (hi i (by simp [idsAt])) hm) hk
 case gl τ l=>
  cases h with
  |gl _ _ bk f ha hcell hf=>exact .gl τ l bk f ha hcell (fun i x j y hx hy=>pur (hf i x j y hx hy) (enc_pure _ _ _ _ hy))
 case nilp=>cases h;exact .nilp
 case nilf=>cases h;exact .nilf
 case nilm=>cases h;exact .nilm
 case dead=>exact .dead _ h.one
theorem idsIn_mem:∀{l:List At},idsIn ids l=true→∀x∈l,∀i∈idsAt x,i∈ids
 | [],_,x,hx=>by simp at hx
 |y::l,h,x,hx=>by
  unfold idsIn at h;split at h
  ·rename_i hy
   rcases List.mem_cons.1 hx with rfl|hx
   ·exact fun i hi=>hasN_mem.1 ((List.all_eq_true.1 hy) i hi)
   ·exact idsIn_mem h x hx
  ·simp at h
theorem All2.monoL {α β:Type} {R R':α→β→Prop} {l:List α} {m:List β} (h:All2 R l m) (hr:∀a∈l,∀b,R a b→R' a b):All2 R' l m:=by
 induction h with
 |nil=>exact .nil
 |cons h _ ih=>exact .cons (hr _ (by simp) _ h) (ih fun a ha=>hr a (by simp [ha]))
theorem V1R.only {x:V1} {v:Value} (h:V1R g w x v) (hi:idsV1 ids x=true):V1R (g.only ids) w x v:=by
 cases x with
 |one x=>exact VA.only h (idsIn_mem hi x (by simp))
 |agg l=>obtain⟨vs,rfl,h⟩:=h;exact⟨vs,rfl,h.monoL fun x hx v hv=>hv.only (idsIn_mem hi x hx)⟩
theorem AVR.only {x:AV} {v:Value} (h:AVR g w x v) (hi:idsV ids x=true):AVR (g.only ids) w x v:=by
 cases x with
 |v x=>exact V1R.only h hi
 |tup l=>obtain⟨vs,rfl,h⟩:=h;exact⟨vs,rfl,h.monoL fun x hx v hv=>V1R.only hv ((List.all_eq_true.1 hi) x hx)⟩
 |undef=>exact h
 |dead=>trivial
theorem BR.only {b:Gb} {x:AB} (h:BR P g w b x) (hi:idsB ids x=true):BR P (g.only ids) w b x:=by
 cases x with
 |cells l=>obtain⟨k,cs,e,hb,hh,ha⟩:=h;exact⟨k,cs,e,hb,hh,ha.monoL fun x hx v hv=>hv.only (idsIn_mem hi x hx)⟩
 |row τ l=>
  obtain⟨h1,h2,h3⟩:=h;refine⟨h1,h2, ?_⟩;rcases h3 with h3|⟨k,cs,e,hb,hh,hs,hl,ho,ha⟩
  ·exact .inl h3
  ·exact .inr ⟨k,cs,e,hb,hh,hs,hl,ho,fun i x j y hx hy=>let ⟨v,hv,ha'⟩:=ha i x j y hx hy;⟨v,hv,ha'.pure (enc_pure _ _ _ _ hy) (fun _ h=>h)⟩⟩
 |clo f a c=>
  obtain⟨h0,fs,cs,hb,h1,h2⟩:=h;simp only[idsB] at hi;split at hi
  ·rename_i ha
   exact⟨h0,fs,cs,hb,h1.monoL fun x hx v hv=>hv.only (idsIn_mem ha x hx),h2.monoL fun x hx v hv=>hv.only (idsIn_mem hi x hx)⟩
  ·simp at hi
 |iter s p=>exact h
 |capk x n=>obtain⟨hb,ad,len,hv⟩:=h;exact⟨hb,ad,len,hv.only (idsIn_mem hi x (by simp))⟩
 |loop ph n fid rid regs=>
  obtain⟨k,r,hb,hh,h1,h2,h3,h4,h5⟩:=h;exact⟨k,r,hb,hh,h1,h2,h3,h4,fun t x hx=>⟨(h5 t x hx).1,(h5 t x hx).2.only ((List.all_eq_true.1 hi) _ (look_mem hx))⟩⟩
 |over e=>obtain⟨k,r,hb,hh,h1⟩:=h;exact⟨k,r,hb,hh,h1⟩
 |map ag κ τ l ck=>obtain⟨k,es,hb,hh,ha⟩:=h;exact⟨k,es,hb,hh,ha.mono fun x e k=>k.of fun y v hy hv=>V1R.purT (g:=g) (g':=g.only ids) (w:=w) (w':=w) (fun x v hp hv=>hv.pure hp (fun _ h=>h)) hy hv⟩
 |gone=>trivial
theorem keepRegs_ok {mem:List Nat}:∀{l:List Nat} {r r':Regs},keepRegs mem r l=some r'→∀t x,look t r'=some x→look t r=some x∧idsV mem x=true
 | [],r,r',h,t,x,hx=>by simp [keepRegs] at h;subst h;simp [look] at hx
 |n::l,r,r',h,t,x,hx=>by
  simp only[keepRegs] at h;split at h
  ·rename_i v r2 hv hr2
   split at h
   ·rename_i hi
    cases h;rw[look_cons] at hx;split at hx
    ·rename_i e;subst e;cases hx;exact⟨hv,hi⟩
    ·exact keepRegs_ok hr2 t x hx
   ·simp at h
  ·simp at h
theorem keepMem_ok {mem:List Nat}:∀{l:List Nat} {r r':Mem},keepMem mem r l=some r'→∀t x,look t r'=some x→t∈l∧look t r=some x∧idsB mem x=true
 | [],r,r',h,t,x,hx=>by simp [keepMem] at h;subst h;simp [look] at hx
 |n::l,r,r',h,t,x,hx=>by
  simp only[keepMem] at h;split at h
  ·rename_i v r2 hv hr2
   split at h
   ·rename_i hi
    cases h;rw[look_cons] at hx;split at hx
    ·rename_i e;subst e;cases hx;exact⟨by simp,hv,hi⟩
    ·obtain⟨h1,h2,h3⟩:=keepMem_ok hr2 t x hx
     exact⟨by simp [h1],h2,h3⟩
   ·simp at h
  ·simp at h
theorem toRows_ok:∀{l:List (Nat×Nat×Ty)} {σ σ':St} {g:Gh},toRows l σ=some σ'→Rel P base w0 S0 N D sv g σ a w→∃g',Rel P base w0 S0 N D sv g' σ' a w
 | [],σ,σ',g,h,hr=>by simp [toRows] at h;subst h;exact⟨g,hr⟩
 |(r,id,τ)::l,σ,σ',g,h,hr=>by
  simp only[toRows] at h;split at h
  ·split at h
   ·exact toRows_ok h hr
   ·simp at h
  ·rename_i τ' hlk
   split at h
   ·rename_i hle
    have hle:=Nat.le_of_ble_eq_true hle;have hv:=hr.regs r _ hlk;obtain⟨b,hbd⟩:∃b:Gb,b=⟨none,0,0,τ.n,default⟩:=⟨_,rfl⟩;have h1:=hr.new (id:=id) hle (b:=b) (x:= .row τ []) (Below.refl _ _) (by rw[hbd];exact⟨rfl,rfl, .inl ⟨rfl,rfl,rfl⟩⟩) (fun q hq=>by rw[hbd] at hq;cases hq);have hmg:(g.set id b).m id=some b:=by simp [Gh.set]
    have hva:VA (g.set id b) w (.own id) (vof sv a r):=by
     generalize vof sv a r=u at hv;cases hv with
     |clip _ _ ad len bk of f hl ha hcell hf=>
      simp at hl;subst hl;have:=VA.own (g:=g.set id b) (w:=w) id b ad hmg (fun q hq=>by rw[hbd] at hq;cases hq) (fun _=>by rw[hbd];exact⟨rfl,rfl⟩);rw[hbd] at this⊢;exact this
    refine toRows_ok h (g:=g.set id b) {h1 with regs:=fun t y hy=> ?_ };simp only[look_cons] at hy;split at hy
    ·rename_i e;subst e;cases hy;exact hva
    ·exact h1.regs t y hy
   ·simp at h
  ·simp at h
theorem toSubs_ok:∀{l:List (Nat×Nat×Ty)} {σ σ':St} {g:Gh},toSubs l σ=some σ'→Rel P base w0 S0 N D sv g σ a w→∃g',Rel P base w0 S0 N D sv g' σ' a w
 | [],σ,σ',g,h,hr=>by simp [toSubs] at h;subst h;exact⟨g,hr⟩
 |(r,id,τ)::l,σ,σ',g,h,hr=>by
  simp only[toSubs] at h;split at h
  ·split at h
   ·exact toSubs_ok h hr
   ·simp at h
  ·rename_i τ' hlk
   split at h
   ·rename_i hle
    have hle:=Nat.le_of_ble_eq_true hle;have hv:=hr.regs r _ hlk;obtain⟨b,hbd⟩:∃b:Gb,b=⟨none,0,0,τ.n,default⟩:=⟨_,rfl⟩;have h1:=hr.new (id:=id) hle (b:=b) (x:= .row τ []) (Below.refl _ _) (by rw[hbd];exact⟨rfl,rfl, .inl ⟨rfl,rfl,rfl⟩⟩) (fun q hq=>by rw[hbd] at hq;cases hq);have hmg:(g.set id b).m id=some b:=by simp [Gh.set]
    have hva:VA (g.set id b) w (.sub id 0 0) (vof sv a r):=by
     generalize vof sv a r=u at hv;cases hv with
     |clip _ _ ad len bk of f hl ha hcell hf=>
      simp at hl;subst hl;exact VA.sub (g:=g.set id b) (w:=w) id 0 0 b ad 0 hmg (by rw[hbd];exact Nat.le_refl _) (by rw[hbd];rfl) (fun e=>absurd rfl e)
    refine toSubs_ok h (g:=g.set id b) {h1 with regs:=fun t y hy=> ?_ };simp only[look_cons] at hy;split at hy
    ·rename_i e;subst e;cases hy;exact hva
    ·exact h1.regs t y hy
   ·simp at h
  ·simp at h
theorem Rel.say (h:Rel P base w0 S0 N D sv g σ a w) {id:Nat} {x y:AB} (hx:look id σ.mem=some x) (hl:x.live=true) (hB:∀b,BR P g w b x→BR P g w b y) (hyl:y.isLoop=false:=by rfl):Rel P base w0 S0 N D sv g (σ.set id y) a w:=by
 have e:∀i z,look i (σ.set id y).mem=some z→(i=id∧z=y)∨look i σ.mem=some z:=fun i z hz=>by
  simp only[St.set,look_cons] at hz;split at hz
  ·rename_i e;cases hz;exact .inl ⟨e.symm,rfl⟩
  ·exact .inr hz
 have e2:∀i z,look i (σ.set id y).mem=some z→z.live=true→∃z',look i σ.mem=some z'∧z'.live=true:=fun i z hz hlz=>by
  rcases e i z hz with⟨rfl,_⟩ |hz'
  ·exact⟨x,hx,hl⟩
  ·exact⟨z,hz',hlz⟩
 refine{regs:=h.regs,size:=h.size,dfr:=h.dfr,glo:=h.glo,lp:=fun i z b h1 hl1=> ?_,mem:=fun i z hz=> ?_,inj:=fun i i' z z' b b' q h1 h2 hl1 hl2=> ?_,own:=fun i z b q h1 hl1=> ?_,S:=h.S,blk:=h.blk,nx:=h.nx,bel:=h.bel,bs:=h.bs,sub:=h.sub}
 ·intro hm1
  rcases e i z h1 with⟨rfl,rfl⟩ |h1
  ·rw[hyl] at hl1;cases hl1
  ·exact h.lp i z b h1 hl1 hm1
 ·rcases e i z hz with⟨rfl,rfl⟩ |hz'
  ·obtain⟨b,hm,hr⟩:=h.mem i x hx
   exact⟨b,hm,hB b hr⟩
  ·exact h.mem i z hz'
 ·obtain⟨z1,h3,h4⟩:=e2 i z h1 hl1
  obtain⟨z2,h5,h6⟩:=e2 i' z' h2 hl2;exact h.inj i i' z1 z2 b b' q h3 h5 h4 h6
 ·obtain⟨z1,h3,h4⟩:=e2 i z h1 hl1
  exact h.own i z1 b q h3 h4
theorem toSls_ok:∀{l:List Nat} {σ σ':St},toSls l σ=some σ'→Rel P base w0 S0 N D sv g σ a w→Rel P base w0 S0 N D sv g σ' a w
 | [],σ,σ',h,hr=>by simp [toSls] at h;subst h;exact hr
 |r::l,σ,σ',h,hr=>by
  simp only[toSls] at h;split at h
  ·rename_i x hx
   refine toSls_ok h {hr with regs:=fun t y hy=> ?_ };simp only[look_cons] at hy;split at hy
   ·rename_i e;subst e;cases hy;exact VA.unclip (hr.regs _ _ hx)
   ·exact hr.regs t y hy
  ·simp at h
theorem toSlm_ok:∀{l:List Nat} {σ σ':St},toSlm l σ=some σ'→Rel P base w0 S0 N D sv g σ a w→Rel P base w0 S0 N D sv g σ' a w
 | [],σ,σ',h,hr=>by simp [toSlm] at h;subst h;exact hr
 |id::l,σ,σ',h,hr=>by
  simp only[toSlm] at h;split at h
  ·rename_i cs hcs
   refine toSlm_ok h (hr.say hcs rfl fun b hb=> ?_);obtain⟨k,us,e,hk,hh,ha⟩:=hb;exact⟨k,us,e,hk,hh,ha.unclip⟩
  ·simp at h
theorem toRowm_ok:∀{l:List (Nat×Nat×Nat×Ty)} {σ σ':St} {g:Gh},toRowm l σ=some σ'→Rel P base w0 S0 N D sv g σ a w→∃g',Rel P base w0 S0 N D sv g' σ' a w
 | [],σ,σ',g,h,hr=>by simp [toRowm] at h;subst h;exact⟨g,hr⟩
 |(bk,j,id,τ)::l,σ,σ',g,h,hr=>by
  simp only[toRowm] at h;split at h
  ·rename_i cs hcs
   split at h
   ·split at h
    ·exact toRowm_ok h hr
    ·simp at h
   ·rename_i τ' hj
    split at h
    ·rename_i hle
     have hle:=Nat.le_of_ble_eq_true hle;obtain⟨b,hbd⟩:∃b:Gb,b=⟨none,0,0,τ.n,default⟩:=⟨_,rfl⟩;have h1:=hr.new (id:=id) hle (b:=b) (x:= .row τ []) (Below.refl _ _) (by rw[hbd];exact⟨rfl,rfl, .inl ⟨rfl,rfl,rfl⟩⟩) (fun q hq=>by rw[hbd] at hq;cases hq);have hmg:(g.set id b).m id=some b:=by simp [Gh.set]
     have hbk:bk≠id:=by
      obtain⟨b0,hb0,_⟩:=hr.mem bk _ hcs;have:=hr.nx bk b0 hb0;omega
     have hlk:look bk ((id,AB.row τ [])::σ.mem)=some (.cells cs):=by rw[look_cons,if_neg (Ne.symm hbk)];exact hcs
     refine toRowm_ok h (g:=g.set id b) (h1.say (id:=bk) hlk rfl (y:= .cells (cs.set j (.own id))) fun b1 hb1=> ?_);obtain⟨k,us,e,hk,hh,ha⟩:=hb1;refine⟨k,us,e,hk,hh, ?_⟩;obtain⟨u,hu,hv⟩:=ha.get hj;have hva:VA (g.set id b) w (.own id) u:=by
      cases hv with
      |clip _ _ ad len bk of f hl ha hcell hf=>
       simp at hl;subst hl;have:=VA.own (g:=g.set id b) (w:=w) id b ad hmg (fun q hq=>by rw[hbd] at hq;cases hq) (fun _=>by rw[hbd];exact⟨rfl,rfl⟩);rw[hbd] at this⊢;exact this
     have:=ha.set hva j;have e9:us.toList.set j u=us.toList:=by
      obtain⟨hj2,e⟩:=List.getElem?_eq_some_iff.1 hu;rw[←e];exact List.set_getElem_self hj2
     rwa[e9] at this
    ·simp at h
   ·simp at h
  ·simp at h
theorem coerce_ok {an:Ann} {σ σ':St} (h:coerce an σ=some σ') (hr:Rel P base w0 S0 N D sv g σ a w):∃g',Rel P base w0 S0 N D sv g' σ' a w:=by
 unfold coerce at h;split at h
 ·simp at h
 ·rename_i σ0 h0
  obtain⟨g0,r0⟩:=toSubs_ok h0 hr;split at h
  ·rename_i σ1 h1
   obtain⟨g1,r1⟩:=toRows_ok h1 r0;split at h
   ·rename_i σ2 h2
    obtain⟨g2,r2⟩:=toRowm_ok h2 r1;split at h
    ·rename_i σ3 h3
     exact⟨g2,toSlm_ok h (toSls_ok h3 r2)⟩
    ·simp at h
   ·simp at h
  ·simp at h
theorem keep_ok {an:Ann} {σ':St} (h:keep an σ=some σ') (hr:Rel P base w0 S0 N D sv g σ a w):∃g',Rel P base w0 S0 N D sv g' σ' a w:=by
 unfold keep at h;split at h
 ·rename_i σ1 h1
  obtain⟨g1,r1⟩:=coerce_ok h1 hr;split at h
  ·rename_i r2 m2 hr2 hm2 hlt
   cases h;refine⟨g1.only an.mem,{regs:=fun t x hx=> ?_,size:=r1.size,dfr:=r1.dfr,glo:=r1.glo,lp:=fun id x b hx hl hm=>r1.lp id x b (keepMem_ok hm2 id x hx).2.1 hl (Gh.only_some hm).2,mem:=fun id x hx=> ?_,inj:=fun id id' x x' b b' q hx hx' hl hl' hm hm'=> ?_,own:=fun id x b q hx hl hm hq=> ?_,S:=r1.S,blk:=fun id b q hm hq=>r1.blk id b q (Gh.only_some hm).2 hq,nx:=fun id b hm=> ?_,bel:=r1.bel,bs:=r1.bs,sub:=r1.sub}⟩
   ·obtain⟨h2,h3⟩:=keepRegs_ok hr2 t x hx
    exact(r1.regs t x h2).only h3
   ·obtain⟨h2,h3,h4⟩:=keepMem_ok hm2 id x hx
    obtain⟨b,hb,hbr⟩:=r1.mem id x h3;exact⟨b,Gh.only_get h2 hb,hbr.only h4⟩
   ·exact r1.inj id id' x x' b b' q (keepMem_ok hm2 id x hx).2.1 (keepMem_ok hm2 id' x' hx').2.1 hl hl' (Gh.only_some hm).2 (Gh.only_some hm').2
   ·exact r1.own id x b q (keepMem_ok hm2 id x hx).2.1 hl (Gh.only_some hm).2 hq
   ·have:=(List.all_eq_true.1 hlt) id (Gh.only_some hm).1
    exact Nat.le_of_ble_eq_true this
  ·simp at h
 ·simp at h
theorem keepIf_ok {an:Option Ann} (h:keepIf an σ k=some res) (hr:Rel P base w0 S0 N D sv g σ a w):∃g' σ',k σ'=some res∧Rel P base w0 S0 N D sv g' σ' a w:=by
 unfold keepIf at h;split at h
 ·exact⟨g,σ,h,hr⟩
 ·split at h
  ·rename_i h1
   obtain⟨g',h2⟩:=keep_ok h1 hr;exact⟨g',_,h,h2⟩
  ·simp at h
end
end Go.Eng
set_option linter.unusedSimpArgs false
set_option linter.unusedVariables false
set_option linter.unnecessarySimpa false
namespace Go.Eng
open Go Go.RowKit
section
variable {R:Type} {c:Cfg} {r:Regs} {m m':Mem} {o:Oper}
theorem cellsAt_congr {p:At} {n:Nat} {k:List At→Option R} (h:∀i∈idsAt p,look i m=look i m'):cellsAt m p n k=cellsAt m' p n k:=by
 cases p<;>simp only[cellsAt]<;>simp [idsAt] at h<;>rw[h]
theorem listOf_congr {p:At} {k:(τ:Ty)→List τ.T→Option R} (h:∀i∈idsAt p,look i m=look i m'):listOf m p k=listOf m' p k:=by
 cases p<;>simp only[listOf]<;>simp [idsAt] at h<;>rw[h]
theorem viewAt_congr {p:At} {k:At→Option R} (h:∀i∈idsAt p,look i m=look i m'):viewAt m p k=viewAt m' p k:=by
 cases p<;>simp only[viewAt]<;>first|rfl|exact listOf_congr h
theorem viewL_congr:∀{l:List At} {k:List At→Option R},(∀i∈l.flatMap idsAt,look i m=look i m')→viewL m l k=viewL m' l k
 | [],k,_=>rfl
 |x::l,k,h=>by
  simp only[viewL];rw[viewAt_congr (m':=m') (fun i hi=>h i (by simp [hi]))];congr 1;funext y;exact viewL_congr (fun i hi=>h i (by rw[List.flatMap_cons];exact List.mem_append_right _ hi))
theorem viewV_congr {x:AV} {k:AV→Option R} (h:∀i∈idsAV x,look i m=look i m'):viewV m x k=viewV m' x k:=by
 unfold viewV;split
 ·exact viewAt_congr h
 ·exact viewL_congr h
 ·rfl
theorem viewVs_congr:∀{l:List AV} {k:List AV→Option R},(∀i∈l.flatMap idsAV,look i m=look i m')→viewVs m l k=viewVs m' l k
 | [],k,_=>rfl
 |x::l,k,h=>by
  simp only[viewVs];rw[viewV_congr (m':=m') (fun i hi=>h i (by simp [hi]))];congr 1;funext y;exact viewVs_congr (fun i hi=>h i (by rw[List.flatMap_cons];exact List.mem_append_right _ hi))
theorem lenQ_congr {t:TypeId} {p:At} {k:AV→Option R} (h:∀i∈idsAt p,look i m=look i m'):lenQ c m t p k=lenQ c m' t p k:=by
 unfold lenQ;split
 ·rfl
 ·split
  ·rfl
  ·exact listOf_congr h
 ·split
  ·rw[h _ (by simp [idsAt])]
  ·rfl
 ·rfl
theorem idxQ_congr {t:TypeId} {p:At} {n:Int} {k:AV→Option R} (h:∀i∈idsAt p,look i m=look i m'):idxQ c m t p n k=idxQ c m' t p n k:=by
 unfold idxQ;split
 ·cases p<;>simp [idsAt] at h<;>first|rfl|(simp only [];rw[h])
 ·rfl
 ·rfl
theorem sliceQ_congr {t:TypeId} {p:At} {lo hi mx:Option Operand} {k:AV→Option R} (h:∀i∈idsAt p,look i m=look i m') (hc:∀i∈idsAt p,capIn m i m=capIn m' i m'):sliceQ c r m t p lo hi mx k=sliceQ c r m' t p lo hi mx k:=by
 unfold sliceQ;split
 ·split
  ·rfl
  ·cases p<;>simp [idsAt] at h hc<;>first|rfl|(simp only [];rw[h,hc])
  ·rfl
 ·rfl
theorem ev_ids {t:TypeId} {x:Operand} {v:AV} (h:ev c r t x=some v):∀i∈idsAV v,∃n u,x= .tmp n∧look n r=some u∧i∈idsAV u:=by
 intro i hi;cases x with
 |tmp n=>exact⟨n,v,rfl,(lookT_some h).2,hi⟩
 |const v'=>
  exfalso;simp only[ev] at h;unfold constAV at h;split at h<;>first|(cases h;simp [idsAV,idsV1L,idsAt] at hi;done) |skip
  split at h
  ·cases h;simp [idsAV,idsV1L,idsAt] at hi
  ·cases h
  ·cases h
 |func f=>simp only[ev] at h;cases h;simp [idsAV,idsV1L,idsAt] at hi
 |«global» _=>
  simp only[ev] at h;split at h
  ·cases h;simp [idsAV,idsV1L,idsAt] at hi
  ·cases h
theorem touch_mem {n:Nat} {u:AV} {i:Nat} (hl:looksM o.op=true) (h1:n∈opTmps o) (h2:look n r=some u) (h3:i∈idsAV u):i∈touch r o:=by
 unfold touch;rw[hl];simp only [];rw[List.mem_flatMap];exact⟨n,h1,by rw[h2];exact h3⟩
theorem opTmps_mem {n:Nat} (h:Operand.tmp n∈o.op.operands.toList):n∈opTmps o:=by
 unfold opTmps;rw[List.mem_filterMap];exact⟨_,h,rfl⟩
theorem ev_touch (hl:looksM o.op=true) {t:TypeId} {x:Operand} {v:AV} (h:ev c r t x=some v) (hx:x∈o.op.operands.toList):∀i∈idsAV v,i∈touch r o:=by
 intro i hi;obtain⟨n,u,rfl,h2,h3⟩:=ev_ids h i hi;exact touch_mem hl (opTmps_mem hx) h2 h3
theorem evA_ev {t:TypeId} {x:Operand} {p:At} (h:evA c r t x=some p):ev c r t x=some (.one p):=by
 unfold evA at h;split at h
 ·rename_i e;cases h;exact e
 ·cases h
theorem evA_touch (hl:looksM o.op=true) {t:TypeId} {x:Operand} {p:At} (h:evA c r t x=some p) (hx:x∈o.op.operands.toList):∀i∈idsAt p,i∈touch r o:=ev_touch hl (evA_ev h) hx
theorem evArgs_touch (hl:looksM o.op=true):∀{l:List Operand} {ts:List TypeId} {as:List AV},evArgs c r l ts=some as→(∀x∈l,x∈o.op.operands.toList)→∀i∈as.flatMap idsAV,i∈touch r o
 | [],ts,as,h,_,i,hi=>by simp only[evArgs] at h;cases h;simp at hi
 |x::l,ts,as,h,hx,i,hi=>by
  simp only[evArgs] at h;split at h
  ·rename_i y l' h1 h2
   cases h;rw[List.flatMap_cons,List.mem_append] at hi;rcases hi with hi|hi
   ·exact ev_touch hl h1 (hx x (by simp)) i hi
   ·exact evArgs_touch hl h2 (fun z hz=>hx z (by simp [hz])) i hi
  ·cases h
theorem evalQ_congr {k:AV→Option R} (h:∀i∈touch r o,look i m=look i m') (hc:∀i,capIn m i m=capIn m' i m'):evalQ c r m o k=evalQ c r m' o k:=by
 unfold evalQ;split
 case h_4 t a ho=>
  split
  ·rename_i ti p h1 h2
   exact cellsAt_congr fun i hi=>h i (evA_touch (by rw[ho];rfl) h2 (by simp [ho,Op.operands]) i hi)
  ·rfl
 case h_8 t x i ho=>
  split
  ·rename_i p _ n h1 h2
   exact idxQ_congr fun i hi=>h i (evA_touch (by rw[ho];rfl) h1 (by simp [ho,Op.operands]) i hi)
  ·rfl
 case h_13 s d x ho=>
  split
  ·rfl
  ·rfl
  ·rename_i p h1 h2 h3
   split
   ·exact listOf_congr fun i hi=>h i (ev_touch (by rw[ho];rfl) h3 (by simp [ho,Op.operands]) i hi)
   ·rfl
  ·rfl
  ·rfl
 case h_15 t x lo hi mx ho=>
  split
  ·rename_i p h1
   exact sliceQ_congr (fun i hi=>h i (evA_touch (by rw[ho];rfl) h1 (by simp [ho,Op.operands]) i hi)) (fun i _=>hc i)
  ·rfl
 case h_17 args ts ho=>
  split
  ·rename_i x t h1 h2
   split
   ·rename_i p h3
    exact lenQ_congr fun i hi=>h i (evA_touch (by rw[ho];rfl) h3 (by simp [ho,Op.operands,Call.operands,h1]) i hi)
   ·rfl
  ·rfl
 case h_18 f args ts ho=>
  split
  ·rename_i n as h1 h2
   split
   ·exact viewVs_congr fun i hi=>h i (evArgs_touch (by rw[ho];rfl) h2 (by intro x hx;simp only[ho,Op.operands,Call.operands,Array.toList_append,List.mem_append];simp [hx]) i hi)
   ·rfl
  ·rfl
 all_goals rfl
end
end Go.Eng
set_option linter.unusedSimpArgs false
set_option linter.unusedVariables false
set_option linter.unnecessarySimpa false
namespace Go.Eng
open Go Go.RowKit
section
variable {α:Type}
def gP (d:Option Nat) (y:α) (r:List (Nat×α)):List (Nat×α):=
 match d with
 |none=>r
 |some d=>(d,y)::r
def gF:List (Option Nat×α)→List (Nat×α)→List (Nat×α)
 | [],r=>r
 |x::l,r=>gF l (gP x.1 x.2 r)
def gL (L:Nat→Bool):Nat→List (Option Nat×α)→List (Nat×α)→List (Nat×α)
 |_, [],r=>r
 |i,x::l,r=>gL L (i+1) l (if L i then gP x.1 x.2 r else r)
theorem look_gP {d:Option Nat} {y:α} {r:List (Nat×α)} {t:Nat}:look t (gP d y r)=if d=some t then some y else look t r:=by
 cases d with
 |none=>simp [gP]
 |some d=>
  simp only[gP,look,Option.some.injEq];by_cases h:d=t
  ·subst h;simp
  ·have:Nat.beq d t=false:=by
    cases e:Nat.beq d t with
    |false=>rfl
    |true=>exact(h (Nat.eq_of_beq_eq_true e)).elim
   simp [this,h]
theorem gF_congr {t:Nat}:∀{tr:List (Option Nat×α)} {r r':List (Nat×α)},look t r=look t r'→look t (gF tr r)=look t (gF tr r')
 | [],_,_,h=>h
 |x::l,r,r',h=>by
  simp only[gF];refine gF_congr ?_;simp only[look_gP,h]
theorem look_gL {L:Nat→Bool} {t:Nat}:∀{tr:List (Option Nat×α)} {i p:Nat} {r r':List (Nat×α)},look t r=look t r'→(∀q x,tr[q]? =some x→x.1=some t→(q<p↔L (i+q)=true))→look t (gL L i tr r)=look t (gF (tr.take p) r')
 | [],i,p,r,r',h,_=>by simpa [gL,gF] using h
 |x::l,i,p,r,r',h,hL=>by
  have h0:=hL 0 x (by simp);simp only[gL];cases p with
  |zero=>
   have:=look_gL (L:=L) (t:=t) (tr:=l) (i:=i+1) (p:=0) (r:=if L i then gP x.1 x.2 r else r) (r':=r') (by
    split
    ·rename_i hl
     rw[look_gP];split
     ·rename_i e
      have:=(h0 e).2 (by simpa using hl);omega
     ·exact h
    ·exact h) (fun q x hq hx=>by
     have:=hL (q+1) x (by simpa using hq) hx;rw[show i+1+q=i+(q+1) from by omega,←this];omega)
   simpa [gF] using this
  |succ p=>
   simp only[List.take_succ_cons,gF];refine look_gL ?_ (fun q x hq hx=> ?_)
   ·by_cases e:x.1=some t
    ·have:=(h0 e).1 (by omega)
     simp only[Nat.add_zero] at this;rw[if_pos this];simp only[look_gP,if_pos e]
    ·rw[look_gP,if_neg e]
     split
     ·rw[look_gP,if_neg e];exact h
     ·exact h
   ·have:=hL (q+1) x (by simpa using hq) hx
    rw[show i+1+q=i+(q+1) from by omega,←this];omega
theorem look_gL_eq {L L':Nat→Bool} {t:Nat}:∀{tr:List (Option Nat×α)} {i:Nat} {r r':List (Nat×α)},look t r=look t r'→(∀q x,tr[q]? =some x→x.1=some t→L (i+q)=L' (i+q))→look t (gL L i tr r)=look t (gL L' i tr r')
 | [],i,r,r',h,_=>h
 |x::l,i,r,r',h,hL=>by
  simp only[gL];refine look_gL_eq ?_ (fun q y hq hy=>by
   have:=hL (q+1) y (by simpa using hq) hy;rwa[show i+1+q=i+(q+1) from by omega])
  by_cases e:x.1=some t
  ·have:=hL 0 x (by simp) e
   simp only[Nat.add_zero] at this;rw[this];split
   ·simp only[look_gP,if_pos e]
   ·exact h
  ·split<;>split<;>simp only[look_gP,if_neg e,h]
theorem look_gL_at {L:Nat→Bool} {t:Nat} {y:α}:∀{tr:List (Option Nat×α)} {i p:Nat} {r:List (Nat×α)},tr[p]? =some (some t,y)→L (i+p)=true→(∀q x,p<q→tr[q]? =some x→x.1=some t→L (i+q)=false)→look t (gL L i tr r)=some y
 | [],i,p,r,h,_,_=>by simp at h
 |x::l,i,0,r,h,h0,hL=>by
  simp at h;subst h;simp only[gL];simp only[Nat.add_zero] at h0;rw[if_pos h0,look_gL (p:=0) (r':=gP (some t) y r) rfl (fun q x hq hx=> ?_)]
  ·simp [gF,look_gP]
  ·have:=hL (q+1) x (by omega) (by simpa using hq) hx
   rw[show i+1+q=i+(q+1) from by omega,this];simp
 |x::l,i,p+1,r,h,h0,hL=>by
  simp only[gL];refine look_gL_at (p:=p) (by simpa using h) (by rw[show i+1+p=i+(p+1) from by omega];exact h0) (fun q y hq hy he=> ?_);rw[show i+1+q=i+(q+1) from by omega];exact hL (q+1) y (by omega) (by simpa using hy) he
theorem gL_list {L:Nat→Bool}:∀{tr:List (Option Nat×α)} {i p:Nat} {r:List (Nat×α)},(∀q x d,tr[q]? =some x→x.1=some d→(q<p↔L (i+q)=true))→gL L i tr r=gF (tr.take p) r
 | [],i,p,r,_=>by simp [gL,gF]
 |x::l,i,p,r,hL=>by
  simp only[gL];have nx:∀p',p=p'+1→∀q y d,l[q]? =some y→y.1=some d→(q<p'↔L (i+1+q)=true):=by
   intro p' e q y d hq hd;have:=hL (q+1) y d (by simpa using hq) hd;rw[show i+1+q=i+(q+1) from by omega,←this];omega
  cases hx:x.1 with
  |none=>
   have e0:gP (none:Option Nat) x.2 r=r:=rfl;rw[e0];cases p with
   |zero=>
    rw[show(if L i=true then r else r)=r from by split<;>rfl,gL_list (p:=0) (fun q y d hq hd=>by
     have:=hL (q+1) y d (by simpa using hq) hd;rw[show i+1+q=i+(q+1) from by omega,←this];omega)]
    simp [gF]
   |succ p=>
    rw[show(if L i=true then r else r)=r from by split<;>rfl,gL_list (p:=p) (nx p rfl)];simp only[List.take_succ_cons,gF,hx,e0]
  |some d0=>
   have h0:=hL 0 x d0 (by simp) hx;simp only[Nat.add_zero] at h0;cases p with
   |zero=>
    have:¬L i=true:=fun h=>by have:=h0.2 h;omega
    rw[if_neg this,gL_list (p:=0) (fun q y d hq hd=>by
     have:=hL (q+1) y d (by simpa using hq) hd;rw[show i+1+q=i+(q+1) from by omega,←this];omega)]
    simp [gF]
   |succ p=>
    rw[if_pos (h0.1 (by omega)),gL_list (p:=p) (nx p rfl)];simp only[List.take_succ_cons,gF,hx]
theorem gL_same {L L':Nat→Bool}:∀{tr:List (Option Nat×α)} {i:Nat} {r:List (Nat×α)},(∀q x d,tr[q]? =some x→x.1=some d→L (i+q)=L' (i+q))→gL L i tr r=gL L' i tr r
 | [],i,r,_=>rfl
 |x::l,i,r,hL=>by
  simp only[gL];have e:(if L i=true then gP x.1 x.2 r else r)=(if L' i=true then gP x.1 x.2 r else r):=by
   cases hx:x.1 with
   |none=>simp [gP]
   |some d=>have:=hL 0 x d (by simp) hx;simp only[Nat.add_zero] at this;rw[this]
  rw[e];exact gL_same fun q y d hq hd=>by
   have:=hL (q+1) y d (by simpa using hq) hd;rwa[show i+1+q=i+(q+1) from by omega]
theorem gF_snoc:∀(tr:List (Option Nat×α)) (x:Option Nat×α) (r:List (Nat×α)),gF (tr++[x]) r=gP x.1 x.2 (gF tr r)
 | [],x,r=>rfl
 |y::l,x,r=>by simp only[List.cons_append,gF];exact gF_snoc l x _
theorem gF_take_succ {tr:List (Option Nat×α)} {p:Nat} {x:Option Nat×α} (h:tr[p]? =some x) (r:List (Nat×α)):gF (tr.take (p+1)) r=gP x.1 x.2 (gF (tr.take p) r):=by
 rw[←gF_snoc];congr 1;rw[List.take_add_one,h];rfl
end
theorem capIn_eq {m m':Mem} {id:Nat}:∀(l:Mem),(∀x∈l,isCapk (look x.1 m)=true∨isCapk (look x.1 m')=true→look x.1 m=look x.1 m')→capIn m id l=capIn m' id l
 | [],_=>rfl
 |x::l,h=>by
  have ih:=capIn_eq (id:=id) l (fun y hy=>h y (by simp [hy]));have hx:=h x (by simp);simp only[capIn];rw[ih];cases h1:look x.1 m with
  |none=>
   cases h2:look x.1 m' with
   |none=>rfl
   |some b=>
    cases b<;>first|rfl|skip
    rename_i a n;exfalso;have:=hx (.inr (by rw[h2];rfl));rw[h1,h2] at this;cases this
  |some b=>
   by_cases hc:isCapk (some b)=true
   ·have:=hx (.inl (by rw[h1];exact hc))
    rw[h1] at this;rw[←this]
   ·cases b<;>first|(simp [isCapk] at hc;done) |skip
    all_goals
     cases h2:look x.1 m' with
     |none=>rfl
     |some b'=>
      cases b'<;>first|rfl|skip
      exfalso;have:=hx (.inr (by rw[h2];rfl));rw[h1,h2] at this;cases this
def Plain (tr:List (Option Nat×AB)) (m:Mem):Prop:=∀x∈tr,∀d,x.1=some d→isCapk (some x.2)=false∧isCapk (look d m)=false
theorem look_gL_capk {L:Nat→Bool} {t:Nat}:∀{tr:List (Option Nat×AB)} {i:Nat} {m:Mem},Plain tr m→look t (gL L i tr m)=look t m∨(isCapk (look t (gL L i tr m))=false∧isCapk (look t m)=false)
 | [],i,m,_=> .inl rfl
 |x::l,i,m,h=>by
  simp only[gL];have hx:=h x (by simp);split
  ·have hp:Plain l (gP x.1 x.2 m):=by
    intro y hy d hd;refine⟨(h y (by simp [hy]) d hd).1, ?_⟩;rw[look_gP];split
    ·rename_i e;exact(hx d e).1
    ·exact(h y (by simp [hy]) d hd).2
   rcases look_gL_capk (L:=L) (t:=t) (i:=i+1) hp with h1|⟨h1,h2⟩
   ·rw[look_gP] at h1
    split at h1
    ·rename_i e
     right;rw[h1];exact hx t e
    ·exact .inl h1
   ·right
    refine⟨h1, ?_⟩;rw[look_gP] at h2;split at h2
    ·rename_i e;exact(hx t e).2
    ·exact h2
  ·exact look_gL_capk fun y hy=>h y (by simp [hy])
theorem capIn_gL {L:Nat→Bool} {M:Mem} {id:Nat}:∀{tr:List (Option Nat×AB)} {i:Nat} {m:Mem},(∀x∈tr,∀d,x.1=some d→isCapk (look d M)=false)→capIn M id (gL L i tr m)=capIn M id m
 | [],i,m,_=>rfl
 |x::l,i,m,h=>by
  simp only[gL];rw[capIn_gL fun y hy=>h y (by simp [hy])];split
  ·cases hx:x.1 with
   |none=>rfl
   |some d=>
    have:=h x (by simp) d hx;simp only[gP,capIn];cases h1:look d M with
    |none=>rfl
    |some b=>
     rw[h1] at this;cases b<;>first|rfl|(simp [isCapk] at this)
  ·rfl
theorem capIn_gL_self {L:Nat→Bool} {id i:Nat} {tr:List (Option Nat×AB)} {m:Mem} (h:Plain tr m):capIn (gL L i tr m) id (gL L i tr m)=capIn m id m:=by
 rw[capIn_gL fun x hx d hd=> ?_]
 ·refine capIn_eq m fun x hx hc=> ?_
  rcases look_gL_capk (L:=L) (t:=x.1) (i:=i) h with h1|⟨h1,h2⟩
  ·exact h1
  ·rw[h1,h2] at hc;simp at hc
 ·rcases look_gL_capk (L:=L) (t:=d) (i:=i) h with h1|⟨h1,h2⟩
  ·rw[h1];exact(h x hx d hd).2
  ·exact h1
theorem gF_take_gL {α:Type} {tr:List (Option Nat×α)} {r:List (Nat×α)} (p:Nat):gF (tr.take p) r=gL (fun q=>decide (q<p)) 0 tr r:=by
 rw[gL_list (p:=p)];intro q x d _ _;simp
def upL (L:Nat→Bool):Nat→List Bool→Nat→Nat
 |_, [],n=>n
 |i,x::l,n=>upL L (i+1) l (if L i&&x then n+1 else n)
def upF:List Bool→Nat→Nat
 | [],n=>n
 |x::l,n=>upF l (if x then n+1 else n)
theorem upL_list {L:Nat→Bool}:∀{tr:List Bool} {i p n:Nat},(∀q,tr[q]? =some true→(q<p↔L (i+q)=true))→upL L i tr n=upF (tr.take p) n
 | [],i,p,n,_=>by simp [upL,upF]
 |x::l,i,p,n,hL=>by
  simp only[upL];have h0:=hL 0;simp only[List.getElem?_cons_zero,Nat.add_zero] at h0;cases p with
  |zero=>
   rw[upL_list (p:=0) (fun q hq=>by
    have:=hL (q+1) (by simpa using hq);rw[show i+1+q=i+(q+1) from by omega,←this];omega)]
   simp only[List.take_zero,upF];cases x
   ·simp
   ·have:=h0 rfl
    simp at this;simp [this]
  |succ p=>
   rw[upL_list (p:=p) (fun q hq=>by
    have:=hL (q+1) (by simpa using hq);rw[show i+1+q=i+(q+1) from by omega,←this];omega)]
   simp only[List.take_succ_cons,upF];cases x
   ·simp
   ·have:=(h0 rfl).1 (by omega)
    simp [this]
theorem upL_same {L L':Nat→Bool}:∀{tr:List Bool} {i n:Nat},(∀q,tr[q]? =some true→L (i+q)=L' (i+q))→upL L i tr n=upL L' i tr n
 | [],i,n,_=>rfl
 |x::l,i,n,hL=>by
  simp only[upL];have e:(if (L i&&x)=true then n+1 else n)=(if (L' i&&x)=true then n+1 else n):=by
   cases x
   ·simp
   ·have:=hL 0 rfl;simp only[Nat.add_zero] at this;rw[this]
  rw[e];exact upL_same fun q hq=>by
   have:=hL (q+1) (by simpa using hq);rwa[show i+1+q=i+(q+1) from by omega]
theorem upF_snoc:∀(tr:List Bool) (x:Bool) (n:Nat),upF (tr++[x]) n=if x then upF tr n+1 else upF tr n
 | [],x,n=>by cases x<;>rfl
 |y::l,x,n=>by simp only[List.cons_append,upF];exact upF_snoc l x _
theorem upF_take_succ {tr:List Bool} {p:Nat} {x:Bool} (h:tr[p]? =some x) (n:Nat):upF (tr.take (p+1)) n=if x then upF (tr.take p) n+1 else upF (tr.take p) n:=by
 rw[←upF_snoc];congr 1;rw[List.take_add_one,h];rfl
end Go.Eng
set_option linter.unusedSimpArgs false
set_option linter.unusedVariables false
set_option linter.unnecessarySimpa false
namespace Go.Eng
open Go Go.RowKit
section
variable {R R':Type} {c:Cfg} {r r':Regs} {m m':Mem} {o:Oper} {nx:Nat}
theorem effStore_bind (p:At) (v:V1) (f:Nat→AB→Option R) (k:R→Option R'):(effStore m p v f).bind k=effStore m p v fun a b=>(f a b).bind k:=by
 unfold effStore;repeat' split
 all_goals first|rfl|simp_all [ocase_bind]
theorem effCopy_bind (τ0:Ty) (x:At) (τ':Ty) (src:List τ'.T) (f:AV→Nat→AB→Option R) (k:R→Option R'):(effCopy m τ0 x τ' src f).bind k=effCopy m τ0 x τ' src fun y a b=>(f y a b).bind k:=by
 unfold effCopy;repeat' split
 all_goals first|rfl|simp_all [ocase_bind,bcase_bind]
theorem freshQ_bind (s:FSpec) (as:List AV) (f:At→AB→Option R) (k:R→Option R'):(freshQ s nx as f).bind k=freshQ s nx as fun y b=>(f y b).bind k:=by
 unfold freshQ;split
 ·rw[ocase_bind];congr 1;funext b;split<;>rfl
 ·rfl
theorem effF_bind (f:Operand) (args:Array Operand) (ts:Array TypeId) (g:At→AB→Option R) (k:R→Option R'):(effF c f args ts r m nx g).bind k=effF c f args ts r m nx fun y b=>(g y b).bind k:=by
 unfold effF;split
 ·split
  ·rw[viewVs_bind];congr 1;funext as';rw[freshQ_bind];congr 1;funext y b;split<;>rfl
  ·rfl
 ·rfl
theorem mgetK_bind {κ τ:Ty} (key:κ.T):∀(l:List (κ.T×τ.T×Nat)) (kv:τ.T→Nat→Option R) (kn:Option R) (k:R→Option R'),(mgetK key l kv kn).bind k=mgetK key l (fun v b=>(kv v b).bind k) (kn.bind k)
 | [],_,_,_=>rfl
 |x::l,kv,kn,k=>by simp only[mgetK];rw[bcase_bind,mgetK_bind key l]
theorem mapW_bind {σ:St} {t:TypeId} {x i:Operand} {kk:(id:Nat)→(ag:Bool)→(κ τ:Ty)→List (κ.T×τ.T×Nat)→Nat→κ.T→TI→Option R} (k:R→Option R'):(mapW c σ t x i kk).bind k=mapW c σ t x i fun id ag κ τ l ck key te=>(kk id ag κ τ l ck key te).bind k:=by
 unfold mapW;repeat' split
 all_goals first|rfl|simp_all
theorem effG_bind (f:Operand) (args:Array Operand) (ts:Array TypeId) (g:AV→Nat→Option R) (k:R→Option R'):(effG c f args ts r m g).bind k=effG c f args ts r m fun y b=>(g y b).bind k:=by
 unfold effG;split
 ·split
  ·split
   ·rw[viewVs_bind];congr 1;funext as';rw[specQ_bind]
   ·rfl
  ·rfl
 ·rfl
theorem effA_bind (τ:Ty) (x:At) (ys:List τ.T) (f:AV→Nat→AB→Bool→Option R) (k:R→Option R'):(effA τ m x nx ys f).bind k=effA τ m x nx ys fun y a b u=>(f y a b u).bind k:=by
 unfold effA;repeat' split
 all_goals first|rfl|simp_all [ocase_bind,lcase_bind]
theorem effW_bind (f:AV→Nat→AB→Bool→Option R) (k:R→Option R'):(effW c o r m nx f).bind k=effW c o r m nx fun y a b u=>(f y a b u).bind k:=by
 unfold effW;repeat' split
 all_goals first|rfl|(simp_all [ocase_bind,bcase_bind,lcase_bind,effStore_bind,effCopy_bind,listOf_bind];done) |(rw[effF_bind];done) |(rw[effG_bind];done) |(simp_all [ocase_bind,listOf_bind,effA_bind];done) |(rw[mapW_bind];simp only[mgetK_bind,ocase_bind];done)
abbrev effT (c:Cfg) (o:Oper) (r:Regs) (m:Mem) (nx:Nat):Option (AV×Nat×AB×Bool):=effW c o r m nx fun y a b u=>some (y,a,b,u)
theorem effW_some {k:AV→Nat→AB→Bool→Option R} {res:R} (h:effW c o r m nx k=some res):∃y id b up,effT c o r m nx=some (y,id,b,up)∧k y id b up=some res:=by
 have e:=effW_bind (c:=c) (o:=o) (r:=r) (m:=m) (nx:=nx) (f:=fun y a b u=>some (y,a,b,u)) (k:=fun x=>k x.1 x.2.1 x.2.2.1 x.2.2.2);simp only[Option.bind_some] at e;rw[←e] at h;obtain⟨⟨y,id,b,up⟩,h1,h2⟩:=Option.bind_eq_some_iff.1 h;exact⟨y,id,b,up,h1,h2⟩
theorem ev_same {t:TypeId} {x:Operand} (h:∀t∈opTmps o,look t r=look t r') (hx:x∈o.op.operands.toList):ev c r t x=ev c r' t x:=by
 cases x with
 |tmp n=>
  have:=h n (opTmps_mem hx);simp only[ev,lookT];rw[this]
 |const v=>rfl
 |func f=>rfl
 |global _=>rfl
theorem evA_same {t:TypeId} {x:Operand} (h:∀t∈opTmps o,look t r=look t r') (hx:x∈o.op.operands.toList):evA c r t x=evA c r' t x:=by unfold evA;rw[ev_same h hx]
theorem evV_same {t:TypeId} {x:Operand} (h:∀t∈opTmps o,look t r=look t r') (hx:x∈o.op.operands.toList):evV c r t x=evV c r' t x:=by unfold evV;rw[ev_same h hx]
theorem ownsOps_same (h:∀t∈opTmps o,look t r=look t r'):∀{l:List (Nat×Operand)},(∀x∈l,x.2∈o.op.operands.toList)→ownsOps c r l=ownsOps c r' l
 | [],_=>rfl
 |x::l,hl=>by
  simp only[ownsOps];rw[ev_same h (hl x (by simp)),ownsOps_same h (fun y hy=>hl y (by simp [hy]))]
theorem fillS_same (h:∀t∈opTmps o,look t r=look t r') {t:TypeId} {s:Nat}:∀{l:List (Nat×Operand)} {cells:List At},(∀x∈l,x.2∈o.op.operands.toList)→fillS c r t s cells l=fillS c r' t s cells l
 | [],_,_=>rfl
 |x::l,cells,hl=>by
  simp only[fillS];rw[evV_same h (hl x (by simp))];split
  ·split
   ·exact fillS_same h (fun y hy=>hl y (by simp [hy]))
   ·rfl
  ·rfl
theorem touch_same (h:∀t∈opTmps o,look t r=look t r'):touch r o=touch r' o:=by
 unfold touch;cases looksM o.op
 ·rfl
 ·simp only []
  generalize opTmps o=l at h;induction l with
  |nil=>rfl
  |cons a l ih=>
   simp only[List.flatMap_cons];rw[h a (by simp),ih (fun t ht=>h t (by simp [ht]))]
theorem evArgs_same (h:∀t∈opTmps o,look t r=look t r'):∀{l:List Operand} {ts:List TypeId},(∀x∈l,x∈o.op.operands.toList)→evArgs c r l ts=evArgs c r' l ts
 | [],_,_=>rfl
 |x::l,ts,hl=>by
  simp only[evArgs];rw[ev_same h (hl x (by simp)),evArgs_same h (fun y hy=>hl y (by simp [hy]))]
theorem effF_same {f:Operand} {args:Array Operand} {ts:Array TypeId} {kk:At→AB→Option R} (h:∀t∈opTmps o,look t r=look t r') (hf:f∈o.op.operands.toList) (ha:∀x∈args.toList,x∈o.op.operands.toList):effF c f args ts r m nx kk=effF c f args ts r' m nx kk:=by
 unfold effF calleeOf;rw[ev_same h hf,evArgs_same h ha]
theorem effG_same {f:Operand} {args:Array Operand} {ts:Array TypeId} {kk:AV→Nat→Option R} (h:∀t∈opTmps o,look t r=look t r') (hf:f∈o.op.operands.toList) (ha:∀x∈args.toList,x∈o.op.operands.toList):effG c f args ts r m kk=effG c f args ts r' m kk:=by
 unfold effG calleeOf;rw[ev_same h hf,evArgs_same h ha]
theorem hasGone_same {f:Operand} (h:∀t∈opTmps o,look t r=look t r') (hf:f∈o.op.operands.toList):hasGone c r f=hasGone c r' f:=by
 unfold hasGone calleeOf;rw[ev_same h hf]
theorem mapW_same {t:TypeId} {x i:Operand} {kk:(id:Nat)→(ag:Bool)→(κ τ:Ty)→List (κ.T×τ.T×Nat)→Nat→κ.T→TI→Option R} (h:∀t∈opTmps o,look t r=look t r') (hx:x∈o.op.operands.toList) (hi:i∈o.op.operands.toList):
 mapW c {regs:=r,mem:=m,nx:=nx} t x i kk=mapW c {regs:=r',mem:=m,nx:=nx} t x i kk:=by
 unfold mapW;simp only;rw[evA_same h hx,evA_same h hi]
theorem effW_same {k:AV→Nat→AB→Bool→Option R} (h:∀t∈opTmps o,look t r=look t r'):effW c o r m nx k=effW c o r' m nx k:=by
 unfold effW;split
 case h_1=>rfl
 case h_2 t x ho=>rw[evV_same h (by simp [ho,Op.operands])]
 case h_3 t n parts ho=>
  have hp:∀x∈parts.toList,x.2∈o.op.operands.toList:=by
   intro x hx;simp only[ho,Op.operands,Array.toList_map,List.mem_map];exact⟨x,hx,rfl⟩
  rw[ownsOps_same h hp];split
  ·split
   ·split
    ·rw[fillS_same h hp]
    ·rfl
   ·rfl
  ·rfl
 case h_4 t n q ho=>rw[evA_same h (x:=n) (by simp [ho,Op.operands]),evA_same h (x:=q) (by simp [ho,Op.operands])]
 case h_5 t a x ho=>
  rw[evA_same h (x:=a) (by simp [ho,Op.operands]),evV_same h (x:=x) (by simp [ho,Op.operands])];have hx:∀z∈[((0:Nat),x)],z.2∈o.op.operands.toList:=by intro z hz;simp at hz;subst hz;simp [ho,Op.operands]
  have e:=ownsOps_same (c:=c) h hx;cases evA c r' 0 a with
  |none=>rfl
  |some p=>cases p<;>first|rfl|(simp only [];rw[e])
 case h_6 args ts ho=>
  split
  ·rename_i x y t t' h1 h2
   have hx:x∈o.op.operands.toList:=by simp [ho,Op.operands,Call.operands,h1]
   have hy:y∈o.op.operands.toList:=by simp [ho,Op.operands,Call.operands,h1]
   rw[evA_same h hx,evA_same h hy]
  ·rfl
 case h_7 f args ts ho=>
  have hf:f∈o.op.operands.toList:=by simp [ho,Op.operands,Call.operands]
  have ha:∀x∈args.toList,x∈o.op.operands.toList:=by intro x hx;simp only[ho,Op.operands,Call.operands,Array.toList_append,List.mem_append];simp [hx]
  rw[hasGone_same h hf];split
  ·exact effG_same h hf ha
  ·exact effF_same h hf ha
 case h_8 args ts ho=>
  split
  ·rename_i x y t t' h1 h2
   have hx:x∈o.op.operands.toList:=by simp [ho,Op.operands,Call.operands,h1]
   have hy:y∈o.op.operands.toList:=by simp [ho,Op.operands,Call.operands,h1]
   rw[evA_same h hx,evA_same h hy]
  ·rfl
 case h_9 t x i ok ho=>exact mapW_same h (by simp [ho,Op.operands]) (by simp [ho,Op.operands])
 case h_10=>rfl
theorem mapW_one {σ:St} {t:TypeId} {x i:Operand} {kk:(id:Nat)→(ag:Bool)→(κ τ:Ty)→List (κ.T×τ.T×Nat)→Nat→κ.T→TI→Option R} {res:R} (h:mapW c σ t x i kk=some res):
 ∃id ag κ τ l ck key te,kk id ag κ τ l ck key te=some res∧∀{R':Type} (kk':(id:Nat)→(ag:Bool)→(κ τ:Ty)→List (κ.T×τ.T×Nat)→Nat→κ.T→TI→Option R'),mapW c σ t x i kk'=kk' id ag κ τ l ck key te:=by
 unfold mapW at h;split at h
 ·rename_i ag0 sz z κ τ0 kt e hti
  split at h
  ·rename_i id ki te hx hi hte
   split at h
   ·rename_i ag κ' τ l ck hl
    split at h
    ·rename_i hsame
     split at h
     ·rename_i key hkey
      exact⟨id,ag,κ',τ,l,ck,key,te,h,fun kk'=>by unfold mapW;simp only[hti,hx,hi,hte,hl,hsame,hkey]⟩
     ·cases h
    ·cases h
   ·cases h
  ·cases h
 ·cases h
theorem mgetK_one {κ τ:Ty} {key:κ.T}:∀{l:List (κ.T×τ.T×Nat)} {kv:τ.T→Nat→Option R} {kn:Option R} {res:R},mgetK key l kv kn=some res→
 (∃v b,kv v b=some res∧∀{R':Type} (kv':τ.T→Nat→Option R') (kn':Option R'),mgetK key l kv' kn'=kv' v b)∨(kn=some res∧∀{R':Type} (kv':τ.T→Nat→Option R') (kn':Option R'),mgetK key l kv' kn'=kn')
 | [],kv,kn,res,h=> .inr ⟨h,fun _ _=>rfl⟩
 |x::l,kv,kn,res,h=>by
  simp only[mgetK] at h;rcases bcase_some h with⟨hb,h⟩ |⟨hb,h⟩
  ·exact .inl ⟨_,_,h,fun kv' kn'=>by simp only[mgetK,hb,bcase]⟩
  ·rcases mgetK_one h with⟨v,b,h1,h2⟩ |⟨h1,h2⟩
   ·exact .inl ⟨v,b,h1,fun kv' kn'=>by simp only[mgetK,hb,bcase,h2]⟩
   ·exact .inr ⟨h1,fun kv' kn'=>by simp only[mgetK,hb,bcase,h2]⟩
theorem effF_one {f:Operand} {args:Array Operand} {ts:Array TypeId} {kk:At→AB→Option R} {res:R} (h:effF c f args ts r m nx kk=some res):∃y b,kk y b=some res∧hasFresh c r f=true∧∀{R':Type} (kk':At→AB→Option R'),effF c f args ts r m nx kk'=kk' y b:=by
 obtain⟨nn,as,as',s,x,ab,y,hn,has,hsp,hu,hx,hab,hy,hc,hk⟩:=effF_some h;refine⟨y,ab,hk,by unfold hasFresh;simp only[hn,hsp],fun kk'=> ?_⟩;unfold effF;simp only[hn,has,hsp];rw[hu];unfold freshQ;have e:(flatB ab||(ownsVs as).isEmpty)=true:=by
  rcases hc with hc|hc
  ·simp [hc]
  ·simp [hc]
 obtain⟨z,hz,rfl⟩:∃z,s.g x=some z∧s.enc z=ab:=by
  unfold FSpec.f at hab;split at hab
  ·rename_i z hz;exact⟨z,hz,by cases hab;rfl⟩
  ·cases hab
 simp only[hx,hz,ocase,hy,e]
theorem listOf_one {p:At} {kk:(τ:Ty)→List τ.T→Option R} {res:R} (h:listOf m p kk=some res):∃τ l,(∀{R':Type} (kk':(τ:Ty)→List τ.T→Option R'),listOf m p kk'=kk' τ l)∧kk τ l=some res:=by
 unfold listOf at h;split at h
 ·exact⟨_,_,fun _=>rfl,h⟩
 ·exact⟨_,_,fun _=>rfl,h⟩
 ·split at h
  ·rename_i h7;exact⟨_,_,fun _=>by simp only[listOf,h7],h⟩
  ·cases h
 ·split at h
  ·rename_i h7
   split at h
   ·rename_i h8;exact⟨_,_,fun _=>by simp only[listOf,h7,h8],h⟩
   ·cases h
  ·cases h
 ·cases h
theorem effG_one {f:Operand} {args:Array Operand} {ts:Array TypeId} {kk:AV→Nat→Option R} {res:R} (h:effG c f args ts r m kk=some res):∃y id,kk y id=some res∧∀{R':Type} (kk':AV→Nat→Option R'),effG c f args ts r m kk'=kk' y id:=by
 unfold effG at h;split at h
 ·rename_i nn as hn has
  split at h
  ·rename_i s hsp
   split at h
   ·rename_i id hid
    obtain⟨as',hu⟩:=viewVs_one h;rw[hu] at h;obtain⟨x,y,hx,hy,hk⟩:=specQ_ok h;refine⟨s.enc y,id,hk,fun kk'=> ?_⟩;unfold effG;simp only[hn,has,hsp,hid];rw[hu];unfold specQ;simp only[hx,hy,ocase]
   ·cases h
  ·cases h
 ·cases h
theorem eff_cases {σ:St} {y:AV} {id:Nat} {b:AB} {up:Bool} (h:effT c o σ.regs σ.mem σ.nx=some (y,id,b,up)):
 (∀(H:Hnd R) (k:St→Option R),stepX H c o σ k=St.put c {regs:=σ.regs,mem:=(id,b)::σ.mem,nx:=nxOf up σ.nx} o.dst y k)∨
 (∀(k:St→Option R),stepU c o σ k=St.put c {regs:=σ.regs,mem:=(id,b)::σ.mem,nx:=nxOf up σ.nx} o.dst y k):=by
 unfold effT effW at h;split at h
 case h_7 f args ts ho=>
  split at h
  ·obtain⟨y',id',h1,h2⟩:=effG_one h
   cases h1;refine .inr fun k=> ?_
   simp only[stepU,ho,h2];rfl
  ·obtain⟨y',b',h1,h2,h3⟩:=effF_one h
   cases h1;refine .inl fun H k=> ?_
   simp only[stepX,ho,stepV,h2,stepFresh,h3];rfl
 case h_8 args ts ho=>
  split at h
  ·rename_i x y' t t' h1 h2
   split at h
   ·rename_i τ e h3 h4
    split at h
    ·rename_i te xx yy h5 h6 h7
     have go:∀(τ':Ty) (ys:List τ'.T),(∀{R':Type} (kk:(τ:Ty)→List τ.T→Option R'),listOf σ.mem yy kk=kk τ' ys)→(ocase (castL τ' τ ys) fun ys=>effA τ σ.mem xx σ.nx ys fun y id b u=>some (y,id,b,u))=some (y,id,b,up)→
      (∀(H:Hnd R) (k:St→Option R),stepX H c o σ k=St.put c {regs:=σ.regs,mem:=(id,b)::σ.mem,nx:=nxOf up σ.nx} o.dst y k)∨
      (∀(k:St→Option R),stepU c o σ k=St.put c {regs:=σ.regs,mem:=(id,b)::σ.mem,nx:=nxOf up σ.nx} o.dst y k):=by
      intro τ' ys hl h;obtain⟨ys',hys,h⟩:=ocase_some h;unfold effA at h;split at h
      ·rename_i τ1
       obtain⟨l,hl1,h⟩:=ocase_some h;refine .inl fun H k=> ?_
       simp only[stepX,stepW,ho,h1,h2,h3,h4,h5,h6,h7,hl,hys,ocase,appendW,hl1];unfold lcase at h⊢;split at h
       ·cases h;rfl
       ·cases h
      ·rename_i id'
       split at h
       ·rename_i τ1 l0 h8
        obtain⟨l,hl1,h⟩:=ocase_some h;refine .inr fun k=> ?_
        simp only[stepU,ho,h1,h2,h3,h4,h5,h6,h7,hl,hys,ocase,h8,hl1];unfold lcase at h⊢;split at h
        ·cases h;rfl
        ·cases h
       ·cases h
      ·cases h
     obtain⟨τ',ys,hl,hk⟩:=listOf_one h;exact go τ' ys hl hk
    ·cases h
   ·cases h
  ·cases h
 all_goals refine .inl fun H k=> ?_
 case h_9 t x i ok ho=>
  simp only[stepX,ho,stepW,lookupW];obtain⟨id',ag,κ,τ,l,ck,key,te,h1,h2⟩:=mapW_one h;rw[h2 (fun id ag κ τ l ck key te=>mgetK key l (fun v _=>ocase (V1.ofCells ag (τ.enc v)) fun y=>(σ.set id (.map ag κ τ l ck)).put c o.dst (commaOk ok y true) k) ((σ.set id (.map ag κ τ l ck)).put c o.dst (commaOk ok te.zero false) k))];rcases mgetK_one h1 with⟨v,bb,h4,h5⟩ |⟨h4,h5⟩
  ·rw[h5]
   cases h6:V1.ofCells ag (τ.enc v) with
   |none=>rw[h6] at h4;cases h4
   |some z=>rw[h6] at h4;cases h4;rfl
  ·rw[h5]
   cases h4;rfl
 case h_1 t ho=>
  simp only[stepX,stepW,ho];split at h
  ·rename_i h1;cases h;(try simp only[h1]);rfl
  ·cases h
 case h_2 t x ho=>
  simp only[stepX,stepW,ho];split at h
  ·rename_i h1;cases h;(try simp only[h1]);rfl
  ·cases h
 case h_3 t n parts ho=>
  simp only[stepX,stepW,ho];split at h
  ·rename_i h0
   rw[h0];simp only[freezeAll];split at h
   ·rename_i τ e h1
    (try simp only[h1])
    split at h
    ·rename_i te h2
     (try simp only[h2])
     split at h
     ·rename_i cells h3
      (try simp only[h3])
      cases h4:decAll τ n cells with
      |none=>rw[h4] at h;cases h
      |some l=>rw[h4] at h;cases h;rfl
     ·cases h
    ·cases h
   ·cases h
  ·cases h
 case h_4 t n q ho=>
  simp only[stepX,stepW,ho];split at h
  ·rename_i τ e k1 a k2 b h1 h2 h3
   (try simp only[h1,h2,h3])
   split at h
   ·rename_i te h4
    (try simp only[h4])
    rcases bcase_some h with⟨hb,h⟩ |⟨hb,h⟩
    ·rw[hb]
     simp only[bcase];unfold lcase at h⊢;split at h
     ·rename_i hl
      (try simp only [])
      cases h5:τ.decC te.zero.cells with
      |none=>rw[h5] at h;cases h
      |some z=>rw[h5] at h;cases h;rfl
     ·cases h
    ·cases h
   ·cases h
  ·cases h
 case h_5 t a x ho=>
  simp only[stepX,stepW,ho];split at h
  ·rename_i h0
   rw[h0];simp only[freezeAll];split at h
   ·rename_i p v ti h1 h2 h3
    (try simp only[h1,h2,h3])
    split at h
    ·rename_i h4
     (try simp only[h4])
     unfold effStore at h;split at h
     ·rename_i id' off
      split at h
      ·rename_i l h5
       split at h
       ·rename_i h6;cases h;(try simp only[storeAt,h5,h6]);rfl
       ·cases h
      ·cases h
     ·rename_i id' i j
      split at h
      ·rename_i τ l h5
       split at h
       ·rename_i h6
        (try simp only[storeAt,h5,h6])
        cases h7:l[i]? with
        |none=>rw[h7] at h;cases h
        |some e=>
         rw[h7] at h;simp only[ocase] at h⊢;cases h8:τ.decC (setCells (τ.enc e) j v.cells) with
         |none=>rw[h8] at h;cases h
         |some e'=>rw[h8] at h;cases h;rfl
       ·cases h
      ·cases h
     ·cases h
    ·cases h
   ·cases h
  ·cases h
 case h_6 args ts ho=>
  simp only[stepX,stepW,ho];split at h
  ·rename_i x y' t t' h1 h2
   (try simp only[h1,h2])
   split at h
   ·rename_i τ0 e h3 h4
    (try simp only[h3,h4])
    split at h
    ·cases h
    ·rename_i xx yy h5 h6 hno
     have go:∀(τ':Ty) (src:List τ'.T),(effCopy σ.mem τ0 xx τ' src fun y id b=>some (y,id,b,false))=some (y,id,b,up)→copyW c o σ τ0 xx τ' src k=St.put c {regs:=σ.regs,mem:=(id,b)::σ.mem,nx:=nxOf up σ.nx} o.dst y k:=by
      intro τ' src h;unfold effCopy at h;split at h
      ·split at h
       ·rename_i h5
        split at h
        ·rename_i h6
         (try simp only[copyW,h5,h6])
         cases h7:castL τ' _ src with
         |none=>rw[h7] at h;cases h
         |some s=>rw[h7] at h;cases h;rfl
        ·cases h
       ·cases h
      ·split at h
       ·rename_i h5
        split at h
        ·rename_i h6
         (try simp only[copyW,h5,h6])
         rcases bcase_some h with⟨h6',h⟩ |⟨_,h⟩
         rotate_left
         ·cases h
         rw[h6'];simp only[bcase];cases h7:castL τ' _ src with
         |none=>rw[h7] at h;cases h
         |some s=>rw[h7] at h;cases h;rfl
        ·cases h
       ·cases h
      ·cases h
     unfold listOf at h⊢;split at h
     ·exact go _ _ h
     ·exact go _ _ h
     ·split at h
      ·rename_i h7;(try simp only[h7]);exact go _ _ h
      ·cases h
     ·split at h
      ·rename_i h7
       (try simp only[h7])
       split at h
       ·rename_i h8;(try simp only[h8]);exact go _ _ h
       ·cases h
      ·cases h
     ·cases h
    ·cases h
   ·cases h
  ·cases h
 case h_10=>cases h
theorem stepOp_W {H:Hnd R} {σ:St} {k:St→Option R} {y:AV} {id:Nat} {b:AB} {up:Bool} (hq:isQ c o.op=false) (h:stepX H c o σ k=St.put c {regs:=σ.regs,mem:=(id,b)::σ.mem,nx:=nxOf up σ.nx} o.dst y k):
 stepOp H c true o σ k=St.put c {regs:=σ.regs,mem:=(id,b)::σ.mem,nx:=nxOf up σ.nx} o.dst y k:=by
 rw[←h];simp only[stepOp,hq]
end
end Go.Eng
