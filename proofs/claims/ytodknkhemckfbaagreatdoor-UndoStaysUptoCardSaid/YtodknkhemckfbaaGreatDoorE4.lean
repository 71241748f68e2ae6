/- A part of the proofs of the laws of this seat: the engine that reads the program's code, plain functions, or facts of the program's functions. Conditions: none. -/
import Derived.Test.YtodknkhemckfbaaGreatDoorE3
import Derived.Scope
import Derived.RangeFuncRecord
import Derived.ChangeArms
import Derived.DataReads
import Derived.ReadAgain
import Derived.ChangeOld
import Derived.ChangeSame
import Derived.Below
import Derived.OpenShut
import Derived.Lib.Overlaps
import Derived.MakeChecks
set_option linter.unusedSectionVars false
set_option linter.unusedVariables false
set_option linter.unusedSimpArgs false
set_option linter.unnecessarySimpa false
namespace Go.Eng
open Go Go.RowKit
section
variable {P:Program} [aD P] {F:Fence} {n:Nat} {c:Cfg} {g g':Gh} {r:cj} {m:Mem} {a:Act} {w w':World} {o:Oper} {R:Type} {k:St->Option R} {res:R}
variable {base:Nat} {w0:World} {S0:Nat->Prop} {N:Nat} {D:Wt} {sv:Nat->Value} {σ:St} {ops:Array Oper} {Q:Exit->Act->World->Prop} {ds:List (Option Nat)}
theorem qy {x:Item} {i:Nat}:∀{l:List Item},vq c ds i x l=true->∀y∈l,oB c ds x y=true->Nat.testBit y.2.1 i=true
 | [],_,y,hy,_=>by simp at hy
 |z::l,h,y,hy,hc=>by
  unfold vq at h;split at h
  ·split at h
   ·rename_i hb
    rcases List.mem_cons.1 hy with rfl|hy
    ·exact hb
    ·exact qy h y hy hc
   ·simp at h
  ·rename_i hcl
   rcases List.mem_cons.1 hy with rfl|hy
   ·rw[hc] at hcl;cases hcl
   ·exact qy h y hy hc
theorem xh:∀{l:List Item} {i:Nat},CP c ds i l=true->∀{p q:Nat} {x y:Item},p<q->l[p]? =some x->l[q]? =some y->oB c ds x y=true->Nat.testBit y.2.1 (i+p)=true
 | [],i,_,p,q,x,y,_,hx,_,_=>by simp at hx
 |z::l,i,h,p,q,x,y,hpq,hx,hy,hc=>by
  unfold CP at h;split at h
  ·rename_i hf
   cases q with
   |zero=>omega
   |succ q=>
    simp at hy;cases p with
    |zero=>
     simp at hx;subst hx;exact qy hf y (List.mem_of_getElem? hy) hc
    |succ p=>
     simp at hx;have:=xh h (by omega:p<q) hx hy hc;rw[show i+(p+1)=i+1+p from by omega];exact this
  ·simp at h
theorem Ac:∀{l:List (Oper×Nat)} {i p:Nat} {x:Oper×Nat},l[p]? =some x->∃lo,(tW c i l)[p]? =some (x.1,x.2,lo)/\(lo=true->x.1.guard=none/\isW c x.1.op=true)
 | [],i,p,x,h=>by simp at h
 |z::l,i,0,x,h=>by
  simp at h;subst h;refine⟨_,by simp only[tW,List.getElem?_cons_zero];rfl,λh=> ?_⟩;split at h
  ·rename_i h1 h2 h3;exact⟨h3,h2⟩
  ·cases h
 |z::l,i,p+1,x,h=>by
  simp only[tW,List.getElem?_cons_succ];exact Ac (by simpa using h)
theorem zN:∀{l:List (Oper×Nat)} {i:Nat},(tW c i l).length=l.length
 | [],_=>rfl
 |x::l,i=>by simp [tW,zN]
theorem jA:(fl c ops.toList).length=ops.size:=by
 obtain⟨rest,h1,h2,h3⟩:=km ops.toList [];simp only[List.nil_append] at h1;unfold fl;rw[zN,List.length_zip,h1,h2];simp
theorem AQ {p:Nat} (h:ops[p]? =some o):∃b lo,(fl c ops.toList)[p]? =some (o,b,lo)/\(kb [] ops.toList)[p]? =some b/\(lo=true->o.guard=none/\isW c o.op=true):=by
 obtain⟨rest,h1,h2,h3⟩:=km ops.toList [];simp only[List.nil_append] at h1;have hp:p<ops.size:=(Array.getElem?_eq_some_iff.1 h).1;have hr:p<rest.length:=by rw[h2];simpa using hp
 have hz:(ops.toList.zip (kb [] ops.toList))[p]? =some (o,rest[p]):=by
  rw[h1,List.getElem?_zip_eq_some];exact⟨by simpa using h,List.getElem?_eq_getElem hr⟩
 obtain⟨lo,h4,h5⟩:=Ac (c:=c) (i:=0) hz;exact⟨rest[p],lo,h4,by rw[h1];exact List.getElem?_eq_getElem hr,h5⟩
theorem vX {p:Nat} {x:Item} (h:(fl c ops.toList)[p]? =some x):ops[p]? =some x.1/\(kb [] ops.toList)[p]? =some x.2.1/\(x.2.2=true->x.1.guard=none/\isW c x.1.op=true):=by
 have hp:p<ops.size:=by rw[<-jA (c:=c)];exact(List.getElem?_eq_some_iff.1 h).1
 have ho:ops[p]? =some ops[p]:=by simp
 obtain⟨b,lo,h1,h2,h3⟩:=AQ (c:=c) ho;rw[h] at h1;cases h1;exact⟨ho,h2,h3⟩
theorem tI {L:Array Bool} (hb:h_ 0 ops.toList=true) (hc:pT ops L) {i j:Nat} {y:Item} (hy:(fl c ops.toList)[j]? =some y) (hbit:Nat.testBit y.2.1 i=true)
 (he:∀e∈y.1.after,eu e=true->L.getD e.on false=true):L.getD i false=true:=by
 obtain⟨h1,h2,_⟩:=vX hy;exact xf hc hb j y.1 y.2.1 h1 h2 he i hbit
theorem sV {L:Array Bool} (ho:wv c ops.toList=true) (hc:pT ops L) {i j:Nat} {x y:Item} (hij:i<j) (hx:(fl c ops.toList)[i]? =some x) (hy:(fl c ops.toList)[j]? =some y) (hcl:oB c (ops.toList.map (·.dst)) x y=true)
 (he:∀e∈y.1.after,eu e=true->L.getD e.on false=true):L.getD i false=true:=by
 unfold wv at ho;split at ho
 ·rename_i hb
  have hbit:=xh ho hij hx hy hcl;simp only[Nat.zero_add] at hbit;exact tI hb hc hy hbit he
 ·simp at ho
theorem aaq {x y:Oper} {t:Nat} (hx:x.dst=some t) (hy:t∈gK ds y):lQ ds x y=true:=by simp [lQ,xj,hx,l6.2 hy]
theorem Zi {x y:Oper} {t:Nat} (hy:y.dst=some t) (hx:t∈gK ds x):lQ ds x y=true:=by simp [lQ,xj,hy,l6.2 hx]
theorem aah {x y:Oper} {t:Nat} (hx:x.dst=some t) (hy:y.dst=some t):lQ ds x y=true:=by simp [lQ,yi,hx,hy]
theorem clX {x y:Item} (h:lQ ds x.1 y.1=true):oB c ds x y=true:=by
 unfold oB;split
 ·exact h
 ·rfl
theorem IS {x y:Item} (h:(isQ c x.1.op||x.2.2)=false\/(isQ c y.1.op||y.2.2)=false\/(isQ c x.1.op||isQ c y.1.op)=false):oB c ds x y=true:=by
 unfold oB;split
 ·rename_i h1 h2 h3
  rcases h with h|h|h
  ·rw[h1] at h;cases h
  ·rw[h2] at h;cases h
  ·rw[h3] at h;cases h
 ·rfl
theorem DX (d:Option Nat) (y:AV) (r:cj):i_ d y r=gP d y r:=by cases d<;>rfl
theorem put_eq {dst:Option Nat} {x:AV} {σ:St} {kk:St->Option R} (h:∀d,dst=some d->d<c.N/\d<OFF):σ.put c dst x kk=kk {az:=i_ dst x σ.az,mem:=σ.mem,nx:=σ.nx}:=by
 cases dst with
 |none=>rfl
 |some d=>
  obtain⟨h1,h2⟩:=h d rfl;unfold St.put;have e1:Nat.blt d c.N=true:=Nat.ble_eq_true_of_le h1;have e2:Nat.blt d OFF=true:=Nat.ble_eq_true_of_le h2;simp only[e1,e2];rfl
structure TX where
 d:Option Nat
 y:AV
 e:Option (Nat×AB×Bool)
def rT (tr:List TX):List (Option Nat×AV):=tr.map λx=>(x.d,x.y)
def mE:Option (Nat×AB×Bool)->Option Nat×AB
 |some (id,b,_)=>(some id,b)
 |none=>(none, .gone)
def uE:Option (Nat×AB×Bool)->Bool
 |some (_,_,u)=>u
 |none=>false
def mT (tr:List TX):List (Option Nat×AB):=tr.map λx=>mE x.e
def uT (tr:List TX):List Bool:=tr.map λx=>uE x.e
structure Y3 (H:Hnd R) (c:Cfg) (ds:List (Option Nat)) (k:St->Option R) (res:R) (s:Nat) (σ:St) (l:List Item) (tr:List TX) (σe:St):Prop where
 le:tr.length<=l.length
 rest:∃T U,Bc H c ds (l.drop tr.length) (s+tr.length) T U σe k=some res
 head:∀(o:Item),l[tr.length]? =some o->isQ c o.1.op=false/\o.2.2=false
 mem:σe.mem=gF (mT tr) σ.mem
 nx:σe.nx=upF (uT tr) σ.nx
 az:∀t,look t σe.az=look t (gF (rT tr) σ.az)
 dst:∀(p:Nat) (o:Item) (x:TX),l[p]? =some o->tr[p]? =some x->x.d=o.1.dst/\∀d,o.1.dst=some d->d<c.N/\d<OFF
 w7:∀(p:Nat) (o:Item) (x:TX),l[p]? =some o->tr[p]? =some x->isQ c o.1.op=true->x.e=none/\∃r,(∀t,look t r=look t (gF ((rT tr).take p) σ.az))/\Eh c ds o.1 r (gF ((mT tr).take p) σ.mem) x.y
 jX:∀(p:Nat) (o:Item) (x:TX),l[p]? =some o->tr[p]? =some x->isQ c o.1.op=false->o.2.2=true/\∃id b up r,x.e=some (id,b,up)/\(∀t,look t r=look t (gF ((rT tr).take p) σ.az))/\
  MJ c o.1 r (gF ((mT tr).take p) σ.mem) (upF ((uT tr).take p) σ.nx)=some (x.y,id,b,up)
 plain:Plain (mT tr) σ.mem
 un1:∀(p q:Nat) (o o':Item) (x':TX) (id:Nat) (b:AB) (up:Bool),l[p]? =some o->l[q]? =some o'->tr[q]? =some x'->p<q->isQ c o.1.op=true->x'.e=some (id,b,up)->Nat.testBit o'.2.1 (s+p)=true\/id ∉jb (gF ((rT tr).take p) σ.az) o.1
 un2:∀(p q:Nat) (o:Item) (x':TX) (id:Nat) (b:AB) (up:Bool),l[p]? =some o->p<tr.length->tr[q]? =some x'->q<p->isQ c o.1.op=true->x'.e=some (id,b,up)->Nat.testBit o.2.1 (s+q)=true\/id ∉jb (gF ((rT tr).take p) σ.az) o.1
theorem Dj {H:Hnd R}:∀(l:List Item) (i:Nat) (T:List (Nat×List Nat)) (U:List (Nat×Nat)) (σ:St),Bc H c ds l i T U σ k=some res->∃tr σe,Y3 H c ds k res i σ l tr σe/\
 (∀(q:Nat) (o:Item) (x:TX) (id:Nat) (b:AB) (up:Bool),l[q]? =some o->tr[q]? =some x->x.e=some (id,b,up)->∀z∈T,Nat.testBit o.2.1 z.1=true\/id ∉z.2)/\
 (∀(p:Nat) (o:Item),l[p]? =some o->p<tr.length->isQ c o.1.op=true->∀j∈U,Nat.testBit o.2.1 j.1=true\/j.2 ∉jb (gF ((rT tr).take p) σ.az) o.1)
 | [],i,T,U,σ,h=>⟨[],σ,{le:=by simp,rest:=⟨T,U,by simpa using h⟩,head:=λo h=>(by simp at h),mem:=rfl,nx:=rfl,az:=λ_=>rfl,dst:=λp o x h=>(by simp at h),w7:=λp o x h=>(by simp at h),jX:=λp o x h=>(by simp at h),plain:=λx hx=>(by simp [mT] at hx),un1:=λp q o o' x' id b up h=>(by simp at h),un2:=λp q o x' id b up h=>(by simp at h)},λq o x id b up h=>(by simp at h),λp o h=>(by simp at h)⟩
 |(o,bef,lo)::l,i,T,U,σ,h=>by
  have h':=h;simp only[Bc] at h;split at h
  ·
   rename_i hq;split at h
   ·rename_i hU
    obtain⟨r,y,hr,hs,hd,h1⟩:=Fv hq h;simp only[dH] at h1;obtain⟨tr,σe,S,hT,hU'⟩:=Dj l (i+1) _ _ _ h1;have hpr:∀t,look t (i_ o.dst y r)=look t (gP o.dst y σ.az):=λt=>by rw[DX];simp only[iU,hr]
    have hg:∀p t,look t (gF ((rT tr).take p) (i_ o.dst y r))=look t (gF ((rT (⟨o.dst,y,none⟩::tr)).take (p+1)) σ.az):=λp t=>by
     simp only[rT,List.map_cons,List.take_succ_cons,gF];exact zG (hpr t)
    have ht:∀p o',jb (gF ((rT tr).take p) (i_ o.dst y r)) o'=jb (gF ((rT (⟨o.dst,y,none⟩::tr)).take (p+1)) σ.az) o':=λp o'=>tX λt _=>hg p t
    refine⟨⟨o.dst,y,none⟩::tr,σe,{le:=by have:=S.le;simp;omega,rest:= ?_,head:=λo' h=>S.head o' (by simpa using h),mem:=by rw[S.mem];rfl,nx:=by rw[S.nx];rfl,az:=λt=> ?_,dst:=λp o' x hp hx=> ?_,w7:=λp o' x hp hx hq'=> ?_,jX:=λp o' x hp hx hq'=> ?_,plain:=λx hx d hd'=> ?_,un1:=λp q o1 o2 x' id b up hp hq1 hx' hlt hq2 he=> ?_,un2:=λp q o1 x' id b up hp hpl hx' hlt hq2 he=> ?_ },λq o' x id b up hp hx he z hz=> ?_,λp o' hp hpl hq' j hj=> ?_⟩
    ·obtain⟨T',U',hr'⟩:=S.rest
     exact⟨T',U',by simpa [Nat.add_assoc,Nat.add_comm,Nat.add_left_comm] using hr'⟩
    ·rw[S.az]
     have:=hg tr.length t;rw[List.take_of_length_le (by simp [rT]),List.take_of_length_le (by simp [rT])] at this;exact this
    ·cases p with
     |zero=>simp at hp hx;subst hp;subst hx;exact⟨rfl,hd⟩
     |succ p=>exact S.dst p o' x (by simpa using hp) (by simpa using hx)
    ·cases p with
     |zero=>
      simp at hp hx;subst hp;subst hx;exact⟨rfl,r,by simpa [gF] using hr,by simpa [gF] using hs⟩
     |succ p=>
      obtain⟨h1,r',h2,h3⟩:=S.w7 p o' x (by simpa using hp) (by simpa using hx) hq';exact⟨h1,r',λt=>(h2 t).trans (hg p t),by simpa [mT,mE,gF,gP] using h3⟩
    ·cases p with
     |zero=>simp at hp hx;subst hp;rw[hq] at hq';cases hq'
     |succ p=>
      obtain⟨h0,id,b,up,r',h1,h2,h3⟩:=S.jX p o' x (by simpa using hp) (by simpa using hx) hq';exact⟨h0,id,b,up,r',h1,λt=>(h2 t).trans (hg p t),by simpa [mT,mE,uT,uE,gF,gP,upF] using h3⟩
    ·simp only[mT,List.map_cons,List.mem_cons] at hx
     rcases hx with rfl|hx
     ·simp [mE] at hd'
     ·exact S.plain x hx d hd'
    ·cases q with
     |zero=>omega
     |succ q=>
      have hq1:l[q]? =some o2:=by simpa using hq1
      have hx':tr[q]? =some x':=by simpa using hx'
      cases p with
      |zero=>
       simp at hp;subst hp;have:=hT q o2 x' id b up hq1 hx' he (i,jb σ.az o) (by simp);simpa [gF,rT] using this
      |succ p=>
       have:=S.un1 p q o1 o2 x' id b up (by simpa using hp) hq1 hx' (by omega) hq2 he;rw[ht p o1.1,show i+1+p=i+(p+1) from by omega] at this;exact this
    ·cases p with
     |zero=>omega
     |succ p=>
      have hp:l[p]? =some o1:=by simpa using hp
      cases q with
      |zero=>simp at hx';subst hx';simp at he
      |succ q=>
       have:=S.un2 p q o1 x' id b up hp (by simpa using hpl) (by simpa using hx') (by omega) hq2 he;rw[ht p o1.1,show i+1+q=i+(q+1) from by omega] at this;exact this
    ·cases q with
     |zero=>simp at hx;subst hx;simp at he
     |succ q=>exact hT q o' x id b up (by simpa using hp) (by simpa using hx) he z (by simp [hz])
    ·cases p with
     |zero=>
      simp at hp;subst hp;have h9:=List.all_eq_true.1 hU j hj;rw[Bool.or_eq_true] at h9;rcases h9 with h9|h9
      ·exact .inl h9
      ·right
       intro hm;have hm:j.2∈jb σ.az o:=by simpa [gF,rT] using hm
       rw[l6.2 hm] at h9;cases h9
     |succ p=>
      have:=hU' p o' (by simpa using hp) (by simpa using hpl) hq' j hj;rw[ht p o'.1] at this;exact this
   ·cases h
  ·rename_i hq
   split at h
   ·
    obtain⟨y,id,b,up,he,h1⟩:=Ke h;split at h1
    ·rename_i hTT hcap
     obtain⟨hd,h2⟩:=r_ h1;obtain⟨tr,σe,S,hT,hU'⟩:=Dj l (i+1) _ _ _ h2;simp only[Bool.or_eq_false_iff] at hcap;have hpr:∀t,look t (i_ o.dst y σ.az)=look t (gP o.dst y σ.az):=λt=>by rw[DX]
     have hg:∀p t,look t (gF ((rT tr).take p) (i_ o.dst y σ.az))=look t (gF ((rT (⟨o.dst,y,some (id,b,up)⟩::tr)).take (p+1)) σ.az):=λp t=>by
      simp only[rT,List.map_cons,List.take_succ_cons,gF];exact zG (hpr t)
     have ht:∀p o',jb (gF ((rT tr).take p) (i_ o.dst y σ.az)) o'=jb (gF ((rT (⟨o.dst,y,some (id,b,up)⟩::tr)).take (p+1)) σ.az) o':=λp o'=>tX λt _=>hg p t
     have hnx:zF up σ.nx=if up then σ.nx+1 else σ.nx:=by cases up<;>rfl
     refine⟨⟨o.dst,y,some (id,b,up)⟩::tr,σe,{le:=by have:=S.le;simp;omega,rest:= ?_,head:=λo' h=>S.head o' (by simpa using h),mem:=by rw[S.mem];rfl,nx:=by rw[S.nx];simp only[uT,List.map_cons,upF,uE,hnx],az:=λt=> ?_,dst:=λp o' x hp hx=> ?_,w7:=λp o' x hp hx hq'=> ?_,jX:=λp o' x hp hx hq'=> ?_,plain:=λx hx d hd'=> ?_,un1:=λp q o1 o2 x' id' b' up' hp hq1 hx' hlt hq2 he'=> ?_,un2:=λp q o1 x' id' b' up' hp hpl hx' hlt hq2 he'=> ?_ },λq o' x id' b' up' hp hx he' z hz=> ?_,λp o' hp hpl hq' j hj=> ?_⟩
     ·obtain⟨T',U',hr'⟩:=S.rest
      exact⟨T',U',by simpa [Nat.add_assoc,Nat.add_comm,Nat.add_left_comm] using hr'⟩
     ·rw[S.az]
      have:=hg tr.length t;rw[List.take_of_length_le (by simp [rT]),List.take_of_length_le (by simp [rT])] at this;exact this
     ·cases p with
      |zero=>simp at hp hx;subst hp;subst hx;exact⟨rfl,hd⟩
      |succ p=>exact S.dst p o' x (by simpa using hp) (by simpa using hx)
     ·cases p with
      |zero=>simp at hp hx;subst hp;rw[hq] at hq';cases hq'
      |succ p=>
       obtain⟨h1,r',h2,h3⟩:=S.w7 p o' x (by simpa using hp) (by simpa using hx) hq';exact⟨h1,r',λt=>(h2 t).trans (hg p t),by simpa [mT,mE,gF,gP] using h3⟩
     ·cases p with
      |zero=>
       simp at hp hx;subst hp;subst hx;exact⟨rfl,id,b,up,σ.az,rfl,by simp [gF],by simpa [gF,upF] using he⟩
      |succ p=>
       obtain⟨h0,id',b',up',r',h1,h2,h3⟩:=S.jX p o' x (by simpa using hp) (by simpa using hx) hq';refine⟨h0,id',b',up',r',h1,λt=>(h2 t).trans (hg p t), ?_⟩;simp only[mT,List.map_cons,List.take_succ_cons,gF,mE,gP,uT,uE,upF];rw[<-hnx];exact h3
     ·simp only[mT,List.map_cons,List.mem_cons] at hx
      rcases hx with rfl|hx
      ·simp only[mE,Option.some.injEq] at hd'
       subst hd';exact⟨hcap.2,hcap.1⟩
      ·obtain⟨p1,p2⟩:=S.plain x hx d hd'
       refine⟨p1, ?_⟩;have:look d (gP (some id) b σ.mem)=look d ((id,b)::σ.mem):=rfl;rw[<-this,iU] at p2;split at p2
       ·rename_i e;cases e;exact hcap.1
       ·exact p2
     ·cases q with
      |zero=>omega
      |succ q=>
       have hq1:l[q]? =some o2:=by simpa using hq1
       have hx':tr[q]? =some x':=by simpa using hx'
       cases p with
       |zero=>simp at hp;subst hp;rw[hq] at hq2;cases hq2
       |succ p=>
        have:=S.un1 p q o1 o2 x' id' b' up' (by simpa using hp) hq1 hx' (by omega) hq2 he';rw[ht p o1.1,show i+1+p=i+(p+1) from by omega] at this;exact this
     ·cases p with
      |zero=>omega
      |succ p=>
       have hp:l[p]? =some o1:=by simpa using hp
       cases q with
       |zero=>
        have hid:id'=id:=by simp at hx';subst hx';cases he';rfl
        subst hid;have:=hU' p o1 hp (by simpa using hpl) hq2 (i,id') (by simp);rw[ht p o1.1] at this;exact this
       |succ q=>
        have:=S.un2 p q o1 x' id' b' up' hp (by simpa using hpl) (by simpa using hx') (by omega) hq2 he';rw[ht p o1.1,show i+1+q=i+(q+1) from by omega] at this;exact this
     ·cases q with
      |zero=>
       simp at hp hx;subst hp;subst hx;cases he';have:=List.all_eq_true.1 hTT z hz;rw[Bool.or_eq_true] at this;rcases this with h|h
       ·exact .inl h
       ·right
        intro hm;rw[l6.2 hm] at h;cases h
      |succ q=>exact hT q o' x id' b' up' (by simpa using hp) (by simpa using hx) he' z hz
     ·cases p with
      |zero=>simp at hp;subst hp;rw[hq] at hq';cases hq'
      |succ p=>
       have:=hU' p o' (by simpa using hp) (by simpa using hpl) hq' j (by simp [hj]);rw[ht p o'.1] at this;exact this
    ·cases h1
   ·
    rename_i hlo;exact⟨[],σ,{le:=by simp,rest:=⟨T,U,by simpa using h'⟩,head:=λo' ho'=>by simp at ho';subst ho';exact⟨hq,rfl⟩,mem:=rfl,nx:=rfl,az:=λ_=>rfl,dst:=λp o x _ h=>(by simp at h),w7:=λp o x _ h=>(by simp at h),jX:=λp o x _ h=>(by simp at h),plain:=λx hx=>(by simp [mT] at hx),un1:=λp q o o' x' id b up _ _ h=>(by simp at h),un2:=λp q o x' id b up _ h=>(by simp at h)},λq o x id b up _ h=>(by simp at h),λp o _ h=>(by simp at h)⟩
end
section
variable {P:Program} [aD P] {F:Fence} {n:Nat} {c:Cfg} {g g':Gh} {r:cj} {m:Mem} {a:Act} {w w':World} {o:Oper} {R:Type} {k:St->Option R} {res:R}
variable {base:Nat} {w0:World} {S0:Nat->Prop} {N:Nat} {D:Wt} {sv:Nat->Value} {σ:St} {ops:Array Oper} {Q:Exit->Act->World->Prop}
def stX (L:Nat->Bool) (s:Nat) (tr:List TX) (σ:St):St:={az:=gL L s (rT tr) σ.az,mem:=gL L s (mT tr) σ.mem,nx:=upL L s (uT tr) σ.nx}
structure MS (P:Program) [aD P] (H:Hnd R) (sv:Nat->Value) (base:Nat) (w0:World) (S0:Nat->Prop) (N:Nat) (D:Wt) (c:Cfg) (ops:Array Oper) (k:St->Option R) (res:R) (s:Nat) (σ:St) (tr:List TX) (σe:St) (L:Array Bool) (g:Gh) (a:Act) (w:World):Prop where
 size:L.size=ops.size
 closed:pT ops L
 sz:s<=ops.size
 low:∀p,p<s->L.getD p false=true
 high:∀p,L.getD p false=true->p<s+tr.length
 rel:Rel P base w0 S0 N D sv g (stX (λi=>L.getD i false) s tr σ) a w
 seg:Y3 H c (ops.toList.map (·.dst)) k res s σ ((fl c ops.toList).drop s) tr σe
theorem Rel.rU {σ σ':St} (h:Rel P base w0 S0 N D sv g σ a w) (hr:∀t,look t σ'.az=look t σ.az) (hm:σ'.mem=σ.mem) (hn:σ'.nx=σ.nx):Rel P base w0 S0 N D sv g σ' a w:=
 {h with az:=λt x hx=>h.az t x (by rw[<-hr];exact hx),mem:=by rw[hm];exact h.mem,inj:=by rw[hm];exact h.inj,own:=by rw[hm];exact h.own,lp:=by rw[hm];exact h.lp,nx:=by rw[hn];exact h.nx}
theorem MS.full {H:Hnd R} {s:Nat} {tr:List TX} {σe:St} {L:Array Bool} (I:MS P H sv base w0 S0 N D c ops k res s σ tr σe L g a w) (hall:∀p,p<s+tr.length->L.getD p false=true):Rel P base w0 S0 N D sv g σe a w:=by
 refine I.rel.rU (λt=> ?_) ?_ ?_
 ·rw[I.seg.az]
  simp only[stX];have hl:(rT tr).length=tr.length:=by simp [rT]
  rw[nU (p:=tr.length) (r':=σ.az) rfl (λq x hq _=> ?_),<-hl,List.take_length];have hq:=(List.getElem?_eq_some_iff.1 hq).1;rw[hl] at hq;exact⟨λ_=>hall _ (by omega),λ_=>hq⟩
 ·rw[I.seg.mem]
  simp only[stX];have hl:(mT tr).length=tr.length:=by simp [mT]
  rw[lx (p:=tr.length) (λq x d hq _=> ?_),<-hl,List.take_length];have hq:=(List.getElem?_eq_some_iff.1 hq).1;rw[hl] at hq;exact⟨λ_=>hall _ (by omega),λ_=>hq⟩
 ·rw[I.seg.nx]
  simp only[stX];have hl:(uT tr).length=tr.length:=by simp [uT]
  rw[nD (p:=tr.length) (λq hq=> ?_),<-hl,List.take_length];have hq:=(List.getElem?_eq_some_iff.1 hq).1;rw[hl] at hq;exact⟨λ_=>hall _ (by omega),λ_=>hq⟩
theorem MS.done {H:Hnd R} {s:Nat} {tr:List TX} {σe:St} {L:Array Bool} (I:MS P H sv base w0 S0 N D c ops k res s σ tr σe L g a w) (hall:∀p,p<ops.size->L.getD p false=true):k σe=some res/\Rel P base w0 S0 N D sv g σe a w:=by
 have he:s+tr.length=ops.size:=by
  have h1:=I.seg.le;simp [jA] at h1;rcases Nat.lt_or_ge (s+tr.length) ops.size with h|h
  ·have:=I.high _ (hall _ h);omega
  ·have:=I.sz;omega
 refine⟨?_,I.full λp hp=>hall p (by omega)⟩;obtain⟨T,U,hr⟩:=I.seg.rest;rw[List.drop_drop,he,List.drop_eq_nil_of_le (by simp [jA])] at hr;simpa [Bc] using hr
theorem JA {l:List Item} {i:Nat} {x:Item} (h:l[i]? =some x):l.drop i=x::l.drop (i+1):=by
 have hi:=(List.getElem?_eq_some_iff.1 h).1;rw[List.drop_eq_getElem_cons hi];congr 1;exact(List.getElem?_eq_some_iff.1 h).2
theorem Qt {H:Hnd R} (hH:nu P H) (C:aE P c) (hN:c.N=N) (hF:bP F) (ho:wv c ops.toList=true) (hK:∀g' σ' a' w',k σ'=some res->Rel P base w0 S0 N D sv g' σ' a' w'->Q .normal a' w'):
 ∀(fuel:Nat) {s:Nat} {σ:St} {tr:List TX} {σe:St} {L:Array Bool} {g:Gh} {a:Act} {w:World},MS P H sv base w0 S0 N D c ops k res s σ tr σe L g a w->L.toList.count false<=fuel->wpAnyIn F n P .any ops Q fuel L a w:=by
 have hb:h_ 0 ops.toList=true:=by
  unfold wv at ho;split at ho
  ·assumption
  ·simp at ho
 intro fuel;induction fuel with
 |zero=>
  intro s σ tr σe L g a w I hf;have hall:=sW (by omega:L.toList.count false=0);refine⟨?_, ?_⟩
  ·cases hr:Region.ready .any ops L with
   |nil=>rfl
   |cons j _=>
    have hj:j∈Region.ready .any ops L:=by rw[hr];simp
    obtain⟨h1,h2⟩:=pZ (mem_ready.1 hj).1;rw[hall j h1] at h2;cases h2
  ·obtain⟨h1,h2⟩:=I.done (λp hp=>hall p (by rw[I.size];exact hp))
   exact hK _ _ _ _ h1 h2
 |succ fuel ih=>
  intro s σ tr σe L g a w I hf;refine⟨λhr=> ?_,λj hj=> ?_⟩
  ·obtain⟨h1,h2⟩:=I.done (tc I.size hb hr)
   exact hK _ _ _ _ h1 h2
  ·obtain⟨hun,oj,hoj,hall⟩:=mem_ready.1 hj
   obtain⟨hjL,hun⟩:=pZ hun;have hedge:∀e∈oj.after,eu e=true->L.getD e.on false=true:=λe he hbe=>hall e he (by rw[BG];exact hbe)
   have hcnt:=w6 hjL hun;have hclosed':=I.closed.set hoj hedge;obtain⟨bj,loj,hij,hbj,hloj⟩:=AQ (c:=c) hoj;have before:∀{i:Nat} {x:Item},i<j->(fl c ops.toList)[i]? =some x->oB c (ops.toList.map (·.dst)) x (oj,bj,loj)=true->L.getD i false=true:=λhij' hx hcl=>sV ho I.closed hij' hx hij hcl hedge
   have behind:∀{i:Nat} {y:Item},j<i->(fl c ops.toList)[i]? =some y->oB c (ops.toList.map (·.dst)) (oj,bj,loj) y=true->L.getD i false=false:=by
    intro i y hji hy hcl;cases hLi:L.getD i false with
    |false=>rfl
    |true=>
     have:=sV ho I.closed hji hij hy hcl (λe he hbe=>I.closed i y.1 (vX hy).1 hLi e he hbe);rw[hun] at this;cases this
   have hjs:s<=j:=by
    rcases Nat.lt_or_ge j s with h|h
    ·have:=I.low j h;rw[hun] at this;cases this
    ·exact h
   have hjsz:j<ops.size:=by rw[<-I.size];exact hjL
   have htl:s+tr.length<=ops.size:=by have:=I.seg.le;simp [jA] at this;have:=I.sz;omega
   have seg_get:∀{q:Nat} {u:Item},(fl c ops.toList)[s+q]? =some u->((fl c ops.toList).drop s)[q]? =some u:=λh=>by simpa using h
   have hLs:∀{i:Nat},i≠j->(L.setIfInBounds j true).getD i false=L.getD i false:=λh=>getD_set_ne false (Ne.symm h)
   have hLj:(L.setIfInBounds j true).getD j false=true:=by simp [hjL]
   have itm:∀{q:Nat},q<tr.length->∃u,(fl c ops.toList)[s+q]? =some u:=λ{q} h=>by
    have:s+q<(fl c ops.toList).length:=by rw[jA];omega
    exact⟨_,List.getElem?_eq_getElem this⟩
   by_cases hjt:j<s+tr.length
   ·
    obtain⟨p,rfl⟩:∃p,j=s+p:=⟨j - s,by omega⟩;have hp:p<tr.length:=by omega
    have hxp:tr[p]? =some tr[p]:=by simp [hp]
    obtain⟨hxd,hdN⟩:=I.seg.dst p _ tr[p] (seg_get hij) hxp;have rT_get:∀{q:Nat} {x:Option Nat×AV},(rT tr)[q]? =some x->∃z,tr[q]? =some z/\x=(z.d,z.y):=by
     intro q x hx;simp only[rT,List.getElem?_map] at hx;cases h:tr[q]? with
     |none=>rw[h] at hx;simp at hx
     |some z=>rw[h] at hx;simp at hx;exact⟨z,rfl,hx.symm⟩
    have mT_get:∀{q:Nat} {x:Option Nat×AB},(mT tr)[q]? =some x->∃z,tr[q]? =some z/\x=mE z.e:=by
     intro q x hx;simp only[mT,List.getElem?_map] at hx;cases h:tr[q]? with
     |none=>rw[h] at hx;simp at hx
     |some z=>rw[h] at hx;simp at hx;exact⟨z,rfl,hx.symm⟩
    have tr_dst:∀{q:Nat} {x:Option Nat×AV},(rT tr)[q]? =some x->∃u,(fl c ops.toList)[s+q]? =some u/\x.1=u.1.dst:=by
     intro q x hx;obtain⟨z,hz,rfl⟩:=rT_get hx;have hlt:=(List.getElem?_eq_some_iff.1 hz).1;obtain⟨u,hu⟩:=itm hlt;exact⟨u,hu,(I.seg.dst q u z (seg_get hu) hz).1⟩
    have agree:∀t,t∈gK (ops.toList.map (·.dst)) oj->look t (gL (λi=>L.getD i false) s (rT tr) σ.az)=look t (gF ((rT tr).take p) σ.az):=by
     intro t ht;refine nU rfl λq x hq hxt=> ?_
     obtain⟨u,hu,hxu⟩:=tr_dst hq;rw[hxu] at hxt;constructor
     ·intro hqp
      exact before (by omega) hu (clX (aaq hxt ht))
     ·intro hLq
      rcases Nat.lt_or_ge q p with h|h
      ·exact h
      ·exfalso
       rcases Nat.lt_or_ge p q with h'|h'
       ·rw[behind (by omega:s+p<s+q) hu (clX (Zi hxt ht))] at hLq;cases hLq
       ·have:q=p:=by omega
        subst this;rw[hun] at hLq;cases hLq
    have eff_get:∀{q:Nat} {z:TX},tr[q]? =some z->z.e.isSome=true->∃u,(fl c ops.toList)[s+q]? =some u/\isQ c u.1.op=false:=by
     intro q z hz he;have hlt:=(List.getElem?_eq_some_iff.1 hz).1;obtain⟨u,hu⟩:=itm hlt;refine⟨u,hu, ?_⟩;cases hq:isQ c u.1.op with
     |false=>rfl
     |true=>
      have:=(I.seg.w7 q u z (seg_get hu) hz hq).1;rw[this] at he;cases he
    have regs1:∀{t:Nat},look t (gL (λi=>(L.setIfInBounds (s+p) true).getD i false) s (rT tr) σ.az)=if oj.dst=some t then some tr[p].y else look t (gL (λi=>L.getD i false) s (rT tr) σ.az):=by
     intro t;split
     ·rename_i e
      refine zB (p:=p) ?_ hLj λq x' hpq hx' hxt=> ?_
      ·simp only[rT,List.getElem?_map,hxp,Option.map_some,hxd,e]
      ·obtain⟨u,hu,hxu⟩:=tr_dst hx'
       rw[hxu] at hxt;rw[hLs (by omega)];exact behind (by omega) hu (clX (aah e hxt))
     ·rename_i e
      refine AH rfl λq x' hx' hxt=>hLs λe'=>e ?_
      have e9:q=p:=by omega
      subst e9;obtain⟨z,hz,rfl⟩:=rT_get hx';rw[hxp] at hz;cases hz;rw[<-hxd];exact hxt
    have next:∀{g1:Gh} {a1:Act} {w1:World},Rel P base w0 S0 N D sv g1 (stX (λi=>(L.setIfInBounds (s+p) true).getD i false) s tr σ) a1 w1->wpAnyIn F n P .any ops Q fuel (L.setIfInBounds (s+p) true) a1 w1:=by
     intro g1 a1 w1 hrel;refine ih (s:=s) (σ:=σ) (tr:=tr) (σe:=σe) (g:=g1) ⟨by simp [I.size],hclosed',I.sz,λq hq=>getD_set_true (I.low q hq),λq hq=> ?_,hrel,I.seg⟩ (by omega);by_cases e:q=s+p
     ·omega
     ·rw[hLs e] at hq;exact I.high q hq
    cases hq:isQ c oj.op with
    |true=>
     obtain⟨hxe,r,hr,hst⟩:=I.seg.w7 p _ tr[p] (seg_get hij) hxp hq;replace hst:Eh c (ops.toList.map (·.dst)) oj r (gF ((mT tr).take p) σ.mem) tr[p].y:=hst;have hsameM:gL (λi=>(L.setIfInBounds (s+p) true).getD i false) s (mT tr) σ.mem=gL (λi=>L.getD i false) s (mT tr) σ.mem:=by
      refine II λq x d hx hd=>hLs λe=> ?_
      have e9:q=p:=by omega
      subst e9;obtain⟨z,hz,rfl⟩:=mT_get hx;rw[hxp] at hz;cases hz;rw[hxe] at hd;cases hd
     have hsameU:upL (λi=>(L.setIfInBounds (s+p) true).getD i false) s (uT tr) σ.nx=upL (λi=>L.getD i false) s (uT tr) σ.nx:=by
      refine EW λq hx=>hLs λe=> ?_
      have e9:q=p:=by omega
      subst e9;simp only[uT,List.getElem?_map,hxp,Option.map_some,hxe,uE] at hx;cases hx
     have upd:∀{g1:Gh} {w1:World} {v:Value},Rel P base w0 S0 N D sv g1 (stX (λi=>L.getD i false) s tr σ) a w1->AVR g1 w1 tr[p].y v->wpAnyIn F n P .any ops Q fuel (L.setIfInBounds (s+p) true) (a.put oj.dst v) w1:=by
      intro g1 w1 v hrel hv;refine next (g1:=g1) ?_;have e:stX (λi=>(L.setIfInBounds (s+p) true).getD i false) s tr σ={az:=gL (λi=>(L.setIfInBounds (s+p) true).getD i false) s (rT tr) σ.az,mem:=(stX (λi=>L.getD i false) s tr σ).mem,nx:=(stX (λi=>L.getD i false) s tr σ).nx}:=by
       simp only[stX,hsameM,hsameU]
      rw[e];refine{hrel with az:=λt x hx=> ?_,size:= ?_,dfr:= ?_ }
      ·simp only[regs1] at hx
       split at hx
       ·rename_i e
        cases hx;rw[e,u6 (hdN t e).2 (by rw[hrel.size,<-hN];exact(hdN t e).1),if_pos rfl];exact hv
       ·rename_i e
        have h0:=hrel.az t x hx;cases hd:oj.dst with
        |none=>exact h0
        |some d=>
         rw[u6 (hdN d hd).2 (by rw[hrel.size,<-hN];exact(hdN d hd).1),if_neg (λe'=>e (by rw[hd,e']))];exact h0
      ·have:=hrel.size
       cases hd:oj.dst<;>simpa [Act.put] using this
      ·have:=hrel.dfr
       cases hd:oj.dst<;>simpa [Act.put] using this
     have ragree:∀t,t∈gK (ops.toList.map (·.dst)) oj->look t (stX (λi=>L.getD i false) s tr σ).az=look t r:=λt ht=>(agree t ht).trans (hr t).symm
     have htouch:jb r oj=jb (gF ((rT tr).take p) σ.az) oj:=tX λt _=>hr t
     have hmem:∀(y:AV),jY c r (gF ((mT tr).take p) σ.mem) oj some=some y->jY c r (gL (λi=>L.getD i false) s (mT tr) σ.mem) oj some=some y:=by
      intro y hy;rw[<-hy];refine(Ek (λi hi=> ?_) (λi=> ?_)).symm
      ·rw[htouch] at hi
       refine(nU rfl λq x hx hxi=> ?_).symm;obtain⟨z,hz,rfl⟩:=mT_get hx;have hzs:∃b up,z.e=some (i,b,up):=by
        cases he:z.e with
        |none=>rw[he] at hxi;cases hxi
        |some q=>obtain⟨i',b,up⟩:=q;rw[he] at hxi;simp only[mE,Option.some.injEq] at hxi;subst hxi;exact⟨b,up,rfl⟩
       obtain⟨b,up,hze⟩:=hzs;have hsome:z.e.isSome=true:=by rw[hze];rfl
       obtain⟨u,hu,huq⟩:=eff_get hz hsome;constructor
       ·intro hqp
        rcases I.seg.un2 p q _ z i b up (seg_get hij) hp hz hqp hq hze with h|h
        ·exact tI hb I.closed hij h hedge
        ·exact absurd hi h
       ·intro hLq
        rcases Nat.lt_or_ge q p with h|h
        ·exact h
        ·exfalso
         have hne:q≠p:=by
          intro e;subst e;rw[hxp] at hz;cases hz;rw[hxe] at hze;cases hze
         rcases I.seg.un1 p q _ u z i b up (seg_get hij) (seg_get hu) hz (by omega) hq hze with h|h
         ·have:=tI hb I.closed hu h (λe he hbe=>I.closed (s+q) u.1 (vX hu).1 hLq e he hbe)
          rw[hun] at this;cases this
         ·exact h hi
      ·rw[Gs,sQ I.seg.plain,sQ I.seg.plain]
     have run:jY c r (gF ((mT tr).take p) σ.mem) oj some=some tr[p].y->oj.wpIn F n P a w (wpAnyIn F n P .any ops Q fuel (L.setIfInBounds (s+p) true)) Q:=by
      intro he;have E:Env P c g r (stX (λi=>L.getD i false) s tr σ).mem oj.op.operands.toList a w:={ev:=K2 (λt ht x hx=>I.rel.az t x (by rw[ragree t (yY ht _)];exact hx)) I.rel.glo C.glb,glo:=I.rel.glo,mem:=I.rel.mem,ts:=C.ts,sp:=C.sp,S:=I.rel.S,blk:=I.rel.blk,eqs:=C.eqs};obtain⟨y,hy,hqr⟩:=zP (n:=n) E hF (λ_ h=>h) (hmem _ he);cases hy;exact hqr _ _ λv w' hbw hv=>upd (I.rel.grow hbw) hv
     have skip:tr[p].y= .undef->wpAnyIn F n P .any ops Q fuel (L.setIfInBounds (s+p) true) (a.put oj.dst undef) w:=λhe=>upd I.rel (by rw[he];rfl)
     unfold wpOpIn;simp only[hoj];rcases hst with⟨hg,he⟩ |⟨i,want,d,hg,hd,hst⟩
     ·rw[if_pos (by simp [Region.wanted,hg])]
      exact run he
     ·have hag:=ragree d (xE hg hd)
      rcases hst with⟨b,hb',hdN',hst⟩ |⟨hu,he⟩
      ·have hbv:a.tmps.getD d undef= .bool b:=by
        have:=I.rel.az d _ (by rw[hag];exact(bS hb').2);rw[iw (bS hb').1] at this;generalize a.tmps.getD d undef=u at this;cases this;rfl
       have hwant:Region.wanted oj (yielded ops a.tmps)=(b==want):=by
        simp only[Region.wanted,hg,kF hd (by rw[I.rel.size,<-hN];exact hdN'),hbv];cases b<;>cases want<;>rfl
       rcases hst with⟨rfl,he⟩ |⟨hne,he⟩
       ·rw[if_pos (by rw[hwant];simp)]
        exact run he
       ·rw[if_neg (by rw[hwant];simpa using hne)]
        exact⟨nC hF,skip he⟩
      ·have huv:a.tmps.getD d undef=undef:=by
        have:=I.rel.az d .undef (by rw[hag];exact(bS hu).2);rw[iw (bS hu).1] at this;exact this
       have hy:yielded ops a.tmps i=none:=by
        by_cases hlt:d<a.tmps.size
        ·rw[kF hd hlt,huv];rfl
        ·have h1:(ops[i]?).bind (·.dst)=some d:=by
          simp only[List.getElem?_map,Array.getElem?_toList] at hd;cases h:ops[i]? with
          |none=>rw[h] at hd;simp at hd
          |some o=>rw[h] at hd;simp at hd;simpa using hd
         unfold yielded;rw[h1];simp [hlt]
       rw[if_neg (by simp [Region.wanted,hg,hy])];exact⟨nC hF,skip he⟩
    |false=>
     obtain⟨hlo,id,b,up,r,hxe,hr,heff⟩:=I.seg.jX p _ tr[p] (seg_get hij) hxp hq;simp only at hlo;obtain⟨hguard, -⟩:=hloj hlo;have hord:∀q z,tr[q]? =some z->z.e.isSome=true->(q<p↔L.getD (s+q) false=true):=by
      intro q z hz he;obtain⟨u,hu,huq⟩:=eff_get hz he;constructor
      ·intro hqp
       exact before (by omega) hu (IS (.inr (.inr (by simp [huq,hq]))))
      ·intro hLq
       rcases Nat.lt_or_ge q p with h|h
       ·exact h
       ·exfalso
        rcases Nat.lt_or_ge p q with h'|h'
        ·rw[behind (by omega:s+p<s+q) hu (IS (.inr (.inr (by simp [huq,hq]))))] at hLq;cases hLq
        ·have:q=p:=by omega
         subst this;rw[hun] at hLq;cases hLq
     have hsome:∀{z:TX} {d:Nat},(mE z.e).1=some d->z.e.isSome=true:=by
      intro z d h;cases he:z.e with
      |none=>rw[he] at h;cases h
      |some q=>rfl
     have husome:∀{z:TX},uE z.e=true->z.e.isSome=true:=by
      intro z h;cases he:z.e with
      |none=>rw[he] at h;cases h
      |some q=>rfl
     have uT_get:∀{q:Nat},(uT tr)[q]? =some true->∃z,tr[q]? =some z/\uE z.e=true:=by
      intro q hx;simp only[uT,List.getElem?_map] at hx;cases h:tr[q]? with
      |none=>rw[h] at hx;simp at hx
      |some z=>rw[h] at hx;simp at hx;exact⟨z,rfl,hx⟩
     have hM:gL (λi=>L.getD i false) s (mT tr) σ.mem=gF ((mT tr).take p) σ.mem:=lx λq x d hx hd=>by
      obtain⟨z,hz,rfl⟩:=mT_get hx;exact hord q z hz (hsome hd)
     have hU:upL (λi=>L.getD i false) s (uT tr) σ.nx=upF ((uT tr).take p) σ.nx:=nD λq hx=>by
      obtain⟨z,hz,h1⟩:=uT_get hx;exact hord q z hz (husome h1)
     have hord1:∀q z,tr[q]? =some z->z.e.isSome=true->(q<p+1↔(L.setIfInBounds (s+p) true).getD (s+q) false=true):=by
      intro q z hz he;by_cases e:q=p
      ·subst e;simp [hLj]
      ·rw[hLs (by omega),<-hord q z hz he];omega
     have hM1:gL (λi=>(L.setIfInBounds (s+p) true).getD i false) s (mT tr) σ.mem=(id,b)::gF ((mT tr).take p) σ.mem:=by
      have h1:gL (λi=>(L.setIfInBounds (s+p) true).getD i false) s (mT tr) σ.mem=gF ((mT tr).take (p+1)) σ.mem:=lx λq x d hx hd=>by
       obtain⟨z,hz,rfl⟩:=mT_get hx;exact hord1 q z hz (hsome hd)
      rw[h1,Dy (x:=(some id,b)) (by simp only[mT,List.getElem?_map,hxp,Option.map_some,hxe,mE])];rfl
     have hU1:upL (λi=>(L.setIfInBounds (s+p) true).getD i false) s (uT tr) σ.nx=zF up (upF ((uT tr).take p) σ.nx):=by
      have h1:upL (λi=>(L.setIfInBounds (s+p) true).getD i false) s (uT tr) σ.nx=upF ((uT tr).take (p+1)) σ.nx:=nD λq hx=>by
       obtain⟨z,hz,h1⟩:=uT_get hx;exact hord1 q z hz (husome h1)
      rw[h1,Bn (x:=up) (by simp only[uT,List.getElem?_map,hxp,Option.map_some,hxe,uE])];cases up<;>rfl
     have heff':MJ c oj (stX (λi=>L.getD i false) s tr σ).az (stX (λi=>L.getD i false) s tr σ).mem (stX (λi=>L.getD i false) s tr σ).nx=some (tr[p].y,id,b,up):=by
      rw[<-heff];simp only[stX,hM,hU];exact Ki λt ht=>(agree t (yY ht _)).trans (hr t).symm
     let σ1:St:={az:=i_ oj.dst tr[p].y (stX (λi=>L.getD i false) s tr σ).az,mem:=(id,b)::(stX (λi=>L.getD i false) s tr σ).mem,nx:=zF up (stX (λi=>L.getD i false) s tr σ).nx};have fin:∀(g1:Gh) (σ':St) (a1:Act) (w1:World),(open Classical in if σ'=σ1 then some res else none)=some res->Rel P base w0 S0 N D sv g1 σ' a1 w1->wpAnyIn F n P .any ops Q fuel (L.setIfInBounds (s+p) true) a1 w1:=λg1 σ' a1 w1 hk h1=>by
      have e1:σ'=σ1:=by
       by_cases e:σ'=σ1
       ·exact e
       ·simp only[if_neg e] at hk;cases hk
      subst e1;exact next (h1.rU (λt=>by simp only[stX,regs1,σ1,fV]) (by simp only[stX,hM1,σ1,hM]) (by simp only[stX,hU1,σ1,hU]))
     unfold wpOpIn;simp only[hoj];rcases KB (R:=_) heff' with hst|hst
     ·have hstep:iA H c true oj (stX (λi=>L.getD i false) s tr σ) (λσ'=>open Classical in if σ'=σ1 then some res else none)=some res:=by
       rw[Mo hq (hst H _),put_eq hdN];exact if_pos rfl
      exact pW hH I.rel C hN hF fin (dr:=true) (kk:=λσ'=>open Classical in if σ'=σ1 then some res else none) (by rw[hguard];exact hstep)
     ·rw[if_pos (by simp [Region.wanted,hguard])]
      exact Mr I.rel C hN hF (k:=λσ'=>open Classical in if σ'=σ1 then some res else none) fin (by rw[hst,put_eq hdN];exact if_pos rfl)
   ·
    have hje:j=s+tr.length:=by
     rcases Nat.lt_or_ge (s+tr.length) j with h|h
     ·exfalso
      obtain⟨u,hu⟩:∃u,(fl c ops.toList)[s+tr.length]? =some u:=by
       have:s+tr.length<(fl c ops.toList).length:=by rw[jA];omega
       exact⟨_,List.getElem?_eq_getElem this⟩
      obtain⟨h1,h2⟩:=I.seg.head u (seg_get hu);have:=before h hu (IS (.inl (by simp [h1,h2])));have:=I.high _ this;omega
     ·omega
    obtain⟨hnq,hnl⟩:=I.seg.head _ (seg_get (by rw[<-hje];exact hij));simp only at hnq hnl;have hallL:∀p,p<j->L.getD p false=true:=λp hp=>by
     obtain⟨u,hu⟩:∃u,(fl c ops.toList)[p]? =some u:=by
      have:p<(fl c ops.toList).length:=by rw[jA];omega
      exact⟨_,List.getElem?_eq_getElem this⟩
     exact before hp hu (IS (.inr (.inl (by simp [hnq,hnl]))))
    have hrel:Rel P base w0 S0 N D sv g σe a w:=I.full λp hp=>hallL p (by omega)
    obtain⟨T,U,hrest⟩:=I.seg.rest;rw[List.drop_drop,<-hje,JA hij] at hrest;simp only[Bc,hnq,hnl] at hrest;rw[n6] at hrest;unfold wpOpIn;simp only[hoj];refine pW hH hrel C hN hF (λg1 σ1 a1 w1 hk h1=> ?_) hrest;simp only[dH] at hk;obtain⟨tr1,σe1,S1, -, -⟩:=Dj _ _ _ _ _ hk;refine ih (s:=j+1) (σ:=σ1) (tr:=tr1) (σe:=σe1) (g:=g1) ⟨by simp [I.size],hclosed',by omega,λq hq=> ?_,λq hq=> ?_, ?_,S1⟩ (by omega)
    ·by_cases e:q=j
     ·subst e;exact hLj
     ·exact getD_set_true (hallL q (by omega))
    ·by_cases e:q=j
     ·omega
     ·rw[hLs e] at hq;have:=I.high q hq;omega
    ·have none_done:∀q,(L.setIfInBounds j true).getD (j+1+q) false=true->False:=by
      intro q hq;rw[hLs (by omega)] at hq;have:=I.high _ hq;omega
     refine h1.rU (λt=> ?_) ?_ ?_
     ·simp only[stX]
      rw[nU (p:=0) (r':=σ1.az) rfl (λq x' _ _=>⟨λh=>by omega,λh=>(none_done q h).elim⟩)];simp [gF]
     ·simp only[stX]
      rw[lx (p:=0) (λq x' d _ _=>⟨λh=>by omega,λh=>(none_done q h).elim⟩)];simp [gF]
     ·simp only[stX]
      rw[nD (p:=0) (λq _=>⟨λh=>by omega,λh=>(none_done q h).elim⟩)];simp [upF]
theorem HZ {H:Hnd R} (hH:nu P H) (C:aE P c) (hN:c.N=N) (hF:bP F) (hm:P.follows .mixedOrders=true) (ho:wv c ops.toList=true) (hK:∀g' σ' a' w',k σ'=some res->Rel P base w0 S0 N D sv g' σ' a' w'->Q .normal a' w') {id:Nat} (h:Rel P base w0 S0 N D sv g σ a w)
 (hs:Bc H c (ops.toList.map (·.dst)) (fl c ops.toList) 0 [] [] σ k=some res):(Code.region id ops true).wpIn F n P Q a w:=by
 obtain⟨tr,σe,S, -, -⟩:=Dj _ _ _ _ _ hs;have hno:∀q,(Array.replicate ops.size false).getD (0+q) false=true->False:=by
  intro q hq;by_cases h:q<ops.size<;>simp [h] at hq
 refine wpIn_region_any hm (Qt hH C hN hF ho hK ops.size (s:=0) (σ:=σ) (tr:=tr) (σe:=σe) (g:=g) ⟨by simp,λp o _ hp=> ?_,Nat.zero_le _,λp hp=>by omega,λp hp=> ?_, ?_,by simpa using S⟩ (by simp [List.count_replicate]))
 ·exact(hno p (by simpa using hp)).elim
 ·exact(hno p (by simpa using hp)).elim
 ·refine h.drawn.rU (λt=> ?_) ?_ ?_
  ·simp only[stX]
   rw[nU (p:=0) (r':=σ.az) rfl (λq x' _ _=>⟨λh=>by omega,λh=>(hno q h).elim⟩)];simp [gF]
  ·simp only[stX]
   rw[lx (p:=0) (λq x' d _ _=>⟨λh=>by omega,λh=>(hno q h).elim⟩)];simp [gF]
  ·simp only[stX]
   rw[nD (p:=0) (λq _=>⟨λh=>by omega,λh=>(hno q h).elim⟩)];simp [upF]
end
section
variable {P:Program} [aD P] {F:Fence} {n:Nat} {c:Cfg} {g g':Gh} {a:Act} {w w':World} {R:Type} {res:R}
variable {base:Nat} {w0:World} {S0:Nat->Prop} {N:Nat} {D:Wt} {sv:Nat->Value} {σ:St}
theorem Hb {c:Code} {Q:Exit->Act->World->Prop} (h:c.wpIn F n P (Exit.noGoto Q) a w):(Code.scope c).wpIn F n P Q a w:=by
 intro b k cs hro hb hr;have h0:(lone (b.atR a (.code (.scope c)::k)) cs w).fenced P F:=fenced_calm hb hr rfl;have st:step P (lone (b.atR a (.code (.scope c)::k)) cs w)= .next (lone (b.atR a (.code c:: .inScope c::k)) cs w):=step_lone_go (by simp [stepG,stepG.exec,Frame.atR]);have st2:∀a w,step P (lone (b.atR a (.inScope c::k)) cs w)= .next (lone (b.atR a k) cs w):=λa w=>step_lone_go (by simp [stepG,stepG.exec,Frame.atR])
 obtain⟨e,a₁,w₁,hq,harr⟩:=h b (.inScope c::k) cs hro hb hr;have hx:∀id,exitTo id (.inScope c::k)=exitTo id k:=λid=>by simp [exitTo]
 cases e with
 |normal=>exact⟨.normal,a₁,w₁,hq, .head h0 st (StepsIn.trans harr (.one (fenced_calm hb hr rfl) (st2 _ _)))⟩
 |exit id=>exact⟨.exit id,a₁,w₁,hq,λk' hk=> .head h0 st (harr.1 k' (by rw[hx];exact hk)),λhr' hk=>let ⟨k₁,h1,h2⟩:=harr.2 hr' (by rw[hx];exact hk);⟨k₁,h1, .head h0 st h2⟩⟩
 |goto l=>exact hq.elim
 |ret=>exact⟨_,a₁,w₁,hq, .of_steps (.one h0 st) harr⟩
 |panic ch=>exact⟨_,a₁,w₁,hq, .of_steps (.one h0 st) harr⟩
 |outgrown=>exact⟨_,a₁,w₁,hq, .of_steps (.one h0 st) harr⟩
def NU:Ex->Exit
 | .normal=> .normal
 | .exit i=> .exit i
 | .goto l=> .goto l
 | .ret=> .ret
def ef:Code->List Code
 | .seq x y=>ef x++ef y
 | .cond _ x y=>ef x++ef y
 | .block _ x=>ef x
 | .loop b=>b::ef b
 | .scope b=>ef b
 |_=> []
structure br (H:Hnd R) (c:Cfg) (lp:List (Nat×Hd R)) (b:Code) (V:Type) (st:V->St) (sh:St->Option V) (l:Nat->V->(Ex->St->Option R)->Option R) (h:Hd R):Prop where
 hd:∃q,∀σ K,h σ K=aj (sh σ) λv=>l q v K
 eq:∀σ v,sh σ=some v->σ=st v
 zero:∀v K,l 0 v K=none
 succ:∀q v K,l (q+1) v K=run H c lp b (st v) λe σ'=>match e with
  | .normal=>mi (look (bl b) c.loops) σ' λσ''=>aj (sh σ'') λv=>l q v K
  | .exit i=>K (.exit i) σ'
  | .goto l=>K (.goto l) σ'
  | .ret=>K .ret σ'
def fo:Code->List (Array Tmp×Code×Code)
 | .rangeFunc _ ps as body=>[(ps,as,body)]
 | .seq x y=>fo x++fo y
 | .cond _ x y=>fo x++fo y
 | .block _ x=>fo x
 | .loop b=>fo b
 | .scope b=>fo b
 |_=> []
def fe (P:Program) (c:Cfg) (code:Code):Prop:=c.rnd=false->∀x,x∈fo code->zJ P c.fid (bl x.2.2)=some x
def aI (H:Hnd R) (c:Cfg) (lp:List (Nat×Hd R)) (code:Code):Prop:=
 ∀b,b∈ef code->∀h,look (bl b) lp=some h->∃V st sh l,br H c lp b V st sh l h
theorem aI.sub {H:Hnd R} {lp:List (Nat×Hd R)} {x y:Code} (h:aI H c lp x) (hs:∀b,b∈ef y->b∈ef x):aI H c lp y:=λb hb=>h b (hs b hb)
theorem p6 {p:Nat->Prop} (h:∃n,p n):∃m,p m/\∀q,p q->m<=q:=by
 obtain⟨n,hn⟩:=h;induction n using Nat.strongRecOn with
 |_ n ih=>
  by_cases h:∃q,q<n/\p q
  ·obtain⟨q,h1,h2⟩:=h;exact ih q h1 h2
  ·refine⟨n,hn,λq hq=> ?_⟩
   rcases Nat.lt_or_ge q n with h'|h'
   ·exact(h ⟨q,h',hq⟩).elim
   ·exact h'
open Classical in
noncomputable def least (p:Nat->Prop):Nat:=if h:∃n,p n then Classical.choose (p6 h) else 0
theorem zk {p:Nat->Prop} (h:∃n,p n):p (least p):=by
 unfold least;rw[dif_pos h];exact(Classical.choose_spec (p6 h)).1
theorem least_le {p:Nat->Prop} {q:Nat} (h:p q):least p<=q:=by
 unfold least;rw[dif_pos ⟨q,h⟩];exact(Classical.choose_spec (p6 ⟨q,h⟩)).2 q h
theorem fe.sub {x y:Code} (h:fe P c x) (hs:∀b,b∈fo y->b∈fo x):fe P c y:=λhr b hb=>h hr b (hs b hb)
theorem uv:∀{a b:List Nat},a.map tV=b.map tV->a=b
 | [], [],_=>rfl
 | [],_::_,h=>by simp at h
 |_::_, [],h=>by simp at h
 |x::a,y::b,h=>by
  simp only[List.map_cons,List.cons.injEq] at h;have h1:x=y:=by have:=h.1;simp [tV] at this;exact this
  rw[h1,uv h.2]
theorem Rel.mark (h:Rel P base w0 S0 N D sv g σ a w) {r:Nat} (h1:base<=r) (h2:w.heap[r]? =some (.deferred (some []))) (h3:¬g.S r) (h4:∀rs:List Nat,a.defers=rs.map tV->r ∉rs++D.marks):Rel P base w0 S0 N D sv g σ {a with defers:=tV r::a.defers} w:=by
 refine{h with az:=h.az,size:=h.size,dfr:= ?_ };obtain⟨rs,e1,e2,e3⟩:=h.dfr;refine⟨r::rs,by simp [e1], ?_,λq hq=> ?_⟩
 ·rw[List.cons_append,List.nodup_cons]
  exact⟨h4 rs e1,e2⟩
 ·rw[List.cons_append] at hq
  rcases List.mem_cons.1 hq with rfl|hq
  ·exact⟨h1,h2,h3⟩
  ·exact e3 q hq
theorem Rel.SA (h:Rel P base w0 S0 N D sv g σ a w) {lv:Nat->Option Nat} (hl:∀id,id<σ.nx->lv id=D.lv id):Rel P base w0 S0 N ⟨D.marks,lv⟩ sv g σ a w:=
 {h with az:=h.az,dfr:=h.dfr,lp:=λid x b hx hl1 hm=>(h.lp id x b hx hl1 hm).trans (hl id (h.nx id b hm)).symm}
theorem Rel.Ad {lv:Nat->Option Nat} {id:Nat} (h:Rel P base w0 S0 N ⟨D.marks,lv⟩ sv g σ a w) (hl:∀i,i≠id->lv i=D.lv i) (hg:look id σ.mem=some .gone):Rel P base w0 S0 N D sv g σ a w:=
 {h with az:=h.az,dfr:=h.dfr,lp:=λi x b hx hl1 hm=>(h.lp i x b hx hl1 hm).trans (hl i λe=>by subst e;rw[hg] at hx;cases hx;cases hl1)}
theorem Rel.uI (h:Rel P base w0 S0 N D sv g σ a w) {id:Nat} {x y:AB} {b:Gb} {q:Nat} {ob ob':Obj} (hl:look id σ.mem=some x) (hlx:x.kj=true) (hlive:x.live=true) (hb:g.m id=some b) (hq:b.blk=some q) (hh:w.heap[q]? =some ob)
 (hB:cr g w (w.putObj q ob')->(w.putObj q ob').heap[q]? =some ob'->BR P g (w.putObj q ob') b y):Rel P base w0 S0 N D sv g (σ.set id y) a (w.putObj q ob'):=by
 have hown:=h.own id x b q hl hlive hb hq;have hlt:q<w.heap.size:=(Array.getElem?_eq_some_iff.1 hh).1;refine h.set (w':=w.putObj q ob') hl hlive hb hq (by simp) (λj hj=>World.putObj_heap_other hj) ⟨rfl,rfl,rfl⟩ (λhH=> ?_) (.inr hlx);exact hB (λj hj=>World.putObj_heap_other (λe=>by subst e;exact hown.2 hj)) (World.putObj_heap_same hlt)
theorem oD {t:Nat} {x:AV} {r:cj}:∀{l:List Nat},look t (o3 r l)=some x->t<OFF/\look t r=some x
 | [],h=>by simp [o3,look] at h
 |i::l,h=>by
  simp only[o3] at h;split at h
  ·rename_i y hy
   rw[ba] at h;split at h
   ·rename_i e
    subst e;cases h;exact bS hy
   ·exact oD h
  ·exact oD h
theorem Io {t rid:Nat} {x:AV} {r:cj} (h:look t (saved c rid r)=some x):t<OFF/\look t r=some x:=by
 unfold saved at h;split at h
 ·exact oD h
 ·simp [look] at h
theorem KR (C:aE P c) (hN:c.N=N) {K:Ex->St->Option R} {Q:Exit->Act->World->Prop} {id l:Nat} {lv:Nat->Option Nat} (hlv:∀i,i≠id->lv i=D.lv i) (hl:lv id=some l) (h:Rel P base w0 S0 N ⟨D.marks,lv⟩ sv g σ a w)
 (hK:∀e g' σ' a' w',K e σ'=some res->Rel P base w0 S0 N D sv g' σ' a' w'->Q (NU e) a' w') (hs:D1 c id σ K=some res):
 ∃jump w4,(Instr.endLoop l).run P w= .ok jump w4/\(match jump with|none=>Q .normal a w4|some c=>c.wpIn F n P Q a w4):=by
 unfold D1 at hs;split at hs
 ·rename_i nn f r az hlk
  obtain⟨b,hb,q,rc,hq,hh,h1,h2,h3,h4,h5⟩:=h.mem id _ hlk;have e:b.blk=lv id:=h.lp id _ b hlk rfl hb;rw[hq,hl] at e;cases e;obtain⟨st,pend,fnn,tm,prm,asg,bd,df⟩:=rc;obtain rfl:pend=none:=h2 rfl;refine⟨none,_,run_endLoop hh (by rw[h1];simp), ?_⟩;have hR:=h.uI (y:= .gone) (ob':= .loop ⟨.exhausted,none,fnn,tm,prm,asg,bd,df⟩) hlk rfl rfl hb hq hh (λ_ _=>trivial);exact hK .normal _ _ _ _ hs (hR.Ad hlv (by simp [St.set,ba]))
 ·rename_i i hlk
  obtain⟨b,hb,q,rc,hq,hh,h1,h2⟩:=h.mem id _ hlk;have e:b.blk=lv id:=h.lp id _ b hlk rfl hb;rw[hq,hl] at e;cases e;obtain⟨st,pend,fnn,tm,prm,asg,bd,df⟩:=rc;obtain rfl:pend=some (.exit i):=h2;refine⟨some (.exit i),_,run_endLoop hh (by rw[h1];simp), ?_⟩;have hR:=h.uI (y:= .gone) (ob':= .loop ⟨.exhausted,some (.exit i),fnn,tm,prm,asg,bd,df⟩) hlk rfl rfl hb hq hh (λ_ _=>trivial);obtain⟨g1,σ1,hs1,hr1⟩:=iV hs (hR.Ad hlv (by simp [St.set,ba]));exact wpIn_exit (hK (.exit i) _ _ _ _ hs1 hr1)
 ·rename_i hlk
  obtain⟨b,hb,q,rc,hq,hh,h1,h2⟩:=h.mem id _ hlk;have e:b.blk=lv id:=h.lp id _ b hlk rfl hb;rw[hq,hl] at e;cases e;obtain⟨st,pend,fnn,tm,prm,asg,bd,df⟩:=rc;obtain rfl:pend=some .ret:=h2;refine⟨some .ret,_,run_endLoop hh (by rw[h1];simp), ?_⟩;have hR:=h.uI (y:= .gone) (ob':= .loop ⟨.exhausted,some .ret,fnn,tm,prm,asg,bd,df⟩) hlk rfl rfl hb hq hh (λ_ _=>trivial);obtain⟨g1,σ1,hs1,hr1⟩:=iV hs (hR.Ad hlv (by simp [St.set,ba]));exact wpIn_ret (hK .ret _ _ _ _ hs1 hr1)
 ·simp at hs
theorem Jr {H:Hnd R} (hH:nu P H) (C:aE P c) (hN:c.N=N) (hF:bP F) {K:Ex->St->Option R} {Q:Exit->Act->World->Prop} {f:Operand} {ps:Array Tmp} {assign body:Code} (hrg:fe P c (.rangeFunc f ps assign body)) (hrd:c.rnd=false->F.round=none) (h:Rel P base w0 S0 N D sv g σ a w)
 (hK:∀e g' σ' a' w',K e σ'=some res->Rel P base w0 S0 N D sv g' σ' a' w'->Q (NU e) a' w') (hs:F1 H c f body σ K=some res):(Code.rangeFunc f ps assign body).wpIn F n P Q a w:=by
 have E:=h.env C [f];unfold F1 at hs;split at hs
 ·simp at hs
 rename_i hrnd;have hro:=hrd hrnd;have hcode:zJ P c.fid (bl body)=some (ps,assign,body):=hrg hrnd (ps,assign,body) (by simp [fo]);have hen:∀fn,(Instr.enterLoop fn a.tmps ps assign body F.round).run P w= .ok (w.heap.size+1,[tV w.heap.size])
  ((w.alloc (.deferred (some []))).alloc (.loop {state:= .ready,pending:=none,fn,tmps:=a.tmps,params:=ps,assign,body,defers:=w.heap.size})):=λfn=>by
  rw[hro];exact run_enterLoop_outer fn a.tmps ps assign body
 have hR:∀fn,∃g1:Gh,Rel P base w0 S0 N ⟨D.marks,λi=>if i=σ.nx then some (w.heap.size+1) else D.lv i⟩ sv g1 (σ.new (.loop true c.N c.fid (bl body) (saved c (bl body) σ.az))) {a with defers:=[tV w.heap.size]++a.defers}
  ((w.alloc (.deferred (some []))).alloc (.loop {state:= .ready,pending:=none,fn,tmps:=a.tmps,params:=ps,assign,body,defers:=w.heap.size}))/\
  g.le g1/\VA g1 ((w.alloc (.deferred (some []))).alloc (.loop {state:= .ready,pending:=none,fn,tmps:=a.tmps,params:=ps,assign,body,defers:=w.heap.size})) (.yld σ.nx) (.func (.yield (w.heap.size+1)) #[] #[])/\
  Below w.heap.size w ((w.alloc (.deferred (some []))).alloc (.loop {state:= .ready,pending:=none,fn,tmps:=a.tmps,params:=ps,assign,body,defers:=w.heap.size})):=by
  intro fn;generalize hlo:(Obj.loop {state:= .ready,pending:=none,fn,tmps:=a.tmps,params:=ps,assign,body,defers:=w.heap.size})=lo;have hb1:Below w.heap.size w (w.alloc (.deferred (some []))):=Below.push (obj:= .deferred (some [])) rfl rfl rfl rfl;have hb2:Below (w.alloc (.deferred (some []))).heap.size (w.alloc (.deferred (some []))) ((w.alloc (.deferred (some []))).alloc lo):=Below.push (obj:=lo) rfl rfl rfl rfl;have hb:Below w.heap.size w ((w.alloc (.deferred (some []))).alloc lo):=hb1.trans (hb2.mono (by simp));have hsz:((w.alloc (.deferred (some []))).alloc lo).heap.size=w.heap.size+2:=by simp
  have hnew:((w.alloc (.deferred (some []))).alloc lo).heap[w.heap.size+1]? =some lo:=by
   have:=World.alloc_heap_new (w.alloc (.deferred (some []))) lo;simpa using this
  have hdef:((w.alloc (.deferred (some []))).alloc lo).heap[w.heap.size]? =some (.deferred (some [])):=by
   rw[Below.heap_alloc _ _ _ (by simp)];exact World.alloc_heap_new w _
  generalize hw1:(w.alloc (.deferred (some []))).alloc lo=w1 at hb hsz hnew hdef;obtain⟨b,hbd⟩:∃b:Gb,b=⟨some (w.heap.size+1),0,0,0,default⟩:=⟨_,rfl⟩;have hle:g.le (g.set σ.nx b):=Gh.tQ (h.fresh (Nat.le_refl _));have hH0:cr g w w1:=cr.lR h.S hb;have hbr:BR P (g.set σ.nx b) w1 b (.loop true c.N c.fid (bl body) (saved c (bl body) σ.az)):=by
   rw[<-hlo] at hnew;refine⟨w.heap.size+1,_,by rw[hbd],hnew,rfl,λ_=>rfl,by rw[hN];exact h.size,hcode,λt x hx=> ?_⟩;obtain⟨ht,hx⟩:=Io hx;have:=h.az t x hx;rw[iw ht] at this;exact⟨ht,this.mono hH0 hle⟩
  have h2:=(h.SA (lv:=λi=>if i=σ.nx then some (w.heap.size+1) else D.lv i) (λi hi=>if_neg (by omega))).new (w':=w1) (id:=σ.nx) (Nat.le_refl _) (b:=b) (x:= .loop true c.N c.fid (bl body) (saved c (bl body) σ.az)) hb hbr (λq hq=>by rw[hbd] at hq;cases hq;omega) (λ_=>by rw[hbd];exact(if_pos rfl).symm);refine⟨g.set σ.nx b, ?_,hle,VA.yld σ.nx b _ (by simp [Gh.set]) (by rw[hbd]),hb⟩;refine h2.mark (by have:=h.bs;omega) hdef (λhS=>by have:=h.S _ hS;omega) (λrs e1 hr=> ?_);obtain⟨rs',e2,_,e3⟩:=h.dfr;have:rs=rs':=uv (e1.symm.trans e2);subst this;have:=(e3 _ hr).2.1;have:=(Array.getElem?_eq_some_iff.1 this).1;omega
 refine wpIn_rangeFunc λfn _=> ?_
 obtain⟨g1,hR,hle,hy,hb⟩:=hR fn;have hen:=hen fn;have hy:AVR g1 _ (AV.one (.yld σ.nx)) _:=hy;generalize (w.alloc (.deferred (some []))).alloc (.loop {state:= .ready,pending:=none,fn,tmps:=a.tmps,params:=ps,assign,body,defers:=w.heap.size})=w1 at hR hy hb hen;have fin:∀{fid:Nat} {args:List Value},Calls P fid args.toArray w1 (λe w'=>∃v x g' σ',e= .returned v/\D1 c σ.nx σ' K=some res/\Rel P base w0 S0 N ⟨D.marks,λi=>if i=σ.nx then some (w.heap.size+1) else D.lv i⟩ sv g' σ' {a with defers:=[tV w.heap.size]++a.defers} w'/\AVR g' w' x v)->
  CallsIn F (n - 1) P fid args.toArray w1 (rangePost F n P (w.heap.size+1) Q {a with defers:=[tV w.heap.size]++a.defers}):=by
  intro fid args hc;refine(gr hF hc).mono ?_;rintro e w' ⟨v,x,g',σ',rfl,hk,hr,hv⟩;exact KR (D:=D) (id:=σ.nx) (l:=w.heap.size+1) (lv:=λi=>if i=σ.nx then some (w.heap.size+1) else D.lv i) C hN (λi hi=>if_neg hi) (if_pos rfl) hr hK hk
 split at hs
 ·rename_i nn hf
  split at hs
  rotate_left
  ·simp at hs
  rename_i hlt;have hfv:a.eval f= .func (.func nn) #[] #[] :=by
   have:=E.evA (by simp) hf;generalize a.eval f=u at this⊢;cases this;rfl
  obtain⟨g1',g2'⟩:=hH.1 (vs:=[.func (.yield (w.heap.size+1)) #[] #[]]) hR (.cons hy .nil) (Nat.le_of_ble_eq_true hlt) hs;refine⟨_,_,_,{target:= .fn (.func nn) #[],args:= #[.func (.yield (w.heap.size+1)) #[] #[]]},w1,nn,_,w1,hen, ?_,λ_ _=>hF.fn _, ?_,λhd=>(by rw[hF.depth] at hd;cases hd),fin g2'⟩
  ·have e:a.eval (.const (.func (.yield (w.heap.size+1)) #[] #[]))= .func (.yield (w.heap.size+1)) #[] #[] :=rfl
   simp [resolve,rangeCall,hfv,Deferred.ofValue,e]
  ·simp [invoke,g1']
 ·rename_i i hf
  split at hs
  ·rename_i nn first capt hl
   split at hs
   rotate_left
   ·simp at hs
   rename_i hlt;obtain⟨b,hm, -,fs,cs,hbv,hfs,hcs⟩:=h.mem i _ hl;have hfv:a.eval f= .func (.func nn) fs cs:=by
    have:=E.evA (by simp) hf;generalize a.eval f=u at this⊢;cases this with
    |clo _ b' f' fs' cs' hm' hv'=>
     rw[hm] at hm';cases hm';rw[hbv] at hv';cases hv';rfl
   have hH0:cr g w w1:=cr.lR h.S hb;obtain⟨g1',g2'⟩:=hH.1 (vs:=fs.toList++([.func (.yield (w.heap.size+1)) #[] #[]]++cs.toList)) hR ((yo (hfs.mono λ_ _ k=>k.mono hH0 hle)).append (.cons hy (yo (hcs.mono λ_ _ k=>k.mono hH0 hle)))) (Nat.le_of_ble_eq_true hlt) hs;refine⟨_,_,_,{target:= .fn (.func nn) cs,args:=fs++ #[.func (.yield (w.heap.size+1)) #[] #[]]},w1,nn,_,w1,hen, ?_,λ_ _=>hF.fn _, ?_,λhd=>(by rw[hF.depth] at hd;cases hd),fin g2'⟩
   ·have e:a.eval (.const (.func (.yield (w.heap.size+1)) #[] #[]))= .func (.yield (w.heap.size+1)) #[] #[] :=rfl
    simp [resolve,rangeCall,hfv,Deferred.ofValue,e]
   ·have e:fs++ #[Value.func (.yield (w.heap.size+1)) #[] #[]]++cs=(fs.toList++([Value.func (.yield (w.heap.size+1)) #[] #[]]++cs.toList)).toArray:=by apply Array.ext';simp
    show(callFunc nn (fs++ #[Value.func (.yield (w.heap.size+1)) #[] #[]]++cs)).run P w1=_;rw[e];exact g1' _ _
  ·simp at hs
 ·simp at hs
theorem AJ {H:Hnd R} (hH:nu P H) (C:aE P c) (hN:c.N=N) (hF:bP F) (hm:P.follows .mixedOrders=true) (hrd:c.rnd=false->F.round=none) {lp:List (Nat×Hd R)}:∀(code:Code),aI H c lp code->fe P c code->∀{Q:Exit->Act->World->Prop} {σ:St} {K:Ex->St->Option R} {g:Gh} {a:Act} {w:World},Rel P base w0 S0 N D sv g σ a w->
 (∀e g' σ' a' w',K e σ'=some res->Rel P base w0 S0 N D sv g' σ' a' w'->Q (NU e) a' w')->run H c lp code σ K=some res->code.wpIn F n P Q a w:=by
 intro code;induction code with
 |skip=>intro _ hg Q σ K g a w h hK hs;exact wpIn_skip (hK .normal _ _ _ _ hs h)
 |region id ops draw=>
  intro _ hg Q σ K g a w h hK hs;unfold run at hs;split at hs
  ·exact Jt hH C hN hF (λg' σ' a' w' hk h'=>hK .normal _ _ _ _ hk h') h hs
  ·split at hs
   ·rename_i ho
    exact Bl hH C hN hF hm ho (λg' σ' a' w' hk h'=>hK .normal _ _ _ _ hk h') h hs
   ·split at hs
    ·rename_i ho
     exact HZ hH C hN hF hm ho (λg' σ' a' w' hk h'=>hK .normal _ _ _ _ hk h') h hs
    ·simp at hs
 |seq x y ihx ihy=>
  intro hl hg Q σ K g a w h hK hs;simp only[run] at hs;refine wpIn_seq (ihx (hl.sub λb hb=>by simp [ef,hb]) (hg.sub λb hb=>by simp [fo,hb]) h (λe g' σ' a' w' hk h'=> ?_) hs);cases e with
  |normal=>
   obtain⟨g2,σ2,hs2,h2⟩:=iV hk h';exact ihy (hl.sub λb hb=>by simp [ef,hb]) (hg.sub λb hb=>by simp [fo,hb]) h2 hK hs2
  |exit i=>exact hK (.exit i) _ _ _ _ hk h'
  |goto l=>exact hK (.goto l) _ _ _ _ hk h'
  |ret=>exact hK .ret _ _ _ _ hk h'
 |cond x y z ihy ihz=>
  intro hl hg Q σ K g a w h hK hs;simp only[run] at hs;split at hs
  ·rename_i t ht
   have hv:a.eval x= .bool t:=by
    have:=(h.env C [x]).ev x (by simp) _ _ ht;generalize a.eval x=u at this;cases this;rfl
   rcases a_ hs with⟨rfl,hs⟩ |⟨rfl,hs⟩
   ·exact wpIn_cond_true hv (ihy (hl.sub λb hb=>by simp [ef,hb]) (hg.sub λb hb=>by simp [fo,hb]) h hK hs)
   ·exact wpIn_cond_false hv (ihz (hl.sub λb hb=>by simp [ef,hb]) (hg.sub λb hb=>by simp [fo,hb]) h hK hs)
  ·simp at hs
 |block id x ih=>
  intro hl hg Q σ K g a w h hK hs;simp only[run] at hs;refine wpIn_block (ih (hl.sub λb hb=>by simpa [ef] using hb) (hg.sub λb hb=>by simp [fo,hb]) h (λe g' σ' a' w' hk h'=> ?_) hs);cases e with
  |normal=>
   obtain⟨g2,σ2,hs2,h2⟩:=iV hk h';exact hK .normal _ _ _ _ hs2 h2
  |exit i=>
   simp only[NU,Exit.inBlock];simp only at hk;split at hk
   ·rename_i hi
    have:=Nat.eq_of_beq_eq_true hi;rw[if_pos this];exact hK .normal _ _ _ _ hk h'
   ·rename_i hi
    rw[if_neg (λe=>by subst e;simp at hi)];exact hK (.exit i) _ _ _ _ hk h'
  |goto l=>exact hK (.goto l) _ _ _ _ hk h'
  |ret=>exact hK .ret _ _ _ _ hk h'
 |loop b ih=>
  intro hl hg Q σ K g a w h hK hs;simp only[run] at hs;obtain⟨g1,σ1,hs1,h1⟩:=iV hs h;have hlb:aI H c lp b:=hl.sub λb' hb=>by simp [ef,hb]
  split at hs1
  ·rename_i hd hhd
   obtain⟨V,st,sh,l,L⟩:=hl b (by simp [ef]) hd hhd;obtain⟨q,hq⟩:=L.hd;rw[hq] at hs1;obtain⟨v,hv,hs2⟩:=bo hs1;rw[L.eq _ _ hv] at h1;have main:∀(a:Act) (w:World),(∃q v g,l q v K=some res/\Rel P base w0 S0 N D sv g (st v) a w)->b.wpIn F n P (Exit.then (λa' w'=>(∃q v g,l q v K=some res/\Rel P base w0 S0 N D sv g (st v) a' w')/\
    least (λq=>∃v g,l q v K=some res/\Rel P base w0 S0 N D sv g (st v) a' w')<least (λq=>∃v g,l q v K=some res/\Rel P base w0 S0 N D sv g (st v) a w)) Q) a w:=by
    intro a w hI;obtain⟨v2,g2,hq,h2⟩:=zk hI;generalize least (λq=>∃v g,l q v K=some res/\Rel P base w0 S0 N D sv g (st v) a w)=q at hq;cases q with
    |zero=>rw[L.zero] at hq;cases hq
    |succ q=>
     rw[L.succ] at hq;refine ih hlb (hg.sub λb hb=>by simp [fo,hb]) h2 (λe g' σ' a' w' hk h'=> ?_) hq;cases e with
     |normal=>
      obtain⟨g3,σ3,hs3,h3⟩:=iV hk h';obtain⟨v3,hv3,hs4⟩:=bo hs3;rw[L.eq _ _ hv3] at h3;exact⟨⟨q,v3,g3,hs4,h3⟩,Nat.lt_succ_of_le (least_le ⟨v3,g3,hs4,h3⟩)⟩
     |exit i=>exact hK (.exit i) _ _ _ _ hk h'
     |goto l=>exact hK (.goto l) _ _ _ _ hk h'
     |ret=>exact hK .ret _ _ _ _ hk h'
   exact wpIn_loop (λa w=>∃q v g,l q v K=some res/\Rel P base w0 S0 N D sv g (st v) a w) (λa w=>least λq=>∃v g,l q v K=some res/\Rel P base w0 S0 N D sv g (st v) a w) ⟨q,v,g1,hs2,h1⟩ main
  ·have main:∀(a:Act) (w:World),(∃q g σ,qQ (run H c lp b) (look (bl b) c.loops) q σ K=some res/\Rel P base w0 S0 N D sv g σ a w)->b.wpIn F n P (Exit.then (λa' w'=>(∃q g σ,qQ (run H c lp b) (look (bl b) c.loops) q σ K=some res/\Rel P base w0 S0 N D sv g σ a' w')/\
    least (λq=>∃g σ,qQ (run H c lp b) (look (bl b) c.loops) q σ K=some res/\Rel P base w0 S0 N D sv g σ a' w')<least (λq=>∃g σ,qQ (run H c lp b) (look (bl b) c.loops) q σ K=some res/\Rel P base w0 S0 N D sv g σ a w)) Q) a w:=by
    intro a w hI;obtain⟨g2,σ2,hq,h2⟩:=zk hI;generalize least (λq=>∃g σ,qQ (run H c lp b) (look (bl b) c.loops) q σ K=some res/\Rel P base w0 S0 N D sv g σ a w)=q at hq;cases q with
    |zero=>simp [qQ] at hq
    |succ q=>
     simp only[qQ] at hq;refine ih hlb (hg.sub λb hb=>by simp [fo,hb]) h2 (λe g' σ' a' w' hk h'=> ?_) hq;cases e with
     |normal=>
      obtain⟨g3,σ3,hs3,h3⟩:=iV hk h';exact⟨⟨q,g3,σ3,hs3,h3⟩,Nat.lt_succ_of_le (least_le ⟨g3,σ3,hs3,h3⟩)⟩
     |exit i=>exact hK (.exit i) _ _ _ _ hk h'
     |goto l=>exact hK (.goto l) _ _ _ _ hk h'
     |ret=>exact hK .ret _ _ _ _ hk h'
   exact wpIn_loop (λa w=>∃q g σ,qQ (run H c lp b) (look (bl b) c.loops) q σ K=some res/\Rel P base w0 S0 N D sv g σ a w) (λa w=>least λq=>∃g σ,qQ (run H c lp b) (look (bl b) c.loops) q σ K=some res/\Rel P base w0 S0 N D sv g σ a w) ⟨_,g1,σ1,hs1,h1⟩ main
 |exit i=>
  intro _ hg Q σ K g a w h hK hs;simp only[run] at hs;obtain⟨g1,σ1,hs1,h1⟩:=iV hs h;exact wpIn_exit (hK (.exit i) _ _ _ _ hs1 h1)
 |scope b ih=>
  intro hl hg Q σ K g a w h hK hs;simp only[run] at hs;refine Hb (ih (hl.sub λb' hb=>by simpa [ef] using hb) (hg.sub λb hb=>by simp [fo,hb]) h (λe g' σ' a' w' hk h'=> ?_) hs);cases e with
  |normal=>exact hK .normal _ _ _ _ hk h'
  |exit i=>exact hK (.exit i) _ _ _ _ hk h'
  |goto l=>simp at hk
  |ret=>exact hK .ret _ _ _ _ hk h'
 |label l=>intro _ hg Q σ K g a w h hK hs;exact wpIn_label (hK .normal _ _ _ _ hs h)
 |ret=>
  intro _ hg Q σ K g a w h hK hs;simp only[run] at hs;obtain⟨g1,σ1,hs1,h1⟩:=iV hs h;exact wpIn_ret (hK .ret _ _ _ _ hs1 h1)
 |rangeFunc f ps assign body=>
  intro _ hg Q σ K g a w h hK hs;simp only[run] at hs;exact Jr hH C hN hF hg hrd h hK hs
 |_=>intros;rename_i hs;simp [run] at hs
end
section
variable {P:Program} [aD P] {F:Fence} {n:Nat} {c:Cfg} {g g':Gh} {a:Act} {w w':World} {R:Type} {res:R} {m:Mem}
variable {base:Nat} {w0:World} {S0:Nat->Prop} {N:Nat} {D:Wt} {sv:Nat->Value} {σ:St}
def Lu (S:Nat->Prop) (lo hi:Nat):Gh:=⟨λk=>S k\/(lo<=k/\k<hi),λ_=>none⟩
theorem Rel.aas (h:Rel P base w0 S0 N D sv g σ a w) {ids:List Nat} (hi:∀i∈ids,∃τ l,look i σ.mem=some (.row τ l)):xV g ids (Lu S0 base w.heap.size).S:=by
 refine⟨λq hq=> ?_,λid b q hid hb hq=> ?_⟩
 ·rcases h.sub q hq with h'|h'
  ·exact .inl h'
  ·exact .inr ⟨h',h.S q hq⟩
 ·obtain⟨τ,l,hl⟩:=hi id hid
  exact .inr ⟨(h.own id _ b q hl rfl hb hq).1,h.blk id b q hb hq⟩
theorem DN (h:Rel P base w0 S0 N D sv g σ a w) (C:aE P c):∀(l:List ResultVar) {k:List V1->Option R},H_ c σ l k=some res->
 ∃ys vs,k ys=some res/\(l.mapM (λ| .tmp t=>pure (a.tmps.getD t undef) | .cell x t=>do loadVar t (<-asAddr (a.tmps.getD x undef)):ResultVar->Sem Value):Sem (List Value)).run P w= .ok vs w/\bR (V1R (Lu S0 base w.heap.size) w) ys vs
 | [],k,hs=>⟨[], [],hs,by simp, .nil⟩
 | .tmp t::l,k,hs=>by
  simp only[H_] at hs;split at hs
  ·rename_i x hx
   have hv:=h.az t _ (bS hx).2;rw[iw (bS hx).1] at hv;have hv2:dC σ.mem [.v x] (λl'=>match l' with|[.v y]=>H_ c σ l λr=>k (y::r) |_=>none)=some res:=by
    simp only[dC];rw[<-hs];congr 1;funext y;cases y<;>rfl
   obtain⟨⟨-, -⟩,hrow⟩:=l8 hv2;obtain⟨ys,hy,hyv⟩:=oP h.mem (.cons hv .nil) (h.aas hrow) hv2;cases hyv with
   |cons hy1 hy2=>
    cases hy2;rename_i y;cases y with
    |v y=>
     simp only at hy;obtain⟨ys,vs,hk,hr,ha⟩:=DN h C l hy;refine⟨_,_,hk, ?_, .cons hy1 ha⟩;simp only[List.mapM_cons,Sem.run_bind,Sem.run_pure,Result.andThen_ok,hr]
    |tup _=>simp at hy
    |undef=>simp at hy
    |dead=>simp at hy
  ·simp at hs
 | .cell x t::l,k,hs=>by
  simp only[H_] at hs;split at hs
  ·rename_i p ti hx hti
   have hv:=h.az x _ (bS hx).2;rw[iw (bS hx).1] at hv;obtain⟨i,d,T⟩:=C.ts t ti hti;obtain⟨cs,us,bk,of,hs1,hpv,hul,huc,hua⟩:=tz h.mem hv hs;obtain⟨⟨-, -⟩,hrow⟩:=tx hs1;obtain⟨cs',hy,hua'⟩:=AI h.mem hua (h.aas hrow) hs1;split at hy
   ·rename_i y' hof
    obtain⟨ys,vs,hk,hr,ha⟩:=DN h C l hy;obtain⟨u,hld,hu⟩:=re (P:=P) (w:=w) T (bk:=bk) (of:=of) hul huc hua' hof;refine⟨_,_,hk, ?_, .cons hu ha⟩;have hpa:(asAddr (a.tmps.getD x undef)).run P w= .ok ⟨bk,of,none⟩ w:=by rw[hpv];simp [asAddr]
    simp only[List.mapM_cons,Sem.run_bind,Sem.run_pure,Result.andThen_ok,hr,hpa,hld]
   ·simp at hy
  ·simp at hs
theorem r7:∀{l:List AV} {i t:Nat} {x:AV},look t (iI i l)=some x->∃j,t=i+j/\l[j]? =some x
 | [],i,t,x,h=>by simp [iI,look] at h
 |y::l,i,t,x,h=>by
  simp only[iI,ba] at h;split at h
  ·rename_i e;cases h;exact⟨0,by omega,rfl⟩
  ·obtain⟨j,h1,h2⟩:=r7 h
   exact⟨j+1,by omega,by simpa using h2⟩
theorem NG (h:Rel P base w0 S0 N D sv g σ a w) (C:aE P c) {fn:Func} {Y:Type} {dec:AV->Option Y} {enc:Y->AV} (hdec:∀x y,dec x=some y->x=enc y) {y:Y} (hs:Mi c fn.results.toList dec σ=some y):
 ∃v,(results fn a.tmps).run P w= .ok v w/\AVR (Lu S0 base w.heap.size) w (enc y) v:=by
 unfold Mi at hs;obtain⟨ys,vs,hk,hr,ha⟩:=DN h C fn.results.toList hs;refine⟨if h:vs.length=1 then vs[0] else .tuple vs.toArray, ?_, ?_⟩
 ·have he:(fn.results.mapM (λ| .tmp t=>pure (a.tmps.getD t undef) | .cell x t=>do loadVar t (<-asAddr (a.tmps.getD x undef)):ResultVar->Sem Value):Sem (Array Value)).run P w= .ok vs.toArray w:=by
   rw[Array.mapM_eq_mapM_toList,Sem.run_map,hr];rfl
  unfold results;rw[Sem.run_bind];refine(congrArg (λr:Result (Array Value)=>r.andThen _) he).trans ?_;simp only[Result.andThen_ok,Sem.run_pure,List.size_toArray];congr 1
 ·have hlen:=ha.length
  split at hk
  ·rename_i x
   cases ha with
   |cons h1 h2=>
    cases h2;have:=hdec _ _ hk;rw[<-this];rename_i b;have e:(if h:[b].length=1 then [b][0] else Value.tuple [b].toArray)=b:=dif_pos rfl;exact e.symm▸h1
  ·rename_i hne
   have:=hdec _ _ hk;rw[<-this];rw[dif_neg (λe=> ?_)]
   ·exact⟨vs,rfl,ha⟩
   ·rw[e] at hlen
    obtain⟨x,rfl⟩:=List.length_eq_one_iff.1 hlen;exact hne x rfl
theorem C7:bP Fence.wide:=⟨λ_=>trivial,rfl,rfl⟩
theorem enters_of {f:Nat} {fn:Func} {body:Code} (hf:P.funcs[f]? =some fn) (hn:(fn.name== "runtime.NumGoroutine")=false) (hb:fn.body=some body) (args:Array Value) (w:World):(callFunc f args).run P w= .ok (.enter f args) w:=by
 have hn':¬fn.name= "runtime.NumGoroutine" :=by simpa using hn
 simp [callFunc,hf,hn',hb]
theorem tP {t:Nat}:∀{r:cj},look (t+OFF) (qg r)=look t r
 | [] =>rfl
 |x::r=>by
  rw[qg,ba,ba];by_cases e:x.1=t
  ·rw[if_pos e,if_pos (by rw[e])]
  ·rw[if_neg e,if_neg (by simp;omega),tP]
theorem ot {t:Nat} (h:t<OFF):∀{r:cj},look t (qg r)=none
 | [] =>rfl
 |x::r=>by
  simp only[qg,ba];rw[if_neg (by omega),ot h]
theorem qp {t:Nat}:∀{r:cj},look t (gT r)=look (t+OFF) r
 | [] =>rfl
 |x::r=>by
  simp only[gT];split
  ·rename_i h
   have h:=Nat.le_of_ble_eq_true h;rw[ba,ba];by_cases e:x.1=t+OFF
   ·rw[if_pos e,if_pos (by omega)]
   ·rw[if_neg e,if_neg (by omega),qp]
  ·rename_i h
   have h:¬OFF<=x.1:=λe=>by rw[Nat.ble_eq_true_of_le e] at h;cases h
   rw[ba,if_neg (by omega),qp]
theorem AE {α:Type} {t:Nat} {r':List (Nat×α)}:∀{r:List (Nat×α)},look t (r++r')=match look t r with|some x=>some x|none=>look t r'
 | [] =>rfl
 |x::r=>by
  rw[List.cons_append,ba,ba];split
  ·rfl
  ·exact AE
def ED (fn:Func) (vs:List Value):Act:={tmps:=vs.toArray++Array.replicate (fn.ntmps - vs.toArray.size) undef,defers:= [] }
theorem yT {fn:Func} {vs:List Value} {t:Nat} {v:Value} (h:vs[t]? =some v):(ED fn vs).tmps.getD t undef=v:=by
 have hlt:t<vs.length:=(List.getElem?_eq_some_iff.1 h).1;simp only[ED,Array.getD_eq_getD_getElem?];rw[Array.getElem?_append_left (by simpa using hlt)];simp [h]
theorem Rel.enter (h:Rel P base w0 S0 N D sv g σ a w) {fn:Func} {as:List AV} {vs:List Value} (hav:bR (AVR g w) as vs) (hle:as.length<=fn.ntmps) (hoff:fn.ntmps<=OFF)
 (rs:List Nat) (hrs:a.defers=rs.map tV):Rel P base w0 S0 fn.ntmps ⟨rs++D.marks,D.lv⟩ (vof sv a) g {az:=iI 0 as++qg σ.az,mem:=σ.mem,nx:=σ.nx} (ED fn vs) w:=by
 refine{az:=λt x hx=> ?_,size:= ?_,dfr:= ?_,glo:=h.glo,lp:=h.lp,mem:=h.mem,inj:=h.inj,own:=h.own,S:=h.S,blk:=h.blk,nx:=h.nx,bel:=h.bel,bs:=h.bs,sub:=h.sub}
 ·rw[AE] at hx
  cases he:look t (iI 0 as) with
  |some y=>
   rw[he] at hx;cases hx;obtain⟨j,hj,hjx⟩:=r7 he;obtain⟨v,hv,hvr⟩:=hav.get hjx;simp at hj;subst hj;have hlt:t<as.length:=(List.getElem?_eq_some_iff.1 hjx).1;rw[iw (by omega),yT hv];exact hvr
  |none=>
   rw[he] at hx;by_cases ht:t<OFF
   ·rw[ot ht] at hx;cases hx
   ·obtain⟨u,rfl⟩:∃u,t=u+OFF:=⟨t - OFF,by omega⟩
    simp only[tP] at hx;have:=h.az u x hx;unfold vof;rw[if_neg (by omega),Nat.add_sub_cancel];exact this
 ·have:=hav.length;simp only[ED];simp;omega
 ·obtain⟨rs',e1,e2,e3⟩:=h.dfr
  obtain rfl:=uv (hrs.symm.trans e1);exact⟨[],rfl,by simpa using e2,by simpa using e3⟩
theorem Rel.leave {N':Nat} {rs:List Nat} {a':Act} (h0:a.tmps.size=N) (hd:a.defers=rs.map tV) (h:Rel P base w0 S0 N' ⟨rs++D.marks,D.lv⟩ (vof sv a) g σ a' w):Rel P base w0 S0 N D sv g {az:=gT σ.az,mem:=σ.mem,nx:=σ.nx} a w:=by
 refine{az:=λt x hx=> ?_,size:=h0,dfr:= ?_,glo:=h.glo,lp:=h.lp,mem:=h.mem,inj:=h.inj,own:=h.own,S:=h.S,blk:=h.blk,nx:=h.nx,bel:=h.bel,bs:=h.bs,sub:=h.sub};rw[qp] at hx;have:=h.az _ x hx;unfold vof at this;rw[if_neg (by omega),Nat.add_sub_cancel] at this;exact this;obtain⟨rs',e1,e2,e3⟩:=h.dfr;refine⟨rs,hd, ?_,λr hr=>e3 r (List.mem_append_right _ hr)⟩;exact(List.nodup_append.1 e2).2.1
theorem Rel.take {r:Nat} {ds:List Deferred} (h:Rel P base w0 S0 N D sv g σ {tmps:=a.tmps,defers:=tV r::ds} w):(Instr.takeDeferred r).run P w= .ok [] (w.putObj r (.deferred none))/\Rel P base w0 S0 N D sv g σ {tmps:=a.tmps,defers:=ds} (w.putObj r (.deferred none)):=by
 obtain⟨rs,e1,e2,e3⟩:=h.dfr;obtain⟨r0,rs',rfl⟩:∃r0 rs',rs=r0::rs':=by
  cases rs with
  |nil=>simp at e1
  |cons r0 rs'=>exact⟨r0,rs',rfl⟩
 simp only[List.map_cons,List.cons.injEq] at e1;obtain⟨e0,e1⟩:=e1;have hr:r=r0:=by simp [tV] at e0;exact e0
 subst hr;obtain⟨b1,b2,b3⟩:=e3 r (by simp);rw[List.cons_append,List.nodup_cons] at e2;have hH:cr g w (w.putObj r (.deferred none)):=λj hj=>World.putObj_heap_other (λe=>by subst e;exact b3 hj)
 refine⟨run_takeDeferred b2, ?_⟩;refine{az:=λt x hx=>(h.az t x hx).mono hH (Gh.le.refl g),size:=h.size,dfr:=⟨rs',e1,e2.2,λq hq=> ?_⟩,glo:=h.glo.mono hH (λ_ h=>h),lp:=h.lp,mem:=λi z hz=> ?_,inj:=h.inj,own:=h.own,S:=λp hp=>by simpa using h.S p hp,blk:=λi b p hm hp=>by simpa using h.blk i b p hm hp,nx:=h.nx,bel:=h.bel.trans ⟨rfl,rfl,rfl,by simp,λj hj=>World.putObj_heap_other (by omega)⟩,bs:=by simpa using h.bs,sub:=h.sub}
 ·obtain⟨c1,c2,c3⟩:=e3 q (by rw[List.cons_append];exact List.mem_cons_of_mem _ hq)
  exact⟨c1,(World.putObj_heap_other (λe=>by subst e;exact e2.1 hq)).trans c2,c3⟩
 ·obtain⟨b,hm,hr⟩:=h.mem i z hz
  refine⟨b,hm, ?_⟩;by_cases hlz:z.live=true
  ·exact hr.mono hH (λq hq=>World.putObj_heap_other (λe=>by subst e;exact hr.qL hlz hq b2)) (Gh.le.refl g)
  ·cases z<;>simp [AB.live] at hlz
   exact trivial
theorem Rel.leaves (hro:F.round=none) {fn:Func} {tmps:Array Value} {R':Ending->World->Prop}:∀{ds:List Deferred} {w:World},Rel P base w0 S0 N D sv g σ {tmps:=a.tmps,defers:=ds} w->
 (∀w',Rel P base w0 S0 N D sv g σ {tmps:=a.tmps,defers:= [] } w'->∃v,(results fn tmps).run P w'= .ok v w'/\R' (.returned v) w')->LeavesInM F n P fn tmps R' ds .returning w
 | [],w,h,hR=>hR w h
 |d::ds,w,h,hR=>by
  obtain⟨rs,e1,e2,e3⟩:=h.dfr;obtain⟨r0,rs',rfl⟩:∃r0 rs',rs=r0::rs':=by
   cases rs with
   |nil=>simp at e1
   |cons r0 rs'=>exact⟨r0,rs',rfl⟩
  simp only[List.map_cons,List.cons.injEq] at e1;obtain⟨rfl,e1⟩:=e1;obtain⟨h1,h2⟩:=h.take;exact⟨by simp, .inl ⟨r0,_,rfl,h1,h2.leaves hro hR⟩⟩
theorem yv (h:Rel P base w0 S0 N D sv g σ a w) (C:aE P c):∀(l:List ResultVar) {k:List V1->Option R},Dc c σ l k=some res->
 ∃ys vs,k ys=some res/\(l.mapM (λ| .tmp t=>pure (a.tmps.getD t undef) | .cell x t=>do loadVar t (<-asAddr (a.tmps.getD x undef)):ResultVar->Sem Value):Sem (List Value)).run P w= .ok vs w/\bR (V1R g w) ys vs
 | [],k,hs=>⟨[], [],hs,by simp, .nil⟩
 | .tmp t::l,k,hs=>by
  simp only[Dc] at hs;split at hs
  ·rename_i x hx
   have hv:=h.az t _ (bS hx).2;rw[iw (bS hx).1] at hv;obtain⟨ys,vs,hk,hr,ha⟩:=yv h C l hs;refine⟨_,_,hk, ?_, .cons hv ha⟩;simp only[List.mapM_cons,Sem.run_bind,Sem.run_pure,Result.andThen_ok,hr]
  ·simp at hs
 | .cell x t::l,k,hs=>by
  simp only[Dc] at hs;split at hs
  ·rename_i p ti hx hti
   have hv:=h.az x _ (bS hx).2;rw[iw (bS hx).1] at hv;obtain⟨i,d,T⟩:=C.ts t ti hti;obtain⟨cs,us,bk,of,hs1,hpv,hul,huc,hua⟩:=tz h.mem hv hs;split at hs1
   ·rename_i y' hof
    obtain⟨ys,vs,hk,hr,ha⟩:=yv h C l hs1;obtain⟨u,hld,hu⟩:=re (P:=P) (w:=w) T (bk:=bk) (of:=of) hul huc hua hof;refine⟨_,_,hk, ?_, .cons hu ha⟩;have hpa:(asAddr (a.tmps.getD x undef)).run P w= .ok ⟨bk,of,none⟩ w:=by rw[hpv];simp [asAddr]
    simp only[List.mapM_cons,Sem.run_bind,Sem.run_pure,Result.andThen_ok,hr,hpa,hld]
   ·simp at hs1
  ·simp at hs
theorem wS {fn:Func} {vs:List Value} (hr:(fn.results.toList.mapM (λ| .tmp t=>pure (a.tmps.getD t undef) | .cell x t=>do loadVar t (<-asAddr (a.tmps.getD x undef)):ResultVar->Sem Value):Sem (List Value)).run P w= .ok vs w):
 (results fn a.tmps).run P w= .ok (if h:vs.length=1 then vs[0] else .tuple vs.toArray) w:=by
 have he:(fn.results.mapM (λ| .tmp t=>pure (a.tmps.getD t undef) | .cell x t=>do loadVar t (<-asAddr (a.tmps.getD x undef)):ResultVar->Sem Value):Sem (Array Value)).run P w= .ok vs.toArray w:=by
  rw[Array.mapM_eq_mapM_toList,Sem.run_map,hr];rfl
 unfold results;rw[Sem.run_bind];refine(congrArg (λr:Result (Array Value)=>r.andThen _) he).trans ?_;simp only[Result.andThen_ok,Sem.run_pure,List.size_toArray];congr 1
theorem JB {ys:List V1} {vs:List Value} (ha:bR (V1R g w) ys vs):AVR g w (I4 ys) (if h:vs.length=1 then vs[0] else .tuple vs.toArray):=by
 cases ha with
 |nil=>exact⟨[],rfl, .nil⟩
 |cons h1 h2=>
  cases h2 with
  |nil=>exact h1
  |cons h2 h3=>
   rw[dif_neg (by simp)];exact⟨_,rfl, .cons h1 (.cons h2 h3)⟩
def bt (P:Program) [aD P] {R:Type}:Nat->List (Nat×Inl R)->Prop
 |0,_=>True
 |d+1,il=>(∀t fid cfg lp body res subs',look t il=some (.mk fid cfg lp body res subs')->
  (∃fn,P.funcs[fid]? =some fn/\(fn.name== "runtime.NumGoroutine")=false/\fn.body=some body/\cfg.N=fn.ntmps/\fn.results.toList=res)/\aE P cfg/\aI (hnd d subs') cfg lp body/\fe P cfg body/\bt P d subs')/\
  (∀t fid rid cfg lp ps assign body subs',look t il=some (.rnd fid rid cfg lp ps assign body subs')->
  zJ P fid rid=some (ps.toArray,assign,body)/\aE P cfg/\aI (hnd d subs') cfg lp assign/\aI (hnd d subs') cfg lp body/\bt P d subs')
theorem AA {NN:Nat} {tm:Array Value}:∀{ps:List Nat} {xs:List AV} {vs:List Value} {r r1:cj} {tmps:Array Value},zi NN ps xs r=some r1->bR (AVR g w) xs vs->tmps.size=NN->NN<=OFF->(∀t x,look t r=some x->t<OFF/\AVR g w x (tmps.getD t undef))->
 ps.length=vs.length/\((ps.zip vs).foldl (λtmps (q:Nat×Value)=>tmps.setIfInBounds q.1 q.2) tmps).size=NN/\∀t x,look t r1=some x->t<OFF/\AVR g w x (((ps.zip vs).foldl (λtmps (q:Nat×Value)=>tmps.setIfInBounds q.1 q.2) tmps).getD t undef)
 | [], [],_,r,r1,tmps,h, .nil,hsz,_,hr=>by
  simp only[zi,Option.some.injEq] at h;subst h;exact⟨rfl,hsz,hr⟩
 |p::ps,x::xs,_,r,r1,tmps,h, .cons (b:=v) (m:=vs) hx ht,hsz,hoff,hr=>by
  simp only[zi] at h;split at h
  ·rename_i hp
   have hp:p<NN:=Nat.le_of_ble_eq_true hp;obtain⟨e1,e2,e3⟩:=AA (tm:=tm) (tmps:=tmps.setIfInBounds p v) h ht (by simpa using hsz) hoff (λt y hy=>by
    rw[ba] at hy;split at hy
    ·rename_i e
     subst e;cases hy;refine⟨by omega, ?_⟩;rw[Array.getD_eq_getD_getElem?,Array.getElem?_setIfInBounds,if_pos rfl,if_pos (by omega)];exact hx
    ·rename_i e
     obtain⟨f1,f2⟩:=hr t y hy;refine⟨f1, ?_⟩;rw[Array.getD_eq_getD_getElem?,Array.getElem?_setIfInBounds,if_neg e,<-Array.getD_eq_getD_getElem?];exact f2)
   exact⟨by simpa using e1,e2,e3⟩
  ·cases h
 | [],_::_,_,_,_,_,h,_,_,_,_=>by simp [zi] at h
 |_::_, [],_,_,_,_,h,_,_,_,_=>by simp [zi] at h
theorem NM (hF:bP F) (l:Nat):bP (F.inRound l):=⟨hF.fn,hF.depth,hF.alive⟩
theorem Rel.round (h:Rel P base w0 S0 N D sv g σ a w) {NN:Nat} {rs:List Nat} (hrs:a.defers=rs.map tV) {r1:cj} {tm:Array Value} (hsz:tm.size=NN) (hr:∀t x,look t r1=some x->t<OFF/\AVR g w x (tm.getD t undef)):
 Rel P base w0 S0 NN ⟨rs++D.marks,D.lv⟩ (vof sv a) g {az:=r1++qg σ.az,mem:=σ.mem,nx:=σ.nx} {tmps:=tm,defers:= [] } w:=by
 refine{az:=λt x hx=> ?_,size:=hsz,dfr:= ?_,glo:=h.glo,lp:=h.lp,mem:=h.mem,inj:=h.inj,own:=h.own,S:=h.S,blk:=h.blk,nx:=h.nx,bel:=h.bel,bs:=h.bs,sub:=h.sub}
 ·rw[AE] at hx
  cases he:look t r1 with
  |some y=>
   rw[he] at hx;cases hx;obtain⟨h1,h2⟩:=hr t _ he;rw[iw h1];exact h2
  |none=>
   rw[he] at hx;by_cases ht:t<OFF
   ·rw[ot ht] at hx;cases hx
   ·obtain⟨u,rfl⟩:∃u,t=u+OFF:=⟨t - OFF,by omega⟩
    simp only[tP] at hx;have:=h.az u x hx;unfold vof;rw[if_neg (by omega),Nat.add_sub_cancel];exact this
 ·obtain⟨rs',e1,e2,e3⟩:=h.dfr
  obtain rfl:=uv (hrs.symm.trans e1);exact⟨[],rfl,by simpa using e2,by simpa using e3⟩
theorem SM {H:Hnd R} (hH:nu P H) (hm:P.follows .mixedOrders=true) {cfg:Cfg} {fid rid:Nat} {lp:List (Nat×Hd R)} {ps:List Nat} {assign body:Code} (hcode:zJ P fid rid=some (ps.toArray,assign,body)) (C:aE P cfg)
 (hla:aI H cfg lp assign) (hlb:aI H cfg lp body) {id l:Nat} {as:List AV} {kk:AV->St->Option R} {vs:List Value} {b:Gb} (h:Rel P base w0 S0 N D sv g σ a w) (hav:bR (AVR g w) as vs) (hb:g.m id=some b) (hbl:b.blk=some l)
 (hs:UZ (run H cfg lp assign) (run H cfg lp body) cfg fid rid ps id as σ kk=some res):
 ∃fn tmps assign body,(Instr.yield l vs.toArray).run P w= .ok (.round l fn tmps assign body) w/\∀(F:Fence) (n:Nat),bP F->RoundIn F n P l fn tmps assign body w λe w'=>∃v x g' σ',e= .returned v/\kk x σ'=some res/\Rel P base w0 S0 N D sv g' σ' a w'/\AVR g' w' x v:=by
 unfold UZ at hs;split at hs
 rotate_left
 ·simp at hs
 rename_i nn f r az hlk;split at hs
 rotate_left
 ·simp at hs
 rename_i regs1 hf hr hn hoff hrnd hps;obtain rfl:=Nat.eq_of_beq_eq_true hf;obtain rfl:=Nat.eq_of_beq_eq_true hr;have hn:=Nat.eq_of_beq_eq_true hn;have hoff:=Nat.le_of_ble_eq_true hoff;obtain⟨b',hb',k,rc,hk,hh,hst,hpend,hsz,hc,hregs⟩:=h.mem id _ hlk;rw[hb] at hb';cases hb';rw[hbl] at hk;cases hk;have hlv:D.lv id=some l:=by rw[<-hbl];exact(h.lp id _ b hlk rfl hb).symm
 rw[hcode] at hc;simp only[Option.some.injEq,Prod.mk.injEq] at hc;obtain⟨hc1,hc2,hc3⟩:=hc;obtain⟨rs,hrs, -⟩:=h.dfr;obtain⟨e1,e2,e3⟩:=AA (tm:=rc.tmps) hps hav hsz hoff hregs;refine⟨_,_,_,_,run_yield hh (by rw[<-hc1];simpa using e1.symm),λF n hF=> ?_⟩;rw[<-hc1,<-hc2,<-hc3];have etm:(ps.toArray.zip vs.toArray).foldl (λtmps (t,a)=>tmps.setIfInBounds t a) rc.tmps=(ps.zip vs).foldl (λtmps (q:Nat×Value)=>tmps.setIfInBounds q.1 q.2) rc.tmps:=by simp
 rw[etm];have hR:=h.round (NN:=nn) hrs e2 e3;have hwf:=NM hF l;have fin:∀(jump:Option Code) (y:AB) (bb:Bool) (g2:Gh) (σ2:St) (a2:Act) (w2:World) (nn2 f2 r2:Nat) (regs2:cj),look id σ2.mem=some (.loop false nn2 f2 r2 regs2)->y.kj=true->jump.isNone=bb->
  (∀(b2:Gb) (rc2:Loop) (w':World),cr g2 w2 w'->RB P g2 w2 b2 false nn2 f2 r2 regs2->b2.blk=some l->w2.heap[l]? =some (.loop rc2)->w'.heap[l]? =some (.loop {rc2 with state:=if jump.isNone then .ready else .done,pending:=jump})->BR P g2 w' b2 y)->
  kk (.one (.bool bb)) {az:=gT σ2.az,mem:=(id,y)::σ2.mem,nx:=σ2.nx}=some res->Rel P base w0 S0 nn ⟨rs++D.marks,D.lv⟩ (vof sv a) g2 σ2 a2 w2->
  ∃v w',(Instr.endRound l jump).run P w2= .ok v w'/\∃v' x g' σ',Ending.returned v= .returned v'/\kk x σ'=some res/\Rel P base w0 S0 N D sv g' σ' a w'/\AVR g' w' x v':=by
  intro jump y bb g2 σ2 a2 w2 nn2 f2 r2 regs2 hl2 hyl hj hbr hk2 hR2;obtain⟨b2,hb2,hbr2⟩:=hR2.mem id _ hl2;have hq2:b2.blk=some l:=(hR2.lp id _ b2 hl2 rfl hb2).trans hlv;have hbr3:=hbr2;obtain⟨k2,rc2,hk2',hh2,hrest⟩:=hbr2;rw[hq2] at hk2';cases hk2';have hS:=hR2.uI (y:=y) (ob':= .loop {rc2 with state:=if jump.isNone then .ready else .done,pending:=jump}) hl2 rfl rfl hb2 hq2 hh2 (λhH hnew=>hbr b2 rc2 _ hH hbr3 hq2 hh2 hnew);have hL:=Rel.leave (D:=D) h.size hrs hS;exact⟨_,_,run_endRound jump hh2,_, .one (.bool bb),g2,_,rfl,hk2,hL,by rw[hj];exact VA.bool bb⟩
 refine roundIn_of_wpIn (hF.fn _) ?_;refine AJ hH C (by rw[hn]) hwf hm (λh=>by rw[hrnd] at h;cases h) assign hla (λh=>by rw[hrnd] at h;cases h) hR (λe g1 σ1 a1 w1 hk1 hR1=> ?_) hs;cases e with
 |normal=>
  simp only at hk1;split at hk1
  rotate_left
  ·simp at hk1
  rename_i nn1 f1 r1 regs1' hl1;obtain⟨b1,hb1,hbr1⟩:=hR1.mem id _ hl1;have hq1:b1.blk=some l:=(hR1.lp id _ b1 hl1 rfl hb1).trans hlv;obtain⟨k1,rc1,hk1',hh1,hst1,hp1,hsz1,hcode1,hregs1⟩:=hbr1;rw[hq1] at hk1';cases hk1';have hS:=hR1.uI (y:= .loop false nn1 f1 r1 regs1') (ob':= .loop {rc1 with state:= .busy}) hl1 rfl rfl hb1 hq1 hh1 (λhH hnew=>
   ⟨l,{rc1 with state:= .busy},hq1,hnew,rfl,(λh=>by cases h),hsz1,hcode1,λt x hx=>⟨(hregs1 t x hx).1,(hregs1 t x hx).2.mono hH (Gh.le.refl _)⟩⟩)
  refine⟨_,run_beginRound hh1 (by simpa using hst1), ?_⟩;refine AJ hH C (by rw[hn]) hwf hm (λh=>by rw[hrnd] at h;cases h) body hlb (λh=>by rw[hrnd] at h;cases h) hS (λe g2 σ2 a2 w2 hk2 hR2=> ?_) hk1;cases e with
  |normal=>
   simp only[zh] at hk2;split at hk2
   ·rename_i nn2 f2 r2 regs2 hl2
    refine fin none (.loop true nn2 f2 r2 regs2) true g2 σ2 a2 w2 nn2 f2 r2 regs2 hl2 rfl rfl (λb2 rc2 w' hH hbr hq hh2 hnew=> ?_) hk2 hR2;obtain⟨k2,rc2',hk2',hh2',hst2,hp2,hsz2,hcode2,hregs2⟩:=hbr;rw[hq] at hk2';cases hk2';rw[hh2] at hh2';cases hh2';exact⟨l,_,hq,hnew,rfl,λ_=>rfl,hsz2,hcode2,λt x hx=>⟨(hregs2 t x hx).1,(hregs2 t x hx).2.mono hH (Gh.le.refl _)⟩⟩
   ·simp at hk2
  |exit i=>
   simp only[zh] at hk2;split at hk2
   ·rename_i nn2 f2 r2 regs2 hl2
    exact fin (some (.exit i)) (.over (.exit i)) false g2 σ2 a2 w2 nn2 f2 r2 regs2 hl2 rfl rfl (λb2 rc2 w' hH hbr hq hh2 hnew=>⟨l,_,hq,hnew,rfl,rfl⟩) hk2 hR2
   ·simp at hk2
  |goto t=>simp [zh] at hk2
  |ret=>
   simp only[zh] at hk2;split at hk2
   ·rename_i nn2 f2 r2 regs2 hl2
    exact fin (some .ret) (.over .ret) false g2 σ2 a2 w2 nn2 f2 r2 regs2 hl2 rfl rfl (λb2 rc2 w' hH hbr hq hh2 hnew=>⟨l,_,hq,hnew,rfl,rfl⟩) hk2 hR2
   ·simp at hk2
 |exit i=>simp at hk1
 |goto t=>simp at hk1
 |ret=>simp at hk1
theorem CW (hm:P.follows .mixedOrders=true):∀(d:Nat) (il:List (Nat×Inl R)),bt P d il->nu P (hnd d il)
 |0,il,_=>⟨by intro _ _ _ _ _ _ _ _ _ _ _ _ _ _ _ _ h hav hlt hs;simp [hnd] at hs,by intro _ _ _ _ _ _ _ _ _ _ _ _ _ _ _ _ _ _ h hav hb hbl hs;simp [hnd] at hs⟩
 |d+1,il,hsub=>by
  refine⟨?_, ?_⟩
  ·intro base w0 S0 N D sv g σ a w res dst f as kk vs h hav hlt hs
   simp only[hnd] at hs;split at hs
   ·simp at hs
   ·rename_i t
    split at hs
    ·simp at hs
    ·split at hs
     ·rename_i hble
      have:=Nat.le_of_ble_eq_true hble;omega
     ·simp at hs
    ·rename_i fid cfg lp body rs subs' hlk
     obtain⟨⟨fn,hf,hnm,hb,hcN,hres⟩,C,hl,hrg,hsub'⟩:=hsub.1 t fid cfg lp body rs subs' hlk;split at hs
     ·rename_i he hle hoff hlt'
      have he:=Nat.eq_of_beq_eq_true he;have hle:=Nat.le_of_ble_eq_true hle;have hoff:=Nat.le_of_ble_eq_true hoff;subst he;rw[hcN] at hle hoff;refine⟨enters_of hf hnm hb, ?_⟩;obtain⟨ms,hms, -⟩:=h.dfr;have hin:=h.enter (fn:=fn) hav hle hoff ms hms;refine(callsIn_wide (n:=0)).1 (callsIn_of_wp_marks hf hb trivial ?_);have fin:∀(e:Ex) (g':Gh) (σ':St) (a':Act) (w':World),Dc cfg σ' rs (λl=>kk (I4 l) {az:=gT σ'.az,mem:=σ'.mem,nx:=σ'.nx})=some res->Rel P base w0 S0 fn.ntmps ⟨ms++D.marks,D.lv⟩ (vof sv a) g' σ' a' w'->
       LeavesInM Fence.wide 0 P fn a'.tmps (λe w'=>∃v x g' σ',e= .returned v/\kk x σ'=some res/\Rel P base w0 S0 N D sv g' σ' a w'/\AVR g' w' x v) a'.defers .returning w':=by
       intro e g' σ' a' w' hk h';refine Rel.leaves (a:=a') rfl h' λw2 h2=> ?_
       rw[<-hres] at hk;obtain⟨ys,us,hk2,hr,ha⟩:=yv h2 C _ hk;exact⟨_,wS hr,_,_,g',_,rfl,hk2,h2.leave h.size hms,JB ha⟩
      refine AJ (CW hm d subs' hsub') C hcN C7 hm (λ_=>rfl) body hl hrg hin (λe g' σ' a' w' hk h'=> ?_) hs;cases e with
      |normal=>exact fin .normal g' σ' a' w' hk h'
      |ret=>exact fin .ret g' σ' a' w' hk h'
      |exit i=>simp at hk
      |goto l=>simp at hk
     ·simp at hs
  ·intro base w0 S0 N D sv g σ a w res dst id as kk vs b l h hav hb hbl hs
   simp only[hnd] at hs;split at hs
   ·simp at hs
   ·rename_i t
    split at hs
    ·simp at hs
    ·rename_i fid rid cfg lp ps assign body subs' hlk
     obtain⟨hcode,C,hla,hlb,hsub'⟩:=hsub.2 t fid rid cfg lp ps assign body subs' hlk;split at hs
     ·rw[Nat.add_sub_cancel_left] at hs
      exact SM (CW hm d subs' hsub') hm hcode C hla hlb h hav hb hbl hs
     ·simp at hs
    ·rename_i fid cfg lp body rs subs' hlk
     obtain⟨⟨fn,hf,hnm,hb,hcN,hres⟩,C,hl,hrg,hsub'⟩:=hsub.1 t fid cfg lp body rs subs' hlk;split at hs
     ·rename_i he hle hoff hlt
      have:=Nat.le_of_ble_eq_true hlt;omega
     ·simp at hs
theorem JU {f:Nat} {fn:Func} {body:Code} {s:Spec} {dec:AV->Option s.Y} (hf:P.funcs[f]? =some fn) (hn:(fn.name== "runtime.NumGoroutine")=false) (hb:fn.body=some body) (C:aE P c) (hN:c.N=fn.ntmps) (hoff:fn.ntmps<=OFF) (hm:P.follows .mixedOrders=true)
 (hdec:∀x y,dec x=some y->x=s.enc y) (hlen:∀args x,s.pat args=some x->args.length<=fn.ntmps) {d:Nat} {il:List (Nat×Inl s.Y)} (hsub:bt P d il) {lp:List (Nat×Hd s.Y)} (hl:aI (hnd d il) c lp body) (hrg:fe P c body)
 (hrun:∀args x y,s.pat args=some x->s.f x=some y->D3 (hnd d il) c lp body fn.results.toList args dec=some y):aK P f s where
 enters:=enters_of hf hn hb
 calls:=by
  intro S w args vs x y hS hG hav hpat hfx;have hr:=hrun args x y hpat hfx;have hal:=hav.length;have hsz:=hlen args x hpat;refine(callsIn_wide (n:=0)).1 (callsIn_of_wp_marks hf hb trivial ?_);have hrel:Rel P w.heap.size w S fn.ntmps ⟨[],λ_=>none⟩ (λ_=>undef) ⟨S,λ_=>none⟩ {az:=iI 0 args,mem:= [],nx:=0} (ED fn vs) w:=by
   refine⟨λt x hx=> ?_, ?_,⟨[],rfl,by simp,λr hr=>by simp at hr⟩,λid x b h=>by simp [look] at h,hG,λid x h=>by simp [look] at h,λid id' x x' b b' q h=>by simp [look] at h,λid x b q h=>by simp [look] at h,hS,λid b q h=>by simp at h,λid b h=>by simp at h,Below.refl _ _,Nat.le_refl _,λq hq=> .inl hq⟩
   ·obtain⟨j,hj,hjx⟩:=r7 hx
    obtain⟨v,hv,hvr⟩:=hav.get hjx;simp at hj;subst hj;have hlt:t<args.length:=(List.getElem?_eq_some_iff.1 hjx).1;rw[iw (by omega),yT hv];exact hvr
   ·simp only[ED];simp;omega
  have fin:∀g' σ' (a':Act) w',Mi c fn.results.toList dec σ'=some y->Rel P w.heap.size w S fn.ntmps ⟨[],λ_=>none⟩ (λ_=>undef) g' σ' a' w'->LeavesInM Fence.wide 0 P fn a'.tmps (λe w'=>∃u,e= .returned u/\Below w.heap.size w w'/\AVR ⟨λk=>S k\/(w.heap.size<=k/\k<w'.heap.size),λ_=>none⟩ w' (s.enc y) u) a'.defers .returning w':=by
   intro g' σ' a' w' hk h';refine Rel.leaves (a:=a') rfl h' λw2 h2=> ?_
   obtain⟨v,hv,hvr⟩:=NG h2 C hdec hk;exact⟨v,hv,v,rfl,h2.bel,hvr⟩
  unfold D3 at hr;refine AJ (CW hm d il hsub) C hN C7 hm (λ_=>rfl) body hl hrg hrel (λe g' σ' a' w' hk h'=> ?_) hr;cases e with
  |normal=>exact fin g' σ' a' w' hk h'
  |ret=>exact fin g' σ' a' w' hk h'
  |exit i=>simp at hk
  |goto l=>simp at hk
def RX {Y:Type} (m:Mem) (dec:AB->Option Y):At->Option Y
 | .own id=>match look id m with
  |some (.row τ l)=>dec (.row τ l)
  |_=>none
 | .clip τ [] =>dec (.row τ [])
 | .sub id off n=>match Nat.beq off 0 with
  |true=>match look id m with
   |some (.row τ l)=>match Nat.ble (off+n) l.length with
    |true=>dec (.row τ ((l.drop off).take n))
    |false=>none
   |_=>none
  |false=>none
 | .gp id=>match look id m with
  |some (.map ag κ τ l ck)=>dec (.map ag κ τ l ck)
  |_=>none
 |_=>none
def TR {Y:Type} (c:Cfg) (res:List ResultVar) (dec:AB->Option Y) (σ:St):Option Y:=
 Dc c σ res λl=>match l with
  |[.one x]=>RX σ.mem dec x
  |_=>none
noncomputable def zX {Y:Type} (H:Hnd Y) (c:Cfg) (lp:List (Nat×Hd Y)) (body:Code) (res:List ResultVar) (args:List AV) (dec:AB->Option Y):Option Y:=
 run H c lp body {az:=iI 0 args,mem:= [],nx:=0} λe σ=>match e with
  | .normal=>TR c res dec σ
  | .ret=>TR c res dec σ
  |_=>none
theorem CQ {ag:Bool} {l:List At} {y:V1} (h:V1.dB ag l=some y) (hl:∀y∈l,nL y=true) {g g':Gh} {w:World} {v:Value} (hv:V1R g w y v) (hS:∀q,g.S q->g'.S q):V1R g' w y v:=by
 unfold V1.dB at h;split at h
 ·cases h
  obtain⟨vs,rfl,ha⟩:=hv;exact⟨vs,rfl,ha.Iw λa hm b hb=>hb.pure (hl a hm) hS⟩
 ·cases h;exact VA.pure (x:=_) hv (hl _ (by simp)) hS
 ·cases h
theorem BR.pure {g g':Gh} {b:Gb} {x:AB} (h:BR P g w b x) (hx:∃y,DI 0 x=some y) (hS:∀q,g.S q->g'.S q):BR P g' w b x:=by
 obtain⟨y0,hy0⟩:=hx;cases x<;>simp only[DI,reduceCtorEq] at hy0
 case row τ l=>
  obtain⟨h1,h2,h3⟩:=h;refine⟨h1,h2, ?_⟩;rcases h3 with h3|⟨k,cs,e,hb,hh,hs,hl,ho,ha⟩
  ·exact .inl h3
  ·exact .inr ⟨k,cs,e,hb,hh,hs,hl,ho,λi x j y hx hy=>let ⟨v,hv,ha'⟩:=ha i x j y hx hy;⟨v,hv,ha'.pure (c_ τ x j y hy) hS⟩⟩
 case map ag κ τ l ck=>
  obtain⟨k,es,hb,hh,ha⟩:=h;exact⟨k,es,hb,hh,ha.mono λx e k=>k.of λy v hy hv=>CQ hy (λz hz=>let ⟨j,hj⟩:=List.getElem?_of_mem hz;c_ τ _ j z hj) hv hS⟩
theorem Q_ (h:Rel P base w0 S0 N D sv g σ a w) {Y:Type} {dec:AB->Option Y} {y:Y} {x:At} {v:Value} (hv:VA g w x v) (hs:RX σ.mem dec x=some y):∃ab,dec ab=some y/\FrR P S0 base w ab v:=by
 have fin:∀(id:Nat) (ab:AB) (b:Gb),look id σ.mem=some ab->g.m id=some b->BR P g w b ab->ab.live=true->(∃y,DI 0 ab=some y/\VA ⟨λ_=>False,λi=>if i=0 then some b else none⟩ w y v)->ab.kj=false->FrR P S0 base w ab v:=by
  intro id ab b hl hm hb hlive hy hlp;refine⟨b,λk hk=>⟨(h.own id ab b k hl hlive hm hk).1,h.blk id b k hm hk⟩,hlive,hlp,hb.pure ⟨_,hy.choose_spec.1⟩ λq hq=> ?_,hy⟩;rcases h.sub q hq with h'|h'
  ·exact .inl h'
  ·exact .inr ⟨h',h.S q hq,λe=>(h.own id ab b q hl hlive hm e).2 hq⟩
 cases x<;>simp only[RX,reduceCtorEq] at hs
 case own id=>
  split at hs
  ·rename_i τ l hl
   obtain⟨b,hm,hb⟩:=h.mem id _ hl;refine⟨_,hs,fin id _ b hl hm hb rfl ⟨.own 0,rfl, ?_⟩ rfl⟩;cases hv with
   |own _ b' a hm' hk h0=>rw[hm] at hm';cases hm';exact .own 0 b a (by simp) hk h0
  ·simp at hs
 case clip τ l=>
  cases l with
  |cons _ _=>simp at hs
  |nil=>
   refine⟨_,hs,⟨none,0,0,τ.n,default⟩,λk hk=>by simp at hk,rfl,rfl,⟨rfl,rfl, .inl ⟨rfl,rfl,rfl⟩⟩, .own 0,rfl, ?_⟩;cases hv with
   |clip _ _ ad n bk of f hn ha hcell hf=>
    simp only[List.length_nil] at hn;subst hn;exact VA.own 0 ⟨none,0,0,τ.n,default⟩ ad (by simp) (λq hq=>by simp at hq) (λ_=>⟨rfl,rfl⟩)
 case sub id off n=>
  split at hs
  ·rename_i h0
   have h0:=Nat.eq_of_beq_eq_true h0;subst h0;split at hs
   ·rename_i τ l hl
    split at hs
    ·rename_i hle
     have hle:=Nat.le_of_ble_eq_true hle;obtain⟨b,hm,hb⟩:=h.mem id _ hl;cases hv with
     |sub _ _ _ b' a c hm' hl' hc hk=>
      rw[hm] at hm';cases hm';have hb0:=hb;obtain⟨h1,h2,h3⟩:=hb;by_cases hcp:b.cp=0
      ·have hln:l= [] :=by
        rcases h3 with h3|⟨k,cs,e,hbk,hh,hsz,hll,ho,ha⟩
        ·exact h3.2.1
        ·rw[hcp] at hll;exact List.eq_nil_of_length_eq_zero (by omega)
       subst hln;simp only[List.length_nil] at hle;have hn:n=0:=by omega
       subst hn;have hc0:c=0:=by omega
       subst hc0;exact⟨_,hs,⟨none,0,0,τ.n,default⟩,λk hk=>by simp at hk,rfl,rfl,⟨rfl,rfl, .inl ⟨rfl,rfl,rfl⟩⟩, .own 0,rfl,VA.own 0 ⟨none,0,0,τ.n,default⟩ a (by simp) (λq hq=>by simp at hq) (λ_=>⟨rfl,rfl⟩)⟩
      ·rcases h3 with h3|⟨k,cs,e,hbk,hh,hsz,hll,ho,ha⟩
       ·exact absurd h3.2.2 hcp
       ·have hlen:((l.drop 0).take n).length=n:=by simp;omega
        have hb2:BR P g w ⟨b.blk,n,b.cp,b.sz,b.val⟩ (.row τ ((l.drop 0).take n)):=by
         refine⟨h1,hlen.symm, .inr ⟨k,cs,e,hbk,hh,hsz,(by rw[hlen];show n<=b.cp;omega),ho,λi x j y hx hy=> ?_⟩⟩;refine ha i x j y ?_ hy;rw[List.drop_zero] at hx;have hi:=(List.getElem?_eq_some_iff.1 hx).1;rw[List.getElem?_take_of_lt (by simp at hi;omega)] at hx;exact hx
        have hc0:c=b.cp:=by omega
        subst hc0;obtain⟨k',hk',ha'⟩:=hk hcp;rw[hbk] at hk';cases hk';refine⟨_,hs,⟨b.blk,n,b.cp,b.sz,b.val⟩,λk hk=>⟨(h.own id _ b k hl rfl hm hk).1,h.blk id b k hm hk⟩,rfl,rfl,hb2.pure ⟨.own 0,rfl⟩ λq hq=> ?_, .own 0,rfl, ?_⟩
        ·rcases h.sub q hq with h'|h'
         ·exact .inl h'
         ·exact .inr ⟨h',h.S q hq,λe=>(h.own id _ b q hl rfl hm e).2 hq⟩
        ·refine VA.own 0 ⟨b.blk,n,b.cp,b.sz,b.val⟩ a (by simp) (λq hq=> ?_) (λhq=> ?_)
         ·simp only at hq
          rw[hbk] at hq;cases hq;rw[ha'];simp
         ·simp only at hq;rw[hbk] at hq;cases hq
    ·simp at hs
   ·simp at hs
  ·simp at hs
 case gp id=>
  split at hs
  ·rename_i ag κ τ l ck hl
   obtain⟨b,hm,hb⟩:=h.mem id _ hl;refine⟨_,hs,fin id _ b hl hm hb rfl ⟨.gp 0,rfl, ?_⟩ rfl⟩;cases hv with
   |gp _ b' k hm' hk=>rw[hm] at hm';cases hm';exact .gp 0 b k (by simp) hk
  ·simp at hs
theorem Gy {f:Nat} {fn:Func} {body:Code} {s:kx} {Y:Type} {enc:Y->AB} {dec:AB->Option Y} (hf:P.funcs[f]? =some fn) (hn:(fn.name== "runtime.NumGoroutine")=false) (hb:fn.body=some body) (C:aE P c) (hN:c.N=fn.ntmps) (hoff:fn.ntmps<=OFF) (hm:P.follows .mixedOrders=true)
 (hdec:∀x y,dec x=some y->x=enc y) (hlen:∀args x,s.pat args=some x->args.length<=fn.ntmps) {d:Nat} {il:List (Nat×Inl Y)} (hsub:bt P d il) {lp:List (Nat×Hd Y)} (hl:aI (hnd d il) c lp body) (hrg:fe P c body)
 (hrun:∀args x ab,s.pat args=some x->s.f x=some ab->∃y,ab=enc y/\zX (hnd d il) c lp body fn.results.toList args dec=some y):mL P f s where
 enters:=enters_of hf hn hb
 calls:=by
  intro S w args vs x ab hS hG hav hpat hfx;obtain⟨y,rfl,hr⟩:=hrun args x ab hpat hfx;have hal:=hav.length;have hsz:=hlen args x hpat;refine(callsIn_wide (n:=0)).1 (callsIn_of_wp_marks hf hb trivial ?_);have hrel:Rel P w.heap.size w S fn.ntmps ⟨[],λ_=>none⟩ (λ_=>undef) ⟨S,λ_=>none⟩ {az:=iI 0 args,mem:= [],nx:=0} (ED fn vs) w:=by
   refine⟨λt x hx=> ?_, ?_,⟨[],rfl,by simp,λr hr=>by simp at hr⟩,λid x b h=>by simp [look] at h,hG,λid x h=>by simp [look] at h,λid id' x x' b b' q h=>by simp [look] at h,λid x b q h=>by simp [look] at h,hS,λid b q h=>by simp at h,λid b h=>by simp at h,Below.refl _ _,Nat.le_refl _,λq hq=> .inl hq⟩
   ·obtain⟨j,hj,hjx⟩:=r7 hx
    obtain⟨v,hv,hvr⟩:=hav.get hjx;simp at hj;subst hj;have hlt:t<args.length:=(List.getElem?_eq_some_iff.1 hjx).1;rw[iw (by omega),yT hv];exact hvr
   ·simp only[ED];simp;omega
  have fin:∀g' σ' (a':Act) w',TR c fn.results.toList dec σ'=some y->Rel P w.heap.size w S fn.ntmps ⟨[],λ_=>none⟩ (λ_=>undef) g' σ' a' w'->LeavesInM Fence.wide 0 P fn a'.tmps (λe w'=>∃u,e= .returned u/\Below w.heap.size w w'/\FrR P S w.heap.size w' (enc y) u) a'.defers .returning w':=by
   intro g' σ' a' w' hk h';refine Rel.leaves (a:=a') rfl h' λw2 h2=> ?_
   obtain⟨ys,us,hk2,hr2,ha⟩:=yv h2 C _ hk;split at hk2
   ·rename_i x
    cases ha with
    |cons h3 h4=>
     cases h4;obtain⟨ab,hd,hF⟩:=Q_ h2 h3 hk2;rw[hdec _ _ hd] at hF;exact⟨_,wS hr2,_,rfl,h2.bel,hF⟩
   ·cases hk2
  unfold zX at hr;refine AJ (CW hm d il hsub) C hN C7 hm (λ_=>rfl) body hl hrg hrel (λe g' σ' a' w' hk h'=> ?_) hr;cases e with
  |normal=>exact fin g' σ' a' w' hk h'
  |ret=>exact fin g' σ' a' w' hk h'
  |exit i=>simp at hk
  |goto l=>simp at hk
end
inductive HA where
 |int (k:IntKind)
 |bool
 |str
 |sl (τ:Ty)
 |clip (τ:Ty)
 |sub (id:Nat)
 |fB (id j:Nat)
 |gQ (τ:Ty) (j:Nat)
 |own (id:Nat)
 |ptr (id off:Nat)
 |fnc (f:Nat)
 |clo (id:Nat)
 |iter (id:Nat)
 |yld (id:Nat)
 |gl (τ:Ty)
 |gp (id:Nat)
 |zu (s:Str)
 |LV (k:IntKind) (n:Int)
 |aF (b:Bool)
 |pS
 |ng
 |oO
 |dead
@[reducible] def HA.V:HA->Type
 | .int _=>Int
 | .bool=>Bool
 | .str=>Str
 | .sl τ=>List τ.T
 | .clip τ=>List τ.T
 | .sub _=>Nat×Nat
 | .fB _ _=>Nat
 | .gQ τ _=>τ.T
 | .gl τ=>List τ.T
 |_=>Unit
def HA.st:(h:HA)->h.V->At
 | .int k,x=> .int k x
 | .bool,x=> .bool x
 | .str,x=> .str x
 | .sl τ,x=> .sl τ x
 | .clip τ,x=> .clip τ x
 | .sub id,x=> .sub id x.1 x.2
 | .fB id j,x=> .fB id x j
 | .gQ τ j,x=> .gQ τ x j
 | .own id,_=> .own id
 | .ptr id off,_=> .ptr id off
 | .fnc f,_=> .fnc f
 | .clo id,_=> .clo id
 | .iter id,_=> .iter id
 | .yld id,_=> .yld id
 | .gl τ,x=> .gl τ x
 | .gp id,_=> .gp id
 | .zu s,_=> .str s
 | .LV k n,_=> .int k n
 | .aF b,_=> .bool b
 | .pS,_=> .pS
 | .ng,_=> .ng
 | .oO,_=> .oO
 | .dead,_=> .dead
def IE:(τ τ':Ty)->τ.T->Option τ'.T
 | .int, .int,l=>some l
 | .byte, .byte,l=>some l
 | .str, .str,l=>some l
 | .entry, .entry,l=>some l
 | .aM, .aM,l=>some l
 | .seen, .seen,l=>some l
 | .kept, .kept,l=>some l
 | .opn, .opn,l=>some l
 | .ze, .ze,l=>some l
 | .shp, .shp,l=>some l
 | .yU, .yU,l=>some l
 | .bool, .bool,l=>some l
 | .fn, .fn,l=>some l
 | .parts, .parts,l=>some l
 | .strs, .strs,l=>some l
 |_,_,_=>none
theorem KW {τ τ':Ty} {l:τ.T} {l':τ'.T} (h:IE τ τ' l=some l'):∃e:τ=τ',e▸l=l':=by
 cases τ<;>cases τ'<;>simp [IE] at h<;>exact⟨rfl,h⟩
def Jl (a b c d:Nat):Bool:=match Nat.beq a b with|true=>Nat.beq c d|false=>false
theorem Dm {a b c d:Nat} (h:Jl a b c d=true):a=b/\c=d:=by
 unfold Jl at h;split at h
 ·rename_i e;exact⟨Nat.eq_of_beq_eq_true e,Nat.eq_of_beq_eq_true h⟩
 ·cases h
def HA.sh:(h:HA)->At->Option h.V
 | .int k, .int k' x=>match xX k k' with|true=>some x|false=>none
 | .bool, .bool x=>some x
 | .str, .str x=>some x
 | .sl τ, .sl τ' x=>dV τ' τ x
 | .clip τ, .clip τ' x=>dV τ' τ x
 | .sub id, .sub i a b=>match Nat.beq id i with|true=>some (a,b) |false=>none
 | .fB id j, .fB id' x j'=>match Jl id id' j j' with|true=>some x|false=>none
 | .gQ τ j, .gQ τ' x j'=>match Nat.beq j j' with|true=>IE τ' τ x|false=>none
 | .own id, .own i=>match Nat.beq id i with|true=>some () |false=>none
 | .ptr id off, .ptr i o=>match Jl id i off o with|true=>some () |false=>none
 | .fnc f, .fnc g=>match Nat.beq f g with|true=>some () |false=>none
 | .clo f, .clo g=>match Nat.beq f g with|true=>some () |false=>none
 | .iter f, .iter g=>match Nat.beq f g with|true=>some () |false=>none
 | .yld f, .yld g=>match Nat.beq f g with|true=>some () |false=>none
 | .gl τ, .gl τ' x=>dV τ' τ x
 | .gp f, .gp g=>match Nat.beq f g with|true=>some () |false=>none
 | .zu s, .str x=>match s==x with|true=>some () |false=>none
 | .LV k n, .int k' x=>match xX k k',n==x with|true,true=>some () |_,_=>none
 | .aF true, .bool true=>some ()
 | .aF false, .bool false=>some ()
 | .pS, .pS=>some ()
 | .ng, .ng=>some ()
 | .oO, .oO=>some ()
 | .dead, .dead=>some ()
 |_,_=>none
theorem CA {k k':IntKind} (h:xX k k'=true):k=k':=by cases k<;>cases k'<;>simp [xX] at h<;>rfl
theorem HA.eq {h:HA} {a:At} {v:h.V} (e:h.sh a=some v):a=h.st v:=by
 cases h<;>cases a<;>simp only[HA.sh,reduceCtorEq] at e
 case int.int k k' x=>split at e<;>simp at e;rename_i hk;rw[CA hk];simp [HA.st,e]
 case bool.bool=>simp at e;simp [HA.st,e]
 case str.str=>simp at e;simp [HA.st,e]
 case sl.sl τ τ' l=>obtain⟨rfl,h⟩:=ei e;simp at h;subst h;rfl
 case clip.clip τ τ' l=>obtain⟨rfl,h⟩:=ei e;simp at h;subst h;rfl
 case sub.sub id i p q=>split at e<;>simp at e;rename_i hk;rw[Nat.eq_of_beq_eq_true hk];subst e;rfl
 case fB.fB=>split at e<;>simp at e;rename_i hk;obtain⟨h1,h2⟩:=Dm hk;subst h1;subst h2;subst e;rfl
 case gQ.gQ=>
  split at e
  ·rename_i hk
   have:=Nat.eq_of_beq_eq_true hk;subst this;obtain⟨rfl,h⟩:=KW e;simp at h;subst h;rfl
  ·simp at e
 case own.own=>split at e<;>simp at e;rename_i hk;rw[Nat.eq_of_beq_eq_true hk];rfl
 case ptr.ptr=>split at e<;>simp at e;rename_i hk;obtain⟨h1,h2⟩:=Dm hk;subst h1;subst h2;rfl
 case fnc.fnc=>split at e<;>simp at e;rename_i hk;rw[Nat.eq_of_beq_eq_true hk];rfl
 case clo.clo=>split at e<;>simp at e;rename_i hk;rw[Nat.eq_of_beq_eq_true hk];rfl
 case iter.iter=>split at e<;>simp at e;rename_i hk;rw[Nat.eq_of_beq_eq_true hk];rfl
 case yld.yld=>split at e<;>simp at e;rename_i hk;rw[Nat.eq_of_beq_eq_true hk];rfl
 case gp.gp=>split at e<;>simp at e;rename_i hk;rw[Nat.eq_of_beq_eq_true hk];rfl
 case zu.str=>split at e<;>simp at e;rename_i hk;rw[beq_iff_eq.1 hk];rfl
 case LV.int=>split at e<;>simp at e;rename_i hk hn;rw[CA hk,beq_iff_eq.1 hn];rfl
 case aF.bool a b=>cases a<;>cases b<;>first|rfl|(simp [HA.sh] at e)
 case gl.gl τ τ' l=>obtain⟨rfl,h⟩:=ei e;simp at h;subst h;rfl
 all_goals rfl
@[reducible] def HL.V:List HA->Type
 | [] =>Unit
 |h::l=>h.V×HL.V l
def HL.st:(l:List HA)->HL.V l->List At
 | [],_=> []
 |h::l,v=>h.st v.1::HL.st l v.2
def HL.sh:(l:List HA)->List At->Option (HL.V l)
 | [], [] =>some ()
 |h::l,a::r=>match h.sh a,HL.sh l r with
  |some x,some y=>some (x,y)
  |_,_=>none
 |_,_=>none
theorem HL.eq:∀{l:List HA} {r:List At} {v:HL.V l},HL.sh l r=some v->r=HL.st l v
 | [], [],_,_=>rfl
 | [],_::_,_,e=>by simp [HL.sh] at e
 |_::_, [],_,e=>by simp [HL.sh] at e
 |h::l,a::r,v,e=>by
  simp only[HL.sh] at e;split at e
  ·rename_i x y hx hy
   cases e;simp only[HL.st];rw[HA.eq hx,HL.eq hy]
  ·simp at e
inductive HV where
 |one (h:HA)
 |agg (l:List HA)
 |undef
@[reducible] def HV.V:HV->Type
 | .one h=>h.V
 | .agg l=>HL.V l
 | .undef=>Unit
def HV.st:(h:HV)->h.V->AV
 | .one h,v=> .v (.one (h.st v))
 | .agg l,v=> .v (.agg (HL.st l v))
 | .undef,_=> .undef
def HV.sh:(h:HV)->AV->Option h.V
 | .one h, .v (.one a)=>h.sh a
 | .agg l, .v (.agg r)=>HL.sh l r
 | .undef, .undef=>some ()
 |_,_=>none
theorem HV.eq {h:HV} {a:AV} {v:h.V} (e:h.sh a=some v):a=h.st v:=by
 unfold HV.sh at e;split at e
 ·rw[HV.st,<-HA.eq e]
 ·rw[HV.st,<-HL.eq e]
 ·rfl
 ·simp at e
@[reducible] def HR.V:List (Nat×HV)->Type
 | [] =>Unit
 |h::l=>h.2.V×HR.V l
def HR.st:(l:List (Nat×HV))->HR.V l->cj
 | [],_=> []
 |h::l,v=>(h.1,h.2.st v.1)::HR.st l v.2
def HR.sh:(l:List (Nat×HV))->cj->Option (HR.V l)
 | [], [] =>some ()
 |h::l,a::r=>match Nat.beq h.1 a.1,h.2.sh a.2,HR.sh l r with
  |true,some x,some y=>some (x,y)
  |_,_,_=>none
 |_,_=>none
theorem HR.eq:∀{l:List (Nat×HV)} {r:cj} {v:HR.V l},HR.sh l r=some v->r=HR.st l v
 | [], [],_,_=>rfl
 | [],_::_,_,e=>by simp [HR.sh] at e
 |_::_, [],_,e=>by simp [HR.sh] at e
 |h::l,a::r,v,e=>by
  simp only[HR.sh] at e;split at e
  ·rename_i x y hk hx hy
   cases e;simp only[HR.st];rw[<-HV.eq hx,<-HR.eq hy,Nat.eq_of_beq_eq_true hk]
  ·simp at e
def Mm:(κ κ' τ τ':Ty)->List (κ.T×τ.T×Nat)->Option (List (κ'.T×τ'.T×Nat))
 | .int, .int, .int, .int,l=>some l
 | .int, .int, .bool, .bool,l=>some l
 | .int, .int, .aM, .aM,l=>some l
 | .int, .int, .fn, .fn,l=>some l
 | .str, .str, .int, .int,l=>some l
 | .str, .str, .bool, .bool,l=>some l
 |_,_,_,_,_=>none
theorem K8 {κ κ' τ τ':Ty} {l:List (κ.T×τ.T×Nat)} {l':List (κ'.T×τ'.T×Nat)} (h:Mm κ κ' τ τ' l=some l') (ag:Bool) (ck:Nat):AB.map ag κ τ l ck=AB.map ag κ' τ' l' ck:=by
 unfold Mm at h;split at h<;>first|(cases h;rfl) |cases h
inductive HB where
 |cells (l:List HA)
 |row (τ:Ty)
 |clo (f:Nat) (a b:List HA)
 |iter
 |oE (h:HA)
 |loop (ph:Bool) (n fid rid:Nat) (az:List (Nat×HV))
 |map (ag:Bool) (κ τ:Ty)
@[reducible] def HB.V:HB->Type
 | .cells l=>HL.V l
 | .row τ=>List τ.T
 | .clo _ a b=>HL.V a×HL.V b
 | .iter=>Str×Nat
 | .oE h=>h.V×Nat
 | .loop _ _ _ _ az=>HR.V az
 | .map _ κ τ=>List (κ.T×τ.T×Nat)×Nat
def HB.st:(h:HB)->h.V->AB
 | .cells l,v=> .cells (HL.st l v)
 | .row τ,v=> .row τ v
 | .clo f a b,v=> .clo f (HL.st a v.1) (HL.st b v.2)
 | .iter,v=> .iter v.1 v.2
 | .oE h,v=> .oE (h.st v.1) v.2
 | .loop ph n fid rid az,v=> .loop ph n fid rid (HR.st az v)
 | .map ag κ τ,v=> .map ag κ τ v.1 v.2
def HB.sh:(h:HB)->AB->Option h.V
 | .cells l, .cells r=>HL.sh l r
 | .row τ, .row τ' l=>dV τ' τ l
 | .clo f a b, .clo g x y=>match Nat.beq f g,HL.sh a x,HL.sh b y with
  |true,some p,some q=>some (p,q)
  |_,_,_=>none
 | .iter, .iter s p=>some (s,p)
 | .oE h, .oE x n=>match h.sh x with
  |some p=>some (p,n)
  |none=>none
 | .loop ph n fid rid az, .loop ph' n' fid' rid' r=>match (match ph,ph' with|true,true=>true|false,false=>true|_,_=>false),Nat.beq n n',Jl fid fid' rid rid' with
  |true,true,true=>HR.sh az r
  |_,_,_=>none
 | .map ag κ τ, .map ag' κ' τ' l ck=>match (match ag,ag' with|true,true=>true|false,false=>true|_,_=>false),Mm κ' κ τ' τ l with
  |true,some l'=>some (l',ck)
  |_,_=>none
 |_,_=>none
theorem HB.eq {h:HB} {a:AB} {v:h.V} (e:h.sh a=some v):a=h.st v:=by
 unfold HB.sh at e;split at e
 ·rw[HB.st,<-HL.eq e]
 ·obtain⟨rfl,h⟩:=ei e;simp at h;subst h;rfl
 ·split at e
  ·rename_i hf hx hy
   cases e;rw[HB.st,<-HL.eq hx,<-HL.eq hy,Nat.eq_of_beq_eq_true hf]
  ·simp at e
 ·cases e;rfl
 ·split at e
  ·rename_i hx
   cases e;rw[HB.st,<-HA.eq hx]
  ·simp at e
 ·split at e
  ·rename_i hp hn hf
   obtain⟨h1,h2⟩:=Dm hf;rw[HB.st,<-HR.eq e,Nat.eq_of_beq_eq_true hn,h1,h2];split at hp<;>first|rfl|cases hp
  ·simp at e
 ·split at e
  ·rename_i hp hl
   cases e;rw[HB.st,K8 hl];split at hp<;>first|rfl|cases hp
  ·simp at e
 ·simp at e
@[reducible] def HM.V:List (Nat×HB)->Type
 | [] =>Unit
 |h::l=>h.2.V×HM.V l
def HM.st:(l:List (Nat×HB))->HM.V l->Mem
 | [],_=> []
 |h::l,v=>(h.1,h.2.st v.1)::HM.st l v.2
def HM.sh:(l:List (Nat×HB))->Mem->Option (HM.V l)
 | [], [] =>some ()
 |h::l,a::r=>match Nat.beq h.1 a.1,h.2.sh a.2,HM.sh l r with
  |true,some x,some y=>some (x,y)
  |_,_,_=>none
 |_,_=>none
theorem HM.eq:∀{l:List (Nat×HB)} {r:Mem} {v:HM.V l},HM.sh l r=some v->r=HM.st l v
 | [], [],_,_=>rfl
 | [],_::_,_,e=>by simp [HM.sh] at e
 |_::_, [],_,e=>by simp [HM.sh] at e
 |h::l,a::r,v,e=>by
  simp only[HM.sh] at e;split at e
  ·rename_i x y hk hx hy
   cases e;simp only[HM.st];rw[<-HB.eq hx,<-HM.eq hy,Nat.eq_of_beq_eq_true hk]
  ·simp at e
structure HS where
 az:List (Nat×HV)
 mem:List (Nat×HB)
 nx:Nat
abbrev HS.V (h:HS):Type:=HR.V h.az×HM.V h.mem
def HS.st (h:HS) (v:h.V):St:={az:=HR.st h.az v.1,mem:=HM.st h.mem v.2,nx:=h.nx}
def HS.sh (h:HS) (σ:St):Option h.V:=
 match HR.sh h.az σ.az,HM.sh h.mem σ.mem,Nat.beq h.nx σ.nx with
 |some x,some y,true=>some (x,y)
 |_,_,_=>none
theorem HS.eq {h:HS} {σ:St} {v:h.V} (e:h.sh σ=some v):σ=h.st v:=by
 unfold HS.sh at e;split at e
 ·rename_i x y hx hy hn
  cases e;unfold HS.st;rw[<-HR.eq hx,<-HM.eq hy,Nat.eq_of_beq_eq_true hn]
 ·simp at e
noncomputable def bx:Nat:=Classical.choose (⟨1099511627776,Nat.le_refl _⟩:∃n:Nat,1099511627776<=n)
theorem ur:1099511627776<=bx:=Classical.choose_spec (⟨1099511627776,Nat.le_refl _⟩:∃n:Nat,1099511627776<=n)
section
variable {R:Type} {H:Hnd R} {c:Cfg} {lp:List (Nat×Hd R)} {b:Code}
noncomputable def bw (h:HS) (l:Nat->h.V->(Ex->St->Option R)->Option R):Hd R:=λσ K=>aj (h.sh σ) λv=>l bx v K
theorem aN (h:HS) (l:Nat->h.V->(Ex->St->Option R)->Option R) (h0:∀v K,l 0 v K=none) (h1:∀q v K,l (q+1) v K=run H c lp b (h.st v) λe σ'=>match e with
 | .normal=>mi (look (bl b) c.loops) σ' λσ''=>aj (h.sh σ'') λv=>l q v K
 | .exit i=>K (.exit i) σ'
 | .goto l=>K (.goto l) σ'
 | .ret=>K .ret σ'):br H c lp b h.V h.st h.sh l (bw h l):=
 ⟨⟨bx,λ_ _=>rfl⟩,λ_ _ e=>HS.eq e,h0,h1⟩
def tC (H:Hnd R) (c:Cfg) (lp:List (Nat×Hd R)):List Code->Prop
 | [] =>True
 |b::l=>(match look (bl b) lp with
  |none=>True
  |some h=>∃V st sh l,br H c lp b V st sh l h)/\tC H c lp l
theorem Al:∀{l:List Code},tC H c lp l->∀b,b∈l->∀h,look (bl b) lp=some h->∃V st sh l,br H c lp b V st sh l h
 | [],_,b,hb,_,_=>by simp at hb
 |x::l,hl,b,hb,h,hh=>by
  simp only[List.mem_cons] at hb;rcases hb with rfl|hb
  ·have:=hl.1
   rw[hh] at this;exact this
  ·exact Al hl.2 b hb h hh
theorem aA {code:Code} {l:List Code} (e:ef code=l) (h:tC H c lp l):aI H c lp code:=by
 subst e;exact Al h
variable {P:Program} [aD P]
theorem aR (P:Program) [aD P] (d:Nat):bt P (R:=R) d [] :=by
 cases d with
 |zero=>trivial
 |succ d=>exact⟨λt fid cfg lp body res subs' h=>by simp [look] at h,λt fid rid cfg lp ps assign body subs' h=>by simp [look] at h⟩
theorem bh {code:Code} (h:fo code= []):fe P c code:=λ_ x hx=>by rw[h] at hx;cases hx
theorem MN {code:Code} {x:Array Tmp×Code×Code} (h:fo code=[x]) (h2:zJ P c.fid (bl x.2.2)=some x):fe P c code:=λ_ y hy=>by
 rw[h] at hy;rcases List.mem_singleton.1 hy with rfl;exact h2
theorem kZ {α:Type 1} {i n:Nat} {x:α} {l:List (Nat×α)}:look n ((i,x)::l)=if i=n then some x else look n l:=by
 simp only[look];split
 ·rename_i h;rw[if_pos (Nat.eq_of_beq_eq_true h)]
 ·rename_i h;rw[if_neg (λe=>by subst e;simp at h)]
theorem xu {d t fid:Nat} {cfg:Cfg} {lp:List (Nat×Hd R)} {body:Code} {res:List ResultVar} {subs' l:List (Nat×Inl R)} {fn:Func} (h1:P.funcs[fid]? =some fn) (h2:(fn.name== "runtime.NumGoroutine")=false) (h3:fn.body=some body) (h4:cfg.N=fn.ntmps) (h5:fn.results.toList=res)
 (C:aE P cfg) (hl:aI (hnd d subs') cfg lp body) (hrg:fe P cfg body) (hs:bt P d subs') (h:bt P (d+1) l):bt P (d+1) ((t, .mk fid cfg lp body res subs')::l):=by
 refine⟨λt' fid' cfg' lp' body' res' subs'' hlk=> ?_,λt' fid' rid' cfg' lp' ps' assign' body' subs'' hlk=> ?_⟩
 ·rw[kZ] at hlk
  split at hlk
  ·cases hlk
   exact⟨⟨fn,h1,h2,h3,h4,h5⟩,C,hl,hrg,hs⟩
  ·exact h.1 t' fid' cfg' lp' body' res' subs'' hlk
 ·rw[kZ] at hlk
  split at hlk
  ·cases hlk
  ·exact h.2 t' fid' rid' cfg' lp' ps' assign' body' subs'' hlk
theorem mO {d t fid rid:Nat} {cfg:Cfg} {lp:List (Nat×Hd R)} {ps:List Nat} {assign body:Code} {subs' l:List (Nat×Inl R)} (h1:zJ P fid rid=some (ps.toArray,assign,body))
 (C:aE P cfg) (hla:aI (hnd d subs') cfg lp assign) (hlb:aI (hnd d subs') cfg lp body) (hs:bt P d subs') (h:bt P (d+1) l):bt P (d+1) ((t, .rnd fid rid cfg lp ps assign body subs')::l):=by
 refine⟨λt' fid' cfg' lp' body' res' subs'' hlk=> ?_,λt' fid' rid' cfg' lp' ps' assign' body' subs'' hlk=> ?_⟩
 ·rw[kZ] at hlk
  split at hlk
  ·cases hlk
  ·exact h.1 t' fid' cfg' lp' body' res' subs'' hlk
 ·rw[kZ] at hlk
  split at hlk
  ·cases hlk
   exact⟨h1,C,hla,hlb,hs⟩
  ·exact h.2 t' fid' rid' cfg' lp' ps' assign' body' subs'' hlk
end
@[reducible] def HP.V:List HV->Type
 | [] =>Unit
 |h::l=>h.V×HP.V l
def HP.st:(l:List HV)->HP.V l->List AV
 | [],_=> []
 |h::l,v=>h.st v.1::HP.st l v.2
def HP.sh:(l:List HV)->List AV->Option (HP.V l)
 | [], [] =>some ()
 |h::l,a::r=>match h.sh a,HP.sh l r with
  |some x,some y=>some (x,y)
  |_,_=>none
 |_,_=>none
theorem HP.eq:∀{l:List HV} {r:List AV} {v:HP.V l},HP.sh l r=some v->r=HP.st l v
 | [], [],_,_=>rfl
 | [],_::_,_,e=>by simp [HP.sh] at e
 |_::_, [],_,e=>by simp [HP.sh] at e
 |h::l,a::r,v,e=>by
  simp only[HP.sh] at e;split at e
  ·rename_i x y hx hy
   cases e;simp only[HP.st];rw[<-HV.eq hx,<-HP.eq hy]
  ·simp at e
theorem HP.len:∀{l:List HV} {v:HP.V l},(HP.st l v).length=l.length
 | [],_=>rfl
 |h::l,v=>by simp [HP.st,HP.len]
def T4:AV->V1
 | .v x=>x
 |_=> .agg []
@[reducible] def HX.V:List HV->Type
 | [] =>Unit
 |[h]=>h.V
 |h::l=>h.V×HX.V l
def HX.stL:(l:List HV)->HX.V l->List V1
 | [],_=> []
 |[h],v=>[T4 (h.st v)]
 |h::h2::l,v=>T4 (h.st v.1)::HX.stL (h2::l) v.2
def HX.st:(l:List HV)->HX.V l->AV
 | [],_=> .tup []
 |[h],v=>h.st v
 |h::h2::l,v=> .tup (HX.stL (h::h2::l) v)
def HX.shL:(l:List HV)->List V1->Option (HX.V l)
 | [], [] =>some ()
 |[h],[a]=>h.sh (.v a)
 |h::h2::l,a::r=>match h.sh (.v a),HX.shL (h2::l) r with
  |some x,some y=>some (x,y)
  |_,_=>none
 |_,_=>none
def HX.sh:(l:List HV)->AV->Option (HX.V l)
 | [], .tup [] =>some ()
 |[h],a=>h.sh a
 |h::h2::l, .tup r=>HX.shL (h::h2::l) r
 |_,_=>none
theorem HV.v1 {h:HV} {a:V1} {v:h.V} (e:h.sh (.v a)=some v):T4 (h.st v)=a:=by rw[<-HV.eq e];rfl
theorem HX.eqL:∀{l:List HV} {r:List V1} {v:HX.V l},HX.shL l r=some v->r=HX.stL l v
 | [], [],_,_=>rfl
 | [],_::_,_,e=>by simp [HX.shL] at e
 |[h], [],_,e=>by simp [HX.shL] at e
 |[h],[a],v,e=>by simp only[HX.shL] at e;simp only[HX.stL];rw[HV.v1 e]
 |[h],_::_::_,_,e=>by simp [HX.shL] at e
 |_::_::_, [],_,e=>by simp [HX.shL] at e
 |h::h2::l,a::r,v,e=>by
  simp only[HX.shL] at e;split at e
  ·rename_i x y hx hy
   cases e;simp only[HX.stL];rw[HV.v1 hx,<-HX.eqL hy]
  ·simp at e
theorem HX.eq {l:List HV} {a:AV} {v:HX.V l} (e:HX.sh l a=some v):a=HX.st l v:=by
 unfold HX.sh at e;split at e
 ·rfl
 ·simp only[HX.st];exact HV.eq e
 ·simp only[HX.st];rw[<-HX.eqL e]
 ·simp at e
def aL {X Y:Type} (hp hx:List HV) (toX:HP.V hp->X) (ofY:Y->HX.V hx) (f:X->Option Y):Spec where
 X:=X
 Y:=Y
 pat:=λl=>match HP.sh hp l with|some v=>some (toX v) |none=>none
 f:=f
 enc:=λy=>HX.st hx (ofY y)
def D2 {Y:Type} (hx:List HV) (toY:HX.V hx->Y):AV->Option Y:=λa=>match HX.sh hx a with|some v=>some (toY v) |none=>none
theorem Cn {P:Program} [aD P] {fid:Nat} {fn:Func} {body:Code} {c:Cfg} {X Y:Type} {hp hx:List HV} {toX:HP.V hp->X} {ofY:Y->HX.V hx} {toY:HX.V hx->Y} {f:X->Option Y}
 (hf:P.funcs[fid]? =some fn) (hn:(fn.name== "runtime.NumGoroutine")=false) (hb:fn.body=some body) (C:aE P c) (hN:c.N=fn.ntmps) (hoff:Nat.ble fn.ntmps OFF=true) (hm:P.follows .mixedOrders=true)
 (hle:Nat.ble hp.length fn.ntmps=true) (hty:∀v,ofY (toY v)=v) {d:Nat} {il:List (Nat×Inl Y)} (hsub:bt P d il) {lp:List (Nat×Hd Y)} (hl:aI (hnd d il) c lp body) (hrg:fe P c body)
 (hrun:∀v,D3 (hnd d il) c lp body fn.results.toList (HP.st hp v) (D2 hx toY)=f (toX v)):aK P fid (aL hp hx toX ofY f):=by
 refine JU (s:=aL hp hx toX ofY f) (dec:=D2 hx toY) hf hn hb C hN (Nat.le_of_ble_eq_true hoff) hm (λx y h=> ?_) (λargs x h=> ?_) hsub hl hrg (λargs x y h h'=> ?_)
 ·unfold D2 at h
  split at h
  ·rename_i v hv
   cases h;show x=HX.st hx (ofY (toY v));rw[hty,<-HX.eq hv]
  ·cases h
 ·simp only[aL] at h
  split at h
  ·rename_i v hv
   rw[HP.eq hv,HP.len];exact Nat.le_of_ble_eq_true hle
  ·cases h
 ·simp only[aL] at h h'
  split at h
  ·rename_i v hv
   cases h;rw[HP.eq hv];exact(hrun v).trans h'
  ·cases h
def AD (τ:Ty):AB->Option (List τ.T)
 | .row τ' l=>dV τ' τ l
 |_=>none
theorem wA {τ:Ty}:∀x y,AD τ x=some y->x= .row τ y:=by
 intro x y h;cases x<;>simp only[AD,reduceCtorEq] at h
 obtain⟨e,h⟩:=ei h;subst e;cases h;rfl
def GG:AB->Option (List (Int×Nat×Nat)×Nat)
 | .map false .int .fn l ck=>some (l,ck)
 |_=>none
def Li (y:List (Int×Nat×Nat)×Nat):AB:= .map false .int .fn y.1 y.2
theorem KJ:∀x y,GG x=some y->x=Li y:=by
 intro x y h;unfold GG at h;split at h
 ·cases h;rfl
 ·cases h
def mQ {X Y:Type} (hp:List HV) (toX:HP.V hp->X) (enc:Y->AB) (f:X->Option Y):kx where
 X:=X
 Y:=Y
 pat:=λl=>match HP.sh hp l with|some v=>some (toX v) |none=>none
 g:=f
 enc:=enc
theorem p8 {P:Program} [aD P] {fid:Nat} {fn:Func} {body:Code} {c:Cfg} {X Y:Type} {hp:List HV} {toX:HP.V hp->X} {enc:Y->AB} {dec:AB->Option Y} {f:X->Option Y}
 (hf:P.funcs[fid]? =some fn) (hn:(fn.name== "runtime.NumGoroutine")=false) (hb:fn.body=some body) (C:aE P c) (hN:c.N=fn.ntmps) (hoff:Nat.ble fn.ntmps OFF=true) (hm:P.follows .mixedOrders=true)
 (hle:Nat.ble hp.length fn.ntmps=true) (hdec:∀x y,dec x=some y->x=enc y) {d:Nat} {il:List (Nat×Inl Y)} (hsub:bt P d il) {lp:List (Nat×Hd Y)} (hl:aI (hnd d il) c lp body) (hrg:fe P c body)
 (hrun:∀v,zX (hnd d il) c lp body fn.results.toList (HP.st hp v) dec=f (toX v)):mL P fid (mQ hp toX enc f):=by
 refine Gy (s:=mQ hp toX enc f) (enc:=enc) (dec:=dec) hf hn hb C hN (Nat.le_of_ble_eq_true hoff) hm hdec (λargs x h=> ?_) hsub hl hrg (λargs x ab h h'=> ?_)
 ·simp only[mQ] at h
  split at h
  ·rename_i v hv
   rw[HP.eq hv,HP.len];exact Nat.le_of_ble_eq_true hle
  ·cases h
 ·simp only[mQ] at h
  split at h
  ·rename_i v hv
   cases h;rw[HP.eq hv];unfold kx.f at h';simp only[mQ] at h';split at h'
   ·rename_i y hy
    cases h';exact⟨y,rfl,(hrun v).trans hy⟩
   ·cases h'
  ·cases h
def HF (P:Program) [aD P]:List (Nat×kx)->Prop
 | [] =>True
 |x::l=>mL P x.1 x.2/\HF P l
theorem Ck {P:Program} [aD P]:∀{l:List (Nat×kx)},HF P l->∀f s,look f l=some s->mL P f s
 | [],_,f,s,h=>by simp [look] at h
 |x::l,hl,f,s,h=>by
  obtain⟨i,y⟩:=x;rw[kZ] at h;split at h
  ·rename_i e;cases h;subst e;exact hl.1
  ·exact Ck hl.2 f s h
def DR (P:Program) [aD P]:List (Nat×Spec)->Prop
 | [] =>True
 |x::l=>aK P x.1 x.2/\DR P l
theorem wH {P:Program} [aD P]:∀{l:List (Nat×Spec)},DR P l->∀f s,look f l=some s->aK P f s
 | [],_,f,s,h=>by simp [look] at h
 |x::l,hl,f,s,h=>by
  obtain⟨i,y⟩:=x;rw[kZ] at h;split at h
  ·rename_i e;cases h;subst e;exact hl.1
  ·exact wH hl.2 f s h
structure Fs where
 ay:Int
 aB:Int
 next:Int
 aa:List ao
structure au where
 dir:Int
 name:Str
 ino:Int
structure Pth where
 abs:Bool
 names:List Str
 ik:Bool
structure du where
 kept:List Kept
 aO:List ao
structure aq where
 fs:Fs
 al:du
def sub:List Nat->Code->Code
 | [],c=>c
 |0::l, .seq a _=>sub l a
 |1::l, .seq _ b=>sub l b
 |_::l, .block _ b=>sub l b
 |_::l, .loop b=>sub l b
 |_::l, .scope b=>sub l b
 |0::l, .cond _ a _=>sub l a
 |1::l, .cond _ _ b=>sub l b
 |_::_,c=>c
def qa (rid:Nat) (c:Code):Array Tmp×Code×Code:=match s_ rid c with|some x=>x|none=>(#[], .skip, .skip)
section
variable {R:Type} {H:Hnd R} {c:Cfg} {lp:List (Nat×Hd R)}
theorem aG {b:Code} {rid:Nat} {l:List Code} {h:Hd R} {V:Type} {st:V->St} {sh:St->Option V} {f:Nat->V->(Ex->St->Option R)->Option R} (e1:bl b=rid) (e2:look rid lp=some h) (L:br H c lp b V st sh f h) (t:tC H c lp l):tC H c lp (b::l):=by
 refine⟨?_,t⟩;rw[e1,e2];exact⟨V,st,sh,f,L⟩
theorem jF {b:Code} {rid:Nat} {l:List Code} (e1:bl b=rid) (e2:look rid lp=none) (t:tC H c lp l):tC H c lp (b::l):=by
 refine⟨?_,t⟩;rw[e1,e2];trivial
end
theorem Hc {P:Program} [aD P] {c:Cfg} (h:c.aW=aD.G P):Dk P c:=λq τ l hl=>by rw[<-h];exact hl
theorem LM {P:Program} {c:Cfg} (h:c.eqs.all (λx=>eqB P x.1 x.2)=true):IW P c:=λt es hl=>List.all_eq_true.1 h _ (yX hl)
def U5 (P:Program):List Nat->Prop
 | [] =>True
 |x::l=>xH P x/\U5 P l
theorem I1 {P:Program}:∀{l:List Nat},U5 P l->∀f,vf f l=true->xH P f
 | [],_,f,h=>by simp [vf] at h
 |x::l,hl,f,h=>by
  unfold vf at h;split at h
  ·rename_i e;have:=Nat.eq_of_beq_eq_true e;subst this;exact hl.1
  ·exact I1 hl.2 f h
noncomputable def Cy {α R:Type} (l:List α) (x y:Option R):Option R:=ah (List.isEmpty l) (both x y) y
noncomputable def bd (f:Func):Code:=match f.body with|some b=>b|none=> .skip
def hFs:List HA:=[.int .i64, .int .i64, .int .i64, .sl .aM]
def hIn:List HA:=[.int .i64, .int .i64, .int .i64, .str, .int .i64, .sl .entry]
def hW:List HA:=[.int .i64, .int .i64, .int .i64, .sl .aM, .sl .kept, .sl .aM]
def cFs (v:Int×Int×Int×List ao×Unit):Fs:=⟨v.1,v.2.1,v.2.2.1,v.2.2.2.1⟩
def cW (v:Int×Int×Int×List ao×List Kept×List ao×Unit):aq:=⟨⟨v.1,v.2.1,v.2.2.1,v.2.2.2.1⟩,⟨v.2.2.2.2.1,v.2.2.2.2.2.1⟩⟩
def uW (y:aq):Int×Int×Int×List ao×List Kept×List ao×Unit:=(y.fs.ay,y.fs.aB,y.fs.next,y.fs.aa,y.al.kept,y.al.aO,())
def uFs (y:Fs):Int×Int×Int×List ao×Unit:=(y.ay,y.aB,y.next,y.aa,())
def uIn (y:ao):Int×Int×Int×Str×Int×List Entry×Unit:=(y.ino,y.kind,y.aH,y.data,y.parent,y.entries,())
def cIn (v:Int×Int×Int×Str×Int×List Entry×Unit):ao:=⟨v.1,v.2.1,v.2.2.1,v.2.2.2.1,v.2.2.2.2.1,v.2.2.2.2.2.1⟩
def rFs (x:Fs):List At:=[.int .i64 x.ay, .int .i64 x.aB, .int .i64 x.next, .sl .aM x.aa]
def rIn (x:ao):List At:=[.int .i64 x.ino, .int .i64 x.kind, .int .i64 x.aH, .str x.data, .int .i64 x.parent, .sl .entry x.entries]
theorem aX {P:Program} [aD P] {T:List (Nat×TI)} {E:List (Nat×List EK)} (ts:(T.all λx=>tiB P x.1 x.2)=true) (eq:(E.all λx=>eqB P x.1 x.2)=true) {c:Cfg} (sp:DR P c.spec) (ov:U5 P c.ovl:=by exact trivial) (fr:HF P c.fresh:=by exact trivial) (gn:DR P c.gns:=by exact trivial) (h1:c.T=T:=by rfl) (h2:c.eqs=E:=by rfl) (h3:c.aW=aD.G P:=by rfl):aE P c:=
 ⟨Rg (by rw[h1];exact ts),wH sp,LM (by rw[h2];exact eq),I1 ov,Hc h3,Ck fr,wH gn⟩
section
variable {P:Program} [aD P] {fid:Nat} (fn:Func) {body:Code} {c:Cfg} {X Y:Type} {hp hx:List HV} {toX:HP.V hp->X} {ofY:Y->HX.V hx} {toY:HX.V hx->Y} {f:X->Option Y}
theorem aY (C:aE P c) (hm:P.follows .mixedOrders=true) {d:Nat} {il:List (Nat×Inl Y)} (hsub:bt P d il) {lp:List (Nat×Hd Y)} (hl:aI (hnd d il) c lp body) (hrg:fe P c body)
 (hrun:∀v,D3 (hnd d il) c lp body fn.results.toList (HP.st hp v) (D2 hx toY)=f (toX v):=by intro v;kernel_rfl)
 (hf:P.funcs[fid]? =some fn:=by kernel_rfl) (hn:(fn.name== "runtime.NumGoroutine")=false:=by kernel_rfl) (hb:fn.body=some body:=by kernel_rfl) (hN:c.N=fn.ntmps:=by kernel_rfl) (hoff:Nat.ble fn.ntmps OFF=true:=by kernel_rfl) (hle:Nat.ble hp.length fn.ntmps=true:=by kernel_rfl) (hty:∀v,ofY (toY v)=v:=by intro v;rfl):aK P fid (aL hp hx toX ofY f):=
 Cn hf hn hb C hN hoff hm hle hty hsub hl hrg hrun
theorem aZ (C:aE P c) (hm:P.follows .mixedOrders=true) (hrun:∀v,D3 (hnd 0 []) c [] (bd fn) fn.results.toList (HP.st hp v) (D2 hx toY)=f (toX v):=by intro v;kernel_rfl)
 (hf:P.funcs[fid]? =some fn:=by kernel_rfl) (hn:(fn.name== "runtime.NumGoroutine")=false:=by kernel_rfl) (hb:fn.body=some (bd fn):=by kernel_rfl) (hN:c.N=fn.ntmps:=by kernel_rfl) (hoff:Nat.ble fn.ntmps OFF=true:=by kernel_rfl) (hle:Nat.ble hp.length fn.ntmps=true:=by kernel_rfl) (hty:∀v,ofY (toY v)=v:=by intro v;rfl)
 (h1:ef (bd fn)= [] :=by kernel_rfl) (h2:fo (bd fn)= [] :=by kernel_rfl):aK P fid (aL hp hx toX ofY f):=
 Cn (il:= []) (lp:= []) hf hn hb C hN hoff hm hle hty (aR P 0) (aA (l:= []) h1 trivial) (bh h2) hrun
end
section
variable {P:Program} [aD P] {R:Type} {d t fid:Nat} {cfg:Cfg} {lp:List (Nat×Hd R)} {body:Code} {res:List ResultVar} {subs' l:List (Nat×Inl R)} (fn:Func)
theorem bJ (C:aE P cfg) (hl:aI (hnd d subs') cfg lp body) (hrg:fe P cfg body) (hs:bt P d subs') (h:bt P (d+1) l)
 (h1:P.funcs[fid]? =some fn:=by kernel_rfl) (h2:(fn.name== "runtime.NumGoroutine")=false:=by kernel_rfl) (h3:fn.body=some body:=by kernel_rfl) (h4:cfg.N=fn.ntmps:=by kernel_rfl) (h5:fn.results.toList=res:=by kernel_rfl):bt P (d+1) ((t, .mk fid cfg lp body res subs')::l):=
 xu h1 h2 h3 h4 h5 C hl hrg hs h
theorem bQ (C:aE P cfg) (h:bt P (d+1) l)
 (h1:P.funcs[fid]? =some fn:=by kernel_rfl) (h2:(fn.name== "runtime.NumGoroutine")=false:=by kernel_rfl) (h3:fn.body=some body:=by kernel_rfl) (h4:cfg.N=fn.ntmps:=by kernel_rfl) (h5:fn.results.toList=res:=by kernel_rfl)
 (h6:ef body= [] :=by kernel_rfl) (h7:fo body= [] :=by kernel_rfl):bt P (d+1) ((t, .mk fid cfg [] body res [])::l):=
 xu h1 h2 h3 h4 h5 C (aA (l:= []) h6 trivial) (bh h7) (aR P d) h
end
def wfI (n:Int):Prop:=(Lit.int .i64 n).wf=true
def Entry.ok (N:Nat) (x:Entry):Prop:=x.name.length<=N/\wfI x.ino
def ao.ok (N:Nat) (x:ao):Prop:=wfI x.ino/\wfI x.kind/\wfI x.aH/\x.data.length<=N/\wfI x.parent/\x.entries.length<=N/\∀e∈x.entries,e.ok N
def Ty.ok (N:Nat):(τ:Ty)->τ.T->Prop
 | .int,(x:Int)=>wfI x
 | .byte,_=>True
 | .str,(s:Str)=>s.length<=N
 | .entry,(x:Entry)=>x.ok N
 | .aM,(x:ao)=>x.ok N
 | .seen,(x:Seen)=>x.path.length<=N/\wfI x.ino
 | .kept,(x:Kept)=>wfI x.slot/\wfI x.ino/\x.data.length<=N
 | .opn,(x:Opn)=>wfI x.kind/\wfI x.slot/\x.a.length<=N/\x.b.length<=N/\x.data.length<=N
 | .ze,(x:QI)=>wfI x.op/\x.a.length<=N/\x.b.length<=N/\x.data.length<=N
 | .shp,(x:Shp)=>x.path.length<=N/\wfI x.kind/\x.data.length<=N/\wfI x.first
 | .yU,_=>True
 | .bool,_=>True
 | .fn,_=>True
 | .parts,_=>True
 | .strs,_=>True
def HA.ok (N:Nat):(h:HA)->h.V->Prop
 | .int k,n=>(Lit.int k n).wf=true
 | .str,s=>s.length<=N
 | .sl τ,l=>l.length<=N/\∀x∈l,τ.ok N x
 |_,_=>True
def HL.ok (N:Nat):(l:List HA)->HL.V l->Prop
 | [],_=>True
 |h::l,v=>h.ok N v.1/\HL.ok N l v.2
def Ty.hl:Ty->List HA
 | .int=>[.int .i64]
 | .byte=>[.int .u8]
 | .str=>[.str]
 | .entry=>[.str, .int .i64]
 | .aM=>[.int .i64, .int .i64, .int .i64, .str, .int .i64, .sl .entry]
 | .seen=>[.str, .int .i64]
 | .kept=>[.int .i64, .int .i64, .bool, .str]
 | .opn=>[.int .i64, .int .i64, .str, .str, .str]
 | .ze=>[.int .i64, .str, .str, .str]
 | .shp=>[.str, .int .i64, .str, .int .i64]
 | .yU=> []
 | .bool=> []
 | .fn=> []
 | .parts=> []
 | .strs=> []
theorem wf_u8 {n:Int} (h:(Lit.int .u8 n).wf=true):0<=n/\n<256:=by
 simp [Lit.wf,IntKind.min,IntKind.max,IntKind.signed,IntKind.bits] at h;omega
theorem Ty.Vj {N:Nat}:∀(τ:Ty) (v:HL.V τ.hl),τ.hl≠ [] ->HL.ok N τ.hl v->∃x:τ.T,τ.enc x=HL.st τ.hl v/\τ.ok N x
 | .int,v,_,h=>⟨v.1,rfl,h.1⟩
 | .byte,v,_,h=>by
  obtain⟨h1,h2⟩:=wf_u8 h.1;refine⟨(UInt8.ofNat v.1.toNat:UInt8), ?_,trivial⟩;show[At.int .u8 ((UInt8.ofNat v.1.toNat).toNat:Nat)]=[At.int .u8 v.1];congr 2;rw[UInt8.toNat_ofNat'];omega
 | .str,v,_,h=>⟨v.1,rfl,h.1⟩
 | .entry,v,_,h=>⟨(⟨v.1,v.2.1⟩:Entry),rfl,h.1,h.2.1⟩
 | .aM,v,_,h=>⟨(⟨v.1,v.2.1,v.2.2.1,v.2.2.2.1,v.2.2.2.2.1,v.2.2.2.2.2.1⟩:ao),rfl,h.1,h.2.1,h.2.2.1,h.2.2.2.1,h.2.2.2.2.1,h.2.2.2.2.2.1.1,h.2.2.2.2.2.1.2⟩
 | .seen,v,_,h=>⟨(⟨v.1,v.2.1⟩:Seen),rfl,h.1,h.2.1⟩
 | .kept,v,_,h=>⟨(⟨v.1,v.2.1,v.2.2.1,v.2.2.2.1⟩:Kept),rfl,h.1,h.2.1,h.2.2.2.1⟩
 | .opn,v,_,h=>⟨(⟨v.1,v.2.1,v.2.2.1,v.2.2.2.1,v.2.2.2.2.1⟩:Opn),rfl,h.1,h.2.1,h.2.2.1,h.2.2.2.1,h.2.2.2.2.1⟩
 | .ze,v,_,h=>⟨(⟨v.1,v.2.1,v.2.2.1,v.2.2.2.1⟩:QI),rfl,h.1,h.2.1,h.2.2.1,h.2.2.2.1⟩
 | .shp,v,_,h=>⟨(⟨v.1,v.2.1,v.2.2.1,v.2.2.2.1⟩:Shp),rfl,h.1,h.2.1,h.2.2.1,h.2.2.2.1⟩
 | .yU,_,h,_=>absurd rfl h
 | .bool,_,h,_=>absurd rfl h
 | .fn,_,h,_=>absurd rfl h
 | .parts,_,h,_=>absurd rfl h
 | .strs,_,h,_=>absurd rfl h
def Fx (cell:TypeId->Nat) (rec:TypeId->List HA->Bool):List Field->Nat->List HA->Bool
 | [],_,hl=>hl.isEmpty
 |f::fs,off,hl=>Nat.beq f.offset off&&(Nat.ble (cell f.type) hl.length&&(rec f.type (hl.take (cell f.type))&&Fx cell rec fs (off+cell f.type) (hl.drop (cell f.type))))
def w9 (P:Program):Nat->TypeId->List HA->Bool
 |0,_,_=>false
 |n+1,t,hl=>
  match P.underlying t with
  |some (.int k)=>match hl with|[.int k']=>xX k k'|_=>false
  |some .bool=>match hl with|[.bool]=>true|_=>false
  |some .string=>match hl with|[.str]=>true|_=>false
  |some (.slice e)=>match hl with|[.sl τ]=>Nat.beq (P.cellsOf e) τ.n&&(!τ.hl.isEmpty&&w9 P n e τ.hl) |_=>false
  |some (.struct fs)=>Nat.beq (P.cellsOf t) hl.length&&Fx P.cellsOf (w9 P n) fs.toList 0 hl
  |_=>false
structure mb {H:Type} (b:DataW H->Nat):Prop where
 str:∀l,l.length<=b (.lit (.string l))
 len:∀es sp,es.length<=b (.slice es sp)
 elem:∀es sp,∀e∈es,b e<=b (.slice es sp)
 part:∀ps,∀p∈ps,b p<=b (.agg ps)
def g0 (w:World):Gh:=⟨λk=>k<w.heap.size,λ_=>none⟩
theorem HL.join {N:Nat}:∀(k:Nat) {l:List HA} (a:HL.V (l.take k)) (b:HL.V (l.drop k)),HL.ok N _ a->HL.ok N _ b->∃v:HL.V l,HL.st l v=HL.st _ a++HL.st _ b/\HL.ok N l v
 |0,l,a,b,_,hb=>⟨b,by cases l<;>rfl,hb⟩
 |k+1, [],a,b,_,_=>⟨(),rfl,trivial⟩
 |k+1,h::l,a,b,ha,hb=>by
  obtain⟨v,e,hv⟩:=HL.join k (l:=l) a.2 b ha.2 hb;exact⟨(a.1,v),by simp only[HL.st,e,List.take_succ_cons,List.cons_append];rfl,ha.1,hv⟩
section
variable {P:Program} {H:Type} {enc:TypeId×Value->H} {w:World} {b:DataW H->Nat} {N:Nat}
theorem B_ (cell:TypeId->Nat) (rec:TypeId->List HA->Bool) {cs:List Value} {tr:TypeId->List Value->Option (DataW H×List MemPlace)}
 (ih:∀t hl cs d ps,rec t hl=true->tr t cs=some (d,ps)->b d<=N->∃v:HL.V hl,bR (VA (g0 w) w) (HL.st hl v) cs/\HL.ok N hl v):
 ∀(fs:List Field) (off:Nat) (hl:List HA) (xs:List (DataW H×List MemPlace)),Fx cell rec fs off hl=true->cs.length=off+hl.length->xs.length=fs.length->
  (∀(i:Nat) (f:Field),fs[i]? =some f->tr f.type ((cs.drop f.offset).take (cell f.type))=xs[i]?)->(∀x∈xs,b x.1<=N)->
  ∃v:HL.V hl,bR (VA (g0 w) w) (HL.st hl v) (cs.drop off)/\HL.ok N hl v
 | [],off,hl,xs,h,hc,_,_,_=>by
  have h:hl= [] :=by simpa [Fx] using h
  subst h;refine⟨(), ?_,trivial⟩;rw[List.drop_eq_nil_of_le (by simp at hc;omega)];exact .nil
 |f::fs,off,hl,xs,h,hc,hxl,hx,hb=>by
  unfold Fx at h;simp only[Bool.and_eq_true] at h;obtain⟨h1,h2,h3,h4⟩:=h;have h1:=Nat.eq_of_beq_eq_true h1;have h2:=Nat.le_of_ble_eq_true h2;cases xs with
  |nil=>simp at hxl
  |cons x xs=>
   have hx0:=hx 0 f rfl;simp only[List.getElem?_cons_zero] at hx0;rw[h1] at hx0;obtain⟨va,ha,hoa⟩:=ih _ _ _ x.1 x.2 h3 hx0 (hb x (by simp));obtain⟨vb,hb',hob⟩:=B_ (cs:=cs) cell rec ih fs (off+cell f.type) _ xs h4 (by rw[List.length_drop];omega) (by simpa using hxl) (λi f' hf'=>by simpa using hx (i+1) f' (by simpa using hf')) (λy hy=>hb y (by simp [hy]));obtain⟨v,e,hv⟩:=HL.join (cell f.type) va vb hoa hob;refine⟨v, ?_,hv⟩;rw[e];have e2:cs.drop off=(cs.drop off).take (cell f.type)++cs.drop (off+cell f.type):=by rw[<-List.drop_drop,List.take_append_drop]
   rw[e2];exact ha.append hb'
theorem yq (B:mb b):∀(n fuel:Nat) (t:TypeId) (hl:List HA) (cs:List Value) (d:DataW H) (ps:List MemPlace),w9 P n t hl=true->DataW.trod enc P w 0 (λ_=>true) true fuel t cs=some (d,ps)->b d<=N->
 ∃v:HL.V hl,bR (VA (g0 w) w) (HL.st hl v) cs/\HL.ok N hl v
 |0,fuel,t,hl,cs,d,ps,h,_,_=>by simp [w9] at h
 |n+1,fuel,t,hl,cs,d,ps,h,ht,hN=>by
  unfold w9 at h;split at h
  ·rename_i k hu
   split at h
   ·rename_i k'
    obtain⟨q,rfl,e,hw⟩:=DataW.trod_int hu ht;have:=CA h;subst this;exact⟨(q,()), .cons (VA.int _ _) .nil,hw,trivial⟩
   ·cases h
  ·rename_i hu
   split at h
   ·obtain⟨q,rfl,e⟩:=DataW.trod_bool hu ht
    exact⟨(q,()), .cons (VA.bool _) .nil,trivial,trivial⟩
   ·cases h
  ·rename_i hu
   split at h
   ·obtain⟨q,rfl,e,hs⟩:=DataW.trod_string hu ht
    cases e;exact⟨(q.data.toList,()), .cons (VA.str _ _ rfl) .nil,Nat.le_trans (B.str _) hN,trivial⟩
   ·cases h
  ·rename_i e hu
   split at h
   ·rename_i τ
    simp only[Bool.and_eq_true] at h;obtain⟨h1,h2,h3⟩:=h;have h1:=Nat.eq_of_beq_eq_true h1;have hne:τ.hl≠ [] :=by intro e;rw[e] at h2;simp at h2
    rcases DataW.trod_slice hu ht with⟨rfl,e0⟩ |⟨a,len,cap,elems,rest,m,_,rfl,e0,hb,hlc,hm,hlen,hel,_,_⟩
    ·refine⟨(([] :List τ.T),()), .cons (VA.sl τ [] none 0 0 0 0 (λ_ _=>default) rfl (Nat.le_refl _) (λh=>absurd rfl h) (λi j hi=>by simp at hi) (λi x j y hx=>by simp at hx)) .nil,⟨Nat.zero_le _,λx hx=>by cases hx⟩,trivial⟩
    ·cases e0
     have each0:∀i,i<len->∃x:τ.T,∃us:List Value,τ.ok N x/\bR (VA (g0 w) w) (τ.enc x) us/\us.length=τ.n/\(∀j u,us[j]? =some u->w.cell? ((a.add (i*τ.n)).add j)=some u):=by
      intro i hi;have hi':=hel i hi;rw[h1] at hi';have hil:i<elems.length:=by omega
      rw[List.getElem?_eq_getElem hil] at hi';obtain⟨us,hus,htr⟩:=Option.bind_eq_some_iff.1 hi';obtain⟨v,hv,hok⟩:=yq B n m e τ.hl us elems[i].1 elems[i].2 h3 htr (Nat.le_trans (B.elem _ _ _ (List.mem_map.2 ⟨elems[i],List.getElem_mem hil,rfl⟩)) hN);obtain⟨x,hx,hxo⟩:=Ty.Vj τ v hne hok;obtain⟨_,hul,huc⟩:=World.cells?_some hus;refine⟨x,us,hxo,by rw[hx];exact hv,hul,λj u hu=> ?_⟩;have hj:j<τ.n:=by rw[<-hul];exact(List.getElem?_eq_some_iff.1 hu).1
      rw[huc j hj,hu]
     have hsp:0<len->a.spot=none/\a.block<w.heap.size:=by
      intro h0;obtain⟨x,us,_,_,hul,huc⟩:=each0 0 h0;have h00:0<us.length:=by rw[hul];exact wP τ
      have:=huc 0 us[0] (by simp [h00]);have e9:(a.add (0*τ.n)).add 0=a:=by simp [Addr.add]
      rw[e9] at this;refine⟨World.cell?_spot this, ?_⟩;rcases Nat.lt_or_ge a.block w.heap.size with h|h
      ·exact h
      ·exfalso
       unfold World.cell? at this;rw[World.cell?_spot this] at this;simp [Array.getElem?_eq_none h] at this
     have each:∀i,i<len->∃x:τ.T,∃us:List Value,τ.ok N x/\bR (VA (g0 w) w) (τ.enc x) us/\us.length=τ.n/\(∀j u,us[j]? =some u->w.cell? ⟨a.block,a.off+(i*τ.n+j),none⟩=some u):=by
      intro i hi;obtain⟨x,us,k1,k2,k3,k4⟩:=each0 i hi;refine⟨x,us,k1,k2,k3,λj u hu=> ?_⟩;have:=k4 j u hu;have hs:=(hsp (by omega)).1;obtain⟨bk,of,sp⟩:=a;simp only at hs;subst hs;rw[da,da,Nat.add_assoc] at this;exact this
     obtain⟨xs,hxl,hxs⟩:∃xs:List τ.T,xs.length=len/\∀i (hi:i<len),∃us:List Value,∃x,xs[i]? =some x/\τ.ok N x/\bR (VA (g0 w) w) (τ.enc x) us/\us.length=τ.n/\(∀j u,us[j]? =some u->w.cell? ⟨a.block,a.off+(i*τ.n+j),none⟩=some u):=by
      refine⟨(List.range len).pmap (λi hi=>Classical.choose (each i hi)) (λi hi=>by simpa using hi),by simp,λi hi=> ?_⟩;obtain⟨us,h1,h2,h3,h4⟩:=Classical.choose_spec (each i hi);refine⟨us,Classical.choose (each i hi), ?_,h1,h2,h3,h4⟩;simp [List.getElem?_pmap,hi]
     have cellF:∀i j,i<len->j<τ.n->∃u,w.cell? ⟨a.block,a.off+(i*τ.n+j),none⟩=some u/\∀x y,xs[i]? =some x->(τ.enc x)[j]? =some y->VA (g0 w) w y u:=by
      intro i j hi hj;obtain⟨us,x,hx,_,hal,hul,huc⟩:=hxs i hi;have hlt:j<us.length:=by omega
      refine⟨us[j],huc j us[j] (by simp [hlt]),λx' y hx' hy=> ?_⟩;rw[hx] at hx';cases hx';obtain⟨u,hu,hr⟩:=hal.get hy;rw[List.getElem?_eq_getElem hlt] at hu;cases hu;exact hr
     refine⟨(xs,()), .cons ?_ .nil,⟨?_,λx hx=> ?_⟩,trivial⟩
     ·refine VA.sl τ xs (some a) len cap a.block a.off (λi j=>((w.cell? ⟨a.block,a.off+(i*τ.n+j),none⟩).getD undef)) (by omega) hlc (λhne'=> ?_) (λi j hi hj=> ?_) (λi x j y hx hy=> ?_)
      ·have h0:0<len:=by rw[<-hxl];exact List.length_pos_iff.2 hne'
       have hs:=hsp h0;exact⟨by cases a;simp at hs⊢;exact hs.1,hs.2⟩
      ·obtain⟨u,hu,_⟩:=cellF i j (by omega) hj
       rw[hu];rfl
      ·have hi:i<len:=by rw[<-hxl];exact(List.getElem?_eq_some_iff.1 hx).1
       have hj:j<τ.n:=by rw[<-cU τ x];exact(List.getElem?_eq_some_iff.1 hy).1
       obtain⟨u,hu,hr⟩:=cellF i j hi hj;rw[hu];exact hr x y hx hy
     ·have:=B.len (elems.map (·.1)) (rest.map (·.1))
      rw[List.length_map] at this;show xs.length<=N;omega
     ·obtain⟨i,hi,rfl⟩:=List.getElem_of_mem hx
      have hi2:i<xs.length:=hi;obtain⟨us,x',hx',hok,_⟩:=hxs i (by omega);rw[List.getElem?_eq_getElem hi2] at hx';cases hx';exact hok
   ·cases h
  ·rename_i fs hu
   obtain⟨xs,m,_,e,hcl,hxl,hx⟩:=DataW.trod_struct hu ht;cases e;simp only[Bool.and_eq_true] at h;obtain⟨h0,h⟩:=h;have h0:=Nat.eq_of_beq_eq_true h0;obtain⟨v,hv,hok⟩:=B_ (b:=b) (N:=N) P.cellsOf (w9 P n) (tr:=DataW.trod enc P w 0 (λ_=>true) true m) (cs:=cs) (λt hl cs d ps h1 h2 h3=>yq B n m t hl cs d ps h1 h2 h3) fs.toList 0 hl xs h (by omega) (by simpa using hxl) (λi f hf=>hx i f (by simpa using hf)) (λx hx=>Nat.le_trans (B.part _ _ (List.mem_map.2 ⟨x,hx,rfl⟩)) hN);exact⟨v,by simpa using hv,hok⟩
  ·cases h
end
end Go.Eng
namespace Go.Eng
open Go Go.RowKit Go.WideShapes Go.ChangeShapes
theorem HW:∀(τ:Ty) (l:List τ.T),dV τ τ l=some l:=λτ l=>by cases τ<;>rfl
theorem HH:∀(τ:Ty) (l:τ.T),IE τ τ l=some l:=λτ l=>by cases τ<;>rfl
theorem HA.tl:∀(h:HA) (v:h.V),h.sh (h.st v)=some v:=λh v=>by
 cases h<;>simp [HA.sh,HA.st,HW,HH,Jl]
 case int k=>cases k<;>rfl
 case LV k n=>cases k<;>rfl
 case aF b=>cases b<;>rfl
theorem HL.tl:∀(l:List HA) (v:HL.V l),HL.sh l (HL.st l v)=some v
 | [],_=>rfl
 |h::l,v=>by simp only[HL.sh,HL.st,HA.tl,HL.tl]
theorem HV.tl:∀(h:HV) (v:h.V),h.sh (h.st v)=some v:=λh v=>by
 cases h
 ·exact HA.tl _ v
 ·exact HL.tl _ v
 ·rfl
theorem HP.tl:∀(l:List HV) (v:HP.V l),HP.sh l (HP.st l v)=some v
 | [],_=>rfl
 |h::l,v=>by simp only[HP.sh,HP.st,HV.tl,HP.tl]
def HV.ok (N:Nat):(h:HV)->h.V->Prop
 | .one h,v=>h.ok N v
 | .agg l,v=>HL.ok N l v
 | .undef,_=>True
def HP.ok (N:Nat):(l:List HV)->HP.V l->Prop
 | [],_=>True
 |h::l,v=>h.ok N v.1/\HP.ok N l v.2
def Lw (P:Program) (t:TypeId):HV->Bool
 | .one h=>(match P.underlying t with|some (.int _)=>true|some .bool=>true|some .string=>true|some (.slice _)=>true|_=>false)&&w9 P 9 t [h]
 | .agg l=>(match P.underlying t with|some (.struct _)=>true|_=>false)&&w9 P 9 t l
 | .undef=>false
def BY (P:Program):List TypeId->List HV->Bool
 | [], [] =>true
 |t::ts,h::l=>Lw P t h&&BY P ts l
 |_,_=>false
section
variable {P:Program} [aD P] {H:Type} {enc:TypeId×Value->H} {w w':World} {b:DataW H->Nat} {N:Nat}
theorem SQ (B:mb b) {t:TypeId} {h:HV} {v:Value} {base:Nat} {d:DataW H} {ps:List MemPlace} (ht:Lw P t h=true) (hok:Value.okWide P w .any base t v) (htr:DataW.Trod enc P w 0 (λ_=>true) true t v d ps) (hN:b d<=N):
 ∃x:h.V,AVR (g0 w) w (h.st x) v/\h.ok N x:=by
 obtain⟨fuel,htr⟩:=htr;cases h with
 |one h=>
  simp only[Lw,Bool.and_eq_true] at ht;obtain⟨h1,h2⟩:=ht;obtain⟨x,hx,ho⟩:=yq B 9 fuel t [h] _ d ps h2 htr hN;have hc:v.cells.toList=[v]:=by
   unfold Value.okWide at hok;split at h1
   ·rename_i hu;rw[hu] at hok;cases v<;>simp_all [Cell.okWide,Cell.ok,Value.cells]
   ·rename_i hu;rw[hu] at hok;cases v<;>simp_all [Cell.okWide,Cell.ok,Value.cells]
   ·rename_i hu;rw[hu] at hok;cases v<;>simp_all [Cell.okWide,Cell.ok,Value.cells]
   ·rename_i hu;rw[hu] at hok;cases v<;>simp_all [Cell.okWide,Cell.ok,Value.cells]
   ·cases h1
  rw[hc] at hx;refine⟨x.1, ?_,ho.1⟩;cases hx with
  |cons h1 _=>exact h1
 |agg l=>
  simp only[Lw,Bool.and_eq_true] at ht;obtain⟨h1,h2⟩:=ht;obtain⟨x,hx,ho⟩:=yq B 9 fuel t l _ d ps h2 htr hN;refine⟨x, ?_,ho⟩;split at h1
  ·rename_i hu
   unfold Value.okWide at hok;rw[hu] at hok;obtain⟨cs,rfl,_,_⟩:=hok;exact⟨cs.toList,by simp,by simpa [Value.cells] using hx⟩
  ·cases h1
 |undef=>simp [Lw] at ht
theorem I6 (B:mb b) {base:Nat}:∀(ts:List TypeId) (hp:List HV) (vs:List Value) (ds:List (DataW H)) (ps:List MemPlace),BY P ts hp=true->(∀(j:Nat) t v,ts[j]? =some t->vs[j]? =some v->Value.okWide P w .any base t v)->
 DataW.TrodAll enc P w 0 (λ_=>true) true ts vs ds ps->(∀d∈ds,b d<=N)->∃x:HP.V hp,bR (AVR (g0 w) w) (HP.st hp x) vs/\HP.ok N hp x
 | [], [],vs,ds,ps,_,_,htr,_=>by
  obtain⟨rfl,rfl,rfl⟩:=trodAll_nil htr;exact⟨(), .nil,trivial⟩
 | [],_::_,_,_,_,h,_,_,_=>by simp [BY] at h
 |_::_, [],_,_,_,h,_,_,_=>by simp [BY] at h
 |t::ts,h::hp,vs,ds,ps,hb,hok,htr,hN=>by
  simp only[BY,Bool.and_eq_true] at hb;obtain⟨v,vs',d,ds',p,q,rfl,rfl,rfl,h1,h2⟩:=trodAll_cons htr;obtain⟨x,hx,ho⟩:=SQ B hb.1 (hok 0 t v rfl rfl) h1 (hN d (by simp));obtain⟨y,hy,hp⟩:=I6 B ts hp vs' ds' q hb.2 (λj t v ht hv=>hok (j+1) t v (by simpa using ht) (by simpa using hv)) h2 (λd hd=>hN d (by simp [hd]));exact⟨(x,y), .cons hx hy,ho,hp⟩
theorem L7 {T:TypeId->Prop} (K:Kids P T) (hz:∀t e,T t->P.underlying t=some (.slice e)->0<P.cellsOf e) (hb:Below w.heap.size w w') {sp:Nat->Bool}:∀(ts:List TypeId) (vs:List Value) (ds:List (DataW H)) (ps:List MemPlace),(∀t∈ts,T t)->
 DataW.TrodAll enc P w 0 (λ_=>true) true ts vs ds ps->(∀p∈ps,sp p.block=true)->DataW.TrodAll enc P w' 0 sp true ts vs ds ps
 | [],vs,ds,ps,_,h,_=>by obtain⟨rfl,rfl,rfl⟩:=trodAll_nil h;exact trodAll_mk0
 |t::ts,vs,ds,ps,hT,h,hs=>by
  obtain⟨v,vs',d,ds',p,q,rfl,rfl,rfl,⟨fuel,h1⟩,h2⟩:=trodAll_cons h;refine trodAll_cons_mk ⟨fuel, ?_⟩ (L7 K hz hb ts vs' ds' q (λt ht=>hT t (by simp [ht])) h2 (λp hp=>hs p (by simp [hp])));have h3:=DataW.trod_respare K hz fuel t _ (d,p) (hT t (by simp)) h1 (λy hy=>hs y (by simp at hy;simp [hy]));exact DataW.trod_carry fuel t _ (d,p) h3 (λy hy=>hb.same (DataW.trod_lt fuel t _ (d,p) h1 y hy))
theorem Ba {f:Func} {s:ChangeSpec} {apart fresh handsOn again:Bool} {W W':World} {args:Array Value} {v:Value} {ds gs:List (DataW H)} {before pa pv:List MemPlace}
 (hW:DataW.Whole enc P f.params.toList s.vars apart W args.toList ds gs before)
 (hres:∀(b:Nat) (sp:Nat->Bool) (hd:Bool),DataW.TrodAll enc P W' b sp hd f.resultTypes.toList (v.resultList f.resultTypes.size) (s.fn H (ds++gs)).results [])
 (hargs:∀sp:Nat->Bool,(∀p∈before,sp p.block=true)->DataW.TrodAll enc P W' 0 sp true f.params.toList args.toList (s.fn H (ds++gs)).args pa)
 (hvars:∀sp:Nat->Bool,(∀p∈before,sp p.block=true)->DataW.TrodVars enc P W' sp s.vars (s.fn H (ds++gs)).vars pv)
 (hps:before=pa++pv) (hb:Below W.heap.size W W')
 (hok:∀(j:Nat) (t:TypeId) (r:Value),f.resultTypes[j]? =some t->(v.resultList f.resultTypes.size)[j]? =some r->Value.okWide P W' .any 0 t r):
 s.post enc P f apart fresh handsOn again W args v W':=by
 have hlt:∀p∈before,p.block<W.heap.size:=λp hp=>hW.lt p hp
 have hold:∀p∈before,(λb=>decide (b<W.heap.size)) p.block=true:=λp hp=>by simpa using hlt p hp
 refine⟨ds,gs,before, [],pa,pv,hW,hres _ _ _,hargs _ hold,hvars _ hold,World.keptBut_mono (λp hp=>⟨hp, ?_⟩) (hb.frame (· ∈before)),λ_=> ?_⟩
 ·rw[hps,List.mem_append] at hp
  exact Or.inr hp
 ·obtain⟨_,_,_,_,_,hz,hn⟩:=hW
  refine⟨hok,_,_,([] ++pa)++pv,⟨[] ++pa,pv,trodAll_append (hargs _ (λ_ _=>rfl)) (hres _ _ _),hvars _ (λ_ _=>rfl),rfl, ?_, ?_⟩, ?_⟩
  ·intro b off hp
   have hin:MemPlace.cell b off∈before:=by rw[hps];simpa using hp
   rw[hb.frozen (hlt _ hin)];exact hz b off hin
  ·intro ha
   have:=hn ha;rw[hps] at this;simpa using this
  ·intro p hp _
   rw[hps];simpa using hp
theorem fE (B:mb b) {T:TypeId->Prop} (K:Kids P T) (hz:∀t e,T t->P.underlying t=some (.slice e)->0<P.cellsOf e)
 {fid:Nat} {fn:Func} {s:ChangeSpec} {hp:List HV} {X:Type} {toX:HP.V hp->X} {ofY:Bool->HX.V [HV.one .bool]} {f:X->Option Bool} {tb:TypeId} (S:aK P fid (aL hp [.one .bool] toX ofY f)) (hofY:ofY true=true)
 (hvars:s.vars= []) (hres:fn.resultTypes= #[tb]) (htb:P.underlying tb=some .bool) (hT:∀t∈fn.params.toList,T t) (hargs:BY P fn.params.toList hp=true)
 (hfn:∀ds:List (DataW H),ds.length=hp.length->(s.fn H ds).results=[.lit (.bool true)]/\(s.fn H ds).args=ds/\(s.fn H ds).vars= [])
 (law:∀x:HP.V hp,HP.ok N hp x->f (toX x)=some true) {apart fresh handsOn again:Bool}
 (W:World) (base:Nat) (args:Array Value) (ds gs:List (DataW H)) (before:List MemPlace)
 (hval:∀(j:Nat) t v,fn.params[j]? =some t->args[j]? =some v->Value.okWide P W .any base t v)
 (hW:DataW.Whole enc P fn.params.toList s.vars apart W args.toList ds gs before) (hN:∀d∈ds,b d<=N) (hG:mD P (g0 W) W):
 Calls P fid args W λe W'=>∃v,e= .returned v/\s.post enc P fn apart fresh handsOn again W args v W':=by
 have hW':=hW;obtain⟨p,q,hA,hV,rfl,hfz,hnd⟩:=hW;rw[hvars] at hV;obtain⟨rfl,rfl⟩:=trodVars_none hV;obtain⟨x,hx,ho⟩:=I6 (N:=N) B fn.params.toList hp args.toList ds p hargs (λj t v ht hv=>hval j t v (by simpa using ht) (by simpa using hv)) hA hN;have hl:=law x ho;have hlen:ds.length=hp.length:=by
  have h1:=hx.length;rw[HP.len] at h1;have h2:∀(ts:List TypeId) (vs:List Value) (ds:List (DataW H)) (ps:List MemPlace),DataW.TrodAll enc P W 0 (λ_=>true) true ts vs ds ps->ds.length=vs.length:=by
   intro ts;induction ts with
   |nil=>intro vs ds ps h;obtain⟨rfl,rfl,rfl⟩:=trodAll_nil h;rfl
   |cons t ts ih=>intro vs ds ps h;obtain⟨v,vs',d,ds',p,q,rfl,rfl,rfl,h1,h2⟩:=trodAll_cons h;simp [ih _ _ _ h2]
  rw[h2 _ _ _ _ hA,<-h1]
 have hcall:=S.calls (λk=>k<W.heap.size) W (HP.st hp x) args.toList (toX x) true (λk hk=>hk) hG hx (by
  show(match HP.sh hp (HP.st hp x) with|some v=>some (toX v) |none=>none)=some (toX x);rw[HP.tl]) hl
 have e:args.toList.toArray=args:=by simp
 rw[e] at hcall;refine hcall.mono λe W' ⟨v,he,hb,hv⟩=>⟨v,he, ?_⟩
 have hv':v= .bool true:=by
  have:AVR _ W' (HX.st [HV.one .bool] (ofY true)) v:=hv;rw[hofY] at this;cases this;rfl
 subst hv';obtain⟨f1,f2,f3⟩:=hfn ds hlen;refine Ba (pa:=p) (pv:= []) hW' (λbb sp hd=> ?_) (λsp hsp=> ?_) (λsp hsp=> ?_) rfl hb (ok_one hres rfl (okWide_bool_mk htb _))
 ·simp only[List.append_nil]
  rw[f1,hres];exact trodAll_cons_mk (shut_bool htb _) trodAll_mk0
 ·simp only[List.append_nil]
  rw[f2];exact L7 K hz hb _ _ _ _ hT hA (λy hy=>hsp y (by simpa using hy))
 ·simp only[List.append_nil]
  rw[f3,hvars];exact rfl
end
end Go.Eng
namespace Go.Eng
open Go Go.RowKit Go.Lib
theorem sE {P:Program} (w:World) (tS tR e:TypeId) (ht:P.underlying tS=some (.slice e)) (size:Nat) (hz:∀w,(Go.sizeOf e).run P w= .ok size w)
 (a b:Addr) (la ca lb cb:Nat) (hne:a.block≠b.block) (tA tB:TypeId) (kA kB:Nat)
 (hsa:w.shape? a.block=some (tA,kA)) (hsb:w.shape? b.block=some (tB,kB)) (hkA:kA≠0)
 (hfb:w.frozen? b=false) (hfe:w.frozen? {block:=b.block,off:=kB}=false):
 (Extern.SlicesOverlaps.overlaps #[tS,tS] #[tR] #[.slice (some a) la ca, .slice (some b) lb cb]).run P w= .ok (.bool false) w:=by
 have hnb:(a.block !=b.block)=true:=by simpa using hne
 have hnb':(a.block==b.block)=false:=by simpa using hne
 change Sem.run P (α:=Value) (do
  let some t:=(#[tS,tS]:Array TypeId)[0]? |stuck "slices.overlaps: no parameter types"
  let .slice elem<-underlying t|stuck "slices.overlaps: slice type expected"
  let size<-sizeOf elem
  match (some a:Option Addr),(some b:Option Addr) with
  |some a,some b=>
   if la=0\/lb=0\/size=0 then pure (Value.bool false)
   else if a.block !=b.block&&(<-frozen a)&&(<-frozen b) then unsupported .addressObserved
   else do
    if a.block !=b.block then do
     noView a;noView b
     if<-mayBeOne a b then return Value.bool ((<-choose (.extern "sameAddr.stringBytes" 2))==1)
    pure (Value.bool (a.block==b.block&&a.off<b.off+lb*size&&b.off<a.off+la*size))
  |_,_=>pure (Value.bool false)) w=_
 by_cases h0:la=0\/lb=0\/size=0
 ·simp [run_underlying ht,hz,h0]
 ·cases kA with
  |zero=>exact absurd rfl hkA
  |succ kA=>
   cases kB<;>cases hfa:w.frozen? a<;>cases hfa2:w.frozen? {block:=a.block,off:=kA+1}<;>
   simp [run_underlying ht,hz,h0,hnb,hnb',Go.frozen,Go.noView,Go.viewAt,Go.mayBeOne,Go.stringish,Go.shape,Sem.run,hsa,hsb,hfb,hfe,hfa,hfa2]
theorem Ag {P:Program} {f:Nat} {fn:Func} {tS tR e size:Nat} (hf:P.funcs[f]? =some fn) (h1:(fn.name== "runtime.NumGoroutine")=false) (h2:fn.body.isNone=true) (h3:Extern.findNext fn=none)
 (h4:Extern.find fn=some (Extern.SlicesOverlaps.overlaps #[tS,tS] #[tR])) (ht:P.underlying tS=some (.slice e)) (hz:∀w,(Go.sizeOf e).run P w= .ok size w):xH P f:=by
 intro w x y la ca lb cb h;rw[run_callFunc_extern hf h1 h2 h3 h4];have go:(Extern.SlicesOverlaps.overlaps #[tS,tS] #[tR] #[.slice x la ca, .slice y lb cb]).run P w= .ok (.bool false) w:=by
  by_cases h0:la=0\/lb=0\/size=0
  ·change Sem.run P (α:=Value) (do
    let some t:=(#[tS,tS]:Array TypeId)[0]? |stuck "slices.overlaps: no parameter types"
    let .slice elem<-underlying t|stuck "slices.overlaps: slice type expected"
    let size<-sizeOf elem
    match x,y with
    |some a,some b=>
     if la=0\/lb=0\/size=0 then pure (Value.bool false)
     else if a.block !=b.block&&(<-frozen a)&&(<-frozen b) then unsupported .addressObserved
     else do
      if a.block !=b.block then do
       noView a;noView b
       if<-mayBeOne a b then return Value.bool ((<-choose (.extern "sameAddr.stringBytes" 2))==1)
      pure (Value.bool (a.block==b.block&&a.off<b.off+lb*size&&b.off<a.off+la*size))
    |_,_=>pure (Value.bool false)) w=_
   cases x<;>cases y<;>simp [run_underlying ht,hz,h0]
  ·rcases h with h|h|⟨p,q,o,o',csx,csy,ex,ey,rfl,rfl,hne,hx,hy,hs⟩ |⟨p,q,o,o',csx,csy,ex,ey,s,rfl,rfl,hne,hx,hy,hs⟩
   ·exact(h0 (.inl h)).elim
   ·exact(h0 (.inr (.inl h))).elim
   ·exact Lib.run_overlaps_apart w tS tR e ht size hz ⟨p,o,none⟩ ⟨q,o',none⟩ la ca lb cb hne ex ey csx.size csy.size (by simp [World.shape?,hx]) (by simp [World.shape?,hy]) hs (by simp [World.frozen?,hx]) (by simp [World.frozen?,hx])
   ·exact sE w tS tR e ht size hz ⟨p,o,none⟩ ⟨q,o',none⟩ la ca lb cb hne ex ey csx.size csy.size (by simp [World.shape?,hx]) (by simp [World.shape?,hy]) hs (by simp [World.frozen?,hy]) (by simp [World.frozen?,hy])
 rw[go];rfl
end Go.Eng
namespace Go.Eng
open Go Go.RowKit Go.WideShapes Go.ChangeShapes
def oL:List (Bool×Bool×Bool):=[(false,false,false),(false,false,false),(false,true,false),(true,true,false),(false,false,true),(false,true,false),(false,true,false),(true,false,false),(false,false,false),(true,false,false),(true,false,false)]
def Yd {H:Type}:DataW H:= .agg (oL.map λx=> .agg [.lit (.bool x.1), .lit (.bool x.2.1), .lit (.bool x.2.2)])
theorem Fc {P:Program} {w:World}:∀{l:List (String×DataW Unit)} {ps:List MemPlace},DataW.LaidVars P w l ps->∀{n:String} {d:DataW Unit},(n,d)∈l->
 ∃g t cs fuel p,P.globalNamed n=some g/\(P.globals[g]?).map (·.type)=some t/\w.var? P n=some cs/\DataW.trod (λ_=>()) P w 0 (λ_=>true) false fuel t cs.toList=some (d,p)
 | [],_,_,_,_,h=>by cases h
 |(m,e)::r,ps,hl,n,d,h=>by
  obtain⟨g,t,cs,fuel,p,q,h1,h2,h3,h4,h5,_⟩:=hl;rcases List.mem_cons.1 h with h|h
  ·cases h;exact⟨g,t,cs,fuel,p,h1,h2,h3,h4⟩
  ·exact Fc h5 h
theorem Vt {α:Type} {l:List α} {k:Nat} {b:α} (h:(l.drop k).take 1=[b]):l[k]? =some b:=by
 have:=congrArg (λq=>q[0]?) h;simpa using this
theorem jN {P:Program} [aD P] {w:World} {laid:List (String×DataW Unit)} {q ta e tb:Nat} {fs:Array Field} (hG:aD.G P=[(q,⟨.parts,oL⟩)]) (hg:P.globalNamed "drayman/op.has" =some q) (ht:(P.globals[q]?).map (·.type)=some ta)
 (h1:P.underlying ta=some (.array 11 e)) (c2:P.cellsOf e=3) (h2:P.underlying e=some (.struct fs)) (hf:fs.toList.map (λf=>(f.type,f.offset))=[(tb,0),(tb,1),(tb,2)]) (h3:P.underlying tb=some .bool) (c3:P.cellsOf tb=1)
 (hp:(laid.all λx=>x.2.handleName?.isNone)=true) (hm:("drayman/op.has",Yd)∈laid) (hL:laidMetH P laid w):mD P (g0 w) w:=by
 rw[MakeChecks.laidMetH_plain _ _ _ hp] at hL;obtain⟨ps,hv,_⟩:=hL;obtain⟨g,t,cs,fuel,p,k1,k2,k3,k4⟩:=Fc hv hm;rw[hg] at k1;cases k1;rw[ht] at k2;cases k2;obtain⟨xs,m,_,hx,hlen,hxl,hel⟩:=DataW.trod_array h1 k4;rw[c2] at hel;have hxs:xs.map (·.1)=oL.map λx=>DataW.agg [.lit (.bool x.1), .lit (.bool x.2.1), .lit (.bool x.2.2)]:=by
  have:=congrArg Prod.fst hx;simp only[Yd] at this;exact(DataW.agg.inj this).symm
 have hh:∃a b,w.heap[q]? =some (.cells cs a b):=by
  unfold World.var? at k3;rw[hg] at k3;simp only[Option.bind_some] at k3;split at k3
  ·rename_i c a b he
   cases k3;exact⟨a,b,he⟩
  ·cases k3
 obtain⟨ca,cb,hh⟩:=hh;have hlt:q<w.heap.size:=by
  rcases Nat.lt_or_ge q w.heap.size with h|h
  ·exact h
  ·rw[Array.getElem?_eq_none h] at hh;cases hh
 have hcell:∀k v,cs.toList[k]? =some v->w.cell? ⟨q,k,none⟩=some v:=λk v hk=>by
  have:cs[k]? =some v:=by simpa using hk
  unfold World.cell?;simp [hh,this]
 have key:∀i (x:Bool×Bool×Bool),oL[i]? =some x->cs.toList[i*3]? =some (.bool x.1)/\cs.toList[i*3+1]? =some (.bool x.2.1)/\cs.toList[i*3+2]? =some (.bool x.2.2):=λi x hi=>by
  have hil:i<11:=by
   have:=(List.getElem?_eq_some_iff.1 hi).1;simpa [oL] using this
  have e1:=hel i hil;have e2:(xs.map (·.1))[i]? =some (DataW.agg [.lit (.bool x.1), .lit (.bool x.2.1), .lit (.bool x.2.2)]):=by rw[hxs,List.getElem?_map,hi];rfl
  rw[List.getElem?_map] at e2;cases hxi:xs[i]? with
  |none=>rw[hxi] at e2;cases e2
  |some y=>
   rw[hxi] at e1 e2;have ey:y.1=DataW.agg [.lit (.bool x.1), .lit (.bool x.2.1), .lit (.bool x.2.2)]:=Option.some.inj e2;obtain⟨ys,m2,_,hy,_,hyl,hye⟩:=DataW.trod_struct h2 e1;have hys:ys.map (·.1)=[.lit (.bool x.1), .lit (.bool x.2.1), .lit (.bool x.2.2)]:=by
    rw[hy] at ey;exact DataW.agg.inj ey
   have fld:∀j o b,(fs.toList.map (λf=>(f.type,f.offset)))[j]? =some (tb,o)->([DataW.lit (.bool x.1), .lit (.bool x.2.1), .lit (.bool x.2.2)]:List (DataW Unit))[j]? =some (DataW.lit (.bool b))->cs.toList[i*3+o]? =some (.bool b):=λj o b hj hb=>by
    rw[List.getElem?_map] at hj;cases hfj:fs.toList[j]? with
    |none=>rw[hfj] at hj;cases hj
    |some f=>
     rw[hfj] at hj;have hj:=Option.some.inj hj;have hfj':fs[j]? =some f:=by simpa using hfj
     have e3:=hye j f hfj';have t1:f.type=tb:=congrArg Prod.fst hj;have t2:f.offset=o:=congrArg Prod.snd hj;rw[t1,t2,c3] at e3;rw[<-hys,List.getElem?_map] at hb;cases hyj:ys[j]? with
     |none=>rw[hyj] at hb;cases hb
     |some z=>
      rw[hyj] at e3 hb;have hb:=Option.some.inj hb;obtain⟨b',hb1,hb2⟩:=DataW.trod_bool h3 e3;rw[hb2] at hb;have hbb:b'=b:=by
       have h9:DataW.lit (H:=Unit) (.bool b')= .lit (.bool b):=hb;simpa using h9
      subst hbb;rw[List.drop_take,List.take_take,List.drop_drop] at hb1;have ho:o<3:=by
       have h9:j<3:=by
        have:=(List.getElem?_eq_some_iff.1 hfj).1;have h10:=congrArg List.length hf;simp at h10;simp at this;omega
       have h11:([(tb,0),(tb,1),(tb,2)]:List (Nat×Nat))[j]? =some (tb,o):=by
        rw[<-hf,List.getElem?_map,hfj];exact congrArg some hj
       rcases j with _|_|_|j
       ·simp at h11;omega
       ·simp at h11;omega
       ·simp at h11;omega
       ·omega
      have hmin:min 1 (3 - o)=1:=by omega
      rw[hmin] at hb1;exact Vt hb1
   rw[hf] at fld;exact⟨fld 0 0 _ rfl rfl,fld 1 1 _ rfl rfl,fld 2 2 _ rfl rfl⟩
 intro q' τ l hl;rw[hG] at hl;unfold look at hl;simp only at hl;split at hl
 ·rename_i hq
  have hq:q=q':=by simpa using hq
  subst hq;cases hl;refine⟨hlt,λi j=>(cs.toList[i*3+j]?).getD (.bool false),λi j hi hj=> ?_,λi x j y hx hy g w'=> ?_⟩
  ·have hx:oL[i]? =some oL[i]:=List.getElem?_eq_getElem hi
   obtain⟨a1,a2,a3⟩:=key i _ hx;have hj':j<3:=hj;have fin:∀v,cs.toList[i*3+j]? =some v->w.cell? ⟨q,i*3+j,none⟩=some ((cs.toList[i*3+j]?).getD (.bool false)):=λv hv=>by rw[hv];exact hcell _ _ hv
   rcases j with _|_|_|j
   ·exact fin _ a1
   ·exact fin _ a2
   ·exact fin _ a3
   ·omega
  ·obtain⟨a1,a2,a3⟩:=key i x hx
   have hy':([.bool x.1, .bool x.2.1, .bool x.2.2]:List At)[j]? =some y:=hy;rcases j with _|_|_|j
   ·simp only[List.getElem?_cons_zero] at hy'
    cases hy';show VA g w' _ ((cs.toList[i*3]?).getD _);rw[a1];exact .bool _
   ·simp only[List.getElem?_cons_succ,List.getElem?_cons_zero] at hy'
    cases hy';show VA g w' _ ((cs.toList[i*3+1]?).getD _);rw[a2];exact .bool _
   ·simp only[List.getElem?_cons_succ,List.getElem?_cons_zero] at hy'
    cases hy';show VA g w' _ ((cs.toList[i*3+2]?).getD _);rw[a3];exact .bool _
   ·simp at hy'
 ·cases hl
end Go.Eng
