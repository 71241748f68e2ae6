/- A part of the proofs of the laws of this seat: the engine that reads the program's code, plain functions, or facts of the program's functions. Conditions: none. -/
import Derived.Test.YtkdpombpeoiafaaGreatDoorP2
import Derived.Test.YtkdpombpeoiafaaGreatDoorP1
import Derived.Test.YtkdpombpeoiafaaGreatDoorE4
set_option linter.unusedSectionVars false
set_option linter.unusedVariables false
set_option linter.unusedSimpArgs false
set_option linter.unnecessarySimpa false
set_option linter.unusedSimpArgs false
set_option linter.unusedVariables false
set_option linter.unusedSectionVars false
namespace Go.Eng
open Go
def msum {α:Type} (μ :α→Int) (l:List α):Int:=(l.map μ).sum
section
variable {α:Type} {μ :α→Int}
theorem msum_nil (μ :α→Int):msum μ [] =0:=rfl
theorem msum_cons (μ :α→Int) (x:α) (l:List α):msum μ (x::l)= μ x+msum μ l:=by simp [msum]
theorem msum_nn (h:∀x,0≤ μ x):∀l:List α,0≤msum μ l
 | [] =>by simp [msum]
 |x::l=>by rw[msum_cons];have:=h x;have:=msum_nn h l;omega
theorem msum_le1 (h:∀x,0≤ μ x) {x:α}:∀{l:List α},x∈l→ μ x≤msum μ l
 |y::l,hx=>by
  rw[msum_cons];have h1:=h y;have h2:=msum_nn h l;simp only[List.mem_cons] at hx;rcases hx with rfl|hx
  ·omega
  ·have:=msum_le1 h hx;omega
theorem msum_le2 (h:∀x,0≤ μ x) {x y:α} (hne:x≠y):∀{l:List α},x∈l→y∈l→ μ x+ μ y≤msum μ l
 |z::l,hx,hy=>by
  rw[msum_cons];have h1:=h z;simp only[List.mem_cons] at hx hy;rcases hx with rfl|hx
  ·rcases hy with rfl|hy
   ·exact absurd rfl hne
   ·have:=msum_le1 h hy;omega
  ·rcases hy with rfl|hy
   ·have:=msum_le1 h hx;omega
   ·have:=msum_le2 h hne hx hy;omega
theorem msum_pos (h:∀x,0≤ μ x):∀{l:List α},0<msum μ l→∃x∈l,0< μ x
 | [],hp=>by simp [msum] at hp
 |z::l,hp=>by
  rw[msum_cons] at hp;by_cases hz:0< μ z
  ·exact⟨z,by simp,hz⟩
  ·obtain⟨x,hx,h2⟩:=msum_pos h (l:=l) (by omega)
   exact⟨x,by simp [hx],h2⟩
theorem msum_one (l:List α):msum (fun _=>1) l=(l.length:Int):=by
 induction l with
 |nil=>rfl
 |cons x l ih=>rw[msum_cons,ih,List.length_cons];omega
theorem msum_congr {ν:α→Int} {l:List α} (h:∀x∈l, μ x=ν x):msum μ l=msum ν l:=by
 unfold msum;rw[List.map_congr_left h]
end
def fval {α:Type} (μ :α→Int):Option α→Int
 |some x=> μ x
 |none=>0
section
variable {α κ:Type} [DecidableEq κ] {lt:κ→κ→Bool} {key:α→κ}
theorem msum_ins (μ :α→Int) (x:α):∀l:List α,msum μ (insK lt key x l)= μ x+msum μ l
 | [] =>by simp [insK,msum]
 |y::l=>by
  simp only[insK];split
  ·rw[msum_cons]
  ·rw[msum_cons,msum_ins μ x l,msum_cons];omega
theorem dropK_cons (k:κ) (y:α) (l:List α):dropK key k (y::l)=if key y=k then dropK key k l else y::dropK key k l:=by
 unfold dropK;rw[List.filter_cons];by_cases h:key y=k<;>simp [h]
theorem findK_cons (k:κ) (y:α) (l:List α):findK key k (y::l)=if key y=k then some y else findK key k l:=by
 unfold findK;rw[List.find?_cons];by_cases h:key y=k<;>simp [h]
theorem msum_drop (O:LO lt) (μ :α→Int) {k:κ}:∀{l:List α},SortK lt key l→msum μ (dropK key k l)+fval μ (findK key k l)=msum μ l
 | [],_=>by simp [dropK,findK,msum,fval]
 |y::l,hs=>by
  unfold SortK at hs;rw[List.pairwise_cons] at hs;rw[dropK_cons,findK_cons,msum_cons];by_cases h:key y=k
  ·rw[if_pos h,if_pos h,dropK_lt O (fun x hx=>by rw[←h];exact hs.1 x hx)]
   simp only[fval];omega
  ·rw[if_neg h,if_neg h,msum_cons]
   have:=msum_drop O μ (k:=k) hs.2;omega
theorem msum_set (O:LO lt) (μ :α→Int) {x:α} {l:List α} (hs:SortK lt key l):msum μ (setK lt key x l)+fval μ (findK key (key x) l)=msum μ l+ μ x:=by
 unfold setK;rw[msum_ins];have:=msum_drop O μ (k:=key x) hs;omega
theorem len_set (O:LO lt) {x:α} {l:List α} (hs:SortK lt key l):(setK lt key x l).length=if (findK key (key x) l).isSome then l.length else l.length+1:=by
 have h:=msum_set O (fun _=>1) (x:=x) hs;rw[msum_one,msum_one] at h;cases hf:findK key (key x) l with
 |none=>rw[hf] at h;simp only[fval] at h;simp;omega
 |some y=>rw[hf] at h;simp only[fval] at h;simp;omega
theorem len_drop (O:LO lt) {k:κ} {l:List α} (hs:SortK lt key l):(dropK key k l).length+(if (findK key k l).isSome then 1 else 0)=l.length:=by
 have h:=msum_drop O (fun _=>1) (k:=k) hs;rw[msum_one,msum_one] at h;cases hf:findK key k l with
 |none=>rw[hf] at h;simp only[fval] at h;simp;omega
 |some y=>rw[hf] at h;simp only[fval] at h;simp;omega
end
def one (n:Int) (e:Entry):Int:=if e.ino=n then 1 else 0
def ec (n:Int) (l:List Entry):Int:=msum (one n) l
def fc (n:Int) (l:List Inode):Int:=msum (fun x=>ec n x.entries) l
theorem one_nn (n:Int) (e:Entry):0≤one n e:=by unfold one;split<;>omega
theorem ec_nn (n:Int) (l:List Entry):0≤ec n l:=msum_nn (one_nn n) l
theorem fc_nn (n:Int) (l:List Inode):0≤fc n l:=msum_nn (μ :=fun x:Inode=>ec n x.entries) (fun x=>ec_nn n x.entries) l
theorem ec_mem {n:Int} {l:List Entry} {e:Entry} (h:e∈l) (he:e.ino=n):1≤ec n l:=by
 have:=msum_le1 (one_nn n) h;unfold one at this;rw[if_pos he] at this;exact this
theorem ec_pos {n:Int} {l:List Entry} (h:0<ec n l):∃e∈l,e.ino=n:=by
 obtain⟨e,he,h2⟩:=msum_pos (one_nn n) h;refine⟨e,he, ?_⟩;unfold one at h2;split at h2
 ·assumption
 ·omega
theorem fc_mem {n:Int} {l:List Inode} {x:Inode} {e:Entry} (hx:x∈l) (h:e∈x.entries) (he:e.ino=n):1≤fc n l:=by
 have h1:=msum_le1 (μ :=fun x:Inode=>ec n x.entries) (fun x=>ec_nn n x.entries) hx;have h2:=ec_mem h he;unfold fc;omega
theorem fc_pos {n:Int} {l:List Inode} (h:0<fc n l):∃x∈l,∃e∈x.entries,e.ino=n:=by
 obtain⟨x,hx,h2⟩:=msum_pos (μ :=fun x:Inode=>ec n x.entries) (fun x=>ec_nn n x.entries) h;exact⟨x,hx,ec_pos h2⟩
theorem fc_uniq {n:Int} {l:List Inode} (h:fc n l≤1) {x y:Inode} {e e':Entry} (hx:x∈l) (he:e∈x.entries) (hn:e.ino=n) (hy:y∈l) (he':e'∈y.entries) (hn':e'.ino=n):x=y∧e=e':=by
 have hxy:x=y:=by
  rcases Classical.em (x=y) with h'|h'
  ·exact h'
  ·have h1:=msum_le2 (μ :=fun x:Inode=>ec n x.entries) (fun x=>ec_nn n x.entries) h' hx hy
   have h2:=ec_mem he hn;have h3:=ec_mem he' hn';unfold fc at h;omega
 subst hxy;refine⟨rfl, ?_⟩;rcases Classical.em (e=e') with h'|h'
 ·exact h'
 ·have h1:=msum_le2 (one_nn n) h' he he'
  unfold one at h1;rw[if_pos hn,if_pos hn'] at h1;have h2:=msum_le1 (μ :=fun x:Inode=>ec n x.entries) (fun x=>ec_nn n x.entries) hx;unfold fc at h;unfold ec at h h2;unfold one at h h2;omega
theorem ec_cntN (n:Int) (l:List Entry):ec n l=(cntN n l:Int):=by
 induction l with
 |nil=>rfl
 |cons e l ih=>
  unfold ec at ih⊢;rw[msum_cons,ih,cntN_cons];unfold one;split<;>omega
theorem namesN_fc (n:Int):∀(l:List Inode) (s:Nat×Int),((namesN n l s).1:Int)=s.1+fc n l
 | [],s=>by simp [namesN,fc,msum]
 |x::l,s=>by
  simp only[namesN];rw[namesN_fc n l];unfold fc;rw[msum_cons,ec_cntN];simp only;omega
theorem namesF_fc (f:Fs) (n:Int):((namesF f n).1:Int)=fc n f.inodes:=by
 unfold namesF;rw[namesN_fc];simp
theorem namesN_in (n:Int):∀(l:List Inode) (s:Nat×Int) (k:Int),(∀x∈l,∀e∈x.entries,e.ino=n→x.ino=k)→(namesN n l s).2=if fc n l=0 then s.2 else k
 | [],s,k,_=>by simp [namesN,fc,msum]
 |x::l,s,k,h=>by
  simp only[namesN];rw[namesN_in n l _ k (fun y hy=>h y (by simp [hy]))];have h1:=ec_nn n x.entries;have h2:=fc_nn n l;have h3:fc n (x::l)=ec n x.entries+fc n l:=by unfold fc;rw[msum_cons]
  rw[h3];by_cases h0:cntN n x.entries=0
  ·have:ec n x.entries=0:=by rw[ec_cntN,h0];rfl
   simp only[h0,if_true,this,Int.zero_add]
  ·have h4:0<ec n x.entries:=by rw[ec_cntN];omega
   obtain⟨e,he,hn⟩:=ec_pos h4;have h5:=h x (by simp) e he hn;have h6:¬ec n x.entries+fc n l=0:=by omega
   simp only[h0,if_false,h6,h5];split<;>rfl
theorem findI_mem {l:List Inode} {x:Inode} (hs:SortI l) (hx:x∈l):findI x.ino l=some x:=findK_mem loI hs hx
theorem findI_mem' {l:List Inode} {x:Inode} {k:Int} (hs:SortI l) (hx:x∈l) (hk:x.ino=k):findI k l=some x:=hk▸findK_mem loI hs hx
theorem findI_some {l:List Inode} {k:Int} {x:Inode} (h:findI k l=some x):x∈l∧x.ino=k:=findK_some h
inductive Reach (l:List Inode):Int→Prop where
 |root:Reach l 1
 |step {k:Int} {x:Inode} {e:Entry}:Reach l k→findI k l=some x→e∈x.entries→Reach l e.ino
theorem getI_some {k:Int} {l:List Inode} {x:Inode} (h:findI k l=some x):getI k l=x:=by unfold getI;rw[h];rfl
theorem getI_none {k:Int} {l:List Inode} (h:findI k l=none):getI k l=zeroI:=by unfold getI;rw[h];rfl
theorem Reach.get {l:List Inode} {k:Int} {e:Entry} (h:Reach l k) (he:e∈(getI k l).entries):Reach l e.ino:=by
 cases hf:findI k l with
 |none=>rw[getI_none hf] at he;simp [zeroI] at he
 |some x=>rw[getI_some hf] at he;exact .step h hf he
theorem foldl_visit_mem:∀(es:List Entry) (s:List Int) (n:Int),n∈es.foldl visit s↔n∈s∨∃e∈es,e.ino=n
 | [],s,n=>by simp
 |e::es,s,n=>by
  simp only[List.foldl_cons];rw[foldl_visit_mem es (visit s e) n];have:n∈visit s e↔n∈s∨e.ino=n:=by
   unfold visit;split
   ·rename_i h
    constructor
    ·exact Or.inl
    ·rintro(h'|rfl)
     ·exact h'
     ·exact h
   ·simp [eq_comm]
  rw[this];simp only[List.mem_cons];constructor
  ·rintro((h|h) |⟨e',h1,h2⟩)
   ·exact Or.inl h
   ·exact Or.inr ⟨e,Or.inl rfl,h⟩
   ·exact Or.inr ⟨e',Or.inr h1,h2⟩
  ·rintro(h|⟨e',rfl|h1,h2⟩)
   ·exact Or.inl (Or.inl h)
   ·exact Or.inl (Or.inr h2)
   ·exact Or.inr ⟨e',h1,h2⟩
theorem rounds_reach (l:List Inode):∀(n i:Nat) (s:List Int),(∀k∈s,Reach l k)→∀k∈roundsL l n i s,Reach l k
 |0,_,s,h=>h
 |n+1,i,s,h=>by
  simp only[roundsL];cases hi:s[i]? with
  |none=>exact h
  |some k=>
   refine rounds_reach l n (i+1) _ fun m hm=> ?_
   unfold visits at hm;rw[foldl_visit_mem] at hm;rcases hm with hm|⟨e,he,rfl⟩
   ·exact h m hm
   ·exact(h k (List.mem_of_getElem? hi)).get he
theorem rounds_closed (l:List Inode):∀(n i:Nat) (s:List Int),VisOK l s→(allInos l).length+1 - i≤n→i≤s.length→(∀j k,j<i→s[j]? =some k→∀e∈(getI k l).entries,e.ino∈s)→
 (∀k∈s,k∈roundsL l n i s)∧∀k∈roundsL l n i s,∀e∈(getI k l).entries,e.ino∈roundsL l n i s
 |0,i,s,hv,hn,hi,h=>by
  have:=hv.len;omega
 |n+1,i,s,hv,hn,hi,h=>by
  simp only[roundsL];cases hk:s[i]? with
  |none=>
   refine⟨fun k hk=>hk,fun k hk2 e he=> ?_⟩;obtain⟨j,hj⟩:=List.mem_iff_getElem?.1 hk2;have h1:j<s.length:=(List.getElem?_eq_some_iff.1 hj).1;have h2:s.length≤i:=List.getElem?_eq_none_iff.1 hk;exact h j k (by omega) hj e he
  |some k=>
   have hlt:i<s.length:=(List.getElem?_eq_some_iff.1 hk).1;obtain⟨t,ht⟩:=foldl_visit_pre (getI k l).entries s;have h3:=rounds_closed l n (i+1) (visits (getI k l) s) (visits_ok hv) (by omega) (by unfold visits;rw[ht];simp;omega) (by
    intro j m hj hm e he;unfold visits at hm⊢;rw[foldl_visit_mem];rw[ht,List.getElem?_append_left (by omega)] at hm;by_cases hji:j=i
    ·subst hji
     rw[hk] at hm;cases hm;exact Or.inr ⟨e,he,rfl⟩
    ·exact Or.inl (h j m (by omega) hm e he))
   refine⟨fun m hm=>h3.1 m ?_,h3.2⟩;unfold visits;rw[ht];simp [hm]
theorem mem_ledL {l:List Inode} {n:Int}:n∈ledL l↔Reach l n:=by
 unfold ledL;constructor
 ·exact rounds_reach l _ _ _ (fun k hk=>by simp at hk;subst hk;exact .root) n
 ·intro h
  have hc:=rounds_closed l ((allInos l).length+1) 0 [1] (visOK1 l) (by omega) (by simp) (fun j k hj=>by omega);induction h with
  |root=>exact hc.1 1 (by simp)
  |step h hf he ih=>exact hc.2 _ ih _ (by rw[getI_some hf];exact he)
theorem rounds_nodup (l:List Inode):∀(n i:Nat) (s:List Int),VisOK l s→(roundsL l n i s).Nodup
 |0,_,s,h=>h.nodup
 |n+1,i,s,h=>by
  simp only[roundsL];cases hi:s[i]? with
  |none=>exact h.nodup
  |some k=>exact rounds_nodup l n (i+1) _ (visits_ok h)
theorem ledL_nodup (l:List Inode):(ledL l).Nodup:=rounds_nodup l _ _ _ (visOK1 l)
theorem sort_nodup {l:List Inode} (h:SortI l):(l.map Inode.ino).Nodup:=by
 unfold List.Nodup;rw[List.pairwise_map];unfold SortI SortK at h;exact h.imp fun{a b} hab e=>by simp only[ltI,decide_eq_true_eq] at hab;omega
theorem nodup_full {a b:List Int} (ha:a.Nodup) (hs:∀x∈a,x∈b) (hl:b.length≤a.length):∀x∈b,x∈a:=by
 intro x hx;rcases Classical.em (x∈a) with h|h
 ·exact h
 ·have:=nodup_len (m:=b.erase x) ha (fun y hy=>(List.mem_erase_of_ne (by intro e;subst e;exact h hy)).2 (hs y hy))
  rw[List.length_erase_of_mem hx] at this;have:=List.length_pos_of_mem hx;omega
structure Tree (f:Fs):Prop where
 maxI:1≤f.maxInodes∧f.maxInodes≤1073741824
 maxB:0≤f.maxBytes∧f.maxBytes≤1073741824
 next:f.next≤1099511627776
 ino:∀x∈f.inodes,1≤x.ino∧x.ino<f.next
 sort:SortI f.inodes
 root:∃r,findI 1 f.inodes=some r∧r.kind=2∧r.parent=1
 kind:∀x∈f.inodes,kindB x=true
 there:∀x∈f.inodes,∀e∈x.entries,∃y,findI e.ino f.inodes=some y
 links:∀x∈f.inodes,x.links=fc x.ino f.inodes
 rootn:fc 1 f.inodes=0
 dirs:∀x∈f.inodes,x.kind=2→fc x.ino f.inodes≤1
 par:∀x∈f.inodes,x.kind=2→∀d∈f.inodes,∀e∈d.entries,e.ino=x.ino→x.parent=d.ino
 led:∀x∈f.inodes,Reach f.inodes x.ino
 fits:fitsI f 0 0=true
theorem Reach.there {f:Fs} (ht:∀x∈f.inodes,∀e∈x.entries,∃y,findI e.ino f.inodes=some y) (hr:∃r,findI 1 f.inodes=some r) {k:Int} (h:Reach f.inodes k):∃y,findI k f.inodes=some y:=by
 cases h with
 |root=>exact hr
 |step h hf he=>exact ht _ (findK_some hf).1 _ he
theorem Reach.named {l:List Inode} {k:Int} (h:Reach l k) (h1:k≠1):∃x∈l,∃e∈x.entries,e.ino=k:=by
 cases h with
 |root=>exact absurd rfl h1
 |step h hf he=>exact⟨_,(findK_some hf).1,_,he,rfl⟩
theorem led_iff {f:Fs} (hs:SortI f.inodes) (ht:∀x∈f.inodes,∀e∈x.entries,∃y,findI e.ino f.inodes=some y) (hr:∃r,findI 1 f.inodes=some r):(ledL f.inodes).length=f.inodes.length↔∀x∈f.inodes,Reach f.inodes x.ino:=by
 have hsub:∀k∈ledL f.inodes,k∈f.inodes.map Inode.ino:=fun k hk=>by
  obtain⟨y,hy⟩:=Reach.there ht hr (mem_ledL.1 hk);obtain⟨h1,h2⟩:=findK_some hy;exact List.mem_map.2 ⟨y,h1,h2⟩
 constructor
 ·intro h x hx
  exact mem_ledL.1 (nodup_full (ledL_nodup _) hsub (by rw[List.length_map];omega) x.ino (List.mem_map.2 ⟨x,hx,rfl⟩))
 ·intro h
  have h1:=nodup_len (ledL_nodup f.inodes) hsub;have h2:=nodup_len (m:=ledL f.inodes) (sort_nodup hs) (fun k hk=>by
   obtain⟨x,hx,rfl⟩:=List.mem_map.1 hk;exact mem_ledL.2 (h x hx))
  rw[List.length_map] at h1 h2;omega
theorem tr_iff (f:Fs):Sound f↔Tree f:=by
 constructor
 ·intro h
  obtain⟨r,hr,hk⟩:=h.root;have hrm:=findK_some hr;have hlink:∀x∈f.inodes,x.links=fc x.ino f.inodes∧(x.ino=1→fc 1 f.inodes=0∧x.parent=1)∧(x.ino≠1→x.kind=2→fc x.ino f.inodes=1∧x.parent=(namesF f x.ino).2):=by
   intro x hx;have hl:=h.link x hx;unfold linkB at hl;simp only[Bool.and_eq_true,decide_eq_true_eq] at hl;obtain⟨h1,h2⟩:=hl;have h3:=namesF_fc f x.ino;refine⟨by omega,fun e=> ?_,fun e e2=> ?_⟩
   ·rw[if_pos e] at h2
    simp only[Bool.and_eq_true,decide_eq_true_eq] at h2;rw[e] at h3 h2;exact⟨by omega,h2.2⟩
   ·rw[if_neg e] at h2
    simp only[Bool.and_eq_true,decide_eq_true_eq,e2,if_true] at h2;exact⟨by omega,h2.2.2⟩
  have hrl:=hlink r hrm.1;have hr1:r.ino=1:=hrm.2;have hr0:=hrl.2.1 hr1;refine⟨h.maxI,h.maxB,h.next,h.ino,h.sort,⟨r,hr,hk,hr0.2⟩,h.kind,h.there,fun x hx=>(hlink x hx).1,hr0.1,fun x hx hk2=> ?_,fun x hx hk2 d hd e he hn=> ?_,(led_iff h.sort h.there ⟨r,hr⟩).1 h.led,h.fits⟩
  ·by_cases h1:x.ino=1
   ·rw[h1,hr0.1];omega
   ·rw[((hlink x hx).2.2 h1 hk2).1];omega
  ·by_cases h1:x.ino=1
   ·have:=fc_mem hd he hn
    rw[h1,hr0.1] at this;omega
   ·obtain⟨h2,h3⟩:=(hlink x hx).2.2 h1 hk2
    rw[h3];unfold namesF;rw[namesN_in x.ino f.inodes (0,0) d.ino (fun y hy e' he' hn'=>by rw[(fc_uniq (by omega) hy he' hn' hd he hn).1]),if_neg (by omega)]
 ·intro h
  obtain⟨r,hr,hk,hp⟩:=h.root;refine⟨h.maxI,h.maxB,h.next,h.ino,h.sort,⟨r,hr,hk⟩,h.kind,h.there,fun x hx=> ?_,(led_iff h.sort h.there ⟨r,hr⟩).2 h.led,h.fits⟩;have h3:=namesF_fc f x.ino;have h4:=h.links x hx;unfold linkB;simp only[Bool.and_eq_true,decide_eq_true_eq];refine⟨by omega, ?_⟩;by_cases h1:x.ino=1
  ·have h5:=h.rootn
   have:x=r:=by
    have:=findI_mem h.sort hx;rw[h1,hr] at this;exact(Option.some.inj this).symm
   rw[if_pos h1];simp only[Bool.and_eq_true,decide_eq_true_eq];rw[h1] at h3⊢;exact⟨by omega,by rw[this];exact hp⟩
  ·rw[if_neg h1]
   obtain⟨d,hd,e,he,hn⟩:=(h.led x hx).named h1;have h5:=fc_mem hd he hn;simp only[Bool.and_eq_true,decide_eq_true_eq];refine⟨by omega, ?_⟩;by_cases hk2:x.kind=2
   ·rw[if_pos hk2]
    simp only[Bool.and_eq_true,decide_eq_true_eq];have h6:=h.dirs x hx hk2;refine⟨by omega, ?_⟩;unfold namesF;rw[namesN_in x.ino f.inodes (0,0) d.ino (fun y hy e' he' hn'=>by rw[(fc_uniq h6 hy he' hn' hd he hn).1]),if_neg (by omega)];exact h.par x hx hk2 d hd e he hn
   ·rw[if_neg hk2]
end Go.Eng
set_option linter.unusedSimpArgs false
set_option linter.unusedVariables false
set_option linter.unusedSectionVars false
namespace Go.Eng
open Go
inductive Way (l:List Inode) (i:Int):Int→Nat→Prop where
 |here:Way l i i 0
 |step {k:Int} {n:Nat} {x:Inode} {e:Entry}:Way l i k n→findI k l=some x→e∈x.entries→Way l i e.ino (n+1)
theorem Reach.way {l:List Inode} {k:Int} (h:Reach l k):∃n,Way l 1 k n:=by
 induction h with
 |root=>exact⟨0, .here⟩
 |step _ hf he ih=>obtain⟨n,hn⟩:=ih;exact⟨n+1, .step hn hf he⟩
theorem Way.reach {l:List Inode} {i k:Int} {n:Nat} (hi:Reach l i) (h:Way l i k n):Reach l k:=by
 induction h with
 |here=>exact hi
 |step _ hf he ih=>exact .step ih hf he
theorem Way.trans {l:List Inode} {i j k:Int} {n m:Nat} (h1:Way l i j n) (h2:Way l j k m):Way l i k (n+m):=by
 induction h2 with
 |here=>exact h1
 |step _ hf he ih=>exact .step ih hf he
theorem Way.first {l:List Inode} {i k:Int} {n:Nat} {x:Inode} {e:Entry} (hf:findI i l=some x) (he:e∈x.entries) (h:Way l e.ino k n):Way l i k (n+1):=by
 have:=Way.trans (.step .here hf he) h;rwa[Nat.add_comm] at this
theorem Way.head {l:List Inode} {i k:Int} {n:Nat} (h:Way l i k n):(n=0∧k=i)∨∃m x e,n=m+1∧findI i l=some x∧e∈x.entries∧Way l e.ino k m:=by
 induction h with
 |here=>exact Or.inl ⟨rfl,rfl⟩
 |step h hf he ih=>
  rcases ih with⟨rfl,rfl⟩ |⟨m,y,e',rfl,h1,h2,h3⟩
  ·exact Or.inr ⟨0,_,_,rfl,hf,he, .here⟩
  ·exact Or.inr ⟨m+1,y,e',rfl,h1,h2, .step h3 hf he⟩
section
variable {f:Fs}
theorem kind_ents {x:Inode} (h:kindB x=true) {e:Entry} (he:e∈x.entries):x.kind=2:=by
 unfold kindB at h;simp only[Bool.or_eq_true,Bool.and_eq_true,decide_eq_true_eq] at h;rcases h with⟨_,h,_⟩ |⟨h,_⟩ |⟨_,h,_⟩
 ·have:x.entries= [] :=by simpa using h
  rw[this] at he;cases he
 ·exact h
 ·have:x.entries= [] :=by simpa using h
  rw[this] at he;cases he
theorem Tree.ents (h:Tree f) {k:Int} {x:Inode} {e:Entry} (hf:findI k f.inodes=some x) (he:e∈x.entries):x.kind=2:=kind_ents (h.kind x (findK_some hf).1) he
theorem Tree.up (h:Tree f) {k k':Int} {x x' y:Inode} {e e':Entry} (hf:findI k f.inodes=some x) (he:e∈x.entries) (hf':findI k' f.inodes=some x') (he':e'∈x'.entries) (hn:e.ino=e'.ino) (hy:findI e.ino f.inodes=some y) (hd:y.kind=2):k=k'∧x=x'∧e=e':=by
 obtain⟨y1,y2⟩:=findK_some hy;obtain⟨x1,x2⟩:=findK_some hf;obtain⟨x1',x2'⟩:=findK_some hf';have h1:=fc_uniq (h.dirs y y1 hd) x1 he y2.symm x1' he' (hn▸y2.symm);refine⟨?_,h1.1,h1.2⟩;rw[←x2,←x2',h1.1]
theorem Tree.no_up (h:Tree f) {k:Int} {x:Inode} {e:Entry} (hf:findI k f.inodes=some x) (he:e∈x.entries):e.ino≠1:=by
 intro h1;have:=fc_mem (findK_some hf).1 he h1;rw[h.rootn] at this;omega
theorem Tree.deep (h:Tree f) {k:Int} {n:Nat} (hw:Way f.inodes 1 k n):∀{m:Nat} {y:Inode},findI k f.inodes=some y→y.kind=2→Way f.inodes 1 k m→n=m:=by
 induction hw with
 |here=>
  intro m y _ _ hm;generalize hk:(1:Int)=k at hm;cases hm with
  |here=>rfl
  |step h1 hf he=>exact absurd hk.symm (h.no_up hf he)
 |step hw hf he ih=>
  rename_i k' n' x e;intro m y hy hd hm;generalize hk:e.ino=k at hm;cases hm with
  |here=>exact absurd hk (h.no_up hf he)
  |step h1 hf' he'=>
   obtain⟨rfl,rfl,rfl⟩:=h.up hf he hf' he' hk hy hd;rw[ih hf (h.ents hf he) h1]
theorem Tree.chain (h:Tree f) {k:Int} {n:Nat} (hw:Way f.inodes 1 k n):∀{y:Inode},findI k f.inodes=some y→y.kind=2→
 ∃c:List Int,c.length=n+1∧c.Nodup∧∀j∈c,∃m z,m≤n∧Way f.inodes 1 j m∧findI j f.inodes=some z∧z.kind=2:=by
 induction hw with
 |here=>exact fun{y} hy hd=>⟨[1],rfl,by simp,fun j hj=>by simp at hj;subst hj;exact⟨0,y,Nat.le_refl _, .here,hy,hd⟩⟩
 |step hw hf he ih=>
  rename_i k' n' x e;intro y hy hd;obtain⟨c,h1,h2,h3⟩:=ih hf (h.ents hf he);refine⟨e.ino::c,by simp [h1], ?_,fun j hj=> ?_⟩
  ·rw[List.nodup_cons]
   refine⟨fun hm=> ?_,h2⟩;obtain⟨m,z,h4,h5,h6,h7⟩:=h3 _ hm;have:=h.deep (.step hw hf he) hy hd h5;omega
  ·simp only[List.mem_cons] at hj
   rcases hj with rfl|hj
   ·exact⟨n'+1,y,Nat.le_refl _, .step hw hf he,hy,hd⟩
   ·obtain⟨m,z,h4,h5⟩:=h3 _ hj
    exact⟨m,z,by omega,h5⟩
theorem Tree.dep_lt (h:Tree f) {k:Int} {n:Nat} (hw:Way f.inodes 1 k n) {y:Inode} (hy:findI k f.inodes=some y) (hd:y.kind=2):n<f.inodes.length:=by
 obtain⟨c,h1,h2,h3⟩:=h.chain hw hy hd;have:=nodup_len (m:=f.inodes.map Inode.ino) h2 (fun j hj=>by
  obtain⟨m,z,_,_,h6,_⟩:=h3 j hj;obtain⟨a,b⟩:=findK_some h6;exact List.mem_map.2 ⟨z,a,b⟩)
 rw[List.length_map] at this;omega
theorem Tree.dep_le (h:Tree f) {k:Int} {n:Nat} (hw:Way f.inodes 1 k n):n≤f.inodes.length:=by
 cases hw with
 |here=>omega
 |step hw hf he=>have:=h.dep_lt hw hf (h.ents hf he);omega
theorem Tree.one_way (h:Tree f) {i j:Int} {a:Nat} {x y:Inode} (hi:Way f.inodes 1 i a) (hx:findI i f.inodes=some x) (hy:findI j f.inodes=some y) (hd:y.kind=2):
 ∀{n1 n2:Nat} {e1 e2:Entry},e1∈x.entries→e2∈x.entries→Way f.inodes e1.ino j n1→Way f.inodes e2.ino j n2→e1=e2:=by
 have key:∀(n:Nat) (j:Int) (y:Inode) (e1 e2:Entry),findI j f.inodes=some y→y.kind=2→e1∈x.entries→e2∈x.entries→Way f.inodes e1.ino j n→Way f.inodes e2.ino j n→e1=e2:=by
  intro n;induction n with
  |zero=>
   intro j y e1 e2 hy hd h1 h2 w1 w2;generalize hk:e1.ino=k1 at w1;generalize hk2:e2.ino=k2 at w2;cases w1;cases w2;subst hk;exact(h.up hx h1 hx h2 hk2.symm hy hd).2.2
  |succ n ih=>
   intro j y e1 e2 hy hd h1 h2 w1 w2;cases w1 with
   |step w1 hf he=>
    rename_i k1 x1 e;generalize hj:e.ino=j' at w2;cases w2 with
    |step w2 hf' he'=>
     obtain⟨rfl,rfl,rfl⟩:=h.up hf he hf' he' hj hy hd;exact ih _ _ _ _ hf (h.ents hf he) h1 h2 w1 w2
 intro n1 n2 e1 e2 h1 h2 w1 w2;have e:=h.deep (hi.trans (w1.first hx h1)) hy hd (hi.trans (w2.first hx h2));have:n1=n2:=by omega
 subst this;exact key n1 j y e1 e2 hy hd h1 h2 w1 w2
theorem Tree.no_loop (h:Tree f) {i:Int} {a n:Nat} {x:Inode} {e:Entry} (hi:Way f.inodes 1 i a) (hx:findI i f.inodes=some x) (he:e∈x.entries):¬Way f.inodes e.ino i n:=fun w=>by
 have:=h.deep hi hx (h.ents hx he) (hi.trans (w.first hx he));omega
end
def underP (p n:Str):Str:=if p=[47] then p++n else (p++[47])++n
def belowP (l:List Inode):Nat→Int→Str→List Seen
 |0,_,_=> []
 |m+1,i,p=>match findI i l with
  |none=> []
  |some x=>⟨p,i⟩::x.entries.flatMap fun e=>belowP l m e.ino (underP p e.name)
theorem flatMap_congr' {α β:Type} {l:List α} {f g:α→List β} (h:∀x∈l,f x=g x):l.flatMap f=l.flatMap g:=by
 induction l with
 |nil=>rfl
 |cons x l ih=>rw[List.flatMap_cons,List.flatMap_cons,h x (by simp),ih (fun y hy=>h y (by simp [hy]))]
theorem below_stab {f:Fs} (h:Tree f):∀(m:Nat) (i:Int) (k:Nat) (p:Str),Way f.inodes 1 i k→f.inodes.length+1≤m+k→belowP f.inodes (m+1) i p=belowP f.inodes m i p
 |0,i,k,p,hw,hm=>by have:=h.dep_le hw;omega
 |m+1,i,k,p,hw,hm=>by
  rw[belowP];conv=>rhs;rw[belowP]
  cases hf:findI i f.inodes with
  |none=>rfl
  |some x=>
   simp only;rw[flatMap_congr' fun e he=>below_stab h m e.ino (k+1) _ (.step hw hf he) (by omega)]
theorem below_stab_le {f:Fs} (h:Tree f) {m m':Nat} {i:Int} {k:Nat} {p:Str} (hw:Way f.inodes 1 i k) (hm:f.inodes.length+1≤m+k) (hmm:m≤m'):belowP f.inodes m' i p=belowP f.inodes m i p:=by
 obtain⟨d,rfl⟩:=Nat.exists_eq_add_of_le hmm;induction d with
 |zero=>rfl
 |succ d ih=>rw[←Nat.add_assoc,below_stab h (m+d) i k p hw (by omega)];exact ih (by omega)
theorem below_congr {l l':List Inode}:∀(m:Nat) (i:Int) (p:Str),(∀j n,Way l i j n→(findI j l').map Inode.entries=(findI j l).map Inode.entries)→belowP l m i p=belowP l' m i p
 |0,i,p,_=>rfl
 |m+1,i,p,h=>by
  have h0:=h i 0 .here;rw[belowP,belowP];cases hf:findI i l with
  |none=>
   rw[hf] at h0;cases hf':findI i l' with
   |none=>rfl
   |some y=>rw[hf'] at h0;cases h0
  |some x=>
   rw[hf] at h0;cases hf':findI i l' with
   |none=>rw[hf'] at h0;cases h0
   |some y=>
    rw[hf'] at h0;simp only[Option.map_some,Option.some.injEq] at h0;simp only;rw[h0];congr 1;exact flatMap_congr' fun e he=>below_congr m e.ino _ fun j n hw=>h j (n+1) (hw.first hf he)
def Ins1 {α:Type} (l m:List α):Prop:=∃a b s,l=a++b∧m=a++s::b
theorem Ins1.len {α:Type} {l m:List α} (h:Ins1 l m):m.length=l.length+1:=by
 obtain⟨a,b,s,rfl,rfl⟩:=h;simp;omega
theorem Ins1.sub {α:Type} {l m:List α} (h:Ins1 l m):List.Sublist l m:=by
 obtain⟨a,b,s,rfl,rfl⟩:=h;exact(List.Sublist.refl a).append (List.sublist_cons_self s b)
theorem msum_comm {α β:Type} (μ :α→β→Int) (l:List α) (m:List β):msum (fun a=>msum (μ a) m) l=msum (fun b=>msum (fun a=> μ a b) l) m:=by
 induction l with
 |nil=>
  rw[msum_nil];induction m with
  |nil=>rfl
  |cons b m ih=>rw[msum_cons,←ih];rfl
 |cons a l ih=>
  rw[msum_cons,ih];clear ih;induction m with
  |nil=>rfl
  |cons b m ih=>rw[msum_cons,msum_cons,msum_cons,←ih,msum_cons];omega
theorem msum_add {α:Type} (μ ν:α→Int) (l:List α):msum (fun x=> μ x+ν x) l=msum μ l+msum ν l:=by
 induction l with
 |nil=>rfl
 |cons x l ih=>rw[msum_cons,msum_cons,msum_cons,ih];omega
theorem msum_mono {α:Type} {μ ν:α→Int} {l:List α} (h:∀x∈l, μ x≤ν x):msum μ l≤msum ν l:=by
 induction l with
 |nil=>exact Int.le_refl _
 |cons x l ih=>rw[msum_cons,msum_cons];have:=ih (fun y hy=>h y (by simp [hy]));have:=h x (by simp);omega
theorem msum_zero {α:Type}:∀l:List α,msum (fun _=>0) l=0
 | [] =>rfl
 |x::l=>by rw[msum_cons,msum_zero l];rfl
theorem msum_once {α:Type} {μ :α→Int} {c:Int} (hc:0≤c):∀{l:List α},l.Nodup→(∀x∈l,0≤ μ x∧ μ x≤c)→(∀x∈l,∀y∈l,0< μ x→0< μ y→x=y)→msum μ l≤c
 | [],_,_,_=>hc
 |x::l,hn,h1,h2=>by
  rw[msum_cons];rw[List.nodup_cons] at hn;have hx:=h1 x (by simp);by_cases hp:0< μ x
  ·have:msum μ l=0:=by
    rw[msum_congr (ν:=fun _=>0) fun y hy=>by
     have hy1:=h1 y (by simp [hy]);by_cases hy2:0< μ y
     ·have:=h2 x (by simp) y (by simp [hy]) hp hy2
      subst this;exact absurd hy hn.1
     ·omega]
    exact msum_zero l
   omega
  ·have:=msum_once hc hn.2 (fun y hy=>h1 y (by simp [hy])) (fun y hy z hz=>h2 y (by simp [hy]) z (by simp [hz]))
   omega
open Classical in
noncomputable def subI (l:List Inode) (i:Int) (x:Inode):Int:=if∃n,Way l i x.ino n then (x.entries.length:Int) else 0
theorem subI_nn (l:List Inode) (i:Int) (x:Inode):0≤subI l i x:=by unfold subI;split<;>omega
theorem subI_le (l:List Inode) (i:Int) (x:Inode):subI l i x≤x.entries.length:=by unfold subI;split<;>omega
theorem flat_len {α β:Type} (g:α→List β) (l:List α):((l.flatMap g).length:Int)=msum (fun x=>((g x).length:Int)) l:=by
 induction l with
 |nil=>rfl
 |cons x l ih=>rw[List.flatMap_cons,List.length_append,msum_cons,←ih];omega
theorem Tree.ent_nodup {f:Fs} (h:Tree f) {x:Inode} (hx:x∈f.inodes):x.entries.Nodup:=by
 have:=((rightE_iff _).1 (kind_right (h.kind x hx))).1;unfold SortE SortK at this;exact this.imp fun{a b} hab e=>by subst e;rw[ltS_irrefl] at hab;cases hab
theorem below_len {f:Fs} (h:Tree f):∀(m:Nat) (i:Int) (k:Nat) (p:Str),Way f.inodes 1 i k→((belowP f.inodes m i p).length:Int)≤1+msum (subI f.inodes i) f.inodes
 |0,i,k,p,hw=>by
  have:=msum_nn (subI_nn f.inodes i) f.inodes;simp only[belowP,List.length_nil];omega
 |m+1,i,k,p,hw=>by
  rw[belowP];cases hf:findI i f.inodes with
  |none=>
   have:=msum_nn (subI_nn f.inodes i) f.inodes;simp only[List.length_nil];omega
  |some x=>
   obtain⟨hx1,hx2⟩:=findK_some hf;simp only[List.length_cons];have h1:=flat_len (fun e:Entry=>belowP f.inodes m e.ino (underP p e.name)) x.entries;have h2:msum (fun e:Entry=>((belowP f.inodes m e.ino (underP p e.name)).length:Int)) x.entries≤msum (fun e:Entry=>1+msum (subI f.inodes e.ino) f.inodes) x.entries:=
    msum_mono fun e he=>below_len h m e.ino (k+1) _ (.step hw hf he)
   rw[msum_add,msum_one,msum_comm] at h2;have h3:(x.entries.length:Int)+msum (fun y=>msum (fun e:Entry=>subI f.inodes e.ino y) x.entries) f.inodes≤msum (subI f.inodes i) f.inodes:=by
    have h4:msum (fun y=>(if y=x then (x.entries.length:Int) else 0)+msum (fun e:Entry=>subI f.inodes e.ino y) x.entries) f.inodes≤msum (subI f.inodes i) f.inodes:=by
     refine msum_mono fun y hy=> ?_
     by_cases hyx:y=x
     ·subst hyx
      rw[if_pos rfl];have e1:msum (fun e:Entry=>subI f.inodes e.ino y) y.entries=msum (fun _=>0) y.entries:=msum_congr fun e he=>by
       unfold subI;rw[if_neg];rintro⟨n,hn⟩;rw[hx2] at hn;exact h.no_loop hw hf he hn
      rw[e1,msum_zero];unfold subI;rw[if_pos ⟨0,by rw[hx2];exact .here⟩];omega
     ·rw[if_neg hyx,Int.zero_add]
      refine msum_once (subI_nn _ _ _) (h.ent_nodup hx1) (fun e he=>⟨subI_nn _ _ _, ?_⟩) (fun e1 he1 e2 he2 p1 p2=> ?_)
      ·unfold subI
       split
       ·rename_i hw'
        obtain⟨n,hn⟩:=hw';rw[if_pos ⟨n+1,hn.first hf he⟩];omega
       ·split<;>omega
      ·unfold subI at p1 p2
       split at p1
       ·rename_i w1
        split at p2
        ·rename_i w2
         obtain⟨n1,hn1⟩:=w1;obtain⟨n2,hn2⟩:=w2;have hyf:=findI_mem h.sort hy;have hyd:y.kind=2:=by
          cases hye:y.entries with
          |nil=>rw[hye] at p1;simp at p1
          |cons e l=>exact kind_ents (h.kind y hy) (e:=e) (by rw[hye];simp)
         exact h.one_way hw hf hyf hyd he1 he2 hn1 hn2
        ·omega
       ·omega
    rw[msum_add] at h4;have h5:(x.entries.length:Int)≤msum (fun y=>if y=x then (x.entries.length:Int) else 0) f.inodes:=by
     have:=msum_le1 (μ :=fun y:Inode=>if y=x then (x.entries.length:Int) else 0) (fun y=>by split<;>omega) hx1;simpa using this
    omega
   omega
structure Lil (f:Fs):Prop where
 len:f.inodes.length≤10000
 ents:∀x∈f.inodes,x.entries.length≤10000
theorem Lil.of_few {f:Fs} (h:fewF f=true):Lil f:=by
 obtain⟨h1,h2⟩:=fewF_sm h;exact⟨by omega,fun x hx=>by have:=(h2 x hx).2.1;omega⟩
theorem msum_bound {α:Type} {μ :α→Int} {c:Int} {l:List α} (h:∀x∈l, μ x≤c):msum μ l≤l.length*c:=by
 induction l with
 |nil=>simp [msum]
 |cons x l ih=>
  rw[msum_cons,List.length_cons];have h1:=ih (fun y hy=>h y (by simp [hy]));have h2:=h x (by simp);have:((l.length+1:Nat):Int)*c=(l.length:Int)*c+c:=by
   rw[Int.natCast_add,Int.add_mul];simp
  omega
theorem below_le {f:Fs} (h:Tree f) (hl:Lil f) {m:Nat} {i:Int} {k:Nat} {p:Str} (hw:Way f.inodes 1 i k):(belowP f.inodes m i p).length≤1000000001:=by
 have h1:=below_len h m i k p hw;have h2:msum (subI f.inodes i) f.inodes≤f.inodes.length*10000:=msum_bound fun x hx=>by
  have:=subI_le f.inodes i x;have:=hl.ents x hx;omega
 have h3:=hl.len;omega
end Go.Eng
set_option linter.unusedVariables false
set_option maxRecDepth 100000
namespace Go.Eng
open Go
end Go.Eng
set_option linter.unusedSimpArgs false
set_option linter.unusedVariables false
namespace Go.Eng
open Go
structure InF (f:Fs):Prop where
 len:f.inodes.length≤1073741824
 ents:∀x∈f.inodes,x.entries.length≤1073741824
end Go.Eng
set_option linter.unusedSimpArgs false
set_option linter.unusedVariables false
set_option linter.unusedSectionVars false
namespace Go.Eng
open Go
def Nm (x:Str):Prop:=x≠ [] ∧∀c∈x,c≠47
theorem mayN_nm {x:Str} (h:mayN x=true):Nm x:=by
 unfold mayN at h;simp only[Bool.and_eq_true,Bool.not_eq_true',beq_eq_false_iff_ne] at h;obtain⟨h1,_,h3,_⟩:=h;refine⟨h1,fun c hc e=> ?_⟩;rw[List.any_eq_false] at h3;have:=h3 c hc;unfold badB at this;rw[e] at this;exact this rfl
theorem mayN_len {x:Str} (h:mayN x=true):x.length≤255:=by
 unfold mayN at h;simp only[Bool.and_eq_true,decide_eq_true_eq] at h;exact h.2.1
theorem mayN_dot {x:Str} (h:mayN x=true):x≠[46]∧x≠[46,46]:=by
 unfold mayN at h;simp only[Bool.and_eq_true,Bool.not_eq_true',beq_eq_false_iff_ne] at h;exact h.2.2.2
theorem flat_47 (ns:List Str) (b:Str):∃r,(ns.flatMap fun x=>47::x)++47::b=47::r:=by
 cases ns with
 |nil=>exact⟨b,rfl⟩
 |cons x ns=>exact⟨x++((ns.flatMap fun x=>47::x)++47::b),by simp⟩
theorem splitN_47 (b:Str):splitN [] (47::b)=splitN [] b:=by simp [splitN]
theorem splitN_flat (b:Str):∀ns:List Str,(∀x∈ns,Nm x)→splitN [] ((ns.flatMap fun x=>47::x)++47::b)=(ns++(splitN [] b).1,(splitN [] b).2)
 | [],_=>by simp [splitN_47]
 |x::ns,h=>by
  have hx:=h x (by simp);obtain⟨r,hr⟩:=flat_47 ns b;have ih:=splitN_flat b ns (fun y hy=>h y (by simp [hy]));rw[hr,splitN_47] at ih;have e:((x::ns).flatMap fun x=>47::x)++47::b=47::(x++47::r):=by
   rw[List.flatMap_cons,List.append_assoc,hr];simp
  rw[e,splitN_47,splitN_app x [] r hx.2,ih,List.nil_append,if_neg hx.1];simp
theorem namesP_flat (b:Str) {ns:List Str} (h:∀x∈ns,Nm x):namesP ((ns.flatMap fun x=>47::x)++47::b)=ns++namesP b:=by
 unfold namesP;rw[splitN_flat b ns h];unfold withLast;simp only;split<;>simp
theorem namesP_one {x:Str} (h:Nm x):namesP x=[x]:=by
 unfold namesP;rw[splitN_none x [] h.2];unfold withLast;rw[List.nil_append,if_neg h.1];rfl
theorem namesP_join {ns:List Str} (h:∀x∈ns,Nm x):namesP (joinP ns)=ns:=by
 unfold joinP;rcases List.eq_nil_or_concat ns with rfl|⟨ns',x,rfl⟩
 ·rfl
 ·rw[List.concat_eq_append] at h⊢
  rw[if_neg (by simp),List.flatMap_append];have e:([x].flatMap fun x=>(47:UInt8)::x)=47::x:=by simp
  rw[e,namesP_flat x (fun y hy=>h y (by simp [hy])),namesP_one (h x (by simp))]
theorem joinP_cons (x:Str) (ns:List Str):joinP (x::ns)=47::x++(ns.flatMap fun x=>47::x):=by unfold joinP;simp
theorem plainP_join {ns:List Str} (h:∀x∈ns,mayN x=true):plainP (joinP ns)=(ns,true):=by
 have:=namesP_join (fun x hx=>mayN_nm (h x hx));unfold plainP;rw[this,if_pos ⟨rfl,by rw[List.all_eq_true];exact h⟩]
theorem plainP_true {p:Str} (h:(plainP p).2=true):joinP (plainP p).1=p∧(∀x∈(plainP p).1,mayN x=true)∧(plainP p).1=namesP p:=by
 unfold plainP at h⊢;split
 ·rename_i h1
  refine⟨h1.1, ?_,rfl⟩;have:=h1.2;rw[List.all_eq_true] at this;exact this
 ·rename_i h1
  rw[if_neg h1] at h;cases h
theorem goAt_none {l:List Inode} {n:Str} {ns:List Str} {s:Spotted} (hf:findI s.ino l=none):goAt l (n::ns) s=(zeroS,1):=by
 simp only[goAt];rw[hf]
theorem goAt_dir {l:List Inode} {n:Str} {ns:List Str} {s:Spotted} {d:Inode} (hf:findI s.ino l=some d) (hk:d.kind=2):goAt l (n::ns) s=goAt l ns ⟨d.ino,n,inoE n d.entries⟩:=by
 simp only[goAt];rw[hf];simp only;rw[if_pos hk]
theorem goAt_file {l:List Inode} {n:Str} {ns:List Str} {s:Spotted} {d:Inode} (hf:findI s.ino l=some d) (hk:d.kind≠2):goAt l (n::ns) s=(zeroS,3):=by
 simp only[goAt];rw[hf];simp only;rw[if_neg hk]
theorem goAt_app (l:List Inode):∀(a b:List Str) (s:Spotted),goAt l (a++b) s=if (goAt l a s).2=0 then goAt l b (goAt l a s).1 else (zeroS,(goAt l a s).2)
 | [],b,s=>by simp [goAt]
 |n::a,b,s=>by
  rw[List.cons_append];cases hf:findI s.ino l with
  |none=>rw[goAt_none hf,goAt_none hf];rfl
  |some d=>
   by_cases hk:d.kind=2
   ·rw[goAt_dir hf hk,goAt_dir hf hk];exact goAt_app l a b _
   ·rw[goAt_file hf hk,goAt_file hf hk];rfl
theorem inoE_find {x:Inode} {n:Str} (h:inoE n x.entries≠0):∃e∈x.entries,e.name=n∧e.ino=inoE n x.entries∧findE n x.entries=some e:=by
 unfold inoE at h⊢;cases hf:findE n x.entries with
 |none=>rw[hf] at h;exact absurd rfl h
 |some e=>exact⟨e,(findK_some hf).1,(findK_some hf).2,rfl,rfl⟩
structure OnW (f:Fs) (m:Nat) (i:Int) (p:Str) (s:Seen) (ns:List Str):Prop where
 may:∀n∈ns,mayN n=true
 len:ns.length≤m
 path:s.path=ns.foldl underP p
 there:∃x,findI s.ino f.inodes=some x
 go:∀sp:Spotted,sp.ino=i→∃t,goAt f.inodes ns sp=(t,0)∧t.ino=s.ino∧(ns= [] →t=sp)
 way:Way f.inodes i s.ino ns.length
structure AtR (f:Fs) (s:Seen) (ns:List Str) (x:Inode) (t:Spotted):Prop where
 may:∀n∈ns,mayN n=true
 len:ns.length≤f.inodes.length+1
 path:s.path=joinP ns
 there:findI s.ino f.inodes=some x
 go:goAt f.inodes ns rootS=(t,0)
 ino:t.ino=s.ino
 nil:ns= [] →t=rootS
theorem AtR.atP {f:Fs} {s:Seen} {ns:List Str} {x:Inode} {t:Spotted} (h:AtR f s ns x t):atP f s.path=(t,0):=by
 unfold Go.Eng.atP;rw[h.path,plainP_join h.may,if_pos rfl,h.go]
theorem AtR.getP {f:Fs} {s:Seen} {ns:List Str} {x:Inode} {t:Spotted} (h:AtR f s ns x t):getP f s.path=(x,0):=by
 unfold Go.Eng.getP;rw[h.atP,if_pos rfl,h.ino,h.there]
theorem ref08_under_eq {p n:Str} (h:p.length+n.length≤4294967290):ref08_under p n=some (underP p n):=by
 unfold ref08_under underP;by_cases h0:p=[47]
 ·subst h0
  rw[bc_t (by simp),lcase_le (by unfold LIM;omega),if_pos rfl]
 ·rw[bc_f (by simp [h0]),if_neg h0,lcase_le (by unfold LIM;simp;omega),lcase_le (by unfold LIM;simp;omega)]
theorem below_r {f:Fs} (h:Tree f) (hl:Lil f):∀(m n:Nat) (i:Int) (k:Nat) (p:Str),m<n→m≤1099511627775→Way f.inodes 1 i k→p.length+m*256≤4294960000→ref08_Below_r n f i p ((m:Int) - 1)=some (belowP f.inodes m i p):=by
 have hlen:=hl.len;intro m;induction m with
 |zero=>
  intro n i k p hn _ hw hp;obtain⟨n,rfl⟩:∃n',n=n'+1:=⟨n - 1,by omega⟩;simp only[ref08_Below_r];rw[ref05_Get_eq (by omega),ocase_some'];cases (findI i f.inodes).isSome
  ·rfl
  ·rfl
 |succ m ih=>
  intro n i k p hn hm hw hp;obtain⟨n,rfl⟩:∃n',n=n'+1:=⟨n - 1,by omega⟩;have e1:((m+1:Nat):Int) - 1=(m:Int):=by omega
  rw[e1];simp only[ref08_Below_r];rw[ref05_Get_eq (by omega),ocase_some'];have htot:=below_le h hl (m:=m+1) (p:=p) hw;rw[belowP] at htot⊢;cases hf:findI i f.inodes with
  |none=>rfl
  |some x=>
   rw[hf] at htot;simp only[Option.isSome_some,Bool.not_true,bcase_false];rw[bc_f (by simp),getI_some hf];have hx:=findK_some hf;have hxl:=hl.ents x hx.1;refine loop_post (l:=x.entries) (fun q j s=>ref08_Below_L6 (ref08_Below_r n) p (m:Int) f x (fun z13=>some z13) q j s) (fun j s=>s=⟨p,i⟩::(x.entries.take j).flatMap fun e=>belowP f.inodes m e.ino (underP p e.name)) (fun r=>r=some (⟨p,i⟩::x.entries.flatMap fun e=>belowP f.inodes m e.ino (underP p e.name))) (by omega) (fun q j e s hj he hi hr=> ?_) (fun q s hi=> ?_) [⟨p,i⟩] (by simp)
   ·simp only[ref08_Below_L6]
    have hem:=List.mem_of_getElem? he;have hnl:=mayN_len ((((rightE_iff _).1 (kind_right (h.kind x hx.1))).2 e hem).1);rw[dec_lt hj,bcase_true,dec_nn,bcase_true,toNat_cast,he,ocase_some',bcase_true,ocase_some',ref08_under_eq (by omega),ocase_some',wrap_id (by omega) (by omega)];have hul:(underP p e.name).length≤p.length+256:=by unfold underP;split<;>simp<;>omega
    rw[ih n e.ino (k+1) (underP p e.name) (by omega) (by omega) (.step hw hf hem) (by omega),ocase_some',wrap_succ (by omega)];have hs':s++belowP f.inodes m e.ino (underP p e.name)=⟨p,i⟩::(x.entries.take (j+1)).flatMap fun e=>belowP f.inodes m e.ino (underP p e.name):=by
     rw[hi,List.take_add_one,he];simp
    rw[lcase_le,hs']
    ·exact hr _ rfl
    ·have h9:(s++belowP f.inodes m e.ino (underP p e.name)).length≤1000000001:=by
      rw[hs'];refine Nat.le_trans ?_ htot;show _≤(⟨p,i⟩::x.entries.flatMap fun e=>belowP f.inodes m e.ino (underP p e.name)).length;conv=>rhs;rw[←List.take_append_drop (j+1) x.entries]
      simp only[List.flatMap_append,List.length_cons,List.length_append];omega
     rw[List.length_append] at h9;unfold LIM;omega
   ·simp only[ref08_Below_L6]
    rw[List.take_length] at hi;rw[dec_ge (Nat.le_refl _),bcase_false,hi]
theorem ref08_Below_eq {f:Fs} (h:Tree f) (hl:Lil f) {m:Nat} {i:Int} {k:Nat} {p:Str} (hm:m≤200000) (hw:Way f.inodes 1 i k) (hp:p.length≤100000):ref08_Below f i p (m:Int)=some (belowP f.inodes (m+1) i p):=by
 unfold ref08_Below;have e:(m:Int)=((m+1:Nat):Int) - 1:=by omega
 rw[e];exact below_r h hl (m+1) FUEL i k p (fuel_ok (by omega)) (by omega) hw (by omega)
theorem eqSeen (a b:Seen):((a.path==b.path)&&(a.ino==b.ino))=true↔a=b:=by cases a;cases b;simp
instance seenDec:DecidableEq Seen:=fun a b=>
 if h:a.path=b.path∧a.ino=b.ino then isTrue (by cases a;cases b;simp at h;simp [h]) else isFalse (by intro e;subst e;exact h ⟨rfl,rfl⟩)
theorem ref08_Same_eq {a b:List Seen} (hl:a.length≤1099511627775):ref08_Same a b=some (decide (a=b)):=by
 unfold ref08_Same;rw[bcase_ite];by_cases h:a.length=b.length
 ·have e:((List.length a:Int) !=(List.length b:Int))=false:=by rw[h];simp
  rw[e,if_neg (by simp)];refine(loop_all (l:=a) (fun m i (_:Unit)=>ref08_Same_L4 a b (some false) (some true) m i) (fun k x (_:Unit) K=>ocase ([] ++b)[k]? fun y=>if decide (x=y) then K () else some false) (fun _=>some true) hl (fun m k x u hk hx=> ?_) (fun m u=> ?_) ()).trans ?_
  ·simp only[ref08_Same_L4]
   rw[dec_lt hk,dec_nn,toNat_cast,hx,wrap_succ (by omega)];simp only[bcase_true,ocase_some',bcase_ite,if_true,List.nil_append];have hk':k<b.length:=by omega
   rw[List.getElem?_eq_getElem hk'];simp only[ocase_some'];have e2:((x.path==b[k].path)&&(x.ino==b[k].ino))=decide (x=b[k]):=by rw[Bool.eq_iff_iff,eqSeen,decide_eq_true_eq]
   rw[e2];by_cases hxy:x=b[k]<;>simp [hxy]
  ·simp only[ref08_Same_L4]
   rw[dec_ge (Nat.le_refl _)];rfl
  ·rw[same_fold _ _ a b 0 [] h rfl]
   by_cases hab:a=b<;>simp [hab]
 ·have e:((List.length a:Int) !=(List.length b:Int))=true:=by rw[bne_iff_ne];omega
  rw[e,if_pos rfl];have:¬a=b:=fun e=>h (by rw[e])
  simp [this]
end Go.Eng
set_option linter.unusedSimpArgs false
set_option linter.unusedVariables false
set_option linter.unusedSectionVars false
namespace Go.Eng
open Go
theorem consI {α:Type} (a:α) (l:List α):((List.length (a::l):Int)==(0:Int))=false:=by
 rw[beq_eq_false_iff_ne];simp only[List.length_cons];omega
theorem consP {α:Type} (a:α) (l:List α):decide ((List.length (a::l):Int)>(0:Int))=true:=by
 simp only[List.length_cons,decide_eq_true_eq];omega
theorem concat_L11 {R:Type} (a b r:List Str) (hr:r.length=a.length+b.length) (hl:a.length+b.length≤1000000) (k2:Nat→List Str→Option R):slices_Concat_string_L11 0 [a,b] ((List.length [a,b]:Nat):Int) k2 FUEL 0 (0:Int) r=k2 (a.length+b.length) (a++b):=by
 obtain⟨m,hm⟩:=fuel3;rw[hm];have w1:IntKind.i64.wrap ((0:Int)+1)=1:=by rw[wrap_id (by omega) (by omega)];rfl
 have w2:IntKind.i64.wrap ((1:Int)+1)=2:=by rw[wrap_id (by omega) (by omega)];rfl
 simp only[slices_Concat_string_L11];have g0:([a,b]:List (List Str))[Int.toNat (0:Int)]? =some a:=rfl;have g1:([a,b]:List (List Str))[Int.toNat (1:Int)]? =some b:=rfl;rw[bc_t (by simp),bc_t (by decide),g0,ocase_some',bc_t (by simp;omega),w1,bc_t (by simp),bc_t (by decide),g1,ocase_some',w2];have e1:(r.take (0+0)++(a++r.drop (0+0+a.length)))=a++r.drop a.length:=by simp
 rw[e1];have hl1:(a++r.drop a.length).length=a.length+b.length:=by simp;omega
 rw[bc_t (by rw[hl1];simp),bc_f (by simp)];congr 1
 ·omega
 ·have e2:(a++r.drop a.length).take (0+(0+a.length))=a:=by simp
  have e3:(a++r.drop a.length).drop (0+(0+a.length)+b.length)= [] :=by rw[List.drop_eq_nil_of_le];rw[hl1];omega
  rw[e2,e3];simp
theorem concat_eq (a b:List Str) (hl:a.length+b.length≤1000000):slices_Concat_string [a,b]=some (a++b):=by
 unfold slices_Concat_string;have w1:IntKind.i64.wrap ((0:Int)+1)=1:=by rw[wrap_id (by omega) (by omega)];rfl
 have w2:IntKind.i64.wrap ((1:Int)+1)=2:=by rw[wrap_id (by omega) (by omega)];rfl
 have g0:([a,b]:List (List Str))[Int.toNat (0:Int)]? =some a:=rfl;have g1:([a,b]:List (List Str))[Int.toNat (1:Int)]? =some b:=rfl;have key:∀(k0:Int→Option (List Str)),slices_Concat_string_L3 [a,b] (List.length [a,b]:Int) k0 FUEL (0:Int) (0:Int)=k0 ((a.length+b.length:Nat):Int):=by
  intro k0;obtain⟨m,hm⟩:=fuel3;rw[hm];simp only[slices_Concat_string_L3];have s1:IntKind.i64.wrap ((0:Int)+(List.length a:Int))=(a.length:Int):=by rw[wrap_id (by omega) (by omega)];omega
  have s2:IntKind.i64.wrap ((List.length a:Int)+(List.length b:Int))=((a.length+b.length:Nat):Int):=by rw[wrap_id (by omega) (by omega)];omega
  rw[bc_t (by simp),bc_t (by decide),g0,ocase_some',s1,bc_f (by simp),w1,bc_t (by simp),bc_t (by decide),g1,ocase_some',s2,bc_f (by simp;omega),w2,bc_f (by simp)]
 rw[key];have s0:IntKind.i64.wrap ((0:Int) - (List.length ([] :List Str):Int))=0:=by rw[wrap_id (by simp) (by simp)];rfl
 rw[s0];have s1:IntKind.i64.wrap (((a.length+b.length:Nat):Int) - 0)=((a.length+b.length:Nat):Int):=by rw[wrap_id (by omega) (by omega)];omega
 rw[s1,bc_f (by simp;omega)];have fin:∀(r:List Str),r.length=a.length+b.length→slices_Concat_string_L11 0 [a,b] (List.length [a,b]:Int) (fun z22 z23=>bcase (Nat.ble (0+z22) z23.length) (some ((z23.drop 0).take z22)) (none)) FUEL 0 (0:Int) r=some (a++b):=by
  intro r hr;rw[concat_L11 a b r hr hl,bc_t (by simp)];rw[List.drop_zero,List.take_of_length_le (by simp)]
 by_cases h0:a.length+b.length=0
 ·rw[bc_f (by simp;omega)]
  exact fin [] (by simp;omega)
 ·rw[bc_t (by simp;omega),bc_t (by simp;omega),lcase_le (by unfold LIM;simp;omega),bc_t (by simp;omega)]
  exact fin _ (by simp;omega)
structure WS (f:Fs):Prop where
 wf:WF f
 par:∀x∈f.inodes,x.kind=2→∃y,findI x.parent f.inodes=some y∧y.kind=2
 sym:∀x∈f.inodes,x.kind=3→x.data.length≤4095
 rootk:∃r,findI 1 f.inodes=some r∧r.kind=2
theorem kind_sym {x:Inode} (h:kindB x=true) (hk:x.kind=3):x.data.length≤4095∧1≤x.data.length:=by
 rw[kind3 hk] at h;simp only[Bool.and_eq_true,decide_eq_true_eq] at h;exact⟨h.2.2.1.2,h.2.2.1.1⟩
theorem Tree.ws {f:Fs} (h:Tree f) (hw:WF f):WS f where
 wf:=hw
 par:=fun x hx hk=>by
  obtain⟨r,hr,hk',hp⟩:=h.root;by_cases h1:x.ino=1
  ·have:=findI_mem' h.sort hx h1
   rw[hr] at this;cases this;exact⟨_,by rw[hp];exact hr,hk'⟩
  ·obtain⟨d,hd,e,he,hn⟩:=(h.led x hx).named h1
   have:=h.par x hx hk d hd e he hn;exact⟨d,by rw[this];exact findI_mem h.sort hd,kind_ents (h.kind d hd) he⟩
 sym:=fun x hx hk=>(kind_sym (h.kind x hx) hk).1
 rootk:=by obtain⟨r,hr,hk,_⟩:=h.root;exact⟨r,hr,hk⟩
def endP (l:List Inode) (dir:Bool) (s:Spotted):Spotted×Int:=match findI s.ino l with
 |some x=>if dir=true∧x.kind≠2 then (zeroS,3) else (s,0)
 |none=>(s,0)
def stepIn (l:List Inode) (fol:Bool) (lnk:Bool→Inode→Inode→List Str→Spotted×Int) (dir:Bool):List Str→Spotted→Spotted×Int
 | [],s=>endP l dir s
 |n::rest,s=>match findI s.ino l with
  |none=>(zeroS,1)
  |some d=>if d.kind=2 then (if n=[46] then stepIn l fol lnk dir rest ⟨0, [],d.ino⟩ else if n=[46,46] then stepIn l fol lnk dir rest ⟨0, [],d.parent⟩
   else if (getI (inoE n d.entries) l).kind=3∧(rest≠ [] ∨fol=true∨dir=true) then lnk dir (getI (inoE n d.entries) l) d rest
   else stepIn l fol lnk dir rest ⟨d.ino,n,inoE n d.entries⟩) else (zeroS,3)
def onK (l:List Inode) (fol:Bool):Nat→Bool→List Str→Spotted→Spotted×Int
 |0=>stepIn l fol fun _ _ _ _=>(zeroS,6)
 |k+1=>stepIn l fol fun dir x d rest=>if longP x.data=true then (zeroS,7) else onK l fol k (dir||((readP x.data).slash&&rest.isEmpty)) ((readP x.data).names++rest) ⟨0, [],if (readP x.data).abs=true then 1 else d.ino⟩
def homeP (f:Fs) (base:Str):Int×Int:=if (getP f base).2=0 then (if (getP f base).1.kind=2 then ((getP f base).1.ino,0) else (0,3)) else (0,(getP f base).2)
def seekP (f:Fs) (base p:Str) (fol:Bool):Spotted×Int:=
 if p= [] then (zeroS,1) else if longP p=true then (zeroS,7) else
 if (readP p).abs=true then onK f.inodes fol 40 (readP p).slash (readP p).names rootS else
 if (homeP f base).2=0 then onK f.inodes fol 40 (readP p).slash (readP p).names ⟨0, [],(homeP f base).1⟩ else (zeroS,(homeP f base).2)
def lnkK (l:List Inode) (fol:Bool):Nat→Bool→Inode→Inode→List Str→Spotted×Int
 |0=>fun _ _ _ _=>(zeroS,6)
 |k+1=>fun dir x d rest=>if longP x.data=true then (zeroS,7) else onK l fol k (dir||((readP x.data).slash&&rest.isEmpty)) ((readP x.data).names++rest) ⟨0, [],if (readP x.data).abs=true then 1 else d.ino⟩
theorem onK_eq (l:List Inode) (fol:Bool) (k:Nat):onK l fol k=stepIn l fol (lnkK l fol k):=by cases k<;>rfl
section
variable {l:List Inode} {fol dir:Bool} {lnk:Bool→Inode→Inode→List Str→Spotted×Int} {n:Str} {rest:List Str} {s:Spotted} {d:Inode}
theorem stepIn_none (hf:findI s.ino l=none):stepIn l fol lnk dir (n::rest) s=(zeroS,1):=by simp only[stepIn];rw[hf]
theorem stepIn_file (hf:findI s.ino l=some d) (hk:d.kind≠2):stepIn l fol lnk dir (n::rest) s=(zeroS,3):=by simp only[stepIn];rw[hf];simp only;rw[if_neg hk]
theorem stepIn_dot (hf:findI s.ino l=some d) (hk:d.kind=2) (hn:n=[46]):stepIn l fol lnk dir (n::rest) s=stepIn l fol lnk dir rest ⟨0, [],d.ino⟩:=by simp only[stepIn];rw[hf];simp only;rw[if_pos hk,if_pos hn]
theorem stepIn_up (hf:findI s.ino l=some d) (hk:d.kind=2) (hn:n=[46,46]):stepIn l fol lnk dir (n::rest) s=stepIn l fol lnk dir rest ⟨0, [],d.parent⟩:=by simp only[stepIn];rw[hf];simp only;rw[if_pos hk,if_neg (by rw[hn];decide),if_pos hn]
theorem stepIn_link (hf:findI s.ino l=some d) (hk:d.kind=2) (h1:n≠[46]) (h2:n≠[46,46]) (h3:(getI (inoE n d.entries) l).kind=3∧(rest≠ [] ∨fol=true∨dir=true)):stepIn l fol lnk dir (n::rest) s=lnk dir (getI (inoE n d.entries) l) d rest:=by simp only[stepIn];rw[hf];simp only;rw[if_pos hk,if_neg h1,if_neg h2,if_pos h3]
theorem stepIn_on (hf:findI s.ino l=some d) (hk:d.kind=2) (h1:n≠[46]) (h2:n≠[46,46]) (h3:¬((getI (inoE n d.entries) l).kind=3∧(rest≠ [] ∨fol=true∨dir=true))):stepIn l fol lnk dir (n::rest) s=stepIn l fol lnk dir rest ⟨d.ino,n,inoE n d.entries⟩:=by simp only[stepIn];rw[hf];simp only;rw[if_pos hk,if_neg h1,if_neg h2,if_neg h3]
end
theorem readP_names (s:Str):(readP s).names=namesP s:=rfl
theorem namesP_len' (s:Str):(namesP s).length≤s.length+1:=by have:=namesP_len s;omega
theorem getI_kind3 {f:Fs} {i:Int} (h:(getI i f.inodes).kind=3):∃x,findI i f.inodes=some x∧getI i f.inodes=x:=by
 cases hf:findI i f.inodes with
 |none=>rw[getI_none hf] at h;cases h
 |some x=>exact⟨x,rfl,getI_some hf⟩
def wt:Nat→Nat
 |0=>0
 |k+1=>wt k+210000
theorem wt40:wt 40=8400000:=rfl
theorem seek_loop {f:Fs} (h:WS f) (fol:Bool) (kr:Int→Option (Spotted×Int)) (k0:Bool→(List Str)→Int→Str→Int→Int→Option (Spotted×Int)) (hkr:∀z,kr z=some (zeroS,z)) (hk0:∀dir s z,k0 dir [] s.dir s.name s.ino z=some (endP f.inodes dir s)):
 ∀(n k:Nat) (dir:Bool) (todo:List Str) (s:Spotted),k≤40→todo.length≤5000*(41 - k)→wt k+todo.length<n→
  seek_Seek_25_L1 f.maxInodes f.maxBytes f.next f.inodes fol kr k0 n dir todo s.dir s.name s.ino ((40 - k:Nat):Int)=some (onK f.inodes fol k dir todo s):=by
 intro n;induction n with
 |zero=>intro k dir todo s _ _ h;omega
 |succ n ih=>
  intro k dir todo s hk ht hn;simp only[seek_Seek_25_L1];rw[onK_eq];cases todo with
  |nil=>rw[bc_f (by simp)];exact hk0 _ _ _
  |cons nm rest=>
   have hti:Int.toNat (0:Int)=0:=rfl;have ht1:Int.toNat (1:Int)=1:=rfl;simp only[List.length_cons] at ht hn;have ih':∀(s':Spotted),seek_Seek_25_L1 f.maxInodes f.maxBytes f.next f.inodes fol kr k0 n dir rest s'.dir s'.name s'.ino ((40 - k:Nat):Int)=some (stepIn f.inodes fol (lnkK f.inodes fol k) dir rest s'):=fun s'=>by
    rw[ih k dir rest s' hk (by omega) (by omega),onK_eq]
   rw[bc_t (consP _ _),bc_t (by decide),hti,List.getElem?_cons_zero,ocase_some',ht1,bc_t (by simp;omega),List.drop_one,List.tail_cons];have hget:∀m,table_Get (⟨f.maxInodes,f.maxBytes,f.next,f.inodes⟩:Fs) m=some (getI m f.inodes,(findI m f.inodes).isSome):=fun m=>h.wf.get m
   rw[hget,ocase_some'];cases hf:findI s.ino f.inodes with
   |none=>rw[stepIn_none hf,bc_t (by simp),hkr]
   |some d=>
    simp only[Option.isSome_some,Bool.not_true,bcase_false];rw[getI_some hf,bneI];by_cases hk2:d.kind=2
    case neg=>rw[stepIn_file hf hk2,bc_t (by simp [hk2]),hkr]
    rw[bc_f (by simp [hk2])];by_cases hd1:nm=[46]
    ·rw[stepIn_dot hf hk2 hd1,bc_t (by simp [hd1])];exact ih' ⟨0, [],d.ino⟩
    rw[bc_f (by simp [hd1])];by_cases hd2:nm=[46,46]
    ·rw[stepIn_up hf hk2 hd2,bc_t (by simp [hd2])];exact ih' ⟨0, [],d.parent⟩
    have hdm:=h.wf.found hf;rw[bc_f (by simp [hd2]),entry_Find_ino (h.wf.sortE hdm.1) (h.wf.sm.ents d hdm.1),ocase_some',hget,ocase_some'];simp only;rw[beqI];by_cases hk3:(getI (inoE nm d.entries) f.inodes).kind=3
    ·obtain⟨x,hx,hgx⟩:=getI_kind3 hk3
     rw[hgx] at hk3;have hxm:=h.wf.found hx;have hxl:=h.sym x hxm.1 hk3;rw[hgx,bc_t (by simp [hk3])];have hnl:(namesP x.data).length≤4096:=by have:=namesP_len' x.data;omega
     have blk:bcase (decide ((IntKind.i64.wrap (((40 - k:Nat):Int)+(1:Int)))>(40:Int))) ((kr (6:Int))) (ocase (path_Long x.data) fun y26=>
 bcase y26 ((kr (7:Int))) (ocase (path_Read x.data) fun y27=>
 bcase dir (ocase (slices_Concat_string [y27.names,rest]) fun y28=>
 bcase y27.abs ((seek_Seek_25_L1 f.maxInodes f.maxBytes f.next f.inodes fol kr k0 n true y28 0 [] (1:Int) (IntKind.i64.wrap (((40 - k:Nat):Int)+(1:Int))))) ((seek_Seek_25_L1 f.maxInodes f.maxBytes f.next f.inodes fol kr k0 n true y28 0 [] d.ino (IntKind.i64.wrap (((40 - k:Nat):Int)+(1:Int)))))) (
 bcase y27.slash (ocase (slices_Concat_string [y27.names,rest]) fun y29=>
 bcase y27.abs ((seek_Seek_25_L1 f.maxInodes f.maxBytes f.next f.inodes fol kr k0 n ((List.length rest:Int)==(0:Int)) y29 0 [] (1:Int) (IntKind.i64.wrap (((40 - k:Nat):Int)+(1:Int))))) ((seek_Seek_25_L1 f.maxInodes f.maxBytes f.next f.inodes fol kr k0 n ((List.length rest:Int)==(0:Int)) y29 0 [] d.ino (IntKind.i64.wrap (((40 - k:Nat):Int)+(1:Int)))))) (ocase (slices_Concat_string [y27.names,rest]) fun y30=>
 bcase y27.abs ((seek_Seek_25_L1 f.maxInodes f.maxBytes f.next f.inodes fol kr k0 n false y30 0 [] (1:Int) (IntKind.i64.wrap (((40 - k:Nat):Int)+(1:Int))))) ((seek_Seek_25_L1 f.maxInodes f.maxBytes f.next f.inodes fol kr k0 n false y30 0 [] d.ino (IntKind.i64.wrap (((40 - k:Nat):Int)+(1:Int)))))))))=some (lnkK f.inodes fol k dir x d rest):=by
      cases k with
      |zero=>
       have e:IntKind.i64.wrap (((40 - 0:Nat):Int)+1)=41:=by rw[wrap_id (by omega) (by omega)];rfl
       rw[e,bc_t (by decide),hkr];rfl
      |succ k=>
       have e:IntKind.i64.wrap (((40 - (k+1):Nat):Int)+1)=((40 - k:Nat):Int):=by rw[wrap_id (by omega) (by omega)];omega
       rw[e,bc_f (by simp;omega),path_Long_eq (by omega),ocase_some'];simp only[lnkK];cases hlong:longP x.data
       case true=>rw[bcase_true,hkr,if_pos rfl]
       rw[bcase_false,path_Read_eq (by omega),ocase_some',if_neg (by simp)];have hcat:slices_Concat_string [(readP x.data).names,rest]=some ((readP x.data).names++rest):=concat_eq _ _ (by rw[readP_names];omega);have go:∀(dir':Bool),bcase (readP x.data).abs (seek_Seek_25_L1 f.maxInodes f.maxBytes f.next f.inodes fol kr k0 n dir' ((readP x.data).names++rest) 0 [] (1:Int) ((40 - k:Nat):Int)) (seek_Seek_25_L1 f.maxInodes f.maxBytes f.next f.inodes fol kr k0 n dir' ((readP x.data).names++rest) 0 [] d.ino ((40 - k:Nat):Int))=some (onK f.inodes fol k dir' ((readP x.data).names++rest) ⟨0, [],if (readP x.data).abs=true then 1 else d.ino⟩):=by
        intro dir';have hlen:((readP x.data).names++rest).length≤rest.length+4096:=by rw[List.length_append,readP_names];omega
        have b1:((readP x.data).names++rest).length≤5000*(41 - k):=by clear ih ih';omega
        have b2:wt k+((readP x.data).names++rest).length<n:=by clear ih ih';simp only[wt] at hn;omega
        cases (readP x.data).abs
        ·exact ih k dir' _ ⟨0, [],d.ino⟩ (by omega) b1 b2
        ·exact ih k dir' _ ⟨0, [],1⟩ (by omega) b1 b2
       simp only[hcat,ocase_some',go];cases dir
       ·rw[bcase_false]
        cases (readP x.data).slash
        ·simp
        ·rw[bcase_true]
         congr 2;cases rest<;>simp<;>omega
       ·rw[bcase_true,Bool.true_or]
     by_cases hr:rest= []
     ·subst hr
      rw[bc_f (by simp)];cases fol
      ·rw[bcase_false]
       cases dir
       ·rw[bcase_false,stepIn_on hf hk2 hd1 hd2 (by simp)]
        exact ih' ⟨d.ino,nm,inoE nm d.entries⟩
       ·rw[bcase_true,stepIn_link hf hk2 hd1 hd2 ⟨by rw[hgx];exact hk3,Or.inr (Or.inr rfl)⟩,hgx]
        exact blk
      ·rw[bcase_true,stepIn_link hf hk2 hd1 hd2 ⟨by rw[hgx];exact hk3,Or.inr (Or.inl rfl)⟩,hgx]
       exact blk
     ·rw[bc_t (by cases rest with|nil=>exact absurd rfl hr|cons a b=>exact consP _ _),stepIn_link hf hk2 hd1 hd2 ⟨by rw[hgx];exact hk3,Or.inl hr⟩,hgx]
      exact blk
    ·rw[bc_f (by simp [hk3]),stepIn_on hf hk2 hd1 hd2 (fun h9=>hk3 h9.1)]
     exact ih' ⟨d.ino,nm,inoE nm d.entries⟩
theorem seek_Home_eq {f:Fs} (h:WF f) {base:Str} (hb:base.length≤8388608):seek_Home f base=some (homeP f base):=by
 unfold seek_Home homeP;rw[place_Get_eq h hb,ocase_some',bneI,bneI];by_cases h1:(getP f base).2=0
 ·rw[bc_f (by simp [h1]),if_pos h1]
  by_cases h2:(getP f base).1.kind=2
  ·rw[bc_f (by simp [h2]),if_pos h2]
  ·rw[bc_t (by simp [h2]),if_neg h2]
 ·rw[bc_t (by simp [h1]),if_neg h1]
theorem ref10_Home_eq {f:Fs} (h:WF f) {base:Str} (hb:base.length≤8388608):ref10_Home f base=some (homeP f base):=by
 unfold ref10_Home homeP;rw[ref09_Get_eq h hb,ocase_some',bneI,bneI];by_cases h1:(getP f base).2=0
 ·rw[bc_f (by simp [h1]),if_pos h1]
  by_cases h2:(getP f base).1.kind=2
  ·rw[bc_f (by simp [h2]),if_pos h2]
  ·rw[bc_t (by simp [h2]),if_neg h2]
 ·rw[bc_t (by simp [h1]),if_neg h1]
theorem longP_len {p:Str} (h:longP p=false):p.length≤4095:=by
 unfold longP at h;simp only[Bool.or_eq_false_iff,decide_eq_false_iff_not] at h;omega
theorem seek_Seek_eq {f:Fs} (h:WS f) {base p:Str} {fol:Bool} (hb:base.length≤8388608) (hp:p.length≤1073741823):seek_Seek f base p fol=some (seekP f base p fol):=by
 unfold seek_Seek seekP;by_cases h0:p= []
 ·rw[bc_t (by simp [h0]),if_pos h0];rfl
 rw[bc_f (by simp [h0]),if_neg h0,path_Long_eq hp,ocase_some'];cases hl:longP p
 case true=>rw[bcase_true,if_pos rfl];rfl
 have hlen:=longP_len hl;rw[bcase_false,if_neg (by simp),path_Read_eq hp,ocase_some'];have hjudge:∀(z53:Bool) (s:Spotted),(ocase (table_Get f s.ino) fun y59=>bcase y59.2 (bcase z53 (bcase (y59.1.kind !=(2:Int)) (some ((⟨0, [],0⟩:Spotted),(3:Int))) (some ((⟨s.dir,s.name,s.ino⟩:Spotted),(0:Int)))) (some ((⟨s.dir,s.name,s.ino⟩:Spotted),(0:Int)))) (some ((⟨s.dir,s.name,s.ino⟩:Spotted),(0:Int))))=some (endP f.inodes z53 s):=by
  intro z s;rw[h.wf.get,ocase_some'];unfold endP;cases hf:findI s.ino f.inodes with
  |none=>rfl
  |some x=>
   rw[getI_some hf,bneI];simp only[Option.isSome_some,bcase_true];cases z
   ·simp
   ·by_cases hk:x.kind=2
    ·simp [hk]
    ·simp [hk];rfl
 have hnm:(readP p).names.length≤4096:=by rw[readP_names];have:=namesP_len' p;omega
 have go:∀(s:Spotted),seek_Seek_25_L1 f.maxInodes f.maxBytes f.next f.inodes fol (fun z52=>some ((⟨((⟨0, [],0⟩:Spotted).dir),((⟨0, [],0⟩:Spotted).name),((⟨0, [],0⟩:Spotted).ino)⟩:Spotted),z52)) (fun z53 z54 z55 z56 z57 z58=>ocase (table_Get f z57) fun y59=>
  bcase y59.2 (
  bcase z53 (
  bcase (y59.1.kind !=(2:Int)) (some ((⟨0, [],0⟩:Spotted),(3:Int))) (some ((⟨z55,z56,z57⟩:Spotted),(0:Int)))) (some ((⟨z55,z56,z57⟩:Spotted),(0:Int)))) (some ((⟨z55,z56,z57⟩:Spotted),(0:Int)))) FUEL (readP p).slash (readP p).names s.dir s.name s.ino (0:Int)=some (onK f.inodes fol 40 (readP p).slash (readP p).names s):=fun s=>
  seek_loop h fol _ _ (fun z=>rfl) (fun dir s z=>hjudge dir s) FUEL 40 (readP p).slash (readP p).names s (Nat.le_refl _) (by omega) (fuel_ok (by rw[wt40];omega))
 cases (readP p).abs
 ·simp only[Bool.not_false,bcase_true,Bool.false_eq_true,if_false]
  rw[seek_Home_eq h.wf hb,ocase_some',bneI];by_cases h2:(homeP f base).2=0
  ·rw[bc_f (by simp [h2]),if_pos h2]
   exact go ⟨0, [],(homeP f base).1⟩
  ·rw[bc_t (by simp [h2]),bc_t (by simp [h2]),if_neg h2];rfl
 ·simp only[Bool.not_true,bcase_false,if_true]
  exact go rootS
theorem on_r {f:Fs} (h:WS f) (fol:Bool):∀(n k:Nat) (dir:Bool) (todo:List Str) (s:Spotted),(s.ino=0∨(findI s.ino f.inodes).isSome=true)→k≤40→todo.length≤5000*(41 - k)→wt k+todo.length<n→
 ref10_on_r n f s todo fol dir ((40 - k:Nat):Int)=some (onK f.inodes fol k dir todo s):=by
 intro n;induction n with
 |zero=>intro k dir todo s _ _ _ h;omega
 |succ n ih=>
  intro k dir todo s hs hk ht hn;simp only[ref10_on_r];rw[onK_eq];cases todo with
  |nil=>
   rw[bc_t (by simp),h.wf.rget,ocase_some'];show _=some (endP f.inodes dir s);unfold endP;cases hf:findI s.ino f.inodes with
   |none=>rfl
   |some x=>
    rw[getI_some hf,bneI];simp only[Option.isSome_some,bcase_true];cases dir
    ·simp
    ·by_cases hk:x.kind=2
     ·simp [hk]
     ·simp [hk];rfl
  |cons nm rest=>
   have hti:Int.toNat (0:Int)=0:=rfl;have ht1:Int.toNat (1:Int)=1:=rfl;simp only[List.length_cons] at ht hn;have ih':∀(s':Spotted),(s'.ino=0∨(findI s'.ino f.inodes).isSome=true)→(ocase (ref10_on_r n f s' rest fol dir ((40 - k:Nat):Int)) fun y4=>some (y4.1,y4.2))=some (stepIn f.inodes fol (lnkK f.inodes fol k) dir rest s'):=fun s' hs'=>by
    rw[ih k dir rest s' hs' hk (by omega) (by omega),onK_eq];rfl
   rw[bc_f (consI _ _),beqI];by_cases h0:s.ino=0
   ·rw[bc_t (by simp [h0]),stepIn_none (by rw[h0];exact h.wf.zero)];rfl
   rw[bc_f (by simp [h0]),h.wf.rget,ocase_some'];obtain⟨d,hf⟩:=Option.isSome_iff_exists.1 (hs.resolve_left h0);rw[getI_some hf,bneI];by_cases hk2:d.kind=2
   case neg=>rw[stepIn_file hf hk2,bc_t (by simp [hk2])];rfl
   rw[bc_f (by simp [hk2]),bc_t (by decide),hti,List.getElem?_cons_zero,ocase_some',ht1,bc_t (by simp;omega),List.drop_one,List.tail_cons];have hdm:=h.wf.found hf;by_cases hd1:nm=[46]
   ·rw[stepIn_dot hf hk2 hd1,bc_t (by simp [hd1])]
    exact ih' ⟨0, [],d.ino⟩ (Or.inr (by rw[hdm.2,hf];rfl))
   rw[bc_f (by simp [hd1])];by_cases hd2:nm=[46,46]
   ·rw[stepIn_up hf hk2 hd2,bc_t (by simp [hd2])]
    exact ih' ⟨0, [],d.parent⟩ (Or.inr (by obtain⟨y,hy,_⟩:=h.par d hdm.1 hk2;rw[hy];rfl))
   rw[bc_f (by simp [hd2]),ref04_Find_ino (h.wf.sm.ents d hdm.1),ocase_some',h.wf.rget,ocase_some'];simp only;have hon:=ih' ⟨d.ino,nm,inoE nm d.entries⟩ (inoE_there h.wf hdm.1 nm);rw[bneI];by_cases hk3:(getI (inoE nm d.entries) f.inodes).kind=3
   ·obtain⟨x,hx,hgx⟩:=getI_kind3 hk3
    rw[hgx] at hk3;have hxm:=h.wf.found hx;have hxl:=h.sym x hxm.1 hk3;have hne:inoE nm d.entries≠0:=by intro e;rw[e,h.wf.zero] at hx;cases hx
    obtain⟨e,_,_,_,he4⟩:=inoE_find hne;rw[he4,hgx,bc_f (by simp),bc_f (by simp [hk3])];have hnl:(namesP x.data).length≤4096:=by have:=namesP_len' x.data;omega
    have blk:bcase ((((40 - k:Nat):Int))==(40:Int)) (some ((⟨0, [],0⟩:Spotted),(6:Int))) (ocase (ref03_Long x.data) fun y11=>
 bcase y11 (some ((⟨0, [],0⟩:Spotted),(7:Int))) (ocase (ref03_Read x.data) fun y12=>
 bcase y12.abs (
 bcase y12.slash (
 bcase ((List.length rest:Int)==(0:Int)) (lcase (([] :List Str).length+y12.names.length) (lcase (y12.names.length+rest.length) (ocase (ref10_on_r n f (⟨0, [],(1:Int)⟩:Spotted) (y12.names++rest) fol true (IntKind.i64.wrap (((40 - k:Nat):Int)+(1:Int)))) fun y13=>some (y13.1,y13.2)))) (lcase (([] :List Str).length+y12.names.length) (lcase (y12.names.length+rest.length) (ocase (ref10_on_r n f (⟨0, [],(1:Int)⟩:Spotted) (y12.names++rest) fol dir (IntKind.i64.wrap (((40 - k:Nat):Int)+(1:Int)))) fun y14=>some (y14.1,y14.2))))) (lcase (([] :List Str).length+y12.names.length) (lcase (y12.names.length+rest.length) (ocase (ref10_on_r n f (⟨0, [],(1:Int)⟩:Spotted) (y12.names++rest) fol dir (IntKind.i64.wrap (((40 - k:Nat):Int)+(1:Int)))) fun y15=>some (y15.1,y15.2))))) (
 bcase y12.slash (
 bcase ((List.length rest:Int)==(0:Int)) (lcase (([] :List Str).length+y12.names.length) (lcase (y12.names.length+rest.length) (ocase (ref10_on_r n f (⟨0, [],d.ino⟩:Spotted) (y12.names++rest) fol true (IntKind.i64.wrap (((40 - k:Nat):Int)+(1:Int)))) fun y16=>some (y16.1,y16.2)))) (lcase (([] :List Str).length+y12.names.length) (lcase (y12.names.length+rest.length) (ocase (ref10_on_r n f (⟨0, [],d.ino⟩:Spotted) (y12.names++rest) fol dir (IntKind.i64.wrap (((40 - k:Nat):Int)+(1:Int)))) fun y17=>some (y17.1,y17.2))))) (lcase (([] :List Str).length+y12.names.length) (lcase (y12.names.length+rest.length) (ocase (ref10_on_r n f (⟨0, [],d.ino⟩:Spotted) (y12.names++rest) fol dir (IntKind.i64.wrap (((40 - k:Nat):Int)+(1:Int)))) fun y18=>some (y18.1,y18.2)))))))=some (lnkK f.inodes fol k dir x d rest):=by
     cases k with
     |zero=>rw[bc_t (by simp)];rfl
     |succ k=>
      have e:IntKind.i64.wrap (((40 - (k+1):Nat):Int)+1)=((40 - k:Nat):Int):=by rw[wrap_id (by omega) (by omega)];omega
      rw[e,bc_f (by rw[beqI];simp;omega),ref03_Long_eq (by omega),ocase_some'];simp only[lnkK];cases hlong:longP x.data
      case true=>rw[bcase_true,if_pos rfl];rfl
      rw[bcase_false,ref03_Read_eq (by omega),ocase_some',if_neg (by simp)];have hlen:((readP x.data).names++rest).length≤rest.length+4096:=by rw[List.length_append,readP_names];omega
      have go:∀(dir':Bool) (s':Spotted),(s'.ino=0∨(findI s'.ino f.inodes).isSome=true)→lcase (([] :List Str).length+(readP x.data).names.length) (lcase ((readP x.data).names.length+rest.length) (ocase (ref10_on_r n f s' ((readP x.data).names++rest) fol dir' ((40 - k:Nat):Int)) fun y13=>some (y13.1,y13.2)))=some (onK f.inodes fol k dir' ((readP x.data).names++rest) s'):=by
       intro dir' s' hs';have h7:(readP x.data).names.length≤4096:=by rw[readP_names];omega
       rw[lcase_le (by unfold LIM;simp;omega),lcase_le (by unfold LIM;omega),ih k dir' _ s' hs' (by omega) (by clear ih ih';omega) (by clear ih ih';simp only[wt] at hn;omega)];rfl
      have r1:=fun dir'=>go dir' ⟨0, [],1⟩ (Or.inr h.wf.root)
      have r2:=fun dir'=>go dir' ⟨0, [],d.ino⟩ (Or.inr (by rw[hdm.2,hf];rfl))
      simp only[r1,r2];cases (readP x.data).abs
      ·cases (readP x.data).slash
       ·simp
       ·cases rest
        ·simp
        ·simp only[bcase_true,bcase_false,consI];simp
      ·cases (readP x.data).slash
       ·simp
       ·cases rest
        ·simp
        ·simp only[bcase_true,bcase_false,consI];simp
    by_cases hr:rest= []
    ·subst hr
     rw[bc_t (by simp)];cases fol
     ·cases dir
      ·simp only[Bool.not_false,bcase_true]
       rw[stepIn_on hf hk2 hd1 hd2 (by simp)];exact hon
      ·simp only[Bool.not_false,bcase_true,Bool.not_true,bcase_false]
       rw[stepIn_link hf hk2 hd1 hd2 ⟨by rw[hgx];exact hk3,Or.inr (Or.inr rfl)⟩,hgx];exact blk
     ·simp only[Bool.not_true,bcase_false]
      rw[stepIn_link hf hk2 hd1 hd2 ⟨by rw[hgx];exact hk3,Or.inr (Or.inl rfl)⟩,hgx];exact blk
    ·rw[bc_f (by cases rest with|nil=>exact absurd rfl hr|cons a b=>exact consI _ _),stepIn_link hf hk2 hd1 hd2 ⟨by rw[hgx];exact hk3,Or.inl hr⟩,hgx]
     exact blk
   ·rw[bc_t (b:= !decide _) (by simp [hk3]),stepIn_on hf hk2 hd1 hd2 (fun h9=>hk3 h9.1)]
    cases hfe:(findE nm d.entries).isSome
    ·rw[bc_t (by simp)];exact hon
    ·rw[bc_f (by simp)];exact hon
theorem homeP_there {f:Fs} (h:WF f) {base:Str}:(homeP f base).1=0∨(findI (homeP f base).1 f.inodes).isSome=true:=by
 unfold homeP getP;by_cases h1:(atP f base).2=0
 ·simp only[h1,if_true]
  cases hf:findI (atP f base).1.ino f.inodes with
  |none=>left;rfl
  |some x=>
   simp only[if_true];split
   ·right
    simp only;have:=h.found hf;rw[this.2,hf];rfl
   ·left;rfl
 ·left
  simp only[h1,if_false]
theorem ref10_Seek_eq {f:Fs} (h:WS f) {base p:Str} {fol:Bool} (hb:base.length≤8388608) (hp:p.length≤1073741823):ref10_Seek f base p fol=some (seekP f base p fol):=by
 unfold ref10_Seek seekP;by_cases h0:p= []
 ·rw[bc_t (by simp [h0]),if_pos h0];rfl
 rw[bc_f (by simp [h0]),if_neg h0,ref03_Long_eq hp,ocase_some'];cases hl:longP p
 case true=>rw[bcase_true,if_pos rfl];rfl
 have hlen:=longP_len hl;rw[bcase_false,if_neg (by simp),ref03_Read_eq hp,ocase_some'];have hnm:(readP p).names.length≤4096:=by rw[readP_names];have:=namesP_len' p;omega
 have go:∀(s:Spotted),(s.ino=0∨(findI s.ino f.inodes).isSome=true)→(ocase (ref10_on f s (readP p).names fol (readP p).slash (0:Int)) fun y4=>some (y4.1,y4.2))=some (onK f.inodes fol 40 (readP p).slash (readP p).names s):=fun s hs=>by
  unfold ref10_on;have:=on_r h fol FUEL 40 (readP p).slash (readP p).names s hs (Nat.le_refl _) (by omega) (fuel_ok (by rw[wt40];omega));have e:((40 - 40:Nat):Int)=0:=rfl;rw[e] at this;rw[this];rfl
 cases (readP p).abs
 ·simp only[Bool.not_false,bcase_true,Bool.false_eq_true,if_false]
  rw[ref10_Home_eq h.wf hb,ocase_some',bneI];by_cases h2:(homeP f base).2=0
  ·rw[bc_f (by simp [h2]),if_pos h2]
   exact go ⟨0, [],(homeP f base).1⟩ (homeP_there h.wf)
  ·rw[bc_t (by simp [h2]),if_neg h2];rfl
 ·simp only[Bool.not_true,bcase_false,if_true]
  exact go rootS (Or.inr h.wf.root)
end Go.Eng
set_option linter.unusedVariables false
set_option maxRecDepth 100000
namespace Go.Eng
open Go
end Go.Eng
set_option linter.unusedSimpArgs false
set_option linter.unusedVariables false
set_option linter.unusedSectionVars false
namespace Go.Eng
open Go
def wsB (f:Fs):Bool:=wfB f&&(f.inodes.all (fun x=> !decide (x.kind=2)||((findI x.parent f.inodes).isSome&&decide ((getI x.parent f.inodes).kind=2)))&&(f.inodes.all (fun x=> !decide (x.kind=3)||decide (x.data.length≤4095))&&decide ((getI 1 f.inodes).kind=2)))
theorem ws_of {f:Fs} (h:wsB f=true):WS f:=by
 unfold wsB at h;simp only[Bool.and_eq_true,List.all_eq_true,Bool.or_eq_true,Bool.not_eq_true',decide_eq_false_iff_not,decide_eq_true_eq] at h;obtain⟨h1,h2,h3,h4⟩:=h;have w:=wf_of h1;refine⟨w,fun x hx hk=> ?_,fun x hx hk=>(h3 x hx).resolve_left (fun h=>h hk), ?_⟩
 ·have:=(h2 x hx).resolve_left (fun h=>h hk)
  obtain⟨y,hy⟩:=Option.isSome_iff_exists.1 this.1;rw[getI_some hy] at this;exact⟨y,hy,this.2⟩
 ·obtain⟨y,hy⟩:=Option.isSome_iff_exists.1 w.root
  rw[getI_some hy] at h4;exact⟨y,hy,h4⟩
theorem last_drop {s:Str} (h:s≠ []):s.drop (s.length - 1)=[s.getLast h]:=by
 have:=List.dropLast_concat_getLast h;conv=>lhs;rw[←this]
 rw[List.drop_append_of_le_length (by simp)];simp
theorem last_app {a b:Str} (h:b≠ []):(a++b).drop ((a++b).length - 1)=b.drop (b.length - 1):=by
 have hb:0<b.length:=List.length_pos_iff.2 h;rw[List.drop_append,List.drop_eq_nil_of_le (by simp;omega),List.nil_append];congr 1;simp;omega
theorem nm_last {x:Str} (h:Nm x):(x.drop (x.length - 1)==[47])=false:=by
 rw[last_drop h.1,beq_eq_false_iff_ne];intro e;have:=h.2 (x.getLast h.1) (List.getLast_mem h.1);simp at e;exact this e
theorem joinP_47 (ns:List Str):∃r,joinP ns=47::r:=by
 cases ns with
 |nil=>exact⟨[],rfl⟩
 |cons x ns=>exact⟨_,joinP_cons x ns⟩
theorem joinP_ne_nil (ns:List Str):joinP ns≠ [] :=by obtain⟨r,hr⟩:=joinP_47 ns;rw[hr];simp
theorem joinP_last {ns:List Str} (h:∀x∈ns,Nm x) (h0:ns≠ []):((joinP ns).drop ((joinP ns).length - 1)==[47])=false:=by
 rcases List.eq_nil_or_concat ns with rfl|⟨ns',x,rfl⟩
 ·exact absurd rfl h0
 ·rw[List.concat_eq_append] at h⊢
  have hx:=h x (by simp);have e:joinP (ns'++[x])=((ns'.flatMap fun x=>47::x)++[47])++x:=by
   unfold joinP;rw[if_neg (by simp)];simp
  rw[e,last_app hx.1];exact nm_last hx
theorem readP_join {ns:List Str} (h:∀x∈ns,Nm x):readP (joinP ns)=⟨true,ns,false⟩:=by
 obtain⟨r,hr⟩:=joinP_47 ns;unfold readP;rw[namesP_join h];have e1:((joinP ns).take 1==[47])=true:=by rw[hr];simp
 rw[e1];by_cases h0:ns= []
 ·subst h0;rfl
 ·rw[joinP_last h h0];simp
theorem longP_of {p:Str} (h:∀x∈namesP p,x.length≤255) (hl:p.length≤4095):longP p=false:=by
 unfold longP;rw[Bool.or_eq_false_iff,List.any_eq_false,decide_eq_false_iff_not];exact⟨fun x hx=>by have:=h x hx;simp;omega,by omega⟩
theorem stepIn_app {f:Fs} {fol dir:Bool} {lnk:Bool→Inode→Inode→List Str→Spotted×Int} {rest:List Str} {t:Spotted}:∀{ns:List Str} {s:Spotted},(∀n∈ns,mayN n=true)→goAt f.inodes ns s=(t,0)→(ns≠ [] →(rest≠ [] ∨fol=true∨dir=true)→(getI t.ino f.inodes).kind≠3)→
 stepIn f.inodes fol lnk dir (ns++rest) s=stepIn f.inodes fol lnk dir rest t
 | [],s,_,hg,_=>by simp [goAt] at hg;rw[hg];rfl
 |n::ns,s,hm,hg,h3=>by
  have hn:=mayN_dot (hm n (by simp));cases hf:findI s.ino f.inodes with
  |none=>rw[goAt_none hf] at hg;simp at hg
  |some d=>
   by_cases hk:d.kind=2
   ·rw[goAt_dir hf hk] at hg
    rw[List.cons_append,stepIn_on hf hk hn.1 hn.2]
    ·exact stepIn_app (fun m hm'=>hm m (by simp [hm'])) hg (fun h1 h2=>h3 (by simp) h2)
    ·rintro⟨k3,hc⟩
     cases ns with
     |nil=>
      simp [goAt] at hg;rw[←hg] at h3;exact h3 (by simp) (by simpa using hc) k3
     |cons m ns=>
      obtain⟨x,hx,hgx⟩:=getI_kind3 k3;rw[hgx] at k3;rw[goAt_file (d:=x) (by exact hx) (by omega)] at hg;simp at hg
   ·rw[goAt_file hf hk] at hg;simp at hg
theorem stepIn_go {f:Fs} {lnk:Bool→Inode→Inode→List Str→Spotted×Int} {t:Spotted} {ns:List Str} {s:Spotted} (hm:∀n∈ns,mayN n=true) (hg:goAt f.inodes ns s=(t,0)):stepIn f.inodes false lnk false ns s=(t,0):=by
 have:=stepIn_app (f:=f) (fol:=false) (dir:=false) (lnk:=lnk) (rest:= []) hm hg (fun _ h=>by simp at h);rw[List.append_nil] at this;rw[this];show endP f.inodes false t=(t,0);unfold endP;split<;>simp
theorem seekP_plain {f:Fs} {base:Str} {ns:List Str} {t:Spotted} (hm:∀n∈ns,mayN n=true) (hg:goAt f.inodes ns rootS=(t,0)) (hl:(joinP ns).length≤4095):seekP f base (joinP ns) false=(t,0):=by
 have hnm:=fun x hx=>mayN_nm (hm x hx)
 unfold seekP;rw[if_neg (joinP_ne_nil ns),if_neg (by rw[longP_of (by rw[namesP_join hnm];exact fun x hx=>mayN_len (hm x hx)) hl];simp),readP_join hnm];simp only[if_true];rw[onK_eq];exact stepIn_go hm hg
theorem ref10_Short_eq {f:Fs} {base p:Str} (hl:f.inodes.length≤1073741824):ref10_Short f base p=some ((f.inodes.take 100).all (fun x=> !decide (x.kind=3)||decide (x.data.length≤300))&&(decide (base.length≤1000)&&decide (p.length≤5000))):=by
 unfold ref10_Short;have e0:(bcase (decide ((List.length base:Int)≤(1000:Int))) (some (decide ((List.length p:Int)≤(5000:Int)))) (some false))=some (decide (base.length≤1000)&&decide (p.length≤5000)):=by
  by_cases h1:base.length≤1000
  ·rw[bc_t (by simp;omega)]
   congr 1;rw[Bool.eq_iff_iff];simp [h1];omega
  ·rw[bc_f (by simp;omega)];simp [h1]
 rw[e0];refine(loop_all (l:=f.inodes.take 100) (fun n i (s:Unit)=>ref10_Short_L2 f (some false) (some (decide (base.length≤1000)&&decide (p.length≤5000))) n i) (fun _ x s K=>if (!decide (x.kind=3)||decide (x.data.length≤300)) then K s else some false) (fun _=>some (decide (base.length≤1000)&&decide (p.length≤5000))) (by simp;omega) (fun n k x s hk hx=> ?_) (fun n s=> ?_) ()).trans ?_
 ·have hk':k<f.inodes.length∧k<100:=by simp at hk;omega
  have hx':f.inodes[k]? =some x:=by rw[List.getElem?_take_of_lt hk'.2] at hx;exact hx
  simp only[ref10_Short_L2];have h100:decide ((k:Int)<(100:Int))=true:=by simp;omega
  rw[dec_lt hk'.1,h100,dec_nn,toNat_cast,hx',wrap_succ (by omega)];simp only[bcase_true,ocase_some',beqI];by_cases h3:x.kind=3
  ·rw[bc_t (by simp [h3])]
   by_cases h4:x.data.length≤300
   ·rw[bc_f (by simp;omega)];simp [h4]
   ·rw[bc_t (by simp;omega)];simp [h3,h4]
  ·rw[bc_f (by simp [h3])];simp [h3]
 ·simp only[ref10_Short_L2]
  by_cases h:f.inodes.length≤100
  ·have e:(f.inodes.take 100).length=f.inodes.length:=by simp;omega
   rw[e,dec_ge (Nat.le_refl _)];rfl
  ·have e:(f.inodes.take 100).length=100:=by simp;omega
   rw[e];have h1:decide (((100:Nat):Int)<(f.inodes.length:Int))=true:=by simp;omega
   rw[h1];rfl
 ·rw[all_foldT]
  by_cases h9:(f.inodes.take 100).all (fun x=> !decide (x.kind=3)||decide (x.data.length≤300))=true
  ·rw[if_pos h9,h9];rfl
  ·rw[if_neg h9]
   have:(f.inodes.take 100).all (fun x=> !decide (x.kind=3)||decide (x.data.length≤300))=false:=by simpa using h9
   rw[this];rfl
theorem short_le {f:Fs} {base p:Str} (hl:f.inodes.length≤1073741824) (h:ref10_Short f base p=some true):base.length≤1000∧p.length≤5000:=by
 rw[ref10_Short_eq hl] at h;simp only[Option.some.injEq,Bool.and_eq_true,decide_eq_true_eq] at h;exact h.2
theorem ref10_Short_some {f:Fs} (base p:Str) (hl:f.inodes.length≤1073741824):∃b,ref10_Short f base p=some b∧(b=true→base.length≤1000∧p.length≤5000):=by
 refine⟨_,ref10_Short_eq hl,fun h=>short_le (f:=f) hl ?_⟩;rw[ref10_Short_eq hl,h]
def Gd (f:Fs) (fol:Bool) (s:Spotted):Prop:=(s.name= [] ∧s.dir=0∧∃d,findI s.ino f.inodes=some d∧d.kind=2)∨(s.name≠ [] ∧∃d,findI s.dir f.inodes=some d∧d.kind=2∧s.ino=inoE s.name d.entries∧(fol=true→(getI s.ino f.inodes).kind≠3))
def Res (f:Fs) (fol:Bool) (r:Spotted×Int):Prop:=(r.2=0→Gd f fol r.1)∧(r.2≠0→r.1=zeroS)
theorem stepIn_res {f:Fs} (h:WS f) {fol:Bool} {lnk:Bool→Inode→Inode→List Str→Spotted×Int} {dir:Bool} (hl:∀x d rest,x∈f.inodes→x.kind=3→d∈f.inodes→d.kind=2→(∀n∈rest,n≠ [])→Res f fol (lnk dir x d rest)):∀(todo:List Str) (s:Spotted),(∀n∈todo,n≠ [])→Gd f fol s→Res f fol (stepIn f.inodes fol lnk dir todo s)
 | [],s,_,hs=>by
  show Res f fol (endP f.inodes dir s);unfold endP;split
  ·split
   ·exact⟨fun h=>by simp at h,fun _=>rfl⟩
   ·exact⟨fun _=>hs,fun h=>absurd rfl h⟩
  ·exact⟨fun _=>hs,fun h=>absurd rfl h⟩
 |n::rest,s,hn,hs=>by
  have hrest:∀m∈rest,m≠ [] :=fun m hm=>hn m (by simp [hm])
  cases hf:findI s.ino f.inodes with
  |none=>rw[stepIn_none hf];exact⟨fun h=>by simp at h,fun _=>rfl⟩
  |some d=>
   have hd:=findI_some hf;by_cases hk:d.kind=2
   ·by_cases h1:n=[46]
    ·rw[stepIn_dot hf hk h1]
     exact stepIn_res h hl rest _ hrest (Or.inl ⟨rfl,rfl,d,by rw[hd.2];exact hf,hk⟩)
    ·by_cases h2:n=[46,46]
     ·rw[stepIn_up hf hk h2]
      exact stepIn_res h hl rest _ hrest (Or.inl ⟨rfl,rfl,h.par d hd.1 hk⟩)
     ·by_cases h3:(getI (inoE n d.entries) f.inodes).kind=3∧(rest≠ [] ∨fol=true∨dir=true)
      ·rw[stepIn_link hf hk h1 h2 h3]
       obtain⟨x,hx,hgx⟩:=getI_kind3 h3.1;rw[hgx] at h3⊢;exact hl x d rest (findI_some hx).1 h3.1 hd.1 hk hrest
      ·rw[stepIn_on hf hk h1 h2 h3]
       refine stepIn_res h hl rest _ hrest (Or.inr ⟨hn n (by simp),d,by rw[hd.2];exact hf,hk,rfl,fun hfol k3=>h3 ⟨k3,Or.inr (Or.inl hfol)⟩⟩)
   ·rw[stepIn_file hf hk];exact⟨fun h=>by simp at h,fun _=>rfl⟩
theorem splitN_ne:∀(s cur:Str),∀x∈(splitN cur s).1,x≠ []
 | [],cur,x,hx=>by simp [splitN] at hx
 |c::s,cur,x,hx=>by
  simp only[splitN] at hx;split at hx
  ·split at hx
   ·exact splitN_ne s [] x hx
   ·simp only[List.mem_cons] at hx
    rcases hx with rfl|hx
    ·assumption
    ·exact splitN_ne s [] x hx
  ·exact splitN_ne s _ x hx
theorem namesP_ne (s:Str):∀x∈namesP s,x≠ [] :=by
 intro x hx;unfold namesP withLast at hx;split at hx
 ·exact splitN_ne s [] x hx
 ·rename_i h
  simp only[List.mem_append,List.mem_singleton] at hx;rcases hx with hx|rfl
  ·exact splitN_ne s [] x hx
  ·exact h
theorem onK_res {f:Fs} (h:WS f) {fol:Bool}:∀(k:Nat) (dir:Bool) (todo:List Str) (s:Spotted),(∀n∈todo,n≠ [])→Gd f fol s→Res f fol (onK f.inodes fol k dir todo s)
 |0,dir,todo,s,hn,hs=>stepIn_res h (fun x d rest _ _ _ _ _=>⟨fun h=>by simp at h,fun _=>rfl⟩) todo s hn hs
 |k+1,dir,todo,s,hn,hs=>by
  refine stepIn_res h (fun x d rest hx hk3 hd hk2 hrest=> ?_) todo s hn hs;split
  ·exact⟨fun h=>by simp at h,fun _=>rfl⟩
  ·refine onK_res h k _ _ _ (fun n hn'=> ?_) (Or.inl ⟨rfl,rfl, ?_⟩)
   ·simp only[List.mem_append] at hn'
    rcases hn' with hn'|hn'
    ·exact namesP_ne _ n hn'
    ·exact hrest n hn'
   ·split
    ·exact h.rootk
    ·exact⟨d,findI_mem h.wf.sort hd,hk2⟩
theorem homeP_dir {f:Fs} (h:WF f) {base:Str} (h0:(homeP f base).2=0):∃d,findI (homeP f base).1 f.inodes=some d∧d.kind=2:=by
 unfold homeP at h0⊢;by_cases h1:(getP f base).2=0
 ·rw[if_pos h1] at h0⊢
  by_cases h2:(getP f base).1.kind=2
  ·rw[if_pos h2]
   unfold getP at h1 h2⊢;by_cases h3:(atP f base).2=0
   ·rw[if_pos h3] at h1 h2⊢
    cases hf:findI (atP f base).1.ino f.inodes with
    |none=>rw[hf] at h1;simp at h1
    |some x=>
     rw[hf] at h2;simp only at h2⊢;exact⟨x,by rw[(findI_some hf).2];exact hf,h2⟩
   ·rw[if_neg h3] at h1;exact absurd h1 h3
  ·rw[if_neg h2] at h0;simp at h0
 ·rw[if_neg h1] at h0;exact absurd h0 h1
theorem seekP_res {f:Fs} (h:WS f) (base p:Str) (fol:Bool):Res f fol (seekP f base p fol):=by
 unfold seekP;split
 ·exact⟨fun h=>by simp at h,fun _=>rfl⟩
 ·split
  ·exact⟨fun h=>by simp at h,fun _=>rfl⟩
  ·split
   ·exact onK_res h 40 _ _ _ (namesP_ne p) (Or.inl ⟨rfl,rfl,h.rootk⟩)
   ·split
    ·rename_i h0
     exact onK_res h 40 _ _ _ (namesP_ne p) (Or.inl ⟨rfl,rfl,homeP_dir h.wf h0⟩)
    ·rename_i h0
     exact⟨fun h=>absurd h h0,fun _=>rfl⟩
end Go.Eng
set_option linter.unusedVariables false
set_option maxRecDepth 100000
namespace Go.Eng
open Go
end Go.Eng
set_option linter.unusedVariables false
set_option maxRecDepth 100000
namespace Go.Eng
open Go
end Go.Eng
set_option linter.unusedSimpArgs false
set_option linter.unusedVariables false
set_option linter.unusedSectionVars false
namespace Go.Eng
open Go
def Inode.withD (x:Inode) (d:Str):Inode:=⟨x.ino,x.kind,x.links,d,x.parent,x.entries⟩
section
variable {f:Fs} {base p:Str}
end
def Sim1:Option Inode→Option Inode→Prop
 |none,none=>True
 |some x,some y=>x.ino=y.ino∧x.kind=y.kind∧x.parent=y.parent∧x.entries=y.entries∧(x.kind=3→x.data=y.data)
 |_,_=>False
def SimI (l m:List Inode):Prop:=∀k,Sim1 (findI k l) (findI k m)
section
variable {l m:List Inode}
theorem SimI.none (h:SimI l m) {k:Int} (hf:findI k l=none):findI k m=none:=by
 have:=h k;rw[hf] at this;cases hm:findI k m with
 |none=>rfl
 |some y=>rw[hm] at this;exact this.elim
theorem SimI.some (h:SimI l m) {k:Int} {x:Inode} (hf:findI k l=some x):∃y,findI k m=some y∧x.ino=y.ino∧x.kind=y.kind∧x.parent=y.parent∧x.entries=y.entries∧(x.kind=3→x.data=y.data):=by
 have:=h k;rw[hf] at this;cases hm:findI k m with
 |none=>rw[hm] at this;exact this.elim
 |some y=>rw[hm] at this;exact⟨y,rfl,this⟩
theorem SimI.kind (h:SimI l m) (k:Int):(getI k l).kind=(getI k m).kind:=by
 cases hf:findI k l with
 |none=>rw[getI_none hf,getI_none (h.none hf)]
 |some x=>obtain⟨y,hy,h1⟩:=h.some hf;rw[getI_some hf,getI_some hy];exact h1.2.1
end
section
variable {f:Fs} {x:Inode} {d:Str}
theorem findI_set {l:List Inode} {x:Inode} {k:Int}:findI k (setI x l)=if x.ino=k then some x else findI k l:=findK_set
theorem findI_drop {l:List Inode} {k k':Int}:findI k' (dropI k l)=if k=k' then none else findI k' l:=findK_drop
theorem mem_setI {l:List Inode} {x y:Inode}:y∈setI x l↔y=x∨(y∈l∧y.ino≠x.ino):=setK_mem
theorem setI_sort {l:List Inode} {x:Inode} (h:SortI l):SortI (setI x l):=setK_sort loI h
theorem setI_len {l:List Inode} {x:Inode} (h:SortI l):(setI x l).length=if (findI x.ino l).isSome then l.length else l.length+1:=len_set loI h
def byt (x:Inode):Int:=if x.kind=1 then (x.data.length:Int) else 0
theorem bytes_setI {l:List Inode} {x:Inode} (h:SortI l):bytesOf (setI x l)+fval byt (findI x.ino l)=bytesOf l+byt x:=msum_set loI byt h
theorem fc_setI {l:List Inode} {x:Inode} (h:SortI l) (n:Int):fc n (setI x l)+fval (fun y:Inode=>ec n y.entries) (findI x.ino l)=fc n l+ec n x.entries:=msum_set loI _ h
theorem bytes_dropI {l:List Inode} {k:Int} (h:SortI l):bytesOf (dropI k l)+fval byt (findI k l)=bytesOf l:=msum_drop loI byt h
theorem fc_dropI {l:List Inode} {k:Int} (h:SortI l) (n:Int):fc n (dropI k l)+fval (fun y:Inode=>ec n y.entries) (findI k l)=fc n l:=msum_drop loI _ h
theorem dropI_len {l:List Inode} {k:Int} (h:SortI l):(dropI k l).length+(if (findI k l).isSome then 1 else 0)=l.length:=len_drop loI h
theorem Reach.mono {l m:List Inode} (h:∀k x,findI k l=some x→∃y,findI k m=some y∧∀e∈x.entries,∃e'∈y.entries,e'.ino=e.ino) {k:Int} (hr:Reach l k):Reach m k:=by
 induction hr with
 |root=>exact .root
 |step _ hf he ih=>
  obtain⟨y,hy,h2⟩:=h _ _ hf;obtain⟨e',he',hn⟩:=h2 _ he;rw[←hn];exact .step ih hy he'
theorem set_same (hs:SortI f.inodes) (hx:findI x.ino f.inodes=some x):f.set x=f:=by
 cases f with
 |mk a b c l=>
  unfold Fs.set;congr 1;refine sort_ext_find loI (setI_sort hs) hs fun k=> ?_
  show findI k (setI x l)=findI k l;rw[findI_set];by_cases e:x.ino=k
  ·rw[if_pos e,←e];exact hx.symm
  ·rw[if_neg e]
end
theorem Tree.wf {f:Fs} (h:Tree f) (hs:SmF f):WF f:=((tr_iff f).2 h).wf hs
theorem Tree.check {f:Fs} (h:Tree f):checkF f=0:=(checkF_iff f).2 ((tr_iff f).2 h)
end Go.Eng
set_option linter.unusedVariables false
set_option maxRecDepth 100000
namespace Go.Eng
open Go
end Go.Eng
set_option linter.unusedSimpArgs false
set_option linter.unusedVariables false
set_option linter.unusedSectionVars false
namespace Go.Eng
open Go
structure Ev (f:Fs):Prop where
 tr:Tree f
 sm:SmF f
 wf:WF f
 ws:WS f
 lil:Lil f
 len:f.inodes.length≤40
 few:∀x∈f.inodes,x.data.length≤5000∧x.entries.length≤40∧∀e∈x.entries,e.name.length≤300
theorem ev_of {f:Fs} (ho:okF f=true):Ev f:=by
 obtain⟨hs,hm,h⟩:=ok_sound ho;have hfew:=((okF_iff f).1 ho).1;have htr:=(tr_iff f).1 hs;exact⟨htr,hm,h,htr.ws h,Lil.of_few hfew,(fewF_sm hfew).1,(fewF_sm hfew).2⟩
section
variable {f:Fs} {base p d:Str}
theorem fs_eta (f:Fs):(⟨f.maxInodes,f.maxBytes,f.next,f.inodes⟩:Fs)=f:=rfl
structure Wr (f:Fs) (x:Inode) (d:Str) (g:Fs):Prop where
 tr:Tree g
 sm:SmF g
 ws:WS g
 lil:Lil g
 len:g.inodes.length=f.inodes.length
 sim:SimI f.inodes g.inodes
 find:∀k,findI k g.inodes=if x.ino=k then some (x.withD d) else findI k f.inodes
end
end Go.Eng
set_option linter.unusedSimpArgs false
set_option linter.unusedVariables false
set_option linter.unusedSectionVars false
namespace Go.Eng
open Go
theorem findE_set {l:List Entry} {e:Entry} {n:Str}:findE n (setE e l)=if e.name=n then some e else findE n l:=findK_set
theorem findE_drop {l:List Entry} {n n':Str}:findE n' (dropE n l)=if n=n' then none else findE n' l:=findK_drop
theorem mem_setE {l:List Entry} {e e':Entry}:e'∈setE e l↔e'=e∨(e'∈l∧e'.name≠e.name):=setK_mem
theorem mem_dropE {l:List Entry} {n:Str} {e:Entry}:e∈dropE n l↔e∈l∧e.name≠n:=dropK_mem
theorem findE_mem {l:List Entry} {e:Entry} (hs:SortE l) (h:e∈l):findE e.name l=some e:=findK_mem loS hs h
theorem findE_some {l:List Entry} {n:Str} {e:Entry} (h:findE n l=some e):e∈l∧e.name=n:=findK_some h
theorem ec_set {l:List Entry} {e:Entry} (h:SortE l) (n:Int):ec n (setE e l)+fval (one n) (findE e.name l)=ec n l+one n e:=msum_set loS (one n) h
theorem ec_drop {l:List Entry} {m:Str} (h:SortE l) (n:Int):ec n (dropE m l)+fval (one n) (findE m l)=ec n l:=msum_drop loS (one n) h
theorem right_set {l:List Entry} {e:Entry} (h:rightE l=true) (h1:mayN e.name=true) (h2:1≤e.ino):rightE (setE e l)=true:=by
 rw[rightE_iff] at h⊢;refine⟨setK_sort loS h.1,fun x hx=> ?_⟩;rcases mem_setE.1 hx with rfl|⟨hx,_⟩
 ·exact⟨h1,h2⟩
 ·exact h.2 x hx
theorem right_drop {l:List Entry} {n:Str} (h:rightE l=true):rightE (dropE n l)=true:=by
 rw[rightE_iff] at h⊢;exact⟨dropK_sort h.1,fun x hx=>h.2 x (mem_dropE.1 hx).1⟩
theorem inoE_none {l:List Entry} (h:rightE l=true) {n:Str} (h0:inoE n l=0):findE n l=none:=by
 unfold inoE at h0;cases hf:findE n l with
 |none=>rfl
 |some e=>
  rw[hf] at h0;have:=(((rightE_iff _).1 h).2 e (findE_some hf).1).2;simp only at h0;omega
theorem inoE_some {l:List Entry} {n:Str} {e:Entry} (h:findE n l=some e):inoE n l=e.ino:=by unfold inoE;rw[h]
theorem inoE_ne {l:List Entry} {n:Str} (h:inoE n l≠0):∃e,findE n l=some e∧e∈l∧e.name=n∧e.ino=inoE n l:=by
 unfold inoE at h;cases hf:findE n l with
 |none=>rw[hf] at h;exact absurd rfl h
 |some e=>exact⟨e,rfl,(findE_some hf).1,(findE_some hf).2,(inoE_some hf).symm⟩
def Inode.withL (x:Inode) (n:Int):Inode:=⟨x.ino,x.kind,n,x.data,x.parent,x.entries⟩
def Inode.withP (x:Inode) (n:Int):Inode:=⟨x.ino,x.kind,x.links,x.data,n,x.entries⟩
def Inode.addE (d:Inode) (nm:Str) (n:Int):Inode:=d.withE (setE ⟨nm,n⟩ d.entries)
def Inode.remE (d:Inode) (nm:Str):Inode:=d.withE (dropE nm d.entries)
theorem tree_mk {g:Fs} (maxI:1≤g.maxInodes∧g.maxInodes≤1073741824) (maxB:0≤g.maxBytes∧g.maxBytes≤1073741824) (next:g.next≤1099511627776) (sort:SortI g.inodes)
 (ino:∀k x,findI k g.inodes=some x→1≤k∧k<g.next) (root:∃r,findI 1 g.inodes=some r∧r.kind=2∧r.parent=1) (kind:∀k x,findI k g.inodes=some x→kindB x=true)
 (there:∀k x,findI k g.inodes=some x→∀e∈x.entries,∃y,findI e.ino g.inodes=some y) (links:∀k x,findI k g.inodes=some x→x.links=fc k g.inodes) (rootn:fc 1 g.inodes=0)
 (dirs:∀k x,findI k g.inodes=some x→x.kind=2→fc k g.inodes≤1) (par:∀k x,findI k g.inodes=some x→x.kind=2→∀j d,findI j g.inodes=some d→∀e∈d.entries,e.ino=k→x.parent=j)
 (led:∀k x,findI k g.inodes=some x→Reach g.inodes k) (fits:fitsI g 0 0=true):Tree g:=
 ⟨maxI,maxB,next,fun x hx=>ino _ x (findI_mem sort hx),sort,root,fun x hx=>kind _ x (findI_mem sort hx),fun x hx=>there _ x (findI_mem sort hx),fun x hx=>links _ x (findI_mem sort hx),rootn,
  fun x hx=>dirs _ x (findI_mem sort hx),fun x hx hk d hd e he hn=>par _ x (findI_mem sort hx) hk _ d (findI_mem sort hd) e he hn,fun x hx=>led _ x (findI_mem sort hx),fits⟩
section
variable {f:Fs}
theorem Tree.getk (h:Tree f) {k:Int} {x:Inode} (hx:findI k f.inodes=some x):kindB x=true∧x.links=fc k f.inodes∧1≤k∧k<f.next∧SortE x.entries∧rightE x.entries=true:=by
 obtain⟨h1,h2⟩:=findI_some hx;have hk:=h.kind x h1;have hi:=h.ino x h1;subst h2;have hr:=kind_right hk;exact⟨hk,h.links x h1,hi.1,hi.2,((rightE_iff _).1 hr).1,hr⟩
theorem Tree.to (h:Tree f) {k:Int} {x:Inode} (hx:findI k f.inodes=some x) {e:Entry} (he:e∈x.entries):∃y,findI e.ino f.inodes=some y:=h.there x (findI_some hx).1 e he
theorem Tree.parent (h:Tree f) {k j:Int} {x d:Inode} {e:Entry} (hx:findI k f.inodes=some x) (hk:x.kind=2) (hd:findI j f.inodes=some d) (he:e∈d.entries) (hn:e.ino=k):x.parent=j:=by
 obtain⟨x1,x2⟩:=findI_some hx;obtain⟨d1,d2⟩:=findI_some hd;rw[h.par x x1 hk d d1 e he (by rw[hn,x2]),d2]
theorem Tree.dirs' (h:Tree f) {k:Int} {x:Inode} (hx:findI k f.inodes=some x) (hk:x.kind=2):fc k f.inodes≤1:=by
 obtain⟨x1,x2⟩:=findI_some hx;rw[←x2];exact h.dirs x x1 hk
theorem Tree.led' (h:Tree f) {k:Int} {x:Inode} (hx:findI k f.inodes=some x):Reach f.inodes k:=by
 obtain⟨x1,x2⟩:=findI_some hx;rw[←x2];exact h.led x x1
theorem kind_dir {x:Inode} (h:kindB x=true) (hk:x.kind=2) {l:List Entry} (hr:rightE l=true):kindB (x.withE l)=true:=by
 rw[kind2 hk,Bool.and_eq_true] at h;rw[kind2 (show(x.withE l).kind=2 from hk),Bool.and_eq_true];exact⟨h.1,hr⟩
theorem kind_links {x:Inode} (h:kindB x=true) {n:Int}:kindB (x.withL n)=true:=h
end
structure Free (f:Fs) (d:Inode) (nm:Str):Prop where
 hd:findI d.ino f.inodes=some d
 hk:d.kind=2
 hm:mayN nm=true
 h0:findE nm d.entries=none
section
variable {f:Fs} {d x:Inode} {nm:Str}
theorem Free.ents (h:Free f d nm) {n:Int} {e:Entry}:e∈(d.addE nm n).entries↔e=⟨nm,n⟩∨e∈d.entries:=by
 show e∈setE ⟨nm,n⟩ d.entries↔_;rw[mem_setE];refine⟨fun h'=>h'.imp id And.left,fun h'=>h'.imp id fun he=>⟨he,fun hn=> ?_⟩⟩;have hn:e.name=nm:=hn;have:=h.h0;have hf:findE nm d.entries≠none:=by
  intro hh;have:∀y∈d.entries,y.name≠nm:=fun y hy hyn=>by
   unfold findE findK at hh;rw[List.find?_eq_none] at hh;exact hh y hy (by simpa using hyn)
  exact this e he hn
 exact hf this
theorem Free.ec (h:Free f d nm) (ht:Tree f) (n m:Int):Go.Eng.ec m (d.addE nm n).entries=Go.Eng.ec m d.entries+if n=m then 1 else 0:=by
 have:=ec_set (e:=⟨nm,n⟩) (ht.getk h.hd).2.2.2.2.1 m;rw[show(⟨nm,n⟩:Entry).name=nm from rfl,h.h0] at this;simp only[fval,one] at this;show Go.Eng.ec m (setE ⟨nm,n⟩ d.entries)=_;omega
theorem byt_dir (h:d.kind=2):byt d=0:=by unfold byt;rw[if_neg (by omega)]
end
end Go.Eng
set_option linter.unusedSimpArgs false
set_option linter.unusedVariables false
set_option linter.unusedSectionVars false
namespace Go.Eng
open Go
section
variable {f:Fs} {d x:Inode} {nm:Str} {e:Entry}
def addF (f:Fs) (d:Inode) (nm:Str) (x:Inode):Fs:=(f.set (d.addE nm x.ino)).set (x.withL (x.links+1))
theorem Tree.no_ents (h:Tree f) {k:Int} (hx:findI k f.inodes=some x) (hk:x.kind≠2):x.entries= [] :=by
 cases he:x.entries with
 |nil=>rfl
 |cons e l=>exact absurd (h.ents hx (e:=e) (by rw[he];simp)) hk
theorem byt_withL {n:Int}:byt (x.withL n)=byt x:=rfl
structure Ent (f:Fs) (d:Inode) (nm:Str) (x:Inode) (e:Entry):Prop where
 hd:findI d.ino f.inodes=some d
 he:findE nm d.entries=some e
 hn:e.ino=x.ino
 hx:findI x.ino f.inodes=some x
def remF (f:Fs) (d:Inode) (nm:Str) (x:Inode):Fs:=if x.links=1 then (f.set (d.remE nm)).drop x.ino else (f.set (d.remE nm)).set (x.withL (x.links - 1))
theorem Ent.mem (h:Ent f d nm x e):e∈d.entries∧e.name=nm:=findE_some h.he
theorem Ent.kind (h:Ent f d nm x e) (ht:Tree f):d.kind=2:=ht.ents h.hd h.mem.1
theorem Ent.way (h:Ent f d nm x e):Way f.inodes d.ino x.ino 1:=h.hn▸ .step .here h.hd h.mem.1
theorem Ent.ne (h:Ent f d nm x e) (ht:Tree f):x.ino≠d.ino:=fun e1=>by
 obtain⟨n,hw⟩:=(ht.led' h.hd).way;exact ht.no_loop hw h.hd h.mem.1 (n:=0) (by rw[h.hn,e1];exact .here)
theorem Ent.ents (h:Ent f d nm x e) (ht:Tree f) {e':Entry}:e'∈(d.remE nm).entries↔e'∈d.entries∧e'≠e:=by
 show e'∈dropE nm d.entries↔_;rw[mem_dropE];refine⟨fun⟨a,b⟩=>⟨a,fun c=>b (by rw[c];exact h.mem.2)⟩,fun⟨a,b⟩=>⟨a,fun c=>b ?_⟩⟩;have h1:=findE_mem (ht.getk h.hd).2.2.2.2.1 a;rw[c,h.he] at h1;exact(Option.some.inj h1).symm
theorem remF_find (hxd:x.ino≠d.ino) (k:Int):findI k (remF f d nm x).inodes=if x.ino=k then (if x.links=1 then none else some (x.withL (x.links - 1))) else if d.ino=k then some (d.remE nm) else findI k f.inodes:=by
 unfold remF;by_cases hl:x.links=1
 ·rw[if_pos hl,if_pos hl]
  show findI k (dropI x.ino (setI _ f.inodes))=_;rw[findI_drop,findI_set];rfl
 ·rw[if_neg hl,if_neg hl]
  show findI k (setI _ (setI _ f.inodes))=_;rw[findI_set,findI_set];rfl
theorem remF_sum (h:Tree f) (hf:Ent f d nm x e) (hx0:x.entries= []):
 ((remF f d nm x).inodes.length:Int)=f.inodes.length - (if x.links=1 then 1 else 0)∧bytesOf (remF f d nm x).inodes=bytesOf f.inodes - (if x.links=1 then byt x else 0)∧∀n,fc n (remF f d nm x).inodes=fc n f.inodes - if x.ino=n then 1 else 0:=by
 have hxd:=hf.ne h;have hs:=h.sort;have hs1:=setI_sort (x:=d.remE nm) hs;have h1:findI x.ino (setI (d.remE nm) f.inodes)=some x:=by rw[findI_set,if_neg (show¬(d.remE nm).ino=x.ino from fun e=>hxd e.symm)];exact hf.hx
 have h2:findI (d.remE nm).ino f.inodes=some d:=hf.hd;have a1:(setI (d.remE nm) f.inodes).length=f.inodes.length:=by rw[setI_len hs,h2];rfl
 have b:=bytes_setI (x:=d.remE nm) hs;rw[h2] at b;simp only[fval] at b;rw[byt_dir (hf.kind h),byt_dir (show(d.remE nm).kind=2 from hf.kind h)] at b;have c:∀n,fc n (setI (d.remE nm) f.inodes)=fc n f.inodes - if x.ino=n then 1 else 0:=fun n=>by
  have c:=fc_setI (x:=d.remE nm) hs n;rw[h2] at c;simp only[fval] at c;have:=ec_drop (m:=nm) (h.getk hf.hd).2.2.2.2.1 n;rw[hf.he] at this;simp only[fval,one,hf.hn] at this;have c1:(d.remE nm).entries=dropE nm d.entries:=rfl;rw[c1] at c;omega
 unfold remF;by_cases hl:x.links=1
 ·simp only[if_pos hl]
  refine⟨?_, ?_,fun n=> ?_⟩
  ·show((dropI x.ino (setI _ f.inodes)).length:Int)=_
   have:=dropI_len (k:=x.ino) hs1;rw[h1] at this;simp only[Option.isSome_some,if_true] at this;omega
  ·show bytesOf (dropI x.ino (setI _ f.inodes))=_
   have:=bytes_dropI (k:=x.ino) hs1;rw[h1] at this;simp only[fval] at this;omega
  ·show fc n (dropI x.ino (setI _ f.inodes))=_
   have:=fc_dropI (k:=x.ino) hs1 n;rw[h1,←c n] at*;simp only[fval,hx0] at this;have c0:ec n ([] :List Entry)=0:=rfl;omega
 ·simp only[if_neg hl]
  have h1':findI (x.withL (x.links - 1)).ino (setI (d.remE nm) f.inodes)=some x:=h1;refine⟨?_, ?_,fun n=> ?_⟩
  ·show((setI _ (setI _ f.inodes)).length:Int)=_
   rw[setI_len hs1,h1'];simp only[Option.isSome_some,if_true];omega
  ·show bytesOf (setI _ (setI _ f.inodes))=_
   have:=bytes_setI (x:=x.withL (x.links - 1)) hs1;rw[h1'] at this;simp only[fval,byt_withL] at this;omega
  ·show fc n (setI _ (setI _ f.inodes))=_
   have:=fc_setI (x:=x.withL (x.links - 1)) hs1 n;rw[h1'] at this;have c0:(x.withL (x.links - 1)).entries=x.entries:=rfl;simp only[fval,c0] at this;rw[←c n];omega
theorem remName (h:Tree f) (hf:Ent f d nm x e) (hx0:x.entries= []):Tree (remF f d nm x):=by
 have hxd:=hf.ne h;have hfind:=remF_find (f:=f) (d:=d) (x:=x) (nm:=nm) hxd;obtain⟨s1,s2,s3⟩:=remF_sum h hf hx0;have hdk:=h.getk hf.hd;have hxk:=h.getk hf.hx;have hk2:=hf.kind h;have hs:SortI (remF f d nm x).inodes:=by
  unfold remF;split
  ·exact dropK_sort (setI_sort h.sort)
  ·exact setI_sort (setI_sort h.sort)
 have hmx:(remF f d nm x).maxInodes=f.maxInodes∧(remF f d nm x).maxBytes=f.maxBytes∧(remF f d nm x).next=f.next:=by unfold remF;split<;>exact⟨rfl,rfl,rfl⟩
 generalize remF f d nm x=g at hfind s1 s2 s3 hs hmx;obtain⟨m1,m2,m3⟩:=hmx;have cs:∀k y,findI k g.inodes=some y→(k=x.ino∧x.links≠1∧y=x.withL (x.links - 1))∨(k=d.ino∧y=d.remE nm)∨(k≠x.ino∧k≠d.ino∧findI k f.inodes=some y):=fun k y hy=>by
  rw[hfind] at hy;by_cases e1:x.ino=k
  ·rw[if_pos e1] at hy
   by_cases hl:x.links=1
   ·rw[if_pos hl] at hy;cases hy
   ·rw[if_neg hl] at hy;cases hy;exact Or.inl ⟨e1.symm,hl,rfl⟩
  ·rw[if_neg e1] at hy
   by_cases e2:d.ino=k
   ·rw[if_pos e2] at hy;cases hy;exact Or.inr (Or.inl ⟨e2.symm,rfl⟩)
   ·rw[if_neg e2] at hy;exact Or.inr (Or.inr ⟨fun e=>e1 e.symm,fun e=>e2 e.symm,hy⟩)
 have on:∀k z,findI k f.inodes=some z→(k=x.ino→x.links≠1)→∃y,findI k g.inodes=some y∧y.kind=z.kind∧y.parent=z.parent∧∀e'∈z.entries,(k=d.ino→e'≠e)→e'∈y.entries:=fun k z hz hl=>by
  rw[hfind];by_cases e1:x.ino=k
  ·rw[if_pos e1,if_neg (hl e1.symm)]
   have hz':=hz;rw[←e1,hf.hx] at hz';cases hz';exact⟨_,rfl,rfl,rfl,fun e he _=>he⟩
  ·rw[if_neg e1]
   by_cases e2:d.ino=k
   ·rw[if_pos e2]
    have hz':=hz;rw[←e2,hf.hd] at hz';cases hz';exact⟨_,rfl,rfl,rfl,fun e' he hne=>(hf.ents h).2 ⟨he,hne e2.symm⟩⟩
   ·rw[if_neg e2];exact⟨z,hz,rfl,rfl,fun e he _=>he⟩
 have ed:∀j z e',findI j g.inodes=some z→e'∈z.entries→∃d0,findI j f.inodes=some d0∧e'∈d0.entries∧(j=d.ino→e'≠e):=fun j z e' hz he=>by
  rcases cs j z hz with⟨rfl,_,rfl⟩ |⟨rfl,rfl⟩ |⟨_,h2,hz⟩
  ·exact⟨x,hf.hx,he,fun e=>absurd e hxd⟩
  ·exact⟨d,hf.hd,((hf.ents h).1 he).1,fun _=>((hf.ents h).1 he).2⟩
  ·exact⟨z,hz,he,fun e=>absurd e h2⟩
 have still:∀j z e',findI j f.inodes=some z→e'∈z.entries→(j=d.ino→e'≠e)→e'.ino=x.ino→x.links≠1:=fun j z e' hz he hne hn hl=>by
  have hc:fc x.ino f.inodes≤1:=by rw[←hxk.2.1];omega
  obtain⟨a,b⟩:=fc_uniq hc (findI_some hz).1 he hn (findI_some hf.hd).1 hf.mem.1 hf.hn;exact hne (by rw[←(findI_some hz).2,a]) b
 have hreach:∀k,Reach f.inodes k→k≠x.ino→Reach g.inodes k:=fun k hr=>by
  induction hr with
  |root=>exact fun _=> .root
  |step hr hz he ih=>
   rename_i k' z e';intro hne;have hk':k'≠x.ino:=fun e1=>by
    rw[e1,hf.hx] at hz;cases hz;rw[hx0] at he;cases he
   obtain⟨y,hy,_,_,h4⟩:=on k' z hz (fun e1=>absurd e1 hk');exact Reach.step (ih hk') hy (h4 e' he (fun _ e1=>hne (by rw[e1];exact hf.hn)))
 obtain⟨r,hr,hrk,hrp⟩:=h.root;have hx1:x.ino≠1:=fun e1=>h.no_up hf.hd hf.mem.1 (by rw[hf.hn,e1])
 refine tree_mk (by rw[m1];exact h.maxI) (by rw[m2];exact h.maxB) (by rw[m3];exact h.next) hs (fun k y hy=> ?_) ?_ (fun k y hy=> ?_) (fun k y hy e' he'=> ?_) (fun k y hy=> ?_) ?_ (fun k y hy hd=> ?_) (fun k y hy hd j z hz e' he' hn=> ?_) (fun k y hy=> ?_) ?_
 ·rw[m3]
  rcases cs k y hy with⟨rfl,_⟩ |⟨rfl,_⟩ |⟨_,_,hy⟩
  ·exact⟨hxk.2.2.1,hxk.2.2.2.1⟩
  ·exact⟨hdk.2.2.1,hdk.2.2.2.1⟩
  ·have:=h.getk hy
   exact⟨this.2.2.1,this.2.2.2.1⟩
 ·obtain⟨y,hy,h2,h3,_⟩:=on 1 r hr (fun e1=>absurd e1.symm hx1)
  exact⟨y,hy,by rw[h2];exact hrk,by rw[h3];exact hrp⟩
 ·rcases cs k y hy with⟨_,_,rfl⟩ |⟨_,rfl⟩ |⟨_,_,hy⟩
  ·exact kind_links hxk.1
  ·exact kind_dir hdk.1 hk2 (right_drop hdk.2.2.2.2.2)
  ·exact(h.getk hy).1
 ·obtain⟨d0,q1,q2,q3⟩:=ed k y e' hy he'
  obtain⟨z,hz⟩:=h.to q1 q2;obtain⟨y',hy',_⟩:=on _ z hz (fun e1=>still _ _ _ q1 q2 q3 e1);exact⟨y',hy'⟩
 ·rw[s3]
  rcases cs k y hy with⟨rfl,_,rfl⟩ |⟨rfl,rfl⟩ |⟨e1,_,hy⟩
  ·rw[if_pos rfl]
   have:=hxk.2.1;show x.links - 1=_;omega
  ·rw[if_neg hxd]
   have:=hdk.2.1;show d.links=_;omega
  ·rw[if_neg (fun e=>e1 e.symm)]
   have:=(h.getk hy).2.1;omega
 ·rw[s3,if_neg hx1,h.rootn];rfl
 ·rw[s3]
  rcases cs k y hy with⟨rfl,_,rfl⟩ |⟨rfl,rfl⟩ |⟨e1,_,hy⟩
  ·have:=h.dirs' hf.hx hd
   rw[if_pos rfl];omega
  ·rw[if_neg hxd]
   have:=h.dirs' hf.hd hk2;omega
  ·rw[if_neg (fun e=>e1 e.symm)]
   have:=h.dirs' hy hd;omega
 ·obtain⟨d0,q1,q2,q3⟩:=ed j z e' hz he'
  rcases cs k y hy with⟨rfl,_,rfl⟩ |⟨rfl,rfl⟩ |⟨e1,_,hy⟩
  ·show x.parent=j
   exact h.parent hf.hx hd q1 q2 hn
  ·show d.parent=j
   exact h.parent hf.hd hk2 q1 q2 hn
  ·exact h.parent hy hd q1 q2 hn
 ·by_cases e1:k=x.ino
  ·subst e1
   rcases cs _ y hy with⟨_,hl,_⟩ |⟨e2,_⟩ |⟨e2,_⟩
   ·have hp:0<fc x.ino g.inodes:=by
     rw[s3,if_pos rfl];have h1:=fc_mem (findI_some hf.hd).1 hf.mem.1 hf.hn;have h2:=hxk.2.1;omega
    obtain⟨z,hz,e',he',hn⟩:=fc_pos hp;have hz:=findI_mem hs hz;have hzx:z.ino≠x.ino:=fun e1=>by
     rw[e1] at hz;obtain⟨d0,q1,q2,_⟩:=ed _ z e' hz he';rw[hf.hx] at q1;cases q1;rw[hx0] at q2;cases q2
    obtain⟨d0,q1,_⟩:=ed _ z e' hz he';have:=Reach.step (hreach _ (h.led' q1) hzx) hz he';rw[hn] at this;exact this
   ·exact absurd e2 hxd
   ·exact absurd rfl e2
  ·have:∃z,findI k f.inodes=some z:=by
    rcases cs _ y hy with⟨e2,_⟩ |⟨rfl,_⟩ |⟨_,_,hy⟩
    ·exact absurd e2 e1
    ·exact⟨d,hf.hd⟩
    ·exact⟨y,hy⟩
   obtain⟨z,hz⟩:=this;exact hreach _ (h.led' hz) e1
 ·have hff:=h.fits
  have hbx:0≤byt x:=by unfold byt;split<;>omega
  unfold fitsI at hff⊢;simp only[Bool.and_eq_true,decide_eq_true_eq] at hff⊢;rw[m1,m2];split at s1<;>rename_i hl
  ·rw[if_pos hl] at s2;omega
  ·rw[if_neg hl] at s2;omega
end
end Go.Eng
set_option linter.unusedSimpArgs false
set_option linter.unusedVariables false
set_option linter.unusedSectionVars false
namespace Go.Eng
open Go
structure Bd (n:Nat) (f:Fs):Prop where
 len:f.inodes.length≤n
 ents:∀x∈f.inodes,x.entries.length≤n
 data:∀x∈f.inodes,x.data.length≤10000000
structure Ew (f:Fs):Prop where
 tr:Tree f
 sm:SmF f
 wf:WF f
 ws:WS f
 lil:Lil f
 tot:(allInos f.inodes).length≤536870912
section
variable {f:Fs} {n m:Nat}
theorem Bd.mono (h:Bd n f) (hm:n≤m):Bd m f:=
 ⟨Nat.le_trans h.len hm,fun x hx=>Nat.le_trans (h.ents x hx) hm,h.data⟩
theorem Bd.sm (h:Bd n f) (hn:n≤10000) (ht:Tree f):SmF f:=by
 refine⟨by have:=h.len;omega,fun x hx=>by have:=h.data x hx;omega,fun x hx=>by have:=h.ents x hx;omega,fun x hx e he=> ?_⟩;have h1:=(rightE_iff x.entries).1 (kind_right (ht.kind x hx));have:=mayN_len (h1.2 e he).1;omega
theorem ew_of (ht:Tree f) (h:Bd n f) (hn:n≤10000):Ew f:=by
 have hm:=h.sm hn ht;have hw:=ht.wf hm;have hl:=h.len;refine⟨ht,hm,hw,ht.ws hw,⟨by omega,fun x hx=>by have:=h.ents x hx;omega⟩, ?_⟩;have h1:=allInos_le (N:=10000) (l:=f.inodes) (fun x hx=>by have:=h.ents x hx;omega);have:f.inodes.length*10000≤10000*10000:=Nat.mul_le_mul_right _ (by omega);omega
theorem Ev.bd (e:Ev f):Bd 40 f:=⟨e.len,fun x hx=>(e.few x hx).2.1,fun x hx=>by have:=(e.few x hx).1;omega⟩
theorem Ev.ew (e:Ev f):Ew f:=ew_of e.tr e.bd (by omega)
theorem Ew.check (e:Ew f):ref07_Check f=some 0:=by rw[ref07_Check_eq e.sm e.tot,e.tr.check]
theorem Ew.same (e:Ew f) (g:Fs):ref05_Same f g=some (decide (f=g)):=ref05_Same_eq e.sm.len e.sm.ents
theorem Bd.set (h:Bd n f) {y:Inode} (hm:n+1≤m) (he:y.entries.length≤m) (hd:y.data.length≤10000000):Bd m (f.set y):=by
 refine⟨by have:= @set_len f y;have:=h.len;omega,fun x hx=> ?_,fun x hx=> ?_⟩
 ·rcases mem_setI.1 hx with rfl|⟨hx,_⟩
  ·exact he
  ·have:=h.ents x hx;omega
 ·rcases mem_setI.1 hx with rfl|⟨hx,_⟩
  ·exact hd
  ·exact h.data x hx
theorem Bd.put (h:Bd n f) (hs:SortI f.inodes) {y z:Inode} (hz:findI y.ino f.inodes=some z) (hm:n≤m) (he:y.entries.length≤m) (hd:y.data.length≤10000000):Bd m (f.set y):=by
 refine⟨?_,fun x hx=> ?_,fun x hx=> ?_⟩
 ·have:=setI_len (x:=y) hs
  rw[hz] at this;have h1:(setI y f.inodes).length=f.inodes.length:=this;have:=h.len;show(setI y f.inodes).length≤m;omega
 ·rcases mem_setI.1 hx with rfl|⟨hx,_⟩
  ·exact he
  ·have:=h.ents x hx;omega
 ·rcases mem_setI.1 hx with rfl|⟨hx,_⟩
  ·exact hd
  ·exact h.data x hx
theorem Bd.drop (h:Bd n f) {k:Int}:Bd n (f.drop k):=by
 refine⟨by have h1:(dropI k f.inodes).length≤f.inodes.length:=dropK_length_le;have:=h.len;show(dropI k f.inodes).length≤n;omega,fun x hx=> ?_,fun x hx=> ?_⟩
 ·exact h.ents x (dropK_mem.1 hx).1
 ·exact h.data x (dropK_mem.1 hx).1
theorem Bd.find (h:Bd n f) {k:Int} {x:Inode} (hx:findI k f.inodes=some x):x.entries.length≤n∧x.data.length≤10000000:=⟨h.ents x (findI_some hx).1,h.data x (findI_some hx).1⟩
theorem Bd.get (h:Bd n f) (k:Int):(getI k f.inodes).entries.length≤n∧(getI k f.inodes).data.length≤10000000:=by
 cases hf:findI k f.inodes with
 |none=>rw[getI_none hf];simp [zeroI]
 |some x=>rw[getI_some hf];exact h.find hf
theorem setE_len (e:Entry) (l:List Entry):(setE e l).length≤l.length+1:=setK_length_le
theorem dropE_len (n:Str) (l:List Entry):(dropE n l).length≤l.length:=dropK_length_le
theorem set_sort (h:SortI f.inodes) (x:Inode):SortI (f.set x).inodes:=setI_sort h
theorem getI_sortE (h:WF f) (k:Int):SortE (getI k f.inodes).entries:=by
 cases hf:findI k f.inodes with
 |none=>rw[getI_none hf];exact List.Pairwise.nil
 |some x=>rw[getI_some hf];exact h.sortE (findI_some hf).1
end
end Go.Eng
set_option linter.unusedSimpArgs false
set_option linter.unusedVariables false
set_option linter.unusedSectionVars false
namespace Go.Eng
open Go
section
variable {f:Fs} {d1 d2 x:Inode} {n1 n2:Str} {e:Entry}
def mvD (d1 d2:Inode) (n1:Str):Inode:=if d1.ino=d2.ino then d1.remE n1 else d2
def mvF (f:Fs) (d1:Inode) (n1:Str) (d2:Inode) (n2:Str) (x:Inode):Fs:=
 if x.kind=2 then ((f.set (d1.remE n1)).set ((mvD d1 d2 n1).addE n2 x.ino)).set (x.withP d2.ino) else (f.set (d1.remE n1)).set ((mvD d1 d2 n1).addE n2 x.ino)
structure Mv (f:Fs) (d1:Inode) (n1:Str) (d2:Inode) (n2:Str) (x:Inode) (e:Entry):Prop where
 ent:Ent f d1 n1 x e
 free:Free f d2 n2
 out:¬∃n,Way f.inodes x.ino d2.ino n
theorem mvD_ino:(mvD d1 d2 n1).ino=d2.ino:=by
 unfold mvD;split
 ·rename_i h;exact h
 ·rfl
theorem Mv.ne2 (h:Mv f d1 n1 d2 n2 x e):x.ino≠d2.ino:=fun e1=>h.out ⟨0,by rw[e1];exact .here⟩
theorem Mv.same (h:Mv f d1 n1 d2 n2 x e) (e1:d1.ino=d2.ino):d1=d2:=by
 have:=h.ent.hd;rw[e1,h.free.hd] at this;exact(Option.some.inj this).symm
theorem Mv.dk (h:Mv f d1 n1 d2 n2 x e) (ht:Tree f):(mvD d1 d2 n1).kind=2:=by
 unfold mvD;split
 ·exact h.ent.kind ht
 ·exact h.free.hk
theorem Mv.dfree (h:Mv f d1 n1 d2 n2 x e):findE n2 (mvD d1 d2 n1).entries=none:=by
 unfold mvD;split
 ·rename_i e1
  show findE n2 (dropE n1 d1.entries)=none;rw[findE_drop];split
  ·rfl
  ·rw[h.same e1];exact h.free.h0
 ·exact h.free.h0
theorem Mv.dright (h:Mv f d1 n1 d2 n2 x e) (ht:Tree f):rightE (mvD d1 d2 n1).entries=true:=by
 unfold mvD;split
 ·exact right_drop (ht.getk h.ent.hd).2.2.2.2.2
 ·exact(ht.getk h.free.hd).2.2.2.2.2
theorem Mv.dkind (h:Mv f d1 n1 d2 n2 x e) (ht:Tree f):kindB (mvD d1 d2 n1)=true:=by
 unfold mvD;split
 ·exact kind_dir (ht.getk h.ent.hd).1 (h.ent.kind ht) (right_drop (ht.getk h.ent.hd).2.2.2.2.2)
 ·exact(ht.getk h.free.hd).1
theorem setE_new {l:List Entry} {a e':Entry} (h:findE a.name l=none):e'∈setE a l↔e'=a∨e'∈l:=by
 rw[mem_setE];refine⟨fun h'=>h'.imp id And.left,fun h'=>h'.imp id fun he=>⟨he,fun hn=> ?_⟩⟩;unfold findE findK at h;rw[List.find?_eq_none] at h;exact h e' he (by simpa using hn)
theorem mvF_find (h:Mv f d1 n1 d2 n2 x e) (ht:Tree f) (k:Int):findI k (mvF f d1 n1 d2 n2 x).inodes=
 if x.ino=k then some (if x.kind=2 then x.withP d2.ino else x) else if d2.ino=k then some ((mvD d1 d2 n1).addE n2 x.ino) else if d1.ino=k then some (d1.remE n1) else findI k f.inodes:=by
 have e1:(((mvD d1 d2 n1).addE n2 x.ino).ino)=d2.ino:=mvD_ino;have hx1:=h.ent.ne ht;have hx2:=h.ne2;unfold mvF;by_cases hk:x.kind=2
 ·rw[if_pos hk,if_pos hk]
  show findI k (setI _ (setI _ (setI _ f.inodes)))=_;rw[findI_set,findI_set,findI_set,e1];rfl
 ·rw[if_neg hk,if_neg hk]
  show findI k (setI _ (setI _ f.inodes))=_;rw[findI_set,findI_set,e1];by_cases h0:x.ino=k
  ·rw[if_pos h0,if_neg (fun e=>hx2 (by rw[h0,e])),if_neg (fun e=>hx1 (by rw[h0,←e];rfl)),←h0,h.ent.hx]
  ·rw[if_neg h0];rfl
theorem mvF_sort (ht:Tree f):SortI (mvF f d1 n1 d2 n2 x).inodes:=by
 unfold mvF;split
 ·exact setI_sort (setI_sort (setI_sort ht.sort))
 ·exact setI_sort (setI_sort ht.sort)
theorem byt_kind2 {y:Inode} (h:y.kind=2):byt y=0:=by unfold byt;rw[if_neg (by omega)]
theorem mvF_sum (h:Mv f d1 n1 d2 n2 x e) (ht:Tree f):(mvF f d1 n1 d2 n2 x).inodes.length=f.inodes.length∧bytesOf (mvF f d1 n1 d2 n2 x).inodes=bytesOf f.inodes∧∀n,fc n (mvF f d1 n1 d2 n2 x).inodes=fc n f.inodes:=by
 have hs:=ht.sort;have hs1:=setI_sort (x:=d1.remE n1) hs;have hs2:=setI_sort (x:=(mvD d1 d2 n1).addE n2 x.ino) hs1;have h1:findI (d1.remE n1).ino f.inodes=some d1:=h.ent.hd;have h2:findI ((mvD d1 d2 n1).addE n2 x.ino).ino (setI (d1.remE n1) f.inodes)=some (mvD d1 d2 n1):=by
  rw[show((mvD d1 d2 n1).addE n2 x.ino).ino=d2.ino from mvD_ino,findI_set];unfold mvD;by_cases e1:d1.ino=d2.ino
  ·rw[if_pos (show(d1.remE n1).ino=d2.ino from e1),if_pos e1]
  ·rw[if_neg (show¬(d1.remE n1).ino=d2.ino from e1),if_neg e1];exact h.free.hd
 have a1:(setI (d1.remE n1) f.inodes).length=f.inodes.length:=by rw[setI_len hs,h1];rfl
 have a2:(setI ((mvD d1 d2 n1).addE n2 x.ino) (setI (d1.remE n1) f.inodes)).length=f.inodes.length:=by rw[setI_len hs1,h2];exact a1
 have b1:=bytes_setI (x:=d1.remE n1) hs;rw[h1] at b1;simp only[fval] at b1;rw[byt_kind2 (h.ent.kind ht),byt_kind2 (show(d1.remE n1).kind=2 from h.ent.kind ht)] at b1;have b2:=bytes_setI (x:=(mvD d1 d2 n1).addE n2 x.ino) hs1;rw[h2] at b2;simp only[fval] at b2;rw[byt_kind2 (h.dk ht),byt_kind2 (show((mvD d1 d2 n1).addE n2 x.ino).kind=2 from h.dk ht)] at b2;have c2:∀n,fc n (setI ((mvD d1 d2 n1).addE n2 x.ino) (setI (d1.remE n1) f.inodes))=fc n f.inodes:=fun n=>by
  have c1:=fc_setI (x:=d1.remE n1) hs n;rw[h1] at c1;have c2:=fc_setI (x:=(mvD d1 d2 n1).addE n2 x.ino) hs1 n;rw[h2] at c2;have c3:=ec_drop (m:=n1) (ht.getk h.ent.hd).2.2.2.2.1 n;rw[h.ent.he] at c3;have c4:=ec_set (e:=⟨n2,x.ino⟩) ((rightE_iff _).1 (h.dright ht)).1 n;rw[show(⟨n2,x.ino⟩:Entry).name=n2 from rfl,h.dfree] at c4;simp only[fval,one,h.ent.hn] at c1 c2 c3 c4;have q1:(d1.remE n1).entries=dropE n1 d1.entries:=rfl;have q2:((mvD d1 d2 n1).addE n2 x.ino).entries=setE ⟨n2,x.ino⟩ (mvD d1 d2 n1).entries:=rfl;rw[q1] at c1;rw[q2] at c2;omega
 unfold mvF;by_cases hk:x.kind=2
 ·simp only[if_pos hk]
  have h3:findI (x.withP d2.ino).ino (setI ((mvD d1 d2 n1).addE n2 x.ino) (setI (d1.remE n1) f.inodes))=some x:=by
   rw[show(x.withP d2.ino).ino=x.ino from rfl,findI_set,if_neg (by rw[show((mvD d1 d2 n1).addE n2 x.ino).ino=d2.ino from mvD_ino];exact fun e=>h.ne2 e.symm),findI_set,if_neg (show¬(d1.remE n1).ino=x.ino from fun e=>h.ent.ne ht e.symm)];exact h.ent.hx
  refine⟨?_, ?_,fun n=> ?_⟩
  ·show(setI _ (setI _ (setI _ f.inodes))).length=_
   rw[setI_len hs2,h3];exact a2
  ·show bytesOf (setI _ (setI _ (setI _ f.inodes)))=_
   have:=bytes_setI (x:=x.withP d2.ino) hs2;rw[h3] at this;have q:byt (x.withP d2.ino)=byt x:=rfl;simp only[fval,q] at this;omega
  ·show fc n (setI _ (setI _ (setI _ f.inodes)))=_
   have:=fc_setI (x:=x.withP d2.ino) hs2 n;rw[h3,c2] at this;have q:(x.withP d2.ino).entries=x.entries:=rfl;simp only[fval,q] at this;omega
 ·simp only[if_neg hk]
  exact⟨a2,by show bytesOf (setI _ (setI _ f.inodes))=_;omega,c2⟩
theorem moveT (h:Tree f) (hm:Mv f d1 n1 d2 n2 x e):Tree (mvF f d1 n1 d2 n2 x):=by
 have hx1:=hm.ent.ne h;have hx2:=hm.ne2;have hfind:=mvF_find hm h;obtain⟨s1,s2,s3⟩:=mvF_sum hm h;have hk1:=h.getk hm.ent.hd;have hk2:=h.getk hm.free.hd;have hkx:=h.getk hm.ent.hx;have hs:SortI (mvF f d1 n1 d2 n2 x).inodes:=mvF_sort h;have hmx:(mvF f d1 n1 d2 n2 x).maxInodes=f.maxInodes∧(mvF f d1 n1 d2 n2 x).maxBytes=f.maxBytes∧(mvF f d1 n1 d2 n2 x).next=f.next:=by unfold mvF;split<;>exact⟨rfl,rfl,rfl⟩
 generalize mvF f d1 n1 d2 n2 x=g at hfind s1 s2 s3 hs hmx;obtain⟨m1,m2,m3⟩:=hmx;have hde:∀{e'},e'∈((mvD d1 d2 n1).addE n2 x.ino).entries↔e'=⟨n2,x.ino⟩∨e'∈(mvD d1 d2 n1).entries:=fun{e'}=>setE_new (a:=⟨n2,x.ino⟩) hm.dfree
 have hmd:∀{e'},e'∈(mvD d1 d2 n1).entries↔e'∈d2.entries∧(d2.ino=d1.ino→e'≠e):=fun{e'}=>by
  unfold mvD;by_cases q:d1.ino=d2.ino
  ·rw[if_pos q,hm.ent.ents h,hm.same q]
   exact⟨fun⟨a,b⟩=>⟨a,fun _=>b⟩,fun⟨a,b⟩=>⟨a,b rfl⟩⟩
  ·rw[if_neg q]
   exact⟨fun a=>⟨a,fun q'=>absurd q'.symm q⟩,fun a=>a.1⟩
 have cs:∀k y,findI k g.inodes=some y→∃z,findI k f.inodes=some z∧y.kind=z.kind∧y.links=z.links∧y.data=z.data∧(k≠x.ino→y.parent=z.parent)∧(k=x.ino→z=x∧(x.kind=2→y.parent=d2.ino))∧kindB y=true∧∀e',e'∈y.entries↔(k=d2.ino∧e'=⟨n2,x.ino⟩)∨(e'∈z.entries∧(k=d1.ino→e'≠e)):=fun k y hy=>by
  rw[hfind] at hy;by_cases e1:x.ino=k
  ·rw[if_pos e1] at hy
   subst e1;refine⟨x,hm.ent.hx, ?_⟩;have hee:∀e',e'∈x.entries↔(x.ino=d2.ino∧e'=⟨n2,x.ino⟩)∨(e'∈x.entries∧(x.ino=d1.ino→e'≠e)):=fun e'=>⟨fun a=>Or.inr ⟨a,fun b=>absurd b hx1⟩,fun a=>a.elim (fun b=>absurd b.1 hx2) And.left⟩
   by_cases hk:x.kind=2
   ·rw[if_pos hk] at hy;cases hy
    refine⟨rfl,rfl,rfl,fun a=>absurd rfl a,fun _=>⟨rfl,fun _=>rfl⟩, ?_,hee⟩;have:=hkx.1;rw[kind2 hk] at this;rw[kind2 (show(x.withP d2.ino).kind=2 from hk)];exact this
   ·rw[if_neg hk] at hy;cases hy
    exact⟨rfl,rfl,rfl,fun a=>absurd rfl a,fun _=>⟨rfl,fun a=>absurd a hk⟩,hkx.1,hee⟩
  ·rw[if_neg e1] at hy
   by_cases e2:d2.ino=k
   ·rw[if_pos e2] at hy;cases hy
    subst e2;refine⟨d2,hm.free.hd, ?_, ?_, ?_,fun _=> ?_,fun a=>absurd a.symm e1,kind_dir (hm.dkind h) (hm.dk h) (right_set (hm.dright h) hm.free.hm hkx.2.2.1),fun e'=> ?_⟩
    ·show(mvD d1 d2 n1).kind=_
     rw[hm.dk h,hm.free.hk]
    ·show(mvD d1 d2 n1).links=_
     unfold mvD;split
     ·rename_i q;rw[hm.same q];rfl
     ·rfl
    ·show(mvD d1 d2 n1).data=_
     unfold mvD;split
     ·rename_i q;rw[hm.same q];rfl
     ·rfl
    ·show(mvD d1 d2 n1).parent=_
     unfold mvD;split
     ·rename_i q;rw[hm.same q];rfl
     ·rfl
    ·rw[hde,hmd]
     exact⟨fun a=>a.imp (fun b=>⟨rfl,b⟩) id,fun a=>a.imp And.right id⟩
   ·rw[if_neg e2] at hy
    by_cases e3:d1.ino=k
    ·rw[if_pos e3] at hy;cases hy
     subst e3;refine⟨d1,hm.ent.hd,rfl,rfl,rfl,fun _=>rfl,fun a=>absurd a.symm e1,kind_dir hk1.1 (hm.ent.kind h) (right_drop hk1.2.2.2.2.2),fun e'=> ?_⟩;rw[hm.ent.ents h];exact⟨fun⟨a,b⟩=>Or.inr ⟨a,fun _=>b⟩,fun a=>a.elim (fun b=>absurd b.1.symm e2) (fun b=>⟨b.1,b.2 rfl⟩)⟩
    ·rw[if_neg e3] at hy
     exact⟨y,hy,rfl,rfl,rfl,fun _=>rfl,fun a=>absurd a.symm e1,(h.getk hy).1,fun e'=>⟨fun a=>Or.inr ⟨a,fun b=>absurd b.symm e3⟩,fun a=>a.elim (fun b=>absurd b.1.symm e2) And.left⟩⟩
 have on:∀k z,findI k f.inodes=some z→∃y,findI k g.inodes=some y:=fun k z hz=>by
  rw[hfind];by_cases e1:x.ino=k
  ·rw[if_pos e1];exact⟨_,rfl⟩
  ·rw[if_neg e1]
   by_cases e2:d2.ino=k
   ·rw[if_pos e2];exact⟨_,rfl⟩
   ·rw[if_neg e2]
    by_cases e3:d1.ino=k
    ·rw[if_pos e3];exact⟨_,rfl⟩
    ·rw[if_neg e3];exact⟨z,hz⟩
 have keep:∀k z e',findI k f.inodes=some z→e'∈z.entries→(k=d1.ino→e'≠e)→∃y,findI k g.inodes=some y∧e'∈y.entries:=fun k z e' hz he hne=>by
  obtain⟨y,hy⟩:=on k z hz;obtain⟨z',hz',_,_,_,_,_,_,h8⟩:=cs k y hy;rw[hz] at hz';cases hz';exact⟨y,hy,(h8 e').2 (Or.inr ⟨he,hne⟩)⟩
 have rA:∀k,Reach f.inodes k→(¬∃n,Way f.inodes x.ino k n)→Reach g.inodes k:=fun k hr=>by
  induction hr with
  |root=>exact fun _=> .root
  |step hr hz he ih=>
   rename_i k' z e';intro hn;obtain⟨y,hy,hey⟩:=keep k' z e' hz he (fun _ e1=>hn ⟨0,by rw[e1,hm.ent.hn];exact .here⟩);exact Reach.step (ih (fun⟨n,hw⟩=>hn ⟨n+1, .step hw hz he⟩)) hy hey
 have rB:Reach g.inodes x.ino:=by
  obtain⟨y,hy⟩:=on d2.ino d2 hm.free.hd;obtain⟨_,_,_,_,_,_,_,_,h8⟩:=cs _ y hy;exact Reach.step (e:=⟨n2,x.ino⟩) (rA _ (h.led' hm.free.hd) hm.out) hy ((h8 _).2 (Or.inl ⟨rfl,rfl⟩))
 have hloop:¬∃n,Way f.inodes x.ino d1.ino n:=fun⟨n,hw⟩=>by
  obtain⟨a,ha⟩:=(h.led' hm.ent.hd).way;exact h.no_loop ha hm.ent.hd hm.ent.mem.1 (by rw[hm.ent.hn];exact hw)
 have rC:∀k n,Way f.inodes x.ino k n→Reach g.inodes k:=fun k n hw=>by
  induction hw with
  |here=>exact rB
  |step hw hz he ih=>
   rename_i k' n' z e';obtain⟨y,hy,hey⟩:=keep k' z e' hz he (fun e1 _=>hloop ⟨n',by rw[←e1];exact hw⟩);exact Reach.step ih hy hey
 obtain⟨r,hr,hrk,hrp⟩:=h.root;have hx0:x.ino≠1:=fun e1=>h.no_up hm.ent.hd hm.ent.mem.1 (by rw[hm.ent.hn,e1])
 refine tree_mk (by rw[m1];exact h.maxI) (by rw[m2];exact h.maxB) (by rw[m3];exact h.next) hs (fun k y hy=> ?_) ?_ (fun k y hy=> ?_) (fun k y hy e' he'=> ?_) (fun k y hy=> ?_) ?_ (fun k y hy hd=> ?_) (fun k y hy hd j z hz e' he' hn=> ?_) (fun k y hy=> ?_) ?_
 ·obtain⟨z,hz,_⟩:=cs k y hy
  rw[m3];have:=h.getk hz;exact⟨this.2.2.1,this.2.2.2.1⟩
 ·obtain⟨y,hy⟩:=on 1 r hr
  obtain⟨z,hz,c1,_,_,c4,_⟩:=cs _ y hy;rw[hr] at hz;cases hz;exact⟨y,hy,by rw[c1];exact hrk,by rw[c4 (fun e=>hx0 e.symm)];exact hrp⟩
 ·obtain⟨z,hz,_,_,_,_,_,c7,_⟩:=cs k y hy
  exact c7
 ·obtain⟨z,hz,_,_,_,_,_,_,c8⟩:=cs k y hy
  rcases(c8 e').1 he' with⟨_,rfl⟩ |⟨he,_⟩
  ·exact on _ x hm.ent.hx
  ·obtain⟨z',hz'⟩:=h.to hz he
   exact on _ z' hz'
 ·obtain⟨z,hz,_,c2,_⟩:=cs k y hy
  rw[s3,c2];exact(h.getk hz).2.1
 ·rw[s3];exact h.rootn
 ·obtain⟨z,hz,c1,_⟩:=cs k y hy
  rw[s3];exact h.dirs' hz (by rw[←c1];exact hd)
 ·obtain⟨y0,hy0,c1,_,_,c4,c5,_⟩:=cs k y hy
  obtain⟨z0,hz0,_,_,_,_,_,_,c8⟩:=cs j z hz;rcases(c8 e').1 he' with⟨rfl,rfl⟩ |⟨he,hne⟩
  ·have hn:x.ino=k:=hn
   obtain⟨a,b⟩:=c5 hn.symm;rw[a] at c1;exact b (by rw[←c1];exact hd)
  ·by_cases hkx0:k=x.ino
   ·exfalso
    obtain⟨a,b⟩:=c5 hkx0;have hxk:x.kind=2:=by rw[←a,←c1];exact hd
    obtain⟨q1,q2,q3⟩:=h.up hz0 he hm.ent.hd hm.ent.mem.1 (by rw[hn,hkx0,hm.ent.hn]) (y:=x) (by rw[hn,hkx0];exact hm.ent.hx) hxk;exact hne q1 q3
   ·rw[c4 hkx0]
    exact h.parent hy0 (by rw[←c1];exact hd) hz0 he hn
 ·obtain⟨z,hz,_⟩:=cs k y hy
  by_cases hb:∃n,Way f.inodes x.ino k n
  ·obtain⟨n,hw⟩:=hb
   exact rC k n hw
  ·exact rA k (h.led' hz) hb
 ·have hff:=h.fits
  unfold fitsI at hff⊢;simp only[Bool.and_eq_true,decide_eq_true_eq] at hff⊢;rw[s1,s2,m1,m2];exact hff
end
end Go.Eng
set_option linter.unusedSimpArgs false
set_option linter.unusedVariables false
set_option linter.unusedSectionVars false
namespace Go.Eng
open Go
structure Ext (f g:Fs) (D:Int) (N:Str) (x:Inode):Prop where
 wf:WS f
 wg:WS g
 old:∀k a,findI k f.inodes=some a→∃b,findI k g.inodes=some b∧a.ino=b.ino∧a.kind=b.kind∧a.parent=b.parent∧(a.kind=3→a.data=b.data)∧∀n,(k=D∧n=N)∨inoE n b.entries=inoE n a.entries
 new:findI x.ino g.inodes=some x
 was:∀d,findI D f.inodes=some d→inoE N d.entries=0
 now:∀d,findI D g.inodes=some d→inoE N d.entries=x.ino
 pos:D≠0
def updS (D:Int) (N:Str) (i:Int) (s:Spotted):Spotted:=if s.dir=D∧s.name=N then ⟨D,N,i⟩ else s
def OkS (f:Fs) (D:Int) (N:Str) (s:Spotted):Prop:=(s.dir=D∧s.name=N→s.ino=0)∧(s.ino=0∨(findI s.ino f.inodes).isSome=true)
section
variable {f g:Fs} {D:Int} {N:Str} {x:Inode}
theorem updS_ne {s:Spotted} {i:Int} (h:¬(s.dir=D∧s.name=N)):updS D N i s=s:=by unfold updS;rw[if_neg h]
theorem OkS.ne {s:Spotted} (h:OkS f D N s) (h0:s.ino≠0):¬(s.dir=D∧s.name=N):=fun e=>h0 (h.1 e)
theorem Ext.here (h:Ext f g D N x) {j:Int} {d:Inode} (hj:findI j f.inodes=some d):updS D N x.ino ⟨0, [],j⟩=⟨0, [],j⟩∧OkS f D N ⟨0, [],j⟩:=
 ⟨updS_ne fun e=>h.pos e.1.symm,fun e=>absurd e.1.symm h.pos,Or.inr (by show(findI j f.inodes).isSome=true;rw[hj];rfl)⟩
theorem Ext.look (h:Ext f g D N x) {k:Int} {d b:Inode} (hd:findI k f.inodes=some d) (hb:findI k g.inodes=some b) (n:Str):(⟨b.ino,n,inoE n b.entries⟩:Spotted)=updS D N x.ino ⟨d.ino,n,inoE n d.entries⟩∧OkS f D N ⟨d.ino,n,inoE n d.entries⟩:=by
 have d2:=(findI_some hd).2;have b2:=(findI_some hb).2;constructor
 ·by_cases hs:d.ino=D∧n=N
  ·obtain⟨e1,rfl⟩:=hs
   unfold updS;rw[if_pos ⟨e1,rfl⟩,h.now b (by rw[←e1,d2];exact hb),b2,←d2,e1]
  ·rw[updS_ne hs]
   obtain⟨b',hb',_,_,_,_,h5⟩:=h.old k d hd;rw[hb] at hb';cases hb';rcases h5 n with⟨e1,e2⟩ |h5
   ·exact absurd ⟨by rw[d2,e1],e2⟩ hs
   ·rw[h5,b2,d2]
 ·refine⟨fun e=> ?_, ?_⟩
  ·obtain⟨e1,e2⟩:=e
   have e1:d.ino=D:=e1;have e2:n=N:=e2;show inoE n d.entries=0;rw[e2];exact h.was d (by rw[←e1,d2];exact hd)
  ·exact inoE_there h.wf.wf (findI_some hd).1 n
theorem Ext.goAt (h:Ext f g D N x):∀(ns:List Str) (s t:Spotted),OkS f D N s→goAt f.inodes ns s=(t,0)→goAt g.inodes ns (updS D N x.ino s)=(updS D N x.ino t,0)∧OkS f D N t
 | [],s,t,hs,hg=>by
  simp only[Go.Eng.goAt,Prod.mk.injEq] at hg⊢;obtain⟨rfl,_⟩:=hg;exact⟨⟨rfl,trivial⟩,hs⟩
 |n::ns,s,t,hs,hg=>by
  cases hf:findI s.ino f.inodes with
  |none=>rw[goAt_none hf] at hg;simp at hg
  |some d=>
   by_cases hk:d.kind=2
   ·rw[goAt_dir hf hk] at hg
    have h0:s.ino≠0:=fun e=>by rw[e,h.wf.wf.zero] at hf;cases hf
    rw[updS_ne (hs.ne h0)];obtain⟨b,hb,_,h2,_⟩:=h.old _ d hf;obtain⟨l1,l2⟩:=h.look hf hb n;rw[goAt_dir hb (by rw[←h2];exact hk),l1];exact Ext.goAt h ns _ t l2 hg
   ·rw[goAt_file hf hk] at hg;simp at hg
theorem Ext.getk (h:Ext f g D N x) {k:Int} (hk:k=0∨(findI k f.inodes).isSome=true):(getI k g.inodes).kind=(getI k f.inodes).kind∧((getI k f.inodes).kind=3→(getI k f.inodes).data=(getI k g.inodes).data):=by
 rcases hk with rfl|hk
 ·rw[getI_none h.wf.wf.zero,getI_none h.wg.wf.zero];exact⟨rfl,fun _=>rfl⟩
 ·obtain⟨a,ha⟩:=Option.isSome_iff_exists.1 hk
  obtain⟨b,hb,_,h2,_,h4,_⟩:=h.old k a ha;rw[getI_some ha,getI_some hb];exact⟨h2.symm,h4⟩
theorem Ext.endP (h:Ext f g D N x) {dir:Bool} (hx:dir=true→x.kind=2) {s t:Spotted} (hs:OkS f D N s) (he:endP f.inodes dir s=(t,0)):endP g.inodes dir (updS D N x.ino s)=(updS D N x.ino t,0)∧OkS f D N t:=by
 have ht:t=s:=by
  unfold Go.Eng.endP at he;split at he
  ·split at he
   ·simp at he
   ·exact(Prod.mk.inj he).1.symm
  ·exact(Prod.mk.inj he).1.symm
 subst ht;refine⟨?_,hs⟩;by_cases hsp:t.dir=D∧t.name=N
 ·have:updS D N x.ino t=⟨D,N,x.ino⟩:=by unfold updS;rw[if_pos hsp]
  rw[this];unfold Go.Eng.endP;simp only;rw[h.new];simp only;rw[if_neg (fun e=>e.2 (hx e.1))]
 ·rw[updS_ne hsp]
  unfold Go.Eng.endP at he⊢;rcases hs.2 with h0|h0
  ·rw[h0,h.wg.wf.zero]
  ·obtain⟨a,ha⟩:=Option.isSome_iff_exists.1 h0
   obtain⟨b,hb,_,h2,_⟩:=h.old _ a ha;rw[ha] at he;rw[hb];simp only at he⊢;rw[←h2];exact he
theorem Ext.stepIn (h:Ext f g D N x) {lnk lnk':Bool→Inode→Inode→List Str→Spotted×Int} {dir:Bool} (hx:dir=true→x.kind=2)
 (hl:∀(a b d d':Inode) (rest:List Str) (t:Spotted),(rest≠ [] ∨dir=true)→a.data=b.data→d.ino=d'.ino→(∃z,findI d.ino f.inodes=some z)→lnk dir a d rest=(t,0)→lnk' dir b d' rest=(updS D N x.ino t,0)∧OkS f D N t):
 ∀(todo:List Str) (s t:Spotted),OkS f D N s→stepIn f.inodes false lnk dir todo s=(t,0)→stepIn g.inodes false lnk' dir todo (updS D N x.ino s)=(updS D N x.ino t,0)∧OkS f D N t
 | [],s,t,hs,hg=>h.endP hx hs hg
 |n::rest,s,t,hs,hg=>by
  cases hf:findI s.ino f.inodes with
  |none=>rw[stepIn_none hf] at hg;simp at hg
  |some d=>
   by_cases hk:d.kind=2
   ·have h0:s.ino≠0:=fun e=>by rw[e,h.wf.wf.zero] at hf;cases hf
    rw[updS_ne (hs.ne h0)];obtain⟨b,hb,h1,h2,h3,_⟩:=h.old _ d hf;have hkb:b.kind=2:=by rw[←h2];exact hk
    by_cases n1:n=[46]
    ·rw[stepIn_dot hf hk n1] at hg
     rw[stepIn_dot hb hkb n1,←h1];have hd:findI d.ino f.inodes=some d:=by rw[(findI_some hf).2];exact hf
     obtain⟨u1,u2⟩:=h.here hd;have:=Ext.stepIn h hx hl rest _ t u2 hg;rwa[u1] at this
    ·by_cases n2:n=[46,46]
     ·rw[stepIn_up hf hk n2] at hg
      rw[stepIn_up hb hkb n2,←h3];obtain⟨y,hy,_⟩:=h.wf.par d (findI_some hf).1 hk;obtain⟨u1,u2⟩:=h.here hy;have:=Ext.stepIn h hx hl rest _ t u2 hg;rwa[u1] at this
     ·obtain⟨l1,l2⟩:=h.look hf hb n
      by_cases hsp:d.ino=D∧n=N
      ·have hz:inoE n d.entries=0:=l2.1 hsp
       have hki:(getI (inoE n d.entries) f.inodes).kind=0:=by rw[hz,getI_none h.wf.wf.zero];rfl
       rw[stepIn_on hf hk n1 n2 (fun c=>by rw[hki] at c;exact absurd c.1 (by decide))] at hg;cases rest with
       |nil=>
        have hb2:inoE n b.entries=x.ino:=by
         rw[hsp.2];exact h.now b (by rw[←hsp.1,(findI_some hf).2];exact hb)
        rw[stepIn_on hb hkb n1 n2 (fun c=>by
         rw[hb2,getI_some h.new] at c;have:=hx (by simpa using c.2);omega),l1]
        exact h.endP hx l2 hg
       |cons m rest=>
        rw[hz,stepIn_none (h.wf.wf.zero)] at hg;simp at hg
      ·rw[updS_ne hsp] at l1
       have e1:inoE n b.entries=inoE n d.entries:=(Spotted.mk.inj l1).2.2;obtain⟨k1,k2⟩:=h.getk l2.2;by_cases c:(getI (inoE n d.entries) f.inodes).kind=3∧(rest≠ [] ∨false=true∨dir=true)
       ·rw[stepIn_link hf hk n1 n2 c] at hg
        rw[stepIn_link hb hkb n1 n2 (by rw[e1];exact⟨by rw[k1];exact c.1,c.2⟩),e1];refine hl _ _ _ _ _ _ (by simpa using c.2) (k2 c.1) h1 ⟨d,by rw[(findI_some hf).2];exact hf⟩ hg
       ·rw[stepIn_on hf hk n1 n2 c] at hg
        rw[stepIn_on hb hkb n1 n2 (by rw[e1];exact fun c'=>c ⟨by rw[←k1];exact c'.1,c'.2⟩),l1];have:=Ext.stepIn h hx hl rest _ t l2 hg;rwa[updS_ne hsp] at this
   ·rw[stepIn_file hf hk] at hg;simp at hg
theorem Ext.onK (h:Ext f g D N x):∀(k:Nat) (dir:Bool) (todo:List Str) (s t:Spotted),(dir=true→x.kind=2)→OkS f D N s→onK f.inodes false k dir todo s=(t,0)→onK g.inodes false k dir todo (updS D N x.ino s)=(updS D N x.ino t,0)∧OkS f D N t
 |0,dir,todo,s,t,hx,hs,hg=>h.stepIn hx (fun a b d d' rest t _ _ _ _ hh=>by simp at hh) todo s t hs hg
 |k+1,dir,todo,s,t,hx,hs,hg=>by
  refine h.stepIn hx (fun a b d d' rest t hr hd hi ⟨z,hz⟩ hh=> ?_) todo s t hs hg;rw[←hd,←hi];by_cases hl:longP a.data=true
  ·rw[if_pos hl] at hh;simp at hh
  ·rw[if_neg hl] at hh⊢
   have hj:∃z',findI (if (readP a.data).abs=true then 1 else d.ino) f.inodes=some z':=by
    split
    ·exact Option.isSome_iff_exists.1 h.wf.wf.root
    ·exact⟨z,hz⟩
   obtain⟨z',hz'⟩:=hj;obtain⟨u1,u2⟩:=h.here hz';have:=Ext.onK h k _ _ _ t (fun hd'=>hx (by
    rw[Bool.or_eq_true,Bool.and_eq_true] at hd';rcases hd' with hd'|⟨_,hd'⟩
    ·exact hd'
    ·rcases hr with hr|hr
     ·exact absurd (by simpa using hd') hr
     ·exact hr)) u2 hh
   rwa[u1] at this
end
end Go.Eng
set_option linter.unusedSimpArgs false
set_option linter.unusedVariables false
namespace Go.Eng
open Go
theorem table_Drop_eq {f:Fs} {n:Int} (hs:SortI f.inodes) (hl:f.inodes.length≤1073741824):table_Drop f n=some (f.drop n):=by
 unfold table_Drop Fs.drop;rw[table_at_eq hs hl];simp only[ocase_some'];generalize f.inodes=l at hs hl;cases h:hasI n l
 ·have hf:=hasI_none hs h
  have e9:dropI n l=l:=dropK_none hf;rw[e9];refine nilK_eq (fun e=> ?_) ?_
  ·subst e;rfl
  ·rw[lcase_le (by unfold LIM;simp;omega)]
   simp only[bcase_false,List.nil_append]
 ·obtain⟨x,hx,hxn⟩:=hasI_some h
  have e9:dropI n l=l.take (cntI n l)++l.drop (cntI n l+1):=dropK_cnt loI hs hx hxn;rw[e9];have hlt:cntI n l<l.length:=(List.getElem?_eq_some_iff.1 hx).1;clear h hx e9;generalize cntI n l=c at hlt;refine nilK_eq (fun e=>by subst e;simp at hlt) ?_;rw[lcase_le (by unfold LIM;simp;omega)];have e1:IntKind.i64.wrap ((c:Int)+(1:Int))=((c+1:Nat):Int):=wrap_succ (by omega);have hS:(l.drop (c+1)).take (l.length - (c+1))=l.drop (c+1):=by rw[List.take_of_length_le];simp
  have hSl:(l.drop (c+1)).length=l.length - (c+1):=by simp
  have e2:(c:Int)+((l.length - (c+1):Nat):Int)=((l.length - 1:Nat):Int):=by omega
  simp only[bcase_true,List.nil_append,e1,toNat_cast,Nat.zero_add,hS,hSl,e2];have e3:c+(l.length - (c+1))=l.length - 1:=by omega
  simp only[e3];have hM:(l.take c++(l.drop (c+1)++l.drop (l.length - 1))).length=l.length:=by simp;omega
  have hT:(l.take c++(l.drop (c+1)++l.drop (l.length - 1))).take (l.length - 1)=l.take c++l.drop (c+1):=by
   rw[←List.append_assoc];exact take_set (by simp;omega)
  simp only[hT,hM];have hA:(l.take c++l.drop (c+1)).length=l.length - 1:=by simp;omega
  have hQ:∀X:List Inode,(((l.take c++l.drop (c+1))++X).drop 0).take (l.length - 1)=l.take c++l.drop (c+1):=fun X=>by
   rw[List.drop_zero];exact take_set hA
  rw[bc_t (by simp),bc_t (by simp;omega),bc_t (by simp;omega),bc_f (by simp;omega),bc_t (by simp;omega),bc_t (by simp;omega),bc_t (Nat.ble_eq_true_of_le (by omega)),bc_t (Nat.ble_eq_true_of_le (by omega)),bc_t (decide_eq_true (by omega)),bc_t (by simp),bc_t (Nat.ble_eq_true_of_le (by omega)),bc_t (Nat.ble_eq_true_of_le (by simp;omega)),hQ]
theorem table_Take_eq {f:Fs} (hl:f.inodes.length≤1073741824) (h0: -9223372036854775808≤f.next) (h1:f.next<9223372036854775807):table_Take f=some (⟨f.maxInodes,f.maxBytes,f.next+1,f.inodes⟩,f.next):=by
 unfold table_Take;have e1:IntKind.i64.wrap (f.next+(1:Int))=f.next+1:=wrap_id (by omega) (by omega);rw[e1];refine nilK_eq (fun e=>by rw[e]) ?_;rw[lcase_le (by unfold LIM;simp;omega),List.nil_append]
end Go.Eng
set_option linter.unusedVariables false
set_option maxRecDepth 100000
namespace Go.Eng
open Go
noncomputable def create_New (w0:Fs) (w1:Spotted) (w2:Int) (w3:Str):Option (Fs×Int):=
 bcase (w2==(1:Int)) (ocase (path_May w1.name) fun y1=>
 bcase (!y1) (some (w0,(9:Int))) (ocase (room_Fits w0 (1:Int) (List.length w3:Int)) fun y2=>
 bcase (!y2) (some (w0,(8:Int))) (ocase (table_Get w0 w1.dir) fun y3=>ocase (table_Take w0) fun y4=>
 bcase (w2==(2:Int)) (ocase (entry_With y3.1.entries w1.name y4.2) fun y5=>ocase (table_Set y4.1 (⟨y3.1.ino,y3.1.kind,y3.1.links,y3.1.data,y3.1.parent,y5⟩:Inode)) fun y6=>ocase (table_Set y6 (⟨y4.2,w2,(1:Int),w3,w1.dir,([] :List Entry)⟩:Inode)) fun y7=>some (y7,(0:Int))) (ocase (entry_With y3.1.entries w1.name y4.2) fun y8=>ocase (table_Set y4.1 (⟨y3.1.ino,y3.1.kind,y3.1.links,y3.1.data,y3.1.parent,y8⟩:Inode)) fun y9=>ocase (table_Set y9 (⟨y4.2,w2,(1:Int),w3,0,([] :List Entry)⟩:Inode)) fun y10=>some (y10,(0:Int)))))) (ocase (path_May w1.name) fun y11=>
 bcase (!y11) (some (w0,(9:Int))) (ocase (room_Fits w0 (1:Int) (0:Int)) fun y12=>
 bcase (!y12) (some (w0,(8:Int))) (ocase (table_Get w0 w1.dir) fun y13=>ocase (table_Take w0) fun y14=>
 bcase (w2==(2:Int)) (ocase (entry_With y13.1.entries w1.name y14.2) fun y15=>ocase (table_Set y14.1 (⟨y13.1.ino,y13.1.kind,y13.1.links,y13.1.data,y13.1.parent,y15⟩:Inode)) fun y16=>ocase (table_Set y16 (⟨y14.2,w2,(1:Int),w3,w1.dir,([] :List Entry)⟩:Inode)) fun y17=>some (y17,(0:Int))) (ocase (entry_With y13.1.entries w1.name y14.2) fun y18=>ocase (table_Set y14.1 (⟨y13.1.ino,y13.1.kind,y13.1.links,y13.1.data,y13.1.parent,y18⟩:Inode)) fun y19=>ocase (table_Set y19 (⟨y14.2,w2,(1:Int),w3,0,([] :List Entry)⟩:Inode)) fun y20=>some (y20,(0:Int))))))
end Go.Eng
set_option linter.unusedVariables false
set_option maxRecDepth 100000
namespace Go.Eng
open Go
noncomputable def ref11_New (w0:Fs) (w1:Spotted) (w2:Int) (w3:Str):Option (Fs×Int):=
 ocase (ref03_May w1.name) fun y1=>
 bcase (!y1) (some (w0,(9:Int))) (
 bcase (w2==(1:Int)) (ocase (ref06_Fits w0 (1:Int) (List.length w3:Int)) fun y2=>
 bcase (!y2) (some (w0,(8:Int))) (ocase (ref05_Get w0 w1.dir) fun y3=>ocase (ref04_With y3.1.entries w1.name w0.next) fun y4=>
 bcase (w2==(2:Int)) (ocase (ref05_Set w0 (⟨y3.1.ino,y3.1.kind,y3.1.links,y3.1.data,y3.1.parent,y4⟩:Inode)) fun y5=>ocase (ref05_Set y5 (⟨w0.next,w2,(1:Int),w3,w1.dir,([] :List Entry)⟩:Inode)) fun y6=>some ((⟨y6.maxInodes,y6.maxBytes,(IntKind.i64.wrap (y6.next+(1:Int))),y6.inodes⟩:Fs),(0:Int))) (ocase (ref05_Set w0 (⟨y3.1.ino,y3.1.kind,y3.1.links,y3.1.data,y3.1.parent,y4⟩:Inode)) fun y7=>ocase (ref05_Set y7 (⟨w0.next,w2,(1:Int),w3,0,([] :List Entry)⟩:Inode)) fun y8=>some ((⟨y8.maxInodes,y8.maxBytes,(IntKind.i64.wrap (y8.next+(1:Int))),y8.inodes⟩:Fs),(0:Int))))) (ocase (ref06_Fits w0 (1:Int) (0:Int)) fun y9=>
 bcase (!y9) (some (w0,(8:Int))) (ocase (ref05_Get w0 w1.dir) fun y10=>ocase (ref04_With y10.1.entries w1.name w0.next) fun y11=>
 bcase (w2==(2:Int)) (ocase (ref05_Set w0 (⟨y10.1.ino,y10.1.kind,y10.1.links,y10.1.data,y10.1.parent,y11⟩:Inode)) fun y12=>ocase (ref05_Set y12 (⟨w0.next,w2,(1:Int),w3,w1.dir,([] :List Entry)⟩:Inode)) fun y13=>some ((⟨y13.maxInodes,y13.maxBytes,(IntKind.i64.wrap (y13.next+(1:Int))),y13.inodes⟩:Fs),(0:Int))) (ocase (ref05_Set w0 (⟨y10.1.ino,y10.1.kind,y10.1.links,y10.1.data,y10.1.parent,y11⟩:Inode)) fun y14=>ocase (ref05_Set y14 (⟨w0.next,w2,(1:Int),w3,0,([] :List Entry)⟩:Inode)) fun y15=>some ((⟨y15.maxInodes,y15.maxBytes,(IntKind.i64.wrap (y15.next+(1:Int))),y15.inodes⟩:Fs),(0:Int))))))
noncomputable def ref11_put (w0:Fs) (w1:Str) (w2:Str) (w3:Int) (w4:Str) (w5:Int):Option (Fs×Int):=
 ocase (ref10_Seek w0 w1 w2 false) fun y1=>
 bcase (y1.2 !=(0:Int)) (some (w0,y1.2)) (
 bcase (y1.1.ino !=(0:Int)) (some (w0,(2:Int))) (
 bcase (w5 !=(0:Int)) (ocase (ref03_Read w2) fun y2=>
 bcase y2.slash (some (w0,w5)) (ocase (ref11_New w0 y1.1 w3 w4) fun y3=>some (y3.1,y3.2))) (ocase (ref11_New w0 y1.1 w3 w4) fun y4=>some (y4.1,y4.2))))
end Go.Eng
set_option linter.unusedSimpArgs false
set_option linter.unusedVariables false
set_option linter.unusedSectionVars false
namespace Go.Eng
open Go
def newI (f:Fs) (s:Spotted) (k:Int) (d:Str):Inode:=⟨f.next,k,1,d,if k=2 then s.dir else 0, []⟩
def newF (f:Fs) (s:Spotted) (k:Int) (d:Str):Fs:=⟨f.maxInodes,f.maxBytes,f.next+1,setI (newI f s k d) (setI ((getI s.dir f.inodes).addE s.name f.next) f.inodes)⟩
def newP (f:Fs) (s:Spotted) (k:Int) (d:Str):Fs×Int:=if mayN s.name=true then (if fitsI f 1 (if k=1 then (d.length:Int) else 0)=true then (newF f s k d,0) else (f,8)) else (f,9)
def putP (f:Fs) (base p:Str) (k:Int) (d:Str) (r:Int):Fs×Int:=
 if (seekP f base p false).2=0 then (if (seekP f base p false).1.ino=0 then (if r≠0∧(readP p).slash=true then (f,r) else newP f (seekP f base p false).1 k d) else (f,2)) else (f,(seekP f base p false).2)
section
variable {f:Fs} {base p d:Str} {s:Spotted} {k:Int}
theorem new_core (h:WF f) (hl:f.inodes.length≤1000000000) (he:(getI s.dir f.inodes).entries.length≤1000000000) {nx:Int} {x:Inode}:
 table_Set ⟨f.maxInodes,f.maxBytes,nx,f.inodes⟩ ((getI s.dir f.inodes).addE s.name f.next)=some ⟨f.maxInodes,f.maxBytes,nx,setI ((getI s.dir f.inodes).addE s.name f.next) f.inodes⟩∧
 table_Set ⟨f.maxInodes,f.maxBytes,nx,setI ((getI s.dir f.inodes).addE s.name f.next) f.inodes⟩ x=some ⟨f.maxInodes,f.maxBytes,nx,setI x (setI ((getI s.dir f.inodes).addE s.name f.next) f.inodes)⟩∧
 ref05_Set f ((getI s.dir f.inodes).addE s.name f.next)=some (f.set ((getI s.dir f.inodes).addE s.name f.next))∧
 ref05_Set (f.set ((getI s.dir f.inodes).addE s.name f.next)) x=some ((f.set ((getI s.dir f.inodes).addE s.name f.next)).set x):=by
 have h1:= @set_len f ((getI s.dir f.inodes).addE s.name f.next);have h2:(setI ((getI s.dir f.inodes).addE s.name f.next) f.inodes).length≤f.inodes.length+1:=h1;refine⟨table_Set_eq (f:=⟨f.maxInodes,f.maxBytes,nx,f.inodes⟩) h.sort (by show f.inodes.length≤_;omega),table_Set_eq (f:=⟨f.maxInodes,f.maxBytes,nx,_⟩) (setI_sort h.sort) (by show(setI _ f.inodes).length≤_;omega),ref05_Set_eq (by omega),ref05_Set_eq (by omega)⟩
theorem create_New_eq (h:WF f) (hn:s.name.length≤1099511627775) (hd:d.length≤1073741824) (hl:f.inodes.length≤1000000000) (h0: -1152921504606846976≤f.next) (h1:f.next≤1152921504606846976) (he:(getI s.dir f.inodes).entries.length≤1000000000):create_New f s k d=some (newP f s k d):=by
 unfold create_New newP newF newI;have hw:entry_With (getI s.dir f.inodes).entries s.name f.next=some (setE ⟨s.name,f.next⟩ (getI s.dir f.inodes).entries):=entry_With_eq (getI_sortE h _) (by omega);have ht:table_Take f=some (⟨f.maxInodes,f.maxBytes,f.next+1,f.inodes⟩,f.next):=table_Take_eq (by omega) (by omega) (by omega);have c1:=fun x=>(new_core (s:=s) h hl he (nx:=f.next+1) (x:=x)).1
 have c2:=fun x=>(new_core (s:=s) h hl he (nx:=f.next+1) (x:=x)).2.1
 rw[path_May_eq hn,ocase_some',ocase_some',room_Fits_eq h.sm (by unfold Far;omega) (by unfold Far;omega),room_Fits_eq h.sm (by unfold Far;omega) (by unfold Far;omega),h.get,ht];simp only[ocase_some',beqI];rw[hw];simp only[ocase_some'];have c1':=c1 zeroI;unfold Inode.addE Inode.withE at c1';rw[c1'];simp only[ocase_some'];have c2':=c2;unfold Inode.addE Inode.withE at c2';simp only[c2',ocase_some'];by_cases hk1:k=1
 ·subst hk1
  simp only[decide_true,bcase_true,if_true];cases mayN s.name
  ·rfl
  cases fitsI f 1 (d.length:Int)
  ·rfl
  ·rfl
 ·simp only[hk1,decide_false,bcase_false,if_false]
  cases mayN s.name
  ·rfl
  cases fitsI f 1 0
  ·rfl
  by_cases hk2:k=2
  ·simp only[hk2,decide_true,if_true];rfl
  ·simp only[hk2,decide_false,if_false];rfl
theorem ref11_New_eq (h:WF f) (hn:s.name.length≤1099511627775) (hd:d.length≤1073741824) (hl:f.inodes.length≤1000000000) (h0: -1152921504606846976≤f.next) (h1:f.next≤1152921504606846976) (he:(getI s.dir f.inodes).entries.length≤1000000000):ref11_New f s k d=some (newP f s k d):=by
 unfold ref11_New newP newF newI;have hw:ref04_With (getI s.dir f.inodes).entries s.name f.next=some (setE ⟨s.name,f.next⟩ (getI s.dir f.inodes).entries):=ref04_With_eq (by omega);have c1:=fun x=>(new_core (s:=s) h hl he (nx:=f.next+1) (x:=x)).2.2.1
 have c2:=fun x=>(new_core (s:=s) h hl he (nx:=f.next+1) (x:=x)).2.2.2
 rw[ref03_May_eq hn,ocase_some',ref06_Fits_eq h.sm (by unfold Far;omega) (by unfold Far;omega),ref06_Fits_eq h.sm (by unfold Far;omega) (by unfold Far;omega),h.rget];simp only[ocase_some',beqI];rw[hw];simp only[ocase_some'];have c1':=c1 zeroI;unfold Inode.addE Inode.withE at c1';rw[c1'];simp only[ocase_some'];have c2':=c2;unfold Inode.addE Inode.withE at c2';simp only[c2',ocase_some'];have hw1:IntKind.i64.wrap (f.next+(1:Int))=f.next+1:=wrap_id (by omega) (by omega);simp only[Fs.set,hw1];cases mayN s.name
 ·rfl
 by_cases hk1:k=1
 ·subst hk1
  simp only[decide_true,bcase_true,if_true,Bool.not_true,bcase_false];cases fitsI f 1 (d.length:Int)
  ·rfl
  ·rfl
 ·simp only[hk1,decide_false,bcase_false,if_false,Bool.not_true]
  cases fitsI f 1 0
  ·rfl
  by_cases hk2:k=2
  ·simp only[hk2,decide_true,if_true];rfl
  ·simp only[hk2,decide_false,if_false];rfl
theorem ref11_put_eq (h:WS f) {r:Int} (hb:base.length≤8388608) (hp:p.length≤1073741823) (hd:d.length≤1073741824) (hl:f.inodes.length≤1000000000) (h0: -1152921504606846976≤f.next) (h1:f.next≤1152921504606846976) (he:∀x∈f.inodes,x.entries.length≤1000000000) (hn:(seekP f base p false).1.name.length≤1099511627775):
 ref11_put f base p k d r=some (putP f base p k d r):=by
 unfold ref11_put putP;have hge:(getI (seekP f base p false).1.dir f.inodes).entries.length≤1000000000:=by
  cases hf:findI (seekP f base p false).1.dir f.inodes with
  |none=>rw[getI_none hf];simp [zeroI]
  |some x=>rw[getI_some hf];exact he x (findI_some hf).1
 rw[ref10_Seek_eq h hb hp,ocase_some',bneI,bneI,bneI,ref03_Read_eq hp,ocase_some',ref11_New_eq h.wf hn hd hl h0 h1 hge];simp only[ocase_some'];by_cases z0:(seekP f base p false).2=0
 ·rw[bc_f (by simp [z0]),if_pos z0]
  by_cases z1:(seekP f base p false).1.ino=0
  ·rw[bc_f (by simp [z1]),if_pos z1]
   by_cases z2:r=0
   ·rw[bc_f (by simp [z2]),if_neg (by simp [z2])]
   ·rw[bc_t (by simp [z2])]
    cases z3:(readP p).slash
    ·rw[if_neg (by simp)];rfl
    ·rw[if_pos (by simp [z2])];rfl
  ·rw[bc_t (by simp [z1]),if_neg z1]
 ·rw[bc_t (by simp [z0]),if_neg z0]
end
end Go.Eng
set_option linter.unusedSimpArgs false
set_option linter.unusedVariables false
set_option linter.unusedSectionVars false
namespace Go.Eng
open Go
section
variable {l:List Inode} {fol:Bool}
theorem endP_nl {dir:Bool} {s:Spotted} (hs:s.name.length≤255):(endP l dir s).1.name.length≤255:=by
 unfold endP;split
 ·split
  ·simp [zeroS]
  ·exact hs
 ·exact hs
theorem stepIn_nl {lnk:Bool→Inode→Inode→List Str→Spotted×Int} {dir:Bool} (hl:∀x d rest,(∀n∈rest,n.length≤255)→(lnk dir x d rest).1.name.length≤255):
 ∀(todo:List Str) (s:Spotted),(∀n∈todo,n.length≤255)→s.name.length≤255→(stepIn l fol lnk dir todo s).1.name.length≤255
 | [],s,_,hs=>endP_nl hs
 |n::rest,s,hn,hs=>by
  have hrest:∀m∈rest,m.length≤255:=fun m hm=>hn m (by simp [hm])
  cases hf:findI s.ino l with
  |none=>rw[stepIn_none hf];simp [zeroS]
  |some d=>
   by_cases hk:d.kind=2
   ·by_cases h1:n=[46]
    ·rw[stepIn_dot hf hk h1];exact stepIn_nl hl rest _ hrest (by simp)
    ·by_cases h2:n=[46,46]
     ·rw[stepIn_up hf hk h2];exact stepIn_nl hl rest _ hrest (by simp)
     ·by_cases h3:(getI (inoE n d.entries) l).kind=3∧(rest≠ [] ∨fol=true∨dir=true)
      ·rw[stepIn_link hf hk h1 h2 h3];exact hl _ _ _ hrest
      ·rw[stepIn_on hf hk h1 h2 h3];exact stepIn_nl hl rest _ hrest (hn n (by simp))
   ·rw[stepIn_file hf hk];simp [zeroS]
theorem longP_names {p:Str} (h:longP p=false):∀n∈namesP p,n.length≤255:=by
 intro n hn;unfold longP at h;simp only[Bool.or_eq_false_iff] at h;have:=List.any_eq_false.1 h.1 n hn;simpa using this
theorem onK_nl:∀(k:Nat) (dir:Bool) (todo:List Str) (s:Spotted),(∀n∈todo,n.length≤255)→s.name.length≤255→(onK l fol k dir todo s).1.name.length≤255
 |0,dir,todo,s,hn,hs=>stepIn_nl (fun x d rest _=>by simp [zeroS]) todo s hn hs
 |k+1,dir,todo,s,hn,hs=>by
  refine stepIn_nl (fun x d rest hr=> ?_) todo s hn hs;split
  ·simp [zeroS]
  ·rename_i hlp
   refine onK_nl k _ _ _ (fun n hn'=> ?_) (by simp);simp only[List.mem_append] at hn';rcases hn' with hn'|hn'
   ·exact longP_names (by simpa using hlp) n hn'
   ·exact hr n hn'
theorem seekP_nl (f:Fs) (base p:Str) (fol:Bool):(seekP f base p fol).1.name.length≤255:=by
 unfold seekP;split
 ·simp [zeroS]
 ·split
  ·simp [zeroS]
  ·rename_i hlp
   have hn:=longP_names (p:=p) (by simpa using hlp);split
   ·exact onK_nl 40 _ _ _ hn (by simp [rootS])
   ·split
    ·exact onK_nl 40 _ _ _ hn (by simp)
    ·simp [zeroS]
end
end Go.Eng
set_option linter.unusedSimpArgs false
set_option linter.unusedVariables false
set_option linter.unusedSectionVars false
namespace Go.Eng
open Go
structure Ez (f:Fs):Prop where
 ws:WS f
 lil:Lil f
 nx: -1152921504606846976≤f.next∧f.next≤1152921504606846976
 lk:∀x∈f.inodes, -1152921504606846976≤x.links∧x.links≤1152921504606846976
def ezB (f:Fs):Bool:=wsB f&&(decide (f.inodes.length≤10000)&&(f.inodes.all (fun x=>decide (x.entries.length≤10000)&&decide (-1152921504606846976≤x.links∧x.links≤1152921504606846976))&&decide (-1152921504606846976≤f.next∧f.next≤1152921504606846976)))
theorem ez_of {f:Fs} (h:ezB f=true):Ez f:=by
 unfold ezB at h;simp only[Bool.and_eq_true,decide_eq_true_eq,List.all_eq_true] at h;obtain⟨h1,h2,h3,h4⟩:=h;exact⟨ws_of h1,⟨h2,fun x hx=>(h3 x hx).1⟩,h4,fun x hx=>(h3 x hx).2⟩
theorem ec_le (n:Int) (l:List Entry):ec n l≤l.length:=by
 have:=msum_bound (μ :=one n) (c:=1) (l:=l) (fun x _=>by unfold one;split<;>omega);unfold ec;omega
theorem fc_le {n:Int} {l:List Inode} (h:l.length≤10000) (he:∀x∈l,x.entries.length≤10000):fc n l≤100000000:=by
 have:=msum_bound (μ :=fun x:Inode=>ec n x.entries) (c:=10000) (l:=l) (fun x hx=>by have:=ec_le n x.entries;have:=he x hx;omega);unfold fc;omega
section
variable {f:Fs} {base p d t:Str} {s:Spotted} {k:Int}
theorem Tree.next' (h:Tree f):2≤f.next∧f.next≤1099511627776:=by
 obtain⟨r,hr,_⟩:=h.root;have h1:=(h.getk hr).2.2;have h2:=h.next;omega
theorem Ew.ez (e:Ew f):Ez f:=by
 have h1:=e.tr.next';refine⟨e.ws,e.lil,by omega,fun x hx=> ?_⟩;have h2:=e.tr.links x hx;have h3:=fc_nn x.ino f.inodes;have h4:=fc_le (n:=x.ino) e.lil.len e.lil.ents;omega
theorem Ez.len (e:Ez f):f.inodes.length≤1000000000:=by have:=e.lil.len;omega
theorem Ez.ents (e:Ez f) (k:Int):(getI k f.inodes).entries.length≤1000000000:=by
 cases hf:findI k f.inodes with
 |none=>rw[getI_none hf];simp [zeroI]
 |some x=>rw[getI_some hf];have:=e.lil.ents x (findI_some hf).1;omega
theorem Ez.new (e:Ez f) (hn:s.name.length≤255) (hd:d.length≤1073741824):create_New f s k d=some (newP f s k d)∧ref11_New f s k d=some (newP f s k d):=
 ⟨create_New_eq e.ws.wf (by omega) hd e.len e.nx.1 e.nx.2 (e.ents _),ref11_New_eq e.ws.wf (by omega) hd e.len e.nx.1 e.nx.2 (e.ents _)⟩
theorem Ez.put (e:Ez f) {r:Int} (hb:base.length≤8388608) (hp:p.length≤1073741823) (hd:d.length≤1073741824):ref11_put f base p k d r=some (putP f base p k d r):=
 ref11_put_eq e.ws hb hp hd e.len e.nx.1 e.nx.2 (fun x hx=>by have:=e.lil.ents x hx;omega) (by have:=seekP_nl f base p false;omega)
theorem inoE_set {l:List Entry} {a:Entry} {n:Str}:inoE n (setE a l)=if a.name=n then a.ino else inoE n l:=by
 unfold inoE;rw[findE_set];by_cases h:a.name=n<;>simp [h]
theorem inoE_drop {l:List Entry} {m n:Str}:inoE n (dropE m l)=if m=n then 0 else inoE n l:=by
 unfold inoE;rw[findE_drop];by_cases h:m=n<;>simp [h]
structure More (f g:Fs) (d:Inode) (nm:Str) (x:Inode):Prop where
 find:∀k,findI k g.inodes=if x.ino=k then some x else if d.ino=k then some (d.addE nm x.ino) else findI k f.inodes
 hx:findI x.ino f.inodes=none∨∃y,findI x.ino f.inodes=some y∧y.kind=x.kind∧y.parent=x.parent∧y.data=x.data∧y.entries=x.entries
 ne:x.ino≠d.ino
variable {g:Fs} {dd x:Inode} {nm:Str}
end
end Go.Eng
set_option linter.unusedVariables false
set_option maxRecDepth 100000
namespace Go.Eng
open Go
end Go.Eng
set_option linter.unusedSimpArgs false
set_option linter.unusedVariables false
set_option linter.unusedSectionVars false
namespace Go.Eng
open Go
section
variable {f:Fs} {base p d t:Str} {s:Spotted} {k:Int}
theorem gd_free {fol:Bool} (ht:Tree f) (hw:WF f) (h:Gd f fol s) (h0:s.ino=0) (hm:mayN s.name=true):Free f (getI s.dir f.inodes) s.name∧(getI s.dir f.inodes).ino=s.dir:=by
 rcases h with⟨_,_,d,hd,_⟩ |⟨_,d,hd,hk,hi,_⟩
 ·rw[h0,hw.zero] at hd;cases hd
 ·have h2:=(findI_some hd).2
  rw[getI_some hd];exact⟨⟨by rw[h2];exact hd,hk,hm,inoE_none (ht.getk hd).2.2.2.2.2 (by rw[←hi];exact h0)⟩,h2⟩
structure Made (f:Fs) (n:Nat) (s:Spotted) (k:Int) (d:Str) (g:Fs):Prop where
 tr:Tree g
 bd:Bd (n+1) g
 len:g.inodes.length=f.inodes.length+1
 free:Free f (getI s.dir f.inodes) s.name
 ino:(getI s.dir f.inodes).ino=s.dir
 more:More f g (getI s.dir f.inodes) s.name (newI f s k d)
 next:g.next=f.next+1
 max:g.maxInodes=f.maxInodes∧g.maxBytes=f.maxBytes
theorem Ez.inf (e:Ez f):InF f:=⟨by have:=e.lil.len;omega,fun x hx=>by have:=e.lil.ents x hx;omega⟩
theorem InF.same (h:InF f) (g:Fs):ref05_Same f g=some (decide (f=g)):=ref05_Same_eq h.len h.ents
end
end Go.Eng
set_option linter.unusedSimpArgs false
set_option linter.unusedVariables false
set_option linter.unusedSectionVars false
namespace Go.Eng
open Go
def unnP (f:Fs) (s:Spotted):Fs:=
 if (getI s.ino (f.set ((getI s.dir f.inodes).remE s.name)).inodes).links - 1=0 then (f.set ((getI s.dir f.inodes).remE s.name)).drop (getI s.ino (f.set ((getI s.dir f.inodes).remE s.name)).inodes).ino
 else (f.set ((getI s.dir f.inodes).remE s.name)).set ((getI s.ino (f.set ((getI s.dir f.inodes).remE s.name)).inodes).withL ((getI s.ino (f.set ((getI s.dir f.inodes).remE s.name)).inodes).links - 1))
def runnP (f:Fs) (s:Spotted):Fs:=
 if (getI s.ino f.inodes).links - 1=0 then (f.set ((getI s.dir f.inodes).remE s.name)).drop s.ino
 else (f.set ((getI s.dir f.inodes).remE s.name)).set ((getI s.ino f.inodes).withL ((getI s.ino f.inodes).links - 1))
section
variable {f g:Fs} {base p q nm:Str} {s:Spotted} {i:Int} {d x:Inode} {e:Entry}
theorem getI_set {l:List Inode} {y:Inode} {k:Int}:getI k (setI y l)=if y.ino=k then y else getI k l:=by
 unfold getI;rw[findI_set];split<;>rfl
theorem Ez.links (z:Ez f) (k:Int): -1152921504606846976≤(getI k f.inodes).links∧(getI k f.inodes).links≤1152921504606846976:=by
 cases hf:findI k f.inodes with
 |none=>rw[getI_none hf];simp [zeroI]
 |some x=>rw[getI_some hf];exact z.lk x (findI_some hf).1
theorem Ez.links' (z:Ez f) {y:Inode} (hy:y.links=(getI s.dir f.inodes).links) (k:Int): -1152921504606846976≤(getI k (f.set y).inodes).links∧(getI k (f.set y).inodes).links≤1152921504606846976:=by
 have e:getI k (f.set y).inodes=if y.ino=k then y else getI k f.inodes:=getI_set
 rw[e];split
 ·rw[hy];exact z.links _
 ·exact z.links k
theorem drop_Unname_eq (z:Ez f):drop_Unname f s=some (unnP f s):=by
 have h1:=z.ents s.dir;have h2:=z.len;have h3:= @set_len f ((getI s.dir f.inodes).remE s.name);have h4:=z.links' (s:=s) (y:=(getI s.dir f.inodes).remE s.name) rfl s.ino;have hs:=set_sort z.ws.wf.sort ((getI s.dir f.inodes).remE s.name);unfold drop_Unname unnP;rw[z.ws.wf.get,ocase_some',entry_Without_eq (getI_sortE z.ws.wf _) (by omega),ocase_some'];have e1:(⟨(getI s.dir f.inodes).ino,(getI s.dir f.inodes).kind,(getI s.dir f.inodes).links,(getI s.dir f.inodes).data,(getI s.dir f.inodes).parent,dropE s.name (getI s.dir f.inodes).entries⟩:Inode)=(getI s.dir f.inodes).remE s.name:=rfl;simp only;rw[e1,table_Set_eq z.ws.wf.sort (by omega),ocase_some',table_Get_eq hs (by omega),ocase_some'];simp only;rw[wrap_id (by omega) (by omega),beqI,table_Drop_eq hs (by omega),table_Set_eq hs (by omega),ocase_some',ocase_some'];by_cases h:(getI s.ino (f.set ((getI s.dir f.inodes).remE s.name)).inodes).links - 1=0
 ·rw[bc_t (by simp [h]),if_pos h]
 ·rw[bc_f (by simp [h]),if_neg h];rfl
theorem ref12_Unname_eq (z:Ez f):ref12_Unname f s=some (runnP f s):=by
 have h1:=z.ents s.dir;have h2:=z.len;have h3:= @set_len f ((getI s.dir f.inodes).remE s.name);have h4:=z.links s.ino;unfold ref12_Unname runnP;rw[z.ws.wf.rget,ocase_some',z.ws.wf.rget,ocase_some',ref04_Without_eq (by simp only;omega),ocase_some'];have e1:(⟨(getI s.dir f.inodes).ino,(getI s.dir f.inodes).kind,(getI s.dir f.inodes).links,(getI s.dir f.inodes).data,(getI s.dir f.inodes).parent,dropE s.name (getI s.dir f.inodes).entries⟩:Inode)=(getI s.dir f.inodes).remE s.name:=rfl;simp only;rw[e1,ref05_Set_eq (by omega),ocase_some',wrap_id (by omega) (by omega),beqI,ref05_Drop_eq (by omega),ref05_Set_eq (by omega),ocase_some',ocase_some'];by_cases h:(getI s.ino f.inodes).links - 1=0
 ·rw[bc_t (by simp [h]),if_pos h]
 ·rw[bc_f (by simp [h]),if_neg h];rfl
theorem seekP_there (w:WS f) {fol:Bool} (h:(seekP f base p fol).2=0):(seekP f base p fol).1.ino=0∨(findI (seekP f base p fol).1.ino f.inodes).isSome=true:=by
 rcases(seekP_res w base p fol).1 h with⟨_,_,d,hd,_⟩ |⟨_,d,hd,_,hi,_⟩
 ·right;rw[hd];rfl
 ·rw[hi];exact inoE_there w.wf (findI_some hd).1 _
theorem unnP_eq (h:Ent f (getI s.dir f.inodes) s.name x e) (ht:Tree f) (hi:x.ino=s.ino):unnP f s=remF f (getI s.dir f.inodes) s.name x∧runnP f s=remF f (getI s.dir f.inodes) s.name x:=by
 have hne:=h.ne ht;have hx:findI s.ino f.inodes=some x:=by rw[←hi];exact h.hx
 have h1:getI s.ino (f.set ((getI s.dir f.inodes).remE s.name)).inodes=x:=by
  show getI s.ino (setI _ f.inodes)=x;rw[getI_set,if_neg (fun e=>hne (by rw[hi];exact e.symm)),getI_some hx]
 constructor
 ·unfold unnP remF
  rw[h1];by_cases hl:x.links=1
  ·rw[if_pos (by omega),if_pos hl]
  ·rw[if_neg (by omega),if_neg hl]
 ·unfold runnP remF
  rw[getI_some hx,←hi];by_cases hl:x.links=1
  ·rw[if_pos (by omega),if_pos hl]
  ·rw[if_neg (by omega),if_neg hl]
theorem addE_remE {l:List Entry} (hs:SortE l) {a:Entry} {n:Str} (h:findE n l=some a):setE ⟨n,a.ino⟩ (dropE n l)=l:=by
 refine sort_ext_find loS (setK_sort loS (dropK_sort hs)) hs fun k=> ?_
 show findE k (setE _ (dropE n l))=findE k l;rw[findE_set,findE_drop];by_cases hk:n=k
 ·rw[if_pos hk,←hk,h]
  have:=(findE_some h).2;rw[←this]
 ·rw[if_neg hk,if_neg hk]
theorem remF_more (h:Ent f d nm x e) (ht:Tree f):More (remF f d nm x) f (d.remE nm) nm x∧Free (remF f d nm x) (d.remE nm) nm:=by
 have hne:=h.ne ht;have hs:=(ht.getk h.hd).2.2.2.2;have hd2:(d.remE nm).addE nm x.ino=d:=by
  show Inode.mk d.ino d.kind d.links d.data d.parent (setE ⟨nm,x.ino⟩ (dropE nm d.entries))=d;rw[←h.hn,addE_remE hs.1 h.he]
 refine⟨⟨fun k=> ?_, ?_,hne⟩,⟨?_,h.kind ht, ?_, ?_⟩⟩
 ·rw[hd2,remF_find hne]
  show _=if x.ino=k then some x else if d.ino=k then some d else _
  by_cases h1:x.ino=k
  ·rw[if_pos h1,←h1,h.hx]
  ·rw[if_neg h1,if_neg h1]
   by_cases h2:d.ino=k
   ·rw[if_pos h2,←h2,h.hd]
   ·rw[if_neg h2,if_neg h2]
 ·rw[remF_find hne,if_pos rfl]
  by_cases hl:x.links=1
  ·rw[if_pos hl];exact Or.inl rfl
  ·rw[if_neg hl];exact Or.inr ⟨_,rfl,rfl,rfl,rfl,rfl⟩
 ·show findI d.ino _=_
  rw[remF_find hne,if_neg hne,if_pos rfl]
 ·have h3:=((rightE_iff d.entries).1 hs.2).2 e h.mem.1
  rw[←h.mem.2];exact h3.1
 ·show findE nm (dropE nm d.entries)=none
  rw[findE_drop,if_pos rfl]
theorem drop_sort (h:SortI f.inodes) (k:Int):SortI (f.drop k).inodes:=dropK_sort h
theorem ent_of_gd {fol:Bool} (ht:Tree f) (w:WF f) (h:Gd f fol s) (hn:s.name≠ []) (hx:findI s.ino f.inodes=some x):∃e,Ent f (getI s.dir f.inodes) s.name x e∧(getI s.dir f.inodes).ino=s.dir∧x.ino=s.ino:=by
 have hi:=(findI_some hx).2;rcases h with⟨h1,_⟩ |⟨_,d,hd,hk,hino,_⟩
 ·exact absurd h1 hn
 ·have h2:=(findI_some hd).2
  rw[getI_some hd];have h0:inoE s.name d.entries≠0:=fun e=>by rw[hino,e,w.zero] at hx;cases hx
  obtain⟨e,he,_,_,he2⟩:=inoE_ne h0;exact⟨e,⟨by rw[h2];exact hd,he,by rw[he2,←hino,hi],by rw[hi];exact hx⟩,h2,hi⟩
theorem Bd.addF {n:Nat} (hb:Bd n f) (ht:Tree f) (hf:Free f d nm) (hx:findI x.ino f.inodes=some x):Bd (n+1) (addF f d nm x):=by
 have h1:Bd (n+1) (f.set (d.addE nm x.ino)):=hb.put (z:=d) ht.sort hf.hd (by omega) (by have:=setE_len ⟨nm,x.ino⟩ d.entries;have:=(hb.find hf.hd).1;show(setE ⟨nm,x.ino⟩ d.entries).length≤_;omega) (hb.find hf.hd).2;have h2:∃z,findI (x.withL (x.links+1)).ino (f.set (d.addE nm x.ino)).inodes=some z:=by
  show∃z,findI x.ino (setI _ f.inodes)=some z;rw[findI_set];split
  ·exact⟨_,rfl⟩
  ·exact⟨_,hx⟩
 obtain⟨z,hz⟩:=h2;exact h1.put (set_sort ht.sort _) hz (Nat.le_refl _) (by have:=(hb.find hx).1;show x.entries.length≤_;omega) (hb.find hx).2
theorem Bd.remF {n:Nat} (hb:Bd n f) (ht:Tree f) (h:Ent f d nm x e):Bd n (remF f d nm x):=by
 have h1:Bd n (f.set (d.remE nm)):=hb.put (z:=d) ht.sort h.hd (Nat.le_refl _) (by have:=dropE_len nm d.entries;have:=(hb.find h.hd).1;show(dropE nm d.entries).length≤_;omega) (hb.find h.hd).2;unfold Go.Eng.remF;split
 ·exact h1.drop
 ·have h2:∃z,findI (x.withL (x.links - 1)).ino (f.set (d.remE nm)).inodes=some z:=by
   show∃z,findI x.ino (setI _ f.inodes)=some z;rw[findI_set];split
   ·exact⟨_,rfl⟩
   ·exact⟨_,h.hx⟩
  obtain⟨z,hz⟩:=h2;exact h1.put (set_sort ht.sort _) hz (Nat.le_refl _) (hb.find h.hx).1 (hb.find h.hx).2
end
end Go.Eng
set_option linter.unusedVariables false
set_option maxRecDepth 100000
namespace Go.Eng
open Go
end Go.Eng
set_option linter.unusedSimpArgs false
set_option linter.unusedVariables false
set_option linter.unusedSectionVars false
namespace Go.Eng
open Go
section
variable {f g:Fs} {base p q nm:Str} {s:Spotted} {i:Int} {d x:Inode} {e:Entry}
structure Linked (f:Fs) (n:Nat) (base p q:Str) (s:Spotted) (x:Inode) (g:Fs):Prop where
 tr:Tree g
 bd:Bd (n+1) g
 sp:(seekP f base p false).2=0
 hx:findI (seekP f base p false).1.ino f.inodes=some x
 hxx:findI x.ino f.inodes=some x
 hk:x.kind≠2
 sq:seekP f base q false=(s,0)
 s0:s.ino=0
 slash:(readP q).slash=false
 free:Free f (getI s.dir f.inodes) s.name
 ino:(getI s.dir f.inodes).ino=s.dir
 ne:x.ino≠(getI s.dir f.inodes).ino
 eq:g=addF f (getI s.dir f.inodes) s.name x
 more:More f g (getI s.dir f.inodes) s.name (x.withL (x.links+1))
 len:g.inodes.length=f.inodes.length
structure Taken (f:Fs) (n:Nat) (s:Spotted) (x:Inode) (e:Entry) (g:Fs):Prop where
 tr:Tree g
 bd:Bd n g
 ent:Ent f (getI s.dir f.inodes) s.name x e
 dino:(getI s.dir f.inodes).ino=s.dir
 xino:x.ino=s.ino
 xe:x.entries= []
 eq:g=remF f (getI s.dir f.inodes) s.name x
 more:More g f ((getI s.dir f.inodes).remE s.name) s.name x
 free:Free g ((getI s.dir f.inodes).remE s.name) s.name
theorem taken {n:Nat} {fol:Bool} (ht:Tree f) (hb:Bd n f) (hn:n≤9000) (hg:Gd f fol s) (h1:s.name≠ []) (hx:findI s.ino f.inodes=some x) (hx0:x.entries= []):∃e,Taken f n s x e (unnP f s)∧runnP f s=unnP f s:=by
 have ee:=ew_of ht hb (by omega);obtain⟨e,he,hd,hi⟩:=ent_of_gd ht ee.wf hg h1 hx;obtain⟨q1,q2⟩:=unnP_eq he ht hi;obtain⟨m1,m2⟩:=remF_more he ht;refine⟨e,⟨?_, ?_,he,hd,hi,hx0,q1, ?_, ?_⟩,by rw[q1,q2]⟩
 ·rw[q1];exact remName ht he hx0
 ·rw[q1];exact hb.remF ht he
 ·rw[q1];exact m1
 ·rw[q1];exact m2
theorem Bd.inf {n:Nat} (hb:Bd n f) (hn:n≤10000):InF f:=⟨by have:=hb.len;omega,fun x hx=>by have:=hb.ents x hx;omega⟩
end
end Go.Eng
