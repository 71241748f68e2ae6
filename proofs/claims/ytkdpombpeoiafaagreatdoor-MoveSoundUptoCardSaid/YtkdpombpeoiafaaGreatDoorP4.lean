/- A part of the proofs of the laws of this seat: the engine that reads the program's code, plain functions, or facts of the program's functions. Conditions: none. -/
import Derived.Test.YtkdpombpeoiafaaGreatDoorP3
import Derived.Test.YtkdpombpeoiafaaGreatDoorP1
set_option linter.unusedSectionVars false
set_option linter.unusedVariables false
set_option linter.unusedSimpArgs false
set_option linter.unnecessarySimpa false
set_option linter.unusedSimpArgs false
set_option linter.unusedVariables false
set_option linter.unusedSectionVars false
namespace Go.Eng
open Go
def insP (l:List Inode):Nat→Int→Int→Bool
 |0,_,_=>false
 |n+1,d,o=>if d=o then true else if d=1 then false else insP l n (getI d l).parent o
def rinsP (l:List Inode):Nat→Int→Int→Bool
 |0,_,_=>false
 |n+1,d,o=>if d=o then true else rinsP l n (getI d l).parent o
section
variable {f g:Fs}
theorem Way.last {l:List Inode} {i k:Int} {n:Nat} (h:Way l i k n):(n=0∧k=i)∨∃j m x e,n=m+1∧Way l i j m∧findI j l=some x∧e∈x.entries∧e.ino=k:=by
 cases h with
 |here=>exact Or.inl ⟨rfl,rfl⟩
 |step h hf he=>exact Or.inr ⟨_,_,_,_,rfl,h,hf,he,rfl⟩
noncomputable def wayB (l:List Inode) (o d:Int):Bool:= @decide (∃m,Way l o d m) (Classical.propDecidable _)
theorem wayB_iff {l:List Inode} {o d:Int}:wayB l o d=true↔∃m,Way l o d m:=by unfold wayB;exact @decide_eq_true_iff _ (Classical.propDecidable _)
theorem wayB_f {l:List Inode} {o d:Int} (h:¬∃m,Way l o d m):wayB l o d=false:=by
 cases e:wayB l o d
 ·rfl
 ·exact absurd (wayB_iff.1 e) h
theorem ins_way (ht:Tree f) {of:Int}:∀(k:Nat) (d:Int) (x:Inode),Way f.inodes 1 d k→findI d f.inodes=some x→x.kind=2→∀n,k<n→insP f.inodes n d of=wayB f.inodes of d∧rinsP f.inodes n d of=wayB f.inodes of d
 |0,d,x,hw,hx,hk,0,hn=>by omega
 |k+1,d,x,hw,hx,hk,0,hn=>by omega
 |0,d,x,hw,hx,hk,n+1,hn=>by
  have hd:d=1:=by
   rcases hw.last with⟨_,h⟩ |⟨_,_,_,_,h,_⟩
   ·exact h
   ·omega
  subst hd;obtain⟨r,hr,hr2,hr3⟩:=ht.root;rw[hx] at hr;cases hr;have hway:(∃m,Way f.inodes of 1 m)↔(1:Int)=of:=by
   constructor
   ·rintro⟨m,hm⟩
    rcases hm.last with⟨_,h⟩ |⟨j,m',y,e,_,_,hy,he,h⟩
    ·exact h
    ·exact absurd h (ht.no_up hy he)
   ·rintro rfl;exact⟨0, .here⟩
  by_cases ho:(1:Int)=of
  ·rw[wayB_iff.2 (hway.2 ho)]
   unfold insP rinsP;rw[if_pos ho,if_pos ho];exact⟨rfl,rfl⟩
  ·rw[wayB_f (fun h=>ho (hway.1 h))]
   have hr:∀n,rinsP f.inodes n 1 of=false:=by
    intro n;induction n with
    |zero=>rfl
    |succ n ih=>unfold rinsP;rw[if_neg ho,getI_some hx,hr3];exact ih
   refine⟨?_,hr _⟩;unfold insP;rw[if_neg ho,if_pos rfl]
 |k+1,d,x,hw,hx,hk,n+1,hn=>by
  have h1:d≠1:=fun e=>by
   subst e;have:=ht.deep hw hx hk .here;omega
  rcases hw.last with⟨h,_⟩ |⟨j,m,y,e,hm,hwj,hy,he,hed⟩
  ·omega
  ·have hmk:m=k:=by omega
   subst hmk;have hp:x.parent=j:=ht.parent hx hk hy he hed;have hyk:y.kind=2:=ht.ents hy he;have hway:(∃m,Way f.inodes of d m)↔d=of∨∃m,Way f.inodes of j m:=by
    constructor
    ·rintro⟨m',hm'⟩
     rcases hm'.last with⟨_,h⟩ |⟨j',m2,y',e',_,hw',hy',he',h⟩
     ·exact Or.inl h
     ·have hxx:findI e.ino f.inodes=some x:=by rw[hed];exact hx
      obtain⟨q1,_,_⟩:=ht.up hy he hy' he' (by rw[hed,h]) hxx hk;subst q1;exact Or.inr ⟨_,hw'⟩
    ·rintro(rfl|⟨m',hm'⟩)
     ·exact⟨0, .here⟩
     ·exact⟨m'+1,hed▸Way.step hm' hy he⟩
   obtain⟨i1,i2⟩:=ins_way ht (of:=of) m j y hwj hy hyk n (by omega);unfold insP rinsP;by_cases ho:d=of
   ·rw[wayB_iff.2 (hway.2 (Or.inl ho)),if_pos ho,if_pos ho];exact⟨rfl,rfl⟩
   ·rw[if_neg ho,if_neg ho,if_neg h1,getI_some hx,hp,i1,i2]
    have:wayB f.inodes of j=wayB f.inodes of d:=by
     rw[Bool.eq_iff_iff,wayB_iff,wayB_iff,hway];exact⟨Or.inr,fun h=>h.resolve_left ho⟩
    exact⟨this,this⟩
theorem dir_way (ht:Tree f) {d:Int} {x:Inode} (hx:findI d f.inodes=some x) (hk:x.kind=2):∃k,Way f.inodes 1 d k∧k<f.inodes.length:=by
 obtain⟨k,hw⟩:=(ht.led' hx).way;exact⟨k,hw,ht.dep_lt hw hx hk⟩
theorem ins_eq (ht:Tree f) {d o:Int} {x:Inode} (hx:findI d f.inodes=some x) (hk:x.kind=2):insP f.inodes f.inodes.length d o=wayB f.inodes o d∧rinsP f.inodes (f.inodes.length+1) d o=wayB f.inodes o d:=by
 obtain⟨k,hw,hlt⟩:=dir_way ht hx hk;exact⟨(ins_way ht k d x hw hx hk _ hlt).1,(ins_way ht k d x hw hx hk _ (by omega)).2⟩
theorem way_anti (ht:Tree f) {a b:Int} {x:Inode} (ha:findI a f.inodes=some x) (hk:x.kind=2) {m n:Nat} (h1:Way f.inodes a b m) (h2:Way f.inodes b a n):a=b:=by
 obtain⟨k,hw⟩:=(ht.led' ha).way;have h3:=ht.deep hw ha hk ((hw.trans h1).trans h2);have hm:m=0:=by omega
 subst hm;rcases h1.last with⟨_,h⟩ |⟨_,_,_,_,h,_⟩
 ·exact h.symm
 ·omega
def mvB (un:Fs→Spotted→Fs) (f:Fs) (b:Spotted):Fs:=if b.ino≠0 then un f b else f
def mv3 (f:Fs) (a b:Spotted):Fs:=(f.set ((getI a.dir f.inodes).remE a.name)).set ((getI b.dir (f.set ((getI a.dir f.inodes).remE a.name)).inodes).addE b.name a.ino)
def mvE (f:Fs) (a b:Spotted):Fs:=f.set (if (getI a.ino f.inodes).kind=2 then (getI a.ino f.inodes).withP b.dir else getI a.ino f.inodes)
def rmvE (f:Fs) (a b:Spotted):Fs:=if (getI a.ino f.inodes).kind=2 then f.set ((getI a.ino f.inodes).withP b.dir) else f
def moveP (f:Fs) (a b:Spotted):Fs:=mvE (mv3 (mvB unnP f b) a b) a b
def rmoveP (f:Fs) (a b:Spotted):Fs:=rmvE (mv3 (mvB runnP f b) a b) a b
variable {d1 d2 x y:Inode} {a b:Spotted} {e e2:Entry} {nm:Str}
theorem mv_core (ht:Tree f) (hm:Mv f (getI a.dir f.inodes) a.name (getI b.dir f.inodes) b.name x e) (ha:(getI a.dir f.inodes).ino=a.dir) (hb:(getI b.dir f.inodes).ino=b.dir) (hx:x.ino=a.ino):
 mvE (mv3 f a b) a b=mvF f (getI a.dir f.inodes) a.name (getI b.dir f.inodes) b.name x∧rmvE (mv3 f a b) a b=mvF f (getI a.dir f.inodes) a.name (getI b.dir f.inodes) b.name x:=by
 have hd:getI b.dir (f.set ((getI a.dir f.inodes).remE a.name)).inodes=mvD (getI a.dir f.inodes) (getI b.dir f.inodes) a.name:=by
  show getI b.dir (setI _ f.inodes)=_;rw[getI_set];unfold mvD;show(if (getI a.dir f.inodes).ino=b.dir then _ else _)=_;rw[hb]
 have h3:mv3 f a b=(f.set ((getI a.dir f.inodes).remE a.name)).set ((mvD (getI a.dir f.inodes) (getI b.dir f.inodes) a.name).addE b.name x.ino):=by
  unfold mv3;rw[hd,hx]
 have hne:=hm.ent.ne ht;have hne2:=hm.ne2;have hxf:findI a.ino (mv3 f a b).inodes=some x:=by
  rw[h3];show findI a.ino (setI _ (setI _ f.inodes))=some x;rw[findI_set,findI_set];show(if (mvD _ _ _).ino=a.ino then _ else if (getI a.dir f.inodes).ino=a.ino then _ else _)=_;rw[mvD_ino,if_neg (fun h=>hne2 (by rw[hx];exact h.symm)),if_neg (fun h=>hne (by rw[hx];exact h.symm)),←hx];exact hm.ent.hx
 have hs:SortI (mv3 f a b).inodes:=by rw[h3];exact set_sort (set_sort ht.sort _) _
 unfold mvE rmvE mvF;rw[getI_some hxf,hb,←h3];by_cases hk:x.kind=2
 ·simp only[if_pos hk]
  exact⟨trivial,trivial⟩
 ·simp only[if_neg hk]
  exact⟨set_same hs (by rw[hx];exact hxf),trivial⟩
theorem Way.mono {l m:List Inode} (h:∀k x,findI k m=some x→∀e∈x.entries,∃y,findI k l=some y∧e∈y.entries) {i k:Int} {n:Nat} (hw:Way m i k n):Way l i k n:=by
 induction hw with
 |here=>exact .here
 |step hw hf he ih=>
  obtain⟨y,hy,he'⟩:=h _ _ hf _ he;exact .step ih hy he'
theorem remF_sub (h:Ent f d1 nm x e) (ht:Tree f):∀k z,findI k (remF f d1 nm x).inodes=some z→∀e'∈z.entries,∃y,findI k f.inodes=some y∧e'∈y.entries:=by
 intro k z hz e' he';rw[remF_find (h.ne ht)] at hz;by_cases h1:x.ino=k
 ·rw[if_pos h1] at hz
  by_cases hl:x.links=1
  ·rw[if_pos hl] at hz;cases hz
  ·rw[if_neg hl] at hz;cases hz
   exact⟨x,by rw[←h1];exact h.hx,he'⟩
 ·rw[if_neg h1] at hz
  by_cases h2:d1.ino=k
  ·rw[if_pos h2] at hz;cases hz
   exact⟨d1,by rw[←h2];exact h.hd,(mem_dropE.1 he').1⟩
  ·rw[if_neg h2] at hz
   exact⟨z,hz,he'⟩
end
end Go.Eng
namespace Go.Eng
open Go
section
variable {f g:Fs} {d1 d2 x y:Inode} {a b s t:Spotted} {e e2:Entry}
structure MvOK (f:Fs) (a b:Spotted) (x:Inode):Prop where
 ga:Gd f false a
 an:a.name≠ []
 hx:findI a.ino f.inodes=some x
 gb:Gd f false b
 bn:b.name≠ []
 ne:a.ino≠b.ino
 out:x.kind=2→¬∃n,Way f.inodes a.ino b.dir n
 emp:∀y,findI b.ino f.inodes=some y→y.entries= []
 may:b.ino=0→mayN b.name=true
structure MvPre (f:Fs) (a b:Spotted) (x:Inode) (n:Nat) (f1:Fs) (e:Entry):Prop where
 tr:Tree f1
 bd:Bd n f1
 mv:Mv f1 (getI a.dir f1.inodes) a.name (getI b.dir f1.inodes) b.name x e
 ha:(getI a.dir f1.inodes).ino=a.dir
 hb:(getI b.dir f1.inodes).ino=b.dir
 hx:x.ino=a.ino
 sub:∀k z,findI k f1.inodes=some z→∀e∈z.entries,∃y,findI k f.inodes=some y∧e∈y.entries
 find:∀k z,findI k f.inodes=some z→k≠b.ino→∃z',findI k f1.inodes=some z'∧z'.kind=z.kind∧∀n,(k=b.dir∧n=b.name)∨inoE n z'.entries=inoE n z.entries
 ent:∀k,k≠b.dir→k≠b.ino→(findI k f1.inodes).map Inode.entries=(findI k f.inodes).map Inode.entries
 len:f1.inodes.length≤f.inodes.length∧f.inodes.length≤f1.inodes.length+1
 gone:findI b.ino f1.inodes=none∨(findI b.ino f1.inodes).map Inode.entries=some []
 gone2:findI b.ino f1.inodes=none→b.ino=0∨fc b.ino f.inodes≤1
theorem gd_dir {fol:Bool} (h:Gd f fol s) (hn:s.name≠ []):∃d,findI s.dir f.inodes=some d∧d.kind=2∧s.ino=inoE s.name d.entries∧getI s.dir f.inodes=d∧d.ino=s.dir:=by
 rcases h with⟨h,_⟩ |⟨_,d,h1,h2,h3,_⟩
 ·exact absurd h hn
 ·exact⟨d,h1,h2,h3,getI_some h1,(findI_some h1).2⟩
theorem mv_pre {n:Nat} (ht:Tree f) (hb:Bd n f) (hn:n≤9000) (h:MvOK f a b x):∃e,MvPre f a b x n (mvB unnP f b) e∧mvB runnP f b=mvB unnP f b:=by
 have ew:=ew_of ht hb (by omega);obtain⟨d1,a1,a2,a3,a4,a5⟩:=gd_dir h.ga h.an;obtain⟨d2,b1,b2,b3,b4,b5⟩:=gd_dir h.gb h.bn;obtain⟨e,he,_,hxi⟩:=ent_of_gd ht ew.wf h.ga h.an h.hx;rw[a4] at he;have hx0:x.kind≠2→x.entries= [] :=fun hk=>ht.no_ents h.hx hk
 have hnw:∀l,(∀z,findI a.ino l=some z→z=x)→x.kind≠2→¬∃n,Way l a.ino b.dir n:=by
  intro l hl hk ⟨m,hm⟩;rcases hm.head with⟨_,h1⟩ |⟨_,z,e',_,hz,he',_⟩
  ·rw[h1,h.hx] at b1;cases b1;exact hk b2
  ·rw[hl z hz,hx0 hk] at he';cases he'
 unfold mvB;by_cases h0:b.ino=0
 ·rw[if_neg (fun h=>h h0),if_neg (fun h=>h h0)]
  obtain⟨hf,hfb⟩:=gd_free ht ew.wf h.gb h0 (h.may h0);refine⟨e,⟨ht,hb,⟨by rw[a4];exact he,hf, ?_⟩,by rw[a4,a5],hfb,hxi,fun k z hz e he=>⟨z,hz,he⟩,fun k z hz _=>⟨z,hz,rfl,fun _=>Or.inr rfl⟩,fun k _ _=>rfl,⟨Nat.le_refl _,by omega⟩,Or.inl (by rw[h0];exact ew.wf.zero),fun _=>Or.inl h0⟩,rfl⟩;rw[hxi,b4,b5];by_cases hk:x.kind=2
  ·exact h.out hk
  ·exact hnw f.inodes (fun z hz=>by rw[h.hx] at hz;exact(Option.some.inj hz).symm) hk
 ·rw[if_pos h0,if_pos h0]
  have hy:∃y,findI b.ino f.inodes=some y:=by
   have h1:=inoE_there ew.wf (findI_some b1).1 b.name;rw[←b3] at h1;exact Option.isSome_iff_exists.1 (h1.resolve_left h0)
  obtain⟨y,hy⟩:=hy;have hy0:=h.emp y hy;obtain⟨e2,t,t2⟩:=taken ht hb hn h.gb h.bn hy hy0;refine⟨e, ?_,t2⟩;have teq:=t.eq;rw[b4] at teq;have te:=t.ent;rw[b4] at te;have hyi:=t.xino;have hyne:=te.ne ht;have hfind:=fun k=>remF_find (f:=f) (d:=d2) (nm:=b.name) (x:=y) hyne k
  rw[←teq] at hfind;have hnm:¬(a.dir=b.dir∧a.name=b.name):=fun⟨e1,e3⟩=>by
   rw[e1,b1] at a1;cases a1;exact h.ne (by rw[a3,b3,e3])
  have hya:y.ino≠a.dir:=fun e1=>by
   have h1:=hy;rw[←hyi,e1,a1] at h1;cases h1;have:=he.mem.1;rw[hy0] at this;cases this
  have hxy:y.ino≠a.ino:=fun e1=>h.ne (by rw[←e1,hyi])
  have hxd:d2.ino≠a.ino:=fun e1=>by
   have h1:=b1;rw[←b5,e1,h.hx] at h1;cases h1;exact h.out b2 ⟨0,by rw[←b5,e1];exact .here⟩
  have hg1:findI a.dir (unnP f b).inodes=some (if d2.ino=a.dir then d2.remE b.name else d1):=by
   rw[hfind,if_neg hya];by_cases h1:d2.ino=a.dir
   ·rw[if_pos h1,if_pos h1]
   ·rw[if_neg h1,if_neg h1];exact a1
  have hg2:findI b.dir (unnP f b).inodes=some (d2.remE b.name):=by
   rw[hfind,if_neg (by rw[←b5];exact hyne),if_pos b5]
  have hgx:findI a.ino (unnP f b).inodes=some x:=by
   rw[hfind,if_neg hxy,if_neg hxd];exact h.hx
  have hent:Ent (unnP f b) (getI a.dir (unnP f b).inodes) a.name x e:=by
   rw[getI_some hg1];by_cases h1:d2.ino=a.dir
   ·rw[if_pos h1] at hg1⊢
    have h2:d1=d2:=by
     have h3:=a1;rw[←h1,b5,b1] at h3;exact(Option.some.inj h3).symm
    subst h2;refine⟨?_, ?_,he.hn,by rw[hxi];exact hgx⟩
    ·show findI d1.ino _=_
     rw[h1];exact hg1
    ·show findE a.name (dropE b.name d1.entries)=_
     rw[findE_drop,if_neg (fun e3=>hnm ⟨by rw[←h1,b5],e3.symm⟩)];exact he.he
   ·rw[if_neg h1] at hg1⊢
    exact⟨by rw[a5];exact hg1,he.he,he.hn,by rw[hxi];exact hgx⟩
  have hfree:Free (unnP f b) (getI b.dir (unnP f b).inodes) b.name:=by
   rw[getI_some hg2];have:=t.free;rw[b4] at this;exact this
  have hsub:∀k z,findI k (unnP f b).inodes=some z→∀e∈z.entries,∃y,findI k f.inodes=some y∧e∈y.entries:=by
   rw[teq];exact remF_sub te ht
  have hb2:(getI b.dir (unnP f b).inodes).ino=b.dir:=by rw[getI_some hg2];exact b5
  have hsum:=remF_sum ht te hy0;rw[←teq] at hsum;refine⟨t.tr,t.bd,⟨hent,hfree, ?_⟩, ?_,hb2,hxi,hsub,fun k z hz hk=> ?_,fun k h1 h2=> ?_, ?_, ?_,fun h1=> ?_⟩
  ·rw[hxi,hb2]
   by_cases hk:x.kind=2
   ·exact fun⟨m,hm⟩=>h.out hk ⟨m,Way.mono hsub hm⟩
   ·exact hnw _ (fun z hz=>by rw[hgx] at hz;exact(Option.some.inj hz).symm) hk
  ·rw[getI_some hg1]
   by_cases h1:d2.ino=a.dir
   ·rw[if_pos h1];exact h1
   ·rw[if_neg h1];exact a5
  ·rw[hfind,if_neg (by rw[hyi];exact fun e=>hk e.symm)]
   by_cases h1:d2.ino=k
   ·rw[if_pos h1]
    have h2:=hz;rw[←h1,b5,b1] at h2;cases h2;refine⟨_,rfl,rfl,fun n=> ?_⟩;by_cases hn':b.name=n
    ·exact Or.inl ⟨by rw[←h1,b5],hn'.symm⟩
    ·right
     show inoE n (dropE b.name d2.entries)=_;rw[inoE_drop,if_neg hn']
   ·rw[if_neg h1]
    exact⟨z,hz,rfl,fun _=>Or.inr rfl⟩
  ·rw[hfind,if_neg (by rw[hyi];exact fun e=>h2 e.symm),if_neg (by rw[b5];exact fun e=>h1 e.symm)]
  ·have:=hsum.1
   split at this<;>omega
  ·rw[hfind,if_pos hyi]
   by_cases hl:y.links=1
   ·rw[if_pos hl];exact Or.inl rfl
   ·rw[if_neg hl];right
    show some y.entries=_;rw[hy0]
  ·right
   rw[hfind,if_pos hyi] at h1;by_cases hl:y.links=1
   ·have:=(ht.getk hy).2.1
    omega
   ·rw[if_neg hl] at h1;cases h1
theorem Bd.mvF {n:Nat} {n1 n2:Str} (hb:Bd n f) (ht:Tree f) (h:Mv f d1 n1 d2 n2 x e):Bd (n+1) (mvF f d1 n1 d2 n2 x):=by
 have hs:=(mvF_sum h ht).1;have hd1:=hb.find h.ent.hd;have hd2:=hb.find h.free.hd;have hx:=hb.find h.ent.hx;have hl:=hb.len;have hsort:=mvF_sort (d1:=d1) (d2:=d2) (n1:=n1) (n2:=n2) (x:=x) ht;have c1:=dropE_len n1 d1.entries;have key:∀z∈(Go.Eng.mvF f d1 n1 d2 n2 x).inodes,z.entries.length≤n+1∧z.data.length≤10000000:=by
  intro z hz;have hz':=findI_mem hsort hz;rw[mvF_find h ht] at hz';by_cases h1:x.ino=z.ino
  ·rw[if_pos h1] at hz'
   have hz2:=Option.some.inj hz';rw[←hz2];by_cases hk:x.kind=2
   ·rw[if_pos hk]
    exact⟨by show x.entries.length≤_;omega,hx.2⟩
   ·rw[if_neg hk];exact⟨by omega,hx.2⟩
  ·rw[if_neg h1] at hz'
   by_cases h2:d2.ino=z.ino
   ·rw[if_pos h2] at hz'
    have hz2:=Option.some.inj hz';rw[←hz2];have c2:=setE_len ⟨n2,x.ino⟩ (mvD d1 d2 n1).entries;show(setE ⟨n2,x.ino⟩ (mvD d1 d2 n1).entries).length≤_∧(mvD d1 d2 n1).data.length≤_;unfold mvD at c2⊢;by_cases h3:d1.ino=d2.ino
    ·rw[if_pos h3] at c2⊢
     have c3:(d1.remE n1).entries.length≤d1.entries.length:=c1;exact⟨by omega,hd1.2⟩
    ·rw[if_neg h3] at c2⊢
     exact⟨by omega,hd2.2⟩
   ·rw[if_neg h2] at hz'
    by_cases h3:d1.ino=z.ino
    ·rw[if_pos h3] at hz'
     have hz2:=Option.some.inj hz';rw[←hz2];exact⟨by show(dropE n1 d1.entries).length≤_;omega,hd1.2⟩
    ·rw[if_neg h3] at hz'
     have:=hb.find hz';exact⟨by omega,this.2⟩
 exact⟨by omega,fun z hz=>(key z hz).1,fun z hz=>(key z hz).2⟩
structure Moved (f:Fs) (a b:Spotted) (x:Inode) (n:Nat) (f1:Fs) (e:Entry) (g:Fs):Prop where
 pre:MvPre f a b x n f1 e
 tr:Tree g
 bd:Bd (n+1) g
 eq:g=mvF f1 (getI a.dir f1.inodes) a.name (getI b.dir f1.inodes) b.name x
theorem move_made {n:Nat} (ht:Tree f) (hb:Bd n f) (hn:n≤9000) (h:MvOK f a b x):∃e,Moved f a b x n (mvB unnP f b) e (moveP f a b)∧rmoveP f a b=moveP f a b:=by
 obtain⟨e,p,p2⟩:=mv_pre ht hb hn h;obtain⟨q1,q2⟩:=mv_core p.tr p.mv p.ha p.hb p.hx;have h1:moveP f a b=mvF (mvB unnP f b) (getI a.dir (mvB unnP f b).inodes) a.name (getI b.dir (mvB unnP f b).inodes) b.name x:=q1;have h2:rmoveP f a b=moveP f a b:=by
  unfold rmoveP;rw[p2,q2,←q1];rfl
 refine⟨e,⟨p, ?_, ?_,h1⟩,h2⟩
 ·rw[h1];exact moveT p.tr p.mv
 ·rw[h1];exact p.bd.mvF p.tr p.mv
end
end Go.Eng
set_option linter.unusedSimpArgs false
set_option linter.unusedVariables false
set_option linter.unusedSectionVars false
namespace Go.Eng
open Go
section
variable {f g f1:Fs} {d1 d2 x y:Inode} {a b s t:Spotted} {e:Entry} {n:Nat}
theorem goAt_way {f:Fs} (w:WF f):∀{ns:List Str} {s t:Spotted},goAt f.inodes ns s=(t,0)→t.ino≠0→Way f.inodes s.ino t.ino ns.length∧s.ino≠0
 | [],s,t,h,h0=>by
  simp only[goAt,Prod.mk.injEq] at h;obtain⟨rfl,_⟩:=h;exact⟨.here,h0⟩
 |m::ns,s,t,h,h0=>by
  cases hf:findI s.ino f.inodes with
  |none=>rw[goAt_none hf] at h;simp at h
  |some d=>
   by_cases hk:d.kind=2
   ·rw[goAt_dir hf hk] at h
    obtain⟨h1,h2⟩:=goAt_way w h h0;obtain⟨e,he,_,he2,_⟩:=inoE_find h2;refine⟨?_,fun e=>by rw[e,w.zero] at hf;cases hf⟩;have h3:Way f.inodes e.ino t.ino ns.length:=by rw[he2];exact h1
    exact Way.first hf he h3
   ·rw[goAt_file hf hk] at h;simp at h
theorem goAt_keep {f:Fs} {l:List Inode} (w:WF f) {D X B:Int} (P:Int→Str→Prop)
 (hg:∀k z,findI k f.inodes=some z→z.kind=2→k≠B→∃z',findI k l=some z'∧z'.kind=2∧z'.ino=z.ino∧∀m,¬P k m→inoE m z'.entries=inoE m z.entries)
 (hp:∀k z m,findI k f.inodes=some z→P k m→inoE m z.entries=X∨inoE m z.entries=B)
 (hX:¬∃n,Way f.inodes X D n) (hB:D≠B) (hBe:∀z,findI B f.inodes=some z→z.entries= []) (hD:D≠0):
 ∀{ns:List Str} {s t:Spotted},goAt f.inodes ns s=(t,0)→t.ino=D→(ns≠ [] →s.ino≠B)→goAt l ns s=(t,0)
 | [],s,t,h,ht,_=>by
  simp only[goAt,Prod.mk.injEq] at h⊢;exact h
 |m::ns,s,t,h,ht,hs=>by
  have hs:=hs (by simp);cases hf:findI s.ino f.inodes with
  |none=>rw[goAt_none hf] at h;simp at h
  |some d=>
   by_cases hk:d.kind=2
   ·rw[goAt_dir hf hk] at h
    obtain⟨z',hz,hzk,hzi,hze⟩:=hg _ d hf hk hs;have hw:=goAt_way w h (by rw[ht];exact hD);rw[ht] at hw;have hnb:inoE m d.entries≠B:=fun e=>by
     have hw1:Way f.inodes (inoE m d.entries) D ns.length:=hw.1;rw[e] at hw1;rcases hw1.head with⟨_,h1⟩ |⟨_,z,e',_,hz,he',_⟩
     ·exact hB h1
     ·rw[hBe z hz] at he';cases he'
    have hnp:¬P s.ino m:=fun hpp=>by
     rcases hp _ d m hf hpp with h1|h1
     ·have hw1:Way f.inodes (inoE m d.entries) D ns.length:=hw.1
      rw[h1] at hw1;exact hX ⟨_,hw1⟩
     ·exact hnb h1
    rw[goAt_dir hz hzk,hzi,hze m hnp];exact goAt_keep w P hg hp hX hB hBe hD h ht (fun _=>hnb)
   ·rw[goAt_file hf hk] at h;simp at h
theorem Moved.find (m:Moved f a b x n f1 e g) (k:Int):findI k g.inodes=if x.ino=k then some (if x.kind=2 then x.withP b.dir else x) else if b.dir=k then some ((mvD (getI a.dir f1.inodes) (getI b.dir f1.inodes) a.name).addE b.name x.ino) else if a.dir=k then some ((getI a.dir f1.inodes).remE a.name) else findI k f1.inodes:=by
 rw[m.eq,mvF_find m.pre.mv m.pre.tr,m.pre.ha,m.pre.hb]
theorem Moved.xne (m:Moved f a b x n f1 e g):x.ino≠b.dir∧x.ino≠a.dir:=by
 refine⟨?_, ?_⟩
 ·have:=m.pre.mv.ne2;rwa[m.pre.hb] at this
 ·have:=m.pre.mv.ent.ne m.pre.tr;rwa[m.pre.ha] at this
structure Places (f:Fs) (a b:Spotted) (x d1 d2:Inode):Prop where
 a1:findI a.dir f.inodes=some d1
 a2:d1.kind=2
 a3:a.ino=inoE a.name d1.entries
 b1:findI b.dir f.inodes=some d2
 b2:d2.kind=2
 b3:b.ino=inoE b.name d2.entries
 xi:x.ino=a.ino
 diff:¬(a.dir=b.dir∧a.name=b.name)
 ab:a.dir≠b.ino
 bb:b.dir≠b.ino
 xb:¬∃n,Way f.inodes a.ino b.dir n
 xa:¬∃n,Way f.inodes a.ino a.dir n
theorem places (ht:Tree f) (w:WF f) (h:MvOK f a b x):∃d1 d2,Places f a b x d1 d2:=by
 obtain⟨d1,a1,a2,a3,a4,a5⟩:=gd_dir h.ga h.an;obtain⟨d2,b1,b2,b3,b4,b5⟩:=gd_dir h.gb h.bn;obtain⟨e,he,_,hxi⟩:=ent_of_gd ht w h.ga h.an h.hx;rw[a4] at he;have hab:a.dir≠b.ino:=fun e1=>by
  have:=h.emp d1 (by rw[←e1];exact a1);have h2:=he.mem.1;rw[this] at h2;cases h2
 have hbb:b.dir≠b.ino:=fun e1=>by
  have h0:b.ino≠0:=fun e=>by rw[e1,e,w.zero] at b1;cases b1
  obtain⟨e',he',_,_,hn'⟩:=inoE_ne (by rw[←b3];exact h0);have:=h.emp d2 (by rw[←e1];exact b1);have h2:=(findE_some he').1;rw[this] at h2;cases h2
 refine⟨d1,d2,a1,a2,a3,b1,b2,b3,hxi,fun⟨e1,e2⟩=> ?_,hab,hbb, ?_, ?_⟩
 ·rw[e1,b1] at a1;cases a1
  exact h.ne (by rw[a3,b3,e2])
 ·by_cases hk:x.kind=2
  ·exact h.out hk
  ·intro⟨m,hm⟩
   rcases hm.head with⟨_,h1⟩ |⟨_,z,e',_,hz,he',_⟩
   ·rw[h1,h.hx] at b1;cases b1;exact hk b2
   ·rw[h.hx] at hz;cases hz
    rw[ht.no_ents h.hx hk] at he';cases he'
 ·obtain⟨k,hk⟩:=(ht.led' a1).way
  intro⟨m,hm⟩;refine ht.no_loop hk a1 he.mem.1 (n:=m) ?_;rw[he.hn,hxi];exact hm
theorem Moved.keep (w:WF f) (m:Moved f a b x n f1 e g) (p:Places f a b x d1 d2) (h:MvOK f a b x) {D:Int} (hD0:D≠0) (hD:¬∃n,Way f.inodes a.ino D n) (hB:D≠b.ino) {ns:List Str} (hr:(findI 1 f.inodes).isSome=true) (hgo:goAt f.inodes ns rootS=(t,0)) (ht:t.ino=D) (hb1:b.ino≠1):goAt g.inodes ns rootS=(t,0):=by
 refine goAt_keep (D:=D) (X:=a.ino) (B:=b.ino) w (fun k n=>(k=a.dir∧n=a.name)∨(k=b.dir∧n=b.name)) (fun k z hz hk hkb=> ?_) (fun k z q hz hp=> ?_) hD hB h.emp hD0 hgo ht (fun _=>fun e=>hb1 e.symm)
 ·obtain⟨z',hz',hzk,hze⟩:=m.pre.find k z hz hkb
  have hzi:z'.ino=z.ino:=by rw[(findI_some hz').2,(findI_some hz).2]
  rw[m.find];by_cases c1:x.ino=k
  ·rw[if_pos c1]
   have hzx:z=x:=by
    rw[←c1,p.xi,h.hx] at hz;exact(Option.some.inj hz).symm
   subst hzx;refine⟨_,rfl, ?_, ?_,fun q _=> ?_⟩<;>(rw[if_pos hk];first|exact hk|rfl)
  ·rw[if_neg c1]
   by_cases c2:b.dir=k
   ·rw[if_pos c2]
    have hzd:getI b.dir f1.inodes=z':=getI_some (by rw[c2];exact hz');refine⟨_,rfl, ?_, ?_,fun q hq=> ?_⟩
    ·show(mvD _ _ _).kind=2
     unfold mvD;split
     ·rename_i hd
      rw[m.pre.ha,m.pre.hb] at hd;show(getI a.dir f1.inodes).kind=2;rw[hd,hzd,hzk];exact hk
     ·rw[hzd,hzk];exact hk
    ·show(mvD _ _ _).ino=z.ino
     rw[mvD_ino,m.pre.hb,c2,(findI_some hz).2]
    ·show inoE q (setE ⟨b.name,x.ino⟩ (mvD _ _ _).entries)=_
     rw[inoE_set];have hq1:¬b.name=q:=fun e=>hq (Or.inr ⟨c2.symm,e.symm⟩)
     rw[if_neg hq1];have hzq:inoE q z'.entries=inoE q z.entries:=(hze q).resolve_left (fun e=>hq1 e.2.symm);unfold mvD;split
     ·rename_i hd
      rw[m.pre.ha,m.pre.hb] at hd;show inoE q (dropE a.name (getI a.dir f1.inodes).entries)=_;rw[inoE_drop,if_neg (fun e=>hq (Or.inl ⟨by rw[←c2,hd],e.symm⟩)),hd,hzd,hzq]
     ·rw[hzd,hzq]
   ·rw[if_neg c2]
    by_cases c3:a.dir=k
    ·rw[if_pos c3]
     have hzd:getI a.dir f1.inodes=z':=getI_some (by rw[c3];exact hz');refine⟨_,rfl, ?_, ?_,fun q hq=> ?_⟩
     ·show(getI a.dir f1.inodes).kind=2
      rw[hzd,hzk];exact hk
     ·show(getI a.dir f1.inodes).ino=_
      rw[hzd,hzi]
     ·show inoE q (dropE a.name (getI a.dir f1.inodes).entries)=_
      rw[inoE_drop,if_neg (fun e=>hq (Or.inl ⟨c3.symm,e.symm⟩)),hzd];exact(hze q).resolve_left (fun e=>c2 e.1.symm)
    ·rw[if_neg c3]
     exact⟨z',hz',by rw[hzk];exact hk,hzi,fun q hq=>(hze q).resolve_left (fun e=>c2 e.1.symm)⟩
 ·rcases hp with⟨rfl,rfl⟩ |⟨rfl,rfl⟩
  ·rw[p.a1] at hz;cases hz;exact Or.inl p.a3.symm
  ·rw[p.b1] at hz;cases hz;exact Or.inr p.b3.symm
theorem Moved.below (ht:Tree f) (w:WF f) (m:Moved f a b x n f1 e g) (p:Places f a b x d1 d2) (h:MvOK f a b x) (q:Str):belowP f.inodes (f.inodes.length+1) a.ino q=belowP g.inodes (g.inodes.length+1) a.ino q:=by
 have hlen:g.inodes.length=f1.inodes.length:=by rw[m.eq];exact(mvF_sum m.pre.mv m.pre.tr).1
 obtain⟨k,hk⟩:=(ht.led' h.hx).way;have hk1:1≤k:=by
  rcases hk.last with⟨_,h1⟩ |⟨_,_,_,_,h1,_⟩
  ·exfalso
   obtain⟨e0,he0,_,_,hn0⟩:=inoE_ne (l:=d1.entries) (n:=a.name) (by rw[←p.a3,h1];decide);exact ht.no_up p.a1 (findE_some he0).1 (by rw[hn0,←p.a3,h1])
  ·omega
 have hl:=m.pre.len;have e1:belowP f.inodes (f.inodes.length+1) a.ino q=belowP f.inodes (g.inodes.length+1) a.ino q:=
  below_stab_le ht hk (by omega) (by omega)
 rw[e1];refine below_congr _ _ _ fun j n' hj=> ?_
 have hja:j≠a.dir:=fun e=>p.xa ⟨n',by rw[←e];exact hj⟩
 have hjb:j≠b.dir:=fun e=>p.xb ⟨n',by rw[←e];exact hj⟩
 rw[m.find];by_cases c1:x.ino=j
 ·rw[if_pos c1,←c1,p.xi,h.hx]
  split<;>rfl
 ·rw[if_neg c1,if_neg (fun e=>hjb e.symm),if_neg (fun e=>hja e.symm)]
  by_cases c2:j=b.ino
  ·subst c2
   have hjf:∃z,findI b.ino f.inodes=some z:=Reach.there ht.there (by obtain⟨r,hr,_⟩:=ht.root;exact⟨r,hr⟩) (hj.reach (ht.led' h.hx));obtain⟨z,hz⟩:=hjf;rcases m.pre.gone with h1|h1
   ·exfalso
    rcases m.pre.gone2 h1 with h2|h2
    ·rw[h2,w.zero] at hz;cases hz
    ·rcases hj.last with⟨_,h3⟩ |⟨j',m',z',e',_,hw',hz',he',hn'⟩
     ·exact h.ne h3.symm
     ·obtain⟨e0,he0,_,_,hn0⟩:=inoE_ne (l:=d2.entries) (n:=b.name) (by rw[←p.b3];intro e;rw[e,w.zero] at hz;cases hz)
      obtain⟨q1,q2⟩:=fc_uniq h2 (findI_some hz').1 he' hn' (findI_some p.b1).1 (findE_some he0).1 (by rw[hn0,←p.b3]);have:j'=b.dir:=by rw[←(findI_some hz').2,q1,(findI_some p.b1).2]
      exact p.xb ⟨m',by rw[←this];exact hw'⟩
   ·rw[h1,hz]
    show some [] =some z.entries;rw[h.emp z hz]
  ·exact m.pre.ent j hjb c2
theorem Moved.at (ht:Tree f) (w:WF f) (m:Moved f a b x n f1 e g) (p:Places f a b x d1 d2) (h:MvOK f a b x) {ns:List Str} (hq:goAt f.inodes ns rootS=(b,0)) (hns:ns≠ []):goAt g.inodes ns rootS=(⟨b.dir,b.name,a.ino⟩,0):=by
 have hb1:b.ino≠1:=fun e=>by
  obtain⟨e0,he0,_,_,hn0⟩:=inoE_ne (l:=d2.entries) (n:=b.name) (by rw[←p.b3,e];decide);exact ht.no_up p.b1 (findE_some he0).1 (by rw[hn0,←p.b3,e])
 have hd0:b.dir≠0:=fun e=>by have:=p.b1;rw[e,w.zero] at this;cases this
 obtain⟨r,hr,_⟩:=ht.root;have hspl:ns=ns.dropLast++[ns.getLast hns]:=(List.dropLast_concat_getLast hns).symm;rw[hspl] at hq⊢;rw[goAt_app] at hq⊢;by_cases h0:(goAt f.inodes ns.dropLast rootS).2=0
 ·rw[if_pos h0] at hq
  have hpre:goAt f.inodes ns.dropLast rootS=((goAt f.inodes ns.dropLast rootS).1,0):=by rw[←h0]
  generalize (goAt f.inodes ns.dropLast rootS).1=s at*;cases hf:findI s.ino f.inodes with
  |none=>rw[goAt_none hf] at hq;simp at hq
  |some d=>
   by_cases hk:d.kind=2
   ·rw[goAt_dir hf hk] at hq
    simp only[goAt,Prod.mk.injEq] at hq;have hbe:=hq.1;have hs:s.ino=b.dir:=by rw[←hbe];exact(findI_some hf).2.symm
    have hgo:=m.keep w p h (D:=b.dir) hd0 p.xb p.bb (by rw[hr];rfl) hpre hs hb1;rw[hgo,if_pos rfl];have hgd:findI s.ino g.inodes=some ((mvD (getI a.dir f1.inodes) (getI b.dir f1.inodes) a.name).addE b.name x.ino):=by
     rw[m.find,if_neg (by rw[hs];exact m.xne.1),if_pos hs.symm]
    have hkk:((mvD (getI a.dir f1.inodes) (getI b.dir f1.inodes) a.name).addE b.name x.ino).kind=2:=m.pre.mv.dk m.pre.tr;rw[goAt_dir hgd hkk];have hnm:ns.getLast hns=b.name:=by rw[←hbe]
    simp only[goAt,Prod.mk.injEq,and_true];have hi:((mvD (getI a.dir f1.inodes) (getI b.dir f1.inodes) a.name).addE b.name x.ino).ino=b.dir:=by
     show(mvD _ _ _).ino=_;rw[mvD_ino];exact m.pre.hb
    have he:inoE (ns.getLast hns) ((mvD (getI a.dir f1.inodes) (getI b.dir f1.inodes) a.name).addE b.name x.ino).entries=a.ino:=by
     show inoE _ (setE ⟨b.name,x.ino⟩ _)=_;rw[inoE_set,if_pos hnm.symm];exact p.xi
    rw[hi,he,hnm]
   ·rw[goAt_file hf hk] at hq;simp at hq
 ·rw[if_neg h0] at hq
  simp only[Prod.mk.injEq] at hq;exact absurd hq.2 h0
theorem Moved.gone (ht:Tree f) (w:WF f) (m:Moved f a b x n f1 e g) (p:Places f a b x d1 d2) (h:MvOK f a b x) {ns:List Str} (hq:goAt f.inodes ns rootS=(a,0)) (hns:ns≠ []):goAt g.inodes ns rootS=(⟨a.dir,a.name,0⟩,0):=by
 have hb1:b.ino≠1:=fun e=>by
  obtain⟨e0,he0,_,_,hn0⟩:=inoE_ne (l:=d2.entries) (n:=b.name) (by rw[←p.b3,e];decide);exact ht.no_up p.b1 (findE_some he0).1 (by rw[hn0,←p.b3,e])
 have hd0:a.dir≠0:=fun e=>by have:=p.a1;rw[e,w.zero] at this;cases this
 obtain⟨r,hr,_⟩:=ht.root;have hspl:ns=ns.dropLast++[ns.getLast hns]:=(List.dropLast_concat_getLast hns).symm;rw[hspl] at hq⊢;rw[goAt_app] at hq⊢;by_cases h0:(goAt f.inodes ns.dropLast rootS).2=0
 ·rw[if_pos h0] at hq
  have hpre:goAt f.inodes ns.dropLast rootS=((goAt f.inodes ns.dropLast rootS).1,0):=by rw[←h0]
  generalize (goAt f.inodes ns.dropLast rootS).1=s at*;cases hf:findI s.ino f.inodes with
  |none=>rw[goAt_none hf] at hq;simp at hq
  |some d=>
   by_cases hk:d.kind=2
   ·rw[goAt_dir hf hk] at hq
    simp only[goAt,Prod.mk.injEq] at hq;have hbe:=hq.1;have hs:s.ino=a.dir:=by rw[←hbe];exact(findI_some hf).2.symm
    have hgo:=m.keep w p h (D:=a.dir) hd0 p.xa p.ab (by rw[hr];rfl) hpre hs hb1;rw[hgo,if_pos rfl];have hnm:ns.getLast hns=a.name:=by rw[←hbe]
    by_cases hab:b.dir=a.dir
    ·have hgd:findI s.ino g.inodes=some ((mvD (getI a.dir f1.inodes) (getI b.dir f1.inodes) a.name).addE b.name x.ino):=by
      rw[m.find,if_neg (by rw[hs];exact m.xne.2),if_pos (by rw[hs];exact hab)]
     have hkk:((mvD (getI a.dir f1.inodes) (getI b.dir f1.inodes) a.name).addE b.name x.ino).kind=2:=m.pre.mv.dk m.pre.tr;rw[goAt_dir hgd hkk];simp only[goAt,Prod.mk.injEq,and_true];have hi:((mvD (getI a.dir f1.inodes) (getI b.dir f1.inodes) a.name).addE b.name x.ino).ino=a.dir:=by
      show(mvD _ _ _).ino=_;rw[mvD_ino,m.pre.hb,hab]
     have he:inoE (ns.getLast hns) ((mvD (getI a.dir f1.inodes) (getI b.dir f1.inodes) a.name).addE b.name x.ino).entries=0:=by
      show inoE _ (setE ⟨b.name,x.ino⟩ (mvD _ _ _).entries)=_;rw[inoE_set,if_neg (by rw[hnm];exact fun e=>p.diff ⟨hab.symm,e.symm⟩)];unfold mvD;rw[if_pos (by rw[m.pre.ha,m.pre.hb,hab])];show inoE _ (dropE a.name _)=0;rw[inoE_drop,if_pos hnm.symm]
     rw[hi,he,hnm]
    ·have hgd:findI s.ino g.inodes=some ((getI a.dir f1.inodes).remE a.name):=by
      rw[m.find,if_neg (by rw[hs];exact m.xne.2),if_neg (by rw[hs];exact hab),if_pos hs.symm]
     have hkk:((getI a.dir f1.inodes).remE a.name).kind=2:=m.pre.mv.ent.kind m.pre.tr;rw[goAt_dir hgd hkk];simp only[goAt,Prod.mk.injEq,and_true];have hi:((getI a.dir f1.inodes).remE a.name).ino=a.dir:=m.pre.ha;have he:inoE (ns.getLast hns) ((getI a.dir f1.inodes).remE a.name).entries=0:=by
      show inoE _ (dropE a.name _)=0;rw[inoE_drop,if_pos hnm.symm]
     rw[hi,he,hnm]
   ·rw[goAt_file hf hk] at hq;simp at hq
 ·rw[if_neg h0] at hq
  simp only[Prod.mk.injEq] at hq;exact absurd hq.2 h0
end
end Go.Eng
set_option linter.unusedSimpArgs false
set_option linter.unusedVariables false
set_option linter.unusedSectionVars false
namespace Go.Eng
open Go
def insQ (f:Fs) (d o:Int):Bool:=insP f.inodes f.inodes.length d o
def rinsQ (f:Fs) (d o:Int):Bool:=rinsP f.inodes (f.inodes.length+1) d o
def renB (ins:Fs→Int→Int→Bool) (mv:Fs→Spotted→Spotted→Fs) (f:Fs) (slash:Bool) (a b:Spotted):Fs×Int:=
 if b.name= [] then (f,10) else if a.ino=b.ino then (f,0) else
 if (getI a.ino f.inodes).kind=2∧ins f b.dir a.ino=true then (f,9) else
 if b.ino=0 then (if (getI a.ino f.inodes).kind≠2∧slash=true then (f,3) else if mayN b.name=true then (mv f a b,0) else (f,9)) else
 if (getI a.ino f.inodes).kind=2∧(getI b.ino f.inodes).kind≠2 then (f,3) else
 if (getI a.ino f.inodes).kind≠2∧(getI b.ino f.inodes).kind=2 then (f,4) else
 if 0<(getI b.ino f.inodes).entries.length then (f,5) else (mv f a b,0)
def renameG (ins:Fs→Int→Int→Bool) (mv:Fs→Spotted→Spotted→Fs) (f:Fs) (base p q:Str):Fs×Int:=
 if (seekP f base p false).2=0 then (if (seekP f base p false).1.ino=0 then (f,1) else if (seekP f base p false).1.name= [] then (f,10) else
  if (seekP f base q false).2=0 then renB ins mv f (readP q).slash (seekP f base p false).1 (seekP f base q false).1 else (f,(seekP f base q false).2)) else (f,(seekP f base p false).2)
section
variable {f g:Fs} {base p q:Str} {a b:Spotted} {x:Inode} {sl:Bool} {ins:Fs→Int→Int→Bool} {mv:Fs→Spotted→Spotted→Fs}
theorem renB_cases (ins:Fs→Int→Int→Bool) (mv:Fs→Spotted→Spotted→Fs) (f:Fs) (sl:Bool) (a b:Spotted):
 (∃e:Int,e≠0∧∀m:Fs→Spotted→Spotted→Fs,renB ins m f sl a b=(f,e))∨(b.name≠ [] ∧a.ino=b.ino∧∀m:Fs→Spotted→Spotted→Fs,renB ins m f sl a b=(f,0))∨
 (b.name≠ [] ∧a.ino≠b.ino∧((getI a.ino f.inodes).kind=2→ins f b.dir a.ino=false)∧(b.ino=0→mayN b.name=true)∧(b.ino≠0→(getI b.ino f.inodes).entries= [])∧∀m:Fs→Spotted→Spotted→Fs,renB ins m f sl a b=(m f a b,0)):=by
 unfold renB;by_cases h1:b.name= []
 ·exact Or.inl ⟨10,by decide,fun m=>by rw[if_pos h1]⟩
 by_cases h2:a.ino=b.ino
 ·exact Or.inr (Or.inl ⟨h1,h2,fun m=>by rw[if_neg h1,if_pos h2]⟩)
 by_cases h3:(getI a.ino f.inodes).kind=2∧ins f b.dir a.ino=true
 ·exact Or.inl ⟨9,by decide,fun m=>by rw[if_neg h1,if_neg h2,if_pos h3]⟩
 have h3':(getI a.ino f.inodes).kind=2→ins f b.dir a.ino=false:=fun hk=>by
  cases hi:ins f b.dir a.ino
  ·rfl
  ·exact absurd ⟨hk,hi⟩ h3
 by_cases h4:b.ino=0
 ·by_cases h5:(getI a.ino f.inodes).kind≠2∧sl=true
  ·exact Or.inl ⟨3,by decide,fun m=>by rw[if_neg h1,if_neg h2,if_neg h3,if_pos h4,if_pos h5]⟩
  by_cases h6:mayN b.name=true
  ·exact Or.inr (Or.inr ⟨h1,h2,h3',fun _=>h6,fun h=>absurd h4 h,fun m=>by rw[if_neg h1,if_neg h2,if_neg h3,if_pos h4,if_neg h5,if_pos h6]⟩)
  ·exact Or.inl ⟨9,by decide,fun m=>by rw[if_neg h1,if_neg h2,if_neg h3,if_pos h4,if_neg h5,if_neg h6]⟩
 by_cases h5:(getI a.ino f.inodes).kind=2∧(getI b.ino f.inodes).kind≠2
 ·exact Or.inl ⟨3,by decide,fun m=>by rw[if_neg h1,if_neg h2,if_neg h3,if_neg h4,if_pos h5]⟩
 by_cases h6:(getI a.ino f.inodes).kind≠2∧(getI b.ino f.inodes).kind=2
 ·exact Or.inl ⟨4,by decide,fun m=>by rw[if_neg h1,if_neg h2,if_neg h3,if_neg h4,if_neg h5,if_pos h6]⟩
 by_cases h7:0<(getI b.ino f.inodes).entries.length
 ·exact Or.inl ⟨5,by decide,fun m=>by rw[if_neg h1,if_neg h2,if_neg h3,if_neg h4,if_neg h5,if_neg h6,if_pos h7]⟩
 ·exact Or.inr (Or.inr ⟨h1,h2,h3',fun h=>absurd h h4,fun _=>List.length_eq_zero_iff.1 (by omega),fun m=>by rw[if_neg h1,if_neg h2,if_neg h3,if_neg h4,if_neg h5,if_neg h6,if_neg h7]⟩)
theorem renameG_cases (ins:Fs→Int→Int→Bool) (mv:Fs→Spotted→Spotted→Fs) (f:Fs) (base p q:Str):
 (∃e:Int,e≠0∧∀m:Fs→Spotted→Spotted→Fs,renameG ins m f base p q=(f,e))∨
 ∃a b,seekP f base p false=(a,0)∧seekP f base q false=(b,0)∧a.ino≠0∧a.name≠ [] ∧b.name≠ [] ∧
  ((a.ino=b.ino∧∀m:Fs→Spotted→Spotted→Fs,renameG ins m f base p q=(f,0))∨
   (a.ino≠b.ino∧((getI a.ino f.inodes).kind=2→ins f b.dir a.ino=false)∧(b.ino=0→mayN b.name=true)∧(b.ino≠0→(getI b.ino f.inodes).entries= [])∧∀m:Fs→Spotted→Spotted→Fs,renameG ins m f base p q=(m f a b,0))):=by
 unfold renameG;by_cases h1:(seekP f base p false).2=0
 ·have e1:seekP f base p false=((seekP f base p false).1,0):=by rw[←h1]
  generalize (seekP f base p false).1=a at*;by_cases h2:a.ino=0
  ·exact Or.inl ⟨1,by decide,fun m=>by rw[if_pos h1,if_pos h2]⟩
  by_cases h3:a.name= []
  ·exact Or.inl ⟨10,by decide,fun m=>by rw[if_pos h1,if_neg h2,if_pos h3]⟩
  by_cases h4:(seekP f base q false).2=0
  ·have e2:seekP f base q false=((seekP f base q false).1,0):=by rw[←h4]
   generalize (seekP f base q false).1=b at*;rcases renB_cases ins mv f (readP q).slash a b with⟨e,he,h5⟩ |⟨b1,b2,h5⟩ |⟨b1,b2,b3,b4,b6,h5⟩
   ·exact Or.inl ⟨e,he,fun m=>by rw[if_pos h1,if_neg h2,if_neg h3,if_pos h4];exact h5 m⟩
   ·exact Or.inr ⟨a,b,e1,e2,h2,h3,b1,Or.inl ⟨b2,fun m=>by rw[if_pos h1,if_neg h2,if_neg h3,if_pos h4];exact h5 m⟩⟩
   ·exact Or.inr ⟨a,b,e1,e2,h2,h3,b1,Or.inr ⟨b2,b3,b4,b6,fun m=>by rw[if_pos h1,if_neg h2,if_neg h3,if_pos h4];exact h5 m⟩⟩
  ·exact Or.inl ⟨(seekP f base q false).2,h4,fun m=>by rw[if_pos h1,if_neg h2,if_neg h3,if_neg h4]⟩
 ·exact Or.inl ⟨(seekP f base p false).2,h1,fun m=>by rw[if_neg h1]⟩
theorem gd_found (w:WF f) {s:Spotted} {fol:Bool} (h:Gd f fol s) (h0:s.ino≠0):∃x,findI s.ino f.inodes=some x:=by
 rcases h with⟨_,_,d,hd,_⟩ |⟨_,d,hd,_,hi,_⟩
 ·exact⟨d,hd⟩
 ·have:=inoE_there w (findI_some hd).1 s.name
  rw[←hi] at this;exact Option.isSome_iff_exists.1 (this.resolve_left h0)
theorem mvok (ht:Tree f) (w:WS f) (h1:seekP f base p false=(a,0)) (h2:seekP f base q false=(b,0)) (h3:a.ino≠0) (h4:a.name≠ []) (h5:b.name≠ []) (h6:a.ino≠b.ino) (h7:(getI a.ino f.inodes).kind=2→insQ f b.dir a.ino=false) (h8:b.ino=0→mayN b.name=true) (h9:b.ino≠0→(getI b.ino f.inodes).entries= []):∃x,MvOK f a b x:=by
 have ga:=(seekP_res w base p false).1 (by rw[h1]);have gb:=(seekP_res w base q false).1 (by rw[h2]);rw[h1] at ga;rw[h2] at gb;obtain⟨x,hx⟩:=gd_found w.wf ga h3;refine⟨x,ga,h4,hx,gb,h5,h6,fun hk ⟨m,hm⟩=> ?_,fun y hy=> ?_,h8⟩
 ·obtain⟨d2,b1,b2,_⟩:=gd_dir gb h5
  have:=h7 (by rw[getI_some hx];exact hk);unfold insQ at this;rw[(ins_eq ht b1 b2).1,wayB_iff.2 ⟨m,hm⟩] at this;cases this
 ·have hb0:b.ino≠0:=fun e=>by rw[e,w.wf.zero] at hy;cases hy
  have:=h9 hb0;rwa[getI_some hy] at this
theorem ren_ins (ht:Tree f) (w:WS f) (m:Fs→Spotted→Spotted→Fs):renameG rinsQ m f base p q=renameG insQ m f base p q:=by
 unfold renameG;by_cases h1:(seekP f base p false).2=0
 ·rw[if_pos h1,if_pos h1]
  by_cases h4:(seekP f base q false).2=0
  ·rw[if_pos h4,if_pos h4]
   have gb:=(seekP_res w base q false).1 h4;unfold renB;by_cases h5:(seekP f base q false).1.name= []
   ·rw[if_pos h5,if_pos h5]
   ·obtain⟨d2,b1,b2,_⟩:=gd_dir gb h5
    unfold insQ rinsQ;rw[(ins_eq ht b1 b2).1,(ins_eq ht b1 b2).2]
  ·rw[if_neg h4,if_neg h4]
 ·rw[if_neg h1,if_neg h1]
structure Renamed (f:Fs) (n:Nat) (base p q:Str) (a b:Spotted) (x:Inode) (e:Entry) (g:Fs):Prop where
 sp:seekP f base p false=(a,0)
 sq:seekP f base q false=(b,0)
 ok:MvOK f a b x
 mv:Moved f a b x n (mvB unnP f b) e g
theorem rename_made {n:Nat} (ht:Tree f) (hb:Bd n f) (hn:n≤9000):
 (∃e:Int,e≠0∧renameG insQ moveP f base p q=(f,e)∧renameG rinsQ rmoveP f base p q=(f,e))∨
 (renameG insQ moveP f base p q=(f,0)∧renameG rinsQ rmoveP f base p q=(f,0)∧∃a b,seekP f base p false=(a,0)∧seekP f base q false=(b,0)∧a.ino=b.ino)∨
 ∃g a b x e,renameG insQ moveP f base p q=(g,0)∧renameG rinsQ rmoveP f base p q=(g,0)∧Renamed f n base p q a b x e g:=by
 have ew:=ew_of ht hb (by omega);rw[ren_ins ht ew.ws rmoveP];rcases renameG_cases insQ moveP f base p q with⟨e,he,h⟩ |⟨a,b,h1,h2,h3,h4,h5,⟨h6,h⟩ |⟨h6,h7,h8,h9,h⟩⟩
 ·exact Or.inl ⟨e,he,h _,h _⟩
 ·exact Or.inr (Or.inl ⟨h _,h _,a,b,h1,h2,h6⟩)
 ·obtain⟨x,hx⟩:=mvok ht ew.ws h1 h2 h3 h4 h5 h6 h7 h8 h9
  obtain⟨e,m,m2⟩:=move_made ht hb hn hx;exact Or.inr (Or.inr ⟨moveP f a b,a,b,x,e,h _,by rw[h,m2],h1,h2,hx,m⟩)
theorem rename_bd {n:Nat} (ht:Tree f) (hb:Bd n f) (hn:n≤9000):Tree (renameG insQ moveP f base p q).1∧Bd (n+1) (renameG insQ moveP f base p q).1∧renameG rinsQ rmoveP f base p q=renameG insQ moveP f base p q∧((renameG insQ moveP f base p q).2≠0→(renameG insQ moveP f base p q).1=f):=by
 rcases rename_made (base:=base) (p:=p) (q:=q) ht hb hn with⟨e,he,h1,h2⟩ |⟨h1,h2,_⟩ |⟨g,a,b,x,e,h1,h2,r⟩
 ·rw[h1,h2];exact⟨ht,hb.mono (by omega),rfl,fun _=>rfl⟩
 ·rw[h1,h2];exact⟨ht,hb.mono (by omega),rfl,fun _=>rfl⟩
 ·rw[h1,h2];exact⟨r.mv.tr,r.mv.bd,rfl,fun h=>absurd rfl h⟩
end
end Go.Eng
set_option linter.unusedSimpArgs false
set_option linter.unusedVariables false
set_option linter.unusedSectionVars false
namespace Go.Eng
open Go
structure Sr (n:Nat) (f:Fs):Prop where
 sort:SortI f.inodes
 es:∀x∈f.inodes,SortE x.entries
 len:f.inodes.length≤n
 en:∀x∈f.inodes,x.entries.length≤n
section
variable {f g:Fs} {base p q:Str} {a b s:Spotted} {x y:Inode} {n:Nat} {i:Int}
theorem Ez.sr (z:Ez f):Sr 10000 f:=⟨z.ws.wf.sort,fun x hx=>z.ws.wf.sortE hx,z.lil.len,z.lil.ents⟩
theorem Sr.get (h:Sr n f) (k:Int):SortE (getI k f.inodes).entries∧(getI k f.inodes).entries.length≤n:=by
 cases hf:findI k f.inodes with
 |none=>rw[getI_none hf];exact⟨List.Pairwise.nil,by simp [zeroI]⟩
 |some x=>rw[getI_some hf];exact⟨h.es x (findI_some hf).1,h.en x (findI_some hf).1⟩
theorem Sr.set (h:Sr n f) (hs:SortE y.entries) (hl:y.entries.length≤n+1):Sr (n+1) (f.set y):=by
 refine⟨set_sort h.sort y,fun x hx=> ?_,by have:= @set_len f y;have:=h.len;omega,fun x hx=> ?_⟩
 ·rcases mem_setI.1 hx with rfl|⟨hx,_⟩
  ·exact hs
  ·exact h.es x hx
 ·rcases mem_setI.1 hx with rfl|⟨hx,_⟩
  ·exact hl
  ·have:=h.en x hx;omega
theorem Sr.drop (h:Sr n f) (k:Int):Sr n (f.drop k):=by
 refine⟨drop_sort h.sort k,fun x hx=>h.es x (dropK_mem.1 hx).1, ?_,fun x hx=>h.en x (dropK_mem.1 hx).1⟩;have h1:(dropI k f.inodes).length≤f.inodes.length:=dropK_length_le;have:=h.len;show(dropI k f.inodes).length≤n;omega
theorem Sr.mono (h:Sr n f) {m:Nat} (hm:n≤m):Sr m f:=⟨h.sort,h.es,by have:=h.len;omega,fun x hx=>by have:=h.en x hx;omega⟩
theorem Sr.rem (h:Sr n f) (k:Int) (m:Str):Sr (n+1) (f.set ((getI k f.inodes).remE m)):=by
 have:=h.get k;exact h.set (dropK_sort this.1) (by have:=dropE_len m (getI k f.inodes).entries;show(dropE m (getI k f.inodes).entries).length≤_;omega)
theorem Sr.add (h:Sr n f) (k:Int) (m:Str) (i:Int):Sr (n+1) (f.set ((getI k f.inodes).addE m i)):=by
 have:=h.get k;exact h.set (setK_sort loS this.1) (by have:=setE_len ⟨m,i⟩ (getI k f.inodes).entries;show(setE ⟨m,i⟩ (getI k f.inodes).entries).length≤_;omega)
theorem Sr.unn (h:Sr n f) (s:Spotted):Sr (n+2) (unnP f s):=by
 have h1:=h.rem s.dir s.name;have h2:=h1.get s.ino;unfold unnP;split
 ·exact(h1.drop _).mono (by omega)
 ·exact h1.set h2.1 (by show(getI s.ino _).entries.length≤_;omega)
theorem Sr.mvB (h:Sr n f) (b:Spotted):Sr (n+2) (mvB unnP f b):=by
 unfold Go.Eng.mvB;split
 ·exact h.unn b
 ·exact h.mono (by omega)
theorem runn_len (h:Sr n f) (s:Spotted):(runnP f s).inodes.length≤n+2∧∀x∈(runnP f s).inodes,x.entries.length≤n+2:=by
 have h1:=h.rem s.dir s.name;have h2:=h.get s.ino;unfold runnP;split
 ·have:=(h1.drop s.ino).mono (show n+1≤n+2 by omega)
  exact⟨this.len,this.en⟩
 ·have:=h1.set (y:=(getI s.ino f.inodes).withL ((getI s.ino f.inodes).links - 1)) h2.1 (by show(getI s.ino _).entries.length≤_;omega)
  exact⟨this.len,this.en⟩
theorem getI_en {N:Nat} (h:∀x∈f.inodes,x.entries.length≤N) (k:Int):(getI k f.inodes).entries.length≤N:=by
 cases hf:findI k f.inodes with
 |none=>rw[getI_none hf];simp [zeroI]
 |some x=>rw[getI_some hf];exact h x (findI_some hf).1
theorem mv_tail (h:Sr n f) (hn:n≤20000):
 (ocase (table_Get f a.dir) fun y2=>ocase (entry_Without y2.1.entries a.name) fun y3=>ocase (table_Set f (⟨y2.1.ino,y2.1.kind,y2.1.links,y2.1.data,y2.1.parent,y3⟩:Inode)) fun y4=>ocase (table_Get y4 b.dir) fun y5=>ocase (entry_With y5.1.entries b.name a.ino) fun y6=>ocase (table_Set y4 (⟨y5.1.ino,y5.1.kind,y5.1.links,y5.1.data,y5.1.parent,y6⟩:Inode)) fun y7=>ocase (table_Get y7 a.ino) fun y8=>
  bcase (y8.1.kind==(2:Int)) (ocase (table_Set y7 (⟨y8.1.ino,y8.1.kind,y8.1.links,y8.1.data,b.dir,y8.1.entries⟩:Inode)) fun y9=>some y9) (ocase (table_Set y7 y8.1) fun y10=>some y10))=some (mvE (mv3 f a b) a b):=by
 have g1:=h.get a.dir;have h1:=h.rem a.dir a.name;have g2:=h1.get b.dir;have h2:=h1.add b.dir b.name a.ino;have l0:=h.len;have l1:=h1.len;have l2:=h2.len;rw[table_Get_eq h.sort (by omega),ocase_some',entry_Without_eq g1.1 (by first|omega|(simp only;omega)),ocase_some'];have e1:(⟨(getI a.dir f.inodes).ino,(getI a.dir f.inodes).kind,(getI a.dir f.inodes).links,(getI a.dir f.inodes).data,(getI a.dir f.inodes).parent,dropE a.name (getI a.dir f.inodes).entries⟩:Inode)=(getI a.dir f.inodes).remE a.name:=rfl;simp only;rw[e1,table_Set_eq h.sort (by omega),ocase_some',table_Get_eq h1.sort (by omega),ocase_some',entry_With_eq g2.1 (by first|omega|(simp only;omega)),ocase_some'];have e2:∀d:Inode,(⟨d.ino,d.kind,d.links,d.data,d.parent,setE ⟨b.name,a.ino⟩ d.entries⟩:Inode)=d.addE b.name a.ino:=fun _=>rfl
 simp only;rw[e2,table_Set_eq h1.sort (by omega),ocase_some',table_Get_eq h2.sort (by omega),ocase_some'];unfold mvE mv3;simp only;rw[table_Set_eq h2.sort (by omega),table_Set_eq h2.sort (by omega),beqI];by_cases hk:(getI a.ino ((f.set ((getI a.dir f.inodes).remE a.name)).set ((getI b.dir (f.set ((getI a.dir f.inodes).remE a.name)).inodes).addE b.name a.ino)).inodes).kind=2
 ·rw[bc_t (by simp [hk]),if_pos hk];rfl
 ·rw[bc_f (by simp [hk]),if_neg hk];rfl
theorem rmv_tail (hl:f.inodes.length≤20000) (he:∀x∈f.inodes,x.entries.length≤20000):
 (ocase (ref05_Get f a.dir) fun y2=>ocase (ref04_Without y2.1.entries a.name) fun y3=>ocase (ref05_Set f (⟨y2.1.ino,y2.1.kind,y2.1.links,y2.1.data,y2.1.parent,y3⟩:Inode)) fun y4=>ocase (ref05_Get y4 b.dir) fun y5=>ocase (ref04_With y5.1.entries b.name a.ino) fun y6=>ocase (ref05_Set y4 (⟨y5.1.ino,y5.1.kind,y5.1.links,y5.1.data,y5.1.parent,y6⟩:Inode)) fun y7=>ocase (ref05_Get y7 a.ino) fun y8=>
  bcase (y8.1.kind==(2:Int)) (ocase (ref05_Set y7 (⟨y8.1.ino,y8.1.kind,y8.1.links,y8.1.data,b.dir,y8.1.entries⟩:Inode)) fun y9=>some y9) (some y7))=some (rmvE (mv3 f a b) a b):=by
 have g1:=getI_en he a.dir;have d1:=dropE_len a.name (getI a.dir f.inodes).entries;have l1:= @set_len f ((getI a.dir f.inodes).remE a.name);have he1:=set_ents (f:=f) (x:=(getI a.dir f.inodes).remE a.name) he (by show(dropE a.name (getI a.dir f.inodes).entries).length≤_;omega);have g2:=getI_en he1 b.dir;have l2:= @set_len (f.set ((getI a.dir f.inodes).remE a.name)) ((getI b.dir (f.set ((getI a.dir f.inodes).remE a.name)).inodes).addE b.name a.ino);rw[ref05_Get_eq (by omega),ocase_some',ref04_Without_eq (by first|omega|(simp only;omega)),ocase_some'];have e1:(⟨(getI a.dir f.inodes).ino,(getI a.dir f.inodes).kind,(getI a.dir f.inodes).links,(getI a.dir f.inodes).data,(getI a.dir f.inodes).parent,dropE a.name (getI a.dir f.inodes).entries⟩:Inode)=(getI a.dir f.inodes).remE a.name:=rfl;simp only;rw[e1,ref05_Set_eq (by omega),ocase_some',ref05_Get_eq (by omega),ocase_some',ref04_With_eq (by first|omega|(simp only;omega)),ocase_some'];have e2:∀d:Inode,(⟨d.ino,d.kind,d.links,d.data,d.parent,setE ⟨b.name,a.ino⟩ d.entries⟩:Inode)=d.addE b.name a.ino:=fun _=>rfl
 simp only;rw[e2,ref05_Set_eq (by omega),ocase_some',ref05_Get_eq (by omega),ocase_some'];unfold rmvE mv3;simp only;rw[ref05_Set_eq (by omega),beqI];by_cases hk:(getI a.ino ((f.set ((getI a.dir f.inodes).remE a.name)).set ((getI b.dir (f.set ((getI a.dir f.inodes).remE a.name)).inodes).addE b.name a.ino)).inodes).kind=2
 ·rw[bc_t (by simp [hk]),if_pos hk];rfl
 ·rw[bc_f (by simp [hk]),if_neg hk]
theorem move_Move_eq (z:Ez f):move_Move f a b=some (moveP f a b):=by
 unfold move_Move moveP;rw[bneI];by_cases h0:b.ino=0
 ·rw[bc_f (by simp [h0]),mv_tail z.sr (by omega)]
  unfold mvB;rw[if_neg (fun h=>h h0)]
 ·have h1:=z.sr.unn b
  rw[bc_t (by simp [h0]),drop_Unname_eq z,ocase_some',mv_tail h1 (by omega)];unfold mvB;rw[if_pos h0]
theorem ref14_Move_eq (z:Ez f):ref14_Move f a b=some (rmoveP f a b):=by
 unfold ref14_Move rmoveP;rw[bneI];by_cases h0:b.ino=0
 ·rw[bc_f (by simp [h0]),rmv_tail (by have:=z.lil.len;omega) (fun x hx=>by have:=z.lil.ents x hx;omega)]
  unfold mvB;rw[if_neg (fun h=>h h0)]
 ·have h1:=runn_len z.sr b
  rw[bc_t (by simp [h0]),ref12_Unname_eq z,ocase_some',rmv_tail (by omega) (fun x hx=>by have:=h1.2 x hx;omega)];unfold mvB;rw[if_pos h0]
theorem inside_loop (z:Ez f) {o:Int}:∀(m n:Nat) (d:Int) (i:Nat),i+m=f.inodes.length→m<n→move_Inside_L3 o false (List.length f.inodes:Int) f (fun z9=>some z9) n d (i:Int)=some (insP f.inodes m d o)
 |0,0,d,i,_,h=>by omega
 |m+1,0,d,i,_,h=>by omega
 |0,n+1,d,i,hi,h=>by
  have hi':f.inodes.length≤i:=by omega
  simp only[move_Inside_L3];rw[dec_ge hi'];rfl
 |m+1,n+1,d,i,hi,h=>by
  have hl:=z.lil.len;have hi':i<f.inodes.length:=by omega
  simp only[move_Inside_L3];rw[dec_lt hi',bcase_true,z.ws.wf.get,ocase_some',beqI,beqI,wrap_succ (by omega),insP];simp only;rw[inside_loop z m n _ (i+1) (by omega) (by omega)];by_cases h1:d=o
  ·rw[bc_t (by simp [h1]),if_pos h1]
  ·rw[bc_f (by simp [h1]),if_neg h1]
   by_cases h2:d=1
   ·rw[bc_t (by simp [h2]),if_pos h2]
   ·rw[bc_f (by simp [h2]),if_neg h2]
theorem move_Inside_eq (z:Ez f) {d o:Int}:move_Inside f d o=some (insQ f d o):=by
 unfold move_Inside insQ;have hl:=z.lil.len;exact inside_loop z f.inodes.length FUEL d 0 (by omega) (fuel_ok (by omega))
theorem rinside_loop (z:Ez f) {o:Int}:∀(m n:Nat) (d:Int) (i:Nat),i+m=f.inodes.length+1→m<n→ref14_Inside_L2 o f (some true) (some false) n d (i:Int)=some (rinsP f.inodes m d o)
 |0,0,d,i,_,h=>by omega
 |m+1,0,d,i,_,h=>by omega
 |0,n+1,d,i,hi,h=>by
  simp only[ref14_Inside_L2];rw[bc_f (decide_eq_false (by omega))];rfl
 |m+1,n+1,d,i,hi,h=>by
  have hl:=z.lil.len;simp only[ref14_Inside_L2];rw[bc_t (decide_eq_true (by omega)),beqI,z.ws.wf.rget,ocase_some',wrap_succ (by omega),rinsP];simp only;rw[rinside_loop z m n _ (i+1) (by omega) (by omega)];by_cases h1:d=o
  ·rw[bc_t (by simp [h1]),if_pos h1]
  ·rw[bc_f (by simp [h1]),if_neg h1]
theorem ref14_Inside_eq (z:Ez f) {d o:Int}:ref14_Inside f d o=some (rinsQ f d o):=by
 unfold ref14_Inside rinsQ;have hl:=z.lil.len;exact rinside_loop z (f.inodes.length+1) FUEL d 0 (by omega) (fuel_ok (by omega))
end
end Go.Eng
set_option linter.unusedSimpArgs false
set_option linter.unusedVariables false
set_option linter.unusedSectionVars false
namespace Go.Eng
open Go
section
variable {f g:Fs} {base p q:Str} {a b s:Spotted} {x y:Inode} {n:Nat} {i:Int} {e:Entry}
theorem move_over_eq (x y:Inode):move_over x y=some (if x.kind=2∧y.kind≠2 then 3 else if x.kind≠2∧y.kind=2 then 4 else if 0<y.entries.length then 5 else 0):=by
 unfold move_over;rw[beqI,beqI,bneI,bneI];by_cases h1:x.kind=2
 ·by_cases h2:y.kind=2
  ·by_cases h3:0<y.entries.length
   ·have h4:decide ((List.length y.entries:Int)>0)=true:=decide_eq_true (by omega)
    simp [h1,h2,h3,h4,bcase]
   ·have h4:decide ((List.length y.entries:Int)>0)=false:=decide_eq_false (by omega)
    simp [h1,h2,h3,h4,bcase]
  ·simp [h1,h2,bcase]
 ·by_cases h2:y.kind=2
  ·simp [h1,h2,bcase]
  ·by_cases h3:0<y.entries.length
   ·have h4:decide ((List.length y.entries:Int)>0)=true:=decide_eq_true (by omega)
    simp [h1,h2,h3,h4,bcase]
   ·have h4:decide ((List.length y.entries:Int)>0)=false:=decide_eq_false (by omega)
    simp [h1,h2,h3,h4,bcase]
theorem move_fresh_eq {nm:Str} (hn:nm.length≤1099511627775) (hq:q.length≤1073741823):move_fresh x nm q=some (if x.kind≠2∧(readP q).slash=true then 3 else if mayN nm=true then 0 else 9):=by
 unfold move_fresh;rw[bneI,path_Read_eq hq,path_May_eq hn];simp only[ocase_some'];by_cases h1:x.kind=2
 ·cases h2:mayN nm<;>simp [h1,bcase]
 ·cases h3:(readP q).slash
  ·cases h2:mayN nm<;>simp [h1,bcase]
  ·simp [h1,bcase]
theorem move_Rename_eq (z:Ez f) (hb:base.length≤8388608) (hp:p.length≤1073741823) (hq:q.length≤1073741823):move_Rename f base p q=some (renameG insQ moveP f base p q):=by
 unfold move_Rename renameG renB;rw[seek_Seek_eq z.ws hb hp,ocase_some',z.ws.wf.get,ocase_some',seek_Seek_eq z.ws hb hq,ocase_some',z.ws.wf.get,ocase_some',move_Inside_eq z,move_over_eq,move_fresh_eq (by have:=seekP_nl f base q false;omega) hq,move_Move_eq z];simp only[ocase_some',beqI,bneI,beqS];by_cases h1:(seekP f base p false).2=0
 ·rw[bc_f (by simp [h1]),if_pos h1]
  have hA:=seekP_there z.ws h1;generalize (seekP f base p false).1=a at*;by_cases h2:a.ino=0
  ·rw[if_pos h2,h2,z.ws.wf.zero];rfl
  have hA:=hA.resolve_left h2;rw[hA,if_neg h2,Bool.not_true,bcase_false];by_cases h3:a.name= []
  ·rw[bc_t (by simp [h3]),if_pos h3]
  rw[bc_f (by simp [h3]),if_neg h3];by_cases h4:(seekP f base q false).2=0
  ·rw[bc_f (by simp [h4]),if_pos h4]
   have hB:=seekP_there z.ws h4;generalize (seekP f base q false).1=b at*;by_cases h5:b.name= []
   ·rw[bc_t (by simp [h5]),if_pos h5]
   rw[bc_f (by simp [h5]),if_neg h5];by_cases h6:a.ino=b.ino
   ·rw[bc_t (by simp [h6]),if_pos h6]
   rw[bc_f (by simp [h6]),if_neg h6];have tail:(bcase (findI b.ino f.inodes).isSome (bcase (!decide ((if (getI a.ino f.inodes).kind=2∧(getI b.ino f.inodes).kind≠2 then (3:Int) else if (getI a.ino f.inodes).kind≠2∧(getI b.ino f.inodes).kind=2 then 4 else if 0<(getI b.ino f.inodes).entries.length then 5 else 0)=0)) (some (f,(if (getI a.ino f.inodes).kind=2∧(getI b.ino f.inodes).kind≠2 then (3:Int) else if (getI a.ino f.inodes).kind≠2∧(getI b.ino f.inodes).kind=2 then 4 else if 0<(getI b.ino f.inodes).entries.length then 5 else 0))) (some (moveP f a b,0)))
    (bcase (!decide ((if (getI a.ino f.inodes).kind≠2∧(readP q).slash=true then (3:Int) else if mayN b.name=true then 0 else 9)=0)) (some (f,(if (getI a.ino f.inodes).kind≠2∧(readP q).slash=true then (3:Int) else if mayN b.name=true then 0 else 9))) (some (moveP f a b,0))))=
    some (if b.ino=0 then (if (getI a.ino f.inodes).kind≠2∧(readP q).slash=true then (f,3) else if mayN b.name=true then (moveP f a b,0) else (f,9)) else
     if (getI a.ino f.inodes).kind=2∧(getI b.ino f.inodes).kind≠2 then (f,3) else if (getI a.ino f.inodes).kind≠2∧(getI b.ino f.inodes).kind=2 then (f,4) else if 0<(getI b.ino f.inodes).entries.length then (f,5) else (moveP f a b,0)):=by
    by_cases h7:b.ino=0
    ·have h8:(findI b.ino f.inodes).isSome=false:=by rw[h7,z.ws.wf.zero];rfl
     rw[h8,if_pos h7,bcase_false];by_cases h9:(getI a.ino f.inodes).kind≠2∧(readP q).slash=true
     ·rw[if_pos h9,if_pos h9];rfl
     rw[if_neg h9,if_neg h9];by_cases h10:mayN b.name=true
     ·rw[if_pos h10,if_pos h10];rfl
     ·rw[if_neg h10,if_neg h10];rfl
    ·have h8:=hB.resolve_left h7
     rw[h8,if_neg h7,bcase_true];by_cases h9:(getI a.ino f.inodes).kind=2∧(getI b.ino f.inodes).kind≠2
     ·rw[if_pos h9,if_pos h9];rfl
     rw[if_neg h9,if_neg h9];by_cases h10:(getI a.ino f.inodes).kind≠2∧(getI b.ino f.inodes).kind=2
     ·rw[if_pos h10,if_pos h10];rfl
     rw[if_neg h10,if_neg h10];by_cases h11:0<(getI b.ino f.inodes).entries.length
     ·rw[if_pos h11,if_pos h11];rfl
     ·rw[if_neg h11,if_neg h11];rfl
   rw[tail];by_cases h12:(getI a.ino f.inodes).kind=2
   ·rw[bc_t (by simp [h12])]
    cases h13:insQ f b.dir a.ino
    ·rw[bcase_false,if_neg (show¬((getI a.ino f.inodes).kind=2∧false=true) from fun h=>by cases h.2)]
    ·rw[bcase_true,if_pos ⟨h12,rfl⟩]
   ·rw[bc_f (by simp [h12]),if_neg (show¬((getI a.ino f.inodes).kind=2∧insQ f b.dir a.ino=true) from fun h=>h12 h.1)]
  ·rw[bc_t (by simp [h4]),if_neg h4]
 ·rw[bc_t (by simp [h1]),if_neg h1]
theorem ref14_Rename_eq (z:Ez f) (hb:base.length≤8388608) (hp:p.length≤1073741823) (hq:q.length≤1073741823):ref14_Rename f base p q=some (renameG rinsQ rmoveP f base p q):=by
 unfold ref14_Rename renameG renB;rw[ref10_Seek_eq z.ws hb hp,ocase_some',ref10_Seek_eq z.ws hb hq,ocase_some',z.ws.wf.rget,ocase_some',ref14_Inside_eq z,ref03_Read_eq hq,ref03_May_eq (by have:=seekP_nl f base q false;omega),ref14_Move_eq z,z.ws.wf.rget];simp only[ocase_some',beqI,bneI,beqS];by_cases h1:(seekP f base p false).2=0
 ·rw[bc_f (by simp [h1]),if_pos h1]
  generalize (seekP f base p false).1=a at*;by_cases h2:a.ino=0
  ·rw[bc_t (by simp [h2]),if_pos h2]
  rw[bc_f (by simp [h2]),if_neg h2];by_cases h3:a.name= []
  ·rw[bc_t (by simp [h3]),if_pos h3]
  rw[bc_f (by simp [h3]),if_neg h3];by_cases h4:(seekP f base q false).2=0
  ·rw[bc_f (by simp [h4]),if_pos h4]
   generalize (seekP f base q false).1=b at*;by_cases h5:b.name= []
   ·rw[bc_t (by simp [h5]),if_pos h5]
   rw[bc_f (by simp [h5]),if_neg h5];by_cases h6:a.ino=b.ino
   ·rw[bc_t (by simp [h6]),if_pos h6]
   rw[bc_f (by simp [h6]),if_neg h6];have h7:decide ((List.length (getI b.ino f.inodes).entries:Int)>0)=decide (0<(getI b.ino f.inodes).entries.length):=by
    rw[decide_eq_decide];omega
   rw[h7];by_cases k1:(getI a.ino f.inodes).kind=2
   ·simp only[k1,decide_true,bcase_true,ne_eq,not_true,false_and,if_false,true_and,Bool.not_true,bcase_false]
    cases rinsQ f b.dir a.ino
    ·rw[bcase_false,if_neg (by simp)]
     by_cases k2:b.ino=0
     ·simp only[k2,decide_true,bcase_true,if_true]
      cases (readP q).slash<;>cases mayN b.name<;>rfl
     ·simp only[k2,decide_false,bcase_false,if_false]
      by_cases k3:(getI b.ino f.inodes).kind=2
      ·simp only[k3,decide_true,Bool.not_true,bcase_false,not_true,if_false,bcase_true]
       by_cases k4:0<(getI b.ino f.inodes).entries.length
       ·simp only[k4,decide_true,bcase_true,if_true]
       ·simp only[k4,decide_false,bcase_false,if_false]
      ·simp only[k3,decide_false,Bool.not_false,bcase_true,not_false_eq_true,if_true]
    ·rfl
   ·simp only[k1,decide_false,bcase_false,ne_eq,not_false_eq_true,true_and,false_and,if_false,Bool.not_false,bcase_true]
    by_cases k2:b.ino=0
    ·simp only[k2,decide_true,bcase_true,if_true]
     cases (readP q).slash
     ·cases mayN b.name<;>rfl
     ·rfl
    ·simp only[k2,decide_false,bcase_false,if_false]
     by_cases k3:(getI b.ino f.inodes).kind=2
     ·simp only[k3,decide_true,bcase_true,if_true]
     ·simp only[k3,decide_false,bcase_false,if_false]
      by_cases k4:0<(getI b.ino f.inodes).entries.length
      ·simp only[k4,decide_true,bcase_true,if_true]
      ·simp only[k4,decide_false,bcase_false,if_false]
  ·rw[bc_t (by simp [h4]),if_neg h4]
 ·rw[bc_t (by simp [h1]),if_neg h1]
def small14:Fs:=⟨9,9,9,[⟨1,2,0, [],1,[⟨[100],3⟩,⟨[102],4⟩]⟩,⟨3,2,1, [],1,[⟨[101],5⟩]⟩,⟨4,1,1, [],0, []⟩,⟨5,2,1, [],3, []⟩]⟩
theorem small14_eq:law14_small=some small14:=by
 unfold law14_small;have e1:ref05_New 9 9=some ⟨9,9,2,[⟨1,2,0, [],1, []⟩]⟩:=rfl;rw[e1,ocase_some',ref05_Set_eq (by decide),ocase_some',ref05_Set_eq (by decide),ocase_some',ref05_Set_eq (by decide),ocase_some',ref05_Set_eq (by decide),ocase_some'];rfl
theorem awake14:law14_awake=some true:=by
 unfold law14_awake;rw[small14_eq,ocase_some'];have w:Ez small14:=ez_of (by decide+kernel);rw[move_Rename_eq w (by decide) (by decide) (by decide),ocase_some',move_Rename_eq w (by decide) (by decide) (by decide),ocase_some',move_Rename_eq w (by decide) (by decide) (by decide),ocase_some',move_Rename_eq w (by decide) (by decide) (by decide),ocase_some',move_Rename_eq w (by decide) (by decide) (by decide),ocase_some',move_Rename_eq w (by decide) (by decide) (by decide),ocase_some',move_Rename_eq w (by decide) (by decide) (by decide),ocase_some'];have w2:Ez (renameG insQ moveP small14 [47] [100] [120]).1:=ez_of (by decide+kernel);have w6:Ez (renameG insQ moveP small14 [47,100] [101] [46,46,47,101]).1:=ez_of (by decide+kernel);have e7:renameG insQ moveP small14 [47] [102] [102]=(small14,0):=by decide+kernel
 rw[w6.ws.wf.rget,ocase_some',ref09_At_eq w2.ws.wf (by decide),ocase_some',e7,w.inf.same,ocase_some',move_Inside_eq w,ocase_some',move_Inside_eq w,ocase_some',move_Inside_eq w,ocase_some'];simp only[bcase_ite];rw[if_pos (by decide+kernel),if_pos (by decide+kernel),if_pos (by decide+kernel),if_pos (by decide+kernel),if_pos (by decide+kernel),if_pos (by decide+kernel),if_pos (by decide+kernel),if_pos (by decide+kernel),if_pos (by decide+kernel),if_pos (by decide+kernel),if_pos (by decide+kernel),if_pos (by decide+kernel),if_pos (by decide+kernel)];congr 1
theorem fits14 (hi:InF f):∃b,law14_fits f base p q=some b∧(b=true→Ev f∧base.length≤1000∧p.length≤5000∧q.length≤5000):=by
 unfold law14_fits;rw[ref07_Ok_eq hi.len hi.ents,ocase_some'];cases ho:okF f
 ·exact⟨false,rfl,by simp⟩
 rw[bcase_true];obtain⟨b,hb1,hb2⟩:=ref10_Short_some (f:=f) base p hi.len;obtain⟨c,hc1,hc2⟩:=ref10_Short_some (f:=f) base q hi.len;rw[hb1,ocase_some',hc1,ocase_some'];cases b
 ·exact⟨false,rfl,by simp⟩
 ·exact⟨c,rfl,fun hc=>⟨ev_of ho,(hb2 rfl).1,(hb2 rfl).2,(hc2 hc).2⟩⟩
theorem MoveRenames_true (hi:InF f):law14_MoveRenames f base p q=some true:=by
 unfold law14_MoveRenames;rw[awake14];simp only[ocase_some',Bool.not_true,bcase_false];obtain⟨b,hb,hb2⟩:=fits14 (base:=base) (p:=p) (q:=q) hi;rw[hb,ocase_some'];cases b
 ·rfl
 obtain⟨e,h1,h2,h3⟩:=hb2 rfl;have z:=e.ew.ez;obtain⟨r1,r2,r3,r4⟩:=rename_bd (base:=base) (p:=p) (q:=q) e.tr e.bd (by omega);rw[Bool.not_true,bcase_false,move_Rename_eq z (by omega) (by omega) (by omega),ocase_some',ref14_Rename_eq z (by omega) (by omega) (by omega),ocase_some',r3,(r2.inf (by omega)).same,ocase_some'];simp
theorem MoveKeeps_true (hi:InF f):law14_MoveKeeps f base p q=some true:=by
 unfold law14_MoveKeeps;rw[awake14];simp only[ocase_some',Bool.not_true,bcase_false];obtain⟨b,hb,hb2⟩:=fits14 (base:=base) (p:=p) (q:=q) hi;rw[hb,ocase_some'];cases b
 ·rfl
 obtain⟨e,h1,h2,h3⟩:=hb2 rfl;have z:=e.ew.ez;have hl:=e.len;obtain⟨r1,r2,r3,r4⟩:=rename_bd (base:=base) (p:=p) (q:=q) e.tr e.bd (by omega);rw[Bool.not_true,bcase_false,lcase_le (by unfold LIM;simp;omega),List.nil_append,fs_eta,move_Rename_eq z (by omega) (by omega) (by omega),ocase_some',z.inf.same,ocase_some',ref14_Rename_eq z (by omega) (by omega) (by omega),ocase_some',r3,(r2.inf (by omega)).same];simp
theorem MoveInside_true {c d:Int} (hi:InF f):law14_MoveInside f c d=some true:=by
 unfold law14_MoveInside;rw[awake14];simp only[ocase_some',Bool.not_true,bcase_false];rw[ref07_Ok_eq hi.len hi.ents,ocase_some'];cases ho:okF f
 ·rfl
 have e:=ev_of ho;have z:=e.ew.ez;rw[Bool.not_true,bcase_false,z.ws.wf.rget,ocase_some',z.ws.wf.rget,ocase_some'];simp only;cases hc:findI c f.inodes with
 |none=>rfl
 |some x=>
  cases hd:findI d f.inodes with
  |none=>rfl
  |some y=>
   rw[getI_some hc,getI_some hd,bneI,bneI,bc_f (show(!(some x).isSome)=false from rfl),bc_f (show(!(some y).isSome)=false from rfl)];by_cases k1:x.kind=2
   ·rw[bc_f (by simp [k1])]
    by_cases k2:y.kind=2
    ·rw[bc_f (by simp [k2])]
     simp only[move_Inside_eq z,ref14_Inside_eq z,ocase_some'];have i1:∀o,insQ f c o=wayB f.inodes o c∧rinsQ f c o=wayB f.inodes o c:=fun o=>ins_eq e.tr hc k1
     have i2:∀o,insQ f d o=wayB f.inodes o d:=fun o=>(ins_eq e.tr hd k2).1
     have c1:wayB f.inodes c c=true:=wayB_iff.2 ⟨0, .here⟩;have c2:wayB f.inodes 1 c=true:=by obtain⟨k,hk⟩:=(e.tr.led' hc).way;exact wayB_iff.2 ⟨k,hk⟩
     rw[(i1 d).1,(i1 d).2,(i1 c).1,(i1 1).1,i2 c,c1,c2,bc_t (by simp),bcase_true,bcase_true,beqI];by_cases hcd:c=d
     ·rw[bc_t (by simp [hcd])]
     ·rw[bc_f (by simp [hcd])]
      cases h1:wayB f.inodes d c
      ·rfl
      ·rw[Bool.not_true,bcase_false]
       have:wayB f.inodes c d=false:=by
        refine wayB_f fun⟨m,hm⟩=> ?_
        obtain⟨m',hm'⟩:=wayB_iff.1 h1;exact hcd (way_anti e.tr hc k1 hm hm')
       rw[this];rfl
    ·rw[bc_t (by simp [k2])]
   ·rw[bc_t (by simp [k1])]
theorem atP_gd (w:WF f) (h0:(atP f p).2=0) (hn:(atP f p).1.name≠ []):Gd f false (atP f p).1∧mayN (atP f p).1.name=true∧∃ns,ns≠ [] ∧(∀m∈ns,mayN m=true)∧joinP ns=p∧goAt f.inodes ns rootS=((atP f p).1,0):=by
 have hpl:(plainP p).2=true:=by
  unfold atP at h0;cases h:(plainP p).2
  ·rw[h,if_neg (by simp)] at h0;simp at h0
  ·rfl
 have hat:atP f p=goAt f.inodes (plainP p).1 rootS:=by unfold atP;rw[if_pos hpl]
 obtain⟨p1,p2,p3⟩:=plainP_true hpl;rw[hat] at h0 hn⊢;have hgo:goAt f.inodes (plainP p).1 rootS=((goAt f.inodes (plainP p).1 rootS).1,0):=by rw[←h0]
 rcases goAt_ok hgo with⟨h1,h2⟩ |⟨d,m,ns',h1,h2,h3,h4,h5,h6⟩
 ·rw[h2] at hn;exact absurd rfl hn
 ·refine⟨Or.inr ⟨hn,d,h2,h4, ?_,fun h=>by cases h⟩, ?_,(plainP p).1,by rw[h1];simp,p2,p1,hgo⟩
  ·rw[h6,h5]
  ·rw[h5]
   exact p2 m (by rw[h1];simp)
theorem MoveMoves_true (hi:InF f):law14_MoveMoves f p q=some true:=by
 unfold law14_MoveMoves;rw[awake14];simp only[ocase_some',Bool.not_true,bcase_false];obtain⟨b,hb,hb2⟩:=fits14 (base:=[47]) (p:=p) (q:=q) hi;rw[hb,ocase_some'];cases b
 ·rfl
 obtain⟨e,h1,h2,h3⟩:=hb2 rfl;have z:=e.ew.ez;rw[Bool.not_true,bcase_false,ref09_At_eq z.ws.wf (by omega),ocase_some',ref09_At_eq z.ws.wf (by omega),ocase_some',z.ws.wf.rget,ocase_some',z.ws.wf.rget,ocase_some',ref14_Inside_eq z,ocase_some',move_Move_eq z,ref14_Move_eq z];simp only[ocase_some',beqI,bneI,beqS];by_cases c1:(atP f p).2=0
 ·rw[bc_f (by simp [c1])]
  by_cases c2:(atP f q).2=0
  ·rw[bc_f (by simp [c2])]
   have ga:=fun hn=>(atP_gd z.ws.wf c1 hn).1
   have gb:=fun hn=>(atP_gd z.ws.wf c2 hn).1
   have gm:=fun hn=>(atP_gd z.ws.wf c2 hn).2.1
   generalize (atP f p).1=a at*;generalize (atP f q).1=b at*;by_cases c3:a.ino=0
   ·rw[bc_t (by simp [c3])]
   rw[bc_f (by simp [c3])];by_cases c4:a.name= []
   ·rw[bc_t (by simp [c4])]
   rw[bc_f (by simp [c4])];by_cases c5:b.name= []
   ·rw[bc_t (by simp [c5])]
   rw[bc_f (by simp [c5])];by_cases c6:a.ino=b.ino
   ·rw[bc_t (by simp [c6])]
   rw[bc_f (by simp [c6])];by_cases c7:0<(getI b.ino f.inodes).entries.length
   ·rw[bc_t (decide_eq_true (by omega))]
   rw[bc_f (decide_eq_false (by omega))];obtain⟨x,hx⟩:=gd_found z.ws.wf (ga c4) c3;have key:((getI a.ino f.inodes).kind=2→rinsQ f b.dir a.ino=false)→(ocase (ref05_Same (moveP f a b) (rmoveP f a b)) fun y12=>some y12)=some true:=by
    intro hk;have hok:MvOK f a b x:=by
     refine⟨ga c4,c4,hx,gb c5,c5,c6,fun hk2 ⟨m,hm⟩=> ?_,fun y hy=> ?_,fun _=>gm c5⟩
     ·obtain⟨d2,b1,b2,_⟩:=gd_dir (gb c5) c5
      have:=hk (by rw[getI_some hx];exact hk2);unfold rinsQ at this;rw[(ins_eq e.tr b1 b2).2,wayB_iff.2 ⟨m,hm⟩] at this;cases this
     ·rw[getI_some hy] at c7
      exact List.length_eq_zero_iff.1 (by omega)
    obtain⟨e',m,m2⟩:=move_made e.tr e.bd (by omega) hok;rw[m2,(m.bd.inf (by omega)).same];simp
   by_cases c8:(getI a.ino f.inodes).kind=2
   ·rw[bc_t (by simp [c8])]
    cases c9:rinsQ f b.dir a.ino
    ·exact key (fun _=>c9)
    ·rfl
   ·rw[bc_f (by simp [c8])]
    exact key (fun h=>absurd h c8)
  ·rw[bc_t (by simp [c2])]
 ·rw[bc_t (by simp [c1])]
end
end Go.Eng
namespace Go.Eng
open Go
theorem inF_in {a b c:Int} {l:List Inode} (h:HL.ok 1048576 [.int .i64, .int .i64, .int .i64, .sl .inode] (a,b,c,l,())):InF ⟨a,b,c,l⟩:=by
 obtain⟨_,_,_,⟨h1,h2⟩,_⟩:=h;have h3:l.length≤1048576:=h1;exact⟨by show l.length≤1073741824;omega,fun x hx=>by have:x.ok 1048576:=h2 x hx;have:=this.2.2.2.2.2.1;omega⟩
theorem fs_in {v:HL.V [.int .i64, .int .i64, .int .i64, .sl .inode]} (h:HL.ok 1048576 [.int .i64, .int .i64, .int .i64, .sl .inode] v):InF ⟨v.1,v.2.1,v.2.2.1,v.2.2.2.1⟩:=by
 obtain⟨a,b,c,l,u⟩:=v;exact inF_in h
end Go.Eng
set_option linter.unusedSimpArgs false
set_option linter.unusedVariables false
set_option linter.unusedSectionVars false
namespace Go.Eng
open Go
section
variable {f g:Fs} {base p q:Str} {a b s:Spotted} {x y:Inode} {n:Nat} {i:Int} {e:Entry}
theorem seek_at (hpl:(plainP p).2=true) (h0:(atP f p).2=0) (hs:seekP f base p false=(a,0)):a=(atP f p).1∧goAt f.inodes (plainP p).1 rootS=(a,0):=by
 obtain⟨p1,p2,p3⟩:=plainP_true hpl;have hat:atP f p=goAt f.inodes (plainP p).1 rootS:=by unfold atP;rw[if_pos hpl]
 have hgo:goAt f.inodes (plainP p).1 rootS=((atP f p).1,0):=by rw[←hat,←h0]
 have hl:p.length≤4095:=by
  refine longP_len ?_;unfold seekP at hs;split at hs
  ·simp at hs
  ·cases hlp:longP p
   ·rfl
   ·rw[hlp,if_pos rfl] at hs;simp at hs
 have h1:=seekP_plain (f:=f) (base:=base) p2 hgo (by rw[p1];exact hl);rw[p1,hs] at h1;have h2:a=(atP f p).1:=(Prod.mk.inj h1).1;exact⟨h2,by rw[hgo,←h2]⟩
theorem MoveSound_true (hi:InF f):law14_MoveSound f p q=some true:=by
 unfold law14_MoveSound;rw[awake14];simp only[ocase_some',Bool.not_true,bcase_false];obtain⟨b,hb,hb2⟩:=fits14 (base:=[47]) (p:=p) (q:=q) hi;rw[hb,ocase_some'];cases b
 ·rfl
 obtain⟨e,h1,h2,h3⟩:=hb2 rfl;have z:=e.ew.ez;rw[Bool.not_true,bcase_false,ref03_Plain_eq (by omega),ocase_some',ref03_Plain_eq (by omega),ocase_some'];cases hpp:(plainP p).2
 ·rfl
 cases hpq:(plainP q).2
 ·rfl
 rw[Bool.not_true,bcase_false,bcase_false,ref09_At_eq z.ws.wf (by omega),ocase_some',move_Rename_eq z (by simp) (by omega) (by omega),ocase_some',ref09_At_eq z.ws.wf (by omega)];simp only[ocase_some',beqI,bneI];have fin:∀c:Bool,bcase c (some true) (some true)=some true:=fun c=>by cases c<;>rfl
 rcases rename_made (base:=[47]) (p:=p) (q:=q) e.tr e.bd (by omega) with⟨er,he,r1,r2⟩ |⟨r1,r2,a,b,s1,s2,s3⟩ |⟨g,a,b,x,en,r1,r2,r⟩
 ·rw[r1,bc_t (by simp [he]),z.inf.same];simp
 ·rw[r1,bc_f (by simp),e.ew.check,ocase_some',bc_f (by simp)]
  by_cases c1:(atP f p).2=0
  ·rw[bc_f (by simp [c1])]
   by_cases c2:(atP f q).2=0
   ·rw[bc_f (by simp [c2])]
    rw[(seek_at hpp c1 s1).1,(seek_at hpq c2 s2).1] at s3;rw[bc_t (by simp [s3]),bc_f (by simp [c2]),z.inf.same];simp
   ·rw[bc_t (by simp [c2]),bc_t (by simp [c2])]
  ·rw[bc_t (by simp [c1]),bc_t (by simp [c1])];rfl
 ·have m:=r.mv
  have eg:=ew_of m.tr m.bd (by omega);rw[r1,bc_f (by simp),eg.check,ocase_some',bc_f (by simp)];by_cases c1:(atP f p).2=0
  ·rw[bc_f (by simp [c1])]
   by_cases c2:(atP f q).2=0
   ·rw[bc_f (by simp [c2])]
    obtain⟨ea,ga⟩:=seek_at hpp c1 r.sp;obtain⟨eb,gb⟩:=seek_at hpq c2 r.sq;rw[←ea,←eb,bc_f (by simp [r.ok.ne])];obtain⟨d1,d2,P⟩:=places e.tr e.wf r.ok;have hna:(plainP p).1≠ [] :=fun h=>by
     rw[h] at ga;simp only[goAt,Prod.mk.injEq] at ga;exact r.ok.an (by rw[←ga.1];rfl)
    have hnb:(plainP q).1≠ [] :=fun h=>by
     rw[h] at gb;simp only[goAt,Prod.mk.injEq] at gb;exact r.ok.bn (by rw[←gb.1];rfl)
    have k1:=m.at e.tr e.wf P r.ok gb hnb;have k2:=m.gone e.tr e.wf P r.ok ga hna;have a1:atP g q=(⟨b.dir,b.name,a.ino⟩,0):=by unfold atP;rw[if_pos hpq];exact k1
    have a2:atP g p=(⟨a.dir,a.name,0⟩,0):=by unfold atP;rw[if_pos hpp];exact k2
    have a3:(getP g p).2=1:=by
     unfold getP;rw[a2,if_pos rfl];simp only;rw[eg.wf.zero]
    rw[ref09_At_eq eg.wf (by omega),ocase_some',ref09_Get_eq eg.wf (by omega),ocase_some',a1];obtain⟨kf,wf⟩:=(e.tr.led' r.ok.hx).way;have hgx:findI a.ino g.inodes=some (if x.kind=2 then x.withP b.dir else x):=by
     rw[m.find,if_pos P.xi]
    obtain⟨kg,wg⟩:=(m.tr.led' hgx).way;have hlf:=e.lil.len;have hlg:=eg.lil.len;rw[ref08_Below_eq e.tr e.lil (by omega) wf (by omega),ocase_some'];simp only;rw[ref08_Below_eq eg.tr eg.lil (by omega) wg (by omega),ocase_some',m.below e.tr e.wf P r.ok q,ref08_Same_eq (by have:=below_le eg.tr eg.lil (m:=g.inodes.length+1) (p:=q) wg;omega),a3];simp
   ·rw[bc_t (by simp [c2]),bc_t (by simp [c2])]
  ·rw[bc_t (by simp [c1]),bc_t (by simp [c1])];rfl
end
end Go.Eng
