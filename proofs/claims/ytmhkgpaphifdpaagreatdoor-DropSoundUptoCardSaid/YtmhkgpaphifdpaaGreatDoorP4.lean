/- A part of the proofs of the laws of this seat: the engine that reads the program's code, plain functions, or facts of the program's functions. Conditions: none. -/
import Derived.Test.YtmhkgpaphifdpaaGreatDoorP3
import Derived.Test.YtmhkgpaphifdpaaGreatDoorP1
set_option linter.unusedSectionVars false
set_option linter.unusedVariables false
set_option linter.unusedSimpArgs false
set_option linter.unnecessarySimpa false
set_option linter.unusedSimpArgs false
set_option linter.unusedVariables false
set_option linter.unusedSectionVars false
namespace Go.Eng
open Go
section
variable {f g:Fs} {base p q nm:Str} {s:Spotted} {i:Int} {d x:Inode} {e:Entry}
theorem foundP_ok (h:(foundP f base p).2=0):∃x,foundP f base p=(x,0)∧(seekP f base p false).2=0∧findI (seekP f base p false).1.ino f.inodes=some x:=by
 unfold foundP at h⊢;by_cases h1:(seekP f base p false).2=0
 ·rw[if_pos h1] at h⊢
  cases hf:findI (seekP f base p false).1.ino f.inodes with
  |none=>rw[hf] at h;simp at h
  |some x=>exact⟨x,rfl,h1,rfl⟩
 ·rw[if_neg h1] at h;exact absurd h h1
theorem hlinkG_err {n:Fs→Spotted→Int→Fs} (h:(hlinkG n f base p q).2≠0):(hlinkG n f base p q).1=f:=by
 unfold hlinkG at h⊢;by_cases h1:(foundP f base p).2=0
 ·rw[if_pos h1] at h⊢
  by_cases h2:(foundP f base p).1.kind=2
  ·rw[if_pos h2]
  rw[if_neg h2] at h⊢;by_cases h3:(seekP f base q false).2=0
  ·rw[if_pos h3] at h⊢
   by_cases h4:(seekP f base q false).1.ino=0
   ·rw[if_pos h4] at h⊢
    by_cases h5:(readP q).slash=true
    ·rw[if_pos h5]
    rw[if_neg h5] at h⊢;by_cases h6:mayN (seekP f base q false).1.name=true
    ·rw[if_pos h6] at h;exact absurd rfl h
    ·rw[if_neg h6]
   ·rw[if_neg h4]
  ·rw[if_neg h3]
 ·rw[if_neg h1]
theorem unlinkG_err {u:Fs→Spotted→Fs} (h:(unlinkG u f base p).2≠0):(unlinkG u f base p).1=f:=by
 unfold unlinkG at h⊢;by_cases h1:(foundP f base p).2=0
 ·rw[if_pos h1] at h⊢
  by_cases h2:(foundP f base p).1.kind=2
  ·rw[if_pos h2]
  ·rw[if_neg h2] at h;exact absurd rfl h
 ·rw[if_neg h1]
theorem rmdirG_err {u:Fs→Spotted→Fs} (h:(rmdirG u f base p).2≠0):(rmdirG u f base p).1=f:=by
 unfold rmdirG at h⊢;by_cases h1:(foundP f base p).2=0
 ·rw[if_pos h1] at h⊢
  by_cases h2:(foundP f base p).1.kind=2
  ·rw[if_pos h2] at h⊢
   by_cases h3:(foundP f base p).1.ino=1
   ·rw[if_pos h3]
   rw[if_neg h3] at h⊢;by_cases h4:(seekP f base p false).1.name= []
   ·rw[if_pos h4]
   rw[if_neg h4] at h⊢;by_cases h5:0<(foundP f base p).1.entries.length
   ·rw[if_pos h5]
   ·rw[if_neg h5] at h;exact absurd rfl h
  ·rw[if_neg h2]
 ·rw[if_neg h1]
theorem hlinkG_ok {n:Fs→Spotted→Int→Fs} (h:(hlinkG n f base p q).2=0):∃x,(seekP f base p false).2=0∧findI (seekP f base p false).1.ino f.inodes=some x∧x.kind≠2∧(seekP f base q false).2=0∧(seekP f base q false).1.ino=0∧(readP q).slash=false∧mayN (seekP f base q false).1.name=true∧
 ∀n:Fs→Spotted→Int→Fs,hlinkG n f base p q=(n f (seekP f base q false).1 x.ino,0):=by
 unfold hlinkG at h⊢;by_cases h1:(foundP f base p).2=0
 ·obtain⟨x,hx,h9,h8⟩:=foundP_ok h1
  rw[hx] at h⊢;rw[if_pos rfl] at h;by_cases h2:x.kind=2
  ·rw[if_pos h2] at h;simp at h
  rw[if_neg h2] at h;by_cases h3:(seekP f base q false).2=0
  ·rw[if_pos h3] at h
   by_cases h4:(seekP f base q false).1.ino=0
   ·rw[if_pos h4] at h
    by_cases h5:(readP q).slash=true
    ·rw[if_pos h5] at h;simp at h
    rw[if_neg h5] at h;by_cases h6:mayN (seekP f base q false).1.name=true
    ·refine⟨x,h9,h8,h2,h3,h4,by simpa using h5,h6,fun n=> ?_⟩
     rw[if_pos rfl,if_neg h2,if_pos h3,if_pos h4,if_neg h5,if_pos h6]
    ·rw[if_neg h6] at h;simp at h
   ·rw[if_neg h4] at h;simp at h
  ·rw[if_neg h3] at h;exact absurd h h3
 ·rw[if_neg h1] at h;exact absurd h h1
theorem hlinkG_bad {n m:Fs→Spotted→Int→Fs} (h:(hlinkG n f base p q).2≠0):hlinkG m f base p q=hlinkG n f base p q:=by
 have h7:=hlinkG_err h;rcases Classical.em ((hlinkG m f base p q).2=0) with h8|h8
 ·obtain⟨x,_,_,_,_,_,_,_,h9⟩:=hlinkG_ok h8
  rw[h9 n] at h;exact absurd rfl h
 ·unfold hlinkG at h8⊢h
  by_cases h1:(foundP f base p).2=0
  ·rw[if_pos h1] at h h8⊢
   by_cases h2:(foundP f base p).1.kind=2
   ·rw[if_pos h2,if_pos h2,if_pos h1]
   rw[if_neg h2] at h h8⊢;rw[if_pos h1,if_neg h2];by_cases h3:(seekP f base q false).2=0
   ·rw[if_pos h3] at h h8⊢
    rw[if_pos h3];by_cases h4:(seekP f base q false).1.ino=0
    ·rw[if_pos h4] at h h8⊢
     rw[if_pos h4];by_cases h5:(readP q).slash=true
     ·rw[if_pos h5,if_pos h5]
     rw[if_neg h5] at h h8⊢;rw[if_neg h5];by_cases h6:mayN (seekP f base q false).1.name=true
     ·rw[if_pos h6] at h;exact absurd rfl h
     ·rw[if_neg h6,if_neg h6]
    ·rw[if_neg h4,if_neg h4]
   ·rw[if_neg h3,if_neg h3]
  ·rw[if_neg h1,if_neg h1]
structure Linked (f:Fs) (n:Nat) (base p q:Str) (s:Spotted) (x:Inode) (g:Fs):Prop where
 tr:Tree g
 bd:Bd (n+1) g
 sp:(seekP f base p false).2=0
 hx:findI (seekP f base p false).1.ino f.inodes=some x
 hxx:findI x.ino f.inodes=some x
 hk:x.kind≠2
 sq:seekP f base q false=(s,0)
 s0:s.ino=0
 slash:(readP q).slash=false
 free:Free f (getI s.dir f.inodes) s.name
 ino:(getI s.dir f.inodes).ino=s.dir
 ne:x.ino≠(getI s.dir f.inodes).ino
 eq:g=addF f (getI s.dir f.inodes) s.name x
 more:More f g (getI s.dir f.inodes) s.name (x.withL (x.links+1))
 len:g.inodes.length=f.inodes.length
theorem link_made {n:Nat} (ht:Tree f) (hb:Bd n f) (hn:n≤9000) (h0:(hlinkG nameP f base p q).2=0):∃s x,Linked f n base p q s x (hlinkG nameP f base p q).1∧hlinkG rnameP f base p q=hlinkG nameP f base p q:=by
 have e:=ew_of ht hb (by omega);obtain⟨x,h1,h2,h3,h4,h5,h6,h7,h8⟩:=hlinkG_ok h0;have hsk:seekP f base q false=((seekP f base q false).1,0):=by rw[←h4]
 have hg:=(seekP_res e.ws base q false).1 h4;rw[h8 nameP,h8 rnameP];generalize (seekP f base q false).1=s at*;obtain⟨hf,hs⟩:=gd_free ht e.wf hg h5 h7;have hi:=(findI_some h2).2;have hxx:findI x.ino f.inodes=some x:=by rw[hi];exact h2
 obtain⟨q1,q2,q3⟩:=nameP_eq (s:=s) hf hxx h3;refine⟨s,x,⟨?_, ?_,h1,h2,hxx,h3,hsk,h5,h6,hf,hs,q3,q1, ?_, ?_⟩,by rw[q1,q2]⟩
 ·show Tree (nameP f s x.ino)
  rw[q1];exact addName ht hf hxx h3
 ·show Bd _ (nameP f s x.ino)
  rw[q1];exact hb.addF ht hf hxx
 ·show More f (nameP f s x.ino) _ _ _
  rw[q1];exact addF_more hxx q3
 ·show(nameP f s x.ino).inodes.length=_
  rw[q1];exact(addF_sum ht hf hxx q3).1
theorem hlink_eq (ht:Tree f) (hb:Bd 9000 f):hlinkG rnameP f base p q=hlinkG nameP f base p q:=by
 rcases Classical.em ((hlinkG nameP f base p q).2=0) with h|h
 ·obtain⟨s,x,_,h2⟩:=link_made ht hb (Nat.le_refl _) h;exact h2
 ·exact hlinkG_bad h
structure Taken (f:Fs) (n:Nat) (s:Spotted) (x:Inode) (e:Entry) (g:Fs):Prop where
 tr:Tree g
 bd:Bd n g
 ent:Ent f (getI s.dir f.inodes) s.name x e
 dino:(getI s.dir f.inodes).ino=s.dir
 xino:x.ino=s.ino
 xe:x.entries= []
 eq:g=remF f (getI s.dir f.inodes) s.name x
 more:More g f ((getI s.dir f.inodes).remE s.name) s.name x
 free:Free g ((getI s.dir f.inodes).remE s.name) s.name
theorem taken {n:Nat} {fol:Bool} (ht:Tree f) (hb:Bd n f) (hn:n≤9000) (hg:Gd f fol s) (h1:s.name≠ []) (hx:findI s.ino f.inodes=some x) (hx0:x.entries= []):∃e,Taken f n s x e (unnP f s)∧runnP f s=unnP f s:=by
 have ee:=ew_of ht hb (by omega);obtain⟨e,he,hd,hi⟩:=ent_of_gd ht ee.wf hg h1 hx;obtain⟨q1,q2⟩:=unnP_eq he ht hi;obtain⟨m1,m2⟩:=remF_more he ht;refine⟨e,⟨?_, ?_,he,hd,hi,hx0,q1, ?_, ?_⟩,by rw[q1,q2]⟩
 ·rw[q1];exact remName ht he hx0
 ·rw[q1];exact hb.remF ht he
 ·rw[q1];exact m1
 ·rw[q1];exact m2
theorem unlinkG_ok {u:Fs→Spotted→Fs} (h:(unlinkG u f base p).2=0):∃x,(seekP f base p false).2=0∧findI (seekP f base p false).1.ino f.inodes=some x∧x.kind≠2∧∀u:Fs→Spotted→Fs,unlinkG u f base p=(u f (seekP f base p false).1,0):=by
 unfold unlinkG at h⊢;by_cases h1:(foundP f base p).2=0
 ·obtain⟨x,hx,h9,h8⟩:=foundP_ok h1
  rw[hx] at h⊢;rw[if_pos rfl] at h;by_cases h2:x.kind=2
  ·rw[if_pos h2] at h;simp at h
  ·exact⟨x,h9,h8,h2,fun u=>by rw[if_pos rfl,if_neg h2]⟩
 ·rw[if_neg h1] at h;exact absurd h h1
theorem rmdirG_ok {u:Fs→Spotted→Fs} (h:(rmdirG u f base p).2=0):∃x,(seekP f base p false).2=0∧findI (seekP f base p false).1.ino f.inodes=some x∧(seekP f base p false).1.name≠ [] ∧x.entries= [] ∧∀u:Fs→Spotted→Fs,rmdirG u f base p=(u f (seekP f base p false).1,0):=by
 unfold rmdirG at h⊢;by_cases h1:(foundP f base p).2=0
 ·obtain⟨x,hx,h9,h8⟩:=foundP_ok h1
  rw[hx] at h⊢;rw[if_pos rfl] at h;by_cases h2:x.kind=2
  ·rw[if_pos h2] at h
   by_cases h3:x.ino=1
   ·rw[if_pos h3] at h;simp at h
   rw[if_neg h3] at h;by_cases h4:(seekP f base p false).1.name= []
   ·rw[if_pos h4] at h;simp at h
   rw[if_neg h4] at h;by_cases h5:0<x.entries.length
   ·rw[if_pos h5] at h;simp at h
   ·refine⟨x,h9,h8,h4,List.length_eq_zero_iff.1 (by omega),fun u=> ?_⟩
    rw[if_pos rfl,if_pos h2,if_neg h3,if_neg h4,if_neg h5]
  ·rw[if_neg h2] at h;simp at h
 ·rw[if_neg h1] at h;exact absurd h h1
theorem unlink_made {n:Nat} (ht:Tree f) (hb:Bd n f) (hn:n≤9000) (h0:(unlinkG unnP f base p).2=0):∃s x e,seekP f base p false=(s,0)∧x.kind≠2∧Taken f n s x e (unlinkG unnP f base p).1∧unlinkG runnP f base p=unlinkG unnP f base p:=by
 have ee:=ew_of ht hb (by omega);obtain⟨x,h1,h2,h3,h4⟩:=unlinkG_ok h0;have hsk:seekP f base p false=((seekP f base p false).1,0):=by rw[←h1]
 have hg:=(seekP_res ee.ws base p false).1 h1;rw[h4 unnP,h4 runnP];generalize (seekP f base p false).1=s at*;have hn0:s.name≠ [] :=fun e=>by
  rcases hg with⟨_,_,d,hd,hk⟩ |⟨h,_⟩
  ·rw[h2] at hd;cases hd;exact h3 hk
  ·exact h e
 obtain⟨e,t,t2⟩:=taken ht hb hn hg hn0 h2 (ht.no_ents h2 h3);exact⟨s,x,e,hsk,h3,t,by rw[t2]⟩
theorem rmdir_made {n:Nat} (ht:Tree f) (hb:Bd n f) (hn:n≤9000) (h0:(rmdirG unnP f base p).2=0):∃s x e,seekP f base p false=(s,0)∧Taken f n s x e (rmdirG unnP f base p).1∧rmdirG runnP f base p=rmdirG unnP f base p:=by
 have ee:=ew_of ht hb (by omega);obtain⟨x,h1,h2,h3,h5,h4⟩:=rmdirG_ok h0;have hsk:seekP f base p false=((seekP f base p false).1,0):=by rw[←h1]
 have hg:=(seekP_res ee.ws base p false).1 h1;rw[h4 unnP,h4 runnP];generalize (seekP f base p false).1=s at*;obtain⟨e,t,t2⟩:=taken ht hb hn hg h3 h2 h5;exact⟨s,x,e,hsk,t,by rw[t2]⟩
theorem unlinkG_bad {u v:Fs→Spotted→Fs} (h:(unlinkG u f base p).2≠0):unlinkG v f base p=unlinkG u f base p:=by
 unfold unlinkG at h⊢;by_cases h1:(foundP f base p).2=0
 ·rw[if_pos h1] at h
  rw[if_pos h1,if_pos h1];by_cases h2:(foundP f base p).1.kind=2
  ·rw[if_pos h2,if_pos h2]
  ·rw[if_neg h2] at h;exact absurd rfl h
 ·rw[if_neg h1,if_neg h1]
theorem rmdirG_bad {u v:Fs→Spotted→Fs} (h:(rmdirG u f base p).2≠0):rmdirG v f base p=rmdirG u f base p:=by
 unfold rmdirG at h⊢;by_cases h1:(foundP f base p).2=0
 ·rw[if_pos h1] at h
  rw[if_pos h1,if_pos h1];by_cases h2:(foundP f base p).1.kind=2
  ·rw[if_pos h2] at h
   rw[if_pos h2,if_pos h2];by_cases h3:(foundP f base p).1.ino=1
   ·rw[if_pos h3,if_pos h3]
   rw[if_neg h3] at h;rw[if_neg h3,if_neg h3];by_cases h4:(seekP f base p false).1.name= []
   ·rw[if_pos h4,if_pos h4]
   rw[if_neg h4] at h;rw[if_neg h4,if_neg h4];by_cases h5:0<(foundP f base p).1.entries.length
   ·rw[if_pos h5,if_pos h5]
   ·rw[if_neg h5] at h;exact absurd rfl h
  ·rw[if_neg h2,if_neg h2]
 ·rw[if_neg h1,if_neg h1]
theorem unlink_eq (ht:Tree f) (hb:Bd 9000 f):unlinkG runnP f base p=unlinkG unnP f base p:=by
 rcases Classical.em ((unlinkG unnP f base p).2=0) with h|h
 ·obtain⟨s,x,e,_,_,_,h2⟩:=unlink_made ht hb (Nat.le_refl _) h;exact h2
 ·exact unlinkG_bad h
theorem rmdir_eq (ht:Tree f) (hb:Bd 9000 f):rmdirG runnP f base p=rmdirG unnP f base p:=by
 rcases Classical.em ((rmdirG unnP f base p).2=0) with h|h
 ·obtain⟨s,x,e,_,_,h2⟩:=rmdir_made ht hb (Nat.le_refl _) h;exact h2
 ·exact rmdirG_bad h
theorem Bd.inf {n:Nat} (hb:Bd n f) (hn:n≤10000):InF f:=⟨by have:=hb.len;omega,fun x hx=>by have:=hb.ents x hx;omega⟩
theorem link_bd {n:Nat} (ht:Tree f) (hb:Bd n f) (hn:n≤9000):Tree (hlinkG nameP f base p q).1∧Bd (n+1) (hlinkG nameP f base p q).1:=by
 rcases Classical.em ((hlinkG nameP f base p q).2=0) with h|h
 ·obtain⟨s,x,h1,_⟩:=link_made ht hb hn h;exact⟨h1.tr,h1.bd⟩
 ·rw[hlinkG_err h];exact⟨ht,hb.mono (by omega)⟩
theorem unlink_bd {n:Nat} (ht:Tree f) (hb:Bd n f) (hn:n≤9000):Tree (unlinkG unnP f base p).1∧Bd n (unlinkG unnP f base p).1:=by
 rcases Classical.em ((unlinkG unnP f base p).2=0) with h|h
 ·obtain⟨s,x,e,_,_,h1,_⟩:=unlink_made ht hb hn h;exact⟨h1.tr,h1.bd⟩
 ·rw[unlinkG_err h];exact⟨ht,hb⟩
theorem rmdir_bd {n:Nat} (ht:Tree f) (hb:Bd n f) (hn:n≤9000):Tree (rmdirG unnP f base p).1∧Bd n (rmdirG unnP f base p).1:=by
 rcases Classical.em ((rmdirG unnP f base p).2=0) with h|h
 ·obtain⟨s,x,e,_,h1,_⟩:=rmdir_made ht hb hn h;exact⟨h1.tr,h1.bd⟩
 ·rw[rmdirG_err h];exact⟨ht,hb⟩
def small12:Fs:=⟨9,9,9,[⟨1,2,0, [],1,[⟨[100],3⟩]⟩,⟨3,2,1, [],1,[⟨[102],4⟩]⟩,⟨4,1,1, [],0, []⟩]⟩
theorem small12_eq:law12_small=some small12:=by
 unfold law12_small;have e1:ref05_New 9 9=some ⟨9,9,2,[⟨1,2,0, [],1, []⟩]⟩:=rfl;rw[e1,ocase_some',ref05_Set_eq (by decide),ocase_some',ref05_Set_eq (by decide),ocase_some',ref05_Set_eq (by decide),ocase_some'];rfl
theorem awake12:law12_awake=some true:=by
 unfold law12_awake;rw[small12_eq,ocase_some'];have w:Ez small12:=ez_of (by decide+kernel);rw[drop_Link_eq w (by decide) (by decide) (by decide),ocase_some'];have e2:hlinkG nameP small12 [47,100] [102] [47,103]=(⟨9,9,9,[⟨1,2,0, [],1,[⟨[100],3⟩,⟨[103],4⟩]⟩,⟨3,2,1, [],1,[⟨[102],4⟩]⟩,⟨4,1,2, [],0, []⟩]⟩,0):=by decide+kernel
 rw[e2];have w2:Ez ⟨9,9,9,[⟨1,2,0, [],1,[⟨[100],3⟩,⟨[103],4⟩]⟩,⟨3,2,1, [],1,[⟨[102],4⟩]⟩,⟨4,1,2, [],0, []⟩]⟩:=ez_of (by decide+kernel);rw[drop_Unlink_eq w2 (by decide) (by decide),ocase_some'];have e3:unlinkG unnP ⟨9,9,9,[⟨1,2,0, [],1,[⟨[100],3⟩,⟨[103],4⟩]⟩,⟨3,2,1, [],1,[⟨[102],4⟩]⟩,⟨4,1,2, [],0, []⟩]⟩ [47] [100,47,102]=(⟨9,9,9,[⟨1,2,0, [],1,[⟨[100],3⟩,⟨[103],4⟩]⟩,⟨3,2,1, [],1, []⟩,⟨4,1,1, [],0, []⟩]⟩,0):=by decide+kernel
 rw[e3];have w3:Ez ⟨9,9,9,[⟨1,2,0, [],1,[⟨[100],3⟩,⟨[103],4⟩]⟩,⟨3,2,1, [],1, []⟩,⟨4,1,1, [],0, []⟩]⟩:=ez_of (by decide+kernel);rw[drop_Rmdir_eq w3 (by decide) (by decide),ocase_some',drop_Rmdir_eq w (by decide) (by decide),ocase_some',drop_Rmdir_eq w (by decide) (by decide),ocase_some',drop_Rmdir_eq w3 (by decide) (by decide),ocase_some',drop_Unlink_eq w (by decide) (by decide),ocase_some',drop_Link_eq w (by decide) (by decide) (by decide),ocase_some',w2.ws.wf.rget,ocase_some'];simp only[bcase_ite];rw[if_pos (by decide+kernel),if_pos (by decide+kernel),if_pos (by decide+kernel),if_pos (by decide+kernel),if_pos (by decide+kernel),if_pos (by decide+kernel),if_pos (by decide+kernel),if_pos (by decide+kernel),if_pos (by decide+kernel)];congr 1
theorem fits12 (hi:InF f):∃b,law12_fits f base p q=some b∧(b=true→Ev f∧base.length≤1000∧p.length≤5000∧q.length≤5000):=by
 unfold law12_fits;rw[ref07_Ok_eq hi.len hi.ents,ocase_some'];cases ho:okF f
 ·exact⟨false,rfl,by simp⟩
 rw[bcase_true];obtain⟨b,hb1,hb2⟩:=ref10_Short_some (f:=f) base p hi.len;obtain⟨c,hc1,hc2⟩:=ref10_Short_some (f:=f) base q hi.len;rw[hb1,ocase_some',hc1,ocase_some'];cases b
 ·exact⟨false,rfl,by simp⟩
 ·exact⟨c,rfl,fun hc=>⟨ev_of ho,(hb2 rfl).1,(hb2 rfl).2,(hc2 hc).2⟩⟩
theorem DropLinks_true (hi:InF f):law12_DropLinks f base p q=some true:=by
 unfold law12_DropLinks;rw[awake12];simp only[ocase_some',Bool.not_true,bcase_false];obtain⟨b,hb,hb2⟩:=fits12 (base:=base) (p:=p) (q:=q) hi;rw[hb,ocase_some'];cases b
 ·rfl
 obtain⟨e,h1,h2,h3⟩:=hb2 rfl;have z:=e.ew.ez;rw[Bool.not_true,bcase_false,drop_Link_eq z (by omega) (by omega) (by omega),ocase_some',ref12_Link_eq z (by omega) (by omega) (by omega),ocase_some',hlink_eq e.tr (e.bd.mono (by omega)),((link_bd e.tr e.bd (by omega)).2.inf (by omega)).same,ocase_some'];simp
theorem DropUnlinks_true (hi:InF f):law12_DropUnlinks f base p=some true:=by
 unfold law12_DropUnlinks;rw[awake12];simp only[ocase_some',Bool.not_true,bcase_false];obtain⟨b,hb,hb2⟩:=fits12 (base:=base) (p:=p) (q:=p) hi;rw[hb,ocase_some'];cases b
 ·rfl
 obtain⟨e,h1,h2,h3⟩:=hb2 rfl;have z:=e.ew.ez;rw[Bool.not_true,bcase_false,drop_Unlink_eq z (by omega) (by omega),ocase_some',ref12_Unlink_eq z (by omega) (by omega),ocase_some',drop_Rmdir_eq z (by omega) (by omega),ocase_some',ref12_Rmdir_eq z (by omega) (by omega),ocase_some',unlink_eq e.tr (e.bd.mono (by omega)),rmdir_eq e.tr (e.bd.mono (by omega)),((unlink_bd e.tr e.bd (by omega)).2.inf (by omega)).same,ocase_some',((rmdir_bd e.tr e.bd (by omega)).2.inf (by omega)).same,ocase_some'];simp
theorem DropKeeps_true (hi:InF f):law12_DropKeeps f base p q=some true:=by
 unfold law12_DropKeeps;rw[awake12];simp only[ocase_some',Bool.not_true,bcase_false];obtain⟨b,hb,hb2⟩:=fits12 (base:=base) (p:=p) (q:=q) hi;rw[hb,ocase_some'];cases b
 ·rfl
 obtain⟨e,h1,h2,h3⟩:=hb2 rfl;have z:=e.ew.ez;have hl:=e.len;rw[Bool.not_true,bcase_false,lcase_le (by unfold LIM;simp;omega),List.nil_append,fs_eta,drop_Link_eq z (by omega) (by omega) (by omega),ocase_some',drop_Unlink_eq z (by omega) (by omega),ocase_some',drop_Rmdir_eq z (by omega) (by omega),ocase_some',z.inf.same,ocase_some',ref12_Link_eq z (by omega) (by omega) (by omega),ocase_some',ref12_Unlink_eq z (by omega) (by omega),ocase_some',hlink_eq e.tr (e.bd.mono (by omega)),unlink_eq e.tr (e.bd.mono (by omega)),((link_bd e.tr e.bd (by omega)).2.inf (by omega)).same,((unlink_bd e.tr e.bd (by omega)).2.inf (by omega)).same];simp
theorem DropNames_true (hi:InF f):law12_DropNames f base p i=some true:=by
 unfold law12_DropNames;rw[awake12];simp only[ocase_some',Bool.not_true,bcase_false];obtain⟨b,hb,hb2⟩:=fits12 (base:=base) (p:=p) (q:=p) hi;rw[hb,ocase_some'];cases b
 ·rfl
 obtain⟨e,h1,h2,h3⟩:=hb2 rfl;have z:=e.ew.ez;rw[Bool.not_true,bcase_false,ref10_Seek_eq z.ws (by omega) (by omega),ocase_some',bneI,beqS];by_cases h0:(seekP f base p false).2=0
 ·have hsk:seekP f base p false=((seekP f base p false).1,0):=by rw[←h0]
  have hg:=(seekP_res z.ws base p false).1 h0;have hnl:=seekP_nl f base p false;rw[bc_f (by simp [h0])];have hth:=seekP_there z.ws h0;generalize (seekP f base p false).1=s at*;by_cases hn:s.name= []
  ·rw[bc_t (by simp [hn])]
  rw[bc_f (by simp [hn]),z.ws.wf.rget,ocase_some'];simp only;cases hf:findI s.ino f.inodes with
  |some x=>
   rw[getI_some hf,bc_t (show(some x).isSome=true from rfl)];by_cases hx0:x.entries= []
   ·obtain⟨e',t,t2⟩:=taken e.tr e.bd (by omega) hg hn hf hx0
    rw[bc_f (by simp [hx0]),drop_Unname_eq z,ocase_some',ref12_Unname_eq z,ocase_some',t2,(t.bd.inf (by omega)).same,ocase_some',decide_eq_true rfl]
   ·have:0<x.entries.length:=List.length_pos_iff.2 hx0
    rw[bc_t (by simp;omega)]
  |none=>
   have hs0:s.ino=0:=by
    rcases hth with h|h
    ·exact h
    ·rw[hf] at h;cases h
   rw[bc_f (show(none:Option Inode).isSome=false from rfl),z.ws.wf.rget,ocase_some'];simp only;cases hy:findI i f.inodes with
   |none=>rfl
   |some y=>
    rw[getI_some hy,bc_f (show(!(some y).isSome)=false from rfl),beqI,ref03_May_eq (by omega),ocase_some'];by_cases hk:y.kind=2
    ·rw[bc_t (by simp [hk])]
    rw[bc_f (by simp [hk])];cases hm:mayN s.name
    ·rfl
    obtain⟨hfr,hds⟩:=gd_free e.tr e.wf hg hs0 hm;obtain⟨q1,q2,q3⟩:=nameP_eq (s:=s) hfr hy hk;have hyi:=(findI_some hy).2;have hyy:findI y.ino f.inodes=some y:=by rw[hyi];exact hy
    have hmore:More f (addF f (getI s.dir f.inodes) s.name y) (getI s.dir f.inodes) s.name (y.withL (y.links+1)):=addF_more hyy q3;have ht2:Tree (addF f (getI s.dir f.inodes) s.name y):=addName e.tr hfr hyy hk;have hb2:Bd 41 (addF f (getI s.dir f.inodes) s.name y):=e.bd.addF e.tr hfr hyy;have e2:=ew_of ht2 hb2 (by omega);rw[Bool.not_true,bcase_false,drop_Name_eq z,ocase_some',ref12_Name_eq z,ocase_some'];have q4:rnameP f ⟨s.dir,s.name,i⟩ i=rnameP f s i:=rfl;rw[q4,q1,q2,(hb2.inf (by omega)).same,ocase_some',bc_t (by simp),drop_Unname_eq e2.ez,ocase_some'];have hlp:=links_pos e.tr hyy (not_root e.tr hyy hk);have hdd:findI s.dir (addF f (getI s.dir f.inodes) s.name y).inodes=some ((getI s.dir f.inodes).addE s.name y.ino):=by
     rw[hmore.find,if_neg (by rw[←hds];exact q3),if_pos hds];rfl
    have hdd':=getI_some hdd;have hen:Ent (addF f (getI s.dir f.inodes) s.name y) ((getI s.dir f.inodes).addE s.name y.ino) s.name (y.withL (y.links+1)) ⟨s.name,y.ino⟩:=by
     refine⟨?_, ?_,rfl, ?_⟩
     ·show findI (getI s.dir f.inodes).ino _=_
      rw[hds];exact hdd
     ·show findE s.name (setE ⟨s.name,y.ino⟩ _)=_
      rw[findE_set,if_pos rfl]
     ·show findI y.ino _=_
      rw[hmore.find,if_pos (show(y.withL (y.links+1)).ino=y.ino from rfl)]
    rw[←hdd'] at hen;obtain⟨q5,_⟩:=unnP_eq (s:=⟨s.dir,s.name,i⟩) hen ht2 hyi;rw[q5];show ocase (ref05_Same (remF _ (getI s.dir _) s.name _) f) _=_;rw[hdd',name_back e.tr hfr hyy q3 (by omega),z.inf.same,ocase_some',decide_eq_true rfl]
 ·rw[bc_t (by simp [h0])]
theorem remF_len (ht:Tree f) (h:Ent f d nm x e) (hx0:x.entries= []):(remF f d nm x).inodes.length≤f.inodes.length:=by
 have:=(remF_sum ht h hx0).1;split at this<;>omega
theorem Taken.lists {n:Nat} (t:Taken f n s x e g) (ht:Tree f):Ins1 (listP g) (listP f):=
 t.more.list t.tr t.free t.xe (by rw[t.eq];exact remF_len ht t.ent t.xe)
theorem Linked.lists {n:Nat} (t:Linked f n base p q s x g) (ht:Tree f):Ins1 (listP f) (listP g):=
 t.more.list ht t.free (show x.entries= [] from ht.no_ents t.hx t.hk) (by rw[t.len];exact Nat.le_refl _)
theorem DropSound_true {n:Int} (hi:InF f) (h0:0≤n) (h1:n<256):law12_DropSound f base p q n=some true:=by
 unfold law12_DropSound;rw[awake12];simp only[ocase_some',Bool.not_true,bcase_false];obtain⟨b,hb,hb2⟩:=fits12 (base:=base) (p:=p) (q:=q) hi;rw[hb,ocase_some'];cases b
 ·rfl
 obtain⟨e,h1,h2,h3⟩:=hb2 rfl;have z:=e.ew.ez;have hlist:=listP_len e.tr e.lil;rw[Bool.not_true,bcase_false,bc_f (by decide)];cases hq:(Int.tmod n (3:Int)==(0:Int))
 ·rw[bcase_false,bc_f (by decide)]
  cases hq2:(Int.tmod n (3:Int)==(1:Int))
  ·rw[bcase_false,drop_Rmdir_eq z (by omega) (by omega),ocase_some',bneI]
   by_cases h0:(rmdirG unnP f base p).2=0
   ·obtain⟨s,x,e',_,t,_⟩:=rmdir_made e.tr e.bd (by omega) h0
    have eg:=ew_of t.tr t.bd (by omega);have hll:=(t.lists e.tr).len;rw[bc_f (by simp [h0]),eg.check,ocase_some',bc_t (by decide),ref08_List_eq eg.tr eg.lil,ocase_some',ref08_List_eq e.tr e.lil,ocase_some',hll,wrap_id (by omega) (by omega)];congr 1;rw[beqI];exact decide_eq_true (by omega)
   ·rw[bc_t (by simp [h0]),rmdirG_err h0,z.inf.same];simp
  ·rw[bcase_true,drop_Unlink_eq z (by omega) (by omega),ocase_some',bneI]
   by_cases h0:(unlinkG unnP f base p).2=0
   ·obtain⟨s,x,e',_,_,t,_⟩:=unlink_made e.tr e.bd (by omega) h0
    have eg:=ew_of t.tr t.bd (by omega);have hll:=(t.lists e.tr).len;rw[bc_f (by simp [h0]),eg.check,ocase_some',bc_t (by decide),ref08_List_eq eg.tr eg.lil,ocase_some',ref08_List_eq e.tr e.lil,ocase_some',hll,wrap_id (by omega) (by omega)];congr 1;rw[beqI];exact decide_eq_true (by omega)
   ·rw[bc_t (by simp [h0]),unlinkG_err h0,z.inf.same];simp
 ·rw[bcase_true,drop_Link_eq z (by omega) (by omega) (by omega),ocase_some',bneI]
  by_cases h0:(hlinkG nameP f base p q).2=0
  ·obtain⟨s,x,t,_⟩:=link_made e.tr e.bd (by omega) h0
   have eg:=ew_of t.tr t.bd (by omega);have hll:=(t.lists e.tr).len;rw[bc_f (by simp [h0]),eg.check,ocase_some',bc_t (by decide),ref08_List_eq eg.tr eg.lil,ocase_some',ref08_List_eq e.tr e.lil,ocase_some',hll,wrap_succ (by omega)];simp
  ·rw[bc_t (by simp [h0]),hlinkG_err h0,z.inf.same];simp
theorem DropBack_true (hi:InF f):law12_DropBack f base p q=some true:=by
 unfold law12_DropBack;rw[awake12];simp only[ocase_some',Bool.not_true,bcase_false];obtain⟨b,hb,hb2⟩:=fits12 (base:=base) (p:=p) (q:=q) hi;rw[hb,ocase_some'];cases b
 ·rfl
 obtain⟨e,h1,h2,h3⟩:=hb2 rfl;have z:=e.ew.ez;rw[Bool.not_true,bcase_false,drop_Link_eq z (by omega) (by omega) (by omega),ocase_some',bneI];by_cases h0:(hlinkG nameP f base p q).2=0
 ·obtain⟨s,x,t,_⟩:=link_made e.tr e.bd (by omega) h0
  have eg:=ew_of t.tr t.bd (by omega);rw[bc_f (by simp [h0])];have geq:=t.eq;generalize (hlinkG nameP f base p q).1=g at*;have zg:=eg.ez;have hex:=t.more.ext e.ws eg.ws t.free;have hsp:seekP f base p false=((seekP f base p false).1,0):=by rw[←t.sp]
  have k1:=(hex.seek (base:=base) (p:=q) (fun h=>by rw[t.slash] at h;cases h) t.sq).1;have k2:=(hex.seek (base:=base) (p:=p) (fun h=>absurd (seekP_slash t.sp h t.hx) t.hk) hsp);have hu:updS (getI s.dir f.inodes).ino s.name (x.withL (x.links+1)).ino s=⟨s.dir,s.name,x.ino⟩:=by
   unfold updS;rw[if_pos ⟨t.ino.symm,rfl⟩,t.ino];rfl
  rw[hu] at k1;have hxi:=(findI_some t.hx).2;have hu2:updS (getI s.dir f.inodes).ino s.name (x.withL (x.links+1)).ino (seekP f base p false).1=(seekP f base p false).1:=by
   refine updS_ne (k2.2.ne fun h=> ?_);have:=t.hx;rw[h,e.wf.zero] at this;cases this
  rw[hu2] at k2;rw[ref10_Seek_eq zg.ws (by omega) (by omega),ocase_some',ref10_Seek_eq zg.ws (by omega) (by omega),ocase_some',k1,k2.1,bc_f (by simp),drop_Unlink_eq zg (by omega) (by omega),ocase_some'];have hgx:findI x.ino g.inodes=some (x.withL (x.links+1)):=by rw[t.more.find,if_pos (show(x.withL (x.links+1)).ino=x.ino from rfl)]
  have hfo:foundP g base q=(x.withL (x.links+1),0):=by
   unfold foundP;rw[k1,if_pos rfl,hgx]
  have hdd:findI s.dir g.inodes=some ((getI s.dir f.inodes).addE s.name x.ino):=by
   rw[t.more.find,if_neg (by rw[←t.ino];exact t.ne),if_pos t.ino];rfl
  have hdd':=getI_some hdd;have hen:Ent g ((getI s.dir f.inodes).addE s.name x.ino) s.name (x.withL (x.links+1)) ⟨s.name,x.ino⟩:=by
   refine⟨?_, ?_,rfl,hgx⟩
   ·show findI (getI s.dir f.inodes).ino _=_
    rw[t.ino];exact hdd
   ·show findE s.name (setE ⟨s.name,x.ino⟩ _)=_
    rw[findE_set,if_pos rfl]
  rw[←hdd'] at hen;have q5:=(unnP_eq (s:=⟨s.dir,s.name,x.ino⟩) hen eg.tr rfl).1;have hlp:=links_pos e.tr t.hxx (not_root e.tr t.hxx t.hk);have hun:unlinkG unnP g base q=(f,0):=by
   unfold unlinkG;rw[hfo,if_pos rfl,if_neg (show(x.withL (x.links+1)).kind≠2 from t.hk),k1,q5];show(remF g (getI s.dir g.inodes) s.name (x.withL (x.links+1)),(0:Int))=_;rw[hdd',geq,name_back e.tr t.free t.hxx t.ne (by omega)]
  rw[hun,bc_t (by simp),z.inf.same,ocase_some',decide_eq_true rfl,bcase_true,bc_f (by simp),←hxi];simp
 ·rw[bc_t (by simp [h0])]
end
end Go.Eng
namespace Go.Eng
open Go
theorem inF_in {a b c:Int} {l:List Inode} (h:HL.ok 1048576 [.int .i64, .int .i64, .int .i64, .sl .inode] (a,b,c,l,())):InF ⟨a,b,c,l⟩:=by
 obtain⟨_,_,_,⟨h1,h2⟩,_⟩:=h;have h3:l.length≤1048576:=h1;exact⟨by show l.length≤1073741824;omega,fun x hx=>by have:x.ok 1048576:=h2 x hx;have:=this.2.2.2.2.2.1;omega⟩
theorem fs_in {v:HL.V [.int .i64, .int .i64, .int .i64, .sl .inode]} (h:HL.ok 1048576 [.int .i64, .int .i64, .int .i64, .sl .inode] v):InF ⟨v.1,v.2.1,v.2.2.1,v.2.2.2.1⟩:=by
 obtain⟨a,b,c,l,u⟩:=v;exact inF_in h
end Go.Eng
