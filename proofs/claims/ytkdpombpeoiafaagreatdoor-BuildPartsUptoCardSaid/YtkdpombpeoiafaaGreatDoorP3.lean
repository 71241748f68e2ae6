/- A part of the proofs of the laws of this seat: the engine that reads the program's code, plain functions, or facts of the program's functions. Conditions: none. -/
import Derived.Test.YtkdpombpeoiafaaGreatDoorP2
import Derived.Test.YtkdpombpeoiafaaGreatDoorP1
import Derived.Test.YtkdpombpeoiafaaGreatDoorE4
set_option linter.unusedSectionVars false
set_option linter.unusedVariables false
set_option linter.unusedSimpArgs false
set_option linter.unnecessarySimpa false
set_option linter.unusedSimpArgs false
set_option linter.unusedVariables false
set_option linter.unusedSectionVars false
namespace Go.Eng
open Go
theorem Cz {α:Type} (a:α) (l:List α):((List.length (a::l):Int)==(0:Int))=false:=by
 rw[beq_eq_false_iff_ne];simp only[List.length_cons];omega
theorem Lb {α:Type} (a:α) (l:List α):decide ((List.length (a::l):Int)>(0:Int))=true:=by
 simp only[List.length_cons,decide_eq_true_eq];omega
theorem AM {R:Type} (a b r:List Str) (hr:r.length=a.length+b.length) (hl:a.length+b.length≤1000000) (k2:Nat→List Str→Option R):bY 0 [a,b] ((List.length [a,b]:Nat):Int) k2 bo 0 (0:Int) r=k2 (a.length+b.length) (a++b):=by
 obtain⟨m,hm⟩:=zY;rw[hm];have w1:IntKind.i64.wrap ((0:Int)+1)=1:=by rw[bC (by omega) (by omega)];rfl
 have w2:IntKind.i64.wrap ((1:Int)+1)=2:=by rw[bC (by omega) (by omega)];rfl
 simp only[bY];have g0:([a,b]:List (List Str))[Int.toNat (0:Int)]? =some a:=rfl;have g1:([a,b]:List (List Str))[Int.toNat (1:Int)]? =some b:=rfl;rw[aE (by simp),aE (by decide),g0,af,aE (by simp;omega),w1,aE (by simp),aE (by decide),g1,af,w2];have e1:(r.take (0+0)++(a++r.drop (0+0+a.length)))=a++r.drop a.length:=by simp
 rw[e1];have hl1:(a++r.drop a.length).length=a.length+b.length:=by simp;omega
 rw[aE (by rw[hl1];simp),aR (by simp)];congr 1
 ·omega
 ·have e2:(a++r.drop a.length).take (0+(0+a.length))=a:=by simp
  have e3:(a++r.drop a.length).drop (0+(0+a.length)+b.length)= [] :=by rw[List.drop_eq_nil_of_le];rw[hl1];omega
  rw[e2,e3];simp
theorem Er (a b:List Str) (hl:a.length+b.length≤1000000):bg [a,b]=some (a++b):=by
 unfold bg;have w1:IntKind.i64.wrap ((0:Int)+1)=1:=by rw[bC (by omega) (by omega)];rfl
 have w2:IntKind.i64.wrap ((1:Int)+1)=2:=by rw[bC (by omega) (by omega)];rfl
 have g0:([a,b]:List (List Str))[Int.toNat (0:Int)]? =some a:=rfl;have g1:([a,b]:List (List Str))[Int.toNat (1:Int)]? =some b:=rfl;have key:∀(k0:Int→Option (List Str)),cL [a,b] (List.length [a,b]:Int) k0 bo (0:Int) (0:Int)=k0 ((a.length+b.length:Nat):Int):=by
  intro k0;obtain⟨m,hm⟩:=zY;rw[hm];simp only[cL];have s1:IntKind.i64.wrap ((0:Int)+(List.length a:Int))=(a.length:Int):=by rw[bC (by omega) (by omega)];omega
  have s2:IntKind.i64.wrap ((List.length a:Int)+(List.length b:Int))=((a.length+b.length:Nat):Int):=by rw[bC (by omega) (by omega)];omega
  rw[aE (by simp),aE (by decide),g0,af,s1,aR (by simp),w1,aE (by simp),aE (by decide),g1,af,s2,aR (by simp;omega),w2,aR (by simp)]
 rw[key];have s0:IntKind.i64.wrap ((0:Int) - (List.length ([] :List Str):Int))=0:=by rw[bC (by simp) (by simp)];rfl
 rw[s0];have s1:IntKind.i64.wrap (((a.length+b.length:Nat):Int) - 0)=((a.length+b.length:Nat):Int):=by rw[bC (by omega) (by omega)];omega
 rw[s1,aR (by simp;omega)];have fin:∀(r:List Str),r.length=a.length+b.length→bY 0 [a,b] (List.length [a,b]:Int) (fun z22 z23=>ae (Nat.ble (0+z22) z23.length) (some ((z23.drop 0).take z22)) (none)) bo 0 (0:Int) r=some (a++b):=by
  intro r hr;rw[AM a b r hr hl,aE (by simp)];rw[List.drop_zero,List.take_of_length_le (by simp)]
 by_cases h0:a.length+b.length=0
 ·rw[aR (by simp;omega)]
  exact fin [] (by simp;omega)
 ·rw[aE (by simp;omega),aE (by simp;omega),bK (by unfold LIM;simp;omega),aE (by simp;omega)]
  exact fin _ (by simp;omega)
structure WS (f:Fs):Prop where
 wf:WF f
 par:∀x∈f.aa,x.kind=2→∃y,al x.parent f.aa=some y∧y.kind=2
 sym:∀x∈f.aa,x.kind=3→x.data.length≤4095
 yR:∃r,al 1 f.aa=some r∧r.kind=2
theorem GD {x:ah} (h:eK x=true) (hk:x.kind=3):x.data.length≤4095∧1≤x.data.length:=by
 rw[Fx hk] at h;simp only[Bool.and_eq_true,decide_eq_true_eq] at h;exact⟨h.2.2.1.2,h.2.2.1.1⟩
theorem Tree.ws {f:Fs} (h:Tree f) (hw:WF f):WS f where
 wf:=hw
 par:=fun x hx hk=>by
  obtain⟨r,hr,hk',hp⟩:=h.root;by_cases h1:x.ino=1
  ·have:=Bk h.sort hx h1
   rw[hr] at this;cases this;exact⟨_,by rw[hp];exact hr,hk'⟩
  ·obtain⟨d,hd,e,he,hn⟩:=(h.led x hx).named h1
   have:=h.par x hx hk d hd e he hn;exact⟨d,by rw[this];exact dN h.sort hd,vL (h.kind d hd) he⟩
 sym:=fun x hx hk=>(GD (h.kind x hx) hk).1
 yR:=by obtain⟨r,hr,hk,_⟩:=h.root;exact⟨r,hr,hk⟩
def m7 (l:List ah) (dir:Bool) (s:aj):aj×Int:=match al s.ino l with
 |some x=>if dir=true∧x.kind≠2 then (eL,3) else (s,0)
 |none=>(s,0)
def cA (l:List ah) (fol:Bool) (lnk:Bool→ah→ah→List Str→aj×Int) (dir:Bool):List Str→aj→aj×Int
 | [],s=>m7 l dir s
 |n::rest,s=>match al s.ino l with
  |none=>(eL,1)
  |some d=>if d.kind=2 then (if n=[46] then cA l fol lnk dir rest ⟨0, [],d.ino⟩ else if n=[46,46] then cA l fol lnk dir rest ⟨0, [],d.parent⟩
   else if (aB (b9 n d.entries) l).kind=3∧(rest≠ [] ∨fol=true∨dir=true) then lnk dir (aB (b9 n d.entries) l) d rest
   else cA l fol lnk dir rest ⟨d.ino,n,b9 n d.entries⟩) else (eL,3)
def onK (l:List ah) (fol:Bool):Nat→Bool→List Str→aj→aj×Int
 |0=>cA l fol fun _ _ _ _=>(eL,6)
 |k+1=>cA l fol fun dir x d rest=>if jg x.data=true then (eL,7) else onK l fol k (dir||((bx x.data).bM&&rest.isEmpty)) ((bx x.data).names++rest) ⟨0, [],if (bx x.data).abs=true then 1 else d.ino⟩
def gd (f:Fs) (base:Str):Int×Int:=if (kC f base).2=0 then (if (kC f base).1.kind=2 then ((kC f base).1.ino,0) else (0,3)) else (0,(kC f base).2)
def aG (f:Fs) (base p:Str) (fol:Bool):aj×Int:=
 if p= [] then (eL,1) else if jg p=true then (eL,7) else
 if (bx p).abs=true then onK f.aa fol 40 (bx p).bM (bx p).names dG else
 if (gd f base).2=0 then onK f.aa fol 40 (bx p).bM (bx p).names ⟨0, [],(gd f base).1⟩ else (eL,(gd f base).2)
def Bo (l:List ah) (fol:Bool):Nat→Bool→ah→ah→List Str→aj×Int
 |0=>fun _ _ _ _=>(eL,6)
 |k+1=>fun dir x d rest=>if jg x.data=true then (eL,7) else onK l fol k (dir||((bx x.data).bM&&rest.isEmpty)) ((bx x.data).names++rest) ⟨0, [],if (bx x.data).abs=true then 1 else d.ino⟩
theorem xP (l:List ah) (fol:Bool) (k:Nat):onK l fol k=cA l fol (Bo l fol k):=by cases k<;>rfl
section
variable {l:List ah} {fol dir:Bool} {lnk:Bool→ah→ah→List Str→aj×Int} {n:Str} {rest:List Str} {s:aj} {d:ah}
theorem gJ (hf:al s.ino l=none):cA l fol lnk dir (n::rest) s=(eL,1):=by simp only[cA];rw[hf]
theorem iZ (hf:al s.ino l=some d) (hk:d.kind≠2):cA l fol lnk dir (n::rest) s=(eL,3):=by simp only[cA];rw[hf];simp only;rw[if_neg hk]
theorem iM (hf:al s.ino l=some d) (hk:d.kind=2) (hn:n=[46]):cA l fol lnk dir (n::rest) s=cA l fol lnk dir rest ⟨0, [],d.ino⟩:=by simp only[cA];rw[hf];simp only;rw[if_pos hk,if_pos hn]
theorem jS (hf:al s.ino l=some d) (hk:d.kind=2) (hn:n=[46,46]):cA l fol lnk dir (n::rest) s=cA l fol lnk dir rest ⟨0, [],d.parent⟩:=by simp only[cA];rw[hf];simp only;rw[if_pos hk,if_neg (by rw[hn];decide),if_pos hn]
theorem dL (hf:al s.ino l=some d) (hk:d.kind=2) (h1:n≠[46]) (h2:n≠[46,46]) (h3:(aB (b9 n d.entries) l).kind=3∧(rest≠ [] ∨fol=true∨dir=true)):cA l fol lnk dir (n::rest) s=lnk dir (aB (b9 n d.entries) l) d rest:=by simp only[cA];rw[hf];simp only;rw[if_pos hk,if_neg h1,if_neg h2,if_pos h3]
theorem fu (hf:al s.ino l=some d) (hk:d.kind=2) (h1:n≠[46]) (h2:n≠[46,46]) (h3:¬((aB (b9 n d.entries) l).kind=3∧(rest≠ [] ∨fol=true∨dir=true))):cA l fol lnk dir (n::rest) s=cA l fol lnk dir rest ⟨d.ino,n,b9 n d.entries⟩:=by simp only[cA];rw[hf];simp only;rw[if_pos hk,if_neg h1,if_neg h2,if_neg h3]
end
theorem gG (s:Str):(bx s).names=cf s:=rfl
theorem kP (s:Str):(cf s).length≤s.length+1:=by have:=iK s;omega
theorem po {f:Fs} {i:Int} (h:(aB i f.aa).kind=3):∃x,al i f.aa=some x∧aB i f.aa=x:=by
 cases hf:al i f.aa with
 |none=>rw[cW hf] at h;cases h
 |some x=>exact⟨x,rfl,ba hf⟩
def wt:Nat→Nat
 |0=>0
 |k+1=>wt k+210000
theorem Vj:wt 40=8400000:=rfl
theorem C6 {f:Fs} (h:WS f) (fol:Bool) (kr:Int→Option (aj×Int)) (k0:Bool→(List Str)→Int→Str→Int→Int→Option (aj×Int)) (hkr:∀z,kr z=some (eL,z)) (hk0:∀dir s z,k0 dir [] s.dir s.name s.ino z=some (m7 f.aa dir s)):
 ∀(n k:Nat) (dir:Bool) (todo:List Str) (s:aj),k≤40→todo.length≤5000*(41 - k)→wt k+todo.length<n→
  aJ f.ak f.aw f.next f.aa fol kr k0 n dir todo s.dir s.name s.ino ((40 - k:Nat):Int)=some (onK f.aa fol k dir todo s):=by
 intro n;induction n with
 |zero=>intro k dir todo s _ _ h;omega
 |succ n ih=>
  intro k dir todo s hk ht hn;simp only[aJ];rw[xP];cases todo with
  |nil=>rw[aR (by simp)];exact hk0 _ _ _
  |cons nm rest=>
   have hti:Int.toNat (0:Int)=0:=rfl;have ht1:Int.toNat (1:Int)=1:=rfl;simp only[List.length_cons] at ht hn;have ih':∀(s':aj),aJ f.ak f.aw f.next f.aa fol kr k0 n dir rest s'.dir s'.name s'.ino ((40 - k:Nat):Int)=some (cA f.aa fol (Bo f.aa fol k) dir rest s'):=fun s'=>by
    rw[ih k dir rest s' hk (by omega) (by omega),xP]
   rw[aE (Lb _ _),aE (by decide),hti,List.getElem?_cons_zero,af,ht1,aE (by simp;omega),List.drop_one,List.tail_cons];have hget:∀m,bz (⟨f.ak,f.aw,f.next,f.aa⟩:Fs) m=some (aB m f.aa,(al m f.aa).isSome):=fun m=>h.wf.get m
   rw[hget,af];cases hf:al s.ino f.aa with
   |none=>rw[gJ hf,aE (by simp),hkr]
   |some d=>
    simp only[Option.isSome_some,Bool.not_true,ax];rw[ba hf,dp];by_cases hk2:d.kind=2
    case neg=>rw[iZ hf hk2,aE (by simp [hk2]),hkr]
    rw[aR (by simp [hk2])];by_cases hd1:nm=[46]
    ·rw[iM hf hk2 hd1,aE (by simp [hd1])];exact ih' ⟨0, [],d.ino⟩
    rw[aR (by simp [hd1])];by_cases hd2:nm=[46,46]
    ·rw[jS hf hk2 hd2,aE (by simp [hd2])];exact ih' ⟨0, [],d.parent⟩
    have hdm:=h.wf.found hf;rw[aR (by simp [hd2]),nU (h.wf.CI hdm.1) (h.wf.sm.dg d hdm.1),af,hget,af];simp only;rw[eX];by_cases hk3:(aB (b9 nm d.entries) f.aa).kind=3
    ·obtain⟨x,hx,hgx⟩:=po hk3
     rw[hgx] at hk3;have hxm:=h.wf.found hx;have hxl:=h.sym x hxm.1 hk3;rw[hgx,aE (by simp [hk3])];have hnl:(cf x.data).length≤4096:=by have:=kP x.data;omega
     have blk:ae (decide ((IntKind.i64.wrap (((40 - k:Nat):Int)+(1:Int)))>(40:Int))) ((kr (6:Int))) (ai (gK x.data) fun y26=>
 ae y26 ((kr (7:Int))) (ai (eo x.data) fun y27=>
 ae dir (ai (bg [y27.names,rest]) fun y28=>
 ae y27.abs ((aJ f.ak f.aw f.next f.aa fol kr k0 n true y28 0 [] (1:Int) (IntKind.i64.wrap (((40 - k:Nat):Int)+(1:Int))))) ((aJ f.ak f.aw f.next f.aa fol kr k0 n true y28 0 [] d.ino (IntKind.i64.wrap (((40 - k:Nat):Int)+(1:Int)))))) (
 ae y27.bM (ai (bg [y27.names,rest]) fun y29=>
 ae y27.abs ((aJ f.ak f.aw f.next f.aa fol kr k0 n ((List.length rest:Int)==(0:Int)) y29 0 [] (1:Int) (IntKind.i64.wrap (((40 - k:Nat):Int)+(1:Int))))) ((aJ f.ak f.aw f.next f.aa fol kr k0 n ((List.length rest:Int)==(0:Int)) y29 0 [] d.ino (IntKind.i64.wrap (((40 - k:Nat):Int)+(1:Int)))))) (ai (bg [y27.names,rest]) fun y30=>
 ae y27.abs ((aJ f.ak f.aw f.next f.aa fol kr k0 n false y30 0 [] (1:Int) (IntKind.i64.wrap (((40 - k:Nat):Int)+(1:Int))))) ((aJ f.ak f.aw f.next f.aa fol kr k0 n false y30 0 [] d.ino (IntKind.i64.wrap (((40 - k:Nat):Int)+(1:Int)))))))))=some (Bo f.aa fol k dir x d rest):=by
      cases k with
      |zero=>
       have e:IntKind.i64.wrap (((40 - 0:Nat):Int)+1)=41:=by rw[bC (by omega) (by omega)];rfl
       rw[e,aE (by decide),hkr];rfl
      |succ k=>
       have e:IntKind.i64.wrap (((40 - (k+1):Nat):Int)+1)=((40 - k:Nat):Int):=by rw[bC (by omega) (by omega)];omega
       rw[e,aR (by simp;omega),pI (by omega),af];simp only[Bo];cases hlong:jg x.data
       case true=>rw[aq,hkr,if_pos rfl]
       rw[ax,fR (by omega),af,if_neg (by simp)];have hcat:bg [(bx x.data).names,rest]=some ((bx x.data).names++rest):=Er _ _ (by rw[gG];omega);have go:∀(dir':Bool),ae (bx x.data).abs (aJ f.ak f.aw f.next f.aa fol kr k0 n dir' ((bx x.data).names++rest) 0 [] (1:Int) ((40 - k:Nat):Int)) (aJ f.ak f.aw f.next f.aa fol kr k0 n dir' ((bx x.data).names++rest) 0 [] d.ino ((40 - k:Nat):Int))=some (onK f.aa fol k dir' ((bx x.data).names++rest) ⟨0, [],if (bx x.data).abs=true then 1 else d.ino⟩):=by
        intro dir';have hlen:((bx x.data).names++rest).length≤rest.length+4096:=by rw[List.length_append,gG];omega
        have b1:((bx x.data).names++rest).length≤5000*(41 - k):=by clear ih ih';omega
        have b2:wt k+((bx x.data).names++rest).length<n:=by clear ih ih';simp only[wt] at hn;omega
        cases (bx x.data).abs
        ·exact ih k dir' _ ⟨0, [],d.ino⟩ (by omega) b1 b2
        ·exact ih k dir' _ ⟨0, [],1⟩ (by omega) b1 b2
       simp only[hcat,af,go];cases dir
       ·rw[ax]
        cases (bx x.data).bM
        ·simp
        ·rw[aq]
         congr 2;cases rest<;>simp<;>omega
       ·rw[aq,Bool.true_or]
     by_cases hr:rest= []
     ·subst hr
      rw[aR (by simp)];cases fol
      ·rw[ax]
       cases dir
       ·rw[ax,fu hf hk2 hd1 hd2 (by simp)]
        exact ih' ⟨d.ino,nm,b9 nm d.entries⟩
       ·rw[aq,dL hf hk2 hd1 hd2 ⟨by rw[hgx];exact hk3,Or.inr (Or.inr rfl)⟩,hgx]
        exact blk
      ·rw[aq,dL hf hk2 hd1 hd2 ⟨by rw[hgx];exact hk3,Or.inr (Or.inl rfl)⟩,hgx]
       exact blk
     ·rw[aE (by cases rest with|nil=>exact absurd rfl hr|cons a b=>exact Lb _ _),dL hf hk2 hd1 hd2 ⟨by rw[hgx];exact hk3,Or.inl hr⟩,hgx]
      exact blk
    ·rw[aR (by simp [hk3]),fu hf hk2 hd1 hd2 (fun h9=>hk3 h9.1)]
     exact ih' ⟨d.ino,nm,b9 nm d.entries⟩
theorem xO {f:Fs} (h:WF f) {base:Str} (hb:base.length≤8388608):ou f base=some (gd f base):=by
 unfold ou gd;rw[xA h hb,af,dp,dp];by_cases h1:(kC f base).2=0
 ·rw[aR (by simp [h1]),if_pos h1]
  by_cases h2:(kC f base).1.kind=2
  ·rw[aR (by simp [h2]),if_pos h2]
  ·rw[aE (by simp [h2]),if_neg h2]
 ·rw[aE (by simp [h1]),if_neg h1]
theorem vi {f:Fs} (h:WF f) {base:Str} (hb:base.length≤8388608):mq f base=some (gd f base):=by
 unfold mq gd;rw[xg h hb,af,dp,dp];by_cases h1:(kC f base).2=0
 ·rw[aR (by simp [h1]),if_pos h1]
  by_cases h2:(kC f base).1.kind=2
  ·rw[aR (by simp [h2]),if_pos h2]
  ·rw[aE (by simp [h2]),if_neg h2]
 ·rw[aE (by simp [h1]),if_neg h1]
theorem wb {p:Str} (h:jg p=false):p.length≤4095:=by
 unfold jg at h;simp only[Bool.or_eq_false_iff,decide_eq_false_iff_not] at h;omega
theorem eA {f:Fs} (h:WS f) {base p:Str} {fol:Bool} (hb:base.length≤8388608) (hp:p.length≤1073741823):eS f base p fol=some (aG f base p fol):=by
 unfold eS aG;by_cases h0:p= []
 ·rw[aE (by simp [h0]),if_pos h0];rfl
 rw[aR (by simp [h0]),if_neg h0,pI hp,af];cases hl:jg p
 case true=>rw[aq,if_pos rfl];rfl
 have hlen:=wb hl;rw[ax,if_neg (by simp),fR hp,af];have hjudge:∀(z53:Bool) (s:aj),(ai (bz f s.ino) fun y59=>ae y59.2 (ae z53 (ae (y59.1.kind !=(2:Int)) (some ((⟨0, [],0⟩:aj),(3:Int))) (some ((⟨s.dir,s.name,s.ino⟩:aj),(0:Int)))) (some ((⟨s.dir,s.name,s.ino⟩:aj),(0:Int)))) (some ((⟨s.dir,s.name,s.ino⟩:aj),(0:Int))))=some (m7 f.aa z53 s):=by
  intro z s;rw[h.wf.get,af];unfold m7;cases hf:al s.ino f.aa with
  |none=>rfl
  |some x=>
   rw[ba hf,dp];simp only[Option.isSome_some,aq];cases z
   ·simp
   ·by_cases hk:x.kind=2
    ·simp [hk]
    ·simp [hk];rfl
 have hnm:(bx p).names.length≤4096:=by rw[gG];have:=kP p;omega
 have go:∀(s:aj),aJ f.ak f.aw f.next f.aa fol (fun z52=>some ((⟨((⟨0, [],0⟩:aj).dir),((⟨0, [],0⟩:aj).name),((⟨0, [],0⟩:aj).ino)⟩:aj),z52)) (fun z53 z54 z55 z56 z57 z58=>ai (bz f z57) fun y59=>
  ae y59.2 (
  ae z53 (
  ae (y59.1.kind !=(2:Int)) (some ((⟨0, [],0⟩:aj),(3:Int))) (some ((⟨z55,z56,z57⟩:aj),(0:Int)))) (some ((⟨z55,z56,z57⟩:aj),(0:Int)))) (some ((⟨z55,z56,z57⟩:aj),(0:Int)))) bo (bx p).bM (bx p).names s.dir s.name s.ino (0:Int)=some (onK f.aa fol 40 (bx p).bM (bx p).names s):=fun s=>
  C6 h fol _ _ (fun z=>rfl) (fun dir s z=>hjudge dir s) bo 40 (bx p).bM (bx p).names s (Nat.le_refl _) (by omega) (hY (by rw[Vj];omega))
 cases (bx p).abs
 ·simp only[Bool.not_false,aq,Bool.false_eq_true,if_false]
  rw[xO h.wf hb,af,dp];by_cases h2:(gd f base).2=0
  ·rw[aR (by simp [h2]),if_pos h2]
   exact go ⟨0, [],(gd f base).1⟩
  ·rw[aE (by simp [h2]),aE (by simp [h2]),if_neg h2];rfl
 ·simp only[Bool.not_true,ax,if_true]
  exact go dG
theorem ah7 {f:Fs} (h:WS f) (fol:Bool):∀(n k:Nat) (dir:Bool) (todo:List Str) (s:aj),(s.ino=0∨(al s.ino f.aa).isSome=true)→k≤40→todo.length≤5000*(41 - k)→wt k+todo.length<n→
 bl n f s todo fol dir ((40 - k:Nat):Int)=some (onK f.aa fol k dir todo s):=by
 intro n;induction n with
 |zero=>intro k dir todo s _ _ _ h;omega
 |succ n ih=>
  intro k dir todo s hs hk ht hn;simp only[bl];rw[xP];cases todo with
  |nil=>
   rw[aE (by simp),h.wf.m8,af];show _=some (m7 f.aa dir s);unfold m7;cases hf:al s.ino f.aa with
   |none=>rfl
   |some x=>
    rw[ba hf,dp];simp only[Option.isSome_some,aq];cases dir
    ·simp
    ·by_cases hk:x.kind=2
     ·simp [hk]
     ·simp [hk];rfl
  |cons nm rest=>
   have hti:Int.toNat (0:Int)=0:=rfl;have ht1:Int.toNat (1:Int)=1:=rfl;simp only[List.length_cons] at ht hn;have ih':∀(s':aj),(s'.ino=0∨(al s'.ino f.aa).isSome=true)→(ai (bl n f s' rest fol dir ((40 - k:Nat):Int)) fun y4=>some (y4.1,y4.2))=some (cA f.aa fol (Bo f.aa fol k) dir rest s'):=fun s' hs'=>by
    rw[ih k dir rest s' hs' hk (by omega) (by omega),xP];rfl
   rw[aR (Cz _ _),eX];by_cases h0:s.ino=0
   ·rw[aE (by simp [h0]),gJ (by rw[h0];exact h.wf.zero)];rfl
   rw[aR (by simp [h0]),h.wf.m8,af];obtain⟨d,hf⟩:=Option.isSome_iff_exists.1 (hs.resolve_left h0);rw[ba hf,dp];by_cases hk2:d.kind=2
   case neg=>rw[iZ hf hk2,aE (by simp [hk2])];rfl
   rw[aR (by simp [hk2]),aE (by decide),hti,List.getElem?_cons_zero,af,ht1,aE (by simp;omega),List.drop_one,List.tail_cons];have hdm:=h.wf.found hf;by_cases hd1:nm=[46]
   ·rw[iM hf hk2 hd1,aE (by simp [hd1])]
    exact ih' ⟨0, [],d.ino⟩ (Or.inr (by rw[hdm.2,hf];rfl))
   rw[aR (by simp [hd1])];by_cases hd2:nm=[46,46]
   ·rw[jS hf hk2 hd2,aE (by simp [hd2])]
    exact ih' ⟨0, [],d.parent⟩ (Or.inr (by obtain⟨y,hy,_⟩:=h.par d hdm.1 hk2;rw[hy];rfl))
   rw[aR (by simp [hd2]),nJ (h.wf.sm.dg d hdm.1),af,h.wf.m8,af];simp only;have hon:=ih' ⟨d.ino,nm,b9 nm d.entries⟩ (gA h.wf hdm.1 nm);rw[dp];by_cases hk3:(aB (b9 nm d.entries) f.aa).kind=3
   ·obtain⟨x,hx,hgx⟩:=po hk3
    rw[hgx] at hk3;have hxm:=h.wf.found hx;have hxl:=h.sym x hxm.1 hk3;have hne:b9 nm d.entries≠0:=by intro e;rw[e,h.wf.zero] at hx;cases hx
    obtain⟨e,_,_,_,he4⟩:=wz hne;rw[he4,hgx,aR (by simp),aR (by simp [hk3])];have hnl:(cf x.data).length≤4096:=by have:=kP x.data;omega
    have blk:ae ((((40 - k:Nat):Int))==(40:Int)) (some ((⟨0, [],0⟩:aj),(6:Int))) (ai (fC x.data) fun y11=>
 ae y11 (some ((⟨0, [],0⟩:aj),(7:Int))) (ai (dD x.data) fun y12=>
 ae y12.abs (
 ae y12.bM (
 ae ((List.length rest:Int)==(0:Int)) (aQ (([] :List Str).length+y12.names.length) (aQ (y12.names.length+rest.length) (ai (bl n f (⟨0, [],(1:Int)⟩:aj) (y12.names++rest) fol true (IntKind.i64.wrap (((40 - k:Nat):Int)+(1:Int)))) fun y13=>some (y13.1,y13.2)))) (aQ (([] :List Str).length+y12.names.length) (aQ (y12.names.length+rest.length) (ai (bl n f (⟨0, [],(1:Int)⟩:aj) (y12.names++rest) fol dir (IntKind.i64.wrap (((40 - k:Nat):Int)+(1:Int)))) fun y14=>some (y14.1,y14.2))))) (aQ (([] :List Str).length+y12.names.length) (aQ (y12.names.length+rest.length) (ai (bl n f (⟨0, [],(1:Int)⟩:aj) (y12.names++rest) fol dir (IntKind.i64.wrap (((40 - k:Nat):Int)+(1:Int)))) fun y15=>some (y15.1,y15.2))))) (
 ae y12.bM (
 ae ((List.length rest:Int)==(0:Int)) (aQ (([] :List Str).length+y12.names.length) (aQ (y12.names.length+rest.length) (ai (bl n f (⟨0, [],d.ino⟩:aj) (y12.names++rest) fol true (IntKind.i64.wrap (((40 - k:Nat):Int)+(1:Int)))) fun y16=>some (y16.1,y16.2)))) (aQ (([] :List Str).length+y12.names.length) (aQ (y12.names.length+rest.length) (ai (bl n f (⟨0, [],d.ino⟩:aj) (y12.names++rest) fol dir (IntKind.i64.wrap (((40 - k:Nat):Int)+(1:Int)))) fun y17=>some (y17.1,y17.2))))) (aQ (([] :List Str).length+y12.names.length) (aQ (y12.names.length+rest.length) (ai (bl n f (⟨0, [],d.ino⟩:aj) (y12.names++rest) fol dir (IntKind.i64.wrap (((40 - k:Nat):Int)+(1:Int)))) fun y18=>some (y18.1,y18.2)))))))=some (Bo f.aa fol k dir x d rest):=by
     cases k with
     |zero=>rw[aE (by simp)];rfl
     |succ k=>
      have e:IntKind.i64.wrap (((40 - (k+1):Nat):Int)+1)=((40 - k:Nat):Int):=by rw[bC (by omega) (by omega)];omega
      rw[e,aR (by rw[eX];simp;omega),oI (by omega),af];simp only[Bo];cases hlong:jg x.data
      case true=>rw[aq,if_pos rfl];rfl
      rw[ax,gm (by omega),af,if_neg (by simp)];have hlen:((bx x.data).names++rest).length≤rest.length+4096:=by rw[List.length_append,gG];omega
      have go:∀(dir':Bool) (s':aj),(s'.ino=0∨(al s'.ino f.aa).isSome=true)→aQ (([] :List Str).length+(bx x.data).names.length) (aQ ((bx x.data).names.length+rest.length) (ai (bl n f s' ((bx x.data).names++rest) fol dir' ((40 - k:Nat):Int)) fun y13=>some (y13.1,y13.2)))=some (onK f.aa fol k dir' ((bx x.data).names++rest) s'):=by
       intro dir' s' hs';have h7:(bx x.data).names.length≤4096:=by rw[gG];omega
       rw[bK (by unfold LIM;simp;omega),bK (by unfold LIM;omega),ih k dir' _ s' hs' (by omega) (by clear ih ih';omega) (by clear ih ih';simp only[wt] at hn;omega)];rfl
      have r1:=fun dir'=>go dir' ⟨0, [],1⟩ (Or.inr h.wf.root)
      have r2:=fun dir'=>go dir' ⟨0, [],d.ino⟩ (Or.inr (by rw[hdm.2,hf];rfl))
      simp only[r1,r2];cases (bx x.data).abs
      ·cases (bx x.data).bM
       ·simp
       ·cases rest
        ·simp
        ·simp only[aq,ax,Cz];simp
      ·cases (bx x.data).bM
       ·simp
       ·cases rest
        ·simp
        ·simp only[aq,ax,Cz];simp
    by_cases hr:rest= []
    ·subst hr
     rw[aE (by simp)];cases fol
     ·cases dir
      ·simp only[Bool.not_false,aq]
       rw[fu hf hk2 hd1 hd2 (by simp)];exact hon
      ·simp only[Bool.not_false,aq,Bool.not_true,ax]
       rw[dL hf hk2 hd1 hd2 ⟨by rw[hgx];exact hk3,Or.inr (Or.inr rfl)⟩,hgx];exact blk
     ·simp only[Bool.not_true,ax]
      rw[dL hf hk2 hd1 hd2 ⟨by rw[hgx];exact hk3,Or.inr (Or.inl rfl)⟩,hgx];exact blk
    ·rw[aR (by cases rest with|nil=>exact absurd rfl hr|cons a b=>exact Cz _ _),dL hf hk2 hd1 hd2 ⟨by rw[hgx];exact hk3,Or.inl hr⟩,hgx]
     exact blk
   ·rw[aE (b:= !decide _) (by simp [hk3]),fu hf hk2 hd1 hd2 (fun h9=>hk3 h9.1)]
    cases hfe:(cP nm d.entries).isSome
    ·rw[aE (by simp)];exact hon
    ·rw[aR (by simp)];exact hon
theorem yK {f:Fs} (h:WF f) {base:Str}:(gd f base).1=0∨(al (gd f base).1 f.aa).isSome=true:=by
 unfold gd kC;by_cases h1:(atP f base).2=0
 ·simp only[h1,if_true]
  cases hf:al (atP f base).1.ino f.aa with
  |none=>left;rfl
  |some x=>
   simp only[if_true];split
   ·right
    simp only;have:=h.found hf;rw[this.2,hf];rfl
   ·left;rfl
 ·left
  simp only[h1,if_false]
theorem dI {f:Fs} (h:WS f) {base p:Str} {fol:Bool} (hb:base.length≤8388608) (hp:p.length≤1073741823):dY f base p fol=some (aG f base p fol):=by
 unfold dY aG;by_cases h0:p= []
 ·rw[aE (by simp [h0]),if_pos h0];rfl
 rw[aR (by simp [h0]),if_neg h0,oI hp,af];cases hl:jg p
 case true=>rw[aq,if_pos rfl];rfl
 have hlen:=wb hl;rw[ax,if_neg (by simp),gm hp,af];have hnm:(bx p).names.length≤4096:=by rw[gG];have:=kP p;omega
 have go:∀(s:aj),(s.ino=0∨(al s.ino f.aa).isSome=true)→(ai (nL f s (bx p).names fol (bx p).bM (0:Int)) fun y4=>some (y4.1,y4.2))=some (onK f.aa fol 40 (bx p).bM (bx p).names s):=fun s hs=>by
  unfold nL;have:=ah7 h fol bo 40 (bx p).bM (bx p).names s hs (Nat.le_refl _) (by omega) (hY (by rw[Vj];omega));have e:((40 - 40:Nat):Int)=0:=rfl;rw[e] at this;rw[this];rfl
 cases (bx p).abs
 ·simp only[Bool.not_false,aq,Bool.false_eq_true,if_false]
  rw[vi h.wf hb,af,dp];by_cases h2:(gd f base).2=0
  ·rw[aR (by simp [h2]),if_pos h2]
   exact go ⟨0, [],(gd f base).1⟩ (yK h.wf)
  ·rw[aE (by simp [h2]),if_neg h2];rfl
 ·simp only[Bool.not_true,ax,if_true]
  exact go dG (Or.inr h.wf.root)
end Go.Eng
set_option linter.unusedVariables false
set_option maxRecDepth 100000
namespace Go.Eng
open Go
end Go.Eng
set_option linter.unusedSimpArgs false
set_option linter.unusedVariables false
set_option linter.unusedSectionVars false
namespace Go.Eng
open Go
theorem toNat_mod {n:Int} {m:Nat} (h0:0≤n) (hm:0<m):0≤Int.tmod n (m:Int)∧Int.toNat (Int.tmod n (m:Int))<m:=by
 have h1:=Int.tmod_nonneg (m:Int) h0;have h2:=Int.tmod_lt_of_pos n (show(0:Int)<(m:Int) by omega);omega
theorem H9 {n:Int} (h0:0≤n) (h1:n<256):IntKind.i64.wrap n=n:=bC (by omega) (by omega)
def Gd (f:Fs) (fol:Bool) (s:aj):Prop:=(s.name= [] ∧s.dir=0∧∃d,al s.ino f.aa=some d∧d.kind=2)∨(s.name≠ [] ∧∃d,al s.dir f.aa=some d∧d.kind=2∧s.ino=b9 s.name d.entries∧(fol=true→(aB s.ino f.aa).kind≠3))
def Res (f:Fs) (fol:Bool) (r:aj×Int):Prop:=(r.2=0→Gd f fol r.1)∧(r.2≠0→r.1=eL)
theorem j7 {f:Fs} (h:WS f) {fol:Bool} {lnk:Bool→ah→ah→List Str→aj×Int} {dir:Bool} (hl:∀x d rest,x∈f.aa→x.kind=3→d∈f.aa→d.kind=2→(∀n∈rest,n≠ [])→Res f fol (lnk dir x d rest)):∀(todo:List Str) (s:aj),(∀n∈todo,n≠ [])→Gd f fol s→Res f fol (cA f.aa fol lnk dir todo s)
 | [],s,_,hs=>by
  show Res f fol (m7 f.aa dir s);unfold m7;split
  ·split
   ·exact⟨fun h=>by simp at h,fun _=>rfl⟩
   ·exact⟨fun _=>hs,fun h=>absurd rfl h⟩
  ·exact⟨fun _=>hs,fun h=>absurd rfl h⟩
 |n::rest,s,hn,hs=>by
  have hrest:∀m∈rest,m≠ [] :=fun m hm=>hn m (by simp [hm])
  cases hf:al s.ino f.aa with
  |none=>rw[gJ hf];exact⟨fun h=>by simp at h,fun _=>rfl⟩
  |some d=>
   have hd:=aN hf;by_cases hk:d.kind=2
   ·by_cases h1:n=[46]
    ·rw[iM hf hk h1]
     exact j7 h hl rest _ hrest (Or.inl ⟨rfl,rfl,d,by rw[hd.2];exact hf,hk⟩)
    ·by_cases h2:n=[46,46]
     ·rw[jS hf hk h2]
      exact j7 h hl rest _ hrest (Or.inl ⟨rfl,rfl,h.par d hd.1 hk⟩)
     ·by_cases h3:(aB (b9 n d.entries) f.aa).kind=3∧(rest≠ [] ∨fol=true∨dir=true)
      ·rw[dL hf hk h1 h2 h3]
       obtain⟨x,hx,hgx⟩:=po h3.1;rw[hgx] at h3⊢;exact hl x d rest (aN hx).1 h3.1 hd.1 hk hrest
      ·rw[fu hf hk h1 h2 h3]
       refine j7 h hl rest _ hrest (Or.inr ⟨hn n (by simp),d,by rw[hd.2];exact hf,hk,rfl,fun hfol k3=>h3 ⟨k3,Or.inr (Or.inl hfol)⟩⟩)
   ·rw[iZ hf hk];exact⟨fun h=>by simp at h,fun _=>rfl⟩
theorem lT:∀(s cur:Str),∀x∈(splitN cur s).1,x≠ []
 | [],cur,x,hx=>by simp [splitN] at hx
 |c::s,cur,x,hx=>by
  simp only[splitN] at hx;split at hx
  ·split at hx
   ·exact lT s [] x hx
   ·simp only[List.mem_cons] at hx
    rcases hx with rfl|hx
    ·assumption
    ·exact lT s [] x hx
  ·exact lT s _ x hx
theorem qB (s:Str):∀x∈cf s,x≠ [] :=by
 intro x hx;unfold cf de at hx;split at hx
 ·exact lT s [] x hx
 ·rename_i h
  simp only[List.mem_append,List.mem_singleton] at hx;rcases hx with hx|rfl
  ·exact lT s [] x hx
  ·exact h
theorem xE {f:Fs} (h:WS f) {fol:Bool}:∀(k:Nat) (dir:Bool) (todo:List Str) (s:aj),(∀n∈todo,n≠ [])→Gd f fol s→Res f fol (onK f.aa fol k dir todo s)
 |0,dir,todo,s,hn,hs=>j7 h (fun x d rest _ _ _ _ _=>⟨fun h=>by simp at h,fun _=>rfl⟩) todo s hn hs
 |k+1,dir,todo,s,hn,hs=>by
  refine j7 h (fun x d rest hx hk3 hd hk2 hrest=> ?_) todo s hn hs;split
  ·exact⟨fun h=>by simp at h,fun _=>rfl⟩
  ·refine xE h k _ _ _ (fun n hn'=> ?_) (Or.inl ⟨rfl,rfl, ?_⟩)
   ·simp only[List.mem_append] at hn'
    rcases hn' with hn'|hn'
    ·exact qB _ n hn'
    ·exact hrest n hn'
   ·split
    ·exact h.yR
    ·exact⟨d,dN h.wf.sort hd,hk2⟩
theorem wa {f:Fs} (h:WF f) {base:Str} (h0:(gd f base).2=0):∃d,al (gd f base).1 f.aa=some d∧d.kind=2:=by
 unfold gd at h0⊢;by_cases h1:(kC f base).2=0
 ·rw[if_pos h1] at h0⊢
  by_cases h2:(kC f base).1.kind=2
  ·rw[if_pos h2]
   unfold kC at h1 h2⊢;by_cases h3:(atP f base).2=0
   ·rw[if_pos h3] at h1 h2⊢
    cases hf:al (atP f base).1.ino f.aa with
    |none=>rw[hf] at h1;simp at h1
    |some x=>
     rw[hf] at h2;simp only at h2⊢;exact⟨x,by rw[(aN hf).2];exact hf,h2⟩
   ·rw[if_neg h3] at h1;exact absurd h1 h3
  ·rw[if_neg h2] at h0;simp at h0
 ·rw[if_neg h1] at h0;exact absurd h0 h1
theorem fP {f:Fs} (h:WS f) (base p:Str) (fol:Bool):Res f fol (aG f base p fol):=by
 unfold aG;split
 ·exact⟨fun h=>by simp at h,fun _=>rfl⟩
 ·split
  ·exact⟨fun h=>by simp at h,fun _=>rfl⟩
  ·split
   ·exact xE h 40 _ _ _ (qB p) (Or.inl ⟨rfl,rfl,h.yR⟩)
   ·split
    ·rename_i h0
     exact xE h 40 _ _ _ (qB p) (Or.inl ⟨rfl,rfl,wa h.wf h0⟩)
    ·rename_i h0
     exact⟨fun h=>absurd h h0,fun _=>rfl⟩
end Go.Eng
set_option linter.unusedSimpArgs false
set_option linter.unusedVariables false
set_option linter.unusedSectionVars false
namespace Go.Eng
open Go
def eR (f:Fs) (base p:Str) (fol:Bool):ah×Int:=if (aG f base p fol).2=0 then (match al (aG f base p fol).1.ino f.aa with|some x=>(x,0) |none=>(eN,1)) else (eN,(aG f base p fol).2)
def jf (f:Fs) (base p:Str):ah×Int:=if (eR f base p true).2=0 then (if (eR f base p true).1.kind=2 then (eN,4) else ((eR f base p true).1,0)) else (eN,(eR f base p true).2)
def ah.gM (x:ah) (d:Str):ah:=⟨x.ino,x.kind,x.aL,d,x.parent,x.entries⟩
def nO (f:Fs) (ino:Int) (d:Str):Fs×Int:=if dZ f 0 ((d.length:Int) - ((aB ino f.aa).data.length:Int))=true then (f.set ((aB ino f.aa).gM d),0) else (f,8)
def jr (f:Fs) (base p d:Str):Fs×Int:=if (jf f base p).2=0 then nO f (jf f base p).1.ino d else (f,(jf f base p).2)
section
variable {f:Fs} {base p:Str}
theorem xw (h:WS f) {fol:Bool} (hb:base.length≤8388608) (hp:p.length≤1073741823):nY f base p fol=some (eR f base p fol):=by
 unfold nY eR;rw[eA h hb hp,af,dp];by_cases h0:(aG f base p fol).2=0
 ·rw[aR (by simp [h0]),if_pos h0,h.wf.get,af]
  cases hf:al (aG f base p fol).1.ino f.aa with
  |none=>rfl
  |some x=>rw[ba hf];rfl
 ·rw[aE (by simp [h0]),if_neg h0];rfl
theorem oS (h:WS f) {fol:Bool} (hb:base.length≤8388608) (hp:p.length≤1073741823):ko f base p fol=some (eR f base p fol):=by
 unfold ko eR;rw[dI h hb hp,af,dp];by_cases h0:(aG f base p fol).2=0
 ·rw[aR (by simp [h0]),if_pos h0,h.wf.m8,af]
  cases hf:al (aG f base p fol).1.ino f.aa with
  |none=>rfl
  |some x=>rw[ba hf];rfl
 ·rw[aE (by simp [h0]),if_neg h0];rfl
theorem wQ (h:WS f) (hb:base.length≤8388608) (hp:p.length≤1073741823):oi f base p=some (jf f base p):=by
 unfold oi jf;rw[xw h hb hp,af,dp,eX];by_cases h0:(eR f base p true).2=0
 ·rw[aR (by simp [h0]),if_pos h0]
  by_cases h1:(eR f base p true).1.kind=2
  ·rw[aE (by simp [h1]),if_pos h1];rfl
  ·rw[aR (by simp [h1]),if_neg h1]
 ·rw[aE (by simp [h0]),if_neg h0];rfl
theorem vd (h:WS f) (hb:base.length≤8388608) (hp:p.length≤1073741823):mX f base p=some ((jf f base p).1.data,(jf f base p).2):=by
 unfold mX jf;rw[oS h hb hp,af,dp,eX];by_cases h0:(eR f base p true).2=0
 ·rw[aR (by simp [h0]),if_pos h0]
  by_cases h1:(eR f base p true).1.kind=2
  ·rw[aE (by simp [h1]),if_pos h1];rfl
  ·rw[aR (by simp [h1]),if_neg h1]
 ·rw[aE (by simp [h0]),if_neg h0];rfl
theorem wF (h:WF f) (i:Int):(aB i f.aa).data.length≤1073741824:=by
 cases hf:al i f.aa with
 |none=>rw[cW hf];simp [eN]
 |some x=>rw[ba hf];exact h.sm.data x (aN hf).1
theorem zR (h:WF f) {i:Int} {d:Str} (hd:d.length≤1073741824):pX f i d=some (nO f i d):=by
 unfold pX nO;have hg:=wF h i;rw[h.get,af];simp only;rw[bC (by omega) (by omega),mW h.sm (by unfold Far;omega) (by unfold Far;omega),af];cases hfit:dZ f 0 ((d.length:Int) - ((aB i f.aa).data.length:Int))
 ·rfl
 ·rw[Bool.not_true,ax,h.set,af];rfl
theorem wP (h:WF f) {i:Int} {d:Str} (hd:d.length≤1073741824):n6 f i d=some (nO f i d):=by
 unfold n6 nO;have hg:=wF h i;rw[h.m8,af];simp only;rw[bC (by omega) (by omega),iU h.sm (by unfold Far;omega) (by unfold Far;omega),af];cases hfit:dZ f 0 ((d.length:Int) - ((aB i f.aa).data.length:Int))
 ·rfl
 ·rw[Bool.not_true,ax,h.apo,af];rfl
theorem vu (h:WS f) {d:Str} (hb:base.length≤8388608) (hp:p.length≤1073741823) (hd:d.length≤1073741824):mf f base p d=some (jr f base p d):=by
 unfold mf jr;rw[wQ h hb hp,af,dp];by_cases h0:(jf f base p).2=0
 ·rw[aR (by simp [h0]),if_pos h0,zR h.wf hd,af]
 ·rw[aE (by simp [h0]),if_neg h0]
theorem tc (h0:(jf f base p).2=0):jf f base p=eR f base p true∧(eR f base p true).2=0∧(eR f base p true).1.kind≠2:=by
 unfold jf at h0⊢;by_cases h1:(eR f base p true).2=0
 ·rw[if_pos h1] at h0⊢
  by_cases h2:(eR f base p true).1.kind=2
  ·rw[if_pos h2] at h0;simp at h0
  ·rw[if_neg h2]
   exact⟨by rw[←h1],h1,h2⟩
 ·rw[if_neg h1] at h0;exact absurd h0 h1
theorem uI (h:WS f) {d:Str} (hb:base.length≤8388608) (hp:p.length≤1073741823) (hd:d.length≤1073741824):kH f base p d=some (jr f base p d):=by
 unfold kH jr;rw[vd h hb hp,af,dp];by_cases h0:(jf f base p).2=0
 ·rw[aR (by simp [h0]),if_pos h0,oS h hb hp,af,(tc h0).1,wP h.wf hd,af]
 ·rw[aE (by simp [h0]),if_neg h0]
theorem Bs (h0:(eR f base p true).2=0):al (eR f base p true).1.ino f.aa=some (eR f base p true).1∧(aG f base p true).2=0∧al (aG f base p true).1.ino f.aa=some (eR f base p true).1:=by
 unfold eR at h0⊢;by_cases h1:(aG f base p true).2=0
 ·rw[if_pos h1] at h0⊢
  cases hf:al (aG f base p true).1.ino f.aa with
  |none=>rw[hf] at h0;simp at h0
  |some x=>exact⟨by simp only;rw[(aN hf).2];exact hf,h1,rfl⟩
 ·rw[if_neg h1] at h0;exact absurd h0 h1
theorem A4 (h:WS f) (hk:∀x∈f.aa,eK x=true) (h0:(jf f base p).2=0):∃x,jf f base p=(x,0)∧al x.ino f.aa=some x∧x.kind=1∧(eR f base p true)=(x,0)∧(aG f base p true).2=0∧(aG f base p true).1.ino=x.ino:=by
 obtain⟨h1,h2,h3⟩:=tc h0;obtain⟨h4,h5,h6⟩:=Bs h2;have hr:=(fP h base p true).1 h5;have hne:(eR f base p true).1.kind≠3:=by
  rcases hr with⟨_,_,d,g3,g4⟩ |⟨_,d,_,_,_,g6⟩
  ·rw[h6] at g3;cases g3;exact fun _=>h3 g4
  ·have:=g6 rfl
   rw[ba h6] at this;exact this
 have hkk:=hk _ (aN h4).1;have hk1:(eR f base p true).1.kind=1:=by
  by_cases e:(eR f base p true).1.kind=1
  ·exact e
  ·rw[K_ e h3 hne] at hkk;cases hkk
 refine⟨(eR f base p true).1,by rw[h1,←h2],h4,hk1,by rw[←h2],h5,((aN h6).2).symm⟩
end
def SV:Option ah→Option ah→Prop
 |none,none=>True
 |some x,some y=>x.ino=y.ino∧x.kind=y.kind∧x.parent=y.parent∧x.entries=y.entries∧(x.kind=3→x.data=y.data)
 |_,_=>False
def yY (l m:List ah):Prop:=∀k,SV (al k l) (al k m)
section
variable {l m:List ah}
theorem yY.none (h:yY l m) {k:Int} (hf:al k l=none):al k m=none:=by
 have:=h k;rw[hf] at this;cases hm:al k m with
 |none=>rfl
 |some y=>rw[hm] at this;exact this.elim
theorem yY.some (h:yY l m) {k:Int} {x:ah} (hf:al k l=some x):∃y,al k m=some y∧x.ino=y.ino∧x.kind=y.kind∧x.parent=y.parent∧x.entries=y.entries∧(x.kind=3→x.data=y.data):=by
 have:=h k;rw[hf] at this;cases hm:al k m with
 |none=>rw[hm] at this;exact this.elim
 |some y=>rw[hm] at this;exact⟨y,rfl,this⟩
theorem yY.kind (h:yY l m) (k:Int):(aB k l).kind=(aB k m).kind:=by
 cases hf:al k l with
 |none=>rw[cW hf,cW (h.none hf)]
 |some x=>obtain⟨y,hy,h1⟩:=h.some hf;rw[ba hf,ba hy];exact h1.2.1
end
section
variable {f:Fs} {x:ah} {d:Str}
theorem bX {l:List ah} {x:ah} {k:Int}:al k (bO x l)=if x.ino=k then some x else al k l:=vK
theorem Be {l:List ah} {k k':Int}:al k' (ij k l)=if k=k' then none else al k' l:=pq
theorem fl {l:List ah} {x y:ah}:y∈bO x l↔y=x∨(y∈l∧y.ino≠x.ino):=tP
theorem cl {l:List ah} {x:ah} (h:cK l):cK (bO x l):=oq loI h
theorem fD {l:List ah} {x:ah} (h:cK l):(bO x l).length=if (al x.ino l).isSome then l.length else l.length+1:=Hp loI h
def byt (x:ah):Int:=if x.kind=1 then (x.data.length:Int) else 0
theorem eI {l:List ah} {x:ah} (h:cK l):bytesOf (bO x l)+gj byt (al x.ino l)=bytesOf l+byt x:=pE loI byt h
theorem iR {l:List ah} {x:ah} (h:cK l) (n:Int):fc n (bO x l)+gj (fun y:ah=>ec n y.entries) (al x.ino l)=fc n l+ec n x.entries:=pE loI _ h
theorem zi {l:List ah} {k:Int} (h:cK l):bytesOf (ij k l)+gj byt (al k l)=bytesOf l:=jU loI byt h
theorem Ff {l:List ah} {k:Int} (h:cK l) (n:Int):fc n (ij k l)+gj (fun y:ah=>ec n y.entries) (al k l)=fc n l:=jU loI _ h
theorem Dj {l:List ah} {k:Int} (h:cK l):(ij k l).length+(if (al k l).isSome then 1 else 0)=l.length:=Fo loI h
theorem Fj (hx:al x.ino f.aa=some x) (hk:x.kind=1):yY f.aa (f.set (x.gM d)).aa:=by
 intro k;show SV _ (al k (bO (x.gM d) f.aa));rw[bX];by_cases e:(x.gM d).ino=k
 ·rw[if_pos e]
  have e:x.ino=k:=e;subst e;rw[hx];exact⟨rfl,rfl,rfl,rfl,fun h=>by rw[hk] at h;cases h⟩
 ·rw[if_neg e]
  cases al k f.aa with
  |none=>trivial
  |some y=>exact⟨rfl,rfl,rfl,rfl,fun _=>rfl⟩
theorem Reach.mono {l m:List ah} (h:∀k x,al k l=some x→∃y,al k m=some y∧∀e∈x.entries,∃e'∈y.entries,e'.ino=e.ino) {k:Int} (hr:Reach l k):Reach m k:=by
 induction hr with
 |root=>exact .root
 |step _ hf he ih=>
  obtain⟨y,hy,h2⟩:=h _ _ hf;obtain⟨e',he',hn⟩:=h2 _ he;rw[←hn];exact .step ih hy he'
theorem Tree.J2 (h:Tree f) (hx:al x.ino f.aa=some x) (hk:x.kind=1) (hfit:dZ f 0 ((d.length:Int) - (x.data.length:Int))=true):Tree (f.set (x.gM d)):=by
 have hxm:=(aN hx).1;have hfc:∀n,fc n (f.set (x.gM d)).aa=fc n f.aa:=fun n=>by
  have:=iR (x:=x.gM d) h.sort n;rw[show(x.gM d).ino=x.ino from rfl,hx] at this;have e:(x.gM d).entries=x.entries:=rfl;simp only[gj,e] at this;show fc n (bO (x.gM d) f.aa)=_;omega
 have hmem:∀y∈(f.set (x.gM d)).aa,∃z∈f.aa,z.ino=y.ino∧z.kind=y.kind∧z.aL=y.aL∧z.parent=y.parent∧z.entries=y.entries∧(y.kind≠1→y=z):=fun y hy=>by
  rcases fl.1 hy with rfl|⟨hy,_⟩
  ·exact⟨x,hxm,rfl,rfl,rfl,rfl,rfl,fun hn=>absurd hk hn⟩
  ·exact⟨y,hy,rfl,rfl,rfl,rfl,rfl,fun _=>rfl⟩
 have hsim:=Fj (d:=d) hx hk;obtain⟨r,hr,hrk,hrp⟩:=h.root;refine⟨h.r_,h.se,h.next,fun y hy=> ?_,cl h.sort, ?_,fun y hy=> ?_,fun y hy e he=> ?_,fun y hy=> ?_, ?_,fun y hy hd=> ?_,fun y hy hd z hz e he hn=> ?_,fun y hy=> ?_, ?_⟩
 ·obtain⟨z,hz,e1,_⟩:=hmem y hy
  rw[←e1];exact h.ino z hz
 ·obtain⟨y,hy,e1,e2,e3,_⟩:=hsim.some hr
  exact⟨y,hy,by rw[←e2];exact hrk,by rw[←e3];exact hrp⟩
 ·rcases fl.1 hy with rfl|⟨hy,_⟩
  ·have:=h.kind x hxm
   rw[C0 hk] at this;rw[C0 (show(x.gM d).kind=1 from hk)];exact this
  ·exact h.kind y hy
 ·obtain⟨z,hz,_,_,_,_,e5,_⟩:=hmem y hy
  obtain⟨u,hu⟩:=h.there z hz e (by rw[e5];exact he);obtain⟨v,hv,_⟩:=hsim.some hu;exact⟨v,hv⟩
 ·obtain⟨z,hz,e1,_,e3,_⟩:=hmem y hy
  rw[hfc,←e1,←e3];exact h.aL z hz
 ·rw[hfc];exact h.pM
 ·obtain⟨z,hz,e1,e2,_⟩:=hmem y hy
  rw[hfc,←e1];exact h.Eb z hz (by rw[e2];exact hd)
 ·obtain⟨z',hz',e1,e2,_,e4,_⟩:=hmem y hy
  obtain⟨w,hw,f1,_,_,_,f5,_⟩:=hmem z hz;rw[←e4,←f1];exact h.par z' hz' (by rw[e2];exact hd) w hw e (by rw[f5];exact he) (by rw[e1];exact hn)
 ·obtain⟨z,hz,e1,_⟩:=hmem y hy
  rw[←e1];refine Reach.mono (fun k u hu=> ?_) (h.led z hz);obtain⟨v,hv,_,_,_,e4,_⟩:=hsim.some hu;exact⟨v,hv,fun e he=>⟨e,by rw[←e4];exact he,rfl⟩⟩
 ·have hb:=eI (x:=x.gM d) h.sort
  have hl:=fD (x:=x.gM d) h.sort;rw[show(x.gM d).ino=x.ino from rfl,hx] at hb hl;have e1:byt x=x.data.length:=by unfold byt;rw[if_pos hk]
  have e2:byt (x.gM d)=d.length:=by unfold byt;rw[if_pos (show(x.gM d).kind=1 from hk)];rfl
  simp only[gj,e1,e2] at hb;simp only[Option.isSome_some,if_true] at hl;unfold dZ at hfit⊢;simp only[Bool.and_eq_true,decide_eq_true_eq] at hfit⊢;show((bO (x.gM d) f.aa).length:Int)+0≤f.ak∧bytesOf (bO (x.gM d) f.aa)+0≤f.aw;omega
theorem E3 (hs:cK f.aa) (hx:al x.ino f.aa=some x):f.set x=f:=by
 cases f with
 |mk a b c l=>
  unfold Fs.set;congr 1;refine oT loI (cl hs) hs fun k=> ?_
  show al k (bO x l)=al k l;rw[bX];by_cases e:x.ino=k
  ·rw[if_pos e,←e];exact hx.symm
  ·rw[if_neg e]
end
theorem Tree.wf {f:Fs} (h:Tree f) (hs:SmF f):WF f:=((F2 f).2 h).wf hs
theorem Tree.check {f:Fs} (h:Tree f):uo f=0:=(Bz f).2 ((F2 f).2 h)
end Go.Eng
set_option linter.unusedVariables false
set_option maxRecDepth 100000
namespace Go.Eng
open Go
end Go.Eng
set_option linter.unusedSimpArgs false
set_option linter.unusedVariables false
set_option linter.unusedSectionVars false
namespace Go.Eng
open Go
structure Ev (f:Fs):Prop where
 tr:Tree f
 sm:SmF f
 wf:WF f
 ws:WS f
 lil:Lil f
 len:f.aa.length≤40
 few:∀x∈f.aa,x.data.length≤5000∧x.entries.length≤40∧∀e∈x.entries,e.name.length≤300
section
variable {f:Fs} {base p d:Str}
structure Wr (f:Fs) (x:ah) (d:Str) (g:Fs):Prop where
 tr:Tree g
 sm:SmF g
 ws:WS g
 lil:Lil g
 len:g.aa.length=f.aa.length
 sim:yY f.aa g.aa
 find:∀k,al k g.aa=if x.ino=k then some (x.gM d) else al k f.aa
end
end Go.Eng
set_option linter.unusedSimpArgs false
set_option linter.unusedVariables false
set_option linter.unusedSectionVars false
namespace Go.Eng
open Go
theorem wL {l:List Entry} {e:Entry} {n:Str}:cP n (fS e l)=if e.name=n then some e else cP n l:=vK
theorem ka {l:List Entry} {n n':Str}:cP n' (dn n l)=if n=n' then none else cP n' l:=pq
theorem uz {l:List Entry} {e e':Entry}:e'∈fS e l↔e'=e∨(e'∈l∧e'.name≠e.name):=tP
theorem re {l:List Entry} {n:Str} {e:Entry}:e∈dn n l↔e∈l∧e.name≠n:=gN
theorem DN {l:List Entry} {e:Entry} (hs:fx l) (h:e∈l):cP e.name l=some e:=lE loS hs h
theorem fN {l:List Entry} {n:Str} {e:Entry} (h:cP n l=some e):e∈l∧e.name=n:=bS h
theorem GF {l:List Entry} {e:Entry} (h:fx l) (n:Int):ec n (fS e l)+gj (one n) (cP e.name l)=ec n l+one n e:=pE loS (one n) h
theorem CP {l:List Entry} {m:Str} (h:fx l) (n:Int):ec n (dn m l)+gj (one n) (cP m l)=ec n l:=jU loS (one n) h
theorem qy {l:List Entry} {e:Entry} (h:fw l=true) (h1:cS e.name=true) (h2:1≤e.ino):fw (fS e l)=true:=by
 rw[fA] at h⊢;refine⟨oq loS h.1,fun x hx=> ?_⟩;rcases uz.1 hx with rfl|⟨hx,_⟩
 ·exact⟨h1,h2⟩
 ·exact h.2 x hx
theorem mn {l:List Entry} {n:Str} (h:fw l=true):fw (dn n l)=true:=by
 rw[fA] at h⊢;exact⟨iG h.1,fun x hx=>h.2 x (re.1 hx).1⟩
theorem EJ {l:List Entry} (h:fw l=true) {n:Str} (h0:b9 n l=0):cP n l=none:=by
 unfold b9 at h0;cases hf:cP n l with
 |none=>rfl
 |some e=>
  rw[hf] at h0;have:=(((fA _).1 h).2 e (fN hf).1).2;simp only at h0;omega
theorem D5 {l:List Entry} {n:Str} {e:Entry} (h:cP n l=some e):b9 n l=e.ino:=by unfold b9;rw[h]
theorem sA {l:List Entry} {n:Str} (h:b9 n l≠0):∃e,cP n l=some e∧e∈l∧e.name=n∧e.ino=b9 n l:=by
 unfold b9 at h;cases hf:cP n l with
 |none=>rw[hf] at h;exact absurd rfl h
 |some e=>exact⟨e,rfl,(fN hf).1,(fN hf).2,(D5 hf).symm⟩
def ah.fa (x:ah) (n:Int):ah:=⟨x.ino,x.kind,n,x.data,x.parent,x.entries⟩
def ah.m4 (x:ah) (n:Int):ah:=⟨x.ino,x.kind,x.aL,x.data,n,x.entries⟩
def ah.bT (d:ah) (nm:Str) (n:Int):ah:=d.rK (fS ⟨nm,n⟩ d.entries)
def ah.b_ (d:ah) (nm:Str):ah:=d.rK (dn nm d.entries)
theorem pw {g:Fs} (r_:1≤g.ak∧g.ak≤1073741824) (se:0≤g.aw∧g.aw≤1073741824) (next:g.next≤1099511627776) (sort:cK g.aa)
 (ino:∀k x,al k g.aa=some x→1≤k∧k<g.next) (root:∃r,al 1 g.aa=some r∧r.kind=2∧r.parent=1) (kind:∀k x,al k g.aa=some x→eK x=true)
 (there:∀k x,al k g.aa=some x→∀e∈x.entries,∃y,al e.ino g.aa=some y) (aL:∀k x,al k g.aa=some x→x.aL=fc k g.aa) (pM:fc 1 g.aa=0)
 (Eb:∀k x,al k g.aa=some x→x.kind=2→fc k g.aa≤1) (par:∀k x,al k g.aa=some x→x.kind=2→∀j d,al j g.aa=some d→∀e∈d.entries,e.ino=k→x.parent=j)
 (led:∀k x,al k g.aa=some x→Reach g.aa k) (fits:dZ g 0 0=true):Tree g:=
 ⟨r_,se,next,fun x hx=>ino _ x (dN sort hx),sort,root,fun x hx=>kind _ x (dN sort hx),fun x hx=>there _ x (dN sort hx),fun x hx=>aL _ x (dN sort hx),pM,
  fun x hx=>Eb _ x (dN sort hx),fun x hx hk d hd e he hn=>par _ x (dN sort hx) hk _ d (dN sort hd) e he hn,fun x hx=>led _ x (dN sort hx),fits⟩
section
variable {f:Fs}
theorem Tree.fz (h:Tree f) {k:Int} {x:ah} (hx:al k f.aa=some x):eK x=true∧x.aL=fc k f.aa∧1≤k∧k<f.next∧fx x.entries∧fw x.entries=true:=by
 obtain⟨h1,h2⟩:=aN hx;have hk:=h.kind x h1;have hi:=h.ino x h1;subst h2;have hr:=oX hk;exact⟨hk,h.aL x h1,hi.1,hi.2,((fA _).1 hr).1,hr⟩
theorem Tree.to (h:Tree f) {k:Int} {x:ah} (hx:al k f.aa=some x) {e:Entry} (he:e∈x.entries):∃y,al e.ino f.aa=some y:=h.there x (aN hx).1 e he
theorem Tree.fc0 (h:Tree f) {k:Int} (hk:al k f.aa=none):fc k f.aa=0:=by
 have h0:=FF k f.aa;by_cases hp:0<fc k f.aa
 ·obtain⟨x,hx,e,he,hn⟩:=Gj hp
  obtain⟨y,hy⟩:=h.there x hx e he;rw[hn,hk] at hy;cases hy
 ·omega
theorem Tree.parent (h:Tree f) {k j:Int} {x d:ah} {e:Entry} (hx:al k f.aa=some x) (hk:x.kind=2) (hd:al j f.aa=some d) (he:e∈d.entries) (hn:e.ino=k):x.parent=j:=by
 obtain⟨x1,x2⟩:=aN hx;obtain⟨d1,d2⟩:=aN hd;rw[h.par x x1 hk d d1 e he (by rw[hn,x2]),d2]
theorem Tree.rH (h:Tree f) {k:Int} {x:ah} (hx:al k f.aa=some x) (hk:x.kind=2):fc k f.aa≤1:=by
 obtain⟨x1,x2⟩:=aN hx;rw[←x2];exact h.Eb x x1 hk
theorem Tree.qd (h:Tree f) {k:Int} {x:ah} (hx:al k f.aa=some x):Reach f.aa k:=by
 obtain⟨x1,x2⟩:=aN hx;rw[←x2];exact h.led x x1
theorem lR {x:ah} (h:eK x=true) (hk:x.kind=2) {l:List Entry} (hr:fw l=true):eK (x.rK l)=true:=by
 rw[wB hk,Bool.and_eq_true] at h;rw[wB (show(x.rK l).kind=2 from hk),Bool.and_eq_true];exact⟨h.1,hr⟩
theorem uC {x:ah} (h:eK x=true) {n:Int}:eK (x.fa n)=true:=h
end
structure mH (f:Fs) (d:ah) (nm:Str):Prop where
 hd:al d.ino f.aa=some d
 hk:d.kind=2
 hm:cS nm=true
 h0:cP nm d.entries=none
section
variable {f:Fs} {d x:ah} {nm:Str}
theorem mH.dg (h:mH f d nm) {n:Int} {e:Entry}:e∈(d.bT nm n).entries↔e=⟨nm,n⟩∨e∈d.entries:=by
 show e∈fS ⟨nm,n⟩ d.entries↔_;rw[uz];refine⟨fun h'=>h'.imp id And.left,fun h'=>h'.imp id fun he=>⟨he,fun hn=> ?_⟩⟩;have hn:e.name=nm:=hn;have:=h.h0;have hf:cP nm d.entries≠none:=by
  intro hh;have:∀y∈d.entries,y.name≠nm:=fun y hy hyn=>by
   unfold cP cx at hh;rw[List.find?_eq_none] at hh;exact hh y hy (by simpa using hyn)
  exact this e he hn
 exact hf this
theorem mH.ec (h:mH f d nm) (ht:Tree f) (n m:Int):Go.Eng.ec m (d.bT nm n).entries=Go.Eng.ec m d.entries+if n=m then 1 else 0:=by
 have:=GF (e:=⟨nm,n⟩) (ht.fz h.hd).2.2.2.2.1 m;rw[show(⟨nm,n⟩:Entry).name=nm from rfl,h.h0] at this;simp only[gj,one] at this;show Go.Eng.ec m (fS ⟨nm,n⟩ d.entries)=_;omega
theorem pG {n:Int} (k:Int):al k (bO x (bO (d.bT nm n) f.aa))=if x.ino=k then some x else if d.ino=k then some (d.bT nm n) else al k f.aa:=by
 rw[bX,bX];rfl
theorem n0 (h:d.kind=2):byt d=0:=by unfold byt;rw[if_neg (by omega)]
theorem rn (h:Tree f) (hf:mH f d nm) (hx:al x.ino f.aa=none):
 (bO x (bO (d.bT nm x.ino) f.aa)).length=f.aa.length+1∧bytesOf (bO x (bO (d.bT nm x.ino) f.aa))=bytesOf f.aa+byt x∧
  (x.entries= [] →∀n,fc n (bO x (bO (d.bT nm x.ino) f.aa))=fc n f.aa+if x.ino=n then 1 else 0):=by
 have hxd:d.ino≠x.ino:=fun e=>by rw[←e,hf.hd] at hx;cases hx
 have hs:=h.sort;have hs1:=cl (x:=d.bT nm x.ino) hs;have h1:al x.ino (bO (d.bT nm x.ino) f.aa)=none:=by rw[bX,if_neg (show¬(d.bT nm x.ino).ino=x.ino from hxd)];exact hx
 have h2:al (d.bT nm x.ino).ino f.aa=some d:=hf.hd;refine⟨?_, ?_,fun he n=> ?_⟩
 ·rw[fD hs1,h1,fD hs,h2];rfl
 ·have a:=eI (x:=x) hs1
  have b:=eI (x:=d.bT nm x.ino) hs;rw[h1] at a;rw[h2] at b;simp only[gj] at a b;rw[n0 hf.hk,n0 (show(d.bT nm x.ino).kind=2 from hf.hk)] at b;omega
 ·have a:=iR (x:=x) hs1 n
  have b:=iR (x:=d.bT nm x.ino) hs n;rw[h1,he] at a;rw[h2] at b;simp only[gj] at a b;have c:=hf.ec h x.ino n;have c0:Go.Eng.ec n ([] :List Entry)=0:=rfl;omega
theorem IJ (h:Tree f) (hf:mH f d nm) (hx:al x.ino f.aa=none) {nx:Int} (h1:1≤x.ino) (h2:x.ino<nx) (h3:f.next≤nx) (h4:nx≤1099511627776) (hk:eK x=true) (hl:x.aL=1) (he:x.entries= []) (hp:x.kind=2→x.parent=d.ino)
 (hfit:dZ f 1 (byt x)=true):Tree ⟨f.ak,f.aw,nx,bO x (bO (d.bT nm x.ino) f.aa)⟩:=by
 have hfind:=pG (f:=f) (d:=d) (x:=x) (nm:=nm) (n:=x.ino);obtain⟨s1,s2,s3⟩:=rn h hf hx;have s3:=s3 he;have hxd:d.ino≠x.ino:=fun e=>by rw[←e,hf.hd] at hx;cases hx
 have hfx:=h.fc0 hx;have hdk:=h.fz hf.hd;generalize hL:bO x (bO (d.bT nm x.ino) f.aa)=L at hfind s1 s2 s3;have hs:cK L:=by rw[←hL];exact cl (cl h.sort)
 have cs:∀k y,al k L=some y→(k=x.ino∧y=x)∨(k=d.ino∧y=d.bT nm x.ino)∨(k≠x.ino∧k≠d.ino∧al k f.aa=some y):=fun k y hy=>by
  rw[hfind] at hy;by_cases e1:x.ino=k
  ·rw[if_pos e1] at hy;cases hy;exact Or.inl ⟨e1.symm,rfl⟩
  ·rw[if_neg e1] at hy
   by_cases e2:d.ino=k
   ·rw[if_pos e2] at hy;cases hy;exact Or.inr (Or.inl ⟨e2.symm,rfl⟩)
   ·rw[if_neg e2] at hy;exact Or.inr (Or.inr ⟨fun e=>e1 e.symm,fun e=>e2 e.symm,hy⟩)
 have on:∀k,(∃y,al k f.aa=some y)→∃y,al k L=some y:=fun k ⟨y,hy⟩=>by
  rw[hfind];by_cases e1:x.ino=k
  ·rw[if_pos e1];exact⟨_,rfl⟩
  ·rw[if_neg e1]
   by_cases e2:d.ino=k
   ·rw[if_pos e2];exact⟨_,rfl⟩
   ·rw[if_neg e2];exact⟨y,hy⟩
 have hreach:∀k,Reach f.aa k→Reach L k:=fun k hr=>by
  refine Reach.mono (fun k z hz=> ?_) hr;rw[hfind];by_cases e1:x.ino=k
  ·rw[←e1,hx] at hz;cases hz
  ·rw[if_neg e1]
   by_cases e2:d.ino=k
   ·rw[if_pos e2]
    rw[←e2,hf.hd] at hz;cases hz;exact⟨_,rfl,fun e he=>⟨e,hf.dg.2 (Or.inr he),rfl⟩⟩
   ·rw[if_neg e2];exact⟨z,hz,fun e he=>⟨e,he,rfl⟩⟩
 obtain⟨r,hr,hrk,hrp⟩:=h.root;have hx1:x.ino≠1:=fun e=>by rw[e,hr] at hx;cases hx
 refine pw h.r_ h.se h4 hs (fun k y hy=> ?_) ?_ (fun k y hy=> ?_) (fun k y hy e he'=> ?_) (fun k y hy=> ?_) ?_ (fun k y hy hd=> ?_) (fun k y hy hd j z hz e he' hn=> ?_) (fun k y hy=> ?_) ?_
 ·rcases cs k y hy with⟨rfl,rfl⟩ |⟨rfl,rfl⟩ |⟨_,_,hy⟩
  ·exact⟨h1,h2⟩
  ·exact⟨hdk.2.2.1,by have:=hdk.2.2.2.1;show d.ino<nx;omega⟩
  ·have:=h.fz hy
   exact⟨this.2.2.1,by have:=this.2.2.2.1;show k<nx;omega⟩
 ·show∃r,al 1 L=some r∧_
  rw[hfind,if_neg hx1];by_cases e2:d.ino=1
  ·rw[if_pos e2]
   have hd1:=hf.hd;rw[e2,hr] at hd1;cases hd1;exact⟨_,rfl,hrk,hrp⟩
  ·rw[if_neg e2];exact⟨r,hr,hrk,hrp⟩
 ·rcases cs k y hy with⟨_,rfl⟩ |⟨_,rfl⟩ |⟨_,_,hy⟩
  ·exact hk
  ·exact lR hdk.1 hf.hk (qy hdk.2.2.2.2.2 hf.hm h1)
  ·exact(h.fz hy).1
 ·refine(?_ :∃y,al e.ino L=some y)
  rcases cs k y hy with⟨_,rfl⟩ |⟨_,rfl⟩ |⟨_,_,hy⟩
  ·rw[he] at he';cases he'
  ·rcases hf.dg.1 he' with rfl|he'
   ·show∃y,al x.ino L=some y
    rw[hfind,if_pos rfl];exact⟨_,rfl⟩
   ·exact on _ (h.to hf.hd he')
  ·exact on _ (h.to hy he')
 ·show y.aL=fc k L
  rw[s3];rcases cs k y hy with⟨rfl,rfl⟩ |⟨rfl,rfl⟩ |⟨e1,_,hy⟩
  ·rw[if_pos rfl,hfx,hl];rfl
  ·rw[if_neg (fun e=>hxd e.symm)]
   have:=hdk.2.1;show d.aL=_;omega
  ·rw[if_neg (fun e=>e1 e.symm)]
   have:=(h.fz hy).2.1;omega
 ·show fc 1 L=0
  rw[s3,if_neg hx1,h.pM];rfl
 ·show fc k L≤1
  rw[s3];rcases cs k y hy with⟨rfl,rfl⟩ |⟨rfl,rfl⟩ |⟨e1,_,hy⟩
  ·rw[if_pos rfl,hfx];decide
  ·rw[if_neg (fun e=>hxd e.symm)]
   have:=h.rH hf.hd hf.hk;omega
  ·rw[if_neg (fun e=>e1 e.symm)]
   have:=h.rH hy hd;omega
 ·have hz':al j L=some z:=hz
  have hz0:(∃d0,al j f.aa=some d0∧e∈d0.entries)∨(j=d.ino∧e=⟨nm,x.ino⟩):=by
   rcases cs j z hz' with⟨_,rfl⟩ |⟨rfl,rfl⟩ |⟨_,_,hz⟩
   ·rw[he] at he';cases he'
   ·rcases hf.dg.1 he' with rfl|he'
    ·exact Or.inr ⟨rfl,rfl⟩
    ·exact Or.inl ⟨d,hf.hd,he'⟩
   ·exact Or.inl ⟨z,hz,he'⟩
  rcases cs k y hy with⟨rfl,rfl⟩ |⟨rfl,rfl⟩ |⟨e1,_,hy⟩
  ·rcases hz0 with⟨d0,q1,q2⟩ |⟨rfl,rfl⟩
   ·obtain⟨y',hy'⟩:=h.to q1 q2
    rw[hn,hx] at hy';cases hy'
   ·exact hp hd
  ·rcases hz0 with⟨d0,q1,q2⟩ |⟨rfl,rfl⟩
   ·show d.parent=j
    exact h.parent hf.hd hf.hk q1 q2 hn
   ·exact absurd hn.symm hxd
  ·rcases hz0 with⟨d0,q1,q2⟩ |⟨rfl,rfl⟩
   ·exact h.parent hy hd q1 q2 hn
   ·exact absurd hn.symm e1
 ·show Reach L k
  rcases cs k y hy with⟨rfl,_⟩ |⟨rfl,_⟩ |⟨_,_,hy⟩
  ·have hd':al d.ino L=some (d.bT nm x.ino):=by rw[hfind,if_neg (fun e=>hxd e.symm),if_pos rfl]
   exact Reach.step (e:=⟨nm,x.ino⟩) (hreach _ (h.qd hf.hd)) hd' (hf.dg.2 (Or.inl rfl))
  ·exact hreach _ (h.qd hf.hd)
  ·exact hreach _ (h.qd hy)
 ·have hff:=h.fits
  unfold dZ at hfit hff⊢;simp only[Bool.and_eq_true,decide_eq_true_eq] at hfit hff⊢;show(L.length:Int)+0≤f.ak∧bytesOf L+0≤f.aw;omega
end
end Go.Eng
set_option linter.unusedSimpArgs false
set_option linter.unusedVariables false
set_option linter.unusedSectionVars false
namespace Go.Eng
open Go
section
variable {f:Fs} {d x:ah} {nm:Str} {e:Entry}
def mS (f:Fs) (d:ah) (nm:Str) (x:ah):Fs:=(f.set (d.bT nm x.ino)).set (x.fa (x.aL+1))
theorem wA (hxd:x.ino≠d.ino) (k:Int):al k (mS f d nm x).aa=if x.ino=k then some (x.fa (x.aL+1)) else if d.ino=k then some (d.bT nm x.ino) else al k f.aa:=by
 show al k (bO _ (bO _ f.aa))=_;rw[bX,bX];rfl
theorem Tree.xB (h:Tree f) {k:Int} (hx:al k f.aa=some x) (hk:x.kind≠2):x.entries= [] :=by
 cases he:x.entries with
 |nil=>rfl
 |cons e l=>exact absurd (h.dg hx (e:=e) (by rw[he];simp)) hk
theorem wH {n:Int}:byt (x.fa n)=byt x:=rfl
theorem yt (h:Tree f) (hf:mH f d nm) (hx:al x.ino f.aa=some x) (hxd:x.ino≠d.ino):
 (mS f d nm x).aa.length=f.aa.length∧bytesOf (mS f d nm x).aa=bytesOf f.aa∧∀n,fc n (mS f d nm x).aa=fc n f.aa+if x.ino=n then 1 else 0:=by
 have hs:=h.sort;have hs1:=cl (x:=d.bT nm x.ino) hs;have h1:al (x.fa (x.aL+1)).ino (bO (d.bT nm x.ino) f.aa)=some x:=by rw[bX,if_neg (show¬(d.bT nm x.ino).ino=(x.fa (x.aL+1)).ino from fun e=>hxd e.symm)];exact hx
 have h2:al (d.bT nm x.ino).ino f.aa=some d:=hf.hd;refine⟨?_, ?_,fun n=> ?_⟩
 ·show(bO _ (bO _ f.aa)).length=_
  rw[fD hs1,h1,fD hs,h2];rfl
 ·show bytesOf (bO _ (bO _ f.aa))=_
  have a:=eI (x:=x.fa (x.aL+1)) hs1;have b:=eI (x:=d.bT nm x.ino) hs;rw[h1] at a;rw[h2] at b;simp only[gj] at a b;rw[n0 hf.hk,n0 (show(d.bT nm x.ino).kind=2 from hf.hk)] at b;rw[wH] at a;omega
 ·show fc n (bO _ (bO _ f.aa))=_
  have a:=iR (x:=x.fa (x.aL+1)) hs1 n;have b:=iR (x:=d.bT nm x.ino) hs n;rw[h1] at a;rw[h2] at b;simp only[gj] at a b;have c:=hf.ec h x.ino n;have c0:(x.fa (x.aL+1)).entries=x.entries:=rfl;rw[c0] at a;omega
theorem KR (h:Tree f) (hf:mH f d nm) (hx:al x.ino f.aa=some x) (hk:x.kind≠2):Tree (mS f d nm x):=by
 have hxd:x.ino≠d.ino:=fun e=>by rw[e,hf.hd] at hx;cases hx;exact hk hf.hk
 have hfind:=wA (f:=f) (d:=d) (x:=x) (nm:=nm) hxd;obtain⟨s1,s2,s3⟩:=yt h hf hx hxd;have hdk:=h.fz hf.hd;have hxk:=h.fz hx;have hs:cK (mS f d nm x).aa:=cl (cl h.sort);have hmx:(mS f d nm x).ak=f.ak∧(mS f d nm x).aw=f.aw∧(mS f d nm x).next=f.next:=⟨rfl,rfl,rfl⟩;generalize mS f d nm x=g at hfind s1 s2 s3 hs hmx;obtain⟨m1,m2,m3⟩:=hmx;have cs:∀k y,al k g.aa=some y→(k=x.ino∧y=x.fa (x.aL+1))∨(k=d.ino∧y=d.bT nm x.ino)∨(k≠x.ino∧k≠d.ino∧al k f.aa=some y):=fun k y hy=>by
  rw[hfind] at hy;by_cases e1:x.ino=k
  ·rw[if_pos e1] at hy;cases hy;exact Or.inl ⟨e1.symm,rfl⟩
  ·rw[if_neg e1] at hy
   by_cases e2:d.ino=k
   ·rw[if_pos e2] at hy;cases hy;exact Or.inr (Or.inl ⟨e2.symm,rfl⟩)
   ·rw[if_neg e2] at hy;exact Or.inr (Or.inr ⟨fun e=>e1 e.symm,fun e=>e2 e.symm,hy⟩)
 have on:∀k z,al k f.aa=some z→∃y,al k g.aa=some y∧y.kind=z.kind∧y.parent=z.parent∧∀e∈z.entries,e∈y.entries:=fun k z hz=>by
  rw[hfind];by_cases e1:x.ino=k
  ·rw[if_pos e1]
   rw[←e1,hx] at hz;cases hz;exact⟨_,rfl,rfl,rfl,fun e he=>he⟩
  ·rw[if_neg e1]
   by_cases e2:d.ino=k
   ·rw[if_pos e2]
    rw[←e2,hf.hd] at hz;cases hz;exact⟨_,rfl,rfl,rfl,fun e he=>hf.dg.2 (Or.inr he)⟩
   ·rw[if_neg e2];exact⟨z,hz,rfl,rfl,fun e he=>he⟩
 have hreach:∀k,Reach f.aa k→Reach g.aa k:=fun k hr=>by
  refine Reach.mono (fun k z hz=> ?_) hr;obtain⟨y,hy,_,_,h4⟩:=on k z hz;exact⟨y,hy,fun e he=>⟨e,h4 e he,rfl⟩⟩
 have ed:∀j z e,al j g.aa=some z→e∈z.entries→(∃d0,al j f.aa=some d0∧e∈d0.entries)∨(j=d.ino∧e=⟨nm,x.ino⟩):=fun j z e hz he=>by
  rcases cs j z hz with⟨rfl,rfl⟩ |⟨rfl,rfl⟩ |⟨_,_,hz⟩
  ·exact Or.inl ⟨x,hx,he⟩
  ·rcases hf.dg.1 he with rfl|he
   ·exact Or.inr ⟨rfl,rfl⟩
   ·exact Or.inl ⟨d,hf.hd,he⟩
  ·exact Or.inl ⟨z,hz,he⟩
 obtain⟨r,hr,hrk,hrp⟩:=h.root;have hx1:x.ino≠1:=fun e=>by rw[e,hr] at hx;cases hx;exact hk hrk
 refine pw (by rw[m1];exact h.r_) (by rw[m2];exact h.se) (by rw[m3];exact h.next) hs (fun k y hy=> ?_) ?_ (fun k y hy=> ?_) (fun k y hy e he'=> ?_) (fun k y hy=> ?_) ?_ (fun k y hy hd=> ?_) (fun k y hy hd j z hz e he' hn=> ?_) (fun k y hy=> ?_) ?_
 ·rw[m3]
  rcases cs k y hy with⟨rfl,_⟩ |⟨rfl,_⟩ |⟨_,_,hy⟩
  ·exact⟨hxk.2.2.1,hxk.2.2.2.1⟩
  ·exact⟨hdk.2.2.1,hdk.2.2.2.1⟩
  ·have:=h.fz hy
   exact⟨this.2.2.1,this.2.2.2.1⟩
 ·obtain⟨y,hy,h2,h3,_⟩:=on 1 r hr
  exact⟨y,hy,by rw[h2];exact hrk,by rw[h3];exact hrp⟩
 ·rcases cs k y hy with⟨_,rfl⟩ |⟨_,rfl⟩ |⟨_,_,hy⟩
  ·exact uC hxk.1
  ·exact lR hdk.1 hf.hk (qy hdk.2.2.2.2.2 hf.hm hxk.2.2.1)
  ·exact(h.fz hy).1
 ·rcases ed k y e hy he' with⟨d0,q1,q2⟩ |⟨_,rfl⟩
  ·obtain⟨z,hz⟩:=h.to q1 q2
   obtain⟨y',hy',_⟩:=on _ z hz;exact⟨y',hy'⟩
  ·obtain⟨y',hy',_⟩:=on _ x hx
   exact⟨y',hy'⟩
 ·rw[s3]
  rcases cs k y hy with⟨rfl,rfl⟩ |⟨rfl,rfl⟩ |⟨e1,_,hy⟩
  ·rw[if_pos rfl]
   have:=hxk.2.1;show x.aL+1=_;omega
  ·rw[if_neg hxd]
   have:=hdk.2.1;show d.aL=_;omega
  ·rw[if_neg (fun e=>e1 e.symm)]
   have:=(h.fz hy).2.1;omega
 ·rw[s3,if_neg hx1,h.pM];rfl
 ·rw[s3]
  rcases cs k y hy with⟨rfl,rfl⟩ |⟨rfl,rfl⟩ |⟨e1,_,hy⟩
  ·exact absurd hd hk
  ·rw[if_neg hxd]
   have:=h.rH hf.hd hf.hk;omega
  ·rw[if_neg (fun e=>e1 e.symm)]
   have:=h.rH hy hd;omega
 ·rcases ed j z e hz he' with⟨d0,q1,q2⟩ |⟨rfl,rfl⟩
  ·rcases cs k y hy with⟨rfl,rfl⟩ |⟨rfl,rfl⟩ |⟨e1,_,hy⟩
   ·exact absurd hd hk
   ·show d.parent=j
    exact h.parent hf.hd hf.hk q1 q2 hn
   ·exact h.parent hy hd q1 q2 hn
  ·rcases cs k y hy with⟨rfl,rfl⟩ |⟨rfl,rfl⟩ |⟨e1,_,hy⟩
   ·exact absurd hd hk
   ·exact absurd hn hxd
   ·exact absurd hn.symm e1
 ·rcases cs k y hy with⟨rfl,_⟩ |⟨rfl,_⟩ |⟨_,_,hy⟩
  ·exact hreach _ (h.qd hx)
  ·exact hreach _ (h.qd hf.hd)
  ·exact hreach _ (h.qd hy)
 ·have hff:=h.fits
  unfold dZ at hff⊢;simp only[Bool.and_eq_true,decide_eq_true_eq] at hff⊢;rw[s1,s2,m1,m2];exact hff
structure Ent (f:Fs) (d:ah) (nm:Str) (x:ah) (e:Entry):Prop where
 hd:al d.ino f.aa=some d
 he:cP nm d.entries=some e
 hn:e.ino=x.ino
 hx:al x.ino f.aa=some x
def jd (f:Fs) (d:ah) (nm:Str) (x:ah):Fs:=if x.aL=1 then (f.set (d.b_ nm)).drop x.ino else (f.set (d.b_ nm)).set (x.fa (x.aL - 1))
theorem Ent.mem (h:Ent f d nm x e):e∈d.entries∧e.name=nm:=fN h.he
theorem Ent.kind (h:Ent f d nm x e) (ht:Tree f):d.kind=2:=ht.dg h.hd h.mem.1
theorem Ent.way (h:Ent f d nm x e):Way f.aa d.ino x.ino 1:=h.hn▸ .step .here h.hd h.mem.1
theorem Ent.ne (h:Ent f d nm x e) (ht:Tree f):x.ino≠d.ino:=fun e1=>by
 obtain⟨n,hw⟩:=(ht.qd h.hd).way;exact ht.xJ hw h.hd h.mem.1 (n:=0) (by rw[h.hn,e1];exact .here)
theorem Ent.dg (h:Ent f d nm x e) (ht:Tree f) {e':Entry}:e'∈(d.b_ nm).entries↔e'∈d.entries∧e'≠e:=by
 show e'∈dn nm d.entries↔_;rw[re];refine⟨fun⟨a,b⟩=>⟨a,fun c=>b (by rw[c];exact h.mem.2)⟩,fun⟨a,b⟩=>⟨a,fun c=>b ?_⟩⟩;have h1:=DN (ht.fz h.hd).2.2.2.2.1 a;rw[c,h.he] at h1;exact(Option.some.inj h1).symm
theorem jQ (hxd:x.ino≠d.ino) (k:Int):al k (jd f d nm x).aa=if x.ino=k then (if x.aL=1 then none else some (x.fa (x.aL - 1))) else if d.ino=k then some (d.b_ nm) else al k f.aa:=by
 unfold jd;by_cases hl:x.aL=1
 ·rw[if_pos hl,if_pos hl]
  show al k (ij x.ino (bO _ f.aa))=_;rw[Be,bX];rfl
 ·rw[if_neg hl,if_neg hl]
  show al k (bO _ (bO _ f.aa))=_;rw[bX,bX];rfl
theorem zd (h:Tree f) (hf:Ent f d nm x e) (hx0:x.entries= []):
 ((jd f d nm x).aa.length:Int)=f.aa.length - (if x.aL=1 then 1 else 0)∧bytesOf (jd f d nm x).aa=bytesOf f.aa - (if x.aL=1 then byt x else 0)∧∀n,fc n (jd f d nm x).aa=fc n f.aa - if x.ino=n then 1 else 0:=by
 have hxd:=hf.ne h;have hs:=h.sort;have hs1:=cl (x:=d.b_ nm) hs;have h1:al x.ino (bO (d.b_ nm) f.aa)=some x:=by rw[bX,if_neg (show¬(d.b_ nm).ino=x.ino from fun e=>hxd e.symm)];exact hf.hx
 have h2:al (d.b_ nm).ino f.aa=some d:=hf.hd;have a1:(bO (d.b_ nm) f.aa).length=f.aa.length:=by rw[fD hs,h2];rfl
 have b:=eI (x:=d.b_ nm) hs;rw[h2] at b;simp only[gj] at b;rw[n0 (hf.kind h),n0 (show(d.b_ nm).kind=2 from hf.kind h)] at b;have c:∀n,fc n (bO (d.b_ nm) f.aa)=fc n f.aa - if x.ino=n then 1 else 0:=fun n=>by
  have c:=iR (x:=d.b_ nm) hs n;rw[h2] at c;simp only[gj] at c;have:=CP (m:=nm) (h.fz hf.hd).2.2.2.2.1 n;rw[hf.he] at this;simp only[gj,one,hf.hn] at this;have c1:(d.b_ nm).entries=dn nm d.entries:=rfl;rw[c1] at c;omega
 unfold jd;by_cases hl:x.aL=1
 ·simp only[if_pos hl]
  refine⟨?_, ?_,fun n=> ?_⟩
  ·show((ij x.ino (bO _ f.aa)).length:Int)=_
   have:=Dj (k:=x.ino) hs1;rw[h1] at this;simp only[Option.isSome_some,if_true] at this;omega
  ·show bytesOf (ij x.ino (bO _ f.aa))=_
   have:=zi (k:=x.ino) hs1;rw[h1] at this;simp only[gj] at this;omega
  ·show fc n (ij x.ino (bO _ f.aa))=_
   have:=Ff (k:=x.ino) hs1 n;rw[h1,←c n] at*;simp only[gj,hx0] at this;have c0:ec n ([] :List Entry)=0:=rfl;omega
 ·simp only[if_neg hl]
  have h1':al (x.fa (x.aL - 1)).ino (bO (d.b_ nm) f.aa)=some x:=h1;refine⟨?_, ?_,fun n=> ?_⟩
  ·show((bO _ (bO _ f.aa)).length:Int)=_
   rw[fD hs1,h1'];simp only[Option.isSome_some,if_true];omega
  ·show bytesOf (bO _ (bO _ f.aa))=_
   have:=eI (x:=x.fa (x.aL - 1)) hs1;rw[h1'] at this;simp only[gj,wH] at this;omega
  ·show fc n (bO _ (bO _ f.aa))=_
   have:=iR (x:=x.fa (x.aL - 1)) hs1 n;rw[h1'] at this;have c0:(x.fa (x.aL - 1)).entries=x.entries:=rfl;simp only[gj,c0] at this;rw[←c n];omega
theorem IN (h:Tree f) (hf:Ent f d nm x e) (hx0:x.entries= []):Tree (jd f d nm x):=by
 have hxd:=hf.ne h;have hfind:=jQ (f:=f) (d:=d) (x:=x) (nm:=nm) hxd;obtain⟨s1,s2,s3⟩:=zd h hf hx0;have hdk:=h.fz hf.hd;have hxk:=h.fz hf.hx;have hk2:=hf.kind h;have hs:cK (jd f d nm x).aa:=by
  unfold jd;split
  ·exact iG (cl h.sort)
  ·exact cl (cl h.sort)
 have hmx:(jd f d nm x).ak=f.ak∧(jd f d nm x).aw=f.aw∧(jd f d nm x).next=f.next:=by unfold jd;split<;>exact⟨rfl,rfl,rfl⟩
 generalize jd f d nm x=g at hfind s1 s2 s3 hs hmx;obtain⟨m1,m2,m3⟩:=hmx;have cs:∀k y,al k g.aa=some y→(k=x.ino∧x.aL≠1∧y=x.fa (x.aL - 1))∨(k=d.ino∧y=d.b_ nm)∨(k≠x.ino∧k≠d.ino∧al k f.aa=some y):=fun k y hy=>by
  rw[hfind] at hy;by_cases e1:x.ino=k
  ·rw[if_pos e1] at hy
   by_cases hl:x.aL=1
   ·rw[if_pos hl] at hy;cases hy
   ·rw[if_neg hl] at hy;cases hy;exact Or.inl ⟨e1.symm,hl,rfl⟩
  ·rw[if_neg e1] at hy
   by_cases e2:d.ino=k
   ·rw[if_pos e2] at hy;cases hy;exact Or.inr (Or.inl ⟨e2.symm,rfl⟩)
   ·rw[if_neg e2] at hy;exact Or.inr (Or.inr ⟨fun e=>e1 e.symm,fun e=>e2 e.symm,hy⟩)
 have on:∀k z,al k f.aa=some z→(k=x.ino→x.aL≠1)→∃y,al k g.aa=some y∧y.kind=z.kind∧y.parent=z.parent∧∀e'∈z.entries,(k=d.ino→e'≠e)→e'∈y.entries:=fun k z hz hl=>by
  rw[hfind];by_cases e1:x.ino=k
  ·rw[if_pos e1,if_neg (hl e1.symm)]
   have hz':=hz;rw[←e1,hf.hx] at hz';cases hz';exact⟨_,rfl,rfl,rfl,fun e he _=>he⟩
  ·rw[if_neg e1]
   by_cases e2:d.ino=k
   ·rw[if_pos e2]
    have hz':=hz;rw[←e2,hf.hd] at hz';cases hz';exact⟨_,rfl,rfl,rfl,fun e' he hne=>(hf.dg h).2 ⟨he,hne e2.symm⟩⟩
   ·rw[if_neg e2];exact⟨z,hz,rfl,rfl,fun e he _=>he⟩
 have ed:∀j z e',al j g.aa=some z→e'∈z.entries→∃d0,al j f.aa=some d0∧e'∈d0.entries∧(j=d.ino→e'≠e):=fun j z e' hz he=>by
  rcases cs j z hz with⟨rfl,_,rfl⟩ |⟨rfl,rfl⟩ |⟨_,h2,hz⟩
  ·exact⟨x,hf.hx,he,fun e=>absurd e hxd⟩
  ·exact⟨d,hf.hd,((hf.dg h).1 he).1,fun _=>((hf.dg h).1 he).2⟩
  ·exact⟨z,hz,he,fun e=>absurd e h2⟩
 have still:∀j z e',al j f.aa=some z→e'∈z.entries→(j=d.ino→e'≠e)→e'.ino=x.ino→x.aL≠1:=fun j z e' hz he hne hn hl=>by
  have hc:fc x.ino f.aa≤1:=by rw[←hxk.2.1];omega
  obtain⟨a,b⟩:=sP hc (aN hz).1 he hn (aN hf.hd).1 hf.mem.1 hf.hn;exact hne (by rw[←(aN hz).2,a]) b
 have hreach:∀k,Reach f.aa k→k≠x.ino→Reach g.aa k:=fun k hr=>by
  induction hr with
  |root=>exact fun _=> .root
  |step hr hz he ih=>
   rename_i k' z e';intro hne;have hk':k'≠x.ino:=fun e1=>by
    rw[e1,hf.hx] at hz;cases hz;rw[hx0] at he;cases he
   obtain⟨y,hy,_,_,h4⟩:=on k' z hz (fun e1=>absurd e1 hk');exact Reach.step (ih hk') hy (h4 e' he (fun _ e1=>hne (by rw[e1];exact hf.hn)))
 obtain⟨r,hr,hrk,hrp⟩:=h.root;have hx1:x.ino≠1:=fun e1=>h.uB hf.hd hf.mem.1 (by rw[hf.hn,e1])
 refine pw (by rw[m1];exact h.r_) (by rw[m2];exact h.se) (by rw[m3];exact h.next) hs (fun k y hy=> ?_) ?_ (fun k y hy=> ?_) (fun k y hy e' he'=> ?_) (fun k y hy=> ?_) ?_ (fun k y hy hd=> ?_) (fun k y hy hd j z hz e' he' hn=> ?_) (fun k y hy=> ?_) ?_
 ·rw[m3]
  rcases cs k y hy with⟨rfl,_⟩ |⟨rfl,_⟩ |⟨_,_,hy⟩
  ·exact⟨hxk.2.2.1,hxk.2.2.2.1⟩
  ·exact⟨hdk.2.2.1,hdk.2.2.2.1⟩
  ·have:=h.fz hy
   exact⟨this.2.2.1,this.2.2.2.1⟩
 ·obtain⟨y,hy,h2,h3,_⟩:=on 1 r hr (fun e1=>absurd e1.symm hx1)
  exact⟨y,hy,by rw[h2];exact hrk,by rw[h3];exact hrp⟩
 ·rcases cs k y hy with⟨_,_,rfl⟩ |⟨_,rfl⟩ |⟨_,_,hy⟩
  ·exact uC hxk.1
  ·exact lR hdk.1 hk2 (mn hdk.2.2.2.2.2)
  ·exact(h.fz hy).1
 ·obtain⟨d0,q1,q2,q3⟩:=ed k y e' hy he'
  obtain⟨z,hz⟩:=h.to q1 q2;obtain⟨y',hy',_⟩:=on _ z hz (fun e1=>still _ _ _ q1 q2 q3 e1);exact⟨y',hy'⟩
 ·rw[s3]
  rcases cs k y hy with⟨rfl,_,rfl⟩ |⟨rfl,rfl⟩ |⟨e1,_,hy⟩
  ·rw[if_pos rfl]
   have:=hxk.2.1;show x.aL - 1=_;omega
  ·rw[if_neg hxd]
   have:=hdk.2.1;show d.aL=_;omega
  ·rw[if_neg (fun e=>e1 e.symm)]
   have:=(h.fz hy).2.1;omega
 ·rw[s3,if_neg hx1,h.pM];rfl
 ·rw[s3]
  rcases cs k y hy with⟨rfl,_,rfl⟩ |⟨rfl,rfl⟩ |⟨e1,_,hy⟩
  ·have:=h.rH hf.hx hd
   rw[if_pos rfl];omega
  ·rw[if_neg hxd]
   have:=h.rH hf.hd hk2;omega
  ·rw[if_neg (fun e=>e1 e.symm)]
   have:=h.rH hy hd;omega
 ·obtain⟨d0,q1,q2,q3⟩:=ed j z e' hz he'
  rcases cs k y hy with⟨rfl,_,rfl⟩ |⟨rfl,rfl⟩ |⟨e1,_,hy⟩
  ·show x.parent=j
   exact h.parent hf.hx hd q1 q2 hn
  ·show d.parent=j
   exact h.parent hf.hd hk2 q1 q2 hn
  ·exact h.parent hy hd q1 q2 hn
 ·by_cases e1:k=x.ino
  ·subst e1
   rcases cs _ y hy with⟨_,hl,_⟩ |⟨e2,_⟩ |⟨e2,_⟩
   ·have hp:0<fc x.ino g.aa:=by
     rw[s3,if_pos rfl];have h1:=xm (aN hf.hd).1 hf.mem.1 hf.hn;have h2:=hxk.2.1;omega
    obtain⟨z,hz,e',he',hn⟩:=Gj hp;have hz:=dN hs hz;have hzx:z.ino≠x.ino:=fun e1=>by
     rw[e1] at hz;obtain⟨d0,q1,q2,_⟩:=ed _ z e' hz he';rw[hf.hx] at q1;cases q1;rw[hx0] at q2;cases q2
    obtain⟨d0,q1,_⟩:=ed _ z e' hz he';have:=Reach.step (hreach _ (h.qd q1) hzx) hz he';rw[hn] at this;exact this
   ·exact absurd e2 hxd
   ·exact absurd rfl e2
  ·have:∃z,al k f.aa=some z:=by
    rcases cs _ y hy with⟨e2,_⟩ |⟨rfl,_⟩ |⟨_,_,hy⟩
    ·exact absurd e2 e1
    ·exact⟨d,hf.hd⟩
    ·exact⟨y,hy⟩
   obtain⟨z,hz⟩:=this;exact hreach _ (h.qd hz) e1
 ·have hff:=h.fits
  have hbx:0≤byt x:=by unfold byt;split<;>omega
  unfold dZ at hff⊢;simp only[Bool.and_eq_true,decide_eq_true_eq] at hff⊢;rw[m1,m2];split at s1<;>rename_i hl
  ·rw[if_pos hl] at s2;omega
  ·rw[if_neg hl] at s2;omega
end
end Go.Eng
set_option linter.unusedSimpArgs false
set_option linter.unusedVariables false
set_option linter.unusedSectionVars false
namespace Go.Eng
open Go
structure Bd (n:Nat) (f:Fs):Prop where
 len:f.aa.length≤n
 dg:∀x∈f.aa,x.entries.length≤n
 data:∀x∈f.aa,x.data.length≤10000000
structure Ew (f:Fs):Prop where
 tr:Tree f
 sm:SmF f
 wf:WF f
 ws:WS f
 lil:Lil f
 tot:(dz f.aa).length≤536870912
section
variable {f:Fs} {n m:Nat}
theorem Bd.mono (h:Bd n f) (hm:n≤m):Bd m f:=
 ⟨Nat.le_trans h.len hm,fun x hx=>Nat.le_trans (h.dg x hx) hm,h.data⟩
theorem Bd.sm (h:Bd n f) (hn:n≤10000) (ht:Tree f):SmF f:=by
 refine⟨by have:=h.len;omega,fun x hx=>by have:=h.data x hx;omega,fun x hx=>by have:=h.dg x hx;omega,fun x hx e he=> ?_⟩;have h1:=(fA x.entries).1 (oX (ht.kind x hx));have:=E9 (h1.2 e he).1;omega
theorem oK (ht:Tree f) (h:Bd n f) (hn:n≤10000):Ew f:=by
 have hm:=h.sm hn ht;have hw:=ht.wf hm;have hl:=h.len;refine⟨ht,hm,hw,ht.ws hw,⟨by omega,fun x hx=>by have:=h.dg x hx;omega⟩, ?_⟩;have h1:=Cn (N:=10000) (l:=f.aa) (fun x hx=>by have:=h.dg x hx;omega);have:f.aa.length*10000≤10000*10000:=Nat.mul_le_mul_right _ (by omega);omega
theorem Ev.bd (e:Ev f):Bd 40 f:=⟨e.len,fun x hx=>(e.few x hx).2.1,fun x hx=>by have:=(e.few x hx).1;omega⟩
theorem Ev.ew (e:Ev f):Ew f:=oK e.tr e.bd (by omega)
theorem Ew.check (e:Ew f):je f=some 0:=by rw[tD e.sm e.tot,e.tr.check]
theorem Ew.same (e:Ew f) (g:Fs):cr f g=some (decide (f=g)):=oA e.sm.len e.sm.dg
theorem Bd.set (h:Bd n f) {y:ah} (hm:n+1≤m) (he:y.entries.length≤m) (hd:y.data.length≤10000000):Bd m (f.set y):=by
 refine⟨by have:= @jz f y;have:=h.len;omega,fun x hx=> ?_,fun x hx=> ?_⟩
 ·rcases fl.1 hx with rfl|⟨hx,_⟩
  ·exact he
  ·have:=h.dg x hx;omega
 ·rcases fl.1 hx with rfl|⟨hx,_⟩
  ·exact hd
  ·exact h.data x hx
theorem Bd.put (h:Bd n f) (hs:cK f.aa) {y z:ah} (hz:al y.ino f.aa=some z) (hm:n≤m) (he:y.entries.length≤m) (hd:y.data.length≤10000000):Bd m (f.set y):=by
 refine⟨?_,fun x hx=> ?_,fun x hx=> ?_⟩
 ·have:=fD (x:=y) hs
  rw[hz] at this;have h1:(bO y f.aa).length=f.aa.length:=this;have:=h.len;show(bO y f.aa).length≤m;omega
 ·rcases fl.1 hx with rfl|⟨hx,_⟩
  ·exact he
  ·have:=h.dg x hx;omega
 ·rcases fl.1 hx with rfl|⟨hx,_⟩
  ·exact hd
  ·exact h.data x hx
theorem Bd.drop (h:Bd n f) {k:Int}:Bd n (f.drop k):=by
 refine⟨by have h1:(ij k f.aa).length≤f.aa.length:=ek;have:=h.len;show(ij k f.aa).length≤n;omega,fun x hx=> ?_,fun x hx=> ?_⟩
 ·exact h.dg x (gN.1 hx).1
 ·exact h.data x (gN.1 hx).1
theorem Bd.find (h:Bd n f) {k:Int} {x:ah} (hx:al k f.aa=some x):x.entries.length≤n∧x.data.length≤10000000:=⟨h.dg x (aN hx).1,h.data x (aN hx).1⟩
theorem Bd.get (h:Bd n f) (k:Int):(aB k f.aa).entries.length≤n∧(aB k f.aa).data.length≤10000000:=by
 cases hf:al k f.aa with
 |none=>rw[cW hf];simp [eN]
 |some x=>rw[ba hf];exact h.find hf
theorem pC (e:Entry) (l:List Entry):(fS e l).length≤l.length+1:=nc
theorem n_ (n:Str) (l:List Entry):(dn n l).length≤l.length:=ek
theorem kc (h:cK f.aa) (x:ah):cK (f.set x).aa:=cl h
theorem pn (h:WF f) (k:Int):fx (aB k f.aa).entries:=by
 cases hf:al k f.aa with
 |none=>rw[cW hf];exact List.Pairwise.nil
 |some x=>rw[ba hf];exact h.CI (aN hf).1
end
end Go.Eng
set_option linter.unusedSimpArgs false
set_option linter.unusedVariables false
set_option linter.unusedSectionVars false
namespace Go.Eng
open Go
section
variable {f:Fs} {d1 d2 x:ah} {n1 n2:Str} {e:Entry}
def mvD (d1 d2:ah) (n1:Str):ah:=if d1.ino=d2.ino then d1.b_ n1 else d2
def mvF (f:Fs) (d1:ah) (n1:Str) (d2:ah) (n2:Str) (x:ah):Fs:=
 if x.kind=2 then ((f.set (d1.b_ n1)).set ((mvD d1 d2 n1).bT n2 x.ino)).set (x.m4 d2.ino) else (f.set (d1.b_ n1)).set ((mvD d1 d2 n1).bT n2 x.ino)
structure Mv (f:Fs) (d1:ah) (n1:Str) (d2:ah) (n2:Str) (x:ah) (e:Entry):Prop where
 ent:Ent f d1 n1 x e
 free:mH f d2 n2
 out:¬∃n,Way f.aa x.ino d2.ino n
theorem l8:(mvD d1 d2 n1).ino=d2.ino:=by
 unfold mvD;split
 ·rename_i h;exact h
 ·rfl
theorem Mv.ne2 (h:Mv f d1 n1 d2 n2 x e):x.ino≠d2.ino:=fun e1=>h.out ⟨0,by rw[e1];exact .here⟩
theorem Mv.same (h:Mv f d1 n1 d2 n2 x e) (e1:d1.ino=d2.ino):d1=d2:=by
 have:=h.ent.hd;rw[e1,h.free.hd] at this;exact(Option.some.inj this).symm
theorem Mv.dk (h:Mv f d1 n1 d2 n2 x e) (ht:Tree f):(mvD d1 d2 n1).kind=2:=by
 unfold mvD;split
 ·exact h.ent.kind ht
 ·exact h.free.hk
theorem Mv.K8 (h:Mv f d1 n1 d2 n2 x e):cP n2 (mvD d1 d2 n1).entries=none:=by
 unfold mvD;split
 ·rename_i e1
  show cP n2 (dn n1 d1.entries)=none;rw[ka];split
  ·rfl
  ·rw[h.same e1];exact h.free.h0
 ·exact h.free.h0
theorem Mv.GN (h:Mv f d1 n1 d2 n2 x e) (ht:Tree f):fw (mvD d1 d2 n1).entries=true:=by
 unfold mvD;split
 ·exact mn (ht.fz h.ent.hd).2.2.2.2.2
 ·exact(ht.fz h.free.hd).2.2.2.2.2
theorem Mv.Uf (h:Mv f d1 n1 d2 n2 x e) (ht:Tree f):eK (mvD d1 d2 n1)=true:=by
 unfold mvD;split
 ·exact lR (ht.fz h.ent.hd).1 (h.ent.kind ht) (mn (ht.fz h.ent.hd).2.2.2.2.2)
 ·exact(ht.fz h.free.hd).1
theorem FX {l:List Entry} {a e':Entry} (h:cP a.name l=none):e'∈fS a l↔e'=a∨e'∈l:=by
 rw[uz];refine⟨fun h'=>h'.imp id And.left,fun h'=>h'.imp id fun he=>⟨he,fun hn=> ?_⟩⟩;unfold cP cx at h;rw[List.find?_eq_none] at h;exact h e' he (by simpa using hn)
theorem s8 (h:Mv f d1 n1 d2 n2 x e) (ht:Tree f) (k:Int):al k (mvF f d1 n1 d2 n2 x).aa=
 if x.ino=k then some (if x.kind=2 then x.m4 d2.ino else x) else if d2.ino=k then some ((mvD d1 d2 n1).bT n2 x.ino) else if d1.ino=k then some (d1.b_ n1) else al k f.aa:=by
 have e1:(((mvD d1 d2 n1).bT n2 x.ino).ino)=d2.ino:=l8;have hx1:=h.ent.ne ht;have hx2:=h.ne2;unfold mvF;by_cases hk:x.kind=2
 ·rw[if_pos hk,if_pos hk]
  show al k (bO _ (bO _ (bO _ f.aa)))=_;rw[bX,bX,bX,e1];rfl
 ·rw[if_neg hk,if_neg hk]
  show al k (bO _ (bO _ f.aa))=_;rw[bX,bX,e1];by_cases h0:x.ino=k
  ·rw[if_pos h0,if_neg (fun e=>hx2 (by rw[h0,e])),if_neg (fun e=>hx1 (by rw[h0,←e];rfl)),←h0,h.ent.hx]
  ·rw[if_neg h0];rfl
theorem yJ (ht:Tree f):cK (mvF f d1 n1 d2 n2 x).aa:=by
 unfold mvF;split
 ·exact cl (cl (cl ht.sort))
 ·exact cl (cl ht.sort)
theorem oo {y:ah} (h:y.kind=2):byt y=0:=by unfold byt;rw[if_neg (by omega)]
theorem CM (h:Mv f d1 n1 d2 n2 x e) (ht:Tree f):(mvF f d1 n1 d2 n2 x).aa.length=f.aa.length∧bytesOf (mvF f d1 n1 d2 n2 x).aa=bytesOf f.aa∧∀n,fc n (mvF f d1 n1 d2 n2 x).aa=fc n f.aa:=by
 have hs:=ht.sort;have hs1:=cl (x:=d1.b_ n1) hs;have hs2:=cl (x:=(mvD d1 d2 n1).bT n2 x.ino) hs1;have h1:al (d1.b_ n1).ino f.aa=some d1:=h.ent.hd;have h2:al ((mvD d1 d2 n1).bT n2 x.ino).ino (bO (d1.b_ n1) f.aa)=some (mvD d1 d2 n1):=by
  rw[show((mvD d1 d2 n1).bT n2 x.ino).ino=d2.ino from l8,bX];unfold mvD;by_cases e1:d1.ino=d2.ino
  ·rw[if_pos (show(d1.b_ n1).ino=d2.ino from e1),if_pos e1]
  ·rw[if_neg (show¬(d1.b_ n1).ino=d2.ino from e1),if_neg e1];exact h.free.hd
 have a1:(bO (d1.b_ n1) f.aa).length=f.aa.length:=by rw[fD hs,h1];rfl
 have a2:(bO ((mvD d1 d2 n1).bT n2 x.ino) (bO (d1.b_ n1) f.aa)).length=f.aa.length:=by rw[fD hs1,h2];exact a1
 have b1:=eI (x:=d1.b_ n1) hs;rw[h1] at b1;simp only[gj] at b1;rw[oo (h.ent.kind ht),oo (show(d1.b_ n1).kind=2 from h.ent.kind ht)] at b1;have b2:=eI (x:=(mvD d1 d2 n1).bT n2 x.ino) hs1;rw[h2] at b2;simp only[gj] at b2;rw[oo (h.dk ht),oo (show((mvD d1 d2 n1).bT n2 x.ino).kind=2 from h.dk ht)] at b2;have c2:∀n,fc n (bO ((mvD d1 d2 n1).bT n2 x.ino) (bO (d1.b_ n1) f.aa))=fc n f.aa:=fun n=>by
  have c1:=iR (x:=d1.b_ n1) hs n;rw[h1] at c1;have c2:=iR (x:=(mvD d1 d2 n1).bT n2 x.ino) hs1 n;rw[h2] at c2;have c3:=CP (m:=n1) (ht.fz h.ent.hd).2.2.2.2.1 n;rw[h.ent.he] at c3;have c4:=GF (e:=⟨n2,x.ino⟩) ((fA _).1 (h.GN ht)).1 n;rw[show(⟨n2,x.ino⟩:Entry).name=n2 from rfl,h.K8] at c4;simp only[gj,one,h.ent.hn] at c1 c2 c3 c4;have q1:(d1.b_ n1).entries=dn n1 d1.entries:=rfl;have q2:((mvD d1 d2 n1).bT n2 x.ino).entries=fS ⟨n2,x.ino⟩ (mvD d1 d2 n1).entries:=rfl;rw[q1] at c1;rw[q2] at c2;omega
 unfold mvF;by_cases hk:x.kind=2
 ·simp only[if_pos hk]
  have h3:al (x.m4 d2.ino).ino (bO ((mvD d1 d2 n1).bT n2 x.ino) (bO (d1.b_ n1) f.aa))=some x:=by
   rw[show(x.m4 d2.ino).ino=x.ino from rfl,bX,if_neg (by rw[show((mvD d1 d2 n1).bT n2 x.ino).ino=d2.ino from l8];exact fun e=>h.ne2 e.symm),bX,if_neg (show¬(d1.b_ n1).ino=x.ino from fun e=>h.ent.ne ht e.symm)];exact h.ent.hx
  refine⟨?_, ?_,fun n=> ?_⟩
  ·show(bO _ (bO _ (bO _ f.aa))).length=_
   rw[fD hs2,h3];exact a2
  ·show bytesOf (bO _ (bO _ (bO _ f.aa)))=_
   have:=eI (x:=x.m4 d2.ino) hs2;rw[h3] at this;have q:byt (x.m4 d2.ino)=byt x:=rfl;simp only[gj,q] at this;omega
  ·show fc n (bO _ (bO _ (bO _ f.aa)))=_
   have:=iR (x:=x.m4 d2.ino) hs2 n;rw[h3,c2] at this;have q:(x.m4 d2.ino).entries=x.entries:=rfl;simp only[gj,q] at this;omega
 ·simp only[if_neg hk]
  exact⟨a2,by show bytesOf (bO _ (bO _ f.aa))=_;omega,c2⟩
theorem Ss (h:Tree f) (hm:Mv f d1 n1 d2 n2 x e):Tree (mvF f d1 n1 d2 n2 x):=by
 have hx1:=hm.ent.ne h;have hx2:=hm.ne2;have hfind:=s8 hm h;obtain⟨s1,s2,s3⟩:=CM hm h;have hk1:=h.fz hm.ent.hd;have hk2:=h.fz hm.free.hd;have hkx:=h.fz hm.ent.hx;have hs:cK (mvF f d1 n1 d2 n2 x).aa:=yJ h;have hmx:(mvF f d1 n1 d2 n2 x).ak=f.ak∧(mvF f d1 n1 d2 n2 x).aw=f.aw∧(mvF f d1 n1 d2 n2 x).next=f.next:=by unfold mvF;split<;>exact⟨rfl,rfl,rfl⟩
 generalize mvF f d1 n1 d2 n2 x=g at hfind s1 s2 s3 hs hmx;obtain⟨m1,m2,m3⟩:=hmx;have hde:∀{e'},e'∈((mvD d1 d2 n1).bT n2 x.ino).entries↔e'=⟨n2,x.ino⟩∨e'∈(mvD d1 d2 n1).entries:=fun{e'}=>FX (a:=⟨n2,x.ino⟩) hm.K8
 have hmd:∀{e'},e'∈(mvD d1 d2 n1).entries↔e'∈d2.entries∧(d2.ino=d1.ino→e'≠e):=fun{e'}=>by
  unfold mvD;by_cases q:d1.ino=d2.ino
  ·rw[if_pos q,hm.ent.dg h,hm.same q]
   exact⟨fun⟨a,b⟩=>⟨a,fun _=>b⟩,fun⟨a,b⟩=>⟨a,b rfl⟩⟩
  ·rw[if_neg q]
   exact⟨fun a=>⟨a,fun q'=>absurd q'.symm q⟩,fun a=>a.1⟩
 have cs:∀k y,al k g.aa=some y→∃z,al k f.aa=some z∧y.kind=z.kind∧y.aL=z.aL∧y.data=z.data∧(k≠x.ino→y.parent=z.parent)∧(k=x.ino→z=x∧(x.kind=2→y.parent=d2.ino))∧eK y=true∧∀e',e'∈y.entries↔(k=d2.ino∧e'=⟨n2,x.ino⟩)∨(e'∈z.entries∧(k=d1.ino→e'≠e)):=fun k y hy=>by
  rw[hfind] at hy;by_cases e1:x.ino=k
  ·rw[if_pos e1] at hy
   subst e1;refine⟨x,hm.ent.hx, ?_⟩;have hee:∀e',e'∈x.entries↔(x.ino=d2.ino∧e'=⟨n2,x.ino⟩)∨(e'∈x.entries∧(x.ino=d1.ino→e'≠e)):=fun e'=>⟨fun a=>Or.inr ⟨a,fun b=>absurd b hx1⟩,fun a=>a.elim (fun b=>absurd b.1 hx2) And.left⟩
   by_cases hk:x.kind=2
   ·rw[if_pos hk] at hy;cases hy
    refine⟨rfl,rfl,rfl,fun a=>absurd rfl a,fun _=>⟨rfl,fun _=>rfl⟩, ?_,hee⟩;have:=hkx.1;rw[wB hk] at this;rw[wB (show(x.m4 d2.ino).kind=2 from hk)];exact this
   ·rw[if_neg hk] at hy;cases hy
    exact⟨rfl,rfl,rfl,fun a=>absurd rfl a,fun _=>⟨rfl,fun a=>absurd a hk⟩,hkx.1,hee⟩
  ·rw[if_neg e1] at hy
   by_cases e2:d2.ino=k
   ·rw[if_pos e2] at hy;cases hy
    subst e2;refine⟨d2,hm.free.hd, ?_, ?_, ?_,fun _=> ?_,fun a=>absurd a.symm e1,lR (hm.Uf h) (hm.dk h) (qy (hm.GN h) hm.free.hm hkx.2.2.1),fun e'=> ?_⟩
    ·show(mvD d1 d2 n1).kind=_
     rw[hm.dk h,hm.free.hk]
    ·show(mvD d1 d2 n1).aL=_
     unfold mvD;split
     ·rename_i q;rw[hm.same q];rfl
     ·rfl
    ·show(mvD d1 d2 n1).data=_
     unfold mvD;split
     ·rename_i q;rw[hm.same q];rfl
     ·rfl
    ·show(mvD d1 d2 n1).parent=_
     unfold mvD;split
     ·rename_i q;rw[hm.same q];rfl
     ·rfl
    ·rw[hde,hmd]
     exact⟨fun a=>a.imp (fun b=>⟨rfl,b⟩) id,fun a=>a.imp And.right id⟩
   ·rw[if_neg e2] at hy
    by_cases e3:d1.ino=k
    ·rw[if_pos e3] at hy;cases hy
     subst e3;refine⟨d1,hm.ent.hd,rfl,rfl,rfl,fun _=>rfl,fun a=>absurd a.symm e1,lR hk1.1 (hm.ent.kind h) (mn hk1.2.2.2.2.2),fun e'=> ?_⟩;rw[hm.ent.dg h];exact⟨fun⟨a,b⟩=>Or.inr ⟨a,fun _=>b⟩,fun a=>a.elim (fun b=>absurd b.1.symm e2) (fun b=>⟨b.1,b.2 rfl⟩)⟩
    ·rw[if_neg e3] at hy
     exact⟨y,hy,rfl,rfl,rfl,fun _=>rfl,fun a=>absurd a.symm e1,(h.fz hy).1,fun e'=>⟨fun a=>Or.inr ⟨a,fun b=>absurd b.symm e3⟩,fun a=>a.elim (fun b=>absurd b.1.symm e2) And.left⟩⟩
 have on:∀k z,al k f.aa=some z→∃y,al k g.aa=some y:=fun k z hz=>by
  rw[hfind];by_cases e1:x.ino=k
  ·rw[if_pos e1];exact⟨_,rfl⟩
  ·rw[if_neg e1]
   by_cases e2:d2.ino=k
   ·rw[if_pos e2];exact⟨_,rfl⟩
   ·rw[if_neg e2]
    by_cases e3:d1.ino=k
    ·rw[if_pos e3];exact⟨_,rfl⟩
    ·rw[if_neg e3];exact⟨z,hz⟩
 have wT:∀k z e',al k f.aa=some z→e'∈z.entries→(k=d1.ino→e'≠e)→∃y,al k g.aa=some y∧e'∈y.entries:=fun k z e' hz he hne=>by
  obtain⟨y,hy⟩:=on k z hz;obtain⟨z',hz',_,_,_,_,_,_,h8⟩:=cs k y hy;rw[hz] at hz';cases hz';exact⟨y,hy,(h8 e').2 (Or.inr ⟨he,hne⟩)⟩
 have rA:∀k,Reach f.aa k→(¬∃n,Way f.aa x.ino k n)→Reach g.aa k:=fun k hr=>by
  induction hr with
  |root=>exact fun _=> .root
  |step hr hz he ih=>
   rename_i k' z e';intro hn;obtain⟨y,hy,hey⟩:=wT k' z e' hz he (fun _ e1=>hn ⟨0,by rw[e1,hm.ent.hn];exact .here⟩);exact Reach.step (ih (fun⟨n,hw⟩=>hn ⟨n+1, .step hw hz he⟩)) hy hey
 have rB:Reach g.aa x.ino:=by
  obtain⟨y,hy⟩:=on d2.ino d2 hm.free.hd;obtain⟨_,_,_,_,_,_,_,_,h8⟩:=cs _ y hy;exact Reach.step (e:=⟨n2,x.ino⟩) (rA _ (h.qd hm.free.hd) hm.out) hy ((h8 _).2 (Or.inl ⟨rfl,rfl⟩))
 have hloop:¬∃n,Way f.aa x.ino d1.ino n:=fun⟨n,hw⟩=>by
  obtain⟨a,ha⟩:=(h.qd hm.ent.hd).way;exact h.xJ ha hm.ent.hd hm.ent.mem.1 (by rw[hm.ent.hn];exact hw)
 have rC:∀k n,Way f.aa x.ino k n→Reach g.aa k:=fun k n hw=>by
  induction hw with
  |here=>exact rB
  |step hw hz he ih=>
   rename_i k' n' z e';obtain⟨y,hy,hey⟩:=wT k' z e' hz he (fun e1 _=>hloop ⟨n',by rw[←e1];exact hw⟩);exact Reach.step ih hy hey
 obtain⟨r,hr,hrk,hrp⟩:=h.root;have hx0:x.ino≠1:=fun e1=>h.uB hm.ent.hd hm.ent.mem.1 (by rw[hm.ent.hn,e1])
 refine pw (by rw[m1];exact h.r_) (by rw[m2];exact h.se) (by rw[m3];exact h.next) hs (fun k y hy=> ?_) ?_ (fun k y hy=> ?_) (fun k y hy e' he'=> ?_) (fun k y hy=> ?_) ?_ (fun k y hy hd=> ?_) (fun k y hy hd j z hz e' he' hn=> ?_) (fun k y hy=> ?_) ?_
 ·obtain⟨z,hz,_⟩:=cs k y hy
  rw[m3];have:=h.fz hz;exact⟨this.2.2.1,this.2.2.2.1⟩
 ·obtain⟨y,hy⟩:=on 1 r hr
  obtain⟨z,hz,c1,_,_,c4,_⟩:=cs _ y hy;rw[hr] at hz;cases hz;exact⟨y,hy,by rw[c1];exact hrk,by rw[c4 (fun e=>hx0 e.symm)];exact hrp⟩
 ·obtain⟨z,hz,_,_,_,_,_,c7,_⟩:=cs k y hy
  exact c7
 ·obtain⟨z,hz,_,_,_,_,_,_,c8⟩:=cs k y hy
  rcases(c8 e').1 he' with⟨_,rfl⟩ |⟨he,_⟩
  ·exact on _ x hm.ent.hx
  ·obtain⟨z',hz'⟩:=h.to hz he
   exact on _ z' hz'
 ·obtain⟨z,hz,_,c2,_⟩:=cs k y hy
  rw[s3,c2];exact(h.fz hz).2.1
 ·rw[s3];exact h.pM
 ·obtain⟨z,hz,c1,_⟩:=cs k y hy
  rw[s3];exact h.rH hz (by rw[←c1];exact hd)
 ·obtain⟨y0,hy0,c1,_,_,c4,c5,_⟩:=cs k y hy
  obtain⟨z0,hz0,_,_,_,_,_,_,c8⟩:=cs j z hz;rcases(c8 e').1 he' with⟨rfl,rfl⟩ |⟨he,hne⟩
  ·have hn:x.ino=k:=hn
   obtain⟨a,b⟩:=c5 hn.symm;rw[a] at c1;exact b (by rw[←c1];exact hd)
  ·by_cases hkx0:k=x.ino
   ·exfalso
    obtain⟨a,b⟩:=c5 hkx0;have hxk:x.kind=2:=by rw[←a,←c1];exact hd
    obtain⟨q1,q2,q3⟩:=h.up hz0 he hm.ent.hd hm.ent.mem.1 (by rw[hn,hkx0,hm.ent.hn]) (y:=x) (by rw[hn,hkx0];exact hm.ent.hx) hxk;exact hne q1 q3
   ·rw[c4 hkx0]
    exact h.parent hy0 (by rw[←c1];exact hd) hz0 he hn
 ·obtain⟨z,hz,_⟩:=cs k y hy
  by_cases hb:∃n,Way f.aa x.ino k n
  ·obtain⟨n,hw⟩:=hb
   exact rC k n hw
  ·exact rA k (h.qd hz) hb
 ·have hff:=h.fits
  unfold dZ at hff⊢;simp only[Bool.and_eq_true,decide_eq_true_eq] at hff⊢;rw[s1,s2,m1,m2];exact hff
end
end Go.Eng
set_option linter.unusedSimpArgs false
set_option linter.unusedVariables false
set_option linter.unusedSectionVars false
namespace Go.Eng
open Go
structure Ext (f g:Fs) (D:Int) (N:Str) (x:ah):Prop where
 wf:WS f
 wg:WS g
 old:∀k a,al k f.aa=some a→∃b,al k g.aa=some b∧a.ino=b.ino∧a.kind=b.kind∧a.parent=b.parent∧(a.kind=3→a.data=b.data)∧∀n,(k=D∧n=N)∨b9 n b.entries=b9 n a.entries
 new:al x.ino g.aa=some x
 was:∀d,al D f.aa=some d→b9 N d.entries=0
 now:∀d,al D g.aa=some d→b9 N d.entries=x.ino
 pos:D≠0
def mc (D:Int) (N:Str) (i:Int) (s:aj):aj:=if s.dir=D∧s.name=N then ⟨D,N,i⟩ else s
def OkS (f:Fs) (D:Int) (N:Str) (s:aj):Prop:=(s.dir=D∧s.name=N→s.ino=0)∧(s.ino=0∨(al s.ino f.aa).isSome=true)
section
variable {f g:Fs} {D:Int} {N:Str} {x:ah}
theorem kN {s:aj} {i:Int} (h:¬(s.dir=D∧s.name=N)):mc D N i s=s:=by unfold mc;rw[if_neg h]
theorem OkS.ne {s:aj} (h:OkS f D N s) (h0:s.ino≠0):¬(s.dir=D∧s.name=N):=fun e=>h0 (h.1 e)
theorem Ext.here (h:Ext f g D N x) {j:Int} {d:ah} (hj:al j f.aa=some d):mc D N x.ino ⟨0, [],j⟩=⟨0, [],j⟩∧OkS f D N ⟨0, [],j⟩:=
 ⟨kN fun e=>h.pos e.1.symm,fun e=>absurd e.1.symm h.pos,Or.inr (by show(al j f.aa).isSome=true;rw[hj];rfl)⟩
theorem Ext.look (h:Ext f g D N x) {k:Int} {d b:ah} (hd:al k f.aa=some d) (hb:al k g.aa=some b) (n:Str):(⟨b.ino,n,b9 n b.entries⟩:aj)=mc D N x.ino ⟨d.ino,n,b9 n d.entries⟩∧OkS f D N ⟨d.ino,n,b9 n d.entries⟩:=by
 have d2:=(aN hd).2;have b2:=(aN hb).2;constructor
 ·by_cases hs:d.ino=D∧n=N
  ·obtain⟨e1,rfl⟩:=hs
   unfold mc;rw[if_pos ⟨e1,rfl⟩,h.now b (by rw[←e1,d2];exact hb),b2,←d2,e1]
  ·rw[kN hs]
   obtain⟨b',hb',_,_,_,_,h5⟩:=h.old k d hd;rw[hb] at hb';cases hb';rcases h5 n with⟨e1,e2⟩ |h5
   ·exact absurd ⟨by rw[d2,e1],e2⟩ hs
   ·rw[h5,b2,d2]
 ·refine⟨fun e=> ?_, ?_⟩
  ·obtain⟨e1,e2⟩:=e
   have e1:d.ino=D:=e1;have e2:n=N:=e2;show b9 n d.entries=0;rw[e2];exact h.was d (by rw[←e1,d2];exact hd)
  ·exact gA h.wf.wf (aN hd).1 n
theorem Ext.cD (h:Ext f g D N x):∀(ns:List Str) (s t:aj),OkS f D N s→cD f.aa ns s=(t,0)→cD g.aa ns (mc D N x.ino s)=(mc D N x.ino t,0)∧OkS f D N t
 | [],s,t,hs,hg=>by
  simp only[Go.Eng.cD,Prod.mk.injEq] at hg⊢;obtain⟨rfl,_⟩:=hg;exact⟨⟨rfl,trivial⟩,hs⟩
 |n::ns,s,t,hs,hg=>by
  cases hf:al s.ino f.aa with
  |none=>rw[il hf] at hg;simp at hg
  |some d=>
   by_cases hk:d.kind=2
   ·rw[fk hf hk] at hg
    have h0:s.ino≠0:=fun e=>by rw[e,h.wf.wf.zero] at hf;cases hf
    rw[kN (hs.ne h0)];obtain⟨b,hb,_,h2,_⟩:=h.old _ d hf;obtain⟨l1,l2⟩:=h.look hf hb n;rw[fk hb (by rw[←h2];exact hk),l1];exact Ext.cD h ns _ t l2 hg
   ·rw[iC hf hk] at hg;simp at hg
theorem Ext.fz (h:Ext f g D N x) {k:Int} (hk:k=0∨(al k f.aa).isSome=true):(aB k g.aa).kind=(aB k f.aa).kind∧((aB k f.aa).kind=3→(aB k f.aa).data=(aB k g.aa).data):=by
 rcases hk with rfl|hk
 ·rw[cW h.wf.wf.zero,cW h.wg.wf.zero];exact⟨rfl,fun _=>rfl⟩
 ·obtain⟨a,ha⟩:=Option.isSome_iff_exists.1 hk
  obtain⟨b,hb,_,h2,_,h4,_⟩:=h.old k a ha;rw[ba ha,ba hb];exact⟨h2.symm,h4⟩
theorem Ext.m7 (h:Ext f g D N x) {dir:Bool} (hx:dir=true→x.kind=2) {s t:aj} (hs:OkS f D N s) (he:m7 f.aa dir s=(t,0)):m7 g.aa dir (mc D N x.ino s)=(mc D N x.ino t,0)∧OkS f D N t:=by
 have ht:t=s:=by
  unfold Go.Eng.m7 at he;split at he
  ·split at he
   ·simp at he
   ·exact(Prod.mk.inj he).1.symm
  ·exact(Prod.mk.inj he).1.symm
 subst ht;refine⟨?_,hs⟩;by_cases hsp:t.dir=D∧t.name=N
 ·have:mc D N x.ino t=⟨D,N,x.ino⟩:=by unfold mc;rw[if_pos hsp]
  rw[this];unfold Go.Eng.m7;simp only;rw[h.new];simp only;rw[if_neg (fun e=>e.2 (hx e.1))]
 ·rw[kN hsp]
  unfold Go.Eng.m7 at he⊢;rcases hs.2 with h0|h0
  ·rw[h0,h.wg.wf.zero]
  ·obtain⟨a,ha⟩:=Option.isSome_iff_exists.1 h0
   obtain⟨b,hb,_,h2,_⟩:=h.old _ a ha;rw[ha] at he;rw[hb];simp only at he⊢;rw[←h2];exact he
theorem Ext.cA (h:Ext f g D N x) {lnk lnk':Bool→ah→ah→List Str→aj×Int} {dir:Bool} (hx:dir=true→x.kind=2)
 (hl:∀(a b d d':ah) (rest:List Str) (t:aj),(rest≠ [] ∨dir=true)→a.data=b.data→d.ino=d'.ino→(∃z,al d.ino f.aa=some z)→lnk dir a d rest=(t,0)→lnk' dir b d' rest=(mc D N x.ino t,0)∧OkS f D N t):
 ∀(todo:List Str) (s t:aj),OkS f D N s→cA f.aa false lnk dir todo s=(t,0)→cA g.aa false lnk' dir todo (mc D N x.ino s)=(mc D N x.ino t,0)∧OkS f D N t
 | [],s,t,hs,hg=>h.m7 hx hs hg
 |n::rest,s,t,hs,hg=>by
  cases hf:al s.ino f.aa with
  |none=>rw[gJ hf] at hg;simp at hg
  |some d=>
   by_cases hk:d.kind=2
   ·have h0:s.ino≠0:=fun e=>by rw[e,h.wf.wf.zero] at hf;cases hf
    rw[kN (hs.ne h0)];obtain⟨b,hb,h1,h2,h3,_⟩:=h.old _ d hf;have hkb:b.kind=2:=by rw[←h2];exact hk
    by_cases n1:n=[46]
    ·rw[iM hf hk n1] at hg
     rw[iM hb hkb n1,←h1];have hd:al d.ino f.aa=some d:=by rw[(aN hf).2];exact hf
     obtain⟨u1,u2⟩:=h.here hd;have:=Ext.cA h hx hl rest _ t u2 hg;rwa[u1] at this
    ·by_cases n2:n=[46,46]
     ·rw[jS hf hk n2] at hg
      rw[jS hb hkb n2,←h3];obtain⟨y,hy,_⟩:=h.wf.par d (aN hf).1 hk;obtain⟨u1,u2⟩:=h.here hy;have:=Ext.cA h hx hl rest _ t u2 hg;rwa[u1] at this
     ·obtain⟨l1,l2⟩:=h.look hf hb n
      by_cases hsp:d.ino=D∧n=N
      ·have hz:b9 n d.entries=0:=l2.1 hsp
       have hki:(aB (b9 n d.entries) f.aa).kind=0:=by rw[hz,cW h.wf.wf.zero];rfl
       rw[fu hf hk n1 n2 (fun c=>by rw[hki] at c;exact absurd c.1 (by decide))] at hg;cases rest with
       |nil=>
        have hb2:b9 n b.entries=x.ino:=by
         rw[hsp.2];exact h.now b (by rw[←hsp.1,(aN hf).2];exact hb)
        rw[fu hb hkb n1 n2 (fun c=>by
         rw[hb2,ba h.new] at c;have:=hx (by simpa using c.2);omega),l1]
        exact h.m7 hx l2 hg
       |cons m rest=>
        rw[hz,gJ (h.wf.wf.zero)] at hg;simp at hg
      ·rw[kN hsp] at l1
       have e1:b9 n b.entries=b9 n d.entries:=(aj.mk.inj l1).2.2;obtain⟨k1,k2⟩:=h.fz l2.2;by_cases c:(aB (b9 n d.entries) f.aa).kind=3∧(rest≠ [] ∨false=true∨dir=true)
       ·rw[dL hf hk n1 n2 c] at hg
        rw[dL hb hkb n1 n2 (by rw[e1];exact⟨by rw[k1];exact c.1,c.2⟩),e1];refine hl _ _ _ _ _ _ (by simpa using c.2) (k2 c.1) h1 ⟨d,by rw[(aN hf).2];exact hf⟩ hg
       ·rw[fu hf hk n1 n2 c] at hg
        rw[fu hb hkb n1 n2 (by rw[e1];exact fun c'=>c ⟨by rw[←k1];exact c'.1,c'.2⟩),l1];have:=Ext.cA h hx hl rest _ t l2 hg;rwa[kN hsp] at this
   ·rw[iZ hf hk] at hg;simp at hg
theorem Ext.onK (h:Ext f g D N x):∀(k:Nat) (dir:Bool) (todo:List Str) (s t:aj),(dir=true→x.kind=2)→OkS f D N s→onK f.aa false k dir todo s=(t,0)→onK g.aa false k dir todo (mc D N x.ino s)=(mc D N x.ino t,0)∧OkS f D N t
 |0,dir,todo,s,t,hx,hs,hg=>h.cA hx (fun a b d d' rest t _ _ _ _ hh=>by simp at hh) todo s t hs hg
 |k+1,dir,todo,s,t,hx,hs,hg=>by
  refine h.cA hx (fun a b d d' rest t hr hd hi ⟨z,hz⟩ hh=> ?_) todo s t hs hg;rw[←hd,←hi];by_cases hl:jg a.data=true
  ·rw[if_pos hl] at hh;simp at hh
  ·rw[if_neg hl] at hh⊢
   have hj:∃z',al (if (bx a.data).abs=true then 1 else d.ino) f.aa=some z':=by
    split
    ·exact Option.isSome_iff_exists.1 h.wf.wf.root
    ·exact⟨z,hz⟩
   obtain⟨z',hz'⟩:=hj;obtain⟨u1,u2⟩:=h.here hz';have:=Ext.onK h k _ _ _ t (fun hd'=>hx (by
    rw[Bool.or_eq_true,Bool.and_eq_true] at hd';rcases hd' with hd'|⟨_,hd'⟩
    ·exact hd'
    ·rcases hr with hr|hr
     ·exact absurd (by simpa using hd') hr
     ·exact hr)) u2 hh
   rwa[u1] at this
theorem Ext.home (h:Ext f g D N x) {base:Str} (h0:(gd f base).2=0):gd g base=gd f base:=by
 unfold gd at h0⊢;by_cases h1:(kC f base).2=0
 ·rw[if_pos h1] at h0⊢
  by_cases h2:(kC f base).1.kind=2
  ·rw[if_pos h2] at h0⊢
   unfold kC at h1 h2⊢;by_cases h3:(atP f base).2=0
   ·rw[if_pos h3] at h1 h2⊢
    cases hf:al (atP f base).1.ino f.aa with
    |none=>rw[hf] at h1;simp at h1
    |some y=>
     rw[hf] at h2;simp only at h2⊢;have hat:atP g base=atP f base:=by
      unfold atP at h3 hf⊢;split at h3
      ·rename_i hp
       rw[if_pos hp] at hf⊢;obtain⟨r,hr,_⟩:=h.wf.yR;obtain⟨u1,u2⟩:=h.here hr;generalize hgo:Go.Eng.cD f.aa (fg base).1 dG=q at*;obtain⟨t,z⟩:=q;simp only at h3 hf;subst h3;obtain⟨g1,g2⟩:=h.cD _ _ t u2 hgo;rw[u1] at g1;rw[show dG=(⟨0, [],1⟩:aj) from rfl,g1,kN (g2.ne fun e=>by rw[e,h.wf.wf.zero] at hf;cases hf),if_pos hp]
      ·simp at h3
     obtain⟨b,hb,e1,e2,_⟩:=h.old _ y hf;rw[hat,if_pos h3,hb];simp only;rw[←e1,←e2,if_pos h2];rfl
   ·rw[if_neg h3] at h1;exact absurd h1 h3
  ·rw[if_neg h2] at h0;simp at h0
 ·rw[if_neg h1] at h0;exact absurd h0 h1
theorem Ext.afg (h:Ext f g D N x) {base p:Str} (hx:(bx p).bM=true→x.kind=2) {t:aj} (hg:aG f base p false=(t,0)):aG g base p false=(mc D N x.ino t,0)∧OkS f D N t:=by
 unfold aG at hg⊢;by_cases h1:p= []
 ·rw[if_pos h1] at hg;simp at hg
 rw[if_neg h1] at hg⊢;by_cases h2:jg p=true
 ·rw[if_pos h2] at hg;simp at hg
 rw[if_neg h2] at hg⊢;by_cases h3:(bx p).abs=true
 ·rw[if_pos h3] at hg⊢
  obtain⟨r,hr,_⟩:=h.wf.yR;obtain⟨u1,u2⟩:=h.here hr;have:=h.onK 40 _ _ _ t hx u2 hg;rwa[u1] at this
 ·rw[if_neg h3] at hg⊢
  by_cases h4:(gd f base).2=0
  ·rw[if_pos h4] at hg
   have hh:=h.home h4;rw[hh,if_pos h4];obtain⟨d,hd,_⟩:=wa h.wf.wf h4;obtain⟨u1,u2⟩:=h.here hd;have:=h.onK 40 _ _ _ t hx u2 hg;rwa[u1] at this
  ·rw[if_neg h4] at hg
   exact absurd (Prod.mk.inj hg).2 h4
end
end Go.Eng
set_option linter.unusedSimpArgs false
set_option linter.unusedVariables false
namespace Go.Eng
open Go
theorem vn {f:Fs} {n:Int} (hs:cK f.aa) (hl:f.aa.length≤1073741824):my f n=some (f.drop n):=by
 unfold my Fs.drop;rw[nH hs hl];simp only[af];generalize f.aa=l at hs hl;cases h:w7 n l
 ·have hf:=wE hs h
  have e9:ij n l=l:=o5 hf;rw[e9];refine kO (fun e=> ?_) ?_
  ·subst e;rfl
  ·rw[bK (by unfold LIM;simp;omega)]
   simp only[ax,List.nil_append]
 ·obtain⟨x,hx,hxn⟩:=wi h
  have e9:ij n l=l.take (jq n l)++l.drop (jq n l+1):=oh loI hs hx hxn;rw[e9];have hlt:jq n l<l.length:=(List.getElem?_eq_some_iff.1 hx).1;clear h hx e9;generalize jq n l=c at hlt;refine kO (fun e=>by subst e;simp at hlt) ?_;rw[bK (by unfold LIM;simp;omega)];have e1:IntKind.i64.wrap ((c:Int)+(1:Int))=((c+1:Nat):Int):=aX (by omega);have hS:(l.drop (c+1)).take (l.length - (c+1))=l.drop (c+1):=by rw[List.take_of_length_le];simp
  have hSl:(l.drop (c+1)).length=l.length - (c+1):=by simp
  have e2:(c:Int)+((l.length - (c+1):Nat):Int)=((l.length - 1:Nat):Int):=by omega
  simp only[aq,List.nil_append,e1,toNat_cast,Nat.zero_add,hS,hSl,e2];have e3:c+(l.length - (c+1))=l.length - 1:=by omega
  simp only[e3];have hM:(l.take c++(l.drop (c+1)++l.drop (l.length - 1))).length=l.length:=by simp;omega
  have hT:(l.take c++(l.drop (c+1)++l.drop (l.length - 1))).take (l.length - 1)=l.take c++l.drop (c+1):=by
   rw[←List.append_assoc];exact take_set (by simp;omega)
  simp only[hT,hM];have hA:(l.take c++l.drop (c+1)).length=l.length - 1:=by simp;omega
  have hQ:∀X:List ah,(((l.take c++l.drop (c+1))++X).drop 0).take (l.length - 1)=l.take c++l.drop (c+1):=fun X=>by
   rw[List.drop_zero];exact take_set hA
  rw[aE (by simp),aE (by simp;omega),aE (by simp;omega),aR (by simp;omega),aE (by simp;omega),aE (by simp;omega),aE (Nat.ble_eq_true_of_le (by omega)),aE (Nat.ble_eq_true_of_le (by omega)),aE (decide_eq_true (by omega)),aE (by simp),aE (Nat.ble_eq_true_of_le (by omega)),aE (Nat.ble_eq_true_of_le (by simp;omega)),hQ]
theorem u_ {f:Fs} (hl:f.aa.length≤1073741824) (h0: -9223372036854775808≤f.next) (h1:f.next<9223372036854775807):iE f=some (⟨f.ak,f.aw,f.next+1,f.aa⟩,f.next):=by
 unfold iE;have e1:IntKind.i64.wrap (f.next+(1:Int))=f.next+1:=bC (by omega) (by omega);rw[e1];refine kO (fun e=>by rw[e]) ?_;rw[bK (by unfold LIM;simp;omega),List.nil_append]
end Go.Eng
set_option linter.unusedSimpArgs false
set_option linter.unusedVariables false
set_option linter.unusedSectionVars false
namespace Go.Eng
open Go
def qV (f:Fs) (s:aj) (k:Int) (d:Str):ah:=⟨f.next,k,1,d,if k=2 then s.dir else 0, []⟩
def uc (f:Fs) (s:aj) (k:Int) (d:Str):Fs:=⟨f.ak,f.aw,f.next+1,bO (qV f s k d) (bO ((aB s.dir f.aa).bT s.name f.next) f.aa)⟩
def pZ (f:Fs) (s:aj) (k:Int) (d:Str):Fs×Int:=if cS s.name=true then (if dZ f 1 (if k=1 then (d.length:Int) else 0)=true then (uc f s k d,0) else (f,8)) else (f,9)
def jC (f:Fs) (base p:Str) (k:Int) (d:Str) (r:Int):Fs×Int:=
 if (aG f base p false).2=0 then (if (aG f base p false).1.ino=0 then (if r≠0∧(bx p).bM=true then (f,r) else pZ f (aG f base p false).1 k d) else (f,2)) else (f,(aG f base p false).2)
def qt (f:Fs) (base t p:Str):Fs×Int:=
 if t= [] then (f,1) else if 4095<t.length then (f,7) else if t.any (fun b=>b==0)=true then (f,9) else jC f base p 3 t 1
section
variable {f:Fs} {base p d:Str} {s:aj} {k:Int}
theorem pJ (h:WF f) (hl:f.aa.length≤1000000000) (he:(aB s.dir f.aa).entries.length≤1000000000) {nx:Int} {x:ah}:
 bG ⟨f.ak,f.aw,nx,f.aa⟩ ((aB s.dir f.aa).bT s.name f.next)=some ⟨f.ak,f.aw,nx,bO ((aB s.dir f.aa).bT s.name f.next) f.aa⟩∧
 bG ⟨f.ak,f.aw,nx,bO ((aB s.dir f.aa).bT s.name f.next) f.aa⟩ x=some ⟨f.ak,f.aw,nx,bO x (bO ((aB s.dir f.aa).bT s.name f.next) f.aa)⟩∧
 bN f ((aB s.dir f.aa).bT s.name f.next)=some (f.set ((aB s.dir f.aa).bT s.name f.next))∧
 bN (f.set ((aB s.dir f.aa).bT s.name f.next)) x=some ((f.set ((aB s.dir f.aa).bT s.name f.next)).set x):=by
 have h1:= @jz f ((aB s.dir f.aa).bT s.name f.next);have h2:(bO ((aB s.dir f.aa).bT s.name f.next) f.aa).length≤f.aa.length+1:=h1;refine⟨cU (f:=⟨f.ak,f.aw,nx,f.aa⟩) h.sort (by show f.aa.length≤_;omega),cU (f:=⟨f.ak,f.aw,nx,_⟩) (cl h.sort) (by show(bO _ f.aa).length≤_;omega),dq (by omega),dq (by omega)⟩
theorem vr (h:WF f) (hn:s.name.length≤1099511627775) (hd:d.length≤1073741824) (hl:f.aa.length≤1000000000) (h0: -1152921504606846976≤f.next) (h1:f.next≤1152921504606846976) (he:(aB s.dir f.aa).entries.length≤1000000000):gB f s k d=some (pZ f s k d):=by
 unfold gB pZ uc qV;have hw:dE (aB s.dir f.aa).entries s.name f.next=some (fS ⟨s.name,f.next⟩ (aB s.dir f.aa).entries):=lC (pn h _) (by omega);have ht:iE f=some (⟨f.ak,f.aw,f.next+1,f.aa⟩,f.next):=u_ (by omega) (by omega) (by omega);have c1:=fun x=>(pJ (s:=s) h hl he (nx:=f.next+1) (x:=x)).1
 have c2:=fun x=>(pJ (s:=s) h hl he (nx:=f.next+1) (x:=x)).2.1
 rw[k6 hn,af,af,mW h.sm (by unfold Far;omega) (by unfold Far;omega),mW h.sm (by unfold Far;omega) (by unfold Far;omega),h.get,ht];simp only[af,eX];rw[hw];simp only[af];have c1':=c1 eN;unfold ah.bT ah.rK at c1';rw[c1'];simp only[af];have c2':=c2;unfold ah.bT ah.rK at c2';simp only[c2',af];by_cases hk1:k=1
 ·subst hk1
  simp only[decide_true,aq,if_true];cases cS s.name
  ·rfl
  cases dZ f 1 (d.length:Int)
  ·rfl
  ·rfl
 ·simp only[hk1,decide_false,ax,if_false]
  cases cS s.name
  ·rfl
  cases dZ f 1 0
  ·rfl
  by_cases hk2:k=2
  ·simp only[hk2,decide_true,if_true];rfl
  ·simp only[hk2,decide_false,if_false];rfl
theorem p7 (h:WF f) (hn:s.name.length≤1099511627775) (hd:d.length≤1073741824) (hl:f.aa.length≤1000000000) (h0: -1152921504606846976≤f.next) (h1:f.next≤1152921504606846976) (he:(aB s.dir f.aa).entries.length≤1000000000):jW f s k d=some (pZ f s k d):=by
 unfold jW pZ uc qV;have hw:eF (aB s.dir f.aa).entries s.name f.next=some (fS ⟨s.name,f.next⟩ (aB s.dir f.aa).entries):=lr (by omega);have c1:=fun x=>(pJ (s:=s) h hl he (nx:=f.next+1) (x:=x)).2.2.1
 have c2:=fun x=>(pJ (s:=s) h hl he (nx:=f.next+1) (x:=x)).2.2.2
 rw[ie hn,af,iU h.sm (by unfold Far;omega) (by unfold Far;omega),iU h.sm (by unfold Far;omega) (by unfold Far;omega),h.m8];simp only[af,eX];rw[hw];simp only[af];have c1':=c1 eN;unfold ah.bT ah.rK at c1';rw[c1'];simp only[af];have c2':=c2;unfold ah.bT ah.rK at c2';simp only[c2',af];have hw1:IntKind.i64.wrap (f.next+(1:Int))=f.next+1:=bC (by omega) (by omega);simp only[Fs.set,hw1];cases cS s.name
 ·rfl
 by_cases hk1:k=1
 ·subst hk1
  simp only[decide_true,aq,if_true,Bool.not_true,ax];cases dZ f 1 (d.length:Int)
  ·rfl
  ·rfl
 ·simp only[hk1,decide_false,ax,if_false,Bool.not_true]
  cases dZ f 1 0
  ·rfl
  by_cases hk2:k=2
  ·simp only[hk2,decide_true,if_true];rfl
  ·simp only[hk2,decide_false,if_false];rfl
theorem xj (h:WS f) {r:Int} (hb:base.length≤8388608) (hp:p.length≤1073741823) (hd:d.length≤1073741824) (hl:f.aa.length≤1000000000) (h0: -1152921504606846976≤f.next) (h1:f.next≤1152921504606846976) (he:∀x∈f.aa,x.entries.length≤1000000000) (hn:(aG f base p false).1.name.length≤1099511627775):
 iB f base p k d r=some (jC f base p k d r):=by
 unfold iB jC;have hge:(aB (aG f base p false).1.dir f.aa).entries.length≤1000000000:=by
  cases hf:al (aG f base p false).1.dir f.aa with
  |none=>rw[cW hf];simp [eN]
  |some x=>rw[ba hf];exact he x (aN hf).1
 rw[dI h hb hp,af,dp,dp,dp,gm hp,af,p7 h.wf hn hd hl h0 h1 hge];simp only[af];by_cases z0:(aG f base p false).2=0
 ·rw[aR (by simp [z0]),if_pos z0]
  by_cases z1:(aG f base p false).1.ino=0
  ·rw[aR (by simp [z1]),if_pos z1]
   by_cases z2:r=0
   ·rw[aR (by simp [z2]),if_neg (by simp [z2])]
   ·rw[aE (by simp [z2])]
    cases z3:(bx p).bM
    ·rw[if_neg (by simp)];rfl
    ·rw[if_pos (by simp [z2])];rfl
  ·rw[aE (by simp [z1]),if_neg z1]
 ·rw[aE (by simp [z0]),if_neg z0]
end
end Go.Eng
set_option linter.unusedSimpArgs false
set_option linter.unusedVariables false
set_option linter.unusedSectionVars false
namespace Go.Eng
open Go
section
variable {l:List ah} {fol:Bool}
theorem G9 {dir:Bool} {s:aj} (hs:s.name.length≤255):(m7 l dir s).1.name.length≤255:=by
 unfold m7;split
 ·split
  ·simp [eL]
  ·exact hs
 ·exact hs
theorem lZ {lnk:Bool→ah→ah→List Str→aj×Int} {dir:Bool} (hl:∀x d rest,(∀n∈rest,n.length≤255)→(lnk dir x d rest).1.name.length≤255):
 ∀(todo:List Str) (s:aj),(∀n∈todo,n.length≤255)→s.name.length≤255→(cA l fol lnk dir todo s).1.name.length≤255
 | [],s,_,hs=>G9 hs
 |n::rest,s,hn,hs=>by
  have hrest:∀m∈rest,m.length≤255:=fun m hm=>hn m (by simp [hm])
  cases hf:al s.ino l with
  |none=>rw[gJ hf];simp [eL]
  |some d=>
   by_cases hk:d.kind=2
   ·by_cases h1:n=[46]
    ·rw[iM hf hk h1];exact lZ hl rest _ hrest (by simp)
    ·by_cases h2:n=[46,46]
     ·rw[jS hf hk h2];exact lZ hl rest _ hrest (by simp)
     ·by_cases h3:(aB (b9 n d.entries) l).kind=3∧(rest≠ [] ∨fol=true∨dir=true)
      ·rw[dL hf hk h1 h2 h3];exact hl _ _ _ hrest
      ·rw[fu hf hk h1 h2 h3];exact lZ hl rest _ hrest (hn n (by simp))
   ·rw[iZ hf hk];simp [eL]
theorem rZ {p:Str} (h:jg p=false):∀n∈cf p,n.length≤255:=by
 intro n hn;unfold jg at h;simp only[Bool.or_eq_false_iff] at h;have:=List.any_eq_false.1 h.1 n hn;simpa using this
theorem Bn:∀(k:Nat) (dir:Bool) (todo:List Str) (s:aj),(∀n∈todo,n.length≤255)→s.name.length≤255→(onK l fol k dir todo s).1.name.length≤255
 |0,dir,todo,s,hn,hs=>lZ (fun x d rest _=>by simp [eL]) todo s hn hs
 |k+1,dir,todo,s,hn,hs=>by
  refine lZ (fun x d rest hr=> ?_) todo s hn hs;split
  ·simp [eL]
  ·rename_i hlp
   refine Bn k _ _ _ (fun n hn'=> ?_) (by simp);simp only[List.mem_append] at hn';rcases hn' with hn'|hn'
   ·exact rZ (by simpa using hlp) n hn'
   ·exact hr n hn'
theorem jc (f:Fs) (base p:Str) (fol:Bool):(aG f base p fol).1.name.length≤255:=by
 unfold aG;split
 ·simp [eL]
 ·split
  ·simp [eL]
  ·rename_i hlp
   have hn:=rZ (p:=p) (by simpa using hlp);split
   ·exact Bn 40 _ _ _ hn (by simp [dG])
   ·split
    ·exact Bn 40 _ _ _ hn (by simp)
    ·simp [eL]
end
end Go.Eng
set_option linter.unusedSimpArgs false
set_option linter.unusedVariables false
set_option linter.unusedSectionVars false
namespace Go.Eng
open Go
structure Ez (f:Fs):Prop where
 ws:WS f
 lil:Lil f
 nx: -1152921504606846976≤f.next∧f.next≤1152921504606846976
 lk:∀x∈f.aa, -1152921504606846976≤x.aL∧x.aL≤1152921504606846976
theorem TE (n:Int) (l:List Entry):ec n l≤l.length:=by
 have:=tp (μ :=one n) (c:=1) (l:=l) (fun x _=>by unfold one;split<;>omega);unfold ec;omega
theorem WO {n:Int} {l:List ah} (h:l.length≤10000) (he:∀x∈l,x.entries.length≤10000):fc n l≤100000000:=by
 have:=tp (μ :=fun x:ah=>ec n x.entries) (c:=10000) (l:=l) (fun x hx=>by have:=TE n x.entries;have:=he x hx;omega);unfold fc;omega
section
variable {f:Fs} {base p d t:Str} {s:aj} {k:Int}
theorem Tree.next' (h:Tree f):2≤f.next∧f.next≤1099511627776:=by
 obtain⟨r,hr,_⟩:=h.root;have h1:=(h.fz hr).2.2;have h2:=h.next;omega
theorem Ew.ez (e:Ew f):Ez f:=by
 have h1:=e.tr.next';refine⟨e.ws,e.lil,by omega,fun x hx=> ?_⟩;have h2:=e.tr.aL x hx;have h3:=FF x.ino f.aa;have h4:=WO (n:=x.ino) e.lil.len e.lil.dg;omega
theorem Ez.len (e:Ez f):f.aa.length≤1000000000:=by have:=e.lil.len;omega
theorem Ez.dg (e:Ez f) (k:Int):(aB k f.aa).entries.length≤1000000000:=by
 cases hf:al k f.aa with
 |none=>rw[cW hf];simp [eN]
 |some x=>rw[ba hf];have:=e.lil.dg x (aN hf).1;omega
theorem Ez.new (e:Ez f) (hn:s.name.length≤255) (hd:d.length≤1073741824):gB f s k d=some (pZ f s k d)∧jW f s k d=some (pZ f s k d):=
 ⟨vr e.ws.wf (by omega) hd e.len e.nx.1 e.nx.2 (e.dg _),p7 e.ws.wf (by omega) hd e.len e.nx.1 e.nx.2 (e.dg _)⟩
theorem Ez.put (e:Ez f) {r:Int} (hb:base.length≤8388608) (hp:p.length≤1073741823) (hd:d.length≤1073741824):iB f base p k d r=some (jC f base p k d r):=
 xj e.ws hb hp hd e.len e.nx.1 e.nx.2 (fun x hx=>by have:=e.lil.dg x hx;omega) (by have:=jc f base p false;omega)
theorem sd (e:Ez f) (hb:base.length≤8388608) (hp:p.length≤1073741823):jL f base p=some (jC f base p 2 [] 0):=by
 unfold jL jC;rw[eA e.ws hb hp,af,dp,dp,(e.new (jc f base p false) (by simp)).1,af];by_cases z0:(aG f base p false).2=0
 ·rw[aR (by simp [z0]),if_pos z0]
  by_cases z1:(aG f base p false).1.ino=0
  ·rw[aR (by simp [z1]),if_pos z1,if_neg (by simp)]
  ·rw[aE (by simp [z1]),if_neg z1]
 ·rw[aE (by simp [z0]),if_neg z0]
theorem qx (e:Ez f) (hb:base.length≤8388608) (hp:p.length≤1073741823) (hd:d.length≤1073741824):iS f base p d=some (jC f base p 1 d 4):=by
 unfold iS jC;rw[eA e.ws hb hp,af,dp,dp,fR hp,af,(e.new (jc f base p false) hd).1,af];by_cases z0:(aG f base p false).2=0
 ·rw[aR (by simp [z0]),if_pos z0]
  by_cases z1:(aG f base p false).1.ino=0
  ·rw[aR (by simp [z1]),if_pos z1]
   cases z3:(bx p).bM
   ·rw[if_neg (by simp)];rfl
   ·rw[if_pos (by simp)];rfl
  ·rw[aE (by simp [z1]),if_neg z1]
 ·rw[aE (by simp [z0]),if_neg z0]
theorem any_zero (t:Str):decide (Lib.indexByte t ((0:Int)).toNat.toUInt8≥(0:Int))=t.any (fun b=>b==0):=by
 have e0:((0:Int)).toNat.toUInt8=(0:UInt8):=rfl;rw[e0];rcases fG 0 t with⟨h1,h2⟩ |⟨a,b,h1,h2,h3⟩
 ·rw[h2]
  have:t.any (fun b=>b==0)=false:=by
   rw[List.any_eq_false];intro x hx;simpa using h1 x hx
  rw[this];rfl
 ·rw[h3,h1]
  simp
theorem qe (e:Ez f) (hb:base.length≤8388608) (hp:p.length≤1073741823):gW f base t p=some (qt f base t p):=by
 unfold gW qt;rw[qk,qk];by_cases z1:t= []
 ·rw[aE (by simp [z1]),if_pos z1]
 rw[aR (by simp [z1]),if_neg z1];by_cases z2:4095<t.length
 ·rw[aE (by simp;omega),if_pos z2]
 rw[aR (by simp;omega),if_neg z2];by_cases z3:[0]=t
 ·rw[aE (by simp [z3]),if_pos (by rw[←z3];rfl)]
 rw[aR (by simp [z3])];unfold stringslite_IndexByte;rw[af,any_zero];cases z4:t.any (fun b=>b==0)
 ·rw[ax,if_neg (by simp)]
  unfold jC;rw[eA e.ws hb hp,af,dp,dp,fR hp,af,(e.new (jc f base p false) (by omega)).1,af];by_cases z0:(aG f base p false).2=0
  ·rw[aR (by simp [z0]),if_pos z0]
   by_cases z1:(aG f base p false).1.ino=0
   ·rw[aR (by simp [z1]),if_pos z1]
    cases z3:(bx p).bM
    ·rw[if_neg (by simp)];rfl
    ·rw[if_pos (by simp)];rfl
   ·rw[aE (by simp [z1]),if_neg z1]
  ·rw[aE (by simp [z0]),if_neg z0]
 ·rw[aq,if_pos rfl]
theorem td (e:Ez f) (hb:base.length≤8388608) (hp:p.length≤1073741823):kE f base p=some (jC f base p 2 [] 0):=by
 unfold kE;rw[e.put hb hp (by simp),af]
theorem sk (e:Ez f) (hb:base.length≤8388608) (hp:p.length≤1073741823) (hd:d.length≤1073741824):jI f base p d=some (jC f base p 1 d 4):=by
 unfold jI;rw[e.put hb hp hd,af]
theorem xk {R:Type} {kr k0:Option R} (hl:t.length≤1073741824):dj t kr k0 bo (0:Int)=if t.any (fun b=>b==0)=true then kr else k0:=by
 refine(cu (l:=t) (fun m i (_:Unit)=>dj t kr k0 m i) (fun _ (b:UInt8) s K=>if (b==0)=true then kr else K s) (fun _=>k0) (by omega) (fun m k b u hk hx=> ?_) (fun m u=> ?_) ()).trans ?_
 ·simp only[dj]
  rw[dec_lt hk,bR,toNat_cast,hx,aX (by omega),aE rfl,aE rfl,af,bt];have:((UInt8.toNat b:Int)==(0:Int))=(b==0):=iL b 0 (by omega);rw[this]
 ·simp only[dj]
  rw[b7 (Nat.le_refl _)];rfl
 ·exact lO (fun b:UInt8=>b==0) (fun _ _=>kr) k0 kr (fun _ _=>rfl) _ _ _
theorem q6 (e:Ez f) (hb:base.length≤8388608) (hp:p.length≤1073741823):iT f base t p=some (qt f base t p):=by
 unfold iT qt;rw[qk];by_cases z1:t= []
 ·rw[aE (by simp [z1]),if_pos z1]
 rw[aR (by simp [z1]),if_neg z1];by_cases z2:4095<t.length
 ·rw[aE (by simp;omega),if_pos z2]
 rw[aR (by simp;omega),if_neg z2,xk (by omega),e.put hb hp (by omega),af];split<;>rfl
theorem nN {l:List Entry} {a:Entry} {n:Str}:b9 n (fS a l)=if a.name=n then a.ino else b9 n l:=by
 unfold b9;rw[wL];by_cases h:a.name=n<;>simp [h]
theorem lD {l:List Entry} {m n:Str}:b9 n (dn m l)=if m=n then 0 else b9 n l:=by
 unfold b9;rw[ka];by_cases h:m=n<;>simp [h]
structure y_ (f g:Fs) (d:ah) (nm:Str) (x:ah):Prop where
 find:∀k,al k g.aa=if x.ino=k then some x else if d.ino=k then some (d.bT nm x.ino) else al k f.aa
 hx:al x.ino f.aa=none∨∃y,al x.ino f.aa=some y∧y.kind=x.kind∧y.parent=x.parent∧y.data=x.data∧y.entries=x.entries
 ne:x.ino≠d.ino
variable {g:Fs} {dd x:ah} {nm:Str}
theorem y_.ext (m:y_ f g dd nm x) (wf:WS f) (wg:WS g) (hf:mH f dd nm):Ext f g dd.ino nm x:=by
 refine⟨wf,wg,fun k a ha=> ?_, ?_,fun y hy=> ?_,fun y hy=> ?_, ?_⟩
 ·rw[m.find]
  by_cases h1:x.ino=k
  ·rw[if_pos h1]
   rcases m.hx with h|⟨y,hy,y1,y2,y3,y4⟩
   ·rw[h1,ha] at h;cases h
   ·rw[h1,ha] at hy;cases hy
    exact⟨x,rfl,by rw[(aN ha).2,h1],y1,y2,fun _=>y3,fun n=>Or.inr (by rw[y4])⟩
  ·rw[if_neg h1]
   by_cases h2:dd.ino=k
   ·rw[if_pos h2]
    have:=hf.hd;rw[h2,ha] at this;cases this;refine⟨_,rfl,rfl,rfl,rfl,fun _=>rfl,fun n=> ?_⟩;by_cases hn:nm=n
    ·exact Or.inl ⟨h2.symm,hn.symm⟩
    ·right
     show b9 n (fS ⟨nm,x.ino⟩ dd.entries)=_;rw[nN,if_neg hn]
   ·rw[if_neg h2]
    exact⟨a,ha,rfl,rfl,rfl,fun _=>rfl,fun _=>Or.inr rfl⟩
 ·rw[m.find,if_pos rfl]
 ·rw[hf.hd] at hy;cases hy
  unfold b9;rw[hf.h0]
 ·rw[m.find,if_neg m.ne,if_pos rfl] at hy
  cases hy;show b9 nm (fS ⟨nm,x.ino⟩ dd.entries)=_;rw[nN,if_pos rfl]
 ·have:=wf.wf.pos dd (aN hf.hd).1
  omega
end
end Go.Eng
set_option linter.unusedVariables false
set_option maxRecDepth 100000
namespace Go.Eng
open Go
end Go.Eng
set_option linter.unusedSimpArgs false
set_option linter.unusedVariables false
set_option linter.unusedSectionVars false
namespace Go.Eng
open Go
def tT (k:Int) (d:Str):Prop:=k=1∨(k=2∧d= [])∨(k=3∧1≤d.length∧d.length≤4095∧d.any (fun b=>b==0)=false)
section
variable {f:Fs} {base p d t:Str} {s:aj} {k:Int}
theorem DG (h:tT k d):eK (qV f s k d)=true:=by
 rcases h with rfl|⟨rfl,rfl⟩ |⟨rfl,h1,h2,h3⟩
 ·rw[C0 rfl];simp [qV]
 ·rw[wB rfl];simp [qV,fw,jo]
 ·rw[Fx rfl]
  show(true&&(decide ((0:Int)=0)&&(decide (1≤d.length∧d.length≤4095)&& !(d.any (fun b=>b==0)))))=true;rw[h3,decide_eq_true (show 1≤d.length∧d.length≤4095 from⟨h1,h2⟩)];rfl
theorem xC {fol:Bool} (ht:Tree f) (hw:WF f) (h:Gd f fol s) (h0:s.ino=0) (hm:cS s.name=true):mH f (aB s.dir f.aa) s.name∧(aB s.dir f.aa).ino=s.dir:=by
 rcases h with⟨_,_,d,hd,_⟩ |⟨_,d,hd,hk,hi,_⟩
 ·rw[h0,hw.zero] at hd;cases hd
 ·have h2:=(aN hd).2
  rw[ba hd];exact⟨⟨by rw[h2];exact hd,hk,hm,EJ (ht.fz hd).2.2.2.2.2 (by rw[←hi];exact h0)⟩,h2⟩
theorem Cd (ht:Tree f):al f.next f.aa=none:=by
 cases hf:al f.next f.aa with
 |none=>rfl
 |some x=>have:=(ht.fz hf).2.2.2.1;omega
theorem Fl (h:(pZ f s k d).2≠0):(pZ f s k d).1=f:=by
 unfold pZ at h⊢;by_cases h1:cS s.name=true
 ·rw[if_pos h1] at h⊢
  by_cases h2:dZ f 1 (if k=1 then (d.length:Int) else 0)=true
  ·rw[if_pos h2] at h;exact absurd rfl h
  ·rw[if_neg h2]
 ·rw[if_neg h1]
theorem pz {r:Int} (h:(jC f base p k d r).2≠0):(jC f base p k d r).1=f:=by
 unfold jC at h⊢;split
 ·rename_i h1
  rw[if_pos h1] at h;split
  ·rename_i h2
   rw[if_pos h2] at h;split
   ·rfl
   ·rename_i h3;rw[if_neg h3] at h;exact Fl h
  ·rfl
 ·rfl
theorem yH (h:(qt f base t p).2≠0):(qt f base t p).1=f:=by
 unfold qt at h⊢;split
 ·rfl
 ·rename_i h1
  rw[if_neg h1] at h;split
  ·rfl
  ·rename_i h2
   rw[if_neg h2] at h;split
   ·rfl
   ·rename_i h3;rw[if_neg h3] at h;exact pz h
theorem KP (h:(pZ f s k d).2=0):pZ f s k d=(uc f s k d,0)∧cS s.name=true∧dZ f 1 (if k=1 then (d.length:Int) else 0)=true:=by
 unfold pZ at h⊢;by_cases h1:cS s.name=true
 ·rw[if_pos h1] at h⊢
  by_cases h2:dZ f 1 (if k=1 then (d.length:Int) else 0)=true
  ·rw[if_pos h2] at h⊢;exact⟨rfl,h1,h2⟩
  ·rw[if_neg h2] at h;simp at h
 ·rw[if_neg h1] at h;simp at h
theorem Jz {r:Int} (h:(jC f base p k d r).2=0):(aG f base p false).2=0∧(aG f base p false).1.ino=0∧jC f base p k d r=pZ f (aG f base p false).1 k d∧(r≠0→(bx p).bM=false):=by
 unfold jC at h⊢;by_cases h1:(aG f base p false).2=0
 ·rw[if_pos h1] at h⊢
  by_cases h2:(aG f base p false).1.ino=0
  ·rw[if_pos h2] at h⊢
   by_cases h3:r≠0∧(bx p).bM=true
   ·rw[if_pos h3] at h;exact absurd h h3.1
   ·rw[if_neg h3]
    refine⟨h1,h2,rfl,fun hr=> ?_⟩;cases hs:(bx p).bM
    ·rfl
    ·exact absurd ⟨hr,hs⟩ h3
  ·rw[if_neg h2] at h;simp at h
 ·rw[if_neg h1] at h;exact absurd h h1
theorem Jb (h:(qt f base t p).2=0):qt f base t p=jC f base p 3 t 1∧tT 3 t:=by
 unfold qt at h⊢;by_cases h1:t= []
 ·rw[if_pos h1] at h;simp at h
 rw[if_neg h1] at h⊢;by_cases h2:4095<t.length
 ·rw[if_pos h2] at h;simp at h
 rw[if_neg h2] at h⊢;by_cases h3:t.any (fun b=>b==0)=true
 ·rw[if_pos h3] at h;simp at h
 rw[if_neg h3];refine⟨rfl,Or.inr (Or.inr ⟨rfl, ?_,by omega,Bool.eq_false_iff.2 h3⟩)⟩;cases t with
 |nil=>exact absurd rfl h1
 |cons a l=>simp
structure Made (f:Fs) (n:Nat) (s:aj) (k:Int) (d:Str) (g:Fs):Prop where
 tr:Tree g
 bd:Bd (n+1) g
 len:g.aa.length=f.aa.length+1
 free:mH f (aB s.dir f.aa) s.name
 ino:(aB s.dir f.aa).ino=s.dir
 more:y_ f g (aB s.dir f.aa) s.name (qV f s k d)
 next:g.next=f.next+1
 max:g.ak=f.ak∧g.aw=f.aw
theorem Gs {n:Nat} (ht:Tree f) (hb:Bd n f) (hf:mH f (aB s.dir f.aa) s.name) (hs:(aB s.dir f.aa).ino=s.dir) (hk:tT k d) (hd:d.length≤10000000) (hnx:f.next<1099511627776) (hfit:dZ f 1 (if k=1 then (d.length:Int) else 0)=true):Made f n s k d (uc f s k d):=by
 have hx:=Cd ht;have hne:f.next≠(aB s.dir f.aa).ino:=fun e=>by rw[e,hf.hd] at hx;cases hx
 have h2:=ht.next';have hbyt:byt (qV f s k d)=if k=1 then (d.length:Int) else 0:=rfl
 have htr:Tree (uc f s k d):=IJ (x:=qV f s k d) (nx:=f.next+1) ht hf hx (by show 1≤f.next;omega) (by show f.next<f.next+1;omega) (by omega) (by omega) (DG hk) rfl rfl (fun h=>by show(if k=2 then s.dir else 0)=_;rw[if_pos (show k=2 from h),hs]) (by rw[hbyt];exact hfit);have hlen:=(rn (x:=qV f s k d) ht hf hx).1;refine⟨htr,⟨?_,fun x hx'=> ?_,fun x hx'=> ?_⟩,hlen,hf,hs,⟨fun j=>pG j,Or.inl hx,hne⟩,rfl,rfl,rfl⟩
 ·have:=hb.len
  have h3:(uc f s k d).aa.length=f.aa.length+1:=hlen;omega
 ·have h3:x∈bO (qV f s k d) (bO ((aB s.dir f.aa).bT s.name f.next) f.aa):=hx'
  rcases fl.1 h3 with rfl|⟨h3,_⟩
  ·simp [qV]
  ·rcases fl.1 h3 with rfl|⟨h3,_⟩
   ·have h4:=pC ⟨s.name,f.next⟩ (aB s.dir f.aa).entries
    have h5:=(hb.get s.dir).1;show(fS ⟨s.name,f.next⟩ (aB s.dir f.aa).entries).length≤_;omega
   ·have:=hb.dg x h3;omega
 ·have h3:x∈bO (qV f s k d) (bO ((aB s.dir f.aa).bT s.name f.next) f.aa):=hx'
  rcases fl.1 h3 with rfl|⟨h3,_⟩
  ·exact hd
  ·rcases fl.1 h3 with rfl|⟨h3,_⟩
   ·exact(hb.get s.dir).2
   ·exact hb.data x h3
theorem E2 {n:Nat} {r:Int} (ht:Tree f) (hb:Bd n f) (hn:n≤9000) (hk:tT k d) (hd:d.length≤10000000) (hnx:f.next<1099511627776) (hr:k≠2→r≠0) (h0:(jC f base p k d r).2=0):
 ∃s,aG f base p false=(s,0)∧s.ino=0∧jC f base p k d r=(uc f s k d,0)∧Made f n s k d (uc f s k d)∧aG (uc f s k d) base p false=(⟨s.dir,s.name,f.next⟩,0):=by
 have e:=oK ht hb (by omega);obtain⟨h1,h2,h3,h4⟩:=Jz h0;have hg:=(fP e.ws base p false).1 h1;have hsk:aG f base p false=((aG f base p false).1,0):=by rw[←h1]
 generalize (aG f base p false).1=s at*;rw[h3] at h0;obtain⟨h5,h6,h7⟩:=KP h0;obtain⟨hf,hs⟩:=xC ht e.wf hg h2 h6;have hm:=Gs ht hb hf hs hk hd hnx h7;refine⟨s,hsk,h2,by rw[h3,h5],hm, ?_⟩;have e2:=oK hm.tr hm.bd (by omega);have hex:=hm.more.ext e.ws e2.ws hf;have:=(hex.afg (base:=base) (p:=p) (fun hsl=> ?_) hsk).1
 ·rw[this,hs]
  show(mc s.dir s.name f.next s,(0:Int))=_;unfold mc;rw[if_pos ⟨rfl,rfl⟩]
 ·show k=2
  rcases Classical.em (k=2) with hk2|hk2
  ·exact hk2
  ·rw[h4 (hr hk2)] at hsl;cases hsl
theorem Ez.inf (e:Ez f):InF f:=⟨by have:=e.lil.len;omega,fun x hx=>by have:=e.lil.dg x hx;omega⟩
theorem InF.same (h:InF f) (g:Fs):cr f g=some (decide (f=g)):=oA h.len h.dg
end
end Go.Eng
set_option linter.unusedSimpArgs false
set_option linter.unusedVariables false
set_option linter.unusedSectionVars false
namespace Go.Eng
open Go
def gv (f:Fs) (s:aj) (i:Int):Fs:=
 (f.set ((aB s.dir f.aa).bT s.name i)).set ((aB i (f.set ((aB s.dir f.aa).bT s.name i)).aa).fa ((aB i (f.set ((aB s.dir f.aa).bT s.name i)).aa).aL+1))
def nR (f:Fs) (s:aj) (i:Int):Fs:=(f.set ((aB s.dir f.aa).bT s.name i)).set ((aB i f.aa).fa ((aB i f.aa).aL+1))
def db (f:Fs) (s:aj):Fs:=
 if (aB s.ino (f.set ((aB s.dir f.aa).b_ s.name)).aa).aL - 1=0 then (f.set ((aB s.dir f.aa).b_ s.name)).drop (aB s.ino (f.set ((aB s.dir f.aa).b_ s.name)).aa).ino
 else (f.set ((aB s.dir f.aa).b_ s.name)).set ((aB s.ino (f.set ((aB s.dir f.aa).b_ s.name)).aa).fa ((aB s.ino (f.set ((aB s.dir f.aa).b_ s.name)).aa).aL - 1))
def ik (f:Fs) (s:aj):Fs:=
 if (aB s.ino f.aa).aL - 1=0 then (f.set ((aB s.dir f.aa).b_ s.name)).drop s.ino
 else (f.set ((aB s.dir f.aa).b_ s.name)).set ((aB s.ino f.aa).fa ((aB s.ino f.aa).aL - 1))
def bJ (f:Fs) (base p:Str):ah×Int:=if (aG f base p false).2=0 then (match al (aG f base p false).1.ino f.aa with|some x=>(x,0) |none=>(eN,1)) else (eN,(aG f base p false).2)
def da (nm:Fs→aj→Int→Fs) (f:Fs) (base p q:Str):Fs×Int:=
 if (bJ f base p).2=0 then (if (bJ f base p).1.kind=2 then (f,11) else if (aG f base q false).2=0 then (if (aG f base q false).1.ino=0 then (if (bx q).bM=true then (f,1) else if cS (aG f base q false).1.name=true then (nm f (aG f base q false).1 (bJ f base p).1.ino,0) else (f,9)) else (f,2)) else (f,(aG f base q false).2)) else (f,(bJ f base p).2)
def cw (un:Fs→aj→Fs) (f:Fs) (base p:Str):Fs×Int:=
 if (bJ f base p).2=0 then (if (bJ f base p).1.kind=2 then (f,4) else (un f (aG f base p false).1,0)) else (f,(bJ f base p).2)
def dh (un:Fs→aj→Fs) (f:Fs) (base p:Str):Fs×Int:=
 if (bJ f base p).2=0 then (if (bJ f base p).1.kind=2 then (if (bJ f base p).1.ino=1 then (f,10) else if (aG f base p false).1.name= [] then (f,9) else if 0<(bJ f base p).1.entries.length then (f,5) else (un f (aG f base p false).1,0)) else (f,3)) else (f,(bJ f base p).2)
section
variable {f g:Fs} {base p q nm:Str} {s:aj} {i:Int} {d x:ah} {e:Entry}
theorem pB {l:List ah} {y:ah} {k:Int}:aB k (bO y l)=if y.ino=k then y else aB k l:=by
 unfold aB;rw[bX];split<;>rfl
theorem Ez.aL (z:Ez f) (k:Int): -1152921504606846976≤(aB k f.aa).aL∧(aB k f.aa).aL≤1152921504606846976:=by
 cases hf:al k f.aa with
 |none=>rw[cW hf];simp [eN]
 |some x=>rw[ba hf];exact z.lk x (aN hf).1
theorem Ez.ER (z:Ez f) {y:ah} (hy:y.aL=(aB s.dir f.aa).aL) (k:Int): -1152921504606846976≤(aB k (f.set y).aa).aL∧(aB k (f.set y).aa).aL≤1152921504606846976:=by
 have e:aB k (f.set y).aa=if y.ino=k then y else aB k f.aa:=pB
 rw[e];split
 ·rw[hy];exact z.aL _
 ·exact z.aL k
theorem yf (z:Ez f):oc f s i=some (gv f s i):=by
 have h1:=z.dg s.dir;have h2:=z.len;have h3:= @jz f ((aB s.dir f.aa).bT s.name i);have h4:=z.ER (s:=s) (y:=(aB s.dir f.aa).bT s.name i) rfl i;have hs:=kc z.ws.wf.sort ((aB s.dir f.aa).bT s.name i);unfold oc gv;rw[z.ws.wf.get,af,lC (pn z.ws.wf _) (by omega),af];have e1:(⟨(aB s.dir f.aa).ino,(aB s.dir f.aa).kind,(aB s.dir f.aa).aL,(aB s.dir f.aa).data,(aB s.dir f.aa).parent,fS ⟨s.name,i⟩ (aB s.dir f.aa).entries⟩:ah)=(aB s.dir f.aa).bT s.name i:=rfl;simp only;rw[e1,cU z.ws.wf.sort (by omega),af,fT hs (by omega),af];simp only;rw[bC (by omega) (by omega),cU hs (by omega),af];rfl
theorem u7 (z:Ez f):mL f s i=some (nR f s i):=by
 have h1:=z.dg s.dir;have h2:=z.len;have h3:= @jz f ((aB s.dir f.aa).bT s.name i);have h4:=z.aL i;unfold mL nR;rw[z.ws.wf.m8,af,z.ws.wf.m8,af,lr (by simp only;omega),af];have e1:(⟨(aB s.dir f.aa).ino,(aB s.dir f.aa).kind,(aB s.dir f.aa).aL,(aB s.dir f.aa).data,(aB s.dir f.aa).parent,fS ⟨s.name,i⟩ (aB s.dir f.aa).entries⟩:ah)=(aB s.dir f.aa).bT s.name i:=rfl;simp only;rw[e1,dq (by omega),af,bC (by omega) (by omega),dq (by omega),af];rfl
theorem kh (z:Ez f):gI f s=some (db f s):=by
 have h1:=z.dg s.dir;have h2:=z.len;have h3:= @jz f ((aB s.dir f.aa).b_ s.name);have h4:=z.ER (s:=s) (y:=(aB s.dir f.aa).b_ s.name) rfl s.ino;have hs:=kc z.ws.wf.sort ((aB s.dir f.aa).b_ s.name);unfold gI db;rw[z.ws.wf.get,af,lW (pn z.ws.wf _) (by omega),af];have e1:(⟨(aB s.dir f.aa).ino,(aB s.dir f.aa).kind,(aB s.dir f.aa).aL,(aB s.dir f.aa).data,(aB s.dir f.aa).parent,dn s.name (aB s.dir f.aa).entries⟩:ah)=(aB s.dir f.aa).b_ s.name:=rfl;simp only;rw[e1,cU z.ws.wf.sort (by omega),af,fT hs (by omega),af];simp only;rw[bC (by omega) (by omega),eX,vn hs (by omega),cU hs (by omega),af,af];by_cases h:(aB s.ino (f.set ((aB s.dir f.aa).b_ s.name)).aa).aL - 1=0
 ·rw[aE (by simp [h]),if_pos h]
 ·rw[aR (by simp [h]),if_neg h];rfl
theorem jn (z:Ez f):fU f s=some (ik f s):=by
 have h1:=z.dg s.dir;have h2:=z.len;have h3:= @jz f ((aB s.dir f.aa).b_ s.name);have h4:=z.aL s.ino;unfold fU ik;rw[z.ws.wf.m8,af,z.ws.wf.m8,af,iD (by simp only;omega),af];have e1:(⟨(aB s.dir f.aa).ino,(aB s.dir f.aa).kind,(aB s.dir f.aa).aL,(aB s.dir f.aa).data,(aB s.dir f.aa).parent,dn s.name (aB s.dir f.aa).entries⟩:ah)=(aB s.dir f.aa).b_ s.name:=rfl;simp only;rw[e1,dq (by omega),af,bC (by omega) (by omega),eX,oO (by omega),dq (by omega),af,af];by_cases h:(aB s.ino f.aa).aL - 1=0
 ·rw[aE (by simp [h]),if_pos h]
 ·rw[aR (by simp [h]),if_neg h];rfl
theorem lf (z:Ez f) (hb:base.length≤8388608) (hp:p.length≤1073741823):iA f base p=some ((aG f base p false).1,(bJ f base p).1,(bJ f base p).2):=by
 unfold iA bJ;rw[eA z.ws hb hp,af,dp];by_cases h0:(aG f base p false).2=0
 ·rw[aR (by simp [h0]),if_pos h0,z.ws.wf.get,af]
  cases hf:al (aG f base p false).1.ino f.aa with
  |none=>rw[cW hf];rfl
  |some x=>rw[ba hf];rfl
 ·rw[aE (by simp [h0]),if_neg h0];rfl
theorem xF (z:Ez f) (hb:base.length≤8388608) (hp:p.length≤1073741823) (hq:q.length≤1073741823):og f base p q=some (da gv f base p q):=by
 unfold og da;rw[lf z hb hp,af,dp,eX,eA z.ws hb hq,af,dp,dp,fR hq,af,k6 (by have:=jc f base q false;omega),af,yf z,af];simp only;by_cases h0:(bJ f base p).2=0
 ·rw[aR (by simp [h0]),if_pos h0]
  by_cases h1:(bJ f base p).1.kind=2
  ·rw[aE (by simp [h1]),if_pos h1]
  rw[aR (by simp [h1]),if_neg h1];by_cases h2:(aG f base q false).2=0
  ·rw[aR (by simp [h2]),if_pos h2]
   by_cases h3:(aG f base q false).1.ino=0
   ·rw[aR (by simp [h3]),if_pos h3]
    cases (bx q).bM
    ·cases cS (aG f base q false).1.name<;>rfl
    ·rfl
   ·rw[aE (by simp [h3]),if_neg h3]
  ·rw[aE (by simp [h2]),if_neg h2]
 ·rw[aE (by simp [h0]),if_neg h0]
theorem nq (w:WS f) {fol:Bool} (h:(aG f base p fol).2=0):(aG f base p fol).1.ino=0∨(al (aG f base p fol).1.ino f.aa).isSome=true:=by
 rcases(fP w base p fol).1 h with⟨_,_,d,hd,_⟩ |⟨_,d,hd,_,hi,_⟩
 ·right;rw[hd];rfl
 ·rw[hi];exact gA w.wf (aN hd).1 _
theorem pr (w:WS f) (h:(aG f base p false).2=0):bJ f base p=if (aG f base p false).1.ino=0 then (eN,1) else (aB (aG f base p false).1.ino f.aa,0):=by
 unfold bJ;rw[if_pos h];rcases nq w h with h1|h1
 ·rw[if_pos h1,h1,w.wf.zero]
 ·obtain⟨x,hx⟩:=Option.isSome_iff_exists.1 h1
  rw[hx,if_neg (fun e=>by rw[e,w.wf.zero] at hx;cases hx),ba hx]
theorem vB (z:Ez f) (hb:base.length≤8388608) (hp:p.length≤1073741823) (hq:q.length≤1073741823):mU f base p q=some (da nR f base p q):=by
 unfold mU da;rw[dI z.ws hb hp,af,dp,eX,z.ws.wf.m8,af,eX,dI z.ws hb hq,af,dp,dp,gm hq,af,ie (by have:=jc f base q false;omega),af,u7 z,af];simp only;by_cases h0:(aG f base p false).2=0
 ·rw[aR (by simp [h0]),pr z.ws h0]
  by_cases h9:(aG f base p false).1.ino=0
  ·rw[aE (by simp [h9]),if_pos h9,if_neg (by decide)]
  rw[aR (by simp [h9]),if_neg h9,if_pos rfl];simp only;by_cases h1:(aB (aG f base p false).1.ino f.aa).kind=2
  ·rw[aE (by simp [h1]),if_pos h1]
  rw[aR (by simp [h1]),if_neg h1];by_cases h2:(aG f base q false).2=0
  ·rw[aR (by simp [h2]),if_pos h2]
   by_cases h3:(aG f base q false).1.ino=0
   ·rw[aR (by simp [h3]),if_pos h3]
    cases (bx q).bM
    ·cases cS (aG f base q false).1.name<;>rfl
    ·rfl
   ·rw[aE (by simp [h3]),if_neg h3]
  ·rw[aE (by simp [h2]),if_neg h2]
 ·have h8:bJ f base p=(eN,(aG f base p false).2):=by unfold bJ;rw[if_neg h0]
  rw[aE (by simp [h0]),h8,if_neg h0]
theorem ta (z:Ez f) (hb:base.length≤8388608) (hp:p.length≤1073741823):kG f base p=some (cw db f base p):=by
 unfold kG cw;rw[lf z hb hp,af,dp,eX,kh z,af];simp only;by_cases h0:(bJ f base p).2=0
 ·rw[aR (by simp [h0]),if_pos h0]
  by_cases h1:(bJ f base p).1.kind=2
  ·rw[aE (by simp [h1]),if_pos h1]
  ·rw[aR (by simp [h1]),if_neg h1]
 ·rw[aE (by simp [h0]),if_neg h0]
theorem r6 (z:Ez f) (hb:base.length≤8388608) (hp:p.length≤1073741823):jJ f base p=some (cw ik f base p):=by
 unfold jJ cw;rw[dI z.ws hb hp,af,dp,eX,z.ws.wf.m8,af,eX,jn z,af];simp only;by_cases h0:(aG f base p false).2=0
 ·rw[aR (by simp [h0]),pr z.ws h0]
  by_cases h9:(aG f base p false).1.ino=0
  ·rw[aE (by simp [h9]),if_pos h9,if_neg (by decide)]
  rw[aR (by simp [h9]),if_neg h9,if_pos rfl];simp only;by_cases h1:(aB (aG f base p false).1.ino f.aa).kind=2
  ·rw[aE (by simp [h1]),if_pos h1]
  ·rw[aR (by simp [h1]),if_neg h1]
 ·have h8:bJ f base p=(eN,(aG f base p false).2):=by unfold bJ;rw[if_neg h0]
  rw[aE (by simp [h0]),h8,if_neg h0]
theorem uZ (z:Ez f) (hb:base.length≤8388608) (hp:p.length≤1073741823):mV f base p=some (dh db f base p):=by
 unfold mV dh;rw[lf z hb hp,af,dp,dp,eX,qk,kh z,af];simp only;by_cases h0:(bJ f base p).2=0
 ·rw[aR (by simp [h0]),if_pos h0]
  by_cases h1:(bJ f base p).1.kind=2
  ·rw[aR (by simp [h1]),if_pos h1]
   by_cases h2:(bJ f base p).1.ino=1
   ·rw[aE (by simp [h2]),if_pos h2]
   rw[aR (by simp [h2]),if_neg h2];by_cases h3:(aG f base p false).1.name= []
   ·rw[aE (by simp [h3]),if_pos h3]
   rw[aR (by simp [h3]),if_neg h3];by_cases h4:0<(bJ f base p).1.entries.length
   ·rw[aE (decide_eq_true (by omega)),if_pos h4]
   ·rw[aR (decide_eq_false (by omega)),if_neg h4]
  ·rw[aE (by simp [h1]),if_neg h1]
 ·rw[aE (by simp [h0]),if_neg h0]
theorem uY (z:Ez f) (hb:base.length≤8388608) (hp:p.length≤1073741823):kY f base p=some (dh ik f base p):=by
 unfold kY dh;rw[dI z.ws hb hp,af,dp,eX,z.ws.wf.m8,af,dp,eX,qk,jn z,af];simp only;by_cases h0:(aG f base p false).2=0
 ·rw[aR (by simp [h0]),pr z.ws h0]
  by_cases h9:(aG f base p false).1.ino=0
  ·rw[aE (by simp [h9]),if_pos h9,if_neg (by decide)]
  rw[aR (by simp [h9]),if_neg h9,if_pos rfl];simp only;by_cases h1:(aB (aG f base p false).1.ino f.aa).kind=2
  ·rw[aR (by simp [h1]),if_pos h1]
   by_cases h2:(aB (aG f base p false).1.ino f.aa).ino=1
   ·rw[aE (by simp [h2]),if_pos h2]
   rw[aR (by simp [h2]),if_neg h2];by_cases h3:(aG f base p false).1.name= []
   ·rw[aE (by simp [h3]),if_pos h3]
   rw[aR (by simp [h3]),if_neg h3];by_cases h4:0<(aB (aG f base p false).1.ino f.aa).entries.length
   ·rw[aE (decide_eq_true (by omega)),if_pos h4]
   ·rw[aR (decide_eq_false (by omega)),if_neg h4]
  ·rw[aE (by simp [h1]),if_neg h1]
 ·have h8:bJ f base p=(eN,(aG f base p false).2):=by unfold bJ;rw[if_neg h0]
  rw[aE (by simp [h0]),h8,if_neg h0]
theorem Gv (hf:mH f (aB s.dir f.aa) s.name) (hx:al i f.aa=some x) (hk:x.kind≠2):gv f s i=mS f (aB s.dir f.aa) s.name x∧nR f s i=mS f (aB s.dir f.aa) s.name x∧x.ino≠(aB s.dir f.aa).ino:=by
 have hi:=(aN hx).2;have hne:x.ino≠(aB s.dir f.aa).ino:=fun e=>by
  have:=hf.hd;rw[←e,hi,hx] at this;have h2:=Option.some.inj this;exact hk (by rw[h2];exact hf.hk)
 have h1:aB i (f.set ((aB s.dir f.aa).bT s.name i)).aa=x:=by
  show aB i (bO _ f.aa)=x;rw[pB,if_neg (fun e=>hne (by rw[hi];exact e.symm)),ba hx]
 refine⟨?_, ?_,hne⟩
 ·unfold gv mS
  rw[h1,hi]
 ·unfold nR mS
  rw[ba hx,hi]
theorem Ij (h:Ent f (aB s.dir f.aa) s.name x e) (ht:Tree f) (hi:x.ino=s.ino):db f s=jd f (aB s.dir f.aa) s.name x∧ik f s=jd f (aB s.dir f.aa) s.name x:=by
 have hne:=h.ne ht;have hx:al s.ino f.aa=some x:=by rw[←hi];exact h.hx
 have h1:aB s.ino (f.set ((aB s.dir f.aa).b_ s.name)).aa=x:=by
  show aB s.ino (bO _ f.aa)=x;rw[pB,if_neg (fun e=>hne (by rw[hi];exact e.symm)),ba hx]
 constructor
 ·unfold db jd
  rw[h1];by_cases hl:x.aL=1
  ·rw[if_pos (by omega),if_pos hl]
  ·rw[if_neg (by omega),if_neg hl]
 ·unfold ik jd
  rw[ba hx,←hi];by_cases hl:x.aL=1
  ·rw[if_pos (by omega),if_pos hl]
  ·rw[if_neg (by omega),if_neg hl]
theorem D6 (hx:al x.ino f.aa=some x) (hxd:x.ino≠d.ino):y_ f (mS f d nm x) d nm (x.fa (x.aL+1)):=
 ⟨fun k=>wA hxd k,Or.inr ⟨x,hx,rfl,rfl,rfl,rfl⟩,hxd⟩
theorem EE {l:List Entry} (hs:fx l) {a:Entry} {n:Str} (h:cP n l=some a):fS ⟨n,a.ino⟩ (dn n l)=l:=by
 refine oT loS (oq loS (iG hs)) hs fun k=> ?_
 show cP k (fS _ (dn n l))=cP k l;rw[wL,ka];by_cases hk:n=k
 ·rw[if_pos hk,←hk,h]
  have:=(fN h).2;rw[←this]
 ·rw[if_neg hk,if_neg hk]
theorem Dw (h:Ent f d nm x e) (ht:Tree f):y_ (jd f d nm x) f (d.b_ nm) nm x∧mH (jd f d nm x) (d.b_ nm) nm:=by
 have hne:=h.ne ht;have hs:=(ht.fz h.hd).2.2.2.2;have hd2:(d.b_ nm).bT nm x.ino=d:=by
  show ah.mk d.ino d.kind d.aL d.data d.parent (fS ⟨nm,x.ino⟩ (dn nm d.entries))=d;rw[←h.hn,EE hs.1 h.he]
 refine⟨⟨fun k=> ?_, ?_,hne⟩,⟨?_,h.kind ht, ?_, ?_⟩⟩
 ·rw[hd2,jQ hne]
  show _=if x.ino=k then some x else if d.ino=k then some d else _
  by_cases h1:x.ino=k
  ·rw[if_pos h1,←h1,h.hx]
  ·rw[if_neg h1,if_neg h1]
   by_cases h2:d.ino=k
   ·rw[if_pos h2,←h2,h.hd]
   ·rw[if_neg h2,if_neg h2]
 ·rw[jQ hne,if_pos rfl]
  by_cases hl:x.aL=1
  ·rw[if_pos hl];exact Or.inl rfl
  ·rw[if_neg hl];exact Or.inr ⟨_,rfl,rfl,rfl,rfl,rfl⟩
 ·show al d.ino _=_
  rw[jQ hne,if_neg hne,if_pos rfl]
 ·have h3:=((fA d.entries).1 hs.2).2 e h.mem.1
  rw[←h.mem.2];exact h3.1
 ·show cP nm (dn nm d.entries)=none
  rw[ka,if_pos rfl]
theorem Di (h:cK f.aa) (k:Int):cK (f.drop k).aa:=iG h
theorem q9 {fol:Bool} (ht:Tree f) (w:WF f) (h:Gd f fol s) (hn:s.name≠ []) (hx:al s.ino f.aa=some x):∃e,Ent f (aB s.dir f.aa) s.name x e∧(aB s.dir f.aa).ino=s.dir∧x.ino=s.ino:=by
 have hi:=(aN hx).2;rcases h with⟨h1,_⟩ |⟨_,d,hd,hk,hino,_⟩
 ·exact absurd h1 hn
 ·have h2:=(aN hd).2
  rw[ba hd];have h0:b9 s.name d.entries≠0:=fun e=>by rw[hino,e,w.zero] at hx;cases hx
  obtain⟨e,he,_,_,he2⟩:=sA h0;exact⟨e,⟨by rw[h2];exact hd,he,by rw[he2,←hino,hi],by rw[hi];exact hx⟩,h2,hi⟩
theorem Bd.mS {n:Nat} (hb:Bd n f) (ht:Tree f) (hf:mH f d nm) (hx:al x.ino f.aa=some x):Bd (n+1) (mS f d nm x):=by
 have h1:Bd (n+1) (f.set (d.bT nm x.ino)):=hb.put (z:=d) ht.sort hf.hd (by omega) (by have:=pC ⟨nm,x.ino⟩ d.entries;have:=(hb.find hf.hd).1;show(fS ⟨nm,x.ino⟩ d.entries).length≤_;omega) (hb.find hf.hd).2;have h2:∃z,al (x.fa (x.aL+1)).ino (f.set (d.bT nm x.ino)).aa=some z:=by
  show∃z,al x.ino (bO _ f.aa)=some z;rw[bX];split
  ·exact⟨_,rfl⟩
  ·exact⟨_,hx⟩
 obtain⟨z,hz⟩:=h2;exact h1.put (kc ht.sort _) hz (Nat.le_refl _) (by have:=(hb.find hx).1;show x.entries.length≤_;omega) (hb.find hx).2
theorem Bd.jd {n:Nat} (hb:Bd n f) (ht:Tree f) (h:Ent f d nm x e):Bd n (jd f d nm x):=by
 have h1:Bd n (f.set (d.b_ nm)):=hb.put (z:=d) ht.sort h.hd (Nat.le_refl _) (by have:=n_ nm d.entries;have:=(hb.find h.hd).1;show(dn nm d.entries).length≤_;omega) (hb.find h.hd).2;unfold Go.Eng.jd;split
 ·exact h1.drop
 ·have h2:∃z,al (x.fa (x.aL - 1)).ino (f.set (d.b_ nm)).aa=some z:=by
   show∃z,al x.ino (bO _ f.aa)=some z;rw[bX];split
   ·exact⟨_,rfl⟩
   ·exact⟨_,h.hx⟩
  obtain⟨z,hz⟩:=h2;exact h1.put (kc ht.sort _) hz (Nat.le_refl _) (hb.find h.hx).1 (hb.find h.hx).2
end
end Go.Eng
set_option linter.unusedVariables false
set_option maxRecDepth 100000
namespace Go.Eng
open Go
end Go.Eng
set_option linter.unusedSimpArgs false
set_option linter.unusedVariables false
set_option linter.unusedSectionVars false
namespace Go.Eng
open Go
section
variable {f g:Fs} {base p q nm:Str} {s:aj} {i:Int} {d x:ah} {e:Entry}
theorem qo (h:(bJ f base p).2=0):∃x,bJ f base p=(x,0)∧(aG f base p false).2=0∧al (aG f base p false).1.ino f.aa=some x:=by
 unfold bJ at h⊢;by_cases h1:(aG f base p false).2=0
 ·rw[if_pos h1] at h⊢
  cases hf:al (aG f base p false).1.ino f.aa with
  |none=>rw[hf] at h;simp at h
  |some x=>exact⟨x,rfl,h1,rfl⟩
 ·rw[if_neg h1] at h;exact absurd h h1
theorem mF {n:Fs→aj→Int→Fs} (h:(da n f base p q).2≠0):(da n f base p q).1=f:=by
 unfold da at h⊢;by_cases h1:(bJ f base p).2=0
 ·rw[if_pos h1] at h⊢
  by_cases h2:(bJ f base p).1.kind=2
  ·rw[if_pos h2]
  rw[if_neg h2] at h⊢;by_cases h3:(aG f base q false).2=0
  ·rw[if_pos h3] at h⊢
   by_cases h4:(aG f base q false).1.ino=0
   ·rw[if_pos h4] at h⊢
    by_cases h5:(bx q).bM=true
    ·rw[if_pos h5]
    rw[if_neg h5] at h⊢;by_cases h6:cS (aG f base q false).1.name=true
    ·rw[if_pos h6] at h;exact absurd rfl h
    ·rw[if_neg h6]
   ·rw[if_neg h4]
  ·rw[if_neg h3]
 ·rw[if_neg h1]
theorem nw {u:Fs→aj→Fs} (h:(cw u f base p).2≠0):(cw u f base p).1=f:=by
 unfold cw at h⊢;by_cases h1:(bJ f base p).2=0
 ·rw[if_pos h1] at h⊢
  by_cases h2:(bJ f base p).1.kind=2
  ·rw[if_pos h2]
  ·rw[if_neg h2] at h;exact absurd rfl h
 ·rw[if_neg h1]
theorem o7 {u:Fs→aj→Fs} (h:(dh u f base p).2≠0):(dh u f base p).1=f:=by
 unfold dh at h⊢;by_cases h1:(bJ f base p).2=0
 ·rw[if_pos h1] at h⊢
  by_cases h2:(bJ f base p).1.kind=2
  ·rw[if_pos h2] at h⊢
   by_cases h3:(bJ f base p).1.ino=1
   ·rw[if_pos h3]
   rw[if_neg h3] at h⊢;by_cases h4:(aG f base p false).1.name= []
   ·rw[if_pos h4]
   rw[if_neg h4] at h⊢;by_cases h5:0<(bJ f base p).1.entries.length
   ·rw[if_pos h5]
   ·rw[if_neg h5] at h;exact absurd rfl h
  ·rw[if_neg h2]
 ·rw[if_neg h1]
theorem qA {n:Fs→aj→Int→Fs} (h:(da n f base p q).2=0):∃x,(aG f base p false).2=0∧al (aG f base p false).1.ino f.aa=some x∧x.kind≠2∧(aG f base q false).2=0∧(aG f base q false).1.ino=0∧(bx q).bM=false∧cS (aG f base q false).1.name=true∧
 ∀n:Fs→aj→Int→Fs,da n f base p q=(n f (aG f base q false).1 x.ino,0):=by
 unfold da at h⊢;by_cases h1:(bJ f base p).2=0
 ·obtain⟨x,hx,h9,h8⟩:=qo h1
  rw[hx] at h⊢;rw[if_pos rfl] at h;by_cases h2:x.kind=2
  ·rw[if_pos h2] at h;simp at h
  rw[if_neg h2] at h;by_cases h3:(aG f base q false).2=0
  ·rw[if_pos h3] at h
   by_cases h4:(aG f base q false).1.ino=0
   ·rw[if_pos h4] at h
    by_cases h5:(bx q).bM=true
    ·rw[if_pos h5] at h;simp at h
    rw[if_neg h5] at h;by_cases h6:cS (aG f base q false).1.name=true
    ·refine⟨x,h9,h8,h2,h3,h4,by simpa using h5,h6,fun n=> ?_⟩
     rw[if_pos rfl,if_neg h2,if_pos h3,if_pos h4,if_neg h5,if_pos h6]
    ·rw[if_neg h6] at h;simp at h
   ·rw[if_neg h4] at h;simp at h
  ·rw[if_neg h3] at h;exact absurd h h3
 ·rw[if_neg h1] at h;exact absurd h h1
theorem Ad {n m:Fs→aj→Int→Fs} (h:(da n f base p q).2≠0):da m f base p q=da n f base p q:=by
 have h7:=mF h;rcases Classical.em ((da m f base p q).2=0) with h8|h8
 ·obtain⟨x,_,_,_,_,_,_,_,h9⟩:=qA h8
  rw[h9 n] at h;exact absurd rfl h
 ·unfold da at h8⊢h
  by_cases h1:(bJ f base p).2=0
  ·rw[if_pos h1] at h h8⊢
   by_cases h2:(bJ f base p).1.kind=2
   ·rw[if_pos h2,if_pos h2,if_pos h1]
   rw[if_neg h2] at h h8⊢;rw[if_pos h1,if_neg h2];by_cases h3:(aG f base q false).2=0
   ·rw[if_pos h3] at h h8⊢
    rw[if_pos h3];by_cases h4:(aG f base q false).1.ino=0
    ·rw[if_pos h4] at h h8⊢
     rw[if_pos h4];by_cases h5:(bx q).bM=true
     ·rw[if_pos h5,if_pos h5]
     rw[if_neg h5] at h h8⊢;rw[if_neg h5];by_cases h6:cS (aG f base q false).1.name=true
     ·rw[if_pos h6] at h;exact absurd rfl h
     ·rw[if_neg h6,if_neg h6]
    ·rw[if_neg h4,if_neg h4]
   ·rw[if_neg h3,if_neg h3]
  ·rw[if_neg h1,if_neg h1]
structure Pf (f:Fs) (n:Nat) (base p q:Str) (s:aj) (x:ah) (g:Fs):Prop where
 tr:Tree g
 bd:Bd (n+1) g
 sp:(aG f base p false).2=0
 hx:al (aG f base p false).1.ino f.aa=some x
 hxx:al x.ino f.aa=some x
 hk:x.kind≠2
 sq:aG f base q false=(s,0)
 s0:s.ino=0
 bM:(bx q).bM=false
 free:mH f (aB s.dir f.aa) s.name
 ino:(aB s.dir f.aa).ino=s.dir
 ne:x.ino≠(aB s.dir f.aa).ino
 eq:g=mS f (aB s.dir f.aa) s.name x
 more:y_ f g (aB s.dir f.aa) s.name (x.fa (x.aL+1))
 len:g.aa.length=f.aa.length
theorem vJ {n:Nat} (ht:Tree f) (hb:Bd n f) (hn:n≤9000) (h0:(da gv f base p q).2=0):∃s x,Pf f n base p q s x (da gv f base p q).1∧da nR f base p q=da gv f base p q:=by
 have e:=oK ht hb (by omega);obtain⟨x,h1,h2,h3,h4,h5,h6,h7,h8⟩:=qA h0;have hsk:aG f base q false=((aG f base q false).1,0):=by rw[←h4]
 have hg:=(fP e.ws base q false).1 h4;rw[h8 gv,h8 nR];generalize (aG f base q false).1=s at*;obtain⟨hf,hs⟩:=xC ht e.wf hg h5 h7;have hi:=(aN h2).2;have hxx:al x.ino f.aa=some x:=by rw[hi];exact h2
 obtain⟨q1,q2,q3⟩:=Gv (s:=s) hf hxx h3;refine⟨s,x,⟨?_, ?_,h1,h2,hxx,h3,hsk,h5,h6,hf,hs,q3,q1, ?_, ?_⟩,by rw[q1,q2]⟩
 ·show Tree (gv f s x.ino)
  rw[q1];exact KR ht hf hxx h3
 ·show Bd _ (gv f s x.ino)
  rw[q1];exact hb.mS ht hf hxx
 ·show y_ f (gv f s x.ino) _ _ _
  rw[q1];exact D6 hxx q3
 ·show(gv f s x.ino).aa.length=_
  rw[q1];exact(yt ht hf hxx q3).1
theorem Ga (ht:Tree f) (hb:Bd 9000 f):da nR f base p q=da gv f base p q:=by
 rcases Classical.em ((da gv f base p q).2=0) with h|h
 ·obtain⟨s,x,_,h2⟩:=vJ ht hb (Nat.le_refl _) h;exact h2
 ·exact Ad h
structure EY (f:Fs) (n:Nat) (s:aj) (x:ah) (e:Entry) (g:Fs):Prop where
 tr:Tree g
 bd:Bd n g
 ent:Ent f (aB s.dir f.aa) s.name x e
 aqK:(aB s.dir f.aa).ino=s.dir
 ak8:x.ino=s.ino
 xe:x.entries= []
 eq:g=jd f (aB s.dir f.aa) s.name x
 more:y_ g f ((aB s.dir f.aa).b_ s.name) s.name x
 free:mH g ((aB s.dir f.aa).b_ s.name) s.name
theorem taken {n:Nat} {fol:Bool} (ht:Tree f) (hb:Bd n f) (hn:n≤9000) (hg:Gd f fol s) (h1:s.name≠ []) (hx:al s.ino f.aa=some x) (hx0:x.entries= []):∃e,EY f n s x e (db f s)∧ik f s=db f s:=by
 have ee:=oK ht hb (by omega);obtain⟨e,he,hd,hi⟩:=q9 ht ee.wf hg h1 hx;obtain⟨q1,q2⟩:=Ij he ht hi;obtain⟨m1,m2⟩:=Dw he ht;refine⟨e,⟨?_, ?_,he,hd,hi,hx0,q1, ?_, ?_⟩,by rw[q1,q2]⟩
 ·rw[q1];exact IN ht he hx0
 ·rw[q1];exact hb.jd ht he
 ·rw[q1];exact m1
 ·rw[q1];exact m2
theorem ug {u:Fs→aj→Fs} (h:(cw u f base p).2=0):∃x,(aG f base p false).2=0∧al (aG f base p false).1.ino f.aa=some x∧x.kind≠2∧∀u:Fs→aj→Fs,cw u f base p=(u f (aG f base p false).1,0):=by
 unfold cw at h⊢;by_cases h1:(bJ f base p).2=0
 ·obtain⟨x,hx,h9,h8⟩:=qo h1
  rw[hx] at h⊢;rw[if_pos rfl] at h;by_cases h2:x.kind=2
  ·rw[if_pos h2] at h;simp at h
  ·exact⟨x,h9,h8,h2,fun u=>by rw[if_pos rfl,if_neg h2]⟩
 ·rw[if_neg h1] at h;exact absurd h h1
theorem wK {u:Fs→aj→Fs} (h:(dh u f base p).2=0):∃x,(aG f base p false).2=0∧al (aG f base p false).1.ino f.aa=some x∧(aG f base p false).1.name≠ [] ∧x.entries= [] ∧∀u:Fs→aj→Fs,dh u f base p=(u f (aG f base p false).1,0):=by
 unfold dh at h⊢;by_cases h1:(bJ f base p).2=0
 ·obtain⟨x,hx,h9,h8⟩:=qo h1
  rw[hx] at h⊢;rw[if_pos rfl] at h;by_cases h2:x.kind=2
  ·rw[if_pos h2] at h
   by_cases h3:x.ino=1
   ·rw[if_pos h3] at h;simp at h
   rw[if_neg h3] at h;by_cases h4:(aG f base p false).1.name= []
   ·rw[if_pos h4] at h;simp at h
   rw[if_neg h4] at h;by_cases h5:0<x.entries.length
   ·rw[if_pos h5] at h;simp at h
   ·refine⟨x,h9,h8,h4,List.length_eq_zero_iff.1 (by omega),fun u=> ?_⟩
    rw[if_pos rfl,if_pos h2,if_neg h3,if_neg h4,if_neg h5]
  ·rw[if_neg h2] at h;simp at h
 ·rw[if_neg h1] at h;exact absurd h h1
theorem rP {n:Nat} (ht:Tree f) (hb:Bd n f) (hn:n≤9000) (h0:(cw db f base p).2=0):∃s x e,aG f base p false=(s,0)∧x.kind≠2∧EY f n s x e (cw db f base p).1∧cw ik f base p=cw db f base p:=by
 have ee:=oK ht hb (by omega);obtain⟨x,h1,h2,h3,h4⟩:=ug h0;have hsk:aG f base p false=((aG f base p false).1,0):=by rw[←h1]
 have hg:=(fP ee.ws base p false).1 h1;rw[h4 db,h4 ik];generalize (aG f base p false).1=s at*;have hn0:s.name≠ [] :=fun e=>by
  rcases hg with⟨_,_,d,hd,hk⟩ |⟨h,_⟩
  ·rw[h2] at hd;cases hd;exact h3 hk
  ·exact h e
 obtain⟨e,t,t2⟩:=taken ht hb hn hg hn0 h2 (ht.xB h2 h3);exact⟨s,x,e,hsk,h3,t,by rw[t2]⟩
theorem ud {n:Nat} (ht:Tree f) (hb:Bd n f) (hn:n≤9000) (h0:(dh db f base p).2=0):∃s x e,aG f base p false=(s,0)∧EY f n s x e (dh db f base p).1∧dh ik f base p=dh db f base p:=by
 have ee:=oK ht hb (by omega);obtain⟨x,h1,h2,h3,h5,h4⟩:=wK h0;have hsk:aG f base p false=((aG f base p false).1,0):=by rw[←h1]
 have hg:=(fP ee.ws base p false).1 h1;rw[h4 db,h4 ik];generalize (aG f base p false).1=s at*;obtain⟨e,t,t2⟩:=taken ht hb hn hg h3 h2 h5;exact⟨s,x,e,hsk,t,by rw[t2]⟩
theorem zP {u v:Fs→aj→Fs} (h:(cw u f base p).2≠0):cw v f base p=cw u f base p:=by
 unfold cw at h⊢;by_cases h1:(bJ f base p).2=0
 ·rw[if_pos h1] at h
  rw[if_pos h1,if_pos h1];by_cases h2:(bJ f base p).1.kind=2
  ·rw[if_pos h2,if_pos h2]
  ·rw[if_neg h2] at h;exact absurd rfl h
 ·rw[if_neg h1,if_neg h1]
theorem AW {u v:Fs→aj→Fs} (h:(dh u f base p).2≠0):dh v f base p=dh u f base p:=by
 unfold dh at h⊢;by_cases h1:(bJ f base p).2=0
 ·rw[if_pos h1] at h
  rw[if_pos h1,if_pos h1];by_cases h2:(bJ f base p).1.kind=2
  ·rw[if_pos h2] at h
   rw[if_pos h2,if_pos h2];by_cases h3:(bJ f base p).1.ino=1
   ·rw[if_pos h3,if_pos h3]
   rw[if_neg h3] at h;rw[if_neg h3,if_neg h3];by_cases h4:(aG f base p false).1.name= []
   ·rw[if_pos h4,if_pos h4]
   rw[if_neg h4] at h;rw[if_neg h4,if_neg h4];by_cases h5:0<(bJ f base p).1.entries.length
   ·rw[if_pos h5,if_pos h5]
   ·rw[if_neg h5] at h;exact absurd rfl h
  ·rw[if_neg h2,if_neg h2]
 ·rw[if_neg h1,if_neg h1]
theorem D1 (ht:Tree f) (hb:Bd 9000 f):cw ik f base p=cw db f base p:=by
 rcases Classical.em ((cw db f base p).2=0) with h|h
 ·obtain⟨s,x,e,_,_,_,h2⟩:=rP ht hb (Nat.le_refl _) h;exact h2
 ·exact zP h
theorem Ft (ht:Tree f) (hb:Bd 9000 f):dh ik f base p=dh db f base p:=by
 rcases Classical.em ((dh db f base p).2=0) with h|h
 ·obtain⟨s,x,e,_,_,h2⟩:=ud ht hb (Nat.le_refl _) h;exact h2
 ·exact AW h
theorem Bd.inf {n:Nat} (hb:Bd n f) (hn:n≤10000):InF f:=⟨by have:=hb.len;omega,fun x hx=>by have:=hb.dg x hx;omega⟩
theorem J3 {n:Nat} (ht:Tree f) (hb:Bd n f) (hn:n≤9000):Tree (da gv f base p q).1∧Bd (n+1) (da gv f base p q).1:=by
 rcases Classical.em ((da gv f base p q).2=0) with h|h
 ·obtain⟨s,x,h1,_⟩:=vJ ht hb hn h;exact⟨h1.tr,h1.bd⟩
 ·rw[mF h];exact⟨ht,hb.mono (by omega)⟩
theorem D8 {n:Nat} (ht:Tree f) (hb:Bd n f) (hn:n≤9000):Tree (cw db f base p).1∧Bd n (cw db f base p).1:=by
 rcases Classical.em ((cw db f base p).2=0) with h|h
 ·obtain⟨s,x,e,_,_,h1,_⟩:=rP ht hb hn h;exact⟨h1.tr,h1.bd⟩
 ·rw[nw h];exact⟨ht,hb⟩
theorem EO {n:Nat} (ht:Tree f) (hb:Bd n f) (hn:n≤9000):Tree (dh db f base p).1∧Bd n (dh db f base p).1:=by
 rcases Classical.em ((dh db f base p).2=0) with h|h
 ·obtain⟨s,x,e,_,h1,_⟩:=ud ht hb hn h;exact⟨h1.tr,h1.bd⟩
 ·rw[o7 h];exact⟨ht,hb⟩
end
end Go.Eng
set_option linter.unusedSimpArgs false
set_option linter.unusedVariables false
set_option linter.unusedSectionVars false
namespace Go.Eng
open Go
def xH (l:List ah):Nat→Int→Int→Bool
 |0,_,_=>false
 |n+1,d,o=>if d=o then true else if d=1 then false else xH l n (aB d l).parent o
def oH (l:List ah):Nat→Int→Int→Bool
 |0,_,_=>false
 |n+1,d,o=>if d=o then true else oH l n (aB d l).parent o
section
variable {f g:Fs}
theorem Way.last {l:List ah} {i k:Int} {n:Nat} (h:Way l i k n):(n=0∧k=i)∨∃j m x e,n=m+1∧Way l i j m∧al j l=some x∧e∈x.entries∧e.ino=k:=by
 cases h with
 |here=>exact Or.inl ⟨rfl,rfl⟩
 |step h hf he=>exact Or.inr ⟨_,_,_,_,rfl,h,hf,he,rfl⟩
noncomputable def vC (l:List ah) (o d:Int):Bool:= @decide (∃m,Way l o d m) (Classical.propDecidable _)
theorem lU {l:List ah} {o d:Int}:vC l o d=true↔∃m,Way l o d m:=by unfold vC;exact @decide_eq_true_iff _ (Classical.propDecidable _)
theorem Oq {l:List ah} {o d:Int} (h:¬∃m,Way l o d m):vC l o d=false:=by
 cases e:vC l o d
 ·rfl
 ·exact absurd (lU.1 e) h
theorem xI (ht:Tree f) {of:Int}:∀(k:Nat) (d:Int) (x:ah),Way f.aa 1 d k→al d f.aa=some x→x.kind=2→∀n,k<n→xH f.aa n d of=vC f.aa of d∧oH f.aa n d of=vC f.aa of d
 |0,d,x,hw,hx,hk,0,hn=>by omega
 |k+1,d,x,hw,hx,hk,0,hn=>by omega
 |0,d,x,hw,hx,hk,n+1,hn=>by
  have hd:d=1:=by
   rcases hw.last with⟨_,h⟩ |⟨_,_,_,_,h,_⟩
   ·exact h
   ·omega
  subst hd;obtain⟨r,hr,hr2,hr3⟩:=ht.root;rw[hx] at hr;cases hr;have hway:(∃m,Way f.aa of 1 m)↔(1:Int)=of:=by
   constructor
   ·rintro⟨m,hm⟩
    rcases hm.last with⟨_,h⟩ |⟨j,m',y,e,_,_,hy,he,h⟩
    ·exact h
    ·exact absurd h (ht.uB hy he)
   ·rintro rfl;exact⟨0, .here⟩
  by_cases ho:(1:Int)=of
  ·rw[lU.2 (hway.2 ho)]
   unfold xH oH;rw[if_pos ho,if_pos ho];exact⟨rfl,rfl⟩
  ·rw[Oq (fun h=>ho (hway.1 h))]
   have hr:∀n,oH f.aa n 1 of=false:=by
    intro n;induction n with
    |zero=>rfl
    |succ n ih=>unfold oH;rw[if_neg ho,ba hx,hr3];exact ih
   refine⟨?_,hr _⟩;unfold xH;rw[if_neg ho,if_pos rfl]
 |k+1,d,x,hw,hx,hk,n+1,hn=>by
  have h1:d≠1:=fun e=>by
   subst e;have:=ht.deep hw hx hk .here;omega
  rcases hw.last with⟨h,_⟩ |⟨j,m,y,e,hm,hwj,hy,he,hed⟩
  ·omega
  ·have hmk:m=k:=by omega
   subst hmk;have hp:x.parent=j:=ht.parent hx hk hy he hed;have hyk:y.kind=2:=ht.dg hy he;have hway:(∃m,Way f.aa of d m)↔d=of∨∃m,Way f.aa of j m:=by
    constructor
    ·rintro⟨m',hm'⟩
     rcases hm'.last with⟨_,h⟩ |⟨j',m2,y',e',_,hw',hy',he',h⟩
     ·exact Or.inl h
     ·have hxx:al e.ino f.aa=some x:=by rw[hed];exact hx
      obtain⟨q1,_,_⟩:=ht.up hy he hy' he' (by rw[hed,h]) hxx hk;subst q1;exact Or.inr ⟨_,hw'⟩
    ·rintro(rfl|⟨m',hm'⟩)
     ·exact⟨0, .here⟩
     ·exact⟨m'+1,hed▸Way.step hm' hy he⟩
   obtain⟨i1,i2⟩:=xI ht (of:=of) m j y hwj hy hyk n (by omega);unfold xH oH;by_cases ho:d=of
   ·rw[lU.2 (hway.2 (Or.inl ho)),if_pos ho,if_pos ho];exact⟨rfl,rfl⟩
   ·rw[if_neg ho,if_neg ho,if_neg h1,ba hx,hp,i1,i2]
    have:vC f.aa of j=vC f.aa of d:=by
     rw[Bool.eq_iff_iff,lU,lU,hway];exact⟨Or.inr,fun h=>h.resolve_left ho⟩
    exact⟨this,this⟩
theorem Im (ht:Tree f) {d:Int} {x:ah} (hx:al d f.aa=some x) (hk:x.kind=2):∃k,Way f.aa 1 d k∧k<f.aa.length:=by
 obtain⟨k,hw⟩:=(ht.qd hx).way;exact⟨k,hw,ht.Nb hw hx hk⟩
theorem BA (ht:Tree f) {d o:Int} {x:ah} (hx:al d f.aa=some x) (hk:x.kind=2):xH f.aa f.aa.length d o=vC f.aa o d∧oH f.aa (f.aa.length+1) d o=vC f.aa o d:=by
 obtain⟨k,hw,hlt⟩:=Im ht hx hk;exact⟨(xI ht k d x hw hx hk _ hlt).1,(xI ht k d x hw hx hk _ (by omega)).2⟩
def mvB (un:Fs→aj→Fs) (f:Fs) (b:aj):Fs:=if b.ino≠0 then un f b else f
def mv3 (f:Fs) (a b:aj):Fs:=(f.set ((aB a.dir f.aa).b_ a.name)).set ((aB b.dir (f.set ((aB a.dir f.aa).b_ a.name)).aa).bT b.name a.ino)
def mvE (f:Fs) (a b:aj):Fs:=f.set (if (aB a.ino f.aa).kind=2 then (aB a.ino f.aa).m4 b.dir else aB a.ino f.aa)
def EW (f:Fs) (a b:aj):Fs:=if (aB a.ino f.aa).kind=2 then f.set ((aB a.ino f.aa).m4 b.dir) else f
def eV (f:Fs) (a b:aj):Fs:=mvE (mv3 (mvB db f b) a b) a b
def j9 (f:Fs) (a b:aj):Fs:=EW (mv3 (mvB ik f b) a b) a b
variable {d1 d2 x y:ah} {a b:aj} {e e2:Entry} {nm:Str}
theorem KQ (ht:Tree f) (hm:Mv f (aB a.dir f.aa) a.name (aB b.dir f.aa) b.name x e) (ha:(aB a.dir f.aa).ino=a.dir) (hb:(aB b.dir f.aa).ino=b.dir) (hx:x.ino=a.ino):
 mvE (mv3 f a b) a b=mvF f (aB a.dir f.aa) a.name (aB b.dir f.aa) b.name x∧EW (mv3 f a b) a b=mvF f (aB a.dir f.aa) a.name (aB b.dir f.aa) b.name x:=by
 have hd:aB b.dir (f.set ((aB a.dir f.aa).b_ a.name)).aa=mvD (aB a.dir f.aa) (aB b.dir f.aa) a.name:=by
  show aB b.dir (bO _ f.aa)=_;rw[pB];unfold mvD;show(if (aB a.dir f.aa).ino=b.dir then _ else _)=_;rw[hb]
 have h3:mv3 f a b=(f.set ((aB a.dir f.aa).b_ a.name)).set ((mvD (aB a.dir f.aa) (aB b.dir f.aa) a.name).bT b.name x.ino):=by
  unfold mv3;rw[hd,hx]
 have hne:=hm.ent.ne ht;have hne2:=hm.ne2;have hxf:al a.ino (mv3 f a b).aa=some x:=by
  rw[h3];show al a.ino (bO _ (bO _ f.aa))=some x;rw[bX,bX];show(if (mvD _ _ _).ino=a.ino then _ else if (aB a.dir f.aa).ino=a.ino then _ else _)=_;rw[l8,if_neg (fun h=>hne2 (by rw[hx];exact h.symm)),if_neg (fun h=>hne (by rw[hx];exact h.symm)),←hx];exact hm.ent.hx
 have hs:cK (mv3 f a b).aa:=by rw[h3];exact kc (kc ht.sort _) _
 unfold mvE EW mvF;rw[ba hxf,hb,←h3];by_cases hk:x.kind=2
 ·simp only[if_pos hk]
  exact⟨trivial,trivial⟩
 ·simp only[if_neg hk]
  exact⟨E3 hs (by rw[hx];exact hxf),trivial⟩
theorem Way.mono {l m:List ah} (h:∀k x,al k m=some x→∀e∈x.entries,∃y,al k l=some y∧e∈y.entries) {i k:Int} {n:Nat} (hw:Way m i k n):Way l i k n:=by
 induction hw with
 |here=>exact .here
 |step hw hf he ih=>
  obtain⟨y,hy,he'⟩:=h _ _ hf _ he;exact .step ih hy he'
theorem Gw (h:Ent f d1 nm x e) (ht:Tree f):∀k z,al k (jd f d1 nm x).aa=some z→∀e'∈z.entries,∃y,al k f.aa=some y∧e'∈y.entries:=by
 intro k z hz e' he';rw[jQ (h.ne ht)] at hz;by_cases h1:x.ino=k
 ·rw[if_pos h1] at hz
  by_cases hl:x.aL=1
  ·rw[if_pos hl] at hz;cases hz
  ·rw[if_neg hl] at hz;cases hz
   exact⟨x,by rw[←h1];exact h.hx,he'⟩
 ·rw[if_neg h1] at hz
  by_cases h2:d1.ino=k
  ·rw[if_pos h2] at hz;cases hz
   exact⟨d1,by rw[←h2];exact h.hd,(re.1 he').1⟩
  ·rw[if_neg h2] at hz
   exact⟨z,hz,he'⟩
end
end Go.Eng
namespace Go.Eng
open Go
section
variable {f g:Fs} {d1 d2 x y:ah} {a b s t:aj} {e e2:Entry}
structure yT (f:Fs) (a b:aj) (x:ah):Prop where
 ga:Gd f false a
 an:a.name≠ []
 hx:al a.ino f.aa=some x
 gb:Gd f false b
 bn:b.name≠ []
 ne:a.ino≠b.ino
 out:x.kind=2→¬∃n,Way f.aa a.ino b.dir n
 emp:∀y,al b.ino f.aa=some y→y.entries= []
 may:b.ino=0→cS b.name=true
structure La (f:Fs) (a b:aj) (x:ah) (n:Nat) (f1:Fs) (e:Entry):Prop where
 tr:Tree f1
 bd:Bd n f1
 mv:Mv f1 (aB a.dir f1.aa) a.name (aB b.dir f1.aa) b.name x e
 ha:(aB a.dir f1.aa).ino=a.dir
 hb:(aB b.dir f1.aa).ino=b.dir
 hx:x.ino=a.ino
 sub:∀k z,al k f1.aa=some z→∀e∈z.entries,∃y,al k f.aa=some y∧e∈y.entries
 find:∀k z,al k f.aa=some z→k≠b.ino→∃z',al k f1.aa=some z'∧z'.kind=z.kind∧∀n,(k=b.dir∧n=b.name)∨b9 n z'.entries=b9 n z.entries
 ent:∀k,k≠b.dir→k≠b.ino→(al k f1.aa).map ah.entries=(al k f.aa).map ah.entries
 len:f1.aa.length≤f.aa.length∧f.aa.length≤f1.aa.length+1
 gone:al b.ino f1.aa=none∨(al b.ino f1.aa).map ah.entries=some []
 aqI:al b.ino f1.aa=none→b.ino=0∨fc b.ino f.aa≤1
theorem q7 {fol:Bool} (h:Gd f fol s) (hn:s.name≠ []):∃d,al s.dir f.aa=some d∧d.kind=2∧s.ino=b9 s.name d.entries∧aB s.dir f.aa=d∧d.ino=s.dir:=by
 rcases h with⟨h,_⟩ |⟨_,d,h1,h2,h3,_⟩
 ·exact absurd h hn
 ·exact⟨d,h1,h2,h3,ba h1,(aN h1).2⟩
theorem M7 {n:Nat} (ht:Tree f) (hb:Bd n f) (hn:n≤9000) (h:yT f a b x):∃e,La f a b x n (mvB db f b) e∧mvB ik f b=mvB db f b:=by
 have ew:=oK ht hb (by omega);obtain⟨d1,a1,a2,a3,a4,a5⟩:=q7 h.ga h.an;obtain⟨d2,b1,b2,b3,b4,b5⟩:=q7 h.gb h.bn;obtain⟨e,he,_,hxi⟩:=q9 ht ew.wf h.ga h.an h.hx;rw[a4] at he;have hx0:x.kind≠2→x.entries= [] :=fun hk=>ht.xB h.hx hk
 have hnw:∀l,(∀z,al a.ino l=some z→z=x)→x.kind≠2→¬∃n,Way l a.ino b.dir n:=by
  intro l hl hk ⟨m,hm⟩;rcases hm.head with⟨_,h1⟩ |⟨_,z,e',_,hz,he',_⟩
  ·rw[h1,h.hx] at b1;cases b1;exact hk b2
  ·rw[hl z hz,hx0 hk] at he';cases he'
 unfold mvB;by_cases h0:b.ino=0
 ·rw[if_neg (fun h=>h h0),if_neg (fun h=>h h0)]
  obtain⟨hf,hfb⟩:=xC ht ew.wf h.gb h0 (h.may h0);refine⟨e,⟨ht,hb,⟨by rw[a4];exact he,hf, ?_⟩,by rw[a4,a5],hfb,hxi,fun k z hz e he=>⟨z,hz,he⟩,fun k z hz _=>⟨z,hz,rfl,fun _=>Or.inr rfl⟩,fun k _ _=>rfl,⟨Nat.le_refl _,by omega⟩,Or.inl (by rw[h0];exact ew.wf.zero),fun _=>Or.inl h0⟩,rfl⟩;rw[hxi,b4,b5];by_cases hk:x.kind=2
  ·exact h.out hk
  ·exact hnw f.aa (fun z hz=>by rw[h.hx] at hz;exact(Option.some.inj hz).symm) hk
 ·rw[if_pos h0,if_pos h0]
  have hy:∃y,al b.ino f.aa=some y:=by
   have h1:=gA ew.wf (aN b1).1 b.name;rw[←b3] at h1;exact Option.isSome_iff_exists.1 (h1.resolve_left h0)
  obtain⟨y,hy⟩:=hy;have hy0:=h.emp y hy;obtain⟨e2,t,t2⟩:=taken ht hb hn h.gb h.bn hy hy0;refine⟨e, ?_,t2⟩;have teq:=t.eq;rw[b4] at teq;have te:=t.ent;rw[b4] at te;have hyi:=t.ak8;have hyne:=te.ne ht;have hfind:=fun k=>jQ (f:=f) (d:=d2) (nm:=b.name) (x:=y) hyne k
  rw[←teq] at hfind;have hnm:¬(a.dir=b.dir∧a.name=b.name):=fun⟨e1,e3⟩=>by
   rw[e1,b1] at a1;cases a1;exact h.ne (by rw[a3,b3,e3])
  have hya:y.ino≠a.dir:=fun e1=>by
   have h1:=hy;rw[←hyi,e1,a1] at h1;cases h1;have:=he.mem.1;rw[hy0] at this;cases this
  have hxy:y.ino≠a.ino:=fun e1=>h.ne (by rw[←e1,hyi])
  have hxd:d2.ino≠a.ino:=fun e1=>by
   have h1:=b1;rw[←b5,e1,h.hx] at h1;cases h1;exact h.out b2 ⟨0,by rw[←b5,e1];exact .here⟩
  have hg1:al a.dir (db f b).aa=some (if d2.ino=a.dir then d2.b_ b.name else d1):=by
   rw[hfind,if_neg hya];by_cases h1:d2.ino=a.dir
   ·rw[if_pos h1,if_pos h1]
   ·rw[if_neg h1,if_neg h1];exact a1
  have hg2:al b.dir (db f b).aa=some (d2.b_ b.name):=by
   rw[hfind,if_neg (by rw[←b5];exact hyne),if_pos b5]
  have hgx:al a.ino (db f b).aa=some x:=by
   rw[hfind,if_neg hxy,if_neg hxd];exact h.hx
  have hent:Ent (db f b) (aB a.dir (db f b).aa) a.name x e:=by
   rw[ba hg1];by_cases h1:d2.ino=a.dir
   ·rw[if_pos h1] at hg1⊢
    have h2:d1=d2:=by
     have h3:=a1;rw[←h1,b5,b1] at h3;exact(Option.some.inj h3).symm
    subst h2;refine⟨?_, ?_,he.hn,by rw[hxi];exact hgx⟩
    ·show al d1.ino _=_
     rw[h1];exact hg1
    ·show cP a.name (dn b.name d1.entries)=_
     rw[ka,if_neg (fun e3=>hnm ⟨by rw[←h1,b5],e3.symm⟩)];exact he.he
   ·rw[if_neg h1] at hg1⊢
    exact⟨by rw[a5];exact hg1,he.he,he.hn,by rw[hxi];exact hgx⟩
  have hfree:mH (db f b) (aB b.dir (db f b).aa) b.name:=by
   rw[ba hg2];have:=t.free;rw[b4] at this;exact this
  have hsub:∀k z,al k (db f b).aa=some z→∀e∈z.entries,∃y,al k f.aa=some y∧e∈y.entries:=by
   rw[teq];exact Gw te ht
  have hb2:(aB b.dir (db f b).aa).ino=b.dir:=by rw[ba hg2];exact b5
  have hsum:=zd ht te hy0;rw[←teq] at hsum;refine⟨t.tr,t.bd,⟨hent,hfree, ?_⟩, ?_,hb2,hxi,hsub,fun k z hz hk=> ?_,fun k h1 h2=> ?_, ?_, ?_,fun h1=> ?_⟩
  ·rw[hxi,hb2]
   by_cases hk:x.kind=2
   ·exact fun⟨m,hm⟩=>h.out hk ⟨m,Way.mono hsub hm⟩
   ·exact hnw _ (fun z hz=>by rw[hgx] at hz;exact(Option.some.inj hz).symm) hk
  ·rw[ba hg1]
   by_cases h1:d2.ino=a.dir
   ·rw[if_pos h1];exact h1
   ·rw[if_neg h1];exact a5
  ·rw[hfind,if_neg (by rw[hyi];exact fun e=>hk e.symm)]
   by_cases h1:d2.ino=k
   ·rw[if_pos h1]
    have h2:=hz;rw[←h1,b5,b1] at h2;cases h2;refine⟨_,rfl,rfl,fun n=> ?_⟩;by_cases hn':b.name=n
    ·exact Or.inl ⟨by rw[←h1,b5],hn'.symm⟩
    ·right
     show b9 n (dn b.name d2.entries)=_;rw[lD,if_neg hn']
   ·rw[if_neg h1]
    exact⟨z,hz,rfl,fun _=>Or.inr rfl⟩
  ·rw[hfind,if_neg (by rw[hyi];exact fun e=>h2 e.symm),if_neg (by rw[b5];exact fun e=>h1 e.symm)]
  ·have:=hsum.1
   split at this<;>omega
  ·rw[hfind,if_pos hyi]
   by_cases hl:y.aL=1
   ·rw[if_pos hl];exact Or.inl rfl
   ·rw[if_neg hl];right
    show some y.entries=_;rw[hy0]
  ·right
   rw[hfind,if_pos hyi] at h1;by_cases hl:y.aL=1
   ·have:=(ht.fz hy).2.1
    omega
   ·rw[if_neg hl] at h1;cases h1
theorem Bd.mvF {n:Nat} {n1 n2:Str} (hb:Bd n f) (ht:Tree f) (h:Mv f d1 n1 d2 n2 x e):Bd (n+1) (mvF f d1 n1 d2 n2 x):=by
 have hs:=(CM h ht).1;have hd1:=hb.find h.ent.hd;have hd2:=hb.find h.free.hd;have hx:=hb.find h.ent.hx;have hl:=hb.len;have hsort:=yJ (d1:=d1) (d2:=d2) (n1:=n1) (n2:=n2) (x:=x) ht;have c1:=n_ n1 d1.entries;have key:∀z∈(Go.Eng.mvF f d1 n1 d2 n2 x).aa,z.entries.length≤n+1∧z.data.length≤10000000:=by
  intro z hz;have hz':=dN hsort hz;rw[s8 h ht] at hz';by_cases h1:x.ino=z.ino
  ·rw[if_pos h1] at hz'
   have hz2:=Option.some.inj hz';rw[←hz2];by_cases hk:x.kind=2
   ·rw[if_pos hk]
    exact⟨by show x.entries.length≤_;omega,hx.2⟩
   ·rw[if_neg hk];exact⟨by omega,hx.2⟩
  ·rw[if_neg h1] at hz'
   by_cases h2:d2.ino=z.ino
   ·rw[if_pos h2] at hz'
    have hz2:=Option.some.inj hz';rw[←hz2];have c2:=pC ⟨n2,x.ino⟩ (mvD d1 d2 n1).entries;show(fS ⟨n2,x.ino⟩ (mvD d1 d2 n1).entries).length≤_∧(mvD d1 d2 n1).data.length≤_;unfold mvD at c2⊢;by_cases h3:d1.ino=d2.ino
    ·rw[if_pos h3] at c2⊢
     have c3:(d1.b_ n1).entries.length≤d1.entries.length:=c1;exact⟨by omega,hd1.2⟩
    ·rw[if_neg h3] at c2⊢
     exact⟨by omega,hd2.2⟩
   ·rw[if_neg h2] at hz'
    by_cases h3:d1.ino=z.ino
    ·rw[if_pos h3] at hz'
     have hz2:=Option.some.inj hz';rw[←hz2];exact⟨by show(dn n1 d1.entries).length≤_;omega,hd1.2⟩
    ·rw[if_neg h3] at hz'
     have:=hb.find hz';exact⟨by omega,this.2⟩
 exact⟨by omega,fun z hz=>(key z hz).1,fun z hz=>(key z hz).2⟩
structure m6 (f:Fs) (a b:aj) (x:ah) (n:Nat) (f1:Fs) (e:Entry) (g:Fs):Prop where
 pre:La f a b x n f1 e
 tr:Tree g
 bd:Bd (n+1) g
 eq:g=mvF f1 (aB a.dir f1.aa) a.name (aB b.dir f1.aa) b.name x
theorem D9 {n:Nat} (ht:Tree f) (hb:Bd n f) (hn:n≤9000) (h:yT f a b x):∃e,m6 f a b x n (mvB db f b) e (eV f a b)∧j9 f a b=eV f a b:=by
 obtain⟨e,p,p2⟩:=M7 ht hb hn h;obtain⟨q1,q2⟩:=KQ p.tr p.mv p.ha p.hb p.hx;have h1:eV f a b=mvF (mvB db f b) (aB a.dir (mvB db f b).aa) a.name (aB b.dir (mvB db f b).aa) b.name x:=q1;have h2:j9 f a b=eV f a b:=by
  unfold j9;rw[p2,q2,←q1];rfl
 refine⟨e,⟨p, ?_, ?_,h1⟩,h2⟩
 ·rw[h1];exact Ss p.tr p.mv
 ·rw[h1];exact p.bd.mvF p.tr p.mv
end
end Go.Eng
