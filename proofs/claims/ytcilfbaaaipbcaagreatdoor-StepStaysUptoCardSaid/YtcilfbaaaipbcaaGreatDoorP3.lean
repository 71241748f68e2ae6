/- A part of the proofs of the laws of this seat: the engine that reads the program's code, plain functions, or facts of the program's functions. Conditions: none. -/
import Derived.Test.YtcilfbaaaipbcaaGreatDoorP2
import Derived.Test.YtcilfbaaaipbcaaGreatDoorP1
import Derived.Test.YtcilfbaaaipbcaaGreatDoorE4
set_option linter.unusedSectionVars false
set_option linter.unusedVariables false
set_option linter.unusedSimpArgs false
set_option linter.unnecessarySimpa false
set_option maxRecDepth 100000
namespace Go.Eng
open Go
def al.cy (x:al) (d:Str):al:=⟨x.ino,x.kind,x.aI,d,x.parent,x.entries⟩
def rm (f:Fs) (ino:Int) (d:Str):Fs×Int:=if cO f 0 ((d.length:Int) - ((aD ino f.aa).data.length:Int))=true then (f.set ((aD ino f.aa).cy d),0) else (f,8)
section
variable {f:Fs} {base p:Str}
theorem As (h:WF f) (i:Int):(aD i f.aa).data.length≤1073741824:=by
 cases hf:au i f.aa with
 |none=>rw[dQ hf];simp [jP]
 |some x=>rw[aR hf];exact h.sm.data x (aP hf).1
theorem CS (h:WF f) {i:Int} {d:Str} (hd:d.length≤1073741824):qw f i d=some (rm f i d):=by
 unfold qw rm;have hg:=As h i;rw[h.get,ah];simp only;rw[cd (by omega) (by omega),iv h.sm (by unfold Far;omega) (by unfold Far;omega),ah];cases hfit:cO f 0 ((d.length:Int) - ((aD i f.aa).data.length:Int))
 ·rfl
 ·rw[Bool.not_true,ax,h.set,ah];rfl
theorem AG (h:WF f) {i:Int} {d:Str} (hd:d.length≤1073741824):nT f i d=some (rm f i d):=by
 unfold nT rm;have hg:=As h i;rw[h.uf,ah];simp only;rw[cd (by omega) (by omega),fD h.sm (by unfold Far;omega) (by unfold Far;omega),ah];cases hfit:cO f 0 ((d.length:Int) - ((aD i f.aa).data.length:Int))
 ·rfl
 ·rw[Bool.not_true,ax,h.ajM,ah];rfl
end
def XV:Option al→Option al→Prop
 |none,none=>True
 |some x,some y=>x.ino=y.ino∧x.kind=y.kind∧x.parent=y.parent∧x.entries=y.entries∧(x.kind=3→x.data=y.data)
 |_,_=>False
def yP (l m:List al):Prop:=∀k,XV (au k l) (au k m)
section
variable {l m:List al}
theorem yP.none (h:yP l m) {k:Int} (hf:au k l=none):au k m=none:=by
 have:=h k;rw[hf] at this;cases hm:au k m with
 |none=>rfl
 |some y=>rw[hm] at this;exact this.elim
theorem yP.some (h:yP l m) {k:Int} {x:al} (hf:au k l=some x):∃y,au k m=some y∧x.ino=y.ino∧x.kind=y.kind∧x.parent=y.parent∧x.entries=y.entries∧(x.kind=3→x.data=y.data):=by
 have:=h k;rw[hf] at this;cases hm:au k m with
 |none=>rw[hm] at this;exact this.elim
 |some y=>rw[hm] at this;exact⟨y,rfl,this⟩
theorem yP.kind (h:yP l m) (k:Int):(aD k l).kind=(aD k m).kind:=by
 cases hf:au k l with
 |none=>rw[dQ hf,dQ (h.none hf)]
 |some x=>obtain⟨y,hy,h1⟩:=h.some hf;rw[aR hf,aR hy];exact h1.2.1
theorem CD (h:yP l m):∀(ns:List Str) (s:ar),cB l ns s=cB m ns s
 | [],s=>rfl
 |n::ns,s=>by
  cases hf:au s.ino l with
  |none=>rw[gM hf,gM (h.none hf)]
  |some x=>
   obtain⟨y,hy,h1,h2,h3,h4,h5⟩:=h.some hf;by_cases hk:x.kind=2
   ·rw[eD hf hk,eD hy (h2▸hk),h1,h4];exact CD h ns _
   ·rw[gK hf hk,gK hy (h2▸hk)]
end
theorem Nb {f g:Fs} (h:yP f.aa g.aa) (p:Str):atP f p=atP g p:=by
 unfold atP;rw[CD h]
section
variable {f:Fs} {x:al} {d:Str}
theorem bF {l:List al} {x:al} {k:Int}:au k (bE x l)=if x.ino=k then some x else au k l:=zY
theorem rW {l:List al} {k k':Int}:au k' (dD k l)=if k=k' then none else au k' l:=o9
theorem dC {l:List al} {x y:al}:y∈bE x l↔y=x∨(y∈l∧y.ino≠x.ino):=yA
theorem b_ {l:List al} {x:al} (h:cG l):cG (bE x l):=nF loI h
theorem gB {l:List al} {x:al} (h:cG l):(bE x l).length=if (au x.ino l).isSome then l.length else l.length+1:=Le loI h
def byt (x:al):Int:=if x.kind=1 then (x.data.length:Int) else 0
theorem eR {l:List al} {x:al} (h:cG l):bytesOf (bE x l)+iD byt (au x.ino l)=bytesOf l+byt x:=sy loI byt h
theorem kF {l:List al} {x:al} (h:cG l) (n:Int):fc n (bE x l)+iD (fun y:al=>ec n y.entries) (au x.ino l)=fc n l+ec n x.entries:=sy loI _ h
theorem CX {l:List al} {k:Int} (h:cG l):bytesOf (dD k l)+iD byt (au k l)=bytesOf l:=lX loI byt h
theorem JF {l:List al} {k:Int} (h:cG l) (n:Int):fc n (dD k l)+iD (fun y:al=>ec n y.entries) (au k l)=fc n l:=lX loI _ h
theorem HD {l:List al} {k:Int} (h:cG l):(dD k l).length+(if (au k l).isSome then 1 else 0)=l.length:=IM loI h
theorem CW (hx:au x.ino f.aa=some x) (hk:x.kind=1):yP f.aa (f.set (x.cy d)).aa:=by
 intro k;show XV _ (au k (bE (x.cy d) f.aa));rw[bF];by_cases e:(x.cy d).ino=k
 ·rw[if_pos e]
  have e:x.ino=k:=e;subst e;rw[hx];exact⟨rfl,rfl,rfl,rfl,fun h=>by rw[hk] at h;cases h⟩
 ·rw[if_neg e]
  cases au k f.aa with
  |none=>trivial
  |some y=>exact⟨rfl,rfl,rfl,rfl,fun _=>rfl⟩
theorem Reach.mono {l m:List al} (h:∀k x,au k l=some x→∃y,au k m=some y∧∀e∈x.entries,∃e'∈y.entries,e'.ino=e.ino) {k:Int} (hr:Reach l k):Reach m k:=by
 induction hr with
 |root=>exact .root
 |step _ hf he ih=>
  obtain⟨y,hy,h2⟩:=h _ _ hf;obtain⟨e',he',hn⟩:=h2 _ he;rw[←hn];exact .step ih hy he'
theorem Tree.K4 (h:Tree f) (hx:au x.ino f.aa=some x) (hk:x.kind=1) (hfit:cO f 0 ((d.length:Int) - (x.data.length:Int))=true):Tree (f.set (x.cy d)):=by
 have hxm:=(aP hx).1;have hfc:∀n,fc n (f.set (x.cy d)).aa=fc n f.aa:=fun n=>by
  have:=kF (x:=x.cy d) h.sort n;rw[show(x.cy d).ino=x.ino from rfl,hx] at this;have e:(x.cy d).entries=x.entries:=rfl;simp only[iD,e] at this;show fc n (bE (x.cy d) f.aa)=_;omega
 have hmem:∀y∈(f.set (x.cy d)).aa,∃z∈f.aa,z.ino=y.ino∧z.kind=y.kind∧z.aI=y.aI∧z.parent=y.parent∧z.entries=y.entries∧(y.kind≠1→y=z):=fun y hy=>by
  rcases dC.1 hy with rfl|⟨hy,_⟩
  ·exact⟨x,hxm,rfl,rfl,rfl,rfl,rfl,fun hn=>absurd hk hn⟩
  ·exact⟨y,hy,rfl,rfl,rfl,rfl,rfl,fun _=>rfl⟩
 have hsim:=CW (d:=d) hx hk;obtain⟨r,hr,hrk,hrp⟩:=h.root;refine⟨h.vS,h.vL,h.next,fun y hy=> ?_,b_ h.sort, ?_,fun y hy=> ?_,fun y hy e he=> ?_,fun y hy=> ?_, ?_,fun y hy hd=> ?_,fun y hy hd z hz e he hn=> ?_,fun y hy=> ?_, ?_⟩
 ·obtain⟨z,hz,e1,_⟩:=hmem y hy
  rw[←e1];exact h.ino z hz
 ·obtain⟨y,hy,e1,e2,e3,_⟩:=hsim.some hr
  exact⟨y,hy,by rw[←e2];exact hrk,by rw[←e3];exact hrp⟩
 ·rcases dC.1 hy with rfl|⟨hy,_⟩
  ·have:=h.kind x hxm
   rw[Au hk] at this;rw[Au (show(x.cy d).kind=1 from hk)];exact this
  ·exact h.kind y hy
 ·obtain⟨z,hz,_,_,_,_,e5,_⟩:=hmem y hy
  obtain⟨u,hu⟩:=h.there z hz e (by rw[e5];exact he);obtain⟨v,hv,_⟩:=hsim.some hu;exact⟨v,hv⟩
 ·obtain⟨z,hz,e1,_,e3,_⟩:=hmem y hy
  rw[hfc,←e1,←e3];exact h.aI z hz
 ·rw[hfc];exact h.sW
 ·obtain⟨z,hz,e1,e2,_⟩:=hmem y hy
  rw[hfc,←e1];exact h.Ig z hz (by rw[e2];exact hd)
 ·obtain⟨z',hz',e1,e2,_,e4,_⟩:=hmem y hy
  obtain⟨w,hw,f1,_,_,_,f5,_⟩:=hmem z hz;rw[←e4,←f1];exact h.par z' hz' (by rw[e2];exact hd) w hw e (by rw[f5];exact he) (by rw[e1];exact hn)
 ·obtain⟨z,hz,e1,_⟩:=hmem y hy
  rw[←e1];refine Reach.mono (fun k u hu=> ?_) (h.led z hz);obtain⟨v,hv,_,_,_,e4,_⟩:=hsim.some hu;exact⟨v,hv,fun e he=>⟨e,by rw[←e4];exact he,rfl⟩⟩
 ·have hb:=eR (x:=x.cy d) h.sort
  have hl:=gB (x:=x.cy d) h.sort;rw[show(x.cy d).ino=x.ino from rfl,hx] at hb hl;have e1:byt x=x.data.length:=by unfold byt;rw[if_pos hk]
  have e2:byt (x.cy d)=d.length:=by unfold byt;rw[if_pos (show(x.cy d).kind=1 from hk)];rfl
  simp only[iD,e1,e2] at hb;simp only[Option.isSome_some,if_true] at hl;unfold cO at hfit⊢;simp only[Bool.and_eq_true,decide_eq_true_eq] at hfit⊢;show((bE (x.cy d) f.aa).length:Int)+0≤f.aA∧bytesOf (bE (x.cy d) f.aa)+0≤f.aH;omega
theorem set_set {a b:al} (h:a.ino=b.ino) (hs:cG f.aa):(f.set a).set b=f.set b:=by
 unfold Fs.set;congr 1;refine fF loI (b_ (b_ hs)) (b_ hs) fun k=> ?_
 show au k (bE b (bE a f.aa))=au k (bE b f.aa);rw[bF,bF,bF];by_cases e:b.ino=k
 ·rw[if_pos e,if_pos e]
 ·rw[if_neg e,if_neg e,if_neg (by rw[h];exact e)]
theorem C3 (hs:cG f.aa) (hx:au x.ino f.aa=some x):f.set x=f:=by
 cases f with
 |mk a b c l=>
  unfold Fs.set;congr 1;refine fF loI (b_ hs) hs fun k=> ?_
  show au k (bE x l)=au k l;rw[bF];by_cases e:x.ino=k
  ·rw[if_pos e,←e];exact hx.symm
  ·rw[if_neg e]
end
theorem Tree.wf {f:Fs} (h:Tree f) (hs:SmF f):WF f:=((En f).2 h).wf hs
theorem Tree.check {f:Fs} (h:Tree f):r4 f=0:=(wF f).2 ((En f).2 h)
structure Ev (f:Fs):Prop where
 tr:Tree f
 sm:SmF f
 wf:WF f
 ws:WS f
 lil:Lil f
 len:f.aa.length≤40
 few:∀x∈f.aa,x.data.length≤5000∧x.entries.length≤40∧∀e∈x.entries,e.name.length≤300
section
variable {f:Fs} {base p d:Str}
structure Wr (f:Fs) (x:al) (d:Str) (g:Fs):Prop where
 tr:Tree g
 sm:SmF g
 ws:WS g
 lil:Lil g
 len:g.aa.length=f.aa.length
 sim:yP f.aa g.aa
 find:∀k,au k g.aa=if x.ino=k then some (x.cy d) else au k f.aa
end
theorem qI {l:List Entry} {e:Entry} {n:Str}:cR n (fe e l)=if e.name=n then some e else cR n l:=zY
theorem iZ {l:List Entry} {n n':Str}:cR n' (cN n l)=if n=n' then none else cR n' l:=o9
theorem ya {l:List Entry} {e e':Entry}:e'∈fe e l↔e'=e∨(e'∈l∧e'.name≠e.name):=yA
theorem uI {l:List Entry} {n:Str} {e:Entry}:e∈cN n l↔e∈l∧e.name≠n:=fR
theorem Hr {l:List Entry} {e:Entry} (hs:gD l) (h:e∈l):cR e.name l=some e:=lR loS hs h
theorem ia {l:List Entry} {n:Str} {e:Entry} (h:cR n l=some e):e∈l∧e.name=n:=cg h
theorem J2 {l:List Entry} {e:Entry} (h:gD l) (n:Int):ec n (fe e l)+iD (one n) (cR e.name l)=ec n l+one n e:=sy loS (one n) h
theorem F_ {l:List Entry} {m:Str} (h:gD l) (n:Int):ec n (cN m l)+iD (one n) (cR m l)=ec n l:=lX loS (one n) h
theorem tU {l:List Entry} {e:Entry} (h:gu l=true) (h1:eL e.name=true) (h2:1≤e.ino):gu (fe e l)=true:=by
 rw[ic] at h⊢;refine⟨nF loS h.1,fun x hx=> ?_⟩;rcases ya.1 hx with rfl|⟨hx,_⟩
 ·exact⟨h1,h2⟩
 ·exact h.2 x hx
theorem oM {l:List Entry} {n:Str} (h:gu l=true):gu (cN n l)=true:=by
 rw[ic] at h⊢;exact⟨eA h.1,fun x hx=>h.2 x (uI.1 hx).1⟩
theorem H3 {l:List Entry} (h:gu l=true) {n:Str} (h0:cx n l=0):cR n l=none:=by
 unfold cx at h0;cases hf:cR n l with
 |none=>rfl
 |some e=>
  rw[hf] at h0;have:=(((ic _).1 h).2 e (ia hf).1).2;simp only at h0;omega
theorem zR {l:List Entry} {n:Str} {e:Entry} (h:cR n l=some e):cx n l=e.ino:=by unfold cx;rw[h]
theorem qP {l:List Entry} {n:Str} (h:cx n l≠0):∃e,cR n l=some e∧e∈l∧e.name=n∧e.ino=cx n l:=by
 unfold cx at h;cases hf:cR n l with
 |none=>rw[hf] at h;exact absurd rfl h
 |some e=>exact⟨e,rfl,(ia hf).1,(ia hf).2,(zR hf).symm⟩
def al.cX (x:al) (n:Int):al:=⟨x.ino,x.kind,n,x.data,x.parent,x.entries⟩
def al.fZ (x:al) (n:Int):al:=⟨x.ino,x.kind,x.aI,x.data,n,x.entries⟩
def al.bS (d:al) (nm:Str) (n:Int):al:=d.vd (fe ⟨nm,n⟩ d.entries)
def al.cn (d:al) (nm:Str):al:=d.vd (cN nm d.entries)
theorem we {g:Fs} (vS:1≤g.aA∧g.aA≤1073741824) (vL:0≤g.aH∧g.aH≤1073741824) (next:g.next≤1099511627776) (sort:cG g.aa)
 (ino:∀k x,au k g.aa=some x→1≤k∧k<g.next) (root:∃r,au 1 g.aa=some r∧r.kind=2∧r.parent=1) (kind:∀k x,au k g.aa=some x→fq x=true)
 (there:∀k x,au k g.aa=some x→∀e∈x.entries,∃y,au e.ino g.aa=some y) (aI:∀k x,au k g.aa=some x→x.aI=fc k g.aa) (sW:fc 1 g.aa=0)
 (Ig:∀k x,au k g.aa=some x→x.kind=2→fc k g.aa≤1) (par:∀k x,au k g.aa=some x→x.kind=2→∀j d,au j g.aa=some d→∀e∈d.entries,e.ino=k→x.parent=j)
 (led:∀k x,au k g.aa=some x→Reach g.aa k) (fits:cO g 0 0=true):Tree g:=
 ⟨vS,vL,next,fun x hx=>ino _ x (eM sort hx),sort,root,fun x hx=>kind _ x (eM sort hx),fun x hx=>there _ x (eM sort hx),fun x hx=>aI _ x (eM sort hx),sW,
  fun x hx=>Ig _ x (eM sort hx),fun x hx hk d hd e he hn=>par _ x (eM sort hx) hk _ d (eM sort hd) e he hn,fun x hx=>led _ x (eM sort hx),fits⟩
section
variable {f:Fs}
theorem Tree.eN (h:Tree f) {k:Int} {x:al} (hx:au k f.aa=some x):fq x=true∧x.aI=fc k f.aa∧1≤k∧k<f.next∧gD x.entries∧gu x.entries=true:=by
 obtain⟨h1,h2⟩:=aP hx;have hk:=h.kind x h1;have hi:=h.ino x h1;subst h2;have hr:=r5 hk;exact⟨hk,h.aI x h1,hi.1,hi.2,((ic _).1 hr).1,hr⟩
theorem Tree.to (h:Tree f) {k:Int} {x:al} (hx:au k f.aa=some x) {e:Entry} (he:e∈x.entries):∃y,au e.ino f.aa=some y:=h.there x (aP hx).1 e he
theorem Tree.fc0 (h:Tree f) {k:Int} (hk:au k f.aa=none):fc k f.aa=0:=by
 have h0:=Ki k f.aa;by_cases hp:0<fc k f.aa
 ·obtain⟨x,hx,e,he,hn⟩:=Jg hp
  obtain⟨y,hy⟩:=h.there x hx e he;rw[hn,hk] at hy;cases hy
 ·omega
theorem Tree.parent (h:Tree f) {k j:Int} {x d:al} {e:Entry} (hx:au k f.aa=some x) (hk:x.kind=2) (hd:au j f.aa=some d) (he:e∈d.entries) (hn:e.ino=k):x.parent=j:=by
 obtain⟨x1,x2⟩:=aP hx;obtain⟨d1,d2⟩:=aP hd;rw[h.par x x1 hk d d1 e he (by rw[hn,x2]),d2]
theorem Tree.sT (h:Tree f) {k:Int} {x:al} (hx:au k f.aa=some x) (hk:x.kind=2):fc k f.aa≤1:=by
 obtain⟨x1,x2⟩:=aP hx;rw[←x2];exact h.Ig x x1 hk
theorem Tree.tH (h:Tree f) {k:Int} {x:al} (hx:au k f.aa=some x):Reach f.aa k:=by
 obtain⟨x1,x2⟩:=aP hx;rw[←x2];exact h.led x x1
theorem n6 {x:al} (h:fq x=true) (hk:x.kind=2) {l:List Entry} (hr:gu l=true):fq (x.vd l)=true:=by
 rw[vG hk,Bool.and_eq_true] at h;rw[vG (show(x.vd l).kind=2 from hk),Bool.and_eq_true];exact⟨h.1,hr⟩
theorem w9 {x:al} (h:fq x=true) {n:Int}:fq (x.cX n)=true:=h
end
structure iJ (f:Fs) (d:al) (nm:Str):Prop where
 hd:au d.ino f.aa=some d
 hk:d.kind=2
 hm:eL nm=true
 h0:cR nm d.entries=none
section
variable {f:Fs} {d x:al} {nm:Str}
theorem iJ.dy (h:iJ f d nm) {n:Int} {e:Entry}:e∈(d.bS nm n).entries↔e=⟨nm,n⟩∨e∈d.entries:=by
 show e∈fe ⟨nm,n⟩ d.entries↔_;rw[ya];refine⟨fun h'=>h'.imp id And.left,fun h'=>h'.imp id fun he=>⟨he,fun hn=> ?_⟩⟩;have hn:e.name=nm:=hn;have:=h.h0;have hf:cR nm d.entries≠none:=by
  intro hh;have:∀y∈d.entries,y.name≠nm:=fun y hy hyn=>by
   unfold cR b7 at hh;rw[List.find?_eq_none] at hh;exact hh y hy (by simpa using hyn)
  exact this e he hn
 exact hf this
theorem iJ.ec (h:iJ f d nm) (ht:Tree f) (n m:Int):Go.Eng.ec m (d.bS nm n).entries=Go.Eng.ec m d.entries+if n=m then 1 else 0:=by
 have:=J2 (e:=⟨nm,n⟩) (ht.eN h.hd).2.2.2.2.1 m;rw[show(⟨nm,n⟩:Entry).name=nm from rfl,h.h0] at this;simp only[iD,one] at this;show Go.Eng.ec m (fe ⟨nm,n⟩ d.entries)=_;omega
theorem oV {n:Int} (k:Int):au k (bE x (bE (d.bS nm n) f.aa))=if x.ino=k then some x else if d.ino=k then some (d.bS nm n) else au k f.aa:=by
 rw[bF,bF];rfl
theorem q5 (h:d.kind=2):byt d=0:=by unfold byt;rw[if_neg (by omega)]
theorem pH (h:Tree f) (hf:iJ f d nm) (hx:au x.ino f.aa=none):
 (bE x (bE (d.bS nm x.ino) f.aa)).length=f.aa.length+1∧bytesOf (bE x (bE (d.bS nm x.ino) f.aa))=bytesOf f.aa+byt x∧
  (x.entries= [] →∀n,fc n (bE x (bE (d.bS nm x.ino) f.aa))=fc n f.aa+if x.ino=n then 1 else 0):=by
 have hxd:d.ino≠x.ino:=fun e=>by rw[←e,hf.hd] at hx;cases hx
 have hs:=h.sort;have hs1:=b_ (x:=d.bS nm x.ino) hs;have h1:au x.ino (bE (d.bS nm x.ino) f.aa)=none:=by rw[bF,if_neg (show¬(d.bS nm x.ino).ino=x.ino from hxd)];exact hx
 have h2:au (d.bS nm x.ino).ino f.aa=some d:=hf.hd;refine⟨?_, ?_,fun he n=> ?_⟩
 ·rw[gB hs1,h1,gB hs,h2];rfl
 ·have a:=eR (x:=x) hs1
  have b:=eR (x:=d.bS nm x.ino) hs;rw[h1] at a;rw[h2] at b;simp only[iD] at a b;rw[q5 hf.hk,q5 (show(d.bS nm x.ino).kind=2 from hf.hk)] at b;omega
 ·have a:=kF (x:=x) hs1 n
  have b:=kF (x:=d.bS nm x.ino) hs n;rw[h1,he] at a;rw[h2] at b;simp only[iD] at a b;have c:=hf.ec h x.ino n;have c0:Go.Eng.ec n ([] :List Entry)=0:=rfl;omega
theorem GH (h:Tree f) (hf:iJ f d nm) (hx:au x.ino f.aa=none) {nx:Int} (h1:1≤x.ino) (h2:x.ino<nx) (h3:f.next≤nx) (h4:nx≤1099511627776) (hk:fq x=true) (hl:x.aI=1) (he:x.entries= []) (hp:x.kind=2→x.parent=d.ino)
 (hfit:cO f 1 (byt x)=true):Tree ⟨f.aA,f.aH,nx,bE x (bE (d.bS nm x.ino) f.aa)⟩:=by
 have hfind:=oV (f:=f) (d:=d) (x:=x) (nm:=nm) (n:=x.ino);obtain⟨s1,s2,s3⟩:=pH h hf hx;have s3:=s3 he;have hxd:d.ino≠x.ino:=fun e=>by rw[←e,hf.hd] at hx;cases hx
 have hfx:=h.fc0 hx;have hdk:=h.eN hf.hd;generalize hL:bE x (bE (d.bS nm x.ino) f.aa)=L at hfind s1 s2 s3;have hs:cG L:=by rw[←hL];exact b_ (b_ h.sort)
 have cs:∀k y,au k L=some y→(k=x.ino∧y=x)∨(k=d.ino∧y=d.bS nm x.ino)∨(k≠x.ino∧k≠d.ino∧au k f.aa=some y):=fun k y hy=>by
  rw[hfind] at hy;by_cases e1:x.ino=k
  ·rw[if_pos e1] at hy;cases hy;exact Or.inl ⟨e1.symm,rfl⟩
  ·rw[if_neg e1] at hy
   by_cases e2:d.ino=k
   ·rw[if_pos e2] at hy;cases hy;exact Or.inr (Or.inl ⟨e2.symm,rfl⟩)
   ·rw[if_neg e2] at hy;exact Or.inr (Or.inr ⟨fun e=>e1 e.symm,fun e=>e2 e.symm,hy⟩)
 have on:∀k,(∃y,au k f.aa=some y)→∃y,au k L=some y:=fun k ⟨y,hy⟩=>by
  rw[hfind];by_cases e1:x.ino=k
  ·rw[if_pos e1];exact⟨_,rfl⟩
  ·rw[if_neg e1]
   by_cases e2:d.ino=k
   ·rw[if_pos e2];exact⟨_,rfl⟩
   ·rw[if_neg e2];exact⟨y,hy⟩
 have hreach:∀k,Reach f.aa k→Reach L k:=fun k hr=>by
  refine Reach.mono (fun k z hz=> ?_) hr;rw[hfind];by_cases e1:x.ino=k
  ·rw[←e1,hx] at hz;cases hz
  ·rw[if_neg e1]
   by_cases e2:d.ino=k
   ·rw[if_pos e2]
    rw[←e2,hf.hd] at hz;cases hz;exact⟨_,rfl,fun e he=>⟨e,hf.dy.2 (Or.inr he),rfl⟩⟩
   ·rw[if_neg e2];exact⟨z,hz,fun e he=>⟨e,he,rfl⟩⟩
 obtain⟨r,hr,hrk,hrp⟩:=h.root;have hx1:x.ino≠1:=fun e=>by rw[e,hr] at hx;cases hx
 refine we h.vS h.vL h4 hs (fun k y hy=> ?_) ?_ (fun k y hy=> ?_) (fun k y hy e he'=> ?_) (fun k y hy=> ?_) ?_ (fun k y hy hd=> ?_) (fun k y hy hd j z hz e he' hn=> ?_) (fun k y hy=> ?_) ?_
 ·rcases cs k y hy with⟨rfl,rfl⟩ |⟨rfl,rfl⟩ |⟨_,_,hy⟩
  ·exact⟨h1,h2⟩
  ·exact⟨hdk.2.2.1,by have:=hdk.2.2.2.1;show d.ino<nx;omega⟩
  ·have:=h.eN hy
   exact⟨this.2.2.1,by have:=this.2.2.2.1;show k<nx;omega⟩
 ·show∃r,au 1 L=some r∧_
  rw[hfind,if_neg hx1];by_cases e2:d.ino=1
  ·rw[if_pos e2]
   have hd1:=hf.hd;rw[e2,hr] at hd1;cases hd1;exact⟨_,rfl,hrk,hrp⟩
  ·rw[if_neg e2];exact⟨r,hr,hrk,hrp⟩
 ·rcases cs k y hy with⟨_,rfl⟩ |⟨_,rfl⟩ |⟨_,_,hy⟩
  ·exact hk
  ·exact n6 hdk.1 hf.hk (tU hdk.2.2.2.2.2 hf.hm h1)
  ·exact(h.eN hy).1
 ·refine(?_ :∃y,au e.ino L=some y)
  rcases cs k y hy with⟨_,rfl⟩ |⟨_,rfl⟩ |⟨_,_,hy⟩
  ·rw[he] at he';cases he'
  ·rcases hf.dy.1 he' with rfl|he'
   ·show∃y,au x.ino L=some y
    rw[hfind,if_pos rfl];exact⟨_,rfl⟩
   ·exact on _ (h.to hf.hd he')
  ·exact on _ (h.to hy he')
 ·show y.aI=fc k L
  rw[s3];rcases cs k y hy with⟨rfl,rfl⟩ |⟨rfl,rfl⟩ |⟨e1,_,hy⟩
  ·rw[if_pos rfl,hfx,hl];rfl
  ·rw[if_neg (fun e=>hxd e.symm)]
   have:=hdk.2.1;show d.aI=_;omega
  ·rw[if_neg (fun e=>e1 e.symm)]
   have:=(h.eN hy).2.1;omega
 ·show fc 1 L=0
  rw[s3,if_neg hx1,h.sW];rfl
 ·show fc k L≤1
  rw[s3];rcases cs k y hy with⟨rfl,rfl⟩ |⟨rfl,rfl⟩ |⟨e1,_,hy⟩
  ·rw[if_pos rfl,hfx];decide
  ·rw[if_neg (fun e=>hxd e.symm)]
   have:=h.sT hf.hd hf.hk;omega
  ·rw[if_neg (fun e=>e1 e.symm)]
   have:=h.sT hy hd;omega
 ·have hz':au j L=some z:=hz
  have hz0:(∃d0,au j f.aa=some d0∧e∈d0.entries)∨(j=d.ino∧e=⟨nm,x.ino⟩):=by
   rcases cs j z hz' with⟨_,rfl⟩ |⟨rfl,rfl⟩ |⟨_,_,hz⟩
   ·rw[he] at he';cases he'
   ·rcases hf.dy.1 he' with rfl|he'
    ·exact Or.inr ⟨rfl,rfl⟩
    ·exact Or.inl ⟨d,hf.hd,he'⟩
   ·exact Or.inl ⟨z,hz,he'⟩
  rcases cs k y hy with⟨rfl,rfl⟩ |⟨rfl,rfl⟩ |⟨e1,_,hy⟩
  ·rcases hz0 with⟨d0,q1,q2⟩ |⟨rfl,rfl⟩
   ·obtain⟨y',hy'⟩:=h.to q1 q2
    rw[hn,hx] at hy';cases hy'
   ·exact hp hd
  ·rcases hz0 with⟨d0,q1,q2⟩ |⟨rfl,rfl⟩
   ·show d.parent=j
    exact h.parent hf.hd hf.hk q1 q2 hn
   ·exact absurd hn.symm hxd
  ·rcases hz0 with⟨d0,q1,q2⟩ |⟨rfl,rfl⟩
   ·exact h.parent hy hd q1 q2 hn
   ·exact absurd hn.symm e1
 ·show Reach L k
  rcases cs k y hy with⟨rfl,_⟩ |⟨rfl,_⟩ |⟨_,_,hy⟩
  ·have hd':au d.ino L=some (d.bS nm x.ino):=by rw[hfind,if_neg (fun e=>hxd e.symm),if_pos rfl]
   exact Reach.step (e:=⟨nm,x.ino⟩) (hreach _ (h.tH hf.hd)) hd' (hf.dy.2 (Or.inl rfl))
  ·exact hreach _ (h.tH hf.hd)
  ·exact hreach _ (h.tH hy)
 ·have hff:=h.fits
  unfold cO at hfit hff⊢;simp only[Bool.and_eq_true,decide_eq_true_eq] at hfit hff⊢;show(L.length:Int)+0≤f.aA∧bytesOf L+0≤f.aH;omega
end
section
variable {f:Fs} {d x:al} {nm:Str} {e:Entry}
def gT (f:Fs) (d:al) (nm:Str) (x:al):Fs:=(f.set (d.bS nm x.ino)).set (x.cX (x.aI+1))
theorem n8 (hxd:x.ino≠d.ino) (k:Int):au k (gT f d nm x).aa=if x.ino=k then some (x.cX (x.aI+1)) else if d.ino=k then some (d.bS nm x.ino) else au k f.aa:=by
 show au k (bE _ (bE _ f.aa))=_;rw[bF,bF];rfl
theorem Tree.A6 (h:Tree f) {k:Int} (hx:au k f.aa=some x) (hk:x.kind≠2):x.entries= [] :=by
 cases he:x.entries with
 |nil=>rfl
 |cons e l=>exact absurd (h.dy hx (e:=e) (by rw[he];simp)) hk
theorem Aj {n:Int}:byt (x.cX n)=byt x:=rfl
theorem IC (h:Tree f) (hf:iJ f d nm) (hx:au x.ino f.aa=some x) (hxd:x.ino≠d.ino):
 (gT f d nm x).aa.length=f.aa.length∧bytesOf (gT f d nm x).aa=bytesOf f.aa∧∀n,fc n (gT f d nm x).aa=fc n f.aa+if x.ino=n then 1 else 0:=by
 have hs:=h.sort;have hs1:=b_ (x:=d.bS nm x.ino) hs;have h1:au (x.cX (x.aI+1)).ino (bE (d.bS nm x.ino) f.aa)=some x:=by rw[bF,if_neg (show¬(d.bS nm x.ino).ino=(x.cX (x.aI+1)).ino from fun e=>hxd e.symm)];exact hx
 have h2:au (d.bS nm x.ino).ino f.aa=some d:=hf.hd;refine⟨?_, ?_,fun n=> ?_⟩
 ·show(bE _ (bE _ f.aa)).length=_
  rw[gB hs1,h1,gB hs,h2];rfl
 ·show bytesOf (bE _ (bE _ f.aa))=_
  have a:=eR (x:=x.cX (x.aI+1)) hs1;have b:=eR (x:=d.bS nm x.ino) hs;rw[h1] at a;rw[h2] at b;simp only[iD] at a b;rw[q5 hf.hk,q5 (show(d.bS nm x.ino).kind=2 from hf.hk)] at b;rw[Aj] at a;omega
 ·show fc n (bE _ (bE _ f.aa))=_
  have a:=kF (x:=x.cX (x.aI+1)) hs1 n;have b:=kF (x:=d.bS nm x.ino) hs n;rw[h1] at a;rw[h2] at b;simp only[iD] at a b;have c:=hf.ec h x.ino n;have c0:(x.cX (x.aI+1)).entries=x.entries:=rfl;rw[c0] at a;omega
theorem BH (h:Tree f) (hf:iJ f d nm) (hx:au x.ino f.aa=some x) (hk:x.kind≠2):Tree (gT f d nm x):=by
 have hxd:x.ino≠d.ino:=fun e=>by rw[e,hf.hd] at hx;cases hx;exact hk hf.hk
 have hfind:=n8 (f:=f) (d:=d) (x:=x) (nm:=nm) hxd;obtain⟨s1,s2,s3⟩:=IC h hf hx hxd;have hdk:=h.eN hf.hd;have hxk:=h.eN hx;have hs:cG (gT f d nm x).aa:=b_ (b_ h.sort);have hmx:(gT f d nm x).aA=f.aA∧(gT f d nm x).aH=f.aH∧(gT f d nm x).next=f.next:=⟨rfl,rfl,rfl⟩;generalize gT f d nm x=g at hfind s1 s2 s3 hs hmx;obtain⟨m1,m2,m3⟩:=hmx;have cs:∀k y,au k g.aa=some y→(k=x.ino∧y=x.cX (x.aI+1))∨(k=d.ino∧y=d.bS nm x.ino)∨(k≠x.ino∧k≠d.ino∧au k f.aa=some y):=fun k y hy=>by
  rw[hfind] at hy;by_cases e1:x.ino=k
  ·rw[if_pos e1] at hy;cases hy;exact Or.inl ⟨e1.symm,rfl⟩
  ·rw[if_neg e1] at hy
   by_cases e2:d.ino=k
   ·rw[if_pos e2] at hy;cases hy;exact Or.inr (Or.inl ⟨e2.symm,rfl⟩)
   ·rw[if_neg e2] at hy;exact Or.inr (Or.inr ⟨fun e=>e1 e.symm,fun e=>e2 e.symm,hy⟩)
 have on:∀k z,au k f.aa=some z→∃y,au k g.aa=some y∧y.kind=z.kind∧y.parent=z.parent∧∀e∈z.entries,e∈y.entries:=fun k z hz=>by
  rw[hfind];by_cases e1:x.ino=k
  ·rw[if_pos e1]
   rw[←e1,hx] at hz;cases hz;exact⟨_,rfl,rfl,rfl,fun e he=>he⟩
  ·rw[if_neg e1]
   by_cases e2:d.ino=k
   ·rw[if_pos e2]
    rw[←e2,hf.hd] at hz;cases hz;exact⟨_,rfl,rfl,rfl,fun e he=>hf.dy.2 (Or.inr he)⟩
   ·rw[if_neg e2];exact⟨z,hz,rfl,rfl,fun e he=>he⟩
 have hreach:∀k,Reach f.aa k→Reach g.aa k:=fun k hr=>by
  refine Reach.mono (fun k z hz=> ?_) hr;obtain⟨y,hy,_,_,h4⟩:=on k z hz;exact⟨y,hy,fun e he=>⟨e,h4 e he,rfl⟩⟩
 have ed:∀j z e,au j g.aa=some z→e∈z.entries→(∃d0,au j f.aa=some d0∧e∈d0.entries)∨(j=d.ino∧e=⟨nm,x.ino⟩):=fun j z e hz he=>by
  rcases cs j z hz with⟨rfl,rfl⟩ |⟨rfl,rfl⟩ |⟨_,_,hz⟩
  ·exact Or.inl ⟨x,hx,he⟩
  ·rcases hf.dy.1 he with rfl|he
   ·exact Or.inr ⟨rfl,rfl⟩
   ·exact Or.inl ⟨d,hf.hd,he⟩
  ·exact Or.inl ⟨z,hz,he⟩
 obtain⟨r,hr,hrk,hrp⟩:=h.root;have hx1:x.ino≠1:=fun e=>by rw[e,hr] at hx;cases hx;exact hk hrk
 refine we (by rw[m1];exact h.vS) (by rw[m2];exact h.vL) (by rw[m3];exact h.next) hs (fun k y hy=> ?_) ?_ (fun k y hy=> ?_) (fun k y hy e he'=> ?_) (fun k y hy=> ?_) ?_ (fun k y hy hd=> ?_) (fun k y hy hd j z hz e he' hn=> ?_) (fun k y hy=> ?_) ?_
 ·rw[m3]
  rcases cs k y hy with⟨rfl,_⟩ |⟨rfl,_⟩ |⟨_,_,hy⟩
  ·exact⟨hxk.2.2.1,hxk.2.2.2.1⟩
  ·exact⟨hdk.2.2.1,hdk.2.2.2.1⟩
  ·have:=h.eN hy
   exact⟨this.2.2.1,this.2.2.2.1⟩
 ·obtain⟨y,hy,h2,h3,_⟩:=on 1 r hr
  exact⟨y,hy,by rw[h2];exact hrk,by rw[h3];exact hrp⟩
 ·rcases cs k y hy with⟨_,rfl⟩ |⟨_,rfl⟩ |⟨_,_,hy⟩
  ·exact w9 hxk.1
  ·exact n6 hdk.1 hf.hk (tU hdk.2.2.2.2.2 hf.hm hxk.2.2.1)
  ·exact(h.eN hy).1
 ·rcases ed k y e hy he' with⟨d0,q1,q2⟩ |⟨_,rfl⟩
  ·obtain⟨z,hz⟩:=h.to q1 q2
   obtain⟨y',hy',_⟩:=on _ z hz;exact⟨y',hy'⟩
  ·obtain⟨y',hy',_⟩:=on _ x hx
   exact⟨y',hy'⟩
 ·rw[s3]
  rcases cs k y hy with⟨rfl,rfl⟩ |⟨rfl,rfl⟩ |⟨e1,_,hy⟩
  ·rw[if_pos rfl]
   have:=hxk.2.1;show x.aI+1=_;omega
  ·rw[if_neg hxd]
   have:=hdk.2.1;show d.aI=_;omega
  ·rw[if_neg (fun e=>e1 e.symm)]
   have:=(h.eN hy).2.1;omega
 ·rw[s3,if_neg hx1,h.sW];rfl
 ·rw[s3]
  rcases cs k y hy with⟨rfl,rfl⟩ |⟨rfl,rfl⟩ |⟨e1,_,hy⟩
  ·exact absurd hd hk
  ·rw[if_neg hxd]
   have:=h.sT hf.hd hf.hk;omega
  ·rw[if_neg (fun e=>e1 e.symm)]
   have:=h.sT hy hd;omega
 ·rcases ed j z e hz he' with⟨d0,q1,q2⟩ |⟨rfl,rfl⟩
  ·rcases cs k y hy with⟨rfl,rfl⟩ |⟨rfl,rfl⟩ |⟨e1,_,hy⟩
   ·exact absurd hd hk
   ·show d.parent=j
    exact h.parent hf.hd hf.hk q1 q2 hn
   ·exact h.parent hy hd q1 q2 hn
  ·rcases cs k y hy with⟨rfl,rfl⟩ |⟨rfl,rfl⟩ |⟨e1,_,hy⟩
   ·exact absurd hd hk
   ·exact absurd hn hxd
   ·exact absurd hn.symm e1
 ·rcases cs k y hy with⟨rfl,_⟩ |⟨rfl,_⟩ |⟨_,_,hy⟩
  ·exact hreach _ (h.tH hx)
  ·exact hreach _ (h.tH hf.hd)
  ·exact hreach _ (h.tH hy)
 ·have hff:=h.fits
  unfold cO at hff⊢;simp only[Bool.and_eq_true,decide_eq_true_eq] at hff⊢;rw[s1,s2,m1,m2];exact hff
structure Ent (f:Fs) (d:al) (nm:Str) (x:al) (e:Entry):Prop where
 hd:au d.ino f.aa=some d
 he:cR nm d.entries=some e
 hn:e.ino=x.ino
 hx:au x.ino f.aa=some x
def dG (f:Fs) (d:al) (nm:Str) (x:al):Fs:=if x.aI=1 then (f.set (d.cn nm)).drop x.ino else (f.set (d.cn nm)).set (x.cX (x.aI - 1))
theorem Ent.mem (h:Ent f d nm x e):e∈d.entries∧e.name=nm:=ia h.he
theorem Ent.kind (h:Ent f d nm x e) (ht:Tree f):d.kind=2:=ht.dy h.hd h.mem.1
theorem Ent.way (h:Ent f d nm x e):Way f.aa d.ino x.ino 1:=h.hn▸ .step .here h.hd h.mem.1
theorem Ent.ne (h:Ent f d nm x e) (ht:Tree f):x.ino≠d.ino:=fun e1=>by
 obtain⟨n,hw⟩:=(ht.tH h.hd).way;exact ht.BZ hw h.hd h.mem.1 (n:=0) (by rw[h.hn,e1];exact .here)
theorem Ent.dy (h:Ent f d nm x e) (ht:Tree f) {e':Entry}:e'∈(d.cn nm).entries↔e'∈d.entries∧e'≠e:=by
 show e'∈cN nm d.entries↔_;rw[uI];refine⟨fun⟨a,b⟩=>⟨a,fun c=>b (by rw[c];exact h.mem.2)⟩,fun⟨a,b⟩=>⟨a,fun c=>b ?_⟩⟩;have h1:=Hr (ht.eN h.hd).2.2.2.2.1 a;rw[c,h.he] at h1;exact(Option.some.inj h1).symm
theorem dF (hxd:x.ino≠d.ino) (k:Int):au k (dG f d nm x).aa=if x.ino=k then (if x.aI=1 then none else some (x.cX (x.aI - 1))) else if d.ino=k then some (d.cn nm) else au k f.aa:=by
 unfold dG;by_cases hl:x.aI=1
 ·rw[if_pos hl,if_pos hl]
  show au k (dD x.ino (bE _ f.aa))=_;rw[rW,bF];rfl
 ·rw[if_neg hl,if_neg hl]
  show au k (bE _ (bE _ f.aa))=_;rw[bF,bF];rfl
theorem w6 (h:Tree f) (hf:Ent f d nm x e) (hx0:x.entries= []):
 ((dG f d nm x).aa.length:Int)=f.aa.length - (if x.aI=1 then 1 else 0)∧bytesOf (dG f d nm x).aa=bytesOf f.aa - (if x.aI=1 then byt x else 0)∧∀n,fc n (dG f d nm x).aa=fc n f.aa - if x.ino=n then 1 else 0:=by
 have hxd:=hf.ne h;have hs:=h.sort;have hs1:=b_ (x:=d.cn nm) hs;have h1:au x.ino (bE (d.cn nm) f.aa)=some x:=by rw[bF,if_neg (show¬(d.cn nm).ino=x.ino from fun e=>hxd e.symm)];exact hf.hx
 have h2:au (d.cn nm).ino f.aa=some d:=hf.hd;have a1:(bE (d.cn nm) f.aa).length=f.aa.length:=by rw[gB hs,h2];rfl
 have b:=eR (x:=d.cn nm) hs;rw[h2] at b;simp only[iD] at b;rw[q5 (hf.kind h),q5 (show(d.cn nm).kind=2 from hf.kind h)] at b;have c:∀n,fc n (bE (d.cn nm) f.aa)=fc n f.aa - if x.ino=n then 1 else 0:=fun n=>by
  have c:=kF (x:=d.cn nm) hs n;rw[h2] at c;simp only[iD] at c;have:=F_ (m:=nm) (h.eN hf.hd).2.2.2.2.1 n;rw[hf.he] at this;simp only[iD,one,hf.hn] at this;have c1:(d.cn nm).entries=cN nm d.entries:=rfl;rw[c1] at c;omega
 unfold dG;by_cases hl:x.aI=1
 ·simp only[if_pos hl]
  refine⟨?_, ?_,fun n=> ?_⟩
  ·show((dD x.ino (bE _ f.aa)).length:Int)=_
   have:=HD (k:=x.ino) hs1;rw[h1] at this;simp only[Option.isSome_some,if_true] at this;omega
  ·show bytesOf (dD x.ino (bE _ f.aa))=_
   have:=CX (k:=x.ino) hs1;rw[h1] at this;simp only[iD] at this;omega
  ·show fc n (dD x.ino (bE _ f.aa))=_
   have:=JF (k:=x.ino) hs1 n;rw[h1,←c n] at*;simp only[iD,hx0] at this;have c0:ec n ([] :List Entry)=0:=rfl;omega
 ·simp only[if_neg hl]
  have h1':au (x.cX (x.aI - 1)).ino (bE (d.cn nm) f.aa)=some x:=h1;refine⟨?_, ?_,fun n=> ?_⟩
  ·show((bE _ (bE _ f.aa)).length:Int)=_
   rw[gB hs1,h1'];simp only[Option.isSome_some,if_true];omega
  ·show bytesOf (bE _ (bE _ f.aa))=_
   have:=eR (x:=x.cX (x.aI - 1)) hs1;rw[h1'] at this;simp only[iD,Aj] at this;omega
  ·show fc n (bE _ (bE _ f.aa))=_
   have:=kF (x:=x.cX (x.aI - 1)) hs1 n;rw[h1'] at this;have c0:(x.cX (x.aI - 1)).entries=x.entries:=rfl;simp only[iD,c0] at this;rw[←c n];omega
theorem Gz (h:Tree f) (hf:Ent f d nm x e) (hx0:x.entries= []):Tree (dG f d nm x):=by
 have hxd:=hf.ne h;have hfind:=dF (f:=f) (d:=d) (x:=x) (nm:=nm) hxd;obtain⟨s1,s2,s3⟩:=w6 h hf hx0;have hdk:=h.eN hf.hd;have hxk:=h.eN hf.hx;have hk2:=hf.kind h;have hs:cG (dG f d nm x).aa:=by
  unfold dG;split
  ·exact eA (b_ h.sort)
  ·exact b_ (b_ h.sort)
 have hmx:(dG f d nm x).aA=f.aA∧(dG f d nm x).aH=f.aH∧(dG f d nm x).next=f.next:=by unfold dG;split<;>exact⟨rfl,rfl,rfl⟩
 generalize dG f d nm x=g at hfind s1 s2 s3 hs hmx;obtain⟨m1,m2,m3⟩:=hmx;have cs:∀k y,au k g.aa=some y→(k=x.ino∧x.aI≠1∧y=x.cX (x.aI - 1))∨(k=d.ino∧y=d.cn nm)∨(k≠x.ino∧k≠d.ino∧au k f.aa=some y):=fun k y hy=>by
  rw[hfind] at hy;by_cases e1:x.ino=k
  ·rw[if_pos e1] at hy
   by_cases hl:x.aI=1
   ·rw[if_pos hl] at hy;cases hy
   ·rw[if_neg hl] at hy;cases hy;exact Or.inl ⟨e1.symm,hl,rfl⟩
  ·rw[if_neg e1] at hy
   by_cases e2:d.ino=k
   ·rw[if_pos e2] at hy;cases hy;exact Or.inr (Or.inl ⟨e2.symm,rfl⟩)
   ·rw[if_neg e2] at hy;exact Or.inr (Or.inr ⟨fun e=>e1 e.symm,fun e=>e2 e.symm,hy⟩)
 have on:∀k z,au k f.aa=some z→(k=x.ino→x.aI≠1)→∃y,au k g.aa=some y∧y.kind=z.kind∧y.parent=z.parent∧∀e'∈z.entries,(k=d.ino→e'≠e)→e'∈y.entries:=fun k z hz hl=>by
  rw[hfind];by_cases e1:x.ino=k
  ·rw[if_pos e1,if_neg (hl e1.symm)]
   have hz':=hz;rw[←e1,hf.hx] at hz';cases hz';exact⟨_,rfl,rfl,rfl,fun e he _=>he⟩
  ·rw[if_neg e1]
   by_cases e2:d.ino=k
   ·rw[if_pos e2]
    have hz':=hz;rw[←e2,hf.hd] at hz';cases hz';exact⟨_,rfl,rfl,rfl,fun e' he hne=>(hf.dy h).2 ⟨he,hne e2.symm⟩⟩
   ·rw[if_neg e2];exact⟨z,hz,rfl,rfl,fun e he _=>he⟩
 have ed:∀j z e',au j g.aa=some z→e'∈z.entries→∃d0,au j f.aa=some d0∧e'∈d0.entries∧(j=d.ino→e'≠e):=fun j z e' hz he=>by
  rcases cs j z hz with⟨rfl,_,rfl⟩ |⟨rfl,rfl⟩ |⟨_,h2,hz⟩
  ·exact⟨x,hf.hx,he,fun e=>absurd e hxd⟩
  ·exact⟨d,hf.hd,((hf.dy h).1 he).1,fun _=>((hf.dy h).1 he).2⟩
  ·exact⟨z,hz,he,fun e=>absurd e h2⟩
 have still:∀j z e',au j f.aa=some z→e'∈z.entries→(j=d.ino→e'≠e)→e'.ino=x.ino→x.aI≠1:=fun j z e' hz he hne hn hl=>by
  have hc:fc x.ino f.aa≤1:=by rw[←hxk.2.1];omega
  obtain⟨a,b⟩:=wa hc (aP hz).1 he hn (aP hf.hd).1 hf.mem.1 hf.hn;exact hne (by rw[←(aP hz).2,a]) b
 have hreach:∀k,Reach f.aa k→k≠x.ino→Reach g.aa k:=fun k hr=>by
  induction hr with
  |root=>exact fun _=> .root
  |step hr hz he ih=>
   rename_i k' z e';intro hne;have hk':k'≠x.ino:=fun e1=>by
    rw[e1,hf.hx] at hz;cases hz;rw[hx0] at he;cases he
   obtain⟨y,hy,_,_,h4⟩:=on k' z hz (fun e1=>absurd e1 hk');exact Reach.step (ih hk') hy (h4 e' he (fun _ e1=>hne (by rw[e1];exact hf.hn)))
 obtain⟨r,hr,hrk,hrp⟩:=h.root;have hx1:x.ino≠1:=fun e1=>h.qd hf.hd hf.mem.1 (by rw[hf.hn,e1])
 refine we (by rw[m1];exact h.vS) (by rw[m2];exact h.vL) (by rw[m3];exact h.next) hs (fun k y hy=> ?_) ?_ (fun k y hy=> ?_) (fun k y hy e' he'=> ?_) (fun k y hy=> ?_) ?_ (fun k y hy hd=> ?_) (fun k y hy hd j z hz e' he' hn=> ?_) (fun k y hy=> ?_) ?_
 ·rw[m3]
  rcases cs k y hy with⟨rfl,_⟩ |⟨rfl,_⟩ |⟨_,_,hy⟩
  ·exact⟨hxk.2.2.1,hxk.2.2.2.1⟩
  ·exact⟨hdk.2.2.1,hdk.2.2.2.1⟩
  ·have:=h.eN hy
   exact⟨this.2.2.1,this.2.2.2.1⟩
 ·obtain⟨y,hy,h2,h3,_⟩:=on 1 r hr (fun e1=>absurd e1.symm hx1)
  exact⟨y,hy,by rw[h2];exact hrk,by rw[h3];exact hrp⟩
 ·rcases cs k y hy with⟨_,_,rfl⟩ |⟨_,rfl⟩ |⟨_,_,hy⟩
  ·exact w9 hxk.1
  ·exact n6 hdk.1 hk2 (oM hdk.2.2.2.2.2)
  ·exact(h.eN hy).1
 ·obtain⟨d0,q1,q2,q3⟩:=ed k y e' hy he'
  obtain⟨z,hz⟩:=h.to q1 q2;obtain⟨y',hy',_⟩:=on _ z hz (fun e1=>still _ _ _ q1 q2 q3 e1);exact⟨y',hy'⟩
 ·rw[s3]
  rcases cs k y hy with⟨rfl,_,rfl⟩ |⟨rfl,rfl⟩ |⟨e1,_,hy⟩
  ·rw[if_pos rfl]
   have:=hxk.2.1;show x.aI - 1=_;omega
  ·rw[if_neg hxd]
   have:=hdk.2.1;show d.aI=_;omega
  ·rw[if_neg (fun e=>e1 e.symm)]
   have:=(h.eN hy).2.1;omega
 ·rw[s3,if_neg hx1,h.sW];rfl
 ·rw[s3]
  rcases cs k y hy with⟨rfl,_,rfl⟩ |⟨rfl,rfl⟩ |⟨e1,_,hy⟩
  ·have:=h.sT hf.hx hd
   rw[if_pos rfl];omega
  ·rw[if_neg hxd]
   have:=h.sT hf.hd hk2;omega
  ·rw[if_neg (fun e=>e1 e.symm)]
   have:=h.sT hy hd;omega
 ·obtain⟨d0,q1,q2,q3⟩:=ed j z e' hz he'
  rcases cs k y hy with⟨rfl,_,rfl⟩ |⟨rfl,rfl⟩ |⟨e1,_,hy⟩
  ·show x.parent=j
   exact h.parent hf.hx hd q1 q2 hn
  ·show d.parent=j
   exact h.parent hf.hd hk2 q1 q2 hn
  ·exact h.parent hy hd q1 q2 hn
 ·by_cases e1:k=x.ino
  ·subst e1
   rcases cs _ y hy with⟨_,hl,_⟩ |⟨e2,_⟩ |⟨e2,_⟩
   ·have hp:0<fc x.ino g.aa:=by
     rw[s3,if_pos rfl];have h1:=xB (aP hf.hd).1 hf.mem.1 hf.hn;have h2:=hxk.2.1;omega
    obtain⟨z,hz,e',he',hn⟩:=Jg hp;have hz:=eM hs hz;have hzx:z.ino≠x.ino:=fun e1=>by
     rw[e1] at hz;obtain⟨d0,q1,q2,_⟩:=ed _ z e' hz he';rw[hf.hx] at q1;cases q1;rw[hx0] at q2;cases q2
    obtain⟨d0,q1,_⟩:=ed _ z e' hz he';have:=Reach.step (hreach _ (h.tH q1) hzx) hz he';rw[hn] at this;exact this
   ·exact absurd e2 hxd
   ·exact absurd rfl e2
  ·have:∃z,au k f.aa=some z:=by
    rcases cs _ y hy with⟨e2,_⟩ |⟨rfl,_⟩ |⟨_,_,hy⟩
    ·exact absurd e2 e1
    ·exact⟨d,hf.hd⟩
    ·exact⟨y,hy⟩
   obtain⟨z,hz⟩:=this;exact hreach _ (h.tH hz) e1
 ·have hff:=h.fits
  have hbx:0≤byt x:=by unfold byt;split<;>omega
  unfold cO at hff⊢;simp only[Bool.and_eq_true,decide_eq_true_eq] at hff⊢;rw[m1,m2];split at s1<;>rename_i hl
  ·rw[if_pos hl] at s2;omega
  ·rw[if_neg hl] at s2;omega
end
structure Bd (n:Nat) (f:Fs):Prop where
 len:f.aa.length≤n
 dy:∀x∈f.aa,x.entries.length≤n
 data:∀x∈f.aa,x.data.length≤10000000
structure Ew (f:Fs):Prop where
 tr:Tree f
 sm:SmF f
 wf:WF f
 ws:WS f
 lil:Lil f
 tot:(dK f.aa).length≤536870912
section
variable {f:Fs} {n m:Nat}
theorem Bd.mono (h:Bd n f) (hm:n≤m):Bd m f:=
 ⟨Nat.le_trans h.len hm,fun x hx=>Nat.le_trans (h.dy x hx) hm,h.data⟩
theorem Bd.sm (h:Bd n f) (hn:n≤10000) (ht:Tree f):SmF f:=by
 refine⟨by have:=h.len;omega,fun x hx=>by have:=h.data x hx;omega,fun x hx=>by have:=h.dy x hx;omega,fun x hx e he=> ?_⟩;have h1:=(ic x.entries).1 (r5 (ht.kind x hx));have:=CG (h1.2 e he).1;omega
theorem iF (ht:Tree f) (h:Bd n f) (hn:n≤10000):Ew f:=by
 have hm:=h.sm hn ht;have hw:=ht.wf hm;have hl:=h.len;refine⟨ht,hm,hw,ht.ws hw,⟨by omega,fun x hx=>by have:=h.dy x hx;omega⟩, ?_⟩;have h1:=yb (N:=10000) (l:=f.aa) (fun x hx=>by have:=h.dy x hx;omega);have:f.aa.length*10000≤10000*10000:=Nat.mul_le_mul_right _ (by omega);omega
theorem Ev.bd (e:Ev f):Bd 40 f:=⟨e.len,fun x hx=>(e.few x hx).2.1,fun x hx=>by have:=(e.few x hx).1;omega⟩
theorem Ev.ew (e:Ev f):Ew f:=iF e.tr e.bd (by omega)
theorem Ew.check (e:Ew f):gW f=some 0:=by rw[qn e.sm e.tot,e.tr.check]
theorem Ew.same (e:Ew f) (g:Fs):j4 f g=some (decide (f=g)):=nC e.sm.len e.sm.dy
theorem Bd.set (h:Bd n f) {y:al} (hm:n+1≤m) (he:y.entries.length≤m) (hd:y.data.length≤10000000):Bd m (f.set y):=by
 refine⟨by have:= @kK f y;have:=h.len;omega,fun x hx=> ?_,fun x hx=> ?_⟩
 ·rcases dC.1 hx with rfl|⟨hx,_⟩
  ·exact he
  ·have:=h.dy x hx;omega
 ·rcases dC.1 hx with rfl|⟨hx,_⟩
  ·exact hd
  ·exact h.data x hx
theorem Bd.put (h:Bd n f) (hs:cG f.aa) {y z:al} (hz:au y.ino f.aa=some z) (hm:n≤m) (he:y.entries.length≤m) (hd:y.data.length≤10000000):Bd m (f.set y):=by
 refine⟨?_,fun x hx=> ?_,fun x hx=> ?_⟩
 ·have:=gB (x:=y) hs
  rw[hz] at this;have h1:(bE y f.aa).length=f.aa.length:=this;have:=h.len;show(bE y f.aa).length≤m;omega
 ·rcases dC.1 hx with rfl|⟨hx,_⟩
  ·exact he
  ·have:=h.dy x hx;omega
 ·rcases dC.1 hx with rfl|⟨hx,_⟩
  ·exact hd
  ·exact h.data x hx
theorem Bd.drop (h:Bd n f) {k:Int}:Bd n (f.drop k):=by
 refine⟨by have h1:(dD k f.aa).length≤f.aa.length:=dI;have:=h.len;show(dD k f.aa).length≤n;omega,fun x hx=> ?_,fun x hx=> ?_⟩
 ·exact h.dy x (fR.1 hx).1
 ·exact h.data x (fR.1 hx).1
theorem Bd.find (h:Bd n f) {k:Int} {x:al} (hx:au k f.aa=some x):x.entries.length≤n∧x.data.length≤10000000:=⟨h.dy x (aP hx).1,h.data x (aP hx).1⟩
theorem Bd.get (h:Bd n f) (k:Int):(aD k f.aa).entries.length≤n∧(aD k f.aa).data.length≤10000000:=by
 cases hf:au k f.aa with
 |none=>rw[dQ hf];simp [jP]
 |some x=>rw[aR hf];exact h.find hf
theorem pG (e:Entry) (l:List Entry):(fe e l).length≤l.length+1:=l8
theorem qH (n:Str) (l:List Entry):(cN n l).length≤l.length:=dI
theorem eE (h:cG f.aa) (x:al):cG (f.set x).aa:=b_ h
theorem rM (h:WF f) (k:Int):gD (aD k f.aa).entries:=by
 cases hf:au k f.aa with
 |none=>rw[dQ hf];exact List.Pairwise.nil
 |some x=>rw[aR hf];exact h.IF (aP hf).1
end
section
variable {f:Fs} {d1 d2 x:al} {n1 n2:Str} {e:Entry}
def mvD (d1 d2:al) (n1:Str):al:=if d1.ino=d2.ino then d1.cn n1 else d2
def mvF (f:Fs) (d1:al) (n1:Str) (d2:al) (n2:Str) (x:al):Fs:=
 if x.kind=2 then ((f.set (d1.cn n1)).set ((mvD d1 d2 n1).bS n2 x.ino)).set (x.fZ d2.ino) else (f.set (d1.cn n1)).set ((mvD d1 d2 n1).bS n2 x.ino)
structure Mv (f:Fs) (d1:al) (n1:Str) (d2:al) (n2:Str) (x:al) (e:Entry):Prop where
 ent:Ent f d1 n1 x e
 free:iJ f d2 n2
 out:¬∃n,Way f.aa x.ino d2.ino n
theorem od:(mvD d1 d2 n1).ino=d2.ino:=by
 unfold mvD;split
 ·rename_i h;exact h
 ·rfl
theorem Mv.ne2 (h:Mv f d1 n1 d2 n2 x e):x.ino≠d2.ino:=fun e1=>h.out ⟨0,by rw[e1];exact .here⟩
theorem Mv.same (h:Mv f d1 n1 d2 n2 x e) (e1:d1.ino=d2.ino):d1=d2:=by
 have:=h.ent.hd;rw[e1,h.free.hd] at this;exact(Option.some.inj this).symm
theorem Mv.dk (h:Mv f d1 n1 d2 n2 x e) (ht:Tree f):(mvD d1 d2 n1).kind=2:=by
 unfold mvD;split
 ·exact h.ent.kind ht
 ·exact h.free.hk
theorem Mv.OD (h:Mv f d1 n1 d2 n2 x e):cR n2 (mvD d1 d2 n1).entries=none:=by
 unfold mvD;split
 ·rename_i e1
  show cR n2 (cN n1 d1.entries)=none;rw[iZ];split
  ·rfl
  ·rw[h.same e1];exact h.free.h0
 ·exact h.free.h0
theorem Mv.IU (h:Mv f d1 n1 d2 n2 x e) (ht:Tree f):gu (mvD d1 d2 n1).entries=true:=by
 unfold mvD;split
 ·exact oM (ht.eN h.ent.hd).2.2.2.2.2
 ·exact(ht.eN h.free.hd).2.2.2.2.2
theorem Mv.aaR (h:Mv f d1 n1 d2 n2 x e) (ht:Tree f):fq (mvD d1 d2 n1)=true:=by
 unfold mvD;split
 ·exact n6 (ht.eN h.ent.hd).1 (h.ent.kind ht) (oM (ht.eN h.ent.hd).2.2.2.2.2)
 ·exact(ht.eN h.free.hd).1
theorem Jh {l:List Entry} {a e':Entry} (h:cR a.name l=none):e'∈fe a l↔e'=a∨e'∈l:=by
 rw[ya];refine⟨fun h'=>h'.imp id And.left,fun h'=>h'.imp id fun he=>⟨he,fun hn=> ?_⟩⟩;unfold cR b7 at h;rw[List.find?_eq_none] at h;exact h e' he (by simpa using hn)
theorem yE (h:Mv f d1 n1 d2 n2 x e) (ht:Tree f) (k:Int):au k (mvF f d1 n1 d2 n2 x).aa=
 if x.ino=k then some (if x.kind=2 then x.fZ d2.ino else x) else if d2.ino=k then some ((mvD d1 d2 n1).bS n2 x.ino) else if d1.ino=k then some (d1.cn n1) else au k f.aa:=by
 have e1:(((mvD d1 d2 n1).bS n2 x.ino).ino)=d2.ino:=od;have hx1:=h.ent.ne ht;have hx2:=h.ne2;unfold mvF;by_cases hk:x.kind=2
 ·rw[if_pos hk,if_pos hk]
  show au k (bE _ (bE _ (bE _ f.aa)))=_;rw[bF,bF,bF,e1];rfl
 ·rw[if_neg hk,if_neg hk]
  show au k (bE _ (bE _ f.aa))=_;rw[bF,bF,e1];by_cases h0:x.ino=k
  ·rw[if_pos h0,if_neg (fun e=>hx2 (by rw[h0,e])),if_neg (fun e=>hx1 (by rw[h0,←e];rfl)),←h0,h.ent.hx]
  ·rw[if_neg h0];rfl
theorem B2 (ht:Tree f):cG (mvF f d1 n1 d2 n2 x).aa:=by
 unfold mvF;split
 ·exact b_ (b_ (b_ ht.sort))
 ·exact b_ (b_ ht.sort)
theorem qW {y:al} (h:y.kind=2):byt y=0:=by unfold byt;rw[if_neg (by omega)]
theorem Gl (h:Mv f d1 n1 d2 n2 x e) (ht:Tree f):(mvF f d1 n1 d2 n2 x).aa.length=f.aa.length∧bytesOf (mvF f d1 n1 d2 n2 x).aa=bytesOf f.aa∧∀n,fc n (mvF f d1 n1 d2 n2 x).aa=fc n f.aa:=by
 have hs:=ht.sort;have hs1:=b_ (x:=d1.cn n1) hs;have hs2:=b_ (x:=(mvD d1 d2 n1).bS n2 x.ino) hs1;have h1:au (d1.cn n1).ino f.aa=some d1:=h.ent.hd;have h2:au ((mvD d1 d2 n1).bS n2 x.ino).ino (bE (d1.cn n1) f.aa)=some (mvD d1 d2 n1):=by
  rw[show((mvD d1 d2 n1).bS n2 x.ino).ino=d2.ino from od,bF];unfold mvD;by_cases e1:d1.ino=d2.ino
  ·rw[if_pos (show(d1.cn n1).ino=d2.ino from e1),if_pos e1]
  ·rw[if_neg (show¬(d1.cn n1).ino=d2.ino from e1),if_neg e1];exact h.free.hd
 have a1:(bE (d1.cn n1) f.aa).length=f.aa.length:=by rw[gB hs,h1];rfl
 have a2:(bE ((mvD d1 d2 n1).bS n2 x.ino) (bE (d1.cn n1) f.aa)).length=f.aa.length:=by rw[gB hs1,h2];exact a1
 have b1:=eR (x:=d1.cn n1) hs;rw[h1] at b1;simp only[iD] at b1;rw[qW (h.ent.kind ht),qW (show(d1.cn n1).kind=2 from h.ent.kind ht)] at b1;have b2:=eR (x:=(mvD d1 d2 n1).bS n2 x.ino) hs1;rw[h2] at b2;simp only[iD] at b2;rw[qW (h.dk ht),qW (show((mvD d1 d2 n1).bS n2 x.ino).kind=2 from h.dk ht)] at b2;have c2:∀n,fc n (bE ((mvD d1 d2 n1).bS n2 x.ino) (bE (d1.cn n1) f.aa))=fc n f.aa:=fun n=>by
  have c1:=kF (x:=d1.cn n1) hs n;rw[h1] at c1;have c2:=kF (x:=(mvD d1 d2 n1).bS n2 x.ino) hs1 n;rw[h2] at c2;have c3:=F_ (m:=n1) (ht.eN h.ent.hd).2.2.2.2.1 n;rw[h.ent.he] at c3;have c4:=J2 (e:=⟨n2,x.ino⟩) ((ic _).1 (h.IU ht)).1 n;rw[show(⟨n2,x.ino⟩:Entry).name=n2 from rfl,h.OD] at c4;simp only[iD,one,h.ent.hn] at c1 c2 c3 c4;have q1:(d1.cn n1).entries=cN n1 d1.entries:=rfl;have q2:((mvD d1 d2 n1).bS n2 x.ino).entries=fe ⟨n2,x.ino⟩ (mvD d1 d2 n1).entries:=rfl;rw[q1] at c1;rw[q2] at c2;omega
 unfold mvF;by_cases hk:x.kind=2
 ·simp only[if_pos hk]
  have h3:au (x.fZ d2.ino).ino (bE ((mvD d1 d2 n1).bS n2 x.ino) (bE (d1.cn n1) f.aa))=some x:=by
   rw[show(x.fZ d2.ino).ino=x.ino from rfl,bF,if_neg (by rw[show((mvD d1 d2 n1).bS n2 x.ino).ino=d2.ino from od];exact fun e=>h.ne2 e.symm),bF,if_neg (show¬(d1.cn n1).ino=x.ino from fun e=>h.ent.ne ht e.symm)];exact h.ent.hx
  refine⟨?_, ?_,fun n=> ?_⟩
  ·show(bE _ (bE _ (bE _ f.aa))).length=_
   rw[gB hs2,h3];exact a2
  ·show bytesOf (bE _ (bE _ (bE _ f.aa)))=_
   have:=eR (x:=x.fZ d2.ino) hs2;rw[h3] at this;have q:byt (x.fZ d2.ino)=byt x:=rfl;simp only[iD,q] at this;omega
  ·show fc n (bE _ (bE _ (bE _ f.aa)))=_
   have:=kF (x:=x.fZ d2.ino) hs2 n;rw[h3,c2] at this;have q:(x.fZ d2.ino).entries=x.entries:=rfl;simp only[iD,q] at this;omega
 ·simp only[if_neg hk]
  exact⟨a2,by show bytesOf (bE _ (bE _ f.aa))=_;omega,c2⟩
theorem X6 (h:Tree f) (hm:Mv f d1 n1 d2 n2 x e):Tree (mvF f d1 n1 d2 n2 x):=by
 have hx1:=hm.ent.ne h;have hx2:=hm.ne2;have hfind:=yE hm h;obtain⟨s1,s2,s3⟩:=Gl hm h;have hk1:=h.eN hm.ent.hd;have hk2:=h.eN hm.free.hd;have hkx:=h.eN hm.ent.hx;have hs:cG (mvF f d1 n1 d2 n2 x).aa:=B2 h;have hmx:(mvF f d1 n1 d2 n2 x).aA=f.aA∧(mvF f d1 n1 d2 n2 x).aH=f.aH∧(mvF f d1 n1 d2 n2 x).next=f.next:=by unfold mvF;split<;>exact⟨rfl,rfl,rfl⟩
 generalize mvF f d1 n1 d2 n2 x=g at hfind s1 s2 s3 hs hmx;obtain⟨m1,m2,m3⟩:=hmx;have hde:∀{e'},e'∈((mvD d1 d2 n1).bS n2 x.ino).entries↔e'=⟨n2,x.ino⟩∨e'∈(mvD d1 d2 n1).entries:=fun{e'}=>Jh (a:=⟨n2,x.ino⟩) hm.OD
 have hmd:∀{e'},e'∈(mvD d1 d2 n1).entries↔e'∈d2.entries∧(d2.ino=d1.ino→e'≠e):=fun{e'}=>by
  unfold mvD;by_cases q:d1.ino=d2.ino
  ·rw[if_pos q,hm.ent.dy h,hm.same q]
   exact⟨fun⟨a,b⟩=>⟨a,fun _=>b⟩,fun⟨a,b⟩=>⟨a,b rfl⟩⟩
  ·rw[if_neg q]
   exact⟨fun a=>⟨a,fun q'=>absurd q'.symm q⟩,fun a=>a.1⟩
 have cs:∀k y,au k g.aa=some y→∃z,au k f.aa=some z∧y.kind=z.kind∧y.aI=z.aI∧y.data=z.data∧(k≠x.ino→y.parent=z.parent)∧(k=x.ino→z=x∧(x.kind=2→y.parent=d2.ino))∧fq y=true∧∀e',e'∈y.entries↔(k=d2.ino∧e'=⟨n2,x.ino⟩)∨(e'∈z.entries∧(k=d1.ino→e'≠e)):=fun k y hy=>by
  rw[hfind] at hy;by_cases e1:x.ino=k
  ·rw[if_pos e1] at hy
   subst e1;refine⟨x,hm.ent.hx, ?_⟩;have hee:∀e',e'∈x.entries↔(x.ino=d2.ino∧e'=⟨n2,x.ino⟩)∨(e'∈x.entries∧(x.ino=d1.ino→e'≠e)):=fun e'=>⟨fun a=>Or.inr ⟨a,fun b=>absurd b hx1⟩,fun a=>a.elim (fun b=>absurd b.1 hx2) And.left⟩
   by_cases hk:x.kind=2
   ·rw[if_pos hk] at hy;cases hy
    refine⟨rfl,rfl,rfl,fun a=>absurd rfl a,fun _=>⟨rfl,fun _=>rfl⟩, ?_,hee⟩;have:=hkx.1;rw[vG hk] at this;rw[vG (show(x.fZ d2.ino).kind=2 from hk)];exact this
   ·rw[if_neg hk] at hy;cases hy
    exact⟨rfl,rfl,rfl,fun a=>absurd rfl a,fun _=>⟨rfl,fun a=>absurd a hk⟩,hkx.1,hee⟩
  ·rw[if_neg e1] at hy
   by_cases e2:d2.ino=k
   ·rw[if_pos e2] at hy;cases hy
    subst e2;refine⟨d2,hm.free.hd, ?_, ?_, ?_,fun _=> ?_,fun a=>absurd a.symm e1,n6 (hm.aaR h) (hm.dk h) (tU (hm.IU h) hm.free.hm hkx.2.2.1),fun e'=> ?_⟩
    ·show(mvD d1 d2 n1).kind=_
     rw[hm.dk h,hm.free.hk]
    ·show(mvD d1 d2 n1).aI=_
     unfold mvD;split
     ·rename_i q;rw[hm.same q];rfl
     ·rfl
    ·show(mvD d1 d2 n1).data=_
     unfold mvD;split
     ·rename_i q;rw[hm.same q];rfl
     ·rfl
    ·show(mvD d1 d2 n1).parent=_
     unfold mvD;split
     ·rename_i q;rw[hm.same q];rfl
     ·rfl
    ·rw[hde,hmd]
     exact⟨fun a=>a.imp (fun b=>⟨rfl,b⟩) id,fun a=>a.imp And.right id⟩
   ·rw[if_neg e2] at hy
    by_cases e3:d1.ino=k
    ·rw[if_pos e3] at hy;cases hy
     subst e3;refine⟨d1,hm.ent.hd,rfl,rfl,rfl,fun _=>rfl,fun a=>absurd a.symm e1,n6 hk1.1 (hm.ent.kind h) (oM hk1.2.2.2.2.2),fun e'=> ?_⟩;rw[hm.ent.dy h];exact⟨fun⟨a,b⟩=>Or.inr ⟨a,fun _=>b⟩,fun a=>a.elim (fun b=>absurd b.1.symm e2) (fun b=>⟨b.1,b.2 rfl⟩)⟩
    ·rw[if_neg e3] at hy
     exact⟨y,hy,rfl,rfl,rfl,fun _=>rfl,fun a=>absurd a.symm e1,(h.eN hy).1,fun e'=>⟨fun a=>Or.inr ⟨a,fun b=>absurd b.symm e3⟩,fun a=>a.elim (fun b=>absurd b.1.symm e2) And.left⟩⟩
 have on:∀k z,au k f.aa=some z→∃y,au k g.aa=some y:=fun k z hz=>by
  rw[hfind];by_cases e1:x.ino=k
  ·rw[if_pos e1];exact⟨_,rfl⟩
  ·rw[if_neg e1]
   by_cases e2:d2.ino=k
   ·rw[if_pos e2];exact⟨_,rfl⟩
   ·rw[if_neg e2]
    by_cases e3:d1.ino=k
    ·rw[if_pos e3];exact⟨_,rfl⟩
    ·rw[if_neg e3];exact⟨z,hz⟩
 have AK:∀k z e',au k f.aa=some z→e'∈z.entries→(k=d1.ino→e'≠e)→∃y,au k g.aa=some y∧e'∈y.entries:=fun k z e' hz he hne=>by
  obtain⟨y,hy⟩:=on k z hz;obtain⟨z',hz',_,_,_,_,_,_,h8⟩:=cs k y hy;rw[hz] at hz';cases hz';exact⟨y,hy,(h8 e').2 (Or.inr ⟨he,hne⟩)⟩
 have rA:∀k,Reach f.aa k→(¬∃n,Way f.aa x.ino k n)→Reach g.aa k:=fun k hr=>by
  induction hr with
  |root=>exact fun _=> .root
  |step hr hz he ih=>
   rename_i k' z e';intro hn;obtain⟨y,hy,hey⟩:=AK k' z e' hz he (fun _ e1=>hn ⟨0,by rw[e1,hm.ent.hn];exact .here⟩);exact Reach.step (ih (fun⟨n,hw⟩=>hn ⟨n+1, .step hw hz he⟩)) hy hey
 have rB:Reach g.aa x.ino:=by
  obtain⟨y,hy⟩:=on d2.ino d2 hm.free.hd;obtain⟨_,_,_,_,_,_,_,_,h8⟩:=cs _ y hy;exact Reach.step (e:=⟨n2,x.ino⟩) (rA _ (h.tH hm.free.hd) hm.out) hy ((h8 _).2 (Or.inl ⟨rfl,rfl⟩))
 have hloop:¬∃n,Way f.aa x.ino d1.ino n:=fun⟨n,hw⟩=>by
  obtain⟨a,ha⟩:=(h.tH hm.ent.hd).way;exact h.BZ ha hm.ent.hd hm.ent.mem.1 (by rw[hm.ent.hn];exact hw)
 have rC:∀k n,Way f.aa x.ino k n→Reach g.aa k:=fun k n hw=>by
  induction hw with
  |here=>exact rB
  |step hw hz he ih=>
   rename_i k' n' z e';obtain⟨y,hy,hey⟩:=AK k' z e' hz he (fun e1 _=>hloop ⟨n',by rw[←e1];exact hw⟩);exact Reach.step ih hy hey
 obtain⟨r,hr,hrk,hrp⟩:=h.root;have hx0:x.ino≠1:=fun e1=>h.qd hm.ent.hd hm.ent.mem.1 (by rw[hm.ent.hn,e1])
 refine we (by rw[m1];exact h.vS) (by rw[m2];exact h.vL) (by rw[m3];exact h.next) hs (fun k y hy=> ?_) ?_ (fun k y hy=> ?_) (fun k y hy e' he'=> ?_) (fun k y hy=> ?_) ?_ (fun k y hy hd=> ?_) (fun k y hy hd j z hz e' he' hn=> ?_) (fun k y hy=> ?_) ?_
 ·obtain⟨z,hz,_⟩:=cs k y hy
  rw[m3];have:=h.eN hz;exact⟨this.2.2.1,this.2.2.2.1⟩
 ·obtain⟨y,hy⟩:=on 1 r hr
  obtain⟨z,hz,c1,_,_,c4,_⟩:=cs _ y hy;rw[hr] at hz;cases hz;exact⟨y,hy,by rw[c1];exact hrk,by rw[c4 (fun e=>hx0 e.symm)];exact hrp⟩
 ·obtain⟨z,hz,_,_,_,_,_,c7,_⟩:=cs k y hy
  exact c7
 ·obtain⟨z,hz,_,_,_,_,_,_,c8⟩:=cs k y hy
  rcases(c8 e').1 he' with⟨_,rfl⟩ |⟨he,_⟩
  ·exact on _ x hm.ent.hx
  ·obtain⟨z',hz'⟩:=h.to hz he
   exact on _ z' hz'
 ·obtain⟨z,hz,_,c2,_⟩:=cs k y hy
  rw[s3,c2];exact(h.eN hz).2.1
 ·rw[s3];exact h.sW
 ·obtain⟨z,hz,c1,_⟩:=cs k y hy
  rw[s3];exact h.sT hz (by rw[←c1];exact hd)
 ·obtain⟨y0,hy0,c1,_,_,c4,c5,_⟩:=cs k y hy
  obtain⟨z0,hz0,_,_,_,_,_,_,c8⟩:=cs j z hz;rcases(c8 e').1 he' with⟨rfl,rfl⟩ |⟨he,hne⟩
  ·have hn:x.ino=k:=hn
   obtain⟨a,b⟩:=c5 hn.symm;rw[a] at c1;exact b (by rw[←c1];exact hd)
  ·by_cases hkx0:k=x.ino
   ·exfalso
    obtain⟨a,b⟩:=c5 hkx0;have hxk:x.kind=2:=by rw[←a,←c1];exact hd
    obtain⟨q1,q2,q3⟩:=h.up hz0 he hm.ent.hd hm.ent.mem.1 (by rw[hn,hkx0,hm.ent.hn]) (y:=x) (by rw[hn,hkx0];exact hm.ent.hx) hxk;exact hne q1 q3
   ·rw[c4 hkx0]
    exact h.parent hy0 (by rw[←c1];exact hd) hz0 he hn
 ·obtain⟨z,hz,_⟩:=cs k y hy
  by_cases hb:∃n,Way f.aa x.ino k n
  ·obtain⟨n,hw⟩:=hb
   exact rC k n hw
  ·exact rA k (h.tH hz) hb
 ·have hff:=h.fits
  unfold cO at hff⊢;simp only[Bool.and_eq_true,decide_eq_true_eq] at hff⊢;rw[s1,s2,m1,m2];exact hff
end
structure Ext (f g:Fs) (D:Int) (N:Str) (x:al):Prop where
 wf:WS f
 wg:WS g
 old:∀k a,au k f.aa=some a→∃b,au k g.aa=some b∧a.ino=b.ino∧a.kind=b.kind∧a.parent=b.parent∧(a.kind=3→a.data=b.data)∧∀n,(k=D∧n=N)∨cx n b.entries=cx n a.entries
 new:au x.ino g.aa=some x
 was:∀d,au D f.aa=some d→cx N d.entries=0
 now:∀d,au D g.aa=some d→cx N d.entries=x.ino
 pos:D≠0
def p9 (D:Int) (N:Str) (i:Int) (s:ar):ar:=if s.dir=D∧s.name=N then ⟨D,N,i⟩ else s
def OkS (f:Fs) (D:Int) (N:Str) (s:ar):Prop:=(s.dir=D∧s.name=N→s.ino=0)∧(s.ino=0∨(au s.ino f.aa).isSome=true)
section
variable {f g:Fs} {D:Int} {N:Str} {x:al}
theorem oA {s:ar} {i:Int} (h:¬(s.dir=D∧s.name=N)):p9 D N i s=s:=by unfold p9;rw[if_neg h]
theorem OkS.ne {s:ar} (h:OkS f D N s) (h0:s.ino≠0):¬(s.dir=D∧s.name=N):=fun e=>h0 (h.1 e)
theorem Ext.here (h:Ext f g D N x) {j:Int} {d:al} (hj:au j f.aa=some d):p9 D N x.ino ⟨0, [],j⟩=⟨0, [],j⟩∧OkS f D N ⟨0, [],j⟩:=
 ⟨oA fun e=>h.pos e.1.symm,fun e=>absurd e.1.symm h.pos,Or.inr (by show(au j f.aa).isSome=true;rw[hj];rfl)⟩
theorem Ext.look (h:Ext f g D N x) {k:Int} {d b:al} (hd:au k f.aa=some d) (hb:au k g.aa=some b) (n:Str):(⟨b.ino,n,cx n b.entries⟩:ar)=p9 D N x.ino ⟨d.ino,n,cx n d.entries⟩∧OkS f D N ⟨d.ino,n,cx n d.entries⟩:=by
 have d2:=(aP hd).2;have b2:=(aP hb).2;constructor
 ·by_cases hs:d.ino=D∧n=N
  ·obtain⟨e1,rfl⟩:=hs
   unfold p9;rw[if_pos ⟨e1,rfl⟩,h.now b (by rw[←e1,d2];exact hb),b2,←d2,e1]
  ·rw[oA hs]
   obtain⟨b',hb',_,_,_,_,h5⟩:=h.old k d hd;rw[hb] at hb';cases hb';rcases h5 n with⟨e1,e2⟩ |h5
   ·exact absurd ⟨by rw[d2,e1],e2⟩ hs
   ·rw[h5,b2,d2]
 ·refine⟨fun e=> ?_, ?_⟩
  ·obtain⟨e1,e2⟩:=e
   have e1:d.ino=D:=e1;have e2:n=N:=e2;show cx n d.entries=0;rw[e2];exact h.was d (by rw[←e1,d2];exact hd)
  ·exact mg h.wf.wf (aP hd).1 n
theorem Ext.cB (h:Ext f g D N x):∀(ns:List Str) (s t:ar),OkS f D N s→cB f.aa ns s=(t,0)→cB g.aa ns (p9 D N x.ino s)=(p9 D N x.ino t,0)∧OkS f D N t
 | [],s,t,hs,hg=>by
  simp only[Go.Eng.cB,Prod.mk.injEq] at hg⊢;obtain⟨rfl,_⟩:=hg;exact⟨⟨rfl,trivial⟩,hs⟩
 |n::ns,s,t,hs,hg=>by
  cases hf:au s.ino f.aa with
  |none=>rw[gM hf] at hg;simp at hg
  |some d=>
   by_cases hk:d.kind=2
   ·rw[eD hf hk] at hg
    have h0:s.ino≠0:=fun e=>by rw[e,h.wf.wf.zero] at hf;cases hf
    rw[oA (hs.ne h0)];obtain⟨b,hb,_,h2,_⟩:=h.old _ d hf;obtain⟨l1,l2⟩:=h.look hf hb n;rw[eD hb (by rw[←h2];exact hk),l1];exact Ext.cB h ns _ t l2 hg
   ·rw[gK hf hk] at hg;simp at hg
theorem Ext.eN (h:Ext f g D N x) {k:Int} (hk:k=0∨(au k f.aa).isSome=true):(aD k g.aa).kind=(aD k f.aa).kind∧((aD k f.aa).kind=3→(aD k f.aa).data=(aD k g.aa).data):=by
 rcases hk with rfl|hk
 ·rw[dQ h.wf.wf.zero,dQ h.wg.wf.zero];exact⟨rfl,fun _=>rfl⟩
 ·obtain⟨a,ha⟩:=Option.isSome_iff_exists.1 hk
  obtain⟨b,hb,_,h2,_,h4,_⟩:=h.old k a ha;rw[aR ha,aR hb];exact⟨h2.symm,h4⟩
theorem Ext.ub (h:Ext f g D N x) {dir:Bool} (hx:dir=true→x.kind=2) {s t:ar} (hs:OkS f D N s) (he:ub f.aa dir s=(t,0)):ub g.aa dir (p9 D N x.ino s)=(p9 D N x.ino t,0)∧OkS f D N t:=by
 have ht:t=s:=by
  unfold Go.Eng.ub at he;split at he
  ·split at he
   ·simp at he
   ·exact(Prod.mk.inj he).1.symm
  ·exact(Prod.mk.inj he).1.symm
 subst ht;refine⟨?_,hs⟩;by_cases hsp:t.dir=D∧t.name=N
 ·have:p9 D N x.ino t=⟨D,N,x.ino⟩:=by unfold p9;rw[if_pos hsp]
  rw[this];unfold Go.Eng.ub;simp only;rw[h.new];simp only;rw[if_neg (fun e=>e.2 (hx e.1))]
 ·rw[oA hsp]
  unfold Go.Eng.ub at he⊢;rcases hs.2 with h0|h0
  ·rw[h0,h.wg.wf.zero]
  ·obtain⟨a,ha⟩:=Option.isSome_iff_exists.1 h0
   obtain⟨b,hb,_,h2,_⟩:=h.old _ a ha;rw[ha] at he;rw[hb];simp only at he⊢;rw[←h2];exact he
theorem Ext.dq (h:Ext f g D N x) {lnk lnk':Bool→al→al→List Str→ar×Int} {dir:Bool} (hx:dir=true→x.kind=2)
 (hl:∀(a b d d':al) (rest:List Str) (t:ar),(rest≠ [] ∨dir=true)→a.data=b.data→d.ino=d'.ino→(∃z,au d.ino f.aa=some z)→lnk dir a d rest=(t,0)→lnk' dir b d' rest=(p9 D N x.ino t,0)∧OkS f D N t):
 ∀(todo:List Str) (s t:ar),OkS f D N s→dq f.aa false lnk dir todo s=(t,0)→dq g.aa false lnk' dir todo (p9 D N x.ino s)=(p9 D N x.ino t,0)∧OkS f D N t
 | [],s,t,hs,hg=>h.ub hx hs hg
 |n::rest,s,t,hs,hg=>by
  cases hf:au s.ino f.aa with
  |none=>rw[m4 hf] at hg;simp at hg
  |some d=>
   by_cases hk:d.kind=2
   ·have h0:s.ino≠0:=fun e=>by rw[e,h.wf.wf.zero] at hf;cases hf
    rw[oA (hs.ne h0)];obtain⟨b,hb,h1,h2,h3,_⟩:=h.old _ d hf;have hkb:b.kind=2:=by rw[←h2];exact hk
    by_cases n1:n=[46]
    ·rw[ot hf hk n1] at hg
     rw[ot hb hkb n1,←h1];have hd:au d.ino f.aa=some d:=by rw[(aP hf).2];exact hf
     obtain⟨u1,u2⟩:=h.here hd;have:=Ext.dq h hx hl rest _ t u2 hg;rwa[u1] at this
    ·by_cases n2:n=[46,46]
     ·rw[qS hf hk n2] at hg
      rw[qS hb hkb n2,←h3];obtain⟨y,hy,_⟩:=h.wf.par d (aP hf).1 hk;obtain⟨u1,u2⟩:=h.here hy;have:=Ext.dq h hx hl rest _ t u2 hg;rwa[u1] at this
     ·obtain⟨l1,l2⟩:=h.look hf hb n
      by_cases hsp:d.ino=D∧n=N
      ·have hz:cx n d.entries=0:=l2.1 hsp
       have hki:(aD (cx n d.entries) f.aa).kind=0:=by rw[hz,dQ h.wf.wf.zero];rfl
       rw[j_ hf hk n1 n2 (fun c=>by rw[hki] at c;exact absurd c.1 (by decide))] at hg;cases rest with
       |nil=>
        have hb2:cx n b.entries=x.ino:=by
         rw[hsp.2];exact h.now b (by rw[←hsp.1,(aP hf).2];exact hb)
        rw[j_ hb hkb n1 n2 (fun c=>by
         rw[hb2,aR h.new] at c;have:=hx (by simpa using c.2);omega),l1]
        exact h.ub hx l2 hg
       |cons m rest=>
        rw[hz,m4 (h.wf.wf.zero)] at hg;simp at hg
      ·rw[oA hsp] at l1
       have e1:cx n b.entries=cx n d.entries:=(ar.mk.inj l1).2.2;obtain⟨k1,k2⟩:=h.eN l2.2;by_cases c:(aD (cx n d.entries) f.aa).kind=3∧(rest≠ [] ∨false=true∨dir=true)
       ·rw[js hf hk n1 n2 c] at hg
        rw[js hb hkb n1 n2 (by rw[e1];exact⟨by rw[k1];exact c.1,c.2⟩),e1];refine hl _ _ _ _ _ _ (by simpa using c.2) (k2 c.1) h1 ⟨d,by rw[(aP hf).2];exact hf⟩ hg
       ·rw[j_ hf hk n1 n2 c] at hg
        rw[j_ hb hkb n1 n2 (by rw[e1];exact fun c'=>c ⟨by rw[←k1];exact c'.1,c'.2⟩),l1];have:=Ext.dq h hx hl rest _ t l2 hg;rwa[oA hsp] at this
   ·rw[qo hf hk] at hg;simp at hg
theorem Ext.onK (h:Ext f g D N x):∀(k:Nat) (dir:Bool) (todo:List Str) (s t:ar),(dir=true→x.kind=2)→OkS f D N s→onK f.aa false k dir todo s=(t,0)→onK g.aa false k dir todo (p9 D N x.ino s)=(p9 D N x.ino t,0)∧OkS f D N t
 |0,dir,todo,s,t,hx,hs,hg=>h.dq hx (fun a b d d' rest t _ _ _ _ hh=>by simp at hh) todo s t hs hg
 |k+1,dir,todo,s,t,hx,hs,hg=>by
  refine h.dq hx (fun a b d d' rest t hr hd hi ⟨z,hz⟩ hh=> ?_) todo s t hs hg;rw[←hd,←hi];by_cases hl:pj a.data=true
  ·rw[if_pos hl] at hh;simp at hh
  ·rw[if_neg hl] at hh⊢
   have hj:∃z',au (if (dX a.data).abs=true then 1 else d.ino) f.aa=some z':=by
    split
    ·exact Option.isSome_iff_exists.1 h.wf.wf.root
    ·exact⟨z,hz⟩
   obtain⟨z',hz'⟩:=hj;obtain⟨u1,u2⟩:=h.here hz';have:=Ext.onK h k _ _ _ t (fun hd'=>hx (by
    rw[Bool.or_eq_true,Bool.and_eq_true] at hd';rcases hd' with hd'|⟨_,hd'⟩
    ·exact hd'
    ·rcases hr with hr|hr
     ·exact absurd (by simpa using hd') hr
     ·exact hr)) u2 hh
   rwa[u1] at this
end
theorem yS {f:Fs} {n:Int} (hs:cG f.aa) (hl:f.aa.length≤1073741824):o4 f n=some (f.drop n):=by
 unfold o4 sh Fs.drop;rw[pV hs hl];simp only[ah];generalize f.aa=l at hs hl;cases h:BL n l
 ·have hf:=z_ hs h
  have e9:dD n l=l:=oF hf;rw[e9];refine kq (fun e=> ?_) ?_
  ·subst e;rfl
  ·rw[bV (by unfold LIM;simp;omega)]
   simp only[ax,List.nil_append]
 ·obtain⟨x,hx,hxn⟩:=Ar h
  have e9:dD n l=l.take (lh n l)++l.drop (lh n l+1):=qE loI hs hx hxn;rw[e9];have hlt:lh n l<l.length:=(List.getElem?_eq_some_iff.1 hx).1;clear h hx e9;generalize lh n l=c at hlt;refine kq (fun e=>by subst e;simp at hlt) ?_;rw[bV (by unfold LIM;simp;omega)];have e1:IntKind.i64.wrap ((c:Int)+(1:Int))=((c+1:Nat):Int):=bc (by omega);have hS:(l.drop (c+1)).take (l.length - (c+1))=l.drop (c+1):=by rw[List.take_of_length_le];simp
  have hSl:(l.drop (c+1)).length=l.length - (c+1):=by simp
  have e2:(c:Int)+((l.length - (c+1):Nat):Int)=((l.length - 1:Nat):Int):=by omega
  simp only[ay,List.nil_append,e1,toNat_cast,Nat.zero_add,hS,hSl,e2];have e3:c+(l.length - (c+1))=l.length - 1:=by omega
  simp only[e3];have hM:(l.take c++(l.drop (c+1)++l.drop (l.length - 1))).length=l.length:=by simp;omega
  have hT:(l.take c++(l.drop (c+1)++l.drop (l.length - 1))).take (l.length - 1)=l.take c++l.drop (c+1):=by
   rw[←List.append_assoc];exact take_set (by simp;omega)
  simp only[hT,hM];have hA:(l.take c++l.drop (c+1)).length=l.length - 1:=by simp;omega
  have hQ:∀X:List al,(((l.take c++l.drop (c+1))++X).drop 0).take (l.length - 1)=l.take c++l.drop (c+1):=fun X=>by
   rw[List.drop_zero];exact take_set hA
  rw[aL (by simp),aL (by simp;omega),aL (by simp;omega),aW (by simp;omega),aL (by simp;omega),aL (by simp;omega),aL (Nat.ble_eq_true_of_le (by omega)),aL (Nat.ble_eq_true_of_le (by omega)),aL (decide_eq_true (by omega)),aL (by simp),aL (Nat.ble_eq_true_of_le (by omega)),aL (Nat.ble_eq_true_of_le (by simp;omega)),hQ]
theorem yL {f:Fs} (hl:f.aa.length≤1073741824) (h0: -9223372036854775808≤f.next) (h1:f.next<9223372036854775807):kc f=some (⟨f.aA,f.aH,f.next+1,f.aa⟩,f.next):=by
 unfold kc;have e1:IntKind.i64.wrap (f.next+(1:Int))=f.next+1:=cd (by omega) (by omega);rw[e1];refine kq (fun e=>by rw[e]) ?_;rw[bV (by unfold LIM;simp;omega),List.nil_append]
def n3 (f:Fs) (s:ar) (k:Int) (d:Str):al:=⟨f.next,k,1,d,if k=2 then s.dir else 0, []⟩
def pt (f:Fs) (s:ar) (k:Int) (d:Str):Fs:=⟨f.aA,f.aH,f.next+1,bE (n3 f s k d) (bE ((aD s.dir f.aa).bS s.name f.next) f.aa)⟩
def pM (f:Fs) (s:ar) (k:Int) (d:Str):Fs×Int:=if eL s.name=true then (if cO f 1 (if k=1 then (d.length:Int) else 0)=true then (pt f s k d,0) else (f,8)) else (f,9)
def Tv (f:Fs) (base p:Str) (k:Int) (d:Str) (r:Int):Fs×Int:=
 if (jQ f base p false).2=0 then (if (jQ f base p false).1.ino=0 then (if r≠0∧(dX p).gU=true then (f,r) else pM f (jQ f base p false).1 k d) else (f,2)) else (f,(jQ f base p false).2)
section
variable {f:Fs} {base p d:Str} {s:ar} {k:Int}
theorem sH (h:WF f) (hl:f.aa.length≤1000000000) (he:(aD s.dir f.aa).entries.length≤1000000000) {nx:Int} {x:al}:
 a_ ⟨f.aA,f.aH,nx,f.aa⟩ ((aD s.dir f.aa).bS s.name f.next)=some ⟨f.aA,f.aH,nx,bE ((aD s.dir f.aa).bS s.name f.next) f.aa⟩∧
 a_ ⟨f.aA,f.aH,nx,bE ((aD s.dir f.aa).bS s.name f.next) f.aa⟩ x=some ⟨f.aA,f.aH,nx,bE x (bE ((aD s.dir f.aa).bS s.name f.next) f.aa)⟩∧
 bG f ((aD s.dir f.aa).bS s.name f.next)=some (f.set ((aD s.dir f.aa).bS s.name f.next))∧
 bG (f.set ((aD s.dir f.aa).bS s.name f.next)) x=some ((f.set ((aD s.dir f.aa).bS s.name f.next)).set x):=by
 have h1:= @kK f ((aD s.dir f.aa).bS s.name f.next);have h2:(bE ((aD s.dir f.aa).bS s.name f.next) f.aa).length≤f.aa.length+1:=h1;refine⟨cQ (f:=⟨f.aA,f.aH,nx,f.aa⟩) h.sort (by show f.aa.length≤_;omega),cQ (f:=⟨f.aA,f.aH,nx,_⟩) (b_ h.sort) (by show(bE _ f.aa).length≤_;omega),cu (by omega),cu (by omega)⟩
theorem zh (h:WF f) (hn:s.name.length≤1099511627775) (hd:d.length≤1073741824) (hl:f.aa.length≤1000000000) (h0: -1152921504606846976≤f.next) (h1:f.next≤1152921504606846976) (he:(aD s.dir f.aa).entries.length≤1000000000):me f s k d=some (pM f s k d):=by
 unfold me pM pt n3;have hw:eo (aD s.dir f.aa).entries s.name f.next=some (fe ⟨s.name,f.next⟩ (aD s.dir f.aa).entries):=ny (rM h _) (by omega);have ht:kc f=some (⟨f.aA,f.aH,f.next+1,f.aa⟩,f.next):=yL (by omega) (by omega) (by omega);have c1:=fun x=>(sH (s:=s) h hl he (nx:=f.next+1) (x:=x)).1
 have c2:=fun x=>(sH (s:=s) h hl he (nx:=f.next+1) (x:=x)).2.1
 rw[qj hn,ah,ah,iv h.sm (by unfold Far;omega) (by unfold Far;omega),iv h.sm (by unfold Far;omega) (by unfold Far;omega),h.get,ht];simp only[ah,eO];rw[hw];simp only[ah];have c1':=c1 jP;unfold al.bS al.vd at c1';rw[c1'];simp only[ah];have c2':=c2;unfold al.bS al.vd at c2';simp only[c2',ah];by_cases hk1:k=1
 ·subst hk1
  simp only[decide_true,ay,if_true];cases eL s.name
  ·rfl
  cases cO f 1 (d.length:Int)
  ·rfl
  ·rfl
 ·simp only[hk1,decide_false,ax,if_false]
  cases eL s.name
  ·rfl
  cases cO f 1 0
  ·rfl
  by_cases hk2:k=2
  ·simp only[hk2,decide_true,if_true];rfl
  ·simp only[hk2,decide_false,if_false];rfl
theorem sK (h:WF f) (hn:s.name.length≤1099511627775) (hd:d.length≤1073741824) (hl:f.aa.length≤1000000000) (h0: -1152921504606846976≤f.next) (h1:f.next≤1152921504606846976) (he:(aD s.dir f.aa).entries.length≤1000000000):jV f s k d=some (pM f s k d):=by
 unfold jV pM pt n3;have hw:fE (aD s.dir f.aa).entries s.name f.next=some (fe ⟨s.name,f.next⟩ (aD s.dir f.aa).entries):=nv (by omega);have c1:=fun x=>(sH (s:=s) h hl he (nx:=f.next+1) (x:=x)).2.2.1
 have c2:=fun x=>(sH (s:=s) h hl he (nx:=f.next+1) (x:=x)).2.2.2
 rw[lG hn,ah,fD h.sm (by unfold Far;omega) (by unfold Far;omega),fD h.sm (by unfold Far;omega) (by unfold Far;omega),h.uf];simp only[ah,eO];rw[hw];simp only[ah];have c1':=c1 jP;unfold al.bS al.vd at c1';rw[c1'];simp only[ah];have c2':=c2;unfold al.bS al.vd at c2';simp only[c2',ah];have hw1:IntKind.i64.wrap (f.next+(1:Int))=f.next+1:=cd (by omega) (by omega);simp only[Fs.set,hw1];cases eL s.name
 ·rfl
 by_cases hk1:k=1
 ·subst hk1
  simp only[decide_true,ay,if_true,Bool.not_true,ax];cases cO f 1 (d.length:Int)
  ·rfl
  ·rfl
 ·simp only[hk1,decide_false,ax,if_false,Bool.not_true]
  cases cO f 1 0
  ·rfl
  by_cases hk2:k=2
  ·simp only[hk2,decide_true,if_true];rfl
  ·simp only[hk2,decide_false,if_false];rfl
theorem AS (h:WS f) {r:Int} (hb:base.length≤8388608) (hp:p.length≤1073741823) (hd:d.length≤1073741824) (hl:f.aa.length≤1000000000) (h0: -1152921504606846976≤f.next) (h1:f.next≤1152921504606846976) (he:∀x∈f.aa,x.entries.length≤1000000000) (hn:(jQ f base p false).1.name.length≤1099511627775):
 tV f base p k d r=some (Tv f base p k d r):=by
 unfold tV Tv;have hge:(aD (jQ f base p false).1.dir f.aa).entries.length≤1000000000:=by
  cases hf:au (jQ f base p false).1.dir f.aa with
  |none=>rw[dQ hf];simp [jP]
  |some x=>rw[aR hf];exact he x (aP hf).1
 rw[yV h hb hp,ah,dT,dT,dT,nB hp,ah,sK h.wf hn hd hl h0 h1 hge];simp only[ah];by_cases z0:(jQ f base p false).2=0
 ·rw[aW (by simp [z0]),if_pos z0]
  by_cases z1:(jQ f base p false).1.ino=0
  ·rw[aW (by simp [z1]),if_pos z1]
   by_cases z2:r=0
   ·rw[aW (by simp [z2]),if_neg (by simp [z2])]
   ·rw[aL (by simp [z2])]
    cases z3:(dX p).gU
    ·rw[if_neg (by simp)];rfl
    ·rw[if_pos (by simp [z2])];rfl
  ·rw[aL (by simp [z1]),if_neg z1]
 ·rw[aL (by simp [z0]),if_neg z0]
end
section
variable {l:List al} {fol:Bool}
theorem L8 {dir:Bool} {s:ar} (hs:s.name.length≤255):(ub l dir s).1.name.length≤255:=by
 unfold ub;split
 ·split
  ·simp [gd]
  ·exact hs
 ·exact hs
theorem nP {lnk:Bool→al→al→List Str→ar×Int} {dir:Bool} (hl:∀x d rest,(∀n∈rest,n.length≤255)→(lnk dir x d rest).1.name.length≤255):
 ∀(todo:List Str) (s:ar),(∀n∈todo,n.length≤255)→s.name.length≤255→(dq l fol lnk dir todo s).1.name.length≤255
 | [],s,_,hs=>L8 hs
 |n::rest,s,hn,hs=>by
  have hrest:∀m∈rest,m.length≤255:=fun m hm=>hn m (by simp [hm])
  cases hf:au s.ino l with
  |none=>rw[m4 hf];simp [gd]
  |some d=>
   by_cases hk:d.kind=2
   ·by_cases h1:n=[46]
    ·rw[ot hf hk h1];exact nP hl rest _ hrest (by simp)
    ·by_cases h2:n=[46,46]
     ·rw[qS hf hk h2];exact nP hl rest _ hrest (by simp)
     ·by_cases h3:(aD (cx n d.entries) l).kind=3∧(rest≠ [] ∨fol=true∨dir=true)
      ·rw[js hf hk h1 h2 h3];exact hl _ _ _ hrest
      ·rw[j_ hf hk h1 h2 h3];exact nP hl rest _ hrest (hn n (by simp))
   ·rw[qo hf hk];simp [gd]
theorem uV {p:Str} (h:pj p=false):∀n∈cq p,n.length≤255:=by
 intro n hn;unfold pj at h;simp only[Bool.or_eq_false_iff] at h;have:=List.any_eq_false.1 h.1 n hn;simpa using this
theorem Fe:∀(k:Nat) (dir:Bool) (todo:List Str) (s:ar),(∀n∈todo,n.length≤255)→s.name.length≤255→(onK l fol k dir todo s).1.name.length≤255
 |0,dir,todo,s,hn,hs=>nP (fun x d rest _=>by simp [gd]) todo s hn hs
 |k+1,dir,todo,s,hn,hs=>by
  refine nP (fun x d rest hr=> ?_) todo s hn hs;split
  ·simp [gd]
  ·rename_i hlp
   refine Fe k _ _ _ (fun n hn'=> ?_) (by simp);simp only[List.mem_append] at hn';rcases hn' with hn'|hn'
   ·exact uV (by simpa using hlp) n hn'
   ·exact hr n hn'
theorem IL (f:Fs) (base p:Str) (fol:Bool):(jQ f base p fol).1.name.length≤255:=by
 unfold jQ;split
 ·simp [gd]
 ·split
  ·simp [gd]
  ·rename_i hlp
   have hn:=uV (p:=p) (by simpa using hlp);split
   ·exact Fe 40 _ _ _ hn (by simp [dm])
   ·split
    ·exact Fe 40 _ _ _ hn (by simp)
    ·simp [gd]
end
structure Ez (f:Fs):Prop where
 ws:WS f
 lil:Lil f
 nx: -1152921504606846976≤f.next∧f.next≤1152921504606846976
 lk:∀x∈f.aa, -1152921504606846976≤x.aI∧x.aI≤1152921504606846976
theorem YO (n:Int) (l:List Entry):ec n l≤l.length:=by
 have:=yq (μ :=one n) (c:=1) (l:=l) (fun x _=>by unfold one;split<;>omega);unfold ec;omega
theorem Vu {n:Int} {l:List al} (h:l.length≤10000) (he:∀x∈l,x.entries.length≤10000):fc n l≤100000000:=by
 have:=yq (μ :=fun x:al=>ec n x.entries) (c:=10000) (l:=l) (fun x hx=>by have:=YO n x.entries;have:=he x hx;omega);unfold fc;omega
section
variable {f:Fs} {base p d t:Str} {s:ar} {k:Int}
theorem Tree.next' (h:Tree f):2≤f.next∧f.next≤1099511627776:=by
 obtain⟨r,hr,_⟩:=h.root;have h1:=(h.eN hr).2.2;have h2:=h.next;omega
theorem Ew.ez (e:Ew f):Ez f:=by
 have h1:=e.tr.next';refine⟨e.ws,e.lil,by omega,fun x hx=> ?_⟩;have h2:=e.tr.aI x hx;have h3:=Ki x.ino f.aa;have h4:=Vu (n:=x.ino) e.lil.len e.lil.dy;omega
theorem Ez.len (e:Ez f):f.aa.length≤1000000000:=by have:=e.lil.len;omega
theorem Ez.dy (e:Ez f) (k:Int):(aD k f.aa).entries.length≤1000000000:=by
 cases hf:au k f.aa with
 |none=>rw[dQ hf];simp [jP]
 |some x=>rw[aR hf];have:=e.lil.dy x (aP hf).1;omega
theorem Ez.new (e:Ez f) (hn:s.name.length≤255) (hd:d.length≤1073741824):me f s k d=some (pM f s k d)∧jV f s k d=some (pM f s k d):=
 ⟨zh e.ws.wf (by omega) hd e.len e.nx.1 e.nx.2 (e.dy _),sK e.ws.wf (by omega) hd e.len e.nx.1 e.nx.2 (e.dy _)⟩
theorem Ez.put (e:Ez f) {r:Int} (hb:base.length≤8388608) (hp:p.length≤1073741823) (hd:d.length≤1073741824):tV f base p k d r=some (Tv f base p k d r):=
 AS e.ws hb hp hd e.len e.nx.1 e.nx.2 (fun x hx=>by have:=e.lil.dy x hx;omega) (by have:=IL f base p false;omega)
theorem any_zero (t:Str):decide (Lib.indexByte t ((0:Int)).toNat.toUInt8≥(0:Int))=t.any (fun b=>b==0):=by
 have e0:((0:Int)).toNat.toUInt8=(0:UInt8):=rfl;rw[e0];rcases mr 0 t with⟨h1,h2⟩ |⟨a,b,h1,h2,h3⟩
 ·rw[h2]
  have:t.any (fun b=>b==0)=false:=by
   rw[List.any_eq_false];intro x hx;simpa using h1 x hx
  rw[this];rfl
 ·rw[h3,h1]
  simp
theorem pP {l:List Entry} {a:Entry} {n:Str}:cx n (fe a l)=if a.name=n then a.ino else cx n l:=by
 unfold cx;rw[qI];by_cases h:a.name=n<;>simp [h]
theorem kf {l:List Entry} {m n:Str}:cx n (cN m l)=if m=n then 0 else cx n l:=by
 unfold cx;rw[iZ];by_cases h:m=n<;>simp [h]
structure re (f g:Fs) (d:al) (nm:Str) (x:al):Prop where
 find:∀k,au k g.aa=if x.ino=k then some x else if d.ino=k then some (d.bS nm x.ino) else au k f.aa
 hx:au x.ino f.aa=none∨∃y,au x.ino f.aa=some y∧y.kind=x.kind∧y.parent=x.parent∧y.data=x.data∧y.entries=x.entries
 ne:x.ino≠d.ino
variable {g:Fs} {dd x:al} {nm:Str}
theorem re.ext (m:re f g dd nm x) (wf:WS f) (wg:WS g) (hf:iJ f dd nm):Ext f g dd.ino nm x:=by
 refine⟨wf,wg,fun k a ha=> ?_, ?_,fun y hy=> ?_,fun y hy=> ?_, ?_⟩
 ·rw[m.find]
  by_cases h1:x.ino=k
  ·rw[if_pos h1]
   rcases m.hx with h|⟨y,hy,y1,y2,y3,y4⟩
   ·rw[h1,ha] at h;cases h
   ·rw[h1,ha] at hy;cases hy
    exact⟨x,rfl,by rw[(aP ha).2,h1],y1,y2,fun _=>y3,fun n=>Or.inr (by rw[y4])⟩
  ·rw[if_neg h1]
   by_cases h2:dd.ino=k
   ·rw[if_pos h2]
    have:=hf.hd;rw[h2,ha] at this;cases this;refine⟨_,rfl,rfl,rfl,rfl,fun _=>rfl,fun n=> ?_⟩;by_cases hn:nm=n
    ·exact Or.inl ⟨h2.symm,hn.symm⟩
    ·right
     show cx n (fe ⟨nm,x.ino⟩ dd.entries)=_;rw[pP,if_neg hn]
   ·rw[if_neg h2]
    exact⟨a,ha,rfl,rfl,rfl,fun _=>rfl,fun _=>Or.inr rfl⟩
 ·rw[m.find,if_pos rfl]
 ·rw[hf.hd] at hy;cases hy
  unfold cx;rw[hf.h0]
 ·rw[m.find,if_neg m.ne,if_pos rfl] at hy
  cases hy;show cx nm (fe ⟨nm,x.ino⟩ dd.entries)=_;rw[pP,if_pos rfl]
 ·have:=wf.wf.pos dd (aP hf.hd).1
  omega
end
def Bw (k:Int) (d:Str):Prop:=k=1∨(k=2∧d= [])∨(k=3∧1≤d.length∧d.length≤4095∧d.any (fun b=>b==0)=false)
section
variable {f:Fs} {base p d t:Str} {s:ar} {k:Int}
theorem H2 (h:Bw k d):fq (n3 f s k d)=true:=by
 rcases h with rfl|⟨rfl,rfl⟩ |⟨rfl,h1,h2,h3⟩
 ·rw[Au rfl];simp [n3]
 ·rw[vG rfl];simp [n3,gu,jW]
 ·rw[zQ rfl]
  show(true&&(decide ((0:Int)=0)&&(decide (1≤d.length∧d.length≤4095)&& !(d.any (fun b=>b==0)))))=true;rw[h3,decide_eq_true (show 1≤d.length∧d.length≤4095 from⟨h1,h2⟩)];rfl
theorem qY {fol:Bool} (ht:Tree f) (hw:WF f) (h:Gd f fol s) (h0:s.ino=0) (hm:eL s.name=true):iJ f (aD s.dir f.aa) s.name∧(aD s.dir f.aa).ino=s.dir:=by
 rcases h with⟨_,_,d,hd,_⟩ |⟨_,d,hd,hk,hi,_⟩
 ·rw[h0,hw.zero] at hd;cases hd
 ·have h2:=(aP hd).2
  rw[aR hd];exact⟨⟨by rw[h2];exact hd,hk,hm,H3 (ht.eN hd).2.2.2.2.2 (by rw[←hi];exact h0)⟩,h2⟩
theorem wW (ht:Tree f):au f.next f.aa=none:=by
 cases hf:au f.next f.aa with
 |none=>rfl
 |some x=>have:=(ht.eN hf).2.2.2.1;omega
theorem Kb (h:(pM f s k d).2≠0):(pM f s k d).1=f:=by
 unfold pM at h⊢;by_cases h1:eL s.name=true
 ·rw[if_pos h1] at h⊢
  by_cases h2:cO f 1 (if k=1 then (d.length:Int) else 0)=true
  ·rw[if_pos h2] at h;exact absurd rfl h
  ·rw[if_neg h2]
 ·rw[if_neg h1]
theorem NS (h:(pM f s k d).2=0):pM f s k d=(pt f s k d,0)∧eL s.name=true∧cO f 1 (if k=1 then (d.length:Int) else 0)=true:=by
 unfold pM at h⊢;by_cases h1:eL s.name=true
 ·rw[if_pos h1] at h⊢
  by_cases h2:cO f 1 (if k=1 then (d.length:Int) else 0)=true
  ·rw[if_pos h2] at h⊢;exact⟨rfl,h1,h2⟩
  ·rw[if_neg h2] at h;simp at h
 ·rw[if_neg h1] at h;simp at h
structure Made (f:Fs) (n:Nat) (s:ar) (k:Int) (d:Str) (g:Fs):Prop where
 tr:Tree g
 bd:Bd (n+1) g
 len:g.aa.length=f.aa.length+1
 free:iJ f (aD s.dir f.aa) s.name
 ino:(aD s.dir f.aa).ino=s.dir
 more:re f g (aD s.dir f.aa) s.name (n3 f s k d)
 next:g.next=f.next+1
 max:g.aA=f.aA∧g.aH=f.aH
theorem I0 {n:Nat} (ht:Tree f) (hb:Bd n f) (hf:iJ f (aD s.dir f.aa) s.name) (hs:(aD s.dir f.aa).ino=s.dir) (hk:Bw k d) (hd:d.length≤10000000) (hnx:f.next<1099511627776) (hfit:cO f 1 (if k=1 then (d.length:Int) else 0)=true):Made f n s k d (pt f s k d):=by
 have hx:=wW ht;have hne:f.next≠(aD s.dir f.aa).ino:=fun e=>by rw[e,hf.hd] at hx;cases hx
 have h2:=ht.next';have hbyt:byt (n3 f s k d)=if k=1 then (d.length:Int) else 0:=rfl
 have htr:Tree (pt f s k d):=GH (x:=n3 f s k d) (nx:=f.next+1) ht hf hx (by show 1≤f.next;omega) (by show f.next<f.next+1;omega) (by omega) (by omega) (H2 hk) rfl rfl (fun h=>by show(if k=2 then s.dir else 0)=_;rw[if_pos (show k=2 from h),hs]) (by rw[hbyt];exact hfit);have hlen:=(pH (x:=n3 f s k d) ht hf hx).1;refine⟨htr,⟨?_,fun x hx'=> ?_,fun x hx'=> ?_⟩,hlen,hf,hs,⟨fun j=>oV j,Or.inl hx,hne⟩,rfl,rfl,rfl⟩
 ·have:=hb.len
  have h3:(pt f s k d).aa.length=f.aa.length+1:=hlen;omega
 ·have h3:x∈bE (n3 f s k d) (bE ((aD s.dir f.aa).bS s.name f.next) f.aa):=hx'
  rcases dC.1 h3 with rfl|⟨h3,_⟩
  ·simp [n3]
  ·rcases dC.1 h3 with rfl|⟨h3,_⟩
   ·have h4:=pG ⟨s.name,f.next⟩ (aD s.dir f.aa).entries
    have h5:=(hb.get s.dir).1;show(fe ⟨s.name,f.next⟩ (aD s.dir f.aa).entries).length≤_;omega
   ·have:=hb.dy x h3;omega
 ·have h3:x∈bE (n3 f s k d) (bE ((aD s.dir f.aa).bS s.name f.next) f.aa):=hx'
  rcases dC.1 h3 with rfl|⟨h3,_⟩
  ·exact hd
  ·rcases dC.1 h3 with rfl|⟨h3,_⟩
   ·exact(hb.get s.dir).2
   ·exact hb.data x h3
theorem Ez.inf (e:Ez f):InF f:=⟨by have:=e.lil.len;omega,fun x hx=>by have:=e.lil.dy x hx;omega⟩
theorem InF.same (h:InF f) (g:Fs):j4 f g=some (decide (f=g)):=nC h.len h.dy
end
def m7 (f:Fs) (s:ar) (i:Int):Fs:=
 (f.set ((aD s.dir f.aa).bS s.name i)).set ((aD i (f.set ((aD s.dir f.aa).bS s.name i)).aa).cX ((aD i (f.set ((aD s.dir f.aa).bS s.name i)).aa).aI+1))
def sk (f:Fs) (s:ar) (i:Int):Fs:=(f.set ((aD s.dir f.aa).bS s.name i)).set ((aD i f.aa).cX ((aD i f.aa).aI+1))
def dV (f:Fs) (s:ar):Fs:=
 if (aD s.ino (f.set ((aD s.dir f.aa).cn s.name)).aa).aI - 1=0 then (f.set ((aD s.dir f.aa).cn s.name)).drop (aD s.ino (f.set ((aD s.dir f.aa).cn s.name)).aa).ino
 else (f.set ((aD s.dir f.aa).cn s.name)).set ((aD s.ino (f.set ((aD s.dir f.aa).cn s.name)).aa).cX ((aD s.ino (f.set ((aD s.dir f.aa).cn s.name)).aa).aI - 1))
def nY (f:Fs) (s:ar):Fs:=
 if (aD s.ino f.aa).aI - 1=0 then (f.set ((aD s.dir f.aa).cn s.name)).drop s.ino
 else (f.set ((aD s.dir f.aa).cn s.name)).set ((aD s.ino f.aa).cX ((aD s.ino f.aa).aI - 1))
section
variable {f g:Fs} {base p q nm:Str} {s:ar} {i:Int} {d x:al} {e:Entry}
theorem kU {l:List al} {y:al} {k:Int}:aD k (bE y l)=if y.ino=k then y else aD k l:=by
 unfold aD;rw[bF];split<;>rfl
theorem Ez.aI (z:Ez f) (k:Int): -1152921504606846976≤(aD k f.aa).aI∧(aD k f.aa).aI≤1152921504606846976:=by
 cases hf:au k f.aa with
 |none=>rw[dQ hf];simp [jP]
 |some x=>rw[aR hf];exact z.lk x (aP hf).1
theorem Ez.Jn (z:Ez f) {y:al} (hy:y.aI=(aD s.dir f.aa).aI) (k:Int): -1152921504606846976≤(aD k (f.set y).aa).aI∧(aD k (f.set y).aa).aI≤1152921504606846976:=by
 have e:aD k (f.set y).aa=if y.ino=k then y else aD k f.aa:=kU
 rw[e];split
 ·rw[hy];exact z.aI _
 ·exact z.aI k
theorem lJ (z:Ez f):bN f s i=some (m7 f s i):=by
 have h1:=z.dy s.dir;have h2:=z.len;have h3:= @kK f ((aD s.dir f.aa).bS s.name i);have h4:=z.Jn (s:=s) (y:=(aD s.dir f.aa).bS s.name i) rfl i;have hs:=eE z.ws.wf.sort ((aD s.dir f.aa).bS s.name i);unfold bN m7;rw[z.ws.wf.get,ah,ny (rM z.ws.wf _) (by omega),ah];have e1:(⟨(aD s.dir f.aa).ino,(aD s.dir f.aa).kind,(aD s.dir f.aa).aI,(aD s.dir f.aa).data,(aD s.dir f.aa).parent,fe ⟨s.name,i⟩ (aD s.dir f.aa).entries⟩:al)=(aD s.dir f.aa).bS s.name i:=rfl;simp only;rw[e1,cQ z.ws.wf.sort (by omega),ah,dh hs (by omega),ah];simp only;rw[cd (by omega) (by omega),cQ hs (by omega),ah];rfl
theorem iS (z:Ez f):dp f s i=some (sk f s i):=by
 have h1:=z.dy s.dir;have h2:=z.len;have h3:= @kK f ((aD s.dir f.aa).bS s.name i);have h4:=z.aI i;unfold dp sk;rw[z.ws.wf.uf,ah,z.ws.wf.uf,ah,nv (by simp only;omega),ah];have e1:(⟨(aD s.dir f.aa).ino,(aD s.dir f.aa).kind,(aD s.dir f.aa).aI,(aD s.dir f.aa).data,(aD s.dir f.aa).parent,fe ⟨s.name,i⟩ (aD s.dir f.aa).entries⟩:al)=(aD s.dir f.aa).bS s.name i:=rfl;simp only;rw[e1,cu (by omega),ah,cd (by omega) (by omega),cu (by omega),ah];rfl
theorem mh (z:Ez f):gf f s=some (dV f s):=by
 have h1:=z.dy s.dir;have h2:=z.len;have h3:= @kK f ((aD s.dir f.aa).cn s.name);have h4:=z.Jn (s:=s) (y:=(aD s.dir f.aa).cn s.name) rfl s.ino;have hs:=eE z.ws.wf.sort ((aD s.dir f.aa).cn s.name);unfold gf dV;rw[z.ws.wf.get,ah,nK (rM z.ws.wf _) (by omega),ah];have e1:(⟨(aD s.dir f.aa).ino,(aD s.dir f.aa).kind,(aD s.dir f.aa).aI,(aD s.dir f.aa).data,(aD s.dir f.aa).parent,cN s.name (aD s.dir f.aa).entries⟩:al)=(aD s.dir f.aa).cn s.name:=rfl;simp only;rw[e1,cQ z.ws.wf.sort (by omega),ah,dh hs (by omega),ah];simp only;rw[cd (by omega) (by omega),eO,yS hs (by omega),cQ hs (by omega),ah,ah];by_cases h:(aD s.ino (f.set ((aD s.dir f.aa).cn s.name)).aa).aI - 1=0
 ·rw[aL (by simp [h]),if_pos h]
 ·rw[aW (by simp [h]),if_neg h];rfl
theorem lA (z:Ez f):eF f s=some (nY f s):=by
 have h1:=z.dy s.dir;have h2:=z.len;have h3:= @kK f ((aD s.dir f.aa).cn s.name);have h4:=z.aI s.ino;unfold eF nY;rw[z.ws.wf.uf,ah,z.ws.wf.uf,ah,jZ (by simp only;omega),ah];have e1:(⟨(aD s.dir f.aa).ino,(aD s.dir f.aa).kind,(aD s.dir f.aa).aI,(aD s.dir f.aa).data,(aD s.dir f.aa).parent,cN s.name (aD s.dir f.aa).entries⟩:al)=(aD s.dir f.aa).cn s.name:=rfl;simp only;rw[e1,cu (by omega),ah,cd (by omega) (by omega),eO,nu (by omega),cu (by omega),ah,ah];by_cases h:(aD s.ino f.aa).aI - 1=0
 ·rw[aL (by simp [h]),if_pos h]
 ·rw[aW (by simp [h]),if_neg h];rfl
theorem qc (hf:iJ f (aD s.dir f.aa) s.name) (hx:au i f.aa=some x) (hk:x.kind≠2):m7 f s i=gT f (aD s.dir f.aa) s.name x∧sk f s i=gT f (aD s.dir f.aa) s.name x∧x.ino≠(aD s.dir f.aa).ino:=by
 have hi:=(aP hx).2;have hne:x.ino≠(aD s.dir f.aa).ino:=fun e=>by
  have:=hf.hd;rw[←e,hi,hx] at this;have h2:=Option.some.inj this;exact hk (by rw[h2];exact hf.hk)
 have h1:aD i (f.set ((aD s.dir f.aa).bS s.name i)).aa=x:=by
  show aD i (bE _ f.aa)=x;rw[kU,if_neg (fun e=>hne (by rw[hi];exact e.symm)),aR hx]
 refine⟨?_, ?_,hne⟩
 ·unfold m7 gT
  rw[h1,hi]
 ·unfold sk gT
  rw[aR hx,hi]
theorem AP (h:Ent f (aD s.dir f.aa) s.name x e) (ht:Tree f) (hi:x.ino=s.ino):dV f s=dG f (aD s.dir f.aa) s.name x∧nY f s=dG f (aD s.dir f.aa) s.name x:=by
 have hne:=h.ne ht;have hx:au s.ino f.aa=some x:=by rw[←hi];exact h.hx
 have h1:aD s.ino (f.set ((aD s.dir f.aa).cn s.name)).aa=x:=by
  show aD s.ino (bE _ f.aa)=x;rw[kU,if_neg (fun e=>hne (by rw[hi];exact e.symm)),aR hx]
 constructor
 ·unfold dV dG
  rw[h1];by_cases hl:x.aI=1
  ·rw[if_pos (by omega),if_pos hl]
  ·rw[if_neg (by omega),if_neg hl]
 ·unfold nY dG
  rw[aR hx,←hi];by_cases hl:x.aI=1
  ·rw[if_pos (by omega),if_pos hl]
  ·rw[if_neg (by omega),if_neg hl]
theorem zJ (hx:au x.ino f.aa=some x) (hxd:x.ino≠d.ino):re f (gT f d nm x) d nm (x.cX (x.aI+1)):=
 ⟨fun k=>n8 hxd k,Or.inr ⟨x,hx,rfl,rfl,rfl,rfl⟩,hxd⟩
theorem qK {l:List Entry} (hs:gD l) {a:Entry} {n:Str} (h:cR n l=some a):fe ⟨n,a.ino⟩ (cN n l)=l:=by
 refine fF loS (nF loS (eA hs)) hs fun k=> ?_
 show cR k (fe _ (cN n l))=cR k l;rw[qI,iZ];by_cases hk:n=k
 ·rw[if_pos hk,←hk,h]
  have:=(ia h).2;rw[←this]
 ·rw[if_neg hk,if_neg hk]
theorem qA {l:List Entry} (hs:gD l) {n:Str} {i:Int} (h:cR n l=none):cN n (fe ⟨n,i⟩ l)=l:=by
 refine fF loS (eA (nF loS hs)) hs fun k=> ?_
 show cR k (cN n (fe _ l))=cR k l;rw[iZ,qI];by_cases hk:n=k
 ·rw[if_pos hk,←hk,h]
 ·rw[if_neg hk,if_neg hk]
theorem Aq (h:Ent f d nm x e) (ht:Tree f):re (dG f d nm x) f (d.cn nm) nm x∧iJ (dG f d nm x) (d.cn nm) nm:=by
 have hne:=h.ne ht;have hs:=(ht.eN h.hd).2.2.2.2;have hd2:(d.cn nm).bS nm x.ino=d:=by
  show al.mk d.ino d.kind d.aI d.data d.parent (fe ⟨nm,x.ino⟩ (cN nm d.entries))=d;rw[←h.hn,qK hs.1 h.he]
 refine⟨⟨fun k=> ?_, ?_,hne⟩,⟨?_,h.kind ht, ?_, ?_⟩⟩
 ·rw[hd2,dF hne]
  show _=if x.ino=k then some x else if d.ino=k then some d else _
  by_cases h1:x.ino=k
  ·rw[if_pos h1,←h1,h.hx]
  ·rw[if_neg h1,if_neg h1]
   by_cases h2:d.ino=k
   ·rw[if_pos h2,←h2,h.hd]
   ·rw[if_neg h2,if_neg h2]
 ·rw[dF hne,if_pos rfl]
  by_cases hl:x.aI=1
  ·rw[if_pos hl];exact Or.inl rfl
  ·rw[if_neg hl];exact Or.inr ⟨_,rfl,rfl,rfl,rfl,rfl⟩
 ·show au d.ino _=_
  rw[dF hne,if_neg hne,if_pos rfl]
 ·have h3:=((ic d.entries).1 hs.2).2 e h.mem.1
  rw[←h.mem.2];exact h3.1
 ·show cR nm (cN nm d.entries)=none
  rw[iZ,if_pos rfl]
theorem uB {a b:Fs} (h1:a.aA=b.aA) (h2:a.aH=b.aH) (h3:a.next=b.next) (ha:cG a.aa) (hb:cG b.aa) (h:∀k,au k a.aa=au k b.aa):a=b:=by
 have h4:a.aa=b.aa:=fF loI ha hb h;cases a;cases b;simp only at h1 h2 h3 h4;subst h1;subst h2;subst h3;subst h4;rfl
theorem zH (h:cG f.aa):cG (gT f d nm x).aa:=eE (eE h _) _
theorem zt (h:cG f.aa) (k:Int):cG (f.drop k).aa:=eA h
theorem qJ (h:cG f.aa):cG (dG f d nm x).aa:=by
 unfold dG;split
 ·exact zt (eE h _) _
 ·exact eE (eE h _) _
theorem ml:(dG f d nm x).aA=f.aA∧(dG f d nm x).aH=f.aH∧(dG f d nm x).next=f.next:=by
 unfold dG;split<;>exact⟨rfl,rfl,rfl⟩
theorem GS (ht:Tree f) (hf:iJ f d nm) (hx:au x.ino f.aa=some x) (hxd:x.ino≠d.ino) (hl:x.aI≠0):dG (gT f d nm x) (d.bS nm x.ino) nm (x.cX (x.aI+1))=f:=by
 have hs:=(ht.eN hf.hd).2.2.2.2.1;have hm:=ml (f:=gT f d nm x) (d:=d.bS nm x.ino) (x:=x.cX (x.aI+1)) (nm:=nm);refine uB hm.1 hm.2.1 hm.2.2 (qJ (zH ht.sort)) ht.sort fun k=> ?_
 rw[dF (show(x.cX (x.aI+1)).ino≠(d.bS nm x.ino).ino from hxd)];show(if x.ino=k then (if x.aI+1=1 then none else some ((x.cX (x.aI+1)).cX (x.aI+1 - 1))) else if d.ino=k then some ((d.bS nm x.ino).cn nm) else au k (gT f d nm x).aa)=_;by_cases h1:x.ino=k
 ·rw[if_pos h1,if_neg (by omega),←h1,hx]
  have:x.aI+1 - 1=x.aI:=by omega
  rw[this];rfl
 ·rw[if_neg h1,n8 hxd,if_neg h1]
  by_cases h2:d.ino=k
  ·rw[if_pos h2,←h2,hf.hd]
   show some (al.mk d.ino d.kind d.aI d.data d.parent (cN nm (fe ⟨nm,x.ino⟩ d.entries)))=some d;rw[qA hs hf.h0]
  ·rw[if_neg h2,if_neg h2]
theorem zD (ht:Tree f) {k:Int} (hx:au k f.aa=some x) (h1:k≠1):1≤x.aI:=by
 have h2:=aP hx;rw[(ht.eN hx).2.1];obtain⟨y,hy,e,he,hn⟩:=(ht.tH hx).named h1;exact xB hy he hn
theorem IG (ht:Tree f) {k:Int} (hx:au k f.aa=some x) (hk:x.kind≠2):k≠1:=fun e=>by
 obtain⟨r,hr,hr2,_⟩:=ht.root;rw[e,hr] at hx;cases hx;exact hk hr2
theorem uK {fol:Bool} (ht:Tree f) (w:WF f) (h:Gd f fol s) (hn:s.name≠ []) (hx:au s.ino f.aa=some x):∃e,Ent f (aD s.dir f.aa) s.name x e∧(aD s.dir f.aa).ino=s.dir∧x.ino=s.ino:=by
 have hi:=(aP hx).2;rcases h with⟨h1,_⟩ |⟨_,d,hd,hk,hino,_⟩
 ·exact absurd h1 hn
 ·have h2:=(aP hd).2
  rw[aR hd];have h0:cx s.name d.entries≠0:=fun e=>by rw[hino,e,w.zero] at hx;cases hx
  obtain⟨e,he,_,_,he2⟩:=qP h0;exact⟨e,⟨by rw[h2];exact hd,he,by rw[he2,←hino,hi],by rw[hi];exact hx⟩,h2,hi⟩
theorem Bd.gT {n:Nat} (hb:Bd n f) (ht:Tree f) (hf:iJ f d nm) (hx:au x.ino f.aa=some x):Bd (n+1) (gT f d nm x):=by
 have h1:Bd (n+1) (f.set (d.bS nm x.ino)):=hb.put (z:=d) ht.sort hf.hd (by omega) (by have:=pG ⟨nm,x.ino⟩ d.entries;have:=(hb.find hf.hd).1;show(fe ⟨nm,x.ino⟩ d.entries).length≤_;omega) (hb.find hf.hd).2;have h2:∃z,au (x.cX (x.aI+1)).ino (f.set (d.bS nm x.ino)).aa=some z:=by
  show∃z,au x.ino (bE _ f.aa)=some z;rw[bF];split
  ·exact⟨_,rfl⟩
  ·exact⟨_,hx⟩
 obtain⟨z,hz⟩:=h2;exact h1.put (eE ht.sort _) hz (Nat.le_refl _) (by have:=(hb.find hx).1;show x.entries.length≤_;omega) (hb.find hx).2
theorem Bd.dG {n:Nat} (hb:Bd n f) (ht:Tree f) (h:Ent f d nm x e):Bd n (dG f d nm x):=by
 have h1:Bd n (f.set (d.cn nm)):=hb.put (z:=d) ht.sort h.hd (Nat.le_refl _) (by have:=qH nm d.entries;have:=(hb.find h.hd).1;show(cN nm d.entries).length≤_;omega) (hb.find h.hd).2;unfold Go.Eng.dG;split
 ·exact h1.drop
 ·have h2:∃z,au (x.cX (x.aI - 1)).ino (f.set (d.cn nm)).aa=some z:=by
   show∃z,au x.ino (bE _ f.aa)=some z;rw[bF];split
   ·exact⟨_,rfl⟩
   ·exact⟨_,h.hx⟩
  obtain⟨z,hz⟩:=h2;exact h1.put (eE ht.sort _) hz (Nat.le_refl _) (hb.find h.hx).1 (hb.find h.hx).2
end
section
variable {f g:Fs} {base p q nm:Str} {s:ar} {i:Int} {d x:al} {e:Entry}
structure ava (f:Fs) (n:Nat) (base p q:Str) (s:ar) (x:al) (g:Fs):Prop where
 tr:Tree g
 bd:Bd (n+1) g
 sp:(jQ f base p false).2=0
 hx:au (jQ f base p false).1.ino f.aa=some x
 hxx:au x.ino f.aa=some x
 hk:x.kind≠2
 sq:jQ f base q false=(s,0)
 s0:s.ino=0
 gU:(dX q).gU=false
 free:iJ f (aD s.dir f.aa) s.name
 ino:(aD s.dir f.aa).ino=s.dir
 ne:x.ino≠(aD s.dir f.aa).ino
 eq:g=gT f (aD s.dir f.aa) s.name x
 more:re f g (aD s.dir f.aa) s.name (x.cX (x.aI+1))
 len:g.aa.length=f.aa.length
structure xJ (f:Fs) (n:Nat) (s:ar) (x:al) (e:Entry) (g:Fs):Prop where
 tr:Tree g
 bd:Bd n g
 ent:Ent f (aD s.dir f.aa) s.name x e
 H8:(aD s.dir f.aa).ino=s.dir
 Rh:x.ino=s.ino
 xe:x.entries= []
 eq:g=dG f (aD s.dir f.aa) s.name x
 more:re g f ((aD s.dir f.aa).cn s.name) s.name x
 free:iJ g ((aD s.dir f.aa).cn s.name) s.name
theorem taken {n:Nat} {fol:Bool} (ht:Tree f) (hb:Bd n f) (hn:n≤9000) (hg:Gd f fol s) (h1:s.name≠ []) (hx:au s.ino f.aa=some x) (hx0:x.entries= []):∃e,xJ f n s x e (dV f s)∧nY f s=dV f s:=by
 have ee:=iF ht hb (by omega);obtain⟨e,he,hd,hi⟩:=uK ht ee.wf hg h1 hx;obtain⟨q1,q2⟩:=AP he ht hi;obtain⟨m1,m2⟩:=Aq he ht;refine⟨e,⟨?_, ?_,he,hd,hi,hx0,q1, ?_, ?_⟩,by rw[q1,q2]⟩
 ·rw[q1];exact Gz ht he hx0
 ·rw[q1];exact hb.dG ht he
 ·rw[q1];exact m1
 ·rw[q1];exact m2
theorem Bd.inf {n:Nat} (hb:Bd n f) (hn:n≤10000):InF f:=⟨by have:=hb.len;omega,fun x hx=>by have:=hb.dy x hx;omega⟩
end
end Go.Eng
namespace Go.Eng
open Go
section
variable {f g:Fs}
theorem Way.last {l:List al} {i k:Int} {n:Nat} (h:Way l i k n):(n=0∧k=i)∨∃j m x e,n=m+1∧Way l i j m∧au j l=some x∧e∈x.entries∧e.ino=k:=by
 cases h with
 |here=>exact Or.inl ⟨rfl,rfl⟩
 |step h hf he=>exact Or.inr ⟨_,_,_,_,rfl,h,hf,he,rfl⟩
def mvB (un:Fs→ar→Fs) (f:Fs) (b:ar):Fs:=if b.ino≠0 then un f b else f
def mv3 (f:Fs) (a b:ar):Fs:=(f.set ((aD a.dir f.aa).cn a.name)).set ((aD b.dir (f.set ((aD a.dir f.aa).cn a.name)).aa).bS b.name a.ino)
def mvE (f:Fs) (a b:ar):Fs:=f.set (if (aD a.ino f.aa).kind=2 then (aD a.ino f.aa).fZ b.dir else aD a.ino f.aa)
def Ku (f:Fs) (a b:ar):Fs:=if (aD a.ino f.aa).kind=2 then f.set ((aD a.ino f.aa).fZ b.dir) else f
def jk (f:Fs) (a b:ar):Fs:=mvE (mv3 (mvB dV f b) a b) a b
def uP (f:Fs) (a b:ar):Fs:=Ku (mv3 (mvB nY f b) a b) a b
variable {d1 d2 x y:al} {a b:ar} {e e2:Entry} {nm:Str}
theorem Lw (ht:Tree f) (hm:Mv f (aD a.dir f.aa) a.name (aD b.dir f.aa) b.name x e) (ha:(aD a.dir f.aa).ino=a.dir) (hb:(aD b.dir f.aa).ino=b.dir) (hx:x.ino=a.ino):
 mvE (mv3 f a b) a b=mvF f (aD a.dir f.aa) a.name (aD b.dir f.aa) b.name x∧Ku (mv3 f a b) a b=mvF f (aD a.dir f.aa) a.name (aD b.dir f.aa) b.name x:=by
 have hd:aD b.dir (f.set ((aD a.dir f.aa).cn a.name)).aa=mvD (aD a.dir f.aa) (aD b.dir f.aa) a.name:=by
  show aD b.dir (bE _ f.aa)=_;rw[kU];unfold mvD;show(if (aD a.dir f.aa).ino=b.dir then _ else _)=_;rw[hb]
 have h3:mv3 f a b=(f.set ((aD a.dir f.aa).cn a.name)).set ((mvD (aD a.dir f.aa) (aD b.dir f.aa) a.name).bS b.name x.ino):=by
  unfold mv3;rw[hd,hx]
 have hne:=hm.ent.ne ht;have hne2:=hm.ne2;have hxf:au a.ino (mv3 f a b).aa=some x:=by
  rw[h3];show au a.ino (bE _ (bE _ f.aa))=some x;rw[bF,bF];show(if (mvD _ _ _).ino=a.ino then _ else if (aD a.dir f.aa).ino=a.ino then _ else _)=_;rw[od,if_neg (fun h=>hne2 (by rw[hx];exact h.symm)),if_neg (fun h=>hne (by rw[hx];exact h.symm)),←hx];exact hm.ent.hx
 have hs:cG (mv3 f a b).aa:=by rw[h3];exact eE (eE ht.sort _) _
 unfold mvE Ku mvF;rw[aR hxf,hb,←h3];by_cases hk:x.kind=2
 ·simp only[if_pos hk]
  exact⟨trivial,trivial⟩
 ·simp only[if_neg hk]
  exact⟨C3 hs (by rw[hx];exact hxf),trivial⟩
theorem Way.mono {l m:List al} (h:∀k x,au k m=some x→∀e∈x.entries,∃y,au k l=some y∧e∈y.entries) {i k:Int} {n:Nat} (hw:Way m i k n):Way l i k n:=by
 induction hw with
 |here=>exact .here
 |step hw hf he ih=>
  obtain⟨y,hy,he'⟩:=h _ _ hf _ he;exact .step ih hy he'
theorem J_ (h:Ent f d1 nm x e) (ht:Tree f):∀k z,au k (dG f d1 nm x).aa=some z→∀e'∈z.entries,∃y,au k f.aa=some y∧e'∈y.entries:=by
 intro k z hz e' he';rw[dF (h.ne ht)] at hz;by_cases h1:x.ino=k
 ·rw[if_pos h1] at hz
  by_cases hl:x.aI=1
  ·rw[if_pos hl] at hz;cases hz
  ·rw[if_neg hl] at hz;cases hz
   exact⟨x,by rw[←h1];exact h.hx,he'⟩
 ·rw[if_neg h1] at hz
  by_cases h2:d1.ino=k
  ·rw[if_pos h2] at hz;cases hz
   exact⟨d1,by rw[←h2];exact h.hd,(uI.1 he').1⟩
  ·rw[if_neg h2] at hz
   exact⟨z,hz,he'⟩
end
end Go.Eng
namespace Go.Eng
open Go
section
variable {f g:Fs} {d1 d2 x y:al} {a b s t:ar} {e e2:Entry}
structure wC (f:Fs) (a b:ar) (x:al):Prop where
 ga:Gd f false a
 an:a.name≠ []
 hx:au a.ino f.aa=some x
 gb:Gd f false b
 bn:b.name≠ []
 ne:a.ino≠b.ino
 out:x.kind=2→¬∃n,Way f.aa a.ino b.dir n
 emp:∀y,au b.ino f.aa=some y→y.entries= []
 may:b.ino=0→eL b.name=true
structure Ox (f:Fs) (a b:ar) (x:al) (n:Nat) (f1:Fs) (e:Entry):Prop where
 tr:Tree f1
 bd:Bd n f1
 mv:Mv f1 (aD a.dir f1.aa) a.name (aD b.dir f1.aa) b.name x e
 ha:(aD a.dir f1.aa).ino=a.dir
 hb:(aD b.dir f1.aa).ino=b.dir
 hx:x.ino=a.ino
 sub:∀k z,au k f1.aa=some z→∀e∈z.entries,∃y,au k f.aa=some y∧e∈y.entries
 find:∀k z,au k f.aa=some z→k≠b.ino→∃z',au k f1.aa=some z'∧z'.kind=z.kind∧∀n,(k=b.dir∧n=b.name)∨cx n z'.entries=cx n z.entries
 ent:∀k,k≠b.dir→k≠b.ino→(au k f1.aa).map al.entries=(au k f.aa).map al.entries
 len:f1.aa.length≤f.aa.length∧f.aa.length≤f1.aa.length+1
 gone:au b.ino f1.aa=none∨(au b.ino f1.aa).map al.entries=some []
 awd:au b.ino f1.aa=none→b.ino=0∨fc b.ino f.aa≤1
theorem Bc {fol:Bool} (h:Gd f fol s) (hn:s.name≠ []):∃d,au s.dir f.aa=some d∧d.kind=2∧s.ino=cx s.name d.entries∧aD s.dir f.aa=d∧d.ino=s.dir:=by
 rcases h with⟨h,_⟩ |⟨_,d,h1,h2,h3,_⟩
 ·exact absurd h hn
 ·exact⟨d,h1,h2,h3,aR h1,(aP h1).2⟩
theorem Sw {n:Nat} (ht:Tree f) (hb:Bd n f) (hn:n≤9000) (h:wC f a b x):∃e,Ox f a b x n (mvB dV f b) e∧mvB nY f b=mvB dV f b:=by
 have ew:=iF ht hb (by omega);obtain⟨d1,a1,a2,a3,a4,a5⟩:=Bc h.ga h.an;obtain⟨d2,b1,b2,b3,b4,b5⟩:=Bc h.gb h.bn;obtain⟨e,he,_,hxi⟩:=uK ht ew.wf h.ga h.an h.hx;rw[a4] at he;have hx0:x.kind≠2→x.entries= [] :=fun hk=>ht.A6 h.hx hk
 have hnw:∀l,(∀z,au a.ino l=some z→z=x)→x.kind≠2→¬∃n,Way l a.ino b.dir n:=by
  intro l hl hk ⟨m,hm⟩;rcases hm.head with⟨_,h1⟩ |⟨_,z,e',_,hz,he',_⟩
  ·rw[h1,h.hx] at b1;cases b1;exact hk b2
  ·rw[hl z hz,hx0 hk] at he';cases he'
 unfold mvB;by_cases h0:b.ino=0
 ·rw[if_neg (fun h=>h h0),if_neg (fun h=>h h0)]
  obtain⟨hf,hfb⟩:=qY ht ew.wf h.gb h0 (h.may h0);refine⟨e,⟨ht,hb,⟨by rw[a4];exact he,hf, ?_⟩,by rw[a4,a5],hfb,hxi,fun k z hz e he=>⟨z,hz,he⟩,fun k z hz _=>⟨z,hz,rfl,fun _=>Or.inr rfl⟩,fun k _ _=>rfl,⟨Nat.le_refl _,by omega⟩,Or.inl (by rw[h0];exact ew.wf.zero),fun _=>Or.inl h0⟩,rfl⟩;rw[hxi,b4,b5];by_cases hk:x.kind=2
  ·exact h.out hk
  ·exact hnw f.aa (fun z hz=>by rw[h.hx] at hz;exact(Option.some.inj hz).symm) hk
 ·rw[if_pos h0,if_pos h0]
  have hy:∃y,au b.ino f.aa=some y:=by
   have h1:=mg ew.wf (aP b1).1 b.name;rw[←b3] at h1;exact Option.isSome_iff_exists.1 (h1.resolve_left h0)
  obtain⟨y,hy⟩:=hy;have hy0:=h.emp y hy;obtain⟨e2,t,t2⟩:=taken ht hb hn h.gb h.bn hy hy0;refine⟨e, ?_,t2⟩;have teq:=t.eq;rw[b4] at teq;have te:=t.ent;rw[b4] at te;have hyi:=t.Rh;have hyne:=te.ne ht;have hfind:=fun k=>dF (f:=f) (d:=d2) (nm:=b.name) (x:=y) hyne k
  rw[←teq] at hfind;have hnm:¬(a.dir=b.dir∧a.name=b.name):=fun⟨e1,e3⟩=>by
   rw[e1,b1] at a1;cases a1;exact h.ne (by rw[a3,b3,e3])
  have hya:y.ino≠a.dir:=fun e1=>by
   have h1:=hy;rw[←hyi,e1,a1] at h1;cases h1;have:=he.mem.1;rw[hy0] at this;cases this
  have hxy:y.ino≠a.ino:=fun e1=>h.ne (by rw[←e1,hyi])
  have hxd:d2.ino≠a.ino:=fun e1=>by
   have h1:=b1;rw[←b5,e1,h.hx] at h1;cases h1;exact h.out b2 ⟨0,by rw[←b5,e1];exact .here⟩
  have hg1:au a.dir (dV f b).aa=some (if d2.ino=a.dir then d2.cn b.name else d1):=by
   rw[hfind,if_neg hya];by_cases h1:d2.ino=a.dir
   ·rw[if_pos h1,if_pos h1]
   ·rw[if_neg h1,if_neg h1];exact a1
  have hg2:au b.dir (dV f b).aa=some (d2.cn b.name):=by
   rw[hfind,if_neg (by rw[←b5];exact hyne),if_pos b5]
  have hgx:au a.ino (dV f b).aa=some x:=by
   rw[hfind,if_neg hxy,if_neg hxd];exact h.hx
  have hent:Ent (dV f b) (aD a.dir (dV f b).aa) a.name x e:=by
   rw[aR hg1];by_cases h1:d2.ino=a.dir
   ·rw[if_pos h1] at hg1⊢
    have h2:d1=d2:=by
     have h3:=a1;rw[←h1,b5,b1] at h3;exact(Option.some.inj h3).symm
    subst h2;refine⟨?_, ?_,he.hn,by rw[hxi];exact hgx⟩
    ·show au d1.ino _=_
     rw[h1];exact hg1
    ·show cR a.name (cN b.name d1.entries)=_
     rw[iZ,if_neg (fun e3=>hnm ⟨by rw[←h1,b5],e3.symm⟩)];exact he.he
   ·rw[if_neg h1] at hg1⊢
    exact⟨by rw[a5];exact hg1,he.he,he.hn,by rw[hxi];exact hgx⟩
  have hfree:iJ (dV f b) (aD b.dir (dV f b).aa) b.name:=by
   rw[aR hg2];have:=t.free;rw[b4] at this;exact this
  have hsub:∀k z,au k (dV f b).aa=some z→∀e∈z.entries,∃y,au k f.aa=some y∧e∈y.entries:=by
   rw[teq];exact J_ te ht
  have hb2:(aD b.dir (dV f b).aa).ino=b.dir:=by rw[aR hg2];exact b5
  have hsum:=w6 ht te hy0;rw[←teq] at hsum;refine⟨t.tr,t.bd,⟨hent,hfree, ?_⟩, ?_,hb2,hxi,hsub,fun k z hz hk=> ?_,fun k h1 h2=> ?_, ?_, ?_,fun h1=> ?_⟩
  ·rw[hxi,hb2]
   by_cases hk:x.kind=2
   ·exact fun⟨m,hm⟩=>h.out hk ⟨m,Way.mono hsub hm⟩
   ·exact hnw _ (fun z hz=>by rw[hgx] at hz;exact(Option.some.inj hz).symm) hk
  ·rw[aR hg1]
   by_cases h1:d2.ino=a.dir
   ·rw[if_pos h1];exact h1
   ·rw[if_neg h1];exact a5
  ·rw[hfind,if_neg (by rw[hyi];exact fun e=>hk e.symm)]
   by_cases h1:d2.ino=k
   ·rw[if_pos h1]
    have h2:=hz;rw[←h1,b5,b1] at h2;cases h2;refine⟨_,rfl,rfl,fun n=> ?_⟩;by_cases hn':b.name=n
    ·exact Or.inl ⟨by rw[←h1,b5],hn'.symm⟩
    ·right
     show cx n (cN b.name d2.entries)=_;rw[kf,if_neg hn']
   ·rw[if_neg h1]
    exact⟨z,hz,rfl,fun _=>Or.inr rfl⟩
  ·rw[hfind,if_neg (by rw[hyi];exact fun e=>h2 e.symm),if_neg (by rw[b5];exact fun e=>h1 e.symm)]
  ·have:=hsum.1
   split at this<;>omega
  ·rw[hfind,if_pos hyi]
   by_cases hl:y.aI=1
   ·rw[if_pos hl];exact Or.inl rfl
   ·rw[if_neg hl];right
    show some y.entries=_;rw[hy0]
  ·right
   rw[hfind,if_pos hyi] at h1;by_cases hl:y.aI=1
   ·have:=(ht.eN hy).2.1
    omega
   ·rw[if_neg hl] at h1;cases h1
theorem Bd.mvF {n:Nat} {n1 n2:Str} (hb:Bd n f) (ht:Tree f) (h:Mv f d1 n1 d2 n2 x e):Bd (n+1) (mvF f d1 n1 d2 n2 x):=by
 have hs:=(Gl h ht).1;have hd1:=hb.find h.ent.hd;have hd2:=hb.find h.free.hd;have hx:=hb.find h.ent.hx;have hl:=hb.len;have hsort:=B2 (d1:=d1) (d2:=d2) (n1:=n1) (n2:=n2) (x:=x) ht;have c1:=qH n1 d1.entries;have key:∀z∈(Go.Eng.mvF f d1 n1 d2 n2 x).aa,z.entries.length≤n+1∧z.data.length≤10000000:=by
  intro z hz;have hz':=eM hsort hz;rw[yE h ht] at hz';by_cases h1:x.ino=z.ino
  ·rw[if_pos h1] at hz'
   have hz2:=Option.some.inj hz';rw[←hz2];by_cases hk:x.kind=2
   ·rw[if_pos hk]
    exact⟨by show x.entries.length≤_;omega,hx.2⟩
   ·rw[if_neg hk];exact⟨by omega,hx.2⟩
  ·rw[if_neg h1] at hz'
   by_cases h2:d2.ino=z.ino
   ·rw[if_pos h2] at hz'
    have hz2:=Option.some.inj hz';rw[←hz2];have c2:=pG ⟨n2,x.ino⟩ (mvD d1 d2 n1).entries;show(fe ⟨n2,x.ino⟩ (mvD d1 d2 n1).entries).length≤_∧(mvD d1 d2 n1).data.length≤_;unfold mvD at c2⊢;by_cases h3:d1.ino=d2.ino
    ·rw[if_pos h3] at c2⊢
     have c3:(d1.cn n1).entries.length≤d1.entries.length:=c1;exact⟨by omega,hd1.2⟩
    ·rw[if_neg h3] at c2⊢
     exact⟨by omega,hd2.2⟩
   ·rw[if_neg h2] at hz'
    by_cases h3:d1.ino=z.ino
    ·rw[if_pos h3] at hz'
     have hz2:=Option.some.inj hz';rw[←hz2];exact⟨by show(cN n1 d1.entries).length≤_;omega,hd1.2⟩
    ·rw[if_neg h3] at hz'
     have:=hb.find hz';exact⟨by omega,this.2⟩
 exact⟨by omega,fun z hz=>(key z hz).1,fun z hz=>(key z hz).2⟩
structure ji (f:Fs) (a b:ar) (x:al) (n:Nat) (f1:Fs) (e:Entry) (g:Fs):Prop where
 pre:Ox f a b x n f1 e
 tr:Tree g
 bd:Bd (n+1) g
 eq:g=mvF f1 (aD a.dir f1.aa) a.name (aD b.dir f1.aa) b.name x
theorem tN {n:Nat} (ht:Tree f) (hb:Bd n f) (hn:n≤9000) (h:wC f a b x):∃e,ji f a b x n (mvB dV f b) e (jk f a b)∧uP f a b=jk f a b:=by
 obtain⟨e,p,p2⟩:=Sw ht hb hn h;obtain⟨q1,q2⟩:=Lw p.tr p.mv p.ha p.hb p.hx;have h1:jk f a b=mvF (mvB dV f b) (aD a.dir (mvB dV f b).aa) a.name (aD b.dir (mvB dV f b).aa) b.name x:=q1;have h2:uP f a b=jk f a b:=by
  unfold uP;rw[p2,q2,←q1];rfl
 refine⟨e,⟨p, ?_, ?_,h1⟩,h2⟩
 ·rw[h1];exact X6 p.tr p.mv
 ·rw[h1];exact p.bd.mvF p.tr p.mv
end
end Go.Eng
namespace Go.Eng
open Go
section
variable {f g f1:Fs} {d1 d2 x y:al} {a b s t:ar} {e:Entry} {n:Nat}
theorem CB {f:Fs} (w:WF f):∀{ns:List Str} {s t:ar},cB f.aa ns s=(t,0)→t.ino≠0→Way f.aa s.ino t.ino ns.length∧s.ino≠0
 | [],s,t,h,h0=>by
  simp only[cB,Prod.mk.injEq] at h;obtain⟨rfl,_⟩:=h;exact⟨.here,h0⟩
 |m::ns,s,t,h,h0=>by
  cases hf:au s.ino f.aa with
  |none=>rw[gM hf] at h;simp at h
  |some d=>
   by_cases hk:d.kind=2
   ·rw[eD hf hk] at h
    obtain⟨h1,h2⟩:=CB w h h0;obtain⟨e,he,_,he2,_⟩:=zy h2;refine⟨?_,fun e=>by rw[e,w.zero] at hf;cases hf⟩;have h3:Way f.aa e.ino t.ino ns.length:=by rw[he2];exact h1
    exact Way.first hf he h3
   ·rw[gK hf hk] at h;simp at h
theorem ug {f:Fs} {l:List al} (w:WF f) {D X B:Int} (P:Int→Str→Prop)
 (hg:∀k z,au k f.aa=some z→z.kind=2→k≠B→∃z',au k l=some z'∧z'.kind=2∧z'.ino=z.ino∧∀m,¬P k m→cx m z'.entries=cx m z.entries)
 (hp:∀k z m,au k f.aa=some z→P k m→cx m z.entries=X∨cx m z.entries=B)
 (hX:¬∃n,Way f.aa X D n) (hB:D≠B) (hBe:∀z,au B f.aa=some z→z.entries= []) (hD:D≠0):
 ∀{ns:List Str} {s t:ar},cB f.aa ns s=(t,0)→t.ino=D→(ns≠ [] →s.ino≠B)→cB l ns s=(t,0)
 | [],s,t,h,ht,_=>by
  simp only[cB,Prod.mk.injEq] at h⊢;exact h
 |m::ns,s,t,h,ht,hs=>by
  have hs:=hs (by simp);cases hf:au s.ino f.aa with
  |none=>rw[gM hf] at h;simp at h
  |some d=>
   by_cases hk:d.kind=2
   ·rw[eD hf hk] at h
    obtain⟨z',hz,hzk,hzi,hze⟩:=hg _ d hf hk hs;have hw:=CB w h (by rw[ht];exact hD);rw[ht] at hw;have hnb:cx m d.entries≠B:=fun e=>by
     have hw1:Way f.aa (cx m d.entries) D ns.length:=hw.1;rw[e] at hw1;rcases hw1.head with⟨_,h1⟩ |⟨_,z,e',_,hz,he',_⟩
     ·exact hB h1
     ·rw[hBe z hz] at he';cases he'
    have hnp:¬P s.ino m:=fun hpp=>by
     rcases hp _ d m hf hpp with h1|h1
     ·have hw1:Way f.aa (cx m d.entries) D ns.length:=hw.1
      rw[h1] at hw1;exact hX ⟨_,hw1⟩
     ·exact hnb h1
    rw[eD hz hzk,hzi,hze m hnp];exact ug w P hg hp hX hB hBe hD h ht (fun _=>hnb)
   ·rw[gK hf hk] at h;simp at h
theorem ji.find (m:ji f a b x n f1 e g) (k:Int):au k g.aa=if x.ino=k then some (if x.kind=2 then x.fZ b.dir else x) else if b.dir=k then some ((mvD (aD a.dir f1.aa) (aD b.dir f1.aa) a.name).bS b.name x.ino) else if a.dir=k then some ((aD a.dir f1.aa).cn a.name) else au k f1.aa:=by
 rw[m.eq,yE m.pre.mv m.pre.tr,m.pre.ha,m.pre.hb]
theorem ji.xne (m:ji f a b x n f1 e g):x.ino≠b.dir∧x.ino≠a.dir:=by
 refine⟨?_, ?_⟩
 ·have:=m.pre.mv.ne2;rwa[m.pre.hb] at this
 ·have:=m.pre.mv.ent.ne m.pre.tr;rwa[m.pre.ha] at this
structure rY (f:Fs) (a b:ar) (x d1 d2:al):Prop where
 a1:au a.dir f.aa=some d1
 a2:d1.kind=2
 a3:a.ino=cx a.name d1.entries
 b1:au b.dir f.aa=some d2
 b2:d2.kind=2
 b3:b.ino=cx b.name d2.entries
 xi:x.ino=a.ino
 diff:¬(a.dir=b.dir∧a.name=b.name)
 ab:a.dir≠b.ino
 bb:b.dir≠b.ino
 xb:¬∃n,Way f.aa a.ino b.dir n
 xa:¬∃n,Way f.aa a.ino a.dir n
theorem places (ht:Tree f) (w:WF f) (h:wC f a b x):∃d1 d2,rY f a b x d1 d2:=by
 obtain⟨d1,a1,a2,a3,a4,a5⟩:=Bc h.ga h.an;obtain⟨d2,b1,b2,b3,b4,b5⟩:=Bc h.gb h.bn;obtain⟨e,he,_,hxi⟩:=uK ht w h.ga h.an h.hx;rw[a4] at he;have hab:a.dir≠b.ino:=fun e1=>by
  have:=h.emp d1 (by rw[←e1];exact a1);have h2:=he.mem.1;rw[this] at h2;cases h2
 have hbb:b.dir≠b.ino:=fun e1=>by
  have h0:b.ino≠0:=fun e=>by rw[e1,e,w.zero] at b1;cases b1
  obtain⟨e',he',_,_,hn'⟩:=qP (by rw[←b3];exact h0);have:=h.emp d2 (by rw[←e1];exact b1);have h2:=(ia he').1;rw[this] at h2;cases h2
 refine⟨d1,d2,a1,a2,a3,b1,b2,b3,hxi,fun⟨e1,e2⟩=> ?_,hab,hbb, ?_, ?_⟩
 ·rw[e1,b1] at a1;cases a1
  exact h.ne (by rw[a3,b3,e2])
 ·by_cases hk:x.kind=2
  ·exact h.out hk
  ·intro⟨m,hm⟩
   rcases hm.head with⟨_,h1⟩ |⟨_,z,e',_,hz,he',_⟩
   ·rw[h1,h.hx] at b1;cases b1;exact hk b2
   ·rw[h.hx] at hz;cases hz
    rw[ht.A6 h.hx hk] at he';cases he'
 ·obtain⟨k,hk⟩:=(ht.tH a1).way
  intro⟨m,hm⟩;refine ht.BZ hk a1 he.mem.1 (n:=m) ?_;rw[he.hn,hxi];exact hm
theorem ji.AK (w:WF f) (m:ji f a b x n f1 e g) (p:rY f a b x d1 d2) (h:wC f a b x) {D:Int} (hD0:D≠0) (hD:¬∃n,Way f.aa a.ino D n) (hB:D≠b.ino) {ns:List Str} (hr:(au 1 f.aa).isSome=true) (hgo:cB f.aa ns dm=(t,0)) (ht:t.ino=D) (hb1:b.ino≠1):cB g.aa ns dm=(t,0):=by
 refine ug (D:=D) (X:=a.ino) (B:=b.ino) w (fun k n=>(k=a.dir∧n=a.name)∨(k=b.dir∧n=b.name)) (fun k z hz hk hkb=> ?_) (fun k z q hz hp=> ?_) hD hB h.emp hD0 hgo ht (fun _=>fun e=>hb1 e.symm)
 ·obtain⟨z',hz',hzk,hze⟩:=m.pre.find k z hz hkb
  have hzi:z'.ino=z.ino:=by rw[(aP hz').2,(aP hz).2]
  rw[m.find];by_cases c1:x.ino=k
  ·rw[if_pos c1]
   have hzx:z=x:=by
    rw[←c1,p.xi,h.hx] at hz;exact(Option.some.inj hz).symm
   subst hzx;refine⟨_,rfl, ?_, ?_,fun q _=> ?_⟩<;>(rw[if_pos hk];first|exact hk|rfl)
  ·rw[if_neg c1]
   by_cases c2:b.dir=k
   ·rw[if_pos c2]
    have hzd:aD b.dir f1.aa=z':=aR (by rw[c2];exact hz');refine⟨_,rfl, ?_, ?_,fun q hq=> ?_⟩
    ·show(mvD _ _ _).kind=2
     unfold mvD;split
     ·rename_i hd
      rw[m.pre.ha,m.pre.hb] at hd;show(aD a.dir f1.aa).kind=2;rw[hd,hzd,hzk];exact hk
     ·rw[hzd,hzk];exact hk
    ·show(mvD _ _ _).ino=z.ino
     rw[od,m.pre.hb,c2,(aP hz).2]
    ·show cx q (fe ⟨b.name,x.ino⟩ (mvD _ _ _).entries)=_
     rw[pP];have hq1:¬b.name=q:=fun e=>hq (Or.inr ⟨c2.symm,e.symm⟩)
     rw[if_neg hq1];have hzq:cx q z'.entries=cx q z.entries:=(hze q).resolve_left (fun e=>hq1 e.2.symm);unfold mvD;split
     ·rename_i hd
      rw[m.pre.ha,m.pre.hb] at hd;show cx q (cN a.name (aD a.dir f1.aa).entries)=_;rw[kf,if_neg (fun e=>hq (Or.inl ⟨by rw[←c2,hd],e.symm⟩)),hd,hzd,hzq]
     ·rw[hzd,hzq]
   ·rw[if_neg c2]
    by_cases c3:a.dir=k
    ·rw[if_pos c3]
     have hzd:aD a.dir f1.aa=z':=aR (by rw[c3];exact hz');refine⟨_,rfl, ?_, ?_,fun q hq=> ?_⟩
     ·show(aD a.dir f1.aa).kind=2
      rw[hzd,hzk];exact hk
     ·show(aD a.dir f1.aa).ino=_
      rw[hzd,hzi]
     ·show cx q (cN a.name (aD a.dir f1.aa).entries)=_
      rw[kf,if_neg (fun e=>hq (Or.inl ⟨c3.symm,e.symm⟩)),hzd];exact(hze q).resolve_left (fun e=>c2 e.1.symm)
    ·rw[if_neg c3]
     exact⟨z',hz',by rw[hzk];exact hk,hzi,fun q hq=>(hze q).resolve_left (fun e=>c2 e.1.symm)⟩
 ·rcases hp with⟨rfl,rfl⟩ |⟨rfl,rfl⟩
  ·rw[p.a1] at hz;cases hz;exact Or.inl p.a3.symm
  ·rw[p.b1] at hz;cases hz;exact Or.inr p.b3.symm
theorem ji.at (ht:Tree f) (w:WF f) (m:ji f a b x n f1 e g) (p:rY f a b x d1 d2) (h:wC f a b x) {ns:List Str} (hq:cB f.aa ns dm=(b,0)) (hns:ns≠ []):cB g.aa ns dm=(⟨b.dir,b.name,a.ino⟩,0):=by
 have hb1:b.ino≠1:=fun e=>by
  obtain⟨e0,he0,_,_,hn0⟩:=qP (l:=d2.entries) (n:=b.name) (by rw[←p.b3,e];decide);exact ht.qd p.b1 (ia he0).1 (by rw[hn0,←p.b3,e])
 have hd0:b.dir≠0:=fun e=>by have:=p.b1;rw[e,w.zero] at this;cases this
 obtain⟨r,hr,_⟩:=ht.root;have hspl:ns=ns.dropLast++[ns.getLast hns]:=(List.dropLast_concat_getLast hns).symm;rw[hspl] at hq⊢;rw[p_] at hq⊢;by_cases h0:(cB f.aa ns.dropLast dm).2=0
 ·rw[if_pos h0] at hq
  have hpre:cB f.aa ns.dropLast dm=((cB f.aa ns.dropLast dm).1,0):=by rw[←h0]
  generalize (cB f.aa ns.dropLast dm).1=s at*;cases hf:au s.ino f.aa with
  |none=>rw[gM hf] at hq;simp at hq
  |some d=>
   by_cases hk:d.kind=2
   ·rw[eD hf hk] at hq
    simp only[cB,Prod.mk.injEq] at hq;have hbe:=hq.1;have hs:s.ino=b.dir:=by rw[←hbe];exact(aP hf).2.symm
    have hgo:=m.AK w p h (D:=b.dir) hd0 p.xb p.bb (by rw[hr];rfl) hpre hs hb1;rw[hgo,if_pos rfl];have hgd:au s.ino g.aa=some ((mvD (aD a.dir f1.aa) (aD b.dir f1.aa) a.name).bS b.name x.ino):=by
     rw[m.find,if_neg (by rw[hs];exact m.xne.1),if_pos hs.symm]
    have hkk:((mvD (aD a.dir f1.aa) (aD b.dir f1.aa) a.name).bS b.name x.ino).kind=2:=m.pre.mv.dk m.pre.tr;rw[eD hgd hkk];have hnm:ns.getLast hns=b.name:=by rw[←hbe]
    simp only[cB,Prod.mk.injEq,and_true];have hi:((mvD (aD a.dir f1.aa) (aD b.dir f1.aa) a.name).bS b.name x.ino).ino=b.dir:=by
     show(mvD _ _ _).ino=_;rw[od];exact m.pre.hb
    have he:cx (ns.getLast hns) ((mvD (aD a.dir f1.aa) (aD b.dir f1.aa) a.name).bS b.name x.ino).entries=a.ino:=by
     show cx _ (fe ⟨b.name,x.ino⟩ _)=_;rw[pP,if_pos hnm.symm];exact p.xi
    rw[hi,he,hnm]
   ·rw[gK hf hk] at hq;simp at hq
 ·rw[if_neg h0] at hq
  simp only[Prod.mk.injEq] at hq;exact absurd hq.2 h0
theorem ji.gone (ht:Tree f) (w:WF f) (m:ji f a b x n f1 e g) (p:rY f a b x d1 d2) (h:wC f a b x) {ns:List Str} (hq:cB f.aa ns dm=(a,0)) (hns:ns≠ []):cB g.aa ns dm=(⟨a.dir,a.name,0⟩,0):=by
 have hb1:b.ino≠1:=fun e=>by
  obtain⟨e0,he0,_,_,hn0⟩:=qP (l:=d2.entries) (n:=b.name) (by rw[←p.b3,e];decide);exact ht.qd p.b1 (ia he0).1 (by rw[hn0,←p.b3,e])
 have hd0:a.dir≠0:=fun e=>by have:=p.a1;rw[e,w.zero] at this;cases this
 obtain⟨r,hr,_⟩:=ht.root;have hspl:ns=ns.dropLast++[ns.getLast hns]:=(List.dropLast_concat_getLast hns).symm;rw[hspl] at hq⊢;rw[p_] at hq⊢;by_cases h0:(cB f.aa ns.dropLast dm).2=0
 ·rw[if_pos h0] at hq
  have hpre:cB f.aa ns.dropLast dm=((cB f.aa ns.dropLast dm).1,0):=by rw[←h0]
  generalize (cB f.aa ns.dropLast dm).1=s at*;cases hf:au s.ino f.aa with
  |none=>rw[gM hf] at hq;simp at hq
  |some d=>
   by_cases hk:d.kind=2
   ·rw[eD hf hk] at hq
    simp only[cB,Prod.mk.injEq] at hq;have hbe:=hq.1;have hs:s.ino=a.dir:=by rw[←hbe];exact(aP hf).2.symm
    have hgo:=m.AK w p h (D:=a.dir) hd0 p.xa p.ab (by rw[hr];rfl) hpre hs hb1;rw[hgo,if_pos rfl];have hnm:ns.getLast hns=a.name:=by rw[←hbe]
    by_cases hab:b.dir=a.dir
    ·have hgd:au s.ino g.aa=some ((mvD (aD a.dir f1.aa) (aD b.dir f1.aa) a.name).bS b.name x.ino):=by
      rw[m.find,if_neg (by rw[hs];exact m.xne.2),if_pos (by rw[hs];exact hab)]
     have hkk:((mvD (aD a.dir f1.aa) (aD b.dir f1.aa) a.name).bS b.name x.ino).kind=2:=m.pre.mv.dk m.pre.tr;rw[eD hgd hkk];simp only[cB,Prod.mk.injEq,and_true];have hi:((mvD (aD a.dir f1.aa) (aD b.dir f1.aa) a.name).bS b.name x.ino).ino=a.dir:=by
      show(mvD _ _ _).ino=_;rw[od,m.pre.hb,hab]
     have he:cx (ns.getLast hns) ((mvD (aD a.dir f1.aa) (aD b.dir f1.aa) a.name).bS b.name x.ino).entries=0:=by
      show cx _ (fe ⟨b.name,x.ino⟩ (mvD _ _ _).entries)=_;rw[pP,if_neg (by rw[hnm];exact fun e=>p.diff ⟨hab.symm,e.symm⟩)];unfold mvD;rw[if_pos (by rw[m.pre.ha,m.pre.hb,hab])];show cx _ (cN a.name _)=0;rw[kf,if_pos hnm.symm]
     rw[hi,he,hnm]
    ·have hgd:au s.ino g.aa=some ((aD a.dir f1.aa).cn a.name):=by
      rw[m.find,if_neg (by rw[hs];exact m.xne.2),if_neg (by rw[hs];exact hab),if_pos hs.symm]
     have hkk:((aD a.dir f1.aa).cn a.name).kind=2:=m.pre.mv.ent.kind m.pre.tr;rw[eD hgd hkk];simp only[cB,Prod.mk.injEq,and_true];have hi:((aD a.dir f1.aa).cn a.name).ino=a.dir:=m.pre.ha;have he:cx (ns.getLast hns) ((aD a.dir f1.aa).cn a.name).entries=0:=by
      show cx _ (cN a.name _)=0;rw[kf,if_pos hnm.symm]
     rw[hi,he,hnm]
   ·rw[gK hf hk] at hq;simp at hq
 ·rw[if_neg h0] at hq
  simp only[Prod.mk.injEq] at hq;exact absurd hq.2 h0
end
section
variable {f g:Fs} {base p q:Str} {a b:ar} {x:al} {sl:Bool} {ins:Fs→Int→Int→Bool} {mv:Fs→ar→ar→Fs}
structure abr (f:Fs) (n:Nat) (base p q:Str) (a b:ar) (x:al) (e:Entry) (g:Fs):Prop where
 sp:jQ f base p false=(a,0)
 sq:jQ f base q false=(b,0)
 ok:wC f a b x
 mv:ji f a b x n (mvB dV f b) e g
end
structure Sr (n:Nat) (f:Fs):Prop where
 sort:cG f.aa
 es:∀x∈f.aa,gD x.entries
 len:f.aa.length≤n
 en:∀x∈f.aa,x.entries.length≤n
section
variable {f g:Fs} {base p q:Str} {a b s:ar} {x y:al} {n:Nat} {i:Int}
theorem Ez.sr (z:Ez f):Sr 10000 f:=⟨z.ws.wf.sort,fun x hx=>z.ws.wf.IF hx,z.lil.len,z.lil.dy⟩
theorem Sr.get (h:Sr n f) (k:Int):gD (aD k f.aa).entries∧(aD k f.aa).entries.length≤n:=by
 cases hf:au k f.aa with
 |none=>rw[dQ hf];exact⟨List.Pairwise.nil,by simp [jP]⟩
 |some x=>rw[aR hf];exact⟨h.es x (aP hf).1,h.en x (aP hf).1⟩
theorem Sr.set (h:Sr n f) (hs:gD y.entries) (hl:y.entries.length≤n+1):Sr (n+1) (f.set y):=by
 refine⟨eE h.sort y,fun x hx=> ?_,by have:= @kK f y;have:=h.len;omega,fun x hx=> ?_⟩
 ·rcases dC.1 hx with rfl|⟨hx,_⟩
  ·exact hs
  ·exact h.es x hx
 ·rcases dC.1 hx with rfl|⟨hx,_⟩
  ·exact hl
  ·have:=h.en x hx;omega
theorem Sr.drop (h:Sr n f) (k:Int):Sr n (f.drop k):=by
 refine⟨zt h.sort k,fun x hx=>h.es x (fR.1 hx).1, ?_,fun x hx=>h.en x (fR.1 hx).1⟩;have h1:(dD k f.aa).length≤f.aa.length:=dI;have:=h.len;show(dD k f.aa).length≤n;omega
theorem Sr.mono (h:Sr n f) {m:Nat} (hm:n≤m):Sr m f:=⟨h.sort,h.es,by have:=h.len;omega,fun x hx=>by have:=h.en x hx;omega⟩
theorem Sr.rem (h:Sr n f) (k:Int) (m:Str):Sr (n+1) (f.set ((aD k f.aa).cn m)):=by
 have:=h.get k;exact h.set (eA this.1) (by have:=qH m (aD k f.aa).entries;show(cN m (aD k f.aa).entries).length≤_;omega)
theorem Sr.add (h:Sr n f) (k:Int) (m:Str) (i:Int):Sr (n+1) (f.set ((aD k f.aa).bS m i)):=by
 have:=h.get k;exact h.set (nF loS this.1) (by have:=pG ⟨m,i⟩ (aD k f.aa).entries;show(fe ⟨m,i⟩ (aD k f.aa).entries).length≤_;omega)
theorem Sr.unn (h:Sr n f) (s:ar):Sr (n+2) (dV f s):=by
 have h1:=h.rem s.dir s.name;have h2:=h1.get s.ino;unfold dV;split
 ·exact(h1.drop _).mono (by omega)
 ·exact h1.set h2.1 (by show(aD s.ino _).entries.length≤_;omega)
theorem Sr.mvB (h:Sr n f) (b:ar):Sr (n+2) (mvB dV f b):=by
 unfold Go.Eng.mvB;split
 ·exact h.unn b
 ·exact h.mono (by omega)
theorem JE (h:Sr n f) (s:ar):(nY f s).aa.length≤n+2∧∀x∈(nY f s).aa,x.entries.length≤n+2:=by
 have h1:=h.rem s.dir s.name;have h2:=h.get s.ino;unfold nY;split
 ·have:=(h1.drop s.ino).mono (show n+1≤n+2 by omega)
  exact⟨this.len,this.en⟩
 ·have:=h1.set (y:=(aD s.ino f.aa).cX ((aD s.ino f.aa).aI - 1)) h2.1 (by show(aD s.ino _).entries.length≤_;omega)
  exact⟨this.len,this.en⟩
theorem GI {N:Nat} (h:∀x∈f.aa,x.entries.length≤N) (k:Int):(aD k f.aa).entries.length≤N:=by
 cases hf:au k f.aa with
 |none=>rw[dQ hf];simp [jP]
 |some x=>rw[aR hf];exact h x (aP hf).1
theorem Gu (h:Sr n f) (hn:n≤20000):
 (aj (cf f a.dir) fun y2=>aj (fH y2.1.entries a.name) fun y3=>aj (a_ f (⟨y2.1.ino,y2.1.kind,y2.1.aI,y2.1.data,y2.1.parent,y3⟩:al)) fun y4=>aj (cf y4 b.dir) fun y5=>aj (eo y5.1.entries b.name a.ino) fun y6=>aj (a_ y4 (⟨y5.1.ino,y5.1.kind,y5.1.aI,y5.1.data,y5.1.parent,y6⟩:al)) fun y7=>aj (cf y7 a.ino) fun y8=>
  ae (y8.1.kind==(2:Int)) (aj (a_ y7 (⟨y8.1.ino,y8.1.kind,y8.1.aI,y8.1.data,b.dir,y8.1.entries⟩:al)) fun y9=>some y9) (aj (a_ y7 y8.1) fun y10=>some y10))=some (mvE (mv3 f a b) a b):=by
 have g1:=h.get a.dir;have h1:=h.rem a.dir a.name;have g2:=h1.get b.dir;have h2:=h1.add b.dir b.name a.ino;have l0:=h.len;have l1:=h1.len;have l2:=h2.len;rw[dh h.sort (by omega),ah,nK g1.1 (by first|omega|(simp only;omega)),ah];have e1:(⟨(aD a.dir f.aa).ino,(aD a.dir f.aa).kind,(aD a.dir f.aa).aI,(aD a.dir f.aa).data,(aD a.dir f.aa).parent,cN a.name (aD a.dir f.aa).entries⟩:al)=(aD a.dir f.aa).cn a.name:=rfl;simp only;rw[e1,cQ h.sort (by omega),ah,dh h1.sort (by omega),ah,ny g2.1 (by first|omega|(simp only;omega)),ah];have e2:∀d:al,(⟨d.ino,d.kind,d.aI,d.data,d.parent,fe ⟨b.name,a.ino⟩ d.entries⟩:al)=d.bS b.name a.ino:=fun _=>rfl
 simp only;rw[e2,cQ h1.sort (by omega),ah,dh h2.sort (by omega),ah];unfold mvE mv3;simp only;rw[cQ h2.sort (by omega),cQ h2.sort (by omega),eO];by_cases hk:(aD a.ino ((f.set ((aD a.dir f.aa).cn a.name)).set ((aD b.dir (f.set ((aD a.dir f.aa).cn a.name)).aa).bS b.name a.ino)).aa).kind=2
 ·rw[aL (by simp [hk]),if_pos hk];rfl
 ·rw[aW (by simp [hk]),if_neg hk];rfl
theorem C7 (hl:f.aa.length≤20000) (he:∀x∈f.aa,x.entries.length≤20000):
 (aj (bH f a.dir) fun y2=>aj (eI y2.1.entries a.name) fun y3=>aj (bG f (⟨y2.1.ino,y2.1.kind,y2.1.aI,y2.1.data,y2.1.parent,y3⟩:al)) fun y4=>aj (bH y4 b.dir) fun y5=>aj (fE y5.1.entries b.name a.ino) fun y6=>aj (bG y4 (⟨y5.1.ino,y5.1.kind,y5.1.aI,y5.1.data,y5.1.parent,y6⟩:al)) fun y7=>aj (bH y7 a.ino) fun y8=>
  ae (y8.1.kind==(2:Int)) (aj (bG y7 (⟨y8.1.ino,y8.1.kind,y8.1.aI,y8.1.data,b.dir,y8.1.entries⟩:al)) fun y9=>some y9) (some y7))=some (Ku (mv3 f a b) a b):=by
 have g1:=GI he a.dir;have d1:=qH a.name (aD a.dir f.aa).entries;have l1:= @kK f ((aD a.dir f.aa).cn a.name);have he1:=Iz (f:=f) (x:=(aD a.dir f.aa).cn a.name) he (by show(cN a.name (aD a.dir f.aa).entries).length≤_;omega);have g2:=GI he1 b.dir;have l2:= @kK (f.set ((aD a.dir f.aa).cn a.name)) ((aD b.dir (f.set ((aD a.dir f.aa).cn a.name)).aa).bS b.name a.ino);rw[cI (by omega),ah,jZ (by first|omega|(simp only;omega)),ah];have e1:(⟨(aD a.dir f.aa).ino,(aD a.dir f.aa).kind,(aD a.dir f.aa).aI,(aD a.dir f.aa).data,(aD a.dir f.aa).parent,cN a.name (aD a.dir f.aa).entries⟩:al)=(aD a.dir f.aa).cn a.name:=rfl;simp only;rw[e1,cu (by omega),ah,cI (by omega),ah,nv (by first|omega|(simp only;omega)),ah];have e2:∀d:al,(⟨d.ino,d.kind,d.aI,d.data,d.parent,fe ⟨b.name,a.ino⟩ d.entries⟩:al)=d.bS b.name a.ino:=fun _=>rfl
 simp only;rw[e2,cu (by omega),ah,cI (by omega),ah];unfold Ku mv3;simp only;rw[cu (by omega),eO];by_cases hk:(aD a.ino ((f.set ((aD a.dir f.aa).cn a.name)).set ((aD b.dir (f.set ((aD a.dir f.aa).cn a.name)).aa).bS b.name a.ino)).aa).kind=2
 ·rw[aL (by simp [hk]),if_pos hk];rfl
 ·rw[aW (by simp [hk]),if_neg hk]
theorem AF (z:Ez f):qD f a b=some (jk f a b):=by
 unfold qD jk;rw[dT];by_cases h0:b.ino=0
 ·rw[aW (by simp [h0]),Gu z.sr (by omega)]
  unfold mvB;rw[if_neg (fun h=>h h0)]
 ·have h1:=z.sr.unn b
  rw[aL (by simp [h0]),mh z,ah,Gu h1 (by omega)];unfold mvB;rw[if_pos h0]
theorem zb (z:Ez f):oC f a b=some (uP f a b):=by
 unfold oC uP;rw[dT];by_cases h0:b.ino=0
 ·rw[aW (by simp [h0]),C7 (by have:=z.lil.len;omega) (fun x hx=>by have:=z.lil.dy x hx;omega)]
  unfold mvB;rw[if_neg (fun h=>h h0)]
 ·have h1:=JE z.sr b
  rw[aL (by simp [h0]),lA z,ah,C7 (by omega) (fun x hx=>by have:=h1.2 x hx;omega)];unfold mvB;rw[if_pos h0]
end
section
variable {f g:Fs} {base p q:Str} {a b s:ar} {x y:al} {n:Nat} {i:Int} {e:Entry}
theorem Fy (w:WF f) (h0:(atP f p).2=0) (hn:(atP f p).1.name≠ []):Gd f false (atP f p).1∧eL (atP f p).1.name=true∧∃ns,ns≠ [] ∧(∀m∈ns,eL m=true)∧iI ns=p∧cB f.aa ns dm=((atP f p).1,0):=by
 have hpl:(cj p).2=true:=by
  unfold atP at h0;cases h:(cj p).2
  ·rw[h,if_neg (by simp)] at h0;simp at h0
  ·rfl
 have hat:atP f p=cB f.aa (cj p).1 dm:=by unfold atP;rw[if_pos hpl]
 obtain⟨p1,p2,p3⟩:=jr hpl;rw[hat] at h0 hn⊢;have hgo:cB f.aa (cj p).1 dm=((cB f.aa (cj p).1 dm).1,0):=by rw[←h0]
 rcases tE hgo with⟨h1,h2⟩ |⟨d,m,ns',h1,h2,h3,h4,h5,h6⟩
 ·rw[h2] at hn;exact absurd rfl hn
 ·refine⟨Or.inr ⟨hn,d,h2,h4, ?_,fun h=>by cases h⟩, ?_,(cj p).1,by rw[h1];simp,p2,p1,hgo⟩
  ·rw[h6,h5]
  ·rw[h5]
   exact p2 m (by rw[h1];simp)
end
structure Gq (n:Nat) (f:Fs):Prop where
 tr:Tree f
 bd:Bd n f
 nx:f.next≤549755813888+n
section
variable {f g:Fs} {base p q t d:Str} {n m:Nat} {i:Int} {x:al} {s:ar}
theorem Gq.ew (h:Gq n f) (hn:n≤9000):Ew f:=iF h.tr h.bd (by omega)
theorem Gq.ez (h:Gq n f) (hn:n≤9000):Ez f:=(h.ew hn).ez
theorem Gq.mono (h:Gq n f) (hm:n≤m):Gq m f:=⟨h.tr,h.bd.mono hm,by have:=h.nx;omega⟩
theorem ui {s:ar}:(dV f s).next=f.next:=by unfold dV;split<;>rfl
theorem oo {a b:ar}:(jk f a b).next=f.next:=by
 unfold jk mvE mv3;show(mvB dV f b).next=f.next;unfold mvB;split
 ·exact ui
 ·rfl
end
abbrev pS (l:List Kept):Prop:=dg ltI Kept.slot l
abbrev cF (n:Int) (l:List Kept):Option Kept:=b7 Kept.slot n l
abbrev sX (k:Kept) (l:List Kept):List Kept:=jc ltI Kept.slot k l
abbrev eS (n:Int) (l:List Kept):List Kept:=eJ Kept.slot n l
def xV (x:al):Prop:=x.aI=0∧x.parent=0∧x.entries= [] ∧(x.kind=1∨(x.kind=2∧x.data= [])∨(x.kind=3∧1≤x.data.length∧x.data.length≤4095∧x.data.any (fun b=>b==0)=false))
structure RW (w:ao):Prop where
 tr:Tree w.fs
 ps:cG w.aq.aV
 pk:∀x∈w.aq.aV,xV x∧1≤x.ino∧x.ino<w.fs.next∧au x.ino w.fs.aa=none∧∃k∈w.aq.kept,k.ino=x.ino∧k.content=false
 ks:pS w.aq.kept
 kk:∀k∈w.aq.kept,1≤k.slot∧k.slot≤1073741824∧(k.content=false→k.data= [])∧∃x,(au k.ino w.fs.aa=some x∨au k.ino w.aq.aV=some x)∧(k.content=true→x.kind=1)
structure Wb (lim:Int) (n:Nat) (w:ao):Prop where
 bd:Bd n w.fs
 nx:w.fs.next≤lim+n
 kl:w.aq.kept.length≤n
 pl:w.aq.aV.length≤n
 kd:∀k∈w.aq.kept,k.data.length≤10000000
 pd:∀x∈w.aq.aV,x.data.length≤10000000
section
variable {lim:Int} {w:ao} {f:Fs} {d x y:al} {nm:Str} {e:Entry} {n m:Nat} {s i:Int} {k:Kept}
theorem Wb.mono (h:Wb lim n w) (hm:n≤m):Wb lim m w:=⟨h.bd.mono hm,by have:=h.nx;omega,by have:=h.kl;omega,by have:=h.pl;omega,h.kd,h.pd⟩
theorem RW.ew (h:RW w) (b:Wb lim n w) (hn:n≤9000):Ew w.fs:=iF h.tr b.bd (by omega)
theorem RW.jg (h:RW w) (hi:au i w.aq.aV=some y):xV y∧y.ino=i∧1≤i∧i<w.fs.next∧au i w.fs.aa=none:=by
 obtain⟨h1,h2⟩:=aP hi;obtain⟨p1,p2,p3,p4,_⟩:=h.pk y h1;rw[h2] at p2 p3 p4;exact⟨p1,h2,p2,p3,p4⟩
theorem RW.oa (h:RW w) (hi:au i w.fs.aa=some x):au i w.aq.aV=none:=by
 cases hp:au i w.aq.aV with
 |none=>rfl
 |some y=>have:=(h.jg hp).2.2.2.2;rw[hi] at this;cases this
theorem iq {l:List Kept} {n:Int} {k:Kept} (h:cF n l=some k):k∈l∧k.slot=n:=cg h
theorem oY {l:List Kept} {n:Int} (h:cF n l=none):∀k∈l,k.slot≠n:=by
 intro k hk e;have:=List.find?_eq_none.1 h k hk;simp [e] at this
theorem uH {l:List Kept} (hs:pS l) {k:Kept} (h:k∈l):cF k.slot l=some k:=lR loI hs h
theorem mA {l:List Kept} {a b:Kept}:b∈sX a l↔b=a∨b∈l:=sZ
theorem ix {l:List Kept} {n:Int} {b:Kept}:b∈eS n l↔b∈l∧b.slot≠n:=fR
theorem tT {l:List Kept} {a:Kept} (h:pS l) (h0:cF a.slot l=none):pS (sX a l):=ud loI h (oY h0)
theorem sg {l:List Kept} {n:Int} (h:pS l):pS (eS n l):=eA h
theorem um {l:List Kept} {a:Kept} (h:pS l) (h0:cF a.slot l=none):eS a.slot (sX a l)=l:=by
 refine fF loI (eA (tT h h0)) h fun j=> ?_
 rw[o9,qR (oY h0)];by_cases hj:a.slot=j
 ·rw[if_pos hj,←hj];exact h0.symm
 ·rw[if_neg hj,if_neg hj]
def al.bare (x:al):al:=⟨x.ino,x.kind,0,x.data,0,x.entries⟩
def fY (w:ao) (s:Int) (d:al) (nm:Str) (x:al):ao:=
 ⟨dG w.fs d nm x,⟨sX ⟨s,x.ino,false, []⟩ w.aq.kept,if x.aI=1 then bE x.bare w.aq.aV else w.aq.aV⟩⟩
theorem Iq (h:fq x=true) (he:x.entries= []):xV x.bare:=by
 refine⟨rfl,rfl,he, ?_⟩;by_cases h1:x.kind=1
 ·exact Or.inl h1
 by_cases h2:x.kind=2
 ·rw[vG h2] at h
  simp only[Bool.and_eq_true,decide_eq_true_eq] at h;exact Or.inr (Or.inl ⟨h2,h.1⟩)
 by_cases h3:x.kind=3
 ·rw[zQ h3] at h
  simp only[Bool.and_eq_true,decide_eq_true_eq] at h;obtain⟨_,_,⟨a1,a2⟩,a3⟩:=h;refine Or.inr (Or.inr ⟨h3,a1,a2, ?_⟩);show x.data.any _=false;cases hx:x.data.any (fun b=>b==0)
  ·rfl
  ·rw[hx] at a3;cases a3
 ·rw[GN h1 h2 h3] at h;cases h
theorem Gp (h:RW w) (he:Ent w.fs d nm x e) (hx0:x.entries= []) (hs1:1≤s) (hs2:s≤1073741824) (hs:cF s w.aq.kept=none):RW (fY w s d nm x):=by
 have hne:=he.ne h.tr;have hfind:=fun j=>dF (f:=w.fs) (d:=d) (nm:=nm) (x:=x) hne j
 have hm:=ml (f:=w.fs) (d:=d) (x:=x) (nm:=nm);have hpx:au x.ino w.aq.aV=none:=h.oa he.hx;have hgone:∀j,au j w.fs.aa=none→au j (dG w.fs d nm x).aa=none:=fun j hj=>by
  rw[hfind];by_cases h1:x.ino=j
  ·rw[←h1,he.hx] at hj;cases hj
  ·rw[if_neg h1]
   by_cases h2:d.ino=j
   ·rw[←h2,he.hd] at hj;cases hj
   ·rw[if_neg h2];exact hj
 have hstay:∀j z,au j w.fs.aa=some z→(j=x.ino→x.aI≠1)→∃z',au j (dG w.fs d nm x).aa=some z'∧z'.kind=z.kind:=fun j z hj hl=>by
  rw[hfind];by_cases h1:x.ino=j
  ·rw[if_pos h1,if_neg (hl h1.symm)]
   rw[←h1,he.hx] at hj;cases hj;exact⟨_,rfl,rfl⟩
  ·rw[if_neg h1]
   by_cases h2:d.ino=j
   ·rw[if_pos h2]
    rw[←h2,he.hd] at hj;cases hj;exact⟨_,rfl,rfl⟩
   ·rw[if_neg h2];exact⟨z,hj,rfl⟩
 have hpmem:∀z,z∈(fY w s d nm x).aq.aV↔(z∈w.aq.aV∨(x.aI=1∧z=x.bare)):=fun z=>by
  show z∈(if x.aI=1 then bE x.bare w.aq.aV else w.aq.aV)↔_;by_cases hl:x.aI=1
  ·rw[if_pos hl,dC]
   constructor
   ·rintro(rfl|⟨h1,_⟩)
    ·exact Or.inr ⟨hl,rfl⟩
    ·exact Or.inl h1
   ·rintro(h1|⟨_,rfl⟩)
    ·refine Or.inr ⟨h1,fun e1=> ?_⟩
     have h2:=eM h.ps h1;have e2:z.ino=x.ino:=e1;rw[e2,hpx] at h2;cases h2
    ·exact Or.inl rfl
  ·rw[if_neg hl]
   exact⟨Or.inl,fun h1=>h1.resolve_right (fun h2=>hl h2.1)⟩
 have hpfind:∀j,au j (fY w s d nm x).aq.aV=if x.aI=1∧x.ino=j then some x.bare else au j w.aq.aV:=fun j=>by
  show au j (if x.aI=1 then bE x.bare w.aq.aV else w.aq.aV)=_;by_cases hl:x.aI=1
  ·rw[if_pos hl,bF]
   show(if x.ino=j then _ else _)=_;by_cases h1:x.ino=j
   ·rw[if_pos h1,if_pos ⟨hl,h1⟩]
   ·rw[if_neg h1,if_neg (fun h=>h1 h.2)]
  ·rw[if_neg hl,if_neg (fun h=>hl h.1)]
 refine⟨Gz h.tr he hx0, ?_,fun z hz=> ?_,tT h.ks hs,fun k' hk'=> ?_⟩
 ·show cG (if x.aI=1 then bE x.bare w.aq.aV else w.aq.aV)
  split
  ·exact b_ h.ps
  ·exact h.ps
 ·rcases(hpmem z).1 hz with hz|⟨hl,rfl⟩
  ·obtain⟨p1,p2,p3,p4,k',k1,k2,k3⟩:=h.pk z hz
   exact⟨p1,p2,by show z.ino<(dG w.fs d nm x).next;rw[hm.2.2];exact p3,hgone _ p4,k',mA.2 (Or.inr k1),k2,k3⟩
  ·have hg:=h.tr.eN he.hx
   refine⟨Iq hg.1 hx0,hg.2.2.1,by show x.ino<(dG w.fs d nm x).next;rw[hm.2.2];exact hg.2.2.2.1, ?_,_,mA.2 (Or.inl rfl),rfl,rfl⟩;show au x.ino (dG w.fs d nm x).aa=none;rw[hfind,if_pos rfl,if_pos hl]
 ·rcases mA.1 hk' with rfl|hk'
  ·refine⟨hs1,hs2,fun _=>rfl, ?_⟩
   by_cases hl:x.aI=1
   ·exact⟨x.bare,Or.inr (by rw[hpfind,if_pos ⟨hl,rfl⟩]),fun h=>by cases h⟩
   ·obtain⟨z',hz',_⟩:=hstay x.ino x he.hx (fun _=>hl)
    exact⟨z',Or.inl hz',fun h=>by cases h⟩
  ·obtain⟨k1,k2,k3,z,k4,k5⟩:=h.kk k' hk'
   refine⟨k1,k2,k3, ?_⟩;rcases k4 with k4|k4
   ·by_cases hx:k'.ino=x.ino∧x.aI=1
    ·refine⟨x.bare,Or.inr (by rw[hpfind,if_pos ⟨hx.2,hx.1.symm⟩]),fun hc=> ?_⟩
     rw[hx.1,he.hx] at k4;cases k4;exact k5 hc
    ·obtain⟨z',hz',hzk⟩:=hstay k'.ino z k4 (fun e1 e2=>hx ⟨e1,e2⟩)
     exact⟨z',Or.inl hz',fun hc=>by rw[hzk];exact k5 hc⟩
   ·refine⟨z,Or.inr ?_,k5⟩
    rw[hpfind,if_neg (fun hh=> ?_)]
    ·exact k4
    ·rw[←hh.2,hpx] at k4;cases k4
def xG (w:ao) (s:Int) (d:al) (nm:Str) (x:al):ao:=⟨gT w.fs d nm x,⟨eS s w.aq.kept,w.aq.aV⟩⟩
def fO (d:al) (y:al):al:=⟨y.ino,y.kind,1,y.data,if y.kind=2 then d.ino else 0,y.entries⟩
def rK (w:ao) (s:Int) (d:al) (nm:Str) (y:al):ao:=
 ⟨⟨w.fs.aA,w.fs.aH,w.fs.next,bE (fO d y) (bE (d.bS nm y.ino) w.fs.aa)⟩,⟨eS s w.aq.kept,dD y.ino w.aq.aV⟩⟩
theorem LI (h:RW w) (hf:iJ w.fs d nm) (hx:au x.ino w.fs.aa=some x) (hk:x.kind≠2) (hs:cF s w.aq.kept=some k) (hki:k.ino=x.ino):RW (xG w s d nm x):=by
 have hxd:x.ino≠d.ino:=fun e1=>by
  have:=hf.hd;rw[←e1,hx] at this;have h2:=Option.some.inj this;exact hk (by rw[h2];exact hf.hk)
 have hfind:=fun j=>n8 (f:=w.fs) (d:=d) (nm:=nm) (x:=x) hxd j
 have hkm:=iq hs;have hiff:∀j,au j w.fs.aa=none→au j (gT w.fs d nm x).aa=none:=fun j hj=>by
  rw[hfind];by_cases h1:x.ino=j
  ·rw[←h1,hx] at hj;cases hj
  ·rw[if_neg h1]
   by_cases h2:d.ino=j
   ·rw[←h2,hf.hd] at hj;cases hj
   ·rw[if_neg h2];exact hj
 have hstay:∀j z,au j w.fs.aa=some z→∃z',au j (gT w.fs d nm x).aa=some z'∧z'.kind=z.kind:=fun j z hj=>by
  rw[hfind];by_cases h1:x.ino=j
  ·rw[if_pos h1]
   rw[←h1,hx] at hj;cases hj;exact⟨_,rfl,rfl⟩
  ·rw[if_neg h1]
   by_cases h2:d.ino=j
   ·rw[if_pos h2]
    rw[←h2,hf.hd] at hj;cases hj;exact⟨_,rfl,rfl⟩
   ·rw[if_neg h2];exact⟨z,hj,rfl⟩
 refine⟨BH h.tr hf hx hk,h.ps,fun z hz=> ?_,sg h.ks,fun k' hk'=> ?_⟩
 ·obtain⟨p1,p2,p3,p4,k',k1,k2,k3⟩:=h.pk z hz
  refine⟨p1,p2,p3,hiff _ p4,k',ix.2 ⟨k1,fun e1=> ?_⟩,k2,k3⟩;have h1:=uH h.ks k1;rw[e1,hs] at h1;cases h1;rw[←k2,hki,hx] at p4;cases p4
 ·obtain⟨k1,k2,k3,z,k4,k5⟩:=h.kk k' (ix.1 hk').1
  refine⟨k1,k2,k3, ?_⟩;rcases k4 with k4|k4
  ·obtain⟨z',hz',hzk⟩:=hstay _ z k4
   exact⟨z',Or.inl hz',fun hc=>by rw[hzk];exact k5 hc⟩
  ·exact⟨z,Or.inr k4,k5⟩
theorem Es (h:xV y):fq (fO d y)=true:=by
 obtain⟨h1,h2,h3,h4⟩:=h;rcases h4 with h4|⟨h4,h5⟩ |⟨h4,h5,h6,h7⟩
 ·rw[Au (show(fO d y).kind=1 from h4)];unfold fO;simp [h3,h4]
 ·rw[vG (show(fO d y).kind=2 from h4)];unfold fO;simp [h3,h5,gu,jW]
 ·rw[zQ (show(fO d y).kind=3 from h4)]
  show(y.entries.isEmpty&&(decide ((if y.kind=2 then d.ino else 0)=0)&&(decide (1≤y.data.length∧y.data.length≤4095)&& !(y.data.any (fun b=>b==0)))))=true;rw[h3,h7,h4,if_neg (by decide),decide_eq_true (show 1≤y.data.length∧y.data.length≤4095 from⟨h5,h6⟩)];rfl
theorem Ky (h:RW w) (hf:iJ w.fs d nm) (hy:au y.ino w.aq.aV=some y) (hs:cF s w.aq.kept=some k) (hki:k.ino=y.ino) (hkc:k.content=false) (hfit:cO w.fs 1 (byt y)=true):RW (rK w s d nm y):=by
 obtain⟨p1,p2,p3,p4,p5⟩:=h.jg hy;have hbyt:byt (fO d y)=byt y:=rfl;have hx:au (fO d y).ino w.fs.aa=none:=p5;have hyd:y.ino≠d.ino:=fun e1=>by rw[e1,hf.hd] at p5;cases p5
 have htr:Tree (rK w s d nm y).fs:=GH (x:=fO d y) (nx:=w.fs.next) h.tr hf hx p3 p4 (Int.le_refl _) h.tr.next (Es p1) rfl p1.2.2.1 (fun hk2=>by show(if y.kind=2 then d.ino else 0)=d.ino;rw[if_pos (show y.kind=2 from hk2)]) (by rw[hbyt];exact hfit);have hfind:∀j,au j (rK w s d nm y).fs.aa=if y.ino=j then some (fO d y) else if d.ino=j then some (d.bS nm y.ino) else au j w.fs.aa:=fun j=>oV (x:=fO d y) j
 have hkm:=iq hs;have hstay:∀j z,au j w.fs.aa=some z→∃z',au j (rK w s d nm y).fs.aa=some z'∧z'.kind=z.kind:=fun j z hj=>by
  rw[hfind];by_cases h1:y.ino=j
  ·rw[←h1,p5] at hj;cases hj
  ·rw[if_neg h1]
   by_cases h2:d.ino=j
   ·rw[if_pos h2]
    rw[←h2,hf.hd] at hj;cases hj;exact⟨_,rfl,rfl⟩
   ·rw[if_neg h2];exact⟨z,hj,rfl⟩
 refine⟨htr,eA h.ps,fun z hz=> ?_,sg h.ks,fun k' hk'=> ?_⟩
 ·obtain⟨z1,z2⟩:=fR.1 hz
  obtain⟨q1,q2,q3,q4,k',k1,k2,k3⟩:=h.pk z z1;refine⟨q1,q2,q3, ?_,k',ix.2 ⟨k1,fun e1=> ?_⟩,k2,k3⟩
  ·rw[hfind,if_neg (fun e1=>z2 e1.symm)]
   by_cases h2:d.ino=z.ino
   ·rw[←h2,hf.hd] at q4;cases q4
   ·rw[if_neg h2];exact q4
  ·have h1:=uH h.ks k1
   rw[e1,hs] at h1;cases h1;exact z2 (by rw[←k2,hki])
 ·obtain⟨k1,k2,k3,z,k4,k5⟩:=h.kk k' (ix.1 hk').1
  refine⟨k1,k2,k3, ?_⟩;rcases k4 with k4|k4
  ·obtain⟨z',hz',hzk⟩:=hstay _ z k4
   exact⟨z',Or.inl hz',fun hc=>by rw[hzk];exact k5 hc⟩
  ·by_cases h1:y.ino=k'.ino
   ·refine⟨fO d y,Or.inl (by rw[hfind,if_pos h1]),fun hc=> ?_⟩
    rw[←h1,hy] at k4;cases k4;exact k5 hc
   ·refine⟨z,Or.inr ?_,k5⟩
    show au k'.ino (dD y.ino w.aq.aV)=some z;rw[rW,if_neg h1];exact k4
def nG (w:ao) (s:Int) (x:al):ao:=⟨w.fs,⟨sX ⟨s,x.ino,true,x.data⟩ w.aq.kept,w.aq.aV⟩⟩
def Ad (w:ao) (s:Int) (x:al) (t:Str):ao:=⟨w.fs.set (x.cy t),⟨eS s w.aq.kept,w.aq.aV⟩⟩
theorem I3 (h:RW w) (hx:au x.ino w.fs.aa=some x) (hk:x.kind=1) (hs1:1≤s) (hs2:s≤1073741824) (hs:cF s w.aq.kept=none):RW (nG w s x):=by
 refine⟨h.tr,h.ps,fun z hz=> ?_,tT h.ks hs,fun k' hk'=> ?_⟩
 ·obtain⟨p1,p2,p3,p4,k',k1,k2,k3⟩:=h.pk z hz
  exact⟨p1,p2,p3,p4,k',mA.2 (Or.inr k1),k2,k3⟩
 ·rcases mA.1 hk' with rfl|hk'
  ·exact⟨hs1,hs2,(fun h=>by cases h),x,Or.inl hx,fun _=>hk⟩
  ·exact h.kk k' hk'
theorem Ga (h:RW w) (hx:au x.ino w.fs.aa=some x) (hk:x.kind=1) {t:Str} (hfit:cO w.fs 0 ((t.length:Int) - (x.data.length:Int))=true):RW ⟨w.fs.set (x.cy t),w.aq⟩:=by
 have hfind:∀j,au j (w.fs.set (x.cy t)).aa=if x.ino=j then some (x.cy t) else au j w.fs.aa:=fun j=>bF
 refine⟨h.tr.K4 hx hk hfit,h.ps,fun z hz=> ?_,h.ks,fun k' hk'=> ?_⟩
 ·obtain⟨p1,p2,p3,p4,k',k1,k2,k3⟩:=h.pk z hz
  refine⟨p1,p2,p3, ?_,k',k1,k2,k3⟩;show au z.ino (w.fs.set (x.cy t)).aa=none;rw[hfind,if_neg (fun e1=>by rw[←e1,hx] at p4;cases p4)];exact p4
 ·obtain⟨k1,k2,k3,z,k4,k5⟩:=h.kk k' hk'
  refine⟨k1,k2,k3, ?_⟩;rcases k4 with k4|k4
  ·by_cases h1:x.ino=k'.ino
   ·refine⟨x.cy t,Or.inl (by show au _ (w.fs.set (x.cy t)).aa=_;rw[hfind,if_pos h1]),fun _=>hk⟩
   ·exact⟨z,Or.inl (by show au _ (w.fs.set (x.cy t)).aa=_;rw[hfind,if_neg h1];exact k4),k5⟩
  ·exact⟨z,Or.inr k4,k5⟩
theorem I1 (h:RW w) (hs:cF s w.aq.kept=some k) (hc:k.content=true):RW ⟨w.fs,⟨eS s w.aq.kept,w.aq.aV⟩⟩:=by
 refine⟨h.tr,h.ps,fun z hz=> ?_,sg h.ks,fun k' hk'=>h.kk k' (ix.1 hk').1⟩;obtain⟨p1,p2,p3,p4,k',k1,k2,k3⟩:=h.pk z hz;refine⟨p1,p2,p3,p4,k',ix.2 ⟨k1,fun e1=> ?_⟩,k2,k3⟩;have h1:=uH h.ks k1;rw[e1,hs] at h1;cases h1;rw[hc] at k3;cases k3
theorem Kl (h:RW w) (hx:au x.ino w.fs.aa=some x) (hs:cF s w.aq.kept=some k) (hc:k.content=true) (hk:x.kind=1) (hfit:cO w.fs 0 ((k.data.length:Int) - (x.data.length:Int))=true):RW (Ad w s x k.data):=
 I1 (w:=⟨w.fs.set (x.cy k.data),w.aq⟩) (Ga h hx hk hfit) hs hc
theorem ao.ext {a b:ao} (h1:a.fs=b.fs) (h2:a.aq.kept=b.aq.kept) (h3:a.aq.aV=b.aq.aV):a=b:=by
 obtain⟨af,ak,ap⟩:=a;obtain⟨bf,bk,bp⟩:=b;simp only at h1 h2 h3;subst h1;subst h2;subst h3;rfl
theorem G6 (h:RW w) (he:Ent w.fs d nm x e) (hs:cF s w.aq.kept=none) (hl:x.aI≠1):xG (fY w s d nm x) s (d.cn nm) nm (x.cX (x.aI - 1))=w:=by
 have hne:=he.ne h.tr;have hsE:=(h.tr.eN he.hd).2.2.2.2.1;refine ao.ext ?_ (um (a:=⟨s,x.ino,false, []⟩) h.ks hs) ?_
 ·have hm:=ml (f:=w.fs) (d:=d) (x:=x) (nm:=nm)
  refine uB hm.1 hm.2.1 hm.2.2 (zH (qJ h.tr.sort)) h.tr.sort fun j=> ?_
  show au j (gT (dG w.fs d nm x) (d.cn nm) nm (x.cX (x.aI - 1))).aa=_;rw[n8 (show(x.cX (x.aI - 1)).ino≠(d.cn nm).ino from hne),dF hne];show(if x.ino=j then some ((x.cX (x.aI - 1)).cX (x.aI - 1+1)) else if d.ino=j then some ((d.cn nm).bS nm x.ino) else _)=_;by_cases h1:x.ino=j
  ·rw[if_pos h1,←h1,he.hx]
   have:x.aI - 1+1=x.aI:=by omega
   rw[this];rfl
  ·rw[if_neg h1,if_neg h1]
   by_cases h2:d.ino=j
   ·rw[if_pos h2,←h2,he.hd]
    show some (al.mk d.ino d.kind d.aI d.data d.parent (fe ⟨nm,x.ino⟩ (cN nm d.entries)))=some d;rw[←he.hn,qK hsE he.he]
   ·rw[if_neg h2,if_neg h2]
 ·show(if x.aI=1 then bE x.bare w.aq.aV else w.aq.aV)=_
  rw[if_neg hl]
theorem El (h:RW w) (he:Ent w.fs d nm x e) (hx0:x.entries= []) (hs:cF s w.aq.kept=none) (hl:x.aI=1):rK (fY w s d nm x) s (d.cn nm) nm x.bare=w:=by
 have hne:=he.ne h.tr;have hsE:=(h.tr.eN he.hd).2.2.2.2.1;have hpx:au x.ino w.aq.aV=none:=h.oa he.hx;have hback:fO (d.cn nm) x.bare=x:=by
  have hk:=(h.tr.eN he.hx).1;have hp:x.parent=if x.kind=2 then d.ino else 0:=by
   by_cases h2:x.kind=2
   ·rw[if_pos h2];exact h.tr.parent he.hx h2 he.hd he.mem.1 he.hn
   ·rw[if_neg h2]
    by_cases h1:x.kind=1
    ·rw[Au h1] at hk;simp only[Bool.and_eq_true,decide_eq_true_eq] at hk;exact hk.2
    ·by_cases h3:x.kind=3
     ·rw[zQ h3] at hk;simp only[Bool.and_eq_true,decide_eq_true_eq] at hk;exact hk.2.1
     ·rw[GN h1 h2 h3] at hk;cases hk
  show al.mk x.ino x.kind 1 x.data (if x.kind=2 then d.ino else 0) x.entries=x;rw[←hp,←hl]
 refine ao.ext ?_ (um (a:=⟨s,x.ino,false, []⟩) h.ks hs) ?_
 ·have hm:=ml (f:=w.fs) (d:=d) (x:=x) (nm:=nm)
  refine uB hm.1 hm.2.1 hm.2.2 (b_ (b_ (qJ h.tr.sort))) h.tr.sort fun j=> ?_
  show au j (bE (fO (d.cn nm) x.bare) (bE ((d.cn nm).bS nm x.ino) (dG w.fs d nm x).aa))=_;rw[hback,bF,bF,dF hne];show(if x.ino=j then some x else if d.ino=j then some ((d.cn nm).bS nm x.ino) else _)=_;by_cases h1:x.ino=j
  ·rw[if_pos h1,←h1,he.hx]
  ·rw[if_neg h1,if_neg h1]
   by_cases h2:d.ino=j
   ·rw[if_pos h2,←h2,he.hd]
    show some (al.mk d.ino d.kind d.aI d.data d.parent (fe ⟨nm,x.ino⟩ (cN nm d.entries)))=some d;rw[←he.hn,qK hsE he.he]
   ·rw[if_neg h2,if_neg h2]
 ·show dD x.ino (if x.aI=1 then bE x.bare w.aq.aV else w.aq.aV)=_
  rw[if_pos hl];refine fF loI (eA (b_ h.ps)) h.ps fun j=> ?_
  show au j (dD x.ino (bE x.bare w.aq.aV))=au j w.aq.aV;rw[rW,bF];show(if x.ino=j then none else if x.ino=j then _ else _)=_;by_cases h1:x.ino=j
  ·rw[if_pos h1,←h1,hpx]
  ·rw[if_neg h1,if_neg h1]
theorem Db (h:RW w) (hx:au x.ino w.fs.aa=some x) (hs:cF s w.aq.kept=none) {t:Str}:Ad ⟨w.fs.set (x.cy t),(nG w s x).aq⟩ s (x.cy t) x.data=w:=by
 refine ao.ext ?_ (um (a:=⟨s,x.ino,true,x.data⟩) h.ks hs) rfl;show(w.fs.set (x.cy t)).set ((x.cy t).cy x.data)=w.fs;rw[set_set (show(x.cy t).ino=((x.cy t).cy x.data).ino from rfl) h.tr.sort];exact C3 h.tr.sort hx
end
def nd (w:ao) (s:Int) (a:ar):ao×Int:=
 match cF s w.aq.kept with
 |some _=>(w,13)
 |none=>(⟨dV w.fs a,⟨sX ⟨s,a.ino,false, []⟩ w.aq.kept,if (aD a.ino w.fs.aa).aI=1 then bE (aD a.ino w.fs.aa).bare w.aq.aV else w.aq.aV⟩⟩,0)
def qf (w:ao) (s:Int) (a:ar):ao×Int:=
 match cF s w.aq.kept with
 |none=>(w,13)
 |some k=>if k.content=true then (w,13) else if eL a.name=true then
  match au k.ino w.fs.aa with
  |some x=>if x.kind=2 then (w,9) else (⟨m7 w.fs a k.ino,⟨eS s w.aq.kept,w.aq.aV⟩⟩,0)
  |none=>if cO w.fs 1 (byt (aD k.ino w.aq.aV))=true then (⟨m7 (w.fs.set (if (aD k.ino w.aq.aV).kind=2 then (aD k.ino w.aq.aV).fZ a.dir else aD k.ino w.aq.aV)) a k.ino,⟨eS s w.aq.kept,dD k.ino w.aq.aV⟩⟩,0) else (w,8)
  else (w,9)
def tQ (w:ao) (s i:Int):ao×Int:=
 match cF s w.aq.kept with
 |some _=>(w,13)
 |none=>(⟨w.fs,⟨sX ⟨s,i,true,(aD i w.fs.aa).data⟩ w.aq.kept,w.aq.aV⟩⟩,0)
def oz (w:ao) (s:Int):ao×Int:=
 match cF s w.aq.kept with
 |none=>(w,13)
 |some k=>if k.content=true then
  match au k.ino w.fs.aa with
  |none=>(w,13)
  |some x=>if cO w.fs 0 ((k.data.length:Int) - (x.data.length:Int))=true then (Ad w s x k.data,0) else (w,8)
  else (w,13)
section
variable {lim:Int} {w:ao} {f:Fs} {d x y:al} {nm:Str} {e:Entry} {n m:Nat} {s i:Int} {k:Kept} {a:ar}
theorem Dp (k:Kept) (l:List Kept):(sX k l).length=l.length+1:=pw l
theorem uk (n:Int) (l:List Kept):(eS n l).length≤l.length:=dI
theorem MF:(dG f d nm x).next=f.next:=(ml (f:=f) (d:=d) (x:=x) (nm:=nm)).2.2
theorem IQ (h:RW w) (b:Wb lim n w) (he:Ent w.fs d nm x e):Wb lim (n+1) (fY w s d nm x):=by
 refine⟨(b.bd.dG h.tr he).mono (by omega), ?_, ?_, ?_,fun k hk=> ?_,fun z hz=> ?_⟩
 ·show(dG w.fs d nm x).next≤_
  rw[MF];have:=b.nx;omega
 ·show(sX _ w.aq.kept).length≤_
  rw[Dp];have:=b.kl;omega
 ·show(if x.aI=1 then bE x.bare w.aq.aV else w.aq.aV).length≤_
  have:=b.pl;split
  ·have:(bE x.bare w.aq.aV).length≤w.aq.aV.length+1:=l8
   omega
  ·omega
 ·rcases mA.1 hk with rfl|hk
  ·simp
  ·exact b.kd k hk
 ·have hz':z∈(if x.aI=1 then bE x.bare w.aq.aV else w.aq.aV):=hz
  split at hz'
  ·rcases dC.1 hz' with rfl|⟨hz',_⟩
   ·exact(b.bd.find he.hx).2
   ·exact b.pd z hz'
  ·exact b.pd z hz'
theorem G8 {fol:Bool} (h:RW w) (b:Wb lim n w) (hn:n≤9000) (ga:Gd w.fs fol a) (an:a.name≠ []) (hx:au a.ino w.fs.aa=some x) (hx0:x.entries= []) (hs1:1≤s) (hs2:s≤1073741824):
 ((cF s w.aq.kept).isSome=true∧nd w s a=(w,13))∨(cF s w.aq.kept=none∧∃e,xJ w.fs n a x e (dV w.fs a)∧nY w.fs a=dV w.fs a∧nd w s a=(fY w s (aD a.dir w.fs.aa) a.name x,0)∧RW (fY w s (aD a.dir w.fs.aa) a.name x)∧Wb lim (n+1) (fY w s (aD a.dir w.fs.aa) a.name x)):=by
 unfold nd;cases hs:cF s w.aq.kept with
 |some k=>exact Or.inl ⟨rfl,rfl⟩
 |none=>
  obtain⟨e,t,t2⟩:=taken h.tr b.bd hn ga an hx hx0;refine Or.inr ⟨rfl,e,t,t2, ?_,Gp h t.ent hx0 hs1 hs2 hs,IQ h b t.ent⟩;simp only;rw[aR hx,t.eq];unfold fY;rw[t.Rh]
theorem tK {fs:Fs} (hf:iJ fs (aD a.dir fs.aa) a.name) (hs:(aD a.dir fs.aa).ino=a.dir) (hsort:cG fs.aa) (hy:au y.ino fs.aa=none) (hyl:y.aI=0) (hyp:y.parent=0):
 m7 (fs.set (if y.kind=2 then y.fZ a.dir else y)) a y.ino=⟨fs.aA,fs.aH,fs.next,bE (fO (aD a.dir fs.aa) y) (bE ((aD a.dir fs.aa).bS a.name y.ino) fs.aa)⟩∧
 sk (fs.set (if y.kind=2 then y.fZ a.dir else y)) a y.ino=⟨fs.aA,fs.aH,fs.next,bE (fO (aD a.dir fs.aa) y) (bE ((aD a.dir fs.aa).bS a.name y.ino) fs.aa)⟩:=by
 generalize hz:(if y.kind=2 then y.fZ a.dir else y)=z;have hzi:z.ino=y.ino:=by rw[←hz];split<;>rfl
 have hne:y.ino≠a.dir:=fun e1=>by
  have:=hf.hd;rw[hs,←e1,hy] at this;cases this
 have hd:aD a.dir (fs.set z).aa=aD a.dir fs.aa:=by
  show aD a.dir (bE z fs.aa)=_;rw[kU,hzi,if_neg hne]
 have hzl:z.cX (z.aI+1)=fO (aD a.dir fs.aa) y:=by
  rw[←hz];unfold fO;split
  ·show al.mk y.ino y.kind (y.aI+1) y.data a.dir y.entries=_
   rw[hyl,hs];rfl
  ·show al.mk y.ino y.kind (y.aI+1) y.data y.parent y.entries=_
   rw[hyl,hyp];rfl
 have hg1:aD y.ino ((fs.set z).set ((aD a.dir fs.aa).bS a.name y.ino)).aa=z:=by
  show aD y.ino (bE _ (bE z fs.aa))=z;rw[kU];show(if (aD a.dir fs.aa).ino=y.ino then _ else _)=_;rw[if_neg (by rw[hs];exact fun e1=>hne e1.symm),kU,if_pos hzi]
 have hg2:aD y.ino (fs.set z).aa=z:=by
  show aD y.ino (bE z fs.aa)=z;rw[kU,if_pos hzi]
 have key:((fs.set z).set ((aD a.dir fs.aa).bS a.name y.ino)).set (z.cX (z.aI+1))=⟨fs.aA,fs.aH,fs.next,bE (fO (aD a.dir fs.aa) y) (bE ((aD a.dir fs.aa).bS a.name y.ino) fs.aa)⟩:=by
  rw[hzl];refine uB rfl rfl rfl (eE (eE (eE hsort _) _) _) (b_ (b_ hsort)) fun j=> ?_
  show au j (bE (fO _ y) (bE _ (bE z fs.aa)))=au j (bE (fO _ y) (bE _ fs.aa));rw[bF,bF,bF,bF,bF];show(if y.ino=j then _ else _)=if y.ino=j then _ else _
  by_cases h1:y.ino=j
  ·rw[if_pos h1,if_pos h1]
  ·rw[if_neg h1,if_neg h1,hzi,if_neg h1]
 constructor
 ·unfold m7
  rw[hd,hg1];exact key
 ·unfold sk
  rw[hd,hg2];exact key
theorem Kv (h:RW w) (b:Wb lim n w) (hf:iJ w.fs d nm) (hx:au x.ino w.fs.aa=some x):Wb lim (n+1) (xG w s d nm x):=by
 refine⟨b.bd.gT h.tr hf hx, ?_, ?_, ?_,fun k hk=>b.kd k (ix.1 hk).1,b.pd⟩
 ·show w.fs.next≤_;have:=b.nx;omega
 ·have:=uk s w.aq.kept
  show(eS s w.aq.kept).length≤_;have:=b.kl;omega
 ·show w.aq.aV.length≤_;have:=b.pl;omega
theorem Jr (h:RW w) (b:Wb lim n w) (hf:iJ w.fs d nm) (hy:au y.ino w.aq.aV=some y):Wb lim (n+1) (rK w s d nm y):=by
 obtain⟨p1,p2,p3,p4,p5⟩:=h.jg hy;have hlen:=(pH (x:=fO d y) h.tr hf p5).1;have hd:=b.bd.find hf.hd;refine⟨⟨?_,fun z hz=> ?_,fun z hz=> ?_⟩, ?_, ?_, ?_,fun k hk=>b.kd k (ix.1 hk).1,fun z hz=>b.pd z (fR.1 hz).1⟩
 ·show(bE (fO d y) (bE (d.bS nm y.ino) w.fs.aa)).length≤_
  have h2:(bE (fO d y) (bE (d.bS nm y.ino) w.fs.aa)).length=w.fs.aa.length+1:=hlen;have:=b.bd.len;omega
 ·have hz':z∈bE (fO d y) (bE (d.bS nm y.ino) w.fs.aa):=hz
  rcases dC.1 hz' with rfl|⟨hz',_⟩
  ·show y.entries.length≤_;rw[p1.2.2.1];simp
  ·rcases dC.1 hz' with rfl|⟨hz',_⟩
   ·have:=pG ⟨nm,y.ino⟩ d.entries
    show(fe ⟨nm,y.ino⟩ d.entries).length≤_;omega
   ·have:=b.bd.dy z hz';omega
 ·have hz':z∈bE (fO d y) (bE (d.bS nm y.ino) w.fs.aa):=hz
  rcases dC.1 hz' with rfl|⟨hz',_⟩
  ·exact b.pd y (aP hy).1
  ·rcases dC.1 hz' with rfl|⟨hz',_⟩
   ·exact hd.2
   ·exact b.bd.data z hz'
 ·show w.fs.next≤_;have:=b.nx;omega
 ·have:=uk s w.aq.kept
  show(eS s w.aq.kept).length≤_;have:=b.kl;omega
 ·have:(dD y.ino w.aq.aV).length≤w.aq.aV.length:=dI
  show(dD y.ino w.aq.aV).length≤_;have:=b.pl;omega
theorem He {fol:Bool} (h:RW w) (b:Wb lim n w) (hn:n≤9000) (ga:Gd w.fs fol a) (a0:a.ino=0):
 (∃e:Int,e≠0∧qf w s a=(w,e))∨
 (∃k,cF s w.aq.kept=some k∧k.content=false∧iJ w.fs (aD a.dir w.fs.aa) a.name∧(aD a.dir w.fs.aa).ino=a.dir∧
  ((∃x,au k.ino w.fs.aa=some x∧x.kind≠2∧qf w s a=(xG w s (aD a.dir w.fs.aa) a.name x,0)∧RW (xG w s (aD a.dir w.fs.aa) a.name x)∧Wb lim (n+1) (xG w s (aD a.dir w.fs.aa) a.name x))∨
   (∃y,au k.ino w.fs.aa=none∧au k.ino w.aq.aV=some y∧y.ino=k.ino∧cO w.fs 1 (byt y)=true∧qf w s a=(rK w s (aD a.dir w.fs.aa) a.name y,0)∧RW (rK w s (aD a.dir w.fs.aa) a.name y)∧Wb lim (n+1) (rK w s (aD a.dir w.fs.aa) a.name y)))):=by
 have ew:=iF h.tr b.bd (by omega);unfold qf;cases hs:cF s w.aq.kept with
 |none=>exact Or.inl ⟨13,by decide,rfl⟩
 |some k=>
  simp only;by_cases hc:k.content=true
  ·exact Or.inl ⟨13,by decide,by rw[if_pos hc]⟩
  rw[if_neg hc];by_cases hm:eL a.name=true
  ·rw[if_pos hm]
   obtain⟨hf,hfi⟩:=qY h.tr ew.wf ga a0 hm;cases hx:au k.ino w.fs.aa with
   |some x=>
    simp only;have hxi:=(aP hx).2;by_cases hk:x.kind=2
    ·exact Or.inl ⟨9,by decide,by rw[if_pos hk]⟩
    ·rw[if_neg hk]
     have hxx:au x.ino w.fs.aa=some x:=by rw[hxi];exact hx
     refine Or.inr ⟨k,rfl,by simpa using hc,hf,hfi,Or.inl ⟨x,hx,hk, ?_,LI h hf hxx hk hs hxi.symm,Kv h b hf hxx⟩⟩;rw[(qc hf hx hk).1];rfl
   |none=>
    simp only;have hkm:=iq hs;obtain⟨_,_,_,y,hy,_⟩:=h.kk k hkm.1;rw[hx] at hy;have hy:=hy.resolve_left (fun h=>by cases h);obtain⟨p1,p2,p3,p4,p5⟩:=h.jg hy;have hyy:au y.ino w.aq.aV=some y:=by rw[p2];exact hy
    rw[aR hy];cases hfit:cO w.fs 1 (byt y)
    ·exact Or.inl ⟨8,by decide,rfl⟩
    ·rw[if_pos rfl]
     refine Or.inr ⟨k,rfl,by simpa using hc,hf,hfi,Or.inr ⟨y,hx,hy,p2,hfit, ?_,Ky h hf hyy hs p2.symm (by simpa using hc) hfit,Jr h b hf hyy⟩⟩;rw[←p2,(tK hf hfi h.tr.sort (by rw[p2];exact p5) p1.1 p1.2.1).1];rfl
  ·rw[if_neg hm];exact Or.inl ⟨9,by decide,rfl⟩
theorem JR (h:RW w) (b:Wb lim n w) (hx:au x.ino w.fs.aa=some x):Wb lim (n+1) (nG w s x):=by
 refine⟨b.bd.mono (by omega),by show w.fs.next≤_;have:=b.nx;omega, ?_,by show w.aq.aV.length≤_;have:=b.pl;omega,fun k hk=> ?_,b.pd⟩
 ·show(sX _ w.aq.kept).length≤_
  rw[Dp];have:=b.kl;omega
 ·rcases mA.1 hk with rfl|hk
  ·exact(b.bd.find hx).2
  ·exact b.kd k hk
theorem F6 (h:RW w) (b:Wb lim n w):(∃e:Int,e≠0∧oz w s=(w,e))∨∃k x,cF s w.aq.kept=some k∧k.content=true∧au k.ino w.fs.aa=some x∧x.kind=1∧cO w.fs 0 ((k.data.length:Int) - (x.data.length:Int))=true∧oz w s=(Ad w s x k.data,0)∧RW (Ad w s x k.data)∧Wb lim (n+1) (Ad w s x k.data):=by
 unfold oz;cases hs:cF s w.aq.kept with
 |none=>exact Or.inl ⟨13,by decide,rfl⟩
 |some k=>
  simp only;by_cases hc:k.content=true
  ·rw[if_pos hc]
   cases hx:au k.ino w.fs.aa with
   |none=>exact Or.inl ⟨13,by decide,rfl⟩
   |some x=>
    simp only;have hi:=(aP hx).2;have hxx:au x.ino w.fs.aa=some x:=by rw[hi];exact hx
    have hkm:=iq hs;have hk1:x.kind=1:=by
     obtain⟨_,_,_,z,hz,hz2⟩:=h.kk k hkm.1;rcases hz with hz|hz
     ·rw[hx] at hz;cases hz;exact hz2 hc
     ·rw[h.oa hx] at hz;cases hz
    cases hfit:cO w.fs 0 ((k.data.length:Int) - (x.data.length:Int))
    ·exact Or.inl ⟨8,by decide,rfl⟩
    ·rw[if_pos rfl]
     refine Or.inr ⟨k,x,rfl,hc,hx,hk1,hfit,rfl,Kl h hxx hs hc hk1 hfit, ?_⟩;refine⟨(b.bd.put (y:=x.cy k.data) (z:=x) (m:=n) h.tr.sort hxx (Nat.le_refl _) (b.bd.find hxx).1 (b.kd k hkm.1)).mono (by omega),by show w.fs.next≤_;have:=b.nx;omega, ?_,by show w.aq.aV.length≤_;have:=b.pl;omega,fun k' hk'=>b.kd k' (ix.1 hk').1,b.pd⟩;have:=uk s w.aq.kept;show(eS s w.aq.kept).length≤_;have:=b.kl;omega
  ·rw[if_neg hc];exact Or.inl ⟨13,by decide,rfl⟩
theorem H9 (h:RW w) (b:Wb lim n w) (am:eL a.name=true) (hs1:1≤s) (hs2:s≤1073741824) (hs:cF s w.aq.kept=none) (tk:xJ w.fs n a x e (dV w.fs a)):
 qf (fY w s (aD a.dir w.fs.aa) a.name x) s ⟨a.dir,a.name,0⟩=(w,0):=by
 have hne:=tk.ent.ne h.tr;have hfind:=fun j=>dF (f:=w.fs) (d:=aD a.dir w.fs.aa) (nm:=a.name) (x:=x) hne j
 have hfs:cF s (fY w s (aD a.dir w.fs.aa) a.name x).aq.kept=some ⟨s,x.ino,false, []⟩:=by
  show b7 Kept.slot s (jc ltI Kept.slot ⟨s,x.ino,false, []⟩ w.aq.kept)=_;rw[qR (oY hs),if_pos rfl]
 have hdir:aD a.dir (fY w s (aD a.dir w.fs.aa) a.name x).fs.aa=(aD a.dir w.fs.aa).cn a.name:=by
  refine aR ?_;show au a.dir (dG w.fs _ _ _).aa=_;rw[hfind,if_neg (by rw[←tk.H8];exact hne),if_pos tk.H8]
 have rw1:=Gp h tk.ent tk.xe hs1 hs2 hs;have fr1:iJ (fY w s (aD a.dir w.fs.aa) a.name x).fs ((aD a.dir w.fs.aa).cn a.name) a.name:=(Aq tk.ent h.tr).2;unfold qf;rw[hfs];simp only;rw[if_neg (by decide),am,if_pos rfl];by_cases hl:x.aI=1
 ·have hg0:au x.ino (fY w s (aD a.dir w.fs.aa) a.name x).fs.aa=none:=by
   show au x.ino (dG w.fs _ _ _).aa=none;rw[hfind,if_pos rfl,if_pos hl]
  rw[hg0];simp only;have hp1:au x.ino (fY w s (aD a.dir w.fs.aa) a.name x).aq.aV=some x.bare:=by
   show au x.ino (if x.aI=1 then bE x.bare w.aq.aV else w.aq.aV)=_;rw[if_pos hl,bF,if_pos (show x.bare.ino=x.ino from rfl)]
  rw[aR hp1];have hfit:cO (fY w s (aD a.dir w.fs.aa) a.name x).fs 1 (byt x.bare)=true:=by
   have hsum:=w6 h.tr tk.ent tk.xe;have hm:=ml (f:=w.fs) (d:=aD a.dir w.fs.aa) (x:=x) (nm:=a.name);have hff:=h.tr.fits;have hb:byt x.bare=byt x:=rfl;rw[if_pos hl,if_pos hl] at hsum;unfold cO at hff⊢;simp only[Bool.and_eq_true,decide_eq_true_eq] at hff⊢;show((dG w.fs _ _ _).aa.length:Int)+1≤(dG w.fs _ _ _).aA∧bytesOf (dG w.fs _ _ _).aa+byt x.bare≤(dG w.fs _ _ _).aH;rw[hm.1,hm.2.1,hb];omega
  rw[hfit,if_pos rfl];have hk:=rw1.jg hp1;have hnn:=(tK (a:=⟨a.dir,a.name,0⟩) (y:=x.bare) (fs:=(fY w s (aD a.dir w.fs.aa) a.name x).fs) (by show iJ _ (aD a.dir _) a.name;rw[hdir];exact fr1) (by show(aD a.dir _).ino=a.dir;rw[hdir];exact tk.H8) rw1.tr.sort hg0 rfl rfl).1;have hnn':m7 ((fY w s (aD a.dir w.fs.aa) a.name x).fs.set (if x.bare.kind=2 then x.bare.fZ a.dir else x.bare)) ⟨a.dir,a.name,0⟩ x.ino=_:=hnn;rw[hnn'];simp only;rw[hdir];have:=El h tk.ent tk.xe hs hl;unfold rK at this;exact congrArg (fun v=>(v,(0:Int))) this
 ·have hg0:au x.ino (fY w s (aD a.dir w.fs.aa) a.name x).fs.aa=some (x.cX (x.aI - 1)):=by
   show au x.ino (dG w.fs _ _ _).aa=_;rw[hfind,if_pos rfl,if_neg hl]
  rw[hg0];simp only;have hk2:x.kind≠2:=fun hk2=>by
   have h1:=h.tr.sT tk.ent.hx hk2;have h2:=(h.tr.eN tk.ent.hx).2.1;have h3:=zD h.tr tk.ent.hx (fun e1=>h.tr.qd tk.ent.hd tk.ent.mem.1 (by rw[tk.ent.hn,e1]));omega
  rw[if_neg (show¬(x.cX (x.aI - 1)).kind=2 from hk2)];have hnm:=(qc (f:=(fY w s (aD a.dir w.fs.aa) a.name x).fs) (s:=⟨a.dir,a.name,0⟩) (by show iJ _ (aD a.dir _) a.name;rw[hdir];exact fr1) hg0 hk2).1;rw[hnm];show((⟨gT _ (aD a.dir _) a.name _,_⟩:ao),(0:Int))=_;rw[hdir];have:=G6 h tk.ent hs hl;unfold xG at this;exact congrArg (fun v=>(v,(0:Int))) this
end
end Go.Eng
