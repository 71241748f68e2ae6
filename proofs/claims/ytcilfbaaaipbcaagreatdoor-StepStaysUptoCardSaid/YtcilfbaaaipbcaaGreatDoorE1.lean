/- A part of the proofs of the laws of this seat: the engine that reads the program's code, plain functions, or facts of the program's functions. Conditions: none. -/
import Derived.CallsIn
import Derived.Below
import Derived.KernelRfl
import Derived.Laws.Sem
import Derived.Laws.Cells
import Derived.RowKit3
import Derived.Laws.Strings
import Derived.Laws.StructEq
set_option linter.unusedSectionVars false
set_option linter.unusedVariables false
set_option linter.unusedSimpArgs false
set_option linter.unnecessarySimpa false
namespace Go.Eng
open Go
abbrev Str:=List UInt8
structure Entry where
 name:Str
 ino:Int
structure al where
 ino:Int
 kind:Int
 aI:Int
 data:Str
 parent:Int
 entries:List Entry
structure Seen where
 path:Str
 ino:Int
structure Kept where
 slot:Int
 ino:Int
 content:Bool
 data:Str
structure Opn where
 kind:Int
 slot:Int
 a:Str
 b:Str
 data:Str
structure K9 where
 op:Int
 a:Str
 b:Str
 data:Str
structure Shp where
 path:Str
 kind:Int
 data:Str
 first:Int
inductive Ty where
 |int|byte|str|entry|aS|seen|kept|opn|wU|shp|wH|bool|fn|parts|strs
@[reducible] def Ty.T:Ty→Type
 | .int=>Int
 | .byte=>UInt8
 | .str=>Str
 | .entry=>Entry
 | .aS=>al
 | .seen=>Seen
 | .kept=>Kept
 | .opn=>Opn
 | .wU=>K9
 | .shp=>Shp
 | .wH=>Int×Nat
 | .bool=>Bool
 | .fn=>Nat
 | .parts=>Bool×Bool×Bool
 | .strs=>List Str
def Ty.n:Ty→Nat
 | .int=>1
 | .byte=>1
 | .str=>1
 | .entry=>2
 | .aS=>6
 | .seen=>2
 | .kept=>4
 | .opn=>5
 | .wU=>4
 | .shp=>4
 | .wH=>2
 | .bool=>1
 | .fn=>1
 | .parts=>3
 | .strs=>1
inductive At where
 |int (k:IntKind) (n:Int)
 |bool (b:Bool)
 |str (s:Str)
 |sl (τ:Ty) (l:List τ.T)
 |clip (τ:Ty) (l:List τ.T)
 |own (id:Nat)
 |sub (id off len:Nat)
 |ptr (id off:Nat)
 |ft (id i j:Nat)
 |gC (τ:Ty) (x:τ.T) (j:Nat)
 |fnc (f:Nat)
 |clo (id:Nat)
 |fT (id:Nat)
 |iter (id:Nat)
 |yld (id:Nat)
 |gl (τ:Ty) (l:List τ.T)
 |oG
 |mC
 |n_
 |dead
def i64 (n:Int):At:= .int .i64 n
def Ty.enc:(τ:Ty)→τ.T→List At
 | .int,(x:Int)=>[.int .i64 x]
 | .byte,(x:UInt8)=>[.int .u8 x.toNat]
 | .str,(x:Str)=>[.str x]
 | .entry,(x:Entry)=>[.str x.name, .int .i64 x.ino]
 | .aS,(x:al)=>[.int .i64 x.ino, .int .i64 x.kind, .int .i64 x.aI, .str x.data, .int .i64 x.parent, .sl .entry x.entries]
 | .seen,(x:Seen)=>[.str x.path, .int .i64 x.ino]
 | .kept,(x:Kept)=>[.int .i64 x.slot, .int .i64 x.ino, .bool x.content, .str x.data]
 | .opn,(x:Opn)=>[.int .i64 x.kind, .int .i64 x.slot, .str x.a, .str x.b, .str x.data]
 | .wU,(x:K9)=>[.int .i64 x.op, .str x.a, .str x.b, .str x.data]
 | .shp,(x:Shp)=>[.str x.path, .int .i64 x.kind, .str x.data, .int .i64 x.first]
 | .wH,(x:Int×Nat)=>[.int .i64 x.1, .fnc x.2]
 | .bool,(x:Bool)=>[.bool x]
 | .fn,(x:Nat)=>[.fnc x]
 | .parts,(x:Bool×Bool×Bool)=>[.bool x.1, .bool x.2.1, .bool x.2.2]
 | .strs,(x:List Str)=>[.sl .str x]
def Ty.dec:(τ:Ty)→List At→Option τ.T
 | .int,[.int .i64 x]=>some x
 | .byte,[.int .u8 x]=>match decide (0≤x∧x<256) with|true=>some (UInt8.ofNat x.toNat) |false=>none
 | .str,[.str x]=>some x
 | .entry,[.str a, .int .i64 b]=>some ⟨a,b⟩
 | .aS,[.int .i64 a, .int .i64 b, .int .i64 c, .str d, .int .i64 e, .sl .entry l]=>some ⟨a,b,c,d,e,l⟩
 | .seen,[.str a, .int .i64 b]=>some ⟨a,b⟩
 | .kept,[.int .i64 a, .int .i64 b, .bool c, .str d]=>some ⟨a,b,c,d⟩
 | .opn,[.int .i64 a, .int .i64 b, .str c, .str d, .str e]=>some ⟨a,b,c,d,e⟩
 | .wU,[.int .i64 a, .str c, .str d, .str e]=>some ⟨a,c,d,e⟩
 | .shp,[.str a, .int .i64 b, .str c, .int .i64 d]=>some ⟨a,b,c,d⟩
 | .wH,[.int .i64 a, .fnc b]=>some (a,b)
 | .bool,[.bool a]=>some a
 | .fn,[.fnc a]=>some a
 | .parts,[.bool a, .bool b, .bool c]=>some (a,b,c)
 | .strs,[.sl .str l]=>some l
 |_,_=>none
def hO:At→At
 | .clip τ l=> .sl τ l
 |x=>x
def Ty.po (τ:Ty) (l:List At):Option τ.T:=τ.dec (l.map hO)
def dM:(τ τ':Ty)→List τ.T→Option (List τ'.T)
 | .int, .int,l=>some l
 | .byte, .byte,l=>some l
 | .str, .str,l=>some l
 | .entry, .entry,l=>some l
 | .aS, .aS,l=>some l
 | .seen, .seen,l=>some l
 | .kept, .kept,l=>some l
 | .opn, .opn,l=>some l
 | .wU, .wU,l=>some l
 | .shp, .shp,l=>some l
 | .wH, .wH,l=>some l
 | .bool, .bool,l=>some l
 | .fn, .fn,l=>some l
 | .parts, .parts,l=>some l
 | .strs, .strs,l=>some l
 |_,_,_=>none
inductive V1 where
 |one (x:At)
 |agg (l:List At)
inductive AV where
 |v (x:V1)
 |tup (l:List V1)
 |undef
 |dead
abbrev AV.one (x:At):AV:= .v (.one x)
abbrev AV.agg (l:List At):AV:= .v (.agg l)
inductive Ex where
 |normal
 |exit (id:Nat)
 |goto (l:Nat)
 |ret
inductive AB where
 |cells (l:List At)
 |row (τ:Ty) (l:List τ.T)
 |clo (f:Nat) (first captured:List At)
 |iter (s:Str) (pos:Nat)
 |nz (x:At) (n:Nat)
 |loop (ph:Bool) (n fid rid:Nat) (az:List (Nat×AV))
 |over (e:Ex)
 |map (ag:Bool) (κ τ:Ty) (l:List (κ.T×τ.T×Nat)) (ck:Nat)
 |gone
abbrev cv:=List (Nat×AV)
abbrev Mem:=List (Nat×AB)
structure St where
 az:cv
 mem:Mem
 nx:Nat
universe u
def look {α:Type u} (n:Nat):List (Nat×α)→Option α
 | [] =>none
 |x::r=>match Nat.beq x.1 n with|true=>some x.2|false=>look n r
noncomputable def BX {α:Type} (n:Nat) (f:Nat→Option α):Option α:=
 open Classical in if h:∃y,∀c,n≤c→f c=some y then some (Classical.choose h) else none
def ae {α:Type} (b:Bool) (x y:Option α):Option α:=match b with|true=>x|false=>y
def aj {α β:Type} (o:Option α) (f:α→Option β):Option β:=match o with|some x=>f x|none=>none
def LIM:Nat:=4294967296
def aT {α:Type} (n:Nat) (x:Option α):Option α:=match Nat.ble n LIM with|true=>x|false=>none
inductive TK where
 |int (k:IntKind)
 |bool
 |str
 |struct (fs:List (Nat×TypeId))
 |array (n:Nat) (e:TypeId)
 |slice (τ:Ty) (e:TypeId)
 |map (κ τ:Ty) (kt e:TypeId)
 |ptr (e:TypeId)
 |other
structure TI where
 agg:Bool
 size:Nat
 zero:V1
 k:TK
structure Spec where
 X:Type
 Y:Type
 pat:List AV→Option X
 f:X→Option Y
 enc:Y→AV
structure kM where
 X:Type
 Y:Type
 pat:List AV→Option X
 g:X→Option Y
 enc:Y→AB
def kM.f (s:kM) (x:s.X):Option AB:=match s.g x with|some y=>some (s.enc y) |none=>none
structure Ann where
 az:List Nat
 rows:List (Nat×Nat×Ty)
 mem:List Nat
 nx:Nat
 sls:List Nat:= []
 slm:List Nat:= []
 aeI:List (Nat×Nat×Nat×Ty):= []
 gV:List (Nat×Nat×Ty):= []
inductive EK where
 |i|b|s
structure Cfg where
 T:List (Nat×TI)
 spec:List (Nat×Spec):= []
 ba:List (Nat×(τ:Ty)×List τ.T)
 eqs:List (Nat×List EK)
 N:Nat
 fuel:Nat
 loops:List (Nat×Ann):= []
 XB:List (Nat×Ann):= []
 blocks:List (Nat×Ann):= []
 ovl:List Nat:= []
 gS:Option Ann:=none
 fid:Nat:=0
 rnd:Bool:=false
 J8:List (Nat×List Nat):= []
 fresh:List (Nat×kM):= []
 gns:List (Nat×Spec):= []
 ZX:Bool:=false
 qb:Bool:=false
 cl:List Nat:= []
def Cfg.ti (c:Cfg) (t:TypeId):Option TI:=look t c.T
def Cfg.elem (c:Cfg) (t:TypeId):Option Ty:=
 match c.ti t with
 |some {k:= .slice τ _, .. }=>some τ
 |_=>none
def OFF:Nat:=1000000
def jy {α:Type u} (n:Nat) (r:List (Nat×α)):Option α:=match Nat.blt n OFF with|true=>look n r|false=>none
def wk (c:Cfg) (t:TypeId):Value→Option AV
 | .bool b=>some (.one (.bool b))
 | .int k n=>some (.one (.int k n))
 | .string s=>some (.one (.str s.data.toList))
 | .slice none 0 0=>match c.elem t with|some τ=>some (.one (.clip τ [])) |none=>none
 | .pointer none=>some (.one .oG)
 | .nilFunc=>some (.one .mC)
 | .map none=>some (.one .n_)
 |_=>none
def ev (c:Cfg) (r:cv) (t:TypeId):Operand→Option AV
 | .tmp n=>jy n r
 | .const v=>wk c t v
 | .func f=>some (.one (.fnc f))
 | .global q=>match look q c.ba with|some ⟨τ,l⟩=>some (.one (.gl τ l)) |none=>none
def V1.cells:V1→List At
 | .one x=>[x]
 | .agg l=>l
def evV (c:Cfg) (r:cv) (t:TypeId) (x:Operand):Option V1:=
 match ev c r t x with
 |some (.v y)=>some y
 |_=>none
def evA (c:Cfg) (r:cv) (t:TypeId) (x:Operand):Option At:=
 match ev c r t x with
 |some (.v (.one y))=>some y
 |_=>none
def V1.dw (agg:Bool) (l:List At):Option V1:=
 match agg,l with
 |true,l=>some (.agg l)
 |false,[x]=>some (.one x)
 |false,_=>none
end Go.Eng
namespace Go.Eng
open Go
section
variable {R:Type}
def iV (m:Mem) (p:At) (n:Nat) (k:List At→Option R):Option R:=
 match p with
 | .ptr id off=>match look id m with
  |some (.cells l)=>match Nat.ble (off+n) l.length with|true=>k ((l.drop off).take n) |false=>none
  |_=>none
 | .ft id i j=>match look id m with
  |some (.row τ l)=>match Nat.ble (j+n) τ.n with|true=>aj l[i]? fun x=>k (((τ.enc x).drop j).take n) |false=>none
  |_=>none
 | .gC τ x j=>match Nat.ble (j+n) τ.n with|true=>k (((τ.enc x).drop j).take n) |false=>none
 |_=>none
def cw (m:Mem) (p:At) (k:(τ:Ty)→List τ.T→Option R):Option R:=
 match p with
 | .sl τ l=>k τ l
 | .clip τ l=>k τ l
 | .own id=>match look id m with
  |some (.row τ l)=>k τ l
  |_=>none
 | .sub id off n=>match look id m with
  |some (.row τ l)=>match Nat.ble (off+n) l.length with|true=>k τ ((l.drop off).take n) |false=>none
  |_=>none
 |_=>none
def vU:IntKind→IntKind→Bool
 | .i8, .i8=>true
 | .i16, .i16=>true
 | .i32, .i32=>true
 | .i64, .i64=>true
 | .u8, .u8=>true
 | .u16, .u16=>true
 | .u32, .u32=>true
 | .u64, .u64=>true
 |_,_=>false
def Gi (op:BinOp) (k:IntKind) (x y:Int):Int:=
 match op with
 | .and=>k.wrap (BitVec.ofInt k.bits x&&& BitVec.ofInt k.bits y).toNat
 | .or=>k.wrap (BitVec.ofInt k.bits x|||BitVec.ofInt k.bits y).toNat
 | .xor=>k.wrap (BitVec.ofInt k.bits x^^^BitVec.ofInt k.bits y).toNat
 |_=>k.wrap (BitVec.ofInt k.bits x&&& ~~~BitVec.ofInt k.bits y).toNat
def Hz (op:BinOp) (κ:IntKind) (a b:Int) (k:AV→Option R):Option R:=
 match op with
 | .add=>k (.one (.int κ (κ.wrap (a+b))))
 | .sub=>k (.one (.int κ (κ.wrap (a - b))))
 | .mul=>k (.one (.int κ (κ.wrap (a*b))))
 | .quo=>ae (b==0) none (k (.one (.int κ (κ.wrap (a.tdiv b)))))
 | .rem=>ae (b==0) none (k (.one (.int κ (a.tmod b))))
 | .and=>k (.one (.int κ (Gi .and κ a b)))
 | .or=>k (.one (.int κ (Gi .or κ a b)))
 | .xor=>k (.one (.int κ (Gi .xor κ a b)))
 | .andNot=>k (.one (.int κ (Gi .andNot κ a b)))
 | .eql=>k (.one (.bool (a==b)))
 | .neq=>k (.one (.bool (a !=b)))
 | .lss=>k (.one (.bool (decide (a<b))))
 | .leq=>k (.one (.bool (decide (a≤b))))
 | .gtr=>k (.one (.bool (decide (a>b))))
 | .geq=>k (.one (.bool (decide (a≥b))))
 |_=>none
def uh (op:BinOp) (κ:IntKind) (a b:Int) (k:AV→Option R):Option R:=
 match op with
 | .shl=>ae (decide (b<0)) none (k (.one (.int κ (κ.wrap (a*2^(min b.toNat κ.bits))))))
 | .shr=>ae (decide (b<0)) none (k (.one (.int κ (a.fdiv (2^(min b.toNat κ.bits))))))
 |_=>none
def Ij (op:BinOp) (a b:Str) (k:AV→Option R):Option R:=
 match op with
 | .add=>aT (a.length+b.length) (k (.one (.str (a++b))))
 | .eql=>k (.one (.bool (a==b)))
 | .neq=>k (.one (.bool (!(a==b))))
 | .lss=>k (.one (.bool (Op.bytesLess a b)))
 | .leq=>k (.one (.bool (Op.bytesLess a b||a==b)))
 | .gtr=>k (.one (.bool (!(Op.bytesLess a b||a==b))))
 | .geq=>k (.one (.bool (!Op.bytesLess a b)))
 |_=>none
def JK:EK→At→At→Option Bool
 | .i, .int k a, .int k' b=>match vU k k' with|true=>some (a==b) |false=>none
 | .s, .str a, .str b=>some (a==b)
 | .b, .bool a, .bool b=>some (a==b)
 |_,_,_=>none
def mL:List EK→List At→List At→Option Bool
 | [], [], [] =>some true
 |e::es,x::l,y::l'=>match es with
  | [] =>match l,l' with
   | [], [] =>JK e x y
   |_,_=>none
  |_::_=>match JK e x y,mL es l l' with
   |some a,some b=>some (a&&b)
   |_,_=>none
 |_,_,_=>none
def Bg:BinOp→Bool
 | .shl=>true
 | .shr=>true
 |_=>false
def tx (n:Nat):List Nat→Bool
 | [] =>false
 |m::l=>match Nat.beq m n with|true=>true|false=>tx n l
def tv:Option TI→Bool
 |some {k:= .bool, .. }=>true
 |_=>false
def FC (tb:Bool) (eq:Option (List EK)) (op:BinOp) (x y:AV) (k:AV→Option R):Option R:=
 match x,y with
 | .v (.one (.int κ a)), .v (.one (.int κ' b))=>
  match Bg op with
  |true=>uh op κ a b k
  |false=>match vU κ κ' with|true=>Hz op κ a b k|false=>none
 | .v (.one (.str a)), .v (.one (.str b))=>Ij op a b k
 | .v (.one (.bool a)), .v (.one (.bool b))=>
  match tb,op with
  |true, .eql=>k (.one (.bool (a==b)))
  |true, .neq=>k (.one (.bool (!(a==b))))
  |_,_=>none
 | .v (.agg a), .v (.agg b)=>
  match eq with
  |some es=>match op,mL es a b with
   | .eql,some t=>k (.one (.bool t))
   | .neq,some t=>k (.one (.bool (!t)))
   |_,_=>none
  |none=>none
 |_,_=>none
def unQ (op:UnOp) (x:AV) (k:AV→Option R):Option R:=
 match op,x with
 | .not, .v (.one (.bool b))=>k (.one (.bool (!b)))
 | .neg, .v (.one (.int κ n))=>k (.one (.int κ (κ.wrap (0 - n))))
 |_,_=>none
def jH (len:Nat) (lo hi:Option Int) (k:Nat→Nat→Option R):Option R:=
 match lo,hi with
 |none,none=>k 0 len
 |none,some h=>ae (decide (0≤h∧h≤(len:Int))) (k 0 h.toNat) none
 |some l,none=>ae (decide (0≤l∧l≤(len:Int))) (k l.toNat len) none
 |some l,some h=>ae (decide (0≤h∧h≤(len:Int))) (ae (decide (0≤l∧l≤h)) (k l.toNat h.toNat) none) none
def mV (cap len:Nat) (lo hi:Option Int) (k:Nat→Nat→Option R):Option R:=
 match hi with
 |none=>jH len lo none k
 |some h=>jH cap lo (some h) k
def iQ (m:Mem) (id:Nat):Mem→Option Nat
 | [] =>none
 |x::l=>match look x.1 m with
  |some (.nz (.own i) n)=>match Nat.beq i id with
   |true=>some n
   |false=>iQ m id l
  |_=>iQ m id l
def vj {α:Type} (lo hi:Option Int) (l:List α):List α:=
 match lo,hi with
 |none,none=>l
 |none,some h=>l.take h.toNat
 |some a,none=>l.drop a.toNat
 |some a,some h=>(l.take h.toNat).drop a.toNat
def wz (c:Cfg) (r:cv):Option Operand→Option (Option Int)
 |none=>some none
 |some x=>match evA c r 0 x with
  |some (.int _ n)=>some (some n)
  |_=>none
def By (τ:Ty) (l:List τ.T) (lo hi mx:Option Int) (k:AV→Option R):Option R:=
 match mx,hi with
 |none,_=>jH l.length lo hi fun _ _=>k (.one (.sl τ (vj lo hi l)))
 |some q,some h=>ae (decide (q=h)) (jH l.length lo hi fun _ _=>k (.one (.clip τ (vj lo hi l)))) none
 |some _,none=>none
def CL (τ:Ty) (l:List τ.T) (lo hi mx:Option Int) (k:AV→Option R):Option R:=
 match lo,hi,mx with
 |none,some h,none=>ae (decide (h=(l.length:Int))) (k (.one (.clip τ l))) (By τ l none (some h) none k)
 |lo,hi,mx=>By τ l lo hi mx k
def oN (c:Cfg) (r:cv) (m:Mem) (t:TypeId) (x:At) (lo hi mx:Option Operand) (k:AV→Option R):Option R:=
 match wz c r lo,wz c r hi,wz c r mx with
 |some lo,some hi,some mx=>match c.ti t with
  |some {k:= .str, .. }=>match x,mx with
   | .str s,none=>jH s.length lo hi fun _ _=>k (.one (.str (vj lo hi s)))
   |_,_=>none
  |some {k:= .slice τ0 _, .. }=>match x with
   | .sl τ l=>match Nat.beq τ.n τ0.n with
    |true=>By τ l lo hi mx k
    |false=>none
   | .clip τ l=>match Nat.beq τ.n τ0.n with
    |true=>match c.ZX with|true=>CL τ l lo hi mx k|false=>By τ l lo hi mx k
    |false=>none
   | .own id=>match look id m,mx with
    |some (.row τ l),none=>match Nat.beq τ.n τ0.n with
     |true=>match iQ m id m with
      |none=>jH l.length lo hi fun a b=>k (.one (.sub id a (b - a)))
      |some cp=>mV cp l.length lo hi fun a b=>k (.one (.sub id a (b - a)))
     |false=>none
    |some (.row τ l),some q=>match lo,hi with
     |some a,some b=>ae (decide (0≤q∧q≤(l.length:Int))) (ae (decide (0≤b∧b≤q)) (ae (decide (0≤a∧a≤b)) (k (.one .dead)) none) none) none
     |_,_=>none
    |_,_=>none
   | .sub id off n=>match look id m,mx with
    |some (.row τ l),none=>match Nat.beq τ.n τ0.n with
     |true=>match iQ m id m with
      |none=>mV (max n (l.length - off)) n lo hi fun a b=>k (.one (.sub id (off+a) (b - a)))
      |some cp=>mV (max n (cp - off)) n lo hi fun a b=>k (.one (.sub id (off+a) (b - a)))
     |false=>none
    |some (.row τ l),some q=>match lo,hi with
     |some a,some b=>match a==0,b==0,q==0 with
      |true,true,true=>k (.one (.clip τ []))
      |_,_,_=>none
     |_,_=>none
    |_,_=>none
   |_=>none
  |_=>none
 |_,_,_=>none
def setCells (l:List At) (off:Nat):List At→List At
 | [] =>l
 |x::r=>setCells (l.set off x) (off+1) r
def zS (c:Cfg) (r:cv) (fs:List (Nat×TypeId)) (cells:List At):List (Nat×Operand)→Option (List At)
 | [] =>some cells
 |(i,x)::rest=>
  match fs[i]? with
  |none=>none
  |some (off,t)=>
   match c.ti t,evV c r t x with
   |some ti,some v=>match Nat.beq v.cells.length ti.size,Nat.ble (off+v.cells.length) cells.length with
    |true,true=>zS c r fs (setCells cells off v.cells) rest
    |_,_=>none
   |_,_=>none
def viewAt (m:Mem) (x:At) (k:At→Option R):Option R:=
 match x with
 | .int κ n=>k (.int κ n)
 | .bool b=>k (.bool b)
 | .str s=>k (.str s)
 | .sl τ l=>k (.sl τ l)
 | .clip τ l=>k (.sl τ l)
 | .own id=>cw m (.own id) fun τ l=>k (.sl τ l)
 | .sub id off n=>cw m (.sub id off n) fun τ l=>k (.sl τ l)
 | .fnc f=>k (.fnc f)
 |_=>none
def iR (m:Mem):List At→(List At→Option R)→Option R
 | [],k=>k []
 |x::l,k=>viewAt m x fun y=>iR m l fun l'=>k (y::l')
def iU (m:Mem) (x:AV) (k:AV→Option R):Option R:=
 match x with
 | .v (.one y)=>viewAt m y fun z=>k (.one z)
 | .v (.agg l)=>iR m l fun l'=>k (.agg l')
 |_=>none
def dx (m:Mem):List AV→(List AV→Option R)→Option R
 | [],k=>k []
 |x::l,k=>iU m x fun y=>dx m l fun l'=>k (y::l')
def fg (c:Cfg) (r:cv):List Operand→List TypeId→Option (List AV)
 | [],_=>some []
 |x::l,ts=>match ev c r (ts.headD 0) x,fg c r l ts.tail with
  |some y,some l'=>some (y::l')
  |_,_=>none
def fb (c:Cfg) (r:cv) (f:Operand):Option Nat:=
 match ev c r 0 f with
 |some (.v (.one (.fnc n)))=>some n
 |_=>none
def qy:At→Bool
 | .int _ _=>true
 | .bool _=>true
 | .str _=>true
 | .fnc _=>true
 |_=>false
def zu:List At→Bool
 | [] =>true
 |x::l=>match qy x with|true=>zu l|false=>false
def BW:V1→Bool
 | .one x=>qy x
 | .agg l=>zu l
def GG:List V1→Bool
 | [] =>true
 |x::l=>match BW x with|true=>GG l|false=>false
def zK:AV→Bool
 | .v x=>BW x
 | .tup l=>GG l
 |_=>false
def jD:At→List Nat
 | .own id=>[id]
 | .sub id _ _=>[id]
 |_=> []
def uS:List At→List Nat
 | [] => []
 |x::l=>jD x++uS l
def cV:List AV→List Nat
 | [] => []
 | .v (.one x)::l=>jD x++cV l
 | .v (.agg x)::l=>uS x++cV l
 |_::l=>cV l
def nO (s:Spec) (args:List AV) (k:AV→Option R):Option R:=
 match s.pat args with
 |some x=>aj (s.f x) fun y=>k (s.enc y)
 |none=>none
def BD (c:Cfg) (m:Mem) (t:TypeId) (p:At) (k:AV→Option R):Option R:=
 match c.ti t with
 |some {k:= .str, .. }=>match p with
  | .str s=>k (.one (.int .i64 s.length))
  |_=>none
 |some {k:= .slice _ _, .. }=>match p with
  | .sub _ _ n=>k (.one (.int .i64 n))
  |p=>cw m p fun _ l=>k (.one (.int .i64 l.length))
 |some {k:= .map _ _ _ _, .. }=>match p with
  | .fT id=>match look id m with
   |some (.map _ _ _ l _)=>k (.one (.int .i64 l.length))
   |_=>none
  |_=>none
 |_=>none
def splitK (n:Int):Nat→Nat→(Nat→Option R)→Option R
 |0,_,_=>none
 |m+1,i,k=>ae (n==(i:Int)) (k i) (splitK n m (i+1) k)
def BV (c:Cfg) (m:Mem) (t:TypeId) (p:At) (n:Int) (k:AV→Option R):Option R:=
 match c.ti t with
 |some {k:= .slice τ0 _, .. }=>match p with
  | .sl τ l=>match Nat.beq τ.n τ0.n with
   |true=>ae (decide (0≤n)) (aj l[n.toNat]? fun e=>k (.one (.gC τ e 0))) none
   |false=>none
  | .clip τ l=>match Nat.beq τ.n τ0.n with
   |true=>ae (decide (0≤n)) (aj l[n.toNat]? fun e=>k (.one (.gC τ e 0))) none
   |false=>none
  | .own id=>match look id m with
   |some (.row τ l)=>match Nat.beq τ.n τ0.n with
    |true=>ae (decide (0≤n∧n<(l.length:Int))) (k (.one (.ft id n.toNat 0))) none
    |false=>none
   |_=>none
  | .sub id off len=>match look id m with
   |some (.row τ _)=>match Nat.beq τ.n τ0.n with
    |true=>ae (decide (0≤n∧n<(len:Int))) (k (.one (.ft id (off+n.toNat) 0))) none
    |false=>none
   |_=>none
  |_=>none
 |some {k:= .array len e, .. }=>match p,c.ti e with
  | .ptr id off,some te=>splitK n len 0 fun i=>k (.one (.ptr id (off+i*te.size)))
  | .gl τ l,some te=>match Nat.beq τ.n te.size,Nat.beq l.length len with
   |true,true=>ae (decide (0≤n)) (aj l[n.toNat]? fun e=>k (.one (.gC τ e 0))) none
   |_,_=>none
  |_,_=>none
 |_=>none
def ld (τ:Ty):Nat→List At→Option (List τ.T)
 |0, [] =>some []
 |0,_=>none
 |n+1,l=>match τ.po (l.take τ.n),ld τ n (l.drop τ.n) with
  |some x,some r=>some (x::r)
  |_,_=>none
def pf (c:Cfg) (r:cv) (t:TypeId) (size:Nat) (cells:List At):List (Nat×Operand)→Option (List At)
 | [] =>some cells
 |(i,x)::rest=>
  match evV c r t x with
  |some v=>match Nat.beq v.cells.length size,Nat.ble (i*size+v.cells.length) cells.length with
   |true,true=>pf c r t size (setCells cells (i*size) v.cells) rest
   |_,_=>none
  |none=>none
def ly {α:Type} (l:List α):Nat→List α
 |0=> []
 |n+1=>l++ly l n
def kx (c:Cfg) (r:cv):List (Nat×Operand)→List Nat
 | [] => []
 |(_,x)::l=>match ev c r 0 x with
  |some v=>cV [v]++kx c r l
  |none=>kx c r l
def jJ (c:Cfg) (r:cv) (m:Mem) (o:Oper) (k:AV→Option R):Option R:=
 match o.op with
 | .move x=>aj (ev c r o.type x) k
 | .assign x=>aj (ev c r o.type x) k
 | .pick b x y=>match evA c r 0 b with
  |some (.bool t)=>ae t (aj (ev c r o.type x) k) (aj (ev c r o.type y) k)
  |_=>none
 | .load t a=>match c.ti t,evA c r 0 a with
  |some ti,some p=>iV m p ti.size fun l=>aj (V1.dw ti.agg l) fun v=>k (.v v)
  |_,_=>none
 | .nilCheck x=>match evA c r 0 x with
  |some (.ptr id off)=>k (.one (.ptr id off))
  |some (.ft id i j)=>k (.one (.ft id i j))
  |some (.gC τ x j)=>k (.one (.gC τ x j))
  |some (.gl τ l)=>k (.one (.gl τ l))
  |some (.fnc f)=>k (.one (.fnc f))
  |some (.clo f)=>k (.one (.clo f))
  |_=>none
 | .fieldAddr s x f=>match c.ti s,evA c r 0 x with
  |some {k:= .struct fs, .. },some p=>match fs[f]? with
   |some (off,_)=>match p with
    | .ptr id o=>k (.one (.ptr id (o+off)))
    | .ft id i j=>k (.one (.ft id i (j+off)))
    | .gC τ x j=>k (.one (.gC τ x (j+off)))
    |_=>none
   |none=>none
  |_,_=>none
 | .field t x f=>match c.ti t,evV c r 0 x with
  |some {k:= .struct fs, .. },some (.agg l)=>match fs[f]? with
   |some (off,t')=>match c.ti t' with
    |some ti=>match Nat.ble (off+ti.size) l.length with
     |true=>aj (V1.dw ti.agg ((l.drop off).take ti.size)) fun v=>k (.v v)
     |false=>none
    |none=>none
   |none=>none
  |_,_=>none
 | .indexAddr t x i=>match evA c r t x,evA c r 0 i with
  |some p,some (.int _ n)=>BV c m t p n k
  |_,_=>none
 | .index t x i=>match c.ti t,evV c r t x,evA c r 0 i with
  |some {k:= .str, .. },some (.one (.str s)),some (.int _ n)=>ae (decide (0≤n)) (aj s[n.toNat]? fun b=>k (.one (.int .u8 b.toNat))) none
  |_,_,_=>none
 | .build t parts=>match c.ti t with
  |some {k:= .struct fs,zero:= .agg z, .. }=>aj (zS c r fs z parts.toList) fun l=>k (.agg l)
  |_=>none
 | .binOp op t x y _=>match ev c r t x,ev c r t y with
  |some a,some b=>FC (tv (c.ti t)) (look t c.eqs) op a b k
  |_,_=>none
 | .unOp op t x=>match ev c r t x with
  |some a=>unQ op a k
  |none=>none
 | .convert s d x=>match c.ti s,c.ti d,ev c r s x with
  |some {k:= .int _, .. },some {k:= .int κ, .. },some (.v (.one (.int _ n)))=>k (.one (.int κ (κ.wrap n)))
  |some {k:= .str, .. },some {k:= .str, .. },some (.v (.one (.str a)))=>k (.one (.str a))
  |some {k:= .slice _ e, .. },some {k:= .str, .. },some (.v (.one p))=>match c.ti e with
   |some {k:= .int .u8, .. }=>cw m p fun τ l=>aj (dM τ .byte l) fun b=>k (.one (.str b))
   |_=>none
  |some {k:= .int _, .. },some {k:= .str, .. },some (.v (.one (.int _ n)))=>k (.one (.str (Utf8.encode n).data.toList))
  |_,_,_=>none
 | .extract x i=>match ev c r 0 x with
  |some (.tup l)=>match l[i]? with
   |some v=>k (.v v)
   |none=>none
  |_=>none
 | .slice t x lo hi mx=>match evA c r t x with
  |some p=>oN c r m t p lo hi mx k
  |none=>none
 | .makeFunc (.func f) p q=>match p.toList,q.toList with
  | [], [] =>k (.one (.fnc f))
  |_,_=>none
 | .call {callee:= .builtin .len,args,argTypes}=>match args.toList,argTypes.toList with
  |[x],[t]=>match evA c r t x with
   |some p=>BD c m t p k
   |none=>none
  |_,_=>none
 | .call {callee:= .value f,args,argTypes}=>match fb c r f,fg c r args.toList argTypes.toList with
  |some n,some as=>match look n c.spec with
   |some s=>dx m as fun as'=>nO s as' fun y=>match zK y,cV as with
    |true,_=>k y
    |false, [] =>k y
    |_,_=>none
   |none=>none
  |_,_=>none
 | .buildSlice t n parts=>match kx c r parts.toList with
  | [] =>match c.ti t with
   |some {k:= .slice τ e, .. }=>match c.ti e with
    |some te=>match (match Nat.ble (n*te.size) 16777216 with|true=>pf c r e te.size (ly te.zero.cells n) parts.toList|false=>none) with
     |some cells=>aj (ld τ n cells) fun l=>k (.one (.sl τ l))
     |none=>none
    |none=>none
   |_=>none
  |_=>none
 |_=>none
end
noncomputable section
variable {R:Type}
def St.put (c:Cfg) (σ:St) (dst:Option Nat) (v:AV) (k:St→Option R):Option R:=
 match dst with
 |none=>k σ
 |some d=>match Nat.blt d c.N with
  |true=>match Nat.blt d OFF with
   |true=>k {az:=(d,v)::σ.az,mem:=σ.mem,nx:=σ.nx}
   |false=>none
  |false=>none
def St.new (σ:St) (b:AB):St:={az:=σ.az,mem:=(σ.nx,b)::σ.mem,nx:=σ.nx+1}
def St.set (σ:St) (id:Nat) (b:AB):St:={az:=σ.az,mem:=(id,b)::σ.mem,nx:=σ.nx}
def Bm (id:Nat) (own:At) (sub:Nat→Nat→At):At→At
 | .own i=>match Nat.beq i id with|true=>own|false=> .own i
 | .sub i o n=>match Nat.beq i id with|true=>sub o n|false=> .sub i o n
 | .ft i a b=>match Nat.beq i id with|true=> .dead|false=> .ft i a b
 | .ptr i a=>match Nat.beq i id with|true=> .dead|false=> .ptr i a
 | .clo i=>match Nat.beq i id with|true=> .dead|false=> .clo i
 | .fT i=>match Nat.beq i id with|true=> .dead|false=> .fT i
 | .iter i=>match Nat.beq i id with|true=> .dead|false=> .iter i
 | .yld i=>match Nat.beq i id with|true=> .dead|false=> .yld i
 |x=>x
def E5 (f:At→At):V1→V1
 | .one x=> .one (f x)
 | .agg l=> .agg (l.map f)
def IE (f:At→At):AV→AV
 | .v x=> .v (E5 f x)
 | .tup l=> .tup (l.map (E5 f))
 | .undef=> .undef
 | .dead=> .dead
def jw (f:At→At):cv→cv
 | [] => []
 |x::r=>(x.1,IE f x.2)::jw f r
def zx (f:At→At):AB→AB
 | .cells l=> .cells (l.map f)
 | .row τ l=> .row τ l
 | .clo g a b=> .clo g (a.map f) (b.map f)
 | .iter s p=> .iter s p
 | .nz x n=> .nz (f x) n
 | .loop ph n fid rid az=> .loop ph n fid rid (jw f az)
 | .over e=> .over e
 | .map ag κ τ l ck=> .map ag κ τ l ck
 | .gone=> .gone
def jO (f:At→At):Mem→Mem
 | [] => []
 |x::r=>(x.1,zx f x.2)::jO f r
def Bq {τ:Ty} (id:Nat) (l:List τ.T):At→At:=Bm id (.sl τ l) fun _ _=> .dead
def vW (id:Nat):At→At:=Bm id .dead fun _ _=> .dead
def freeze (id:Nat) (σ:St) (k:St→Option R):Option R:=
 match look id σ.mem with
 |some (.row τ l)=>k {az:=jw (Bq id l) σ.az,mem:=(id, .gone)::jO (Bq id l) σ.mem,nx:=σ.nx}
 |_=>k σ
def fm:List Nat→St→(St→Option R)→Option R
 | [],σ,k=>k σ
 |id::l,σ,k=>freeze id σ fun σ'=>fm l σ' k
def rewrite (id:Nat) (b:AB) (σ:St):St:={az:=jw (vW id) σ.az,mem:=(id,b)::jO (vW id) σ.mem,nx:=σ.nx}
def sx (τ:Ty) (n nx:Nat):At:=match n with|0=> .clip τ [] |_=> .own nx
def storeAt (σ:St) (p:At) (v:V1) (k:St→Option R):Option R:=
 match p with
 | .ptr id off=>match look id σ.mem with
  |some (.cells l)=>match Nat.ble (off+v.cells.length) l.length with
   |true=>k (σ.set id (.cells (setCells l off v.cells)))
   |false=>none
  |_=>none
 | .ft id i j=>match look id σ.mem with
  |some (.row τ l)=>match Nat.ble (j+v.cells.length) τ.n with
   |true=>aj l[i]? fun e=>aj (τ.po (setCells (τ.enc e) j v.cells)) fun e'=>k (σ.set id (.row τ (l.set i e')))
   |false=>none
  |_=>none
 |_=>none
def wu (c:Cfg) (o:Oper) (σ:St) (τ:Ty) (x:At) (ys:List τ.T) (k:St→Option R):Option R:=
 match x with
 | .clip τ' [] =>aj (dM τ' τ []) fun l=>aT (l.length+ys.length) ((σ.new (.row τ ys)).put c o.dst (.one (.own σ.nx)) k)
 | .clip τ' (a::l)=>match ys with
  | [] =>none
  |y::ys=>aj (dM τ' τ (a::l)) fun l=>aT (l.length+(y::ys).length) ((σ.new (.row τ (l++y::ys))).put c o.dst (.one (.own σ.nx)) k)
 | .own id=>match look id σ.mem with
  |some (.row τ' l)=>aj (dM τ' τ l) fun l=>aT (l.length+ys.length) ((rewrite id (.row τ (l++ys)) σ).put c o.dst (.one (.own id)) k)
  |_=>none
 | .sub id off n=>match look id σ.mem with
  |some (.row τ' l)=>ae (Nat.ble (off+n+ys.length) l.length) (aj (dM τ' τ l) fun l=>
   (σ.set id (.row τ (l.take (off+n)++(ys++l.drop (off+n+ys.length))))).put c o.dst (.one (.sub id off (n+ys.length))) k) none
  |_=>none
 |_=>none
def yd (c:Cfg) (o:Oper) (σ:St) (τ:Ty) (x:At) (z:τ.T) (n:Int) (k:St→Option R):Option R:=
 match x with
 | .sub id off m=>match look id σ.mem,iQ σ.mem id σ.mem with
  |some (.row τ' l),some cp=>ae (decide (0≤n)) (aT (m+n.toNat) (ae (Nat.ble (off+m) l.length) (ae (Nat.blt (cp - off) (m+n.toNat))
   (aj (dM τ' τ l) fun l=>(σ.new (.row τ ((l.drop off).take m++List.replicate n.toNat z))).put c o.dst (.one (.own σ.nx)) k) none) none)) none
  |_,_=>none
 | .clip τ' l=>ae (decide (0<n)) (aT (l.length+n.toNat) (aj (dM τ' τ l) fun l=>(σ.new (.row τ (l++List.replicate n.toNat z))).put c o.dst (.one (.own σ.nx)) k)) none
 |_=>none
def qk (id:Nat):At→At
 | .own i=>match Nat.beq i id with|true=> .dead|false=> .own i
 |x=>x
def Ec (id:Nat) (b:AB) (σ:St):St:={az:=jw (qk id) σ.az,mem:=(id,b)::jO (qk id) σ.mem,nx:=σ.nx}
def EY (c:Cfg) (o:Oper) (σ:St) (τ0:Ty) (id off n id2 off2 n2:Nat) (k:St→Option R):Option R:=
 match look id σ.mem,look id2 σ.mem with
 |some (.row τ l),some (.row τ2 l2)=>match Nat.beq τ.n τ0.n with
  |true=>ae (Nat.ble (off2+min n2 n) l2.length) (ae (Nat.ble off l.length) (aj (dM τ2 τ l2) fun l2=>
   ae (Nat.ble (off+min n2 n) l.length)
    ((σ.set id (.row τ (l.take off++((l2.drop off2).take (min n2 n)++l.drop (off+min n2 n))))).put c o.dst (.one (.int .i64 (min n2 n:Nat))) k)
    ((Ec id (.row τ (l.take off++(l2.drop off2).take (min n2 n))) σ).put c o.dst (.one (.int .i64 (min n2 n:Nat))) k)) none) none
  |false=>none
 |_,_=>none
def Ey (c:Cfg) (o:Oper) (σ:St) (τ0:Ty) (z:List At) (x:At) (k:St→Option R):Option R:=
 match x with
 | .sub id off n=>match look id σ.mem with
  |some (.row τ l)=>match Nat.beq τ.n τ0.n with
   |true=>aj (τ.po z) fun z=>ae (Nat.ble (off+n) l.length)
    ((σ.set id (.row τ (l.take off++(List.replicate n z++l.drop (off+n))))).put c o.dst (.tup []) k) none
   |false=>none
  |_=>none
 |_=>none
def Qu (c:Cfg) (o:Oper) (σ:St) (x:At) (k:St→Option R):Option R:=
 match x with
 | .own id=>match look id σ.mem with
  |some (.row _ l)=>BX l.length fun n=>(σ.new (.nz (.own id) n)).put c o.dst (.one (.int .i64 n)) k
  |_=>none
 | .clip _ l=>match c.ZX with|true=>σ.put c o.dst (.one (.int .i64 (l.length:Int))) k|false=>none
 |_=>none
def bA (s:Str) (pos:Nat):Nat×Nat:=Utf8.decode ⟨s.toArray⟩ pos
def Jo (c:Cfg) (o:Oper) (σ:St) (x:At) (k:St→Option R):Option R:=
 match x with
 | .iter id=>match look id σ.mem with
  |some (.iter s pos)=>ae (Nat.blt pos s.length)
   ((σ.set id (.iter s (pos+(bA s pos).2))).put c o.dst (.tup [.one (.bool true), .one (.int .i64 pos), .one (.int .i32 (bA s pos).1)]) k)
   (σ.put c o.dst (.tup [.one (.bool false)]) k)
  |_=>none
 |_=>none
def Ay (c:Cfg) (o:Oper) (σ:St) (τ0:Ty) (x:At) (τ':Ty) (src:List τ'.T) (k:St→Option R):Option R:=
 match x with
 | .own id=>match look id σ.mem with
  |some (.row τ l)=>match Nat.beq τ.n τ0.n with
   |true=>aj (dM τ' τ src) fun src=>
    (σ.set id (.row τ (src.take l.length++l.drop src.length))).put c o.dst (.one (.int .i64 (min src.length l.length:Nat))) k
   |false=>none
  |_=>none
 | .sub id off n=>match look id σ.mem with
  |some (.row τ l)=>match Nat.beq τ.n τ0.n with
   |true=>ae (Nat.ble (off+n) l.length) (aj (dM τ' τ src) fun src=>
    (σ.set id (.row τ (l.take off++(src.take n++(l.drop off).drop (min src.length n))))).put c o.dst (.one (.int .i64 (min src.length n:Nat))) k) none
   |false=>none
  |_=>none
 |_=>none
def pB:List AV→Option (List At)
 | [] =>some []
 | .v (.one x)::l=>match pB l with
  |some r=>some (x::r)
  |none=>none
 |_=>none
def pD:(κ:Ty)→κ.T→κ.T→Bool
 | .int,(a:Int),(b:Int)=>a==b
 | .str,(a:Str),(b:Str)=>a==b
 |_,_,_=>false
def keyOf:(κ:Ty)→At→Option κ.T
 | .int, .int .i64 n=>some n
 | .str, .str s=>some s
 |_,_=>none
def Jb:Ty→Ty→Bool
 | .int, .int=>true
 | .str, .str=>true
 |_,_=>false
def kT {κ τ:Ty} (key:κ.T):List (κ.T×τ.T×Nat)→(τ.T→Nat→Option R)→Option R→Option R
 | [],_,kn=>kn
 |x::l,kv,kn=>ae (pD κ x.1 key) (kv x.2.1 x.2.2) (kT key l kv kn)
def Cs {κ τ:Ty} (key:κ.T):List (κ.T×τ.T×Nat)→Bool
 | [] =>false
 |x::l=>match pD κ x.1 key with|true=>true|false=>Cs key l
def wJ {κ τ:Ty} (key:κ.T) (v:τ.T) (ck:Nat):List (κ.T×τ.T×Nat)→List (κ.T×τ.T×Nat)
 | [] =>[(key,v,ck)]
 |x::l=>match pD κ x.1 key with|true=>(x.1,v,x.2.2)::l|false=>x::wJ key v ck l
def H_ {κ τ:Ty} (key:κ.T) (ck:Nat) (l:List (κ.T×τ.T×Nat)):Nat:=match Cs key l with|true=>ck|false=>ck+1
def IJ {κ τ:Ty} (b:Int) (v:τ.T):List (κ.T×τ.T×Nat)→Option (List (κ.T×τ.T×Nat))
 | [] =>none
 |x::l=>match ((x.2.2:Int)==b) with|true=>some ((x.1,v,x.2.2)::l) |false=>match IJ b v l with|some l'=>some (x::l') |none=>none
def mM (ok:Bool) (y:V1) (b:Bool):AV:=match ok with|true=> .tup [y, .one (.bool b)] |false=> .v y
def q9 (c:Cfg) (σ:St) (t:TypeId) (x:Operand) (i:Operand) (kk:(id:Nat)→(ag:Bool)→(κ τ:Ty)→List (κ.T×τ.T×Nat)→Nat→κ.T→TI→Option R):Option R:=
 match c.ti t with
 |some {k:= .map κ _ _ e, .. }=>match evA c σ.az 0 x,evA c σ.az 0 i,c.ti e with
  |some (.fT id),some ki,some te=>match look id σ.mem with
   |some (.map ag κ' τ l ck)=>match Jb κ κ' with
    |true=>match keyOf κ' ki with
     |some key=>kk id ag κ' τ l ck key te
     |none=>none
    |false=>none
   |_=>none
  |_,_,_=>none
 |_=>none
def V1.is (ag:Bool):V1→Bool
 | .one _=> !ag
 | .agg _=>ag
def Jt (c:Cfg) (r:cv):Option Operand→Bool
 |none=>true
 |some n=>match evA c r 0 n with
  |some (.int _ _)=>true
  |_=>false
def yt (c:Cfg) (o:Oper) (σ:St) (t:TypeId) (n:Option Operand) (k:St→Option R):Option R:=
 match Jt c σ.az n with
 |true=>match c.ti t with
  |some {k:= .map κ τ _ e, .. }=>match c.ti e with
   |some te=>(σ.new (.map te.agg κ τ [] 0)).put c o.dst (.one (.fT σ.nx)) k
   |none=>none
  |_=>none
 |false=>none
def vZ (c:Cfg) (o:Oper) (σ:St) (t:TypeId) (x i:Operand) (ok:Bool) (k:St→Option R):Option R:=
 q9 c σ t x i fun id ag κ τ l ck key te=>kT key l (fun v _=>aj (V1.dw ag (τ.enc v)) fun y=>(σ.set id (.map ag κ τ l ck)).put c o.dst (mM ok y true) k) ((σ.set id (.map ag κ τ l ck)).put c o.dst (mM ok te.zero false) k)
def v_ (c:Cfg) (o:Oper) (σ:St) (t:TypeId) (x i v:Operand) (k:St→Option R):Option R:=
 q9 c σ t x i fun id ag κ τ l ck key te=>match evV c σ.az 0 v with
  |some v=>match v.is ag,τ.po v.cells with
   |true,some v=>(σ.set id (.map ag κ τ (wJ key v ck l) (H_ key ck l))).put c o.dst .undef k
   |_,_=>none
  |none=>none
def Bt (c:Cfg) (o:Oper) (σ:St) (t:TypeId) (x i:Operand) (k:St→Option R):Option R:=
 q9 c σ t x i fun id ag κ τ l ck key te=>kT key l (fun v b=>aj (V1.dw ag (τ.enc v)) fun y=>σ.put c o.dst (.tup [y, .one (.int .i64 b)]) k)
  (match te.zero.is ag with
   |true=>aj (τ.po te.zero.cells) fun z=>(σ.set id (.map ag κ τ (l++[(key,z,ck)]) (ck+1))).put c o.dst (.tup [te.zero, .one (.int .i64 ck)]) k
   |false=>none)
def Fp (c:Cfg) (o:Oper) (σ:St) (t:TypeId) (x s v:Operand) (k:St→Option R):Option R:=
 match evA c σ.az 0 x,evA c σ.az 0 s,evV c σ.az 0 v with
  |some (.fT id),some (.int _ b),some v=>match look id σ.mem with
   |some (.map ag κ τ l ck)=>match v.is ag,τ.po v.cells with
    |true,some v=>aj (IJ b v l) fun l'=>(σ.set id (.map ag κ τ l' ck)).put c o.dst .undef k
    |_,_=>none
   |_=>none
  |_,_,_=>none
def both (x y:Option R):Option R:=open Classical in if x=y then x else none
def BS:Operand→Bool
 | .const (.slice none 0 0)=>true
 |_=>false
def G5 (x:At) (k:Bool→Option R):Option R:=
 match x with
 | .sl _ l=>ae (List.isEmpty l) (both (k true) (k false)) (k false)
 | .clip _ l=>ae (List.isEmpty l) (both (k true) (k false)) (k false)
 |_=>none
def jE (c:Cfg) (o:Oper) (σ:St) (k:St→Option R):Option R:=
 match o.op with
 | .alloc t=>match c.ti t with
  |some ti=>(σ.new (.cells ti.zero.cells)).put c o.dst (.one (.ptr σ.nx 0)) k
  |none=>none
 | .box t x=>match evV c σ.az t x with
  |some v=>(σ.new (.cells v.cells)).put c o.dst (.one (.ptr σ.nx 0)) k
  |none=>none
 | .buildSlice t n parts=>fm (kx c σ.az parts.toList) σ fun σ=>match c.ti t with
  |some {k:= .slice τ e, .. }=>match c.ti e with
   |some te=>match (match Nat.ble (n*te.size) 16777216 with|true=>pf c σ.az e te.size (ly te.zero.cells n) parts.toList|false=>none) with
    |some cells=>aj (ld τ n cells) fun l=>(σ.new (.row τ l)).put c o.dst (.one (sx τ n σ.nx)) k
    |none=>none
   |none=>none
  |_=>none
 | .makeSlice t n m=>match c.ti t,evA c σ.az 0 n,evA c σ.az 0 m with
  |some {k:= .slice τ e, .. },some (.int _ a),some (.int _ b)=>match c.ti e with
   |some te=>ae (decide (0≤a∧a=b)) (aT a.toNat (aj (τ.po te.zero.cells) fun z=>(σ.new (.row τ (List.replicate a.toNat z))).put c o.dst (.one (.own σ.nx)) k)) none
   |none=>none
  |_,_,_=>none
 | .store t a x=>fm (kx c σ.az (match evA c σ.az 0 a with|some (.ft _ _ _)=>[(0,x)] |_=> [])) σ fun σ=>match evA c σ.az 0 a,evV c σ.az t x,c.ti t with
  |some p,some v,some ti=>match Nat.beq v.cells.length ti.size with
   |true=>storeAt σ p v fun σ'=>σ'.put c o.dst .undef k
   |false=>none
  |_,_,_=>none
 | .range t x=>match c.ti t,evA c σ.az t x with
  |some {k:= .str, .. },some (.str s)=>(σ.new (.iter s 0)).put c o.dst (.one (.iter σ.nx)) k
  |_,_=>none
 | .makeMap t n=>yt c o σ t n k
 | .lookup t x i ok=>vZ c o σ t x i ok k
 | .mapUpdate t x i v=>v_ c o σ t x i v k
 | .insert t x i v=>v_ c o σ t x i v k
 | .mapEntry t x i=>Bt c o σ t x i k
 | .entryStore t x s v=>Fp c o σ t x s v k
 | .next x true=>match evA c σ.az 0 x with
  |some x=>Jo c o σ x k
  |none=>none
 | .makeFunc (.func f) first captured=>match fg c σ.az first.toList [],fg c σ.az captured.toList [] with
  |some a,some b=>match pB a,pB b with
   |some a,some b=>(σ.new (.clo f a b)).put c o.dst (.one (.clo σ.nx)) k
   |_,_=>none
  |_,_=>none
 | .binOp op t x y _=>match BS y,c.ti t,evA c σ.az t x with
  |true,some {k:= .slice _ _, .. },some p=>match op with
   | .eql=>G5 p fun b=>σ.put c o.dst (.one (.bool b)) k
   | .neq=>G5 p fun b=>σ.put c o.dst (.one (.bool (!b))) k
   |_=>none
  |_,_,_=>none
 | .call {callee:= .builtin .append,args,argTypes}=>match args.toList,argTypes.toList with
  |[x,y],[t,t']=>match c.ti t,Nat.beq t t' with
   |some {k:= .slice τ e, .. },true=>match c.ti e,evA c σ.az t x,evA c σ.az t y with
    |some _,some x,some y=>cw σ.mem y fun τ' l=>aj (dM τ' τ l) fun l=>wu c o σ τ x l k
    |_,_,_=>none
   |some {k:= .slice τ e, .. },false=>match c.ti t',c.ti e,evA c σ.az t x,evA c σ.az t' y with
    |some {k:= .int _, .. },some te,some x,some (.int _ n)=>aj (τ.po te.zero.cells) fun z=>yd c o σ τ x z n k
    |_,_,_,_=>none
   |_,_=>none
  |_,_=>none
 | .call {callee:= .builtin .cap,args,argTypes}=>match args.toList,argTypes.toList with
  |[x],[t]=>match c.ti t,evA c σ.az t x with
   |some {k:= .slice _ _, .. },some x=>Qu c o σ x k
   |_,_=>none
  |_,_=>none
 | .call {callee:= .builtin .clear,args,argTypes}=>match args.toList,argTypes.toList with
  |[x],[t]=>match c.ti t,evA c σ.az t x with
   |some {k:= .slice τ e, .. },some x=>match c.ti e with
    |some te=>Ey c o σ τ te.zero.cells x k
    |none=>none
   |_,_=>none
  |_,_=>none
 | .call {callee:= .builtin .copy,args,argTypes}=>match args.toList,argTypes.toList with
  |[x,y],[t,t']=>match c.ti t,Nat.beq t t' with
   |some {k:= .slice τ0 e, .. },true=>match evA c σ.az t x,evA c σ.az t y with
    |some (.sub id off n),some (.sub id2 off2 n2)=>EY c o σ τ0 id off n id2 off2 n2 k
    |some x,some y=>cw σ.mem y fun τ' src=>Ay c o σ τ0 x τ' src k
    |_,_=>none
   |_,_=>none
  |_,_=>none
 |_=>none
def xE (c:Cfg) (o:Oper) (f:Operand) (args:Array Operand) (ts:Array TypeId) (σ:St) (k:St→Option R):Option R:=
 match fb c σ.az f,fg c σ.az args.toList ts.toList with
 |some n,some as=>match look n c.spec with
  |some s=>dx σ.mem as fun as'=>nO s as' fun y=>match zK y with
   |true=>σ.put c o.dst y k
   |false=>fm (cV as) σ fun σ'=>σ'.put c o.dst y k
  |none=>none
 |_,_=>none
def AO (n:Nat):AB→Option At
 | .row _ _=>some (.own n)
 | .map _ _ _ _ _=>some (.fT n)
 |_=>none
def Ty.flat:Ty→Bool
 | .aS=>false
 | .strs=>false
 |_=>true
def zr:AB→Bool
 | .row τ _=>τ.flat
 | .map _ _ τ _ _=>τ.flat
 |_=>false
def uQ (s:kM) (nx:Nat) (as:List AV) (k:At→AB→Option R):Option R:=
 match s.pat as with
 |some x=>aj (s.g x) fun z=>match AO nx (s.enc z) with
  |some y=>k y (s.enc z)
  |none=>none
 |none=>none
def uO (c:Cfg) (f:Operand) (args:Array Operand) (ts:Array TypeId) (r:cv) (m:Mem) (nx:Nat) (k:At→AB→Option R):Option R:=
 match fb c r f,fg c r args.toList ts.toList with
 |some n,some as=>match look n c.fresh with
  |some s=>dx m as fun as'=>uQ s nx as' fun y b=>match zr b||(cV as).isEmpty with
   |true=>k y b
   |false=>none
  |none=>none
 |_,_=>none
def t_ (c:Cfg) (o:Oper) (f:Operand) (args:Array Operand) (ts:Array TypeId) (σ:St) (k:St→Option R):Option R:=
 uO c f args ts σ.az σ.mem σ.nx fun y b=>(σ.new b).put c o.dst (.one y) k
def wX (c:Cfg) (r:cv) (f:Operand):Bool:=
 match fb c r f with
 |some n=>match look n c.fresh with|some _=>true|none=>false
 |none=>false
abbrev Hnd (R:Type):=Option Nat→Nat→List AV→St→(AV→St→Option R)→Option R
def apart (m:Mem) (x y:At) (k:Option R):Option R:=
 match jD x,jD y with
 |[i],[j]=>match Nat.beq i j,look i m,look j m with
  |false,some (.row _ l),some (.row _ l')=>ae (Nat.blt 0 l.length) (ae (Nat.blt 0 l'.length) k none) none
  |_,_,_=>none
 | [],[j]=>match x,look j m with
  | .sl _ l,some (.row _ l')=>ae (Nat.blt 0 l.length) (ae (Nat.blt 0 l'.length) k none) none
  |_,_=>none
 |_,_=>none
def Bb (H:Hnd R) (c:Cfg) (o:Oper) (f:Operand) (args:Array Operand) (ts:Array TypeId) (σ:St) (k:St→Option R):Option R:=
 match evA c σ.az 0 f,fg c σ.az args.toList ts.toList with
 |some (.fnc n),some as=>match tx n c.ovl with
  |true=>match as with
   |[.v (.one x), .v (.one y)]=>apart σ.mem x y (σ.put c o.dst (.one (.bool false)) k)
   |_=>none
  |false=>match Nat.blt n OFF with
   |true=>H o.dst n as σ fun v σ'=>σ'.put c o.dst v k
   |false=>none
 |some (.clo id),some as=>match look id σ.mem with
  |some (.clo n first capt)=>match Nat.blt n OFF with
   |true=>H o.dst n (first.map AV.one++(as++capt.map AV.one)) σ fun v σ'=>σ'.put c o.dst v k
   |false=>none
  |_=>none
 |some (.yld id),some as=>H o.dst (OFF+id) as σ fun v σ'=>σ'.put c o.dst v k
 |_,_=>none
def Cp (H:Hnd R) (c:Cfg) (o:Oper) (f:Operand) (args:Array Operand) (ts:Array TypeId) (σ:St) (k:St→Option R):Option R:=
 match wX c σ.az f with
 |true=>t_ c o f args ts σ k
 |false=>Bb H c o f args ts σ k
def Md (c:Cfg) (r:cv) (f:Operand):Bool:=
 match fb c r f with
 |some n=>match look n c.spec with|some _=>true|none=>false
 |none=>false
def isQ (c:Cfg):Op→Bool
 | .move _| .assign _| .pick .. | .load .. | .nilCheck _| .fieldAddr .. | .field .. | .indexAddr .. | .index .. | .build .. | .unOp .. | .convert .. | .extract .. | .slice .. =>true
 | .binOp _ _ _ y _=> !(BS y)
 | .makeFunc _ p q=>match p.toList,q.toList with| [], [] =>true|_,_=>false
 | .call {callee:= .builtin .len, .. }=>true
 | .call {callee:= .value (.func n), .. }=>match look n c.spec with|some _=>true|none=>false
 | .call {callee:= .value (.tmp t), .. }=>match tx t c.cl with|true=>false|false=>true
 | .call {callee:= .value _, .. }=>true
 | .buildSlice .. =>c.qb
 |_=>false
def lZ (H:Hnd R) (c:Cfg) (o:Oper) (σ:St) (k:St→Option R):Option R:=
 match o.op with
 | .call {callee:= .value f,args,argTypes}=>Cp H c o f args argTypes σ k
 |_=>jE c o σ k
def ig (H:Hnd R) (c:Cfg) (dr:Bool) (o:Oper) (σ:St) (k:St→Option R):Option R:=
 match dr,o.op with
 |false, .call {callee:= .value f,args,argTypes}=>match Md c σ.az f with
  |true=>xE c o f args argTypes σ k
  |false=>Cp H c o f args argTypes σ k
 |_,_=>match isQ c o.op with
  |true=>jJ c σ.az σ.mem o fun v=>σ.put c o.dst v k
  |false=>lZ H c o σ k
def dA (H:Hnd R) (c:Cfg) (dr:Bool) (ds:List (Option Nat)):List Oper→St→(St→Option R)→Option R
 | [],σ,k=>k σ
 |o::r,σ,k=>match o.guard with
  |none=>ig H c dr o σ fun σ'=>dA H c dr ds r σ' k
  |some (j,want)=>match ds[j]? with
   |some (some d)=>match jy d σ.az with
    |some (.v (.one (.bool b)))=>ae b
     (σ.put c (some d) (.one (.bool true)) fun σ'=>match want with
      |true=>ig H c dr o σ' fun σ''=>dA H c dr ds r σ'' k
      |false=>σ'.put c o.dst .undef fun σ''=>dA H c dr ds r σ'' k)
     (σ.put c (some d) (.one (.bool false)) fun σ'=>match want with
      |true=>σ'.put c o.dst .undef fun σ''=>dA H c dr ds r σ'' k
      |false=>ig H c dr o σ' fun σ''=>dA H c dr ds r σ'' k)
    |some .undef=>σ.put c o.dst .undef fun σ''=>dA H c dr ds r σ'' k
    |_=>none
   |_=>none
def eh (e:Edge):Bool:=
 match e.ground with
 | .textOnly _=>false
 | .gcOnly _=>false
 |_=>true
def qu (acc:List Nat) (o:Oper):Nat:=
 o.after.toList.foldl (fun s e=>match eh e with|true=>(s|||2^e.on)|||acc.getD e.on 0|false=>s) 0
def jz (acc:List Nat):List Oper→List Nat
 | [] =>acc
 |o::r=>jz (acc++[qu acc o]) r
def fh (o:Oper):List Nat:=o.op.operands.toList.filterMap fun| .tmp t=>some t|_=>none
def gq (ds:List (Option Nat)) (o:Oper):List Nat:=
 match o.guard with
 |none=>fh o
 |some (j,_)=>match ds[j]? with
  |some (some d)=>d::fh o
  |_=>fh o
def vl (d:Option Nat) (l:List Nat):Bool:=
 match d with
 |none=>false
 |some d=>tx d l
def vY:Option Nat→Option Nat→Bool
 |some a,some b=>Nat.beq a b
 |_,_=>false
def mI (c:Cfg) (ds:List (Option Nat)) (x y:Oper):Bool:=
 match isQ c x.op,isQ c y.op with
 |true,true=>vl x.dst (gq ds y)||(vl y.dst (gq ds x)||vY x.dst y.dst)
 |_,_=>true
def wZ (c:Cfg) (ds:List (Option Nat)) (i:Nat) (x:Oper):List (Oper×Nat)→Bool
 | [] =>true
 |y::l=>match mI c ds x y.1 with
  |true=>match Nat.testBit y.2 i with|true=>wZ c ds i x l|false=>false
  |false=>wZ c ds i x l
def GB (c:Cfg) (ds:List (Option Nat)):Nat→List (Oper×Nat)→Bool
 |_, [] =>true
 |i,x::l=>match wZ c ds i x.1 l with|true=>GB c ds (i+1) l|false=>false
def gO:Nat→List Oper→Bool
 |_, [] =>true
 |i,o::r=>match o.after.toList.all (fun e=>match eh e with|true=>Nat.blt e.on i|false=>true) with|true=>gO (i+1) r|false=>false
def qz (c:Cfg) (ops:List Oper):Bool:=match gO 0 ops with|true=>GB c (ops.map (·.dst)) 0 (ops.zip (jz [] ops)) |false=>false
def eV:At→List Nat
 | .own i=>[i]
 | .sub i _ _=>[i]
 | .ptr i _=>[i]
 | .ft i _ _=>[i]
 | .clo i=>[i]
 | .fT i=>[i]
 | .iter i=>[i]
 | .yld i=>[i]
 |_=> []
def sA (mem:List Nat):List At→Bool
 | [] =>true
 |x::l=>match (eV x).all (fun i=>tx i mem) with|true=>sA mem l|false=>false
def JH (mem:List Nat):V1→Bool
 | .one x=>sA mem [x]
 | .agg l=>sA mem l
def K_ (mem:List Nat):AV→Bool
 | .v x=>JH mem x
 | .tup l=>l.all (JH mem)
 |_=>true
def LH (mem:List Nat):AB→Bool
 | .cells l=>sA mem l
 | .clo _ a b=>match sA mem a with|true=>sA mem b|false=>false
 | .nz x _=>sA mem [x]
 | .loop _ _ _ _ az=>az.all fun x=>K_ mem x.2
 |_=>true
def isW (c:Cfg):Op→Bool
 | .alloc _| .box .. | .buildSlice .. | .makeSlice .. | .store .. | .lookup .. =>true
 | .call {callee:= .builtin .copy, .. }=>true
 | .call {callee:= .builtin .append, .. }=>true
 | .call {callee:= .value (.func n), .. }=>match look n c.fresh,look n c.gns with|none,none=>false|_,_=>true
 |_=>false
def uL:V1→List Nat
 | .one x=>eV x
 | .agg l=>l.flatMap eV
def pn:AV→List Nat
 | .v x=>uL x
 | .tup l=>l.flatMap uL
 |_=> []
def uJ:Op→Bool
 | .load .. | .indexAddr .. | .convert .. | .slice .. | .call .. =>true
 |_=>false
def iH (r:cv) (o:Oper):List Nat:=match uJ o.op with
 |true=>(fh o).flatMap fun t=>match look t r with|some v=>pn v|none=> []
 |false=> []
def pA (m:Mem) (p:At) (v:V1) (k:Nat→AB→Option R):Option R:=
 match p with
 | .ptr id off=>match look id m with
  |some (.cells l)=>match Nat.ble (off+v.cells.length) l.length with
   |true=>k id (.cells (setCells l off v.cells))
   |false=>none
  |_=>none
 | .ft id i j=>match look id m with
  |some (.row τ l)=>match Nat.ble (j+v.cells.length) τ.n with
   |true=>aj l[i]? fun e=>aj (τ.po (setCells (τ.enc e) j v.cells)) fun e'=>k id (.row τ (l.set i e'))
   |false=>none
  |_=>none
 |_=>none
def qF (m:Mem) (τ0:Ty) (x:At) (τ':Ty) (src:List τ'.T) (k:AV→Nat→AB→Option R):Option R:=
 match x with
 | .own id=>match look id m with
  |some (.row τ l)=>match Nat.beq τ.n τ0.n with
   |true=>aj (dM τ' τ src) fun src=>k (.one (.int .i64 (min src.length l.length:Nat))) id (.row τ (src.take l.length++l.drop src.length))
   |false=>none
  |_=>none
 | .sub id off n=>match look id m with
  |some (.row τ l)=>match Nat.beq τ.n τ0.n with
   |true=>ae (Nat.ble (off+n) l.length) (aj (dM τ' τ src) fun src=>k (.one (.int .i64 (min src.length n:Nat))) id (.row τ (l.take off++(src.take n++(l.drop off).drop (min src.length n))))) none
   |false=>none
  |_=>none
 |_=>none
def rI (id:Nat) (σ:St):St:={az:=σ.az,mem:=(id, .gone)::σ.mem,nx:=σ.nx}
def vX (c:Cfg) (r:cv) (f:Operand):Bool:=
 match fb c r f with
 |some n=>match look n c.gns with|some _=>true|none=>false
 |none=>false
def sO (c:Cfg) (f:Operand) (args:Array Operand) (ts:Array TypeId) (r:cv) (m:Mem) (k:AV→Nat→Option R):Option R:=
 match fb c r f,fg c r args.toList ts.toList with
 |some n,some as=>match look n c.gns with
  |some s=>match cV as with
   |[id]=>dx m as fun as'=>nO s as' fun y=>k y id
   |_=>none
  |none=>none
 |_,_=>none
def Hl (τ:Ty) (m:Mem) (x:At) (nx:Nat) (ys:List τ.T) (k:AV→Nat→AB→Bool→Option R):Option R:=
 match x with
 | .clip τ' [] =>aj (dM τ' τ []) fun l=>aT (l.length+ys.length) (k (.one (.own nx)) nx (.row τ ys) true)
 | .own id=>match look id m with
  |some (.row τ' l)=>aj (dM τ' τ l) fun l=>aT (l.length+ys.length) (k (.one (.sl τ (l++ys))) id .gone false)
  |_=>none
 |_=>none
def zT (c:Cfg) (o:Oper) (σ:St) (k:St→Option R):Option R:=
 match o.op with
 | .call {callee:= .builtin .append,args,argTypes}=>match args.toList,argTypes.toList with
  |[x,y],[t,t']=>match c.ti t,Nat.beq t t' with
   |some {k:= .slice τ e, .. },true=>match c.ti e,evA c σ.az t x,evA c σ.az t y with
    |some _,some (.own id),some y=>cw σ.mem y fun τ' ys=>aj (dM τ' τ ys) fun ys=>match look id σ.mem with
     |some (.row τ' l)=>aj (dM τ' τ l) fun l=>aT (l.length+ys.length) ((rI id σ).put c o.dst (.one (.sl τ (l++ys))) k)
     |_=>none
    |_,_,_=>none
   |_,_=>none
  |_,_=>none
 | .call {callee:= .value f,args,argTypes}=>sO c f args argTypes σ.az σ.mem fun y id=>(rI id σ).put c o.dst y k
 |_=>none
def zk (c:Cfg) (o:Oper) (r:cv) (m:Mem) (nx:Nat) (k:AV→Nat→AB→Bool→Option R):Option R:=
 match o.op with
 | .alloc t=>match c.ti t with
  |some ti=>k (.one (.ptr nx 0)) nx (.cells ti.zero.cells) true
  |none=>none
 | .box t x=>match evV c r t x with
  |some v=>k (.one (.ptr nx 0)) nx (.cells v.cells) true
  |none=>none
 | .buildSlice t n parts=>match kx c r parts.toList with
  | [] =>match c.ti t with
   |some {k:= .slice τ e, .. }=>match c.ti e with
    |some te=>match (match Nat.ble (n*te.size) 16777216 with|true=>pf c r e te.size (ly te.zero.cells n) parts.toList|false=>none) with
     |some cells=>aj (ld τ n cells) fun l=>k (.one (sx τ n nx)) nx (.row τ l) true
     |none=>none
    |none=>none
   |_=>none
  |_=>none
 | .makeSlice t n q=>match c.ti t,evA c r 0 n,evA c r 0 q with
  |some {k:= .slice τ e, .. },some (.int _ a),some (.int _ b)=>match c.ti e with
   |some te=>ae (decide (0≤a∧a=b)) (aT a.toNat (aj (τ.po te.zero.cells) fun z=>k (.one (.own nx)) nx (.row τ (List.replicate a.toNat z)) true)) none
   |none=>none
  |_,_,_=>none
 | .store t a x=>match kx c r (match evA c r 0 a with|some (.ft _ _ _)=>[(0,x)] |_=> []) with
  | [] =>match evA c r 0 a,evV c r t x,c.ti t with
   |some p,some v,some ti=>match Nat.beq v.cells.length ti.size with
    |true=>pA m p v fun id b=>k .undef id b false
    |false=>none
   |_,_,_=>none
  |_=>none
 | .call {callee:= .builtin .copy,args,argTypes}=>match args.toList,argTypes.toList with
  |[x,y],[t,t']=>match c.ti t,Nat.beq t t' with
   |some {k:= .slice τ0 e, .. },true=>match evA c r t x,evA c r t y with
    |some (.sub _ _ _),some (.sub _ _ _)=>none
    |some x,some y=>cw m y fun τ' src=>qF m τ0 x τ' src fun y id b=>k y id b false
    |_,_=>none
   |_,_=>none
  |_,_=>none
 | .call {callee:= .value f,args,argTypes}=>match vX c r f with
  |true=>sO c f args argTypes r m fun y id=>k y id .gone false
  |false=>uO c f args argTypes r m nx fun y b=>k (.one y) nx b true
 | .call {callee:= .builtin .append,args,argTypes}=>match args.toList,argTypes.toList with
  |[x,y],[t,t']=>match c.ti t,Nat.beq t t' with
   |some {k:= .slice τ e, .. },true=>match c.ti e,evA c r t x,evA c r t y with
    |some _,some x,some y=>cw m y fun τ' ys=>aj (dM τ' τ ys) fun ys=>Hl τ m x nx ys k
    |_,_,_=>none
   |_,_=>none
  |_,_=>none
 | .lookup t x i ok=>q9 c {az:=r,mem:=m,nx:=nx} t x i fun id ag κ τ l ck key te=>kT key l (fun v _=>aj (V1.dw ag (τ.enc v)) fun y=>k (mM ok y true) id (.map ag κ τ l ck) false) (k (mM ok te.zero false) id (.map ag κ τ l ck) false)
 |_=>none
def wG (up:Bool) (n:Nat):Nat:=match up with|true=>n+1|false=>n
def lr:Option AB→Bool
 |some (.nz _ _)=>true
 |_=>false
def kR (ds:List (Option Nat)) (x y:Oper):Bool:=vl x.dst (gq ds y)||(vl y.dst (gq ds x)||vY x.dst y.dst)
abbrev Item:=Oper×Nat×Bool
def nw (c:Cfg) (ds:List (Option Nat)) (x y:Item):Bool:=
 match isQ c x.1.op||x.2.2,isQ c y.1.op||y.2.2,isQ c x.1.op||isQ c y.1.op with
 |true,true,true=>kR ds x.1 y.1
 |_,_,_=>true
def tc (c:Cfg) (ds:List (Option Nat)) (i:Nat) (x:Item):List Item→Bool
 | [] =>true
 |y::l=>match nw c ds x y with
  |true=>match Nat.testBit y.2.1 i with|true=>tc c ds i x l|false=>false
  |false=>tc c ds i x l
def A2 (c:Cfg) (ds:List (Option Nat)):Nat→List Item→Bool
 |_, [] =>true
 |i,x::l=>match tc c ds i x l with|true=>A2 c ds (i+1) l|false=>false
def F7:Nat→Nat→Bool
 |_,0=>true
 |b,n+1=>match Nat.testBit b n with|true=>F7 b n|false=>false
def rO (c:Cfg):Nat→List (Oper×Nat)→List Item
 |_, [] => []
 |i,x::l=>(x.1,x.2,(match isQ c x.1.op,isW c x.1.op,x.1.guard with|false,true,none=> !(F7 x.2 i&&l.all fun y=>Nat.testBit y.2 i) |_,_,_=>false))::rO c (i+1) l
def eT (c:Cfg) (ops:List Oper):List Item:=rO c 0 (ops.zip (jz [] ops))
def tP (c:Cfg) (ops:List Oper):Bool:=match gO 0 ops with|true=>A2 c (ops.map (·.dst)) 0 (eT c ops) |false=>false
def yR (H:Hnd R) (c:Cfg) (ds:List (Option Nat)):List Item→Nat→List (Nat×List Nat)→List (Nat×Nat)→St→(St→Option R)→Option R
 | [],_,_,_,σ,k=>k σ
 |(o,bef,lo)::l,i,T,U,σ,k=>match isQ c o.op with
  |true=>match U.all (fun j=>Nat.testBit bef j.1|| !(tx j.2 (iH σ.az o))) with
   |true=>dA H c true ds [o] σ fun σ'=>yR H c ds l (i+1) ((i,iH σ.az o)::T) U σ' k
   |false=>none
  |false=>match lo with
   |true=>zk c o σ.az σ.mem σ.nx fun y id b up=>match T.all (fun x=>Nat.testBit bef x.1|| !(tx id x.2)),lr (look id σ.mem)||lr (some b) with
    |true,false=>St.put c {az:=σ.az,mem:=(id,b)::σ.mem,nx:=wG up σ.nx} o.dst y fun σ'=>yR H c ds l (i+1) T ((i,id)::U) σ' k
    |_,_=>none
   |false=>dA H c true ds [o] σ fun σ'=>yR H c ds l (i+1) [] [] σ' k
def pT (mem:List Nat) (r:cv):List Nat→Option cv
 | [] =>some []
 |n::l=>match look n r,pT mem r l with
  |some v,some r'=>match K_ mem v with|true=>some ((n,v)::r') |false=>none
  |_,_=>none
def tw (mem:List Nat) (m:Mem):List Nat→Option Mem
 | [] =>some []
 |n::l=>match look n m,tw mem m l with
  |some b,some m'=>match LH mem b with|true=>some ((n,b)::m') |false=>none
  |_,_=>none
def uz:List (Nat×Nat×Ty)→St→Option St
 | [],σ=>some σ
 |(r,id,τ)::l,σ=>match look r σ.az with
  |some (.v (.one (.own i)))=>match Nat.beq i id with|true=>uz l σ|false=>none
  |some (.v (.one (.clip τ' [])))=>match dM τ' τ [],Nat.ble σ.nx id with
   |some _,true=>uz l {az:=(r, .one (.own id))::σ.az,mem:=(id, .row τ [])::σ.mem,nx:=id+1}
   |_,_=>none
  |_=>none
def ua:List (Nat×Nat×Nat×Ty)→St→Option St
 | [],σ=>some σ
 |(bk,j,id,τ)::l,σ=>match look bk σ.mem with
  |some (.cells cs)=>match cs[j]? with
   |some (.own i)=>match Nat.beq i id with|true=>ua l σ|false=>none
   |some (.clip τ' [])=>match dM τ' τ [],Nat.ble σ.nx id with
    |some _,true=>ua l {az:=σ.az,mem:=(bk, .cells (cs.set j (.own id)))::(id, .row τ [])::σ.mem,nx:=id+1}
    |_,_=>none
   |_=>none
  |_=>none
def uc:List (Nat×Nat×Ty)→St→Option St
 | [],σ=>some σ
 |(r,id,τ)::l,σ=>match look r σ.az with
  |some (.v (.one (.sub i _ _)))=>match Nat.beq i id with|true=>uc l σ|false=>none
  |some (.v (.one (.clip τ' [])))=>match dM τ' τ [],Nat.ble σ.nx id with
   |some _,true=>uc l {az:=(r, .one (.sub id 0 0))::σ.az,mem:=(id, .row τ [])::σ.mem,nx:=id+1}
   |_,_=>none
  |_=>none
def CF:List Nat→St→Option St
 | [],σ=>some σ
 |r::l,σ=>match look r σ.az with
  |some (.v (.one x))=>CF l {az:=(r, .one (hO x))::σ.az,mem:=σ.mem,nx:=σ.nx}
  |_=>none
def Cx:List Nat→St→Option St
 | [],σ=>some σ
 |id::l,σ=>match look id σ.mem with
  |some (.cells cs)=>Cx l (σ.set id (.cells (cs.map hO)))
  |_=>none
def coerce (a:Ann) (σ:St):Option St:=
 match uc a.gV σ with
 |none=>none
 |some σ=>match uz a.rows σ with
 |some σ=>match ua a.aeI σ with
  |some σ=>match CF a.sls σ with
   |some σ=>Cx a.slm σ
   |none=>none
  |none=>none
 |none=>none
def AK (a:Ann) (σ:St):Option St:=
 match coerce a σ with
 |some σ=>match pT a.mem σ.az a.az,tw a.mem σ.mem a.mem,a.mem.all (fun i=>Nat.blt i a.nx) with
  |some r,some m,true=>some {az:=r,mem:=m,nx:=a.nx}
  |_,_,_=>none
 |none=>none
def lD (a:Option Ann) (σ:St) (k:St→Option R):Option R:=
 match a with
 |none=>k σ
 |some a=>match AK a σ with
  |some σ'=>k σ'
  |none=>none
def bx:Code→Nat
 | .region id _ _=>id
 | .seq a _=>bx a
 | .block _ b=>bx b
 | .loop b=>bx b
 | .scope b=>bx b
 |_=>1000000
def pZ (body:St→(Ex→St→Option R)→Option R) (a:Option Ann):Nat→St→(Ex→St→Option R)→Option R
 |0,_,_=>none
 |n+1,σ,K=>body σ fun e σ'=>match e with
  | .normal=>lD a σ' fun σ''=>pZ body a n σ'' K
  | .exit i=>K (.exit i) σ'
  | .goto l=>K (.goto l) σ'
  | .ret=>K .ret σ'
abbrev Hd (R:Type):=St→(Ex→St→Option R)→Option R
def C_ (c:Cfg) (id:Nat) (σ:St) (K:Ex→St→Option R):Option R:=
 match look id σ.mem with
 |some (.loop true _ _ _ _)=>K .normal (σ.set id .gone)
 |some (.over (.exit i))=>lD (look i c.blocks) (σ.set id .gone) fun σ'=>K (.exit i) σ'
 |some (.over .ret)=>lD c.gS (σ.set id .gone) fun σ'=>K .ret σ'
 |_=>none
def nX (r:cv):List Nat→cv
 | [] => []
 |t::l=>match jy t r with|some x=>(t,x)::nX r l|none=>nX r l
def saved (c:Cfg) (rid:Nat) (r:cv):cv:=match look rid c.J8 with|some l=>nX r l|none=> []
def FJ (H:Hnd R) (c:Cfg) (f:Operand) (body:Code) (σ:St) (K:Ex→St→Option R):Option R:=
 match c.rnd with
 |true=>none
 |false=>match evA c σ.az 0 f with
  |some (.fnc n)=>match Nat.blt n OFF with
   |true=>H (some (OFF+bx body)) n [.one (.yld σ.nx)] (σ.new (.loop true c.N c.fid (bx body) (saved c (bx body) σ.az))) fun _ σ'=>C_ c σ.nx σ' K
   |false=>none
  |some (.clo id)=>match look id σ.mem with
   |some (.clo n first capt)=>match Nat.blt n OFF with
    |true=>H (some (OFF+bx body)) n (first.map AV.one++(AV.one (.yld σ.nx)::capt.map AV.one)) (σ.new (.loop true c.N c.fid (bx body) (saved c (bx body) σ.az))) fun _ σ'=>C_ c σ.nx σ' K
    |false=>none
   |_=>none
  |_=>none
def run (H:Hnd R) (c:Cfg) (lp:List (Nat×Hd R)):Code→St→(Ex→St→Option R)→Option R
 | .skip,σ,K=>K .normal σ
 | .region _ ops draw,σ,K=>match draw with
  |false=>dA H c false (ops.toList.map (·.dst)) ops.toList σ fun σ'=>K .normal σ'
  |true=>match qz c ops.toList with
   |true=>dA H c true (ops.toList.map (·.dst)) ops.toList σ fun σ'=>K .normal σ'
   |false=>match tP c ops.toList with
    |true=>yR H c (ops.toList.map (·.dst)) (eT c ops.toList) 0 [] [] σ fun σ'=>K .normal σ'
    |false=>none
 | .seq a b,σ,K=>run H c lp a σ fun e σ'=>match e with
  | .normal=>lD (look (bx b) c.XB) σ' fun σ''=>run H c lp b σ'' K
  | .exit i=>K (.exit i) σ'
  | .goto l=>K (.goto l) σ'
  | .ret=>K .ret σ'
 | .cond x a b,σ,K=>match ev c σ.az 0 x with
  |some (.v (.one (.bool t)))=>ae t (run H c lp a σ K) (run H c lp b σ K)
  |_=>none
 | .block id b,σ,K=>run H c lp b σ fun e σ'=>match e with
  | .normal=>lD (look id c.blocks) σ' fun σ''=>K .normal σ''
  | .exit i=>match Nat.beq i id with
   |true=>K .normal σ'
   |false=>K (.exit i) σ'
  | .goto l=>K (.goto l) σ'
  | .ret=>K .ret σ'
 | .loop b,σ,K=>lD (look (bx b) c.loops) σ fun σ'=>match look (bx b) lp with
  |some h=>h σ' K
  |none=>pZ (run H c lp b) (look (bx b) c.loops) c.fuel σ' K
 | .exit i,σ,K=>lD (look i c.blocks) σ fun σ'=>K (.exit i) σ'
 | .ret,σ,K=>lD c.gS σ fun σ'=>K .ret σ'
 | .scope b,σ,K=>run H c lp b σ fun e σ'=>match e with
  | .normal=>K .normal σ'
  | .exit i=>K (.exit i) σ'
  | .goto _=>none
  | .ret=>K .ret σ'
 | .label _,σ,K=>K .normal σ
 | .rangeFunc f _ _ body,σ,K=>FJ H c f body σ K
 |_,_,_=>none
def Eg (c:Cfg) (σ:St):List ResultVar→(List V1→Option R)→Option R
 | [],k=>k []
 | .tmp t::l,k=>match jy t σ.az with
  |some (.v x)=>iU σ.mem (.v x) fun y=>match y with
   | .v y=>Eg c σ l fun r=>k (y::r)
   |_=>none
  |_=>none
 | .cell a t::l,k=>match jy a σ.az,c.ti t with
  |some (.v (.one p)),some ti=>iV σ.mem p ti.size fun cs=>iR σ.mem cs fun cs=>match V1.dw ti.agg cs with
   |some y=>Eg c σ l fun r=>k (y::r)
   |none=>none
  |_,_=>none
def Gs:List V1→AV
 |[x]=> .v x
 |l=> .tup l
def AN (c:Cfg) (σ:St):List ResultVar→(List V1→Option R)→Option R
 | [],k=>k []
 | .tmp t::l,k=>match jy t σ.az with
  |some (.v x)=>AN c σ l fun r=>k (x::r)
  |_=>none
 | .cell a t::l,k=>match jy a σ.az,c.ti t with
  |some (.v (.one p)),some ti=>iV σ.mem p ti.size fun cs=>match V1.dw ti.agg cs with
   |some y=>AN c σ l fun r=>k (y::r)
   |none=>none
  |_,_=>none
def oR:cv→cv
 | [] => []
 |x::r=>(x.1+OFF,x.2)::oR r
def gA:cv→cv
 | [] => []
 |x::r=>match Nat.ble OFF x.1 with
  |true=>(x.1 - OFF,x.2)::gA r
  |false=>gA r
def g_:Nat→List AV→cv
 |_, [] => []
 |n,x::l=>(n,x)::g_ (n+1) l
def JI (c:Cfg) (res:List ResultVar) (dec:AV→Option R) (σ:St):Option R:=
 Eg c σ res fun l=>match l with
  |[x]=>dec (.v x)
  |l=>dec (.tup l)
inductive Inl (R:Type) where
 |mk (fid:Nat) (cfg:Cfg) (lp:List (Nat×Hd R)) (body:Code) (res:List ResultVar) (gV:List (Nat×Inl R))
 |rnd (fid rid:Nat) (cfg:Cfg) (lp:List (Nat×Hd R)) (ps:List Nat) (assign body:Code) (gV:List (Nat×Inl R))
def xS (N:Nat):List Nat→List AV→cv→Option cv
 | [], [],r=>some r
 |p::ps,x::xs,r=>match Nat.blt p N with|true=>xS N ps xs ((p,x)::r) |false=>none
 |_,_,_=>none
def xc (id:Nat) (k:AV→St→Option R):Ex→St→Option R
 | .normal,σ=>match look id σ.mem with
  |some (.loop false nn f r az)=>k (.one (.bool true)) {az:=gA σ.az,mem:=(id, .loop true nn f r az)::σ.mem,nx:=σ.nx}
  |_=>none
 | .exit i,σ=>match look id σ.mem with
  |some (.loop false _ _ _ _)=>k (.one (.bool false)) {az:=gA σ.az,mem:=(id, .over (.exit i))::σ.mem,nx:=σ.nx}
  |_=>none
 | .ret,σ=>match look id σ.mem with
  |some (.loop false _ _ _ _)=>k (.one (.bool false)) {az:=gA σ.az,mem:=(id, .over .ret)::σ.mem,nx:=σ.nx}
  |_=>none
 | .goto _,_=>none
def OT (ra rb:St→(Ex→St→Option R)→Option R) (cfg:Cfg) (fid rid:Nat) (ps:List Nat) (id:Nat) (as:List AV) (σ:St) (k:AV→St→Option R):Option R:=
 match look id σ.mem with
 |some (.loop true nn f r az)=>match Nat.beq f fid,Nat.beq r rid,Nat.beq nn cfg.N,Nat.ble nn OFF,cfg.rnd,xS nn ps as az with
  |true,true,true,true,true,some regs1=>ra {az:=regs1++oR σ.az,mem:=σ.mem,nx:=σ.nx} fun e σ1=>match e with
   | .normal=>match look id σ1.mem with
    |some (.loop true nn' f' r' regs')=>rb (σ1.set id (.loop false nn' f' r' regs')) fun e σ2=>xc id k e σ2
    |_=>none
   |_=>none
  |_,_,_,_,_,_=>none
 |_=>none
def hnd:Nat→List (Nat×Inl R)→Hnd R
 |0,_=>fun _ _ _ _ _=>none
 |d+1,gV=>fun dst n as σ k=>match dst with
  |none=>none
  |some t=>match look t gV with
   |none=>none
   |some (.rnd fid rid cfg lp ps assign body subs')=>match Nat.ble OFF n with
    |true=>OT (run (hnd d subs') cfg lp assign) (run (hnd d subs') cfg lp body) cfg fid rid ps (n - OFF) as σ k
    |false=>none
   |some (.mk fid cfg lp body res subs')=>match Nat.beq fid n,Nat.ble as.length cfg.N,Nat.ble cfg.N OFF,Nat.blt n OFF with
    |true,true,true,true=>run (hnd d subs') cfg lp body {az:=g_ 0 as++oR σ.az,mem:=σ.mem,nx:=σ.nx} fun e σ'=>match e with
     | .normal=>AN cfg σ' res fun l=>k (Gs l) {az:=gA σ'.az,mem:=σ'.mem,nx:=σ'.nx}
     | .ret=>AN cfg σ' res fun l=>k (Gs l) {az:=gA σ'.az,mem:=σ'.mem,nx:=σ'.nx}
     |_=>none
    |_,_,_,_=>none
def Ct (H:Hnd R) (c:Cfg) (lp:List (Nat×Hd R)) (body:Code) (res:List ResultVar) (args:List AV) (dec:AV→Option R):Option R:=
 run H c lp body {az:=g_ 0 args,mem:= [],nx:=0} fun e σ=>match e with
  | .normal=>JI c res dec σ
  | .ret=>JI c res dec σ
  |_=>none
end
end Go.Eng
namespace Go.Eng
open Go Go.RowKit
structure Gb where
 blk:Option Nat
 ln:Nat
 cp:Nat
 sz:Nat
 val:Value
structure Gh where
 S:Nat→Prop
 m:Nat→Option Gb
inductive VA (g:Gh) (w:World):At→Value→Prop where
 |int (k:IntKind) (n:Int):VA g w (.int k n) (.int k n)
 |bool (b:Bool):VA g w (.bool b) (.bool b)
 |str (s:Str) (b:ByteArray) (h:b.data.toList=s):VA g w (.str s) (.string b)
 |sl (τ:Ty) (l:List τ.T) (a:Option Addr) (n c bk of:Nat) (f:Nat→Nat→Value) (hn:n=l.length) (hc:n≤c)
  (ha:l≠ [] →a=some ⟨bk,of,none⟩∧g.S bk)
  (hcell:∀i j,i<l.length→j<τ.n→w.cell? ⟨bk,of+(i*τ.n+j),none⟩=some (f i j))
  (hf:∀i x j y,l[i]? =some x→(τ.enc x)[j]? =some y→VA g w y (f i j)):VA g w (.sl τ l) (.slice a n c)
 |clip (τ:Ty) (l:List τ.T) (a:Option Addr) (n bk of:Nat) (f:Nat→Nat→Value) (hn:n=l.length)
  (ha:l≠ [] →a=some ⟨bk,of,none⟩∧g.S bk)
  (hcell:∀i j,i<l.length→j<τ.n→w.cell? ⟨bk,of+(i*τ.n+j),none⟩=some (f i j))
  (hf:∀i x j y,l[i]? =some x→(τ.enc x)[j]? =some y→VA g w y (f i j)):VA g w (.clip τ l) (.slice a n n)
 |own (id:Nat) (b:Gb) (a:Option Addr) (hm:g.m id=some b) (hk:∀k,b.blk=some k→a=some ⟨k,0,none⟩) (h0:b.blk=none→b.cp=0∧b.ln=0):VA g w (.own id) (.slice a b.ln b.cp)
 |sub (id off len:Nat) (b:Gb) (a:Option Addr) (c:Nat) (hm:g.m id=some b) (hl:off+len≤b.cp) (hc:c=b.cp - off)
  (hk:c≠0→∃k,b.blk=some k∧a=some ⟨k,off*b.sz,none⟩):VA g w (.sub id off len) (.slice a len c)
 |ptr (id off:Nat) (b:Gb) (k:Nat) (hm:g.m id=some b) (hk:b.blk=some k):VA g w (.ptr id off) (.pointer (some ⟨k,off,none⟩))
 |ft (id i j:Nat) (b:Gb) (k:Nat) (hm:g.m id=some b) (hk:b.blk=some k):VA g w (.ft id i j) (.pointer (some ⟨k,i*b.sz+j,none⟩))
 |gC (τ:Ty) (x:τ.T) (j bk of:Nat) (f:Nat→Value) (ha:g.S bk)
  (hcell:∀i,i<τ.n→w.cell? ⟨bk,of+i,none⟩=some (f i))
  (hf:∀i y,(τ.enc x)[i]? =some y→VA g w y (f i)):VA g w (.gC τ x j) (.pointer (some ⟨bk,of+j,none⟩))
 |fnc (f:Nat):VA g w (.fnc f) (.func (.func f) #[] #[])
 |clo (id:Nat) (b:Gb) (f:Nat) (fs cs:Array Value) (hm:g.m id=some b) (hv:b.val= .func (.func f) fs cs):VA g w (.clo id) (.func (.func f) fs cs)
 |fT (id:Nat) (b:Gb) (k:Nat) (hm:g.m id=some b) (hk:b.blk=some k):VA g w (.fT id) (.map (some k))
 |iter (id:Nat) (b:Gb) (k:Nat) (hm:g.m id=some b) (hk:b.blk=some k):VA g w (.iter id) (.pointer (some ⟨k,0,none⟩))
 |yld (id:Nat) (b:Gb) (k:Nat) (hm:g.m id=some b) (hk:b.blk=some k):VA g w (.yld id) (.func (.yield k) #[] #[])
 |gl (τ:Ty) (l:List τ.T) (bk:Nat) (f:Nat→Nat→Value) (ha:g.S bk)
  (hcell:∀i j,i<l.length→j<τ.n→w.cell? ⟨bk,i*τ.n+j,none⟩=some (f i j))
  (hf:∀i x j y,l[i]? =some x→(τ.enc x)[j]? =some y→VA g w y (f i j)):VA g w (.gl τ l) (.pointer (some ⟨bk,0,none⟩))
 |oG:VA g w .oG (.pointer none)
 |mC:VA g w .mC .nilFunc
 |n_:VA g w .n_ (.map none)
 |dead (v:Value) (h:v.oneCell'=true):VA g w .dead v
theorem VA.one {g:Gh} {w:World} {x:At} {v:Value} (h:VA g w x v):v.oneCell'=true:=by
 cases h<;>first|rfl|assumption
def cD (g:Gh) (w w':World):Prop:=∀k,g.S k→w'.heap[k]? =w.heap[k]?
structure Gh.le (g g':Gh):Prop where
 S:∀k,g.S k→g'.S k
 m:∀id b,g.m id=some b→g'.m id=some b
theorem Gh.le.refl (g:Gh):g.le g:=⟨fun _ h=>h,fun _ _ h=>h⟩
theorem Gh.le.trans {a b c:Gh} (h:a.le b) (k:b.le c):a.le c:=⟨fun _ x=>k.S _ (h.S _ x),fun _ _ x=>k.m _ _ (h.m _ _ x)⟩
theorem cell_of_heap {w w':World} {k:Nat} (h:w'.heap[k]? =w.heap[k]?) (o:Nat):w'.cell? ⟨k,o,none⟩=w.cell? ⟨k,o,none⟩:=World.cell?_of_block (w:=w) h
theorem ne_of_lt {α:Type} {l:List α} {i:Nat} (h:i<l.length):l≠ [] :=by intro e;subst e;simp at h
theorem VA.mono {g g':Gh} {w w':World} {x:At} {v:Value} (h:VA g w x v) (hw:cD g w w') (hg:g.le g'):VA g' w' x v:=by
 induction h with
 |int k n=>exact .int k n
 |bool b=>exact .bool b
 |str s b h=>exact .str s b h
 |sl τ l a n c bk of f hn hc ha hcell hf ih=>
  refine .sl τ l a n c bk of f hn hc (fun e=>⟨(ha e).1,hg.S _ (ha e).2⟩) (fun i j hi hj=> ?_) ih;rw[cell_of_heap (hw bk (ha (ne_of_lt hi)).2)];exact hcell i j hi hj
 |clip τ l a n bk of f hn ha hcell hf ih=>
  refine .clip τ l a n bk of f hn (fun e=>⟨(ha e).1,hg.S _ (ha e).2⟩) (fun i j hi hj=> ?_) ih;rw[cell_of_heap (hw bk (ha (ne_of_lt hi)).2)];exact hcell i j hi hj
 |own id b a hm hk h0=>exact .own id b a (hg.m _ _ hm) hk h0
 |sub id off len b a c hm hl hc hk=>exact .sub id off len b a c (hg.m _ _ hm) hl hc hk
 |ptr id off b k hm hk=>exact .ptr id off b k (hg.m _ _ hm) hk
 |ft id i j b k hm hk=>exact .ft id i j b k (hg.m _ _ hm) hk
 |gC τ x j bk of f ha hcell hf ih=>
  refine .gC τ x j bk of f (hg.S _ ha) (fun i hi=> ?_) ih;rw[cell_of_heap (hw bk ha)];exact hcell i hi
 |fnc f=>exact .fnc f
 |clo id b f fs cs hm hv=>exact .clo id b f fs cs (hg.m _ _ hm) hv
 |fT id b k hm hk=>exact .fT id b k (hg.m _ _ hm) hk
 |iter id b k hm hk=>exact .iter id b k (hg.m _ _ hm) hk
 |yld id b k hm hk=>exact .yld id b k (hg.m _ _ hm) hk
 |gl τ l bk f ha hcell hf ih=>
  refine .gl τ l bk f (hg.S _ ha) (fun i j hi hj=> ?_) ih;rw[cell_of_heap (hw bk ha)];exact hcell i j hi hj
 |oG=>exact .oG
 |mC=>exact .mC
 |n_=>exact .n_
 |dead v h=>exact .dead v h
inductive bZ {α β:Type} (R:α→β→Prop):List α→List β→Prop where
 |nil:bZ R [] []
 |cons {a:α} {b:β} {l:List α} {m:List β} (h:R a b) (t:bZ R l m):bZ R (a::l) (b::m)
section
variable {α β:Type} {R R':α→β→Prop}
theorem bZ.mono {l:List α} {m:List β} (h:bZ R l m) (hr:∀a b,R a b→R' a b):bZ R' l m:=by
 induction h with
 |nil=>exact .nil
 |cons h _ ih=>exact .cons (hr _ _ h) ih
theorem bZ.Gf {l:List α} {m:List β} (h:bZ R l m) (hr:∀a∈l,∀b,R a b→R' a b):bZ R' l m:=by
 induction h with
 |nil=>exact .nil
 |cons h _ ih=>exact .cons (hr _ (by simp) _ h) (ih fun a ha=>hr a (by simp [ha]))
theorem bZ.length {l:List α} {m:List β} (h:bZ R l m):l.length=m.length:=by
 induction h with
 |nil=>rfl
 |cons _ _ ih=>simp [ih]
theorem bZ.get {l:List α} {m:List β} (h:bZ R l m):∀{i:Nat} {a:α},l[i]? =some a→∃b,m[i]? =some b∧R a b:=by
 induction h with
 |nil=>intro i a h;simp at h
 |cons h _ ih=>
  intro i a ha;cases i with
  |zero=>simp at ha;subst ha;exact⟨_,rfl,h⟩
  |succ i=>simpa using ih (by simpa using ha)
theorem bZ.Fl {l:List α}:∀{m:List β},l.length=m.length→(∀(i:Nat) (a:α) (b:β),l[i]? =some a→m[i]? =some b→R a b)→bZ R l m:=by
 induction l with
 |nil=>intro m h _;cases m with|nil=>exact .nil|cons _ _=>simp at h
 |cons a l ih=>
  intro m h hr;cases m with
  |nil=>simp at h
  |cons b m=>exact .cons (hr 0 a b rfl rfl) (ih (by simpa using h) fun i x y hx hy=>hr (i+1) x y (by simpa using hx) (by simpa using hy))
theorem bZ.append {l l':List α} {m m':List β} (h:bZ R l m) (k:bZ R l' m'):bZ R (l++l') (m++m'):=by
 induction h with
 |nil=>exact k
 |cons h _ ih=>exact .cons h ih
theorem bZ.drop {l:List α} {m:List β} (h:bZ R l m):∀n,bZ R (l.drop n) (m.drop n):=by
 induction h with
 |nil=>intro n;simp;exact .nil
 |cons h t ih=>intro n;cases n with|zero=>exact .cons h t|succ n=>exact ih n
theorem bZ.take {l:List α} {m:List β} (h:bZ R l m):∀n,bZ R (l.take n) (m.take n):=by
 induction h with
 |nil=>intro n;simp;exact .nil
 |cons h t ih=>intro n;cases n with|zero=>exact .nil|succ n=>exact .cons h (ih n)
theorem bZ.set {l:List α} {m:List β} (h:bZ R l m) {a:α} {b:β} (hr:R a b):∀i,bZ R (l.set i a) (m.set i b):=by
 induction h with
 |nil=>intro i;simp;exact .nil
 |cons h t ih=>intro i;cases i with|zero=>exact .cons hr t|succ i=>exact .cons h (ih i)
theorem bZ.map {γ δ:Type} {R2:γ→δ→Prop} {f:α→γ} {e:β→δ} {l:List α} {m:List β} (h:bZ R l m) (hr:∀a b,R a b→R2 (f a) (e b)):bZ R2 (l.map f) (m.map e):=by
 induction h with
 |nil=>exact .nil
 |cons h _ ih=>exact .cons (hr _ _ h) ih
theorem bZ.DR {γ:Type} {R2:γ→β→Prop} {f:α→γ} {l:List α} {m:List β} (h:bZ R l m) (hr:∀a b,R a b→R2 (f a) b):bZ R2 (l.map f) m:=by
 induction h with
 |nil=>exact .nil
 |cons h _ ih=>exact .cons (hr _ _ h) ih
end
def V1R (g:Gh) (w:World):V1→Value→Prop
 | .one x,v=>VA g w x v
 | .agg l,v=>∃vs:List Value,v= .agg vs.toArray∧bZ (VA g w) l vs
def AVR (g:Gh) (w:World):AV→Value→Prop
 | .v x,v=>V1R g w x v
 | .tup l,v=>∃vs:List Value,v= .tuple vs.toArray∧bZ (V1R g w) l vs
 | .undef,v=>v=undef
 | .dead,_=>True
theorem V1R.mono {g g':Gh} {w w':World} {x:V1} {v:Value} (h:V1R g w x v) (hw:cD g w w') (hg:g.le g'):V1R g' w' x v:=by
 cases x with
 |one x=>exact VA.mono h hw hg
 |agg l=>obtain⟨vs,rfl,h⟩:=h;exact⟨vs,rfl,h.mono fun _ _ k=>k.mono hw hg⟩
theorem AVR.mono {g g':Gh} {w w':World} {x:AV} {v:Value} (h:AVR g w x v) (hw:cD g w w') (hg:g.le g'):AVR g' w' x v:=by
 cases x with
 |v x=>exact V1R.mono h hw hg
 |tup l=>obtain⟨vs,rfl,h⟩:=h;exact⟨vs,rfl,h.mono fun _ _ k=>k.mono hw hg⟩
 |undef=>exact h
 |dead=>trivial
theorem V1R.cells {g:Gh} {w:World} {x:V1} {v:Value} (h:V1R g w x v):bZ (VA g w) x.cells v.cells.toList:=by
 cases x with
 |one x=>
  have h1:VA g w x v:=h;have:=h1.one;cases v<;>first|exact .cons h1 .nil|(simp [Value.oneCell'] at this)
 |agg l=>obtain⟨vs,rfl,h⟩:=h;exact h
def rn (rid:Nat):Code→Option (Array Tmp×Code×Code)
 | .rangeFunc _ ps as body=>match Nat.beq (bx body) rid with
  |true=>some (ps,as,body)
  |false=>rn rid body
 | .seq a b=>match rn rid a with
  |some x=>some x
  |none=>rn rid b
 | .cond _ a b=>match rn rid a with
  |some x=>some x
  |none=>rn rid b
 | .block _ b=>rn rid b
 | .loop b=>rn rid b
 | .scope b=>rn rid b
 |_=>none
def xD (P:Program) (fid rid:Nat):Option (Array Tmp×Code×Code):=
 match P.funcs[fid]? with
 |some fn=>match fn.body with
  |some c=>rn rid c
  |none=>none
 |none=>none
class aE (P:Program) where
 G:List (Nat×(τ:Ty)×List τ.T)
def lE (P:Program) [aE P] (g:Gh) (w:World):Prop:=∀(q:Nat) (τ:Ty) (l:List τ.T),look q (aE.G P)=some ⟨τ,l⟩→g.S q∧
 ∃f:Nat→Nat→Value,(∀i j,i<l.length→j<τ.n→w.cell? ⟨q,i*τ.n+j,none⟩=some (f i j))∧∀i x j y,l[i]? =some x→(τ.enc x)[j]? =some y→∀g w,VA g w y (f i j)
def AR:(κ:Ty)→κ.T→Value→Prop
 | .int,n,v=>v= .int .i64 n
 | .str,s,v=>∃b:ByteArray,v= .string b∧b.data.toList=s
 |_,_,_=>False
def Bn (g:Gh) (w:World) (ag:Bool) {κ τ:Ty} (x:κ.T×τ.T×Nat) (e:MapEntry):Prop:=
 AR κ x.1 e.key∧e.born=x.2.2∧∃y,V1.dw ag (τ.enc x.2.1)=some y∧V1R g w y e.val
theorem Bn.of {g g':Gh} {w w':World} {ag:Bool} {κ τ:Ty} {x:κ.T×τ.T×Nat} {e:MapEntry} (h:Bn g w ag x e) (hv:∀y v,V1.dw ag (τ.enc x.2.1)=some y→V1R g w y v→V1R g' w' y v):Bn g' w' ag x e:=
 ⟨h.1,h.2.1,let ⟨y,h1,h2⟩:=h.2.2;⟨y,h1,hv _ _ h1 h2⟩⟩
def AB.live:AB→Bool
 | .gone=>false
 | .cells _=>true
 | .row _ _=>true
 | .clo _ _ _=>true
 | .iter _ _=>true
 | .nz _ _=>true
 | .loop _ _ _ _ _=>true
 | .over _=>true
 | .map _ _ _ _ _=>true
def Oz (P:Program) (g:Gh) (w:World) (b:Gb) (ph:Bool) (n fid rid:Nat) (az:cv):Prop:=
 ∃k r,b.blk=some k∧w.heap[k]? =some (.loop r)∧r.state=(match ph with|true=> .ready|false=> .busy)∧(ph=true→r.pending=none)∧r.tmps.size=n∧xD P fid rid=some (r.params,r.assign,r.body)∧
  (∀t x,look t az=some x→t<OFF∧AVR g w x (r.tmps.getD t undef))
def TJ:Ex→Option Code
 | .normal=>none
 | .exit i=>some (.exit i)
 | .goto l=>some (.goto l)
 | .ret=>some .ret
def BR (P:Program) (g:Gh) (w:World) (b:Gb):AB→Prop
 | .cells l=>∃k cs e,b.blk=some k∧w.heap[k]? =some (.cells cs e (0,0))∧bZ (VA g w) l cs.toList
 | .row τ l=>b.sz=τ.n∧b.ln=l.length∧((b.blk=none∧l= [] ∧b.cp=0)∨
  (∃k cs e,b.blk=some k∧w.heap[k]? =some (.cells cs e (0,0))∧cs.size=b.cp*τ.n∧l.length≤b.cp∧(∀v∈cs.toList,v.oneCell'=true)∧
   ∀i x j y,l[i]? =some x→(τ.enc x)[j]? =some y→∃v,cs[i*τ.n+j]? =some v∧VA g w y v))
 | .clo f first capt=>b.blk=none∧∃fs cs,b.val= .func (.func f) fs cs∧bZ (VA g w) first fs.toList∧bZ (VA g w) capt cs.toList
 | .iter s pos=>∃k bs,b.blk=some k∧w.heap[k]? =some (.stringIter bs pos)∧bs.data.toList=s
 | .nz x n=>b.blk=none∧∃a m,VA g w x (.slice a m n)
 | .loop ph n fid rid az=>Oz P g w b ph n fid rid az
 | .over e=>∃k r,b.blk=some k∧w.heap[k]? =some (.loop r)∧r.state= .done∧r.pending=TJ e
 | .map ag κ τ l ck=>∃k es,b.blk=some k∧w.heap[k]? =some (.map es ck)∧bZ (Bn g w ag) l es.toList
 | .gone=>True
theorem BR.p6 {P:Program} {g:Gh} {w:World} {b:Gb} {x:AB} (h:BR P g w b x) (hl:x.live=true) {k:Nat} (hk:b.blk=some k) {d:Option (List Deferred)}:w.heap[k]? ≠some (.deferred d):=by
 intro e;cases x with
 |cells l=>obtain⟨k',cs,e',hb,hh,_⟩:=h;rw[hb] at hk;cases hk;rw[hh] at e;cases e
 |row τ l=>
  obtain⟨_,_,h|⟨k',cs,e',hb,hh,_⟩⟩:=h
  ·rw[h.1] at hk;cases hk
  ·rw[hb] at hk;cases hk;rw[hh] at e;cases e
 |clo f a c=>rw[h.1] at hk;cases hk
 |iter s p=>obtain⟨k',bs,hb,hh,_⟩:=h;rw[hb] at hk;cases hk;rw[hh] at e;cases e
 |nz x n=>rw[h.1] at hk;cases hk
 |loop ph n f r az=>obtain⟨k',r,hb,hh,_⟩:=h;rw[hb] at hk;cases hk;rw[hh] at e;cases e
 |over e'=>obtain⟨k',r,hb,hh,_⟩:=h;rw[hb] at hk;cases hk;rw[hh] at e;cases e
 |map ag κ τ l ck=>obtain⟨k',r,hb,hh,_⟩:=h;rw[hb] at hk;cases hk;rw[hh] at e;cases e
 |gone=>simp [AB.live] at hl
theorem BR.mono {P:Program} {g g':Gh} {w w':World} {b:Gb} {x:AB} (h:BR P g w b x) (hw:cD g w w') (hk:∀k,b.blk=some k→w'.heap[k]? =w.heap[k]?) (hg:g.le g'):BR P g' w' b x:=by
 cases x with
 |cells l=>obtain⟨k,cs,e,hb,hh,ha⟩:=h;exact⟨k,cs,e,hb,(hk k hb).trans hh,ha.mono fun _ _ k=>k.mono hw hg⟩
 |row τ l=>
  obtain⟨h1,h2,h3⟩:=h;refine⟨h1,h2, ?_⟩;rcases h3 with h3|⟨k,cs,e,hb,hh,hs,hl,ho,ha⟩
  ·exact .inl h3
  ·exact .inr ⟨k,cs,e,hb,(hk k hb).trans hh,hs,hl,ho,fun i x j y hx hy=>let ⟨v,hv,ha'⟩:=ha i x j y hx hy;⟨v,hv,ha'.mono hw hg⟩⟩
 |clo f a c=>obtain⟨h0,fs,cs,hb,h1,h2⟩:=h;exact⟨h0,fs,cs,hb,h1.mono fun _ _ k=>k.mono hw hg,h2.mono fun _ _ k=>k.mono hw hg⟩
 |iter s p=>obtain⟨k,bs,hb,hh,e⟩:=h;exact⟨k,bs,hb,(hk k hb).trans hh,e⟩
 |nz x n=>obtain⟨hb,a,m,hv⟩:=h;exact⟨hb,a,m,hv.mono hw hg⟩
 |loop ph n f r az=>obtain⟨k,r,hb,hh,h1,h2,h3,h4,h5⟩:=h;exact⟨k,r,hb,(hk k hb).trans hh,h1,h2,h3,h4,fun t x hx=>⟨(h5 t x hx).1,(h5 t x hx).2.mono hw hg⟩⟩
 |over e=>obtain⟨k,r,hb,hh,h1⟩:=h;exact⟨k,r,hb,(hk k hb).trans hh,h1⟩
 |map ag κ τ l ck=>obtain⟨k,es,hb,hh,ha⟩:=h;exact⟨k,es,hb,(hk k hb).trans hh,ha.mono fun _ _ k=>k.of fun _ _ _ h=>h.mono hw hg⟩
 |gone=>trivial
def vof (sv:Nat→Value) (a:Act) (t:Nat):Value:=if t<OFF then a.tmps.getD t undef else sv (t - OFF)
theorem b6 {α:Type} {n:Nat} {r:List (Nat×α)} {x:α} (h:jy n r=some x):n<OFF∧look n r=some x:=by
 unfold jy at h;split at h
 ·rename_i hb;exact⟨by simpa [Nat.blt_eq] using hb,h⟩
 ·cases h
theorem uX {α:Type} {n:Nat} {r r':List (Nat×α)} (h:look n r=look n r'):jy n r=jy n r':=by unfold jy;rw[h]
theorem hJ {sv:Nat→Value} {a:Act} {t:Nat} (h:t<OFF):vof sv a t=a.tmps.getD t undef:=by unfold vof;rw[if_pos h]
def sw (r:Nat):Deferred:={target:= .collected r,args:= #[] }
structure Wt where
 marks:List Nat
 lv:Nat→Option Nat
def N2 (base:Nat) (D:Wt) (g:Gh) (ds:List Deferred) (w:World):Prop:=
 ∃rs:List Nat,ds=rs.map sw∧(rs++D.marks).Nodup∧∀r,r∈rs++D.marks→base≤r∧w.heap[r]? =some (.deferred (some []))∧¬g.S r
theorem N2.mono {base:Nat} {D:Wt} {g g':Gh} {ds:List Deferred} {w w':World} (h:N2 base D g ds w)
 (hw:∀r,base≤r→w.heap[r]? =some (.deferred (some []))→¬g.S r→w'.heap[r]? =some (.deferred (some []))∧¬g'.S r):N2 base D g' ds w':=by
 obtain⟨rs,h1,hn,h2⟩:=h;exact⟨rs,h1,hn,fun r hr=>⟨(h2 r hr).1,hw r (h2 r hr).1 (h2 r hr).2.1 (h2 r hr).2.2⟩⟩
def AB.jL:AB→Bool
 | .gone=>false
 | .cells _=>false
 | .row _ _=>false
 | .clo _ _ _=>false
 | .iter _ _=>false
 | .nz _ _=>false
 | .loop _ _ _ _ _=>true
 | .over _=>true
 | .map _ _ _ _ _=>false
theorem lE.mono {P:Program} [aE P] {g g':Gh} {w w':World} (h:lE P g w) (hw:cD g w w') (hS:∀k,g.S k→g'.S k):lE P g' w':=fun q τ l hl=>
 let ⟨h1,f,h2,h3⟩:=h q τ l hl
 ⟨hS _ h1,f,fun i j hi hj=>by rw[cell_of_heap (hw q h1)];exact h2 i j hi hj,h3⟩
theorem lE.va {P:Program} [aE P] {g:Gh} {w:World} (h:lE P g w) {q:Nat} {τ:Ty} {l:List τ.T} (hl:look q (aE.G P)=some ⟨τ,l⟩):VA g w (.gl τ l) (.pointer (some ⟨q,0,none⟩)):=
 let ⟨h1,f,h2,h3⟩:=h q τ l hl
 .gl τ l q f h1 h2 fun i x j y hx hy=>h3 i x j y hx hy g w
structure Rel (P:Program) [aE P] (base:Nat) (w0:World) (S0:Nat→Prop) (N:Nat) (D:Wt) (sv:Nat→Value) (g:Gh) (σ:St) (a:Act) (w:World):Prop where
 az:∀t x,look t σ.az=some x→AVR g w x (vof sv a t)
 size:a.tmps.size=N
 dfr:N2 base D g a.defers w
 lp:∀id x b,look id σ.mem=some x→x.jL=true→g.m id=some b→b.blk=D.lv id
 glo:lE P g w
 mem:∀id x,look id σ.mem=some x→∃b,g.m id=some b∧BR P g w b x
 inj:∀id id' x x' b b' k,look id σ.mem=some x→look id' σ.mem=some x'→x.live=true→x'.live=true→g.m id=some b→g.m id'=some b'→b.blk=some k→b'.blk=some k→id=id'
 own:∀id x b k,look id σ.mem=some x→x.live=true→g.m id=some b→b.blk=some k→base≤k∧¬g.S k
 S:∀k,g.S k→k<w.heap.size
 blk:∀id b k,g.m id=some b→b.blk=some k→k<w.heap.size
 nx:∀id b,g.m id=some b→id<σ.nx
 bel:Below base w0 w
 bs:base≤w.heap.size
 sub:∀k,g.S k→S0 k∨base≤k
def TS:TypeDesc→Bool
 | .struct _=>true
 | .array _ _=>true
 |_=>false
def zA:At→Value→Bool
 | .int k n, .int k' n'=>vU k k'&&decide (n=n')
 | .bool b, .bool b'=>b==b'
 | .str s, .string b=>s.isEmpty&&b.data.toList.isEmpty
 | .clip _ l, .slice none 0 0=>l.isEmpty
 | .oG, .pointer none=>true
 | .mC, .nilFunc=>true
 | .n_, .map none=>true
 |_,_=>false
def zL:List At→List Value→Bool
 | [], [] =>true
 |x::l,v::m=>zA x v&&zL l m
 |_,_=>false
def zV:V1→Value→Bool
 | .one x,v=>zA x v
 | .agg l, .agg vs=>zL l vs.toList
 |_,_=>false
def jv (P:Program):List Field→List (Nat×TypeId)→Bool
 | [], [] =>true
 |f::l,(off,t)::m=>Nat.beq f.offset off&&(Nat.beq f.type t&&((match P.info? t with|some i=> !(Nat.beq i.size 0) |none=>false)&&jv P l m))
 |_,_=>false
def tkB (P:Program):TypeDesc→TK→Bool
 | .int k, .int k'=>vU k k'
 | .bool, .bool=>true
 | .string, .str=>true
 | .struct fields, .struct fs=>jv P fields.toList fs
 | .array n e, .array n' e'=>Nat.beq n n'&&Nat.beq e e'
 | .slice e, .slice τ e'=>Nat.beq e e'&&(match P.info? e with|some i=>Nat.beq i.size τ.n&&Nat.ble i.bytes 4096|none=>false)
 | .pointer e, .ptr e'=>Nat.beq e e'
 | .map kt e, .map κ τ kt' e'=>Nat.beq kt kt'&&(Nat.beq e e'&&((match P.underlying kt,κ with|some (.int k), .int=>vU k .i64|some .string, .str=>true|_,_=>false)&&(match P.info? e with|some i=>Nat.beq i.size τ.n|none=>false)))
 |_, .other=>true
 |_,_=>false
def tiB (P:Program) (t:TypeId) (ti:TI):Bool:=
 match P.info? t,P.underlying t with
 |some i,some d=>Nat.beq i.size ti.size&&((TS d==ti.agg)&&(tkB P d ti.k&&(match i.zero with|some z=>zV ti.zero z&&Nat.beq z.cells.size ti.size|none=>false)))
 |_,_=>false
theorem sF {a b:IntKind} (h:vU a b=true):a=b:=by cases a<;>cases b<;>first|rfl|(simp [vU] at h)
theorem OB {x:At} {v:Value} (h:zA x v=true) (g:Gh) (w:World):VA g w x v:=by
 unfold zA at h;split at h
 ·simp only[Bool.and_eq_true,decide_eq_true_eq] at h;obtain⟨h1,rfl⟩:=h;obtain rfl:=sF h1;exact .int _ _
 ·simp only[beq_iff_eq] at h;subst h;exact .bool _
 ·simp only[Bool.and_eq_true,List.isEmpty_iff] at h;exact .str _ _ (by rw[h.1,h.2])
 ·simp only[List.isEmpty_iff] at h;subst h
  exact .clip _ [] none 0 0 0 (fun _ _=>default) rfl (fun h=>absurd rfl h) (fun i j hi _=>by simp at hi) (fun i x j y hx _=>by simp at hx)
 ·exact .oG
 ·exact .mC
 ·exact .n_
 ·simp at h
theorem OC:∀{l:List At} {m:List Value},zL l m=true→∀(g:Gh) (w:World),bZ (VA g w) l m
 | [], [],_,_,_=> .nil
 |x::l,v::m,h,g,w=>by
  simp only[zL,Bool.and_eq_true] at h;exact .cons (OB h.1 g w) (OC h.2 g w)
 | [],_::_,h,_,_=>by simp [zL] at h
 |_::_, [],h,_,_=>by simp [zL] at h
theorem Yt {x:V1} {v:Value} (h:zV x v=true) (g:Gh) (w:World):V1R g w x v:=by
 unfold zV at h;split at h
 ·exact OB h g w
 ·exact⟨_,by simp,OC h g w⟩
 ·simp at h
structure pL (P:Program) (t:TypeId) (ti:TI) (i:TypeInfo) (d:TypeDesc):Prop where
 info:P.info? t=some i
 size:i.size=ti.size
 und:P.underlying t=some d
 agg:TS d=ti.agg
 k:tkB P d ti.k=true
 zero:∃z,i.zero=some z∧z.cells.size=ti.size∧∀g w,V1R g w ti.zero z
theorem R0 {P:Program} {t:TypeId} {ti:TI} (h:tiB P t ti=true):∃i d,pL P t ti i d:=by
 unfold tiB at h;split at h
 ·rename_i i d hi hd
  simp only[Bool.and_eq_true,beq_iff_eq] at h;obtain⟨h1,h2,h3,h4⟩:=h;refine⟨i,d,hi,Nat.eq_of_beq_eq_true h1,hd,h2,h3, ?_⟩;split at h4
  ·rename_i z hz
   simp only[Bool.and_eq_true] at h4;exact⟨z,hz,Nat.eq_of_beq_eq_true h4.2,fun g w=>Yt h4.1 g w⟩
  ·simp at h4
 ·simp at h
def Ow (P:Program) (c:Cfg):Prop:=∀t ti,c.ti t=some ti→∃i d,pL P t ti i d
theorem wB {α:Type} {n:Nat} {l:List (Nat×α)} {x:α} (h:look n l=some x):(n,x)∈l:=by
 induction l with
 |nil=>simp [look] at h
 |cons y l ih=>
  simp only[look] at h;split at h
  ·rename_i hb;simp only[Option.some.injEq] at h;subst h;have:=Nat.eq_of_beq_eq_true hb;rw[←this];simp
  ·exact List.mem_cons_of_mem _ (ih h)
theorem Ll {P:Program} {c:Cfg} (h:c.T.all (fun x=>tiB P x.1 x.2)=true):Ow P c:=fun t ti hl=>by
 have:=List.all_eq_true.1 h _ (wB hl);exact R0 this
section
variable {P:Program} {t:TypeId} {ti:TI} {i:TypeInfo} {d:TypeDesc}
theorem pL.int (h:pL P t ti i d) {κ:IntKind} (hk:ti.k= .int κ):d= .int κ:=by
 have:=h.k;rw[hk] at this;cases d<;>simp [tkB] at this;rw[sF this]
theorem pL.str (h:pL P t ti i d) (hk:ti.k= .str):d= .string:=by
 have:=h.k;rw[hk] at this;cases d<;>simp [tkB] at this;rfl
theorem pL.struct (h:pL P t ti i d) {fs:List (Nat×TypeId)} (hk:ti.k= .struct fs):∃fields,d= .struct fields∧jv P fields.toList fs=true:=by
 have:=h.k;rw[hk] at this;cases d<;>simp [tkB] at this;exact⟨_,rfl,this⟩
theorem pL.array (h:pL P t ti i d) {n:Nat} {e:TypeId} (hk:ti.k= .array n e):d= .array n e:=by
 have:=h.k;rw[hk] at this;cases d<;>simp [tkB] at this;rw[this.1,this.2]
theorem pL.slice (h:pL P t ti i d) {τ:Ty} {e:TypeId} (hk:ti.k= .slice τ e):d= .slice e∧∃j,P.info? e=some j∧j.size=τ.n∧j.bytes≤4096:=by
 have:=h.k;rw[hk] at this;cases d<;>simp [tkB] at this
 obtain⟨h1,h2⟩:=this;subst h1;refine⟨rfl, ?_⟩;split at h2
 ·rename_i j hj;exact⟨j,hj,by simpa using h2⟩
 ·simp at h2
theorem pL.map (h:pL P t ti i d) {κ τ:Ty} {kt e:TypeId} (hk:ti.k= .map κ τ kt e):d= .map kt e∧((κ= .int∧P.underlying kt=some (.int .i64))∨(κ= .str∧P.underlying kt=some .string))∧∃j,P.info? e=some j∧j.size=τ.n:=by
 have:=h.k;rw[hk] at this;cases d<;>simp [tkB] at this
 obtain⟨h1,h2,h3,h4⟩:=this;subst h1;subst h2;refine⟨rfl, ?_, ?_⟩
 ·split at h3
  ·rename_i k hu;rw[sF h3] at hu;exact .inl ⟨rfl,hu⟩
  ·rename_i hu;exact .inr ⟨rfl,hu⟩
  ·simp at h3
 ·split at h4
  ·rename_i j hj;exact⟨j,hj,by simpa using h4⟩
  ·simp at h4
end
theorem mP {P:Program}:∀{l:List Field} {m:List (Nat×TypeId)},jv P l m=true→∀{k off:Nat} {t:TypeId},m[k]? =some (off,t)→
 ∃f:Field,l[k]? =some f∧f.offset=off∧f.type=t∧∃i,P.info? t=some i∧i.size≠0
 | [], [],_,k,off,t,h=>by simp at h
 |f::l,(o,u)::m,hb,k,off,t,h=>by
  simp only[jv,Bool.and_eq_true] at hb;obtain⟨h1,h2,h3,h4⟩:=hb;cases k with
  |zero=>
   simp at h;obtain⟨rfl,rfl⟩:=h;refine⟨f,rfl,Nat.eq_of_beq_eq_true h1,Nat.eq_of_beq_eq_true h2, ?_⟩;split at h3
   ·rename_i j hj
    refine⟨j,hj,fun e=> ?_⟩;rw[e] at h3;simp at h3
   ·simp at h3
  |succ k=>simpa using mP h4 (k:=k) (by simpa using h)
 | [],_::_,hb,_,_,_,_=>by simp [jv] at hb
 |_::_, [],hb,_,_,_,_=>by simp [jv] at hb
def mW:At→Bool
 | .int _ _=>true
 | .bool _=>true
 | .str _=>true
 | .sl _ _=>true
 | .fnc _=>true
 |_=>false
theorem cZ:∀(τ:Ty) (x:τ.T) (j:Nat) (y:At),(τ.enc x)[j]? =some y→mW y=true:=by
 intro τ x j y h;have hm:y∈τ.enc x:=List.mem_of_getElem? h;cases τ<;>simp only[Ty.enc,List.mem_cons,List.not_mem_nil,or_false] at hm<;>
  first|(subst hm;rfl) |(rcases hm with rfl|rfl|rfl|rfl|rfl|rfl<;>rfl) |(rcases hm with rfl|rfl|rfl|rfl|rfl<;>rfl) |(rcases hm with rfl|rfl|rfl|rfl<;>rfl) |(rcases hm with rfl|rfl<;>rfl)
theorem cU (τ:Ty) (x:τ.T):(τ.enc x).length=τ.n:=by cases τ<;>rfl
theorem vg (τ:Ty):0<τ.n:=by cases τ<;>decide
theorem VA.pure {g g':Gh} {w:World} {x:At} {v:Value} (h:VA g w x v) (hp:mW x=true) (hS:∀k,g.S k→g'.S k):VA g' w x v:=by
 induction h with
 |int k n=>exact .int k n
 |bool b=>exact .bool b
 |str s b h=>exact .str s b h
 |sl τ l a n c bk of f hn hc ha hcell hf ih=>
  exact .sl τ l a n c bk of f hn hc (fun e=>⟨(ha e).1,hS _ (ha e).2⟩) hcell fun i x j y hx hy=>ih i x j y hx hy (cZ _ _ _ _ hy)
 |fnc f=>exact .fnc f
 |_=>simp [mW] at hp
theorem V1R.flat {g g':Gh} {w w':World} {x:V1} {v:Value} (h:V1R g w x v) (hp:BW x=true):V1R g' w' x v:=by
 have one:∀{x:At} {v:Value},VA g w x v→qy x=true→VA g' w' x v:=fun{x v} h hp=>by
  cases h<;>first|(simp [qy] at hp;done) |constructor
  assumption
 cases x with
 |one x=>exact one h hp
 |agg l=>
  obtain⟨vs,rfl,h⟩:=h;refine⟨vs,rfl, ?_⟩;have hp':zu l=true:=hp;clear hp;induction h with
  |nil=>exact .nil
  |cons h _ ih=>
   simp only[zu] at hp';split at hp'
   ·exact .cons (one h ‹_›) (ih hp')
   ·simp at hp'
theorem AVR.flat {g g':Gh} {w w':World} {x:AV} {v:Value} (h:AVR g w x v) (hp:zK x=true):AVR g' w' x v:=by
 cases x with
 |v x=>exact V1R.flat h hp
 |tup l=>
  obtain⟨vs,rfl,h⟩:=h;refine⟨vs,rfl, ?_⟩;have hp':GG l=true:=hp;clear hp;induction h with
  |nil=>exact .nil
  |cons h _ ih=>
   simp only[GG] at hp';split at hp'
   ·exact .cons (V1R.flat h ‹_›) (ih hp')
   ·simp at hp'
 |undef=>simp [zK] at hp
 |dead=>simp [zK] at hp
theorem BR.cell {P:Program} {g:Gh} {w:World} {b:Gb} {τ:Ty} {l:List τ.T} (h:BR P g w b (.row τ l)) {k:Nat} (hk:b.blk=some k):
 ∃f:Nat→Nat→Value,(∀i j,i<b.cp→j<τ.n→w.cell? ⟨k,i*τ.n+j,none⟩=some (f i j))∧∀i x j y,l[i]? =some x→(τ.enc x)[j]? =some y→VA g w y (f i j):=by
 obtain⟨h1,h2,h3⟩:=h;rcases h3 with⟨h3,_⟩ |⟨k',cs,e,hb,hh,hs,hl,ho,ha⟩
 ·rw[hk] at h3;cases h3
 ·obtain rfl:k=k':=by rw[hk] at hb;cases hb;rfl
  refine⟨fun i j=>cs.getD (i*τ.n+j) undef,fun i j hi hj=> ?_,fun i x j y hx hy=> ?_⟩
  ·have hlt:i*τ.n+j<cs.size:=by
    rw[hs]
    calc i*τ.n+j<i*τ.n+τ.n:=by omega
     _=(i+1)*τ.n:=by rw[Nat.succ_mul]
     _≤b.cp*τ.n:=Nat.mul_le_mul_right _ hi
   simp [World.cell?,hh,Array.getD,hlt]
  ·obtain⟨v,hv,hx'⟩:=ha i x j y hx hy
   have he:cs.getD (i*τ.n+j) undef=v:=by rw[Array.getD_eq_getD_getElem?,hv];rfl
   show VA g w y (cs.getD (i*τ.n+j) undef);rw[he];exact hx'
theorem BR.len {P:Program} {g:Gh} {w:World} {b:Gb} {τ:Ty} {l:List τ.T} (h:BR P g w b (.row τ l)):b.ln=l.length∧l.length≤b.cp∧b.sz=τ.n:=by
 obtain⟨h1,h2,h3⟩:=h;rcases h3 with⟨h3,rfl,h4⟩ |⟨k',cs,e,hb,hh,hs,hl,ho,ha⟩
 ·exact⟨h2,by simp,h1⟩
 ·exact⟨h2,hl,h1⟩
theorem BR.part {P:Program} {g g':Gh} {w:World} {b:Gb} {τ:Ty} {l:List τ.T} (h:BR P g w b (.row τ l)) (hS:∀k,g.S k→g'.S k) (hb:∀k,b.blk=some k→g'.S k)
 {off len c:Nat} {a:Option Addr} (hl:off+len≤l.length) (hc:len≤c) (ha:len≠0→∃k,b.blk=some k∧a=some ⟨k,off*b.sz,none⟩):
 VA g' w (.sl τ ((l.drop off).take len)) (.slice a len c):=by
 have hlen:((l.drop off).take len).length=len:=by simp;omega
 by_cases h0:len=0
 ·subst h0
  exact .sl τ _ a 0 c 0 0 (fun _ _=>default) (by simp) (by omega) (fun e=>by simp at e) (fun i j hi _=>by simp at hi) (fun i x j y hx _=>by simp at hx)
 ·obtain⟨k,hk,rfl⟩:=ha h0
  obtain⟨f,hf1,hf2⟩:=h.cell hk;obtain⟨-,hcp,hsz⟩:=h.len;refine .sl τ _ _ len c k (off*τ.n) (fun i j=>f (off+i) j) hlen.symm hc (fun _=>⟨by rw[hsz],hb k hk⟩) (fun i j hi hj=> ?_) (fun i x j y hx hy=> ?_)
  ·rw[hlen] at hi
   have:=hf1 (off+i) j (by omega) hj;rwa[show(off+i)*τ.n+j=off*τ.n+(i*τ.n+j) from by rw[Nat.add_mul];omega] at this
  ·have hi:i<len:=by
    rcases Nat.lt_or_ge i len with h'|h'
    ·exact h'
    ·rw[List.getElem?_eq_none (by omega)] at hx;cases hx
   have hx':l[off+i]? =some x:=by
    rw[List.getElem?_take_of_lt hi,List.getElem?_drop] at hx;exact hx
   exact(hf2 (off+i) x j y hx' hy).pure (cZ _ _ _ _ hy) hS
theorem BR.whole {P:Program} {g g':Gh} {w:World} {b:Gb} {τ:Ty} {l:List τ.T} (h:BR P g w b (.row τ l)) (hS:∀k,g.S k→g'.S k) (hb:∀k,b.blk=some k→g'.S k)
 {a:Option Addr} (ha:∀k,b.blk=some k→a=some ⟨k,0,none⟩) (h0:b.blk=none→b.cp=0∧b.ln=0):VA g' w (.sl τ l) (.slice a b.ln b.cp):=by
 have hl:=h.len;have:=h.part hS hb (off:=0) (len:=l.length) (c:=b.cp) (a:=a) (by omega) hl.2.1 (fun hne=>by
  cases hk:b.blk with
  |none=>exact absurd (hl.1▸(h0 hk).2) hne
  |some k=>exact⟨k,rfl,by rw[ha k hk];simp⟩)
 rw[hl.1];simpa using this
theorem bo {α:Type} {b:Bool} {x y:Option α} {r:α} (h:ae b x y=some r):(b=true∧x=some r)∨(b=false∧y=some r):=by
 cases b
 ·exact .inr ⟨rfl,h⟩
 ·exact .inl ⟨rfl,h⟩
theorem bz {α β:Type} {o:Option α} {f:α→Option β} {r:β} (h:aj o f=some r):∃x,o=some x∧f x=some r:=by
 cases o with
 |none=>simp [aj] at h
 |some x=>exact⟨x,rfl,h⟩
theorem gX {α:Type} {n:Nat} {x:Option α} {r:α} (h:aT n x=some r):n≤LIM∧x=some r:=by
 unfold aT at h;split at h
 ·exact⟨Nat.le_of_ble_eq_true ‹_›,h⟩
 ·simp at h
def Gh.grow (g:Gh) (w w':World):Gh:={S:=fun k=>g.S k∨(w.heap.size≤k∧k<w'.heap.size),m:=g.m}
theorem Gh.Bp (g:Gh) (w w':World):g.le (g.grow w w'):=⟨fun _ h=> .inl h,fun _ _ h=>h⟩
theorem cD.refl (g:Gh) (w:World):cD g w w:=fun _ _=>rfl
theorem cD.kS {g:Gh} {w w':World} (hS:∀k,g.S k→k<w.heap.size) (h:Below w.heap.size w w'):cD g w w':=fun k hk=>h.block k (hS k hk)
def vn (P:Program) (g:Gh) (w:World) (m:Mem):Prop:=∀id x,look id m=some x→∃b,g.m id=some b∧BR P g w b x
def Ii (P:Program) [aE P] (f:Nat) (s:Spec):Prop:=
 ∀(S:Nat→Prop) (w:World) (args:List AV) (vs:List Value) (x:s.X) (y:s.Y),(∀k,S k→k<w.heap.size)→lE P ⟨S,fun _=>none⟩ w→bZ (AVR ⟨S,fun _=>none⟩ w) args vs→s.pat args=some x→s.f x=some y→
  Calls P f vs.toArray w fun e w'=>∃v,e= .returned v∧Below w.heap.size w w'∧AVR ⟨fun k=>S k∨(w.heap.size≤k∧k<w'.heap.size),fun _=>none⟩ w' (s.enc y) v
structure aN (P:Program) [aE P] (f:Nat) (s:Spec):Prop where
 enters:∀args w,(callFunc f args).run P w= .ok (.enter f args) w
 calls:Ii P f s
def FrR (P:Program) (S:Nat→Prop) (lo:Nat) (w':World) (ab:AB) (v:Value):Prop:=
 ∃b:Gb,(∀k,b.blk=some k→lo≤k∧k<w'.heap.size)∧ab.live=true∧ab.jL=false∧
  BR P ⟨fun k=>S k∨(lo≤k∧k<w'.heap.size∧b.blk≠some k),fun _=>none⟩ w' b ab∧∃y,AO 0 ab=some y∧VA ⟨fun _=>False,fun i=>if i=0 then some b else none⟩ w' y v
structure mZ (P:Program) [aE P] (f:Nat) (s:kM):Prop where
 enters:∀args w,(callFunc f args).run P w= .ok (.enter f args) w
 calls:∀(S:Nat→Prop) (w:World) (args:List AV) (vs:List Value) (x:s.X) (ab:AB),(∀k,S k→k<w.heap.size)→lE P ⟨S,fun _=>none⟩ w→bZ (AVR ⟨S,fun _=>none⟩ w) args vs→s.pat args=some x→s.f x=some ab→
  Calls P f vs.toArray w fun e w'=>∃v,e= .returned v∧Below w.heap.size w w'∧FrR P S w.heap.size w' ab v
def ekB (P:Program) (t:TypeId):EK→Bool
 | .i=>match P.underlying t with|some (.int _)=>true|_=>false
 | .b=>match P.underlying t with|some .bool=>true|_=>false
 | .s=>match P.underlying t with|some .string=>true|_=>false
def HN (P:Program):Nat→List Field→List EK→Bool
 |_, [], [] =>true
 |i,f::l,e::es=>Nat.beq f.offset i&&(f.name != "_" &&(ekB P f.type e&&HN P (i+1) l es))
 |_,_,_=>false
def eqB (P:Program) (t:TypeId) (es:List EK):Bool:=
 match P.underlying t with
 |some (.struct fs)=> !(P.stoodInHeld t)&&(!(P.eqGuardType P.depth t)&&HN P 0 fs.toList es)
 |_=>false
def Bh (P:Program) [aE P] (c:Cfg):Prop:=∀(q:Nat) (τ:Ty) (l:List τ.T),look q c.ba=some ⟨τ,l⟩→look q (aE.G P)=some ⟨τ,l⟩
def Gy (P:Program) (c:Cfg):Prop:=∀t es,look t c.eqs=some es→eqB P t es=true
structure Env (P:Program) [aE P] (c:Cfg) (g:Gh) (r:cv) (m:Mem) (xs:List Operand) (a:Act) (w:World):Prop where
 ev:∀x,x∈xs→∀t y,ev c r t x=some y→AVR g w y (a.eval x)
 mem:vn P g w m
 ts:Ow P c
 sp:∀f s,look f c.spec=some s→aN P f s
 S:∀k,g.S k→k<w.heap.size
 blk:∀id b k,g.m id=some b→b.blk=some k→k<w.heap.size
 eqs:Gy P c
 glo:lE P g w
theorem w8 {c:Cfg} {t:TypeId} {v:Value} {y:AV} (h:wk c t v=some y) (g:Gh) (w:World):AVR g w y v:=by
 unfold wk at h;split at h
 ·cases h;exact VA.bool _
 ·cases h;exact VA.int _ _
 ·cases h;exact VA.str _ _ rfl
 ·split at h
  ·cases h
   exact VA.clip _ [] none 0 0 0 (fun _ _=>default) rfl (fun h=>absurd rfl h) (fun i j hi _=>by simp at hi) (fun i x j y hx _=>by simp at hx)
  ·simp at h
 ·cases h;exact VA.oG
 ·cases h;exact VA.mC
 ·cases h;exact VA.n_
 ·simp at h
theorem I7 {P:Program} [aE P] {c:Cfg} {g:Gh} {r:cv} {a:Act} {w:World} {o:Oper} {sv:Nat→Value} (hr:∀t,t∈fh o→∀x,look t r=some x→AVR g w x (vof sv a t)) (hG:lE P g w) (hc:Bh P c):
 ∀x,x∈o.op.operands.toList→∀t y,ev c r t x=some y→AVR g w y (a.eval x):=by
 intro x hx t y h;cases x with
 |tmp n=>obtain⟨hn,h⟩:=b6 h;have:=hr n (List.mem_filterMap.2 ⟨.tmp n,hx,rfl⟩) y h;rw[hJ hn] at this;exact this
 |const v=>exact w8 h g w
 |func f=>simp only[ev,Option.some.injEq] at h;subst h;exact VA.fnc f
 |«global» q=>
  simp only[ev] at h;split at h
  ·rename_i τ l hl
   simp only[Option.some.injEq] at h;subst h;exact hG.va (hc q τ l hl)
  ·simp at h
section
variable {P:Program} [aE P] {F:Fence} {n:Nat} {c:Cfg} {g:Gh} {r:cv} {m:Mem} {xs:List Operand} {a:Act} {w:World} {o:Oper} {R:Type} {k:AV→Option R} {res:R}
theorem Env.evV (E:Env P c g r m xs a w) {x:Operand} (hx:x∈xs) {t:TypeId} {y:V1} (h:evV c r t x=some y):V1R g w y (a.eval x):=by
 unfold Go.Eng.evV at h;split at h
 ·rename_i z hz;cases h;exact E.ev x hx t _ hz
 ·simp at h
theorem Env.evA (E:Env P c g r m xs a w) {x:Operand} (hx:x∈xs) {t:TypeId} {y:At} (h:evA c r t x=some y):VA g w y (a.eval x):=by
 unfold Go.Eng.evA at h;split at h
 ·rename_i z hz;cases h;exact E.ev x hx t _ hz
 ·simp at h
def dR (P:Program) (F:Fence) (n:Nat) (g:Gh) (w:World) (o:Oper) (a:Act) (y:AV):Prop:=
 ∀(K:Act→World→Prop) (Q:Exit→Act→World→Prop),(∀v w',Below w.heap.size w w'→AVR (g.grow w w') w' y v→K (a.put o.dst v) w')→o.wpIn F n P a w K Q
structure bY (F:Fence):Prop where
 fn:∀f,F.fn f
 depth:F.depth=none
 alive:F.alive=false
theorem dR.val (hF:bY F) {y:AV} {v:Value} (hd:∀c,o.op≠ .defer c) (hr:(execOp a.eval o).run P w= .ok (.value v) w) (hv:AVR g w y v):dR P F n g w o a y:=by
 intro K Q hK;refine⟨fun f _=>hF.fn f, ?_⟩;rw[Oper.semAt_eq _ _ _ hd,hr];exact hK v w (Below.refl _ _) (hv.mono (cD.refl _ _) (Gh.Bp _ _ _))
theorem JS (E:Env P c g r m xs a w) (hF:bY F) {x:Operand} (hx:x∈xs) (hop:o.op= .move x∨o.op= .assign x) (h:aj (Go.Eng.ev c r o.type x) k=some res):
 ∃y,k y=some res∧dR P F n g w o a y:=by
 obtain⟨y,hy,hk⟩:=bz h;refine⟨y,hk,dR.val hF ?_ ?_ (E.ev x hx _ _ hy)⟩
 ·intro c;rcases hop with h|h<;>simp [h]
 ·rcases hop with h|h<;>simp [execOp,h]
theorem Rd (E:Env P c g r m xs a w) (hF:bY F) {b x y:Operand} (hb:b∈xs) (hx:x∈xs) (hy:y∈xs) (hop:o.op= .pick b x y)
 {t:Bool} (ht:Go.Eng.evA c r 0 b=some (.bool t)) (h:ae t (aj (Go.Eng.ev c r o.type x) k) (aj (Go.Eng.ev c r o.type y) k)=some res):
 ∃y,k y=some res∧dR P F n g w o a y:=by
 have hbv:a.eval b= .bool t:=by
  have:=E.evA hb ht;generalize a.eval b=u at this⊢;cases this;rfl
 rcases bo h with⟨rfl,h⟩ |⟨rfl,h⟩
 ·obtain⟨z,hz,hk⟩:=bz h
  exact⟨z,hk,dR.val hF (by simp [hop]) (by simp [execOp,hop,hbv,asBool]) (E.ev x hx _ _ hz)⟩
 ·obtain⟨z,hz,hk⟩:=bz h
  exact⟨z,hk,dR.val hF (by simp [hop]) (by simp [execOp,hop,hbv,asBool]) (E.ev y hy _ _ hz)⟩
theorem tz {g:Gh} {w:World} {τ:Ty} {x:τ.T} {bk of:Nat} {f:Nat→Value} (hcell:∀i,i<τ.n→w.cell? ⟨bk,of+i,none⟩=some (f i))
 (hf:∀i y,(τ.enc x)[i]? =some y→VA g w y (f i)) {j n:Nat} (hj:j+n≤τ.n):
 ∃us:List Value,us.length=n∧(∀i u,us[i]? =some u→w.cell? ⟨bk,of+j+i,none⟩=some u)∧bZ (VA g w) (((τ.enc x).drop j).take n) us:=by
 refine⟨(List.range n).map fun i=>f (j+i),by simp,fun i u hu=> ?_,bZ.Fl (by simp [cU];omega) fun i x' u hx hu=> ?_⟩
 ·have hi:i<n:=by
   rcases Nat.lt_or_ge i n with h|h
   ·exact h
   ·rw[List.getElem?_eq_none (by simpa using h)] at hu;cases hu
  simp [hi] at hu;subst hu;rw[show of+j+i=of+(j+i) from by omega];exact hcell (j+i) (by omega)
 ·have hi:i<n:=by
   rcases Nat.lt_or_ge i n with h|h
   ·exact h
   ·rw[List.getElem?_eq_none (by simpa using h)] at hu;cases hu
  simp [hi] at hu;subst hu;rw[List.getElem?_take_of_lt hi,List.getElem?_drop] at hx;exact hf _ _ hx
theorem rZ {p:At} {n:Nat} {k:List At→Option R} {v:Value} (hm:vn P g w m) (hp:VA g w p v) (h:iV m p n k=some res):
 ∃cs us bk of,k cs=some res∧v= .pointer (some ⟨bk,of,none⟩)∧us.length=n∧(∀i u,us[i]? =some u→w.cell? ⟨bk,of+i,none⟩=some u)∧bZ (VA g w) cs us:=by
 unfold iV at h;split at h
 ·rename_i id off
  split at h
  ·rename_i l hl
   split at h
   ·rename_i hle
    cases hp with
    |ptr _ _ b k' hb hk'=>
     obtain⟨b',hb',k2,cs,e,hk2,hh,ha⟩:=hm _ _ hl;rw[hb] at hb';cases hb';rw[hk'] at hk2;cases hk2;have hle:=Nat.le_of_ble_eq_true hle;have hlen:=ha.length;refine⟨_,(cs.toList.drop off).take n,k',off,h,rfl, ?_,fun i u hu=> ?_,(ha.drop off).take n⟩
     ·simp;simp at hlen;omega
     ·have hi:i<n:=by
       rcases Nat.lt_or_ge i n with h'|h'
       ·exact h'
       ·rw[List.getElem?_eq_none (by simp;omega)] at hu;cases hu
      rw[List.getElem?_take_of_lt hi,List.getElem?_drop] at hu;simp [World.cell?,hh];simpa using hu
   ·simp at h
  ·simp at h
 ·rename_i id i j
  split at h
  ·rename_i τ l hl
   split at h
   ·rename_i hle
    obtain⟨x,hx,hk⟩:=bz h;cases hp with
    |ft _ _ _ b k' hb hk'=>
     obtain⟨b',hb',hbr⟩:=hm _ _ hl;rw[hb] at hb';cases hb';obtain⟨f,hf1,hf2⟩:=hbr.cell hk';obtain⟨h1,h2,h3⟩:=hbr.len;have hi:i<l.length:=by
      rcases Nat.lt_or_ge i l.length with h'|h'
      ·exact h'
      ·rw[List.getElem?_eq_none h'] at hx;cases hx
     obtain⟨us,hu1,hu2,hu3⟩:=tz (g:=g) (w:=w) (τ:=τ) (x:=x) (bk:=k') (of:=i*b.sz) (f:=f i) (fun q hq=>by rw[h3];exact hf1 i q (by omega) hq) (fun q y hy=>hf2 i x q y hx hy) (Nat.le_of_ble_eq_true hle);exact⟨_,us,k',_,hk,rfl,hu1,hu2,hu3⟩
   ·simp at h
  ·simp at h
 ·rename_i τ x j
  split at h
  ·rename_i hle
   cases hp with
   |gC _ _ _ bk of f ha hcell hf=>
    obtain⟨us,hu1,hu2,hu3⟩:=tz hcell hf (Nat.le_of_ble_eq_true hle);exact⟨_,us,bk,_,h,rfl,hu1,hu2,hu3⟩
  ·simp at h
 ·simp at h
theorem da (b o n:Nat):(⟨b,o,none⟩:Addr).add n=⟨b,o+n,none⟩:=by
 unfold Addr.add;split
 ·rename_i h;subst h;rfl
 ·rfl
theorem kg {t:TypeId} {d:TypeDesc} (h:P.underlying t=some d):(isAgg t).run P w= .ok (TS d) w:=by
 simp only[isAgg,Sem.run_bind,run_underlying h,Result.andThen_ok];cases d<;>rfl
theorem run_sizeOf {t:TypeId} {i:TypeInfo} (h:P.info? t=some i):(sizeOf t).run P w= .ok i.size w:=by
 simp [sizeOf,typeInfo,h]
theorem yi {b:Bool} {l:List At} {v:V1} (h:V1.dw b l=some v):(b=true∧v= .agg l)∨(b=false∧∃x,l=[x]∧v= .one x):=by
 unfold V1.dw at h;split at h
 ·cases h;exact .inl ⟨rfl,rfl⟩
 ·cases h;exact .inr ⟨rfl,_,rfl,rfl⟩
 ·simp at h
theorem p7 {t:TypeId} {ti:TI} {i:TypeInfo} {d:TypeDesc} (T:pL P t ti i d) {bk of:Nat} {us:List Value} (hl:us.length=ti.size)
 (hc:∀i u,us[i]? =some u→w.cell? ⟨bk,of+i,none⟩=some u) {cs:List At} (ha:bZ (VA g w) cs us) {v:V1} (hv:V1.dw ti.agg cs=some v):
 ∃u,(loadVar t ⟨bk,of,none⟩).run P w= .ok u w∧V1R g w v u:=by
 rcases yi hv with⟨hb,rfl⟩ |⟨hb,x,rfl,rfl⟩
 ·refine⟨.agg us.toArray, ?_,us,rfl,ha⟩
  have hlc:=run_loadCells_list (P:=P) w ⟨bk,of,none⟩ us (fun j u hu=>by rw[da];exact hc j u hu);simp only[loadVar,Sem.run_bind,kg T.und,Result.andThen_ok,T.agg,hb,if_true,run_sizeOf T.info,T.size,←hl,hlc,Sem.run_pure]
 ·cases ha with
  |cons h1 t1=>
   cases t1;rename_i u;refine⟨u, ?_,h1⟩;have:=hc 0 u rfl;simp only[Nat.add_zero] at this;simp [loadVar,kg T.und,T.agg,hb,this]
theorem P5 (E:Env P c g r m xs a w) (hF:bY F) {t:TypeId} {x:Operand} (hx:x∈xs) (hop:o.op= .load t x) {ti:TI} {p:At} (hti:c.ti t=some ti) (hp:Go.Eng.evA c r 0 x=some p)
 (h:iV m p ti.size (fun l=>aj (V1.dw ti.agg l) fun v=>k (.v v))=some res):∃y,k y=some res∧dR P F n g w o a y:=by
 obtain⟨i,d,T⟩:=E.ts t ti hti;obtain⟨cs,us,bk,of,hk,hv,hl,hc,ha⟩:=rZ E.mem (E.evA hx hp) h;obtain⟨v,hv1,hk⟩:=bz hk;obtain⟨u,hu,hvu⟩:=p7 T hl hc ha hv1;exact⟨_,hk,dR.val hF (by simp [hop]) (v:=u) (by simp [execOp,hop,hv,Instr.loadAt,Instr.sureAddr,hu]) hvu⟩
theorem jX (E:Env P c g r m xs a w) (hF:bY F) {x:Operand} (hx:x∈xs) (hop:o.op= .nilCheck x) {p:At} (hp:Go.Eng.evA c r 0 x=some p)
 (hk:k (.one p)=some res) (hc:(∃id off,p= .ptr id off)∨(∃id i j,p= .ft id i j)∨(∃τ x j,p= .gC τ x j)∨(∃τ l,p= .gl τ l)∨(∃f,p= .fnc f)∨(∃f,p= .clo f)):
 ∃y,k y=some res∧dR P F n g w o a y:=by
 have hv:=E.evA hx hp;refine⟨_,hk,dR.val hF (by simp [hop]) (v:=a.eval x) ?_ hv⟩;simp only[execOp,hop];generalize a.eval x=u at hv⊢;rcases hc with⟨_,_,rfl⟩ |⟨_,_,_,rfl⟩ |⟨_,_,_,rfl⟩ |⟨_,_,rfl⟩ |⟨_,rfl⟩ |⟨_,rfl⟩<;>cases hv<;>simp
theorem xX {t:TypeId} {ti:TI} {i:TypeInfo} {d:TypeDesc} (T:pL P t ti i d) {fs:List (Nat×TypeId)} (hk:ti.k= .struct fs) {f off:Nat} {t':TypeId} (hf:fs[f]? =some (off,t')):
 ∃(fields:Array Field) (fd:Field),P.underlying t=some (.struct fields)∧fields[f]? =some fd∧fd.offset=off∧fd.type=t'∧∃j,P.info? t'=some j∧j.size≠0:=by
 obtain⟨fields,rfl,hb⟩:=T.struct hk;obtain⟨fd,h1,h2⟩:=mP hb hf;exact⟨fields,fd,T.und,by simpa using h1,h2⟩
theorem wV {bk of:Nat} {fd:Field} {j:TypeInfo} (hj:P.info? fd.type=some j) (h0:j.size≠0):(fieldPlace ⟨bk,of,none⟩ fd).run P w= .ok ⟨bk,of+fd.offset,none⟩ w:=by
 simp [fieldPlace,run_sizeOf hj,h0,da]
theorem C8 {s:TypeId} {fields:Array Field} {f:Nat} {fd:Field} {j:TypeInfo} (hu:P.underlying s=some (.struct fields)) (hf:fields[f]? =some fd) (hj:P.info? fd.type=some j) (h0:j.size≠0) (bk of:Nat):
 (Instr.fieldAt s (.pointer (some ⟨bk,of,none⟩)) f).run P w= .ok (.pointer (some ⟨bk,of+fd.offset,none⟩)) w:=by
 simp [Instr.fieldAt,run_underlying hu,hf,Instr.sureAddr,wV hj h0]
theorem Cz (E:Env P c g r m xs a w) (hF:bY F) {s:TypeId} {x:Operand} {f:Nat} (hx:x∈xs) (hop:o.op= .fieldAddr s x f) {ti:TI} {fs:List (Nat×TypeId)} (hti:c.ti s=some ti) (hfs:ti.k= .struct fs)
 {p:At} (hp:Go.Eng.evA c r 0 x=some p) {off:Nat} {t':TypeId} (hf:fs[f]? =some (off,t'))
 (h:(match (generalizing:=false) p with
  | .ptr id o=>k (.one (.ptr id (o+off)))
  | .ft id i j=>k (.one (.ft id i (j+off)))
  | .gC τ x j=>k (.one (.gC τ x (j+off)))
  |_=>none)=some res):∃y,k y=some res∧dR P F n g w o a y:=by
 obtain⟨i,d,T⟩:=E.ts s ti hti;obtain⟨fields,fd,hu,hfd,ho,rfl,j,hj,h0⟩:=xX T hfs hf;have hv:=E.evA hx hp;have fin:∀{q:At} {bk of:Nat},a.eval x= .pointer (some ⟨bk,of,none⟩)→VA g w q (.pointer (some ⟨bk,of+off,none⟩))→dR P F n g w o a (.one q):=by
  intro q bk of e hq;refine dR.val hF (by simp [hop]) (v:= .pointer (some ⟨bk,of+off,none⟩)) ?_ hq;simp [execOp,hop,e,C8 hu hfd hj h0,ho]
 generalize hev:a.eval x=u at hv;split at h
 ·cases hv with
  |ptr id o b k' hm hk=>exact⟨_,h,fin hev (.ptr _ _ b k' hm hk)⟩
 ·cases hv with
  |ft id i j b k' hm hk=>exact⟨_,h,fin hev (by rw[Nat.add_assoc];exact .ft _ _ _ b k' hm hk)⟩
 ·cases hv with
  |gC τ x j bk of f ha hcell hf=>exact⟨_,h,fin hev (by rw[Nat.add_assoc];exact .gC _ _ _ bk of f ha hcell hf)⟩
 ·simp at h
theorem KT (E:Env P c g r m xs a w) (hF:bY F) {t:TypeId} {x i:Operand} (hx:x∈xs) (hi:i∈xs) (hop:o.op= .index t x i) {s:Str} {κ:IntKind} {q:Int}
 (hs:Go.Eng.evV c r t x=some (.one (.str s))) (hq:Go.Eng.evA c r 0 i=some (.int κ q)) (hu:P.underlying t=some .string)
 (h:ae (decide (0≤q)) (aj s[q.toNat]? fun b=>k (.one (.int .u8 b.toNat))) none=some res):∃y,k y=some res∧dR P F n g w o a y:=by
 have h1:VA g w (.str s) (a.eval x):=E.evV hx hs;have h2:=E.evA hi hq;generalize hxv:a.eval x=u at h1;generalize hiv:a.eval i=u' at h2;rcases bo h with⟨h0,h⟩ |⟨_,h⟩
 ·simp only[decide_eq_true_eq] at h0
  obtain⟨b,hb,hk⟩:=bz h;cases h1 with
  |str _ bs e=>
   cases h2;refine⟨_,hk,dR.val hF (by simp [hop]) (v:= .int .u8 b.toNat) ?_ (VA.int _ _)⟩;have hsz:q.toNat<bs.size:=by
    rcases Nat.lt_or_ge q.toNat s.length with h'|h'
    ·rw[←e] at h';simpa using h'
    ·rw[List.getElem?_eq_none h'] at hb;cases hb
   have hb':bs[q.toNat]? =some b:=by
    rw[←e] at hb;simp only[Array.getElem?_toList] at hb;rw[getElem?_pos bs q.toNat hsz];rw[getElem?_pos bs.data q.toNat hsz] at hb;exact hb
   simp [execOp,hop,hxv,hiv,Instr.index,asIntOf,run_underlying hu,h0,hb']
 ·simp at h
theorem Hp (E:Env P c g r m xs a w) (hF:bY F) {x:Operand} {i:Nat} (hx:x∈xs) (hop:o.op= .extract x i) {l:List V1} {v:V1} (hl:Go.Eng.ev c r 0 x=some (.tup l)) (hv:l[i]? =some v)
 (hk:k (.v v)=some res):∃y,k y=some res∧dR P F n g w o a y:=by
 obtain⟨vs,he,ha⟩:=E.ev x hx _ _ hl;obtain⟨u,hu,hr⟩:=ha.get hv;refine⟨_,hk,dR.val hF (by simp [hop]) (v:=u) ?_ hr⟩;have:vs.toArray[i]? =some u:=by simpa using hu
 simp [execOp,hop,he,Instr.extract,hu]
end
section
variable {P:Program} [aE P] {F:Fence} {n:Nat} {c:Cfg} {g:Gh} {r:cv} {m:Mem} {xs:List Operand} {a:Act} {w:World} {o:Oper} {R:Type} {k:AV→Option R} {res:R}
theorem L3 {op:BinOp} {κ:IntKind} {p q:Int} (t:TypeId) (hs:Bg op=false) (h:Hz op κ p q k=some res):
 ∃y v,k y=some res∧(binOp op t (.int κ p) (.int κ q)).run P w= .ok v w∧∀g,AVR g w y v:=by
 cases op<;>simp only[Hz,Bg,reduceCtorEq] at h hs<;>try (simp at hs;done)
 case quo=>
  rcases bo h with⟨_,h⟩ |⟨h0,h⟩
  ·simp at h
  ·simp only[beq_eq_false_iff_ne] at h0
   exact⟨_,_,h,by simp [binOp,Op.intDiv,h0],fun g=>VA.int _ _⟩
 case rem=>
  rcases bo h with⟨_,h⟩ |⟨h0,h⟩
  ·simp at h
  ·simp only[beq_eq_false_iff_ne] at h0
   exact⟨_,_,h,by simp [binOp,Op.intDiv,h0],fun g=>VA.int _ _⟩
 all_goals first
  |(refine⟨_, .int κ _,h, ?_,fun g=>VA.int _ _⟩;simp [binOp,Op.intArith];done)
  |(refine⟨_, .bool _,h, ?_,fun g=>VA.bool _⟩;simp [binOp,Op.intCmp];done)
  |(refine⟨_, .int κ _,h, ?_,fun g=>VA.int _ _⟩;simp only[binOp,ne_eq,not_true_eq_false,if_false];rfl)
theorem Ha {op:BinOp} {κ κ':IntKind} {p q:Int} (t:TypeId) (h:uh op κ p q k=some res):
 ∃y v,k y=some res∧(binOp op t (.int κ p) (.int κ' q)).run P w= .ok v w∧∀g,AVR g w y v:=by
 cases op<;>simp only[uh,reduceCtorEq] at h<;>
  (rcases bo h with⟨_,h⟩ |⟨h0,h⟩
   ·simp at h
   ·simp only[decide_eq_false_iff_not] at h0
    exact⟨_, .int κ _,h,by simp [binOp,Op.shift,h0],fun g=>VA.int _ _⟩)
theorem LJ {op:BinOp} {p q:Str} {b b':ByteArray} (t:TypeId) (hp:b.data.toList=p) (hq:b'.data.toList=q) (h:Ij op p q k=some res):
 ∃y v,k y=some res∧(binOp op t (.string b) (.string b')).run P w= .ok v w∧∀g,AVR g w y v:=by
 have e1:b.toList=p:=by rw[ByteArray.toList_eq];exact hp
 have e2:b'.toList=q:=by rw[ByteArray.toList_eq];exact hq
 cases op<;>simp only[Ij,reduceCtorEq] at h
 case add=>
  obtain⟨hle,h⟩:=gX h;refine⟨_, .string (b++b'),h, ?_,fun g=>VA.str _ _ ?_⟩
  ·have h1:b.size=p.length:=by rw[←hp];simp
   have h2:b'.size=q.length:=by rw[←hq];simp
   have:¬(((b.size+b'.size:Nat):Int)>IntKind.i64.max):=by
    have e:IntKind.i64.max=9223372036854775807:=by decide
    rw[e];unfold LIM at hle;omega
   simp only[binOp,Op.stringOp,this,if_false];rfl
  ·simp [hp,hq]
 all_goals exact⟨_,_,h,by simp only[binOp,Op.stringOp,e1,e2];rfl,fun g=>VA.bool _⟩
theorem Ol {x y:At} {e:EK} {t:Bool} {vx vy:Value} {ty:TypeId} {d:Nat} (h:JK e x y=some t) (hx:VA g w x vx) (hy:VA g w y vy) (hk:ekB P ty e=true):
 (Op.equalIn (d+1) ty vx vy).run P w= .ok t w∧(isAgg ty).run P w= .ok false w:=by
 unfold JK at h;split at h
 ·rename_i κ p κ' q
  split at h
  ·cases h
   have:=sF ‹_›;subst this;simp only[ekB] at hk;split at hk
   ·rename_i κ'' hu
    cases hx;cases hy;exact⟨run_equalIn_int w d _ κ κ'' p q hu,kg hu⟩
   ·simp at hk
  ·simp at h
 ·cases h
  simp only[ekB] at hk;split at hk
  ·rename_i hu
   cases hx with
   |str _ b e1=>
    cases hy with
    |str _ b' e2=>
     refine⟨?_,kg hu⟩;rw[run_equalIn_string w d _ b b' hu,ByteArray.toList_eq,ByteArray.toList_eq,e1,e2]
  ·simp at hk
 ·cases h
  simp only[ekB] at hk;split at hk
  ·rename_i hu
   cases hx;cases hy;exact⟨run_equalIn_bool' w d _ _ _ hu,kg hu⟩
  ·simp at hk
 ·simp at h
theorem lC {xs ys:Array Value} {d:Nat}:∀(fs:List Field) (es:List EK) (i:Nat) (l l':List At) (t:Bool),HN P i fs es=true→bZ (VA g w) l (xs.toList.drop i)→bZ (VA g w) l' (ys.toList.drop i)→
 mL es l l'=some t→(Op.eqFields (d+1) xs ys fs).run P w= .ok t w
 | [], [],i,l,l',t,_,_,_,h=>by
  cases l<;>cases l'<;>simp [mL] at h
  subst h;simp [Op.eqFields]
 | [],_::_,_,_,_,_,hb,_,_,_=>by simp [HN] at hb
 |_::_, [],_,_,_,_,hb,_,_,_=>by simp [HN] at hb
 |f::fs,e::es,i, [],l',t,_,_,_,h=>by simp [mL] at h
 |f::fs,e::es,i,_::_, [],t,_,_,_,h=>by simp [mL] at h
 |f::fs,e::es,i,x::l,y::l',t,hb,hx,hy,h=>by
  simp only[HN,Bool.and_eq_true,bne_iff_ne,ne_eq] at hb;obtain⟨h1,h2,h3,h4⟩:=hb;have ho:=Nat.eq_of_beq_eq_true h1;have nx:∀{z:At} {q:List At} {zs:Array Value},bZ (VA g w) (z::q) (zs.toList.drop i)→∃v,zs[i]? =some v∧VA g w z v∧bZ (VA g w) q (zs.toList.drop (i+1)):=by
   intro z q zs ha;have hlt:i<zs.toList.length:=by have:=ha.length;simp at this;simp;omega
   rw[List.drop_eq_getElem_cons hlt] at ha;cases ha with
   |cons h1 h2=>exact⟨_,by simpa using hlt,h1,h2⟩
  obtain⟨vx,gx,hx1,hx2⟩:=nx hx;obtain⟨vy,gy,hy1,hy2⟩:=nx hy;have fin:∀(t1 t2:Bool),JK e x y=some t1→(Op.eqFields (d+1) xs ys fs).run P w= .ok t2 w→(Op.eqFields (d+1) xs ys (f::fs)).run P w= .ok (t1&&t2) w:=by
   intro t1 t2 he hr;obtain⟨r1,r2⟩:=Ol (d:=d) he hx1 hy1 h3;have hp:∀(zs:Array Value) (v:Value),zs[i]? =some v→(part f.type zs f.offset).run P w= .ok v w:=by
    intro zs v hz;simp [part,r2,ho,hz]
   simp only[Op.eqFields,h2,ne_eq,not_false_eq_true,if_true,Sem.run_bind,hp xs vx gx,hp ys vy gy,r1,Result.andThen_ok];cases t1
   ·simp
   ·simp [hr]
  unfold mL at h;cases es with
  |nil=>
   cases l with
   |nil=>
    cases l' with
    |nil=>
     have:=fin t true (by simpa using h) (lC fs [] (i+1) [] [] true h4 hx2 hy2 rfl);simpa using this
    |cons _ _=>simp at h
   |cons _ _=>simp at h
  |cons e' es=>
   simp only at h;split at h
   ·rename_i t1 t2 g1 g2
    cases h;exact fin t1 t2 g1 (lC fs _ (i+1) l l' t2 h4 hx2 hy2 g2)
   ·simp at h
theorem NO {op:BinOp} {t:TypeId} {x y:AV} {vx vy:Value} {px py:Operand} (hq:Gy P c) (ht:Ow P c) (hx:AVR g w x vx) (hy:AVR g w y vy) (h:FC (tv (c.ti t)) (look t c.eqs) op x y k=some res):
 ∃z v,k z=some res∧(do eqGuard op t px py vx vy;binOp op t vx vy:Sem Value).run P w= .ok v w∧∀g,AVR g w z v:=by
 unfold FC at h;split at h
 ·cases hx;cases hy
  have hg:∀κ κ' p q,(eqGuard op t px py (.int κ p) (.int κ' q)).run P w= .ok () w:=by intros;cases op<;>simp [eqGuard]
  split at h
  ·obtain⟨z,v,h1,h2,h3⟩:=Ha (P:=P) (w:=w) (κ':=_) t h
   exact⟨z,v,h1,by simp only[Sem.run_bind,hg,Result.andThen_ok];exact h2,h3⟩
  ·split at h
   ·have e:=sF ‹_›
    subst e;obtain⟨z,v,h1,h2,h3⟩:=L3 (P:=P) (w:=w) t ‹_› h;exact⟨z,v,h1,by simp only[Sem.run_bind,hg,Result.andThen_ok];exact h2,h3⟩
   ·simp at h
 ·cases hx with
  |str _ b e1=>
   cases hy with
   |str _ b' e2=>
    obtain⟨z,v,h1,h2,h3⟩:=LJ (P:=P) (w:=w) t e1 e2 h;have hg:(eqGuard op t px py (.string b) (.string b')).run P w= .ok () w:=by cases op<;>simp [eqGuard]
    exact⟨z,v,h1,by simp only[Sem.run_bind,hg,Result.andThen_ok];exact h2,h3⟩
 ·cases hx;cases hy
  have hg:∀p q,(eqGuard op t px py (.bool p) (.bool q)).run P w= .ok () w:=by intros;cases op<;>simp [eqGuard]
  have hbt:∀{b:Bool},tv (c.ti t)=b→b=true→P.underlying t=some .bool:=by
   rintro b he rfl;unfold tv at he;split at he
   ·rename_i ti hti
    obtain⟨i,d,T⟩:=ht _ _ hti;have:=T.k;cases d<;>simp [tkB] at this
    exact T.und
   ·simp at he
  split at h
  ·rename_i heq
   have hu:=hbt heq rfl;exact⟨_,_,h,by simp only[Sem.run_bind,hg,Result.andThen_ok];simp [binOp,Op.equal,Op.maxDepth,run_equalIn_bool' w 9999 t _ _ hu],fun g=>VA.bool _⟩
  ·rename_i heq
   have hu:=hbt heq rfl;exact⟨_,_,h,by simp only[Sem.run_bind,hg,Result.andThen_ok];simp [binOp,Op.equal,Op.maxDepth,run_equalIn_bool' w 9999 t _ _ hu],fun g=>VA.bool _⟩
  ·simp at h
 ·rename_i la lb
  obtain⟨vs,rfl,hx⟩:=hx;obtain⟨us,rfl,hy⟩:=hy;split at h
  ·rename_i es he
   have hb:=hq t es he;unfold eqB at hb;split at hb
   ·rename_i fs hu
    simp only[Bool.and_eq_true,Bool.not_eq_true'] at hb;obtain⟨b1,b2,b3⟩:=hb;have hfo:P.fieldsOf t=fs:=by simp [Program.fieldsOf,hu]
    have hgd:(eqGuard op t px py (.agg vs.toArray) (.agg us.toArray)).run P w= .ok () w:=run_eqGuard_agg w op t px py _ _ b2;have heq:∀tt,mL es la lb=some tt→(Op.equalIn 10000 t (.agg vs.toArray) (.agg us.toArray)).run P w= .ok tt w:=by
     intro tt htt;rw[run_equalIn_struct w 9999 t _ _ (by rw[hfo];exact hu) b1,hfo];exact lC fs.toList es 0 _ _ tt b3 (by simpa using hx) (by simpa using hy) htt
    split at h
    ·rename_i tt htt
     exact⟨_,_,h,by simp only[Sem.run_bind,hgd,Result.andThen_ok,run_eql_struct,heq _ htt],fun g=>VA.bool _⟩
    ·rename_i tt htt
     exact⟨_,_,h,by simp only[Sem.run_bind,hgd,Result.andThen_ok,run_neq_struct,heq _ htt],fun g=>VA.bool _⟩
    ·simp at h
   ·simp at hb
  ·simp at h
 ·simp at h
theorem Zy (E:Env P c g r m xs a w) (hF:bY F) {op:BinOp} {t t':TypeId} {x y:Operand} (hx:x∈xs) (hy:y∈xs) (hop:o.op= .binOp op t x y t') {u v:AV}
 (hu:Go.Eng.ev c r t x=some u) (hv:Go.Eng.ev c r t y=some v) (h:FC (tv (c.ti t)) (look t c.eqs) op u v k=some res):∃y,k y=some res∧dR P F n g w o a y:=by
 obtain⟨z,q,h1,h2,h3⟩:=NO (P:=P) (w:=w) (px:=x) (py:=y) E.eqs E.ts (E.ev x hx _ _ hu) (E.ev y hy _ _ hv) h;refine⟨z,h1,dR.val hF (by simp [hop]) (v:=q) ?_ (h3 g)⟩;simp only[execOp,hop];rw[Sem.run_bind];rw[h2];rfl
theorem aes (E:Env P c g r m xs a w) (hF:bY F) {op:UnOp} {t:TypeId} {x:Operand} (hx:x∈xs) (hop:o.op= .unOp op t x) {u:AV}
 (hu:Go.Eng.ev c r t x=some u) (h:unQ op u k=some res):∃y,k y=some res∧dR P F n g w o a y:=by
 have hv:=E.ev x hx _ _ hu;generalize hxv:a.eval x=v at hv;unfold unQ at h;split at h
 ·cases hv
  exact⟨_,h,dR.val hF (by simp [hop]) (v:= .bool _) (by simp [execOp,hop,hxv,Op.unary]) (VA.bool _)⟩
 ·cases hv
  refine⟨_,h,dR.val hF (by simp [hop]) (v:= .int _ _) ?_ (VA.int _ _)⟩;simp [execOp,hop,hxv,Op.unary,Op.intArith]
 ·simp at h
theorem NZ (E:Env P c g r m xs a w) (hF:bY F) {t:TypeId} {x:Operand} {f:Nat} (hx:x∈xs) (hop:o.op= .field t x f) {ti:TI} {fs:List (Nat×TypeId)} (hti:c.ti t=some ti) (hfs:ti.k= .struct fs)
 {l:List At} (hl:Go.Eng.evV c r 0 x=some (.agg l)) {off:Nat} {t':TypeId} (hf:fs[f]? =some (off,t')) {tj:TI} (htj:c.ti t'=some tj) (hle:Nat.ble (off+tj.size) l.length=true)
 (h:aj (V1.dw tj.agg ((l.drop off).take tj.size)) (fun v=>k (.v v))=some res):∃y,k y=some res∧dR P F n g w o a y:=by
 obtain⟨i,d,T⟩:=E.ts t ti hti;obtain⟨i',d',T'⟩:=E.ts t' tj htj;obtain⟨fields,fd,hu,hfd,ho,hty,j,hj,h0⟩:=xX T hfs hf;obtain⟨vs,he,ha⟩:=E.evV hx hl;obtain⟨v,hv,hk⟩:=bz h;have hlen:=ha.length;have hle:=Nat.le_of_ble_eq_true hle;have ha':=(ha.drop off).take tj.size;have hul:((vs.drop off).take tj.size).length=tj.size:=by simp;omega
 rcases yi hv with⟨hb,rfl⟩ |⟨hb,z,hz,rfl⟩
 ·refine⟨_,hk,dR.val hF (by simp [hop]) (v:= .agg ((vs.drop off).take tj.size).toArray) ?_ ⟨_,rfl,ha'⟩⟩
  have hex:(vs.toArray.extract off (off+tj.size))=((vs.drop off).take tj.size).toArray:=by
   apply Array.ext';simp [List.take_drop,Nat.add_comm]
  simp [execOp,hop,he,Instr.field,run_underlying hu,hfd,part,hty,ho,kg T'.und,T'.agg,hb,run_sizeOf T'.info,T'.size,asAgg,hex]
 ·rw[hz] at ha'
  obtain⟨u,hu1,hu2⟩:=ha'.get (i:=0) rfl;have hus:vs[off]? =some u:=by
   have h0':0<tj.size:=by
    have:((vs.drop off).take tj.size)[0]? =some u:=hu1;rcases Nat.eq_zero_or_pos tj.size with h|h
    ·rw[h] at this;simp at this
    ·exact h
   rw[List.getElem?_take_of_lt h0',List.getElem?_drop] at hu1;simpa using hu1
  refine⟨_,hk,dR.val hF (by simp [hop]) (v:=u) ?_ hu2⟩;simp [execOp,hop,he,Instr.field,run_underlying hu,hfd,part,hty,ho,kg T'.und,T'.agg,hb,asAgg,hus]
theorem B5 {t e:TypeId} {j:TypeInfo} (hu:P.underlying t=some (.slice e)) (hj:P.info? e=some j) {bk of len cap:Nat} {κ:IntKind} {q:Int} (h0:0≤q) (h1:q<(len:Int)):
 (Instr.indexAt t (.slice (some ⟨bk,of,none⟩) len cap) (.int κ q)).run P w= .ok (.pointer (some ⟨bk,of+q.toNat*j.size,none⟩)) w:=by
 simp [Instr.indexAt,asIntOf,run_underlying hu,h0,h1,run_sizeOf hj,da]
theorem vC {q:Int} {kk:Nat→Option R}:∀{m i:Nat},splitK q m i kk=some res→∃j:Nat,j<i+m∧q=(j:Int)∧kk j=some res
 |0,i,h=>by simp [splitK] at h
 |m+1,i,h=>by
  simp only[splitK] at h;rcases bo h with⟨hb,h⟩ |⟨_,h⟩
  ·exact⟨i,by omega,beq_iff_eq.1 hb,h⟩
  ·obtain⟨j,h1,h2,h3⟩:=vC h
   exact⟨j,by omega,h2,h3⟩
theorem CN (E:Env P c g r m xs a w) (hF:bY F) {t:TypeId} {x i:Operand} (hx:x∈xs) (hi:i∈xs) (hop:o.op= .indexAddr t x i) {p:At} {κ:IntKind} {q:Int}
 (hp:Go.Eng.evA c r t x=some p) (hq:Go.Eng.evA c r 0 i=some (.int κ q))
 (h:BV c m t p q k=some res):∃y,k y=some res∧dR P F n g w o a y:=by
 have hv:=E.evA hx hp;have hiv:a.eval i= .int κ q:=by
  have:=E.evA hi hq;generalize a.eval i=u at this⊢;cases this;rfl
 unfold BV at h;split at h
 case h_1 ti τ e hti=>
  obtain⟨i',d,T⟩:=E.ts t _ hti;obtain⟨rfl,j,hj,hjs,_⟩:=T.slice rfl;generalize hxv:a.eval x=u at hv;have fin:∀{z:At} {bk of len cap:Nat},u= .slice (some ⟨bk,of,none⟩) len cap→0≤q→q<(len:Int)→VA g w z (.pointer (some ⟨bk,of+q.toNat*τ.n,none⟩))→dR P F n g w o a (.one z):=by
   intro z bk of len cap e h0 h1 hz;refine dR.val hF (by simp [hop]) ?_ hz;simp only[execOp,hop,hxv,hiv,e,Sem.run_bind,B5 T.und hj h0 h1,Result.andThen_ok,hjs];rfl
  have elem:∀{τ':Ty} {l:List τ'.T} {av:Option Addr} {len cap bk of:Nat} {f:Nat→Nat→Value} {y:τ'.T},u= .slice av len cap→len=l.length→(l≠ [] →av=some ⟨bk,of,none⟩∧g.S bk)→
   (∀i j,i<l.length→j<τ'.n→w.cell? ⟨bk,of+(i*τ'.n+j),none⟩=some (f i j))→(∀i x j y,l[i]? =some x→(τ'.enc x)[j]? =some y→VA g w y (f i j))→τ'.n=τ.n→0≤q→l[q.toNat]? =some y→
   dR P F n g w o a (.one (.gC τ' y 0)):=by
   intro τ' l av len cap bk of f y e hl ha hcell hf hn h0 hy;have hlt:q.toNat<l.length:=by
    rcases Nat.lt_or_ge q.toNat l.length with h'|h'
    ·exact h'
    ·rw[List.getElem?_eq_none h'] at hy;cases hy
   obtain⟨rfl,hS⟩:=ha (ne_of_lt hlt);refine fin e h0 (by omega) ?_;rw[←hn];exact VA.gC τ' y 0 bk (of+q.toNat*τ'.n) (f q.toNat) hS (fun j hj=>by rw[Nat.add_assoc];exact hcell _ j hlt hj) (fun j z hz=>hf _ _ j z hy hz)
  split at h
  ·rename_i τ' l
   split at h
   ·rename_i hn
    have hn:=Nat.eq_of_beq_eq_true hn;rcases bo h with⟨h0,h⟩ |⟨_,h⟩
    ·obtain⟨y,hy,hk⟩:=bz h
     cases hv with
     |sl _ _ av len cap bk of f hl hc ha hcell hf=>exact⟨_,hk,elem rfl hl ha hcell hf hn (by simpa using h0) hy⟩
    ·simp at h
   ·simp at h
  ·rename_i τ' l
   split at h
   ·rename_i hn
    have hn:=Nat.eq_of_beq_eq_true hn;rcases bo h with⟨h0,h⟩ |⟨_,h⟩
    ·obtain⟨y,hy,hk⟩:=bz h
     cases hv with
     |clip _ _ av len bk of f hl ha hcell hf=>exact⟨_,hk,elem rfl hl ha hcell hf hn (by simpa using h0) hy⟩
    ·simp at h
   ·simp at h
  ·rename_i id
   split at h
   ·rename_i τ' l hl
    split at h
    ·rename_i hn
     have hn:=Nat.eq_of_beq_eq_true hn;rcases bo h with⟨h0,hk⟩ |⟨_,h⟩
     ·simp only[decide_eq_true_eq] at h0
      obtain⟨b,hb,hbr⟩:=E.mem _ _ hl;have hlen:=hbr.len;cases hv with
      |own _ b' av hm hk' h0'=>
       rw[hb] at hm;cases hm;cases hbk:b.blk with
       |none=>have:=(h0' hbk).2;omega
       |some kk=>
        have:=hk' kk hbk;subst this;refine⟨_,hk,fin rfl h0.1 (by omega) ?_⟩;have:=VA.ft (g:=g) (w:=w) id q.toNat 0 b kk hb hbk;rw[hlen.2.2,hn] at this;simpa using this
     ·simp at h
    ·simp at h
   ·simp at h
  ·rename_i id off len
   split at h
   ·rename_i τ' l hl
    split at h
    ·rename_i hn
     have hn:=Nat.eq_of_beq_eq_true hn;rcases bo h with⟨h0,hk⟩ |⟨_,h⟩
     ·simp only[decide_eq_true_eq] at h0
      obtain⟨b,hb,hbr⟩:=E.mem _ _ hl;have hlen:=hbr.len;cases hv with
      |sub _ _ _ b' av cc hm hl' hc hk'=>
       rw[hb] at hm;cases hm;obtain⟨kk,hbk,rfl⟩:=hk' (by omega);refine⟨_,hk,fin rfl h0.1 h0.2 ?_⟩;have:=VA.ft (g:=g) (w:=w) id (off+q.toNat) 0 b kk hb hbk;rw[hlen.2.2,hn,Nat.add_mul] at this;rw[hlen.2.2,hn];simpa using this
     ·simp at h
    ·simp at h
   ·simp at h
  ·simp at h
 case h_2 ti len e hti=>
  split at h
  ·rename_i id off te hte
   obtain⟨j,hj,rfl,hk⟩:=vC h;obtain⟨i',d,T⟩:=E.ts t _ hti;obtain⟨i2,d2,T2⟩:=E.ts e _ hte;have hd:=T.array rfl;subst hd;generalize hxv:a.eval x=u at hv;cases hv with
   |ptr _ _ b kk hm hbk=>
    refine⟨_,hk,dR.val hF (by simp [hop]) ?_ (VA.ptr id _ b kk hm hbk)⟩;simp only[execOp,hop,hxv,hiv,Instr.indexAt,asIntOf,Sem.run_bind,run_underlying T.und,Result.andThen_ok,Instr.sureAddr,Sem.run_pure,run_sizeOf T2.info,T2.size,da,Sem.run_ite];rw[if_pos (by constructor<;>omega)];simp [run_sizeOf T2.info,T2.size]
  ·rename_i τ l te hte
   split at h
   ·rename_i hn hlen
    have hn:=Nat.eq_of_beq_eq_true hn;have hlen:=Nat.eq_of_beq_eq_true hlen;rcases bo h with⟨h0,h⟩ |⟨_,h⟩
    ·simp only[decide_eq_true_eq] at h0
     obtain⟨y,hy,hk⟩:=bz h;have hlt:q.toNat<l.length:=(List.getElem?_eq_some_iff.1 hy).1;obtain⟨i',d,T⟩:=E.ts t _ hti;obtain⟨i2,d2,T2⟩:=E.ts e _ hte;have hd:=T.array rfl;subst hd;generalize hxv:a.eval x=u at hv;cases hv with
     |gl _ _ bk f hS hcell hf=>
      refine⟨_,hk,dR.val hF (by simp [hop]) ?_ (VA.gC τ y 0 bk (q.toNat*τ.n) (f q.toNat) hS (fun j hj=>hcell _ j hlt hj) (fun j z hz=>hf _ _ j z hy hz))⟩;simp only[execOp,hop,hxv,hiv,Instr.indexAt,asIntOf,Sem.run_bind,run_underlying T.und,Result.andThen_ok,Instr.sureAddr,Sem.run_pure,run_sizeOf T2.info,T2.size,da,Sem.run_ite];rw[if_pos (by constructor<;>omega)];simp [run_sizeOf T2.info,T2.size,hn]
    ·simp at h
   ·simp at h
  ·simp at h
 ·simp at h
end
section
variable {P:Program} [aE P] {F:Fence} {n:Nat} {c:Cfg} {g:Gh} {r:cv} {m:Mem} {xs:List Operand} {a:Act} {w:World} {o:Oper} {R:Type} {k:AV→Option R} {res:R}
def cL (l:List Value) (off:Nat):List Value→List Value
 | [] =>l
 |x::r=>cL (l.set off x) (off+1) r
theorem mw:∀{p:List At} {u:List Value} {l:List At} {v:List Value} (off:Nat),bZ (VA g w) p u→bZ (VA g w) l v→bZ (VA g w) (setCells l off p) (cL v off u)
 | [], [],_,_,_,_,h=>h
 |x::p,y::u,l,v,off,hp,h=>by
  cases hp with
  |cons h1 h2=>exact mw (off+1) h2 (h.set h1 off)
 | [],_::_,_,_,_,hp,_=>by cases hp
 |_::_, [],_,_,_,hp,_=>by cases hp
theorem fa:∀(u l:List Value) (off:Nat),(cL l off u).length=l.length
 | [],l,off=>rfl
 |x::u,l,off=>by simp [cL,fa u]
theorem sB:∀(u:List Value) (cs:Array Value) (off j:Nat),(u.zipIdx j).foldl (fun cs (x:Value×Nat)=>cs.setIfInBounds (off+x.2) x.1) cs=(cL cs.toList (off+j) u).toArray
 | [],cs,off,j=>by simp [cL]
 |x::u,cs,off,j=>by
  simp only[List.zipIdx_cons,List.foldl_cons,cL];rw[sB u _ off (j+1)];simp [Nat.add_assoc]
theorem xH (v:Value) (cs:Array Value) (off:Nat):v.cells.zipIdx.foldl (fun cs (c,j)=>cs.setIfInBounds (off+j) c) cs=(cL cs.toList off v.cells.toList).toArray:=by
 have h:=sB v.cells.toList cs off 0;simp only[Nat.add_zero] at h;rw[←h,←Array.foldl_toList];simp
theorem FK (fs:Array Field) (hs:∀f∈fs.toList,∃i,P.info? f.type=some i):
 (fs.mapM fun f=>do pure (f.offset,←sizeOf f.type):Sem (Array (Nat×Nat))).run P w= .ok (fs.map fun f=>(f.offset,P.cellsOf f.type)) w:=by
 rw[Array.mapM_eq_mapM_toList];have:∀(l:List Field),(∀f∈l,∃i,P.info? f.type=some i)→(l.mapM fun f=>do pure (f.offset,←sizeOf f.type):Sem (List (Nat×Nat))).run P w= .ok (l.map fun f=>(f.offset,P.cellsOf f.type)) w:=by
  intro l hl;induction l with
  |nil=>simp
  |cons f l ih=>
   obtain⟨i,hi⟩:=hl f (by simp);simp only[List.mapM_cons,Sem.run_bind,run_sizeOf hi,Result.andThen_ok,Sem.run_pure,ih (fun f hf=>hl f (by simp [hf]))];simp [Program.cellsOf,hi]
 rw[Sem.run_map,this fs.toList hs];simp only[Result.andThen_ok];congr 1;apply Array.ext';simp
theorem GF (E:Env P c g r m xs a w) {fs:List (Nat×TypeId)} {fields:Array Field} (hb:jv P fields.toList fs=true):
 ∀(parts:List (Nat×Operand)) (cells:List At) (vals:Array Value) (l:List At),(∀q∈parts,q.2∈xs)→bZ (VA g w) cells vals.toList→zS c r fs cells parts=some l→
  ∃out:Array Value,Instr.fill ((fields.map fun f=>(f.offset,P.cellsOf f.type))[·]?) vals (parts.map fun(i,x)=>(i,a.eval x))=some out∧bZ (VA g w) l out.toList
 | [],cells,vals,l,_,ha,h=>by
  simp only[zS,Option.some.injEq] at h;subst h;exact⟨vals,by simp [Instr.fill],ha⟩
 |(i,x)::parts,cells,vals,l,hxs,ha,h=>by
  simp only[zS] at h;split at h
  ·simp at h
  ·rename_i off t hf
   split at h
   ·rename_i ti v hti hv
    split at h
    ·rename_i h1 h2
     have h1:=Nat.eq_of_beq_eq_true h1;have h2:=Nat.le_of_ble_eq_true h2;obtain⟨fd,hfd,hfo,hft,j,hj,hj0⟩:=mP hb hf;obtain⟨i',d,T⟩:=E.ts t ti hti;have hvr:=E.evV (hxs (i,x) (by simp)) hv;have hvc:=hvr.cells;have hlen:=hvc.length;have hcl:=ha.length;have hsz:P.cellsOf fd.type=ti.size:=by rw[hft];simp [Program.cellsOf,T.info,T.size]
     have ha':=mw off hvc ha;obtain⟨out,ho,hoa⟩:=GF E hb parts _ (cL vals.toList off (a.eval x).cells.toList).toArray l (fun q hq=>hxs q (by simp [hq])) (by simpa using ha') h;refine⟨out, ?_,hoa⟩;have hgf:(fields.map fun f=>(f.offset,P.cellsOf f.type))[i]? =some (off,ti.size):=by
      have:fields[i]? =some fd:=by simpa using hfd
      simp [this,hfo,hsz]
     have e1:(a.eval x).cells.size=ti.size:=by simp at hlen;omega
     have e2:¬(off+(a.eval x).cells.size>vals.size):=by simp at hcl;omega
     simp only[List.map_cons,Instr.fill,hgf,e1,e2,ne_eq,not_true_eq_false,decide_false,decide_true,Bool.false_or,Bool.or_false,Bool.false_eq_true,if_false];rw[xH];have e3:¬(off+ti.size>vals.size):=by omega
     simp only[e3,decide_false,Bool.false_eq_true,if_false];exact ho
    ·simp at h
   ·simp at h
theorem Ma (E:Env P c g r m xs a w) (hF:bY F) {t:TypeId} {parts:Array (Nat×Operand)} (hxs:∀q∈parts.toList,q.2∈xs) (hop:o.op= .build t parts) {ti:TI} {fs:List (Nat×TypeId)} {z:List At} (hti:c.ti t=some ti) (hfs:ti.k= .struct fs) (hz:ti.zero= .agg z)
 (h:aj (zS c r fs z parts.toList) (fun l=>k (.agg l))=some res):∃y,k y=some res∧dR P F n g w o a y:=by
 obtain⟨i,d,T⟩:=E.ts t ti hti;obtain⟨fields,rfl,hb⟩:=T.struct hfs;obtain⟨l,hl,hk⟩:=bz h;obtain⟨zv,hzv, -,hzr⟩:=T.zero;have hzr:=hzr g w;rw[hz] at hzr;obtain⟨vs,rfl,hva⟩:=hzr;obtain⟨out,ho,hoa⟩:=GF E hb parts.toList z vs.toArray l hxs (by simpa using hva) hl;refine⟨_,hk,dR.val hF (by simp [hop]) (v:= .agg out) ?_ ⟨out.toList,by simp,hoa⟩⟩;have hfl:∀f∈fields.toList,∃i,P.info? f.type=some i:=by
  have:∀(l:List Field) (m:List (Nat×TypeId)),jv P l m=true→∀f∈l,∃i,P.info? f.type=some i:=by
   intro l;induction l with
   |nil=>intro m _ f hf;simp at hf
   |cons f' l ih=>
    intro m hm f hf;cases m with
    |nil=>simp [jv] at hm
    |cons q m=>
     obtain⟨o',t'⟩:=q;obtain⟨fd,h1,h2,h3,j,hj,_⟩:=mP hm (k:=0) rfl;simp at h1;subst h1;rcases List.mem_cons.1 hf with rfl|hf
     ·exact⟨j,by rw[h3];exact hj⟩
     ·simp only[jv,Bool.and_eq_true] at hm
      exact ih m hm.2.2.2 f hf
  exact this _ _ hb
 have hzero:(zeroValue t).run P w= .ok (.agg vs.toArray) w:=by simp [zeroValue,typeInfo,T.info,hzv]
 simp only[execOp,hop,Instr.build,Sem.run_bind,hzero,Result.andThen_ok,run_underlying T.und,FK fields hfl];have:(parts.map fun(i,x)=>(i,a.eval x)).toList=parts.toList.map fun(i,x)=>(i,a.eval x):=by simp
 simp only[this,Value.cells,ho];rfl
theorem G2 (E:Env P c g r m xs a w) (hF:bY F) {s d:TypeId} {x:Operand} (hx:x∈xs) (hop:o.op= .convert s d x) {κ0 κ κ1:IntKind} {q:Int} {ti tj:TI} (hs:c.ti s=some ti) (hsk:ti.k= .int κ0) (hd:c.ti d=some tj) (hdk:tj.k= .int κ)
 (hq:Go.Eng.ev c r s x=some (.one (.int κ1 q))) (hk:k (.one (.int κ (κ.wrap q)))=some res):∃y,k y=some res∧dR P F n g w o a y:=by
 obtain⟨i,ds,T⟩:=E.ts s ti hs;obtain⟨j,dd,T'⟩:=E.ts d tj hd;have e1:=T.int hsk;have e2:=T'.int hdk;subst e1;subst e2;have hv:=E.ev x hx _ _ hq;generalize hxv:a.eval x=v at hv;cases hv;refine⟨_,hk,dR.val hF (by simp [hop]) (v:= .int _ _) ?_ (VA.int _ _)⟩;simp [execOp,hop,hxv,convert,run_underlying T.und,run_underlying T'.und,Conv.intToInt]
theorem EW (E:Env P c g r m xs a w) (hF:bY F) {s d:TypeId} {x:Operand} (hx:x∈xs) (hop:o.op= .convert s d x) {κ0 κ1:IntKind} {q:Int} {ti tj:TI} (hs:c.ti s=some ti) (hsk:ti.k= .int κ0) (hd:c.ti d=some tj) (hdk:tj.k= .str)
 (hq:Go.Eng.ev c r s x=some (.v (.one (.int κ1 q)))) (h:k (.one (.str (Utf8.encode q).data.toList))=some res):∃y,k y=some res∧dR P F n g w o a y:=by
 obtain⟨i,ds,T⟩:=E.ts s ti hs;obtain⟨j,dd,T'⟩:=E.ts d tj hd;have e1:=T.int hsk;have e2:=T'.str hdk;subst e1;subst e2;have hv:=E.ev x hx _ _ hq;generalize hxv:a.eval x=v at hv;cases hv;refine⟨_,h,dR.val hF (by simp [hop]) (v:= .string (Utf8.encode q)) ?_ (VA.str _ _ rfl)⟩;simp [execOp,hop,hxv,convert,run_underlying T.und,run_underlying T'.und,Conv.intToString]
theorem Ie (E:Env P c g r m xs a w) (hF:bY F) {s d:TypeId} {x:Operand} (hx:x∈xs) (hop:o.op= .convert s d x) {q:Str} {ti tj:TI} (hs:c.ti s=some ti) (hsk:ti.k= .str) (hd:c.ti d=some tj) (hdk:tj.k= .str)
 (hq:Go.Eng.ev c r s x=some (.one (.str q))) (hk:k (.one (.str q))=some res):∃y,k y=some res∧dR P F n g w o a y:=by
 obtain⟨i,ds,T⟩:=E.ts s ti hs;obtain⟨j,dd,T'⟩:=E.ts d tj hd;have e1:=T.str hsk;have e2:=T'.str hdk;subst e1;subst e2;have hv:=E.ev x hx _ _ hq;generalize hxv:a.eval x=v at hv;cases hv with
 |str _ b e=>
  refine⟨_,hk,dR.val hF (by simp [hop]) (v:= .string b) ?_ (VA.str _ _ e)⟩;simp [execOp,hop,hxv,convert,run_underlying T.und,run_underlying T'.und]
theorem fW {p:At} {v:Value} {kk:(τ:Ty)→List τ.T→Option R} (hm:vn P g w m) (hp:VA g w p v) (h:cw m p kk=some res):
 ∃τ l ad len cp,kk τ l=some res∧v= .slice ad len cp∧len=l.length∧(∀S':Gh,(∀q,g.S q→S'.S q)→(∀id b q,id∈jD p→g.m id=some b→b.blk=some q→S'.S q)→VA S' w (.sl τ l) v)∧
  (l≠ [] →∃(bk of:Nat) (f:Nat→Nat→Value),ad=some ⟨bk,of,none⟩∧(∀i j,i<l.length→j<τ.n→w.cell? ⟨bk,of+(i*τ.n+j),none⟩=some (f i j))∧∀i x j y,l[i]? =some x→(τ.enc x)[j]? =some y→VA g w y (f i j)):=by
 cases p<;>simp only[cw,reduceCtorEq] at h
 ·rename_i τ l
  cases hp with
  |sl _ _ ad len cp bk of f hl hc ha hcell hf=>
   exact⟨τ,l,_,_,_,h,rfl,hl,fun S' h1 _=>(VA.sl τ l ad len cp bk of f hl hc ha hcell hf).pure rfl h1,fun hne=>⟨bk,of,f,(ha hne).1,hcell,hf⟩⟩
 ·rename_i τ l
  cases hp with
  |clip _ _ ad len bk of f hl ha hcell hf=>
   exact⟨τ,l,_,_,_,h,rfl,hl,fun S' h1 _=>(VA.sl τ l ad len len bk of f hl (Nat.le_refl _) ha hcell hf).pure rfl h1,fun hne=>⟨bk,of,f,(ha hne).1,hcell,hf⟩⟩
 ·rename_i id
  split at h
  ·rename_i τ l hl
   obtain⟨b,hb,hbr⟩:=hm _ _ hl;cases hp with
   |own _ b' ad hm' hk h0=>
    rw[hb] at hm';cases hm';refine⟨τ,l,_,_,_,h,rfl,hbr.len.1,fun S' h1 h2=>hbr.whole h1 (fun q hq=>h2 id b q (by simp [jD]) hb hq) hk h0,fun hne=> ?_⟩;cases hbk:b.blk with
    |none=>exact absurd (List.eq_nil_of_length_eq_zero (by rw[←hbr.len.1];exact(h0 hbk).2)) hne
    |some q=>
     obtain⟨f,hf1,hf2⟩:=hbr.cell hbk;exact⟨q,0,f,hk q hbk,fun i j hi hj=>by rw[Nat.zero_add];exact hf1 i j (by have:=hbr.len;omega) hj,hf2⟩
  ·simp at h
 ·rename_i id off len
  split at h
  ·rename_i τ l hl
   split at h
   ·rename_i hle
    have hle:=Nat.le_of_ble_eq_true hle;obtain⟨b,hb,hbr⟩:=hm _ _ hl;have hlen:=hbr.len;cases hp with
    |sub _ _ _ b' ad cc hm' hl' hc hk=>
     rw[hb] at hm';cases hm';have hll:((l.drop off).take len).length=len:=by simp;omega
     refine⟨τ,_,_,_,_,h,rfl,hll.symm,fun S' h1 h2=>hbr.part h1 (fun q hq=>h2 id b q (by simp [jD]) hb hq) hle (by omega) (fun hne=>hk (by omega)),fun hne=> ?_⟩;have h0:len≠0:=fun e=>by subst e;simp at hne
     obtain⟨q,hbk,rfl⟩:=hk (by omega);obtain⟨f,hf1,hf2⟩:=hbr.cell hbk;refine⟨q,off*b.sz,fun i j=>f (off+i) j,rfl,fun i j hi hj=> ?_,fun i x j y hx hy=> ?_⟩
     ·rw[hll] at hi
      have:=hf1 (off+i) j (by omega) hj;rwa[show(off+i)*τ.n+j=off*b.sz+(i*τ.n+j) from by rw[Nat.add_mul,hlen.2.2];omega] at this
     ·have hi:i<len:=by
       rcases Nat.lt_or_ge i len with h'|h'
       ·exact h'
       ·rw[List.getElem?_eq_none (by omega)] at hx;cases hx
      have hx':l[off+i]? =some x:=by
       rw[List.getElem?_take_of_lt hi,List.getElem?_drop] at hx;exact hx
      exact hf2 (off+i) x j y hx' hy
   ·simp at h
  ·simp at h
theorem UP (E:Env P c g r m xs a w) (hF:bY F) {x:Operand} {t:TypeId} (hx:x∈xs) (hop:o.op= .call {callee:= .builtin .len,args:= #[x],argTypes:= #[t]}) {p:At} (hp:Go.Eng.evA c r t x=some p)
 (h:BD c m t p k=some res):∃y,k y=some res∧dR P F n g w o a y:=by
 have hv:=E.evA hx hp;generalize hxv:a.eval x=v at hv;have fin:∀{q:Nat},(Builtin.len_ #[t] o.type #[v]).run P w= .ok (goInt q) w→dR P F n g w o a (.one (.int .i64 q)):=by
  intro q hq;refine dR.val hF (by simp [hop]) (v:=goInt q) ?_ (VA.int _ _);simp only[execOp,hop,resolve,Sem.run_bind,Sem.run_pure,Result.andThen_ok,invoke,builtin];have:(#[x].map a.eval)= #[v]:=by simp [hxv]
  rw[this,hq];rfl
 unfold BD at h;split at h
 ·rename_i ti hti
  obtain⟨i,d,T⟩:=E.ts t _ hti;have e:=T.str rfl;subst e;split at h
  ·cases hv with
   |str s b e=>
    refine⟨_,h,fin ?_⟩;simp [Builtin.len_,run_underlying T.und,goInt,←e]
  ·simp at h
 ·rename_i ti τ e hti
  obtain⟨i,d,T⟩:=E.ts t _ hti;obtain⟨rfl,_⟩:=T.slice rfl;split at h
  ·cases hv with
   |sub id off len b ad cc hm hl hc hk=>exact⟨_,h,fin (by simp [Builtin.len_,run_underlying T.und])⟩
  ·obtain⟨τ',l,ad,len,cp,hk,e,hl,_⟩:=fW E.mem hv h
   rw[e] at fin;exact⟨_,hk,fin (by simp [Builtin.len_,run_underlying T.und,hl])⟩
 ·rename_i ti κ τ kt e hti
  obtain⟨i,d,T⟩:=E.ts t _ hti;obtain⟨rfl,_⟩:=T.map rfl;split at h
  ·rename_i id
   split at h
   ·rename_i ag κ' τ' l ck hl
    obtain⟨b,hb,q,es,hq,hh,ha⟩:=E.mem _ _ hl;cases hv with
    |fT _ b' k' hm hk=>
     rw[hb] at hm;cases hm;rw[hq] at hk;cases hk;refine⟨_,h,fin ?_⟩;have hsz:l.length=es.size:=by have:=ha.length;simpa using this
     simp [Builtin.len_,run_underlying T.und,getObj,Sem.run_bind,Sem.run,hh,hsz,Result.andThen]
   ·simp at h
  ·simp at h
 ·simp at h
end
section
variable {P:Program} [aE P] {F:Fence} {n:Nat} {c:Cfg} {g:Gh} {r:cv} {m:Mem} {xs:List Operand} {a:Act} {w:World} {o:Oper} {R:Type} {k:AV→Option R} {res:R}
theorem kh {len:Nat} {lo hi:Option Int} {kk:Nat→Nat→Option R} (h:jH len lo hi kk=some res):
 ∃lN hN,kk lN hN=some res∧lN≤hN∧hN≤len∧(lo=none→lN=0)∧(∀q,lo=some q→0≤q∧lN=q.toNat)∧(hi=none→hN=len)∧(∀q,hi=some q→0≤q∧hN=q.toNat):=by
 unfold jH at h;split at h
 ·exact⟨0,len,h,by omega,by omega,by simp,by simp,by simp,by simp⟩
 ·rename_i q
  rcases bo h with⟨h0,h⟩ |⟨_,h⟩
  ·simp only[decide_eq_true_eq] at h0
   exact⟨0,q.toNat,h,by omega,by omega,by simp,by simp,by simp,fun q' e=>by cases e;exact⟨h0.1,rfl⟩⟩
  ·simp at h
 ·rename_i q
  rcases bo h with⟨h0,h⟩ |⟨_,h⟩
  ·simp only[decide_eq_true_eq] at h0
   exact⟨q.toNat,len,h,by omega,by omega,by simp,fun q' e=>by cases e;exact⟨h0.1,rfl⟩,by simp,by simp⟩
  ·simp at h
 ·rename_i p q
  rcases bo h with⟨h0,h⟩ |⟨_,h⟩
  ·simp only[decide_eq_true_eq] at h0
   rcases bo h with⟨h1,h⟩ |⟨_,h⟩
   ·simp only[decide_eq_true_eq] at h1
    exact⟨p.toNat,q.toNat,h,by omega,by omega,by simp,fun q' e=>by cases e;exact⟨h1.1,rfl⟩,by simp,fun q' e=>by cases e;exact⟨h0.1,rfl⟩⟩
   ·simp at h
  ·simp at h
theorem sa {cap len:Nat} {lo hi:Option Int} {kk:Nat→Nat→Option R} (hc:len≤cap) (h:mV cap len lo hi kk=some res):
 ∃lN hN,kk lN hN=some res∧lN≤hN∧hN≤cap∧(lo=none→lN=0)∧(∀q,lo=some q→0≤q∧lN=q.toNat)∧(hi=none→hN=len)∧(∀q,hi=some q→0≤q∧hN=q.toNat):=by
 unfold mV at h;split at h
 ·obtain⟨lN,hN,h1,h2,h3,h4,h5,h6,h7⟩:=kh h
  exact⟨lN,hN,h1,h2,by omega,h4,h5,h6,h7⟩
 ·obtain⟨lN,hN,h1,h2,h3,h4,h5,h6,h7⟩:=kh h
  exact⟨lN,hN,h1,h2,h3,h4,h5,by simp,h7⟩
theorem xg {m:Mem} {id n:Nat}:∀{l:Mem},iQ m id l=some n→∃i,look i m=some (.nz (.own id) n)
 | [],h=>by simp [iQ] at h
 |x::l,h=>by
  simp only[iQ] at h;split at h
  ·rename_i i q hx
   split at h
   ·rename_i e
    have:=Nat.eq_of_beq_eq_true e;subst this;cases h;exact⟨_,hx⟩
   ·exact xg h
  ·exact xg h
theorem yz {m:Mem} {id q:Nat} (hm:vn P g w m) (h:iQ m id m=some q) {b:Gb} (hb:g.m id=some b):b.cp=q:=by
 obtain⟨i,hi⟩:=xg h;obtain⟨b',_,_,ad,len,hv⟩:=hm _ _ hi;cases hv with
 |own _ b2 _ hm2 _ _=>rw[hb] at hm2;cases hm2;rfl
theorem yB {α:Type} {l:List α} {lo hi:Option Int} {lN hN:Nat} (h1:lo=none→lN=0) (h2:∀q,lo=some q→0≤q∧lN=q.toNat) (h3:hi=none→hN=l.length) (h4:∀q,hi=some q→0≤q∧hN=q.toNat):
 vj lo hi l=(l.take hN).drop lN:=by
 cases lo with
 |none=>
  rw[h1 rfl];cases hi with
  |none=>rw[h3 rfl];simp [vj]
  |some q=>rw[(h4 q rfl).2];simp [vj]
 |some p=>
  rw[(h2 p rfl).2];cases hi with
  |none=>rw[h3 rfl];simp [vj]
  |some q=>rw[(h4 q rfl).2];simp [vj]
def GP (a:Act) (x:Option Operand) (q:Option Int):Prop:=
 match x,q with
 |none,none=>True
 |some y,some n=>∃κ,a.eval y= .int κ n
 |_,_=>False
theorem uG (E:Env P c g r m xs a w) {x:Option Operand} (hx:∀y,x=some y→y∈xs) {q:Option Int} (h:wz c r x=some q):GP a x q:=by
 unfold wz at h;split at h
 ·cases h;trivial
 ·rename_i y
  split at h
  ·rename_i κ nn hy
   cases h;have:=E.evA (hx y rfl) hy;refine⟨κ, ?_⟩;generalize a.eval y=u at this⊢;cases this;rfl
  ·simp at h
theorem fl {x:Value} {κ:IntKind} {q:Int} {y:Nat} {code:BoundsCode} (hx:x= .int κ q) (h:0≤q∧q≤(y:Int)):(Instr.sliceBound x y code).run P w= .ok q.toNat w:=by
 subst hx;simp [Instr.sliceBound,asIntOf,h.1,h.2]
theorem mD {b:Bool} {len cap lN hN:Nat} {lo hi:Option Operand} {ql qh:Option Int} (h1:GP a lo ql) (h2:GP a hi qh) (hlh:lN≤hN) (hh:hN≤cap) (hc:len≤cap)
 (k1:ql=none→lN=0) (k2:∀q,ql=some q→0≤q∧lN=q.toNat) (k3:qh=none→hN=len) (k4:∀q,qh=some q→0≤q∧hN=q.toNat):
 (Instr.sliceBounds b len cap (lo.map a.eval) (hi.map a.eval) none).run P w= .ok (lN,hN,cap) w:=by
 cases hi with
 |none=>
  cases qh with
  |some _=>exact h2.elim
  |none=>
   have:=k3 rfl;subst this;cases lo with
   |none=>
    cases ql with
    |some _=>exact h1.elim
    |none=>have:=k1 rfl;subst this;simp [Instr.sliceBounds]
   |some y=>
    cases ql with
    |none=>exact h1.elim
    |some q=>
     obtain⟨κ,e⟩:=h1;obtain⟨q0,rfl⟩:=k2 q rfl;simp [Instr.sliceBounds,fl e (by omega:0≤q∧q≤(hN:Int))]
 |some z=>
  cases qh with
  |none=>exact h2.elim
  |some p=>
   obtain⟨κ',e'⟩:=h2;obtain⟨p0,rfl⟩:=k4 p rfl;have eb:∀code,(Instr.sliceBound (a.eval z) cap code).run P w= .ok p.toNat w:=fun code=>fl e' (by omega)
   cases lo with
   |none=>
    cases ql with
    |some _=>exact h1.elim
    |none=>have:=k1 rfl;subst this;cases b<;>simp [Instr.sliceBounds,eb]
   |some y=>
    cases ql with
    |none=>exact h1.elim
    |some q=>
     obtain⟨κ,e⟩:=h1;obtain⟨q0,rfl⟩:=k2 q rfl;have eb2:∀code,(Instr.sliceBound (a.eval y) p.toNat code).run P w= .ok q.toNat w:=fun code=>fl e (by omega)
     cases b<;>simp [Instr.sliceBounds,eb,eb2]
theorem B4 {len cap lN hN:Nat} {lo:Option Operand} {hi mx:Operand} {ql:Option Int} {q:Int} (h1:GP a lo ql) (h2:GP a (some hi) (some q)) (h3:GP a (some mx) (some q)) (hlh:lN≤hN) (hh:hN≤len) (hc:len≤cap)
 (k1:ql=none→lN=0) (k2:∀q,ql=some q→0≤q∧lN=q.toNat) (k4:0≤q∧hN=q.toNat):
 (Instr.sliceBounds true len cap (lo.map a.eval) (some (a.eval hi)) (some (a.eval mx))).run P w= .ok (lN,hN,hN) w:=by
 obtain⟨κ',e'⟩:=h2;obtain⟨κ2,e2⟩:=h3;obtain⟨p0,rfl⟩:=k4;have ea:∀code,(Instr.sliceBound (a.eval mx) cap code).run P w= .ok q.toNat w:=fun code=>fl e2 (by omega)
 have eb:∀code,(Instr.sliceBound (a.eval hi) q.toNat code).run P w= .ok q.toNat w:=fun code=>fl e' (by omega)
 cases lo with
 |none=>
  cases ql with
  |some _=>exact h1.elim
  |none=>have:=k1 rfl;subst this;simp [Instr.sliceBounds,ea,eb]
 |some y=>
  cases ql with
  |none=>exact h1.elim
  |some p=>
   obtain⟨κ,e⟩:=h1;obtain⟨q0,rfl⟩:=k2 p rfl;have ec:∀code,(Instr.sliceBound (a.eval y) q.toNat code).run P w= .ok p.toNat w:=fun code=>fl e (by omega)
   simp [Instr.sliceBounds,ea,eb,ec]
theorem Bk {t:TypeId} {b:ByteArray} {lN hN:Nat} {lo hi:Option Value} (hu:P.underlying t=some .string) (hb:(Instr.sliceBounds false b.size b.size lo hi none).run P w= .ok (lN,hN,b.size) w):
 (Instr.sliceAt t (.string b) lo hi none).run P w= .ok (.string (b.extract lN hN)) w:=by
 simp [Instr.sliceAt,run_underlying hu,Instr.slice,hb]
theorem Cw {t e:TypeId} {j:TypeInfo} {ad:Option Addr} {len cap lN hN mN:Nat} {lo hi mx:Option Value} (hu:P.underlying t=some (.slice e)) (hj:P.info? e=some j) (hb:(Instr.sliceBounds true len cap lo hi mx).run P w= .ok (lN,hN,mN) w):
 (Instr.sliceAt t (.slice ad len cap) lo hi mx).run P w= .ok (.slice (if mN=lN then ad else ad.map (·.add (lN*j.size))) (hN - lN) (mN - lN)) w:=by
 simp [Instr.sliceAt,run_underlying hu,Instr.slice,hb,run_sizeOf hj]
theorem extract_data (b:ByteArray) (i j:Nat):(b.extract i j).data.toList=(b.data.toList.take j).drop i:=by
 rw[ByteArray.data_extract];simp [List.drop_take]
theorem wQ {τ:Ty} {l:List τ.T} {ad:Option Addr} {bk of:Nat} {f:Nat→Nat→Value} (ha:l≠ [] →ad=some ⟨bk,of,none⟩∧g.S bk)
 (hcell:∀i j,i<l.length→j<τ.n→w.cell? ⟨bk,of+(i*τ.n+j),none⟩=some (f i j)) (hf:∀i x j y,l[i]? =some x→(τ.enc x)[j]? =some y→VA g w y (f i j)) {lN hN mN:Nat} (h1:lN≤hN) (h2:hN≤l.length) (h3:hN≤mN):
 (((l.take hN).drop lN)≠ [] →(if mN=lN then ad else ad.map (·.add (lN*τ.n)))=some ⟨bk,of+lN*τ.n,none⟩∧g.S bk)∧
 (∀i j,i<((l.take hN).drop lN).length→j<τ.n→w.cell? ⟨bk,of+lN*τ.n+(i*τ.n+j),none⟩=some (f (lN+i) j))∧
 (∀i x j y,((l.take hN).drop lN)[i]? =some x→(τ.enc x)[j]? =some y→VA g w y (f (lN+i) j))∧((l.take hN).drop lN).length=hN - lN:=by
 have hl:((l.take hN).drop lN).length=hN - lN:=by simp;omega
 refine⟨fun hne=> ?_,fun i j hi hj=> ?_,fun i x j y hx hy=> ?_,hl⟩
 ·have h0:hN - lN≠0:=fun e=>hne (List.eq_nil_of_length_eq_zero (by omega))
  have hlne:l≠ [] :=by intro e;subst e;simp at h2;omega
  obtain⟨rfl,hS⟩:=ha hlne;refine⟨?_,hS⟩;rw[if_neg (by omega)];simp [da]
 ·rw[hl] at hi
  have:=hcell (lN+i) j (by omega) hj;rwa[show of+((lN+i)*τ.n+j)=of+lN*τ.n+(i*τ.n+j) from by rw[Nat.add_mul];omega] at this
 ·rw[List.getElem?_drop] at hx
  have hlt:lN+i<hN:=by
   rcases Nat.lt_or_ge (lN+i) hN with h'|h'
   ·exact h'
   ·rw[List.getElem?_eq_none (by simp;omega)] at hx;cases hx
  rw[List.getElem?_take_of_lt hlt] at hx;exact hf (lN+i) x j y hx hy
theorem Ni (E:Env P c g r m xs a w) (hF:bY F) {t:TypeId} {x:Operand} {lo hi mx:Option Operand} (hx:x∈xs) (h1:∀y,lo=some y→y∈xs) (h2:∀y,hi=some y→y∈xs) (h3:∀y,mx=some y→y∈xs)
 (hop:o.op= .slice t x lo hi mx) {p:At} (hp:Go.Eng.evA c r t x=some p) (h:oN c r m t p lo hi mx k=some res):∃y,k y=some res∧dR P F n g w o a y:=by
 have hv:=E.evA hx hp;generalize hxv:a.eval x=v at hv;unfold oN at h;split at h
 case h_2=>simp at h
 rename_i ql qh qm hql hqh hqm;have r1:=uG E h1 hql;have r2:=uG E h2 hqh;have r3:=uG E h3 hqm;split at h
 ·rename_i ti hti
  obtain⟨i,d,T⟩:=E.ts t _ hti;have e:=T.str rfl;subst e;split at h
  ·rename_i s
   have e:mx=none:=by cases mx with|none=>rfl|some _=>exact r3.elim
   subst e;obtain⟨lN,hN,hk,g1,g2,g3,g4,g5,g6⟩:=kh h;cases hv with
   |str s b e=>
    have hsz:b.size=s.length:=by rw[←e];simp
    have hb:=mD (P:=P) (w:=w) (b:=false) (len:=b.size) (cap:=b.size) r1 r2 g1 (by omega) (Nat.le_refl _) g3 g4 (fun e=>by rw[hsz];exact g5 e) g6;refine⟨_,hk,dR.val hF (by simp [hop]) (v:= .string (b.extract lN hN)) ?_ (VA.str _ _ ?_)⟩
    ·simp only[execOp,hop,hxv,Option.map_none,Sem.run_bind,Bk T.und hb];rfl
    ·rw[extract_data,yB g3 g4 g5 g6,e]
  ·simp at h
 ·rename_i ti τ0 e hti
  obtain⟨i,d,T⟩:=E.ts t _ hti;obtain⟨rfl,j,hj,hjs,_⟩:=T.slice rfl;have fin:∀{ad:Option Addr} {len cap lN hN mN:Nat} {z:At},v= .slice ad len cap→(Instr.sliceBounds true len cap (lo.map a.eval) (hi.map a.eval) (mx.map a.eval)).run P w= .ok (lN,hN,mN) w→
   VA g w z (.slice (if mN=lN then ad else ad.map (·.add (lN*τ0.n))) (hN - lN) (mN - lN))→dR P F n g w o a (.one z):=by
   intro ad len cap lN hN mN z e hb hz;refine dR.val hF (by simp [hop]) ?_ hz;simp only[execOp,hop,hxv,e,Sem.run_bind,Cw T.und hj hb,hjs];rfl
  have cut:∀{τ:Ty} {l:List τ.T} {ad:Option Addr} {len cap bk of:Nat} {f:Nat→Nat→Value},v= .slice ad len cap→len=l.length→len≤cap→(l≠ [] →ad=some ⟨bk,of,none⟩∧g.S bk)→
   (∀i j,i<l.length→j<τ.n→w.cell? ⟨bk,of+(i*τ.n+j),none⟩=some (f i j))→(∀i x j y,l[i]? =some x→(τ.enc x)[j]? =some y→VA g w y (f i j))→τ.n=τ0.n→By τ l ql qh qm k=some res→
   ∃y,k y=some res∧dR P F n g w o a y:=by
   intro τ l ad len cap bk of f e hl hcl ha hcell hf hn h;unfold By at h;split at h
   ·have em:mx=none:=by cases mx with|none=>rfl|some _=>exact r3.elim
    obtain⟨lN,hN,hk,g1,g2,g3,g4,g5,g6⟩:=kh h;have hb:=mD (P:=P) (w:=w) (b:=true) (len:=len) (cap:=cap) r1 r2 g1 (by omega) hcl g3 g4 (fun e=>by rw[hl];exact g5 e) g6;obtain⟨p1,p2,p3,p4⟩:=wQ (mN:=cap) ha hcell hf g1 g2 (by omega);refine⟨_,hk,fin e (by rw[em];exact hb) ?_⟩;rw[yB g3 g4 g5 g6,←hn];exact VA.sl τ _ _ _ _ bk (of+lN*τ.n) (fun i j=>f (lN+i) j) p4.symm (by omega) p1 p2 p3
   ·rename_i q1 q2
    rcases bo h with⟨he,h⟩ |⟨_,h⟩
    ·simp only[decide_eq_true_eq] at he
     subst he;obtain⟨lN,hN,hk,g1,g2,g3,g4,g5,g6⟩:=kh h;cases mx with
     |none=>exact r3.elim
     |some ym=>
      cases hi with
      |none=>exact r2.elim
      |some yh=>
       have hb:=B4 (P:=P) (w:=w) (len:=len) (cap:=cap) r1 r2 r3 g1 (by omega) hcl g3 g4 (g6 _ rfl);obtain⟨p1,p2,p3,p4⟩:=wQ (mN:=hN) ha hcell hf g1 g2 (Nat.le_refl _);refine⟨_,hk,fin e hb ?_⟩;rw[yB g3 g4 g5 g6,←hn];exact VA.clip τ _ _ _ bk (of+lN*τ.n) (fun i j=>f (lN+i) j) p4.symm p1 p2 p3
    ·simp at h
   ·simp at h
  split at h
  ·rename_i τ l
   split at h
   ·rename_i hn
    cases hv with
    |sl _ _ ad len cap bk of f hl hc ha hcell hf=>exact cut rfl hl hc ha hcell hf (Nat.eq_of_beq_eq_true hn) h
   ·simp at h
  ·rename_i τ l
   split at h
   ·rename_i hn
    cases hv with
    |clip _ _ ad len bk of f hl ha hcell hf=>
     split at h
     ·unfold CL at h
      split at h
      ·rename_i q1
       rcases bo h with⟨he,h9⟩ |⟨_,h9⟩
       ·simp only[decide_eq_true_eq] at he
        subst he;have em:mx=none:=by cases mx with|none=>rfl|some _=>exact r3.elim
        have hb:=mD (P:=P) (w:=w) (b:=true) (len:=len) (cap:=len) (lN:=0) (hN:=len) r1 r2 (Nat.zero_le _) (Nat.le_refl _) (Nat.le_refl _) (fun _=>rfl) (fun q hq=>by cases hq) (fun e=>by cases e) (fun q hq=>by cases hq;exact⟨by omega,by omega⟩);refine⟨_,h9,fin rfl (by rw[em];exact hb) ?_⟩;simp only[if_true,Nat.sub_zero,Nat.zero_mul];have hid:(if len=0 then ad else ad.map (·.add 0))=ad:=by
         split
         ·rfl
         ·cases ad with
          |none=>rfl
          |some q=>cases q;simp [Addr.add]
        rw[hid];exact VA.clip _ _ _ _ bk of f hl ha hcell hf
       ·exact cut rfl hl (Nat.le_refl _) ha hcell hf (Nat.eq_of_beq_eq_true hn) h9
      ·exact cut rfl hl (Nat.le_refl _) ha hcell hf (Nat.eq_of_beq_eq_true hn) h
     ·exact cut rfl hl (Nat.le_refl _) ha hcell hf (Nat.eq_of_beq_eq_true hn) h
   ·simp at h
  ·rename_i id
   split at h
   ·rename_i τ l hl
    split at h
    ·rename_i hn
     have em:mx=none:=by cases mx with|none=>rfl|some _=>exact r3.elim
     obtain⟨b,hb,hbr⟩:=E.mem _ _ hl;have hlen:=hbr.len;obtain⟨lN,hN,hk,g1,g2,g3,g4,g5,g6⟩:∃lN hN,k (.one (.sub id lN (hN - lN)))=some res∧lN≤hN∧hN≤b.cp∧(ql=none→lN=0)∧(∀q,ql=some q→0≤q∧lN=q.toNat)∧(qh=none→hN=l.length)∧(∀q,qh=some q→0≤q∧hN=q.toNat):=by
      split at h
      ·obtain⟨lN,hN,hk,g1,g2,g3,g4,g5,g6⟩:=kh h
       exact⟨lN,hN,hk,g1,by omega,g3,g4,g5,g6⟩
      ·rename_i cp hcp
       have:=yz E.mem hcp hb;subst this;exact sa (by omega) h
     cases hv with
     |own _ b' ad hm hk' h0=>
      rw[hb] at hm;cases hm;have hbb:=mD (P:=P) (w:=w) (b:=true) (len:=b.ln) (cap:=b.cp) r1 r2 g1 (by omega) (by omega) g3 g4 (fun e=>by rw[hlen.1];exact g5 e) g6;refine⟨_,hk,fin rfl (by rw[em];exact hbb) ?_⟩;refine VA.sub id lN (hN - lN) b _ _ hb (by omega) rfl (fun hne=> ?_);rw[if_neg (by omega)];cases hbk:b.blk with
      |none=>have:=(h0 hbk).1;omega
      |some q=>exact⟨q,rfl,by rw[hk' q hbk];simp [da,hlen.2.2,Nat.eq_of_beq_eq_true hn]⟩
    ·simp at h
   ·rename_i τ l q hl
    split at h
    ·rename_i pa pb
     obtain⟨b,hb,hbr⟩:=E.mem _ _ hl;have hlen:=hbr.len;rcases bo h with⟨c1,h⟩ |⟨_,h⟩
     rotate_left
     ·simp at h
     rcases bo h with⟨c2,h⟩ |⟨_,h⟩
     rotate_left
     ·simp at h
     rcases bo h with⟨c3,h⟩ |⟨_,h⟩
     rotate_left
     ·simp at h
     simp only[decide_eq_true_eq] at c1 c2 c3;cases hv with
     |own _ b' ad hm hk' h0=>
      rw[hb] at hm;cases hm;cases mx with
      |none=>exact r3.elim
      |some ym=>
       cases hi with
       |none=>exact r2.elim
       |some yh=>
        cases lo with
        |none=>exact r1.elim
        |some yl=>
         refine⟨_,h, ?_⟩;obtain⟨κ1,e1⟩:=r1;obtain⟨κ2,e2⟩:=r2;obtain⟨κ3,e3⟩:=r3;have hbb:(Instr.sliceBounds true b.ln b.cp (some (a.eval yl)) (some (a.eval yh)) (some (a.eval ym))).run P w= .ok (pa.toNat,pb.toNat,q.toNat) w:=by
          have i1:0≤q∧q≤(b.cp:Int):=by omega
          have i2:0≤pb∧pb≤((q.toNat:Nat):Int):=by omega
          have i3:0≤pa∧pa≤((pb.toNat:Nat):Int):=by omega
          have ea:∀code,(Instr.sliceBound (a.eval ym) b.cp code).run P w= .ok q.toNat w:=fun code=>fl e3 i1
          have eb:∀code,(Instr.sliceBound (a.eval yh) q.toNat code).run P w= .ok pb.toNat w:=fun code=>fl e2 i2
          have ec:∀code,(Instr.sliceBound (a.eval yl) pb.toNat code).run P w= .ok pa.toNat w:=fun code=>fl e1 i3
          simp [Instr.sliceBounds,ea,eb,ec]
         exact fin rfl (by simpa using hbb) (VA.dead _ rfl)
    ·simp at h
   ·simp at h
  ·rename_i id off len
   split at h
   ·rename_i τ l hl
    split at h
    ·rename_i hn
     have em:mx=none:=by cases mx with|none=>rfl|some _=>exact r3.elim
     obtain⟨b,hb,hbr⟩:=E.mem _ _ hl;have hlen:=hbr.len;cases hv with
     |sub _ _ _ b' ad cc hm hl' hc hk'=>
      rw[hb] at hm;cases hm;obtain⟨lN,hN,hk,g1,g2,g3,g4,g5,g6⟩:∃lN hN,k (.one (.sub id (off+lN) (hN - lN)))=some res∧lN≤hN∧hN≤cc∧(ql=none→lN=0)∧(∀q,ql=some q→0≤q∧lN=q.toNat)∧(qh=none→hN=len)∧(∀q,qh=some q→0≤q∧hN=q.toNat):=by
       split at h
       ·obtain⟨lN,hN,hk,g1,g2,g3,g4,g5,g6⟩:=sa (Nat.le_max_left _ _) h
        exact⟨lN,hN,hk,g1,by omega,g3,g4,g5,g6⟩
       ·rename_i cp hcp
        have:=yz E.mem hcp hb;subst this;obtain⟨lN,hN,hk,g1,g2,g3,g4,g5,g6⟩:=sa (Nat.le_max_left _ _) h;exact⟨lN,hN,hk,g1,by omega,g3,g4,g5,g6⟩
      have hbb:=mD (P:=P) (w:=w) (b:=true) (len:=len) (cap:=cc) r1 r2 g1 (by omega) (by omega) g3 g4 g5 g6;refine⟨_,hk,fin rfl (by rw[em];exact hbb) ?_⟩;refine VA.sub id (off+lN) (hN - lN) b _ _ hb (by omega) (by omega) (fun hne=> ?_);rw[if_neg (by omega)];obtain⟨q,hbk,rfl⟩:=hk' (by omega);refine⟨q,hbk, ?_⟩;simp [da,hlen.2.2,Nat.eq_of_beq_eq_true hn,Nat.add_mul]
    ·simp at h
   ·rename_i τ l q hl
    split at h
    ·rename_i pa pb
     split at h
     ·rename_i z1 z2 z3
      obtain rfl:=beq_iff_eq.1 z1;obtain rfl:=beq_iff_eq.1 z2;obtain rfl:=beq_iff_eq.1 z3;cases hv with
      |sub _ _ _ b' ad cc hm hl' hc hk'=>
       cases mx with
       |none=>exact r3.elim
       |some ym=>
        cases hi with
        |none=>exact r2.elim
        |some yh=>
         cases lo with
         |none=>exact r1.elim
         |some yl=>
          refine⟨_,h, ?_⟩;obtain⟨κ1,e1⟩:=r1;obtain⟨κ2,e2⟩:=r2;obtain⟨κ3,e3⟩:=r3;have hbb:(Instr.sliceBounds true len cc (some (a.eval yl)) (some (a.eval yh)) (some (a.eval ym))).run P w= .ok (0,0,0) w:=by
           have ea:∀code,(Instr.sliceBound (a.eval ym) cc code).run P w= .ok 0 w:=fun code=>fl (q:=0) e3 (by omega)
           have eb:∀code,(Instr.sliceBound (a.eval yh) 0 code).run P w= .ok 0 w:=fun code=>fl (q:=0) e2 (by omega)
           have ec:∀code,(Instr.sliceBound (a.eval yl) 0 code).run P w= .ok 0 w:=fun code=>fl (q:=0) e1 (by omega)
           simp [Instr.sliceBounds,ea,eb,ec]
          exact fin rfl (by simpa using hbb) (VA.clip τ [] _ 0 0 0 (fun _ _=>default) rfl (fun h=>absurd rfl h) (fun i j hi _=>by simp at hi) (fun i x j y hx _=>by simp at hx))
     ·simp at h
    ·simp at h
   ·simp at h
  ·simp at h
 ·simp at h
theorem D5 (E:Env P c g r m xs a w) (hF:bY F) {f:Nat} (hop:o.op= .makeFunc (.func f) #[] #[]) (hk:k (.one (.fnc f))=some res):∃y,k y=some res∧dR P F n g w o a y:=by
 refine⟨_,hk,dR.val hF (by simp [hop]) (v:= .func (.func f) #[] #[]) ?_ (VA.fnc f)⟩;simp [execOp,hop,Instr.makeFunc]
end
end Go.Eng
