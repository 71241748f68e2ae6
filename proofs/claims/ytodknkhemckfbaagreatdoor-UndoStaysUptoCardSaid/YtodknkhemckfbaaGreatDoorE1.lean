/- A part of the proofs of the laws of this seat: the engine that reads the program's code, plain functions, or facts of the program's functions. Conditions: none. -/
import Derived.CallsIn
import Derived.Below
import Derived.KernelRfl
import Derived.Laws.Sem
import Derived.Laws.Cells
import Derived.RowKit3
import Derived.Laws.Strings
import Derived.Laws.StructEq
set_option linter.unusedSectionVars false
set_option linter.unusedVariables false
set_option linter.unusedSimpArgs false
set_option linter.unnecessarySimpa false
namespace Go.Eng
open Go
abbrev Str:=List UInt8
structure Entry where
 name:Str
 ino:Int
structure ao where
 ino:Int
 kind:Int
 aH:Int
 data:Str
 parent:Int
 entries:List Entry
structure Seen where
 path:Str
 ino:Int
structure Kept where
 slot:Int
 ino:Int
 content:Bool
 data:Str
structure Opn where
 kind:Int
 slot:Int
 a:Str
 b:Str
 data:Str
structure QI where
 op:Int
 a:Str
 b:Str
 data:Str
structure Shp where
 path:Str
 kind:Int
 data:Str
 first:Int
inductive Ty where
 |int|byte|str|entry|aM|seen|kept|opn|ze|shp|yU|bool|fn|parts|strs
@[reducible] def Ty.T:Ty->Type
 | .int=>Int
 | .byte=>UInt8
 | .str=>Str
 | .entry=>Entry
 | .aM=>ao
 | .seen=>Seen
 | .kept=>Kept
 | .opn=>Opn
 | .ze=>QI
 | .shp=>Shp
 | .yU=>Int×Nat
 | .bool=>Bool
 | .fn=>Nat
 | .parts=>Bool×Bool×Bool
 | .strs=>List Str
def Ty.n:Ty->Nat
 | .int=>1
 | .byte=>1
 | .str=>1
 | .entry=>2
 | .aM=>6
 | .seen=>2
 | .kept=>4
 | .opn=>5
 | .ze=>4
 | .shp=>4
 | .yU=>2
 | .bool=>1
 | .fn=>1
 | .parts=>3
 | .strs=>1
inductive At where
 |int (k:IntKind) (n:Int)
 |bool (b:Bool)
 |str (s:Str)
 |sl (τ:Ty) (l:List τ.T)
 |clip (τ:Ty) (l:List τ.T)
 |own (id:Nat)
 |sub (id off len:Nat)
 |ptr (id off:Nat)
 |fB (id i j:Nat)
 |gQ (τ:Ty) (x:τ.T) (j:Nat)
 |fnc (f:Nat)
 |clo (id:Nat)
 |gp (id:Nat)
 |iter (id:Nat)
 |yld (id:Nat)
 |gl (τ:Ty) (l:List τ.T)
 |pS
 |ng
 |oO
 |dead
def i64 (n:Int):At:= .int .i64 n
def Ty.enc:(τ:Ty)->τ.T->List At
 | .int,(x:Int)=>[.int .i64 x]
 | .byte,(x:UInt8)=>[.int .u8 x.toNat]
 | .str,(x:Str)=>[.str x]
 | .entry,(x:Entry)=>[.str x.name, .int .i64 x.ino]
 | .aM,(x:ao)=>[.int .i64 x.ino, .int .i64 x.kind, .int .i64 x.aH, .str x.data, .int .i64 x.parent, .sl .entry x.entries]
 | .seen,(x:Seen)=>[.str x.path, .int .i64 x.ino]
 | .kept,(x:Kept)=>[.int .i64 x.slot, .int .i64 x.ino, .bool x.content, .str x.data]
 | .opn,(x:Opn)=>[.int .i64 x.kind, .int .i64 x.slot, .str x.a, .str x.b, .str x.data]
 | .ze,(x:QI)=>[.int .i64 x.op, .str x.a, .str x.b, .str x.data]
 | .shp,(x:Shp)=>[.str x.path, .int .i64 x.kind, .str x.data, .int .i64 x.first]
 | .yU,(x:Int×Nat)=>[.int .i64 x.1, .fnc x.2]
 | .bool,(x:Bool)=>[.bool x]
 | .fn,(x:Nat)=>[.fnc x]
 | .parts,(x:Bool×Bool×Bool)=>[.bool x.1, .bool x.2.1, .bool x.2.2]
 | .strs,(x:List Str)=>[.sl .str x]
def Ty.dec:(τ:Ty)->List At->Option τ.T
 | .int,[.int .i64 x]=>some x
 | .byte,[.int .u8 x]=>match decide (0<=x/\x<256) with|true=>some (UInt8.ofNat x.toNat) |false=>none
 | .str,[.str x]=>some x
 | .entry,[.str a, .int .i64 b]=>some ⟨a,b⟩
 | .aM,[.int .i64 a, .int .i64 b, .int .i64 c, .str d, .int .i64 e, .sl .entry l]=>some ⟨a,b,c,d,e,l⟩
 | .seen,[.str a, .int .i64 b]=>some ⟨a,b⟩
 | .kept,[.int .i64 a, .int .i64 b, .bool c, .str d]=>some ⟨a,b,c,d⟩
 | .opn,[.int .i64 a, .int .i64 b, .str c, .str d, .str e]=>some ⟨a,b,c,d,e⟩
 | .ze,[.int .i64 a, .str c, .str d, .str e]=>some ⟨a,c,d,e⟩
 | .shp,[.str a, .int .i64 b, .str c, .int .i64 d]=>some ⟨a,b,c,d⟩
 | .yU,[.int .i64 a, .fnc b]=>some (a,b)
 | .bool,[.bool a]=>some a
 | .fn,[.fnc a]=>some a
 | .parts,[.bool a, .bool b, .bool c]=>some (a,b,c)
 | .strs,[.sl .str l]=>some l
 |_,_=>none
def iF:At->At
 | .clip τ l=> .sl τ l
 |x=>x
def Ty.qH (τ:Ty) (l:List At):Option τ.T:=τ.dec (l.map iF)
def dV:(τ τ':Ty)->List τ.T->Option (List τ'.T)
 | .int, .int,l=>some l
 | .byte, .byte,l=>some l
 | .str, .str,l=>some l
 | .entry, .entry,l=>some l
 | .aM, .aM,l=>some l
 | .seen, .seen,l=>some l
 | .kept, .kept,l=>some l
 | .opn, .opn,l=>some l
 | .ze, .ze,l=>some l
 | .shp, .shp,l=>some l
 | .yU, .yU,l=>some l
 | .bool, .bool,l=>some l
 | .fn, .fn,l=>some l
 | .parts, .parts,l=>some l
 | .strs, .strs,l=>some l
 |_,_,_=>none
inductive V1 where
 |one (x:At)
 |agg (l:List At)
inductive AV where
 |v (x:V1)
 |tup (l:List V1)
 |undef
 |dead
abbrev AV.one (x:At):AV:= .v (.one x)
abbrev AV.agg (l:List At):AV:= .v (.agg l)
inductive Ex where
 |normal
 |exit (id:Nat)
 |goto (l:Nat)
 |ret
inductive AB where
 |cells (l:List At)
 |row (τ:Ty) (l:List τ.T)
 |clo (f:Nat) (first captured:List At)
 |iter (s:Str) (pos:Nat)
 |oE (x:At) (n:Nat)
 |loop (ph:Bool) (n fid rid:Nat) (az:List (Nat×AV))
 |over (e:Ex)
 |map (ag:Bool) (κ τ:Ty) (l:List (κ.T×τ.T×Nat)) (ck:Nat)
 |gone
abbrev cj:=List (Nat×AV)
abbrev Mem:=List (Nat×AB)
structure St where
 az:cj
 mem:Mem
 nx:Nat
universe u
def look {α:Type u} (n:Nat):List (Nat×α)->Option α
 | [] =>none
 |x::r=>match Nat.beq x.1 n with|true=>some x.2|false=>look n r
noncomputable def Dl {α:Type} (n:Nat) (f:Nat->Option α):Option α:=
 open Classical in if h:∃y,∀c,n<=c->f c=some y then some (Classical.choose h) else none
def ah {α:Type} (b:Bool) (x y:Option α):Option α:=match b with|true=>x|false=>y
def aj {α β:Type} (o:Option α) (f:α->Option β):Option β:=match o with|some x=>f x|none=>none
def LIM:Nat:=4294967296
def aS {α:Type} (n:Nat) (x:Option α):Option α:=match Nat.ble n LIM with|true=>x|false=>none
inductive TK where
 |int (k:IntKind)
 |bool
 |str
 |struct (fs:List (Nat×TypeId))
 |array (n:Nat) (e:TypeId)
 |slice (τ:Ty) (e:TypeId)
 |map (κ τ:Ty) (kt e:TypeId)
 |ptr (e:TypeId)
 |other
structure TI where
 agg:Bool
 size:Nat
 zero:V1
 k:TK
structure Spec where
 X:Type
 Y:Type
 pat:List AV->Option X
 f:X->Option Y
 enc:Y->AV
structure kx where
 X:Type
 Y:Type
 pat:List AV->Option X
 g:X->Option Y
 enc:Y->AB
def kx.f (s:kx) (x:s.X):Option AB:=match s.g x with|some y=>some (s.enc y) |none=>none
structure Ann where
 az:List Nat
 rows:List (Nat×Nat×Ty)
 mem:List Nat
 nx:Nat
 sls:List Nat:= []
 slm:List Nat:= []
 aoP:List (Nat×Nat×Nat×Ty):= []
 il:List (Nat×Nat×Ty):= []
inductive EK where
 |i|b|s
structure Cfg where
 T:List (Nat×TI)
 spec:List (Nat×Spec):= []
 aW:List (Nat×(τ:Ty)×List τ.T)
 eqs:List (Nat×List EK)
 N:Nat
 fuel:Nat
 loops:List (Nat×Ann):= []
 ZA:List (Nat×Ann):= []
 blocks:List (Nat×Ann):= []
 ovl:List Nat:= []
 fq:Option Ann:=none
 fid:Nat:=0
 rnd:Bool:=false
 Iv:List (Nat×List Nat):= []
 fresh:List (Nat×kx):= []
 gns:List (Nat×Spec):= []
 Wy:Bool:=false
 qb:Bool:=false
 cl:List Nat:= []
def Cfg.ti (c:Cfg) (t:TypeId):Option TI:=look t c.T
def Cfg.elem (c:Cfg) (t:TypeId):Option Ty:=
 match c.ti t with
 |some {k:= .slice τ _, .. }=>some τ
 |_=>none
def OFF:Nat:=1000000
def j_ {α:Type u} (n:Nat) (r:List (Nat×α)):Option α:=match Nat.blt n OFF with|true=>look n r|false=>none
def yn (c:Cfg) (t:TypeId):Value->Option AV
 | .bool b=>some (.one (.bool b))
 | .int k n=>some (.one (.int k n))
 | .string s=>some (.one (.str s.data.toList))
 | .slice none 0 0=>match c.elem t with|some τ=>some (.one (.clip τ [])) |none=>none
 | .pointer none=>some (.one .pS)
 | .nilFunc=>some (.one .ng)
 | .map none=>some (.one .oO)
 |_=>none
def ev (c:Cfg) (r:cj) (t:TypeId):Operand->Option AV
 | .tmp n=>j_ n r
 | .const v=>yn c t v
 | .func f=>some (.one (.fnc f))
 | .global q=>match look q c.aW with|some ⟨τ,l⟩=>some (.one (.gl τ l)) |none=>none
def V1.cells:V1->List At
 | .one x=>[x]
 | .agg l=>l
def evV (c:Cfg) (r:cj) (t:TypeId) (x:Operand):Option V1:=
 match ev c r t x with
 |some (.v y)=>some y
 |_=>none
def evA (c:Cfg) (r:cj) (t:TypeId) (x:Operand):Option At:=
 match ev c r t x with
 |some (.v (.one y))=>some y
 |_=>none
def V1.dB (agg:Bool) (l:List At):Option V1:=
 match agg,l with
 |true,l=>some (.agg l)
 |false,[x]=>some (.one x)
 |false,_=>none
end Go.Eng
namespace Go.Eng
open Go
section
variable {R:Type}
def js (m:Mem) (p:At) (n:Nat) (k:List At->Option R):Option R:=
 match p with
 | .ptr id off=>match look id m with
  |some (.cells l)=>match Nat.ble (off+n) l.length with|true=>k ((l.drop off).take n) |false=>none
  |_=>none
 | .fB id i j=>match look id m with
  |some (.row τ l)=>match Nat.ble (j+n) τ.n with|true=>aj l[i]? λx=>k (((τ.enc x).drop j).take n) |false=>none
  |_=>none
 | .gQ τ x j=>match Nat.ble (j+n) τ.n with|true=>k (((τ.enc x).drop j).take n) |false=>none
 |_=>none
def cg (m:Mem) (p:At) (k:(τ:Ty)->List τ.T->Option R):Option R:=
 match p with
 | .sl τ l=>k τ l
 | .clip τ l=>k τ l
 | .own id=>match look id m with
  |some (.row τ l)=>k τ l
  |_=>none
 | .sub id off n=>match look id m with
  |some (.row τ l)=>match Nat.ble (off+n) l.length with|true=>k τ ((l.drop off).take n) |false=>none
  |_=>none
 |_=>none
def xX:IntKind->IntKind->Bool
 | .i8, .i8=>true
 | .i16, .i16=>true
 | .i32, .i32=>true
 | .i64, .i64=>true
 | .u8, .u8=>true
 | .u16, .u16=>true
 | .u32, .u32=>true
 | .u64, .u64=>true
 |_,_=>false
def IH (op:BinOp) (k:IntKind) (x y:Int):Int:=
 match op with
 | .and=>k.wrap (BitVec.ofInt k.bits x&&& BitVec.ofInt k.bits y).toNat
 | .or=>k.wrap (BitVec.ofInt k.bits x|||BitVec.ofInt k.bits y).toNat
 | .xor=>k.wrap (BitVec.ofInt k.bits x^^^BitVec.ofInt k.bits y).toNat
 |_=>k.wrap (BitVec.ofInt k.bits x&&& ~~~BitVec.ofInt k.bits y).toNat
def Ks (op:BinOp) (κ:IntKind) (a b:Int) (k:AV->Option R):Option R:=
 match op with
 | .add=>k (.one (.int κ (κ.wrap (a+b))))
 | .sub=>k (.one (.int κ (κ.wrap (a - b))))
 | .mul=>k (.one (.int κ (κ.wrap (a*b))))
 | .quo=>ah (b==0) none (k (.one (.int κ (κ.wrap (a.tdiv b)))))
 | .rem=>ah (b==0) none (k (.one (.int κ (a.tmod b))))
 | .and=>k (.one (.int κ (IH .and κ a b)))
 | .or=>k (.one (.int κ (IH .or κ a b)))
 | .xor=>k (.one (.int κ (IH .xor κ a b)))
 | .andNot=>k (.one (.int κ (IH .andNot κ a b)))
 | .eql=>k (.one (.bool (a==b)))
 | .neq=>k (.one (.bool (a !=b)))
 | .lss=>k (.one (.bool (decide (a<b))))
 | .leq=>k (.one (.bool (decide (a<=b))))
 | .gtr=>k (.one (.bool (decide (a>b))))
 | .geq=>k (.one (.bool (decide (a>=b))))
 |_=>none
def wk (op:BinOp) (κ:IntKind) (a b:Int) (k:AV->Option R):Option R:=
 match op with
 | .shl=>ah (decide (b<0)) none (k (.one (.int κ (κ.wrap (a*2^(min b.toNat κ.bits))))))
 | .shr=>ah (decide (b<0)) none (k (.one (.int κ (a.fdiv (2^(min b.toNat κ.bits))))))
 |_=>none
def Jp (op:BinOp) (a b:Str) (k:AV->Option R):Option R:=
 match op with
 | .add=>aS (a.length+b.length) (k (.one (.str (a++b))))
 | .eql=>k (.one (.bool (a==b)))
 | .neq=>k (.one (.bool (!(a==b))))
 | .lss=>k (.one (.bool (Op.bytesLess a b)))
 | .leq=>k (.one (.bool (Op.bytesLess a b||a==b)))
 | .gtr=>k (.one (.bool (!(Op.bytesLess a b||a==b))))
 | .geq=>k (.one (.bool (!Op.bytesLess a b)))
 |_=>none
def LZ:EK->At->At->Option Bool
 | .i, .int k a, .int k' b=>match xX k k' with|true=>some (a==b) |false=>none
 | .s, .str a, .str b=>some (a==b)
 | .b, .bool a, .bool b=>some (a==b)
 |_,_,_=>none
def n0:List EK->List At->List At->Option Bool
 | [], [], [] =>some true
 |e::es,x::l,y::l'=>match es with
  | [] =>match l,l' with
   | [], [] =>LZ e x y
   |_,_=>none
  |_::_=>match LZ e x y,n0 es l l' with
   |some a,some b=>some (a&&b)
   |_,_=>none
 |_,_,_=>none
def C0:BinOp->Bool
 | .shl=>true
 | .shr=>true
 |_=>false
def vf (n:Nat):List Nat->Bool
 | [] =>false
 |m::l=>match Nat.beq m n with|true=>true|false=>vf n l
def vh:Option TI->Bool
 |some {k:= .bool, .. }=>true
 |_=>false
def FL (tb:Bool) (eq:Option (List EK)) (op:BinOp) (x y:AV) (k:AV->Option R):Option R:=
 match x,y with
 | .v (.one (.int κ a)), .v (.one (.int κ' b))=>
  match C0 op with
  |true=>wk op κ a b k
  |false=>match xX κ κ' with|true=>Ks op κ a b k|false=>none
 | .v (.one (.str a)), .v (.one (.str b))=>Jp op a b k
 | .v (.one (.bool a)), .v (.one (.bool b))=>
  match tb,op with
  |true, .eql=>k (.one (.bool (a==b)))
  |true, .neq=>k (.one (.bool (!(a==b))))
  |_,_=>none
 | .v (.agg a), .v (.agg b)=>
  match eq with
  |some es=>match op,n0 es a b with
   | .eql,some t=>k (.one (.bool t))
   | .neq,some t=>k (.one (.bool (!t)))
   |_,_=>none
  |none=>none
 |_,_=>none
def unQ (op:UnOp) (x:AV) (k:AV->Option R):Option R:=
 match op,x with
 | .not, .v (.one (.bool b))=>k (.one (.bool (!b)))
 | .neg, .v (.one (.int κ n))=>k (.one (.int κ (κ.wrap (0 - n))))
 |_,_=>none
def j6 (len:Nat) (lo hi:Option Int) (k:Nat->Nat->Option R):Option R:=
 match lo,hi with
 |none,none=>k 0 len
 |none,some h=>ah (decide (0<=h/\h<=(len:Int))) (k 0 h.toNat) none
 |some l,none=>ah (decide (0<=l/\l<=(len:Int))) (k l.toNat len) none
 |some l,some h=>ah (decide (0<=h/\h<=(len:Int))) (ah (decide (0<=l/\l<=h)) (k l.toNat h.toNat) none) none
def og (cap len:Nat) (lo hi:Option Int) (k:Nat->Nat->Option R):Option R:=
 match hi with
 |none=>j6 len lo none k
 |some h=>j6 cap lo (some h) k
def jl (m:Mem) (id:Nat):Mem->Option Nat
 | [] =>none
 |x::l=>match look x.1 m with
  |some (.oE (.own i) n)=>match Nat.beq i id with
   |true=>some n
   |false=>jl m id l
  |_=>jl m id l
def xr {α:Type} (lo hi:Option Int) (l:List α):List α:=
 match lo,hi with
 |none,none=>l
 |none,some h=>l.take h.toNat
 |some a,none=>l.drop a.toNat
 |some a,some h=>(l.take h.toNat).drop a.toNat
def zd (c:Cfg) (r:cj):Option Operand->Option (Option Int)
 |none=>some none
 |some x=>match evA c r 0 x with
  |some (.int _ n)=>some (some n)
  |_=>none
def Cx (τ:Ty) (l:List τ.T) (lo hi mx:Option Int) (k:AV->Option R):Option R:=
 match mx,hi with
 |none,_=>j6 l.length lo hi λ_ _=>k (.one (.sl τ (xr lo hi l)))
 |some q,some h=>ah (decide (q=h)) (j6 l.length lo hi λ_ _=>k (.one (.clip τ (xr lo hi l)))) none
 |some _,none=>none
def D8 (τ:Ty) (l:List τ.T) (lo hi mx:Option Int) (k:AV->Option R):Option R:=
 match lo,hi,mx with
 |none,some h,none=>ah (decide (h=(l.length:Int))) (k (.one (.clip τ l))) (Cx τ l none (some h) none k)
 |lo,hi,mx=>Cx τ l lo hi mx k
def qf (c:Cfg) (r:cj) (m:Mem) (t:TypeId) (x:At) (lo hi mx:Option Operand) (k:AV->Option R):Option R:=
 match zd c r lo,zd c r hi,zd c r mx with
 |some lo,some hi,some mx=>match c.ti t with
  |some {k:= .str, .. }=>match x,mx with
   | .str s,none=>j6 s.length lo hi λ_ _=>k (.one (.str (xr lo hi s)))
   |_,_=>none
  |some {k:= .slice τ0 _, .. }=>match x with
   | .sl τ l=>match Nat.beq τ.n τ0.n with
    |true=>Cx τ l lo hi mx k
    |false=>none
   | .clip τ l=>match Nat.beq τ.n τ0.n with
    |true=>match c.Wy with|true=>D8 τ l lo hi mx k|false=>Cx τ l lo hi mx k
    |false=>none
   | .own id=>match look id m,mx with
    |some (.row τ l),none=>match Nat.beq τ.n τ0.n with
     |true=>match jl m id m with
      |none=>j6 l.length lo hi λa b=>k (.one (.sub id a (b - a)))
      |some cp=>og cp l.length lo hi λa b=>k (.one (.sub id a (b - a)))
     |false=>none
    |some (.row τ l),some q=>match lo,hi with
     |some a,some b=>ah (decide (0<=q/\q<=(l.length:Int))) (ah (decide (0<=b/\b<=q)) (ah (decide (0<=a/\a<=b)) (k (.one .dead)) none) none) none
     |_,_=>none
    |_,_=>none
   | .sub id off n=>match look id m,mx with
    |some (.row τ l),none=>match Nat.beq τ.n τ0.n with
     |true=>match jl m id m with
      |none=>og (max n (l.length - off)) n lo hi λa b=>k (.one (.sub id (off+a) (b - a)))
      |some cp=>og (max n (cp - off)) n lo hi λa b=>k (.one (.sub id (off+a) (b - a)))
     |false=>none
    |some (.row τ l),some q=>match lo,hi with
     |some a,some b=>match a==0,b==0,q==0 with
      |true,true,true=>k (.one (.clip τ []))
      |_,_,_=>none
     |_,_=>none
    |_,_=>none
   |_=>none
  |_=>none
 |_,_,_=>none
def setCells (l:List At) (off:Nat):List At->List At
 | [] =>l
 |x::r=>setCells (l.set off x) (off+1) r
def Cr (c:Cfg) (r:cj) (fs:List (Nat×TypeId)) (cells:List At):List (Nat×Operand)->Option (List At)
 | [] =>some cells
 |(i,x)::rest=>
  match fs[i]? with
  |none=>none
  |some (off,t)=>
   match c.ti t,evV c r t x with
   |some ti,some v=>match Nat.beq v.cells.length ti.size,Nat.ble (off+v.cells.length) cells.length with
    |true,true=>Cr c r fs (setCells cells off v.cells) rest
    |_,_=>none
   |_,_=>none
def viewAt (m:Mem) (x:At) (k:At->Option R):Option R:=
 match x with
 | .int κ n=>k (.int κ n)
 | .bool b=>k (.bool b)
 | .str s=>k (.str s)
 | .sl τ l=>k (.sl τ l)
 | .clip τ l=>k (.sl τ l)
 | .own id=>cg m (.own id) λτ l=>k (.sl τ l)
 | .sub id off n=>cg m (.sub id off n) λτ l=>k (.sl τ l)
 | .fnc f=>k (.fnc f)
 |_=>none
def ji (m:Mem):List At->(List At->Option R)->Option R
 | [],k=>k []
 |x::l,k=>viewAt m x λy=>ji m l λl'=>k (y::l')
def jk (m:Mem) (x:AV) (k:AV->Option R):Option R:=
 match x with
 | .v (.one y)=>viewAt m y λz=>k (.one z)
 | .v (.agg l)=>ji m l λl'=>k (.agg l')
 |_=>none
def dC (m:Mem):List AV->(List AV->Option R)->Option R
 | [],k=>k []
 |x::l,k=>jk m x λy=>dC m l λl'=>k (y::l')
def fw (c:Cfg) (r:cj):List Operand->List TypeId->Option (List AV)
 | [],_=>some []
 |x::l,ts=>match ev c r (ts.headD 0) x,fw c r l ts.tail with
  |some y,some l'=>some (y::l')
  |_,_=>none
def fk (c:Cfg) (r:cj) (f:Operand):Option Nat:=
 match ev c r 0 f with
 |some (.v (.one (.fnc n)))=>some n
 |_=>none
def qR:At->Bool
 | .int _ _=>true
 | .bool _=>true
 | .str _=>true
 | .fnc _=>true
 |_=>false
def B1:List At->Bool
 | [] =>true
 |x::l=>match qR x with|true=>B1 l|false=>false
def Dx:V1->Bool
 | .one x=>qR x
 | .agg l=>B1 l
def IG:List V1->Bool
 | [] =>true
 |x::l=>match Dx x with|true=>IG l|false=>false
def Cs:AV->Bool
 | .v x=>Dx x
 | .tup l=>IG l
 |_=>false
def kh:At->List Nat
 | .own id=>[id]
 | .sub id _ _=>[id]
 |_=> []
def wW:List At->List Nat
 | [] => []
 |x::l=>kh x++wW l
def cR:List AV->List Nat
 | [] => []
 | .v (.one x)::l=>kh x++cR l
 | .v (.agg x)::l=>wW x++cR l
 |_::l=>cR l
def o8 (s:Spec) (args:List AV) (k:AV->Option R):Option R:=
 match s.pat args with
 |some x=>aj (s.f x) λy=>k (s.enc y)
 |none=>none
def CX (c:Cfg) (m:Mem) (t:TypeId) (p:At) (k:AV->Option R):Option R:=
 match c.ti t with
 |some {k:= .str, .. }=>match p with
  | .str s=>k (.one (.int .i64 s.length))
  |_=>none
 |some {k:= .slice _ _, .. }=>match p with
  | .sub _ _ n=>k (.one (.int .i64 n))
  |p=>cg m p λ_ l=>k (.one (.int .i64 l.length))
 |some {k:= .map _ _ _ _, .. }=>match p with
  | .gp id=>match look id m with
   |some (.map _ _ _ l _)=>k (.one (.int .i64 l.length))
   |_=>none
  |_=>none
 |_=>none
def splitK (n:Int):Nat->Nat->(Nat->Option R)->Option R
 |0,_,_=>none
 |m+1,i,k=>ah (n==(i:Int)) (k i) (splitK n m (i+1) k)
def C6 (c:Cfg) (m:Mem) (t:TypeId) (p:At) (n:Int) (k:AV->Option R):Option R:=
 match c.ti t with
 |some {k:= .slice τ0 _, .. }=>match p with
  | .sl τ l=>match Nat.beq τ.n τ0.n with
   |true=>ah (decide (0<=n)) (aj l[n.toNat]? λe=>k (.one (.gQ τ e 0))) none
   |false=>none
  | .clip τ l=>match Nat.beq τ.n τ0.n with
   |true=>ah (decide (0<=n)) (aj l[n.toNat]? λe=>k (.one (.gQ τ e 0))) none
   |false=>none
  | .own id=>match look id m with
   |some (.row τ l)=>match Nat.beq τ.n τ0.n with
    |true=>ah (decide (0<=n/\n<(l.length:Int))) (k (.one (.fB id n.toNat 0))) none
    |false=>none
   |_=>none
  | .sub id off len=>match look id m with
   |some (.row τ _)=>match Nat.beq τ.n τ0.n with
    |true=>ah (decide (0<=n/\n<(len:Int))) (k (.one (.fB id (off+n.toNat) 0))) none
    |false=>none
   |_=>none
  |_=>none
 |some {k:= .array len e, .. }=>match p,c.ti e with
  | .ptr id off,some te=>splitK n len 0 λi=>k (.one (.ptr id (off+i*te.size)))
  | .gl τ l,some te=>match Nat.beq τ.n te.size,Nat.beq l.length len with
   |true,true=>ah (decide (0<=n)) (aj l[n.toNat]? λe=>k (.one (.gQ τ e 0))) none
   |_,_=>none
  |_,_=>none
 |_=>none
def mc (τ:Ty):Nat->List At->Option (List τ.T)
 |0, [] =>some []
 |0,_=>none
 |n+1,l=>match τ.qH (l.take τ.n),mc τ n (l.drop τ.n) with
  |some x,some r=>some (x::r)
  |_,_=>none
def qB (c:Cfg) (r:cj) (t:TypeId) (size:Nat) (cells:List At):List (Nat×Operand)->Option (List At)
 | [] =>some cells
 |(i,x)::rest=>
  match evV c r t x with
  |some v=>match Nat.beq v.cells.length size,Nat.ble (i*size+v.cells.length) cells.length with
   |true,true=>qB c r t size (setCells cells (i*size) v.cells) rest
   |_,_=>none
  |none=>none
def mh {α:Type} (l:List α):Nat->List α
 |0=> []
 |n+1=>l++mh l n
def lG (c:Cfg) (r:cj):List (Nat×Operand)->List Nat
 | [] => []
 |(_,x)::l=>match ev c r 0 x with
  |some v=>cR [v]++lG c r l
  |none=>lG c r l
def jY (c:Cfg) (r:cj) (m:Mem) (o:Oper) (k:AV->Option R):Option R:=
 match o.op with
 | .move x=>aj (ev c r o.type x) k
 | .assign x=>aj (ev c r o.type x) k
 | .pick b x y=>match evA c r 0 b with
  |some (.bool t)=>ah t (aj (ev c r o.type x) k) (aj (ev c r o.type y) k)
  |_=>none
 | .load t a=>match c.ti t,evA c r 0 a with
  |some ti,some p=>js m p ti.size λl=>aj (V1.dB ti.agg l) λv=>k (.v v)
  |_,_=>none
 | .nilCheck x=>match evA c r 0 x with
  |some (.ptr id off)=>k (.one (.ptr id off))
  |some (.fB id i j)=>k (.one (.fB id i j))
  |some (.gQ τ x j)=>k (.one (.gQ τ x j))
  |some (.gl τ l)=>k (.one (.gl τ l))
  |some (.fnc f)=>k (.one (.fnc f))
  |some (.clo f)=>k (.one (.clo f))
  |_=>none
 | .fieldAddr s x f=>match c.ti s,evA c r 0 x with
  |some {k:= .struct fs, .. },some p=>match fs[f]? with
   |some (off,_)=>match p with
    | .ptr id o=>k (.one (.ptr id (o+off)))
    | .fB id i j=>k (.one (.fB id i (j+off)))
    | .gQ τ x j=>k (.one (.gQ τ x (j+off)))
    |_=>none
   |none=>none
  |_,_=>none
 | .field t x f=>match c.ti t,evV c r 0 x with
  |some {k:= .struct fs, .. },some (.agg l)=>match fs[f]? with
   |some (off,t')=>match c.ti t' with
    |some ti=>match Nat.ble (off+ti.size) l.length with
     |true=>aj (V1.dB ti.agg ((l.drop off).take ti.size)) λv=>k (.v v)
     |false=>none
    |none=>none
   |none=>none
  |_,_=>none
 | .indexAddr t x i=>match evA c r t x,evA c r 0 i with
  |some p,some (.int _ n)=>C6 c m t p n k
  |_,_=>none
 | .index t x i=>match c.ti t,evV c r t x,evA c r 0 i with
  |some {k:= .str, .. },some (.one (.str s)),some (.int _ n)=>ah (decide (0<=n)) (aj s[n.toNat]? λb=>k (.one (.int .u8 b.toNat))) none
  |_,_,_=>none
 | .build t parts=>match c.ti t with
  |some {k:= .struct fs,zero:= .agg z, .. }=>aj (Cr c r fs z parts.toList) λl=>k (.agg l)
  |_=>none
 | .binOp op t x y _=>match ev c r t x,ev c r t y with
  |some a,some b=>FL (vh (c.ti t)) (look t c.eqs) op a b k
  |_,_=>none
 | .unOp op t x=>match ev c r t x with
  |some a=>unQ op a k
  |none=>none
 | .convert s d x=>match c.ti s,c.ti d,ev c r s x with
  |some {k:= .int _, .. },some {k:= .int κ, .. },some (.v (.one (.int _ n)))=>k (.one (.int κ (κ.wrap n)))
  |some {k:= .str, .. },some {k:= .str, .. },some (.v (.one (.str a)))=>k (.one (.str a))
  |some {k:= .slice _ e, .. },some {k:= .str, .. },some (.v (.one p))=>match c.ti e with
   |some {k:= .int .u8, .. }=>cg m p λτ l=>aj (dV τ .byte l) λb=>k (.one (.str b))
   |_=>none
  |some {k:= .int _, .. },some {k:= .str, .. },some (.v (.one (.int _ n)))=>k (.one (.str (Utf8.encode n).data.toList))
  |_,_,_=>none
 | .extract x i=>match ev c r 0 x with
  |some (.tup l)=>match l[i]? with
   |some v=>k (.v v)
   |none=>none
  |_=>none
 | .slice t x lo hi mx=>match evA c r t x with
  |some p=>qf c r m t p lo hi mx k
  |none=>none
 | .makeFunc (.func f) p q=>match p.toList,q.toList with
  | [], [] =>k (.one (.fnc f))
  |_,_=>none
 | .call {callee:= .builtin .len,args,argTypes}=>match args.toList,argTypes.toList with
  |[x],[t]=>match evA c r t x with
   |some p=>CX c m t p k
   |none=>none
  |_,_=>none
 | .call {callee:= .builtin .max,args,argTypes}=>match args.toList,argTypes.toList with
  |[x,y],[t,t']=>match evA c r t x,evA c r t' y with
   |some (.int .i64 p),some (.int .i64 q)=>k (.one (.int .i64 (max p q)))
   |_,_=>none
  |_,_=>none
 | .call {callee:= .value f,args,argTypes}=>match fk c r f,fw c r args.toList argTypes.toList with
  |some n,some as=>match look n c.spec with
   |some s=>dC m as λas'=>o8 s as' λy=>match Cs y,cR as with
    |true,_=>k y
    |false, [] =>k y
    |_,_=>none
   |none=>none
  |_,_=>none
 | .buildSlice t n parts=>match lG c r parts.toList with
  | [] =>match c.ti t with
   |some {k:= .slice τ e, .. }=>match c.ti e with
    |some te=>match (match Nat.ble (n*te.size) 16777216 with|true=>qB c r e te.size (mh te.zero.cells n) parts.toList|false=>none) with
     |some cells=>aj (mc τ n cells) λl=>k (.one (.sl τ l))
     |none=>none
    |none=>none
   |_=>none
  |_=>none
 |_=>none
end
noncomputable section
variable {R:Type}
def St.put (c:Cfg) (σ:St) (dst:Option Nat) (v:AV) (k:St->Option R):Option R:=
 match dst with
 |none=>k σ
 |some d=>match Nat.blt d c.N with
  |true=>match Nat.blt d OFF with
   |true=>k {az:=(d,v)::σ.az,mem:=σ.mem,nx:=σ.nx}
   |false=>none
  |false=>none
def St.new (σ:St) (b:AB):St:={az:=σ.az,mem:=(σ.nx,b)::σ.mem,nx:=σ.nx+1}
def St.set (σ:St) (id:Nat) (b:AB):St:={az:=σ.az,mem:=(id,b)::σ.mem,nx:=σ.nx}
def CL (id:Nat) (own:At) (sub:Nat->Nat->At):At->At
 | .own i=>match Nat.beq i id with|true=>own|false=> .own i
 | .sub i o n=>match Nat.beq i id with|true=>sub o n|false=> .sub i o n
 | .fB i a b=>match Nat.beq i id with|true=> .dead|false=> .fB i a b
 | .ptr i a=>match Nat.beq i id with|true=> .dead|false=> .ptr i a
 | .clo i=>match Nat.beq i id with|true=> .dead|false=> .clo i
 | .gp i=>match Nat.beq i id with|true=> .dead|false=> .gp i
 | .iter i=>match Nat.beq i id with|true=> .dead|false=> .iter i
 | .yld i=>match Nat.beq i id with|true=> .dead|false=> .yld i
 |x=>x
def GJ (f:At->At):V1->V1
 | .one x=> .one (f x)
 | .agg l=> .agg (l.map f)
def KX (f:At->At):AV->AV
 | .v x=> .v (GJ f x)
 | .tup l=> .tup (l.map (GJ f))
 | .undef=> .undef
 | .dead=> .dead
def j8 (f:At->At):cj->cj
 | [] => []
 |x::r=>(x.1,KX f x.2)::j8 f r
def BZ (f:At->At):AB->AB
 | .cells l=> .cells (l.map f)
 | .row τ l=> .row τ l
 | .clo g a b=> .clo g (a.map f) (b.map f)
 | .iter s p=> .iter s p
 | .oE x n=> .oE (f x) n
 | .loop ph n fid rid az=> .loop ph n fid rid (j8 f az)
 | .over e=> .over e
 | .map ag κ τ l ck=> .map ag κ τ l ck
 | .gone=> .gone
def jW (f:At->At):Mem->Mem
 | [] => []
 |x::r=>(x.1,BZ f x.2)::jW f r
def DJ {τ:Ty} (id:Nat) (l:List τ.T):At->At:=CL id (.sl τ l) λ_ _=> .dead
def yd (id:Nat):At->At:=CL id .dead λ_ _=> .dead
def freeze (id:Nat) (σ:St) (k:St->Option R):Option R:=
 match look id σ.mem with
 |some (.row τ l)=>k {az:=j8 (DJ id l) σ.az,mem:=(id, .gone)::jW (DJ id l) σ.mem,nx:=σ.nx}
 |_=>k σ
def fy:List Nat->St->(St->Option R)->Option R
 | [],σ,k=>k σ
 |id::l,σ,k=>freeze id σ λσ'=>fy l σ' k
def rewrite (id:Nat) (b:AB) (σ:St):St:={az:=j8 (yd id) σ.az,mem:=(id,b)::jW (yd id) σ.mem,nx:=σ.nx}
def uV (τ:Ty) (n nx:Nat):At:=match n with|0=> .clip τ [] |_=> .own nx
def storeAt (σ:St) (p:At) (v:V1) (k:St->Option R):Option R:=
 match p with
 | .ptr id off=>match look id σ.mem with
  |some (.cells l)=>match Nat.ble (off+v.cells.length) l.length with
   |true=>k (σ.set id (.cells (setCells l off v.cells)))
   |false=>none
  |_=>none
 | .fB id i j=>match look id σ.mem with
  |some (.row τ l)=>match Nat.ble (j+v.cells.length) τ.n with
   |true=>aj l[i]? λe=>aj (τ.qH (setCells (τ.enc e) j v.cells)) λe'=>k (σ.set id (.row τ (l.set i e')))
   |false=>none
  |_=>none
 |_=>none
def yx (c:Cfg) (o:Oper) (σ:St) (τ:Ty) (x:At) (ys:List τ.T) (k:St->Option R):Option R:=
 match x with
 | .clip τ' [] =>aj (dV τ' τ []) λl=>aS (l.length+ys.length) ((σ.new (.row τ ys)).put c o.dst (.one (.own σ.nx)) k)
 | .clip τ' (a::l)=>match ys with
  | [] =>none
  |y::ys=>aj (dV τ' τ (a::l)) λl=>aS (l.length+(y::ys).length) ((σ.new (.row τ (l++y::ys))).put c o.dst (.one (.own σ.nx)) k)
 | .own id=>match look id σ.mem with
  |some (.row τ' l)=>aj (dV τ' τ l) λl=>aS (l.length+ys.length) ((rewrite id (.row τ (l++ys)) σ).put c o.dst (.one (.own id)) k)
  |_=>none
 | .sub id off n=>match look id σ.mem with
  |some (.row τ' l)=>ah (Nat.ble (off+n+ys.length) l.length) (aj (dV τ' τ l) λl=>
   (σ.set id (.row τ (l.take (off+n)++(ys++l.drop (off+n+ys.length))))).put c o.dst (.one (.sub id off (n+ys.length))) k) none
  |_=>none
 |_=>none
def AF (c:Cfg) (o:Oper) (σ:St) (τ:Ty) (x:At) (z:τ.T) (n:Int) (k:St->Option R):Option R:=
 match x with
 | .sub id off m=>match look id σ.mem,jl σ.mem id σ.mem with
  |some (.row τ' l),some cp=>ah (decide (0<=n)) (aS (m+n.toNat) (ah (Nat.ble (off+m) l.length) (ah (Nat.blt (cp - off) (m+n.toNat))
   (aj (dV τ' τ l) λl=>(σ.new (.row τ ((l.drop off).take m++List.replicate n.toNat z))).put c o.dst (.one (.own σ.nx)) k) none) none)) none
  |_,_=>none
 | .clip τ' l=>ah (decide (0<n)) (aS (l.length+n.toNat) (aj (dV τ' τ l) λl=>(σ.new (.row τ (l++List.replicate n.toNat z))).put c o.dst (.one (.own σ.nx)) k)) none
 |_=>none
def ru (id:Nat):At->At
 | .own i=>match Nat.beq i id with|true=> .dead|false=> .own i
 |x=>x
def Iq (id:Nat) (b:AB) (σ:St):St:={az:=j8 (ru id) σ.az,mem:=(id,b)::jW (ru id) σ.mem,nx:=σ.nx}
def Gw (c:Cfg) (o:Oper) (σ:St) (τ0:Ty) (id off n id2 off2 n2:Nat) (k:St->Option R):Option R:=
 match look id σ.mem,look id2 σ.mem with
 |some (.row τ l),some (.row τ2 l2)=>match Nat.beq τ.n τ0.n with
  |true=>ah (Nat.ble (off2+min n2 n) l2.length) (ah (Nat.ble off l.length) (aj (dV τ2 τ l2) λl2=>
   ah (Nat.ble (off+min n2 n) l.length)
    ((σ.set id (.row τ (l.take off++((l2.drop off2).take (min n2 n)++l.drop (off+min n2 n))))).put c o.dst (.one (.int .i64 (min n2 n:Nat))) k)
    ((Iq id (.row τ (l.take off++(l2.drop off2).take (min n2 n))) σ).put c o.dst (.one (.int .i64 (min n2 n:Nat))) k)) none) none
  |false=>none
 |_,_=>none
def FC (c:Cfg) (o:Oper) (σ:St) (τ0:Ty) (z:List At) (x:At) (k:St->Option R):Option R:=
 match x with
 | .sub id off n=>match look id σ.mem with
  |some (.row τ l)=>match Nat.beq τ.n τ0.n with
   |true=>aj (τ.qH z) λz=>ah (Nat.ble (off+n) l.length)
    ((σ.set id (.row τ (l.take off++(List.replicate n z++l.drop (off+n))))).put c o.dst (.tup []) k) none
   |false=>none
  |_=>none
 |_=>none
def RN (c:Cfg) (o:Oper) (σ:St) (x:At) (k:St->Option R):Option R:=
 match x with
 | .own id=>match look id σ.mem with
  |some (.row _ l)=>Dl l.length λn=>(σ.new (.oE (.own id) n)).put c o.dst (.one (.int .i64 n)) k
  |_=>none
 | .clip _ l=>match c.Wy with|true=>σ.put c o.dst (.one (.int .i64 (l.length:Int))) k|false=>none
 |_=>none
def dJ (s:Str) (pos:Nat):Nat×Nat:=Utf8.decode ⟨s.toArray⟩ pos
def Lj (c:Cfg) (o:Oper) (σ:St) (x:At) (k:St->Option R):Option R:=
 match x with
 | .iter id=>match look id σ.mem with
  |some (.iter s pos)=>ah (Nat.blt pos s.length)
   ((σ.set id (.iter s (pos+(dJ s pos).2))).put c o.dst (.tup [.one (.bool true), .one (.int .i64 pos), .one (.int .i32 (dJ s pos).1)]) k)
   (σ.put c o.dst (.tup [.one (.bool false)]) k)
  |_=>none
 |_=>none
def B2 (c:Cfg) (o:Oper) (σ:St) (τ0:Ty) (x:At) (τ':Ty) (src:List τ'.T) (k:St->Option R):Option R:=
 match x with
 | .own id=>match look id σ.mem with
  |some (.row τ l)=>match Nat.beq τ.n τ0.n with
   |true=>aj (dV τ' τ src) λsrc=>
    (σ.set id (.row τ (src.take l.length++l.drop src.length))).put c o.dst (.one (.int .i64 (min src.length l.length:Nat))) k
   |false=>none
  |_=>none
 | .sub id off n=>match look id σ.mem with
  |some (.row τ l)=>match Nat.beq τ.n τ0.n with
   |true=>ah (Nat.ble (off+n) l.length) (aj (dV τ' τ src) λsrc=>
    (σ.set id (.row τ (l.take off++(src.take n++(l.drop off).drop (min src.length n))))).put c o.dst (.one (.int .i64 (min src.length n:Nat))) k) none
   |false=>none
  |_=>none
 |_=>none
def qP:List AV->Option (List At)
 | [] =>some []
 | .v (.one x)::l=>match qP l with
  |some r=>some (x::r)
  |none=>none
 |_=>none
def qO:(κ:Ty)->κ.T->κ.T->Bool
 | .int,(a:Int),(b:Int)=>a==b
 | .str,(a:Str),(b:Str)=>a==b
 |_,_,_=>false
def keyOf:(κ:Ty)->At->Option κ.T
 | .int, .int .i64 n=>some n
 | .str, .str s=>some s
 |_,_=>none
def LU:Ty->Ty->Bool
 | .int, .int=>true
 | .str, .str=>true
 |_,_=>false
def lO {κ τ:Ty} (key:κ.T):List (κ.T×τ.T×Nat)->(τ.T->Nat->Option R)->Option R->Option R
 | [],_,kn=>kn
 |x::l,kv,kn=>ah (qO κ x.1 key) (kv x.2.1 x.2.2) (lO key l kv kn)
def Fk {κ τ:Ty} (key:κ.T):List (κ.T×τ.T×Nat)->Bool
 | [] =>false
 |x::l=>match qO κ x.1 key with|true=>true|false=>Fk key l
def AS {κ τ:Ty} (key:κ.T) (v:τ.T) (ck:Nat):List (κ.T×τ.T×Nat)->List (κ.T×τ.T×Nat)
 | [] =>[(key,v,ck)]
 |x::l=>match qO κ x.1 key with|true=>(x.1,v,x.2.2)::l|false=>x::AS key v ck l
def Kw {κ τ:Ty} (key:κ.T) (ck:Nat) (l:List (κ.T×τ.T×Nat)):Nat:=match Fk key l with|true=>ck|false=>ck+1
def MY {κ τ:Ty} (b:Int) (v:τ.T):List (κ.T×τ.T×Nat)->Option (List (κ.T×τ.T×Nat))
 | [] =>none
 |x::l=>match ((x.2.2:Int)==b) with|true=>some ((x.1,v,x.2.2)::l) |false=>match MY b v l with|some l'=>some (x::l') |none=>none
def nM (ok:Bool) (y:V1) (b:Bool):AV:=match ok with|true=> .tup [y, .one (.bool b)] |false=> .v y
def sC (c:Cfg) (σ:St) (t:TypeId) (x:Operand) (i:Operand) (kk:(id:Nat)->(ag:Bool)->(κ τ:Ty)->List (κ.T×τ.T×Nat)->Nat->κ.T->TI->Option R):Option R:=
 match c.ti t with
 |some {k:= .map κ _ _ e, .. }=>match evA c σ.az 0 x,evA c σ.az 0 i,c.ti e with
  |some (.gp id),some ki,some te=>match look id σ.mem with
   |some (.map ag κ' τ l ck)=>match LU κ κ' with
    |true=>match keyOf κ' ki with
     |some key=>kk id ag κ' τ l ck key te
     |none=>none
    |false=>none
   |_=>none
  |_,_,_=>none
 |_=>none
def V1.is (ag:Bool):V1->Bool
 | .one _=> !ag
 | .agg _=>ag
def LI (c:Cfg) (r:cj):Option Operand->Bool
 |none=>true
 |some n=>match evA c r 0 n with
  |some (.int _ _)=>true
  |_=>false
def zQ (c:Cfg) (o:Oper) (σ:St) (t:TypeId) (n:Option Operand) (k:St->Option R):Option R:=
 match LI c σ.az n with
 |true=>match c.ti t with
  |some {k:= .map κ τ _ e, .. }=>match c.ti e with
   |some te=>(σ.new (.map te.agg κ τ [] 0)).put c o.dst (.one (.gp σ.nx)) k
   |none=>none
  |_=>none
 |false=>none
def yt (c:Cfg) (o:Oper) (σ:St) (t:TypeId) (x i:Operand) (ok:Bool) (k:St->Option R):Option R:=
 sC c σ t x i λid ag κ τ l ck key te=>lO key l (λv _=>aj (V1.dB ag (τ.enc v)) λy=>(σ.set id (.map ag κ τ l ck)).put c o.dst (nM ok y true) k) ((σ.set id (.map ag κ τ l ck)).put c o.dst (nM ok te.zero false) k)
def yz (c:Cfg) (o:Oper) (σ:St) (t:TypeId) (x i v:Operand) (k:St->Option R):Option R:=
 sC c σ t x i λid ag κ τ l ck key te=>match evV c σ.az 0 v with
  |some v=>match v.is ag,τ.qH v.cells with
   |true,some v=>(σ.set id (.map ag κ τ (AS key v ck l) (Kw key ck l))).put c o.dst .undef k
   |_,_=>none
  |none=>none
def Da (c:Cfg) (o:Oper) (σ:St) (t:TypeId) (x i:Operand) (k:St->Option R):Option R:=
 sC c σ t x i λid ag κ τ l ck key te=>lO key l (λv b=>aj (V1.dB ag (τ.enc v)) λy=>σ.put c o.dst (.tup [y, .one (.int .i64 b)]) k)
  (match te.zero.is ag with
   |true=>aj (τ.qH te.zero.cells) λz=>(σ.set id (.map ag κ τ (l++[(key,z,ck)]) (ck+1))).put c o.dst (.tup [te.zero, .one (.int .i64 ck)]) k
   |false=>none)
def HY (c:Cfg) (o:Oper) (σ:St) (t:TypeId) (x s v:Operand) (k:St->Option R):Option R:=
 match evA c σ.az 0 x,evA c σ.az 0 s,evV c σ.az 0 v with
  |some (.gp id),some (.int _ b),some v=>match look id σ.mem with
   |some (.map ag κ τ l ck)=>match v.is ag,τ.qH v.cells with
    |true,some v=>aj (MY b v l) λl'=>(σ.set id (.map ag κ τ l' ck)).put c o.dst .undef k
    |_,_=>none
   |_=>none
  |_,_,_=>none
def both (x y:Option R):Option R:=open Classical in if x=y then x else none
def C3:Operand->Bool
 | .const (.slice none 0 0)=>true
 |_=>false
def Kp (x:At) (k:Bool->Option R):Option R:=
 match x with
 | .sl _ l=>ah (List.isEmpty l) (both (k true) (k false)) (k false)
 | .clip _ l=>ah (List.isEmpty l) (both (k true) (k false)) (k false)
 |_=>none
def jX (c:Cfg) (o:Oper) (σ:St) (k:St->Option R):Option R:=
 match o.op with
 | .alloc t=>match c.ti t with
  |some ti=>(σ.new (.cells ti.zero.cells)).put c o.dst (.one (.ptr σ.nx 0)) k
  |none=>none
 | .box t x=>match evV c σ.az t x with
  |some v=>(σ.new (.cells v.cells)).put c o.dst (.one (.ptr σ.nx 0)) k
  |none=>none
 | .buildSlice t n parts=>fy (lG c σ.az parts.toList) σ λσ=>match c.ti t with
  |some {k:= .slice τ e, .. }=>match c.ti e with
   |some te=>match (match Nat.ble (n*te.size) 16777216 with|true=>qB c σ.az e te.size (mh te.zero.cells n) parts.toList|false=>none) with
    |some cells=>aj (mc τ n cells) λl=>(σ.new (.row τ l)).put c o.dst (.one (uV τ n σ.nx)) k
    |none=>none
   |none=>none
  |_=>none
 | .makeSlice t n m=>match c.ti t,evA c σ.az 0 n,evA c σ.az 0 m with
  |some {k:= .slice τ e, .. },some (.int _ a),some (.int _ b)=>match c.ti e with
   |some te=>ah (decide (0<=a/\a=b)) (aS a.toNat (aj (τ.qH te.zero.cells) λz=>(σ.new (.row τ (List.replicate a.toNat z))).put c o.dst (.one (.own σ.nx)) k)) none
   |none=>none
  |_,_,_=>none
 | .store t a x=>fy (lG c σ.az (match evA c σ.az 0 a with|some (.fB _ _ _)=>[(0,x)] |_=> [])) σ λσ=>match evA c σ.az 0 a,evV c σ.az t x,c.ti t with
  |some p,some v,some ti=>match Nat.beq v.cells.length ti.size with
   |true=>storeAt σ p v λσ'=>σ'.put c o.dst .undef k
   |false=>none
  |_,_,_=>none
 | .range t x=>match c.ti t,evA c σ.az t x with
  |some {k:= .str, .. },some (.str s)=>(σ.new (.iter s 0)).put c o.dst (.one (.iter σ.nx)) k
  |_,_=>none
 | .makeMap t n=>zQ c o σ t n k
 | .lookup t x i ok=>yt c o σ t x i ok k
 | .mapUpdate t x i v=>yz c o σ t x i v k
 | .insert t x i v=>yz c o σ t x i v k
 | .mapEntry t x i=>Da c o σ t x i k
 | .entryStore t x s v=>HY c o σ t x s v k
 | .next x true=>match evA c σ.az 0 x with
  |some x=>Lj c o σ x k
  |none=>none
 | .makeFunc (.func f) first captured=>match fw c σ.az first.toList [],fw c σ.az captured.toList [] with
  |some a,some b=>match qP a,qP b with
   |some a,some b=>(σ.new (.clo f a b)).put c o.dst (.one (.clo σ.nx)) k
   |_,_=>none
  |_,_=>none
 | .binOp op t x y _=>match C3 y,c.ti t,evA c σ.az t x with
  |true,some {k:= .slice _ _, .. },some p=>match op with
   | .eql=>Kp p λb=>σ.put c o.dst (.one (.bool b)) k
   | .neq=>Kp p λb=>σ.put c o.dst (.one (.bool (!b))) k
   |_=>none
  |_,_,_=>none
 | .call {callee:= .builtin .append,args,argTypes}=>match args.toList,argTypes.toList with
  |[x,y],[t,t']=>match c.ti t,Nat.beq t t' with
   |some {k:= .slice τ e, .. },true=>match c.ti e,evA c σ.az t x,evA c σ.az t y with
    |some _,some x,some y=>cg σ.mem y λτ' l=>aj (dV τ' τ l) λl=>yx c o σ τ x l k
    |_,_,_=>none
   |some {k:= .slice τ e, .. },false=>match c.ti t',c.ti e,evA c σ.az t x,evA c σ.az t' y with
    |some {k:= .int _, .. },some te,some x,some (.int _ n)=>aj (τ.qH te.zero.cells) λz=>AF c o σ τ x z n k
    |_,_,_,_=>none
   |_,_=>none
  |_,_=>none
 | .call {callee:= .builtin .cap,args,argTypes}=>match args.toList,argTypes.toList with
  |[x],[t]=>match c.ti t,evA c σ.az t x with
   |some {k:= .slice _ _, .. },some x=>RN c o σ x k
   |_,_=>none
  |_,_=>none
 | .call {callee:= .builtin .clear,args,argTypes}=>match args.toList,argTypes.toList with
  |[x],[t]=>match c.ti t,evA c σ.az t x with
   |some {k:= .slice τ e, .. },some x=>match c.ti e with
    |some te=>FC c o σ τ te.zero.cells x k
    |none=>none
   |_,_=>none
  |_,_=>none
 | .call {callee:= .builtin .copy,args,argTypes}=>match args.toList,argTypes.toList with
  |[x,y],[t,t']=>match c.ti t,Nat.beq t t' with
   |some {k:= .slice τ0 e, .. },true=>match evA c σ.az t x,evA c σ.az t y with
    |some (.sub id off n),some (.sub id2 off2 n2)=>Gw c o σ τ0 id off n id2 off2 n2 k
    |some x,some y=>cg σ.mem y λτ' src=>B2 c o σ τ0 x τ' src k
    |_,_=>none
   |_,_=>none
  |_,_=>none
 |_=>none
def yV (c:Cfg) (o:Oper) (f:Operand) (args:Array Operand) (ts:Array TypeId) (σ:St) (k:St->Option R):Option R:=
 match fk c σ.az f,fw c σ.az args.toList ts.toList with
 |some n,some as=>match look n c.spec with
  |some s=>dC σ.mem as λas'=>o8 s as' λy=>match Cs y with
   |true=>σ.put c o.dst y k
   |false=>fy (cR as) σ λσ'=>σ'.put c o.dst y k
  |none=>none
 |_,_=>none
def DI (n:Nat):AB->Option At
 | .row _ _=>some (.own n)
 | .map _ _ _ _ _=>some (.gp n)
 |_=>none
def Ty.flat:Ty->Bool
 | .aM=>false
 | .strs=>false
 |_=>true
def BO:AB->Bool
 | .row τ _=>τ.flat
 | .map _ _ τ _ _=>τ.flat
 |_=>false
def v8 (s:kx) (nx:Nat) (as:List AV) (k:At->AB->Option R):Option R:=
 match s.pat as with
 |some x=>aj (s.g x) λz=>match DI nx (s.enc z) with
  |some y=>k y (s.enc z)
  |none=>none
 |none=>none
def v_ (c:Cfg) (f:Operand) (args:Array Operand) (ts:Array TypeId) (r:cj) (m:Mem) (nx:Nat) (k:At->AB->Option R):Option R:=
 match fk c r f,fw c r args.toList ts.toList with
 |some n,some as=>match look n c.fresh with
  |some s=>dC m as λas'=>v8 s nx as' λy b=>match BO b||(cR as).isEmpty with
   |true=>k y b
   |false=>none
  |none=>none
 |_,_=>none
def vO (c:Cfg) (o:Oper) (f:Operand) (args:Array Operand) (ts:Array TypeId) (σ:St) (k:St->Option R):Option R:=
 v_ c f args ts σ.az σ.mem σ.nx λy b=>(σ.new b).put c o.dst (.one y) k
def Af (c:Cfg) (r:cj) (f:Operand):Bool:=
 match fk c r f with
 |some n=>match look n c.fresh with|some _=>true|none=>false
 |none=>false
abbrev Hnd (R:Type):=Option Nat->Nat->List AV->St->(AV->St->Option R)->Option R
def apart (m:Mem) (x y:At) (k:Option R):Option R:=
 match kh x,kh y with
 |[i],[j]=>match Nat.beq i j,look i m,look j m with
  |false,some (.row _ l),some (.row _ l')=>ah (Nat.blt 0 l.length) (ah (Nat.blt 0 l'.length) k none) none
  |_,_,_=>none
 | [],[j]=>match x,look j m with
  | .sl _ l,some (.row _ l')=>ah (Nat.blt 0 l.length) (ah (Nat.blt 0 l'.length) k none) none
  |_,_=>none
 |_,_=>none
def DD (H:Hnd R) (c:Cfg) (o:Oper) (f:Operand) (args:Array Operand) (ts:Array TypeId) (σ:St) (k:St->Option R):Option R:=
 match evA c σ.az 0 f,fw c σ.az args.toList ts.toList with
 |some (.fnc n),some as=>match vf n c.ovl with
  |true=>match as with
   |[.v (.one x), .v (.one y)]=>apart σ.mem x y (σ.put c o.dst (.one (.bool false)) k)
   |_=>none
  |false=>match Nat.blt n OFF with
   |true=>H o.dst n as σ λv σ'=>σ'.put c o.dst v k
   |false=>none
 |some (.clo id),some as=>match look id σ.mem with
  |some (.clo n first capt)=>match Nat.blt n OFF with
   |true=>H o.dst n (first.map AV.one++(as++capt.map AV.one)) σ λv σ'=>σ'.put c o.dst v k
   |false=>none
  |_=>none
 |some (.yld id),some as=>H o.dst (OFF+id) as σ λv σ'=>σ'.put c o.dst v k
 |_,_=>none
def ER (H:Hnd R) (c:Cfg) (o:Oper) (f:Operand) (args:Array Operand) (ts:Array TypeId) (σ:St) (k:St->Option R):Option R:=
 match Af c σ.az f with
 |true=>vO c o f args ts σ k
 |false=>DD H c o f args ts σ k
def Nn (c:Cfg) (r:cj) (f:Operand):Bool:=
 match fk c r f with
 |some n=>match look n c.spec with|some _=>true|none=>false
 |none=>false
def isQ (c:Cfg):Op->Bool
 | .move _| .assign _| .pick .. | .load .. | .nilCheck _| .fieldAddr .. | .field .. | .indexAddr .. | .index .. | .build .. | .unOp .. | .convert .. | .extract .. | .slice .. =>true
 | .binOp _ _ _ y _=> !(C3 y)
 | .makeFunc _ p q=>match p.toList,q.toList with| [], [] =>true|_,_=>false
 | .call {callee:= .builtin .len, .. }=>true
 | .call {callee:= .builtin .max, .. }=>true
 | .call {callee:= .value (.func n), .. }=>match look n c.spec with|some _=>true|none=>false
 | .call {callee:= .value (.tmp t), .. }=>match vf t c.cl with|true=>false|false=>true
 | .call {callee:= .value _, .. }=>true
 | .buildSlice .. =>c.qb
 |_=>false
def m_ (H:Hnd R) (c:Cfg) (o:Oper) (σ:St) (k:St->Option R):Option R:=
 match o.op with
 | .call {callee:= .value f,args,argTypes}=>ER H c o f args argTypes σ k
 |_=>jX c o σ k
def iA (H:Hnd R) (c:Cfg) (dr:Bool) (o:Oper) (σ:St) (k:St->Option R):Option R:=
 match dr,o.op with
 |false, .call {callee:= .value f,args,argTypes}=>match Nn c σ.az f with
  |true=>yV c o f args argTypes σ k
  |false=>ER H c o f args argTypes σ k
 |_,_=>match isQ c o.op with
  |true=>jY c σ.az σ.mem o λv=>σ.put c o.dst v k
  |false=>m_ H c o σ k
def dH (H:Hnd R) (c:Cfg) (dr:Bool) (ds:List (Option Nat)):List Oper->St->(St->Option R)->Option R
 | [],σ,k=>k σ
 |o::r,σ,k=>match o.guard with
  |none=>iA H c dr o σ λσ'=>dH H c dr ds r σ' k
  |some (j,want)=>match ds[j]? with
   |some (some d)=>match j_ d σ.az with
    |some (.v (.one (.bool b)))=>ah b
     (σ.put c (some d) (.one (.bool true)) λσ'=>match want with
      |true=>iA H c dr o σ' λσ''=>dH H c dr ds r σ'' k
      |false=>σ'.put c o.dst .undef λσ''=>dH H c dr ds r σ'' k)
     (σ.put c (some d) (.one (.bool false)) λσ'=>match want with
      |true=>σ'.put c o.dst .undef λσ''=>dH H c dr ds r σ'' k
      |false=>iA H c dr o σ' λσ''=>dH H c dr ds r σ'' k)
    |some .undef=>σ.put c o.dst .undef λσ''=>dH H c dr ds r σ'' k
    |_=>none
   |_=>none
def eu (e:Edge):Bool:=
 match e.ground with
 | .textOnly _=>false
 | .gcOnly _=>false
 |_=>true
def rH (acc:List Nat) (o:Oper):Nat:=
 o.after.toList.foldl (λs e=>match eu e with|true=>(s|||2^e.on)|||acc.getD e.on 0|false=>s) 0
def kb (acc:List Nat):List Oper->List Nat
 | [] =>acc
 |o::r=>kb (acc++[rH acc o]) r
def fv (o:Oper):List Nat:=o.op.operands.toList.filterMap λ| .tmp t=>some t|_=>none
def gK (ds:List (Option Nat)) (o:Oper):List Nat:=
 match o.guard with
 |none=>fv o
 |some (j,_)=>match ds[j]? with
  |some (some d)=>d::fv o
  |_=>fv o
def xj (d:Option Nat) (l:List Nat):Bool:=
 match d with
 |none=>false
 |some d=>vf d l
def yi:Option Nat->Option Nat->Bool
 |some a,some b=>Nat.beq a b
 |_,_=>false
def nV (c:Cfg) (ds:List (Option Nat)) (x y:Oper):Bool:=
 match isQ c x.op,isQ c y.op with
 |true,true=>xj x.dst (gK ds y)||(xj y.dst (gK ds x)||yi x.dst y.dst)
 |_,_=>true
def zz (c:Cfg) (ds:List (Option Nat)) (i:Nat) (x:Oper):List (Oper×Nat)->Bool
 | [] =>true
 |y::l=>match nV c ds x y.1 with
  |true=>match Nat.testBit y.2 i with|true=>zz c ds i x l|false=>false
  |false=>zz c ds i x l
def I2 (c:Cfg) (ds:List (Option Nat)):Nat->List (Oper×Nat)->Bool
 |_, [] =>true
 |i,x::l=>match zz c ds i x.1 l with|true=>I2 c ds (i+1) l|false=>false
def h_:Nat->List Oper->Bool
 |_, [] =>true
 |i,o::r=>match o.after.toList.all (λe=>match eu e with|true=>Nat.blt e.on i|false=>true) with|true=>h_ (i+1) r|false=>false
def sw (c:Cfg) (ops:List Oper):Bool:=match h_ 0 ops with|true=>I2 c (ops.map (·.dst)) 0 (ops.zip (kb [] ops)) |false=>false
def ff:At->List Nat
 | .own i=>[i]
 | .sub i _ _=>[i]
 | .ptr i _=>[i]
 | .fB i _ _=>[i]
 | .clo i=>[i]
 | .gp i=>[i]
 | .iter i=>[i]
 | .yld i=>[i]
 |_=> []
def uS (mem:List Nat):List At->Bool
 | [] =>true
 |x::l=>match (ff x).all (λi=>vf i mem) with|true=>uS mem l|false=>false
def LD (mem:List Nat):V1->Bool
 | .one x=>uS mem [x]
 | .agg l=>uS mem l
def Nl (mem:List Nat):AV->Bool
 | .v x=>LD mem x
 | .tup l=>l.all (LD mem)
 |_=>true
def Pq (mem:List Nat):AB->Bool
 | .cells l=>uS mem l
 | .clo _ a b=>match uS mem a with|true=>uS mem b|false=>false
 | .oE x _=>uS mem [x]
 | .loop _ _ _ _ az=>az.all λx=>Nl mem x.2
 |_=>true
def isW (c:Cfg):Op->Bool
 | .alloc _| .box .. | .buildSlice .. | .makeSlice .. | .store .. | .lookup .. =>true
 | .call {callee:= .builtin .copy, .. }=>true
 | .call {callee:= .builtin .append, .. }=>true
 | .call {callee:= .value (.func n), .. }=>match look n c.fresh,look n c.gns with|none,none=>false|_,_=>true
 |_=>false
def vV:V1->List Nat
 | .one x=>ff x
 | .agg l=>l.flatMap ff
def qA:AV->List Nat
 | .v x=>vV x
 | .tup l=>l.flatMap vV
 |_=> []
def vY:Op->Bool
 | .load .. | .indexAddr .. | .convert .. | .slice .. | .call .. =>true
 |_=>false
def jb (r:cj) (o:Oper):List Nat:=match vY o.op with
 |true=>(fv o).flatMap λt=>match look t r with|some v=>qA v|none=> []
 |false=> []
def rk (m:Mem) (p:At) (v:V1) (k:Nat->AB->Option R):Option R:=
 match p with
 | .ptr id off=>match look id m with
  |some (.cells l)=>match Nat.ble (off+v.cells.length) l.length with
   |true=>k id (.cells (setCells l off v.cells))
   |false=>none
  |_=>none
 | .fB id i j=>match look id m with
  |some (.row τ l)=>match Nat.ble (j+v.cells.length) τ.n with
   |true=>aj l[i]? λe=>aj (τ.qH (setCells (τ.enc e) j v.cells)) λe'=>k id (.row τ (l.set i e'))
   |false=>none
  |_=>none
 |_=>none
def ss (m:Mem) (τ0:Ty) (x:At) (τ':Ty) (src:List τ'.T) (k:AV->Nat->AB->Option R):Option R:=
 match x with
 | .own id=>match look id m with
  |some (.row τ l)=>match Nat.beq τ.n τ0.n with
   |true=>aj (dV τ' τ src) λsrc=>k (.one (.int .i64 (min src.length l.length:Nat))) id (.row τ (src.take l.length++l.drop src.length))
   |false=>none
  |_=>none
 | .sub id off n=>match look id m with
  |some (.row τ l)=>match Nat.beq τ.n τ0.n with
   |true=>ah (Nat.ble (off+n) l.length) (aj (dV τ' τ src) λsrc=>k (.one (.int .i64 (min src.length n:Nat))) id (.row τ (l.take off++(src.take n++(l.drop off).drop (min src.length n))))) none
   |false=>none
  |_=>none
 |_=>none
def sP (id:Nat) (σ:St):St:={az:=σ.az,mem:=(id, .gone)::σ.mem,nx:=σ.nx}
def yk (c:Cfg) (r:cj) (f:Operand):Bool:=
 match fk c r f with
 |some n=>match look n c.gns with|some _=>true|none=>false
 |none=>false
def uG (c:Cfg) (f:Operand) (args:Array Operand) (ts:Array TypeId) (r:cj) (m:Mem) (k:AV->Nat->Option R):Option R:=
 match fk c r f,fw c r args.toList ts.toList with
 |some n,some as=>match look n c.gns with
  |some s=>match cR as with
   |[id]=>dC m as λas'=>o8 s as' λy=>k y id
   |_=>none
  |none=>none
 |_,_=>none
def Jq (τ:Ty) (m:Mem) (x:At) (nx:Nat) (ys:List τ.T) (k:AV->Nat->AB->Bool->Option R):Option R:=
 match x with
 | .clip τ' [] =>aj (dV τ' τ []) λl=>aS (l.length+ys.length) (k (.one (.own nx)) nx (.row τ ys) true)
 | .own id=>match look id m with
  |some (.row τ' l)=>aj (dV τ' τ l) λl=>aS (l.length+ys.length) (k (.one (.sl τ (l++ys))) id .gone false)
  |_=>none
 |_=>none
def BJ (c:Cfg) (o:Oper) (σ:St) (k:St->Option R):Option R:=
 match o.op with
 | .call {callee:= .builtin .append,args,argTypes}=>match args.toList,argTypes.toList with
  |[x,y],[t,t']=>match c.ti t,Nat.beq t t' with
   |some {k:= .slice τ e, .. },true=>match c.ti e,evA c σ.az t x,evA c σ.az t y with
    |some _,some (.own id),some y=>cg σ.mem y λτ' ys=>aj (dV τ' τ ys) λys=>match look id σ.mem with
     |some (.row τ' l)=>aj (dV τ' τ l) λl=>aS (l.length+ys.length) ((sP id σ).put c o.dst (.one (.sl τ (l++ys))) k)
     |_=>none
    |_,_,_=>none
   |_,_=>none
  |_,_=>none
 | .call {callee:= .value f,args,argTypes}=>uG c f args argTypes σ.az σ.mem λy id=>(sP id σ).put c o.dst y k
 |_=>none
def AW (c:Cfg) (o:Oper) (r:cj) (m:Mem) (nx:Nat) (k:AV->Nat->AB->Bool->Option R):Option R:=
 match o.op with
 | .alloc t=>match c.ti t with
  |some ti=>k (.one (.ptr nx 0)) nx (.cells ti.zero.cells) true
  |none=>none
 | .box t x=>match evV c r t x with
  |some v=>k (.one (.ptr nx 0)) nx (.cells v.cells) true
  |none=>none
 | .buildSlice t n parts=>match lG c r parts.toList with
  | [] =>match c.ti t with
   |some {k:= .slice τ e, .. }=>match c.ti e with
    |some te=>match (match Nat.ble (n*te.size) 16777216 with|true=>qB c r e te.size (mh te.zero.cells n) parts.toList|false=>none) with
     |some cells=>aj (mc τ n cells) λl=>k (.one (uV τ n nx)) nx (.row τ l) true
     |none=>none
    |none=>none
   |_=>none
  |_=>none
 | .makeSlice t n q=>match c.ti t,evA c r 0 n,evA c r 0 q with
  |some {k:= .slice τ e, .. },some (.int _ a),some (.int _ b)=>match c.ti e with
   |some te=>ah (decide (0<=a/\a=b)) (aS a.toNat (aj (τ.qH te.zero.cells) λz=>k (.one (.own nx)) nx (.row τ (List.replicate a.toNat z)) true)) none
   |none=>none
  |_,_,_=>none
 | .store t a x=>match lG c r (match evA c r 0 a with|some (.fB _ _ _)=>[(0,x)] |_=> []) with
  | [] =>match evA c r 0 a,evV c r t x,c.ti t with
   |some p,some v,some ti=>match Nat.beq v.cells.length ti.size with
    |true=>rk m p v λid b=>k .undef id b false
    |false=>none
   |_,_,_=>none
  |_=>none
 | .call {callee:= .builtin .copy,args,argTypes}=>match args.toList,argTypes.toList with
  |[x,y],[t,t']=>match c.ti t,Nat.beq t t' with
   |some {k:= .slice τ0 e, .. },true=>match evA c r t x,evA c r t y with
    |some (.sub _ _ _),some (.sub _ _ _)=>none
    |some x,some y=>cg m y λτ' src=>ss m τ0 x τ' src λy id b=>k y id b false
    |_,_=>none
   |_,_=>none
  |_,_=>none
 | .call {callee:= .value f,args,argTypes}=>match yk c r f with
  |true=>uG c f args argTypes r m λy id=>k y id .gone false
  |false=>v_ c f args argTypes r m nx λy b=>k (.one y) nx b true
 | .call {callee:= .builtin .append,args,argTypes}=>match args.toList,argTypes.toList with
  |[x,y],[t,t']=>match c.ti t,Nat.beq t t' with
   |some {k:= .slice τ e, .. },true=>match c.ti e,evA c r t x,evA c r t y with
    |some _,some x,some y=>cg m y λτ' ys=>aj (dV τ' τ ys) λys=>Jq τ m x nx ys k
    |_,_,_=>none
   |_,_=>none
  |_,_=>none
 | .lookup t x i ok=>sC c {az:=r,mem:=m,nx:=nx} t x i λid ag κ τ l ck key te=>lO key l (λv _=>aj (V1.dB ag (τ.enc v)) λy=>k (nM ok y true) id (.map ag κ τ l ck) false) (k (nM ok te.zero false) id (.map ag κ τ l ck) false)
 |_=>none
def zF (up:Bool) (n:Nat):Nat:=match up with|true=>n+1|false=>n
def mq:Option AB->Bool
 |some (.oE _ _)=>true
 |_=>false
def lQ (ds:List (Option Nat)) (x y:Oper):Bool:=xj x.dst (gK ds y)||(xj y.dst (gK ds x)||yi x.dst y.dst)
abbrev Item:=Oper×Nat×Bool
def oB (c:Cfg) (ds:List (Option Nat)) (x y:Item):Bool:=
 match isQ c x.1.op||x.2.2,isQ c y.1.op||y.2.2,isQ c x.1.op||isQ c y.1.op with
 |true,true,true=>lQ ds x.1 y.1
 |_,_,_=>true
def vq (c:Cfg) (ds:List (Option Nat)) (i:Nat) (x:Item):List Item->Bool
 | [] =>true
 |y::l=>match oB c ds x y with
  |true=>match Nat.testBit y.2.1 i with|true=>vq c ds i x l|false=>false
  |false=>vq c ds i x l
def CP (c:Cfg) (ds:List (Option Nat)):Nat->List Item->Bool
 |_, [] =>true
 |i,x::l=>match vq c ds i x l with|true=>CP c ds (i+1) l|false=>false
def Is:Nat->Nat->Bool
 |_,0=>true
 |b,n+1=>match Nat.testBit b n with|true=>Is b n|false=>false
def tW (c:Cfg):Nat->List (Oper×Nat)->List Item
 |_, [] => []
 |i,x::l=>(x.1,x.2,(match isQ c x.1.op,isW c x.1.op,x.1.guard with|false,true,none=> !(Is x.2 i&&l.all λy=>Nat.testBit y.2 i) |_,_,_=>false))::tW c (i+1) l
def fl (c:Cfg) (ops:List Oper):List Item:=tW c 0 (ops.zip (kb [] ops))
def wv (c:Cfg) (ops:List Oper):Bool:=match h_ 0 ops with|true=>CP c (ops.map (·.dst)) 0 (fl c ops) |false=>false
def Bc (H:Hnd R) (c:Cfg) (ds:List (Option Nat)):List Item->Nat->List (Nat×List Nat)->List (Nat×Nat)->St->(St->Option R)->Option R
 | [],_,_,_,σ,k=>k σ
 |(o,bef,lo)::l,i,T,U,σ,k=>match isQ c o.op with
  |true=>match U.all (λj=>Nat.testBit bef j.1|| !(vf j.2 (jb σ.az o))) with
   |true=>dH H c true ds [o] σ λσ'=>Bc H c ds l (i+1) ((i,jb σ.az o)::T) U σ' k
   |false=>none
  |false=>match lo with
   |true=>AW c o σ.az σ.mem σ.nx λy id b up=>match T.all (λx=>Nat.testBit bef x.1|| !(vf id x.2)),mq (look id σ.mem)||mq (some b) with
    |true,false=>St.put c {az:=σ.az,mem:=(id,b)::σ.mem,nx:=zF up σ.nx} o.dst y λσ'=>Bc H c ds l (i+1) T ((i,id)::U) σ' k
    |_,_=>none
   |false=>dH H c true ds [o] σ λσ'=>Bc H c ds l (i+1) [] [] σ' k
def qS (mem:List Nat) (r:cj):List Nat->Option cj
 | [] =>some []
 |n::l=>match look n r,qS mem r l with
  |some v,some r'=>match Nl mem v with|true=>some ((n,v)::r') |false=>none
  |_,_=>none
def vt (mem:List Nat) (m:Mem):List Nat->Option Mem
 | [] =>some []
 |n::l=>match look n m,vt mem m l with
  |some b,some m'=>match Pq mem b with|true=>some ((n,b)::m') |false=>none
  |_,_=>none
def wc:List (Nat×Nat×Ty)->St->Option St
 | [],σ=>some σ
 |(r,id,τ)::l,σ=>match look r σ.az with
  |some (.v (.one (.own i)))=>match Nat.beq i id with|true=>wc l σ|false=>none
  |some (.v (.one (.clip τ' [])))=>match dV τ' τ [],Nat.ble σ.nx id with
   |some _,true=>wc l {az:=(r, .one (.own id))::σ.az,mem:=(id, .row τ [])::σ.mem,nx:=id+1}
   |_,_=>none
  |_=>none
def wF:List (Nat×Nat×Nat×Ty)->St->Option St
 | [],σ=>some σ
 |(bk,j,id,τ)::l,σ=>match look bk σ.mem with
  |some (.cells cs)=>match cs[j]? with
   |some (.own i)=>match Nat.beq i id with|true=>wF l σ|false=>none
   |some (.clip τ' [])=>match dV τ' τ [],Nat.ble σ.nx id with
    |some _,true=>wF l {az:=σ.az,mem:=(bk, .cells (cs.set j (.own id)))::(id, .row τ [])::σ.mem,nx:=id+1}
    |_,_=>none
   |_=>none
  |_=>none
def wL:List (Nat×Nat×Ty)->St->Option St
 | [],σ=>some σ
 |(r,id,τ)::l,σ=>match look r σ.az with
  |some (.v (.one (.sub i _ _)))=>match Nat.beq i id with|true=>wL l σ|false=>none
  |some (.v (.one (.clip τ' [])))=>match dV τ' τ [],Nat.ble σ.nx id with
   |some _,true=>wL l {az:=(r, .one (.sub id 0 0))::σ.az,mem:=(id, .row τ [])::σ.mem,nx:=id+1}
   |_,_=>none
  |_=>none
def EX:List Nat->St->Option St
 | [],σ=>some σ
 |r::l,σ=>match look r σ.az with
  |some (.v (.one x))=>EX l {az:=(r, .one (iF x))::σ.az,mem:=σ.mem,nx:=σ.nx}
  |_=>none
def Ft:List Nat->St->Option St
 | [],σ=>some σ
 |id::l,σ=>match look id σ.mem with
  |some (.cells cs)=>Ft l (σ.set id (.cells (cs.map iF)))
  |_=>none
def coerce (a:Ann) (σ:St):Option St:=
 match wL a.il σ with
 |none=>none
 |some σ=>match wc a.rows σ with
 |some σ=>match wF a.aoP σ with
  |some σ=>match EX a.sls σ with
   |some σ=>Ft a.slm σ
   |none=>none
  |none=>none
 |none=>none
def Cv (a:Ann) (σ:St):Option St:=
 match coerce a σ with
 |some σ=>match qS a.mem σ.az a.az,vt a.mem σ.mem a.mem,a.mem.all (λi=>Nat.blt i a.nx) with
  |some r,some m,true=>some {az:=r,mem:=m,nx:=a.nx}
  |_,_,_=>none
 |none=>none
def mi (a:Option Ann) (σ:St) (k:St->Option R):Option R:=
 match a with
 |none=>k σ
 |some a=>match Cv a σ with
  |some σ'=>k σ'
  |none=>none
def bl:Code->Nat
 | .region id _ _=>id
 | .seq a _=>bl a
 | .block _ b=>bl b
 | .loop b=>bl b
 | .scope b=>bl b
 |_=>1000000
def qQ (body:St->(Ex->St->Option R)->Option R) (a:Option Ann):Nat->St->(Ex->St->Option R)->Option R
 |0,_,_=>none
 |n+1,σ,K=>body σ λe σ'=>match e with
  | .normal=>mi a σ' λσ''=>qQ body a n σ'' K
  | .exit i=>K (.exit i) σ'
  | .goto l=>K (.goto l) σ'
  | .ret=>K .ret σ'
abbrev Hd (R:Type):=St->(Ex->St->Option R)->Option R
def D1 (c:Cfg) (id:Nat) (σ:St) (K:Ex->St->Option R):Option R:=
 match look id σ.mem with
 |some (.loop true _ _ _ _)=>K .normal (σ.set id .gone)
 |some (.over (.exit i))=>mi (look i c.blocks) (σ.set id .gone) λσ'=>K (.exit i) σ'
 |some (.over .ret)=>mi c.fq (σ.set id .gone) λσ'=>K .ret σ'
 |_=>none
def o3 (r:cj):List Nat->cj
 | [] => []
 |t::l=>match j_ t r with|some x=>(t,x)::o3 r l|none=>o3 r l
def saved (c:Cfg) (rid:Nat) (r:cj):cj:=match look rid c.Iv with|some l=>o3 r l|none=> []
def F1 (H:Hnd R) (c:Cfg) (f:Operand) (body:Code) (σ:St) (K:Ex->St->Option R):Option R:=
 match c.rnd with
 |true=>none
 |false=>match evA c σ.az 0 f with
  |some (.fnc n)=>match Nat.blt n OFF with
   |true=>H (some (OFF+bl body)) n [.one (.yld σ.nx)] (σ.new (.loop true c.N c.fid (bl body) (saved c (bl body) σ.az))) λ_ σ'=>D1 c σ.nx σ' K
   |false=>none
  |some (.clo id)=>match look id σ.mem with
   |some (.clo n first capt)=>match Nat.blt n OFF with
    |true=>H (some (OFF+bl body)) n (first.map AV.one++(AV.one (.yld σ.nx)::capt.map AV.one)) (σ.new (.loop true c.N c.fid (bl body) (saved c (bl body) σ.az))) λ_ σ'=>D1 c σ.nx σ' K
    |false=>none
   |_=>none
  |_=>none
def run (H:Hnd R) (c:Cfg) (lp:List (Nat×Hd R)):Code->St->(Ex->St->Option R)->Option R
 | .skip,σ,K=>K .normal σ
 | .region _ ops draw,σ,K=>match draw with
  |false=>dH H c false (ops.toList.map (·.dst)) ops.toList σ λσ'=>K .normal σ'
  |true=>match sw c ops.toList with
   |true=>dH H c true (ops.toList.map (·.dst)) ops.toList σ λσ'=>K .normal σ'
   |false=>match wv c ops.toList with
    |true=>Bc H c (ops.toList.map (·.dst)) (fl c ops.toList) 0 [] [] σ λσ'=>K .normal σ'
    |false=>none
 | .seq a b,σ,K=>run H c lp a σ λe σ'=>match e with
  | .normal=>mi (look (bl b) c.ZA) σ' λσ''=>run H c lp b σ'' K
  | .exit i=>K (.exit i) σ'
  | .goto l=>K (.goto l) σ'
  | .ret=>K .ret σ'
 | .cond x a b,σ,K=>match ev c σ.az 0 x with
  |some (.v (.one (.bool t)))=>ah t (run H c lp a σ K) (run H c lp b σ K)
  |_=>none
 | .block id b,σ,K=>run H c lp b σ λe σ'=>match e with
  | .normal=>mi (look id c.blocks) σ' λσ''=>K .normal σ''
  | .exit i=>match Nat.beq i id with
   |true=>K .normal σ'
   |false=>K (.exit i) σ'
  | .goto l=>K (.goto l) σ'
  | .ret=>K .ret σ'
 | .loop b,σ,K=>mi (look (bl b) c.loops) σ λσ'=>match look (bl b) lp with
  |some h=>h σ' K
  |none=>qQ (run H c lp b) (look (bl b) c.loops) c.fuel σ' K
 | .exit i,σ,K=>mi (look i c.blocks) σ λσ'=>K (.exit i) σ'
 | .ret,σ,K=>mi c.fq σ λσ'=>K .ret σ'
 | .scope b,σ,K=>run H c lp b σ λe σ'=>match e with
  | .normal=>K .normal σ'
  | .exit i=>K (.exit i) σ'
  | .goto _=>none
  | .ret=>K .ret σ'
 | .label _,σ,K=>K .normal σ
 | .rangeFunc f _ _ body,σ,K=>F1 H c f body σ K
 |_,_,_=>none
def H_ (c:Cfg) (σ:St):List ResultVar->(List V1->Option R)->Option R
 | [],k=>k []
 | .tmp t::l,k=>match j_ t σ.az with
  |some (.v x)=>jk σ.mem (.v x) λy=>match y with
   | .v y=>H_ c σ l λr=>k (y::r)
   |_=>none
  |_=>none
 | .cell a t::l,k=>match j_ a σ.az,c.ti t with
  |some (.v (.one p)),some ti=>js σ.mem p ti.size λcs=>ji σ.mem cs λcs=>match V1.dB ti.agg cs with
   |some y=>H_ c σ l λr=>k (y::r)
   |none=>none
  |_,_=>none
def I4:List V1->AV
 |[x]=> .v x
 |l=> .tup l
def Dc (c:Cfg) (σ:St):List ResultVar->(List V1->Option R)->Option R
 | [],k=>k []
 | .tmp t::l,k=>match j_ t σ.az with
  |some (.v x)=>Dc c σ l λr=>k (x::r)
  |_=>none
 | .cell a t::l,k=>match j_ a σ.az,c.ti t with
  |some (.v (.one p)),some ti=>js σ.mem p ti.size λcs=>match V1.dB ti.agg cs with
   |some y=>Dc c σ l λr=>k (y::r)
   |none=>none
  |_,_=>none
def qg:cj->cj
 | [] => []
 |x::r=>(x.1+OFF,x.2)::qg r
def gT:cj->cj
 | [] => []
 |x::r=>match Nat.ble OFF x.1 with
  |true=>(x.1 - OFF,x.2)::gT r
  |false=>gT r
def iI:Nat->List AV->cj
 |_, [] => []
 |n,x::l=>(n,x)::iI (n+1) l
def Mi (c:Cfg) (res:List ResultVar) (dec:AV->Option R) (σ:St):Option R:=
 H_ c σ res λl=>match l with
  |[x]=>dec (.v x)
  |l=>dec (.tup l)
inductive Inl (R:Type) where
 |mk (fid:Nat) (cfg:Cfg) (lp:List (Nat×Hd R)) (body:Code) (res:List ResultVar) (il:List (Nat×Inl R))
 |rnd (fid rid:Nat) (cfg:Cfg) (lp:List (Nat×Hd R)) (ps:List Nat) (assign body:Code) (il:List (Nat×Inl R))
def zi (N:Nat):List Nat->List AV->cj->Option cj
 | [], [],r=>some r
 |p::ps,x::xs,r=>match Nat.blt p N with|true=>zi N ps xs ((p,x)::r) |false=>none
 |_,_,_=>none
def zh (id:Nat) (k:AV->St->Option R):Ex->St->Option R
 | .normal,σ=>match look id σ.mem with
  |some (.loop false nn f r az)=>k (.one (.bool true)) {az:=gT σ.az,mem:=(id, .loop true nn f r az)::σ.mem,nx:=σ.nx}
  |_=>none
 | .exit i,σ=>match look id σ.mem with
  |some (.loop false _ _ _ _)=>k (.one (.bool false)) {az:=gT σ.az,mem:=(id, .over (.exit i))::σ.mem,nx:=σ.nx}
  |_=>none
 | .ret,σ=>match look id σ.mem with
  |some (.loop false _ _ _ _)=>k (.one (.bool false)) {az:=gT σ.az,mem:=(id, .over .ret)::σ.mem,nx:=σ.nx}
  |_=>none
 | .goto _,_=>none
def UZ (ra rb:St->(Ex->St->Option R)->Option R) (cfg:Cfg) (fid rid:Nat) (ps:List Nat) (id:Nat) (as:List AV) (σ:St) (k:AV->St->Option R):Option R:=
 match look id σ.mem with
 |some (.loop true nn f r az)=>match Nat.beq f fid,Nat.beq r rid,Nat.beq nn cfg.N,Nat.ble nn OFF,cfg.rnd,zi nn ps as az with
  |true,true,true,true,true,some regs1=>ra {az:=regs1++qg σ.az,mem:=σ.mem,nx:=σ.nx} λe σ1=>match e with
   | .normal=>match look id σ1.mem with
    |some (.loop true nn' f' r' regs')=>rb (σ1.set id (.loop false nn' f' r' regs')) λe σ2=>zh id k e σ2
    |_=>none
   |_=>none
  |_,_,_,_,_,_=>none
 |_=>none
def hnd:Nat->List (Nat×Inl R)->Hnd R
 |0,_=>λ_ _ _ _ _=>none
 |d+1,il=>λdst n as σ k=>match dst with
  |none=>none
  |some t=>match look t il with
   |none=>none
   |some (.rnd fid rid cfg lp ps assign body subs')=>match Nat.ble OFF n with
    |true=>UZ (run (hnd d subs') cfg lp assign) (run (hnd d subs') cfg lp body) cfg fid rid ps (n - OFF) as σ k
    |false=>none
   |some (.mk fid cfg lp body res subs')=>match Nat.beq fid n,Nat.ble as.length cfg.N,Nat.ble cfg.N OFF,Nat.blt n OFF with
    |true,true,true,true=>run (hnd d subs') cfg lp body {az:=iI 0 as++qg σ.az,mem:=σ.mem,nx:=σ.nx} λe σ'=>match e with
     | .normal=>Dc cfg σ' res λl=>k (I4 l) {az:=gT σ'.az,mem:=σ'.mem,nx:=σ'.nx}
     | .ret=>Dc cfg σ' res λl=>k (I4 l) {az:=gT σ'.az,mem:=σ'.mem,nx:=σ'.nx}
     |_=>none
    |_,_,_,_=>none
def D3 (H:Hnd R) (c:Cfg) (lp:List (Nat×Hd R)) (body:Code) (res:List ResultVar) (args:List AV) (dec:AV->Option R):Option R:=
 run H c lp body {az:=iI 0 args,mem:= [],nx:=0} λe σ=>match e with
  | .normal=>Mi c res dec σ
  | .ret=>Mi c res dec σ
  |_=>none
end
end Go.Eng
namespace Go.Eng
open Go Go.RowKit
structure Gb where
 blk:Option Nat
 ln:Nat
 cp:Nat
 sz:Nat
 val:Value
structure Gh where
 S:Nat->Prop
 m:Nat->Option Gb
inductive VA (g:Gh) (w:World):At->Value->Prop where
 |int (k:IntKind) (n:Int):VA g w (.int k n) (.int k n)
 |bool (b:Bool):VA g w (.bool b) (.bool b)
 |str (s:Str) (b:ByteArray) (h:b.data.toList=s):VA g w (.str s) (.string b)
 |sl (τ:Ty) (l:List τ.T) (a:Option Addr) (n c bk of:Nat) (f:Nat->Nat->Value) (hn:n=l.length) (hc:n<=c)
  (ha:l≠ [] ->a=some ⟨bk,of,none⟩/\g.S bk)
  (hcell:∀i j,i<l.length->j<τ.n->w.cell? ⟨bk,of+(i*τ.n+j),none⟩=some (f i j))
  (hf:∀i x j y,l[i]? =some x->(τ.enc x)[j]? =some y->VA g w y (f i j)):VA g w (.sl τ l) (.slice a n c)
 |clip (τ:Ty) (l:List τ.T) (a:Option Addr) (n bk of:Nat) (f:Nat->Nat->Value) (hn:n=l.length)
  (ha:l≠ [] ->a=some ⟨bk,of,none⟩/\g.S bk)
  (hcell:∀i j,i<l.length->j<τ.n->w.cell? ⟨bk,of+(i*τ.n+j),none⟩=some (f i j))
  (hf:∀i x j y,l[i]? =some x->(τ.enc x)[j]? =some y->VA g w y (f i j)):VA g w (.clip τ l) (.slice a n n)
 |own (id:Nat) (b:Gb) (a:Option Addr) (hm:g.m id=some b) (hk:∀k,b.blk=some k->a=some ⟨k,0,none⟩) (h0:b.blk=none->b.cp=0/\b.ln=0):VA g w (.own id) (.slice a b.ln b.cp)
 |sub (id off len:Nat) (b:Gb) (a:Option Addr) (c:Nat) (hm:g.m id=some b) (hl:off+len<=b.cp) (hc:c=b.cp - off)
  (hk:c≠0->∃k,b.blk=some k/\a=some ⟨k,off*b.sz,none⟩):VA g w (.sub id off len) (.slice a len c)
 |ptr (id off:Nat) (b:Gb) (k:Nat) (hm:g.m id=some b) (hk:b.blk=some k):VA g w (.ptr id off) (.pointer (some ⟨k,off,none⟩))
 |fB (id i j:Nat) (b:Gb) (k:Nat) (hm:g.m id=some b) (hk:b.blk=some k):VA g w (.fB id i j) (.pointer (some ⟨k,i*b.sz+j,none⟩))
 |gQ (τ:Ty) (x:τ.T) (j bk of:Nat) (f:Nat->Value) (ha:g.S bk)
  (hcell:∀i,i<τ.n->w.cell? ⟨bk,of+i,none⟩=some (f i))
  (hf:∀i y,(τ.enc x)[i]? =some y->VA g w y (f i)):VA g w (.gQ τ x j) (.pointer (some ⟨bk,of+j,none⟩))
 |fnc (f:Nat):VA g w (.fnc f) (.func (.func f) #[] #[])
 |clo (id:Nat) (b:Gb) (f:Nat) (fs cs:Array Value) (hm:g.m id=some b) (hv:b.val= .func (.func f) fs cs):VA g w (.clo id) (.func (.func f) fs cs)
 |gp (id:Nat) (b:Gb) (k:Nat) (hm:g.m id=some b) (hk:b.blk=some k):VA g w (.gp id) (.map (some k))
 |iter (id:Nat) (b:Gb) (k:Nat) (hm:g.m id=some b) (hk:b.blk=some k):VA g w (.iter id) (.pointer (some ⟨k,0,none⟩))
 |yld (id:Nat) (b:Gb) (k:Nat) (hm:g.m id=some b) (hk:b.blk=some k):VA g w (.yld id) (.func (.yield k) #[] #[])
 |gl (τ:Ty) (l:List τ.T) (bk:Nat) (f:Nat->Nat->Value) (ha:g.S bk)
  (hcell:∀i j,i<l.length->j<τ.n->w.cell? ⟨bk,i*τ.n+j,none⟩=some (f i j))
  (hf:∀i x j y,l[i]? =some x->(τ.enc x)[j]? =some y->VA g w y (f i j)):VA g w (.gl τ l) (.pointer (some ⟨bk,0,none⟩))
 |pS:VA g w .pS (.pointer none)
 |ng:VA g w .ng .nilFunc
 |oO:VA g w .oO (.map none)
 |dead (v:Value) (h:v.oneCell'=true):VA g w .dead v
theorem VA.one {g:Gh} {w:World} {x:At} {v:Value} (h:VA g w x v):v.oneCell'=true:=by
 cases h<;>first|rfl|assumption
def cr (g:Gh) (w w':World):Prop:=∀k,g.S k->w'.heap[k]? =w.heap[k]?
structure Gh.le (g g':Gh):Prop where
 S:∀k,g.S k->g'.S k
 m:∀id b,g.m id=some b->g'.m id=some b
theorem Gh.le.refl (g:Gh):g.le g:=⟨λ_ h=>h,λ_ _ h=>h⟩
theorem Gh.le.trans {a b c:Gh} (h:a.le b) (k:b.le c):a.le c:=⟨λ_ x=>k.S _ (h.S _ x),λ_ _ x=>k.m _ _ (h.m _ _ x)⟩
theorem cell_of_heap {w w':World} {k:Nat} (h:w'.heap[k]? =w.heap[k]?) (o:Nat):w'.cell? ⟨k,o,none⟩=w.cell? ⟨k,o,none⟩:=World.cell?_of_block (w:=w) h
theorem ne_of_lt {α:Type} {l:List α} {i:Nat} (h:i<l.length):l≠ [] :=by intro e;subst e;simp at h
theorem VA.mono {g g':Gh} {w w':World} {x:At} {v:Value} (h:VA g w x v) (hw:cr g w w') (hg:g.le g'):VA g' w' x v:=by
 induction h with
 |int k n=>exact .int k n
 |bool b=>exact .bool b
 |str s b h=>exact .str s b h
 |sl τ l a n c bk of f hn hc ha hcell hf ih=>
  refine .sl τ l a n c bk of f hn hc (λe=>⟨(ha e).1,hg.S _ (ha e).2⟩) (λi j hi hj=> ?_) ih;rw[cell_of_heap (hw bk (ha (ne_of_lt hi)).2)];exact hcell i j hi hj
 |clip τ l a n bk of f hn ha hcell hf ih=>
  refine .clip τ l a n bk of f hn (λe=>⟨(ha e).1,hg.S _ (ha e).2⟩) (λi j hi hj=> ?_) ih;rw[cell_of_heap (hw bk (ha (ne_of_lt hi)).2)];exact hcell i j hi hj
 |own id b a hm hk h0=>exact .own id b a (hg.m _ _ hm) hk h0
 |sub id off len b a c hm hl hc hk=>exact .sub id off len b a c (hg.m _ _ hm) hl hc hk
 |ptr id off b k hm hk=>exact .ptr id off b k (hg.m _ _ hm) hk
 |fB id i j b k hm hk=>exact .fB id i j b k (hg.m _ _ hm) hk
 |gQ τ x j bk of f ha hcell hf ih=>
  refine .gQ τ x j bk of f (hg.S _ ha) (λi hi=> ?_) ih;rw[cell_of_heap (hw bk ha)];exact hcell i hi
 |fnc f=>exact .fnc f
 |clo id b f fs cs hm hv=>exact .clo id b f fs cs (hg.m _ _ hm) hv
 |gp id b k hm hk=>exact .gp id b k (hg.m _ _ hm) hk
 |iter id b k hm hk=>exact .iter id b k (hg.m _ _ hm) hk
 |yld id b k hm hk=>exact .yld id b k (hg.m _ _ hm) hk
 |gl τ l bk f ha hcell hf ih=>
  refine .gl τ l bk f (hg.S _ ha) (λi j hi hj=> ?_) ih;rw[cell_of_heap (hw bk ha)];exact hcell i j hi hj
 |pS=>exact .pS
 |ng=>exact .ng
 |oO=>exact .oO
 |dead v h=>exact .dead v h
inductive bR {α β:Type} (R:α->β->Prop):List α->List β->Prop where
 |nil:bR R [] []
 |cons {a:α} {b:β} {l:List α} {m:List β} (h:R a b) (t:bR R l m):bR R (a::l) (b::m)
section
variable {α β:Type} {R R':α->β->Prop}
theorem bR.mono {l:List α} {m:List β} (h:bR R l m) (hr:∀a b,R a b->R' a b):bR R' l m:=by
 induction h with
 |nil=>exact .nil
 |cons h _ ih=>exact .cons (hr _ _ h) ih
theorem bR.Iw {l:List α} {m:List β} (h:bR R l m) (hr:∀a∈l,∀b,R a b->R' a b):bR R' l m:=by
 induction h with
 |nil=>exact .nil
 |cons h _ ih=>exact .cons (hr _ (by simp) _ h) (ih λa ha=>hr a (by simp [ha]))
theorem bR.length {l:List α} {m:List β} (h:bR R l m):l.length=m.length:=by
 induction h with
 |nil=>rfl
 |cons _ _ ih=>simp [ih]
theorem bR.get {l:List α} {m:List β} (h:bR R l m):∀{i:Nat} {a:α},l[i]? =some a->∃b,m[i]? =some b/\R a b:=by
 induction h with
 |nil=>intro i a h;simp at h
 |cons h _ ih=>
  intro i a ha;cases i with
  |zero=>simp at ha;subst ha;exact⟨_,rfl,h⟩
  |succ i=>simpa using ih (by simpa using ha)
theorem bR.Hq {l:List α}:∀{m:List β},l.length=m.length->(∀(i:Nat) (a:α) (b:β),l[i]? =some a->m[i]? =some b->R a b)->bR R l m:=by
 induction l with
 |nil=>intro m h _;cases m with|nil=>exact .nil|cons _ _=>simp at h
 |cons a l ih=>
  intro m h hr;cases m with
  |nil=>simp at h
  |cons b m=>exact .cons (hr 0 a b rfl rfl) (ih (by simpa using h) λi x y hx hy=>hr (i+1) x y (by simpa using hx) (by simpa using hy))
theorem bR.append {l l':List α} {m m':List β} (h:bR R l m) (k:bR R l' m'):bR R (l++l') (m++m'):=by
 induction h with
 |nil=>exact k
 |cons h _ ih=>exact .cons h ih
theorem bR.drop {l:List α} {m:List β} (h:bR R l m):∀n,bR R (l.drop n) (m.drop n):=by
 induction h with
 |nil=>intro n;simp;exact .nil
 |cons h t ih=>intro n;cases n with|zero=>exact .cons h t|succ n=>exact ih n
theorem bR.take {l:List α} {m:List β} (h:bR R l m):∀n,bR R (l.take n) (m.take n):=by
 induction h with
 |nil=>intro n;simp;exact .nil
 |cons h t ih=>intro n;cases n with|zero=>exact .nil|succ n=>exact .cons h (ih n)
theorem bR.set {l:List α} {m:List β} (h:bR R l m) {a:α} {b:β} (hr:R a b):∀i,bR R (l.set i a) (m.set i b):=by
 induction h with
 |nil=>intro i;simp;exact .nil
 |cons h t ih=>intro i;cases i with|zero=>exact .cons hr t|succ i=>exact .cons h (ih i)
theorem bR.map {γ δ:Type} {R2:γ->δ->Prop} {f:α->γ} {e:β->δ} {l:List α} {m:List β} (h:bR R l m) (hr:∀a b,R a b->R2 (f a) (e b)):bR R2 (l.map f) (m.map e):=by
 induction h with
 |nil=>exact .nil
 |cons h _ ih=>exact .cons (hr _ _ h) ih
theorem bR.Ho {γ:Type} {R2:γ->β->Prop} {f:α->γ} {l:List α} {m:List β} (h:bR R l m) (hr:∀a b,R a b->R2 (f a) b):bR R2 (l.map f) m:=by
 induction h with
 |nil=>exact .nil
 |cons h _ ih=>exact .cons (hr _ _ h) ih
end
def V1R (g:Gh) (w:World):V1->Value->Prop
 | .one x,v=>VA g w x v
 | .agg l,v=>∃vs:List Value,v= .agg vs.toArray/\bR (VA g w) l vs
def AVR (g:Gh) (w:World):AV->Value->Prop
 | .v x,v=>V1R g w x v
 | .tup l,v=>∃vs:List Value,v= .tuple vs.toArray/\bR (V1R g w) l vs
 | .undef,v=>v=undef
 | .dead,_=>True
theorem V1R.mono {g g':Gh} {w w':World} {x:V1} {v:Value} (h:V1R g w x v) (hw:cr g w w') (hg:g.le g'):V1R g' w' x v:=by
 cases x with
 |one x=>exact VA.mono h hw hg
 |agg l=>obtain⟨vs,rfl,h⟩:=h;exact⟨vs,rfl,h.mono λ_ _ k=>k.mono hw hg⟩
theorem AVR.mono {g g':Gh} {w w':World} {x:AV} {v:Value} (h:AVR g w x v) (hw:cr g w w') (hg:g.le g'):AVR g' w' x v:=by
 cases x with
 |v x=>exact V1R.mono h hw hg
 |tup l=>obtain⟨vs,rfl,h⟩:=h;exact⟨vs,rfl,h.mono λ_ _ k=>k.mono hw hg⟩
 |undef=>exact h
 |dead=>trivial
theorem V1R.cells {g:Gh} {w:World} {x:V1} {v:Value} (h:V1R g w x v):bR (VA g w) x.cells v.cells.toList:=by
 cases x with
 |one x=>
  have h1:VA g w x v:=h;have:=h1.one;cases v<;>first|exact .cons h1 .nil|(simp [Value.oneCell'] at this)
 |agg l=>obtain⟨vs,rfl,h⟩:=h;exact h
def s_ (rid:Nat):Code->Option (Array Tmp×Code×Code)
 | .rangeFunc _ ps as body=>match Nat.beq (bl body) rid with
  |true=>some (ps,as,body)
  |false=>s_ rid body
 | .seq a b=>match s_ rid a with
  |some x=>some x
  |none=>s_ rid b
 | .cond _ a b=>match s_ rid a with
  |some x=>some x
  |none=>s_ rid b
 | .block _ b=>s_ rid b
 | .loop b=>s_ rid b
 | .scope b=>s_ rid b
 |_=>none
def zJ (P:Program) (fid rid:Nat):Option (Array Tmp×Code×Code):=
 match P.funcs[fid]? with
 |some fn=>match fn.body with
  |some c=>s_ rid c
  |none=>none
 |none=>none
class aD (P:Program) where
 G:List (Nat×(τ:Ty)×List τ.T)
def mD (P:Program) [aD P] (g:Gh) (w:World):Prop:=∀(q:Nat) (τ:Ty) (l:List τ.T),look q (aD.G P)=some ⟨τ,l⟩->g.S q/\
 ∃f:Nat->Nat->Value,(∀i j,i<l.length->j<τ.n->w.cell? ⟨q,i*τ.n+j,none⟩=some (f i j))/\∀i x j y,l[i]? =some x->(τ.enc x)[j]? =some y->∀g w,VA g w y (f i j)
def CM:(κ:Ty)->κ.T->Value->Prop
 | .int,n,v=>v= .int .i64 n
 | .str,s,v=>∃b:ByteArray,v= .string b/\b.data.toList=s
 |_,_,_=>False
def Dp (g:Gh) (w:World) (ag:Bool) {κ τ:Ty} (x:κ.T×τ.T×Nat) (e:MapEntry):Prop:=
 CM κ x.1 e.key/\e.born=x.2.2/\∃y,V1.dB ag (τ.enc x.2.1)=some y/\V1R g w y e.val
theorem Dp.of {g g':Gh} {w w':World} {ag:Bool} {κ τ:Ty} {x:κ.T×τ.T×Nat} {e:MapEntry} (h:Dp g w ag x e) (hv:∀y v,V1.dB ag (τ.enc x.2.1)=some y->V1R g w y v->V1R g' w' y v):Dp g' w' ag x e:=
 ⟨h.1,h.2.1,let ⟨y,h1,h2⟩:=h.2.2;⟨y,h1,hv _ _ h1 h2⟩⟩
def AB.live:AB->Bool
 | .gone=>false
 | .cells _=>true
 | .row _ _=>true
 | .clo _ _ _=>true
 | .iter _ _=>true
 | .oE _ _=>true
 | .loop _ _ _ _ _=>true
 | .over _=>true
 | .map _ _ _ _ _=>true
def RB (P:Program) (g:Gh) (w:World) (b:Gb) (ph:Bool) (n fid rid:Nat) (az:cj):Prop:=
 ∃k r,b.blk=some k/\w.heap[k]? =some (.loop r)/\r.state=(match ph with|true=> .ready|false=> .busy)/\(ph=true->r.pending=none)/\r.tmps.size=n/\zJ P fid rid=some (r.params,r.assign,r.body)/\
  (∀t x,look t az=some x->t<OFF/\AVR g w x (r.tmps.getD t undef))
def Tp:Ex->Option Code
 | .normal=>none
 | .exit i=>some (.exit i)
 | .goto l=>some (.goto l)
 | .ret=>some .ret
def BR (P:Program) (g:Gh) (w:World) (b:Gb):AB->Prop
 | .cells l=>∃k cs e,b.blk=some k/\w.heap[k]? =some (.cells cs e (0,0))/\bR (VA g w) l cs.toList
 | .row τ l=>b.sz=τ.n/\b.ln=l.length/\((b.blk=none/\l= [] /\b.cp=0)\/
  (∃k cs e,b.blk=some k/\w.heap[k]? =some (.cells cs e (0,0))/\cs.size=b.cp*τ.n/\l.length<=b.cp/\(∀v∈cs.toList,v.oneCell'=true)/\
   ∀i x j y,l[i]? =some x->(τ.enc x)[j]? =some y->∃v,cs[i*τ.n+j]? =some v/\VA g w y v))
 | .clo f first capt=>b.blk=none/\∃fs cs,b.val= .func (.func f) fs cs/\bR (VA g w) first fs.toList/\bR (VA g w) capt cs.toList
 | .iter s pos=>∃k bs,b.blk=some k/\w.heap[k]? =some (.stringIter bs pos)/\bs.data.toList=s
 | .oE x n=>b.blk=none/\∃a m,VA g w x (.slice a m n)
 | .loop ph n fid rid az=>RB P g w b ph n fid rid az
 | .over e=>∃k r,b.blk=some k/\w.heap[k]? =some (.loop r)/\r.state= .done/\r.pending=Tp e
 | .map ag κ τ l ck=>∃k es,b.blk=some k/\w.heap[k]? =some (.map es ck)/\bR (Dp g w ag) l es.toList
 | .gone=>True
theorem BR.qL {P:Program} {g:Gh} {w:World} {b:Gb} {x:AB} (h:BR P g w b x) (hl:x.live=true) {k:Nat} (hk:b.blk=some k) {d:Option (List Deferred)}:w.heap[k]? ≠some (.deferred d):=by
 intro e;cases x with
 |cells l=>obtain⟨k',cs,e',hb,hh,_⟩:=h;rw[hb] at hk;cases hk;rw[hh] at e;cases e
 |row τ l=>
  obtain⟨_,_,h|⟨k',cs,e',hb,hh,_⟩⟩:=h
  ·rw[h.1] at hk;cases hk
  ·rw[hb] at hk;cases hk;rw[hh] at e;cases e
 |clo f a c=>rw[h.1] at hk;cases hk
 |iter s p=>obtain⟨k',bs,hb,hh,_⟩:=h;rw[hb] at hk;cases hk;rw[hh] at e;cases e
 |oE x n=>rw[h.1] at hk;cases hk
 |loop ph n f r az=>obtain⟨k',r,hb,hh,_⟩:=h;rw[hb] at hk;cases hk;rw[hh] at e;cases e
 |over e'=>obtain⟨k',r,hb,hh,_⟩:=h;rw[hb] at hk;cases hk;rw[hh] at e;cases e
 |map ag κ τ l ck=>obtain⟨k',r,hb,hh,_⟩:=h;rw[hb] at hk;cases hk;rw[hh] at e;cases e
 |gone=>simp [AB.live] at hl
theorem BR.mono {P:Program} {g g':Gh} {w w':World} {b:Gb} {x:AB} (h:BR P g w b x) (hw:cr g w w') (hk:∀k,b.blk=some k->w'.heap[k]? =w.heap[k]?) (hg:g.le g'):BR P g' w' b x:=by
 cases x with
 |cells l=>obtain⟨k,cs,e,hb,hh,ha⟩:=h;exact⟨k,cs,e,hb,(hk k hb).trans hh,ha.mono λ_ _ k=>k.mono hw hg⟩
 |row τ l=>
  obtain⟨h1,h2,h3⟩:=h;refine⟨h1,h2, ?_⟩;rcases h3 with h3|⟨k,cs,e,hb,hh,hs,hl,ho,ha⟩
  ·exact .inl h3
  ·exact .inr ⟨k,cs,e,hb,(hk k hb).trans hh,hs,hl,ho,λi x j y hx hy=>let ⟨v,hv,ha'⟩:=ha i x j y hx hy;⟨v,hv,ha'.mono hw hg⟩⟩
 |clo f a c=>obtain⟨h0,fs,cs,hb,h1,h2⟩:=h;exact⟨h0,fs,cs,hb,h1.mono λ_ _ k=>k.mono hw hg,h2.mono λ_ _ k=>k.mono hw hg⟩
 |iter s p=>obtain⟨k,bs,hb,hh,e⟩:=h;exact⟨k,bs,hb,(hk k hb).trans hh,e⟩
 |oE x n=>obtain⟨hb,a,m,hv⟩:=h;exact⟨hb,a,m,hv.mono hw hg⟩
 |loop ph n f r az=>obtain⟨k,r,hb,hh,h1,h2,h3,h4,h5⟩:=h;exact⟨k,r,hb,(hk k hb).trans hh,h1,h2,h3,h4,λt x hx=>⟨(h5 t x hx).1,(h5 t x hx).2.mono hw hg⟩⟩
 |over e=>obtain⟨k,r,hb,hh,h1⟩:=h;exact⟨k,r,hb,(hk k hb).trans hh,h1⟩
 |map ag κ τ l ck=>obtain⟨k,es,hb,hh,ha⟩:=h;exact⟨k,es,hb,(hk k hb).trans hh,ha.mono λ_ _ k=>k.of λ_ _ _ h=>h.mono hw hg⟩
 |gone=>trivial
def vof (sv:Nat->Value) (a:Act) (t:Nat):Value:=if t<OFF then a.tmps.getD t undef else sv (t - OFF)
theorem bS {α:Type} {n:Nat} {r:List (Nat×α)} {x:α} (h:j_ n r=some x):n<OFF/\look n r=some x:=by
 unfold j_ at h;split at h
 ·rename_i hb;exact⟨by simpa [Nat.blt_eq] using hb,h⟩
 ·cases h
theorem wZ {α:Type} {n:Nat} {r r':List (Nat×α)} (h:look n r=look n r'):j_ n r=j_ n r':=by unfold j_;rw[h]
theorem iw {sv:Nat->Value} {a:Act} {t:Nat} (h:t<OFF):vof sv a t=a.tmps.getD t undef:=by unfold vof;rw[if_pos h]
def tV (r:Nat):Deferred:={target:= .collected r,args:= #[] }
structure Wt where
 marks:List Nat
 lv:Nat->Option Nat
def P3 (base:Nat) (D:Wt) (g:Gh) (ds:List Deferred) (w:World):Prop:=
 ∃rs:List Nat,ds=rs.map tV/\(rs++D.marks).Nodup/\∀r,r∈rs++D.marks->base<=r/\w.heap[r]? =some (.deferred (some []))/\¬g.S r
theorem P3.mono {base:Nat} {D:Wt} {g g':Gh} {ds:List Deferred} {w w':World} (h:P3 base D g ds w)
 (hw:∀r,base<=r->w.heap[r]? =some (.deferred (some []))->¬g.S r->w'.heap[r]? =some (.deferred (some []))/\¬g'.S r):P3 base D g' ds w':=by
 obtain⟨rs,h1,hn,h2⟩:=h;exact⟨rs,h1,hn,λr hr=>⟨(h2 r hr).1,hw r (h2 r hr).1 (h2 r hr).2.1 (h2 r hr).2.2⟩⟩
def AB.kj:AB->Bool
 | .gone=>false
 | .cells _=>false
 | .row _ _=>false
 | .clo _ _ _=>false
 | .iter _ _=>false
 | .oE _ _=>false
 | .loop _ _ _ _ _=>true
 | .over _=>true
 | .map _ _ _ _ _=>false
theorem mD.mono {P:Program} [aD P] {g g':Gh} {w w':World} (h:mD P g w) (hw:cr g w w') (hS:∀k,g.S k->g'.S k):mD P g' w':=λq τ l hl=>
 let ⟨h1,f,h2,h3⟩:=h q τ l hl
 ⟨hS _ h1,f,λi j hi hj=>by rw[cell_of_heap (hw q h1)];exact h2 i j hi hj,h3⟩
theorem mD.va {P:Program} [aD P] {g:Gh} {w:World} (h:mD P g w) {q:Nat} {τ:Ty} {l:List τ.T} (hl:look q (aD.G P)=some ⟨τ,l⟩):VA g w (.gl τ l) (.pointer (some ⟨q,0,none⟩)):=
 let ⟨h1,f,h2,h3⟩:=h q τ l hl
 .gl τ l q f h1 h2 λi x j y hx hy=>h3 i x j y hx hy g w
structure Rel (P:Program) [aD P] (base:Nat) (w0:World) (S0:Nat->Prop) (N:Nat) (D:Wt) (sv:Nat->Value) (g:Gh) (σ:St) (a:Act) (w:World):Prop where
 az:∀t x,look t σ.az=some x->AVR g w x (vof sv a t)
 size:a.tmps.size=N
 dfr:P3 base D g a.defers w
 lp:∀id x b,look id σ.mem=some x->x.kj=true->g.m id=some b->b.blk=D.lv id
 glo:mD P g w
 mem:∀id x,look id σ.mem=some x->∃b,g.m id=some b/\BR P g w b x
 inj:∀id id' x x' b b' k,look id σ.mem=some x->look id' σ.mem=some x'->x.live=true->x'.live=true->g.m id=some b->g.m id'=some b'->b.blk=some k->b'.blk=some k->id=id'
 own:∀id x b k,look id σ.mem=some x->x.live=true->g.m id=some b->b.blk=some k->base<=k/\¬g.S k
 S:∀k,g.S k->k<w.heap.size
 blk:∀id b k,g.m id=some b->b.blk=some k->k<w.heap.size
 nx:∀id b,g.m id=some b->id<σ.nx
 bel:Below base w0 w
 bs:base<=w.heap.size
 sub:∀k,g.S k->S0 k\/base<=k
def SW:TypeDesc->Bool
 | .struct _=>true
 | .array _ _=>true
 |_=>false
def zA:At->Value->Bool
 | .int k n, .int k' n'=>xX k k'&&decide (n=n')
 | .bool b, .bool b'=>b==b'
 | .str s, .string b=>s.isEmpty&&b.data.toList.isEmpty
 | .clip _ l, .slice none 0 0=>l.isEmpty
 | .pS, .pointer none=>true
 | .ng, .nilFunc=>true
 | .oO, .map none=>true
 |_,_=>false
def zL:List At->List Value->Bool
 | [], [] =>true
 |x::l,v::m=>zA x v&&zL l m
 |_,_=>false
def zV:V1->Value->Bool
 | .one x,v=>zA x v
 | .agg l, .agg vs=>zL l vs.toList
 |_,_=>false
def j7 (P:Program):List Field->List (Nat×TypeId)->Bool
 | [], [] =>true
 |f::l,(off,t)::m=>Nat.beq f.offset off&&(Nat.beq f.type t&&((match P.info? t with|some i=> !(Nat.beq i.size 0) |none=>false)&&j7 P l m))
 |_,_=>false
def tkB (P:Program):TypeDesc->TK->Bool
 | .int k, .int k'=>xX k k'
 | .bool, .bool=>true
 | .string, .str=>true
 | .struct fields, .struct fs=>j7 P fields.toList fs
 | .array n e, .array n' e'=>Nat.beq n n'&&Nat.beq e e'
 | .slice e, .slice τ e'=>Nat.beq e e'&&(match P.info? e with|some i=>Nat.beq i.size τ.n&&Nat.ble i.bytes 4096|none=>false)
 | .pointer e, .ptr e'=>Nat.beq e e'
 | .map kt e, .map κ τ kt' e'=>Nat.beq kt kt'&&(Nat.beq e e'&&((match P.underlying kt,κ with|some (.int k), .int=>xX k .i64|some .string, .str=>true|_,_=>false)&&(match P.info? e with|some i=>Nat.beq i.size τ.n|none=>false)))
 |_, .other=>true
 |_,_=>false
def tiB (P:Program) (t:TypeId) (ti:TI):Bool:=
 match P.info? t,P.underlying t with
 |some i,some d=>Nat.beq i.size ti.size&&((SW d==ti.agg)&&(tkB P d ti.k&&(match i.zero with|some z=>zV ti.zero z&&Nat.beq z.cells.size ti.size|none=>false)))
 |_,_=>false
theorem uq {a b:IntKind} (h:xX a b=true):a=b:=by cases a<;>cases b<;>first|rfl|(simp [xX] at h)
theorem RF {x:At} {v:Value} (h:zA x v=true) (g:Gh) (w:World):VA g w x v:=by
 unfold zA at h;split at h
 ·simp only[Bool.and_eq_true,decide_eq_true_eq] at h;obtain⟨h1,rfl⟩:=h;obtain rfl:=uq h1;exact .int _ _
 ·simp only[beq_iff_eq] at h;subst h;exact .bool _
 ·simp only[Bool.and_eq_true,List.isEmpty_iff] at h;exact .str _ _ (by rw[h.1,h.2])
 ·simp only[List.isEmpty_iff] at h;subst h
  exact .clip _ [] none 0 0 0 (λ_ _=>default) rfl (λh=>absurd rfl h) (λi j hi _=>by simp at hi) (λi x j y hx _=>by simp at hx)
 ·exact .pS
 ·exact .ng
 ·exact .oO
 ·simp at h
theorem RH:∀{l:List At} {m:List Value},zL l m=true->∀(g:Gh) (w:World),bR (VA g w) l m
 | [], [],_,_,_=> .nil
 |x::l,v::m,h,g,w=>by
  simp only[zL,Bool.and_eq_true] at h;exact .cons (RF h.1 g w) (RH h.2 g w)
 | [],_::_,h,_,_=>by simp [zL] at h
 |_::_, [],h,_,_=>by simp [zL] at h
theorem Wx {x:V1} {v:Value} (h:zV x v=true) (g:Gh) (w:World):V1R g w x v:=by
 unfold zV at h;split at h
 ·exact RF h g w
 ·exact⟨_,by simp,RH h g w⟩
 ·simp at h
structure rq (P:Program) (t:TypeId) (ti:TI) (i:TypeInfo) (d:TypeDesc):Prop where
 info:P.info? t=some i
 size:i.size=ti.size
 und:P.underlying t=some d
 agg:SW d=ti.agg
 k:tkB P d ti.k=true
 zero:∃z,i.zero=some z/\z.cells.size=ti.size/\∀g w,V1R g w ti.zero z
theorem R9 {P:Program} {t:TypeId} {ti:TI} (h:tiB P t ti=true):∃i d,rq P t ti i d:=by
 unfold tiB at h;split at h
 ·rename_i i d hi hd
  simp only[Bool.and_eq_true,beq_iff_eq] at h;obtain⟨h1,h2,h3,h4⟩:=h;refine⟨i,d,hi,Nat.eq_of_beq_eq_true h1,hd,h2,h3, ?_⟩;split at h4
  ·rename_i z hz
   simp only[Bool.and_eq_true] at h4;exact⟨z,hz,Nat.eq_of_beq_eq_true h4.2,λg w=>Wx h4.1 g w⟩
  ·simp at h4
 ·simp at h
def Q2 (P:Program) (c:Cfg):Prop:=∀t ti,c.ti t=some ti->∃i d,rq P t ti i d
theorem yX {α:Type} {n:Nat} {l:List (Nat×α)} {x:α} (h:look n l=some x):(n,x)∈l:=by
 induction l with
 |nil=>simp [look] at h
 |cons y l ih=>
  simp only[look] at h;split at h
  ·rename_i hb;simp only[Option.some.injEq] at h;subst h;have:=Nat.eq_of_beq_eq_true hb;rw[<-this];simp
  ·exact List.mem_cons_of_mem _ (ih h)
theorem Rg {P:Program} {c:Cfg} (h:c.T.all (λx=>tiB P x.1 x.2)=true):Q2 P c:=λt ti hl=>by
 have:=List.all_eq_true.1 h _ (yX hl);exact R9 this
section
variable {P:Program} {t:TypeId} {ti:TI} {i:TypeInfo} {d:TypeDesc}
theorem rq.int (h:rq P t ti i d) {κ:IntKind} (hk:ti.k= .int κ):d= .int κ:=by
 have:=h.k;rw[hk] at this;cases d<;>simp [tkB] at this;rw[uq this]
theorem rq.str (h:rq P t ti i d) (hk:ti.k= .str):d= .string:=by
 have:=h.k;rw[hk] at this;cases d<;>simp [tkB] at this;rfl
theorem rq.struct (h:rq P t ti i d) {fs:List (Nat×TypeId)} (hk:ti.k= .struct fs):∃fields,d= .struct fields/\j7 P fields.toList fs=true:=by
 have:=h.k;rw[hk] at this;cases d<;>simp [tkB] at this;exact⟨_,rfl,this⟩
theorem rq.array (h:rq P t ti i d) {n:Nat} {e:TypeId} (hk:ti.k= .array n e):d= .array n e:=by
 have:=h.k;rw[hk] at this;cases d<;>simp [tkB] at this;rw[this.1,this.2]
theorem rq.slice (h:rq P t ti i d) {τ:Ty} {e:TypeId} (hk:ti.k= .slice τ e):d= .slice e/\∃j,P.info? e=some j/\j.size=τ.n/\j.bytes<=4096:=by
 have:=h.k;rw[hk] at this;cases d<;>simp [tkB] at this
 obtain⟨h1,h2⟩:=this;subst h1;refine⟨rfl, ?_⟩;split at h2
 ·rename_i j hj;exact⟨j,hj,by simpa using h2⟩
 ·simp at h2
theorem rq.map (h:rq P t ti i d) {κ τ:Ty} {kt e:TypeId} (hk:ti.k= .map κ τ kt e):d= .map kt e/\((κ= .int/\P.underlying kt=some (.int .i64))\/(κ= .str/\P.underlying kt=some .string))/\∃j,P.info? e=some j/\j.size=τ.n:=by
 have:=h.k;rw[hk] at this;cases d<;>simp [tkB] at this
 obtain⟨h1,h2,h3,h4⟩:=this;subst h1;subst h2;refine⟨rfl, ?_, ?_⟩
 ·split at h3
  ·rename_i k hu;rw[uq h3] at hu;exact .inl ⟨rfl,hu⟩
  ·rename_i hu;exact .inr ⟨rfl,hu⟩
  ·simp at h3
 ·split at h4
  ·rename_i j hj;exact⟨j,hj,by simpa using h4⟩
  ·simp at h4
end
theorem oa {P:Program}:∀{l:List Field} {m:List (Nat×TypeId)},j7 P l m=true->∀{k off:Nat} {t:TypeId},m[k]? =some (off,t)->
 ∃f:Field,l[k]? =some f/\f.offset=off/\f.type=t/\∃i,P.info? t=some i/\i.size≠0
 | [], [],_,k,off,t,h=>by simp at h
 |f::l,(o,u)::m,hb,k,off,t,h=>by
  simp only[j7,Bool.and_eq_true] at hb;obtain⟨h1,h2,h3,h4⟩:=hb;cases k with
  |zero=>
   simp at h;obtain⟨rfl,rfl⟩:=h;refine⟨f,rfl,Nat.eq_of_beq_eq_true h1,Nat.eq_of_beq_eq_true h2, ?_⟩;split at h3
   ·rename_i j hj
    refine⟨j,hj,λe=> ?_⟩;rw[e] at h3;simp at h3
   ·simp at h3
  |succ k=>simpa using oa h4 (k:=k) (by simpa using h)
 | [],_::_,hb,_,_,_,_=>by simp [j7] at hb
 |_::_, [],hb,_,_,_,_=>by simp [j7] at hb
def nL:At->Bool
 | .int _ _=>true
 | .bool _=>true
 | .str _=>true
 | .sl _ _=>true
 | .fnc _=>true
 |_=>false
theorem c_:∀(τ:Ty) (x:τ.T) (j:Nat) (y:At),(τ.enc x)[j]? =some y->nL y=true:=by
 intro τ x j y h;have hm:y∈τ.enc x:=List.mem_of_getElem? h;cases τ<;>simp only[Ty.enc,List.mem_cons,List.not_mem_nil,or_false] at hm<;>
  first|(subst hm;rfl) |(rcases hm with rfl|rfl|rfl|rfl|rfl|rfl<;>rfl) |(rcases hm with rfl|rfl|rfl|rfl|rfl<;>rfl) |(rcases hm with rfl|rfl|rfl|rfl<;>rfl) |(rcases hm with rfl|rfl<;>rfl)
theorem cU (τ:Ty) (x:τ.T):(τ.enc x).length=τ.n:=by cases τ<;>rfl
theorem wP (τ:Ty):0<τ.n:=by cases τ<;>decide
theorem VA.pure {g g':Gh} {w:World} {x:At} {v:Value} (h:VA g w x v) (hp:nL x=true) (hS:∀k,g.S k->g'.S k):VA g' w x v:=by
 induction h with
 |int k n=>exact .int k n
 |bool b=>exact .bool b
 |str s b h=>exact .str s b h
 |sl τ l a n c bk of f hn hc ha hcell hf ih=>
  exact .sl τ l a n c bk of f hn hc (λe=>⟨(ha e).1,hS _ (ha e).2⟩) hcell λi x j y hx hy=>ih i x j y hx hy (c_ _ _ _ _ hy)
 |fnc f=>exact .fnc f
 |_=>simp [nL] at hp
theorem V1R.flat {g g':Gh} {w w':World} {x:V1} {v:Value} (h:V1R g w x v) (hp:Dx x=true):V1R g' w' x v:=by
 have one:∀{x:At} {v:Value},VA g w x v->qR x=true->VA g' w' x v:=λ{x v} h hp=>by
  cases h<;>first|(simp [qR] at hp;done) |constructor
  assumption
 cases x with
 |one x=>exact one h hp
 |agg l=>
  obtain⟨vs,rfl,h⟩:=h;refine⟨vs,rfl, ?_⟩;have hp':B1 l=true:=hp;clear hp;induction h with
  |nil=>exact .nil
  |cons h _ ih=>
   simp only[B1] at hp';split at hp'
   ·exact .cons (one h ‹_›) (ih hp')
   ·simp at hp'
theorem AVR.flat {g g':Gh} {w w':World} {x:AV} {v:Value} (h:AVR g w x v) (hp:Cs x=true):AVR g' w' x v:=by
 cases x with
 |v x=>exact V1R.flat h hp
 |tup l=>
  obtain⟨vs,rfl,h⟩:=h;refine⟨vs,rfl, ?_⟩;have hp':IG l=true:=hp;clear hp;induction h with
  |nil=>exact .nil
  |cons h _ ih=>
   simp only[IG] at hp';split at hp'
   ·exact .cons (V1R.flat h ‹_›) (ih hp')
   ·simp at hp'
 |undef=>simp [Cs] at hp
 |dead=>simp [Cs] at hp
theorem BR.cell {P:Program} {g:Gh} {w:World} {b:Gb} {τ:Ty} {l:List τ.T} (h:BR P g w b (.row τ l)) {k:Nat} (hk:b.blk=some k):
 ∃f:Nat->Nat->Value,(∀i j,i<b.cp->j<τ.n->w.cell? ⟨k,i*τ.n+j,none⟩=some (f i j))/\∀i x j y,l[i]? =some x->(τ.enc x)[j]? =some y->VA g w y (f i j):=by
 obtain⟨h1,h2,h3⟩:=h;rcases h3 with⟨h3,_⟩ |⟨k',cs,e,hb,hh,hs,hl,ho,ha⟩
 ·rw[hk] at h3;cases h3
 ·obtain rfl:k=k':=by rw[hk] at hb;cases hb;rfl
  refine⟨λi j=>cs.getD (i*τ.n+j) undef,λi j hi hj=> ?_,λi x j y hx hy=> ?_⟩
  ·have hlt:i*τ.n+j<cs.size:=by
    rw[hs]
    calc i*τ.n+j<i*τ.n+τ.n:=by omega
     _=(i+1)*τ.n:=by rw[Nat.succ_mul]
     _<=b.cp*τ.n:=Nat.mul_le_mul_right _ hi
   simp [World.cell?,hh,Array.getD,hlt]
  ·obtain⟨v,hv,hx'⟩:=ha i x j y hx hy
   have he:cs.getD (i*τ.n+j) undef=v:=by rw[Array.getD_eq_getD_getElem?,hv];rfl
   show VA g w y (cs.getD (i*τ.n+j) undef);rw[he];exact hx'
theorem BR.len {P:Program} {g:Gh} {w:World} {b:Gb} {τ:Ty} {l:List τ.T} (h:BR P g w b (.row τ l)):b.ln=l.length/\l.length<=b.cp/\b.sz=τ.n:=by
 obtain⟨h1,h2,h3⟩:=h;rcases h3 with⟨h3,rfl,h4⟩ |⟨k',cs,e,hb,hh,hs,hl,ho,ha⟩
 ·exact⟨h2,by simp,h1⟩
 ·exact⟨h2,hl,h1⟩
theorem BR.part {P:Program} {g g':Gh} {w:World} {b:Gb} {τ:Ty} {l:List τ.T} (h:BR P g w b (.row τ l)) (hS:∀k,g.S k->g'.S k) (hb:∀k,b.blk=some k->g'.S k)
 {off len c:Nat} {a:Option Addr} (hl:off+len<=l.length) (hc:len<=c) (ha:len≠0->∃k,b.blk=some k/\a=some ⟨k,off*b.sz,none⟩):
 VA g' w (.sl τ ((l.drop off).take len)) (.slice a len c):=by
 have hlen:((l.drop off).take len).length=len:=by simp;omega
 by_cases h0:len=0
 ·subst h0
  exact .sl τ _ a 0 c 0 0 (λ_ _=>default) (by simp) (by omega) (λe=>by simp at e) (λi j hi _=>by simp at hi) (λi x j y hx _=>by simp at hx)
 ·obtain⟨k,hk,rfl⟩:=ha h0
  obtain⟨f,hf1,hf2⟩:=h.cell hk;obtain⟨-,hcp,hsz⟩:=h.len;refine .sl τ _ _ len c k (off*τ.n) (λi j=>f (off+i) j) hlen.symm hc (λ_=>⟨by rw[hsz],hb k hk⟩) (λi j hi hj=> ?_) (λi x j y hx hy=> ?_)
  ·rw[hlen] at hi
   have:=hf1 (off+i) j (by omega) hj;rwa[show(off+i)*τ.n+j=off*τ.n+(i*τ.n+j) from by rw[Nat.add_mul];omega] at this
  ·have hi:i<len:=by
    rcases Nat.lt_or_ge i len with h'|h'
    ·exact h'
    ·rw[List.getElem?_eq_none (by omega)] at hx;cases hx
   have hx':l[off+i]? =some x:=by
    rw[List.getElem?_take_of_lt hi,List.getElem?_drop] at hx;exact hx
   exact(hf2 (off+i) x j y hx' hy).pure (c_ _ _ _ _ hy) hS
theorem BR.whole {P:Program} {g g':Gh} {w:World} {b:Gb} {τ:Ty} {l:List τ.T} (h:BR P g w b (.row τ l)) (hS:∀k,g.S k->g'.S k) (hb:∀k,b.blk=some k->g'.S k)
 {a:Option Addr} (ha:∀k,b.blk=some k->a=some ⟨k,0,none⟩) (h0:b.blk=none->b.cp=0/\b.ln=0):VA g' w (.sl τ l) (.slice a b.ln b.cp):=by
 have hl:=h.len;have:=h.part hS hb (off:=0) (len:=l.length) (c:=b.cp) (a:=a) (by omega) hl.2.1 (λhne=>by
  cases hk:b.blk with
  |none=>exact absurd (hl.1▸(h0 hk).2) hne
  |some k=>exact⟨k,rfl,by rw[ha k hk];simp⟩)
 rw[hl.1];simpa using this
theorem a_ {α:Type} {b:Bool} {x y:Option α} {r:α} (h:ah b x y=some r):(b=true/\x=some r)\/(b=false/\y=some r):=by
 cases b
 ·exact .inr ⟨rfl,h⟩
 ·exact .inl ⟨rfl,h⟩
theorem bo {α β:Type} {o:Option α} {f:α->Option β} {r:β} (h:aj o f=some r):∃x,o=some x/\f x=some r:=by
 cases o with
 |none=>simp [aj] at h
 |some x=>exact⟨x,rfl,h⟩
theorem iv {α:Type} {n:Nat} {x:Option α} {r:α} (h:aS n x=some r):n<=LIM/\x=some r:=by
 unfold aS at h;split at h
 ·exact⟨Nat.le_of_ble_eq_true ‹_›,h⟩
 ·simp at h
def Gh.grow (g:Gh) (w w':World):Gh:={S:=λk=>g.S k\/(w.heap.size<=k/\k<w'.heap.size),m:=g.m}
theorem Gh.Du (g:Gh) (w w':World):g.le (g.grow w w'):=⟨λ_ h=> .inl h,λ_ _ h=>h⟩
theorem cr.refl (g:Gh) (w:World):cr g w w:=λ_ _=>rfl
theorem cr.lR {g:Gh} {w w':World} (hS:∀k,g.S k->k<w.heap.size) (h:Below w.heap.size w w'):cr g w w':=λk hk=>h.block k (hS k hk)
def xI (P:Program) (g:Gh) (w:World) (m:Mem):Prop:=∀id x,look id m=some x->∃b,g.m id=some b/\BR P g w b x
def Kz (P:Program) [aD P] (f:Nat) (s:Spec):Prop:=
 ∀(S:Nat->Prop) (w:World) (args:List AV) (vs:List Value) (x:s.X) (y:s.Y),(∀k,S k->k<w.heap.size)->mD P ⟨S,λ_=>none⟩ w->bR (AVR ⟨S,λ_=>none⟩ w) args vs->s.pat args=some x->s.f x=some y->
  Calls P f vs.toArray w λe w'=>∃v,e= .returned v/\Below w.heap.size w w'/\AVR ⟨λk=>S k\/(w.heap.size<=k/\k<w'.heap.size),λ_=>none⟩ w' (s.enc y) v
structure aK (P:Program) [aD P] (f:Nat) (s:Spec):Prop where
 enters:∀args w,(callFunc f args).run P w= .ok (.enter f args) w
 calls:Kz P f s
def FrR (P:Program) (S:Nat->Prop) (lo:Nat) (w':World) (ab:AB) (v:Value):Prop:=
 ∃b:Gb,(∀k,b.blk=some k->lo<=k/\k<w'.heap.size)/\ab.live=true/\ab.kj=false/\
  BR P ⟨λk=>S k\/(lo<=k/\k<w'.heap.size/\b.blk≠some k),λ_=>none⟩ w' b ab/\∃y,DI 0 ab=some y/\VA ⟨λ_=>False,λi=>if i=0 then some b else none⟩ w' y v
structure mL (P:Program) [aD P] (f:Nat) (s:kx):Prop where
 enters:∀args w,(callFunc f args).run P w= .ok (.enter f args) w
 calls:∀(S:Nat->Prop) (w:World) (args:List AV) (vs:List Value) (x:s.X) (ab:AB),(∀k,S k->k<w.heap.size)->mD P ⟨S,λ_=>none⟩ w->bR (AVR ⟨S,λ_=>none⟩ w) args vs->s.pat args=some x->s.f x=some ab->
  Calls P f vs.toArray w λe w'=>∃v,e= .returned v/\Below w.heap.size w w'/\FrR P S w.heap.size w' ab v
def ekB (P:Program) (t:TypeId):EK->Bool
 | .i=>match P.underlying t with|some (.int _)=>true|_=>false
 | .b=>match P.underlying t with|some .bool=>true|_=>false
 | .s=>match P.underlying t with|some .string=>true|_=>false
def J9 (P:Program):Nat->List Field->List EK->Bool
 |_, [], [] =>true
 |i,f::l,e::es=>Nat.beq f.offset i&&(f.name != "_" &&(ekB P f.type e&&J9 P (i+1) l es))
 |_,_,_=>false
def eqB (P:Program) (t:TypeId) (es:List EK):Bool:=
 match P.underlying t with
 |some (.struct fs)=> !(P.stoodInHeld t)&&(!(P.eqGuardType P.depth t)&&J9 P 0 fs.toList es)
 |_=>false
def Dk (P:Program) [aD P] (c:Cfg):Prop:=∀(q:Nat) (τ:Ty) (l:List τ.T),look q c.aW=some ⟨τ,l⟩->look q (aD.G P)=some ⟨τ,l⟩
def IW (P:Program) (c:Cfg):Prop:=∀t es,look t c.eqs=some es->eqB P t es=true
structure Env (P:Program) [aD P] (c:Cfg) (g:Gh) (r:cj) (m:Mem) (xs:List Operand) (a:Act) (w:World):Prop where
 ev:∀x,x∈xs->∀t y,ev c r t x=some y->AVR g w y (a.eval x)
 mem:xI P g w m
 ts:Q2 P c
 sp:∀f s,look f c.spec=some s->aK P f s
 S:∀k,g.S k->k<w.heap.size
 blk:∀id b k,g.m id=some b->b.blk=some k->k<w.heap.size
 eqs:IW P c
 glo:mD P g w
theorem Ao {c:Cfg} {t:TypeId} {v:Value} {y:AV} (h:yn c t v=some y) (g:Gh) (w:World):AVR g w y v:=by
 unfold yn at h;split at h
 ·cases h;exact VA.bool _
 ·cases h;exact VA.int _ _
 ·cases h;exact VA.str _ _ rfl
 ·split at h
  ·cases h
   exact VA.clip _ [] none 0 0 0 (λ_ _=>default) rfl (λh=>absurd rfl h) (λi j hi _=>by simp at hi) (λi x j y hx _=>by simp at hx)
  ·simp at h
 ·cases h;exact VA.pS
 ·cases h;exact VA.ng
 ·cases h;exact VA.oO
 ·simp at h
theorem K2 {P:Program} [aD P] {c:Cfg} {g:Gh} {r:cj} {a:Act} {w:World} {o:Oper} {sv:Nat->Value} (hr:∀t,t∈fv o->∀x,look t r=some x->AVR g w x (vof sv a t)) (hG:mD P g w) (hc:Dk P c):
 ∀x,x∈o.op.operands.toList->∀t y,ev c r t x=some y->AVR g w y (a.eval x):=by
 intro x hx t y h;cases x with
 |tmp n=>obtain⟨hn,h⟩:=bS h;have:=hr n (List.mem_filterMap.2 ⟨.tmp n,hx,rfl⟩) y h;rw[iw hn] at this;exact this
 |const v=>exact Ao h g w
 |func f=>simp only[ev,Option.some.injEq] at h;subst h;exact VA.fnc f
 |«global» q=>
  simp only[ev] at h;split at h
  ·rename_i τ l hl
   simp only[Option.some.injEq] at h;subst h;exact hG.va (hc q τ l hl)
  ·simp at h
section
variable {P:Program} [aD P] {F:Fence} {n:Nat} {c:Cfg} {g:Gh} {r:cj} {m:Mem} {xs:List Operand} {a:Act} {w:World} {o:Oper} {R:Type} {k:AV->Option R} {res:R}
theorem Env.evV (E:Env P c g r m xs a w) {x:Operand} (hx:x∈xs) {t:TypeId} {y:V1} (h:evV c r t x=some y):V1R g w y (a.eval x):=by
 unfold Go.Eng.evV at h;split at h
 ·rename_i z hz;cases h;exact E.ev x hx t _ hz
 ·simp at h
theorem Env.evA (E:Env P c g r m xs a w) {x:Operand} (hx:x∈xs) {t:TypeId} {y:At} (h:evA c r t x=some y):VA g w y (a.eval x):=by
 unfold Go.Eng.evA at h;split at h
 ·rename_i z hz;cases h;exact E.ev x hx t _ hz
 ·simp at h
def dR (P:Program) (F:Fence) (n:Nat) (g:Gh) (w:World) (o:Oper) (a:Act) (y:AV):Prop:=
 ∀(K:Act->World->Prop) (Q:Exit->Act->World->Prop),(∀v w',Below w.heap.size w w'->AVR (g.grow w w') w' y v->K (a.put o.dst v) w')->o.wpIn F n P a w K Q
structure bP (F:Fence):Prop where
 fn:∀f,F.fn f
 depth:F.depth=none
 alive:F.alive=false
theorem dR.val (hF:bP F) {y:AV} {v:Value} (hd:∀c,o.op≠ .defer c) (hr:(execOp a.eval o).run P w= .ok (.value v) w) (hv:AVR g w y v):dR P F n g w o a y:=by
 intro K Q hK;refine⟨λf _=>hF.fn f, ?_⟩;rw[Oper.semAt_eq _ _ _ hd,hr];exact hK v w (Below.refl _ _) (hv.mono (cr.refl _ _) (Gh.Du _ _ _))
theorem L4 (E:Env P c g r m xs a w) (hF:bP F) {x:Operand} (hx:x∈xs) (hop:o.op= .move x\/o.op= .assign x) (h:aj (Go.Eng.ev c r o.type x) k=some res):
 ∃y,k y=some res/\dR P F n g w o a y:=by
 obtain⟨y,hy,hk⟩:=bo h;refine⟨y,hk,dR.val hF ?_ ?_ (E.ev x hx _ _ hy)⟩
 ·intro c;rcases hop with h|h<;>simp [h]
 ·rcases hop with h|h<;>simp [execOp,h]
theorem Uo (E:Env P c g r m xs a w) (hF:bP F) {b x y:Operand} (hb:b∈xs) (hx:x∈xs) (hy:y∈xs) (hop:o.op= .pick b x y)
 {t:Bool} (ht:Go.Eng.evA c r 0 b=some (.bool t)) (h:ah t (aj (Go.Eng.ev c r o.type x) k) (aj (Go.Eng.ev c r o.type y) k)=some res):
 ∃y,k y=some res/\dR P F n g w o a y:=by
 have hbv:a.eval b= .bool t:=by
  have:=E.evA hb ht;generalize a.eval b=u at this⊢;cases this;rfl
 rcases a_ h with⟨rfl,h⟩ |⟨rfl,h⟩
 ·obtain⟨z,hz,hk⟩:=bo h
  exact⟨z,hk,dR.val hF (by simp [hop]) (by simp [execOp,hop,hbv,asBool]) (E.ev x hx _ _ hz)⟩
 ·obtain⟨z,hz,hk⟩:=bo h
  exact⟨z,hk,dR.val hF (by simp [hop]) (by simp [execOp,hop,hbv,asBool]) (E.ev y hy _ _ hz)⟩
theorem uH {g:Gh} {w:World} {τ:Ty} {x:τ.T} {bk of:Nat} {f:Nat->Value} (hcell:∀i,i<τ.n->w.cell? ⟨bk,of+i,none⟩=some (f i))
 (hf:∀i y,(τ.enc x)[i]? =some y->VA g w y (f i)) {j n:Nat} (hj:j+n<=τ.n):
 ∃us:List Value,us.length=n/\(∀i u,us[i]? =some u->w.cell? ⟨bk,of+j+i,none⟩=some u)/\bR (VA g w) (((τ.enc x).drop j).take n) us:=by
 refine⟨(List.range n).map λi=>f (j+i),by simp,λi u hu=> ?_,bR.Hq (by simp [cU];omega) λi x' u hx hu=> ?_⟩
 ·have hi:i<n:=by
   rcases Nat.lt_or_ge i n with h|h
   ·exact h
   ·rw[List.getElem?_eq_none (by simpa using h)] at hu;cases hu
  simp [hi] at hu;subst hu;rw[show of+j+i=of+(j+i) from by omega];exact hcell (j+i) (by omega)
 ·have hi:i<n:=by
   rcases Nat.lt_or_ge i n with h|h
   ·exact h
   ·rw[List.getElem?_eq_none (by simpa using h)] at hu;cases hu
  simp [hi] at hu;subst hu;rw[List.getElem?_take_of_lt hi,List.getElem?_drop] at hx;exact hf _ _ hx
theorem tz {p:At} {n:Nat} {k:List At->Option R} {v:Value} (hm:xI P g w m) (hp:VA g w p v) (h:js m p n k=some res):
 ∃cs us bk of,k cs=some res/\v= .pointer (some ⟨bk,of,none⟩)/\us.length=n/\(∀i u,us[i]? =some u->w.cell? ⟨bk,of+i,none⟩=some u)/\bR (VA g w) cs us:=by
 unfold js at h;split at h
 ·rename_i id off
  split at h
  ·rename_i l hl
   split at h
   ·rename_i hle
    cases hp with
    |ptr _ _ b k' hb hk'=>
     obtain⟨b',hb',k2,cs,e,hk2,hh,ha⟩:=hm _ _ hl;rw[hb] at hb';cases hb';rw[hk'] at hk2;cases hk2;have hle:=Nat.le_of_ble_eq_true hle;have hlen:=ha.length;refine⟨_,(cs.toList.drop off).take n,k',off,h,rfl, ?_,λi u hu=> ?_,(ha.drop off).take n⟩
     ·simp;simp at hlen;omega
     ·have hi:i<n:=by
       rcases Nat.lt_or_ge i n with h'|h'
       ·exact h'
       ·rw[List.getElem?_eq_none (by simp;omega)] at hu;cases hu
      rw[List.getElem?_take_of_lt hi,List.getElem?_drop] at hu;simp [World.cell?,hh];simpa using hu
   ·simp at h
  ·simp at h
 ·rename_i id i j
  split at h
  ·rename_i τ l hl
   split at h
   ·rename_i hle
    obtain⟨x,hx,hk⟩:=bo h;cases hp with
    |fB _ _ _ b k' hb hk'=>
     obtain⟨b',hb',hbr⟩:=hm _ _ hl;rw[hb] at hb';cases hb';obtain⟨f,hf1,hf2⟩:=hbr.cell hk';obtain⟨h1,h2,h3⟩:=hbr.len;have hi:i<l.length:=by
      rcases Nat.lt_or_ge i l.length with h'|h'
      ·exact h'
      ·rw[List.getElem?_eq_none h'] at hx;cases hx
     obtain⟨us,hu1,hu2,hu3⟩:=uH (g:=g) (w:=w) (τ:=τ) (x:=x) (bk:=k') (of:=i*b.sz) (f:=f i) (λq hq=>by rw[h3];exact hf1 i q (by omega) hq) (λq y hy=>hf2 i x q y hx hy) (Nat.le_of_ble_eq_true hle);exact⟨_,us,k',_,hk,rfl,hu1,hu2,hu3⟩
   ·simp at h
  ·simp at h
 ·rename_i τ x j
  split at h
  ·rename_i hle
   cases hp with
   |gQ _ _ _ bk of f ha hcell hf=>
    obtain⟨us,hu1,hu2,hu3⟩:=uH hcell hf (Nat.le_of_ble_eq_true hle);exact⟨_,us,bk,_,h,rfl,hu1,hu2,hu3⟩
  ·simp at h
 ·simp at h
theorem da (b o n:Nat):(⟨b,o,none⟩:Addr).add n=⟨b,o+n,none⟩:=by
 unfold Addr.add;split
 ·rename_i h;subst h;rfl
 ·rfl
theorem kU {t:TypeId} {d:TypeDesc} (h:P.underlying t=some d):(isAgg t).run P w= .ok (SW d) w:=by
 simp only[isAgg,Sem.run_bind,run_underlying h,Result.andThen_ok];cases d<;>rfl
theorem run_sizeOf {t:TypeId} {i:TypeInfo} (h:P.info? t=some i):(sizeOf t).run P w= .ok i.size w:=by
 simp [sizeOf,typeInfo,h]
theorem yH {b:Bool} {l:List At} {v:V1} (h:V1.dB b l=some v):(b=true/\v= .agg l)\/(b=false/\∃x,l=[x]/\v= .one x):=by
 unfold V1.dB at h;split at h
 ·cases h;exact .inl ⟨rfl,rfl⟩
 ·cases h;exact .inr ⟨rfl,_,rfl,rfl⟩
 ·simp at h
theorem re {t:TypeId} {ti:TI} {i:TypeInfo} {d:TypeDesc} (T:rq P t ti i d) {bk of:Nat} {us:List Value} (hl:us.length=ti.size)
 (hc:∀i u,us[i]? =some u->w.cell? ⟨bk,of+i,none⟩=some u) {cs:List At} (ha:bR (VA g w) cs us) {v:V1} (hv:V1.dB ti.agg cs=some v):
 ∃u,(loadVar t ⟨bk,of,none⟩).run P w= .ok u w/\V1R g w v u:=by
 rcases yH hv with⟨hb,rfl⟩ |⟨hb,x,rfl,rfl⟩
 ·refine⟨.agg us.toArray, ?_,us,rfl,ha⟩
  have hlc:=run_loadCells_list (P:=P) w ⟨bk,of,none⟩ us (λj u hu=>by rw[da];exact hc j u hu);simp only[loadVar,Sem.run_bind,kU T.und,Result.andThen_ok,T.agg,hb,if_true,run_sizeOf T.info,T.size,<-hl,hlc,Sem.run_pure]
 ·cases ha with
  |cons h1 t1=>
   cases t1;rename_i u;refine⟨u, ?_,h1⟩;have:=hc 0 u rfl;simp only[Nat.add_zero] at this;simp [loadVar,kU T.und,T.agg,hb,this]
theorem Te (E:Env P c g r m xs a w) (hF:bP F) {t:TypeId} {x:Operand} (hx:x∈xs) (hop:o.op= .load t x) {ti:TI} {p:At} (hti:c.ti t=some ti) (hp:Go.Eng.evA c r 0 x=some p)
 (h:js m p ti.size (λl=>aj (V1.dB ti.agg l) λv=>k (.v v))=some res):∃y,k y=some res/\dR P F n g w o a y:=by
 obtain⟨i,d,T⟩:=E.ts t ti hti;obtain⟨cs,us,bk,of,hk,hv,hl,hc,ha⟩:=tz E.mem (E.evA hx hp) h;obtain⟨v,hv1,hk⟩:=bo hk;obtain⟨u,hu,hvu⟩:=re T hl hc ha hv1;exact⟨_,hk,dR.val hF (by simp [hop]) (v:=u) (by simp [execOp,hop,hv,Instr.loadAt,Instr.sureAddr,hu]) hvu⟩
theorem kH (E:Env P c g r m xs a w) (hF:bP F) {x:Operand} (hx:x∈xs) (hop:o.op= .nilCheck x) {p:At} (hp:Go.Eng.evA c r 0 x=some p)
 (hk:k (.one p)=some res) (hc:(∃id off,p= .ptr id off)\/(∃id i j,p= .fB id i j)\/(∃τ x j,p= .gQ τ x j)\/(∃τ l,p= .gl τ l)\/(∃f,p= .fnc f)\/(∃f,p= .clo f)):
 ∃y,k y=some res/\dR P F n g w o a y:=by
 have hv:=E.evA hx hp;refine⟨_,hk,dR.val hF (by simp [hop]) (v:=a.eval x) ?_ hv⟩;simp only[execOp,hop];generalize a.eval x=u at hv⊢;rcases hc with⟨_,_,rfl⟩ |⟨_,_,_,rfl⟩ |⟨_,_,_,rfl⟩ |⟨_,_,rfl⟩ |⟨_,rfl⟩ |⟨_,rfl⟩<;>cases hv<;>simp
theorem zx {t:TypeId} {ti:TI} {i:TypeInfo} {d:TypeDesc} (T:rq P t ti i d) {fs:List (Nat×TypeId)} (hk:ti.k= .struct fs) {f off:Nat} {t':TypeId} (hf:fs[f]? =some (off,t')):
 ∃(fields:Array Field) (fd:Field),P.underlying t=some (.struct fields)/\fields[f]? =some fd/\fd.offset=off/\fd.type=t'/\∃j,P.info? t'=some j/\j.size≠0:=by
 obtain⟨fields,rfl,hb⟩:=T.struct hk;obtain⟨fd,h1,h2⟩:=oa hb hf;exact⟨fields,fd,T.und,by simpa using h1,h2⟩
theorem zg {bk of:Nat} {fd:Field} {j:TypeInfo} (hj:P.info? fd.type=some j) (h0:j.size≠0):(fieldPlace ⟨bk,of,none⟩ fd).run P w= .ok ⟨bk,of+fd.offset,none⟩ w:=by
 simp [fieldPlace,run_sizeOf hj,h0,da]
theorem DT {s:TypeId} {fields:Array Field} {f:Nat} {fd:Field} {j:TypeInfo} (hu:P.underlying s=some (.struct fields)) (hf:fields[f]? =some fd) (hj:P.info? fd.type=some j) (h0:j.size≠0) (bk of:Nat):
 (Instr.fieldAt s (.pointer (some ⟨bk,of,none⟩)) f).run P w= .ok (.pointer (some ⟨bk,of+fd.offset,none⟩)) w:=by
 simp [Instr.fieldAt,run_underlying hu,hf,Instr.sureAddr,zg hj h0]
theorem DU (E:Env P c g r m xs a w) (hF:bP F) {s:TypeId} {x:Operand} {f:Nat} (hx:x∈xs) (hop:o.op= .fieldAddr s x f) {ti:TI} {fs:List (Nat×TypeId)} (hti:c.ti s=some ti) (hfs:ti.k= .struct fs)
 {p:At} (hp:Go.Eng.evA c r 0 x=some p) {off:Nat} {t':TypeId} (hf:fs[f]? =some (off,t'))
 (h:(match (generalizing:=false) p with
  | .ptr id o=>k (.one (.ptr id (o+off)))
  | .fB id i j=>k (.one (.fB id i (j+off)))
  | .gQ τ x j=>k (.one (.gQ τ x (j+off)))
  |_=>none)=some res):∃y,k y=some res/\dR P F n g w o a y:=by
 obtain⟨i,d,T⟩:=E.ts s ti hti;obtain⟨fields,fd,hu,hfd,ho,rfl,j,hj,h0⟩:=zx T hfs hf;have hv:=E.evA hx hp;have fin:∀{q:At} {bk of:Nat},a.eval x= .pointer (some ⟨bk,of,none⟩)->VA g w q (.pointer (some ⟨bk,of+off,none⟩))->dR P F n g w o a (.one q):=by
  intro q bk of e hq;refine dR.val hF (by simp [hop]) (v:= .pointer (some ⟨bk,of+off,none⟩)) ?_ hq;simp [execOp,hop,e,DT hu hfd hj h0,ho]
 generalize hev:a.eval x=u at hv;split at h
 ·cases hv with
  |ptr id o b k' hm hk=>exact⟨_,h,fin hev (.ptr _ _ b k' hm hk)⟩
 ·cases hv with
  |fB id i j b k' hm hk=>exact⟨_,h,fin hev (by rw[Nat.add_assoc];exact .fB _ _ _ b k' hm hk)⟩
 ·cases hv with
  |gQ τ x j bk of f ha hcell hf=>exact⟨_,h,fin hev (by rw[Nat.add_assoc];exact .gQ _ _ _ bk of f ha hcell hf)⟩
 ·simp at h
theorem Po (E:Env P c g r m xs a w) (hF:bP F) {t:TypeId} {x i:Operand} (hx:x∈xs) (hi:i∈xs) (hop:o.op= .index t x i) {s:Str} {κ:IntKind} {q:Int}
 (hs:Go.Eng.evV c r t x=some (.one (.str s))) (hq:Go.Eng.evA c r 0 i=some (.int κ q)) (hu:P.underlying t=some .string)
 (h:ah (decide (0<=q)) (aj s[q.toNat]? λb=>k (.one (.int .u8 b.toNat))) none=some res):∃y,k y=some res/\dR P F n g w o a y:=by
 have h1:VA g w (.str s) (a.eval x):=E.evV hx hs;have h2:=E.evA hi hq;generalize hxv:a.eval x=u at h1;generalize hiv:a.eval i=u' at h2;rcases a_ h with⟨h0,h⟩ |⟨_,h⟩
 ·simp only[decide_eq_true_eq] at h0
  obtain⟨b,hb,hk⟩:=bo h;cases h1 with
  |str _ bs e=>
   cases h2;refine⟨_,hk,dR.val hF (by simp [hop]) (v:= .int .u8 b.toNat) ?_ (VA.int _ _)⟩;have hsz:q.toNat<bs.size:=by
    rcases Nat.lt_or_ge q.toNat s.length with h'|h'
    ·rw[<-e] at h';simpa using h'
    ·rw[List.getElem?_eq_none h'] at hb;cases hb
   have hb':bs[q.toNat]? =some b:=by
    rw[<-e] at hb;simp only[Array.getElem?_toList] at hb;rw[getElem?_pos bs q.toNat hsz];rw[getElem?_pos bs.data q.toNat hsz] at hb;exact hb
   simp [execOp,hop,hxv,hiv,Instr.index,asIntOf,run_underlying hu,h0,hb']
 ·simp at h
theorem Jo (E:Env P c g r m xs a w) (hF:bP F) {x:Operand} {i:Nat} (hx:x∈xs) (hop:o.op= .extract x i) {l:List V1} {v:V1} (hl:Go.Eng.ev c r 0 x=some (.tup l)) (hv:l[i]? =some v)
 (hk:k (.v v)=some res):∃y,k y=some res/\dR P F n g w o a y:=by
 obtain⟨vs,he,ha⟩:=E.ev x hx _ _ hl;obtain⟨u,hu,hr⟩:=ha.get hv;refine⟨_,hk,dR.val hF (by simp [hop]) (v:=u) ?_ hr⟩;have:vs.toArray[i]? =some u:=by simpa using hu
 simp [execOp,hop,he,Instr.extract,hu]
end
section
variable {P:Program} [aD P] {F:Fence} {n:Nat} {c:Cfg} {g:Gh} {r:cj} {m:Mem} {xs:List Operand} {a:Act} {w:World} {o:Oper} {R:Type} {k:AV->Option R} {res:R}
theorem QL {op:BinOp} {κ:IntKind} {p q:Int} (t:TypeId) (hs:C0 op=false) (h:Ks op κ p q k=some res):
 ∃y v,k y=some res/\(binOp op t (.int κ p) (.int κ q)).run P w= .ok v w/\∀g,AVR g w y v:=by
 cases op<;>simp only[Ks,C0,reduceCtorEq] at h hs<;>try (simp at hs;done)
 case quo=>
  rcases a_ h with⟨_,h⟩ |⟨h0,h⟩
  ·simp at h
  ·simp only[beq_eq_false_iff_ne] at h0
   exact⟨_,_,h,by simp [binOp,Op.intDiv,h0],λg=>VA.int _ _⟩
 case rem=>
  rcases a_ h with⟨_,h⟩ |⟨h0,h⟩
  ·simp at h
  ·simp only[beq_eq_false_iff_ne] at h0
   exact⟨_,_,h,by simp [binOp,Op.intDiv,h0],λg=>VA.int _ _⟩
 all_goals first
  |(refine⟨_, .int κ _,h, ?_,λg=>VA.int _ _⟩;simp [binOp,Op.intArith];done)
  |(refine⟨_, .bool _,h, ?_,λg=>VA.bool _⟩;simp [binOp,Op.intCmp];done)
  |(refine⟨_, .int κ _,h, ?_,λg=>VA.int _ _⟩;simp only[binOp,ne_eq,not_true_eq_false,if_false];rfl)
theorem Jv {op:BinOp} {κ κ':IntKind} {p q:Int} (t:TypeId) (h:wk op κ p q k=some res):
 ∃y v,k y=some res/\(binOp op t (.int κ p) (.int κ' q)).run P w= .ok v w/\∀g,AVR g w y v:=by
 cases op<;>simp only[wk,reduceCtorEq] at h<;>
  (rcases a_ h with⟨_,h⟩ |⟨h0,h⟩
   ·simp at h
   ·simp only[decide_eq_false_iff_not] at h0
    exact⟨_, .int κ _,h,by simp [binOp,Op.shift,h0],λg=>VA.int _ _⟩)
theorem Qx {op:BinOp} {p q:Str} {b b':ByteArray} (t:TypeId) (hp:b.data.toList=p) (hq:b'.data.toList=q) (h:Jp op p q k=some res):
 ∃y v,k y=some res/\(binOp op t (.string b) (.string b')).run P w= .ok v w/\∀g,AVR g w y v:=by
 have e1:b.toList=p:=by rw[ByteArray.toList_eq];exact hp
 have e2:b'.toList=q:=by rw[ByteArray.toList_eq];exact hq
 cases op<;>simp only[Jp,reduceCtorEq] at h
 case add=>
  obtain⟨hle,h⟩:=iv h;refine⟨_, .string (b++b'),h, ?_,λg=>VA.str _ _ ?_⟩
  ·have h1:b.size=p.length:=by rw[<-hp];simp
   have h2:b'.size=q.length:=by rw[<-hq];simp
   have:¬(((b.size+b'.size:Nat):Int)>IntKind.i64.max):=by
    have e:IntKind.i64.max=9223372036854775807:=by decide
    rw[e];unfold LIM at hle;omega
   simp only[binOp,Op.stringOp,this,if_false];rfl
  ·simp [hp,hq]
 all_goals exact⟨_,_,h,by simp only[binOp,Op.stringOp,e1,e2];rfl,λg=>VA.bool _⟩
theorem OI {x y:At} {e:EK} {t:Bool} {vx vy:Value} {ty:TypeId} {d:Nat} (h:LZ e x y=some t) (hx:VA g w x vx) (hy:VA g w y vy) (hk:ekB P ty e=true):
 (Op.equalIn (d+1) ty vx vy).run P w= .ok t w/\(isAgg ty).run P w= .ok false w:=by
 unfold LZ at h;split at h
 ·rename_i κ p κ' q
  split at h
  ·cases h
   have:=uq ‹_›;subst this;simp only[ekB] at hk;split at hk
   ·rename_i κ'' hu
    cases hx;cases hy;exact⟨run_equalIn_int w d _ κ κ'' p q hu,kU hu⟩
   ·simp at hk
  ·simp at h
 ·cases h
  simp only[ekB] at hk;split at hk
  ·rename_i hu
   cases hx with
   |str _ b e1=>
    cases hy with
    |str _ b' e2=>
     refine⟨?_,kU hu⟩;rw[run_equalIn_string w d _ b b' hu,ByteArray.toList_eq,ByteArray.toList_eq,e1,e2]
  ·simp at hk
 ·cases h
  simp only[ekB] at hk;split at hk
  ·rename_i hu
   cases hx;cases hy;exact⟨run_equalIn_bool' w d _ _ _ hu,kU hu⟩
  ·simp at hk
 ·simp at h
theorem ml {xs ys:Array Value} {d:Nat}:∀(fs:List Field) (es:List EK) (i:Nat) (l l':List At) (t:Bool),J9 P i fs es=true->bR (VA g w) l (xs.toList.drop i)->bR (VA g w) l' (ys.toList.drop i)->
 n0 es l l'=some t->(Op.eqFields (d+1) xs ys fs).run P w= .ok t w
 | [], [],i,l,l',t,_,_,_,h=>by
  cases l<;>cases l'<;>simp [n0] at h
  subst h;simp [Op.eqFields]
 | [],_::_,_,_,_,_,hb,_,_,_=>by simp [J9] at hb
 |_::_, [],_,_,_,_,hb,_,_,_=>by simp [J9] at hb
 |f::fs,e::es,i, [],l',t,_,_,_,h=>by simp [n0] at h
 |f::fs,e::es,i,_::_, [],t,_,_,_,h=>by simp [n0] at h
 |f::fs,e::es,i,x::l,y::l',t,hb,hx,hy,h=>by
  simp only[J9,Bool.and_eq_true,bne_iff_ne,ne_eq] at hb;obtain⟨h1,h2,h3,h4⟩:=hb;have ho:=Nat.eq_of_beq_eq_true h1;have nx:∀{z:At} {q:List At} {zs:Array Value},bR (VA g w) (z::q) (zs.toList.drop i)->∃v,zs[i]? =some v/\VA g w z v/\bR (VA g w) q (zs.toList.drop (i+1)):=by
   intro z q zs ha;have hlt:i<zs.toList.length:=by have:=ha.length;simp at this;simp;omega
   rw[List.drop_eq_getElem_cons hlt] at ha;cases ha with
   |cons h1 h2=>exact⟨_,by simpa using hlt,h1,h2⟩
  obtain⟨vx,gx,hx1,hx2⟩:=nx hx;obtain⟨vy,gy,hy1,hy2⟩:=nx hy;have fin:∀(t1 t2:Bool),LZ e x y=some t1->(Op.eqFields (d+1) xs ys fs).run P w= .ok t2 w->(Op.eqFields (d+1) xs ys (f::fs)).run P w= .ok (t1&&t2) w:=by
   intro t1 t2 he hr;obtain⟨r1,r2⟩:=OI (d:=d) he hx1 hy1 h3;have hp:∀(zs:Array Value) (v:Value),zs[i]? =some v->(part f.type zs f.offset).run P w= .ok v w:=by
    intro zs v hz;simp [part,r2,ho,hz]
   simp only[Op.eqFields,h2,ne_eq,not_false_eq_true,if_true,Sem.run_bind,hp xs vx gx,hp ys vy gy,r1,Result.andThen_ok];cases t1
   ·simp
   ·simp [hr]
  unfold n0 at h;cases es with
  |nil=>
   cases l with
   |nil=>
    cases l' with
    |nil=>
     have:=fin t true (by simpa using h) (ml fs [] (i+1) [] [] true h4 hx2 hy2 rfl);simpa using this
    |cons _ _=>simp at h
   |cons _ _=>simp at h
  |cons e' es=>
   simp only at h;split at h
   ·rename_i t1 t2 g1 g2
    cases h;exact fin t1 t2 g1 (ml fs _ (i+1) l l' t2 h4 hx2 hy2 g2)
   ·simp at h
theorem Rj {op:BinOp} {t:TypeId} {x y:AV} {vx vy:Value} {px py:Operand} (hq:IW P c) (ht:Q2 P c) (hx:AVR g w x vx) (hy:AVR g w y vy) (h:FL (vh (c.ti t)) (look t c.eqs) op x y k=some res):
 ∃z v,k z=some res/\(do eqGuard op t px py vx vy;binOp op t vx vy:Sem Value).run P w= .ok v w/\∀g,AVR g w z v:=by
 unfold FL at h;split at h
 ·cases hx;cases hy
  have hg:∀κ κ' p q,(eqGuard op t px py (.int κ p) (.int κ' q)).run P w= .ok () w:=by intros;cases op<;>simp [eqGuard]
  split at h
  ·obtain⟨z,v,h1,h2,h3⟩:=Jv (P:=P) (w:=w) (κ':=_) t h
   exact⟨z,v,h1,by simp only[Sem.run_bind,hg,Result.andThen_ok];exact h2,h3⟩
  ·split at h
   ·have e:=uq ‹_›
    subst e;obtain⟨z,v,h1,h2,h3⟩:=QL (P:=P) (w:=w) t ‹_› h;exact⟨z,v,h1,by simp only[Sem.run_bind,hg,Result.andThen_ok];exact h2,h3⟩
   ·simp at h
 ·cases hx with
  |str _ b e1=>
   cases hy with
   |str _ b' e2=>
    obtain⟨z,v,h1,h2,h3⟩:=Qx (P:=P) (w:=w) t e1 e2 h;have hg:(eqGuard op t px py (.string b) (.string b')).run P w= .ok () w:=by cases op<;>simp [eqGuard]
    exact⟨z,v,h1,by simp only[Sem.run_bind,hg,Result.andThen_ok];exact h2,h3⟩
 ·cases hx;cases hy
  have hg:∀p q,(eqGuard op t px py (.bool p) (.bool q)).run P w= .ok () w:=by intros;cases op<;>simp [eqGuard]
  have hbt:∀{b:Bool},vh (c.ti t)=b->b=true->P.underlying t=some .bool:=by
   rintro b he rfl;unfold vh at he;split at he
   ·rename_i ti hti
    obtain⟨i,d,T⟩:=ht _ _ hti;have:=T.k;cases d<;>simp [tkB] at this
    exact T.und
   ·simp at he
  split at h
  ·rename_i heq
   have hu:=hbt heq rfl;exact⟨_,_,h,by simp only[Sem.run_bind,hg,Result.andThen_ok];simp [binOp,Op.equal,Op.maxDepth,run_equalIn_bool' w 9999 t _ _ hu],λg=>VA.bool _⟩
  ·rename_i heq
   have hu:=hbt heq rfl;exact⟨_,_,h,by simp only[Sem.run_bind,hg,Result.andThen_ok];simp [binOp,Op.equal,Op.maxDepth,run_equalIn_bool' w 9999 t _ _ hu],λg=>VA.bool _⟩
  ·simp at h
 ·rename_i la lb
  obtain⟨vs,rfl,hx⟩:=hx;obtain⟨us,rfl,hy⟩:=hy;split at h
  ·rename_i es he
   have hb:=hq t es he;unfold eqB at hb;split at hb
   ·rename_i fs hu
    simp only[Bool.and_eq_true,Bool.not_eq_true'] at hb;obtain⟨b1,b2,b3⟩:=hb;have hfo:P.fieldsOf t=fs:=by simp [Program.fieldsOf,hu]
    have hgd:(eqGuard op t px py (.agg vs.toArray) (.agg us.toArray)).run P w= .ok () w:=run_eqGuard_agg w op t px py _ _ b2;have heq:∀tt,n0 es la lb=some tt->(Op.equalIn 10000 t (.agg vs.toArray) (.agg us.toArray)).run P w= .ok tt w:=by
     intro tt htt;rw[run_equalIn_struct w 9999 t _ _ (by rw[hfo];exact hu) b1,hfo];exact ml fs.toList es 0 _ _ tt b3 (by simpa using hx) (by simpa using hy) htt
    split at h
    ·rename_i tt htt
     exact⟨_,_,h,by simp only[Sem.run_bind,hgd,Result.andThen_ok,run_eql_struct,heq _ htt],λg=>VA.bool _⟩
    ·rename_i tt htt
     exact⟨_,_,h,by simp only[Sem.run_bind,hgd,Result.andThen_ok,run_neq_struct,heq _ htt],λg=>VA.bool _⟩
    ·simp at h
   ·simp at hb
  ·simp at h
 ·simp at h
theorem VX (E:Env P c g r m xs a w) (hF:bP F) {op:BinOp} {t t':TypeId} {x y:Operand} (hx:x∈xs) (hy:y∈xs) (hop:o.op= .binOp op t x y t') {u v:AV}
 (hu:Go.Eng.ev c r t x=some u) (hv:Go.Eng.ev c r t y=some v) (h:FL (vh (c.ti t)) (look t c.eqs) op u v k=some res):∃y,k y=some res/\dR P F n g w o a y:=by
 obtain⟨z,q,h1,h2,h3⟩:=Rj (P:=P) (w:=w) (px:=x) (py:=y) E.eqs E.ts (E.ev x hx _ _ hu) (E.ev y hy _ _ hv) h;refine⟨z,h1,dR.val hF (by simp [hop]) (v:=q) ?_ (h3 g)⟩;simp only[execOp,hop];rw[Sem.run_bind];rw[h2];rfl
theorem adp (E:Env P c g r m xs a w) (hF:bP F) {op:UnOp} {t:TypeId} {x:Operand} (hx:x∈xs) (hop:o.op= .unOp op t x) {u:AV}
 (hu:Go.Eng.ev c r t x=some u) (h:unQ op u k=some res):∃y,k y=some res/\dR P F n g w o a y:=by
 have hv:=E.ev x hx _ _ hu;generalize hxv:a.eval x=v at hv;unfold unQ at h;split at h
 ·cases hv
  exact⟨_,h,dR.val hF (by simp [hop]) (v:= .bool _) (by simp [execOp,hop,hxv,Op.unary]) (VA.bool _)⟩
 ·cases hv
  refine⟨_,h,dR.val hF (by simp [hop]) (v:= .int _ _) ?_ (VA.int _ _)⟩;simp [execOp,hop,hxv,Op.unary,Op.intArith]
 ·simp at h
theorem Rf (E:Env P c g r m xs a w) (hF:bP F) {t:TypeId} {x:Operand} {f:Nat} (hx:x∈xs) (hop:o.op= .field t x f) {ti:TI} {fs:List (Nat×TypeId)} (hti:c.ti t=some ti) (hfs:ti.k= .struct fs)
 {l:List At} (hl:Go.Eng.evV c r 0 x=some (.agg l)) {off:Nat} {t':TypeId} (hf:fs[f]? =some (off,t')) {tj:TI} (htj:c.ti t'=some tj) (hle:Nat.ble (off+tj.size) l.length=true)
 (h:aj (V1.dB tj.agg ((l.drop off).take tj.size)) (λv=>k (.v v))=some res):∃y,k y=some res/\dR P F n g w o a y:=by
 obtain⟨i,d,T⟩:=E.ts t ti hti;obtain⟨i',d',T'⟩:=E.ts t' tj htj;obtain⟨fields,fd,hu,hfd,ho,hty,j,hj,h0⟩:=zx T hfs hf;obtain⟨vs,he,ha⟩:=E.evV hx hl;obtain⟨v,hv,hk⟩:=bo h;have hlen:=ha.length;have hle:=Nat.le_of_ble_eq_true hle;have ha':=(ha.drop off).take tj.size;have hul:((vs.drop off).take tj.size).length=tj.size:=by simp;omega
 rcases yH hv with⟨hb,rfl⟩ |⟨hb,z,hz,rfl⟩
 ·refine⟨_,hk,dR.val hF (by simp [hop]) (v:= .agg ((vs.drop off).take tj.size).toArray) ?_ ⟨_,rfl,ha'⟩⟩
  have hex:(vs.toArray.extract off (off+tj.size))=((vs.drop off).take tj.size).toArray:=by
   apply Array.ext';simp [List.take_drop,Nat.add_comm]
  simp [execOp,hop,he,Instr.field,run_underlying hu,hfd,part,hty,ho,kU T'.und,T'.agg,hb,run_sizeOf T'.info,T'.size,asAgg,hex]
 ·rw[hz] at ha'
  obtain⟨u,hu1,hu2⟩:=ha'.get (i:=0) rfl;have hus:vs[off]? =some u:=by
   have h0':0<tj.size:=by
    have:((vs.drop off).take tj.size)[0]? =some u:=hu1;rcases Nat.eq_zero_or_pos tj.size with h|h
    ·rw[h] at this;simp at this
    ·exact h
   rw[List.getElem?_take_of_lt h0',List.getElem?_drop] at hu1;simpa using hu1
  refine⟨_,hk,dR.val hF (by simp [hop]) (v:=u) ?_ hu2⟩;simp [execOp,hop,he,Instr.field,run_underlying hu,hfd,part,hty,ho,kU T'.und,T'.agg,hb,asAgg,hus]
theorem Eb {t e:TypeId} {j:TypeInfo} (hu:P.underlying t=some (.slice e)) (hj:P.info? e=some j) {bk of len cap:Nat} {κ:IntKind} {q:Int} (h0:0<=q) (h1:q<(len:Int)):
 (Instr.indexAt t (.slice (some ⟨bk,of,none⟩) len cap) (.int κ q)).run P w= .ok (.pointer (some ⟨bk,of+q.toNat*j.size,none⟩)) w:=by
 simp [Instr.indexAt,asIntOf,run_underlying hu,h0,h1,run_sizeOf hj,da]
theorem xG {q:Int} {kk:Nat->Option R}:∀{m i:Nat},splitK q m i kk=some res->∃j:Nat,j<i+m/\q=(j:Int)/\kk j=some res
 |0,i,h=>by simp [splitK] at h
 |m+1,i,h=>by
  simp only[splitK] at h;rcases a_ h with⟨hb,h⟩ |⟨_,h⟩
  ·exact⟨i,by omega,beq_iff_eq.1 hb,h⟩
  ·obtain⟨j,h1,h2,h3⟩:=xG h
   exact⟨j,by omega,h2,h3⟩
theorem Fy (E:Env P c g r m xs a w) (hF:bP F) {t:TypeId} {x i:Operand} (hx:x∈xs) (hi:i∈xs) (hop:o.op= .indexAddr t x i) {p:At} {κ:IntKind} {q:Int}
 (hp:Go.Eng.evA c r t x=some p) (hq:Go.Eng.evA c r 0 i=some (.int κ q))
 (h:C6 c m t p q k=some res):∃y,k y=some res/\dR P F n g w o a y:=by
 have hv:=E.evA hx hp;have hiv:a.eval i= .int κ q:=by
  have:=E.evA hi hq;generalize a.eval i=u at this⊢;cases this;rfl
 unfold C6 at h;split at h
 case h_1 ti τ e hti=>
  obtain⟨i',d,T⟩:=E.ts t _ hti;obtain⟨rfl,j,hj,hjs,_⟩:=T.slice rfl;generalize hxv:a.eval x=u at hv;have fin:∀{z:At} {bk of len cap:Nat},u= .slice (some ⟨bk,of,none⟩) len cap->0<=q->q<(len:Int)->VA g w z (.pointer (some ⟨bk,of+q.toNat*τ.n,none⟩))->dR P F n g w o a (.one z):=by
   intro z bk of len cap e h0 h1 hz;refine dR.val hF (by simp [hop]) ?_ hz;simp only[execOp,hop,hxv,hiv,e,Sem.run_bind,Eb T.und hj h0 h1,Result.andThen_ok,hjs];rfl
  have elem:∀{τ':Ty} {l:List τ'.T} {av:Option Addr} {len cap bk of:Nat} {f:Nat->Nat->Value} {y:τ'.T},u= .slice av len cap->len=l.length->(l≠ [] ->av=some ⟨bk,of,none⟩/\g.S bk)->
   (∀i j,i<l.length->j<τ'.n->w.cell? ⟨bk,of+(i*τ'.n+j),none⟩=some (f i j))->(∀i x j y,l[i]? =some x->(τ'.enc x)[j]? =some y->VA g w y (f i j))->τ'.n=τ.n->0<=q->l[q.toNat]? =some y->
   dR P F n g w o a (.one (.gQ τ' y 0)):=by
   intro τ' l av len cap bk of f y e hl ha hcell hf hn h0 hy;have hlt:q.toNat<l.length:=by
    rcases Nat.lt_or_ge q.toNat l.length with h'|h'
    ·exact h'
    ·rw[List.getElem?_eq_none h'] at hy;cases hy
   obtain⟨rfl,hS⟩:=ha (ne_of_lt hlt);refine fin e h0 (by omega) ?_;rw[<-hn];exact VA.gQ τ' y 0 bk (of+q.toNat*τ'.n) (f q.toNat) hS (λj hj=>by rw[Nat.add_assoc];exact hcell _ j hlt hj) (λj z hz=>hf _ _ j z hy hz)
  split at h
  ·rename_i τ' l
   split at h
   ·rename_i hn
    have hn:=Nat.eq_of_beq_eq_true hn;rcases a_ h with⟨h0,h⟩ |⟨_,h⟩
    ·obtain⟨y,hy,hk⟩:=bo h
     cases hv with
     |sl _ _ av len cap bk of f hl hc ha hcell hf=>exact⟨_,hk,elem rfl hl ha hcell hf hn (by simpa using h0) hy⟩
    ·simp at h
   ·simp at h
  ·rename_i τ' l
   split at h
   ·rename_i hn
    have hn:=Nat.eq_of_beq_eq_true hn;rcases a_ h with⟨h0,h⟩ |⟨_,h⟩
    ·obtain⟨y,hy,hk⟩:=bo h
     cases hv with
     |clip _ _ av len bk of f hl ha hcell hf=>exact⟨_,hk,elem rfl hl ha hcell hf hn (by simpa using h0) hy⟩
    ·simp at h
   ·simp at h
  ·rename_i id
   split at h
   ·rename_i τ' l hl
    split at h
    ·rename_i hn
     have hn:=Nat.eq_of_beq_eq_true hn;rcases a_ h with⟨h0,hk⟩ |⟨_,h⟩
     ·simp only[decide_eq_true_eq] at h0
      obtain⟨b,hb,hbr⟩:=E.mem _ _ hl;have hlen:=hbr.len;cases hv with
      |own _ b' av hm hk' h0'=>
       rw[hb] at hm;cases hm;cases hbk:b.blk with
       |none=>have:=(h0' hbk).2;omega
       |some kk=>
        have:=hk' kk hbk;subst this;refine⟨_,hk,fin rfl h0.1 (by omega) ?_⟩;have:=VA.fB (g:=g) (w:=w) id q.toNat 0 b kk hb hbk;rw[hlen.2.2,hn] at this;simpa using this
     ·simp at h
    ·simp at h
   ·simp at h
  ·rename_i id off len
   split at h
   ·rename_i τ' l hl
    split at h
    ·rename_i hn
     have hn:=Nat.eq_of_beq_eq_true hn;rcases a_ h with⟨h0,hk⟩ |⟨_,h⟩
     ·simp only[decide_eq_true_eq] at h0
      obtain⟨b,hb,hbr⟩:=E.mem _ _ hl;have hlen:=hbr.len;cases hv with
      |sub _ _ _ b' av cc hm hl' hc hk'=>
       rw[hb] at hm;cases hm;obtain⟨kk,hbk,rfl⟩:=hk' (by omega);refine⟨_,hk,fin rfl h0.1 h0.2 ?_⟩;have:=VA.fB (g:=g) (w:=w) id (off+q.toNat) 0 b kk hb hbk;rw[hlen.2.2,hn,Nat.add_mul] at this;rw[hlen.2.2,hn];simpa using this
     ·simp at h
    ·simp at h
   ·simp at h
  ·simp at h
 case h_2 ti len e hti=>
  split at h
  ·rename_i id off te hte
   obtain⟨j,hj,rfl,hk⟩:=xG h;obtain⟨i',d,T⟩:=E.ts t _ hti;obtain⟨i2,d2,T2⟩:=E.ts e _ hte;have hd:=T.array rfl;subst hd;generalize hxv:a.eval x=u at hv;cases hv with
   |ptr _ _ b kk hm hbk=>
    refine⟨_,hk,dR.val hF (by simp [hop]) ?_ (VA.ptr id _ b kk hm hbk)⟩;simp only[execOp,hop,hxv,hiv,Instr.indexAt,asIntOf,Sem.run_bind,run_underlying T.und,Result.andThen_ok,Instr.sureAddr,Sem.run_pure,run_sizeOf T2.info,T2.size,da,Sem.run_ite];rw[if_pos (by constructor<;>omega)];simp [run_sizeOf T2.info,T2.size]
  ·rename_i τ l te hte
   split at h
   ·rename_i hn hlen
    have hn:=Nat.eq_of_beq_eq_true hn;have hlen:=Nat.eq_of_beq_eq_true hlen;rcases a_ h with⟨h0,h⟩ |⟨_,h⟩
    ·simp only[decide_eq_true_eq] at h0
     obtain⟨y,hy,hk⟩:=bo h;have hlt:q.toNat<l.length:=(List.getElem?_eq_some_iff.1 hy).1;obtain⟨i',d,T⟩:=E.ts t _ hti;obtain⟨i2,d2,T2⟩:=E.ts e _ hte;have hd:=T.array rfl;subst hd;generalize hxv:a.eval x=u at hv;cases hv with
     |gl _ _ bk f hS hcell hf=>
      refine⟨_,hk,dR.val hF (by simp [hop]) ?_ (VA.gQ τ y 0 bk (q.toNat*τ.n) (f q.toNat) hS (λj hj=>hcell _ j hlt hj) (λj z hz=>hf _ _ j z hy hz))⟩;simp only[execOp,hop,hxv,hiv,Instr.indexAt,asIntOf,Sem.run_bind,run_underlying T.und,Result.andThen_ok,Instr.sureAddr,Sem.run_pure,run_sizeOf T2.info,T2.size,da,Sem.run_ite];rw[if_pos (by constructor<;>omega)];simp [run_sizeOf T2.info,T2.size,hn]
    ·simp at h
   ·simp at h
  ·simp at h
 ·simp at h
end
section
variable {P:Program} [aD P] {F:Fence} {n:Nat} {c:Cfg} {g:Gh} {r:cj} {m:Mem} {xs:List Operand} {a:Act} {w:World} {o:Oper} {R:Type} {k:AV->Option R} {res:R}
def cE (l:List Value) (off:Nat):List Value->List Value
 | [] =>l
 |x::r=>cE (l.set off x) (off+1) r
theorem nK:∀{p:List At} {u:List Value} {l:List At} {v:List Value} (off:Nat),bR (VA g w) p u->bR (VA g w) l v->bR (VA g w) (setCells l off p) (cE v off u)
 | [], [],_,_,_,_,h=>h
 |x::p,y::u,l,v,off,hp,h=>by
  cases hp with
  |cons h1 h2=>exact nK (off+1) h2 (h.set h1 off)
 | [],_::_,_,_,_,hp,_=>by cases hp
 |_::_, [],_,_,_,hp,_=>by cases hp
theorem fj:∀(u l:List Value) (off:Nat),(cE l off u).length=l.length
 | [],l,off=>rfl
 |x::u,l,off=>by simp [cE,fj u]
theorem vj:∀(u:List Value) (cs:Array Value) (off j:Nat),(u.zipIdx j).foldl (λcs (x:Value×Nat)=>cs.setIfInBounds (off+x.2) x.1) cs=(cE cs.toList (off+j) u).toArray
 | [],cs,off,j=>by simp [cE]
 |x::u,cs,off,j=>by
  simp only[List.zipIdx_cons,List.foldl_cons,cE];rw[vj u _ off (j+1)];simp [Nat.add_assoc]
theorem zj (v:Value) (cs:Array Value) (off:Nat):v.cells.zipIdx.foldl (λcs (c,j)=>cs.setIfInBounds (off+j) c) cs=(cE cs.toList off v.cells.toList).toArray:=by
 have h:=vj v.cells.toList cs off 0;simp only[Nat.add_zero] at h;rw[<-h,<-Array.foldl_toList];simp
theorem Hr (fs:Array Field) (hs:∀f∈fs.toList,∃i,P.info? f.type=some i):
 (fs.mapM λf=>do pure (f.offset,<-sizeOf f.type):Sem (Array (Nat×Nat))).run P w= .ok (fs.map λf=>(f.offset,P.cellsOf f.type)) w:=by
 rw[Array.mapM_eq_mapM_toList];have:∀(l:List Field),(∀f∈l,∃i,P.info? f.type=some i)->(l.mapM λf=>do pure (f.offset,<-sizeOf f.type):Sem (List (Nat×Nat))).run P w= .ok (l.map λf=>(f.offset,P.cellsOf f.type)) w:=by
  intro l hl;induction l with
  |nil=>simp
  |cons f l ih=>
   obtain⟨i,hi⟩:=hl f (by simp);simp only[List.mapM_cons,Sem.run_bind,run_sizeOf hi,Result.andThen_ok,Sem.run_pure,ih (λf hf=>hl f (by simp [hf]))];simp [Program.cellsOf,hi]
 rw[Sem.run_map,this fs.toList hs];simp only[Result.andThen_ok];congr 1;apply Array.ext';simp
theorem I7 (E:Env P c g r m xs a w) {fs:List (Nat×TypeId)} {fields:Array Field} (hb:j7 P fields.toList fs=true):
 ∀(parts:List (Nat×Operand)) (cells:List At) (vals:Array Value) (l:List At),(∀q∈parts,q.2∈xs)->bR (VA g w) cells vals.toList->Cr c r fs cells parts=some l->
  ∃out:Array Value,Instr.fill ((fields.map λf=>(f.offset,P.cellsOf f.type))[·]?) vals (parts.map λ(i,x)=>(i,a.eval x))=some out/\bR (VA g w) l out.toList
 | [],cells,vals,l,_,ha,h=>by
  simp only[Cr,Option.some.injEq] at h;subst h;exact⟨vals,by simp [Instr.fill],ha⟩
 |(i,x)::parts,cells,vals,l,hxs,ha,h=>by
  simp only[Cr] at h;split at h
  ·simp at h
  ·rename_i off t hf
   split at h
   ·rename_i ti v hti hv
    split at h
    ·rename_i h1 h2
     have h1:=Nat.eq_of_beq_eq_true h1;have h2:=Nat.le_of_ble_eq_true h2;obtain⟨fd,hfd,hfo,hft,j,hj,hj0⟩:=oa hb hf;obtain⟨i',d,T⟩:=E.ts t ti hti;have hvr:=E.evV (hxs (i,x) (by simp)) hv;have hvc:=hvr.cells;have hlen:=hvc.length;have hcl:=ha.length;have hsz:P.cellsOf fd.type=ti.size:=by rw[hft];simp [Program.cellsOf,T.info,T.size]
     have ha':=nK off hvc ha;obtain⟨out,ho,hoa⟩:=I7 E hb parts _ (cE vals.toList off (a.eval x).cells.toList).toArray l (λq hq=>hxs q (by simp [hq])) (by simpa using ha') h;refine⟨out, ?_,hoa⟩;have hgf:(fields.map λf=>(f.offset,P.cellsOf f.type))[i]? =some (off,ti.size):=by
      have:fields[i]? =some fd:=by simpa using hfd
      simp [this,hfo,hsz]
     have e1:(a.eval x).cells.size=ti.size:=by simp at hlen;omega
     have e2:¬(off+(a.eval x).cells.size>vals.size):=by simp at hcl;omega
     simp only[List.map_cons,Instr.fill,hgf,e1,e2,ne_eq,not_true_eq_false,decide_false,decide_true,Bool.false_or,Bool.or_false,Bool.false_eq_true,if_false];rw[zj];have e3:¬(off+ti.size>vals.size):=by omega
     simp only[e3,decide_false,Bool.false_eq_true,if_false];exact ho
    ·simp at h
   ·simp at h
theorem O5 (E:Env P c g r m xs a w) (hF:bP F) {t:TypeId} {parts:Array (Nat×Operand)} (hxs:∀q∈parts.toList,q.2∈xs) (hop:o.op= .build t parts) {ti:TI} {fs:List (Nat×TypeId)} {z:List At} (hti:c.ti t=some ti) (hfs:ti.k= .struct fs) (hz:ti.zero= .agg z)
 (h:aj (Cr c r fs z parts.toList) (λl=>k (.agg l))=some res):∃y,k y=some res/\dR P F n g w o a y:=by
 obtain⟨i,d,T⟩:=E.ts t ti hti;obtain⟨fields,rfl,hb⟩:=T.struct hfs;obtain⟨l,hl,hk⟩:=bo h;obtain⟨zv,hzv, -,hzr⟩:=T.zero;have hzr:=hzr g w;rw[hz] at hzr;obtain⟨vs,rfl,hva⟩:=hzr;obtain⟨out,ho,hoa⟩:=I7 E hb parts.toList z vs.toArray l hxs (by simpa using hva) hl;refine⟨_,hk,dR.val hF (by simp [hop]) (v:= .agg out) ?_ ⟨out.toList,by simp,hoa⟩⟩;have hfl:∀f∈fields.toList,∃i,P.info? f.type=some i:=by
  have:∀(l:List Field) (m:List (Nat×TypeId)),j7 P l m=true->∀f∈l,∃i,P.info? f.type=some i:=by
   intro l;induction l with
   |nil=>intro m _ f hf;simp at hf
   |cons f' l ih=>
    intro m hm f hf;cases m with
    |nil=>simp [j7] at hm
    |cons q m=>
     obtain⟨o',t'⟩:=q;obtain⟨fd,h1,h2,h3,j,hj,_⟩:=oa hm (k:=0) rfl;simp at h1;subst h1;rcases List.mem_cons.1 hf with rfl|hf
     ·exact⟨j,by rw[h3];exact hj⟩
     ·simp only[j7,Bool.and_eq_true] at hm
      exact ih m hm.2.2.2 f hf
  exact this _ _ hb
 have hzero:(zeroValue t).run P w= .ok (.agg vs.toArray) w:=by simp [zeroValue,typeInfo,T.info,hzv]
 simp only[execOp,hop,Instr.build,Sem.run_bind,hzero,Result.andThen_ok,run_underlying T.und,Hr fields hfl];have:(parts.map λ(i,x)=>(i,a.eval x)).toList=parts.toList.map λ(i,x)=>(i,a.eval x):=by simp
 simp only[this,Value.cells,ho];rfl
theorem Ka (E:Env P c g r m xs a w) (hF:bP F) {s d:TypeId} {x:Operand} (hx:x∈xs) (hop:o.op= .convert s d x) {κ0 κ κ1:IntKind} {q:Int} {ti tj:TI} (hs:c.ti s=some ti) (hsk:ti.k= .int κ0) (hd:c.ti d=some tj) (hdk:tj.k= .int κ)
 (hq:Go.Eng.ev c r s x=some (.one (.int κ1 q))) (hk:k (.one (.int κ (κ.wrap q)))=some res):∃y,k y=some res/\dR P F n g w o a y:=by
 obtain⟨i,ds,T⟩:=E.ts s ti hs;obtain⟨j,dd,T'⟩:=E.ts d tj hd;have e1:=T.int hsk;have e2:=T'.int hdk;subst e1;subst e2;have hv:=E.ev x hx _ _ hq;generalize hxv:a.eval x=v at hv;cases hv;refine⟨_,hk,dR.val hF (by simp [hop]) (v:= .int _ _) ?_ (VA.int _ _)⟩;simp [execOp,hop,hxv,convert,run_underlying T.und,run_underlying T'.und,Conv.intToInt]
theorem GP (E:Env P c g r m xs a w) (hF:bP F) {s d:TypeId} {x:Operand} (hx:x∈xs) (hop:o.op= .convert s d x) {κ0 κ1:IntKind} {q:Int} {ti tj:TI} (hs:c.ti s=some ti) (hsk:ti.k= .int κ0) (hd:c.ti d=some tj) (hdk:tj.k= .str)
 (hq:Go.Eng.ev c r s x=some (.v (.one (.int κ1 q)))) (h:k (.one (.str (Utf8.encode q).data.toList))=some res):∃y,k y=some res/\dR P F n g w o a y:=by
 obtain⟨i,ds,T⟩:=E.ts s ti hs;obtain⟨j,dd,T'⟩:=E.ts d tj hd;have e1:=T.int hsk;have e2:=T'.str hdk;subst e1;subst e2;have hv:=E.ev x hx _ _ hq;generalize hxv:a.eval x=v at hv;cases hv;refine⟨_,h,dR.val hF (by simp [hop]) (v:= .string (Utf8.encode q)) ?_ (VA.str _ _ rfl)⟩;simp [execOp,hop,hxv,convert,run_underlying T.und,run_underlying T'.und,Conv.intToString]
theorem I8 (E:Env P c g r m xs a w) (hF:bP F) {s d:TypeId} {x:Operand} (hx:x∈xs) (hop:o.op= .convert s d x) {q:Str} {ti tj:TI} (hs:c.ti s=some ti) (hsk:ti.k= .str) (hd:c.ti d=some tj) (hdk:tj.k= .str)
 (hq:Go.Eng.ev c r s x=some (.one (.str q))) (hk:k (.one (.str q))=some res):∃y,k y=some res/\dR P F n g w o a y:=by
 obtain⟨i,ds,T⟩:=E.ts s ti hs;obtain⟨j,dd,T'⟩:=E.ts d tj hd;have e1:=T.str hsk;have e2:=T'.str hdk;subst e1;subst e2;have hv:=E.ev x hx _ _ hq;generalize hxv:a.eval x=v at hv;cases hv with
 |str _ b e=>
  refine⟨_,hk,dR.val hF (by simp [hop]) (v:= .string b) ?_ (VA.str _ _ e)⟩;simp [execOp,hop,hxv,convert,run_underlying T.und,run_underlying T'.und]
theorem gi {p:At} {v:Value} {kk:(τ:Ty)->List τ.T->Option R} (hm:xI P g w m) (hp:VA g w p v) (h:cg m p kk=some res):
 ∃τ l ad len cp,kk τ l=some res/\v= .slice ad len cp/\len=l.length/\(∀S':Gh,(∀q,g.S q->S'.S q)->(∀id b q,id∈kh p->g.m id=some b->b.blk=some q->S'.S q)->VA S' w (.sl τ l) v)/\
  (l≠ [] ->∃(bk of:Nat) (f:Nat->Nat->Value),ad=some ⟨bk,of,none⟩/\(∀i j,i<l.length->j<τ.n->w.cell? ⟨bk,of+(i*τ.n+j),none⟩=some (f i j))/\∀i x j y,l[i]? =some x->(τ.enc x)[j]? =some y->VA g w y (f i j)):=by
 cases p<;>simp only[cg,reduceCtorEq] at h
 ·rename_i τ l
  cases hp with
  |sl _ _ ad len cp bk of f hl hc ha hcell hf=>
   exact⟨τ,l,_,_,_,h,rfl,hl,λS' h1 _=>(VA.sl τ l ad len cp bk of f hl hc ha hcell hf).pure rfl h1,λhne=>⟨bk,of,f,(ha hne).1,hcell,hf⟩⟩
 ·rename_i τ l
  cases hp with
  |clip _ _ ad len bk of f hl ha hcell hf=>
   exact⟨τ,l,_,_,_,h,rfl,hl,λS' h1 _=>(VA.sl τ l ad len len bk of f hl (Nat.le_refl _) ha hcell hf).pure rfl h1,λhne=>⟨bk,of,f,(ha hne).1,hcell,hf⟩⟩
 ·rename_i id
  split at h
  ·rename_i τ l hl
   obtain⟨b,hb,hbr⟩:=hm _ _ hl;cases hp with
   |own _ b' ad hm' hk h0=>
    rw[hb] at hm';cases hm';refine⟨τ,l,_,_,_,h,rfl,hbr.len.1,λS' h1 h2=>hbr.whole h1 (λq hq=>h2 id b q (by simp [kh]) hb hq) hk h0,λhne=> ?_⟩;cases hbk:b.blk with
    |none=>exact absurd (List.eq_nil_of_length_eq_zero (by rw[<-hbr.len.1];exact(h0 hbk).2)) hne
    |some q=>
     obtain⟨f,hf1,hf2⟩:=hbr.cell hbk;exact⟨q,0,f,hk q hbk,λi j hi hj=>by rw[Nat.zero_add];exact hf1 i j (by have:=hbr.len;omega) hj,hf2⟩
  ·simp at h
 ·rename_i id off len
  split at h
  ·rename_i τ l hl
   split at h
   ·rename_i hle
    have hle:=Nat.le_of_ble_eq_true hle;obtain⟨b,hb,hbr⟩:=hm _ _ hl;have hlen:=hbr.len;cases hp with
    |sub _ _ _ b' ad cc hm' hl' hc hk=>
     rw[hb] at hm';cases hm';have hll:((l.drop off).take len).length=len:=by simp;omega
     refine⟨τ,_,_,_,_,h,rfl,hll.symm,λS' h1 h2=>hbr.part h1 (λq hq=>h2 id b q (by simp [kh]) hb hq) hle (by omega) (λhne=>hk (by omega)),λhne=> ?_⟩;have h0:len≠0:=λe=>by subst e;simp at hne
     obtain⟨q,hbk,rfl⟩:=hk (by omega);obtain⟨f,hf1,hf2⟩:=hbr.cell hbk;refine⟨q,off*b.sz,λi j=>f (off+i) j,rfl,λi j hi hj=> ?_,λi x j y hx hy=> ?_⟩
     ·rw[hll] at hi
      have:=hf1 (off+i) j (by omega) hj;rwa[show(off+i)*τ.n+j=off*b.sz+(i*τ.n+j) from by rw[Nat.add_mul,hlen.2.2];omega] at this
     ·have hi:i<len:=by
       rcases Nat.lt_or_ge i len with h'|h'
       ·exact h'
       ·rw[List.getElem?_eq_none (by omega)] at hx;cases hx
      have hx':l[off+i]? =some x:=by
       rw[List.getElem?_take_of_lt hi,List.getElem?_drop] at hx;exact hx
      exact hf2 (off+i) x j y hx' hy
   ·simp at h
  ·simp at h
theorem Za (E:Env P c g r m xs a w) (hF:bP F) {x:Operand} {t:TypeId} (hx:x∈xs) (hop:o.op= .call {callee:= .builtin .len,args:= #[x],argTypes:= #[t]}) {p:At} (hp:Go.Eng.evA c r t x=some p)
 (h:CX c m t p k=some res):∃y,k y=some res/\dR P F n g w o a y:=by
 have hv:=E.evA hx hp;generalize hxv:a.eval x=v at hv;have fin:∀{q:Nat},(Builtin.len_ #[t] o.type #[v]).run P w= .ok (goInt q) w->dR P F n g w o a (.one (.int .i64 q)):=by
  intro q hq;refine dR.val hF (by simp [hop]) (v:=goInt q) ?_ (VA.int _ _);simp only[execOp,hop,resolve,Sem.run_bind,Sem.run_pure,Result.andThen_ok,invoke,builtin];have:(#[x].map a.eval)= #[v]:=by simp [hxv]
  rw[this,hq];rfl
 unfold CX at h;split at h
 ·rename_i ti hti
  obtain⟨i,d,T⟩:=E.ts t _ hti;have e:=T.str rfl;subst e;split at h
  ·cases hv with
   |str s b e=>
    refine⟨_,h,fin ?_⟩;simp [Builtin.len_,run_underlying T.und,goInt,<-e]
  ·simp at h
 ·rename_i ti τ e hti
  obtain⟨i,d,T⟩:=E.ts t _ hti;obtain⟨rfl,_⟩:=T.slice rfl;split at h
  ·cases hv with
   |sub id off len b ad cc hm hl hc hk=>exact⟨_,h,fin (by simp [Builtin.len_,run_underlying T.und])⟩
  ·obtain⟨τ',l,ad,len,cp,hk,e,hl,_⟩:=gi E.mem hv h
   rw[e] at fin;exact⟨_,hk,fin (by simp [Builtin.len_,run_underlying T.und,hl])⟩
 ·rename_i ti κ τ kt e hti
  obtain⟨i,d,T⟩:=E.ts t _ hti;obtain⟨rfl,_⟩:=T.map rfl;split at h
  ·rename_i id
   split at h
   ·rename_i ag κ' τ' l ck hl
    obtain⟨b,hb,q,es,hq,hh,ha⟩:=E.mem _ _ hl;cases hv with
    |gp _ b' k' hm hk=>
     rw[hb] at hm;cases hm;rw[hq] at hk;cases hk;refine⟨_,h,fin ?_⟩;have hsz:l.length=es.size:=by have:=ha.length;simpa using this
     simp [Builtin.len_,run_underlying T.und,getObj,Sem.run_bind,Sem.run,hh,hsz,Result.andThen]
   ·simp at h
  ·simp at h
 ·simp at h
theorem Yk (E:Env P c g r m xs a w) (hF:bP F) {x y:Operand} {t t':TypeId} (hx:x∈xs) (hy:y∈xs) (hop:o.op= .call {callee:= .builtin .max,args:= #[x,y],argTypes:= #[t,t']}) {p q:Int} (hp:Go.Eng.evA c r t x=some (.int .i64 p)) (hq:Go.Eng.evA c r t' y=some (.int .i64 q))
 (h:k (.one (.int .i64 (max p q)))=some res):∃y,k y=some res/\dR P F n g w o a y:=by
 have hv:=E.evA hx hp;have hw:=E.evA hy hq;generalize hxv:a.eval x=v at hv;generalize hyv:a.eval y=u at hw;cases hv;cases hw;refine⟨_,h,dR.val hF (by simp [hop]) (v:= .int .i64 (max p q)) ?_ (VA.int _ _)⟩;simp only[execOp,hop,resolve,Sem.run_bind,Sem.run_pure,Result.andThen_ok,invoke,builtin];have:(#[x,y].map a.eval)= #[.int .i64 p, .int .i64 q]:=by simp [hxv,hyv]
 rw[this];have e:(if q>p then q else p)=max p q:=by omega
 simp [Builtin.max_,Builtin.max2,e]
end
section
variable {P:Program} [aD P] {F:Fence} {n:Nat} {c:Cfg} {g:Gh} {r:cj} {m:Mem} {xs:List Operand} {a:Act} {w:World} {o:Oper} {R:Type} {k:AV->Option R} {res:R}
theorem lr {len:Nat} {lo hi:Option Int} {kk:Nat->Nat->Option R} (h:j6 len lo hi kk=some res):
 ∃lN hN,kk lN hN=some res/\lN<=hN/\hN<=len/\(lo=none->lN=0)/\(∀q,lo=some q->0<=q/\lN=q.toNat)/\(hi=none->hN=len)/\(∀q,hi=some q->0<=q/\hN=q.toNat):=by
 unfold j6 at h;split at h
 ·exact⟨0,len,h,by omega,by omega,by simp,by simp,by simp,by simp⟩
 ·rename_i q
  rcases a_ h with⟨h0,h⟩ |⟨_,h⟩
  ·simp only[decide_eq_true_eq] at h0
   exact⟨0,q.toNat,h,by omega,by omega,by simp,by simp,by simp,λq' e=>by cases e;exact⟨h0.1,rfl⟩⟩
  ·simp at h
 ·rename_i q
  rcases a_ h with⟨h0,h⟩ |⟨_,h⟩
  ·simp only[decide_eq_true_eq] at h0
   exact⟨q.toNat,len,h,by omega,by omega,by simp,λq' e=>by cases e;exact⟨h0.1,rfl⟩,by simp,by simp⟩
  ·simp at h
 ·rename_i p q
  rcases a_ h with⟨h0,h⟩ |⟨_,h⟩
  ·simp only[decide_eq_true_eq] at h0
   rcases a_ h with⟨h1,h⟩ |⟨_,h⟩
   ·simp only[decide_eq_true_eq] at h1
    exact⟨p.toNat,q.toNat,h,by omega,by omega,by simp,λq' e=>by cases e;exact⟨h1.1,rfl⟩,by simp,λq' e=>by cases e;exact⟨h0.1,rfl⟩⟩
   ·simp at h
  ·simp at h
theorem tK {cap len:Nat} {lo hi:Option Int} {kk:Nat->Nat->Option R} (hc:len<=cap) (h:og cap len lo hi kk=some res):
 ∃lN hN,kk lN hN=some res/\lN<=hN/\hN<=cap/\(lo=none->lN=0)/\(∀q,lo=some q->0<=q/\lN=q.toNat)/\(hi=none->hN=len)/\(∀q,hi=some q->0<=q/\hN=q.toNat):=by
 unfold og at h;split at h
 ·obtain⟨lN,hN,h1,h2,h3,h4,h5,h6,h7⟩:=lr h
  exact⟨lN,hN,h1,h2,by omega,h4,h5,h6,h7⟩
 ·obtain⟨lN,hN,h1,h2,h3,h4,h5,h6,h7⟩:=lr h
  exact⟨lN,hN,h1,h2,h3,h4,h5,by simp,h7⟩
theorem zc {m:Mem} {id n:Nat}:∀{l:Mem},jl m id l=some n->∃i,look i m=some (.oE (.own id) n)
 | [],h=>by simp [jl] at h
 |x::l,h=>by
  simp only[jl] at h;split at h
  ·rename_i i q hx
   split at h
   ·rename_i e
    have:=Nat.eq_of_beq_eq_true e;subst this;cases h;exact⟨_,hx⟩
   ·exact zc h
  ·exact zc h
theorem AO {m:Mem} {id q:Nat} (hm:xI P g w m) (h:jl m id m=some q) {b:Gb} (hb:g.m id=some b):b.cp=q:=by
 obtain⟨i,hi⟩:=zc h;obtain⟨b',_,_,ad,len,hv⟩:=hm _ _ hi;cases hv with
 |own _ b2 _ hm2 _ _=>rw[hb] at hm2;cases hm2;rfl
theorem yG {α:Type} {l:List α} {lo hi:Option Int} {lN hN:Nat} (h1:lo=none->lN=0) (h2:∀q,lo=some q->0<=q/\lN=q.toNat) (h3:hi=none->hN=l.length) (h4:∀q,hi=some q->0<=q/\hN=q.toNat):
 xr lo hi l=(l.take hN).drop lN:=by
 cases lo with
 |none=>
  rw[h1 rfl];cases hi with
  |none=>rw[h3 rfl];simp [xr]
  |some q=>rw[(h4 q rfl).2];simp [xr]
 |some p=>
  rw[(h2 p rfl).2];cases hi with
  |none=>rw[h3 rfl];simp [xr]
  |some q=>rw[(h4 q rfl).2];simp [xr]
def JO (a:Act) (x:Option Operand) (q:Option Int):Prop:=
 match x,q with
 |none,none=>True
 |some y,some n=>∃κ,a.eval y= .int κ n
 |_,_=>False
theorem vP (E:Env P c g r m xs a w) {x:Option Operand} (hx:∀y,x=some y->y∈xs) {q:Option Int} (h:zd c r x=some q):JO a x q:=by
 unfold zd at h;split at h
 ·cases h;trivial
 ·rename_i y
  split at h
  ·rename_i κ nn hy
   cases h;have:=E.evA (hx y rfl) hy;refine⟨κ, ?_⟩;generalize a.eval y=u at this⊢;cases this;rfl
  ·simp at h
theorem fz {x:Value} {κ:IntKind} {q:Int} {y:Nat} {code:BoundsCode} (hx:x= .int κ q) (h:0<=q/\q<=(y:Int)):(Instr.sliceBound x y code).run P w= .ok q.toNat w:=by
 subst hx;simp [Instr.sliceBound,asIntOf,h.1,h.2]
theorem nA {b:Bool} {len cap lN hN:Nat} {lo hi:Option Operand} {ql qh:Option Int} (h1:JO a lo ql) (h2:JO a hi qh) (hlh:lN<=hN) (hh:hN<=cap) (hc:len<=cap)
 (k1:ql=none->lN=0) (k2:∀q,ql=some q->0<=q/\lN=q.toNat) (k3:qh=none->hN=len) (k4:∀q,qh=some q->0<=q/\hN=q.toNat):
 (Instr.sliceBounds b len cap (lo.map a.eval) (hi.map a.eval) none).run P w= .ok (lN,hN,cap) w:=by
 cases hi with
 |none=>
  cases qh with
  |some _=>exact h2.elim
  |none=>
   have:=k3 rfl;subst this;cases lo with
   |none=>
    cases ql with
    |some _=>exact h1.elim
    |none=>have:=k1 rfl;subst this;simp [Instr.sliceBounds]
   |some y=>
    cases ql with
    |none=>exact h1.elim
    |some q=>
     obtain⟨κ,e⟩:=h1;obtain⟨q0,rfl⟩:=k2 q rfl;simp [Instr.sliceBounds,fz e (by omega:0<=q/\q<=(hN:Int))]
 |some z=>
  cases qh with
  |none=>exact h2.elim
  |some p=>
   obtain⟨κ',e'⟩:=h2;obtain⟨p0,rfl⟩:=k4 p rfl;have eb:∀code,(Instr.sliceBound (a.eval z) cap code).run P w= .ok p.toNat w:=λcode=>fz e' (by omega)
   cases lo with
   |none=>
    cases ql with
    |some _=>exact h1.elim
    |none=>have:=k1 rfl;subst this;cases b<;>simp [Instr.sliceBounds,eb]
   |some y=>
    cases ql with
    |none=>exact h1.elim
    |some q=>
     obtain⟨κ,e⟩:=h1;obtain⟨q0,rfl⟩:=k2 q rfl;have eb2:∀code,(Instr.sliceBound (a.eval y) p.toNat code).run P w= .ok q.toNat w:=λcode=>fz e (by omega)
     cases b<;>simp [Instr.sliceBounds,eb,eb2]
theorem Es {len cap lN hN:Nat} {lo:Option Operand} {hi mx:Operand} {ql:Option Int} {q:Int} (h1:JO a lo ql) (h2:JO a (some hi) (some q)) (h3:JO a (some mx) (some q)) (hlh:lN<=hN) (hh:hN<=len) (hc:len<=cap)
 (k1:ql=none->lN=0) (k2:∀q,ql=some q->0<=q/\lN=q.toNat) (k4:0<=q/\hN=q.toNat):
 (Instr.sliceBounds true len cap (lo.map a.eval) (some (a.eval hi)) (some (a.eval mx))).run P w= .ok (lN,hN,hN) w:=by
 obtain⟨κ',e'⟩:=h2;obtain⟨κ2,e2⟩:=h3;obtain⟨p0,rfl⟩:=k4;have ea:∀code,(Instr.sliceBound (a.eval mx) cap code).run P w= .ok q.toNat w:=λcode=>fz e2 (by omega)
 have eb:∀code,(Instr.sliceBound (a.eval hi) q.toNat code).run P w= .ok q.toNat w:=λcode=>fz e' (by omega)
 cases lo with
 |none=>
  cases ql with
  |some _=>exact h1.elim
  |none=>have:=k1 rfl;subst this;simp [Instr.sliceBounds,ea,eb]
 |some y=>
  cases ql with
  |none=>exact h1.elim
  |some p=>
   obtain⟨κ,e⟩:=h1;obtain⟨q0,rfl⟩:=k2 p rfl;have ec:∀code,(Instr.sliceBound (a.eval y) q.toNat code).run P w= .ok p.toNat w:=λcode=>fz e (by omega)
   simp [Instr.sliceBounds,ea,eb,ec]
theorem De {t:TypeId} {b:ByteArray} {lN hN:Nat} {lo hi:Option Value} (hu:P.underlying t=some .string) (hb:(Instr.sliceBounds false b.size b.size lo hi none).run P w= .ok (lN,hN,b.size) w):
 (Instr.sliceAt t (.string b) lo hi none).run P w= .ok (.string (b.extract lN hN)) w:=by
 simp [Instr.sliceAt,run_underlying hu,Instr.slice,hb]
theorem FB {t e:TypeId} {j:TypeInfo} {ad:Option Addr} {len cap lN hN mN:Nat} {lo hi mx:Option Value} (hu:P.underlying t=some (.slice e)) (hj:P.info? e=some j) (hb:(Instr.sliceBounds true len cap lo hi mx).run P w= .ok (lN,hN,mN) w):
 (Instr.sliceAt t (.slice ad len cap) lo hi mx).run P w= .ok (.slice (if mN=lN then ad else ad.map (·.add (lN*j.size))) (hN - lN) (mN - lN)) w:=by
 simp [Instr.sliceAt,run_underlying hu,Instr.slice,hb,run_sizeOf hj]
theorem extract_data (b:ByteArray) (i j:Nat):(b.extract i j).data.toList=(b.data.toList.take j).drop i:=by
 rw[ByteArray.data_extract];simp [List.drop_take]
theorem An {τ:Ty} {l:List τ.T} {ad:Option Addr} {bk of:Nat} {f:Nat->Nat->Value} (ha:l≠ [] ->ad=some ⟨bk,of,none⟩/\g.S bk)
 (hcell:∀i j,i<l.length->j<τ.n->w.cell? ⟨bk,of+(i*τ.n+j),none⟩=some (f i j)) (hf:∀i x j y,l[i]? =some x->(τ.enc x)[j]? =some y->VA g w y (f i j)) {lN hN mN:Nat} (h1:lN<=hN) (h2:hN<=l.length) (h3:hN<=mN):
 (((l.take hN).drop lN)≠ [] ->(if mN=lN then ad else ad.map (·.add (lN*τ.n)))=some ⟨bk,of+lN*τ.n,none⟩/\g.S bk)/\
 (∀i j,i<((l.take hN).drop lN).length->j<τ.n->w.cell? ⟨bk,of+lN*τ.n+(i*τ.n+j),none⟩=some (f (lN+i) j))/\
 (∀i x j y,((l.take hN).drop lN)[i]? =some x->(τ.enc x)[j]? =some y->VA g w y (f (lN+i) j))/\((l.take hN).drop lN).length=hN - lN:=by
 have hl:((l.take hN).drop lN).length=hN - lN:=by simp;omega
 refine⟨λhne=> ?_,λi j hi hj=> ?_,λi x j y hx hy=> ?_,hl⟩
 ·have h0:hN - lN≠0:=λe=>hne (List.eq_nil_of_length_eq_zero (by omega))
  have hlne:l≠ [] :=by intro e;subst e;simp at h2;omega
  obtain⟨rfl,hS⟩:=ha hlne;refine⟨?_,hS⟩;rw[if_neg (by omega)];simp [da]
 ·rw[hl] at hi
  have:=hcell (lN+i) j (by omega) hj;rwa[show of+((lN+i)*τ.n+j)=of+lN*τ.n+(i*τ.n+j) from by rw[Nat.add_mul];omega] at this
 ·rw[List.getElem?_drop] at hx
  have hlt:lN+i<hN:=by
   rcases Nat.lt_or_ge (lN+i) hN with h'|h'
   ·exact h'
   ·rw[List.getElem?_eq_none (by simp;omega)] at hx;cases hx
  rw[List.getElem?_take_of_lt hlt] at hx;exact hf (lN+i) x j y hx hy
theorem N6 (E:Env P c g r m xs a w) (hF:bP F) {t:TypeId} {x:Operand} {lo hi mx:Option Operand} (hx:x∈xs) (h1:∀y,lo=some y->y∈xs) (h2:∀y,hi=some y->y∈xs) (h3:∀y,mx=some y->y∈xs)
 (hop:o.op= .slice t x lo hi mx) {p:At} (hp:Go.Eng.evA c r t x=some p) (h:qf c r m t p lo hi mx k=some res):∃y,k y=some res/\dR P F n g w o a y:=by
 have hv:=E.evA hx hp;generalize hxv:a.eval x=v at hv;unfold qf at h;split at h
 case h_2=>simp at h
 rename_i ql qh qm hql hqh hqm;have r1:=vP E h1 hql;have r2:=vP E h2 hqh;have r3:=vP E h3 hqm;split at h
 ·rename_i ti hti
  obtain⟨i,d,T⟩:=E.ts t _ hti;have e:=T.str rfl;subst e;split at h
  ·rename_i s
   have e:mx=none:=by cases mx with|none=>rfl|some _=>exact r3.elim
   subst e;obtain⟨lN,hN,hk,g1,g2,g3,g4,g5,g6⟩:=lr h;cases hv with
   |str s b e=>
    have hsz:b.size=s.length:=by rw[<-e];simp
    have hb:=nA (P:=P) (w:=w) (b:=false) (len:=b.size) (cap:=b.size) r1 r2 g1 (by omega) (Nat.le_refl _) g3 g4 (λe=>by rw[hsz];exact g5 e) g6;refine⟨_,hk,dR.val hF (by simp [hop]) (v:= .string (b.extract lN hN)) ?_ (VA.str _ _ ?_)⟩
    ·simp only[execOp,hop,hxv,Option.map_none,Sem.run_bind,De T.und hb];rfl
    ·rw[extract_data,yG g3 g4 g5 g6,e]
  ·simp at h
 ·rename_i ti τ0 e hti
  obtain⟨i,d,T⟩:=E.ts t _ hti;obtain⟨rfl,j,hj,hjs,_⟩:=T.slice rfl;have fin:∀{ad:Option Addr} {len cap lN hN mN:Nat} {z:At},v= .slice ad len cap->(Instr.sliceBounds true len cap (lo.map a.eval) (hi.map a.eval) (mx.map a.eval)).run P w= .ok (lN,hN,mN) w->
   VA g w z (.slice (if mN=lN then ad else ad.map (·.add (lN*τ0.n))) (hN - lN) (mN - lN))->dR P F n g w o a (.one z):=by
   intro ad len cap lN hN mN z e hb hz;refine dR.val hF (by simp [hop]) ?_ hz;simp only[execOp,hop,hxv,e,Sem.run_bind,FB T.und hj hb,hjs];rfl
  have cut:∀{τ:Ty} {l:List τ.T} {ad:Option Addr} {len cap bk of:Nat} {f:Nat->Nat->Value},v= .slice ad len cap->len=l.length->len<=cap->(l≠ [] ->ad=some ⟨bk,of,none⟩/\g.S bk)->
   (∀i j,i<l.length->j<τ.n->w.cell? ⟨bk,of+(i*τ.n+j),none⟩=some (f i j))->(∀i x j y,l[i]? =some x->(τ.enc x)[j]? =some y->VA g w y (f i j))->τ.n=τ0.n->Cx τ l ql qh qm k=some res->
   ∃y,k y=some res/\dR P F n g w o a y:=by
   intro τ l ad len cap bk of f e hl hcl ha hcell hf hn h;unfold Cx at h;split at h
   ·have em:mx=none:=by cases mx with|none=>rfl|some _=>exact r3.elim
    obtain⟨lN,hN,hk,g1,g2,g3,g4,g5,g6⟩:=lr h;have hb:=nA (P:=P) (w:=w) (b:=true) (len:=len) (cap:=cap) r1 r2 g1 (by omega) hcl g3 g4 (λe=>by rw[hl];exact g5 e) g6;obtain⟨p1,p2,p3,p4⟩:=An (mN:=cap) ha hcell hf g1 g2 (by omega);refine⟨_,hk,fin e (by rw[em];exact hb) ?_⟩;rw[yG g3 g4 g5 g6,<-hn];exact VA.sl τ _ _ _ _ bk (of+lN*τ.n) (λi j=>f (lN+i) j) p4.symm (by omega) p1 p2 p3
   ·rename_i q1 q2
    rcases a_ h with⟨he,h⟩ |⟨_,h⟩
    ·simp only[decide_eq_true_eq] at he
     subst he;obtain⟨lN,hN,hk,g1,g2,g3,g4,g5,g6⟩:=lr h;cases mx with
     |none=>exact r3.elim
     |some ym=>
      cases hi with
      |none=>exact r2.elim
      |some yh=>
       have hb:=Es (P:=P) (w:=w) (len:=len) (cap:=cap) r1 r2 r3 g1 (by omega) hcl g3 g4 (g6 _ rfl);obtain⟨p1,p2,p3,p4⟩:=An (mN:=hN) ha hcell hf g1 g2 (Nat.le_refl _);refine⟨_,hk,fin e hb ?_⟩;rw[yG g3 g4 g5 g6,<-hn];exact VA.clip τ _ _ _ bk (of+lN*τ.n) (λi j=>f (lN+i) j) p4.symm p1 p2 p3
    ·simp at h
   ·simp at h
  split at h
  ·rename_i τ l
   split at h
   ·rename_i hn
    cases hv with
    |sl _ _ ad len cap bk of f hl hc ha hcell hf=>exact cut rfl hl hc ha hcell hf (Nat.eq_of_beq_eq_true hn) h
   ·simp at h
  ·rename_i τ l
   split at h
   ·rename_i hn
    cases hv with
    |clip _ _ ad len bk of f hl ha hcell hf=>
     split at h
     ·unfold D8 at h
      split at h
      ·rename_i q1
       rcases a_ h with⟨he,h9⟩ |⟨_,h9⟩
       ·simp only[decide_eq_true_eq] at he
        subst he;have em:mx=none:=by cases mx with|none=>rfl|some _=>exact r3.elim
        have hb:=nA (P:=P) (w:=w) (b:=true) (len:=len) (cap:=len) (lN:=0) (hN:=len) r1 r2 (Nat.zero_le _) (Nat.le_refl _) (Nat.le_refl _) (λ_=>rfl) (λq hq=>by cases hq) (λe=>by cases e) (λq hq=>by cases hq;exact⟨by omega,by omega⟩);refine⟨_,h9,fin rfl (by rw[em];exact hb) ?_⟩;simp only[if_true,Nat.sub_zero,Nat.zero_mul];have hid:(if len=0 then ad else ad.map (·.add 0))=ad:=by
         split
         ·rfl
         ·cases ad with
          |none=>rfl
          |some q=>cases q;simp [Addr.add]
        rw[hid];exact VA.clip _ _ _ _ bk of f hl ha hcell hf
       ·exact cut rfl hl (Nat.le_refl _) ha hcell hf (Nat.eq_of_beq_eq_true hn) h9
      ·exact cut rfl hl (Nat.le_refl _) ha hcell hf (Nat.eq_of_beq_eq_true hn) h
     ·exact cut rfl hl (Nat.le_refl _) ha hcell hf (Nat.eq_of_beq_eq_true hn) h
   ·simp at h
  ·rename_i id
   split at h
   ·rename_i τ l hl
    split at h
    ·rename_i hn
     have em:mx=none:=by cases mx with|none=>rfl|some _=>exact r3.elim
     obtain⟨b,hb,hbr⟩:=E.mem _ _ hl;have hlen:=hbr.len;obtain⟨lN,hN,hk,g1,g2,g3,g4,g5,g6⟩:∃lN hN,k (.one (.sub id lN (hN - lN)))=some res/\lN<=hN/\hN<=b.cp/\(ql=none->lN=0)/\(∀q,ql=some q->0<=q/\lN=q.toNat)/\(qh=none->hN=l.length)/\(∀q,qh=some q->0<=q/\hN=q.toNat):=by
      split at h
      ·obtain⟨lN,hN,hk,g1,g2,g3,g4,g5,g6⟩:=lr h
       exact⟨lN,hN,hk,g1,by omega,g3,g4,g5,g6⟩
      ·rename_i cp hcp
       have:=AO E.mem hcp hb;subst this;exact tK (by omega) h
     cases hv with
     |own _ b' ad hm hk' h0=>
      rw[hb] at hm;cases hm;have hbb:=nA (P:=P) (w:=w) (b:=true) (len:=b.ln) (cap:=b.cp) r1 r2 g1 (by omega) (by omega) g3 g4 (λe=>by rw[hlen.1];exact g5 e) g6;refine⟨_,hk,fin rfl (by rw[em];exact hbb) ?_⟩;refine VA.sub id lN (hN - lN) b _ _ hb (by omega) rfl (λhne=> ?_);rw[if_neg (by omega)];cases hbk:b.blk with
      |none=>have:=(h0 hbk).1;omega
      |some q=>exact⟨q,rfl,by rw[hk' q hbk];simp [da,hlen.2.2,Nat.eq_of_beq_eq_true hn]⟩
    ·simp at h
   ·rename_i τ l q hl
    split at h
    ·rename_i pa pb
     obtain⟨b,hb,hbr⟩:=E.mem _ _ hl;have hlen:=hbr.len;rcases a_ h with⟨c1,h⟩ |⟨_,h⟩
     rotate_left
     ·simp at h
     rcases a_ h with⟨c2,h⟩ |⟨_,h⟩
     rotate_left
     ·simp at h
     rcases a_ h with⟨c3,h⟩ |⟨_,h⟩
     rotate_left
     ·simp at h
     simp only[decide_eq_true_eq] at c1 c2 c3;cases hv with
     |own _ b' ad hm hk' h0=>
      rw[hb] at hm;cases hm;cases mx with
      |none=>exact r3.elim
      |some ym=>
       cases hi with
       |none=>exact r2.elim
       |some yh=>
        cases lo with
        |none=>exact r1.elim
        |some yl=>
         refine⟨_,h, ?_⟩;obtain⟨κ1,e1⟩:=r1;obtain⟨κ2,e2⟩:=r2;obtain⟨κ3,e3⟩:=r3;have hbb:(Instr.sliceBounds true b.ln b.cp (some (a.eval yl)) (some (a.eval yh)) (some (a.eval ym))).run P w= .ok (pa.toNat,pb.toNat,q.toNat) w:=by
          have i1:0<=q/\q<=(b.cp:Int):=by omega
          have i2:0<=pb/\pb<=((q.toNat:Nat):Int):=by omega
          have i3:0<=pa/\pa<=((pb.toNat:Nat):Int):=by omega
          have ea:∀code,(Instr.sliceBound (a.eval ym) b.cp code).run P w= .ok q.toNat w:=λcode=>fz e3 i1
          have eb:∀code,(Instr.sliceBound (a.eval yh) q.toNat code).run P w= .ok pb.toNat w:=λcode=>fz e2 i2
          have ec:∀code,(Instr.sliceBound (a.eval yl) pb.toNat code).run P w= .ok pa.toNat w:=λcode=>fz e1 i3
          simp [Instr.sliceBounds,ea,eb,ec]
         exact fin rfl (by simpa using hbb) (VA.dead _ rfl)
    ·simp at h
   ·simp at h
  ·rename_i id off len
   split at h
   ·rename_i τ l hl
    split at h
    ·rename_i hn
     have em:mx=none:=by cases mx with|none=>rfl|some _=>exact r3.elim
     obtain⟨b,hb,hbr⟩:=E.mem _ _ hl;have hlen:=hbr.len;cases hv with
     |sub _ _ _ b' ad cc hm hl' hc hk'=>
      rw[hb] at hm;cases hm;obtain⟨lN,hN,hk,g1,g2,g3,g4,g5,g6⟩:∃lN hN,k (.one (.sub id (off+lN) (hN - lN)))=some res/\lN<=hN/\hN<=cc/\(ql=none->lN=0)/\(∀q,ql=some q->0<=q/\lN=q.toNat)/\(qh=none->hN=len)/\(∀q,qh=some q->0<=q/\hN=q.toNat):=by
       split at h
       ·obtain⟨lN,hN,hk,g1,g2,g3,g4,g5,g6⟩:=tK (Nat.le_max_left _ _) h
        exact⟨lN,hN,hk,g1,by omega,g3,g4,g5,g6⟩
       ·rename_i cp hcp
        have:=AO E.mem hcp hb;subst this;obtain⟨lN,hN,hk,g1,g2,g3,g4,g5,g6⟩:=tK (Nat.le_max_left _ _) h;exact⟨lN,hN,hk,g1,by omega,g3,g4,g5,g6⟩
      have hbb:=nA (P:=P) (w:=w) (b:=true) (len:=len) (cap:=cc) r1 r2 g1 (by omega) (by omega) g3 g4 g5 g6;refine⟨_,hk,fin rfl (by rw[em];exact hbb) ?_⟩;refine VA.sub id (off+lN) (hN - lN) b _ _ hb (by omega) (by omega) (λhne=> ?_);rw[if_neg (by omega)];obtain⟨q,hbk,rfl⟩:=hk' (by omega);refine⟨q,hbk, ?_⟩;simp [da,hlen.2.2,Nat.eq_of_beq_eq_true hn,Nat.add_mul]
    ·simp at h
   ·rename_i τ l q hl
    split at h
    ·rename_i pa pb
     split at h
     ·rename_i z1 z2 z3
      obtain rfl:=beq_iff_eq.1 z1;obtain rfl:=beq_iff_eq.1 z2;obtain rfl:=beq_iff_eq.1 z3;cases hv with
      |sub _ _ _ b' ad cc hm hl' hc hk'=>
       cases mx with
       |none=>exact r3.elim
       |some ym=>
        cases hi with
        |none=>exact r2.elim
        |some yh=>
         cases lo with
         |none=>exact r1.elim
         |some yl=>
          refine⟨_,h, ?_⟩;obtain⟨κ1,e1⟩:=r1;obtain⟨κ2,e2⟩:=r2;obtain⟨κ3,e3⟩:=r3;have hbb:(Instr.sliceBounds true len cc (some (a.eval yl)) (some (a.eval yh)) (some (a.eval ym))).run P w= .ok (0,0,0) w:=by
           have ea:∀code,(Instr.sliceBound (a.eval ym) cc code).run P w= .ok 0 w:=λcode=>fz (q:=0) e3 (by omega)
           have eb:∀code,(Instr.sliceBound (a.eval yh) 0 code).run P w= .ok 0 w:=λcode=>fz (q:=0) e2 (by omega)
           have ec:∀code,(Instr.sliceBound (a.eval yl) 0 code).run P w= .ok 0 w:=λcode=>fz (q:=0) e1 (by omega)
           simp [Instr.sliceBounds,ea,eb,ec]
          exact fin rfl (by simpa using hbb) (VA.clip τ [] _ 0 0 0 (λ_ _=>default) rfl (λh=>absurd rfl h) (λi j hi _=>by simp at hi) (λi x j y hx _=>by simp at hx))
     ·simp at h
    ·simp at h
   ·simp at h
  ·simp at h
 ·simp at h
theorem G6 (E:Env P c g r m xs a w) (hF:bP F) {f:Nat} (hop:o.op= .makeFunc (.func f) #[] #[]) (hk:k (.one (.fnc f))=some res):∃y,k y=some res/\dR P F n g w o a y:=by
 refine⟨_,hk,dR.val hF (by simp [hop]) (v:= .func (.func f) #[] #[]) ?_ (VA.fnc f)⟩;simp [execOp,hop,Instr.makeFunc]
end
end Go.Eng
