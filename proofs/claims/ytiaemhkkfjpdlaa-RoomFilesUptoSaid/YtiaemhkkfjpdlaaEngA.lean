import Derived.CallsIn
import Derived.Below
import Derived.KernelRfl
/- THE ENGINE, part A: an interpreter of the model's Code over plain data (typed lists for slices, no heap): definitions. -/
namespace Go.Eng
open Go

abbrev Str := List UInt8

structure Entry where
  name : Str
  ino : Int

structure Inode where
  ino : Int
  kind : Int
  links : Int
  data : Str
  parent : Int
  entries : List Entry

structure Seen where
  path : Str
  ino : Int

structure Kept where
  slot : Int
  ino : Int
  content : Bool
  data : Str

structure Opn where
  kind : Int
  slot : Int
  a : Str
  b : Str
  data : Str

structure Clls where
  op : Int
  a : Str
  b : Str
  data : Str

structure Shp where
  path : Str
  kind : Int
  data : Str
  first : Int

/-- The element types of slices. -/
inductive Ty where
  | int | byte | str | entry | inode | seen | kept | opn | clls | shp | rule

@[reducible] def Ty.T : Ty → Type
  | .int => Int
  | .byte => UInt8
  | .str => Str
  | .entry => Entry
  | .inode => Inode
  | .seen => Seen
  | .kept => Kept
  | .opn => Opn
  | .clls => Clls
  | .shp => Shp
  | .rule => Int × Nat

/-- How many cells an element has. -/
def Ty.n : Ty → Nat
  | .int => 1
  | .byte => 1
  | .str => 1
  | .entry => 2
  | .inode => 6
  | .seen => 2
  | .kept => 4
  | .opn => 5
  | .clls => 4
  | .shp => 4
  | .rule => 2

/-- A cell's content. -/
inductive At where
  | int (k : IntKind) (n : Int)
  | bool (b : Bool)
  | str (s : Str)
  | sl (τ : Ty) (l : List τ.T)
  | clip (τ : Ty) (l : List τ.T)
  | own (id : Nat)
  | sub (id off len : Nat)
  | ptr (id off : Nat)
  | eptr (id i j : Nat)
  | vptr (τ : Ty) (x : τ.T) (j : Nat)
  | fnc (f : Nat)
  | clo (id : Nat)
  | mapr (id : Nat)
  | iter (id : Nat)
  | nilp
  | nilf
  | nilm
  | dead

def i64 (n : Int) : At := .int .i64 n

def Ty.enc : (τ : Ty) → τ.T → List At
  | .int, (x : Int) => [.int .i64 x]
  | .byte, (x : UInt8) => [.int .u8 x.toNat]
  | .str, (x : Str) => [.str x]
  | .entry, (x : Entry) => [.str x.name, .int .i64 x.ino]
  | .inode, (x : Inode) => [.int .i64 x.ino, .int .i64 x.kind, .int .i64 x.links, .str x.data, .int .i64 x.parent, .sl .entry x.entries]
  | .seen, (x : Seen) => [.str x.path, .int .i64 x.ino]
  | .kept, (x : Kept) => [.int .i64 x.slot, .int .i64 x.ino, .bool x.content, .str x.data]
  | .opn, (x : Opn) => [.int .i64 x.kind, .int .i64 x.slot, .str x.a, .str x.b, .str x.data]
  | .clls, (x : Clls) => [.int .i64 x.op, .str x.a, .str x.b, .str x.data]
  | .shp, (x : Shp) => [.str x.path, .int .i64 x.kind, .str x.data, .int .i64 x.first]
  | .rule, (x : Int × Nat) => [.int .i64 x.1, .fnc x.2]

def Ty.dec : (τ : Ty) → List At → Option τ.T
  | .int, [.int .i64 x] => some x
  | .byte, [.int .u8 x] => match decide (0 ≤ x ∧ x < 256) with | true => some (UInt8.ofNat x.toNat) | false => none
  | .str, [.str x] => some x
  | .entry, [.str a, .int .i64 b] => some ⟨a, b⟩
  | .inode, [.int .i64 a, .int .i64 b, .int .i64 c, .str d, .int .i64 e, .sl .entry l] => some ⟨a, b, c, d, e, l⟩
  | .seen, [.str a, .int .i64 b] => some ⟨a, b⟩
  | .kept, [.int .i64 a, .int .i64 b, .bool c, .str d] => some ⟨a, b, c, d⟩
  | .opn, [.int .i64 a, .int .i64 b, .str c, .str d, .str e] => some ⟨a, b, c, d, e⟩
  | .clls, [.int .i64 a, .str c, .str d, .str e] => some ⟨a, c, d, e⟩
  | .shp, [.str a, .int .i64 b, .str c, .int .i64 d] => some ⟨a, b, c, d⟩
  | .rule, [.int .i64 a, .fnc b] => some (a, b)
  | _, _ => none

/-- A list without room behind it is a list. -/
def unclip : At → At
  | .clip τ l => .sl τ l
  | x => x
def Ty.decC (τ : Ty) (l : List At) : Option τ.T := τ.dec (l.map unclip)

/-- A list of one type as one of another: only where they are one. -/
def castL : (τ τ' : Ty) → List τ.T → Option (List τ'.T)
  | .int, .int, l => some l
  | .byte, .byte, l => some l
  | .str, .str, l => some l
  | .entry, .entry, l => some l
  | .inode, .inode, l => some l
  | .seen, .seen, l => some l
  | .kept, .kept, l => some l
  | .opn, .opn, l => some l
  | .clls, .clls, l => some l
  | .shp, .shp, l => some l
  | .rule, .rule, l => some l
  | _, _, _ => none

/-- A value of one variable: a cell, or a struct's cells. -/
inductive V1 where
  | one (x : At)
  | agg (l : List At)

inductive AV where
  | v (x : V1)
  | tup (l : List V1)
  | undef
  | dead

abbrev AV.one (x : At) : AV := .v (.one x)
abbrev AV.agg (l : List At) : AV := .v (.agg l)

/-- A block of the activation's own. -/
inductive AB where
  | cells (l : List At)
  | row (τ : Ty) (l : List τ.T)
  | clo (f : Nat) (first captured : List At)
  | iter (s : Str) (pos : Nat)
  | capk (x : At) (n : Nat)
  | gone

abbrev Regs := List (Nat × AV)
abbrev Mem := List (Nat × AB)

structure St where
  regs : Regs
  mem : Mem
  nx : Nat

universe u

def look {α : Type u} (n : Nat) : List (Nat × α) → Option α
  | [] => none
  | x :: r => match Nat.beq x.1 n with | true => some x.2 | false => look n r

/-- The same, whatever the number from n on is. -/
noncomputable def capQ {α : Type} (n : Nat) (f : Nat → Option α) : Option α :=
  open Classical in if h : ∃ y, ∀ c, n ≤ c → f c = some y then some (Classical.choose h) else none

def bcase {α : Type} (b : Bool) (x y : Option α) : Option α := match b with | true => x | false => y
def ocase {α β : Type} (o : Option α) (f : α → Option β) : Option β := match o with | some x => f x | none => none

/-- The greatest length of a row that grows. -/
def LIM : Nat := 4294967296
def lcase {α : Type} (n : Nat) (x : Option α) : Option α := match Nat.ble n LIM with | true => x | false => none

/-- What is known of a type. -/
inductive TK where
  | int (k : IntKind)
  | bool
  | str
  | struct (fs : List (Nat × TypeId))
  | array (n : Nat) (e : TypeId)
  | slice (τ : Ty) (e : TypeId)
  | ptr (e : TypeId)
  | other

structure TI where
  agg : Bool
  size : Nat
  zero : V1
  k : TK

/-- What a function computes: 'pat' reads its arguments, 'f' computes, 'enc' writes the result. -/
structure Spec where
  X : Type
  Y : Type
  pat : List AV → Option X
  f : X → Option Y
  enc : Y → AV

/-- What is kept of a state where ways meet: registers, blocks, the next block's number; 'rows': registers whose nil slice becomes a row. -/
structure Ann where
  regs : List Nat
  rows : List (Nat × Nat × Ty)
  mem : List Nat
  nx : Nat
  sls : List Nat := []
  slm : List Nat := []

/-- The kinds of the fields of a struct that '==' may hold together. -/
inductive EK where
  | i | b | s

structure Cfg where
  T : List (Nat × TI)
  spec : List (Nat × Spec)
  glob : List (Nat × List At)
  eqs : List (Nat × List EK)
  N : Nat
  fuel : Nat
  loops : List (Nat × Ann)
  joins : List (Nat × Ann)
  blocks : List (Nat × Ann)
  ovl : List Nat := []
  retA : Option Ann := none

def Cfg.ti (c : Cfg) (t : TypeId) : Option TI := look t c.T

/-- The element type of a slice type. -/
def Cfg.elem (c : Cfg) (t : TypeId) : Option Ty :=
  match c.ti t with
  | some { k := .slice τ _, .. } => some τ
  | _ => none

/-- Registers of callers whose callee runs in their place bear numbers from here on. -/
def OFF : Nat := 1000000
def lookT {α : Type u} (n : Nat) (r : List (Nat × α)) : Option α := match Nat.blt n OFF with | true => look n r | false => none

def constAV (c : Cfg) (t : TypeId) : Value → Option AV
  | .bool b => some (.one (.bool b))
  | .int k n => some (.one (.int k n))
  | .string s => some (.one (.str s.data.toList))
  | .slice none 0 0 => match c.elem t with | some τ => some (.one (.clip τ [])) | none => none
  | .pointer none => some (.one .nilp)
  | .nilFunc => some (.one .nilf)
  | .map none => some (.one .nilm)
  | _ => none

def ev (c : Cfg) (r : Regs) (t : TypeId) : Operand → Option AV
  | .tmp n => lookT n r
  | .const v => constAV c t v
  | .func f => some (.one (.fnc f))
  | .global _ => none

def V1.cells : V1 → List At
  | .one x => [x]
  | .agg l => l

def evV (c : Cfg) (r : Regs) (t : TypeId) (x : Operand) : Option V1 :=
  match ev c r t x with
  | some (.v y) => some y
  | _ => none

def evA (c : Cfg) (r : Regs) (t : TypeId) (x : Operand) : Option At :=
  match ev c r t x with
  | some (.v (.one y)) => some y
  | _ => none

/-- A variable's value of its cells. -/
def V1.ofCells (agg : Bool) (l : List At) : Option V1 :=
  match agg, l with
  | true, l => some (.agg l)
  | false, [x] => some (.one x)
  | false, _ => none

end Go.Eng
