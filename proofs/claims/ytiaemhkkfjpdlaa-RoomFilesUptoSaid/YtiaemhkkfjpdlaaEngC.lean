import Derived.Test.YtiaemhkkfjpdlaaEngB
/- THE ENGINE, part C: the interpreter: writes, regions, code. -/
namespace Go.Eng
open Go

inductive Ex where
  | normal
  | exit (id : Nat)
  | goto (l : Nat)
  | ret

noncomputable section
variable {R : Type}

def St.put (c : Cfg) (σ : St) (dst : Option Nat) (v : AV) (k : St → Option R) : Option R :=
  match dst with
  | none => k σ
  | some d => match Nat.blt d c.N with
    | true => match Nat.blt d OFF with
      | true => k { regs := (d, v) :: σ.regs, mem := σ.mem, nx := σ.nx }
      | false => none
    | false => none

def St.new (σ : St) (b : AB) : St := { regs := σ.regs, mem := (σ.nx, b) :: σ.mem, nx := σ.nx + 1 }
def St.set (σ : St) (id : Nat) (b : AB) : St := { regs := σ.regs, mem := (id, b) :: σ.mem, nx := σ.nx }

/-! A row of the activation's own becomes a list that nobody writes any more, or goes. -/
def replAt (id : Nat) (own : At) (sub : Nat → Nat → At) : At → At
  | .own i => match Nat.beq i id with | true => own | false => .own i
  | .sub i o n => match Nat.beq i id with | true => sub o n | false => .sub i o n
  | .eptr i a b => match Nat.beq i id with | true => .dead | false => .eptr i a b
  | .ptr i a => match Nat.beq i id with | true => .dead | false => .ptr i a
  | .clo i => match Nat.beq i id with | true => .dead | false => .clo i
  | .mapr i => match Nat.beq i id with | true => .dead | false => .mapr i
  | .iter i => match Nat.beq i id with | true => .dead | false => .iter i
  | x => x
def replV1 (f : At → At) : V1 → V1
  | .one x => .one (f x)
  | .agg l => .agg (l.map f)
def replV (f : At → At) : AV → AV
  | .v x => .v (replV1 f x)
  | .tup l => .tup (l.map (replV1 f))
  | .undef => .undef
  | .dead => .dead
def replB (f : At → At) : AB → AB
  | .cells l => .cells (l.map f)
  | .row τ l => .row τ l
  | .clo g a b => .clo g (a.map f) (b.map f)
  | .iter s p => .iter s p
  | .capk x n => .capk (f x) n
  | .gone => .gone
def replRegs (f : At → At) : Regs → Regs
  | [] => []
  | x :: r => (x.1, replV f x.2) :: replRegs f r
def replMem (f : At → At) : Mem → Mem
  | [] => []
  | x :: r => (x.1, replB f x.2) :: replMem f r

/-- What names a row names the list that it held. -/
def thawAt {τ : Ty} (id : Nat) (l : List τ.T) : At → At := replAt id (.sl τ l) fun o n => match Nat.ble (o + n) l.length with | true => .sl τ ((l.drop o).take n) | false => .dead
/-- What names a row names nothing. -/
def scrubAt (id : Nat) : At → At := replAt id .dead fun _ _ => .dead

def freeze (id : Nat) (σ : St) (k : St → Option R) : Option R :=
  match look id σ.mem with
  | some (.row τ l) => k { regs := replRegs (thawAt id l) σ.regs, mem := (id, .gone) :: replMem (thawAt id l) σ.mem, nx := σ.nx }
  | _ => k σ

def freezeAll : List Nat → St → (St → Option R) → Option R
  | [], σ, k => k σ
  | id :: l, σ, k => freeze id σ fun σ' => freezeAll l σ' k

/-- A row written anew: what named it, or a part of it, names nothing. -/
def rewrite (id : Nat) (b : AB) (σ : St) : St := { regs := replRegs (scrubAt id) σ.regs, mem := (id, b) :: replMem (scrubAt id) σ.mem, nx := σ.nx }

/-- Cells as elements of a row. -/
def decAll (τ : Ty) : Nat → List At → Option (List τ.T)
  | 0, [] => some []
  | 0, _ => none
  | n + 1, l => match τ.decC (l.take τ.n), decAll τ n (l.drop τ.n) with
    | some x, some r => some (x :: r)
    | _, _ => none

def fillS (c : Cfg) (r : Regs) (t : TypeId) (size : Nat) (cells : List At) : List (Nat × Operand) → Option (List At)
  | [] => some cells
  | (i, x) :: rest =>
    match evV c r t x with
    | some v => match Nat.beq v.cells.length size, Nat.ble (i * size + v.cells.length) cells.length with
      | true, true => fillS c r t size (setCells cells (i * size) v.cells) rest
      | _, _ => none
    | none => none

def repl {α : Type} (l : List α) : Nat → List α
  | 0 => []
  | n + 1 => l ++ repl l n

/-- The rows that operands name. -/
def ownsOps (c : Cfg) (r : Regs) : List (Nat × Operand) → List Nat
  | [] => []
  | (_, x) :: l => match ev c r 0 x with
    | some v => ownsVs [v] ++ ownsOps c r l
    | none => ownsOps c r l

def storeAt (σ : St) (p : At) (v : V1) (k : St → Option R) : Option R :=
  match p with
  | .ptr id off => match look id σ.mem with
    | some (.cells l) => match Nat.ble (off + v.cells.length) l.length with
      | true => k (σ.set id (.cells (setCells l off v.cells)))
      | false => none
    | _ => none
  | .eptr id i j => match look id σ.mem with
    | some (.row τ l) => match Nat.ble (j + v.cells.length) τ.n with
      | true => ocase l[i]? fun e => ocase (τ.decC (setCells (τ.enc e) j v.cells)) fun e' => k (σ.set id (.row τ (l.set i e')))
      | false => none
    | _ => none
  | _ => none

def appendW (c : Cfg) (o : Oper) (σ : St) (τ : Ty) (x : At) (ys : List τ.T) (k : St → Option R) : Option R :=
  match x with
  | .clip τ' [] => ocase (castL τ' τ []) fun l => lcase (l.length + ys.length) ((σ.new (.row τ ys)).put c o.dst (.one (.own σ.nx)) k)
  | .clip τ' (a :: l) => match ys with
    | [] => none
    | y :: ys => ocase (castL τ' τ (a :: l)) fun l => lcase (l.length + (y :: ys).length) ((σ.new (.row τ (l ++ y :: ys))).put c o.dst (.one (.own σ.nx)) k)
  | .own id => match look id σ.mem with
    | some (.row τ' l) => ocase (castL τ' τ l) fun l => lcase (l.length + ys.length) ((rewrite id (.row τ (l ++ ys)) σ).put c o.dst (.one (.own id)) k)
    | _ => none
  | .sub id off n => match look id σ.mem with
    | some (.row τ' l) => bcase (Nat.ble (off + n + ys.length) l.length) (ocase (castL τ' τ l) fun l =>
        (σ.set id (.row τ (l.take (off + n) ++ (ys ++ l.drop (off + n + ys.length))))).put c o.dst (.one (.sub id off (n + ys.length))) k) none
    | _ => none
  | _ => none

/-- 'append(x, make([]T, n)...)' where a new block is needed. -/
def appendMk (c : Cfg) (o : Oper) (σ : St) (τ : Ty) (x : At) (z : τ.T) (n : Int) (k : St → Option R) : Option R :=
  match x with
  | .sub id off m => match look id σ.mem, capIn σ.mem id σ.mem with
    | some (.row τ' l), some cp => bcase (decide (0 ≤ n)) (lcase (m + n.toNat) (bcase (Nat.ble (off + m) l.length) (bcase (Nat.blt (cp - off) (m + n.toNat))
        (ocase (castL τ' τ l) fun l => (σ.new (.row τ ((l.drop off).take m ++ List.replicate n.toNat z))).put c o.dst (.one (.own σ.nx)) k) none) none)) none
    | _, _ => none
  | _ => none

/-- A row's own slice names nothing: its length is another one. -/
def scrubOwn (id : Nat) : At → At
  | .own i => match Nat.beq i id with | true => .dead | false => .own i
  | x => x
def regrow (id : Nat) (b : AB) (σ : St) : St := { regs := replRegs (scrubOwn id) σ.regs, mem := (id, b) :: replMem (scrubOwn id) σ.mem, nx := σ.nx }

/-- A copy from a part of a row to a part of a row. -/
def copySS (c : Cfg) (o : Oper) (σ : St) (τ0 : Ty) (id off n id2 off2 n2 : Nat) (k : St → Option R) : Option R :=
  match look id σ.mem, look id2 σ.mem with
  | some (.row τ l), some (.row τ2 l2) => match Nat.beq τ.n τ0.n with
    | true => bcase (Nat.ble (off2 + min n2 n) l2.length) (bcase (Nat.ble off l.length) (ocase (castL τ2 τ l2) fun l2 =>
        bcase (Nat.ble (off + min n2 n) l.length)
          ((σ.set id (.row τ (l.take off ++ ((l2.drop off2).take (min n2 n) ++ l.drop (off + min n2 n))))).put c o.dst (.one (.int .i64 (min n2 n : Nat))) k)
          ((regrow id (.row τ (l.take off ++ (l2.drop off2).take (min n2 n))) σ).put c o.dst (.one (.int .i64 (min n2 n : Nat))) k)) none) none
    | false => none
  | _, _ => none

def clearW (c : Cfg) (o : Oper) (σ : St) (τ0 : Ty) (z : List At) (x : At) (k : St → Option R) : Option R :=
  match x with
  | .sub id off n => match look id σ.mem with
    | some (.row τ l) => match Nat.beq τ.n τ0.n with
      | true => ocase (τ.decC z) fun z => bcase (Nat.ble (off + n) l.length)
        ((σ.set id (.row τ (l.take off ++ (List.replicate n z ++ l.drop (off + n))))).put c o.dst (.tup []) k) none
      | false => none
    | _ => none
  | _ => none

def capW (c : Cfg) (o : Oper) (σ : St) (x : At) (k : St → Option R) : Option R :=
  match x with
  | .own id => match look id σ.mem with
    | some (.row _ l) => capQ l.length fun n => (σ.new (.capk (.own id) n)).put c o.dst (.one (.int .i64 n)) k
    | _ => none
  | _ => none

/-- The next rune of a text: its number, and how many bytes it takes. -/
def runeAt (s : Str) (pos : Nat) : Nat × Nat := Utf8.decode ⟨s.toArray⟩ pos

def nextW (c : Cfg) (o : Oper) (σ : St) (x : At) (k : St → Option R) : Option R :=
  match x with
  | .iter id => match look id σ.mem with
    | some (.iter s pos) => bcase (Nat.blt pos s.length)
      ((σ.set id (.iter s (pos + (runeAt s pos).2))).put c o.dst (.tup [.one (.bool true), .one (.int .i64 pos), .one (.int .i32 (runeAt s pos).1)]) k)
      (σ.put c o.dst (.tup [.one (.bool false)]) k)
    | _ => none
  | _ => none

def copyW (c : Cfg) (o : Oper) (σ : St) (τ0 : Ty) (x : At) (τ' : Ty) (src : List τ'.T) (k : St → Option R) : Option R :=
  match x with
  | .own id => match look id σ.mem with
    | some (.row τ l) => match Nat.beq τ.n τ0.n with
      | true => ocase (castL τ' τ src) fun src =>
        (σ.set id (.row τ (src.take l.length ++ l.drop src.length))).put c o.dst (.one (.int .i64 (min src.length l.length : Nat))) k
      | false => none
    | _ => none
  | .sub id off n => match look id σ.mem with
    | some (.row τ l) => match Nat.beq τ.n τ0.n, Nat.ble (off + n) l.length with
      | true, true => ocase (castL τ' τ src) fun src =>
        (σ.set id (.row τ (l.take off ++ (src.take n ++ (l.drop off).drop (min src.length n))))).put c o.dst (.one (.int .i64 (min src.length n : Nat))) k
      | _, _ => none
    | _ => none
  | _ => none

def onesOf : List AV → Option (List At)
  | [] => some []
  | .v (.one x) :: l => match onesOf l with
    | some r => some (x :: r)
    | none => none
  | _ => none

def stepW (c : Cfg) (o : Oper) (σ : St) (k : St → Option R) : Option R :=
  match o.op with
  | .alloc t => match c.ti t with
    | some ti => (σ.new (.cells ti.zero.cells)).put c o.dst (.one (.ptr σ.nx 0)) k
    | none => none
  | .box t x => match evV c σ.regs t x with
    | some v => (σ.new (.cells v.cells)).put c o.dst (.one (.ptr σ.nx 0)) k
    | none => none
  | .buildSlice t n parts => freezeAll (ownsOps c σ.regs parts.toList) σ fun σ => match c.ti t with
    | some { k := .slice τ e, .. } => match c.ti e with
      | some te => match (match Nat.ble (n * te.size) 16777216 with | true => fillS c σ.regs e te.size (repl te.zero.cells n) parts.toList | false => none) with
        | some cells => ocase (decAll τ n cells) fun l => (σ.new (.row τ l)).put c o.dst (.one (.own σ.nx)) k
        | none => none
      | none => none
    | _ => none
  | .makeSlice t n m => match c.ti t, evA c σ.regs 0 n, evA c σ.regs 0 m with
    | some { k := .slice τ e, .. }, some (.int _ a), some (.int _ b) => match c.ti e with
      | some te => bcase (decide (0 ≤ a ∧ a = b)) (lcase a.toNat (ocase (τ.decC te.zero.cells) fun z => (σ.new (.row τ (List.replicate a.toNat z))).put c o.dst (.one (.own σ.nx)) k)) none
      | none => none
    | _, _, _ => none
  | .store t a x => freezeAll (ownsOps c σ.regs (match evA c σ.regs 0 a with | some (.eptr _ _ _) => [(0, x)] | _ => [])) σ fun σ => match evA c σ.regs 0 a, evV c σ.regs t x, c.ti t with
    | some p, some v, some ti => match Nat.beq v.cells.length ti.size with
      | true => storeAt σ p v fun σ' => σ'.put c o.dst .undef k
      | false => none
    | _, _, _ => none
  | .range t x => match c.ti t, evA c σ.regs t x with
    | some { k := .str, .. }, some (.str s) => (σ.new (.iter s 0)).put c o.dst (.one (.iter σ.nx)) k
    | _, _ => none
  | .next x true => match evA c σ.regs 0 x with
    | some x => nextW c o σ x k
    | none => none
  | .makeFunc (.func f) first captured => match evArgs c σ.regs first.toList [], evArgs c σ.regs captured.toList [] with
    | some a, some b => match onesOf a, onesOf b with
      | some a, some b => (σ.new (.clo f a b)).put c o.dst (.one (.clo σ.nx)) k
      | _, _ => none
    | _, _ => none
  | .call { callee := .builtin .append, args, argTypes } => match args.toList, argTypes.toList with
    | [x, y], [t, t'] => match c.ti t, Nat.beq t t' with
      | some { k := .slice τ e, .. }, true => match c.ti e, evA c σ.regs t x, evA c σ.regs t y with
        | some _, some x, some y => listOf σ.mem y fun τ' l => ocase (castL τ' τ l) fun l => appendW c o σ τ x l k
        | _, _, _ => none
      | some { k := .slice τ e, .. }, false => match c.ti t', c.ti e, evA c σ.regs t x, evA c σ.regs t' y with
        | some { k := .int _, .. }, some te, some x, some (.int _ n) => ocase (τ.decC te.zero.cells) fun z => appendMk c o σ τ x z n k
        | _, _, _, _ => none
      | _, _ => none
    | _, _ => none
  | .call { callee := .builtin .cap, args, argTypes } => match args.toList, argTypes.toList with
    | [x], [t] => match c.ti t, evA c σ.regs t x with
      | some { k := .slice _ _, .. }, some x => capW c o σ x k
      | _, _ => none
    | _, _ => none
  | .call { callee := .builtin .clear, args, argTypes } => match args.toList, argTypes.toList with
    | [x], [t] => match c.ti t, evA c σ.regs t x with
      | some { k := .slice τ e, .. }, some x => match c.ti e with
        | some te => clearW c o σ τ te.zero.cells x k
        | none => none
      | _, _ => none
    | _, _ => none
  | .call { callee := .builtin .copy, args, argTypes } => match args.toList, argTypes.toList with
    | [x, y], [t, t'] => match c.ti t, Nat.beq t t' with
      | some { k := .slice τ0 e, .. }, true => match evA c σ.regs t x, evA c σ.regs t y with
        | some (.sub id off n), some (.sub id2 off2 n2) => copySS c o σ τ0 id off n id2 off2 n2 k
        | some x, some y => listOf σ.mem y fun τ' src => copyW c o σ τ0 x τ' src k
        | _, _ => none
      | _, _ => none
    | _, _ => none
  | _ => none

/-- A call by its spec, where the result may lie in rows of the activation's own: these are written no more. -/
def stepCall (c : Cfg) (o : Oper) (f : Operand) (args : Array Operand) (ts : Array TypeId) (σ : St) (k : St → Option R) : Option R :=
  match calleeOf c σ.regs f, evArgs c σ.regs args.toList ts.toList with
  | some n, some as => match look n c.spec with
    | some s => viewVs σ.mem as fun as' => specQ s as' fun y => match flatV y with
      | true => σ.put c o.dst y k
      | false => freezeAll (ownsVs as) σ fun σ' => σ'.put c o.dst y k
    | none => none
  | _, _ => none

/-- What a call comes to whose callee runs in its place: the register that takes the result, the function, the arguments, the state, what goes on. -/
abbrev Hnd (R : Type) := Option Nat → Nat → List AV → St → (AV → St → Option R) → Option R

/-- Two rows of the activation's own: do they overlap? -/
def apart (m : Mem) (x y : At) (k : Option R) : Option R :=
  match ownsAt x, ownsAt y with
  | [i], [j] => match Nat.beq i j, look i m, look j m with
    | false, some (.row _ l), some (.row _ l') => bcase (Nat.blt 0 l.length) (bcase (Nat.blt 0 l'.length) k none) none
    | _, _, _ => none
  | _, _ => none

def stepInl (H : Hnd R) (c : Cfg) (o : Oper) (f : Operand) (args : Array Operand) (ts : Array TypeId) (σ : St) (k : St → Option R) : Option R :=
  match evA c σ.regs 0 f, evArgs c σ.regs args.toList ts.toList with
  | some (.fnc n), some as => match hasN n c.ovl with
    | true => match as with
      | [.v (.one x), .v (.one y)] => apart σ.mem x y (σ.put c o.dst (.one (.bool false)) k)
      | _ => none
    | false => H o.dst n as σ fun v σ' => σ'.put c o.dst v k
  | some (.clo id), some as => match look id σ.mem with
    | some (.clo n first capt) => H o.dst n (first.map AV.one ++ (as ++ capt.map AV.one)) σ fun v σ' => σ'.put c o.dst v k
    | _ => none
  | _, _ => none

def hasSpec (c : Cfg) (r : Regs) (f : Operand) : Bool :=
  match calleeOf c r f with
  | some n => match look n c.spec with | some _ => true | none => false
  | none => false

/-- May an operation stand in a region that draws its order, whatever stands beside it? -/
def isQ (c : Cfg) : Op → Bool
  | .move _ | .assign _ | .pick .. | .load .. | .nilCheck _ | .fieldAddr .. | .field .. | .indexAddr .. | .index .. | .build .. | .binOp .. | .unOp .. | .convert .. | .extract .. | .slice .. => true
  | .makeFunc _ p q => match p.toList, q.toList with | [], [] => true | _, _ => false
  | .call { callee := .builtin .len, .. } => true
  | .call { callee := .value (.func n), .. } => match look n c.spec with | some _ => true | none => false
  | .call { callee := .value _, .. } => true
  | _ => false

def stepX (H : Hnd R) (c : Cfg) (o : Oper) (σ : St) (k : St → Option R) : Option R :=
  match o.op with
  | .call { callee := .value f, args, argTypes } => stepInl H c o f args argTypes σ k
  | _ => stepW c o σ k

def stepOp (H : Hnd R) (c : Cfg) (dr : Bool) (o : Oper) (σ : St) (k : St → Option R) : Option R :=
  match dr, o.op with
  | false, .call { callee := .value f, args, argTypes } => match hasSpec c σ.regs f with
    | true => stepCall c o f args argTypes σ k
    | false => stepInl H c o f args argTypes σ k
  | _, _ => match isQ c o.op with
    | true => evalQ c σ.regs σ.mem o fun v => σ.put c o.dst v k
    | false => stepX H c o σ k

def runOps (H : Hnd R) (c : Cfg) (dr : Bool) (ds : List (Option Nat)) : List Oper → St → (St → Option R) → Option R
  | [], σ, k => k σ
  | o :: r, σ, k => match o.guard with
    | none => stepOp H c dr o σ fun σ' => runOps H c dr ds r σ' k
    | some (j, want) => match ds[j]? with
      | some (some d) => match lookT d σ.regs with
        | some (.v (.one (.bool b))) => bcase b
            (σ.put c (some d) (.one (.bool true)) fun σ' => match want with
              | true => stepOp H c dr o σ' fun σ'' => runOps H c dr ds r σ'' k
              | false => σ'.put c o.dst .undef fun σ'' => runOps H c dr ds r σ'' k)
            (σ.put c (some d) (.one (.bool false)) fun σ' => match want with
              | true => σ'.put c o.dst .undef fun σ'' => runOps H c dr ds r σ'' k
              | false => stepOp H c dr o σ' fun σ'' => runOps H c dr ds r σ'' k)
        | some .undef => σ.put c o.dst .undef fun σ'' => runOps H c dr ds r σ'' k
        | _ => none
      | _ => none

/-! May the order of a region's operations be any that its edges allow? -/
def bindsAny (e : Edge) : Bool :=
  match e.ground with
  | .textOnly _ => false
  | .gcOnly _ => false
  | _ => true
def beforeOf (acc : List Nat) (o : Oper) : Nat :=
  o.after.toList.foldl (fun s e => match bindsAny e with | true => (s ||| 2 ^ e.on) ||| acc.getD e.on 0 | false => s) 0
def befores (acc : List Nat) : List Oper → List Nat
  | [] => acc
  | o :: r => befores (acc ++ [beforeOf acc o]) r
def opTmps (o : Oper) : List Nat := o.op.operands.toList.filterMap fun | .tmp t => some t | _ => none
def looksOf (ds : List (Option Nat)) (o : Oper) : List Nat :=
  match o.guard with
  | none => opTmps o
  | some (j, _) => match ds[j]? with
    | some (some d) => d :: opTmps o
    | _ => opTmps o
def dstIn (d : Option Nat) (l : List Nat) : Bool :=
  match d with
  | none => false
  | some d => hasN d l
def sameDst : Option Nat → Option Nat → Bool
  | some a, some b => Nat.beq a b
  | _, _ => false
def clash (c : Cfg) (ds : List (Option Nat)) (x y : Oper) : Bool :=
  match isQ c x.op, isQ c y.op with
  | true, true => dstIn x.dst (looksOf ds y) || (dstIn y.dst (looksOf ds x) || sameDst x.dst y.dst)
  | _, _ => true
/-- Each of the operations behind x, the i-th, that clash with it comes behind it. -/
def okFrom (c : Cfg) (ds : List (Option Nat)) (i : Nat) (x : Oper) : List (Oper × Nat) → Bool
  | [] => true
  | y :: l => match clash c ds x y.1 with
    | true => match Nat.testBit y.2 i with | true => okFrom c ds i x l | false => false
    | false => okFrom c ds i x l
def okAll (c : Cfg) (ds : List (Option Nat)) : Nat → List (Oper × Nat) → Bool
  | _, [] => true
  | i, x :: l => match okFrom c ds i x.1 l with | true => okAll c ds (i + 1) l | false => false
def edgesBack : Nat → List Oper → Bool
  | _, [] => true
  | i, o :: r => match o.after.toList.all (fun e => match bindsAny e with | true => Nat.blt e.on i | false => true) with | true => edgesBack (i + 1) r | false => false
def orderOK (c : Cfg) (ops : List Oper) : Bool := match edgesBack 0 ops with | true => okAll c (ops.map (·.dst)) 0 (ops.zip (befores [] ops)) | false => false

/-! Where ways meet. -/
def idsAt : At → List Nat
  | .own i => [i]
  | .sub i _ _ => [i]
  | .ptr i _ => [i]
  | .eptr i _ _ => [i]
  | .clo i => [i]
  | .mapr i => [i]
  | .iter i => [i]
  | _ => []
def idsIn (mem : List Nat) : List At → Bool
  | [] => true
  | x :: l => match (idsAt x).all (fun i => hasN i mem) with | true => idsIn mem l | false => false
def idsV1 (mem : List Nat) : V1 → Bool
  | .one x => idsIn mem [x]
  | .agg l => idsIn mem l
def idsV (mem : List Nat) : AV → Bool
  | .v x => idsV1 mem x
  | .tup l => l.all (idsV1 mem)
  | _ => true
def idsB (mem : List Nat) : AB → Bool
  | .cells l => idsIn mem l
  | .clo _ a b => match idsIn mem a with | true => idsIn mem b | false => false
  | .capk x _ => idsIn mem [x]
  | _ => true

def keepRegs (mem : List Nat) (r : Regs) : List Nat → Option Regs
  | [] => some []
  | n :: l => match look n r, keepRegs mem r l with
    | some v, some r' => match idsV mem v with | true => some ((n, v) :: r') | false => none
    | _, _ => none
def keepMem (mem : List Nat) (m : Mem) : List Nat → Option Mem
  | [] => some []
  | n :: l => match look n m, keepMem mem m l with
    | some b, some m' => match idsB mem b with | true => some ((n, b) :: m') | false => none
    | _, _ => none

/-- A register that holds a nil slice becomes a row of its own. -/
def toRows : List (Nat × Nat × Ty) → St → Option St
  | [], σ => some σ
  | (r, id, τ) :: l, σ => match look r σ.regs with
    | some (.v (.one (.own i))) => match Nat.beq i id with | true => toRows l σ | false => none
    | some (.v (.one (.clip τ' []))) => match castL τ' τ [], Nat.ble σ.nx id with
      | some _, true => toRows l { regs := (r, .one (.own id)) :: σ.regs, mem := (id, .row τ []) :: σ.mem, nx := id + 1 }
      | _, _ => none
    | _ => none

/-- Registers and variables whose slices are lists without room. -/
def toSls : List Nat → St → Option St
  | [], σ => some σ
  | r :: l, σ => match look r σ.regs with
    | some (.v (.one x)) => toSls l { regs := (r, .one (unclip x)) :: σ.regs, mem := σ.mem, nx := σ.nx }
    | _ => none
def toSlm : List Nat → St → Option St
  | [], σ => some σ
  | id :: l, σ => match look id σ.mem with
    | some (.cells cs) => toSlm l (σ.set id (.cells (cs.map unclip)))
    | _ => none
def coerce (a : Ann) (σ : St) : Option St :=
  match toRows a.rows σ with
  | some σ => match toSls a.sls σ with
    | some σ => toSlm a.slm σ
    | none => none
  | none => none

def keep (a : Ann) (σ : St) : Option St :=
  match coerce a σ with
  | some σ => match keepRegs a.mem σ.regs a.regs, keepMem a.mem σ.mem a.mem, a.mem.all (fun i => Nat.blt i a.nx) with
    | some r, some m, true => some { regs := r, mem := m, nx := a.nx }
    | _, _, _ => none
  | none => none

def keepIf (a : Option Ann) (σ : St) (k : St → Option R) : Option R :=
  match a with
  | none => k σ
  | some a => match keep a σ with
    | some σ' => k σ'
    | none => none

def firstRegion : Code → Nat
  | .region id _ _ => id
  | .seq a _ => firstRegion a
  | .block _ b => firstRegion b
  | .loop b => firstRegion b
  | .scope b => firstRegion b
  | _ => 1000000

def loopN (body : St → (Ex → St → Option R) → Option R) (a : Option Ann) : Nat → St → (Ex → St → Option R) → Option R
  | 0, _, _ => none
  | n + 1, σ, K => body σ fun e σ' => match e with
    | .normal => keepIf a σ' fun σ'' => loopN body a n σ'' K
    | .exit i => K (.exit i) σ'
    | .goto l => K (.goto l) σ'
    | .ret => K .ret σ'

/-- What a loop comes to, said otherwise. -/
abbrev Hd (R : Type) := St → (Ex → St → Option R) → Option R

def run (H : Hnd R) (c : Cfg) (lp : List (Nat × Hd R)) : Code → St → (Ex → St → Option R) → Option R
  | .skip, σ, K => K .normal σ
  | .region _ ops draw, σ, K => match draw with
    | false => runOps H c false (ops.toList.map (·.dst)) ops.toList σ fun σ' => K .normal σ'
    | true => match orderOK c ops.toList with
      | true => runOps H c true (ops.toList.map (·.dst)) ops.toList σ fun σ' => K .normal σ'
      | false => none
  | .seq a b, σ, K => run H c lp a σ fun e σ' => match e with
    | .normal => keepIf (look (firstRegion b) c.joins) σ' fun σ'' => run H c lp b σ'' K
    | .exit i => K (.exit i) σ'
    | .goto l => K (.goto l) σ'
    | .ret => K .ret σ'
  | .cond x a b, σ, K => match ev c σ.regs 0 x with
    | some (.v (.one (.bool t))) => bcase t (run H c lp a σ K) (run H c lp b σ K)
    | _ => none
  | .block id b, σ, K => run H c lp b σ fun e σ' => match e with
    | .normal => keepIf (look id c.blocks) σ' fun σ'' => K .normal σ''
    | .exit i => match Nat.beq i id with
      | true => K .normal σ'
      | false => K (.exit i) σ'
    | .goto l => K (.goto l) σ'
    | .ret => K .ret σ'
  | .loop b, σ, K => keepIf (look (firstRegion b) c.loops) σ fun σ' => match look (firstRegion b) lp with
    | some h => h σ' K
    | none => loopN (run H c lp b) (look (firstRegion b) c.loops) c.fuel σ' K
  | .exit i, σ, K => keepIf (look i c.blocks) σ fun σ' => K (.exit i) σ'
  | .ret, σ, K => keepIf c.retA σ fun σ' => K .ret σ'
  | .scope b, σ, K => run H c lp b σ fun e σ' => match e with
    | .normal => K .normal σ'
    | .exit i => K (.exit i) σ'
    | .goto _ => none
    | .ret => K .ret σ'
  | .label _, σ, K => K .normal σ
  | _, _, _ => none

def resQ (c : Cfg) (σ : St) : List ResultVar → (List V1 → Option R) → Option R
  | [], k => k []
  | .tmp t :: l, k => match lookT t σ.regs with
    | some (.v x) => viewV σ.mem (.v x) fun y => match y with
      | .v y => resQ c σ l fun r => k (y :: r)
      | _ => none
    | _ => none
  | .cell a t :: l, k => match lookT a σ.regs, c.ti t with
    | some (.v (.one p)), some ti => cellsAt σ.mem p ti.size fun cs => viewL σ.mem cs fun cs => match V1.ofCells ti.agg cs with
      | some y => resQ c σ l fun r => k (y :: r)
      | none => none
    | _, _ => none

def mkRes : List V1 → AV
  | [x] => .v x
  | l => .tup l

/-- The results of a callee that ran in its call's place. -/
def resI (c : Cfg) (σ : St) : List ResultVar → (List V1 → Option R) → Option R
  | [], k => k []
  | .tmp t :: l, k => match lookT t σ.regs with
    | some (.v x) => resI c σ l fun r => k (x :: r)
    | _ => none
  | .cell a t :: l, k => match lookT a σ.regs, c.ti t with
    | some (.v (.one p)), some ti => cellsAt σ.mem p ti.size fun cs => match V1.ofCells ti.agg cs with
      | some y => resI c σ l fun r => k (y :: r)
      | none => none
    | _, _ => none

def shiftR : Regs → Regs
  | [] => []
  | x :: r => (x.1 + OFF, x.2) :: shiftR r
def unshiftR : Regs → Regs
  | [] => []
  | x :: r => match Nat.ble OFF x.1 with
    | true => (x.1 - OFF, x.2) :: unshiftR r
    | false => unshiftR r

def enumRegs : Nat → List AV → Regs
  | _, [] => []
  | n, x :: l => (n, x) :: enumRegs (n + 1) l

/-- The results, at a return. -/
def retQ (c : Cfg) (res : List ResultVar) (dec : AV → Option R) (σ : St) : Option R :=
  resQ c σ res fun l => match l with
    | [x] => dec (.v x)
    | l => dec (.tup l)

/-- A callee that runs in its call's place. -/
inductive Inl (R : Type) where
  | mk (fid : Nat) (cfg : Cfg) (lp : List (Nat × Hd R)) (body : Code) (res : List ResultVar) (subs : List (Nat × Inl R))

def hnd : Nat → List (Nat × Inl R) → Hnd R
  | 0, _ => fun _ _ _ _ _ => none
  | d + 1, subs => fun dst n as σ k => match dst with
    | none => none
    | some t => match look t subs with
      | none => none
      | some (.mk fid cfg lp body res subs') => match Nat.beq fid n, Nat.ble as.length cfg.N, Nat.ble cfg.N OFF with
        | true, true, true => run (hnd d subs') cfg lp body { regs := enumRegs 0 as ++ shiftR σ.regs, mem := σ.mem, nx := σ.nx } fun e σ' => match e with
          | .normal => resI cfg σ' res fun l => k (mkRes l) { regs := unshiftR σ'.regs, mem := σ'.mem, nx := σ'.nx }
          | .ret => resI cfg σ' res fun l => k (mkRes l) { regs := unshiftR σ'.regs, mem := σ'.mem, nx := σ'.nx }
          | _ => none
        | _, _, _ => none

/-- A function's run, over plain data. -/
def runFn (H : Hnd R) (c : Cfg) (lp : List (Nat × Hd R)) (body : Code) (res : List ResultVar) (args : List AV) (dec : AV → Option R) : Option R :=
  run H c lp body { regs := enumRegs 0 args, mem := [], nx := 0 } fun e σ => match e with
    | .normal => retQ c res dec σ
    | .ret => retQ c res dec σ
    | _ => none

end
end Go.Eng
