import Derived.Test.YtiaemhkkfjpdlaaEngA
/- THE ENGINE, part B: the interpreter. -/
namespace Go.Eng
open Go

section
variable {R : Type}

/-- The cells at a place. -/
def cellsAt (m : Mem) (p : At) (n : Nat) (k : List At → Option R) : Option R :=
  match p with
  | .ptr id off => match look id m with
    | some (.cells l) => match Nat.ble (off + n) l.length with | true => k ((l.drop off).take n) | false => none
    | _ => none
  | .eptr id i j => match look id m with
    | some (.row τ l) => match Nat.ble (j + n) τ.n with | true => ocase l[i]? fun x => k (((τ.enc x).drop j).take n) | false => none
    | _ => none
  | .vptr τ x j => match Nat.ble (j + n) τ.n with | true => k (((τ.enc x).drop j).take n) | false => none
  | _ => none

/-- What a slice value holds. -/
def listOf (m : Mem) (p : At) (k : (τ : Ty) → List τ.T → Option R) : Option R :=
  match p with
  | .sl τ l => k τ l
  | .clip τ l => k τ l
  | .own id => match look id m with
    | some (.row τ l) => k τ l
    | _ => none
  | .sub id off n => match look id m with
    | some (.row τ l) => match Nat.ble (off + n) l.length with | true => k τ ((l.drop off).take n) | false => none
    | _ => none
  | _ => none

def ikeq : IntKind → IntKind → Bool
  | .i8, .i8 => true
  | .i16, .i16 => true
  | .i32, .i32 => true
  | .i64, .i64 => true
  | .u8, .u8 => true
  | .u16, .u16 => true
  | .u32, .u32 => true
  | .u64, .u64 => true
  | _, _ => false

def ibits (op : BinOp) (k : IntKind) (x y : Int) : Int :=
  match op with
  | .and => k.wrap (BitVec.ofInt k.bits x &&& BitVec.ofInt k.bits y).toNat
  | .or => k.wrap (BitVec.ofInt k.bits x ||| BitVec.ofInt k.bits y).toNat
  | .xor => k.wrap (BitVec.ofInt k.bits x ^^^ BitVec.ofInt k.bits y).toNat
  | _ => k.wrap (BitVec.ofInt k.bits x &&& ~~~BitVec.ofInt k.bits y).toNat

def intQ (op : BinOp) (κ : IntKind) (a b : Int) (k : AV → Option R) : Option R :=
  match op with
  | .add => k (.one (.int κ (κ.wrap (a + b))))
  | .sub => k (.one (.int κ (κ.wrap (a - b))))
  | .mul => k (.one (.int κ (κ.wrap (a * b))))
  | .quo => bcase (b == 0) none (k (.one (.int κ (κ.wrap (a.tdiv b)))))
  | .rem => bcase (b == 0) none (k (.one (.int κ (a.tmod b))))
  | .and => k (.one (.int κ (ibits .and κ a b)))
  | .or => k (.one (.int κ (ibits .or κ a b)))
  | .xor => k (.one (.int κ (ibits .xor κ a b)))
  | .andNot => k (.one (.int κ (ibits .andNot κ a b)))
  | .eql => k (.one (.bool (a == b)))
  | .neq => k (.one (.bool (a != b)))
  | .lss => k (.one (.bool (decide (a < b))))
  | .leq => k (.one (.bool (decide (a ≤ b))))
  | .gtr => k (.one (.bool (decide (a > b))))
  | .geq => k (.one (.bool (decide (a ≥ b))))
  | _ => none

def shiftQ (op : BinOp) (κ : IntKind) (a b : Int) (k : AV → Option R) : Option R :=
  match op with
  | .shl => bcase (decide (b < 0)) none (k (.one (.int κ (κ.wrap (a * 2 ^ (min b.toNat κ.bits))))))
  | .shr => bcase (decide (b < 0)) none (k (.one (.int κ (a.fdiv (2 ^ (min b.toNat κ.bits))))))
  | _ => none

def strQ (op : BinOp) (a b : Str) (k : AV → Option R) : Option R :=
  match op with
  | .add => lcase (a.length + b.length) (k (.one (.str (a ++ b))))
  | .eql => k (.one (.bool (a == b)))
  | .neq => k (.one (.bool (!(a == b))))
  | .lss => k (.one (.bool (Op.bytesLess a b)))
  | .leq => k (.one (.bool (Op.bytesLess a b || a == b)))
  | .gtr => k (.one (.bool (!(Op.bytesLess a b || a == b))))
  | .geq => k (.one (.bool (!Op.bytesLess a b)))
  | _ => none

/-- '==' of two structs, cell by cell. -/
def eqAt : EK → At → At → Option Bool
  | .i, .int k a, .int k' b => match ikeq k k' with | true => some (a == b) | false => none
  | .s, .str a, .str b => some (a == b)
  | .b, .bool a, .bool b => some (a == b)
  | _, _, _ => none
def eqCells : List EK → List At → List At → Option Bool
  | [], [], [] => some true
  | e :: es, x :: l, y :: l' => match es with
    | [] => match l, l' with
      | [], [] => eqAt e x y
      | _, _ => none
    | _ :: _ => match eqAt e x y, eqCells es l l' with
      | some a, some b => some (a && b)
      | _, _ => none
  | _, _, _ => none

def isShift : BinOp → Bool
  | .shl => true
  | .shr => true
  | _ => false

def hasN (n : Nat) : List Nat → Bool
  | [] => false
  | m :: l => match Nat.beq m n with | true => true | false => hasN n l

def isBoolT : Option TI → Bool
  | some { k := .bool, .. } => true
  | _ => false

def binQ (tb : Bool) (eq : Option (List EK)) (op : BinOp) (x y : AV) (k : AV → Option R) : Option R :=
  match x, y with
  | .v (.one (.int κ a)), .v (.one (.int κ' b)) =>
    match isShift op with
    | true => shiftQ op κ a b k
    | false => match ikeq κ κ' with | true => intQ op κ a b k | false => none
  | .v (.one (.str a)), .v (.one (.str b)) => strQ op a b k
  | .v (.one (.bool a)), .v (.one (.bool b)) =>
    match tb, op with
    | true, .eql => k (.one (.bool (a == b)))
    | true, .neq => k (.one (.bool (!(a == b))))
    | _, _ => none
  | .v (.agg a), .v (.agg b) =>
    match eq with
    | some es => match op, eqCells es a b with
      | .eql, some t => k (.one (.bool t))
      | .neq, some t => k (.one (.bool (!t)))
      | _, _ => none
    | none => none
  | _, _ => none

def unQ (op : UnOp) (x : AV) (k : AV → Option R) : Option R :=
  match op, x with
  | .not, .v (.one (.bool b)) => k (.one (.bool (!b)))
  | .neg, .v (.one (.int κ n)) => k (.one (.int κ (κ.wrap (0 - n))))
  | _, _ => none

/-- The bounds of 'x[lo:hi]': lo and hi, where they are within. -/
def boundsQ (len : Nat) (lo hi : Option Int) (k : Nat → Nat → Option R) : Option R :=
  match lo, hi with
  | none, none => k 0 len
  | none, some h => bcase (decide (0 ≤ h ∧ h ≤ (len : Int))) (k 0 h.toNat) none
  | some l, none => bcase (decide (0 ≤ l ∧ l ≤ (len : Int))) (k l.toNat len) none
  | some l, some h => bcase (decide (0 ≤ h ∧ h ≤ (len : Int))) (bcase (decide (0 ≤ l ∧ l ≤ h)) (k l.toNat h.toNat) none) none

/-- The bounds of 'x[lo:hi]' where the capacity is known. -/
def boundsC (cap len : Nat) (lo hi : Option Int) (k : Nat → Nat → Option R) : Option R :=
  match hi with
  | none => boundsQ len lo none k
  | some h => boundsQ cap lo (some h) k

/-- What is known of a row's capacity. -/
def capIn (m : Mem) (id : Nat) : Mem → Option Nat
  | [] => none
  | x :: l => match look x.1 m with
    | some (.capk (.own i) n) => match Nat.beq i id with
      | true => some n
      | false => capIn m id l
    | _ => capIn m id l

/-- The part of a list. -/
def partL {α : Type} (lo hi : Option Int) (l : List α) : List α :=
  match lo, hi with
  | none, none => l
  | none, some h => l.take h.toNat
  | some a, none => l.drop a.toNat
  | some a, some h => (l.take h.toNat).drop a.toNat

def optInt (c : Cfg) (r : Regs) : Option Operand → Option (Option Int)
  | none => some none
  | some x => match evA c r 0 x with
    | some (.int _ n) => some (some n)
    | _ => none

/-- 'x[lo:hi]' of a list that nobody writes; with a third index that is the second: what is behind it is out of reach. -/
def cutQ (τ : Ty) (l : List τ.T) (lo hi mx : Option Int) (k : AV → Option R) : Option R :=
  match mx, hi with
  | none, _ => boundsQ l.length lo hi fun _ _ => k (.one (.sl τ (partL lo hi l)))
  | some q, some h => bcase (decide (q = h)) (boundsQ l.length lo hi fun _ _ => k (.one (.clip τ (partL lo hi l)))) none
  | some _, none => none

def sliceQ (c : Cfg) (r : Regs) (m : Mem) (t : TypeId) (x : At) (lo hi mx : Option Operand) (k : AV → Option R) : Option R :=
  match optInt c r lo, optInt c r hi, optInt c r mx with
  | some lo, some hi, some mx => match c.ti t with
    | some { k := .str, .. } => match x, mx with
      | .str s, none => boundsQ s.length lo hi fun _ _ => k (.one (.str (partL lo hi s)))
      | _, _ => none
    | some { k := .slice τ0 _, .. } => match x with
      | .sl τ l => match Nat.beq τ.n τ0.n with
        | true => cutQ τ l lo hi mx k
        | false => none
      | .clip τ l => match Nat.beq τ.n τ0.n with
        | true => cutQ τ l lo hi mx k
        | false => none
      | .own id => match look id m, mx with
        | some (.row τ l), none => match Nat.beq τ.n τ0.n with
          | true => match capIn m id m with
            | none => boundsQ l.length lo hi fun a b => k (.one (.sub id a (b - a)))
            | some cp => boundsC cp l.length lo hi fun a b => k (.one (.sub id a (b - a)))
          | false => none
        | some (.row τ l), some q => match lo, hi with
          | some a, some b => bcase (decide (0 ≤ q ∧ q ≤ (l.length : Int))) (bcase (decide (0 ≤ b ∧ b ≤ q)) (bcase (decide (0 ≤ a ∧ a ≤ b)) (k (.one .dead)) none) none) none
          | _, _ => none
        | _, _ => none
      | .sub id off n => match look id m, mx with
        | some (.row τ l), none => match Nat.beq τ.n τ0.n with
          | true => match capIn m id m with
            | none => boundsC (max n (l.length - off)) n lo hi fun a b => k (.one (.sub id (off + a) (b - a)))
            | some cp => boundsC (max n (cp - off)) n lo hi fun a b => k (.one (.sub id (off + a) (b - a)))
          | false => none
        | _, _ => none
      | _ => none
    | _ => none
  | _, _, _ => none

/-- The parts of a struct laid into its zero cells. -/
def setCells (l : List At) (off : Nat) : List At → List At
  | [] => l
  | x :: r => setCells (l.set off x) (off + 1) r

def fillQ (c : Cfg) (r : Regs) (fs : List (Nat × TypeId)) (cells : List At) : List (Nat × Operand) → Option (List At)
  | [] => some cells
  | (i, x) :: rest =>
    match fs[i]? with
    | none => none
    | some (off, t) =>
      match c.ti t, evV c r t x with
      | some ti, some v => match Nat.beq v.cells.length ti.size, Nat.ble (off + v.cells.length) cells.length with
        | true, true => fillQ c r fs (setCells cells off v.cells) rest
        | _, _ => none
      | _, _ => none

/-- A value as a callee may see it: without a row or place of the activation's own. -/
def viewAt (m : Mem) (x : At) (k : At → Option R) : Option R :=
  match x with
  | .int κ n => k (.int κ n)
  | .bool b => k (.bool b)
  | .str s => k (.str s)
  | .sl τ l => k (.sl τ l)
  | .clip τ l => k (.sl τ l)
  | .own id => listOf m (.own id) fun τ l => k (.sl τ l)
  | .sub id off n => listOf m (.sub id off n) fun τ l => k (.sl τ l)
  | .fnc f => k (.fnc f)
  | _ => none

def viewL (m : Mem) : List At → (List At → Option R) → Option R
  | [], k => k []
  | x :: l, k => viewAt m x fun y => viewL m l fun l' => k (y :: l')

def viewV (m : Mem) (x : AV) (k : AV → Option R) : Option R :=
  match x with
  | .v (.one y) => viewAt m y fun z => k (.one z)
  | .v (.agg l) => viewL m l fun l' => k (.agg l')
  | _ => none

def viewVs (m : Mem) : List AV → (List AV → Option R) → Option R
  | [], k => k []
  | x :: l, k => viewV m x fun y => viewVs m l fun l' => k (y :: l')

def evArgs (c : Cfg) (r : Regs) : List Operand → List TypeId → Option (List AV)
  | [], _ => some []
  | x :: l, ts => match ev c r (ts.headD 0) x, evArgs c r l ts.tail with
    | some y, some l' => some (y :: l')
    | _, _ => none

/-- Which function a call's value is. -/
def calleeOf (c : Cfg) (r : Regs) (f : Operand) : Option Nat :=
  match ev c r 0 f with
  | some (.v (.one (.fnc n))) => some n
  | _ => none

/-- Does a value hold a slice? -/
def flatAt : At → Bool
  | .int _ _ => true
  | .bool _ => true
  | .str _ => true
  | .fnc _ => true
  | _ => false
def flatL : List At → Bool
  | [] => true
  | x :: l => match flatAt x with | true => flatL l | false => false
def flatV1 : V1 → Bool
  | .one x => flatAt x
  | .agg l => flatL l
def flatT : List V1 → Bool
  | [] => true
  | x :: l => match flatV1 x with | true => flatT l | false => false
def flatV : AV → Bool
  | .v x => flatV1 x
  | .tup l => flatT l
  | _ => false

/-- The rows of the activation's own that a value names. -/
def ownsAt : At → List Nat
  | .own id => [id]
  | .sub id _ _ => [id]
  | _ => []
def ownsL : List At → List Nat
  | [] => []
  | x :: l => ownsAt x ++ ownsL l
def ownsVs : List AV → List Nat
  | [] => []
  | .v (.one x) :: l => ownsAt x ++ ownsVs l
  | .v (.agg x) :: l => ownsL x ++ ownsVs l
  | _ :: l => ownsVs l

def specQ (s : Spec) (args : List AV) (k : AV → Option R) : Option R :=
  match s.pat args with
  | some x => ocase (s.f x) fun y => k (s.enc y)
  | none => none

/-- A length. -/
def lenQ (c : Cfg) (m : Mem) (t : TypeId) (p : At) (k : AV → Option R) : Option R :=
  match c.ti t with
  | some { k := .str, .. } => match p with
    | .str s => k (.one (.int .i64 s.length))
    | _ => none
  | some { k := .slice _ _, .. } => match p with
    | .sub _ _ n => k (.one (.int .i64 n))
    | p => listOf m p fun _ l => k (.one (.int .i64 l.length))
  | _ => none

/-- The address of an element. -/
def idxQ (c : Cfg) (m : Mem) (t : TypeId) (p : At) (n : Int) (k : AV → Option R) : Option R :=
  match c.ti t with
  | some { k := .slice τ0 _, .. } => match p with
    | .sl τ l => match Nat.beq τ.n τ0.n with
      | true => bcase (decide (0 ≤ n)) (ocase l[n.toNat]? fun e => k (.one (.vptr τ e 0))) none
      | false => none
    | .clip τ l => match Nat.beq τ.n τ0.n with
      | true => bcase (decide (0 ≤ n)) (ocase l[n.toNat]? fun e => k (.one (.vptr τ e 0))) none
      | false => none
    | .own id => match look id m with
      | some (.row τ l) => match Nat.beq τ.n τ0.n with
        | true => bcase (decide (0 ≤ n ∧ n < (l.length : Int))) (k (.one (.eptr id n.toNat 0))) none
        | false => none
      | _ => none
    | .sub id off len => match look id m with
      | some (.row τ _) => match Nat.beq τ.n τ0.n with
        | true => bcase (decide (0 ≤ n ∧ n < (len : Int))) (k (.one (.eptr id (off + n.toNat) 0))) none
        | false => none
      | _ => none
    | _ => none
  | some { k := .array len e, .. } => match p, c.ti e with
    | .ptr id off, some te => bcase (decide (0 ≤ n ∧ n < (len : Int))) (k (.one (.ptr id (off + n.toNat * te.size)))) none
    | _, _ => none
  | _ => none

/-- Operations that turn no block, and make none. -/
def evalQ (c : Cfg) (r : Regs) (m : Mem) (o : Oper) (k : AV → Option R) : Option R :=
  match o.op with
  | .move x => ocase (ev c r o.type x) k
  | .assign x => ocase (ev c r o.type x) k
  | .pick b x y => match evA c r 0 b with
    | some (.bool t) => bcase t (ocase (ev c r o.type x) k) (ocase (ev c r o.type y) k)
    | _ => none
  | .load t a => match c.ti t, evA c r 0 a with
    | some ti, some p => cellsAt m p ti.size fun l => ocase (V1.ofCells ti.agg l) fun v => k (.v v)
    | _, _ => none
  | .nilCheck x => match evA c r 0 x with
    | some (.ptr id off) => k (.one (.ptr id off))
    | some (.eptr id i j) => k (.one (.eptr id i j))
    | some (.vptr τ x j) => k (.one (.vptr τ x j))
    | some (.fnc f) => k (.one (.fnc f))
    | some (.clo f) => k (.one (.clo f))
    | _ => none
  | .fieldAddr s x f => match c.ti s, evA c r 0 x with
    | some { k := .struct fs, .. }, some p => match fs[f]? with
      | some (off, _) => match p with
        | .ptr id o => k (.one (.ptr id (o + off)))
        | .eptr id i j => k (.one (.eptr id i (j + off)))
        | .vptr τ x j => k (.one (.vptr τ x (j + off)))
        | _ => none
      | none => none
    | _, _ => none
  | .field t x f => match c.ti t, evV c r 0 x with
    | some { k := .struct fs, .. }, some (.agg l) => match fs[f]? with
      | some (off, t') => match c.ti t' with
        | some ti => match Nat.ble (off + ti.size) l.length with
          | true => ocase (V1.ofCells ti.agg ((l.drop off).take ti.size)) fun v => k (.v v)
          | false => none
        | none => none
      | none => none
    | _, _ => none
  | .indexAddr t x i => match evA c r t x, evA c r 0 i with
    | some p, some (.int _ n) => idxQ c m t p n k
    | _, _ => none
  | .index t x i => match c.ti t, evV c r t x, evA c r 0 i with
    | some { k := .str, .. }, some (.one (.str s)), some (.int _ n) => bcase (decide (0 ≤ n)) (ocase s[n.toNat]? fun b => k (.one (.int .u8 b.toNat))) none
    | _, _, _ => none
  | .build t parts => match c.ti t with
    | some { k := .struct fs, zero := .agg z, .. } => ocase (fillQ c r fs z parts.toList) fun l => k (.agg l)
    | _ => none
  | .binOp op t x y _ => match ev c r t x, ev c r t y with
    | some a, some b => binQ (isBoolT (c.ti t)) (look t c.eqs) op a b k
    | _, _ => none
  | .unOp op t x => match ev c r t x with
    | some a => unQ op a k
    | none => none
  | .convert s d x => match c.ti s, c.ti d, ev c r s x with
    | some { k := .int _, .. }, some { k := .int κ, .. }, some (.v (.one (.int _ n))) => k (.one (.int κ (κ.wrap n)))
    | some { k := .str, .. }, some { k := .str, .. }, some (.v (.one (.str a))) => k (.one (.str a))
    | some { k := .slice _ e, .. }, some { k := .str, .. }, some (.v (.one p)) => match c.ti e with
      | some { k := .int .u8, .. } => listOf m p fun τ l => ocase (castL τ .byte l) fun b => k (.one (.str b))
      | _ => none
    | some { k := .int _, .. }, some { k := .str, .. }, some (.v (.one (.int _ n))) => k (.one (.str (Utf8.encode n).data.toList))
    | _, _, _ => none
  | .extract x i => match ev c r 0 x with
    | some (.tup l) => match l[i]? with
      | some v => k (.v v)
      | none => none
    | _ => none
  | .slice t x lo hi mx => match evA c r t x with
    | some p => sliceQ c r m t p lo hi mx k
    | none => none
  | .makeFunc (.func f) p q => match p.toList, q.toList with
    | [], [] => k (.one (.fnc f))
    | _, _ => none
  | .call { callee := .builtin .len, args, argTypes } => match args.toList, argTypes.toList with
    | [x], [t] => match evA c r t x with
      | some p => lenQ c m t p k
      | none => none
    | _, _ => none
  | .call { callee := .value f, args, argTypes } => match calleeOf c r f, evArgs c r args.toList argTypes.toList with
    | some n, some as => match look n c.spec with
      | some s => viewVs m as fun as' => specQ s as' fun y => match flatV y, ownsVs as with
        | true, _ => k y
        | false, [] => k y
        | _, _ => none
      | none => none
    | _, _ => none
  | _ => none

end
end Go.Eng
