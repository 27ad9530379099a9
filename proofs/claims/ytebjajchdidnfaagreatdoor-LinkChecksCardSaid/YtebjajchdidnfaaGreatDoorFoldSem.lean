/-
  A part of the road: an evaluator over abstract memory with a proved simulation, and what is reckoned by it. Written by an AI agent; no person has read it.
-/
import GoSem.Step
set_option linter.all false
namespace Go.Fold

inductive AV where
  | bool (b : Bool)
  | int (k : IntKind) (n : Int)
  | str (s : List Nat)
  | ptr (a : Option (Nat × Nat))
  | slice (a : Option (Nat × Nat)) (len : Nat) (cap : Option Nat)
  | mapv (r : Option Nat)
  | fn (f : Fn) (first captured : List AV)
  | nilFn
  | nilIface
  | agg (cs : List AV)
  | tup (vs : List AV)
  deriving Inhabited

def AV.undef : AV := .tup []

def AV.cells : AV → List AV
  | .agg cs => cs
  | v => [v]

def AV.oneCell : AV → Bool
  | .agg _ | .tup _ => false
  | _ => true

/-- A trie over Nat. -/
inductive T (α : Type) where
  | nil
  | node (v : Option α) (l r : T α)
  deriving Inhabited

namespace T
variable {α : Type}
def get : T α → Nat → Option α
  | .nil, _ => none
  | .node v l r, n => bif n.beq 0 then v else bif (n % 2).beq 1 then l.get (n / 2) else r.get (n / 2 - 1)
def set : Nat → T α → Nat → α → T α
  | 0, t, _, _ => t
  | f + 1, .nil, n, x => bif n.beq 0 then .node (some x) .nil .nil else bif (n % 2).beq 1 then .node none (set f .nil (n / 2) x) .nil else .node none .nil (set f .nil (n / 2 - 1) x)
  | f + 1, .node v l r, n, x => bif n.beq 0 then .node (some x) l r else bif (n % 2).beq 1 then .node v (set f l (n / 2) x) r else .node v l (set f r (n / 2 - 1) x)
def put (t : T α) (n : Nat) (x : α) : T α := set (n + 1) t n x
end T

/-- temporaries: how many there are, and what they hold -/
structure AT where
  n : Nat
  t : T AV
  deriving Inhabited
def AT.get (a : AT) (i : Nat) : AV := match a.t.get i with | some v => v | none => AV.undef
def AT.put (a : AT) (i : Nat) (v : AV) : AT := bif Nat.blt i a.n then ⟨a.n, a.t.put i v⟩ else a

inductive ADef where
  | call (f : Fn) (captured args : List AV)
  | collected (b : Nat)
  deriving Inhabited

structure ALoop where
  state : LoopState
  pending : Option Code
  fn : FuncId
  tmps : AT
  params : List Tmp
  assign : Code
  body : Code
  defers : Nat
  deriving Inhabited

inductive AB where
  | cells (c : List AV) (elem : TypeId) (fz : Bool)
  | loop (l : ALoop)
  | dfr (calls : Option (List ADef))
  | siter (s : List Nat) (pos : Nat)
  | dead
  deriving Inhabited

structure AH where
  next : Nat
  t : T AB
  deriving Inhabited

def AH.get (A : AH) (b : Nat) : Option AB := A.t.get b
def AH.put (A : AH) (b : Nat) (x : AB) : AH := ⟨A.next, A.t.put b x⟩
def AH.new (A : AH) (x : AB) : AH := ⟨A.next + 1, A.t.put A.next x⟩

mutual
def ofValue : Value → Option AV
  | .bool b => some (.bool b)
  | .int k n => some (.int k n)
  | .string s => some (.str (s.data.toList.map (·.toNat)))
  | .pointer none => some (.ptr none)
  | .slice none 0 0 => some (.slice none 0 (some 0))
  | .map none => some (.mapv none)
  | .func (.func f) ⟨a⟩ ⟨b⟩ => match ofValues a, ofValues b with | some a, some b => some (.fn (.func f) a b) | _, _ => none
  | .nilFunc => some .nilFn
  | .nilIface => some .nilIface
  | .agg ⟨cs⟩ => match ofValues cs with | some cs => some (.agg cs) | none => none
  | .tuple ⟨cs⟩ => match ofValues cs with | some cs => some (.tup cs) | none => none
  | _ => none
def ofValues : List Value → Option (List AV)
  | [] => some []
  | v :: vs => match ofValue v, ofValues vs with | some a, some b => some (a :: b) | _, _ => none
end

abbrev Tm := AT

def evalO (P : Program) (t : Tm) : Operand → Option AV
  | .tmp i => some (t.get i)
  | .const v => ofValue v
  | .global g => bif Nat.blt g P.globals.size then some (.ptr (some (g, 0))) else none
  | .func f => some (.fn (.func f) [] [])

def evalOs (P : Program) (t : Tm) : List Operand → Option (List AV)
  | [] => some []
  | x :: xs => match evalO P t x with
    | some v => match evalOs P t xs with | some vs => some (v :: vs) | none => none
    | none => none

/-- cells [o, o+n) of a list -/
def sub (l : List AV) (o n : Nat) : Option (List AV) :=
  bif Nat.ble (o + n) l.length then some ((l.drop o).take n) else none

def spliceL : List AV → Nat → List AV → List AV
  | l, _, [] => l
  | [], _, _ => []
  | _ :: l, 0, v :: vs => v :: spliceL l 0 vs
  | x :: l, o + 1, vs => x :: spliceL l o vs

def splice (l : List AV) (o : Nat) (vs : List AV) : Option (List AV) :=
  bif Nat.ble (o + vs.length) l.length then some (spliceL l o vs) else none

def isAgg (P : Program) (t : TypeId) : Option Bool :=
  match P.underlying t with
  | some (.struct _) | some (.array _ _) => some true
  | some _ => some false
  | none => none

def partA (P : Program) (t : TypeId) (cs : List AV) (off : Nat) : Option AV :=
  match isAgg P t with
  | some true => match P.info? t with
    | some i => match sub cs off i.size with | some l => some (.agg l) | none => none
    | none => none
  | some false => cs[off]?
  | none => none

def zeroA (P : Program) (t : TypeId) : Option (List AV) :=
  match P.info? t with
  | some i => match i.zero with
    | some v => match ofValue v with | some a => some a.cells | none => none
    | none => none
  | none => none

def repl (z : List AV) : Nat → List AV
  | 0 => []
  | n + 1 => z ++ repl z n

/-- the cells of a live block -/
def cellsAt (A : AH) (b : Nat) : Option (List AV × TypeId × Bool) :=
  match A.get b with
  | some (.cells c e f) => some (c, e, f)
  | _ => none

def loadA (P : Program) (A : AH) (t : TypeId) (b o : Nat) : Option AV :=
  match cellsAt A b with
  | some (c, _) => partA P t c o
  | none => none

def allOne (l : List AV) : Bool := l.all AV.oneCell

def storeCellsA (A : AH) (b o : Nat) (vs : List AV) : Option AH :=
  match A.get b with
  | some (.cells c e f) =>
    bif f then none else bif allOne vs then
      match splice c o vs with | some c' => some (A.put b (.cells c' e f)) | none => none
    else none
  | _ => none

def storeA (P : Program) (A : AH) (t : TypeId) (b o : Nat) (v : AV) : Option AH :=
  match P.info? t with
  | some i => bif Nat.beq v.cells.length i.size then storeCellsA A b o v.cells else none
  | none => none

/-- bytes of int cells -/
def bytesOfCells : List AV → Option (List Nat)
  | [] => some []
  | .int .u8 n :: l => match n with
    | .ofNat k => bif Nat.ble 256 k then none else match bytesOfCells l with | some bs => some (k :: bs) | none => none
    | _ => none
  | _ :: _ => none

def cellsOfBytes : List Nat → List AV
  | [] => []
  | b :: l => .int .u8 (.ofNat b) :: cellsOfBytes l

def bytesEq : List Nat → List Nat → Bool
  | [], [] => true
  | a :: x, b :: y => bif Nat.beq a b then bytesEq x y else false
  | _, _ => false

def bytesLt : List Nat → List Nat → Bool
  | _, [] => false
  | [], _ :: _ => true
  | a :: x, b :: y => bif Nat.blt a b then true else bif Nat.beq a b then bytesLt x y else false

def strOp (op : BinOp) (x y : List Nat) : Option AV :=
  match op with
  | .add => bif Nat.ble (x.length + y.length) 9223372036854775807 then some (.str (x ++ y)) else none
  | .eql => some (.bool (bytesEq x y))
  | .neq => some (.bool (!bytesEq x y))
  | .lss => some (.bool (bytesLt x y))
  | .leq => some (.bool (bytesLt x y || bytesEq x y))
  | .gtr => some (.bool !(bytesLt x y || bytesEq x y))
  | .geq => some (.bool !(bytesLt x y))
  | _ => none

def intBitsA (op : BinOp) (k : IntKind) (x y : Int) : Option AV :=
  let a := BitVec.ofInt k.bits x
  let b := BitVec.ofInt k.bits y
  match op with
  | .and => some (.int k (k.wrap (a &&& b).toNat))
  | .or => some (.int k (k.wrap (a ||| b).toNat))
  | .xor => some (.int k (k.wrap (a ^^^ b).toNat))
  | .andNot => some (.int k (k.wrap (a &&& ~~~b).toNat))
  | _ => none

def intOp (op : BinOp) (k : IntKind) (x y : Int) : Option AV :=
  match op with
  | .add => some (.int k (k.wrap (x + y)))
  | .sub => some (.int k (k.wrap (x - y)))
  | .mul => some (.int k (k.wrap (x * y)))
  | .quo => if y = 0 then none else some (.int k (k.wrap (x.tdiv y)))
  | .rem => if y = 0 then none else some (.int k (x.tmod y))
  | .and | .or | .xor | .andNot => intBitsA op k x y
  | .eql => some (.bool (x == y))
  | .neq => some (.bool (x != y))
  | .lss => some (.bool (x < y))
  | .leq => some (.bool (x ≤ y))
  | .gtr => some (.bool (x > y))
  | .geq => some (.bool (x ≥ y))
  | _ => none

def shiftA (op : BinOp) (k : IntKind) (x y : Int) : Option AV :=
  if y < 0 then none else
  let n := min y.toNat k.bits
  match op with
  | .shl => some (.int k (k.wrap (x * 2 ^ n)))
  | .shr => some (.int k (x.fdiv (2 ^ n)))
  | _ => none

/-- equality that looks at no memory -/
def eqA (d : Option TypeDesc) (x y : AV) : Option Bool :=
  match d, x, y with
  | some .bool, .bool a, .bool b => some (a == b)
  | some (.pointer _), .ptr none, .ptr b => some b.isNone
  | some (.pointer _), .ptr _, .ptr none => some false
  | some (.slice _), .slice none _ _, .slice b _ _ => some b.isNone
  | some (.slice _), .slice _ _ _, .slice none _ _ => some false
  | some (.map _ _), .mapv none, .mapv b => some b.isNone
  | some (.map _ _), .mapv _, .mapv none => some false
  | some (.func _ _ _), .nilFn, .nilFn => some true
  | some (.func _ _ _), .nilFn, .fn _ _ _ => some false
  | some (.func _ _ _), .fn _ _ _, .nilFn => some false
  | _, _, _ => none

/-- the fields of two structs, one by one -/
def eqFs (P : Program) (f : TypeId → AV → AV → Option Bool) (xs ys : List AV) : List Field → Option Bool
  | [] => some true
  | fd :: fs =>
    bif fd.name == "_" then eqFs P f xs ys fs else
    match partA P fd.type xs fd.offset, partA P fd.type ys fd.offset with
    | some x, some y => match f fd.type x y with
      | some true => eqFs P f xs ys fs
      | r => r
    | _, _ => none

/-- equality of values of a type -/
def eqT (P : Program) : Nat → TypeId → AV → AV → Option Bool
  | 0, _, _, _ => none
  | d + 1, t, x, y => match P.underlying t, x, y with
    | some (.int _), .int k a, .int k' b => if k = k' then some (a == b) else none
    | some .string, .str a, .str b => some (bytesEq a b)
    | some (.pointer e), .ptr (some a), .ptr (some b) => match P.info? e with
      | some i => bif !(i.size.beq 0) && a.1.beq b.1 && a.2.beq b.2 then some true else none
      | none => none
    | some (.struct fs), .agg xs, .agg ys => bif P.stoodInHeld t then none else eqFs P (eqT P d) xs ys fs.toList
    | u, x, y => eqA u x y

def eqB (P : Program) (t : TypeId) (x y : AV) : Option Bool :=
  match x with
  | .agg a => bif P.eqGuardType P.depth t then none else eqT P 100 t (.agg a) y
  | x => eqT P 100 t x y

def binA (P : Program) (op : BinOp) (t : TypeId) (x y : AV) : Option AV :=
  match x, y with
  | .int k a, .int k' b =>
    match op with
    | .shl | .shr => shiftA op k a b
    | _ => if k = k' then intOp op k a b else none
  | .str a, .str b => strOp op a b
  | x, y =>
    match op with
    | .eql => match eqB P t x y with | some b => some (.bool b) | none => none
    | .neq => match eqB P t x y with | some b => some (.bool !b) | none => none
    | _ => none

def unA (op : UnOp) (x : AV) : Option AV :=
  match op, x with
  | .neg, .int k n => some (.int k (k.wrap (0 - n)))
  | .not, .bool b => some (.bool !b)
  | .xor, .int k n => intBitsA .xor k (if k.signed then -1 else k.max) n
  | _, _ => none

def natOf : AV → Option Nat
  | .int _ (.ofNat n) => some n
  | _ => none

/-! ### Operations that look at memory, or at none -/

def pickA (P : Program) (t : Tm) (c a b : Operand) : Option AV :=
  match evalO P t c with
  | some (.bool c) => bif c then evalO P t a else evalO P t b
  | _ => none

def nilCheckA (P : Program) (t : Tm) (x : Operand) : Option AV :=
  match evalO P t x with
  | some (.ptr (some a)) => some (.ptr (some a))
  | some (.fn (.func f) a b) => some (.fn (.func f) a b)
  | some (.fn (.yield f) a b) => some (.fn (.yield f) a b)
  | _ => none

def binOpA (P : Program) (t : Tm) (op : BinOp) (ty : TypeId) (x y : Operand) : Option AV :=
  match evalO P t x, evalO P t y with
  | some a, some b => binA P op ty a b
  | _, _ => none

def unOpA (P : Program) (t : Tm) (op : UnOp) (x : Operand) : Option AV :=
  match evalO P t x with
  | some a => unA op a
  | none => none

def makeFuncA (P : Program) (t : Tm) (f : Fn) (first cap : Array Operand) : Option AV :=
  match f, evalOs P t first.toList, evalOs P t cap.toList with
  | .func f, some a, some b => some (.fn (.func f) a b)
  | _, _, _ => none

/-- a field of a type: where it lies, its type, its size -/
def fieldOf (P : Program) (s : TypeId) (f : Nat) : Option (Nat × TypeId × Nat) :=
  match P.underlying s with
  | some (.struct fs) => match fs[f]? with
    | some fd => match P.info? fd.type with
      | some i => some (fd.offset, fd.type, i.size)
      | none => none
    | none => none
  | _ => none

def fieldAddrA (P : Program) (t : Tm) (s : TypeId) (x : Operand) (f : Nat) : Option AV :=
  match fieldOf P s f, evalO P t x with
  | some (off, _, size), some (.ptr (some (b, o))) => bif size.beq 0 then none else some (.ptr (some (b, o + off)))
  | _, _ => none

def fieldA (P : Program) (t : Tm) (s : TypeId) (x : Operand) (f : Nat) : Option AV :=
  match fieldOf P s f, evalO P t x with
  | some (off, ty, _), some (.agg cs) => partA P ty cs off
  | _, _ => none

def sizeA (P : Program) (e : TypeId) : Option Nat :=
  match P.info? e with
  | some i => some i.size
  | none => none

def indexAddrA (P : Program) (t : Tm) (ty : TypeId) (x i : Operand) : Option AV :=
  match evalO P t i with
  | some (.int _ (.ofNat i)) => match P.underlying ty, evalO P t x with
    | some (.slice e), some (.slice (some (b, o)) len _) => match sizeA P e with
      | some sz => bif Nat.blt i len then some (.ptr (some (b, o + i * sz))) else none
      | none => none
    | some (.array len e), some (.ptr (some (b, o))) => match sizeA P e with
      | some sz => bif Nat.blt i len then some (.ptr (some (b, o + i * sz))) else none
      | none => none
    | _, _ => none
  | _ => none

def indexA (P : Program) (t : Tm) (ty : TypeId) (x i : Operand) : Option AV :=
  match evalO P t i with
  | some (.int _ (.ofNat i)) => match P.underlying ty, evalO P t x with
    | some .string, some (.str s) => match s[i]? with
      | some b => some (.int .u8 (.ofNat b))
      | none => none
    | some (.array len e), some (.agg cs) => match sizeA P e with
      | some sz => bif Nat.blt i len then partA P e cs (i * sz) else none
      | none => none
    | _, _ => none
  | _ => none

def extractA (P : Program) (t : Tm) (x : Operand) (i : Nat) : Option AV :=
  match evalO P t x with
  | some (.tup vs) => vs[i]?
  | _ => none

def loadOpA (P : Program) (A : AH) (t : Tm) (ty : TypeId) (x : Operand) : Option AV :=
  match evalO P t x with
  | some (.ptr (some (b, o))) => loadA P A ty b o
  | _ => none

/-- a bound of a slice expression -/
def boundA (P : Program) (t : Tm) (d : Nat) (x : Option Operand) : Option Nat :=
  match x with
  | none => some d
  | some x => match evalO P t x with
    | some v => natOf v
    | none => none

/-- low, high of a slice expression over what has 'len' shown and at most 'top' to be had -/
def boundsA (P : Program) (t : Tm) (len top : Nat) (lo hi : Option Operand) : Option (Nat × Nat) :=
  match boundA P t len hi, boundA P t 0 lo with
  | some h, some l => bif Nat.ble h top && Nat.ble l h then some (l, h) else none
  | _, _ => none

/-- how many elements a slice may be laid over again, as far as is known -/
def topOf (A : AH) (a : Option (Nat × Nat)) (len : Nat) (e : TypeId) (size : Nat) (cap : Option Nat) : Option Nat :=
  match cap, a with
  | some c, _ => some c
  | none, some (b, o) => match cellsAt A b with
    | some (c, e', _) => bif e'.beq e && !(size.beq 0) then some (max len ((c.length - o) / size)) else none
    | none => none
  | none, none => none

/-- the slice [l, h) of a slice -/
def cutA (a : Option (Nat × Nat)) (cap : Option Nat) (sz l h : Nat) : Option AV :=
  match a, cap with
  | none, some c => some (.slice none (h - l) (some (c - l)))
  | some (b, o), some c => some (.slice (some (b, bif c.beq l then o else o + l * sz)) (h - l) (some (c - l)))
  | some (b, o), none => some (.slice (some (b, o + l * sz)) (h - l) none)
  | none, none => none

def sliceA (P : Program) (A : AH) (t : Tm) (ty : TypeId) (x : Operand) (lo hi mx : Option Operand) : Option AV :=
  match P.underlying ty, evalO P t x with
  | some .string, some (.str s) => match mx, boundsA P t s.length s.length lo hi with
    | none, some (l, h) => some (.str ((s.drop l).take (h - l)))
    | _, _ => none
  | some (.slice e), some (.slice a len cap) => match sizeA P e with
    | some sz => match topOf A a len e sz cap with
      | some top => match mx with
        | none => match boundsA P t len top lo hi with
          | some (l, h) => cutA a cap sz l h
          | none => none
        | some mo => match boundA P t 0 (some mo) with
          | some m => match boundsA P t len m lo hi with
            | some (l, h) => bif Nat.ble m top && l.beq 0 && hi.isSome then some (.slice a h (some m)) else none
            | none => none
          | none => none
      | none => none
    | none => none
  | _, _ => none

def convStillA (P : Program) (A : AH) (t : Tm) (src dst : TypeId) (x : Operand) : Option AV :=
  match P.underlying src, P.underlying dst, evalO P t x with
  | some (.int _), some (.int k), some (.int _ n) => some (.int k (k.wrap n))
  | some .string, some .string, some (.str s) => some (.str s)
  | some (.slice e), some .string, some (.slice a len _) => match P.underlying e with
    | some (.int .u8) => match a with
      | none => some (.str [])
      | some (b, o) => match cellsAt A b with
        | some (c, _) => match sub c o len with
          | some l => match bytesOfCells l with | some s => some (.str s) | none => none
          | none => none
        | none => none
    | _ => none
  | some (.pointer _), some .unsafePointer, some (.ptr none) => some (.ptr none)
  | some .unsafePointer, some (.pointer _), some (.ptr none) => some (.ptr none)
  | some (.pointer e), some .unsafePointer, some (.ptr (some (b, o))) => match sizeA P e, cellsAt A b with
    | some sz, some (c, _, _) => bif !(sz.beq 0) && Nat.blt o c.length then some (.ptr (some (b, o))) else none
    | _, _ => none
  | some .unsafePointer, some (.pointer e), some (.ptr (some (b, o))) => match sizeA P e, cellsAt A b with
    | some sz, some (c, e', false) => bif !(sz.beq 0) && e'.beq e && (o % sz).beq 0 && Nat.ble (o + sz) c.length then some (.ptr (some (b, o))) else none
    | _, _ => none
  | _, _, _ => none

/-- the address of a slice's first cell -/
def dataA (P : Program) (t : Tm) (args : List Operand) : Option AV :=
  match args with
  | [x] => match evalO P t x with
    | some (.slice none _ _) => some (.ptr none)
    | some (.slice (some a) _ (some (_ + 1))) => some (.ptr (some a))
    | some (.slice (some a) (_ + 1) none) => some (.ptr (some a))
    | _ => none
  | _ => none

def lenA (P : Program) (t : Tm) (args : List Operand) (tys : List TypeId) : Option AV :=
  match args, tys with
  | [x], [ty] => match P.underlying ty, evalO P t x with
    | some .string, some (.str s) => some (.int .i64 (.ofNat s.length))
    | some (.slice _), some (.slice _ n _) => some (.int .i64 (.ofNat n))
    | some (.array n _), some _ => some (.int .i64 (.ofNat n))
    | _, _ => none
  | _, _ => none

def capA (P : Program) (t : Tm) (args : List Operand) (tys : List TypeId) : Option AV :=
  match args, tys with
  | [x], [ty] => match P.underlying ty, evalO P t x with
    | some (.slice _), some (.slice _ _ (some n)) => some (.int .i64 (.ofNat n))
    | _, _ => none
  | _, _ => none

def min2A (acc : Option AV) (v : AV) : Option AV :=
  match acc, v with
  | some (.int k x), .int _ y => some (.int k (if y < x then y else x))
  | _, _ => none
def max2A (acc : Option AV) (v : AV) : Option AV :=
  match acc, v with
  | some (.int k x), .int _ y => some (.int k (if y > x then y else x))
  | _, _ => none

def minA (P : Program) (t : Tm) (args : List Operand) : Option AV :=
  match evalOs P t args with
  | some (v :: rest) => rest.foldl min2A (some v)
  | _ => none
def maxA (P : Program) (t : Tm) (args : List Operand) : Option AV :=
  match evalOs P t args with
  | some (v :: rest) => rest.foldl max2A (some v)
  | _ => none

def callStillA (P : Program) (t : Tm) (c : Call) : Option AV :=
  match c.callee with
  | .builtin .len => lenA P t c.args.toList c.argTypes.toList
  | .builtin .cap => capA P t c.args.toList c.argTypes.toList
  | .builtin .min => minA P t c.args.toList
  | .builtin .max => maxA P t c.args.toList
  | .builtin .unsafeSliceData => dataA P t c.args.toList
  | _ => none

/-- an operation that turns no memory, and makes none -/
def readA (P : Program) (A : AH) (o : Op) (t : Tm) : Option AV :=
  match o with
  | .move x => evalO P t x
  | .assign x => evalO P t x
  | .pick c a b => pickA P t c a b
  | .nilCheck x => nilCheckA P t x
  | .binOp op ty x y _ => binOpA P t op ty x y
  | .unOp op _ x => unOpA P t op x
  | .makeFunc f first cap => makeFuncA P t f first cap
  | .fieldAddr s x f => fieldAddrA P t s x f
  | .field s x f => fieldA P t s x f
  | .indexAddr ty x i => indexAddrA P t ty x i
  | .index ty x i => indexA P t ty x i
  | .extract x i => extractA P t x i
  | .load ty x => loadOpA P A t ty x
  | .slice ty x lo hi mx => sliceA P A t ty x lo hi mx
  | .convert src dst x => convStillA P A t src dst x
  | .call c => callStillA P t c
  | _ => none

def fillA (place : Nat → Option (Nat × Nat)) (cells : List AV) : List (Nat × AV) → Option (List AV)
  | [] => some cells
  | (i, v) :: rest =>
    match place i with
    | none => none
    | some (off, size) =>
      bif Nat.beq v.cells.length size then
        match splice cells off v.cells with
        | some cells => fillA place cells rest
        | none => none
      else none

def placesA (P : Program) : List Field → Option (List (Nat × Nat))
  | [] => some []
  | f :: fs => match sizeA P f.type, placesA P fs with
    | some n, some ps => some ((f.offset, n) :: ps)
    | _, _ => none

def evalParts (P : Program) (t : Tm) : List (Nat × Operand) → Option (List (Nat × AV))
  | [] => some []
  | (i, x) :: xs => match evalO P t x with
    | some v => match evalParts P t xs with | some vs => some ((i, v) :: vs) | none => none
    | none => none

def allocA (P : Program) (A : AH) (e : TypeId) : Option (AV × AH) :=
  match zeroA P e with
  | some z => bif z.length.beq (P.cellsOf e) then some (.ptr (some (A.next, 0)), A.new (.cells z e false)) else none
  | none => none

def boxA (P : Program) (A : AH) (t : Tm) (e : TypeId) (x : Operand) : Option (AV × AH) :=
  match evalO P t x with
  | some v => bif v.cells.length.beq (P.cellsOf e) then some (.ptr (some (A.next, 0)), A.new (.cells v.cells e false)) else none
  | none => none

def elemPlace (size : Nat) (i : Nat) : Option (Nat × Nat) := some (i * size, size)

def buildA (P : Program) (t : Tm) (ty : TypeId) (parts : List (Nat × Operand)) : Option AV :=
  match zeroA P ty, evalParts P t parts with
  | some z, some ps => match P.underlying ty with
    | some (.struct fs) => match placesA P fs.toList with
      | some pl => match fillA (pl[·]?) z ps with
        | some cs => some (.agg cs)
        | none => none
      | none => none
    | some (.array _ e) => match sizeA P e with
      | some sz => match fillA (elemPlace sz) z ps with
        | some cs => some (.agg cs)
        | none => none
      | none => none
    | _ => none
  | _, _ => none

def buildSliceA (P : Program) (A : AH) (t : Tm) (ty : TypeId) (len : Nat) (parts : List (Nat × Operand)) : Option (AV × AH) :=
  match P.underlying ty with
  | some (.slice e) => match sizeA P e, zeroA P e, evalParts P t parts with
    | some sz, some z, some ps =>
      bif Nat.ble (len * sz) 16777216 && z.length.beq sz then
        match fillA (elemPlace sz) (repl z len) ps with
        | some cs => some (.slice (some (A.next, 0)) len (some len), A.new (.cells cs e false))
        | none => none
      else none
    | _, _, _ => none
  | _ => none

def makeSliceA (P : Program) (A : AH) (t : Tm) (ty : TypeId) (l c : Operand) : Option (AV × AH) :=
  match P.underlying ty, evalO P t l, evalO P t c with
  | some (.slice e), some (.int _ (.ofNat l)), some (.int _ (.ofNat c)) => match P.info? e, zeroA P e with
    | some inf, some z =>
      bif Nat.ble l c && Nat.ble (c * inf.bytes) 140737488355328 && Nat.ble c 140737488355328 && z.length.beq inf.size then
        some (.slice (some (A.next, 0)) l (some c), A.new (.cells (repl z c) e false))
      else none
    | _, _ => none
  | _, _, _ => none

def convMakeA (P : Program) (A : AH) (t : Tm) (src dst : TypeId) (x : Operand) : Option (AV × AH) :=
  match P.underlying src, P.underlying dst, evalO P t x with
  | some .string, some (.slice e), some (.str s) => match P.underlying e, sizeA P e with
    | some (.int .u8), some 1 => some (.slice (some (A.next, 0)) s.length none, A.new (.cells (cellsOfBytes s) e false))
    | _, _ => none
  | _, _, _ => none

def convSameA (P : Program) (A : AH) (t : Tm) (src dst : TypeId) (x : Operand) : Option (AV × AH) :=
  match P.underlying src, P.underlying dst, evalO P t x with
  | some (.slice _), some (.slice e), some (.slice (some (b, o)) len (some (k + 1))) => match P.underlying e, src.beq dst, A.get b with
    | some (.int .u8), true, some (.cells _ e' false) => bif !(e'.beq e) then none else some (.slice (some (b, o)) len (some (k + 1)), A)
    | _, _, _ => none
  | _, _, _ => none

def rangeA (P : Program) (A : AH) (t : Tm) (ty : TypeId) (x : Operand) : Option (AV × AH) :=
  match P.underlying ty, evalO P t x with
  | some .string, some (.str s) => some (.ptr (some (A.next, 0)), A.new (.siter s 0))
  | _, _ => none

/-- an operation that makes new memory (or a value of parts), and turns none that is there -/
def makeA (P : Program) (A : AH) (o : Op) (t : Tm) : Option (AV × AH) :=
  match o with
  | .alloc e => allocA P A e
  | .box e x => boxA P A t e x
  | .build ty parts => match buildA P t ty parts.toList with
    | some v => some (v, A)
    | none => none
  | .buildSlice ty len parts => buildSliceA P A t ty len parts.toList
  | .makeSlice ty l c => makeSliceA P A t ty l c
  | .convert src dst x => convMakeA P A t src dst x
  | .range ty x => rangeA P A t ty x
  | _ => none

def growOk (inf : TypeInfo) (need : Nat) : Bool := Nat.ble ((need * 2 + 1024) * inf.bytes) 281474976710656 && Nat.ble need 140737488355328

/-- append: in place, in new memory, or in the one or the other -/
def appendA (P : Program) (A : AH) (e : TypeId) (base : Option (Nat × Nat)) (len : Nat) (cap : Option Nat) (new : List AV) (n : Nat) : Option (AV × AH) :=
  bif n.beq 0 then some (.slice base len cap, A) else
  match P.info? e, zeroA P e with
  | some inf, some z =>
    bif inf.size.beq 0 || !(z.length.beq inf.size) || !(allOne new) || !(new.length.beq (n * inf.size)) then none else
    match base, cap with
    | none, some k => bif len.beq 0 && k.beq 0 && growOk inf n then some (.slice (some (A.next, 0)) n none, A.new (.cells new e false)) else none
    | none, none => none
    | some (b, o), some k =>
      bif Nat.ble (len + n) k then
        match storeCellsA A b (o + len * inf.size) new with
        | some A' => some (.slice (some (b, o)) (len + n) (some k), A')
        | none => none
      else match cellsAt A b with
        | some (c, _) => match sub c o (len * inf.size) with
          | some old => bif growOk inf (len + n) then some (.slice (some (A.next, 0)) (len + n) none, A.new (.cells (old ++ new) e false)) else none
          | none => none
        | none => none
    | some (b, o), none => match A.get b with
      | some (.cells c e' false) => bif e'.beq e then
          bif Nat.ble (o + (len + n) * inf.size) c.length then
            match storeCellsA A b (o + len * inf.size) new with
            | some A' => some (.slice (some (b, o)) (len + n) none, A')
            | none => none
          else match sub c o (len * inf.size) with
            | some old => bif growOk inf (len + n) && (o % inf.size).beq 0 then some (.slice (some (A.next, 0)) (len + n) none, (A.put b .dead).new (.cells (old ++ new) e false)) else none
            | none => none
        else none
      | _ => none
  | _, _ => none

/-- the cells that append or copy takes: of 'n' elements -/
def firstA (P : Program) (A : AH) (e : TypeId) (n : Nat) (x : AV) : Option (List AV) :=
  match x with
  | .str s => some (cellsOfBytes (s.take n))
  | .slice none _ _ => some []
  | .slice (some (b, o)) _ _ => match sizeA P e, cellsAt A b with
    | some sz, some (c, _) => sub c o (n * sz)
    | _, _ => none
  | _ => none

def lenOfA : AV → Option Nat
  | .str s => some s.length
  | .slice _ n _ => some n
  | _ => none

def storeOpA (P : Program) (A : AH) (t : Tm) (ty : TypeId) (x v : Operand) : Option AH :=
  match evalO P t x, evalO P t v with
  | some (.ptr (some (b, o))), some v => storeA P A ty b o v
  | _, _ => none

def notIntTy (P : Program) (t : TypeId) : Bool := match P.underlying t with
  | some (.int _) => false
  | some _ => true
  | none => false

def appendOpA (P : Program) (A : AH) (t : Tm) (args : List Operand) (tys : List TypeId) : Option (AV × AH) :=
  match args, tys with
  | [s, x], [ty, tx] => match P.underlying ty, notIntTy P tx, evalO P t s, evalO P t x with
    | some (.slice e), true, some (.slice base len cap), some x => match lenOfA x, sizeA P e with
      | some n, some _ => match firstA P A e n x with
        | some new => appendA P A e base len cap new n
        | none => none
      | _, _ => none
    | _, _, _, _ => none
  | _, _ => none

def copyOpA (P : Program) (A : AH) (t : Tm) (args : List Operand) (tys : List TypeId) : Option (AV × AH) :=
  match args, tys with
  | [s, x], (ty :: _) => match P.underlying ty, evalO P t s, evalO P t x with
    | some (.slice e), some (.slice base len _), some x => match lenOfA x, sizeA P e with
      | some n, some _ => match firstA P A e (min n len) x with
        | some new => match base with
          | some (b, o) => bif (min n len).beq 0 then some (.int .i64 (.ofNat (min n len)), A) else match storeCellsA A b o new with
            | some A => some (.int .i64 (.ofNat (min n len)), A)
            | none => none
          | none => some (.int .i64 (.ofNat (min n len)), A)
        | none => none
      | _, _ => none
    | _, _, _ => none
  | _, _ => none

/-- zeros in all places of a slice -/
def clearOpA (P : Program) (A : AH) (t : Tm) (args : List Operand) (tys : List TypeId) : Option (AV × AH) :=
  match args, tys with
  | [x], (ty :: _) => match P.underlying ty, evalO P t x with
    | some (.slice _), some (.slice none _ _) => some (.undef, A)
    | some (.slice _), some (.slice _ 0 _) => some (.undef, A)
    | some (.slice e), some (.slice (some (b, o)) (n + 1) _) => match P.info? e, zeroA P e with
      | some inf, some z => bif z.length.beq inf.size then match storeCellsA A b o (repl z (n + 1)) with
          | some A' => some (.undef, A')
          | none => none
        else none
      | _, _ => none
    | _, _ => none
  | _, _ => none

/-- bytes of memory as a string: they may not be written any more -/
def stringA (P : Program) (A : AH) (t : Tm) (args : List Operand) (tys : List TypeId) : Option (AV × AH) :=
  match args, tys with
  | [x, y], [ty, _] => match evalO P t x, evalO P t y with
    | some (.ptr _), some (.int .i64 (.ofNat 0)) => some (.str [], A)
    | some (.ptr (some (b, o))), some (.int .i64 (.ofNat n)) => match P.underlying ty, A.get b with
      | some (.pointer e), some (.cells c e' false) => match sizeA P e, sub c o n with
        | some 1, some l => match bytesOfCells l with
          | some s => bif e'.beq e && Nat.ble n 9223372036854775807 then some (.str s, A.put b (.cells c e' true)) else none
          | none => none
        | _, _ => none
      | _, _ => none
    | _, _ => none
  | _, _ => none

/-- bytes, as the model holds them -/
def ofBytes (s : List Nat) : ByteArray := ⟨(s.map fun n => n.toUInt8).toArray⟩

def nextA (P : Program) (A : AH) (t : Tm) (it : Operand) (isString : Bool) : Option (AV × AH) :=
  match isString, evalO P t it with
  | true, some (.ptr (some (r, 0))) => match A.get r with
    | some (.siter s pos) => match s[pos]? with
      | none => some (.tup [.bool false], A)
      | some c => bif Nat.blt c 128 then some (.tup [.bool true, .int .i64 (.ofNat pos), .int .i32 (.ofNat c)], A.put r (.siter s (pos + 1)))
        else some (.tup [.bool true, .int .i64 (.ofNat pos), .int .i32 (.ofNat (Utf8.decode (ofBytes s) pos).1)], A.put r (.siter s (pos + (Utf8.decode (ofBytes s) pos).2)))
    | _ => none
  | _, _ => none

/-- an operation that turns memory, but for calls of Go functions -/
def effA (P : Program) (A : AH) (o : Op) (t : Tm) : Option (AV × AH) :=
  match o with
  | .store ty x v => match storeOpA P A t ty x v with
    | some A => some (.undef, A)
    | none => none
  | .call c => match c.callee with
    | .builtin .append => appendOpA P A t c.args.toList c.argTypes.toList
    | .builtin .copy => copyOpA P A t c.args.toList c.argTypes.toList
    | .builtin .clear => clearOpA P A t c.args.toList c.argTypes.toList
    | .builtin .unsafeString => stringA P A t c.args.toList c.argTypes.toList
    | _ => none
  | .next it s => nextA P A t it s
  | .convert src dst x => convSameA P A t src dst x
  | _ => none

inductive Res where
  | more (retn : Bool) (fn : FuncId) (ro : Option Nat) (todo : List Item) (tmps : Tm) (dfs : List ADef) (A : AH)
  | done (v : AV) (A : AH)

inductive Req where
  | iter (k : Nat) (retn : Bool) (fn : FuncId) (ro : Option Nat) (todo : List Item) (tmps : Tm) (dfs : List ADef) (A : AH)
  | call (f : FuncId) (args : List AV) (A : AH)
  | dcall (f : FuncId) (args : List AV) (A : AH)
  | round (l : Nat) (args : List AV) (A : AH)

abbrev Rec := Req → Option Res
/-- hooks: functions without a Go body, or by a proved contract -/
abbrev Hook := FuncId → Option (List AV → AH → Option (AV × AH))

def initTmps (t : Tm) (i : Nat) : List AV → Tm
  | [] => t
  | v :: vs => initTmps (t.put i v) (i + 1) vs

def putA (t : Tm) (dst : Option Tmp) (v : AV) : Tm :=
  match dst with
  | some d => t.put d v
  | none => t

/-- a call through a value -/
def callV (rec : Rec) (f : AV) (args : List AV) (A : AH) : Option (AV × AH) :=
  match f with
  | .fn (.func f) first cap => match rec (.call f (first ++ args ++ cap) A) with
    | some (.done v A) => some (v, A)
    | _ => none
  | .fn (.yield l) first _ => match rec (.round l (first ++ args) A) with
    | some (.done v A) => some (v, A)
    | _ => none
  | _ => none

inductive Kind where
  | still | makes | effect | call | defer | no
  deriving DecidableEq

def kindOf (P : Program) : Op → Kind
  | .alloc _ | .box .. | .build .. | .buildSlice .. | .makeSlice .. | .range .. => .makes
  | .next .. => .effect
  | .convert src dst _ => match P.underlying src, P.underlying dst with
    | some .string, some (.slice _) => .makes
    | some (.slice _), some (.slice _) => .effect
    | _, _ => .still
  | .store .. => .effect
  | .call { callee := .builtin b, .. } => match b with
    | .len | .cap | .min | .max | .unsafeSliceData => .still
    | _ => .effect
  | .call { callee := .value _, .. } => .call
  | .call _ => .no
  | .defer _ => .defer
  | .move _ | .assign _ | .pick .. | .load .. | .nilCheck _ | .binOp .. | .unOp .. | .makeFunc .. | .slice .. | .fieldAddr .. | .field .. | .indexAddr .. | .index .. | .extract .. => .still
  | _ => .no

def wantedA (ops : List Oper) (o : Oper) (t : Tm) : Bool :=
  match o.guard with
  | none => true
  | some (j, want) => match ops[j]? with
    | some oj => match oj.dst with
      | some d => match t.get d with
        | .bool b => b == want
        | _ => false
      | none => false
    | none => false

/-- a call of a Go function -/
def callOpA (P : Program) (rec : Rec) (o : Op) (t : Tm) (A : AH) : Option (AV × AH) :=
  match o with
  | .call { callee := .value f, args, .. } => match evalO P t f, evalOs P t args.toList with
    | some f, some args => callV rec f args A
    | _, _ => none
  | _ => none

/-- an operation that turns memory, or a call -/
def turnA (P : Program) (rec : Rec) (o : Op) (t : Tm) (A : AH) : Option (AV × AH) :=
  match kindOf P o with
  | .effect => effA P A o t
  | .call => callOpA P rec o t A
  | _ => none

/-- one operation in its place -/
def operA (P : Program) (rec : Rec) (o : Oper) (ro : Option Nat) (t : Tm) (dfs : List ADef) (A : AH) : Option (Tm × List ADef × AH) :=
  match kindOf P o.op with
  | .still => match readA P A o.op t with | some v => some (putA t o.dst v, dfs, A) | none => none
  | .makes => match makeA P A o.op t with | some (v, A) => some (putA t o.dst v, dfs, A) | none => none
  | .defer => match ro, o.op with
    | none, .defer { callee := .value f, args, .. } => match evalO P t f, evalOs P t args.toList with
      | some (.fn f first cap), some args => some (putA t o.dst .undef, .call f cap (first ++ args) :: dfs, A)
      | _, _ => none
    | _, _ => none
  | .no => none
  | _ => match turnA P rec o.op t A with | some (v, A) => some (putA t o.dst v, dfs, A) | none => none

/-- a region in the order of its text -/
def inOrder (P : Program) (rec : Rec) (ops : List Oper) (ro : Option Nat) : List Oper → Tm → List ADef → AH → Option (Tm × List ADef × AH)
  | [], t, dfs, A => some (t, dfs, A)
  | o :: rest, t, dfs, A =>
    bif wantedA ops o t then
      match operA P rec o ro t dfs A with
      | some (t, dfs, A) => inOrder P rec ops ro rest t dfs A
      | none => none
    else inOrder P rec ops ro rest (putA t o.dst .undef) dfs A

/-- what is known to come ahead of each operation: a number whose bits say which -/
def aheads (acc : List Nat) : List Oper → List Nat
  | [] => acc
  | o :: rest => aheads (acc ++ [o.after.toList.foldl (fun s e => bif Region.binds .any e then s ||| 2 ^ e.on ||| acc.getD e.on 0 else s) 0]) rest

def isEff (P : Program) (o : Oper) : Bool := match kindOf P o.op with | .effect | .call | .defer => true | _ => false

def tmpsOf (xs : List Operand) : List Tmp := xs.filterMap fun | .tmp t => some t | _ => none
def looksAt (ops : List Oper) (o : Oper) : List Tmp :=
  tmpsOf o.op.operands.toList ++ (match o.guard with | some (j, _) => (match ops[j]? with | some oj => oj.dst.toList | none => []) | none => [])

/-- edges go back, writers of a temporary are ordered with all that name it, operations that turn memory are ordered -/
def regionOk (P : Program) (ops : List Oper) : Bool :=
  let bs := aheads [] ops
  let items := (ops.zip bs).zipIdx
  items.all fun ((o, b), i) =>
    o.after.toList.all (fun e => !Region.binds .any e || Nat.blt e.on i) &&
    items.all fun ((o', _), j) => !(Nat.blt j i) || b.testBit j ||
      (!(isEff P o && isEff P o') &&
       (match o'.dst with | some d => !(looksAt ops o).contains d && !(o.dst == some d) | none => true) &&
       (match o.dst with | some d => !(looksAt ops o').contains d | none => true))

mutual
def sameV : AV → AV → Bool
  | .bool a, .bool b => a == b
  | .int j a, .int k b => decide (j = k) && a == b
  | .str a, .str b => bytesEq a b
  | .ptr a, .ptr b => a == b
  | .slice a n c, .slice b m d => a == b && n == m && c == d
  | .mapv a, .mapv b => a == b
  | .fn f a b, .fn g c d => decide (f = g) && sameVs a c && sameVs b d
  | .nilFn, .nilFn => true
  | .nilIface, .nilIface => true
  | .agg a, .agg b => sameVs a b
  | .tup a, .tup b => sameVs a b
  | _, _ => false
def sameVs : List AV → List AV → Bool
  | [], [] => true
  | a :: x, b :: y => sameV a b && sameVs x y
  | _, _ => false
end

/-- does a look yield the same at other times? -/
def stillAt (P : Program) (o : Oper) (t : Tm) (v : AV) (A : AH) : Bool :=
  match readA P A o.op t with
  | some u => sameV u v
  | none => false

def turns (P : Program) (o : Op) : Bool := match kindOf P o with | .effect | .call => true | _ => false

/-- a region whose order is drawn: 'pasts': (number, state ahead of it) of what has turned memory; 'looks': (number, operation, temporaries, value) of what has looked -/
def drawn (P : Program) (rec : Rec) (ops : List Oper) : List ((Oper × Nat) × Nat) → List (Nat × AH) → List (Nat × Oper × Tm × AV) → Tm → AH → Option (Tm × AH)
  | [], _, _, t, A => some (t, A)
  | ((o, b), i) :: rest, pasts, looks, t, A =>
    bif wantedA ops o t then
      bif turns P o.op then
        match turnA P rec o.op t A with
        | some (v, A') =>
          bif looks.all (fun x => b.testBit x.1 || stillAt P x.2.1 x.2.2.1 x.2.2.2 A') then
            drawn P rec ops rest ((i, A) :: pasts) looks (putA t o.dst v) A'
          else none
        | none => none
      else match kindOf P o.op with
      | .still => match readA P A o.op t with
        | some v =>
          bif pasts.all (fun x => b.testBit x.1 || stillAt P o t v x.2) then
            drawn P rec ops rest pasts ((i, o, t, v) :: looks) (putA t o.dst v) A
          else none
        | none => none
      | .makes => match makeA P A o.op t with
        | some (v, A) => drawn P rec ops rest pasts looks (putA t o.dst v) A
        | none => none
      | _ => none
    else drawn P rec ops rest pasts looks (putA t o.dst .undef) A

def regionA (P : Program) (rec : Rec) (ops : Array Oper) (draw : Bool) (ro : Option Nat) (t : Tm) (dfs : List ADef) (A : AH) : Option (Tm × List ADef × AH) :=
  bif draw then
    bif regionOk P ops.toList then match drawn P rec ops.toList ((ops.toList.zip (aheads [] ops.toList)).zipIdx) [] [] t A with
      | some (t, A) => some (t, dfs, A)
      | none => none
    else none
  else inOrder P rec ops.toList ro ops.toList t dfs A

def resultsA (P : Program) (t : Tm) (A : AH) : List ResultVar → Option (List AV)
  | [] => some []
  | .tmp i :: rs => match resultsA P t A rs with
    | some vs => some (t.get i :: vs)
    | none => none
  | .cell a ty :: rs => match t.get a with
    | .ptr (some (b, o)) => match loadA P A ty b o, resultsA P t A rs with
      | some v, some vs => some (v :: vs)
      | _, _ => none
    | _ => none

/-- what a function's results come to -/
def packA : List AV → AV
  | [v] => v
  | vs => .tup vs

def endRoundA (A : AH) (l : Nat) (jump : Option Code) : Option Res :=
  match A.get l with
  | some (.loop r) => some (.done (.bool jump.isNone) (A.put l (.loop { r with state := if jump.isNone then .ready else .done, pending := jump })))
  | _ => none

def leaveA (fn : FuncId) (ro : Option Nat) (jump : Option Code) (todo : List Item) (t : Tm) (dfs : List ADef) (A : AH) : Option Res :=
  match ro with
  | none => match jump with
    | none | some .ret => some (.more true fn ro todo t dfs A)
    | _ => none
  | some l => endRoundA A l jump

/-- one step of a frame that returns -/
def retA (P : Program) (rec : Rec) (fn : FuncId) (ro : Option Nat) (todo : List Item) (t : Tm) (dfs : List ADef) (A : AH) : Option Res :=
  match dfs with
  | .collected b :: ds => match A.get b with
    | some (.dfr (some calls)) => some (.more true fn ro todo t (calls ++ ds) (A.put b (.dfr none)))
    | _ => none
  | .call (.func f) cap args :: ds => match rec (.dcall f (args ++ cap) A) with
    | some (.done _ A) => some (.more true fn ro todo t ds A)
    | _ => none
  | .call _ _ _ :: _ => none
  | [] => match ro, P.funcs[fn]? with
    | none, some fd => match resultsA P t A fd.results.toList with
      | some vs => some (.done (packA vs) A)
      | none => none
    | _, _ => none

def beginRoundA (A : AH) (ro : Option Nat) : Option AH :=
  match ro with
  | some l => match A.get l with
    | some (.loop r) => match r.state with
      | .ready => some (A.put l (.loop { r with state := .busy }))
      | _ => none
    | _ => none
  | none => none

/-- the record of a range over a function: where its deferred calls go, the mark, the heap -/
def enterA (A : AH) (ro : Option Nat) : Option (Nat × List ADef × AH) :=
  match ro with
  | some l => match A.get l with
    | some (.loop r) => some (r.defers, [], A)
    | _ => none
  | none => some (A.next, [.collected A.next], A.new (.dfr (some [])))

def endLoopA (A : AH) (l : Nat) : Option (Option Code × AH) :=
  match A.get l with
  | some (.loop r) => match r.state with
    | .busy => none
    | _ => some (r.pending, A.put l (.loop { r with state := .exhausted }))
  | _ => none

/-- a range over a function: the mark, what is to be done next, the heap -/
def rangeFuncA (P : Program) (rec : Rec) (fn : FuncId) (ro : Option Nat) (f : Operand) (params : Array Tmp) (assign body : Code) (t : Tm) (A : AH) : Option (List ADef × Option Code × AH) :=
  match enterA A ro, evalO P t f with
  | some (dfb, mark, A1), some (.fn (.func g) first cap) =>
    let l := A1.next
    match rec (.call g (first ++ [.fn (.yield l) [] []] ++ cap) (A1.new (.loop { state := .ready, pending := none, fn := fn, tmps := t, params := params.toList, assign := assign, body := body, defers := dfb }))) with
    | some (.done _ A3) => match endLoopA A3 l with
      | some (jump, A4) => some (mark, jump, A4)
      | none => none
    | _ => none
  | _, _ => none

def jumpItems : Option Code → List Item
  | some c => [.code c]
  | none => []

/-- one step of a frame that runs -/
def runA (P : Program) (rec : Rec) (fn : FuncId) (ro : Option Nat) (todo : List Item) (t : Tm) (dfs : List ADef) (A : AH) : Option Res :=
  match todo with
  | [] => leaveA fn ro none [] t dfs A
  | .code .ret :: k => leaveA fn ro (some .ret) (.code .ret :: k) t dfs A
  | .code .skip :: k => some (.more false fn ro k t dfs A)
  | .code (.label _) :: k => some (.more false fn ro k t dfs A)
  | .inBlock _ :: k => some (.more false fn ro k t dfs A)
  | .inScope _ :: k => some (.more false fn ro k t dfs A)
  | .code (.seq a b) :: k => some (.more false fn ro (.code a :: .code b :: k) t dfs A)
  | .code (.cond c a b) :: k => match evalO P t c with
    | some (.bool x) => some (.more false fn ro (.code (bif x then a else b) :: k) t dfs A)
    | _ => none
  | .code (.block id body) :: k => some (.more false fn ro (.code body :: .inBlock id :: k) t dfs A)
  | .code (.loop body) :: k => some (.more false fn ro (.code body :: .inLoop body :: k) t dfs A)
  | .inLoop body :: k => some (.more false fn ro (.code body :: .inLoop body :: k) t dfs A)
  | .code (.scope body) :: k => some (.more false fn ro (.code body :: .inScope body :: k) t dfs A)
  | .code (.exit id) :: k => match exitTo id k with
    | some k' => some (.more false fn ro k' t dfs A)
    | none => leaveA fn ro (some (.exit id)) (.code (.exit id) :: k) t dfs A
  | .code (.goto l) :: k => match gotoIn l k with
    | some k' => some (.more false fn ro k' t dfs A)
    | none => leaveA fn ro (some (.goto l)) (.code (.goto l) :: k) t dfs A
  | .beginRound :: k => match beginRoundA A ro with
    | some A => some (.more false fn ro k t dfs A)
    | none => none
  | .code (.region _ ops draw) :: k => match regionA P rec ops draw ro t dfs A with
    | some (t, dfs, A) => some (.more false fn ro k t dfs A)
    | none => none
  | .code (.rangeFunc f params assign body) :: k => match rangeFuncA P rec fn ro f params assign body t A with
    | some (mark, jump, A) => some (.more false fn ro (jumpItems jump ++ k) t (mark ++ dfs) A)
    | none => none
  | _ => none

/-- one step of a frame -/
def stepA (P : Program) (rec : Rec) (retn : Bool) (fn : FuncId) (ro : Option Nat) (todo : List Item) (t : Tm) (dfs : List ADef) (A : AH) : Option Res :=
  match retn with
  | true => retA P rec fn ro todo t dfs A
  | false => runA P rec fn ro todo t dfs A

def setParams (t : Tm) : List Tmp → List AV → Option Tm
  | [], [] => some t
  | p :: ps, v :: vs => setParams (t.put p v) ps vs
  | _, _ => none

def evF (P : Program) (hk : Hook) (rec : Rec) : Req → Option Res
  | .iter k retn fn ro todo t dfs A =>
    match k with
    | 0 => stepA P rec retn fn ro todo t dfs A
    | k + 1 => match rec (.iter k retn fn ro todo t dfs A) with
      | some (.more retn fn ro todo t dfs A) => rec (.iter k retn fn ro todo t dfs A)
      | r => r
  | .call f args A =>
    match hk f with
    | some h => match h args A with | some (v, A) => some (.done v A) | none => none
    | none => match P.funcs[f]? with
      | some fd => match fd.body with
        | some body => rec (.iter 20 false f none [.code body] (initTmps ⟨max args.length fd.ntmps, .nil⟩ 0 args) [] A)
        | none => none
      | none => none
  | .dcall f args A => match P.funcs[f]? with
    | some fd => match fd.body with
      | some body => rec (.iter 20 false f none [.code body] (initTmps ⟨max args.length fd.ntmps, .nil⟩ 0 args) [] A)
      | none => none
    | none => none
  | .round l args A => match A.get l with
    | some (.loop r) => match r.state, setParams r.tmps r.params args with
      | .ready, some t =>
        rec (.iter 20 false r.fn (some l) [.code r.assign, .beginRound, .code r.body] t [] A)
      | _, _ => none
    | _ => none

def ev (P : Program) (hk : Hook) : Nat → Rec
  | 0, _ => none
  | n + 1, r => evF P hk (ev P hk n) r

end Go.Fold
