/- What one operation does to an abstract state, as a function: its value, what becomes of blocks, and the condition under which the machine does the same. No conditions. -/
import Derived.Test.YtninaiooagfjfaaCb
set_option linter.unusedVariables false
set_option linter.unusedSimpArgs false
namespace Go.Abs
open Go Go.RowKit

/-! ### types -/
def sizeT (P : Program) (t : TypeId) : Option Nat := (P.info? t).map (·.size)
def bytesT (P : Program) (t : TypeId) : Nat := ((P.info? t).map (·.bytes)).getD 0
def aggT (P : Program) (t : TypeId) : Option Bool := match P.underlying t with | some (.struct _) | some (.array _ _) => some true | some _ => some false | none => none
def fldT (P : Program) (s f : Nat) : Option (Nat × Nat × Nat) :=
  match P.underlying s with
  | some (.struct fs) => (fs[f]?).bind fun x => (sizeT P x.type).map fun n => (x.offset, n, x.type)
  | _ => none
def elemT (P : Program) (t : TypeId) : Option Nat := match P.underlying t with | some (.slice e) => some e | _ => none
def strT (P : Program) (t : TypeId) : Bool := match P.underlying t with | some .string => true | _ => false
def intT (P : Program) (t : TypeId) : Option IntKind := match P.underlying t with | some (.int k) => some k | _ => none
def zeroT (P : Program) (t : TypeId) : Option (List Value) := ((P.info? t).bind (·.zero)).map (·.cells.toList)

/-- A struct's fields: where each begins, and how many cells it has. -/
def stT (P : Program) (t : TypeId) : Option (List (Nat × Nat)) :=
  match P.underlying t with
  | some (.struct fs) => fs.toList.mapM fun f => (P.info? f.type).map fun i => (f.offset, i.size)
  | _ => none
/-- A type of which rows may be: its cells and bytes. -/
def rowT (P : Program) (e : TypeId) : Option (Nat × Nat) :=
  match P.info? e with
  | some i => match i.zero with
    | some z => if z.cells.size = i.size ∧ 0 < i.size ∧ 0 < i.bytes then some (i.size, i.bytes) else none
    | none => none
  | none => none

/-! ### values -/
def one : V → Bool
  | .d (.lit v) => v.oneCell'
  | .d (.lst _) => true
  | .own _ | .ptr _ _ | .ept _ _ _ _ | .ip _ | .fn _ _ => true
  | _ => false
/-- A value's cells. -/
def cellsV : V → List V
  | .agg cs => cs
  | .d x => [.d x]
  | .own t => [.own t]
  | .ptr t o => [.ptr t o]
  | .ept t sz j k => [.ept t sz j k]
  | .ip cs => [.ip cs]
  | .tup cs => [.tup cs]
  | .fn f cs => [.fn f cs]
  | .when b v => [.when b v]
  | .any => [.any]
def nilV : V := .d (.lit (.slice none 0 0))
def dat (x : D) : V := .d x
def dint (k : IntKind) (n : Int) : V := .d (.lit (.int k n))
def dbool (b : Bool) : V := .d (.lit (.bool b))
def dstr (s : ByteArray) : V := .d (.lit (.string s))

/-- A cell as data; rows are read off the memory (and are not written from then on). -/
def toD (hp : List (Nat × Blk)) : V → Option D
  | .d (.lit v) => bif v.oneCell' then some (.lit v) else none
  | .d (.lst l) => some (.lst l)
  | .own t => match lk hp t with | some (.row _ _ l) => some (.lst l) | _ => none
  | _ => none
def toDs (hp : List (Nat × Blk)) : List V → Option (List D)
  | [] => some []
  | v :: r => match toD hp v, toDs hp r with | some x, some y => some (x :: y) | _, _ => none
/-- The rows among cells: they are given up. -/
def ownsOf : List V → List Nat
  | [] => []
  | .own t :: r => t :: ownsOf r
  | _ :: r => ownsOf r
def delAll (hp : List (Nat × Blk)) : List Nat → List (Nat × Blk)
  | [] => hp
  | t :: r => delAll (del hp t) r

/-- Cells from a place on, as many: a value of a type. -/
def nth {α : Type} : List α → Nat → Option α
  | [], _ => none
  | a :: _, 0 => some a
  | _ :: r, k + 1 => nth r k
def cut {α : Type} : List α → Nat → Nat → List α
  | [], _, _ => []
  | _ :: _, 0, 0 => []
  | a :: r, 0, n + 1 => a :: cut r 0 n
  | _ :: r, k + 1, n => cut r k n
def ins {α : Type} : List α → Nat → List α → List α
  | l, _, [] => l
  | [], _, _ => []
  | _ :: r, 0, b :: bs => b :: ins r 0 bs
  | a :: r, k + 1, bs => a :: ins r k bs

/-- What an operation does. -/
structure R where
  v : V
  gone : List Nat
  new : Option Blk
  set : Option (Nat × Blk)
  p : Prop

def pureR (v : V) (p : Prop) : Option R := some ⟨v, [], none, none, p⟩

def inI64 (n : Int) : Prop := -9223372036854775808 ≤ n ∧ n ≤ 9223372036854775807

/-- + - * : signed kinds must not overflow; unsigned ones wrap. -/
def arith (k : IntKind) (n : Int) : Int × Prop :=
  match k with
  | .i64 => (n, inI64 n)
  | .u64 => (n % 18446744073709551616, True)
  | .u32 => (n % 4294967296, True)
  | .u16 => (n % 65536, True)
  | .u8 => (n % 256, True)
  | .i32 => (n, -2147483648 ≤ n ∧ n ≤ 2147483647)
  | .i16 => (n, -32768 ≤ n ∧ n ≤ 32767)
  | .i8 => (n, -128 ≤ n ∧ n ≤ 127)

def intR (k : IntKind) (q : Int × Prop) : Option R := pureR (.d (.lit (.int k q.1))) q.2

def binI (op : BinOp) (k : IntKind) (a b : Int) : Option R :=
  match op with
  | .add => intR k (arith k (a + b))
  | .sub => intR k (arith k (a - b))
  | .mul => intR k (arith k (a * b))
  | .quo => pureR (.d (.lit (.int k (arith k (a / b)).1))) (0 ≤ a ∧ 0 < b ∧ (arith k (a / b)).2)
  | .rem => pureR (.d (.lit (.int k (a % b)))) (0 ≤ a ∧ 0 < b)
  | .eql => pureR (.d (.lit (.bool (decide (a = b))))) True
  | .neq => pureR (.d (.lit (.bool (decide (a ≠ b))))) True
  | .lss => pureR (.d (.lit (.bool (decide (a < b))))) True
  | .leq => pureR (.d (.lit (.bool (decide (a ≤ b))))) True
  | .gtr => pureR (.d (.lit (.bool (decide (b < a))))) True
  | .geq => pureR (.d (.lit (.bool (decide (b ≤ a))))) True
  | _ => none

def binS (op : BinOp) (a b : ByteArray) : Option R :=
  match op with
  | .add => pureR (.d (.lit (.string (a ++ b)))) (a.size + b.size ≤ 9223372036854775807)
  | .eql => pureR (.d (.lit (.bool (decide (a = b))))) True
  | .neq => pureR (.d (.lit (.bool (decide (a ≠ b))))) True
  | _ => none

def binB (op : BinOp) (a b : Bool) : Option R :=
  match op with
  | .eql => pureR (.d (.lit (.bool (a == b)))) True
  | .neq => pureR (.d (.lit (.bool (a != b)))) True
  | _ => none

def boolT (P : Program) (t : TypeId) : Bool := match P.underlying t with | some .bool => true | _ => false
def binV (P : Program) (op : BinOp) (t : TypeId) (x y : V) : Option R :=
  match x, y with
  | .d (.lit (.int k a)), .d (.lit (.int k' b)) => if k = k' then binI op k a b else none
  | .d (.lit (.string a)), .d (.lit (.string b)) => binS op a b
  | .d (.lit (.bool a)), .d (.lit (.bool b)) => if boolT P t then binB op a b else none
  | _, _ => none

def unV (op : UnOp) (x : V) : Option R :=
  match op, x with
  | .not, .d (.lit (.bool b)) => pureR (.d (.lit (.bool (!b)))) True
  | .neg, .d (.lit (.int k n)) => intR k (arith k (-n))
  | _, _ => none

end Go.Abs
