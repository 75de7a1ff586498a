/- Contracts of Go functions over abstract values, and the run of a region's operations as a function. No conditions. -/
import Derived.Test.YtninaiooagfjfaaCc
set_option linter.unusedVariables false
set_option linter.unusedSimpArgs false
namespace Go.Abs
open Go Go.RowKit

def enum : List Blk → Nat → List (Nat × Blk)
  | [], _ => []
  | b :: r, i => (i, b) :: enum r (i + 1)

/-- What a call does: called with values that read as args, the blocks bs being handed over: it returns v; the blocks are bs' then (the first ones are those that were handed over). -/
def CallsA (P : Program) (f : Nat) (args : List V) (bs : List Blk) (v : V) (bs' : List Blk) : Prop :=
  ∀ (w : World) (m : Nat → Value) (nt : Nat) (F : Nat → Prop) (us : Array Value), RelH ⟨w, bs.length, m, nt, F⟩ (enum bs 0) (fun t => t < bs.length) w m →
    args.length = us.size → (∀ (k : Nat) (x : V) (u : Value), args[k]? = some x → us[k]? = some u → RV (Cw F (enum bs 0) m w) m (fun t => t < bs.length) x u) →
    Calls P f us w fun e w' => ∃ u m' U', e = .returned u ∧ RelH ⟨w, bs.length, m, nt, F⟩ (enum bs' 0) U' w' m' ∧ RV (Cw F (enum bs' 0) m' w') m' U' v u

mutual
/-- Are all tokens below n? -/
def tokB (n : Nat) : V → Bool
  | .own t => t.blt n
  | .ptr t _ => t.blt n
  | .ept t _ _ _ => t.blt n
  | .agg cs => tokLB n cs
  | .tup cs => tokLB n cs
  | .fn _ cs => tokLB n cs
  | .when _ _ => false
  | _ => true
def tokLB (n : Nat) : List V → Bool
  | [] => true
  | x :: r => tokB n x && tokLB n r
end
def tokBlk (n : Nat) : Blk → Bool
  | .var _ cs => tokLB n cs
  | .row _ _ _ => true
def tokBlks (n : Nat) : List Blk → Bool
  | [] => true
  | b :: r => tokBlk n b && tokBlks n r

mutual
/-- Has a value no data that leads to memory? -/
def flat : V → Bool
  | .d (.lit _) => true
  | .d (.lst _) => false
  | .ip _ => false
  | .agg cs => flatL cs
  | .tup cs => flatL cs
  | .fn _ cs => flatL cs
  | _ => true
def flatL : List V → Bool
  | [] => true
  | x :: r => flat x && flatL r
end
def flatD : List D → Bool
  | [] => true
  | .lit _ :: r => flatD r
  | .lst _ :: _ => false
def flatBlk : Blk → Bool
  | .var _ cs => flatL cs
  | .row _ _ _ => false
def flatBlks : List Blk → Bool
  | [] => true
  | b :: r => flatBlk b && flatBlks r

/-- Is a function one that is entered? -/
def callB (P : Program) (f : Nat) : Bool := match P.funcs[f]? with | some fn => !(fn.name == "runtime.NumGoroutine") && fn.body.isSome | none => false

structure CR (P : Program) where
  f : Nat
  args : List V
  bs : List Blk
  v : V
  bs' : List Blk
  ok : CallsA P f args bs v bs'
  len : (bs.length.ble bs'.length && bs'.length.ble (bs.length + 1)) = true
  tok : (tokB bs'.length v && tokBlks bs'.length bs') = true
  en : callB P f = true

/-- A contract and the tokens that are handed over. -/
structure Use (P : Program) where
  cr : CR P
  ts : List Nat

def idx : List Nat → Nat → Option Nat
  | [], _ => none
  | t :: r, k => bif t.beq k then some 0 else (idx r k).map (· + 1)

mutual
/-- As the callee sees it: the tokens that are handed over are numbered anew; all else is data. -/
def snap (hp : List (Nat × Blk)) (ts : List Nat) : V → V
  | .own t => match idx ts t with
    | some i => .own i
    | none => match lk hp t with
      | some (.row _ _ l) => .d (.lst l)
      | _ => .any
  | .ptr t o => match idx ts t with
    | some i => .ptr i o
    | none => match lk hp t with
      | some (.var _ cs) => match toDs [] (cs.drop o) with
        | some ds => .ip ds
        | none => .any
      | _ => .any
  | .ept t sz j k => match idx ts t with
    | some i => .ept i sz j k
    | none => .any
  | .agg cs => .agg (snapL hp ts cs)
  | .tup cs => .tup (snapL hp ts cs)
  | .fn f cs => .fn f (snapL hp ts cs)
  | .when _ _ => .any
  | x => x
def snapL (hp : List (Nat × Blk)) (ts : List Nat) : List V → List V
  | [] => []
  | x :: r => snap hp ts x :: snapL hp ts r
end

mutual
/-- The tokens that are seen as data. -/
def seen (ts : List Nat) : V → List Nat
  | .own t => match idx ts t with | some _ => [] | none => [t]
  | .ptr t _ => match idx ts t with | some _ => [] | none => [t]
  | .ept t _ _ _ => match idx ts t with | some _ => [] | none => [t]
  | .agg cs => seenL ts cs
  | .tup cs => seenL ts cs
  | .fn _ cs => seenL ts cs
  | _ => []
def seenL (ts : List Nat) : List V → List Nat
  | [] => []
  | x :: r => seen ts x ++ seenL ts r
end

/-- The tokens that are seen as data in the blocks that are handed over. -/
def seenH (hp : List (Nat × Blk)) (all : List Nat) : List Nat → List Nat
  | [] => []
  | t :: r => (match lk hp t with | some (.var _ cs) => seenL all cs | _ => []) ++ seenH hp all r

def leD : D → D → Prop
  | x, y => x = y ∨ (x = .lit (.slice none 0 0) ∧ y = .lst [])
mutual
/-- The second tells no more than the first. -/
def le : V → V → Prop
  | _, .any => True
  | .d x, .d y => leD x y
  | .agg a, .agg b => leL a b
  | .tup a, .tup b => leL a b
  | .fn f a, .fn g b => f = g ∧ leL a b
  | x, y => x = y
def leL : List V → List V → Prop
  | [], [] => True
  | x :: a, y :: b => le x y ∧ leL a b
  | _, _ => False
end
def leBlk : Blk → Blk → Prop
  | .var t a, .var t' b => t = t' ∧ leL a b
  | .row e sz l, .row e' sz' l' => e = e' ∧ sz = sz' ∧ l = l'
  | _, _ => False
def snapB (hp : List (Nat × Blk)) (ts : List Nat) : Blk → Blk
  | .var t a => .var t (snapL hp ts a)
  | b => b
/-- Do the blocks that are handed over read as the contract has it? -/
def hands (hp : List (Nat × Blk)) (all : List Nat) : List Nat → List Blk → Prop
  | [], [] => True
  | t :: ts, b :: bs => (match lk hp t with | some b' => leBlk (snapB hp all b') b | none => False) ∧ hands hp all ts bs
  | _, _ => False

def sig (ts : List Nat) (tk : Nat) (i : Nat) : Nat := (nth ts i).getD tk
mutual
def ren (ts : List Nat) (tk : Nat) : V → V
  | .own t => .own (sig ts tk t)
  | .ptr t o => .ptr (sig ts tk t) o
  | .ept t sz j k => .ept (sig ts tk t) sz j k
  | .agg cs => .agg (renL ts tk cs)
  | .tup cs => .tup (renL ts tk cs)
  | .fn f cs => .fn f (renL ts tk cs)
  | .when _ _ => .any
  | x => x
def renL (ts : List Nat) (tk : Nat) : List V → List V
  | [] => []
  | x :: r => ren ts tk x :: renL ts tk r
end
def renB (ts : List Nat) (tk : Nat) : Blk → Blk
  | .var t a => .var t (renL ts tk a)
  | b => b

/-- The blocks behind a call: what was handed over, and one that may be new. -/
def backs (ts : List Nat) (tk : Nat) : List Nat → List Blk → List (Nat × Blk) × Option Blk
  | t :: r, b :: bs => let q := backs ts tk r bs; ((t, renB ts tk b) :: q.1, q.2)
  | [], b :: _ => ([], some (renB ts tk b))
  | _, [] => ([], none)

/-- What an operation does: its value; blocks that are given up; blocks written anew; a new block; its condition. -/
structure Rs (P : Program) where
  v : V
  gone : List Nat
  set : List (Nat × Blk)
  new : Option Blk
  p : Prop
  L : List (Use P)

section
variable {P : Program}
def ofR (L : List (Use P)) : Option R → Option (Rs P)
  | some r => some ⟨r.v, r.gone, match r.set with | some q => [q] | none => [], r.new, r.p, L⟩
  | none => none

def callA (hp : List (Nat × Blk)) (tk : Nat) (f : Nat) (args : List V) : List (Use P) → Option (Rs P)
  | [] => none
  | u :: L =>
    if f = u.cr.f then
      match u.ts, u.cr.bs, u.cr.bs' with
      | [], [], [] => some ⟨u.cr.v, bif flat u.cr.v then [] else seenL [] args, [], none, leL (snapL hp [] args) u.cr.args, L⟩
      | ts, bs, bs' => some ⟨ren ts tk u.cr.v, bif flat u.cr.v && flatBlks bs' then [] else seenL ts args ++ seenH hp ts ts, (backs ts tk ts bs').1, (backs ts tk ts bs').2,
          leL (snapL hp ts args) u.cr.args ∧ hands hp ts ts bs ∧ ts.Nodup, L⟩
    else none

def eo (fr : List (Nat × V)) : Operand → Option V
  | .tmp t => lk fr t
  | .const v => some (.d (.lit v))
  | .func f => some (.fn f [])
  | .global _ => none
def eos (fr : List (Nat × V)) : List Operand → Option (List V)
  | [] => some []
  | x :: r => match eo fr x, eos fr r with | some a, some b => some (a :: b) | _, _ => none

def lenV (hp : List (Nat × Blk)) : V → Option Int
  | .d (.lit (.string s)) => some s.size
  | .d (.lit (.slice none 0 0)) => some 0
  | .d (.lst l) => some l.length
  | .own t => match lk hp t with | some (.row _ _ l) => some l.length | _ => none
  | _ => none

def lenT (P : Program) (t : TypeId) : V → Bool
  | .d (.lit (.string _)) => strT P t
  | _ => (elemT P t).isSome

/-- The elements that an append adds. -/
def rowsV (hp : List (Nat × Blk)) : V → Option (List (List D))
  | .d (.lit (.slice none 0 0)) => some []
  | .d (.lst l) => some l
  | .own t => match lk hp t with | some (.row _ _ l) => some l | _ => none
  | _ => none

def appendA (P : Program) (n0 : Nat) (hp : List (Nat × Blk)) (tk : Nat) (t : TypeId) (x y : V) (L : List (Use P)) : Option (Rs P) :=
  match elemT P t, rowsV hp y with
  | some e, some l2 => match rowT P e, x with
    | some (sz, by_), .d (.lit (.slice none 0 0)) => some ⟨.own tk, [], [], some (.row e sz l2), l2.length * by_ ≤ 140737488355328 ∧ (∀ row ∈ l2, row.length = sz), L⟩
    | some (sz, by_), .own t0 => match lk hp t0 with
      | some (.row e' sz' l) => if e = e' ∧ sz = sz' ∧ n0 ≤ t0 then some ⟨.own tk, [t0], [], some (.row e sz (l ++ l2)), (l.length + l2.length) * by_ ≤ 140737488355328 ∧ (∀ row ∈ l2, row.length = sz), L⟩ else none
      | _ => none
    | _, _ => none
  | _, _ => none

def fillA (pl : List (Nat × Nat)) (fr : List (Nat × V)) : List (Nat × Operand) → List V → Option (List V)
  | [], cs => some cs
  | (i, x) :: r, cs => match nth pl i, eo fr x with
    | some (o, n), some v => if (cellsV v).length = n ∧ o + n ≤ cs.length ∧ (cellsV v).all one then fillA pl fr r (ins cs o (cellsV v)) else none
    | _, _ => none

def rowsA (hp : List (Nat × Blk)) (fr : List (Nat × V)) (sz : Nat) : Nat → List (Nat × Operand) → Option (List (List D) × List Nat)
  | _, [] => some ([], [])
  | k, (i, x) :: r => if i = k then match eo fr x with
      | some v => match toDs hp (cellsV v), rowsA hp fr sz (k + 1) r with
        | some ds, some (l, g) => if ds.length = sz then some (ds :: l, ownsOf (cellsV v) ++ g) else none
        | _, _ => none
      | none => none
    else none

def loadA (P : Program) (hp : List (Nat × Blk)) (t : TypeId) (x : V) : Option (V × Prop) :=
  match x with
  | .ptr k o => match lk hp k with
    | some (.var _ cs) => match aggT P t, sizeT P t with
      | some true, some n => if (cut cs o n).length = n then some (.agg (cut cs o n), True) else none
      | some false, _ => match nth cs o with | some u => some (u, True) | none => none
      | _, _ => none
    | _ => none
  | .ip ds => match aggT P t, sizeT P t with
    | some true, some n => if (cut ds 0 n).length = n then some (.agg ((cut ds 0 n).map .d), True) else none
    | some false, _ => match nth ds 0 with | some u => some (.d u, True) | none => none
    | _, _ => none
  | .ept k sz j o => match lk hp k with
    | some (.row _ sz' l) => if sz = sz' then (match aggT P t, sizeT P t with
      | some true, some n => if o + n ≤ sz then some (.agg ((cut (l.getD j []) o n).map .d), j < l.length) else none
      | some false, _ => if o < sz then some (.d ((l.getD j []).getD o (.lst [])), j < l.length) else none
      | _, _ => none) else none
    | _ => none
  | _ => none

/-- A value that holds under a condition. -/
def cdV : V → Bool × V
  | .when c v => (c, v)
  | v => (true, v)
def pickV (t : Bool) : V → V → V
  | .d (.lit (.bool a)), .d (.lit (.bool b)) => .d (.lit (.bool (bif t then a else b)))
  | .d (.lit (.int k a)), .d (.lit (.int k' b)) => if k = k' then .d (.lit (.int k (bif t then a else b))) else bif t then .d (.lit (.int k a)) else .d (.lit (.int k' b))
  | x, y => bif t then x else y

/-- A slice's bound. -/
def boundA (fr : List (Nat × V)) (d : Int) : Option Operand → Option Int
  | none => some d
  | some y => match eo fr y with | some (.d (.lit (.int _ n))) => some n | _ => none

def sliceV (P : Program) (fr : List (Nat × V)) (hp : List (Nat × Blk)) (t : TypeId) (v : V) (l : Int) (hi : Option Operand) (L : List (Use P)) : Option (Rs P) :=
  match v with
  | .d (.lit (.string s)) => match strT P t, boundA fr s.size hi with
    | true, some h => some ⟨.d (.lit (.string (s.extract l.toNat h.toNat))), [], [], none, 0 ≤ l ∧ l ≤ h ∧ h ≤ s.size, L⟩
    | _, _ => none
  | v => match elemT P t, rowsV hp v with
    | some e, some rows => match sizeT P e, boundA fr rows.length hi with
      | some sz, some h => some ⟨.d (.lst ((rows.take h.toNat).drop l.toNat)), ownsOf [v], [], none, 0 ≤ l ∧ l ≤ h ∧ h ≤ rows.length ∧ ∀ row ∈ rows, row.length = sz, L⟩
      | _, _ => none
    | _, _ => none

def sliceA (P : Program) (fr : List (Nat × V)) (hp : List (Nat × Blk)) (t : TypeId) (x : Operand) (lo hi : Option Operand) (L : List (Use P)) : Option (Rs P) :=
  match eo fr x, boundA fr 0 lo with
  | some v, some l => sliceV P fr hp t v l hi L
  | _, _ => none

/-- One operation. tk: the number that a new block gets. -/
def stp (P : Program) (n0 : Nat) (fr : List (Nat × V)) (hp : List (Nat × Blk)) (tk : Nat) (L : List (Use P)) (o : Oper) : Option (Rs P) :=
  let out (v : V) : Option (Rs P) := some ⟨v, [], [], none, True, L⟩
  match o.op with
  | .move x | .assign x => match eo fr x with | some v => out v | none => none
  | .pick c a b => match eo fr c, eo fr a, eo fr b with
    | some (.d (.lit (.bool t))), some va, some vb => some ⟨pickV t (cdV va).2 (cdV vb).2, [], [], none, (t = true → (cdV va).1 = true) ∧ (t = false → (cdV vb).1 = true), L⟩
    | _, _, _ => none
  | .alloc t => match zeroT P t with
    | some zs => if zs.all (·.oneCell') then some ⟨.ptr tk 0, [], [], some (.var t (zs.map fun z => .d (.lit z))), True, L⟩ else none
    | none => none
  | .box t x => match eo fr x, sizeT P t with
    | some v, some n => if (cellsV v).all one ∧ (cellsV v).length = n then some ⟨.ptr tk 0, [], [], some (.var t (cellsV v)), True, L⟩ else none
    | _, _ => none
  | .build t ps => match zeroT P t, stT P t with
    | some zs, some pl => if zs.all (·.oneCell') then match fillA pl fr ps.toList (zs.map fun z => .d (.lit z)) with
      | some cs => out (.agg cs)
      | none => none else none
    | _, _ => none
  | .buildSlice t n ps => match elemT P t with
    | some e => match rowT P e with
      | some (sz, _) => match rowsA hp fr sz 0 ps.toList with
        | some (l, g) => if l.length = n ∧ n * sz ≤ 16777216 then some ⟨.own tk, g, [], some (.row e sz l), True, L⟩ else none
        | none => none
      | none => none
    | none => none
  | .load t x => match eo fr x, sizeT P t with
    | some v, some _ => match loadA P hp t v with | some (u, p) => some ⟨u, [], [], none, p, L⟩ | none => none
    | _, _ => none
  | .store t x y => match eo fr x, eo fr y, sizeT P t with
    | some (.ptr k o), some v, some n => match lk hp k with
      | some (.var ty cs) => if (cellsV v).length = n ∧ (cellsV v).all one ∧ o + n ≤ cs.length then some ⟨.d (.lit undef), [], [(k, .var ty (ins cs o (cellsV v)))], none, True, L⟩ else none
      | _ => none
    | some (.ept k sz j o), some v, some n => match lk hp k, toDs hp (cellsV v) with
      | some (.row e sz' l), some ds => if sz = sz' ∧ ds.length = n ∧ o + n ≤ sz ∧ k ∉ ownsOf (cellsV v) then some ⟨.d (.lit undef), ownsOf (cellsV v), [(k, .row e sz (l.set j (ins (l.getD j []) o ds)))], none, j < l.length, L⟩ else none
      | _, _ => none
    | _, _, _ => none
  | .nilCheck x => match eo fr x with
    | some (.ptr k o) => out (.ptr k o)
    | some (.ept k sz j o) => out (.ept k sz j o)
    | some (.ip ds) => out (.ip ds)
    | some (.fn f cs) => out (.fn f cs)
    | _ => none
  | .binOp op t x y _ => match eo fr x, eo fr y with
    | some a, some b => ofR L (binV P op t a b)
    | _, _ => none
  | .unOp op _ x => match eo fr x with
    | some a => ofR L (unV op a)
    | none => none
  | .convert s t x => match eo fr x with
    | some (.d (.lit (.int k n))) => match intT P t, P.underlying s with
      | some k', some _ => ofR L (intR k' (arith k' n))
      | _, _ => none
    | _ => none
  | .makeFunc (.func f) first cap => if first.size = 0 then match eos fr cap.toList with | some vs => out (.fn f vs) | none => none else none
  | .fieldAddr s x f => match eo fr x, fldT P s f with
    | some (.ptr k o), some (p, n, _) => if n = 0 then none else out (.ptr k (o + p))
    | some (.ept k sz j o), some (p, n, _) => if n = 0 then none else out (.ept k sz j (o + p))
    | some (.ip ds), some (p, n, _) => if n = 0 then none else out (.ip (ds.drop p))
    | _, _ => none
  | .field s x f => match eo fr x, fldT P s f with
    | some (.agg cs), some (p, n, t) => match aggT P t with
      | some true => if (cut cs p n).length = n then out (.agg (cut cs p n)) else none
      | some false => match nth cs p with | some v => out v | none => none
      | none => none
    | _, _ => none
  | .indexAddr t x i => match eo fr x, eo fr i, elemT P t with
    | some (.d (.lst l)), some (.d (.lit (.int _ j))), some e => match sizeT P e with
      | some sz => some ⟨.ip (l.getD j.toNat []), [], [], none, 0 < sz ∧ 0 ≤ j ∧ j < l.length ∧ ∀ row ∈ l, row.length = sz, L⟩
      | none => none
    | some (.own k), some (.d (.lit (.int _ j))), some e => match lk hp k, sizeT P e with
      | some (.row e' sz' l), some sz => if sz = sz' then some ⟨.ept k sz j.toNat 0, [], [], none, 0 ≤ j ∧ j < l.length, L⟩ else none
      | _, _ => none
    | _, _, _ => none
  | .index t x i => match eo fr x, eo fr i with
    | some (.d (.lit (.string s))), some (.d (.lit (.int _ j))) => bif strT P t then some ⟨.d (.lit (.int .u8 (s.get! j.toNat).toNat)), [], [], none, 0 ≤ j ∧ j < s.size, L⟩ else none
    | _, _ => none
  | .slice t x lo hi none => sliceA P fr hp t x lo hi L
  | .extract x i => match eo fr x with
    | some (.tup vs) => match nth vs i with | some v => out v | none => none
    | _ => none
  | .call c => match c.callee with
    | .builtin .len => match c.args, c.argTypes with
      | ⟨[x]⟩, ⟨[t]⟩ => match eo fr x with
        | some v => match lenV hp v with | some n => bif lenT P t v then out (.d (.lit (.int .i64 n))) else none | none => none
        | none => none
      | _, _ => none
    | .builtin .append => match c.args, c.argTypes with
      | ⟨[x, y]⟩, ⟨[t, t']⟩ => if t = t' then match eo fr x, eo fr y with
          | some a, some b => appendA P n0 hp tk t a b L
          | _, _ => none
        else none
      | _, _ => none
    | .builtin .max => match c.args with
      | ⟨[x, y]⟩ => match eo fr x, eo fr y with
        | some (.d (.lit (.int k a))), some (.d (.lit (.int k' b))) => if k = k' then out (.d (.lit (.int k (max a b)))) else none
        | _, _ => none
      | _ => none
    | .builtin .min => match c.args with
      | ⟨[x, y]⟩ => match eo fr x, eo fr y with
        | some (.d (.lit (.int k a))), some (.d (.lit (.int k' b))) => if k = k' then out (.d (.lit (.int k (min a b)))) else none
        | _, _ => none
      | _ => none
    | .value fn => match eo fr fn, eos fr c.args.toList with
      | some (.fn f cap), some vs => callA hp tk f (vs ++ cap) L
      | _, _ => none
    | _ => none
  | _ => none

/-- The blocks behind an operation. -/
def after (hp : List (Nat × Blk)) (tk : Nat) (r : Rs P) : List (Nat × Blk) :=
  let h := (r.set.foldl (fun h q => sto h q.1 q.2) (delAll hp r.gone))
  match r.new with
  | some b => (tk, b) :: h
  | none => h

def putA (fr : List (Nat × V)) : Option Tmp → V → List (Nat × V)
  | some d, v => (d, v) :: fr
  | none, _ => fr

/-- Is an operation to be carried out? -/
def wantA (ops : List Oper) (fr : List (Nat × V)) (j : Nat) (want : Bool) : Option Bool :=
  match nth ops j with
  | some oj => match oj.dst with
    | some t => match lk fr t with
      | some (.d (.lit (.bool b))) => some (b == want)
      | some (.d (.lit (.tuple _))) => some false
      | some (.when c (.d (.lit (.bool b)))) => some (c && (b == want))
      | _ => none
    | none => none
  | none => none

def opsT : List Operand → List Nat
  | [] => []
  | .tmp t :: r => t :: opsT r
  | _ :: r => opsT r
/-- The temporaries that a guarded operation reads (of a choice: the condition's alone). -/
def readT : Op → List Nat
  | .pick c _ _ => opsT [c]
  | .move x | .assign x | .load _ x | .nilCheck x | .unOp _ _ x | .convert _ _ x | .fieldAddr _ x _ | .field _ x _ | .extract x _ | .box _ x => opsT [x]
  | .binOp _ _ x y _ | .indexAddr _ x y | .index _ x y | .store _ x y => opsT [x, y]
  | .call c => opsT (match c.callee with | .value x => x :: c.args.toList | _ => c.args.toList)
  | _ => []
/-- What a guarded operation reads, under its guard. -/
def under (fr : List (Nat × V)) : List Nat → List (Nat × V)
  | [] => fr
  | t :: r => match lk fr t with
    | some (.when _ v) => (t, v) :: under fr r
    | _ => under fr r
def owes (fr : List (Nat × V)) (g : Bool) : List Nat → Prop
  | [] => True
  | t :: r => (match lk fr t with | some (.when c _) => g = true → c = true | _ => True) ∧ owes fr g r

/-- A guarded operation. -/
def guarded (fr : List (Nat × V)) (hp : List (Nat × Blk)) (tk : Nat) (L : List (Use P)) (o : Oper) (g : Bool) : Option (Rs P) → Option (List (Nat × V) × List (Nat × Blk) × Prop × List (Use P))
  | none => bif g then none else some (putA fr o.dst (.d (.lit undef)), hp, True, L)
  | some q => match q.gone, q.set, q.new with
    | [], [], none => some (putA fr o.dst (.when g q.v), hp, owes fr g (readT o.op) ∧ (g = true → q.p), q.L)
    | _, _, _ => bif g then some (putA fr o.dst q.v, after hp tk q, owes fr g (readT o.op) ∧ q.p, q.L) else some (putA fr o.dst (.d (.lit undef)), hp, True, L)

/-- A region, in the order of the text. -/
def exec (P : Program) (n0 : Nat) (ops : List Oper) : List Oper → Nat → List (Nat × V) → List (Nat × Blk) → Prop → List (Use P) → Option (List (Nat × V) × List (Nat × Blk) × Prop)
  | [], _, fr, hp, p, _ => some (fr, hp, p)
  | o :: r, tk, fr, hp, p, L => match o.guard with
    | none => match stp P n0 fr hp tk L o with
      | some q => exec P n0 ops r (tk + 1) (putA fr o.dst q.v) (after hp tk q) (p ∧ q.p) q.L
      | none => none
    | some (j, want) => match wantA ops fr j want with
      | none => none
      | some g => match guarded fr hp tk L o g (stp P n0 (under fr (readT o.op)) hp tk L o) with
        | some (fr', hp', p', L') => exec P n0 ops r (tk + 1) fr' hp' (p ∧ p') L'
        | none => none
end
end Go.Abs
