/- Contracts of Go functions over abstract values, and the run of a region's operations as a function. One operation at a time: where the function says what an operation does, the machine does that. First part: operations that touch no memory. One operation at a time, second part: arithmetic, comparisons, conversions, parts of values, lengths. No conditions. -/
import Derived.Test.YtninaiooagfjfaaGreatDoorK01
import Derived.Lib.LaidTab
import Derived.Lib.ItoaNum
import Derived.Lib.AppendStr
import Derived.Maps.Own
import Derived.Maps.Views
import Derived.Laws.Small
import Derived.Laws.StructEq
import Derived.Laws.Cover3
set_option linter.unusedVariables false
set_option linter.unusedSimpArgs false
namespace Go.Abs
open Go Go.RowKit

def enum : List Blk → Nat → List (Nat × Blk)
  | [], _ => []
  | .dead :: r, i => enum r (i + 1)
  | .var t cs :: r, i => (i, .var t cs) :: enum r (i + 1)
  | .row e sz l :: r, i => (i, .row e sz l) :: enum r (i + 1)
  | .inv I :: r, i => (i, .inv I) :: enum r (i + 1)

/-- What is known of the package-level variables: the table of the powers of ten; the first one is a number. -/
def Tab (P : Program) (w : World) : Prop := 0 < P.globals.size ∧ Lib.TabIs P w "internal/strconv.uint64pow10" .u64 Lib.pow10Tab ∧ ∃ m, w.cell? ⟨0, 0, none⟩ = some (.int .i64 m)
theorem Tab.keep {P : Program} {w w' : World} (h : Tab P w) (hh : ∀ g, g < P.globals.size → w'.heap[g]? = w.heap[g]?) : Tab P w' := by
  obtain ⟨h0, h1, m, h2⟩ := h
  refine ⟨h0, ?_, m, by rw [World.cell?_of_block (w := w) (hh _ h0)]; exact h2⟩
  unfold Lib.TabIs at h1 ⊢
  unfold World.var? at h1 ⊢
  cases hg : P.globalNamed "internal/strconv.uint64pow10" with
  | none => rw [hg] at h1; cases h1
  | some g =>
    rw [hg] at h1
    have hlt : g < P.globals.size := by
      unfold Program.globalNamed at hg
      split at hg
      · rename_i g' he
        obtain rfl := Option.some.inj hg
        have : g' ∈ (List.range P.globals.size).filter fun g => (P.globals[g]?).any (·.name == "internal/strconv.uint64pow10") := by rw [he]; exact List.mem_cons_self
        exact List.mem_range.1 (List.mem_filter.1 this).1
      · cases hg
    simp only [Option.bind_some] at h1 ⊢
    rw [hh g hlt]; exact h1
/-- The package-level variables are not written, and are as they are known. -/
def Good (P : Program) (F : Nat → Prop) (w : World) : Prop := ((∀ g, g < P.globals.size → F g) ∧ low ≤ P.globals.size) ∧ Tab P w

/-- What a call does: called with values that read as args, the blocks bs being handed over: it returns v; the blocks are bs' then (the first ones are those that were handed over). -/
def CallsA (P : Program) (f : Nat) (args : List V) (bs : List Blk) (v : V) (bs' : List Blk) : Prop :=
  ∀ (w : World) (m : Nat → Value) (nt : Nat) (F : Nat → Prop) (us : Array Value), Good P F w → RelH ⟨w, bs.length, m, nt, F⟩ (enum bs 0) (fun t => t < bs.length) w m →
    args.length = us.size → (∀ (k : Nat) (x : V) (u : Value), args[k]? = some x → us[k]? = some u → RV (Cw F (enum bs 0) m w) m (fun t => t < bs.length) x u) →
    Calls P f us w fun e w' => ∃ u m' U', e = .returned u ∧ RelH ⟨w, bs.length, m, nt, F⟩ (enum bs' 0) U' w' m' ∧ RV (Cw F (enum bs' 0) m' w') m' U' v u

mutual
/-- Are all tokens below n? -/
def tokB (n : Nat) : V → Bool
  | .own t => t.blt n
  | .ptr t _ => t.blt n
  | .ept t _ _ _ => t.blt n
  | .agg cs => tokLB n cs
  | .tup cs => tokLB n cs
  | .fn _ cs => tokLB n cs
  | .when _ _ => false
  | _ => true
def tokLB (n : Nat) : List V → Bool
  | [] => true
  | x :: r => tokB n x && tokLB n r
end
def tokBlk (n : Nat) : Blk → Bool
  | .var _ cs => tokLB n cs
  | .row _ _ _ => true
  | .dead => true
  | .inv _ => true
def tokBlks (n : Nat) : List Blk → Bool
  | [] => true
  | b :: r => tokBlk n b && tokBlks n r

mutual
/-- Has a value no data that leads to memory? -/
def flat : V → Bool
  | .d (.lit _) => true
  | .d (.lst _) => false
  | .ip _ => false
  | .agg cs => flatL cs
  | .tup cs => flatL cs
  | .fn _ cs => flatL cs
  | _ => true
def flatL : List V → Bool
  | [] => true
  | x :: r => flat x && flatL r
end
def flatD : List D → Bool
  | [] => true
  | .lit _ :: r => flatD r
  | .lst _ :: _ => false
def flatBlk : Blk → Bool
  | .var _ cs => flatL cs
  | .row _ _ _ => false
  | .dead => true
  | .inv _ => true
def flatBlks : List Blk → Bool
  | [] => true
  | b :: r => flatBlk b && flatBlks r

/-- Is a function one that is entered? -/
def callB (P : Program) (f : Nat) : Bool := match P.funcs[f]? with | some fn => !(fn.name == "runtime.NumGoroutine") && fn.body.isSome | none => false

structure CR (P : Program) where
  f : Nat
  args : List V
  bs : List Blk
  v : V
  bs' : List Blk
  ok : CallsA P f args bs v bs'
  len : (bs.length.ble bs'.length && bs'.length.ble (bs.length + 1)) = true
  tok : (tokB bs'.length v && tokBlks bs'.length bs') = true
  en : callB P f = true

/-- A contract and the tokens that are handed over. -/
structure Use (P : Program) where
  cr : CR P
  ts : List Nat

def idx : List Nat → Nat → Option Nat
  | [], _ => none
  | t :: r, k => bif t.beq k then some 0 else (idx r k).map (· + 1)

mutual
/-- As the callee sees it: the tokens that are handed over are numbered anew; all else is data. -/
def snap (hp : List (Nat × Blk)) (ts : List Nat) : V → V
  | .own t => match idx ts t with
    | some i => .own i
    | none => match lk hp t with
      | some (.row _ _ l) => .d (.lst l)
      | _ => .any
  | .ptr t o => match idx ts t with
    | some i => .ptr i o
    | none => match lk hp t with
      | some (.var _ cs) => match toDs [] (cs.drop o) with
        | some ds => .ip ds
        | none => .any
      | _ => .any
  | .ept t sz j k => match idx ts t with
    | some i => .ept i sz j k
    | none => .any
  | .agg cs => .agg (snapL hp ts cs)
  | .tup cs => .tup (snapL hp ts cs)
  | .fn f cs => .fn f (snapL hp ts cs)
  | .when _ _ => .any
  | x => x
def snapL (hp : List (Nat × Blk)) (ts : List Nat) : List V → List V
  | [] => []
  | x :: r => snap hp ts x :: snapL hp ts r
end

mutual
/-- The tokens that are seen as data. -/
def seen (ts : List Nat) : V → List Nat
  | .own t => match idx ts t with | some _ => [] | none => [t]
  | .ptr t _ => match idx ts t with | some _ => [] | none => [t]
  | .ept t _ _ _ => match idx ts t with | some _ => [] | none => [t]
  | .agg cs => seenL ts cs
  | .tup cs => seenL ts cs
  | .fn _ cs => seenL ts cs
  | _ => []
def seenL (ts : List Nat) : List V → List Nat
  | [] => []
  | x :: r => seen ts x ++ seenL ts r
end

/-- The tokens that are seen as data in the blocks that are handed over. -/
def seenH (hp : List (Nat × Blk)) (all : List Nat) : List Nat → List Nat
  | [] => []
  | t :: r => (match lk hp t with | some (.var _ cs) => seenL all cs | _ => []) ++ seenH hp all r

def leD : D → D → Prop
  | x, y => x = y ∨ (x = .lit (.slice none 0 0) ∧ y = .lst [])
mutual
/-- The second tells no more than the first. -/
def le : V → V → Prop
  | _, .any => True
  | .d x, .d y => leD x y
  | .agg a, .agg b => leL a b
  | .tup a, .tup b => leL a b
  | .fn f a, .fn g b => f = g ∧ leL a b
  | x, y => x = y
def leL : List V → List V → Prop
  | [], [] => True
  | x :: a, y :: b => le x y ∧ leL a b
  | _, _ => False
end
def leRow : List D → List D → Prop
  | [], [] => True
  | x :: r, y :: s => leD x y ∧ leRow r s
  | _, _ => False
def leRows : List (List D) → List (List D) → Prop
  | [], [] => True
  | a :: r, b :: s => leRow a b ∧ leRows r s
  | _, _ => False
def leBlk : Blk → Blk → Prop
  | .var t a, .var t' b => t = t' ∧ leL a b
  | .row e sz l, .row e' sz' l' => e = e' ∧ sz = sz' ∧ (l = l' ∨ leRows l l')
  | .inv I, .inv J => I = J
  | _, _ => False
def snapB (hp : List (Nat × Blk)) (ts : List Nat) : Blk → Blk
  | .var t a => .var t (snapL hp ts a)
  | b => b
/-- Do the blocks that are handed over read as the contract has it? -/
def hands (hp : List (Nat × Blk)) (all : List Nat) : List Nat → List Blk → Prop
  | [], [] => True
  | t :: ts, b :: bs => (match lk hp t with | some b' => leBlk (snapB hp all b') b | none => False) ∧ hands hp all ts bs
  | _, _ => False

/-- The same, where blocks may have been given up. -/
def handsD (hp : List (Nat × Blk)) (all : List Nat) : List Nat → List Blk → Prop
  | [], [] => True
  | _ :: ts, .dead :: bs => handsD hp all ts bs
  | t :: ts, .var ty cs :: bs => (match lk hp t with | some b' => leBlk (snapB hp all b') (.var ty cs) | none => False) ∧ handsD hp all ts bs
  | t :: ts, .row e sz l :: bs => (match lk hp t with | some b' => leBlk (snapB hp all b') (.row e sz l) | none => False) ∧ handsD hp all ts bs
  | t :: ts, .inv I :: bs => (match lk hp t with | some b' => leBlk (snapB hp all b') (.inv I) | none => False) ∧ handsD hp all ts bs
  | _, _ => False

def sig (ts : List Nat) (tk : Nat) (i : Nat) : Nat := (nth ts i).getD tk
mutual
def ren (ts : List Nat) (tk : Nat) : V → V
  | .own t => .own (sig ts tk t)
  | .ptr t o => .ptr (sig ts tk t) o
  | .ept t sz j k => .ept (sig ts tk t) sz j k
  | .agg cs => .agg (renL ts tk cs)
  | .tup cs => .tup (renL ts tk cs)
  | .fn f cs => .fn f (renL ts tk cs)
  | .when _ _ => .any
  | x => x
def renL (ts : List Nat) (tk : Nat) : List V → List V
  | [] => []
  | x :: r => ren ts tk x :: renL ts tk r
end
def renB (ts : List Nat) (tk : Nat) : Blk → Blk
  | .var t a => .var t (renL ts tk a)
  | b => b

/-- The blocks behind a call: what was handed over, and one that may be new. -/
def backs (ts : List Nat) (tk : Nat) : List Nat → List Blk → List (Nat × Blk) × Option Blk
  | _ :: r, .dead :: bs => backs ts tk r bs
  | t :: r, .var ty cs :: bs => let q := backs ts tk r bs; ((t, renB ts tk (.var ty cs)) :: q.1, q.2)
  | t :: r, .row e sz l :: bs => let q := backs ts tk r bs; ((t, .row e sz l) :: q.1, q.2)
  | t :: r, .inv I :: bs => let q := backs ts tk r bs; ((t, .inv I) :: q.1, q.2)
  | [], .dead :: _ => ([], none)
  | [], .var ty cs :: _ => ([], some (renB ts tk (.var ty cs)))
  | [], .row e sz l :: _ => ([], some (.row e sz l))
  | [], .inv I :: _ => ([], some (.inv I))
  | _, [] => ([], none)
/-- The blocks that a call gives up. -/
def deadT : List Nat → List Blk → List Nat
  | t :: r, .dead :: bs => t :: deadT r bs
  | _ :: r, _ :: bs => deadT r bs
  | _, _ => []

/-- What an operation does: its value; blocks that are given up; blocks written anew; a new block; its condition. -/
structure Rs (P : Program) where
  v : V
  gone : List Nat
  set : List (Nat × Blk)
  new : Option Blk
  p : Prop
  L : List (Use P)

section
variable {P : Program}
def ofR (L : List (Use P)) : Option R → Option (Rs P)
  | some r => some ⟨r.v, r.gone, match r.set with | some q => [q] | none => [], r.new, r.p, L⟩
  | none => none

def callA (hp : List (Nat × Blk)) (tk : Nat) (f : Nat) (args : List V) : List (Use P) → Option (Rs P)
  | [] => none
  | u :: L =>
    if f = u.cr.f then
      match u.ts, u.cr.bs, u.cr.bs' with
      | [], [], [] => some ⟨u.cr.v, bif flat u.cr.v then [] else seenL [] args, [], none, leL (snapL hp [] args) u.cr.args, L⟩
      | ts, bs, bs' => some ⟨ren ts tk u.cr.v, (bif flat u.cr.v && flatBlks bs' then [] else seenL ts args ++ seenH hp ts ts) ++ deadT ts bs', (backs ts tk ts bs').1, (backs ts tk ts bs').2,
          leL (snapL hp ts args) u.cr.args ∧ hands hp ts ts bs ∧ ts.Nodup, L⟩
    else none

def eo (fr : List (Nat × V)) : Operand → Option V
  | .tmp t => lk fr t
  | .const v => some (.d (.lit v))
  | .func f => some (.fn f [])
  | .global _ => none
def eos (fr : List (Nat × V)) : List Operand → Option (List V)
  | [] => some []
  | x :: r => match eo fr x, eos fr r with | some a, some b => some (a :: b) | _, _ => none

def lenV (hp : List (Nat × Blk)) : V → Option Int
  | .d (.lit (.string s)) => some s.size
  | .d (.lit (.slice none 0 0)) => some 0
  | .d (.lst l) => some l.length
  | .own t => match lk hp t with | some (.row _ _ l) => some l.length | _ => none
  | _ => none

def lenT (P : Program) (t : TypeId) : V → Bool
  | .d (.lit (.string _)) => strT P t
  | _ => (elemT P t).isSome

/-- The elements that an append adds. -/
def rowsV (hp : List (Nat × Blk)) : V → Option (List (List D))
  | .d (.lit (.slice none 0 0)) => some []
  | .d (.lst l) => some l
  | .own t => match lk hp t with | some (.row _ _ l) => some l | _ => none
  | _ => none

def appendA (P : Program) (n0 : Nat) (hp : List (Nat × Blk)) (tk : Nat) (t : TypeId) (x y : V) (L : List (Use P)) : Option (Rs P) :=
  match elemT P t, rowsV hp y with
  | some e, some l2 => match rowT P e, x with
    | some (sz, by_), .d (.lit (.slice none 0 0)) => some ⟨.own tk, [], [], some (.row e sz l2), l2.length * by_ ≤ 140737488355328 ∧ (∀ row ∈ l2, row.length = sz), L⟩
    | some (sz, by_), .own t0 => match lk hp t0 with
      | some (.row e' sz' l) => if e = e' ∧ sz = sz' then some ⟨.own tk, [t0], [], some (.row e sz (l ++ l2)), (l.length + l2.length) * by_ ≤ 140737488355328 ∧ (∀ row ∈ l2, row.length = sz), L⟩ else none
      | _ => none
    | _, _ => none
  | _, _ => none

/-- A row of bytes that is written on: it is the run's own, or its cells are full. -/
def ByI (e : TypeId) (s : ByteArray) (v : Value) (o : Option Obj) : Prop :=
  ∃ g c cur fz, v = .slice (some ⟨g, 0, none⟩) s.size c ∧ o = some (.cells cur e fz) ∧ s.size ≤ c ∧ cur.size = c ∧ cur.toList.take s.size = Lib.strCells s ∧ ∀ k, k < c → ¬ (fz.1 ≤ k ∧ k < fz.2)
def ByP (e : TypeId) (I : Value → Option Obj → Prop) : Prop := ∃ s, I = ByI e s
noncomputable def txtI (e : TypeId) (I : Value → Option Obj → Prop) : ByteArray := by classical exact if h : ∃ s, I = ByI e s then h.choose else .empty
def byD : List D → UInt8
  | [.lit (.int _ n)] => UInt8.ofNat n.toNat
  | _ => 0
def bytesOf (l : List (List D)) : ByteArray := ⟨(l.map byD).toArray⟩
def rowsOf (s : ByteArray) : List (List D) := s.data.toList.map fun b => [.lit (.int .u8 b.toNat)]
def byteT (P : Program) (e : TypeId) : Bool := match P.info? e with
  | some i => (i.size == 1 && i.bytes == 1) && (match i.zero with | some (.int .u8 0) => true | _ => false) && (match P.underlying e with | some (.int .u8) => true | _ => false)
  | none => false
def byteE (P : Program) (t : TypeId) : Bool := match elemT P t with | some e => byteT P e | none => false
def bytesV (P : Program) (hp : List (Nat × Blk)) (t t' : TypeId) : V → Option (ByteArray × Prop)
  | .d (.lit (.string s)) => bif strT P t' then some (s, True) else none
  | v => if t = t' then match rowsV hp v with | some l => some (bytesOf l, rowsOf (bytesOf l) = l) | none => none else none
noncomputable def appendB (P : Program) (hp : List (Nat × Blk)) (tk : Nat) (t t' : TypeId) (x y : V) (L : List (Use P)) : Option (Rs P) :=
  match elemT P t, byteE P t, bytesV P hp t t' y with
  | some e, true, some (s, p) => match x with
    | .d (.lit (.slice none 0 0)) => some ⟨.own tk, [], [], some (.inv (ByI e s)), p ∧ 0 < s.size ∧ s.size ≤ 140737488355328, L⟩
    | .own k => match lk hp k with
      | some (.inv I) => some ⟨.own tk, [k], [], some (.inv (ByI e (txtI e I ++ s))), p ∧ ByP e I ∧ (txtI e I).size + s.size ≤ 140737488355328, L⟩
      | _ => none
    | _ => none
  | _, _, _ => none
noncomputable def appendX (P : Program) (n0 : Nat) (hp : List (Nat × Blk)) (tk : Nat) (t t' : TypeId) (x y : V) (L : List (Use P)) : Option (Rs P) :=
  bif byteE P t then appendB P hp tk t t' x y L else if t = t' then appendA P n0 hp tk t x y L else none
/-- Bytes turned to a string; a slice of bytes turned to itself. -/
noncomputable def convB (P : Program) (tk k s t : Nat) (L : List (Use P)) : Option Blk → Option (Rs P)
  | some (.row e sz l) => if s = t ∧ sz = 1 ∧ elemT P s = some e ∧ byteT P e = true then some ⟨.own tk, [k], [], some (.inv (ByI e (bytesOf l))), 0 < l.length ∧ rowsOf (bytesOf l) = l, L⟩ else none
  | some (.inv I) => match strT P t, elemT P s with
    | true, some e => if byteT P e = true then some ⟨.d (.lit (.string (txtI e I))), [], [], none, ByP e I, L⟩ else none
    | _, _ => none
  | _ => none

/-- A map from numbers to structs of numbers, as what was put into it, the newest first. -/
def intL : List Value → Option (List Int)
  | [] => some []
  | .int .i64 a :: r => (intL r).map (a :: ·)
  | _ => none
def Rp : Value → Option (DataW Unit × List MemPlace)
  | .agg vs => (intL vs.toList).map fun l => (.agg (l.map fun a => .lit (.int .i64 a)), [])
  | _ => none
def dM : List (Int × List Int) → DataW Unit
  | [] => .map []
  | (k, vs) :: M => (dM M).put (.int .i64 k) (.agg (vs.map fun a => .lit (.int .i64 a)))
def getM : List (Int × List Int) → Int → Option (List Int)
  | [], _ => none
  | (k, vs) :: M, x => if x = k then some vs else getM M x
def encM (M : List (Int × List Int)) : Value := .tuple (M.map fun p => Value.tuple ((p.1 :: p.2).map (Value.int .i64)).toArray).toArray
def MapI (P : Program) (kt : TypeId) (M : List (Int × List Int)) (v : Value) (o : Option Obj) : Prop :=
  (∃ b es clock, v = .map (some b) ∧ o = some (.map es clock) ∧ WideElems.Fit P kt Rp es clock ∧ es.size ≤ M.length ∧ dM M = .map ((es.toList.map (WideElems.rg P kt Rp)).foldr DataW.insert [])) ∨ (v = encM M ∧ o = none)
def MapP (P : Program) (kt : TypeId) (I : Value → Option Obj → Prop) : Prop := ∃ M, I = MapI P kt M
noncomputable def mapM' (P : Program) (kt : TypeId) (I : Value → Option Obj → Prop) : List (Int × List Int) := by classical exact if h : ∃ M, I = MapI P kt M then h.choose else []
def mapT (P : Program) (t : TypeId) : Option (Nat × Nat) := match P.underlying t with | some (.map k e) => (match P.underlying k with | some (.int .i64) => some (k, e) | _ => none) | _ => none
def zeroI (P : Program) (e : TypeId) : Option (List Int) := match (P.info? e).bind (·.zero) with | some (.agg vs) => intL vs.toList | _ => none
def intsV : List V → Option (List Int)
  | [] => some []
  | .d (.lit (.int .i64 a)) :: r => (intsV r).map (a :: ·)
  | _ => none
def aggI (l : List Int) : V := .agg (l.map fun a => .d (.lit (.int .i64 a)))
noncomputable def lookA (P : Program) (t : TypeId) (ok : Bool) (k : Int) (L : List (Use P)) : Option Blk → Option (Rs P)
  | some (.inv I) => match mapT P t with
    | some (kt, e) => match zeroI P e with
      | some zs => some ⟨bif ok then .tup [aggI ((getM (mapM' P kt I) k).getD zs), .d (.lit (.bool (getM (mapM' P kt I) k).isSome))] else aggI ((getM (mapM' P kt I) k).getD zs), [], [], none, MapP P kt I ∧ -9223372036854775808 ≤ k ∧ k ≤ 9223372036854775807, L⟩
      | none => none
    | none => none
  | _ => none
noncomputable def putM (P : Program) (t : TypeId) (i : Nat) (k : Int) (cs : List V) (L : List (Use P)) : Option Blk → Option (Rs P)
  | some (.inv I) => match mapT P t, intsV cs with
    | some (kt, _), some vs => some ⟨.d (.lit undef), [], [(i, .inv (MapI P kt ((k, vs) :: mapM' P kt I)))], none, MapP P kt I ∧ (mapM' P kt I).length ≤ 1000000 ∧ -9223372036854775808 ≤ k ∧ k ≤ 9223372036854775807, L⟩
    | _, _ => none
  | _ => none

def fillA (pl : List (Nat × Nat)) (fr : List (Nat × V)) : List (Nat × Operand) → List V → Option (List V)
  | [], cs => some cs
  | (i, x) :: r, cs => match nth pl i, eo fr x with
    | some (o, n), some v => if (cellsV v).length = n ∧ o + n ≤ cs.length ∧ (cellsV v).all one then fillA pl fr r (ins cs o (cellsV v)) else none
    | _, _ => none

def rowsA (hp : List (Nat × Blk)) (fr : List (Nat × V)) (sz : Nat) : Nat → List (Nat × Operand) → Option (List (List D) × List Nat)
  | _, [] => some ([], [])
  | k, (i, x) :: r => if i = k then match eo fr x with
      | some v => match toDs hp (cellsV v), rowsA hp fr sz (k + 1) r with
        | some ds, some (l, g) => if ds.length = sz then some (ds :: l, ownsOf (cellsV v) ++ g) else none
        | _, _ => none
      | none => none
    else none

def loadA (P : Program) (hp : List (Nat × Blk)) (t : TypeId) (x : V) : Option (V × Prop) :=
  match x with
  | .ptr k o => match lk hp k with
    | some (.var _ cs) => match aggT P t, sizeT P t with
      | some true, some n => if (cut cs o n).length = n then some (.agg (cut cs o n), True) else none
      | some false, _ => match nth cs o with | some u => some (u, True) | none => none
      | _, _ => none
    | _ => none
  | .ip ds => match aggT P t, sizeT P t with
    | some true, some n => if (cut ds 0 n).length = n then some (.agg ((cut ds 0 n).map .d), True) else none
    | some false, _ => match nth ds 0 with | some u => some (.d u, True) | none => none
    | _, _ => none
  | .ept k sz j o => match lk hp k with
    | some (.row _ sz' l) => if sz = sz' then (match aggT P t, sizeT P t with
      | some true, some n => if o + n ≤ sz then some (.agg ((cut (l.getD j []) o n).map .d), j < l.length) else none
      | some false, _ => if o < sz then some (.d ((l.getD j []).getD o (.lst [])), j < l.length) else none
      | _, _ => none) else none
    | _ => none
  | _ => none

/-- A value that holds under a condition. -/
def cdV : V → Bool × V
  | .when c v => (c, v)
  | v => (true, v)
def pickV (t : Bool) : V → V → V
  | .d (.lit (.bool a)), .d (.lit (.bool b)) => .d (.lit (.bool (bif t then a else b)))
  | .d (.lit (.int k a)), .d (.lit (.int k' b)) => if k = k' then .d (.lit (.int k (bif t then a else b))) else bif t then .d (.lit (.int k a)) else .d (.lit (.int k' b))
  | x, y => bif t then x else y

/-- A slice's bound. -/
def boundA (fr : List (Nat × V)) (d : Int) : Option Operand → Option Int
  | none => some d
  | some y => match eo fr y with | some (.d (.lit (.int _ n))) => some n | _ => none

def sliceV (P : Program) (fr : List (Nat × V)) (hp : List (Nat × Blk)) (t : TypeId) (v : V) (l : Int) (hi : Option Operand) (L : List (Use P)) : Option (Rs P) :=
  match v with
  | .d (.lit (.string s)) => match strT P t, boundA fr s.size hi with
    | true, some h => some ⟨.d (.lit (.string (s.extract l.toNat h.toNat))), [], [], none, 0 ≤ l ∧ l ≤ h ∧ h ≤ s.size, L⟩
    | _, _ => none
  | v => match elemT P t, rowsV hp v with
    | some e, some rows => match sizeT P e, boundA fr rows.length hi with
      | some sz, some h => some ⟨.d (.lst ((rows.take h.toNat).drop l.toNat)), ownsOf [v], [], none, 0 ≤ l ∧ l ≤ h ∧ h ≤ rows.length ∧ ∀ row ∈ rows, row.length = sz, L⟩
      | _, _ => none
    | _, _ => none

def sliceA (P : Program) (fr : List (Nat × V)) (hp : List (Nat × Blk)) (t : TypeId) (x : Operand) (lo hi : Option Operand) (L : List (Use P)) : Option (Rs P) :=
  match eo fr x, boundA fr 0 lo with
  | some v, some l => sliceV P fr hp t v l hi L
  | _, _ => none

/-- One operation. tk: the number that a new block gets. -/
noncomputable def stp (P : Program) (n0 : Nat) (fr : List (Nat × V)) (hp : List (Nat × Blk)) (tk : Nat) (L : List (Use P)) (o : Oper) : Option (Rs P) :=
  let out (v : V) : Option (Rs P) := some ⟨v, [], [], none, True, L⟩
  match o.op with
  | .move x | .assign x => match eo fr x with | some v => out v | none => none
  | .pick c a b => match eo fr c, eo fr a, eo fr b with
    | some (.d (.lit (.bool t))), some va, some vb => some ⟨pickV t (cdV va).2 (cdV vb).2, [], [], none, (t = true → (cdV va).1 = true) ∧ (t = false → (cdV vb).1 = true), L⟩
    | _, _, _ => none
  | .alloc t => match zeroT P t with
    | some zs => if zs.all (·.oneCell') then some ⟨.ptr tk 0, [], [], some (.var t (zs.map fun z => .d (.lit z))), True, L⟩ else none
    | none => none
  | .box t x => match eo fr x, sizeT P t with
    | some v, some n => if (cellsV v).all one ∧ (cellsV v).length = n then some ⟨.ptr tk 0, [], [], some (.var t (cellsV v)), True, L⟩ else none
    | _, _ => none
  | .build t ps => match zeroT P t, stT P t with
    | some zs, some pl => if zs.all (·.oneCell') then match fillA pl fr ps.toList (zs.map fun z => .d (.lit z)) with
      | some cs => out (.agg cs)
      | none => none else none
    | _, _ => none
  | .buildSlice t n ps => match elemT P t with
    | some e => match rowT P e with
      | some (sz, _) => match rowsA hp fr sz 0 ps.toList with
        | some (l, g) => if l.length = n ∧ n * sz ≤ 16777216 then some ⟨.own tk, g, [], some (.row e sz l), True, L⟩ else none
        | none => none
      | none => none
    | none => none
  | .load t x => match eo fr x, sizeT P t with
    | some v, some _ => match loadA P hp t v with | some (u, p) => some ⟨u, [], [], none, p, L⟩ | none => none
    | _, _ => none
  | .store t x y => match eo fr x, eo fr y, sizeT P t with
    | some (.ptr k o), some v, some n => match lk hp k with
      | some (.var ty cs) => if (cellsV v).length = n ∧ (cellsV v).all one ∧ o + n ≤ cs.length then some ⟨.d (.lit undef), [], [(k, .var ty (ins cs o (cellsV v)))], none, True, L⟩ else none
      | _ => none
    | some (.ept k sz j o), some v, some n => match lk hp k, toDs hp (cellsV v) with
      | some (.row e sz' l), some ds => if sz = sz' ∧ ds.length = n ∧ o + n ≤ sz ∧ k ∉ ownsOf (cellsV v) then some ⟨.d (.lit undef), ownsOf (cellsV v), [(k, .row e sz (l.set j (ins (l.getD j []) o ds)))], none, j < l.length, L⟩ else none
      | _, _ => none
    | _, _, _ => none
  | .nilCheck x => match eo fr x with
    | some (.ptr k o) => out (.ptr k o)
    | some (.ept k sz j o) => out (.ept k sz j o)
    | some (.ip ds) => out (.ip ds)
    | some (.fn f cs) => out (.fn f cs)
    | _ => none
  | .binOp op t x y _ => match eo fr x, eo fr y with
    | some a, some b => match binV P op t a b with
      | some r => ofR L (some r)
      | none => ofR L (binX P op t a b)
    | _, _ => none
  | .unOp op _ x => match eo fr x with
    | some a => ofR L (unV op a)
    | none => none
  | .convert s t x => match eo fr x with
    | some (.d (.lit (.int k n))) => match intT P t, P.underlying s with
      | some k', some _ => ofR L (intR k' (arith k' n))
      | _, _ => none
    | some (.own k) => convB P tk k s t L (lk hp k)
    | _ => none
  | .makeFunc (.func f) first cap => if first.size = 0 then match eos fr cap.toList with | some vs => out (.fn f vs) | none => none else none
  | .fieldAddr s x f => match eo fr x, fldT P s f with
    | some (.ptr k o), some (p, n, _) => if n = 0 then none else out (.ptr k (o + p))
    | some (.ept k sz j o), some (p, n, _) => if n = 0 then none else out (.ept k sz j (o + p))
    | some (.ip ds), some (p, n, _) => if n = 0 then none else out (.ip (ds.drop p))
    | _, _ => none
  | .field s x f => match eo fr x, fldT P s f with
    | some (.agg cs), some (p, n, t) => match aggT P t with
      | some true => if (cut cs p n).length = n then out (.agg (cut cs p n)) else none
      | some false => match nth cs p with | some v => out v | none => none
      | none => none
    | _, _ => none
  | .indexAddr t x i => match eo fr x, eo fr i, elemT P t with
    | some (.d (.lst l)), some (.d (.lit (.int _ j))), some e => match sizeT P e with
      | some sz => some ⟨.ip (l.getD j.toNat []), [], [], none, 0 < sz ∧ 0 ≤ j ∧ j < l.length ∧ ∀ row ∈ l, row.length = sz, L⟩
      | none => none
    | some (.own k), some (.d (.lit (.int _ j))), some e => match lk hp k, sizeT P e with
      | some (.row e' sz' l), some sz => if sz = sz' then some ⟨.ept k sz j.toNat 0, [], [], none, 0 ≤ j ∧ j < l.length, L⟩ else none
      | _, _ => none
    | _, _, _ => none
  | .index t x i => match eo fr x, eo fr i with
    | some (.d (.lit (.string s))), some (.d (.lit (.int _ j))) => bif strT P t then some ⟨.d (.lit (.int .u8 (s.get! j.toNat).toNat)), [], [], none, 0 ≤ j ∧ j < s.size, L⟩ else none
    | _, _ => none
  | .slice t x lo hi none => sliceA P fr hp t x lo hi L
  | .extract x i => match eo fr x with
    | some (.tup vs) => match nth vs i with | some v => out v | none => none
    | _ => none
  | .makeMap t none => match mapT P t with
    | some (k, _) => some ⟨.own tk, [], [], some (.inv (MapI P k [])), True, L⟩
    | none => none
  | .mapUpdate t m x y => match eo fr m, eo fr x, eo fr y with
    | some (.own i), some (.d (.lit (.int .i64 k))), some (.agg cs) => putM P t i k cs L (lk hp i)
    | _, _, _ => none
  | .lookup t m x ok => match eo fr m, eo fr x with
    | some (.own i), some (.d (.lit (.int .i64 k))) => lookA P t ok k L (lk hp i)
    | _, _ => none
  | .call c => match c.callee with
    | .builtin .len => match c.args, c.argTypes with
      | ⟨[x]⟩, ⟨[t]⟩ => match eo fr x with
        | some v => match lenV hp v with | some n => bif lenT P t v then out (.d (.lit (.int .i64 n))) else none | none => none
        | none => none
      | _, _ => none
    | .builtin .append => match c.args, c.argTypes with
      | ⟨[x, y]⟩, ⟨[t, t']⟩ => match eo fr x, eo fr y with
          | some a, some b => appendX P n0 hp tk t t' a b L
          | _, _ => none
      | _, _ => none
    | .builtin .max => match c.args with
      | ⟨[x, y]⟩ => match eo fr x, eo fr y with
        | some (.d (.lit (.int k a))), some (.d (.lit (.int k' b))) => if k = k' then out (.d (.lit (.int k (max a b)))) else none
        | _, _ => none
      | _ => none
    | .builtin .min => match c.args with
      | ⟨[x, y]⟩ => match eo fr x, eo fr y with
        | some (.d (.lit (.int k a))), some (.d (.lit (.int k' b))) => if k = k' then out (.d (.lit (.int k (min a b)))) else none
        | _, _ => none
      | _ => none
    | .value fn => match eo fr fn, eos fr c.args.toList with
      | some (.fn f cap), some vs => callA hp tk f (vs ++ cap) L
      | _, _ => none
    | _ => none
  | _ => none

/-- The blocks behind an operation. -/
def after (hp : List (Nat × Blk)) (tk : Nat) (r : Rs P) : List (Nat × Blk) :=
  let h := (r.set.foldl (fun h q => sto h q.1 q.2) (delAll hp r.gone))
  match r.new with
  | some b => (tk, b) :: h
  | none => h

def putA (fr : List (Nat × V)) : Option Tmp → V → List (Nat × V)
  | some d, v => (d, v) :: fr
  | none, _ => fr

/-- Is an operation to be carried out? -/
def wantA (ops : List Oper) (fr : List (Nat × V)) (j : Nat) (want : Bool) : Option Bool :=
  match nth ops j with
  | some oj => match oj.dst with
    | some t => match lk fr t with
      | some (.d (.lit (.bool b))) => some (b == want)
      | some (.d (.lit (.tuple _))) => some false
      | some (.when c (.d (.lit (.bool b)))) => some (c && (b == want))
      | _ => none
    | none => none
  | none => none

def opsT : List Operand → List Nat
  | [] => []
  | .tmp t :: r => t :: opsT r
  | _ :: r => opsT r
/-- The temporaries that a guarded operation reads (of a choice: the condition's alone). -/
def readT : Op → List Nat
  | .pick c _ _ => opsT [c]
  | .move x | .assign x | .load _ x | .nilCheck x | .unOp _ _ x | .convert _ _ x | .fieldAddr _ x _ | .field _ x _ | .extract x _ | .box _ x => opsT [x]
  | .binOp _ _ x y _ | .indexAddr _ x y | .index _ x y | .store _ x y | .lookup _ x y _ => opsT [x, y]
  | .mapUpdate _ x y z => opsT [x, y, z]
  | .call c => opsT (match c.callee with | .value x => x :: c.args.toList | _ => c.args.toList)
  | _ => []
/-- What a guarded operation reads, under its guard. -/
def under (fr : List (Nat × V)) : List Nat → List (Nat × V)
  | [] => fr
  | t :: r => match lk fr t with
    | some (.when _ v) => (t, v) :: under fr r
    | _ => under fr r
def owes (fr : List (Nat × V)) (g : Bool) : List Nat → Prop
  | [] => True
  | t :: r => (match lk fr t with | some (.when c _) => g = true → c = true | _ => True) ∧ owes fr g r

/-- A guarded operation. -/
def guarded (fr : List (Nat × V)) (hp : List (Nat × Blk)) (tk : Nat) (L : List (Use P)) (o : Oper) (g : Bool) : Option (Rs P) → Option (List (Nat × V) × List (Nat × Blk) × Prop × List (Use P))
  | none => bif g then none else some (putA fr o.dst (.d (.lit undef)), hp, True, L)
  | some q => match q.gone, q.set, q.new with
    | [], [], none => some (putA fr o.dst (.when g q.v), hp, owes fr g (readT o.op) ∧ (g = true → q.p), q.L)
    | _, _, _ => bif g then some (putA fr o.dst q.v, after hp tk q, owes fr g (readT o.op) ∧ q.p, q.L) else some (putA fr o.dst (.d (.lit undef)), hp, True, L)

/-- A region, in the order of the text. -/
noncomputable def exec (P : Program) (n0 : Nat) (ops : List Oper) : List Oper → Nat → List (Nat × V) → List (Nat × Blk) → Prop → List (Use P) → Option (List (Nat × V) × List (Nat × Blk) × Prop)
  | [], _, fr, hp, p, _ => some (fr, hp, p)
  | o :: r, tk, fr, hp, p, L => match o.guard with
    | none => match stp P n0 fr hp tk L o with
      | some q => exec P n0 ops r (tk + 1) (putA fr o.dst q.v) (after hp tk q) (p ∧ q.p) q.L
      | none => none
    | some (j, want) => match wantA ops fr j want with
      | none => none
      | some g => match guarded fr hp tk L o g (stp P n0 (under fr (readT o.op)) hp tk L o) with
        | some (fr', hp', p', L') => exec P n0 ops r (tk + 1) fr' hp' (p ∧ p') L'
        | none => none
end
end Go.Abs

set_option linter.unusedVariables false
set_option linter.unusedSimpArgs false
namespace Go.Abs
open Go Go.RowKit

section
variable {P : Program} {Γ : Ctx} {fr : List (Nat × V)} {hp : List (Nat × Blk)} {U : Nat → Prop} {a : Act} {w w' : World} {m : Nat → Value} {tk : Nat} {L : List (Use P)} {o : Oper}
  {K : Act → World → Prop} {Q : Exit → Act → World → Prop}

theorem eval_tmp {t : Nat} {u : Value} (h : a.tmps[t]? = some u) : a.eval (.tmp t) = u := by
  simp only [Act.eval, Array.getD_eq_getD_getElem?, h, Option.getD_some]

theorem eo_rel (hR : Rel Γ fr hp U a w m) {x : Operand} {v : V} (h : eo fr x = some v) : RV (Cw Γ.F hp m w) m U v (a.eval x) := by
  cases x with
  | tmp t =>
    obtain ⟨u, hu, hr⟩ := hR.fr t v h
    rw [eval_tmp hu]; exact hr
  | const c => obtain rfl := Option.some.inj h; exact .d (.lit c)
  | global g => cases h
  | func f => obtain rfl := Option.some.inj h; exact .fn f [] #[] rfl (fun k x u hk => by simp at hk)

theorem eos_rel (hR : Rel Γ fr hp U a w m) : ∀ (xs : List Operand) (vs : List V), eos fr xs = some vs → vs.length = xs.length ∧ ∀ (k : Nat) (x : V) (u : Value), vs[k]? = some x → (xs.map a.eval)[k]? = some u → RV (Cw Γ.F hp m w) m U x u
  | [], vs, h => by obtain rfl := Option.some.inj h; exact ⟨rfl, fun k x u hk => by simp at hk⟩
  | x :: r, vs, h => by
    simp only [eos] at h
    split at h
    · rename_i v0 b h1 h2
      obtain rfl := Option.some.inj h
      obtain ⟨hl, hr⟩ := eos_rel hR r b h2
      refine ⟨by simp [hl], fun k y u hk hu => ?_⟩
      cases k with
      | zero =>
        simp only [List.getElem?_cons_zero, Option.some.injEq] at hk
        subst hk
        simp only [List.map_cons, List.getElem?_cons_zero, Option.some.injEq] at hu
        subst hu
        exact eo_rel hR h1
      | succ k =>
        simp only [List.getElem?_cons_succ] at hk
        simp only [List.map_cons, List.getElem?_cons_succ] at hu
        exact hr k y u hk hu
    · cases h

theorem RV.lit_inv {C : Addr → Value → Prop} {c u : Value} (h : RV C m U (.d (.lit c)) u) : u = c := by
  cases h with
  | d h => cases h; rfl

theorem wp_value {u : Value} (hr : (execOp a.eval o).run P w = .ok (.value u) w') (h : K (a.put o.dst u) w') : o.wp P a w K Q := by
  unfold Oper.wp; rw [hr]; exact h
theorem wp_skip' (hr : (execOp a.eval o).run P w = .ok .skip w') (h : K (a.put o.dst undef) w') : o.wp P a w K Q := by
  unfold Oper.wp; rw [hr]; exact h

theorem rel_putA (hR : Rel Γ fr hp U a w m) (hd : ∀ d, o.dst = some d → d < Γ.nt) {v : V} {u : Value} (h : RV (Cw Γ.F hp m w) m U v u) : Rel Γ (putA fr o.dst v) hp U (a.put o.dst u) w m := by
  cases hdst : o.dst with
  | none => exact hR
  | some d => exact hR.put (hd d hdst) h

theorem put_defers (a : Act) (d : Option Tmp) (u : Value) : (a.put d u).defers = a.defers := by cases d <;> rfl

/-- What an operation is shown to do. -/
def Sound (P : Program) (Γ : Ctx) (fr : List (Nat × V)) (hp : List (Nat × Blk)) (U : Nat → Prop) (tk : Nat) (o : Oper) (q : Rs P) : Prop :=
  ∀ (a : Act) (w : World) (m : Nat → Value) (K : Act → World → Prop) (Q : Exit → Act → World → Prop), Rel Γ fr hp U a w m → ¬ U tk → q.p → (∀ d, o.dst = some d → d < Γ.nt) →
    (∀ a' w' m', Rel Γ (putA fr o.dst q.v) (after hp tk q) (also U tk) a' w' m' → a'.defers = a.defers → K a' w') → o.wp P a w K Q

/-- An operation that yields a value and leaves the world. -/
theorem sound_pure {v : V} {p : Prop} (h : ∀ a w m, Rel Γ fr hp U a w m → p → ∃ u, (execOp a.eval o).run P w = .ok (.value u) w ∧ RV (Cw Γ.F hp m w) m U v u) : Sound P Γ fr hp U tk o ⟨v, [], [], none, p, L⟩ := by
  intro a w m K Q hR htk hp' hd hK
  obtain ⟨u, hr, hv⟩ := h a w m hR hp'
  exact wp_value hr (hK _ _ m ((rel_putA hR hd hv).given fun t h => .inl h) (put_defers a _ u))

theorem run_ok {α : Type} (x : α) (w : World) : (pure x : Sem α).run P w = .ok x w := rfl

theorem sound_move {x : Operand} {v : V} (ho : o.op = .move x ∨ o.op = .assign x) (h : eo fr x = some v) : Sound P Γ fr hp U tk o ⟨v, [], [], none, True, L⟩ :=
  sound_pure fun a w m hR _ => ⟨a.eval x, by rcases ho with ho | ho <;> simp [execOp, ho, go_sem], eo_rel hR h⟩

theorem RV.cd {C : Addr → Value → Prop} {x : V} {u : Value} (h : RV C m U x u) (hc : (cdV x).1 = true) : RV C m U (cdV x).2 u := by
  cases h with
  | when b x v ht hf => exact ht hc
  | d h => exact .d h
  | own t h1 h2 => exact .own t h1 h2
  | ptr t o b h1 h2 => exact .ptr t o b h1 h2
  | ept t sz j k b n c h1 h2 => exact .ept t sz j k b n c h1 h2
  | ip cs ad cv h1 h2 h3 => exact .ip cs ad cv h1 h2 h3
  | agg cs vs h1 h2 h3 => exact .agg cs vs h1 h2 h3
  | tup cs vs h1 h2 => exact .tup cs vs h1 h2
  | fn f cs vs h1 h2 => exact .fn f cs vs h1 h2
  | any => exact .any u
theorem pickV_false (x y : V) : pickV false x y = y := by
  unfold pickV
  split
  · rfl
  · split
    · rename_i h; subst h; rfl
    · rfl
  · rfl
theorem pickV_true (x y : V) : pickV true x y = x := by
  unfold pickV
  split
  · rfl
  · split
    · rfl
    · rfl
  · rfl

theorem sound_pick {c x y : Operand} {t : Bool} {va vb : V} (ho : o.op = .pick c x y) (hc : eo fr c = some (.d (.lit (.bool t)))) (hx : eo fr x = some va) (hy : eo fr y = some vb) :
    Sound P Γ fr hp U tk o ⟨pickV t (cdV va).2 (cdV vb).2, [], [], none, (t = true → (cdV va).1 = true) ∧ (t = false → (cdV vb).1 = true), L⟩ :=
  sound_pure fun a w m hR hp0 => by
    have h1 := (eo_rel hR hc).lit_inv
    have h2 := eo_rel hR hx
    have h3 := eo_rel hR hy
    generalize a.eval = ρ at *
    cases t
    · exact ⟨ρ y, by simp [execOp, ho, go_sem, h1, asBool], by rw [pickV_false]; exact h3.cd (hp0.2 rfl)⟩
    · exact ⟨ρ x, by simp [execOp, ho, go_sem, h1, asBool], by rw [pickV_true]; exact h2.cd (hp0.1 rfl)⟩

theorem sound_nil {x : Operand} {v : V} (ho : o.op = .nilCheck x) (h : eo fr x = some v) (hv : (∃ k p, v = .ptr k p) ∨ (∃ k s j p, v = .ept k s j p) ∨ (∃ ds, v = .ip ds) ∨ ∃ f cs, v = .fn f cs) : Sound P Γ fr hp U tk o ⟨v, [], [], none, True, L⟩ :=
  sound_pure fun a w m hR _ => by
    have hr := eo_rel hR h
    generalize a.eval = ρ at *
    refine ⟨ρ x, ?_, hr⟩
    generalize hu : ρ x = u at *
    rcases hv with ⟨k, p, rfl⟩ | ⟨k, s, j, p, rfl⟩ | ⟨ds, rfl⟩ | ⟨f, cs, rfl⟩ <;> cases hr <;> simp [execOp, ho, go_sem, hu]

end
end Go.Abs

set_option linter.unusedVariables false
set_option linter.unusedSimpArgs false
namespace Go.Abs
open Go Go.RowKit

theorem arith_wrap (k : IntKind) (n : Int) (h : (arith k n).2) : k.wrap n = (arith k n).1 := by
  cases k <;> simp only [arith, inI64] at h ⊢ <;> simp [IntKind.wrap, IntKind.bits, IntKind.signed] <;> omega

theorem toList_beq (a b : ByteArray) : (a.toList == b.toList) = decide (a = b) := by
  by_cases h : a = b
  · subst h; simp
  · have : a.toList ≠ b.toList := fun e => h (by
      have e2 : a.data.toList = b.data.toList := by simpa [ByteArray.toList_eq] using e
      cases a; cases b; simp_all)
    simp [h, this]

section
variable {P : Program} {Γ : Ctx} {fr : List (Nat × V)} {hp : List (Nat × Blk)} {U : Nat → Prop} {a : Act} {w w' : World} {m : Nat → Value} {tk : Nat} {L : List (Use P)} {o : Oper}
  {K : Act → World → Prop} {Q : Exit → Act → World → Prop} {hp' : List (Nat × Blk)}

theorem run_binI {op : BinOp} {k : IntKind} {x y : Int} {r : R} (h : binI op k x y = some r) (hp : r.p) (t : TypeId) (X Y : Operand) (w : World) :
    ∃ u, r = ⟨.d (.lit u), [], none, none, r.p⟩ ∧ (do eqGuard op t X Y (.int k x) (.int k y); binOp op t (.int k x) (.int k y) : Sem Value).run P w = .ok u w := by
  cases op <;> simp only [binI, intR, pureR, Option.some.injEq, reduceCtorEq] at h <;> subst h <;> refine ⟨_, rfl, ?_⟩ <;> simp only [] at hp
  case add => simp [eqGuard, binOp, Op.intArith, go_sem, arith_wrap k _ hp]
  case sub => simp [eqGuard, binOp, Op.intArith, go_sem, arith_wrap k _ hp]
  case mul => simp [eqGuard, binOp, Op.intArith, go_sem, arith_wrap k _ hp]
  case quo =>
    have h1 : ¬ y = 0 := by omega
    have h2 : x.tdiv y = x / y := Int.tdiv_eq_ediv_of_nonneg hp.1
    simp [eqGuard, binOp, Op.intDiv, go_sem, h1, h2, arith_wrap k _ hp.2.2]
  case rem =>
    have h1 : ¬ y = 0 := by omega
    have h2 : x.tmod y = x % y := Int.tmod_eq_emod_of_nonneg hp.1
    simp [eqGuard, binOp, Op.intDiv, go_sem, h1, h2]
  case eql => by_cases e : x = y <;> simp [eqGuard, binOp, Op.intCmp, go_sem, e]
  case neq => by_cases e : x = y <;> simp [eqGuard, binOp, Op.intCmp, go_sem, e]
  case lss => simp [eqGuard, binOp, Op.intCmp, go_sem]
  case leq => simp [eqGuard, binOp, Op.intCmp, go_sem]
  case gtr => simp [eqGuard, binOp, Op.intCmp, go_sem]
  case geq => simp [eqGuard, binOp, Op.intCmp, go_sem]

theorem run_binS {op : BinOp} {x y : ByteArray} {r : R} (h : binS op x y = some r) (hp : r.p) (t : TypeId) (X Y : Operand) (w : World) :
    ∃ u, r = ⟨.d (.lit u), [], none, none, r.p⟩ ∧ (do eqGuard op t X Y (.string x) (.string y); binOp op t (.string x) (.string y) : Sem Value).run P w = .ok u w := by
  cases op <;> simp only [binS, pureR, Option.some.injEq, reduceCtorEq] at h <;> subst h <;> refine ⟨_, rfl, ?_⟩ <;> simp only [] at hp
  case add =>
    have h0 : (x.size : Int) + (y.size : Int) ≤ 9223372036854775807 := by omega
    simp [eqGuard, binOp, Op.stringOp, go_sem, h0]
  case eql => simp [eqGuard, binOp, Op.stringOp, go_sem, toList_beq]
  case neq => simp [eqGuard, binOp, Op.stringOp, go_sem, toList_beq]

theorem boolT_eq {t : TypeId} (h : boolT P t = true) : P.underlying t = some .bool := by
  unfold boolT at h
  split at h <;> first | assumption | cases h

theorem run_binV {op : BinOp} {t : TypeId} {x y : V} {r : R} (h : binV P op t x y = some r) (hp : r.p) (X Y : Operand) (w : World) :
    ∃ u, r = ⟨.d (.lit u), [], none, none, r.p⟩ ∧ ∀ cx cy, RV (Cw Γ.F hp' m w) m U x cx → RV (Cw Γ.F hp' m w) m U y cy → (do eqGuard op t X Y cx cy; binOp op t cx cy : Sem Value).run P w = .ok u w := by
  unfold binV at h
  split at h
  · rename_i k a k' b
    split at h
    · rename_i hk
      subst hk
      obtain ⟨u, h1, h2⟩ := run_binI (P := P) h hp t X Y w
      exact ⟨u, h1, fun cx cy hx hy => by rw [hx.lit_inv, hy.lit_inv]; exact h2⟩
    · cases h
  · obtain ⟨u, h1, h2⟩ := run_binS (P := P) h hp t X Y w
    exact ⟨u, h1, fun cx cy hx hy => by rw [hx.lit_inv, hy.lit_inv]; exact h2⟩
  · rename_i a b
    split at h
    · rename_i hb
      have hb := boolT_eq hb
      cases op <;> simp only [binB, pureR, Option.some.injEq, reduceCtorEq] at h <;> subst h <;> refine ⟨_, rfl, fun cx cy hx hy => ?_⟩ <;> rw [hx.lit_inv, hy.lit_inv]
      · simp [eqGuard, go_sem, run_eql_bool _ _ _ _ hb]
      · cases a <;> cases b <;> simp [eqGuard, go_sem, run_neq_bool _ _ _ _ hb]
    · cases h
  · cases h

theorem sound_bin {op : BinOp} {t t' : TypeId} {x y : Operand} {vx vy : V} {r : R} {q : Rs P} (ho : o.op = .binOp op t x y t') (hx : eo fr x = some vx) (hy : eo fr y = some vy) (h : binV P op t vx vy = some r) (hq : ofR L (some r) = some q) : Sound P Γ fr hp U tk o q := by
  intro a w m K Q hR htk hp' hd hK
  simp only [ofR, Option.some.injEq] at hq
  subst hq
  obtain ⟨u, h1, h2⟩ := run_binV (P := P) (Γ := Γ) (hp' := hp) (m := m) (U := U) h hp' x y w
  have h3 := h2 _ _ (eo_rel hR hx) (eo_rel hR hy)
  rw [h1] at hK
  refine wp_value (u := u) (w' := w) ?_ (hK _ _ m ((rel_putA hR hd (.d (.lit u))).given fun t h => .inl h) (put_defers a _ u))
  generalize a.eval = ρ at *
  have h4 : (execOp ρ o) = (do pure (.value (← (do eqGuard op t x y (ρ x) (ρ y); binOp op t (ρ x) (ρ y) : Sem Value))) : Sem Next) := by simp [execOp, ho]
  rw [h4, Sem.run_bind, h3]
  rfl

theorem sound_un {op : UnOp} {t : TypeId} {x : Operand} {vx : V} {r : R} {q : Rs P} (ho : o.op = .unOp op t x) (hx : eo fr x = some vx) (h : unV op vx = some r) (hq : ofR L (some r) = some q) : Sound P Γ fr hp U tk o q := by
  simp only [ofR, Option.some.injEq] at hq
  subst hq
  unfold unV at h
  split at h
  · rename_i b
    simp only [pureR, Option.some.injEq] at h
    subst h
    refine sound_pure fun a w m hR _ => ?_
    have h1 := (eo_rel hR hx).lit_inv
    generalize a.eval = ρ at *
    exact ⟨.bool (!b), by simp [execOp, ho, go_sem, h1, Op.unary], .d (.lit _)⟩
  · rename_i k n
    simp only [intR, pureR, Option.some.injEq] at h
    subst h
    refine sound_pure fun a w m hR hp' => ?_
    have h1 := (eo_rel hR hx).lit_inv
    generalize a.eval = ρ at *
    exact ⟨_, by simp [execOp, ho, go_sem, h1, Op.unary, Op.intArith, arith_wrap k _ hp'], .d (.lit _)⟩
  · cases h

theorem intT_eq {t : TypeId} {k : IntKind} (h : intT P t = some k) : P.underlying t = some (.int k) := by
  unfold intT at h
  split at h
  · rename_i k' e; rw [e]; obtain rfl := Option.some.inj h; rfl
  · cases h
theorem strT_eq {t : TypeId} (h : strT P t = true) : P.underlying t = some .string := by
  unfold strT at h
  split at h <;> first | assumption | cases h
theorem elemT_eq {t e : TypeId} (h : elemT P t = some e) : P.underlying t = some (.slice e) := by
  unfold elemT at h
  split at h
  · rename_i k' e; rw [e]; obtain rfl := Option.some.inj h; rfl
  · cases h

theorem sound_extract {x : Operand} {i : Nat} {vs : List V} {v : V} (ho : o.op = .extract x i) (hx : eo fr x = some (.tup vs)) (hv : nth vs i = some v) : Sound P Γ fr hp U tk o ⟨v, [], [], none, True, L⟩ :=
  sound_pure fun a w m hR _ => by
    have hr := eo_rel hR hx
    generalize a.eval = ρ at *
    generalize hu : ρ x = u at *
    cases hr with
    | tup cs us hl h =>
      have hn : ∀ (l : List V) (i : Nat), nth l i = l[i]? := by
        intro l
        induction l with
        | nil => intro i; cases i <;> rfl
        | cons a r ih => intro i; cases i with
          | zero => rfl
          | succ i => simpa [nth] using ih i
      rw [hn] at hv
      have hi : i < us.size := by rw [← hl]; exact (List.getElem?_eq_some_iff.1 hv).1
      exact ⟨us[i], by simp [execOp, ho, go_sem, hu, Instr.extract, hi], h i v _ hv (by simp [hi])⟩

theorem sound_makeFunc {f : Nat} {first cap : Array Operand} {vs : List V} (ho : o.op = .makeFunc (.func f) first cap) (hf : first.size = 0) (hx : eos fr cap.toList = some vs) : Sound P Γ fr hp U tk o ⟨.fn f vs, [], [], none, True, L⟩ :=
  sound_pure fun a w m hR _ => by
    obtain ⟨hl, hr⟩ := eos_rel hR cap.toList vs hx
    have hf' : first = #[] := Array.eq_empty_of_size_eq_zero hf
    subst hf'
    generalize a.eval = ρ at *
    refine ⟨.func (.func f) #[] (cap.map ρ), by simp [execOp, ho, go_sem, Instr.makeFunc], .fn f vs _ (by simp [hl]) fun k x u hk hu => hr k x u hk ?_⟩
    simpa using hu

end
end Go.Abs
