/- What one operation does, kind by kind, for simp. No conditions. -/
import Derived.Test.YtninaiooagfjfaaCr
set_option linter.unusedVariables false
set_option linter.unusedSimpArgs false
namespace Go.Abs
open Go Go.RowKit

section
variable {P : Program} {n0 : Nat} {fr : List (Nat × V)} {hp : List (Nat × Blk)} {tk : Nat} {L : List (Use P)} {d : Option Tmp} {ty : TypeId} {po : String} {af : Array Edge} {g : Option (Nat × Bool)}

def outA (L : List (Use P)) : Option V → Option (Rs P)
  | some v => some ⟨v, [], [], none, True, L⟩
  | none => none
def pickA (L : List (Use P)) : Option V → Option V → Option V → Option (Rs P)
  | some (.d (.lit (.bool t))), some va, some vb => some ⟨pickV t (cdV va).2 (cdV vb).2, [], [], none, (t = true → (cdV va).1 = true) ∧ (t = false → (cdV vb).1 = true), L⟩
  | _, _, _ => none
def binA (P : Program) (L : List (Use P)) (op : BinOp) (t : TypeId) : Option V → Option V → Option (Rs P)
  | some a, some b => ofR L (binV P op t a b)
  | _, _ => none
def unA (L : List (Use P)) (op : UnOp) : Option V → Option (Rs P)
  | some a => ofR L (unV op a)
  | none => none
def ldA (P : Program) (hp : List (Nat × Blk)) (t : TypeId) (L : List (Use P)) : Option V → Option Nat → Option (Rs P)
  | some v, some _ => match loadA P hp t v with | some (u, p) => some ⟨u, [], [], none, p, L⟩ | none => none
  | _, _ => none
def faA (L : List (Use P)) : Option V → Option (Nat × Nat × Nat) → Option (Rs P)
  | some (.ptr k o), some (p, n, _) => if n = 0 then none else some ⟨.ptr k (o + p), [], [], none, True, L⟩
  | some (.ept k sz j o), some (p, n, _) => if n = 0 then none else some ⟨.ept k sz j (o + p), [], [], none, True, L⟩
  | some (.ip ds), some (p, n, _) => if n = 0 then none else some ⟨.ip (ds.drop p), [], [], none, True, L⟩
  | _, _ => none
def lnA (P : Program) (hp : List (Nat × Blk)) (t : TypeId) (L : List (Use P)) : Option V → Option (Rs P)
  | some v => match lenV hp v with | some n => bif lenT P t v then some ⟨.d (.lit (.int .i64 n)), [], [], none, True, L⟩ else none | none => none
  | none => none
def stA (hp : List (Nat × Blk)) (L : List (Use P)) : Option V → Option V → Option Nat → Option (Rs P)
  | some (.ptr k o), some v, some n => match lk hp k with
    | some (.var ty cs) => if (cellsV v).length = n ∧ (cellsV v).all one ∧ o + n ≤ cs.length then some ⟨.d (.lit undef), [], [(k, .var ty (ins cs o (cellsV v)))], none, True, L⟩ else none
    | _ => none
  | some (.ept k sz j o), some v, some n => match lk hp k, toDs hp (cellsV v) with
    | some (.row e sz' l), some ds => if sz = sz' ∧ ds.length = n ∧ o + n ≤ sz ∧ k ∉ ownsOf (cellsV v) then some ⟨.d (.lit undef), ownsOf (cellsV v), [(k, .row e sz (l.set j (ins (l.getD j []) o ds)))], none, j < l.length, L⟩ else none
    | _, _ => none
  | _, _, _ => none
def nlA (L : List (Use P)) : Option V → Option (Rs P)
  | some (.ptr k o) => some ⟨.ptr k o, [], [], none, True, L⟩
  | some (.ept k sz j o) => some ⟨.ept k sz j o, [], [], none, True, L⟩
  | some (.ip ds) => some ⟨.ip ds, [], [], none, True, L⟩
  | some (.fn f cs) => some ⟨.fn f cs, [], [], none, True, L⟩
  | _ => none
def alA (tk : Nat) (t : TypeId) (L : List (Use P)) : Option (List Value) → Option (Rs P)
  | some zs => if zs.all (·.oneCell') then some ⟨.ptr tk 0, [], [], some (.var t (zs.map fun z => .d (.lit z))), True, L⟩ else none
  | none => none
def bxA (tk : Nat) (t : TypeId) (L : List (Use P)) : Option V → Option Nat → Option (Rs P)
  | some v, some n => if (cellsV v).all one ∧ (cellsV v).length = n then some ⟨.ptr tk 0, [], [], some (.var t (cellsV v)), True, L⟩ else none
  | _, _ => none
def fdA (P : Program) (L : List (Use P)) : Option V → Option (Nat × Nat × Nat) → Option (Rs P)
  | some (.agg cs), some (p, n, t) => match aggT P t with
    | some true => if (cut cs p n).length = n then some ⟨.agg (cut cs p n), [], [], none, True, L⟩ else none
    | some false => match nth cs p with | some v => some ⟨v, [], [], none, True, L⟩ | none => none
    | none => none
  | _, _ => none
def iaA (P : Program) (hp : List (Nat × Blk)) (L : List (Use P)) : Option V → Option V → Option Nat → Option (Rs P)
  | some (.d (.lst l)), some (.d (.lit (.int _ j))), some e => match sizeT P e with
    | some sz => some ⟨.ip (l.getD j.toNat []), [], [], none, 0 < sz ∧ 0 ≤ j ∧ j < l.length ∧ ∀ row ∈ l, row.length = sz, L⟩
    | none => none
  | some (.own k), some (.d (.lit (.int _ j))), some e => match lk hp k, sizeT P e with
    | some (.row e' sz' l), some sz => if sz = sz' then some ⟨.ept k sz j.toNat 0, [], [], none, 0 ≤ j ∧ j < l.length, L⟩ else none
    | _, _ => none
  | _, _, _ => none
def ixA (P : Program) (t : TypeId) (L : List (Use P)) : Option V → Option V → Option (Rs P)
  | some (.d (.lit (.string s))), some (.d (.lit (.int _ j))) => bif strT P t then some ⟨.d (.lit (.int .u8 (s.get! j.toNat).toNat)), [], [], none, 0 ≤ j ∧ j < s.size, L⟩ else none
  | _, _ => none
def bdA (P : Program) (fr : List (Nat × V)) (t : TypeId) (ps : List (Nat × Operand)) (L : List (Use P)) : Option (List Value) → Option (List (Nat × Nat)) → Option (Rs P)
  | some zs, some pl => if zs.all (·.oneCell') then match fillA pl fr ps (zs.map fun z => .d (.lit z)) with
      | some cs => some ⟨.agg cs, [], [], none, True, L⟩
      | none => none else none
  | _, _ => none
def bsA (P : Program) (fr : List (Nat × V)) (hp : List (Nat × Blk)) (tk : Nat) (n : Nat) (ps : List (Nat × Operand)) (L : List (Use P)) : Option Nat → Option (Rs P)
  | some e => match rowT P e with
    | some (sz, _) => match rowsA hp fr sz 0 ps with
      | some (l, g) => if l.length = n ∧ n * sz ≤ 16777216 then some ⟨.own tk, g, [], some (.row e sz l), True, L⟩ else none
      | none => none
    | none => none
  | none => none
def cvA (P : Program) (L : List (Use P)) (s t : TypeId) : Option V → Option (Rs P)
  | some (.d (.lit (.int k n))) => match intT P t, P.underlying s with
    | some k', some _ => ofR L (intR k' (arith k' n))
    | _, _ => none
  | _ => none
def apA (P : Program) (n0 : Nat) (hp : List (Nat × Blk)) (tk : Nat) (t : TypeId) (L : List (Use P)) : Option V → Option V → Option (Rs P)
  | some a, some b => appendA P n0 hp tk t a b L
  | _, _ => none
def mxA (L : List (Use P)) : Option V → Option V → Option (Rs P)
  | some (.d (.lit (.int k a))), some (.d (.lit (.int k' b))) => if k = k' then some ⟨.d (.lit (.int k (max a b))), [], [], none, True, L⟩ else none
  | _, _ => none
def mnA (L : List (Use P)) : Option V → Option V → Option (Rs P)
  | some (.d (.lit (.int k a))), some (.d (.lit (.int k' b))) => if k = k' then some ⟨.d (.lit (.int k (min a b))), [], [], none, True, L⟩ else none
  | _, _ => none
def mfA (L : List (Use P)) (f : Nat) : Option (List V) → Option (Rs P)
  | some vs => some ⟨.fn f vs, [], [], none, True, L⟩
  | none => none
def exA (L : List (Use P)) (i : Nat) : Option V → Option (Rs P)
  | some (.tup vs) => outA L (nth vs i)
  | _ => none

theorem stp_move {x : Operand} : stp P n0 fr hp tk L ⟨d, .move x, ty, po, af, g⟩ = outA L (eo fr x) := rfl
theorem stp_assign {x : Operand} : stp P n0 fr hp tk L ⟨d, .assign x, ty, po, af, g⟩ = outA L (eo fr x) := rfl
theorem stp_pick {c x y : Operand} : stp P n0 fr hp tk L ⟨d, .pick c x y, ty, po, af, g⟩ = pickA L (eo fr c) (eo fr x) (eo fr y) := rfl
theorem stp_bin {op : BinOp} {t t' : TypeId} {x y : Operand} : stp P n0 fr hp tk L ⟨d, .binOp op t x y t', ty, po, af, g⟩ = binA P L op t (eo fr x) (eo fr y) := rfl
theorem stp_un {op : UnOp} {t : TypeId} {x : Operand} : stp P n0 fr hp tk L ⟨d, .unOp op t x, ty, po, af, g⟩ = unA L op (eo fr x) := rfl
theorem stp_load {t : TypeId} {x : Operand} : stp P n0 fr hp tk L ⟨d, .load t x, ty, po, af, g⟩ = ldA P hp t L (eo fr x) (sizeT P t) := rfl
theorem stp_fieldAddr {s f : Nat} {x : Operand} : stp P n0 fr hp tk L ⟨d, .fieldAddr s x f, ty, po, af, g⟩ = faA L (eo fr x) (fldT P s f) := rfl
theorem stp_store {t : TypeId} {x y : Operand} : stp P n0 fr hp tk L ⟨d, .store t x y, ty, po, af, g⟩ = stA hp L (eo fr x) (eo fr y) (sizeT P t) := rfl
theorem stp_field {s f : Nat} {x : Operand} : stp P n0 fr hp tk L ⟨d, .field s x f, ty, po, af, g⟩ = fdA P L (eo fr x) (fldT P s f) := rfl
theorem stp_indexAddr {t : TypeId} {x i : Operand} : stp P n0 fr hp tk L ⟨d, .indexAddr t x i, ty, po, af, g⟩ = iaA P hp L (eo fr x) (eo fr i) (elemT P t) := rfl
theorem stp_index {t : TypeId} {x i : Operand} : stp P n0 fr hp tk L ⟨d, .index t x i, ty, po, af, g⟩ = ixA P t L (eo fr x) (eo fr i) := rfl
theorem stp_build {t : TypeId} {ps : Array (Nat × Operand)} : stp P n0 fr hp tk L ⟨d, .build t ps, ty, po, af, g⟩ = bdA P fr t ps.toList L (zeroT P t) (stT P t) := rfl
theorem stp_buildSlice {t : TypeId} {n : Nat} {ps : Array (Nat × Operand)} : stp P n0 fr hp tk L ⟨d, .buildSlice t n ps, ty, po, af, g⟩ = bsA P fr hp tk n ps.toList L (elemT P t) := rfl
theorem stp_convert {s t : TypeId} {x : Operand} : stp P n0 fr hp tk L ⟨d, .convert s t x, ty, po, af, g⟩ = cvA P L s t (eo fr x) := rfl
theorem stp_slice {t : TypeId} {x : Operand} {lo hi : Option Operand} : stp P n0 fr hp tk L ⟨d, .slice t x lo hi none, ty, po, af, g⟩ = sliceA P fr hp t x lo hi L := rfl
theorem stp_append {x y : Operand} {t : TypeId} : stp P n0 fr hp tk L ⟨d, .call { callee := .builtin .append, args := #[x, y], argTypes := #[t, t] }, ty, po, af, g⟩ = apA P n0 hp tk t L (eo fr x) (eo fr y) := by
  show (if t = t then _ else _) = _
  rw [if_pos rfl]; rfl
theorem stp_max {x y : Operand} {ts : Array TypeId} : stp P n0 fr hp tk L ⟨d, .call { callee := .builtin .max, args := #[x, y], argTypes := ts }, ty, po, af, g⟩ = mxA L (eo fr x) (eo fr y) := rfl
theorem stp_min {x y : Operand} {ts : Array TypeId} : stp P n0 fr hp tk L ⟨d, .call { callee := .builtin .min, args := #[x, y], argTypes := ts }, ty, po, af, g⟩ = mnA L (eo fr x) (eo fr y) := rfl
theorem stp_makeFunc {f : Nat} {cap : Array Operand} : stp P n0 fr hp tk L ⟨d, .makeFunc (.func f) #[] cap, ty, po, af, g⟩ = mfA L f (eos fr cap.toList) := rfl
theorem stp_nil {x : Operand} : stp P n0 fr hp tk L ⟨d, .nilCheck x, ty, po, af, g⟩ = nlA L (eo fr x) := rfl
theorem stp_alloc {t : TypeId} : stp P n0 fr hp tk L ⟨d, .alloc t, ty, po, af, g⟩ = alA tk t L (zeroT P t) := rfl
theorem stp_box {t : TypeId} {x : Operand} : stp P n0 fr hp tk L ⟨d, .box t x, ty, po, af, g⟩ = bxA tk t L (eo fr x) (sizeT P t) := rfl
theorem stp_extract {x : Operand} {i : Nat} : stp P n0 fr hp tk L ⟨d, .extract x i, ty, po, af, g⟩ = exA L i (eo fr x) := rfl
theorem stp_len {x : Operand} {t : TypeId} {s1 s2 : Bool} : stp P n0 fr hp tk L ⟨d, .call { callee := .builtin .len, args := #[x], argTypes := #[t] }, ty, po, af, g⟩ = lnA P hp t L (eo fr x) := rfl

def nextA (P : Program) (n0 : Nat) (ops r : List Oper) (d : Option Tmp) (tk : Nat) (fr : List (Nat × V)) (hp : List (Nat × Blk)) (p : Prop) : Option (Rs P) → Option (List (Nat × V) × List (Nat × Blk) × Prop)
  | some q => exec P n0 ops r (tk + 1) (putA fr d q.v) (after hp tk q) (p ∧ q.p) q.L
  | none => none
def nextG (P : Program) (n0 : Nat) (ops r : List Oper) (tk : Nat) (p : Prop) : Option (List (Nat × V) × List (Nat × Blk) × Prop × List (Use P)) → Option (List (Nat × V) × List (Nat × Blk) × Prop)
  | some (fr', hp', p', L') => exec P n0 ops r (tk + 1) fr' hp' (p ∧ p') L'
  | none => none
def nextW (P : Program) (n0 : Nat) (ops r : List Oper) (o : Oper) (tk : Nat) (fr : List (Nat × V)) (hp : List (Nat × Blk)) (p : Prop) (L : List (Use P)) : Option Bool → Option (List (Nat × V) × List (Nat × Blk) × Prop)
  | none => none
  | some g => nextG P n0 ops r tk p (guarded fr hp tk L o g (stp P n0 (under fr (readT o.op)) hp tk L o))
theorem exec_nil {ops : List Oper} {p : Prop} : exec P n0 ops [] tk fr hp p L = some (fr, hp, p) := rfl
theorem exec_plain {ops r : List Oper} {op : Op} {p : Prop} : exec P n0 ops (⟨d, op, ty, po, af, none⟩ :: r) tk fr hp p L = nextA P n0 ops r d tk fr hp p (stp P n0 fr hp tk L ⟨d, op, ty, po, af, none⟩) := rfl
theorem exec_guard {ops r : List Oper} {op : Op} {p : Prop} {j : Nat} {want : Bool} : exec P n0 ops (⟨d, op, ty, po, af, some (j, want)⟩ :: r) tk fr hp p L =
    nextW P n0 ops r ⟨d, op, ty, po, af, some (j, want)⟩ tk fr hp p L (wantA ops fr j want) := rfl
theorem guarded_pure {o : Oper} {b : Bool} {v : V} {q : Prop} {L' : List (Use P)} : guarded fr hp tk L o b (some ⟨v, [], [], none, q, L'⟩) = some (putA fr o.dst (.when b v), hp, owes fr b (readT o.op) ∧ (b = true → q), L') := rfl
theorem lk_nil {α : Type} {k : Nat} : lk ([] : List (Nat × α)) k = none := rfl
theorem beqq (i k : Nat) : (i == k) = i.beq k := by
  by_cases h : i = k
  · subst h; rw [beq_self]; simp
  · rw [beq_false h]; simp [h]
theorem lk_step {α : Type} {i k : Nat} {a : α} {r : List (Nat × α)} : lk ((i, a) :: r) k = bif i == k then some a else lk r k := by
  rw [beqq]; rfl
theorem idx_nil {k : Nat} : idx [] k = none := rfl
theorem idx_step {t k : Nat} {r : List Nat} : idx (t :: r) k = bif t == k then some 0 else (idx r k).map (· + 1) := by
  rw [beqq]; rfl
theorem sto_nil {α : Type} {k : Nat} {x : α} : sto ([] : List (Nat × α)) k x = [(k, x)] := rfl
theorem sto_step {α : Type} {i k : Nat} {a x : α} {r : List (Nat × α)} : sto ((i, a) :: r) k x = bif i == k then (k, x) :: r else (i, a) :: sto r k x := by
  rw [beqq]; rfl
theorem del_nil {α : Type} {k : Nat} : del ([] : List (Nat × α)) k = [] := rfl
theorem del_step {α : Type} {i k : Nat} {a : α} {r : List (Nat × α)} : del ((i, a) :: r) k = bif i == k then del r k else (i, a) :: del r k := by
  rw [beqq]; rfl

/-- A call whose value is new and that is handed nothing. -/
def usePure {f : Nat} {args : List V} {v : V} (h : CallsA P f args [] v []) (ht : tokB 0 v = true) (he : callB P f = true) : Use P := ⟨⟨f, args, [], v, [], h, rfl, by simp [ht, tokBlks], he⟩, []⟩
/-- A call in general. -/
def useAt {f : Nat} {args : List V} {bs : List Blk} {v : V} {bs' : List Blk} (ts : List Nat) (h : CallsA P f args bs v bs') (hl : (bs.length.ble bs'.length && bs'.length.ble (bs.length + 1)) = true) (ht : (tokB bs'.length v && tokBlks bs'.length bs') = true)
    (he : callB P f = true) : Use P := ⟨⟨f, args, bs, v, bs', h, hl, ht, he⟩, ts⟩

def caA (hp : List (Nat × Blk)) (tk : Nat) (L : List (Use P)) : Option V → Option (List V) → Option (Rs P)
  | some (.fn f cap), some vs => callA hp tk f (vs ++ cap) L
  | _, _ => none
theorem stp_call {x : Operand} {as : List Operand} {ts : Array TypeId} : stp P n0 fr hp tk L ⟨d, .call { callee := .value x, args := ⟨as⟩, argTypes := ts }, ty, po, af, g⟩ = caA hp tk L (eo fr x) (eos fr as) := rfl
theorem callA_pure {f : Nat} {args vs : List V} {v : V} {h : CallsA P f args [] v []} {ht : tokB 0 v = true} {he : callB P f = true} :
    callA hp tk f vs (usePure h ht he :: L) = some ⟨v, bif flat v then [] else seenL [] vs, [], none, leL (snapL hp [] vs) args, L⟩ := by
  simp [callA, usePure]
theorem callA_at {f t : Nat} {ts : List Nat} {args vs : List V} {bs bs' : List Blk} {v : V} {h : CallsA P f args bs v bs'} {hl : (bs.length.ble bs'.length && bs'.length.ble (bs.length + 1)) = true} {ht : (tokB bs'.length v && tokBlks bs'.length bs') = true} {he : callB P f = true} :
    callA hp tk f vs (useAt (t :: ts) h hl ht he :: L) = some ⟨ren (t :: ts) tk v, bif flat v && flatBlks bs' then [] else seenL (t :: ts) vs ++ seenH hp (t :: ts) (t :: ts), (backs (t :: ts) tk (t :: ts) bs').1, (backs (t :: ts) tk (t :: ts) bs').2, leL (snapL hp (t :: ts) vs) args ∧ hands hp (t :: ts) (t :: ts) bs ∧ (t :: ts).Nodup, L⟩ := by
  simp [callA, useAt]
theorem callA_new {f : Nat} {args vs : List V} {bs : List Blk} {b : Blk} {v : V} {h : CallsA P f args bs v [b]} {hl : (bs.length.ble [b].length && [b].length.ble (bs.length + 1)) = true} {ht : (tokB [b].length v && tokBlks [b].length [b]) = true} {he : callB P f = true} :
    callA hp tk f vs (useAt [] h hl ht he :: L) = some ⟨ren [] tk v, bif flat v && flatBlks [b] then [] else seenL [] vs ++ seenH hp [] [], (backs [] tk [] [b]).1, (backs [] tk [] [b]).2, leL (snapL hp [] vs) args ∧ hands hp [] [] bs ∧ ([] : List Nat).Nodup, L⟩ := by
  simp [callA, useAt]
end

attribute [go_sem] stp_move stp_assign stp_pick stp_bin stp_un stp_load stp_fieldAddr stp_store stp_field stp_indexAddr stp_index stp_build stp_buildSlice stp_convert stp_slice stp_append stp_max stp_min stp_makeFunc stp_nil stp_alloc stp_box stp_extract stp_len stp_call
  outA pickA binA unA ldA faA stA fdA iaA ixA bdA bsA cvA apA mxA mnA mfA nlA alA bxA exA lnA caA callA_pure callA_at callA_new backs flatBlks flatBlk flatD seenH ren renL renB sig Option.getD_some Option.getD_none Bool.and_false Bool.false_and exec_nil exec_plain exec_guard nextA nextG nextW guarded_pure wantA opsT readT under owes eo eos lk_nil lk_step sto_nil sto_step del_nil del_step cond_true cond_false List.foldl and_true true_and if_true if_false List.length_cons List.length_nil implies_true beq_true Int.toNat_natCast List.map_cons List.map_nil List.all_cons List.all_nil Bool.and_true Bool.true_and Value.oneCell' true_or or_true leF firsts hands leBlk snapB Int.natCast_zero not_false_eq_true and_self List.nodup_nil List.nodup_cons List.mem_cons List.not_mem_nil or_false not_or argsE enum resOne imp_self beq_false Bool.not_eq_true' Bool.cond_true_left Bool.cond_false_right Bool.and_eq_true Option.isSome_some List.length_map List.append_nil List.nil_append List.cons_append List.getD_cons_zero List.getD_cons_succ
  putA after delAll loadA cut ins nth cellsV one toD toDs ownsOf fillA rowsA boundA sliceV sliceA lenV lenT rowsV appendA binV binI binS binB unV arith intR ofR pureR pickV cdV reg trim flat flatL seen seenL snap snapL le leL leD idx_nil idx_step Option.map_some Option.map_none thenA blockA nilV
end Go.Abs
