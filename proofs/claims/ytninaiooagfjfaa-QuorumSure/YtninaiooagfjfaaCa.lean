/- Abstract values and abstract states of a Go function's own run, and what they say of the model's memory: a value that is read as data does not change; a row or a variable that the run made itself may be written. No conditions. -/
import Derived.Below
import Derived.Orders
import Derived.WalkKit
import Derived.Laws.AppendOwn
import Derived.Laws.OwnMore
import Derived.Laws.World
set_option linter.unusedVariables false
set_option linter.unusedSimpArgs false
namespace Go.Abs
open Go Go.RowKit

/-- Data of one cell: a literal, or a slice whose elements are rows of cells. -/
inductive D where
  | lit (v : Value)
  | lst (l : List (List D))

/-- A value in a temporary. -/
inductive V where
  | d (x : D)
  | own (t : Nat)
  | ptr (t off : Nat)
  | ept (t sz j k : Nat)
  | ip (cs : List D)
  | agg (cs : List V)
  | tup (vs : List V)
  | fn (f : Nat) (cap : List V)
  | when (b : Bool) (v : V)
  | any

instance : Inhabited D := ⟨.lst []⟩
instance : Inhabited V := ⟨.any⟩

/-- A block that the run made: a variable (its cells), or a row of elements. -/
inductive Blk where
  | var (t : TypeId) (cs : List V)
  | row (e : TypeId) (sz : Nat) (l : List (List D))

structure St where
  fr : List (Nat × V)
  hp : List (Nat × Blk)
  nx : Nat

def lk {α : Type} : List (Nat × α) → Nat → Option α
  | [], _ => none
  | (i, a) :: r, k => bif i.beq k then some a else lk r k

def blkOf : Value → Option Nat
  | .slice (some a) _ _ => some a.block
  | .pointer (some a) => some a.block
  | _ => none

inductive RD (C : Addr → Value → Prop) : D → Value → Prop
  | lit (v : Value) : RD C (.lit v) v
  | lst (l : List (List D)) (A : Option Addr) (c sz : Nat) (cv : Nat → Nat → Value) (hc : l.length ≤ c) (hm : c ≤ maxLen) (hsz : ∀ row ∈ l, row.length = sz)
      (hA : ∀ j row, l[j]? = some row → ∀ k x, row[k]? = some x → ∃ ad, A = some ad ∧ C (ad.add (j * sz + k)) (cv j k))
      (hO : ∀ j row, l[j]? = some row → ∀ k x, row[k]? = some x → (cv j k).oneCell' = true)
      (hR : ∀ j row, l[j]? = some row → ∀ k x, row[k]? = some x → RD C x (cv j k)) : RD C (.lst l) (.slice A l.length c)

theorem RD.mono {C C' : Addr → Value → Prop} (h : ∀ a v, C a v → C' a v) {x : D} {v : Value} (r : RD C x v) : RD C' x v := by
  induction r with
  | lit v => exact .lit v
  | lst l A c sz cv hc hm hsz hA hO _ ih =>
    exact .lst l A c sz cv hc hm hsz (fun j row hj k x hk => by obtain ⟨ad, e, hh⟩ := hA j row hj k x hk; exact ⟨ad, e, h _ _ hh⟩) hO ih

inductive RV (C : Addr → Value → Prop) (m : Nat → Value) (U : Nat → Prop) : V → Value → Prop
  | d {x : D} {v : Value} (h : RD C x v) : RV C m U (.d x) v
  | own (t : Nat) (h : U t) (ho : (m t).oneCell' = true) : RV C m U (.own t) (m t)
  | ptr (t off b : Nat) (h : U t) (hm : m t = .pointer (some ⟨b, 0, none⟩)) : RV C m U (.ptr t off) (.pointer (some ⟨b, off, none⟩))
  | ept (t sz j k b n c : Nat) (h : U t) (hm : m t = .slice (some ⟨b, 0, none⟩) n c) : RV C m U (.ept t sz j k) (.pointer (some ⟨b, j * sz + k, none⟩))
  | ip (cs : List D) (ad : Addr) (cv : Nat → Value) (h : ∀ k x, cs[k]? = some x → C (ad.add k) (cv k)) (hO : ∀ k x, cs[k]? = some x → (cv k).oneCell' = true) (hR : ∀ k x, cs[k]? = some x → RD C x (cv k)) : RV C m U (.ip cs) (.pointer (some ad))
  | agg (cs : List V) (vs : Array Value) (hl : cs.length = vs.size) (hO : ∀ (k : Nat) (u : Value), vs[k]? = some u → u.oneCell' = true) (h : ∀ (k : Nat) (x : V) (u : Value), cs[k]? = some x → vs[k]? = some u → RV C m U x u) : RV C m U (.agg cs) (.agg vs)
  | tup (cs : List V) (vs : Array Value) (hl : cs.length = vs.size) (h : ∀ (k : Nat) (x : V) (u : Value), cs[k]? = some x → vs[k]? = some u → RV C m U x u) : RV C m U (.tup cs) (.tuple vs)
  | fn (f : Nat) (cs : List V) (vs : Array Value) (hl : cs.length = vs.size) (h : ∀ (k : Nat) (x : V) (u : Value), cs[k]? = some x → vs[k]? = some u → RV C m U x u) : RV C m U (.fn f cs) (.func (.func f) #[] vs)
  | when (b : Bool) (x : V) (v : Value) (ht : b = true → RV C m U x v) (hf : b = false → v = undef) : RV C m U (.when b x) v
  | any (v : Value) : RV C m U .any v

theorem RV.mono {C C' : Addr → Value → Prop} {m m' : Nat → Value} {U U' : Nat → Prop} (h : ∀ a v, C a v → C' a v) (hm : ∀ t, U t → m' t = m t) (hN : ∀ t, U t → U' t) {x : V} {v : Value} (r : RV C m U x v) : RV C' m' U' x v := by
  induction r with
  | d hx => exact .d (hx.mono h)
  | own t ht ho => rw [← hm t ht]; exact .own t (hN t ht) (by rw [hm t ht]; exact ho)
  | ptr t off b ht he => exact .ptr t off b (hN t ht) ((hm t ht).trans he)
  | ept t sz j k b n c ht he => exact .ept t sz j k b n c (hN t ht) ((hm t ht).trans he)
  | ip cs ad cv h1 hO hR => exact .ip cs ad cv (fun k x hk => h _ _ (h1 k x hk)) hO (fun k x hk => (hR k x hk).mono h)
  | agg cs vs hl hO _ ih => exact .agg cs vs hl hO ih
  | tup cs vs hl _ ih => exact .tup cs vs hl ih
  | fn f cs vs hl _ ih => exact .fn f cs vs hl ih
  | when b x v _ hf ih => exact .when b x v ih hf
  | any v => exact .any v

/-- The cells that nobody here may write: what they hold stays. F: blocks that are another one's. -/
structure Cw (F : Nat → Prop) (hp : List (Nat × Blk)) (m : Nat → Value) (w : World) (a : Addr) (v : Value) : Prop where
  cell : w.cell? a = some v
  notF : ¬ F a.block
  far : ∀ t b, lk hp t = some b → blkOf (m t) ≠ some a.block

def HB (C : Addr → Value → Prop) (m : Nat → Value) (U : Nat → Prop) (w : World) (t : Nat) : Blk → Prop
  | .var ty cs => ∃ g, ∃ arr : Array Value, m t = .pointer (some ⟨g, 0, none⟩) ∧ w.heap[g]? = some (.cells arr ty (0, 0)) ∧ arr.size = cs.length ∧
      (∀ (k : Nat) (u : Value), arr[k]? = some u → u.oneCell' = true) ∧ ∀ (k : Nat) (x : V) (u : Value), cs[k]? = some x → arr[k]? = some u → RV C m U x u
  | .row e sz l => ∃ xs : List Value, w.ownsRow 0 e sz (m t) l.length xs ∧ (∀ row ∈ l, row.length = sz) ∧ (∀ u : Value, u ∈ xs → u.oneCell' = true) ∧
      ∀ (j : Nat) (row : List D), l[j]? = some row → ∀ (k : Nat) (x : D), row[k]? = some x → ∃ u, xs[j * sz + k]? = some u ∧ RD C x u

theorem HB.mono {C C' : Addr → Value → Prop} {m m' : Nat → Value} {U U' : Nat → Prop} {w w' : World} {t : Nat} {b : Blk} (h : ∀ a v, C a v → C' a v) (hm : ∀ t, U t → m' t = m t) (hN : ∀ t, U t → U' t) (ht : U t)
    (hw : ∀ g, blkOf (m t) = some g → w'.heap[g]? = w.heap[g]?) (hb : HB C m U w t b) : HB C' m' U' w' t b := by
  cases b with
  | var ty cs =>
    obtain ⟨g, arr, e, hg, hs, hO, hr⟩ := hb
    exact ⟨g, arr, (hm t ht).trans e, (hw g (by rw [e]; rfl)).trans hg, hs, hO, fun k x u hx hu => (hr k x u hx hu).mono h hm hN⟩
  | row e sz l =>
    obtain ⟨xs, ho, hsz, hO, hr⟩ := hb
    refine ⟨xs, ?_, hsz, hO, fun j row hj k x hk => ?_⟩
    · rw [hm t ht]
      refine ⟨ho.1, ?_⟩
      rcases ho.2 with h1 | ⟨g, cap, cur, e1, h2, h3, h4⟩
      · exact .inl h1
      · exact .inr ⟨g, cap, cur, e1, h2, (hw g (by rw [e1]; rfl)).trans h3, h4⟩
    · obtain ⟨u, hu, hd⟩ := hr j row hj k x hk
      exact ⟨u, hu, hd.mono h⟩

/-- What a call is: the world in which it began, the blocks that were handed over to be written (tokens below n0), its frame's size. -/
structure Ctx where
  w0 : World
  n0 : Nat
  m0 : Nat → Value
  nt : Nat
  F : Nat → Prop

structure Keeps (Γ : Ctx) (w : World) : Prop where
  os : w.os = Γ.w0.os
  tape : w.tape = Γ.w0.tape
  output : w.output = Γ.w0.output
  size : Γ.w0.heap.size ≤ w.heap.size
  block : ∀ g, g < Γ.w0.heap.size → (∀ t, t < Γ.n0 → blkOf (Γ.m0 t) ≠ some g) → w.heap[g]? = Γ.w0.heap[g]?

/-- The memory's part. U: the tokens that have been given. -/
structure RelH (Γ : Ctx) (hp : List (Nat × Blk)) (U : Nat → Prop) (w : World) (m : Nat → Value) : Prop where
  hb : ∀ t b, lk hp t = some b → HB (Cw Γ.F hp m w) m U w t b
  sep : ∀ t t' b b' g, lk hp t = some b → lk hp t' = some b' → blkOf (m t) = some g → blkOf (m t') = some g → t = t'
  lt : ∀ t b, lk hp t = some b → U t
  new : ∀ t b g, lk hp t = some b → blkOf (m t) = some g → Γ.n0 ≤ t → Γ.w0.heap.size ≤ g
  old : ∀ t, t < Γ.n0 → m t = Γ.m0 t
  n0 : ∀ t, t < Γ.n0 → U t
  nF : ∀ t b g, lk hp t = some b → blkOf (m t) = some g → ¬ Γ.F g
  hF : ∀ g, Γ.F g → g < Γ.w0.heap.size
  keeps : Keeps Γ w

structure Rel (Γ : Ctx) (fr : List (Nat × V)) (hp : List (Nat × Blk)) (U : Nat → Prop) (a : Act) (w : World) (m : Nat → Value) : Prop where
  nt : a.tmps.size = Γ.nt
  fr : ∀ i v, lk fr i = some v → ∃ u, a.tmps[i]? = some u ∧ RV (Cw Γ.F hp m w) m U v u
  mem : RelH Γ hp U w m

theorem lk_cons_self {α : Type} (i : Nat) (a : α) (r : List (Nat × α)) : lk ((i, a) :: r) i = some a := by simp [lk]
theorem lk_cons_ne {α : Type} {i k : Nat} (a : α) (r : List (Nat × α)) (h : i ≠ k) : lk ((i, a) :: r) k = lk r k := by
  have : i.beq k = false := by
    cases hb : i.beq k with
    | false => rfl
    | true => exact absurd (Nat.eq_of_beq_eq_true hb) h
  simp [lk, this]
theorem lk_cons {α : Type} (i k : Nat) (a : α) (r : List (Nat × α)) : lk ((i, a) :: r) k = if i = k then some a else lk r k := by
  by_cases h : i = k
  · subst h; rw [lk_cons_self, if_pos rfl]
  · rw [lk_cons_ne _ _ h, if_neg h]

end Go.Abs
