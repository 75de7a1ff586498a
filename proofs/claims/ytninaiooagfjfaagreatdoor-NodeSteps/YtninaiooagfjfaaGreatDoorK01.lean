/- Abstract values and abstract states of a Go function's own run, and what they say of the model's memory: a value that is read as data does not change; a row or a variable that the run made itself may be written. How an abstract state goes on: a temporary is written, a block is made, a block is freed, a cell is written, the tape is asked. What one operation does to an abstract state, as a function: its value, what becomes of blocks, and the condition under which the machine does the same. No conditions. -/
import Derived.Below
import Derived.Orders
import Derived.WalkKit
import Derived.Laws.AppendOwn
import Derived.Laws.OwnMore
import Derived.Laws.World
set_option linter.unusedVariables false
set_option linter.unusedSimpArgs false
namespace Go.Abs
open Go Go.RowKit

/-- Data of one cell: a literal, or a slice whose elements are rows of cells. -/
inductive D where
  | lit (v : Value)
  | lst (l : List (List D))

/-- A value in a temporary. -/
inductive V where
  | d (x : D)
  | own (t : Nat)
  | ptr (t off : Nat)
  | ept (t sz j k : Nat)
  | ip (cs : List D)
  | agg (cs : List V)
  | tup (vs : List V)
  | fn (f : Nat) (cap : List V)
  | when (b : Bool) (v : V)
  | any

instance : Inhabited D := ⟨.lst []⟩
instance : Inhabited V := ⟨.any⟩

/-- A block that the run made: a variable (its cells), or a row of elements. -/
inductive Blk where
  | var (t : TypeId) (cs : List V)
  | row (e : TypeId) (sz : Nat) (l : List (List D))
  /-- Nothing is known of it, and nobody looks at it. -/
  | dead
  /-- Anything that is said of one block of the memory and of the value that leads to it. -/
  | inv (I : Value → Option Obj → Prop)

structure St where
  fr : List (Nat × V)
  hp : List (Nat × Blk)
  nx : Nat

def lk {α : Type} : List (Nat × α) → Nat → Option α
  | [], _ => none
  | (i, a) :: r, k => bif i.beq k then some a else lk r k

def blkOf : Value → Option Nat
  | .slice (some a) _ _ => some a.block
  | .pointer (some a) => some a.block
  | .map (some r) => some r
  | _ => none

inductive RD (C : Addr → Value → Prop) : D → Value → Prop
  | lit (v : Value) : RD C (.lit v) v
  | lst (l : List (List D)) (A : Option Addr) (c sz : Nat) (cv : Nat → Nat → Value) (hc : l.length ≤ c) (hm : c ≤ maxLen) (hsz : ∀ row ∈ l, row.length = sz)
      (hA : ∀ j row, l[j]? = some row → ∀ k x, row[k]? = some x → ∃ ad, A = some ad ∧ C (ad.add (j * sz + k)) (cv j k))
      (hO : ∀ j row, l[j]? = some row → ∀ k x, row[k]? = some x → (cv j k).oneCell' = true)
      (hR : ∀ j row, l[j]? = some row → ∀ k x, row[k]? = some x → RD C x (cv j k)) : RD C (.lst l) (.slice A l.length c)

theorem RD.mono {C C' : Addr → Value → Prop} (h : ∀ a v, C a v → C' a v) {x : D} {v : Value} (r : RD C x v) : RD C' x v := by
  induction r with
  | lit v => exact .lit v
  | lst l A c sz cv hc hm hsz hA hO _ ih =>
    exact .lst l A c sz cv hc hm hsz (fun j row hj k x hk => by obtain ⟨ad, e, hh⟩ := hA j row hj k x hk; exact ⟨ad, e, h _ _ hh⟩) hO ih

inductive RV (C : Addr → Value → Prop) (m : Nat → Value) (U : Nat → Prop) : V → Value → Prop
  | d {x : D} {v : Value} (h : RD C x v) : RV C m U (.d x) v
  | own (t : Nat) (h : U t) (ho : (m t).oneCell' = true) : RV C m U (.own t) (m t)
  | ptr (t off b : Nat) (h : U t) (hm : m t = .pointer (some ⟨b, 0, none⟩)) : RV C m U (.ptr t off) (.pointer (some ⟨b, off, none⟩))
  | ept (t sz j k b n c : Nat) (h : U t) (hm : m t = .slice (some ⟨b, 0, none⟩) n c) : RV C m U (.ept t sz j k) (.pointer (some ⟨b, j * sz + k, none⟩))
  | ip (cs : List D) (ad : Addr) (cv : Nat → Value) (h : ∀ k x, cs[k]? = some x → C (ad.add k) (cv k)) (hO : ∀ k x, cs[k]? = some x → (cv k).oneCell' = true) (hR : ∀ k x, cs[k]? = some x → RD C x (cv k)) : RV C m U (.ip cs) (.pointer (some ad))
  | agg (cs : List V) (vs : Array Value) (hl : cs.length = vs.size) (hO : ∀ (k : Nat) (u : Value), vs[k]? = some u → u.oneCell' = true) (h : ∀ (k : Nat) (x : V) (u : Value), cs[k]? = some x → vs[k]? = some u → RV C m U x u) : RV C m U (.agg cs) (.agg vs)
  | tup (cs : List V) (vs : Array Value) (hl : cs.length = vs.size) (h : ∀ (k : Nat) (x : V) (u : Value), cs[k]? = some x → vs[k]? = some u → RV C m U x u) : RV C m U (.tup cs) (.tuple vs)
  | fn (f : Nat) (cs : List V) (vs : Array Value) (hl : cs.length = vs.size) (h : ∀ (k : Nat) (x : V) (u : Value), cs[k]? = some x → vs[k]? = some u → RV C m U x u) : RV C m U (.fn f cs) (.func (.func f) #[] vs)
  | when (b : Bool) (x : V) (v : Value) (ht : b = true → RV C m U x v) (hf : b = false → v = undef) : RV C m U (.when b x) v
  | any (v : Value) : RV C m U .any v

theorem RV.mono {C C' : Addr → Value → Prop} {m m' : Nat → Value} {U U' : Nat → Prop} (h : ∀ a v, C a v → C' a v) (hm : ∀ t, U t → m' t = m t) (hN : ∀ t, U t → U' t) {x : V} {v : Value} (r : RV C m U x v) : RV C' m' U' x v := by
  induction r with
  | d hx => exact .d (hx.mono h)
  | own t ht ho => rw [← hm t ht]; exact .own t (hN t ht) (by rw [hm t ht]; exact ho)
  | ptr t off b ht he => exact .ptr t off b (hN t ht) ((hm t ht).trans he)
  | ept t sz j k b n c ht he => exact .ept t sz j k b n c (hN t ht) ((hm t ht).trans he)
  | ip cs ad cv h1 hO hR => exact .ip cs ad cv (fun k x hk => h _ _ (h1 k x hk)) hO (fun k x hk => (hR k x hk).mono h)
  | agg cs vs hl hO _ ih => exact .agg cs vs hl hO ih
  | tup cs vs hl _ ih => exact .tup cs vs hl ih
  | fn f cs vs hl _ ih => exact .fn f cs vs hl ih
  | when b x v _ hf ih => exact .when b x v ih hf
  | any v => exact .any v

/-- So many package-level variables there are: the first blocks are theirs. -/
def low : Nat := 6
/-- The cells that nobody here may write: what they hold stays. F: blocks that are another one's (the package-level variables' too: these may be read). -/
structure Cw (F : Nat → Prop) (hp : List (Nat × Blk)) (m : Nat → Value) (w : World) (a : Addr) (v : Value) : Prop where
  cell : w.cell? a = some v
  notF : F a.block → a.block < low
  far : ∀ t b, lk hp t = some b → blkOf (m t) ≠ some a.block

def HB (C : Addr → Value → Prop) (m : Nat → Value) (U : Nat → Prop) (w : World) (t : Nat) : Blk → Prop
  | .var ty cs => ∃ g, ∃ arr : Array Value, m t = .pointer (some ⟨g, 0, none⟩) ∧ w.heap[g]? = some (.cells arr ty (0, 0)) ∧ arr.size = cs.length ∧
      (∀ (k : Nat) (u : Value), arr[k]? = some u → u.oneCell' = true) ∧ ∀ (k : Nat) (x : V) (u : Value), cs[k]? = some x → arr[k]? = some u → RV C m U x u
  | .row e sz l => ∃ xs : List Value, w.ownsRow 0 e sz (m t) l.length xs ∧ (∀ row ∈ l, row.length = sz) ∧ (∀ u : Value, u ∈ xs → u.oneCell' = true) ∧
      ∀ (j : Nat) (row : List D), l[j]? = some row → ∀ (k : Nat) (x : D), row[k]? = some x → ∃ u, xs[j * sz + k]? = some u ∧ RD C x u
  | .dead => False
  | .inv I => ∃ g, blkOf (m t) = some g ∧ g < w.heap.size ∧ I (m t) w.heap[g]?

theorem HB.mono {C C' : Addr → Value → Prop} {m m' : Nat → Value} {U U' : Nat → Prop} {w w' : World} {t : Nat} {b : Blk} (h : ∀ a v, C a v → C' a v) (hm : ∀ t, U t → m' t = m t) (hN : ∀ t, U t → U' t) (ht : U t)
    (hw : ∀ g, blkOf (m t) = some g → w'.heap[g]? = w.heap[g]?) (hb : HB C m U w t b) : HB C' m' U' w' t b := by
  cases b with
  | var ty cs =>
    obtain ⟨g, arr, e, hg, hs, hO, hr⟩ := hb
    exact ⟨g, arr, (hm t ht).trans e, (hw g (by rw [e]; rfl)).trans hg, hs, hO, fun k x u hx hu => (hr k x u hx hu).mono h hm hN⟩
  | row e sz l =>
    obtain ⟨xs, ho, hsz, hO, hr⟩ := hb
    refine ⟨xs, ?_, hsz, hO, fun j row hj k x hk => ?_⟩
    · rw [hm t ht]
      refine ⟨ho.1, ?_⟩
      rcases ho.2 with h1 | ⟨g, cap, cur, e1, h2, h3, h4⟩
      · exact .inl h1
      · exact .inr ⟨g, cap, cur, e1, h2, (hw g (by rw [e1]; rfl)).trans h3, h4⟩
    · obtain ⟨u, hu, hd⟩ := hr j row hj k x hk
      exact ⟨u, hu, hd.mono h⟩
  | dead => exact hb.elim
  | inv I =>
    obtain ⟨g, hg, hl, hI⟩ := hb
    have e := hw g hg
    refine ⟨g, by rw [hm t ht]; exact hg, ?_, by rw [hm t ht, e]; exact hI⟩
    rcases Nat.lt_or_ge g w'.heap.size with h9 | h9
    · exact h9
    · rw [Array.getElem?_eq_none h9] at e
      rw [Array.getElem?_eq_getElem hl] at e; cases e

/-- What a call is: the world in which it began, the blocks that were handed over to be written (tokens below n0), its frame's size. -/
structure Ctx where
  w0 : World
  n0 : Nat
  m0 : Nat → Value
  nt : Nat
  F : Nat → Prop

structure Keeps (Γ : Ctx) (w : World) : Prop where
  os : w.os = Γ.w0.os
  tape : w.tape = Γ.w0.tape
  output : w.output = Γ.w0.output
  size : Γ.w0.heap.size ≤ w.heap.size
  block : ∀ g, g < Γ.w0.heap.size → (∀ t, t < Γ.n0 → blkOf (Γ.m0 t) ≠ some g) → w.heap[g]? = Γ.w0.heap[g]?

/-- The memory's part. U: the tokens that have been given. -/
structure RelH (Γ : Ctx) (hp : List (Nat × Blk)) (U : Nat → Prop) (w : World) (m : Nat → Value) : Prop where
  hb : ∀ t b, lk hp t = some b → HB (Cw Γ.F hp m w) m U w t b
  sep : ∀ t t' b b' g, lk hp t = some b → lk hp t' = some b' → blkOf (m t) = some g → blkOf (m t') = some g → t = t'
  lt : ∀ t b, lk hp t = some b → U t
  new : ∀ t b g, lk hp t = some b → blkOf (m t) = some g → Γ.n0 ≤ t → Γ.w0.heap.size ≤ g ∨ ∃ t0, t0 < Γ.n0 ∧ blkOf (Γ.m0 t0) = some g ∧ lk hp t0 = none
  old : ∀ t, t < Γ.n0 → m t = Γ.m0 t
  n0 : ∀ t, t < Γ.n0 → U t
  nF : ∀ t b g, lk hp t = some b → blkOf (m t) = some g → ¬ Γ.F g
  hF : ∀ g, Γ.F g → g < Γ.w0.heap.size ∧ ∀ t, t < Γ.n0 → blkOf (Γ.m0 t) ≠ some g
  keeps : Keeps Γ w

structure Rel (Γ : Ctx) (fr : List (Nat × V)) (hp : List (Nat × Blk)) (U : Nat → Prop) (a : Act) (w : World) (m : Nat → Value) : Prop where
  nt : a.tmps.size = Γ.nt
  fr : ∀ i v, lk fr i = some v → ∃ u, a.tmps[i]? = some u ∧ RV (Cw Γ.F hp m w) m U v u
  mem : RelH Γ hp U w m

theorem lk_cons_self {α : Type} (i : Nat) (a : α) (r : List (Nat × α)) : lk ((i, a) :: r) i = some a := by simp [lk]
theorem lk_cons_ne {α : Type} {i k : Nat} (a : α) (r : List (Nat × α)) (h : i ≠ k) : lk ((i, a) :: r) k = lk r k := by
  have : i.beq k = false := by
    cases hb : i.beq k with
    | false => rfl
    | true => exact absurd (Nat.eq_of_beq_eq_true hb) h
  simp [lk, this]
theorem lk_cons {α : Type} (i k : Nat) (a : α) (r : List (Nat × α)) : lk ((i, a) :: r) k = if i = k then some a else lk r k := by
  by_cases h : i = k
  · subst h; rw [lk_cons_self, if_pos rfl]
  · rw [lk_cons_ne _ _ h, if_neg h]

end Go.Abs

set_option linter.unusedVariables false
set_option linter.unusedSimpArgs false
namespace Go.Abs
open Go Go.RowKit

def del {α : Type} : List (Nat × α) → Nat → List (Nat × α)
  | [], _ => []
  | (i, a) :: r, k => bif i.beq k then del r k else (i, a) :: del r k

def sto {α : Type} : List (Nat × α) → Nat → α → List (Nat × α)
  | [], k, a => [(k, a)]
  | (i, b) :: r, k, a => bif i.beq k then (k, a) :: r else (i, b) :: sto r k a

theorem beq_false {i k : Nat} (h : i ≠ k) : i.beq k = false := by
  cases hb : i.beq k with
  | false => rfl
  | true => exact absurd (Nat.eq_of_beq_eq_true hb) h
theorem beq_self (i : Nat) : i.beq i = true := Nat.beq_refl i

theorem lk_del {α : Type} (l : List (Nat × α)) (k i : Nat) : lk (del l k) i = if i = k then none else lk l i := by
  induction l with
  | nil => simp [del, lk]
  | cons p r ih =>
    obtain ⟨j, a⟩ := p
    by_cases hj : j = k
    · subst hj
      simp only [del, beq_self, cond_true, ih]
      by_cases hi : i = j
      · simp [hi]
      · rw [if_neg hi, if_neg hi, lk_cons_ne _ _ (fun h => hi h.symm)]
    · simp only [del, beq_false hj, cond_false, lk_cons, ih]
      by_cases hji : j = i
      · subst hji; simp [hj]
      · simp [hji]

theorem lk_sto {α : Type} (l : List (Nat × α)) (k : Nat) (a : α) (i : Nat) : lk (sto l k a) i = if i = k then some a else lk l i := by
  induction l with
  | nil =>
    simp only [sto, lk_cons]
    by_cases h : i = k
    · subst h; simp
    · rw [if_neg (fun e => h e.symm), if_neg h]
  | cons p r ih =>
    obtain ⟨j, b⟩ := p
    by_cases hj : j = k
    · subst hj
      simp only [sto, beq_self, cond_true, lk_cons]
      by_cases hi : i = j
      · subst hi; simp
      · rw [if_neg (fun e => hi e.symm), if_neg hi, if_neg (fun e => hi e.symm)]
    · simp only [sto, beq_false hj, cond_false, lk_cons, ih]
      by_cases hji : j = i
      · subst hji; simp [hj]
      · simp [hji]

section
variable {Γ : Ctx} {fr : List (Nat × V)} {a : Act} {w w' : World} {m m' : Nat → Value} {hp hp' : List (Nat × Blk)} {U U' : Nat → Prop}

theorem Rel.put (h : Rel Γ fr hp U a w m) {d : Nat} (hd : d < Γ.nt) {x : V} {u : Value} (hx : RV (Cw Γ.F hp m w) m U x u) : Rel Γ ((d, x) :: fr) hp U (a.put (some d) u) w m where
  nt := by simp [Act.put, h.nt]
  fr := by
    intro i v hi
    rw [lk_cons] at hi
    by_cases hdi : d = i
    · subst hdi
      rw [if_pos rfl] at hi
      obtain rfl := Option.some.inj hi
      exact ⟨u, by simp [Act.put, h.nt, hd], hx⟩
    · rw [if_neg hdi] at hi
      obtain ⟨u', hu, hr⟩ := h.fr i v hi
      exact ⟨u', by simp [Act.put, Array.getElem?_setIfInBounds_ne hdi, hu], hr⟩
  mem := h.mem

theorem Rel.turn (h : Rel Γ fr hp U a w m) (hC : ∀ p v, Cw Γ.F hp m w p v → Cw Γ.F hp' m' w' p v) (hm : ∀ t, U t → m' t = m t) (hN : ∀ t, U t → U' t) (H : RelH Γ hp' U' w' m') :
    Rel Γ fr hp' U' a w' m' where
  nt := h.nt
  fr := fun i v hi => by obtain ⟨u, hu, hr⟩ := h.fr i v hi; exact ⟨u, hu, hr.mono hC hm hN⟩
  mem := H

theorem Cw.lt {F : Nat → Prop} {p : Addr} {v : Value} (h : Cw F hp m w p v) : p.block < w.heap.size := World.block_lt_of_cell? w p h.cell

/-- A token's block lies in the heap. -/
theorem HB.lt {C : Addr → Value → Prop} {t : Nat} {b : Blk} (h : HB C m U w t b) {g : Nat} (hg : blkOf (m t) = some g) : g < w.heap.size := by
  cases b with
  | var ty cs =>
    obtain ⟨g', arr, e, hh, _⟩ := h
    rw [e] at hg
    simp only [blkOf, Option.some.injEq] at hg
    subst hg
    exact (Array.getElem?_eq_some_iff.1 hh).1
  | row e sz l =>
    obtain ⟨xs, ho, _⟩ := h
    rcases ho.2 with ⟨e1, _⟩ | ⟨g', cap, cur, e1, _, hh, _⟩
    · rw [e1] at hg; simp [blkOf] at hg
    · rw [e1] at hg
      simp only [blkOf, Option.some.injEq] at hg
      subst hg
      exact (Array.getElem?_eq_some_iff.1 hh).1
  | dead => exact h.elim
  | inv I =>
    obtain ⟨g', hg', hl, _⟩ := h
    rw [hg] at hg'
    obtain rfl := Option.some.inj hg'
    exact hl

theorem Keeps.grown (h : Keeps Γ w) (hg : ∀ g, g < w.heap.size → w'.heap[g]? = w.heap[g]?) (hs : w.heap.size ≤ w'.heap.size) (ho : w'.os = w.os) (ht : w'.tape = w.tape) (hu : w'.output = w.output) : Keeps Γ w' :=
  ⟨ho.trans h.os, ht.trans h.tape, hu.trans h.output, Nat.le_trans h.size hs, fun g hlt hn => (hg g (Nat.lt_of_lt_of_le hlt h.size)).trans (h.block g hlt hn)⟩

/-- Some blocks are no longer looked at. -/
theorem RelH.less (h : RelH Γ hp U w m) (hl : ∀ t b, lk hp' t = some b → lk hp t = some b) : RelH Γ hp' U w m where
  hb := fun t b hb => (h.hb t b (hl t b hb)).mono (fun p v hc => ⟨hc.cell, hc.notF, fun t' b' hb' => hc.far t' b' (hl t' b' hb')⟩) (fun _ _ => rfl) (fun _ h => h) (h.lt t b (hl t b hb)) (fun _ _ => rfl)
  sep := fun t t' b b' g h1 h2 => h.sep t t' b b' g (hl _ _ h1) (hl _ _ h2)
  lt := fun t b h1 => h.lt t b (hl _ _ h1)
  new := fun t b g h1 e hn => (h.new t b g (hl _ _ h1) e hn).imp id fun ⟨t0, i1, i2, i3⟩ => ⟨t0, i1, i2, by
    cases h0 : lk hp' t0 with
    | none => rfl
    | some b0 => rw [hl _ _ h0] at i3; cases i3⟩
  old := h.old
  n0 := h.n0
  nF := fun t b g h1 => h.nF t b g (hl _ _ h1)
  hF := h.hF
  keeps := h.keeps

theorem Cw.less {F : Nat → Prop} (hl : ∀ t b, lk hp' t = some b → lk hp t = some b) {p : Addr} {v : Value} (h : Cw F hp m w p v) : Cw F hp' m w p v := ⟨h.cell, h.notF, fun t b hb => h.far t b (hl t b hb)⟩

theorem Rel.less (h : Rel Γ fr hp U a w m) (hl : ∀ t b, lk hp' t = some b → lk hp t = some b) : Rel Γ fr hp' U a w m :=
  h.turn (fun p v => Cw.less hl) (fun _ _ => rfl) (fun _ h => h) (h.mem.less hl)

/-- Only the count of draws has turned. -/
theorem RelH.same_heap (h : RelH Γ hp U w m) (hh : w'.heap = w.heap) (ho : w'.os = w.os) (ht : w'.tape = w.tape) (hu : w'.output = w.output) : RelH Γ hp U w' m := by
  have hc : ∀ p, w'.cell? p = w.cell? p := fun p => by simp [World.cell?, hh]
  refine ⟨fun t b hb => (h.hb t b hb).mono (fun p v hcw => ⟨(hc p).trans hcw.cell, hcw.notF, hcw.far⟩) (fun _ _ => rfl) (fun _ h => h) (h.lt t b hb) (fun g _ => by rw [hh]), h.sep, h.lt, h.new, h.old, h.n0, h.nF, h.hF, h.keeps.grown (fun g _ => by rw [hh]) (by rw [hh]; exact Nat.le_refl _) ho ht hu⟩

theorem Rel.same_heap (h : Rel Γ fr hp U a w m) (hh : w'.heap = w.heap) (ho : w'.os = w.os) (ht : w'.tape = w.tape) (hu : w'.output = w.output) : Rel Γ fr hp U a w' m := by
  have hc : ∀ p, w'.cell? p = w.cell? p := fun p => by simp [World.cell?, hh]
  exact h.turn (fun p v hcw => ⟨(hc p).trans hcw.cell, hcw.notF, hcw.far⟩) (fun _ _ => rfl) (fun _ h => h) (h.mem.same_heap hh ho ht hu)

theorem Rel.drew (h : Rel Γ fr hp U a w m) : Rel Γ fr hp U a w.drew m := h.same_heap rfl rfl rfl rfl

/-- Fewer temporaries are known; more tokens count as given. -/
theorem Rel.forget (h : Rel Γ fr hp U a w m) {fr' : List (Nat × V)} (hl : ∀ i v, lk fr' i = some v → lk fr i = some v) : Rel Γ fr' hp U a w m := ⟨h.nt, fun i v hi => h.fr i v (hl i v hi), h.mem⟩
theorem RelH.given (h : RelH Γ hp U w m) (hU : ∀ t, U t → U' t) : RelH Γ hp U' w m :=
  ⟨fun t b hb => (h.hb t b hb).mono (fun _ _ h => h) (fun _ _ => rfl) hU (h.lt t b hb) (fun _ _ => rfl), h.sep, fun t b hb => hU _ (h.lt t b hb), h.new, h.old, fun t ht => hU _ (h.n0 t ht), h.nF, h.hF, h.keeps⟩
theorem Rel.given (h : Rel Γ fr hp U a w m) (hU : ∀ t, U t → U' t) : Rel Γ fr hp U' a w m := h.turn (fun _ _ h => h) (fun _ _ => rfl) hU (h.mem.given hU)

/-- m with a value for a new token. -/
def upm (m : Nat → Value) (t : Nat) (v : Value) : Nat → Value := fun i => if i = t then v else m i
theorem upm_self (m : Nat → Value) (t : Nat) (v : Value) : upm m t v t = v := by simp [upm]
theorem upm_ne (m : Nat → Value) {t i : Nat} (v : Value) (h : i ≠ t) : upm m t v i = m i := by simp [upm, h]
theorem upm_lt (m : Nat → Value) {t : Nat} (v : Value) (ht : ¬ U t) : ∀ i, U i → upm m t v i = m i := fun i h => upm_ne m v (fun e => ht (e ▸ h))
def also (U : Nat → Prop) (t : Nat) : Nat → Prop := fun i => U i ∨ i = t

/-- The memory goes from w to w' where all old blocks stay; one token more, for a new block. -/
theorem Cw.more {tk : Nat} {v : Value} {b : Blk} (H : RelH Γ hp U w m) (htk : ¬ U tk) (hnew : ∀ g, blkOf v = some g → w.heap.size ≤ g) (hg : ∀ g, g < w.heap.size → w'.heap[g]? = w.heap[g]?)
    (p : Addr) (u : Value) (h : Cw Γ.F hp m w p u) : Cw Γ.F ((tk, b) :: hp) (upm m tk v) w' p u := by
  have hlt := h.lt
  refine ⟨(World.cell?_of_block (hg _ hlt)).trans h.cell, h.notF, fun t b' hb => ?_⟩
  rw [lk_cons] at hb
  by_cases ht : tk = t
  · subst ht
    rw [upm_self]
    intro e
    have := hnew _ e
    omega
  · rw [if_neg ht] at hb
    rw [upm_ne _ _ (fun e => ht e.symm)]
    exact h.far t b' hb

theorem RelH.more {tk : Nat} {v : Value} {b : Blk} (H : RelH Γ hp U w m) (htk : ¬ U tk) (hnew : ∀ g, blkOf v = some g → w.heap.size ≤ g) (hg : ∀ g, g < w.heap.size → w'.heap[g]? = w.heap[g]?)
    (hs : w.heap.size ≤ w'.heap.size) (ho : w'.os = w.os) (ht : w'.tape = w.tape) (hu : w'.output = w.output) (hB : HB (Cw Γ.F ((tk, b) :: hp) (upm m tk v) w') (upm m tk v) (also U tk) w' tk b) : RelH Γ ((tk, b) :: hp) (also U tk) w' (upm m tk v) where
  hb := fun t b' hb => by
    rw [lk_cons] at hb
    by_cases htt : tk = t
    · subst htt
      rw [if_pos rfl] at hb
      obtain rfl := Option.some.inj hb
      exact hB
    · rw [if_neg htt] at hb
      have hlt := H.lt t b' hb
      exact (H.hb t b' hb).mono (fun p u => Cw.more H htk hnew hg p u) (upm_lt m v htk) (fun _ h => .inl h) hlt (fun g hgg => hg g ((H.hb t b' hb).lt hgg))
  sep := fun t t' b1 b2 g h1 h2 e1 e2 => by
    rw [lk_cons] at h1 h2
    by_cases c1 : tk = t <;> by_cases c2 : tk = t'
    · omega
    · subst c1
      rw [if_neg c2] at h2
      rw [upm_self] at e1
      rw [upm_ne _ _ (fun e => c2 e.symm)] at e2
      have := hnew _ e1
      have := (H.hb t' b2 h2).lt e2
      omega
    · subst c2
      rw [if_neg c1] at h1
      rw [upm_self] at e2
      rw [upm_ne _ _ (fun e => c1 e.symm)] at e1
      have := hnew _ e2
      have := (H.hb t b1 h1).lt e1
      omega
    · rw [if_neg c1] at h1
      rw [if_neg c2] at h2
      rw [upm_ne _ _ (fun e => c1 e.symm)] at e1
      rw [upm_ne _ _ (fun e => c2 e.symm)] at e2
      exact H.sep t t' b1 b2 g h1 h2 e1 e2
  lt := fun t b1 h1 => by
    rw [lk_cons] at h1
    by_cases c1 : tk = t
    · exact .inr c1.symm
    · rw [if_neg c1] at h1
      exact .inl (H.lt t b1 h1)
  new := fun t b1 g h1 e1 hn => by
    rw [lk_cons] at h1
    by_cases c1 : tk = t
    · subst c1
      rw [upm_self] at e1
      have := hnew _ e1
      have := H.keeps.size
      exact .inl (by omega)
    · rw [if_neg c1] at h1
      rw [upm_ne _ _ (fun e => c1 e.symm)] at e1
      exact (H.new t b1 g h1 e1 hn).imp id fun ⟨t0, i1, i2, i3⟩ => ⟨t0, i1, i2, by rw [lk_cons_ne _ _ (by intro e; subst e; exact htk (H.n0 _ i1))]; exact i3⟩
  old := fun t ht => by rw [upm_ne _ _ (by intro e; subst e; exact htk (H.n0 _ ht))]; exact H.old t ht
  n0 := fun t ht => .inl (H.n0 t ht)
  nF := fun t b1 g h1 e1 hf => by
    rw [lk_cons] at h1
    by_cases c1 : tk = t
    · subst c1
      rw [upm_self] at e1
      have := hnew _ e1
      have := H.keeps.size
      have := (H.hF _ hf).1
      omega
    · rw [if_neg c1] at h1
      rw [upm_ne _ _ (fun e => c1 e.symm)] at e1
      exact H.nF t b1 g h1 e1 hf
  hF := H.hF
  keeps := H.keeps.grown hg hs ho ht hu

/-- A new variable. -/
theorem Rel.newVar (h : Rel Γ fr hp U a w m) {tk : Nat} (htk : ¬ U tk) {ty : TypeId} {cs : List V} {arr : Array Value} (hl : arr.size = cs.length) (hO : ∀ (k : Nat) (u : Value), arr[k]? = some u → u.oneCell' = true)
    (hR : ∀ (k : Nat) (x : V) (u : Value), cs[k]? = some x → arr[k]? = some u → RV (Cw Γ.F hp m w) m U x u) :
    ∃ m', Rel Γ fr ((tk, .var ty cs) :: hp) (also U tk) a (w.alloc (.cells arr ty)) m' ∧ m' tk = .pointer (some ⟨w.heap.size, 0, none⟩) := by
  have hg : ∀ g, g < w.heap.size → (w.alloc (.cells arr ty)).heap[g]? = w.heap[g]? := fun g hlt => Below.heap_alloc w _ g hlt
  have hnew : ∀ g, blkOf (.pointer (some ⟨w.heap.size, 0, none⟩)) = some g → w.heap.size ≤ g := fun g e => by simp only [blkOf, Option.some.injEq] at e; omega
  refine ⟨upm m tk (.pointer (some ⟨w.heap.size, 0, none⟩)), h.turn (fun p u => Cw.more h.mem htk hnew hg p u) (upm_lt m _ htk) (fun _ h => .inl h) (h.mem.more htk hnew hg (by simp) rfl rfl rfl ?_), upm_self _ _ _⟩
  exact ⟨w.heap.size, arr, upm_self _ _ _, heap_alloc_new w _, hl, hO, fun k x u hx hu => (hR k x u hx hu).mono (fun p u => Cw.more h.mem htk hnew hg p u) (upm_lt m _ htk) (fun _ h => .inl h)⟩

end
end Go.Abs

set_option linter.unusedVariables false
set_option linter.unusedSimpArgs false
namespace Go.Abs
open Go Go.RowKit

/-! ### types -/
def sizeT (P : Program) (t : TypeId) : Option Nat := (P.info? t).map (·.size)
def bytesT (P : Program) (t : TypeId) : Nat := ((P.info? t).map (·.bytes)).getD 0
def aggT (P : Program) (t : TypeId) : Option Bool := match P.underlying t with | some (.struct _) | some (.array _ _) => some true | some _ => some false | none => none
def fldT (P : Program) (s f : Nat) : Option (Nat × Nat × Nat) :=
  match P.underlying s with
  | some (.struct fs) => (fs[f]?).bind fun x => (sizeT P x.type).map fun n => (x.offset, n, x.type)
  | _ => none
def elemT (P : Program) (t : TypeId) : Option Nat := match P.underlying t with | some (.slice e) => some e | _ => none
def strT (P : Program) (t : TypeId) : Bool := match P.underlying t with | some .string => true | _ => false
def intT (P : Program) (t : TypeId) : Option IntKind := match P.underlying t with | some (.int k) => some k | _ => none
def zeroT (P : Program) (t : TypeId) : Option (List Value) := ((P.info? t).bind (·.zero)).map (·.cells.toList)

/-- A struct's fields: where each begins, and how many cells it has. -/
def stT (P : Program) (t : TypeId) : Option (List (Nat × Nat)) :=
  match P.underlying t with
  | some (.struct fs) => fs.toList.mapM fun f => (P.info? f.type).map fun i => (f.offset, i.size)
  | _ => none
/-- A type of which rows may be: its cells and bytes. -/
def rowT (P : Program) (e : TypeId) : Option (Nat × Nat) :=
  match P.info? e with
  | some i => match i.zero with
    | some z => if z.cells.size = i.size ∧ 0 < i.size ∧ 0 < i.bytes then some (i.size, i.bytes) else none
    | none => none
  | none => none

/-! ### values -/
def one : V → Bool
  | .d (.lit v) => v.oneCell'
  | .d (.lst _) => true
  | .own _ | .ptr _ _ | .ept _ _ _ _ | .ip _ | .fn _ _ => true
  | _ => false
/-- A value's cells. -/
def cellsV : V → List V
  | .agg cs => cs
  | .d x => [.d x]
  | .own t => [.own t]
  | .ptr t o => [.ptr t o]
  | .ept t sz j k => [.ept t sz j k]
  | .ip cs => [.ip cs]
  | .tup cs => [.tup cs]
  | .fn f cs => [.fn f cs]
  | .when b v => [.when b v]
  | .any => [.any]
def nilV : V := .d (.lit (.slice none 0 0))
def dat (x : D) : V := .d x
def dint (k : IntKind) (n : Int) : V := .d (.lit (.int k n))
def dbool (b : Bool) : V := .d (.lit (.bool b))
def dstr (s : ByteArray) : V := .d (.lit (.string s))

/-- A cell as data; rows are read off the memory (and are not written from then on). -/
def toD (hp : List (Nat × Blk)) : V → Option D
  | .d (.lit v) => bif v.oneCell' then some (.lit v) else none
  | .d (.lst l) => some (.lst l)
  | .own t => match lk hp t with | some (.row _ _ l) => some (.lst l) | _ => none
  | _ => none
def toDs (hp : List (Nat × Blk)) : List V → Option (List D)
  | [] => some []
  | v :: r => match toD hp v, toDs hp r with | some x, some y => some (x :: y) | _, _ => none
/-- The rows among cells: they are given up. -/
def ownsOf : List V → List Nat
  | [] => []
  | .own t :: r => t :: ownsOf r
  | _ :: r => ownsOf r
def delAll (hp : List (Nat × Blk)) : List Nat → List (Nat × Blk)
  | [] => hp
  | t :: r => delAll (del hp t) r

/-- Cells from a place on, as many: a value of a type. -/
def nth {α : Type} : List α → Nat → Option α
  | [], _ => none
  | a :: _, 0 => some a
  | _ :: r, k + 1 => nth r k
def cut {α : Type} : List α → Nat → Nat → List α
  | [], _, _ => []
  | _ :: _, 0, 0 => []
  | a :: r, 0, n + 1 => a :: cut r 0 n
  | _ :: r, k + 1, n => cut r k n
def ins {α : Type} : List α → Nat → List α → List α
  | l, _, [] => l
  | [], _, _ => []
  | _ :: r, 0, b :: bs => b :: ins r 0 bs
  | a :: r, k + 1, bs => a :: ins r k bs

/-- What an operation does. -/
structure R where
  v : V
  gone : List Nat
  new : Option Blk
  set : Option (Nat × Blk)
  p : Prop

def pureR (v : V) (p : Prop) : Option R := some ⟨v, [], none, none, p⟩

def inI64 (n : Int) : Prop := -9223372036854775808 ≤ n ∧ n ≤ 9223372036854775807

/-- + - * : signed kinds must not overflow; unsigned ones wrap. -/
def arith (k : IntKind) (n : Int) : Int × Prop :=
  match k with
  | .i64 => (n, inI64 n)
  | .u64 => (n % 18446744073709551616, True)
  | .u32 => (n % 4294967296, True)
  | .u16 => (n % 65536, True)
  | .u8 => (n % 256, True)
  | .i32 => (n, -2147483648 ≤ n ∧ n ≤ 2147483647)
  | .i16 => (n, -32768 ≤ n ∧ n ≤ 32767)
  | .i8 => (n, -128 ≤ n ∧ n ≤ 127)

def intR (k : IntKind) (q : Int × Prop) : Option R := pureR (.d (.lit (.int k q.1))) q.2

def binI (op : BinOp) (k : IntKind) (a b : Int) : Option R :=
  match op with
  | .add => intR k (arith k (a + b))
  | .sub => intR k (arith k (a - b))
  | .mul => intR k (arith k (a * b))
  | .quo => pureR (.d (.lit (.int k (arith k (a / b)).1))) (0 ≤ a ∧ 0 < b ∧ (arith k (a / b)).2)
  | .rem => pureR (.d (.lit (.int k (a % b)))) (0 ≤ a ∧ 0 < b)
  | .eql => pureR (.d (.lit (.bool (decide (a = b))))) True
  | .neq => pureR (.d (.lit (.bool (decide (a ≠ b))))) True
  | .lss => pureR (.d (.lit (.bool (decide (a < b))))) True
  | .leq => pureR (.d (.lit (.bool (decide (a ≤ b))))) True
  | .gtr => pureR (.d (.lit (.bool (decide (b < a))))) True
  | .geq => pureR (.d (.lit (.bool (decide (b ≤ a))))) True
  | _ => none

def binS (op : BinOp) (a b : ByteArray) : Option R :=
  match op with
  | .add => pureR (.d (.lit (.string (a ++ b)))) (a.size + b.size ≤ 9223372036854775807)
  | .eql => pureR (.d (.lit (.bool (decide (a = b))))) True
  | .neq => pureR (.d (.lit (.bool (decide (a ≠ b))))) True
  | _ => none

def binB (op : BinOp) (a b : Bool) : Option R :=
  match op with
  | .eql => pureR (.d (.lit (.bool (a == b)))) True
  | .neq => pureR (.d (.lit (.bool (a != b)))) True
  | _ => none

def boolT (P : Program) (t : TypeId) : Bool := match P.underlying t with | some .bool => true | _ => false
def binV (P : Program) (op : BinOp) (t : TypeId) (x y : V) : Option R :=
  match x, y with
  | .d (.lit (.int k a)), .d (.lit (.int k' b)) => if k = k' then binI op k a b else none
  | .d (.lit (.string a)), .d (.lit (.string b)) => binS op a b
  | .d (.lit (.bool a)), .d (.lit (.bool b)) => if boolT P t then binB op a b else none
  | _, _ => none

/-- The fields of a struct that '==' compares one by one: places and kinds. -/
def eqTs (P : Program) : List Field → Option (List (Nat × Nat))
  | [] => some []
  | f :: r => bif f.name == "_" then none else match P.underlying f.type, eqTs P r with
    | some (.int _), some l => some ((f.offset, 0) :: l)
    | some .string, some l => some ((f.offset, 1) :: l)
    | some .bool, some l => some ((f.offset, 2) :: l)
    | _, _ => none
def eqT (P : Program) (t : TypeId) : Option (List (Nat × Nat)) :=
  bif P.stoodInHeld t || P.eqGuardType P.depth t then none else match P.underlying t with | some (.struct fs) => eqTs P fs.toList | _ => none
def eqV : Nat → V → V → Option Bool
  | 0, .d (.lit (.int k a)), .d (.lit (.int k' b)) => if k = k' then some (decide (a = b)) else none
  | 1, .d (.lit (.string a)), .d (.lit (.string b)) => some (decide (a = b))
  | 2, .d (.lit (.bool a)), .d (.lit (.bool b)) => some (a == b)
  | _, _, _ => none
def eqFs (cs ds : List V) : List (Nat × Nat) → Option Bool
  | [] => some true
  | (o, k) :: r => match nth cs o, nth ds o with
    | some x, some y => match eqV k x y, eqFs cs ds r with | some a, some b => some (a && b) | _, _ => none
    | _, _ => none
/-- The element of a pointer's type, where it is not empty. -/
def ptrT (P : Program) (t : TypeId) : Bool := match P.underlying t with | some (.pointer e) => (match P.info? e with | some i => !(i.size == 0) | none => false) | _ => false
def cmpR (op : BinOp) (b : Bool) (p : Prop) : Option R := match op with
  | .eql => pureR (.d (.lit (.bool b))) p
  | .neq => pureR (.d (.lit (.bool (!b)))) p
  | _ => none
/-- Comparisons of other values: structs, slices with nil, pointers. -/
def binX (P : Program) (op : BinOp) (t : TypeId) (x y : V) : Option R :=
  match x, y with
  | .agg cs, .agg ds => match eqT P t with
    | some l => match eqFs cs ds l with | some b => cmpR op b True | none => none
    | none => none
  | .d (.lst l), .d (.lit (.slice none 0 0)) => match P.underlying t with | some (.slice _) => cmpR op false (0 < l.length ∧ 0 < (l.getD 0 []).length) | _ => none
  | .d (.lit (.slice none 0 0)), .d (.lit (.slice none 0 0)) => match P.underlying t with | some (.slice _) => cmpR op true True | _ => none
  | .ptr _ _, .d (.lit (.pointer none)) => bif ptrT P t then cmpR op false True else none
  | .d (.lit (.pointer none)), .d (.lit (.pointer none)) => bif ptrT P t then cmpR op true True else none
  | .ptr k o, .ptr k' o' => bif ptrT P t && k.beq k' && o.beq o' then cmpR op true True else none
  | _, _ => none

def unV (op : UnOp) (x : V) : Option R :=
  match op, x with
  | .not, .d (.lit (.bool b)) => pureR (.d (.lit (.bool (!b)))) True
  | .neg, .d (.lit (.int k n)) => intR k (arith k (-n))
  | _, _ => none

end Go.Abs
