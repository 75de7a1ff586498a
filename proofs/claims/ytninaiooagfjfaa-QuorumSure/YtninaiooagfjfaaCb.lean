/- How an abstract state goes on: a temporary is written, a block is made, a block is freed, a cell is written, the tape is asked. No conditions. -/
import Derived.Test.YtninaiooagfjfaaCa
set_option linter.unusedVariables false
set_option linter.unusedSimpArgs false
namespace Go.Abs
open Go Go.RowKit

def del {α : Type} : List (Nat × α) → Nat → List (Nat × α)
  | [], _ => []
  | (i, a) :: r, k => bif i.beq k then del r k else (i, a) :: del r k

def sto {α : Type} : List (Nat × α) → Nat → α → List (Nat × α)
  | [], k, a => [(k, a)]
  | (i, b) :: r, k, a => bif i.beq k then (k, a) :: r else (i, b) :: sto r k a

theorem beq_false {i k : Nat} (h : i ≠ k) : i.beq k = false := by
  cases hb : i.beq k with
  | false => rfl
  | true => exact absurd (Nat.eq_of_beq_eq_true hb) h
theorem beq_self (i : Nat) : i.beq i = true := Nat.beq_refl i

theorem lk_del {α : Type} (l : List (Nat × α)) (k i : Nat) : lk (del l k) i = if i = k then none else lk l i := by
  induction l with
  | nil => simp [del, lk]
  | cons p r ih =>
    obtain ⟨j, a⟩ := p
    by_cases hj : j = k
    · subst hj
      simp only [del, beq_self, cond_true, ih]
      by_cases hi : i = j
      · simp [hi]
      · rw [if_neg hi, if_neg hi, lk_cons_ne _ _ (fun h => hi h.symm)]
    · simp only [del, beq_false hj, cond_false, lk_cons, ih]
      by_cases hji : j = i
      · subst hji; simp [hj]
      · simp [hji]

theorem lk_sto {α : Type} (l : List (Nat × α)) (k : Nat) (a : α) (i : Nat) : lk (sto l k a) i = if i = k then some a else lk l i := by
  induction l with
  | nil =>
    simp only [sto, lk_cons]
    by_cases h : i = k
    · subst h; simp
    · rw [if_neg (fun e => h e.symm), if_neg h]
  | cons p r ih =>
    obtain ⟨j, b⟩ := p
    by_cases hj : j = k
    · subst hj
      simp only [sto, beq_self, cond_true, lk_cons]
      by_cases hi : i = j
      · subst hi; simp
      · rw [if_neg (fun e => hi e.symm), if_neg hi, if_neg (fun e => hi e.symm)]
    · simp only [sto, beq_false hj, cond_false, lk_cons, ih]
      by_cases hji : j = i
      · subst hji; simp [hj]
      · simp [hji]

section
variable {Γ : Ctx} {fr : List (Nat × V)} {a : Act} {w w' : World} {m m' : Nat → Value} {hp hp' : List (Nat × Blk)} {U U' : Nat → Prop}

theorem Rel.put (h : Rel Γ fr hp U a w m) {d : Nat} (hd : d < Γ.nt) {x : V} {u : Value} (hx : RV (Cw Γ.F hp m w) m U x u) : Rel Γ ((d, x) :: fr) hp U (a.put (some d) u) w m where
  nt := by simp [Act.put, h.nt]
  fr := by
    intro i v hi
    rw [lk_cons] at hi
    by_cases hdi : d = i
    · subst hdi
      rw [if_pos rfl] at hi
      obtain rfl := Option.some.inj hi
      exact ⟨u, by simp [Act.put, h.nt, hd], hx⟩
    · rw [if_neg hdi] at hi
      obtain ⟨u', hu, hr⟩ := h.fr i v hi
      exact ⟨u', by simp [Act.put, Array.getElem?_setIfInBounds_ne hdi, hu], hr⟩
  mem := h.mem

theorem Rel.turn (h : Rel Γ fr hp U a w m) (hC : ∀ p v, Cw Γ.F hp m w p v → Cw Γ.F hp' m' w' p v) (hm : ∀ t, U t → m' t = m t) (hN : ∀ t, U t → U' t) (H : RelH Γ hp' U' w' m') :
    Rel Γ fr hp' U' a w' m' where
  nt := h.nt
  fr := fun i v hi => by obtain ⟨u, hu, hr⟩ := h.fr i v hi; exact ⟨u, hu, hr.mono hC hm hN⟩
  mem := H

theorem Cw.lt {F : Nat → Prop} {p : Addr} {v : Value} (h : Cw F hp m w p v) : p.block < w.heap.size := World.block_lt_of_cell? w p h.cell

/-- A token's block lies in the heap. -/
theorem HB.lt {C : Addr → Value → Prop} {t : Nat} {b : Blk} (h : HB C m U w t b) {g : Nat} (hg : blkOf (m t) = some g) : g < w.heap.size := by
  cases b with
  | var ty cs =>
    obtain ⟨g', arr, e, hh, _⟩ := h
    rw [e] at hg
    simp only [blkOf, Option.some.injEq] at hg
    subst hg
    exact (Array.getElem?_eq_some_iff.1 hh).1
  | row e sz l =>
    obtain ⟨xs, ho, _⟩ := h
    rcases ho.2 with ⟨e1, _⟩ | ⟨g', cap, cur, e1, _, hh, _⟩
    · rw [e1] at hg; simp [blkOf] at hg
    · rw [e1] at hg
      simp only [blkOf, Option.some.injEq] at hg
      subst hg
      exact (Array.getElem?_eq_some_iff.1 hh).1

theorem Keeps.grown (h : Keeps Γ w) (hg : ∀ g, g < w.heap.size → w'.heap[g]? = w.heap[g]?) (hs : w.heap.size ≤ w'.heap.size) (ho : w'.os = w.os) (ht : w'.tape = w.tape) (hu : w'.output = w.output) : Keeps Γ w' :=
  ⟨ho.trans h.os, ht.trans h.tape, hu.trans h.output, Nat.le_trans h.size hs, fun g hlt hn => (hg g (Nat.lt_of_lt_of_le hlt h.size)).trans (h.block g hlt hn)⟩

/-- Some blocks are no longer looked at. -/
theorem RelH.less (h : RelH Γ hp U w m) (hl : ∀ t b, lk hp' t = some b → lk hp t = some b) : RelH Γ hp' U w m where
  hb := fun t b hb => (h.hb t b (hl t b hb)).mono (fun p v hc => ⟨hc.cell, hc.notF, fun t' b' hb' => hc.far t' b' (hl t' b' hb')⟩) (fun _ _ => rfl) (fun _ h => h) (h.lt t b (hl t b hb)) (fun _ _ => rfl)
  sep := fun t t' b b' g h1 h2 => h.sep t t' b b' g (hl _ _ h1) (hl _ _ h2)
  lt := fun t b h1 => h.lt t b (hl _ _ h1)
  new := fun t b g h1 => h.new t b g (hl _ _ h1)
  old := h.old
  n0 := h.n0
  nF := fun t b g h1 => h.nF t b g (hl _ _ h1)
  hF := h.hF
  keeps := h.keeps

theorem Cw.less {F : Nat → Prop} (hl : ∀ t b, lk hp' t = some b → lk hp t = some b) {p : Addr} {v : Value} (h : Cw F hp m w p v) : Cw F hp' m w p v := ⟨h.cell, h.notF, fun t b hb => h.far t b (hl t b hb)⟩

theorem Rel.less (h : Rel Γ fr hp U a w m) (hl : ∀ t b, lk hp' t = some b → lk hp t = some b) : Rel Γ fr hp' U a w m :=
  h.turn (fun p v => Cw.less hl) (fun _ _ => rfl) (fun _ h => h) (h.mem.less hl)

/-- Only the count of draws has turned. -/
theorem RelH.same_heap (h : RelH Γ hp U w m) (hh : w'.heap = w.heap) (ho : w'.os = w.os) (ht : w'.tape = w.tape) (hu : w'.output = w.output) : RelH Γ hp U w' m := by
  have hc : ∀ p, w'.cell? p = w.cell? p := fun p => by simp [World.cell?, hh]
  refine ⟨fun t b hb => (h.hb t b hb).mono (fun p v hcw => ⟨(hc p).trans hcw.cell, hcw.notF, hcw.far⟩) (fun _ _ => rfl) (fun _ h => h) (h.lt t b hb) (fun g _ => by rw [hh]), h.sep, h.lt, h.new, h.old, h.n0, h.nF, h.hF, h.keeps.grown (fun g _ => by rw [hh]) (by rw [hh]; exact Nat.le_refl _) ho ht hu⟩

theorem Rel.same_heap (h : Rel Γ fr hp U a w m) (hh : w'.heap = w.heap) (ho : w'.os = w.os) (ht : w'.tape = w.tape) (hu : w'.output = w.output) : Rel Γ fr hp U a w' m := by
  have hc : ∀ p, w'.cell? p = w.cell? p := fun p => by simp [World.cell?, hh]
  exact h.turn (fun p v hcw => ⟨(hc p).trans hcw.cell, hcw.notF, hcw.far⟩) (fun _ _ => rfl) (fun _ h => h) (h.mem.same_heap hh ho ht hu)

theorem Rel.drew (h : Rel Γ fr hp U a w m) : Rel Γ fr hp U a w.drew m := h.same_heap rfl rfl rfl rfl

/-- Fewer temporaries are known; more tokens count as given. -/
theorem Rel.forget (h : Rel Γ fr hp U a w m) {fr' : List (Nat × V)} (hl : ∀ i v, lk fr' i = some v → lk fr i = some v) : Rel Γ fr' hp U a w m := ⟨h.nt, fun i v hi => h.fr i v (hl i v hi), h.mem⟩
theorem RelH.given (h : RelH Γ hp U w m) (hU : ∀ t, U t → U' t) : RelH Γ hp U' w m :=
  ⟨fun t b hb => (h.hb t b hb).mono (fun _ _ h => h) (fun _ _ => rfl) hU (h.lt t b hb) (fun _ _ => rfl), h.sep, fun t b hb => hU _ (h.lt t b hb), h.new, h.old, fun t ht => hU _ (h.n0 t ht), h.nF, h.hF, h.keeps⟩
theorem Rel.given (h : Rel Γ fr hp U a w m) (hU : ∀ t, U t → U' t) : Rel Γ fr hp U' a w m := h.turn (fun _ _ h => h) (fun _ _ => rfl) hU (h.mem.given hU)

/-- m with a value for a new token. -/
def upm (m : Nat → Value) (t : Nat) (v : Value) : Nat → Value := fun i => if i = t then v else m i
theorem upm_self (m : Nat → Value) (t : Nat) (v : Value) : upm m t v t = v := by simp [upm]
theorem upm_ne (m : Nat → Value) {t i : Nat} (v : Value) (h : i ≠ t) : upm m t v i = m i := by simp [upm, h]
theorem upm_lt (m : Nat → Value) {t : Nat} (v : Value) (ht : ¬ U t) : ∀ i, U i → upm m t v i = m i := fun i h => upm_ne m v (fun e => ht (e ▸ h))
def also (U : Nat → Prop) (t : Nat) : Nat → Prop := fun i => U i ∨ i = t

/-- The memory goes from w to w' where all old blocks stay; one token more, for a new block. -/
theorem Cw.more {tk : Nat} {v : Value} {b : Blk} (H : RelH Γ hp U w m) (htk : ¬ U tk) (hnew : ∀ g, blkOf v = some g → w.heap.size ≤ g) (hg : ∀ g, g < w.heap.size → w'.heap[g]? = w.heap[g]?)
    (p : Addr) (u : Value) (h : Cw Γ.F hp m w p u) : Cw Γ.F ((tk, b) :: hp) (upm m tk v) w' p u := by
  have hlt := h.lt
  refine ⟨(World.cell?_of_block (hg _ hlt)).trans h.cell, h.notF, fun t b' hb => ?_⟩
  rw [lk_cons] at hb
  by_cases ht : tk = t
  · subst ht
    rw [upm_self]
    intro e
    have := hnew _ e
    omega
  · rw [if_neg ht] at hb
    rw [upm_ne _ _ (fun e => ht e.symm)]
    exact h.far t b' hb

theorem RelH.more {tk : Nat} {v : Value} {b : Blk} (H : RelH Γ hp U w m) (htk : ¬ U tk) (hnew : ∀ g, blkOf v = some g → w.heap.size ≤ g) (hg : ∀ g, g < w.heap.size → w'.heap[g]? = w.heap[g]?)
    (hs : w.heap.size ≤ w'.heap.size) (ho : w'.os = w.os) (ht : w'.tape = w.tape) (hu : w'.output = w.output) (hB : HB (Cw Γ.F ((tk, b) :: hp) (upm m tk v) w') (upm m tk v) (also U tk) w' tk b) : RelH Γ ((tk, b) :: hp) (also U tk) w' (upm m tk v) where
  hb := fun t b' hb => by
    rw [lk_cons] at hb
    by_cases htt : tk = t
    · subst htt
      rw [if_pos rfl] at hb
      obtain rfl := Option.some.inj hb
      exact hB
    · rw [if_neg htt] at hb
      have hlt := H.lt t b' hb
      exact (H.hb t b' hb).mono (fun p u => Cw.more H htk hnew hg p u) (upm_lt m v htk) (fun _ h => .inl h) hlt (fun g hgg => hg g ((H.hb t b' hb).lt hgg))
  sep := fun t t' b1 b2 g h1 h2 e1 e2 => by
    rw [lk_cons] at h1 h2
    by_cases c1 : tk = t <;> by_cases c2 : tk = t'
    · omega
    · subst c1
      rw [if_neg c2] at h2
      rw [upm_self] at e1
      rw [upm_ne _ _ (fun e => c2 e.symm)] at e2
      have := hnew _ e1
      have := (H.hb t' b2 h2).lt e2
      omega
    · subst c2
      rw [if_neg c1] at h1
      rw [upm_self] at e2
      rw [upm_ne _ _ (fun e => c1 e.symm)] at e1
      have := hnew _ e2
      have := (H.hb t b1 h1).lt e1
      omega
    · rw [if_neg c1] at h1
      rw [if_neg c2] at h2
      rw [upm_ne _ _ (fun e => c1 e.symm)] at e1
      rw [upm_ne _ _ (fun e => c2 e.symm)] at e2
      exact H.sep t t' b1 b2 g h1 h2 e1 e2
  lt := fun t b1 h1 => by
    rw [lk_cons] at h1
    by_cases c1 : tk = t
    · exact .inr c1.symm
    · rw [if_neg c1] at h1
      exact .inl (H.lt t b1 h1)
  new := fun t b1 g h1 e1 hn => by
    rw [lk_cons] at h1
    by_cases c1 : tk = t
    · subst c1
      rw [upm_self] at e1
      have := hnew _ e1
      have := H.keeps.size
      omega
    · rw [if_neg c1] at h1
      rw [upm_ne _ _ (fun e => c1 e.symm)] at e1
      exact H.new t b1 g h1 e1 hn
  old := fun t ht => by rw [upm_ne _ _ (by intro e; subst e; exact htk (H.n0 _ ht))]; exact H.old t ht
  n0 := fun t ht => .inl (H.n0 t ht)
  nF := fun t b1 g h1 e1 hf => by
    rw [lk_cons] at h1
    by_cases c1 : tk = t
    · subst c1
      rw [upm_self] at e1
      have := hnew _ e1
      have := H.keeps.size
      have := H.hF _ hf
      omega
    · rw [if_neg c1] at h1
      rw [upm_ne _ _ (fun e => c1 e.symm)] at e1
      exact H.nF t b1 g h1 e1 hf
  hF := H.hF
  keeps := H.keeps.grown hg hs ho ht hu

/-- A new variable. -/
theorem Rel.newVar (h : Rel Γ fr hp U a w m) {tk : Nat} (htk : ¬ U tk) {ty : TypeId} {cs : List V} {arr : Array Value} (hl : arr.size = cs.length) (hO : ∀ (k : Nat) (u : Value), arr[k]? = some u → u.oneCell' = true)
    (hR : ∀ (k : Nat) (x : V) (u : Value), cs[k]? = some x → arr[k]? = some u → RV (Cw Γ.F hp m w) m U x u) :
    ∃ m', Rel Γ fr ((tk, .var ty cs) :: hp) (also U tk) a (w.alloc (.cells arr ty)) m' ∧ m' tk = .pointer (some ⟨w.heap.size, 0, none⟩) := by
  have hg : ∀ g, g < w.heap.size → (w.alloc (.cells arr ty)).heap[g]? = w.heap[g]? := fun g hlt => Below.heap_alloc w _ g hlt
  have hnew : ∀ g, blkOf (.pointer (some ⟨w.heap.size, 0, none⟩)) = some g → w.heap.size ≤ g := fun g e => by simp only [blkOf, Option.some.injEq] at e; omega
  refine ⟨upm m tk (.pointer (some ⟨w.heap.size, 0, none⟩)), h.turn (fun p u => Cw.more h.mem htk hnew hg p u) (upm_lt m _ htk) (fun _ h => .inl h) (h.mem.more htk hnew hg (by simp) rfl rfl rfl ?_), upm_self _ _ _⟩
  exact ⟨w.heap.size, arr, upm_self _ _ _, heap_alloc_new w _, hl, hO, fun k x u hx hu => (hR k x u hx hu).mono (fun p u => Cw.more h.mem htk hnew hg p u) (upm_lt m _ htk) (fun _ h => .inl h)⟩

end
end Go.Abs
