/- One operation at a time, sixth part: rows of elements: literals, and rows that are given up and read as data. No conditions. -/
import Derived.Test.YtninaiooagfjfaaCi
import Derived.Great.BuildSlice
set_option linter.unusedVariables false
set_option linter.unusedSimpArgs false
namespace Go.Abs
open Go Go.RowKit

section
variable {P : Program} {Γ : Ctx} {fr : List (Nat × V)} {hp hp' : List (Nat × Blk)} {U : Nat → Prop} {a : Act} {w w' : World} {m : Nat → Value} {tk : Nat} {L : List (Use P)} {o : Oper}
  {K : Act → World → Prop} {Q : Exit → Act → World → Prop}

theorem lk_delAll : ∀ (g : List Nat) (hp : List (Nat × Blk)) (t : Nat), lk (delAll hp g) t = if t ∈ g then none else lk hp t
  | [], hp, t => by simp [delAll]
  | x :: r, hp, t => by
    rw [delAll, lk_delAll r (del hp x) t, lk_del]
    by_cases h1 : t ∈ r
    · simp [h1]
    · by_cases h2 : t = x
      · simp [h2]
      · simp [h1, h2]

theorem delAll_sub {g : List Nat} : ∀ t b, lk (delAll hp g) t = some b → lk hp t = some b := fun t b h => by
  rw [lk_delAll] at h; split at h
  · cases h
  · exact h

/-- A row that is given up reads as data. -/
theorem freeze (H : RelH Γ hp U w m) (hl : ∀ t b, lk hp' t = some b → lk hp t = some b) {t e sz : Nat} {l : List (List D)} (ht : lk hp t = some (.row e sz l)) (hn : lk hp' t = none) : RD (Cw Γ.F hp' m w) (.lst l) (m t) := by
  obtain ⟨xs, hown, hrow, hO, hv⟩ := H.hb t _ ht
  rcases hown.2 with ⟨e1, e2⟩ | ⟨g, cap, cur, e1, _, hg, hle, hcap, hcs, htake⟩
  · have : l = [] := List.eq_nil_of_length_eq_zero e2
    subst this
    rw [e1]
    exact .lst [] none 0 0 (fun _ _ => undef) (Nat.le_refl _) (Nat.zero_le _) (by simp) (by simp) (by simp) (by simp)
  · rw [e1]
    have hbl : (m t).ownBlock = some g := by rw [e1]; rfl
    refine .lst l _ cap sz (fun j k => (xs[j * sz + k]?).getD undef) hle hcap hrow (fun j row hj k x hk => ⟨_, rfl, ?_⟩) (fun j row hj k x hk => ?_) (fun j row hj k x hk => ?_) <;> obtain ⟨u, hu, hd⟩ := hv j row hj k x hk
    · rw [hu]
      refine ⟨hown.cells hbl _ u hu, ?_, fun t' b' ht' e3 => ?_⟩
      · rw [add_plain]; exact H.nF t _ g ht (by rw [e1]; rfl)
      · rw [add_plain] at e3
        have := H.sep t t' _ b' g ht (hl _ _ ht') (by rw [e1]; rfl) e3
        subst this
        rw [hn] at ht'; cases ht'
    · rw [hu]; exact hO u (List.mem_of_getElem? hu)
    · rw [hu]; exact hd.mono fun p v hc => hc.less hl

theorem toD_rel (H : RelH Γ hp U w m) (hl : ∀ t b, lk hp' t = some b → lk hp t = some b) {v : V} {x : D} {u : Value} (h : RV (Cw Γ.F hp m w) m U v u) (hx : toD hp v = some x) (hn : ∀ t, t ∈ ownsOf [v] → lk hp' t = none) :
    RD (Cw Γ.F hp' m w) x u ∧ u.oneCell' = true := by
  unfold toD at hx
  split at hx
  · rename_i c
    cases hc : c.oneCell' with
    | false => rw [hc] at hx; cases hx
    | true =>
      rw [hc] at hx
      obtain rfl := Option.some.inj hx
      rw [h.lit_inv]
      exact ⟨.lit c, hc⟩
  · obtain rfl := Option.some.inj hx
    cases h with
    | d h => exact ⟨h.mono fun p v hc => hc.less hl, by cases h; rfl⟩
  · rename_i t
    split at hx
    · rename_i e sz l ht
      obtain rfl := Option.some.inj hx
      cases h with
      | own _ hU ho => exact ⟨freeze H hl ht (hn t (by simp [ownsOf])), ho⟩
    · cases hx
  · cases hx

theorem ownsOf_cons (v : V) (r : List V) : ownsOf (v :: r) = ownsOf [v] ++ ownsOf r := by cases v <;> simp [ownsOf]

theorem toDs_rel (H : RelH Γ hp U w m) (hl : ∀ t b, lk hp' t = some b → lk hp t = some b) : ∀ (vs : List V) (ds : List D), toDs hp vs = some ds → (∀ t, t ∈ ownsOf vs → lk hp' t = none) → ds.length = vs.length ∧
    ∀ (k : Nat) (v : V) (x : D) (u : Value), vs[k]? = some v → ds[k]? = some x → RV (Cw Γ.F hp m w) m U v u → RD (Cw Γ.F hp' m w) x u ∧ u.oneCell' = true
  | [], ds, h, _ => by obtain rfl := Option.some.inj h; exact ⟨rfl, fun k v x u hk => by simp at hk⟩
  | v :: r, ds, h, hn => by
    simp only [toDs] at h
    split at h
    · rename_i x y h1 h2
      obtain rfl := Option.some.inj h
      obtain ⟨hlen, hr⟩ := toDs_rel H hl r y h2 (fun t ht => hn t (by rw [ownsOf_cons]; exact List.mem_append_right _ ht))
      refine ⟨by simp [hlen], fun k v' x' u hk hx hv => ?_⟩
      cases k with
      | zero =>
        simp at hk hx
        subst hk hx
        exact toD_rel H hl hv h1 (fun t ht => hn t (by rw [ownsOf_cons]; exact List.mem_append_left _ ht))
      | succ k => exact hr k v' x' u (by simpa using hk) (by simpa using hx) hv
    · cases h

/-- An operation that makes a row, some rows being given up. -/
theorem sound_newRow {e sz : Nat} {l : List (List D)} {g : List Nat} {p : Prop} (hrow : ∀ row ∈ l, row.length = sz)
    (h : ∀ a w m, Rel Γ fr hp U a w m → p → ∃ w1 : World, ∃ cur : Array Value, ∃ cap : Nat, (execOp a.eval o).run P w = .ok (.value (.slice (some ⟨w.heap.size, 0, none⟩) l.length cap)) (w1.alloc (.cells cur e)) ∧ w1.heap = w.heap ∧ w1.os = w.os ∧ w1.tape = w.tape ∧ w1.output = w.output ∧
      l.length ≤ cap ∧ cap ≤ maxLen ∧ cur.size = cap * sz ∧ (∀ (k : Nat) (u : Value), cur[k]? = some u → k < l.length * sz → u.oneCell' = true) ∧
      ∀ (j : Nat) (row : List D), l[j]? = some row → ∀ (k : Nat) (x : D), row[k]? = some x → ∃ u, cur[j * sz + k]? = some u ∧ RD (Cw Γ.F (delAll hp g) m w) x u) : Sound P Γ fr hp U tk o ⟨.own tk, g, [], some (.row e sz l), p, L⟩ := by
  intro a w m K Q hR htk hp' hd hK
  obtain ⟨w1, cur, cap, hr, e1, e2, e3, e4, hle, hcap, hcs, hO, hv⟩ := h a w m hR hp'
  have hR1 : Rel Γ fr (delAll hp g) U a w1 m := (hR.less delAll_sub).same_heap e1 e2 e3 e4
  have hg : ∀ g', g' < w1.heap.size → (w1.alloc (.cells cur e)).heap[g']? = w1.heap[g']? := fun g' hlt => Below.heap_alloc w1 _ g' hlt
  have hnew : ∀ g', blkOf (.slice (some ⟨w1.heap.size, 0, none⟩) l.length cap) = some g' → w1.heap.size ≤ g' := fun g' e' => by simp only [blkOf, Option.some.injEq] at e'; omega
  have hC : ∀ p v, Cw Γ.F (delAll hp g) m w p v → Cw Γ.F ((tk, .row e sz l) :: delAll hp g) (upm m tk (.slice (some ⟨w1.heap.size, 0, none⟩) l.length cap)) (w1.alloc (.cells cur e)) p v := fun p v hc =>
    Cw.more hR1.mem htk hnew hg p v ⟨by simpa [World.cell?, e1] using hc.cell, hc.notF, hc.far⟩
  refine wp_value hr (hK _ _ (upm m tk (.slice (some ⟨w1.heap.size, 0, none⟩) l.length cap)) ?_ (put_defers a _ _))
  have haft : after hp tk (⟨.own tk, g, [], some (.row e sz l), p, L⟩ : Rs P) = (tk, .row e sz l) :: delAll hp g := rfl
  rw [haft, ← show w1.heap.size = w.heap.size by rw [e1]]
  have hR2 : Rel Γ fr ((tk, .row e sz l) :: delAll hp g) (also U tk) a (w1.alloc (.cells cur e)) (upm m tk (.slice (some ⟨w1.heap.size, 0, none⟩) l.length cap)) := by
    refine hR1.turn (fun p u => Cw.more hR1.mem htk hnew hg p u) (upm_lt m _ htk) (fun _ h => .inl h) (hR1.mem.more htk hnew hg (by simp) rfl rfl rfl ?_)
    refine ⟨cur.toList.take (l.length * sz), ⟨?_, .inr ⟨w1.heap.size, cap, cur, upm_self _ _ _, Nat.zero_le _, heap_alloc_new w1 _, hle, hcap, hcs, rfl⟩⟩, hrow, fun u hu => ?_, fun j row hj k x hk => ?_⟩
    · have e6 : cur.toList.length = cap * sz := by simp [hcs]
      rw [List.length_take, e6]
      have := Nat.mul_le_mul_right sz hle
      omega
    · obtain ⟨k, hk, e5⟩ := List.getElem_of_mem hu
      simp only [List.length_take, Array.length_toList] at hk
      refine hO k u ?_ (by omega)
      rw [← e5]; simp
    · obtain ⟨u, hu, hd'⟩ := hv j row hj k x hk
      refine ⟨u, ?_, hd'.mono hC⟩
      have hjl : j < l.length := (List.getElem?_eq_some_iff.1 hj).1
      have hkl : k < sz := by rw [← hrow row (List.mem_of_getElem? hj)]; exact (List.getElem?_eq_some_iff.1 hk).1
      have hlt : j * sz + k < l.length * sz := by
        have : (j + 1) * sz ≤ l.length * sz := Nat.mul_le_mul_right sz hjl
        rw [Nat.add_mul, Nat.one_mul] at this
        omega
      rw [List.getElem?_take, if_pos hlt]
      simpa using hu
  have h1 := rel_putA (o := o) hR2 hd (RV.own (C := Cw Γ.F ((tk, .row e sz l) :: delAll hp g) (upm m tk (.slice (some ⟨w1.heap.size, 0, none⟩) l.length cap)) (w1.alloc (.cells cur e))) tk (U := also U tk) (m := upm m tk (.slice (some ⟨w1.heap.size, 0, none⟩) l.length cap)) (.inr rfl) (by rw [upm_self]; rfl))
  rw [upm_self] at h1
  exact h1

end
end Go.Abs
