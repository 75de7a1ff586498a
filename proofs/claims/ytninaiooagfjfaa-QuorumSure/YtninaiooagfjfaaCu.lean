/- A block of ours that a callee without a walk has written. No conditions. -/
import Derived.Test.YtninaiooagfjfaaCt
import Derived.Lib.SortBridge
set_option linter.unusedVariables false
set_option linter.unusedSimpArgs false
namespace Go.Abs
open Go Go.RowKit

section
variable {P : Program} {Γ : Ctx} {fr : List (Nat × V)} {hp : List (Nat × Blk)} {U : Nat → Prop} {w w' : World} {m : Nat → Value}

theorem Cw.written {F : Nat → Prop} {k g : Nat} {b b' : Blk} (hk : lk hp k = some b) (hg : blkOf (m k) = some g) (hold : ∀ g', g' < w.heap.size → g' ≠ g → w'.heap[g']? = w.heap[g']?) {p : Addr} {v : Value} (h : Cw F hp m w p v) : Cw F (sto hp k b') m w' p v := by
  have hne : p.block ≠ g := fun e => h.far k b hk (by rw [hg, e])
  refine ⟨?_, h.notF, fun t b0 ht => ?_⟩
  · rw [World.cell?_of_block (w := w) (hold p.block h.lt hne)]; exact h.cell
  · rw [lk_sto] at ht
    by_cases e : t = k
    · subst e; exact h.far t b hk
    · rw [if_neg e] at ht; exact h.far t b0 ht

theorem RelH.written (H : RelH Γ hp U w m) {k g : Nat} {b b' : Blk} (hk : lk hp k = some b) (hg : blkOf (m k) = some g) (hold : ∀ g', g' < w.heap.size → g' ≠ g → w'.heap[g']? = w.heap[g']?) (hs : w.heap.size ≤ w'.heap.size)
    (ho : w'.os = w.os) (ht : w'.tape = w.tape) (hu : w'.output = w.output) (hB : HB (Cw Γ.F (sto hp k b') m w') m U w' k b') : RelH Γ (sto hp k b') U w' m := by
  have hC : ∀ p v, Cw Γ.F hp m w p v → Cw Γ.F (sto hp k b') m w' p v := fun p v hc => hc.written hk hg hold
  refine ⟨fun t b0 ht => ?_, fun t t' b1 b2 g' h1 h2 e1 e2 => ?_, fun t b0 ht => ?_, fun t b0 g' ht hg' hn => ?_, H.old, H.n0, fun t b0 g' ht hg' => ?_, H.hF, ?_⟩
  · rw [lk_sto] at ht
    by_cases e : t = k
    · subst e
      rw [if_pos rfl] at ht
      obtain rfl := Option.some.inj ht
      exact hB
    · rw [if_neg e] at ht
      exact (H.hb t b0 ht).mono hC (fun _ _ => rfl) (fun _ h => h) (H.lt t b0 ht) (fun g' hg' => hold g' ((H.hb t b0 ht).lt hg') (fun e' => e (H.sep t k b0 b g' ht hk hg' (by rw [hg, e']))))
  · have f : ∀ t b0, lk (sto hp k b') t = some b0 → ∃ b1, lk hp t = some b1 := fun t b0 ht => by
      rw [lk_sto] at ht
      by_cases e : t = k
      · subst e; exact ⟨b, hk⟩
      · rw [if_neg e] at ht; exact ⟨_, ht⟩
    obtain ⟨c1, h1'⟩ := f t b1 h1
    obtain ⟨c2, h2'⟩ := f t' b2 h2
    exact H.sep t t' c1 c2 g' h1' h2' e1 e2
  · rw [lk_sto] at ht
    by_cases e : t = k
    · subst e; exact H.lt t b hk
    · rw [if_neg e] at ht; exact H.lt t b0 ht
  · rw [lk_sto] at ht
    by_cases e : t = k
    · subst e; exact H.new t b g' hk hg' hn
    · rw [if_neg e] at ht; exact H.new t b0 g' ht hg' hn
  · rw [lk_sto] at ht
    by_cases e : t = k
    · subst e; exact H.nF t b g' hk hg'
    · rw [if_neg e] at ht; exact H.nF t b0 g' ht hg'
  · refine ⟨ho.trans H.keeps.os, ht.trans H.keeps.tape, hu.trans H.keeps.output, Nat.le_trans H.keeps.size hs, fun g' hlt hn => ?_⟩
    by_cases e : g' = g
    · subst e
      exfalso
      rcases Nat.lt_or_ge k Γ.n0 with hkn | hkn
      · exact hn k hkn (by rw [← H.old k hkn]; exact hg)
      · have := H.new k b g' hk hg hkn; omega
    · rw [hold g' (Nat.lt_of_lt_of_le hlt H.keeps.size) e]; exact H.keeps.block g' hlt hn

theorem setCells_far {g : Nat} : ∀ (vs : List Value) (o : Nat) {w : World} (k : Nat), k ≠ g → (w.setCells g o vs).heap[k]? = w.heap[k]?
  | [], _, _, _, _ => rfl
  | v :: r, o, w, k, hk => by
    rw [World.setCells, setCells_far r (o + 1) k hk]
    simp [World.setCell, Array.getElem?_modify, Ne.symm hk]
theorem setCells_same (g : Nat) : ∀ (vs : List Value) (o : Nat) (w : World), (w.setCells g o vs).os = w.os ∧ (w.setCells g o vs).tape = w.tape ∧ (w.setCells g o vs).output = w.output ∧ (w.setCells g o vs).heap.size = w.heap.size
  | [], _, _ => ⟨rfl, rfl, rfl, rfl⟩
  | v :: r, o, w => by
    obtain ⟨h1, h2, h3, h4⟩ := setCells_same g r (o + 1) (w.setCell ⟨g, o, none⟩ v)
    rw [World.setCells]
    exact ⟨h1, h2, h3, by rw [h4]; simp [World.setCell]⟩
theorem setCells_row {g : Nat} {e : TypeId} : ∀ (vs : List Value) (o : Nat) (w : World) (cur : Array Value), w.heap[g]? = some (.cells cur e (0, 0)) → o + vs.length ≤ cur.size →
    ∃ cur', (w.setCells g o vs).heap[g]? = some (.cells cur' e (0, 0)) ∧ cur'.size = cur.size ∧ cur'.toList = cur.toList.take o ++ vs ++ cur.toList.drop (o + vs.length)
  | [], o, w, cur, h, _ => ⟨cur, h, rfl, by simp⟩
  | v :: r, o, w, cur, h, hl => by
    have h2 : (w.setCell ⟨g, o, none⟩ v).heap[g]? = some (.cells (cur.setIfInBounds o v) e (0, 0)) := by simp [World.setCell, Array.getElem?_modify, h]
    simp only [List.length_cons] at hl
    obtain ⟨cur', h3, h4, h5⟩ := setCells_row r (o + 1) (w.setCell ⟨g, o, none⟩ v) _ h2 (by simp; omega)
    refine ⟨cur', h3, by rw [h4]; simp, ?_⟩
    rw [h5, Array.toList_setIfInBounds]
    have ho : o < cur.toList.length := by rw [Array.length_toList]; omega
    rw [List.take_set, List.drop_set_of_lt (by omega)]
    simp only [List.length_cons]
    rw [show o + 1 + r.length = o + (r.length + 1) by omega]
    have : (cur.toList.take (o + 1)).set o v = cur.toList.take o ++ [v] := by
      rw [List.take_succ_eq_append_getElem ho, List.set_append_right _ _ (by simp; omega)]
      have : min o cur.size = o := by rw [Array.length_toList] at ho; omega
      simp [this]
    rw [this]; simp
end
end Go.Abs
