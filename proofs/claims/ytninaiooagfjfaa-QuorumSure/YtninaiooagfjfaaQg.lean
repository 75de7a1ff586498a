/- The plain law: the middle of the sorted values is the greatest candidate that more than half of the voters have. No conditions. -/
import Derived.Test.YtninaiooagfjfaaQf
set_option linter.unusedVariables false
set_option linter.unusedSimpArgs false
namespace Go.Abs
open Go Go.RowKit Go.Proofs

theorem sorted_le (l : List Int) : (sorted l).Pairwise (fun x y => x ≤ y) := by
  have := List.pairwise_mergeSort (le := fun x y : Int => decide (x ≤ y)) (fun a b c h1 h2 => by simp at *; omega) (fun a b => by simp; omega) l
  exact this.imp (fun h => by simpa using h)
theorem sorted_perm (l : List Int) : (sorted l).Perm l := List.mergeSort_perm l _

theorem countP_hi {l : List Int} (h : l.Pairwise (fun x y => x ≤ y)) {k : Nat} (hk : k < l.length) {c : Int} (hc : c ≤ l[k]) : l.length - k ≤ l.countP (fun x => decide (c ≤ x)) := by
  have h1 : l.countP (fun x => decide (c ≤ x)) = (l.take k).countP (fun x => decide (c ≤ x)) + (l.drop k).countP (fun x => decide (c ≤ x)) := by rw [← List.countP_append, List.take_append_drop]
  have h2 : (l.drop k).countP (fun x => decide (c ≤ x)) = (l.drop k).length := by
    refine List.countP_eq_length.2 fun x hx => ?_
    obtain ⟨i, hi, e⟩ := List.getElem_of_mem hx
    rw [List.getElem_drop] at e
    have : l[k] ≤ x := by
      rcases Nat.eq_zero_or_pos i with h0 | h0
      · subst h0; simp at e; omega
      · have := List.pairwise_iff_getElem.1 h k (k + i) hk (by simp at hi; omega) (by omega); omega
    simp; omega
  rw [h1, h2, List.length_drop]; omega
theorem countP_lo {l : List Int} (h : l.Pairwise (fun x y => x ≤ y)) {k : Nat} (hk : k < l.length) {c : Int} (hc : l[k] < c) : l.countP (fun x => decide (c ≤ x)) ≤ l.length - 1 - k := by
  have h1 : l.countP (fun x => decide (c ≤ x)) = (l.take (k + 1)).countP (fun x => decide (c ≤ x)) + (l.drop (k + 1)).countP (fun x => decide (c ≤ x)) := by rw [← List.countP_append, List.take_append_drop]
  have h2 : (l.take (k + 1)).countP (fun x => decide (c ≤ x)) = 0 := by
    refine List.countP_eq_zero.2 fun x hx => ?_
    obtain ⟨i, hi, e⟩ := List.getElem_of_mem hx
    rw [List.getElem_take] at e
    have hi' : i < k + 1 := by simp at hi; omega
    have : x ≤ l[k] := by
      rcases Nat.lt_or_ge i k with h0 | h0
      · have := List.pairwise_iff_getElem.1 h i k (by omega) hk h0; omega
      · have : i = k := by omega
        subst this; omega
    simp; omega
  have h3 := List.countP_le_length (p := fun x => decide (c ≤ x)) (l := l.drop (k + 1))
  rw [h1, h2, Nat.zero_add]
  refine Nat.le_trans h3 ?_
  rw [List.length_drop]; omega

theorem gotP_ge (id : Int) (ps : List Peer) : ∀ (l : List Peer) (g : Int), 0 ≤ g → 0 ≤ l.foldl (fun g p => if p.id = id then max g p.mtch else g) g
  | [], g, h => h
  | p :: r, g, h => by
    rw [List.foldl_cons]
    refine gotP_ge id ps r _ ?_
    split <;> omega
theorem gotP_iff (id : Int) {c : Int} : ∀ (l : List Peer) (g : Int), c ≤ l.foldl (fun g p => if p.id = id then max g p.mtch else g) g ↔ c ≤ g ∨ ∃ p ∈ l, p.id = id ∧ c ≤ p.mtch
  | [], g => by simp
  | p :: r, g => by
    rw [List.foldl_cons, gotP_iff id r]
    constructor
    · rintro (h | ⟨q, hq, h⟩)
      · split at h
        · rename_i e
          rcases Int.le_total c g with h' | h'
          · exact .inl h'
          · rcases (show c ≤ g ∨ c ≤ p.mtch by omega) with h2 | h2
            · exact .inl h2
            · exact .inr ⟨p, List.mem_cons_self, e, h2⟩
        · exact .inl h
      · exact .inr ⟨q, List.mem_cons_of_mem _ hq, h⟩
    · rintro (h | ⟨q, hq, h⟩)
      · left; split <;> omega
      · rcases List.mem_cons.1 hq with rfl | hq
        · left; rw [if_pos h.1]; omega
        · exact .inr ⟨q, hq, h⟩
theorem gotP_mem (id : Int) : ∀ (l : List Peer) (g : Int), l.foldl (fun g p => if p.id = id then max g p.mtch else g) g = g ∨ ∃ p ∈ l, l.foldl (fun g p => if p.id = id then max g p.mtch else g) g = p.mtch
  | [], g => .inl rfl
  | p :: r, g => by
    rw [List.foldl_cons]
    rcases gotP_mem id r (if p.id = id then max g p.mtch else g) with h | ⟨q, hq, h⟩
    · rw [h]
      split
      · rcases Int.le_total g p.mtch with h' | h'
        · right; exact ⟨p, List.mem_cons_self, by omega⟩
        · left; omega
      · exact .inl rfl
    · exact .inr ⟨q, List.mem_cons_of_mem _ hq, h⟩

theorem has_val {id c me last : Int} {ps : List Peer} (h0 : 0 < c) (h1 : c ≤ last) : has id c me last ps = decide (c ≤ valOf me last ps id) := by
  rw [has, valOf]
  split
  · simp
  · rw [show gotP id ps = ps.foldl (fun g p => if p.id = id then max g p.mtch else g) 0 from rfl]
    have h2 := gotP_iff id (c := c) ps 0
    have h3 : decide (c ≤ 0) = false := by simp; omega
    rw [h3, Bool.or_false, Bool.eq_iff_iff, List.any_eq_true]
    simp only [decide_eq_true_eq, Bool.and_eq_true, ge_iff_le]
    constructor
    · rintro ⟨p, hp, h⟩
      have := h2.2 (.inr ⟨p, hp, h⟩)
      omega
    · intro h
      rcases h2.1 (by omega) with h | h
      · omega
      · exact h

theorem fold_best {last M : Int} (hM : M ≤ last) {f : Int → Int → Int} (hf : ∀ b c, 0 ≤ b → f b c = if c ≤ b ∨ last < c then b else if c ≤ M then c else b) : ∀ (l : List Int) (b : Int), 0 ≤ b → b ≤ M →
    b ≤ l.foldl f b ∧ l.foldl f b ≤ M ∧ ∀ c ∈ l, c ≤ M → c ≤ l.foldl f b
  | [], b, h0, h1 => ⟨Int.le_refl _, h1, by simp⟩
  | c :: r, b, h0, h1 => by
    rw [List.foldl_cons]
    have hb : b ≤ f b c ∧ f b c ≤ M ∧ (c ≤ M → c ≤ f b c) := by
      rw [hf b c h0]
      split
      · exact ⟨Int.le_refl _, h1, fun h => by omega⟩
      · split
        · exact ⟨by omega, by assumption, fun _ => Int.le_refl _⟩
        · exact ⟨Int.le_refl _, h1, fun h => by omega⟩
    obtain ⟨i1, i2, i3⟩ := fold_best hM hf r (f b c) (by omega) hb.2.1
    refine ⟨by omega, i2, fun c' hc' hle => ?_⟩
    rcases List.mem_cons.1 hc' with rfl | hc'
    · have := hb.2.2 hle; omega
    · exact i3 c' hc' hle

theorem law (vs : List Int) (me last : Int) (ps : List Peer) : sure vs me last ps = want vs me last ps := by
  rw [sure, want, refSure]
  by_cases hr : right vs = true
  · by_cases hl : 0 ≤ last
    · rw [if_pos ⟨hr, hl⟩, if_pos hl, if_pos hr]
      have h1 : 1 ≤ vs.length := by simp [right] at hr; omega
      have hlen : (sorted (vs.map (valOf me last ps))).length = vs.length := by simp [sorted]
      have hk : (vs.length - 1) / 2 < (sorted (vs.map (valOf me last ps))).length := by omega
      have hget : (sorted (vs.map (valOf me last ps))).getD ((vs.length - 1) / 2) 0 = (sorted (vs.map (valOf me last ps)))[(vs.length - 1) / 2] := by simp [List.getD, hk]
      rw [hget]
      have hmem : (sorted (vs.map (valOf me last ps)))[(vs.length - 1) / 2] ∈ vs.map (valOf me last ps) := (sorted_perm _).mem_iff.1 (List.getElem_mem hk)
      have hhi := fun c => countP_hi (sorted_le (vs.map (valOf me last ps))) hk (c := c)
      have hlo := fun c => countP_lo (sorted_le (vs.map (valOf me last ps))) hk (c := c)
      generalize (sorted (vs.map (valOf me last ps)))[(vs.length - 1) / 2] = M at hmem hhi hlo ⊢
      rw [hlen] at hhi hlo
      have hcnt : ∀ c, 0 < c → c ≤ last → count vs c me last ps = (sorted (vs.map (valOf me last ps))).countP (fun x => decide (c ≤ x)) := fun c h0 h1 => by
        rw [(sorted_perm _).countP_eq, List.countP_map, count]
        exact List.countP_congr fun id _ => by rw [has_val h0 h1]; rfl
      obtain ⟨id, hid, hv⟩ := List.mem_map.1 hmem
      have hg0 := gotP_ge id ps ps 0 (Int.le_refl _)
      have hMl : M ≤ last := by rw [← hv, valOf]; omega
      have hM0 : 0 ≤ M := by rw [← hv, valOf, gotP]; split <;> omega
      obtain ⟨f1, f2, f3⟩ := fold_best hMl (f := better vs me last ps) (fun b c hb => by
        rw [better]
        by_cases hc : c ≤ b ∨ last < c
        · rw [if_pos hc, if_pos hc]
        · rw [if_neg hc, if_neg hc, hcnt c (by omega) (by omega)]
          by_cases hcM : c ≤ M
          · rw [if_pos hcM, if_pos]; have := hhi c hcM; omega
          · rw [if_neg hcM, if_neg]; have := hlo c (by omega); omega) (cands last ps) 0 (Int.le_refl _) hM0
      by_cases hz : M = 0
      · omega
      · have : M ∈ cands last ps := by
          rw [cands]
          rw [valOf] at hv
          by_cases hml : M = last
          · rw [hml]; exact List.mem_cons_self
          · refine List.mem_cons_of_mem _ ?_
            rcases gotP_mem id ps 0 with h | ⟨p, hp, h⟩
            · exfalso; rw [gotP, h] at hv; split at hv <;> omega
            · refine List.mem_map.2 ⟨p, hp, ?_⟩
              rw [gotP, h] at hv; split at hv <;> omega
        have := f3 M this (Int.le_refl _)
        omega
    · rw [if_neg (by omega), if_neg hl]
  · rw [if_neg (fun h => hr h.1)]
    split <;> simp [hr]

theorem f3_true (vs : List Int) (me last : Int) (ps : List Peer) : CallsA Try.prog 3 [.d (ints vs), .d (i64 me), .d (i64 last), .d (peers ps)] [] (.d (boo true)) [] := by
  have := f3_walk vs me last ps
  rwa [decide_eq_true (law vs me last (ps.take 60))] at this
end Go.Abs
