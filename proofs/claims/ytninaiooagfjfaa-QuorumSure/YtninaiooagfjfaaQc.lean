/- slices.Sort on a row of ints that was handed over: by the shelf's contract. No conditions. -/
import Derived.Test.YtninaiooagfjfaaQb
import Derived.Test.YtninaiooagfjfaaCu
import Derived.Test.YtninaiooagfjfaaSh
set_option linter.unusedVariables false
set_option linter.unusedSimpArgs false
namespace Go.Abs
open Go Go.RowKit Go.Proofs

def sorted (l : List Int) : List Int := l.mergeSort fun x y => decide (x ≤ y)

theorem encI_get (l : List Int) (j : Nat) (row : List D) (h : (l.map encI)[j]? = some row) (k : Nat) (x : D) (hk : row[k]? = some x) : k = 0 ∧ ∃ z, l[j]? = some z ∧ x = i64 z := by
  rw [List.getElem?_map] at h
  cases hj : l[j]? with
  | none => rw [hj] at h; cases h
  | some z =>
    rw [hj] at h
    obtain rfl := Option.some.inj h
    cases k with
    | zero => simp [encI] at hk; exact ⟨rfl, z, rfl, hk.symm⟩
    | succ k => simp [encI] at hk

theorem f10_walk (l : List Int) (hl : l.length < 4611686018427387904) : CallsA Try.prog 10 [.own 0] [.row 3 1 (l.map encI)] (.tup []) [.row 3 1 ((sorted l).map encI)] := by
  intro w m nt F us H hlen hargs
  have hs : us.size = 1 := by simpa using hlen.symm
  have hu : us[0]? = some (us[0]'(by omega)) := by simp [hs]
  have h0 := hargs 0 _ _ rfl hu
  have hus : us = #[us[0]'(by omega)] := by
    apply Array.ext (by simp [hs])
    intro i h1 h2
    have : i = 0 := by omega
    subst this; simp
  rw [hus]
  generalize us[0]'(by omega) = u at h0
  have hsz : (sorted l).length = l.length := List.length_mergeSort ..
  cases h0 with
  | own _ ht ho =>
    have h00 : lk (enum [.row 3 1 (l.map encI)] 0) 0 = some (.row 3 1 (l.map encI)) := by simp [enum, lk]
    obtain ⟨xs, hown, hrow, hO, hv⟩ := H.hb 0 _ h00
    rw [List.length_map] at hown
    have hxs : ∀ j, j < l.length → xs[j]? = some (.int .i64 (l.getD j 0)) := fun j hj => by
      obtain ⟨u, hu, hr⟩ := hv j (encI l[j]) (by simp [hj]) 0 (i64 l[j]) (by simp [encI])
      rw [Nat.mul_one, Nat.add_zero] at hu
      cases hr
      rw [hu]; simp [hj]
    rcases hown.2 with ⟨e1, e2⟩ | ⟨g, cap, cur, e1, _, hg, hle, hcap, hcs, htake⟩
    · obtain rfl : l = [] := List.eq_nil_of_length_eq_zero e2
      rw [e1]
      refine (Try.slices_Sort_int_none none 0 w).mono fun e w' he => ?_
      obtain ⟨rfl, rfl⟩ := he
      have e : sorted [] = [] := by simp [sorted]
      rw [e]
      exact ⟨_, m, _, rfl, H, .tup [] #[] rfl (by simp)⟩
    · have hgl : g < w.heap.size := by
        rcases Nat.lt_or_ge g w.heap.size with h | h
        · exact h
        · rw [Array.getElem?_eq_none h] at hg; cases hg
      rw [Nat.mul_one] at htake hcs
      have hcur : ∀ j, j < l.length → cur[j]? = some (.int .i64 (l.getD j 0)) := fun j hj => by
        rw [← hxs j hj, ← htake, List.getElem?_take, if_pos hj]; simp
      have hH : Go.Sort.Holds (Value.int .i64) w g 0 l.toArray := fun j hj => by
        have hj : j < l.length := by simpa using hj
        have hjc : j < cur.size := by omega
        have h1 := hcur j hj
        refine ⟨?_, ?_⟩
        · simp only [World.cell?, hg, Nat.zero_add]
          rw [h1]; simp [hj]
        · simp [World.frozen?, hg]
      rw [e1]
      refine (Try.slices_Sort_int g 0 cap l w hH hgl hl).mono fun e w' he => ?_
      obtain ⟨rfl, q, os, hw⟩ := he
      rw [Lib.sorted_world _ w g 0 q _ _ os hH (by simp [List.length_mergeSort]), show (l.mergeSort fun x y => decide (x ≤ y)) = sorted l from rfl] at hw
      have hg' : (w.drewN q).heap[g]? = some (.cells cur 3 (0, 0)) := hg
      obtain ⟨cur', r1, r2, r3⟩ := setCells_row ((sorted l).map (Value.int .i64)) 0 (w.drewN q) cur hg' (by simp [hsz]; omega)
      obtain ⟨s1, s2, s3, s4⟩ := setCells_same g ((sorted l).map (Value.int .i64)) 0 (w.drewN q)
      have hold : ∀ g', g' < w.heap.size → w'.heap[g']? = ((w.drewN q).setCells g 0 ((sorted l).map (Value.int .i64))).heap[g']? := fun g' hg2 => by
        rw [hw]; exact Go.Sort.heap_grow_old _ os (by rw [s4]; exact hg2)
      have HW := H.written (w' := w') (k := 0) (g := g) (b' := .row 3 1 ((sorted l).map encI)) h00 (by rw [e1]; rfl) (fun g' h1 h2 => by rw [hold g' h1, setCells_far _ _ _ h2]; rfl) (by rw [hw, Go.Sort.size_grow, s4]; exact Nat.le_add_right _ _)
        (by rw [hw]; exact s1) (by rw [hw]; exact s2) (by rw [hw]; exact s3) ⟨(sorted l).map (Value.int .i64), ⟨by simp, .inr ⟨g, cap, cur', by rw [e1]; simp [hsz], Nat.zero_le _, by rw [hold g hgl]; exact r1, by simp [hsz]; exact hle, hcap, by omega, ?_⟩⟩, ints_len _, ?_, ?_⟩
      · exact ⟨_, m, _, rfl, HW, .tup [] #[] rfl (by simp)⟩
      · rw [r3]; simp [hsz]
      · intro u hu
        obtain ⟨z, _, rfl⟩ := List.mem_map.1 hu
        rfl
      · intro j row hj k x hk
        obtain ⟨rfl, z, hz, rfl⟩ := encI_get _ j row hj k x hk
        exact ⟨.int .i64 z, by simp [hz], .lit _⟩
end Go.Abs
