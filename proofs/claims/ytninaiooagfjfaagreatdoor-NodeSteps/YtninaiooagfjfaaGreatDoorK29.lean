/- What a shaped state's value is like; that both texts say the same of a state's shape. Plain laws. No conditions. -/
import Derived.Test.YtninaiooagfjfaaGreatDoorK28
import Derived.Lib.ItoaLen
set_option linter.unusedVariables false
set_option linter.unusedSimpArgs false
set_option maxRecDepth 20000
namespace Go.Abs
open Go Go.RowKit Go.Proofs

theorem itoaB_le (n : Int) (h0 : -9223372036854775808 ≤ n) (h1 : n ≤ 9223372036854775807) : (itoaB n).size ≤ 21 := by
  have := Lib.itoa_length_le n h0 h1
  have e : (itoaB n).size = (Lib.itoa n).length := List.size_toArray
  omega
def fitI (n : Int) : Prop := -9223372036854775808 ≤ n ∧ n ≤ 9223372036854775807
def fitR (r : Rec) : Prop := fitI r.term ∧ fitI r.kind ∧ r.data.size ≤ 8192

theorem cnts_nums : ∀ l : List Int, cnts (l.map numV) = l.length
  | [] => rfl
  | x :: r => by simp only [List.map_cons, cnts, cnts_nums r, numV, cnt, List.length_cons]; omega
theorem cnts_recs : ∀ l : List Rec, cnts (l.map recV) = 4 * l.length
  | [] => rfl
  | x :: r => by simp only [List.map_cons, cnts, cnts_recs r, recV, listV, numV, textV, cnt, List.length_cons]; omega
theorem deps_nums : ∀ l : List Int, deps (l.map numV) ≤ 1
  | [] => by simp [deps]
  | x :: r => by have := deps_nums r; simp only [List.map_cons, deps, numV, dep]; omega
theorem deps_recs : ∀ l : List Rec, deps (l.map recV) ≤ 2
  | [] => by simp [deps]
  | x :: r => by have := deps_recs r; simp only [List.map_cons, deps, recV, listV, numV, textV, dep]; omega
theorem fits_nums : ∀ {l : List Int}, (∀ x ∈ l, fitI x) → fitVs (l.map numV)
  | [], _ => trivial
  | x :: r, h => ⟨h x List.mem_cons_self, fits_nums fun y hy => h y (List.mem_cons_of_mem _ hy)⟩
theorem fits_recs : ∀ {l : List Rec}, (∀ x ∈ l, fitR x) → fitVs (l.map recV)
  | [], _ => trivial
  | x :: r, h => ⟨⟨(h x List.mem_cons_self).1, (h x List.mem_cons_self).2.1, trivial, trivial⟩, fits_recs fun y hy => h y (List.mem_cons_of_mem _ hy)⟩
theorem size_none : (⟨#[]⟩ : ByteArray).size = 0 := rfl
theorem bytes_nums : ∀ {l : List Int}, (∀ x ∈ l, fitI x) → (encBs (l.map numV)).size ≤ 23 * l.length
  | [], _ => by simp [encBs, size_none]
  | x :: r, h => by
    have h1 := bytes_nums (l := r) fun y hy => h y (List.mem_cons_of_mem _ hy)
    have h2 := itoaB_le x (h x List.mem_cons_self).1 (h x List.mem_cons_self).2
    simp only [List.map_cons, encBs, numV, encB, size_append, size_one, List.length_cons]
    omega
theorem bytes_rec {r : Rec} (h : fitR r) : (encB (recV r)).size ≤ 8300 := by
  obtain ⟨h1, h2, h3⟩ := h
  have a := itoaB_le r.term h1.1 h1.2
  have b := itoaB_le r.kind h2.1 h2.2
  have c := itoaB_le r.data.size (by omega) (by omega)
  simp only [recV, listV, numV, textV, encB, encBs, size_append, size_one, size_none]
  omega
theorem bytes_recs : ∀ {l : List Rec}, (∀ x ∈ l, fitR x) → (encBs (l.map recV)).size ≤ 8300 * l.length
  | [], _ => by simp [encBs, size_none]
  | x :: r, h => by
    have h1 := bytes_recs (l := r) fun y hy => h y (List.mem_cons_of_mem _ hy)
    have h2 := bytes_rec (h x List.mem_cons_self)
    simp only [List.map_cons, encBs, size_append, List.length_cons]
    omega

theorem shaped_parts {h : Hard} (hs : shaped h = true) : (0 ≤ h.term ∧ h.term ≤ 1073741824) ∧ (0 ≤ h.vote ∧ h.vote ≤ 9) ∧ (0 ≤ h.log.base ∧ h.log.base ≤ 1073741824) ∧ (0 ≤ h.log.bterm ∧ h.log.bterm ≤ h.term) ∧ h.log.recs.length ≤ 200 ∧ h.voters.length ≤ 7 ∧ h.snap.size ≤ 131072 ∧
    (h.log.base = 0 ↔ h.log.bterm = 0) ∧ h.log.base ≤ 1073741824 - (h.log.recs.length : Int) ∧ (∀ j, j < h.log.recs.length → ok99 h j = true) ∧ ∀ j, j < h.voters.length → okR h.voters j = true := by
  have h1 : head99 h = false := by
    cases he : head99 h with
    | false => rfl
    | true => rw [shaped, he] at hs; cases hs
  rw [shaped, h1, Bool.not_false, Bool.true_and, Bool.and_eq_true] at hs
  have h2 : ∀ j, j < h.log.recs.length → ok99 h j = true := fun j hj => all_spec hs.1 hj
  have h3 : ∀ j, j < h.voters.length → okR h.voters j = true := fun j hj => all_spec hs.2 hj
  simp [head99, inB] at h1
  refine ⟨by omega, by omega, by omega, by omega, by omega, by omega, by omega, ?_, by omega, h2, h3⟩
  by_cases a : h.log.base = 0 <;> by_cases b : h.log.bterm = 0 <;> simp [a, b] at h1 ⊢
theorem rAt_get {l : List Rec} {j : Nat} (h : j < l.length) : rAt l j = l[j] := by simp [rAt, List.getD, h]
theorem iAt_get {l : List Int} {j : Nat} (h : j < l.length) : iAt l j = l[j] := by simp [iAt, List.getD, h]
theorem shaped_fit {h : Hard} (hs : shaped h = true) : (∀ x ∈ h.voters, fitI x) ∧ ∀ r ∈ h.log.recs, fitR r := by
  obtain ⟨h1, h2, h3, h4, h5, h6, h7, _, _, h8, h9⟩ := shaped_parts hs
  constructor
  · intro x hx
    obtain ⟨j, hj, rfl⟩ := List.mem_iff_getElem.1 hx
    have := h9 j hj
    rw [← iAt_get hj]
    simp [okR, inB] at this
    constructor <;> omega
  · intro r hr
    obtain ⟨j, hj, rfl⟩ := List.mem_iff_getElem.1 hr
    rw [← rAt_get hj]
    have h8 := h8
    have lo : ∀ j, j < h.log.recs.length → 1 ≤ (rAt h.log.recs j).term := by
      intro j
      induction j with
      | zero => intro hj; have := h8 0 hj; simp [ok99, inB, lastT] at this; omega
      | succ j ih => intro hj; have h1 := h8 (j + 1) hj; have := ih (by omega); simp [ok99, inB, lastT_next] at h1; have := of_decide_eq_true h1.1.1.1; omega
    have a := lo j hj
    have b := h8 j hj
    simp [ok99, inB] at b
    refine ⟨⟨by omega, by omega⟩, ⟨by omega, by omega⟩, by omega⟩
theorem valOf_cnt {h : Hard} (hs : shaped h = true) : cnt (valOf h) ≤ 4000 := by
  obtain ⟨_, _, _, _, h5, h6, _⟩ := shaped_parts hs
  have a := cnts_nums h.voters
  have b := cnts_recs h.log.recs
  simp only [valOf, listV, recsV, cnt, cnts, numV, textV] at a b ⊢
  omega
theorem valOf_dep (h : Hard) : dep (valOf h) ≤ 30 := by
  have a := deps_nums h.voters
  have b := deps_recs h.log.recs
  simp only [valOf, listV, recsV, dep, deps, numV, textV] at a b ⊢
  omega
theorem valOf_fit {h : Hard} (hs : shaped h = true) : fitV (valOf h) := by
  obtain ⟨h1, h2, h3, h4, h5, h6, _⟩ := shaped_parts hs
  obtain ⟨a, b⟩ := shaped_fit hs
  exact ⟨⟨by omega, by omega⟩, ⟨by omega, by omega⟩, ⟨by omega, by omega⟩, ⟨by omega, by omega⟩, trivial, fits_nums a, fits_recs b, trivial⟩
theorem valOf_size {h : Hard} (hs : shaped h = true) : (encB (valOf h)).size ≤ 140737488355328 := by
  obtain ⟨h1, h2, h3, h4, h5, h6, h7, _⟩ := shaped_parts hs
  obtain ⟨a, b⟩ := shaped_fit hs
  have a' := bytes_nums a
  have b' := bytes_recs b
  have c1 := itoaB_le h.term (by omega) (by omega)
  have c2 := itoaB_le h.vote (by omega) (by omega)
  have c3 := itoaB_le h.log.base (by omega) (by omega)
  have c4 := itoaB_le h.log.bterm (by omega) (by omega)
  have c5 := itoaB_le h.snap.size (by omega) (by omega)
  simp only [valOf, listV, recsV, numV, textV, encB, encBs, size_append, size_one, size_none] at a' b' ⊢
  omega
theorem valOf_pos (h : Hard) : 0 < (encB (valOf h)).size := by
  simp only [valOf, listV, encB, size_append, size_one]; omega
theorem valOf_kind (h : Hard) : kOf (valOf h) = 3 := rfl

def head71 (h : Hard) : Bool := !(inB h.term 0 1073741824) || !(inB h.vote 0 9) || !(log14 h.log h.term) || !(voters14 h.voters) || decide (131072 < (h.snap.size : Int))
theorem all_ext {p q : Nat → Bool} {n : Nat} (h : ∀ k, k < n → (∀ i, i < k → p i = true) → p k = q k) : allTo p n = allTo q n := by
  induction n with
  | zero => rfl
  | succ n ih =>
    have e := ih fun k hk => h k (by omega)
    have s : ∀ r : Nat → Bool, allTo r (n + 1) = (allTo r n && r n) := fun r => by simp [allTo, List.range_succ, List.all_append]
    rw [s, s, ← e]
    cases hp : allTo p n with
    | false => rfl
    | true => rw [h n (by omega) fun i hi => all_spec hp hi]
theorem shaped_ok (h : Hard) : allTo (ok99 h) h.log.recs.length = allTo (ok92 h.log h.term) h.log.recs.length := by
  refine all_ext fun k hk hb => ?_
  have lo : k ≠ 0 → 1 ≤ (rAt h.log.recs (k - 1)).term := by
    intro h0
    have lo : ∀ j, j < k → 1 ≤ (rAt h.log.recs j).term := by
      intro j
      induction j with
      | zero => intro hj; have := hb 0 hj; simp [ok99, inB, lastT] at this; omega
      | succ j ih => intro hj; have h1 := hb (j + 1) hj; have := ih (by omega); simp [ok99, inB, lastT_next] at h1; have := of_decide_eq_true h1.1.1.1; omega
    exact lo (k - 1) (by omega)
  rw [Bool.eq_iff_iff]
  simp only [ok99, ok92, inB, lastT]
  by_cases h0 : k = 0
  · subst h0; simp; omega
  · have := lo h0
    simp [h0]; omega
theorem shaped71 (h : Hard) : head71 h = !(shaped h) := by
  have e := shaped_ok h
  rw [shaped, rises]
  simp only [head71, log14, voters14, ← e, head99, head92, inB]
  generalize allTo (ok99 h) h.log.recs.length = p
  generalize allTo (okR h.voters) h.voters.length = q
  rw [Bool.eq_iff_iff]
  cases p <;> cases q <;> simp <;> omega
end Go.Abs
