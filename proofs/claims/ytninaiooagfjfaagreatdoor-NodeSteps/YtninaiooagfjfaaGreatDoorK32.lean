/- A text of voters: both readings of it say the same. Plain laws. No conditions. -/
import Derived.Test.YtninaiooagfjfaaGreatDoorK31
import Derived.Lib.SplitLaws
set_option linter.unusedVariables false
set_option linter.unusedSimpArgs false
set_option maxRecDepth 20000
namespace Go.Abs
open Go Go.RowKit Go.Proofs

def pz : List UInt8 → Option (List UInt8)
  | [] => none
  | [c] => if c = 44 then none else some [c]
  | c :: d :: r => if c = 44 ∨ d ≠ 44 then none else (pz r).map (c :: ·)
def dg (c : UInt8) : Int := (c.toNat : Int) - 48
def parse (s : ByteArray) : Option (List Int) := (pz s.data.toList).bind fun ds => if right (ds.map dg) = true then some (ds.map dg) else none

/-! ### cutting -/
def conH (c : UInt8) : List (List UInt8) → List (List UInt8)
  | p :: ps => (c :: p) :: ps
  | [] => [[c]]
def spl : List UInt8 → List (List UInt8)
  | [] => [[]]
  | c :: r => if c = 44 then [] :: spl r else conH c (spl r)
def sp (l : List UInt8) : List (List UInt8) := Lib.splitK [44] 0 (Lib.count l [44]) l
theorem index_eq (l : List UInt8) : Lib.index (44 :: l) [44] = 0 := by simp [Lib.index, List.isPrefixOf]
theorem index_ne {c : UInt8} (l : List UInt8) (h : c ≠ 44) : Lib.index (c :: l) [44] = if Lib.index l [44] == -1 then -1 else Lib.index l [44] + 1 := by
  rw [Lib.index]
  have : (([44] : List UInt8).isPrefixOf (c :: l)) = false := by simp [List.isPrefixOf]; exact fun e => h e.symm
  rw [this]; rfl
theorem sp_spl : ∀ l : List UInt8, sp l = spl l
  | [] => by
    have : Lib.count [] [44] = 0 := Lib.count_miss (by rfl)
    rw [sp, this]; rfl
  | c :: r => by
    have ih := sp_spl r
    rw [spl]
    by_cases h : c = 44
    · subst h
      rw [if_pos rfl, sp, Lib.count_cons_eq, Nat.add_comm, Lib.splitK, index_eq]
      simp only [Int.toNat_zero]
      rw [if_neg (by decide)]
      rw [← ih, sp]
      rfl
    · rw [if_neg h, sp, Lib.count_cons_ne c 44 r h, ← ih, sp]
      cases hk : Lib.count r [44] with
      | zero => rfl
      | succ k =>
        have hi := Lib.index_ge r [44]
        by_cases hm : Lib.index r [44] = -1
        · have := Lib.count_miss hm; omega
        · obtain ⟨i, hi'⟩ : ∃ i : Nat, Lib.index r [44] = i := ⟨(Lib.index r [44]).toNat, by omega⟩
          have hb : (Lib.index r [44] == -1) = false := by simp [hm]
          have hb2 : (Lib.index (c :: r) [44] == -1) = false := by rw [index_ne r h, hb]; simp; omega
          rw [Lib.splitK, Lib.splitK, hb, hb2, index_ne r h, hb, hi']
          simp only [Bool.false_eq_true, if_false, List.length_singleton, Nat.add_zero]
          have e1 : ((i : Int) + 1).toNat = i + 1 := by omega
          have e2 : (i : Int).toNat = i := by omega
          rw [e1, e2]
          rfl
theorem spl_pz : ∀ l : List UInt8, (∀ ds, pz l = some ds → spl l = ds.map fun c => [c]) ∧ (pz l = none → ∃ p ∈ spl l, p.length ≠ 1)
  | [] => ⟨fun ds h => (by cases h), fun _ => ⟨[], by simp [spl], by simp⟩⟩
  | [c] => by
    by_cases h : c = 44
    · subst h
      exact ⟨fun ds h => by simp [pz] at h, fun _ => ⟨[], by simp [spl], by simp⟩⟩
    · refine ⟨fun ds h2 => ?_, fun h2 => by simp [pz, h] at h2⟩
      simp only [pz, if_neg h, Option.some.injEq] at h2
      subst h2
      simp [spl, h, conH]
  | c :: d :: r => by
    obtain ⟨i1, i2⟩ := spl_pz r
    by_cases h : c = 44
    · subst h
      exact ⟨fun ds h => by simp [pz] at h, fun _ => ⟨[], by simp [spl], by simp⟩⟩
    · by_cases hd : d = 44
      · subst hd
        have e : spl (c :: 44 :: r) = [c] :: spl r := by simp [spl, h, conH]
        rw [e]
        refine ⟨fun ds h2 => ?_, fun h2 => ?_⟩
        · simp only [pz, h, ne_eq, not_true_eq_false, or_self, if_false, Option.map_eq_some_iff] at h2
          obtain ⟨ds', h3, rfl⟩ := h2
          rw [i1 _ h3]; rfl
        · simp only [pz, h, ne_eq, not_true_eq_false, or_self, if_false, Option.map_eq_none_iff] at h2
          obtain ⟨p, hp, hl⟩ := i2 h2
          exact ⟨p, List.mem_cons_of_mem _ hp, hl⟩
      · refine ⟨fun ds h2 => by simp [pz, hd] at h2, fun _ => ?_⟩
        simp only [spl, if_neg h, if_neg hd]
        cases hr : spl r with
        | nil => exact ⟨[c, d], by simp [conH], by simp⟩
        | cons p ps => exact ⟨c :: d :: p, by simp [conH], by simp⟩

/-! ### the library's cutting -/
def sepB : ByteArray := ⟨#[44]⟩
def single (l : List ByteArray) (j : Nat) : Bool := !(decide (((l.getD j ⟨#[]⟩).size : Int) ≠ 1))
def dgB (p : ByteArray) : Int := ((p.get! 0).toNat : Int) - 48
theorem parts_len (s : ByteArray) : (splitL s sepB).length = Lib.countB s sepB + 1 := Lib.splitB_all sepB (by decide) 0 _ s rfl
theorem parts_max {s : ByteArray} (h : s.size ≤ 14) : (splitL s sepB).length ≤ 15 := by
  have := Lib.countB_le sepB (by decide) 14 s h
  rw [parts_len]; omega
theorem parts_data (s : ByteArray) : (splitL s sepB).map (·.data.toList) = spl s.data.toList := by
  rw [splitL, Lib.splitB_data, ← sp_spl]; rfl
def parse20 (s : ByteArray) : Option (List Int) :=
  if 14 < (s.size : Int) then none else if allTo (single (splitL s sepB)) (splitL s sepB).length = true then (if right ((splitL s sepB).map dgB) = true then some ((splitL s sepB).map dgB) else none) else none
theorem pz_len : ∀ {l ds : List UInt8}, pz l = some ds → l.length + 1 = 2 * ds.length
  | [], ds, h => by cases h
  | [c], ds, h => by
    by_cases hc : c = 44
    · simp [pz, hc] at h
    · simp only [pz, if_neg hc, Option.some.injEq] at h; subst h; rfl
  | c :: d :: r, ds, h => by
    simp only [pz] at h
    split at h
    · cases h
    · obtain ⟨ds', h3, rfl⟩ := Option.map_eq_some_iff.1 h
      have := pz_len h3
      simp only [List.length_cons]; omega
theorem right_small {l : List Int} (h : right l = true) : 1 ≤ l.length ∧ l.length ≤ 7 := by
  simp [right] at h; omega
theorem parse20_eq (s : ByteArray) : parse20 s = parse s := by
  unfold parse20 parse
  have hd := parts_data s
  cases hp : pz s.data.toList with
  | none =>
    obtain ⟨p, hp1, hp2⟩ := (spl_pz _).2 hp
    rw [← hd] at hp1
    obtain ⟨q, hq, rfl⟩ := List.mem_map.1 hp1
    obtain ⟨j, hj, rfl⟩ := List.mem_iff_getElem.1 hq
    have : allTo (single (splitL s sepB)) (splitL s sepB).length = false := all_no hj (by
      have e : (splitL s sepB).getD j ⟨#[]⟩ = (splitL s sepB)[j] := by simp [List.getD, hj]
      rw [single, e]
      have hl : ((splitL s sepB)[j]).data.toList.length = ((splitL s sepB)[j]).size := Array.length_toList
      have : (((splitL s sepB)[j]).size : Int) ≠ 1 := by omega
      simp [this])
    rw [this]
    simp
  | some ds =>
    have hs := (spl_pz _).1 _ hp
    have hlen := pz_len hp
    rw [← hd] at hs
    have hl : s.data.toList.length = s.size := Array.length_toList
    have hall : allTo (single (splitL s sepB)) (splitL s sepB).length = true := by
      rw [allTo, List.all_eq_true]
      intro j hj
      have hj := List.mem_range.1 hj
      have e : (splitL s sepB).getD j ⟨#[]⟩ = (splitL s sepB)[j] := by simp [List.getD, hj]
      have h1 : ((splitL s sepB).map (·.data.toList))[j]? = some ((splitL s sepB)[j]).data.toList := by simp [hj]
      rw [hs, List.getElem?_map] at h1
      cases hz : ds[j]? with
      | none => rw [hz] at h1; cases h1
      | some c =>
        rw [hz] at h1
        have h2 : ((splitL s sepB)[j]).data.toList.length = 1 := by rw [← Option.some.inj h1]; rfl
        have h3 : ((splitL s sepB)[j]).data.toList.length = ((splitL s sepB)[j]).size := Array.length_toList
        rw [single, e]
        have : (((splitL s sepB)[j]).size : Int) = 1 := by omega
        simp [this]
    have hdig : (splitL s sepB).map dgB = ds.map dg := by
      have e : ∀ (l : List ByteArray) (ds : List UInt8), l.map (·.data.toList) = ds.map (fun c => [c]) → l.map dgB = ds.map dg := by
        intro l
        induction l with
        | nil => intro ds h; cases ds with
          | nil => rfl
          | cons => simp at h
        | cons p r ih => intro ds h; cases ds with
          | nil => simp at h
          | cons c cs =>
            simp only [List.map_cons, List.cons.injEq] at h
            simp only [List.map_cons, ih cs h.2, List.cons.injEq, and_true]
            have hp : p = ⟨#[c]⟩ := by
              cases p; simp only [ByteArray.mk.injEq]; exact Array.toList_inj.1 h.1
            rw [hp]; rfl
      exact e _ _ hs
    rw [hall, hdig]
    simp only [Option.bind_some, if_true]
    by_cases hr : right (ds.map dg) = true
    · have := right_small hr
      rw [List.length_map] at this
      rw [if_neg (by omega)]
    · rw [if_neg hr]; simp

/-! ### the reference's reading -/
def evens : List UInt8 → List UInt8
  | [] => []
  | [c] => [c]
  | c :: _ :: r => c :: evens r
theorem evens_snoc : ∀ (l : List UInt8) (x : UInt8), evens (l ++ [x]) = if l.length % 2 = 0 then evens l ++ [x] else evens l
  | [], x => rfl
  | [c], x => rfl
  | c :: d :: r, x => by
    have ih := evens_snoc r x
    simp only [List.cons_append, evens, ih, List.length_cons]
    have : ((r.length + 1 + 1) % 2 = 0) = (r.length % 2 = 0) := by apply propext; omega
    by_cases h : r.length % 2 = 0
    · rw [if_pos h, if_pos (by omega)]
    · rw [if_neg h, if_neg (by omega)]
def okC (s : ByteArray) (j : Nat) : Bool := !(decide ((j : Int) % 2 = 1) && decide (((s.get! j).toNat : Int) ≠ 44))
def digT (s : ByteArray) (j : Nat) : List Int := (evens (s.data.toList.take j)).map dg
def head39 (s : ByteArray) : Bool := decide ((s.size : Int) % 2 = 0) || decide (13 < (s.size : Int))
theorem pz_odd : ∀ {l ds : List UInt8}, pz l = some ds → ds = evens l ∧ ∀ j, j % 2 = 1 → j < l.length → l[j]? = some 44
  | [], ds, h => by cases h
  | [c], ds, h => by
    by_cases hc : c = 44
    · simp [pz, hc] at h
    · simp only [pz, if_neg hc, Option.some.injEq] at h; subst h
      exact ⟨rfl, fun j h1 h2 => by simp at h2; omega⟩
  | c :: d :: r, ds, h => by
    simp only [pz] at h
    split at h
    · cases h
    · rename_i hcd
      obtain ⟨ds', h3, rfl⟩ := Option.map_eq_some_iff.1 h
      obtain ⟨a, b⟩ := pz_odd h3
      refine ⟨by rw [evens, a], fun j h1 h2 => ?_⟩
      match j with
      | 1 => simp only [List.getElem?_cons_succ, List.getElem?_cons_zero]; simp at hcd; rw [hcd.2]
      | j + 2 => simp only [List.getElem?_cons_succ]; exact b j (by omega) (by simpa using h2)
theorem pz_of : ∀ {l : List UInt8}, l.length % 2 = 1 → (∀ j, j % 2 = 1 → j < l.length → l[j]? = some 44) → (∀ c ∈ evens l, c ≠ 44) → pz l = some (evens l)
  | [], h, _, _ => by simp at h
  | [c], _, _, h => by
    have : c ≠ 44 := h c (by simp [evens])
    simp [pz, evens, this]
  | c :: d :: r, h1, h2, h3 => by
    have hc : c ≠ 44 := h3 c (by simp [evens])
    have hd : d = 44 := by have := h2 1 rfl (by simp); simpa using this
    have ih := pz_of (l := r) (by simp only [List.length_cons] at h1; omega) (fun j a b => by have := h2 (j + 2) (by omega) (by simpa using b); simpa using this) (fun x hx => h3 x (by simp [evens, hx]))
    simp [pz, hc, hd, ih, evens]
theorem get_at {s : ByteArray} {j : Nat} (h : j < s.size) : s.data.toList[j]? = some (s.get! j) := by
  have h' : j < s.data.size := h
  show _ = some (s.data[j]!)
  rw [Array.getElem?_toList, Array.getElem?_eq_getElem h', getElem!_pos s.data j h']
def parse39 (s : ByteArray) : Option (List Int) := if head39 s = true then none else if allTo (okC s) s.size = true then (if right (digT s s.size) = true then some (digT s s.size) else none) else none
theorem digT_all (s : ByteArray) : digT s s.size = (evens s.data.toList).map dg := by
  rw [digT, List.take_of_length_le (show s.data.toList.length ≤ s.size from Nat.le_of_eq Array.length_toList)]
theorem right_pos {l : List Int} (h : right l = true) : ∀ x ∈ l, 1 ≤ x := by
  intro x hx
  obtain ⟨j, hj, rfl⟩ := List.mem_iff_getElem.1 hx
  rw [right, Bool.and_eq_true] at h
  have := all_spec h.1 hj
  rw [← iAt_get hj]
  simp [okV] at this
  omega
theorem parse39_eq (s : ByteArray) : parse39 s = parse s := by
  unfold parse39 parse
  rw [digT_all]
  have hl : s.data.toList.length = s.size := Array.length_toList
  cases hp : pz s.data.toList with
  | some ds =>
    obtain ⟨e1, h2⟩ := pz_odd hp
    have hlen := pz_len hp
    have hall : allTo (okC s) s.size = true := by
      rw [allTo, List.all_eq_true]
      intro j hj
      have hj := List.mem_range.1 hj
      rw [okC]
      by_cases h1 : (j : Int) % 2 = 1
      · have h9 := h2 j (by omega) (by omega)
        rw [get_at hj] at h9
        rw [Option.some.inj h9]; simp
      · simp [h1]
    rw [hall, ← e1]
    simp only [Option.bind_some, if_true]
    by_cases hr : right (ds.map dg) = true
    · have := right_small hr
      rw [List.length_map] at this
      have hh : head39 s = false := by simp [head39]; omega
      rw [hh]; simp
    · rw [if_neg hr]; simp
  | none =>
    simp only [Option.bind_none]
    by_cases hh : head39 s = true
    · rw [if_pos hh]
    · rw [if_neg hh]
      by_cases ha : allTo (okC s) s.size = true
      · rw [if_pos ha]
        by_cases hr : right ((evens s.data.toList).map dg) = true
        · exfalso
          have hpos := right_pos hr
          have := pz_of (l := s.data.toList) (by simp [head39] at hh; omega) (fun j h1 h2 => by
            have hj : j < s.size := by omega
            have := all_spec ha hj
            have h3 : (j : Int) % 2 = 1 := by omega
            simp [okC, h3] at this
            rw [get_at hj]
            have h4 : (s.get! j) = 44 := UInt8.toNat_inj.1 (by have : (44 : UInt8).toNat = 44 := rfl; omega)
            rw [h4]) (fun c hc e => by
            subst e
            have := hpos _ (List.mem_map_of_mem hc)
            simp [dg] at this)
          rw [this] at hp; cases hp
        · rw [if_neg hr]
      · rw [if_neg ha]
end Go.Abs
