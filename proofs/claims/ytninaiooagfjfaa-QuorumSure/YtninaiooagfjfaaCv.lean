/- What a datum's reading is as data: any type made of numbers, truth values, strings, slices and structs. No conditions. -/
import Derived.Test.YtninaiooagfjfaaCu
import Derived.Deep.Slices
set_option linter.unusedVariables false
set_option linter.unusedSimpArgs false
namespace Go.Abs
open Go Go.RowKit

/-- A struct's fields lie one behind the other. -/
def layB (P : Program) : List Field → Nat → Nat → Bool
  | [], o, tot => o == tot
  | f :: r, o, tot => f.offset == o && layB P r (o + P.cellsOf f.type) tot
def okT (P : Program) : Nat → TypeId → Bool
  | 0, _ => false
  | n + 1, t => match P.underlying t with
    | some (.int _) => true
    | some .bool => true
    | some .string => true
    | some (.slice e) => okT P n e
    | some (.struct fs) => layB P fs.toList 0 (P.cellsOf t) && fs.toList.all fun f => okT P n f.type
    | _ => false

mutual
/-- The cells of a value of a type, as data. -/
inductive Sh (P : Program) : TypeId → List D → Prop
  | int {t : TypeId} {k : IntKind} {n : Int} (h : P.underlying t = some (.int k)) (hw : (Lit.int k n).wf = true) : Sh P t [.lit (.int k n)]
  | bool {t : TypeId} {b : Bool} (h : P.underlying t = some .bool) : Sh P t [.lit (.bool b)]
  | str {t : TypeId} {s : ByteArray} (h : P.underlying t = some .string) (hs : s.size ≤ maxLen) : Sh P t [.lit (.string s)]
  | slice {t e : TypeId} {l : List (List D)} (h : P.underlying t = some (.slice e)) (hl : l.length ≤ maxLen) (hr : ∀ row ∈ l, Sh P e row) : Sh P t [.lst l]
  | struct {t : TypeId} {fs : Array Field} {ds : List D} (h : P.underlying t = some (.struct fs)) (hf : ShL P fs.toList ds) : Sh P t ds
inductive ShL (P : Program) : List Field → List D → Prop
  | nil : ShL P [] []
  | cons {f : Field} {r : List Field} {a b : List D} (h : Sh P f.type a) (hr : ShL P r b) : ShL P (f :: r) (a ++ b)
end

/-- Cells that read as data. -/
def Rd (C : Addr → Value → Prop) (ds : List D) (cs : List Value) : Prop := ds.length = cs.length ∧ (∀ u ∈ cs, u.oneCell' = true) ∧ ∀ (k : Nat) (d : D) (u : Value), ds[k]? = some d → cs[k]? = some u → RD C d u

theorem Rd.one {C : Addr → Value → Prop} {d : D} {u : Value} (h : RD C d u) (ho : u.oneCell' = true) : Rd C [d] [u] := by
  refine ⟨rfl, by simpa using ho, fun k d' u' hd hu => ?_⟩
  cases k with
  | zero => simp at hd hu; subst hd hu; exact h
  | succ k => simp at hd
theorem Rd.app {C : Addr → Value → Prop} {a b : List D} {x y : List Value} (h : Rd C a x) (h' : Rd C b y) : Rd C (a ++ b) (x ++ y) := by
  refine ⟨by simp [h.1, h'.1], fun u hu => ?_, fun k d u hd hu => ?_⟩
  · rcases List.mem_append.1 hu with hu | hu
    · exact h.2.1 u hu
    · exact h'.2.1 u hu
  · by_cases hk : k < a.length
    · rw [List.getElem?_append_left hk] at hd
      rw [List.getElem?_append_left (by rw [← h.1]; exact hk)] at hu
      exact h.2.2 k d u hd hu
    · rw [List.getElem?_append_right (by omega)] at hd
      rw [List.getElem?_append_right (by rw [← h.1]; omega), ← h.1] at hu
      exact h'.2.2 _ d u hd hu

section
variable {H : Type} {enc : TypeId × Value → H} {P : Program} {w : World} {base : Nat} {spare : Nat → Bool} {held : Bool} {C : Addr → Value → Prop}

theorem read_fields {n : Nat} (ih : ∀ (t : TypeId) (cs : List Value) (x : DataW H × List MemPlace), okT P n t = true → (∃ fuel, DataW.trod enc P w base spare held fuel t cs = some x) → ∃ ds, Sh P t ds ∧ Rd C ds cs) (cs : List Value) (tot : Nat) (hl : cs.length = tot) :
    ∀ (fs : List Field) (o : Nat), layB P fs o tot = true → fs.all (fun f => okT P n f.type) = true → (∀ f ∈ fs, ∃ x fuel, DataW.trod enc P w base spare held fuel f.type ((cs.drop f.offset).take (P.cellsOf f.type)) = some x) → ∃ ds, ShL P fs ds ∧ Rd C ds (cs.drop o)
  | [], o, h, _, _ => by
    simp only [layB, beq_iff_eq] at h
    refine ⟨[], .nil, ?_⟩
    rw [List.drop_of_length_le (by omega)]
    exact ⟨rfl, by simp, by simp⟩
  | f :: r, o, h, ha, hx => by
    simp only [layB, Bool.and_eq_true, beq_iff_eq] at h
    simp only [List.all_cons, Bool.and_eq_true] at ha
    obtain ⟨x, fuel, h0⟩ := hx f List.mem_cons_self
    obtain ⟨a, ha1, ha2⟩ := ih _ _ x ha.1 ⟨fuel, h0⟩
    obtain ⟨b, hb1, hb2⟩ := read_fields ih cs tot hl r _ h.2 ha.2 fun f' hf' => hx f' (List.mem_cons_of_mem _ hf')
    refine ⟨a ++ b, .cons ha1 hb1, ?_⟩
    have := ha2.app hb2
    rw [h.1, ← List.drop_drop, List.take_append_drop] at this
    exact this

/-- A datum's reading, as data. -/
theorem read_data (hC : ∀ a v, w.cell? a = some v → C a v) : ∀ (n : Nat) (t : TypeId) (cs : List Value) (x : DataW H × List MemPlace), okT P n t = true → (∃ fuel, DataW.trod enc P w base spare held fuel t cs = some x) → ∃ ds, Sh P t ds ∧ Rd C ds cs
  | 0, t, cs, x, h, _ => by simp [okT] at h
  | n + 1, t, cs, x, h, ⟨fuel, hx⟩ => by
    simp only [okT] at h
    split at h
    · rename_i k ht
      obtain ⟨z, rfl, -, hw⟩ := DataW.trod_int ht hx
      exact ⟨_, .int ht hw, .one (.lit _) rfl⟩
    · rename_i ht
      obtain ⟨z, rfl, -⟩ := DataW.trod_bool ht hx
      exact ⟨_, .bool ht, .one (.lit _) rfl⟩
    · rename_i ht
      obtain ⟨z, rfl, -, hs⟩ := DataW.trod_string ht hx
      exact ⟨_, .str ht hs, .one (.lit _) rfl⟩
    · rename_i e ht
      rcases Deep.open_slice ht hx with ⟨rfl, -⟩ | ⟨a, len, cap, m, n', Dd, Pl, rfl, hb, hl, hm, hmm, -, hel⟩
      · exact ⟨[.lst []], .slice ht (Nat.zero_le _) (by simp), .one (.lst [] none 0 0 (fun _ _ => undef) (Nat.le_refl _) (Nat.zero_le _) (by simp) (by simp) (by simp) (by simp)) rfl⟩
      · have hle : len ≤ m := by rw [hmm]; split <;> omega
        obtain ⟨F, hF⟩ := Deep.choose_lt (α := List D × List Value) (n := len) (p := fun i q => Sh P e q.1 ∧ Rd C q.1 q.2 ∧ q.2.length = P.cellsOf e ∧ ∀ k, k < P.cellsOf e → w.cell? ((a.add (i * P.cellsOf e)).add k) = q.2[k]?) (fun i hi => by
          obtain ⟨cs', h1, h2⟩ := hel i (by omega)
          obtain ⟨ds, d1, d2⟩ := read_data hC n e cs' _ h ⟨n', h2⟩
          obtain ⟨-, c1, c2⟩ := World.cells?_some h1
          exact ⟨(ds, cs'), d1, d2, c1, c2⟩)
        refine ⟨[.lst ((List.range len).map fun i => (F i).1)], .slice ht (by simp; omega) (fun row hrow => ?_), .one ?_ rfl⟩
        · obtain ⟨i, hi, rfl⟩ := List.mem_map.1 hrow
          exact (hF i (by simpa using hi)).1
        · have get : ∀ j row, ((List.range len).map fun i => (F i).1)[j]? = some row → j < len ∧ row = (F j).1 := fun j row hj => by
            rw [List.getElem?_map] at hj
            by_cases hjl : j < len
            · rw [List.getElem?_range hjl] at hj; exact ⟨hjl, (Option.some.inj hj).symm⟩
            · rw [List.getElem?_eq_none (by simpa using hjl)] at hj; cases hj
          have hlen : ((List.range len).map fun i => (F i).1).length = len := by simp
          have val : ∀ j, j < len → ∀ k x, (F j).1[k]? = some x → k < P.cellsOf e ∧ ∃ u, (F j).2[k]? = some u := fun j hj k x hk => by
            obtain ⟨_, h2, h3, _⟩ := hF j hj
            have : k < (F j).1.length := (List.getElem?_eq_some_iff.1 hk).1
            have h4 : k < (F j).2.length := by rw [← h2.1]; exact this
            exact ⟨by omega, _, List.getElem?_eq_getElem h4⟩
          have key := RD.lst (C := C) ((List.range len).map fun i => (F i).1) (some a) cap (P.cellsOf e) (fun j k => ((F j).2[k]?).getD undef) (by rw [hlen]; exact hl) hm (fun row hrow => by
              obtain ⟨i, hi, rfl⟩ := List.mem_map.1 hrow
              obtain ⟨_, h2, h3, _⟩ := hF i (by simpa using hi)
              rw [h2.1, h3]) (fun j row hj k x hk => by
              obtain ⟨hjl, rfl⟩ := get j row hj
              obtain ⟨hkl, u, hu⟩ := val j hjl k x hk
              obtain ⟨_, _, _, h4⟩ := hF j hjl
              refine ⟨a, rfl, hC _ _ ?_⟩
              have := h4 k hkl
              rw [Deep.add_add] at this
              rw [this, hu]; rfl) (fun j row hj k x hk => by
              obtain ⟨hjl, rfl⟩ := get j row hj
              obtain ⟨hkl, u, hu⟩ := val j hjl k x hk
              obtain ⟨_, h2, _, _⟩ := hF j hjl
              rw [hu]; exact h2.2.1 u (List.mem_of_getElem? hu)) (fun j row hj k x hk => by
              obtain ⟨hjl, rfl⟩ := get j row hj
              obtain ⟨hkl, u, hu⟩ := val j hjl k x hk
              obtain ⟨_, h2, _, _⟩ := hF j hjl
              rw [hu]; exact h2.2.2 k x u hk hu)
          rw [hlen] at key
          exact key
    · rename_i fs ht
      rw [Bool.and_eq_true] at h
      obtain ⟨xs, n', -, -, hl, hlx, hf⟩ := DataW.trod_struct ht hx
      obtain ⟨ds, h1, h2⟩ := read_fields (C := C) (n := n) (fun t cs x h1 h2 => read_data hC n t cs x h1 h2) cs (P.cellsOf t) hl fs.toList 0 h.1 h.2 (fun f hf' => by
        obtain ⟨i, hi, e⟩ := List.getElem_of_mem hf'
        have hfi : fs[i]? = some f := by rw [← e]; simp
        have := hf i f hfi
        have hix : i < xs.length := by rw [hlx]; simpa using hi
        rw [List.getElem?_eq_getElem hix] at this
        exact ⟨_, n', this⟩)
      exact ⟨ds, .struct ht h1, by simpa using h2⟩
    · cases h

variable {t e : TypeId} {ds : List D}
theorem Sh.int_inv {k : IntKind} (ht : P.underlying t = some (.int k)) (h : Sh P t ds) : ∃ n, ds = [.lit (.int k n)] ∧ (Lit.int k n).wf = true := by
  cases h with
  | int h hw => rw [ht] at h; cases h; exact ⟨_, rfl, hw⟩
  | bool h => rw [ht] at h; cases h
  | str h hs => rw [ht] at h; cases h
  | slice h hl hr => rw [ht] at h; cases h
  | struct h hf => rw [ht] at h; cases h
theorem Sh.bool_inv (ht : P.underlying t = some .bool) (h : Sh P t ds) : ∃ b, ds = [.lit (.bool b)] := by
  cases h with
  | int h hw => rw [ht] at h; cases h
  | bool h => exact ⟨_, rfl⟩
  | str h hs => rw [ht] at h; cases h
  | slice h hl hr => rw [ht] at h; cases h
  | struct h hf => rw [ht] at h; cases h
theorem Sh.str_inv (ht : P.underlying t = some .string) (h : Sh P t ds) : ∃ s : ByteArray, ds = [.lit (.string s)] ∧ s.size ≤ maxLen := by
  cases h with
  | int h hw => rw [ht] at h; cases h
  | bool h => rw [ht] at h; cases h
  | str h hs => exact ⟨_, rfl, hs⟩
  | slice h hl hr => rw [ht] at h; cases h
  | struct h hf => rw [ht] at h; cases h
theorem Sh.slice_inv (ht : P.underlying t = some (.slice e)) (h : Sh P t ds) : ∃ l, ds = [.lst l] ∧ l.length ≤ maxLen ∧ ∀ row ∈ l, Sh P e row := by
  cases h with
  | int h hw => rw [ht] at h; cases h
  | bool h => rw [ht] at h; cases h
  | str h hs => rw [ht] at h; cases h
  | slice h hl hr => rw [ht] at h; cases h; exact ⟨_, rfl, hl, hr⟩
  | struct h hf => rw [ht] at h; cases h
theorem Sh.struct_inv {fs : Array Field} (ht : P.underlying t = some (.struct fs)) (h : Sh P t ds) : ShL P fs.toList ds := by
  cases h with
  | int h hw => rw [ht] at h; cases h
  | bool h => rw [ht] at h; cases h
  | str h hs => rw [ht] at h; cases h
  | slice h hl hr => rw [ht] at h; cases h
  | struct h hf => rw [ht] at h; cases h; exact hf
theorem ShL.nil_inv (h : ShL P [] ds) : ds = [] := by cases h; rfl
theorem ShL.cons_inv {f : Field} {r : List Field} (h : ShL P (f :: r) ds) : ∃ a b, ds = a ++ b ∧ Sh P f.type a ∧ ShL P r b := by
  cases h with
  | cons h hr => exact ⟨_, _, rfl, h, hr⟩
/-- Rows that are all of one make. -/
theorem rows_map {α : Type} {q : α → Prop} {enc' : α → List D} : ∀ {l : List (List D)}, (∀ row ∈ l, ∃ a, row = enc' a ∧ q a) → ∃ as : List α, l = as.map enc' ∧ ∀ a ∈ as, q a
  | [], _ => ⟨[], rfl, by simp⟩
  | row :: r, h => by
    obtain ⟨a, rfl, ha⟩ := h row List.mem_cons_self
    obtain ⟨as, rfl, has⟩ := rows_map (fun row hr => h row (List.mem_cons_of_mem _ hr))
    exact ⟨a :: as, rfl, fun x hx => by exact (List.mem_cons.1 hx).elim (fun e => e ▸ ha) (has x)⟩
end
end Go.Abs
