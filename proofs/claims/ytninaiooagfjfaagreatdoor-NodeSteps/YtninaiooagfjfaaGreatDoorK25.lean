/- strings.Builder as contracts over abstract values. No conditions. -/
import Derived.Test.YtninaiooagfjfaaGreatDoorK24
import Derived.Test.YtninaiooagfjfaaGreatDoorK08
set_option linter.unusedVariables false
set_option linter.unusedSimpArgs false
set_option maxRecDepth 20000
namespace Go.Abs
open Go Go.RowKit Go.Proofs

def nilP : V := .d (.lit (.pointer none))
def nilS : V := .d (.lit (.slice none 0 0))
theorem str138 : ∀ w, (underlying 138).run Tryz.prog w = .ok (.struct #[{ name := "addr", type := 135, offset := 0, embedded := false, tag := "", pkgPath := "strings", byteOffset := 0 }, { name := "buf", type := 136, offset := 1, embedded := false, tag := "", pkgPath := "strings", byteOffset := 8 }]) w := run_underlying Tryz.underlying138

theorem f140_nil : CallsA Tryz.prog 140 [.ptr 0 0] [.var 138 [nilP, nilS]] (.tup []) [.var 138 [.ptr 0 0, nilS]] := by
  intro w m nt F us hG H hl ha
  obtain ⟨u, rfl, hu⟩ := args1 hl ha
  cases hu with
  | ptr _ _ b hU hm =>
  obtain ⟨g, arr, e1, hg, hs, hO, hr⟩ := H.hb 0 _ (show lk (enum [.var 138 [nilP, nilS]] 0) 0 = some (.var 138 [nilP, nilS]) from rfl)
  have e2 : b = g := by rw [hm] at e1; simpa using e1
  subst e2
  have hs2 : arr.size = 2 := hs
  have x0 : arr[0]? = some (.pointer none) := by
    have h9 : arr[0]? = some (arr[0]'(by omega)) := by simp [hs2]
    have := (hr 0 _ _ rfl h9).lit_inv
    rw [h9, this]
  have x1 : arr[1]? = some (.slice none 0 0) := by
    have h9 : arr[1]? = some (arr[1]'(by omega)) := by simp [hs2]
    have := (hr 1 _ _ rfl h9).lit_inv
    rw [h9, this]
  have hgl : b < w.heap.size := (Array.getElem?_eq_some_iff.1 hg).1
  refine (f140_at mx Tryz.func140 Tryz.func154 Tryz.isAgg138 Tryz.sizeOf138 str138 Tryz.underlying135 Tryz.isAgg135 Tryz.sizeOf135 Tryz.underlying174 Tryz.isAgg174 Tryz.sizeOf174 (by kernel_rfl) (by kernel_rfl) b w (by rw [cell_of_row w b 0 arr 138 (0, 0) hg]; exact x0) (by simp [World.shape?, hg, hs2]) (by simp [World.frozen?, hg])).mono fun e w' he => ?_
  obtain ⟨rfl, rfl⟩ := he
  have hnew : (w.setCell ⟨b, 0, none⟩ (.pointer (some ⟨b, 0, none⟩))).heap[b]? = some (.cells (arr.setIfInBounds 0 (.pointer (some ⟨b, 0, none⟩))) 138 (0, 0)) := by simp [World.setCell, Array.getElem?_modify, hg]
  have y0 : (arr.setIfInBounds 0 (.pointer (some ⟨b, 0, none⟩)))[0]? = some (.pointer (some ⟨b, 0, none⟩)) := by simp [hs2]
  have y1 : (arr.setIfInBounds 0 (.pointer (some ⟨b, 0, none⟩)))[1]? = some (.slice none 0 0) := by rw [Array.getElem?_setIfInBounds_ne (by omega)]; exact x1
  have HW := H.written (w' := w.setCell ⟨b, 0, none⟩ (.pointer (some ⟨b, 0, none⟩))) (k := 0) (g := b) (b' := .var 138 [.ptr 0 0, nilS]) rfl (by rw [hm]; rfl) (fun g' h1 h2 => Below.heap_setCell w _ _ g' h2) (by simp [World.setCell]) rfl rfl rfl
    ⟨b, _, hm, hnew, by simp [hs2], fun k u hk => (by
      match k with
      | 0 => rw [y0] at hk; obtain rfl := Option.some.inj hk; rfl
      | 1 => rw [y1] at hk; obtain rfl := Option.some.inj hk; rfl
      | k + 2 => rw [Array.getElem?_eq_none (by simp [hs2])] at hk; cases hk), fun k x u hx hk => (by
      match k with
      | 0 =>
        rw [y0] at hk; obtain rfl := Option.some.inj hk
        obtain rfl := Option.some.inj hx
        exact .ptr 0 0 b hU hm
      | 1 =>
        rw [y1] at hk; obtain rfl := Option.some.inj hk
        obtain rfl := Option.some.inj hx
        exact .d (.lit _)
      | k + 2 => cases hx)⟩
  exact ⟨_, m, _, rfl, HW, .tup [] #[] rfl (by simp)⟩

/-- What a builder that has been written holds. -/
theorem builder_cells {w : World} {m : Nat → Value} {nt : Nat} {F : Nat → Prop} {x : V} {s : ByteArray} (H : RelH ⟨w, 2, m, nt, F⟩ (enum [.var 138 [x, .own 1], .inv (ByI 5 s)] 0) (fun t => t < 2) w m) {b : Nat} (hm : m 0 = .pointer (some ⟨b, 0, none⟩)) :
    ∃ g c cur fz, w.cell? ⟨b, 1, none⟩ = some (.slice (some ⟨g, 0, none⟩) s.size c) ∧ blkOf (m 1) = some g ∧ w.heap[g]? = some (.cells cur 5 fz) ∧ s.size ≤ c ∧ cur.size = c ∧ cur.toList.take s.size = Lib.strCells s := by
  obtain ⟨g, arr, e1, hg, hs, hO, hr⟩ := H.hb 0 _ (show lk (enum [.var 138 [x, .own 1], .inv (ByI 5 s)] 0) 0 = some (.var 138 [x, .own 1]) from rfl)
  have e2 : b = g := by rw [hm] at e1; simpa using e1
  subst e2
  have hs2 : arr.size = 2 := hs
  have h9 : arr[1]? = some (arr[1]'(by omega)) := by simp [hs2]
  have h8 := hr 1 _ _ rfl h9
  have e3 : arr[1]'(by omega) = m 1 := by generalize arr[1]'(by omega) = z at h8; cases h8; rfl
  obtain ⟨g1, hg1, hl1, hI⟩ := H.hb 1 _ (show lk (enum [.var 138 [x, .own 1], .inv (ByI 5 s)] 0) 1 = some (.inv (ByI 5 s)) from rfl)
  obtain ⟨g2, c, cur, fz, em, hob, hle, hcs, htake, _⟩ := hI
  have e4 : g1 = g2 := by rw [em] at hg1; simpa [blkOf] using hg1.symm
  subst e4
  exact ⟨g1, c, cur, fz, by rw [cell_of_row w b 1 arr 138 (0, 0) hg, h9, e3, em], hg1, hob, hle, hcs, htake⟩

theorem cb117 : callB Tryz.prog 117 = true := by kernel_rfl
theorem f117_walk (s : ByteArray) : CallsA Tryz.prog 117 [.ptr 0 0] [.var 138 [.ptr 0 0, .own 1], .inv (ByI 5 s)] (.d (i64 s.size)) [.var 138 [.ptr 0 0, .own 1], .inv (ByI 5 s)] := by
  intro w m nt F us hG H hl ha
  obtain ⟨u, rfl, hu⟩ := args1 hl ha
  cases hu with
  | ptr _ _ b hU hm =>
  obtain ⟨g, c, cur, fz, h1, _⟩ := builder_cells H hm
  refine (f117_at mx Tryz.func117 Tryz.isAgg138 Tryz.sizeOf138 str138 Tryz.underlying136 Tryz.isAgg136 Tryz.sizeOf136 Tryz.underlying3 Tryz.isAgg3 Tryz.sizeOf3 b w _ _ _ h1).mono fun e w' he => ?_
  obtain ⟨rfl, rfl⟩ := he
  exact ⟨_, m, _, rfl, H, .d (.lit _)⟩

theorem cb118 : callB Tryz.prog 118 = true := by kernel_rfl
theorem f118_walk (s : ByteArray) (h0 : 0 < s.size) (hmax : s.size ≤ 140737488355328) : CallsA Tryz.prog 118 [.ptr 0 0] [.var 138 [.ptr 0 0, .own 1], .inv (ByI 5 s)] (.d (str s)) [.dead, .dead] := by
  intro w m nt F us hG H hl ha
  obtain ⟨u, rfl, hu⟩ := args1 hl ha
  cases hu with
  | ptr _ _ b hU hm =>
  obtain ⟨g, c, cur, fz, h1, hg1, hob, hle, hcs, htake⟩ := builder_cells H hm
  have hlen : s.data.toList.length = s.size := Array.length_toList
  refine (f118_at mx Tryz.func118 Tryz.isAgg138 Tryz.sizeOf138 str138 Tryz.underlying136 Tryz.isAgg136 Tryz.sizeOf136 Tryz.underlying167 Tryz.isAgg167 Tryz.sizeOf167 Tryz.underlying3 Tryz.isAgg3 Tryz.sizeOf3 Tryz.underlying9 Tryz.isAgg9 Tryz.sizeOf9 (by kernel_rfl) b g c cur fz s.data.toList w (by rw [hlen]; exact h1) (by intro e; rw [e] at hlen; simp at hlen; omega) hob (by omega) hcs (by omega) (by rw [hlen, htake, Lib.strCells_eq])).mono fun e w' he => ?_
  obtain ⟨rfl, rfl⟩ := he
  have hframe : ∀ g', g' ≠ g → (w.drew.freeze ⟨g, 0, none⟩ s.data.toList.length).heap[g']? = w.heap[g']? := fun g' hne => by
    unfold World.freeze
    split
    · rfl
    · show (w.heap.modify g _)[g']? = _
      rw [Array.getElem?_modify, if_neg (fun e => hne e.symm)]
  have hsz : (w.drew.freeze ⟨g, 0, none⟩ s.data.toList.length).heap.size = w.heap.size := by
    unfold World.freeze
    split
    · rfl
    · simp
  refine ⟨.string ⟨s.data.toList.toArray⟩, m, fun t => t < 2, rfl, ⟨fun t b0 ht => (by cases ht), fun t t' b1 b2 g' h1 => (by cases h1), fun t b0 ht => (by cases ht), fun t b0 g' ht => (by cases ht), H.old, H.n0, fun t b0 g' ht => (by cases ht), H.hF, ?_⟩, ?_⟩
  · have e : (w.drew.freeze ⟨g, 0, none⟩ s.data.toList.length).os = w.os ∧ (w.drew.freeze ⟨g, 0, none⟩ s.data.toList.length).tape = w.tape ∧ (w.drew.freeze ⟨g, 0, none⟩ s.data.toList.length).output = w.output := by
      unfold World.freeze
      split <;> exact ⟨rfl, rfl, rfl⟩
    refine ⟨e.1, e.2.1, e.2.2, by rw [hsz]; exact Nat.le_refl _, fun g' hlt hn => ?_⟩
    refine hframe g' fun e9 => ?_
    subst e9
    exact hn 1 (by simp) hg1
  · rw [Array.toArray_toList]
    exact .d (.lit _)
end Go.Abs
