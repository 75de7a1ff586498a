/- One operation at a time, fourth part: variables in memory: made, read, written. No conditions. -/
import Derived.Test.YtninaiooagfjfaaCg
set_option linter.unusedVariables false
set_option linter.unusedSimpArgs false
namespace Go.Abs
open Go Go.RowKit

section
variable {P : Program} {Γ : Ctx} {fr : List (Nat × V)} {hp : List (Nat × Blk)} {U : Nat → Prop} {a : Act} {w w' : World} {m : Nat → Value} {tk : Nat} {L : List (Use P)} {o : Oper}
  {K : Act → World → Prop} {Q : Exit → Act → World → Prop}

theorem run_newVar (t : TypeId) (v : Value) (w : World) : (newVar t v).run P w = .ok ⟨w.heap.size, 0, none⟩ (w.alloc (.cells v.cells t)) := rfl

theorem zeroT_eq {t : TypeId} {zs : List Value} (h : zeroT P t = some zs) : ∃ i z, P.info? t = some i ∧ i.zero = some z ∧ z.cells.toList = zs := by
  unfold zeroT at h
  cases hi : P.info? t with
  | none => rw [hi] at h; cases h
  | some i =>
    rw [hi] at h
    simp only [Option.bind_some] at h
    cases hz : i.zero with
    | none => rw [hz] at h; cases h
    | some z => rw [hz] at h; exact ⟨i, z, rfl, hz, Option.some.inj h⟩

theorem run_zero {t : TypeId} {i : TypeInfo} {z : Value} (hi : P.info? t = some i) (hz : i.zero = some z) (w : World) : (zeroValue t).run P w = .ok z w := by
  simp [zeroValue, typeInfo, hi, hz, go_sem]

/-- An operation that makes a variable. -/
theorem sound_new {ty : TypeId} {cs : List V}
    (h : ∀ a w m, Rel Γ fr hp U a w m → ∃ arr : Array Value, (execOp a.eval o).run P w = .ok (.value (.pointer (some ⟨w.heap.size, 0, none⟩))) (w.alloc (.cells arr ty)) ∧ arr.size = cs.length ∧ (∀ (k : Nat) (u : Value), arr[k]? = some u → u.oneCell' = true) ∧
      ∀ (k : Nat) (x : V) (u : Value), cs[k]? = some x → arr[k]? = some u → RV (Cw Γ.F hp m w) m U x u) : Sound P Γ fr hp U tk o ⟨.ptr tk 0, [], [], some (.var ty cs), True, L⟩ := by
  intro a w m K Q hR htk _ hd hK
  obtain ⟨arr, hr, hl, hO, hv⟩ := h a w m hR
  obtain ⟨m', hR', hm⟩ := hR.newVar (tk := tk) htk hl hO hv
  refine wp_value hr (hK _ _ m' ?_ (put_defers a _ _))
  have : after hp tk (⟨.ptr tk 0, [], [], some (.var ty cs), True, L⟩ : Rs P) = (tk, .var ty cs) :: hp := rfl
  rw [this]
  exact rel_putA hR' hd (.ptr tk 0 _ (.inr rfl) hm)

theorem sound_alloc {t : TypeId} {zs : List Value} (ho : o.op = .alloc t) (hz : zeroT P t = some zs) (hO : zs.all (·.oneCell') = true) : Sound P Γ fr hp U tk o ⟨.ptr tk 0, [], [], some (.var t (zs.map fun z => .d (.lit z))), True, L⟩ :=
  sound_new fun a w m hR => by
    obtain ⟨i, z, hi, hzz, rfl⟩ := zeroT_eq hz
    refine ⟨z.cells, run_v (Instr.alloc t true (.tuple #[])) (by simp only [execOp, ho]) ?_, by simp, fun k u hu => ?_, fun k x u hx hu => ?_⟩
    · simp only [Instr.alloc, Sem.run_bind, run_zero hi hzz, Result.andThen_ok, run_newVar]; rfl
    · rw [List.all_eq_true] at hO
      exact hO u (by rw [Array.mem_toList_iff]; exact Array.mem_of_getElem? hu)
    · rw [List.getElem?_map, Array.getElem?_toList, hu] at hx
      obtain rfl := Option.some.inj hx
      exact .d (.lit u)

theorem rv_cells {C : Addr → Value → Prop} {v : V} {u : Value} (h : RV C m U v u) (hO : (cellsV v).all one = true) : (cellsV v).length = u.cells.size ∧ (∀ (k : Nat) (z : Value), u.cells[k]? = some z → z.oneCell' = true) ∧
    ∀ (k : Nat) (x : V) (z : Value), (cellsV v)[k]? = some x → u.cells[k]? = some z → RV C m U x z := by
  have single : ∀ (v : V) (u : Value), RV C m U v u → u.oneCell' = true → u.cells = #[u] := by
    intro v u _ h; cases u <;> first | rfl | (simp [Value.oneCell'] at h)
  have fin : ∀ (v : V) (u : Value), RV C m U v u → u.oneCell' = true → cellsV v = [v] → (cellsV v).length = u.cells.size ∧ (∀ (k : Nat) (z : Value), u.cells[k]? = some z → z.oneCell' = true) ∧
      ∀ (k : Nat) (x : V) (z : Value), (cellsV v)[k]? = some x → u.cells[k]? = some z → RV C m U x z := by
    intro v u h h1 hc
    rw [single v u h h1, hc]
    refine ⟨rfl, fun k z hz => ?_, fun k x z hx hz => ?_⟩
    · cases k <;> simp at hz; subst hz; exact h1
    · cases k <;> simp at hz hx; subst hz; subst hx; exact h
  cases h with
  | d h =>
    refine fin _ _ (.d h) ?_ rfl
    cases h with
    | lit v => simpa [cellsV, one] using hO
    | lst => rfl
  | own t h ho => exact fin _ _ (.own t h ho) ho rfl
  | ptr t off b h hm => exact fin _ _ (.ptr t off b h hm) rfl rfl
  | ept t sz j k b n c h hm => exact fin _ _ (.ept t sz j k b n c h hm) rfl rfl
  | ip cs ad cv h1 h2 h3 => exact fin _ _ (.ip cs ad cv h1 h2 h3) rfl rfl
  | agg cs vs hl hO' h => exact ⟨hl, hO', h⟩
  | tup cs vs hl h => simp [cellsV, one] at hO
  | fn f cs vs hl h => exact fin _ _ (.fn f cs vs hl h) rfl rfl
  | when b x v _ _ => simp [cellsV, one] at hO
  | any v => simp [cellsV, one] at hO

theorem sound_box {t : TypeId} {n : Nat} {x : Operand} {v : V} (ho : o.op = .box t x) (hx : eo fr x = some v) (hO : (cellsV v).all one = true) : Sound P Γ fr hp U tk o ⟨.ptr tk 0, [], [], some (.var t (cellsV v)), True, L⟩ :=
  sound_new fun a w m hR => by
    obtain ⟨h1, h2, h3⟩ := rv_cells (eo_rel hR hx) hO
    exact ⟨(a.eval x).cells, run_v (Instr.box t (a.eval x)) (by simp only [execOp, ho]) rfl, h1.symm, h2, h3⟩

/-! ### reading -/
theorem run_loadCellsFrom (a : Addr) (f : Nat → Value) : ∀ (n i : Nat) (acc : Array Value) (w : World), (∀ k, k < n → w.cell? (a.add (i + k)) = some (f (i + k))) → (loadCellsFrom a i n acc).run P w = .ok (acc ++ ((List.range' i n).map f).toArray) w
  | 0, i, acc, w, h => by simp [loadCellsFrom, go_sem]
  | n + 1, i, acc, w, h => by
    have h0 := h 0 (by omega)
    simp only [Nat.add_zero] at h0
    simp only [loadCellsFrom, Sem.run_bind]
    have : (load (a.add i)).run P w = .ok (f i) w := by simp [load, Sem.run, h0]
    rw [this, Result.andThen_ok, run_loadCellsFrom a f n (i + 1) _ w (fun k hk => by have := h (k + 1) (by omega); rw [show i + 1 + k = i + (k + 1) by omega]; exact this)]
    simp [List.range'_succ]
theorem run_loadCells' (a : Addr) (f : Nat → Value) (n : Nat) (w : World) (h : ∀ k, k < n → w.cell? (a.add k) = some (f k)) : (loadCells a n).run P w = .ok ((List.range n).map f).toArray w := by
  unfold loadCells
  rw [run_loadCellsFrom a f n 0 #[] w (fun k hk => by simpa using h k hk)]
  simp [List.range_eq_range']

theorem run_loadVar {t : TypeId} {n : Nat} {b : Bool} (ha : aggT P t = some b) (hs : sizeT P t = some n) (ad : Addr) (f : Nat → Value) (w : World) (h : ∀ k, k < (if b then n else 1) → w.cell? (ad.add k) = some (f k)) :
    (loadVar t ad).run P w = .ok (if b then .agg ((List.range n).map f).toArray else f 0) w := by
  obtain ⟨i, hi, hn⟩ := sizeT_eq hs
  unfold loadVar
  rw [Sem.run_bind, aggT_run ha]
  cases b
  · have h0 := h 0 (by simp)
    have e : ad.add 0 = ad := by simp [Addr.add]
    rw [e] at h0
    simp [load, Sem.run, h0]
  · have := run_loadCells' (P := P) ad f n w (fun k hk => h k (by simpa using hk))
    have e1 : (sizeOf t).run P w = .ok n w := by simp [sizeOf, typeInfo, hi, hn, go_sem]
    simp only [if_true, Result.andThen_ok, Sem.run_bind, e1, this]
    rfl

theorem rv_agg_of {C : Addr → Value → Prop} (cs : List V) (f : Nat → Value) (hO : ∀ k, k < cs.length → (f k).oneCell' = true) (h : ∀ (k : Nat) (x : V), cs[k]? = some x → RV C m U x (f k)) : RV C m U (.agg cs) (.agg ((List.range cs.length).map f).toArray) := by
  refine .agg _ _ (by simp) (fun k u hu => ?_) (fun k x u hx hu => ?_)
  · simp only [List.getElem?_toArray, List.getElem?_map] at hu
    cases hk : (List.range cs.length)[k]? with
    | none => rw [hk] at hu; cases hu
    | some k' =>
      rw [hk] at hu
      obtain ⟨hlt, e⟩ := List.getElem?_eq_some_iff.1 hk
      simp at e hlt
      subst e
      obtain rfl := Option.some.inj hu
      exact hO _ hlt
  · have hlt : k < cs.length := (List.getElem?_eq_some_iff.1 hx).1
    simp [hlt] at hu
    subst hu
    exact h k x hx

theorem sound_load {t : TypeId} {n : Nat} {x : Operand} {v u : V} (ho : o.op = .load t x) (hx : eo fr x = some v) {p : Prop} (hu : loadA P hp t v = some (u, p)) (hs : sizeT P t = some n) : Sound P Γ fr hp U tk o ⟨u, [], [], none, p, L⟩ :=
  sound_pure fun a w m hR hp' => by
    have hr := eo_rel hR hx
    generalize a.eval = ρ at *
    generalize hc : ρ x = c at *
    have key : ∀ ad z, c = .pointer (some ad) → (loadVar t ad).run P w = .ok z w → (execOp ρ o).run P w = .ok (.value z) w := fun ad z e hz =>
      run_v (Instr.loadAt t (ρ x)) (by simp only [execOp, ho]) (by rw [hc, e]; simpa [Instr.loadAt, Instr.sureAddr, go_sem] using hz)
    unfold loadA at hu
    split at hu
    · rename_i k off
      split at hu
      · rename_i ty cs hk
        cases hr with
        | ptr _ _ b h1 h2 =>
          obtain ⟨g, arr, e, hg, hsz, hO, hv⟩ := hR.mem.hb _ _ hk
          rw [h2] at e
          simp only [Value.pointer.injEq, Option.some.injEq, Addr.mk.injEq, and_true] at e
          subst e
          have hcell : ∀ k, k < arr.size → w.cell? ⟨b, k, none⟩ = some (arr.getD k undef) := fun k hk => by
            simp [World.cell?, hg, hk]
          split at hu
          · rename_i n' ha hs'
            obtain rfl : n = n' := Option.some.inj (hs.symm.trans hs')
            split at hu
            · rename_i hlen
              simp only [Option.some.injEq, Prod.mk.injEq] at hu
              obtain ⟨rfl, _⟩ := hu
              rw [cut_eq] at hlen ⊢
              have hle : off + n ≤ cs.length ∨ n = 0 := by simp only [List.length_take, List.length_drop] at hlen; omega
              refine ⟨_, key _ _ rfl (run_loadVar ha hs _ (fun k => arr.getD (off + k) undef) w (fun k hk => by rw [add_plain]; simp at hk; exact hcell _ (by omega))), ?_⟩
              have := rv_agg_of (m := m) (U := U) (C := Cw Γ.F hp m w) ((cs.drop off).take n) (fun k => arr.getD (off + k) undef) (fun k hk => ?_) (fun k x hx => ?_)
              · rw [hlen] at this; simpa using this
              · rw [hlen] at hk
                have : off + k < arr.size := by omega
                exact hO (off + k) _ (by simp [this])
              · rw [List.getElem?_take, List.getElem?_drop] at hx
                split at hx
                · have hlt : off + k < cs.length := (List.getElem?_eq_some_iff.1 hx).1
                  exact hv _ _ _ hx (by simp [hsz, hlt])
                · cases hx
            · cases hu
          · rename_i ha
            split at hu
            · rename_i u' hu'
              simp only [Option.some.injEq, Prod.mk.injEq] at hu
              obtain ⟨rfl, _⟩ := hu
              rw [nth_eq] at hu'
              have hlt : off < cs.length := (List.getElem?_eq_some_iff.1 hu').1
              refine ⟨arr.getD off undef, ?_, hv _ _ _ hu' (by simp [hsz, hlt])⟩
              have := run_loadVar ha hs ⟨b, off, none⟩ (fun k => arr.getD (off + k) undef) w (fun k hk => by rw [add_plain]; simp at hk; subst hk; exact hcell _ (by omega))
              exact key _ _ rfl (by simpa using this)
            · cases hu
          · cases hu
      · cases hu
    · rename_i ds
      cases hr with
      | ip _ ad cv h1 h2 h3 =>
        have h1' : ∀ k, k < ds.length → w.cell? (ad.add k) = some (cv k) := fun k hk => (h1 k ds[k] (by simp [hk])).cell
        split at hu
        · rename_i n' ha hs'
          obtain rfl : n = n' := Option.some.inj (hs.symm.trans hs')
          split at hu
          · rename_i hlen
            simp only [Option.some.injEq, Prod.mk.injEq] at hu
            obtain ⟨rfl, _⟩ := hu
            rw [cut_eq] at hlen ⊢
            simp only [List.drop_zero, List.length_take] at hlen ⊢
            refine ⟨_, key _ _ rfl (run_loadVar ha hs ad cv w (fun k hk => by simp at hk; exact h1' k (by omega))), ?_⟩
            have := rv_agg_of (m := m) (U := U) (C := Cw Γ.F hp m w) ((ds.take n).map .d) cv (fun k hk => ?_) (fun k x hx => ?_)
            · simpa only [List.length_map, List.length_take, hlen, if_true] using this
            · simp only [List.length_map, List.length_take] at hk
              exact h2 k ds[k] (by simp)
            · rw [List.getElem?_map, List.getElem?_take] at hx
              split at hx
              · cases hdk : ds[k]? with
                | none => rw [hdk] at hx; cases hx
                | some y => rw [hdk] at hx; obtain rfl := Option.some.inj hx; exact .d (h3 k y hdk)
              · cases hx
          · cases hu
        · rename_i ha
          split at hu
          · rename_i y hdk
            simp only [Option.some.injEq, Prod.mk.injEq] at hu
            obtain ⟨rfl, _⟩ := hu
            rw [nth_eq] at hdk
            have hlt : 0 < ds.length := (List.getElem?_eq_some_iff.1 hdk).1
            have := run_loadVar ha hs ad cv w (fun k hk => by simp at hk; subst hk; exact h1' _ hlt)
            exact ⟨cv 0, key _ _ rfl (by simpa using this), .d (h3 0 y hdk)⟩
          · cases hu
        · cases hu
    · rename_i k sz j off
      split at hu
      · rename_i e sz' l hk
        split at hu
        · rename_i hsz
          subst hsz
          cases hr with
          | ept _ _ _ _ b n' c' h1 h2 =>
            obtain ⟨xs, hown, hrow, hO, hv⟩ := hR.mem.hb _ _ hk
            have hbl : (m k).ownBlock = some b := by rw [h2]; rfl
            have hcell : ∀ i u, xs[i]? = some u → w.cell? ⟨b, i, none⟩ = some u := fun i u hi => by
              have := hown.cells hbl i u hi
              rwa [add_plain, Nat.zero_add] at this
            have elem : ∀ (hj : j < l.length) i, i < sz → ∃ x u, (l.getD j [])[i]? = some x ∧ xs[j * sz + i]? = some u ∧ RD (Cw Γ.F hp m w) x u ∧ u.oneCell' = true := by
              intro hj i hi
              have hl : l.getD j [] = l[j] := by simp [hj]
              have hlen : (l[j]).length = sz := hrow _ (List.getElem_mem hj)
              obtain ⟨u, hu, hd⟩ := hv j l[j] (by simp [hj]) i (l[j][i]'(by omega)) (by simp [hlen, hi])
              exact ⟨_, u, by rw [hl]; simp [hlen, hi], hu, hd, hO u (List.mem_of_getElem? hu)⟩
            split at hu
            · rename_i n'' ha hs'
              obtain rfl : n = n'' := Option.some.inj (hs.symm.trans hs')
              split at hu
              · rename_i hlen
                simp only [Option.some.injEq, Prod.mk.injEq] at hu
                obtain ⟨rfl, rfl⟩ := hu
                rw [cut_eq]
                have hj : j < l.length := hp'
                have hll : ((l.getD j []).drop off).length = sz - off := by
                  rw [List.length_drop, show l.getD j [] = l[j] by simp [hj], hrow _ (List.getElem_mem hj)]
                have hl2 : ((((l.getD j []).drop off).take n).map V.d).length = n := by rw [List.length_map, List.length_take, hll]; omega
                refine ⟨_, key _ _ rfl (run_loadVar ha hs _ (fun i => xs.getD (j * sz + off + i) undef) w (fun i hi => ?_)), ?_⟩
                · rw [add_plain]
                  simp at hi
                  obtain ⟨x, u, _, hu, _, _⟩ := elem hj (off + i) (by omega)
                  rw [hcell _ u (by rw [← hu]; congr 1; omega)]
                  rw [List.getD_eq_getElem?_getD, Nat.add_assoc, hu]; rfl
                · have := rv_agg_of (m := m) (U := U) (C := Cw Γ.F hp m w) ((((l.getD j []).drop off).take n).map V.d) (fun i => xs.getD (j * sz + off + i) undef) (fun i hi => ?_) (fun i x hx => ?_)
                  · rw [hl2] at this; simpa using this
                  · rw [hl2] at hi
                    obtain ⟨x, u, _, hu, _, h1⟩ := elem hj (off + i) (by omega)
                    show (xs.getD _ undef).oneCell' = true
                    rw [List.getD_eq_getElem?_getD, Nat.add_assoc, hu]; exact h1
                  · have hi : i < n := by have := (List.getElem?_eq_some_iff.1 hx).1; rw [hl2] at this; exact this
                    obtain ⟨y, u, hy, hu, hd, _⟩ := elem hj (off + i) (by omega)
                    rw [List.getElem?_map, List.getElem?_take, if_pos hi, List.getElem?_drop, hy] at hx
                    obtain rfl := Option.some.inj hx
                    show RV _ _ _ _ (xs.getD _ undef)
                    rw [List.getD_eq_getElem?_getD, Nat.add_assoc, hu]; exact .d hd
              · cases hu
            · rename_i ha
              split at hu
              · rename_i hlen
                simp only [Option.some.injEq, Prod.mk.injEq] at hu
                obtain ⟨rfl, rfl⟩ := hu
                obtain ⟨y, u, hy, hu, hd, _⟩ := elem hp' off hlen
                have := run_loadVar ha hs ⟨b, j * sz + off, none⟩ (fun i => u) w (fun i hi => by simp at hi; subst hi; rw [add_plain]; exact hcell _ u (by simpa using hu))
                refine ⟨u, key _ _ rfl (by simpa using this), .d ?_⟩
                rw [List.getD_eq_getElem?_getD, hy]; exact hd
              · cases hu
            · cases hu
        · cases hu
      · cases hu
    · cases hu

end
end Go.Abs
