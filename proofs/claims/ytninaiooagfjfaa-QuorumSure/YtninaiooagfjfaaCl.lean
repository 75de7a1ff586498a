/- One operation at a time, eighth part: append. No conditions. -/
import Derived.Test.YtninaiooagfjfaaCk
import Derived.Maps.AppendAt
import Derived.Laws.AppendOwnNone
set_option linter.unusedVariables false
set_option linter.unusedSimpArgs false
namespace Go.Abs
open Go Go.RowKit

section
variable {P : Program} {Γ : Ctx} {fr : List (Nat × V)} {hp hp' : List (Nat × Blk)} {U : Nat → Prop} {a : Act} {w w' : World} {m : Nat → Value} {tk : Nat} {L : List (Use P)} {o : Oper}
  {K : Act → World → Prop} {Q : Exit → Act → World → Prop}

theorem rowT_eq {e sz b : Nat} (h : rowT P e = some (sz, b)) : ∃ i z, P.info? e = some i ∧ i.zero = some z ∧ i.size = sz ∧ i.bytes = b ∧ z.cells.size = sz ∧ 0 < sz ∧ 0 < b := by
  unfold rowT at h
  cases hi : P.info? e with
  | none => rw [hi] at h; cases h
  | some i =>
    rw [hi] at h
    simp only [] at h
    cases hz : i.zero with
    | none => rw [hz] at h; cases h
    | some z =>
      rw [hz] at h
      simp only [] at h
      split at h
      · rename_i hc
        simp only [Option.some.injEq, Prod.mk.injEq] at h
        exact ⟨i, z, rfl, hz, h.1, h.2, by rw [hc.1, h.1], by omega, by omega⟩
      · cases h
theorem rowT_size {e sz b : Nat} (h : rowT P e = some (sz, b)) : sizeT P e = some sz ∧ (zeroT P e).isSome = true := by
  obtain ⟨i, z, h1, h2, h3, _⟩ := rowT_eq h
  exact ⟨by simp [sizeT, h1, h3], by simp [zeroT, h1, h2]⟩

/-- The cells of a slice that is read. -/
theorem rows_cells (H : RelH Γ hp U w m) {y : V} {rows : List (List D)} {u : Value} {sz : Nat} (h : RV (Cw Γ.F hp m w) m U y u) (hv : rowsV hp y = some rows) (hrows : ∀ row ∈ rows, row.length = sz) (hsz : 0 < sz) :
    ∃ A c, ∃ vals : List Value, u = .slice A rows.length c ∧ vals.length = rows.length * sz ∧ (∀ j v, vals[j]? = some v → ∃ ad, A = some ad ∧ w.cell? (ad.add j) = some v) ∧ (∀ v ∈ vals, v.oneCell' = true) ∧
      ∀ (j : Nat) (row : List D), rows[j]? = some row → ∀ (k : Nat) (x : D), row[k]? = some x → ∃ v, vals[j * sz + k]? = some v ∧ RD (Cw Γ.F hp m w) x v := by
  have fromRD : ∀ u, RD (Cw Γ.F hp m w) (.lst rows) u → ∃ A c, ∃ vals : List Value, u = .slice A rows.length c ∧ vals.length = rows.length * sz ∧ (∀ j v, vals[j]? = some v → ∃ ad, A = some ad ∧ w.cell? (ad.add j) = some v) ∧ (∀ v ∈ vals, v.oneCell' = true) ∧
      ∀ (j : Nat) (row : List D), rows[j]? = some row → ∀ (k : Nat) (x : D), row[k]? = some x → ∃ v, vals[j * sz + k]? = some v ∧ RD (Cw Γ.F hp m w) x v := by
    intro u hu
    cases hu with
    | lst _ A c sz' cv hc hm hsz' hA hO hR =>
      have get : ∀ i, i < rows.length * sz → ∃ row x, rows[i / sz]? = some row ∧ row[i % sz]? = some x := by
        intro i hi
        have h1 : i / sz < rows.length := (Nat.div_lt_iff_lt_mul hsz).2 hi
        have h2 : i % sz < sz := Nat.mod_lt _ hsz
        exact ⟨rows[i / sz], (rows[i / sz])[i % sz]'(by rw [hrows _ (List.getElem_mem h1)]; exact h2), by simp [h1], by simp [hrows _ (List.getElem_mem h1), h2]⟩
      have esz : ∀ j row, rows[j]? = some row → sz' = sz := fun j row hj => by rw [← hsz' row (List.mem_of_getElem? hj), hrows row (List.mem_of_getElem? hj)]
      refine ⟨A, c, (List.range (rows.length * sz)).map fun i => cv (i / sz) (i % sz), rfl, by simp, fun j v hj => ?_, fun v hv => ?_, fun j row hj k x hk => ?_⟩
      · have hlt : j < rows.length * sz := by have := (List.getElem?_eq_some_iff.1 hj).1; simpa using this
        simp [hlt] at hj
        subst hj
        obtain ⟨row, x, h1, h2⟩ := get j hlt
        obtain ⟨ad, e, hc'⟩ := hA _ _ h1 _ x h2
        refine ⟨ad, e, ?_⟩
        rw [esz _ _ h1] at hc'
        have := hc'.cell
        rwa [Nat.mul_comm, Nat.div_add_mod] at this
      · obtain ⟨i, hi, rfl⟩ := List.mem_map.1 hv
        obtain ⟨row, x, h1, h2⟩ := get i (List.mem_range.1 hi)
        exact hO _ _ h1 _ x h2
      · have hjl : j < rows.length := (List.getElem?_eq_some_iff.1 hj).1
        have hkl : k < sz := by rw [← hrows row (List.mem_of_getElem? hj)]; exact (List.getElem?_eq_some_iff.1 hk).1
        have hlt : j * sz + k < rows.length * sz := by
          have : (j + 1) * sz ≤ rows.length * sz := Nat.mul_le_mul_right sz hjl
          rw [Nat.add_mul, Nat.one_mul] at this; omega
        refine ⟨cv j k, ?_, hR _ _ hj _ x hk⟩
        have e1 : (j * sz + k) / sz = j := by rw [Nat.mul_comm, Nat.mul_add_div hsz, Nat.div_eq_of_lt hkl, Nat.add_zero]
        have e2 : (j * sz + k) % sz = k := by rw [Nat.mul_comm, Nat.mul_add_mod, Nat.mod_eq_of_lt hkl]
        simp [hlt, e1, e2]
  unfold rowsV at hv
  split at hv
  · obtain rfl := Option.some.inj hv
    exact ⟨none, 0, [], by rw [h.lit_inv]; rfl, by simp, by simp, by simp, by simp⟩
  · obtain rfl := Option.some.inj hv
    cases h with
    | d h => exact fromRD u h
  · rename_i t
    split at hv
    · rename_i e sz2 l ht
      obtain rfl := Option.some.inj hv
      cases h with
      | own _ hU ho =>
        obtain ⟨xs, hown, hrow, hO, hv⟩ := H.hb _ _ ht
        rcases hown.2 with ⟨e1, e2⟩ | ⟨g, cap, cur, e1, _, hg, hle, hcap, hcs, htake⟩
        · have : l = [] := List.eq_nil_of_length_eq_zero e2
          subst this
          exact ⟨none, 0, [], by rw [e1]; rfl, by simp, by simp, by simp, by simp⟩
        · have hbl : (m t).ownBlock = some g := by rw [e1]; rfl
          by_cases h0 : l = []
          · subst h0
            exact ⟨_, cap, [], by rw [e1], by simp, by simp, by simp, by simp⟩
          · have e3 : sz2 = sz := by
              cases l with
              | nil => exact absurd rfl h0
              | cons r l' => rw [← hrow r List.mem_cons_self, hrows r List.mem_cons_self]
            subst e3
            exact ⟨_, cap, xs, by rw [e1], hown.1, fun j v hj => ⟨_, rfl, hown.cells hbl j v hj⟩, hO, hv⟩
    · cases hv
  · cases hv

theorem run_append_empty {t e : Nat} {i : TypeInfo} (ht : P.underlying t = some (.slice e)) (hi : P.info? e = some i) (ty : Nat) {v : Value} {n size : Nat} {xs : List Value} (hown : w.ownsRow 0 e size v n xs) (A : Option Addr) (c : Nat) :
    (Builtin.append_ #[t, t] ty #[v, .slice A 0 c]).run P w = .ok v w := by
  rcases hown.2 with ⟨rfl, rfl⟩ | ⟨g, cap, cur, rfl, _, hg, hle, _⟩
  · cases A <;> simp [Builtin.append_, run_underlying ht, sizeOf, typeInfo, hi, Builtin.lenOf, Builtin.firstCells, loadCells, loadCellsFrom, go_sem]
  · cases A <;> simp [Builtin.append_, run_underlying ht, sizeOf, typeInfo, hi, Builtin.lenOf, Builtin.firstCells, loadCells, loadCellsFrom, hle, storeCells, go_sem]

/-- append to a row of the run's own (or to nil). -/
theorem sound_append {t e sz b : Nat} {x y : Operand} {vx vy : V} {l l2 : List (List D)} {g : List Nat} {c : Call} (ho : o.op = .call c) (hc : c.callee = .builtin .append) (ha : c.args = #[x, y]) (hat : c.argTypes = #[t, t]) (he : elemT P t = some e) (hrt : rowT P e = some (sz, b))
    (hx : eo fr x = some vx) (hy : eo fr y = some vy) (hv : rowsV hp vy = some l2) (hown : (vx = nilV ∧ l = [] ∧ g = []) ∨ ∃ t0, vx = .own t0 ∧ lk hp t0 = some (.row e sz l) ∧ g = [t0] ∧ Γ.n0 ≤ t0) :
    Sound P Γ fr hp U tk o ⟨.own tk, g, [], some (.row e sz (l ++ l2)), (l.length + l2.length) * b ≤ 140737488355328 ∧ (∀ row ∈ l2, row.length = sz), L⟩ := by
  intro a w m K Q hR htk hp' hd hK
  obtain ⟨hbytes, hrows2⟩ := hp'
  obtain ⟨i, z, hi, hz, hsize, hby, hzs, hsz, hb⟩ := rowT_eq hrt
  have hu := elemT_eq he
  have hrx := eo_rel hR hx
  obtain ⟨A, cp, vals, e1, hvl, hvc, hv1, hvd⟩ := rows_cells hR.mem (eo_rel hR hy) hv hrows2 hsz
  -- the row that is appended to
  have hrow : ∃ xs : List Value, w.ownsRow 0 e sz (a.eval x) l.length xs ∧ (∀ row ∈ l, row.length = sz) ∧ (∀ u : Value, u ∈ xs → u.oneCell' = true) ∧
      (∀ (j : Nat) (row : List D), l[j]? = some row → ∀ (k : Nat) (x : D), row[k]? = some x → ∃ u, xs[j * sz + k]? = some u ∧ RD (Cw Γ.F hp m w) x u) ∧
      (∀ g', (a.eval x).ownBlock = some g' → g' < w.heap.size ∧ Γ.w0.heap.size ≤ g' ∧ ¬ Γ.F g' ∧ (∀ t b, lk (delAll hp g) t = some b → blkOf (m t) ≠ some g') ∧ ∀ p v, Cw Γ.F hp m w p v → p.block ≠ g') := by
    rcases hown with ⟨rfl, rfl, rfl⟩ | ⟨t0, rfl, h0, rfl, hn0⟩
    · rw [hrx.lit_inv]
      exact ⟨[], World.ownsRow_nil w 0 e sz, by simp, by simp, by simp, fun g' hg' => by simp [Value.ownBlock] at hg'⟩
    · generalize a.eval x = cx at *
      cases hrx with
      | own _ hU hone =>
        obtain ⟨xs, hown, hrow, hO, hv⟩ := hR.mem.hb _ _ h0
        refine ⟨xs, hown, hrow, hO, hv, fun g' hg' => ?_⟩
        have hbk : blkOf (m t0) = some g' := by
          cases hm : m t0 <;> rw [hm] at hg' <;> simp [Value.ownBlock] at hg'
          rename_i A' n' c'
          cases A' with
          | none => simp [Value.ownBlock] at hg'
          | some ad => simpa [Value.ownBlock, blkOf] using hg'
        refine ⟨(hR.mem.hb _ _ h0).lt hbk, hR.mem.new _ _ _ h0 hbk hn0, hR.mem.nF _ _ _ h0 hbk, fun t b ht e => ?_, fun p v hc e => hc.far _ _ h0 (by rw [hbk, e])⟩
        rw [lk_delAll] at ht
        split at ht
        · cases ht
        · rename_i hne
          exact hne (by simp [hR.mem.sep t t0 b _ g' ht h0 e hbk])
  obtain ⟨xs, hown', hrowl, hxO, hxd, hblk⟩ := hrow
  have hlen63 : l.length + l2.length ≤ maxLen := by
    simp only [maxLen]
    have := Nat.le_mul_of_pos_right (l.length + l2.length) hb
    omega
  -- what the machine does
  have hrun : ∃ v' w', (Builtin.append_ #[t, t] o.type #[a.eval x, a.eval y]).run P w = .ok v' w' ∧ w'.ownsRow 0 e sz v' (l.length + l2.length) (xs ++ vals) ∧ w.grownBy w' (a.eval x).ownBlock ∧ (v'.ownBlock = (a.eval x).ownBlock ∨ v'.ownBlock = some w.heap.size) := by
    rw [e1]
    by_cases h0 : l2.length = 0
    · have hnil : vals = [] := List.eq_nil_of_length_eq_zero (by rw [hvl, h0, Nat.zero_mul])
      refine ⟨a.eval x, w, by rw [h0]; exact run_append_empty hu hi o.type hown' A cp, by rw [h0, hnil, List.append_nil]; exact hown', ⟨rfl, rfl, rfl, Nat.le_refl _, fun _ _ _ => rfl⟩, .inl rfl⟩
    · have hA : ∃ ad, A = some ad := by
        have : 0 < vals.length := by rw [hvl]; exact Nat.mul_pos (by omega) hsz
        obtain ⟨ad, e, _⟩ := hvc 0 vals[0] (by simp [this])
        exact ⟨ad, e⟩
      obtain ⟨ad, rfl⟩ := hA
      obtain ⟨v', w', h1, h2, h3, _, h5⟩ := run_append_own_at (P := P) w 0 t o.type e i z sz b hu hi hz hsize hby hzs hsz (a.eval x) l.length xs hown' ad l2.length cp vals hvl (fun j u hj => by obtain ⟨ad', e, hc⟩ := hvc j u hj; obtain rfl := Option.some.inj e; exact hc) hv1 hlen63 hbytes (Nat.zero_le _)
      exact ⟨v', w', h1, h2, h3, h5⟩
  obtain ⟨v', w', h1, h2, h3, h5⟩ := hrun
  have hex : (execOp a.eval o).run P w = .ok (.value v') w' := by
    simp [execOp, ho, resolve, hc, ha, hat, invoke, builtin, h1]
  refine wp_value hex (hK _ _ (upm m tk v') ?_ (put_defers a _ _))
  have haft : after hp tk (⟨.own tk, g, [], some (.row e sz (l ++ l2)), (l.length + l2.length) * b ≤ 140737488355328 ∧ (∀ row ∈ l2, row.length = sz), L⟩ : Rs P) = (tk, .row e sz (l ++ l2)) :: delAll hp g := rfl
  rw [haft]
  have hv'b : ∀ g', blkOf v' = some g' → v'.ownBlock = some g' := fun g' hg' => by
    cases v' <;> simp [blkOf, Value.ownBlock] at hg' ⊢
    · rename_i ad
      rcases h2.2 with ⟨e2, _⟩ | ⟨_, _, _, e2, _⟩ <;> cases e2
    · rename_i A' n' c'
      cases A' <;> simp [blkOf, Value.ownBlock] at hg' ⊢
      exact hg'
  have hnewb : ∀ g', blkOf v' = some g' → Γ.w0.heap.size ≤ g' ∧ ¬ Γ.F g' ∧ (∀ t b, lk (delAll hp g) t = some b → blkOf (m t) ≠ some g') ∧ ∀ p v, Cw Γ.F hp m w p v → p.block ≠ g' := fun g' hg' => by
    rcases h5 with h5 | h5
    · have := hblk g' (by rw [← h5]; exact hv'b g' hg')
      exact this.2
    · have e3 : g' = w.heap.size := by have := hv'b g' hg'; rw [h5] at this; exact (Option.some.inj this).symm
      subst e3
      refine ⟨hR.mem.keeps.size, fun hf => ?_, fun t b ht e => ?_, fun p v hc e => ?_⟩
      · have := hR.mem.hF _ hf; have := hR.mem.keeps.size; omega
      · have := (hR.mem.hb t b (delAll_sub t b ht)).lt e; omega
      · have := hc.lt; omega
  have hkeep : ∀ g', g' < w.heap.size → (a.eval x).ownBlock ≠ some g' → w'.heap[g']? = w.heap[g']? := fun g' hg' hne => h3.block g' hg' (fun e => hne e.symm)
  have hC : ∀ p v, Cw Γ.F hp m w p v → Cw Γ.F ((tk, .row e sz (l ++ l2)) :: delAll hp g) (upm m tk v') w' p v := fun p v hc' => by
    refine ⟨(World.cell?_of_block (w := w) (hkeep _ hc'.lt (fun e => (hblk _ e).2.2.2.2 p v hc' rfl))).trans hc'.cell, hc'.notF, fun t b0 ht => ?_⟩
    rw [lk_cons] at ht
    by_cases h : tk = t
    · subst h
      rw [upm_self]
      intro e
      exact (hnewb _ e).2.2.2 p v hc' rfl
    · rw [if_neg h] at ht
      rw [upm_ne _ _ (fun e => h e.symm)]
      exact hc'.far t b0 (delAll_sub t b0 ht)
  have hone' : v'.oneCell' = true := by rcases h2.2 with ⟨e2, _⟩ | ⟨_, _, _, e2, _⟩ <;> rw [e2] <;> rfl
  have hR2 : Rel Γ fr ((tk, .row e sz (l ++ l2)) :: delAll hp g) (also U tk) a w' (upm m tk v') := by
    refine hR.turn hC (upm_lt m _ htk) (fun _ h => .inl h) ?_
    have H := hR.mem
    refine ⟨fun t b0 ht => ?_, fun t t' b1 b2 g' q1 q2 f1 f2 => ?_, fun t b0 ht => ?_, fun t b0 g' ht hg' hn => ?_, fun t ht => by rw [upm_ne _ _ (by intro e; subst e; exact htk (H.n0 _ ht))]; exact H.old t ht, fun t ht => .inl (H.n0 t ht), fun t b0 g' ht hg' => ?_, H.hF, ?_⟩
    · rw [lk_cons] at ht
      by_cases h : tk = t
      · subst h
        rw [if_pos rfl] at ht
        obtain rfl := Option.some.inj ht
        have hxl : xs.length = l.length * sz := hown'.1
        refine ⟨xs ++ vals, by rw [upm_self, List.length_append]; exact h2, fun row hrow => ?_, fun u hu => ?_, fun j row hj k x' hk => ?_⟩
        · rcases List.mem_append.1 hrow with h | h
          · exact hrowl row h
          · exact hrows2 row h
        · rcases List.mem_append.1 hu with h | h
          · exact hxO u h
          · exact hv1 u h
        · by_cases hjl : j < l.length
          · rw [List.getElem?_append_left hjl] at hj
            obtain ⟨u, hu, hd'⟩ := hxd j row hj k x' hk
            have : j * sz + k < xs.length := (List.getElem?_eq_some_iff.1 hu).1
            exact ⟨u, by rw [List.getElem?_append_left this]; exact hu, hd'.mono hC⟩
          · rw [List.getElem?_append_right (by omega)] at hj
            obtain ⟨u, hu, hd'⟩ := hvd _ row hj k x' hk
            refine ⟨u, ?_, hd'.mono hC⟩
            have e4 : j * sz + k = xs.length + ((j - l.length) * sz + k) := by
              rw [hxl, Nat.sub_mul]
              have : l.length * sz ≤ j * sz := Nat.mul_le_mul_right sz (by omega)
              omega
            rw [e4, List.getElem?_append_right (by omega), Nat.add_sub_cancel_left]; exact hu
      · rw [if_neg h] at ht
        have ht' := delAll_sub t b0 ht
        refine (H.hb t b0 ht').mono hC (upm_lt m _ htk) (fun _ h => .inl h) (H.lt t b0 ht') (fun g' hg' => hkeep g' ((H.hb t b0 ht').lt hg') (fun e => (hblk g' e).2.2.2.1 t b0 ht hg'))
    · rw [lk_cons] at q1 q2
      by_cases c1 : tk = t <;> by_cases c2 : tk = t'
      · omega
      · subst c1
        rw [if_neg c2] at q2
        rw [upm_self] at f1
        rw [upm_ne _ _ (fun e => c2 e.symm)] at f2
        exact absurd f2 ((hnewb g' f1).2.2.1 t' b2 q2)
      · subst c2
        rw [if_neg c1] at q1
        rw [upm_self] at f2
        rw [upm_ne _ _ (fun e => c1 e.symm)] at f1
        exact absurd f1 ((hnewb g' f2).2.2.1 t b1 q1)
      · rw [if_neg c1] at q1
        rw [if_neg c2] at q2
        rw [upm_ne _ _ (fun e => c1 e.symm)] at f1
        rw [upm_ne _ _ (fun e => c2 e.symm)] at f2
        exact H.sep t t' b1 b2 g' (delAll_sub _ _ q1) (delAll_sub _ _ q2) f1 f2
    · rw [lk_cons] at ht
      by_cases h : tk = t
      · exact .inr h.symm
      · rw [if_neg h] at ht; exact .inl (H.lt t b0 (delAll_sub _ _ ht))
    · rw [lk_cons] at ht
      by_cases h : tk = t
      · subst h; rw [upm_self] at hg'; exact (hnewb g' hg').1
      · rw [if_neg h] at ht
        rw [upm_ne _ _ (fun e => h e.symm)] at hg'
        exact H.new t b0 g' (delAll_sub _ _ ht) hg' hn
    · rw [lk_cons] at ht
      by_cases h : tk = t
      · subst h; rw [upm_self] at hg'; exact (hnewb g' hg').2.1
      · rw [if_neg h] at ht
        rw [upm_ne _ _ (fun e => h e.symm)] at hg'
        exact H.nF t b0 g' (delAll_sub _ _ ht) hg'
    · refine ⟨h3.os.trans H.keeps.os, h3.tape.trans H.keeps.tape, h3.output.trans H.keeps.output, Nat.le_trans H.keeps.size h3.size, fun g' hlt hn => ?_⟩
      rw [hkeep g' (Nat.lt_of_lt_of_le hlt H.keeps.size) (fun e => by have := (hblk g' e).2.1; omega)]
      exact H.keeps.block g' hlt hn
  have h7 := rel_putA (o := o) hR2 hd (RV.own (C := Cw Γ.F ((tk, .row e sz (l ++ l2)) :: delAll hp g) (upm m tk v') w') tk (U := also U tk) (m := upm m tk v') (.inr rfl) (by rw [upm_self]; exact hone'))
  rw [upm_self] at h7
  exact h7

end
end Go.Abs
