/- One operation at a time, seventh part: slice literals, addresses of elements, slices of slices and of strings. No conditions. -/
import Derived.Test.YtninaiooagfjfaaCj
set_option linter.unusedVariables false
set_option linter.unusedSimpArgs false
namespace Go.Abs
open Go Go.RowKit

section
variable {P : Program} {Γ : Ctx} {fr : List (Nat × V)} {hp hp' : List (Nat × Blk)} {U : Nat → Prop} {a : Act} {w w' : World} {m : Nat → Value} {tk : Nat} {L : List (Use P)} {o : Oper}
  {K : Act → World → Prop} {Q : Exit → Act → World → Prop}

theorem rowsA_rel (hR : Rel Γ fr hp U a w m) (hl : ∀ t b, lk hp' t = some b → lk hp t = some b) {sz : Nat} : ∀ (ps : List (Nat × Operand)) (k0 : Nat) (l : List (List D)) (g : List Nat), rowsA hp fr sz k0 ps = some (l, g) → (∀ t, t ∈ g → lk hp' t = none) →
    l.length = ps.length ∧ (ps.map fun q => (q.1, a.eval q.2)) = (((ps.map fun q => a.eval q.2).zipIdx k0).map fun x => (x.2, x.1)) ∧ (∀ v ∈ (ps.map fun q => a.eval q.2), v.cells.size = sz) ∧ (∀ row ∈ l, row.length = sz) ∧
    ∀ (j : Nat) (row : List D), l[j]? = some row → ∀ (k : Nat) (x : D), row[k]? = some x → ∃ z, ((ps.map fun q => a.eval q.2)[j]?).bind (fun v => v.cells[k]?) = some z ∧ RD (Cw Γ.F hp' m w) x z ∧ z.oneCell' = true
  | [], k0, l, g, h, _ => by
    simp only [rowsA, Option.some.injEq, Prod.mk.injEq] at h
    obtain ⟨rfl, rfl⟩ := h
    exact ⟨rfl, rfl, by simp, by simp, by simp⟩
  | (i, x) :: r, k0, l, g, h, hn => by
    simp only [rowsA] at h
    split at h
    · rename_i hik
      subst hik
      split at h
      · rename_i v hv
        split at h
        · rename_i ds l' g' h1 h2
          split at h
          · rename_i hlen
            simp only [Option.some.injEq, Prod.mk.injEq] at h
            obtain ⟨rfl, rfl⟩ := h
            obtain ⟨i1, i2, i3, i4, i5⟩ := rowsA_rel hR hl r (i + 1) l' g' h2 (fun t ht => hn t (List.mem_append_right _ ht))
            have hrv := eo_rel hR hv
            obtain ⟨d1, d2⟩ := toDs_rel hR.mem hl (cellsV v) ds h1 (fun t ht => hn t (List.mem_append_left _ ht))
            have hone : (cellsV v).all one = true := by
              rw [List.all_eq_true]
              have : ∀ (vs : List V) (ds : List D), toDs hp vs = some ds → ∀ y ∈ vs, one y = true := by
                intro vs
                induction vs with
                | nil => intro ds _ y hy; cases hy
                | cons v0 r0 ih =>
                  intro ds hds y hy
                  simp only [toDs] at hds
                  split at hds
                  · rename_i q1 q2 hq1 hq2
                    cases hy with
                    | head =>
                      unfold toD at hq1
                      split at hq1
                      · rename_i c
                        cases hc : c.oneCell' with
                        | false => rw [hc] at hq1; cases hq1
                        | true => simpa [one] using hc
                      · rfl
                      · rfl
                      · cases hq1
                    | tail _ hy => exact ih q2 hq2 y hy
                  · cases hds
              exact this _ _ h1
            obtain ⟨c1, c2, c3⟩ := rv_cells hrv hone
            refine ⟨by simp [i1], ?_, ?_, ?_, ?_⟩
            · simp only [List.map_cons, List.zipIdx_cons, i2]
            · intro u hu
              simp only [List.map_cons, List.mem_cons] at hu
              rcases hu with rfl | hu
              · rw [← c1, ← d1]; exact hlen
              · exact i3 u hu
            · intro row hrow
              rcases List.mem_cons.1 hrow with rfl | hrow
              · exact hlen
              · exact i4 row hrow
            · intro j row hj k y hk
              cases j with
              | zero =>
                simp only [List.getElem?_cons_zero, Option.some.injEq] at hj
                subst hj
                have hkl : k < (a.eval x).cells.size := by rw [← c1, ← d1]; exact (List.getElem?_eq_some_iff.1 hk).1
                have hkv : k < (cellsV v).length := by rw [c1]; exact hkl
                have hz : (a.eval x).cells[k]? = some (a.eval x).cells[k] := by simp [hkl]
                refine ⟨(a.eval x).cells[k], by simp, ?_⟩
                exact d2 k (cellsV v)[k] y _ (by simp [hkv]) hk (c3 k _ _ (by simp [hkv]) hz)
              | succ j =>
                simp only [List.getElem?_cons_succ] at hj
                simpa using i5 j row hj k y hk
          · cases h
        · cases h
      · cases h
    · cases h

theorem sound_buildSlice {t e n sz : Nat} {ps : Array (Nat × Operand)} {l : List (List D)} {g : List Nat} (ho : o.op = .buildSlice t n ps) (he : elemT P t = some e) (hs : sizeT P e = some sz) (hr : rowsA hp fr sz 0 ps.toList = some (l, g)) (hl : l.length = n) (hm : n * sz ≤ 16777216) (hsz : 0 < sz)
    (hz : (zeroT P e).isSome = true) : Sound P Γ fr hp U tk o ⟨.own tk, g, [], some (.row e sz l), True, L⟩ := by
  intro a w m K Q hR
  refine sound_newRow (P := P) (Γ := Γ) (fr := fr) (hp := hp) (U := U) (tk := tk) (L := L) (o := o) (rowsA_rel hR delAll_sub ps.toList 0 l g hr (fun t ht => by rw [lk_delAll, if_pos ht])).2.2.2.1 (fun a w m hR _ => ?_) a w m K Q hR
  obtain ⟨i1, i2, i3, i4, i5⟩ := rowsA_rel hR (delAll_sub (g := g)) ps.toList 0 l g hr (fun t ht => by rw [lk_delAll, if_pos ht])
  obtain ⟨ie, hie, hsize⟩ := sizeT_eq hs
  obtain ⟨zs, hzs⟩ := Option.isSome_iff_exists.1 hz
  obtain ⟨ie', z, hie', hzz, _⟩ := zeroT_eq hzs
  obtain rfl : ie = ie' := Option.some.inj (hie.symm.trans hie')
  subst hsize
  have hu := elemT_eq he
  have hparts : (ps.map fun (q : Nat × Operand) => (q.1, a.eval q.2)).toList = (((ps.toList.map fun q => a.eval q.2).zipIdx 0).map fun x => (x.2, x.1)) := by rw [← i2]; simp
  have hvl : (ps.toList.map fun q => a.eval q.2).length = n := by rw [List.length_map, ← i1, hl]
  have hcells : ((ps.toList.map fun q => a.eval q.2).flatMap fun v => v.cells.toList).length = n * ie.size := by
    have : ∀ (vs : List Value), (∀ v ∈ vs, v.cells.size = ie.size) → (vs.flatMap fun v => v.cells.toList).length = vs.length * ie.size := by
      intro vs hv
      induction vs with
      | nil => simp
      | cons v r ih =>
        rw [List.flatMap_cons, List.length_append, ih (fun u hu => hv u (List.mem_cons_of_mem _ hu)), Array.length_toList, hv v List.mem_cons_self, List.length_cons, Nat.add_mul, Nat.one_mul, Nat.add_comm]
    rw [this _ i3, hvl]
  refine ⟨w, ((ps.toList.map fun q => a.eval q.2).flatMap fun v => v.cells.toList).toArray, n, ?_, rfl, rfl, rfl, rfl, by omega, ?_, by simpa using hcells, ?_, ?_⟩
  · refine run_v (Instr.buildSlice t n (ps.map fun (i, x) => (i, a.eval x))) (by simp only [execOp, ho]) ?_
    rw [hl]
    by_cases h0 : n = 0
    · subst h0
      have hps : ps.toList = [] := List.eq_nil_of_length_eq_zero (by rw [← i1, hl])
      have hps' : ps = #[] := by cases ps; simp at hps; subst hps; rfl
      subst hps'
      simp [Instr.buildSlice, run_underlying hu, sizeOf, typeInfo, hie, Instr.fill, newRow, go_sem]
    · have hpos : ¬ n * ie.size = 0 := by
        intro h; rcases Nat.mul_eq_zero.1 h with h | h <;> omega
      refine run_buildSlice w t e n _ _ ie z hu hie hzz (by omega) hpos ?_
      rw [hparts]
      exact Great.fill_whole hsz _ _ i3 (by simp [hvl])
  · simp only [maxLen]
    have := Nat.le_mul_of_pos_right n hsz
    omega
  · intro k u hk _
    rw [List.getElem?_toArray, Great.flat_get hsz _ i3] at hk
    cases hj : (ps.toList.map fun q => a.eval q.2)[k / ie.size]? with
    | none => rw [hj] at hk; cases hk
    | some v =>
      have hjl : k / ie.size < l.length := by rw [hl, ← hvl]; exact (List.getElem?_eq_some_iff.1 hj).1
      have hrl := i4 _ (List.getElem_mem hjl)
      have hkm : k % ie.size < ie.size := Nat.mod_lt _ hsz
      obtain ⟨z', hz', _, h1⟩ := i5 (k / ie.size) l[k / ie.size] (by simp [hjl]) (k % ie.size) (l[k / ie.size][k % ie.size]'(by omega)) (by simp [hrl, hkm])
      rw [hz'] at hk
      obtain rfl := Option.some.inj hk
      exact h1
  · intro j row hj k x hk
    obtain ⟨z', hz', hd, _⟩ := i5 j row hj k x hk
    have hkl : k < ie.size := by rw [← i4 row (List.mem_of_getElem? hj)]; exact (List.getElem?_eq_some_iff.1 hk).1
    refine ⟨z', ?_, hd⟩
    rw [List.getElem?_toArray, Great.flat_get hsz _ i3]
    have e1 : (j * ie.size + k) / ie.size = j := by rw [Nat.mul_comm, Nat.mul_add_div hsz, Nat.div_eq_of_lt hkl, Nat.add_zero]
    have e2 : (j * ie.size + k) % ie.size = k := by rw [Nat.mul_comm, Nat.mul_add_mod, Nat.mod_eq_of_lt hkl]
    rw [e1, e2]; exact hz'

theorem run_indexAt {t e sz : Nat} (he : elemT P t = some e) (hs : sizeT P e = some sz) (ad : Addr) (n c : Nat) (k : IntKind) (j : Int) (h0 : 0 ≤ j) (h1 : j < n) (w : World) :
    (Instr.indexAt t (.slice (some ad) n c) (.int k j)).run P w = .ok (.pointer (some (ad.add (j.toNat * sz)))) w := by
  obtain ⟨i, hi, hsz⟩ := sizeT_eq hs
  have hu := elemT_eq he
  simp [Instr.indexAt, asIntOf, run_underlying hu, h0, h1, sizeOf, typeInfo, hi, hsz, go_sem]

theorem sound_indexLst {t e sz : Nat} {x i : Operand} {l : List (List D)} {k : IntKind} {j : Int} (ho : o.op = .indexAddr t x i) (hx : eo fr x = some (.d (.lst l))) (hi : eo fr i = some (.d (.lit (.int k j)))) (he : elemT P t = some e) (hs : sizeT P e = some sz) :
    Sound P Γ fr hp U tk o ⟨.ip (l.getD j.toNat []), [], [], none, 0 < sz ∧ 0 ≤ j ∧ j < l.length ∧ ∀ row ∈ l, row.length = sz, L⟩ :=
  sound_pure fun a w m hR hp' => by
    obtain ⟨hsz, h0, hlt, hrows⟩ := hp'
    have hr := eo_rel hR hx
    have h2 := (eo_rel hR hi).lit_inv
    generalize a.eval = ρ at *
    generalize hc : ρ x = c at *
    have hj : j.toNat < l.length := by omega
    have hgd : l.getD j.toNat [] = l[j.toNat] := by simp [hj]
    have hget : l[j.toNat]? = some l[j.toNat] := by simp [hj]
    have hlen : (l[j.toNat]).length = sz := hrows _ (List.getElem_mem hj)
    rw [hgd]
    cases hr with
    | d h => cases h with
      | lst _ A cp sz' cv hle hm hsz' hA hO hR' =>
        have e1 : sz' = sz := by rw [← hsz' _ (List.getElem_mem hj), hlen]
        subst e1
        obtain ⟨ad, hAd, _⟩ := hA _ _ hget 0 (l[j.toNat][0]'(by omega)) (by simp [hlen, hsz])
        subst hAd
        refine ⟨_, run_v (Instr.indexAt t (ρ x) (ρ i)) (by simp only [execOp, ho]) (by rw [hc, h2]; exact run_indexAt he hs ad _ cp k j h0 hlt w), ?_⟩
        refine .ip _ _ (fun q => cv j.toNat q) (fun q y hq => ?_) (fun q y hq => hO _ _ hget q y hq) (fun q y hq => hR' _ _ hget q y hq)
        obtain ⟨ad', e2, hcell⟩ := hA _ _ hget q y hq
        obtain rfl := Option.some.inj e2
        rw [add_add]; exact hcell

theorem sound_indexOwn {t e sz q e' : Nat} {x i : Operand} {l : List (List D)} {k : IntKind} {j : Int} (ho : o.op = .indexAddr t x i) (hx : eo fr x = some (.own q)) (hi : eo fr i = some (.d (.lit (.int k j)))) (he : elemT P t = some e) (hs : sizeT P e = some sz) (hq : lk hp q = some (.row e' sz l)) :
    Sound P Γ fr hp U tk o ⟨.ept q sz j.toNat 0, [], [], none, 0 ≤ j ∧ j < l.length, L⟩ :=
  sound_pure fun a w m hR hp' => by
    obtain ⟨h0, hlt⟩ := hp'
    have hr := eo_rel hR hx
    have h2 := (eo_rel hR hi).lit_inv
    generalize a.eval = ρ at *
    generalize hc : ρ x = c at *
    cases hr with
    | own _ hU hone =>
      obtain ⟨xs, hown, hrow, hO, hv⟩ := hR.mem.hb _ _ hq
      rcases hown.2 with ⟨e1, e2⟩ | ⟨g, cap, cur, e1, _⟩
      · exfalso; omega
      · refine ⟨_, run_v (Instr.indexAt t (ρ x) (ρ i)) (by simp only [execOp, ho]) (by rw [hc, h2, e1]; exact run_indexAt he hs _ _ cap k j h0 hlt w), ?_⟩
        rw [add_plain, Nat.zero_add]
        exact .ept q sz j.toNat 0 g _ cap hU e1

theorem sound_sliceStr {t : Nat} {x : Operand} {lo hi : Option Operand} {s : ByteArray} {l h : Int} (ho : o.op = .slice t x lo hi none) (hx : eo fr x = some (.d (.lit (.string s)))) (ht : strT P t = true)
    (hlo : (lo = none ∧ l = 0) ∨ ∃ y k, lo = some y ∧ eo fr y = some (.d (.lit (.int k l)))) (hhi : (hi = none ∧ h = s.size) ∨ ∃ y k, hi = some y ∧ eo fr y = some (.d (.lit (.int k h)))) {p : Prop} (hp0 : p → 0 ≤ l ∧ l ≤ h ∧ h ≤ s.size) :
    Sound P Γ fr hp U tk o ⟨.d (.lit (.string (s.extract l.toNat h.toNat))), [], [], none, p, L⟩ :=
  sound_pure fun a w m hR hp' => by
    obtain ⟨h0, h1, h2⟩ := hp0 hp'
    have hr := (eo_rel hR hx).lit_inv
    have hl : (lo.map a.eval = none ∧ l = 0) ∨ ∃ k, lo.map a.eval = some (.int k l) := by
      rcases hlo with ⟨rfl, e⟩ | ⟨y, k, rfl, e⟩
      · exact .inl ⟨rfl, e⟩
      · exact .inr ⟨k, by simp [(eo_rel hR e).lit_inv]⟩
    have hh : (hi.map a.eval = none ∧ h = s.size) ∨ ∃ k, hi.map a.eval = some (.int k h) := by
      rcases hhi with ⟨rfl, e⟩ | ⟨y, k, rfl, e⟩
      · exact .inl ⟨rfl, e⟩
      · exact .inr ⟨k, by simp [(eo_rel hR e).lit_inv]⟩
    generalize a.eval = ρ at *
    refine ⟨_, run_v (Instr.sliceAt t (ρ x) (lo.map ρ) (hi.map ρ) none) (by simp only [execOp, ho]; rfl) ?_, .d (.lit _)⟩
    have a1 : 0 ≤ h := by omega
    have a2 : (l : Int) ≤ (h.toNat : Int) := by omega
    rw [hr]
    rcases hl with ⟨e1, e2⟩ | ⟨k1, e1⟩ <;> rcases hh with ⟨e3, e4⟩ | ⟨k2, e3⟩ <;> rw [e1, e3]
    · subst e2 e4; simp [Instr.sliceAt, run_underlying (strT_eq ht), Instr.slice, Instr.sliceBounds, go_sem]
    · subst e2; simp [Instr.sliceAt, run_underlying (strT_eq ht), Instr.slice, Instr.sliceBounds, Instr.sliceBound, asIntOf, a1, h2, go_sem]
    · subst e4; simp [Instr.sliceAt, run_underlying (strT_eq ht), Instr.slice, Instr.sliceBounds, Instr.sliceBound, asIntOf, h0, h1, go_sem]
    · simp [Instr.sliceAt, run_underlying (strT_eq ht), Instr.slice, Instr.sliceBounds, Instr.sliceBound, asIntOf, h0, h1, h2, a1, a2, go_sem]
      intro hh; omega

/-- An operation that yields a value and leaves the world; some rows are given up. -/
theorem sound_gone {v : V} {g : List Nat} {p : Prop} (h : ∀ a w m, Rel Γ fr hp U a w m → p → ∃ u, (execOp a.eval o).run P w = .ok (.value u) w ∧ RV (Cw Γ.F (delAll hp g) m w) m U v u) : Sound P Γ fr hp U tk o ⟨v, g, [], none, p, L⟩ := by
  intro a w m K Q hR htk hp' hd hK
  obtain ⟨u, hr, hv⟩ := h a w m hR hp'
  exact wp_value hr (hK _ _ m ((rel_putA (hR.less delAll_sub) hd hv).given fun t h => .inl h) (put_defers a _ u))

theorem rowsV_rel (H : RelH Γ hp U w m) (hl : ∀ t b, lk hp' t = some b → lk hp t = some b) {v : V} {rows : List (List D)} {u : Value} (h : RV (Cw Γ.F hp m w) m U v u) (hv : rowsV hp v = some rows) (hn : ∀ t, t ∈ ownsOf [v] → lk hp' t = none) :
    RD (Cw Γ.F hp' m w) (.lst rows) u := by
  unfold rowsV at hv
  split at hv
  · obtain rfl := Option.some.inj hv
    rw [h.lit_inv]
    exact .lst [] none 0 0 (fun _ _ => undef) (Nat.le_refl _) (Nat.zero_le _) (by simp) (by simp) (by simp) (by simp)
  · obtain rfl := Option.some.inj hv
    cases h with
    | d h => exact h.mono fun p v hc => hc.less hl
  · rename_i t
    split at hv
    · rename_i e sz l ht
      obtain rfl := Option.some.inj hv
      cases h with
      | own _ hU ho => exact freeze H hl ht (hn t (by simp [ownsOf]))
    · cases hv
  · cases hv

theorem rd_cut {C : Addr → Value → Prop} {rows : List (List D)} {A : Option Addr} {n cap sz l h : Nat} (hr : RD C (.lst rows) (.slice A n cap)) (hrows : ∀ row ∈ rows, row.length = sz) (h1 : l ≤ h) (h2 : h ≤ rows.length) :
    RD C (.lst ((rows.take h).drop l)) (.slice (if cap = l then A else A.map (·.add (l * sz))) (h - l) (cap - l)) ∧ n = rows.length ∧ n ≤ cap := by
  cases hr with
  | lst _ _ _ sz' cv hle hm hsz hA hO hR =>
    refine ⟨?_, rfl, hle⟩
    have hlen : ((rows.take h).drop l).length = h - l := by rw [List.length_drop, List.length_take]; omega
    have get : ∀ j row, ((rows.take h).drop l)[j]? = some row → rows[l + j]? = some row ∧ l + j < h := by
      intro j row hj
      rw [List.getElem?_drop, List.getElem?_take] at hj
      split at hj
      · exact ⟨hj, by assumption⟩
      · cases hj
    rw [← hlen]
    refine .lst _ _ _ sz' (fun j k => cv (l + j) k) (by rw [hlen]; omega) (by omega) (fun row hrow => hsz row (List.mem_of_mem_take (List.mem_of_mem_drop hrow))) (fun j row hj k x hk => ?_) (fun j row hj k x hk => hO _ _ (get j row hj).1 k x hk) (fun j row hj k x hk => hR _ _ (get j row hj).1 k x hk)
    obtain ⟨g1, g2⟩ := get j row hj
    obtain ⟨ad, e, hc⟩ := hA _ _ g1 k x hk
    have e2 : sz' = sz := by rw [← hsz row (List.mem_of_getElem? g1), hrows row (List.mem_of_getElem? g1)]
    subst e e2
    rw [if_neg (by omega)]
    refine ⟨ad.add (l * sz'), rfl, ?_⟩
    rw [add_add]
    rw [show l * sz' + (j * sz' + k) = (l + j) * sz' + k by rw [Nat.add_mul]; omega]
    exact hc

theorem sound_sliceLst {t e sz : Nat} {x : Operand} {lo hi : Option Operand} {v : V} {rows : List (List D)} {l h : Int} (ho : o.op = .slice t x lo hi none) (hx : eo fr x = some v) (hv : rowsV hp v = some rows) (he : elemT P t = some e) (hs : sizeT P e = some sz)
    (hlo : (lo = none ∧ l = 0) ∨ ∃ y k, lo = some y ∧ eo fr y = some (.d (.lit (.int k l)))) (hhi : (hi = none ∧ h = rows.length) ∨ ∃ y k, hi = some y ∧ eo fr y = some (.d (.lit (.int k h)))) {p : Prop} (hp0 : p → 0 ≤ l ∧ l ≤ h ∧ h ≤ rows.length ∧ ∀ row ∈ rows, row.length = sz) :
    Sound P Γ fr hp U tk o ⟨.d (.lst ((rows.take h.toNat).drop l.toNat)), ownsOf [v], [], none, p, L⟩ :=
  sound_gone fun a w m hR hp' => by
    obtain ⟨h0, h1, h2, h3⟩ := hp0 hp'
    have hr := rowsV_rel hR.mem (delAll_sub (g := ownsOf [v])) (eo_rel hR hx) hv (fun t ht => by rw [lk_delAll, if_pos ht])
    have hl : (lo.map a.eval = none ∧ l = 0) ∨ ∃ k, lo.map a.eval = some (.int k l) := by
      rcases hlo with ⟨rfl, e⟩ | ⟨y, k, rfl, e⟩
      · exact .inl ⟨rfl, e⟩
      · exact .inr ⟨k, by simp [(eo_rel hR e).lit_inv]⟩
    have hh : (hi.map a.eval = none ∧ h = rows.length) ∨ ∃ k, hi.map a.eval = some (.int k h) := by
      rcases hhi with ⟨rfl, e⟩ | ⟨y, k, rfl, e⟩
      · exact .inl ⟨rfl, e⟩
      · exact .inr ⟨k, by simp [(eo_rel hR e).lit_inv]⟩
    generalize a.eval = ρ at *
    generalize hc : ρ x = c at *
    have hsl : ∃ A n cap, c = .slice A n cap := by cases hr; exact ⟨_, _, _, rfl⟩
    obtain ⟨A, n, cap, rfl⟩ := hsl
    obtain ⟨r1, r2, r3⟩ := rd_cut (l := l.toNat) (h := h.toNat) hr h3 (by omega) (by omega)
    refine ⟨_, run_v (Instr.sliceAt t (ρ x) (lo.map ρ) (hi.map ρ) none) (by simp only [execOp, ho]; rfl) ?_, .d r1⟩
    obtain ⟨i, hi', hsz⟩ := sizeT_eq hs
    have hu := elemT_eq he
    have a1 : 0 ≤ h := by omega
    have a2 : h ≤ (cap : Int) := by omega
    have a3 : l ≤ (h.toNat : Int) := by omega
    have a4 : (n : Int) = rows.length := by omega
    rw [hc]
    rcases hl with ⟨e1, e2⟩ | ⟨k1, e1⟩ <;> rcases hh with ⟨e3, e4⟩ | ⟨k2, e3⟩ <;> rw [e1, e3]
    · subst e2 e4; simp [Instr.sliceAt, run_underlying hu, Instr.slice, Instr.sliceBounds, sizeOf, typeInfo, hi', hsz, r2, go_sem]
    · subst e2; simp [Instr.sliceAt, run_underlying hu, Instr.slice, Instr.sliceBounds, Instr.sliceBound, asIntOf, a1, a2, sizeOf, typeInfo, hi', hsz, go_sem]
    · subst e4
      have a5 : l ≤ (n : Int) := by omega
      simp [Instr.sliceAt, run_underlying hu, Instr.slice, Instr.sliceBounds, Instr.sliceBound, asIntOf, h0, a5, sizeOf, typeInfo, hi', hsz, r2, go_sem]
      try (intro hh; omega)
    · simp [Instr.sliceAt, run_underlying hu, Instr.slice, Instr.sliceBounds, Instr.sliceBound, asIntOf, h0, a1, a2, a3, sizeOf, typeInfo, hi', hsz, go_sem]
      try (intro hh; omega)

end
end Go.Abs
