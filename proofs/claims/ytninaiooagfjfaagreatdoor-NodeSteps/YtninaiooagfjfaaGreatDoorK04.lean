/- One operation at a time, seventh part: slice literals, addresses of elements, slices of slices and of strings. One operation at a time, eighth part: append. No conditions. -/
import Derived.Test.YtninaiooagfjfaaGreatDoorK03
import Derived.Maps.AppendAt
import Derived.Laws.AppendOwnNone
set_option linter.unusedVariables false
set_option linter.unusedSimpArgs false
namespace Go.Abs
open Go Go.RowKit

section
variable {P : Program} {Γ : Ctx} {fr : List (Nat × V)} {hp hp' : List (Nat × Blk)} {U : Nat → Prop} {a : Act} {w w' : World} {m : Nat → Value} {tk : Nat} {L : List (Use P)} {o : Oper}
  {K : Act → World → Prop} {Q : Exit → Act → World → Prop}

theorem rowsA_rel (hR : Rel Γ fr hp U a w m) (hl : ∀ t b, lk hp' t = some b → lk hp t = some b) {sz : Nat} : ∀ (ps : List (Nat × Operand)) (k0 : Nat) (l : List (List D)) (g : List Nat), rowsA hp fr sz k0 ps = some (l, g) → (∀ t, t ∈ g → lk hp' t = none) →
    l.length = ps.length ∧ (ps.map fun q => (q.1, a.eval q.2)) = (((ps.map fun q => a.eval q.2).zipIdx k0).map fun x => (x.2, x.1)) ∧ (∀ v ∈ (ps.map fun q => a.eval q.2), v.cells.size = sz) ∧ (∀ row ∈ l, row.length = sz) ∧
    ∀ (j : Nat) (row : List D), l[j]? = some row → ∀ (k : Nat) (x : D), row[k]? = some x → ∃ z, ((ps.map fun q => a.eval q.2)[j]?).bind (fun v => v.cells[k]?) = some z ∧ RD (Cw Γ.F hp' m w) x z ∧ z.oneCell' = true
  | [], k0, l, g, h, _ => by
    simp only [rowsA, Option.some.injEq, Prod.mk.injEq] at h
    obtain ⟨rfl, rfl⟩ := h
    exact ⟨rfl, rfl, by simp, by simp, by simp⟩
  | (i, x) :: r, k0, l, g, h, hn => by
    simp only [rowsA] at h
    split at h
    · rename_i hik
      subst hik
      split at h
      · rename_i v hv
        split at h
        · rename_i ds l' g' h1 h2
          split at h
          · rename_i hlen
            simp only [Option.some.injEq, Prod.mk.injEq] at h
            obtain ⟨rfl, rfl⟩ := h
            obtain ⟨i1, i2, i3, i4, i5⟩ := rowsA_rel hR hl r (i + 1) l' g' h2 (fun t ht => hn t (List.mem_append_right _ ht))
            have hrv := eo_rel hR hv
            obtain ⟨d1, d2⟩ := toDs_rel hR.mem hl (cellsV v) ds h1 (fun t ht => hn t (List.mem_append_left _ ht))
            have hone : (cellsV v).all one = true := by
              rw [List.all_eq_true]
              have : ∀ (vs : List V) (ds : List D), toDs hp vs = some ds → ∀ y ∈ vs, one y = true := by
                intro vs
                induction vs with
                | nil => intro ds _ y hy; cases hy
                | cons v0 r0 ih =>
                  intro ds hds y hy
                  simp only [toDs] at hds
                  split at hds
                  · rename_i q1 q2 hq1 hq2
                    cases hy with
                    | head =>
                      unfold toD at hq1
                      split at hq1
                      · rename_i c
                        cases hc : c.oneCell' with
                        | false => rw [hc] at hq1; cases hq1
                        | true => simpa [one] using hc
                      · rfl
                      · rfl
                      · cases hq1
                    | tail _ hy => exact ih q2 hq2 y hy
                  · cases hds
              exact this _ _ h1
            obtain ⟨c1, c2, c3⟩ := rv_cells hrv hone
            refine ⟨by simp [i1], ?_, ?_, ?_, ?_⟩
            · simp only [List.map_cons, List.zipIdx_cons, i2]
            · intro u hu
              simp only [List.map_cons, List.mem_cons] at hu
              rcases hu with rfl | hu
              · rw [← c1, ← d1]; exact hlen
              · exact i3 u hu
            · intro row hrow
              rcases List.mem_cons.1 hrow with rfl | hrow
              · exact hlen
              · exact i4 row hrow
            · intro j row hj k y hk
              cases j with
              | zero =>
                simp only [List.getElem?_cons_zero, Option.some.injEq] at hj
                subst hj
                have hkl : k < (a.eval x).cells.size := by rw [← c1, ← d1]; exact (List.getElem?_eq_some_iff.1 hk).1
                have hkv : k < (cellsV v).length := by rw [c1]; exact hkl
                have hz : (a.eval x).cells[k]? = some (a.eval x).cells[k] := by simp [hkl]
                refine ⟨(a.eval x).cells[k], by simp, ?_⟩
                exact d2 k (cellsV v)[k] y _ (by simp [hkv]) hk (c3 k _ _ (by simp [hkv]) hz)
              | succ j =>
                simp only [List.getElem?_cons_succ] at hj
                simpa using i5 j row hj k y hk
          · cases h
        · cases h
      · cases h
    · cases h

theorem sound_buildSlice {t e n sz : Nat} {ps : Array (Nat × Operand)} {l : List (List D)} {g : List Nat} (ho : o.op = .buildSlice t n ps) (he : elemT P t = some e) (hs : sizeT P e = some sz) (hr : rowsA hp fr sz 0 ps.toList = some (l, g)) (hl : l.length = n) (hm : n * sz ≤ 16777216) (hsz : 0 < sz)
    (hz : (zeroT P e).isSome = true) : Sound P Γ fr hp U tk o ⟨.own tk, g, [], some (.row e sz l), True, L⟩ := by
  intro a w m K Q hR
  refine sound_newRow (P := P) (Γ := Γ) (fr := fr) (hp := hp) (U := U) (tk := tk) (L := L) (o := o) (rowsA_rel hR delAll_sub ps.toList 0 l g hr (fun t ht => by rw [lk_delAll, if_pos ht])).2.2.2.1 (fun a w m hR _ => ?_) a w m K Q hR
  obtain ⟨i1, i2, i3, i4, i5⟩ := rowsA_rel hR (delAll_sub (g := g)) ps.toList 0 l g hr (fun t ht => by rw [lk_delAll, if_pos ht])
  obtain ⟨ie, hie, hsize⟩ := sizeT_eq hs
  obtain ⟨zs, hzs⟩ := Option.isSome_iff_exists.1 hz
  obtain ⟨ie', z, hie', hzz, _⟩ := zeroT_eq hzs
  obtain rfl : ie = ie' := Option.some.inj (hie.symm.trans hie')
  subst hsize
  have hu := elemT_eq he
  have hparts : (ps.map fun (q : Nat × Operand) => (q.1, a.eval q.2)).toList = (((ps.toList.map fun q => a.eval q.2).zipIdx 0).map fun x => (x.2, x.1)) := by rw [← i2]; simp
  have hvl : (ps.toList.map fun q => a.eval q.2).length = n := by rw [List.length_map, ← i1, hl]
  have hcells : ((ps.toList.map fun q => a.eval q.2).flatMap fun v => v.cells.toList).length = n * ie.size := by
    have : ∀ (vs : List Value), (∀ v ∈ vs, v.cells.size = ie.size) → (vs.flatMap fun v => v.cells.toList).length = vs.length * ie.size := by
      intro vs hv
      induction vs with
      | nil => simp
      | cons v r ih =>
        rw [List.flatMap_cons, List.length_append, ih (fun u hu => hv u (List.mem_cons_of_mem _ hu)), Array.length_toList, hv v List.mem_cons_self, List.length_cons, Nat.add_mul, Nat.one_mul, Nat.add_comm]
    rw [this _ i3, hvl]
  refine ⟨w, ((ps.toList.map fun q => a.eval q.2).flatMap fun v => v.cells.toList).toArray, n, ?_, rfl, rfl, rfl, rfl, by omega, ?_, by simpa using hcells, ?_, ?_⟩
  · refine run_v (Instr.buildSlice t n (ps.map fun (i, x) => (i, a.eval x))) (by simp only [execOp, ho]) ?_
    rw [hl]
    by_cases h0 : n = 0
    · subst h0
      have hps : ps.toList = [] := List.eq_nil_of_length_eq_zero (by rw [← i1, hl])
      have hps' : ps = #[] := by cases ps; simp at hps; subst hps; rfl
      subst hps'
      simp [Instr.buildSlice, run_underlying hu, sizeOf, typeInfo, hie, Instr.fill, newRow, go_sem]
    · have hpos : ¬ n * ie.size = 0 := by
        intro h; rcases Nat.mul_eq_zero.1 h with h | h <;> omega
      refine run_buildSlice w t e n _ _ ie z hu hie hzz (by omega) hpos ?_
      rw [hparts]
      exact Great.fill_whole hsz _ _ i3 (by simp [hvl])
  · simp only [maxLen]
    have := Nat.le_mul_of_pos_right n hsz
    omega
  · intro k u hk _
    rw [List.getElem?_toArray, Great.flat_get hsz _ i3] at hk
    cases hj : (ps.toList.map fun q => a.eval q.2)[k / ie.size]? with
    | none => rw [hj] at hk; cases hk
    | some v =>
      have hjl : k / ie.size < l.length := by rw [hl, ← hvl]; exact (List.getElem?_eq_some_iff.1 hj).1
      have hrl := i4 _ (List.getElem_mem hjl)
      have hkm : k % ie.size < ie.size := Nat.mod_lt _ hsz
      obtain ⟨z', hz', _, h1⟩ := i5 (k / ie.size) l[k / ie.size] (by simp [hjl]) (k % ie.size) (l[k / ie.size][k % ie.size]'(by omega)) (by simp [hrl, hkm])
      rw [hz'] at hk
      obtain rfl := Option.some.inj hk
      exact h1
  · intro j row hj k x hk
    obtain ⟨z', hz', hd, _⟩ := i5 j row hj k x hk
    have hkl : k < ie.size := by rw [← i4 row (List.mem_of_getElem? hj)]; exact (List.getElem?_eq_some_iff.1 hk).1
    refine ⟨z', ?_, hd⟩
    rw [List.getElem?_toArray, Great.flat_get hsz _ i3]
    have e1 : (j * ie.size + k) / ie.size = j := by rw [Nat.mul_comm, Nat.mul_add_div hsz, Nat.div_eq_of_lt hkl, Nat.add_zero]
    have e2 : (j * ie.size + k) % ie.size = k := by rw [Nat.mul_comm, Nat.mul_add_mod, Nat.mod_eq_of_lt hkl]
    rw [e1, e2]; exact hz'

theorem run_indexAt {t e sz : Nat} (he : elemT P t = some e) (hs : sizeT P e = some sz) (ad : Addr) (n c : Nat) (k : IntKind) (j : Int) (h0 : 0 ≤ j) (h1 : j < n) (w : World) :
    (Instr.indexAt t (.slice (some ad) n c) (.int k j)).run P w = .ok (.pointer (some (ad.add (j.toNat * sz)))) w := by
  obtain ⟨i, hi, hsz⟩ := sizeT_eq hs
  have hu := elemT_eq he
  simp [Instr.indexAt, asIntOf, run_underlying hu, h0, h1, sizeOf, typeInfo, hi, hsz, go_sem]

theorem sound_indexLst {t e sz : Nat} {x i : Operand} {l : List (List D)} {k : IntKind} {j : Int} (ho : o.op = .indexAddr t x i) (hx : eo fr x = some (.d (.lst l))) (hi : eo fr i = some (.d (.lit (.int k j)))) (he : elemT P t = some e) (hs : sizeT P e = some sz) :
    Sound P Γ fr hp U tk o ⟨.ip (l.getD j.toNat []), [], [], none, 0 < sz ∧ 0 ≤ j ∧ j < l.length ∧ ∀ row ∈ l, row.length = sz, L⟩ :=
  sound_pure fun a w m hR hp' => by
    obtain ⟨hsz, h0, hlt, hrows⟩ := hp'
    have hr := eo_rel hR hx
    have h2 := (eo_rel hR hi).lit_inv
    generalize a.eval = ρ at *
    generalize hc : ρ x = c at *
    have hj : j.toNat < l.length := by omega
    have hgd : l.getD j.toNat [] = l[j.toNat] := by simp [hj]
    have hget : l[j.toNat]? = some l[j.toNat] := by simp [hj]
    have hlen : (l[j.toNat]).length = sz := hrows _ (List.getElem_mem hj)
    rw [hgd]
    cases hr with
    | d h => cases h with
      | lst _ A cp sz' cv hle hm hsz' hA hO hR' =>
        have e1 : sz' = sz := by rw [← hsz' _ (List.getElem_mem hj), hlen]
        subst e1
        obtain ⟨ad, hAd, _⟩ := hA _ _ hget 0 (l[j.toNat][0]'(by omega)) (by simp [hlen, hsz])
        subst hAd
        refine ⟨_, run_v (Instr.indexAt t (ρ x) (ρ i)) (by simp only [execOp, ho]) (by rw [hc, h2]; exact run_indexAt he hs ad _ cp k j h0 hlt w), ?_⟩
        refine .ip _ _ (fun q => cv j.toNat q) (fun q y hq => ?_) (fun q y hq => hO _ _ hget q y hq) (fun q y hq => hR' _ _ hget q y hq)
        obtain ⟨ad', e2, hcell⟩ := hA _ _ hget q y hq
        obtain rfl := Option.some.inj e2
        rw [add_add]; exact hcell

theorem sound_indexOwn {t e sz q e' : Nat} {x i : Operand} {l : List (List D)} {k : IntKind} {j : Int} (ho : o.op = .indexAddr t x i) (hx : eo fr x = some (.own q)) (hi : eo fr i = some (.d (.lit (.int k j)))) (he : elemT P t = some e) (hs : sizeT P e = some sz) (hq : lk hp q = some (.row e' sz l)) :
    Sound P Γ fr hp U tk o ⟨.ept q sz j.toNat 0, [], [], none, 0 ≤ j ∧ j < l.length, L⟩ :=
  sound_pure fun a w m hR hp' => by
    obtain ⟨h0, hlt⟩ := hp'
    have hr := eo_rel hR hx
    have h2 := (eo_rel hR hi).lit_inv
    generalize a.eval = ρ at *
    generalize hc : ρ x = c at *
    cases hr with
    | own _ hU hone =>
      obtain ⟨xs, hown, hrow, hO, hv⟩ := hR.mem.hb _ _ hq
      rcases hown.2 with ⟨e1, e2⟩ | ⟨g, cap, cur, e1, _⟩
      · exfalso; omega
      · refine ⟨_, run_v (Instr.indexAt t (ρ x) (ρ i)) (by simp only [execOp, ho]) (by rw [hc, h2, e1]; exact run_indexAt he hs _ _ cap k j h0 hlt w), ?_⟩
        rw [add_plain, Nat.zero_add]
        exact .ept q sz j.toNat 0 g _ cap hU e1

theorem sound_sliceStr {t : Nat} {x : Operand} {lo hi : Option Operand} {s : ByteArray} {l h : Int} (ho : o.op = .slice t x lo hi none) (hx : eo fr x = some (.d (.lit (.string s)))) (ht : strT P t = true)
    (hlo : (lo = none ∧ l = 0) ∨ ∃ y k, lo = some y ∧ eo fr y = some (.d (.lit (.int k l)))) (hhi : (hi = none ∧ h = s.size) ∨ ∃ y k, hi = some y ∧ eo fr y = some (.d (.lit (.int k h)))) {p : Prop} (hp0 : p → 0 ≤ l ∧ l ≤ h ∧ h ≤ s.size) :
    Sound P Γ fr hp U tk o ⟨.d (.lit (.string (s.extract l.toNat h.toNat))), [], [], none, p, L⟩ :=
  sound_pure fun a w m hR hp' => by
    obtain ⟨h0, h1, h2⟩ := hp0 hp'
    have hr := (eo_rel hR hx).lit_inv
    have hl : (lo.map a.eval = none ∧ l = 0) ∨ ∃ k, lo.map a.eval = some (.int k l) := by
      rcases hlo with ⟨rfl, e⟩ | ⟨y, k, rfl, e⟩
      · exact .inl ⟨rfl, e⟩
      · exact .inr ⟨k, by simp [(eo_rel hR e).lit_inv]⟩
    have hh : (hi.map a.eval = none ∧ h = s.size) ∨ ∃ k, hi.map a.eval = some (.int k h) := by
      rcases hhi with ⟨rfl, e⟩ | ⟨y, k, rfl, e⟩
      · exact .inl ⟨rfl, e⟩
      · exact .inr ⟨k, by simp [(eo_rel hR e).lit_inv]⟩
    generalize a.eval = ρ at *
    refine ⟨_, run_v (Instr.sliceAt t (ρ x) (lo.map ρ) (hi.map ρ) none) (by simp only [execOp, ho]; rfl) ?_, .d (.lit _)⟩
    have a1 : 0 ≤ h := by omega
    have a2 : (l : Int) ≤ (h.toNat : Int) := by omega
    rw [hr]
    rcases hl with ⟨e1, e2⟩ | ⟨k1, e1⟩ <;> rcases hh with ⟨e3, e4⟩ | ⟨k2, e3⟩ <;> rw [e1, e3]
    · subst e2 e4; simp [Instr.sliceAt, run_underlying (strT_eq ht), Instr.slice, Instr.sliceBounds, go_sem]
    · subst e2; simp [Instr.sliceAt, run_underlying (strT_eq ht), Instr.slice, Instr.sliceBounds, Instr.sliceBound, asIntOf, a1, h2, go_sem]
    · subst e4; simp [Instr.sliceAt, run_underlying (strT_eq ht), Instr.slice, Instr.sliceBounds, Instr.sliceBound, asIntOf, h0, h1, go_sem]
    · simp [Instr.sliceAt, run_underlying (strT_eq ht), Instr.slice, Instr.sliceBounds, Instr.sliceBound, asIntOf, h0, h1, h2, a1, a2, go_sem]
      intro hh; omega

/-- An operation that yields a value and leaves the world; some rows are given up. -/
theorem sound_gone {v : V} {g : List Nat} {p : Prop} (h : ∀ a w m, Rel Γ fr hp U a w m → p → ∃ u, (execOp a.eval o).run P w = .ok (.value u) w ∧ RV (Cw Γ.F (delAll hp g) m w) m U v u) : Sound P Γ fr hp U tk o ⟨v, g, [], none, p, L⟩ := by
  intro a w m K Q hR htk hp' hd hK
  obtain ⟨u, hr, hv⟩ := h a w m hR hp'
  exact wp_value hr (hK _ _ m ((rel_putA (hR.less delAll_sub) hd hv).given fun t h => .inl h) (put_defers a _ u))

theorem rowsV_rel (H : RelH Γ hp U w m) (hl : ∀ t b, lk hp' t = some b → lk hp t = some b) {v : V} {rows : List (List D)} {u : Value} (h : RV (Cw Γ.F hp m w) m U v u) (hv : rowsV hp v = some rows) (hn : ∀ t, t ∈ ownsOf [v] → lk hp' t = none) :
    RD (Cw Γ.F hp' m w) (.lst rows) u := by
  unfold rowsV at hv
  split at hv
  · obtain rfl := Option.some.inj hv
    rw [h.lit_inv]
    exact .lst [] none 0 0 (fun _ _ => undef) (Nat.le_refl _) (Nat.zero_le _) (by simp) (by simp) (by simp) (by simp)
  · obtain rfl := Option.some.inj hv
    cases h with
    | d h => exact h.mono fun p v hc => hc.less hl
  · rename_i t
    split at hv
    · rename_i e sz l ht
      obtain rfl := Option.some.inj hv
      cases h with
      | own _ hU ho => exact freeze H hl ht (hn t (by simp [ownsOf]))
    · cases hv
  · cases hv

theorem rd_cut {C : Addr → Value → Prop} {rows : List (List D)} {A : Option Addr} {n cap sz l h : Nat} (hr : RD C (.lst rows) (.slice A n cap)) (hrows : ∀ row ∈ rows, row.length = sz) (h1 : l ≤ h) (h2 : h ≤ rows.length) :
    RD C (.lst ((rows.take h).drop l)) (.slice (if cap = l then A else A.map (·.add (l * sz))) (h - l) (cap - l)) ∧ n = rows.length ∧ n ≤ cap := by
  cases hr with
  | lst _ _ _ sz' cv hle hm hsz hA hO hR =>
    refine ⟨?_, rfl, hle⟩
    have hlen : ((rows.take h).drop l).length = h - l := by rw [List.length_drop, List.length_take]; omega
    have get : ∀ j row, ((rows.take h).drop l)[j]? = some row → rows[l + j]? = some row ∧ l + j < h := by
      intro j row hj
      rw [List.getElem?_drop, List.getElem?_take] at hj
      split at hj
      · exact ⟨hj, by assumption⟩
      · cases hj
    rw [← hlen]
    refine .lst _ _ _ sz' (fun j k => cv (l + j) k) (by rw [hlen]; omega) (by omega) (fun row hrow => hsz row (List.mem_of_mem_take (List.mem_of_mem_drop hrow))) (fun j row hj k x hk => ?_) (fun j row hj k x hk => hO _ _ (get j row hj).1 k x hk) (fun j row hj k x hk => hR _ _ (get j row hj).1 k x hk)
    obtain ⟨g1, g2⟩ := get j row hj
    obtain ⟨ad, e, hc⟩ := hA _ _ g1 k x hk
    have e2 : sz' = sz := by rw [← hsz row (List.mem_of_getElem? g1), hrows row (List.mem_of_getElem? g1)]
    subst e e2
    rw [if_neg (by omega)]
    refine ⟨ad.add (l * sz'), rfl, ?_⟩
    rw [add_add]
    rw [show l * sz' + (j * sz' + k) = (l + j) * sz' + k by rw [Nat.add_mul]; omega]
    exact hc

theorem sound_sliceLst {t e sz : Nat} {x : Operand} {lo hi : Option Operand} {v : V} {rows : List (List D)} {l h : Int} (ho : o.op = .slice t x lo hi none) (hx : eo fr x = some v) (hv : rowsV hp v = some rows) (he : elemT P t = some e) (hs : sizeT P e = some sz)
    (hlo : (lo = none ∧ l = 0) ∨ ∃ y k, lo = some y ∧ eo fr y = some (.d (.lit (.int k l)))) (hhi : (hi = none ∧ h = rows.length) ∨ ∃ y k, hi = some y ∧ eo fr y = some (.d (.lit (.int k h)))) {p : Prop} (hp0 : p → 0 ≤ l ∧ l ≤ h ∧ h ≤ rows.length ∧ ∀ row ∈ rows, row.length = sz) :
    Sound P Γ fr hp U tk o ⟨.d (.lst ((rows.take h.toNat).drop l.toNat)), ownsOf [v], [], none, p, L⟩ :=
  sound_gone fun a w m hR hp' => by
    obtain ⟨h0, h1, h2, h3⟩ := hp0 hp'
    have hr := rowsV_rel hR.mem (delAll_sub (g := ownsOf [v])) (eo_rel hR hx) hv (fun t ht => by rw [lk_delAll, if_pos ht])
    have hl : (lo.map a.eval = none ∧ l = 0) ∨ ∃ k, lo.map a.eval = some (.int k l) := by
      rcases hlo with ⟨rfl, e⟩ | ⟨y, k, rfl, e⟩
      · exact .inl ⟨rfl, e⟩
      · exact .inr ⟨k, by simp [(eo_rel hR e).lit_inv]⟩
    have hh : (hi.map a.eval = none ∧ h = rows.length) ∨ ∃ k, hi.map a.eval = some (.int k h) := by
      rcases hhi with ⟨rfl, e⟩ | ⟨y, k, rfl, e⟩
      · exact .inl ⟨rfl, e⟩
      · exact .inr ⟨k, by simp [(eo_rel hR e).lit_inv]⟩
    generalize a.eval = ρ at *
    generalize hc : ρ x = c at *
    have hsl : ∃ A n cap, c = .slice A n cap := by cases hr; exact ⟨_, _, _, rfl⟩
    obtain ⟨A, n, cap, rfl⟩ := hsl
    obtain ⟨r1, r2, r3⟩ := rd_cut (l := l.toNat) (h := h.toNat) hr h3 (by omega) (by omega)
    refine ⟨_, run_v (Instr.sliceAt t (ρ x) (lo.map ρ) (hi.map ρ) none) (by simp only [execOp, ho]; rfl) ?_, .d r1⟩
    obtain ⟨i, hi', hsz⟩ := sizeT_eq hs
    have hu := elemT_eq he
    have a1 : 0 ≤ h := by omega
    have a2 : h ≤ (cap : Int) := by omega
    have a3 : l ≤ (h.toNat : Int) := by omega
    have a4 : (n : Int) = rows.length := by omega
    rw [hc]
    rcases hl with ⟨e1, e2⟩ | ⟨k1, e1⟩ <;> rcases hh with ⟨e3, e4⟩ | ⟨k2, e3⟩ <;> rw [e1, e3]
    · subst e2 e4; simp [Instr.sliceAt, run_underlying hu, Instr.slice, Instr.sliceBounds, sizeOf, typeInfo, hi', hsz, r2, go_sem]
    · subst e2; simp [Instr.sliceAt, run_underlying hu, Instr.slice, Instr.sliceBounds, Instr.sliceBound, asIntOf, a1, a2, sizeOf, typeInfo, hi', hsz, go_sem]
    · subst e4
      have a5 : l ≤ (n : Int) := by omega
      simp [Instr.sliceAt, run_underlying hu, Instr.slice, Instr.sliceBounds, Instr.sliceBound, asIntOf, h0, a5, sizeOf, typeInfo, hi', hsz, r2, go_sem]
      try (intro hh; omega)
    · simp [Instr.sliceAt, run_underlying hu, Instr.slice, Instr.sliceBounds, Instr.sliceBound, asIntOf, h0, a1, a2, a3, sizeOf, typeInfo, hi', hsz, go_sem]
      try (intro hh; omega)

end
end Go.Abs

set_option linter.unusedVariables false
set_option linter.unusedSimpArgs false
namespace Go.Abs
open Go Go.RowKit

section
variable {P : Program} {Γ : Ctx} {fr : List (Nat × V)} {hp hp' : List (Nat × Blk)} {U : Nat → Prop} {a : Act} {w w' : World} {m : Nat → Value} {tk : Nat} {L : List (Use P)} {o : Oper}
  {K : Act → World → Prop} {Q : Exit → Act → World → Prop}

theorem rowT_eq {e sz b : Nat} (h : rowT P e = some (sz, b)) : ∃ i z, P.info? e = some i ∧ i.zero = some z ∧ i.size = sz ∧ i.bytes = b ∧ z.cells.size = sz ∧ 0 < sz ∧ 0 < b := by
  unfold rowT at h
  cases hi : P.info? e with
  | none => rw [hi] at h; cases h
  | some i =>
    rw [hi] at h
    simp only [] at h
    cases hz : i.zero with
    | none => rw [hz] at h; cases h
    | some z =>
      rw [hz] at h
      simp only [] at h
      split at h
      · rename_i hc
        simp only [Option.some.injEq, Prod.mk.injEq] at h
        exact ⟨i, z, rfl, hz, h.1, h.2, by rw [hc.1, h.1], by omega, by omega⟩
      · cases h
theorem rowT_size {e sz b : Nat} (h : rowT P e = some (sz, b)) : sizeT P e = some sz ∧ (zeroT P e).isSome = true := by
  obtain ⟨i, z, h1, h2, h3, _⟩ := rowT_eq h
  exact ⟨by simp [sizeT, h1, h3], by simp [zeroT, h1, h2]⟩

/-- The cells of a slice that is read. -/
theorem rows_cells (H : RelH Γ hp U w m) {y : V} {rows : List (List D)} {u : Value} {sz : Nat} (h : RV (Cw Γ.F hp m w) m U y u) (hv : rowsV hp y = some rows) (hrows : ∀ row ∈ rows, row.length = sz) (hsz : 0 < sz) :
    ∃ A c, ∃ vals : List Value, u = .slice A rows.length c ∧ vals.length = rows.length * sz ∧ (∀ j v, vals[j]? = some v → ∃ ad, A = some ad ∧ w.cell? (ad.add j) = some v) ∧ (∀ v ∈ vals, v.oneCell' = true) ∧
      ∀ (j : Nat) (row : List D), rows[j]? = some row → ∀ (k : Nat) (x : D), row[k]? = some x → ∃ v, vals[j * sz + k]? = some v ∧ RD (Cw Γ.F hp m w) x v := by
  have fromRD : ∀ u, RD (Cw Γ.F hp m w) (.lst rows) u → ∃ A c, ∃ vals : List Value, u = .slice A rows.length c ∧ vals.length = rows.length * sz ∧ (∀ j v, vals[j]? = some v → ∃ ad, A = some ad ∧ w.cell? (ad.add j) = some v) ∧ (∀ v ∈ vals, v.oneCell' = true) ∧
      ∀ (j : Nat) (row : List D), rows[j]? = some row → ∀ (k : Nat) (x : D), row[k]? = some x → ∃ v, vals[j * sz + k]? = some v ∧ RD (Cw Γ.F hp m w) x v := by
    intro u hu
    cases hu with
    | lst _ A c sz' cv hc hm hsz' hA hO hR =>
      have get : ∀ i, i < rows.length * sz → ∃ row x, rows[i / sz]? = some row ∧ row[i % sz]? = some x := by
        intro i hi
        have h1 : i / sz < rows.length := (Nat.div_lt_iff_lt_mul hsz).2 hi
        have h2 : i % sz < sz := Nat.mod_lt _ hsz
        exact ⟨rows[i / sz], (rows[i / sz])[i % sz]'(by rw [hrows _ (List.getElem_mem h1)]; exact h2), by simp [h1], by simp [hrows _ (List.getElem_mem h1), h2]⟩
      have esz : ∀ j row, rows[j]? = some row → sz' = sz := fun j row hj => by rw [← hsz' row (List.mem_of_getElem? hj), hrows row (List.mem_of_getElem? hj)]
      refine ⟨A, c, (List.range (rows.length * sz)).map fun i => cv (i / sz) (i % sz), rfl, by simp, fun j v hj => ?_, fun v hv => ?_, fun j row hj k x hk => ?_⟩
      · have hlt : j < rows.length * sz := by have := (List.getElem?_eq_some_iff.1 hj).1; simpa using this
        simp [hlt] at hj
        subst hj
        obtain ⟨row, x, h1, h2⟩ := get j hlt
        obtain ⟨ad, e, hc'⟩ := hA _ _ h1 _ x h2
        refine ⟨ad, e, ?_⟩
        rw [esz _ _ h1] at hc'
        have := hc'.cell
        rwa [Nat.mul_comm, Nat.div_add_mod] at this
      · obtain ⟨i, hi, rfl⟩ := List.mem_map.1 hv
        obtain ⟨row, x, h1, h2⟩ := get i (List.mem_range.1 hi)
        exact hO _ _ h1 _ x h2
      · have hjl : j < rows.length := (List.getElem?_eq_some_iff.1 hj).1
        have hkl : k < sz := by rw [← hrows row (List.mem_of_getElem? hj)]; exact (List.getElem?_eq_some_iff.1 hk).1
        have hlt : j * sz + k < rows.length * sz := by
          have : (j + 1) * sz ≤ rows.length * sz := Nat.mul_le_mul_right sz hjl
          rw [Nat.add_mul, Nat.one_mul] at this; omega
        refine ⟨cv j k, ?_, hR _ _ hj _ x hk⟩
        have e1 : (j * sz + k) / sz = j := by rw [Nat.mul_comm, Nat.mul_add_div hsz, Nat.div_eq_of_lt hkl, Nat.add_zero]
        have e2 : (j * sz + k) % sz = k := by rw [Nat.mul_comm, Nat.mul_add_mod, Nat.mod_eq_of_lt hkl]
        simp [hlt, e1, e2]
  unfold rowsV at hv
  split at hv
  · obtain rfl := Option.some.inj hv
    exact ⟨none, 0, [], by rw [h.lit_inv]; rfl, by simp, by simp, by simp, by simp⟩
  · obtain rfl := Option.some.inj hv
    cases h with
    | d h => exact fromRD u h
  · rename_i t
    split at hv
    · rename_i e sz2 l ht
      obtain rfl := Option.some.inj hv
      cases h with
      | own _ hU ho =>
        obtain ⟨xs, hown, hrow, hO, hv⟩ := H.hb _ _ ht
        rcases hown.2 with ⟨e1, e2⟩ | ⟨g, cap, cur, e1, _, hg, hle, hcap, hcs, htake⟩
        · have : l = [] := List.eq_nil_of_length_eq_zero e2
          subst this
          exact ⟨none, 0, [], by rw [e1]; rfl, by simp, by simp, by simp, by simp⟩
        · have hbl : (m t).ownBlock = some g := by rw [e1]; rfl
          by_cases h0 : l = []
          · subst h0
            exact ⟨_, cap, [], by rw [e1], by simp, by simp, by simp, by simp⟩
          · have e3 : sz2 = sz := by
              cases l with
              | nil => exact absurd rfl h0
              | cons r l' => rw [← hrow r List.mem_cons_self, hrows r List.mem_cons_self]
            subst e3
            exact ⟨_, cap, xs, by rw [e1], hown.1, fun j v hj => ⟨_, rfl, hown.cells hbl j v hj⟩, hO, hv⟩
    · cases hv
  · cases hv

theorem run_append_empty {t e : Nat} {i : TypeInfo} (ht : P.underlying t = some (.slice e)) (hi : P.info? e = some i) (ty : Nat) {v : Value} {n size : Nat} {xs : List Value} (hown : w.ownsRow 0 e size v n xs) (A : Option Addr) (c : Nat) :
    (Builtin.append_ #[t, t] ty #[v, .slice A 0 c]).run P w = .ok v w := by
  rcases hown.2 with ⟨rfl, rfl⟩ | ⟨g, cap, cur, rfl, _, hg, hle, _⟩
  · cases A <;> simp [Builtin.append_, run_underlying ht, sizeOf, typeInfo, hi, Builtin.lenOf, Builtin.firstCells, loadCells, loadCellsFrom, go_sem]
  · cases A <;> simp [Builtin.append_, run_underlying ht, sizeOf, typeInfo, hi, Builtin.lenOf, Builtin.firstCells, loadCells, loadCellsFrom, hle, storeCells, go_sem]

/-- append to a row of the run's own (or to nil). -/
theorem sound_append {t e sz b : Nat} {x y : Operand} {vx vy : V} {l l2 : List (List D)} {g : List Nat} {c : Call} (ho : o.op = .call c) (hc : c.callee = .builtin .append) (ha : c.args = #[x, y]) (hat : c.argTypes = #[t, t]) (he : elemT P t = some e) (hrt : rowT P e = some (sz, b))
    (hx : eo fr x = some vx) (hy : eo fr y = some vy) (hv : rowsV hp vy = some l2) (hown : (vx = nilV ∧ l = [] ∧ g = []) ∨ ∃ t0, vx = .own t0 ∧ lk hp t0 = some (.row e sz l) ∧ g = [t0]) :
    Sound P Γ fr hp U tk o ⟨.own tk, g, [], some (.row e sz (l ++ l2)), (l.length + l2.length) * b ≤ 140737488355328 ∧ (∀ row ∈ l2, row.length = sz), L⟩ := by
  intro a w m K Q hR htk hp' hd hK
  obtain ⟨hbytes, hrows2⟩ := hp'
  obtain ⟨i, z, hi, hz, hsize, hby, hzs, hsz, hb⟩ := rowT_eq hrt
  have hu := elemT_eq he
  have hrx := eo_rel hR hx
  obtain ⟨A, cp, vals, e1, hvl, hvc, hv1, hvd⟩ := rows_cells hR.mem (eo_rel hR hy) hv hrows2 hsz
  -- the row that is appended to
  have hrow : ∃ xs : List Value, w.ownsRow 0 e sz (a.eval x) l.length xs ∧ (∀ row ∈ l, row.length = sz) ∧ (∀ u : Value, u ∈ xs → u.oneCell' = true) ∧
      (∀ (j : Nat) (row : List D), l[j]? = some row → ∀ (k : Nat) (x : D), row[k]? = some x → ∃ u, xs[j * sz + k]? = some u ∧ RD (Cw Γ.F hp m w) x u) ∧
      (∀ g', (a.eval x).ownBlock = some g' → g' < w.heap.size ∧ (Γ.w0.heap.size ≤ g' ∨ ∃ t0, t0 < Γ.n0 ∧ blkOf (Γ.m0 t0) = some g' ∧ lk (delAll hp g) t0 = none) ∧ ¬ Γ.F g' ∧ (∀ t b, lk (delAll hp g) t = some b → blkOf (m t) ≠ some g') ∧ ∀ p v, Cw Γ.F hp m w p v → p.block ≠ g') := by
    rcases hown with ⟨rfl, rfl, rfl⟩ | ⟨t0, rfl, h0, rfl⟩
    · rw [hrx.lit_inv]
      exact ⟨[], World.ownsRow_nil w 0 e sz, by simp, by simp, by simp, fun g' hg' => by simp [Value.ownBlock] at hg'⟩
    · generalize a.eval x = cx at *
      cases hrx with
      | own _ hU hone =>
        obtain ⟨xs, hown, hrow, hO, hv⟩ := hR.mem.hb _ _ h0
        refine ⟨xs, hown, hrow, hO, hv, fun g' hg' => ?_⟩
        have hbk : blkOf (m t0) = some g' := by
          cases hm : m t0 <;> rw [hm] at hg' <;> simp [Value.ownBlock] at hg'
          rename_i A' n' c'
          cases A' with
          | none => simp [Value.ownBlock] at hg'
          | some ad => simpa [Value.ownBlock, blkOf] using hg'
        refine ⟨(hR.mem.hb _ _ h0).lt hbk, ?_, hR.mem.nF _ _ _ h0 hbk, fun t b ht e => ?_, fun p v hc e => hc.far _ _ h0 (by rw [hbk, e])⟩
        · rcases Nat.lt_or_ge t0 Γ.n0 with hlt | hge
          · exact .inr ⟨t0, hlt, by rw [← hR.mem.old t0 hlt]; exact hbk, by rw [lk_delAll, if_pos (by simp)]⟩
          · refine (hR.mem.new _ _ _ h0 hbk hge).imp id fun ⟨t1, i1, i2, i3⟩ => ⟨t1, i1, i2, ?_⟩
            rw [lk_delAll]; split
            · rfl
            · exact i3
        rw [lk_delAll] at ht
        split at ht
        · cases ht
        · rename_i hne
          exact hne (by simp [hR.mem.sep t t0 b _ g' ht h0 e hbk])
  obtain ⟨xs, hown', hrowl, hxO, hxd, hblk⟩ := hrow
  have hlen63 : l.length + l2.length ≤ maxLen := by
    simp only [maxLen]
    have := Nat.le_mul_of_pos_right (l.length + l2.length) hb
    omega
  -- what the machine does
  have hrun : ∃ v' w', (Builtin.append_ #[t, t] o.type #[a.eval x, a.eval y]).run P w = .ok v' w' ∧ w'.ownsRow 0 e sz v' (l.length + l2.length) (xs ++ vals) ∧ w.grownBy w' (a.eval x).ownBlock ∧ (v'.ownBlock = (a.eval x).ownBlock ∨ v'.ownBlock = some w.heap.size) := by
    rw [e1]
    by_cases h0 : l2.length = 0
    · have hnil : vals = [] := List.eq_nil_of_length_eq_zero (by rw [hvl, h0, Nat.zero_mul])
      refine ⟨a.eval x, w, by rw [h0]; exact run_append_empty hu hi o.type hown' A cp, by rw [h0, hnil, List.append_nil]; exact hown', ⟨rfl, rfl, rfl, Nat.le_refl _, fun _ _ _ => rfl⟩, .inl rfl⟩
    · have hA : ∃ ad, A = some ad := by
        have : 0 < vals.length := by rw [hvl]; exact Nat.mul_pos (by omega) hsz
        obtain ⟨ad, e, _⟩ := hvc 0 vals[0] (by simp [this])
        exact ⟨ad, e⟩
      obtain ⟨ad, rfl⟩ := hA
      obtain ⟨v', w', h1, h2, h3, _, h5⟩ := run_append_own_at (P := P) w 0 t o.type e i z sz b hu hi hz hsize hby hzs hsz (a.eval x) l.length xs hown' ad l2.length cp vals hvl (fun j u hj => by obtain ⟨ad', e, hc⟩ := hvc j u hj; obtain rfl := Option.some.inj e; exact hc) hv1 hlen63 hbytes (Nat.zero_le _)
      exact ⟨v', w', h1, h2, h3, h5⟩
  obtain ⟨v', w', h1, h2, h3, h5⟩ := hrun
  have hex : (execOp a.eval o).run P w = .ok (.value v') w' := by
    simp [execOp, ho, resolve, hc, ha, hat, invoke, builtin, h1]
  refine wp_value hex (hK _ _ (upm m tk v') ?_ (put_defers a _ _))
  have haft : after hp tk (⟨.own tk, g, [], some (.row e sz (l ++ l2)), (l.length + l2.length) * b ≤ 140737488355328 ∧ (∀ row ∈ l2, row.length = sz), L⟩ : Rs P) = (tk, .row e sz (l ++ l2)) :: delAll hp g := rfl
  rw [haft]
  have hv'b : ∀ g', blkOf v' = some g' → v'.ownBlock = some g' := fun g' hg' => by
    cases v' <;> simp [blkOf, Value.ownBlock] at hg' ⊢
    · rename_i ad
      rcases h2.2 with ⟨e2, _⟩ | ⟨_, _, _, e2, _⟩ <;> cases e2
    · rename_i A' n' c'
      cases A' <;> simp [blkOf, Value.ownBlock] at hg' ⊢
      exact hg'
    · rcases h2.2 with ⟨e2, _⟩ | ⟨_, _, _, e2, _⟩ <;> cases e2
  have hnewb : ∀ g', blkOf v' = some g' → (Γ.w0.heap.size ≤ g' ∨ ∃ t0, t0 < Γ.n0 ∧ blkOf (Γ.m0 t0) = some g' ∧ lk (delAll hp g) t0 = none) ∧ ¬ Γ.F g' ∧ (∀ t b, lk (delAll hp g) t = some b → blkOf (m t) ≠ some g') ∧ ∀ p v, Cw Γ.F hp m w p v → p.block ≠ g' := fun g' hg' => by
    rcases h5 with h5 | h5
    · have := hblk g' (by rw [← h5]; exact hv'b g' hg')
      exact this.2
    · have e3 : g' = w.heap.size := by have := hv'b g' hg'; rw [h5] at this; exact (Option.some.inj this).symm
      subst e3
      refine ⟨.inl hR.mem.keeps.size, fun hf => ?_, fun t b ht e => ?_, fun p v hc e => ?_⟩
      · have := (hR.mem.hF _ hf).1; have := hR.mem.keeps.size; omega
      · have := (hR.mem.hb t b (delAll_sub t b ht)).lt e; omega
      · have := hc.lt; omega
  have hkeep : ∀ g', g' < w.heap.size → (a.eval x).ownBlock ≠ some g' → w'.heap[g']? = w.heap[g']? := fun g' hg' hne => h3.block g' hg' (fun e => hne e.symm)
  have hC : ∀ p v, Cw Γ.F hp m w p v → Cw Γ.F ((tk, .row e sz (l ++ l2)) :: delAll hp g) (upm m tk v') w' p v := fun p v hc' => by
    refine ⟨(World.cell?_of_block (w := w) (hkeep _ hc'.lt (fun e => (hblk _ e).2.2.2.2 p v hc' rfl))).trans hc'.cell, hc'.notF, fun t b0 ht => ?_⟩
    rw [lk_cons] at ht
    by_cases h : tk = t
    · subst h
      rw [upm_self]
      intro e
      exact (hnewb _ e).2.2.2 p v hc' rfl
    · rw [if_neg h] at ht
      rw [upm_ne _ _ (fun e => h e.symm)]
      exact hc'.far t b0 (delAll_sub t b0 ht)
  have hone' : v'.oneCell' = true := by rcases h2.2 with ⟨e2, _⟩ | ⟨_, _, _, e2, _⟩ <;> rw [e2] <;> rfl
  have hR2 : Rel Γ fr ((tk, .row e sz (l ++ l2)) :: delAll hp g) (also U tk) a w' (upm m tk v') := by
    refine hR.turn hC (upm_lt m _ htk) (fun _ h => .inl h) ?_
    have H := hR.mem
    refine ⟨fun t b0 ht => ?_, fun t t' b1 b2 g' q1 q2 f1 f2 => ?_, fun t b0 ht => ?_, fun t b0 g' ht hg' hn => ?_, fun t ht => by rw [upm_ne _ _ (by intro e; subst e; exact htk (H.n0 _ ht))]; exact H.old t ht, fun t ht => .inl (H.n0 t ht), fun t b0 g' ht hg' => ?_, H.hF, ?_⟩
    · rw [lk_cons] at ht
      by_cases h : tk = t
      · subst h
        rw [if_pos rfl] at ht
        obtain rfl := Option.some.inj ht
        have hxl : xs.length = l.length * sz := hown'.1
        refine ⟨xs ++ vals, by rw [upm_self, List.length_append]; exact h2, fun row hrow => ?_, fun u hu => ?_, fun j row hj k x' hk => ?_⟩
        · rcases List.mem_append.1 hrow with h | h
          · exact hrowl row h
          · exact hrows2 row h
        · rcases List.mem_append.1 hu with h | h
          · exact hxO u h
          · exact hv1 u h
        · by_cases hjl : j < l.length
          · rw [List.getElem?_append_left hjl] at hj
            obtain ⟨u, hu, hd'⟩ := hxd j row hj k x' hk
            have : j * sz + k < xs.length := (List.getElem?_eq_some_iff.1 hu).1
            exact ⟨u, by rw [List.getElem?_append_left this]; exact hu, hd'.mono hC⟩
          · rw [List.getElem?_append_right (by omega)] at hj
            obtain ⟨u, hu, hd'⟩ := hvd _ row hj k x' hk
            refine ⟨u, ?_, hd'.mono hC⟩
            have e4 : j * sz + k = xs.length + ((j - l.length) * sz + k) := by
              rw [hxl, Nat.sub_mul]
              have : l.length * sz ≤ j * sz := Nat.mul_le_mul_right sz (by omega)
              omega
            rw [e4, List.getElem?_append_right (by omega), Nat.add_sub_cancel_left]; exact hu
      · rw [if_neg h] at ht
        have ht' := delAll_sub t b0 ht
        refine (H.hb t b0 ht').mono hC (upm_lt m _ htk) (fun _ h => .inl h) (H.lt t b0 ht') (fun g' hg' => hkeep g' ((H.hb t b0 ht').lt hg') (fun e => (hblk g' e).2.2.2.1 t b0 ht hg'))
    · rw [lk_cons] at q1 q2
      by_cases c1 : tk = t <;> by_cases c2 : tk = t'
      · omega
      · subst c1
        rw [if_neg c2] at q2
        rw [upm_self] at f1
        rw [upm_ne _ _ (fun e => c2 e.symm)] at f2
        exact absurd f2 ((hnewb g' f1).2.2.1 t' b2 q2)
      · subst c2
        rw [if_neg c1] at q1
        rw [upm_self] at f2
        rw [upm_ne _ _ (fun e => c1 e.symm)] at f1
        exact absurd f1 ((hnewb g' f2).2.2.1 t b1 q1)
      · rw [if_neg c1] at q1
        rw [if_neg c2] at q2
        rw [upm_ne _ _ (fun e => c1 e.symm)] at f1
        rw [upm_ne _ _ (fun e => c2 e.symm)] at f2
        exact H.sep t t' b1 b2 g' (delAll_sub _ _ q1) (delAll_sub _ _ q2) f1 f2
    · rw [lk_cons] at ht
      by_cases h : tk = t
      · exact .inr h.symm
      · rw [if_neg h] at ht; exact .inl (H.lt t b0 (delAll_sub _ _ ht))
    · rw [lk_cons] at ht
      by_cases h : tk = t
      · subst h; rw [upm_self] at hg'; exact (hnewb g' hg').1.imp id fun ⟨t1, i1, i2, i3⟩ => ⟨t1, i1, i2, by rw [lk_cons_ne _ _ (by intro e; subst e; exact htk (H.n0 _ i1))]; exact i3⟩
      · rw [if_neg h] at ht
        rw [upm_ne _ _ (fun e => h e.symm)] at hg'
        refine (H.new t b0 g' (delAll_sub _ _ ht) hg' hn).imp id fun ⟨t1, i1, i2, i3⟩ => ⟨t1, i1, i2, ?_⟩
        rw [lk_cons_ne _ _ (by intro e; subst e; exact htk (H.n0 _ i1)), lk_delAll]; split
        · rfl
        · exact i3
    · rw [lk_cons] at ht
      by_cases h : tk = t
      · subst h; rw [upm_self] at hg'; exact (hnewb g' hg').2.1
      · rw [if_neg h] at ht
        rw [upm_ne _ _ (fun e => h e.symm)] at hg'
        exact H.nF t b0 g' (delAll_sub _ _ ht) hg'
    · refine ⟨h3.os.trans H.keeps.os, h3.tape.trans H.keeps.tape, h3.output.trans H.keeps.output, Nat.le_trans H.keeps.size h3.size, fun g' hlt hn => ?_⟩
      rw [hkeep g' (Nat.lt_of_lt_of_le hlt H.keeps.size) (fun e => by
        rcases (hblk g' e).2.1 with h0 | ⟨t1, i1, i2, _⟩
        · omega
        · exact hn t1 i1 i2)]
      exact H.keeps.block g' hlt hn
  have h7 := rel_putA (o := o) hR2 hd (RV.own (C := Cw Γ.F ((tk, .row e sz (l ++ l2)) :: delAll hp g) (upm m tk v') w') tk (U := also U tk) (m := upm m tk v') (.inr rfl) (by rw [upm_self]; exact hone'))
  rw [upm_self] at h7
  exact h7

end
end Go.Abs
