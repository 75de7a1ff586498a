/- One operation at a time, ninth part: struct literals, a store into an element. One operation at a time, tenth part: what a callee sees, and what comes back. No conditions. -/
import Derived.Test.YtninaiooagfjfaaGreatDoorK04
set_option linter.unusedVariables false
set_option linter.unusedSimpArgs false
namespace Go.Abs
open Go Go.RowKit

section
variable {P : Program} {Γ : Ctx} {fr : List (Nat × V)} {hp hp' : List (Nat × Blk)} {U : Nat → Prop} {a : Act} {w w' : World} {m : Nat → Value} {tk : Nat} {L : List (Use P)} {o : Oper}
  {K : Act → World → Prop} {Q : Exit → Act → World → Prop}

/-- Cells as a value's parts. -/
def Cells (C : Addr → Value → Prop) (m : Nat → Value) (U : Nat → Prop) (cs : List V) (arr : Array Value) : Prop :=
  cs.length = arr.size ∧ (∀ (k : Nat) (u : Value), arr[k]? = some u → u.oneCell' = true) ∧ ∀ (k : Nat) (x : V) (u : Value), cs[k]? = some x → arr[k]? = some u → RV C m U x u

theorem fillA_rel (hR : Rel Γ fr hp U a w m) {pl : List (Nat × Nat)} : ∀ (ps : List (Nat × Operand)) (cs cs' : List V) (arr : Array Value), fillA pl fr ps cs = some cs' → Cells (Cw Γ.F hp m w) m U cs arr →
    ∃ arr', Instr.fill (pl.toArray[·]?) arr (ps.map fun q => (q.1, a.eval q.2)) = some arr' ∧ Cells (Cw Γ.F hp m w) m U cs' arr'
  | [], cs, cs', arr, h, hc => by obtain rfl := Option.some.inj h; exact ⟨arr, rfl, hc⟩
  | (i, x) :: r, cs, cs', arr, h, hc => by
    simp only [fillA] at h
    split at h
    · rename_i off n v h1 h2
      split at h
      · rename_i hcond
        obtain ⟨hlen, hle, hone⟩ := hcond
        obtain ⟨c1, c2, c3⟩ := rv_cells (eo_rel hR h2) hone
        obtain ⟨d1, d2, d3⟩ := hc
        have hsz : (a.eval x).cells.size = n := by omega
        obtain ⟨g1, g2⟩ := Great.foldl_set off (a.eval x).cells.toList 0 arr
        have hnew : Cells (Cw Γ.F hp m w) m U (ins cs off (cellsV v)) (((a.eval x).cells.toList.zipIdx 0).foldl (fun cs (x : Value × Nat) => cs.setIfInBounds (off + x.2) x.1) arr) := by
          have get : ∀ k, (((a.eval x).cells.toList.zipIdx 0).foldl (fun cs (x : Value × Nat) => cs.setIfInBounds (off + x.2) x.1) arr)[k]? = if off ≤ k ∧ k < off + n then (a.eval x).cells[k - off]? else arr[k]? := by
            intro k
            rw [g2 k]
            simp only [Nat.add_zero, Array.length_toList, hsz]
            by_cases hk : off ≤ k ∧ k < off + n
            · rw [if_pos hk, if_pos (by omega)]; simp
            · rw [if_neg hk, if_neg (by omega)]
          rw [ins_spec cs off (cellsV v) (by omega)]
          refine ⟨?_, fun k u hu => ?_, fun k y u hy hu => ?_⟩
          · rw [g1]; simp only [List.length_append, List.length_take, List.length_drop]; omega
          · rw [get] at hu
            split at hu
            · exact c2 _ u hu
            · exact d2 _ u hu
          · rw [get] at hu
            rw [get_mid _ _ _ (by omega), hlen] at hy
            split at hy
            · rename_i hk; rw [if_pos hk] at hu; exact c3 _ y u hy hu
            · rename_i hk; rw [if_neg hk] at hu; exact d3 _ y u hy hu
        obtain ⟨arr', e1, e2⟩ := fillA_rel hR r _ cs' _ h hnew
        refine ⟨arr', ?_, e2⟩
        rw [List.map_cons]
        unfold Instr.fill
        have hp1 : pl.toArray[i]? = some (off, n) := by rw [List.getElem?_toArray, ← nth_eq]; exact h1
        simp only [hp1]
        rw [if_neg (by simp; omega)]
        rw [← e1]
        congr 1
        rw [← Array.foldl_toList, Array.toList_zipIdx]
      · cases h
    · cases h

theorem sound_build {t : Nat} {ps : Array (Nat × Operand)} {zs : List Value} {pl : List (Nat × Nat)} {cs : List V} (ho : o.op = .build t ps) (hz : zeroT P t = some zs) (hs : stT P t = some pl) (hO : zs.all (·.oneCell') = true)
    (hf : fillA pl fr ps.toList (zs.map fun z => .d (.lit z)) = some cs) : Sound P Γ fr hp U tk o ⟨.agg cs, [], [], none, True, L⟩ :=
  sound_pure fun a w m hR _ => by
    obtain ⟨i, z, hi, hzz, rfl⟩ := zeroT_eq hz
    unfold stT at hs
    split at hs
    · rename_i fs hu
      have hc0 : Cells (Cw Γ.F hp m w) m U (z.cells.toList.map fun z => .d (.lit z)) z.cells := by
        refine ⟨by simp, fun k u hk => ?_, fun k x u hx hk => ?_⟩
        · rw [List.all_eq_true] at hO
          exact hO u (by rw [Array.mem_toList_iff]; exact Array.mem_of_getElem? hk)
        · rw [List.getElem?_map, Array.getElem?_toList, hk] at hx
          obtain rfl := Option.some.inj hx
          exact .d (.lit u)
      obtain ⟨arr', e1, e2, e3, e4⟩ := fillA_rel hR ps.toList _ cs z.cells hf hc0
      have hb : P.built t (ps.map fun (i, x) => (i, a.eval x)).toList = some arr' := by
        unfold Program.built
        simp only [hi, hu, hzz, hs]
        rw [← e1]; simp
      exact ⟨_, run_v (Instr.build t (ps.map fun (i, x) => (i, a.eval x))) (by simp only [execOp, ho]) (run_build w t _ arr' hb), .agg cs arr' e2 e3 e4⟩
    · cases hs

theorem sound_storeRow {t e n sz k j off : Nat} {x y : Operand} {v : V} {l : List (List D)} {ds : List D} (ho : o.op = .store t x y) (hx : eo fr x = some (.ept k sz j off)) (hy : eo fr y = some v) (hs : sizeT P t = some n) (hk : lk hp k = some (.row e sz l))
    (hds : toDs hp (cellsV v) = some ds) (hl : ds.length = n) (hle : off + n ≤ sz) (hgk : k ∉ ownsOf (cellsV v)) : Sound P Γ fr hp U tk o ⟨.d (.lit undef), ownsOf (cellsV v), [(k, .row e sz (l.set j (ins (l.getD j []) off ds)))], none, j < l.length, L⟩ := by
  intro a w m K Q hR htk hj hd hK
  have hj : j < l.length := hj
  have hr1 := eo_rel hR hx
  have hr2 := eo_rel hR hy
  have hl0 : ∀ t b, lk (delAll hp (ownsOf (cellsV v))) t = some b → lk hp t = some b := delAll_sub
  obtain ⟨d1, d2⟩ := toDs_rel hR.mem hl0 (cellsV v) ds hds (fun t ht => by rw [lk_delAll, if_pos ht])
  have hone : (cellsV v).all one = true := by
    rw [List.all_eq_true]
    have : ∀ (vs : List V) (ds : List D), toDs hp vs = some ds → ∀ y ∈ vs, one y = true := by
      intro vs
      induction vs with
      | nil => intro ds _ y hy; cases hy
      | cons v0 r0 ih =>
        intro ds hds y hy
        simp only [toDs] at hds
        split at hds
        · rename_i q1 q2 hq1 hq2
          cases hy with
          | head =>
            unfold toD at hq1
            split at hq1
            · rename_i c
              cases hc : c.oneCell' with
              | false => rw [hc] at hq1; cases hq1
              | true => simpa [one] using hc
            · rfl
            · rfl
            · cases hq1
          | tail _ hy => exact ih q2 hq2 y hy
        · cases hds
    exact this _ _ hds
  obtain ⟨c1, c2, c3⟩ := rv_cells hr2 hone
  obtain ⟨xs, hown, hrow, hO', hv⟩ := hR.mem.hb _ _ hk
  have hgl : l.getD j [] = l[j] := by simp [hj]
  have hlen : (l[j]).length = sz := hrow _ (List.getElem_mem hj)
  rw [hgl] at hK
  rcases hown.2 with ⟨_, e2⟩ | ⟨g, cap, cur, e1, _, hg, hlc, hcap, hcs, htake⟩
  · omega
  have hjs : j * sz + sz ≤ l.length * sz := by
    have : (j + 1) * sz ≤ l.length * sz := Nat.mul_le_mul_right sz hj
    rw [Nat.add_mul, Nat.one_mul] at this; exact this
  have hcl : l.length * sz ≤ cap * sz := Nat.mul_le_mul_right sz hlc
  have hxp : a.eval x = .pointer (some ⟨g, j * sz + off, none⟩) := by
    generalize a.eval x = c at *
    cases hr1 with
    | ept _ _ _ _ b n' c' h1 h2 =>
      rw [e1] at h2
      simp only [Value.slice.injEq, Option.some.injEq, Addr.mk.injEq, and_true] at h2
      rw [h2.1]
  obtain ⟨i, hi, hin⟩ := sizeT_eq hs
  have hcn : (a.eval y).cells.size = n := by rw [← c1, ← d1, hl]
  have hrun : (execOp a.eval o).run P w = .ok .skip (w.setRow g (cur.toList.take (j * sz + off) ++ (a.eval y).cells.toList ++ cur.toList.drop (j * sz + off + (a.eval y).cells.toList.length)).toArray) := by
    have h1 : execOp a.eval o = (do Instr.storeAt t (a.eval x) (a.eval y); pure .skip) := by simp only [execOp, ho]
    have h2 := run_storeCells_at P g (j * sz + off) e (a.eval y).cells.toList 0 cur w hg (by simp; omega) (fun u hu => by
      obtain ⟨k, hk, e⟩ := List.getElem_of_mem hu
      exact c2 k u (by rw [← e]; simp))
    simp only [Nat.add_zero] at h2
    rw [h1, hxp]
    have hne : ¬ (a.eval y).cells.size ≠ n := by omega
    have e1 : (sizeOf t).run P w = .ok n w := by simp [sizeOf, typeInfo, hi, hin, go_sem]
    simp only [Instr.storeAt, Instr.sureAddr, storeVar, Sem.run_bind, Sem.run_pure, Result.andThen_ok, e1, if_neg hne, h2]
  have hlen2 : (a.eval y).cells.toList.length = n := by simp [hcn]
  refine wp_skip' hrun (hK _ _ m ?_ (put_defers a _ _))
  have haft : after hp tk (⟨.d (.lit undef), ownsOf (cellsV v), [(k, .row e sz (l.set j (ins l[j] off ds)))], none, j < l.length, L⟩ : Rs P) = sto (delAll hp (ownsOf (cellsV v))) k (.row e sz (l.set j (ins l[j] off ds))) := rfl
  rw [haft]
  have hR' := hR.less hl0
  have hk' : lk (delAll hp (ownsOf (cellsV v))) k = some (.row e sz l) := by rw [lk_delAll, if_neg hgk]; exact hk
  refine (rel_putA (hR'.setBlk hk' (by rw [e1]; rfl) ?_) hd (.d (.lit undef))).given fun t h => .inl h
  have hC0 : ∀ p z, Cw Γ.F (delAll hp (ownsOf (cellsV v))) m w p z → Cw Γ.F (sto (delAll hp (ownsOf (cellsV v))) k (.row e sz (l.set j (ins l[j] off ds)))) m (w.setRow g (cur.toList.take (j * sz + off) ++ (a.eval y).cells.toList ++ cur.toList.drop (j * sz + off + (a.eval y).cells.toList.length)).toArray) p z := fun p z hc => hc.setRow hk' (by rw [e1]; rfl)
  have hinsl : (ins l[j] off ds).length = sz := by
    rw [ins_spec _ _ _ (by omega)]; simp only [List.length_append, List.length_take, List.length_drop]; omega
  rw [hlen2] at hC0 ⊢
  have hxs : ∀ q, q < l.length * sz → xs[q]? = cur[q]? := fun q hq => by rw [← htake, List.getElem?_take, if_pos hq]; simp
  have get : ∀ q, (cur.toList.take (j * sz + off) ++ (a.eval y).cells.toList ++ cur.toList.drop (j * sz + off + n))[q]? = if j * sz + off ≤ q ∧ q < j * sz + off + n then (a.eval y).cells[q - (j * sz + off)]? else cur[q]? := by
    intro q
    have := get_mid cur.toList (j * sz + off) (a.eval y).cells.toList (by simp; omega) q
    rw [hlen2] at this
    rw [this]; simp
  refine ⟨(cur.toList.take (j * sz + off) ++ (a.eval y).cells.toList ++ cur.toList.drop (j * sz + off + n)).take (l.length * sz), ⟨?_, .inr ⟨g, cap, _, by rw [List.length_set]; exact e1, Nat.zero_le _, setRow_heap w g cur _ e (0, 0) hg, by rw [List.length_set]; exact hlc, hcap, ?_, by rw [List.length_set]⟩⟩, fun row hrow' => ?_, fun u hu => ?_, fun j' row hj' k' x' hk' => ?_⟩
  · rw [List.length_set, List.length_take]
    simp only [List.length_append, List.length_take, List.length_drop, Array.length_toList, hcn]
    omega
  · simp only [List.size_toArray, List.length_append, List.length_take, List.length_drop, Array.length_toList, hcn]; omega
  · rcases List.mem_or_eq_of_mem_set hrow' with h | rfl
    · exact hrow row h
    · exact hinsl
  · obtain ⟨q, hq, e5⟩ := List.getElem_of_mem hu
    have hq2 : q < l.length * sz := by rw [List.length_take] at hq; omega
    have : ((cur.toList.take (j * sz + off) ++ (a.eval y).cells.toList ++ cur.toList.drop (j * sz + off + n)).take (l.length * sz))[q]? = some u := by rw [← e5]; exact List.getElem?_eq_getElem hq
    rw [List.getElem?_take, if_pos hq2, get] at this
    split at this
    · exact c2 _ u this
    · exact hO' u (List.mem_of_getElem? (by rw [hxs q hq2]; exact this))
  · have hj'l : j' < l.length := by have := (List.getElem?_eq_some_iff.1 hj').1; rwa [List.length_set] at this
    have hk'sz : k' < sz := by
      have h1 := (List.getElem?_eq_some_iff.1 hk').1
      rw [List.getElem?_set] at hj'
      split at hj'
      · rename_i e6
        subst e6
        simp only [hj, if_true, Option.some.injEq] at hj'
        subst hj'
        omega
      · rw [hrow row (List.mem_of_getElem? hj')] at h1; exact h1
    have hlt : j' * sz + k' < l.length * sz := by
      have : (j' + 1) * sz ≤ l.length * sz := Nat.mul_le_mul_right sz hj'l
      rw [Nat.add_mul, Nat.one_mul] at this; omega
    rw [List.getElem?_take, if_pos hlt, get]
    rw [List.getElem?_set] at hj'
    split at hj'
    · rename_i e6
      subst e6
      simp only [hj, if_true, Option.some.injEq] at hj'
      subst hj'
      rw [ins_spec _ _ _ (by omega), get_mid _ _ _ (by omega), hl] at hk'
      split at hk'
      · rename_i hc
        rw [if_pos (by omega)]
        have hcv : k' - off < (cellsV v).length := by rw [← d1, hl]; omega
        have hca : k' - off < (a.eval y).cells.size := by omega
        refine ⟨(a.eval y).cells[k' - off], by rw [show j * sz + k' - (j * sz + off) = k' - off by omega]; simp [hca], ?_⟩
        exact (d2 (k' - off) (cellsV v)[k' - off] x' _ (by simp [hcv]) hk' (c3 (k' - off) _ _ (by simp [hcv]) (by simp [hca]))).1.mono hC0
      · rename_i hc
        rw [if_neg (by omega)]
        obtain ⟨u, hu, hd'⟩ := hv j l[j] (by simp [hj]) k' x' hk'
        exact ⟨u, by rw [← hxs _ hlt]; exact hu, (hd'.mono fun p z hc => hc.less hl0).mono hC0⟩
    · rename_i hne
      have hrw : ¬ (j * sz + off ≤ j' * sz + k' ∧ j' * sz + k' < j * sz + off + n) := by
        intro hc
        rcases Nat.lt_or_gt_of_ne hne with h | h
        · have : (j + 1) * sz ≤ j' * sz := Nat.mul_le_mul_right sz h
          rw [Nat.add_mul, Nat.one_mul] at this; omega
        · have : (j' + 1) * sz ≤ j * sz := Nat.mul_le_mul_right sz h
          rw [Nat.add_mul, Nat.one_mul] at this; omega
      rw [if_neg hrw]
      obtain ⟨u, hu, hd'⟩ := hv j' row hj' k' x' hk'
      exact ⟨u, by rw [← hxs _ hlt]; exact hu, (hd'.mono fun p z hc => hc.less hl0).mono hC0⟩

end
end Go.Abs

set_option linter.unusedVariables false
set_option linter.unusedSimpArgs false
namespace Go.Abs
open Go Go.RowKit

section
variable {P : Program} {Γ : Ctx} {fr : List (Nat × V)} {hp hp' : List (Nat × Blk)} {U U' : Nat → Prop} {a : Act} {w w' : World} {m m' : Nat → Value} {tk : Nat} {L : List (Use P)} {o : Oper}
  {K : Act → World → Prop} {Q : Exit → Act → World → Prop}

theorem snapL_eq (hp : List (Nat × Blk)) (ts : List Nat) : ∀ l : List V, snapL hp ts l = l.map (snap hp ts)
  | [] => by simp [snapL]
  | x :: r => by simp [snapL, snapL_eq hp ts r]
theorem renL_eq (ts : List Nat) (tk : Nat) : ∀ l : List V, renL ts tk l = l.map (ren ts tk)
  | [] => by simp [renL]
  | x :: r => by simp [renL, renL_eq ts tk r]
theorem mem_seenL (ts : List Nat) {t : Nat} : ∀ {l : List V} {x : V}, x ∈ l → t ∈ seen ts x → t ∈ seenL ts l
  | [], x, h, _ => by cases h
  | y :: r, x, h, ht => by
    rw [seenL]
    rcases List.mem_cons.1 h with rfl | h
    · exact List.mem_append_left _ ht
    · exact List.mem_append_right _ (mem_seenL ts h ht)
theorem tokLB_mem {n : Nat} : ∀ {l : List V} {x : V}, tokLB n l = true → x ∈ l → tokB n x = true
  | [], x, _, h => by cases h
  | y :: r, x, hb, h => by
    rw [tokLB, Bool.and_eq_true] at hb
    rcases List.mem_cons.1 h with rfl | h
    · exact hb.1
    · exact tokLB_mem hb.2 h
theorem flatL_mem : ∀ {l : List V} {x : V}, flatL l = true → x ∈ l → flat x = true
  | [], x, _, h => by cases h
  | y :: r, x, hb, h => by
    rw [flatL, Bool.and_eq_true] at hb
    rcases List.mem_cons.1 h with rfl | h
    · exact hb.1
    · exact flatL_mem hb.2 h
theorem tokBlks_mem {n : Nat} : ∀ {l : List Blk} {x : Blk}, tokBlks n l = true → x ∈ l → tokBlk n x = true
  | [], x, _, h => by cases h
  | y :: r, x, hb, h => by
    rw [tokBlks, Bool.and_eq_true] at hb
    rcases List.mem_cons.1 h with rfl | h
    · exact hb.1
    · exact tokBlks_mem hb.2 h
theorem flatBlks_mem : ∀ {l : List Blk} {x : Blk}, flatBlks l = true → x ∈ l → flatBlk x = true
  | [], x, _, h => by cases h
  | y :: r, x, hb, h => by
    rw [flatBlks, Bool.and_eq_true] at hb
    rcases List.mem_cons.1 h with rfl | h
    · exact hb.1
    · exact flatBlks_mem hb.2 h

theorem idx_some : ∀ {ts : List Nat} {t i : Nat}, idx ts t = some i → ts[i]? = some t
  | [], t, i, h => by cases h
  | x :: r, t, i, h => by
    simp only [idx] at h
    cases hb : x.beq t with
    | true =>
      rw [hb] at h
      obtain rfl := Option.some.inj h
      simp [Nat.eq_of_beq_eq_true hb]
    | false =>
      rw [hb] at h
      simp only [cond_false] at h
      cases hi : idx r t with
      | none => rw [hi] at h; cases h
      | some k =>
        rw [hi] at h
        obtain rfl := Option.some.inj h
        simpa using idx_some hi
theorem idx_none : ∀ {ts : List Nat} {t : Nat}, idx ts t = none → t ∉ ts
  | [], t, h => by simp
  | x :: r, t, h => by
    simp only [idx] at h
    cases hb : x.beq t with
    | true => rw [hb] at h; cases h
    | false =>
      rw [hb] at h
      simp only [cond_false, Option.map_eq_none_iff] at h
      intro hm
      rcases List.mem_cons.1 hm with e | hm
      · subst e; rw [beq_self] at hb; cases hb
      · exact idx_none h hm

/-- What the second tells no more than the first, holds of the same value. -/
theorem le_rel {C : Addr → Value → Prop} {x : V} {u : Value} (h : RV C m U x u) : ∀ {y : V}, le x y → RV C m U y u := by
  have any : ∀ u, RV C m U .any u := fun u => .any u
  have lists : ∀ (cs ds : List V), leL cs ds → cs.length = ds.length ∧ ∀ (k : Nat) (y : V), ds[k]? = some y → ∃ x, cs[k]? = some x ∧ le x y := by
    intro cs
    induction cs with
    | nil => intro ds h; cases ds with
      | nil => exact ⟨rfl, by simp⟩
      | cons d r => simp [leL] at h
    | cons c r ih => intro ds h; cases ds with
      | nil => simp [leL] at h
      | cons d r' =>
        simp only [leL] at h
        obtain ⟨h1, h2⟩ := ih r' h.2
        refine ⟨by simp [h1], fun k y hk => ?_⟩
        cases k with
        | zero => simp at hk; subst hk; exact ⟨c, by simp, h.1⟩
        | succ k => simpa using h2 k y (by simpa using hk)
  induction h with
  | @d x v h =>
    intro y hy
    cases y with
    | any => exact any _
    | d y =>
      simp only [le, leD] at hy
      rcases hy with rfl | ⟨rfl, rfl⟩
      · exact .d h
      · cases h
        exact .d (.lst [] none 0 0 (fun _ _ => undef) (Nat.le_refl _) (Nat.zero_le _) (by simp) (by simp) (by simp) (by simp))
    | _ => simp [le] at hy
  | own t h ho => intro y hy; cases y <;> simp only [le] at hy <;> first | exact any _ | (cases hy <;> exact .own t h ho)
  | ptr t off b h hm => intro y hy; cases y <;> simp only [le] at hy <;> first | exact any _ | (cases hy <;> exact .ptr t off b h hm)
  | ept t sz j k b n c h hm => intro y hy; cases y <;> simp only [le] at hy <;> first | exact any _ | (cases hy <;> exact .ept t sz j k b n c h hm)
  | ip cs ad cv h1 h2 h3 => intro y hy; cases y <;> simp only [le] at hy <;> first | exact any _ | (cases hy <;> exact .ip cs ad cv h1 h2 h3)
  | agg cs vs hl hO _ ih =>
    intro y hy
    cases y with
    | any => exact any _
    | agg ds =>
      simp only [le] at hy
      obtain ⟨e, h⟩ := lists cs ds hy
      exact .agg ds vs (by omega) hO fun k y u hk hu => by obtain ⟨x, hx, hle⟩ := h k y hk; exact ih k x u hx hu hle
    | _ => simp [le] at hy
  | tup cs vs hl _ ih =>
    intro y hy
    cases y with
    | any => exact any _
    | tup ds =>
      simp only [le] at hy
      obtain ⟨e, h⟩ := lists cs ds hy
      exact .tup ds vs (by omega) fun k y u hk hu => by obtain ⟨x, hx, hle⟩ := h k y hk; exact ih k x u hx hu hle
    | _ => simp [le] at hy
  | fn f cs vs hl _ ih =>
    intro y hy
    cases y with
    | any => exact any _
    | fn g ds =>
      simp only [le] at hy
      obtain ⟨rfl, hy⟩ := hy
      obtain ⟨e, h⟩ := lists cs ds hy
      exact .fn f ds vs (by omega) fun k y u hk hu => by obtain ⟨x, hx, hle⟩ := h k y hk; exact ih k x u hx hu hle
    | _ => simp [le] at hy
  | when b x v ht hf ih => intro y hy; cases y <;> simp only [le] at hy <;> first | exact any _ | (cases hy <;> exact .when b x v ht hf)
  | any v => intro y hy; cases y <;> simp [le] at hy; exact any _

theorem leL_get : ∀ {cs ds : List V}, leL cs ds → cs.length = ds.length ∧ ∀ (k : Nat) (y : V), ds[k]? = some y → ∃ x, cs[k]? = some x ∧ le x y
  | [], [], _ => ⟨rfl, by simp⟩
  | [], d :: r, h => by simp [leL] at h
  | c :: r, [], h => by simp [leL] at h
  | c :: r, d :: r', h => by
    simp only [leL] at h
    obtain ⟨h1, h2⟩ := leL_get h.2
    refine ⟨by simp [h1], fun k y hk => ?_⟩
    cases k with
    | zero => simp at hk; subst hk; exact ⟨c, by simp, h.1⟩
    | succ k => simpa using h2 k y (by simpa using hk)

/-- Tokens numbered anew; if a value leads to no memory, whatever cells stay. -/
theorem ren_rel {C C' : Addr → Value → Prop} {ts : List Nat} {n : Nat} (hm : ∀ i, i < n → m' (sig ts tk i) = m i) (hU : ∀ i, i < n → U' (sig ts tk i)) {x : V} {u : Value} (h : RV C m U x u) (ht : tokB n x = true) (hC : (∀ p v, C p v → C' p v) ∨ flat x = true) :
    RV C' m' U' (ren ts tk x) u := by
  induction h with
  | @d x v h =>
    rcases hC with hC | hf
    · exact .d (h.mono hC)
    · cases x with
      | lit c => cases h; exact .d (.lit _)
      | lst l => simp [flat] at hf
  | own t h ho =>
    have ht' : t < n := by simpa [tokB, Nat.blt_eq] using ht
    rw [← hm t ht']
    exact .own _ (hU t ht') (by rw [hm t ht']; exact ho)
  | ptr t off b h hm' =>
    have ht' : t < n := by simpa [tokB, Nat.blt_eq] using ht
    exact .ptr _ off b (hU t ht') ((hm t ht').trans hm')
  | ept t sz j k b n' c h hm' =>
    have ht' : t < n := by simpa [tokB, Nat.blt_eq] using ht
    exact .ept _ sz j k b n' c (hU t ht') ((hm t ht').trans hm')
  | ip cs ad cv h1 h2 h3 =>
    rcases hC with hC | hf
    · exact .ip cs ad cv (fun k x hk => hC _ _ (h1 k x hk)) h2 fun k x hk => (h3 k x hk).mono hC
    · simp [flat] at hf
  | agg cs vs hl hO h ih =>
    rw [ren, renL_eq]
    refine .agg _ vs (by simpa using hl) hO fun k y u hk hu => ?_
    rw [List.getElem?_map] at hk
    cases hx : cs[k]? with
    | none => rw [hx] at hk; cases hk
    | some x =>
      rw [hx] at hk
      obtain rfl := Option.some.inj hk
      have hmem := List.mem_of_getElem? hx
      exact ih k x u hx hu (tokLB_mem (by simpa [tokB] using ht) hmem) (hC.imp id fun hf => flatL_mem (by simpa [flat] using hf) hmem)
  | tup cs vs hl h ih =>
    rw [ren, renL_eq]
    refine .tup _ vs (by simpa using hl) fun k y u hk hu => ?_
    rw [List.getElem?_map] at hk
    cases hx : cs[k]? with
    | none => rw [hx] at hk; cases hk
    | some x =>
      rw [hx] at hk
      obtain rfl := Option.some.inj hk
      have hmem := List.mem_of_getElem? hx
      exact ih k x u hx hu (tokLB_mem (by simpa [tokB] using ht) hmem) (hC.imp id fun hf => flatL_mem (by simpa [flat] using hf) hmem)
  | fn f cs vs hl h ih =>
    rw [ren, renL_eq]
    refine .fn f _ vs (by simpa using hl) fun k y u hk hu => ?_
    rw [List.getElem?_map] at hk
    cases hx : cs[k]? with
    | none => rw [hx] at hk; cases hk
    | some x =>
      rw [hx] at hk
      obtain rfl := Option.some.inj hk
      have hmem := List.mem_of_getElem? hx
      exact ih k x u hx hu (tokLB_mem (by simpa [tokB] using ht) hmem) (hC.imp id fun hf => flatL_mem (by simpa [flat] using hf) hmem)
  | when b x v _ _ _ => exact .any v
  | any v => exact .any v

theorem tok_ren_id {x : V} (h : tokB 0 x = true) (ts : List Nat) (tk : Nat) : ren ts tk x = x := by
  have key : ∀ n (x : V), SizeOf.sizeOf x < n → tokB 0 x = true → ren ts tk x = x := by
    intro n
    induction n with
    | zero => intro x h; omega
    | succ n ih =>
      intro x hs hx
      have lst : ∀ cs : List V, SizeOf.sizeOf cs < n → tokLB 0 cs = true → renL ts tk cs = cs := by
        intro cs
        induction cs with
        | nil => intro _ _; rfl
        | cons c r ihr =>
          intro hs hb
          simp only [List.cons.sizeOf_spec] at hs
          rw [tokLB, Bool.and_eq_true] at hb
          rw [renL, ih c (by omega) hb.1, ihr (by omega) hb.2]
      cases x with
      | when b v => simp [tokB] at hx
      | own t => simp [tokB] at hx
      | ptr t o => simp [tokB] at hx
      | ept t a b c => simp [tokB] at hx
      | agg cs => simp only [V.agg.sizeOf_spec] at hs; rw [ren, lst cs (by omega) (by simpa [tokB] using hx)]
      | tup cs => simp only [V.tup.sizeOf_spec] at hs; rw [ren, lst cs (by omega) (by simpa [tokB] using hx)]
      | fn f cs => simp only [V.fn.sizeOf_spec] at hs; rw [ren, lst cs (by omega) (by simpa [tokB] using hx)]
      | _ => rfl
  exact key _ x (Nat.lt_succ_self _) h

end
end Go.Abs
