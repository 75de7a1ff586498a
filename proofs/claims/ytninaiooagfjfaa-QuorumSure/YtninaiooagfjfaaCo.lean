/- One operation at a time, eleventh part: a call of a Go function by its contract. No conditions. -/
import Derived.Test.YtninaiooagfjfaaCn
set_option linter.unusedVariables false
set_option linter.unusedSimpArgs false
namespace Go.Abs
open Go Go.RowKit

section
variable {P : Program} {Γ : Ctx} {fr : List (Nat × V)} {hp hp' : List (Nat × Blk)} {U U' : Nat → Prop} {a : Act} {w w' : World} {m m' : Nat → Value} {tk : Nat} {L : List (Use P)} {o : Oper}
  {K : Act → World → Prop} {Q : Exit → Act → World → Prop}

/-- A frame of facts on what a callee is handed. -/
structure Hands (Γ : Ctx) (hp : List (Nat × Blk)) (U : Nat → Prop) (w : World) (m : Nat → Value) (ts : List Nat) (gone : List Nat) (n : Nat) (F : Nat → Prop) (mc : Nat → Value) (hpc : List (Nat × Blk)) : Prop where
  H : RelH Γ hp U w m
  alive : ∀ (i t : Nat), ts[i]? = some t → ∃ b, lk hp t = some b
  len : ts.length = n
  mc : ∀ (i t : Nat), ts[i]? = some t → mc i = m t
  hpc : ∀ (i : Nat) (b : Blk), lk hpc i = some b → i < n
  F : ∀ g, F g → Γ.F g ∨ ∃ t b, lk hp t = some b ∧ t ∉ ts ∧ t ∉ gone ∧ blkOf (m t) = some g

theorem Hands.cell {ts gone : List Nat} {n : Nat} {F : Nat → Prop} {mc : Nat → Value} {hpc : List (Nat × Blk)} (h : Hands Γ hp U w m ts gone n F mc hpc) {p : Addr} {v : Value} (hc : Cw Γ.F hp m w p v) : Cw F hpc mc w p v := by
  refine ⟨hc.cell, fun hf => ?_, fun i b hb e => ?_⟩
  · rcases h.F _ hf with hf | ⟨t, b, ht, _, _, e⟩
    · exact hc.notF hf
    · exact hc.far t b ht e
  · have hi := h.hpc i b hb
    rw [← h.len] at hi
    have hti : ts[i]? = some ts[i] := by simp [hi]
    obtain ⟨b', hb'⟩ := h.alive i _ hti
    rw [h.mc i _ hti] at e
    exact hc.far _ _ hb' e

/-- The cells of a block that is seen as data. -/
theorem Hands.own {ts gone : List Nat} {n : Nat} {F : Nat → Prop} {mc : Nat → Value} {hpc : List (Nat × Blk)} (h : Hands Γ hp U w m ts gone n F mc hpc) {t g : Nat} {b : Blk} (ht : lk hp t = some b) (hg : blkOf (m t) = some g) (hts : t ∉ ts) (hgone : (∀ g, ¬ F g) ∨ t ∈ gone) :
    ¬ F g ∧ ∀ i b, lk hpc i = some b → blkOf (mc i) ≠ some g := by
  refine ⟨fun hf => ?_, fun i b' hb' e => ?_⟩
  · rcases hgone with hn | hgone
    · exact hn g hf
    · rcases h.F _ hf with hf | ⟨t', b', ht', _, hn, e⟩
      · exact h.H.nF t b g ht hg hf
      · have := h.H.sep t t' b b' g ht ht' hg e
        subst this; exact hn hgone
  · have hi := h.hpc i b' hb'
    rw [← h.len] at hi
    have hti : ts[i]? = some ts[i] := by simp [hi]
    obtain ⟨b2, hb2⟩ := h.alive i _ hti
    rw [h.mc i _ hti] at e
    have := h.H.sep t _ b b2 g ht hb2 hg e
    exact hts (this ▸ List.getElem_mem hi)

theorem Hands.row {ts gone : List Nat} {n : Nat} {F : Nat → Prop} {mc : Nat → Value} {hpc : List (Nat × Blk)} (h : Hands Γ hp U w m ts gone n F mc hpc) {t e sz : Nat} {l : List (List D)} (ht : lk hp t = some (.row e sz l)) (hts : t ∉ ts) (hgone : (∀ g, ¬ F g) ∨ t ∈ gone) :
    RD (Cw F hpc mc w) (.lst l) (m t) := by
  obtain ⟨xs, hown, hrow, hO, hv⟩ := h.H.hb t _ ht
  rcases hown.2 with ⟨e1, e2⟩ | ⟨g, cap, cur, e1, _, hg, hle, hcap, hcs, htake⟩
  · have : l = [] := List.eq_nil_of_length_eq_zero e2
    subst this
    rw [e1]
    exact .lst [] none 0 0 (fun _ _ => undef) (Nat.le_refl _) (Nat.zero_le _) (by simp) (by simp) (by simp) (by simp)
  · rw [e1]
    have hbl : (m t).ownBlock = some g := by rw [e1]; rfl
    obtain ⟨q1, q2⟩ := h.own ht (g := g) (by rw [e1]; rfl) hts hgone
    refine .lst l _ cap sz (fun j k => (xs[j * sz + k]?).getD undef) hle hcap hrow (fun j row hj k x hk => ⟨_, rfl, ?_⟩) (fun j row hj k x hk => ?_) (fun j row hj k x hk => ?_) <;> obtain ⟨u, hu, hd⟩ := hv j row hj k x hk
    · rw [hu]
      exact ⟨hown.cells hbl _ u hu, by rw [add_plain]; exact q1, fun i b hb => by rw [add_plain]; exact q2 i b hb⟩
    · rw [hu]; exact hO u (List.mem_of_getElem? hu)
    · rw [hu]; exact hd.mono fun p v hc => h.cell hc

theorem pureDs : ∀ (vs : List V) (ds : List D), toDs [] vs = some ds → vs.length = ds.length ∧ ∀ (k : Nat) (x : D), ds[k]? = some x → vs[k]? = some (.d x)
  | [], ds, h => by obtain rfl := Option.some.inj h; exact ⟨rfl, by simp⟩
  | v :: r, ds, h => by
    simp only [toDs] at h
    split at h
    · rename_i x y h1 h2
      obtain rfl := Option.some.inj h
      obtain ⟨i1, i2⟩ := pureDs r y h2
      refine ⟨by simp [i1], fun k z hz => ?_⟩
      cases k with
      | zero =>
        simp at hz
        subst hz
        unfold toD at h1
        split at h1
        · rename_i c
          cases hc : c.oneCell' with
          | false => rw [hc] at h1; cases h1
          | true => rw [hc] at h1; obtain rfl := Option.some.inj h1; rfl
        · obtain rfl := Option.some.inj h1; rfl
        · simp [lk] at h1
        · cases h1
      | succ k => simpa using i2 k z (by simpa using hz)
    · cases h

/-- What the callee sees. -/
theorem Hands.snap {ts gone : List Nat} {n : Nat} {F : Nat → Prop} {mc : Nat → Value} {hpc : List (Nat × Blk)} (h : Hands Γ hp U w m ts gone n F mc hpc) {x : V} {u : Value} (hx : RV (Cw Γ.F hp m w) m U x u) (hg : (∀ g, ¬ F g) ∨ ∀ t, t ∈ seen ts x → t ∈ gone) :
    RV (Cw F hpc mc w) mc (fun t => t < n) (Abs.snap hp ts x) u := by
  have ii : ∀ {t i : Nat}, idx ts t = some i → i < n ∧ mc i = m t := fun {t i} hi => by
    have h1 := idx_some hi
    exact ⟨by rw [← h.len]; exact (List.getElem?_eq_some_iff.1 h1).1, h.mc i t h1⟩
  induction hx with
  | d hd => simp only [Abs.snap]; exact .d (hd.mono fun p v hc => h.cell hc)
  | own t hU ho =>
    simp only [Abs.snap]
    split
    · rename_i i hi
      obtain ⟨h1, h2⟩ := ii hi
      rw [← h2]; exact .own i h1 (by rw [h2]; exact ho)
    · rename_i hi
      split
      · rename_i e sz l hl
        exact .d (h.row hl (idx_none hi) (hg.imp id fun hg => hg t (by simp [seen, hi])))
      · exact .any _
  | ptr t off b hU hm =>
    simp only [Abs.snap]
    split
    · rename_i i hi
      obtain ⟨h1, h2⟩ := ii hi
      exact .ptr i off b h1 (h2.trans hm)
    · rename_i hi
      split
      · rename_i ty cs hl
        split
        · rename_i ds hds
          obtain ⟨i1, i2⟩ := pureDs _ ds hds
          obtain ⟨g, arr, e, hgg, hsz, hO, hv⟩ := h.H.hb t _ hl
          rw [hm] at e
          simp only [Value.pointer.injEq, Option.some.injEq, Addr.mk.injEq, and_true] at e
          subst e
          obtain ⟨q1, q2⟩ := h.own hl (g := b) (by rw [hm]; rfl) (idx_none hi) (hg.imp id fun hg => hg t (by simp [seen, hi]))
          have get : ∀ k x, ds[k]? = some x → off + k < arr.size ∧ cs[off + k]? = some (.d x) := fun k x hk => by
            have h1 := i2 k x hk
            rw [List.getElem?_drop] at h1
            exact ⟨by rw [hsz]; exact (List.getElem?_eq_some_iff.1 h1).1, h1⟩
          refine .ip ds _ (fun k => arr.getD (off + k) undef) (fun k x hk => ?_) (fun k x hk => ?_) (fun k x hk => ?_) <;> obtain ⟨g1, g2⟩ := get k x hk
          · rw [add_plain]
            refine ⟨by simp [World.cell?, hgg, g1], q1, fun i b' hb' => q2 i b' hb'⟩
          · exact hO (off + k) _ (by simp [g1])
          · have := hv (off + k) _ (arr.getD (off + k) undef) g2 (by simp [g1])
            cases this with
            | d hd => exact hd.mono fun p v hc => h.cell hc
        · exact .any _
      · exact .any _
  | ept t sz j k b n' c hU hm =>
    simp only [Abs.snap]
    split
    · rename_i i hi
      obtain ⟨h1, h2⟩ := ii hi
      exact .ept i sz j k b n' c h1 (h2.trans hm)
    · exact .any _
  | ip cs ad cv h1 h2 h3 => simp only [Abs.snap]; exact .ip cs ad cv (fun k x hk => h.cell (h1 k x hk)) h2 fun k x hk => (h3 k x hk).mono fun p v hc => h.cell hc
  | agg cs vs hl hO _ ih =>
    simp only [Abs.snap, snapL_eq]
    refine .agg _ vs (by simpa using hl) hO fun k y u hk hu => ?_
    rw [List.getElem?_map] at hk
    cases hx : cs[k]? with
    | none => rw [hx] at hk; cases hk
    | some x =>
      rw [hx] at hk
      obtain rfl := Option.some.inj hk
      exact ih k x u hx hu (hg.imp id fun hg t ht => hg t (by rw [seen]; exact mem_seenL ts (List.mem_of_getElem? hx) ht))
  | tup cs vs hl _ ih =>
    simp only [Abs.snap, snapL_eq]
    refine .tup _ vs (by simpa using hl) fun k y u hk hu => ?_
    rw [List.getElem?_map] at hk
    cases hx : cs[k]? with
    | none => rw [hx] at hk; cases hk
    | some x =>
      rw [hx] at hk
      obtain rfl := Option.some.inj hk
      exact ih k x u hx hu (hg.imp id fun hg t ht => hg t (by rw [seen]; exact mem_seenL ts (List.mem_of_getElem? hx) ht))
  | fn f cs vs hl _ ih =>
    simp only [Abs.snap, snapL_eq]
    refine .fn f _ vs (by simpa using hl) fun k y u hk hu => ?_
    rw [List.getElem?_map] at hk
    cases hx : cs[k]? with
    | none => rw [hx] at hk; cases hk
    | some x =>
      rw [hx] at hk
      obtain rfl := Option.some.inj hk
      exact ih k x u hx hu (hg.imp id fun hg t ht => hg t (by rw [seen]; exact mem_seenL ts (List.mem_of_getElem? hx) ht))
  | when b x v _ _ _ => simp only [Abs.snap]; exact .any v
  | any v => simp only [Abs.snap]; exact .any v

theorem lk_enum : ∀ (bs : List Blk) (i0 i : Nat), lk (enum bs i0) i = if i0 ≤ i then bs[i - i0]? else none
  | [], i0, i => by simp [enum, lk]
  | b :: r, i0, i => by
    rw [enum, lk_cons, lk_enum r]
    by_cases h : i0 = i
    · subst h; simp
    · rw [if_neg h]
      by_cases h2 : i0 + 1 ≤ i
      · rw [if_pos h2, if_pos (by omega), show i - i0 = (i - (i0 + 1)) + 1 by omega, List.getElem?_cons_succ]
      · rw [if_neg h2, if_neg (by omega)]

theorem hands_spec (hp : List (Nat × Blk)) (all : List Nat) : ∀ (ts : List Nat) (bs : List Blk), hands hp all ts bs → ts.length = bs.length ∧ ∀ (i t : Nat), ts[i]? = some t → ∃ b' b, lk hp t = some b' ∧ bs[i]? = some b ∧ leBlk (snapB hp all b') b
  | [], [], _ => ⟨rfl, by simp⟩
  | [], b :: bs, h => by simp [hands] at h
  | t :: ts, [], h => by simp [hands] at h
  | t :: ts, b :: bs, h => by
    simp only [hands] at h
    obtain ⟨h1, h2⟩ := h
    obtain ⟨i1, i2⟩ := hands_spec hp all ts bs h2
    refine ⟨by simp [i1], fun i t' hi => ?_⟩
    cases i with
    | zero =>
      simp at hi
      subst hi
      cases hl : lk hp t with
      | none => rw [hl] at h1; exact h1.elim
      | some b' => rw [hl] at h1; exact ⟨b', b, rfl, by simp, h1⟩
    | succ i => simpa using i2 i t' (by simpa using hi)

theorem mem_seenH (hp : List (Nat × Blk)) (all : List Nat) {t k ty : Nat} {cs : List V} (hk : lk hp k = some (.var ty cs)) (ht : t ∈ seenL all cs) : ∀ {l : List Nat}, k ∈ l → t ∈ seenH hp all l
  | [], h => by cases h
  | x :: r, h => by
    rw [seenH]
    rcases List.mem_cons.1 h with rfl | h
    · exact List.mem_append_left _ (by rw [hk]; exact ht)
    · exact List.mem_append_right _ (mem_seenH hp all hk ht h)

/-- The callee's memory as it begins. -/
theorem Hands.relH {ts gone : List Nat} {bs : List Blk} {F : Nat → Prop} {mc : Nat → Value} (nt : Nat) (h : Hands Γ hp U w m ts gone bs.length F mc (enum bs 0)) (hb : hands hp ts ts bs) (hnd : ts.Nodup) (hg : (∀ g, ¬ F g) ∨ ∀ t, t ∈ seenH hp ts ts → t ∈ gone) :
    RelH ⟨w, bs.length, mc, nt, F⟩ (enum bs 0) (fun t => t < bs.length) w mc := by
  obtain ⟨hl, hs⟩ := hands_spec hp ts ts bs hb
  have tok : ∀ i b, lk (enum bs 0) i = some b → ∃ t b', ts[i]? = some t ∧ lk hp t = some b' ∧ leBlk (snapB hp ts b') b ∧ i < bs.length := fun i b hi => by
    rw [lk_enum, if_pos (Nat.zero_le _), Nat.sub_zero] at hi
    have hlt : i < bs.length := (List.getElem?_eq_some_iff.1 hi).1
    have hti : ts[i]? = some (ts[i]'(by omega)) := by simp [hl, hlt]
    obtain ⟨b', b2, h1, h2, h3⟩ := hs i _ hti
    rw [hi] at h2
    obtain rfl := Option.some.inj h2
    exact ⟨_, b', hti, h1, h3, hlt⟩
  refine ⟨fun i b hi => ?_, fun i j b b' g hi hj e1 e2 => ?_, fun i b hi => ?_, fun i b g hi _ hn => ?_, fun _ _ => rfl, fun _ h => h, fun i b g hi e hf => ?_, fun g hf => ?_, ⟨rfl, rfl, rfl, Nat.le_refl _, fun _ _ _ => rfl⟩⟩
  · obtain ⟨t, b', hti, ht, hle, hlt⟩ := tok i b hi
    have hmc := h.mc i t hti
    cases b' with
    | var ty cs => cases b with
      | row _ _ _ => simp [snapB, leBlk] at hle
      | var ty' cs' =>
        simp only [snapB, leBlk] at hle
        obtain ⟨rfl, hle⟩ := hle
        obtain ⟨l1, l2⟩ := leL_get hle
        rw [snapL_eq, List.length_map] at l1
        obtain ⟨g, arr, e, hgg, hsz, hO, hv⟩ := h.H.hb t _ ht
        refine ⟨g, arr, hmc.trans e, hgg, by omega, hO, fun k x u hx hu => ?_⟩
        obtain ⟨x0, hx0, hle0⟩ := l2 k x hx
        rw [snapL_eq, List.getElem?_map] at hx0
        cases hc : cs[k]? with
        | none => rw [hc] at hx0; cases hx0
        | some c =>
          rw [hc] at hx0
          obtain rfl := Option.some.inj hx0
          exact le_rel (h.snap (hv k c u hc hu) (hg.imp id fun hg t' ht' => hg t' (mem_seenH hp ts ht (mem_seenL ts (List.mem_of_getElem? hc) ht') (List.mem_of_getElem? hti)))) hle0
    | row e sz l => cases b with
      | var _ _ => simp [snapB, leBlk] at hle
      | row e' sz' l' =>
        simp only [snapB, leBlk] at hle
        obtain ⟨rfl, rfl, rfl⟩ := hle
        obtain ⟨xs, hown, hrow, hO, hv⟩ := h.H.hb t _ ht
        exact ⟨xs, by rw [hmc]; exact hown, hrow, hO, fun j row hj k x hk => by obtain ⟨u, hu, hd⟩ := hv j row hj k x hk; exact ⟨u, hu, hd.mono fun p v hc => h.cell hc⟩⟩
  · obtain ⟨t1, b1, q1, q2, _, q4⟩ := tok i b hi
    obtain ⟨t2, b2, r1, r2, _, r4⟩ := tok j b' hj
    rw [h.mc i t1 q1] at e1
    rw [h.mc j t2 r1] at e2
    have := h.H.sep t1 t2 b1 b2 g q2 r2 e1 e2
    subst this
    exact (List.getElem?_inj (by omega) hnd).1 (q1.trans r1.symm)
  · exact (tok i b hi).choose_spec.choose_spec.2.2.2
  · have := (tok i b hi).choose_spec.choose_spec.2.2.2
    exact absurd this (Nat.not_lt.2 hn)
  · obtain ⟨t1, b1, q1, q2, _, _⟩ := tok i b hi
    rw [h.mc i t1 q1] at e
    rcases h.F _ hf with hf | ⟨t, b', ht, hn, _, e'⟩
    · exact h.H.nF t1 b1 g q2 e hf
    · have := h.H.sep t1 t b1 b' g q2 ht e e'
      subst this; exact hn (List.mem_of_getElem? q1)
  · rcases h.F _ hf with hf | ⟨t, b', ht, _, _, e'⟩
    · exact Nat.lt_of_lt_of_le (h.H.hF g hf) h.H.keeps.size
    · exact (h.H.hb t b' ht).lt e'

end
end Go.Abs
