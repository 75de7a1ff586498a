/- One operation at a time, eleventh part: a call of a Go function by its contract. One operation at a time, twelfth part: a call of a Go function by its contract: what is there behind it. One operation at a time, last part: all kinds together. No conditions. -/
import Derived.Test.YtninaiooagfjfaaGreatDoorK06
import Derived.Test.YtninaiooagfjfaaGreatDoorK02
import Derived.Test.YtninaiooagfjfaaGreatDoorK03
import Derived.Test.YtninaiooagfjfaaGreatDoorK04
import Derived.Test.YtninaiooagfjfaaGreatDoorK05
set_option linter.unusedVariables false
set_option linter.unusedSimpArgs false
namespace Go.Abs
open Go Go.RowKit

section
variable {P : Program} {Γ : Ctx} {fr : List (Nat × V)} {hp hp' : List (Nat × Blk)} {U U' : Nat → Prop} {a : Act} {w w' : World} {m m' : Nat → Value} {tk : Nat} {L : List (Use P)} {o : Oper}
  {K : Act → World → Prop} {Q : Exit → Act → World → Prop}

/-- A frame of facts on what a callee is handed. -/
structure Hands (Γ : Ctx) (hp : List (Nat × Blk)) (U : Nat → Prop) (w : World) (m : Nat → Value) (ts : List Nat) (gone : List Nat) (n : Nat) (F : Nat → Prop) (mc : Nat → Value) (hpc : List (Nat × Blk)) : Prop where
  H : RelH Γ hp U w m
  alive : ∀ (i t : Nat) (b : Blk), ts[i]? = some t → lk hpc i = some b → ∃ b, lk hp t = some b
  len : ts.length = n
  mc : ∀ (i t : Nat), ts[i]? = some t → mc i = m t
  hpc : ∀ (i : Nat) (b : Blk), lk hpc i = some b → i < n
  F : ∀ g, F g → Γ.F g ∨ ∃ t b, lk hp t = some b ∧ t ∉ ts ∧ t ∉ gone ∧ blkOf (m t) = some g

theorem Hands.cell {ts gone : List Nat} {n : Nat} {F : Nat → Prop} {mc : Nat → Value} {hpc : List (Nat × Blk)} (h : Hands Γ hp U w m ts gone n F mc hpc) {p : Addr} {v : Value} (hc : Cw Γ.F hp m w p v) : Cw F hpc mc w p v := by
  refine ⟨hc.cell, fun hf => ?_, fun i b hb e => ?_⟩
  · rcases h.F _ hf with hf | ⟨t, b, ht, _, _, e⟩
    · exact hc.notF hf
    · exact absurd e (hc.far t b ht)
  · have hi := h.hpc i b hb
    rw [← h.len] at hi
    have hti : ts[i]? = some ts[i] := by simp [hi]
    obtain ⟨b', hb'⟩ := h.alive i _ b hti hb
    rw [h.mc i _ hti] at e
    exact hc.far _ _ hb' e

/-- The cells of a block that is seen as data. -/
theorem Hands.own {ts gone : List Nat} {n : Nat} {F : Nat → Prop} {mc : Nat → Value} {hpc : List (Nat × Blk)} (h : Hands Γ hp U w m ts gone n F mc hpc) {t g : Nat} {b : Blk} (ht : lk hp t = some b) (hg : blkOf (m t) = some g) (hts : t ∉ ts) (hgone : (∀ g, ¬ F g) ∨ t ∈ gone) :
    ¬ F g ∧ ∀ i b, lk hpc i = some b → blkOf (mc i) ≠ some g := by
  refine ⟨fun hf => ?_, fun i b' hb' e => ?_⟩
  · rcases hgone with hn | hgone
    · exact hn g hf
    · rcases h.F _ hf with hf | ⟨t', b', ht', _, hn, e⟩
      · exact h.H.nF t b g ht hg hf
      · have := h.H.sep t t' b b' g ht ht' hg e
        subst this; exact hn hgone
  · have hi := h.hpc i b' hb'
    rw [← h.len] at hi
    have hti : ts[i]? = some ts[i] := by simp [hi]
    obtain ⟨b2, hb2⟩ := h.alive i _ b' hti hb'
    rw [h.mc i _ hti] at e
    have := h.H.sep t _ b b2 g ht hb2 hg e
    exact hts (this ▸ List.getElem_mem hi)

theorem Hands.row {ts gone : List Nat} {n : Nat} {F : Nat → Prop} {mc : Nat → Value} {hpc : List (Nat × Blk)} (h : Hands Γ hp U w m ts gone n F mc hpc) {t e sz : Nat} {l : List (List D)} (ht : lk hp t = some (.row e sz l)) (hts : t ∉ ts) (hgone : (∀ g, ¬ F g) ∨ t ∈ gone) :
    RD (Cw F hpc mc w) (.lst l) (m t) := by
  obtain ⟨xs, hown, hrow, hO, hv⟩ := h.H.hb t _ ht
  rcases hown.2 with ⟨e1, e2⟩ | ⟨g, cap, cur, e1, _, hg, hle, hcap, hcs, htake⟩
  · have : l = [] := List.eq_nil_of_length_eq_zero e2
    subst this
    rw [e1]
    exact .lst [] none 0 0 (fun _ _ => undef) (Nat.le_refl _) (Nat.zero_le _) (by simp) (by simp) (by simp) (by simp)
  · rw [e1]
    have hbl : (m t).ownBlock = some g := by rw [e1]; rfl
    obtain ⟨q1, q2⟩ := h.own ht (g := g) (by rw [e1]; rfl) hts hgone
    refine .lst l _ cap sz (fun j k => (xs[j * sz + k]?).getD undef) hle hcap hrow (fun j row hj k x hk => ⟨_, rfl, ?_⟩) (fun j row hj k x hk => ?_) (fun j row hj k x hk => ?_) <;> obtain ⟨u, hu, hd⟩ := hv j row hj k x hk
    · rw [hu]
      exact ⟨hown.cells hbl _ u hu, by rw [add_plain]; exact fun hf => absurd hf q1, fun i b hb => by rw [add_plain]; exact q2 i b hb⟩
    · rw [hu]; exact hO u (List.mem_of_getElem? hu)
    · rw [hu]; exact hd.mono fun p v hc => h.cell hc

theorem pureDs : ∀ (vs : List V) (ds : List D), toDs [] vs = some ds → vs.length = ds.length ∧ ∀ (k : Nat) (x : D), ds[k]? = some x → vs[k]? = some (.d x)
  | [], ds, h => by obtain rfl := Option.some.inj h; exact ⟨rfl, by simp⟩
  | v :: r, ds, h => by
    simp only [toDs] at h
    split at h
    · rename_i x y h1 h2
      obtain rfl := Option.some.inj h
      obtain ⟨i1, i2⟩ := pureDs r y h2
      refine ⟨by simp [i1], fun k z hz => ?_⟩
      cases k with
      | zero =>
        simp at hz
        subst hz
        unfold toD at h1
        split at h1
        · rename_i c
          cases hc : c.oneCell' with
          | false => rw [hc] at h1; cases h1
          | true => rw [hc] at h1; obtain rfl := Option.some.inj h1; rfl
        · obtain rfl := Option.some.inj h1; rfl
        · simp [lk] at h1
        · cases h1
      | succ k => simpa using i2 k z (by simpa using hz)
    · cases h

/-- What the callee sees. -/
theorem Hands.snap {ts gone : List Nat} {n : Nat} {F : Nat → Prop} {mc : Nat → Value} {hpc : List (Nat × Blk)} (h : Hands Γ hp U w m ts gone n F mc hpc) {x : V} {u : Value} (hx : RV (Cw Γ.F hp m w) m U x u) (hg : (∀ g, ¬ F g) ∨ ∀ t, t ∈ seen ts x → t ∈ gone) :
    RV (Cw F hpc mc w) mc (fun t => t < n) (Abs.snap hp ts x) u := by
  have ii : ∀ {t i : Nat}, idx ts t = some i → i < n ∧ mc i = m t := fun {t i} hi => by
    have h1 := idx_some hi
    exact ⟨by rw [← h.len]; exact (List.getElem?_eq_some_iff.1 h1).1, h.mc i t h1⟩
  induction hx with
  | d hd => simp only [Abs.snap]; exact .d (hd.mono fun p v hc => h.cell hc)
  | own t hU ho =>
    simp only [Abs.snap]
    split
    · rename_i i hi
      obtain ⟨h1, h2⟩ := ii hi
      rw [← h2]; exact .own i h1 (by rw [h2]; exact ho)
    · rename_i hi
      split
      · rename_i e sz l hl
        exact .d (h.row hl (idx_none hi) (hg.imp id fun hg => hg t (by simp [seen, hi])))
      · exact .any _
  | ptr t off b hU hm =>
    simp only [Abs.snap]
    split
    · rename_i i hi
      obtain ⟨h1, h2⟩ := ii hi
      exact .ptr i off b h1 (h2.trans hm)
    · rename_i hi
      split
      · rename_i ty cs hl
        split
        · rename_i ds hds
          obtain ⟨i1, i2⟩ := pureDs _ ds hds
          obtain ⟨g, arr, e, hgg, hsz, hO, hv⟩ := h.H.hb t _ hl
          rw [hm] at e
          simp only [Value.pointer.injEq, Option.some.injEq, Addr.mk.injEq, and_true] at e
          subst e
          obtain ⟨q1, q2⟩ := h.own hl (g := b) (by rw [hm]; rfl) (idx_none hi) (hg.imp id fun hg => hg t (by simp [seen, hi]))
          have get : ∀ k x, ds[k]? = some x → off + k < arr.size ∧ cs[off + k]? = some (.d x) := fun k x hk => by
            have h1 := i2 k x hk
            rw [List.getElem?_drop] at h1
            exact ⟨by rw [hsz]; exact (List.getElem?_eq_some_iff.1 h1).1, h1⟩
          refine .ip ds _ (fun k => arr.getD (off + k) undef) (fun k x hk => ?_) (fun k x hk => ?_) (fun k x hk => ?_) <;> obtain ⟨g1, g2⟩ := get k x hk
          · rw [add_plain]
            refine ⟨by simp [World.cell?, hgg, g1], fun hf => absurd hf q1, fun i b' hb' => q2 i b' hb'⟩
          · exact hO (off + k) _ (by simp [g1])
          · have := hv (off + k) _ (arr.getD (off + k) undef) g2 (by simp [g1])
            cases this with
            | d hd => exact hd.mono fun p v hc => h.cell hc
        · exact .any _
      · exact .any _
  | ept t sz j k b n' c hU hm =>
    simp only [Abs.snap]
    split
    · rename_i i hi
      obtain ⟨h1, h2⟩ := ii hi
      exact .ept i sz j k b n' c h1 (h2.trans hm)
    · exact .any _
  | ip cs ad cv h1 h2 h3 => simp only [Abs.snap]; exact .ip cs ad cv (fun k x hk => h.cell (h1 k x hk)) h2 fun k x hk => (h3 k x hk).mono fun p v hc => h.cell hc
  | agg cs vs hl hO _ ih =>
    simp only [Abs.snap, snapL_eq]
    refine .agg _ vs (by simpa using hl) hO fun k y u hk hu => ?_
    rw [List.getElem?_map] at hk
    cases hx : cs[k]? with
    | none => rw [hx] at hk; cases hk
    | some x =>
      rw [hx] at hk
      obtain rfl := Option.some.inj hk
      exact ih k x u hx hu (hg.imp id fun hg t ht => hg t (by rw [seen]; exact mem_seenL ts (List.mem_of_getElem? hx) ht))
  | tup cs vs hl _ ih =>
    simp only [Abs.snap, snapL_eq]
    refine .tup _ vs (by simpa using hl) fun k y u hk hu => ?_
    rw [List.getElem?_map] at hk
    cases hx : cs[k]? with
    | none => rw [hx] at hk; cases hk
    | some x =>
      rw [hx] at hk
      obtain rfl := Option.some.inj hk
      exact ih k x u hx hu (hg.imp id fun hg t ht => hg t (by rw [seen]; exact mem_seenL ts (List.mem_of_getElem? hx) ht))
  | fn f cs vs hl _ ih =>
    simp only [Abs.snap, snapL_eq]
    refine .fn f _ vs (by simpa using hl) fun k y u hk hu => ?_
    rw [List.getElem?_map] at hk
    cases hx : cs[k]? with
    | none => rw [hx] at hk; cases hk
    | some x =>
      rw [hx] at hk
      obtain rfl := Option.some.inj hk
      exact ih k x u hx hu (hg.imp id fun hg t ht => hg t (by rw [seen]; exact mem_seenL ts (List.mem_of_getElem? hx) ht))
  | when b x v _ _ _ => simp only [Abs.snap]; exact .any v
  | any v => simp only [Abs.snap]; exact .any v

/-- A block that is not given up. -/
def live : Option Blk → Option Blk
  | some .dead => none
  | x => x
theorem live_some {x : Option Blk} {b : Blk} (h : live x = some b) : x = some b ∧ b ≠ .dead := by
  unfold live at h
  split at h
  · cases h
  · rename_i h0
    exact ⟨h, fun e => h0 (e ▸ h)⟩
theorem live_of {b : Blk} (h : b ≠ .dead) : live (some b) = some b := by
  cases b <;> simp [live] at h ⊢
theorem lk_enum : ∀ (bs : List Blk) (i0 i : Nat), lk (enum bs i0) i = if i0 ≤ i then live bs[i - i0]? else none
  | [], i0, i => by simp [enum, lk, live]
  | b :: r, i0, i => by
    have rest : i0 ≠ i → (if i0 + 1 ≤ i then live r[i - (i0 + 1)]? else none) = if i0 ≤ i then live (b :: r)[i - i0]? else none := fun h => by
      by_cases h2 : i0 + 1 ≤ i
      · rw [if_pos h2, if_pos (by omega), show i - i0 = (i - (i0 + 1)) + 1 by omega, List.getElem?_cons_succ]
      · rw [if_neg h2, if_neg (by omega)]
    cases b with
    | dead =>
      rw [enum, lk_enum r]
      by_cases h : i0 = i
      · subst h; rw [if_neg (by omega), if_pos (Nat.le_refl _), Nat.sub_self]; rfl
      · exact rest h
    | var t cs =>
      rw [enum, lk_cons, lk_enum r]
      by_cases h : i0 = i
      · subst h; simp [live]
      · rw [if_neg h]; exact rest h
    | row e sz l =>
      rw [enum, lk_cons, lk_enum r]
      by_cases h : i0 = i
      · subst h; simp [live]
      · rw [if_neg h]; exact rest h
    | inv I =>
      rw [enum, lk_cons, lk_enum r]
      by_cases h : i0 = i
      · subst h; simp [live]
      · rw [if_neg h]; exact rest h

theorem leBlk_live {b' b : Blk} {hp : List (Nat × Blk)} {all : List Nat} (h : leBlk (snapB hp all b') b) : b ≠ .dead := by
  intro e; subst e; cases b' <;> simp [snapB, leBlk] at h

theorem hands_spec (hp : List (Nat × Blk)) (all : List Nat) : ∀ (ts : List Nat) (bs : List Blk), hands hp all ts bs → ts.length = bs.length ∧ ∀ (i t : Nat), ts[i]? = some t → ∃ b' b, lk hp t = some b' ∧ bs[i]? = some b ∧ leBlk (snapB hp all b') b
  | [], [], _ => ⟨rfl, by simp⟩
  | [], b :: bs, h => by simp [hands] at h
  | t :: ts, [], h => by simp [hands] at h
  | t :: ts, b :: bs, h => by
    simp only [hands] at h
    obtain ⟨h1, h2⟩ := h
    obtain ⟨i1, i2⟩ := hands_spec hp all ts bs h2
    refine ⟨by simp [i1], fun i t' hi => ?_⟩
    cases i with
    | zero =>
      simp at hi
      subst hi
      cases hl : lk hp t with
      | none => rw [hl] at h1; exact h1.elim
      | some b' => rw [hl] at h1; exact ⟨b', b, rfl, by simp, h1⟩
    | succ i => simpa using i2 i t' (by simpa using hi)

theorem handsD_spec (hp : List (Nat × Blk)) (all : List Nat) : ∀ (ts : List Nat) (bs : List Blk), handsD hp all ts bs → ts.length = bs.length ∧ ∀ (i t : Nat) (b : Blk), ts[i]? = some t → bs[i]? = some b → b ≠ .dead → ∃ b', lk hp t = some b' ∧ leBlk (snapB hp all b') b
  | [], [], _ => ⟨rfl, by simp⟩
  | [], b :: bs, h => by simp [handsD] at h
  | t :: ts, [], h => by simp [handsD] at h
  | t :: ts, b :: bs, h => by
    have key : handsD hp all ts bs ∧ (b ≠ .dead → ∃ b', lk hp t = some b' ∧ leBlk (snapB hp all b') b) := by
      cases b with
      | dead => exact ⟨by simpa [handsD] using h, fun e => absurd rfl e⟩
      | var ty cs =>
        simp only [handsD] at h
        refine ⟨h.2, fun _ => ?_⟩
        cases hl : lk hp t with
        | none => rw [hl] at h; exact h.1.elim
        | some b' => rw [hl] at h; exact ⟨b', rfl, h.1⟩
      | row e sz l =>
        simp only [handsD] at h
        refine ⟨h.2, fun _ => ?_⟩
        cases hl : lk hp t with
        | none => rw [hl] at h; exact h.1.elim
        | some b' => rw [hl] at h; exact ⟨b', rfl, h.1⟩
      | inv I =>
        simp only [handsD] at h
        refine ⟨h.2, fun _ => ?_⟩
        cases hl : lk hp t with
        | none => rw [hl] at h; exact h.1.elim
        | some b' => rw [hl] at h; exact ⟨b', rfl, h.1⟩
    obtain ⟨i1, i2⟩ := handsD_spec hp all ts bs key.1
    refine ⟨by simp [i1], fun i t' b0 hi hb hne => ?_⟩
    cases i with
    | zero =>
      simp at hi hb
      subst hi hb
      exact key.2 hne
    | succ i => exact i2 i t' b0 (by simpa using hi) (by simpa using hb) hne
theorem handsD_of (hp : List (Nat × Blk)) (all : List Nat) : ∀ {ts : List Nat} {bs : List Blk}, hands hp all ts bs → handsD hp all ts bs
  | [], [], _ => trivial
  | [], b :: bs, h => by simp [hands] at h
  | t :: ts, [], h => by simp [hands] at h
  | t :: ts, b :: bs, h => by
    simp only [hands] at h
    have := handsD_of hp all h.2
    cases b with
    | dead => simpa [handsD] using this
    | var ty cs => simp only [handsD]; exact ⟨h.1, this⟩
    | row e sz l => simp only [handsD]; exact ⟨h.1, this⟩
    | inv I => simp only [handsD]; exact ⟨h.1, this⟩

theorem mem_seenH (hp : List (Nat × Blk)) (all : List Nat) {t k ty : Nat} {cs : List V} (hk : lk hp k = some (.var ty cs)) (ht : t ∈ seenL all cs) : ∀ {l : List Nat}, k ∈ l → t ∈ seenH hp all l
  | [], h => by cases h
  | x :: r, h => by
    rw [seenH]
    rcases List.mem_cons.1 h with rfl | h
    · exact List.mem_append_left _ (by rw [hk]; exact ht)
    · exact List.mem_append_right _ (mem_seenH hp all hk ht h)

theorem leRow_get : ∀ {a b : List D}, leRow a b → a.length = b.length ∧ ∀ (k : Nat) (y : D), b[k]? = some y → ∃ x, a[k]? = some x ∧ leD x y
  | [], [], _ => ⟨rfl, fun k y h => by simp at h⟩
  | x :: r, y :: s, h => by
    obtain ⟨h1, h2⟩ := leRow_get h.2
    refine ⟨by simp [h1], fun k z hk => ?_⟩
    cases k with
    | zero => simp at hk; subst hk; exact ⟨x, rfl, h.1⟩
    | succ k => simp at hk ⊢; exact h2 k z hk
theorem leRows_get : ∀ {a b : List (List D)}, leRows a b → a.length = b.length ∧ ∀ (k : Nat) (y : List D), b[k]? = some y → ∃ x, a[k]? = some x ∧ leRow x y
  | [], [], _ => ⟨rfl, fun k y h => by simp at h⟩
  | x :: r, y :: s, h => by
    obtain ⟨h1, h2⟩ := leRows_get h.2
    refine ⟨by simp [h1], fun k z hk => ?_⟩
    cases k with
    | zero => simp at hk; subst hk; exact ⟨x, rfl, h.1⟩
    | succ k => simp at hk ⊢; exact h2 k z hk
theorem leD_rel {C : Addr → Value → Prop} {x y : D} {u : Value} (h : RD C x u) (hl : leD x y) : RD C y u := by
  rcases hl with rfl | ⟨rfl, rfl⟩
  · exact h
  · cases h
    exact .lst [] none 0 0 (fun _ _ => undef) (Nat.le_refl _) (Nat.zero_le _) (by simp) (by simp) (by simp) (by simp)
theorem leRow_refl : ∀ a : List D, leRow a a
  | [] => trivial
  | x :: r => ⟨.inl rfl, leRow_refl r⟩
theorem leRows_snoc : ∀ (l : List (List D)) (r r' : List D), leRows (l ++ [r]) (l ++ [r']) ↔ leRow r r'
  | [], r, r' => ⟨fun h => h.1, fun h => ⟨h, trivial⟩⟩
  | x :: l, r, r' => ⟨fun h => (leRows_snoc l r r').1 h.2, fun h => ⟨leRow_refl x, (leRows_snoc l r r').2 h⟩⟩

/-- The callee's memory as it begins. -/
theorem Hands.relH {ts gone : List Nat} {bs : List Blk} {F : Nat → Prop} {mc : Nat → Value} (nt : Nat) (h : Hands Γ hp U w m ts gone bs.length F mc (enum bs 0)) (hb : handsD hp ts ts bs) (hdead : ∀ (i t : Nat), ts[i]? = some t → bs[i]? = some .dead → ∀ g, F g → blkOf (mc i) ≠ some g) (hnd : ts.Nodup) (hg : (∀ g, ¬ F g) ∨ ∀ t, t ∈ seenH hp ts ts → t ∈ gone) :
    RelH ⟨w, bs.length, mc, nt, F⟩ (enum bs 0) (fun t => t < bs.length) w mc := by
  obtain ⟨hl, hs⟩ := handsD_spec hp ts ts bs hb
  have tok : ∀ i b, lk (enum bs 0) i = some b → ∃ t b', ts[i]? = some t ∧ lk hp t = some b' ∧ leBlk (snapB hp ts b') b ∧ i < bs.length := fun i b hi => by
    rw [lk_enum, if_pos (Nat.zero_le _), Nat.sub_zero] at hi
    obtain ⟨hi, hne⟩ := live_some hi
    have hlt : i < bs.length := (List.getElem?_eq_some_iff.1 hi).1
    have hti : ts[i]? = some (ts[i]'(by omega)) := by simp [hl, hlt]
    obtain ⟨b', h1, h3⟩ := hs i _ b hti hi hne
    exact ⟨_, b', hti, h1, h3, hlt⟩
  refine ⟨fun i b hi => ?_, fun i j b b' g hi hj e1 e2 => ?_, fun i b hi => ?_, fun i b g hi _ hn => ?_, fun _ _ => rfl, fun _ h => h, fun i b g hi e hf => ?_, fun g hf => ?_, ⟨rfl, rfl, rfl, Nat.le_refl _, fun _ _ _ => rfl⟩⟩
  · obtain ⟨t, b', hti, ht, hle, hlt⟩ := tok i b hi
    have hmc := h.mc i t hti
    cases b' with
    | var ty cs => cases b with
      | row _ _ _ => simp [snapB, leBlk] at hle
      | dead => simp [snapB, leBlk] at hle
      | inv _ => simp [snapB, leBlk] at hle
      | var ty' cs' =>
        simp only [snapB, leBlk] at hle
        obtain ⟨rfl, hle⟩ := hle
        obtain ⟨l1, l2⟩ := leL_get hle
        rw [snapL_eq, List.length_map] at l1
        obtain ⟨g, arr, e, hgg, hsz, hO, hv⟩ := h.H.hb t _ ht
        refine ⟨g, arr, hmc.trans e, hgg, by omega, hO, fun k x u hx hu => ?_⟩
        obtain ⟨x0, hx0, hle0⟩ := l2 k x hx
        rw [snapL_eq, List.getElem?_map] at hx0
        cases hc : cs[k]? with
        | none => rw [hc] at hx0; cases hx0
        | some c =>
          rw [hc] at hx0
          obtain rfl := Option.some.inj hx0
          exact le_rel (h.snap (hv k c u hc hu) (hg.imp id fun hg t' ht' => hg t' (mem_seenH hp ts ht (mem_seenL ts (List.mem_of_getElem? hc) ht') (List.mem_of_getElem? hti)))) hle0
    | row e sz l => cases b with
      | var _ _ => simp [snapB, leBlk] at hle
      | dead => simp [snapB, leBlk] at hle
      | inv _ => simp [snapB, leBlk] at hle
      | row e' sz' l' =>
        simp only [snapB, leBlk] at hle
        obtain ⟨rfl, rfl, hle⟩ := hle
        obtain ⟨xs, hown, hrow, hO, hv⟩ := h.H.hb t _ ht
        rcases hle with rfl | hle
        · exact ⟨xs, by rw [hmc]; exact hown, hrow, hO, fun j row hj k x hk => by obtain ⟨u, hu, hd⟩ := hv j row hj k x hk; exact ⟨u, hu, hd.mono fun p v hc => h.cell hc⟩⟩
        · obtain ⟨hll, hlr⟩ := leRows_get hle
          refine ⟨xs, by rw [hmc, ← hll]; exact hown, fun row hrow' => ?_, hO, fun j row hj k x hk => ?_⟩
          · obtain ⟨j, hj, e⟩ := List.getElem_of_mem hrow'
            obtain ⟨row0, h1, h2⟩ := hlr j row (by rw [← e]; simp [hj])
            rw [← (leRow_get h2).1]; exact hrow row0 (List.mem_of_getElem? h1)
          · obtain ⟨row0, h1, h2⟩ := hlr j row hj
            obtain ⟨x0, h3, h4⟩ := (leRow_get h2).2 k x hk
            obtain ⟨u, hu, hd⟩ := hv j row0 h1 k x0 h3
            exact ⟨u, hu, leD_rel (hd.mono fun p v hc => h.cell hc) h4⟩
    | dead => exact (h.H.hb t _ ht).elim
    | inv I =>
      have hle : leBlk (.inv I) b := hle
      cases b with
      | inv J =>
        obtain rfl : I = J := hle
        obtain ⟨g, h1, h2, h3⟩ := h.H.hb t _ ht
        exact ⟨g, by rw [hmc]; exact h1, h2, by rw [hmc]; exact h3⟩
      | _ => exact hle.elim
  · obtain ⟨t1, b1, q1, q2, _, q4⟩ := tok i b hi
    obtain ⟨t2, b2, r1, r2, _, r4⟩ := tok j b' hj
    rw [h.mc i t1 q1] at e1
    rw [h.mc j t2 r1] at e2
    have := h.H.sep t1 t2 b1 b2 g q2 r2 e1 e2
    subst this
    exact (List.getElem?_inj (by omega) hnd).1 (q1.trans r1.symm)
  · exact (tok i b hi).choose_spec.choose_spec.2.2.2
  · have := (tok i b hi).choose_spec.choose_spec.2.2.2
    exact absurd this (Nat.not_lt.2 hn)
  · obtain ⟨t1, b1, q1, q2, _, _⟩ := tok i b hi
    rw [h.mc i t1 q1] at e
    rcases h.F _ hf with hf | ⟨t, b', ht, hn, _, e'⟩
    · exact h.H.nF t1 b1 g q2 e hf
    · have := h.H.sep t1 t b1 b' g q2 ht e e'
      subst this; exact hn (List.mem_of_getElem? q1)
  · have hlt : g < w.heap.size := by
      rcases h.F _ hf with hf | ⟨t, b', ht, _, _, e'⟩
      · exact Nat.lt_of_lt_of_le (h.H.hF g hf).1 h.H.keeps.size
      · exact (h.H.hb t b' ht).lt e'
    refine ⟨hlt, fun i hi e => ?_⟩
    have hi : i < bs.length := hi
    have e : blkOf (mc i) = some g := e
    have hti : ts[i]? = some (ts[i]'(by omega)) := by simp [hl, hi]
    have hbi : bs[i]? = some bs[i] := by simp [hi]
    by_cases hd : bs[i] = .dead
    · exact hdead i _ hti (by rw [hbi, hd]) g hf e
    · obtain ⟨t1, b1, q1, q2, _, _⟩ := tok i bs[i] (by rw [lk_enum, if_pos (Nat.zero_le _), Nat.sub_zero, hbi, live_of hd])
      rw [h.mc i t1 q1] at e
      rcases h.F _ hf with hf | ⟨t, b', ht, hn, _, e'⟩
      · exact h.H.nF t1 b1 g q2 e hf
      · have := h.H.sep t1 t b1 b' g q2 ht e e'
        subst this; exact hn (List.mem_of_getElem? q1)

end
end Go.Abs

set_option linter.unusedVariables false
set_option linter.unusedSimpArgs false
namespace Go.Abs
open Go Go.RowKit

section
variable {P : Program} {Γ : Ctx} {fr : List (Nat × V)} {hp hp' : List (Nat × Blk)} {U U' : Nat → Prop} {a : Act} {w w' : World} {m m' : Nat → Value} {tk : Nat} {L : List (Use P)} {o : Oper}
  {K : Act → World → Prop} {Q : Exit → Act → World → Prop}

theorem lk_foldl_none : ∀ (s : List (Nat × Blk)) (h : List (Nat × Blk)) (t : Nat), (∀ q ∈ s, q.1 ≠ t) → lk (s.foldl (fun h q => sto h q.1 q.2) h) t = lk h t
  | [], h, t, _ => rfl
  | q :: r, h, t, hn => by
    rw [List.foldl_cons, lk_foldl_none r _ t (fun q' hq => hn q' (List.mem_cons_of_mem _ hq)), lk_sto, if_neg (fun e => hn q List.mem_cons_self e.symm)]

theorem deadT_sub : ∀ (ts : List Nat) (bs : List Blk) (t : Nat), t ∈ deadT ts bs → t ∈ ts
  | [], bs, t, h => by simp [deadT] at h
  | x :: r, [], t, h => by simp [deadT] at h
  | x :: r, b :: bs, t, h => by
    have : t = x ∨ t ∈ deadT r bs := by
      cases b with
      | dead => simpa [deadT] using h
      | var ty cs => exact .inr (by simpa [deadT] using h)
      | row e sz l => exact .inr (by simpa [deadT] using h)
      | inv I => exact .inr (by simpa [deadT] using h)
    rcases this with rfl | h
    · exact List.mem_cons_self
    · exact List.mem_cons_of_mem _ (deadT_sub r bs t h)

theorem backs_spec (ts0 : List Nat) (tk : Nat) : ∀ (ts : List Nat) (bs : List Blk), ts.length ≤ bs.length → ts.Nodup →
    (∀ q ∈ (backs ts0 tk ts bs).1, q.1 ∈ ts) ∧ (∀ (h : List (Nat × Blk)) (i t : Nat), ts[i]? = some t → ∃ b, bs[i]? = some b ∧ (b = .dead ∧ t ∈ deadT ts bs ∧ (∀ q ∈ (backs ts0 tk ts bs).1, q.1 ≠ t) ∨ b ≠ .dead ∧ lk ((backs ts0 tk ts bs).1.foldl (fun h q => sto h q.1 q.2) h) t = some (renB ts0 tk b))) ∧
    (backs ts0 tk ts bs).2 = (live bs[ts.length]?).map (renB ts0 tk)
  | [], [], _, _ => by simp [backs, live]
  | [], b :: bs, _, _ => by cases b <;> simp [backs, live, renB]
  | t :: ts, [], h, _ => by simp at h
  | t :: ts, b :: bs, h, hnd => by
    obtain ⟨hn1, hn2⟩ := List.nodup_cons.1 hnd
    obtain ⟨i1, i2, i3⟩ := backs_spec ts0 tk ts bs (by simpa using h) hn2
    by_cases hb : b = .dead
    · subst hb
      simp only [backs, deadT]
      refine ⟨fun q hq => List.mem_cons_of_mem _ (i1 q hq), fun h i t' hi => ?_, by simpa using i3⟩
      cases i with
      | zero =>
        simp at hi
        subst hi
        exact ⟨.dead, by simp, .inl ⟨rfl, List.mem_cons_self, fun q hq e => hn1 (e ▸ i1 q hq)⟩⟩
      | succ i =>
        obtain ⟨b', h1, h2⟩ := i2 h i t' (by simpa using hi)
        refine ⟨b', by simpa using h1, ?_⟩
        rcases h2 with ⟨h2, h3, h4⟩ | h2
        · exact .inl ⟨h2, List.mem_cons_of_mem _ h3, h4⟩
        · exact .inr h2
    · have e1 : (backs ts0 tk (t :: ts) (b :: bs)).1 = (t, renB ts0 tk b) :: (backs ts0 tk ts bs).1 := by cases b <;> first | exact absurd rfl hb | rfl
      have e2 : (backs ts0 tk (t :: ts) (b :: bs)).2 = (backs ts0 tk ts bs).2 := by cases b <;> first | exact absurd rfl hb | rfl
      have e3 : deadT (t :: ts) (b :: bs) = deadT ts bs := by cases b <;> first | exact absurd rfl hb | rfl
      rw [e1, e2, e3]
      refine ⟨fun q hq => ?_, fun h i t' hi => ?_, by simpa using i3⟩
      · rcases List.mem_cons.1 hq with rfl | hq
        · exact List.mem_cons_self
        · exact List.mem_cons_of_mem _ (i1 q hq)
      · cases i with
        | zero =>
          simp at hi
          subst hi
          refine ⟨b, by simp, .inr ⟨hb, ?_⟩⟩
          simp only [List.foldl_cons]
          rw [lk_foldl_none _ _ _ (fun q hq e => hn1 (by have h9 := i1 q hq; rw [e] at h9; exact h9)), lk_sto, if_pos rfl]
        | succ i =>
          obtain ⟨b', h1, h2⟩ := i2 (sto h t (renB ts0 tk b)) i t' (by simpa using hi)
          refine ⟨b', by simpa using h1, ?_⟩
          rcases h2 with ⟨h2, h3, h4⟩ | h2
          · refine .inl ⟨h2, h3, fun q hq => ?_⟩
            rcases List.mem_cons.1 hq with rfl | hq
            · intro e
              have h9 : t' ∈ ts := deadT_sub _ _ _ h3
              have e : t = t' := e
              rw [← e] at h9
              exact hn1 h9
            · exact h4 q hq
          · exact .inr (by simpa using h2)

theorem callB_run {f : Nat} (h : callB P f = true) (args : Array Value) (w : World) : (callFunc f args).run P w = .ok (.enter f args) w := by
  unfold callB at h
  split at h
  · rename_i fn hf
    simp only [Bool.and_eq_true, Bool.not_eq_true', beq_eq_false_iff_ne, ne_eq] at h
    have h2 : fn.body.isNone = false := by cases hb : fn.body <;> simp [hb] at h ⊢
    have h3 : (fn.name == "runtime.NumGoroutine") = false := by simpa using h.1
    have h4 : ¬ fn.name = "runtime.NumGoroutine" := h.1
    have h5 : ¬ fn.body = none := by intro e; rw [e] at h2; cases h2
    simp only [callFunc, Sem.run_bind]
    simp [program, Sem.run, hf, h4, h5]
  · cases h

/-- The general form of a call's effect. -/
def callG (hp : List (Nat × Blk)) (tk : Nat) (args : List V) (u : Use P) (L : List (Use P)) : Rs P :=
  ⟨ren u.ts tk u.cr.v, (bif flat u.cr.v && flatBlks u.cr.bs' then [] else seenL u.ts args ++ seenH hp u.ts u.ts) ++ deadT u.ts u.cr.bs', (backs u.ts tk u.ts u.cr.bs').1, (backs u.ts tk u.ts u.cr.bs').2,
    leL (snapL hp u.ts args) u.cr.args ∧ hands hp u.ts u.ts u.cr.bs ∧ u.ts.Nodup, L⟩

theorem sound_callG (hG : Good P Γ.F Γ.w0) {x : Operand} {f : Nat} {cap vs : List V} {c : Call} {u : Use P} (ho : o.op = .call c) (hc : c.callee = .value x) (hx : eo fr x = some (.fn f cap)) (ha : eos fr c.args.toList = some vs) (hf : f = u.cr.f) :
    Sound P Γ fr hp U tk o (callG hp tk (vs ++ cap) u L) := by
  intro a w m K Q hR htk hp' hd hK
  obtain ⟨hargs, hhands, hnd⟩ := hp'
  subst hf
  obtain ⟨hlen, hspec⟩ := hands_spec hp u.ts u.ts u.cr.bs hhands
  obtain ⟨b1, b2⟩ : u.cr.bs.length ≤ u.cr.bs'.length ∧ u.cr.bs'.length ≤ u.cr.bs.length + 1 := by
    have := u.cr.len
    simp only [Bool.and_eq_true, Nat.ble_eq] at this
    exact this
  obtain ⟨tok1, tok2⟩ : tokB u.cr.bs'.length u.cr.v = true ∧ tokBlks u.cr.bs'.length u.cr.bs' = true := by
    have := u.cr.tok
    simpa only [Bool.and_eq_true] using this
  -- what is told of the callee's world
  let gone := seenL u.ts (vs ++ cap) ++ seenH hp u.ts u.ts
  let fl := flat u.cr.v && flatBlks u.cr.bs'
  let F : Nat → Prop := fun g => g < P.globals.size ∨ fl = false ∧ (Γ.F g ∨ ∃ t b, lk hp t = some b ∧ t ∉ u.ts ∧ t ∉ gone ∧ blkOf (m t) = some g)
  let mc : Nat → Value := fun i => m ((nth u.ts i).getD 0)
  have hmc : ∀ (i t : Nat), u.ts[i]? = some t → mc i = m t := fun i t hi => by
    show m ((nth u.ts i).getD 0) = m t
    rw [nth_eq, hi]; rfl
  have HH : Hands Γ hp U w m u.ts gone u.cr.bs.length F mc (enum u.cr.bs 0) :=
    ⟨hR.mem, fun i t _ hi _ => by obtain ⟨b', _, h1, _⟩ := hspec i t hi; exact ⟨b', h1⟩, hlen, hmc, fun i b hi => by rw [lk_enum, if_pos (Nat.zero_le _), Nat.sub_zero] at hi; exact (List.getElem?_eq_some_iff.1 (live_some hi).1).1, fun g hg => hg.elim (fun h => .inl (hG.1.1 g h)) (·.2)⟩
  have hRc : RelH ⟨w, u.cr.bs.length, mc, Γ.nt, F⟩ (enum u.cr.bs 0) (fun t => t < u.cr.bs.length) w mc :=
    HH.relH Γ.nt (handsD_of _ _ hhands) (fun i t hi hd => by obtain ⟨b', b, _, h2, h3⟩ := hspec i t hi; rw [hd] at h2; exact absurd (Option.some.inj h2).symm (leBlk_live h3)) hnd (.inr fun t ht => List.mem_append_right _ ht)
  -- the arguments
  obtain ⟨al, ar⟩ := eos_rel hR c.args.toList vs ha
  have hrx := eo_rel hR hx
  generalize hρ : a.eval = ρ at *
  generalize hu : ρ x = cx at *
  cases hrx with
  | fn _ _ capv hcl hcr =>
    have hall : ∀ (k : Nat) (y : V) (z : Value), (vs ++ cap)[k]? = some y → (c.args.map ρ ++ capv)[k]? = some z → RV (Cw Γ.F hp m w) m U y z := by
      intro k y z hy hz
      have hsz : vs.length = (c.args.map ρ).size := by simp [al]
      by_cases hk : k < vs.length
      · rw [List.getElem?_append_left hk] at hy
        rw [Array.getElem?_append_left (by omega)] at hz
        exact ar k y z hy (by rw [← Array.toList_map, Array.getElem?_toList]; exact hz)
      · rw [List.getElem?_append_right (by omega)] at hy
        rw [Array.getElem?_append_right (by omega)] at hz
        exact hcr _ y z hy (by rw [hsz]; exact hz)
    obtain ⟨l1, l2⟩ := leL_get hargs
    rw [snapL_eq, List.length_map] at l1
    have hGw : Good P F w := ⟨⟨fun g hg => .inl hg, hG.1.2⟩, hG.2.keep fun g hg => hR.mem.keeps.block g (hR.mem.hF g (hG.1.1 g hg)).1 (hR.mem.hF g (hG.1.1 g hg)).2⟩
    have hcall := u.cr.ok w mc Γ.nt F (c.args.map ρ ++ capv) hGw hRc (by rw [← l1]; simp [al, hcl]) (fun k y z hy hz => by
      obtain ⟨x0, hx0, hle0⟩ := l2 k y hy
      rw [snapL_eq, List.getElem?_map] at hx0
      cases hc : (vs ++ cap)[k]? with
      | none => rw [hc] at hx0; cases hx0
      | some y0 =>
        rw [hc] at hx0
        obtain rfl := Option.some.inj hx0
        exact le_rel (HH.snap (hall k y0 z hc hz) (.inr fun t ht => List.mem_append_left _ (mem_seenL u.ts (List.mem_of_getElem? hc) ht))) hle0)
    have hex : (execOp ρ o).run P w = .ok (.enter u.cr.f (c.args.map ρ ++ capv)) w := by
      have := callB_run u.cr.en (c.args.map ρ ++ capv) w
      simp [execOp, ho, resolve, hc, hu, Deferred.ofValue, invoke, Sem.run_bind, this]
    unfold Oper.wp
    rw [hρ, hex, Oper.upon_enter]
    refine hcall.mono fun e w' he => ?_
    obtain ⟨z, m', U', rfl, H', hz⟩ := he
    -- behind the call
    have hn : u.ts.length = u.cr.bs.length := hlen
    have hold : ∀ (i t : Nat), u.ts[i]? = some t → m' i = m t := fun i t hi => by
      have hlt : i < u.cr.bs.length := by rw [← hn]; exact (List.getElem?_eq_some_iff.1 hi).1
      exact (H'.old i hlt).trans (hmc i t hi)
    obtain ⟨s1, s2, s3⟩ := backs_spec u.ts tk u.ts u.cr.bs' (by omega) hnd
    let m2 : Nat → Value := upm m tk (m' u.cr.bs.length)
    have hsigU : ∀ i, i < u.cr.bs'.length → also U tk (sig u.ts tk i) := fun i hi => by
      unfold sig
      rw [nth_eq]
      cases ht : u.ts[i]? with
      | none => exact .inr rfl
      | some t => obtain ⟨b', _, h1, _⟩ := hspec i t ht; exact .inl (hR.mem.lt t b' h1)
    have hsigm : ∀ i, i < u.cr.bs'.length → m2 (sig u.ts tk i) = m' i := fun i hi => by
      unfold sig
      rw [nth_eq]
      cases ht : u.ts[i]? with
      | none =>
        have : u.ts.length ≤ i := by
          rcases Nat.lt_or_ge i u.ts.length with h | h
          · simp [h] at ht
          · exact h
        have e : i = u.cr.bs.length := by omega
        subst e
        exact upm_self _ _ _
      | some t =>
        obtain ⟨b', _, h1, _⟩ := hspec i t ht
        show upm m tk _ t = m' i
        rw [upm_ne _ _ (by intro e; subst e; exact htk (hR.mem.lt _ b' h1)), hold i t ht]
    let gn := (bif fl then [] else gone) ++ deadT u.ts u.cr.bs'
    let hp2 := after hp tk (callG hp tk (vs ++ cap) u L)
    have hgn : (callG hp tk (vs ++ cap) u L).gone = gn := rfl
    -- lookups behind the call
    have lk_ts : ∀ (i t : Nat), u.ts[i]? = some t → ∃ b, u.cr.bs'[i]? = some b ∧ lk hp2 t = (live (some b)).map (renB u.ts tk) := fun i t hi => by
      obtain ⟨b, h1, h2⟩ := s2 (delAll hp gn) i t hi
      refine ⟨b, h1, ?_⟩
      have hne : tk ≠ t := by intro e; subst e; obtain ⟨b', _, h3, _⟩ := hspec i _ hi; exact htk (hR.mem.lt _ b' h3)
      have h5 : lk ((backs u.ts tk u.ts u.cr.bs').1.foldl (fun h q => sto h q.1 q.2) (delAll hp gn)) t = (live (some b)).map (renB u.ts tk) := by
        rcases h2 with ⟨rfl, h3, h4⟩ | ⟨h3, h4⟩
        · rw [lk_foldl_none _ _ _ h4, lk_delAll, if_pos (List.mem_append_right _ h3)]; rfl
        · rw [h4, live_of h3]; rfl
      show lk (after hp tk (callG hp tk (vs ++ cap) u L)) t = _
      unfold after
      simp only [callG]
      cases hbk : (backs u.ts tk u.ts u.cr.bs').2 with
      | none => exact h5
      | some b0 => simp only []; rw [lk_cons_ne _ _ hne]; exact h5
    have lk_other : ∀ t, t ≠ tk → t ∉ u.ts → lk hp2 t = lk (delAll hp gn) t := fun t h1 h2 => by
      show lk (after hp tk (callG hp tk (vs ++ cap) u L)) t = _
      have h3 := lk_foldl_none (backs u.ts tk u.ts u.cr.bs').1 (delAll hp gn) t (fun q hq e => h2 (e ▸ s1 q hq))
      unfold after
      simp only [callG]
      cases hbk : (backs u.ts tk u.ts u.cr.bs').2 with
      | none => exact h3
      | some b0 => simp only []; rw [lk_cons_ne _ _ (fun e => h1 e.symm)]; exact h3
    have lk_tk : lk hp2 tk = (live u.cr.bs'[u.cr.bs.length]?).map (renB u.ts tk) := by
      show lk (after hp tk (callG hp tk (vs ++ cap) u L)) tk = _
      have hnt : tk ∉ u.ts := fun h => by
        obtain ⟨i, hi, e⟩ := List.getElem_of_mem h
        obtain ⟨b', _, h3, _⟩ := hspec i tk (by rw [← e]; simp [hi])
        exact htk (hR.mem.lt _ b' h3)
      rw [hn] at s3
      have h3 := lk_foldl_none (backs u.ts tk u.ts u.cr.bs').1 (delAll hp gn) tk (fun q hq e => hnt (e ▸ s1 q hq))
      have h4 : lk (delAll hp gn) tk = none := by
        cases h : lk (delAll hp gn) tk with
        | none => rfl
        | some b => exact absurd (hR.mem.lt _ b (delAll_sub _ _ h)) htk
      unfold after
      simp only [callG]
      rw [← s3]
      cases hbk : (backs u.ts tk u.ts u.cr.bs').2 with
      | none => simp only []; rw [h4] at h3; exact h3
      | some b0 => simp only []; rw [lk_cons_self]
    -- cases of a token
    have tokc : ∀ t b, lk hp2 t = some b → (∃ i b0, u.ts[i]? = some t ∧ live u.cr.bs'[i]? = some b0 ∧ b = renB u.ts tk b0 ∧ i < u.cr.bs.length) ∨ (t = tk ∧ ∃ b0, live u.cr.bs'[u.cr.bs.length]? = some b0 ∧ b = renB u.ts tk b0) ∨ (t ≠ tk ∧ t ∉ u.ts ∧ lk (delAll hp gn) t = some b) := fun t b ht => by
      by_cases h1 : t = tk
      · subst h1
        rw [lk_tk] at ht
        cases hb : live u.cr.bs'[u.cr.bs.length]? with
        | none => rw [hb] at ht; cases ht
        | some b0 => rw [hb] at ht; exact .inr (.inl ⟨rfl, b0, rfl, (Option.some.inj ht).symm⟩)
      · by_cases h2 : t ∈ u.ts
        · obtain ⟨i, hi, e⟩ := List.getElem_of_mem h2
          have hti : u.ts[i]? = some t := by rw [← e]; simp [hi]
          obtain ⟨b0, q1, q2⟩ := lk_ts i t hti
          rw [ht, ← q1] at q2
          cases hl : live u.cr.bs'[i]? with
          | none => rw [hl] at q2; cases q2
          | some b1 => rw [hl] at q2; exact .inl ⟨i, b1, hti, hl, Option.some.inj q2, by omega⟩
        · exact .inr (.inr ⟨h1, h2, by rw [← lk_other t h1 h2]; exact ht⟩)
    have hblk' : ∀ i b0, live u.cr.bs'[i]? = some b0 → HB (Cw F (enum u.cr.bs' 0) m' w') m' U' w' i b0 ∧ lk (enum u.cr.bs' 0) i = some b0 := fun i b0 hi => by
      have : lk (enum u.cr.bs' 0) i = some b0 := by rw [lk_enum, if_pos (Nat.zero_le _), Nat.sub_zero]; exact hi
      exact ⟨H'.hb i b0 this, this⟩
    have keepn : ∀ t0, U t0 → lk hp t0 = none → lk hp2 t0 = none := fun t0 hU h0 => by
      rw [lk_other t0 (by intro e; subst e; exact htk hU) (fun hm => by
        obtain ⟨i, hi, e⟩ := List.getElem_of_mem hm
        obtain ⟨b', _, h3, _⟩ := hspec i t0 (by rw [← e]; simp [hi])
        rw [h0] at h3; cases h3), lk_delAll]
      split
      · rfl
      · exact h0
    have hnewb : ∀ g b0, live u.cr.bs'[u.cr.bs.length]? = some b0 → blkOf (m' u.cr.bs.length) = some g → w.heap.size ≤ g ∨ ∃ i t b1, u.ts[i]? = some t ∧ lk hp t = some b1 ∧ blkOf (m t) = some g ∧ lk hp2 t = none := fun g b0 hb hg => by
      refine (H'.new _ b0 g (hblk' _ _ hb).2 hg (Nat.le_refl _)).imp id fun ⟨i, q1, q2, q3⟩ => ?_
      have q1 : i < u.cr.bs.length := q1
      have hti : u.ts[i]? = some (u.ts[i]'(by rw [hn]; exact q1)) := by simp [hn, q1]
      obtain ⟨b', _, h3, _⟩ := hspec i _ hti
      refine ⟨i, _, b', hti, h3, by rw [← hmc i _ hti]; exact q2, ?_⟩
      obtain ⟨b1, r1, r2⟩ := lk_ts i _ hti
      rw [lk_enum, if_pos (Nat.zero_le _), Nat.sub_zero, r1] at q3
      rw [r2, q3]; rfl
    -- old blocks that were not handed over
    have hkeep : ∀ g, g < w.heap.size → (∀ (i t : Nat), u.ts[i]? = some t → blkOf (m t) ≠ some g) → w'.heap[g]? = w.heap[g]? := fun g hg hn' => H'.keeps.block g hg fun i hi e => by
      have hti : u.ts[i]? = some (u.ts[i]'(by rw [hn]; exact hi)) := by simp [hn, hi]
      exact hn' i _ hti (by rw [← hmc i _ hti]; exact e)
    have hCold : ∀ p v, Cw Γ.F hp m w p v → Cw Γ.F hp2 m2 w' p v := fun p v hc => by
      refine ⟨(World.cell?_of_block (w := w) (hkeep p.block hc.lt fun i t hi e => ?_)).trans hc.cell, hc.notF, fun t b ht e => ?_⟩
      · obtain ⟨b', _, h1, _⟩ := hspec i t hi; exact hc.far t b' h1 e
      · rcases tokc t b ht with ⟨i, b0, q1, _, _, _⟩ | ⟨rfl, b0, q1, _⟩ | ⟨q1, q2, q3⟩
        · obtain ⟨b', _, h1, _⟩ := hspec i t q1
          have hne : t ≠ tk := by intro e'; subst e'; exact htk (hR.mem.lt _ b' h1)
          rw [show m2 t = m t from upm_ne _ _ hne] at e
          exact hc.far t b' h1 e
        · rw [show m2 t = m' u.cr.bs.length from upm_self _ _ _] at e
          rcases hnewb _ b0 q1 e with h0 | ⟨_, t1, b1, _, h3, h4, _⟩
          · have := hc.lt
            omega
          · exact hc.far t1 b1 h3 h4
        · rw [show m2 t = m t from upm_ne _ _ q1] at e
          exact hc.far t b (delAll_sub _ _ q3) e
    have hCnew : (∀ p v, Cw F (enum u.cr.bs' 0) m' w' p v → Cw Γ.F hp2 m2 w' p v) ∨ fl = true := by
      cases hfl : fl with
      | true => exact .inr rfl
      | false =>
        refine .inl fun p v hc => ⟨hc.cell, fun hf => hc.notF (.inr ⟨hfl, .inl hf⟩), fun t b ht e => ?_⟩
        rcases tokc t b ht with ⟨i, b0, q1, q2, _, _⟩ | ⟨rfl, b0, q1, _⟩ | ⟨q1, q2, q3⟩
        · obtain ⟨b', _, h1, _⟩ := hspec i t q1
          have hne : t ≠ tk := by intro e'; subst e'; exact htk (hR.mem.lt _ b' h1)
          rw [show m2 t = m t from upm_ne _ _ hne, ← hold i t q1] at e
          exact hc.far i b0 (hblk' i b0 q2).2 e
        · rw [show m2 t = m' u.cr.bs.length from upm_self _ _ _] at e
          exact hc.far _ b0 (hblk' _ b0 q1).2 e
        · rw [show m2 t = m t from upm_ne _ _ q1] at e
          have hg0 : gn = gone ++ deadT u.ts u.cr.bs' := by show (bif fl then [] else gone) ++ _ = _; rw [hfl]; rfl
          rw [hg0, lk_delAll] at q3
          split at q3
          · cases q3
          · rename_i hng
            exact hR.mem.nF t b _ q3 e (hG.1.1 _ (Nat.lt_of_lt_of_le (hc.notF (.inr ⟨hfl, .inr ⟨t, b, q3, q2, fun h => hng (List.mem_append_left _ h), e⟩⟩)) hG.1.2))
    have hfl : ∀ b0, b0 ∈ u.cr.bs' → fl = true → flatBlk b0 = true := fun b0 hb h => by
      have : flatBlks u.cr.bs' = true := by
        have h' : (flat u.cr.v && flatBlks u.cr.bs') = true := h
        rw [Bool.and_eq_true] at h'; exact h'.2
      exact flatBlks_mem this hb
    have hHBnew : ∀ i b0 t, live u.cr.bs'[i]? = some b0 → sig u.ts tk i = t → HB (Cw Γ.F hp2 m2 w') m2 (also U tk) w' t (renB u.ts tk b0) := fun i b0 t hbl hst => by
      have h0 := (hblk' i b0 hbl).1
      obtain ⟨hb, hnd0⟩ := live_some hbl
      have hi : i < u.cr.bs'.length := (List.getElem?_eq_some_iff.1 hb).1
      have hmt : m2 t = m' i := by rw [← hst]; exact hsigm i hi
      cases b0 with
      | var ty cs =>
        obtain ⟨g, arr, e, hg, hsz, hO, hv⟩ := h0
        simp only [renB, renL_eq]
        refine ⟨g, arr, hmt.trans e, hg, by simpa using hsz, hO, fun k y z' hy hz' => ?_⟩
        rw [List.getElem?_map] at hy
        cases hc : cs[k]? with
        | none => rw [hc] at hy; cases hy
        | some c0 =>
          rw [hc] at hy
          obtain rfl := Option.some.inj hy
          have htb := tokBlks_mem tok2 (List.mem_of_getElem? hb)
          exact ren_rel hsigm hsigU (hv k c0 z' hc hz') (tokLB_mem (by simpa [tokBlk] using htb) (List.mem_of_getElem? hc)) (hCnew.imp id fun h => flatL_mem (by simpa [flatBlk] using hfl _ (List.mem_of_getElem? hb) h) (List.mem_of_getElem? hc))
      | row e sz l =>
        obtain ⟨xs, hown, hrow, hO, hv⟩ := h0
        rcases hCnew with hC | h
        · exact ⟨xs, by rw [hmt]; exact hown, hrow, hO, fun j row hj k y hk => by obtain ⟨u', hu', hd'⟩ := hv j row hj k y hk; exact ⟨u', hu', hd'.mono hC⟩⟩
        · have := hfl _ (List.mem_of_getElem? hb) h
          simp [flatBlk] at this
      | dead => exact h0.elim
      | inv I =>
        obtain ⟨g, j1, j2, j3⟩ := h0
        exact ⟨g, by rw [hmt]; exact j1, j2, by rw [hmt]; exact j3⟩
    have hsig_ts : ∀ (i t : Nat), u.ts[i]? = some t → sig u.ts tk i = t := fun i t hi => by unfold sig; rw [nth_eq, hi]; rfl
    have hsig_tk : sig u.ts tk u.cr.bs.length = tk := by unfold sig; rw [nth_eq, List.getElem?_eq_none (by omega)]; rfl
    have hm2 : ∀ t, U t → m2 t = m t := upm_lt m _ htk
    have hR2 : Rel Γ fr hp2 (also U tk) a w' m2 := by
      refine hR.turn hCold hm2 (fun _ h => .inl h) ?_
      have H := hR.mem
      -- of each token: the block's number
      have blkc : ∀ t b g, lk hp2 t = some b → blkOf (m2 t) = some g → (t ≠ tk ∧ (∃ b', lk hp t = some b') ∧ blkOf (m t) = some g) ∨ (t = tk ∧ (w.heap.size ≤ g ∨ ∃ i t b1, u.ts[i]? = some t ∧ lk hp t = some b1 ∧ blkOf (m t) = some g ∧ lk hp2 t = none)) := fun t b g ht hg => by
        rcases tokc t b ht with ⟨i, b0, q1, _, _, _⟩ | ⟨e0, b0, q1, _⟩ | ⟨q1, q2, q3⟩
        · obtain ⟨b', _, h1, _⟩ := hspec i t q1
          have hne : t ≠ tk := by intro e'; subst e'; exact htk (H.lt _ b' h1)
          rw [show m2 t = m t from upm_ne _ _ hne] at hg
          exact .inl ⟨hne, ⟨b', h1⟩, hg⟩
        · rw [e0, show m2 tk = m' u.cr.bs.length from upm_self _ _ _] at hg
          exact .inr ⟨e0, hnewb g b0 q1 hg⟩
        · rw [show m2 t = m t from upm_ne _ _ q1] at hg
          exact .inl ⟨q1, ⟨b, delAll_sub _ _ q3⟩, hg⟩
      refine ⟨fun t b ht => ?_, fun t t' b1 b2 g h1 h2 e1 e2 => ?_, fun t b ht => ?_, fun t b g ht hg hn' => ?_, fun t ht => by rw [hm2 t (H.n0 t ht)]; exact H.old t ht, fun t ht => .inl (H.n0 t ht), fun t b g ht hg hf => ?_, H.hF, ?_⟩
      · rcases tokc t b ht with ⟨i, b0, q1, q2, rfl, _⟩ | ⟨rfl, b0, q1, rfl⟩ | ⟨q1, q2, q3⟩
        · exact hHBnew i b0 t q2 (hsig_ts i t q1)
        · exact hHBnew _ b0 t q1 hsig_tk
        · have q3' := delAll_sub _ _ q3
          refine (H.hb t b q3').mono hCold hm2 (fun _ h => .inl h) (H.lt t b q3') fun g hg => hkeep g ((H.hb t b q3').lt hg) fun i t2 hi e => ?_
          obtain ⟨b', _, h1, _⟩ := hspec i t2 hi
          have := H.sep t t2 b b' g q3' h1 hg e
          subst this
          exact q2 (List.mem_of_getElem? hi)
      · rcases blkc t b1 g h1 e1 with ⟨n1, ⟨c1, d1⟩, f1⟩ | ⟨n1, f1⟩ <;> rcases blkc t' b2 g h2 e2 with ⟨n2, ⟨c2, d2⟩, f2⟩ | ⟨n2, f2⟩
        · exact H.sep t t' c1 c2 g d1 d2 f1 f2
        · rcases f2 with f2 | ⟨_, t1, b3, _, h3, h4, h5⟩
          · have := (H.hb t c1 d1).lt f1; omega
          · have := H.sep t t1 c1 b3 g d1 h3 f1 h4
            subst this; rw [h1] at h5; cases h5
        · rcases f1 with f1 | ⟨_, t1, b3, _, h3, h4, h5⟩
          · have := (H.hb t' c2 d2).lt f2; omega
          · have := H.sep t' t1 c2 b3 g d2 h3 f2 h4
            subst this; rw [h2] at h5; cases h5
        · rw [n1, n2]
      · rcases tokc t b ht with ⟨i, b0, q1, _, _, _⟩ | ⟨rfl, b0, q1, _⟩ | ⟨q1, q2, q3⟩
        · obtain ⟨b', _, h1, _⟩ := hspec i t q1; exact .inl (H.lt t b' h1)
        · exact .inr rfl
        · exact .inl (H.lt t b (delAll_sub _ _ q3))
      · rcases blkc t b g ht hg with ⟨n1, ⟨c1, d1⟩, f1⟩ | ⟨n1, f1⟩
        · exact (H.new t c1 g d1 f1 hn').imp id fun ⟨t0, j1, j2, j3⟩ => ⟨t0, j1, j2, keepn t0 (H.n0 _ j1) j3⟩
        · rcases f1 with f1 | ⟨_, t1, b3, _, h3, h4, h5⟩
          · have := H.keeps.size; exact .inl (by omega)
          · rcases Nat.lt_or_ge t1 Γ.n0 with hlt | hge
            · exact .inr ⟨t1, hlt, by rw [← H.old t1 hlt]; exact h4, h5⟩
            · exact (H.new t1 b3 g h3 h4 hge).imp id fun ⟨t0, j1, j2, j3⟩ => ⟨t0, j1, j2, keepn t0 (H.n0 _ j1) j3⟩
      · rcases blkc t b g ht hg with ⟨n1, ⟨c1, d1⟩, f1⟩ | ⟨n1, f1⟩
        · exact H.nF t c1 g d1 f1 hf
        · rcases f1 with f1 | ⟨_, t1, b3, _, h3, h4, h5⟩
          · have := (H.hF g hf).1; have := H.keeps.size; omega
          · exact H.nF t1 b3 g h3 h4 hf
      · refine ⟨H'.keeps.os.trans H.keeps.os, H'.keeps.tape.trans H.keeps.tape, H'.keeps.output.trans H.keeps.output, Nat.le_trans H.keeps.size H'.keeps.size, fun g hlt hn' => ?_⟩
        rw [hkeep g (Nat.lt_of_lt_of_le hlt H.keeps.size) fun i t hi e => ?_]
        · exact H.keeps.block g hlt hn'
        · obtain ⟨b', _, h1, _⟩ := hspec i t hi
          rcases Nat.lt_or_ge t Γ.n0 with h | h
          · exact hn' t h (by rw [← H.old t h]; exact e)
          · rcases H.new t b' g h1 e h with h0 | ⟨t0, j1, j2, _⟩
            · omega
            · exact hn' t0 j1 j2
    have hzr : RV (Cw Γ.F hp2 m2 w') m2 (also U tk) (ren u.ts tk u.cr.v) z := ren_rel hsigm hsigU hz tok1 (hCnew.imp id fun h => by
      have h' : (flat u.cr.v && flatBlks u.cr.bs') = true := h
      rw [Bool.and_eq_true] at h'; exact h'.1)
    exact hK _ _ m2 (rel_putA hR2 hd hzr) (put_defers a _ _)

end
end Go.Abs

set_option linter.unusedVariables false
set_option linter.unusedSimpArgs false
namespace Go.Abs
open Go Go.RowKit

section
variable {P : Program} {Γ : Ctx} {fr : List (Nat × V)} {hp hp' : List (Nat × Blk)} {U U' : Nat → Prop} {a : Act} {w w' : World} {m m' : Nat → Value} {tk : Nat} {L : List (Use P)} {o : Oper}
  {K : Act → World → Prop} {Q : Exit → Act → World → Prop}

mutual
theorem ren_nil (tk : Nat) : ∀ (x : V), tokB 0 x = true → ren [] tk x = x
  | .d _, _ => rfl
  | .own t, h => by simp [tokB] at h
  | .ptr t o, h => by simp [tokB] at h
  | .ept t s j k, h => by simp [tokB] at h
  | .ip _, _ => rfl
  | .agg cs, h => by simp only [ren]; rw [renL_nil tk cs (by simpa [tokB] using h)]
  | .tup cs, h => by simp only [ren]; rw [renL_nil tk cs (by simpa [tokB] using h)]
  | .fn f cs, h => by simp only [ren]; rw [renL_nil tk cs (by simpa [tokB] using h)]
  | .when _ _, h => by simp [tokB] at h
  | .any, _ => rfl
theorem renL_nil (tk : Nat) : ∀ (l : List V), tokLB 0 l = true → renL [] tk l = l
  | [], _ => rfl
  | x :: r, h => by
    simp only [tokLB, Bool.and_eq_true] at h
    simp only [renL]; rw [ren_nil tk x h.1, renL_nil tk r h.2]
end

theorem Sound.weaker {q q' : Rs P} (h : Sound P Γ fr hp U tk o q) (hv : q'.v = q.v) (hg : q'.gone = q.gone) (hs : q'.set = q.set) (hn : q'.new = q.new) (hp' : q'.p → q.p) : Sound P Γ fr hp U tk o q' := by
  intro a w m K Q hR htk hp0 hd hK
  have e : after hp tk q' = after hp tk q := by unfold after; rw [hg, hs, hn]
  rw [hv, e] at hK
  exact h a w m K Q hR htk (hp' hp0) hd hK

theorem sound_callA (hG : Good P Γ.F Γ.w0) {x : Operand} {f : Nat} {cap vs : List V} {c : Call} {q : Rs P} (ho : o.op = .call c) (hc : c.callee = .value x) (hx : eo fr x = some (.fn f cap)) (ha : eos fr c.args.toList = some vs) (h : callA hp tk f (vs ++ cap) L = some q) :
    Sound P Γ fr hp U tk o q := by
  unfold callA at h
  split at h
  · cases h
  · rename_i u L
    split at h
    · rename_i hf
      have hG := sound_callG hG (Γ := Γ) (hp := hp) (U := U) (tk := tk) (u := u) (L := L) ho hc hx ha hf
      split at h
      · rename_i h1 h2 h3
        obtain rfl := Option.some.inj h
        refine hG.weaker ?_ ?_ ?_ ?_ ?_
        · show u.cr.v = ren u.ts tk u.cr.v
          have := u.cr.tok
          rw [h3] at this
          simp only [List.length_nil, Bool.and_eq_true] at this
          rw [h1, ren_nil tk _ this.1]
        · simp [callG, h1, h2, h3, seenH, flatBlks, deadT]
        · simp [callG, h1, h3, backs]
        · simp [callG, h1, h3, backs]
        · intro hp0
          refine ⟨by simpa [h1] using hp0, by simp [h1, h2, hands], by simp [h1]⟩
      · obtain rfl := Option.some.inj h
        exact hG
    · cases h

theorem rowT_spec {e sz b : Nat} (h : rowT P e = some (sz, b)) : sizeT P e = some sz ∧ 0 < sz ∧ (zeroT P e).isSome = true := by
  unfold rowT at h
  unfold sizeT zeroT
  split at h
  · rename_i i hi
    split at h
    · rename_i z hz
      split at h
      · rename_i hc
        obtain ⟨rfl, rfl⟩ := Prod.mk.inj (Option.some.inj h)
        exact ⟨by simp [hi], hc.2.1, by simp [hi, hz]⟩
      · cases h
    · cases h
  · cases h

theorem bound_spec {lo : Option Operand} {d l : Int} (h : boundA fr d lo = some l) : (lo = none ∧ l = d) ∨ ∃ y k, lo = some y ∧ eo fr y = some (.d (.lit (.int k l))) := by
  cases lo with
  | none => exact .inl ⟨rfl, (Option.some.inj h).symm⟩
  | some y =>
    simp only [boundA] at h
    split at h
    · rename_i k n hy; obtain rfl := Option.some.inj h; exact .inr ⟨y, k, rfl, hy⟩
    · cases h

theorem sound_sliceA {t : TypeId} {x : Operand} {lo hi : Option Operand} {q : Rs P} (ho : o.op = .slice t x lo hi none) (h : sliceA P fr hp t x lo hi L = some q) : Sound P Γ fr hp U tk o q := by
  unfold sliceA at h
  split at h
  · rename_i v l hx hl
    have hl := bound_spec hl
    unfold sliceV at h
    split at h
    · rename_i s
      split at h
      · rename_i h' ht hh; obtain rfl := Option.some.inj h
        exact sound_sliceStr ho hx ht hl (bound_spec hh) (fun hp0 => hp0)
      · cases h
    · rename_i v hns
      split at h
      · rename_i e rows he hv
        split at h
        · rename_i sz h' hs hh; obtain rfl := Option.some.inj h
          exact sound_sliceLst ho hx hv he hs hl (bound_spec hh) (fun hp0 => hp0)
        · cases h
      · cases h
  · cases h

theorem sound_call (hG : Good P Γ.F Γ.w0) {c : Call} {q : Rs P} (ho : o.op = .call c) (h : stp P Γ.n0 fr hp tk L o = some q) : Sound P Γ fr hp U tk o q := by
  simp only [stp, ho] at h
  split at h
  · rename_i hc
    split at h
    · rename_i x t ha hat
      split at h
      · rename_i v hx
        split at h
        · rename_i n hn
          cases ht : lenT P t v with
          | false => rw [ht] at h; cases h
          | true =>
            rw [ht] at h
            obtain rfl := Option.some.inj h
            refine sound_len ho hc ha hat hx hn ?_
            unfold lenT at ht
            split at ht
            · exact .inl ⟨ht, _, rfl⟩
            · rename_i hne; exact .inr ⟨ht, fun ⟨s, e⟩ => hne s e⟩
        · cases h
      · cases h
    · cases h
  · rename_i hc
    split at h
    · rename_i x y t t' ha hat
      split at h
      · rename_i va vb hx hy
        unfold appendX at h
        cases hbe : byteE P t with
        | true => rw [hbe] at h; exact sound_appendB ho hc ha hat hx hy h
        | false =>
        rw [hbe] at h
        simp only [cond_false] at h
        split at h
        · rename_i he; subst he
          unfold appendA at h
          split at h
          · rename_i e l2 he hv
            split at h
            · rename_i sz b hr
              obtain rfl := Option.some.inj h
              refine (sound_append (L := L) (l := []) (g := []) (vx := nilV) ho hc ha hat he hr hx hy hv (.inl ⟨rfl, rfl, rfl⟩)).weaker rfl rfl rfl rfl (fun hp0 => by simpa using hp0)
            · rename_i sz b t0 hr
              split at h
              · rename_i e' sz' l hk
                split at h
                · rename_i hcc
                  obtain ⟨rfl, rfl⟩ := hcc
                  obtain rfl := Option.some.inj h
                  exact sound_append ho hc ha hat he hr hx hy hv (.inr ⟨t0, rfl, hk, rfl⟩)
                · cases h
              · cases h
            · cases h
          · cases h
        · cases h
      · cases h
    · cases h
  · rename_i hc
    split at h
    · rename_i x y ha
      split at h
      · rename_i k n k' n' hx hy
        split at h
        · rename_i hk; subst hk; obtain rfl := Option.some.inj h; exact sound_max ho hc ha hx hy
        · cases h
      · cases h
    · cases h
  · rename_i hc
    split at h
    · rename_i x y ha
      split at h
      · rename_i k n k' n' hx hy
        split at h
        · rename_i hk; subst hk; obtain rfl := Option.some.inj h; exact sound_min ho hc ha hx hy
        · cases h
      · cases h
    · cases h
  · rename_i fn hc
    split at h
    · rename_i f cap vs hx ha; exact sound_callA hG ho hc hx ha h
    · cases h
  · cases h

theorem stp_sound (hG : Good P Γ.F Γ.w0) {q : Rs P} (h : stp P Γ.n0 fr hp tk L o = some q) : Sound P Γ fr hp U tk o q := by
  cases ho : o.op with
  | move x =>
    simp only [stp, ho] at h
    split at h
    · rename_i v hv; obtain rfl := Option.some.inj h; exact sound_move (.inl ho) hv
    · cases h
  | assign x =>
    simp only [stp, ho] at h
    split at h
    · rename_i v hv; obtain rfl := Option.some.inj h; exact sound_move (.inr ho) hv
    · cases h
  | pick c x y =>
    simp only [stp, ho] at h
    split at h
    · rename_i t va vb h1 h2 h3; obtain rfl := Option.some.inj h; exact sound_pick ho h1 h2 h3
    · cases h
  | alloc t =>
    simp only [stp, ho] at h
    split at h
    · rename_i zs hz
      split at h
      · rename_i hO; obtain rfl := Option.some.inj h; exact sound_alloc ho hz hO
      · cases h
    · cases h
  | box t x =>
    simp only [stp, ho] at h
    split at h
    · rename_i v n hx hs
      split at h
      · rename_i hO; obtain rfl := Option.some.inj h; exact sound_box (n := n) ho hx hO.1
      · cases h
    · cases h
  | build t ps =>
    simp only [stp, ho] at h
    split at h
    · rename_i zs pl hz hs
      split at h
      · rename_i hO
        split at h
        · rename_i cs hf; obtain rfl := Option.some.inj h; exact sound_build ho hz hs hO hf
        · cases h
      · cases h
    · cases h
  | buildSlice t n ps =>
    simp only [stp, ho] at h
    split at h
    · rename_i e he
      split at h
      · rename_i sz b hr
        split at h
        · rename_i l g hrow
          split at h
          · rename_i hc; obtain rfl := Option.some.inj h
            obtain ⟨r1, r2, r3⟩ := rowT_spec hr
            exact sound_buildSlice ho he r1 hrow hc.1 hc.2 r2 r3
          · cases h
        · cases h
      · cases h
    · cases h
  | load t x =>
    simp only [stp, ho] at h
    split at h
    · rename_i v n hx hs
      split at h
      · rename_i u p hu; obtain rfl := Option.some.inj h; exact sound_load ho hx hu hs
      · cases h
    · cases h
  | store t x y =>
    simp only [stp, ho] at h
    split at h
    · rename_i k o' v n hx hy hs
      split at h
      · rename_i ty cs hk
        split at h
        · rename_i hc; obtain rfl := Option.some.inj h; exact sound_storeVar ho hx hy hs hk hc.1 hc.2.1 hc.2.2
        · cases h
      · cases h
    · rename_i k sz j o' v n hx hy hs
      split at h
      · rename_i e sz' l ds hk hds
        split at h
        · rename_i hc; obtain rfl := Option.some.inj h
          obtain ⟨rfl, c2, c3, c4⟩ := hc
          exact sound_storeRow ho hx hy hs hk hds c2 c3 c4
        · cases h
      · cases h
    · cases h
  | nilCheck x =>
    simp only [stp, ho] at h
    split at h
    · rename_i k o' hx; obtain rfl := Option.some.inj h; exact sound_nil ho hx (.inl ⟨_, _, rfl⟩)
    · rename_i k sz j o' hx; obtain rfl := Option.some.inj h; exact sound_nil ho hx (.inr (.inl ⟨_, _, _, _, rfl⟩))
    · rename_i ds hx; obtain rfl := Option.some.inj h; exact sound_nil ho hx (.inr (.inr (.inl ⟨_, rfl⟩)))
    · rename_i f cs hx; obtain rfl := Option.some.inj h; exact sound_nil ho hx (.inr (.inr (.inr ⟨_, _, rfl⟩)))
    · cases h
  | binOp op t x y t' =>
    simp only [stp, ho] at h
    split at h
    · rename_i va vb hx hy
      cases hb : binV P op t va vb with
      | none =>
        rw [hb] at h
        simp only [] at h
        cases hX : binX P op t va vb with
        | none => rw [hX] at h; cases h
        | some r => rw [hX] at h; exact sound_binX ho hx hy hX h
      | some r => rw [hb] at h; exact sound_bin ho hx hy hb h
    · cases h
  | unOp op t x =>
    simp only [stp, ho] at h
    split at h
    · rename_i va hx
      cases hb : unV op va with
      | none => rw [hb] at h; cases h
      | some r => rw [hb] at h; exact sound_un ho hx hb h
    · cases h
  | convert s t x =>
    simp only [stp, ho] at h
    split at h
    · rename_i k n hx
      split at h
      · rename_i k' d hk hs
        cases hb : intR k' (arith k' n) with
        | none => rw [hb] at h; cases h
        | some r => rw [hb] at h; exact sound_convInt ho hx hk hb h ⟨d, hs⟩
      · cases h
    · rename_i k hx; exact sound_convB ho hx h
    · cases h
  | makeMap t r =>
    cases r with
    | some _ => simp [stp, ho] at h
    | none =>
      simp only [stp, ho] at h
      split at h
      · rename_i k e hmt; obtain rfl := Option.some.inj h; exact sound_makeMap ho hmt
      · cases h
  | mapUpdate t mo x y =>
    simp only [stp, ho] at h
    split at h
    · rename_i i k cs hm hx hy; exact sound_putM ho hm hx hy h
    · cases h
  | lookup t mo x ok =>
    simp only [stp, ho] at h
    split at h
    · rename_i i k hm hx; exact sound_lookA ho hm hx h
    · cases h
  | makeFunc x first cap =>
    cases x with
    | func f =>
      simp only [stp, ho] at h
      split at h
      · rename_i hf
        split at h
        · rename_i vs hv; obtain rfl := Option.some.inj h; exact sound_makeFunc ho hf hv
        · cases h
      · cases h
    | _ => simp [stp, ho] at h
  | fieldAddr s x f =>
    simp only [stp, ho] at h
    split at h
    · rename_i k o' p n t hx hf
      split at h
      · cases h
      · rename_i hn; obtain rfl := Option.some.inj h; exact sound_fieldAddr ho hx hf hn (.inl ⟨_, _, rfl, rfl⟩)
    · rename_i k sz j o' p n t hx hf
      split at h
      · cases h
      · rename_i hn; obtain rfl := Option.some.inj h; exact sound_fieldAddr ho hx hf hn (.inr (.inl ⟨_, _, _, _, rfl, rfl⟩))
    · rename_i ds p n t hx hf
      split at h
      · cases h
      · rename_i hn; obtain rfl := Option.some.inj h; exact sound_fieldAddr ho hx hf hn (.inr (.inr ⟨_, rfl, rfl⟩))
    · cases h
  | field s x f =>
    simp only [stp, ho] at h
    split at h
    · rename_i cs p n t hx hf
      split at h
      · rename_i ha
        split at h
        · obtain rfl := Option.some.inj h; exact sound_field ho hx hf ha (.inl ⟨rfl, rfl⟩)
        · cases h
      · rename_i ha
        split at h
        · rename_i v hv; obtain rfl := Option.some.inj h; exact sound_field ho hx hf ha (.inr ⟨rfl, hv⟩)
        · cases h
      · cases h
    · cases h
  | indexAddr t x i =>
    simp only [stp, ho] at h
    split at h
    · rename_i l k j e hx hi he
      split at h
      · rename_i sz hs; obtain rfl := Option.some.inj h; exact sound_indexLst ho hx hi he hs
      · cases h
    · rename_i q' k j e hx hi he
      split at h
      · rename_i e' sz' l sz hq hs
        split at h
        · rename_i hc; subst hc; obtain rfl := Option.some.inj h; exact sound_indexOwn ho hx hi he hs hq
        · cases h
      · cases h
    · cases h
  | index t x i =>
    simp only [stp, ho] at h
    split at h
    · rename_i s k j hx hi
      cases ht : strT P t with
      | true => rw [ht] at h; obtain rfl := Option.some.inj h; exact sound_index ho hx hi ht
      | false => rw [ht] at h; cases h
    · cases h
  | extract x i =>
    simp only [stp, ho] at h
    split at h
    · rename_i vs hx
      split at h
      · rename_i v hv; obtain rfl := Option.some.inj h; exact sound_extract ho hx hv
      · cases h
    · cases h
  | slice t x lo hi mx =>
    cases mx with
    | none =>
      simp only [stp, ho] at h
      exact sound_sliceA ho h
    | some _ => simp [stp, ho] at h
  | call c => exact sound_call hG ho h
  | _ => simp [stp, ho] at h

end
end Go.Abs
