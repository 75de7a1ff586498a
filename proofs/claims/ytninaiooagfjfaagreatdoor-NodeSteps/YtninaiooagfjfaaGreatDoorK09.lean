/- A frame that tells more, and more blocks: an operation does the same. Regions that draw their order: a step on what it is told alone, and what a set of steps has done. Regions that draw their order: what is done on what it is told alone is done in any order that the region leaves open. No conditions. -/
import Derived.Test.YtninaiooagfjfaaGreatDoorK08
import Derived.StillTail
set_option linter.unusedVariables false
set_option linter.unusedSimpArgs false
namespace Go.Abs
open Go Go.RowKit

section
variable {P : Program} {n0 : Nat} {fr fr' : List (Nat × V)} {hp hp' : List (Nat × Blk)} {tk : Nat} {L : List (Use P)} {o : Oper}

theorem eo_mono (hf : ∀ i v, lk fr i = some v → lk fr' i = some v) {x : Operand} {v : V} (h : eo fr x = some v) : eo fr' x = some v := by
  cases x with
  | tmp t => exact hf t v h
  | _ => exact h
theorem eos_mono (hf : ∀ i v, lk fr i = some v → lk fr' i = some v) : ∀ {xs : List Operand} {vs : List V}, eos fr xs = some vs → eos fr' xs = some vs
  | [], vs, h => h
  | x :: r, vs, h => by
    simp only [eos] at h
    split at h
    · rename_i a b h1 h2
      simp only [eos, eo_mono hf h1, eos_mono hf h2]; exact h
    · cases h
theorem lenV_mono (hh : ∀ t b, lk hp t = some b → lk hp' t = some b) {v : V} {n : Int} (h : lenV hp v = some n) : lenV hp' v = some n := by
  unfold lenV at h ⊢
  split at h
  · exact h
  · exact h
  · exact h
  · split at h
    · rename_i hl; simp only [hh _ _ hl]; exact h
    · cases h
  · cases h
theorem rowsV_mono (hh : ∀ t b, lk hp t = some b → lk hp' t = some b) {v : V} {l : List (List D)} (h : rowsV hp v = some l) : rowsV hp' v = some l := by
  unfold rowsV at h ⊢
  split at h
  · exact h
  · exact h
  · split at h
    · rename_i hl; simp only [hh _ _ hl]; exact h
    · cases h
  · cases h
theorem toD_mono (hh : ∀ t b, lk hp t = some b → lk hp' t = some b) {v : V} {d : D} (h : toD hp v = some d) : toD hp' v = some d := by
  unfold toD at h ⊢
  split at h
  · exact h
  · exact h
  · split at h
    · rename_i hl; simp only [hh _ _ hl]; exact h
    · cases h
  · cases h
theorem toDs_mono (hh : ∀ t b, lk hp t = some b → lk hp' t = some b) : ∀ {vs : List V} {ds : List D}, toDs hp vs = some ds → toDs hp' vs = some ds
  | [], ds, h => h
  | v :: r, ds, h => by
    simp only [toDs] at h
    split at h
    · rename_i a b h1 h2
      simp only [toDs, toD_mono hh h1, toDs_mono hh h2]; exact h
    · cases h
theorem loadA_mono (hh : ∀ t b, lk hp t = some b → lk hp' t = some b) {t : TypeId} {v : V} {q : V × Prop} (h : loadA P hp t v = some q) : loadA P hp' t v = some q := by
  unfold loadA at h ⊢
  split at h
  · split at h
    · rename_i hl; simp only [hh _ _ hl]; exact h
    · cases h
  · exact h
  · split at h
    · rename_i hl; simp only [hh _ _ hl]; exact h
    · cases h
  · cases h
theorem fillA_mono (hf : ∀ i v, lk fr i = some v → lk fr' i = some v) {pl : List (Nat × Nat)} : ∀ {ps : List (Nat × Operand)} {cs r : List V}, fillA pl fr ps cs = some r → fillA pl fr' ps cs = some r
  | [], cs, r, h => h
  | (i, x) :: ps, cs, r, h => by
    simp only [fillA] at h
    split at h
    · rename_i o n v h1 h2
      split at h
      · rename_i hc
        simp only [fillA, h1, eo_mono hf h2]
        rw [if_pos hc]; exact fillA_mono hf h
      · cases h
    · cases h
theorem rowsA_mono (hf : ∀ i v, lk fr i = some v → lk fr' i = some v) (hh : ∀ t b, lk hp t = some b → lk hp' t = some b) {sz : Nat} : ∀ {ps : List (Nat × Operand)} {k : Nat} {r : List (List D) × List Nat}, rowsA hp fr sz k ps = some r → rowsA hp' fr' sz k ps = some r
  | [], k, r, h => h
  | (i, x) :: ps, k, r, h => by
    simp only [rowsA] at h
    split at h
    · rename_i hik
      split at h
      · rename_i v hv
        split at h
        · rename_i ds l g h1 h2
          simp only [rowsA, eo_mono hf hv, toDs_mono hh h1, rowsA_mono hf hh h2]
          rw [if_pos hik]; exact h
        · cases h
      · cases h
    · cases h
theorem boundA_mono (hf : ∀ i v, lk fr i = some v → lk fr' i = some v) {d : Int} {x : Option Operand} {n : Int} (h : boundA fr d x = some n) : boundA fr' d x = some n := by
  cases x with
  | none => exact h
  | some y =>
    simp only [boundA] at h ⊢
    split at h
    · rename_i hy; simp only [eo_mono hf hy]; exact h
    · cases h
theorem appendA_mono (hh : ∀ t b, lk hp t = some b → lk hp' t = some b) {t : TypeId} {x y : V} {q : Rs P} (h : appendA P n0 hp tk t x y L = some q) : appendA P n0 hp' tk t x y L = some q := by
  unfold appendA at h ⊢
  split at h
  · rename_i e l2 h1 h2
    simp only [h1, rowsV_mono hh h2]
    cases hx : rowT P e with
    | none => simp [hx] at h
    | some r =>
      obtain ⟨sz, b⟩ := r
      simp only [hx] at h ⊢
      cases x with
      | own t0 =>
        simp only at h ⊢
        cases hl : lk hp t0 with
        | none => simp [hl] at h
        | some b0 => rw [hl] at h; rw [hh _ _ hl]; exact h
      | d c =>
        cases c with
        | lit z =>
          cases z with
          | slice a n c =>
            cases a with
            | none => cases n with
              | zero => cases c with
                | zero => exact h
                | succ _ => exact h
              | succ _ => exact h
            | some _ => exact h
          | _ => exact h
        | lst _ => exact h
      | _ => exact h
  · cases h

theorem bytesV_mono (hh : ∀ t b, lk hp t = some b → lk hp' t = some b) {t t' : TypeId} {v : V} {r : ByteArray × Prop} (h : bytesV P hp t t' v = some r) : bytesV P hp' t t' v = some r := by
  have other : (if t = t' then match rowsV hp v with | some l => some (bytesOf l, rowsOf (bytesOf l) = l) | none => none else none) = some r → (if t = t' then match rowsV hp' v with | some l => some (bytesOf l, rowsOf (bytesOf l) = l) | none => none else none) = some r := by
    intro h
    split at h
    · rename_i e
      rw [if_pos e]
      split at h
      · rename_i l hl; simp only [rowsV_mono hh hl]; exact h
      · cases h
    · cases h
  cases v with
  | d c => cases c with
    | lit z => cases z with
      | string s => exact h
      | _ => exact other h
    | lst _ => exact other h
  | _ => exact other h
theorem appendB_mono (hh : ∀ t b, lk hp t = some b → lk hp' t = some b) {t t' : TypeId} {x y : V} {q : Rs P} (h : appendB P hp tk t t' x y L = some q) : appendB P hp' tk t t' x y L = some q := by
  unfold appendB at h ⊢
  split at h
  · rename_i e s p h1 h2 h3
    simp only [h1, h2, bytesV_mono hh h3]
    split at h
    · exact h
    · rename_i k
      split at h
      · rename_i I hk; simp only [hh _ _ hk]; exact h
      · cases h
    · cases h
  · cases h
theorem appendX_mono (hh : ∀ t b, lk hp t = some b → lk hp' t = some b) {t t' : TypeId} {x y : V} {q : Rs P} (h : appendX P n0 hp tk t t' x y L = some q) : appendX P n0 hp' tk t t' x y L = some q := by
  unfold appendX at h ⊢
  cases hb : byteE P t with
  | true => rw [hb] at h; exact appendB_mono hh h
  | false =>
    rw [hb] at h
    simp only [cond_false] at h ⊢
    split at h
    · rename_i e; rw [if_pos e]; exact appendA_mono hh h
    · cases h
theorem convB_mono (hh : ∀ t b, lk hp t = some b → lk hp' t = some b) {k s t : Nat} {q : Rs P} (h : convB P tk k s t L (lk hp k) = some q) : convB P tk k s t L (lk hp' k) = some q := by
  cases hk : lk hp k with
  | none => rw [hk] at h; cases h
  | some b => rw [hk] at h; rw [hh _ _ hk]; exact h

theorem putM_mono (hh : ∀ t b, lk hp t = some b → lk hp' t = some b) {t i : Nat} {k : Int} {cs : List V} {q : Rs P} (h : putM P t i k cs L (lk hp i) = some q) : putM P t i k cs L (lk hp' i) = some q := by
  cases hk : lk hp i with
  | none => rw [hk] at h; cases h
  | some b => rw [hk] at h; rw [hh _ _ hk]; exact h
theorem lookA_mono (hh : ∀ t b, lk hp t = some b → lk hp' t = some b) {t i : Nat} {ok : Bool} {k : Int} {q : Rs P} (h : lookA P t ok k L (lk hp i) = some q) : lookA P t ok k L (lk hp' i) = some q := by
  cases hk : lk hp i with
  | none => rw [hk] at h; cases h
  | some b => rw [hk] at h; rw [hh _ _ hk]; exact h

theorem le_to_any (x : V) : le x .any := by cases x <;> exact True.intro
theorem le_any {y : V} (h : le .any y) : y = .any := by cases y <;> simp [le] at h ⊢
mutual
theorem snap_mono (hh : ∀ t b, lk hp t = some b → lk hp' t = some b) (ts : List Nat) : ∀ (x y : V), le (snap hp ts x) y → le (snap hp' ts x) y
  | .d x, y, h => by simpa only [snap] using h
  | .own t, y, h => by
    simp only [snap] at h ⊢
    split at h
    · exact h
    · rename_i hi
      split at h
      · rename_i hl; simp only [hh _ _ hl]; exact h
      · obtain rfl := le_any h
        exact le_to_any _
  | .ptr t o, y, h => by
    simp only [snap] at h ⊢
    split at h
    · exact h
    · rename_i hi
      split at h
      · rename_i hl
        simp only [hh _ _ hl]
        exact h
      · obtain rfl := le_any h
        exact le_to_any _
  | .ept t s j k, y, h => by
    simp only [snap] at h ⊢
    exact h
  | .ip c, y, h => by simpa only [snap] using h
  | .agg cs, y, h => by
    cases y with
    | agg ds => simp only [snap, le] at h ⊢; exact snapL_mono hh ts cs ds h
    | any => exact True.intro
    | _ => simp [snap, le] at h
  | .tup cs, y, h => by
    cases y with
    | tup ds => simp only [snap, le] at h ⊢; exact snapL_mono hh ts cs ds h
    | any => exact True.intro
    | _ => simp [snap, le] at h
  | .fn f cs, y, h => by
    cases y with
    | fn g ds => simp only [snap, le] at h ⊢; exact ⟨h.1, snapL_mono hh ts cs ds h.2⟩
    | any => exact True.intro
    | _ => simp [snap, le] at h
  | .when b v, y, h => by simpa only [snap] using h
  | .any, y, h => by simpa only [snap] using h
theorem snapL_mono (hh : ∀ t b, lk hp t = some b → lk hp' t = some b) (ts : List Nat) : ∀ (xs ys : List V), leL (snapL hp ts xs) ys → leL (snapL hp' ts xs) ys
  | [], ys, h => by simpa only [snapL] using h
  | x :: r, [], h => by simp [snapL, leL] at h
  | x :: r, y :: ys, h => by
    simp only [snapL, leL] at h ⊢
    exact ⟨snap_mono hh ts x y h.1, snapL_mono hh ts r ys h.2⟩
end
theorem hands_mono (hh : ∀ t b, lk hp t = some b → lk hp' t = some b) (all : List Nat) : ∀ {ts : List Nat} {bs : List Blk}, hands hp all ts bs → hands hp' all ts bs
  | [], [], h => h
  | [], _ :: _, h => by simp [hands] at h
  | _ :: _, [], h => by simp [hands] at h
  | t :: ts, b :: bs, h => by
    simp only [hands] at h ⊢
    refine ⟨?_, hands_mono hh all h.2⟩
    have h1 := h.1
    split at h1
    · rename_i b' hl
      simp only [hh _ _ hl]
      cases b' with
      | row e sz l => exact h1
      | dead => simp [snapB, leBlk] at h1
      | inv I => exact h1
      | var ty cs => cases b with
        | row _ _ _ => simp [snapB, leBlk] at h1
        | dead => simp [snapB, leBlk] at h1
        | inv _ => simp [snapB, leBlk] at h1
        | var ty' ds => simp only [snapB, leBlk] at h1 ⊢; exact ⟨h1.1, snapL_mono hh all cs ds h1.2⟩
    · exact h1.elim
theorem seenH_mono (hh : ∀ t b, lk hp t = some b → lk hp' t = some b) (all : List Nat) : ∀ {ts : List Nat} {bs : List Blk}, hands hp all ts bs → seenH hp' all ts = seenH hp all ts
  | [], bs, h => rfl
  | t :: ts, [], h => by simp [hands] at h
  | t :: ts, b :: bs, h => by
    simp only [hands] at h
    have h1 := h.1
    split at h1
    · rename_i b' hl
      simp only [seenH, hl, hh _ _ hl, seenH_mono hh all h.2]
    · exact h1.elim

/-- The same effect; the condition met. -/
structure Same (q q' : Rs P) : Prop where
  v : q'.v = q.v
  gone : q'.gone = q.gone
  set : q'.set = q.set
  new : q'.new = q.new
  L : q'.L = q.L
  p : q'.p
theorem Same.rfl {q : Rs P} (h : q.p) : Same q q := ⟨.refl _, .refl _, .refl _, .refl _, .refl _, h⟩

theorem sliceA_mono (hf : ∀ i v, lk fr i = some v → lk fr' i = some v) (hh : ∀ t b, lk hp t = some b → lk hp' t = some b) {t : TypeId} {x : Operand} {lo hi : Option Operand} {q : Rs P} (h : sliceA P fr hp t x lo hi L = some q) : sliceA P fr' hp' t x lo hi L = some q := by
  unfold sliceA at h ⊢
  split at h
  · rename_i v l hx hl
    simp only [eo_mono hf hx, boundA_mono hf hl]
    unfold sliceV at h ⊢
    split at h
    · rename_i s
      split at h
      · rename_i h' ht hb
        simp only [ht, boundA_mono hf hb]; exact h
      · cases h
    · rename_i hns
      split at h
      · rename_i e rows he hv
        split at h
        · rename_i sz h' hs hb
          have e1 := rowsV_mono hh hv
          cases v with
          | d c =>
            cases c with
            | lit z => cases z with
              | string s => exact (hns s rfl).elim
              | _ => simp only [he, e1, hs, boundA_mono hf hb]; exact h
            | lst _ => simp only [he, e1, hs, boundA_mono hf hb]; exact h
          | _ => simp only [he, e1, hs, boundA_mono hf hb]; exact h
        · cases h
      · cases h
  · cases h

theorem callA_mono (hh : ∀ t b, lk hp t = some b → lk hp' t = some b) {f : Nat} {args : List V} {q : Rs P} (h : callA hp tk f args L = some q) (hp0 : q.p) : ∃ q', callA hp' tk f args L = some q' ∧ Same q q' := by
  unfold callA at h ⊢
  split at h
  · cases h
  · rename_i u L
    split at h
    · rename_i hf
      simp only [hf, if_true]
      split at h
      · rename_i h1 h2 h3
        obtain rfl := Option.some.inj h
        try simp only [h1, h2, h3]
        exact ⟨_, rfl, rfl, rfl, rfl, rfl, rfl, snapL_mono hh [] args _ hp0⟩
      · obtain rfl := Option.some.inj h
        refine ⟨_, rfl, rfl, ?_, rfl, rfl, rfl, snapL_mono hh _ args _ hp0.1, hands_mono hh _ hp0.2.1, hp0.2.2⟩
        simp only [seenH_mono hh _ hp0.2.1]
    · cases h

/-- An operation in a frame that tells more. -/
theorem stp_mono (hf : ∀ i v, lk fr i = some v → lk fr' i = some v) (hh : ∀ t b, lk hp t = some b → lk hp' t = some b) {q : Rs P} (h : stp P n0 fr hp tk L o = some q) (hp0 : q.p) : ∃ q', stp P n0 fr' hp' tk L o = some q' ∧ Same q q' := by
  have fin : stp P n0 fr' hp' tk L o = some q → ∃ q', stp P n0 fr' hp' tk L o = some q' ∧ Same q q' := fun e => ⟨q, e, .rfl hp0⟩
  cases ho : o.op with
  | move x =>
    refine fin ?_
    simp only [stp, ho] at h ⊢
    split at h
    · rename_i v hv; simp only [eo_mono hf hv]; exact h
    · cases h
  | assign x =>
    refine fin ?_
    simp only [stp, ho] at h ⊢
    split at h
    · rename_i v hv; simp only [eo_mono hf hv]; exact h
    · cases h
  | pick c x y =>
    refine fin ?_
    simp only [stp, ho] at h ⊢
    split at h
    · rename_i t va vb h1 h2 h3; simp only [eo_mono hf h1, eo_mono hf h2, eo_mono hf h3]; exact h
    · cases h
  | alloc t => exact fin (by simp only [stp, ho] at h ⊢; exact h)
  | box t x =>
    refine fin ?_
    simp only [stp, ho] at h ⊢
    split at h
    · rename_i v n hx hs; simp only [eo_mono hf hx, hs]; exact h
    · cases h
  | build t ps =>
    refine fin ?_
    simp only [stp, ho] at h ⊢
    split at h
    · rename_i zs pl hz hs
      try simp only [hz, hs]
      split at h
      · rename_i hO
        split at h
        · rename_i cs hfl; rw [if_pos hO]; simp only [fillA_mono hf hfl]; exact h
        · cases h
      · cases h
    · cases h
  | buildSlice t n ps =>
    refine fin ?_
    simp only [stp, ho] at h ⊢
    split at h
    · rename_i e he
      try simp only [he]
      split at h
      · rename_i sz b hr
        try simp only [hr]
        split at h
        · rename_i l g hrow; simp only [rowsA_mono hf hh hrow]; exact h
        · cases h
      · cases h
    · cases h
  | load t x =>
    refine fin ?_
    simp only [stp, ho] at h ⊢
    split at h
    · rename_i v n hx hs
      simp only [eo_mono hf hx, hs]
      split at h
      · rename_i u p hu; simp only [loadA_mono hh hu]; exact h
      · cases h
    · cases h
  | store t x y =>
    refine fin ?_
    simp only [stp, ho] at h ⊢
    split at h
    · rename_i k o' v n hx hy hs
      simp only [eo_mono hf hx, eo_mono hf hy, hs]
      split at h
      · rename_i ty cs hk; simp only [hh _ _ hk]; exact h
      · cases h
    · rename_i k sz j o' v n hx hy hs
      simp only [eo_mono hf hx, eo_mono hf hy, hs]
      split at h
      · rename_i e sz' l ds hk hds; simp only [hh _ _ hk, toDs_mono hh hds]; exact h
      · cases h
    · cases h
  | nilCheck x =>
    refine fin ?_
    simp only [stp, ho] at h ⊢
    split at h
    · rename_i hx; simp only [eo_mono hf hx]; exact h
    · rename_i hx; simp only [eo_mono hf hx]; exact h
    · rename_i hx; simp only [eo_mono hf hx]; exact h
    · rename_i hx; simp only [eo_mono hf hx]; exact h
    · cases h
  | binOp op t x y t' =>
    refine fin ?_
    simp only [stp, ho] at h ⊢
    split at h
    · rename_i hx hy; simp only [eo_mono hf hx, eo_mono hf hy]; exact h
    · cases h
  | unOp op t x =>
    refine fin ?_
    simp only [stp, ho] at h ⊢
    split at h
    · rename_i hx; simp only [eo_mono hf hx]; exact h
    · cases h
  | convert s t x =>
    refine fin ?_
    simp only [stp, ho] at h ⊢
    split at h
    · rename_i hx; simp only [eo_mono hf hx]; exact h
    · rename_i hx; simp only [eo_mono hf hx]; exact convB_mono hh h
    · cases h
  | makeMap t r =>
    cases r with
    | some _ => simp [stp, ho] at h
    | none => exact fin (by simp only [stp, ho] at h ⊢; exact h)
  | mapUpdate t mo x y =>
    refine fin ?_
    simp only [stp, ho] at h ⊢
    split at h
    · rename_i hm hx hy; simp only [eo_mono hf hm, eo_mono hf hx, eo_mono hf hy]; exact putM_mono hh h
    · cases h
  | lookup t mo x ok =>
    refine fin ?_
    simp only [stp, ho] at h ⊢
    split at h
    · rename_i hm hx; simp only [eo_mono hf hm, eo_mono hf hx]; exact lookA_mono hh h
    · cases h
  | makeFunc x first cap =>
    cases x with
    | func f =>
      refine fin ?_
      simp only [stp, ho] at h ⊢
      split at h
      · rename_i hf0
        rw [if_pos hf0]
        split at h
        · rename_i vs hv; simp only [eos_mono hf hv]; exact h
        · cases h
      · cases h
    | _ => simp [stp, ho] at h
  | fieldAddr s x f =>
    refine fin ?_
    simp only [stp, ho] at h ⊢
    split at h
    · rename_i hx hfl; simp only [eo_mono hf hx, hfl]; exact h
    · rename_i hx hfl; simp only [eo_mono hf hx, hfl]; exact h
    · rename_i hx hfl; simp only [eo_mono hf hx, hfl]; exact h
    · cases h
  | field s x f =>
    refine fin ?_
    simp only [stp, ho] at h ⊢
    split at h
    · rename_i hx hfl; simp only [eo_mono hf hx, hfl]; exact h
    · cases h
  | indexAddr t x i =>
    refine fin ?_
    simp only [stp, ho] at h ⊢
    split at h
    · rename_i hx hi he; simp only [eo_mono hf hx, eo_mono hf hi, he]; exact h
    · rename_i hx hi he
      simp only [eo_mono hf hx, eo_mono hf hi, he]
      split at h
      · rename_i hq hs; simp only [hh _ _ hq, hs]; exact h
      · cases h
    · cases h
  | index t x i =>
    refine fin ?_
    simp only [stp, ho] at h ⊢
    split at h
    · rename_i hx hi; simp only [eo_mono hf hx, eo_mono hf hi]; exact h
    · cases h
  | extract x i =>
    refine fin ?_
    simp only [stp, ho] at h ⊢
    split at h
    · rename_i hx; simp only [eo_mono hf hx]; exact h
    · cases h
  | slice t x lo hi mx =>
    cases mx with
    | none => refine fin ?_; simp only [stp, ho] at h ⊢; exact sliceA_mono hf hh h
    | some _ => simp [stp, ho] at h
  | call c =>
    simp only [stp, ho] at h ⊢
    split at h
    · rename_i hc
      try simp only [hc]
      split at h
      · rename_i x t ha hat
        try simp only [ha, hat]
        split at h
        · rename_i v hx
          simp only [eo_mono hf hx]
          split at h
          · rename_i n hn; simp only [lenV_mono hh hn]; exact ⟨q, h, .rfl hp0⟩
          · cases h
        · cases h
      · cases h
    · rename_i hc
      try simp only [hc]
      split at h
      · rename_i x y t t' ha hat
        try simp only [ha, hat]
        split at h
        · rename_i hx hy; simp only [eo_mono hf hx, eo_mono hf hy]; exact ⟨q, appendX_mono hh h, .rfl hp0⟩
        · cases h
      · cases h
    · rename_i hc
      try simp only [hc]
      split at h
      · rename_i x y ha
        try simp only [ha]
        split at h
        · rename_i hx hy; simp only [eo_mono hf hx, eo_mono hf hy]; exact ⟨q, h, .rfl hp0⟩
        · cases h
      · cases h
    · rename_i hc
      try simp only [hc]
      split at h
      · rename_i x y ha
        try simp only [ha]
        split at h
        · rename_i hx hy; simp only [eo_mono hf hx, eo_mono hf hy]; exact ⟨q, h, .rfl hp0⟩
        · cases h
      · cases h
    · rename_i fn hc
      try simp only [hc]
      split at h
      · rename_i hx ha; simp only [eo_mono hf hx, eos_mono hf ha]; exact callA_mono hh h hp0
      · cases h
    · cases h
  | _ => simp [stp, ho] at h
end
end Go.Abs

set_option linter.unusedVariables false
set_option linter.unusedSimpArgs false
namespace Go.Abs
open Go Go.RowKit

/-- A step: the value; what it does to blocks (the newest first); the condition. -/
structure Qt where
  v : V
  eff : List (Nat × Option Blk)
  p : Prop

section
variable {P : Program} {Γ : Ctx} {n0 : Nat} {fr fr' : List (Nat × V)} {hp hp' : List (Nat × Blk)} {U : Nat → Prop} {a : Act} {w : World} {m : Nat → Value} {tk : Nat} {L : List (Use P)} {o : Oper}

def newE (tk : Nat) : Option Blk → List (Nat × Option Blk)
  | some b => [(tk, some b)]
  | none => []
def setE : List (Nat × Blk) → List (Nat × Option Blk) → List (Nat × Option Blk)
  | [], acc => acc
  | (t, b) :: r, acc => setE r ((t, some b) :: acc)
def goneE : List Nat → List (Nat × Option Blk)
  | [] => []
  | t :: r => (t, none) :: goneE r
def effOf (tk : Nat) (q : Rs P) : List (Nat × Option Blk) := newE tk q.new ++ setE q.set (goneE q.gone)

def quietP (tk : Nat) : Option (Rs P) → Option (Qt × List (Use P))
  | some q => some (⟨q.v, effOf tk q, q.p⟩, q.L)
  | none => none
def quietG (fr : List (Nat × V)) (o : Oper) (g : Bool) : Option (Rs P) → Option (Qt × List (Use P))
  | some q => match q.gone, q.set, q.new with
    | [], [], none => some (⟨.when g q.v, [], owes fr g (readT o.op) ∧ (g = true → q.p)⟩, q.L)
    | _, _, _ => none
  | none => none
noncomputable def stepV (P : Program) (n0 : Nat) (ops : List Oper) (fr : List (Nat × V)) (hp : List (Nat × Blk)) (tk : Nat) (L : List (Use P)) (o : Oper) : Option (Qt × List (Use P)) :=
  match o.guard with
  | none => quietP tk (stp P n0 fr hp tk L o)
  | some (j, want) => match wantA ops fr j want, (readT o.op).all (fun t => (lk fr t).isSome) with
    | some g, true => quietG fr o g (stp P n0 (under fr (readT o.op)) hp tk L o)
    | _, _ => none

theorem wantA_mono (hf : ∀ i v, lk fr i = some v → lk fr' i = some v) {ops : List Oper} {j : Nat} {want g : Bool} (h : wantA ops fr j want = some g) : wantA ops fr' j want = some g := by
  unfold wantA at h ⊢
  split at h
  · rename_i oj hj
    try simp only [hj]
    split at h
    · rename_i t ht
      try simp only [ht]
      split at h
      · rename_i hl; simp only [hf _ _ hl]; exact h
      · rename_i hl; simp only [hf _ _ hl]; exact h
      · rename_i hl; simp only [hf _ _ hl]; exact h
      · cases h
    · cases h
  · cases h
theorem lk_under : ∀ {ts : List Nat} {i : Nat}, lk (under fr ts) i = if i ∈ ts then (match lk fr i with | some (.when _ v) => some v | x => x) else lk fr i
  | [], i => by simp [under]
  | t :: r, i => by
    simp only [under]
    split
    · rename_i c v hl
      rw [lk_cons, lk_under (ts := r)]
      by_cases e : t = i
      · subst e; simp [hl]
      · simp [e, Ne.symm e]
    · rename_i hn
      rw [lk_under (ts := r)]
      by_cases e : i = t
      · subst e
        simp only [List.mem_cons, true_or, if_true]
        split
        · rfl
        · first
          | rfl
          | (split
             · rename_i c v hl; exact absurd hl (hn c v)
             · rfl)
      · simp [e]
theorem under_mono (hf : ∀ i v, lk fr i = some v → lk fr' i = some v) {ts : List Nat} : ∀ i v, lk (under fr ts) i = some v → lk (under fr' ts) i = some v := by
  intro i v h
  rw [lk_under] at h ⊢
  split at h
  · rename_i hi
    rw [if_pos hi]
    cases hl : lk fr i with
    | none => rw [hl] at h; cases h
    | some x => rw [hl] at h; rw [hf _ _ hl]; exact h
  · rename_i hi
    rw [if_neg hi]; exact hf _ _ h
theorem owes_mono (hf : ∀ i v, lk fr i = some v → lk fr' i = some v) {g : Bool} : ∀ {ts : List Nat}, (∀ t ∈ ts, ∃ v, lk fr t = some v) → owes fr g ts → owes fr' g ts
  | [], _, h => h
  | t :: r, hex, h => by
    obtain ⟨v, hv⟩ := hex t List.mem_cons_self
    refine ⟨?_, owes_mono hf (fun t ht => hex t (List.mem_cons_of_mem _ ht)) h.2⟩
    have h1 := h.1
    rw [hv] at h1
    rw [hf _ _ hv]
    exact h1

theorem trim_mem : ∀ {ks : List Nat} {fr : List (Nat × V)} {i : Nat} {v : V}, lk (trim ks fr) i = some v → i ∈ ks
  | [], fr, i, v, h => by simp [trim, lk] at h
  | k :: r, fr, i, v, h => by
    simp only [trim] at h
    split at h
    · rw [lk_cons] at h
      split at h
      · rename_i e; subst e; exact List.mem_cons_self
      · exact List.mem_cons_of_mem _ (trim_mem h)
    · exact List.mem_cons_of_mem _ (trim_mem h)

theorem lk_app {α : Type} : ∀ (x y : List (Nat × α)) (t : Nat), lk (x ++ y) t = (lk x t).or (lk y t)
  | [], y, t => by simp [lk]
  | (i, a) :: r, y, t => by
    rw [List.cons_append, lk_cons, lk_cons, lk_app r]
    split <;> simp
theorem lk_goneE : ∀ (g : List Nat) (t : Nat), lk (goneE g) t = if t ∈ g then some none else none
  | [], t => by simp [goneE, lk]
  | x :: r, t => by
    rw [goneE, lk_cons, lk_goneE r]
    by_cases h : x = t
    · subst h; simp
    · simp [h, Ne.symm h]
theorem lk_setE : ∀ (l : List (Nat × Blk)) (acc : List (Nat × Option Blk)) (h : List (Nat × Blk)) (t : Nat), (lk acc t).getD (lk hp t) = lk h t → (lk (setE l acc) t).getD (lk hp t) = lk (l.foldl (fun h q => sto h q.1 q.2) h) t
  | [], acc, h, t, e => e
  | (k, b) :: r, acc, h, t, e => by
    rw [setE, List.foldl_cons]
    refine lk_setE r _ _ t ?_
    rw [lk_cons, lk_sto]
    by_cases hk : k = t
    · subst hk; simp
    · rw [if_neg hk, if_neg (Ne.symm hk)]; exact e
theorem lk_after {q : Rs P} (t : Nat) : lk (after hp tk q) t = (lk (effOf tk q) t).getD (lk hp t) := by
  have h1 : (lk (setE q.set (goneE q.gone)) t).getD (lk hp t) = lk (q.set.foldl (fun h q => sto h q.1 q.2) (delAll hp q.gone)) t := by
    refine lk_setE _ _ _ _ ?_
    rw [lk_goneE, lk_delAll]
    split <;> simp
  unfold after effOf
  cases q.new with
  | none => exact h1.symm
  | some b =>
    simp only [newE, List.cons_append, List.nil_append]
    rw [lk_cons, lk_cons]
    split
    · simp
    · exact h1.symm

/-- A step, carried out where more is known. -/
theorem stepV_sound (hG : Good P Γ.F Γ.w0) {ops : Array Oper} {q : Qt} {L' : List (Use P)} {K : Act → World → Prop} {Q : Exit → Act → World → Prop} (h : stepV P Γ.n0 ops.toList fr hp tk L o = some (q, L')) (hp0 : q.p) (hf : ∀ i v, lk fr i = some v → lk fr' i = some v) (hh : ∀ t b, lk hp t = some b → lk hp' t = some b)
    (hd : ∀ d, o.dst = some d → d < Γ.nt) (hR : Rel Γ fr' hp' U a w m) (htk : ¬ U tk)
    (hK : ∀ a' w' m' hpN, (∀ t, lk hpN t = (lk q.eff t).getD (lk hp' t)) → Rel Γ (putA fr' o.dst q.v) hpN (also U tk) a' w' m' → a'.defers = a.defers → K a' w') :
    if Region.wanted o (yielded ops a.tmps) = true then o.wp P a w K Q else K (a.put o.dst undef) w := by
  unfold stepV at h
  split at h
  · rename_i hg
    unfold quietP at h
    split at h
    · rename_i r hr
      obtain ⟨rfl, rfl⟩ := Prod.mk.inj (Option.some.inj h)
      obtain ⟨r', hr', hs⟩ := stp_mono hf hh hr hp0
      rw [if_pos (by simp [Region.wanted, hg])]
      refine stp_sound hG hr' a w m _ _ hR htk hs.p hd fun a' w' m' hR' hdef => hK a' w' m' _ (fun t => ?_) (hs.v ▸ hR') hdef
      rw [lk_after]
      simp only [effOf, hs.gone, hs.set, hs.new]
    · cases h
  · rename_i j want hg
    split at h
    · rename_i g hw hex
      have hw := want_sound hR hg (wantA_mono hf hw)
      unfold quietG at h
      split at h
      · rename_i r hr
        split at h
        · rename_i h1 h2 h3
          obtain ⟨rfl, rfl⟩ := Prod.mk.inj (Option.some.inj h)
          cases g with
          | false =>
            rw [if_neg (by rw [hw]; exact Bool.false_ne_true)]
            exact hK _ _ m hp' (fun t => by simp [lk]) ((rel_putA hR hd (.when false r.v undef (fun e => by cases e) (fun _ => rfl))).given fun t ht => .inl ht) (put_defers a _ _)
          | true =>
            obtain ⟨r', hr', hs⟩ := stp_mono (under_mono hf) hh hr (hp0.2 rfl)
            have how : owes fr' true (readT o.op) := owes_mono hf (fun t ht => by
              have := List.all_eq_true.1 hex t ht
              exact Option.isSome_iff_exists.1 this) hp0.1
            rw [if_pos hw]
            refine stp_sound hG hr' a w m _ _ (under_rel hR how) htk hs.p hd fun a' w' m' hR' hdef => hK a' w' m' hp' (fun t => by simp [lk]) ?_ hdef
            have e : after hp' tk r' = hp' := by simp [after, hs.gone, hs.set, hs.new, h1, h2, h3, delAll]
            rw [e, hs.v] at hR'
            exact under_back (fun C u h => .when true r.v u (fun _ => h) (fun e => by cases e)) how hR'
        · cases h
      · cases h
    · cases h

/-! ### the operations in the text's order, each on what it is told alone -/
/-- What an operation reads and writes: its place, where its value goes, the temporaries and the tokens that it is told, the tokens that it writes. -/
structure Log where
  j : Nat
  dst : Option Tmp
  rs : List Nat
  td : List Nat
  es : List Nat

mutual
/-- The tokens in a value. -/
def toks : V → List Nat
  | .own t => [t]
  | .ptr t _ => [t]
  | .ept t _ _ _ => [t]
  | .agg cs => toksL cs
  | .tup cs => toksL cs
  | .fn _ cs => toksL cs
  | .when _ v => toks v
  | _ => []
def toksL : List V → List Nat
  | [] => []
  | x :: r => toks x ++ toksL r
end
def toksF : List (Nat × V) → List Nat
  | [] => []
  | (_, v) :: r => toks v ++ toksF r
/-- The tokens that a call's contract names. -/
def callT (o : Oper) : List (Use P) → List Nat
  | u :: _ => match o.op with | .call c => (match c.callee with | .value _ => u.ts | _ => []) | _ => []
  | [] => []
def trimB : List Nat → List (Nat × Blk) → List (Nat × Blk)
  | [], _ => []
  | k :: r, hp => match lk hp k with | some b => (k, b) :: trimB r hp | none => trimB r hp
theorem trimB_sub : ∀ (ks : List Nat) (hp : List (Nat × Blk)) (i : Nat) (b : Blk), lk (trimB ks hp) i = some b → i ∈ ks ∧ lk hp i = some b
  | [], hp, i, b, h => by simp [trimB, lk] at h
  | k :: r, hp, i, b, h => by
    simp only [trimB] at h
    split at h
    · rename_i b' hb
      rw [lk_cons] at h
      split at h
      · rename_i e; subst e; exact ⟨List.mem_cons_self, by rw [hb]; exact h⟩
      · exact ⟨List.mem_cons_of_mem _ (trimB_sub r hp i b h).1, (trimB_sub r hp i b h).2⟩
    · exact ⟨List.mem_cons_of_mem _ (trimB_sub r hp i b h).1, (trimB_sub r hp i b h).2⟩

def putE : List (Nat × Blk) → List (Nat × Option Blk) → List (Nat × Blk)
  | hp, [] => hp
  | hp, (t, some b) :: r => sto (putE hp r) t b
  | hp, (t, none) :: r => del (putE hp r) t
theorem lk_putE : ∀ (e : List (Nat × Option Blk)) (t : Nat), lk (putE hp e) t = (lk e t).getD (lk hp t)
  | [], t => by simp [putE, lk]
  | (k, some b) :: r, t => by
    rw [putE, lk_sto, lk_cons, lk_putE r]
    by_cases h : k = t
    · subst h; simp
    · simp [h, Ne.symm h]
  | (k, none) :: r, t => by
    rw [putE, lk_del, lk_cons, lk_putE r]
    by_cases h : k = t
    · subst h; simp
    · simp [h, Ne.symm h]
def keysE : List (Nat × Option Blk) → List Nat
  | [] => []
  | (t, _) :: r => t :: keysE r
theorem mem_keysE : ∀ {e : List (Nat × Option Blk)} {t : Nat} {c : Option Blk}, lk e t = some c → t ∈ keysE e
  | [], t, c, h => by simp [lk] at h
  | (k, x) :: r, t, c, h => by
    rw [lk_cons] at h
    split at h
    · rename_i e; subst e; exact List.mem_cons_self
    · exact List.mem_cons_of_mem _ (mem_keysE h)

/-- The state in the text's order; of each operation the temporaries that it is told are given. -/
noncomputable def goA (P : Program) (n0 : Nat) (ops : List Oper) : List Oper → List (List Nat) → Nat → Nat → List (Nat × V) → List (Nat × Blk) → Prop → List (Use P) → List Log → Option (List (Nat × V) × List (Nat × Blk) × Prop × List Log)
  | [], _, _, _, fr, hp, p, _, lg => some (fr, hp, p, lg)
  | _ :: _, [], _, _, _, _, _, _, _ => none
  | o :: r, rs :: sp, j, tk, fr, hp, p, L, lg =>
    match stepV P n0 ops (trim rs fr) (trimB (toksF (trim rs fr) ++ callT o L) hp) tk L o with
    | some (q, L') => goA P n0 ops r sp (j + 1) (tk + 1) (putA fr o.dst q.v) (putE hp q.eff) (p ∧ q.p) L' (⟨j, o.dst, rs, toksF (trim rs fr) ++ callT o L, keysE q.eff⟩ :: lg)
    | none => none

/-- An operation's place and what it did. -/
structure Ent where
  lg : Log
  q : Qt

/-- What the operations of a set have done to a place, seen in the text's order. -/
def view {β : Type} (eff : Ent → Option β) (f : Nat → Bool) : List Ent → β → β
  | [], x => x
  | e :: r, x => view eff f r (bif f e.lg.j then (eff e).getD x else x)
def effF (t : Nat) (e : Ent) : Option (Option V) := if e.lg.dst = some t then some (some e.q.v) else none
def effH (t : Nat) (e : Ent) : Option (Option Blk) := lk e.q.eff t

section
variable {β : Type} {eff : Ent → Option β} {f g : Nat → Bool}
theorem view_agree : ∀ {es : List Ent} {x : β}, (∀ e ∈ es, (eff e).isSome → f e.lg.j = g e.lg.j) → view eff f es x = view eff g es x
  | [], x, _ => rfl
  | e :: r, x, h => by
    have e1 : (bif f e.lg.j then (eff e).getD x else x) = (bif g e.lg.j then (eff e).getD x else x) := by
      cases he : eff e with
      | none => cases f e.lg.j <;> cases g e.lg.j <;> rfl
      | some c => rw [h e List.mem_cons_self (by simp [he])]
    rw [view, view, e1]
    exact view_agree fun e' he' => h e' (List.mem_cons_of_mem _ he')
theorem view_app : ∀ (a b : List Ent) (x : β), view eff f (a ++ b) x = view eff f b (view eff f a x)
  | [], b, x => rfl
  | e :: r, b, x => by rw [List.cons_append, view, view, view_app r]
theorem view_none : ∀ {es : List Ent} {x : β}, (∀ e ∈ es, f e.lg.j = true → eff e = none) → view eff f es x = x
  | [], x, _ => rfl
  | e :: r, x, h => by
    have e1 : (bif f e.lg.j then (eff e).getD x else x) = x := by
      cases hf : f e.lg.j with
      | false => rfl
      | true => rw [h e List.mem_cons_self hf]; rfl
    rw [view, e1]; exact view_none fun e' he' => h e' (List.mem_cons_of_mem _ he')
end

/-- What each operation did, out of the evaluation. -/
structure Step (P : Program) (n0 : Nat) (ops : List Oper) (nx : Nat) (fr0 : List (Nat × V)) (hp0 : List (Nat × Blk)) (pre : List Ent) (o : Oper) (e : Ent) : Prop where
  at_ : ∃ frT hpT L L', stepV P n0 ops frT hpT (nx + e.lg.j) L o = some (e.q, L') ∧ (∀ t v, lk frT t = some v → t ∈ e.lg.rs ∧ view (effF t) (fun _ => true) pre (lk fr0 t) = some v) ∧
    (∀ t b, lk hpT t = some b → t ∈ e.lg.td ∧ view (effH t) (fun _ => true) pre (lk hp0 t) = some b)
  p : e.q.p
  dst : e.lg.dst = o.dst
  es : e.lg.es = keysE e.q.eff

theorem goA_spec {ops : List Oper} {nx : Nat} {fr0 : List (Nat × V)} {hp0 : List (Nat × Blk)} : ∀ {os : List Oper} {sp : List (List Nat)} {j : Nat} {fr : List (Nat × V)} {hp : List (Nat × Blk)} {p : Prop} {L : List (Use P)} {lg : List Log} {pre : List Ent} {fr' : List (Nat × V)} {hp' : List (Nat × Blk)} {p' : Prop} {lg' : List Log},
    goA P n0 ops os sp j (nx + j) fr hp p L lg = some (fr', hp', p', lg') → p' → pre.length = j → lg = (pre.map (·.lg)).reverse → (∀ t, lk fr t = view (effF t) (fun _ => true) pre (lk fr0 t)) → (∀ t, lk hp t = view (effH t) (fun _ => true) pre (lk hp0 t)) →
    p ∧ ∃ es, es.length = os.length ∧ lg' = ((pre ++ es).map (·.lg)).reverse ∧ (∀ t, lk fr' t = view (effF t) (fun _ => true) (pre ++ es) (lk fr0 t)) ∧ (∀ t, lk hp' t = view (effH t) (fun _ => true) (pre ++ es) (lk hp0 t)) ∧
      ∀ k o, os[k]? = some o → ∃ e, es[k]? = some e ∧ e.lg.j = j + k ∧ Step P n0 ops nx fr0 hp0 (pre ++ es.take k) o e
  | [], sp, j, fr, hp, p, L, lg, pre, fr', hp', p', lg', h, hp0', hj, hlg, hF, hH => by
    simp only [goA, Option.some.injEq, Prod.mk.injEq] at h
    obtain ⟨rfl, rfl, rfl, rfl⟩ := h
    exact ⟨hp0', [], rfl, by simpa using hlg, by simpa using hF, by simpa using hH, by simp⟩
  | o :: r, [], j, fr, hp, p, L, lg, pre, fr', hp', p', lg', h, _, _, _, _, _ => by simp [goA] at h
  | o :: r, rs :: sp, j, fr, hp, p, L, lg, pre, fr', hp', p', lg', h, hp0', hj, hlg, hF, hH => by
    simp only [goA] at h
    split at h
    · rename_i q L' hq
      let e : Ent := ⟨⟨j, o.dst, rs, toksF (trim rs fr) ++ callT o L, keysE q.eff⟩, q⟩
      have h' := goA_spec (nx := nx) (fr0 := fr0) (hp0 := hp0) (pre := pre ++ [e]) (by rw [show nx + (j + 1) = nx + j + 1 by omega]; exact h) hp0' (by simp [hj]) (by simp [hlg, e]) (fun t => ?_) (fun t => ?_)
      · obtain ⟨hpp, es, i1, i2, i3, i4, i5⟩ := h'
        refine ⟨hpp.1, e :: es, by simp [i1], by simpa using i2, by simpa using i3, by simpa using i4, fun k o' hk => ?_⟩
        cases k with
        | zero =>
          simp at hk; subst hk
          refine ⟨e, rfl, rfl, ⟨_, _, L, L', hq, fun t v ht => ?_, fun t b ht => ?_⟩, hpp.2, rfl, rfl⟩
          · refine ⟨trim_mem ht, ?_⟩
            have := trim_sub _ _ _ _ ht
            rw [hF] at this; simpa using this
          · obtain ⟨h1, h2⟩ := trimB_sub _ _ _ _ ht
            refine ⟨h1, ?_⟩
            rw [hH] at h2; simpa using h2
        | succ k =>
          obtain ⟨e', j1, j2, j3⟩ := i5 k o' (by simpa using hk)
          exact ⟨e', by simpa using j1, by omega, by simpa using j3⟩
      · rw [view_app]
        simp only [view, cond_true, effF, e]
        cases hd : o.dst with
        | none => simp [putA, hF]
        | some d =>
          simp only [putA]
          rw [lk_cons]
          by_cases hdt : d = t
          · subst hdt; simp
          · simp [hdt, hF]
      · rw [view_app]
        simp only [view, cond_true, effH, e]
        rw [lk_putE, hH]
    · cases h
theorem count_less {p p' : Nat → Bool} {i : Nat} (h1 : p i = true) (h2 : p' i = false) (h3 : ∀ k, k ≠ i → p' k = p k) : ∀ (l : List Nat), l.Nodup → i ∈ l → l.countP p = l.countP p' + 1
  | [], _, h => by cases h
  | x :: r, hn, h => by
    obtain ⟨hx, hn⟩ := List.nodup_cons.1 hn
    rw [List.countP_cons, List.countP_cons]
    rcases List.mem_cons.1 h with rfl | h
    · have : r.countP p = r.countP p' := List.countP_congr fun k hk => by rw [h3 k (fun e => hx (e ▸ hk))]
      simp [h1, h2, this]
    · have hxi : x ≠ i := fun e => hx (e ▸ h)
      rw [count_less h1 h2 h3 r hn h, h3 x hxi]; omega

end
end Go.Abs

set_option linter.unusedVariables false
set_option linter.unusedSimpArgs false
namespace Go.Abs
open Go Go.RowKit

/-! ### what an operation waits for, as the bits of a number -/
def maskOf (acc : List Nat) : List Edge → Nat → Nat
  | [], s => s
  | e :: r, s => maskOf acc r (bif Region.binds .any e then s ||| 2 ^ e.on ||| (nth acc e.on).getD 0 else s)
def masks : List Oper → List Nat → List Nat
  | [], acc => acc
  | o :: r, acc => masks r (acc ++ [maskOf acc o.after.toList 0])

theorem maskOf_bit {acc : List Nat} {i : Nat} : ∀ {l : List Edge} {s : Nat}, (maskOf acc l s).testBit i = true → s.testBit i = true ∨ ∃ e ∈ l, Region.binds .any e = true ∧ (i = e.on ∨ ((nth acc e.on).getD 0).testBit i = true)
  | [], s, h => .inl h
  | e :: r, s, h => by
    rw [maskOf] at h
    rcases maskOf_bit h with h | ⟨e', h1, h2⟩
    · cases hb : Region.binds .any e with
      | false => rw [hb] at h; exact .inl h
      | true =>
        rw [hb] at h
        simp only [cond_true, Nat.testBit_or, Bool.or_eq_true] at h
        rcases h with (h | h) | h
        · exact .inl h
        · refine .inr ⟨e, List.mem_cons_self, hb, .inl ?_⟩
          rw [Nat.testBit_two_pow] at h
          simpa using (of_decide_eq_true h).symm
        · exact .inr ⟨e, List.mem_cons_self, hb, .inr h⟩
    · exact .inr ⟨e', List.mem_cons_of_mem _ h1, h2⟩

theorem masks_listed {ops : Array Oper} {n : Nat} {listed : Array Bool} (inv : HeadInv .any ops n listed) : ∀ (os : List Oper) (acc : List Nat), (∀ k, os[k]? = ops[acc.length + k]?) →
    (∀ j mk o, nth acc j = some mk → ops[j]? = some o → (∀ e ∈ o.after, Region.binds .any e = true → listed.getD e.on false = true) → ∀ i, mk.testBit i = true → listed.getD i false = true) →
    ∀ j mk o, nth (masks os acc) j = some mk → ops[j]? = some o → (∀ e ∈ o.after, Region.binds .any e = true → listed.getD e.on false = true) → ∀ i, mk.testBit i = true → listed.getD i false = true
  | [], acc, _, h => h
  | o :: r, acc, hl, h => by
    rw [masks]
    refine masks_listed inv r _ (fun k => by
      have := hl (k + 1)
      simp only [List.getElem?_cons_succ] at this
      rw [this, List.length_append, List.length_singleton]; congr 1; omega) fun j mk oj hj hoj hall i hi => ?_
    rw [nth_eq, List.getElem?_append] at hj
    split at hj
    · exact h j mk oj (by rw [nth_eq]; exact hj) hoj hall i hi
    · rename_i hge
      have hj0 : j = acc.length := by have := (List.getElem?_eq_some_iff.1 hj).1; simp at this; omega
      subst hj0
      simp at hj
      subst hj
      have h0 := hl 0
      simp only [Nat.add_zero, List.getElem?_cons_zero] at h0
      rw [← h0] at hoj
      obtain rfl := Option.some.inj hoj
      rcases maskOf_bit hi with h1 | ⟨e, h1, h2, h3⟩
      · simp at h1
      · have hle := hall e (by simpa using h1) h2
        rcases h3 with rfl | h3
        · exact hle
        · cases hn : nth acc e.on with
          | none => rw [hn] at h3; simp at h3
          | some mk' =>
            rw [hn] at h3
            have hlt : e.on < listed.size := by
              rcases Nat.lt_or_ge e.on listed.size with hlt | hge'
              · exact hlt
              · simp [Array.getElem?_eq_none hge'] at hle
            rw [inv.size] at hlt
            have hoe : ops[e.on]? = some ops[e.on] := Array.getElem?_eq_getElem hlt
            exact h e.on mk' _ hn hoe (fun e' he' hb' => inv.closed e.on _ hoe hle e' he' hb') i h3

/-! ### two operations that meet -/
def meet (xs ys : List Nat) : Bool := xs.any ys.contains
def meetD : Option Tmp → List Nat → Bool
  | some d, ys => ys.contains d
  | none, _ => false
def clashB (a b : Log) : Bool := meet a.es b.td || meet a.es b.es || meet b.es a.td || meetD a.dst b.rs || meetD b.dst a.rs || meetD a.dst b.dst.toList
def confB (ms : List Nat) : List Log → Bool
  | [] => true
  | b :: r => r.all (fun a => !(clashB a b) || ((nth ms b.j).getD 0).testBit a.j) && confB ms r
def backL : List Oper → Nat → Bool
  | [], _ => true
  | o :: r, j => o.after.toList.all (fun e => !(Region.binds .any e) || e.on.blt j) && backL r (j + 1)
theorem backL_spec : ∀ {os : List Oper} {j0 : Nat}, backL os j0 = true → ∀ (k : Nat) (o : Oper), os[k]? = some o → ∀ e ∈ o.after, Region.binds .any e = true → e.on < j0 + k
  | [], j0, h, k, o, hk => by simp at hk
  | x :: r, j0, h, k, o, hk => by
    simp only [backL, Bool.and_eq_true] at h
    cases k with
    | zero =>
      simp at hk; subst hk
      intro e he hb
      have := List.all_eq_true.1 h.1 e (by simpa using he)
      rw [hb] at this
      simp at this
      omega
    | succ k =>
      intro e he hb
      have := backL_spec h.2 k o (by simpa using hk) e he hb
      omega
/-- Does what meets wait for one another? -/
def orderB (ops : Array Oper) (lg : List Log) : Bool := backL ops.toList 0 && confB (masks ops.toList []) lg

theorem meet_of {xs ys : List Nat} {t : Nat} (h1 : t ∈ xs) (h2 : t ∈ ys) : meet xs ys = true := List.any_eq_true.2 ⟨t, h1, by simpa using h2⟩
theorem confB_spec {ms : List Nat} : ∀ {l : List Log}, confB ms l = true → l.Pairwise (fun b a => clashB a b = true → ((nth ms b.j).getD 0).testBit a.j = true)
  | [], _ => .nil
  | b :: r, h => by
    simp only [confB, Bool.and_eq_true] at h
    refine List.pairwise_cons.2 ⟨fun a ha hc => ?_, confB_spec h.2⟩
    have := List.all_eq_true.1 h.1 a ha
    simpa [hc] using this

section
variable {β : Type} {eff : Ent → Option β} {lb : Nat → Bool} {pre post : List Ent} {e : Ent}
theorem view_ahead {x0 : β} (hj : lb e.lg.j = false) (h1 : ∀ x ∈ pre, (eff x).isSome → lb x.lg.j = true) (h2 : ∀ x ∈ post, (eff x).isSome → lb x.lg.j = false) :
    view eff lb (pre ++ e :: post) x0 = view eff (fun _ => true) pre x0 := by
  rw [view_app, view, hj, cond_false, view_none (es := post) fun x hx hl => ?_]
  · exact view_agree fun x hx hs => h1 x hx hs
  · cases he : eff x with
    | none => rfl
    | some c => have := h2 x hx (by simp [he]); rw [this] at hl; cases hl
def andB (lb : Nat → Bool) (j : Nat) (i : Nat) : Bool := lb i || i.beq j
theorem andB_self (j : Nat) : andB lb j j = true := by simp [andB]
theorem andB_ne {i j : Nat} (h : i ≠ j) : andB lb j i = lb i := by simp [andB, h]
theorem view_set {x0 c : β} (hc : eff e = some c) (h2 : ∀ x ∈ post, (eff x).isSome → lb x.lg.j = false) (hne : ∀ x ∈ post, x.lg.j ≠ e.lg.j) : view eff (andB lb e.lg.j) (pre ++ e :: post) x0 = c := by
  rw [view_app, view, andB_self, cond_true, hc, Option.getD_some]
  refine view_none fun x hx hl => ?_
  cases he : eff x with
  | none => rfl
  | some c => have := h2 x hx (by simp [he]); rw [andB_ne (hne x hx), this] at hl; cases hl
theorem view_keep {x0 : β} (hc : eff e = none) (hne1 : ∀ x ∈ pre, x.lg.j ≠ e.lg.j) (hne2 : ∀ x ∈ post, x.lg.j ≠ e.lg.j) : view eff (andB lb e.lg.j) (pre ++ e :: post) x0 = view eff lb (pre ++ e :: post) x0 := by
  refine view_agree fun x hx hs => ?_
  rcases List.mem_append.1 hx with hx | hx
  · exact andB_ne (hne1 x hx)
  · rcases List.mem_cons.1 hx with rfl | hx
    · rw [hc] at hs; cases hs
    · exact andB_ne (hne2 x hx)
end

section
variable {P : Program} {Γ : Ctx} {a : Act} {w : World} {o : Oper}

/-- What holds behind any part of the region. -/
def HInv (Γ : Ctx) (nx : Nat) (fr0 : List (Nat × V)) (hp0 : List (Nat × Blk)) (es : List Ent) (lb : Nat → Bool) (a : Act) (w : World) : Prop :=
  ∃ frS hpS m U, Rel Γ frS hpS U a w m ∧ (∀ t v, view (effF t) lb es (lk fr0 t) = some v → lk frS t = some v) ∧ (∀ t b, view (effH t) lb es (lk hp0 t) = some b → lk hpS t = some b) ∧ (∀ t, U t → t < nx ∨ ∃ i, lb i = true ∧ t = nx + i)

theorem effF_some {t : Nat} {x : Ent} (h : (effF t x).isSome) : x.lg.dst = some t := by
  unfold effF at h
  split at h
  · assumption
  · cases h

theorem HInv.step (hG : Good P Γ.F Γ.w0) {nx : Nat} {fr0 : List (Nat × V)} {hp0 : List (Nat × Blk)} {pre post : List Ent} {e : Ent} {lb : Nat → Bool} {ops : Array Oper} {K : Act → World → Prop} {Q : Exit → Act → World → Prop}
    (hI : HInv Γ nx fr0 hp0 (pre ++ e :: post) lb a w) (hS : Step P Γ.n0 ops.toList nx fr0 hp0 pre o e) (hs : ∀ x ∈ pre ++ e :: post, x.lg.es = keysE x.q.eff) (hj : lb e.lg.j = false) (hd : ∀ d, o.dst = some d → d < Γ.nt)
    (h1 : ∀ x ∈ pre, clashB x.lg e.lg = true → lb x.lg.j = true) (h2 : ∀ x ∈ post, clashB e.lg x.lg = true → lb x.lg.j = false) (hne1 : ∀ x ∈ pre, x.lg.j ≠ e.lg.j) (hne2 : ∀ x ∈ post, x.lg.j ≠ e.lg.j)
    (hK : ∀ a' w', HInv Γ nx fr0 hp0 (pre ++ e :: post) (andB lb e.lg.j) a' w' → a'.defers = a.defers → K a' w') :
    if Region.wanted o (yielded ops a.tmps) = true then o.wp P a w K Q else K (a.put o.dst undef) w := by
  obtain ⟨frS, hpS, m, U, hR, hA, hB, hE⟩ := hI
  obtain ⟨frT, hpT, L, L', hst, hfT, hhT⟩ := hS.at_
  have htk : ¬ U (nx + e.lg.j) := fun h => by
    rcases hE _ h with h | ⟨i, hi, he⟩
    · omega
    · have : i = e.lg.j := by omega
      subst this; rw [hj] at hi; cases hi
  have hes : ∀ x ∈ pre ++ e :: post, ∀ t, (effH t x).isSome → t ∈ x.lg.es := fun x hx t ht => by
    obtain ⟨c, hc⟩ := Option.isSome_iff_exists.1 ht
    rw [hs x hx]; exact mem_keysE hc
  have inpre : ∀ x ∈ pre, x ∈ pre ++ e :: post := fun x hx => List.mem_append_left _ hx
  have inpost : ∀ x ∈ post, x ∈ pre ++ e :: post := fun x hx => List.mem_append_right _ (List.mem_cons_of_mem _ hx)
  have ine : e ∈ pre ++ e :: post := List.mem_append_right _ List.mem_cons_self
  refine stepV_sound hG (fr' := frS) (hp' := hpS) hst hS.p (fun t v ht => ?_) (fun t b ht => ?_) hd hR htk fun a' w' m' hpN hN hR' hdef => hK a' w' ⟨_, hpN, m', _, hR', fun t v ht => ?_, fun t b ht => ?_, fun t ht => ?_⟩ hdef
  · obtain ⟨hrs, hv⟩ := hfT t v ht
    refine hA t v ?_
    rw [view_ahead hj]
    · exact hv
    · intro x hx hx2
      refine h1 x hx ?_
      have : meetD x.lg.dst e.lg.rs = true := by rw [effF_some hx2]; simpa [meetD] using hrs
      simp [clashB, this]
    · intro x hx hx2
      refine h2 x hx ?_
      have : meetD x.lg.dst e.lg.rs = true := by rw [effF_some hx2]; simpa [meetD] using hrs
      simp [clashB, this]
  · obtain ⟨htd, hb⟩ := hhT t b ht
    refine hB t b ?_
    rw [view_ahead hj]
    · exact hb
    · intro x hx hx2
      refine h1 x hx ?_
      have := meet_of (hes x (inpre x hx) t hx2) htd
      simp [clashB, this]
    · intro x hx hx2
      refine h2 x hx ?_
      have := meet_of (hes x (inpost x hx) t hx2) htd
      simp [clashB, this]
  · by_cases hdt : e.lg.dst = some t
    · have hc : effF t e = some (some e.q.v) := by simp [effF, hdt]
      rw [view_set hc (fun x hx hx2 => h2 x hx ?_) hne2] at ht
      · rw [hS.dst] at hdt
        rw [hdt]
        simp only [putA]
        rw [lk_cons_self]; exact ht
      · have : meetD e.lg.dst x.lg.dst.toList = true := by rw [effF_some hx2, hdt]; simp [meetD]
        simp [clashB, this]
    · have hc : effF t e = none := by simp [effF, hdt]
      rw [view_keep hc hne1 hne2] at ht
      have := hA t v ht
      rw [hS.dst] at hdt
      cases hdst : o.dst with
      | none => exact this
      | some d =>
        simp only [putA]
        rw [lk_cons_ne]
        · exact this
        · intro e'; subst e'; exact hdt hdst
  · rw [hN]
    cases hc : lk e.q.eff t with
    | some c =>
      have hc' : effH t e = some c := hc
      rw [view_set hc' (fun x hx hx2 => h2 x hx ?_) hne2] at ht
      · simpa using ht
      · have := meet_of (hes e ine t (by rw [hc']; rfl)) (hes x (inpost x hx) t hx2)
        simp [clashB, this]
    | none =>
      have hc' : effH t e = none := hc
      rw [view_keep hc' hne1 hne2] at ht
      simpa using hB t b ht
  · rcases ht with ht | rfl
    · rcases hE t ht with h | ⟨i, hi, h⟩
      · exact .inl h
      · exact .inr ⟨i, by simp [andB, hi], h⟩
    · exact .inr ⟨_, andB_self _, rfl⟩

theorem any_go (hG : Good P Γ.F Γ.w0) {ops : Array Oper} {nx : Nat} {fr0 : List (Nat × V)} {hp0 : List (Nat × Blk)} {es : List Ent} {Q : Exit → Act → World → Prop} {df : List Deferred} (hlen : es.length = ops.size)
    (hidx : ∀ (k : Nat) (o : Oper), ops[k]? = some o → ∃ e, es[k]? = some e ∧ e.lg.j = k ∧ Step P Γ.n0 ops.toList nx fr0 hp0 (es.take k) o e)
    (hconf : es.Pairwise (fun x y => clashB x.lg y.lg = true → ((nth (masks ops.toList []) y.lg.j).getD 0).testBit x.lg.j = true)) (hd : ∀ o ∈ ops.toList, ∀ d, o.dst = some d → d < Γ.nt) (hback : ∀ (j : Nat) (o : Oper), ops[j]? = some o → ∀ e ∈ o.after, Region.binds .any e = true → e.on < j)
    (hend : ∀ (lb : Nat → Bool) a w, (∀ i, i < ops.size → lb i = true) → (∀ i, lb i = true → i < ops.size) → HInv Γ nx fr0 hp0 es lb a w → a.defers = df → Q .normal a w) :
    ∀ (f : Nat) (listed : Array Bool) (a : Act) (w : World), HeadInv .any ops ops.size listed → (List.range ops.size).countP (fun i => !listed.getD i true) = f → HInv Γ nx fr0 hp0 es (fun i => listed.getD i false) a w → a.defers = df → wpAny P .any ops Q f listed a w := by
  have hat : ∀ (k : Nat) (x : Ent), es[k]? = some x → x.lg.j = k := fun k x hx => by
    have hk : k < ops.size := by rw [← hlen]; exact (List.getElem?_eq_some_iff.1 hx).1
    obtain ⟨e, h1, h2, -⟩ := hidx k _ (Array.getElem?_eq_getElem hk)
    rw [hx] at h1; obtain rfl := Option.some.inj h1; exact h2
  have hsall : ∀ x ∈ es, x.lg.es = keysE x.q.eff := fun x hx => by
    obtain ⟨k, hk⟩ := List.getElem?_of_mem hx
    have hlt : k < ops.size := by rw [← hlen]; exact (List.getElem?_eq_some_iff.1 hk).1
    obtain ⟨e, h1, h2, h3⟩ := hidx k _ (Array.getElem?_eq_getElem hlt)
    rw [hk] at h1; obtain rfl := Option.some.inj h1; exact h3.es
  intro f
  induction f with
  | zero =>
    intro listed a w inv hc hI hdf
    have hall : ∀ i, i < ops.size → listed.getD i true = true := fun i hi => by
      have := List.countP_eq_zero.1 hc i (List.mem_range.2 hi)
      simpa using this
    refine ⟨?_, hend _ a w (fun i hi => ?_) (fun i hi => ?_) hI hdf⟩
    · refine List.eq_nil_iff_forall_not_mem.2 fun i hi => ?_
      obtain ⟨h1, o, h2, -⟩ := mem_ready.1 hi
      rw [hall i (Array.getElem?_eq_some_iff.1 h2).1] at h1; cases h1
    · cases h : listed.getD i false with
      | true => rfl
      | false => have := getD_in (by rw [inv.size]; exact hi) h; rw [hall i hi] at this; cases this
    · rcases Nat.lt_or_ge i listed.size with h | h
      · rw [← inv.size]; exact h
      · simp [Array.getElem?_eq_none h] at hi
  | succ f ih =>
    intro listed a w inv hc hI hdf
    have hex : ∃ i, i < ops.size ∧ listed.getD i true = false := by
      have : 0 < (List.range ops.size).countP (fun i => !listed.getD i true) := by omega
      obtain ⟨i, hi, hp⟩ := List.countP_pos_iff.1 this
      exact ⟨i, List.mem_range.1 hi, by simpa using hp⟩
    refine ⟨fun h0 => ?_, fun i hi => ?_⟩
    · exfalso
      have key : ∀ (i : Nat), i < ops.size → listed.getD i true = false → False := by
        intro i
        induction i using Nat.strongRecOn with
        | _ i ihi =>
          intro hi hu
          have ho : ops[i]? = some ops[i] := Array.getElem?_eq_getElem hi
          have : i ∈ Region.ready .any ops listed := mem_ready.2 ⟨hu, ops[i], ho, fun e he hb => by
            have hlt := hback i _ ho e he hb
            cases hl : listed.getD e.on true with
            | false => exact (ihi e.on hlt (by omega) hl).elim
            | true =>
              have hs : e.on < listed.size := by rw [inv.size]; omega
              simp [hs] at hl ⊢; exact hl⟩
          rw [h0] at this; cases this
      obtain ⟨i, hi, hu⟩ := hex
      exact key i hi hu
    · obtain ⟨hun, o, ho, hall⟩ := mem_ready.1 hi
      have hin : i < ops.size := (Array.getElem?_eq_some_iff.1 ho).1
      obtain ⟨e, he, hej, hS⟩ := hidx i o ho
      have hil : i < es.length := by omega
      have hsplit : es = es.take i ++ e :: es.drop (i + 1) := by
        have e1 : es[i] = e := by have := (List.getElem?_eq_some_iff.1 he).2; exact this
        rw [← e1, ← List.drop_eq_getElem_cons hil, List.take_append_drop]
      have hpre : ∀ x ∈ es.take i, ∃ k, k < i ∧ es[k]? = some x := fun x hx => by
        obtain ⟨k, hk⟩ := List.getElem?_of_mem hx
        rw [List.getElem?_take] at hk
        split at hk
        · exact ⟨k, by assumption, hk⟩
        · cases hk
      have hpost : ∀ x ∈ es.drop (i + 1), ∃ k, i < k ∧ es[k]? = some x := fun x hx => by
        obtain ⟨k, hk⟩ := List.getElem?_of_mem hx
        rw [List.getElem?_drop] at hk
        exact ⟨i + 1 + k, by omega, hk⟩
      have hbit : ∀ (x y : Nat) (ex ey : Ent), x < y → es[x]? = some ex → es[y]? = some ey → clashB ex.lg ey.lg = true → ((nth (masks ops.toList []) y).getD 0).testBit x = true := fun x y ex ey hxy hx hy hcl => by
        obtain ⟨lx, e1⟩ := List.getElem?_eq_some_iff.1 hx
        obtain ⟨ly, e2⟩ := List.getElem?_eq_some_iff.1 hy
        have := List.pairwise_iff_getElem.1 hconf x y lx ly hxy (by rw [e1, e2]; exact hcl)
        rw [e1, e2, hat x ex hx, hat y ey hy] at this
        exact this
      have hml : ∀ (y x : Nat) (oy : Oper), ops[y]? = some oy → (∀ e ∈ oy.after, Region.binds .any e = true → listed.getD e.on false = true) → ((nth (masks ops.toList []) y).getD 0).testBit x = true → listed.getD x false = true := fun y x oy hoy hal hb => by
        cases hn : nth (masks ops.toList []) y with
        | none => rw [hn] at hb; simp at hb
        | some mk =>
          rw [hn] at hb
          exact masks_listed inv ops.toList [] (fun k => by simp) (fun j mk o hj => by simp [nth] at hj) y mk oy hn hoy hal x hb
      unfold wpOp
      simp only [ho]
      rw [hsplit] at hI
      have := HInv.step hG hI (o := o) (ops := ops) (K := wpAny P .any ops Q f (listed.setIfInBounds i true)) (Q := Q) hS (fun x hx => hsall x (by rw [hsplit]; exact hx)) (by rw [hej]; exact getD_both hun)
        (hd o (List.mem_of_getElem? (by rw [Array.getElem?_toList]; exact ho)))
        (fun x hx hcl => by
          obtain ⟨k, hk, hx⟩ := hpre x hx
          rw [hat k x hx]
          exact hml i k o ho hall (hbit k i x e hk hx he hcl))
        (fun x hx hcl => by
          obtain ⟨k, hk, hx⟩ := hpost x hx
          rw [hat k x hx]
          cases hl : listed.getD k false with
          | false => rfl
          | true =>
            have hks : k < ops.size := by have := (List.getElem?_eq_some_iff.1 hx).1; omega
            have hok : ops[k]? = some ops[k] := Array.getElem?_eq_getElem hks
            have := hml k i _ hok (fun e he hb => inv.closed k _ hok hl e he hb) (hbit i k e x hk he hx hcl)
            rw [getD_both hun] at this; cases this)
        (fun x hx => by obtain ⟨k, hk, hx⟩ := hpre x hx; rw [hat k x hx, hej]; omega)
        (fun x hx => by obtain ⟨k, hk, hx⟩ := hpost x hx; rw [hat k x hx, hej]; omega)
        (fun a' w' hI' hdef => ?_)
      · split
        · rename_i hw; rw [if_pos hw] at this; exact .inl this
        · rename_i hw; rw [if_neg hw] at this; exact this
      · have hsz : i < listed.size := by rw [inv.size]; omega
        refine ih _ a' w' (inv.set hi hin) ?_ ?_ (hdef.trans hdf)
        · have := count_less (p := fun k => !listed.getD k true) (p' := fun k => !(listed.setIfInBounds i true).getD k true) (i := i) (by simp [hun]) (by simp [hsz]) (fun k hk => by simp only [getD_set_ne true (Ne.symm hk)]) (List.range ops.size) List.nodup_range (List.mem_range.2 hin)
          omega
        · rw [hej, ← hsplit] at hI'
          have e : andB (fun k => listed.getD k false) i = (fun k => (listed.setIfInBounds i true).getD k false) := by
            funext k
            by_cases hk : k = i
            · subst hk; simp [andB, hsz]
            · rw [andB_ne hk, getD_set_ne false (Ne.symm hk)]
          rw [← e]; exact hI'
end

noncomputable def regD (P : Program) (n0 : Nat) (ops : List Oper) (sp : List (List Nat)) (ks : List Nat) (L : List (Use P)) (s : St) : Option (St × Prop × List Log) :=
  match goA P n0 ops ops sp 0 s.nx s.fr s.hp True L [] with
  | some (fr', hp', p, lg) => some (⟨trim ks fr', hp', s.nx + ops.length⟩, p, lg)
  | none => none

section
variable {P : Program} {nt n0 : Nat} {s : St} {φ : Exit → St → Prop}

theorem wpA_drawn {id : Nat} {ops : Array Oper} {s' : St} {p : Prop} {lg : List Log} (sp : List (List Nat)) (ks : List Nat) (L : List (Use P)) (hm : P.follows .mixedOrders = true) (hd : dstB nt ops.toList = true)
    (he : regD P n0 ops.toList sp ks L s = some (s', p, lg)) (hB : orderB ops lg = true) (hp : p) (h : φ .normal s') : WpA P nt n0 (.region id ops true) s φ := by
  unfold regD at he
  split at he
  · rename_i fr' hp' p' lg' hA
    simp only [Option.some.injEq, Prod.mk.injEq] at he
    obtain ⟨rfl, rfl, rfl⟩ := he
    intro Γ a w m h1 h2 hR hdef
    obtain ⟨h1, hG⟩ := h1
    subst h1 h2
    simp only [orderB, Bool.and_eq_true] at hB
    obtain ⟨hback, hconf⟩ := hB
    have hback : ∀ (j : Nat) (o : Oper), ops[j]? = some o → ∀ e ∈ o.after, Region.binds .any e = true → e.on < j := fun j o ho e he hb => by
      have := backL_spec hback j o (by rw [Array.getElem?_toList]; exact ho) e he hb
      omega
    obtain ⟨-, es, i1, i2, i3, i4, i5⟩ := goA_spec (nx := s.nx) (fr0 := s.fr) (hp0 := s.hp) (pre := []) (j := 0) hA hp rfl rfl (fun _ => rfl) (fun _ => rfl)
    simp only [List.nil_append, Nat.zero_add] at i2 i3 i4 i5
    have hlen : es.length = ops.size := by simpa using i1
    have hcf := confB_spec hconf
    rw [i2, List.pairwise_reverse, List.pairwise_map] at hcf
    refine wp_region_any hm ?_
    refine any_go hG (Γ := Γ) (nx := s.nx) (fr0 := s.fr) (hp0 := s.hp) (df := []) hlen (fun k o ho => i5 k o (by rw [Array.getElem?_toList]; exact ho)) hcf (dstB_spec hd) hback (fun lb a' w' hall hlb hI hdf => ?_) ops.size (Array.replicate ops.size false) a w.drew
      ⟨by simp, fun j oj _ hl => (by rw [getD_replicate_false] at hl; cases hl), fun t h1 h2 => by omega⟩ ?_ ?_ hdef
    · obtain ⟨frS, hpS, m', U, hR', iA, iB, iE⟩ := hI
      have hj : ∀ x ∈ es, lb x.lg.j = true := fun x hx => by
        obtain ⟨k, hk⟩ := List.getElem?_of_mem hx
        have hlt : k < ops.size := by rw [← hlen]; exact (List.getElem?_eq_some_iff.1 hk).1
        obtain ⟨e, h1, h2, h3⟩ := i5 k ops[k] (by rw [Array.getElem?_toList]; exact Array.getElem?_eq_getElem hlt)
        rw [hk] at h1; obtain rfl := Option.some.inj h1
        rw [h2]; exact hall k hlt
      refine ⟨_, m', h, (((hR'.forget fun t v ht => ?_).less fun t b ht => ?_).given fun t ht => ?_), hdf⟩
      · have := trim_sub _ _ _ _ ht
        rw [i3] at this
        exact iA t v ((view_agree fun x hx _ => hj x hx).trans this)
      · rw [i4] at ht
        exact iB t b ((view_agree fun x hx _ => hj x hx).trans ht)
      · simp only [Array.length_toList]
        rcases iE t ht with h0 | ⟨i, hi, rfl⟩
        · omega
        · have := hlb i hi; omega
    · rw [show (List.range ops.size).countP (fun i => !(Array.replicate ops.size false).getD i true) = (List.range ops.size).length from List.countP_eq_length.2 fun i hi => by
        have := List.mem_range.1 hi
        simp [this]]
      simp
    · refine ⟨s.fr, s.hp, m, fun t => t < s.nx, hR.drew, fun t v ht => ?_, fun t b ht => ?_, fun t ht => .inl ht⟩
      · rwa [view_none fun x hx hl => by rw [getD_replicate_false] at hl; cases hl] at ht
      · rwa [view_none fun x hx hl => by rw [getD_replicate_false] at hl; cases hl] at ht
  · cases he

theorem wpA_regD {id : Nat} {ops : Array Oper} {s' : St} {p : Prop} {lg : List Log} {y : Code} (sp : List (List Nat)) (ks : List Nat) (L : List (Use P)) (hm : P.follows .mixedOrders = true) (hd : dstB nt ops.toList = true)
    (he : regD P n0 ops.toList sp ks L s = some (s', p, lg)) (hB : orderB ops lg = true) (hp : p) (h : WpA P nt n0 y s' φ) : WpA P nt n0 (.seq (.region id ops true) y) s φ :=
  wpA_seq (wpA_drawn sp ks L hm hd he hB hp h)
end
end Go.Abs
