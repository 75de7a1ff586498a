/- What a node makes of a record: both texts say the same. Plain laws. No conditions. -/
import Derived.Test.YtninaiooagfjfaaGreatDoorK45
set_option linter.unusedVariables false
set_option linter.unusedSimpArgs false
set_option maxRecDepth 20000
namespace Go.Abs
open Go Go.RowKit Go.Proofs

theorem all_true {ok : Nat → Bool} (n : Nat) (h : ∀ j, ok j = true) : allTo ok n = true := List.all_eq_true.2 fun j _ => h j
theorem likeI_refl (l : List Int) : likeI l l = true := by
  rw [likeI, all_true _ (fun j => by simp [okLI])]; simp
theorem likeR_refl (l : List Rec) : likeR l l = true := by
  rw [likeR, all_true _ (fun j => by simp [okLR, recEq])]; simp
theorem likeH_refl (h : Hard) : likeH h h = true := by
  rw [likeH, all_true _ (fun j => by simp [okLR, recEq])]
  simp [headH, likeI_refl]
theorem likeN_refl (n : Node) : likeN n n = true := by
  rw [likeN, all_true _ (fun j => by simp [okLP, peerEq])]
  simp [headN, likeI_refl, likeH_refl]
theorem likeM_refl (l : List Msg) : likeM l l = true := by
  rw [likeM, all_true _ (fun j => by simp [okLM, likeI_refl, likeR_refl])]
  simp

/-! ### peers -/
theorem right_rise {l : List Int} (h : right l = true) : l.Pairwise (· < ·) := by
  have hs : ∀ j, j + 1 < l.length → iAt l j < iAt l (j + 1) := fun j hj => by
    simp only [right, Bool.and_eq_true] at h
    have := all_spec h.1 hj
    simp [okV] at this
    have h2 := this.2
    omega
  have hlt : ∀ (d j : Nat), j + d + 1 < l.length → iAt l j < iAt l (j + d + 1) := by
    intro d
    induction d with
    | zero => intro j hj; exact hs j hj
    | succ d ih => intro j hj; exact Int.lt_trans (ih j (by omega)) (hs (j + d + 1) hj)
  rw [List.pairwise_iff_getElem]
  intro i j hi hj hij
  have := hlt (j - i - 1) i (by omega)
  rw [show i + (j - i - 1) + 1 = j by omega] at this
  rwa [iAt_get hi, iAt_get hj] at this
theorem rise_nodup {l : List Int} (h : l.Pairwise (· < ·)) : l.Nodup := h.imp fun {a b} hab e => by omega
theorem rise_sorted {l : List Int} (h : l.Pairwise (· < ·)) : sorted l = l := by
  unfold sorted
  exact List.mergeSort_of_pairwise (h.imp fun {a b} hab => by simp; omega)
theorem keys_law {l : List Int} (self next : Int) (old : List Peer) (h : l.Pairwise (· < ·)) : keysM (encQ (mF l self next old)) = l.filter (fun x => !decide (x = self)) := by
  rw [keysM_eq]
  have hp : (kM (mF l self next old)).Perm (l.filter fun x => !decide (x = self)) := by
    refine (List.perm_ext_iff_of_nodup (nodup_kM _) ((rise_nodup h).filter _)).2 fun x => ?_
    rw [mem_kM, mF, getP_mB, getP_mA _ _ _ _ _ (Nat.le_refl _), List.take_length, List.mem_filter]
    by_cases hc : x ∈ l ∧ x ≠ self
    · rw [if_pos hc]; simp [hc.1, hc.2]
    · rw [if_neg hc]
      simp
      intro h1
      by_cases h2 : x = self
      · exact h2
      · exact absurd ⟨h1, h2⟩ hc
  have e : sorted (kM (mF l self next old)) = sorted (l.filter fun x => !decide (x = self)) := mergeSort_of_perm_i hp
  rw [e]
  exact rise_sorted (h.filter _)
def oldP (next : Int) (old : List Peer) (v : Int) : Peer := if 0 ≤ pIdx old v then pAt old (pIdx old v).toNat else ⟨v, next, 0⟩
theorem rP_eq (l : List Int) (self next : Int) (old : List Peer) : ∀ j, j ≤ l.length → rP l self next old j = ((l.take j).filter fun x => !decide (x = self)).map (oldP next old)
  | 0, _ => rfl
  | j + 1, h => by
    rw [rP, rP_eq l self next old j (by omega), List.take_succ_eq_append_getElem (by omega), List.filter_append, List.map_append, rStep, iAt_get (by omega)]
    congr 1
    by_cases hs : l[j] = self
    · simp [hs]
    · rw [if_neg hs]
      simp only [List.filter_cons, hs, decide_false, Bool.not_false, if_true, List.filter_nil, List.map_cons, List.map_nil, oldP]
      split <;> rfl
/-- No two peers are of one number. -/
def Apart (old : List Peer) : Prop := ∀ i j, i < old.length → j < old.length → (pAt old i).id = (pAt old j).id → i = j
theorem pIdx_no {l : List Peer} {x : Int} (h : ¬ 0 ≤ pIdx l x) : ∀ j, j < l.length → (pAt l j).id ≠ x := fun j hj e => by
  unfold pIdx firstNo at h
  cases hf : (List.range l.length).find? (fun j => !okP l x j) with
  | none =>
    have := List.find?_eq_none.1 hf j (List.mem_range.2 hj)
    simp [okP, e] at this
  | some k => rw [hf] at h; simp at h
theorem getP_no (M : List (Int × Peer)) (old : List Peer) (x : Int) : ∀ j, (∀ i, i < j → (pAt old i).id ≠ x) → getP (mB M old j) x = getP M x
  | 0, _ => rfl
  | j + 1, h => by
    have ih := getP_no M old x j fun i hi => h i (by omega)
    rw [mB]
    split
    · rw [getP, if_neg (fun e => h j (Nat.lt_succ_self _) e.symm)]; exact ih
    · exact ih
theorem getP_yes (M : List (Int × Peer)) (old : List Peer) {i : Nat} (hM : (getP M (pAt old i).id).isSome = true) : ∀ j, i < j → (∀ k, i < k → k < j → (pAt old k).id ≠ (pAt old i).id) → getP (mB M old j) (pAt old i).id = some (pAt old i)
  | 0, h, _ => absurd h (Nat.not_lt_zero _)
  | j + 1, h, hk => by
    by_cases e : i = j
    · subst e
      rw [mB, if_pos (by rw [getP_mB]; exact hM), getP, if_pos rfl]
    · have ih := getP_yes M old hM j (by omega) fun k h1 h2 => hk k h1 (by omega)
      rw [mB]
      split
      · rw [getP, if_neg (fun e2 => hk j (by omega) (Nat.lt_succ_self _) e2.symm)]; exact ih
      · exact ih
theorem peers_law {l : List Int} (self next : Int) {old : List Peer} (h : right l = true) (ha : Apart old) : peersF l self next old = rP l self next old l.length := by
  rw [peersF, keys_law self next old (right_rise h), rP_eq _ _ _ _ _ (Nat.le_refl _), List.take_length]
  refine List.map_congr_left fun x hx => ?_
  rw [List.mem_filter] at hx
  have hx2 : x ≠ self := by simpa using hx.2
  have hA : getP (mA l self next l.length) x = some ⟨x, next, 0⟩ := by
    rw [getP_mA _ _ _ _ _ (Nat.le_refl _), List.take_length, if_pos ⟨hx.1, hx2⟩]
  unfold pG oldP
  by_cases hp : 0 ≤ pIdx old x
  · obtain ⟨h1, h2⟩ := pIdx_lt hp
    rw [if_pos hp]
    have := getP_yes (mA l self next l.length) old (i := (pIdx old x).toNat) (by rw [h2, hA]; rfl) old.length h1 fun k h3 h4 e => by
      have := ha k _ h4 h1 e
      omega
    rw [h2] at this
    rw [mF, this]; rfl
  · rw [if_neg hp, mF, getP_no _ _ _ _ (pIdx_no hp), hA]; rfl
theorem electR_apart {n : Node} (h : electR n = true) : Apart n.peers := by
  have hlt : ∀ (d j : Nat), j + d + 1 < n.peers.length → (pAt n.peers j).id < (pAt n.peers (j + d + 1)).id := by
    intro d
    induction d with
    | zero => intro j hj; have := (electR_peer h hj).2.2.1 (by omega); simpa using this
    | succ d ih =>
      intro j hj
      have h1 := ih j (by omega)
      have h2 := (electR_peer h hj).2.2.1 (by omega)
      simp only [Nat.add_sub_cancel] at h2
      exact Int.lt_trans h1 (by simpa [Nat.add_assoc] using h2)
  intro i j hi hj e
  rcases Nat.lt_trichotomy i j with hij | hij | hij
  · have := hlt (j - i - 1) i (by omega)
    rw [show i + (j - i - 1) + 1 = j by omega] at this; omega
  · exact hij
  · have := hlt (i - j - 1) j (by omega)
    rw [show j + (i - j - 1) + 1 = i by omega] at this; omega

/-! ### terms, what is sure, what is sent -/
theorem term_law {l : Lg} {x : Int} (hl : logR l = true) : ((termF l x).2 = true ∧ (termF l x).1 = term15 l x) ∨ ((termF l x).2 = false ∧ (termF l x).1 = 0 ∧ term15 l x = -1) := by
  rw [termF, if_pos hl]
  unfold viewT term15
  by_cases h1 : x = l.base
  · simp [h1]
  · by_cases h2 : l.base < x ∧ x ≤ lastP l
    · left
      rw [if_neg h1, if_pos h2, if_neg h1, if_neg (by omega)]
      exact ⟨rfl, rfl⟩
    · right
      rw [if_neg h1, if_neg h2, if_neg h1, if_pos (by omega)]
      exact ⟨rfl, rfl, rfl⟩
theorem term_in {l : Lg} {x : Int} (hl : logR l = true) (h1 : l.base ≤ x) (h2 : x ≤ lastP l) : (termF l x).1 = term15 l x := by
  rcases term_law (x := x) hl with h | ⟨_, _, h⟩
  · exact h.2
  · unfold term15 at h
    rw [termF, if_pos hl]
    unfold viewT term15
    by_cases h3 : x = l.base
    · simp [h3]
    · rw [if_neg h3, if_pos (by omega), if_neg h3, if_neg (by omega)]
theorem sure_eq {n : Node} (h : shaped n.hard = true) : sureN n = sureR n := by
  have hl := shaped_log h
  have hls := last_small h
  have hq : sureQ (votersOf n.hard).1 n.id (lastF n.hard.log).1 n.peers = refSure (votersOf n.hard).1 n.id (lastP n.hard.log) n.peers := by
    rw [sure_law, want, if_pos (by omega), hls.2.2]
  have ht := (shaped_parts h).1.1
  rw [sureN, sureR, hq]
  have hc : (((termF n.hard.log (refSure (votersOf n.hard).1 n.id (lastP n.hard.log) n.peers)).2 && decide (n.commit < refSure (votersOf n.hard).1 n.id (lastP n.hard.log) n.peers)) && decide ((termF n.hard.log (refSure (votersOf n.hard).1 n.id (lastP n.hard.log) n.peers)).1 = n.hard.term)) =
      (decide (n.commit < refSure (votersOf n.hard).1 n.id (lastP n.hard.log) n.peers) && decide (term15 n.hard.log (refSure (votersOf n.hard).1 n.id (lastP n.hard.log) n.peers) = n.hard.term)) := by
    rcases term_law (x := refSure (votersOf n.hard).1 n.id (lastP n.hard.log) n.peers) hl with ⟨h1, h2⟩ | ⟨h1, h2, h3⟩
    · rw [h1, h2]; simp
    · rw [h1, h3]
      have : decide ((-1 : Int) = n.hard.term) = false := by simp; omega
      rw [this]; simp
  rw [hc]
theorem behind_eq {l : Lg} {x : Int} (hl : logR l = true) (h2 : x ≤ lastP l) : behindF l x = behindR l x := by
  unfold behindF behindR behT
  by_cases h1 : x < l.base
  · rw [if_pos (by simp [h1]), if_pos h1]
  · rw [if_neg (by simp [hl]; omega), if_neg h1, List.take_length]
theorem send_eq {n : Node} {p : Peer} (h : shaped n.hard = true) (hp : p.next ≤ lastP n.hard.log + 1) : sendF n p = oneR n p := by
  have hl := shaped_log h
  unfold sendF oneR
  by_cases h1 : p.next ≤ n.hard.log.base
  · rw [if_pos h1, if_pos h1]
  · rw [if_neg h1, if_neg h1, term_in hl (by omega) (by omega), behind_eq hl (by omega)]
theorem done_eq {m : Node} (h : shaped m.hard = true) (hp : ∀ p ∈ m.peers, p.next ≤ lastP m.hard.log + 1) : (sureN m, (sureN m).peers.map (sendF (sureN m))) = (sureR m, (sureR m).peers.map (oneR (sureR m))) := by
  rw [sure_eq h]
  congr 1
  refine List.map_congr_left fun p hp2 => ?_
  rw [sureR_peers] at hp2
  exact send_eq (by rw [sureR_hard]; exact h) (by rw [sureR_hard]; exact hp p hp2)

/-! ### which voters may follow -/
theorem inL_eq (l : List Int) (x : Int) : inL l x = l.contains x := by
  rw [Bool.eq_iff_iff, List.contains_iff_mem]
  unfold inL
  constructor
  · intro h
    have h : allTo (okIn l x) l.length = false := by simpa using h
    obtain ⟨j, hj, h2⟩ := List.all_eq_false.1 h
    have hj := List.mem_range.1 hj
    simp [okIn] at h2
    rw [h2]; exact iAt_mem hj
  · intro h
    obtain ⟨j, hj, rfl⟩ := List.getElem_of_mem h
    rw [all_no hj (by simp [okIn, iAt_get hj])]; rfl
theorem miss_eq (a b : List Int) : missA a b a.length = a.length - sameL a b := by
  unfold missA sameL
  rw [List.take_length]
  have h1 : a.countP (fun x => !inL b x) = a.countP (fun x => !b.contains x) := by simp only [inL_eq]
  have h2 : (a.filter b.contains).length = a.countP b.contains := List.countP_eq_length_filter.symm
  have h3 : a.length = a.countP b.contains + a.countP (fun x => !b.contains x) := by
    have := List.length_eq_countP_add_countP (l := a) b.contains
    rw [this]
    congr 1
    refine List.countP_congr fun x _ => ?_
    simp
  rw [h1, h2]; omega
theorem same_comm {a b : List Int} (ha : a.Nodup) (hb : b.Nodup) : sameL a b = sameL b a := by
  unfold sameL
  have : (a.filter b.contains).Perm (b.filter a.contains) := (List.perm_ext_iff_of_nodup (ha.filter _) (hb.filter _)).2 fun x => by
    rw [List.mem_filter, List.mem_filter, List.contains_iff_mem, List.contains_iff_mem]; exact and_comm
  rw [this.length_eq]
theorem next_eq (a b : List Int) : nextF a b = next16 a b := by
  unfold nextF next16
  cases ha : right a with
  | false => rfl
  | true =>
    cases hb : right b with
    | false => rfl
    | true =>
      have h3 := same_comm (rise_nodup (right_rise ha)) (rise_nodup (right_rise hb))
      rw [miss_eq, miss_eq, ← h3]
      simp only [Bool.true_and]
      congr 1
      rw [eq_iff_iff]; omega

/-! ### the law -/
theorem electR_commit {n : Node} (h : electR n = true) : n.hard.log.base ≤ n.commit ∧ n.commit ≤ lastP n.hard.log := by
  have := (electR_parts h).2.1
  have hl := last_small (electR_shaped h)
  simp [head19b, inB] at this
  omega
theorem conf_eq {n : Node} (h : electR n = true) (text : ByteArray) : confF n text = conf10 n 2 text := by
  have hc := electR_commit h
  have ht := term_in (shaped_log (electR_shaped h)) hc.1 hc.2
  unfold confF conf10
  rw [ht, b39_eq]
  cases hp : (parse text).isSome with
  | false => simp
  | true =>
    rw [l39_eq (by rw [b39_eq]; exact hp), next_eq, inL_eq]
    simp
theorem turn_eq {m : Node} {l : List Int} (hs : shaped m.hard = true) (hl : right l = true) (ha : Apart m.peers) : turnF m l = turnR m l := by
  unfold turnF turnR
  rw [(last_small hs).2.2, peers_law _ _ hl ha]
theorem new_last (n : Node) (kind : Int) (text : ByteArray) : lastP (newF n kind text).hard.log = lastP n.hard.log + 1 := by
  show n.hard.log.base + ((n.hard.log.recs ++ [_]).length : Nat) = n.hard.log.base + n.hard.log.recs.length + 1
  simp; omega
theorem electR_next {n : Node} (h : electR n = true) : ∀ p ∈ n.peers, p.next ≤ lastP n.hard.log + 1 := fun p hp => by
  obtain ⟨j, hj, rfl⟩ := mem_pAt hp
  have h1 := (electR_peer h hj).2.2.2.1.2
  rw [(last_small (electR_shaped h)).2.2] at h1
  exact h1
theorem doneF_eq {m : Node} (h : shaped m.hard = true) (hp : ∀ p ∈ m.peers, p.next ≤ lastP m.hard.log + 1) : doneF m = doneR m := by
  have h1 := done_eq h hp
  have h2 : (lastF (sureN m).hard.log).1 = lastP (sureR m).hard.log := by rw [sureN_hard, sureR_hard, (last_small h).2.2]
  have h3 := congrArg Prod.fst h1
  have h4 := congrArg Prod.snd h1
  simp only at h3 h4
  rw [doneF, doneR, h2, h4, h3]
theorem add_law {n : Node} (kind : Int) (text : ByteArray) (h : electR n = true) : addF n kind text = addR18 n kind text := by
  have hb : badF n kind text = bad10 kind text := by simp [badF, bad10, h]
  unfold addF addR18
  rw [hb]
  split
  · rfl
  · split
    · rfl
    · by_cases hk : kind = 2
      · subst hk
        rw [if_pos rfl, conf_eq h]
        split
        · rfl
        · rename_i hc
          split
          · rfl
          · rename_i hw
            have hw : walR (newF n 2 text).hard = true := by simpa using hw
            rw [if_pos rfl]
            have hb39 := conf10_right rfl (by simpa using hc)
            have hl := l39_eq hb39
            have hr : right ((parse text).getD []) = true := by
              rw [b39_eq] at hb39
              obtain ⟨l, hl⟩ := Option.isSome_iff_exists.1 hb39
              rw [hl]; exact parse_right hl
            have hsh := walR_shaped hw
            rw [hl, turn_eq hsh hr (show Apart n.peers from electR_apart h)]
            refine doneF_eq hsh fun p hp => ?_
            show p.next ≤ lastP (newF n 2 text).hard.log + 1
            rcases rP_mem hp with h1 | ⟨x, rfl⟩
            · have := electR_next h p h1
              rw [new_last]; omega
            · show lastP (newF n 2 text).hard.log ≤ _; omega
      · rw [if_neg hk]
        have hc : conf10 n kind text = false := by simp [conf10, hk]
        rw [hc, if_neg (show ¬ (false = true) by simp)]
        by_cases hw0 : walR (newF n kind text).hard = false
        · rw [if_pos hw0, if_pos hw0]
        · have hw : walR (newF n kind text).hard = true := by simpa using hw0
          rw [if_neg hw0, if_neg hw0, if_neg hk]
          refine doneF_eq (walR_shaped hw) fun p hp => ?_
          have := electR_next h p hp
          rw [new_last]; omega
theorem add_bad {n : Node} (kind : Int) (text : ByteArray) (h : electR n = false) : addF n kind text = failR 1 := by
  rw [addF, if_pos (by simp [badF, h])]
end Go.Abs
