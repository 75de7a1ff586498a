/- What holds of a node that may be; what becomes of a record that it is given. Plain laws. No conditions. -/
import Derived.Test.YtninaiooagfjfaaGreatDoorK40
set_option linter.unusedVariables false
set_option linter.unusedSimpArgs false
set_option maxRecDepth 20000
namespace Go.Abs
open Go Go.RowKit Go.Proofs

theorem cb22' : callB Tryz.prog 22 = true := cb22
def node0 : Node := ⟨0, ⟨0, 0, ⟨0, 0, []⟩, ⟨⟨[]⟩⟩, []⟩, 0, 0, 0, 0, [], []⟩
def addV (r : Node × List Msg × Int × Int) : V := .tup [.agg (nodeV r.1), .d (msgs r.2.1), .d (i64 r.2.2.1), .d (i64 r.2.2.2)]
def failR (bad : Int) : Node × List Msg × Int × Int := (node0, [], 0, bad)
def withP (n : Node) (ps : List Peer) : Node := { n with peers := ps }
@[simp] theorem withP_hard (n : Node) (ps : List Peer) : (withP n ps).hard = n.hard := rfl
@[simp] theorem withP_peers (n : Node) (ps : List Peer) : (withP n ps).peers = ps := rfl

theorem electR_parts {n : Node} (h : electR n = true) : head19 n = false ∧ head19b n = false ∧ allTo (okPe n) n.peers.length = true := by
  simp only [electR, Bool.and_eq_true, Bool.not_eq_true'] at h
  exact ⟨h.1, h.2.1, h.2.2⟩
theorem electR_wal {n : Node} (h : electR n = true) : walR n.hard = true := e19 (electR_parts h).1
theorem electR_shaped {n : Node} (h : electR n = true) : shaped n.hard = true := walR_shaped (electR_wal h)
theorem electR_peer {n : Node} (h : electR n = true) {j : Nat} (hj : j < n.peers.length) : (1 ≤ (pAt n.peers j).id ∧ (pAt n.peers j).id ≤ 9) ∧ (pAt n.peers j).id ≠ n.id ∧ (0 < j → (pAt n.peers (j - 1)).id < (pAt n.peers j).id) ∧
    (1 ≤ (pAt n.peers j).next ∧ (pAt n.peers j).next ≤ (lastF n.hard.log).1 + 1) ∧ (0 ≤ (pAt n.peers j).mtch ∧ (pAt n.peers j).mtch ≤ (pAt n.peers j).next - 1) := by
  have := all_spec (electR_parts h).2.2 hj
  simp [okPe, inB] at this
  obtain ⟨⟨⟨⟨h1, h2⟩, h3⟩, h4⟩, h5⟩ := this
  exact ⟨h1, h2, fun h => h3.resolve_left (by omega), h4, h5⟩
theorem electR_id {n : Node} (h : electR n = true) : 1 ≤ n.id ∧ n.id ≤ 9 := by
  have := (electR_parts h).1
  simp [head19, inB] at this
  exact this.1.1.1.1.1.1
theorem rise_ge {n : Node} (h : electR n = true) : ∀ j, j < n.peers.length → (j : Int) + 1 ≤ (pAt n.peers j).id
  | 0, hj => by have := (electR_peer h hj).1.1; omega
  | j + 1, hj => by
    have h1 := rise_ge h j (by omega)
    have h2 := (electR_peer h hj).2.2.1 (by omega)
    simp at h2; omega
theorem electR_few {n : Node} (h : electR n = true) : n.peers.length ≤ 9 := by
  rcases Nat.lt_or_ge 9 n.peers.length with h9 | h9
  · have h1 := rise_ge h 9 h9
    have h2 := (electR_peer h h9).1.2
    omega
  · exact h9
theorem mem_pAt {l : List Peer} {p : Peer} (h : p ∈ l) : ∃ j, j < l.length ∧ p = pAt l j := by
  obtain ⟨j, hj, rfl⟩ := List.getElem_of_mem h
  exact ⟨j, hj, (pAt_get hj).symm⟩
theorem last_small {h : Hard} (hs : shaped h = true) : 0 ≤ lastP h.log ∧ lastP h.log ≤ 1073742024 ∧ (lastF h.log).1 = lastP h.log := by
  have h1 := (shaped_parts hs).2.2.1
  have h2 := (shaped_parts hs).2.2.2.2.1
  refine ⟨?_, ?_, by rw [lastF, if_pos (shaped_log hs)]⟩
  · unfold lastP; omega
  · unfold lastP; omega
theorem electR_mem {n : Node} (h : electR n = true) : ∀ p ∈ n.peers, (1 ≤ p.id ∧ p.id ≤ 9) ∧ (1 ≤ p.next ∧ p.next ≤ 2000000000) := fun p hp => by
  obtain ⟨j, hj, rfl⟩ := mem_pAt hp
  have h1 := electR_peer h hj
  have h2 := last_small (electR_shaped h)
  exact ⟨h1.1, h1.2.2.2.1.1, by omega⟩

theorem parse_right {s : ByteArray} {l : List Int} (h : parse s = some l) : right l = true := by
  unfold parse at h
  cases hp : pz s.data.toList with
  | none => rw [hp] at h; cases h
  | some ds =>
    rw [hp] at h
    simp only [Option.bind_some] at h
    split at h
    · rename_i hr; obtain rfl := Option.some.inj h; exact hr
    · cases h
theorem parse_few (s : ByteArray) : ((parse s).getD []).length ≤ 7 := by
  cases h : parse s with
  | none => simp
  | some l => have := right_small (parse_right h); simpa using this.2
theorem votersOf_few {h : Hard} (hs : shaped h = true) : (votersOf h).1.length ≤ 7 := by
  have hv := (shaped_parts hs).2.2.2.2.2.1
  have : ∀ j, (ofU h j).1.length ≤ 7 := by
    intro j
    induction j with
    | zero => exact hv
    | succ j ih =>
      rw [ofU]
      split
      · exact parse_few _
      · exact ih
  exact this _
theorem right_range {l : List Int} (h : right l = true) : ∀ x ∈ l, 1 ≤ x ∧ x ≤ 9 := fun x hx => by
  obtain ⟨j, hj, rfl⟩ := List.getElem_of_mem hx
  simp only [right, Bool.and_eq_true] at h
  have := all_spec h.1 hj
  simp [okV, iAt_get hj] at this
  omega

/-- What a node makes of a record. -/
def confF (n : Node) (text : ByteArray) : Bool :=
  decide ((if (parse text).isSome = true then (0 : Int) else 160) ≠ 0) || !(nextF (votersOf n.hard).1 ((parse text).getD [])) || !(((parse text).getD []).contains n.id) || decide (n.commit < (votersOf n.hard).2) || decide ((termF n.hard.log n.commit).1 ≠ n.hard.term)
def badF (n : Node) (kind : Int) (text : ByteArray) : Bool := !(electR n) || decide (kind < 0) || decide (2 < kind) || decide (8192 < (text.size : Int))
def newF (n : Node) (kind : Int) (text : ByteArray) : Node := addR n ⟨n.hard.term, kind, text⟩
def doneF (m : Node) : Node × List Msg × Int × Int := (sureN m, (sureN m).peers.map (sendF (sureN m)), (lastF (sureN m).hard.log).1, 0)
def turnF (m : Node) (l : List Int) : Node := withP m (peersF l m.id (lastF m.hard.log).1 m.peers)
def addF (n : Node) (kind : Int) (text : ByteArray) : Node × List Msg × Int × Int :=
  if badF n kind text = true then failR 1
  else if n.role ≠ 2 then failR 171
  else if kind = 2 then
    if confF n text = true then failR 160
    else if walR (newF n kind text).hard = false then failR 130
    else doneF (turnF (newF n kind text) ((parse text).getD []))
  else if walR (newF n kind text).hard = false then failR 130
  else doneF (newF n kind text)
theorem sureN_hard (n : Node) : (sureN n).hard = n.hard := by unfold sureN; split <;> rfl
theorem sureN_peers (n : Node) : (sureN n).peers = n.peers := by unfold sureN; split <;> rfl
theorem peersF_len (l : List Int) (self next : Int) (old : List Peer) : (peersF l self next old).length ≤ l.length + old.length := by
  rw [peersF, List.length_map, keysM_eq, sorted_len]
  have := kM_len (mF l self next old); have := mB_len (mA l self next l.length) old old.length; have := mA_len l self next l.length
  unfold mF at *; omega
theorem getP_mB_from (M : List (Int × Peer)) (old : List Peer) (x : Int) (p : Peer) : ∀ j, j ≤ old.length → getP (mB M old j) x = some p → getP M x = some p ∨ p ∈ old
  | 0, _, h => .inl h
  | j + 1, hj, h => by
    rw [mB] at h
    split at h
    · rw [getP] at h
      split at h
      · obtain rfl := Option.some.inj h; exact .inr (pAt_mem (by omega))
      · exact getP_mB_from M old x p j (by omega) h
    · exact getP_mB_from M old x p j (by omega) h
theorem peersF_mem {l : List Int} {self next : Int} {old : List Peer} {p : Peer} (h : p ∈ peersF l self next old) : p ∈ old ∨ ∃ x ∈ l, x ≠ self ∧ p = ⟨x, next, 0⟩ := by
  obtain ⟨x, hx, rfl⟩ := List.mem_map.1 h
  have h1 := (mem_keysM _ x).1 hx
  obtain ⟨q, hq⟩ := Option.isSome_iff_exists.1 h1
  have e : pG (mF l self next old) x = q := by rw [pG, hq]; rfl
  rw [e]
  rcases getP_mB_from _ _ _ _ _ (Nat.le_refl _) hq with h2 | h2
  · rw [getP_mA _ _ _ _ _ (Nat.le_refl _), List.take_length] at h2
    split at h2
    · rename_i hc; exact .inr ⟨x, hc.1, hc.2, (Option.some.inj h2).symm⟩
    · cases h2
  · exact .inl h2
/-- A node behind which all may be sent. -/
structure Able (n : Node) : Prop where
  sh : shaped n.hard = true
  few : n.peers.length ≤ 20
  nx : ∀ p ∈ n.peers, 1 ≤ p.next ∧ p.next ≤ 2000000000
theorem able_new {n : Node} {kind : Int} {text : ByteArray} (h : electR n = true) (hw : walR (newF n kind text).hard = true) : Able (newF n kind text) :=
  ⟨walR_shaped hw, by have := electR_few h; show n.peers.length ≤ 20; omega, fun p hp => (electR_mem h p hp).2⟩
theorem able_turn {n : Node} {kind : Int} {text : ByteArray} {l : List Int} (h : electR n = true) (hw : walR (newF n kind text).hard = true) (hl : l.length ≤ 7) : Able (turnF (newF n kind text) l) := by
  have hb := last_small (walR_shaped hw)
  have hp : ((newF n kind text)).peers = n.peers := rfl
  refine ⟨walR_shaped hw, ?_, fun p hp => ?_⟩
  · have := peersF_len l (newF n kind text).id (lastF (newF n kind text).hard.log).1 (newF n kind text).peers
    have := electR_few h
    show (peersF _ _ _ _).length ≤ 20
    rw [hp] at *; omega
  · rcases peersF_mem hp with h1 | ⟨x, _, _, rfl⟩
    · exact (electR_mem h p h1).2
    · have hsh := walR_log hw
      have h9 : 1 ≤ (lastF (newF n kind text).hard.log).1 := by
        rw [lastF, if_pos hsh]
        show 1 ≤ n.hard.log.base + ((n.hard.log.recs ++ [_]).length : Nat)
        have := (shaped_parts (electR_shaped h)).2.2.1
        simp; omega
      exact ⟨h9, by show (lastF (newF n kind text).hard.log).1 ≤ _; omega⟩
theorem Able.sure {n : Node} (h : Able n) : Able (sureN n) := ⟨by rw [sureN_hard]; exact h.sh, by rw [sureN_peers]; exact h.few, by rw [sureN_peers]; exact h.nx⟩
end Go.Abs
