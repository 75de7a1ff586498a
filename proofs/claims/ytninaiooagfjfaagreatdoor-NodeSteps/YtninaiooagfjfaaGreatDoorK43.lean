/- Which nodes may be: both texts say the same; the reference's peers. Plain laws. No conditions. -/
import Derived.Test.YtninaiooagfjfaaGreatDoorK42
set_option linter.unusedVariables false
set_option linter.unusedSimpArgs false
set_option maxRecDepth 20000
namespace Go.Abs
open Go Go.RowKit Go.Proofs

theorem last_eq {n : Node} (hw : walR n.hard = true) : (lastF n.hard.log).1 = lastP n.hard.log := by rw [lastF, if_pos (walR_log hw)]
theorem elect_law (n : Node) : electR n = refR n := by
  cases hw : walR n.hard with
  | false => simp [electR, refR, head19, head7, hw]
  | true =>
    have hl := last_eq hw
    have ho : allTo (okPe n) n.peers.length = allTo (okPr n) n.peers.length := all_ext fun k hk _ => by rw [okPe, okPr, hl]
    rw [electR, refR, ho, head19, head19b, head7, head7b, hl, hw]
    rw [Bool.eq_iff_iff]
    simp [inB]
    constructor
    · rintro ⟨⟨⟨⟨⟨⟨h1, h2⟩, h3⟩, h4⟩, h5⟩, h6⟩, ⟨h7, h8⟩, h9⟩
      exact ⟨⟨h1, h2⟩, ⟨⟨⟨⟨h3, h4.imp (fun h => by omega) id⟩, h5⟩, h6⟩, h8⟩, h9, h7⟩
    · rintro ⟨⟨h1, h2⟩, ⟨⟨⟨⟨h3, h4⟩, h5⟩, h6⟩, h8⟩, h9, h7⟩
      exact ⟨⟨⟨⟨⟨⟨h1, h2⟩, h3⟩, h4.imp (fun h => by omega) id⟩, h5⟩, h6⟩, ⟨h7, h8⟩, h9⟩

theorem pIdx_lt {l : List Peer} {x : Int} (h : 0 ≤ pIdx l x) : (pIdx l x).toNat < l.length ∧ (pAt l (pIdx l x).toNat).id = x := by
  unfold pIdx firstNo at h ⊢
  cases hf : (List.range l.length).find? (fun j => !okP l x j) with
  | none => rw [hf] at h; simp at h
  | some j =>
    have h1 := List.mem_range.1 (List.mem_of_find?_eq_some hf)
    have h2 := List.find?_some hf
    refine ⟨by simpa using h1, ?_⟩
    simpa [okP] using h2
/-- What the reference says of one voter's peer. -/
def rStep (l : List Int) (self next : Int) (old : List Peer) (j : Nat) : List Peer :=
  if iAt l j = self then [] else if 0 ≤ pIdx old (iAt l j) then [pAt old (pIdx old (iAt l j)).toNat] else [⟨iAt l j, next, 0⟩]
def rP (l : List Int) (self next : Int) (old : List Peer) : Nat → List Peer
  | 0 => []
  | j + 1 => rP l self next old j ++ rStep l self next old j
theorem rP_zero (l : List Int) (self next : Int) (old : List Peer) : rP l self next old 0 = [] := rfl
theorem rP_len (l : List Int) (self next : Int) (old : List Peer) : ∀ j, (rP l self next old j).length ≤ j
  | 0 => Nat.le_refl _
  | j + 1 => by
    rw [rP, List.length_append]
    have := rP_len l self next old j
    have h2 : (rStep l self next old j).length ≤ 1 := by
      unfold rStep
      split
      · simp
      · split <;> simp
    omega
section
variable {l : List Int} {self next : Int} {old : List Peer} {j : Nat}
theorem rP_old (h : (decide (iAt l j ≠ self) && decide (pIdx old (iAt l j) ≥ 0)) = true) : (rP l self next old (j + 1)).map encPeer = (rP l self next old j).map encPeer ++
    [[.lit (.int .i64 (pAt old (pIdx old (iAt l j)).toNat).id), .lit (.int .i64 (pAt old (pIdx old (iAt l j)).toNat).next), .lit (.int .i64 (pAt old (pIdx old (iAt l j)).toNat).mtch)]] := by
  simp at h
  rw [rP, rStep, if_neg h.1, if_pos h.2, List.map_append]; rfl
theorem rP_new (h : (decide (iAt l j ≠ self) && decide (pIdx old (iAt l j) < 0)) = true) : (rP l self next old (j + 1)).map encPeer = (rP l self next old j).map encPeer ++ [[.lit (.int .i64 (iAt l j)), .lit (.int .i64 next), .lit (.int .i64 0)]] := by
  simp at h
  rw [rP, rStep, if_neg h.1, if_neg (by omega), List.map_append]; rfl
theorem rP_self (h : (decide (iAt l j ≠ self) && decide (pIdx old (iAt l j) ≥ 0)) = false) (h2 : (decide (iAt l j ≠ self) && decide (pIdx old (iAt l j) < 0)) = false) : rP l self next old (j + 1) = rP l self next old j := by
  have : iAt l j = self := by
    by_cases e : iAt l j = self
    · exact e
    · simp [e] at h h2; omega
  rw [rP, rStep, if_pos this, List.append_nil]
end
def turnR (n : Node) (l : List Int) : Node := withP n (rP l n.id (lastP n.hard.log) n.peers l.length)
theorem turnR_id (n : Node) (l : List Int) : (turnR n l).id = n.id := rfl
theorem turnR_hard (n : Node) (l : List Int) : (turnR n l).hard = n.hard := rfl
theorem turnR_role (n : Node) (l : List Int) : (turnR n l).role = n.role := rfl
theorem turnR_lead (n : Node) (l : List Int) : (turnR n l).lead = n.lead := rfl
theorem turnR_timer (n : Node) (l : List Int) : (turnR n l).timer = n.timer := rfl
theorem turnR_commit (n : Node) (l : List Int) : (turnR n l).commit = n.commit := rfl
theorem turnR_got (n : Node) (l : List Int) : (turnR n l).got = n.got := rfl
theorem turnR_peers (n : Node) (l : List Int) : (turnR n l).peers = rP l n.id (lastP n.hard.log) n.peers l.length := rfl
theorem newF_id (n : Node) (kind : Int) (text : ByteArray) : (newF n kind text).id = n.id := rfl
theorem newF_peers (n : Node) (kind : Int) (text : ByteArray) : (newF n kind text).peers = n.peers := rfl
theorem sureR_hard (n : Node) : (sureR n).hard = n.hard := by unfold sureR; split <;> rfl
theorem sureR_peers (n : Node) : (sureR n).peers = n.peers := by unfold sureR; split <;> rfl
theorem rP_mem {l : List Int} {self next : Int} {old : List Peer} {p : Peer} : ∀ {j : Nat}, p ∈ rP l self next old j → p ∈ old ∨ ∃ x, p = ⟨x, next, 0⟩
  | 0, h => by cases h
  | j + 1, h => by
    rw [rP, List.mem_append] at h
    rcases h with h | h
    · exact rP_mem h
    · unfold rStep at h
      split at h
      · cases h
      · split at h
        · rename_i h2
          obtain rfl := List.mem_singleton.1 h
          exact .inl (pAt_mem (pIdx_lt h2).1)
        · obtain rfl := List.mem_singleton.1 h
          exact .inr ⟨_, rfl⟩
theorem able_turnR {n : Node} {kind : Int} {text : ByteArray} {l : List Int} (h : electR n = true) (hw : walR (newF n kind text).hard = true) (hl : l.length ≤ 20) : Able (turnR (newF n kind text) l) := by
  have hb := last_small (walR_shaped hw)
  refine ⟨walR_shaped hw, ?_, fun p hp => ?_⟩
  · show (rP _ _ _ _ _).length ≤ 20
    have := rP_len l (newF n kind text).id (lastP (newF n kind text).hard.log) (newF n kind text).peers l.length
    omega
  · rcases rP_mem hp with h1 | ⟨x, rfl⟩
    · exact (electR_mem h p h1).2
    · have h9 : 1 ≤ lastP (newF n kind text).hard.log := by
        show 1 ≤ n.hard.log.base + ((n.hard.log.recs ++ [_]).length : Nat)
        have := (shaped_parts (electR_shaped h)).2.2.1
        simp; omega
      exact ⟨h9, by show lastP (newF n kind text).hard.log ≤ _; omega⟩
theorem Able.sureR {n : Node} (h : Able n) : Able (sureR n) := ⟨by rw [sureR_hard]; exact h.sh, by rw [sureR_peers]; exact h.few, by rw [sureR_peers]; exact h.nx⟩

/-- What the reference makes of a record that a node is given. -/
def bad10 (kind : Int) (text : ByteArray) : Bool := decide (kind < 0) || decide (2 < kind) || decide (8192 < (text.size : Int))
def conf10 (n : Node) (kind : Int) (text : ByteArray) : Bool :=
  decide (kind = 2) && (!(b39 text) || !(next16 (votersOf n.hard).1 (l39 text)) || !(inL (l39 text) n.id) || decide (n.commit < (votersOf n.hard).2) || decide (term15 n.hard.log n.commit ≠ n.hard.term))
def doneR (m : Node) : Node × List Msg × Int × Int := (sureR m, (sureR m).peers.map (oneR (sureR m)), lastP (sureR m).hard.log, 0)
def addR18 (n : Node) (kind : Int) (text : ByteArray) : Node × List Msg × Int × Int :=
  if bad10 kind text = true then failR 1
  else if n.role ≠ 2 then failR 171
  else if conf10 n kind text = true then failR 160
  else if walR (newF n kind text).hard = false then failR 130
  else if kind = 2 then doneR (turnR (newF n kind text) (l39 text))
  else doneR (newF n kind text)
theorem f43_B (n : Node) (kind : Int) (text : ByteArray) (hs : n.hard.log.recs.length ≤ 200) : CallsA Tryz.prog 43 [.agg (nodeV n), .agg (recL ⟨n.hard.term, kind, text⟩)] [] (.tup [.agg (nodeV (newF n kind text)), .d (boo (walR (newF n kind text).hard))]) [] := f43_walk n _ hs
theorem l39_len (text : ByteArray) : (l39 text).length ≤ text.size := by
  unfold l39
  split
  · exact digT_len _ _
  · simp
theorem conf10_right {n : Node} {text : ByteArray} {kind : Int} (hk : kind = 2) (h : conf10 n kind text = false) : b39 text = true := by
  cases hb : b39 text with
  | true => rfl
  | false => simp [conf10, hb, hk] at h
theorem l39_few {text : ByteArray} (h : b39 text = true) : (l39 text).length ≤ 7 := by rw [l39_eq h]; exact parse_few _
end Go.Abs
