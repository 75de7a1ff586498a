/- One operation at a time, twelfth part: a call of a Go function by its contract: what is there behind it. No conditions. -/
import Derived.Test.YtninaiooagfjfaaCo
set_option linter.unusedVariables false
set_option linter.unusedSimpArgs false
namespace Go.Abs
open Go Go.RowKit

section
variable {P : Program} {Γ : Ctx} {fr : List (Nat × V)} {hp hp' : List (Nat × Blk)} {U U' : Nat → Prop} {a : Act} {w w' : World} {m m' : Nat → Value} {tk : Nat} {L : List (Use P)} {o : Oper}
  {K : Act → World → Prop} {Q : Exit → Act → World → Prop}

theorem lk_foldl_none : ∀ (s : List (Nat × Blk)) (h : List (Nat × Blk)) (t : Nat), (∀ q ∈ s, q.1 ≠ t) → lk (s.foldl (fun h q => sto h q.1 q.2) h) t = lk h t
  | [], h, t, _ => rfl
  | q :: r, h, t, hn => by
    rw [List.foldl_cons, lk_foldl_none r _ t (fun q' hq => hn q' (List.mem_cons_of_mem _ hq)), lk_sto, if_neg (fun e => hn q List.mem_cons_self e.symm)]

theorem backs_spec (ts0 : List Nat) (tk : Nat) : ∀ (ts : List Nat) (bs : List Blk), ts.length ≤ bs.length → ts.Nodup →
    (∀ q ∈ (backs ts0 tk ts bs).1, q.1 ∈ ts) ∧ (∀ (h : List (Nat × Blk)) (i t : Nat), ts[i]? = some t → ∃ b, bs[i]? = some b ∧ lk ((backs ts0 tk ts bs).1.foldl (fun h q => sto h q.1 q.2) h) t = some (renB ts0 tk b)) ∧
    (backs ts0 tk ts bs).2 = (bs[ts.length]?).map (renB ts0 tk)
  | [], [], _, _ => by simp [backs]
  | [], b :: bs, _, _ => by simp [backs]
  | t :: ts, [], h, _ => by simp at h
  | t :: ts, b :: bs, h, hnd => by
    obtain ⟨hn1, hn2⟩ := List.nodup_cons.1 hnd
    obtain ⟨i1, i2, i3⟩ := backs_spec ts0 tk ts bs (by simpa using h) hn2
    refine ⟨fun q hq => ?_, fun h i t' hi => ?_, by simpa [backs] using i3⟩
    · simp only [backs, List.mem_cons] at hq
      rcases hq with rfl | hq
      · exact List.mem_cons_self
      · exact List.mem_cons_of_mem _ (i1 q hq)
    · cases i with
      | zero =>
        simp at hi
        subst hi
        refine ⟨b, by simp, ?_⟩
        simp only [backs, List.foldl_cons]
        rw [lk_foldl_none _ _ _ (fun q hq e => hn1 (by have h9 := i1 q hq; rw [e] at h9; exact h9)), lk_sto, if_pos rfl]
      | succ i =>
        obtain ⟨b', h1, h2⟩ := i2 (sto h t (renB ts0 tk b)) i t' (by simpa using hi)
        exact ⟨b', by simpa using h1, by simpa [backs] using h2⟩

theorem callB_run {f : Nat} (h : callB P f = true) (args : Array Value) (w : World) : (callFunc f args).run P w = .ok (.enter f args) w := by
  unfold callB at h
  split at h
  · rename_i fn hf
    simp only [Bool.and_eq_true, Bool.not_eq_true', beq_eq_false_iff_ne, ne_eq] at h
    have h2 : fn.body.isNone = false := by cases hb : fn.body <;> simp [hb] at h ⊢
    have h3 : (fn.name == "runtime.NumGoroutine") = false := by simpa using h.1
    have h4 : ¬ fn.name = "runtime.NumGoroutine" := h.1
    have h5 : ¬ fn.body = none := by intro e; rw [e] at h2; cases h2
    simp only [callFunc, Sem.run_bind]
    simp [program, Sem.run, hf, h4, h5]
  · cases h

/-- The general form of a call's effect. -/
def callG (hp : List (Nat × Blk)) (tk : Nat) (args : List V) (u : Use P) (L : List (Use P)) : Rs P :=
  ⟨ren u.ts tk u.cr.v, bif flat u.cr.v && flatBlks u.cr.bs' then [] else seenL u.ts args ++ seenH hp u.ts u.ts, (backs u.ts tk u.ts u.cr.bs').1, (backs u.ts tk u.ts u.cr.bs').2,
    leL (snapL hp u.ts args) u.cr.args ∧ hands hp u.ts u.ts u.cr.bs ∧ u.ts.Nodup, L⟩

theorem sound_callG {x : Operand} {f : Nat} {cap vs : List V} {c : Call} {u : Use P} (ho : o.op = .call c) (hc : c.callee = .value x) (hx : eo fr x = some (.fn f cap)) (ha : eos fr c.args.toList = some vs) (hf : f = u.cr.f) :
    Sound P Γ fr hp U tk o (callG hp tk (vs ++ cap) u L) := by
  intro a w m K Q hR htk hp' hd hK
  obtain ⟨hargs, hhands, hnd⟩ := hp'
  subst hf
  obtain ⟨hlen, hspec⟩ := hands_spec hp u.ts u.ts u.cr.bs hhands
  obtain ⟨b1, b2⟩ : u.cr.bs.length ≤ u.cr.bs'.length ∧ u.cr.bs'.length ≤ u.cr.bs.length + 1 := by
    have := u.cr.len
    simp only [Bool.and_eq_true, Nat.ble_eq] at this
    exact this
  obtain ⟨tok1, tok2⟩ : tokB u.cr.bs'.length u.cr.v = true ∧ tokBlks u.cr.bs'.length u.cr.bs' = true := by
    have := u.cr.tok
    simpa only [Bool.and_eq_true] using this
  -- what is told of the callee's world
  let gone := seenL u.ts (vs ++ cap) ++ seenH hp u.ts u.ts
  let fl := flat u.cr.v && flatBlks u.cr.bs'
  let F : Nat → Prop := fun g => fl = false ∧ (Γ.F g ∨ ∃ t b, lk hp t = some b ∧ t ∉ u.ts ∧ t ∉ gone ∧ blkOf (m t) = some g)
  let mc : Nat → Value := fun i => m ((nth u.ts i).getD 0)
  have hmc : ∀ (i t : Nat), u.ts[i]? = some t → mc i = m t := fun i t hi => by
    show m ((nth u.ts i).getD 0) = m t
    rw [nth_eq, hi]; rfl
  have HH : Hands Γ hp U w m u.ts gone u.cr.bs.length F mc (enum u.cr.bs 0) :=
    ⟨hR.mem, fun i t hi => by obtain ⟨b', _, h1, _⟩ := hspec i t hi; exact ⟨b', h1⟩, hlen, hmc, fun i b hi => by rw [lk_enum, if_pos (Nat.zero_le _), Nat.sub_zero] at hi; exact (List.getElem?_eq_some_iff.1 hi).1, fun g hg => hg.2⟩
  have hRc : RelH ⟨w, u.cr.bs.length, mc, Γ.nt, F⟩ (enum u.cr.bs 0) (fun t => t < u.cr.bs.length) w mc :=
    HH.relH Γ.nt hhands hnd (.inr fun t ht => List.mem_append_right _ ht)
  -- the arguments
  obtain ⟨al, ar⟩ := eos_rel hR c.args.toList vs ha
  have hrx := eo_rel hR hx
  generalize hρ : a.eval = ρ at *
  generalize hu : ρ x = cx at *
  cases hrx with
  | fn _ _ capv hcl hcr =>
    have hall : ∀ (k : Nat) (y : V) (z : Value), (vs ++ cap)[k]? = some y → (c.args.map ρ ++ capv)[k]? = some z → RV (Cw Γ.F hp m w) m U y z := by
      intro k y z hy hz
      have hsz : vs.length = (c.args.map ρ).size := by simp [al]
      by_cases hk : k < vs.length
      · rw [List.getElem?_append_left hk] at hy
        rw [Array.getElem?_append_left (by omega)] at hz
        exact ar k y z hy (by rw [← Array.toList_map, Array.getElem?_toList]; exact hz)
      · rw [List.getElem?_append_right (by omega)] at hy
        rw [Array.getElem?_append_right (by omega)] at hz
        exact hcr _ y z hy (by rw [hsz]; exact hz)
    obtain ⟨l1, l2⟩ := leL_get hargs
    rw [snapL_eq, List.length_map] at l1
    have hcall := u.cr.ok w mc Γ.nt F (c.args.map ρ ++ capv) hRc (by rw [← l1]; simp [al, hcl]) (fun k y z hy hz => by
      obtain ⟨x0, hx0, hle0⟩ := l2 k y hy
      rw [snapL_eq, List.getElem?_map] at hx0
      cases hc : (vs ++ cap)[k]? with
      | none => rw [hc] at hx0; cases hx0
      | some y0 =>
        rw [hc] at hx0
        obtain rfl := Option.some.inj hx0
        exact le_rel (HH.snap (hall k y0 z hc hz) (.inr fun t ht => List.mem_append_left _ (mem_seenL u.ts (List.mem_of_getElem? hc) ht))) hle0)
    have hex : (execOp ρ o).run P w = .ok (.enter u.cr.f (c.args.map ρ ++ capv)) w := by
      have := callB_run u.cr.en (c.args.map ρ ++ capv) w
      simp [execOp, ho, resolve, hc, hu, Deferred.ofValue, invoke, Sem.run_bind, this]
    unfold Oper.wp
    rw [hρ, hex, Oper.upon_enter]
    refine hcall.mono fun e w' he => ?_
    obtain ⟨z, m', U', rfl, H', hz⟩ := he
    -- behind the call
    have hn : u.ts.length = u.cr.bs.length := hlen
    have hold : ∀ (i t : Nat), u.ts[i]? = some t → m' i = m t := fun i t hi => by
      have hlt : i < u.cr.bs.length := by rw [← hn]; exact (List.getElem?_eq_some_iff.1 hi).1
      exact (H'.old i hlt).trans (hmc i t hi)
    obtain ⟨s1, s2, s3⟩ := backs_spec u.ts tk u.ts u.cr.bs' (by omega) hnd
    let m2 : Nat → Value := upm m tk (m' u.cr.bs.length)
    have hsigU : ∀ i, i < u.cr.bs'.length → also U tk (sig u.ts tk i) := fun i hi => by
      unfold sig
      rw [nth_eq]
      cases ht : u.ts[i]? with
      | none => exact .inr rfl
      | some t => obtain ⟨b', _, h1, _⟩ := hspec i t ht; exact .inl (hR.mem.lt t b' h1)
    have hsigm : ∀ i, i < u.cr.bs'.length → m2 (sig u.ts tk i) = m' i := fun i hi => by
      unfold sig
      rw [nth_eq]
      cases ht : u.ts[i]? with
      | none =>
        have : u.ts.length ≤ i := by
          rcases Nat.lt_or_ge i u.ts.length with h | h
          · simp [h] at ht
          · exact h
        have e : i = u.cr.bs.length := by omega
        subst e
        exact upm_self _ _ _
      | some t =>
        obtain ⟨b', _, h1, _⟩ := hspec i t ht
        show upm m tk _ t = m' i
        rw [upm_ne _ _ (by intro e; subst e; exact htk (hR.mem.lt _ b' h1)), hold i t ht]
    let gn := bif fl then [] else gone
    let hp2 := after hp tk (callG hp tk (vs ++ cap) u L)
    have hgn : (callG hp tk (vs ++ cap) u L).gone = gn := rfl
    -- lookups behind the call
    have lk_ts : ∀ (i t : Nat), u.ts[i]? = some t → ∃ b, u.cr.bs'[i]? = some b ∧ lk hp2 t = some (renB u.ts tk b) := fun i t hi => by
      obtain ⟨b, h1, h2⟩ := s2 (delAll hp gn) i t hi
      refine ⟨b, h1, ?_⟩
      have hne : tk ≠ t := by intro e; subst e; obtain ⟨b', _, h3, _⟩ := hspec i _ hi; exact htk (hR.mem.lt _ b' h3)
      show lk (after hp tk (callG hp tk (vs ++ cap) u L)) t = _
      unfold after
      simp only [callG]
      cases hbk : (backs u.ts tk u.ts u.cr.bs').2 with
      | none => exact h2
      | some b0 => simp only []; rw [lk_cons_ne _ _ hne]; exact h2
    have lk_other : ∀ t, t ≠ tk → t ∉ u.ts → lk hp2 t = lk (delAll hp gn) t := fun t h1 h2 => by
      show lk (after hp tk (callG hp tk (vs ++ cap) u L)) t = _
      have h3 := lk_foldl_none (backs u.ts tk u.ts u.cr.bs').1 (delAll hp gn) t (fun q hq e => h2 (e ▸ s1 q hq))
      unfold after
      simp only [callG]
      cases hbk : (backs u.ts tk u.ts u.cr.bs').2 with
      | none => exact h3
      | some b0 => simp only []; rw [lk_cons_ne _ _ (fun e => h1 e.symm)]; exact h3
    have lk_tk : lk hp2 tk = (u.cr.bs'[u.cr.bs.length]?).map (renB u.ts tk) := by
      show lk (after hp tk (callG hp tk (vs ++ cap) u L)) tk = _
      have hnt : tk ∉ u.ts := fun h => by
        obtain ⟨i, hi, e⟩ := List.getElem_of_mem h
        obtain ⟨b', _, h3, _⟩ := hspec i tk (by rw [← e]; simp [hi])
        exact htk (hR.mem.lt _ b' h3)
      rw [hn] at s3
      have h3 := lk_foldl_none (backs u.ts tk u.ts u.cr.bs').1 (delAll hp gn) tk (fun q hq e => hnt (e ▸ s1 q hq))
      have h4 : lk (delAll hp gn) tk = none := by
        cases h : lk (delAll hp gn) tk with
        | none => rfl
        | some b => exact absurd (hR.mem.lt _ b (delAll_sub _ _ h)) htk
      unfold after
      simp only [callG]
      rw [← s3]
      cases hbk : (backs u.ts tk u.ts u.cr.bs').2 with
      | none => simp only []; rw [h4] at h3; exact h3
      | some b0 => simp only []; rw [lk_cons_self]
    -- cases of a token
    have tokc : ∀ t b, lk hp2 t = some b → (∃ i b0, u.ts[i]? = some t ∧ u.cr.bs'[i]? = some b0 ∧ b = renB u.ts tk b0 ∧ i < u.cr.bs.length) ∨ (t = tk ∧ ∃ b0, u.cr.bs'[u.cr.bs.length]? = some b0 ∧ b = renB u.ts tk b0) ∨ (t ≠ tk ∧ t ∉ u.ts ∧ lk (delAll hp gn) t = some b) := fun t b ht => by
      by_cases h1 : t = tk
      · subst h1
        rw [lk_tk] at ht
        cases hb : u.cr.bs'[u.cr.bs.length]? with
        | none => rw [hb] at ht; cases ht
        | some b0 => rw [hb] at ht; exact .inr (.inl ⟨rfl, b0, rfl, (Option.some.inj ht).symm⟩)
      · by_cases h2 : t ∈ u.ts
        · obtain ⟨i, hi, e⟩ := List.getElem_of_mem h2
          have hti : u.ts[i]? = some t := by rw [← e]; simp [hi]
          obtain ⟨b0, q1, q2⟩ := lk_ts i t hti
          rw [ht] at q2
          exact .inl ⟨i, b0, hti, q1, Option.some.inj q2, by omega⟩
        · exact .inr (.inr ⟨h1, h2, by rw [← lk_other t h1 h2]; exact ht⟩)
    have hblk' : ∀ i b0, u.cr.bs'[i]? = some b0 → HB (Cw F (enum u.cr.bs' 0) m' w') m' U' w' i b0 ∧ lk (enum u.cr.bs' 0) i = some b0 := fun i b0 hi => by
      have : lk (enum u.cr.bs' 0) i = some b0 := by rw [lk_enum, if_pos (Nat.zero_le _), Nat.sub_zero]; exact hi
      exact ⟨H'.hb i b0 this, this⟩
    have hnewb : ∀ g b0, u.cr.bs'[u.cr.bs.length]? = some b0 → blkOf (m' u.cr.bs.length) = some g → w.heap.size ≤ g := fun g b0 hb hg => H'.new _ b0 g (hblk' _ _ hb).2 hg (Nat.le_refl _)
    -- old blocks that were not handed over
    have hkeep : ∀ g, g < w.heap.size → (∀ (i t : Nat), u.ts[i]? = some t → blkOf (m t) ≠ some g) → w'.heap[g]? = w.heap[g]? := fun g hg hn' => H'.keeps.block g hg fun i hi e => by
      have hti : u.ts[i]? = some (u.ts[i]'(by rw [hn]; exact hi)) := by simp [hn, hi]
      exact hn' i _ hti (by rw [← hmc i _ hti]; exact e)
    have hCold : ∀ p v, Cw Γ.F hp m w p v → Cw Γ.F hp2 m2 w' p v := fun p v hc => by
      refine ⟨(World.cell?_of_block (w := w) (hkeep p.block hc.lt fun i t hi e => ?_)).trans hc.cell, hc.notF, fun t b ht e => ?_⟩
      · obtain ⟨b', _, h1, _⟩ := hspec i t hi; exact hc.far t b' h1 e
      · rcases tokc t b ht with ⟨i, b0, q1, _, _, _⟩ | ⟨rfl, b0, q1, _⟩ | ⟨q1, q2, q3⟩
        · obtain ⟨b', _, h1, _⟩ := hspec i t q1
          have hne : t ≠ tk := by intro e'; subst e'; exact htk (hR.mem.lt _ b' h1)
          rw [show m2 t = m t from upm_ne _ _ hne] at e
          exact hc.far t b' h1 e
        · rw [show m2 t = m' u.cr.bs.length from upm_self _ _ _] at e
          have := hnewb _ b0 q1 e
          have := hc.lt
          omega
        · rw [show m2 t = m t from upm_ne _ _ q1] at e
          exact hc.far t b (delAll_sub _ _ q3) e
    have hCnew : (∀ p v, Cw F (enum u.cr.bs' 0) m' w' p v → Cw Γ.F hp2 m2 w' p v) ∨ fl = true := by
      cases hfl : fl with
      | true => exact .inr rfl
      | false =>
        refine .inl fun p v hc => ⟨hc.cell, fun hf => hc.notF ⟨hfl, .inl hf⟩, fun t b ht e => ?_⟩
        rcases tokc t b ht with ⟨i, b0, q1, q2, _, _⟩ | ⟨rfl, b0, q1, _⟩ | ⟨q1, q2, q3⟩
        · obtain ⟨b', _, h1, _⟩ := hspec i t q1
          have hne : t ≠ tk := by intro e'; subst e'; exact htk (hR.mem.lt _ b' h1)
          rw [show m2 t = m t from upm_ne _ _ hne, ← hold i t q1] at e
          exact hc.far i b0 (hblk' i b0 q2).2 e
        · rw [show m2 t = m' u.cr.bs.length from upm_self _ _ _] at e
          exact hc.far _ b0 (hblk' _ b0 q1).2 e
        · rw [show m2 t = m t from upm_ne _ _ q1] at e
          have hg0 : gn = gone := by show (bif fl then [] else gone) = gone; rw [hfl]; rfl
          rw [hg0, lk_delAll] at q3
          split at q3
          · cases q3
          · rename_i hng
            exact hc.notF ⟨hfl, .inr ⟨t, b, q3, q2, hng, e⟩⟩
    have hfl : ∀ b0, b0 ∈ u.cr.bs' → fl = true → flatBlk b0 = true := fun b0 hb h => by
      have : flatBlks u.cr.bs' = true := by
        have h' : (flat u.cr.v && flatBlks u.cr.bs') = true := h
        rw [Bool.and_eq_true] at h'; exact h'.2
      exact flatBlks_mem this hb
    have hHBnew : ∀ i b0 t, u.cr.bs'[i]? = some b0 → i < u.cr.bs'.length → sig u.ts tk i = t → HB (Cw Γ.F hp2 m2 w') m2 (also U tk) w' t (renB u.ts tk b0) := fun i b0 t hb hi hst => by
      have hmt : m2 t = m' i := by rw [← hst]; exact hsigm i hi
      have h0 := (hblk' i b0 hb).1
      cases b0 with
      | var ty cs =>
        obtain ⟨g, arr, e, hg, hsz, hO, hv⟩ := h0
        simp only [renB, renL_eq]
        refine ⟨g, arr, hmt.trans e, hg, by simpa using hsz, hO, fun k y z' hy hz' => ?_⟩
        rw [List.getElem?_map] at hy
        cases hc : cs[k]? with
        | none => rw [hc] at hy; cases hy
        | some c0 =>
          rw [hc] at hy
          obtain rfl := Option.some.inj hy
          have htb := tokBlks_mem tok2 (List.mem_of_getElem? hb)
          exact ren_rel hsigm hsigU (hv k c0 z' hc hz') (tokLB_mem (by simpa [tokBlk] using htb) (List.mem_of_getElem? hc)) (hCnew.imp id fun h => flatL_mem (by simpa [flatBlk] using hfl _ (List.mem_of_getElem? hb) h) (List.mem_of_getElem? hc))
      | row e sz l =>
        obtain ⟨xs, hown, hrow, hO, hv⟩ := h0
        rcases hCnew with hC | h
        · exact ⟨xs, by rw [hmt]; exact hown, hrow, hO, fun j row hj k y hk => by obtain ⟨u', hu', hd'⟩ := hv j row hj k y hk; exact ⟨u', hu', hd'.mono hC⟩⟩
        · have := hfl _ (List.mem_of_getElem? hb) h
          simp [flatBlk] at this
    have hsig_ts : ∀ (i t : Nat), u.ts[i]? = some t → sig u.ts tk i = t := fun i t hi => by unfold sig; rw [nth_eq, hi]; rfl
    have hsig_tk : sig u.ts tk u.cr.bs.length = tk := by unfold sig; rw [nth_eq, List.getElem?_eq_none (by omega)]; rfl
    have hm2 : ∀ t, U t → m2 t = m t := upm_lt m _ htk
    have hR2 : Rel Γ fr hp2 (also U tk) a w' m2 := by
      refine hR.turn hCold hm2 (fun _ h => .inl h) ?_
      have H := hR.mem
      -- of each token: the block's number
      have blkc : ∀ t b g, lk hp2 t = some b → blkOf (m2 t) = some g → (t ≠ tk ∧ (∃ b', lk hp t = some b') ∧ blkOf (m t) = some g) ∨ (t = tk ∧ w.heap.size ≤ g) := fun t b g ht hg => by
        rcases tokc t b ht with ⟨i, b0, q1, _, _, _⟩ | ⟨rfl, b0, q1, _⟩ | ⟨q1, q2, q3⟩
        · obtain ⟨b', _, h1, _⟩ := hspec i t q1
          have hne : t ≠ tk := by intro e'; subst e'; exact htk (H.lt _ b' h1)
          rw [show m2 t = m t from upm_ne _ _ hne] at hg
          exact .inl ⟨hne, ⟨b', h1⟩, hg⟩
        · rw [show m2 t = m' u.cr.bs.length from upm_self _ _ _] at hg
          exact .inr ⟨rfl, hnewb g b0 q1 hg⟩
        · rw [show m2 t = m t from upm_ne _ _ q1] at hg
          exact .inl ⟨q1, ⟨b, delAll_sub _ _ q3⟩, hg⟩
      refine ⟨fun t b ht => ?_, fun t t' b1 b2 g h1 h2 e1 e2 => ?_, fun t b ht => ?_, fun t b g ht hg hn' => ?_, fun t ht => by rw [hm2 t (H.n0 t ht)]; exact H.old t ht, fun t ht => .inl (H.n0 t ht), fun t b g ht hg hf => ?_, H.hF, ?_⟩
      · rcases tokc t b ht with ⟨i, b0, q1, q2, rfl, _⟩ | ⟨rfl, b0, q1, rfl⟩ | ⟨q1, q2, q3⟩
        · exact hHBnew i b0 t q2 (List.getElem?_eq_some_iff.1 q2).1 (hsig_ts i t q1)
        · exact hHBnew _ b0 t q1 (List.getElem?_eq_some_iff.1 q1).1 hsig_tk
        · have q3' := delAll_sub _ _ q3
          refine (H.hb t b q3').mono hCold hm2 (fun _ h => .inl h) (H.lt t b q3') fun g hg => hkeep g ((H.hb t b q3').lt hg) fun i t2 hi e => ?_
          obtain ⟨b', _, h1, _⟩ := hspec i t2 hi
          have := H.sep t t2 b b' g q3' h1 hg e
          subst this
          exact q2 (List.mem_of_getElem? hi)
      · rcases blkc t b1 g h1 e1 with ⟨n1, ⟨c1, d1⟩, f1⟩ | ⟨n1, f1⟩ <;> rcases blkc t' b2 g h2 e2 with ⟨n2, ⟨c2, d2⟩, f2⟩ | ⟨n2, f2⟩
        · exact H.sep t t' c1 c2 g d1 d2 f1 f2
        · have := (H.hb t c1 d1).lt f1; omega
        · have := (H.hb t' c2 d2).lt f2; omega
        · rw [n1, n2]
      · rcases tokc t b ht with ⟨i, b0, q1, _, _, _⟩ | ⟨rfl, b0, q1, _⟩ | ⟨q1, q2, q3⟩
        · obtain ⟨b', _, h1, _⟩ := hspec i t q1; exact .inl (H.lt t b' h1)
        · exact .inr rfl
        · exact .inl (H.lt t b (delAll_sub _ _ q3))
      · rcases blkc t b g ht hg with ⟨n1, ⟨c1, d1⟩, f1⟩ | ⟨n1, f1⟩
        · exact H.new t c1 g d1 f1 hn'
        · have := H.keeps.size; omega
      · rcases blkc t b g ht hg with ⟨n1, ⟨c1, d1⟩, f1⟩ | ⟨n1, f1⟩
        · exact H.nF t c1 g d1 f1 hf
        · have := H.hF g hf; have := H.keeps.size; omega
      · refine ⟨H'.keeps.os.trans H.keeps.os, H'.keeps.tape.trans H.keeps.tape, H'.keeps.output.trans H.keeps.output, Nat.le_trans H.keeps.size H'.keeps.size, fun g hlt hn' => ?_⟩
        rw [hkeep g (Nat.lt_of_lt_of_le hlt H.keeps.size) fun i t hi e => ?_]
        · exact H.keeps.block g hlt hn'
        · obtain ⟨b', _, h1, _⟩ := hspec i t hi
          rcases Nat.lt_or_ge t Γ.n0 with h | h
          · exact hn' t h (by rw [← H.old t h]; exact e)
          · have := H.new t b' g h1 e h; omega
    have hzr : RV (Cw Γ.F hp2 m2 w') m2 (also U tk) (ren u.ts tk u.cr.v) z := ren_rel hsigm hsigU hz tok1 (hCnew.imp id fun h => by
      have h' : (flat u.cr.v && flatBlks u.cr.bs') = true := h
      rw [Bool.and_eq_true] at h'; exact h'.1)
    exact hK _ _ m2 (rel_putA hR2 hd hzr) (put_defers a _ _)

end
end Go.Abs
