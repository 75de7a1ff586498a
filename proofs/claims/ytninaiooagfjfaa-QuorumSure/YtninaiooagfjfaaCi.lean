/- One operation at a time, fifth part: a store. No conditions. -/
import Derived.Test.YtninaiooagfjfaaCh
set_option linter.unusedVariables false
set_option linter.unusedSimpArgs false
namespace Go.Abs
open Go Go.RowKit

section
variable {P : Program} {Γ : Ctx} {fr : List (Nat × V)} {hp : List (Nat × Blk)} {U : Nat → Prop} {a : Act} {w w' : World} {m : Nat → Value} {tk : Nat} {L : List (Use P)} {o : Oper}
  {K : Act → World → Prop} {Q : Exit → Act → World → Prop}

theorem Cw.setRow {F : Nat → Prop} {k g : Nat} {b b' : Blk} {arr : Array Value} (hk : lk hp k = some b) (hg : blkOf (m k) = some g) {p : Addr} {v : Value} (h : Cw F hp m w p v) : Cw F (sto hp k b') m (w.setRow g arr) p v := by
  have hne : p.block ≠ g := fun e => h.far k b hk (by rw [hg, e])
  refine ⟨?_, h.notF, fun t b0 ht => ?_⟩
  · rw [World.cell?_of_block (w := w) (setRow_other w g p.block arr hne)]; exact h.cell
  · rw [lk_sto] at ht
    by_cases e : t = k
    · subst e; exact h.far t b hk
    · rw [if_neg e] at ht; exact h.far t b0 ht

/-- A block of ours is written. -/
theorem Rel.setBlk (h : Rel Γ fr hp U a w m) {k g : Nat} {b b' : Blk} {arr : Array Value} (hk : lk hp k = some b) (hg : blkOf (m k) = some g) (hB : HB (Cw Γ.F (sto hp k b') m (w.setRow g arr)) m U (w.setRow g arr) k b') :
    Rel Γ fr (sto hp k b') U a (w.setRow g arr) m := by
  have hC : ∀ p v, Cw Γ.F hp m w p v → Cw Γ.F (sto hp k b') m (w.setRow g arr) p v := fun p v hc => hc.setRow hk hg
  refine h.turn hC (fun _ _ => rfl) (fun _ h => h) ?_
  have H := h.mem
  refine ⟨fun t b0 ht => ?_, fun t t' b1 b2 g' h1 h2 e1 e2 => ?_, fun t b0 ht => ?_, fun t b0 g' ht hg' hn => ?_, H.old, H.n0, fun t b0 g' ht hg' => ?_, H.hF, ?_⟩
  · rw [lk_sto] at ht
    by_cases e : t = k
    · subst e
      rw [if_pos rfl] at ht
      obtain rfl := Option.some.inj ht
      exact hB
    · rw [if_neg e] at ht
      exact (H.hb t b0 ht).mono hC (fun _ _ => rfl) (fun _ h => h) (H.lt t b0 ht) (fun g' hg' => setRow_other w g g' arr (fun e' => e (H.sep t k b0 b g' ht hk hg' (by rw [hg, e']))))
  · have f : ∀ t b0, lk (sto hp k b') t = some b0 → ∃ b1, lk hp t = some b1 := fun t b0 ht => by
      rw [lk_sto] at ht
      by_cases e : t = k
      · subst e; exact ⟨b, hk⟩
      · rw [if_neg e] at ht; exact ⟨_, ht⟩
    obtain ⟨c1, h1'⟩ := f t b1 h1
    obtain ⟨c2, h2'⟩ := f t' b2 h2
    exact H.sep t t' c1 c2 g' h1' h2' e1 e2
  · rw [lk_sto] at ht
    by_cases e : t = k
    · subst e; exact H.lt t b hk
    · rw [if_neg e] at ht; exact H.lt t b0 ht
  · rw [lk_sto] at ht
    by_cases e : t = k
    · subst e; exact H.new t b g' hk hg' hn
    · rw [if_neg e] at ht; exact H.new t b0 g' ht hg' hn
  · rw [lk_sto] at ht
    by_cases e : t = k
    · subst e; exact H.nF t b g' hk hg'
    · rw [if_neg e] at ht; exact H.nF t b0 g' ht hg'
  · refine ⟨H.keeps.os, H.keeps.tape, H.keeps.output, by simpa using H.keeps.size, fun g' hlt hn => ?_⟩
    by_cases e : g' = g
    · subst e
      exfalso
      rcases Nat.lt_or_ge k Γ.n0 with hkn | hkn
      · exact hn k hkn (by rw [← H.old k hkn]; exact hg)
      · have := H.new k b g' hk hg hkn; omega
    · rw [setRow_other w g g' arr e]; exact H.keeps.block g' hlt hn

theorem ins_spec {α : Type} (l : List α) (o : Nat) (bs : List α) (h : o + bs.length ≤ l.length) : ins l o bs = l.take o ++ bs ++ l.drop (o + bs.length) := by
  induction l generalizing o bs with
  | nil =>
    cases bs with
    | nil => simp [ins]
    | cons b bs => simp at h
  | cons a r ih =>
    cases bs with
    | nil => cases o <;> simp [ins]
    | cons b bs => cases o with
      | zero =>
        have := ih 0 bs (by simp at h; omega)
        simp [ins, this]
      | succ o =>
        have := ih o (b :: bs) (by simp at h ⊢; omega)
        simp only [ins, this, List.take_succ_cons, List.length_cons, List.cons_append]
        rw [show o + 1 + (bs.length + 1) = (o + (bs.length + 1)) + 1 by omega, List.drop_succ_cons]

/-- Cells in the middle: whose they are. -/
theorem get_mid {α : Type} (l : List α) (o : Nat) (bs : List α) (h : o + bs.length ≤ l.length) (k : Nat) : (l.take o ++ bs ++ l.drop (o + bs.length))[k]? = if o ≤ k ∧ k < o + bs.length then bs[k - o]? else l[k]? := by
  have h1 : (l.take o).length = o := by rw [List.length_take]; omega
  by_cases c1 : k < o
  · rw [if_neg (by omega), List.append_assoc, List.getElem?_append_left (by omega), List.getElem?_take, if_pos c1]
  · by_cases c2 : k < o + bs.length
    · rw [if_pos ⟨by omega, c2⟩, List.getElem?_append_left (by simp; omega), List.getElem?_append_right (by omega), h1]
    · rw [if_neg (by omega), List.getElem?_append_right (by simp; omega), List.getElem?_drop]
      congr 1
      simp; omega

theorem sound_storeVar {t ty : TypeId} {n k off : Nat} {x y : Operand} {v : V} {cs : List V} (ho : o.op = .store t x y) (hx : eo fr x = some (.ptr k off)) (hy : eo fr y = some v) (hs : sizeT P t = some n) (hk : lk hp k = some (.var ty cs))
    (hl : (cellsV v).length = n) (hO : (cellsV v).all one = true) (hle : off + n ≤ cs.length) : Sound P Γ fr hp U tk o ⟨.d (.lit undef), [], [(k, .var ty (ins cs off (cellsV v)))], none, True, L⟩ := by
  intro a w m K Q hR htk _ hd hK
  have hr1 := eo_rel hR hx
  have hr2 := eo_rel hR hy
  obtain ⟨c1, c2, c3⟩ := rv_cells hr2 hO
  obtain ⟨g, arr, e, hg, hsz, hO', hv⟩ := hR.mem.hb _ _ hk
  have hxp : a.eval x = .pointer (some ⟨g, off, none⟩) := by
    generalize a.eval x = c at *
    cases hr1 with
    | ptr _ _ b h1 h2 =>
      rw [h2] at e
      simp only [Value.pointer.injEq, Option.some.injEq, Addr.mk.injEq, and_true] at e
      rw [e]
  obtain ⟨i, hi, hin⟩ := sizeT_eq hs
  have hrun : (execOp a.eval o).run P w = .ok .skip (w.setRow g (arr.toList.take off ++ (a.eval y).cells.toList ++ arr.toList.drop (off + (a.eval y).cells.toList.length)).toArray) := by
    have h1 : execOp a.eval o = (do Instr.storeAt t (a.eval x) (a.eval y); pure .skip) := by simp only [execOp, ho]
    have h2 := run_storeCells_at P g off ty (a.eval y).cells.toList 0 arr w hg (by simp; omega) (fun u hu => by
      obtain ⟨k, hk, e⟩ := List.getElem_of_mem hu
      exact c2 k u (by rw [← e]; simp))
    simp only [Nat.add_zero] at h2
    rw [h1, hxp]
    have hne : ¬ (a.eval y).cells.size ≠ n := by omega
    have e1 : (sizeOf t).run P w = .ok n w := by simp [sizeOf, typeInfo, hi, hin, go_sem]
    simp only [Instr.storeAt, Instr.sureAddr, storeVar, Sem.run_bind, Sem.run_pure, Result.andThen_ok, e1, if_neg hne, h2]
  have hlen : (a.eval y).cells.toList.length = (cellsV v).length := by simp [c1]
  refine wp_skip' hrun (hK _ _ m ?_ (put_defers a _ _))
  have haft : after hp tk (⟨.d (.lit undef), [], [(k, .var ty (ins cs off (cellsV v)))], none, True, L⟩ : Rs P) = sto hp k (.var ty (ins cs off (cellsV v))) := rfl
  rw [haft]
  refine (rel_putA (hR.setBlk hk (by rw [e]; rfl) ?_) hd (.d (.lit undef))).given fun t h => .inl h
  have hC : ∀ p z, Cw Γ.F hp m w p z → Cw Γ.F (sto hp k (.var ty (ins cs off (cellsV v)))) m (w.setRow g (arr.toList.take off ++ (a.eval y).cells.toList ++ arr.toList.drop (off + (a.eval y).cells.toList.length)).toArray) p z := fun p z hc => hc.setRow hk (by rw [e]; rfl)
  rw [ins_spec cs off (cellsV v) (by omega)] at hC ⊢
  refine ⟨g, _, e, setRow_heap w g arr _ ty (0, 0) hg, ?_, fun j u hu => ?_, fun j x u hx hu => ?_⟩
  · simp only [List.size_toArray, List.length_append, List.length_take, List.length_drop, Array.length_toList, hlen]; omega
  · rw [List.getElem?_toArray, get_mid _ _ _ (by simp; omega)] at hu
    split at hu
    · exact c2 _ u (by simpa using hu)
    · exact hO' _ u (by simpa using hu)
  · rw [List.getElem?_toArray, get_mid _ _ _ (by simp; omega), hlen] at hu
    rw [get_mid _ _ _ (by omega)] at hx
    split at hx
    · rename_i hc
      rw [if_pos hc] at hu
      exact (c3 _ x u hx (by simpa using hu)).mono hC (fun _ _ => rfl) (fun _ h => h)
    · rename_i hc
      rw [if_neg hc] at hu
      exact (hv _ x u hx (by simpa using hu)).mono hC (fun _ _ => rfl) (fun _ h => h)

end
end Go.Abs
