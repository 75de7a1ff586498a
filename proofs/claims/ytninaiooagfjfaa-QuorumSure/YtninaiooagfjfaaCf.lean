/- One operation at a time, second part: arithmetic, comparisons, conversions, parts of values, lengths. No conditions. -/
import Derived.Test.YtninaiooagfjfaaCe
import Derived.Laws.Small
import Derived.Laws.StructEq
import Derived.Laws.Cover3
set_option linter.unusedVariables false
set_option linter.unusedSimpArgs false
namespace Go.Abs
open Go Go.RowKit

theorem arith_wrap (k : IntKind) (n : Int) (h : (arith k n).2) : k.wrap n = (arith k n).1 := by
  cases k <;> simp only [arith, inI64] at h ⊢ <;> simp [IntKind.wrap, IntKind.bits, IntKind.signed] <;> omega

theorem toList_beq (a b : ByteArray) : (a.toList == b.toList) = decide (a = b) := by
  by_cases h : a = b
  · subst h; simp
  · have : a.toList ≠ b.toList := fun e => h (by
      have e2 : a.data.toList = b.data.toList := by simpa [ByteArray.toList_eq] using e
      cases a; cases b; simp_all)
    simp [h, this]

section
variable {P : Program} {Γ : Ctx} {fr : List (Nat × V)} {hp : List (Nat × Blk)} {U : Nat → Prop} {a : Act} {w w' : World} {m : Nat → Value} {tk : Nat} {L : List (Use P)} {o : Oper}
  {K : Act → World → Prop} {Q : Exit → Act → World → Prop} {hp' : List (Nat × Blk)}

theorem run_binI {op : BinOp} {k : IntKind} {x y : Int} {r : R} (h : binI op k x y = some r) (hp : r.p) (t : TypeId) (X Y : Operand) (w : World) :
    ∃ u, r = ⟨.d (.lit u), [], none, none, r.p⟩ ∧ (do eqGuard op t X Y (.int k x) (.int k y); binOp op t (.int k x) (.int k y) : Sem Value).run P w = .ok u w := by
  cases op <;> simp only [binI, intR, pureR, Option.some.injEq, reduceCtorEq] at h <;> subst h <;> refine ⟨_, rfl, ?_⟩ <;> simp only [] at hp
  case add => simp [eqGuard, binOp, Op.intArith, go_sem, arith_wrap k _ hp]
  case sub => simp [eqGuard, binOp, Op.intArith, go_sem, arith_wrap k _ hp]
  case mul => simp [eqGuard, binOp, Op.intArith, go_sem, arith_wrap k _ hp]
  case quo =>
    have h1 : ¬ y = 0 := by omega
    have h2 : x.tdiv y = x / y := Int.tdiv_eq_ediv_of_nonneg hp.1
    simp [eqGuard, binOp, Op.intDiv, go_sem, h1, h2, arith_wrap k _ hp.2.2]
  case rem =>
    have h1 : ¬ y = 0 := by omega
    have h2 : x.tmod y = x % y := Int.tmod_eq_emod_of_nonneg hp.1
    simp [eqGuard, binOp, Op.intDiv, go_sem, h1, h2]
  case eql => by_cases e : x = y <;> simp [eqGuard, binOp, Op.intCmp, go_sem, e]
  case neq => by_cases e : x = y <;> simp [eqGuard, binOp, Op.intCmp, go_sem, e]
  case lss => simp [eqGuard, binOp, Op.intCmp, go_sem]
  case leq => simp [eqGuard, binOp, Op.intCmp, go_sem]
  case gtr => simp [eqGuard, binOp, Op.intCmp, go_sem]
  case geq => simp [eqGuard, binOp, Op.intCmp, go_sem]

theorem run_binS {op : BinOp} {x y : ByteArray} {r : R} (h : binS op x y = some r) (hp : r.p) (t : TypeId) (X Y : Operand) (w : World) :
    ∃ u, r = ⟨.d (.lit u), [], none, none, r.p⟩ ∧ (do eqGuard op t X Y (.string x) (.string y); binOp op t (.string x) (.string y) : Sem Value).run P w = .ok u w := by
  cases op <;> simp only [binS, pureR, Option.some.injEq, reduceCtorEq] at h <;> subst h <;> refine ⟨_, rfl, ?_⟩ <;> simp only [] at hp
  case add =>
    have h0 : (x.size : Int) + (y.size : Int) ≤ 9223372036854775807 := by omega
    simp [eqGuard, binOp, Op.stringOp, go_sem, h0]
  case eql => simp [eqGuard, binOp, Op.stringOp, go_sem, toList_beq]
  case neq => simp [eqGuard, binOp, Op.stringOp, go_sem, toList_beq]

theorem boolT_eq {t : TypeId} (h : boolT P t = true) : P.underlying t = some .bool := by
  unfold boolT at h
  split at h <;> first | assumption | cases h

theorem run_binV {op : BinOp} {t : TypeId} {x y : V} {r : R} (h : binV P op t x y = some r) (hp : r.p) (X Y : Operand) (w : World) :
    ∃ u, r = ⟨.d (.lit u), [], none, none, r.p⟩ ∧ ∀ cx cy, RV (Cw Γ.F hp' m w) m U x cx → RV (Cw Γ.F hp' m w) m U y cy → (do eqGuard op t X Y cx cy; binOp op t cx cy : Sem Value).run P w = .ok u w := by
  unfold binV at h
  split at h
  · rename_i k a k' b
    split at h
    · rename_i hk
      subst hk
      obtain ⟨u, h1, h2⟩ := run_binI (P := P) h hp t X Y w
      exact ⟨u, h1, fun cx cy hx hy => by rw [hx.lit_inv, hy.lit_inv]; exact h2⟩
    · cases h
  · obtain ⟨u, h1, h2⟩ := run_binS (P := P) h hp t X Y w
    exact ⟨u, h1, fun cx cy hx hy => by rw [hx.lit_inv, hy.lit_inv]; exact h2⟩
  · rename_i a b
    split at h
    · rename_i hb
      have hb := boolT_eq hb
      cases op <;> simp only [binB, pureR, Option.some.injEq, reduceCtorEq] at h <;> subst h <;> refine ⟨_, rfl, fun cx cy hx hy => ?_⟩ <;> rw [hx.lit_inv, hy.lit_inv]
      · simp [eqGuard, go_sem, run_eql_bool _ _ _ _ hb]
      · cases a <;> cases b <;> simp [eqGuard, go_sem, run_neq_bool _ _ _ _ hb]
    · cases h
  · cases h

theorem sound_bin {op : BinOp} {t t' : TypeId} {x y : Operand} {vx vy : V} {r : R} {q : Rs P} (ho : o.op = .binOp op t x y t') (hx : eo fr x = some vx) (hy : eo fr y = some vy) (h : binV P op t vx vy = some r) (hq : ofR L (some r) = some q) : Sound P Γ fr hp U tk o q := by
  intro a w m K Q hR htk hp' hd hK
  simp only [ofR, Option.some.injEq] at hq
  subst hq
  obtain ⟨u, h1, h2⟩ := run_binV (P := P) (Γ := Γ) (hp' := hp) (m := m) (U := U) h hp' x y w
  have h3 := h2 _ _ (eo_rel hR hx) (eo_rel hR hy)
  rw [h1] at hK
  refine wp_value (u := u) (w' := w) ?_ (hK _ _ m ((rel_putA hR hd (.d (.lit u))).given fun t h => .inl h) (put_defers a _ u))
  generalize a.eval = ρ at *
  have h4 : (execOp ρ o) = (do pure (.value (← (do eqGuard op t x y (ρ x) (ρ y); binOp op t (ρ x) (ρ y) : Sem Value))) : Sem Next) := by simp [execOp, ho]
  rw [h4, Sem.run_bind, h3]
  rfl

theorem sound_un {op : UnOp} {t : TypeId} {x : Operand} {vx : V} {r : R} {q : Rs P} (ho : o.op = .unOp op t x) (hx : eo fr x = some vx) (h : unV op vx = some r) (hq : ofR L (some r) = some q) : Sound P Γ fr hp U tk o q := by
  simp only [ofR, Option.some.injEq] at hq
  subst hq
  unfold unV at h
  split at h
  · rename_i b
    simp only [pureR, Option.some.injEq] at h
    subst h
    refine sound_pure fun a w m hR _ => ?_
    have h1 := (eo_rel hR hx).lit_inv
    generalize a.eval = ρ at *
    exact ⟨.bool (!b), by simp [execOp, ho, go_sem, h1, Op.unary], .d (.lit _)⟩
  · rename_i k n
    simp only [intR, pureR, Option.some.injEq] at h
    subst h
    refine sound_pure fun a w m hR hp' => ?_
    have h1 := (eo_rel hR hx).lit_inv
    generalize a.eval = ρ at *
    exact ⟨_, by simp [execOp, ho, go_sem, h1, Op.unary, Op.intArith, arith_wrap k _ hp'], .d (.lit _)⟩
  · cases h

theorem intT_eq {t : TypeId} {k : IntKind} (h : intT P t = some k) : P.underlying t = some (.int k) := by
  unfold intT at h
  split at h
  · rename_i k' e; rw [e]; obtain rfl := Option.some.inj h; rfl
  · cases h
theorem strT_eq {t : TypeId} (h : strT P t = true) : P.underlying t = some .string := by
  unfold strT at h
  split at h <;> first | assumption | cases h
theorem elemT_eq {t e : TypeId} (h : elemT P t = some e) : P.underlying t = some (.slice e) := by
  unfold elemT at h
  split at h
  · rename_i k' e; rw [e]; obtain rfl := Option.some.inj h; rfl
  · cases h

theorem sound_extract {x : Operand} {i : Nat} {vs : List V} {v : V} (ho : o.op = .extract x i) (hx : eo fr x = some (.tup vs)) (hv : nth vs i = some v) : Sound P Γ fr hp U tk o ⟨v, [], [], none, True, L⟩ :=
  sound_pure fun a w m hR _ => by
    have hr := eo_rel hR hx
    generalize a.eval = ρ at *
    generalize hu : ρ x = u at *
    cases hr with
    | tup cs us hl h =>
      have hn : ∀ (l : List V) (i : Nat), nth l i = l[i]? := by
        intro l
        induction l with
        | nil => intro i; cases i <;> rfl
        | cons a r ih => intro i; cases i with
          | zero => rfl
          | succ i => simpa [nth] using ih i
      rw [hn] at hv
      have hi : i < us.size := by rw [← hl]; exact (List.getElem?_eq_some_iff.1 hv).1
      exact ⟨us[i], by simp [execOp, ho, go_sem, hu, Instr.extract, hi], h i v _ hv (by simp [hi])⟩

theorem sound_makeFunc {f : Nat} {first cap : Array Operand} {vs : List V} (ho : o.op = .makeFunc (.func f) first cap) (hf : first.size = 0) (hx : eos fr cap.toList = some vs) : Sound P Γ fr hp U tk o ⟨.fn f vs, [], [], none, True, L⟩ :=
  sound_pure fun a w m hR _ => by
    obtain ⟨hl, hr⟩ := eos_rel hR cap.toList vs hx
    have hf' : first = #[] := Array.eq_empty_of_size_eq_zero hf
    subst hf'
    generalize a.eval = ρ at *
    refine ⟨.func (.func f) #[] (cap.map ρ), by simp [execOp, ho, go_sem, Instr.makeFunc], .fn f vs _ (by simp [hl]) fun k x u hk hu => hr k x u hk ?_⟩
    simpa using hu

end
end Go.Abs
