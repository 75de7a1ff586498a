/- One operation at a time: where the function says what an operation does, the machine does that. First part: operations that touch no memory. No conditions. -/
import Derived.Test.YtninaiooagfjfaaCd
set_option linter.unusedVariables false
set_option linter.unusedSimpArgs false
namespace Go.Abs
open Go Go.RowKit

section
variable {P : Program} {Γ : Ctx} {fr : List (Nat × V)} {hp : List (Nat × Blk)} {U : Nat → Prop} {a : Act} {w w' : World} {m : Nat → Value} {tk : Nat} {L : List (Use P)} {o : Oper}
  {K : Act → World → Prop} {Q : Exit → Act → World → Prop}

theorem eval_tmp {t : Nat} {u : Value} (h : a.tmps[t]? = some u) : a.eval (.tmp t) = u := by
  simp only [Act.eval, Array.getD_eq_getD_getElem?, h, Option.getD_some]

theorem eo_rel (hR : Rel Γ fr hp U a w m) {x : Operand} {v : V} (h : eo fr x = some v) : RV (Cw Γ.F hp m w) m U v (a.eval x) := by
  cases x with
  | tmp t =>
    obtain ⟨u, hu, hr⟩ := hR.fr t v h
    rw [eval_tmp hu]; exact hr
  | const c => obtain rfl := Option.some.inj h; exact .d (.lit c)
  | global g => cases h
  | func f => obtain rfl := Option.some.inj h; exact .fn f [] #[] rfl (fun k x u hk => by simp at hk)

theorem eos_rel (hR : Rel Γ fr hp U a w m) : ∀ (xs : List Operand) (vs : List V), eos fr xs = some vs → vs.length = xs.length ∧ ∀ (k : Nat) (x : V) (u : Value), vs[k]? = some x → (xs.map a.eval)[k]? = some u → RV (Cw Γ.F hp m w) m U x u
  | [], vs, h => by obtain rfl := Option.some.inj h; exact ⟨rfl, fun k x u hk => by simp at hk⟩
  | x :: r, vs, h => by
    simp only [eos] at h
    split at h
    · rename_i v0 b h1 h2
      obtain rfl := Option.some.inj h
      obtain ⟨hl, hr⟩ := eos_rel hR r b h2
      refine ⟨by simp [hl], fun k y u hk hu => ?_⟩
      cases k with
      | zero =>
        simp only [List.getElem?_cons_zero, Option.some.injEq] at hk
        subst hk
        simp only [List.map_cons, List.getElem?_cons_zero, Option.some.injEq] at hu
        subst hu
        exact eo_rel hR h1
      | succ k =>
        simp only [List.getElem?_cons_succ] at hk
        simp only [List.map_cons, List.getElem?_cons_succ] at hu
        exact hr k y u hk hu
    · cases h

theorem RV.lit_inv {C : Addr → Value → Prop} {c u : Value} (h : RV C m U (.d (.lit c)) u) : u = c := by
  cases h with
  | d h => cases h; rfl

theorem wp_value {u : Value} (hr : (execOp a.eval o).run P w = .ok (.value u) w') (h : K (a.put o.dst u) w') : o.wp P a w K Q := by
  unfold Oper.wp; rw [hr]; exact h
theorem wp_skip' (hr : (execOp a.eval o).run P w = .ok .skip w') (h : K (a.put o.dst undef) w') : o.wp P a w K Q := by
  unfold Oper.wp; rw [hr]; exact h

theorem rel_putA (hR : Rel Γ fr hp U a w m) (hd : ∀ d, o.dst = some d → d < Γ.nt) {v : V} {u : Value} (h : RV (Cw Γ.F hp m w) m U v u) : Rel Γ (putA fr o.dst v) hp U (a.put o.dst u) w m := by
  cases hdst : o.dst with
  | none => exact hR
  | some d => exact hR.put (hd d hdst) h

theorem put_defers (a : Act) (d : Option Tmp) (u : Value) : (a.put d u).defers = a.defers := by cases d <;> rfl

/-- What an operation is shown to do. -/
def Sound (P : Program) (Γ : Ctx) (fr : List (Nat × V)) (hp : List (Nat × Blk)) (U : Nat → Prop) (tk : Nat) (o : Oper) (q : Rs P) : Prop :=
  ∀ (a : Act) (w : World) (m : Nat → Value) (K : Act → World → Prop) (Q : Exit → Act → World → Prop), Rel Γ fr hp U a w m → ¬ U tk → q.p → (∀ d, o.dst = some d → d < Γ.nt) →
    (∀ a' w' m', Rel Γ (putA fr o.dst q.v) (after hp tk q) (also U tk) a' w' m' → a'.defers = a.defers → K a' w') → o.wp P a w K Q

/-- An operation that yields a value and leaves the world. -/
theorem sound_pure {v : V} {p : Prop} (h : ∀ a w m, Rel Γ fr hp U a w m → p → ∃ u, (execOp a.eval o).run P w = .ok (.value u) w ∧ RV (Cw Γ.F hp m w) m U v u) : Sound P Γ fr hp U tk o ⟨v, [], [], none, p, L⟩ := by
  intro a w m K Q hR htk hp' hd hK
  obtain ⟨u, hr, hv⟩ := h a w m hR hp'
  exact wp_value hr (hK _ _ m ((rel_putA hR hd hv).given fun t h => .inl h) (put_defers a _ u))

theorem run_ok {α : Type} (x : α) (w : World) : (pure x : Sem α).run P w = .ok x w := rfl

theorem sound_move {x : Operand} {v : V} (ho : o.op = .move x ∨ o.op = .assign x) (h : eo fr x = some v) : Sound P Γ fr hp U tk o ⟨v, [], [], none, True, L⟩ :=
  sound_pure fun a w m hR _ => ⟨a.eval x, by rcases ho with ho | ho <;> simp [execOp, ho, go_sem], eo_rel hR h⟩

theorem RV.cd {C : Addr → Value → Prop} {x : V} {u : Value} (h : RV C m U x u) (hc : (cdV x).1 = true) : RV C m U (cdV x).2 u := by
  cases h with
  | when b x v ht hf => exact ht hc
  | d h => exact .d h
  | own t h1 h2 => exact .own t h1 h2
  | ptr t o b h1 h2 => exact .ptr t o b h1 h2
  | ept t sz j k b n c h1 h2 => exact .ept t sz j k b n c h1 h2
  | ip cs ad cv h1 h2 h3 => exact .ip cs ad cv h1 h2 h3
  | agg cs vs h1 h2 h3 => exact .agg cs vs h1 h2 h3
  | tup cs vs h1 h2 => exact .tup cs vs h1 h2
  | fn f cs vs h1 h2 => exact .fn f cs vs h1 h2
  | any => exact .any u
theorem pickV_false (x y : V) : pickV false x y = y := by
  unfold pickV
  split
  · rfl
  · split
    · rename_i h; subst h; rfl
    · rfl
  · rfl
theorem pickV_true (x y : V) : pickV true x y = x := by
  unfold pickV
  split
  · rfl
  · split
    · rfl
    · rfl
  · rfl

theorem sound_pick {c x y : Operand} {t : Bool} {va vb : V} (ho : o.op = .pick c x y) (hc : eo fr c = some (.d (.lit (.bool t)))) (hx : eo fr x = some va) (hy : eo fr y = some vb) :
    Sound P Γ fr hp U tk o ⟨pickV t (cdV va).2 (cdV vb).2, [], [], none, (t = true → (cdV va).1 = true) ∧ (t = false → (cdV vb).1 = true), L⟩ :=
  sound_pure fun a w m hR hp0 => by
    have h1 := (eo_rel hR hc).lit_inv
    have h2 := eo_rel hR hx
    have h3 := eo_rel hR hy
    generalize a.eval = ρ at *
    cases t
    · exact ⟨ρ y, by simp [execOp, ho, go_sem, h1, asBool], by rw [pickV_false]; exact h3.cd (hp0.2 rfl)⟩
    · exact ⟨ρ x, by simp [execOp, ho, go_sem, h1, asBool], by rw [pickV_true]; exact h2.cd (hp0.1 rfl)⟩

theorem sound_nil {x : Operand} {v : V} (ho : o.op = .nilCheck x) (h : eo fr x = some v) (hv : (∃ k p, v = .ptr k p) ∨ (∃ k s j p, v = .ept k s j p) ∨ (∃ ds, v = .ip ds) ∨ ∃ f cs, v = .fn f cs) : Sound P Γ fr hp U tk o ⟨v, [], [], none, True, L⟩ :=
  sound_pure fun a w m hR _ => by
    have hr := eo_rel hR h
    generalize a.eval = ρ at *
    refine ⟨ρ x, ?_, hr⟩
    generalize hu : ρ x = u at *
    rcases hv with ⟨k, p, rfl⟩ | ⟨k, s, j, p, rfl⟩ | ⟨ds, rfl⟩ | ⟨f, cs, rfl⟩ <;> cases hr <;> simp [execOp, ho, go_sem, hu]

end
end Go.Abs
