/- What may be taken as known of lengths. No conditions. -/
import Derived.Test.YtninaiooagfjfaaCs
set_option linter.unusedVariables false
set_option linter.unusedSimpArgs false
namespace Go.Abs
open Go Go.RowKit

section
variable {P : Program} {nt n0 : Nat} {s : St} {φ : Exit → St → Prop} {c : Code}

theorem maxLen_eq : maxLen = 9223372036854775807 := rfl

theorem wpA_len {k : Nat} {l : List (List D)} (hk : lk s.fr k = some (.d (.lst l))) (h : l.length ≤ 9223372036854775807 → WpA P nt n0 c s φ) : WpA P nt n0 c s φ := by
  intro Γ a w m h1 h2 hR hd
  obtain ⟨u, hu, hr⟩ := hR.fr k _ hk
  refine h ?_ Γ a w m h1 h2 hR hd
  cases hr with
  | d hd => cases hd with
    | lst l A c sz cv hc hm => rw [← maxLen_eq]; omega

theorem wpA_row {k e sz : Nat} {l : List (List D)} (hk : lk s.hp k = some (.row e sz l)) (h : l.length ≤ 9223372036854775807 → (∀ row ∈ l, row.length = sz) → WpA P nt n0 c s φ) : WpA P nt n0 c s φ := by
  intro Γ a w m h1 h2 hR hd
  obtain ⟨xs, ho, hsz, _⟩ := hR.mem.hb k _ hk
  refine h ?_ hsz Γ a w m h1 h2 hR hd
  rcases ho.2 with ⟨_, h3⟩ | ⟨g, cap, cur, _, _, _, h3, h4, _⟩
  · omega
  · rw [← maxLen_eq]; omega

/-- The same, ahead of the walk. -/
theorem callsA_len {f : Nat} {args : List V} {bs : List Blk} {v : V} {bs' : List Blk} {k : Nat} {l : List (List D)} (hk : args[k]? = some (.d (.lst l))) (h : l.length ≤ 9223372036854775807 → CallsA P f args bs v bs') : CallsA P f args bs v bs' := by
  intro w m nt F us H hlen hargs
  have hlt : k < args.length := (List.getElem?_eq_some_iff.1 hk).1
  have hu : us[k]? = some (us[k]'(by omega)) := by simp [← hlen, hlt]
  refine h ?_ w m nt F us H hlen hargs
  have hr := hargs k _ _ hk hu
  generalize us[k]'(by omega) = u at hr
  cases hr with
  | d hd => cases hd with
    | lst l A c sz cv hc hm => rw [← maxLen_eq]; omega

/-- A nil slice as a row of our own that is empty. -/
theorem weak_own {s : St} {k e sz : Nat} (hk : lk s.fr k = some (.d (.lit (.slice none 0 0)))) : Weak n0 s ⟨(k, .own s.nx) :: s.fr, (s.nx, .row e sz []) :: s.hp, s.nx + 1⟩ := by
  intro Γ a w m h2 hR
  have htk : ¬ s.nx < s.nx := Nat.lt_irrefl _
  have hnew : ∀ g, blkOf (.slice none 0 0) = some g → w.heap.size ≤ g := fun g e => by cases e
  have H := hR.mem.more (w' := w) (b := .row e sz []) htk hnew (fun _ _ => rfl) (Nat.le_refl _) rfl rfl rfl ⟨[], ⟨by simp, .inl ⟨upm_self _ _ _, rfl⟩⟩, by simp, by simp, by simp⟩
  have hR2 := hR.turn (fun p u => Cw.more hR.mem htk hnew (fun _ _ => rfl) p u) (upm_lt m _ htk) (fun _ h => Or.inl h) H
  have hR3 := hR2.given (U' := fun t => t < s.nx + 1) fun t ht => by rcases ht with ht | ht <;> omega
  refine ⟨_, hR3.nt, fun i v hi => ?_, hR3.mem⟩
  rw [lk_cons] at hi
  split at hi
  · rename_i e; subst e
    obtain rfl := Option.some.inj hi
    obtain ⟨u, hu, hr⟩ := hR.fr _ _ hk
    obtain rfl := hr.lit_inv
    refine ⟨_, hu, ?_⟩
    have h9 := upm_self m s.nx (.slice none 0 0)
    have := RV.own (C := Cw Γ.F ((s.nx, .row e sz []) :: s.hp) (upm m s.nx (.slice none 0 0)) w) (m := upm m s.nx (.slice none 0 0)) (U := fun t => t < s.nx + 1) s.nx (Nat.lt_succ_self _) (by rw [h9]; rfl)
    rwa [h9] at this
  · exact hR3.fr i v hi

/-! ### ways out -/
variable {next : St → Prop} {id id' : Nat}
theorem tN (h : next s) : thenA next φ .normal s := h
theorem tE (h : φ (.exit id) s) : thenA next φ (.exit id) s := h
theorem tR (h : φ .ret s) : thenA next φ .ret s := h
theorem bN (h : φ .normal s) : blockA id φ .normal s := h
theorem bR (h : φ .ret s) : blockA id φ .ret s := h
theorem bE (h : φ .normal s) : blockA id φ (.exit id) s := by simp only [blockA, if_true]; exact h
theorem bD (hne : (id' == id) = false) (h : φ (.exit id') s) : blockA id φ (.exit id') s := by
  have : id' ≠ id := by simpa using hne
  simp only [blockA, this, if_false]; exact h

/-- Ways that meet again. -/
theorem wpA_join {x y : Code} {ι : Type} (F : ι → St) (I : ι → Prop) (h1 : WpA P nt n0 x s (thenA (fun s' => ∃ i, I i ∧ Weak n0 s' (F i)) φ)) (h2 : ∀ i, I i → WpA P nt n0 y (F i) φ) : WpA P nt n0 (.seq x y) s φ :=
  wpA_seq (h1.mono fun e s' h => by
    cases e with
    | normal => obtain ⟨i, hi, hw⟩ := h; exact (h2 i hi).weak hw
    | _ => exact h)
end
end Go.Abs
