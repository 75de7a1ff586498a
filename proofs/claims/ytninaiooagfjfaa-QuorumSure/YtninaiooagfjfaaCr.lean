/- Regions and code over abstract states. No conditions. -/
import Derived.Test.YtninaiooagfjfaaCq
set_option linter.unusedVariables false
set_option linter.unusedSimpArgs false
namespace Go.Abs
open Go Go.RowKit

section
variable {P : Program} {Γ : Ctx} {fr fr' : List (Nat × V)} {hp hp' : List (Nat × Blk)} {U U' : Nat → Prop} {a : Act} {w w' : World} {m m' : Nat → Value} {tk : Nat} {L : List (Use P)} {o : Oper}
  {K : Act → World → Prop} {Q : Exit → Act → World → Prop}

theorem exec_cond {ops : List Oper} {n0 : Nat} : ∀ {os : List Oper} {tk : Nat} {fr : List (Nat × V)} {hp : List (Nat × Blk)} {p0 : Prop} {L : List (Use P)} {fr' : List (Nat × V)} {hp' : List (Nat × Blk)} {p : Prop},
    exec P n0 ops os tk fr hp p0 L = some (fr', hp', p) → p → p0
  | [], tk, fr, hp, p0, L, fr', hp', p, h, hp0 => by
    simp only [exec, Option.some.injEq, Prod.mk.injEq] at h
    rw [h.2.2]; exact hp0
  | o :: r, tk, fr, hp, p0, L, fr', hp', p, h, hp0 => by
    simp only [exec] at h
    split at h
    · split at h
      · exact (exec_cond h hp0).1
      · cases h
    · split at h
      · cases h
      · split at h
        · exact (exec_cond h hp0).1
        · cases h

/-- What the guard of an operation says. -/
theorem want_sound (hR : Rel Γ fr hp U a w m) {ops : Array Oper} {j : Nat} {want g : Bool} (hg : o.guard = some (j, want)) (h : wantA ops.toList fr j want = some g) : Region.wanted o (yielded ops a.tmps) = g := by
  unfold wantA at h
  unfold Region.wanted
  rw [hg]
  simp only []
  split at h
  · rename_i oj hj
    split at h
    · rename_i t ht
      rw [nth_eq, Array.getElem?_toList] at hj
      have hy : ((ops[j]?).bind (·.dst)).bind (a.tmps[·]?) = a.tmps[t]? := by rw [hj]; simp [ht]
      unfold yielded
      rw [hy]
      split at h
      · rename_i b' hl
        obtain ⟨u, hu, hr⟩ := hR.fr t _ hl
        obtain rfl := hr.lit_inv
        rw [hu]
        obtain rfl := Option.some.inj h
        simp
      · rename_i vs hl
        obtain ⟨u, hu, hr⟩ := hR.fr t _ hl
        obtain rfl := hr.lit_inv
        rw [hu]
        obtain rfl := Option.some.inj h
        simp
      · rename_i c b' hl
        obtain ⟨u, hu, hr⟩ := hR.fr t _ hl
        obtain rfl := Option.some.inj h
        rw [hu]
        cases hr with
        | when _ _ _ ht hf =>
          cases c with
          | true => obtain rfl := (ht rfl).lit_inv; simp
          | false => obtain rfl := hf rfl; simp [undef]
      · cases h
    · cases h
  · cases h

theorem under_rel (hR : Rel Γ fr hp U a w m) : ∀ {ts : List Nat}, owes fr true ts → Rel Γ (under fr ts) hp U a w m
  | [], _ => hR
  | t :: r, h => by
    simp only [under]
    have ih := under_rel hR h.2
    split
    · rename_i c v hl
      have hc : c = true := by have := h.1; rw [hl] at this; exact this rfl
      refine ⟨ih.nt, fun i x hi => ?_, ih.mem⟩
      rw [lk_cons] at hi
      split at hi
      · rename_i e; subst e
        obtain rfl := Option.some.inj hi
        obtain ⟨u, hu, hr⟩ := hR.fr _ _ hl
        cases hr with
        | when _ _ _ ht hf => exact ⟨u, hu, ht hc⟩
      · exact ih.fr i x hi
    · exact ih

/-- What was known ahead of an operation under a guard, is known behind it. -/
theorem under_back {d : Option Tmp} {v v' : V} (hv : ∀ C u, RV C m U v u → RV C m U v' u) : ∀ {ts : List Nat}, owes fr true ts → Rel Γ (putA (under fr ts) d v) hp U a w m → Rel Γ (putA fr d v') hp U a w m := by
  intro ts ho hR
  have key : ∀ (ts : List Nat), owes fr true ts → ∀ i x, lk fr i = some x → ∃ y, lk (under fr ts) i = some y ∧ ∀ C u, RV C m U y u → RV C m U x u := by
    intro ts
    induction ts with
    | nil => exact fun _ i x hi => ⟨x, hi, fun _ _ h => h⟩
    | cons t r ih =>
      intro ho i x hi
      simp only [under]
      split
      · rename_i c v hl
        have hc : c = true := by have := ho.1; rw [hl] at this; exact this rfl
        rw [lk_cons]
        split
        · rename_i e; subst e
          rw [hl] at hi
          obtain rfl := Option.some.inj hi
          subst hc
          exact ⟨v, rfl, fun C u h => .when true v u (fun _ => h) (fun e => by cases e)⟩
        · exact ih ho.2 i x hi
      · exact ih ho.2 i x hi
  refine ⟨hR.nt, fun i x hi => ?_, hR.mem⟩
  cases d with
  | none =>
    obtain ⟨y, hy, hyx⟩ := key ts ho i x hi
    obtain ⟨u, hu, hr⟩ := hR.fr i y hy
    exact ⟨u, hu, hyx _ _ hr⟩
  | some d =>
    simp only [putA] at hi hR
    rw [lk_cons] at hi
    split at hi
    · rename_i e; subst e
      obtain rfl := Option.some.inj hi
      obtain ⟨u, hu, hr⟩ := hR.fr d v (lk_cons_self _ _ _)
      exact ⟨u, hu, hv _ _ hr⟩
    · rename_i hne
      obtain ⟨y, hy, hyx⟩ := key ts ho i x hi
      obtain ⟨u, hu, hr⟩ := hR.fr i y (by rw [lk_cons_ne _ _ hne]; exact hy)
      exact ⟨u, hu, hyx _ _ hr⟩

theorem exec_sound {ops : Array Oper} : ∀ {os : List Oper} {tk : Nat} {fr : List (Nat × V)} {hp : List (Nat × Blk)} {p0 : Prop} {L : List (Use P)} {fr' : List (Nat × V)} {hp' : List (Nat × Blk)} {p : Prop} {a : Act} {w : World} {m : Nat → Value},
    exec P Γ.n0 ops.toList os tk fr hp p0 L = some (fr', hp', p) → p → (∀ o ∈ os, ∀ d, o.dst = some d → d < Γ.nt) → Rel Γ fr hp (fun t => t < tk) a w m →
    (∀ a' w' m', Rel Γ fr' hp' (fun t => t < tk + os.length) a' w' m' → a'.defers = a.defers → Q .normal a' w') → wpList P ops Q os a w
  | [], tk, fr, hp, p0, L, fr', hp', p, a, w, m, h, hp0, hd, hR, hK => by
    simp only [exec, Option.some.injEq, Prod.mk.injEq] at h
    obtain ⟨rfl, rfl, -⟩ := h
    exact hK _ _ _ (by simpa using hR) rfl
  | o :: r, tk, fr, hp, p0, L, fr', hp', p, a, w, m, h, hp0, hd, hR, hK => by
    have go : ∀ {fr1 : List (Nat × V)} {hp1 : List (Nat × Blk)} {p1 : Prop} {L1 : List (Use P)}, exec P Γ.n0 ops.toList r (tk + 1) fr1 hp1 p1 L1 = some (fr', hp', p) →
        ∀ a' w' m', Rel Γ fr1 hp1 (also (fun t => t < tk) tk) a' w' m' → a'.defers = a.defers → wpList P ops Q r a' w' := fun h' a' w' m' hR' hdef =>
      exec_sound h' hp0 (fun o ho => hd o (List.mem_cons_of_mem _ ho)) (hR'.given fun t ht => by rcases ht with ht | ht <;> omega) fun a2 w2 m2 h2 hd2 => hK a2 w2 m2 (h2.given fun t ht => by simp only [List.length_cons]; omega) (hd2.trans hdef)
    have skip : ∀ {v : V} {p1 : Prop} {L1 : List (Use P)}, (∀ C, RV C m (fun t => t < tk) v undef) → Region.wanted o (yielded ops a.tmps) = false → exec P Γ.n0 ops.toList r (tk + 1) (putA fr o.dst v) hp p1 L1 = some (fr', hp', p) → wpList P ops Q (o :: r) a w := fun hv hw h' => by
      unfold wpList
      rw [if_neg (by rw [hw]; exact Bool.false_ne_true)]
      exact go h' _ _ m ((rel_putA hR (hd o List.mem_cons_self) (hv _)).given fun t ht => .inl ht) (put_defers a _ _)
    simp only [exec] at h
    split at h
    · rename_i hg
      split at h
      · rename_i q hq
        unfold wpList
        rw [if_pos (by simp [Region.wanted, hg])]
        exact .inl (stp_sound hq a w m _ _ hR (Nat.lt_irrefl tk) (exec_cond h hp0).2 (hd o List.mem_cons_self) fun a' w' m' hR' hdef => go h a' w' m' hR' hdef)
      · cases h
    · rename_i j want hg
      split at h
      · cases h
      · rename_i g hw
        have hw := want_sound hR hg hw
        split at h
        · rename_i fr1 hp1 p1 L1 hgd
          have hp1 := (exec_cond h hp0).2
          unfold guarded at hgd
          split at hgd
          · cases g with
            | true => cases hgd
            | false =>
              simp only [cond_false, Option.some.injEq, Prod.mk.injEq] at hgd
              obtain ⟨rfl, rfl, rfl, rfl⟩ := hgd
              exact skip (fun C => .d (.lit undef)) hw h
          · rename_i q hq
            split at hgd
            · rename_i h1 h2 h3
              simp only [Option.some.injEq, Prod.mk.injEq] at hgd
              obtain ⟨rfl, rfl, rfl, rfl⟩ := hgd
              cases g with
              | false => exact skip (fun C => .when false q.v undef (fun e => by cases e) (fun _ => rfl)) hw h
              | true =>
                unfold wpList
                rw [if_pos hw]
                refine .inl (stp_sound hq a w m _ _ (under_rel hR hp1.1) (Nat.lt_irrefl tk) (hp1.2 rfl) (hd o List.mem_cons_self) fun a' w' m' hR' hdef => go h a' w' m' ?_ hdef)
                have e : after hp tk q = hp := by simp [after, h1, h2, h3, delAll]
                rw [e] at hR'
                exact under_back (fun C u h => .when true q.v u (fun _ => h) (fun e => by cases e)) hp1.1 hR'
            · cases g with
              | false =>
                simp only [cond_false, Option.some.injEq, Prod.mk.injEq] at hgd
                obtain ⟨rfl, rfl, rfl, rfl⟩ := hgd
                exact skip (fun C => .d (.lit undef)) hw h
              | true =>
                simp only [cond_true, Option.some.injEq, Prod.mk.injEq] at hgd
                obtain ⟨rfl, rfl, rfl, rfl⟩ := hgd
                unfold wpList
                rw [if_pos hw]
                exact .inl (stp_sound hq a w m _ _ (under_rel hR hp1.1) (Nat.lt_irrefl tk) hp1.2 (hd o List.mem_cons_self) fun a' w' m' hR' hdef => go h a' w' m' (under_back (fun C u h => h) hp1.1 hR') hdef)
        · cases h

/-- Code over abstract states. -/
def WpA (P : Program) (nt n0 : Nat) (c : Code) (s : St) (φ : Exit → St → Prop) : Prop :=
  ∀ (Γ : Ctx) (a : Act) (w : World) (m : Nat → Value), Γ.nt = nt → Γ.n0 = n0 → Rel Γ s.fr s.hp (fun t => t < s.nx) a w m → a.defers = [] →
    c.wp P (fun e a' w' => ∃ s' m', φ e s' ∧ Rel Γ s'.fr s'.hp (fun t => t < s'.nx) a' w' m' ∧ a'.defers = []) a w

def thenA (next : St → Prop) (φ : Exit → St → Prop) : Exit → St → Prop
  | .normal, s => next s
  | e, s => φ e s
def blockA (id : Nat) (φ : Exit → St → Prop) : Exit → St → Prop
  | .exit id', s => if id' = id then φ .normal s else φ (.exit id') s
  | e, s => φ e s

variable {nt n0 : Nat} {s : St} {φ : Exit → St → Prop}

theorem WpA.mono {c : Code} {φ' : Exit → St → Prop} (h : WpA P nt n0 c s φ) (hq : ∀ e s, φ e s → φ' e s) : WpA P nt n0 c s φ' :=
  fun Γ a w m h1 h2 hR hd => wp_mono (h Γ a w m h1 h2 hR hd) fun e a w ⟨s', m', h3, h4⟩ => ⟨s', m', hq _ _ h3, h4⟩

theorem wpA_skip (h : φ .normal s) : WpA P nt n0 .skip s φ := fun Γ a w m h1 h2 hR hd => wp_skip ⟨s, m, h, hR, hd⟩
theorem wpA_exit {id : Nat} (h : φ (.exit id) s) : WpA P nt n0 (.exit id) s φ := fun Γ a w m h1 h2 hR hd => wp_exit ⟨s, m, h, hR, hd⟩
theorem wpA_ret (h : φ .ret s) : WpA P nt n0 .ret s φ := fun Γ a w m h1 h2 hR hd => wp_ret ⟨s, m, h, hR, hd⟩

theorem wpA_seq {x y : Code} (h : WpA P nt n0 x s (thenA (fun s' => WpA P nt n0 y s' φ) φ)) : WpA P nt n0 (.seq x y) s φ :=
  fun Γ a w m h1 h2 hR hd => wp_seq (wp_mono (h Γ a w m h1 h2 hR hd) fun e a' w' ⟨s', m', h3, h4, h5⟩ => by
    cases e with
    | normal => exact h3 Γ a' w' m' h1 h2 h4 h5
    | _ => exact ⟨s', m', h3, h4, h5⟩)

theorem wpA_block {id : Nat} {c : Code} (h : WpA P nt n0 c s (blockA id φ)) : WpA P nt n0 (.block id c) s φ :=
  fun Γ a w m h1 h2 hR hd => wp_block (wp_mono (h Γ a w m h1 h2 hR hd) fun e a' w' ⟨s', m', h3, h4, h5⟩ => by
    cases e with
    | exit id' =>
      simp only [Exit.inBlock]
      simp only [blockA] at h3
      split
      · rename_i e; rw [if_pos e] at h3; exact ⟨s', m', h3, h4, h5⟩
      · rename_i e; rw [if_neg e] at h3; exact ⟨s', m', h3, h4, h5⟩
    | _ => exact ⟨s', m', h3, h4, h5⟩)

theorem wpA_cond {c : Operand} {x y : Code} {t : Bool} (hc : eo s.fr c = some (.d (.lit (.bool t)))) (hx : t = true → WpA P nt n0 x s φ) (hy : t = false → WpA P nt n0 y s φ) : WpA P nt n0 (.cond c x y) s φ :=
  fun Γ a w m h1 h2 hR hd => wp_cond_split (t := t) (eo_rel hR hc).lit_inv (fun e => hx e Γ a w m h1 h2 hR hd) (fun e => hy e Γ a w m h1 h2 hR hd)

/-- A state that tells no more than another. -/
def Weak (n0 : Nat) (s s' : St) : Prop :=
  ∀ (Γ : Ctx) (a : Act) (w : World) (m : Nat → Value), Γ.n0 = n0 → Rel Γ s.fr s.hp (fun t => t < s.nx) a w m → ∃ m', Rel Γ s'.fr s'.hp (fun t => t < s'.nx) a w m'

theorem Weak.refl (n0 : Nat) (s : St) : Weak n0 s s := fun Γ a w m _ h => ⟨m, h⟩
theorem Weak.trans {s1 s2 s3 : St} (h : Weak n0 s1 s2) (h' : Weak n0 s2 s3) : Weak n0 s1 s3 := fun Γ a w m e hR => let ⟨m', h2⟩ := h Γ a w m e hR; h' Γ a w m' e h2

theorem WpA.weak {c : Code} {s' : St} (h : WpA P nt n0 c s' φ) (hw : Weak n0 s s') : WpA P nt n0 c s φ :=
  fun Γ a w m h1 h2 hR hd => let ⟨m', hR'⟩ := hw Γ a w m h2 hR; h Γ a w m' h1 h2 hR' hd

/-- The temporaries that are kept. -/
def trim : List Nat → List (Nat × V) → List (Nat × V)
  | [], _ => []
  | k :: r, fr => match lk fr k with | some v => (k, v) :: trim r fr | none => trim r fr
theorem trim_sub : ∀ (ks : List Nat) (fr : List (Nat × V)) (i : Nat) (v : V), lk (trim ks fr) i = some v → lk fr i = some v
  | [], fr, i, v, h => by simp [trim, lk] at h
  | k :: r, fr, i, v, h => by
    simp only [trim] at h
    split at h
    · rename_i v' hv
      rw [lk_cons] at h
      split at h
      · rename_i e; subst e; rw [hv]; exact h
      · exact trim_sub r fr i v h
    · exact trim_sub r fr i v h

def dstB (nt : Nat) : List Oper → Bool
  | [] => true
  | o :: r => (match o.dst with | some d => d.blt nt | none => true) && dstB nt r
theorem dstB_spec : ∀ {ops : List Oper}, dstB nt ops = true → ∀ o ∈ ops, ∀ d, o.dst = some d → d < nt
  | [], _, o, h, _, _ => by cases h
  | x :: r, hb, o, h, d, hd => by
    rw [dstB, Bool.and_eq_true] at hb
    rcases List.mem_cons.1 h with rfl | h
    · have := hb.1
      rw [hd] at this
      exact Nat.le_of_ble_eq_true this
    · exact dstB_spec hb.2 o h d hd

/-- A region's run, trimmed: the state behind it and the condition. -/
def reg (P : Program) (n0 : Nat) (ops : List Oper) (ks : List Nat) (L : List (Use P)) (s : St) : Option (St × Prop) :=
  match exec P n0 ops ops s.nx s.fr s.hp True L with
  | some (fr', hp', p) => some (⟨trim ks fr', hp', s.nx + ops.length⟩, p)
  | none => none

theorem wpA_region {id : Nat} {ops : Array Oper} {s' : St} {p : Prop} (ks : List Nat) (L : List (Use P)) (hd : dstB nt ops.toList = true) (he : reg P n0 ops.toList ks L s = some (s', p)) (hp : p) (h : φ .normal s') :
    WpA P nt n0 (.region id ops false) s φ := by
  unfold reg at he
  split at he
  · rename_i fr' hp' p' hx
    obtain ⟨rfl, rfl⟩ := Prod.mk.inj (Option.some.inj he)
    intro Γ a w m h1 h2 hR hdef
    subst h1 h2
    exact wp_region_list (exec_sound hx hp (dstB_spec hd) hR fun a' w' m' hR' hd' => ⟨_, m', h, hR'.forget (trim_sub ks fr'), hd'.trans hdef⟩)
  · cases he

theorem wpA_reg {id : Nat} {ops : Array Oper} {s' : St} {p : Prop} {y : Code} (ks : List Nat) (L : List (Use P)) (hd : dstB nt ops.toList = true) (he : reg P n0 ops.toList ks L s = some (s', p)) (hp : p) (h : WpA P nt n0 y s' φ) :
    WpA P nt n0 (.seq (.region id ops false) y) s φ :=
  wpA_seq (wpA_region ks L hd he hp h)

/-- A loop: a family of states, by an index that goes down. -/
theorem wpA_loop {c : Code} {ι : Type} (F : ι → St) (I : ι → Prop) (μ : ι → Nat) (i0 : ι) (hw : Weak n0 s (F i0)) (h0 : I i0)
    (round : ∀ i, I i → WpA P nt n0 c (F i) (thenA (fun s' => ∃ i', I i' ∧ μ i' < μ i ∧ Weak n0 s' (F i')) φ)) : WpA P nt n0 (.loop c) s φ := by
  intro Γ a w m h1 h2 hR hd
  intro b kk cs
  have key : ∀ (k : Nat) (i : ι) (a : Act) (w : World) (m : Nat → Value), μ i = k → I i → Rel Γ (F i).fr (F i).hp (fun t => t < (F i).nx) a w m → a.defers = [] →
      ∃ e a' w', (∃ s' m', φ e s' ∧ Rel Γ s'.fr s'.hp (fun t => t < s'.nx) a' w' m' ∧ a'.defers = []) ∧ Arrives P (lone (b.at a (.code c :: .inLoop c :: kk)) cs w) b kk cs e a' w' := by
    intro k
    induction k using Nat.strongRecOn with
    | _ k ih =>
      intro i a w m hk hI hR hd
      obtain ⟨e, a1, w1, hq, harr⟩ := round i hI Γ a w m h1 h2 hR hd b (.inLoop c :: kk) cs
      obtain ⟨s', m', h3, h4, h5⟩ := hq
      cases e with
      | normal =>
        obtain ⟨i', hI', hlt, hwk⟩ := h3
        obtain ⟨m2, hR2⟩ := hwk Γ a1 w1 m' h2 h4
        obtain ⟨e2, a2, w2, hq2, harr2⟩ := ih (μ i') (hk ▸ hlt) i' a1 w1 m2 rfl hI' hR2 h5
        exact ⟨e2, a2, w2, hq2, .of_steps (Steps.trans harr (.one step_inLoop)) harr2⟩
      | exit id => exact ⟨_, a1, w1, ⟨s', m', h3, h4, h5⟩, .pass (x := .inLoop c) rfl (fun _ _ => .inl (by simp)) harr⟩
      | goto l => exact ⟨_, a1, w1, ⟨s', m', h3, h4, h5⟩, .pass (x := .inLoop c) rfl (fun _ _ => .inl (by simp)) harr⟩
      | ret => exact ⟨_, a1, w1, ⟨s', m', h3, h4, h5⟩, .pass (x := .inLoop c) rfl (fun _ _ => .inl (by simp)) harr⟩
      | panic ch => exact ⟨_, a1, w1, ⟨s', m', h3, h4, h5⟩, .pass (x := .inLoop c) rfl (fun _ _ => .inl (by simp)) harr⟩
      | outgrown => exact ⟨_, a1, w1, ⟨s', m', h3, h4, h5⟩, .pass (x := .inLoop c) rfl (fun _ _ => .inl (by simp)) harr⟩
  obtain ⟨m', hR'⟩ := hw Γ a w m h2 hR
  obtain ⟨e, a', w', hq, harr⟩ := key _ i0 a w m' rfl h0 hR' hd
  exact ⟨e, a', w', hq, .of_steps (.one step_loop) harr⟩

/-- The first tokens keep their numbers. -/
def firsts : List Nat → Nat → Nat → Prop
  | _, 0, _ => True
  | [], _ + 1, _ => False
  | t :: r, n + 1, i => t = i ∧ firsts r n (i + 1)
theorem firsts_spec : ∀ {ts : List Nat} {n i : Nat}, firsts ts n i → ∀ k, k < n → ts[k]? = some (i + k)
  | _, 0, i, _, k, hk => by omega
  | [], n + 1, i, h, k, hk => h.elim
  | t :: r, n + 1, i, h, k, hk => by
    cases k with
    | zero => simp [h.1]
    | succ k => simp only [List.getElem?_cons_succ]; rw [firsts_spec h.2 k (by omega)]; congr 1; omega

/-- The temporaries, seen anew. -/
def leF (hp : List (Nat × Blk)) (ts : List Nat) (fr : List (Nat × V)) : List (Nat × V) → Prop
  | [] => True
  | (k, v) :: r => (match lk fr k with | some u => le (snap hp ts u) v | none => False) ∧ leF hp ts fr r
theorem leF_spec {ts : List Nat} : ∀ {fr' : List (Nat × V)}, leF hp ts fr fr' → ∀ i v, lk fr' i = some v → ∃ u, lk fr i = some u ∧ le (snap hp ts u) v
  | [], _, i, v, h => by simp [lk] at h
  | (k, v0) :: r, h0, i, v, h => by
    rw [lk_cons] at h
    split at h
    · rename_i e
      subst e
      obtain rfl := Option.some.inj h
      have := h0.1
      split at this
      · rename_i u hu; exact ⟨u, hu, this⟩
      · exact this.elim
    · exact leF_spec h0.2 i v h

/-- A state seen anew: tokens numbered anew, rows read as data. -/
theorem weak_of {fr' : List (Nat × V)} {bs : List Blk} (ts : List Nat) (hn : firsts ts n0 0) (hnd : ts.Nodup) (hb : hands s.hp ts ts bs) (hf : leF s.hp ts s.fr fr') : Weak n0 s ⟨fr', enum bs 0, bs.length⟩ := by
  intro Γ a w m h2 hR
  subst h2
  obtain ⟨hlen, hspec⟩ := hands_spec s.hp ts ts bs hb
  let mc : Nat → Value := fun i => m ((nth ts i).getD 0)
  have hmc : ∀ (i t : Nat), ts[i]? = some t → mc i = m t := fun i t hi => by
    show m ((nth ts i).getD 0) = m t
    rw [nth_eq, hi]; rfl
  have HH : ∀ gone, Hands Γ s.hp (fun t => t < s.nx) w m ts gone bs.length Γ.F mc (enum bs 0) := fun gone =>
    ⟨hR.mem, fun i t hi => by obtain ⟨b', _, h1, _⟩ := hspec i t hi; exact ⟨b', h1⟩, hlen, hmc, fun i b hi => by rw [lk_enum, if_pos (Nat.zero_le _), Nat.sub_zero] at hi; exact (List.getElem?_eq_some_iff.1 hi).1, fun g hg => .inl hg⟩
  have H := (HH _).relH Γ.nt hb hnd (.inr fun t ht => ht)
  have hfst := firsts_spec hn
  have hle : Γ.n0 ≤ bs.length := by
    rcases Nat.eq_zero_or_pos Γ.n0 with h | h
    · omega
    · have := hfst (Γ.n0 - 1) (by omega)
      have := (List.getElem?_eq_some_iff.1 this).1
      omega
  refine ⟨mc, hR.nt, fun i v hi => ?_, H.hb, H.sep, H.lt, fun i b g hi hg hn' => ?_, fun i hi => ?_, fun i hi => Nat.lt_of_lt_of_le hi hle, H.nF, hR.mem.hF, hR.mem.keeps⟩
  · obtain ⟨u, hu, hle'⟩ := leF_spec hf i v hi
    obtain ⟨x, hx, hr⟩ := hR.fr i u hu
    exact ⟨x, hx, le_rel ((HH _).snap hr (.inr fun t ht => ht)) hle'⟩
  · rw [lk_enum, if_pos (Nat.zero_le _), Nat.sub_zero] at hi
    have hlt : i < bs.length := (List.getElem?_eq_some_iff.1 hi).1
    have hti : ts[i]? = some (ts[i]'(by omega)) := by simp [hlen, hlt]
    obtain ⟨b', _, h1, _⟩ := hspec i _ hti
    rw [hmc i _ hti] at hg
    refine hR.mem.new _ b' g h1 hg (Nat.le_of_not_lt fun hlt' => ?_)
    have h3 := hfst _ hlt'
    rw [Nat.zero_add] at h3
    have := (List.getElem?_inj (i := i) (j := ts[i]'(by omega)) (by omega) hnd).1 (hti.trans h3.symm)
    omega
  · have h3 := hfst i hi
    rw [Nat.zero_add] at h3
    rw [hmc i i h3]; exact hR.mem.old i hi

/-! ### a function -/
def argsE : List V → Nat → List (Nat × V)
  | [], _ => []
  | x :: r, i => (i, x) :: argsE r (i + 1)
theorem lk_argsE : ∀ (l : List V) (i0 i : Nat), lk (argsE l i0) i = if i0 ≤ i then l[i - i0]? else none
  | [], i0, i => by simp [argsE, lk]
  | b :: r, i0, i => by
    rw [argsE, lk_cons, lk_argsE r]
    by_cases h : i0 = i
    · subst h; simp
    · rw [if_neg h]
      by_cases h2 : i0 + 1 ≤ i
      · rw [if_pos h2, if_pos (by omega), show i - i0 = (i - (i0 + 1)) + 1 by omega, List.getElem?_cons_succ]
      · rw [if_neg h2, if_neg (by omega)]

/-- The value that a function gives, out of its results' temporaries. -/
def resV (fr : List (Nat × V)) : List ResultVar → Option (List V)
  | [] => some []
  | .tmp t :: r => match lk fr t, resV fr r with | some v, some l => some (v :: l) | _, _ => none
  | _ => none
def resOne : List V → V
  | [v] => v
  | l => .tup l

def endA (n0 : Nat) (rs : List ResultVar) (v : V) (bs' : List Blk) (e : Exit) (s : St) : Prop :=
  (e = .normal ∨ e = .ret) ∧ ∃ fr' l, Weak n0 s ⟨fr', enum bs' 0, bs'.length⟩ ∧ resV fr' rs = some l ∧ v = resOne l

/-- What 'results' does with one result. -/
def resF (tmps : Array Value) : ResultVar → Sem Value
  | .tmp t => pure (tmps.getD t undef)
  | .cell a t => do loadVar t (← asAddr (tmps.getD a undef))

theorem results_eq (fn : Func) (tmps : Array Value) : results fn tmps = (do let vs ← fn.results.mapM (resF tmps); pure (if h : vs.size = 1 then vs[0] else .tuple vs)) := by
  unfold results
  congr 1

theorem resV_run : ∀ {rs : List ResultVar} {l : List V}, resV fr rs = some l → Rel Γ fr hp U a w m →
    ∃ us : List Value, (rs.mapM (resF a.tmps)).run P w = .ok us w ∧ l.length = us.length ∧ ∀ (k : Nat) (x : V) (u : Value), l[k]? = some x → us[k]? = some u → RV (Cw Γ.F hp m w) m U x u
  | [], l, h, hR => by
    obtain rfl := Option.some.inj h
    exact ⟨[], by simp [go_sem], rfl, by simp⟩
  | .tmp t :: r, l, h, hR => by
    simp only [resV] at h
    split at h
    · rename_i v l' h1 h2
      obtain rfl := Option.some.inj h
      obtain ⟨us, i1, i2, i3⟩ := resV_run h2 hR
      obtain ⟨u, hu, hr⟩ := hR.fr t v h1
      refine ⟨u :: us, ?_, by simp [i2], fun k x z hk hz => ?_⟩
      · have e : resF a.tmps (.tmp t) = pure u := by simp [resF, hu]
        rw [List.mapM_cons, e]
        simp [go_sem, Sem.run_bind, i1]
      · cases k with
        | zero => simp at hk hz; subst hk hz; exact hr
        | succ k => exact i3 k x z (by simpa using hk) (by simpa using hz)
    · cases h
  | .cell x t :: r, l, h, hR => by simp [resV] at h

theorem results_run {fn : Func} {l : List V} (h : resV fr fn.results.toList = some l) (hR : Rel Γ fr hp U a w m) : ∃ u, (results fn a.tmps).run P w = .ok u w ∧ RV (Cw Γ.F hp m w) m U (resOne l) u := by
  obtain ⟨us, h1, h2, h3⟩ := resV_run (P := P) h hR
  have e : (results fn a.tmps).run P w = .ok (if h : us.toArray.size = 1 then us.toArray[0] else .tuple us.toArray) w := by
    rw [results_eq, Array.mapM_eq_mapM_toList]
    simp [go_sem, Sem.run_bind, Sem.run_map, h1]
  refine ⟨_, e, ?_⟩
  clear e h1
  match l, us, h2, h3 with
  | [], [], _, _ => exact .tup [] #[] rfl (by simp)
  | [v], [u], _, h3 => exact h3 0 v u rfl rfl
  | v :: v' :: l, u :: u' :: us, hl, h3 => exact .tup _ _ (by simpa using hl) fun k x z hk hz => h3 k x z hk (by simpa using hz)

theorem callsA_of {f : Nat} {fn : Func} {c : Code} {args : List V} {bs : List Blk} {v : V} {bs' : List Blk} (hf : P.funcs[f]? = some fn) (hb : fn.body = some c) (hl : args.length ≤ fn.ntmps)
    (h : WpA P fn.ntmps bs.length c ⟨argsE args 0, enum bs 0, bs.length⟩ (endA bs.length fn.results.toList v bs')) : CallsA P f args bs v bs' := by
  intro w m nt F us H hlen hargs
  refine calls_of_wp hf hb (wp_mono (h ⟨w, bs.length, m, fn.ntmps, F⟩ _ w m rfl rfl ⟨?_, fun i x hi => ?_, ⟨H.hb, H.sep, H.lt, H.new, H.old, H.n0, H.nF, H.hF, ⟨H.keeps.os, H.keeps.tape, H.keeps.output, H.keeps.size, H.keeps.block⟩⟩⟩ rfl) fun e a' w' hq => ?_)
  · simp; omega
  · rw [lk_argsE, if_pos (Nat.zero_le _), Nat.sub_zero] at hi
    have hlt : i < args.length := (List.getElem?_eq_some_iff.1 hi).1
    have hu : us[i]? = some (us[i]'(by omega)) := by simp [← hlen, hlt]
    refine ⟨_, ?_, hargs i x _ hi hu⟩
    show (us ++ Array.replicate (fn.ntmps - us.size) undef)[i]? = _
    rw [Array.getElem?_append_left (by omega)]; exact hu
  · obtain ⟨s', m', ⟨he, fr', l, hw, hr, rfl⟩, hR, hd⟩ := hq
    obtain ⟨m2, hR2⟩ := hw _ a' w' m' rfl hR
    obtain ⟨u, hu1, hu2⟩ := results_run (P := P) hr hR2
    have H2 := hR2.mem
    have body : a'.defers = [] ∧ ∃ v, (results fn a'.tmps).run P w' = .ok v w' ∧ ∃ u m' U', Ending.returned v = .returned u ∧ RelH ⟨w, bs.length, m, nt, F⟩ (enum bs' 0) U' w' m' ∧ RV (Cw F (enum bs' 0) m' w') m' U' (resOne l) u := by
      exact ⟨hd, u, hu1, u, m2, _, rfl, ⟨H2.hb, H2.sep, H2.lt, H2.new, H2.old, H2.n0, H2.nF, H2.hF, ⟨H2.keeps.os, H2.keeps.tape, H2.keeps.output, H2.keeps.size, H2.keeps.block⟩⟩, hu2⟩
    rcases he with rfl | rfl
    · exact body
    · exact body
end
end Go.Abs
