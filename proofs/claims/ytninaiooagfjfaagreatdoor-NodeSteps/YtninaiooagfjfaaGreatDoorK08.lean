/- Regions and code over abstract states. What one operation does, kind by kind, for simp. What may be taken as known of lengths. A block of ours that a callee without a walk has written. What a datum's reading is as data: any type made of numbers, truth values, strings, slices and structs. No conditions. -/
import Derived.Test.YtninaiooagfjfaaGreatDoorK07
import Derived.Lib.SortBridge
import Derived.Deep.Slices
set_option linter.unusedVariables false
set_option linter.unusedSimpArgs false
namespace Go.Abs
open Go Go.RowKit

section
variable {P : Program} {Γ : Ctx} {fr fr' : List (Nat × V)} {hp hp' : List (Nat × Blk)} {U U' : Nat → Prop} {a : Act} {w w' : World} {m m' : Nat → Value} {tk : Nat} {L : List (Use P)} {o : Oper}
  {K : Act → World → Prop} {Q : Exit → Act → World → Prop}

theorem exec_cond {ops : List Oper} {n0 : Nat} : ∀ {os : List Oper} {tk : Nat} {fr : List (Nat × V)} {hp : List (Nat × Blk)} {p0 : Prop} {L : List (Use P)} {fr' : List (Nat × V)} {hp' : List (Nat × Blk)} {p : Prop},
    exec P n0 ops os tk fr hp p0 L = some (fr', hp', p) → p → p0
  | [], tk, fr, hp, p0, L, fr', hp', p, h, hp0 => by
    simp only [exec, Option.some.injEq, Prod.mk.injEq] at h
    rw [h.2.2]; exact hp0
  | o :: r, tk, fr, hp, p0, L, fr', hp', p, h, hp0 => by
    simp only [exec] at h
    split at h
    · split at h
      · exact (exec_cond h hp0).1
      · cases h
    · split at h
      · cases h
      · split at h
        · exact (exec_cond h hp0).1
        · cases h

/-- What the guard of an operation says. -/
theorem want_sound (hR : Rel Γ fr hp U a w m) {ops : Array Oper} {j : Nat} {want g : Bool} (hg : o.guard = some (j, want)) (h : wantA ops.toList fr j want = some g) : Region.wanted o (yielded ops a.tmps) = g := by
  unfold wantA at h
  unfold Region.wanted
  rw [hg]
  simp only []
  split at h
  · rename_i oj hj
    split at h
    · rename_i t ht
      rw [nth_eq, Array.getElem?_toList] at hj
      have hy : ((ops[j]?).bind (·.dst)).bind (a.tmps[·]?) = a.tmps[t]? := by rw [hj]; simp [ht]
      unfold yielded
      rw [hy]
      split at h
      · rename_i b' hl
        obtain ⟨u, hu, hr⟩ := hR.fr t _ hl
        obtain rfl := hr.lit_inv
        rw [hu]
        obtain rfl := Option.some.inj h
        simp
      · rename_i vs hl
        obtain ⟨u, hu, hr⟩ := hR.fr t _ hl
        obtain rfl := hr.lit_inv
        rw [hu]
        obtain rfl := Option.some.inj h
        simp
      · rename_i c b' hl
        obtain ⟨u, hu, hr⟩ := hR.fr t _ hl
        obtain rfl := Option.some.inj h
        rw [hu]
        cases hr with
        | when _ _ _ ht hf =>
          cases c with
          | true => obtain rfl := (ht rfl).lit_inv; simp
          | false => obtain rfl := hf rfl; simp [undef]
      · cases h
    · cases h
  · cases h

theorem under_rel (hR : Rel Γ fr hp U a w m) : ∀ {ts : List Nat}, owes fr true ts → Rel Γ (under fr ts) hp U a w m
  | [], _ => hR
  | t :: r, h => by
    simp only [under]
    have ih := under_rel hR h.2
    split
    · rename_i c v hl
      have hc : c = true := by have := h.1; rw [hl] at this; exact this rfl
      refine ⟨ih.nt, fun i x hi => ?_, ih.mem⟩
      rw [lk_cons] at hi
      split at hi
      · rename_i e; subst e
        obtain rfl := Option.some.inj hi
        obtain ⟨u, hu, hr⟩ := hR.fr _ _ hl
        cases hr with
        | when _ _ _ ht hf => exact ⟨u, hu, ht hc⟩
      · exact ih.fr i x hi
    · exact ih

/-- What was known ahead of an operation under a guard, is known behind it. -/
theorem under_back {d : Option Tmp} {v v' : V} (hv : ∀ C u, RV C m U v u → RV C m U v' u) : ∀ {ts : List Nat}, owes fr true ts → Rel Γ (putA (under fr ts) d v) hp U a w m → Rel Γ (putA fr d v') hp U a w m := by
  intro ts ho hR
  have key : ∀ (ts : List Nat), owes fr true ts → ∀ i x, lk fr i = some x → ∃ y, lk (under fr ts) i = some y ∧ ∀ C u, RV C m U y u → RV C m U x u := by
    intro ts
    induction ts with
    | nil => exact fun _ i x hi => ⟨x, hi, fun _ _ h => h⟩
    | cons t r ih =>
      intro ho i x hi
      simp only [under]
      split
      · rename_i c v hl
        have hc : c = true := by have := ho.1; rw [hl] at this; exact this rfl
        rw [lk_cons]
        split
        · rename_i e; subst e
          rw [hl] at hi
          obtain rfl := Option.some.inj hi
          subst hc
          exact ⟨v, rfl, fun C u h => .when true v u (fun _ => h) (fun e => by cases e)⟩
        · exact ih ho.2 i x hi
      · exact ih ho.2 i x hi
  refine ⟨hR.nt, fun i x hi => ?_, hR.mem⟩
  cases d with
  | none =>
    obtain ⟨y, hy, hyx⟩ := key ts ho i x hi
    obtain ⟨u, hu, hr⟩ := hR.fr i y hy
    exact ⟨u, hu, hyx _ _ hr⟩
  | some d =>
    simp only [putA] at hi hR
    rw [lk_cons] at hi
    split at hi
    · rename_i e; subst e
      obtain rfl := Option.some.inj hi
      obtain ⟨u, hu, hr⟩ := hR.fr d v (lk_cons_self _ _ _)
      exact ⟨u, hu, hv _ _ hr⟩
    · rename_i hne
      obtain ⟨y, hy, hyx⟩ := key ts ho i x hi
      obtain ⟨u, hu, hr⟩ := hR.fr i y (by rw [lk_cons_ne _ _ hne]; exact hy)
      exact ⟨u, hu, hyx _ _ hr⟩

theorem exec_sound (hG : Good P Γ.F Γ.w0) {ops : Array Oper} : ∀ {os : List Oper} {tk : Nat} {fr : List (Nat × V)} {hp : List (Nat × Blk)} {p0 : Prop} {L : List (Use P)} {fr' : List (Nat × V)} {hp' : List (Nat × Blk)} {p : Prop} {a : Act} {w : World} {m : Nat → Value},
    exec P Γ.n0 ops.toList os tk fr hp p0 L = some (fr', hp', p) → p → (∀ o ∈ os, ∀ d, o.dst = some d → d < Γ.nt) → Rel Γ fr hp (fun t => t < tk) a w m →
    (∀ a' w' m', Rel Γ fr' hp' (fun t => t < tk + os.length) a' w' m' → a'.defers = a.defers → Q .normal a' w') → wpList P ops Q os a w
  | [], tk, fr, hp, p0, L, fr', hp', p, a, w, m, h, hp0, hd, hR, hK => by
    simp only [exec, Option.some.injEq, Prod.mk.injEq] at h
    obtain ⟨rfl, rfl, -⟩ := h
    exact hK _ _ _ (by simpa using hR) rfl
  | o :: r, tk, fr, hp, p0, L, fr', hp', p, a, w, m, h, hp0, hd, hR, hK => by
    have go : ∀ {fr1 : List (Nat × V)} {hp1 : List (Nat × Blk)} {p1 : Prop} {L1 : List (Use P)}, exec P Γ.n0 ops.toList r (tk + 1) fr1 hp1 p1 L1 = some (fr', hp', p) →
        ∀ a' w' m', Rel Γ fr1 hp1 (also (fun t => t < tk) tk) a' w' m' → a'.defers = a.defers → wpList P ops Q r a' w' := fun h' a' w' m' hR' hdef =>
      exec_sound hG h' hp0 (fun o ho => hd o (List.mem_cons_of_mem _ ho)) (hR'.given fun t ht => by rcases ht with ht | ht <;> omega) fun a2 w2 m2 h2 hd2 => hK a2 w2 m2 (h2.given fun t ht => by simp only [List.length_cons]; omega) (hd2.trans hdef)
    have skip : ∀ {v : V} {p1 : Prop} {L1 : List (Use P)}, (∀ C, RV C m (fun t => t < tk) v undef) → Region.wanted o (yielded ops a.tmps) = false → exec P Γ.n0 ops.toList r (tk + 1) (putA fr o.dst v) hp p1 L1 = some (fr', hp', p) → wpList P ops Q (o :: r) a w := fun hv hw h' => by
      unfold wpList
      rw [if_neg (by rw [hw]; exact Bool.false_ne_true)]
      exact go h' _ _ m ((rel_putA hR (hd o List.mem_cons_self) (hv _)).given fun t ht => .inl ht) (put_defers a _ _)
    simp only [exec] at h
    split at h
    · rename_i hg
      split at h
      · rename_i q hq
        unfold wpList
        rw [if_pos (by simp [Region.wanted, hg])]
        exact .inl (stp_sound hG hq a w m _ _ hR (Nat.lt_irrefl tk) (exec_cond h hp0).2 (hd o List.mem_cons_self) fun a' w' m' hR' hdef => go h a' w' m' hR' hdef)
      · cases h
    · rename_i j want hg
      split at h
      · cases h
      · rename_i g hw
        have hw := want_sound hR hg hw
        split at h
        · rename_i fr1 hp1 p1 L1 hgd
          have hp1 := (exec_cond h hp0).2
          unfold guarded at hgd
          split at hgd
          · cases g with
            | true => cases hgd
            | false =>
              simp only [cond_false, Option.some.injEq, Prod.mk.injEq] at hgd
              obtain ⟨rfl, rfl, rfl, rfl⟩ := hgd
              exact skip (fun C => .d (.lit undef)) hw h
          · rename_i q hq
            split at hgd
            · rename_i h1 h2 h3
              simp only [Option.some.injEq, Prod.mk.injEq] at hgd
              obtain ⟨rfl, rfl, rfl, rfl⟩ := hgd
              cases g with
              | false => exact skip (fun C => .when false q.v undef (fun e => by cases e) (fun _ => rfl)) hw h
              | true =>
                unfold wpList
                rw [if_pos hw]
                refine .inl (stp_sound hG hq a w m _ _ (under_rel hR hp1.1) (Nat.lt_irrefl tk) (hp1.2 rfl) (hd o List.mem_cons_self) fun a' w' m' hR' hdef => go h a' w' m' ?_ hdef)
                have e : after hp tk q = hp := by simp [after, h1, h2, h3, delAll]
                rw [e] at hR'
                exact under_back (fun C u h => .when true q.v u (fun _ => h) (fun e => by cases e)) hp1.1 hR'
            · cases g with
              | false =>
                simp only [cond_false, Option.some.injEq, Prod.mk.injEq] at hgd
                obtain ⟨rfl, rfl, rfl, rfl⟩ := hgd
                exact skip (fun C => .d (.lit undef)) hw h
              | true =>
                simp only [cond_true, Option.some.injEq, Prod.mk.injEq] at hgd
                obtain ⟨rfl, rfl, rfl, rfl⟩ := hgd
                unfold wpList
                rw [if_pos hw]
                exact .inl (stp_sound hG hq a w m _ _ (under_rel hR hp1.1) (Nat.lt_irrefl tk) hp1.2 (hd o List.mem_cons_self) fun a' w' m' hR' hdef => go h a' w' m' (under_back (fun C u h => h) hp1.1 hR') hdef)
        · cases h

/-- Code over abstract states. -/
def WpA (P : Program) (nt n0 : Nat) (c : Code) (s : St) (φ : Exit → St → Prop) : Prop :=
  ∀ (Γ : Ctx) (a : Act) (w : World) (m : Nat → Value), Γ.nt = nt ∧ Good P Γ.F Γ.w0 → Γ.n0 = n0 → Rel Γ s.fr s.hp (fun t => t < s.nx) a w m → a.defers = [] →
    c.wp P (fun e a' w' => ∃ s' m', φ e s' ∧ Rel Γ s'.fr s'.hp (fun t => t < s'.nx) a' w' m' ∧ a'.defers = []) a w

def thenA (next : St → Prop) (φ : Exit → St → Prop) : Exit → St → Prop
  | .normal, s => next s
  | e, s => φ e s
def blockA (id : Nat) (φ : Exit → St → Prop) : Exit → St → Prop
  | .exit id', s => if id' = id then φ .normal s else φ (.exit id') s
  | e, s => φ e s

variable {nt n0 : Nat} {s : St} {φ : Exit → St → Prop}

theorem WpA.mono {c : Code} {φ' : Exit → St → Prop} (h : WpA P nt n0 c s φ) (hq : ∀ e s, φ e s → φ' e s) : WpA P nt n0 c s φ' :=
  fun Γ a w m h1 h2 hR hd => wp_mono (h Γ a w m h1 h2 hR hd) fun e a w ⟨s', m', h3, h4⟩ => ⟨s', m', hq _ _ h3, h4⟩

theorem wpA_skip (h : φ .normal s) : WpA P nt n0 .skip s φ := fun Γ a w m h1 h2 hR hd => wp_skip ⟨s, m, h, hR, hd⟩
theorem wpA_exit {id : Nat} (h : φ (.exit id) s) : WpA P nt n0 (.exit id) s φ := fun Γ a w m h1 h2 hR hd => wp_exit ⟨s, m, h, hR, hd⟩
theorem wpA_ret (h : φ .ret s) : WpA P nt n0 .ret s φ := fun Γ a w m h1 h2 hR hd => wp_ret ⟨s, m, h, hR, hd⟩

theorem wpA_seq {x y : Code} (h : WpA P nt n0 x s (thenA (fun s' => WpA P nt n0 y s' φ) φ)) : WpA P nt n0 (.seq x y) s φ :=
  fun Γ a w m h1 h2 hR hd => wp_seq (wp_mono (h Γ a w m h1 h2 hR hd) fun e a' w' ⟨s', m', h3, h4, h5⟩ => by
    cases e with
    | normal => exact h3 Γ a' w' m' h1 h2 h4 h5
    | _ => exact ⟨s', m', h3, h4, h5⟩)

theorem wpA_block {id : Nat} {c : Code} (h : WpA P nt n0 c s (blockA id φ)) : WpA P nt n0 (.block id c) s φ :=
  fun Γ a w m h1 h2 hR hd => wp_block (wp_mono (h Γ a w m h1 h2 hR hd) fun e a' w' ⟨s', m', h3, h4, h5⟩ => by
    cases e with
    | exit id' =>
      simp only [Exit.inBlock]
      simp only [blockA] at h3
      split
      · rename_i e; rw [if_pos e] at h3; exact ⟨s', m', h3, h4, h5⟩
      · rename_i e; rw [if_neg e] at h3; exact ⟨s', m', h3, h4, h5⟩
    | _ => exact ⟨s', m', h3, h4, h5⟩)

theorem wpA_cond {c : Operand} {x y : Code} {t : Bool} (hc : eo s.fr c = some (.d (.lit (.bool t)))) (hx : t = true → WpA P nt n0 x s φ) (hy : t = false → WpA P nt n0 y s φ) : WpA P nt n0 (.cond c x y) s φ :=
  fun Γ a w m h1 h2 hR hd => wp_cond_split (t := t) (eo_rel hR hc).lit_inv (fun e => hx e Γ a w m h1 h2 hR hd) (fun e => hy e Γ a w m h1 h2 hR hd)

/-- A state that tells no more than another. -/
def Weak (n0 : Nat) (s s' : St) : Prop :=
  ∀ (Γ : Ctx) (a : Act) (w : World) (m : Nat → Value), Γ.n0 = n0 → Rel Γ s.fr s.hp (fun t => t < s.nx) a w m → ∃ m', Rel Γ s'.fr s'.hp (fun t => t < s'.nx) a w m'

theorem Weak.refl (n0 : Nat) (s : St) : Weak n0 s s := fun Γ a w m _ h => ⟨m, h⟩
theorem Weak.trans {s1 s2 s3 : St} (h : Weak n0 s1 s2) (h' : Weak n0 s2 s3) : Weak n0 s1 s3 := fun Γ a w m e hR => let ⟨m', h2⟩ := h Γ a w m e hR; h' Γ a w m' e h2

theorem WpA.weak {c : Code} {s' : St} (h : WpA P nt n0 c s' φ) (hw : Weak n0 s s') : WpA P nt n0 c s φ :=
  fun Γ a w m h1 h2 hR hd => let ⟨m', hR'⟩ := hw Γ a w m h2 hR; h Γ a w m' h1 h2 hR' hd

/-- The temporaries that are kept. -/
def trim : List Nat → List (Nat × V) → List (Nat × V)
  | [], _ => []
  | k :: r, fr => match lk fr k with | some v => (k, v) :: trim r fr | none => trim r fr
theorem trim_sub : ∀ (ks : List Nat) (fr : List (Nat × V)) (i : Nat) (v : V), lk (trim ks fr) i = some v → lk fr i = some v
  | [], fr, i, v, h => by simp [trim, lk] at h
  | k :: r, fr, i, v, h => by
    simp only [trim] at h
    split at h
    · rename_i v' hv
      rw [lk_cons] at h
      split at h
      · rename_i e; subst e; rw [hv]; exact h
      · exact trim_sub r fr i v h
    · exact trim_sub r fr i v h

def dstB (nt : Nat) : List Oper → Bool
  | [] => true
  | o :: r => (match o.dst with | some d => d.blt nt | none => true) && dstB nt r
theorem dstB_spec : ∀ {ops : List Oper}, dstB nt ops = true → ∀ o ∈ ops, ∀ d, o.dst = some d → d < nt
  | [], _, o, h, _, _ => by cases h
  | x :: r, hb, o, h, d, hd => by
    rw [dstB, Bool.and_eq_true] at hb
    rcases List.mem_cons.1 h with rfl | h
    · have := hb.1
      rw [hd] at this
      exact Nat.le_of_ble_eq_true this
    · exact dstB_spec hb.2 o h d hd

/-- A region's run, trimmed: the state behind it and the condition. -/
noncomputable def reg (P : Program) (n0 : Nat) (ops : List Oper) (ks : List Nat) (L : List (Use P)) (s : St) : Option (St × Prop) :=
  match exec P n0 ops ops s.nx s.fr s.hp True L with
  | some (fr', hp', p) => some (⟨trim ks fr', hp', s.nx + ops.length⟩, p)
  | none => none

theorem wpA_region {id : Nat} {ops : Array Oper} {s' : St} {p : Prop} (ks : List Nat) (L : List (Use P)) (hd : dstB nt ops.toList = true) (he : reg P n0 ops.toList ks L s = some (s', p)) (hp : p) (h : φ .normal s') :
    WpA P nt n0 (.region id ops false) s φ := by
  unfold reg at he
  split at he
  · rename_i fr' hp' p' hx
    obtain ⟨rfl, rfl⟩ := Prod.mk.inj (Option.some.inj he)
    intro Γ a w m h1 h2 hR hdef
    obtain ⟨h1, hG⟩ := h1
    subst h1 h2
    exact wp_region_list (exec_sound hG hx hp (dstB_spec hd) hR fun a' w' m' hR' hd' => ⟨_, m', h, hR'.forget (trim_sub ks fr'), hd'.trans hdef⟩)
  · cases he

theorem wpA_reg {id : Nat} {ops : Array Oper} {s' : St} {p : Prop} {y : Code} (ks : List Nat) (L : List (Use P)) (hd : dstB nt ops.toList = true) (he : reg P n0 ops.toList ks L s = some (s', p)) (hp : p) (h : WpA P nt n0 y s' φ) :
    WpA P nt n0 (.seq (.region id ops false) y) s φ :=
  wpA_seq (wpA_region ks L hd he hp h)

/-- A loop: a family of states, by an index that goes down. -/
theorem wpA_loop {c : Code} {ι : Type} (F : ι → St) (I : ι → Prop) (μ : ι → Nat) (i0 : ι) (hw : Weak n0 s (F i0)) (h0 : I i0)
    (round : ∀ i, I i → WpA P nt n0 c (F i) (thenA (fun s' => ∃ i', I i' ∧ μ i' < μ i ∧ Weak n0 s' (F i')) φ)) : WpA P nt n0 (.loop c) s φ := by
  intro Γ a w m h1 h2 hR hd
  intro b kk cs
  have key : ∀ (k : Nat) (i : ι) (a : Act) (w : World) (m : Nat → Value), μ i = k → I i → Rel Γ (F i).fr (F i).hp (fun t => t < (F i).nx) a w m → a.defers = [] →
      ∃ e a' w', (∃ s' m', φ e s' ∧ Rel Γ s'.fr s'.hp (fun t => t < s'.nx) a' w' m' ∧ a'.defers = []) ∧ Arrives P (lone (b.at a (.code c :: .inLoop c :: kk)) cs w) b kk cs e a' w' := by
    intro k
    induction k using Nat.strongRecOn with
    | _ k ih =>
      intro i a w m hk hI hR hd
      obtain ⟨e, a1, w1, hq, harr⟩ := round i hI Γ a w m h1 h2 hR hd b (.inLoop c :: kk) cs
      obtain ⟨s', m', h3, h4, h5⟩ := hq
      cases e with
      | normal =>
        obtain ⟨i', hI', hlt, hwk⟩ := h3
        obtain ⟨m2, hR2⟩ := hwk Γ a1 w1 m' h2 h4
        obtain ⟨e2, a2, w2, hq2, harr2⟩ := ih (μ i') (hk ▸ hlt) i' a1 w1 m2 rfl hI' hR2 h5
        exact ⟨e2, a2, w2, hq2, .of_steps (Steps.trans harr (.one step_inLoop)) harr2⟩
      | exit id => exact ⟨_, a1, w1, ⟨s', m', h3, h4, h5⟩, .pass (x := .inLoop c) rfl (fun _ _ => .inl (by simp)) harr⟩
      | goto l => exact ⟨_, a1, w1, ⟨s', m', h3, h4, h5⟩, .pass (x := .inLoop c) rfl (fun _ _ => .inl (by simp)) harr⟩
      | ret => exact ⟨_, a1, w1, ⟨s', m', h3, h4, h5⟩, .pass (x := .inLoop c) rfl (fun _ _ => .inl (by simp)) harr⟩
      | panic ch => exact ⟨_, a1, w1, ⟨s', m', h3, h4, h5⟩, .pass (x := .inLoop c) rfl (fun _ _ => .inl (by simp)) harr⟩
      | outgrown => exact ⟨_, a1, w1, ⟨s', m', h3, h4, h5⟩, .pass (x := .inLoop c) rfl (fun _ _ => .inl (by simp)) harr⟩
  obtain ⟨m', hR'⟩ := hw Γ a w m h2 hR
  obtain ⟨e, a', w', hq, harr⟩ := key _ i0 a w m' rfl h0 hR' hd
  exact ⟨e, a', w', hq, .of_steps (.one step_loop) harr⟩

/-- The first tokens keep their numbers. -/
def firsts : List Nat → Nat → Nat → Prop
  | _, 0, _ => True
  | [], _ + 1, _ => False
  | t :: r, n + 1, i => t = i ∧ firsts r n (i + 1)
theorem firsts_spec : ∀ {ts : List Nat} {n i : Nat}, firsts ts n i → ∀ k, k < n → ts[k]? = some (i + k)
  | _, 0, i, _, k, hk => by omega
  | [], n + 1, i, h, k, hk => h.elim
  | t :: r, n + 1, i, h, k, hk => by
    cases k with
    | zero => simp [h.1]
    | succ k => simp only [List.getElem?_cons_succ]; rw [firsts_spec h.2 k (by omega)]; congr 1; omega

/-- The temporaries, seen anew. -/
def leF (hp : List (Nat × Blk)) (ts : List Nat) (fr : List (Nat × V)) : List (Nat × V) → Prop
  | [] => True
  | (k, v) :: r => (match lk fr k with | some u => le (snap hp ts u) v | none => False) ∧ leF hp ts fr r
theorem leF_spec {ts : List Nat} : ∀ {fr' : List (Nat × V)}, leF hp ts fr fr' → ∀ i v, lk fr' i = some v → ∃ u, lk fr i = some u ∧ le (snap hp ts u) v
  | [], _, i, v, h => by simp [lk] at h
  | (k, v0) :: r, h0, i, v, h => by
    rw [lk_cons] at h
    split at h
    · rename_i e
      subst e
      obtain rfl := Option.some.inj h
      have := h0.1
      split at this
      · rename_i u hu; exact ⟨u, hu, this⟩
      · exact this.elim
    · exact leF_spec h0.2 i v h

/-- A state seen anew: tokens numbered anew, rows read as data. -/
def deadLt (n0 : Nat) : List Blk → Nat → Bool
  | [], _ => true
  | .dead :: r, i => i.blt n0 && deadLt n0 r (i + 1)
  | .var _ _ :: r, i => deadLt n0 r (i + 1)
  | .row _ _ _ :: r, i => deadLt n0 r (i + 1)
  | .inv _ :: r, i => deadLt n0 r (i + 1)
theorem deadLt_spec {n0 : Nat} : ∀ {bs : List Blk} {i : Nat}, deadLt n0 bs i = true → ∀ k, bs[k]? = some .dead → i + k < n0
  | [], i, h, k, hk => by simp at hk
  | b :: r, i, h, k, hk => by
    have key : deadLt n0 r (i + 1) = true ∧ (b = .dead → i < n0) := by
      cases b with
      | dead => simp only [deadLt, Bool.and_eq_true] at h; exact ⟨h.2, fun _ => Nat.le_of_ble_eq_true h.1⟩
      | _ => exact ⟨h, fun e => by cases e⟩
    cases k with
    | zero => simp at hk; exact key.2 hk
    | succ k =>
      have := deadLt_spec key.1 k (by simpa using hk)
      omega

theorem weak_of {fr' : List (Nat × V)} {bs : List Blk} (ts : List Nat) (hn : firsts ts n0 0) (hnd : ts.Nodup) (hb : handsD s.hp ts ts bs) (hf : leF s.hp ts s.fr fr') (hdl : deadLt n0 bs 0 = true := by rfl) : Weak n0 s ⟨fr', enum bs 0, bs.length⟩ := by
  intro Γ a w m h2 hR
  subst h2
  obtain ⟨hlen, hspec⟩ := handsD_spec s.hp ts ts bs hb
  let mc : Nat → Value := fun i => m ((nth ts i).getD 0)
  have hmc : ∀ (i t : Nat), ts[i]? = some t → mc i = m t := fun i t hi => by
    show m ((nth ts i).getD 0) = m t
    rw [nth_eq, hi]; rfl
  have HH : ∀ gone, Hands Γ s.hp (fun t => t < s.nx) w m ts gone bs.length Γ.F mc (enum bs 0) := fun gone =>
    ⟨hR.mem, fun i t b hi hb' => by
      rw [lk_enum, if_pos (Nat.zero_le _), Nat.sub_zero] at hb'
      obtain ⟨q1, q2⟩ := live_some hb'
      obtain ⟨b', h1, _⟩ := hspec i t b hi q1 q2; exact ⟨b', h1⟩, hlen, hmc, fun i b hi => by rw [lk_enum, if_pos (Nat.zero_le _), Nat.sub_zero] at hi; exact (List.getElem?_eq_some_iff.1 (live_some hi).1).1, fun g hg => .inl hg⟩
  have H := (HH _).relH Γ.nt hb (fun i t hi hd g hg e => by
    have hlt := deadLt_spec hdl i hd
    rw [Nat.zero_add] at hlt
    have h3 := firsts_spec hn i hlt
    rw [Nat.zero_add] at h3
    rw [hmc i i h3, hR.mem.old i hlt] at e
    exact (hR.mem.hF g hg).2 i hlt e) hnd (.inr fun t ht => ht)
  have hfst := firsts_spec hn
  have hle : Γ.n0 ≤ bs.length := by
    rcases Nat.eq_zero_or_pos Γ.n0 with h | h
    · omega
    · have := hfst (Γ.n0 - 1) (by omega)
      have := (List.getElem?_eq_some_iff.1 this).1
      omega
  refine ⟨mc, hR.nt, fun i v hi => ?_, H.hb, H.sep, H.lt, fun i b g hi hg hn' => ?_, fun i hi => ?_, fun i hi => Nat.lt_of_lt_of_le hi hle, H.nF, hR.mem.hF, hR.mem.keeps⟩
  · obtain ⟨u, hu, hle'⟩ := leF_spec hf i v hi
    obtain ⟨x, hx, hr⟩ := hR.fr i u hu
    exact ⟨x, hx, le_rel ((HH _).snap hr (.inr fun t ht => ht)) hle'⟩
  · rw [lk_enum, if_pos (Nat.zero_le _), Nat.sub_zero] at hi
    obtain ⟨hi, hne⟩ := live_some hi
    have hlt : i < bs.length := (List.getElem?_eq_some_iff.1 hi).1
    have hti : ts[i]? = some (ts[i]'(by omega)) := by simp [hlen, hlt]
    obtain ⟨b', h1, _⟩ := hspec i _ b hti hi hne
    rw [hmc i _ hti] at hg
    refine (hR.mem.new _ b' g h1 hg (Nat.le_of_not_lt fun hlt' => ?_)).imp id fun ⟨t0, j1, j2, j3⟩ => ⟨t0, j1, ?_, ?_⟩
    · have h3 := hfst _ hlt'
      rw [Nat.zero_add] at h3
      have := (List.getElem?_inj (i := i) (j := ts[i]'(by omega)) (by omega) hnd).1 (hti.trans h3.symm)
      omega
    · exact j2
    · have h3 := hfst t0 j1
      rw [Nat.zero_add] at h3
      rw [lk_enum, if_pos (Nat.zero_le _), Nat.sub_zero]
      cases hl : live bs[t0]? with
      | none => rfl
      | some b0 =>
        obtain ⟨q1, q2⟩ := live_some hl
        obtain ⟨b1, r1, _⟩ := hspec t0 t0 b0 h3 q1 q2
        rw [j3] at r1; cases r1
  · have h3 := hfst i hi
    rw [Nat.zero_add] at h3
    rw [hmc i i h3]; exact hR.mem.old i hi

/-! ### a function -/
def argsE : List V → Nat → List (Nat × V)
  | [], _ => []
  | x :: r, i => (i, x) :: argsE r (i + 1)
theorem lk_argsE : ∀ (l : List V) (i0 i : Nat), lk (argsE l i0) i = if i0 ≤ i then l[i - i0]? else none
  | [], i0, i => by simp [argsE, lk]
  | b :: r, i0, i => by
    rw [argsE, lk_cons, lk_argsE r]
    by_cases h : i0 = i
    · subst h; simp
    · rw [if_neg h]
      by_cases h2 : i0 + 1 ≤ i
      · rw [if_pos h2, if_pos (by omega), show i - i0 = (i - (i0 + 1)) + 1 by omega, List.getElem?_cons_succ]
      · rw [if_neg h2, if_neg (by omega)]

/-- The value that a function gives, out of its results' temporaries. -/
def resV (fr : List (Nat × V)) : List ResultVar → Option (List V)
  | [] => some []
  | .tmp t :: r => match lk fr t, resV fr r with | some v, some l => some (v :: l) | _, _ => none
  | _ => none
def resOne : List V → V
  | [v] => v
  | l => .tup l

def endA (n0 : Nat) (rs : List ResultVar) (v : V) (bs' : List Blk) (e : Exit) (s : St) : Prop :=
  (e = .normal ∨ e = .ret) ∧ ∃ fr' l, Weak n0 s ⟨fr', enum bs' 0, bs'.length⟩ ∧ resV fr' rs = some l ∧ v = resOne l

/-- What 'results' does with one result. -/
def resF (tmps : Array Value) : ResultVar → Sem Value
  | .tmp t => pure (tmps.getD t undef)
  | .cell a t => do loadVar t (← asAddr (tmps.getD a undef))

theorem results_eq (fn : Func) (tmps : Array Value) : results fn tmps = (do let vs ← fn.results.mapM (resF tmps); pure (if h : vs.size = 1 then vs[0] else .tuple vs)) := by
  unfold results
  congr 1

theorem resV_run : ∀ {rs : List ResultVar} {l : List V}, resV fr rs = some l → Rel Γ fr hp U a w m →
    ∃ us : List Value, (rs.mapM (resF a.tmps)).run P w = .ok us w ∧ l.length = us.length ∧ ∀ (k : Nat) (x : V) (u : Value), l[k]? = some x → us[k]? = some u → RV (Cw Γ.F hp m w) m U x u
  | [], l, h, hR => by
    obtain rfl := Option.some.inj h
    exact ⟨[], by simp [go_sem], rfl, by simp⟩
  | .tmp t :: r, l, h, hR => by
    simp only [resV] at h
    split at h
    · rename_i v l' h1 h2
      obtain rfl := Option.some.inj h
      obtain ⟨us, i1, i2, i3⟩ := resV_run h2 hR
      obtain ⟨u, hu, hr⟩ := hR.fr t v h1
      refine ⟨u :: us, ?_, by simp [i2], fun k x z hk hz => ?_⟩
      · have e : resF a.tmps (.tmp t) = pure u := by simp [resF, hu]
        rw [List.mapM_cons, e]
        simp [go_sem, Sem.run_bind, i1]
      · cases k with
        | zero => simp at hk hz; subst hk hz; exact hr
        | succ k => exact i3 k x z (by simpa using hk) (by simpa using hz)
    · cases h
  | .cell x t :: r, l, h, hR => by simp [resV] at h

theorem results_run {fn : Func} {l : List V} (h : resV fr fn.results.toList = some l) (hR : Rel Γ fr hp U a w m) : ∃ u, (results fn a.tmps).run P w = .ok u w ∧ RV (Cw Γ.F hp m w) m U (resOne l) u := by
  obtain ⟨us, h1, h2, h3⟩ := resV_run (P := P) h hR
  have e : (results fn a.tmps).run P w = .ok (if h : us.toArray.size = 1 then us.toArray[0] else .tuple us.toArray) w := by
    rw [results_eq, Array.mapM_eq_mapM_toList]
    simp [go_sem, Sem.run_bind, Sem.run_map, h1]
  refine ⟨_, e, ?_⟩
  clear e h1
  match l, us, h2, h3 with
  | [], [], _, _ => exact .tup [] #[] rfl (by simp)
  | [v], [u], _, h3 => exact h3 0 v u rfl rfl
  | v :: v' :: l, u :: u' :: us, hl, h3 => exact .tup _ _ (by simpa using hl) fun k x z hk hz => h3 k x z hk (by simpa using hz)

theorem callsA_of {f : Nat} {fn : Func} {c : Code} {args : List V} {bs : List Blk} {v : V} {bs' : List Blk} (hf : P.funcs[f]? = some fn) (hb : fn.body = some c) (hl : args.length ≤ fn.ntmps)
    (h : WpA P fn.ntmps bs.length c ⟨argsE args 0, enum bs 0, bs.length⟩ (endA bs.length fn.results.toList v bs')) : CallsA P f args bs v bs' := by
  intro w m nt F us hG H hlen hargs
  refine calls_of_wp hf hb (wp_mono (h ⟨w, bs.length, m, fn.ntmps, F⟩ _ w m ⟨rfl, hG⟩ rfl ⟨?_, fun i x hi => ?_, ⟨H.hb, H.sep, H.lt, H.new, H.old, H.n0, H.nF, H.hF, ⟨H.keeps.os, H.keeps.tape, H.keeps.output, H.keeps.size, H.keeps.block⟩⟩⟩ rfl) fun e a' w' hq => ?_)
  · simp; omega
  · rw [lk_argsE, if_pos (Nat.zero_le _), Nat.sub_zero] at hi
    have hlt : i < args.length := (List.getElem?_eq_some_iff.1 hi).1
    have hu : us[i]? = some (us[i]'(by omega)) := by simp [← hlen, hlt]
    refine ⟨_, ?_, hargs i x _ hi hu⟩
    show (us ++ Array.replicate (fn.ntmps - us.size) undef)[i]? = _
    rw [Array.getElem?_append_left (by omega)]; exact hu
  · obtain ⟨s', m', ⟨he, fr', l, hw, hr, rfl⟩, hR, hd⟩ := hq
    obtain ⟨m2, hR2⟩ := hw _ a' w' m' rfl hR
    obtain ⟨u, hu1, hu2⟩ := results_run (P := P) hr hR2
    have H2 := hR2.mem
    have body : a'.defers = [] ∧ ∃ v, (results fn a'.tmps).run P w' = .ok v w' ∧ ∃ u m' U', Ending.returned v = .returned u ∧ RelH ⟨w, bs.length, m, nt, F⟩ (enum bs' 0) U' w' m' ∧ RV (Cw F (enum bs' 0) m' w') m' U' (resOne l) u := by
      exact ⟨hd, u, hu1, u, m2, _, rfl, ⟨H2.hb, H2.sep, H2.lt, H2.new, H2.old, H2.n0, H2.nF, H2.hF, ⟨H2.keeps.os, H2.keeps.tape, H2.keeps.output, H2.keeps.size, H2.keeps.block⟩⟩, hu2⟩
    rcases he with rfl | rfl
    · exact body
    · exact body
end
end Go.Abs

set_option linter.unusedVariables false
set_option linter.unusedSimpArgs false
namespace Go.Abs
open Go Go.RowKit

section
variable {P : Program} {n0 : Nat} {fr : List (Nat × V)} {hp : List (Nat × Blk)} {tk : Nat} {L : List (Use P)} {d : Option Tmp} {ty : TypeId} {po : String} {af : Array Edge} {g : Option (Nat × Bool)}

def outA (L : List (Use P)) : Option V → Option (Rs P)
  | some v => some ⟨v, [], [], none, True, L⟩
  | none => none
def pickA (L : List (Use P)) : Option V → Option V → Option V → Option (Rs P)
  | some (.d (.lit (.bool t))), some va, some vb => some ⟨pickV t (cdV va).2 (cdV vb).2, [], [], none, (t = true → (cdV va).1 = true) ∧ (t = false → (cdV vb).1 = true), L⟩
  | _, _, _ => none
def binA (P : Program) (L : List (Use P)) (op : BinOp) (t : TypeId) : Option V → Option V → Option (Rs P)
  | some a, some b => match binV P op t a b with
    | some r => ofR L (some r)
    | none => ofR L (binX P op t a b)
  | _, _ => none
def unA (L : List (Use P)) (op : UnOp) : Option V → Option (Rs P)
  | some a => ofR L (unV op a)
  | none => none
def ldA (P : Program) (hp : List (Nat × Blk)) (t : TypeId) (L : List (Use P)) : Option V → Option Nat → Option (Rs P)
  | some v, some _ => match loadA P hp t v with | some (u, p) => some ⟨u, [], [], none, p, L⟩ | none => none
  | _, _ => none
def faA (L : List (Use P)) : Option V → Option (Nat × Nat × Nat) → Option (Rs P)
  | some (.ptr k o), some (p, n, _) => if n = 0 then none else some ⟨.ptr k (o + p), [], [], none, True, L⟩
  | some (.ept k sz j o), some (p, n, _) => if n = 0 then none else some ⟨.ept k sz j (o + p), [], [], none, True, L⟩
  | some (.ip ds), some (p, n, _) => if n = 0 then none else some ⟨.ip (ds.drop p), [], [], none, True, L⟩
  | _, _ => none
def lnA (P : Program) (hp : List (Nat × Blk)) (t : TypeId) (L : List (Use P)) : Option V → Option (Rs P)
  | some v => match lenV hp v with | some n => bif lenT P t v then some ⟨.d (.lit (.int .i64 n)), [], [], none, True, L⟩ else none | none => none
  | none => none
def stA (hp : List (Nat × Blk)) (L : List (Use P)) : Option V → Option V → Option Nat → Option (Rs P)
  | some (.ptr k o), some v, some n => match lk hp k with
    | some (.var ty cs) => if (cellsV v).length = n ∧ (cellsV v).all one ∧ o + n ≤ cs.length then some ⟨.d (.lit undef), [], [(k, .var ty (ins cs o (cellsV v)))], none, True, L⟩ else none
    | _ => none
  | some (.ept k sz j o), some v, some n => match lk hp k, toDs hp (cellsV v) with
    | some (.row e sz' l), some ds => if sz = sz' ∧ ds.length = n ∧ o + n ≤ sz ∧ k ∉ ownsOf (cellsV v) then some ⟨.d (.lit undef), ownsOf (cellsV v), [(k, .row e sz (l.set j (ins (l.getD j []) o ds)))], none, j < l.length, L⟩ else none
    | _, _ => none
  | _, _, _ => none
def nlA (L : List (Use P)) : Option V → Option (Rs P)
  | some (.ptr k o) => some ⟨.ptr k o, [], [], none, True, L⟩
  | some (.ept k sz j o) => some ⟨.ept k sz j o, [], [], none, True, L⟩
  | some (.ip ds) => some ⟨.ip ds, [], [], none, True, L⟩
  | some (.fn f cs) => some ⟨.fn f cs, [], [], none, True, L⟩
  | _ => none
def alA (tk : Nat) (t : TypeId) (L : List (Use P)) : Option (List Value) → Option (Rs P)
  | some zs => if zs.all (·.oneCell') then some ⟨.ptr tk 0, [], [], some (.var t (zs.map fun z => .d (.lit z))), True, L⟩ else none
  | none => none
def bxA (tk : Nat) (t : TypeId) (L : List (Use P)) : Option V → Option Nat → Option (Rs P)
  | some v, some n => if (cellsV v).all one ∧ (cellsV v).length = n then some ⟨.ptr tk 0, [], [], some (.var t (cellsV v)), True, L⟩ else none
  | _, _ => none
def fdA (P : Program) (L : List (Use P)) : Option V → Option (Nat × Nat × Nat) → Option (Rs P)
  | some (.agg cs), some (p, n, t) => match aggT P t with
    | some true => if (cut cs p n).length = n then some ⟨.agg (cut cs p n), [], [], none, True, L⟩ else none
    | some false => match nth cs p with | some v => some ⟨v, [], [], none, True, L⟩ | none => none
    | none => none
  | _, _ => none
def iaA (P : Program) (hp : List (Nat × Blk)) (L : List (Use P)) : Option V → Option V → Option Nat → Option (Rs P)
  | some (.d (.lst l)), some (.d (.lit (.int _ j))), some e => match sizeT P e with
    | some sz => some ⟨.ip (l.getD j.toNat []), [], [], none, 0 < sz ∧ 0 ≤ j ∧ j < l.length ∧ ∀ row ∈ l, row.length = sz, L⟩
    | none => none
  | some (.own k), some (.d (.lit (.int _ j))), some e => match lk hp k, sizeT P e with
    | some (.row e' sz' l), some sz => if sz = sz' then some ⟨.ept k sz j.toNat 0, [], [], none, 0 ≤ j ∧ j < l.length, L⟩ else none
    | _, _ => none
  | _, _, _ => none
def ixA (P : Program) (t : TypeId) (L : List (Use P)) : Option V → Option V → Option (Rs P)
  | some (.d (.lit (.string s))), some (.d (.lit (.int _ j))) => bif strT P t then some ⟨.d (.lit (.int .u8 (s.get! j.toNat).toNat)), [], [], none, 0 ≤ j ∧ j < s.size, L⟩ else none
  | _, _ => none
def bdA (P : Program) (fr : List (Nat × V)) (t : TypeId) (ps : List (Nat × Operand)) (L : List (Use P)) : Option (List Value) → Option (List (Nat × Nat)) → Option (Rs P)
  | some zs, some pl => if zs.all (·.oneCell') then match fillA pl fr ps (zs.map fun z => .d (.lit z)) with
      | some cs => some ⟨.agg cs, [], [], none, True, L⟩
      | none => none else none
  | _, _ => none
def bsA (P : Program) (fr : List (Nat × V)) (hp : List (Nat × Blk)) (tk : Nat) (n : Nat) (ps : List (Nat × Operand)) (L : List (Use P)) : Option Nat → Option (Rs P)
  | some e => match rowT P e with
    | some (sz, _) => match rowsA hp fr sz 0 ps with
      | some (l, g) => if l.length = n ∧ n * sz ≤ 16777216 then some ⟨.own tk, g, [], some (.row e sz l), True, L⟩ else none
      | none => none
    | none => none
  | none => none
noncomputable def cvA (P : Program) (hp : List (Nat × Blk)) (tk : Nat) (L : List (Use P)) (s t : TypeId) : Option V → Option (Rs P)
  | some (.d (.lit (.int k n))) => match intT P t, P.underlying s with
    | some k', some _ => ofR L (intR k' (arith k' n))
    | _, _ => none
  | some (.own k) => convB P tk k s t L (lk hp k)
  | _ => none
noncomputable def apA (P : Program) (n0 : Nat) (hp : List (Nat × Blk)) (tk : Nat) (t t' : TypeId) (L : List (Use P)) : Option V → Option V → Option (Rs P)
  | some a, some b => appendX P n0 hp tk t t' a b L
  | _, _ => none
def mxA (L : List (Use P)) : Option V → Option V → Option (Rs P)
  | some (.d (.lit (.int k a))), some (.d (.lit (.int k' b))) => if k = k' then some ⟨.d (.lit (.int k (max a b))), [], [], none, True, L⟩ else none
  | _, _ => none
def mnA (L : List (Use P)) : Option V → Option V → Option (Rs P)
  | some (.d (.lit (.int k a))), some (.d (.lit (.int k' b))) => if k = k' then some ⟨.d (.lit (.int k (min a b))), [], [], none, True, L⟩ else none
  | _, _ => none
def mfA (L : List (Use P)) (f : Nat) : Option (List V) → Option (Rs P)
  | some vs => some ⟨.fn f vs, [], [], none, True, L⟩
  | none => none
def exA (L : List (Use P)) (i : Nat) : Option V → Option (Rs P)
  | some (.tup vs) => outA L (nth vs i)
  | _ => none

theorem stp_move {x : Operand} : stp P n0 fr hp tk L ⟨d, .move x, ty, po, af, g⟩ = outA L (eo fr x) := rfl
theorem stp_assign {x : Operand} : stp P n0 fr hp tk L ⟨d, .assign x, ty, po, af, g⟩ = outA L (eo fr x) := rfl
theorem stp_pick {c x y : Operand} : stp P n0 fr hp tk L ⟨d, .pick c x y, ty, po, af, g⟩ = pickA L (eo fr c) (eo fr x) (eo fr y) := rfl
theorem stp_bin {op : BinOp} {t t' : TypeId} {x y : Operand} : stp P n0 fr hp tk L ⟨d, .binOp op t x y t', ty, po, af, g⟩ = binA P L op t (eo fr x) (eo fr y) := rfl
theorem stp_un {op : UnOp} {t : TypeId} {x : Operand} : stp P n0 fr hp tk L ⟨d, .unOp op t x, ty, po, af, g⟩ = unA L op (eo fr x) := rfl
theorem stp_load {t : TypeId} {x : Operand} : stp P n0 fr hp tk L ⟨d, .load t x, ty, po, af, g⟩ = ldA P hp t L (eo fr x) (sizeT P t) := rfl
theorem stp_fieldAddr {s f : Nat} {x : Operand} : stp P n0 fr hp tk L ⟨d, .fieldAddr s x f, ty, po, af, g⟩ = faA L (eo fr x) (fldT P s f) := rfl
theorem stp_store {t : TypeId} {x y : Operand} : stp P n0 fr hp tk L ⟨d, .store t x y, ty, po, af, g⟩ = stA hp L (eo fr x) (eo fr y) (sizeT P t) := rfl
theorem stp_field {s f : Nat} {x : Operand} : stp P n0 fr hp tk L ⟨d, .field s x f, ty, po, af, g⟩ = fdA P L (eo fr x) (fldT P s f) := rfl
theorem stp_indexAddr {t : TypeId} {x i : Operand} : stp P n0 fr hp tk L ⟨d, .indexAddr t x i, ty, po, af, g⟩ = iaA P hp L (eo fr x) (eo fr i) (elemT P t) := rfl
theorem stp_index {t : TypeId} {x i : Operand} : stp P n0 fr hp tk L ⟨d, .index t x i, ty, po, af, g⟩ = ixA P t L (eo fr x) (eo fr i) := rfl
theorem stp_build {t : TypeId} {ps : Array (Nat × Operand)} : stp P n0 fr hp tk L ⟨d, .build t ps, ty, po, af, g⟩ = bdA P fr t ps.toList L (zeroT P t) (stT P t) := rfl
theorem stp_buildSlice {t : TypeId} {n : Nat} {ps : Array (Nat × Operand)} : stp P n0 fr hp tk L ⟨d, .buildSlice t n ps, ty, po, af, g⟩ = bsA P fr hp tk n ps.toList L (elemT P t) := rfl
theorem stp_convert {s t : TypeId} {x : Operand} : stp P n0 fr hp tk L ⟨d, .convert s t x, ty, po, af, g⟩ = cvA P hp tk L s t (eo fr x) := rfl
noncomputable def mmA (P : Program) (tk : Nat) (L : List (Use P)) : Option (Nat × Nat) → Option (Rs P)
  | some (k, _) => some ⟨.own tk, [], [], some (.inv (MapI P k [])), True, L⟩
  | none => none
noncomputable def muA (P : Program) (hp : List (Nat × Blk)) (t : TypeId) (L : List (Use P)) : Option V → Option V → Option V → Option (Rs P)
  | some (.own i), some (.d (.lit (.int .i64 k))), some (.agg cs) => putM P t i k cs L (lk hp i)
  | _, _, _ => none
noncomputable def luA (P : Program) (hp : List (Nat × Blk)) (t : TypeId) (ok : Bool) (L : List (Use P)) : Option V → Option V → Option (Rs P)
  | some (.own i), some (.d (.lit (.int .i64 k))) => lookA P t ok k L (lk hp i)
  | _, _ => none
theorem stp_makeMap {t : TypeId} : stp P n0 fr hp tk L ⟨d, .makeMap t none, ty, po, af, g⟩ = mmA P tk L (mapT P t) := rfl
theorem stp_mapUpdate {t : TypeId} {x y z : Operand} : stp P n0 fr hp tk L ⟨d, .mapUpdate t x y z, ty, po, af, g⟩ = muA P hp t L (eo fr x) (eo fr y) (eo fr z) := rfl
theorem stp_lookup {t : TypeId} {x y : Operand} {ok : Bool} : stp P n0 fr hp tk L ⟨d, .lookup t x y ok, ty, po, af, g⟩ = luA P hp t ok L (eo fr x) (eo fr y) := rfl
theorem stp_slice {t : TypeId} {x : Operand} {lo hi : Option Operand} : stp P n0 fr hp tk L ⟨d, .slice t x lo hi none, ty, po, af, g⟩ = sliceA P fr hp t x lo hi L := rfl
theorem stp_append {x y : Operand} {t t' : TypeId} : stp P n0 fr hp tk L ⟨d, .call { callee := .builtin .append, args := #[x, y], argTypes := #[t, t'] }, ty, po, af, g⟩ = apA P n0 hp tk t t' L (eo fr x) (eo fr y) := rfl
theorem stp_max {x y : Operand} {ts : Array TypeId} : stp P n0 fr hp tk L ⟨d, .call { callee := .builtin .max, args := #[x, y], argTypes := ts }, ty, po, af, g⟩ = mxA L (eo fr x) (eo fr y) := rfl
theorem stp_min {x y : Operand} {ts : Array TypeId} : stp P n0 fr hp tk L ⟨d, .call { callee := .builtin .min, args := #[x, y], argTypes := ts }, ty, po, af, g⟩ = mnA L (eo fr x) (eo fr y) := rfl
theorem stp_makeFunc {f : Nat} {cap : Array Operand} : stp P n0 fr hp tk L ⟨d, .makeFunc (.func f) #[] cap, ty, po, af, g⟩ = mfA L f (eos fr cap.toList) := rfl
theorem stp_nil {x : Operand} : stp P n0 fr hp tk L ⟨d, .nilCheck x, ty, po, af, g⟩ = nlA L (eo fr x) := rfl
theorem stp_alloc {t : TypeId} : stp P n0 fr hp tk L ⟨d, .alloc t, ty, po, af, g⟩ = alA tk t L (zeroT P t) := rfl
theorem stp_box {t : TypeId} {x : Operand} : stp P n0 fr hp tk L ⟨d, .box t x, ty, po, af, g⟩ = bxA tk t L (eo fr x) (sizeT P t) := rfl
theorem stp_extract {x : Operand} {i : Nat} : stp P n0 fr hp tk L ⟨d, .extract x i, ty, po, af, g⟩ = exA L i (eo fr x) := rfl
theorem stp_len {x : Operand} {t : TypeId} {s1 s2 : Bool} : stp P n0 fr hp tk L ⟨d, .call { callee := .builtin .len, args := #[x], argTypes := #[t] }, ty, po, af, g⟩ = lnA P hp t L (eo fr x) := rfl

noncomputable def nextA (P : Program) (n0 : Nat) (ops r : List Oper) (d : Option Tmp) (tk : Nat) (fr : List (Nat × V)) (hp : List (Nat × Blk)) (p : Prop) : Option (Rs P) → Option (List (Nat × V) × List (Nat × Blk) × Prop)
  | some q => exec P n0 ops r (tk + 1) (putA fr d q.v) (after hp tk q) (p ∧ q.p) q.L
  | none => none
noncomputable def nextG (P : Program) (n0 : Nat) (ops r : List Oper) (tk : Nat) (p : Prop) : Option (List (Nat × V) × List (Nat × Blk) × Prop × List (Use P)) → Option (List (Nat × V) × List (Nat × Blk) × Prop)
  | some (fr', hp', p', L') => exec P n0 ops r (tk + 1) fr' hp' (p ∧ p') L'
  | none => none
noncomputable def nextW (P : Program) (n0 : Nat) (ops r : List Oper) (o : Oper) (tk : Nat) (fr : List (Nat × V)) (hp : List (Nat × Blk)) (p : Prop) (L : List (Use P)) : Option Bool → Option (List (Nat × V) × List (Nat × Blk) × Prop)
  | none => none
  | some g => nextG P n0 ops r tk p (guarded fr hp tk L o g (stp P n0 (under fr (readT o.op)) hp tk L o))
theorem exec_nil {ops : List Oper} {p : Prop} : exec P n0 ops [] tk fr hp p L = some (fr, hp, p) := rfl
theorem exec_plain {ops r : List Oper} {op : Op} {p : Prop} : exec P n0 ops (⟨d, op, ty, po, af, none⟩ :: r) tk fr hp p L = nextA P n0 ops r d tk fr hp p (stp P n0 fr hp tk L ⟨d, op, ty, po, af, none⟩) := rfl
theorem exec_guard {ops r : List Oper} {op : Op} {p : Prop} {j : Nat} {want : Bool} : exec P n0 ops (⟨d, op, ty, po, af, some (j, want)⟩ :: r) tk fr hp p L =
    nextW P n0 ops r ⟨d, op, ty, po, af, some (j, want)⟩ tk fr hp p L (wantA ops fr j want) := rfl
theorem guarded_pure {o : Oper} {b : Bool} {v : V} {q : Prop} {L' : List (Use P)} : guarded fr hp tk L o b (some ⟨v, [], [], none, q, L'⟩) = some (putA fr o.dst (.when b v), hp, owes fr b (readT o.op) ∧ (b = true → q), L') := rfl
theorem lk_nil {α : Type} {k : Nat} : lk ([] : List (Nat × α)) k = none := rfl
theorem beqq (i k : Nat) : (i == k) = i.beq k := by
  by_cases h : i = k
  · subst h; rw [beq_self]; simp
  · rw [beq_false h]; simp [h]
theorem lk_step {α : Type} {i k : Nat} {a : α} {r : List (Nat × α)} : lk ((i, a) :: r) k = bif i == k then some a else lk r k := by
  rw [beqq]; rfl
theorem idx_nil {k : Nat} : idx [] k = none := rfl
theorem idx_step {t k : Nat} {r : List Nat} : idx (t :: r) k = bif t == k then some 0 else (idx r k).map (· + 1) := by
  rw [beqq]; rfl
theorem sto_nil {α : Type} {k : Nat} {x : α} : sto ([] : List (Nat × α)) k x = [(k, x)] := rfl
theorem sto_step {α : Type} {i k : Nat} {a x : α} {r : List (Nat × α)} : sto ((i, a) :: r) k x = bif i == k then (k, x) :: r else (i, a) :: sto r k x := by
  rw [beqq]; rfl
theorem del_nil {α : Type} {k : Nat} : del ([] : List (Nat × α)) k = [] := rfl
theorem del_step {α : Type} {i k : Nat} {a : α} {r : List (Nat × α)} : del ((i, a) :: r) k = bif i == k then del r k else (i, a) :: del r k := by
  rw [beqq]; rfl

/-- A call whose value is new and that is handed nothing. -/
def usePure {f : Nat} {args : List V} {v : V} (h : CallsA P f args [] v []) (ht : tokB 0 v = true) (he : callB P f = true) : Use P := ⟨⟨f, args, [], v, [], h, rfl, by simp [ht, tokBlks], he⟩, []⟩
/-- A call in general. -/
def useAt {f : Nat} {args : List V} {bs : List Blk} {v : V} {bs' : List Blk} (ts : List Nat) (h : CallsA P f args bs v bs') (hl : (bs.length.ble bs'.length && bs'.length.ble (bs.length + 1)) = true) (ht : (tokB bs'.length v && tokBlks bs'.length bs') = true)
    (he : callB P f = true) : Use P := ⟨⟨f, args, bs, v, bs', h, hl, ht, he⟩, ts⟩

def caA (hp : List (Nat × Blk)) (tk : Nat) (L : List (Use P)) : Option V → Option (List V) → Option (Rs P)
  | some (.fn f cap), some vs => callA hp tk f (vs ++ cap) L
  | _, _ => none
theorem stp_call {x : Operand} {as : List Operand} {ts : Array TypeId} : stp P n0 fr hp tk L ⟨d, .call { callee := .value x, args := ⟨as⟩, argTypes := ts }, ty, po, af, g⟩ = caA hp tk L (eo fr x) (eos fr as) := rfl
theorem callA_pure {f : Nat} {args vs : List V} {v : V} {h : CallsA P f args [] v []} {ht : tokB 0 v = true} {he : callB P f = true} :
    callA hp tk f vs (usePure h ht he :: L) = some ⟨v, bif flat v then [] else seenL [] vs, [], none, leL (snapL hp [] vs) args, L⟩ := by
  simp [callA, usePure]
theorem callA_at {f t : Nat} {ts : List Nat} {args vs : List V} {bs bs' : List Blk} {v : V} {h : CallsA P f args bs v bs'} {hl : (bs.length.ble bs'.length && bs'.length.ble (bs.length + 1)) = true} {ht : (tokB bs'.length v && tokBlks bs'.length bs') = true} {he : callB P f = true} :
    callA hp tk f vs (useAt (t :: ts) h hl ht he :: L) = some ⟨ren (t :: ts) tk v, (bif flat v && flatBlks bs' then [] else seenL (t :: ts) vs ++ seenH hp (t :: ts) (t :: ts)) ++ deadT (t :: ts) bs', (backs (t :: ts) tk (t :: ts) bs').1, (backs (t :: ts) tk (t :: ts) bs').2, leL (snapL hp (t :: ts) vs) args ∧ hands hp (t :: ts) (t :: ts) bs ∧ (t :: ts).Nodup, L⟩ := by
  simp [callA, useAt]
theorem callA_new {f : Nat} {args vs : List V} {bs : List Blk} {b : Blk} {v : V} {h : CallsA P f args bs v [b]} {hl : (bs.length.ble [b].length && [b].length.ble (bs.length + 1)) = true} {ht : (tokB [b].length v && tokBlks [b].length [b]) = true} {he : callB P f = true} :
    callA hp tk f vs (useAt [] h hl ht he :: L) = some ⟨ren [] tk v, (bif flat v && flatBlks [b] then [] else seenL [] vs ++ seenH hp [] []) ++ deadT [] [b], (backs [] tk [] [b]).1, (backs [] tk [] [b]).2, leL (snapL hp [] vs) args ∧ hands hp [] [] bs ∧ ([] : List Nat).Nodup, L⟩ := by
  simp [callA, useAt]
end

theorem one_lit {v : Value} : one (.d (.lit v)) = v.oneCell' := by cases v <;> rfl
theorem one_lst {l : List (List D)} : one (.d (.lst l)) = true := rfl
theorem one_own {t : Nat} : one (.own t) = true := rfl
theorem one_ptr {t o : Nat} : one (.ptr t o) = true := rfl
theorem one_ept {t o j k : Nat} : one (.ept t o j k) = true := rfl
theorem one_ip {l : List D} : one (.ip l) = true := rfl
theorem one_fn {f : Nat} {l : List V} : one (.fn f l) = true := rfl
theorem one_agg {l : List V} : one (.agg l) = false := rfl
theorem one_tup {l : List V} : one (.tup l) = false := rfl
theorem one_when {b : Bool} {v : V} : one (.when b v) = false := rfl
theorem one_any : one .any = false := rfl
theorem binV_agg {P : Program} {op : BinOp} {t : TypeId} {cs : List V} {y : V} : binV P op t (.agg cs) y = none := rfl
theorem binV_lst {P : Program} {op : BinOp} {t : TypeId} {l : List (List D)} {y : V} : binV P op t (.d (.lst l)) y = none := rfl
theorem binV_slice {P : Program} {op : BinOp} {t : TypeId} {A : Option Addr} {l c : Nat} {y : V} : binV P op t (.d (.lit (.slice A l c))) y = none := rfl
theorem binV_pointer {P : Program} {op : BinOp} {t : TypeId} {A : Option Addr} {y : V} : binV P op t (.d (.lit (.pointer A))) y = none := rfl
theorem binV_ptr {P : Program} {op : BinOp} {t : TypeId} {k o : Nat} {y : V} : binV P op t (.ptr k o) y = none := rfl
attribute [go_sem] binV_agg binV_lst binV_slice binV_pointer binV_ptr binX eqFs eqV cmpR
attribute [go_sem] stp_move stp_assign stp_pick stp_bin stp_un stp_load stp_fieldAddr stp_store stp_field stp_indexAddr stp_index stp_build stp_buildSlice stp_convert stp_slice stp_append stp_max stp_min stp_makeFunc stp_nil stp_alloc stp_box stp_extract stp_len stp_call
  outA pickA binA unA ldA faA stA fdA iaA ixA bdA bsA cvA apA mxA mnA mfA nlA alA bxA exA lnA caA callA_pure callA_at callA_new backs deadT handsD flatBlks flatBlk flatD seenH ren renL renB sig Option.getD_some Option.getD_none Bool.and_false Bool.false_and exec_nil exec_plain exec_guard nextA nextG nextW guarded_pure wantA opsT readT under owes eo eos lk_nil lk_step sto_nil sto_step del_nil del_step cond_true cond_false List.foldl and_true true_and if_true if_false List.length_cons List.length_nil implies_true beq_true Int.toNat_natCast List.map_cons List.map_nil List.all_cons List.all_nil Bool.and_true Bool.true_and Value.oneCell' true_or or_true leF firsts hands leBlk leRow leRows leRows_snoc snapB Int.natCast_zero not_false_eq_true and_self List.nodup_nil List.nodup_cons List.mem_cons List.not_mem_nil or_false not_or argsE enum resOne imp_self beq_false Bool.not_eq_true' Bool.cond_true_left Bool.cond_false_right Bool.and_eq_true Option.isSome_some List.length_map List.append_nil List.nil_append List.cons_append List.getD_cons_zero List.getD_cons_succ
  putA after delAll loadA cut ins nth cellsV one_lit one_lst one_own one_ptr one_ept one_ip one_fn one_agg one_tup one_when one_any toD toDs ownsOf fillA rowsA boundA sliceV sliceA lenV lenT rowsV appendA appendX appendB bytesV convB txtI_ByI ByP_ByI mmA muA luA putM lookA intsV aggI mapM_MapI MapP_MapI stp_makeMap stp_mapUpdate stp_lookup binV binI binS binB unV arith intR ofR pureR pickV cdV reg trim flat flatL seen seenL snap snapL le leL leD idx_nil idx_step Option.map_some Option.map_none thenA blockA nilV
end Go.Abs

set_option linter.unusedVariables false
set_option linter.unusedSimpArgs false
namespace Go.Abs
open Go Go.RowKit

section
variable {P : Program} {nt n0 : Nat} {s : St} {φ : Exit → St → Prop} {c : Code}

theorem maxLen_eq : maxLen = 9223372036854775807 := rfl

theorem wpA_len {k : Nat} {l : List (List D)} (hk : lk s.fr k = some (.d (.lst l))) (h : l.length ≤ 9223372036854775807 → WpA P nt n0 c s φ) : WpA P nt n0 c s φ := by
  intro Γ a w m h1 h2 hR hd
  obtain ⟨u, hu, hr⟩ := hR.fr k _ hk
  refine h ?_ Γ a w m h1 h2 hR hd
  cases hr with
  | d hd => cases hd with
    | lst l A c sz cv hc hm => rw [← maxLen_eq]; omega

theorem wpA_row {k e sz : Nat} {l : List (List D)} (hk : lk s.hp k = some (.row e sz l)) (h : l.length ≤ 9223372036854775807 → (∀ row ∈ l, row.length = sz) → WpA P nt n0 c s φ) : WpA P nt n0 c s φ := by
  intro Γ a w m h1 h2 hR hd
  obtain ⟨xs, ho, hsz, _⟩ := hR.mem.hb k _ hk
  refine h ?_ hsz Γ a w m h1 h2 hR hd
  rcases ho.2 with ⟨_, h3⟩ | ⟨g, cap, cur, _, _, _, h3, h4, _⟩
  · omega
  · rw [← maxLen_eq]; omega

/-- The same, ahead of the walk. -/
theorem callsA_len {f : Nat} {args : List V} {bs : List Blk} {v : V} {bs' : List Blk} {k : Nat} {l : List (List D)} (hk : args[k]? = some (.d (.lst l))) (h : l.length ≤ 9223372036854775807 → CallsA P f args bs v bs') : CallsA P f args bs v bs' := by
  intro w m nt F us hG H hlen hargs
  have hlt : k < args.length := (List.getElem?_eq_some_iff.1 hk).1
  have hu : us[k]? = some (us[k]'(by omega)) := by simp [← hlen, hlt]
  refine h ?_ w m nt F us hG H hlen hargs
  have hr := hargs k _ _ hk hu
  generalize us[k]'(by omega) = u at hr
  cases hr with
  | d hd => cases hd with
    | lst l A c sz cv hc hm => rw [← maxLen_eq]; omega

/-- A nil slice as a row of our own that is empty. -/
theorem weak_own {s : St} {k e sz : Nat} (hk : lk s.fr k = some (.d (.lit (.slice none 0 0)))) : Weak n0 s ⟨(k, .own s.nx) :: s.fr, (s.nx, .row e sz []) :: s.hp, s.nx + 1⟩ := by
  intro Γ a w m h2 hR
  have htk : ¬ s.nx < s.nx := Nat.lt_irrefl _
  have hnew : ∀ g, blkOf (.slice none 0 0) = some g → w.heap.size ≤ g := fun g e => by cases e
  have H := hR.mem.more (w' := w) (b := .row e sz []) htk hnew (fun _ _ => rfl) (Nat.le_refl _) rfl rfl rfl ⟨[], ⟨by simp, .inl ⟨upm_self _ _ _, rfl⟩⟩, by simp, by simp, by simp⟩
  have hR2 := hR.turn (fun p u => Cw.more hR.mem htk hnew (fun _ _ => rfl) p u) (upm_lt m _ htk) (fun _ h => Or.inl h) H
  have hR3 := hR2.given (U' := fun t => t < s.nx + 1) fun t ht => by rcases ht with ht | ht <;> omega
  refine ⟨_, hR3.nt, fun i v hi => ?_, hR3.mem⟩
  rw [lk_cons] at hi
  split at hi
  · rename_i e; subst e
    obtain rfl := Option.some.inj hi
    obtain ⟨u, hu, hr⟩ := hR.fr _ _ hk
    obtain rfl := hr.lit_inv
    refine ⟨_, hu, ?_⟩
    have h9 := upm_self m s.nx (.slice none 0 0)
    have := RV.own (C := Cw Γ.F ((s.nx, .row e sz []) :: s.hp) (upm m s.nx (.slice none 0 0)) w) (m := upm m s.nx (.slice none 0 0)) (U := fun t => t < s.nx + 1) s.nx (Nat.lt_succ_self _) (by rw [h9]; rfl)
    rwa [h9] at this
  · exact hR3.fr i v hi

/-! ### ways out -/
variable {next : St → Prop} {id id' : Nat}
theorem tN (h : next s) : thenA next φ .normal s := h
theorem tE (h : φ (.exit id) s) : thenA next φ (.exit id) s := h
theorem tR (h : φ .ret s) : thenA next φ .ret s := h
theorem bN (h : φ .normal s) : blockA id φ .normal s := h
theorem bR (h : φ .ret s) : blockA id φ .ret s := h
theorem bE (h : φ .normal s) : blockA id φ (.exit id) s := by simp only [blockA, if_true]; exact h
theorem bD (hne : (id' == id) = false) (h : φ (.exit id') s) : blockA id φ (.exit id') s := by
  have : id' ≠ id := by simpa using hne
  simp only [blockA, this, if_false]; exact h

/-- Ways that meet again. -/
theorem wpA_join {x y : Code} {ι : Type} (F : ι → St) (I : ι → Prop) (h1 : WpA P nt n0 x s (thenA (fun s' => ∃ i, I i ∧ Weak n0 s' (F i)) φ)) (h2 : ∀ i, I i → WpA P nt n0 y (F i) φ) : WpA P nt n0 (.seq x y) s φ :=
  wpA_seq (h1.mono fun e s' h => by
    cases e with
    | normal => obtain ⟨i, hi, hw⟩ := h; exact (h2 i hi).weak hw
    | _ => exact h)
end
end Go.Abs

set_option linter.unusedVariables false
set_option linter.unusedSimpArgs false
namespace Go.Abs
open Go Go.RowKit

section
variable {P : Program} {Γ : Ctx} {fr : List (Nat × V)} {hp : List (Nat × Blk)} {U : Nat → Prop} {w w' : World} {m : Nat → Value}

theorem setCells_far {g : Nat} : ∀ (vs : List Value) (o : Nat) {w : World} (k : Nat), k ≠ g → (w.setCells g o vs).heap[k]? = w.heap[k]?
  | [], _, _, _, _ => rfl
  | v :: r, o, w, k, hk => by
    rw [World.setCells, setCells_far r (o + 1) k hk]
    simp [World.setCell, Array.getElem?_modify, Ne.symm hk]
theorem setCells_same (g : Nat) : ∀ (vs : List Value) (o : Nat) (w : World), (w.setCells g o vs).os = w.os ∧ (w.setCells g o vs).tape = w.tape ∧ (w.setCells g o vs).output = w.output ∧ (w.setCells g o vs).heap.size = w.heap.size
  | [], _, _ => ⟨rfl, rfl, rfl, rfl⟩
  | v :: r, o, w => by
    obtain ⟨h1, h2, h3, h4⟩ := setCells_same g r (o + 1) (w.setCell ⟨g, o, none⟩ v)
    rw [World.setCells]
    exact ⟨h1, h2, h3, by rw [h4]; simp [World.setCell]⟩
theorem setCells_row {g : Nat} {e : TypeId} : ∀ (vs : List Value) (o : Nat) (w : World) (cur : Array Value), w.heap[g]? = some (.cells cur e (0, 0)) → o + vs.length ≤ cur.size →
    ∃ cur', (w.setCells g o vs).heap[g]? = some (.cells cur' e (0, 0)) ∧ cur'.size = cur.size ∧ cur'.toList = cur.toList.take o ++ vs ++ cur.toList.drop (o + vs.length)
  | [], o, w, cur, h, _ => ⟨cur, h, rfl, by simp⟩
  | v :: r, o, w, cur, h, hl => by
    have h2 : (w.setCell ⟨g, o, none⟩ v).heap[g]? = some (.cells (cur.setIfInBounds o v) e (0, 0)) := by simp [World.setCell, Array.getElem?_modify, h]
    simp only [List.length_cons] at hl
    obtain ⟨cur', h3, h4, h5⟩ := setCells_row r (o + 1) (w.setCell ⟨g, o, none⟩ v) _ h2 (by simp; omega)
    refine ⟨cur', h3, by rw [h4]; simp, ?_⟩
    rw [h5, Array.toList_setIfInBounds]
    have ho : o < cur.toList.length := by rw [Array.length_toList]; omega
    rw [List.take_set, List.drop_set_of_lt (by omega)]
    simp only [List.length_cons]
    rw [show o + 1 + r.length = o + (r.length + 1) by omega]
    have : (cur.toList.take (o + 1)).set o v = cur.toList.take o ++ [v] := by
      rw [List.take_succ_eq_append_getElem ho, List.set_append_right _ _ (by simp; omega)]
      have : min o cur.size = o := by rw [Array.length_toList] at ho; omega
      simp [this]
    rw [this]; simp
end
end Go.Abs

set_option linter.unusedVariables false
set_option linter.unusedSimpArgs false
namespace Go.Abs
open Go Go.RowKit

/-- A struct's fields lie one behind the other. -/
def layB (P : Program) : List Field → Nat → Nat → Bool
  | [], o, tot => o == tot
  | f :: r, o, tot => f.offset == o && layB P r (o + P.cellsOf f.type) tot
def okT (P : Program) : Nat → TypeId → Bool
  | 0, _ => false
  | n + 1, t => match P.underlying t with
    | some (.int _) => true
    | some .bool => true
    | some .string => true
    | some (.slice e) => okT P n e
    | some (.struct fs) => layB P fs.toList 0 (P.cellsOf t) && fs.toList.all fun f => okT P n f.type
    | _ => false

mutual
/-- The cells of a value of a type, as data. -/
inductive Sh (P : Program) : TypeId → List D → Prop
  | int {t : TypeId} {k : IntKind} {n : Int} (h : P.underlying t = some (.int k)) (hw : (Lit.int k n).wf = true) : Sh P t [.lit (.int k n)]
  | bool {t : TypeId} {b : Bool} (h : P.underlying t = some .bool) : Sh P t [.lit (.bool b)]
  | str {t : TypeId} {s : ByteArray} (h : P.underlying t = some .string) (hs : s.size ≤ maxLen) : Sh P t [.lit (.string s)]
  | slice {t e : TypeId} {l : List (List D)} (h : P.underlying t = some (.slice e)) (hl : l.length ≤ maxLen) (hr : ∀ row ∈ l, Sh P e row) : Sh P t [.lst l]
  | struct {t : TypeId} {fs : Array Field} {ds : List D} (h : P.underlying t = some (.struct fs)) (hf : ShL P fs.toList ds) : Sh P t ds
inductive ShL (P : Program) : List Field → List D → Prop
  | nil : ShL P [] []
  | cons {f : Field} {r : List Field} {a b : List D} (h : Sh P f.type a) (hr : ShL P r b) : ShL P (f :: r) (a ++ b)
end

/-- Cells that read as data. -/
def Rd (C : Addr → Value → Prop) (ds : List D) (cs : List Value) : Prop := ds.length = cs.length ∧ (∀ u ∈ cs, u.oneCell' = true) ∧ ∀ (k : Nat) (d : D) (u : Value), ds[k]? = some d → cs[k]? = some u → RD C d u

theorem Rd.one {C : Addr → Value → Prop} {d : D} {u : Value} (h : RD C d u) (ho : u.oneCell' = true) : Rd C [d] [u] := by
  refine ⟨rfl, by simpa using ho, fun k d' u' hd hu => ?_⟩
  cases k with
  | zero => simp at hd hu; subst hd hu; exact h
  | succ k => simp at hd
theorem Rd.app {C : Addr → Value → Prop} {a b : List D} {x y : List Value} (h : Rd C a x) (h' : Rd C b y) : Rd C (a ++ b) (x ++ y) := by
  refine ⟨by simp [h.1, h'.1], fun u hu => ?_, fun k d u hd hu => ?_⟩
  · rcases List.mem_append.1 hu with hu | hu
    · exact h.2.1 u hu
    · exact h'.2.1 u hu
  · by_cases hk : k < a.length
    · rw [List.getElem?_append_left hk] at hd
      rw [List.getElem?_append_left (by rw [← h.1]; exact hk)] at hu
      exact h.2.2 k d u hd hu
    · rw [List.getElem?_append_right (by omega)] at hd
      rw [List.getElem?_append_right (by rw [← h.1]; omega), ← h.1] at hu
      exact h'.2.2 _ d u hd hu

section
variable {H : Type} {enc : TypeId × Value → H} {P : Program} {w : World} {base : Nat} {spare : Nat → Bool} {held : Bool} {C : Addr → Value → Prop}

theorem read_fields {n : Nat} (ih : ∀ (t : TypeId) (cs : List Value) (x : DataW H × List MemPlace), okT P n t = true → (∃ fuel, DataW.trod enc P w base spare held fuel t cs = some x) → ∃ ds, Sh P t ds ∧ Rd C ds cs) (cs : List Value) (tot : Nat) (hl : cs.length = tot) :
    ∀ (fs : List Field) (o : Nat), layB P fs o tot = true → fs.all (fun f => okT P n f.type) = true → (∀ f ∈ fs, ∃ x fuel, DataW.trod enc P w base spare held fuel f.type ((cs.drop f.offset).take (P.cellsOf f.type)) = some x) → ∃ ds, ShL P fs ds ∧ Rd C ds (cs.drop o)
  | [], o, h, _, _ => by
    simp only [layB, beq_iff_eq] at h
    refine ⟨[], .nil, ?_⟩
    rw [List.drop_of_length_le (by omega)]
    exact ⟨rfl, by simp, by simp⟩
  | f :: r, o, h, ha, hx => by
    simp only [layB, Bool.and_eq_true, beq_iff_eq] at h
    simp only [List.all_cons, Bool.and_eq_true] at ha
    obtain ⟨x, fuel, h0⟩ := hx f List.mem_cons_self
    obtain ⟨a, ha1, ha2⟩ := ih _ _ x ha.1 ⟨fuel, h0⟩
    obtain ⟨b, hb1, hb2⟩ := read_fields ih cs tot hl r _ h.2 ha.2 fun f' hf' => hx f' (List.mem_cons_of_mem _ hf')
    refine ⟨a ++ b, .cons ha1 hb1, ?_⟩
    have := ha2.app hb2
    rw [h.1, ← List.drop_drop, List.take_append_drop] at this
    exact this

/-- A datum's reading, as data. -/
theorem read_data (hC : ∀ a v, w.cell? a = some v → C a v) : ∀ (n : Nat) (t : TypeId) (cs : List Value) (x : DataW H × List MemPlace), okT P n t = true → (∃ fuel, DataW.trod enc P w base spare held fuel t cs = some x) → ∃ ds, Sh P t ds ∧ Rd C ds cs
  | 0, t, cs, x, h, _ => by simp [okT] at h
  | n + 1, t, cs, x, h, ⟨fuel, hx⟩ => by
    simp only [okT] at h
    split at h
    · rename_i k ht
      obtain ⟨z, rfl, -, hw⟩ := DataW.trod_int ht hx
      exact ⟨_, .int ht hw, .one (.lit _) rfl⟩
    · rename_i ht
      obtain ⟨z, rfl, -⟩ := DataW.trod_bool ht hx
      exact ⟨_, .bool ht, .one (.lit _) rfl⟩
    · rename_i ht
      obtain ⟨z, rfl, -, hs⟩ := DataW.trod_string ht hx
      exact ⟨_, .str ht hs, .one (.lit _) rfl⟩
    · rename_i e ht
      rcases Deep.open_slice ht hx with ⟨rfl, -⟩ | ⟨a, len, cap, m, n', Dd, Pl, rfl, hb, hl, hm, hmm, -, hel⟩
      · exact ⟨[.lst []], .slice ht (Nat.zero_le _) (by simp), .one (.lst [] none 0 0 (fun _ _ => undef) (Nat.le_refl _) (Nat.zero_le _) (by simp) (by simp) (by simp) (by simp)) rfl⟩
      · have hle : len ≤ m := by rw [hmm]; split <;> omega
        obtain ⟨F, hF⟩ := Deep.choose_lt (α := List D × List Value) (n := len) (p := fun i q => Sh P e q.1 ∧ Rd C q.1 q.2 ∧ q.2.length = P.cellsOf e ∧ ∀ k, k < P.cellsOf e → w.cell? ((a.add (i * P.cellsOf e)).add k) = q.2[k]?) (fun i hi => by
          obtain ⟨cs', h1, h2⟩ := hel i (by omega)
          obtain ⟨ds, d1, d2⟩ := read_data hC n e cs' _ h ⟨n', h2⟩
          obtain ⟨-, c1, c2⟩ := World.cells?_some h1
          exact ⟨(ds, cs'), d1, d2, c1, c2⟩)
        refine ⟨[.lst ((List.range len).map fun i => (F i).1)], .slice ht (by simp; omega) (fun row hrow => ?_), .one ?_ rfl⟩
        · obtain ⟨i, hi, rfl⟩ := List.mem_map.1 hrow
          exact (hF i (by simpa using hi)).1
        · have get : ∀ j row, ((List.range len).map fun i => (F i).1)[j]? = some row → j < len ∧ row = (F j).1 := fun j row hj => by
            rw [List.getElem?_map] at hj
            by_cases hjl : j < len
            · rw [List.getElem?_range hjl] at hj; exact ⟨hjl, (Option.some.inj hj).symm⟩
            · rw [List.getElem?_eq_none (by simpa using hjl)] at hj; cases hj
          have hlen : ((List.range len).map fun i => (F i).1).length = len := by simp
          have val : ∀ j, j < len → ∀ k x, (F j).1[k]? = some x → k < P.cellsOf e ∧ ∃ u, (F j).2[k]? = some u := fun j hj k x hk => by
            obtain ⟨_, h2, h3, _⟩ := hF j hj
            have : k < (F j).1.length := (List.getElem?_eq_some_iff.1 hk).1
            have h4 : k < (F j).2.length := by rw [← h2.1]; exact this
            exact ⟨by omega, _, List.getElem?_eq_getElem h4⟩
          have key := RD.lst (C := C) ((List.range len).map fun i => (F i).1) (some a) cap (P.cellsOf e) (fun j k => ((F j).2[k]?).getD undef) (by rw [hlen]; exact hl) hm (fun row hrow => by
              obtain ⟨i, hi, rfl⟩ := List.mem_map.1 hrow
              obtain ⟨_, h2, h3, _⟩ := hF i (by simpa using hi)
              rw [h2.1, h3]) (fun j row hj k x hk => by
              obtain ⟨hjl, rfl⟩ := get j row hj
              obtain ⟨hkl, u, hu⟩ := val j hjl k x hk
              obtain ⟨_, _, _, h4⟩ := hF j hjl
              refine ⟨a, rfl, hC _ _ ?_⟩
              have := h4 k hkl
              rw [Deep.add_add] at this
              rw [this, hu]; rfl) (fun j row hj k x hk => by
              obtain ⟨hjl, rfl⟩ := get j row hj
              obtain ⟨hkl, u, hu⟩ := val j hjl k x hk
              obtain ⟨_, h2, _, _⟩ := hF j hjl
              rw [hu]; exact h2.2.1 u (List.mem_of_getElem? hu)) (fun j row hj k x hk => by
              obtain ⟨hjl, rfl⟩ := get j row hj
              obtain ⟨hkl, u, hu⟩ := val j hjl k x hk
              obtain ⟨_, h2, _, _⟩ := hF j hjl
              rw [hu]; exact h2.2.2 k x u hk hu)
          rw [hlen] at key
          exact key
    · rename_i fs ht
      rw [Bool.and_eq_true] at h
      obtain ⟨xs, n', -, -, hl, hlx, hf⟩ := DataW.trod_struct ht hx
      obtain ⟨ds, h1, h2⟩ := read_fields (C := C) (n := n) (fun t cs x h1 h2 => read_data hC n t cs x h1 h2) cs (P.cellsOf t) hl fs.toList 0 h.1 h.2 (fun f hf' => by
        obtain ⟨i, hi, e⟩ := List.getElem_of_mem hf'
        have hfi : fs[i]? = some f := by rw [← e]; simp
        have := hf i f hfi
        have hix : i < xs.length := by rw [hlx]; simpa using hi
        rw [List.getElem?_eq_getElem hix] at this
        exact ⟨_, n', this⟩)
      exact ⟨ds, .struct ht h1, by simpa using h2⟩
    · cases h

variable {t e : TypeId} {ds : List D}
theorem Sh.int_inv {k : IntKind} (ht : P.underlying t = some (.int k)) (h : Sh P t ds) : ∃ n, ds = [.lit (.int k n)] ∧ (Lit.int k n).wf = true := by
  cases h with
  | int h hw => rw [ht] at h; cases h; exact ⟨_, rfl, hw⟩
  | bool h => rw [ht] at h; cases h
  | str h hs => rw [ht] at h; cases h
  | slice h hl hr => rw [ht] at h; cases h
  | struct h hf => rw [ht] at h; cases h
theorem Sh.bool_inv (ht : P.underlying t = some .bool) (h : Sh P t ds) : ∃ b, ds = [.lit (.bool b)] := by
  cases h with
  | int h hw => rw [ht] at h; cases h
  | bool h => exact ⟨_, rfl⟩
  | str h hs => rw [ht] at h; cases h
  | slice h hl hr => rw [ht] at h; cases h
  | struct h hf => rw [ht] at h; cases h
theorem Sh.str_inv (ht : P.underlying t = some .string) (h : Sh P t ds) : ∃ s : ByteArray, ds = [.lit (.string s)] ∧ s.size ≤ maxLen := by
  cases h with
  | int h hw => rw [ht] at h; cases h
  | bool h => rw [ht] at h; cases h
  | str h hs => exact ⟨_, rfl, hs⟩
  | slice h hl hr => rw [ht] at h; cases h
  | struct h hf => rw [ht] at h; cases h
theorem Sh.slice_inv (ht : P.underlying t = some (.slice e)) (h : Sh P t ds) : ∃ l, ds = [.lst l] ∧ l.length ≤ maxLen ∧ ∀ row ∈ l, Sh P e row := by
  cases h with
  | int h hw => rw [ht] at h; cases h
  | bool h => rw [ht] at h; cases h
  | str h hs => rw [ht] at h; cases h
  | slice h hl hr => rw [ht] at h; cases h; exact ⟨_, rfl, hl, hr⟩
  | struct h hf => rw [ht] at h; cases h
theorem Sh.struct_inv {fs : Array Field} (ht : P.underlying t = some (.struct fs)) (h : Sh P t ds) : ShL P fs.toList ds := by
  cases h with
  | int h hw => rw [ht] at h; cases h
  | bool h => rw [ht] at h; cases h
  | str h hs => rw [ht] at h; cases h
  | slice h hl hr => rw [ht] at h; cases h
  | struct h hf => rw [ht] at h; cases h; exact hf
theorem ShL.nil_inv (h : ShL P [] ds) : ds = [] := by cases h; rfl
theorem ShL.cons_inv {f : Field} {r : List Field} (h : ShL P (f :: r) ds) : ∃ a b, ds = a ++ b ∧ Sh P f.type a ∧ ShL P r b := by
  cases h with
  | cons h hr => exact ⟨_, _, rfl, h, hr⟩
/-- Rows that are all of one make. -/
theorem rows_map {α : Type} {q : α → Prop} {enc' : α → List D} : ∀ {l : List (List D)}, (∀ row ∈ l, ∃ a, row = enc' a ∧ q a) → ∃ as : List α, l = as.map enc' ∧ ∀ a ∈ as, q a
  | [], _ => ⟨[], rfl, by simp⟩
  | row :: r, h => by
    obtain ⟨a, rfl, ha⟩ := h row List.mem_cons_self
    obtain ⟨as, rfl, has⟩ := rows_map (fun row hr => h row (List.mem_cons_of_mem _ hr))
    exact ⟨a :: as, rfl, fun x hx => by exact (List.mem_cons.1 hx).elim (fun e => e ▸ ha) (has x)⟩
end
end Go.Abs
