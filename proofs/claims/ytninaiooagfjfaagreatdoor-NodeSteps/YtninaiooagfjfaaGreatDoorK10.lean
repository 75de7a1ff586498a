/- Results that lie in variables; a function's end, said shortly. What evaluates a region that draws its order. A region whose sums may go over. A nil slice inside a variable as a row of our own; an end, said with less. No conditions. -/
import Derived.Test.YtninaiooagfjfaaGreatDoorK09
set_option linter.unusedVariables false
set_option linter.unusedSimpArgs false
namespace Go.Abs
open Go Go.RowKit

section
variable {P : Program} {Γ : Ctx} {fr fr' : List (Nat × V)} {hp hp' : List (Nat × Blk)} {U U' : Nat → Prop} {a : Act} {w w' : World} {m m' : Nat → Value}

theorem loadVar_ptr (hR : Rel Γ fr hp U a w m) {t : TypeId} {n k off : Nat} {c : Value} {u : V} {p : Prop} (hr : RV (Cw Γ.F hp m w) m U (.ptr k off) c) (hu : loadA P hp t (.ptr k off) = some (u, p)) (hs : sizeT P t = some n) :
    ∃ ad z, c = .pointer (some ad) ∧ (loadVar t ad).run P w = .ok z w ∧ RV (Cw Γ.F hp m w) m U u z := by
  simp only [loadA] at hu
  split at hu
  · rename_i ty cs hk
    cases hr with
    | ptr _ _ b h1 h2 =>
      obtain ⟨g, arr, e, hg, hsz, hO, hv⟩ := hR.mem.hb _ _ hk
      rw [h2] at e
      simp only [Value.pointer.injEq, Option.some.injEq, Addr.mk.injEq, and_true] at e
      subst e
      have hcell : ∀ k, k < arr.size → w.cell? ⟨b, k, none⟩ = some (arr.getD k undef) := fun k hk => by
        simp [World.cell?, hg, hk]
      split at hu
      · rename_i n' ha hs'
        obtain rfl : n = n' := Option.some.inj (hs.symm.trans hs')
        split at hu
        · rename_i hlen
          simp only [Option.some.injEq, Prod.mk.injEq] at hu
          obtain ⟨rfl, _⟩ := hu
          rw [cut_eq] at hlen ⊢
          have hle : off + n ≤ cs.length ∨ n = 0 := by simp only [List.length_take, List.length_drop] at hlen; omega
          refine ⟨_, _, rfl, run_loadVar ha hs _ (fun k => arr.getD (off + k) undef) w (fun k hk => by rw [add_plain]; simp at hk; exact hcell _ (by omega)), ?_⟩
          have := rv_agg_of (m := m) (U := U) (C := Cw Γ.F hp m w) ((cs.drop off).take n) (fun k => arr.getD (off + k) undef) (fun k hk => ?_) (fun k x hx => ?_)
          · rw [hlen] at this; simpa using this
          · rw [hlen] at hk
            have : off + k < arr.size := by omega
            exact hO (off + k) _ (by simp [this])
          · rw [List.getElem?_take, List.getElem?_drop] at hx
            split at hx
            · have hlt : off + k < cs.length := (List.getElem?_eq_some_iff.1 hx).1
              exact hv _ _ _ hx (by simp [hsz, hlt])
            · cases hx
        · cases hu
      · rename_i ha
        split at hu
        · rename_i u' hu'
          simp only [Option.some.injEq, Prod.mk.injEq] at hu
          obtain ⟨rfl, _⟩ := hu
          rw [nth_eq] at hu'
          have hlt : off < cs.length := (List.getElem?_eq_some_iff.1 hu').1
          refine ⟨_, _, rfl, ?_, hv _ _ (arr.getD off undef) hu' (by simp [hsz, hlt])⟩
          have := run_loadVar ha hs ⟨b, off, none⟩ (fun k => arr.getD (off + k) undef) w (fun k hk => by rw [add_plain]; simp at hk; subst hk; exact hcell _ (by omega))
          simpa using this
        · cases hu
      · cases hu
  · cases hu

/-- The values that a function gives: out of temporaries, or of variables of its own. -/
def resW (P : Program) (hp : List (Nat × Blk)) (fr : List (Nat × V)) : List ResultVar → Option (List V)
  | [] => some []
  | .tmp t :: r => match lk fr t, resW P hp fr r with | some v, some l => some (v :: l) | _, _ => none
  | .cell x t :: r => match lk fr x, sizeT P t, resW P hp fr r with
    | some (.ptr k o), some _, some l => match loadA P hp t (.ptr k o) with | some (u, _) => some (u :: l) | none => none
    | _, _, _ => none

theorem resW_run : ∀ {rs : List ResultVar} {l : List V}, resW P hp fr rs = some l → Rel Γ fr hp U a w m →
    ∃ us : List Value, (rs.mapM (resF a.tmps)).run P w = .ok us w ∧ l.length = us.length ∧ ∀ (k : Nat) (x : V) (u : Value), l[k]? = some x → us[k]? = some u → RV (Cw Γ.F hp m w) m U x u
  | [], l, h, hR => by
    obtain rfl := Option.some.inj h
    exact ⟨[], by simp [go_sem], rfl, by simp⟩
  | .tmp t :: r, l, h, hR => by
    simp only [resW] at h
    split at h
    · rename_i v l' h1 h2
      obtain rfl := Option.some.inj h
      obtain ⟨us, i1, i2, i3⟩ := resW_run h2 hR
      obtain ⟨u, hu, hr⟩ := hR.fr t v h1
      refine ⟨u :: us, ?_, by simp [i2], fun k x z hk hz => ?_⟩
      · have e : resF a.tmps (.tmp t) = pure u := by simp [resF, hu]
        rw [List.mapM_cons, e]
        simp [go_sem, Sem.run_bind, i1]
      · cases k with
        | zero => simp at hk hz; subst hk hz; exact hr
        | succ k => exact i3 k x z (by simpa using hk) (by simpa using hz)
    · cases h
  | .cell x t :: r, l, h, hR => by
    simp only [resW] at h
    split at h
    · rename_i k o n l' h1 hs h2
      split at h
      · rename_i u p hu
        obtain rfl := Option.some.inj h
        obtain ⟨us, i1, i2, i3⟩ := resW_run h2 hR
        obtain ⟨c, hc, hr⟩ := hR.fr x _ h1
        obtain ⟨ad, z, rfl, h3, h4⟩ := loadVar_ptr hR hr hu hs
        refine ⟨z :: us, ?_, by simp [i2], fun k x z hk hz => ?_⟩
        · have e : (resF a.tmps (.cell x t)).run P w = .ok z w := by simpa [resF, hc, asAddr, go_sem, Sem.run_bind] using h3
          rw [List.mapM_cons, Sem.run_bind, e]
          simp [go_sem, Sem.run_bind, i1]
        · cases k with
          | zero => simp at hk hz; subst hk hz; exact h4
          | succ k => exact i3 k x z (by simpa using hk) (by simpa using hz)
      · cases h
    · cases h

/-- The end of a function: what it gives and what its blocks are. -/
def endW (P : Program) (n0 : Nat) (rs : List ResultVar) (v : V) (bs' : List Blk) (e : Exit) (s : St) : Prop :=
  (e = .normal ∨ e = .ret) ∧ ∃ l0 l, resW P s.hp s.fr rs = some l0 ∧ Weak n0 ⟨argsE l0 0, s.hp, s.nx⟩ ⟨argsE l 0, enum bs' 0, bs'.length⟩ ∧ l0.length = l.length ∧ v = resOne l

theorem resultsW_run {fn : Func} {l : List V} (h : resW P hp fr fn.results.toList = some l) (hR : Rel Γ fr hp U a w m) : ∃ us : List Value, (results fn a.tmps).run P w = .ok (if h : us.toArray.size = 1 then us.toArray[0] else .tuple us.toArray) w ∧ l.length = us.length ∧
    ∀ (k : Nat) (x : V) (u : Value), l[k]? = some x → us[k]? = some u → RV (Cw Γ.F hp m w) m U x u := by
  obtain ⟨us, h1, h2, h3⟩ := resW_run (P := P) h hR
  refine ⟨us, ?_, h2, h3⟩
  rw [results_eq, Array.mapM_eq_mapM_toList]
  simp [go_sem, Sem.run_bind, Sem.run_map, h1]
theorem rv_one {C : Addr → Value → Prop} {l : List V} {us : List Value} (h2 : l.length = us.length) (h3 : ∀ (k : Nat) (x : V) (u : Value), l[k]? = some x → us[k]? = some u → RV C m U x u) : RV C m U (resOne l) (if h : us.toArray.size = 1 then us.toArray[0] else .tuple us.toArray) := by
  match l, us, h2, h3 with
  | [], [], _, _ => exact .tup [] #[] rfl (by simp)
  | [v], [u], _, h3 => exact h3 0 v u rfl rfl
  | v :: v' :: l, u :: u' :: us, hl, h3 => exact .tup _ _ (by simpa using hl) fun k x z hk hz => h3 k x z hk (by simpa using hz)

theorem callsW_of {f : Nat} {fn : Func} {c : Code} {args : List V} {bs : List Blk} {v : V} {bs' : List Blk} (rs : List ResultVar) (hf : P.funcs[f]? = some fn) (hb : fn.body = some c) (hr : fn.results.toList = rs) (hl : args.length ≤ fn.ntmps)
    (h : WpA P fn.ntmps bs.length c ⟨argsE args 0, enum bs 0, bs.length⟩ (endW P bs.length rs v bs')) : CallsA P f args bs v bs' := by
  subst hr
  intro w m nt F us hG H hlen hargs
  refine calls_of_wp hf hb (wp_mono (h ⟨w, bs.length, m, fn.ntmps, F⟩ _ w m ⟨rfl, hG⟩ rfl ⟨?_, fun i x hi => ?_, ⟨H.hb, H.sep, H.lt, H.new, H.old, H.n0, H.nF, H.hF, ⟨H.keeps.os, H.keeps.tape, H.keeps.output, H.keeps.size, H.keeps.block⟩⟩⟩ rfl) fun e a' w' hq => ?_)
  · simp; omega
  · rw [lk_argsE, if_pos (Nat.zero_le _), Nat.sub_zero] at hi
    have hlt : i < args.length := (List.getElem?_eq_some_iff.1 hi).1
    have hu : us[i]? = some (us[i]'(by omega)) := by simp [← hlen, hlt]
    refine ⟨_, ?_, hargs i x _ hi hu⟩
    show (us ++ Array.replicate (fn.ntmps - us.size) undef)[i]? = _
    rw [Array.getElem?_append_left (by omega)]; exact hu
  · obtain ⟨s', m', ⟨he, l0, l, h0, hw, hll, rfl⟩, hR, hd⟩ := hq
    obtain ⟨us', hu1, hu2, hu3⟩ := resultsW_run (P := P) h0 hR
    have hRr : Rel ⟨w, bs.length, m, us'.length, F⟩ (argsE l0 0) s'.hp (fun t => t < s'.nx) { a' with tmps := us'.toArray } w' m' := by
      have H2 := hR.mem
      refine ⟨by simp, fun i x hi => ?_, ⟨H2.hb, H2.sep, H2.lt, H2.new, H2.old, H2.n0, H2.nF, H2.hF, ⟨H2.keeps.os, H2.keeps.tape, H2.keeps.output, H2.keeps.size, H2.keeps.block⟩⟩⟩
      rw [lk_argsE, if_pos (Nat.zero_le _), Nat.sub_zero] at hi
      have hlt : i < l0.length := (List.getElem?_eq_some_iff.1 hi).1
      have hu : us'[i]? = some (us'[i]'(by omega)) := by simp
      exact ⟨_, by simp, hu3 i x _ hi hu⟩
    obtain ⟨m2, hR2⟩ := hw _ _ w' m' rfl hRr
    have H2 := hR2.mem
    have hv : RV (Cw F (enum bs' 0) m2 w') m2 (fun t => t < bs'.length) (resOne l) (if h : us'.toArray.size = 1 then us'.toArray[0] else .tuple us'.toArray) := rv_one (by omega) fun k x u hk hu => by
      obtain ⟨u', hu', hr⟩ := hR2.fr k x (by rw [lk_argsE, if_pos (Nat.zero_le _), Nat.sub_zero]; exact hk)
      have e : us'.toArray[k]? = some u' := hu'
      rw [List.getElem?_toArray] at e
      rw [e] at hu
      obtain rfl := Option.some.inj hu
      exact hr
    have body : a'.defers = [] ∧ ∃ v, (results fn a'.tmps).run P w' = .ok v w' ∧ ∃ u m' U', Ending.returned v = .returned u ∧ RelH ⟨w, bs.length, m, nt, F⟩ (enum bs' 0) U' w' m' ∧ RV (Cw F (enum bs' 0) m' w') m' U' (resOne l) u := by
      exact ⟨hd, _, hu1, _, m2, _, rfl, ⟨H2.hb, H2.sep, H2.lt, H2.new, H2.old, H2.n0, H2.nF, H2.hF, ⟨H2.keeps.os, H2.keeps.tape, H2.keeps.output, H2.keeps.size, H2.keeps.block⟩⟩, hv⟩
    rcases he with rfl | rfl
    · exact body
    · exact body

mutual
theorem le_refl : ∀ (x : V), le x x
  | .d x => .inl rfl
  | .own _ => rfl
  | .ptr _ _ => rfl
  | .ept _ _ _ _ => rfl
  | .ip _ => rfl
  | .agg cs => leL_refl cs
  | .tup cs => leL_refl cs
  | .fn f cs => ⟨rfl, leL_refl cs⟩
  | .when _ _ => rfl
  | .any => True.intro
theorem leL_refl : ∀ (l : List V), leL l l
  | [] => True.intro
  | x :: r => ⟨le_refl x, leL_refl r⟩
end

theorem leF_argsE {hp : List (Nat × Blk)} {ts : List Nat} {fr : List (Nat × V)} : ∀ {l' : List V} {i : Nat}, (∀ k x, l'[k]? = some x → ∃ u, lk fr (i + k) = some u ∧ le (snap hp ts u) x) → leF hp ts fr (argsE l' i)
  | [], _, _ => True.intro
  | x :: r, i, h => by
    obtain ⟨u, h1, h2⟩ := h 0 x rfl
    refine ⟨by rw [Nat.add_zero] at h1; rw [h1]; exact h2, leF_argsE fun k y hk => ?_⟩
    have := h (k + 1) y (by simpa using hk)
    rwa [show i + (k + 1) = i + 1 + k by omega] at this
variable {n0 : Nat} {s : St} {e : Exit} {rs : List ResultVar} {v : V} {l0 : List V}

/-- An end, with blocks. -/
theorem endB {bs' : List Blk} (ts : List Nat) (he : e = .normal ∨ e = .ret) (h0 : resW P s.hp s.fr rs = some l0) (hn : firsts ts n0 0) (hnd : ts.Nodup) (hb : handsD s.hp ts ts bs') (hv : v = resOne (snapL s.hp ts l0)) (hdl : deadLt n0 bs' 0 = true := by rfl) : endW P n0 rs v bs' e s := by
  refine ⟨he, l0, snapL s.hp ts l0, h0, weak_of ts hn hnd hb (leF_argsE fun k x hk => ?_) hdl, by rw [snapL_eq]; simp, hv⟩
  rw [Nat.zero_add, lk_argsE, if_pos (Nat.zero_le _), Nat.sub_zero]
  rw [snapL_eq, List.getElem?_map] at hk
  cases hl : l0[k]? with
  | none => rw [hl] at hk; cases hk
  | some y =>
    rw [hl] at hk
    obtain rfl := Option.some.inj hk
    exact ⟨y, rfl, le_refl _⟩
/-- An end, all data. -/
theorem endD (he : e = .normal ∨ e = .ret) (h0 : resW P s.hp s.fr rs = some l0) (hv : v = resOne (snapL s.hp [] l0)) : endW P 0 rs v [] e s :=
  endB [] he h0 trivial (by simp) trivial hv
end
end Go.Abs

set_option linter.unusedVariables false
set_option linter.unusedSimpArgs false
namespace Go.Abs
open Go Go.RowKit

section
variable {P : Program} {n0 : Nat} {fr : List (Nat × V)} {hp : List (Nat × Blk)} {tk : Nat} {L : List (Use P)} {d : Option Tmp} {ty : TypeId} {po : String} {af : Array Edge}

noncomputable def nextD (P : Program) (n0 : Nat) (ops r : List Oper) (sp : List (List Nat)) (j tk : Nat) (fr : List (Nat × V)) (hp : List (Nat × Blk)) (p : Prop) (lg : List Log) (d : Option Tmp) (rs td : List Nat) : Option (Qt × List (Use P)) → Option (List (Nat × V) × List (Nat × Blk) × Prop × List Log)
  | some (q, L') => goA P n0 ops r sp (j + 1) (tk + 1) (putA fr d q.v) (putE hp q.eff) (p ∧ q.p) L' (⟨j, d, rs, td, keysE q.eff⟩ :: lg)
  | none => none
theorem goA_nil {ops : List Oper} {sp : List (List Nat)} {j : Nat} {p : Prop} {lg : List Log} : goA P n0 ops [] sp j tk fr hp p L lg = some (fr, hp, p, lg) := by cases sp <;> rfl
theorem goA_cons {ops r : List Oper} {op : Op} {g : Option (Nat × Bool)} {rs : List Nat} {sp : List (List Nat)} {j : Nat} {p : Prop} {lg : List Log} :
    goA P n0 ops (⟨d, op, ty, po, af, g⟩ :: r) (rs :: sp) j tk fr hp p L lg = nextD P n0 ops r sp j tk fr hp p lg d rs (toksF (trim rs fr) ++ callT ⟨d, op, ty, po, af, g⟩ L) (stepV P n0 ops (trim rs fr) (trimB (toksF (trim rs fr) ++ callT ⟨d, op, ty, po, af, g⟩ L) hp) tk L ⟨d, op, ty, po, af, g⟩) := by
  show goA P n0 ops (_ :: r) (rs :: sp) j tk fr hp p L lg = _
  rw [goA]
  unfold nextD
  rfl
noncomputable def stepG (P : Program) (n0 : Nat) (fr : List (Nat × V)) (hp : List (Nat × Blk)) (tk : Nat) (L : List (Use P)) (o : Oper) : Option Bool → Bool → Option (Qt × List (Use P))
  | some g, true => quietG fr o g (stp P n0 (under fr (readT o.op)) hp tk L o)
  | _, _ => none
theorem stepV_plain {ops : List Oper} {op : Op} : stepV P n0 ops fr hp tk L ⟨d, op, ty, po, af, none⟩ = quietP tk (stp P n0 fr hp tk L ⟨d, op, ty, po, af, none⟩) := rfl
theorem stepV_guard {ops : List Oper} {op : Op} {j : Nat} {want : Bool} : stepV P n0 ops fr hp tk L ⟨d, op, ty, po, af, some (j, want)⟩ = stepG P n0 fr hp tk L ⟨d, op, ty, po, af, some (j, want)⟩ (wantA ops fr j want) ((readT op).all (fun t => (lk fr t).isSome)) := by
  unfold stepV stepG
  rfl
theorem usePure_ts {f : Nat} {args : List V} {v : V} {h : CallsA P f args [] v []} {ht : tokB 0 v = true} {he : callB P f = true} : (usePure h ht he).ts = [] := rfl
theorem useAt_ts {f : Nat} {args : List V} {bs : List Blk} {v : V} {bs' : List Blk} {ts : List Nat} {h : CallsA P f args bs v bs'} {hl : (bs.length.ble bs'.length && bs'.length.ble (bs.length + 1)) = true} {ht : (tokB bs'.length v && tokBlks bs'.length bs') = true} {he : callB P f = true} : (useAt ts h hl ht he).ts = ts := rfl
end

attribute [go_sem] goA_nil goA_cons nextD stepV_plain stepV_guard stepG usePure_ts useAt_ts quietP quietG effOf newE setE goneE putE keysE toks toksL toksF callT trimB regD resW List.drop_zero List.drop_succ_cons
end Go.Abs

set_option linter.unusedVariables false
set_option linter.unusedSimpArgs false
namespace Go.Abs
open Go Go.RowKit

/-- A sum as the machine makes it. -/
def wI (n : Int) : Int := IntKind.i64.wrap n
section
variable {P : Program} {Γ : Ctx} {fr fr' : List (Nat × V)} {hp hp' : List (Nat × Blk)} {U : Nat → Prop} {a : Act} {w : World} {m : Nat → Value} {tk : Nat} {L : List (Use P)} {o : Oper}
def addW (fr : List (Nat × V)) (o : Oper) : Option V := match o.op with
  | .binOp .add _ x y _ => match eo fr x, eo fr y with
    | some (.d (.lit (.int .i64 a))), some (.d (.lit (.int .i64 b))) => some (.d (.lit (.int .i64 (wI (a + b)))))
    | _, _ => none
  | _ => none
theorem addW_sound {v : V} (h : addW fr o = some v) : Sound P Γ fr hp U tk o ⟨v, [], [], none, True, L⟩ := by
  unfold addW at h
  split at h
  · rename_i t x y t' ho
    split at h
    · rename_i a0 b0 hx hy
      obtain rfl := Option.some.inj h
      refine sound_pure fun a w m hR _ => ⟨_, ?_, .d (.lit _)⟩
      have h1 := (eo_rel hR hx).lit_inv
      have h2 := (eo_rel hR hy).lit_inv
      generalize a.eval = ρ at *
      simp [execOp, ho, h1, h2, eqGuard, binOp, Op.intArith, go_sem, wI]
    · cases h
  · cases h
/-- A region without guards. -/
noncomputable def execU (P : Program) (n0 : Nat) : List Oper → Nat → List (Nat × V) → List (Nat × Blk) → Prop → List (Use P) → Option (List (Nat × V) × List (Nat × Blk) × Prop)
  | [], _, fr, hp, p, _ => some (fr, hp, p)
  | o :: r, tk, fr, hp, p, L => match o.guard, addW fr o with
    | none, some v => execU P n0 r (tk + 1) (putA fr o.dst v) hp p L
    | none, none => match stp P n0 fr hp tk L o with
      | some q => execU P n0 r (tk + 1) (putA fr o.dst q.v) (after hp tk q) (p ∧ q.p) q.L
      | none => none
    | some _, _ => none
theorem execU_cond {n0 : Nat} : ∀ {os : List Oper} {tk : Nat} {fr : List (Nat × V)} {hp : List (Nat × Blk)} {p0 : Prop} {L : List (Use P)} {fr' : List (Nat × V)} {hp' : List (Nat × Blk)} {p : Prop},
    execU P n0 os tk fr hp p0 L = some (fr', hp', p) → p → p0
  | [], tk, fr, hp, p0, L, fr', hp', p, h, hp0 => by
    simp only [execU, Option.some.injEq, Prod.mk.injEq] at h
    rw [h.2.2]; exact hp0
  | o :: r, tk, fr, hp, p0, L, fr', hp', p, h, hp0 => by
    simp only [execU] at h
    split at h
    · exact execU_cond h hp0
    · split at h
      · exact (execU_cond h hp0).1
      · cases h
    · cases h
theorem execU_sound (hG : Good P Γ.F Γ.w0) {ops : Array Oper} {Q : Exit → Act → World → Prop} : ∀ {os : List Oper} {tk : Nat} {fr : List (Nat × V)} {hp : List (Nat × Blk)} {p0 : Prop} {L : List (Use P)} {fr' : List (Nat × V)} {hp' : List (Nat × Blk)} {p : Prop} {a : Act} {w : World} {m : Nat → Value},
    execU P Γ.n0 os tk fr hp p0 L = some (fr', hp', p) → p → (∀ o ∈ os, ∀ d, o.dst = some d → d < Γ.nt) → Rel Γ fr hp (fun t => t < tk) a w m →
    (∀ a' w' m', Rel Γ fr' hp' (fun t => t < tk + os.length) a' w' m' → a'.defers = a.defers → Q .normal a' w') → wpList P ops Q os a w
  | [], tk, fr, hp, p0, L, fr', hp', p, a, w, m, h, hp0, hd, hR, hK => by
    simp only [execU, Option.some.injEq, Prod.mk.injEq] at h
    obtain ⟨rfl, rfl, -⟩ := h
    exact hK _ _ _ (by simpa using hR) rfl
  | o :: r, tk, fr, hp, p0, L, fr', hp', p, a, w, m, h, hp0, hd, hR, hK => by
    have go : ∀ {fr1 : List (Nat × V)} {hp1 : List (Nat × Blk)} {p1 : Prop} {L1 : List (Use P)}, execU P Γ.n0 r (tk + 1) fr1 hp1 p1 L1 = some (fr', hp', p) →
        ∀ a' w' m', Rel Γ fr1 hp1 (also (fun t => t < tk) tk) a' w' m' → a'.defers = a.defers → wpList P ops Q r a' w' := fun h' a' w' m' hR' hdef =>
      execU_sound hG h' hp0 (fun o ho => hd o (List.mem_cons_of_mem _ ho)) (hR'.given fun t ht => by rcases ht with ht | ht <;> omega) fun a2 w2 m2 h2 hd2 => hK a2 w2 m2 (h2.given fun t ht => by simp only [List.length_cons]; omega) (hd2.trans hdef)
    simp only [execU] at h
    split at h
    · rename_i v hg hv
      unfold wpList
      rw [if_pos (by simp [Region.wanted, hg])]
      exact .inl (addW_sound (L := L) hv a w m _ _ hR (Nat.lt_irrefl tk) trivial (hd o List.mem_cons_self) fun a' w' m' hR' hdef => go h a' w' m' hR' hdef)
    · rename_i hg hv
      split at h
      · rename_i q hq
        unfold wpList
        rw [if_pos (by simp [Region.wanted, hg])]
        exact .inl (stp_sound hG hq a w m _ _ hR (Nat.lt_irrefl tk) (execU_cond h hp0).2 (hd o List.mem_cons_self) fun a' w' m' hR' hdef => go h a' w' m' hR' hdef)
      · cases h
    · cases h

noncomputable def regU (P : Program) (n0 : Nat) (ops : List Oper) (ks : List Nat) (L : List (Use P)) (s : St) : Option (St × Prop) :=
  match execU P n0 ops s.nx s.fr s.hp True L with
  | some (fr', hp', p) => some (⟨trim ks fr', hp', s.nx + ops.length⟩, p)
  | none => none
variable {nt n0 : Nat} {s : St} {φ : Exit → St → Prop}
theorem wpA_regU {id : Nat} {ops : Array Oper} {s' : St} {p : Prop} {y : Code} (ks : List Nat) (L : List (Use P)) (hd : dstB nt ops.toList = true) (he : regU P n0 ops.toList ks L s = some (s', p)) (hp : p) (h : WpA P nt n0 y s' φ) :
    WpA P nt n0 (.seq (.region id ops false) y) s φ := by
  refine wpA_seq ?_
  unfold regU at he
  split at he
  · rename_i fr' hp' p' hx
    obtain ⟨rfl, rfl⟩ := Prod.mk.inj (Option.some.inj he)
    intro Γ a w m h1 h2 hR hdef
    obtain ⟨h1, hG⟩ := h1
    subst h1 h2
    exact wp_region_list (execU_sound hG hx hp (dstB_spec hd) hR fun a' w' m' hR' hd' => ⟨_, m', h, hR'.forget (trim_sub ks fr'), hd'.trans hdef⟩)
  · cases he
end
theorem addW_bin {fr : List (Nat × V)} {d : Option Tmp} {t t' : TypeId} {x y : Operand} {ty : TypeId} {po : String} {af : Array Edge} {g : Option (Nat × Bool)} : addW fr ⟨d, .binOp .add t x y t', ty, po, af, g⟩ = match eo fr x, eo fr y with
    | some (.d (.lit (.int .i64 a))), some (.d (.lit (.int .i64 b))) => some (.d (.lit (.int .i64 (wI (a + b)))))
    | _, _ => none := rfl
theorem addW_move {fr : List (Nat × V)} {d : Option Tmp} {x : Operand} {ty : TypeId} {po : String} {af : Array Edge} {g : Option (Nat × Bool)} : addW fr ⟨d, .move x, ty, po, af, g⟩ = none := rfl
theorem addW_assign {fr : List (Nat × V)} {d : Option Tmp} {x : Operand} {ty : TypeId} {po : String} {af : Array Edge} {g : Option (Nat × Bool)} : addW fr ⟨d, .assign x, ty, po, af, g⟩ = none := rfl
theorem addW_load {fr : List (Nat × V)} {d : Option Tmp} {t : TypeId} {x : Operand} {ty : TypeId} {po : String} {af : Array Edge} {g : Option (Nat × Bool)} : addW fr ⟨d, .load t x, ty, po, af, g⟩ = none := rfl
theorem addW_field {fr : List (Nat × V)} {d : Option Tmp} {s f : Nat} {x : Operand} {ty : TypeId} {po : String} {af : Array Edge} {g : Option (Nat × Bool)} : addW fr ⟨d, .fieldAddr s x f, ty, po, af, g⟩ = none := rfl
theorem addW_call {fr : List (Nat × V)} {d : Option Tmp} {c : Call} {ty : TypeId} {po : String} {af : Array Edge} {g : Option (Nat × Bool)} : addW fr ⟨d, .call c, ty, po, af, g⟩ = none := rfl
attribute [go_sem] regU execU addW_bin addW_move addW_assign addW_load addW_field addW_call
end Go.Abs

set_option linter.unusedVariables false
set_option linter.unusedSimpArgs false
namespace Go.Abs
open Go Go.RowKit

section
variable {P : Program} {n0 : Nat} {s : St} {e : Exit} {rs : List ResultVar} {v : V} {l0 : List V}

theorem weak_ownV {k ty i el sz : Nat} {cs : List V} (hk : lk s.hp k = some (.var ty cs)) (hi : cs[i]? = some (.d (.lit (.slice none 0 0)))) :
    Weak n0 s ⟨s.fr, (s.nx, .row el sz []) :: sto s.hp k (.var ty (cs.set i (.own s.nx))), s.nx + 1⟩ := by
  intro Γ a w m h2 hR
  have htk : ¬ s.nx < s.nx := Nat.lt_irrefl _
  have hkn : k ≠ s.nx := fun e => htk (e ▸ hR.mem.lt k _ hk)
  have hnew : ∀ g, blkOf (.slice none 0 0) = some g → w.heap.size ≤ g := fun g e => by cases e
  have H := hR.mem.more (w' := w) (b := .row el sz []) htk hnew (fun _ _ => rfl) (Nat.le_refl _) rfl rfl rfl ⟨[], ⟨by simp, .inl ⟨upm_self _ _ _, rfl⟩⟩, by simp, by simp, by simp⟩
  have hR2 := hR.turn (fun p u => Cw.more hR.mem htk hnew (fun _ _ => rfl) p u) (upm_lt m _ htk) (fun _ h => Or.inl h) H
  have hR3 := hR2.given (U' := fun t => t < s.nx + 1) fun t ht => by rcases ht with ht | ht <;> omega
  -- the variable's cell, read as the row
  have hk3 : lk ((s.nx, .row el sz []) :: s.hp) k = some (.var ty cs) := by rw [lk_cons_ne _ _ (Ne.symm hkn)]; exact hk
  have hlt3 : ∀ t b, lk ((s.nx, .row el sz []) :: sto s.hp k (.var ty (cs.set i (.own s.nx)))) t = some b → ∃ b', lk ((s.nx, .row el sz []) :: s.hp) t = some b' := fun t b ht => by
    rw [lk_cons] at ht ⊢
    split at ht
    · rename_i e; rw [if_pos e]; exact ⟨_, rfl⟩
    · rename_i e
      rw [if_neg e]
      rw [lk_sto] at ht
      split at ht
      · rename_i e2; subst e2; exact ⟨_, hk⟩
      · exact ⟨b, ht⟩
  have hC : ∀ p u, Cw Γ.F ((s.nx, .row el sz []) :: s.hp) (upm m s.nx (.slice none 0 0)) w p u → Cw Γ.F ((s.nx, .row el sz []) :: sto s.hp k (.var ty (cs.set i (.own s.nx)))) (upm m s.nx (.slice none 0 0)) w p u := fun p u hc =>
    ⟨hc.cell, hc.notF, fun t b ht => by obtain ⟨b', hb'⟩ := hlt3 t b ht; exact hc.far t b' hb'⟩
  have H3 := hR3.mem
  refine ⟨upm m s.nx (.slice none 0 0), hR3.nt, fun i v hi => ?_, ⟨fun t b ht => ?_, fun t t' b b' g h1 h2 e1 e2 => ?_, fun t b ht => ?_, fun t b g ht hg hn => ?_, H3.old, H3.n0, fun t b g ht hg => ?_, H3.hF, H3.keeps⟩⟩
  · obtain ⟨u, hu, hr⟩ := hR3.fr i v hi
    exact ⟨u, hu, hr.mono hC (fun _ _ => rfl) (fun _ h => h)⟩
  · by_cases hkt : t = k
    · subst hkt
      rw [lk_cons_ne _ _ (Ne.symm hkn), lk_sto, if_pos rfl] at ht
      obtain rfl := Option.some.inj ht
      obtain ⟨g, arr, e1, e2, e3, e4, e5⟩ := H3.hb t _ hk3
      refine ⟨g, arr, e1, e2, by simpa using e3, e4, fun j x u hj hu => ?_⟩
      rw [List.getElem?_set] at hj
      split at hj
      · rename_i hij
        subst hij
        split at hj
        · obtain rfl := Option.some.inj hj
          have := e5 i _ u hi hu
          obtain rfl := this.lit_inv
          have h9 := upm_self m s.nx (.slice none 0 0)
          have := RV.own (C := Cw Γ.F ((s.nx, .row el sz []) :: sto s.hp t (.var ty (cs.set i (.own s.nx)))) (upm m s.nx (.slice none 0 0)) w) (m := upm m s.nx (.slice none 0 0)) (U := fun t => t < s.nx + 1) s.nx (Nat.lt_succ_self _) (by rw [h9]; rfl)
          rwa [h9] at this
        · cases hj
      · exact (e5 j x u hj hu).mono hC (fun _ _ => rfl) (fun _ h => h)
    · have ht' : lk ((s.nx, .row el sz []) :: s.hp) t = some b := by
        rw [lk_cons] at ht ⊢
        split at ht
        · rename_i e; rw [if_pos e]; exact ht
        · rename_i e; rw [if_neg e]; rw [lk_sto, if_neg hkt] at ht; exact ht
      exact (H3.hb t b ht').mono hC (fun _ _ => rfl) (fun _ h => h) (H3.lt t b ht') (fun _ _ => rfl)
  · obtain ⟨c1, d1⟩ := hlt3 t b h1
    obtain ⟨c2, d2⟩ := hlt3 t' b' h2
    exact H3.sep t t' c1 c2 g d1 d2 e1 e2
  · obtain ⟨c1, d1⟩ := hlt3 t b ht
    exact H3.lt t c1 d1
  · obtain ⟨c1, d1⟩ := hlt3 t b ht
    refine (H3.new t c1 g d1 hg hn).imp id fun ⟨t0, i1, i2, i3⟩ => ⟨t0, i1, i2, ?_⟩
    cases h9 : lk ((s.nx, .row el sz []) :: sto s.hp k (.var ty (cs.set i (.own s.nx)))) t0 with
    | none => rfl
    | some b0 => obtain ⟨b1, h1⟩ := hlt3 t0 b0 h9; rw [i3] at h1; cases h1
  · obtain ⟨c1, d1⟩ := hlt3 t b ht
    exact H3.nF t c1 g d1 hg

/-- An end that says less. -/
theorem endL {bs' : List Blk} {l : List V} (ts : List Nat) (he : e = .normal ∨ e = .ret) (h0 : resW P s.hp s.fr rs = some l0) (hn : firsts ts n0 0) (hnd : ts.Nodup) (hb : handsD s.hp ts ts bs') (hle : leL (snapL s.hp ts l0) l) (hv : v = resOne l) (hdl : deadLt n0 bs' 0 = true := by rfl) : endW P n0 rs v bs' e s := by
  obtain ⟨l1, l2⟩ := leL_get hle
  rw [snapL_eq, List.length_map] at l1
  refine ⟨he, l0, l, h0, weak_of ts hn hnd hb (leF_argsE fun k x hk => ?_) hdl, l1, hv⟩
  obtain ⟨y, hy, hle'⟩ := l2 k x hk
  rw [snapL_eq, List.getElem?_map] at hy
  rw [Nat.zero_add, lk_argsE, if_pos (Nat.zero_le _), Nat.sub_zero]
  cases hl : l0[k]? with
  | none => rw [hl] at hy; cases hy
  | some z =>
    rw [hl] at hy
    obtain rfl := Option.some.inj hy
    exact ⟨z, rfl, hle'⟩
end
attribute [go_sem] List.set_cons_zero List.set_cons_succ
end Go.Abs
