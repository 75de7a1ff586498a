/- One operation at a time, third part: addresses of parts, parts of values, bytes of strings, lengths, conversions. One operation at a time, fourth part: variables in memory: made, read, written. One operation at a time, fifth part: a store. One operation at a time, sixth part: rows of elements: literals, and rows that are given up and read as data. No conditions. -/
import Derived.Test.YtninaiooagfjfaaGreatDoorK02
import Derived.Laws.StructEq
import Derived.Great.BuildSlice
set_option linter.unusedVariables false
set_option linter.unusedSimpArgs false
namespace Go.Abs
open Go Go.RowKit

theorem add_plain (g o n : Nat) : (⟨g, o, none⟩ : Addr).add n = ⟨g, o + n, none⟩ := by
  unfold Addr.add
  split
  · rename_i h; subst h; rfl
  · rfl
theorem add_add (a : Addr) (m n : Nat) : (a.add m).add n = a.add (m + n) := by
  obtain ⟨b, o, s⟩ := a
  unfold Addr.add
  by_cases h1 : m = 0
  · subst h1; simp
  · by_cases h2 : n = 0
    · subst h2; simp [h1]
    · have : m + n ≠ 0 := by omega
      simp [h1, h2, this]; omega
theorem nth_eq {α : Type} (l : List α) (i : Nat) : nth l i = l[i]? := by
  induction l generalizing i with
  | nil => cases i <;> rfl
  | cons a r ih => cases i with
    | zero => rfl
    | succ i => simpa [nth] using ih i
theorem cut_eq {α : Type} (l : List α) (i n : Nat) : cut l i n = (l.drop i).take n := by
  induction l generalizing i n with
  | nil => cases i <;> cases n <;> simp [cut]
  | cons a r ih => cases i with
    | zero => cases n with
      | zero => simp [cut]
      | succ n => simpa [cut] using ih 0 n
    | succ i => simpa [cut] using ih i n

section
variable {P : Program} {Γ : Ctx} {fr : List (Nat × V)} {hp : List (Nat × Blk)} {U : Nat → Prop} {a : Act} {w w' : World} {m : Nat → Value} {tk : Nat} {L : List (Use P)} {o : Oper}
  {K : Act → World → Prop} {Q : Exit → Act → World → Prop}

theorem sizeT_eq {t n : Nat} (h : sizeT P t = some n) : ∃ i, P.info? t = some i ∧ i.size = n := by
  unfold sizeT at h
  cases hi : P.info? t with
  | none => rw [hi] at h; cases h
  | some i => rw [hi] at h; exact ⟨i, rfl, Option.some.inj h⟩

theorem fldT_eq {s f p n t : Nat} (h : fldT P s f = some (p, n, t)) : ∃ fs, ∃ x : Field, ∃ i, P.underlying s = some (.struct fs) ∧ fs[f]? = some x ∧ P.info? x.type = some i ∧ x.offset = p ∧ i.size = n ∧ x.type = t := by
  unfold fldT at h
  split at h
  · rename_i fs hs
    cases hx : fs[f]? with
    | none => rw [hx] at h; cases h
    | some x =>
      rw [hx] at h
      simp only [Option.bind_some] at h
      cases hz : sizeT P x.type with
      | none => rw [hz] at h; cases h
      | some n' =>
        rw [hz] at h
        obtain ⟨i, hi, hn⟩ := sizeT_eq hz
        simp only [Option.map_some, Option.some.injEq, Prod.mk.injEq] at h
        exact ⟨fs, x, i, hs, hx, hi, h.1, hn.trans h.2.1, h.2.2⟩
  · cases h

theorem run_fieldAt {s f p n t : Nat} (h : fldT P s f = some (p, n, t)) (hn : n ≠ 0) (ad : Addr) (w : World) : (Instr.fieldAt s (.pointer (some ad)) f).run P w = .ok (.pointer (some (ad.add p))) w := by
  obtain ⟨fs, x, i, hs, hx, hi, hp, hsz, _⟩ := fldT_eq h
  have h0 : i.size ≠ 0 := by omega
  simp [Instr.fieldAt, run_underlying hs, hx, Instr.sureAddr, fieldPlace, sizeOf, typeInfo, hi, h0, hp, go_sem]

theorem ip_drop {C : Addr → Value → Prop} {ds : List D} {ad : Addr} (h : RV C m U (.ip ds) (.pointer (some ad))) (p : Nat) : RV C m U (.ip (ds.drop p)) (.pointer (some (ad.add p))) := by
  cases h with
  | ip cs ad cv h1 h2 h3 =>
    refine .ip _ _ (fun k => cv (p + k)) (fun k x hk => ?_) (fun k x hk => ?_) (fun k x hk => ?_) <;> rw [List.getElem?_drop] at hk
    · rw [add_add]; exact h1 _ x hk
    · exact h2 _ x hk
    · exact h3 _ x hk

theorem run_v {ρ : Operand → Value} (S : Sem Value) (he : execOp ρ o = (do pure (.value (← S)))) {u : Value} (h : S.run P w = .ok u w') : (execOp ρ o).run P w = .ok (.value u) w' := by
  rw [he, Sem.run_bind, h]; rfl

theorem sound_fieldAddr {s f p n t : Nat} {x : Operand} {v u : V} (ho : o.op = .fieldAddr s x f) (hx : eo fr x = some v) (hf : fldT P s f = some (p, n, t)) (hn : n ≠ 0)
    (hv : (∃ k q, v = .ptr k q ∧ u = .ptr k (q + p)) ∨ (∃ k sz j q, v = .ept k sz j q ∧ u = .ept k sz j (q + p)) ∨ ∃ ds, v = .ip ds ∧ u = .ip (ds.drop p)) : Sound P Γ fr hp U tk o ⟨u, [], [], none, True, L⟩ :=
  sound_pure fun a w m hR _ => by
    have hr := eo_rel hR hx
    generalize a.eval = ρ at *
    generalize hu : ρ x = c at *
    have key : ∀ ad, c = .pointer (some ad) → (execOp ρ o).run P w = .ok (.value (.pointer (some (ad.add p)))) w := fun ad e =>
      run_v (Instr.fieldAt s (ρ x) f) (by simp only [execOp, ho]) (by rw [hu, e]; exact run_fieldAt hf hn ad w)
    rcases hv with ⟨k, q, rfl, rfl⟩ | ⟨k, sz, j, q, rfl, rfl⟩ | ⟨ds, rfl, rfl⟩
    · cases hr with
      | ptr t off b h1 h2 => exact ⟨_, by rw [key _ rfl, add_plain], .ptr _ _ b h1 h2⟩
    · cases hr with
      | ept t sz j k b n' c h1 h2 => exact ⟨_, by rw [key _ rfl, add_plain, Nat.add_assoc], .ept _ _ _ _ b n' c h1 h2⟩
    · cases hr with
      | ip _ ad cv h1 h2 h3 => exact ⟨_, key _ rfl, ip_drop (.ip ds ad cv h1 h2 h3) p⟩

theorem aggT_run {t : TypeId} {b : Bool} (h : aggT P t = some b) (w : World) : (isAgg t).run P w = .ok b w := by
  unfold aggT at h
  cases hu : P.underlying t with
  | none => rw [hu] at h; cases h
  | some d => rw [hu] at h; cases d <;> simp at h <;> subst h <;> simp [isAgg, run_underlying hu]

theorem sound_len {x : Operand} {v : V} {n : Int} {c : Call} (ho : o.op = .call c) (hc : c.callee = .builtin .len) (ha : c.args = #[x]) {t : TypeId} (ht : c.argTypes = #[t]) (hx : eo fr x = some v) (hn : lenV hp v = some n)
    (hty : (strT P t = true ∧ ∃ s, v = .d (.lit (.string s))) ∨ ((elemT P t).isSome = true ∧ ¬ ∃ s, v = .d (.lit (.string s)))) : Sound P Γ fr hp U tk o ⟨.d (.lit (.int .i64 n)), [], [], none, True, L⟩ :=
  sound_pure fun a w m hR _ => by
    have hr := eo_rel hR hx
    generalize a.eval = ρ at *
    generalize hu : ρ x = z at *
    refine ⟨.int .i64 n, ?_, .d (.lit _)⟩
    rcases hty with ⟨hs, s, rfl⟩ | ⟨he, hns⟩
    · have hz := hr.lit_inv
      obtain rfl := Option.some.inj hn
      simp [execOp, ho, resolve, hc, ha, ht, invoke, builtin, go_sem, hu, hz, Builtin.len_, run_underlying (strT_eq hs), goInt]
    · obtain ⟨e, he⟩ := Option.isSome_iff_exists.1 he
      have he := elemT_eq he
      have key : ∀ (A : Option Addr) (l cp : Nat), z = .slice A l cp → (l : Int) = n → (execOp ρ o).run P w = .ok (.value (.int .i64 n)) w := by
        intro A l cp e1 e2
        subst e1 e2
        simp [execOp, ho, resolve, hc, ha, ht, invoke, builtin, go_sem, hu, Builtin.len_, run_underlying he, goInt]
      unfold lenV at hn
      split at hn
      · exact absurd ⟨_, rfl⟩ hns
      · obtain rfl := Option.some.inj hn; exact key none 0 0 hr.lit_inv rfl
      · obtain rfl := Option.some.inj hn
        cases hr with
        | d h => cases h with
          | lst _ A c sz cv hc hm hsz hA hO hR => exact key A _ c rfl rfl
      · rename_i t0
        split at hn
        · rename_i e' sz l hl
          obtain rfl := Option.some.inj hn
          cases hr with
          | own t h hone =>
            obtain ⟨xs, hown, _⟩ := hR.mem.hb _ _ hl
            rcases hown.2 with ⟨e1, e2⟩ | ⟨g, cap, cur, e1, _⟩
            · exact key none 0 0 e1 (by rw [e2])
            · exact key _ _ _ e1 rfl
        · cases hn
      · cases hn

theorem run_part {t n p : TypeId} {b : Bool} {u : Value} (ha : aggT P t = some b) (hs : sizeT P t = some n) (cs : Array Value) (h : (b = true ∧ u = .agg (cs.extract p (p + n))) ∨ (b = false ∧ cs[p]? = some u)) (w : World) : (part t cs p).run P w = .ok u w := by
  obtain ⟨i, hi, hn⟩ := sizeT_eq hs
  unfold part
  rw [Sem.run_bind, aggT_run ha]
  rcases h with ⟨rfl, rfl⟩ | ⟨rfl, hu⟩
  · simp [sizeOf, typeInfo, hi, hn, go_sem]
  · simp [hu, go_sem]

theorem agg_cut {C : Addr → Value → Prop} {cs : List V} {vs : Array Value} (h : RV C m U (.agg cs) (.agg vs)) (p n : Nat) : RV C m U (.agg (cut cs p n)) (.agg (vs.extract p (p + n))) := by
  cases h with
  | agg _ _ hl hO h =>
    rw [cut_eq]
    refine .agg _ _ ?_ (fun k u hu => ?_) (fun k x u hk hu => ?_)
    · simp only [List.length_take, List.length_drop, Array.size_extract, hl]; omega
    · rw [Array.getElem?_extract] at hu
      split at hu
      · exact hO _ _ hu
      · cases hu
    · rw [Array.getElem?_extract] at hu
      split at hu
      · rw [List.getElem?_take, List.getElem?_drop] at hk
        split at hk
        · exact h _ _ _ hk hu
        · cases hk
      · cases hu

theorem sound_field {s f p n t : Nat} {x : Operand} {cs : List V} {u : V} (ho : o.op = .field s x f) (hx : eo fr x = some (.agg cs)) (hf : fldT P s f = some (p, n, t)) {b : Bool} (ha : aggT P t = some b)
    (hv : (b = true ∧ u = .agg (cut cs p n)) ∨ (b = false ∧ nth cs p = some u)) : Sound P Γ fr hp U tk o ⟨u, [], [], none, True, L⟩ :=
  sound_pure fun a w m hR _ => by
    have hr := eo_rel hR hx
    generalize a.eval = ρ at *
    generalize hu : ρ x = c at *
    obtain ⟨fs, fd, i, hs, hfd, hi, hp', hsz, ht⟩ := fldT_eq hf
    have hsz' : sizeT P fd.type = some n := by simp [sizeT, hi, hsz]
    subst ht
    cases hr with
    | agg _ vs hl hO h =>
      have key : ∀ u', (part fd.type vs p).run P w = .ok u' w → (execOp ρ o).run P w = .ok (.value u') w := fun u' e =>
        run_v (Instr.field s (ρ x) f) (by simp only [execOp, ho]) (by
          rw [hu]; simp only [Instr.field, Sem.run_bind, run_underlying hs, Result.andThen_ok, hfd, hp', asAgg]; simpa [go_sem] using e)
      rcases hv with ⟨rfl, rfl⟩ | ⟨rfl, hn⟩
      · exact ⟨_, key _ (run_part ha hsz' vs (.inl ⟨rfl, rfl⟩) w), agg_cut (.agg cs vs hl hO h) p n⟩
      · rw [nth_eq] at hn
        have hlt : p < vs.size := by rw [← hl]; exact (List.getElem?_eq_some_iff.1 hn).1
        exact ⟨vs[p], key _ (run_part ha hsz' vs (.inr ⟨rfl, by simp [hlt]⟩) w), h p u _ hn (by simp [hlt])⟩

theorem sound_index {x i : Operand} {t : TypeId} {s : ByteArray} {k : IntKind} {j : Int} (ho : o.op = .index t x i) (hx : eo fr x = some (.d (.lit (.string s)))) (hi : eo fr i = some (.d (.lit (.int k j)))) (ht : strT P t = true) :
    Sound P Γ fr hp U tk o ⟨.d (.lit (.int .u8 (s.get! j.toNat).toNat)), [], [], none, 0 ≤ j ∧ j < s.size, L⟩ :=
  sound_pure fun a w m hR hp' => by
    have h1 := (eo_rel hR hx).lit_inv
    have h2 := (eo_rel hR hi).lit_inv
    generalize a.eval = ρ at *
    have hlt : j.toNat < s.size := by have := hp'.1; have := hp'.2; omega
    have hg : s[j.toNat]? = some (s.get! j.toNat) := by
      have : s[j.toNat]? = some (s[j.toNat]'hlt) := by simp [hlt]
      rw [this]
      congr 1
      have hlt' : j.toNat < s.data.size := hlt
      show s.data[j.toNat] = s.data[j.toNat]!
      exact (getElem!_pos s.data j.toNat hlt').symm
    exact ⟨_, run_v (Instr.index t (ρ x) (ρ i)) (by simp only [execOp, ho]) (by rw [h1, h2]; simp [Instr.index, asIntOf, run_underlying (strT_eq ht), hp'.1, hg, go_sem]), .d (.lit _)⟩

theorem sound_convInt {x : Operand} {s t : TypeId} {k k' : IntKind} {n : Int} {q : Rs P} {r : R} (ho : o.op = .convert s t x) (hx : eo fr x = some (.d (.lit (.int k n)))) (ht : intT P t = some k') (h : intR k' (arith k' n) = some r) (hq : ofR L (some r) = some q) (hs : ∃ d, P.underlying s = some d) :
    Sound P Γ fr hp U tk o q := by
  simp only [ofR, Option.some.injEq] at hq
  subst hq
  simp only [intR, pureR, Option.some.injEq] at h
  subst h
  refine sound_pure fun a w m hR hp' => ?_
  have h1 := (eo_rel hR hx).lit_inv
  generalize a.eval = ρ at *
  obtain ⟨d, hd⟩ := hs
  refine ⟨_, run_v (convert s t (ρ x)) (by simp only [execOp, ho]) ?_, .d (.lit _)⟩
  rw [h1]
  cases d <;> simp [convert, run_underlying hd, run_underlying (intT_eq ht), Conv.intToInt, arith_wrap k' _ hp', go_sem]

theorem sound_max {x y : Operand} {k : IntKind} {n n' : Int} {c : Call} (ho : o.op = .call c) (hc : c.callee = .builtin .max) (ha : c.args = #[x, y]) (hx : eo fr x = some (.d (.lit (.int k n)))) (hy : eo fr y = some (.d (.lit (.int k n')))) :
    Sound P Γ fr hp U tk o ⟨.d (.lit (.int k (max n n'))), [], [], none, True, L⟩ :=
  sound_pure fun a w m hR _ => by
    have h1 := (eo_rel hR hx).lit_inv
    have h2 := (eo_rel hR hy).lit_inv
    generalize a.eval = ρ at *
    refine ⟨_, ?_, .d (.lit _)⟩
    have h0 : max n n' = if n' > n then n' else n := by split <;> omega
    rw [h0]
    simp [execOp, ho, resolve, hc, ha, invoke, builtin, go_sem, h1, h2, Builtin.max_, Builtin.max2]

theorem sound_min {x y : Operand} {k : IntKind} {n n' : Int} {c : Call} (ho : o.op = .call c) (hc : c.callee = .builtin .min) (ha : c.args = #[x, y]) (hx : eo fr x = some (.d (.lit (.int k n)))) (hy : eo fr y = some (.d (.lit (.int k n')))) :
    Sound P Γ fr hp U tk o ⟨.d (.lit (.int k (min n n'))), [], [], none, True, L⟩ :=
  sound_pure fun a w m hR _ => by
    have h1 := (eo_rel hR hx).lit_inv
    have h2 := (eo_rel hR hy).lit_inv
    generalize a.eval = ρ at *
    refine ⟨_, ?_, .d (.lit _)⟩
    have h0 : min n n' = if n' < n then n' else n := by split <;> omega
    rw [h0]
    simp [execOp, ho, resolve, hc, ha, invoke, builtin, go_sem, h1, h2, Builtin.min_, Builtin.min2]

theorem run_part0 {t n p : TypeId} {u : Value} (ha : aggT P t = some false) (cs : Array Value) (hu : cs[p]? = some u) (w : World) : (part t cs p).run P w = .ok u w := by
  unfold part
  rw [Sem.run_bind, aggT_run ha]
  simp [hu, go_sem]

theorem eqV_inv {n : Nat} {x y : V} {b : Bool} (h : eqV n x y = some b) : (n = 0 ∧ ∃ k a c, x = .d (.lit (.int k a)) ∧ y = .d (.lit (.int k c)) ∧ b = decide (a = c)) ∨ (n = 1 ∧ ∃ a c, x = .d (.lit (.string a)) ∧ y = .d (.lit (.string c)) ∧ b = decide (a = c)) ∨ (n = 2 ∧ ∃ a c, x = .d (.lit (.bool a)) ∧ y = .d (.lit (.bool c)) ∧ b = (a == c)) := by
  unfold eqV at h
  split at h
  · split at h
    · rename_i hk
      subst hk
      exact .inl ⟨rfl, _, _, _, rfl, rfl, (Option.some.inj h).symm⟩
    · cases h
  · exact .inr (.inl ⟨rfl, _, _, rfl, rfl, (Option.some.inj h).symm⟩)
  · exact .inr (.inr ⟨rfl, _, _, rfl, rfl, (Option.some.inj h).symm⟩)
  · cases h

theorem run_eqFields {C : Addr → Value → Prop} {cs ds : List V} {xs ys : Array Value} (hx : ∀ (k : Nat) (x : V), cs[k]? = some x → ∃ u, xs[k]? = some u ∧ RV C m U x u) (hy : ∀ (k : Nat) (x : V), ds[k]? = some x → ∃ u, ys[k]? = some u ∧ RV C m U x u) (w : World) (d : Nat) :
    ∀ (fs : List Field) (l : List (Nat × Nat)) (b : Bool), eqTs P fs = some l → eqFs cs ds l = some b → (Op.eqFields (d + 1) xs ys fs).run P w = .ok b w
  | [], l, b, h1, h2 => by
    obtain rfl := Option.some.inj h1
    obtain rfl := Option.some.inj h2
    simp [Op.eqFields, go_sem]
  | f :: r, l, b, h1, h2 => by
    simp only [eqTs] at h1
    cases hn : f.name == "_" with
    | true => rw [hn] at h1; cases h1
    | false =>
      rw [hn] at h1
      simp only [cond_false] at h1
      have hne : f.name ≠ "_" := by simpa using hn
      have key : ∀ (k : Nat) (l' : List (Nat × Nat)), l = (f.offset, k) :: l' → eqTs P r = some l' → aggT P f.type = some false →
          (∀ x y v1 v2 b', eqV k x y = some b' → RV C m U x v1 → RV C m U y v2 → (Op.equalIn (d + 1) f.type v1 v2).run P w = .ok b' w) → (Op.eqFields (d + 1) xs ys (f :: r)).run P w = .ok b w := by
        intro k l' hl hr ha he
        subst hl
        simp only [eqFs, nth_eq] at h2
        split at h2
        · rename_i x y hx' hy'
          split at h2
          · rename_i b1 b2 e1 e2
            obtain rfl := Option.some.inj h2
            obtain ⟨v1, i1, i2⟩ := hx _ x hx'
            obtain ⟨v2, j1, j2⟩ := hy _ y hy'
            have hrec := run_eqFields hx hy w d r l' b2 hr e2
            simp only [Op.eqFields, if_pos hne, Sem.run_bind, run_part0 (n := 0) ha xs i1 w, run_part0 (n := 0) ha ys j1 w, Result.andThen_ok, he x y v1 v2 b1 e1 i2 j2]
            cases b1 with
            | true => simp only [Bool.not_true, Bool.false_eq_true, if_false, Bool.true_and]; exact hrec
            | false => simp [go_sem]
          · cases h2
        · cases h2
      split at h1
      · rename_i k0 l' hu hr
        refine key 0 l' (Option.some.inj h1).symm hr (by simp [aggT, hu]) fun x y v1 v2 b' hb r1 r2 => ?_
        rcases eqV_inv hb with ⟨_, k, a2, b2, rfl, rfl, rfl⟩ | ⟨e, _⟩ | ⟨e, _⟩
        · rw [r1.lit_inv, r2.lit_inv, run_equalIn_int w d f.type k k0 a2 b2 hu]
          by_cases e : a2 = b2 <;> simp [e]
        · cases e
        · cases e
      · rename_i l' hu hr
        refine key 1 l' (Option.some.inj h1).symm hr (by simp [aggT, hu]) fun x y v1 v2 b' hb r1 r2 => ?_
        rcases eqV_inv hb with ⟨e, _⟩ | ⟨_, a2, b2, rfl, rfl, rfl⟩ | ⟨e, _⟩
        · cases e
        · rw [r1.lit_inv, r2.lit_inv, run_equalIn_string w d f.type a2 b2 hu, toList_beq]
        · cases e
      · rename_i l' hu hr
        refine key 2 l' (Option.some.inj h1).symm hr (by simp [aggT, hu]) fun x y v1 v2 b' hb r1 r2 => ?_
        rcases eqV_inv hb with ⟨e, _⟩ | ⟨e, _⟩ | ⟨_, a2, b2, rfl, rfl, rfl⟩
        · cases e
        · cases e
        · rw [r1.lit_inv, r2.lit_inv, run_equalIn_bool' w d f.type a2 b2 hu]
      · cases h1

theorem cmpR_run {op : BinOp} {b : Bool} {p : Prop} {r : R} (h : cmpR op b p = some r) : ∃ u, r = ⟨.d (.lit u), [], none, none, p⟩ ∧ ∀ (X Y : Operand) (t : TypeId) (cx cy : Value) (w : World), p →
    (eqGuard op t X Y cx cy).run P w = .ok () w → (binOp .eql t cx cy).run P w = .ok (.bool b) w → (binOp .neq t cx cy).run P w = .ok (.bool (!b)) w → (do eqGuard op t X Y cx cy; binOp op t cx cy : Sem Value).run P w = .ok u w := by
  unfold cmpR at h
  split at h
  · simp only [pureR, Option.some.injEq] at h; subst h
    exact ⟨_, rfl, fun X Y t cx cy w hp h1 h2 h3 => by rw [Sem.run_bind, h1]; exact h2⟩
  · simp only [pureR, Option.some.injEq] at h; subst h
    exact ⟨_, rfl, fun X Y t cx cy w hp h1 h2 h3 => by rw [Sem.run_bind, h1]; exact h3⟩
  · cases h

theorem ptrT_eq {t : TypeId} (h : ptrT P t = true) : ∃ e i, P.underlying t = some (.pointer e) ∧ P.info? e = some i ∧ i.size ≠ 0 := by
  unfold ptrT at h
  split at h
  · rename_i e he
    split at h
    · rename_i i hi
      exact ⟨e, i, he, hi, by simpa using h⟩
    · cases h
  · cases h

theorem guard_slice {op : BinOp} {t : TypeId} {X Y : Operand} {A : Option Addr} {l c : Nat} {cy : Value} (w : World) : (eqGuard op t X Y (.slice A l c) cy).run P w = .ok () w := by
  cases op <;> simp [eqGuard, go_sem]
theorem guard_ptr {op : BinOp} {t : TypeId} {X Y : Operand} {A : Option Addr} {cy : Value} (w : World) : (eqGuard op t X Y (.pointer A) cy).run P w = .ok () w := by
  cases op <;> simp [eqGuard, go_sem]
theorem eql_slice {t : TypeId} {A B : Option Addr} {l c l' c' : Nat} {b : Bool} {w : World} (h : (Op.equalIn 10000 t (.slice A l c) (.slice B l' c')).run P w = .ok b w) : (binOp .eql t (.slice A l c) (.slice B l' c')).run P w = .ok (.bool b) w ∧ (binOp .neq t (.slice A l c) (.slice B l' c')).run P w = .ok (.bool (!b)) w := by
  constructor <;> simp only [binOp] <;> simp [Op.equal, Op.maxDepth, h, Sem.run_bind]
theorem eql_ptr {t : TypeId} {A B : Option Addr} {b : Bool} {w : World} (h : (Op.equalIn 10000 t (.pointer A) (.pointer B)).run P w = .ok b w) : (binOp .eql t (.pointer A) (.pointer B)).run P w = .ok (.bool b) w ∧ (binOp .neq t (.pointer A) (.pointer B)).run P w = .ok (.bool (!b)) w := by
  constructor <;> simp only [binOp] <;> simp [Op.equal, Op.maxDepth, h, Sem.run_bind]
theorem eqIn_slnil (d : Nat) {t e : TypeId} {a : Addr} {l c : Nat} (w : World) (he : P.underlying t = some (.slice e)) : (Op.equalIn (d + 1) t (.slice (some a) l c) (.slice none 0 0)).run P w = .ok false w := by
  simp [Op.equalIn, run_underlying he, go_sem]
theorem eqIn_nilnil (d : Nat) {t e : TypeId} (w : World) (he : P.underlying t = some (.slice e)) : (Op.equalIn (d + 1) t (.slice none 0 0) (.slice none 0 0)).run P w = .ok true w := by
  simp [Op.equalIn, run_underlying he, go_sem]
theorem eqIn_ptrnil (d : Nat) {t e : TypeId} {a : Addr} (w : World) (he : P.underlying t = some (.pointer e)) : (Op.equalIn (d + 1) t (.pointer (some a)) (.pointer none)).run P w = .ok false w := by
  simp [Op.equalIn, run_underlying he, go_sem]
theorem eqIn_ptrnn (d : Nat) {t e : TypeId} (w : World) (he : P.underlying t = some (.pointer e)) : (Op.equalIn (d + 1) t (.pointer none) (.pointer none)).run P w = .ok true w := by
  simp [Op.equalIn, run_underlying he, go_sem]
theorem eqIn_ptrsame (d : Nat) {t e : TypeId} {i : TypeInfo} {a : Addr} (w : World) (he : P.underlying t = some (.pointer e)) (hi : P.info? e = some i) (hsz : i.size ≠ 0) : (Op.equalIn (d + 1) t (.pointer (some a)) (.pointer (some a))).run P w = .ok true w := by
  simp [Op.equalIn, run_underlying he, sizeOf, typeInfo, hi, hsz, sameAddr, go_sem]

theorem run_binX {hp' : List (Nat × Blk)} {op : BinOp} {t : TypeId} {x y : V} {r : R} (h : binX P op t x y = some r) (hp : r.p) (X Y : Operand) (w : World) :
    ∃ u, r = ⟨.d (.lit u), [], none, none, r.p⟩ ∧ ∀ cx cy, RV (Cw Γ.F hp' m w) m U x cx → RV (Cw Γ.F hp' m w) m U y cy → (do eqGuard op t X Y cx cy; binOp op t cx cy : Sem Value).run P w = .ok u w := by
  unfold binX at h
  split at h
  · rename_i cs ds
    split at h
    · rename_i l hl
      split at h
      · rename_i b hb
        obtain ⟨u, rfl, hu⟩ := cmpR_run (P := P) h
        refine ⟨u, rfl, fun cx cy hx hy => ?_⟩
        unfold eqT at hl
        cases hs : P.stoodInHeld t || P.eqGuardType P.depth t with
        | true => rw [hs] at hl; cases hl
        | false =>
          rw [hs] at hl
          simp only [cond_false] at hl
          obtain ⟨hs1, hs2⟩ := Bool.or_eq_false_iff.1 hs
          split at hl
          · rename_i fs hfs
            have hf : P.fieldsOf t = fs := by simp [Program.fieldsOf, hfs]
            cases hx with
            | agg _ xs hxl hxo hxv => cases hy with
              | agg _ ys hyl hyo hyv =>
                have gx : ∀ (k : Nat) (x : V), cs[k]? = some x → ∃ u, xs[k]? = some u ∧ RV (Cw Γ.F hp' m w) m U x u := fun k x hk => by
                  have hlt : k < xs.size := by rw [← hxl]; exact (List.getElem?_eq_some_iff.1 hk).1
                  exact ⟨xs[k], by simp [hlt], hxv k x _ hk (by simp [hlt])⟩
                have gy : ∀ (k : Nat) (x : V), ds[k]? = some x → ∃ u, ys[k]? = some u ∧ RV (Cw Γ.F hp' m w) m U x u := fun k x hk => by
                  have hlt : k < ys.size := by rw [← hyl]; exact (List.getElem?_eq_some_iff.1 hk).1
                  exact ⟨ys[k], by simp [hlt], hyv k x _ hk (by simp [hlt])⟩
                have he : (Op.equalIn 10000 t (.agg xs) (.agg ys)).run P w = .ok b w := by
                  rw [run_equalIn_struct w 9999 t xs ys (by rw [hf]; exact hfs) hs1, hf]
                  exact run_eqFields gx gy w 9998 fs.toList l b hl hb
                exact hu X Y t _ _ w hp (run_eqGuard_agg w op t X Y xs ys hs2) (by rw [run_eql_struct, he]; rfl) (by rw [run_neq_struct, he]; rfl)
          · cases hl
      · cases h
    · cases h
  · rename_i l
    split at h
    · rename_i e he
      obtain ⟨u, rfl, hu⟩ := cmpR_run (P := P) h
      refine ⟨u, rfl, fun cx cy hx hy => ?_⟩
      rw [hy.lit_inv]
      cases hx with
      | d hd => cases hd with
        | lst _ A c sz cv hc hm hsz hA hO hR =>
          obtain ⟨hp1, hp2⟩ := hp
          have h0 : l[0]? = some (l.getD 0 []) := by simp [List.getD, hp1]
          obtain ⟨ad, rfl, _⟩ := hA 0 _ h0 0 ((l.getD 0 [])[0]'hp2) (by simp [hp2])
          have h9 := eql_slice (eqIn_slnil (P := P) 9999 (a := ad) (l := l.length) (c := c) w he)
          exact hu X Y t _ _ w ⟨hp1, hp2⟩ (guard_slice w) h9.1 h9.2
    · cases h
  · split at h
    · rename_i e he
      obtain ⟨u, rfl, hu⟩ := cmpR_run (P := P) h
      refine ⟨u, rfl, fun cx cy hx hy => ?_⟩
      rw [hx.lit_inv, hy.lit_inv]
      have h9 := eql_slice (eqIn_nilnil (P := P) 9999 w he)
      exact hu X Y t _ _ w trivial (guard_slice w) h9.1 h9.2
    · cases h
  · rename_i k o
    cases hpt : ptrT P t with
    | false => rw [hpt] at h; cases h
    | true =>
      rw [hpt] at h
      simp only [cond_true] at h
      obtain ⟨e, i, he, hi, hsz⟩ := ptrT_eq hpt
      obtain ⟨u, rfl, hu⟩ := cmpR_run (P := P) h
      refine ⟨u, rfl, fun cx cy hx hy => ?_⟩
      rw [hy.lit_inv]
      cases hx with
      | ptr t0 off b h1 h2 =>
        have h9 := eql_ptr (eqIn_ptrnil (P := P) 9999 (a := ⟨b, o, none⟩) w he)
        exact hu X Y t _ _ w trivial (guard_ptr w) h9.1 h9.2
  · cases hpt : ptrT P t with
    | false => rw [hpt] at h; cases h
    | true =>
      rw [hpt] at h
      simp only [cond_true] at h
      obtain ⟨e, i, he, hi, hsz⟩ := ptrT_eq hpt
      obtain ⟨u, rfl, hu⟩ := cmpR_run (P := P) h
      refine ⟨u, rfl, fun cx cy hx hy => ?_⟩
      rw [hx.lit_inv, hy.lit_inv]
      have h9 := eql_ptr (eqIn_ptrnn (P := P) 9999 w he)
      exact hu X Y t _ _ w trivial (guard_ptr w) h9.1 h9.2
  · rename_i k o k' o'
    cases hpt : ptrT P t && k.beq k' && o.beq o' with
    | false => rw [hpt] at h; cases h
    | true =>
      rw [hpt] at h
      simp only [cond_true] at h
      simp only [Bool.and_eq_true] at hpt
      obtain ⟨⟨hpt, e1⟩, e2⟩ := hpt
      obtain rfl := Nat.eq_of_beq_eq_true e1
      obtain rfl := Nat.eq_of_beq_eq_true e2
      obtain ⟨e, i, he, hi, hsz⟩ := ptrT_eq hpt
      obtain ⟨u, rfl, hu⟩ := cmpR_run (P := P) h
      refine ⟨u, rfl, fun cx cy hx hy => ?_⟩
      cases hx with
      | ptr t0 off b h1 h2 => cases hy with
        | ptr t1 off1 b1 j1 j2 =>
          rw [h2] at j2
          simp only [Value.pointer.injEq, Option.some.injEq, Addr.mk.injEq, and_true] at j2
          subst j2
          have h9 := eql_ptr (eqIn_ptrsame (P := P) 9999 (a := ⟨b, o, none⟩) w he hi hsz)
          exact hu X Y t _ _ w trivial (guard_ptr w) h9.1 h9.2
  · cases h

theorem sound_binX {op : BinOp} {t t' : TypeId} {x y : Operand} {vx vy : V} {r : R} {q : Rs P} (ho : o.op = .binOp op t x y t') (hx : eo fr x = some vx) (hy : eo fr y = some vy) (h : binX P op t vx vy = some r) (hq : ofR L (some r) = some q) : Sound P Γ fr hp U tk o q := by
  intro a w m K Q hR htk hp' hd hK
  simp only [ofR, Option.some.injEq] at hq
  subst hq
  obtain ⟨u, h1, h2⟩ := run_binX (P := P) (Γ := Γ) (hp' := hp) (m := m) (U := U) h hp' x y w
  have h3 := h2 _ _ (eo_rel hR hx) (eo_rel hR hy)
  rw [h1] at hK
  refine wp_value (u := u) (w' := w) ?_ (hK _ _ m ((rel_putA hR hd (.d (.lit u))).given fun t h => .inl h) (put_defers a _ u))
  generalize a.eval = ρ at *
  have h4 : (execOp ρ o) = (do pure (.value (← (do eqGuard op t x y (ρ x) (ρ y); binOp op t (ρ x) (ρ y) : Sem Value))) : Sem Next) := by simp [execOp, ho]
  rw [h4, Sem.run_bind, h3]
  rfl
end
end Go.Abs

set_option linter.unusedVariables false
set_option linter.unusedSimpArgs false
namespace Go.Abs
open Go Go.RowKit

section
variable {P : Program} {Γ : Ctx} {fr : List (Nat × V)} {hp : List (Nat × Blk)} {U : Nat → Prop} {a : Act} {w w' : World} {m : Nat → Value} {tk : Nat} {L : List (Use P)} {o : Oper}
  {K : Act → World → Prop} {Q : Exit → Act → World → Prop}

theorem run_newVar (t : TypeId) (v : Value) (w : World) : (newVar t v).run P w = .ok ⟨w.heap.size, 0, none⟩ (w.alloc (.cells v.cells t)) := rfl

theorem zeroT_eq {t : TypeId} {zs : List Value} (h : zeroT P t = some zs) : ∃ i z, P.info? t = some i ∧ i.zero = some z ∧ z.cells.toList = zs := by
  unfold zeroT at h
  cases hi : P.info? t with
  | none => rw [hi] at h; cases h
  | some i =>
    rw [hi] at h
    simp only [Option.bind_some] at h
    cases hz : i.zero with
    | none => rw [hz] at h; cases h
    | some z => rw [hz] at h; exact ⟨i, z, rfl, hz, Option.some.inj h⟩

theorem run_zero {t : TypeId} {i : TypeInfo} {z : Value} (hi : P.info? t = some i) (hz : i.zero = some z) (w : World) : (zeroValue t).run P w = .ok z w := by
  simp [zeroValue, typeInfo, hi, hz, go_sem]

/-- An operation that makes a variable. -/
theorem sound_new {ty : TypeId} {cs : List V}
    (h : ∀ a w m, Rel Γ fr hp U a w m → ∃ arr : Array Value, (execOp a.eval o).run P w = .ok (.value (.pointer (some ⟨w.heap.size, 0, none⟩))) (w.alloc (.cells arr ty)) ∧ arr.size = cs.length ∧ (∀ (k : Nat) (u : Value), arr[k]? = some u → u.oneCell' = true) ∧
      ∀ (k : Nat) (x : V) (u : Value), cs[k]? = some x → arr[k]? = some u → RV (Cw Γ.F hp m w) m U x u) : Sound P Γ fr hp U tk o ⟨.ptr tk 0, [], [], some (.var ty cs), True, L⟩ := by
  intro a w m K Q hR htk _ hd hK
  obtain ⟨arr, hr, hl, hO, hv⟩ := h a w m hR
  obtain ⟨m', hR', hm⟩ := hR.newVar (tk := tk) htk hl hO hv
  refine wp_value hr (hK _ _ m' ?_ (put_defers a _ _))
  have : after hp tk (⟨.ptr tk 0, [], [], some (.var ty cs), True, L⟩ : Rs P) = (tk, .var ty cs) :: hp := rfl
  rw [this]
  exact rel_putA hR' hd (.ptr tk 0 _ (.inr rfl) hm)

theorem sound_alloc {t : TypeId} {zs : List Value} (ho : o.op = .alloc t) (hz : zeroT P t = some zs) (hO : zs.all (·.oneCell') = true) : Sound P Γ fr hp U tk o ⟨.ptr tk 0, [], [], some (.var t (zs.map fun z => .d (.lit z))), True, L⟩ :=
  sound_new fun a w m hR => by
    obtain ⟨i, z, hi, hzz, rfl⟩ := zeroT_eq hz
    refine ⟨z.cells, run_v (Instr.alloc t true (.tuple #[])) (by simp only [execOp, ho]) ?_, by simp, fun k u hu => ?_, fun k x u hx hu => ?_⟩
    · simp only [Instr.alloc, Sem.run_bind, run_zero hi hzz, Result.andThen_ok, run_newVar]; rfl
    · rw [List.all_eq_true] at hO
      exact hO u (by rw [Array.mem_toList_iff]; exact Array.mem_of_getElem? hu)
    · rw [List.getElem?_map, Array.getElem?_toList, hu] at hx
      obtain rfl := Option.some.inj hx
      exact .d (.lit u)

theorem rv_cells {C : Addr → Value → Prop} {v : V} {u : Value} (h : RV C m U v u) (hO : (cellsV v).all one = true) : (cellsV v).length = u.cells.size ∧ (∀ (k : Nat) (z : Value), u.cells[k]? = some z → z.oneCell' = true) ∧
    ∀ (k : Nat) (x : V) (z : Value), (cellsV v)[k]? = some x → u.cells[k]? = some z → RV C m U x z := by
  have single : ∀ (v : V) (u : Value), RV C m U v u → u.oneCell' = true → u.cells = #[u] := by
    intro v u _ h; cases u <;> first | rfl | (simp [Value.oneCell'] at h)
  have fin : ∀ (v : V) (u : Value), RV C m U v u → u.oneCell' = true → cellsV v = [v] → (cellsV v).length = u.cells.size ∧ (∀ (k : Nat) (z : Value), u.cells[k]? = some z → z.oneCell' = true) ∧
      ∀ (k : Nat) (x : V) (z : Value), (cellsV v)[k]? = some x → u.cells[k]? = some z → RV C m U x z := by
    intro v u h h1 hc
    rw [single v u h h1, hc]
    refine ⟨rfl, fun k z hz => ?_, fun k x z hx hz => ?_⟩
    · cases k <;> simp at hz; subst hz; exact h1
    · cases k <;> simp at hz hx; subst hz; subst hx; exact h
  cases h with
  | d h =>
    refine fin _ _ (.d h) ?_ rfl
    cases h with
    | lit v => simpa [cellsV, one] using hO
    | lst => rfl
  | own t h ho => exact fin _ _ (.own t h ho) ho rfl
  | ptr t off b h hm => exact fin _ _ (.ptr t off b h hm) rfl rfl
  | ept t sz j k b n c h hm => exact fin _ _ (.ept t sz j k b n c h hm) rfl rfl
  | ip cs ad cv h1 h2 h3 => exact fin _ _ (.ip cs ad cv h1 h2 h3) rfl rfl
  | agg cs vs hl hO' h => exact ⟨hl, hO', h⟩
  | tup cs vs hl h => simp [cellsV, one] at hO
  | fn f cs vs hl h => exact fin _ _ (.fn f cs vs hl h) rfl rfl
  | when b x v _ _ => simp [cellsV, one] at hO
  | any v => simp [cellsV, one] at hO

theorem sound_box {t : TypeId} {n : Nat} {x : Operand} {v : V} (ho : o.op = .box t x) (hx : eo fr x = some v) (hO : (cellsV v).all one = true) : Sound P Γ fr hp U tk o ⟨.ptr tk 0, [], [], some (.var t (cellsV v)), True, L⟩ :=
  sound_new fun a w m hR => by
    obtain ⟨h1, h2, h3⟩ := rv_cells (eo_rel hR hx) hO
    exact ⟨(a.eval x).cells, run_v (Instr.box t (a.eval x)) (by simp only [execOp, ho]) rfl, h1.symm, h2, h3⟩

/-! ### reading -/
theorem run_loadCellsFrom (a : Addr) (f : Nat → Value) : ∀ (n i : Nat) (acc : Array Value) (w : World), (∀ k, k < n → w.cell? (a.add (i + k)) = some (f (i + k))) → (loadCellsFrom a i n acc).run P w = .ok (acc ++ ((List.range' i n).map f).toArray) w
  | 0, i, acc, w, h => by simp [loadCellsFrom, go_sem]
  | n + 1, i, acc, w, h => by
    have h0 := h 0 (by omega)
    simp only [Nat.add_zero] at h0
    simp only [loadCellsFrom, Sem.run_bind]
    have : (load (a.add i)).run P w = .ok (f i) w := by simp [load, Sem.run, h0]
    rw [this, Result.andThen_ok, run_loadCellsFrom a f n (i + 1) _ w (fun k hk => by have := h (k + 1) (by omega); rw [show i + 1 + k = i + (k + 1) by omega]; exact this)]
    simp [List.range'_succ]
theorem run_loadCells' (a : Addr) (f : Nat → Value) (n : Nat) (w : World) (h : ∀ k, k < n → w.cell? (a.add k) = some (f k)) : (loadCells a n).run P w = .ok ((List.range n).map f).toArray w := by
  unfold loadCells
  rw [run_loadCellsFrom a f n 0 #[] w (fun k hk => by simpa using h k hk)]
  simp [List.range_eq_range']

theorem run_loadVar {t : TypeId} {n : Nat} {b : Bool} (ha : aggT P t = some b) (hs : sizeT P t = some n) (ad : Addr) (f : Nat → Value) (w : World) (h : ∀ k, k < (if b then n else 1) → w.cell? (ad.add k) = some (f k)) :
    (loadVar t ad).run P w = .ok (if b then .agg ((List.range n).map f).toArray else f 0) w := by
  obtain ⟨i, hi, hn⟩ := sizeT_eq hs
  unfold loadVar
  rw [Sem.run_bind, aggT_run ha]
  cases b
  · have h0 := h 0 (by simp)
    have e : ad.add 0 = ad := by simp [Addr.add]
    rw [e] at h0
    simp [load, Sem.run, h0]
  · have := run_loadCells' (P := P) ad f n w (fun k hk => h k (by simpa using hk))
    have e1 : (sizeOf t).run P w = .ok n w := by simp [sizeOf, typeInfo, hi, hn, go_sem]
    simp only [if_true, Result.andThen_ok, Sem.run_bind, e1, this]
    rfl

theorem rv_agg_of {C : Addr → Value → Prop} (cs : List V) (f : Nat → Value) (hO : ∀ k, k < cs.length → (f k).oneCell' = true) (h : ∀ (k : Nat) (x : V), cs[k]? = some x → RV C m U x (f k)) : RV C m U (.agg cs) (.agg ((List.range cs.length).map f).toArray) := by
  refine .agg _ _ (by simp) (fun k u hu => ?_) (fun k x u hx hu => ?_)
  · simp only [List.getElem?_toArray, List.getElem?_map] at hu
    cases hk : (List.range cs.length)[k]? with
    | none => rw [hk] at hu; cases hu
    | some k' =>
      rw [hk] at hu
      obtain ⟨hlt, e⟩ := List.getElem?_eq_some_iff.1 hk
      simp at e hlt
      subst e
      obtain rfl := Option.some.inj hu
      exact hO _ hlt
  · have hlt : k < cs.length := (List.getElem?_eq_some_iff.1 hx).1
    simp [hlt] at hu
    subst hu
    exact h k x hx

theorem sound_load {t : TypeId} {n : Nat} {x : Operand} {v u : V} (ho : o.op = .load t x) (hx : eo fr x = some v) {p : Prop} (hu : loadA P hp t v = some (u, p)) (hs : sizeT P t = some n) : Sound P Γ fr hp U tk o ⟨u, [], [], none, p, L⟩ :=
  sound_pure fun a w m hR hp' => by
    have hr := eo_rel hR hx
    generalize a.eval = ρ at *
    generalize hc : ρ x = c at *
    have key : ∀ ad z, c = .pointer (some ad) → (loadVar t ad).run P w = .ok z w → (execOp ρ o).run P w = .ok (.value z) w := fun ad z e hz =>
      run_v (Instr.loadAt t (ρ x)) (by simp only [execOp, ho]) (by rw [hc, e]; simpa [Instr.loadAt, Instr.sureAddr, go_sem] using hz)
    unfold loadA at hu
    split at hu
    · rename_i k off
      split at hu
      · rename_i ty cs hk
        cases hr with
        | ptr _ _ b h1 h2 =>
          obtain ⟨g, arr, e, hg, hsz, hO, hv⟩ := hR.mem.hb _ _ hk
          rw [h2] at e
          simp only [Value.pointer.injEq, Option.some.injEq, Addr.mk.injEq, and_true] at e
          subst e
          have hcell : ∀ k, k < arr.size → w.cell? ⟨b, k, none⟩ = some (arr.getD k undef) := fun k hk => by
            simp [World.cell?, hg, hk]
          split at hu
          · rename_i n' ha hs'
            obtain rfl : n = n' := Option.some.inj (hs.symm.trans hs')
            split at hu
            · rename_i hlen
              simp only [Option.some.injEq, Prod.mk.injEq] at hu
              obtain ⟨rfl, _⟩ := hu
              rw [cut_eq] at hlen ⊢
              have hle : off + n ≤ cs.length ∨ n = 0 := by simp only [List.length_take, List.length_drop] at hlen; omega
              refine ⟨_, key _ _ rfl (run_loadVar ha hs _ (fun k => arr.getD (off + k) undef) w (fun k hk => by rw [add_plain]; simp at hk; exact hcell _ (by omega))), ?_⟩
              have := rv_agg_of (m := m) (U := U) (C := Cw Γ.F hp m w) ((cs.drop off).take n) (fun k => arr.getD (off + k) undef) (fun k hk => ?_) (fun k x hx => ?_)
              · rw [hlen] at this; simpa using this
              · rw [hlen] at hk
                have : off + k < arr.size := by omega
                exact hO (off + k) _ (by simp [this])
              · rw [List.getElem?_take, List.getElem?_drop] at hx
                split at hx
                · have hlt : off + k < cs.length := (List.getElem?_eq_some_iff.1 hx).1
                  exact hv _ _ _ hx (by simp [hsz, hlt])
                · cases hx
            · cases hu
          · rename_i ha
            split at hu
            · rename_i u' hu'
              simp only [Option.some.injEq, Prod.mk.injEq] at hu
              obtain ⟨rfl, _⟩ := hu
              rw [nth_eq] at hu'
              have hlt : off < cs.length := (List.getElem?_eq_some_iff.1 hu').1
              refine ⟨arr.getD off undef, ?_, hv _ _ _ hu' (by simp [hsz, hlt])⟩
              have := run_loadVar ha hs ⟨b, off, none⟩ (fun k => arr.getD (off + k) undef) w (fun k hk => by rw [add_plain]; simp at hk; subst hk; exact hcell _ (by omega))
              exact key _ _ rfl (by simpa using this)
            · cases hu
          · cases hu
      · cases hu
    · rename_i ds
      cases hr with
      | ip _ ad cv h1 h2 h3 =>
        have h1' : ∀ k, k < ds.length → w.cell? (ad.add k) = some (cv k) := fun k hk => (h1 k ds[k] (by simp [hk])).cell
        split at hu
        · rename_i n' ha hs'
          obtain rfl : n = n' := Option.some.inj (hs.symm.trans hs')
          split at hu
          · rename_i hlen
            simp only [Option.some.injEq, Prod.mk.injEq] at hu
            obtain ⟨rfl, _⟩ := hu
            rw [cut_eq] at hlen ⊢
            simp only [List.drop_zero, List.length_take] at hlen ⊢
            refine ⟨_, key _ _ rfl (run_loadVar ha hs ad cv w (fun k hk => by simp at hk; exact h1' k (by omega))), ?_⟩
            have := rv_agg_of (m := m) (U := U) (C := Cw Γ.F hp m w) ((ds.take n).map .d) cv (fun k hk => ?_) (fun k x hx => ?_)
            · simpa only [List.length_map, List.length_take, hlen, if_true] using this
            · simp only [List.length_map, List.length_take] at hk
              exact h2 k ds[k] (by simp)
            · rw [List.getElem?_map, List.getElem?_take] at hx
              split at hx
              · cases hdk : ds[k]? with
                | none => rw [hdk] at hx; cases hx
                | some y => rw [hdk] at hx; obtain rfl := Option.some.inj hx; exact .d (h3 k y hdk)
              · cases hx
          · cases hu
        · rename_i ha
          split at hu
          · rename_i y hdk
            simp only [Option.some.injEq, Prod.mk.injEq] at hu
            obtain ⟨rfl, _⟩ := hu
            rw [nth_eq] at hdk
            have hlt : 0 < ds.length := (List.getElem?_eq_some_iff.1 hdk).1
            have := run_loadVar ha hs ad cv w (fun k hk => by simp at hk; subst hk; exact h1' _ hlt)
            exact ⟨cv 0, key _ _ rfl (by simpa using this), .d (h3 0 y hdk)⟩
          · cases hu
        · cases hu
    · rename_i k sz j off
      split at hu
      · rename_i e sz' l hk
        split at hu
        · rename_i hsz
          subst hsz
          cases hr with
          | ept _ _ _ _ b n' c' h1 h2 =>
            obtain ⟨xs, hown, hrow, hO, hv⟩ := hR.mem.hb _ _ hk
            have hbl : (m k).ownBlock = some b := by rw [h2]; rfl
            have hcell : ∀ i u, xs[i]? = some u → w.cell? ⟨b, i, none⟩ = some u := fun i u hi => by
              have := hown.cells hbl i u hi
              rwa [add_plain, Nat.zero_add] at this
            have elem : ∀ (hj : j < l.length) i, i < sz → ∃ x u, (l.getD j [])[i]? = some x ∧ xs[j * sz + i]? = some u ∧ RD (Cw Γ.F hp m w) x u ∧ u.oneCell' = true := by
              intro hj i hi
              have hl : l.getD j [] = l[j] := by simp [hj]
              have hlen : (l[j]).length = sz := hrow _ (List.getElem_mem hj)
              obtain ⟨u, hu, hd⟩ := hv j l[j] (by simp [hj]) i (l[j][i]'(by omega)) (by simp [hlen, hi])
              exact ⟨_, u, by rw [hl]; simp [hlen, hi], hu, hd, hO u (List.mem_of_getElem? hu)⟩
            split at hu
            · rename_i n'' ha hs'
              obtain rfl : n = n'' := Option.some.inj (hs.symm.trans hs')
              split at hu
              · rename_i hlen
                simp only [Option.some.injEq, Prod.mk.injEq] at hu
                obtain ⟨rfl, rfl⟩ := hu
                rw [cut_eq]
                have hj : j < l.length := hp'
                have hll : ((l.getD j []).drop off).length = sz - off := by
                  rw [List.length_drop, show l.getD j [] = l[j] by simp [hj], hrow _ (List.getElem_mem hj)]
                have hl2 : ((((l.getD j []).drop off).take n).map V.d).length = n := by rw [List.length_map, List.length_take, hll]; omega
                refine ⟨_, key _ _ rfl (run_loadVar ha hs _ (fun i => xs.getD (j * sz + off + i) undef) w (fun i hi => ?_)), ?_⟩
                · rw [add_plain]
                  simp at hi
                  obtain ⟨x, u, _, hu, _, _⟩ := elem hj (off + i) (by omega)
                  rw [hcell _ u (by rw [← hu]; congr 1; omega)]
                  rw [List.getD_eq_getElem?_getD, Nat.add_assoc, hu]; rfl
                · have := rv_agg_of (m := m) (U := U) (C := Cw Γ.F hp m w) ((((l.getD j []).drop off).take n).map V.d) (fun i => xs.getD (j * sz + off + i) undef) (fun i hi => ?_) (fun i x hx => ?_)
                  · rw [hl2] at this; simpa using this
                  · rw [hl2] at hi
                    obtain ⟨x, u, _, hu, _, h1⟩ := elem hj (off + i) (by omega)
                    show (xs.getD _ undef).oneCell' = true
                    rw [List.getD_eq_getElem?_getD, Nat.add_assoc, hu]; exact h1
                  · have hi : i < n := by have := (List.getElem?_eq_some_iff.1 hx).1; rw [hl2] at this; exact this
                    obtain ⟨y, u, hy, hu, hd, _⟩ := elem hj (off + i) (by omega)
                    rw [List.getElem?_map, List.getElem?_take, if_pos hi, List.getElem?_drop, hy] at hx
                    obtain rfl := Option.some.inj hx
                    show RV _ _ _ _ (xs.getD _ undef)
                    rw [List.getD_eq_getElem?_getD, Nat.add_assoc, hu]; exact .d hd
              · cases hu
            · rename_i ha
              split at hu
              · rename_i hlen
                simp only [Option.some.injEq, Prod.mk.injEq] at hu
                obtain ⟨rfl, rfl⟩ := hu
                obtain ⟨y, u, hy, hu, hd, _⟩ := elem hp' off hlen
                have := run_loadVar ha hs ⟨b, j * sz + off, none⟩ (fun i => u) w (fun i hi => by simp at hi; subst hi; rw [add_plain]; exact hcell _ u (by simpa using hu))
                refine ⟨u, key _ _ rfl (by simpa using this), .d ?_⟩
                rw [List.getD_eq_getElem?_getD, hy]; exact hd
              · cases hu
            · cases hu
        · cases hu
      · cases hu
    · cases hu

end
end Go.Abs

set_option linter.unusedVariables false
set_option linter.unusedSimpArgs false
namespace Go.Abs
open Go Go.RowKit

section
variable {P : Program} {Γ : Ctx} {fr : List (Nat × V)} {hp : List (Nat × Blk)} {U : Nat → Prop} {a : Act} {w w' : World} {m : Nat → Value} {tk : Nat} {L : List (Use P)} {o : Oper}
  {K : Act → World → Prop} {Q : Exit → Act → World → Prop}

theorem Cw.setRow {F : Nat → Prop} {k g : Nat} {b b' : Blk} {arr : Array Value} (hk : lk hp k = some b) (hg : blkOf (m k) = some g) {p : Addr} {v : Value} (h : Cw F hp m w p v) : Cw F (sto hp k b') m (w.setRow g arr) p v := by
  have hne : p.block ≠ g := fun e => h.far k b hk (by rw [hg, e])
  refine ⟨?_, h.notF, fun t b0 ht => ?_⟩
  · rw [World.cell?_of_block (w := w) (setRow_other w g p.block arr hne)]; exact h.cell
  · rw [lk_sto] at ht
    by_cases e : t = k
    · subst e; exact h.far t b hk
    · rw [if_neg e] at ht; exact h.far t b0 ht

/-- A block of ours is written. -/
theorem Rel.setBlk (h : Rel Γ fr hp U a w m) {k g : Nat} {b b' : Blk} {arr : Array Value} (hk : lk hp k = some b) (hg : blkOf (m k) = some g) (hB : HB (Cw Γ.F (sto hp k b') m (w.setRow g arr)) m U (w.setRow g arr) k b') :
    Rel Γ fr (sto hp k b') U a (w.setRow g arr) m := by
  have hC : ∀ p v, Cw Γ.F hp m w p v → Cw Γ.F (sto hp k b') m (w.setRow g arr) p v := fun p v hc => hc.setRow hk hg
  refine h.turn hC (fun _ _ => rfl) (fun _ h => h) ?_
  have H := h.mem
  refine ⟨fun t b0 ht => ?_, fun t t' b1 b2 g' h1 h2 e1 e2 => ?_, fun t b0 ht => ?_, fun t b0 g' ht hg' hn => ?_, H.old, H.n0, fun t b0 g' ht hg' => ?_, H.hF, ?_⟩
  · rw [lk_sto] at ht
    by_cases e : t = k
    · subst e
      rw [if_pos rfl] at ht
      obtain rfl := Option.some.inj ht
      exact hB
    · rw [if_neg e] at ht
      exact (H.hb t b0 ht).mono hC (fun _ _ => rfl) (fun _ h => h) (H.lt t b0 ht) (fun g' hg' => setRow_other w g g' arr (fun e' => e (H.sep t k b0 b g' ht hk hg' (by rw [hg, e']))))
  · have f : ∀ t b0, lk (sto hp k b') t = some b0 → ∃ b1, lk hp t = some b1 := fun t b0 ht => by
      rw [lk_sto] at ht
      by_cases e : t = k
      · subst e; exact ⟨b, hk⟩
      · rw [if_neg e] at ht; exact ⟨_, ht⟩
    obtain ⟨c1, h1'⟩ := f t b1 h1
    obtain ⟨c2, h2'⟩ := f t' b2 h2
    exact H.sep t t' c1 c2 g' h1' h2' e1 e2
  · rw [lk_sto] at ht
    by_cases e : t = k
    · subst e; exact H.lt t b hk
    · rw [if_neg e] at ht; exact H.lt t b0 ht
  · rw [lk_sto] at ht
    have keepn : ∀ t0, lk hp t0 = none → lk (sto hp k b') t0 = none := fun t0 h0 => by
      rw [lk_sto, if_neg (by intro e; subst e; rw [hk] at h0; cases h0)]; exact h0
    by_cases e : t = k
    · subst e; exact (H.new t b g' hk hg' hn).imp id fun ⟨t0, i1, i2, i3⟩ => ⟨t0, i1, i2, keepn t0 i3⟩
    · rw [if_neg e] at ht; exact (H.new t b0 g' ht hg' hn).imp id fun ⟨t0, i1, i2, i3⟩ => ⟨t0, i1, i2, keepn t0 i3⟩
  · rw [lk_sto] at ht
    by_cases e : t = k
    · subst e; exact H.nF t b g' hk hg'
    · rw [if_neg e] at ht; exact H.nF t b0 g' ht hg'
  · refine ⟨H.keeps.os, H.keeps.tape, H.keeps.output, by simpa using H.keeps.size, fun g' hlt hn => ?_⟩
    by_cases e : g' = g
    · subst e
      exfalso
      rcases Nat.lt_or_ge k Γ.n0 with hkn | hkn
      · exact hn k hkn (by rw [← H.old k hkn]; exact hg)
      · rcases H.new k b g' hk hg hkn with h0 | ⟨t0, i1, i2, _⟩
        · omega
        · exact hn t0 i1 i2
    · rw [setRow_other w g g' arr e]; exact H.keeps.block g' hlt hn

theorem ins_spec {α : Type} (l : List α) (o : Nat) (bs : List α) (h : o + bs.length ≤ l.length) : ins l o bs = l.take o ++ bs ++ l.drop (o + bs.length) := by
  induction l generalizing o bs with
  | nil =>
    cases bs with
    | nil => simp [ins]
    | cons b bs => simp at h
  | cons a r ih =>
    cases bs with
    | nil => cases o <;> simp [ins]
    | cons b bs => cases o with
      | zero =>
        have := ih 0 bs (by simp at h; omega)
        simp [ins, this]
      | succ o =>
        have := ih o (b :: bs) (by simp at h ⊢; omega)
        simp only [ins, this, List.take_succ_cons, List.length_cons, List.cons_append]
        rw [show o + 1 + (bs.length + 1) = (o + (bs.length + 1)) + 1 by omega, List.drop_succ_cons]

/-- Cells in the middle: whose they are. -/
theorem get_mid {α : Type} (l : List α) (o : Nat) (bs : List α) (h : o + bs.length ≤ l.length) (k : Nat) : (l.take o ++ bs ++ l.drop (o + bs.length))[k]? = if o ≤ k ∧ k < o + bs.length then bs[k - o]? else l[k]? := by
  have h1 : (l.take o).length = o := by rw [List.length_take]; omega
  by_cases c1 : k < o
  · rw [if_neg (by omega), List.append_assoc, List.getElem?_append_left (by omega), List.getElem?_take, if_pos c1]
  · by_cases c2 : k < o + bs.length
    · rw [if_pos ⟨by omega, c2⟩, List.getElem?_append_left (by simp; omega), List.getElem?_append_right (by omega), h1]
    · rw [if_neg (by omega), List.getElem?_append_right (by simp; omega), List.getElem?_drop]
      congr 1
      simp; omega

theorem sound_storeVar {t ty : TypeId} {n k off : Nat} {x y : Operand} {v : V} {cs : List V} (ho : o.op = .store t x y) (hx : eo fr x = some (.ptr k off)) (hy : eo fr y = some v) (hs : sizeT P t = some n) (hk : lk hp k = some (.var ty cs))
    (hl : (cellsV v).length = n) (hO : (cellsV v).all one = true) (hle : off + n ≤ cs.length) : Sound P Γ fr hp U tk o ⟨.d (.lit undef), [], [(k, .var ty (ins cs off (cellsV v)))], none, True, L⟩ := by
  intro a w m K Q hR htk _ hd hK
  have hr1 := eo_rel hR hx
  have hr2 := eo_rel hR hy
  obtain ⟨c1, c2, c3⟩ := rv_cells hr2 hO
  obtain ⟨g, arr, e, hg, hsz, hO', hv⟩ := hR.mem.hb _ _ hk
  have hxp : a.eval x = .pointer (some ⟨g, off, none⟩) := by
    generalize a.eval x = c at *
    cases hr1 with
    | ptr _ _ b h1 h2 =>
      rw [h2] at e
      simp only [Value.pointer.injEq, Option.some.injEq, Addr.mk.injEq, and_true] at e
      rw [e]
  obtain ⟨i, hi, hin⟩ := sizeT_eq hs
  have hrun : (execOp a.eval o).run P w = .ok .skip (w.setRow g (arr.toList.take off ++ (a.eval y).cells.toList ++ arr.toList.drop (off + (a.eval y).cells.toList.length)).toArray) := by
    have h1 : execOp a.eval o = (do Instr.storeAt t (a.eval x) (a.eval y); pure .skip) := by simp only [execOp, ho]
    have h2 := run_storeCells_at P g off ty (a.eval y).cells.toList 0 arr w hg (by simp; omega) (fun u hu => by
      obtain ⟨k, hk, e⟩ := List.getElem_of_mem hu
      exact c2 k u (by rw [← e]; simp))
    simp only [Nat.add_zero] at h2
    rw [h1, hxp]
    have hne : ¬ (a.eval y).cells.size ≠ n := by omega
    have e1 : (sizeOf t).run P w = .ok n w := by simp [sizeOf, typeInfo, hi, hin, go_sem]
    simp only [Instr.storeAt, Instr.sureAddr, storeVar, Sem.run_bind, Sem.run_pure, Result.andThen_ok, e1, if_neg hne, h2]
  have hlen : (a.eval y).cells.toList.length = (cellsV v).length := by simp [c1]
  refine wp_skip' hrun (hK _ _ m ?_ (put_defers a _ _))
  have haft : after hp tk (⟨.d (.lit undef), [], [(k, .var ty (ins cs off (cellsV v)))], none, True, L⟩ : Rs P) = sto hp k (.var ty (ins cs off (cellsV v))) := rfl
  rw [haft]
  refine (rel_putA (hR.setBlk hk (by rw [e]; rfl) ?_) hd (.d (.lit undef))).given fun t h => .inl h
  have hC : ∀ p z, Cw Γ.F hp m w p z → Cw Γ.F (sto hp k (.var ty (ins cs off (cellsV v)))) m (w.setRow g (arr.toList.take off ++ (a.eval y).cells.toList ++ arr.toList.drop (off + (a.eval y).cells.toList.length)).toArray) p z := fun p z hc => hc.setRow hk (by rw [e]; rfl)
  rw [ins_spec cs off (cellsV v) (by omega)] at hC ⊢
  refine ⟨g, _, e, setRow_heap w g arr _ ty (0, 0) hg, ?_, fun j u hu => ?_, fun j x u hx hu => ?_⟩
  · simp only [List.size_toArray, List.length_append, List.length_take, List.length_drop, Array.length_toList, hlen]; omega
  · rw [List.getElem?_toArray, get_mid _ _ _ (by simp; omega)] at hu
    split at hu
    · exact c2 _ u (by simpa using hu)
    · exact hO' _ u (by simpa using hu)
  · rw [List.getElem?_toArray, get_mid _ _ _ (by simp; omega), hlen] at hu
    rw [get_mid _ _ _ (by omega)] at hx
    split at hx
    · rename_i hc
      rw [if_pos hc] at hu
      exact (c3 _ x u hx (by simpa using hu)).mono hC (fun _ _ => rfl) (fun _ h => h)
    · rename_i hc
      rw [if_neg hc] at hu
      exact (hv _ x u hx (by simpa using hu)).mono hC (fun _ _ => rfl) (fun _ h => h)

end
end Go.Abs

set_option linter.unusedVariables false
set_option linter.unusedSimpArgs false
namespace Go.Abs
open Go Go.RowKit

section
variable {P : Program} {Γ : Ctx} {fr : List (Nat × V)} {hp hp' : List (Nat × Blk)} {U : Nat → Prop} {a : Act} {w w' : World} {m : Nat → Value} {tk : Nat} {L : List (Use P)} {o : Oper}
  {K : Act → World → Prop} {Q : Exit → Act → World → Prop}

theorem lk_delAll : ∀ (g : List Nat) (hp : List (Nat × Blk)) (t : Nat), lk (delAll hp g) t = if t ∈ g then none else lk hp t
  | [], hp, t => by simp [delAll]
  | x :: r, hp, t => by
    rw [delAll, lk_delAll r (del hp x) t, lk_del]
    by_cases h1 : t ∈ r
    · simp [h1]
    · by_cases h2 : t = x
      · simp [h2]
      · simp [h1, h2]

theorem delAll_sub {g : List Nat} : ∀ t b, lk (delAll hp g) t = some b → lk hp t = some b := fun t b h => by
  rw [lk_delAll] at h; split at h
  · cases h
  · exact h

/-- A row that is given up reads as data. -/
theorem freeze (H : RelH Γ hp U w m) (hl : ∀ t b, lk hp' t = some b → lk hp t = some b) {t e sz : Nat} {l : List (List D)} (ht : lk hp t = some (.row e sz l)) (hn : lk hp' t = none) : RD (Cw Γ.F hp' m w) (.lst l) (m t) := by
  obtain ⟨xs, hown, hrow, hO, hv⟩ := H.hb t _ ht
  rcases hown.2 with ⟨e1, e2⟩ | ⟨g, cap, cur, e1, _, hg, hle, hcap, hcs, htake⟩
  · have : l = [] := List.eq_nil_of_length_eq_zero e2
    subst this
    rw [e1]
    exact .lst [] none 0 0 (fun _ _ => undef) (Nat.le_refl _) (Nat.zero_le _) (by simp) (by simp) (by simp) (by simp)
  · rw [e1]
    have hbl : (m t).ownBlock = some g := by rw [e1]; rfl
    refine .lst l _ cap sz (fun j k => (xs[j * sz + k]?).getD undef) hle hcap hrow (fun j row hj k x hk => ⟨_, rfl, ?_⟩) (fun j row hj k x hk => ?_) (fun j row hj k x hk => ?_) <;> obtain ⟨u, hu, hd⟩ := hv j row hj k x hk
    · rw [hu]
      refine ⟨hown.cells hbl _ u hu, ?_, fun t' b' ht' e3 => ?_⟩
      · rw [add_plain]; exact fun hf => absurd hf (H.nF t _ g ht (by rw [e1]; rfl))
      · rw [add_plain] at e3
        have := H.sep t t' _ b' g ht (hl _ _ ht') (by rw [e1]; rfl) e3
        subst this
        rw [hn] at ht'; cases ht'
    · rw [hu]; exact hO u (List.mem_of_getElem? hu)
    · rw [hu]; exact hd.mono fun p v hc => hc.less hl

theorem toD_rel (H : RelH Γ hp U w m) (hl : ∀ t b, lk hp' t = some b → lk hp t = some b) {v : V} {x : D} {u : Value} (h : RV (Cw Γ.F hp m w) m U v u) (hx : toD hp v = some x) (hn : ∀ t, t ∈ ownsOf [v] → lk hp' t = none) :
    RD (Cw Γ.F hp' m w) x u ∧ u.oneCell' = true := by
  unfold toD at hx
  split at hx
  · rename_i c
    cases hc : c.oneCell' with
    | false => rw [hc] at hx; cases hx
    | true =>
      rw [hc] at hx
      obtain rfl := Option.some.inj hx
      rw [h.lit_inv]
      exact ⟨.lit c, hc⟩
  · obtain rfl := Option.some.inj hx
    cases h with
    | d h => exact ⟨h.mono fun p v hc => hc.less hl, by cases h; rfl⟩
  · rename_i t
    split at hx
    · rename_i e sz l ht
      obtain rfl := Option.some.inj hx
      cases h with
      | own _ hU ho => exact ⟨freeze H hl ht (hn t (by simp [ownsOf])), ho⟩
    · cases hx
  · cases hx

theorem ownsOf_cons (v : V) (r : List V) : ownsOf (v :: r) = ownsOf [v] ++ ownsOf r := by cases v <;> simp [ownsOf]

theorem toDs_rel (H : RelH Γ hp U w m) (hl : ∀ t b, lk hp' t = some b → lk hp t = some b) : ∀ (vs : List V) (ds : List D), toDs hp vs = some ds → (∀ t, t ∈ ownsOf vs → lk hp' t = none) → ds.length = vs.length ∧
    ∀ (k : Nat) (v : V) (x : D) (u : Value), vs[k]? = some v → ds[k]? = some x → RV (Cw Γ.F hp m w) m U v u → RD (Cw Γ.F hp' m w) x u ∧ u.oneCell' = true
  | [], ds, h, _ => by obtain rfl := Option.some.inj h; exact ⟨rfl, fun k v x u hk => by simp at hk⟩
  | v :: r, ds, h, hn => by
    simp only [toDs] at h
    split at h
    · rename_i x y h1 h2
      obtain rfl := Option.some.inj h
      obtain ⟨hlen, hr⟩ := toDs_rel H hl r y h2 (fun t ht => hn t (by rw [ownsOf_cons]; exact List.mem_append_right _ ht))
      refine ⟨by simp [hlen], fun k v' x' u hk hx hv => ?_⟩
      cases k with
      | zero =>
        simp at hk hx
        subst hk hx
        exact toD_rel H hl hv h1 (fun t ht => hn t (by rw [ownsOf_cons]; exact List.mem_append_left _ ht))
      | succ k => exact hr k v' x' u (by simpa using hk) (by simpa using hx) hv
    · cases h

/-- An operation that makes a row, some rows being given up. -/
theorem sound_newRow {e sz : Nat} {l : List (List D)} {g : List Nat} {p : Prop} (hrow : ∀ row ∈ l, row.length = sz)
    (h : ∀ a w m, Rel Γ fr hp U a w m → p → ∃ w1 : World, ∃ cur : Array Value, ∃ cap : Nat, (execOp a.eval o).run P w = .ok (.value (.slice (some ⟨w.heap.size, 0, none⟩) l.length cap)) (w1.alloc (.cells cur e)) ∧ w1.heap = w.heap ∧ w1.os = w.os ∧ w1.tape = w.tape ∧ w1.output = w.output ∧
      l.length ≤ cap ∧ cap ≤ maxLen ∧ cur.size = cap * sz ∧ (∀ (k : Nat) (u : Value), cur[k]? = some u → k < l.length * sz → u.oneCell' = true) ∧
      ∀ (j : Nat) (row : List D), l[j]? = some row → ∀ (k : Nat) (x : D), row[k]? = some x → ∃ u, cur[j * sz + k]? = some u ∧ RD (Cw Γ.F (delAll hp g) m w) x u) : Sound P Γ fr hp U tk o ⟨.own tk, g, [], some (.row e sz l), p, L⟩ := by
  intro a w m K Q hR htk hp' hd hK
  obtain ⟨w1, cur, cap, hr, e1, e2, e3, e4, hle, hcap, hcs, hO, hv⟩ := h a w m hR hp'
  have hR1 : Rel Γ fr (delAll hp g) U a w1 m := (hR.less delAll_sub).same_heap e1 e2 e3 e4
  have hg : ∀ g', g' < w1.heap.size → (w1.alloc (.cells cur e)).heap[g']? = w1.heap[g']? := fun g' hlt => Below.heap_alloc w1 _ g' hlt
  have hnew : ∀ g', blkOf (.slice (some ⟨w1.heap.size, 0, none⟩) l.length cap) = some g' → w1.heap.size ≤ g' := fun g' e' => by simp only [blkOf, Option.some.injEq] at e'; omega
  have hC : ∀ p v, Cw Γ.F (delAll hp g) m w p v → Cw Γ.F ((tk, .row e sz l) :: delAll hp g) (upm m tk (.slice (some ⟨w1.heap.size, 0, none⟩) l.length cap)) (w1.alloc (.cells cur e)) p v := fun p v hc =>
    Cw.more hR1.mem htk hnew hg p v ⟨by simpa [World.cell?, e1] using hc.cell, hc.notF, hc.far⟩
  refine wp_value hr (hK _ _ (upm m tk (.slice (some ⟨w1.heap.size, 0, none⟩) l.length cap)) ?_ (put_defers a _ _))
  have haft : after hp tk (⟨.own tk, g, [], some (.row e sz l), p, L⟩ : Rs P) = (tk, .row e sz l) :: delAll hp g := rfl
  rw [haft, ← show w1.heap.size = w.heap.size by rw [e1]]
  have hR2 : Rel Γ fr ((tk, .row e sz l) :: delAll hp g) (also U tk) a (w1.alloc (.cells cur e)) (upm m tk (.slice (some ⟨w1.heap.size, 0, none⟩) l.length cap)) := by
    refine hR1.turn (fun p u => Cw.more hR1.mem htk hnew hg p u) (upm_lt m _ htk) (fun _ h => .inl h) (hR1.mem.more htk hnew hg (by simp) rfl rfl rfl ?_)
    refine ⟨cur.toList.take (l.length * sz), ⟨?_, .inr ⟨w1.heap.size, cap, cur, upm_self _ _ _, Nat.zero_le _, heap_alloc_new w1 _, hle, hcap, hcs, rfl⟩⟩, hrow, fun u hu => ?_, fun j row hj k x hk => ?_⟩
    · have e6 : cur.toList.length = cap * sz := by simp [hcs]
      rw [List.length_take, e6]
      have := Nat.mul_le_mul_right sz hle
      omega
    · obtain ⟨k, hk, e5⟩ := List.getElem_of_mem hu
      simp only [List.length_take, Array.length_toList] at hk
      refine hO k u ?_ (by omega)
      rw [← e5]; simp
    · obtain ⟨u, hu, hd'⟩ := hv j row hj k x hk
      refine ⟨u, ?_, hd'.mono hC⟩
      have hjl : j < l.length := (List.getElem?_eq_some_iff.1 hj).1
      have hkl : k < sz := by rw [← hrow row (List.mem_of_getElem? hj)]; exact (List.getElem?_eq_some_iff.1 hk).1
      have hlt : j * sz + k < l.length * sz := by
        have : (j + 1) * sz ≤ l.length * sz := Nat.mul_le_mul_right sz hjl
        rw [Nat.add_mul, Nat.one_mul] at this
        omega
      rw [List.getElem?_take, if_pos hlt]
      simpa using hu
  have h1 := rel_putA (o := o) hR2 hd (RV.own (C := Cw Γ.F ((tk, .row e sz l) :: delAll hp g) (upm m tk (.slice (some ⟨w1.heap.size, 0, none⟩) l.length cap)) (w1.alloc (.cells cur e))) tk (U := also U tk) (m := upm m tk (.slice (some ⟨w1.heap.size, 0, none⟩) l.length cap)) (.inr rfl) (by rw [upm_self]; rfl))
  rw [upm_self] at h1
  exact h1

end
end Go.Abs
