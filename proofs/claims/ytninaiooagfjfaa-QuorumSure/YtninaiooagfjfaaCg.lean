/- One operation at a time, third part: addresses of parts, parts of values, bytes of strings, lengths, conversions. No conditions. -/
import Derived.Test.YtninaiooagfjfaaCf
set_option linter.unusedVariables false
set_option linter.unusedSimpArgs false
namespace Go.Abs
open Go Go.RowKit

theorem add_plain (g o n : Nat) : (⟨g, o, none⟩ : Addr).add n = ⟨g, o + n, none⟩ := by
  unfold Addr.add
  split
  · rename_i h; subst h; rfl
  · rfl
theorem add_add (a : Addr) (m n : Nat) : (a.add m).add n = a.add (m + n) := by
  obtain ⟨b, o, s⟩ := a
  unfold Addr.add
  by_cases h1 : m = 0
  · subst h1; simp
  · by_cases h2 : n = 0
    · subst h2; simp [h1]
    · have : m + n ≠ 0 := by omega
      simp [h1, h2, this]; omega
theorem nth_eq {α : Type} (l : List α) (i : Nat) : nth l i = l[i]? := by
  induction l generalizing i with
  | nil => cases i <;> rfl
  | cons a r ih => cases i with
    | zero => rfl
    | succ i => simpa [nth] using ih i
theorem cut_eq {α : Type} (l : List α) (i n : Nat) : cut l i n = (l.drop i).take n := by
  induction l generalizing i n with
  | nil => cases i <;> cases n <;> simp [cut]
  | cons a r ih => cases i with
    | zero => cases n with
      | zero => simp [cut]
      | succ n => simpa [cut] using ih 0 n
    | succ i => simpa [cut] using ih i n

section
variable {P : Program} {Γ : Ctx} {fr : List (Nat × V)} {hp : List (Nat × Blk)} {U : Nat → Prop} {a : Act} {w w' : World} {m : Nat → Value} {tk : Nat} {L : List (Use P)} {o : Oper}
  {K : Act → World → Prop} {Q : Exit → Act → World → Prop}

theorem sizeT_eq {t n : Nat} (h : sizeT P t = some n) : ∃ i, P.info? t = some i ∧ i.size = n := by
  unfold sizeT at h
  cases hi : P.info? t with
  | none => rw [hi] at h; cases h
  | some i => rw [hi] at h; exact ⟨i, rfl, Option.some.inj h⟩

theorem fldT_eq {s f p n t : Nat} (h : fldT P s f = some (p, n, t)) : ∃ fs, ∃ x : Field, ∃ i, P.underlying s = some (.struct fs) ∧ fs[f]? = some x ∧ P.info? x.type = some i ∧ x.offset = p ∧ i.size = n ∧ x.type = t := by
  unfold fldT at h
  split at h
  · rename_i fs hs
    cases hx : fs[f]? with
    | none => rw [hx] at h; cases h
    | some x =>
      rw [hx] at h
      simp only [Option.bind_some] at h
      cases hz : sizeT P x.type with
      | none => rw [hz] at h; cases h
      | some n' =>
        rw [hz] at h
        obtain ⟨i, hi, hn⟩ := sizeT_eq hz
        simp only [Option.map_some, Option.some.injEq, Prod.mk.injEq] at h
        exact ⟨fs, x, i, hs, hx, hi, h.1, hn.trans h.2.1, h.2.2⟩
  · cases h

theorem run_fieldAt {s f p n t : Nat} (h : fldT P s f = some (p, n, t)) (hn : n ≠ 0) (ad : Addr) (w : World) : (Instr.fieldAt s (.pointer (some ad)) f).run P w = .ok (.pointer (some (ad.add p))) w := by
  obtain ⟨fs, x, i, hs, hx, hi, hp, hsz, _⟩ := fldT_eq h
  have h0 : i.size ≠ 0 := by omega
  simp [Instr.fieldAt, run_underlying hs, hx, Instr.sureAddr, fieldPlace, sizeOf, typeInfo, hi, h0, hp, go_sem]

theorem ip_drop {C : Addr → Value → Prop} {ds : List D} {ad : Addr} (h : RV C m U (.ip ds) (.pointer (some ad))) (p : Nat) : RV C m U (.ip (ds.drop p)) (.pointer (some (ad.add p))) := by
  cases h with
  | ip cs ad cv h1 h2 h3 =>
    refine .ip _ _ (fun k => cv (p + k)) (fun k x hk => ?_) (fun k x hk => ?_) (fun k x hk => ?_) <;> rw [List.getElem?_drop] at hk
    · rw [add_add]; exact h1 _ x hk
    · exact h2 _ x hk
    · exact h3 _ x hk

theorem run_v {ρ : Operand → Value} (S : Sem Value) (he : execOp ρ o = (do pure (.value (← S)))) {u : Value} (h : S.run P w = .ok u w') : (execOp ρ o).run P w = .ok (.value u) w' := by
  rw [he, Sem.run_bind, h]; rfl

theorem sound_fieldAddr {s f p n t : Nat} {x : Operand} {v u : V} (ho : o.op = .fieldAddr s x f) (hx : eo fr x = some v) (hf : fldT P s f = some (p, n, t)) (hn : n ≠ 0)
    (hv : (∃ k q, v = .ptr k q ∧ u = .ptr k (q + p)) ∨ (∃ k sz j q, v = .ept k sz j q ∧ u = .ept k sz j (q + p)) ∨ ∃ ds, v = .ip ds ∧ u = .ip (ds.drop p)) : Sound P Γ fr hp U tk o ⟨u, [], [], none, True, L⟩ :=
  sound_pure fun a w m hR _ => by
    have hr := eo_rel hR hx
    generalize a.eval = ρ at *
    generalize hu : ρ x = c at *
    have key : ∀ ad, c = .pointer (some ad) → (execOp ρ o).run P w = .ok (.value (.pointer (some (ad.add p)))) w := fun ad e =>
      run_v (Instr.fieldAt s (ρ x) f) (by simp only [execOp, ho]) (by rw [hu, e]; exact run_fieldAt hf hn ad w)
    rcases hv with ⟨k, q, rfl, rfl⟩ | ⟨k, sz, j, q, rfl, rfl⟩ | ⟨ds, rfl, rfl⟩
    · cases hr with
      | ptr t off b h1 h2 => exact ⟨_, by rw [key _ rfl, add_plain], .ptr _ _ b h1 h2⟩
    · cases hr with
      | ept t sz j k b n' c h1 h2 => exact ⟨_, by rw [key _ rfl, add_plain, Nat.add_assoc], .ept _ _ _ _ b n' c h1 h2⟩
    · cases hr with
      | ip _ ad cv h1 h2 h3 => exact ⟨_, key _ rfl, ip_drop (.ip ds ad cv h1 h2 h3) p⟩

theorem aggT_run {t : TypeId} {b : Bool} (h : aggT P t = some b) (w : World) : (isAgg t).run P w = .ok b w := by
  unfold aggT at h
  cases hu : P.underlying t with
  | none => rw [hu] at h; cases h
  | some d => rw [hu] at h; cases d <;> simp at h <;> subst h <;> simp [isAgg, run_underlying hu]

theorem sound_len {x : Operand} {v : V} {n : Int} {c : Call} (ho : o.op = .call c) (hc : c.callee = .builtin .len) (ha : c.args = #[x]) {t : TypeId} (ht : c.argTypes = #[t]) (hx : eo fr x = some v) (hn : lenV hp v = some n)
    (hty : (strT P t = true ∧ ∃ s, v = .d (.lit (.string s))) ∨ ((elemT P t).isSome = true ∧ ¬ ∃ s, v = .d (.lit (.string s)))) : Sound P Γ fr hp U tk o ⟨.d (.lit (.int .i64 n)), [], [], none, True, L⟩ :=
  sound_pure fun a w m hR _ => by
    have hr := eo_rel hR hx
    generalize a.eval = ρ at *
    generalize hu : ρ x = z at *
    refine ⟨.int .i64 n, ?_, .d (.lit _)⟩
    rcases hty with ⟨hs, s, rfl⟩ | ⟨he, hns⟩
    · have hz := hr.lit_inv
      obtain rfl := Option.some.inj hn
      simp [execOp, ho, resolve, hc, ha, ht, invoke, builtin, go_sem, hu, hz, Builtin.len_, run_underlying (strT_eq hs), goInt]
    · obtain ⟨e, he⟩ := Option.isSome_iff_exists.1 he
      have he := elemT_eq he
      have key : ∀ (A : Option Addr) (l cp : Nat), z = .slice A l cp → (l : Int) = n → (execOp ρ o).run P w = .ok (.value (.int .i64 n)) w := by
        intro A l cp e1 e2
        subst e1 e2
        simp [execOp, ho, resolve, hc, ha, ht, invoke, builtin, go_sem, hu, Builtin.len_, run_underlying he, goInt]
      unfold lenV at hn
      split at hn
      · exact absurd ⟨_, rfl⟩ hns
      · obtain rfl := Option.some.inj hn; exact key none 0 0 hr.lit_inv rfl
      · obtain rfl := Option.some.inj hn
        cases hr with
        | d h => cases h with
          | lst _ A c sz cv hc hm hsz hA hO hR => exact key A _ c rfl rfl
      · rename_i t0
        split at hn
        · rename_i e' sz l hl
          obtain rfl := Option.some.inj hn
          cases hr with
          | own t h hone =>
            obtain ⟨xs, hown, _⟩ := hR.mem.hb _ _ hl
            rcases hown.2 with ⟨e1, e2⟩ | ⟨g, cap, cur, e1, _⟩
            · exact key none 0 0 e1 (by rw [e2])
            · exact key _ _ _ e1 rfl
        · cases hn
      · cases hn

theorem run_part {t n p : TypeId} {b : Bool} {u : Value} (ha : aggT P t = some b) (hs : sizeT P t = some n) (cs : Array Value) (h : (b = true ∧ u = .agg (cs.extract p (p + n))) ∨ (b = false ∧ cs[p]? = some u)) (w : World) : (part t cs p).run P w = .ok u w := by
  obtain ⟨i, hi, hn⟩ := sizeT_eq hs
  unfold part
  rw [Sem.run_bind, aggT_run ha]
  rcases h with ⟨rfl, rfl⟩ | ⟨rfl, hu⟩
  · simp [sizeOf, typeInfo, hi, hn, go_sem]
  · simp [hu, go_sem]

theorem agg_cut {C : Addr → Value → Prop} {cs : List V} {vs : Array Value} (h : RV C m U (.agg cs) (.agg vs)) (p n : Nat) : RV C m U (.agg (cut cs p n)) (.agg (vs.extract p (p + n))) := by
  cases h with
  | agg _ _ hl hO h =>
    rw [cut_eq]
    refine .agg _ _ ?_ (fun k u hu => ?_) (fun k x u hk hu => ?_)
    · simp only [List.length_take, List.length_drop, Array.size_extract, hl]; omega
    · rw [Array.getElem?_extract] at hu
      split at hu
      · exact hO _ _ hu
      · cases hu
    · rw [Array.getElem?_extract] at hu
      split at hu
      · rw [List.getElem?_take, List.getElem?_drop] at hk
        split at hk
        · exact h _ _ _ hk hu
        · cases hk
      · cases hu

theorem sound_field {s f p n t : Nat} {x : Operand} {cs : List V} {u : V} (ho : o.op = .field s x f) (hx : eo fr x = some (.agg cs)) (hf : fldT P s f = some (p, n, t)) {b : Bool} (ha : aggT P t = some b)
    (hv : (b = true ∧ u = .agg (cut cs p n)) ∨ (b = false ∧ nth cs p = some u)) : Sound P Γ fr hp U tk o ⟨u, [], [], none, True, L⟩ :=
  sound_pure fun a w m hR _ => by
    have hr := eo_rel hR hx
    generalize a.eval = ρ at *
    generalize hu : ρ x = c at *
    obtain ⟨fs, fd, i, hs, hfd, hi, hp', hsz, ht⟩ := fldT_eq hf
    have hsz' : sizeT P fd.type = some n := by simp [sizeT, hi, hsz]
    subst ht
    cases hr with
    | agg _ vs hl hO h =>
      have key : ∀ u', (part fd.type vs p).run P w = .ok u' w → (execOp ρ o).run P w = .ok (.value u') w := fun u' e =>
        run_v (Instr.field s (ρ x) f) (by simp only [execOp, ho]) (by
          rw [hu]; simp only [Instr.field, Sem.run_bind, run_underlying hs, Result.andThen_ok, hfd, hp', asAgg]; simpa [go_sem] using e)
      rcases hv with ⟨rfl, rfl⟩ | ⟨rfl, hn⟩
      · exact ⟨_, key _ (run_part ha hsz' vs (.inl ⟨rfl, rfl⟩) w), agg_cut (.agg cs vs hl hO h) p n⟩
      · rw [nth_eq] at hn
        have hlt : p < vs.size := by rw [← hl]; exact (List.getElem?_eq_some_iff.1 hn).1
        exact ⟨vs[p], key _ (run_part ha hsz' vs (.inr ⟨rfl, by simp [hlt]⟩) w), h p u _ hn (by simp [hlt])⟩

theorem sound_index {x i : Operand} {t : TypeId} {s : ByteArray} {k : IntKind} {j : Int} (ho : o.op = .index t x i) (hx : eo fr x = some (.d (.lit (.string s)))) (hi : eo fr i = some (.d (.lit (.int k j)))) (ht : strT P t = true) :
    Sound P Γ fr hp U tk o ⟨.d (.lit (.int .u8 (s.get! j.toNat).toNat)), [], [], none, 0 ≤ j ∧ j < s.size, L⟩ :=
  sound_pure fun a w m hR hp' => by
    have h1 := (eo_rel hR hx).lit_inv
    have h2 := (eo_rel hR hi).lit_inv
    generalize a.eval = ρ at *
    have hlt : j.toNat < s.size := by have := hp'.1; have := hp'.2; omega
    have hg : s[j.toNat]? = some (s.get! j.toNat) := by
      have : s[j.toNat]? = some (s[j.toNat]'hlt) := by simp [hlt]
      rw [this]
      congr 1
      have hlt' : j.toNat < s.data.size := hlt
      show s.data[j.toNat] = s.data[j.toNat]!
      exact (getElem!_pos s.data j.toNat hlt').symm
    exact ⟨_, run_v (Instr.index t (ρ x) (ρ i)) (by simp only [execOp, ho]) (by rw [h1, h2]; simp [Instr.index, asIntOf, run_underlying (strT_eq ht), hp'.1, hg, go_sem]), .d (.lit _)⟩

theorem sound_convInt {x : Operand} {s t : TypeId} {k k' : IntKind} {n : Int} {q : Rs P} {r : R} (ho : o.op = .convert s t x) (hx : eo fr x = some (.d (.lit (.int k n)))) (ht : intT P t = some k') (h : intR k' (arith k' n) = some r) (hq : ofR L (some r) = some q) (hs : ∃ d, P.underlying s = some d) :
    Sound P Γ fr hp U tk o q := by
  simp only [ofR, Option.some.injEq] at hq
  subst hq
  simp only [intR, pureR, Option.some.injEq] at h
  subst h
  refine sound_pure fun a w m hR hp' => ?_
  have h1 := (eo_rel hR hx).lit_inv
  generalize a.eval = ρ at *
  obtain ⟨d, hd⟩ := hs
  refine ⟨_, run_v (convert s t (ρ x)) (by simp only [execOp, ho]) ?_, .d (.lit _)⟩
  rw [h1]
  cases d <;> simp [convert, run_underlying hd, run_underlying (intT_eq ht), Conv.intToInt, arith_wrap k' _ hp', go_sem]

theorem sound_max {x y : Operand} {k : IntKind} {n n' : Int} {c : Call} (ho : o.op = .call c) (hc : c.callee = .builtin .max) (ha : c.args = #[x, y]) (hx : eo fr x = some (.d (.lit (.int k n)))) (hy : eo fr y = some (.d (.lit (.int k n')))) :
    Sound P Γ fr hp U tk o ⟨.d (.lit (.int k (max n n'))), [], [], none, True, L⟩ :=
  sound_pure fun a w m hR _ => by
    have h1 := (eo_rel hR hx).lit_inv
    have h2 := (eo_rel hR hy).lit_inv
    generalize a.eval = ρ at *
    refine ⟨_, ?_, .d (.lit _)⟩
    have h0 : max n n' = if n' > n then n' else n := by split <;> omega
    rw [h0]
    simp [execOp, ho, resolve, hc, ha, invoke, builtin, go_sem, h1, h2, Builtin.max_, Builtin.max2]

theorem sound_min {x y : Operand} {k : IntKind} {n n' : Int} {c : Call} (ho : o.op = .call c) (hc : c.callee = .builtin .min) (ha : c.args = #[x, y]) (hx : eo fr x = some (.d (.lit (.int k n)))) (hy : eo fr y = some (.d (.lit (.int k n')))) :
    Sound P Γ fr hp U tk o ⟨.d (.lit (.int k (min n n'))), [], [], none, True, L⟩ :=
  sound_pure fun a w m hR _ => by
    have h1 := (eo_rel hR hx).lit_inv
    have h2 := (eo_rel hR hy).lit_inv
    generalize a.eval = ρ at *
    refine ⟨_, ?_, .d (.lit _)⟩
    have h0 : min n n' = if n' < n then n' else n := by split <;> omega
    rw [h0]
    simp [execOp, ho, resolve, hc, ha, invoke, builtin, go_sem, h1, h2, Builtin.min_, Builtin.min2]

end
end Go.Abs
