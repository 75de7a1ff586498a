/- One operation at a time, last part: all kinds together. No conditions. -/
import Derived.Test.YtninaiooagfjfaaCe
import Derived.Test.YtninaiooagfjfaaCf
import Derived.Test.YtninaiooagfjfaaCg
import Derived.Test.YtninaiooagfjfaaCh
import Derived.Test.YtninaiooagfjfaaCi
import Derived.Test.YtninaiooagfjfaaCj
import Derived.Test.YtninaiooagfjfaaCk
import Derived.Test.YtninaiooagfjfaaCl
import Derived.Test.YtninaiooagfjfaaCm
import Derived.Test.YtninaiooagfjfaaCp
set_option linter.unusedVariables false
set_option linter.unusedSimpArgs false
namespace Go.Abs
open Go Go.RowKit

section
variable {P : Program} {Γ : Ctx} {fr : List (Nat × V)} {hp hp' : List (Nat × Blk)} {U U' : Nat → Prop} {a : Act} {w w' : World} {m m' : Nat → Value} {tk : Nat} {L : List (Use P)} {o : Oper}
  {K : Act → World → Prop} {Q : Exit → Act → World → Prop}

mutual
theorem ren_nil (tk : Nat) : ∀ (x : V), tokB 0 x = true → ren [] tk x = x
  | .d _, _ => rfl
  | .own t, h => by simp [tokB] at h
  | .ptr t o, h => by simp [tokB] at h
  | .ept t s j k, h => by simp [tokB] at h
  | .ip _, _ => rfl
  | .agg cs, h => by simp only [ren]; rw [renL_nil tk cs (by simpa [tokB] using h)]
  | .tup cs, h => by simp only [ren]; rw [renL_nil tk cs (by simpa [tokB] using h)]
  | .fn f cs, h => by simp only [ren]; rw [renL_nil tk cs (by simpa [tokB] using h)]
  | .when _ _, h => by simp [tokB] at h
  | .any, _ => rfl
theorem renL_nil (tk : Nat) : ∀ (l : List V), tokLB 0 l = true → renL [] tk l = l
  | [], _ => rfl
  | x :: r, h => by
    simp only [tokLB, Bool.and_eq_true] at h
    simp only [renL]; rw [ren_nil tk x h.1, renL_nil tk r h.2]
end

theorem Sound.weaker {q q' : Rs P} (h : Sound P Γ fr hp U tk o q) (hv : q'.v = q.v) (hg : q'.gone = q.gone) (hs : q'.set = q.set) (hn : q'.new = q.new) (hp' : q'.p → q.p) : Sound P Γ fr hp U tk o q' := by
  intro a w m K Q hR htk hp0 hd hK
  have e : after hp tk q' = after hp tk q := by unfold after; rw [hg, hs, hn]
  rw [hv, e] at hK
  exact h a w m K Q hR htk (hp' hp0) hd hK

theorem sound_callA {x : Operand} {f : Nat} {cap vs : List V} {c : Call} {q : Rs P} (ho : o.op = .call c) (hc : c.callee = .value x) (hx : eo fr x = some (.fn f cap)) (ha : eos fr c.args.toList = some vs) (h : callA hp tk f (vs ++ cap) L = some q) :
    Sound P Γ fr hp U tk o q := by
  unfold callA at h
  split at h
  · cases h
  · rename_i u L
    split at h
    · rename_i hf
      have hG := sound_callG (Γ := Γ) (hp := hp) (U := U) (tk := tk) (u := u) (L := L) ho hc hx ha hf
      split at h
      · rename_i h1 h2 h3
        obtain rfl := Option.some.inj h
        refine hG.weaker ?_ ?_ ?_ ?_ ?_
        · show u.cr.v = ren u.ts tk u.cr.v
          have := u.cr.tok
          rw [h3] at this
          simp only [List.length_nil, Bool.and_eq_true] at this
          rw [h1, ren_nil tk _ this.1]
        · simp [callG, h1, h2, h3, seenH, flatBlks]
        · simp [callG, h1, h3, backs]
        · simp [callG, h1, h3, backs]
        · intro hp0
          refine ⟨by simpa [h1] using hp0, by simp [h1, h2, hands], by simp [h1]⟩
      · obtain rfl := Option.some.inj h
        exact hG
    · cases h

theorem rowT_spec {e sz b : Nat} (h : rowT P e = some (sz, b)) : sizeT P e = some sz ∧ 0 < sz ∧ (zeroT P e).isSome = true := by
  unfold rowT at h
  unfold sizeT zeroT
  split at h
  · rename_i i hi
    split at h
    · rename_i z hz
      split at h
      · rename_i hc
        obtain ⟨rfl, rfl⟩ := Prod.mk.inj (Option.some.inj h)
        exact ⟨by simp [hi], hc.2.1, by simp [hi, hz]⟩
      · cases h
    · cases h
  · cases h

theorem bound_spec {lo : Option Operand} {d l : Int} (h : boundA fr d lo = some l) : (lo = none ∧ l = d) ∨ ∃ y k, lo = some y ∧ eo fr y = some (.d (.lit (.int k l))) := by
  cases lo with
  | none => exact .inl ⟨rfl, (Option.some.inj h).symm⟩
  | some y =>
    simp only [boundA] at h
    split at h
    · rename_i k n hy; obtain rfl := Option.some.inj h; exact .inr ⟨y, k, rfl, hy⟩
    · cases h

theorem sound_sliceA {t : TypeId} {x : Operand} {lo hi : Option Operand} {q : Rs P} (ho : o.op = .slice t x lo hi none) (h : sliceA P fr hp t x lo hi L = some q) : Sound P Γ fr hp U tk o q := by
  unfold sliceA at h
  split at h
  · rename_i v l hx hl
    have hl := bound_spec hl
    unfold sliceV at h
    split at h
    · rename_i s
      split at h
      · rename_i h' ht hh; obtain rfl := Option.some.inj h
        exact sound_sliceStr ho hx ht hl (bound_spec hh) (fun hp0 => hp0)
      · cases h
    · rename_i v hns
      split at h
      · rename_i e rows he hv
        split at h
        · rename_i sz h' hs hh; obtain rfl := Option.some.inj h
          exact sound_sliceLst ho hx hv he hs hl (bound_spec hh) (fun hp0 => hp0)
        · cases h
      · cases h
  · cases h

theorem sound_call {c : Call} {q : Rs P} (ho : o.op = .call c) (h : stp P Γ.n0 fr hp tk L o = some q) : Sound P Γ fr hp U tk o q := by
  simp only [stp, ho] at h
  split at h
  · rename_i hc
    split at h
    · rename_i x t ha hat
      split at h
      · rename_i v hx
        split at h
        · rename_i n hn
          cases ht : lenT P t v with
          | false => rw [ht] at h; cases h
          | true =>
            rw [ht] at h
            obtain rfl := Option.some.inj h
            refine sound_len ho hc ha hat hx hn ?_
            unfold lenT at ht
            split at ht
            · exact .inl ⟨ht, _, rfl⟩
            · rename_i hne; exact .inr ⟨ht, fun ⟨s, e⟩ => hne s e⟩
        · cases h
      · cases h
    · cases h
  · rename_i hc
    split at h
    · rename_i x y t t' ha hat
      split at h
      · rename_i he; subst he
        split at h
        · rename_i va vb hx hy
          unfold appendA at h
          split at h
          · rename_i e l2 he hv
            split at h
            · rename_i sz b hr
              obtain rfl := Option.some.inj h
              refine (sound_append (L := L) (l := []) (g := []) (vx := nilV) ho hc ha hat he hr hx hy hv (.inl ⟨rfl, rfl, rfl⟩)).weaker rfl rfl rfl rfl (fun hp0 => by simpa using hp0)
            · rename_i sz b t0 hr
              split at h
              · rename_i e' sz' l hk
                split at h
                · rename_i hcc
                  obtain ⟨rfl, rfl, h3⟩ := hcc
                  obtain rfl := Option.some.inj h
                  exact sound_append ho hc ha hat he hr hx hy hv (.inr ⟨t0, rfl, hk, rfl, h3⟩)
                · cases h
              · cases h
            · cases h
          · cases h
        · cases h
      · cases h
    · cases h
  · rename_i hc
    split at h
    · rename_i x y ha
      split at h
      · rename_i k n k' n' hx hy
        split at h
        · rename_i hk; subst hk; obtain rfl := Option.some.inj h; exact sound_max ho hc ha hx hy
        · cases h
      · cases h
    · cases h
  · rename_i hc
    split at h
    · rename_i x y ha
      split at h
      · rename_i k n k' n' hx hy
        split at h
        · rename_i hk; subst hk; obtain rfl := Option.some.inj h; exact sound_min ho hc ha hx hy
        · cases h
      · cases h
    · cases h
  · rename_i fn hc
    split at h
    · rename_i f cap vs hx ha; exact sound_callA ho hc hx ha h
    · cases h
  · cases h

theorem stp_sound {q : Rs P} (h : stp P Γ.n0 fr hp tk L o = some q) : Sound P Γ fr hp U tk o q := by
  cases ho : o.op with
  | move x =>
    simp only [stp, ho] at h
    split at h
    · rename_i v hv; obtain rfl := Option.some.inj h; exact sound_move (.inl ho) hv
    · cases h
  | assign x =>
    simp only [stp, ho] at h
    split at h
    · rename_i v hv; obtain rfl := Option.some.inj h; exact sound_move (.inr ho) hv
    · cases h
  | pick c x y =>
    simp only [stp, ho] at h
    split at h
    · rename_i t va vb h1 h2 h3; obtain rfl := Option.some.inj h; exact sound_pick ho h1 h2 h3
    · cases h
  | alloc t =>
    simp only [stp, ho] at h
    split at h
    · rename_i zs hz
      split at h
      · rename_i hO; obtain rfl := Option.some.inj h; exact sound_alloc ho hz hO
      · cases h
    · cases h
  | box t x =>
    simp only [stp, ho] at h
    split at h
    · rename_i v n hx hs
      split at h
      · rename_i hO; obtain rfl := Option.some.inj h; exact sound_box (n := n) ho hx hO.1
      · cases h
    · cases h
  | build t ps =>
    simp only [stp, ho] at h
    split at h
    · rename_i zs pl hz hs
      split at h
      · rename_i hO
        split at h
        · rename_i cs hf; obtain rfl := Option.some.inj h; exact sound_build ho hz hs hO hf
        · cases h
      · cases h
    · cases h
  | buildSlice t n ps =>
    simp only [stp, ho] at h
    split at h
    · rename_i e he
      split at h
      · rename_i sz b hr
        split at h
        · rename_i l g hrow
          split at h
          · rename_i hc; obtain rfl := Option.some.inj h
            obtain ⟨r1, r2, r3⟩ := rowT_spec hr
            exact sound_buildSlice ho he r1 hrow hc.1 hc.2 r2 r3
          · cases h
        · cases h
      · cases h
    · cases h
  | load t x =>
    simp only [stp, ho] at h
    split at h
    · rename_i v n hx hs
      split at h
      · rename_i u p hu; obtain rfl := Option.some.inj h; exact sound_load ho hx hu hs
      · cases h
    · cases h
  | store t x y =>
    simp only [stp, ho] at h
    split at h
    · rename_i k o' v n hx hy hs
      split at h
      · rename_i ty cs hk
        split at h
        · rename_i hc; obtain rfl := Option.some.inj h; exact sound_storeVar ho hx hy hs hk hc.1 hc.2.1 hc.2.2
        · cases h
      · cases h
    · rename_i k sz j o' v n hx hy hs
      split at h
      · rename_i e sz' l ds hk hds
        split at h
        · rename_i hc; obtain rfl := Option.some.inj h
          obtain ⟨rfl, c2, c3, c4⟩ := hc
          exact sound_storeRow ho hx hy hs hk hds c2 c3 c4
        · cases h
      · cases h
    · cases h
  | nilCheck x =>
    simp only [stp, ho] at h
    split at h
    · rename_i k o' hx; obtain rfl := Option.some.inj h; exact sound_nil ho hx (.inl ⟨_, _, rfl⟩)
    · rename_i k sz j o' hx; obtain rfl := Option.some.inj h; exact sound_nil ho hx (.inr (.inl ⟨_, _, _, _, rfl⟩))
    · rename_i ds hx; obtain rfl := Option.some.inj h; exact sound_nil ho hx (.inr (.inr (.inl ⟨_, rfl⟩)))
    · rename_i f cs hx; obtain rfl := Option.some.inj h; exact sound_nil ho hx (.inr (.inr (.inr ⟨_, _, rfl⟩)))
    · cases h
  | binOp op t x y t' =>
    simp only [stp, ho] at h
    split at h
    · rename_i va vb hx hy
      cases hb : binV P op t va vb with
      | none => rw [hb] at h; cases h
      | some r => rw [hb] at h; exact sound_bin ho hx hy hb h
    · cases h
  | unOp op t x =>
    simp only [stp, ho] at h
    split at h
    · rename_i va hx
      cases hb : unV op va with
      | none => rw [hb] at h; cases h
      | some r => rw [hb] at h; exact sound_un ho hx hb h
    · cases h
  | convert s t x =>
    simp only [stp, ho] at h
    split at h
    · rename_i k n hx
      split at h
      · rename_i k' d hk hs
        cases hb : intR k' (arith k' n) with
        | none => rw [hb] at h; cases h
        | some r => rw [hb] at h; exact sound_convInt ho hx hk hb h ⟨d, hs⟩
      · cases h
    · cases h
  | makeFunc x first cap =>
    cases x with
    | func f =>
      simp only [stp, ho] at h
      split at h
      · rename_i hf
        split at h
        · rename_i vs hv; obtain rfl := Option.some.inj h; exact sound_makeFunc ho hf hv
        · cases h
      · cases h
    | _ => simp [stp, ho] at h
  | fieldAddr s x f =>
    simp only [stp, ho] at h
    split at h
    · rename_i k o' p n t hx hf
      split at h
      · cases h
      · rename_i hn; obtain rfl := Option.some.inj h; exact sound_fieldAddr ho hx hf hn (.inl ⟨_, _, rfl, rfl⟩)
    · rename_i k sz j o' p n t hx hf
      split at h
      · cases h
      · rename_i hn; obtain rfl := Option.some.inj h; exact sound_fieldAddr ho hx hf hn (.inr (.inl ⟨_, _, _, _, rfl, rfl⟩))
    · rename_i ds p n t hx hf
      split at h
      · cases h
      · rename_i hn; obtain rfl := Option.some.inj h; exact sound_fieldAddr ho hx hf hn (.inr (.inr ⟨_, rfl, rfl⟩))
    · cases h
  | field s x f =>
    simp only [stp, ho] at h
    split at h
    · rename_i cs p n t hx hf
      split at h
      · rename_i ha
        split at h
        · obtain rfl := Option.some.inj h; exact sound_field ho hx hf ha (.inl ⟨rfl, rfl⟩)
        · cases h
      · rename_i ha
        split at h
        · rename_i v hv; obtain rfl := Option.some.inj h; exact sound_field ho hx hf ha (.inr ⟨rfl, hv⟩)
        · cases h
      · cases h
    · cases h
  | indexAddr t x i =>
    simp only [stp, ho] at h
    split at h
    · rename_i l k j e hx hi he
      split at h
      · rename_i sz hs; obtain rfl := Option.some.inj h; exact sound_indexLst ho hx hi he hs
      · cases h
    · rename_i q' k j e hx hi he
      split at h
      · rename_i e' sz' l sz hq hs
        split at h
        · rename_i hc; subst hc; obtain rfl := Option.some.inj h; exact sound_indexOwn ho hx hi he hs hq
        · cases h
      · cases h
    · cases h
  | index t x i =>
    simp only [stp, ho] at h
    split at h
    · rename_i s k j hx hi
      cases ht : strT P t with
      | true => rw [ht] at h; obtain rfl := Option.some.inj h; exact sound_index ho hx hi ht
      | false => rw [ht] at h; cases h
    · cases h
  | extract x i =>
    simp only [stp, ho] at h
    split at h
    · rename_i vs hx
      split at h
      · rename_i v hv; obtain rfl := Option.some.inj h; exact sound_extract ho hx hv
      · cases h
    · cases h
  | slice t x lo hi mx =>
    cases mx with
    | none =>
      simp only [stp, ho] at h
      exact sound_sliceA ho h
    | some _ => simp [stp, ho] at h
  | call c => exact sound_call ho h
  | _ => simp [stp, ho] at h

end
end Go.Abs
