/- One operation at a time, tenth part: what a callee sees, and what comes back. No conditions. -/
import Derived.Test.YtninaiooagfjfaaCm
set_option linter.unusedVariables false
set_option linter.unusedSimpArgs false
namespace Go.Abs
open Go Go.RowKit

section
variable {P : Program} {Γ : Ctx} {fr : List (Nat × V)} {hp hp' : List (Nat × Blk)} {U U' : Nat → Prop} {a : Act} {w w' : World} {m m' : Nat → Value} {tk : Nat} {L : List (Use P)} {o : Oper}
  {K : Act → World → Prop} {Q : Exit → Act → World → Prop}

theorem snapL_eq (hp : List (Nat × Blk)) (ts : List Nat) : ∀ l : List V, snapL hp ts l = l.map (snap hp ts)
  | [] => by simp [snapL]
  | x :: r => by simp [snapL, snapL_eq hp ts r]
theorem renL_eq (ts : List Nat) (tk : Nat) : ∀ l : List V, renL ts tk l = l.map (ren ts tk)
  | [] => by simp [renL]
  | x :: r => by simp [renL, renL_eq ts tk r]
theorem mem_seenL (ts : List Nat) {t : Nat} : ∀ {l : List V} {x : V}, x ∈ l → t ∈ seen ts x → t ∈ seenL ts l
  | [], x, h, _ => by cases h
  | y :: r, x, h, ht => by
    rw [seenL]
    rcases List.mem_cons.1 h with rfl | h
    · exact List.mem_append_left _ ht
    · exact List.mem_append_right _ (mem_seenL ts h ht)
theorem tokLB_mem {n : Nat} : ∀ {l : List V} {x : V}, tokLB n l = true → x ∈ l → tokB n x = true
  | [], x, _, h => by cases h
  | y :: r, x, hb, h => by
    rw [tokLB, Bool.and_eq_true] at hb
    rcases List.mem_cons.1 h with rfl | h
    · exact hb.1
    · exact tokLB_mem hb.2 h
theorem flatL_mem : ∀ {l : List V} {x : V}, flatL l = true → x ∈ l → flat x = true
  | [], x, _, h => by cases h
  | y :: r, x, hb, h => by
    rw [flatL, Bool.and_eq_true] at hb
    rcases List.mem_cons.1 h with rfl | h
    · exact hb.1
    · exact flatL_mem hb.2 h
theorem tokBlks_mem {n : Nat} : ∀ {l : List Blk} {x : Blk}, tokBlks n l = true → x ∈ l → tokBlk n x = true
  | [], x, _, h => by cases h
  | y :: r, x, hb, h => by
    rw [tokBlks, Bool.and_eq_true] at hb
    rcases List.mem_cons.1 h with rfl | h
    · exact hb.1
    · exact tokBlks_mem hb.2 h
theorem flatBlks_mem : ∀ {l : List Blk} {x : Blk}, flatBlks l = true → x ∈ l → flatBlk x = true
  | [], x, _, h => by cases h
  | y :: r, x, hb, h => by
    rw [flatBlks, Bool.and_eq_true] at hb
    rcases List.mem_cons.1 h with rfl | h
    · exact hb.1
    · exact flatBlks_mem hb.2 h

theorem idx_some : ∀ {ts : List Nat} {t i : Nat}, idx ts t = some i → ts[i]? = some t
  | [], t, i, h => by cases h
  | x :: r, t, i, h => by
    simp only [idx] at h
    cases hb : x.beq t with
    | true =>
      rw [hb] at h
      obtain rfl := Option.some.inj h
      simp [Nat.eq_of_beq_eq_true hb]
    | false =>
      rw [hb] at h
      simp only [cond_false] at h
      cases hi : idx r t with
      | none => rw [hi] at h; cases h
      | some k =>
        rw [hi] at h
        obtain rfl := Option.some.inj h
        simpa using idx_some hi
theorem idx_none : ∀ {ts : List Nat} {t : Nat}, idx ts t = none → t ∉ ts
  | [], t, h => by simp
  | x :: r, t, h => by
    simp only [idx] at h
    cases hb : x.beq t with
    | true => rw [hb] at h; cases h
    | false =>
      rw [hb] at h
      simp only [cond_false, Option.map_eq_none_iff] at h
      intro hm
      rcases List.mem_cons.1 hm with e | hm
      · subst e; rw [beq_self] at hb; cases hb
      · exact idx_none h hm

/-- What the second tells no more than the first, holds of the same value. -/
theorem le_rel {C : Addr → Value → Prop} {x : V} {u : Value} (h : RV C m U x u) : ∀ {y : V}, le x y → RV C m U y u := by
  have any : ∀ u, RV C m U .any u := fun u => .any u
  have lists : ∀ (cs ds : List V), leL cs ds → cs.length = ds.length ∧ ∀ (k : Nat) (y : V), ds[k]? = some y → ∃ x, cs[k]? = some x ∧ le x y := by
    intro cs
    induction cs with
    | nil => intro ds h; cases ds with
      | nil => exact ⟨rfl, by simp⟩
      | cons d r => simp [leL] at h
    | cons c r ih => intro ds h; cases ds with
      | nil => simp [leL] at h
      | cons d r' =>
        simp only [leL] at h
        obtain ⟨h1, h2⟩ := ih r' h.2
        refine ⟨by simp [h1], fun k y hk => ?_⟩
        cases k with
        | zero => simp at hk; subst hk; exact ⟨c, by simp, h.1⟩
        | succ k => simpa using h2 k y (by simpa using hk)
  induction h with
  | @d x v h =>
    intro y hy
    cases y with
    | any => exact any _
    | d y =>
      simp only [le, leD] at hy
      rcases hy with rfl | ⟨rfl, rfl⟩
      · exact .d h
      · cases h
        exact .d (.lst [] none 0 0 (fun _ _ => undef) (Nat.le_refl _) (Nat.zero_le _) (by simp) (by simp) (by simp) (by simp))
    | _ => simp [le] at hy
  | own t h ho => intro y hy; cases y <;> simp only [le] at hy <;> first | exact any _ | (cases hy <;> exact .own t h ho)
  | ptr t off b h hm => intro y hy; cases y <;> simp only [le] at hy <;> first | exact any _ | (cases hy <;> exact .ptr t off b h hm)
  | ept t sz j k b n c h hm => intro y hy; cases y <;> simp only [le] at hy <;> first | exact any _ | (cases hy <;> exact .ept t sz j k b n c h hm)
  | ip cs ad cv h1 h2 h3 => intro y hy; cases y <;> simp only [le] at hy <;> first | exact any _ | (cases hy <;> exact .ip cs ad cv h1 h2 h3)
  | agg cs vs hl hO _ ih =>
    intro y hy
    cases y with
    | any => exact any _
    | agg ds =>
      simp only [le] at hy
      obtain ⟨e, h⟩ := lists cs ds hy
      exact .agg ds vs (by omega) hO fun k y u hk hu => by obtain ⟨x, hx, hle⟩ := h k y hk; exact ih k x u hx hu hle
    | _ => simp [le] at hy
  | tup cs vs hl _ ih =>
    intro y hy
    cases y with
    | any => exact any _
    | tup ds =>
      simp only [le] at hy
      obtain ⟨e, h⟩ := lists cs ds hy
      exact .tup ds vs (by omega) fun k y u hk hu => by obtain ⟨x, hx, hle⟩ := h k y hk; exact ih k x u hx hu hle
    | _ => simp [le] at hy
  | fn f cs vs hl _ ih =>
    intro y hy
    cases y with
    | any => exact any _
    | fn g ds =>
      simp only [le] at hy
      obtain ⟨rfl, hy⟩ := hy
      obtain ⟨e, h⟩ := lists cs ds hy
      exact .fn f ds vs (by omega) fun k y u hk hu => by obtain ⟨x, hx, hle⟩ := h k y hk; exact ih k x u hx hu hle
    | _ => simp [le] at hy
  | when b x v ht hf ih => intro y hy; cases y <;> simp only [le] at hy <;> first | exact any _ | (cases hy <;> exact .when b x v ht hf)
  | any v => intro y hy; cases y <;> simp [le] at hy; exact any _

theorem leL_get : ∀ {cs ds : List V}, leL cs ds → cs.length = ds.length ∧ ∀ (k : Nat) (y : V), ds[k]? = some y → ∃ x, cs[k]? = some x ∧ le x y
  | [], [], _ => ⟨rfl, by simp⟩
  | [], d :: r, h => by simp [leL] at h
  | c :: r, [], h => by simp [leL] at h
  | c :: r, d :: r', h => by
    simp only [leL] at h
    obtain ⟨h1, h2⟩ := leL_get h.2
    refine ⟨by simp [h1], fun k y hk => ?_⟩
    cases k with
    | zero => simp at hk; subst hk; exact ⟨c, by simp, h.1⟩
    | succ k => simpa using h2 k y (by simpa using hk)

/-- Tokens numbered anew; if a value leads to no memory, whatever cells stay. -/
theorem ren_rel {C C' : Addr → Value → Prop} {ts : List Nat} {n : Nat} (hm : ∀ i, i < n → m' (sig ts tk i) = m i) (hU : ∀ i, i < n → U' (sig ts tk i)) {x : V} {u : Value} (h : RV C m U x u) (ht : tokB n x = true) (hC : (∀ p v, C p v → C' p v) ∨ flat x = true) :
    RV C' m' U' (ren ts tk x) u := by
  induction h with
  | @d x v h =>
    rcases hC with hC | hf
    · exact .d (h.mono hC)
    · cases x with
      | lit c => cases h; exact .d (.lit _)
      | lst l => simp [flat] at hf
  | own t h ho =>
    have ht' : t < n := by simpa [tokB, Nat.blt_eq] using ht
    rw [← hm t ht']
    exact .own _ (hU t ht') (by rw [hm t ht']; exact ho)
  | ptr t off b h hm' =>
    have ht' : t < n := by simpa [tokB, Nat.blt_eq] using ht
    exact .ptr _ off b (hU t ht') ((hm t ht').trans hm')
  | ept t sz j k b n' c h hm' =>
    have ht' : t < n := by simpa [tokB, Nat.blt_eq] using ht
    exact .ept _ sz j k b n' c (hU t ht') ((hm t ht').trans hm')
  | ip cs ad cv h1 h2 h3 =>
    rcases hC with hC | hf
    · exact .ip cs ad cv (fun k x hk => hC _ _ (h1 k x hk)) h2 fun k x hk => (h3 k x hk).mono hC
    · simp [flat] at hf
  | agg cs vs hl hO h ih =>
    rw [ren, renL_eq]
    refine .agg _ vs (by simpa using hl) hO fun k y u hk hu => ?_
    rw [List.getElem?_map] at hk
    cases hx : cs[k]? with
    | none => rw [hx] at hk; cases hk
    | some x =>
      rw [hx] at hk
      obtain rfl := Option.some.inj hk
      have hmem := List.mem_of_getElem? hx
      exact ih k x u hx hu (tokLB_mem (by simpa [tokB] using ht) hmem) (hC.imp id fun hf => flatL_mem (by simpa [flat] using hf) hmem)
  | tup cs vs hl h ih =>
    rw [ren, renL_eq]
    refine .tup _ vs (by simpa using hl) fun k y u hk hu => ?_
    rw [List.getElem?_map] at hk
    cases hx : cs[k]? with
    | none => rw [hx] at hk; cases hk
    | some x =>
      rw [hx] at hk
      obtain rfl := Option.some.inj hk
      have hmem := List.mem_of_getElem? hx
      exact ih k x u hx hu (tokLB_mem (by simpa [tokB] using ht) hmem) (hC.imp id fun hf => flatL_mem (by simpa [flat] using hf) hmem)
  | fn f cs vs hl h ih =>
    rw [ren, renL_eq]
    refine .fn f _ vs (by simpa using hl) fun k y u hk hu => ?_
    rw [List.getElem?_map] at hk
    cases hx : cs[k]? with
    | none => rw [hx] at hk; cases hk
    | some x =>
      rw [hx] at hk
      obtain rfl := Option.some.inj hk
      have hmem := List.mem_of_getElem? hx
      exact ih k x u hx hu (tokLB_mem (by simpa [tokB] using ht) hmem) (hC.imp id fun hf => flatL_mem (by simpa [flat] using hf) hmem)
  | when b x v _ _ _ => exact .any v
  | any v => exact .any v

theorem tok_ren_id {x : V} (h : tokB 0 x = true) (ts : List Nat) (tk : Nat) : ren ts tk x = x := by
  have key : ∀ n (x : V), SizeOf.sizeOf x < n → tokB 0 x = true → ren ts tk x = x := by
    intro n
    induction n with
    | zero => intro x h; omega
    | succ n ih =>
      intro x hs hx
      have lst : ∀ cs : List V, SizeOf.sizeOf cs < n → tokLB 0 cs = true → renL ts tk cs = cs := by
        intro cs
        induction cs with
        | nil => intro _ _; rfl
        | cons c r ihr =>
          intro hs hb
          simp only [List.cons.sizeOf_spec] at hs
          rw [tokLB, Bool.and_eq_true] at hb
          rw [renL, ih c (by omega) hb.1, ihr (by omega) hb.2]
      cases x with
      | when b v => simp [tokB] at hx
      | own t => simp [tokB] at hx
      | ptr t o => simp [tokB] at hx
      | ept t a b c => simp [tokB] at hx
      | agg cs => simp only [V.agg.sizeOf_spec] at hs; rw [ren, lst cs (by omega) (by simpa [tokB] using hx)]
      | tup cs => simp only [V.tup.sizeOf_spec] at hs; rw [ren, lst cs (by omega) (by simpa [tokB] using hx)]
      | fn f cs => simp only [V.fn.sizeOf_spec] at hs; rw [ren, lst cs (by omega) (by simpa [tokB] using hx)]
      | _ => rfl
  exact key _ x (Nat.lt_succ_self _) h

end
end Go.Abs
