/- What library functions do, as contracts over abstract values. slices.Sort and strings.Split as contracts over abstract values. No conditions. -/
import Derived.Test.YtninaiooagfjfaaGreatDoorK21
import Derived.Test.YtninaiooagfjfaaGreatDoorK22
import Derived.Shelf.SlicesE.Clone
import Derived.Lib.AppendIntMem
import Derived.Lib.SortBridge
set_option linter.unusedVariables false
set_option linter.unusedSimpArgs false
namespace Go.Abs
open Go Go.RowKit Go.Proofs

section
variable {P : Program} {Γ : Ctx} {hp : List (Nat × Blk)} {U : Nat → Prop} {w w' : World} {m : Nat → Value}

theorem RelH.below (H : RelH Γ hp U w m) (hB : Below w.heap.size w w') : RelH Γ hp U w' m := by
  refine ⟨fun t b hb => (H.hb t b hb).mono (fun p v hc => ⟨(World.cell?_of_block (w := w) (hB.block _ hc.lt)).trans hc.cell, hc.notF, hc.far⟩) (fun _ _ => rfl) (fun _ h => h) (H.lt t b hb) (fun g hg => hB.block g ((H.hb t b hb).lt hg)), H.sep, H.lt, H.new, H.old, H.n0, H.nF, H.hF, H.keeps.grown (fun g hg => hB.block g hg) hB.size hB.os hB.tape hB.output⟩

theorem args1 {C : Addr → Value → Prop} {x : V} {us : Array Value} (hl : [x].length = us.size) (h : ∀ (k : Nat) (y : V) (u : Value), [x][k]? = some y → us[k]? = some u → RV C m U y u) : ∃ u, us = #[u] ∧ RV C m U x u := by
  have hs : us.size = 1 := by simpa using hl.symm
  have hu : us[0]? = some (us[0]'(by omega)) := by simp [hs]
  refine ⟨us[0]'(by omega), ?_, h 0 _ _ rfl hu⟩
  apply Array.ext (by simp [hs])
  intro i h1 h2
  have : i = 0 := by omega
  subst this; simp
theorem args2 {C : Addr → Value → Prop} {x y : V} {us : Array Value} (hl : [x, y].length = us.size) (h : ∀ (k : Nat) (z : V) (u : Value), [x, y][k]? = some z → us[k]? = some u → RV C m U z u) : ∃ u v, us = #[u, v] ∧ RV C m U x u ∧ RV C m U y v := by
  have hs : us.size = 2 := by simpa using hl.symm
  have hu : us[0]? = some (us[0]'(by omega)) := by simp [hs]
  have hv : us[1]? = some (us[1]'(by omega)) := by simp [hs]
  refine ⟨us[0]'(by omega), us[1]'(by omega), ?_, h 0 _ _ rfl hu, h 1 _ _ rfl hv⟩
  apply Array.ext (by simp [hs])
  intro i h1 h2
  have : i = 0 ∨ i = 1 := by omega
  rcases this with rfl | rfl <;> simp

/-- A slice of numbers that is read. -/
theorem ints_cells {F : Nat → Prop} {l : List Int} {u : Value} (h : RV (Cw F hp m w) m U (.d (ints l)) u) : ∃ A c, u = .slice A l.length c ∧ (l = [] ∨ ∃ b off, A = some ⟨b, off, none⟩ ∧ ∀ j, j < l.length → w.cell? ⟨b, off + j, none⟩ = some (.int .i64 (l.getD j 0))) := by
  cases h with
  | d h =>
    generalize hL : l.map encI = L at h
    unfold ints at h
    rw [hL] at h
    cases h with
    | lst _ A c sz cv hc hm hsz hA hO hR =>
      subst hL
      refine ⟨A, c, by rw [List.length_map], ?_⟩
      cases l with
      | nil => exact .inl rfl
      | cons x r =>
        right
        have one : sz = 1 := by rw [← hsz (encI x) (by simp)]; rfl
        subst one
        obtain ⟨ad, rfl, hC⟩ := hA 0 (encI x) rfl 0 (i64 x) rfl
        have hC := hC.cell
        have e0 : ad.add (0 * 1 + 0) = ad := by simp [Addr.add]
        rw [e0] at hC
        have hspot : ad.spot = none := by
          unfold World.cell? at hC
          split at hC
          · split at hC
            · cases hC
            · rename_i h; cases hs : ad.spot with
              | none => rfl
              | some _ => rw [hs] at h; exact absurd rfl h
          · cases hC
        refine ⟨ad.block, ad.off, by cases ad; simp only at hspot; rw [hspot], fun j hj => ?_⟩
        have hrow : ((x :: r).map encI)[j]? = some (encI ((x :: r)[j]'hj)) := by rw [List.getElem?_map, List.getElem?_eq_getElem hj]; rfl
        obtain ⟨ad', e, hC'⟩ := hA j _ hrow 0 _ rfl
        obtain rfl := Option.some.inj e
        have hd := hR j _ hrow 0 _ rfl
        cases hd' : cv j 0 <;> rw [hd'] at hd <;> cases hd
        have := hC'.cell
        rw [hd'] at this
        have e1 : ad.add (j * 1 + 0) = ⟨ad.block, ad.off + j, none⟩ := by
          cases ad; simp only at hspot; subst hspot
          simp [Addr.add]
        rw [e1] at this
        rw [this, List.getD_eq_getElem?_getD, List.getElem?_eq_getElem hj]; rfl

theorem own_row {e sz : Nat} {l : List (List D)} {v : Value} {xs : List Value} {B : Nat} (h : w.ownsRow B e sz v l.length xs) : w.ownsRow 0 e sz v l.length xs := by
  refine ⟨h.1, ?_⟩
  rcases h.2 with h | ⟨g, cap, cur, h1, _, h3⟩
  · exact .inl h
  · exact .inr ⟨g, cap, cur, h1, Nat.zero_le _, h3⟩
theorem own_blk {e sz n : Nat} {v : Value} {xs : List Value} {B : Nat} (h : w.ownsRow B e sz v n xs) (g : Nat) (hg : blkOf v = some g) : B ≤ g := by
  rcases h.2 with ⟨rfl, _⟩ | ⟨g', cap, cur, rfl, h2, _⟩
  · cases hg
  · simp only [blkOf, Option.some.injEq] at hg; omega
end

theorem f114_walk (n : Int) (h0 : -9223372036854775808 ≤ n) (h1 : n ≤ 9223372036854775807) : CallsA Tryz.prog 114 [.d (i64 n), .d (i64 10)] [] (.d (str ⟨(Lib.itoa n).toArray⟩)) [] := by
  intro w m nt F us hG H hl ha
  obtain ⟨u, v, rfl, hu, hv⟩ := args2 hl ha
  rw [hu.lit_inv, hv.lit_inv]
  refine (Tryz.strconv_FormatInt_10 n h0 h1 w hG.2.2.1).mono fun e w' he => ?_
  obtain ⟨rfl, k, os, rfl⟩ := he
  exact ⟨_, m, _, rfl, H.below (Lib.below_grow _ w (Nat.le_refl _) k os), .d (.lit _)⟩
theorem f115_walk (n : Int) (h0 : -9223372036854775808 ≤ n) (h1 : n ≤ 9223372036854775807) : CallsA Tryz.prog 115 [.d (i64 n)] [] (.d (str ⟨(Lib.itoa n).toArray⟩)) [] := by
  intro w m nt F us hG H hl ha
  obtain ⟨u, rfl, hu⟩ := args1 hl ha
  rw [hu.lit_inv]
  refine (Tryz.strconv_Itoa n h0 h1 w hG.2.2.1).mono fun e w' he => ?_
  obtain ⟨rfl, k, os, rfl⟩ := he
  exact ⟨_, m, _, rfl, H.below (Lib.below_grow _ w (Nat.le_refl _) k os), .d (.lit _)⟩
theorem f24_walk (l : List Int) (x : Int) (hl63 : l.length ≤ 9223372036854775807) : CallsA Tryz.prog 24 [.d (ints l), .d (i64 x)] [] (.d (boo (l.contains x))) [] := by
  intro w m nt F us hG H hl ha
  obtain ⟨u, v, rfl, hu, hv⟩ := args2 hl ha
  rw [hv.lit_inv]
  obtain ⟨A, c, rfl, hc⟩ := ints_cells hu
  rcases hc with rfl | ⟨b, off, rfl, hc⟩
  · refine (Tryz.slices_Contains_int_empty A c x w).mono fun e w' he => ?_
    obtain ⟨rfl, rfl⟩ := he
    exact ⟨_, m, _, rfl, H, .d (.lit _)⟩
  · refine (Tryz.slices_Contains_int b off l.length c l x w (Nat.le_refl _) hl63 hc).mono fun e w' he => ?_
    obtain ⟨rfl, rfl⟩ := he
    rw [List.take_length]
    exact ⟨_, m, _, rfl, H, .d (.lit _)⟩
/-- A new row that a library function hands back. -/
theorem own_new {w w' : World} {m : Nat → Value} {nt : Nat} {F : Nat → Prop} (H : RelH ⟨w, ([] : List Blk).length, m, nt, F⟩ (enum [] 0) (fun t => t < ([] : List Blk).length) w m) {e sz : Nat} {l : List (List D)} {v' : Value} {xs : List Value}
    (hown : w'.ownsRow w.heap.size e sz v' l.length xs) (hB : Below w.heap.size w w') (hsz : ∀ row ∈ l, row.length = sz) (hO : ∀ u ∈ xs, u.oneCell' = true)
    (hd : ∀ (j : Nat) (row : List D), l[j]? = some row → ∀ (k : Nat) (x : D), row[k]? = some x → ∃ v, xs[j * sz + k]? = some v ∧ RD (Cw F (enum [] 0) m w) x v) :
    ∃ m' U', RelH ⟨w, ([] : List Blk).length, m, nt, F⟩ (enum [.row e sz l] 0) U' w' m' ∧ RV (Cw F (enum [.row e sz l] 0) m' w') m' U' (.own 0) v' := by
  have hone : v'.oneCell' = true := by rcases hown.2 with ⟨rfl, _⟩ | ⟨_, _, _, rfl, _⟩ <;> rfl
  have h0 : ¬ (fun t => t < ([] : List Blk).length) 0 := by simp
  refine ⟨upm m 0 v', also (fun t => t < ([] : List Blk).length) 0, H.more (tk := 0) h0 (own_blk hown) (fun g hg => hB.block g hg) hB.size hB.os hB.tape hB.output ?_, ?_⟩
  · refine ⟨xs, by rw [upm_self]; exact own_row hown, hsz, hO, fun j row hj k x hk => ?_⟩
    obtain ⟨v, hv, hr⟩ := hd j row hj k x hk
    exact ⟨v, hv, hr.mono fun p u hc => Cw.more H h0 (own_blk hown) (fun g hg => hB.block g hg) p u hc⟩
  · have := RV.own (C := Cw F (enum [.row e sz l] 0) (upm m 0 v') w') (m := upm m 0 v') (U := also (fun t => t < ([] : List Blk).length) 0) 0 (.inr rfl) (by rw [upm_self]; exact hone)
    rwa [upm_self] at this

open Go.Shelf Go.Lib in
set_option maxHeartbeats 2000000 in
set_option maxRecDepth 100000 in
/-- slices.Clone, wherever the elements lie. -/
theorem cloneE {P : Program} {ρ : Ren} (L : SlLaysE0.n41 P ρ) (i0 : TypeInfo) (z : Value) (size bytes : Nat) (hi : P.info? (ρ.t 23) = some i0) (hz0 : i0.zero = some z) (hz1 : i0.size = size) (hz2 : i0.bytes = bytes) (hzs : z.cells.size = size) (hsz : 0 < size)
    (a : Addr) (n c : Nat) (news : List Value) (w : World) (hl : news.length = n * size) (hn : n ≤ maxLen) (hbig : n * bytes ≤ 140737488355328)
    (hc : ∀ j u, news[j]? = some u → w.cell? (a.add j) = some u) (h1 : ∀ u ∈ news, u.oneCell' = true) :
    Calls P (ρ.f 41) #[.slice (some a) n c] w fun e w' => ∃ v', e = .returned v' ∧ w'.ownsRow w.heap.size (ρ.t 23) size v' n news ∧ Below w.heap.size w w' := by
  have mixed := L.mixed; have t4 := L.t4; have a4 := L.a4; have z4 := L.z4; have v4 := L.v4; have t22 := L.t22; have a22 := L.a22; have z22 := L.z22; have v22 := L.v22
  have q22 : ∀ (w : World) (a : Option Addr) (n c n' c' : Nat), (binOp .eql (ρ.t 22) (.slice a n c) (.slice none n' c')).run P w = .ok (.bool a.isNone) w := fun w a n c n' c' => Lib.run_eql_slice_nil w _ _ a n c n' c' L.t22
  have u22 : ∀ w, Sem.run P (underlying (ρ.t 22)) w = .ok (TypeDesc.slice (ρ.t 23)) w := run_underlying t22
  have z23 : ∀ w, (Go.sizeOf (ρ.t 23)).run P w = .ok size w := fun w => by simp [Go.sizeOf, typeInfo, hi, hz1]
  have A : Aside (∀ j u, news[j]? = some u → w.cell? (a.add j) = some u) := hc
  clear hc
  obtain ⟨_, _, FG⟩ := L.f41
  go_enter FG, SlBodyN.n41_ntmps ρ
  go_wp2_with (at_builtin; refine wpList_append_own _ rfl _ _ (ρ.t 22) rfl w.heap.size (ρ.t 23) i0 z size bytes t22 hi hz0 hz1 hz2 hzs hsz _ _ _ rfl (World.ownsRow_made w #[] 0 (Nat.le_refl _) (Nat.zero_le _) (by simp)) a n c news rfl ?qc1 ?qc2 ?qc3 ?qc4 ?qc5 ?qc6 ?_)
  case qc1 => exact hl
  case qc2 =>
    intro j u hj
    exact Lib.cell?_alloc_some _ (A.out j u hj)
  case qc3 => exact h1
  case qc4 => rw [Nat.zero_add]; exact hn
  case qc5 => rw [Nat.zero_add]; exact hbig
  case qc6 => simp
  intro v' w1 hown hgrow hnil
  go_wp2
  go_ret
  refine ⟨v', rfl, by simpa using hown, ?_⟩
  exact ((Below.refl _ w).alloc (Nat.le_refl _) _).grown hgrow (by simp) (by intro k hk; simp [Value.ownBlock] at hk; omega)

open Go.Shelf in
def Tryz.cloneR_ren : Go.Shelf.Ren := ⟨fun | 41 => 66 | n => n, fun | 22 => 22 | 23 => 49 | 4 => 4 | n => n, fun | n => n⟩
open Go.Shelf in
theorem Tryz.cloneR : SlLaysE0.n41 Tryz.prog Tryz.cloneR_ren := {
  mixed := by kernel_rfl
  f41 := ⟨Tryz.f66.name, by decide, Tryz.func66.trans (congrArg some (by kernel_rfl))⟩
  t4 := Tryz.underlying4
  a4 := Tryz.isAgg4
  z4 := Tryz.sizeOf4
  v4 := Tryz.zeroValue4
  t22 := Tryz.underlying22
  a22 := Tryz.isAgg22
  z22 := Tryz.sizeOf22
  v22 := Tryz.zeroValue22 }
open Go.Shelf in
def Tryz.cloneI_ren : Go.Shelf.Ren := ⟨fun | 41 => 60 | n => n, fun | 22 => 25 | 23 => 3 | 4 => 4 | n => n, fun | n => n⟩
open Go.Shelf in
theorem Tryz.cloneI : SlLaysE0.n41 Tryz.prog Tryz.cloneI_ren := {
  mixed := by kernel_rfl
  f41 := ⟨Tryz.f60.name, by decide, Tryz.func60.trans (congrArg some (by kernel_rfl))⟩
  t4 := Tryz.underlying4
  a4 := Tryz.isAgg4
  z4 := Tryz.sizeOf4
  v4 := Tryz.zeroValue4
  t22 := Tryz.underlying25
  a22 := Tryz.isAgg25
  z22 := Tryz.sizeOf25
  v22 := Tryz.zeroValue25 }

theorem clone_walk {P : Program} {ρ : Go.Shelf.Ren} (L : SlLaysE0.n41 P ρ) (sz b : Nat) (hr : rowT P (ρ.t 23) = some (sz, b)) (l : List (List D)) (hsz : ∀ row ∈ l, row.length = sz) (hbig : l.length * b ≤ 140737488355328) :
    CallsA P (ρ.f 41) [.d (.lst l)] [] (.own 0) [.row (ρ.t 23) sz l] := by
  intro w m nt F us hG H hl ha
  obtain ⟨u, rfl, hu⟩ := args1 hl ha
  obtain ⟨i, z, hi, hz, hs, hb, hzs, hs0, hb0⟩ := rowT_eq hr
  obtain ⟨A, c, vals, rfl, hvl, hvc, hv1, hvd⟩ := rows_cells H hu (show rowsV (enum [] 0) (.d (.lst l)) = some l from rfl) hsz hs0
  cases A with
  | none =>
    have h0 : l = [] := by
      cases l with
      | nil => rfl
      | cons x r =>
        have : 0 < vals.length := by rw [hvl]; exact Nat.mul_pos (by simp) hs0
        obtain ⟨ad, e, _⟩ := hvc 0 (vals[0]'this) (by simp)
        cases e
    subst h0
    refine (AnyE.slices_Clone_nil L _ c w).mono fun e w' he => ?_
    obtain ⟨rfl, rfl⟩ := he
    obtain ⟨m', U', r1, r2⟩ := own_new (e := ρ.t 23) (sz := sz) (l := []) (v' := .slice none 0 0) (xs := []) H (World.ownsRow_nil _ _ _ _) (Below.refl _ _) hsz (by simp) (by simp)
    exact ⟨_, m', U', rfl, r1, r2⟩
  | some a =>
    have hlen : l.length ≤ maxLen := by
      have := Nat.le_mul_of_pos_right l.length hb0
      simp only [maxLen]; omega
    refine (cloneE L i z sz b hi hz hs hb hzs hs0 a l.length c vals w hvl hlen hbig (fun j u hj => by obtain ⟨ad, e, h⟩ := hvc j u hj; obtain rfl := Option.some.inj e; exact h) hv1).mono fun e w' he => ?_
    obtain ⟨v', rfl, h1, h3⟩ := he
    obtain ⟨m', U', r1, r2⟩ := own_new H h1 h3 hsz hv1 hvd
    exact ⟨_, m', U', rfl, r1, r2⟩

theorem f60_walk (l : List Int) (hbig : l.length * 8 ≤ 140737488355328) : CallsA Tryz.prog 60 [.d (ints l)] [] (.own 0) [.row 3 1 (l.map encI)] :=
  clone_walk Tryz.cloneI 1 8 ty_rowT_3 _ (fun row hrow => by obtain ⟨x, _, rfl⟩ := List.mem_map.1 hrow; rfl) (by rw [List.length_map]; exact hbig)
theorem f66_walk (l : List Rec) (hbig : l.length * 32 ≤ 140737488355328) : CallsA Tryz.prog 66 [.d (recs l)] [] (.own 0) [.row 49 3 (l.map encRec)] :=
  clone_walk Tryz.cloneR 3 32 ty_rowT_49 _ (fun row hrow => by obtain ⟨x, _, rfl⟩ := List.mem_map.1 hrow; rfl) (by rw [List.length_map]; exact hbig)
end Go.Abs

set_option linter.unusedVariables false
set_option linter.unusedSimpArgs false
namespace Go.Abs
open Go Go.RowKit Go.Proofs

def sorted (l : List Int) : List Int := l.mergeSort fun x y => decide (x ≤ y)

theorem encI_get (l : List Int) (j : Nat) (row : List D) (h : (l.map encI)[j]? = some row) (k : Nat) (x : D) (hk : row[k]? = some x) : k = 0 ∧ ∃ z, l[j]? = some z ∧ x = i64 z := by
  rw [List.getElem?_map] at h
  cases hj : l[j]? with
  | none => rw [hj] at h; cases h
  | some z =>
    rw [hj] at h
    obtain rfl := Option.some.inj h
    cases k with
    | zero => simp [encI] at hk; exact ⟨rfl, z, rfl, hk.symm⟩
    | succ k => simp [encI] at hk

theorem f88_walk (l : List Int) (hl : l.length < 4611686018427387904) : CallsA Tryz.prog 88 [.own 0] [.row 3 1 (l.map encI)] (.tup []) [.row 3 1 ((sorted l).map encI)] := by
  intro w m nt F us hGood H hlen hargs
  have hs : us.size = 1 := by simpa using hlen.symm
  have hu : us[0]? = some (us[0]'(by omega)) := by simp [hs]
  have h0 := hargs 0 _ _ rfl hu
  have hus : us = #[us[0]'(by omega)] := by
    apply Array.ext (by simp [hs])
    intro i h1 h2
    have : i = 0 := by omega
    subst this; simp
  rw [hus]
  generalize us[0]'(by omega) = u at h0
  have hsz : (sorted l).length = l.length := List.length_mergeSort ..
  cases h0 with
  | own _ ht ho =>
    have h00 : lk (enum [.row 3 1 (l.map encI)] 0) 0 = some (.row 3 1 (l.map encI)) := by simp [enum, lk]
    obtain ⟨xs, hown, hrow, hO, hv⟩ := H.hb 0 _ h00
    rw [List.length_map] at hown
    have hxs : ∀ j, j < l.length → xs[j]? = some (.int .i64 (l.getD j 0)) := fun j hj => by
      obtain ⟨u, hu, hr⟩ := hv j (encI l[j]) (by simp [hj]) 0 (i64 l[j]) (by simp [encI])
      rw [Nat.mul_one, Nat.add_zero] at hu
      cases hr
      rw [hu]; simp [hj]
    rcases hown.2 with ⟨e1, e2⟩ | ⟨g, cap, cur, e1, _, hg, hle, hcap, hcs, htake⟩
    · obtain rfl : l = [] := List.eq_nil_of_length_eq_zero e2
      rw [e1]
      refine (Tryz.slices_Sort_int_none none 0 w).mono fun e w' he => ?_
      obtain ⟨rfl, rfl⟩ := he
      have e : sorted [] = [] := by simp [sorted]
      rw [e]
      exact ⟨_, m, _, rfl, H, .tup [] #[] rfl (by simp)⟩
    · have hgl : g < w.heap.size := by
        rcases Nat.lt_or_ge g w.heap.size with h | h
        · exact h
        · rw [Array.getElem?_eq_none h] at hg; cases hg
      rw [Nat.mul_one] at htake hcs
      have hcur : ∀ j, j < l.length → cur[j]? = some (.int .i64 (l.getD j 0)) := fun j hj => by
        rw [← hxs j hj, ← htake, List.getElem?_take, if_pos hj]; simp
      have hH : Go.Sort.Holds (Value.int .i64) w g 0 l.toArray := fun j hj => by
        have hj : j < l.length := by simpa using hj
        have hjc : j < cur.size := by omega
        have h1 := hcur j hj
        refine ⟨?_, ?_⟩
        · simp only [World.cell?, hg, Nat.zero_add]
          rw [h1]; simp [hj]
        · simp [World.frozen?, hg]
      rw [e1]
      refine (Tryz.slices_Sort_int g 0 cap l w hH hgl hl).mono fun e w' he => ?_
      obtain ⟨rfl, q, os, hw⟩ := he
      rw [Lib.sorted_world _ w g 0 q _ _ os hH (by simp [List.length_mergeSort]), show (l.mergeSort fun x y => decide (x ≤ y)) = sorted l from rfl] at hw
      have hg' : (w.drewN q).heap[g]? = some (.cells cur 3 (0, 0)) := hg
      obtain ⟨cur', r1, r2, r3⟩ := setCells_row ((sorted l).map (Value.int .i64)) 0 (w.drewN q) cur hg' (by simp [hsz]; omega)
      obtain ⟨s1, s2, s3, s4⟩ := setCells_same g ((sorted l).map (Value.int .i64)) 0 (w.drewN q)
      have hold : ∀ g', g' < w.heap.size → w'.heap[g']? = ((w.drewN q).setCells g 0 ((sorted l).map (Value.int .i64))).heap[g']? := fun g' hg2 => by
        rw [hw]; exact Go.Sort.heap_grow_old _ os (by rw [s4]; exact hg2)
      have HW := H.written (w' := w') (k := 0) (g := g) (b' := .row 3 1 ((sorted l).map encI)) h00 (by rw [e1]; rfl) (fun g' h1 h2 => by rw [hold g' h1, setCells_far _ _ _ h2]; rfl) (by rw [hw, Go.Sort.size_grow, s4]; exact Nat.le_add_right _ _)
        (by rw [hw]; exact s1) (by rw [hw]; exact s2) (by rw [hw]; exact s3) ⟨(sorted l).map (Value.int .i64), ⟨by simp, .inr ⟨g, cap, cur', by rw [e1]; simp [hsz], Nat.zero_le _, by rw [hold g hgl]; exact r1, by simp [hsz]; exact hle, hcap, by omega, ?_⟩⟩, ints_len _, ?_, ?_⟩
      · exact ⟨_, m, _, rfl, HW, .tup [] #[] rfl (by simp)⟩
      · rw [r3]; simp [hsz]
      · intro u hu
        obtain ⟨z, _, rfl⟩ := List.mem_map.1 hu
        rfl
      · intro j row hj k x hk
        obtain ⟨rfl, z, hz, rfl⟩ := encI_get _ j row hj k x hk
        exact ⟨.int .i64 z, by simp [hz], .lit _⟩

def encS (s : ByteArray) : List D := [str s]
def strs (l : List ByteArray) : D := .lst (l.map encS)
def splitL (s sep : ByteArray) : List ByteArray := Lib.splitB sep 0 (Lib.countB s sep) s
theorem f59_walk (s sep : ByteArray) (hs : s.size < 4294967281) (h1 : 1 ≤ sep.size) (hlen : (splitL s sep).length = Lib.countB s sep + 1) (hmax : (splitL s sep).length ≤ maxLen) : CallsA Tryz.prog 59 [.d (str s), .d (str sep)] [] (.own 0) [.row 9 1 ((splitL s sep).map encS)] := by
  intro w m nt F us hG H hl ha
  obtain ⟨u, v, rfl, hu, hv⟩ := args2 hl ha
  rw [hu.lit_inv, hv.lit_inv]
  obtain ⟨z, hm⟩ := hG.2.2.2
  refine (Tryz.strings_Split s sep z w hs hm h1).mono fun e w' he => ?_
  obtain ⟨rfl, rfl⟩ := he
  rw [← hlen]


  have hown : (w.alloc (.cells ((splitL s sep).map Value.string).toArray 9)).ownsRow w.heap.size 9 1 (.slice (some ⟨w.heap.size, 0, none⟩) ((splitL s sep).map encS).length (splitL s sep).length) ((splitL s sep).map encS).length ((splitL s sep).map Value.string) := by
    refine ⟨by simp, .inr ⟨w.heap.size, (splitL s sep).length, _, rfl, Nat.le_refl _, heap_alloc_new w _, by simp, hmax, by simp, ?_⟩⟩
    simp only [List.length_map, Nat.mul_one]
    exact List.take_of_length_le (by simp)
  obtain ⟨m', U', r1, r2⟩ := own_new (l := (splitL s sep).map encS) H hown ((Below.refl _ w).alloc (Nat.le_refl _) _) (fun row h => by obtain ⟨x, _, rfl⟩ := List.mem_map.1 h; rfl) (fun u hu => by obtain ⟨x, _, rfl⟩ := List.mem_map.1 hu; rfl) (fun j row hj k x hk => by
    rw [List.getElem?_map] at hj
    cases hj' : (splitL s sep)[j]? with
    | none => rw [hj'] at hj; cases hj
    | some z =>
      rw [hj'] at hj
      obtain rfl := Option.some.inj hj
      cases k with
      | zero =>
        simp only [encS, List.getElem?_cons_zero, Option.some.injEq] at hk
        subst hk
        exact ⟨.string z, by simp [hj'], .lit _⟩
      | succ k => simp [encS] at hk)
  rw [List.length_map] at r2
  exact ⟨_, m', U', rfl, r1, r2⟩
end Go.Abs
