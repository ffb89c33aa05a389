/-
  Chapter 40: the walks over a meter, and the reference's sums.
-/
import Derived.Test.YtdmbdageohjodaaMrA
import Derived.Test.YtdmbdageohjodaaMixO
import Derived.Deep.DeepCutAuto
import Derived.IntWalk
namespace Go.Proofs.Ytdmbdageohjodaa
open Go.RowKit
set_option linter.unusedVariables false
set_option linter.unusedSimpArgs false
attribute [local irreducible] wpStill wpQuiet MixC.wpMix
attribute [local go_sem] MixC.rdOp MixC.rd MixC.rdUpon MixC.mvUpon

theorem sat40 (a b : Int) (w : World) (a0 : 0 ≤ a) (a1 : a ≤ 18446744073709551615) (b0 : 0 ≤ b) (b1 : b ≤ 18446744073709551615) :
    Calls Try.prog 85 #[.int .u64 a, .int .u64 b] w fun e w' => e = .returned (.int .u64 (satI a b)) ∧ w = w' := by
  unfold satI
  by_cases h : a + b ≤ 18446744073709551615
  · rw [if_pos h]
    go_enter Try.func85, Try.ntmps85
    go_wp2_with fail
    go_ret
    exact ⟨rfl, rfl⟩
  · rw [if_neg h]
    go_enter Try.func85, Try.ntmps85
    go_wp2_with fail
    go_ret
    exact ⟨rfl, rfl⟩
theorem rsat40 (a b : Int) (w : World) (a0 : 0 ≤ a) (a1 : a ≤ 18446744073709551615) (b0 : 0 ≤ b) (b1 : b ≤ 18446744073709551615) :
    Calls Try.prog 88 #[.int .u64 a, .int .u64 b] w fun e w' => e = .returned (.int .u64 (satI a b)) ∧ w = w' := by
  unfold satI
  by_cases h : a + b ≤ 18446744073709551615
  · rw [if_pos h]
    have hw : IntKind.u64.wrap (a + b) = a + b := by rw [IntKind.wrap_u64]; omega
    have hw2 : (a + b) % 18446744073709551616 = a + b := by omega
    go_enter Try.func88, Try.ntmps88
    go_wp2_with fail
    go_ret
    exact ⟨rfl, rfl⟩
  · rw [if_neg h]
    have hw : IntKind.u64.wrap (a + b) = a + b - 18446744073709551616 := by rw [IntKind.wrap_u64]; omega
    have hw2 : (a + b) % 18446744073709551616 = a + b - 18446744073709551616 := by omega
    have hd : decide (a + b - 18446744073709551616 < a) = true := by (simp; omega)
    go_enter Try.func88, Try.ntmps88
    go_wp2_with fail
    go_ret
    exact ⟨rfl, rfl⟩
theorem zc40 : Try.zeroCells148 = Array.replicate 64 (.int .u64 0) ++ #[.int .i64 0, .int .i64 0] := by kernel_rfl
/-- a meter -/
structure MSt (g W now : Nat) (L : Nat → Int) (w : World) : Prop where
  ex : ∃ cs : Array Value, w.heap[g]? = some (.cells cs 148 (0, 0)) ∧ cs.size = 66 ∧ (∀ i, i < 64 → cs[i]? = some (.int .u64 (L i))) ∧ cs[64]? = some (.int .i64 W) ∧ cs[65]? = some (.int .i64 now)
theorem MSt.keep {g W now : Nat} {L : Nat → Int} {w w' : World} (h : MSt g W now L w) (hb : Below w.heap.size w w') : MSt g W now L w' := by
  obtain ⟨cs, h1, h2⟩ := h.ex
  exact ⟨cs, Below.blk hb h1 (lt_of_block h1), h2⟩
theorem MSt.lt {g W now : Nat} {L : Nat → Int} {w : World} (h : MSt g W now L w) : g < w.heap.size := by
  obtain ⟨cs, h1, h2⟩ := h.ex
  exact lt_of_block h1
theorem MSt.set {g W now j : Nat} {L : Nat → Int} {w : World} (h : MSt g W now L w) (hj : j < 64) (x : Int) : MSt g W now (upd L j x) (w.setCell ⟨g, j, none⟩ (.int .u64 x)) := by
  obtain ⟨cs, h1, h2, h3, h4, h5⟩ := h.ex
  refine ⟨cs.setIfInBounds j (.int .u64 x), set_blk _ h1, by simp [h2], fun i hi => ?_, ?_, ?_⟩
  · rw [Array.getElem?_setIfInBounds]
    unfold upd
    by_cases e : j = i
    · subst e; rw [if_pos rfl, if_pos (by omega), if_pos rfl]
    · rw [if_neg e, if_neg (Ne.symm e)]; exact h3 i hi
  · rw [Array.getElem?_setIfInBounds, if_neg (by omega)]; exact h4
  · rw [Array.getElem?_setIfInBounds, if_neg (by omega)]; exact h5
theorem MSt.now {g W now : Nat} {L : Nat → Int} {w : World} (h : MSt g W now L w) (n : Nat) : MSt g W n L (w.setCell ⟨g, 65, none⟩ (.int .i64 n)) := by
  obtain ⟨cs, h1, h2, h3, h4, h5⟩ := h.ex
  refine ⟨cs.setIfInBounds 65 (.int .i64 n), set_blk _ h1, by simp [h2], fun i hi => ?_, ?_, ?_⟩
  · rw [Array.getElem?_setIfInBounds, if_neg (by omega)]; exact h3 i hi
  · rw [Array.getElem?_setIfInBounds, if_neg (by omega)]; exact h4
  · rw [Array.getElem?_setIfInBounds, if_pos rfl, if_pos (by omega)]
theorem MSt.us {g W now n : Nat} {L : Nat → Int} {w : World} (h : MSt g W now L w) (hn : n ≤ 64) (hb : ∀ i, i < 64 → 0 ≤ L i ∧ L i ≤ 18446744073709551615) : US w.heap.size w (some ⟨g, 0, none⟩) n L := by
  obtain ⟨cs, h1, h2, h3, h4, h5⟩ := h.ex
  exact ⟨fun i hi => hb i (by omega), g, 0, fun _ => ⟨rfl, lt_of_block h1⟩, fun i hi => by rw [Nat.zero_add, cell_blk h1]; exact h3 i (by omega)⟩
set_option maxHeartbeats 1000000 in
theorem newm_nil (n : Int) (w : World) (h : n < 1 ∨ 64 < n) : Calls Try.prog 43 #[.int .i64 n] w fun e w' => e = .returned (.pointer none) ∧ w = w' := by
  rcases h with h | h
  · have d1 : decide (n < 1) = true := by simpa using h
    go_enter Try.func43, Try.ntmps43
    go_wp2_with fail
    go_ret
    exact ⟨rfl, rfl⟩
  · have d1 : decide (n < 1) = false := by simp; omega
    have d2 : decide (64 < n) = true := by simpa using h
    go_enter Try.func43, Try.ntmps43
    go_wp2_with fail
    go_ret
    exact ⟨rfl, rfl⟩
set_option maxRecDepth 100000 in
set_option maxHeartbeats 2000000 in
theorem newm_any (W : Nat) (w : World) (h1 : 1 ≤ W) (h2 : W ≤ 64) : Calls Try.prog 43 #[.int .i64 W] w fun e w' => e = .returned (.pointer (some ⟨w.heap.size, 0, none⟩)) ∧ MSt w.heap.size W 0 (fun _ => 0) w' ∧ Below w.heap.size w w' := by
  have d1 : decide ((W : Int) < 1) = false := by simp; omega
  have d2 : decide (64 < (W : Int)) = false := by simp; omega
  go_enter Try.func43, Try.ntmps43
  go_wp2_with fail
  go_ret
  refine ⟨rfl, ⟨_, alloc_blk_new, rfl, fun i hi => ?_, rfl, rfl⟩, (Below.refl _ _).alloc (Nat.le_refl _) _⟩
  rw [Array.getElem?_setIfInBounds, if_neg (by omega), zc40]
  rw [Array.getElem?_append_left (by simpa using hi)]
  simp [hi]
set_option maxHeartbeats 1000000 in
theorem add_nil (x : Int) (w : World) : Calls Try.prog 44 #[.pointer none, .int .u64 x] w fun e w' => e = .returned (.tuple #[]) ∧ w = w' := by
  go_enter Try.func44, Try.ntmps44
  go_wp2_with fail
  go_end0
  exact ⟨rfl, rfl⟩
set_option maxRecDepth 100000 in
set_option maxHeartbeats 2000000 in
theorem add_any (g W now : Nat) (L : Nat → Int) (x : Int) (w : World) (h : MSt g W now L w) (hn : now < 64) (hb : ∀ i, i < 64 → 0 ≤ L i ∧ L i ≤ 18446744073709551615) (x0 : 0 ≤ x) (x1 : x ≤ 18446744073709551615) :
    Calls Try.prog 44 #[.pointer (some ⟨g, 0, none⟩), .int .u64 x] w fun e w' => e = .returned (.tuple #[]) ∧ MSt g W now (upd L now (satI (L now) x)) w' ∧ Keeps g w w' := by
  obtain ⟨cs, c0, c1, c2, c3, c4⟩ := h.ex
  have H := Lib.hid h
  have HC := Lib.hid c0
  have hl := hb now hn
  obtain ⟨l, hlx⟩ : ∃ l, L now = l := ⟨_, rfl⟩
  have cn := c2 now hn
  rw [hlx] at cn hl
  have HLX := Lib.hid hlx
  obtain ⟨l0, l1⟩ := hl
  have HS := Lib.hid (fun z => sat40 l x z l0 l1 x0 x1)
  obtain ⟨s, hs⟩ : ∃ s, satI l x = s := ⟨_, rfl⟩
  rw [hs] at HS
  have HSX := Lib.hid hs
  rw [hlx, hs]
  have hni : (now : Int) < 64 := by omega
  have G0 : Hid (HasO g (.cells cs 148 (0, 0)) w.drew) := Lib.hid c0
  have hne : Nonempty { w' : World // HasO g (.cells cs 148 (0, 0)) w' } := ⟨⟨_, G0.out⟩⟩
  have o1 : ∀ z : { w' : World // HasO g (.cells cs 148 (0, 0)) w' }, z.1.cell? ⟨g, 65, none⟩ = some (.int .i64 now) := fun z => by rw [cell_blk z.2]; exact c4
  have o2 : ∀ z : { w' : World // HasO g (.cells cs 148 (0, 0)) w' }, z.1.cell? ⟨g, now, none⟩ = some (.int .u64 l) := fun z => by rw [cell_blk z.2]; exact cn
  have s1 : w.cell? ⟨g, now, none⟩ = some (.int .u64 l) := by rw [cell_blk c0]; exact cn
  have s2 : w.frozen? ⟨g, now, none⟩ = false := free_blk c0
  clear h hb c0 c1 c2 c3 c4 cn hlx hs
  go_enter Try.func44, Try.ntmps44
  go_wp2_with fail
  refine MixC.wp_region_mix_tail 19 [] (HasO g (.cells cs 148 (0, 0))) G0.out (by kernel_rfl) (by kernel_rfl) (by kernel_rfl) ?_
  simp only [List.take_succ_cons, List.take_zero, List.drop_succ_cons, List.drop_zero]
  (iterate 15 (refine MixC.mix_read rfl (fun K hK => ?_); go_simp; refine hK _ ?_; clear hK K))
  refine MixC.mix_read rfl (fun K hK => ?_)
  go_simp
  refine ⟨.int .u64 s, fun y hy => (HS.out y).mono (fun e w1 h => ⟨h.1, h.2.symm⟩), hK _ ?_⟩
  clear hK K
  (iterate 3 (refine MixC.mix_read rfl (fun K hK => ?_); go_simp; refine hK _ ?_; clear hK K))
  refine MixC.mix_nil ?_
  clear o1 o2 hne
  go_wp2_with fail
  go_end0
  have := H.out.set hn s
  exact ⟨rfl, this.keep (Below.refl _ _).drew, ((Keeps.refl g w).setCell (.inl rfl) _).drew⟩
set_option maxHeartbeats 1000000 in
theorem tick_nil (w : World) : Calls Try.prog 45 #[.pointer none] w fun e w' => e = .returned (.tuple #[]) ∧ w = w' := by
  go_enter Try.func45, Try.ntmps45
  go_wp2_with fail
  go_returns
  exact ⟨rfl, rfl⟩
set_option maxRecDepth 100000 in
set_option maxHeartbeats 2000000 in
theorem tick_any (g W now : Nat) (L : Nat → Int) (w : World) (h : MSt g W now L w) (hn : now < W) (hW : W ≤ 64) :
    Calls Try.prog 45 #[.pointer (some ⟨g, 0, none⟩)] w fun e w' => e = .returned (.tuple #[]) ∧ MSt g W ((now + 1) % W) (upd L ((now + 1) % W) 0) w' ∧ Keeps g w w' := by
  obtain ⟨cs, c0, c1, c2, c3, c4⟩ := h.ex
  have H := Lib.hid h
  have hm : (now + 1) % W < W := Nat.mod_lt _ (by omega)
  have w2 : ((now : Int) + 1).tmod W = (((now + 1) % W : Nat) : Int) := by rw [Int.tmod_eq_emod_of_nonneg (by omega)]; push_cast; rfl
  obtain ⟨m, hmx⟩ : ∃ m, (now + 1) % W = m := ⟨_, rfl⟩
  rw [hmx] at hm w2 ⊢
  have hm64 : m < 64 := by omega
  have hmi : (m : Int) < 64 := by omega
  have w1 : IntKind.i64.wrap ((now : Int) + 1) = (now : Int) + 1 := IntWalk.i64_in _ (by omega)
  have hw0 : (W = 0) = False := eq_false (by omega)
  have hw3 : IntKind.i64.wrap (m : Int) = m := IntWalk.i64_in _ (by omega)
  have G0 : Hid (HasO g (.cells cs 148 (0, 0)) w.drew) := Lib.hid c0
  have hne : Nonempty { w' : World // HasO g (.cells cs 148 (0, 0)) w' } := ⟨⟨_, G0.out⟩⟩
  have o1 : ∀ z : { w' : World // HasO g (.cells cs 148 (0, 0)) w' }, z.1.cell? ⟨g, 65, none⟩ = some (.int .i64 now) := fun z => by rw [cell_blk z.2]; exact c4
  have o2 : ∀ z : { w' : World // HasO g (.cells cs 148 (0, 0)) w' }, z.1.cell? ⟨g, 64, none⟩ = some (.int .i64 W) := fun z => by rw [cell_blk z.2]; exact c3
  have s1 : w.cell? ⟨g, 65, none⟩ = some (.int .i64 now) := by rw [cell_blk c0]; exact c4
  have s2 : w.frozen? ⟨g, 65, none⟩ = false := free_blk c0
  clear h c0 c1 c2 c3 c4 hmx
  go_enter Try.func45, Try.ntmps45
  go_wp2_with fail
  refine MixC.wp_region_mix_tail 13 [] (HasO g (.cells cs 148 (0, 0))) G0.out (by kernel_rfl) (by kernel_rfl) (by kernel_rfl) ?_
  simp only [List.take_succ_cons, List.take_zero, List.drop_succ_cons, List.drop_zero]
  (iterate 13 (refine MixC.mix_read rfl (fun K hK => ?_); go_simp; refine hK _ ?_; clear hK K))
  refine MixC.mix_nil ?_
  clear o1 o2 hne
  go_upto_region 2 with (fail)
  clear s1 s2 w1 w2
  have H1 := H.out.now m
  have K1 : Keeps g w (w.setCell ⟨g, 65, none⟩ (.int .i64 m)) := (Keeps.refl g w).setCell (.inl rfl) _
  generalize hX : World.setCell w _ _ = X at H1 K1 ⊢
  clear hX
  have HK1 := Lib.hid K1
  obtain ⟨cs2, c0, c1, c2, c3, c4⟩ := H1.ex
  have HH := Lib.hid H1
  have G1 : Hid (HasO g (.cells cs2 148 (0, 0)) X.drew) := Lib.hid c0
  have hne : Nonempty { w' : World // HasO g (.cells cs2 148 (0, 0)) w' } := ⟨⟨_, G1.out⟩⟩
  have o1 : ∀ z : { w' : World // HasO g (.cells cs2 148 (0, 0)) w' }, z.1.cell? ⟨g, 65, none⟩ = some (.int .i64 m) := fun z => by rw [cell_blk z.2]; exact c4
  have s1 : X.cell? ⟨g, m, none⟩ = some (.int .u64 (L m)) := by rw [cell_blk c0]; exact c2 m hm64
  have s2 : X.frozen? ⟨g, m, none⟩ = false := free_blk c0
  clear c0 c1 c2 c3 c4 H1 K1
  refine MixC.wp_region_mix_tail 8 [] (HasO g (.cells cs2 148 (0, 0))) G1.out (by kernel_rfl) (by kernel_rfl) (by kernel_rfl) ?_
  simp only [List.take_succ_cons, List.take_zero, List.drop_succ_cons, List.drop_zero]
  (iterate 8 (refine MixC.mix_read rfl (fun K hK => ?_); go_simp; refine hK _ ?_; clear hK K))
  refine MixC.mix_nil ?_
  clear o1 hne
  go_wp2_with fail
  go_end0
  exact ⟨rfl, (HH.out.set hm64 0).keep (Below.refl _ _).drew.drew, (HK1.out.setCell (.inl rfl) _).drew.drew⟩
set_option maxRecDepth 100000 in
set_option maxHeartbeats 2000000 in
theorem sum40_any (B : Nat) (a : Option Addr) (n c : Nat) (Z : Nat → Int) (w : World) (h : US B w a n Z) (hn : n ≤ 100000) :
    Calls Try.prog 86 #[.slice a n c] w fun e w' => e = .returned (.int .u64 (satN Z n)) ∧ w = w' := by
  have HU := Lib.hid h
  clear h
  go_enter Try.func86, Try.ntmps86
  go_wp2_with fail
  go_loop [3, 8] (fun s3 s8 => ∃ (k : Nat) (s : Int), k ≤ n ∧ s8 = .int .i64 k ∧ s3 = .int .u64 s ∧ 0 ≤ s ∧ s ≤ 18446744073709551615 ∧ Hid (satN Z k = s)) (fun _ s8 => n - (intOf s8).toNat)
  case atStart => exact ⟨0, 0, by omega, rfl, rfl, by omega, by omega, Lib.hid rfl⟩
  case round =>
    obtain ⟨k, s, hk, rfl, rfl, s0, s1, HS⟩ := hrel
    by_cases hlt : k < n
    · obtain ⟨hbd, b, off, hp, hc⟩ := HU.out
      obtain ⟨rfl, _⟩ := hp (by omega)
      have cz := hc k hlt
      have zb := hbd k hlt
      obtain ⟨z, hz⟩ : ∃ z, Z k = z := ⟨_, rfl⟩
      rw [hz] at cz zb
      have HN : Hid (satN Z (k + 1) = satI s z) := Lib.hid (by show satI (satN Z k) (Z k) = _; rw [HS.out, hz])
      obtain ⟨z0, z1⟩ := zb
      have hsb := satI_bd s z s0 z0
      have hki : (k : Int) < n := by omega
      obtain ⟨y, hy⟩ : ∃ y, satI s z = y := ⟨_, rfl⟩
      have HC := Lib.hid (sat40 s z w s0 s1 z0 z1)
      rw [hy] at HN HC hsb
      clear hbd hp hc hz hy
      go_wp2_with fail
      refine HC.out.mono ?_
      rintro e w' ⟨rfl, rfl⟩
      go_wp2_with fail
      go_round
      case rel => exact ⟨k + 1, y, by omega, by go_num, rfl, hsb.1, hsb.2, HN⟩
      case measure => simp [intOf] <;> omega
    · obtain rfl : n = k := by omega
      clear hlt
      go_wp2_with fail
      go_ret
      exact ⟨by rw [HS.out]; rfl, rfl⟩
set_option maxRecDepth 100000 in
set_option maxHeartbeats 2000000 in
theorem max40_any (B : Nat) (a : Option Addr) (n c : Nat) (Z : Nat → Int) (w : World) (h : US B w a n Z) (h1 : 1 ≤ n) (hn : n ≤ 100000) :
    Calls Try.prog 87 #[.slice a n c] w fun e w' => e = .returned (.int .u64 (maxN Z n)) ∧ w = w' := by
  obtain ⟨hbd, b, off, hp, hc⟩ := h
  obtain ⟨rfl, _⟩ := hp (by omega)
  have c0 := hc 0 (by omega)
  have zb0 := hbd 0 (by omega)
  have hm1 : maxN Z 1 = Z 0 := by show max 0 (Z 0) = _; omega
  obtain ⟨z0, hz0⟩ : ∃ z0, Z 0 = z0 := ⟨_, rfl⟩
  rw [hz0] at c0 zb0 hm1
  rw [Nat.add_zero] at c0
  have HC := Lib.hid hc
  have HB := Lib.hid hbd
  have H1 := Lib.hid hm1
  have hn0 : (0 : Int) < n := by omega
  have hn0' : 0 < n := by omega
  clear hbd hc hp hz0 hm1
  go_enter Try.func87, Try.ntmps87
  go_wp2_with fail
  go_loop [3, 4] (fun s3 s4 => ∃ (k : Nat) (s : Int), 1 ≤ k ∧ k ≤ n ∧ s4 = .int .i64 k ∧ s3 = .int .u64 s ∧ Hid (maxN Z k = s)) (fun _ s4 => n - (intOf s4).toNat)
  case atStart => exact ⟨1, z0, by omega, h1, rfl, rfl, H1⟩
  case round =>
    obtain ⟨k, s, hk1, hk, rfl, rfl, HS⟩ := hrel
    by_cases hlt : k < n
    · have cz := HC.out k hlt
      obtain ⟨z, hz⟩ : ∃ z, Z k = z := ⟨_, rfl⟩
      rw [hz] at cz
      have HN : Hid (maxN Z (k + 1) = if s < z then z else s) := Lib.hid (by show max (maxN Z k) (Z k) = _; rw [HS.out, hz, Int.max_def]; split <;> split <;> omega)
      have hki : (k : Int) < n := by omega
      clear hz c0
      go_wp2_with fail
      go_round
      case rel => exact ⟨k + 1, _, by omega, by omega, by go_num, rfl, HN⟩
      case measure => simp [intOf] <;> omega
    · obtain rfl : n = k := by omega
      clear hlt c0
      go_wp2_with fail
      go_ret
      exact ⟨by rw [HS.out]; rfl, rfl⟩
set_option maxHeartbeats 1000000 in
theorem sumM_nil (w : World) : Calls Try.prog 46 #[.pointer none] w fun e w' => e = .returned (.int .u64 0) ∧ w = w' := by
  go_enter Try.func46, Try.ntmps46
  go_wp2_with fail
  go_ret
  exact ⟨rfl, rfl⟩
set_option maxHeartbeats 1000000 in
theorem peakM_nil (w : World) : Calls Try.prog 47 #[.pointer none] w fun e w' => e = .returned (.int .u64 0) ∧ w = w' := by
  go_enter Try.func47, Try.ntmps47
  go_wp2_with fail
  go_ret
  exact ⟨rfl, rfl⟩
set_option maxRecDepth 100000 in
set_option maxHeartbeats 2000000 in
theorem sumM_any (g W now : Nat) (L : Nat → Int) (w : World) (h : MSt g W now L w) (h1 : 1 ≤ W) (hW : W ≤ 64) (hb : ∀ i, i < 64 → 0 ≤ L i ∧ L i ≤ 18446744073709551615) :
    Calls Try.prog 46 #[.pointer (some ⟨g, 0, none⟩)] w fun e w' => e = .returned (.int .u64 (satN L W)) ∧ Below w.heap.size w w' := by
  obtain ⟨cs, c0, c1, c2, c3, c4⟩ := h.ex
  have HS : Hid (∀ z, HasO g (.cells cs 148 (0, 0)) z → Calls Try.prog 86 #[.slice (some ⟨g, 0, none⟩) W 64] z fun e w' => e = .returned (.int .u64 (satN L W)) ∧ z = w') := Lib.hid (fun z hz => sum40_any z.heap.size _ W 64 L z ((⟨⟨cs, hz, c1, c2, c3, c4⟩⟩ : MSt g W now L z).us hW hb) (by omega))
  obtain ⟨s, hs⟩ : ∃ s, satN L W = s := ⟨_, rfl⟩
  rw [hs] at HS ⊢
  have G0 : Hid (HasO g (.cells cs 148 (0, 0)) w.drew) := Lib.hid c0
  have hne : Nonempty { w' : World // HasO g (.cells cs 148 (0, 0)) w' } := ⟨⟨_, G0.out⟩⟩
  have o1 : ∀ z : { w' : World // HasO g (.cells cs 148 (0, 0)) w' }, z.1.cell? ⟨g, 64, none⟩ = some (.int .i64 W) := fun z => by rw [cell_blk z.2]; exact c3
  have hWi : (W : Int) ≤ 64 := by omega
  have hW0 : (0 : Int) ≤ W := by omega
  clear h c0 c1 c2 c3 c4 hs hb
  go_enter Try.func46, Try.ntmps46
  go_wp2_with fail
  refine MixC.wp_region_mix [] (HasO g (.cells cs 148 (0, 0))) G0.out (by kernel_rfl) (by kernel_rfl) (by kernel_rfl) ?_
  (iterate 8 (refine MixC.mix_read rfl (fun K hK => ?_); go_simp; refine hK _ ?_; clear hK K))
  refine MixC.mix_read rfl (fun K hK => ?_)
  go_simp
  refine ⟨.int .u64 s, fun y hy => (HS.out y hy).mono (fun e w1 h => ⟨h.1, h.2.symm⟩), hK _ ?_⟩
  clear hK K
  (refine MixC.mix_read rfl (fun K hK => ?_); go_simp; refine hK _ ?_; clear hK K)
  refine MixC.mix_nil ?_
  clear o1 hne
  go_wp2_with fail
  go_ret
  exact ⟨rfl, (Below.refl _ _).drew⟩
set_option maxRecDepth 100000 in
set_option maxHeartbeats 2000000 in
theorem peakM_any (g W now : Nat) (L : Nat → Int) (w : World) (h : MSt g W now L w) (h1 : 1 ≤ W) (hW : W ≤ 64) (hb : ∀ i, i < 64 → 0 ≤ L i ∧ L i ≤ 18446744073709551615) :
    Calls Try.prog 47 #[.pointer (some ⟨g, 0, none⟩)] w fun e w' => e = .returned (.int .u64 (maxN L W)) ∧ Below w.heap.size w w' := by
  obtain ⟨cs, c0, c1, c2, c3, c4⟩ := h.ex
  have HS : Hid (∀ z, HasO g (.cells cs 148 (0, 0)) z → Calls Try.prog 87 #[.slice (some ⟨g, 0, none⟩) W 64] z fun e w' => e = .returned (.int .u64 (maxN L W)) ∧ z = w') := Lib.hid (fun z hz => max40_any z.heap.size _ W 64 L z ((⟨⟨cs, hz, c1, c2, c3, c4⟩⟩ : MSt g W now L z).us hW hb) h1 (by omega))
  obtain ⟨s, hs⟩ : ∃ s, maxN L W = s := ⟨_, rfl⟩
  rw [hs] at HS ⊢
  have G0 : Hid (HasO g (.cells cs 148 (0, 0)) w.drew) := Lib.hid c0
  have hne : Nonempty { w' : World // HasO g (.cells cs 148 (0, 0)) w' } := ⟨⟨_, G0.out⟩⟩
  have o1 : ∀ z : { w' : World // HasO g (.cells cs 148 (0, 0)) w' }, z.1.cell? ⟨g, 64, none⟩ = some (.int .i64 W) := fun z => by rw [cell_blk z.2]; exact c3
  have hWi : (W : Int) ≤ 64 := by omega
  have hW0 : (0 : Int) ≤ W := by omega
  clear h c0 c1 c2 c3 c4 hs hb
  go_enter Try.func47, Try.ntmps47
  go_wp2_with fail
  refine MixC.wp_region_mix [] (HasO g (.cells cs 148 (0, 0))) G0.out (by kernel_rfl) (by kernel_rfl) (by kernel_rfl) ?_
  (iterate 8 (refine MixC.mix_read rfl (fun K hK => ?_); go_simp; refine hK _ ?_; clear hK K))
  refine MixC.mix_read rfl (fun K hK => ?_)
  go_simp
  refine ⟨.int .u64 s, fun y hy => (HS.out y hy).mono (fun e w1 h => ⟨h.1, h.2.symm⟩), hK _ ?_⟩
  clear hK K
  (refine MixC.mix_read rfl (fun K hK => ?_); go_simp; refine hK _ ?_; clear hK K)
  refine MixC.mix_nil ?_
  clear o1 hne
  go_wp2_with fail
  go_ret
  exact ⟨rfl, (Below.refl _ _).drew⟩
set_option maxRecDepth 100000 in
set_option maxHeartbeats 2000000 in
theorem rsumM_any (B : Nat) (a : Option Addr) (len c : Nat) (Z : Nat → Int) (n : Int) (w : World) (h : US B w a len Z) (hn : len ≤ 100000) (n0 : 0 ≤ n) (n1 : n ≤ 100000) :
    Calls Try.prog 48 #[.slice a len c, .int .i64 n] w fun e w' => e = .returned (.int .u64 (satN (msk Z n len) len)) ∧ w = w' := by
  have HU := Lib.hid h
  clear h
  have w1 : IntKind.i64.wrap ((len : Int) - n) = (len : Int) - n := IntWalk.i64_in _ (by omega)
  go_enter Try.func48, Try.ntmps48
  go_wp2_with fail
  go_loop [5, 6] (fun s5 s6 => ∃ (k : Nat) (s : Int), k ≤ len ∧ s6 = .int .i64 k ∧ s5 = .int .u64 s ∧ 0 ≤ s ∧ s ≤ 18446744073709551615 ∧ Hid (satN (msk Z n len) k = s)) (fun _ s6 => len - (intOf s6).toNat)
  case atStart => exact ⟨0, 0, by omega, rfl, rfl, by omega, by omega, Lib.hid rfl⟩
  case round =>
    obtain ⟨k, s, hk, rfl, rfl, s0, s1, HS⟩ := hrel
    by_cases hlt : k < len
    · obtain ⟨hbd, b, off, hp, hc⟩ := HU.out
      obtain ⟨rfl, _⟩ := hp (by omega)
      have cz := hc k hlt
      have zb := hbd k hlt
      obtain ⟨z, hz⟩ : ∃ z, Z k = z := ⟨_, rfl⟩
      rw [hz] at cz zb
      obtain ⟨z0, z1⟩ := zb
      have hsb := satI_bd s z s0 z0
      have hki : (k : Int) < len := by omega
      by_cases hin : (len : Int) ≤ k + n
      · have d1 : decide ((len : Int) - n ≤ k) = true := by simp; omega
        obtain ⟨y, hy⟩ : ∃ y, satI s z = y := ⟨_, rfl⟩
        have HN : Hid (satN (msk Z n len) (k + 1) = y) := Lib.hid (by show satI (satN _ k) (msk Z n len k) = _; rw [HS.out]; unfold msk; rw [if_pos hin, hz, hy])
        have HC := Lib.hid (rsat40 s z w s0 s1 z0 z1)
        rw [hy] at HC hsb
        clear hbd hp hc hz hy hin
        go_wp2_with fail
        refine HC.out.mono ?_
        rintro e w' ⟨rfl, rfl⟩
        go_wp2_with fail
        go_round
        case rel => exact ⟨k + 1, y, by omega, by go_num, rfl, hsb.1, hsb.2, HN⟩
        case measure => simp [intOf] <;> omega
      · have d1 : decide ((len : Int) - n ≤ k) = false := by simp; omega
        have HN : Hid (satN (msk Z n len) (k + 1) = s) := Lib.hid (by show satI (satN _ k) (msk Z n len k) = _; rw [HS.out]; unfold msk; rw [if_neg hin]; unfold satI; rw [if_pos (by omega)]; omega)
        clear hbd hp hc hz hin
        go_wp2_with fail
        go_round
        case rel => exact ⟨k + 1, s, by omega, by go_num, rfl, s0, s1, HN⟩
        case measure => simp [intOf] <;> omega
    · obtain rfl : len = k := by omega
      clear hlt
      go_wp2_with fail
      go_ret
      exact ⟨by rw [HS.out]; rfl, rfl⟩
set_option maxRecDepth 100000 in
set_option maxHeartbeats 2000000 in
theorem rpeakM_any (B : Nat) (a : Option Addr) (len c : Nat) (Z : Nat → Int) (n : Int) (w : World) (h : US B w a len Z) (hn : len ≤ 100000) (n0 : 0 ≤ n) (n1 : n ≤ 100000) :
    Calls Try.prog 49 #[.slice a len c, .int .i64 n] w fun e w' => e = .returned (.int .u64 (maxN (msk Z n len) len)) ∧ w = w' := by
  have HU := Lib.hid h
  clear h
  have w1 : IntKind.i64.wrap ((len : Int) - n) = (len : Int) - n := IntWalk.i64_in _ (by omega)
  go_enter Try.func49, Try.ntmps49
  go_wp2_with fail
  go_loop [5, 6] (fun s5 s6 => ∃ (k : Nat) (s : Int), k ≤ len ∧ s6 = .int .i64 k ∧ s5 = .int .u64 s ∧ 0 ≤ s ∧ Hid (maxN (msk Z n len) k = s)) (fun _ s6 => len - (intOf s6).toNat)
  case atStart => exact ⟨0, 0, by omega, rfl, rfl, by omega, Lib.hid rfl⟩
  case round =>
    obtain ⟨k, s, hk, rfl, rfl, s0, HS⟩ := hrel
    by_cases hlt : k < len
    · obtain ⟨hbd, b, off, hp, hc⟩ := HU.out
      obtain ⟨rfl, _⟩ := hp (by omega)
      have cz := hc k hlt
      have zb := hbd k hlt
      obtain ⟨z, hz⟩ : ∃ z, Z k = z := ⟨_, rfl⟩
      rw [hz] at cz zb
      obtain ⟨z0, z1⟩ := zb
      have hki : (k : Int) < len := by omega
      by_cases hin : (len : Int) ≤ k + n
      · have d1 : decide ((len : Int) - n ≤ k) = true := by simp; omega
        by_cases hsz : s < z
        · have d2 : decide (s < z) = true := by simpa using hsz
          have HN : Hid (maxN (msk Z n len) (k + 1) = z) := Lib.hid (by show max (maxN _ k) (msk Z n len k) = _; rw [HS.out]; unfold msk; rw [if_pos hin, hz]; omega)
          clear hbd hp hc hz hin
          go_wp2_with fail
          go_round
          case rel => exact ⟨k + 1, z, by omega, by go_num, rfl, z0, HN⟩
          case measure => simp [intOf] <;> omega
        · have d2 : decide (s < z) = false := by simpa using hsz
          have HN : Hid (maxN (msk Z n len) (k + 1) = s) := Lib.hid (by show max (maxN _ k) (msk Z n len k) = _; rw [HS.out]; unfold msk; rw [if_pos hin, hz]; omega)
          clear hbd hp hc hz hin
          go_wp2_with fail
          go_round
          case rel => exact ⟨k + 1, s, by omega, by go_num, rfl, s0, HN⟩
          case measure => simp [intOf] <;> omega
      · have d1 : decide ((len : Int) - n ≤ k) = false := by simp; omega
        have HN : Hid (maxN (msk Z n len) (k + 1) = s) := Lib.hid (by show max (maxN _ k) (msk Z n len k) = _; rw [HS.out]; unfold msk; rw [if_neg hin]; omega)
        clear hbd hp hc hz hin
        go_wp2_with fail
        go_round
        case rel => exact ⟨k + 1, s, by omega, by go_num, rfl, s0, HN⟩
        case measure => simp [intOf] <;> omega
    · obtain rfl : len = k := by omega
      clear hlt
      go_wp2_with fail
      go_ret
      exact ⟨by rw [HS.out]; rfl, rfl⟩
end Go.Proofs.Ytdmbdageohjodaa
