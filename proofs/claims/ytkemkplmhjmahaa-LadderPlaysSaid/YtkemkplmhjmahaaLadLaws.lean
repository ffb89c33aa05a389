/-
  The walks of LadderNone, LadderGood and LadderDecays.
-/
import Derived.Test.YtkemkplmhjmahaaLad
namespace Go.Proofs.Ytkemkplmhjmahaa
open Go.RowKit
set_option linter.unusedVariables false
set_option linter.unusedSimpArgs false

set_option maxHeartbeats 2000000 in
theorem alive21_any (w : World) : Calls Try.prog 15 #[] w fun e w' => e = .returned (.bool true) ∧ Below w.heap.size w w' := by
  go_enter Try.func15, Try.ntmps15
  go_wp2_with fail
  refine (lnew_any 2 4 10 _ (by decide) (by decide) (by decide) (by decide)).mono ?_
  rintro e w1 ⟨g, rfl, q1, g1, b1⟩
  go_wp2_with fail
  refine (lstrike_any _ _ _ _ _ _ _ 2 _ g1 (by decide) (by decide) (by decide)).mono ?_
  rintro e w2 ⟨rfl, g2', k2⟩
  have g2 : ldr w2 g 2 4 10 2 10 0 := g2'
  have b2 := Below.keeps b1 b1.size q1 k2
  clear g2' k2 g1 b1
  go_wp2_with fail
  refine (lstate_any _ _ _ _ _ _ _ _ g2).mono ?_
  rintro e w3 ⟨rfl, b⟩
  have g3 : ldr w3 g 2 4 10 2 10 0 := Below.blk b g2 g2.lt
  have b3 := b2.trans (b.mono b2.size)
  rw [show stOf 2 2 0 = 1 from rfl]
  clear b g2 b2
  go_wp2_with fail
  go_loopw [3] (fun si wr => ∃ (k : Nat) (n l : Int), k ≤ 10 ∧ si = .int .i64 k ∧ ldr wr g 2 4 10 n l 0 ∧ Below w.heap.size w wr ∧ Hid ((k < 10 → n = 2 ∧ l = 10 - k) ∧ (k = 10 → n = 1 ∧ l = 10))) (fun si _ => 10 - (intOf si).toNat)
  case atStart => exact ⟨0, 2, 10, by omega, rfl, g3, b3, Lib.hid ⟨fun _ => ⟨rfl, by omega⟩, fun h => by omega⟩⟩
  case round =>
    obtain ⟨k, n, l, hk, rfl, hgr, hbel, HI⟩ := hrel
    by_cases hlt : k < 10
    · obtain ⟨hn, hl⟩ := HI.out.1 hlt
      have n2 : n ≤ 2 ∧ 2 ≤ n := by omega
      have l2 : 1 ≤ l ∧ l ≤ 10 := by omega
      have HI2 : Hid ((k + 1 < 10 → tkN n l = 2 ∧ tkL 10 l = 10 - ((k + 1 : Nat) : Int)) ∧ (k + 1 = 10 → tkN n l = 1 ∧ tkL 10 l = 10)) := by
        refine Lib.hid ⟨fun h => ?_, fun h => ?_⟩
        · simp [tkN, tkL, hn, hl, show (1 : Int) < 10 - k by omega]; omega
        · have : ¬ (1 : Int) < 10 - k := by omega
          simp [tkN, tkL, hn, hl, this]; omega
      clear hn hl
      go_wp2_with fail
      refine (ltick_any _ _ _ _ _ _ _ hgr (by omega) (by omega) (by omega) (by omega)).mono ?_
      rintro e w4 ⟨rfl, g4, k4⟩
      have b4 := Below.keeps hbel hbel.size q1 k4
      clear hgr hbel k4 HI
      go_wp2_with fail
      go_roundw
      case rel => exact ⟨k + 1, _, _, by omega, by go_num, g4, b4, HI2⟩
      case measure => simp [intOf] <;> omega
    · obtain rfl : k = 10 := by omega
      obtain ⟨rfl, rfl⟩ := HI.out.2 rfl
      clear HI g3 b3
      go_wp2_with fail
      refine (lstate_any _ _ _ _ _ _ _ _ hgr).mono ?_
      rintro e w4 ⟨rfl, b⟩
      have g4 : ldr w4 g 2 4 10 1 10 0 := Below.blk b hgr hgr.lt
      have b4 := hbel.trans (b.mono hbel.size)
      rw [show stOf 2 1 0 = 0 from rfl]
      clear b hgr hbel
      go_wp2_with fail
      refine (lstrike_any _ _ _ _ _ _ _ 4 _ g4 (by decide) (by decide) (by decide)).mono ?_
      rintro e w5 ⟨rfl, g5', k5⟩
      have g5 : ldr w5 g 2 4 10 5 10 1 := g5'
      have b5 := Below.keeps b4 b4.size q1 k5
      clear g5' k5 g4 b4
      go_wp2_with fail
      go_loopw [5] (fun si wr => ∃ (k : Nat), k ≤ 100 ∧ si = .int .i64 k ∧ ldr wr g 2 4 10 5 10 1 ∧ Below w.heap.size w wr) (fun si _ => 100 - (intOf si).toNat)
      case atStart => exact ⟨0, by omega, rfl, g5, b5⟩
      case round =>
        obtain ⟨k, hk, rfl, hgr, hbel⟩ := hrel
        by_cases hlt : k < 100
        · go_wp2_with fail
          refine (ltick_shut _ _ _ _ _ _ _ hgr).mono ?_
          rintro e w6 ⟨rfl, b⟩
          have g6 : ldr w6 g 2 4 10 5 10 1 := Below.blk b hgr hgr.lt
          have b6 := hbel.trans (b.mono hbel.size)
          clear hgr hbel b
          go_wp2_with fail
          go_roundw
          case rel => exact ⟨k + 1, by omega, by go_num, g6, b6⟩
          case measure => simp [intOf] <;> omega
        · go_wp2_with fail
          refine (lstate_any _ _ _ _ _ _ _ _ hgr).mono ?_
          rintro e w6 ⟨rfl, b⟩
          have b6 := hbel.trans (b.mono hbel.size)
          rw [show stOf 2 5 1 = 2 from rfl]
          clear b hgr hbel
          go_wp2_with fail
          go_ret
          exact ⟨rfl, b6⟩

theorem LadderNone.walk (n : Int) (w : World) (w0 : (Lit.int .i64 n).wf = true) :
    Calls Try.prog 6 #[.int .i64 n] w fun e w' => e = .returned (.bool true) ∧ Below w.heap.size w w' := by
  go_enter Try.func6, Try.ntmps6
  go_wp2_with (first | (go_at_call 15; refine (alive21_any _).mono ?_; rintro e w' ⟨rfl, hb⟩) | go_in)
  go_ret
  exact ⟨rfl, hb⟩

theorem rungs_of {w : World} {v : Value} (h : ArgS Try.prog w 23 v) : ∃ S H D, v = .agg #[.int .i64 S, .int .i64 H, .int .i64 D] ∧ (-9223372036854775808 ≤ S ∧ S ≤ 9223372036854775807) ∧ (-9223372036854775808 ≤ H ∧ H ≤ 9223372036854775807) ∧ (-9223372036854775808 ≤ D ∧ D ≤ 9223372036854775807) := by
  obtain ⟨cs, rfl, h⟩ := h
  obtain ⟨hs, hc⟩ := h 6 [3, 3, 2] (by kernel_rfl)
  obtain ⟨x0, h0, r0⟩ := hc 0 3 rfl
  obtain ⟨x1, h1, r1⟩ := hc 1 3 rfl
  obtain ⟨x2, h2, r2⟩ := hc 2 2 rfl
  obtain ⟨m0, rfl, k0⟩ := reads_int Try.underlying3 r0
  obtain ⟨m1, rfl, k1⟩ := reads_int Try.underlying3 r1
  obtain ⟨m2, rfl, k2⟩ := reads_int Try.underlying2 r2
  obtain rfl := arr3 hs h0 h1 h2
  exact ⟨m0, m1, m2, rfl, bounds_i64 k0, bounds_i64 k1, bounds_i64 k2⟩
theorem rmay_yes (S H D : Int) (w : World) (h1 : 1 ≤ S) (h2 : S < H) (h3 : H ≤ 1000) (h4 : 1 ≤ D) :
    Calls Try.prog 17 #[.agg #[.int .i64 S, .int .i64 H, .int .i64 D]] w fun e w' => e = .returned (.bool true) ∧ Below w.heap.size w w' := by
  have e1 : decide (1 ≤ S) = true := by simpa using h1
  have e2 : decide (S < H) = true := by simpa using h2
  have e3 : decide (H ≤ 1000) = true := by simpa using h3
  have e4 : decide (1 ≤ D) = true := by simpa using h4
  go_enter Try.func17, Try.ntmps17
  go_wp2
  go_ret
  exact ⟨rfl, by (repeat (first | exact Below.refl _ _ | refine Below.alloc ?_ (by first | (simp; done) | (simp; omega) | (simp [size_drewN]; done) | (simp [size_drewN]; omega)) _ | refine Below.drew ?_ | refine below_drewN0 ?_ _ | refine Below.setCell ?_ (by first | (simp; done) | (simp; omega) | (simp [size_drewN]; done) | (simp [size_drewN]; omega)) _))⟩
theorem rmay_no (S H D : Int) (w : World) (h : ¬ (1 ≤ S ∧ S < H ∧ H ≤ 1000 ∧ 1 ≤ D)) :
    Calls Try.prog 17 #[.agg #[.int .i64 S, .int .i64 H, .int .i64 D]] w fun e w' => e = .returned (.bool false) ∧ Below w.heap.size w w' := by
  by_cases h1 : ¬ (1 ≤ S)
  · have e1 : decide (1 ≤ S) = false := by simpa using h1
    go_enter Try.func17, Try.ntmps17
    go_wp2
    go_ret
    exact ⟨rfl, by (repeat (first | exact Below.refl _ _ | refine Below.alloc ?_ (by first | (simp; done) | (simp; omega) | (simp [size_drewN]; done) | (simp [size_drewN]; omega)) _ | refine Below.drew ?_ | refine below_drewN0 ?_ _ | refine Below.setCell ?_ (by first | (simp; done) | (simp; omega) | (simp [size_drewN]; done) | (simp [size_drewN]; omega)) _))⟩
  have h1 := Classical.not_not.1 h1
  have e1 : decide (1 ≤ S) = true := by simpa using h1
  by_cases h2 : ¬ (S < H)
  · have e2 : decide (S < H) = false := by simpa using h2
    go_enter Try.func17, Try.ntmps17
    go_wp2
    go_ret
    exact ⟨rfl, by (repeat (first | exact Below.refl _ _ | refine Below.alloc ?_ (by first | (simp; done) | (simp; omega) | (simp [size_drewN]; done) | (simp [size_drewN]; omega)) _ | refine Below.drew ?_ | refine below_drewN0 ?_ _ | refine Below.setCell ?_ (by first | (simp; done) | (simp; omega) | (simp [size_drewN]; done) | (simp [size_drewN]; omega)) _))⟩
  have h2 := Classical.not_not.1 h2
  have e2 : decide (S < H) = true := by simpa using h2
  by_cases h3 : ¬ (H ≤ 1000)
  · have e3 : decide (H ≤ 1000) = false := by simpa using h3
    go_enter Try.func17, Try.ntmps17
    go_wp2
    go_ret
    exact ⟨rfl, by (repeat (first | exact Below.refl _ _ | refine Below.alloc ?_ (by first | (simp; done) | (simp; omega) | (simp [size_drewN]; done) | (simp [size_drewN]; omega)) _ | refine Below.drew ?_ | refine below_drewN0 ?_ _ | refine Below.setCell ?_ (by first | (simp; done) | (simp; omega) | (simp [size_drewN]; done) | (simp [size_drewN]; omega)) _))⟩
  have h3 := Classical.not_not.1 h3
  have e3 : decide (H ≤ 1000) = true := by simpa using h3
  have e4 : decide (1 ≤ D) = false := by simp; omega
  clear h
  go_enter Try.func17, Try.ntmps17
  go_wp2
  go_ret
  exact ⟨rfl, by (repeat (first | exact Below.refl _ _ | refine Below.alloc ?_ (by first | (simp; done) | (simp; omega) | (simp [size_drewN]; done) | (simp [size_drewN]; omega)) _ | refine Below.drew ?_ | refine below_drewN0 ?_ _ | refine Below.setCell ?_ (by first | (simp; done) | (simp; omega) | (simp [size_drewN]; done) | (simp [size_drewN]; omega)) _))⟩

set_option maxHeartbeats 2000000 in
theorem LadderGood.walk (v : Value) (t : Int) (w : World) (a0 : ArgS Try.prog w 23 v) (w0 : (Lit.int .u8 t).wf = true) :
    Calls Try.prog 3 #[v, .int .u8 t] w fun e w' => e = .returned (.bool true) ∧ Below w.heap.size w w' := by
  obtain ⟨S, H, D, rfl, hS, hH, hD⟩ := rungs_of a0
  have ht := bounds_u8 w0
  clear a0 w0
  go_enter Try.func3, Try.ntmps3
  go_wp2_with fail
  refine (alive21_any _).mono ?_
  rintro e w1 ⟨rfl, hb1⟩
  have p0 : w1.heap[w.heap.size]? = some (.cells #[.int .i64 S, .int .i64 H, .int .i64 D] 23 (0, 0)) := Below.blk hb1 alloc_blk_new (by simp)
  have B1 : Below w.heap.size w w1 := ((Below.refl _ _).alloc (Nat.le_refl _) _).trans (hb1.mono (by simp))
  have sz1 : w.heap.size < w1.heap.size := lt_of_block p0
  clear hb1
  have c0 : w1.cell? ⟨w.heap.size, 0, none⟩ = some (.int .i64 S) := cell_blk p0
  have c1 : w1.cell? ⟨w.heap.size, 1, none⟩ = some (.int .i64 H) := cell_blk p0
  have c2 : w1.cell? ⟨w.heap.size, 2, none⟩ = some (.int .i64 D) := cell_blk p0
  by_cases hm : ¬ (1 ≤ S ∧ S < H ∧ H ≤ 1000 ∧ 1 ≤ D)
  · go_wp2_with fail
    refine (lnew_no _ _ _ _ hm).mono ?_
    rintro e w2 ⟨rfl, hb2⟩
    have p2 := Below.blk hb2 p0 sz1
    have B2 := B1.trans (hb2.mono B1.size)
    have k0 : w2.cell? ⟨w.heap.size, 0, none⟩ = some (.int .i64 S) := cell_blk p2
    have k1 : w2.cell? ⟨w.heap.size, 1, none⟩ = some (.int .i64 H) := cell_blk p2
    have k2 : w2.cell? ⟨w.heap.size, 2, none⟩ = some (.int .i64 D) := cell_blk p2
    clear c0 c1 c2 hb2 p0 B1
    have HM := Lib.hid hm
    clear hm
    go_wp2_with fail
    refine (rmay_no _ _ _ _ HM.out).mono ?_
    rintro e w3 ⟨rfl, hb3⟩
    have B3 := B2.trans (hb3.mono B2.size)
    go_wp2_with fail
    go_ret
    exact ⟨rfl, B3⟩
  obtain ⟨h1, h2, h3, h4⟩ := Classical.not_not.1 hm
  clear hm
  go_wp2_with fail
  refine (lnew_any _ _ _ _ h1 h2 h3 h4).mono ?_
  rintro e w2 ⟨g, rfl, q2, g2, hb2⟩
  have B2 := B1.trans (hb2.mono B1.size)
  have q1 : w.heap.size ≤ g := by omega
  clear c0 c1 c2 hb2 p0 B1
  go_wp2_with fail
  go_loopw [6] (fun si wr => ∃ (k : Nat) (l : Int), k ≤ t ∧ si = .int .i64 k ∧ ldr wr g S H D 0 l 0 ∧ Below w.heap.size w wr ∧ 1 ≤ l ∧ l ≤ 9223372036854775807) (fun si _ => (t - intOf si).toNat)
  case atStart => exact ⟨0, D, by omega, rfl, g2, B2, h4, hD.2⟩
  case round =>
    obtain ⟨k, l, hk, rfl, hgr, hbel, l0, l1⟩ := hrel
    by_cases hlt : (k : Int) < t
    · go_wp2_with fail
      refine (ltick_any _ _ _ _ _ _ _ hgr (by omega) (by omega) l0 l1).mono ?_
      rintro e w4 ⟨rfl, g4', k4⟩
      have b4 := Below.keeps hbel hbel.size q1 k4
      have hn0 : tkN 0 l = 0 := by unfold tkN; cases decide (1 < l) <;> rfl
      have hl2 : 1 ≤ tkL D l ∧ tkL D l ≤ 9223372036854775807 := by
        unfold tkL
        by_cases hl1 : 1 < l
        · simp [hl1]; omega
        · simp [hl1]; omega
      have g4 : ldr w4 g S H D 0 (tkL D l) 0 := by rw [hn0] at g4'; exact g4'
      clear hgr hbel k4 g4' hn0
      generalize tkL D l = l' at *
      go_wp2_with (go_at_call 19; refine (lstrike_no _ 0 _ (by decide)).mono ?_; rintro e w' ⟨rfl, rfl⟩)
      have hst := lstate_any _ _ _ _ _ _ _ _ g4
      rw [show stOf S 0 0 = 0 by unfold stOf; rw [decide_eq_false (by omega)]; rfl] at hst
      refine hst.mono ?_
      rintro e w5 ⟨rfl, hb5⟩
      have g5 : ldr w5 g S H D 0 l' 0 := Below.blk hb5 g4 g4.lt
      have b5 := b4.trans (hb5.mono b4.size)
      clear hst g4 b4 hb5
      go_wp2_with (go_at_call 21; refine (lstrikes_any _ _ _ _ _ _ _ _ g5).mono ?_; rintro e w' ⟨rfl, rfl⟩)
      go_roundw
      case rel => exact ⟨k + 1, l', by omega, by go_num, g5, b5, hl2.1, hl2.2⟩
      case measure => simp [intOf] <;> omega
    · go_wp2_with fail
      go_ret
      exact ⟨rfl, hbel⟩
end Go.Proofs.Ytkemkplmhjmahaa
