/-
  The walks of SrmapTimes and SrmapBack.
-/
import Derived.Test.YtkdjkaimcciemaaSrm
import Derived.Test.YtkdjkaimcciemaaReads
namespace Go.Proofs.Ytkdjkaimcciemaa
open Go.RowKit
set_option linter.unusedVariables false
set_option linter.unusedSimpArgs false

theorem sync_of {w : World} {v : Value} (h : ArgS Try.prog w 25 v) : ∃ T S R : Int, v = .agg #[.int .u64 T, .int .u32 S, .int .u32 R] ∧ (0 ≤ T ∧ T ≤ 18446744073709551615) ∧ (0 ≤ S ∧ S ≤ 4294967295) ∧ 0 ≤ R ∧ R ≤ 4294967295 := by
  obtain ⟨cs, rfl, h⟩ := h
  have hlv : leaves Try.prog 3 25 = some [22, 23, 23] := by kernel_rfl
  obtain ⟨hl, hr⟩ := h 3 _ hlv
  obtain ⟨x0, e0, r0⟩ := hr 0 22 rfl
  obtain ⟨x1, e1, r1⟩ := hr 1 23 rfl
  obtain ⟨x2, e2, r2⟩ := hr 2 23 rfl
  obtain ⟨T, rfl, wT⟩ := reads_int Try.underlying22 r0
  obtain ⟨S, rfl, wS⟩ := reads_int Try.underlying23 r1
  obtain ⟨R, rfl, wR⟩ := reads_int Try.underlying23 r2
  have bR := bounds_u32 wR
  exact ⟨T, S, R, by rw [arr3 hl e0 e1 e2], bounds_u64 wT, bounds_u32 wS, bR.1, bR.2⟩

theorem alive38_any (w : World) : Calls Try.prog 15 #[] w fun e w' => e = .returned (.bool true) ∧ Below w.heap.size w w' := by
  have e1 : tmOf 4294967296 100 10 105 = 6442450944 := by decide
  have e2 : stOf 4294967296 100 10 12884901888 = 120 := by decide
  have q1 := fun W => time_any 4294967296 100 10 105 W (by omega) (by omega)
  have q2 := fun W => stamp_any 4294967296 100 10 12884901888 W (by omega) (by omega) (by omega) (by omega) (by omega)
  rw [e1] at q1
  rw [e2] at q2
  have Q1 := Lib.hid q1
  have Q2 := Lib.hid q2
  clear e1 e2 q1 q2
  go_enter Try.func15, Try.ntmps15
  go_wp2_with fail
  refine (Q1.out _).mono ?_
  rintro e w1 ⟨rfl, hb1⟩
  have hc0 := hb1.cell (p := ⟨w.heap.size, 0, none⟩) (by simp)
  have hc1 := hb1.cell (p := ⟨w.heap.size, 1, none⟩) (by simp)
  have hc2 := hb1.cell (p := ⟨w.heap.size, 2, none⟩) (by simp)
  simp at hc0 hc1 hc2
  go_wp2_with fail
  refine (Q2.out _).mono ?_
  rintro e w2 ⟨rfl, hb2⟩
  go_wp2_with fail
  go_ret
  exact ⟨rfl, (show Below w.heap.size w (w.alloc _) by (repeat (first | exact Below.refl _ _ | refine Below.alloc ?_ (by first | (simp; done) | (simp; omega) | (simp [size_drewN]; done) | (simp [size_drewN]; omega)) _ | refine Below.drew ?_ | refine below_drewN0 ?_ _ | refine Below.setCell ?_ (by first | (simp; done) | (simp; omega) | (simp [size_drewN]; done) | (simp [size_drewN]; omega)) _))).trans ((hb1.mono (by simp)).trans (hb2.mono (by have := hb1.size; simp at this; omega)))⟩

theorem SrmapTimes.walk (v : Value) (st tm : Int) (w : World) (r : ArgS Try.prog w 25 v) (w1 : (Lit.int .u32 st).wf = true) (w2 : (Lit.int .u64 tm).wf = true) :
    Calls Try.prog 3 #[v, .int .u32 st, .int .u64 tm] w fun e w' => e = .returned (.bool true) ∧ Below w.heap.size w w' := by
  obtain ⟨T, S, R, rfl, hT, hS, hR0, hR1⟩ := sync_of r
  have b1 := bounds_u32 w1
  have b2 := bounds_u64 w2
  have Q1 := Lib.hid fun W => time_any T S R st W hR0 hR1
  have Q2 := Lib.hid fun W => rtime_any T S R st W hR0 hR1 hS b1 hT
  have Q3 := Lib.hid fun W => stamp_any T S R tm W hR0 hR1 hS b2 hT
  have Q4 := Lib.hid fun W => rstamp_any T S R tm W hR0 hR1 hS b2 hT
  obtain ⟨W0, hW0⟩ : ∃ W0, W0 = w.alloc (.cells #[.int .u64 T, .int .u32 S, .int .u32 R] 25) := ⟨_, rfl⟩
  have hz : W0.heap.size = w.heap.size + 1 := by rw [hW0]; simp
  have c0 : W0.cell? ⟨w.heap.size, 0, none⟩ = some (.int .u64 T) := by rw [hW0]; simp
  have c1 : W0.cell? ⟨w.heap.size, 1, none⟩ = some (.int .u32 S) := by rw [hW0]; simp
  have c2 : W0.cell? ⟨w.heap.size, 2, none⟩ = some (.int .u32 R) := by rw [hW0]; simp
  have k0 := Wd.cell (B := w.heap.size + 1) c0 (by omega)
  have k1 := Wd.cell (B := w.heap.size + 1) c1 (by omega)
  have k2 := Wd.cell (B := w.heap.size + 1) c2 (by omega)
  have hb0 : Below w.heap.size w W0 := by rw [hW0]; exact (Below.refl _ _).alloc (Nat.le_refl _) _
  have HW := Lib.hid hW0
  clear c0 c1 c2 hT hS
  go_enter Try.func3, Try.ntmps3
  go_wp2_with fail
  rw [← HW.out]
  clear HW hW0
  have hBz : w.heap.size + 1 ≤ W0.heap.size := by omega
  (refine wp_region_calm (Below.refl (w.heap.size + 1) W0) (by kernel_rfl) (by kernel_rfl) ?_; (iterate 20 quiet_step (first | (go_at_call 15; exact calm _ hBz (alive38_any _)) | (go_at_call 16; exact calm _ hBz (Q1.out _)) | (go_at_call 17; exact calm _ hBz (Q2.out _)) | (go_at_call 18; exact calm _ hBz (Q3.out _)) | (go_at_call 19; exact calm _ hBz (Q4.out _)))); refine wpQuiet_nil ?_; intro _ hw'; obtain ⟨⟨w1, hwq⟩, hw''⟩ := hw'; subst hw'')
  go_wp2_with fail
  go_ret
  exact ⟨rfl, hb0.trans (hwq.mono (by omega))⟩

/-- The stamp of the time of a stamp. -/
theorem stOf_tmOf (T S R st : Int) (hR : 1 ≤ R) (hR2 : R ≤ 4294967295) (hS : 0 ≤ S ∧ S ≤ 4294967295) (hst : 0 ≤ st ∧ st ≤ 4294967295) :
    stOf T S R (tmOf T S R st) = st ∨ (stOf T S R (tmOf T S R st) + 1) % 4294967296 = st := by
  have hb := far32_bd S st
  have hfar : (S + far32 S st) % 4294967296 = st := by unfold far32; omega
  obtain ⟨D, hD⟩ : ∃ D, far32 S st = D := ⟨_, rfl⟩
  rw [hD] at hb hfar
  obtain ⟨q, hq⟩ : ∃ q, D * 4294967296 / R = q := ⟨_, rfl⟩
  have h1 : q * R ≤ D * 4294967296 := by rw [← hq]; exact Int.ediv_mul_le _ (by omega)
  have h2 : D * 4294967296 < (q + 1) * R := by rw [← hq]; exact Int.lt_ediv_add_one_mul_self _ (by omega)
  rw [Int.add_mul, Int.one_mul] at h2
  have htm : tmOf T S R st = (T + q) % 18446744073709551616 := by unfold tmOf; rw [if_neg (by omega), hD, hq]
  obtain ⟨d, hd⟩ : ∃ d, (tmOf T S R st - T) % 18446744073709551616 = d := ⟨_, rfl⟩
  have hdq : d = q % 18446744073709551616 := by rw [← hd, htm]; omega
  have hst2 : stOf T S R (tmOf T S R st) = (S + d / 4294967296 * R + d % 4294967296 * R / 4294967296) % 4294967296 := by unfold stOf; rw [if_neg (by omega), hd]
  obtain ⟨k, hk⟩ : ∃ k, q = d + k * 18446744073709551616 := ⟨q / 18446744073709551616, by omega⟩
  have hlo : d % 4294967296 * R / 4294967296 = q * R / 4294967296 - (d / 4294967296 + k * 4294967296) * R := by
    have e : q * R = d % 4294967296 * R + (d / 4294967296 + k * 4294967296) * R * 4294967296 := by
      have : q = d % 4294967296 + (d / 4294967296 + k * 4294967296) * 4294967296 := by omega
      conv => lhs; rw [this]
      rw [Int.add_mul, Int.mul_assoc (d / 4294967296 + k * 4294967296), Int.mul_comm 4294967296 R, ← Int.mul_assoc]
    rw [e, Int.add_mul_ediv_right _ _ (by omega)]; omega
  have hmul : (d / 4294967296 + k * 4294967296) * R = d / 4294967296 * R + k * R * 4294967296 := by
    rw [Int.add_mul, Int.mul_assoc k, Int.mul_comm 4294967296 R, ← Int.mul_assoc]
  rw [hst2, hlo, hmul]
  obtain ⟨x, hx⟩ : ∃ x, d / 4294967296 * R = x := ⟨_, rfl⟩
  obtain ⟨y, hy⟩ : ∃ y, k * R = y := ⟨_, rfl⟩
  obtain ⟨z, hz⟩ : ∃ z, q * R = z := ⟨_, rfl⟩
  rw [hx, hy, hz]
  rw [hz] at h1 h2
  omega

theorem SrmapBack.walk (v : Value) (st : Int) (w : World) (r : ArgS Try.prog w 25 v) (w1 : (Lit.int .u32 st).wf = true) :
    Calls Try.prog 4 #[v, .int .u32 st] w fun e w' => e = .returned (.bool true) ∧ Below w.heap.size w w' := by
  obtain ⟨T, S, R, rfl, hT, hS, hR0, hR1⟩ := sync_of r
  have b1 := bounds_u32 w1
  have htm : 0 ≤ tmOf T S R st ∧ tmOf T S R st ≤ 18446744073709551615 := by unfold tmOf; split <;> omega
  have Q1 := Lib.hid fun W => time_any T S R st W hR0 hR1
  have Q3 := Lib.hid fun W => stamp_any T S R (tmOf T S R st) W hR0 hR1 hS htm hT
  have hsb : 0 ≤ stOf T S R (tmOf T S R st) ∧ stOf T S R (tmOf T S R st) ≤ 4294967295 := by unfold stOf; split <;> omega
  by_cases hz : R = 0
  · subst hz
    have e0 : tmOf T S 0 st = 0 := rfl
    rw [e0] at Q1
    clear Q3 hsb htm e0
    go_enter Try.func4, Try.ntmps4
    go_wp2_with fail
    refine (alive38_any _).mono ?_
    rintro e w1 ⟨rfl, hb1⟩
    have hs1 := hb1.size
    simp at hs1
    have c0 := hb1.cell (p := ⟨w.heap.size, 0, none⟩) (by simp)
    have c1 := hb1.cell (p := ⟨w.heap.size, 1, none⟩) (by simp)
    have c2 := hb1.cell (p := ⟨w.heap.size, 2, none⟩) (by simp)
    simp at c0 c1 c2
    have hbel1 : Below w.heap.size w w1 := (show Below w.heap.size w (w.alloc _) by (repeat (first | exact Below.refl _ _ | refine Below.alloc ?_ (by first | (simp; done) | (simp; omega) | (simp [size_drewN]; done) | (simp [size_drewN]; omega)) _ | refine Below.drew ?_ | refine below_drewN0 ?_ _ | refine Below.setCell ?_ (by first | (simp; done) | (simp; omega) | (simp [size_drewN]; done) | (simp [size_drewN]; omega)) _))).trans (hb1.mono (by simp))
    clear hb1
    go_wp2_with (go_at_call 16; refine (Q1.out _).mono ?_; rintro e w2 ⟨rfl, hb2⟩)
    go_ret
    exact ⟨rfl, hbel1.trans (hb2.mono (by omega))⟩
  · have hR : (R == 0) = false := by simpa using hz
    have hback := stOf_tmOf T S R st (by omega) hR1 hS b1
    obtain ⟨x, hx⟩ : ∃ x, stOf T S R (tmOf T S R st) = x := ⟨_, rfl⟩
    rw [hx] at hback hsb Q3
    clear hx
    have HB := Lib.hid hback
    clear hback
    go_enter Try.func4, Try.ntmps4
    go_wp2_with fail
    refine (alive38_any _).mono ?_
    rintro e w1 ⟨rfl, hb1⟩
    have hs1 := hb1.size
    simp at hs1
    have c0 := hb1.cell (p := ⟨w.heap.size, 0, none⟩) (by simp)
    have c1 := hb1.cell (p := ⟨w.heap.size, 1, none⟩) (by simp)
    have c2 := hb1.cell (p := ⟨w.heap.size, 2, none⟩) (by simp)
    simp at c0 c1 c2
    have hbel1 : Below w.heap.size w w1 := (show Below w.heap.size w (w.alloc _) by (repeat (first | exact Below.refl _ _ | refine Below.alloc ?_ (by first | (simp; done) | (simp; omega) | (simp [size_drewN]; done) | (simp [size_drewN]; omega)) _ | refine Below.drew ?_ | refine below_drewN0 ?_ _ | refine Below.setCell ?_ (by first | (simp; done) | (simp; omega) | (simp [size_drewN]; done) | (simp [size_drewN]; omega)) _))).trans (hb1.mono (by simp))
    clear hb1
    have k0 := Wd.cell (B := w.heap.size + 1) c0 (by omega)
    have k1 := Wd.cell (B := w.heap.size + 1) c1 (by omega)
    have k2 := Wd.cell (B := w.heap.size + 1) c2 (by omega)
    go_wp2_with fail
    clear c0 c1 c2
    (refine wp_region_calm (Below.refl (w.heap.size + 1) w1) (by kernel_rfl) (by kernel_rfl) ?_; (iterate 6 quiet_step (first | (go_at_call 16; exact calm _ hs1 (Q1.out _)) | (go_at_call 18; exact calm _ hs1 (Q3.out _)))); refine wpQuiet_nil ?_; intro _ hw'; obtain ⟨⟨w2, hwq⟩, hw''⟩ := hw'; subst hw'')
    rcases HB.out with hb | hb
    · subst hb
      go_wp2_with fail
      go_ret
      exact ⟨rfl, hbel1.trans (hwq.mono (by omega))⟩
    · go_wp2_with fail
      go_ret
      exact ⟨rfl, hbel1.trans (hwq.mono (by omega))⟩
end Go.Proofs.Ytkdjkaimcciemaa
