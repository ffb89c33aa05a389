/-
  Contracts of package srmap and its reference: times and stamps.
-/
import Derived.Test.YtkdjkaimcciemaaBase
import Derived.Test.YtkdjkaimcciemaaProg
namespace Go.Proofs.Ytkdjkaimcciemaa
open Go.RowKit
set_option linter.unusedVariables false
set_option linter.unusedSimpArgs false

/-- how far: of 32 bits -/
def far32 (a b : Int) : Int := (b - a + 2147483648) % 4294967296 - 2147483648
theorem far32_bd (a b : Int) : -2147483648 ≤ far32 a b ∧ far32 a b ≤ 2147483647 := by unfold far32; omega
theorem gone_any (a b : Int) (w : World) :
    Calls Try.prog 55 #[.int .u32 a, .int .u32 b] w fun e w' => e = .returned (.int .i64 (far32 a b)) ∧ w = w' := by
  go_enter Try.func55, Try.ntmps55
  go_wp2
  go_ret
  refine ⟨ret_int ?_, rfl⟩
  unfold far32
  go_arith
theorem rgone_any (a b : Int) (w : World) (a0 : 0 ≤ a) (a1 : a ≤ 4294967295) (b0 : 0 ≤ b) (b1 : b ≤ 4294967295) :
    Calls Try.prog 57 #[.int .u32 a, .int .u32 b] w fun e w' => e = .returned (.int .i64 (far32 a b)) ∧ w = w' := by
  go_enter Try.func57, Try.ntmps57
  go_wp2
  all_goals
    go_ret
    refine ⟨ret_int ?_, rfl⟩
    unfold far32
    go_arith

theorem tdiv_floor {a b q r : Int} (hb : 1 ≤ b) (h : a = q * b + r) (hr : 0 ≤ r) (hr2 : r < b) : (a.tmod b < 0 ↔ (a < 0 ∧ r ≠ 0)) ∧ (a.tdiv b = if a < 0 ∧ r ≠ 0 then q + 1 else q) := by
  have hq : a / b = q := by rw [h, Int.add_comm, Int.add_mul_ediv_right _ _ (by omega), Int.ediv_eq_zero_of_lt hr hr2]; omega
  have hm : a % b = r := by rw [h, Int.add_comm, Int.add_mul_emod_self_right, Int.emod_eq_of_lt hr hr2]
  have h1 := Int.tmod_def a b
  have h2 : a.tdiv b = if a < 0 ∧ r ≠ 0 then q + 1 else q := by
    rw [Int.tdiv_eq_ediv, hq]
    have hd : b ∣ a ↔ r = 0 := by rw [Int.dvd_iff_emod_eq_zero, hm]
    have hsg : b.sign = 1 := Int.sign_eq_one_of_pos (by omega)
    by_cases ha : 0 ≤ a
    · rw [if_pos (.inl ha), if_neg (by omega)]; omega
    · by_cases h0 : r = 0
      · rw [if_pos (.inr (hd.2 h0)), if_neg (by omega)]; omega
      · rw [if_neg (by rw [hd]; omega), if_pos (by omega), hsg]
  refine ⟨?_, h2⟩
  rw [h1, h2]
  have e1 : b * q = q * b := Int.mul_comm _ _
  have e2 : b * (q + 1) = q * b + b := by rw [Int.mul_add, e1]; omega
  split
  · rw [e2]; omega
  · rw [e1]; omega

theorem floor_any (a b q r : Int) (w : World) (ha : -2147483648 ≤ a) (ha2 : a ≤ 2147483647) (hb : 1 ≤ b) (hb2 : b ≤ 4294967295) (h : Hid (a = q * b + r)) (hr : 0 ≤ r) (hr2 : r < b) (hq : -2147483648 ≤ q) (hq2 : q ≤ 2147483647) :
    Calls Try.prog 56 #[.int .i64 a, .int .i64 b] w fun e w' => e = .returned (.int .i64 q) ∧ w = w' := by
  obtain ⟨h1, h2⟩ := tdiv_floor hb h.out hr hr2
  by_cases hc : a < 0 ∧ r ≠ 0
  · rw [if_pos hc] at h2
    have h3 := h1.2 hc
    have h0 : ¬ 0 ≤ a := by omega
    clear h1 hc
    go_enter Try.func56, Try.ntmps56
    go_wp2_with fail
    go_ret
    exact ⟨ret_int (by omega), rfl⟩
  · rw [if_neg hc] at h2
    have h3 : 0 ≤ a.tmod b := by have := mt h1.1 hc; omega
    clear h1 hc
    by_cases h0 : 0 ≤ a
    · have e1 : a / b = q := by rw [← h2, Int.tdiv_eq_ediv_of_nonneg h0]
      have e2 : 0 ≤ a % b := Int.emod_nonneg _ (by omega)
      clear h2 h3
      go_enter Try.func56, Try.ntmps56
      go_wp2_with fail
      go_ret
      exact ⟨ret_int (by omega), rfl⟩
    · go_enter Try.func56, Try.ntmps56
      go_wp2_with fail
      go_ret
      exact ⟨ret_int (by omega), rfl⟩

/-- the time of a stamp -/
def tmOf (T S R st : Int) : Int := if R = 0 then 0 else (T + far32 S st * 4294967296 / R) % 18446744073709551616
def stOf (T S R tm : Int) : Int := if R = 0 then 0 else (S + (tm - T) % 18446744073709551616 / 4294967296 * R + (tm - T) % 18446744073709551616 % 4294967296 * R / 4294967296) % 4294967296

theorem time_any (T S R st : Int) (w : World) (h1 : 0 ≤ R) (h2 : R ≤ 4294967295) :
    Calls Try.prog 16 #[.agg #[.int .u64 T, .int .u32 S, .int .u32 R], .int .u32 st] w fun e w' => e = .returned (.int .u64 (tmOf T S R st)) ∧ Below w.heap.size w w' := by
  by_cases hR : R = 0
  · subst hR
    go_enter Try.func16, Try.ntmps16
    go_wp2_with fail
    go_ret
    exact ⟨rfl, by (repeat (first | exact Below.refl _ _ | refine Below.alloc ?_ (by first | (simp; done) | (simp; omega) | (simp [size_drewN]; done) | (simp [size_drewN]; omega)) _ | refine Below.drew ?_ | refine below_drewN0 ?_ _ | refine Below.setCell ?_ (by first | (simp; done) | (simp; omega) | (simp [size_drewN]; done) | (simp [size_drewN]; omega)) _))⟩
  · have hR1 : (R == 0) = false := by simpa using hR
    have hb := far32_bd S st
    obtain ⟨D, hD⟩ : ∃ D, far32 S st = D := ⟨_, rfl⟩
    rw [hD] at hb
    obtain ⟨F, hF⟩ : ∃ F, D / R = F := ⟨_, rfl⟩
    obtain ⟨M, hM⟩ : ∃ M, D % R = M := ⟨_, rfl⟩
    have hdm : D = F * R + M := by rw [← hF, ← hM]; have := Int.mul_ediv_add_emod D R; rw [Int.mul_comm] at this; omega
    have hM0 : 0 ≤ M := by rw [← hM]; exact Int.emod_nonneg _ hR
    have hM1 : M < R := by rw [← hM]; exact Int.emod_lt_of_pos _ (by omega)
    have hF0 : -2147483648 ≤ F := by rw [← hF]; exact (Int.le_ediv_iff_mul_le (by omega)).2 (by have : -2147483648 * R ≤ -2147483648 * 1 := Int.mul_le_mul_of_nonpos_left (by omega) (by omega); omega)
    have hF1 : F ≤ 2147483647 := by rw [← hF]; exact Int.le_of_lt_add_one (Int.ediv_lt_of_lt_mul (by omega) (by have : (2147483647 + 1) * 1 ≤ (2147483647 + 1) * R := Int.mul_le_mul_of_nonneg_left (by omega) (by omega); omega))
    have hres : tmOf T S R st = (T + (F * 4294967296 + M * 4294967296 / R)) % 18446744073709551616 := by
      unfold tmOf; rw [if_neg hR, hD]
      have : D * 4294967296 / R = F * 4294967296 + M * 4294967296 / R := by
        have e : D * 4294967296 = M * 4294967296 + F * 4294967296 * R := by rw [hdm, Int.add_mul, Int.mul_assoc, Int.mul_comm R, ← Int.mul_assoc]; omega
        rw [e, Int.add_mul_ediv_right _ _ hR]; omega
      rw [this]
    have e1 : F * R = D - M := by omega
    have HDM := Lib.hid hdm
    have HR := Lib.hid hres
    have hQ0 : 0 ≤ M * 4294967296 / R := Int.ediv_nonneg (by omega) (by omega)
    obtain ⟨Q, hQ⟩ : ∃ Q, M * 4294967296 / R = Q := ⟨_, rfl⟩
    clear hdm hres hF hM hQ0
    go_enter Try.func16, Try.ntmps16
    go_wp2_with fail
    go_quiet ((go_at_call 55; exact qsame (gone_any _ _ _)))
    rw [hD]
    clear hD
    go_wp2_with (go_at_call 56; refine (floor_any _ _ F M _ (by omega) (by omega) (by omega) (by omega) HDM hM0 hM1 hF0 hF1).mono ?_; rintro e w' ⟨rfl, rfl⟩)
    go_quiet (fail)
    go_wp2_with fail
    go_ret
    refine ⟨ret_int ?_, by (repeat (first | exact Below.refl _ _ | refine Below.alloc ?_ (by first | (simp; done) | (simp; omega) | (simp [size_drewN]; done) | (simp [size_drewN]; omega)) _ | refine Below.drew ?_ | refine below_drewN0 ?_ _ | refine Below.setCell ?_ (by first | (simp; done) | (simp; omega) | (simp [size_drewN]; done) | (simp [size_drewN]; omega)) _))⟩
    rw [HR.out, show D - (D - M) = M by omega, hQ]
    simp only [IntKind.wrap_u64]
    omega

theorem div_unique {a b q r : Int} (hb : 1 ≤ b) (h : a = q * b + r) (hr : 0 ≤ r) (hr2 : r < b) : a / b = q := by
  rw [h, Int.add_comm, Int.add_mul_ediv_right _ _ (by omega), Int.ediv_eq_zero_of_lt hr hr2]; omega

theorem rtime_any (T S R st : Int) (w : World) (h1 : 0 ≤ R) (h2 : R ≤ 4294967295) (hS : 0 ≤ S ∧ S ≤ 4294967295) (hst : 0 ≤ st ∧ st ≤ 4294967295) (hT : 0 ≤ T ∧ T ≤ 18446744073709551615) :
    Calls Try.prog 17 #[.agg #[.int .u64 T, .int .u32 S, .int .u32 R], .int .u32 st] w fun e w' => e = .returned (.int .u64 (tmOf T S R st)) ∧ Below w.heap.size w w' := by
  by_cases hR : R = 0
  · subst hR
    go_enter Try.func17, Try.ntmps17
    go_wp2_with fail
    go_ret
    exact ⟨rfl, by (repeat (first | exact Below.refl _ _ | refine Below.alloc ?_ (by first | (simp; done) | (simp; omega) | (simp [size_drewN]; done) | (simp [size_drewN]; omega)) _ | refine Below.drew ?_ | refine below_drewN0 ?_ _ | refine Below.setCell ?_ (by first | (simp; done) | (simp; omega) | (simp [size_drewN]; done) | (simp [size_drewN]; omega)) _))⟩
  · have hR1 : (R == 0) = false := by simpa using hR
    have hb := far32_bd S st
    obtain ⟨D, hD⟩ : ∃ D, far32 S st = D := ⟨_, rfl⟩
    rw [hD] at hb
    have hres : tmOf T S R st = (T + D * 4294967296 / R) % 18446744073709551616 := by unfold tmOf; rw [if_neg hR, hD]
    by_cases hn : D < 0
    · obtain ⟨X, hX⟩ : ∃ X, -D * 4294967296 = X := ⟨_, rfl⟩
      obtain ⟨q, hq⟩ : ∃ q, X / R = q := ⟨_, rfl⟩
      obtain ⟨r, hr⟩ : ∃ r, X % R = r := ⟨_, rfl⟩
      have hdm : X = q * R + r := by rw [← hq, ← hr]; have := Int.mul_ediv_add_emod X R; rw [Int.mul_comm] at this; omega
      have hr0 : 0 ≤ r := by rw [← hr]; exact Int.emod_nonneg _ hR
      have hr1 : r < R := by rw [← hr]; exact Int.emod_lt_of_pos _ (by omega)
      have hq0 : 0 ≤ q := by rw [← hq]; exact Int.ediv_nonneg (by omega) (by omega)
      have hq1 : q ≤ X := by rw [← hq]; exact Int.ediv_le_self _ (by omega)
      by_cases hr2 : r = 0
      · have hE : D * 4294967296 / R = -q := div_unique (r := 0) (by omega) (by rw [Int.neg_mul]; omega) (by omega) (by omega)
        have HE := Lib.hid hE
        have HR := Lib.hid hres
        subst hr2
        clear hE hres hdm hr0
        go_enter Try.func17, Try.ntmps17
        go_wp2_with (go_at_call 57; refine (rgone_any _ _ _ (by omega) (by omega) (by omega) (by omega)).mono ?_; rintro e w' ⟨rfl, rfl⟩)
        go_quiet (fail)
        go_wp2_with fail
        go_ret
        refine ⟨ret_int ?_, by (repeat (first | exact Below.refl _ _ | refine Below.alloc ?_ (by first | (simp; done) | (simp; omega) | (simp [size_drewN]; done) | (simp [size_drewN]; omega)) _ | refine Below.drew ?_ | refine below_drewN0 ?_ _ | refine Below.setCell ?_ (by first | (simp; done) | (simp; omega) | (simp [size_drewN]; done) | (simp [size_drewN]; omega)) _))⟩
        rw [HR.out, HE.out]
        simp only [IntKind.wrap_u64]
        omega
      · have hE : D * 4294967296 / R = -(q + 1) := div_unique (r := R - r) (by omega) (by rw [Int.neg_mul, Int.add_mul]; omega) (by omega) (by omega)
        have HE := Lib.hid hE
        have HR := Lib.hid hres
        clear hE hres hdm
        go_enter Try.func17, Try.ntmps17
        go_wp2_with (go_at_call 57; refine (rgone_any _ _ _ (by omega) (by omega) (by omega) (by omega)).mono ?_; rintro e w' ⟨rfl, rfl⟩)
        go_quiet (fail)
        go_wp2_with fail
        go_ret
        refine ⟨ret_int ?_, by (repeat (first | exact Below.refl _ _ | refine Below.alloc ?_ (by first | (simp; done) | (simp; omega) | (simp [size_drewN]; done) | (simp [size_drewN]; omega)) _ | refine Below.drew ?_ | refine below_drewN0 ?_ _ | refine Below.setCell ?_ (by first | (simp; done) | (simp; omega) | (simp [size_drewN]; done) | (simp [size_drewN]; omega)) _))⟩
        rw [HR.out, HE.out]
        simp only [IntKind.wrap_u64]
        omega
    · obtain ⟨X, hX⟩ : ∃ X, D * 4294967296 = X := ⟨_, rfl⟩
      obtain ⟨q, hq⟩ : ∃ q, X / R = q := ⟨_, rfl⟩
      have hq0 : 0 ≤ q := by rw [← hq]; exact Int.ediv_nonneg (by omega) (by omega)
      have hq1 : q ≤ X := by rw [← hq]; exact Int.ediv_le_self _ (by omega)
      rw [hX, hq] at hres
      have HR := Lib.hid hres
      clear hres
      go_enter Try.func17, Try.ntmps17
      go_wp2_with (go_at_call 57; refine (rgone_any _ _ _ (by omega) (by omega) (by omega) (by omega)).mono ?_; rintro e w' ⟨rfl, rfl⟩)
      go_quiet (fail)
      go_wp2_with fail
      go_ret
      refine ⟨ret_int ?_, by (repeat (first | exact Below.refl _ _ | refine Below.alloc ?_ (by first | (simp; done) | (simp; omega) | (simp [size_drewN]; done) | (simp [size_drewN]; omega)) _ | refine Below.drew ?_ | refine below_drewN0 ?_ _ | refine Below.setCell ?_ (by first | (simp; done) | (simp; omega) | (simp [size_drewN]; done) | (simp [size_drewN]; omega)) _))⟩
      rw [HR.out]
      simp only [IntKind.wrap_u64]

theorem and_low32 (d : Int) (h0 : 0 ≤ d) (h1 : d ≤ 18446744073709551615) : bits BinOp.and IntKind.u64 d 4294967295 = d % 4294967296 := by
  obtain ⟨d, rfl⟩ := Int.eq_ofNat_of_zero_le h0
  have h := bits_and_u64_nat d 4294967295 (by omega) (by omega)
  have e : ((4294967295 : Nat) : Int) = 4294967295 := rfl
  rw [e] at h
  rw [h, show (4294967295 : Nat) = 2 ^ 32 - 1 by decide, Nat.and_two_pow_sub_one_eq_mod]
  omega
theorem stamp_any (T S R tm : Int) (w : World) (h1 : 0 ≤ R) (h2 : R ≤ 4294967295) (hS : 0 ≤ S ∧ S ≤ 4294967295) (htm : 0 ≤ tm ∧ tm ≤ 18446744073709551615) (hT : 0 ≤ T ∧ T ≤ 18446744073709551615) :
    Calls Try.prog 18 #[.agg #[.int .u64 T, .int .u32 S, .int .u32 R], .int .u64 tm] w fun e w' => e = .returned (.int .u32 (stOf T S R tm)) ∧ Below w.heap.size w w' := by
  by_cases hR : R = 0
  · subst hR
    go_enter Try.func18, Try.ntmps18
    go_wp2_with fail
    go_ret
    exact ⟨rfl, by (repeat (first | exact Below.refl _ _ | refine Below.alloc ?_ (by first | (simp; done) | (simp; omega) | (simp [size_drewN]; done) | (simp [size_drewN]; omega)) _ | refine Below.drew ?_ | refine below_drewN0 ?_ _ | refine Below.setCell ?_ (by first | (simp; done) | (simp; omega) | (simp [size_drewN]; done) | (simp [size_drewN]; omega)) _))⟩
  · have hR1 : (R == 0) = false := by simpa using hR
    obtain ⟨d, e1, hd⟩ : ∃ d, IntKind.u64.wrap (tm - T) = d ∧ Hid (d = (tm - T) % 18446744073709551616) := ⟨_, IntKind.wrap_u64 _, rfl⟩
    have hd0 : 0 ≤ d := by have := hd.out; omega
    have hd1 : d ≤ 18446744073709551615 := by have := hd.out; omega
    obtain ⟨hi, e5, hh⟩ : ∃ hi, d / 4294967296 = hi ∧ Hid (hi = d / 4294967296) := ⟨_, rfl, rfl⟩
    obtain ⟨lo, e7, hl⟩ : ∃ lo, d % 4294967296 = lo ∧ Hid (lo = d % 4294967296) := ⟨_, rfl, rfl⟩
    have hh0 : 0 ≤ hi ∧ hi ≤ 4294967295 := by have := hh.out; omega
    have hl0 : 0 ≤ lo ∧ lo ≤ 4294967295 := by have := hl.out; omega
    have p1 : 0 ≤ hi * R := Int.mul_nonneg hh0.1 h1
    have p2 : hi * R ≤ 4294967295 * 4294967295 := Int.mul_le_mul hh0.2 h2 h1 (by omega)
    have p3 : 0 ≤ lo * R := Int.mul_nonneg hl0.1 h1
    have p4 : lo * R ≤ 4294967295 * 4294967295 := Int.mul_le_mul hl0.2 h2 h1 (by omega)
    have hres : stOf T S R tm = (S + hi * R + lo * R / 4294967296) % 4294967296 := by unfold stOf; rw [if_neg hR, ← hd.out, ← hh.out, ← hl.out]
    have HR := Lib.hid hres
    clear hres
    obtain ⟨t, e2⟩ : ∃ t, wrap64 d = t := ⟨_, rfl⟩
    have e3 : IntKind.u64.wrap t = d := by rw [IntKind.wrap_u64, ← e2]; unfold wrap64; omega
    have e4 : bits BinOp.and IntKind.u64 d 4294967295 = lo := by rw [and_low32 d hd0 hd1, e7]
    have e8 : t / 4294967296 % 4294967296 = hi := by rw [← e2, ← e5]; unfold wrap64; omega
    have e6 : IntKind.u64.wrap (lo * R) = lo * R := by rw [IntKind.wrap_u64]; omega
    clear e5 e7
    go_enter Try.func18, Try.ntmps18
    go_wp2_with fail
    go_ret
    refine ⟨ret_int ?_, by (repeat (first | exact Below.refl _ _ | refine Below.alloc ?_ (by first | (simp; done) | (simp; omega) | (simp [size_drewN]; done) | (simp [size_drewN]; omega)) _ | refine Below.drew ?_ | refine below_drewN0 ?_ _ | refine Below.setCell ?_ (by first | (simp; done) | (simp; omega) | (simp [size_drewN]; done) | (simp [size_drewN]; omega)) _))⟩
    rw [HR.out]
    omega
theorem rstamp_any (T S R tm : Int) (w : World) (h1 : 0 ≤ R) (h2 : R ≤ 4294967295) (hS : 0 ≤ S ∧ S ≤ 4294967295) (htm : 0 ≤ tm ∧ tm ≤ 18446744073709551615) (hT : 0 ≤ T ∧ T ≤ 18446744073709551615) :
    Calls Try.prog 19 #[.agg #[.int .u64 T, .int .u32 S, .int .u32 R], .int .u64 tm] w fun e w' => e = .returned (.int .u32 (stOf T S R tm)) ∧ Below w.heap.size w w' := by
  by_cases hR : R = 0
  · subst hR
    go_enter Try.func19, Try.ntmps19
    go_wp2_with fail
    go_ret
    exact ⟨rfl, by (repeat (first | exact Below.refl _ _ | refine Below.alloc ?_ (by first | (simp; done) | (simp; omega) | (simp [size_drewN]; done) | (simp [size_drewN]; omega)) _ | refine Below.drew ?_ | refine below_drewN0 ?_ _ | refine Below.setCell ?_ (by first | (simp; done) | (simp; omega) | (simp [size_drewN]; done) | (simp [size_drewN]; omega)) _))⟩
  · have hR1 : (R == 0) = false := by simpa using hR
    obtain ⟨d, e1, hd⟩ : ∃ d, IntKind.u64.wrap (tm - T) = d ∧ Hid (d = (tm - T) % 18446744073709551616) := ⟨_, IntKind.wrap_u64 _, rfl⟩
    have hd0 : 0 ≤ d := by have := hd.out; omega
    have hd1 : d ≤ 18446744073709551615 := by have := hd.out; omega
    obtain ⟨hi, e5, hh⟩ : ∃ hi, d / 4294967296 = hi ∧ Hid (hi = d / 4294967296) := ⟨_, rfl, rfl⟩
    obtain ⟨lo, e7, hl⟩ : ∃ lo, d % 4294967296 = lo ∧ Hid (lo = d % 4294967296) := ⟨_, rfl, rfl⟩
    have hh0 : 0 ≤ hi ∧ hi ≤ 4294967295 := by have := hh.out; omega
    have hl0 : 0 ≤ lo ∧ lo ≤ 4294967295 := by have := hl.out; omega
    have p1 : 0 ≤ hi * R := Int.mul_nonneg hh0.1 h1
    have p2 : hi * R ≤ 4294967295 * 4294967295 := Int.mul_le_mul hh0.2 h2 h1 (by omega)
    have p3 : 0 ≤ lo * R := Int.mul_nonneg hl0.1 h1
    have p4 : lo * R ≤ 4294967295 * 4294967295 := Int.mul_le_mul hl0.2 h2 h1 (by omega)
    have hres : stOf T S R tm = (S + hi * R + lo * R / 4294967296) % 4294967296 := by unfold stOf; rw [if_neg hR, ← hd.out, ← hh.out, ← hl.out]
    have HR := Lib.hid hres
    clear hres
    have e6 : IntKind.u64.wrap (lo * R) = lo * R := by rw [IntKind.wrap_u64]; omega
    have e9 : IntKind.u64.wrap (hi * R) = hi * R := by rw [IntKind.wrap_u64]; omega
    go_enter Try.func19, Try.ntmps19
    go_wp2_with fail
    go_ret
    refine ⟨ret_int ?_, by (repeat (first | exact Below.refl _ _ | refine Below.alloc ?_ (by first | (simp; done) | (simp; omega) | (simp [size_drewN]; done) | (simp [size_drewN]; omega)) _ | refine Below.drew ?_ | refine below_drewN0 ?_ _ | refine Below.setCell ?_ (by first | (simp; done) | (simp; omega) | (simp [size_drewN]; done) | (simp [size_drewN]; omega)) _))⟩
    rw [HR.out]
    trace_state
    omega
end Go.Proofs.Ytkdjkaimcciemaa
