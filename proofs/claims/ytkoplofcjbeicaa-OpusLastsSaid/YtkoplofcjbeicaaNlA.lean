/-
  Chapter 41: what a unit is; bits of pieces; avc's Units of a unit and of a piece (lines of XAvc).
-/
import Derived.Test.YtkoplofcjbeicaaProg
import Derived.Test.YtkoplofcjbeicaaBase
import Derived.Test.YtkoplofcjbeicaaReads
import Derived.Test.YtkoplofcjbeicaaBytes
import Derived.Test.YtkoplofcjbeicaaConcU
import Derived.StillTailTactics
import Derived.IntWalk
namespace Go.Proofs.Ytkoplofcjbeicaa
open Go.RowKit
set_option linter.unusedVariables false
set_option linter.unusedSimpArgs false
attribute [local irreducible] wpStill wpQuiet

theorem and31 : ∀ b ∈ List.range 256, bits .and .u8 ((b : Nat) : Int) 31 = (b : Int) % 32 := by decide +kernel
theorem typ_any (z : Int) (w : World) (h : 0 ≤ z ∧ z ≤ 255) :
    Calls Try.prog 79 #[.int .u8 z] w fun e w' => e = .returned (.int .i64 (z % 32)) ∧ w = w' := by
  obtain ⟨n, rfl⟩ := Int.eq_ofNat_of_zero_le h.1
  have e1 := and31 n (List.mem_range.2 (by omega))
  have r1 : (0 : Int) ≤ (n : Int) % 32 := by omega
  have r2 : (n : Int) % 32 ≤ 31 := by omega
  generalize hr : (n : Int) % 32 = r at *
  go_enter Try.func79, Try.ntmps79
  go_wp2_with fail
  go_ret
  exact ⟨ret_int (by first | rfl | (simp; done) | (rw [IntKind.wrap_i64]; omega)), rfl⟩
/-- a unit of its own -/
theorem units_one (b off len cap : Nat) (z : Int) (w : World) (hc : w.cell? ⟨b, off, none⟩ = some (.int .u8 z)) (hz : 0 ≤ z ∧ z ≤ 255) (hl : 1 ≤ len) (hm : len ≤ 9223372036854775807) (ht : 1 ≤ z % 32 ∧ z % 32 ≤ 23) :
    Calls Try.prog 59 #[.slice (some ⟨b, off, none⟩) len cap] w fun e w' => e = .returned (.tuple #[.slice (some ⟨w.heap.size, 0, none⟩) 1 1, .int .i64 0]) ∧ w'.cell? ⟨w.heap.size, 0, none⟩ = some (.int .i64 (z % 32)) ∧ Below w.heap.size w w' := by
  have HT := Lib.hid (typ_any z w hz)
  generalize z % 32 = t at *
  have n0 : ((len : Int) == 0) = false := by simp; omega
  have e1 : (t == 24) = false := by simp; omega
  have e2 : (t == 28) = false := by simp; omega
  have e3 : decide (1 ≤ t) = true := by simp; omega
  have e4 : decide (t ≤ 23) = true := by simp; omega
  have hl0 : (0 : Int) < (len : Int) := by omega
  go_enter Try.func59, Try.ntmps59
  go_wp2_with (go_at_call 79; refine (HT.out).mono ?_; rintro e w' ⟨rfl, rfl⟩)
  go_returns
  exact ⟨rfl, by simp, by (repeat (first | exact Below.refl _ _ | refine Below.alloc ?_ (by first | (simp; done) | (simp; omega) | (simp [size_drewN]; done) | (simp [size_drewN]; omega)) _ | refine Below.drew ?_ | refine below_drewN0 ?_ _ | refine Below.setCell ?_ (by first | (simp; done) | (simp; omega) | (simp [size_drewN]; done) | (simp [size_drewN]; omega)) _))⟩
theorem part_one (b off len cap : Nat) (z : Int) (w : World) (hc : w.cell? ⟨b, off, none⟩ = some (.int .u8 z)) (hz : 0 ≤ z ∧ z ≤ 255) (hl : 2 ≤ len) (hm : len ≤ 9223372036854775807) (ht : 1 ≤ z % 32 ∧ z % 32 ≤ 23)
    (b32 : bits .and .u8 z 32 = 0) (b2 : bits .and .u8 z 128 = 0 ∨ bits .and .u8 z 64 = 0) :
    Calls Try.prog 81 #[.slice (some ⟨b, off, none⟩) len cap] w fun e w' => e = .returned (.tuple #[.slice (some ⟨w.heap.size, 0, none⟩) 1 1, .int .i64 0]) ∧ w'.cell? ⟨w.heap.size, 0, none⟩ = some (.int .i64 (z % 32)) ∧ Below w.heap.size w w' := by
  have HT := Lib.hid (typ_any z w hz)
  generalize z % 32 = t at *
  have n0 : decide ((len : Int) < 2) = false := by simp; omega
  have e3 : decide (t < 1) = false := by simp; omega
  have e4 : decide (23 < t) = false := by simp; omega
  have hl0 : (0 : Int) < (len : Int) := by omega
  generalize hu : bits .and .u8 z 128 = u at *
  generalize hv : bits .and .u8 z 64 = v at *
  by_cases hu0 : u = 0
  · subst hu0
    clear b2
    go_enter Try.func81, Try.ntmps81
    go_wp2_with (go_at_call 79; refine (HT.out).mono ?_; rintro e w' ⟨rfl, rfl⟩)
    go_returns
    exact ⟨rfl, by simp, by (repeat (first | exact Below.refl _ _ | refine Below.alloc ?_ (by first | (simp; done) | (simp; omega) | (simp [size_drewN]; done) | (simp [size_drewN]; omega)) _ | refine Below.drew ?_ | refine below_drewN0 ?_ _ | refine Below.setCell ?_ (by first | (simp; done) | (simp; omega) | (simp [size_drewN]; done) | (simp [size_drewN]; omega)) _))⟩
  · have hv0 : v = 0 := by rcases b2 with h | h; exact absurd h hu0; exact h
    subst hv0
    have nu : (u != 0) = true := by simpa using hu0
    clear b2 hu0
    go_enter Try.func81, Try.ntmps81
    go_wp2_with (go_at_call 79; refine (HT.out).mono ?_; rintro e w' ⟨rfl, rfl⟩)
    go_returns
    exact ⟨rfl, by simp, by (repeat (first | exact Below.refl _ _ | refine Below.alloc ?_ (by first | (simp; done) | (simp; omega) | (simp [size_drewN]; done) | (simp [size_drewN]; omega)) _ | refine Below.drew ?_ | refine below_drewN0 ?_ _ | refine Below.setCell ?_ (by first | (simp; done) | (simp; omega) | (simp [size_drewN]; done) | (simp [size_drewN]; omega)) _))⟩
/-- a piece -/
theorem units_piece (b off len cap : Nat) (z0 z : Int) (w : World) (h0 : w.cell? ⟨b, off, none⟩ = some (.int .u8 z0)) (hz0 : 0 ≤ z0 ∧ z0 ≤ 255) (h28 : z0 % 32 = 28) (hc : w.cell? ⟨b, off + 1, none⟩ = some (.int .u8 z)) (hz : 0 ≤ z ∧ z ≤ 255) (hl : 3 ≤ len) (hlc : len ≤ cap) (hm : cap ≤ 9223372036854775807) (ht : 1 ≤ z % 32 ∧ z % 32 ≤ 23)
    (b32 : bits .and .u8 z 32 = 0) (b2 : bits .and .u8 z 128 = 0 ∨ bits .and .u8 z 64 = 0) :
    Calls Try.prog 59 #[.slice (some ⟨b, off, none⟩) len cap] w fun e w' => e = .returned (.tuple #[.slice (some ⟨w.heap.size, 0, none⟩) 1 1, .int .i64 0]) ∧ w'.cell? ⟨w.heap.size, 0, none⟩ = some (.int .i64 (z % 32)) ∧ Below w.heap.size w w' := by
  have HT := Lib.hid (typ_any z0 w hz0)
  rw [h28] at HT
  have HP := Lib.hid (part_one b (off + 1) (len - 1) (cap - 1) z w hc hz (by omega) (by omega) ht b32 b2)
  clear h28 b32 b2 ht
  have n0 : ((len : Int) == 0) = false := by simp; omega
  have hl0 : (0 : Int) < (len : Int) := by omega
  have hl1 : (1 : Int) ≤ (len : Int) := by omega
  have hl2 : (len : Int) ≤ (cap : Int) := by omega
  have hcap : ¬ cap = 1 := by omega
  go_enter Try.func59, Try.ntmps59
  go_wp2_with (first | (go_at_call 79; refine (HT.out).mono ?_; rintro e w' ⟨rfl, rfl⟩) | (go_at_call 81; fail))
  refine HP.out.mono ?_
  rintro e w1 ⟨rfl, hc1, hb1⟩
  go_wp2_with fail
  go_returns
  exact ⟨rfl, hc1, hb1⟩

theorem nb256 : ∀ u ∈ List.range 256, bits .and .u8 ((u : Nat) : Int) 224 = (u : Int) / 32 * 32 ∧ bits .or .u8 ((u : Int) / 32 * 32) 28 = (u : Int) / 32 * 32 + 28 ∧ bits .and .u8 ((u : Nat) : Int) 31 = (u : Int) % 32 ∧ bits .or .u8 ((u : Int) / 32 * 32) ((u : Int) % 32) = u ∧ bits .or .u8 ((u : Int) / 32 * 32) 24 = (u : Int) / 32 * 32 + 24 ∧ bits .and .u8 ((u : Int) / 32 * 32 + 28) 224 = (u : Int) / 32 * 32 ∧ ((u : Int) / 32 * 32 + 28) % 32 = 28 := by decide +kernel
theorem nb (u : Int) (h : 0 ≤ u ∧ u ≤ 255) : bits .and .u8 u 224 = u / 32 * 32 ∧ bits .or .u8 (u / 32 * 32) 28 = u / 32 * 32 + 28 ∧ bits .and .u8 u 31 = u % 32 ∧ bits .or .u8 (u / 32 * 32) (u % 32) = u ∧ bits .or .u8 (u / 32 * 32) 24 = u / 32 * 32 + 24 ∧ bits .and .u8 (u / 32 * 32 + 28) 224 = u / 32 * 32 ∧ (u / 32 * 32 + 28) % 32 = 28 := by
  obtain ⟨n, rfl⟩ := Int.eq_ofNat_of_zero_le h.1
  exact nb256 n (List.mem_range.2 (by omega))
theorem nf32 : ∀ r ∈ List.range 32, ∀ z ∈ ([0, 64, 128, 192] : List Int), bits .or .u8 z ((r : Nat) : Int) = z + r ∧ bits .and .u8 (z + r) 32 = 0 ∧ bits .and .u8 (z + r) 128 = (if 128 ≤ z then 128 else 0) ∧ bits .and .u8 (z + r) 64 = (if z = 64 ∨ z = 192 then 64 else 0) ∧ bits .and .u8 (z + r) 31 = r ∧ (z + r) % 32 = r := by decide +kernel
theorem nf (z r : Int) (hz : z = 0 ∨ z = 64 ∨ z = 128 ∨ z = 192) (h : 0 ≤ r ∧ r ≤ 31) : bits .or .u8 z r = z + r ∧ bits .and .u8 (z + r) 32 = 0 ∧ bits .and .u8 (z + r) 128 = (if 128 ≤ z then 128 else 0) ∧ bits .and .u8 (z + r) 64 = (if z = 64 ∨ z = 192 then 64 else 0) ∧ bits .and .u8 (z + r) 31 = r ∧ (z + r) % 32 = r := by
  obtain ⟨n, rfl⟩ := Int.eq_ofNat_of_zero_le h.1
  exact nf32 n (List.mem_range.2 (by omega)) z (by simpa using hz)

/-! ### Units -/
def isU (Z : Nat → Int) (n : Nat) : Prop := 0 < n ∧ 1 ≤ Z 0 % 32 ∧ Z 0 % 32 ≤ 23
theorem ntyp_any (z : Int) (w : World) (h : 0 ≤ z ∧ z ≤ 255) :
    Calls Try.prog 61 #[.int .u8 z] w fun e w' => e = .returned (.int .i64 (z % 32)) ∧ w = w' := by
  obtain ⟨n, rfl⟩ := Int.eq_ofNat_of_zero_le h.1
  have e1 := and31 n (List.mem_range.2 (by omega))
  have r1 : (0 : Int) ≤ (n : Int) % 32 := by omega
  have r2 : (n : Int) % 32 ≤ 31 := by omega
  generalize hr : (n : Int) % 32 = r at *
  go_enter Try.func61, Try.ntmps61
  go_wp2_with fail
  go_ret
  exact ⟨ret_int (by first | rfl | (simp; done) | (rw [IntKind.wrap_i64]; omega)), rfl⟩
theorem isUnit_any (B : Nat) (a : Option Addr) (n c : Nat) (Z : Nat → Int) (w : World) (h : BS B w a n c Z) (r : Bool) (hr : r = true ↔ isU Z n) :
    Calls Try.prog 54 #[.slice a n c] w fun e w' => e = .returned (.bool r) ∧ w = w' := by
  have hle := h.le
  have hmx := h.max
  rcases Nat.eq_zero_or_pos n with h0 | h0
  · subst h0
    have : r = false := by cases r <;> simp_all [isU]
    subst this
    clear hr h
    go_enter Try.func54, Try.ntmps54
    go_wp2_with fail
    go_ret
    exact ⟨rfl, rfl⟩
  · obtain ⟨b, off, rfl, _, hc⟩ := h.at_ (by omega)
    have c0 := hc 0 h0
    rw [Nat.add_zero] at c0
    have hz := h.bd 0 h0
    have HT := Lib.hid (ntyp_any (Z 0) w hz)
    have hb : 0 ≤ Z 0 % 32 ∧ Z 0 % 32 ≤ 31 := by omega
    unfold isU at hr
    have u0 : decide ((0 : Int) < (n : Int)) = true := by simp; omega
    have HR := Lib.hid hr
    generalize Z 0 % 32 = t at *
    clear h hc hr
    rcases (show t < 1 ∨ (1 ≤ t ∧ t ≤ 23) ∨ 23 < t by omega) with h1 | ⟨h1, h2⟩ | h1
    · have : r = false := by have := HR.out; cases r <;> simp_all; omega
      subst this
      have u1 : decide (1 ≤ t) = false := by simp; omega
      clear h1
      go_enter Try.func54, Try.ntmps54
      go_wp2_with (go_at_call 61; refine (HT.out).mono ?_; rintro e w' ⟨rfl, rfl⟩)
      go_ret
      exact ⟨rfl, rfl⟩
    · have : r = true := by have := HR.out; cases r <;> simp_all
      subst this
      have u1 : decide (1 ≤ t) = true := by simp; omega
      have u2 : decide (t ≤ 23) = true := by simp; omega
      clear h1 h2
      go_enter Try.func54, Try.ntmps54
      go_wp2_with (go_at_call 61; refine (HT.out).mono ?_; rintro e w' ⟨rfl, rfl⟩)
      go_ret
      exact ⟨rfl, rfl⟩
    · have : r = false := by have := HR.out; cases r <;> simp_all; omega
      subst this
      have u1 : decide (1 ≤ t) = true := by simp; omega
      have u2 : decide (t ≤ 23) = false := by simp; omega
      clear h1
      go_enter Try.func54, Try.ntmps54
      go_wp2_with (go_at_call 61; refine (HT.out).mono ?_; rintro e w' ⟨rfl, rfl⟩)
      go_ret
      exact ⟨rfl, rfl⟩
theorem runit_any (B : Nat) (a : Option Addr) (n c : Nat) (Z : Nat → Int) (w : World) (h : BS B w a n c Z) (r : Bool) (hr : r = true ↔ isU Z n) :
    Calls Try.prog 58 #[.slice a n c] w fun e w' => e = .returned (.bool r) ∧ w = w' := by
  have hle := h.le
  have hmx := h.max
  rcases Nat.eq_zero_or_pos n with h0 | h0
  · subst h0
    have : r = false := by cases r <;> simp_all [isU]
    subst this
    clear hr h
    go_enter Try.func58, Try.ntmps58
    go_wp2_with fail
    go_ret
    exact ⟨rfl, rfl⟩
  · obtain ⟨b, off, rfl, _, hc⟩ := h.at_ (by omega)
    have c0 := hc 0 h0
    rw [Nat.add_zero] at c0
    have hz := h.bd 0 h0
    have hb : 0 ≤ Z 0 % 32 ∧ Z 0 % 32 ≤ 31 := by omega
    unfold isU at hr
    have u0 : decide ((0 : Int) < (n : Int)) = true := by simp; omega
    have HR := Lib.hid hr
    obtain ⟨t, ht⟩ : ∃ t, Z 0 % 32 = t := ⟨_, rfl⟩
    rw [ht] at HR hb
    generalize Z 0 = u at *
    clear h hc hr
    rcases (show t < 1 ∨ (1 ≤ t ∧ t ≤ 23) ∨ 23 < t by omega) with h1 | ⟨h1, h2⟩ | h1
    · have : r = false := by have := HR.out; cases r <;> simp_all; omega
      subst this
      have u1 : decide (1 ≤ t) = false := by simp; omega
      clear h1
      go_enter Try.func58, Try.ntmps58
      go_wp2_with fail
      go_ret
      exact ⟨rfl, rfl⟩
    · have : r = true := by have := HR.out; cases r <;> simp_all
      subst this
      have u1 : decide (1 ≤ t) = true := by simp; omega
      have u2 : decide (t ≤ 23) = true := by simp; omega
      clear h1 h2
      go_enter Try.func58, Try.ntmps58
      go_wp2_with fail
      go_ret
      exact ⟨rfl, rfl⟩
    · have : r = false := by have := HR.out; cases r <;> simp_all; omega
      subst this
      have u1 : decide (1 ≤ t) = true := by simp; omega
      have u2 : decide (t ≤ 23) = false := by simp; omega
      clear h1
      go_enter Try.func58, Try.ntmps58
      go_wp2_with fail
      go_ret
      exact ⟨rfl, rfl⟩
theorem flag_any (f : Bool) (x : Int) (w : World) :
    Calls Try.prog 57 #[.bool f, .int .u8 x] w fun e w' => e = .returned (.int .u8 (if f then x else 0)) ∧ w = w' := by
  cases f
  · go_enter Try.func57, Try.ntmps57
    go_wp2_with fail
    go_ret
    exact ⟨rfl, rfl⟩
  · go_enter Try.func57, Try.ntmps57
    go_wp2_with fail
    go_ret
    exact ⟨rfl, rfl⟩
end Go.Proofs.Ytkoplofcjbeicaa
