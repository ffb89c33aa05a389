/-
  Chapter 49: sums of two numbers; the comparison of two pairs.
-/
import Derived.Test.YtihbceippcgfgaaMtQ
import Derived.Deep.RegionHeld3
namespace Go.Proofs.Ytihbceippcgfgaa
open Go.RowKit
set_option linter.unusedVariables false
set_option linter.unusedSimpArgs false
attribute [local irreducible] wpStill wpQuiet

def plI (a b : Int) : Int := if 9223372036854775807 < max a 0 + max b 0 then 9223372036854775807 else max a 0 + max b 0
theorem plI_bd (a b : Int) : 0 ≤ plI a b ∧ plI a b ≤ 9223372036854775807 := by unfold plI; split <;> omega
set_option maxRecDepth 100000 in
set_option maxHeartbeats 4000000 in
theorem rplus_any (a b : Int) (w : World) (a0 : -9223372036854775808 ≤ a) (a1 : a ≤ 9223372036854775807) (b0 : -9223372036854775808 ≤ b) (b1 : b ≤ 9223372036854775807) :
    Calls Try.prog 100 #[.int .i64 a, .int .i64 b] w fun e w' => e = .returned (.int .i64 (plI a b)) ∧ w' = w := by
  obtain ⟨x, hx⟩ : ∃ x, x = max a 0 := ⟨_, rfl⟩
  obtain ⟨y, hy⟩ : ∃ y, y = max b 0 := ⟨_, rfl⟩
  have hT : Hid (plI a b = if 9223372036854775807 < x + y then 9223372036854775807 else x + y) := Lib.hid (by unfold plI; rw [← hx, ← hy])
  have x0 : 0 ≤ x := by omega
  have x1 : x ≤ 9223372036854775807 := by omega
  have y0 : 0 ≤ y := by omega
  have y1 : y ≤ 9223372036854775807 := by omega
  have m1 : x % 18446744073709551616 = x := by omega
  have m2 : y % 18446744073709551616 = y := by omega
  have m3 : (x + y) % 18446744073709551616 = x + y := by omega
  have k1 : IntKind.u64.wrap x = x := by rw [IntKind.wrap_u64]; exact m1
  have k2 : IntKind.u64.wrap y = y := by rw [IntKind.wrap_u64]; exact m2
  have k3 : IntKind.u64.wrap (x + y) = x + y := by rw [IntKind.wrap_u64]; exact m3
  rcases (show a < 0 ∨ 0 ≤ a by omega) with ha | ha
  · have ea : decide (a < 0) = true := by simpa using ha
    obtain rfl : x = 0 := by omega
    rcases (show b < 0 ∨ 0 ≤ b by omega) with hb | hb
    · have eb : decide (b < 0) = true := by simpa using hb
      obtain rfl : y = 0 := by omega
      rw [if_neg (by omega)] at hT
      clear ha hb hx hy
      go_enter Try.func100, Try.ntmps100
      go_wp2_with fail
      go_ret
      exact ⟨by rw [hT.out]; rfl, rfl⟩
    · have eb : decide (b < 0) = false := by (simp; omega)
      obtain rfl : y = b := by omega
      rw [if_neg (by omega)] at hT
      have e9 : decide (9223372036854775807 < y) = false := by (simp; omega)
      have w1 : IntKind.i64.wrap y = y := IntWalk.i64_in _ (by omega)
      have w2 : wrap64 y = y := wrap64_in _ y0 y1
      rw [Int.zero_add] at hT
      clear ha hb hx hy
      go_enter Try.func100, Try.ntmps100
      go_wp2_with fail
      go_ret
      exact ⟨by rw [hT.out]; rfl, rfl⟩
  · have ea : decide (a < 0) = false := by (simp; omega)
    obtain rfl : x = a := by omega
    rcases (show b < 0 ∨ 0 ≤ b by omega) with hb | hb
    · have eb : decide (b < 0) = true := by simpa using hb
      obtain rfl : y = 0 := by omega
      rw [if_neg (by omega)] at hT
      have e9 : decide (9223372036854775807 < x) = false := by (simp; omega)
      have w1 : IntKind.i64.wrap x = x := IntWalk.i64_in _ (by omega)
      have w2 : wrap64 x = x := wrap64_in _ x0 x1
      rw [Int.add_zero] at hT
      clear ha hb hx hy
      go_enter Try.func100, Try.ntmps100
      go_wp2_with fail
      go_ret
      exact ⟨by rw [hT.out]; rfl, rfl⟩
    · have eb : decide (b < 0) = false := by (simp; omega)
      obtain rfl : y = b := by omega
      clear hx hy
      rcases (show 9223372036854775807 < x + y ∨ ¬ 9223372036854775807 < x + y by omega) with hc | hc
      · have ec : decide (9223372036854775807 < x + y) = true := by simpa using hc
        rw [if_pos hc] at hT
        clear ha hb hc
        go_enter Try.func100, Try.ntmps100
        go_wp2_with fail
        go_ret
        exact ⟨by rw [hT.out]; rfl, rfl⟩
      · have ec : decide (9223372036854775807 < x + y) = false := by simpa using hc
        rw [if_neg hc] at hT
        have w1 : IntKind.i64.wrap (x + y) = x + y := IntWalk.i64_in _ (by omega)
        have w2 : wrap64 (x + y) = x + y := wrap64_in _ (by omega) (by omega)
        clear ha hb hc
        go_enter Try.func100, Try.ntmps100
        go_wp2_with fail
        go_ret
        exact ⟨by rw [hT.out]; rfl, rfl⟩
set_option maxHeartbeats 2000000 in
theorem plus_any (a b : Int) (w : World) (p cap : Nat) (c0 : w.cell? ⟨p, 0, none⟩ = some (.int .i64 a)) (c1 : w.cell? ⟨p, 1, none⟩ = some (.int .i64 b)) (hcap : 2 ≤ cap) (a0 : -9223372036854775808 ≤ a) (a1 : a ≤ 9223372036854775807) (b0 : -9223372036854775808 ≤ b) (b1 : b ≤ 9223372036854775807) :
    Calls Try.prog 98 #[.slice (some ⟨p, 0, none⟩) 2 cap] w fun e w' => e = .returned (.int .i64 (plI a b)) ∧ w' = w := by
  obtain ⟨x, hx⟩ : ∃ x, max a 0 = x := ⟨_, rfl⟩
  obtain ⟨y, hy⟩ : ∃ y, max b 0 = y := ⟨_, rfl⟩
  have hT : Hid (plI a b = if 9223372036854775807 < x + y then 9223372036854775807 else x + y) := Lib.hid (by unfold plI; rw [← hx, ← hy])
  have x0 : 0 ≤ x := by omega
  have x1 : x ≤ 9223372036854775807 := by omega
  have y0 : 0 ≤ y := by omega
  have y1 : y ≤ 9223372036854775807 := by omega
  go_enter Try.func98, Try.ntmps98
  go_wp2_with fail
  go_loopw [3, 8] (fun so si wr => ((si = .int .i64 0 ∧ so = .int .i64 0) ∨ (si = .int .i64 1 ∧ so = .int .i64 x) ∨ (si = .int .i64 2 ∧ so = .int .i64 (x + y) ∧ Hid (x + y ≤ 9223372036854775807))) ∧ wr = w) (fun _ si _ => 2 - (intOf si).toNat)
  case atStart => exact ⟨.inl ⟨rfl, rfl⟩, rfl⟩
  case round =>
    obtain ⟨⟨rfl, rfl⟩ | ⟨rfl, rfl⟩ | ⟨rfl, rfl, hle⟩, rfl⟩ := hrel
    · have e1 : decide (9223372036854775807 < x) = false := by (simp; omega)
      have w1 : IntKind.i64.wrap x = x := IntWalk.i64_in _ (by omega)
      have w2 : wrap64 x = x := wrap64_in _ x0 x1
      go_wp2_with fail
      go_roundw
      case rel => exact ⟨.inr (.inl ⟨rfl, rfl⟩), trivial⟩
      case measure => simp [intOf]
    · have w3 : IntKind.i64.wrap (9223372036854775807 - x) = 9223372036854775807 - x := IntWalk.i64_in _ (by omega)
      have w4 : wrap64 (9223372036854775807 - x) = 9223372036854775807 - x := wrap64_in _ (by omega) (by omega)
      rcases (show 9223372036854775807 - x < y ∨ ¬ 9223372036854775807 - x < y by omega) with hc | hc
      · have ec : decide (9223372036854775807 - x < y) = true := by simpa using hc
        rw [if_pos (by omega)] at hT
        clear hc
        go_wp2_with fail
        go_ret
        exact ⟨by rw [hT.out]; rfl, rfl⟩
      · have ec : decide (9223372036854775807 - x < y) = false := by simpa using hc
        have hle : Hid (x + y ≤ 9223372036854775807) := Lib.hid (by omega)
        have w1 : IntKind.i64.wrap (x + y) = x + y := IntWalk.i64_in _ (by omega)
        have w2 : wrap64 (x + y) = x + y := wrap64_in _ (by omega) (by omega)
        clear hc
        go_wp2_with fail
        go_roundw
        case rel => exact ⟨.inr (.inr ⟨rfl, rfl, hle⟩), trivial⟩
        case measure => simp [intOf]
    · have := hle.out
      rw [if_neg (by omega)] at hT
      clear this
      go_wp2_with fail
      go_ret
      exact ⟨by rw [hT.out]; rfl, rfl⟩
def cmpI (x y : Int) : Int := if x < y then -1 else if y < x then 1 else 0
theorem cmp_any (x y : Int) (w : World) : Calls Try.prog 114 #[.int .i64 x, .int .i64 y] w fun e w' => e = .returned (.int .i64 (cmpI x y)) ∧ w' = w := by
  unfold cmpI
  rcases (show x < y ∨ (¬ x < y ∧ y < x) ∨ (¬ x < y ∧ ¬ y < x) by omega) with h | ⟨h1, h2⟩ | ⟨h1, h2⟩
  · rw [if_pos h]
    have e1 : decide (x < y) = true := by simpa using h
    clear h
    go_enter Try.func114, Try.ntmps114
    go_wp2_with go_in
    go_ret
    exact ⟨rfl, rfl⟩
  · rw [if_neg h1, if_pos h2]
    have e1 : decide (x < y) = false := by simpa using h1
    have e2 : decide (y < x) = true := by simpa using h2
    clear h1 h2
    go_enter Try.func114, Try.ntmps114
    go_wp2_with go_in
    go_ret
    exact ⟨rfl, rfl⟩
  · rw [if_neg h1, if_neg h2]
    have e1 : decide (x < y) = false := by simpa using h1
    have e2 : decide (y < x) = false := by simpa using h2
    clear h1 h2
    go_enter Try.func114, Try.ntmps114
    go_wp2_with go_in
    go_ret
    exact ⟨rfl, rfl⟩
end Go.Proofs.Ytihbceippcgfgaa
