/-
  Num of package octets (lines of XOct, for other seats).
-/
import Derived.Test.YtkoplofcjbeicaaBytes
import Derived.Deep.Onto
import Derived.Test.YtkoplofcjbeicaaProg
namespace Go.Proofs.Ytkoplofcjbeicaa
open Go.RowKit
set_option linter.unusedVariables false
set_option linter.unusedSimpArgs false

/-- the number that k bytes from s on are -/
def numv (Z : Nat → Int) (s : Nat) : Nat → Int
  | 0 => 0
  | k + 1 => numv Z s k * 256 + Z (s + k)
theorem numv_bd (Z : Nat → Int) (s k : Nat) (h : ∀ i, i < k → 0 ≤ Z (s + i) ∧ Z (s + i) ≤ 255) : 0 ≤ numv Z s k ∧ numv Z s k < 256 ^ k := by
  induction k with
  | zero => simp [numv]
  | succ k ih =>
    have := ih (fun i hi => h i (by omega))
    have hk := h k (by omega)
    rw [numv, Int.pow_succ]
    omega
theorem pow7 : ∀ k, k < 8 → (256 : Int) ^ k ≤ 72057594037927936 := by decide
/-- are n bytes there? -/
def there (len : Nat) (at' n : Int) : Bool := decide (1 ≤ n) && decide (n ≤ 8) && decide (0 ≤ at') && decide (at' ≤ len) && decide (n ≤ len - at')
def numOr (Z : Nat → Int) (len : Nat) (at' n : Int) : Int := if there len at' n then numv Z at'.toNat n.toNat else 0
theorem there_iff (len : Nat) (at' n : Int) : there len at' n = true ↔ 1 ≤ n ∧ n ≤ 8 ∧ 0 ≤ at' ∧ at' ≤ len ∧ n ≤ len - at' := by simp [there, and_assoc]

theorem or_low (x c : Int) (hx : 0 ≤ x) (hx2 : x < 72057594037927936) (hc : 0 ≤ c ∧ c ≤ 255) : bits BinOp.or IntKind.u64 (x * 256) c = x * 256 + c := by
  obtain ⟨x, rfl⟩ := Int.eq_ofNat_of_zero_le hx
  obtain ⟨c, rfl⟩ := Int.eq_ofNat_of_zero_le hc.1
  have h := bits_or_u64_nat (x * 256) c (by omega) (by omega)
  rw [show ((x : Int) * 256) = ((x * 256 : Nat) : Int) by omega, h]
  have := Nat.shiftLeft_add_eq_or_of_lt (show c < 2 ^ 8 by omega) x
  rw [Nat.shiftLeft_eq, show (2 : Nat) ^ 8 = 256 by decide] at this
  rw [← this]
  omega

theorem num_any (B : Nat) (a : Option Addr) (len cap : Nat) (Z : Nat → Int) (at' n : Int) (w : World) (hb : BS B w a len cap Z) (ha0 : -9223372036854775808 ≤ at') (ha1 : at' ≤ 9223372036854775807) (hn0 : -9223372036854775808 ≤ n) (hn1 : n ≤ 9223372036854775807) :
    Calls Try.prog 40 #[.slice a len cap, .int .i64 at', .int .i64 n] w fun e w' => e = .returned (.tuple #[.int .u64 (numOr Z len at' n), .bool (there len at' n)]) ∧ w = w' := by
  have hle := hb.le
  have hmx := hb.max
  by_cases ht : 1 ≤ n ∧ n ≤ 8 ∧ 0 ≤ at' ∧ at' ≤ len ∧ n ≤ len - at'
  · have e1 : there len at' n = true := (there_iff _ _ _).2 ht
    have e2 : numOr Z len at' n = numv Z at'.toNat n.toNat := by unfold numOr; rw [if_pos e1]
    rw [e1, e2]
    obtain ⟨t1, t2, t3, t4, t5⟩ := ht
    obtain ⟨b, off, rfl, hbB, hc⟩ := hb.at_ (by omega)
    obtain ⟨s, rfl⟩ := Int.eq_ofNat_of_zero_le t3
    obtain ⟨m, rfl⟩ := Int.eq_ofNat_of_zero_le (show 0 ≤ n by omega)
    have hbd := hb.bd
    have HC := Lib.hid hc
    have HB := Lib.hid hbd
    clear hb e1 e2 hc hbd
    rw [Int.toNat_natCast, Int.toNat_natCast]
    go_enter Try.func40, Try.ntmps40
    go_wp2_with fail
    go_loop [8, 42] (fun sx si => ∃ (k : Nat) (x : Int), k ≤ m ∧ si = .int .i64 k ∧ sx = .int .u64 x ∧ Hid (x = numv Z s k)) (fun _ si => m - (intOf si).toNat)
    case atStart => exact ⟨0, 0, by omega, rfl, rfl, rfl⟩
    case round =>
      obtain ⟨k, x, hk, rfl, rfl, hx⟩ := hrel
      by_cases hlt : k < m
      · have hcell := HC.out (s + k) (by omega)
        rw [← Nat.add_assoc] at hcell
        have hzb := HB.out (s + k) (by omega)
        have hnb := numv_bd Z s k (fun i hi => HB.out (s + i) (by omega))
        rw [← hx.out] at hnb
        have hp := pow7 k (by omega)
        have hx0 : 0 ≤ x := hnb.1
        have hx1 : x < 72057594037927936 := by have := hnb.2; omega
        clear hnb hp
        have hor := or_low x (Z (s + k)) hx0 hx1 hzb
        go_wp2_with fail
        go_round
        case rel => exact ⟨k + 1, x * 256 + Z (s + k), by omega, by go_num, rfl, by show _ = _; rw [hx.out]; rfl⟩
        case measure => simp [intOf] <;> omega
      · obtain rfl : k = m := by omega
        go_wp2_with fail
        go_ret2
        exact ⟨by rw [hx.out]; rfl, rfl⟩
  · have e1 : there len at' n = false := by rw [← Bool.not_eq_true, there_iff]; exact ht
    have e2 : numOr Z len at' n = 0 := by unfold numOr; rw [e1]; rfl
    rw [e1, e2]
    clear hb e1 e2
    by_cases c1 : n < 1
    · go_enter Try.func40, Try.ntmps40
      go_wp2_with fail
      go_ret2
      exact ⟨rfl, rfl⟩
    by_cases c2 : 8 < n
    · go_enter Try.func40, Try.ntmps40
      go_wp2_with fail
      go_ret2
      exact ⟨rfl, rfl⟩
    by_cases c3 : at' < 0
    · go_enter Try.func40, Try.ntmps40
      go_wp2_with fail
      go_ret2
      exact ⟨rfl, rfl⟩
    by_cases c4 : len < at'
    · go_enter Try.func40, Try.ntmps40
      go_wp2_with fail
      go_ret2
      exact ⟨rfl, rfl⟩
    have c5 : (len : Int) - at' < n := by omega
    clear ht
    go_enter Try.func40, Try.ntmps40
    go_wp2_with fail
    go_ret2
    exact ⟨rfl, rfl⟩

end Go.Proofs.Ytkoplofcjbeicaa
