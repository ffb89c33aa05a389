/-
  Whether a payload of chapter 14 begins a whole picture: of one unit, and of a piece of one; the walk of AvcPieces.
-/
import Derived.Test.YtihbceippcgfgaaProg
import Derived.Test.YtihbceippcgfgaaBase
import Derived.Test.YtihbceippcgfgaaReads
import Derived.Test.YtihbceippcgfgaaBytes
import Derived.Test.YtihbceippcgfgaaAppend
namespace Go.Proofs.Ytihbceippcgfgaa
open Go.RowKit
set_option linter.unusedVariables false
set_option linter.unusedSimpArgs false

theorem and31 : ∀ b ∈ List.range 256, bits .and .u8 ((b : Nat) : Int) 31 = (b : Int) % 32 := by decide +kernel
def isKey (t : Int) : Bool := t == 5 || (t == 7 || t == 8)

theorem typ_any (z : Int) (w : World) (h : 0 ≤ z ∧ z ≤ 255) :
    Calls Try.prog 83 #[.int .u8 z] w fun e w' => e = .returned (.int .i64 (z % 32)) ∧ w = w' := by
  obtain ⟨n, rfl⟩ := Int.eq_ofNat_of_zero_le h.1
  have e1 := and31 n (List.mem_range.2 (by omega))
  have r1 : (0 : Int) ≤ (n : Int) % 32 := by omega
  have r2 : (n : Int) % 32 ≤ 31 := by omega
  generalize hr : (n : Int) % 32 = r at *
  go_enter Try.func83, Try.ntmps83
  go_wp2_with fail
  go_ret
  exact ⟨ret_int (by first | rfl | (simp; done) | (rw [IntKind.wrap_i64]; omega)), rfl⟩
theorem key1_any (t : Int) (w : World) :
    Calls Try.prog 85 #[.int .i64 t] w fun e w' => e = .returned (.bool (isKey t)) ∧ w = w' := by
  by_cases h5 : t = 5
  · subst h5
    go_enter Try.func85, Try.ntmps85
    go_wp2_with fail
    go_ret
    exact ⟨rfl, rfl⟩
  have e5 : (t == 5) = false := by simpa using h5
  by_cases h7 : t = 7
  · subst h7
    go_enter Try.func85, Try.ntmps85
    go_wp2_with fail
    go_ret
    exact ⟨rfl, rfl⟩
  have e7 : (t == 7) = false := by simpa using h7
  have E := Lib.hid (show isKey t = (t == 8) by simp [isKey, e5, e7])
  go_enter Try.func85, Try.ntmps85
  go_wp2_with fail
  go_ret
  exact ⟨ret_bool E.out.symm, rfl⟩
theorem idx_any (c cap : Nat) (t : Int) (w : World) (h : w.cell? ⟨c, 0, none⟩ = some (.int .i64 t)) :
    Calls Try.prog 110 #[.slice (some ⟨c, 0, none⟩) 1 cap, .func (.func 85) #[] #[]] w fun e w' => e = .returned (.int .i64 (bif isKey t then 0 else -1)) ∧ w = w' := by
  cases hk : isKey t
  · have HK := Lib.hid (key1_any t w)
    rw [hk] at HK
    clear hk
    go_enter Try.func110, Try.ntmps110
    go_wp2_with fail
    go_loop [8] (fun si => ∃ k : Nat, k ≤ 1 ∧ si = .int .i64 k) (fun si => 1 - (intOf si).toNat)
    case atStart => exact ⟨0, by omega, rfl⟩
    case round =>
      obtain ⟨k, hk, rfl⟩ := hrel
      by_cases h0 : k < 1
      · obtain rfl : k = 0 := by omega
        go_wp2_with (go_at_call 85; refine (HK.out).mono ?_; rintro e w' ⟨rfl, rfl⟩)
        go_round
        case rel => exact ⟨1, by omega, rfl⟩
        case measure => simp [intOf] <;> omega
      · obtain rfl : k = 1 := by omega
        go_wp2_with fail
        go_ret
        exact ⟨rfl, rfl⟩
  · have HK := Lib.hid (key1_any t w)
    rw [hk] at HK
    clear hk
    go_enter Try.func110, Try.ntmps110
    go_wp2_with fail
    go_loop [8] (fun si => si = .int .i64 0) (fun si => 1)
    case atStart => rfl
    case round =>
      obtain rfl := hrel
      go_wp2_with (go_at_call 85; refine (HK.out).mono ?_; rintro e w' ⟨rfl, rfl⟩)
      go_ret
      exact ⟨rfl, rfl⟩
theorem cf_any (c cap : Nat) (t : Int) (w : World) (h : w.cell? ⟨c, 0, none⟩ = some (.int .i64 t)) :
    Calls Try.prog 84 #[.slice (some ⟨c, 0, none⟩) 1 cap, .func (.func 85) #[] #[]] w fun e w' => e = .returned (.bool (isKey t)) ∧ w = w' := by
  have HI := Lib.hid (idx_any c cap t w h)
  cases hk : isKey t
  all_goals
    rw [hk] at HI
    clear hk
    go_enter Try.func84, Try.ntmps84
    go_wp2_with (go_at_call 110; refine (HI.out).mono ?_; rintro e w' ⟨rfl, rfl⟩)
    go_ret
    exact ⟨rfl, rfl⟩

/-- a unit of its own -/
theorem units_one (b off len cap : Nat) (z : Int) (w : World) (hc : w.cell? ⟨b, off, none⟩ = some (.int .u8 z)) (hz : 0 ≤ z ∧ z ≤ 255) (hl : 1 ≤ len) (hm : len ≤ 9223372036854775807) (ht : 1 ≤ z % 32 ∧ z % 32 ≤ 23) :
    Calls Try.prog 82 #[.slice (some ⟨b, off, none⟩) len cap] w fun e w' => e = .returned (.tuple #[.slice (some ⟨w.heap.size, 0, none⟩) 1 1, .int .i64 0]) ∧ w'.cell? ⟨w.heap.size, 0, none⟩ = some (.int .i64 (z % 32)) ∧ Below w.heap.size w w' := by
  have HT := Lib.hid (typ_any z w hz)
  generalize z % 32 = t at *
  have n0 : ((len : Int) == 0) = false := by simp; omega
  have e1 : (t == 24) = false := by simp; omega
  have e2 : (t == 28) = false := by simp; omega
  have e3 : decide (1 ≤ t) = true := by simp; omega
  have e4 : decide (t ≤ 23) = true := by simp; omega
  have hl0 : (0 : Int) < (len : Int) := by omega
  go_enter Try.func82, Try.ntmps82
  go_wp2_with (go_at_call 83; refine (HT.out).mono ?_; rintro e w' ⟨rfl, rfl⟩)
  go_returns
  exact ⟨rfl, by simp, by (repeat (first | exact Below.refl _ _ | refine Below.alloc ?_ (by first | (simp; done) | (simp; omega) | (simp [size_drewN]; done) | (simp [size_drewN]; omega)) _ | refine Below.drew ?_ | refine below_drewN0 ?_ _ | refine Below.setCell ?_ (by first | (simp; done) | (simp; omega) | (simp [size_drewN]; done) | (simp [size_drewN]; omega)) _))⟩
theorem part_one (b off len cap : Nat) (z : Int) (w : World) (hc : w.cell? ⟨b, off, none⟩ = some (.int .u8 z)) (hz : 0 ≤ z ∧ z ≤ 255) (hl : 2 ≤ len) (hm : len ≤ 9223372036854775807) (ht : 1 ≤ z % 32 ∧ z % 32 ≤ 23)
    (b32 : bits .and .u8 z 32 = 0) (b2 : bits .and .u8 z 128 = 0 ∨ bits .and .u8 z 64 = 0) :
    Calls Try.prog 109 #[.slice (some ⟨b, off, none⟩) len cap] w fun e w' => e = .returned (.tuple #[.slice (some ⟨w.heap.size, 0, none⟩) 1 1, .int .i64 0]) ∧ w'.cell? ⟨w.heap.size, 0, none⟩ = some (.int .i64 (z % 32)) ∧ Below w.heap.size w w' := by
  have HT := Lib.hid (typ_any z w hz)
  generalize z % 32 = t at *
  have n0 : decide ((len : Int) < 2) = false := by simp; omega
  have e3 : decide (t < 1) = false := by simp; omega
  have e4 : decide (23 < t) = false := by simp; omega
  have hl0 : (0 : Int) < (len : Int) := by omega
  generalize hu : bits .and .u8 z 128 = u at *
  generalize hv : bits .and .u8 z 64 = v at *
  by_cases hu0 : u = 0
  · subst hu0
    clear b2
    go_enter Try.func109, Try.ntmps109
    go_wp2_with (go_at_call 83; refine (HT.out).mono ?_; rintro e w' ⟨rfl, rfl⟩)
    go_returns
    exact ⟨rfl, by simp, by (repeat (first | exact Below.refl _ _ | refine Below.alloc ?_ (by first | (simp; done) | (simp; omega) | (simp [size_drewN]; done) | (simp [size_drewN]; omega)) _ | refine Below.drew ?_ | refine below_drewN0 ?_ _ | refine Below.setCell ?_ (by first | (simp; done) | (simp; omega) | (simp [size_drewN]; done) | (simp [size_drewN]; omega)) _))⟩
  · have hv0 : v = 0 := by rcases b2 with h | h; exact absurd h hu0; exact h
    subst hv0
    have nu : (u != 0) = true := by simpa using hu0
    clear b2 hu0
    go_enter Try.func109, Try.ntmps109
    go_wp2_with (go_at_call 83; refine (HT.out).mono ?_; rintro e w' ⟨rfl, rfl⟩)
    go_returns
    exact ⟨rfl, by simp, by (repeat (first | exact Below.refl _ _ | refine Below.alloc ?_ (by first | (simp; done) | (simp; omega) | (simp [size_drewN]; done) | (simp [size_drewN]; omega)) _ | refine Below.drew ?_ | refine below_drewN0 ?_ _ | refine Below.setCell ?_ (by first | (simp; done) | (simp; omega) | (simp [size_drewN]; done) | (simp [size_drewN]; omega)) _))⟩
/-- a piece -/
theorem units_piece (b off len cap : Nat) (z0 z : Int) (w : World) (h0 : w.cell? ⟨b, off, none⟩ = some (.int .u8 z0)) (hz0 : 0 ≤ z0 ∧ z0 ≤ 255) (h28 : z0 % 32 = 28) (hc : w.cell? ⟨b, off + 1, none⟩ = some (.int .u8 z)) (hz : 0 ≤ z ∧ z ≤ 255) (hl : 3 ≤ len) (hlc : len ≤ cap) (hm : cap ≤ 9223372036854775807) (ht : 1 ≤ z % 32 ∧ z % 32 ≤ 23)
    (b32 : bits .and .u8 z 32 = 0) (b2 : bits .and .u8 z 128 = 0 ∨ bits .and .u8 z 64 = 0) :
    Calls Try.prog 82 #[.slice (some ⟨b, off, none⟩) len cap] w fun e w' => e = .returned (.tuple #[.slice (some ⟨w.heap.size, 0, none⟩) 1 1, .int .i64 0]) ∧ w'.cell? ⟨w.heap.size, 0, none⟩ = some (.int .i64 (z % 32)) ∧ Below w.heap.size w w' := by
  have HT := Lib.hid (typ_any z0 w hz0)
  rw [h28] at HT
  have HP := Lib.hid (part_one b (off + 1) (len - 1) (cap - 1) z w hc hz (by omega) (by omega) ht b32 b2)
  clear h28 b32 b2 ht
  have n0 : ((len : Int) == 0) = false := by simp; omega
  have hl0 : (0 : Int) < (len : Int) := by omega
  have hl1 : (1 : Int) ≤ (len : Int) := by omega
  have hl2 : (len : Int) ≤ (cap : Int) := by omega
  have hcap : ¬ cap = 1 := by omega
  go_enter Try.func82, Try.ntmps82
  go_wp2_with (first | (go_at_call 83; refine (HT.out).mono ?_; rintro e w' ⟨rfl, rfl⟩) | (go_at_call 109; fail))
  refine HP.out.mono ?_
  rintro e w1 ⟨rfl, hc1, hb1⟩
  go_wp2_with fail
  go_returns
  exact ⟨rfl, hc1, hb1⟩
end Go.Proofs.Ytihbceippcgfgaa
