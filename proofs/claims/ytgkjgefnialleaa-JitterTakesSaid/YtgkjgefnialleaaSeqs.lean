/-
  Contracts of package seqs and its reference, and of the statements' examples.
-/
import Derived.Test.YtgkjgefnialleaaBase
import Derived.Test.YtgkjgefnialleaaProg
namespace Go.Proofs.Ytgkjgefnialleaa
open Go.RowKit
set_option linter.unusedVariables false
set_option linter.unusedSimpArgs false

theorem seq_any (i : Int) (w : World) :
    Calls Try.prog 18 #[.int .i64 i] w fun e w' => e = .returned (.int .u16 (i % 65536)) ∧ w = w' := by
  go_enter Try.func18, Try.ntmps18
  go_wp2
  go_ret
  exact ⟨rfl, rfl⟩

/-- the likely index -/
def sidx (h s : Int) : Int :=
  if h < 0 then s else
  if h % 65536 < s then (if s - h % 65536 ≤ 32768 then h - h % 65536 + s else if h - h % 65536 + s < 65536 then h - h % 65536 + s else h - h % 65536 + s - 65536)
  else (if h % 65536 - s ≤ 32767 then h - h % 65536 + s else h - h % 65536 + s + 65536)

set_option maxHeartbeats 400000 in
theorem index_any (h s : Int) (w : World) (h0 : -9223372036854775808 ≤ h) (h1 : h ≤ 4611686018427387904) (s0 : 0 ≤ s) (s1 : s ≤ 65535) :
    Calls Try.prog 16 #[.int .i64 h, .int .u16 s] w fun e w' => e = .returned (.int .i64 (sidx h s)) ∧ w = w' := by
  go_enter Try.func16, Try.ntmps16
  go_wp2_with (go_at_call 18; refine (seq_any _ _).mono ?_; rintro e w' ⟨rfl, rfl⟩)
  all_goals
    go_ret
    refine ⟨ret_int ?_, rfl⟩
    try simp only [wrap64, IntKind.wrap_u16] at *
    unfold sidx
    omega

set_option maxHeartbeats 400000 in
theorem rindex_any (h s : Int) (w : World) (h0 : -9223372036854775808 ≤ h) (h1 : h ≤ 4611686018427387904) (s0 : 0 ≤ s) (s1 : s ≤ 65535) :
    Calls Try.prog 17 #[.int .i64 h, .int .u16 s] w fun e w' => e = .returned (.int .i64 (sidx h s)) ∧ w = w' := by
  by_cases hn : h < 0
  · go_enter Try.func17, Try.ntmps17
    go_wp2
    go_ret
    exact ⟨ret_int (by unfold sidx; rw [if_pos hn]), rfl⟩
  · go_enter Try.func17, Try.ntmps17
    go_wp2
    go_loop [5] (fun i => ∃ n : Int, i = .int .i64 n ∧ n % 65536 = s ∧ h - 65535 ≤ n ∧ n ≤ h + 65535) (fun i => (intOf i - h + 65536).toNat)
    case atStart => exact ⟨_, rfl, by omega, by omega, by omega⟩
    case round =>
      obtain ⟨n, rfl, hm, hl, hu⟩ := hrel
      have HM := Lib.hid hm
      clear hm
      go_wp2
      · go_round
        case rel => exact ⟨_, rfl, by have := HM.out; omega, by omega, by omega⟩
        case measure => simp [intOf]; omega
      · go_loop [5] (fun i => ∃ n : Int, i = .int .i64 n ∧ n % 65536 = s ∧ h - 65535 ≤ n ∧ n ≤ h + 32768) (fun i => (h - intOf i + 65536).toNat)
        case atStart => exact ⟨_, rfl, HM.out, by omega, by omega⟩
        case round =>
          clear HM hl hu
          obtain ⟨n, rfl, hm, hl, hu⟩ := hrel
          have HM := Lib.hid hm
          clear hm
          go_wp2
          · go_round
            case rel => exact ⟨_, rfl, by have := HM.out; omega, by omega, by omega⟩
            case measure => simp [intOf]; omega
          · go_ret
            exact ⟨ret_int (by have := HM.out; unfold sidx; omega), rfl⟩
          · go_ret
            exact ⟨ret_int (by have := HM.out; unfold sidx; omega), rfl⟩

theorem sidx_spec (h s : Int) (h1 : h ≤ 4611686018427387904) (s0 : 0 ≤ s) (s1 : s ≤ 65535) : 0 ≤ sidx h s ∧ sidx h s % 65536 = s ∧ sidx h s ≤ 4611686018427487904 := by
  unfold sidx; omega

/-- how far: of 16 bits -/
def far16 (a b : Int) : Int := (b - a + 32768) % 65536 - 32768
/-- how far: of 32 bits -/
def far32 (a b : Int) : Int := (b - a + 2147483648) % 4294967296 - 2147483648
theorem far16_bd (a b : Int) : -32768 ≤ far16 a b ∧ far16 a b ≤ 32767 := by unfold far16; omega
theorem far32_bd (a b : Int) : -2147483648 ≤ far32 a b ∧ far32 a b ≤ 2147483647 := by unfold far32; omega

theorem ahead_any (a b : Int) (w : World) (a0 : 0 ≤ a) (a1 : a ≤ 65535) (b0 : 0 ≤ b) (b1 : b ≤ 65535) :
    Calls Try.prog 19 #[.int .u16 a, .int .u16 b] w fun e w' => e = .returned (.int .i64 (far16 a b)) ∧ w = w' := by
  go_enter Try.func19, Try.ntmps19
  go_wp2
  go_ret
  refine ⟨ret_int ?_, rfl⟩
  unfold far16
  go_arith
theorem gone_any (a b : Int) (w : World) :
    Calls Try.prog 22 #[.int .u32 a, .int .u32 b] w fun e w' => e = .returned (.int .i64 (far32 a b)) ∧ w = w' := by
  go_enter Try.func22, Try.ntmps22
  go_wp2
  go_ret
  refine ⟨ret_int ?_, rfl⟩
  unfold far32
  go_arith
end Go.Proofs.Ytgkjgefnialleaa
