/-
  Chapter 36: how far one stamp is behind another.
-/
import Derived.Test.YtdmbdageohjodaaRed
namespace Go.Proofs.Ytdmbdageohjodaa
open Go.RowKit
set_option linter.unusedVariables false
set_option linter.unusedSimpArgs false

/-- how far: of 32 bits -/
def far32 (a b : Int) : Int := (b - a + 2147483648) % 4294967296 - 2147483648
theorem far32_bd (a b : Int) : -2147483648 ≤ far32 a b ∧ far32 a b ≤ 2147483647 := by unfold far32; omega
theorem gone_any (a b : Int) (w : World) :
    Calls Try.prog 89 #[.int .u32 a, .int .u32 b] w fun e w' => e = .returned (.int .i64 (far32 a b)) ∧ w = w' := by
  go_enter Try.func89, Try.ntmps89
  go_wp2
  go_ret
  refine ⟨ret_int ?_, rfl⟩
  unfold far32
  go_arith
theorem rgone_any (a b : Int) (w : World) (a0 : 0 ≤ a) (a1 : a ≤ 4294967295) (b0 : 0 ≤ b) (b1 : b ≤ 4294967295) :
    Calls Try.prog 92 #[.int .u32 a, .int .u32 b] w fun e w' => e = .returned (.int .i64 (far32 a b)) ∧ w = w' := by
  go_enter Try.func92, Try.ntmps92
  go_wp2
  all_goals
    go_ret
    refine ⟨ret_int ?_, rfl⟩
    unfold far32
    go_arith
end Go.Proofs.Ytdmbdageohjodaa
