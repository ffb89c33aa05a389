/-
  Chapter 49: the words of the reference.
-/
import Derived.Test.YtihbceippcgfgaaMtV
namespace Go.Proofs.Ytihbceippcgfgaa
open Go.RowKit
set_option linter.unusedVariables false
set_option linter.unusedSimpArgs false
attribute [local irreducible] wpStill wpQuiet

def b5 (b0 b1 b2 b3 b4 : Bool) : Nat → Bool
  | 0 => b0
  | 1 => b1
  | 2 => b2
  | 3 => b3
  | _ => b4
theorem joinW_b5 (B : Nat → Bool) : joinW B = joinW (b5 (B 0) (B 1) (B 2) (B 3) (B 4)) := by
  unfold joinW
  simp only [wds, b5]
set_option maxRecDepth 100000 in
set_option maxHeartbeats 16000000 in
theorem rover_any (R Q : Nat → Int) (w : World) :
    Calls Try.prog 59 #[.agg #[.int .i64 (R 0), .int .i64 (R 1), .int .i64 (R 2), .int .i64 (R 3), .int .i64 (R 4)], .agg #[.int .i64 (Q 0), .int .i64 (Q 1), .int .i64 (Q 2), .int .i64 (Q 3), .int .i64 (Q 4)]] w fun e w' => e = .returned (.string (joinW fun i => decide (Q i < R i))) ∧ Below w.heap.size w w' := by
  have HB := Lib.hid (joinW_b5 fun i => decide (Q i < R i))
  obtain ⟨J, hJ⟩ : ∃ J, joinW (fun i => decide (Q i < R i)) = J := ⟨_, rfl⟩
  rw [hJ] at HB
  rw [hJ]
  clear hJ
  generalize R 0 = r0 at *
  generalize R 1 = r1 at *
  generalize R 2 = r2 at *
  generalize R 3 = r3 at *
  generalize R 4 = r4 at *
  generalize Q 0 = q0 at *
  generalize Q 1 = q1 at *
  generalize Q 2 = q2 at *
  generalize Q 3 = q3 at *
  generalize Q 4 = q4 at *
  cases e0 : decide (q0 < r0) <;> cases e1 : decide (q1 < r1) <;> cases e2 : decide (q2 < r2) <;> cases e3 : decide (q3 < r3) <;> cases e4 : decide (q4 < r4)
  all_goals
    rw [e0, e1, e2, e3, e4] at HB
    go_enter Try.func59, Try.ntmps59
    go_wp2_with fail
    all_goals
      first
        | (exfalso; rename_i h; exact absurd (h.symm.trans (show _ = false by kernel_rfl)) (by decide))
        | (go_ret; exact ⟨by rw [HB.out]; kernel_rfl, by (repeat (first | exact Below.refl _ _ | refine Below.alloc ?_ (by first | (simp; done) | (simp; omega) | (simp [size_drewN]; done) | (simp [size_drewN]; omega)) _ | refine Below.drew ?_ | refine below_drewN0 ?_ _ | refine Below.setCell ?_ (by first | (simp; done) | (simp; omega) | (simp [size_drewN]; done) | (simp [size_drewN]; omega)) _))⟩)
end Go.Proofs.Ytihbceippcgfgaa
