/-
  Chapter 49: the words of a reading that is above another one.
-/
import Derived.Test.YtihbceippcgfgaaJoin
import Derived.Test.YtihbceippcgfgaaReads
import Derived.StillTailTactics
import Derived.Deep.QuietTactic
import Derived.BigQuiet
import Derived.IntWalk
namespace Go.Proofs.Ytihbceippcgfgaa
open Go.RowKit
set_option linter.unusedVariables false
set_option linter.unusedSimpArgs false
attribute [local irreducible] wpStill wpQuiet

def rdV (R : Nat → Int) : Value := .agg #[.int .i64 (R 0), .int .i64 (R 1), .int .i64 (R 2), .int .i64 (R 3), .int .i64 (R 4)]
def rdC (R : Nat → Int) : Array Value := #[.int .i64 (R 0), .int .i64 (R 1), .int .i64 (R 2), .int .i64 (R 3), .int .i64 (R 4)]
theorem of_any (R : Nat → Int) (w : World) : Calls Try.prog 95 #[.agg #[.int .i64 (R 0), .int .i64 (R 1), .int .i64 (R 2), .int .i64 (R 3), .int .i64 (R 4)]] w fun e w' => e = .returned (.agg #[.int .i64 (R 0), .int .i64 (R 1), .int .i64 (R 2), .int .i64 (R 3), .int .i64 (R 4)]) ∧ Below w.heap.size w w' := by
  go_enter Try.func95, Try.ntmps95
  go_wp2_with fail
  go_returns
  exact ⟨rfl, by (repeat (first | exact Below.refl _ _ | refine Below.alloc ?_ (by first | (simp; done) | (simp; omega) | (simp [size_drewN]; done) | (simp [size_drewN]; omega)) _ | refine Below.drew ?_ | refine below_drewN0 ?_ _ | refine Below.setCell ?_ (by first | (simp; done) | (simp; omega) | (simp [size_drewN]; done) | (simp [size_drewN]; omega)) _))⟩
def nmS : Nat → ByteArray
  | 0 => ⟨#[116, 114, 97, 99, 107, 115]⟩
  | 1 => ⟨#[108, 97, 121, 101, 114, 115]⟩
  | 2 => ⟨#[115, 117, 98, 115]⟩
  | 3 => ⟨#[112, 97, 99, 107, 101, 116, 115]⟩
  | _ => ⟨#[98, 121, 116, 101, 115]⟩
theorem names_any (w : World) : Calls Try.prog 96 #[] w fun e w' => e = .returned (.agg #[.string (nmS 0), .string (nmS 1), .string (nmS 2), .string (nmS 3), .string (nmS 4)]) ∧ Below w.heap.size w w' := by
  go_enter Try.func96, Try.ntmps96
  go_wp2_with fail
  go_returns
  exact ⟨rfl, by (repeat (first | exact Below.refl _ _ | refine Below.alloc ?_ (by first | (simp; done) | (simp; omega) | (simp [size_drewN]; done) | (simp [size_drewN]; omega)) _ | refine Below.drew ?_ | refine below_drewN0 ?_ _ | refine Below.setCell ?_ (by first | (simp; done) | (simp; omega) | (simp [size_drewN]; done) | (simp [size_drewN]; omega)) _))⟩
theorem ix5_0 (a b c d e : Int) (W : World) : (Instr.index 166 (.agg #[.int .i64 a, .int .i64 b, .int .i64 c, .int .i64 d, .int .i64 e]) (.int .i64 0)).run Try.prog W = .ok (.int .i64 a) W := by kernel_rfl
theorem ix5_1 (a b c d e : Int) (W : World) : (Instr.index 166 (.agg #[.int .i64 a, .int .i64 b, .int .i64 c, .int .i64 d, .int .i64 e]) (.int .i64 1)).run Try.prog W = .ok (.int .i64 b) W := by kernel_rfl
theorem ix5_2 (a b c d e : Int) (W : World) : (Instr.index 166 (.agg #[.int .i64 a, .int .i64 b, .int .i64 c, .int .i64 d, .int .i64 e]) (.int .i64 2)).run Try.prog W = .ok (.int .i64 c) W := by kernel_rfl
theorem ix5_3 (a b c d e : Int) (W : World) : (Instr.index 166 (.agg #[.int .i64 a, .int .i64 b, .int .i64 c, .int .i64 d, .int .i64 e]) (.int .i64 3)).run Try.prog W = .ok (.int .i64 d) W := by kernel_rfl
theorem ix5_4 (a b c d e : Int) (W : World) : (Instr.index 166 (.agg #[.int .i64 a, .int .i64 b, .int .i64 c, .int .i64 d, .int .i64 e]) (.int .i64 4)).run Try.prog W = .ok (.int .i64 e) W := by kernel_rfl
set_option maxRecDepth 100000 in
set_option maxHeartbeats 4000000 in
theorem above_any (R Q : Nat → Int) (g h : Nat) (i : Nat) (hi : i < 5) (W : World) (hr : W.heap[g]? = some (.cells #[.int .i64 (R 0), .int .i64 (R 1), .int .i64 (R 2), .int .i64 (R 3), .int .i64 (R 4)] 100 (0, 0))) (hq : W.heap[h]? = some (.cells #[.int .i64 (Q 0), .int .i64 (Q 1), .int .i64 (Q 2), .int .i64 (Q 3), .int .i64 (Q 4)] 100 (0, 0))) :
    Calls Try.prog 94 #[.int .i64 i, .pointer (some ⟨g, 0, none⟩), .pointer (some ⟨h, 0, none⟩)] W fun e w' => e = .returned (.bool (decide (Q i < R i))) ∧ Below W.heap.size W w' := by
  have hgl := lt_of_block hr
  have hhl := lt_of_block hq
  have HO1 : Hid (∀ W', Calls Try.prog 95 #[.agg #[.int .i64 (R 0), .int .i64 (R 1), .int .i64 (R 2), .int .i64 (R 3), .int .i64 (R 4)]] W' fun e w' => e = .returned (.agg #[.int .i64 (R 0), .int .i64 (R 1), .int .i64 (R 2), .int .i64 (R 3), .int .i64 (R 4)]) ∧ Below W'.heap.size W' w') := Lib.hid (of_any R)
  have HO2 : Hid (∀ W', Calls Try.prog 95 #[.agg #[.int .i64 (Q 0), .int .i64 (Q 1), .int .i64 (Q 2), .int .i64 (Q 3), .int .i64 (Q 4)]] W' fun e w' => e = .returned (.agg #[.int .i64 (Q 0), .int .i64 (Q 1), .int .i64 (Q 2), .int .i64 (Q 3), .int .i64 (Q 4)]) ∧ Below W'.heap.size W' w') := Lib.hid (of_any Q)
  have a0 : ∀ x : Wd W.heap.size W, x.1.cell? ⟨g, 0, none⟩ = some (.int .i64 (R 0)) := fun x => Below.cell' x.2 hgl (cell_blk hr)
  have a1 : ∀ x : Wd W.heap.size W, x.1.cell? ⟨g, 1, none⟩ = some (.int .i64 (R 1)) := fun x => Below.cell' x.2 hgl (cell_blk hr)
  have a2 : ∀ x : Wd W.heap.size W, x.1.cell? ⟨g, 2, none⟩ = some (.int .i64 (R 2)) := fun x => Below.cell' x.2 hgl (cell_blk hr)
  have a3 : ∀ x : Wd W.heap.size W, x.1.cell? ⟨g, 3, none⟩ = some (.int .i64 (R 3)) := fun x => Below.cell' x.2 hgl (cell_blk hr)
  have a4 : ∀ x : Wd W.heap.size W, x.1.cell? ⟨g, 4, none⟩ = some (.int .i64 (R 4)) := fun x => Below.cell' x.2 hgl (cell_blk hr)
  have b0 : ∀ x : Wd W.heap.size W, x.1.cell? ⟨h, 0, none⟩ = some (.int .i64 (Q 0)) := fun x => Below.cell' x.2 hhl (cell_blk hq)
  have b1 : ∀ x : Wd W.heap.size W, x.1.cell? ⟨h, 1, none⟩ = some (.int .i64 (Q 1)) := fun x => Below.cell' x.2 hhl (cell_blk hq)
  have b2 : ∀ x : Wd W.heap.size W, x.1.cell? ⟨h, 2, none⟩ = some (.int .i64 (Q 2)) := fun x => Below.cell' x.2 hhl (cell_blk hq)
  have b3 : ∀ x : Wd W.heap.size W, x.1.cell? ⟨h, 3, none⟩ = some (.int .i64 (Q 3)) := fun x => Below.cell' x.2 hhl (cell_blk hq)
  have b4 : ∀ x : Wd W.heap.size W, x.1.cell? ⟨h, 4, none⟩ = some (.int .i64 (Q 4)) := fun x => Below.cell' x.2 hhl (cell_blk hq)
  have hcase : i = 0 ∨ i = 1 ∨ i = 2 ∨ i = 3 ∨ i = 4 := by omega
  clear hr hq
  rcases hcase with rfl | rfl | rfl | rfl | rfl
  all_goals
    have x0 := ix5_0
    have x1 := ix5_1
    have x2 := ix5_2
    have x3 := ix5_3
    have x4 := ix5_4
    go_enter Try.func94, Try.ntmps94
    go_wp2_with fail
    refine wp_region_calm (Below.refl W.heap.size W) (by kernel_rfl) (by kernel_rfl) ?_
    iterate 2 quiet_step ((go_at_call 95; exact calm _ (Nat.le_refl _) (HO1.out _)))
    iterate 8 quiet_step ((go_at_call 95; exact calm _ (Nat.le_refl _) (HO2.out _)))
    refine wpQuiet_nil ?_
    intro _ hw'
    obtain ⟨⟨w9, hwq⟩, hw''⟩ := hw'
    subst hw''
    go_wp2_with fail
    go_ret
    exact ⟨rfl, hwq⟩
end Go.Proofs.Ytihbceippcgfgaa
