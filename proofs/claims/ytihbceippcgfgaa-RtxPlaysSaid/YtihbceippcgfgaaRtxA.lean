/-
  Chapter 34: the example.
-/
import Derived.Test.YtihbceippcgfgaaRtxW
import Derived.Lib.SlBytesConst
namespace Go.Proofs.Ytihbceippcgfgaa
open Go.RowKit
set_option linter.unusedVariables false
set_option linter.unusedSimpArgs false
attribute [local irreducible] wpStill wpQuiet

set_option maxRecDepth 100000 in
set_option maxHeartbeats 4000000 in
theorem alive34_any (w : World) : Calls Try.prog 24 #[] w fun e w' => e = .returned (.bool true) ∧ Below w.heap.size w w' := by
  have hs : strOf (catZ (putZ (fun _ => 0) 0 258 2) 2 (fun _ => 120)) 3 = ⟨#[1, 2, 120]⟩ := by decide +kernel
  have hcs := Go.Lib.run_convert_bytes_const (P := Try.prog) w 25 5 #[.int .u8 120] 1 1 Try.underlying25 Try.underlying5
  go_enter Try.func24, Try.ntmps24
  go_wp2_with fail
  generalize hW : w.alloc _ = W
  have g0 : W.heap[w.heap.size]? = some (.cells #[.int .u8 120] 5 (1, 2)) := by rw [← hW]; exact alloc_blk_new
  have BW : Below w.heap.size w W := by rw [← hW]; exact (Below.refl _ w).alloc (Nat.le_refl _) _
  clear hW
  have hbs : BS W.heap.size W (some ⟨w.heap.size, 0, none⟩) 1 1 (fun _ => 120) := ⟨by omega, by omega, fun _ _ => by omega, w.heap.size, 0, fun _ => ⟨rfl, lt_of_block g0⟩, fun i hi => by
    obtain rfl : i = 0 := by omega
    exact cell_blk g0⟩
  refine (wrap_any W.heap.size W false 0 258 0 0 none 0 0 false 0 none 0 0 _ 1 1 _ 0 5 97 3 hbs (Nat.le_refl _) (by omega) (by omega) (by omega)).mono ?_
  rintro e w1 ⟨a5, c5, rfl, S5, B5⟩
  have hc : ∀ W', Below w1.heap.size w1 W' → Sem.run Try.prog (convert 25 9 (.slice a5 3 c5)) W' = .ok (.string ⟨#[1, 2, 120]⟩) W' := fun W' hb => by
    have := run_conv_BS (n := 3) (S5.keep hb) Try.underlying25 Try.underlying5 Try.underlying9
    rw [hs] at this; exact this
  have B6 : Below w.heap.size w w1 := BW.trans (B5.mono BW.size)
  have hcA : ∀ o, Sem.run Try.prog (convert 25 9 (.slice a5 3 c5)) (w1.alloc o) = .ok (.string ⟨#[1, 2, 120]⟩) (w1.alloc o) := fun o => hc _ ((Below.refl _ w1).alloc (Nat.le_refl _) o)
  clear hs hbs g0 hc S5 hcs
  go_wp2_with fail
  go_ret
  exact ⟨rfl, B6.alloc B6.size _⟩
end Go.Proofs.Ytihbceippcgfgaa
