/-
  Chapter 34: a pair is dropped.
-/
import Derived.Test.YtihbceippcgfgaaRtxT
namespace Go.Proofs.Ytihbceippcgfgaa
open Go.RowKit
set_option linter.unusedVariables false
set_option linter.unusedSimpArgs false
attribute [local irreducible] wpStill wpQuiet

set_option maxRecDepth 100000 in
theorem drop_none (w : World) (g bp bf n : Nat) (f1 : Int → Option (Int × Int × Int)) (F2 : Int → Option Value) (s1 s2 : Nat) (x : Int) (h : Tab w g bp bf n (pairsOf f1) F2 s1 s2) (hx : (Lit.int .u32 x).wf = true) (hf : f1 x = none) :
    Calls Try.prog 37 #[.pointer (some ⟨g, 0, none⟩), .int .u32 x] w fun e w' => e = .returned (.int .i64 9) ∧ Below w.heap.size w w' := by
  have c0 : w.cell? ⟨g, 0, none⟩ = some (.map (some bp)) := cell_blk h.blk
  have l1 : (Instr.lookup 130 (.map (some bp)) (.int .u32 x) true).run Try.prog w = .ok (.tuple #[.agg #[.int .u32 0, .int .u8 0, .int .u16 0], .bool false]) w := by
    have := h.look1 x hx
    unfold pairsOf at this
    rw [hf] at this
    exact this
  clear h hx hf
  go_enter Try.func37, Try.ntmps37
  go_wp2_with fail
  go_ret
  exact ⟨rfl, by (repeat (first | exact Below.refl _ _ | refine Below.alloc ?_ (by first | (simp; done) | (simp; omega) | (simp [size_drewN]; done) | (simp [size_drewN]; omega)) _ | refine Below.drew ?_ | refine below_drewN0 ?_ _ | refine Below.setCell ?_ (by first | (simp; done) | (simp; omega) | (simp [size_drewN]; done) | (simp [size_drewN]; omega)) _))⟩
set_option maxRecDepth 100000 in
set_option maxHeartbeats 1000000 in
theorem drop_some (w : World) (g bp bf n : Nat) (f1 : Int → Option (Int × Int × Int)) (f2 : Int → Option Int) (s1 s2 : Nat) (x to typ nx : Int) (h : Tab w g bp bf n (pairsOf f1) (firstOf f2) s1 s2) (hx : (Lit.int .u32 x).wf = true) (ht : (Lit.int .u32 to).wf = true) (hf : f1 x = some (to, typ, nx)) (hf2 : (f2 to).isSome = true) :
    Calls Try.prog 37 #[.pointer (some ⟨g, 0, none⟩), .int .u32 x] w fun e w' => e = .returned (.int .i64 0) ∧ Tab w' g bp bf n (pairsOf (updI f1 x none)) (firstOf (updI f2 to none)) (s1 - 1) (s2 - 1) ∧ KeepsL [bp, bf] w w' := by
  have c0 : w.cell? ⟨g, 0, none⟩ = some (.map (some bp)) := cell_blk h.blk
  have l1 : (Instr.lookup 130 (.map (some bp)) (.int .u32 x) true).run Try.prog w = .ok (.tuple #[.agg #[.int .u32 to, .int .u8 typ, .int .u16 nx], .bool true]) w := by
    have := h.look1 x hx
    unfold pairsOf at this
    rw [hf] at this
    exact this
  have c0a : ∀ o, (w.alloc o).cell? ⟨g, 0, none⟩ = some (.map (some bp)) := fun o => cell_blk ((alloc_blk_old (lt_of_block h.blk)).trans h.blk)
  -- the box of the pair
  obtain ⟨W, hW⟩ : ∃ W, W = w.alloc (.cells #[.int .u32 to, .int .u8 typ, .int .u16 nx] 136) := ⟨_, rfl⟩
  have BW : Below w.heap.size w W := by rw [hW]; exact (Below.refl _ w).alloc (Nat.le_refl _) _
  have GW : W.heap[w.heap.size]? = some (.cells #[.int .u32 to, .int .u8 typ, .int .u16 nx] 136 (0, 0)) := by rw [hW]; exact alloc_blk_new
  have TW := h.keep BW
  obtain ⟨w1, r1, m1, k1, z1⟩ := TW.m1.drop Try.underlying130 x hx 0
  rw [pairsOf_del, pairsOf_some, hf] at m1
  have q1 : ∀ ty, (Builtin.delete_ #[130, 41] ty #[.map (some bp), .int .u32 x]).run Try.prog (w.alloc (.cells #[.int .u32 to, .int .u8 typ, .int .u16 nx] 136)) = .ok (.tuple #[]) w1 := fun ty => by rw [← hW]; exact r1
  have n6 : w.heap.size ≠ bp := fun e => by have := h.m1.lt; omega
  have n6' : w.heap.size ≠ bf := fun e => by have := h.m2.lt; omega
  have G1 : w1.heap[w.heap.size]? = some (.cells #[.int .u32 to, .int .u8 typ, .int .u16 nx] 136 (0, 0)) := k1.blk GW n6
  have g1 : w1.heap[g]? = some (.cells #[.map (some bp), .map (some bf)] 133 (0, 0)) := k1.blk TW.blk h.n1
  have m2 := TW.m2.of_blk (w' := w1) (k1.block _ TW.m2.lt (Ne.symm h.n3))
  obtain ⟨w2, r2, m3, k2, z2⟩ := (m2.of_blk (w' := w1.drew) rfl).drop Try.underlying131 to ht 0
  rw [firstOf_del, firstOf_some, hf2] at m3
  have q2 : ∀ ty, (Builtin.delete_ #[131, 41] ty #[.map (some bf), .int .u32 to]).run Try.prog w1.drew = .ok (.tuple #[]) w2 := fun ty => r2
  have R : Hid (Tab w2 g bp bf n (pairsOf (updI f1 x none)) (firstOf (updI f2 to none)) (s1 - 1) (s2 - 1)) := Lib.hid ⟨k2.blk (w := w1.drew) g1 h.n2, m1.of_blk (k2.block (w := w1.drew) _ m1.lt h.n3), m3, h.n1, h.n2, h.n3⟩
  have K : Hid (KeepsL [bp, bf] w w2) := Lib.hid ((KeepsL.of_below BW).trans ((KeepsL.of k1 (by simp)).trans ((KeepsL.of_below ((Below.refl _ w1).drew)).trans (KeepsL.of k2 (by simp)))))
  have e0 : w1.cell? ⟨g, 1, none⟩ = some (.map (some bf)) := cell_blk g1
  have e1 : w1.cell? ⟨w.heap.size, 0, none⟩ = some (.int .u32 to) := cell_blk G1
  clear BW GW TW r1 m1 k1 z1 hW n6 n6' G1 g1 m2 r2 m3 k2 z2 h hx ht hf hf2
  go_enter Try.func37, Try.ntmps37
  go_wp2_with fail
  refine wp_region_still_tail 6 (by kernel_rfl) (by kernel_rfl) ?_
  simp only [List.take_succ_cons, List.take_zero, List.drop_succ_cons, List.drop_zero]
  iterate 6 still_step
  refine wpStill_nil ?_
  change wpList _ _ _ _ _ w1.drew
  go_wp2_with fail
  go_ret
  exact ⟨rfl, R.out, K.out⟩
end Go.Proofs.Ytihbceippcgfgaa
