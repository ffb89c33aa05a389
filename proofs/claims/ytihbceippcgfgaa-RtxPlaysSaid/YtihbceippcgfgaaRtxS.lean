/-
  Chapter 34: a packet of no pair is not sent again.
-/
import Derived.Test.YtihbceippcgfgaaRtxT
import Derived.Test.YtihbceippcgfgaaRtxW
import Derived.Test.YtihbceippcgfgaaMix
namespace Go.Proofs.Ytihbceippcgfgaa
open Go.RowKit
set_option linter.unusedVariables false
set_option linter.unusedSimpArgs false
attribute [local irreducible] wpStill wpQuiet

attribute [local go_sem] rdOp rd rdUpon mvUpon
attribute [local go_sem] MixC.rdOp MixC.rd MixC.rdUpon MixC.mvUpon
set_option maxRecDepth 100000 in
set_option maxHeartbeats 4000000 in
theorem again_none (B : Nat) (w : World) (m : Bool) (ty sq st src : Int) (oa : Option Addr) (on oc : Nat) (ex : Bool) (pr : Int) (xa : Option Addr) (xn xc : Nat) (a : Option Addr) (n c : Nat) (Z : Nat → Int) (pd : Int) (g bp bf np : Nat) (f1 : Int → Option (Int × Int × Int)) (F2 : Int → Option Value) (s1 s2 : Nat) (hT : Tab w g bp bf np (pairsOf f1) F2 s1 s2) (hf : f1 src = none) (hsrc : (Lit.int .u32 src).wf = true) :
    Calls Try.prog 33 #[.pointer (some ⟨g, 0, none⟩), .agg #[(.bool m), (.int .u8 ty), (.int .u16 sq), (.int .u32 st), (.int .u32 src), (.slice oa on oc), (.bool ex), (.int .u16 pr), (.slice xa xn xc), (.slice a n c), (.int .u8 pd)]] w fun e w' => e = .returned (.tuple #[.agg #[(.bool false), (.int .u8 0), (.int .u16 0), (.int .u32 0), (.int .u32 0), (.slice none 0 0), (.bool false), (.int .u16 0), (.slice none 0 0), (.slice none 0 0), (.int .u8 0)], .int .i64 9]) ∧ Below w.heap.size w w' := by
  have t3 := three3 w (.cells #[.pointer (some ⟨g, 0, none⟩)] 54) (.cells #[(.bool m), (.int .u8 ty), (.int .u16 sq), (.int .u32 st), (.int .u32 src), (.slice oa on oc), (.bool ex), (.int .u16 pr), (.slice xa xn xc), (.slice a n c), (.int .u8 pd)] 44) (.cells #[(.bool false), (.int .u8 0), (.int .u16 0), (.int .u32 0), (.int .u32 0), (.slice none 0 0), (.bool false), (.int .u16 0), (.slice none 0 0), (.slice none 0 0), (.int .u8 0)] 44)
  have HT := Lib.hid hT
  have HF := Lib.hid hf
  have HS := Lib.hid hsrc
  have lg := lt_of_block hT.blk
  have lp := hT.m1.lt
  have lf := hT.m2.lt
  clear hT hf hsrc
  go_enter Try.func33, Try.ntmps33
  go_wp2_with fail
  generalize hW : World.alloc _ _ = W
  rw [hW] at t3
  have BW : Below w.heap.size w W := by rw [← hW]; exact (((Below.refl _ w).alloc (Nat.le_refl _) _).alloc (by simp) _).alloc (by simp; omega) _
  clear hW
  obtain ⟨q0, q1, q2⟩ := t3
  obtain ⟨g2, h0⟩ : ∃ g2, g2 = w.heap.size := ⟨_, rfl⟩
  rw [← h0] at q0 q1 q2
  rw [← h0]
  obtain ⟨g3, h1⟩ : ∃ g3, g3 = g2 + 1 := ⟨_, rfl⟩
  obtain ⟨g4, h2⟩ : ∃ g4, g4 = g3 + 1 := ⟨_, rfl⟩
  rw [← h1] at q1 q2
  rw [← h2] at q2
  rw [← h1, ← h2]
  have l2 := lt_of_block q0
  have l3 := lt_of_block q1
  have l4 := lt_of_block q2
  have w2' : w.heap.size ≤ g2 := by omega
  have w3' : w.heap.size ≤ g3 := by omega
  have w4' : w.heap.size ≤ g4 := by omega
  have n23 : g2 ≠ g3 := by omega
  have n24 : g2 ≠ g4 := by omega
  have n34 : g3 ≠ g4 := by omega
  clear h0 h1 h2
  have HBW := Lib.hid BW
  have HQ2 := Lib.hid q0
  have HQ3 := Lib.hid q1
  have HQ4 := Lib.hid q2
  have TW := Lib.hid (HT.out.keep BW)
  clear q0 q1 q2 BW
  have y0 : ∀ y : Wd W.heap.size W, y.1.cell? ⟨g2, 0, none⟩ = some (.pointer (some ⟨g, 0, none⟩)) := fun y => cell_blk (Below.blk y.2 HQ2.out l2)
  have y1 : ∀ y : Wd W.heap.size W, y.1.cell? ⟨g, 0, none⟩ = some (.map (some bp)) := fun y => cell_blk (TW.out.keep y.2).blk
  have y2 : ∀ y : Wd W.heap.size W, y.1.cell? ⟨g3, 4, none⟩ = some (.int .u32 src) := fun y => cell_blk (Below.blk y.2 HQ3.out l3)
  have y3 : ∀ y : Wd W.heap.size W, (Instr.lookup 130 (.map (some bp)) (.int .u32 src) true).run Try.prog y.1 = .ok (.tuple #[.agg #[.int .u32 0, .int .u8 0, .int .u16 0], .bool false]) y.1 := fun y => by
    have := (TW.out.keep y.2).look1 src HS.out
    unfold pairsOf at this
    rw [HF.out] at this
    exact this
  refine wp_region_mix [10, 11] W.heap.size W (Below.refl _ _) (by kernel_rfl) (by kernel_rfl) (by kernel_rfl) ?_
  iterate 10 (refine mix_read rfl (fun K hK => ?_); go_simp; refine hK _ ?_; clear hK K)
  refine mix_move rfl (fun K hK => ?_)
  go_simp
  refine ⟨((Below.refl _ W).alloc (Nat.le_refl _) _).drew, hK _ _ ?_⟩
  clear hK K
  generalize hX : (World.alloc W _).drew = X
  have X6 : X.heap[W.heap.size]? = some (.cells #[.int .u32 0, .int .u8 0, .int .u16 0] 136 (0, 0)) := by rw [← hX]; exact alloc_blk_new
  have BX : Below W.heap.size W X := by rw [← hX]; exact ((Below.refl _ W).alloc (Nat.le_refl _) _).drew
  clear hX
  have a0 : X.cell? ⟨W.heap.size, 0, none⟩ = some (.int .u32 0) := cell_blk X6
  have a1 : X.cell? ⟨W.heap.size, 1, none⟩ = some (.int .u8 0) := cell_blk X6
  have a2 : X.cell? ⟨W.heap.size, 2, none⟩ = some (.int .u16 0) := cell_blk X6
  have b0 : X.frozen? ⟨W.heap.size, 0, none⟩ = false := free_blk X6
  have b1 : X.frozen? ⟨W.heap.size, 1, none⟩ = false := free_blk X6
  have b2 : X.frozen? ⟨W.heap.size, 2, none⟩ = false := free_blk X6
  refine mix_move rfl (fun K hK => ?_)
  go_simp
  refine ⟨by ((repeat (refine Below.setCell ?_ (by exact Nat.le_refl _) _)); exact BX), hK _ _ ?_⟩
  clear hK K
  generalize hY : World.setCell _ _ _ = Y
  have Y6 : Y.heap[W.heap.size]? = some (.cells #[.int .u32 0, .int .u8 0, .int .u16 0] 136 (0, 0)) := by rw [← hY]; simp [heap_set, X6, putIn]
  have BY : Below W.heap.size W Y := by rw [← hY]; (repeat (refine Below.setCell ?_ (by exact Nat.le_refl _) _)); exact BX
  clear hY a0 a1 a2 b0 b1 b2 X6 BX
  (refine mix_read rfl (fun K hK => ?_); go_simp; refine hK _ ?_; clear hK K)
  refine mix_nil ?_
  clear y0 y1 y2 y3
  obtain ⟨g6, h6⟩ : ∃ g6, g6 = W.heap.size := ⟨_, rfl⟩
  rw [← h6] at Y6
  change Exit.then _ _ _ _ Y
  rw [← h6]
  have Y4 := Lib.hid (Below.blk BY HQ4.out l4)
  have BYw := Lib.hid (HBW.out.trans (BY.mono HBW.out.size))
  clear Y6 BY h6 TW HQ2 HQ3 HQ4 HBW
  have d0 : Y.cell? ⟨g4, 0, none⟩ = some (.bool false) := cell_blk Y4.out
  have z0 : Y.frozen? ⟨g4, 0, none⟩ = false := free_blk Y4.out
  have d1 : Y.cell? ⟨g4, 1, none⟩ = some (.int .u8 0) := cell_blk Y4.out
  have z1 : Y.frozen? ⟨g4, 1, none⟩ = false := free_blk Y4.out
  have d2 : Y.cell? ⟨g4, 2, none⟩ = some (.int .u16 0) := cell_blk Y4.out
  have z2 : Y.frozen? ⟨g4, 2, none⟩ = false := free_blk Y4.out
  have d3 : Y.cell? ⟨g4, 3, none⟩ = some (.int .u32 0) := cell_blk Y4.out
  have z3 : Y.frozen? ⟨g4, 3, none⟩ = false := free_blk Y4.out
  have d4 : Y.cell? ⟨g4, 4, none⟩ = some (.int .u32 0) := cell_blk Y4.out
  have z4 : Y.frozen? ⟨g4, 4, none⟩ = false := free_blk Y4.out
  have d5 : Y.cell? ⟨g4, 5, none⟩ = some (.slice none 0 0) := cell_blk Y4.out
  have z5 : Y.frozen? ⟨g4, 5, none⟩ = false := free_blk Y4.out
  have d6 : Y.cell? ⟨g4, 6, none⟩ = some (.bool false) := cell_blk Y4.out
  have z6 : Y.frozen? ⟨g4, 6, none⟩ = false := free_blk Y4.out
  have d7 : Y.cell? ⟨g4, 7, none⟩ = some (.int .u16 0) := cell_blk Y4.out
  have z7 : Y.frozen? ⟨g4, 7, none⟩ = false := free_blk Y4.out
  have d8 : Y.cell? ⟨g4, 8, none⟩ = some (.slice none 0 0) := cell_blk Y4.out
  have z8 : Y.frozen? ⟨g4, 8, none⟩ = false := free_blk Y4.out
  have d9 : Y.cell? ⟨g4, 9, none⟩ = some (.slice none 0 0) := cell_blk Y4.out
  have z9 : Y.frozen? ⟨g4, 9, none⟩ = false := free_blk Y4.out
  have d10 : Y.cell? ⟨g4, 10, none⟩ = some (.int .u8 0) := cell_blk Y4.out
  have z10 : Y.frozen? ⟨g4, 10, none⟩ = false := free_blk Y4.out
  go_wp2_with fail
  generalize hF : World.setCell _ _ _ = Wf
  have gf : Wf.heap[g4]? = some (.cells #[(.bool false), (.int .u8 0), (.int .u16 0), (.int .u32 0), (.int .u32 0), (.slice none 0 0), (.bool false), (.int .u16 0), (.slice none 0 0), (.slice none 0 0), (.int .u8 0)] 44 (0, 0)) := by rw [← hF]; simp [heap_set, Y4.out, putIn]
  have KF : Hid (Keeps g4 Y Wf) := Lib.hid (by rw [← hF]; (repeat (refine Keeps.setCell ?_ (by exact .inl rfl) _)); exact Keeps.refl _ _)
  clear hF d0 z0 d1 z1 d2 z2 d3 z3 d4 z4 d5 z5 d6 z6 d7 z7 d8 z8 d9 z9 d10 z10
  have r0 : Wf.cell? ⟨g4, 0, none⟩ = some (.bool false) := cell_blk gf
  have r1 : Wf.cell? ⟨g4, 1, none⟩ = some (.int .u8 0) := cell_blk gf
  have r2 : Wf.cell? ⟨g4, 2, none⟩ = some (.int .u16 0) := cell_blk gf
  have r3 : Wf.cell? ⟨g4, 3, none⟩ = some (.int .u32 0) := cell_blk gf
  have r4 : Wf.cell? ⟨g4, 4, none⟩ = some (.int .u32 0) := cell_blk gf
  have r5 : Wf.cell? ⟨g4, 5, none⟩ = some (.slice none 0 0) := cell_blk gf
  have r6 : Wf.cell? ⟨g4, 6, none⟩ = some (.bool false) := cell_blk gf
  have r7 : Wf.cell? ⟨g4, 7, none⟩ = some (.int .u16 0) := cell_blk gf
  have r8 : Wf.cell? ⟨g4, 8, none⟩ = some (.slice none 0 0) := cell_blk gf
  have r9 : Wf.cell? ⟨g4, 9, none⟩ = some (.slice none 0 0) := cell_blk gf
  have r10 : Wf.cell? ⟨g4, 10, none⟩ = some (.int .u8 0) := cell_blk gf
  try go_wp2_with fail
  refine bodyPost_ret (v := .tuple #[.agg #[(.bool false), (.int .u8 0), (.int .u16 0), (.int .u32 0), (.int .u32 0), (.slice none 0 0), (.bool false), (.int .u16 0), (.slice none 0 0), (.slice none 0 0), (.int .u8 0)], .int .i64 9]) (by simp [results, Try.results33, go_sem, r0, r1, r2, r3, r4, r5, r6, r7, r8, r9, r10]) rfl ?_
  exact ⟨rfl, Below.keeps BYw.out (by have := BYw.out.size; omega) w4' KF.out⟩
end Go.Proofs.Ytihbceippcgfgaa
