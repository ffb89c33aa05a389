/-
  Chapter 40: alive.
-/
import Derived.Test.YtdmbdageohjodaaMrB
namespace Go.Proofs.Ytdmbdageohjodaa
open Go.RowKit
set_option linter.unusedVariables false
set_option linter.unusedSimpArgs false
attribute [local irreducible] wpStill wpQuiet MixC.wpMix
attribute [local go_sem] MixC.rdOp MixC.rd MixC.rdUpon MixC.mvUpon

set_option maxHeartbeats 2000000 in
theorem mul64_ex (w : World) : Calls Try.prog 113 #[.int .u64 200, .int .u64 3] w fun e w' => e = .returned (.tuple #[.int .u64 0, .int .u64 600]) ∧ w = w' := by
  have a1 : bits BinOp.and .u64 200 4294967295 = 200 := by decide +kernel
  have a2 : bits BinOp.and .u64 3 4294967295 = 3 := by decide +kernel
  have a3 : bits BinOp.and .u64 0 4294967295 = 0 := by decide +kernel
  go_enter Try.func113, Try.ntmps113
  go_wp2_with fail
  go_ret2
  exact ⟨rfl, rfl⟩
set_option maxHeartbeats 2000000 in
theorem times_ex (w : World) : Calls Try.prog 108 #[.int .u64 200, .int .u64 3] w fun e w' => e = .returned (.int .u64 600) ∧ w = w' := by
  go_enter Try.func108, Try.ntmps108
  go_wp2_with fail
  refine (mul64_ex w).mono ?_
  rintro e w' ⟨rfl, rfl⟩
  go_wp2_with fail
  go_ret
  exact ⟨rfl, rfl⟩
/-- a guess -/
def gsO (r : Int) : Obj := .cells #[.int .u64 100, .int .u64 1000, .int .u64 r] 177 (0, 0)
set_option maxHeartbeats 2000000 in
theorem newG_ex (w : World) : Calls Try.prog 82 #[.int .u64 100, .int .u64 1000] w fun e w' => e = .returned (.pointer (some ⟨w.heap.size, 0, none⟩)) ∧ HasO w.heap.size (gsO 100) w' ∧ Below w.heap.size w w' := by
  go_enter Try.func82, Try.ntmps82
  go_wp2_with fail
  go_ret
  exact ⟨rfl, alloc_blk_new, (Below.refl _ _).alloc (Nat.le_refl _) _⟩
set_option maxHeartbeats 2000000 in
theorem rateG_any (g : Nat) (r : Int) (w : World) (h : HasO g (gsO r) w) : Calls Try.prog 84 #[.pointer (some ⟨g, 0, none⟩)] w fun e w' => e = .returned (.int .u64 r) ∧ w = w' := by
  have x2 : w.cell? ⟨g, 2, none⟩ = some (.int .u64 r) := cell_blk h
  clear h
  go_enter Try.func84, Try.ntmps84
  go_wp2_with fail
  go_ret
  exact ⟨rfl, rfl⟩
theorem us_lit (w : World) (l : List Int) (hl : ∀ x ∈ l, 0 ≤ x ∧ x ≤ 18446744073709551615) {g : Nat} (h : w.heap[g]? = some (.cells (l.map (Value.int .u64)).toArray 88 (0, 0))) : US w.heap.size w (some ⟨g, 0, none⟩) l.length (fun i => l.getD i 0) := by
  refine ⟨fun i hi => ?_, g, 0, fun _ => ⟨rfl, lt_of_block h⟩, fun i hi => ?_⟩
  · simp only [List.getD, List.getElem?_eq_getElem hi, Option.getD_some]; exact hl _ (List.getElem_mem hi)
  · rw [Nat.zero_add, cell_blk h]
    simp [hi]
set_option maxHeartbeats 2000000 in
theorem more_ex (g : Nat) (w : World) (h : HasO g (gsO 100) w) : Calls Try.prog 109 #[.pointer (some ⟨g, 0, none⟩), .int .u64 200] w fun e w' => e = .returned (.int .u64 109) ∧ Below w.heap.size w w' := by
  have H := Lib.hid h
  clear h
  go_enter Try.func109, Try.ntmps109
  go_wp2_with fail
  refine (times_ex w).mono ?_
  rintro e w' ⟨rfl, rfl⟩
  go_wp2_with fail
  generalize hV : World.alloc w _ = V
  have G1 : V.heap[w.heap.size]? = some (.cells #[.int .u64 300, .int .u64 10] 88 (0, 0)) := by rw [← hV]; exact alloc_blk_new
  have B1 : Below w.heap.size w V := by rw [← hV]; exact (Below.refl _ _).alloc (Nat.le_refl _) _
  have HB1 := Lib.hid B1
  have HS1 := Lib.hid (sum40_any V.heap.size _ 2 2 _ V (us_lit V [300, 10] (by decide) G1) (by omega))
  rw [show satN (fun i => [300, 10].getD i 0) 2 = 310 by decide +kernel] at HS1
  clear hV G1 B1
  refine HS1.out.mono ?_
  rintro e w' ⟨rfl, rfl⟩
  have GG : Hid (HasO g (gsO 100) V.drew) := Lib.hid (Below.blk HB1.out.drew H.out (lt_of_block H.out))
  have hne : Nonempty { w' : World // Below V.heap.size V w' } := ⟨⟨_, Below.refl _ _⟩⟩
  have o2 : ∀ z : { w' : World // Below V.heap.size V w' }, z.1.cell? ⟨g, 2, none⟩ = some (.int .u64 100) := fun z => cell_blk (Below.blk z.2 GG.out (lt_of_block GG.out))
  have q8 : IntKind.u64.wrap 8 = 8 := by decide +kernel
  go_upto_region 2 with (fail)
  refine MixC.wp_region_mix [13, 14] (Below V.heap.size V) (Below.refl _ _).drew (by kernel_rfl) (by kernel_rfl) (by kernel_rfl) ?_
  (iterate 13 (refine MixC.mix_read rfl (fun K hK => ?_); go_simp; refine hK _ ?_; clear hK K))
  obtain ⟨W, hW⟩ : ∃ W, V.drew.alloc (.cells #[.int .u64 100, .int .u64 8, .int .u64 1] 88) = W := ⟨_, rfl⟩
  have G2 : W.heap[V.heap.size]? = some (.cells #[.int .u64 100, .int .u64 8, .int .u64 1] 88 (0, 0)) := by rw [← hW]; exact alloc_blk_new (w := V.drew)
  have B2 : Hid (Below V.heap.size V W) := Lib.hid (by rw [← hW]; exact (Below.refl _ V).drew.alloc (Nat.le_refl _) _)
  have HS2 := Lib.hid (sum40_any W.heap.size _ 3 3 _ W (us_lit W [100, 8, 1] (by decide) G2) (by omega))
  rw [show satN (fun i => [100, 8, 1].getD i 0) 3 = 109 by decide +kernel] at HS2
  clear G2
  refine MixC.mix_move rfl (fun K hK => ?_)
  go_simp
  refine ⟨B2.out, hK _ _ ?_⟩
  clear hK K
  refine MixC.mix_move rfl (fun K hK => ?_)
  go_simp
  refine HS2.out.mono ?_
  rintro e w' ⟨rfl, rfl⟩
  refine ⟨_, rfl, B2.out, hK _ _ ?_⟩
  clear hK K
  (iterate 4 (refine MixC.mix_read rfl (fun K hK => ?_); go_simp; refine hK _ ?_; clear hK K))
  refine MixC.mix_nil ?_
  clear o2 hne hW
  go_wp2_with fail
  go_ret
  exact ⟨rfl, HB1.out.trans (B2.out.mono HB1.out.size)⟩
set_option maxHeartbeats 2000000 in
theorem report_ex (g : Nat) (w : World) (h : HasO g (gsO 100) w) : Calls Try.prog 83 #[.pointer (some ⟨g, 0, none⟩), .int .i64 0, .int .u64 200] w fun e w' => e = .returned (.int .i64 0) ∧ HasO g (gsO 109) w' ∧ Keeps g w w' := by
  have H := Lib.hid h
  have x2 : w.cell? ⟨g, 2, none⟩ = some (.int .u64 100) := cell_blk h
  have HM := Lib.hid (more_ex g w h)
  clear h
  go_enter Try.func83, Try.ntmps83
  go_wp2_with fail
  refine HM.out.mono ?_
  rintro e V ⟨rfl, bb⟩
  have B1 := Lib.hid bb
  have G1 : Hid (HasO g (gsO 100) V) := Lib.hid (Below.blk bb H.out (lt_of_block H.out))
  clear bb x2
  have hne : Nonempty { w' : World // HasO g (gsO 100) w' } := ⟨⟨_, G1.out⟩⟩
  have o0 : ∀ z : { w' : World // HasO g (gsO 100) w' }, z.1.cell? ⟨g, 0, none⟩ = some (.int .u64 100) := fun z => cell_blk z.2
  have o1 : ∀ z : { w' : World // HasO g (gsO 100) w' }, z.1.cell? ⟨g, 1, none⟩ = some (.int .u64 1000) := fun z => cell_blk z.2
  have s1 : V.cell? ⟨g, 2, none⟩ = some (.int .u64 100) := cell_blk G1.out
  have s2 : V.frozen? ⟨g, 2, none⟩ = false := free_blk G1.out
  have G1' : Hid (HasO g (gsO 100) V.drew) := Lib.hid G1.out
  go_upto_region 8 with (fail)
  refine MixC.wp_region_mix_tail 14 [] (HasO g (gsO 100)) G1'.out (by kernel_rfl) (by kernel_rfl) (by kernel_rfl) ?_
  simp only [List.take_succ_cons, List.take_zero, List.drop_succ_cons, List.drop_zero]
  (iterate 14 (refine MixC.mix_read rfl (fun K hK => ?_); go_simp; refine hK _ ?_; clear hK K))
  refine MixC.mix_nil ?_
  clear o0 o1 hne
  go_wp2_with fail
  go_ret
  refine ⟨rfl, ?_, ((Below.nothing B1.out g).setCell (.inl rfl) _).drew⟩
  show (V.setCell _ _).heap[g]? = _
  rw [set_blk _ G1.out]
  rfl
end Go.Proofs.Ytdmbdageohjodaa
