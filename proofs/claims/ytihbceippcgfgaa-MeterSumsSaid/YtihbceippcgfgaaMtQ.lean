/-
  Chapter 49: products, and the walk of MeterQuota.
-/
import Derived.Test.YtihbceippcgfgaaMtO
namespace Go.Proofs.Ytihbceippcgfgaa
open Go.RowKit
set_option linter.unusedVariables false
set_option linter.unusedSimpArgs false
attribute [local irreducible] wpStill wpQuiet

def tmI (a b : Int) : Int := if a ≤ 0 ∨ b ≤ 0 then 0 else if 9223372036854775807 / b < a then 9223372036854775807 else a * b
theorem tmI_bd (a b : Int) : 0 ≤ tmI a b ∧ tmI a b ≤ 9223372036854775807 := by
  unfold tmI
  split
  · omega
  · rename_i h
    split
    · omega
    · rename_i h2
      have h3 : a * b ≤ 9223372036854775807 := Int.mul_le_of_le_ediv (by omega) (by omega)
      have h4 : 0 ≤ a * b := Int.mul_nonneg (by omega) (by omega)
      exact ⟨h4, h3⟩
theorem wrap64_in (p : Int) (h0 : 0 ≤ p) (h1 : p ≤ 9223372036854775807) : wrap64 p = p := by unfold wrap64; omega
set_option maxHeartbeats 1000000 in
theorem times_any (a b : Int) (w : World) (a0 : -9223372036854775808 ≤ a) (a1 : a ≤ 9223372036854775807) (b0 : -9223372036854775808 ≤ b) (b1 : b ≤ 9223372036854775807) :
    Calls Try.prog 93 #[.int .i64 a, .int .i64 b] w fun e w' => e = .returned (.int .i64 (tmI a b)) ∧ w' = w := by
  rcases (show b ≤ 0 ∨ 0 < b by omega) with hb | hb
  · have mb : max b 0 = 0 := by omega
    have hT : Hid (tmI a b = 0) := Lib.hid (by unfold tmI; rw [if_pos (.inr hb)])
    go_enter Try.func93, Try.ntmps93
    go_wp2_with fail
    go_ret
    exact ⟨by rw [hT.out]; rfl, rfl⟩
  · have mb : max b 0 = b := by omega
    have e0 : (b == 0) = false := by (simp; omega)
    have n0 : b ≠ 0 := by omega
    have e1 : decide (0 < b) = true := by simpa using hb
    have hd1 : Int.tdiv 9223372036854775807 b = 9223372036854775807 / b := Int.tdiv_eq_ediv_of_nonneg (by omega)
    have hq0 : 0 ≤ 9223372036854775807 / b := Int.ediv_nonneg (by omega) (by omega)
    have hq1 : 9223372036854775807 / b ≤ 9223372036854775807 := Int.ediv_le_self _ (by omega)
    rcases (show a ≤ 0 ∨ 0 < a by omega) with ha | ha
    · have ma : max a 0 = 0 := by omega
      have hT : Hid (tmI a b = 0) := Lib.hid (by unfold tmI; rw [if_pos (.inl ha)])
      generalize 9223372036854775807 / b = q at *
      have wq1 : IntKind.i64.wrap q = q := IntWalk.i64_in _ (by omega)
      have wq2 : wrap64 q = q := by unfold wrap64; omega
      have e2 : decide (q < 0) = false := by (simp; omega)
      clear ha
      go_enter Try.func93, Try.ntmps93
      go_wp2_with fail
      go_ret
      exact ⟨by rw [hT.out]; rfl, rfl⟩
    · have ma : max a 0 = a := by omega
      have hT : Hid (tmI a b = if 9223372036854775807 / b < a then 9223372036854775807 else a * b) := Lib.hid (by unfold tmI; rw [if_neg (by omega)])
      have HM : Hid (¬ 9223372036854775807 / b < a → 0 ≤ a * b ∧ a * b ≤ 9223372036854775807) := Lib.hid (fun h => ⟨Int.mul_nonneg (by omega) (by omega), Int.mul_le_of_le_ediv (by omega) (by omega)⟩)
      generalize 9223372036854775807 / b = q at *
      have wq1 : IntKind.i64.wrap q = q := IntWalk.i64_in _ (by omega)
      have wq2 : wrap64 q = q := by unfold wrap64; omega
      rcases (show q < a ∨ ¬ q < a by omega) with hqa | hqa
      · have e2 : decide (q < a) = true := by simpa using hqa
        rw [if_pos hqa] at hT
        clear hqa
        go_enter Try.func93, Try.ntmps93
        go_wp2_with fail
        go_ret
        exact ⟨by rw [hT.out]; rfl, rfl⟩
      · obtain ⟨p0, p1⟩ := HM.out hqa
        have e2 : decide (q < a) = false := by simpa using hqa
        have wp1 : IntKind.i64.wrap (a * b) = a * b := IntWalk.i64_in _ ⟨by omega, p1⟩
        have wp2 : wrap64 (a * b) = a * b := wrap64_in _ p0 p1
        rw [if_neg hqa] at hT
        clear hqa HM p0 p1
        go_enter Try.func93, Try.ntmps93
        go_wp2_with fail
        go_ret
        exact ⟨by rw [hT.out]; rfl, rfl⟩
set_option maxHeartbeats 1000000 in
theorem rtimes_any (a b : Int) (w : World) (a0 : -9223372036854775808 ≤ a) (a1 : a ≤ 9223372036854775807) (b0 : -9223372036854775808 ≤ b) (b1 : b ≤ 9223372036854775807) :
    Calls Try.prog 57 #[.int .i64 a, .int .i64 b] w fun e w' => e = .returned (.int .i64 (tmI a b)) ∧ w' = w := by
  rcases (show a ≤ 0 ∨ 0 < a by omega) with ha | ha
  · have ea : decide (a ≤ 0) = true := by simpa using ha
    have hT : Hid (tmI a b = 0) := Lib.hid (by unfold tmI; rw [if_pos (.inl ha)])
    clear ha
    go_enter Try.func57, Try.ntmps57
    go_wp2_with fail
    go_ret
    exact ⟨by rw [hT.out]; rfl, rfl⟩
  have ea : decide (a ≤ 0) = false := by (simp; omega)
  rcases (show b ≤ 0 ∨ 0 < b by omega) with hb | hb
  · have eb : decide (b ≤ 0) = true := by simpa using hb
    have hT : Hid (tmI a b = 0) := Lib.hid (by unfold tmI; rw [if_pos (.inr hb)])
    clear hb
    go_enter Try.func57, Try.ntmps57
    go_wp2_with fail
    go_ret
    exact ⟨by rw [hT.out]; rfl, rfl⟩
  · have eb : decide (b ≤ 0) = false := by (simp; omega)
    have e0 : (b == 0) = false := by (simp; omega)
    have n0 : b ≠ 0 := by omega
    have hd1 : Int.tdiv 9223372036854775807 b = 9223372036854775807 / b := Int.tdiv_eq_ediv_of_nonneg (by omega)
    have hq0 : 0 ≤ 9223372036854775807 / b := Int.ediv_nonneg (by omega) (by omega)
    have hq1 : 9223372036854775807 / b ≤ 9223372036854775807 := Int.ediv_le_self _ (by omega)
    have hT : Hid (tmI a b = if 9223372036854775807 / b < a then 9223372036854775807 else a * b) := Lib.hid (by unfold tmI; rw [if_neg (by omega)])
    have HM : Hid (¬ 9223372036854775807 / b < a → 0 ≤ a * b ∧ a * b ≤ 9223372036854775807) := Lib.hid (fun h => ⟨Int.mul_nonneg (by omega) (by omega), Int.mul_le_of_le_ediv (by omega) (by omega)⟩)
    generalize 9223372036854775807 / b = q at *
    have wq1 : IntKind.i64.wrap q = q := IntWalk.i64_in _ (by omega)
    have wq2 : wrap64 q = q := by unfold wrap64; omega
    rcases (show q < a ∨ ¬ q < a by omega) with hqa | hqa
    · have e2 : decide (q < a) = true := by simpa using hqa
      rw [if_pos hqa] at hT
      clear hqa
      go_enter Try.func57, Try.ntmps57
      go_wp2_with fail
      go_ret
      exact ⟨by rw [hT.out]; rfl, rfl⟩
    · obtain ⟨p0, p1⟩ := HM.out hqa
      have e2 : decide (q < a) = false := by simpa using hqa
      have wp1 : IntKind.i64.wrap (a * b) = a * b := IntWalk.i64_in _ ⟨by omega, p1⟩
      have wp2 : wrap64 (a * b) = a * b := wrap64_in _ p0 p1
      rw [if_neg hqa] at hT
      clear hqa HM p0 p1
      go_enter Try.func57, Try.ntmps57
      go_wp2_with fail
      go_ret
      exact ⟨by rw [hT.out]; rfl, rfl⟩
/-- a reading by its numbers -/
theorem quota_any (p b : Int) (w : World) (a0 : -9223372036854775808 ≤ p) (a1 : p ≤ 9223372036854775807) (b0 : -9223372036854775808 ≤ b) (b1 : b ≤ 9223372036854775807) :
    Calls Try.prog 56 #[.agg #[.int .i64 0, .int .i64 0, .int .i64 0, .int .i64 0, .int .i64 0, .int .i64 0, .int .i64 p, .int .i64 b, .int .u64 0]] w fun e w' => e = .returned (.agg #[.int .i64 2, .int .i64 8, .int .i64 4, .int .i64 (tmI p 4), .int .i64 (tmI b 4)]) ∧ Below w.heap.size w w' := by
  have HP := Lib.hid (fun W => times_any p 4 W a0 a1 (by omega) (by omega))
  have HB := Lib.hid (fun W => times_any b 4 W b0 b1 (by omega) (by omega))
  go_enter Try.func56, Try.ntmps56
  go_wp2_with fail
  generalize hW : World.alloc _ _ = W
  have BW : Below w.heap.size w W := by rw [← hW]; exact ((Below.refl _ w).alloc (Nat.le_refl _) _).alloc (by simp) _
  have g1 : W.heap[w.heap.size]? = some (.cells #[.int .i64 0, .int .i64 0, .int .i64 0, .int .i64 0, .int .i64 0, .int .i64 0, .int .i64 p, .int .i64 b, .int .u64 0] 106 (0, 0)) := by rw [← hW, heap_alloc, heap_alloc, if_neg (by simp), if_pos rfl]
  have g2 : W.heap[w.heap.size + 1]? = some (.cells #[.int .i64 0, .int .i64 0, .int .i64 0, .int .i64 0, .int .i64 0] 100 (0, 0)) := by rw [← hW, heap_alloc, if_pos (by simp)]
  clear hW
  have c6 : W.cell? ⟨w.heap.size, 6, none⟩ = some (.int .i64 p) := cell_blk g1
  have c7 : W.cell? ⟨w.heap.size, 7, none⟩ = some (.int .i64 b) := cell_blk g1
  have f0 : W.frozen? ⟨w.heap.size + 1, 0, none⟩ = false := free_blk g2
  have f1 : W.frozen? ⟨w.heap.size + 1, 1, none⟩ = false := free_blk g2
  have f2 : W.frozen? ⟨w.heap.size + 1, 2, none⟩ = false := free_blk g2
  have f3 : W.frozen? ⟨w.heap.size + 1, 3, none⟩ = false := free_blk g2
  have f4 : W.frozen? ⟨w.heap.size + 1, 4, none⟩ = false := free_blk g2
  have d0 : W.cell? ⟨w.heap.size + 1, 0, none⟩ = some (.int .i64 0) := cell_blk g2
  have d1 : W.cell? ⟨w.heap.size + 1, 1, none⟩ = some (.int .i64 0) := cell_blk g2
  have d2 : W.cell? ⟨w.heap.size + 1, 2, none⟩ = some (.int .i64 0) := cell_blk g2
  have d3 : W.cell? ⟨w.heap.size + 1, 3, none⟩ = some (.int .i64 0) := cell_blk g2
  have d4 : W.cell? ⟨w.heap.size + 1, 4, none⟩ = some (.int .i64 0) := cell_blk g2
  have HP2 := Lib.hid (HP.out W.drew)
  have HB2 := Lib.hid (HB.out W.drew)
  refine wp_region_still_tail 7 (by kernel_rfl) (by kernel_rfl) ?_
  simp only [List.take_succ_cons, List.take_zero, List.drop_succ_cons, List.drop_zero]
  iterate 2 still_step
  still_call HP2.out
  iterate 2 still_step
  still_call HB2.out
  iterate 1 still_step
  refine wpStill_nil ?_
  change wpList _ _ _ _ _ W.drew
  go_wp2_with fail
  generalize hF : (World.setCell _ _ _).drew = Wf
  have gf : Wf.heap[w.heap.size + 1]? = some (.cells #[.int .i64 2, .int .i64 8, .int .i64 4, .int .i64 (tmI p 4), .int .i64 (tmI b 4)] 100 (0, 0)) := by rw [← hF]; simp [heap_drew, heap_set, g2, putIn]
  have BF : Below w.heap.size w Wf := by
    rw [← hF]
    refine Below.drew ?_
    iterate 5 refine Below.setCell ?_ (by show _ ≤ w.heap.size + 1; omega) _
    exact BW
  clear hF
  have r0 : Wf.cell? ⟨w.heap.size + 1, 0, none⟩ = some (.int .i64 2) := cell_blk gf
  have r1 : Wf.cell? ⟨w.heap.size + 1, 1, none⟩ = some (.int .i64 8) := cell_blk gf
  have r2 : Wf.cell? ⟨w.heap.size + 1, 2, none⟩ = some (.int .i64 4) := cell_blk gf
  have r3 : Wf.cell? ⟨w.heap.size + 1, 3, none⟩ = some (.int .i64 (tmI p 4)) := cell_blk gf
  have r4 : Wf.cell? ⟨w.heap.size + 1, 4, none⟩ = some (.int .i64 (tmI b 4)) := cell_blk gf
  refine bodyPost_ret (by simp [results, Try.results56, go_sem, r0, r1, r2, r3, r4]; try rfl) rfl ?_
  exact ⟨rfl, BF⟩
theorem MeterQuota.walk (p b : Int) (w : World) (w0 : (Lit.int .i64 p).wf = true) (w1 : (Lit.int .i64 b).wf = true) :
    Calls Try.prog 13 #[.int .i64 p, .int .i64 b] w fun e w' => e = .returned (.bool true) ∧ Below w.heap.size w w' := by
  have hp := bounds_i64 w0
  have hb := bounds_i64 w1
  clear w0 w1
  go_enter Try.func13, Try.ntmps13
  go_wp2_with fail
  refine (alive49_any _).mono ?_
  rintro e w1 ⟨rfl, B1⟩
  go_wp2_with fail
  refine (quota_any p b w1 hp.1 hp.2 hb.1 hb.2).mono ?_
  rintro e w2 ⟨rfl, B2⟩
  have B3 : Below w.heap.size w w2 := B1.trans (B2.mono B1.size)
  have HP := Lib.hid (fun W => rtimes_any p 4 W hp.1 hp.2 (by omega) (by omega))
  have HB := Lib.hid (fun W => rtimes_any b 4 W hb.1 hb.2 (by omega) (by omega))
  go_wp2_with fail
  generalize hW : w2.alloc _ = W
  have g2 : W.heap[w2.heap.size]? = some (.cells #[.int .i64 2, .int .i64 8, .int .i64 4, .int .i64 (tmI p 4), .int .i64 (tmI b 4)] 100 (0, 0)) := by rw [← hW]; exact alloc_blk_new
  have BW : Below w.heap.size w W := by rw [← hW]; exact B3.alloc B3.size _
  clear hW
  have d0 : W.cell? ⟨w2.heap.size, 0, none⟩ = some (.int .i64 2) := cell_blk g2
  have d1 : W.cell? ⟨w2.heap.size, 1, none⟩ = some (.int .i64 8) := cell_blk g2
  have d2 : W.cell? ⟨w2.heap.size, 2, none⟩ = some (.int .i64 4) := cell_blk g2
  have d3 : W.cell? ⟨w2.heap.size, 3, none⟩ = some (.int .i64 (tmI p 4)) := cell_blk g2
  have d4 : W.cell? ⟨w2.heap.size, 4, none⟩ = some (.int .i64 (tmI b 4)) := cell_blk g2
  have HP2 := Lib.hid (HP.out W.drew)
  have HB2 := Lib.hid (HB.out W.drew)
  refine wp_region_still_lit (by kernel_rfl) (by kernel_rfl) ?_
  iterate 2 still_step
  still_call HP2.out
  iterate 1 still_step
  still_call HB2.out
  iterate 1 still_step
  have t1 : (tmI p 4 == tmI p 4) = true := by simp
  have t2 : (tmI b 4 == tmI b 4) = true := by simp
  iterate 2 still_step
  refine wpStill_nil ?_
  change Exit.then _ _ _ _ W.drew
  go_wp2_with fail
  go_ret
  exact ⟨rfl, BW.drew⟩
end Go.Proofs.Ytihbceippcgfgaa
