/-
  Chapter 49: sums of readings, the reference's; bills.
-/
import Derived.Test.YtihbceippcgfgaaMtT
namespace Go.Proofs.Ytihbceippcgfgaa
open Go.RowKit
set_option linter.unusedVariables false
set_option linter.unusedSimpArgs false
attribute [local irreducible] wpStill wpQuiet

set_option maxRecDepth 100000 in
set_option maxHeartbeats 8000000 in
theorem rsum_any {B : Nat} {w : World} {a : Option Addr} {n cap : Nat} {R : Nat → Nat → Int} (h : RS B w a n R) (hB : B ≤ w.heap.size) (hn : n ≤ 1000) (hcap : n ≤ cap) :
    Calls Try.prog 61 #[.slice a n cap] w fun e w' => e = .returned (.agg #[.int .i64 (smI R n 0), .int .i64 (smI R n 1), .int .i64 (smI R n 2), .int .i64 (smI R n 3), .int .i64 (smI R n 4)]) ∧ Below w.heap.size w w' := by
  have H := Lib.hid h
  clear h
  go_enter Try.func61, Try.ntmps61
  go_wp2_with fail
  generalize hW : World.alloc _ _ = W
  have g1 : W.heap[w.heap.size]? = some (.cells #[.int .i64 0, .int .i64 0, .int .i64 0, .int .i64 0, .int .i64 0] 100 (0, 0)) := by rw [← hW, heap_alloc, heap_alloc, if_neg (by simp), if_pos rfl]
  have g2 : W.heap[w.heap.size + 1]? = some (.cells #[.int .i64 0, .int .i64 0, .int .i64 0, .int .i64 0, .int .i64 0] 100 (0, 0)) := by rw [← hW, heap_alloc, if_pos (by simp)]
  have B2 : Below w.heap.size w W := by rw [← hW]; exact ((Below.refl _ w).alloc (Nat.le_refl _) _).alloc (by simp) _
  clear hW
  obtain ⟨r, hr⟩ : ∃ r, r = w.heap.size := ⟨_, rfl⟩
  rw [← hr] at g1 g2
  rw [← hr]
  obtain ⟨g, hg⟩ : ∃ g, g = r + 1 := ⟨_, rfl⟩
  rw [← hg] at g2
  rw [← hg]
  have hgr : g ≠ r := by omega
  have hwr : w.heap.size ≤ r := by omega
  have hwg : w.heap.size ≤ g := by omega
  clear hr hg
  go_loopw [4] (fun si wr => ∃ (k : Nat), k ≤ n ∧ si = .int .i64 k ∧ Hid (wr.heap[r]? = some (.cells #[.int .i64 0, .int .i64 0, .int .i64 0, .int .i64 0, .int .i64 0] 100 (0, 0))) ∧ Hid (wr.heap[g]? = some (.cells #[.int .i64 (smI R k 0), .int .i64 (smI R k 1), .int .i64 (smI R k 2), .int .i64 (smI R k 3), .int .i64 (smI R k 4)] 100 (0, 0))) ∧ Hid (Below w.heap.size w wr)) (fun si _ => n - (intOf si).toNat)
  case atStart => exact ⟨0, by omega, rfl, Lib.hid g1, Lib.hid g2, Lib.hid B2⟩
  case round =>
    clear g1 g2 B2
    obtain ⟨k, hk, rfl, G1, G2, HB⟩ := hrel
    by_cases hlt : k < n
    · have HBd := Lib.hid (fun j => H.out.bd k j)
      obtain ⟨b, off, rfl, hb, hcc⟩ := H.out.at_ (by omega)
      have HCC : Hid (∀ W, Below w.heap.size w W → ∀ j, j < 5 → W.cell? ⟨b, off + k * 5 + j, none⟩ = some (.int .i64 (R k j))) := Lib.hid (fun W hW j hj => Below.cell' hW (by omega) (hcc k hlt j hj))
      clear hcc
      have G3 : Hid (wr.heap[g]? = some (.cells #[.int .i64 (rowI R k 0 0), .int .i64 (rowI R k 0 1), .int .i64 (rowI R k 0 2), .int .i64 (rowI R k 0 3), .int .i64 (rowI R k 0 4)] 100 (0, 0))) := G2
      generalize hWW : wr = W0 at *
      clear hWW G2
      have c0 : W0.cell? ⟨g, 0, none⟩ = some (.int .i64 (rowI R k 0 0)) := cell_blk G3.out
      have f0 : W0.frozen? ⟨g, 0, none⟩ = false := free_blk G3.out
      have m0 : W0.cell? ⟨b, off + k * 5, none⟩ = some (.int .i64 (R k 0)) := HCC.out W0 HB.out 0 (by omega)
      have hb2 : 0 ≤ rowI R k 0 0 ∧ rowI R k 0 0 ≤ 9223372036854775807 := by
        have e : rowI R k 0 0 = smI R k 0 := rfl
        rw [e]; exact smI_bd R k 0
      have HP := Lib.hid (rplus_any (rowI R k 0 0) (R k 0) W0.drew (by omega) (by omega) (HBd.out 0).1 (HBd.out 0).2)
      clear hb2
      go_wp2_with fail
      refine wp_region_still_tail 9 (by kernel_rfl) (by kernel_rfl) ?_
      simp only [List.take_succ_cons, List.take_zero, List.drop_succ_cons, List.drop_zero]
      iterate 7 still_step
      still_call HP.out
      iterate 1 still_step
      refine wpStill_nil ?_
      change wpList _ _ _ _ _ W0.drew
      go_wp2_with fail
      generalize hF : (World.setCell _ _ _).drew = W1
      have G4 : Hid (W1.heap[g]? = some (.cells #[.int .i64 (rowI R k 1 0), .int .i64 (rowI R k 1 1), .int .i64 (rowI R k 1 2), .int .i64 (rowI R k 1 3), .int .i64 (rowI R k 1 4)] 100 (0, 0))) := Lib.hid (by rw [← hF, heap_drew, set_blk _ G3.out]; simp [rowI, smI])
      have G5 : Hid (W1.heap[r]? = some (.cells #[.int .i64 0, .int .i64 0, .int .i64 0, .int .i64 0, .int .i64 0] 100 (0, 0))) := Lib.hid (by rw [← hF, heap_drew, set_blk_other _ (by show r ≠ g; omega)]; exact G1.out)
      have HB5 : Hid (Below w.heap.size w W1) := Lib.hid (by rw [← hF]; exact (Below.setCell HB.out hwg _).drew)
      clear hF c0 f0 m0 HP G3 G1 HB
      have G3 := G4
      have G1 := G5
      have HB := HB5
      clear G4 G5 HB5
      have c0 : W1.cell? ⟨g, 1, none⟩ = some (.int .i64 (rowI R k 1 1)) := cell_blk G3.out
      have f0 : W1.frozen? ⟨g, 1, none⟩ = false := free_blk G3.out
      have m0 : W1.cell? ⟨b, off + k * 5 + 1, none⟩ = some (.int .i64 (R k 1)) := HCC.out W1 HB.out 1 (by omega)
      have hb2 : 0 ≤ rowI R k 1 1 ∧ rowI R k 1 1 ≤ 9223372036854775807 := by
        have e : rowI R k 1 1 = smI R k 1 := rfl
        rw [e]; exact smI_bd R k 1
      have HP := Lib.hid (rplus_any (rowI R k 1 1) (R k 1) W1.drew (by omega) (by omega) (HBd.out 1).1 (HBd.out 1).2)
      clear hb2
      go_wp2_with fail
      refine wp_region_still_tail 9 (by kernel_rfl) (by kernel_rfl) ?_
      simp only [List.take_succ_cons, List.take_zero, List.drop_succ_cons, List.drop_zero]
      iterate 7 still_step
      still_call HP.out
      iterate 1 still_step
      refine wpStill_nil ?_
      change wpList _ _ _ _ _ W1.drew
      go_wp2_with fail
      generalize hF : (World.setCell _ _ _).drew = W2
      have G4 : Hid (W2.heap[g]? = some (.cells #[.int .i64 (rowI R k 2 0), .int .i64 (rowI R k 2 1), .int .i64 (rowI R k 2 2), .int .i64 (rowI R k 2 3), .int .i64 (rowI R k 2 4)] 100 (0, 0))) := Lib.hid (by rw [← hF, heap_drew, set_blk _ G3.out]; simp [rowI, smI])
      have G5 : Hid (W2.heap[r]? = some (.cells #[.int .i64 0, .int .i64 0, .int .i64 0, .int .i64 0, .int .i64 0] 100 (0, 0))) := Lib.hid (by rw [← hF, heap_drew, set_blk_other _ (by show r ≠ g; omega)]; exact G1.out)
      have HB5 : Hid (Below w.heap.size w W2) := Lib.hid (by rw [← hF]; exact (Below.setCell HB.out hwg _).drew)
      clear hF c0 f0 m0 HP G3 G1 HB
      have G3 := G4
      have G1 := G5
      have HB := HB5
      clear G4 G5 HB5
      have c0 : W2.cell? ⟨g, 2, none⟩ = some (.int .i64 (rowI R k 2 2)) := cell_blk G3.out
      have f0 : W2.frozen? ⟨g, 2, none⟩ = false := free_blk G3.out
      have m0 : W2.cell? ⟨b, off + k * 5 + 2, none⟩ = some (.int .i64 (R k 2)) := HCC.out W2 HB.out 2 (by omega)
      have hb2 : 0 ≤ rowI R k 2 2 ∧ rowI R k 2 2 ≤ 9223372036854775807 := by
        have e : rowI R k 2 2 = smI R k 2 := rfl
        rw [e]; exact smI_bd R k 2
      have HP := Lib.hid (rplus_any (rowI R k 2 2) (R k 2) W2.drew (by omega) (by omega) (HBd.out 2).1 (HBd.out 2).2)
      clear hb2
      go_wp2_with fail
      refine wp_region_still_tail 9 (by kernel_rfl) (by kernel_rfl) ?_
      simp only [List.take_succ_cons, List.take_zero, List.drop_succ_cons, List.drop_zero]
      iterate 7 still_step
      still_call HP.out
      iterate 1 still_step
      refine wpStill_nil ?_
      change wpList _ _ _ _ _ W2.drew
      go_wp2_with fail
      generalize hF : (World.setCell _ _ _).drew = W3
      have G4 : Hid (W3.heap[g]? = some (.cells #[.int .i64 (rowI R k 3 0), .int .i64 (rowI R k 3 1), .int .i64 (rowI R k 3 2), .int .i64 (rowI R k 3 3), .int .i64 (rowI R k 3 4)] 100 (0, 0))) := Lib.hid (by rw [← hF, heap_drew, set_blk _ G3.out]; simp [rowI, smI])
      have G5 : Hid (W3.heap[r]? = some (.cells #[.int .i64 0, .int .i64 0, .int .i64 0, .int .i64 0, .int .i64 0] 100 (0, 0))) := Lib.hid (by rw [← hF, heap_drew, set_blk_other _ (by show r ≠ g; omega)]; exact G1.out)
      have HB5 : Hid (Below w.heap.size w W3) := Lib.hid (by rw [← hF]; exact (Below.setCell HB.out hwg _).drew)
      clear hF c0 f0 m0 HP G3 G1 HB
      have G3 := G4
      have G1 := G5
      have HB := HB5
      clear G4 G5 HB5
      have c0 : W3.cell? ⟨g, 3, none⟩ = some (.int .i64 (rowI R k 3 3)) := cell_blk G3.out
      have f0 : W3.frozen? ⟨g, 3, none⟩ = false := free_blk G3.out
      have m0 : W3.cell? ⟨b, off + k * 5 + 3, none⟩ = some (.int .i64 (R k 3)) := HCC.out W3 HB.out 3 (by omega)
      have hb2 : 0 ≤ rowI R k 3 3 ∧ rowI R k 3 3 ≤ 9223372036854775807 := by
        have e : rowI R k 3 3 = smI R k 3 := rfl
        rw [e]; exact smI_bd R k 3
      have HP := Lib.hid (rplus_any (rowI R k 3 3) (R k 3) W3.drew (by omega) (by omega) (HBd.out 3).1 (HBd.out 3).2)
      clear hb2
      go_wp2_with fail
      refine wp_region_still_tail 9 (by kernel_rfl) (by kernel_rfl) ?_
      simp only [List.take_succ_cons, List.take_zero, List.drop_succ_cons, List.drop_zero]
      iterate 7 still_step
      still_call HP.out
      iterate 1 still_step
      refine wpStill_nil ?_
      change wpList _ _ _ _ _ W3.drew
      go_wp2_with fail
      generalize hF : (World.setCell _ _ _).drew = W4
      have G4 : Hid (W4.heap[g]? = some (.cells #[.int .i64 (rowI R k 4 0), .int .i64 (rowI R k 4 1), .int .i64 (rowI R k 4 2), .int .i64 (rowI R k 4 3), .int .i64 (rowI R k 4 4)] 100 (0, 0))) := Lib.hid (by rw [← hF, heap_drew, set_blk _ G3.out]; simp [rowI, smI])
      have G5 : Hid (W4.heap[r]? = some (.cells #[.int .i64 0, .int .i64 0, .int .i64 0, .int .i64 0, .int .i64 0] 100 (0, 0))) := Lib.hid (by rw [← hF, heap_drew, set_blk_other _ (by show r ≠ g; omega)]; exact G1.out)
      have HB5 : Hid (Below w.heap.size w W4) := Lib.hid (by rw [← hF]; exact (Below.setCell HB.out hwg _).drew)
      clear hF c0 f0 m0 HP G3 G1 HB
      have G3 := G4
      have G1 := G5
      have HB := HB5
      clear G4 G5 HB5
      have c0 : W4.cell? ⟨g, 4, none⟩ = some (.int .i64 (rowI R k 4 4)) := cell_blk G3.out
      have f0 : W4.frozen? ⟨g, 4, none⟩ = false := free_blk G3.out
      have m0 : W4.cell? ⟨b, off + k * 5 + 4, none⟩ = some (.int .i64 (R k 4)) := HCC.out W4 HB.out 4 (by omega)
      have hb2 : 0 ≤ rowI R k 4 4 ∧ rowI R k 4 4 ≤ 9223372036854775807 := by
        have e : rowI R k 4 4 = smI R k 4 := rfl
        rw [e]; exact smI_bd R k 4
      have HP := Lib.hid (rplus_any (rowI R k 4 4) (R k 4) W4.drew (by omega) (by omega) (HBd.out 4).1 (HBd.out 4).2)
      clear hb2
      go_wp2_with fail
      refine wp_region_still_tail 9 (by kernel_rfl) (by kernel_rfl) ?_
      simp only [List.take_succ_cons, List.take_zero, List.drop_succ_cons, List.drop_zero]
      iterate 7 still_step
      still_call HP.out
      iterate 1 still_step
      refine wpStill_nil ?_
      change wpList _ _ _ _ _ W4.drew
      go_wp2_with fail
      generalize hF : (World.setCell _ _ _).drew = W5
      have G4 : Hid (W5.heap[g]? = some (.cells #[.int .i64 (rowI R k 5 0), .int .i64 (rowI R k 5 1), .int .i64 (rowI R k 5 2), .int .i64 (rowI R k 5 3), .int .i64 (rowI R k 5 4)] 100 (0, 0))) := Lib.hid (by rw [← hF, heap_drew, set_blk _ G3.out]; simp [rowI, smI])
      have G5 : Hid (W5.heap[r]? = some (.cells #[.int .i64 0, .int .i64 0, .int .i64 0, .int .i64 0, .int .i64 0] 100 (0, 0))) := Lib.hid (by rw [← hF, heap_drew, set_blk_other _ (by show r ≠ g; omega)]; exact G1.out)
      have HB5 : Hid (Below w.heap.size w W5) := Lib.hid (by rw [← hF]; exact (Below.setCell HB.out hwg _).drew)
      clear hF c0 f0 m0 HP G3 G1 HB
      have G3 := G4
      have G1 := G5
      have HB := HB5
      clear G4 G5 HB5
      have G4 : Hid (W5.heap[g]? = some (.cells #[.int .i64 (smI R (k + 1) 0), .int .i64 (smI R (k + 1) 1), .int .i64 (smI R (k + 1) 2), .int .i64 (smI R (k + 1) 3), .int .i64 (smI R (k + 1) 4)] 100 (0, 0))) := Lib.hid (by have := G3.out; simpa [rowI] using this)
      go_wp2_with fail
      go_roundw
      case rel => exact ⟨k + 1, by omega, by go_num, G1, G4, HB⟩
      case measure => simp [intOf] <;> omega
    · obtain rfl : n = k := by omega
      have c0 : wr.cell? ⟨g, 0, none⟩ = some (.int .i64 (smI R n 0)) := cell_blk G2.out
      have c1 : wr.cell? ⟨g, 1, none⟩ = some (.int .i64 (smI R n 1)) := cell_blk G2.out
      have c2 : wr.cell? ⟨g, 2, none⟩ = some (.int .i64 (smI R n 2)) := cell_blk G2.out
      have c3 : wr.cell? ⟨g, 3, none⟩ = some (.int .i64 (smI R n 3)) := cell_blk G2.out
      have c4 : wr.cell? ⟨g, 4, none⟩ = some (.int .i64 (smI R n 4)) := cell_blk G2.out
      have f0 : wr.frozen? ⟨r, 0, none⟩ = false := free_blk G1.out
      have f1 : wr.frozen? ⟨r, 1, none⟩ = false := free_blk G1.out
      have f2 : wr.frozen? ⟨r, 2, none⟩ = false := free_blk G1.out
      have f3 : wr.frozen? ⟨r, 3, none⟩ = false := free_blk G1.out
      have f4 : wr.frozen? ⟨r, 4, none⟩ = false := free_blk G1.out
      have d0 : wr.cell? ⟨r, 0, none⟩ = some (.int .i64 0) := cell_blk G1.out
      have d1 : wr.cell? ⟨r, 1, none⟩ = some (.int .i64 0) := cell_blk G1.out
      have d2 : wr.cell? ⟨r, 2, none⟩ = some (.int .i64 0) := cell_blk G1.out
      have d3 : wr.cell? ⟨r, 3, none⟩ = some (.int .i64 0) := cell_blk G1.out
      have d4 : wr.cell? ⟨r, 4, none⟩ = some (.int .i64 0) := cell_blk G1.out
      go_wp2_with fail
      generalize hF : World.setCell _ _ _ = Wf
      have gf : Wf.heap[r]? = some (.cells #[.int .i64 (smI R n 0), .int .i64 (smI R n 1), .int .i64 (smI R n 2), .int .i64 (smI R n 3), .int .i64 (smI R n 4)] 100 (0, 0)) := by rw [← hF]; simp [heap_drew, heap_set, G1.out, putIn]
      have BF : Below w.heap.size w Wf := by
        rw [← hF]
        iterate 5 refine Below.setCell ?_ hwr _
        exact HB.out
      clear hF f0 f1 f2 f3 f4 d0 d1 d2 d3 d4 c0 c1 c2 c3 c4
      have r0 : Wf.cell? ⟨r, 0, none⟩ = some (.int .i64 (smI R n 0)) := cell_blk gf
      have r1 : Wf.cell? ⟨r, 1, none⟩ = some (.int .i64 (smI R n 1)) := cell_blk gf
      have r2 : Wf.cell? ⟨r, 2, none⟩ = some (.int .i64 (smI R n 2)) := cell_blk gf
      have r3 : Wf.cell? ⟨r, 3, none⟩ = some (.int .i64 (smI R n 3)) := cell_blk gf
      have r4 : Wf.cell? ⟨r, 4, none⟩ = some (.int .i64 (smI R n 4)) := cell_blk gf
      refine bodyPost_ret (by simp [results, Try.results61, go_sem, r0, r1, r2, r3, r4]; try rfl) rfl ?_
      exact ⟨rfl, BF⟩
end Go.Proofs.Ytihbceippcgfgaa
