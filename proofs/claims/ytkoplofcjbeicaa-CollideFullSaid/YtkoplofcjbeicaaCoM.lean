/-
  Chapter 44: slices.MinFunc over places, where the first is the least.
-/
import Derived.Test.YtkoplofcjbeicaaCoJ
import Derived.StillTailTactics
namespace Go.Proofs.Ytkoplofcjbeicaa
open Go.RowKit
set_option linter.unusedVariables false
set_option linter.unusedSimpArgs false
attribute [local irreducible] wpStill wpQuiet MixC.wpMix

set_option maxRecDepth 100000 in
set_option maxHeartbeats 4000000 in
theorem min44 (f : Nat) (caps : Array Value) (b n c : Nat) (P : Nat → Plc) (w : World) (h : TRow w b n c P) (hn : n ≤ 1000) (h0 : 0 < n)
    (he : ∀ (v u : Value) (W : World), (callFunc f (#[v, u] ++ caps)).run Try.prog W = .ok (.enter f (#[v, u] ++ caps)) W)
    (hcl : ∀ i, 1 ≤ i → i < n → ∀ W, Below w.heap.size w W → Calls Try.prog f (#[.agg #[.int .u32 (P i).1, .int .u16 (P i).2], .agg #[.int .u32 (P 0).1, .int .u16 (P 0).2]] ++ caps) W fun e w' => (∃ r : Int, e = .returned (.int .i64 r) ∧ 0 ≤ r) ∧ Below W.heap.size W w') :
    Calls Try.prog 83 #[.slice (some ⟨b, 0, none⟩) n c, .func (.func f) #[] caps] w fun e w' =>
      Below w.heap.size w w' ∧ e = .returned (.agg #[.int .u32 (P 0).1, .int .u16 (P 0).2]) := by
  have H := Lib.hid h
  have HCL := Lib.hid hcl
  have hle := h.le
  have hmx := h.max
  obtain ⟨V0, hV⟩ : ∃ V, w.alloc (.cells #[.int .u32 0, .int .u16 0] 43) = V := ⟨_, rfl⟩
  obtain ⟨V, hV2⟩ : ∃ W, V0.alloc (.cells #[.int .u32 (P 0).1, .int .u16 (P 0).2] 43) = W := ⟨_, rfl⟩
  have s0 : V0.heap.size = w.heap.size + 1 := by rw [← hV]; simp
  have b0 : Below w.heap.size w V0 := by rw [← hV]; exact (Below.refl _ _).alloc (Nat.le_refl _) _
  have b1 : Below V0.heap.size V0 V := by rw [← hV2]; exact (Below.refl _ _).alloc (Nat.le_refl _) _
  have g1 : V.heap[w.heap.size]? = some (.cells #[.int .u32 0, .int .u16 0] 43 (0, 0)) := Below.blk b1 (by rw [← hV]; exact alloc_blk_new) (by omega)
  have g2 : V.heap[w.heap.size + 1]? = some (.cells #[.int .u32 (P 0).1, .int .u16 (P 0).2] 43 (0, 0)) := by rw [← s0, ← hV2]; exact alloc_blk_new
  obtain ⟨y0, y1⟩ := (h.keep b0).cell 0 h0
  rw [Nat.zero_mul] at y0 y1
  have hVe := Lib.hid hV
  have hVe2 := Lib.hid hV2
  clear h hcl
  generalize P 0 = p at *
  obtain ⟨p1, p2⟩ := p
  go_enter Try.func83, Try.ntmps83
  go_wp2_with fail
  try rw [hVe.out]
  try rw [hVe2.out]
  have G1 := Lib.hid g1
  have G2 := Lib.hid g2
  have BV := Lib.hid (b0.trans (b1.mono b0.size))
  clear hV hV2 g1 g2 b0 b1 y0 y1 s0
  go_loopw [6] (fun s6 wx => ∃ i : Nat, 1 ≤ i ∧ i ≤ n ∧ s6 = .int .i64 i ∧ Hid (Below V.heap.size V wx)) (fun s6 _ => n - (intOf s6).toNat)
  case atStart => exact ⟨1, by omega, by omega, rfl, Lib.hid (Below.refl _ _)⟩
  case round =>
    obtain ⟨i, hi1, hi, rfl, HB⟩ := hrel
    have k2 := Below.blk HB.out G2.out (lt_of_block G2.out)
    have x0 : wr.cell? ⟨w.heap.size + 1, 0, none⟩ = some (.int .u32 p1) := cell_blk k2
    have x1 : wr.cell? ⟨w.heap.size + 1, 1, none⟩ = some (.int .u16 p2) := cell_blk k2
    have BW := Lib.hid (BV.out.trans (HB.out.mono BV.out.size))
    clear k2
    by_cases hlt : i < n
    · have t1 : decide ((i : Int) < (n : Int)) = true := by simp; omega
      obtain ⟨y0, y1⟩ := (H.out.keep BW.out).cell i hlt
      have HC := Lib.hid (HCL.out i hi1 hlt wr.drew BW.out.drew)
      generalize P i = q at *
      obtain ⟨q1, q2⟩ := q
      go_wp2_with fail
      go_still_tail 6, (by kernel_rfl)
      change wpList _ _ _ _ _ wr.drew
      go_wp2_with fail
      refine HC.out.mono ?_
      rintro e w2 ⟨⟨r, rfl, hr⟩, b2⟩
      have t2 : decide (r < 0) = false := by simp; omega
      have HB2 : Hid (Below V.heap.size V w2) := Lib.hid (HB.out.drew.trans (b2.mono HB.out.size))
      clear b2 y0 y1 x0 x1 HC
      go_wp2_with fail
      go_roundw
      case rel => exact ⟨i + 1, by omega, by omega, by go_num, HB2⟩
      case measure => simp [intOf] <;> omega
    · obtain rfl : n = i := by omega
      have k1 := Below.blk HB.out G1.out (lt_of_block G1.out)
      have u0 : wr.cell? ⟨w.heap.size, 0, none⟩ = some (.int .u32 0) := cell_blk k1
      have u1 : wr.cell? ⟨w.heap.size, 1, none⟩ = some (.int .u16 0) := cell_blk k1
      have f0 : wr.frozen? ⟨w.heap.size, 0, none⟩ = false := free_blk k1
      have f1 : wr.frozen? ⟨w.heap.size, 1, none⟩ = false := free_blk k1
      have K1 := Lib.hid k1
      clear k1
      go_wp2_with fail
      generalize hX : World.setCell _ _ _ = X
      have gX : X.heap[w.heap.size]? = some (.cells #[.int .u32 p1, .int .u16 p2] 43 (0, 0)) := by rw [← hX, set_blk _ (set_blk _ K1.out)]; rfl
      have bX : Below w.heap.size w X := by rw [← hX]; exact (BW.out.setCell (Nat.le_refl _) _).setCell (Nat.le_refl _) _
      have e0 : X.cell? ⟨w.heap.size, 0, none⟩ = some (.int .u32 p1) := cell_blk gX
      have e1 : X.cell? ⟨w.heap.size, 1, none⟩ = some (.int .u16 p2) := cell_blk gX
      clear hX gX
      refine bodyPost_ret (by simp [results, Try.results83, go_sem, e0, e1]; try rfl) rfl ?_
      exact ⟨bX, rfl⟩
end Go.Proofs.Ytkoplofcjbeicaa
