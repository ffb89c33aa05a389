/-
  Chapter 43: the law's same; the example.
-/
import Derived.Test.YtkoplofcjbeicaaOpI
namespace Go.Proofs.Ytkoplofcjbeicaa
open Go.RowKit
set_option linter.unusedVariables false
set_option linter.unusedSimpArgs false
attribute [local irreducible] wpStill wpQuiet MixC.wpMix
attribute [local go_sem] MixC.rdOp MixC.rd MixC.rdUpon MixC.mvUpon

set_option maxRecDepth 100000 in
set_option maxHeartbeats 4000000 in
theorem osame1 (m bd ei p : Int) (st : Bool) (g1 g2 c d n1 c1 n2 c2 : Nat) (a1 a2 : Option Addr) (S : ByteArray) (w : World) (q1 : w.cell? ⟨g1, 0, none⟩ = some (.slice a1 n1 c1)) (q2 : w.cell? ⟨g2, 0, none⟩ = some (.slice a2 n2 c2)) (l1 : g1 < w.heap.size) (l2 : g2 < w.heap.size) (hc : 1 ≤ c) (hd : 1 ≤ d)
    (V1 : ∀ W, Below w.heap.size w W → (convert 22 9 (.slice a1 n1 c1)).run Try.prog W = .ok (.string S) W) (V2 : ∀ W, Below w.heap.size w W → (convert 22 9 (.slice a2 n2 c2)).run Try.prog W = .ok (.string S) W) :
    Calls Try.prog 48 #[.agg #[.int .i64 m, .int .i64 bd, .bool st, .int .i64 ei, .slice (some ⟨g1, 0, none⟩) 1 c, .int .i64 p], .agg #[.int .i64 m, .int .i64 bd, .bool st, .int .i64 ei, .slice (some ⟨g2, 0, none⟩) 1 d, .int .i64 p]] w fun e w' => e = .returned (.bool true) ∧ Below w.heap.size w w' := by
  have H1 := Lib.hid q1
  have H2 := Lib.hid q2
  have HV1 := Lib.hid V1
  have HV2 := Lib.hid V2
  have t1 : (S.toList == S.toList) = true := beq_self_eq_true _
  have t2 : (S.toList != S.toList) = false := by simp
  have s1 : (st == st) = true := by cases st <;> rfl
  have s2 : (st != st) = false := by cases st <;> rfl
  clear q1 q2 V1 V2
  go_enter Try.func48, Try.ntmps48
  go_wp2_with fail
  generalize hW : World.alloc (World.alloc _ _) _ = W
  have b1 : W.heap[w.heap.size]? = some (.cells #[.int .i64 m, .int .i64 bd, .bool st, .int .i64 ei, .slice (some ⟨g1, 0, none⟩) 1 c, .int .i64 p] 48 (0, 0)) := by rw [← hW, alloc_blk_old (by simp)]; exact alloc_blk_new
  have b2 : W.heap[w.heap.size + 1]? = some (.cells #[.int .i64 m, .int .i64 bd, .bool st, .int .i64 ei, .slice (some ⟨g2, 0, none⟩) 1 d, .int .i64 p] 48 (0, 0)) := by
    rw [← hW]
    have h := alloc_blk_new (w := w.alloc (.cells #[.int .i64 m, .int .i64 bd, .bool st, .int .i64 ei, .slice (some ⟨g1, 0, none⟩) 1 c, .int .i64 p] 48)) (o := .cells #[.int .i64 m, .int .i64 bd, .bool st, .int .i64 ei, .slice (some ⟨g2, 0, none⟩) 1 d, .int .i64 p] 48)
    rw [show (w.alloc (.cells #[.int .i64 m, .int .i64 bd, .bool st, .int .i64 ei, .slice (some ⟨g1, 0, none⟩) 1 c, .int .i64 p] 48)).heap.size = w.heap.size + 1 by simp] at h
    exact h
  have bw : Below w.heap.size w W := by rw [← hW]; exact ((Below.refl _ _).alloc (Nat.le_refl _) _).alloc (by simp) _
  have HB1 := Lib.hid b1
  have HB2 := Lib.hid b2
  have HBW := Lib.hid bw
  clear hW b1 b2 bw
  go_loopw [5] (fun si wx => ∃ i : Nat, i ≤ 1 ∧ si = .int .i64 i ∧ Hid (Below W.heap.size W wx)) (fun si _ => 1 - (intOf si).toNat)
  case atStart => exact ⟨0, by omega, rfl, Lib.hid (Below.refl _ _)⟩
  case round =>
    obtain ⟨i, hi, rfl, HB⟩ := hrel
    have k1 : wr.cell? ⟨w.heap.size, 4, none⟩ = some (.slice (some ⟨g1, 0, none⟩) 1 c) := cell_blk (Below.blk HB.out HB1.out (lt_of_block HB1.out))
    have k2 : wr.cell? ⟨w.heap.size + 1, 4, none⟩ = some (.slice (some ⟨g2, 0, none⟩) 1 d) := cell_blk (Below.blk HB.out HB2.out (lt_of_block HB2.out))
    have HBR : Hid (Below w.heap.size w wr) := Lib.hid (HBW.out.trans (HB.out.mono HBW.out.size))
    have k3 := Below.cell' HBR.out l1 H1.out
    have k4 := Below.cell' HBR.out l2 H2.out
    by_cases hlt : i < 1
    · obtain rfl : i = 0 := by omega
      have hdr : Hid (∀ y : { y' : World // Below wr.heap.size wr y' }, Below w.heap.size w y.1) := Lib.hid fun y => HBR.out.trans (y.2.mono HBR.out.size)
      have HK1 : Hid (∀ y : { w' : World // Below wr.heap.size wr w' }, y.1.cell? ⟨w.heap.size, 4, none⟩ = some (.slice (some ⟨g1, 0, none⟩) 1 c)) := Lib.hid fun y => Below.cell' y.2 (by have := lt_of_block HB1.out; have := HB.out.size; omega) k1
      have HK2 : Hid (∀ y : { w' : World // Below wr.heap.size wr w' }, y.1.cell? ⟨w.heap.size + 1, 4, none⟩ = some (.slice (some ⟨g2, 0, none⟩) 1 d)) := Lib.hid fun y => Below.cell' y.2 (by have := lt_of_block HB2.out; have := HB.out.size; omega) k2
      have HK3 : Hid (∀ y : { w' : World // Below wr.heap.size wr w' }, y.1.cell? ⟨g1, 0, none⟩ = some (.slice a1 n1 c1)) := Lib.hid fun y => Below.cell' y.2 (by have := HBR.out.size; omega) k3
      have HK4 : Hid (∀ y : { w' : World // Below wr.heap.size wr w' }, y.1.cell? ⟨g2, 0, none⟩ = some (.slice a2 n2 c2)) := Lib.hid fun y => Below.cell' y.2 (by have := HBR.out.size; omega) k4
      have HC1 : Hid (∀ y : { w' : World // Below wr.heap.size wr w' }, (convert 22 9 (.slice a1 n1 c1)).run Try.prog y.1 = .ok (.string S) y.1) := Lib.hid fun y => HV1.out _ (hdr.out y)
      have HC2 : Hid (∀ y : { w' : World // Below wr.heap.size wr w' }, (convert 22 9 (.slice a2 n2 c2)).run Try.prog y.1 = .ok (.string S) y.1) := Lib.hid fun y => HV2.out _ (hdr.out y)
      have D0 : Hid (Below wr.heap.size wr wr.drew) := Lib.hid (Below.refl _ _).drew
      go_upto_region 6 with (fail)
      have hne : Nonempty { w' : World // Below wr.heap.size wr w' } := ⟨⟨wr, Below.refl _ _⟩⟩
      clear k1 k2 k3 k4
      have k1 := HK1.out
      have k2 := HK2.out
      have k3 := HK3.out
      have k4 := HK4.out
      have c1 := HC1.out
      have c2 := HC2.out
      refine MixC.wp_region_mix [] (Below wr.heap.size wr) D0.out (by kernel_rfl) (by kernel_rfl) (by kernel_rfl) ?_
      (iterate 13 (refine MixC.mix_read rfl (fun K hK => ?_); go_simp; refine hK _ ?_; clear hK K))
      refine MixC.mix_nil ?_
      change Exit.then _ _ _ _ wr.drew
      clear c1 c2 k1 k2 k3 k4 hne
      go_wp2_with fail
      go_roundw
      case rel => exact ⟨1, by omega, by go_num, Lib.hid HB.out.drew⟩
      case measure => simp [intOf] <;> omega
    · obtain rfl : i = 1 := by omega
      go_wp2_with fail
      go_ret
      exact ⟨rfl, HBR.out⟩
set_option maxRecDepth 100000 in
set_option maxHeartbeats 4000000 in
theorem alive43 (w : World) : Calls Try.prog 22 #[] w fun e w' => e = .returned (.bool true) ∧ Below w.heap.size w w' := by
  obtain ⟨W1, hW1⟩ : ∃ W1, w.alloc (.cells #[.int .u8 8, .int .u8 1, .int .u8 2] 5) = W1 := ⟨_, rfl⟩
  have b1 : Below w.heap.size w W1 := by rw [← hW1]; exact (Below.refl _ _).alloc (Nat.le_refl _) _
  have g1 : W1.heap[w.heap.size]? = some (.cells #[.int .u8 8, .int .u8 1, .int .u8 2] 5 (0, 0)) := by rw [← hW1]; exact alloc_blk_new
  have l1 := lt_of_block g1
  have three : ∀ i, i < 3 → i = 0 ∨ i = 1 ∨ i = 2 := by omega
  have four : ∀ i, i < 4 → i = 0 ∨ i = 1 ∨ i = 2 ∨ i = 3 := by omega
  have hs : BS W1.heap.size W1 (some ⟨w.heap.size, 0, none⟩) 3 3 (gz [8, 1, 2]) := ⟨by omega, by omega, fun i hi => by
    rcases three i hi with rfl | rfl | rfl <;> decide, w.heap.size, 0, fun _ => ⟨rfl, l1⟩, fun i hi => by
    rw [Nat.zero_add, cell_blk g1]
    rcases three i hi with rfl | rfl | rfl <;> rfl⟩
  have HC := Lib.hid (oread 3 3 _ _ W1 hs (by omega))
  have HB1 := Lib.hid b1
  clear hs b1 g1 l1
  go_enter Try.func22, Try.ntmps22
  go_wp2_with fail
  refine HC.out.mono ?_
  rintro e w2 ⟨hb2, ⟨k, hk, rfl, -, hno⟩ | ⟨d0, d1, d2, st, a, q, c, p, P, vs, rfl, hR, -, -, -, -, -, h8, -⟩⟩
  · exact absurd ⟨by decide, by omega, by omega⟩ hno
  obtain ⟨rfl, rfl, rfl, rfl, rfl, rfl, rfl⟩ := h8 (by decide)
  have HR := Lib.hid hR
  have HB2 := Lib.hid (HB1.out.trans (hb2.mono HB1.out.size))
  clear hR h8 hb2 HC
  go_wp2_with fail
  generalize hV : World.alloc (World.alloc w2 _) _ = V
  have v1 : V.heap[w2.heap.size]? = some (.cells #[.int .i64 0, .int .i64 0, .bool false, .int .i64 160, .slice a 1 c, .int .i64 0] 48 (0, 0)) := by rw [← hV, alloc_blk_old (by simp)]; exact alloc_blk_new
  have v2 : V.heap[w2.heap.size + 1]? = some (.cells #[.int .u8 9, .int .u8 1, .int .u8 2, .int .u8 3] 5 (0, 0)) := by
    rw [← hV]
    have h := alloc_blk_new (w := w2.alloc (.cells #[.int .i64 0, .int .i64 0, .bool false, .int .i64 160, .slice a 1 c, .int .i64 0] 48)) (o := .cells #[.int .u8 9, .int .u8 1, .int .u8 2, .int .u8 3] 5)
    rw [show (w2.alloc (.cells #[.int .i64 0, .int .i64 0, .bool false, .int .i64 160, .slice a 1 c, .int .i64 0] 48)).heap.size = w2.heap.size + 1 by simp] at h
    exact h
  have v3 : Below w2.heap.size w2 V := by rw [← hV]; exact ((Below.refl _ _).alloc (Nat.le_refl _) _).alloc (by simp) _
  clear hV
  have l2 := lt_of_block v2
  have hs : BS V.heap.size V (some ⟨w2.heap.size + 1, 0, none⟩) 4 4 (gz [9, 1, 2, 3]) := ⟨by omega, by omega, fun i hi => by
    rcases four i hi with rfl | rfl | rfl | rfl <;> decide, w2.heap.size + 1, 0, fun _ => ⟨rfl, l2⟩, fun i hi => by
    rw [Nat.zero_add, cell_blk v2]
    rcases four i hi with rfl | rfl | rfl | rfl <;> rfl⟩
  have HC := Lib.hid (oread 4 4 _ _ V hs (by omega))
  have V1 := Lib.hid v1
  have V3 := Lib.hid v3
  clear v1 v2 v3 hs l2
  refine HC.out.mono ?_
  rintro e w3 ⟨hb3, hx⟩
  obtain rfl : e = .returned (.tuple #[.agg #[.int .i64 0, .int .i64 0, .bool false, .int .i64 0, .slice none 0 0, .int .i64 0], .int .i64 3]) := by
    rcases hx with ⟨k, hk, rfl, h3, -⟩ | ⟨_, _, _, _, _, _, _, _, _, _, -, -, -, -, -, -, -, -, h9⟩
    · rw [h3 (by decide) (by omega) (by decide)]
    · exact absurd ⟨by decide, by decide⟩ h9
  have g3 : w3.heap[w2.heap.size]? = some (.cells #[.int .i64 0, .int .i64 0, .bool false, .int .i64 160, .slice a 1 c, .int .i64 0] 48 (0, 0)) := Below.blk hb3 V1.out (lt_of_block V1.out)
  have B3 : Hid (Below w2.heap.size w2 w3) := Lib.hid (V3.out.trans (hb3.mono V3.out.size))
  have l3 := lt_of_block g3
  have k0 : w3.cell? ⟨w2.heap.size, 0, none⟩ = some (.int .i64 0) := cell_blk g3
  have k1 : w3.cell? ⟨w2.heap.size, 1, none⟩ = some (.int .i64 0) := cell_blk g3
  have k2 : w3.cell? ⟨w2.heap.size, 2, none⟩ = some (.bool false) := cell_blk g3
  have k3 : w3.cell? ⟨w2.heap.size, 3, none⟩ = some (.int .i64 160) := cell_blk g3
  have k4 : w3.cell? ⟨w2.heap.size, 4, none⟩ = some (.slice a 1 c) := cell_blk g3
  have k5 : w3.cell? ⟨w2.heap.size, 5, none⟩ = some (.int .i64 0) := cell_blk g3
  have n3 : w2.heap.size ≠ w3.heap.size := by omega
  clear g3 hb3 hx HC V1 V3
  go_wp2_with fail
  generalize hV : World.alloc (World.alloc (World.alloc w3 _) _) _ = V
  have A0 : Below w3.heap.size w3 V := by rw [← hV]; exact (((Below.refl _ _).alloc (Nat.le_refl _) _).alloc (by simp) _).alloc (by simp; omega) _
  have A1 : V.heap[w3.heap.size + 1]? = some (.cells #[.int .u8 1, .int .u8 2] 5 (0, 0)) := by
    rw [← hV]
    have h := alloc_blk_new (w := w3.alloc (.cells #[.int .i64 0, .int .i64 0, .bool false, .int .i64 0, .slice none 0 0, .int .i64 0] 48)) (o := .cells #[.int .u8 1, .int .u8 2] 5)
    rw [show (w3.alloc (.cells #[.int .i64 0, .int .i64 0, .bool false, .int .i64 0, .slice none 0 0, .int .i64 0] 48)).heap.size = w3.heap.size + 1 by simp] at h
    rw [alloc_blk_old (by simp)]; exact h
  have A2 : V.heap[w3.heap.size + 1 + 1]? = some (.cells #[.slice (some ⟨w3.heap.size + 1, 0, none⟩) 2 2] 22 (0, 0)) := by
    rw [← hV]
    have h := alloc_blk_new (w := (w3.alloc (.cells #[.int .i64 0, .int .i64 0, .bool false, .int .i64 0, .slice none 0 0, .int .i64 0] 48)).alloc (.cells #[.int .u8 1, .int .u8 2] 5)) (o := .cells #[.slice (some ⟨w3.heap.size + 1, 0, none⟩) 2 2] 22)
    rw [show ((w3.alloc (.cells #[.int .i64 0, .int .i64 0, .bool false, .int .i64 0, .slice none 0 0, .int .i64 0] 48)).alloc (.cells #[.int .u8 1, .int .u8 2] 5)).heap.size = w3.heap.size + 1 + 1 by simp] at h
    exact h
  clear hV
  have lA1 := lt_of_block A1
  have lA2 := lt_of_block A2
  have BV : Below w2.heap.size w2 V := B3.out.trans (A0.mono B3.out.size)
  have two : ∀ i, i < 2 → i = 0 ∨ i = 1 := by omega
  have hs2 : BS V.heap.size V (some ⟨w3.heap.size + 1, 0, none⟩) 2 2 (gz [1, 2]) := ⟨by omega, by omega, fun i hi => by
    rcases two i hi with rfl | rfl <;> decide, w3.heap.size + 1, 0, fun _ => ⟨rfl, lA1⟩, fun i hi => by
    rw [Nat.zero_add, cell_blk A1]
    rcases two i hi with rfl | rfl <;> rfl⟩
  obtain ⟨g, cc, he, -, gl, gc, -⟩ := own_pos HR.out.own (by omega)
  cases he
  have q0 := own_cell HR.out.own (show ((List.range 1).map vs)[0]? = some (vs 0) by simp)
  have E0 := HR.out.each 0 (by omega)
  have hp0 : frP (fun x => gz [8, 1, 2] (1 + x)) (fun _ => 3 - 1) 0 = [1, 2] := by decide
  rw [hp0] at E0
  obtain ⟨a0, c0, hv0, -⟩ := E0.str (by decide) (Below.refl _ _)
  rw [hv0] at q0
  change w2.cell? ⟨g, 0, none⟩ = some (.slice a0 2 c0) at q0
  have S1 : ∀ W, Below V.heap.size V W → (convert 22 9 (.slice a0 2 c0)).run Try.prog W = .ok (.string (strL [1, 2])) W := fun W hb => by
    obtain ⟨a', c', h1, h2⟩ := E0.str (by decide) (BV.trans (hb.mono BV.size))
    rw [hv0] at h1
    cases h1
    exact h2
  have S2 : ∀ W, Below V.heap.size V W → (convert 22 9 (.slice (some ⟨w3.heap.size + 1, 0, none⟩) 2 2)).run Try.prog W = .ok (.string (strL [1, 2])) W := fun W hb => by
    rw [run_conv_BS (hs2.keep hb) Try.underlying22 Try.underlying5 Try.underlying9]
    exact congrArg (fun s => Result.ok (Value.string s) W) (strL_gz [1, 2])
  have HS := Lib.hid (osame1 0 0 160 0 false g (w3.heap.size + 1 + 1) c 1 2 c0 2 2 a0 (some ⟨w3.heap.size + 1, 0, none⟩) (strL [1, 2]) V (Below.cell' BV gl q0) (cell_blk A2) (by have := BV.size; omega) lA2 gc (Nat.le_refl _) S1 S2)
  have HBV := Lib.hid (HB2.out.trans (BV.mono HB2.out.size))
  clear S1 S2 hs2 E0 hp0 hv0 q0 A0 A1 A2 BV HR
  refine HS.out.mono ?_
  rintro e w4 ⟨rfl, hb4⟩
  have HB4 := Lib.hid (HBV.out.trans (hb4.mono HBV.out.size))
  clear hb4 HS
  go_wp2_with fail
  go_ret
  exact ⟨rfl, HB4.out⟩
end Go.Proofs.Ytkoplofcjbeicaa
