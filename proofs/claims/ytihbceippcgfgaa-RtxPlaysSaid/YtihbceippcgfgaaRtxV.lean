/-
  Chapter 34: the reference's answers.
-/
import Derived.Test.YtihbceippcgfgaaRtxU
import Derived.StillTailTactics
namespace Go.Proofs.Ytihbceippcgfgaa
open Go.RowKit
set_option linter.unusedVariables false
set_option linter.unusedSimpArgs false
attribute [local irreducible] wpStill wpQuiet

theorem numv_two (Z : Nat → Int) : numv Z 0 2 = Z 0 * 256 + Z 1 := by simp [numv]
set_option maxRecDepth 100000 in
set_option maxHeartbeats 8000000 in
theorem refunwrap_own (B : Nat) (w : World) (m : Bool) (ty sq st src : Int) (oa : Option Addr) (on oc : Nat) (ex : Bool) (pr : Int) (xa : Option Addr) (xn xc : Nat) (a : Option Addr) (n c : Nat) (Z : Nat → Int) (pd : Int) (l : Nat) (src' ty' : Int) (hZ : BS B w a n c Z) (hB : B ≤ w.heap.size) (hnl : n = l + 2) (hn : n ≤ 9000) :
    Calls Try.prog 28 #[.agg #[(.bool m), (.int .u8 ty), (.int .u16 sq), (.int .u32 st), (.int .u32 src), (.slice oa on oc), (.bool ex), (.int .u16 pr), (.slice xa xn xc), (.slice a n c), (.int .u8 pd)], .int .u32 src', .int .u8 ty'] w fun e w' => ∃ a5 c5, e = .returned (.tuple #[.agg #[(.bool m), (.int .u8 ty'), (.int .u16 (numv Z 0 2)), (.int .u32 st), (.int .u32 src'), (.slice oa on oc), (.bool ex), (.int .u16 pr), (.slice xa xn xc), (.slice a5 l c5), (.int .u8 pd)], .bool true]) ∧ w'.ownsRow w.heap.size 5 1 (.slice a5 l c5) l (bytesOf (fun i => Z (2 + i)) l) ∧ Below w.heap.size w w' := by
  obtain ⟨i0, hi, hz0, hz1, hz2⟩ := info_parts infoU8
  have hn2 : 2 ≤ n := by omega
  have hn0 : 0 < n := by omega
  have hn1 : (1 : Int) < n := by omega
  have HNV := Lib.hid (numv_two Z)
  have HZ := Lib.hid hZ
  have hle := hZ.le
  have hmx := hZ.max
  obtain ⟨b, off, rfl, hbB, hc⟩ := hZ.at_ (by omega)
  have x0 := hZ.bd 0 (by omega)
  have x1 := hZ.bd 1 (by omega)
  have hS1 : Hid (BS B w (some ⟨b, off + 2, none⟩) l (c - 2) (fun i => Z (2 + i))) := Lib.hid ⟨by omega, by omega, fun i hi => hZ.bd _ (by omega), b, off + 2, fun _ => ⟨rfl, hbB⟩, fun i hi => by rw [Nat.add_assoc]; exact hc _ (by omega)⟩
  have hS2 : c = 2 → Hid (BS B w (some ⟨b, off, none⟩) l 0 (fun i => Z (2 + i))) := fun hc2 => Lib.hid ⟨by omega, by omega, fun i hi => by omega, b, off, fun _ => ⟨rfl, hbB⟩, fun i hi => by omega⟩
  have HS := Lib.hid (And.intro hS1.out (fun h => (hS2 h).out))
  clear hS1 hS2
  have b0 : Hid (w.cell? ⟨b, off, none⟩ = some (.int .u8 (Z 0))) := Lib.hid (hc 0 (by omega))
  have b1 : Hid (w.cell? ⟨b, off + 1, none⟩ = some (.int .u8 (Z 1))) := Lib.hid (hc 1 (by omega))
  clear hc hZ
  have t3 := three3 w (.cells #[(.bool m), (.int .u8 ty), (.int .u16 sq), (.int .u32 st), (.int .u32 src), (.slice oa on oc), (.bool ex), (.int .u16 pr), (.slice xa xn xc), (.slice (some ⟨b, off, none⟩) n c), (.int .u8 pd)] 44) (.cells #[(.bool false), (.int .u8 0), (.int .u16 0), (.int .u32 0), (.int .u32 0), (.slice none 0 0), (.bool false), (.int .u16 0), (.slice none 0 0), (.slice none 0 0), (.int .u8 0)] 44) (.cells #[(.bool m), (.int .u8 ty), (.int .u16 sq), (.int .u32 st), (.int .u32 src), (.slice oa on oc), (.bool ex), (.int .u16 pr), (.slice xa xn xc), (.slice (some ⟨b, off, none⟩) n c), (.int .u8 pd)] 44)
  have hl9 : l ≤ 9000 := by omega
  have HN := Lib.hid hnl
  have e12 : (n ≤ 2 ∧ c ≤ 2) ∨ (2 < c ∧ n - 2 = l) := by omega
  clear hnl
  go_enter Try.func28, Try.ntmps28
  go_wp2_with fail
  generalize hW : World.alloc _ _ = W
  rw [hW] at t3
  have BW : Below w.heap.size w W := by rw [← hW]; exact (((Below.refl _ w).alloc (Nat.le_refl _) _).alloc (by simp) _).alloc (by simp; omega) _
  clear hW
  obtain ⟨q0, q1, q2⟩ := t3
  obtain ⟨g0, h0⟩ : ∃ g0, g0 = w.heap.size := ⟨_, rfl⟩
  rw [← h0] at q0 q1 q2
  rw [← h0]
  obtain ⟨g1, h1⟩ : ∃ g1, g1 = g0 + 1 := ⟨_, rfl⟩
  obtain ⟨g2, h2⟩ : ∃ g2, g2 = g1 + 1 := ⟨_, rfl⟩
  rw [← h1] at q1 q2
  rw [← h2] at q2
  rw [← h1, ← h2]
  have l0 := lt_of_block q0
  have l1 := lt_of_block q1
  have l2 := lt_of_block q2
  have w1' : w.heap.size ≤ g1 := by omega
  have w2' : w.heap.size ≤ g2 := by omega
  have n12 : g1 ≠ g2 := by omega
  have n21 : g2 ≠ g1 := by omega
  clear h0 h1 h2
  have HBW := Lib.hid BW
  have HQ0 := Lib.hid q0
  have HQ1 := Lib.hid q1
  have HQ2 := Lib.hid q2
  clear q0 q1 q2 BW
  have s0 : W.cell? ⟨b, off, none⟩ = some (.int .u8 (Z 0)) := Below.cell' HBW.out (by omega) b0.out
  have s1 : W.cell? ⟨b, off + 1, none⟩ = some (.int .u8 (Z 1)) := Below.cell' HBW.out (by omega) b1.out
  have s9 : W.cell? ⟨g0, 9, none⟩ = some (.slice (some ⟨b, off, none⟩) n c) := cell_blk HQ0.out
  have s2 : W.frozen? ⟨g2, 2, none⟩ = false := free_blk HQ2.out
  have s3 : W.cell? ⟨g2, 2, none⟩ = some (.int .u16 sq) := cell_blk HQ2.out
  generalize hy0 : Z 0 = y0 at *
  generalize hy1 : Z 1 = y1 at *
  have HY0 := Lib.hid hy0
  have HY1 := Lib.hid hy1
  clear hy0 hy1
  obtain ⟨x00, x01⟩ := x0
  obtain ⟨x10, x11⟩ := x1
  have k1 : IntKind.u16.wrap (y0 * 256) = y0 * 256 := by rw [IntKind.wrap_u16]; omega
  have k2 : IntKind.u16.wrap (y0 * 256 + y1) = y0 * 256 + y1 := by rw [IntKind.wrap_u16]; omega
  have k3 : IntKind.u16.wrap y0 = y0 := by rw [IntKind.wrap_u16]; omega
  have k4 : IntKind.u16.wrap y1 = y1 := by rw [IntKind.wrap_u16]; omega
  refine wp_region_still_tail 13 (by kernel_rfl) (by kernel_rfl) ?_
  simp only [List.take_succ_cons, List.take_zero, List.drop_succ_cons, List.drop_zero]
  iterate 13 still_step
  refine wpStill_nil ?_
  rcases e12 with ⟨hn22, hc2⟩ | ⟨hc2, e3⟩
  · obtain rfl : l = 0 := by have := HN.out; omega
    have hsv : Below w.heap.size w ((W.drew.setCell ⟨g2, 2, none⟩ (.int .u16 (y0 * 256 + y1))).alloc (.cells #[] 5)) := (Below.setCell (HBW.out.drew) w2' _).alloc (by have := HBW.out.size; simp; omega) _
    have S1 := Lib.hid ((HS.out.2 (by omega)).keep (hsv.mono hB))
    have HSV := Lib.hid hsv
    clear hsv
    have HO : Hid (((W.drew.setCell ⟨g2, 2, none⟩ (.int .u16 (y0 * 256 + y1))).alloc (.cells #[] 5)).ownsRow W.heap.size 5 1 (.slice (some ⟨W.heap.size, 0, none⟩) 0 0) 0 []) := Lib.hid ⟨rfl, .inr ⟨W.heap.size, 0, #[], rfl, Nat.le_refl _, by rw [heap_alloc]; exact if_pos (by simp), Nat.le_refl _, by unfold maxLen; omega, rfl, rfl⟩⟩
    have HQ3 : Hid (((W.drew.setCell ⟨g2, 2, none⟩ (.int .u16 (y0 * 256 + y1))).alloc (.cells #[] 5)).heap[g2]? = some (.cells #[(.bool m), (.int .u8 ty), (.int .u16 (y0 * 256 + y1)), (.int .u32 st), (.int .u32 src), (.slice oa on oc), (.bool ex), (.int .u16 pr), (.slice xa xn xc), (.slice (some ⟨b, off, none⟩) n c), (.int .u8 pd)] 44 (0, 0))) := Lib.hid (by rw [heap_alloc, if_neg (by simp; omega), set_blk (w := W.drew) _ HQ2.out]; rfl)
    have HQ4 : Hid (((W.drew.setCell ⟨g2, 2, none⟩ (.int .u16 (y0 * 256 + y1))).alloc (.cells #[] 5)).heap[g1]? = some (.cells #[(.bool false), (.int .u8 0), (.int .u16 0), (.int .u32 0), (.int .u32 0), (.slice none 0 0), (.bool false), (.int .u16 0), (.slice none 0 0), (.slice none 0 0), (.int .u8 0)] 44 (0, 0))) := Lib.hid (by rw [heap_alloc, if_neg (by simp; omega), set_blk_other _ (by show g1 ≠ g2; exact n12)]; exact HQ1.out)
    change wpList _ _ _ _ _ W.drew
    go_wp2_with
      (at_builtin
       refine append_src _ rfl (.tmp 28) (.tmp 31) 25 rfl W.heap.size 5 i0 (.int .u8 0) 1 1 Try.underlying25 hi hz0 hz1 hz2 rfl (by decide) (.slice (some ⟨W.heap.size, 0, none⟩) 0 0) 0 [] rfl HO.out (some ⟨b, off, none⟩) 0 0 (bytesOf (fun i => Z (2 + i)) 0) rfl ?d01 ?d02 ?d03 ?d04 ?d05 ?d06 ?d07 ?_
       case d01 => exact S1.out.nil
       case d02 => simp [bytesOf]
       case d03 => exact S1.out.news
       case d04 => intro u hu; simp [bytesOf] at hu <;> (obtain ⟨i, _, rfl⟩ := hu; rfl)
       case d05 => unfold maxLen; omega
       case d06 => omega
       case d07 => simp)
    intro v2 w5 own2 bel2
    have HL5 := Lib.hid own2.lt
    have Q2 : Hid (w5.heap[g2]? = some (.cells #[(.bool m), (.int .u8 ty), (.int .u16 (y0 * 256 + y1)), (.int .u32 st), (.int .u32 src), (.slice oa on oc), (.bool ex), (.int .u16 pr), (.slice xa xn xc), (.slice (some ⟨b, off, none⟩) n c), (.int .u8 pd)] 44 (0, 0))) := Lib.hid ((bel2.block g2 l2).trans HQ3.out)
    have Q1 : Hid (w5.heap[g1]? = some (.cells #[(.bool false), (.int .u8 0), (.int .u16 0), (.int .u32 0), (.int .u32 0), (.slice none 0 0), (.bool false), (.int .u16 0), (.slice none 0 0), (.slice none 0 0), (.int .u8 0)] 44 (0, 0))) := Lib.hid ((bel2.block g1 l1).trans HQ4.out)
    have O6 : Hid (w5.ownsRow W.heap.size 5 1 v2 0 (bytesOf (fun i => Z (2 + i)) 0)) := Lib.hid (by simpa using own2)
    have B6 : Hid (Below w.heap.size w w5) := Lib.hid (HSV.out.trans (bel2.mono HBW.out.size))
    clear own2 bel2 HO HQ3 HQ4 s9 s0 s1 s2 s3
    obtain ⟨va, vc, hv⟩ := own_len O6.out
    subst hv
    have e0 : w5.cell? ⟨g2, 0, none⟩ = some (.bool m) := cell_blk Q2.out
    have e1 : w5.cell? ⟨g2, 1, none⟩ = some (.int .u8 ty) := cell_blk Q2.out
    have e2 : w5.cell? ⟨g2, 2, none⟩ = some (.int .u16 (y0 * 256 + y1)) := cell_blk Q2.out
    have e3 : w5.cell? ⟨g2, 3, none⟩ = some (.int .u32 st) := cell_blk Q2.out
    have e4 : w5.cell? ⟨g2, 4, none⟩ = some (.int .u32 src) := cell_blk Q2.out
    have e5 : w5.cell? ⟨g2, 5, none⟩ = some (.slice oa on oc) := cell_blk Q2.out
    have e6 : w5.cell? ⟨g2, 6, none⟩ = some (.bool ex) := cell_blk Q2.out
    have e7 : w5.cell? ⟨g2, 7, none⟩ = some (.int .u16 pr) := cell_blk Q2.out
    have e8 : w5.cell? ⟨g2, 8, none⟩ = some (.slice xa xn xc) := cell_blk Q2.out
    have e9 : w5.cell? ⟨g2, 9, none⟩ = some (.slice (some ⟨b, off, none⟩) n c) := cell_blk Q2.out
    have e10 : w5.cell? ⟨g2, 10, none⟩ = some (.int .u8 pd) := cell_blk Q2.out
    have f1 : w5.frozen? ⟨g2, 1, none⟩ = false := free_blk Q2.out
    have f4 : w5.frozen? ⟨g2, 4, none⟩ = false := free_blk Q2.out
    have f9 : w5.frozen? ⟨g2, 9, none⟩ = false := free_blk Q2.out
    have d0 : w5.cell? ⟨g1, 0, none⟩ = some (.bool false) := cell_blk Q1.out
    have d1 : w5.cell? ⟨g1, 1, none⟩ = some (.int .u8 0) := cell_blk Q1.out
    have d2 : w5.cell? ⟨g1, 2, none⟩ = some (.int .u16 0) := cell_blk Q1.out
    have d3 : w5.cell? ⟨g1, 3, none⟩ = some (.int .u32 0) := cell_blk Q1.out
    have d4 : w5.cell? ⟨g1, 4, none⟩ = some (.int .u32 0) := cell_blk Q1.out
    have d5 : w5.cell? ⟨g1, 5, none⟩ = some (.slice none 0 0) := cell_blk Q1.out
    have d6 : w5.cell? ⟨g1, 6, none⟩ = some (.bool false) := cell_blk Q1.out
    have d7 : w5.cell? ⟨g1, 7, none⟩ = some (.int .u16 0) := cell_blk Q1.out
    have d8 : w5.cell? ⟨g1, 8, none⟩ = some (.slice none 0 0) := cell_blk Q1.out
    have d9 : w5.cell? ⟨g1, 9, none⟩ = some (.slice none 0 0) := cell_blk Q1.out
    have d10 : w5.cell? ⟨g1, 10, none⟩ = some (.int .u8 0) := cell_blk Q1.out
    have z0 : w5.frozen? ⟨g1, 0, none⟩ = false := free_blk Q1.out
    have z1 : w5.frozen? ⟨g1, 1, none⟩ = false := free_blk Q1.out
    have z2 : w5.frozen? ⟨g1, 2, none⟩ = false := free_blk Q1.out
    have z3 : w5.frozen? ⟨g1, 3, none⟩ = false := free_blk Q1.out
    have z4 : w5.frozen? ⟨g1, 4, none⟩ = false := free_blk Q1.out
    have z5 : w5.frozen? ⟨g1, 5, none⟩ = false := free_blk Q1.out
    have z6 : w5.frozen? ⟨g1, 6, none⟩ = false := free_blk Q1.out
    have z7 : w5.frozen? ⟨g1, 7, none⟩ = false := free_blk Q1.out
    have z8 : w5.frozen? ⟨g1, 8, none⟩ = false := free_blk Q1.out
    have z9 : w5.frozen? ⟨g1, 9, none⟩ = false := free_blk Q1.out
    have z10 : w5.frozen? ⟨g1, 10, none⟩ = false := free_blk Q1.out
    go_wp2_with fail
    clear e0 d0 z0 e1 d1 z1 e2 d2 z2 e3 d3 z3 e4 d4 z4 e5 d5 z5 e6 d6 z6 e7 d7 z7 e8 d8 z8 e9 d9 z9 e10 d10 z10 f1 f4 f9
    generalize hF : World.setCell _ _ _ = Wf
    have gf : Wf.heap[g1]? = some (.cells #[(.bool m), (.int .u8 ty'), (.int .u16 (y0 * 256 + y1)), (.int .u32 st), (.int .u32 src'), (.slice oa on oc), (.bool ex), (.int .u16 pr), (.slice xa xn xc), (.slice va 0 vc), (.int .u8 pd)] 44 (0, 0)) := by rw [← hF]; simp [heap_set, Q1.out, Q2.out, putIn, n12, n21]
    have O7 := own_blk1x O6.out (w' := Wf) (fun k hk => by
      have := (HL5.out k hk).1
      rw [← hF]
      simp [heap_set, show k ≠ g1 by omega, show k ≠ g2 by omega])
    have BF : Below w.heap.size w Wf := by
      rw [← hF]
      iterate 11 refine Below.setCell ?_ w1' _
      iterate 3 refine Below.setCell ?_ w2' _
      exact B6.out
    clear hF
    have r0 : Wf.cell? ⟨g1, 0, none⟩ = some (.bool m) := cell_blk gf
    have r1 : Wf.cell? ⟨g1, 1, none⟩ = some (.int .u8 ty') := cell_blk gf
    have r2 : Wf.cell? ⟨g1, 2, none⟩ = some (.int .u16 (y0 * 256 + y1)) := cell_blk gf
    have r3 : Wf.cell? ⟨g1, 3, none⟩ = some (.int .u32 st) := cell_blk gf
    have r4 : Wf.cell? ⟨g1, 4, none⟩ = some (.int .u32 src') := cell_blk gf
    have r5 : Wf.cell? ⟨g1, 5, none⟩ = some (.slice oa on oc) := cell_blk gf
    have r6 : Wf.cell? ⟨g1, 6, none⟩ = some (.bool ex) := cell_blk gf
    have r7 : Wf.cell? ⟨g1, 7, none⟩ = some (.int .u16 pr) := cell_blk gf
    have r8 : Wf.cell? ⟨g1, 8, none⟩ = some (.slice xa xn xc) := cell_blk gf
    have r9 : Wf.cell? ⟨g1, 9, none⟩ = some (.slice va 0 vc) := cell_blk gf
    have r10 : Wf.cell? ⟨g1, 10, none⟩ = some (.int .u8 pd) := cell_blk gf
    refine bodyPost_ret (v := .tuple #[.agg #[(.bool m), (.int .u8 ty'), (.int .u16 (y0 * 256 + y1)), (.int .u32 st), (.int .u32 src'), (.slice oa on oc), (.bool ex), (.int .u16 pr), (.slice xa xn xc), (.slice va 0 vc), (.int .u8 pd)], .bool true]) (by simp [results, Try.results28, go_sem, r0, r1, r2, r3, r4, r5, r6, r7, r8, r9, r10]) rfl ?_
    exact ⟨va, vc, by rw [HNV.out], World.ownsRow.mono O7 HBW.out.size, BF⟩
  · have hsv : Below w.heap.size w ((W.drew.setCell ⟨g2, 2, none⟩ (.int .u16 (y0 * 256 + y1))).alloc (.cells #[] 5)) := (Below.setCell (HBW.out.drew) w2' _).alloc (by have := HBW.out.size; simp; omega) _
    have S1 := Lib.hid (HS.out.1.keep (hsv.mono hB))
    have HSV := Lib.hid hsv
    clear hsv
    have HO : Hid (((W.drew.setCell ⟨g2, 2, none⟩ (.int .u16 (y0 * 256 + y1))).alloc (.cells #[] 5)).ownsRow W.heap.size 5 1 (.slice (some ⟨W.heap.size, 0, none⟩) 0 0) 0 []) := Lib.hid ⟨rfl, .inr ⟨W.heap.size, 0, #[], rfl, Nat.le_refl _, by rw [heap_alloc]; exact if_pos (by simp), Nat.le_refl _, by unfold maxLen; omega, rfl, rfl⟩⟩
    have HQ3 : Hid (((W.drew.setCell ⟨g2, 2, none⟩ (.int .u16 (y0 * 256 + y1))).alloc (.cells #[] 5)).heap[g2]? = some (.cells #[(.bool m), (.int .u8 ty), (.int .u16 (y0 * 256 + y1)), (.int .u32 st), (.int .u32 src), (.slice oa on oc), (.bool ex), (.int .u16 pr), (.slice xa xn xc), (.slice (some ⟨b, off, none⟩) n c), (.int .u8 pd)] 44 (0, 0))) := Lib.hid (by rw [heap_alloc, if_neg (by simp; omega), set_blk (w := W.drew) _ HQ2.out]; rfl)
    have HQ4 : Hid (((W.drew.setCell ⟨g2, 2, none⟩ (.int .u16 (y0 * 256 + y1))).alloc (.cells #[] 5)).heap[g1]? = some (.cells #[(.bool false), (.int .u8 0), (.int .u16 0), (.int .u32 0), (.int .u32 0), (.slice none 0 0), (.bool false), (.int .u16 0), (.slice none 0 0), (.slice none 0 0), (.int .u8 0)] 44 (0, 0))) := Lib.hid (by rw [heap_alloc, if_neg (by simp; omega), set_blk_other _ (by show g1 ≠ g2; exact n12)]; exact HQ1.out)
    change wpList _ _ _ _ _ W.drew
    go_wp2_with
      (at_builtin
       refine append_src _ rfl (.tmp 28) (.tmp 31) 25 rfl W.heap.size 5 i0 (.int .u8 0) 1 1 Try.underlying25 hi hz0 hz1 hz2 rfl (by decide) (.slice (some ⟨W.heap.size, 0, none⟩) 0 0) 0 [] rfl HO.out (some ⟨b, off + 2, none⟩) l (c - 2) (bytesOf (fun i => Z (2 + i)) l) rfl ?d11 ?d12 ?d13 ?d14 ?d15 ?d16 ?d17 ?_
       case d11 => exact S1.out.nil
       case d12 => simp [bytesOf]
       case d13 => exact S1.out.news
       case d14 => intro u hu; simp [bytesOf] at hu <;> (obtain ⟨i, _, rfl⟩ := hu; rfl)
       case d15 => unfold maxLen; omega
       case d16 => omega
       case d17 => simp)
    intro v2 w5 own2 bel2
    have HL5 := Lib.hid own2.lt
    have Q2 : Hid (w5.heap[g2]? = some (.cells #[(.bool m), (.int .u8 ty), (.int .u16 (y0 * 256 + y1)), (.int .u32 st), (.int .u32 src), (.slice oa on oc), (.bool ex), (.int .u16 pr), (.slice xa xn xc), (.slice (some ⟨b, off, none⟩) n c), (.int .u8 pd)] 44 (0, 0))) := Lib.hid ((bel2.block g2 l2).trans HQ3.out)
    have Q1 : Hid (w5.heap[g1]? = some (.cells #[(.bool false), (.int .u8 0), (.int .u16 0), (.int .u32 0), (.int .u32 0), (.slice none 0 0), (.bool false), (.int .u16 0), (.slice none 0 0), (.slice none 0 0), (.int .u8 0)] 44 (0, 0))) := Lib.hid ((bel2.block g1 l1).trans HQ4.out)
    have O6 : Hid (w5.ownsRow W.heap.size 5 1 v2 l (bytesOf (fun i => Z (2 + i)) l)) := Lib.hid (by simpa using own2)
    have B6 : Hid (Below w.heap.size w w5) := Lib.hid (HSV.out.trans (bel2.mono HBW.out.size))
    clear own2 bel2 HO HQ3 HQ4 s9 s0 s1 s2 s3
    obtain ⟨va, vc, hv⟩ := own_len O6.out
    subst hv
    have e0 : w5.cell? ⟨g2, 0, none⟩ = some (.bool m) := cell_blk Q2.out
    have e1 : w5.cell? ⟨g2, 1, none⟩ = some (.int .u8 ty) := cell_blk Q2.out
    have e2 : w5.cell? ⟨g2, 2, none⟩ = some (.int .u16 (y0 * 256 + y1)) := cell_blk Q2.out
    have e3 : w5.cell? ⟨g2, 3, none⟩ = some (.int .u32 st) := cell_blk Q2.out
    have e4 : w5.cell? ⟨g2, 4, none⟩ = some (.int .u32 src) := cell_blk Q2.out
    have e5 : w5.cell? ⟨g2, 5, none⟩ = some (.slice oa on oc) := cell_blk Q2.out
    have e6 : w5.cell? ⟨g2, 6, none⟩ = some (.bool ex) := cell_blk Q2.out
    have e7 : w5.cell? ⟨g2, 7, none⟩ = some (.int .u16 pr) := cell_blk Q2.out
    have e8 : w5.cell? ⟨g2, 8, none⟩ = some (.slice xa xn xc) := cell_blk Q2.out
    have e9 : w5.cell? ⟨g2, 9, none⟩ = some (.slice (some ⟨b, off, none⟩) n c) := cell_blk Q2.out
    have e10 : w5.cell? ⟨g2, 10, none⟩ = some (.int .u8 pd) := cell_blk Q2.out
    have f1 : w5.frozen? ⟨g2, 1, none⟩ = false := free_blk Q2.out
    have f4 : w5.frozen? ⟨g2, 4, none⟩ = false := free_blk Q2.out
    have f9 : w5.frozen? ⟨g2, 9, none⟩ = false := free_blk Q2.out
    have d0 : w5.cell? ⟨g1, 0, none⟩ = some (.bool false) := cell_blk Q1.out
    have d1 : w5.cell? ⟨g1, 1, none⟩ = some (.int .u8 0) := cell_blk Q1.out
    have d2 : w5.cell? ⟨g1, 2, none⟩ = some (.int .u16 0) := cell_blk Q1.out
    have d3 : w5.cell? ⟨g1, 3, none⟩ = some (.int .u32 0) := cell_blk Q1.out
    have d4 : w5.cell? ⟨g1, 4, none⟩ = some (.int .u32 0) := cell_blk Q1.out
    have d5 : w5.cell? ⟨g1, 5, none⟩ = some (.slice none 0 0) := cell_blk Q1.out
    have d6 : w5.cell? ⟨g1, 6, none⟩ = some (.bool false) := cell_blk Q1.out
    have d7 : w5.cell? ⟨g1, 7, none⟩ = some (.int .u16 0) := cell_blk Q1.out
    have d8 : w5.cell? ⟨g1, 8, none⟩ = some (.slice none 0 0) := cell_blk Q1.out
    have d9 : w5.cell? ⟨g1, 9, none⟩ = some (.slice none 0 0) := cell_blk Q1.out
    have d10 : w5.cell? ⟨g1, 10, none⟩ = some (.int .u8 0) := cell_blk Q1.out
    have z0 : w5.frozen? ⟨g1, 0, none⟩ = false := free_blk Q1.out
    have z1 : w5.frozen? ⟨g1, 1, none⟩ = false := free_blk Q1.out
    have z2 : w5.frozen? ⟨g1, 2, none⟩ = false := free_blk Q1.out
    have z3 : w5.frozen? ⟨g1, 3, none⟩ = false := free_blk Q1.out
    have z4 : w5.frozen? ⟨g1, 4, none⟩ = false := free_blk Q1.out
    have z5 : w5.frozen? ⟨g1, 5, none⟩ = false := free_blk Q1.out
    have z6 : w5.frozen? ⟨g1, 6, none⟩ = false := free_blk Q1.out
    have z7 : w5.frozen? ⟨g1, 7, none⟩ = false := free_blk Q1.out
    have z8 : w5.frozen? ⟨g1, 8, none⟩ = false := free_blk Q1.out
    have z9 : w5.frozen? ⟨g1, 9, none⟩ = false := free_blk Q1.out
    have z10 : w5.frozen? ⟨g1, 10, none⟩ = false := free_blk Q1.out
    go_wp2_with fail
    clear e0 d0 z0 e1 d1 z1 e2 d2 z2 e3 d3 z3 e4 d4 z4 e5 d5 z5 e6 d6 z6 e7 d7 z7 e8 d8 z8 e9 d9 z9 e10 d10 z10 f1 f4 f9
    generalize hF : World.setCell _ _ _ = Wf
    have gf : Wf.heap[g1]? = some (.cells #[(.bool m), (.int .u8 ty'), (.int .u16 (y0 * 256 + y1)), (.int .u32 st), (.int .u32 src'), (.slice oa on oc), (.bool ex), (.int .u16 pr), (.slice xa xn xc), (.slice va l vc), (.int .u8 pd)] 44 (0, 0)) := by rw [← hF]; simp [heap_set, Q1.out, Q2.out, putIn, n12, n21]
    have O7 := own_blk1x O6.out (w' := Wf) (fun k hk => by
      have := (HL5.out k hk).1
      rw [← hF]
      simp [heap_set, show k ≠ g1 by omega, show k ≠ g2 by omega])
    have BF : Below w.heap.size w Wf := by
      rw [← hF]
      iterate 11 refine Below.setCell ?_ w1' _
      iterate 3 refine Below.setCell ?_ w2' _
      exact B6.out
    clear hF
    have r0 : Wf.cell? ⟨g1, 0, none⟩ = some (.bool m) := cell_blk gf
    have r1 : Wf.cell? ⟨g1, 1, none⟩ = some (.int .u8 ty') := cell_blk gf
    have r2 : Wf.cell? ⟨g1, 2, none⟩ = some (.int .u16 (y0 * 256 + y1)) := cell_blk gf
    have r3 : Wf.cell? ⟨g1, 3, none⟩ = some (.int .u32 st) := cell_blk gf
    have r4 : Wf.cell? ⟨g1, 4, none⟩ = some (.int .u32 src') := cell_blk gf
    have r5 : Wf.cell? ⟨g1, 5, none⟩ = some (.slice oa on oc) := cell_blk gf
    have r6 : Wf.cell? ⟨g1, 6, none⟩ = some (.bool ex) := cell_blk gf
    have r7 : Wf.cell? ⟨g1, 7, none⟩ = some (.int .u16 pr) := cell_blk gf
    have r8 : Wf.cell? ⟨g1, 8, none⟩ = some (.slice xa xn xc) := cell_blk gf
    have r9 : Wf.cell? ⟨g1, 9, none⟩ = some (.slice va l vc) := cell_blk gf
    have r10 : Wf.cell? ⟨g1, 10, none⟩ = some (.int .u8 pd) := cell_blk gf
    refine bodyPost_ret (v := .tuple #[.agg #[(.bool m), (.int .u8 ty'), (.int .u16 (y0 * 256 + y1)), (.int .u32 st), (.int .u32 src'), (.slice oa on oc), (.bool ex), (.int .u16 pr), (.slice xa xn xc), (.slice va l vc), (.int .u8 pd)], .bool true]) (by simp [results, Try.results28, go_sem, r0, r1, r2, r3, r4, r5, r6, r7, r8, r9, r10]) rfl ?_
    exact ⟨va, vc, by rw [HNV.out], World.ownsRow.mono O7 HBW.out.size, BF⟩
theorem refunwrap_long (B : Nat) (w : World) (m : Bool) (ty sq st src : Int) (oa : Option Addr) (on oc : Nat) (ex : Bool) (pr : Int) (xa : Option Addr) (xn xc : Nat) (a : Option Addr) (n c : Nat) (Z : Nat → Int) (pd : Int) (l : Nat) (src' ty' : Int) (hZ : BS B w a n c Z) (hB : B ≤ w.heap.size) (hnl : n = l + 2) (hn : n ≤ 9000) :
    Calls Try.prog 28 #[.agg #[(.bool m), (.int .u8 ty), (.int .u16 sq), (.int .u32 st), (.int .u32 src), (.slice oa on oc), (.bool ex), (.int .u16 pr), (.slice xa xn xc), (.slice a n c), (.int .u8 pd)], .int .u32 src', .int .u8 ty'] w fun e w' => ∃ a5 c5, e = .returned (.tuple #[.agg #[(.bool m), (.int .u8 ty'), (.int .u16 (numv Z 0 2)), (.int .u32 st), (.int .u32 src'), (.slice oa on oc), (.bool ex), (.int .u16 pr), (.slice xa xn xc), (.slice a5 l c5), (.int .u8 pd)], .bool true]) ∧ BS w'.heap.size w' a5 l c5 (fun i => Z (2 + i)) ∧ Below w.heap.size w w' := by
  refine (refunwrap_own B w m ty sq st src oa on oc ex pr xa xn xc a n c Z pd l src' ty' hZ hB hnl hn).mono ?_
  rintro e w' ⟨a5, c5, rfl, O, b⟩
  obtain ⟨a', c', he, hs⟩ := BS.of_owns O (fun i hi => hZ.bd _ (by omega)) (by omega)
  cases he
  exact ⟨a5, c5, rfl, hs, b⟩
end Go.Proofs.Ytihbceippcgfgaa
