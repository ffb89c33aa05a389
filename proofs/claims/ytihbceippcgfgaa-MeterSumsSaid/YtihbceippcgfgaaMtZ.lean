/-
  The walk of MeterSums.
-/
import Derived.Test.YtihbceippcgfgaaMtB
import Derived.Test.YtihbceippcgfgaaMtS
namespace Go.Proofs.Ytihbceippcgfgaa
open Go.RowKit
set_option linter.unusedVariables false
set_option linter.unusedSimpArgs false
attribute [local irreducible] wpStill wpQuiet

theorem rs_of {w : World} {v : Value} (h : Reads Try.prog w 6 109 v) : ∃ a n cap, ∃ R : Nat → Nat → Int, v = .slice a n cap ∧ n ≤ cap ∧ cap ≤ 9223372036854775807 ∧ RS w.heap.size w a n R := by
  obtain ⟨a, len, cap, b, off, V, rfl, row⟩ := reads_slice Try.underlying109 (ts := [3, 3, 3, 3, 3]) (by kernel_rfl) (by kernel_rfl) (by decide) h
  have hm := row.max
  unfold maxLen at hm
  obtain ⟨F, hF⟩ := Deep.choose_lt (α := Nat → Int) (n := cap) (p := fun i f => ∀ j, j < 5 → V i j = .int .i64 (f j) ∧ (Lit.int .i64 (f j)).wf = true) (fun i hi => by
    obtain ⟨f, hf⟩ := Deep.choose_lt (α := Int) (n := 5) (p := fun j x => V i j = .int .i64 x ∧ (Lit.int .i64 x).wf = true) (fun j hj => by
      have hcase : j = 0 ∨ j = 1 ∨ j = 2 ∨ j = 3 ∨ j = 4 := by omega
      rcases hcase with rfl | rfl | rfl | rfl | rfl
      · exact reads_int Try.underlying3 (row.read i hi 0 _ rfl)
      · exact reads_int Try.underlying3 (row.read i hi 1 _ rfl)
      · exact reads_int Try.underlying3 (row.read i hi 2 _ rfl)
      · exact reads_int Try.underlying3 (row.read i hi 3 _ rfl)
      · exact reads_int Try.underlying3 (row.read i hi 4 _ rfl))
    exact ⟨f, hf⟩)
  have hle := row.le
  refine ⟨a, len, cap, fun i j => if i < len ∧ j < 5 then F i j else 0, rfl, hle, hm, ⟨fun h0 => ⟨b, off, (row.addr (by omega)).1, (row.addr (by omega)).2, fun i hi j hj => ?_⟩, fun i j => ?_⟩⟩
  · have := row.cell i (by omega) j hj
    rw [if_pos ⟨hi, hj⟩, Nat.add_assoc]
    rw [(hF i (by omega) j hj).1] at this
    exact this
  · show -9223372036854775808 ≤ (if i < len ∧ j < 5 then F i j else 0) ∧ (if i < len ∧ j < 5 then F i j else 0) ≤ 9223372036854775807
    split
    · rename_i hc
      exact bounds_i64 (hF i (by omega) j hc.2).2
    · omega
theorem rd_of {w : World} {v : Value} (h : ArgS Try.prog w 100 v) : ∃ Q : Nat → Int, v = .agg #[.int .i64 (Q 0), .int .i64 (Q 1), .int .i64 (Q 2), .int .i64 (Q 3), .int .i64 (Q 4)] ∧ ∀ j, -9223372036854775808 ≤ Q j ∧ Q j ≤ 9223372036854775807 := by
  obtain ⟨cs, rfl, hl⟩ := h
  obtain ⟨hsz, hr⟩ := hl 6 [3, 3, 3, 3, 3] (by kernel_rfl)
  obtain ⟨x0, c0, y0⟩ := hr 0 _ rfl
  obtain ⟨x1, c1, y1⟩ := hr 1 _ rfl
  obtain ⟨x2, c2, y2⟩ := hr 2 _ rfl
  obtain ⟨x3, c3, y3⟩ := hr 3 _ rfl
  obtain ⟨x4, c4, y4⟩ := hr 4 _ rfl
  obtain ⟨q0, rfl, z0⟩ := reads_int Try.underlying3 y0
  obtain ⟨q1, rfl, z1⟩ := reads_int Try.underlying3 y1
  obtain ⟨q2, rfl, z2⟩ := reads_int Try.underlying3 y2
  obtain ⟨q3, rfl, z3⟩ := reads_int Try.underlying3 y3
  obtain ⟨q4, rfl, z4⟩ := reads_int Try.underlying3 y4
  have e := arr5 hsz c0 c1 c2 c3 c4
  refine ⟨fun j => if j = 0 then q0 else if j = 1 then q1 else if j = 2 then q2 else if j = 3 then q3 else if j = 4 then q4 else 0, by rw [e]; rfl, fun j => ?_⟩
  have b0 := bounds_i64 z0
  have b1 := bounds_i64 z1
  have b2 := bounds_i64 z2
  have b3 := bounds_i64 z3
  have b4 := bounds_i64 z4
  show -9223372036854775808 ≤ (if j = 0 then q0 else if j = 1 then q1 else if j = 2 then q2 else if j = 3 then q3 else if j = 4 then q4 else 0) ∧ (if j = 0 then q0 else if j = 1 then q1 else if j = 2 then q2 else if j = 3 then q3 else if j = 4 then q4 else 0) ≤ 9223372036854775807
  repeat' split
  all_goals omega
set_option maxRecDepth 100000 in
set_option maxHeartbeats 8000000 in
theorem MeterSums.walk (v c : Value) (w : World) (r0 : Reads Try.prog w 6 109 v) (r1 : ArgS Try.prog w 100 c) :
    Calls Try.prog 14 #[v, c] w fun e w' => e = .returned (.bool true) ∧ Below w.heap.size w w' := by
  obtain ⟨a, n, cap, R, rfl, hcap, hcap2, hrs⟩ := rs_of r0
  obtain ⟨Q, rfl, hQ⟩ := rd_of r1
  have H := Lib.hid hrs
  have HQ := Lib.hid hQ
  clear hrs hQ r0 r1
  go_enter Try.func14, Try.ntmps14
  go_wp2_with fail
  generalize hW : w.alloc _ = W
  have g1 : W.heap[w.heap.size]? = some (.cells #[.int .i64 (Q 0), .int .i64 (Q 1), .int .i64 (Q 2), .int .i64 (Q 3), .int .i64 (Q 4)] 100 (0, 0)) := by rw [← hW]; exact alloc_blk_new
  have B0 : Below w.heap.size w W := by rw [← hW]; exact (Below.refl _ w).alloc (Nat.le_refl _) _
  clear hW
  obtain ⟨r, hr⟩ : ∃ r, r = w.heap.size := ⟨_, rfl⟩
  rw [← hr] at g1
  rw [← hr]
  have hrW : r < W.heap.size := lt_of_block g1
  have hwr : w.heap.size ≤ r := by omega
  clear hr
  refine (alive49_any _).mono ?_
  rintro e w1 ⟨rfl, B1⟩
  have B2 : Below w.heap.size w w1 := B0.trans (B1.mono B0.size)
  have g2 : w1.heap[r]? = some (.cells #[.int .i64 (Q 0), .int .i64 (Q 1), .int .i64 (Q 2), .int .i64 (Q 3), .int .i64 (Q 4)] 100 (0, 0)) := (B1.block r hrW).trans g1
  clear B0 B1 g1 hrW
  by_cases h100 : 100 < n
  · have e1 : decide ((100 : Int) < (n : Int)) = true := by (simp; omega)
    go_wp2_with fail
    go_ret
    exact ⟨rfl, B2⟩
  have e1 : decide ((100 : Int) < (n : Int)) = false := by (simp; omega)
  go_wp2_with fail
  go_loopw [5] (fun si wr => ∃ (k : Nat), k ≤ n ∧ si = .int .i64 k ∧ Hid (wr.heap[r]? = some (.cells #[.int .i64 (Q 0), .int .i64 (Q 1), .int .i64 (Q 2), .int .i64 (Q 3), .int .i64 (Q 4)] 100 (0, 0))) ∧ Hid (Below w.heap.size w wr)) (fun si _ => n - (intOf si).toNat)
  case atStart => exact ⟨0, by omega, rfl, Lib.hid g2, Lib.hid B2⟩
  case round =>
    clear g2 B2
    obtain ⟨k, hk, rfl, G1, HB⟩ := hrel
    have hrl : r < wr.heap.size := lt_of_block G1.out
    have b0 : ∀ x : Wd wr.heap.size wr, x.1.cell? ⟨r, 0, none⟩ = some (.int .i64 (Q 0)) := fun x => Below.cell' x.2 hrl (cell_blk G1.out)
    have b1 : ∀ x : Wd wr.heap.size wr, x.1.cell? ⟨r, 1, none⟩ = some (.int .i64 (Q 1)) := fun x => Below.cell' x.2 hrl (cell_blk G1.out)
    have b2 : ∀ x : Wd wr.heap.size wr, x.1.cell? ⟨r, 2, none⟩ = some (.int .i64 (Q 2)) := fun x => Below.cell' x.2 hrl (cell_blk G1.out)
    have b3 : ∀ x : Wd wr.heap.size wr, x.1.cell? ⟨r, 3, none⟩ = some (.int .i64 (Q 3)) := fun x => Below.cell' x.2 hrl (cell_blk G1.out)
    have b4 : ∀ x : Wd wr.heap.size wr, x.1.cell? ⟨r, 4, none⟩ = some (.int .i64 (Q 4)) := fun x => Below.cell' x.2 hrl (cell_blk G1.out)
    by_cases hlt : k < n
    · have HR := Lib.hid (H.out.keep HB.out)
      obtain ⟨b, off, rfl, hb, hcc⟩ := HR.out.at_ (by omega)
      have hbl : b < wr.heap.size := by have := HB.out.size; omega
      have a0 : ∀ x : Wd wr.heap.size wr, x.1.cell? ⟨b, off + k * 5, none⟩ = some (.int .i64 (R k 0)) := fun x => Below.cell' x.2 hbl (hcc k hlt 0 (by omega))
      have a1 : ∀ x : Wd wr.heap.size wr, x.1.cell? ⟨b, off + k * 5 + 1, none⟩ = some (.int .i64 (R k 1)) := fun x => Below.cell' x.2 hbl (hcc k hlt 1 (by omega))
      have a2 : ∀ x : Wd wr.heap.size wr, x.1.cell? ⟨b, off + k * 5 + 2, none⟩ = some (.int .i64 (R k 2)) := fun x => Below.cell' x.2 hbl (hcc k hlt 2 (by omega))
      have a3 : ∀ x : Wd wr.heap.size wr, x.1.cell? ⟨b, off + k * 5 + 3, none⟩ = some (.int .i64 (R k 3)) := fun x => Below.cell' x.2 hbl (hcc k hlt 3 (by omega))
      have a4 : ∀ x : Wd wr.heap.size wr, x.1.cell? ⟨b, off + k * 5 + 4, none⟩ = some (.int .i64 (R k 4)) := fun x => Below.cell' x.2 hbl (hcc k hlt 4 (by omega))
      have HO1 := Lib.hid (over_any (R k) Q)
      have HO2 := Lib.hid (rover_any (R k) Q)
      generalize joinW (fun i => decide (Q i < R k i)) = J at *
      have t1 : (J.toList == J.toList) = true := by simp
      clear hcc
      go_wp2_with fail
      refine wp_region_calm (Below.refl wr.heap.size wr) (by kernel_rfl) (by kernel_rfl) ?_
      iterate 6 quiet_step ((go_at_call 58; exact calm _ (Nat.le_refl _) (HO1.out _)))
      iterate 7 quiet_step ((go_at_call 59; exact calm _ (Nat.le_refl _) (HO2.out _)))
      refine wpQuiet_nil ?_
      intro w9 hw'
      obtain ⟨⟨wx, hwq⟩, hw''⟩ := hw'
      subst hw''
      have HB9 := Lib.hid (HB.out.trans (hwq.mono HB.out.size))
      have G9 : Hid (w9.heap[r]? = some (.cells #[.int .i64 (Q 0), .int .i64 (Q 1), .int .i64 (Q 2), .int .i64 (Q 3), .int .i64 (Q 4)] 100 (0, 0))) := Lib.hid ((hwq.block r hrl).trans G1.out)
      clear a0 a1 a2 a3 a4 b0 b1 b2 b3 b4 hwq
      go_wp2_with fail
      go_roundw
      case rel => exact ⟨k + 1, by omega, by go_num, G9, HB9⟩
      case measure => simp [intOf] <;> omega
    · obtain rfl : n = k := by omega
      have hsz := HB.out.size
      have HX : Hid (∀ x : Wd wr.heap.size wr, Below w.heap.size w x.1) := Lib.hid (fun x => HB.out.trans (x.2.mono hsz))
      have Q1 : Hid (∀ x : Wd wr.heap.size wr, Calls Try.prog 60 #[.slice a n cap] x.1 fun e w' => e = .returned (.agg #[.int .i64 (smI R n 0), .int .i64 (smI R n 1), .int .i64 (smI R n 2), .int .i64 (smI R n 3), .int .i64 (smI R n 4)]) ∧ Below x.1.heap.size x.1 w') := Lib.hid (fun x => sum_any (H.out.keep (HX.out x)) (HX.out x).size (by omega) hcap)
      have Q2 : Hid (∀ x : Wd wr.heap.size wr, Calls Try.prog 61 #[.slice a n cap] x.1 fun e w' => e = .returned (.agg #[.int .i64 (smI R n 0), .int .i64 (smI R n 1), .int .i64 (smI R n 2), .int .i64 (smI R n 3), .int .i64 (smI R n 4)]) ∧ Below x.1.heap.size x.1 w') := Lib.hid (fun x => rsum_any (H.out.keep (HX.out x)) (HX.out x).size (by omega) hcap)
      have Q3 : Hid (∀ x : Wd wr.heap.size wr, Calls Try.prog 62 #[.slice a n cap, .agg #[.int .i64 (Q 0), .int .i64 (Q 1), .int .i64 (Q 2), .int .i64 (Q 3), .int .i64 (Q 4)]] x.1 fun e w' => e = .returned (.int .i64 (blI R Q n)) ∧ Below x.1.heap.size x.1 w') := Lib.hid (fun x => bill_any Q (H.out.keep (HX.out x)) (HX.out x).size (by omega) hcap HQ.out)
      have Q4 : Hid (∀ x : Wd wr.heap.size wr, Calls Try.prog 63 #[.slice a n cap, .agg #[.int .i64 (Q 0), .int .i64 (Q 1), .int .i64 (Q 2), .int .i64 (Q 3), .int .i64 (Q 4)]] x.1 fun e w' => e = .returned (.int .i64 (blI R Q n)) ∧ Below x.1.heap.size x.1 w') := Lib.hid (fun x => rbill_any Q (H.out.keep (HX.out x)) (HX.out x).size (by omega) hcap HQ.out)
      have Q5 : Hid (∀ x : Wd wr.heap.size wr, Calls Try.prog 64 #[.slice a n cap] x.1 fun e w' => e = .returned (.int .i64 (worI R n)) ∧ Below x.1.heap.size x.1 w') := Lib.hid (fun x => worst_any (H.out.keep (HX.out x)) (HX.out x).size (by omega) hcap)
      have Q6 : Hid (∀ x : Wd wr.heap.size wr, Calls Try.prog 65 #[.slice a n cap] x.1 fun e w' => e = .returned (.int .i64 (worI R n)) ∧ Below x.1.heap.size x.1 w') := Lib.hid (fun x => rworst_any (H.out.keep (HX.out x)) (HX.out x).size (by omega) hcap)
      generalize smI R n 0 = s0 at *
      generalize smI R n 1 = s1 at *
      generalize smI R n 2 = s2 at *
      generalize smI R n 3 = s3 at *
      generalize smI R n 4 = s4 at *
      generalize blI R Q n = bl at *
      generalize worI R n = wo at *
      have t0 : (s0 == s0) = true := by simp
      have t1 : (s1 == s1) = true := by simp
      have t2 : (s2 == s2) = true := by simp
      have t3 : (s3 == s3) = true := by simp
      have t4 : (s4 == s4) = true := by simp
      have t5 : (bl == bl) = true := by simp
      have t6 : (wo == wo) = true := by simp
      go_wp2_with fail
      refine wp_region_calm (Below.refl wr.heap.size wr) (by kernel_rfl) (by kernel_rfl) ?_
      iterate 22 quiet_step ((first | (go_at_call 60; exact calm _ (Nat.le_refl _) (Q1.out _)) | (go_at_call 61; exact calm _ (Nat.le_refl _) (Q2.out _)) | (go_at_call 62; exact calm _ (Nat.le_refl _) (Q3.out _)) | (go_at_call 63; exact calm _ (Nat.le_refl _) (Q4.out _)) | (go_at_call 64; exact calm _ (Nat.le_refl _) (Q5.out _)) | (go_at_call 65; exact calm _ (Nat.le_refl _) (Q6.out _))))
      refine wpQuiet_nil ?_
      intro w9 hw'
      obtain ⟨⟨wx, hwq⟩, hw''⟩ := hw'
      subst hw''
      go_wp2_with fail
      go_ret
      exact ⟨rfl, HB.out.trans (hwq.mono hsz)⟩
end Go.Proofs.Ytihbceippcgfgaa
