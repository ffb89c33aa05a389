/-
  Chapter 49: bills.
-/
import Derived.Test.YtihbceippcgfgaaMtU
namespace Go.Proofs.Ytihbceippcgfgaa
open Go.RowKit
set_option linter.unusedVariables false
set_option linter.unusedSimpArgs false
attribute [local irreducible] wpStill wpQuiet

/-- what a reading's first numbers add to a bill -/
def blP (R : Nat → Nat → Int) (Q : Nat → Int) (x : Int) (k : Nat) : Nat → Int
  | 0 => x
  | i + 1 => plI (blP R Q x k i) (tmI (R k i) (Q i))
def blI (R : Nat → Nat → Int) (Q : Nat → Int) : Nat → Int
  | 0 => 0
  | k + 1 => blP R Q (blI R Q k) k 5
theorem blP_bd (R : Nat → Nat → Int) (Q : Nat → Int) (x : Int) (k i : Nat) (h : 0 ≤ x ∧ x ≤ 9223372036854775807) : 0 ≤ blP R Q x k i ∧ blP R Q x k i ≤ 9223372036854775807 := by
  cases i with
  | zero => exact h
  | succ i => exact plI_bd _ _
theorem blI_bd (R : Nat → Nat → Int) (Q : Nat → Int) (k : Nat) : 0 ≤ blI R Q k ∧ blI R Q k ≤ 9223372036854775807 := by
  induction k with
  | zero => unfold blI; omega
  | succ k ih => exact blP_bd R Q _ k 5 ih
set_option maxRecDepth 100000 in
set_option maxHeartbeats 8000000 in
theorem bill_any {B : Nat} {w : World} {a : Option Addr} {n cap : Nat} {R : Nat → Nat → Int} (Q : Nat → Int) (h : RS B w a n R) (hB : B ≤ w.heap.size) (hn : n ≤ 1000) (hcap : n ≤ cap) (hQ : ∀ j, -9223372036854775808 ≤ Q j ∧ Q j ≤ 9223372036854775807) :
    Calls Try.prog 62 #[.slice a n cap, .agg #[.int .i64 (Q 0), .int .i64 (Q 1), .int .i64 (Q 2), .int .i64 (Q 3), .int .i64 (Q 4)]] w fun e w' => e = .returned (.int .i64 (blI R Q n)) ∧ Below w.heap.size w w' := by
  have H := Lib.hid h
  have HQ := Lib.hid hQ
  clear h hQ
  go_enter Try.func62, Try.ntmps62
  go_wp2_with fail
  generalize hW : World.alloc _ _ = W
  have g1 : W.heap[w.heap.size]? = some (.cells #[.int .i64 (Q 0), .int .i64 (Q 1), .int .i64 (Q 2), .int .i64 (Q 3), .int .i64 (Q 4)] 100 (0, 0)) := by rw [← hW]; exact alloc_blk_new
  have B2 : Below w.heap.size w W := by rw [← hW]; exact (Below.refl _ w).alloc (Nat.le_refl _) _
  clear hW
  obtain ⟨r, hr⟩ : ∃ r, r = w.heap.size := ⟨_, rfl⟩
  rw [← hr] at g1
  rw [← hr]
  have hwr : w.heap.size ≤ r := by omega
  clear hr
  go_loopw [5, 12] (fun so si wr => ∃ (k : Nat), k ≤ n ∧ si = .int .i64 k ∧ so = .int .i64 (blI R Q k) ∧ Hid (wr.heap[r]? = some (.cells #[.int .i64 (Q 0), .int .i64 (Q 1), .int .i64 (Q 2), .int .i64 (Q 3), .int .i64 (Q 4)] 100 (0, 0))) ∧ Hid (Below w.heap.size w wr)) (fun _ si _ => n - (intOf si).toNat)
  case atStart => exact ⟨0, by omega, rfl, rfl, Lib.hid g1, Lib.hid B2⟩
  case round =>
    clear g1 B2
    obtain ⟨k, hk, rfl, rfl, G1, HB⟩ := hrel
    by_cases hlt : k < n
    · have HR := Lib.hid (H.out.keep (HB.out.mono hB))
      obtain ⟨b, off, rfl, hb, hcc⟩ := HR.out.at_ (by omega)
      have m0 : wr.cell? ⟨b, off + k * 5, none⟩ = some (.int .i64 (R k 0)) := hcc k hlt 0 (by omega)
      have m1 := hcc k hlt 1 (by omega)
      have m2 := hcc k hlt 2 (by omega)
      have m3 := hcc k hlt 3 (by omega)
      have m4 := hcc k hlt 4 (by omega)
      clear hcc
      have hrl : r < wr.heap.size := lt_of_block G1.out
      have hsz := HB.out.size
      go_wp2_with fail
      refine (of_any (R k) _).mono ?_
      rintro e w2 ⟨rfl, B3⟩
      have B4 : Below wr.heap.size wr w2 := ((Below.refl _ wr).alloc (Nat.le_refl _) _).trans (B3.mono (by simp))
      have HB4 := Lib.hid (HB.out.trans (B4.mono hsz))
      have G3 : Hid (w2.heap[r]? = some (.cells #[.int .i64 (Q 0), .int .i64 (Q 1), .int .i64 (Q 2), .int .i64 (Q 3), .int .i64 (Q 4)] 100 (0, 0))) := Lib.hid ((B4.block r hrl).trans G1.out)
      have HRb := Lib.hid (fun j => HR.out.bd k j)
      clear B3 B4 m0 m1 m2 m3 m4 G1 HB HR hrl hsz
      have HX := Lib.hid (blI_bd R Q k)
      have hNext : Hid (blI R Q (k + 1) = blP R Q (blI R Q k) k 5) := Lib.hid rfl
      have h00 : Hid (blP R Q (blI R Q k) k 0 = blI R Q k) := Lib.hid rfl
      go_wp2_with fail
      go_loopw [5, 18] (fun so si wr => ∃ (i : Nat), i ≤ 5 ∧ si = .int .i64 i ∧ so = .int .i64 (blP R Q (blI R Q k) k i) ∧ Hid (wr.heap[r]? = some (.cells #[.int .i64 (Q 0), .int .i64 (Q 1), .int .i64 (Q 2), .int .i64 (Q 3), .int .i64 (Q 4)] 100 (0, 0))) ∧ Hid (Below w.heap.size w wr)) (fun _ si _ => 5 - (intOf si).toNat)
      case atStart => exact ⟨0, by omega, rfl, by rw [h00.out], G3, HB4⟩
      case round =>
        clear G3 HB4
        obtain ⟨i, hi, rfl, rfl, G1, HB⟩ := hrel
        have hrl : r < wr.heap.size := lt_of_block G1.out
        have hsz := HB.out.size
        have d0 : wr.cell? ⟨r, 0, none⟩ = some (.int .i64 (Q 0)) := cell_blk G1.out
        have d1 : wr.cell? ⟨r, 1, none⟩ = some (.int .i64 (Q 1)) := cell_blk G1.out
        have d2 : wr.cell? ⟨r, 2, none⟩ = some (.int .i64 (Q 2)) := cell_blk G1.out
        have d3 : wr.cell? ⟨r, 3, none⟩ = some (.int .i64 (Q 3)) := cell_blk G1.out
        have d4 : wr.cell? ⟨r, 4, none⟩ = some (.int .i64 (Q 4)) := cell_blk G1.out
        have hcase : i = 0 ∨ i = 1 ∨ i = 2 ∨ i = 3 ∨ i = 4 ∨ i = 5 := by omega
        rcases hcase with rfl | rfl | rfl | rfl | rfl | rfl
        · have x0 := ix5_0
          have HN : Hid (blP R Q (blI R Q k) k 1 = plI (blP R Q (blI R Q k) k 0) (tmI (R k 0) (Q 0))) := Lib.hid rfl
          have HXX := Lib.hid (blP_bd R Q (blI R Q k) k 0 HX.out)
          generalize blP R Q (blI R Q k) k 0 = x at *
          go_wp2_with fail
          refine (of_any Q _).mono ?_
          rintro e w3 ⟨rfl, B5⟩
          have G5 : Hid (w3.heap[r]? = some (.cells #[.int .i64 (Q 0), .int .i64 (Q 1), .int .i64 (Q 2), .int .i64 (Q 3), .int .i64 (Q 4)] 100 (0, 0))) := Lib.hid ((B5.block r hrl).trans G1.out)
          have HB5 := Lib.hid (HB.out.trans (B5.mono hsz))
          clear B5 G1 HB d0 d1 d2 d3 d4 hrl hsz
          go_wp2_with fail
          refine (times_any (R k 0) (Q 0) w3 (HRb.out 0).1 (HRb.out 0).2 (HQ.out 0).1 (HQ.out 0).2).mono ?_
          rintro e w4 ⟨rfl, rfl⟩
          have HT := Lib.hid (tmI_bd (R k 0) (Q 0))
          generalize tmI (R k 0) (Q 0) = t at *
          go_wp2_with fail
          have HW : Hid (Below w.heap.size w (w4.alloc (.cells #[.int .i64 x, .int .i64 t] 3))) := Lib.hid (HB5.out.alloc HB5.out.size _)
          have GW : Hid ((w4.alloc (.cells #[.int .i64 x, .int .i64 t] 3)).heap[r]? = some (.cells #[.int .i64 (Q 0), .int .i64 (Q 1), .int .i64 (Q 2), .int .i64 (Q 3), .int .i64 (Q 4)] 100 (0, 0))) := Lib.hid ((alloc_blk_old (lt_of_block G5.out)).trans G5.out)
          refine (plus_any x t _ w4.heap.size 2 (cell_blk alloc_blk_new) (cell_blk alloc_blk_new) (by omega) (by have := HXX.out; omega) HXX.out.2 (by have := HT.out; omega) HT.out.2).mono ?_
          rintro e w5 ⟨rfl, rfl⟩
          go_wp2_with fail
          go_roundw
          case rel => exact ⟨1, by omega, by go_num, by rw [HN.out], GW, HW⟩
          case measure => simp [intOf]
        · have x0 := ix5_1
          have HN : Hid (blP R Q (blI R Q k) k 2 = plI (blP R Q (blI R Q k) k 1) (tmI (R k 1) (Q 1))) := Lib.hid rfl
          have HXX := Lib.hid (blP_bd R Q (blI R Q k) k 1 HX.out)
          generalize blP R Q (blI R Q k) k 1 = x at *
          go_wp2_with fail
          refine (of_any Q _).mono ?_
          rintro e w3 ⟨rfl, B5⟩
          have G5 : Hid (w3.heap[r]? = some (.cells #[.int .i64 (Q 0), .int .i64 (Q 1), .int .i64 (Q 2), .int .i64 (Q 3), .int .i64 (Q 4)] 100 (0, 0))) := Lib.hid ((B5.block r hrl).trans G1.out)
          have HB5 := Lib.hid (HB.out.trans (B5.mono hsz))
          clear B5 G1 HB d0 d1 d2 d3 d4 hrl hsz
          go_wp2_with fail
          refine (times_any (R k 1) (Q 1) w3 (HRb.out 1).1 (HRb.out 1).2 (HQ.out 1).1 (HQ.out 1).2).mono ?_
          rintro e w4 ⟨rfl, rfl⟩
          have HT := Lib.hid (tmI_bd (R k 1) (Q 1))
          generalize tmI (R k 1) (Q 1) = t at *
          go_wp2_with fail
          have HW : Hid (Below w.heap.size w (w4.alloc (.cells #[.int .i64 x, .int .i64 t] 3))) := Lib.hid (HB5.out.alloc HB5.out.size _)
          have GW : Hid ((w4.alloc (.cells #[.int .i64 x, .int .i64 t] 3)).heap[r]? = some (.cells #[.int .i64 (Q 0), .int .i64 (Q 1), .int .i64 (Q 2), .int .i64 (Q 3), .int .i64 (Q 4)] 100 (0, 0))) := Lib.hid ((alloc_blk_old (lt_of_block G5.out)).trans G5.out)
          refine (plus_any x t _ w4.heap.size 2 (cell_blk alloc_blk_new) (cell_blk alloc_blk_new) (by omega) (by have := HXX.out; omega) HXX.out.2 (by have := HT.out; omega) HT.out.2).mono ?_
          rintro e w5 ⟨rfl, rfl⟩
          go_wp2_with fail
          go_roundw
          case rel => exact ⟨2, by omega, by go_num, by rw [HN.out], GW, HW⟩
          case measure => simp [intOf]
        · have x0 := ix5_2
          have HN : Hid (blP R Q (blI R Q k) k 3 = plI (blP R Q (blI R Q k) k 2) (tmI (R k 2) (Q 2))) := Lib.hid rfl
          have HXX := Lib.hid (blP_bd R Q (blI R Q k) k 2 HX.out)
          generalize blP R Q (blI R Q k) k 2 = x at *
          go_wp2_with fail
          refine (of_any Q _).mono ?_
          rintro e w3 ⟨rfl, B5⟩
          have G5 : Hid (w3.heap[r]? = some (.cells #[.int .i64 (Q 0), .int .i64 (Q 1), .int .i64 (Q 2), .int .i64 (Q 3), .int .i64 (Q 4)] 100 (0, 0))) := Lib.hid ((B5.block r hrl).trans G1.out)
          have HB5 := Lib.hid (HB.out.trans (B5.mono hsz))
          clear B5 G1 HB d0 d1 d2 d3 d4 hrl hsz
          go_wp2_with fail
          refine (times_any (R k 2) (Q 2) w3 (HRb.out 2).1 (HRb.out 2).2 (HQ.out 2).1 (HQ.out 2).2).mono ?_
          rintro e w4 ⟨rfl, rfl⟩
          have HT := Lib.hid (tmI_bd (R k 2) (Q 2))
          generalize tmI (R k 2) (Q 2) = t at *
          go_wp2_with fail
          have HW : Hid (Below w.heap.size w (w4.alloc (.cells #[.int .i64 x, .int .i64 t] 3))) := Lib.hid (HB5.out.alloc HB5.out.size _)
          have GW : Hid ((w4.alloc (.cells #[.int .i64 x, .int .i64 t] 3)).heap[r]? = some (.cells #[.int .i64 (Q 0), .int .i64 (Q 1), .int .i64 (Q 2), .int .i64 (Q 3), .int .i64 (Q 4)] 100 (0, 0))) := Lib.hid ((alloc_blk_old (lt_of_block G5.out)).trans G5.out)
          refine (plus_any x t _ w4.heap.size 2 (cell_blk alloc_blk_new) (cell_blk alloc_blk_new) (by omega) (by have := HXX.out; omega) HXX.out.2 (by have := HT.out; omega) HT.out.2).mono ?_
          rintro e w5 ⟨rfl, rfl⟩
          go_wp2_with fail
          go_roundw
          case rel => exact ⟨3, by omega, by go_num, by rw [HN.out], GW, HW⟩
          case measure => simp [intOf]
        · have x0 := ix5_3
          have HN : Hid (blP R Q (blI R Q k) k 4 = plI (blP R Q (blI R Q k) k 3) (tmI (R k 3) (Q 3))) := Lib.hid rfl
          have HXX := Lib.hid (blP_bd R Q (blI R Q k) k 3 HX.out)
          generalize blP R Q (blI R Q k) k 3 = x at *
          go_wp2_with fail
          refine (of_any Q _).mono ?_
          rintro e w3 ⟨rfl, B5⟩
          have G5 : Hid (w3.heap[r]? = some (.cells #[.int .i64 (Q 0), .int .i64 (Q 1), .int .i64 (Q 2), .int .i64 (Q 3), .int .i64 (Q 4)] 100 (0, 0))) := Lib.hid ((B5.block r hrl).trans G1.out)
          have HB5 := Lib.hid (HB.out.trans (B5.mono hsz))
          clear B5 G1 HB d0 d1 d2 d3 d4 hrl hsz
          go_wp2_with fail
          refine (times_any (R k 3) (Q 3) w3 (HRb.out 3).1 (HRb.out 3).2 (HQ.out 3).1 (HQ.out 3).2).mono ?_
          rintro e w4 ⟨rfl, rfl⟩
          have HT := Lib.hid (tmI_bd (R k 3) (Q 3))
          generalize tmI (R k 3) (Q 3) = t at *
          go_wp2_with fail
          have HW : Hid (Below w.heap.size w (w4.alloc (.cells #[.int .i64 x, .int .i64 t] 3))) := Lib.hid (HB5.out.alloc HB5.out.size _)
          have GW : Hid ((w4.alloc (.cells #[.int .i64 x, .int .i64 t] 3)).heap[r]? = some (.cells #[.int .i64 (Q 0), .int .i64 (Q 1), .int .i64 (Q 2), .int .i64 (Q 3), .int .i64 (Q 4)] 100 (0, 0))) := Lib.hid ((alloc_blk_old (lt_of_block G5.out)).trans G5.out)
          refine (plus_any x t _ w4.heap.size 2 (cell_blk alloc_blk_new) (cell_blk alloc_blk_new) (by omega) (by have := HXX.out; omega) HXX.out.2 (by have := HT.out; omega) HT.out.2).mono ?_
          rintro e w5 ⟨rfl, rfl⟩
          go_wp2_with fail
          go_roundw
          case rel => exact ⟨4, by omega, by go_num, by rw [HN.out], GW, HW⟩
          case measure => simp [intOf]
        · have x0 := ix5_4
          have HN : Hid (blP R Q (blI R Q k) k 5 = plI (blP R Q (blI R Q k) k 4) (tmI (R k 4) (Q 4))) := Lib.hid rfl
          have HXX := Lib.hid (blP_bd R Q (blI R Q k) k 4 HX.out)
          generalize blP R Q (blI R Q k) k 4 = x at *
          go_wp2_with fail
          refine (of_any Q _).mono ?_
          rintro e w3 ⟨rfl, B5⟩
          have G5 : Hid (w3.heap[r]? = some (.cells #[.int .i64 (Q 0), .int .i64 (Q 1), .int .i64 (Q 2), .int .i64 (Q 3), .int .i64 (Q 4)] 100 (0, 0))) := Lib.hid ((B5.block r hrl).trans G1.out)
          have HB5 := Lib.hid (HB.out.trans (B5.mono hsz))
          clear B5 G1 HB d0 d1 d2 d3 d4 hrl hsz
          go_wp2_with fail
          refine (times_any (R k 4) (Q 4) w3 (HRb.out 4).1 (HRb.out 4).2 (HQ.out 4).1 (HQ.out 4).2).mono ?_
          rintro e w4 ⟨rfl, rfl⟩
          have HT := Lib.hid (tmI_bd (R k 4) (Q 4))
          generalize tmI (R k 4) (Q 4) = t at *
          go_wp2_with fail
          have HW : Hid (Below w.heap.size w (w4.alloc (.cells #[.int .i64 x, .int .i64 t] 3))) := Lib.hid (HB5.out.alloc HB5.out.size _)
          have GW : Hid ((w4.alloc (.cells #[.int .i64 x, .int .i64 t] 3)).heap[r]? = some (.cells #[.int .i64 (Q 0), .int .i64 (Q 1), .int .i64 (Q 2), .int .i64 (Q 3), .int .i64 (Q 4)] 100 (0, 0))) := Lib.hid ((alloc_blk_old (lt_of_block G5.out)).trans G5.out)
          refine (plus_any x t _ w4.heap.size 2 (cell_blk alloc_blk_new) (cell_blk alloc_blk_new) (by omega) (by have := HXX.out; omega) HXX.out.2 (by have := HT.out; omega) HT.out.2).mono ?_
          rintro e w5 ⟨rfl, rfl⟩
          go_wp2_with fail
          go_roundw
          case rel => exact ⟨5, by omega, by go_num, by rw [HN.out], GW, HW⟩
          case measure => simp [intOf]
        · clear d0 d1 d2 d3 d4
          go_wp2_with fail
          go_roundw
          case rel => exact ⟨k + 1, by omega, by go_num, by rw [hNext.out], G1, HB⟩
          case measure => simp [intOf] <;> omega
    · obtain rfl : n = k := by omega
      go_wp2_with fail
      go_ret
      exact ⟨rfl, HB.out⟩
set_option maxRecDepth 100000 in
set_option maxHeartbeats 8000000 in
theorem rbill_any {B : Nat} {w : World} {a : Option Addr} {n cap : Nat} {R : Nat → Nat → Int} (Q : Nat → Int) (h : RS B w a n R) (hB : B ≤ w.heap.size) (hn : n ≤ 1000) (hcap : n ≤ cap) (hQ : ∀ j, -9223372036854775808 ≤ Q j ∧ Q j ≤ 9223372036854775807) :
    Calls Try.prog 63 #[.slice a n cap, .agg #[.int .i64 (Q 0), .int .i64 (Q 1), .int .i64 (Q 2), .int .i64 (Q 3), .int .i64 (Q 4)]] w fun e w' => e = .returned (.int .i64 (blI R Q n)) ∧ Below w.heap.size w w' := by
  have H := Lib.hid h
  have HQ := Lib.hid hQ
  clear h hQ
  go_enter Try.func63, Try.ntmps63
  go_wp2_with fail
  generalize hW : World.alloc _ _ = W
  have g1 : W.heap[w.heap.size]? = some (.cells #[.int .i64 (Q 0), .int .i64 (Q 1), .int .i64 (Q 2), .int .i64 (Q 3), .int .i64 (Q 4)] 100 (0, 0)) := by rw [← hW]; exact alloc_blk_new
  have B2 : Below w.heap.size w W := by rw [← hW]; exact (Below.refl _ w).alloc (Nat.le_refl _) _
  have HS := Lib.hid (H.out.keep (B2.mono hB))
  clear hW
  obtain ⟨r, hr⟩ : ∃ r, r = w.heap.size := ⟨_, rfl⟩
  rw [← hr] at g1
  rw [← hr]
  clear hr
  have GG := Lib.hid g1
  clear g1
  go_loopw [5, 6] (fun so si wr => ∃ (k d : Nat), k ≤ n ∧ si = .int .i64 k ∧ so = .int .i64 (blI R Q k) ∧ Hid (wr = W.drewN d)) (fun _ si _ => n - (intOf si).toNat)
  case atStart => exact ⟨0, 0, by omega, rfl, rfl, Lib.hid rfl⟩
  case round =>
    obtain ⟨k, d, hk, rfl, rfl, hw⟩ := hrel
    by_cases hlt : k < n
    · obtain ⟨b, off, rfl, hb, hcc⟩ := HS.out.at_ (by omega)
      have HC : Hid (∀ d j, j < 5 → (W.drewN d).cell? ⟨b, off + k * 5 + j, none⟩ = some (.int .i64 (R k j))) := Lib.hid (fun d j hj => hcc k hlt j hj)
      have HRb := Lib.hid (fun j => HS.out.bd k j)
      have HX := Lib.hid (blI_bd R Q k)
      have hNext : Hid (blI R Q (k + 1) = blP R Q (blI R Q k) k 5) := Lib.hid rfl
      clear hcc
      have HX0 := Lib.hid (blP_bd R Q (blI R Q k) k 0 HX.out)
      generalize hWW : wr = W0 at *
      clear hWW
      have hw0 := hw
      clear hw
      have d0 : W0.cell? ⟨r, 0, none⟩ = some (.int .i64 (Q 0)) := by rw [hw0.out]; exact cell_blk GG.out
      have m0 : W0.cell? ⟨b, off + k * 5, none⟩ = some (.int .i64 (R k 0)) := by rw [hw0.out]; exact HC.out _ 0 (by omega)
      have HT := Lib.hid (rtimes_any (R k 0) (Q 0) W0.drew (HRb.out 0).1 (HRb.out 0).2 (HQ.out 0).1 (HQ.out 0).2)
      have HTb := tmI_bd (R k 0) (Q 0)
      have HP := Lib.hid (rplus_any (blI R Q k) (tmI (R k 0) (Q 0)) W0.drew (by have := HX0.out; simp only [blP] at this; omega) HX0.out.2 (by omega) HTb.2)
      clear HTb
      obtain ⟨x1, hx1⟩ : ∃ x1, x1 = plI (blI R Q k) (tmI (R k 0) (Q 0)) := ⟨_, rfl⟩
      rw [← hx1] at HP
      have HX1 : Hid (0 ≤ x1 ∧ x1 ≤ 9223372036854775807) := Lib.hid (by rw [hx1]; exact plI_bd _ _)
      have HE1 : Hid (x1 = blP R Q (blI R Q k) k 1) := Lib.hid (by rw [hx1]; rfl)
      clear hx1
      go_wp2_with fail
      refine wp_region_still_lit (by kernel_rfl) (by kernel_rfl) ?_
      iterate 8 still_step
      still_call HT.out
      still_call HP.out
      iterate 1 still_step
      refine wpStill_nil ?_
      change Exit.then _ _ _ _ W0.drew
      have hw1 : Hid (W0.drew = W.drewN (d + 1)) := Lib.hid (by rw [hw0.out]; rfl)
      generalize W0.drew = W1 at *
      clear d0 m0 HT HP hw0
      have d0 : W1.cell? ⟨r, 1, none⟩ = some (.int .i64 (Q 1)) := by rw [hw1.out]; exact cell_blk GG.out
      have m0 : W1.cell? ⟨b, off + k * 5 + 1, none⟩ = some (.int .i64 (R k 1)) := by rw [hw1.out]; exact HC.out _ 1 (by omega)
      have HT := Lib.hid (rtimes_any (R k 1) (Q 1) W1.drew (HRb.out 1).1 (HRb.out 1).2 (HQ.out 1).1 (HQ.out 1).2)
      have HTb := tmI_bd (R k 1) (Q 1)
      have HP := Lib.hid (rplus_any x1 (tmI (R k 1) (Q 1)) W1.drew (by have := HX1.out; omega) HX1.out.2 (by omega) HTb.2)
      clear HTb
      obtain ⟨x2, hx2⟩ : ∃ x2, x2 = plI x1 (tmI (R k 1) (Q 1)) := ⟨_, rfl⟩
      rw [← hx2] at HP
      have HX2 : Hid (0 ≤ x2 ∧ x2 ≤ 9223372036854775807) := Lib.hid (by rw [hx2]; exact plI_bd _ _)
      have HE2 : Hid (x2 = blP R Q (blI R Q k) k 2) := Lib.hid (by rw [hx2, HE1.out]; rfl)
      clear hx2
      go_wp2_with fail
      refine wp_region_still_lit (by kernel_rfl) (by kernel_rfl) ?_
      iterate 8 still_step
      still_call HT.out
      still_call HP.out
      iterate 1 still_step
      refine wpStill_nil ?_
      change Exit.then _ _ _ _ W1.drew
      have hw2 : Hid (W1.drew = W.drewN (d + 2)) := Lib.hid (by rw [hw1.out]; rfl)
      generalize W1.drew = W2 at *
      clear d0 m0 HT HP hw1
      have d0 : W2.cell? ⟨r, 2, none⟩ = some (.int .i64 (Q 2)) := by rw [hw2.out]; exact cell_blk GG.out
      have m0 : W2.cell? ⟨b, off + k * 5 + 2, none⟩ = some (.int .i64 (R k 2)) := by rw [hw2.out]; exact HC.out _ 2 (by omega)
      have HT := Lib.hid (rtimes_any (R k 2) (Q 2) W2.drew (HRb.out 2).1 (HRb.out 2).2 (HQ.out 2).1 (HQ.out 2).2)
      have HTb := tmI_bd (R k 2) (Q 2)
      have HP := Lib.hid (rplus_any x2 (tmI (R k 2) (Q 2)) W2.drew (by have := HX2.out; omega) HX2.out.2 (by omega) HTb.2)
      clear HTb
      obtain ⟨x3, hx3⟩ : ∃ x3, x3 = plI x2 (tmI (R k 2) (Q 2)) := ⟨_, rfl⟩
      rw [← hx3] at HP
      have HX3 : Hid (0 ≤ x3 ∧ x3 ≤ 9223372036854775807) := Lib.hid (by rw [hx3]; exact plI_bd _ _)
      have HE3 : Hid (x3 = blP R Q (blI R Q k) k 3) := Lib.hid (by rw [hx3, HE2.out]; rfl)
      clear hx3
      go_wp2_with fail
      refine wp_region_still_lit (by kernel_rfl) (by kernel_rfl) ?_
      iterate 8 still_step
      still_call HT.out
      still_call HP.out
      iterate 1 still_step
      refine wpStill_nil ?_
      change Exit.then _ _ _ _ W2.drew
      have hw3 : Hid (W2.drew = W.drewN (d + 3)) := Lib.hid (by rw [hw2.out]; rfl)
      generalize W2.drew = W3 at *
      clear d0 m0 HT HP hw2
      have d0 : W3.cell? ⟨r, 3, none⟩ = some (.int .i64 (Q 3)) := by rw [hw3.out]; exact cell_blk GG.out
      have m0 : W3.cell? ⟨b, off + k * 5 + 3, none⟩ = some (.int .i64 (R k 3)) := by rw [hw3.out]; exact HC.out _ 3 (by omega)
      have HT := Lib.hid (rtimes_any (R k 3) (Q 3) W3.drew (HRb.out 3).1 (HRb.out 3).2 (HQ.out 3).1 (HQ.out 3).2)
      have HTb := tmI_bd (R k 3) (Q 3)
      have HP := Lib.hid (rplus_any x3 (tmI (R k 3) (Q 3)) W3.drew (by have := HX3.out; omega) HX3.out.2 (by omega) HTb.2)
      clear HTb
      obtain ⟨x4, hx4⟩ : ∃ x4, x4 = plI x3 (tmI (R k 3) (Q 3)) := ⟨_, rfl⟩
      rw [← hx4] at HP
      have HX4 : Hid (0 ≤ x4 ∧ x4 ≤ 9223372036854775807) := Lib.hid (by rw [hx4]; exact plI_bd _ _)
      have HE4 : Hid (x4 = blP R Q (blI R Q k) k 4) := Lib.hid (by rw [hx4, HE3.out]; rfl)
      clear hx4
      go_wp2_with fail
      refine wp_region_still_lit (by kernel_rfl) (by kernel_rfl) ?_
      iterate 8 still_step
      still_call HT.out
      still_call HP.out
      iterate 1 still_step
      refine wpStill_nil ?_
      change Exit.then _ _ _ _ W3.drew
      have hw4 : Hid (W3.drew = W.drewN (d + 4)) := Lib.hid (by rw [hw3.out]; rfl)
      generalize W3.drew = W4 at *
      clear d0 m0 HT HP hw3
      have d0 : W4.cell? ⟨r, 4, none⟩ = some (.int .i64 (Q 4)) := by rw [hw4.out]; exact cell_blk GG.out
      have m0 : W4.cell? ⟨b, off + k * 5 + 4, none⟩ = some (.int .i64 (R k 4)) := by rw [hw4.out]; exact HC.out _ 4 (by omega)
      have HT := Lib.hid (rtimes_any (R k 4) (Q 4) W4.drew (HRb.out 4).1 (HRb.out 4).2 (HQ.out 4).1 (HQ.out 4).2)
      have HTb := tmI_bd (R k 4) (Q 4)
      have HP := Lib.hid (rplus_any x4 (tmI (R k 4) (Q 4)) W4.drew (by have := HX4.out; omega) HX4.out.2 (by omega) HTb.2)
      clear HTb
      obtain ⟨x5, hx5⟩ : ∃ x5, x5 = plI x4 (tmI (R k 4) (Q 4)) := ⟨_, rfl⟩
      rw [← hx5] at HP
      have HX5 : Hid (0 ≤ x5 ∧ x5 ≤ 9223372036854775807) := Lib.hid (by rw [hx5]; exact plI_bd _ _)
      have HE5 : Hid (x5 = blP R Q (blI R Q k) k 5) := Lib.hid (by rw [hx5, HE4.out]; rfl)
      clear hx5
      go_wp2_with fail
      refine wp_region_still_lit (by kernel_rfl) (by kernel_rfl) ?_
      iterate 8 still_step
      still_call HT.out
      still_call HP.out
      iterate 1 still_step
      refine wpStill_nil ?_
      change Exit.inBlock _ _ _ _ W4.drew
      have hw5 : Hid (W4.drew = W.drewN (d + 5)) := Lib.hid (by rw [hw4.out]; rfl)
      generalize W4.drew = W5 at *
      clear d0 m0 HT HP hw4
      go_wp2_with fail
      go_roundw
      case rel => exact ⟨k + 1, d + 5, by omega, by go_num, by rw [hNext.out, HE5.out], hw5⟩
      case measure => simp [intOf] <;> omega
    · obtain rfl : n = k := by omega
      go_wp2_with fail
      go_ret
      exact ⟨rfl, by rw [hw.out]; exact below_drewN0 B2 d⟩
end Go.Proofs.Ytihbceippcgfgaa
