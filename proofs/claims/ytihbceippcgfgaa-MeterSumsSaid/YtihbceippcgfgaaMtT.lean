/-
  Chapter 49: sums of readings.
-/
import Derived.Test.YtihbceippcgfgaaMtV
namespace Go.Proofs.Ytihbceippcgfgaa
open Go.RowKit
set_option linter.unusedVariables false
set_option linter.unusedSimpArgs false
attribute [local irreducible] wpStill wpQuiet

/-- the sums of the first k -/
def smI (R : Nat → Nat → Int) : Nat → Nat → Int
  | 0, _ => 0
  | k + 1, j => plI (smI R k j) (R k j)
theorem smI_bd (R : Nat → Nat → Int) (k j : Nat) : 0 ≤ smI R k j ∧ smI R k j ≤ 9223372036854775807 := by
  cases k with
  | zero => unfold smI; omega
  | succ k => exact plI_bd _ _
/-- the row in which numbers ahead of i are summed up -/
def rowI (R : Nat → Nat → Int) (k i j : Nat) : Int := if j < i then smI R (k + 1) j else smI R k j
theorem reading_any (a b c d e : Int) (w : World) : Calls Try.prog 99 #[.agg #[.int .i64 a, .int .i64 b, .int .i64 c, .int .i64 d, .int .i64 e]] w fun x w' => x = .returned (.agg #[.int .i64 a, .int .i64 b, .int .i64 c, .int .i64 d, .int .i64 e]) ∧ Below w.heap.size w w' := by
  go_enter Try.func99, Try.ntmps99
  go_wp2_with fail
  go_returns
  exact ⟨rfl, by (repeat (first | exact Below.refl _ _ | refine Below.alloc ?_ (by first | (simp; done) | (simp; omega) | (simp [size_drewN]; done) | (simp [size_drewN]; omega)) _ | refine Below.drew ?_ | refine below_drewN0 ?_ _ | refine Below.setCell ?_ (by first | (simp; done) | (simp; omega) | (simp [size_drewN]; done) | (simp [size_drewN]; omega)) _))⟩
set_option maxRecDepth 100000 in
set_option maxHeartbeats 8000000 in
theorem sum_any {B : Nat} {w : World} {a : Option Addr} {n cap : Nat} {R : Nat → Nat → Int} (h : RS B w a n R) (hB : B ≤ w.heap.size) (hn : n ≤ 1000) (hcap : n ≤ cap) :
    Calls Try.prog 60 #[.slice a n cap] w fun e w' => e = .returned (.agg #[.int .i64 (smI R n 0), .int .i64 (smI R n 1), .int .i64 (smI R n 2), .int .i64 (smI R n 3), .int .i64 (smI R n 4)]) ∧ Below w.heap.size w w' := by
  have H := Lib.hid h
  clear h
  go_enter Try.func60, Try.ntmps60
  go_wp2_with fail
  generalize hW : World.alloc _ _ = W
  have g1 : W.heap[w.heap.size]? = some (.cells #[.int .i64 0, .int .i64 0, .int .i64 0, .int .i64 0, .int .i64 0] 100 (0, 0)) := by rw [← hW, heap_alloc, heap_alloc, if_neg (by simp), if_pos rfl]
  have g2 : W.heap[w.heap.size + 1]? = some (.cells #[.int .i64 0, .int .i64 0, .int .i64 0, .int .i64 0, .int .i64 0] 166 (0, 0)) := by rw [← hW, heap_alloc, if_pos (by simp)]
  have B2 : Below w.heap.size w W := by rw [← hW]; exact ((Below.refl _ w).alloc (Nat.le_refl _) _).alloc (by simp) _
  clear hW
  obtain ⟨r, hr⟩ : ∃ r, r = w.heap.size := ⟨_, rfl⟩
  rw [← hr] at g1 g2
  rw [← hr]
  obtain ⟨g, hg⟩ : ∃ g, g = r + 1 := ⟨_, rfl⟩
  rw [← hg] at g2
  rw [← hg]
  have hgr : g ≠ r := by omega
  have hwr : w.heap.size ≤ r := by omega
  have hwg : w.heap.size ≤ g := by omega
  clear hr hg
  go_loopw [10] (fun si wr => ∃ (k : Nat), k ≤ n ∧ si = .int .i64 k ∧ Hid (wr.heap[r]? = some (.cells #[.int .i64 0, .int .i64 0, .int .i64 0, .int .i64 0, .int .i64 0] 100 (0, 0))) ∧ Hid (wr.heap[g]? = some (.cells #[.int .i64 (smI R k 0), .int .i64 (smI R k 1), .int .i64 (smI R k 2), .int .i64 (smI R k 3), .int .i64 (smI R k 4)] 166 (0, 0))) ∧ Hid (Below w.heap.size w wr)) (fun si _ => n - (intOf si).toNat)
  case atStart => exact ⟨0, by omega, rfl, Lib.hid g1, Lib.hid g2, Lib.hid B2⟩
  case round =>
    clear g1 g2 B2
    obtain ⟨k, hk, rfl, G1, G2, HB⟩ := hrel
    by_cases hlt : k < n
    · have HR := Lib.hid (H.out.keep (HB.out.mono hB))
      obtain ⟨b, off, rfl, hb, hcc⟩ := HR.out.at_ (by omega)
      have m0 : wr.cell? ⟨b, off + k * 5, none⟩ = some (.int .i64 (R k 0)) := hcc k hlt 0 (by omega)
      have m1 := hcc k hlt 1 (by omega)
      have m2 := hcc k hlt 2 (by omega)
      have m3 := hcc k hlt 3 (by omega)
      have m4 := hcc k hlt 4 (by omega)
      clear hcc
      have hgl : g < wr.heap.size := lt_of_block G2.out
      have hrl : r < wr.heap.size := lt_of_block G1.out
      have hsz := HB.out.size
      go_wp2_with fail
      refine (of_any (R k) _).mono ?_
      rintro e w2 ⟨rfl, B3⟩
      have B4 : Below wr.heap.size wr w2 := ((Below.refl _ wr).alloc (Nat.le_refl _) _).trans (B3.mono (by simp))
      have HB4 := Lib.hid (HB.out.trans (B4.mono hsz))
      have G3 : Hid (w2.heap[r]? = some (.cells #[.int .i64 0, .int .i64 0, .int .i64 0, .int .i64 0, .int .i64 0] 100 (0, 0))) := Lib.hid ((B4.block r hrl).trans G1.out)
      have G4 : Hid (w2.heap[g]? = some (.cells #[.int .i64 (rowI R k 0 0), .int .i64 (rowI R k 0 1), .int .i64 (rowI R k 0 2), .int .i64 (rowI R k 0 3), .int .i64 (rowI R k 0 4)] 166 (0, 0))) := Lib.hid ((B4.block g hgl).trans G2.out)
      have HRb := Lib.hid (fun j => HR.out.bd k j)
      clear B3 B4 m0 m1 m2 m3 m4 G1 G2 HB HR hgl hrl hsz
      go_wp2_with fail
      go_loopw [16] (fun si wr => ∃ (i : Nat), i ≤ 5 ∧ si = .int .i64 i ∧ Hid (wr.heap[r]? = some (.cells #[.int .i64 0, .int .i64 0, .int .i64 0, .int .i64 0, .int .i64 0] 100 (0, 0))) ∧ Hid (wr.heap[g]? = some (.cells #[.int .i64 (rowI R k i 0), .int .i64 (rowI R k i 1), .int .i64 (rowI R k i 2), .int .i64 (rowI R k i 3), .int .i64 (rowI R k i 4)] 166 (0, 0))) ∧ Hid (Below w.heap.size w wr)) (fun si _ => 5 - (intOf si).toNat)
      case atStart => exact ⟨0, by omega, rfl, G3, G4, HB4⟩
      case round =>
        clear G3 G4 HB4
        obtain ⟨i, hi, rfl, G1, G2, HB⟩ := hrel
        have hgl : g < wr.heap.size := lt_of_block G2.out
        have hrl : r < wr.heap.size := lt_of_block G1.out
        have hne : wr.heap.size ≠ g := by omega
        have hsz := HB.out.size
        have hcase : i = 0 ∨ i = 1 ∨ i = 2 ∨ i = 3 ∨ i = 4 ∨ i = 5 := by omega
        rcases hcase with rfl | rfl | rfl | rfl | rfl | rfl
        · have x0 := ix5_0
          have c0 : wr.cell? ⟨g, 0, none⟩ = some (.int .i64 (rowI R k 0 0)) := cell_blk G2.out
          have hb1 := HRb.out 0
          have hb2 : 0 ≤ rowI R k 0 0 ∧ rowI R k 0 0 ≤ 9223372036854775807 := by
            have e : rowI R k 0 0 = smI R k 0 := rfl
            rw [e]; exact smI_bd R k 0
          go_wp2_with fail
          generalize hW3 : wr.alloc _ = W3
          have gq : W3.heap[wr.heap.size]? = some (.cells #[.int .i64 (rowI R k 0 0), .int .i64 (R k 0)] 3 (0, 0)) := by rw [← hW3]; exact alloc_blk_new
          have G3 : W3.heap[g]? = some (.cells #[.int .i64 (rowI R k 0 0), .int .i64 (rowI R k 0 1), .int .i64 (rowI R k 0 2), .int .i64 (rowI R k 0 3), .int .i64 (rowI R k 0 4)] 166 (0, 0)) := by rw [← hW3, alloc_blk_old hgl]; exact G2.out
          have G5 : Hid (W3.heap[r]? = some (.cells #[.int .i64 0, .int .i64 0, .int .i64 0, .int .i64 0, .int .i64 0] 100 (0, 0))) := Lib.hid (by rw [← hW3, alloc_blk_old hrl]; exact G1.out)
          have B3 : Hid (Below w.heap.size w W3) := Lib.hid (by rw [← hW3]; exact HB.out.alloc hsz _)
          clear hW3 c0
          refine (plus_any (rowI R k 0 0) (R k 0) W3 wr.heap.size 2 (cell_blk gq) (cell_blk gq) (by omega) (by omega) (by omega) hb1.1 hb1.2).mono ?_
          rintro e w3 ⟨rfl, rfl⟩
          have f0 : w3.frozen? ⟨g, 0, none⟩ = false := free_blk G3
          have c0 : w3.cell? ⟨g, 0, none⟩ = some (.int .i64 (rowI R k 0 0)) := cell_blk G3
          have G6 := Lib.hid G3
          clear G3 gq hb1 hb2
          go_wp2_with fail
          go_roundw
          case rel => exact ⟨1, by omega, by go_num, Lib.hid (by rw [set_blk_other _ (by show r ≠ g; omega)]; exact G5.out), Lib.hid (by rw [set_blk _ G6.out]; simp [rowI, smI]), Lib.hid (Below.setCell B3.out hwg _)⟩
          case measure => simp [intOf]
        · have x0 := ix5_1
          have c0 : wr.cell? ⟨g, 1, none⟩ = some (.int .i64 (rowI R k 1 1)) := cell_blk G2.out
          have hb1 := HRb.out 1
          have hb2 : 0 ≤ rowI R k 1 1 ∧ rowI R k 1 1 ≤ 9223372036854775807 := by
            have e : rowI R k 1 1 = smI R k 1 := rfl
            rw [e]; exact smI_bd R k 1
          go_wp2_with fail
          generalize hW3 : wr.alloc _ = W3
          have gq : W3.heap[wr.heap.size]? = some (.cells #[.int .i64 (rowI R k 1 1), .int .i64 (R k 1)] 3 (0, 0)) := by rw [← hW3]; exact alloc_blk_new
          have G3 : W3.heap[g]? = some (.cells #[.int .i64 (rowI R k 1 0), .int .i64 (rowI R k 1 1), .int .i64 (rowI R k 1 2), .int .i64 (rowI R k 1 3), .int .i64 (rowI R k 1 4)] 166 (0, 0)) := by rw [← hW3, alloc_blk_old hgl]; exact G2.out
          have G5 : Hid (W3.heap[r]? = some (.cells #[.int .i64 0, .int .i64 0, .int .i64 0, .int .i64 0, .int .i64 0] 100 (0, 0))) := Lib.hid (by rw [← hW3, alloc_blk_old hrl]; exact G1.out)
          have B3 : Hid (Below w.heap.size w W3) := Lib.hid (by rw [← hW3]; exact HB.out.alloc hsz _)
          clear hW3 c0
          refine (plus_any (rowI R k 1 1) (R k 1) W3 wr.heap.size 2 (cell_blk gq) (cell_blk gq) (by omega) (by omega) (by omega) hb1.1 hb1.2).mono ?_
          rintro e w3 ⟨rfl, rfl⟩
          have f0 : w3.frozen? ⟨g, 1, none⟩ = false := free_blk G3
          have c0 : w3.cell? ⟨g, 1, none⟩ = some (.int .i64 (rowI R k 1 1)) := cell_blk G3
          have G6 := Lib.hid G3
          clear G3 gq hb1 hb2
          go_wp2_with fail
          go_roundw
          case rel => exact ⟨2, by omega, by go_num, Lib.hid (by rw [set_blk_other _ (by show r ≠ g; omega)]; exact G5.out), Lib.hid (by rw [set_blk _ G6.out]; simp [rowI, smI]), Lib.hid (Below.setCell B3.out hwg _)⟩
          case measure => simp [intOf]
        · have x0 := ix5_2
          have c0 : wr.cell? ⟨g, 2, none⟩ = some (.int .i64 (rowI R k 2 2)) := cell_blk G2.out
          have hb1 := HRb.out 2
          have hb2 : 0 ≤ rowI R k 2 2 ∧ rowI R k 2 2 ≤ 9223372036854775807 := by
            have e : rowI R k 2 2 = smI R k 2 := rfl
            rw [e]; exact smI_bd R k 2
          go_wp2_with fail
          generalize hW3 : wr.alloc _ = W3
          have gq : W3.heap[wr.heap.size]? = some (.cells #[.int .i64 (rowI R k 2 2), .int .i64 (R k 2)] 3 (0, 0)) := by rw [← hW3]; exact alloc_blk_new
          have G3 : W3.heap[g]? = some (.cells #[.int .i64 (rowI R k 2 0), .int .i64 (rowI R k 2 1), .int .i64 (rowI R k 2 2), .int .i64 (rowI R k 2 3), .int .i64 (rowI R k 2 4)] 166 (0, 0)) := by rw [← hW3, alloc_blk_old hgl]; exact G2.out
          have G5 : Hid (W3.heap[r]? = some (.cells #[.int .i64 0, .int .i64 0, .int .i64 0, .int .i64 0, .int .i64 0] 100 (0, 0))) := Lib.hid (by rw [← hW3, alloc_blk_old hrl]; exact G1.out)
          have B3 : Hid (Below w.heap.size w W3) := Lib.hid (by rw [← hW3]; exact HB.out.alloc hsz _)
          clear hW3 c0
          refine (plus_any (rowI R k 2 2) (R k 2) W3 wr.heap.size 2 (cell_blk gq) (cell_blk gq) (by omega) (by omega) (by omega) hb1.1 hb1.2).mono ?_
          rintro e w3 ⟨rfl, rfl⟩
          have f0 : w3.frozen? ⟨g, 2, none⟩ = false := free_blk G3
          have c0 : w3.cell? ⟨g, 2, none⟩ = some (.int .i64 (rowI R k 2 2)) := cell_blk G3
          have G6 := Lib.hid G3
          clear G3 gq hb1 hb2
          go_wp2_with fail
          go_roundw
          case rel => exact ⟨3, by omega, by go_num, Lib.hid (by rw [set_blk_other _ (by show r ≠ g; omega)]; exact G5.out), Lib.hid (by rw [set_blk _ G6.out]; simp [rowI, smI]), Lib.hid (Below.setCell B3.out hwg _)⟩
          case measure => simp [intOf]
        · have x0 := ix5_3
          have c0 : wr.cell? ⟨g, 3, none⟩ = some (.int .i64 (rowI R k 3 3)) := cell_blk G2.out
          have hb1 := HRb.out 3
          have hb2 : 0 ≤ rowI R k 3 3 ∧ rowI R k 3 3 ≤ 9223372036854775807 := by
            have e : rowI R k 3 3 = smI R k 3 := rfl
            rw [e]; exact smI_bd R k 3
          go_wp2_with fail
          generalize hW3 : wr.alloc _ = W3
          have gq : W3.heap[wr.heap.size]? = some (.cells #[.int .i64 (rowI R k 3 3), .int .i64 (R k 3)] 3 (0, 0)) := by rw [← hW3]; exact alloc_blk_new
          have G3 : W3.heap[g]? = some (.cells #[.int .i64 (rowI R k 3 0), .int .i64 (rowI R k 3 1), .int .i64 (rowI R k 3 2), .int .i64 (rowI R k 3 3), .int .i64 (rowI R k 3 4)] 166 (0, 0)) := by rw [← hW3, alloc_blk_old hgl]; exact G2.out
          have G5 : Hid (W3.heap[r]? = some (.cells #[.int .i64 0, .int .i64 0, .int .i64 0, .int .i64 0, .int .i64 0] 100 (0, 0))) := Lib.hid (by rw [← hW3, alloc_blk_old hrl]; exact G1.out)
          have B3 : Hid (Below w.heap.size w W3) := Lib.hid (by rw [← hW3]; exact HB.out.alloc hsz _)
          clear hW3 c0
          refine (plus_any (rowI R k 3 3) (R k 3) W3 wr.heap.size 2 (cell_blk gq) (cell_blk gq) (by omega) (by omega) (by omega) hb1.1 hb1.2).mono ?_
          rintro e w3 ⟨rfl, rfl⟩
          have f0 : w3.frozen? ⟨g, 3, none⟩ = false := free_blk G3
          have c0 : w3.cell? ⟨g, 3, none⟩ = some (.int .i64 (rowI R k 3 3)) := cell_blk G3
          have G6 := Lib.hid G3
          clear G3 gq hb1 hb2
          go_wp2_with fail
          go_roundw
          case rel => exact ⟨4, by omega, by go_num, Lib.hid (by rw [set_blk_other _ (by show r ≠ g; omega)]; exact G5.out), Lib.hid (by rw [set_blk _ G6.out]; simp [rowI, smI]), Lib.hid (Below.setCell B3.out hwg _)⟩
          case measure => simp [intOf]
        · have x0 := ix5_4
          have c0 : wr.cell? ⟨g, 4, none⟩ = some (.int .i64 (rowI R k 4 4)) := cell_blk G2.out
          have hb1 := HRb.out 4
          have hb2 : 0 ≤ rowI R k 4 4 ∧ rowI R k 4 4 ≤ 9223372036854775807 := by
            have e : rowI R k 4 4 = smI R k 4 := rfl
            rw [e]; exact smI_bd R k 4
          go_wp2_with fail
          generalize hW3 : wr.alloc _ = W3
          have gq : W3.heap[wr.heap.size]? = some (.cells #[.int .i64 (rowI R k 4 4), .int .i64 (R k 4)] 3 (0, 0)) := by rw [← hW3]; exact alloc_blk_new
          have G3 : W3.heap[g]? = some (.cells #[.int .i64 (rowI R k 4 0), .int .i64 (rowI R k 4 1), .int .i64 (rowI R k 4 2), .int .i64 (rowI R k 4 3), .int .i64 (rowI R k 4 4)] 166 (0, 0)) := by rw [← hW3, alloc_blk_old hgl]; exact G2.out
          have G5 : Hid (W3.heap[r]? = some (.cells #[.int .i64 0, .int .i64 0, .int .i64 0, .int .i64 0, .int .i64 0] 100 (0, 0))) := Lib.hid (by rw [← hW3, alloc_blk_old hrl]; exact G1.out)
          have B3 : Hid (Below w.heap.size w W3) := Lib.hid (by rw [← hW3]; exact HB.out.alloc hsz _)
          clear hW3 c0
          refine (plus_any (rowI R k 4 4) (R k 4) W3 wr.heap.size 2 (cell_blk gq) (cell_blk gq) (by omega) (by omega) (by omega) hb1.1 hb1.2).mono ?_
          rintro e w3 ⟨rfl, rfl⟩
          have f0 : w3.frozen? ⟨g, 4, none⟩ = false := free_blk G3
          have c0 : w3.cell? ⟨g, 4, none⟩ = some (.int .i64 (rowI R k 4 4)) := cell_blk G3
          have G6 := Lib.hid G3
          clear G3 gq hb1 hb2
          go_wp2_with fail
          go_roundw
          case rel => exact ⟨5, by omega, by go_num, Lib.hid (by rw [set_blk_other _ (by show r ≠ g; omega)]; exact G5.out), Lib.hid (by rw [set_blk _ G6.out]; simp [rowI, smI]), Lib.hid (Below.setCell B3.out hwg _)⟩
          case measure => simp [intOf]
        · have G4 : Hid (wr.heap[g]? = some (.cells #[.int .i64 (smI R (k + 1) 0), .int .i64 (smI R (k + 1) 1), .int .i64 (smI R (k + 1) 2), .int .i64 (smI R (k + 1) 3), .int .i64 (smI R (k + 1) 4)] 166 (0, 0))) := Lib.hid (by have := G2.out; simpa [rowI] using this)
          go_wp2_with fail
          go_roundw
          case rel => exact ⟨k + 1, by omega, by go_num, G1, G4, HB⟩
          case measure => simp [intOf] <;> omega
    · obtain rfl : n = k := by omega
      have c0 : wr.cell? ⟨g, 0, none⟩ = some (.int .i64 (smI R n 0)) := cell_blk G2.out
      have c1 : wr.cell? ⟨g, 1, none⟩ = some (.int .i64 (smI R n 1)) := cell_blk G2.out
      have c2 : wr.cell? ⟨g, 2, none⟩ = some (.int .i64 (smI R n 2)) := cell_blk G2.out
      have c3 : wr.cell? ⟨g, 3, none⟩ = some (.int .i64 (smI R n 3)) := cell_blk G2.out
      have c4 : wr.cell? ⟨g, 4, none⟩ = some (.int .i64 (smI R n 4)) := cell_blk G2.out
      go_wp2_with fail
      refine (reading_any _ _ _ _ _ wr).mono ?_
      rintro e w2 ⟨rfl, B3⟩
      have hrl : r < wr.heap.size := lt_of_block G1.out
      have g1 : w2.heap[r]? = some (.cells #[.int .i64 0, .int .i64 0, .int .i64 0, .int .i64 0, .int .i64 0] 100 (0, 0)) := (B3.block r hrl).trans G1.out
      have BW : Hid (Below w.heap.size w w2) := Lib.hid (HB.out.trans (B3.mono HB.out.size))
      have f0 : w2.frozen? ⟨r, 0, none⟩ = false := free_blk g1
      have f1 : w2.frozen? ⟨r, 1, none⟩ = false := free_blk g1
      have f2 : w2.frozen? ⟨r, 2, none⟩ = false := free_blk g1
      have f3 : w2.frozen? ⟨r, 3, none⟩ = false := free_blk g1
      have f4 : w2.frozen? ⟨r, 4, none⟩ = false := free_blk g1
      have d0 : w2.cell? ⟨r, 0, none⟩ = some (.int .i64 0) := cell_blk g1
      have d1 : w2.cell? ⟨r, 1, none⟩ = some (.int .i64 0) := cell_blk g1
      have d2 : w2.cell? ⟨r, 2, none⟩ = some (.int .i64 0) := cell_blk g1
      have d3 : w2.cell? ⟨r, 3, none⟩ = some (.int .i64 0) := cell_blk g1
      have d4 : w2.cell? ⟨r, 4, none⟩ = some (.int .i64 0) := cell_blk g1
      have GG := Lib.hid g1
      clear g1 B3 c0 c1 c2 c3 c4
      go_wp2_with fail
      generalize hF : World.setCell _ _ _ = Wf
      have gf : Wf.heap[r]? = some (.cells #[.int .i64 (smI R n 0), .int .i64 (smI R n 1), .int .i64 (smI R n 2), .int .i64 (smI R n 3), .int .i64 (smI R n 4)] 100 (0, 0)) := by rw [← hF]; simp [heap_drew, heap_set, GG.out, putIn]
      have BF : Below w.heap.size w Wf := by
        rw [← hF]
        iterate 5 refine Below.setCell ?_ hwr _
        exact BW.out
      clear hF f0 f1 f2 f3 f4 d0 d1 d2 d3 d4
      have r0 : Wf.cell? ⟨r, 0, none⟩ = some (.int .i64 (smI R n 0)) := cell_blk gf
      have r1 : Wf.cell? ⟨r, 1, none⟩ = some (.int .i64 (smI R n 1)) := cell_blk gf
      have r2 : Wf.cell? ⟨r, 2, none⟩ = some (.int .i64 (smI R n 2)) := cell_blk gf
      have r3 : Wf.cell? ⟨r, 3, none⟩ = some (.int .i64 (smI R n 3)) := cell_blk gf
      have r4 : Wf.cell? ⟨r, 4, none⟩ = some (.int .i64 (smI R n 4)) := cell_blk gf
      refine bodyPost_ret (by simp [results, Try.results60, go_sem, r0, r1, r2, r3, r4]; try rfl) rfl ?_
      exact ⟨rfl, BF⟩
end Go.Proofs.Ytihbceippcgfgaa
