/-
  Chapter 36: the document's examples; the law RedReads.
-/
import Derived.Test.YtdmbdageohjodaaRedQ
namespace Go.Proofs.Ytdmbdageohjodaa
open Go.RowKit
set_option linter.unusedVariables false
set_option linter.unusedSimpArgs false
attribute [local irreducible] wpStill wpQuiet

/-- a row of the call's own, as a string -/
theorem conv_own {w W : World} {base N : Nat} {a : Option Addr} {c : Nat} {L : List Int} (h : w.ownsRow base 5 1 (.slice a N c) N (u8s L)) (hO : Oct L) (hN : N ≤ 1000000) (hb : Below w.heap.size w W) :
    (convert 56 9 (.slice a N c)).run Try.prog W = .ok (.string (strOf (gz L) N)) W := by
  obtain ⟨_, a', c', he, hs⟩ := BS.own h hO hN
  cases he
  exact run_conv_BS (hs.keep hb) Try.underlying56 Try.underlying5 Try.underlying9
theorem wrL_oct {Q : Nat → Blk} {len : Nat} {B : Nat} {w : World} (h : wok Q len) (ho : ∀ i, i < len → BlkOk B w (Q i)) : Oct (wrL Q len) :=
  (HXs_oct Q len (by have := h.1; omega) (okTo.t h.2.2.1 ho)).app (DLs_oct Q len ho)
def oneQ (g : Nat) : Nat → Blk := fun _ => ⟨5, 0, some ⟨g, 0, none⟩, 1, 1, fun _ => 9⟩
def twoQ (g h : Nat) : Nat → Blk := fun i => if i = 0 then ⟨6, 10, some ⟨g, 0, none⟩, 1, 1, fun _ => 8⟩ else ⟨5, 0, some ⟨h, 0, none⟩, 1, 1, fun _ => 9⟩
theorem one_wr (g : Nat) : wrL (oneQ g) 1 = [5, 9] := rfl
theorem two_wr (g h : Nat) : wrL (twoQ g h) 2 = [134, 0, 40, 1, 5, 8, 9] := by kernel_rfl
theorem one_ok (g : Nat) : wok (oneQ g) 1 := by
  refine ⟨by omega, by omega, fun i hi => ?_, by rw [one_wr]; decide⟩
  have : i = 0 := by omega
  subst this
  rfl
theorem two_ok (g h : Nat) : wok (twoQ g h) 2 := ⟨by omega, by omega, fun i hi => by rcases (by omega : i = 0 ∨ i = 1) with rfl | rfl <;> rfl, by rw [two_wr]; decide⟩
set_option maxRecDepth 100000 in
set_option maxHeartbeats 4000000 in
theorem alive36_any (w : World) : Calls Try.prog 50 #[] w fun e w' => e = .returned (.bool true) ∧ Below w.heap.size w w' := by
  have s1 : strOf (gz [5, 9]) 2 = ⟨#[5, 9]⟩ := by decide +kernel
  have s2 : strOf (gz [134, 0, 40, 1, 5, 8, 9]) 7 = ⟨#[134, 0, 40, 1, 5, 8, 9]⟩ := by decide +kernel
  have S1 := Lib.hid s1
  have S2 := Lib.hid s2
  clear s1 s2
  go_enter Try.func50, Try.ntmps50
  go_wp2_with fail
  generalize hW : World.alloc _ _ = W
  have g0 : W.heap[w.heap.size]? = some (.cells #[.int .u8 9] 5 (0, 0)) := by rw [← hW, alloc_blk_old (by simp)]; exact alloc_blk_new
  have g1 : W.heap[w.heap.size + 1]? = some (.cells #[.int .u8 5, .int .i64 0, .slice (some ⟨w.heap.size, 0, none⟩) 1 1] 110 (0, 0)) := by
    rw [← hW]
    have := alloc_blk_new (w := w.alloc (.cells #[.int .u8 9] 5)) (o := .cells #[.int .u8 5, .int .i64 0, .slice (some ⟨w.heap.size, 0, none⟩) 1 1] 110)
    simpa using this
  have BW : Hid (Below w.heap.size w W) := Lib.hid (by rw [← hW]; exact ((Below.refl _ w).alloc (Nat.le_refl _) _).alloc (by simp) _)
  clear hW
  have bk : Blks W.heap.size W (some ⟨w.heap.size + 1, 0, none⟩) 1 1 (oneQ w.heap.size) := ⟨by omega, by omega, fun i hi => ⟨by show (0 : Int) ≤ 5; omega, by show (5 : Int) ≤ 255; omega, by show (-9223372036854775808 : Int) ≤ 0; omega, by show (0 : Int) ≤ 9223372036854775807; omega, ⟨Nat.le_refl _, by show 1 ≤ 9223372036854775807; omega, fun _ _ => by show (0 : Int) ≤ 9 ∧ (9 : Int) ≤ 255; omega, w.heap.size, 0, fun _ => ⟨rfl, lt_of_block g0⟩, fun x hx => by
    obtain rfl : x = 0 := by have : x < 1 := hx; omega
    exact cell_blk g0⟩⟩, w.heap.size + 1, 0, fun _ => ⟨rfl, lt_of_block g1⟩, fun i hi j hj => by
    obtain rfl : i = 0 := by omega
    rcases (by omega : j = 0 ∨ j = 1 ∨ j = 2) with rfl | rfl | rfl <;> exact cell_blk g1⟩
  have HB1 := Lib.hid bk
  have HW1 := Lib.hid (write_any W.heap.size (some ⟨w.heap.size + 1, 0, none⟩) 1 1 (oneQ w.heap.size) W bk (Nat.le_refl _) (fun i hi => by show 1 ≤ 2000; omega))
  clear bk g0 g1
  refine HW1.out.mono ?_
  rintro e w1 ⟨hc, b1⟩
  obtain ⟨_, a5, N5, c5, rfl, hN, o5⟩ := hc.resolve_right (fun h => h.1 (one_ok _))
  rw [one_wr] at hN o5
  have hN' : N5 = 2 := hN
  subst hN'
  have HC1 : Hid (∀ W', Below w1.heap.size w1 W' → (convert 56 9 (.slice a5 2 c5)).run Try.prog W' = .ok (.string ⟨#[5, 9]⟩) W') := Lib.hid (fun W' hb => by rw [conv_own o5 (fun x hx => by simp at hx; omega) (by omega) hb, S1.out])
  have B1 := Lib.hid (BW.out.trans (b1.mono BW.out.size))
  clear hc hN o5 b1 HW1
  go_wp2_with fail
  generalize hV : World.alloc _ _ = V
  have g0 : V.heap[w1.heap.size]? = some (.cells #[.int .u8 8] 5 (0, 0)) := by rw [← hV, alloc_blk_old (by simp; omega), alloc_blk_old (by simp)]; exact alloc_blk_new
  have g1 : V.heap[w1.heap.size + 1]? = some (.cells #[.int .u8 9] 5 (0, 0)) := by
    rw [← hV, alloc_blk_old (by simp)]
    have := alloc_blk_new (w := w1.alloc (.cells #[.int .u8 8] 5)) (o := .cells #[.int .u8 9] 5)
    simpa using this
  have g2 : V.heap[w1.heap.size + 1 + 1]? = some (.cells #[.int .u8 6, .int .i64 10, .slice (some ⟨w1.heap.size, 0, none⟩) 1 1, .int .u8 5, .int .i64 0, .slice (some ⟨w1.heap.size + 1, 0, none⟩) 1 1] 110 (0, 0)) := by
    rw [← hV]
    have := alloc_blk_new (w := (w1.alloc (.cells #[.int .u8 8] 5)).alloc (.cells #[.int .u8 9] 5)) (o := .cells #[.int .u8 6, .int .i64 10, .slice (some ⟨w1.heap.size, 0, none⟩) 1 1, .int .u8 5, .int .i64 0, .slice (some ⟨w1.heap.size + 1, 0, none⟩) 1 1] 110)
    simpa using this
  have BV : Hid (Below w1.heap.size w1 V) := Lib.hid (by rw [← hV]; exact (((Below.refl _ w1).alloc (Nat.le_refl _) _).alloc (by simp) _).alloc (by simp; omega) _)
  clear hV
  have bk : Blks V.heap.size V (some ⟨w1.heap.size + 1 + 1, 0, none⟩) 2 2 (twoQ w1.heap.size (w1.heap.size + 1)) := by
    refine ⟨by omega, by omega, fun i hi => ?_, w1.heap.size + 1 + 1, 0, fun _ => ⟨rfl, lt_of_block g2⟩, fun i hi j hj => ?_⟩
    · rcases (by omega : i = 0 ∨ i = 1) with rfl | rfl
      · exact ⟨by show (0 : Int) ≤ 6; omega, by show (6 : Int) ≤ 255; omega, by show (-9223372036854775808 : Int) ≤ 10; omega, by show (10 : Int) ≤ 9223372036854775807; omega, ⟨Nat.le_refl _, by show 1 ≤ 9223372036854775807; omega, fun _ _ => by show (0 : Int) ≤ 8 ∧ (8 : Int) ≤ 255; omega, w1.heap.size, 0, fun _ => ⟨rfl, lt_of_block g0⟩, fun x hx => by
          obtain rfl : x = 0 := by have : x < 1 := hx; omega
          exact cell_blk g0⟩⟩
      · exact ⟨by show (0 : Int) ≤ 5; omega, by show (5 : Int) ≤ 255; omega, by show (-9223372036854775808 : Int) ≤ 0; omega, by show (0 : Int) ≤ 9223372036854775807; omega, ⟨Nat.le_refl _, by show 1 ≤ 9223372036854775807; omega, fun _ _ => by show (0 : Int) ≤ 9 ∧ (9 : Int) ≤ 255; omega, w1.heap.size + 1, 0, fun _ => ⟨rfl, lt_of_block g1⟩, fun x hx => by
          obtain rfl : x = 0 := by have : x < 1 := hx; omega
          exact cell_blk g1⟩⟩
    · rcases (by omega : i = 0 ∨ i = 1) with rfl | rfl <;> rcases (by omega : j = 0 ∨ j = 1 ∨ j = 2) with rfl | rfl | rfl <;> exact cell_blk g2
  have HW2 := Lib.hid (write_any V.heap.size (some ⟨w1.heap.size + 1 + 1, 0, none⟩) 2 2 (twoQ w1.heap.size (w1.heap.size + 1)) V bk (Nat.le_refl _) (fun i hi => by rcases (by omega : i = 0 ∨ i = 1) with rfl | rfl <;> (show 1 ≤ 2000; omega)))
  clear bk g0 g1 g2
  refine HW2.out.mono ?_
  rintro e w2 ⟨hc, b2⟩
  obtain ⟨_, a6, N6, c6, rfl, hN, o6⟩ := hc.resolve_right (fun h => h.1 (two_ok _ _))
  rw [two_wr] at hN o6
  have hN' : N6 = 7 := hN
  subst hN'
  have hc1 := HC1.out w2 (BV.out.trans (b2.mono BV.out.size))
  have hc2 : (convert 56 9 (.slice a6 7 c6)).run Try.prog w2 = .ok (.string ⟨#[134, 0, 40, 1, 5, 8, 9]⟩) w2 := by rw [conv_own o6 (fun x hx => by simp at hx; omega) (by omega) (Below.refl _ _), S2.out]
  have B2 := Lib.hid (B1.out.trans ((BV.out.trans (b2.mono BV.out.size)).mono B1.out.size))
  clear hc hN o6 b2 HW2
  go_wp2_with fail
  go_ret
  exact ⟨rfl, B2.out⟩
set_option maxRecDepth 100000 in
set_option maxHeartbeats 4000000 in
theorem RedReads.walk (a : Option Addr) (len cap : Nat) (zs : List Int) (w : World) (r : IsRow .u8 w a len cap zs) :
    Calls Try.prog 14 #[.slice a len cap] w fun e w' => e = .returned (.bool true) ∧ Below w.heap.size w w' := by
  obtain ⟨Z, hb⟩ := BS.of_row r
  have HB := Lib.hid hb
  clear hb r
  go_enter Try.func14, Try.ntmps14
  go_wp2_with fail
  refine (alive36_any w).mono ?_
  rintro e w1 ⟨rfl, b1⟩
  have B1 := Lib.hid b1
  clear b1
  by_cases hl : len ≤ 2000
  · have hl' : decide (2000 < (len : Int)) = false := by simp; omega
    go_wp2_with fail
    refine (read_any w.heap.size a len cap Z w1 (HB.out.keep B1.out) B1.out.size (by omega)).mono ?_
    rintro e w2 ⟨hc, b2⟩
    have HB2 : Hid (BS w.heap.size w2 a len cap Z) := Lib.hid (HB.out.keep (B1.out.trans (b2.mono B1.out.size)))
    have B2 := Lib.hid (B1.out.trans (b2.mono B1.out.size))
    clear b2
    rcases hc with ⟨h0, rfl⟩ | ⟨h0, J, ad, cp, Q, hJ, h9, ho, rfl, bk, hq⟩
    · have H0 := Lib.hid h0
      clear h0
      go_wp2_with fail
      refine (refread_any w.heap.size a len cap Z w2 HB2.out B2.out.size (by omega)).mono ?_
      rintro e w3 ⟨hc, b3⟩
      have B3 := Lib.hid (B2.out.trans (b3.mono B2.out.size))
      clear b3
      rcases hc with ⟨_, rfl⟩ | ⟨h0', _⟩
      · obtain ⟨x, hx⟩ : ∃ x, rdE Z len = x := ⟨_, rfl⟩
        rw [hx]
        clear hx H0
        have nb : Blks w3.heap.size w3 none 0 0 (fun _ => default) := ⟨Nat.le_refl _, by omega, fun i hi => by omega, 0, 0, fun h => by omega, fun i hi => by omega⟩
        have HN := Lib.hid nb
        clear nb
        go_wp2_with fail
        refine (same36_any none 0 0 (fun _ => default) none 0 (fun _ => default) w3 HN.out HN.out (fun i hi => by omega) (by omega)).mono ?_
        rintro e w4 ⟨rfl, b4⟩
        have B4 := Lib.hid (B3.out.trans (b4.mono B3.out.size))
        clear b4
        go_wp2_with fail
        go_ret
        exact ⟨rfl, B4.out⟩
      · exact absurd h0' H0.out
    · have H0 := Lib.hid h0
      have HJ := Lib.hid hJ
      have BK := Lib.hid bk
      have HQ := Lib.hid hq
      clear h0 hJ bk hq
      go_wp2_with fail
      refine (refread_any w.heap.size a len cap Z w2 HB2.out B2.out.size (by omega)).mono ?_
      rintro e w3 ⟨hc, b3⟩
      have BK3 := Lib.hid ((BK.out.keep b3).mono b3.size)
      have B3 := Lib.hid (B2.out.trans (b3.mono B2.out.size))
      clear b3
      rcases hc with ⟨h0', _⟩ | ⟨_, J2, ad2, cp2, Q2, hJ2, _, _, rfl, bk2, hq2⟩
      · exact absurd H0.out h0'
      · have : J2 = J := by have := HJ.out.symm.trans hJ2; injection this with this; exact this.symm
        subst this
        have BK2 := Lib.hid bk2
        have HEV : Hid (∀ i, i < J2 + 1 → Eqv (Q i) (Q2 i)) := Lib.hid (fun i hi => by
          obtain ⟨x1, x2, x3, x4⟩ := HQ.out i (by omega)
          obtain ⟨y1, y2, y3, y4⟩ := hq2 i (by omega)
          exact ⟨x1.trans y1.symm, x2.trans y2.symm, x3.trans y3.symm, fun x hx => (x4 x hx).trans (y4 x (by rw [y3, ← x3]; exact hx)).symm⟩)
        clear hJ2 bk2 hq2
        go_wp2_with fail
        refine (same36_any ad (J2 + 1) cp Q ad2 cp2 Q2 w3 BK3.out BK2.out HEV.out (by omega)).mono ?_
        rintro e w4 ⟨rfl, b4⟩
        have B4 := Lib.hid (B3.out.trans (b4.mono B3.out.size))
        clear b4
        go_wp2_with fail
        go_ret
        exact ⟨rfl, B4.out⟩
  · have hl' : decide (2000 < (len : Int)) = true := by simp; omega
    clear hl
    go_wp2_with fail
    go_ret
    exact ⟨rfl, B1.out⟩
end Go.Proofs.Ytdmbdageohjodaa
