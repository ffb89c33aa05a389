/-
  Chapter 45: choices among records: the closures; a log's making and length.
-/
import Derived.Test.YtdmbdageohjodaaCpA
import Derived.Deep.DeepCutAuto
namespace Go.Proofs.Ytdmbdageohjodaa
open Go.RowKit
set_option linter.unusedVariables false
set_option linter.unusedSimpArgs false
attribute [local irreducible] wpStill wpQuiet

set_option maxHeartbeats 2000000 in
theorem bet1_any (tk wy ad pt : Int) (a : Option Addr) (n c : Nat) (g : Nat) (lo : Int) (w : World) (h : w.heap[g]? = some (.cells #[.int .i64 lo] 2 (0, 0))) :
    Calls Try.prog 79 #[.agg #[.int .i64 tk, .int .i64 wy, .int .u32 ad, .int .u16 pt, .slice a n c], .pointer (some ⟨g, 0, none⟩)] w fun e w' => e = .returned (.bool (decide (lo ≤ tk))) ∧ Below w.heap.size w w' := by
  have lt := lt_of_block h
  have HG := Lib.hid h
  clear h
  go_enter Try.func79, Try.ntmps79
  go_upto_region 1 with (fail)
  obtain ⟨V, hV⟩ : ∃ V, w.alloc (.cells #[.int .i64 tk, .int .i64 wy, .int .u32 ad, .int .u16 pt, .slice a n c] 72) = V := ⟨_, rfl⟩
  obtain ⟨g1, hg1⟩ : ∃ g1, w.heap.size = g1 := ⟨_, rfl⟩
  rw [hV, hg1]
  have bv : Hid (Below w.heap.size w V) := Lib.hid (by rw [← hV]; exact (Below.refl _ _).alloc (Nat.le_refl _) _)
  have x0 : V.cell? ⟨g1, 0, none⟩ = some (.int .i64 tk) := by rw [← hV, ← hg1]; exact cell_blk alloc_blk_new
  have x1 : V.cell? ⟨g, 0, none⟩ = some (.int .i64 lo) := by rw [← hV]; exact cell_blk ((alloc_blk_old lt).trans HG.out)
  clear hV hg1
  go_wp2_with fail
  go_ret
  exact ⟨by simp, bv.out⟩
set_option maxHeartbeats 2000000 in
theorem bet2_any (tk wy ad pt : Int) (a : Option Addr) (n c : Nat) (g : Nat) (hi : Int) (w : World) (h : w.heap[g]? = some (.cells #[.int .i64 hi] 2 (0, 0))) :
    Calls Try.prog 80 #[.agg #[.int .i64 tk, .int .i64 wy, .int .u32 ad, .int .u16 pt, .slice a n c], .pointer (some ⟨g, 0, none⟩)] w fun e w' => e = .returned (.bool (decide (tk < hi))) ∧ Below w.heap.size w w' := by
  have lt := lt_of_block h
  have HG := Lib.hid h
  clear h
  go_enter Try.func80, Try.ntmps80
  go_upto_region 1 with (fail)
  obtain ⟨V, hV⟩ : ∃ V, w.alloc (.cells #[.int .i64 tk, .int .i64 wy, .int .u32 ad, .int .u16 pt, .slice a n c] 72) = V := ⟨_, rfl⟩
  obtain ⟨g1, hg1⟩ : ∃ g1, w.heap.size = g1 := ⟨_, rfl⟩
  rw [hV, hg1]
  have bv : Hid (Below w.heap.size w V) := Lib.hid (by rw [← hV]; exact (Below.refl _ _).alloc (Nat.le_refl _) _)
  have x0 : V.cell? ⟨g1, 0, none⟩ = some (.int .i64 tk) := by rw [← hV, ← hg1]; exact cell_blk alloc_blk_new
  have x1 : V.cell? ⟨g, 0, none⟩ = some (.int .i64 hi) := by rw [← hV]; exact cell_blk ((alloc_blk_old lt).trans HG.out)
  clear hV hg1
  go_wp2_with fail
  go_ret
  exact ⟨by simp, bv.out⟩
set_option maxHeartbeats 2000000 in
theorem of1_any (tk wy ad pt : Int) (a : Option Addr) (n c : Nat) (g : Nat) (xa xp : Int) (w : World) (h : w.heap[g]? = some (.cells #[.int .u32 xa, .int .u16 xp] 70 (0, 0))) :
    Calls Try.prog 81 #[.agg #[.int .i64 tk, .int .i64 wy, .int .u32 ad, .int .u16 pt, .slice a n c], .pointer (some ⟨g, 0, none⟩)] w fun e w' => e = .returned (.bool (decide (ad = xa ∧ pt = xp))) ∧ Below w.heap.size w w' := by
  have lt := lt_of_block h
  have HG := Lib.hid h
  clear h
  go_enter Try.func81, Try.ntmps81
  go_upto_region 1 with (fail)
  obtain ⟨V, hV⟩ : ∃ V, w.alloc (.cells #[.int .i64 tk, .int .i64 wy, .int .u32 ad, .int .u16 pt, .slice a n c] 72) = V := ⟨_, rfl⟩
  obtain ⟨g1, hg1⟩ : ∃ g1, w.heap.size = g1 := ⟨_, rfl⟩
  rw [hV, hg1]
  have bv : Hid (Below w.heap.size w V) := Lib.hid (by rw [← hV]; exact (Below.refl _ _).alloc (Nat.le_refl _) _)
  have x2 : V.cell? ⟨g1, 2, none⟩ = some (.int .u32 ad) := by rw [← hV, ← hg1]; exact cell_blk alloc_blk_new
  have x3 : V.cell? ⟨g1, 3, none⟩ = some (.int .u16 pt) := by rw [← hV, ← hg1]; exact cell_blk alloc_blk_new
  have y0 : V.cell? ⟨g, 0, none⟩ = some (.int .u32 xa) := by rw [← hV]; exact cell_blk ((alloc_blk_old lt).trans HG.out)
  have y1 : V.cell? ⟨g, 1, none⟩ = some (.int .u16 xp) := by rw [← hV]; exact cell_blk ((alloc_blk_old lt).trans HG.out)
  clear hV hg1
  clear HG lt
  go_wp2_with fail
  all_goals (go_ret; refine ⟨?_, bv.out⟩; clear x2 x3 y0 y1 bv; simp_all)
/-- a log: its bound, its records' bytes, how long its file is -/
def logO (mx : Int) (v : Value) (sz : Int) : Obj := .cells #[.int .i64 mx, v, .int .i64 sz] 139 (0, 0)
set_option maxHeartbeats 2000000 in
theorem newLog_any (mx : Int) (w : World) : Calls Try.prog 35 #[.int .i64 mx] w fun e w' => e = .returned (.pointer (some ⟨w.heap.size, 0, none⟩)) ∧ w' = w.alloc (.cells #[.int .i64 mx, .slice none 0 0, .int .i64 6] 139) := by
  go_enter Try.func35, Try.ntmps35
  go_wp2_with fail
  go_ret
  exact ⟨rfl, rfl⟩
set_option maxHeartbeats 2000000 in
theorem lenLog_any (g : Nat) (mx sz : Int) (a : Option Addr) (n c : Nat) (w : World) (h : w.heap[g]? = some (logO mx (.slice a n c) sz)) : Calls Try.prog 39 #[.pointer (some ⟨g, 0, none⟩)] w fun e w' => e = .returned (.int .i64 n) ∧ w = w' := by
  have x1 : w.cell? ⟨g, 1, none⟩ = some (.slice a n c) := cell_blk h
  clear h
  go_enter Try.func39, Try.ntmps39
  go_wp2_with fail
  go_ret
  exact ⟨rfl, rfl⟩
set_option maxHeartbeats 2000000 in
theorem neg_bet1 (tk wy ad pt : Int) (a : Option Addr) (n c : Nat) (g gr : Nat) (lo : Int) (w : World) (h : w.heap[g]? = some (.cells #[.int .i64 lo] 2 (0, 0))) (hr : w.heap[gr]? = some (.cells #[.int .i64 tk, .int .i64 wy, .int .u32 ad, .int .u16 pt, .slice a n c] 72 (0, 0))) :
    Calls Try.prog 107 #[.func (.func 79) #[] #[.pointer (some ⟨g, 0, none⟩)], .pointer (some ⟨gr, 0, none⟩)] w fun e w' => e = .returned (.bool (!decide (lo ≤ tk))) ∧ Below w.heap.size w w' := by
  have x0 : w.cell? ⟨gr, 0, none⟩ = some (.int .i64 tk) := cell_blk hr
  have x1 : w.cell? ⟨gr, 1, none⟩ = some (.int .i64 wy) := cell_blk hr
  have x2 : w.cell? ⟨gr, 2, none⟩ = some (.int .u32 ad) := cell_blk hr
  have x3 : w.cell? ⟨gr, 3, none⟩ = some (.int .u16 pt) := cell_blk hr
  have x4 : w.cell? ⟨gr, 4, none⟩ = some (.slice a n c) := cell_blk hr
  have H := Lib.hid (bet1_any tk wy ad pt a n c g lo w h)
  obtain ⟨b, hb⟩ : ∃ b, decide (lo ≤ tk) = b := ⟨_, rfl⟩
  rw [hb] at H ⊢
  clear h hr hb
  go_enter Try.func107, Try.ntmps107
  go_wp2_with fail
  refine H.out.mono ?_
  rintro e V ⟨rfl, bv⟩
  have BV := Lib.hid bv
  clear bv
  go_wp2_with fail
  go_ret
  exact ⟨rfl, BV.out⟩
set_option maxHeartbeats 2000000 in
theorem neg_bet2 (tk wy ad pt : Int) (a : Option Addr) (n c : Nat) (g gr : Nat) (lo : Int) (w : World) (h : w.heap[g]? = some (.cells #[.int .i64 lo] 2 (0, 0))) (hr : w.heap[gr]? = some (.cells #[.int .i64 tk, .int .i64 wy, .int .u32 ad, .int .u16 pt, .slice a n c] 72 (0, 0))) :
    Calls Try.prog 107 #[.func (.func 80) #[] #[.pointer (some ⟨g, 0, none⟩)], .pointer (some ⟨gr, 0, none⟩)] w fun e w' => e = .returned (.bool (!decide (tk < lo))) ∧ Below w.heap.size w w' := by
  have x0 : w.cell? ⟨gr, 0, none⟩ = some (.int .i64 tk) := cell_blk hr
  have x1 : w.cell? ⟨gr, 1, none⟩ = some (.int .i64 wy) := cell_blk hr
  have x2 : w.cell? ⟨gr, 2, none⟩ = some (.int .u32 ad) := cell_blk hr
  have x3 : w.cell? ⟨gr, 3, none⟩ = some (.int .u16 pt) := cell_blk hr
  have x4 : w.cell? ⟨gr, 4, none⟩ = some (.slice a n c) := cell_blk hr
  have H := Lib.hid (bet2_any tk wy ad pt a n c g lo w h)
  obtain ⟨b, hb⟩ : ∃ b, decide (tk < lo) = b := ⟨_, rfl⟩
  rw [hb] at H ⊢
  clear h hr hb
  go_enter Try.func107, Try.ntmps107
  go_wp2_with fail
  refine H.out.mono ?_
  rintro e V ⟨rfl, bv⟩
  have BV := Lib.hid bv
  clear bv
  go_wp2_with fail
  go_ret
  exact ⟨rfl, BV.out⟩
set_option maxHeartbeats 2000000 in
theorem neg_of1 (tk wy ad pt : Int) (a : Option Addr) (n c : Nat) (g gr : Nat) (xa xp : Int) (w : World) (h : w.heap[g]? = some (.cells #[.int .u32 xa, .int .u16 xp] 70 (0, 0))) (hr : w.heap[gr]? = some (.cells #[.int .i64 tk, .int .i64 wy, .int .u32 ad, .int .u16 pt, .slice a n c] 72 (0, 0))) :
    Calls Try.prog 107 #[.func (.func 81) #[] #[.pointer (some ⟨g, 0, none⟩)], .pointer (some ⟨gr, 0, none⟩)] w fun e w' => e = .returned (.bool (!decide (ad = xa ∧ pt = xp))) ∧ Below w.heap.size w w' := by
  have x0 : w.cell? ⟨gr, 0, none⟩ = some (.int .i64 tk) := cell_blk hr
  have x1 : w.cell? ⟨gr, 1, none⟩ = some (.int .i64 wy) := cell_blk hr
  have x2 : w.cell? ⟨gr, 2, none⟩ = some (.int .u32 ad) := cell_blk hr
  have x3 : w.cell? ⟨gr, 3, none⟩ = some (.int .u16 pt) := cell_blk hr
  have x4 : w.cell? ⟨gr, 4, none⟩ = some (.slice a n c) := cell_blk hr
  have H := Lib.hid (of1_any tk wy ad pt a n c g xa xp w h)
  obtain ⟨b, hb⟩ : ∃ b, decide (ad = xa ∧ pt = xp) = b := ⟨_, rfl⟩
  rw [hb] at H ⊢
  clear h hr hb
  go_enter Try.func107, Try.ntmps107
  go_wp2_with fail
  refine H.out.mono ?_
  rintro e V ⟨rfl, bv⟩
  have BV := Lib.hid bv
  clear bv
  go_wp2_with fail
  go_ret
  exact ⟨rfl, BV.out⟩
set_option maxHeartbeats 4000000 in
theorem idx2_any (tk wy ad pt : Int) (a : Option Addr) (n c : Nat) (gs g4 g5 gr : Nat) (lo hi : Int) (w : World) (hs : w.heap[gs]? = some (.cells #[.func (.func 79) #[] #[.pointer (some ⟨g4, 0, none⟩)], .func (.func 80) #[] #[.pointer (some ⟨g5, 0, none⟩)]] 78 (0, 0)))
    (h4 : w.heap[g4]? = some (.cells #[.int .i64 lo] 2 (0, 0))) (h5 : w.heap[g5]? = some (.cells #[.int .i64 hi] 2 (0, 0))) (hr : w.heap[gr]? = some (.cells #[.int .i64 tk, .int .i64 wy, .int .u32 ad, .int .u16 pt, .slice a n c] 72 (0, 0))) :
    Calls Try.prog 112 #[.slice (some ⟨gs, 0, none⟩) 2 2, .func (.func 107) #[] #[.pointer (some ⟨gr, 0, none⟩)]] w fun e w' => e = .returned (.int .i64 (if decide (lo ≤ tk) = true then (if decide (tk < hi) = true then -1 else 1) else 0)) ∧ Below w.heap.size w w' := by
  have c0 : w.cell? ⟨gs, 0, none⟩ = some (.func (.func 79) #[] #[.pointer (some ⟨g4, 0, none⟩)]) := cell_blk hs
  have HS := Lib.hid hs
  have H5 := Lib.hid h5
  have H4 := Lib.hid h4
  have HR := Lib.hid hr
  obtain ⟨b, hb⟩ : ∃ b, decide (lo ≤ tk) = b := ⟨_, rfl⟩
  obtain ⟨d, hd⟩ : ∃ d, decide (tk < hi) = d := ⟨_, rfl⟩
  have HD := Lib.hid hd
  have HBB := Lib.hid hb
  rw [hb, hd]
  clear hs h4 h5 hr hb hd
  go_enter Try.func112, Try.ntmps112
  go_wp2_with fail
  go_loopw [5, 8] (fun _ s8 wr => ∃ i : Nat, i ≤ 2 ∧ s8 = .int .i64 i ∧ Hid (Below w.heap.size w wr) ∧ Hid (0 < i → b = true) ∧ Hid (1 < i → d = true)) (fun _ s8 _ => 2 - (intOf s8).toNat)
  case atStart => exact ⟨0, by omega, rfl, Lib.hid (Below.refl _ _), Lib.hid (fun h => by omega), Lib.hid (fun h => by omega)⟩
  case round =>
    obtain ⟨i, hi2, rfl, HB, HI, HJ⟩ := hrel
    clear c0
    have c0 : wr.cell? ⟨gs, 0, none⟩ = some (.func (.func 79) #[] #[.pointer (some ⟨g4, 0, none⟩)]) := cell_blk (Below.blk HB.out HS.out (lt_of_block HS.out))
    have c1 : wr.cell? ⟨gs, 1, none⟩ = some (.func (.func 80) #[] #[.pointer (some ⟨g5, 0, none⟩)]) := cell_blk (Below.blk HB.out HS.out (lt_of_block HS.out))
    have H1 := Lib.hid (neg_bet1 tk wy ad pt a n c g4 gr lo wr (Below.blk HB.out H4.out (lt_of_block H4.out)) (Below.blk HB.out HR.out (lt_of_block HR.out)))
    have H2 := Lib.hid (neg_bet2 tk wy ad pt a n c g5 gr hi wr (Below.blk HB.out H5.out (lt_of_block H5.out)) (Below.blk HB.out HR.out (lt_of_block HR.out)))
    rw [HBB.out] at H1
    rw [HD.out] at H2
    rcases (by omega : i = 0 ∨ i = 1 ∨ i = 2) with rfl | rfl | rfl
    · go_wp2_with fail
      refine H1.out.mono ?_
      rintro e V ⟨rfl, bv⟩
      have BV := Lib.hid (HB.out.trans (bv.mono HB.out.size))
      clear bv c0 c1
      cases b with
      | false =>
        go_wp2_with fail
        go_ret
        exact ⟨rfl, BV.out⟩
      | true =>
        go_wp2_with fail
        go_roundw
        case rel => exact ⟨1, by omega, rfl, BV, Lib.hid (fun _ => trivial), Lib.hid (fun h => by omega)⟩
        case measure => simp [intOf]
    · have hb1 : b = true := HI.out (by omega)
      subst hb1
      go_wp2_with fail
      refine H2.out.mono ?_
      rintro e V ⟨rfl, bv⟩
      have BV := Lib.hid (HB.out.trans (bv.mono HB.out.size))
      clear bv c0 c1
      cases d with
      | false =>
        go_wp2_with fail
        go_ret
        exact ⟨rfl, BV.out⟩
      | true =>
        go_wp2_with fail
        go_roundw
        case rel => exact ⟨2, by omega, rfl, BV, Lib.hid (fun _ => trivial), Lib.hid (fun _ => trivial)⟩
        case measure => simp [intOf]
    · have hb1 : b = true := HI.out (by omega)
      have hd1 : d = true := HJ.out (by omega)
      subst hb1 hd1
      go_wp2_with fail
      go_ret
      exact ⟨rfl, HB.out⟩
set_option maxHeartbeats 4000000 in
theorem idx1_any (tk wy ad pt : Int) (a : Option Addr) (n c : Nat) (gs g4 gr : Nat) (xa xp : Int) (w : World) (hs : w.heap[gs]? = some (.cells #[.func (.func 81) #[] #[.pointer (some ⟨g4, 0, none⟩)]] 78 (0, 0)))
    (h4 : w.heap[g4]? = some (.cells #[.int .u32 xa, .int .u16 xp] 70 (0, 0))) (hr : w.heap[gr]? = some (.cells #[.int .i64 tk, .int .i64 wy, .int .u32 ad, .int .u16 pt, .slice a n c] 72 (0, 0))) :
    Calls Try.prog 112 #[.slice (some ⟨gs, 0, none⟩) 1 1, .func (.func 107) #[] #[.pointer (some ⟨gr, 0, none⟩)]] w fun e w' => e = .returned (.int .i64 (if decide (ad = xa ∧ pt = xp) = true then -1 else 0)) ∧ Below w.heap.size w w' := by
  have c0 : w.cell? ⟨gs, 0, none⟩ = some (.func (.func 81) #[] #[.pointer (some ⟨g4, 0, none⟩)]) := cell_blk hs
  have HS := Lib.hid hs
  have H4 := Lib.hid h4
  have HR := Lib.hid hr
  obtain ⟨b, hb⟩ : ∃ b, decide (ad = xa ∧ pt = xp) = b := ⟨_, rfl⟩
  have HBB := Lib.hid hb
  rw [hb]
  clear hs h4 hr hb
  go_enter Try.func112, Try.ntmps112
  go_wp2_with fail
  go_loopw [5, 8] (fun _ s8 wr => ∃ i : Nat, i ≤ 1 ∧ s8 = .int .i64 i ∧ Hid (Below w.heap.size w wr) ∧ Hid (0 < i → b = true)) (fun _ s8 _ => 1 - (intOf s8).toNat)
  case atStart => exact ⟨0, by omega, rfl, Lib.hid (Below.refl _ _), Lib.hid (fun h => by omega)⟩
  case round =>
    obtain ⟨i, hi2, rfl, HB, HI⟩ := hrel
    clear c0
    have c0 : wr.cell? ⟨gs, 0, none⟩ = some (.func (.func 81) #[] #[.pointer (some ⟨g4, 0, none⟩)]) := cell_blk (Below.blk HB.out HS.out (lt_of_block HS.out))
    have H1 := Lib.hid (neg_of1 tk wy ad pt a n c g4 gr xa xp wr (Below.blk HB.out H4.out (lt_of_block H4.out)) (Below.blk HB.out HR.out (lt_of_block HR.out)))
    rw [HBB.out] at H1
    rcases (by omega : i = 0 ∨ i = 1) with rfl | rfl
    · go_wp2_with fail
      refine H1.out.mono ?_
      rintro e V ⟨rfl, bv⟩
      have BV := Lib.hid (HB.out.trans (bv.mono HB.out.size))
      clear bv c0
      cases b with
      | false =>
        go_wp2_with fail
        go_ret
        exact ⟨rfl, BV.out⟩
      | true =>
        go_wp2_with fail
        go_roundw
        case rel => exact ⟨1, by omega, rfl, BV, Lib.hid (fun _ => trivial)⟩
        case measure => simp [intOf]
    · have hb1 : b = true := HI.out (by omega)
      subst hb1
      go_wp2_with fail
      go_ret
      exact ⟨rfl, HB.out⟩
set_option maxHeartbeats 2000000 in
theorem cf2_any (tk wy ad pt : Int) (a : Option Addr) (n c : Nat) (gs g4 g5 gr : Nat) (lo hi : Int) (w : World) (hs : w.heap[gs]? = some (.cells #[.func (.func 79) #[] #[.pointer (some ⟨g4, 0, none⟩)], .func (.func 80) #[] #[.pointer (some ⟨g5, 0, none⟩)]] 78 (0, 0)))
    (h4 : w.heap[g4]? = some (.cells #[.int .i64 lo] 2 (0, 0))) (h5 : w.heap[g5]? = some (.cells #[.int .i64 hi] 2 (0, 0))) (hr : w.heap[gr]? = some (.cells #[.int .i64 tk, .int .i64 wy, .int .u32 ad, .int .u16 pt, .slice a n c] 72 (0, 0))) :
    Calls Try.prog 106 #[.slice (some ⟨gs, 0, none⟩) 2 2, .func (.func 107) #[] #[.pointer (some ⟨gr, 0, none⟩)]] w fun e w' => e = .returned (.bool (!(decide (lo ≤ tk) && decide (tk < hi)))) ∧ Below w.heap.size w w' := by
  have H := Lib.hid (idx2_any tk wy ad pt a n c gs g4 g5 gr lo hi w hs h4 h5 hr)
  obtain ⟨b, hb⟩ : ∃ b, decide (lo ≤ tk) = b := ⟨_, rfl⟩
  obtain ⟨d, hd⟩ : ∃ d, decide (tk < hi) = d := ⟨_, rfl⟩
  rw [hb, hd] at H ⊢
  clear hs h4 h5 hr hb hd
  go_enter Try.func106, Try.ntmps106
  go_wp2_with fail
  refine H.out.mono ?_
  rintro e V ⟨rfl, bv⟩
  have BV := Lib.hid bv
  clear bv
  cases b <;> cases d <;> (go_wp2_with fail; go_ret; exact ⟨rfl, BV.out⟩)
set_option maxHeartbeats 2000000 in
theorem cf1_any (tk wy ad pt : Int) (a : Option Addr) (n c : Nat) (gs g4 gr : Nat) (xa xp : Int) (w : World) (hs : w.heap[gs]? = some (.cells #[.func (.func 81) #[] #[.pointer (some ⟨g4, 0, none⟩)]] 78 (0, 0)))
    (h4 : w.heap[g4]? = some (.cells #[.int .u32 xa, .int .u16 xp] 70 (0, 0))) (hr : w.heap[gr]? = some (.cells #[.int .i64 tk, .int .i64 wy, .int .u32 ad, .int .u16 pt, .slice a n c] 72 (0, 0))) :
    Calls Try.prog 106 #[.slice (some ⟨gs, 0, none⟩) 1 1, .func (.func 107) #[] #[.pointer (some ⟨gr, 0, none⟩)]] w fun e w' => e = .returned (.bool (!decide (ad = xa ∧ pt = xp))) ∧ Below w.heap.size w w' := by
  have H := Lib.hid (idx1_any tk wy ad pt a n c gs g4 gr xa xp w hs h4 hr)
  obtain ⟨b, hb⟩ : ∃ b, decide (ad = xa ∧ pt = xp) = b := ⟨_, rfl⟩
  rw [hb] at H ⊢
  clear hs h4 hr hb
  go_enter Try.func106, Try.ntmps106
  go_wp2_with fail
  refine H.out.mono ?_
  rintro e V ⟨rfl, bv⟩
  have BV := Lib.hid bv
  clear bv
  cases b <;> (go_wp2_with fail; go_ret; exact ⟨rfl, BV.out⟩)
end Go.Proofs.Ytdmbdageohjodaa
