/-
  The source of chapter 17: its object, and what each of its functions does.
-/
import Derived.Test.YtkemkplmhjmahaaProg
import Derived.Test.YtkemkplmhjmahaaBase
import Derived.Test.YtkemkplmhjmahaaReads
import Derived.Deep.RegionHeld3
import Derived.BigQuiet
namespace Go.Proofs.Ytkemkplmhjmahaa
open Go.RowKit
set_option linter.unusedVariables false
set_option linter.unusedSimpArgs false

/-- block g is a source: seen, the highest number, turns, the first one, how many came, probation, bad -/
def prb (w : World) (g : Nat) (s : Bool) (h t f c p b : Int) : Prop :=
  w.heap[g]? = some (.cells #[.bool s, .int .u16 h, .int .i64 t, .int .i64 f, .int .i64 c, .int .i64 p, .int .i64 b] 75 (0, 0))
theorem prb.lt {w : World} {g : Nat} {s : Bool} {h t f c p b : Int} (x : prb w g s h t f c p b) : g < w.heap.size := lt_of_block x
structure PrbC (w : World) (g : Nat) (s : Bool) (h t f c p b : Int) : Prop where
  c0 : w.cell? ⟨g, 0, none⟩ = some (.bool s)
  c1 : w.cell? ⟨g, 1, none⟩ = some (.int .u16 h)
  c2 : w.cell? ⟨g, 2, none⟩ = some (.int .i64 t)
  c3 : w.cell? ⟨g, 3, none⟩ = some (.int .i64 f)
  c4 : w.cell? ⟨g, 4, none⟩ = some (.int .i64 c)
  c5 : w.cell? ⟨g, 5, none⟩ = some (.int .i64 p)
  c6 : w.cell? ⟨g, 6, none⟩ = some (.int .i64 b)
  f0 : w.frozen? ⟨g, 0, none⟩ = false
  f1 : w.frozen? ⟨g, 1, none⟩ = false
  f2 : w.frozen? ⟨g, 2, none⟩ = false
  f3 : w.frozen? ⟨g, 3, none⟩ = false
  f4 : w.frozen? ⟨g, 4, none⟩ = false
  f5 : w.frozen? ⟨g, 5, none⟩ = false
  f6 : w.frozen? ⟨g, 6, none⟩ = false
theorem prb.all {w : World} {g : Nat} {s : Bool} {h t f c p b : Int} (x : prb w g s h t f c p b) : PrbC w g s h t f c p b :=
  ⟨cell_blk x, cell_blk x, cell_blk x, cell_blk x, cell_blk x, cell_blk x, cell_blk x, free_blk x, free_blk x, free_blk x, free_blk x, free_blk x, free_blk x, free_blk x⟩

theorem prb_set {w : World} {g : Nat} {s : Bool} {h t f c p b : Int} (hg : prb w g s h t f c p b) (s' : Bool) (h' t' f' c' p' b' : Int) :
    prb (((((((w.setCell ⟨g, 0, none⟩ (.bool s')).setCell ⟨g, 1, none⟩ (.int .u16 h')).setCell ⟨g, 2, none⟩ (.int .i64 t')).setCell ⟨g, 3, none⟩ (.int .i64 f')).setCell ⟨g, 4, none⟩ (.int .i64 c')).setCell ⟨g, 5, none⟩ (.int .i64 p')).setCell ⟨g, 6, none⟩ (.int .i64 b')) g s' h' t' f' c' p' b' := by
  unfold prb at hg ⊢; simp [heap_set, hg, putIn]
theorem began_any (x : Int) (w : World) (h0 : 0 ≤ x) (h1 : x ≤ 65535) :
    Calls Try.prog 55 #[.int .u16 x] w fun e w' => e = .returned (.agg #[.bool true, .int .u16 x, .int .i64 0, .int .i64 x, .int .i64 1, .int .i64 0, .int .i64 65536]) ∧ Below w.heap.size w w' := by
  go_enter Try.func55, Try.ntmps55
  go_wp2_with fail
  go_returns
  exact ⟨rfl, by (repeat (first | exact Below.refl _ _ | refine Below.alloc ?_ (by first | (simp; done) | (simp; omega) | (simp [size_drewN]; done) | (simp [size_drewN]; omega)) _ | refine Below.drew ?_ | refine below_drewN0 ?_ _ | refine Below.setCell ?_ (by first | (simp; done) | (simp; omega) | (simp [size_drewN]; done) | (simp [size_drewN]; omega)) _))⟩

theorem try_no (g : Nat) (x : Int) (s : Bool) (h t f c p b : Int) (w : World) (hg : prb w g s h t f c p b) (hn : ¬ x = (h + 1) % 65536) :
    Calls Try.prog 54 #[.pointer (some ⟨g, 0, none⟩), .int .u16 x] w fun e w' => e = .returned (.bool false) ∧ prb w' g s x t f c 1 b ∧ Keeps g w w' := by
  obtain ⟨c0, c1, c2, c3, c4, c5, c6, f0, f1, f2, f3, f4, f5, f6⟩ := hg.all
  have e1 : (x == IntKind.u16.wrap (h + 1)) = false := by rw [IntKind.wrap_u16]; simpa using hn
  have e2 : (x != IntKind.u16.wrap (h + 1)) = true := by rw [bne, e1]; rfl
  clear hn
  go_enter Try.func54, Try.ntmps54
  go_wp2_with fail
  go_returns
  refine ⟨rfl, ?_, by (repeat (first | exact Keeps.refl _ _ | exact hkk | refine Keeps.alloc ?_ _ | refine Keeps.drew ?_ | refine Keeps.drewN ?_ _ | refine Keeps.setCell ?_ (by first | (left; rfl) | (right; first | (simp; done) | (simp; omega) | (simp [size_drewN]; done) | (simp [size_drewN]; omega))) _))⟩
  unfold prb at hg ⊢
  simp [heap_set, hg, putIn]
theorem try_on (g : Nat) (x : Int) (s : Bool) (h t f c b : Int) (w : World) (hg : prb w g s h t f c 2 b) (hn : Hid (x = (h + 1) % 65536)) :
    Calls Try.prog 54 #[.pointer (some ⟨g, 0, none⟩), .int .u16 x] w fun e w' => e = .returned (.bool false) ∧ prb w' g s x t f c 1 b ∧ Keeps g w w' := by
  obtain ⟨c0, c1, c2, c3, c4, c5, c6, f0, f1, f2, f3, f4, f5, f6⟩ := hg.all
  have e1 : IntKind.u16.wrap (h + 1) = x := by rw [IntKind.wrap_u16, hn.out]
  have e2 : (x != x) = false := by simp
  go_enter Try.func54, Try.ntmps54
  go_wp2_with fail
  go_returns
  refine ⟨rfl, ?_, by (repeat (first | exact Keeps.refl _ _ | exact hkk | refine Keeps.alloc ?_ _ | refine Keeps.drew ?_ | refine Keeps.drewN ?_ _ | refine Keeps.setCell ?_ (by first | (left; rfl) | (right; first | (simp; done) | (simp; omega) | (simp [size_drewN]; done) | (simp [size_drewN]; omega))) _))⟩
  unfold prb at hg ⊢
  simp [heap_set, hg, putIn]
theorem try_yes (g : Nat) (x : Int) (s : Bool) (h t f c b : Int) (w : World) (hg : prb w g s h t f c 1 b) (hn : Hid (x = (h + 1) % 65536)) (h0 : 0 ≤ x) (h1 : x ≤ 65535) :
    Calls Try.prog 54 #[.pointer (some ⟨g, 0, none⟩), .int .u16 x] w fun e w' => e = .returned (.bool true) ∧ prb w' g true x 0 x 1 0 65536 ∧ Keeps g w w' := by
  obtain ⟨c0, c1, c2, c3, c4, c5, c6, f0, f1, f2, f3, f4, f5, f6⟩ := hg.all
  have e1 : IntKind.u16.wrap (h + 1) = x := by rw [IntKind.wrap_u16, hn.out]
  have e2 : (x != x) = false := by simp
  go_enter Try.func54, Try.ntmps54
  go_wp2_with fail
  have hg2 : prb ((w.setCell ⟨g, 5, none⟩ (.int .i64 0)).setCell ⟨g, 1, none⟩ (.int .u16 x)) g s x t f c 0 b := by unfold prb at hg ⊢; simp [heap_set, hg, putIn]
  have k2 : Keeps g w ((w.setCell ⟨g, 5, none⟩ (.int .i64 0)).setCell ⟨g, 1, none⟩ (.int .u16 x)) := by (repeat (first | exact Keeps.refl _ _ | exact hkk | refine Keeps.alloc ?_ _ | refine Keeps.drew ?_ | refine Keeps.drewN ?_ _ | refine Keeps.setCell ?_ (by first | (left; rfl) | (right; first | (simp; done) | (simp; omega) | (simp [size_drewN]; done) | (simp [size_drewN]; omega))) _))
  generalize ((w.setCell ⟨g, 5, none⟩ (.int .i64 0)).setCell ⟨g, 1, none⟩ (.int .u16 x)) = W at *
  refine (began_any x _ h0 h1).mono ?_
  rintro e w1 ⟨rfl, b1⟩
  have g1 : prb w1 g s x t f c 0 b := Below.blk b1 hg2 hg2.lt
  have k1 : Keeps g w w1 := k2.of_below b1
  clear c0 c1 c2 c3 c4 c5 c6 f0 f1 f2 f3 f4 f5 f6 hg hg2 k2 b1
  obtain ⟨c0, c1, c2, c3, c4, c5, c6, f0, f1, f2, f3, f4, f5, f6⟩ := g1.all
  go_wp2_with fail
  go_returns
  refine ⟨rfl, ?_, by (iterate 7 (refine Keeps.setCell ?_ (by left; rfl) _)); exact k1⟩
  unfold prb at g1 ⊢
  simp [heap_set, g1, putIn]

/-- one that has had nothing -/
theorem take_first (g : Nat) (x : Int) (w : World) (hg : prb w g false 0 0 0 0 0 0) (h0 : 0 ≤ x) (h1 : x ≤ 65535) :
    Calls Try.prog 43 #[.pointer (some ⟨g, 0, none⟩), .int .u16 x] w fun e w' => e = .returned (.bool false) ∧ prb w' g true x 0 0 0 1 65536 ∧ Keeps g w w' := by
  obtain ⟨c0, c1, c2, c3, c4, c5, c6, f0, f1, f2, f3, f4, f5, f6⟩ := hg.all
  go_enter Try.func43, Try.ntmps43
  go_wp2_with fail
  have hg2 : prb (((((((w.setCell ⟨g, 0, none⟩ (.bool true)).setCell ⟨g, 1, none⟩ (.int .u16 (IntKind.u16.wrap (x - 1)))).setCell ⟨g, 2, none⟩ (.int .i64 0)).setCell ⟨g, 3, none⟩ (.int .i64 0)).setCell ⟨g, 4, none⟩ (.int .i64 0)).setCell ⟨g, 5, none⟩ (.int .i64 2)).setCell ⟨g, 6, none⟩ (.int .i64 65536)) g true (IntKind.u16.wrap (x - 1)) 0 0 0 2 65536 := prb_set hg _ _ _ _ _ _ _
  have k2 : Keeps g w (((((((w.setCell ⟨g, 0, none⟩ (.bool true)).setCell ⟨g, 1, none⟩ (.int .u16 (IntKind.u16.wrap (x - 1)))).setCell ⟨g, 2, none⟩ (.int .i64 0)).setCell ⟨g, 3, none⟩ (.int .i64 0)).setCell ⟨g, 4, none⟩ (.int .i64 0)).setCell ⟨g, 5, none⟩ (.int .i64 2)).setCell ⟨g, 6, none⟩ (.int .i64 65536)) := by (iterate 7 (refine Keeps.setCell ?_ (by left; rfl) _)); exact Keeps.refl _ _
  generalize (((((((w.setCell ⟨g, 0, none⟩ (.bool true)).setCell ⟨g, 1, none⟩ (.int .u16 (IntKind.u16.wrap (x - 1)))).setCell ⟨g, 2, none⟩ (.int .i64 0)).setCell ⟨g, 3, none⟩ (.int .i64 0)).setCell ⟨g, 4, none⟩ (.int .i64 0)).setCell ⟨g, 5, none⟩ (.int .i64 2)).setCell ⟨g, 6, none⟩ (.int .i64 65536)) = V at *
  refine (try_on g x _ _ _ _ _ _ _ hg2 (Lib.hid (by simp only [IntKind.wrap_u16]; omega))).mono ?_
  rintro e w1 ⟨rfl, g1, k1⟩
  have k3 := Keeps.trans k2 k1
  clear c0 c1 c2 c3 c4 c5 c6 f0 f1 f2 f3 f4 f5 f6 hg hg2 k1 k2
  go_wp2_with fail
  go_ret
  exact ⟨rfl, g1, k3⟩
/-- in probation -/
theorem take_try (g : Nat) (x h t f c b : Int) (w : World) (hg : prb w g true h t f c 1 b) (hn : Hid (x = (h + 1) % 65536)) (h0 : 0 ≤ x) (h1 : x ≤ 65535) :
    Calls Try.prog 43 #[.pointer (some ⟨g, 0, none⟩), .int .u16 x] w fun e w' => e = .returned (.bool true) ∧ prb w' g true x 0 x 1 0 65536 ∧ Keeps g w w' := by
  obtain ⟨c0, c1, c2, c3, c4, c5, c6, f0, f1, f2, f3, f4, f5, f6⟩ := hg.all
  go_enter Try.func43, Try.ntmps43
  go_wp2_with fail
  refine (try_yes g x true h t f c b _ hg hn h0 h1).mono ?_
  rintro e w1 ⟨rfl, g1, k1⟩
  go_wp2_with fail
  go_ret
  exact ⟨rfl, g1, k1⟩
/-- ahead, a little -/
def up1 (x h t : Int) : Int := bif decide (x < h) then t + 1 else t
theorem take_near (g : Nat) (x h t f c b : Int) (w : World) (hg : prb w g true h t f c 0 b) (hd : (x - h) % 65536 < 3000) (ht : 0 ≤ t ∧ t < 9223372036854775807) (hc : 0 ≤ c ∧ c < 9223372036854775807) :
    Calls Try.prog 43 #[.pointer (some ⟨g, 0, none⟩), .int .u16 x] w fun e w' => e = .returned (.bool true) ∧ prb w' g true x (up1 x h t) f (c + 1) 0 b ∧ Keeps g w w' := by
  obtain ⟨c0, c1, c2, c3, c4, c5, c6, f0, f1, f2, f3, f4, f5, f6⟩ := hg.all
  have e1 : decide (IntKind.u16.wrap (x - h) < 3000) = true := by rw [IntKind.wrap_u16]; simpa using hd
  have hd0 := Int.emod_nonneg (x - h) (show (65536 : Int) ≠ 0 by decide)
  obtain ⟨d, hd1, hd2, hd3⟩ : ∃ d, IntKind.u16.wrap (x - h) = d ∧ 0 ≤ d ∧ d < 3000 := ⟨_, IntKind.wrap_u16 _, hd0, hd⟩
  have e3 : decide (d < 3000) = true := by simpa using hd3
  clear e1 hd hd0
  by_cases hx : x < h
  · have e2 : decide (x < h) = true := by simpa using hx
    have E := Lib.hid (show up1 x h t = t + 1 by unfold up1; rw [e2]; rfl)
    go_enter Try.func43, Try.ntmps43
    go_wp2_with fail
    go_ret
    refine ⟨rfl, ?_, by (repeat (first | exact Keeps.refl _ _ | exact hkk | refine Keeps.alloc ?_ _ | refine Keeps.drew ?_ | refine Keeps.drewN ?_ _ | refine Keeps.setCell ?_ (by first | (left; rfl) | (right; first | (simp; done) | (simp; omega) | (simp [size_drewN]; done) | (simp [size_drewN]; omega))) _))⟩
    rw [E.out]
    unfold prb at hg ⊢
    simp [heap_set, hg, putIn]
  · have e2 : decide (x < h) = false := by simpa using hx
    have E := Lib.hid (show up1 x h t = t by unfold up1; rw [e2]; rfl)
    go_enter Try.func43, Try.ntmps43
    go_wp2_with fail
    go_ret
    refine ⟨rfl, ?_, by (repeat (first | exact Keeps.refl _ _ | exact hkk | refine Keeps.alloc ?_ _ | refine Keeps.drew ?_ | refine Keeps.drewN ?_ _ | refine Keeps.setCell ?_ (by first | (left; rfl) | (right; first | (simp; done) | (simp; omega) | (simp [size_drewN]; done) | (simp [size_drewN]; omega))) _))⟩
    rw [E.out]
    unfold prb at hg ⊢
    simp [heap_set, hg, putIn]
/-- behind, a little -/
theorem take_late (g : Nat) (x h t f c b : Int) (w : World) (hg : prb w g true h t f c 0 b) (hd : 65436 < (x - h) % 65536) (hc : 0 ≤ c ∧ c < 9223372036854775807) :
    Calls Try.prog 43 #[.pointer (some ⟨g, 0, none⟩), .int .u16 x] w fun e w' => e = .returned (.bool true) ∧ prb w' g true h t f (c + 1) 0 b ∧ Keeps g w w' := by
  obtain ⟨c0, c1, c2, c3, c4, c5, c6, f0, f1, f2, f3, f4, f5, f6⟩ := hg.all
  obtain ⟨d, hd1, hd2, hd3⟩ : ∃ d, IntKind.u16.wrap (x - h) = d ∧ 65436 < d ∧ d ≤ 65535 := ⟨_, IntKind.wrap_u16 _, hd, by omega⟩
  have e3 : decide (d < 3000) = false := by simp; omega
  have e4 : decide (d ≤ 65436) = false := by simp; omega
  clear hd
  go_enter Try.func43, Try.ntmps43
  go_wp2_with fail
  go_ret
  refine ⟨rfl, ?_, by (repeat (first | exact Keeps.refl _ _ | exact hkk | refine Keeps.alloc ?_ _ | refine Keeps.drew ?_ | refine Keeps.drewN ?_ _ | refine Keeps.setCell ?_ (by first | (left; rfl) | (right; first | (simp; done) | (simp; omega) | (simp [size_drewN]; done) | (simp [size_drewN]; omega))) _))⟩
  unfold prb at hg ⊢
  simp [heap_set, hg, putIn]
/-- far, not yet right behind the one that was far -/
theorem take_far (g : Nat) (x h t f c b : Int) (w : World) (hg : prb w g true h t f c 0 b) (hd : 3000 ≤ (x - h) % 65536) (hd' : (x - h) % 65536 ≤ 65436) (hb : ¬ x = b) (h0 : 0 ≤ x) (h1 : x ≤ 65535) :
    Calls Try.prog 43 #[.pointer (some ⟨g, 0, none⟩), .int .u16 x] w fun e w' => e = .returned (.bool false) ∧ prb w' g true h t f c 0 ((x + 1) % 65536) ∧ Keeps g w w' := by
  obtain ⟨c0, c1, c2, c3, c4, c5, c6, f0, f1, f2, f3, f4, f5, f6⟩ := hg.all
  obtain ⟨d, hd1, hd2, hd3⟩ : ∃ d, IntKind.u16.wrap (x - h) = d ∧ 3000 ≤ d ∧ d ≤ 65436 := ⟨_, IntKind.wrap_u16 _, hd, hd'⟩
  have e3 : decide (d < 3000) = false := by simp; omega
  have e4 : decide (d ≤ 65436) = true := by simp; omega
  have e5 : (x != b) = true := by simp; omega
  have e6 : (x == b) = false := by simp; omega
  obtain ⟨y, hy1, hy2, hy3, HY⟩ : ∃ y, IntKind.u16.wrap (x + 1) = y ∧ 0 ≤ y ∧ y ≤ 65535 ∧ Hid ((x + 1) % 65536 = y) := ⟨_, IntKind.wrap_u16 _, by omega, by omega, Lib.hid rfl⟩
  rw [HY.out]
  clear hd hd' hb
  go_enter Try.func43, Try.ntmps43
  go_wp2_with fail
  go_ret
  refine ⟨rfl, ?_, by (repeat (first | exact Keeps.refl _ _ | exact hkk | refine Keeps.alloc ?_ _ | refine Keeps.drew ?_ | refine Keeps.drewN ?_ _ | refine Keeps.setCell ?_ (by first | (left; rfl) | (right; first | (simp; done) | (simp; omega) | (simp [size_drewN]; done) | (simp [size_drewN]; omega))) _))⟩
  unfold prb at hg ⊢
  simp [heap_set, hg, putIn]
theorem take_again (g : Nat) (x h t f c : Int) (w : World) (hg : prb w g true h t f c 0 x) (hd : 3000 ≤ (x - h) % 65536) (hd' : (x - h) % 65536 ≤ 65436) (h0 : 0 ≤ x) (h1 : x ≤ 65535) :
    Calls Try.prog 43 #[.pointer (some ⟨g, 0, none⟩), .int .u16 x] w fun e w' => e = .returned (.bool true) ∧ prb w' g true x 0 x 1 0 65536 ∧ Keeps g w w' := by
  obtain ⟨c0, c1, c2, c3, c4, c5, c6, f0, f1, f2, f3, f4, f5, f6⟩ := hg.all
  obtain ⟨d, hd1, hd2, hd3⟩ : ∃ d, IntKind.u16.wrap (x - h) = d ∧ 3000 ≤ d ∧ d ≤ 65436 := ⟨_, IntKind.wrap_u16 _, hd, hd'⟩
  have e3 : decide (d < 3000) = false := by simp; omega
  have e4 : decide (d ≤ 65436) = true := by simp; omega
  have e5 : (x != x) = false := by simp
  clear hd hd'
  go_enter Try.func43, Try.ntmps43
  go_wp2_with fail
  refine (began_any x _ h0 h1).mono ?_
  rintro e w1 ⟨rfl, b1⟩
  have g1 : prb w1 g true h t f c 0 x := Below.blk b1 hg hg.lt
  have k1 : Keeps g w w1 := Below.nothing b1 g
  clear c0 c1 c2 c3 c4 c5 c6 f0 f1 f2 f3 f4 f5 f6 hg b1
  obtain ⟨c0, c1, c2, c3, c4, c5, c6, f0, f1, f2, f3, f4, f5, f6⟩ := g1.all
  go_wp2_with fail
  go_ret
  refine ⟨rfl, ?_, by (iterate 7 (refine Keeps.setCell ?_ (by left; rfl) _)); exact k1⟩
  unfold prb at g1 ⊢
  simp [heap_set, g1, putIn]
theorem ptop_any (g : Nat) (s : Bool) (h t f c p b : Int) (w : World) (hg : prb w g s h t f c p b) (ht : 0 ≤ t ∧ t ≤ 1000000) (hh : 0 ≤ h ∧ h ≤ 65535) :
    Calls Try.prog 57 #[.pointer (some ⟨g, 0, none⟩)] w fun e w' => e = .returned (.int .i64 (t * 65536 + h)) ∧ ∃ n, w' = w.drewN n := by
  obtain ⟨c0, c1, c2, c3, c4, c5, c6, f0, f1, f2, f3, f4, f5, f6⟩ := hg.all
  go_enter Try.func57, Try.ntmps57
  go_wp2_with fail
  go_quiet (fail)
  go_wp2_with fail
  go_ret
  exact ⟨rfl, _, rfl⟩
theorem pvalid_any (g : Nat) (h t f c b : Int) (w : World) (hg : prb w g true h t f c 0 b) :
    Calls Try.prog 56 #[.pointer (some ⟨g, 0, none⟩)] w fun e w' => e = .returned (.bool true) ∧ w = w' := by
  obtain ⟨c0, c1, c2, c3, c4, c5, c6, f0, f1, f2, f3, f4, f5, f6⟩ := hg.all
  go_enter Try.func56, Try.ntmps56
  go_wp2_with fail
  go_ret
  exact ⟨rfl, rfl⟩
end Go.Proofs.Ytkemkplmhjmahaa
