/-
  Start and High of the writer of chapter 22; the walks of RewriteOrder and RewriteAbove.
-/
import Derived.Test.YtkdjkaimcciemaaRewMap
import Derived.Deep.QuietTactic
import Derived.BigQuiet
namespace Go.Proofs.Ytkdjkaimcciemaa
open Go.RowKit
set_option linter.unusedVariables false
set_option linter.unusedSimpArgs false

set_option maxRecDepth 100000 in
set_option maxHeartbeats 2000000 in
theorem start_zero (g : Nat) (f x : Int) (w : World) (hg : wrt w g f false 0 0 0 0 0 0 false 0 0 0) :
    Calls Try.prog 40 #[.pointer (some ⟨g, 0, none⟩), .int .i64 x] w fun e w' => e = .returned (.tuple #[]) ∧ wrt w' g (bif decide (0 ≤ x) then x else f) false 0 0 0 0 0 0 false 0 0 0 ∧ Keeps g w w' := by
  have i0 : w.cell? ⟨g, 0, none⟩ = some (.int .i64 f) := cell_blk hg
  have i1 : w.cell? ⟨g, 1, none⟩ = some (.bool false) := cell_blk hg
  have i2 : w.cell? ⟨g, 2, none⟩ = some (.int .i64 0) := cell_blk hg
  have i3 : w.cell? ⟨g, 3, none⟩ = some (.int .u32 0) := cell_blk hg
  have i4 : w.cell? ⟨g, 4, none⟩ = some (.int .u16 0) := cell_blk hg
  have i5 : w.cell? ⟨g, 5, none⟩ = some (.int .i64 0) := cell_blk hg
  have i6 : w.cell? ⟨g, 6, none⟩ = some (.int .u32 0) := cell_blk hg
  have i7 : w.cell? ⟨g, 7, none⟩ = some (.int .u16 0) := cell_blk hg
  have i8 : w.cell? ⟨g, 8, none⟩ = some (.bool false) := cell_blk hg
  have i9 : w.cell? ⟨g, 9, none⟩ = some (.int .i64 0) := cell_blk hg
  have i10 : w.cell? ⟨g, 10, none⟩ = some (.int .u32 0) := cell_blk hg
  have i11 : w.cell? ⟨g, 11, none⟩ = some (.int .u16 0) := cell_blk hg
  have j0 : w.frozen? ⟨g, 0, none⟩ = false := free_blk hg
  by_cases hx : 0 ≤ x
  · have t1 : decide (0 ≤ x) = true := by simpa using hx
    rw [t1]
    go_enter Try.func40, Try.ntmps40
    go_wp2_with fail
    go_quiet (fail)
    go_wp2_with fail
    go_returns
    refine ⟨rfl, ?_, by (repeat (first | exact Keeps.refl _ _ | exact hkk | refine Keeps.alloc ?_ _ | refine Keeps.drew ?_ | refine Keeps.drewN ?_ _ | refine Keeps.setCell ?_ (by first | (left; rfl) | (right; first | (simp; done) | (simp; omega) | (simp [size_drewN]; done) | (simp [size_drewN]; omega))) _))⟩
    unfold wrt at hg ⊢
    simp [heap_drewN, heap_set, hg, putIn]
  · have t1 : decide (0 ≤ x) = false := by simpa using hx
    rw [t1]
    go_enter Try.func40, Try.ntmps40
    go_wp2_with fail
    go_quiet (fail)
    go_wp2_with fail
    go_returns
    exact ⟨rfl, hg, by (repeat (first | exact Keeps.refl _ _ | exact hkk | refine Keeps.alloc ?_ _ | refine Keeps.drew ?_ | refine Keeps.drewN ?_ _ | refine Keeps.setCell ?_ (by first | (left; rfl) | (right; first | (simp; done) | (simp; omega) | (simp [size_drewN]; done) | (simp [size_drewN]; omega))) _))⟩

set_option maxRecDepth 100000 in
set_option maxHeartbeats 2000000 in
theorem start_not (g : Nat) (f x : Int) (a1 a2 a3 b1 b2 b3 : Int) (o : Bool) (c1 c2 c3 : Int) (w : World) (hg : wrt w g f true a1 a2 a3 b1 b2 b3 o c1 c2 c3) (hx : 0 ≤ x) :
    Calls Try.prog 40 #[.pointer (some ⟨g, 0, none⟩), .int .i64 x] w fun e w' => e = .returned (.tuple #[]) ∧ ∃ n, w' = w.drewN n := by
  have i0 : w.cell? ⟨g, 0, none⟩ = some (.int .i64 f) := cell_blk hg
  have i1 : w.cell? ⟨g, 1, none⟩ = some (.bool true) := cell_blk hg
  have i2 : w.cell? ⟨g, 2, none⟩ = some (.int .i64 a1) := cell_blk hg
  have i3 : w.cell? ⟨g, 3, none⟩ = some (.int .u32 a2) := cell_blk hg
  have i4 : w.cell? ⟨g, 4, none⟩ = some (.int .u16 a3) := cell_blk hg
  have i5 : w.cell? ⟨g, 5, none⟩ = some (.int .i64 b1) := cell_blk hg
  have i6 : w.cell? ⟨g, 6, none⟩ = some (.int .u32 b2) := cell_blk hg
  have i7 : w.cell? ⟨g, 7, none⟩ = some (.int .u16 b3) := cell_blk hg
  have i8 : w.cell? ⟨g, 8, none⟩ = some (.bool o) := cell_blk hg
  have i9 : w.cell? ⟨g, 9, none⟩ = some (.int .i64 c1) := cell_blk hg
  have i10 : w.cell? ⟨g, 10, none⟩ = some (.int .u32 c2) := cell_blk hg
  have i11 : w.cell? ⟨g, 11, none⟩ = some (.int .u16 c3) := cell_blk hg
  have t1 : decide (0 ≤ x) = true := by simpa using hx
  go_enter Try.func40, Try.ntmps40
  go_wp2_with fail
  go_quiet (fail)
  go_wp2_with fail
  go_returns
  exact ⟨rfl, _, rfl⟩

theorem rhigh_any (g : Nat) (f : Int) (fo : Bool) (a1 a2 a3 b1 b2 b3 : Int) (o : Bool) (c1 c2 c3 : Int) (w : World) (hg : wrt w g f fo a1 a2 a3 b1 b2 b3 o c1 c2 c3) :
    Calls Try.prog 43 #[.pointer (some ⟨g, 0, none⟩)] w fun e w' => e = .returned (.int .i64 (bif o then c1 else -1)) ∧ w = w' := by
  have i8 : w.cell? ⟨g, 8, none⟩ = some (.bool o) := cell_blk hg
  have i9 : w.cell? ⟨g, 9, none⟩ = some (.int .i64 c1) := cell_blk hg
  cases o
  all_goals
    go_enter Try.func43, Try.ntmps43
    go_wp2
    go_ret
    exact ⟨rfl, rfl⟩

/-- Map, where it is refused -/
theorem map_state (g : Nat) (f : Int) (fo : Bool) (a1 a2 a3 b1 b2 b3 : Int) (o : Bool) (c1 c2 c3 x1 x2 x3 : Int) (w : World) (hg : wrt w g f fo a1 a2 a3 b1 b2 b3 o c1 c2 c3) (h : fo = false ∨ x1 < 0) :
    Calls Try.prog 39 #[.pointer (some ⟨g, 0, none⟩), mapped x1 x2 x3] w fun e w' => e = .returned (.tuple #[mapped 0 0 0, .int .i64 10]) ∧ Below w.heap.size w w' := by
  unfold mapped
  have i1 : w.cell? ⟨g, 1, none⟩ = some (.bool fo) := cell_blk hg
  have hl : g < w.heap.size := hg.lt
  have hn : w.heap.size ≠ g := Nat.ne_of_gt hg.lt
  have hn1 : w.heap.size + 1 ≠ g := by have := hg.lt; omega
  by_cases hx : x1 < 0
  · cases fo
    all_goals
      go_enter Try.func39, Try.ntmps39
      go_wp2_with fail
      go_returns
      exact ⟨rfl, by (repeat (first | exact Below.refl _ _ | refine Below.alloc ?_ (by first | (simp; done) | (simp; omega) | (simp [size_drewN]; done) | (simp [size_drewN]; omega)) _ | refine Below.drew ?_ | refine below_drewN0 ?_ _ | refine Below.setCell ?_ (by first | (simp; done) | (simp; omega) | (simp [size_drewN]; done) | (simp [size_drewN]; omega)) _))⟩
  · have hf : fo = false := by rcases h with h | h; exact h; omega
    subst hf
    go_enter Try.func39, Try.ntmps39
    go_wp2_with fail
    go_returns
    exact ⟨rfl, by (repeat (first | exact Below.refl _ _ | refine Below.alloc ?_ (by first | (simp; done) | (simp; omega) | (simp [size_drewN]; done) | (simp [size_drewN]; omega)) _ | refine Below.drew ?_ | refine below_drewN0 ?_ _ | refine Below.setCell ?_ (by first | (simp; done) | (simp; omega) | (simp [size_drewN]; done) | (simp [size_drewN]; omega)) _))⟩
set_option maxHeartbeats 1000000 in
theorem map_old (g : Nat) (f : Int) (a1 a2 a3 b1 b2 b3 : Int) (o : Bool) (c1 c2 c3 x1 x2 x3 : Int) (w : World) (hg : wrt w g f true a1 a2 a3 b1 b2 b3 o c1 c2 c3) (h : 0 ≤ x1) (h2 : x1 < a1) :
    Calls Try.prog 39 #[.pointer (some ⟨g, 0, none⟩), mapped x1 x2 x3] w fun e w' => e = .returned (.tuple #[mapped 0 0 0, .int .i64 5]) ∧ Below w.heap.size w w' := by
  unfold mapped
  have i1 : w.cell? ⟨g, 1, none⟩ = some (.bool true) := cell_blk hg
  have i2 : w.cell? ⟨g, 2, none⟩ = some (.int .i64 a1) := cell_blk hg
  have hl : g < w.heap.size := hg.lt
  have hn : w.heap.size ≠ g := Nat.ne_of_gt hg.lt
  have hn1 : w.heap.size + 1 ≠ g := by have := hg.lt; omega
  have e0 : decide (x1 < 0) = false := by simp; omega
  have e1 : decide (x1 < a1) = true := by simp; omega
  go_enter Try.func39, Try.ntmps39
  go_wp2_with fail
  go_quiet (fail)
  go_wp2_with fail
  go_returns
  exact ⟨rfl, by (repeat (first | exact Below.refl _ _ | refine Below.alloc ?_ (by first | (simp; done) | (simp; omega) | (simp [size_drewN]; done) | (simp [size_drewN]; omega)) _ | refine Below.drew ?_ | refine below_drewN0 ?_ _ | refine Below.setCell ?_ (by first | (simp; done) | (simp; omega) | (simp [size_drewN]; done) | (simp [size_drewN]; omega)) _))⟩
theorem follow_no (g : Nat) (x1 x2 x3 : Int) (w : World) (h : x1 < 0) :
    Calls Try.prog 38 #[.pointer (some ⟨g, 0, none⟩), mapped x1 x2 x3] w fun e w' => e = .returned (.int .i64 10) ∧ Below w.heap.size w w' := by
  unfold mapped
  go_enter Try.func38, Try.ntmps38
  go_wp2_with fail
  go_returns
  exact ⟨rfl, by (repeat (first | exact Below.refl _ _ | refine Below.alloc ?_ (by first | (simp; done) | (simp; omega) | (simp [size_drewN]; done) | (simp [size_drewN]; omega)) _ | refine Below.drew ?_ | refine below_drewN0 ?_ _ | refine Below.setCell ?_ (by first | (simp; done) | (simp; omega) | (simp [size_drewN]; done) | (simp [size_drewN]; omega)) _))⟩

theorem cell_alloc {w : World} {b i : Nat} {v : Value} (h : w.cell? ⟨b, i, none⟩ = some v) (x : Obj) : (w.alloc x).cell? ⟨b, i, none⟩ = some v := by
  rw [World.cell?_of_block (w := w) (Below.heap_alloc _ _ _ (World.block_lt_of_cell? _ _ h))]; exact h
theorem wrt_new (w : World) : wrt (w.alloc (.cells #[.int .i64 0, .bool false, .int .i64 0, .int .u32 0, .int .u16 0, .int .i64 0, .int .u32 0, .int .u16 0, .bool false, .int .i64 0, .int .u32 0, .int .u16 0] 70)) w.heap.size 0 false 0 0 0 0 0 0 false 0 0 0 := by
  unfold wrt; rw [heap_alloc, if_pos rfl]
theorem wrt_alloc {w : World} {g : Nat} {f : Int} {fo : Bool} {a1 a2 a3 b1 b2 b3 : Int} {o : Bool} {c1 c2 c3 : Int} (h : wrt w g f fo a1 a2 a3 b1 b2 b3 o c1 c2 c3) (x : Obj) : wrt (w.alloc x) g f fo a1 a2 a3 b1 b2 b3 o c1 c2 c3 :=
  (Below.heap_alloc _ _ _ h.lt).trans h
set_option maxHeartbeats 2000000 in
set_option maxRecDepth 100000 in
theorem alive22_any (w : World) : Calls Try.prog 37 #[] w fun e w' => e = .returned (.bool true) ∧ Below w.heap.size w w' := by
  go_enter Try.func37, Try.ntmps37
  go_wp2_with fail
  refine (start_zero _ 0 100 _ (wrt_new w)).mono ?_
  rintro e w1 ⟨rfl, g1', k1⟩
  have g1 : wrt w1 w.heap.size 100 false 0 0 0 0 0 0 false 0 0 0 := g1'
  have b1 : Below w.heap.size w w1 := Below.keeps ((Below.refl _ _).alloc (Nat.le_refl _) _) (by simp) (Nat.le_refl _) k1
  clear g1' k1
  go_wp2_with fail
  refine (follow_any _ _ _ _ _ _ _ _ _ _ _ _ _ 7 0 0 _ g1 (by decide) (by decide) (by decide)).mono ?_
  rintro e w2 ⟨rfl, g2', k2⟩
  have g2 : wrt w2 w.heap.size 100 true 7 0 0 100 0 0 false 0 0 0 := g2'
  have b2 := Below.keeps b1 b1.size (Nat.le_refl _) k2
  clear g2' k2 g1 b1
  go_wp2_with fail
  refine (map_any _ _ _ _ _ _ _ _ _ _ _ _ 7 0 0 _ g2 (by decide) (by decide) (by decide)).mono ?_
  rintro e w3 ⟨rfl, g3', k3⟩
  have g3 : wrt w3 w.heap.size 100 true 7 0 0 100 0 0 true 100 0 0 := g3'
  have b3 := Below.keeps b2 b2.size (Nat.le_refl _) k3
  clear g3' k3 g2 b2
  rw [show mapped (my1 7 100 7) (my2 0 0 0) (my3 0 0 0) = mapped 100 0 0 from rfl]
  unfold mapped
  go_wp2_with fail
  refine (map_any _ _ _ _ _ _ _ _ _ _ _ _ 9 0 0 _ (wrt_alloc g3 _) (by decide) (by decide) (by decide)).mono ?_
  rintro e w4 ⟨rfl, g4', k4⟩
  have g4 : wrt w4 w.heap.size 100 true 7 0 0 100 0 0 true 102 0 0 := g4'
  have b4 := Below.keeps (b3.alloc b3.size _) (by have := b3.size; simp; omega) (Nat.le_refl _) k4
  have c0 : w4.cell? ⟨w3.heap.size, 0, none⟩ = some (.int .i64 100) := cell_blk (k4.blk alloc_blk_new (by have := g3.lt; omega))
  clear g4' k4
  rw [show mapped (my1 7 100 9) (my2 0 0 0) (my3 0 0 0) = mapped 102 0 0 from rfl]
  unfold mapped
  go_wp2_with fail
  refine (follow_any _ _ _ _ _ _ _ _ _ _ _ _ _ 50 0 0 _ (wrt_alloc g4 _) (by decide) (by decide) (by decide)).mono ?_
  rintro e w5 ⟨rfl, g5', k5⟩
  have g5 : wrt w5 w.heap.size 100 true 50 0 0 103 3000 1 true 102 0 0 := g5'
  have b5 := Below.keeps (b4.alloc b4.size _) (by have := b4.size; simp; omega) (Nat.le_refl _) k5
  have d0 : w5.cell? ⟨w3.heap.size, 0, none⟩ = some (.int .i64 100) := k5.cell (w := w4.alloc _) (cell_alloc c0 _) (by have := g3.lt; omega)
  have d1 : w5.cell? ⟨w4.heap.size, 0, none⟩ = some (.int .i64 102) := cell_blk (k5.blk alloc_blk_new (by have := g4.lt; omega))
  clear g5' k5
  go_wp2_with fail
  refine (map_any _ _ _ _ _ _ _ _ _ _ _ _ 50 0 0 _ g5 (by decide) (by decide) (by decide)).mono ?_
  rintro e w6 ⟨rfl, g6', k6⟩
  have b6 := Below.keeps b5 b5.size (Nat.le_refl _) k6
  have f0 : w6.cell? ⟨w3.heap.size, 0, none⟩ = some (.int .i64 100) := k6.cell d0 (by have := g3.lt; omega)
  have f1 : w6.cell? ⟨w4.heap.size, 0, none⟩ = some (.int .i64 102) := k6.cell d1 (by have := g4.lt; omega)
  have b7 := fun x => b6.alloc b6.size x
  have z0 : w3.heap.size < w6.heap.size := World.block_lt_of_cell? _ _ f0
  have z1 : w4.heap.size < w6.heap.size := World.block_lt_of_cell? _ _ f1
  clear g6' k6 c0 d0 d1 g3 g4 g5 b3 b4 b5 b6
  rw [show mapped (my1 50 103 50) (my2 0 3000 0) (my3 0 1 0) = mapped 103 3000 1 from rfl]
  unfold mapped
  go_wp2_with fail
  go_ret
  exact ⟨rfl, b7 _⟩

end Go.Proofs.Ytkdjkaimcciemaa
