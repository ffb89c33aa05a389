/-
  The walks of RewriteOrder and RewriteAbove.
-/
import Derived.Test.YtkdjkaimcciemaaRewLaws
import Derived.Deep.QuietTactic
import Derived.BigQuiet
namespace Go.Proofs.Ytkdjkaimcciemaa
open Go.RowKit
set_option linter.unusedVariables false
set_option linter.unusedSimpArgs false

theorem boxes3 (w : World) (A B C : Obj) : (((w.alloc A).alloc B).alloc C).heap[w.heap.size]? = some A ∧ (((w.alloc A).alloc B).alloc C).heap[w.heap.size + 1]? = some B ∧ (((w.alloc A).alloc B).alloc C).heap[w.heap.size + 1 + 1]? = some C := by
  refine ⟨?_, ?_, ?_⟩
  · rw [heap_alloc, heap_alloc, heap_alloc, if_neg (by simp; omega), if_neg (by simp), if_pos rfl]
  · rw [heap_alloc, heap_alloc, if_neg (by simp), if_pos (by simp)]
  · rw [heap_alloc, if_pos (by simp)]
theorem mapped_of {w : World} {v : Value} (h : ArgS Try.prog w 68 v) : ∃ x1 x2 x3, v = mapped x1 x2 x3 ∧ (-9223372036854775808 ≤ x1 ∧ x1 ≤ 9223372036854775807) ∧ (0 ≤ x2 ∧ x2 ≤ 4294967295) ∧ (0 ≤ x3 ∧ x3 ≤ 65535) := by
  obtain ⟨cs, rfl, h⟩ := h
  obtain ⟨hs, hc⟩ := h 6 [2, 23, 66] (by kernel_rfl)
  obtain ⟨x0, h0, r0⟩ := hc 0 2 rfl
  obtain ⟨x1, h1, r1⟩ := hc 1 23 rfl
  obtain ⟨x2, h2, r2⟩ := hc 2 66 rfl
  obtain ⟨m0, rfl, k0⟩ := reads_int Try.underlying2 r0
  obtain ⟨m1, rfl, k1⟩ := reads_int Try.underlying23 r1
  obtain ⟨m2, rfl, k2⟩ := reads_int Try.underlying66 r2
  obtain rfl := arr3 hs h0 h1 h2
  exact ⟨m0, m1, m2, rfl, bounds_i64 k0, bounds_u32 k1, bounds_u16 k2⟩

theorem below_set {B : Nat} {u w : World} (h : Below B u w) {a : Addr} (ha : B ≤ a.block) (v : Value) : Below B u (w.setCell a v) := Below.setCell h ha v

set_option maxRecDepth 100000 in
set_option maxHeartbeats 4000000 in
theorem RewriteOrder.walk (v0 v1 v2 : Value) (w : World) (a0 : ArgS Try.prog w 68 v0) (a1 : ArgS Try.prog w 68 v1) (a2 : ArgS Try.prog w 68 v2) :
    Calls Try.prog 9 #[v0, v1, v2] w fun e w' => e = .returned (.bool true) ∧ Below w.heap.size w w' := by
  obtain ⟨x1, x2, x3, rfl, hx1, hx2, hx3⟩ := mapped_of a0
  obtain ⟨y1, y2, y3, rfl, hy1, hy2, hy3⟩ := mapped_of a1
  obtain ⟨z1, z2, z3, rfl, hz1, hz2, hz3⟩ := mapped_of a2
  clear a0 a1 a2
  unfold mapped
  go_enter Try.func9, Try.ntmps9
  go_wp2_with fail
  refine (alive22_any _).mono ?_
  rintro e w1 ⟨rfl, hb1⟩
  have p0 : w1.heap[w.heap.size]? = some (.cells #[.int .i64 x1, .int .u32 x2, .int .u16 x3] 68 (0, 0)) := Below.blk hb1 (boxes3 _ _ _ _).1 (by simp; omega)
  have p1 : w1.heap[w.heap.size + 1]? = some (.cells #[.int .i64 y1, .int .u32 y2, .int .u16 y3] 68 (0, 0)) := Below.blk hb1 (boxes3 _ _ _ _).2.1 (by simp)
  have p2 : w1.heap[w.heap.size + 1 + 1]? = some (.cells #[.int .i64 z1, .int .u32 z2, .int .u16 z3] 68 (0, 0)) := Below.blk hb1 (boxes3 _ _ _ _).2.2 (by simp)
  have B1 : Below w.heap.size w w1 := ((((Below.refl _ _).alloc (Nat.le_refl _) _).alloc (by simp) _).alloc (by simp; omega) _).trans (hb1.mono (by simp; omega))
  have sz : w.heap.size + 1 + 1 < w1.heap.size := lt_of_block p2
  have sza : w.heap.size < w1.heap.size := lt_of_block p0
  have szb : w.heap.size + 1 < w1.heap.size := lt_of_block p1
  clear hb1
  have c00 : w1.cell? ⟨w.heap.size, 0, none⟩ = some (.int .i64 x1) := cell_blk p0
  have c01 : w1.cell? ⟨w.heap.size, 1, none⟩ = some (.int .u32 x2) := cell_blk p0
  have c02 : w1.cell? ⟨w.heap.size, 2, none⟩ = some (.int .u16 x3) := cell_blk p0
  have c10 : w1.cell? ⟨w.heap.size + 1, 0, none⟩ = some (.int .i64 y1) := cell_blk p1
  have c11 : w1.cell? ⟨w.heap.size + 1, 1, none⟩ = some (.int .u32 y2) := cell_blk p1
  have c12 : w1.cell? ⟨w.heap.size + 1, 2, none⟩ = some (.int .u16 y3) := cell_blk p1
  have c20 : w1.cell? ⟨w.heap.size + 1 + 1, 0, none⟩ = some (.int .i64 z1) := cell_blk p2
  have c21 : w1.cell? ⟨w.heap.size + 1 + 1, 1, none⟩ = some (.int .u32 z2) := cell_blk p2
  have c22 : w1.cell? ⟨w.heap.size + 1 + 1, 2, none⟩ = some (.int .u16 z3) := cell_blk p2
  by_cases h0 : x1 < 0
  · have e0 : decide (x1 < 0) = true := by simpa using h0
    go_wp2_with fail
    go_ret
    exact ⟨rfl, B1⟩
  have e0 : decide (x1 < 0) = false := by simpa using h0
  by_cases h1 : y1 < x1
  · have e1 : decide (y1 < x1) = true := by simpa using h1
    go_wp2_with fail
    go_ret
    exact ⟨rfl, B1⟩
  have e1 : decide (y1 < x1) = false := by simpa using h1
  by_cases h2 : z1 < x1
  · have e2 : decide (z1 < x1) = true := by simpa using h2
    go_wp2_with fail
    go_ret
    exact ⟨rfl, B1⟩
  have e2 : decide (z1 < x1) = false := by simpa using h2
  by_cases h3 : 4611686018427387904 < y1
  · have e3 : decide (4611686018427387904 < y1) = true := by simpa using h3
    go_wp2_with fail
    go_ret
    exact ⟨rfl, B1⟩
  have e3 : decide (4611686018427387904 < y1) = false := by simpa using h3
  by_cases h4 : 4611686018427387904 < z1
  · have e4 : decide (4611686018427387904 < z1) = true := by simpa using h4
    go_wp2_with fail
    go_ret
    exact ⟨rfl, B1⟩
  have e4 : decide (4611686018427387904 < z1) = false := by simpa using h4
  go_wp2_with fail
  refine (follow_any _ _ _ _ _ _ _ _ _ _ _ _ _ x1 x2 x3 _ (wrt_new w1) (by decide) (by decide) (by omega)).mono ?_
  rintro e w2 ⟨rfl, g2', k2⟩
  have g2 : wrt w2 w1.heap.size 0 true x1 x2 x3 0 0 0 false 0 0 0 := g2'
  have B2 := Below.keeps (B1.alloc B1.size _) (by have := B1.size; simp; omega) (by omega) k2
  have P1 := k2.blk (w := w1.alloc _) (alloc_blk_old (by omega) |>.trans p1) (by omega)
  have P2 := k2.blk (w := w1.alloc _) (alloc_blk_old (by omega) |>.trans p2) (by omega)
  clear g2' k2 c00 c01 c02 c10 c11 c12 c20 c21 c22 p0 p1 p2
  have d10 : w2.cell? ⟨w.heap.size + 1, 0, none⟩ = some (.int .i64 y1) := cell_blk P1
  have d11 : w2.cell? ⟨w.heap.size + 1, 1, none⟩ = some (.int .u32 y2) := cell_blk P1
  have d12 : w2.cell? ⟨w.heap.size + 1, 2, none⟩ = some (.int .u16 y3) := cell_blk P1
  obtain ⟨g, hg⟩ : ∃ g, g = w1.heap.size := ⟨_, rfl⟩
  rw [← hg] at g2 sz sza szb
  rw [← hg]
  have q1 : w.heap.size ≤ g := by omega
  clear hg B1
  go_wp2_with fail
  refine (map_any _ _ _ _ _ _ _ _ _ _ _ _ y1 y2 y3 _ g2 (by omega) (by omega) (by omega)).mono ?_
  rintro e w3 ⟨rfl, g3, k3⟩
  have B3 := Below.keeps B2 B2.size q1 k3
  have R1 := k3.blk P1 (by omega)
  have R2 := k3.blk P2 (by omega)
  generalize (bif mtop 0 false (my1 x1 0 y1) then my1 x1 0 y1 else 0) = r1 at g3
  generalize (bif mtop 0 false (my1 x1 0 y1) then my2 x2 0 y2 else 0) = r2 at g3
  generalize (bif mtop 0 false (my1 x1 0 y1) then my3 x3 0 y3 else 0) = r3 at g3
  clear k3 P1 P2 d10 d11 d12 g2 B2
  have d20 : w3.cell? ⟨w.heap.size + 1 + 1, 0, none⟩ = some (.int .i64 z1) := cell_blk R2
  have d21 : w3.cell? ⟨w.heap.size + 1 + 1, 1, none⟩ = some (.int .u32 z2) := cell_blk R2
  have d22 : w3.cell? ⟨w.heap.size + 1 + 1, 2, none⟩ = some (.int .u16 z3) := cell_blk R2
  have sz3b : w.heap.size + 1 < w3.heap.size := lt_of_block R1
  have sz3 : w.heap.size + 1 + 1 < w3.heap.size := lt_of_block R2
  unfold mapped
  go_wp2_with fail
  refine (map_any _ _ _ _ _ _ _ _ _ _ _ _ z1 z2 z3 _ (wrt_alloc g3 _) (by omega) (by omega) (by omega)).mono ?_
  rintro e w4 ⟨rfl, g4, k4⟩
  have hl3 := g3.lt
  have B4 := Below.keeps (B3.alloc B3.size _) (by have := B3.size; simp; omega) q1 k4
  have S1 := k4.blk (w := w3.alloc _) (alloc_blk_old (by omega) |>.trans R1) (by omega)
  have S2 := k4.blk (w := w3.alloc _) (alloc_blk_old (by omega) |>.trans R2) (by omega)
  have S3 := k4.blk (k := w3.heap.size) (w := w3.alloc _) alloc_blk_new (by omega)
  have sz4 : w3.heap.size < w4.heap.size := lt_of_block S3
  have hh : w3.heap.size ≤ w3.heap.size := Nat.le_refl _
  have ne3 : ¬ w3.heap.size = w.heap.size + 1 := by omega
  have ne4 : ¬ w3.heap.size = w.heap.size + 1 + 1 := by omega
  clear k4 g4 g3 R1 R2 B3 d20 d21 d22
  have f10 : w4.cell? ⟨w.heap.size + 1, 0, none⟩ = some (.int .i64 y1) := cell_blk S1
  have f11 : w4.cell? ⟨w.heap.size + 1, 1, none⟩ = some (.int .u32 y2) := cell_blk S1
  have f12 : w4.cell? ⟨w.heap.size + 1, 2, none⟩ = some (.int .u16 y3) := cell_blk S1
  have f20 : w4.cell? ⟨w.heap.size + 1 + 1, 0, none⟩ = some (.int .i64 z1) := cell_blk S2
  have f21 : w4.cell? ⟨w.heap.size + 1 + 1, 1, none⟩ = some (.int .u32 z2) := cell_blk S2
  have f22 : w4.cell? ⟨w.heap.size + 1 + 1, 2, none⟩ = some (.int .u16 z3) := cell_blk S2
  have f30 : w4.cell? ⟨w3.heap.size, 0, none⟩ = some (.int .i64 (my1 x1 0 y1)) := cell_blk S3
  have f31 : w4.cell? ⟨w3.heap.size, 1, none⟩ = some (.int .u32 (my2 x2 0 y2)) := cell_blk S3
  have f32 : w4.cell? ⟨w3.heap.size, 2, none⟩ = some (.int .u16 (my3 x3 0 y3)) := cell_blk S3
  have u1 : w.heap.size + 1 < w4.heap.size := lt_of_block S1
  have u2 : w.heap.size + 1 + 1 < w4.heap.size := lt_of_block S2
  have T1 : wrap64 (my1 x1 0 z1 - my1 x1 0 y1) = z1 - y1 := by unfold my1 wrap64; omega
  have T2 : (my2 x2 0 z2 - my2 x2 0 y2) % 4294967296 = (z2 - y2) % 4294967296 := by unfold my2; omega
  have T3 : Hid ((my3 x3 0 z3 - my3 x3 0 y3) % 65536 % 32768 = (z3 - y3) % 65536 % 32768) := Lib.hid (by unfold my3; omega)
  have T1' : (wrap64 (my1 x1 0 z1 - my1 x1 0 y1) == z1 - y1) = true := by rw [T1]; simp
  unfold mapped
  go_wp2_with fail
  go_ret
  refine ⟨ret_bool ?_, B4.alloc B4.size _⟩
  simp
  simp only [IntKind.wrap_u16]
  rw [Int.tmod_eq_emod_of_nonneg (by omega), Int.tmod_eq_emod_of_nonneg (by omega)]
  exact T3.out
end Go.Proofs.Ytkdjkaimcciemaa
