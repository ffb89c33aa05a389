/-
  Map of the writer of chapter 22.
-/
import Derived.Test.YtkdjkaimcciemaaProg
import Derived.Test.YtkdjkaimcciemaaBase
import Derived.Test.YtkdjkaimcciemaaReads
import Derived.Test.YtkdjkaimcciemaaRew
import Derived.Deep.RegionHeld3
import Derived.StillTailTactics
import Derived.BigQuiet
import Derived.IntWalk
namespace Go.Proofs.Ytkdjkaimcciemaa
open Go.RowKit
set_option linter.unusedVariables false
set_option linter.unusedSimpArgs false


def my1 (a1 b1 x1 : Int) : Int := b1 + x1 - a1
def my2 (a2 b2 x2 : Int) : Int := (b2 + x2 - a2) % 4294967296
def my3 (a3 b3 x3 : Int) : Int := (b3 + x3 - a3) % 32768
/-- is it the highest now? -/
def mtop (c1 : Int) (o : Bool) (y : Int) : Bool := decide (c1 ≤ y) || !o

set_option maxRecDepth 100000 in
set_option maxHeartbeats 4000000 in
theorem map_any (g : Nat) (f : Int) (a1 a2 a3 b1 b2 b3 : Int) (o : Bool) (c1 c2 c3 x1 x2 x3 : Int) (w : World) (hg : wrt w g f true a1 a2 a3 b1 b2 b3 o c1 c2 c3)
    (h1 : 0 ≤ x1) (h2 : a1 ≤ x1) (h3 : 0 ≤ a1 ∧ 0 ≤ b1 ∧ b1 + x1 ≤ 9223372036854775807) :
    Calls Try.prog 39 #[.pointer (some ⟨g, 0, none⟩), mapped x1 x2 x3] w fun e w' =>
      e = .returned (.tuple #[mapped (my1 a1 b1 x1) (my2 a2 b2 x2) (my3 a3 b3 x3), .int .i64 0]) ∧
      wrt w' g f true a1 a2 a3 b1 b2 b3 true (bif mtop c1 o (my1 a1 b1 x1) then my1 a1 b1 x1 else c1) (bif mtop c1 o (my1 a1 b1 x1) then my2 a2 b2 x2 else c2) (bif mtop c1 o (my1 a1 b1 x1) then my3 a3 b3 x3 else c3) ∧ Keeps g w w' := by
  obtain ⟨y1, hy1, E1⟩ : ∃ y1, IntKind.i64.wrap (b1 + x1 - a1) = y1 ∧ Hid (my1 a1 b1 x1 = y1) := ⟨_, IntWalk.i64_in _ (by omega), rfl⟩
  obtain ⟨y2, hy2, E2⟩ : ∃ y2, IntKind.u32.wrap (IntKind.u32.wrap (b2 + x2) - a2) = y2 ∧ Hid (my2 a2 b2 x2 = y2) := ⟨_, by rw [IntKind.wrap_u32, IntKind.wrap_u32]; show _ = (b2 + x2 - a2) % 4294967296; omega, rfl⟩
  obtain ⟨y3, hy3, E3⟩ : ∃ y3, bits BinOp.and IntKind.u16 (IntKind.u16.wrap (IntKind.u16.wrap (b3 + x3) - a3)) 32767 = y3 ∧ Hid (my3 a3 b3 x3 = y3) := ⟨_, by rw [and_low15 _ (by rw [IntKind.wrap_u16]; omega) (by rw [IntKind.wrap_u16]; omega), IntKind.wrap_u16, IntKind.wrap_u16]; show _ = (b3 + x3 - a3) % 32768; omega, rfl⟩
  rw [E1.out, E2.out, E3.out]
  have e0 : decide (x1 < 0) = false := by simp; omega
  have e1 : decide (x1 < a1) = false := by simp; omega
  have e2 : IntKind.i64.wrap (b1 + x1) = b1 + x1 := IntWalk.i64_in _ (by omega)
  clear E1 E2 E3
  unfold mapped
  have hl : g < w.heap.size := hg.lt
  have hn : w.heap.size ≠ g := Nat.ne_of_gt hl
  have hn1 : w.heap.size + 1 ≠ g := by omega
  have hn2 : w.heap.size + 2 ≠ g := by omega
  have i1 : w.cell? ⟨g, 1, none⟩ = some (.bool true) := cell_blk hg
  have i2 : w.cell? ⟨g, 2, none⟩ = some (.int .i64 a1) := cell_blk hg
  have i3 : w.cell? ⟨g, 3, none⟩ = some (.int .u32 a2) := cell_blk hg
  have i4 : w.cell? ⟨g, 4, none⟩ = some (.int .u16 a3) := cell_blk hg
  have i5 : w.cell? ⟨g, 5, none⟩ = some (.int .i64 b1) := cell_blk hg
  have i6 : w.cell? ⟨g, 6, none⟩ = some (.int .u32 b2) := cell_blk hg
  have i7 : w.cell? ⟨g, 7, none⟩ = some (.int .u16 b3) := cell_blk hg
  have i8 : w.cell? ⟨g, 8, none⟩ = some (.bool o) := cell_blk hg
  have i9 : w.cell? ⟨g, 9, none⟩ = some (.int .i64 c1) := cell_blk hg
  have i10 : w.cell? ⟨g, 10, none⟩ = some (.int .u32 c2) := cell_blk hg
  have i11 : w.cell? ⟨g, 11, none⟩ = some (.int .u16 c3) := cell_blk hg
  have j8 : w.frozen? ⟨g, 8, none⟩ = false := free_blk hg
  have j9 : w.frozen? ⟨g, 9, none⟩ = false := free_blk hg
  have j10 : w.frozen? ⟨g, 10, none⟩ = false := free_blk hg
  have j11 : w.frozen? ⟨g, 11, none⟩ = false := free_blk hg
  go_enter Try.func39, Try.ntmps39
  go_wp2_with fail
  go_quiet (fail)
  go_wp2_with fail
  generalize hW : ((w.alloc _).alloc _).drewN _ = W
  have p0 : W.heap[w.heap.size]? = some (.cells #[.int .i64 x1, .int .u32 x2, .int .u16 x3] 68 (0, 0)) := by rw [← hW, heap_drewN, heap_alloc, heap_alloc]; simp
  have p1 : W.heap[w.heap.size + 1]? = some (.cells #[.int .i64 0, .int .u32 0, .int .u16 0] 68 (0, 0)) := by rw [← hW, heap_drewN, heap_alloc]; simp
  have hgW : wrt W g f true a1 a2 a3 b1 b2 b3 o c1 c2 c3 := by unfold wrt; rw [← hW, heap_drewN, heap_alloc, heap_alloc]; rw [if_neg (by simp; omega), if_neg (Ne.symm hn)]; exact hg
  have hK : Keeps g w W := by rw [← hW]; exact ((Keeps.refl g w).alloc _).alloc _ |>.drewN _
  have hz : W.heap.size = w.heap.size + 2 := by rw [← hW, size_drewN]; simp
  clear hW i1 i2 i3 i4 i5 i6 i7 i8 i9 i10 i11 j8 j9 j10 j11
  have k0 : W.cell? ⟨w.heap.size, 0, none⟩ = some (.int .i64 x1) := cell_blk p0
  have k1 : W.cell? ⟨w.heap.size, 1, none⟩ = some (.int .u32 x2) := cell_blk p0
  have k2 : W.cell? ⟨w.heap.size, 2, none⟩ = some (.int .u16 x3) := cell_blk p0
  have i2 : W.cell? ⟨g, 2, none⟩ = some (.int .i64 a1) := cell_blk hgW
  have i3 : W.cell? ⟨g, 3, none⟩ = some (.int .u32 a2) := cell_blk hgW
  have i4 : W.cell? ⟨g, 4, none⟩ = some (.int .u16 a3) := cell_blk hgW
  have i5 : W.cell? ⟨g, 5, none⟩ = some (.int .i64 b1) := cell_blk hgW
  have i6 : W.cell? ⟨g, 6, none⟩ = some (.int .u32 b2) := cell_blk hgW
  have i7 : W.cell? ⟨g, 7, none⟩ = some (.int .u16 b3) := cell_blk hgW
  have HZ := Lib.hid hz
  clear hz
  go_region_held3 (fun W' => W'.cell? ⟨w.heap.size, 0, none⟩ = some (.int .i64 x1) ∧ W'.cell? ⟨w.heap.size, 1, none⟩ = some (.int .u32 x2) ∧ W'.cell? ⟨w.heap.size, 2, none⟩ = some (.int .u16 x3) ∧ W'.cell? ⟨g, 2, none⟩ = some (.int .i64 a1) ∧ W'.cell? ⟨g, 3, none⟩ = some (.int .u32 a2) ∧ W'.cell? ⟨g, 4, none⟩ = some (.int .u16 a3) ∧ W'.cell? ⟨g, 5, none⟩ = some (.int .i64 b1) ∧ W'.cell? ⟨g, 6, none⟩ = some (.int .u32 b2) ∧ W'.cell? ⟨g, 7, none⟩ = some (.int .u16 b3)) (go_keep) (fail)
  generalize hV : (W.alloc _).drew = V
  have q1 : V.heap[W.heap.size]? = some (.cells #[.int .i64 y1, .int .u32 y2, .int .u16 y3] 68 (0, 0)) := by rw [← hV, heap_drew, heap_alloc]; simp
  have hkV : Keeps g w V := by rw [← hV]; exact (hK.alloc _).drew
  have hgV : wrt V g f true a1 a2 a3 b1 b2 b3 o c1 c2 c3 := by unfold wrt; rw [← hV, heap_drew, heap_alloc, if_neg (Nat.ne_of_lt hgW.lt)]; exact hgW
  have hrV : V.heap[w.heap.size + 1]? = some (.cells #[.int .i64 0, .int .u32 0, .int .u16 0] 68 (0, 0)) := by rw [← hV, heap_drew, heap_alloc, if_neg (by have := HZ.out; omega)]; exact p1
  have hz1 : w.heap.size + 2 ≤ W.heap.size := by have := HZ.out; omega
  have hz2 : W.heap.size < V.heap.size := lt_of_block q1
  clear hV hgW p0 p1 k0 k1 k2 i2 i3 i4 i5 i6 i7 hK HZ hy1 hy2 hy3 e2
  generalize W.heap.size = K at *
  have l0 : V.cell? ⟨K, 0, none⟩ = some (.int .i64 y1) := cell_blk q1
  have l1 : V.cell? ⟨K, 1, none⟩ = some (.int .u32 y2) := cell_blk q1
  have l2 : V.cell? ⟨K, 2, none⟩ = some (.int .u16 y3) := cell_blk q1
  have i8 : V.cell? ⟨g, 8, none⟩ = some (.bool o) := cell_blk hgV
  have i9 : V.cell? ⟨g, 9, none⟩ = some (.int .i64 c1) := cell_blk hgV
  have i10 : V.cell? ⟨g, 10, none⟩ = some (.int .u32 c2) := cell_blk hgV
  have i11 : V.cell? ⟨g, 11, none⟩ = some (.int .u16 c3) := cell_blk hgV
  have j8 : V.frozen? ⟨g, 8, none⟩ = false := free_blk hgV
  have j9 : V.frozen? ⟨g, 9, none⟩ = false := free_blk hgV
  have j10 : V.frozen? ⟨g, 10, none⟩ = false := free_blk hgV
  have j11 : V.frozen? ⟨g, 11, none⟩ = false := free_blk hgV
  have r0 : V.cell? ⟨w.heap.size + 1, 0, none⟩ = some (.int .i64 0) := cell_blk hrV
  have r1 : V.cell? ⟨w.heap.size + 1, 1, none⟩ = some (.int .u32 0) := cell_blk hrV
  have r2 : V.cell? ⟨w.heap.size + 1, 2, none⟩ = some (.int .u16 0) := cell_blk hrV
  have s0 : V.frozen? ⟨w.heap.size + 1, 0, none⟩ = false := free_blk hrV
  have s1 : V.frozen? ⟨w.heap.size + 1, 1, none⟩ = false := free_blk hrV
  have s2 : V.frozen? ⟨w.heap.size + 1, 2, none⟩ = false := free_blk hrV
  have ne1 : K ≠ g := by omega
  have hl' : ¬ g = w.heap.size + 1 := by omega
  have ne2 : w.heap.size + 1 ≠ K := by omega
  by_cases ct : c1 ≤ y1
  · have T := Lib.hid (show mtop c1 o y1 = true by simp [mtop, ct])
    have t1 : decide (c1 ≤ y1) = true := by simpa using ct
    go_wp2_with fail
    go_quiet (fail)
    go_wp2_with fail
    refine bodyPost_ret (by simp [results, Try.results39, go_sem, r0, r1, r2, hn1, Ne.symm hn1]; try rfl) rfl ?_
    refine ⟨rfl, ?_, ?_⟩
    · rw [T.out]
      unfold wrt at hgV ⊢
      simp [heap_set, heap_drewN, hgV, putIn, hl']
    · (iterate 3 (refine Keeps.setCell ?_ (by right; simp) _)); (iterate 4 (refine Keeps.setCell ?_ (by left; rfl) _)); exact hkV.drewN _
  · have t1 : decide (c1 ≤ y1) = false := by simpa using ct
    cases o
    · have T := Lib.hid (show mtop c1 false y1 = true by simp [mtop])
      go_wp2_with fail
      go_quiet (fail)
      go_wp2_with fail
      refine bodyPost_ret (by simp [results, Try.results39, go_sem, r0, r1, r2, hn1, Ne.symm hn1]; try rfl) rfl ?_
      refine ⟨rfl, ?_, ?_⟩
      · rw [T.out]
        unfold wrt at hgV ⊢
        simp [heap_set, heap_drewN, hgV, putIn, hl']
      · (iterate 3 (refine Keeps.setCell ?_ (by right; simp) _)); (iterate 4 (refine Keeps.setCell ?_ (by left; rfl) _)); exact hkV.drewN _
    · have T := Lib.hid (show mtop c1 true y1 = false by simp [mtop]; omega)
      go_wp2_with fail
      go_quiet (fail)
      go_wp2_with fail
      refine bodyPost_ret (by simp [results, Try.results39, go_sem, r0, r1, r2, hn1, Ne.symm hn1]; try rfl) rfl ?_
      refine ⟨rfl, ?_, ?_⟩
      · rw [T.out]
        unfold wrt at hgV ⊢
        simp [heap_set, heap_drewN, hgV, putIn, hl']
      · (iterate 3 (refine Keeps.setCell ?_ (by right; simp) _)); exact hkV.drewN _
end Go.Proofs.Ytkdjkaimcciemaa
