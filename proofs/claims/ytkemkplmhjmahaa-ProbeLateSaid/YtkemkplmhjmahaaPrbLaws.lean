/-
  Standing and Index of the source of chapter 17; the walks of ProbeNone.
-/
import Derived.Test.YtkemkplmhjmahaaPrb
import Derived.IntWalk
namespace Go.Proofs.Ytkemkplmhjmahaa
open Go.RowKit
set_option linter.unusedVariables false
set_option linter.unusedSimpArgs false

def standing (e r h : Int) (v : Bool) : Value := .agg #[.int .i64 e, .int .i64 r, .int .i64 h, .bool v]

set_option maxHeartbeats 2000000 in
theorem pstand_any (g : Nat) (h t f c b : Int) (w : World) (hg : prb w g true h t f c 0 b) (ht : 0 ≤ t ∧ t ≤ 1000000) (hh : 0 ≤ h ∧ h ≤ 65535) (hf : 0 ≤ f ∧ f ≤ 65535) :
    Calls Try.prog 44 #[.pointer (some ⟨g, 0, none⟩)] w fun e w' => e = .returned (standing (t * 65536 + h - f + 1) c (t * 65536 + h) true) ∧ Below w.heap.size w w' := by
  obtain ⟨c0, c1, c2, c3, c4, c5, c6, f0, f1, f2, f3, f4, f5, f6⟩ := hg.all
  have hl := hg.lt
  have hn : w.heap.size ≠ g := by omega
  obtain ⟨T, hT, hT2⟩ : ∃ T, Hid (t * 65536 + h = T) ∧ 0 ≤ T ∧ T ≤ 70000000000 := ⟨_, Lib.hid rfl, by omega, by omega⟩
  rw [hT.out]
  have e1 : IntKind.i64.wrap (T - f) = T - f := IntWalk.i64_in _ (by omega)
  have e2 : IntKind.i64.wrap (T - f + 1) = T - f + 1 := IntWalk.i64_in _ (by omega)
  have htop : ∀ W, prb W g true h t f c 0 b → Calls Try.prog 57 #[.pointer (some ⟨g, 0, none⟩)] W fun e w' => e = .returned (.int .i64 T) ∧ ∃ n, w' = W.drewN n := fun W hW => by
    have := ptop_any g true h t f c 0 b W hW ht hh
    rw [hT.out] at this; exact this
  have HT := Lib.hid htop
  clear htop
  have ga : prb (w.alloc (.cells #[.int .i64 0, .int .i64 0, .int .i64 0, .bool false] 78)) g true h t f c 0 b := (Below.heap_alloc _ _ _ hl).trans hg
  go_enter Try.func44, Try.ntmps44
  go_wp2_with (go_at_call 56; refine (pvalid_any g h t f c b _ ga).mono ?_; rintro e w' ⟨rfl, rfl⟩)
  generalize hW : (w.alloc _) = W at *
  have hbW : Below w.heap.size w W := by rw [← hW]; exact (Below.refl _ _).alloc (Nat.le_refl _) _
  have pW : W.heap[w.heap.size]? = some (.cells #[.int .i64 0, .int .i64 0, .int .i64 0, .bool false] 78 (0, 0)) := by rw [← hW]; exact alloc_blk_new
  clear hW c0 c1 c2 c3 c4 c5 c6 f0 f1 f2 f3 f4 f5 f6 hg
  obtain ⟨c0, c1, c2, c3, c4, c5, c6, f0, f1, f2, f3, f4, f5, f6⟩ := ga.all
  have r0 : W.cell? ⟨w.heap.size, 0, none⟩ = some (.int .i64 0) := cell_blk pW
  have r1 : W.cell? ⟨w.heap.size, 1, none⟩ = some (.int .i64 0) := cell_blk pW
  have r2 : W.cell? ⟨w.heap.size, 2, none⟩ = some (.int .i64 0) := cell_blk pW
  have r3 : W.cell? ⟨w.heap.size, 3, none⟩ = some (.bool false) := cell_blk pW
  have s0 : W.frozen? ⟨w.heap.size, 0, none⟩ = false := free_blk pW
  have s1 : W.frozen? ⟨w.heap.size, 1, none⟩ = false := free_blk pW
  have s2 : W.frozen? ⟨w.heap.size, 2, none⟩ = false := free_blk pW
  have s3 : W.frozen? ⟨w.heap.size, 3, none⟩ = false := free_blk pW
  go_region_held3 (fun W => W.cell? ⟨g, 3, none⟩ = some (.int .i64 f) ∧ W.cell? ⟨g, 4, none⟩ = some (.int .i64 c)) (go_keep)
    ((go_at_call 57; refine (HT.out _ ?_).mono ?_; exact ga; rintro e w1 ⟨rfl, n1, rfl⟩))
  go_wp2_with fail
  refine bodyPost_ret (by simp [results, Try.results44, go_sem, r0, r1, r2, r3]; try rfl) rfl ?_
  refine ⟨rfl, ?_⟩
  (iterate 4 (refine Below.setCell ?_ (by exact Nat.le_refl _) _))
  exact below_drewN0 hbW _

theorem pindex_any (g : Nat) (x h t f c b : Int) (w : World) (hg : prb w g true h t f c 0 b) (ht : 0 ≤ t ∧ t ≤ 1000000) (hh : 0 ≤ h ∧ h ≤ 65535) (hx : 0 ≤ x ∧ x ≤ 65535) :
    Calls Try.prog 45 #[.pointer (some ⟨g, 0, none⟩), .int .u16 x] w fun e w' => e = .returned (.int .i64 (bif decide (h < x) then t * 65536 + x - 65536 else t * 65536 + x)) ∧ w = w' := by
  obtain ⟨c0, c1, c2, c3, c4, c5, c6, f0, f1, f2, f3, f4, f5, f6⟩ := hg.all
  by_cases hhx : h < x
  · have e1 : decide (h < x) = true := by simpa using hhx
    rw [e1]
    go_enter Try.func45, Try.ntmps45
    go_wp2_with (go_at_call 56; refine (pvalid_any g h t f c b _ hg).mono ?_; rintro e w' ⟨rfl, rfl⟩)
    go_ret
    exact ⟨rfl, rfl⟩
  · have e1 : decide (h < x) = false := by simpa using hhx
    rw [e1]
    go_enter Try.func45, Try.ntmps45
    go_wp2_with (go_at_call 56; refine (pvalid_any g h t f c b _ hg).mono ?_; rintro e w' ⟨rfl, rfl⟩)
    go_ret
    exact ⟨rfl, rfl⟩

theorem prb_new (w : World) : prb (w.alloc (.cells #[.bool false, .int .u16 0, .int .i64 0, .int .i64 0, .int .i64 0, .int .i64 0, .int .i64 0] 75)) w.heap.size false 0 0 0 0 0 0 := by
  unfold prb; rw [heap_alloc, if_pos rfl]

set_option maxHeartbeats 2000000 in
theorem alive17_any (w : World) : Calls Try.prog 42 #[] w fun e w' => e = .returned (.bool true) ∧ Below w.heap.size w w' := by
  go_enter Try.func42, Try.ntmps42
  go_wp2_with fail
  have B0 : Below w.heap.size w (w.alloc (.cells #[.bool false, .int .u16 0, .int .i64 0, .int .i64 0, .int .i64 0, .int .i64 0, .int .i64 0] 75)) := (Below.refl _ _).alloc (Nat.le_refl _) _
  refine (take_first _ 5 _ (prb_new w) (by decide) (by decide)).mono ?_
  rintro e w1 ⟨rfl, g1, k1⟩
  have B1 := Below.keeps B0 B0.size (Nat.le_refl _) k1
  clear k1 B0
  go_wp2_with fail
  refine (take_try _ 6 _ _ _ _ _ _ g1 (Lib.hid (by decide)) (by decide) (by decide)).mono ?_
  rintro e w2 ⟨rfl, g2, k2⟩
  have B2 := Below.keeps B1 B1.size (Nat.le_refl _) k2
  clear k2 B1 g1
  go_wp2_with fail
  refine (take_near _ 7 _ _ _ _ _ _ g2 (by decide) (by decide) (by decide)).mono ?_
  rintro e w3 ⟨rfl, g3', k3⟩
  have g3 : prb w3 w.heap.size true 7 0 6 2 0 65536 := g3'
  have B3 := Below.keeps B2 B2.size (Nat.le_refl _) k3
  clear k3 B2 g2 g3'
  go_wp2_with fail
  refine (take_far _ 5000 _ _ _ _ _ _ g3 (by decide) (by decide) (by decide) (by decide) (by decide)).mono ?_
  rintro e w4 ⟨rfl, g4', k4⟩
  have g4 : prb w4 w.heap.size true 7 0 6 2 0 5001 := g4'
  have B4 := Below.keeps B3 B3.size (Nat.le_refl _) k4
  clear k4 B3 g3 g4'
  go_wp2_with fail
  refine (take_again _ 5001 _ _ _ _ _ g4 (by decide) (by decide) (by decide) (by decide)).mono ?_
  rintro e w5 ⟨rfl, g5, k5⟩
  have B5 := Below.keeps B4 B4.size (Nat.le_refl _) k5
  clear k5 B4 g4
  go_wp2_with fail
  refine (pstand_any _ _ _ _ _ _ _ g5 (by decide) (by decide) (by decide)).mono ?_
  rintro e w6 ⟨rfl, b6⟩
  have B6 := B5.trans (b6.mono B5.size)
  rw [show standing (0 * 65536 + 5001 - 5001 + 1) 1 (0 * 65536 + 5001) true = standing 1 1 5001 true from rfl]
  unfold standing
  clear b6 B5 g5
  go_wp2_with fail
  go_ret
  exact ⟨rfl, B6⟩

theorem ProbeNone.walk (x : Int) (w : World) (w0 : (Lit.int .u16 x).wf = true) :
    Calls Try.prog 14 #[.int .u16 x] w fun e w' => e = .returned (.bool true) ∧ Below w.heap.size w w' := by
  go_enter Try.func14, Try.ntmps14
  go_wp2_with (first | (go_at_call 42; refine (alive17_any _).mono ?_; rintro e w' ⟨rfl, hb⟩) | go_in)
  go_ret
  exact ⟨rfl, hb.alloc hb.size _⟩
end Go.Proofs.Ytkemkplmhjmahaa
