/-
  Chapter 20: the reference's keeper: Came at an index above.
-/
import Derived.Test.YtdmbdageohjodaaLsY
namespace Go.Proofs.Ytdmbdageohjodaa
open Go.RowKit
set_option linter.unusedVariables false
set_option linter.unusedSimpArgs false
attribute [local irreducible] wpStill wpQuiet MixC.wpMix MixC.wpPick MixC.wpPickT
attribute [local go_sem] MixC.rdOp MixC.rd MixC.rdUpon MixC.mvUpon

theorem R3.set {B g : Nat} {w : World} {vI vN vT : Value} {I N T : List Int} (h : R3 B w vI I vN N vT T) {pause high : Int} {u1 u2 u3 : Value} (hg : w.heap[g]? = some (rkO pause high u1 u2 u3)) (j : Nat) (v : Value) : R3 B (w.setCell ⟨g, j, none⟩ v) vI I vN N vT T :=
  h.but ((But.refl (some g) w).set j v) (U := 41) (fun j e => by cases e; exact ⟨_, _, hg⟩) (by decide) (by decide)
theorem rT1 : ∀ T, T ∈ [2] → T ∈ rTs := fun T h => by
  have : T = 2 := by simpa using h
  subst this; decide
theorem rT2 : ∀ T, T ∈ [3] → T ∈ rTs := fun T h => by
  have : T = 3 := by simpa using h
  subst this; decide
set_option maxHeartbeats 2000000 in
/-- one index more -/
theorem RK.add {B g : Nat} {pause high : Int} {L : List Mis} {w : World} (h : RK B g pause high L w) (hB : B ≤ w.heap.size) (hl : L.length ≤ 2000) (x tick : Int) :
    ∃ aI cI aN cN aT cT a1 c1 W1 a2 c2 W2 a3 c3 W3,
      (w.cell? ⟨g, 2, none⟩ = some (.slice aI L.length cI)) ∧
      (∀ ty, (Builtin.append_ #[37, 37] ty #[.slice aI L.length cI, .slice (some ⟨w.heap.size, 0, none⟩) 1 1]).run Try.prog (w.alloc (.cells #[.int .i64 x] 2)) = .ok (.slice a1 (L.length + 1) c1) W1) ∧
      (W1.cell? ⟨g, 2, none⟩ = some (.slice aI L.length cI) ∧ W1.cell? ⟨g, 4, none⟩ = some (.slice aN L.length cN) ∧ W1.frozen? ⟨g, 2, none⟩ = false) ∧
      (∀ ty, (Builtin.append_ #[37, 37] ty #[.slice aN L.length cN, .slice (some ⟨W1.heap.size, 0, none⟩) 1 1]).run Try.prog ((W1.setCell ⟨g, 2, none⟩ (.slice a1 (L.length + 1) c1)).alloc (.cells #[.int .i64 tick] 2)) = .ok (.slice a2 (L.length + 1) c2) W2) ∧
      (W2.cell? ⟨g, 4, none⟩ = some (.slice aN L.length cN) ∧ W2.cell? ⟨g, 3, none⟩ = some (.slice aT L.length cT) ∧ W2.frozen? ⟨g, 4, none⟩ = false) ∧
      (∀ ty, (Builtin.append_ #[39, 39] ty #[.slice aT L.length cT, .slice (some ⟨W2.heap.size, 0, none⟩) 1 1]).run Try.prog ((W2.setCell ⟨g, 4, none⟩ (.slice a2 (L.length + 1) c2)).alloc (.cells #[.int .i64 0] 3)) = .ok (.slice a3 (L.length + 1) c3) W3) ∧
      (W3.cell? ⟨g, 3, none⟩ = some (.slice aT L.length cT) ∧ W3.frozen? ⟨g, 3, none⟩ = false) ∧
      RK B g pause high (L ++ [⟨x, 0, tick⟩]) (W3.setCell ⟨g, 3, none⟩ (.slice a3 (L.length + 1) c3)) ∧ Below B w (W3.setCell ⟨g, 3, none⟩ (.slice a3 (L.length + 1) c3)) ∧ Ty rTs w (W3.setCell ⟨g, 3, none⟩ (.slice a3 (L.length + 1) c3)) := by
  obtain ⟨gB, aI, cI, aN, cN, aT, cT, hg, hr⟩ := h
  obtain ⟨n, hn⟩ : ∃ n, L.length = n := ⟨_, rfl⟩
  have tI : Ty rTs w w := Ty.refl _ _
  obtain ⟨a1, c1, W1, A1, B1, T1, S1⟩ := hr.pushI hB (by rw [List.length_map]; omega) x
  have g1 := T1.blk hg (by decide)
  have S1' := S1.set g1 2 (.slice a1 (L.length + 1) c1)
  have g1' := set_blk (i := 2) (.slice a1 (L.length + 1) c1) g1
  have B1' := B1.setCell gB (.slice a1 (L.length + 1) c1) (p := ⟨g, 2, none⟩)
  have T1' : Ty rTs w (W1.setCell ⟨g, 2, none⟩ (.slice a1 (L.length + 1) c1)) := (T1.mono rT1).trans (Ty.set g1 (by decide) _)
  obtain ⟨a2, c2, W2, A2, B2, T2, S2⟩ := S1'.pushN (Nat.le_trans hB B1'.size) (by rw [List.length_map]; omega) tick
  have g2 := T2.blk g1' (by decide)
  have g2x : W2.heap[g]? = some (rkO pause high (.slice a1 (L.length + 1) c1) (.slice aT L.length cT) (.slice aN L.length cN)) := g2
  have S2' := S2.set g2x 4 (.slice a2 (L.length + 1) c2)
  have g2' := set_blk (i := 4) (.slice a2 (L.length + 1) c2) g2
  have B2' := (B1'.trans B2).setCell gB (.slice a2 (L.length + 1) c2) (p := ⟨g, 4, none⟩)
  have T2' : Ty rTs w (W2.setCell ⟨g, 4, none⟩ (.slice a2 (L.length + 1) c2)) := T1'.trans ((T2.mono rT1).trans (Ty.set g2 (by decide) _))
  obtain ⟨a3, c3, W3, A3, B3, T3, S3⟩ := S2'.pushT (Nat.le_trans hB B2'.size) (by rw [List.length_map]; omega) 0
  have g3 := T3.blk g2' (by decide)
  have g3x : W3.heap[g]? = some (rkO pause high (.slice a1 (L.length + 1) c1) (.slice aT L.length cT) (.slice a2 (L.length + 1) c2)) := g3
  have S3' := S3.set g3x 3 (.slice a3 (L.length + 1) c3)
  have g3' := set_blk (i := 3) (.slice a3 (L.length + 1) c3) g3
  have B3' := (B2'.trans B3).setCell gB (.slice a3 (L.length + 1) c3) (p := ⟨g, 3, none⟩)
  have T3' : Ty rTs w (W3.setCell ⟨g, 3, none⟩ (.slice a3 (L.length + 1) c3)) := T2'.trans ((T3.mono rT2).trans (Ty.set g3 (by decide) _))
  simp only [List.length_map] at A1 A2 A3 S3'
  rw [show (W1.setCell ⟨g, 2, none⟩ (.slice a1 (L.length + 1) c1)).heap.size = W1.heap.size by simp] at A2
  rw [show (W2.setCell ⟨g, 4, none⟩ (.slice a2 (L.length + 1) c2)).heap.size = W2.heap.size by simp] at A3
  refine ⟨aI, cI, aN, cN, aT, cT, a1, c1, W1, a2, c2, W2, a3, c3, W3, by rw [cell_blk hg]; rfl, A1, ⟨by rw [cell_blk g1]; rfl, by rw [cell_blk g1]; rfl, free_blk g1⟩, A2, ⟨by rw [cell_blk g2]; rfl, by rw [cell_blk g2]; rfl, free_blk g2⟩, A3, ⟨by rw [cell_blk g3]; rfl, free_blk g3⟩, ⟨gB, a1, c1, a2, c2, a3, c3, ?_, ?_⟩, B3', T3'⟩
  · rw [List.length_append]; exact g3'
  · rw [List.length_append, List.map_append, List.map_append, List.map_append]; exact S3'
end Go.Proofs.Ytdmbdageohjodaa
