/-
  Chapter 20: the reference's keeper: Came.
-/
import Derived.Test.YtdmbdageohjodaaLsW
namespace Go.Proofs.Ytdmbdageohjodaa
open Go.RowKit
set_option linter.unusedVariables false
set_option linter.unusedSimpArgs false
attribute [local irreducible] wpStill wpQuiet MixC.wpMix MixC.wpPick MixC.wpPickT
attribute [local go_sem] MixC.rdOp MixC.rd MixC.rdUpon MixC.mvUpon

def RPost (B g : Nat) (pause high : Int) (L : List Mis) (w : World) (e : Ending) (w' : World) : Prop :=
  e = .returned (.tuple #[]) ∧ RK B g pause high L w' ∧ Below B w w' ∧ Ty rTs w w'
theorem RK.lt {B g : Nat} {pause high : Int} {L : List Mis} {w : World} (h : RK B g pause high L w) : g < w.heap.size := by
  obtain ⟨-, aI, cI, aN, cN, aT, cT, h2, -⟩ := h
  exact lt_of_block h2
/-- the high turns -/
theorem RK.high {B g : Nat} {pause high : Int} {L : List Mis} {w : World} (h : RK B g pause high L w) (hi : Int) : RK B g pause hi L (w.setCell ⟨g, 1, none⟩ (.int .i64 hi)) ∧ Below B w (w.setCell ⟨g, 1, none⟩ (.int .i64 hi)) ∧ Ty rTs w (w.setCell ⟨g, 1, none⟩ (.int .i64 hi)) := by
  obtain ⟨gB, aI, cI, aN, cN, aT, cT, h2, h3⟩ := h
  have b : But (some g) w (w.setCell ⟨g, 1, none⟩ (.int .i64 hi)) := (But.refl _ w).set 1 _
  refine ⟨⟨gB, aI, cI, aN, cN, aT, cT, set_blk _ h2, h3.but b (U := 41) (fun j e => by cases e; exact ⟨_, _, h2⟩) (by decide) (by decide)⟩, ?_, Ty.set h2 (by decide) _⟩
  exact (Below.refl B w).setCell gB _
theorem RK.cells {B g : Nat} {pause high : Int} {L : List Mis} {w : World} (h : RK B g pause high L w) : w.cell? ⟨g, 0, none⟩ = some (.int .i64 pause) ∧ w.cell? ⟨g, 1, none⟩ = some (.int .i64 high) ∧ (∀ i, w.frozen? ⟨g, i, none⟩ = false) ∧ ∃ aI cI, w.cell? ⟨g, 2, none⟩ = some (.slice aI L.length cI) := by
  obtain ⟨gB, aI, cI, aN, cN, aT, cT, h2, h3⟩ := h
  exact ⟨by rw [cell_blk h2]; rfl, by rw [cell_blk h2]; rfl, fun i => free_blk h2, aI, cI, by rw [cell_blk h2]; rfl⟩
set_option maxHeartbeats 4000000 in
theorem rcame_far (B g : Nat) (pause high i tick : Int) (L : List Mis) (w : World) (h : RK B g pause high L w) (hf : farI high i = true) (hh : high ≤ 4611686018427387904) (hi : i ≤ 4611686018427387904) (hh0 : -1 ≤ high) :
    Calls Try.prog 22 #[.pointer (some ⟨g, 0, none⟩), .int .i64 i, .int .i64 tick] w (RPost B g pause high L w) := by
  have H := Lib.hid h
  obtain ⟨c0, c1, f0, -⟩ := h.cells
  clear h
  unfold farI at hf
  by_cases h0 : i < 0
  · clear hf
    go_enter Try.func22, Try.ntmps22
    go_wp2_with fail
    go_returns
    exact ⟨rfl, H.out, Below.refl _ _, Ty.refl _ _⟩
  · have h1 : 0 ≤ high ∧ 1099511627776 < i - high := by simpa [h0] using hf
    clear hf
    obtain ⟨h1, h2⟩ := h1
    have i1 : IntKind.i64.wrap (i - high) = i - high := IntWalk.i64_in _ (by omega)
    go_enter Try.func22, Try.ntmps22
    go_wp2_with fail
    go_returns
    exact ⟨rfl, H.out, Below.refl _ _, Ty.refl _ _⟩
set_option maxHeartbeats 4000000 in
theorem rcame_first (B g : Nat) (pause high i tick : Int) (L : List Mis) (w : World) (h : RK B g pause high L w) (hf : 0 ≤ i) (hh0 : high < 0) :
    Calls Try.prog 22 #[.pointer (some ⟨g, 0, none⟩), .int .i64 i, .int .i64 tick] w (RPost B g pause i L w) := by
  have H := Lib.hid (h.high i)
  obtain ⟨c0, c1, f0, -⟩ := h.cells
  clear h
  go_enter Try.func22, Try.ntmps22
  go_wp2_with fail
  go_returns
  exact ⟨rfl, H.out.1, H.out.2.1, H.out.2.2⟩
end Go.Proofs.Ytdmbdageohjodaa
