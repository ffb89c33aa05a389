/-
  The reference of chapter 21, Reset and Copy, and the walk of LadderPlays.
-/
import Derived.Test.YtkemkplmhjmahaaLadLaws
namespace Go.Proofs.Ytkemkplmhjmahaa
open Go.RowKit
set_option linter.unusedVariables false
set_option linter.unusedSimpArgs false

def rl (w : World) (g : Nat) (S H D n l : Int) (q : Bool) : Prop :=
  w.heap[g]? = some (.cells #[.int .i64 S, .int .i64 H, .int .i64 D, .int .i64 n, .int .i64 l, .bool q] 39 (0, 0))
theorem rl.lt {w : World} {g : Nat} {S H D n l : Int} {q : Bool} (h : rl w g S H D n l q) : g < w.heap.size := lt_of_block h
def qi (s : Bool) : Int := bif s then 1 else 0

theorem lreset_any (g : Nat) (S H D n l q : Int) (w : World) (hg : ldr w g S H D n l q) :
    Calls Try.prog 25 #[.pointer (some ⟨g, 0, none⟩)] w fun e w' => e = .returned (.tuple #[]) ∧ ldr w' g S H D 0 D 0 ∧ Keeps g w w' := by
  have c0 : w.cell? ⟨g, 0, none⟩ = some (.int .i64 S) := cell_blk hg
  have c1 : w.cell? ⟨g, 1, none⟩ = some (.int .i64 H) := cell_blk hg
  have c2 : w.cell? ⟨g, 2, none⟩ = some (.int .i64 D) := cell_blk hg
  have c3 : w.cell? ⟨g, 3, none⟩ = some (.int .i64 n) := cell_blk hg
  have c4 : w.cell? ⟨g, 4, none⟩ = some (.int .i64 l) := cell_blk hg
  have c5 : w.cell? ⟨g, 5, none⟩ = some (.int .i64 q) := cell_blk hg
  have f0 : w.frozen? ⟨g, 0, none⟩ = false := free_blk hg
  have f1 : w.frozen? ⟨g, 1, none⟩ = false := free_blk hg
  have f2 : w.frozen? ⟨g, 2, none⟩ = false := free_blk hg
  have f3 : w.frozen? ⟨g, 3, none⟩ = false := free_blk hg
  have f4 : w.frozen? ⟨g, 4, none⟩ = false := free_blk hg
  have f5 : w.frozen? ⟨g, 5, none⟩ = false := free_blk hg
  go_enter Try.func25, Try.ntmps25
  go_wp2_with fail
  go_region
  all_goals
    go_wp2
    go_returns
    refine ⟨rfl, ?_, by refine Keeps.drew ?_; (iterate 6 (refine Keeps.setCell ?_ (by left; rfl) _)); exact Keeps.refl _ _⟩
    unfold ldr at hg ⊢
    simp [heap_drew, heap_set, hg, putIn]
theorem lcopy_any (g : Nat) (S H D n l q : Int) (w : World) (hg : ldr w g S H D n l q) :
    Calls Try.prog 23 #[.pointer (some ⟨g, 0, none⟩)] w fun e w' => e = .returned (.pointer (some ⟨w.heap.size, 0, none⟩)) ∧ ldr w' w.heap.size S H D n l q ∧ Below w.heap.size w w' := by
  have c0 : w.cell? ⟨g, 0, none⟩ = some (.int .i64 S) := cell_blk hg
  have c1 : w.cell? ⟨g, 1, none⟩ = some (.int .i64 H) := cell_blk hg
  have c2 : w.cell? ⟨g, 2, none⟩ = some (.int .i64 D) := cell_blk hg
  have c3 : w.cell? ⟨g, 3, none⟩ = some (.int .i64 n) := cell_blk hg
  have c4 : w.cell? ⟨g, 4, none⟩ = some (.int .i64 l) := cell_blk hg
  have c5 : w.cell? ⟨g, 5, none⟩ = some (.int .i64 q) := cell_blk hg
  go_enter Try.func23, Try.ntmps23
  go_wp2_with fail
  go_ret
  exact ⟨rfl, by (unfold ldr; rw [heap_alloc, if_pos rfl]), by (repeat (first | exact Below.refl _ _ | refine Below.alloc ?_ (by first | (simp; done) | (simp; omega) | (simp [size_drewN]; done) | (simp [size_drewN]; omega)) _ | refine Below.drew ?_ | refine below_drewN0 ?_ _ | refine Below.setCell ?_ (by first | (simp; done) | (simp; omega) | (simp [size_drewN]; done) | (simp [size_drewN]; omega)) _))⟩
theorem rlnew_any (S H D : Int) (w : World) :
    Calls Try.prog 22 #[.agg #[.int .i64 S, .int .i64 H, .int .i64 D]] w fun e w' => ∃ g, e = .returned (.pointer (some ⟨g, 0, none⟩)) ∧ w.heap.size ≤ g ∧ rl w' g S H D 0 D false ∧ Below w.heap.size w w' := by
  go_enter Try.func22, Try.ntmps22
  go_wp2
  go_ret
  exact ⟨_, rfl, by simp, by (unfold rl; rw [heap_alloc, if_pos (by simp)]), by (repeat (first | exact Below.refl _ _ | refine Below.alloc ?_ (by first | (simp; done) | (simp; omega) | (simp [size_drewN]; done) | (simp [size_drewN]; omega)) _ | refine Below.drew ?_ | refine below_drewN0 ?_ _ | refine Below.setCell ?_ (by first | (simp; done) | (simp; omega) | (simp [size_drewN]; done) | (simp [size_drewN]; omega)) _))⟩
theorem rlstate_any (g : Nat) (S H D n l : Int) (q : Bool) (w : World) (hg : rl w g S H D n l q) :
    Calls Try.prog 27 #[.pointer (some ⟨g, 0, none⟩)] w fun e w' => e = .returned (.int .i64 (stOf S n (qi q))) ∧ ∃ n, w' = w.drewN n := by
  have c0 : w.cell? ⟨g, 0, none⟩ = some (.int .i64 S) := cell_blk hg
  have c3 : w.cell? ⟨g, 3, none⟩ = some (.int .i64 n) := cell_blk hg
  have c5 : w.cell? ⟨g, 5, none⟩ = some (.bool q) := cell_blk hg
  cases q
  · by_cases hs : S ≤ n
    · have e1 : decide (S ≤ n) = true := by simpa using hs
      have HE := Lib.hid (show stOf S n (qi false) = 1 by simp [stOf, qi, e1])
      go_enter Try.func27, Try.ntmps27
      go_wp2_with fail
      go_quiet (fail)
      go_wp2_with fail
      go_ret
      exact ⟨ret_int HE.out.symm, _, rfl⟩
    · have e1 : decide (S ≤ n) = false := by simpa using hs
      have HE := Lib.hid (show stOf S n (qi false) = 0 by simp [stOf, qi, e1])
      go_enter Try.func27, Try.ntmps27
      go_wp2_with fail
      go_quiet (fail)
      go_wp2_with fail
      go_ret
      exact ⟨ret_int HE.out.symm, _, rfl⟩
  · go_enter Try.func27, Try.ntmps27
    go_wp2
    go_ret
    exact ⟨rfl, 0, rfl⟩
theorem rltick_shut (g : Nat) (S H D n l : Int) (w : World) (hg : rl w g S H D n l true) :
    Calls Try.prog 26 #[.pointer (some ⟨g, 0, none⟩)] w fun e w' => e = .returned (.tuple #[]) ∧ w = w' := by
  have c5 : w.cell? ⟨g, 5, none⟩ = some (.bool true) := cell_blk hg
  go_enter Try.func26, Try.ntmps26
  go_wp2
  go_returns
  exact ⟨rfl, rfl⟩
theorem rltick_any (g : Nat) (S H D n l : Int) (w : World) (hg : rl w g S H D n l false) (n0 : 0 ≤ n) (n1 : n ≤ 1000) (l0 : 1 ≤ l) (l1 : l ≤ 9223372036854775807) :
    Calls Try.prog 26 #[.pointer (some ⟨g, 0, none⟩)] w fun e w' => e = .returned (.tuple #[]) ∧ rl w' g S H D (tkN n l) (tkL D l) false ∧ Keeps g w w' := by
  have c2 : w.cell? ⟨g, 2, none⟩ = some (.int .i64 D) := cell_blk hg
  have c3 : w.cell? ⟨g, 3, none⟩ = some (.int .i64 n) := cell_blk hg
  have c4 : w.cell? ⟨g, 4, none⟩ = some (.int .i64 l) := cell_blk hg
  have c5 : w.cell? ⟨g, 5, none⟩ = some (.bool false) := cell_blk hg
  have f3 : w.frozen? ⟨g, 3, none⟩ = false := free_blk hg
  have f4 : w.frozen? ⟨g, 4, none⟩ = false := free_blk hg
  by_cases h1 : 1 < l
  · have e1 : (l - 1 == 0) = false := by simp; omega
    have E := Lib.hid (show tkN n l = n ∧ tkL D l = l - 1 by simp [tkN, tkL, h1])
    go_enter Try.func26, Try.ntmps26
    go_wp2_with fail
    go_returns
    refine ⟨rfl, ?_, by (refine Keeps.setCell ?_ (by left; rfl) _; exact Keeps.refl _ _)⟩
    rw [E.out.1, E.out.2]
    unfold rl at hg ⊢
    simp [heap_set, hg, putIn]
  · obtain rfl : l = 1 := by omega
    have E := Lib.hid (show tkN n 1 = max (n - 1) 0 ∧ tkL D 1 = D by simp [tkN, tkL])
    by_cases hn : 0 < n
    · have e2 : decide (0 < n) = true := by simpa using hn
      have e3 : Hid (max (n - 1) 0 = n - 1) := Lib.hid (by omega)
      go_enter Try.func26, Try.ntmps26
      go_wp2_with fail
      go_returns
      refine ⟨rfl, ?_, by (iterate 3 (refine Keeps.setCell ?_ (by left; rfl) _)); exact Keeps.refl _ _⟩
      rw [E.out.1, E.out.2, e3.out]
      unfold rl at hg ⊢
      simp [heap_set, hg, putIn]
    · obtain rfl : n = 0 := by omega
      have e3 : Hid (max ((0 : Int) - 1) 0 = 0) := Lib.hid (by omega)
      go_enter Try.func26, Try.ntmps26
      go_wp2_with fail
      go_returns
      refine ⟨rfl, ?_, by (iterate 2 (refine Keeps.setCell ?_ (by left; rfl) _)); exact Keeps.refl _ _⟩
      rw [E.out.1, E.out.2, e3.out]
      unfold rl at hg ⊢
      simp [heap_set, hg, putIn]
theorem rlstrike_no (g : Nat) (x : Int) (w : World) (hx : x < 1) :
    Calls Try.prog 24 #[.pointer (some ⟨g, 0, none⟩), .int .i64 x] w fun e w' => e = .returned (.tuple #[]) ∧ w = w' := by
  have e1 : decide (x < 1) = true := by simpa using hx
  go_enter Try.func24, Try.ntmps24
  go_wp2
  go_returns
  exact ⟨rfl, rfl⟩
set_option maxHeartbeats 2000000 in
theorem rlstrike_any (g : Nat) (S H D n l x : Int) (q : Bool) (w : World) (hg : rl w g S H D n l q) (n0 : 0 ≤ n) (n1 : n ≤ 1000) (hx : 1 ≤ x) (hx2 : x ≤ 9223372036854775807) :
    Calls Try.prog 24 #[.pointer (some ⟨g, 0, none⟩), .int .i64 x] w fun e w' => e = .returned (.tuple #[]) ∧ rl w' g S H D (upS n x) D (decide (H ≤ upS n x) || q) ∧ Keeps g w w' := by
  have e1 : decide (x < 1) = false := by simp; omega
  go_enter Try.func24, Try.ntmps24
  go_wp2_with fail
  go_loopw [4] (fun si wr => ∃ (k : Nat), (k : Int) ≤ x ∧ n + k ≤ 1000 ∧ si = .int .i64 k ∧ rl wr g S H D (n + k) l q ∧ Keeps g w wr) (fun si _ => 1000 - (intOf si).toNat)
  case atStart => exact ⟨0, by omega, by omega, rfl, by simpa using hg, Keeps.refl _ _⟩
  case round =>
    obtain ⟨k, hk, hk2, rfl, hgr, hkr⟩ := hrel
    have c1 : wr.cell? ⟨g, 1, none⟩ = some (.int .i64 H) := cell_blk hgr
    have c2 : wr.cell? ⟨g, 2, none⟩ = some (.int .i64 D) := cell_blk hgr
    have c3 : wr.cell? ⟨g, 3, none⟩ = some (.int .i64 (n + k)) := cell_blk hgr
    have c4 : wr.cell? ⟨g, 4, none⟩ = some (.int .i64 l) := cell_blk hgr
    have c5 : wr.cell? ⟨g, 5, none⟩ = some (.bool q) := cell_blk hgr
    have f3 : wr.frozen? ⟨g, 3, none⟩ = false := free_blk hgr
    have f4 : wr.frozen? ⟨g, 4, none⟩ = false := free_blk hgr
    have f5 : wr.frozen? ⟨g, 5, none⟩ = false := free_blk hgr
    by_cases hlt : (k : Int) < x ∧ n + k < 1000
    · obtain ⟨hlt1, hlt2⟩ := hlt
      have t1 : decide ((k : Int) < x) = true := by simpa using hlt1
      have t2 : decide (n + k < 1000) = true := by simpa using hlt2
      go_wp2_with fail
      go_roundw
      case rel => exact ⟨k + 1, by omega, by omega, by go_num, (by unfold rl at hgr ⊢; simp [heap_set, hgr, putIn]; omega), Keeps.setCell hkr (by left; rfl) _⟩
      case measure => simp [intOf] <;> omega
    · obtain ⟨u, hu, HU⟩ : ∃ u, n + (k : Int) = u ∧ Hid (upS n x = u) := ⟨_, rfl, Lib.hid (by unfold upS; omega)⟩
      rw [hu] at hgr c3
      by_cases ht1 : (k : Int) < x
      · have t1 : decide ((k : Int) < x) = true := by simpa using ht1
        have t2 : decide (u < 1000) = false := by simp; omega
        by_cases hH : H ≤ u
        · have t3 : decide (H ≤ u) = true := by simpa using hH
          clear hu hlt
          go_wp2_with fail
          go_quiet (fail)
          go_wp2_with fail
          go_returns
          refine ⟨rfl, ?_, by (iterate 1 (refine Keeps.setCell ?_ (by left; rfl) _)); refine Keeps.drewN ?_ _; (iterate 1 (refine Keeps.setCell ?_ (by left; rfl) _)); exact hkr⟩
          rw [HU.out, t3]
          unfold rl at hgr ⊢
          simp [heap_set, heap_drewN, hgr, putIn]
        · have t3 : decide (H ≤ u) = false := by simpa using hH
          clear hu hlt
          go_wp2_with fail
          go_quiet (fail)
          go_wp2_with fail
          go_returns
          refine ⟨rfl, ?_, by refine Keeps.drewN ?_ _; (iterate 1 (refine Keeps.setCell ?_ (by left; rfl) _)); exact hkr⟩
          rw [HU.out, t3]
          unfold rl at hgr ⊢
          simp [heap_set, heap_drewN, hgr, putIn]
      · have t1 : decide ((k : Int) < x) = false := by simpa using ht1
        by_cases hH : H ≤ u
        · have t3 : decide (H ≤ u) = true := by simpa using hH
          clear hu hlt
          go_wp2_with fail
          go_quiet (fail)
          go_wp2_with fail
          go_returns
          refine ⟨rfl, ?_, by (iterate 1 (refine Keeps.setCell ?_ (by left; rfl) _)); refine Keeps.drewN ?_ _; (iterate 1 (refine Keeps.setCell ?_ (by left; rfl) _)); exact hkr⟩
          rw [HU.out, t3]
          unfold rl at hgr ⊢
          simp [heap_set, heap_drewN, hgr, putIn]
        · have t3 : decide (H ≤ u) = false := by simpa using hH
          clear hu hlt
          go_wp2_with fail
          go_quiet (fail)
          go_wp2_with fail
          go_returns
          refine ⟨rfl, ?_, by refine Keeps.drewN ?_ _; (iterate 1 (refine Keeps.setCell ?_ (by left; rfl) _)); exact hkr⟩
          rw [HU.out, t3]
          unfold rl at hgr ⊢
          simp [heap_set, heap_drewN, hgr, putIn]
end Go.Proofs.Ytkemkplmhjmahaa
