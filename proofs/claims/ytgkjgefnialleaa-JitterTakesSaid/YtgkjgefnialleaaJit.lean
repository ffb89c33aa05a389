/-
  Contracts of package jitter and its reference.
-/
import Derived.Test.YtgkjgefnialleaaSeqs
namespace Go.Proofs.Ytgkjgefnialleaa
open Go.RowKit
set_option linter.unusedVariables false
set_option linter.unusedSimpArgs false

/-- block g is a gauge -/
def gauge (w : World) (g : Nat) (y x n : Int) : Prop := w.heap[g]? = some (.cells #[.int .u32 y, .int .u64 x, .int .i64 n] 64 (0, 0))
theorem gauge.c0 {w : World} {g : Nat} {y x n : Int} (h : gauge w g y x n) : w.cell? ⟨g, 0, none⟩ = some (.int .u32 y) := cell_blk h
theorem gauge.c1 {w : World} {g : Nat} {y x n : Int} (h : gauge w g y x n) : w.cell? ⟨g, 1, none⟩ = some (.int .u64 x) := cell_blk h
theorem gauge.c2 {w : World} {g : Nat} {y x n : Int} (h : gauge w g y x n) : w.cell? ⟨g, 2, none⟩ = some (.int .i64 n) := cell_blk h
theorem gauge.fr {w : World} {g : Nat} {y x n : Int} (h : gauge w g y x n) (i : Nat) : w.frozen? ⟨g, i, none⟩ = false := free_blk h
theorem gauge.lt {w : World} {g : Nat} {y x n : Int} (h : gauge w g y x n) : g < w.heap.size := lt_of_block h
theorem gauge.drewN {w : World} {g : Nat} {y x n : Int} (h : gauge w g y x n) (k : Nat) : gauge (w.drewN k) g y x n := h

/-- how far two ways differ; a step of the sixteenfold jitter -/
def apd (a b : Int) : Int := if far32 a b < 0 then - far32 a b else far32 a b
def jstep (x d : Int) : Int := if x + d - (x + 8) / 16 > 4294967295 then 4294967295 else x + d - (x + 8) / 16
theorem apd_bd (a b : Int) : 0 ≤ apd a b ∧ apd a b ≤ 2147483648 := by unfold apd; have := far32_bd a b; split <;> omega
theorem jstep_bd {x d : Int} (hx : 0 ≤ x) (hd : 0 ≤ d) : 0 ≤ jstep x d ∧ jstep x d ≤ 4294967295 := by unfold jstep; split <;> omega

theorem apart_any (a b : Int) (w : World) :
    Calls Try.prog 52 #[.int .u32 a, .int .u32 b] w fun e w' => e = .returned (.int .u64 (apd a b)) ∧ w = w' := by
  have hb := far32_bd a b
  go_enter Try.func52, Try.ntmps52
  go_wp2_with (go_at_call 22; refine (gone_any _ _ _).mono ?_; rintro e w' ⟨rfl, rfl⟩)
  all_goals
    go_ret
    exact ⟨ret_int (by unfold apd; split <;> first | omega | go_arith), rfl⟩

theorem sixteen_any (g : Nat) (y x n : Int) (w : World) (hg : gauge w g y x n) :
    Calls Try.prog 47 #[.pointer (some ⟨g, 0, none⟩)] w fun e w' => e = .returned (.int .u64 x) ∧ w = w' := by
  have h1 := hg.c1
  go_enter Try.func47, Try.ntmps47
  go_wp2
  go_ret
  exact ⟨rfl, rfl⟩
theorem count_any (g : Nat) (y x n : Int) (w : World) (hg : gauge w g y x n) :
    Calls Try.prog 49 #[.pointer (some ⟨g, 0, none⟩)] w fun e w' => e = .returned (.int .i64 n) ∧ w = w' := by
  have h1 := hg.c2
  go_enter Try.func49, Try.ntmps49
  go_wp2
  go_ret
  exact ⟨rfl, rfl⟩
theorem now_any (g : Nat) (y x n : Int) (w : World) (hg : gauge w g y x n) (hx : 0 ≤ x) (hx2 : x ≤ 4294967295) :
    Calls Try.prog 48 #[.pointer (some ⟨g, 0, none⟩)] w fun e w' => e = .returned (.int .u32 (x / 16)) ∧ w = w' := by
  go_enter Try.func48, Try.ntmps48
  go_wp2_with (go_at_call 47; refine (sixteen_any _ _ _ _ _ hg).mono ?_; rintro e w' ⟨rfl, rfl⟩)
  go_ret
  exact ⟨ret_int (by first | rfl | omega | go_arith), rfl⟩

theorem take_first (g : Nat) (c s : Int) (w : World) (hg : gauge w g 0 0 0) :
    Calls Try.prog 45 #[.pointer (some ⟨g, 0, none⟩), .int .u32 c, .int .u32 s] w fun e w' => e = .returned (.tuple #[]) ∧ gauge w' g ((c - s) % 4294967296) 0 1 ∧ Keeps g w w' := by
  have h0 := hg.c0
  have h1 := hg.c1
  have h2 := hg.c2
  have f0 := hg.fr 0
  have f1 := hg.fr 1
  have f2 := hg.fr 2
  go_enter Try.func45, Try.ntmps45
  go_wp2
  go_returns
  refine ⟨rfl, ?_, by (repeat (first | exact Keeps.refl _ _ | exact hkk | refine Keeps.alloc ?_ _ | refine Keeps.drew ?_ | refine Keeps.drewN ?_ _ | refine Keeps.setCell ?_ (by first | (left; rfl) | (right; first | (simp; done) | (simp; omega) | (simp [size_drewN]; done) | (simp [size_drewN]; omega))) _))⟩
  unfold gauge at hg ⊢
  simp [heap_set, hg, putIn]
theorem take_next (g : Nat) (y x n c s : Int) (w : World) (hg : gauge w g y x n) (hn : 1 ≤ n) (hn2 : n ≤ 1000000) (hx : 0 ≤ x) (hx2 : x ≤ 4294967295) :
    Calls Try.prog 45 #[.pointer (some ⟨g, 0, none⟩), .int .u32 c, .int .u32 s] w fun e w' => e = .returned (.tuple #[]) ∧ gauge w' g ((c - s) % 4294967296) (jstep x (apd y ((c - s) % 4294967296))) (n + 1) ∧ Keeps g w w' := by
  have h0 := hg.c0
  have h1 := hg.c1
  have h2 := hg.c2
  have f0 := hg.fr 0
  have f1 := hg.fr 1
  have f2 := hg.fr 2
  have hne : (n == 0) = false := by simp; omega
  have hb := apd_bd y ((c - s) % 4294967296)
  by_cases hj : x + apd y ((c - s) % 4294967296) - (x + 8) / 16 > 4294967295
  · have hJ : jstep x (apd y ((c - s) % 4294967296)) = 4294967295 := by unfold jstep; rw [if_pos hj]
    have HJ := Lib.hid hJ
    clear hJ
    go_enter Try.func45, Try.ntmps45
    go_wp2_with (go_at_call 52; refine (apart_any _ _ _).mono ?_; rintro e w' ⟨rfl, rfl⟩)
    go_region
    go_wp2_with fail
    go_returns
    refine ⟨rfl, ?_, by (repeat (first | exact Keeps.refl _ _ | exact hkk | refine Keeps.alloc ?_ _ | refine Keeps.drew ?_ | refine Keeps.drewN ?_ _ | refine Keeps.setCell ?_ (by first | (left; rfl) | (right; first | (simp; done) | (simp; omega) | (simp [size_drewN]; done) | (simp [size_drewN]; omega))) _))⟩
    rw [HJ.out]
    unfold gauge at hg ⊢
    simp [heap_drew, heap_set, hg, putIn]
  · have hJ : jstep x (apd y ((c - s) % 4294967296)) = x + apd y ((c - s) % 4294967296) - (x + 8) / 16 := by unfold jstep; rw [if_neg hj]
    have HJ := Lib.hid hJ
    clear hJ
    go_enter Try.func45, Try.ntmps45
    go_wp2_with (go_at_call 52; refine (apart_any _ _ _).mono ?_; rintro e w' ⟨rfl, rfl⟩)
    go_region
    go_wp2_with fail
    go_returns
    refine ⟨rfl, ?_, by (repeat (first | exact Keeps.refl _ _ | exact hkk | refine Keeps.alloc ?_ _ | refine Keeps.drew ?_ | refine Keeps.drewN ?_ _ | refine Keeps.setCell ?_ (by first | (left; rfl) | (right; first | (simp; done) | (simp; omega) | (simp [size_drewN]; done) | (simp [size_drewN]; omega))) _))⟩
    rw [HJ.out]
    unfold gauge at hg ⊢
    simp [heap_drew, heap_set, hg, putIn]

theorem take_nil (c s : Int) (w : World) :
    Calls Try.prog 45 #[.pointer none, .int .u32 c, .int .u32 s] w fun e w' => e = .returned (.tuple #[]) ∧ w = w' := by
  go_enter Try.func45, Try.ntmps45
  go_wp2
  go_returns
  exact ⟨rfl, rfl⟩

theorem alive18_any (w : World) : Calls Try.prog 44 #[] w fun e w' => e = .returned (.bool true) ∧ Below w.heap.size w w' := by
  go_enter Try.func44, Try.ntmps44
  go_wp2_with fail
  have g0 : gauge (w.alloc (.cells #[.int .u32 0, .int .u64 0, .int .i64 0] 64)) w.heap.size 0 0 0 := by unfold gauge; rw [heap_alloc, if_pos rfl]
  have b0 : Below w.heap.size w (w.alloc (.cells #[.int .u32 0, .int .u64 0, .int .i64 0] 64)) := by (repeat (first | exact Below.refl _ _ | refine Below.alloc ?_ (by first | (simp; done) | (simp; omega) | (simp [size_drewN]; done) | (simp [size_drewN]; omega)) _ | refine Below.drew ?_ | refine below_drewN0 ?_ _ | refine Below.setCell ?_ (by first | (simp; done) | (simp; omega) | (simp [size_drewN]; done) | (simp [size_drewN]; omega)) _))
  refine (take_first _ 0 0 _ g0).mono ?_
  rintro e w1 ⟨rfl, g1, k1⟩
  have b1 := Below.keeps b0 (by simp) (by omega) k1
  go_wp2_with fail
  refine (take_next _ 0 0 1 10 10 _ g1 (by omega) (by omega) (by omega) (by omega)).mono ?_
  rintro e w2 ⟨rfl, g2', k2⟩
  have g2 : gauge w2 w.heap.size 0 0 2 := g2'
  have b2 := Below.keeps b1 (by have := b1.size; omega) (by omega) k2
  clear g2'
  go_wp2_with fail
  refine (take_next _ 0 0 2 35 20 _ g2 (by omega) (by omega) (by omega) (by omega)).mono ?_
  rintro e w3 ⟨rfl, g3', k3⟩
  have g3 : gauge w3 w.heap.size 15 15 3 := g3'
  have b3 := Below.keeps b2 (by have := b2.size; omega) (by omega) k3
  clear g3'
  go_wp2_with (first | (go_at_call 47; refine (sixteen_any _ _ _ _ _ g3).mono ?_; rintro e w' ⟨rfl, rfl⟩) | (go_at_call 48; refine (now_any _ _ _ _ _ g3 (by omega) (by omega)).mono ?_; rintro e w' ⟨rfl, rfl⟩) | (go_at_call 49; refine (count_any _ _ _ _ _ g3).mono ?_; rintro e w' ⟨rfl, rfl⟩))
  go_ret
  exact ⟨rfl, b3⟩
end Go.Proofs.Ytgkjgefnialleaa
