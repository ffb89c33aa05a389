/-
  Contracts of package coalesce: a gate is a block of four cells.
-/
import Derived.Test.YtgkjgefnialleaaBase
import Derived.Test.YtgkjgefnialleaaProg
namespace Go.Proofs.Ytgkjgefnialleaa
open Go.RowKit
set_option linter.unusedVariables false
set_option linter.unusedSimpArgs false

/-- block g is a gate -/
def gate (w : World) (g : Nat) (N L S : Int) (A : Bool) : Prop := w.heap[g]? = some (.cells #[.int .i64 N, .int .i64 L, .int .i64 S, .bool A] 77 (0, 0))
theorem gate.c0 {w : World} {g : Nat} {N L S : Int} {A : Bool} (h : gate w g N L S A) : w.cell? ⟨g, 0, none⟩ = some (.int .i64 N) := cell_blk h
theorem gate.c1 {w : World} {g : Nat} {N L S : Int} {A : Bool} (h : gate w g N L S A) : w.cell? ⟨g, 1, none⟩ = some (.int .i64 L) := cell_blk h
theorem gate.c2 {w : World} {g : Nat} {N L S : Int} {A : Bool} (h : gate w g N L S A) : w.cell? ⟨g, 2, none⟩ = some (.int .i64 S) := cell_blk h
theorem gate.c3 {w : World} {g : Nat} {N L S : Int} {A : Bool} (h : gate w g N L S A) : w.cell? ⟨g, 3, none⟩ = some (.bool A) := cell_blk h
theorem gate.fr {w : World} {g : Nat} {N L S : Int} {A : Bool} (h : gate w g N L S A) (i : Nat) : w.frozen? ⟨g, i, none⟩ = false := free_blk h
theorem gate.lt {w : World} {g : Nat} {N L S : Int} {A : Bool} (h : gate w g N L S A) : g < w.heap.size := lt_of_block h
theorem gate.drewN {w : World} {g : Nat} {N L S : Int} {A : Bool} (h : gate w g N L S A) (n : Nat) : gate (w.drewN n) g N L S A := h
theorem gate.keeps {w w' : World} {g b : Nat} {N L S : Int} {A : Bool} (h : gate w g N L S A) (k : Keeps b w w') (hb : g ≠ b) : gate w' g N L S A := k.blk h hb

theorem new_any (n : Int) (w : World) :
    Calls Try.prog 25 #[.int .i64 n] w fun e w' => e = .returned (.pointer (some ⟨w.heap.size, 0, none⟩)) ∧ gate w' w.heap.size (max n 1) 0 0 false ∧ Below w.heap.size w w' := by
  rcases Int.lt_or_le n 1 with h | h
  · go_enter Try.func25, Try.ntmps25
    go_wp2
    go_ret
    exact ⟨rfl, by rw [Int.max_eq_right (by omega)]; (unfold gate; rw [heap_alloc, if_pos rfl]), by (repeat (first | exact Below.refl _ _ | refine Below.alloc ?_ (by first | (simp; done) | (simp; omega) | (simp [size_drewN]; done) | (simp [size_drewN]; omega)) _ | refine Below.drew ?_ | refine below_drewN0 ?_ _ | refine Below.setCell ?_ (by first | (simp; done) | (simp; omega) | (simp [size_drewN]; done) | (simp [size_drewN]; omega)) _))⟩
  · go_enter Try.func25, Try.ntmps25
    go_wp2
    go_ret
    exact ⟨rfl, by rw [Int.max_eq_left h]; (unfold gate; rw [heap_alloc, if_pos rfl]), by (repeat (first | exact Below.refl _ _ | refine Below.alloc ?_ (by first | (simp; done) | (simp; omega) | (simp [size_drewN]; done) | (simp [size_drewN]; omega)) _ | refine Below.drew ?_ | refine below_drewN0 ?_ _ | refine Below.setCell ?_ (by first | (simp; done) | (simp; omega) | (simp [size_drewN]; done) | (simp [size_drewN]; omega)) _))⟩

theorem set_any (g : Nat) (N L S : Int) (A a : Bool) (w : World) (hg : gate w g N L S A) :
    Calls Try.prog 50 #[.pointer (some ⟨g, 0, none⟩), .bool a] w fun e w' => e = .returned (.tuple #[]) ∧ gate w' g N L S a ∧ Keeps g w w' := by
  have h3 := hg.c3
  have hf := hg.fr 3
  go_enter Try.func50, Try.ntmps50
  go_wp2
  go_end0
  exact ⟨rfl, by unfold gate at hg ⊢; simp [heap_set, hg, putIn], by (repeat (first | exact Keeps.refl _ _ | exact hkk | refine Keeps.alloc ?_ _ | refine Keeps.drew ?_ | refine Keeps.drewN ?_ _ | refine Keeps.setCell ?_ (by first | (left; rfl) | (right; first | (simp; done) | (simp; omega) | (simp [size_drewN]; done) | (simp [size_drewN]; omega))) _))⟩
theorem ask_any (g : Nat) (N L S : Int) (A : Bool) (w : World) (hg : gate w g N L S A) :
    Calls Try.prog 26 #[.pointer (some ⟨g, 0, none⟩)] w fun e w' => e = .returned (.tuple #[]) ∧ gate w' g N L S true ∧ Keeps g w w' := by
  go_enter Try.func26, Try.ntmps26
  go_wp2_with (go_at_call 50; refine (set_any _ _ _ _ _ _ _ hg).mono ?_; rintro e w' ⟨rfl, hg', hk⟩)
  go_end0
  exact ⟨rfl, hg', hk⟩
theorem came_any (g : Nat) (N L S : Int) (A : Bool) (w : World) (hg : gate w g N L S A) :
    Calls Try.prog 30 #[.pointer (some ⟨g, 0, none⟩)] w fun e w' => e = .returned (.tuple #[]) ∧ gate w' g N L S false ∧ Keeps g w w' := by
  go_enter Try.func30, Try.ntmps30
  go_wp2_with (go_at_call 50; refine (set_any _ _ _ _ _ _ _ hg).mono ?_; rintro e w' ⟨rfl, hg', hk⟩)
  go_end0
  exact ⟨rfl, hg', hk⟩
theorem asked_any (g : Nat) (N L S : Int) (A : Bool) (w : World) (hg : gate w g N L S A) :
    Calls Try.prog 31 #[.pointer (some ⟨g, 0, none⟩)] w fun e w' => e = .returned (.bool A) ∧ w = w' := by
  have h3 := hg.c3
  go_enter Try.func31, Try.ntmps31
  go_wp2
  go_ret
  exact ⟨rfl, rfl⟩
theorem sent_any (g : Nat) (N L S : Int) (A : Bool) (w : World) (hg : gate w g N L S A) :
    Calls Try.prog 32 #[.pointer (some ⟨g, 0, none⟩)] w fun e w' => e = .returned (.int .i64 S) ∧ w = w' := by
  have h2 := hg.c2
  go_enter Try.func32, Try.ntmps32
  go_wp2
  go_ret
  exact ⟨rfl, rfl⟩

/-- may a gate be due now? -/
def opn (t N L S : Int) : Bool := decide (S = 0) || (decide (L ≤ t) && decide (N ≤ t - L))

theorem open_any (g : Nat) (p q : Nat) (t N L S : Int) (A : Bool) (w : World) (hg : gate w g N L S A) (hp : w.cell? ⟨p, 0, none⟩ = some (.pointer (some ⟨g, 0, none⟩))) (hq : w.cell? ⟨q, 0, none⟩ = some (.int .i64 t))
    (hb : L ≤ t → t - L ≤ 9223372036854775807) :
    Calls Try.prog 51 #[.pointer (some ⟨p, 0, none⟩), .pointer (some ⟨q, 0, none⟩)] w fun e w' => e = .returned (.bool (opn t N L S)) ∧ ∃ n, w' = w.drewN n := by
  have h0 := hg.c0
  have h1 := hg.c1
  have h2 := hg.c2
  by_cases c1 : S = 0
  · subst c1
    go_enter Try.func51, Try.ntmps51
    go_wp2
    go_quiet (fail)
    go_wp2
    go_ret
    exact ⟨ret_bool (by simp [opn]), _, rfl⟩
  have e1 : (S == 0) = false := by simpa using c1
  by_cases c2 : L ≤ t
  · have hb' := hb c2
    have hb2 : 0 ≤ t - L := by omega
    by_cases c3 : N ≤ t - L
    · have e3 : decide (N ≤ t - L) = true := by simpa using c3
      go_enter Try.func51, Try.ntmps51
      go_wp2
      go_quiet (fail)
      go_wp2
      go_ret
      exact ⟨ret_bool (by simp [opn, c1, c2, c3]), _, rfl⟩
    · have e3 : decide (N ≤ t - L) = false := by simpa using c3
      go_enter Try.func51, Try.ntmps51
      go_wp2
      go_quiet (fail)
      go_wp2
      go_ret
      exact ⟨ret_bool (by simp [opn, c1, c2, c3]), _, rfl⟩
  · have e2 : decide (L ≤ t) = false := by simpa using c2
    go_enter Try.func51, Try.ntmps51
    go_wp2
    go_quiet (fail)
    go_wp2
    go_ret
    exact ⟨ret_bool (by simp [opn, c1, Int.not_le.2 c2]), _, rfl⟩

/-- what a gate answers, and what it is then -/
def dueB (A : Bool) (t N L S : Int) : Bool := A && opn t N L S
def dueL (A : Bool) (t N L S : Int) : Int := if dueB A t N L S then t else L
def dueS (A : Bool) (t N L S : Int) : Int := if dueB A t N L S then S + 1 else S
def dueA (A : Bool) (t N L S : Int) : Bool := A && !dueB A t N L S

theorem due_any (g : Nat) (t N L S : Int) (A : Bool) (w : World) (hg : gate w g N L S A) (hs : 0 ≤ S) (hs1 : S ≤ 1000) (hb : L ≤ t → t - L ≤ 9223372036854775807) :
    Calls Try.prog 27 #[.pointer (some ⟨g, 0, none⟩), .int .i64 t] w fun e w' => e = .returned (.bool (dueB A t N L S)) ∧
      gate w' g N (dueL A t N L S) (dueS A t N L S) (dueA A t N L S) ∧ Keeps g w w' := by
  have h0 := hg.c0
  have h1 := hg.c1
  have h2 := hg.c2
  have h3 := hg.c3
  have hf1 := hg.fr 1
  have hf2 := hg.fr 2
  have hf3 := hg.fr 3
  have hlt := hg.lt
  have hne : ¬ g = w.heap.size := by omega
  have hne1 : ¬ g = w.heap.size + 1 := by omega
  have hg2 : gate ((w.alloc (.cells #[.pointer (some ⟨g, 0, none⟩)] 34)).alloc (.cells #[.int .i64 t] 2)) g N L S A := by
    unfold gate at hg ⊢; simp only [heap_alloc, World.size_alloc, if_neg hne, if_neg hne1]; exact hg
  cases A
  · go_enter Try.func27, Try.ntmps27
    go_wp2
    go_ret
    exact ⟨rfl, hg2, by (repeat (first | exact Keeps.refl _ _ | exact hkk | refine Keeps.alloc ?_ _ | refine Keeps.drew ?_ | refine Keeps.drewN ?_ _ | refine Keeps.setCell ?_ (by first | (left; rfl) | (right; first | (simp; done) | (simp; omega) | (simp [size_drewN]; done) | (simp [size_drewN]; omega))) _))⟩
  · cases ho : opn t N L S
    · have ho' : dueB true t N L S = false := by simp [dueB, ho]
      have r1 : dueL true t N L S = L := by simp [dueL, ho']
      have r2 : dueS true t N L S = S := by simp [dueS, ho']
      have r3 : dueA true t N L S = true := by simp [dueA, ho']
      go_enter Try.func27, Try.ntmps27
      go_wp2_with (first | (go_at_call 51; refine (open_any g _ _ t N L S true _ hg2 (by simp) (by simp) hb).mono ?_; rintro e w' ⟨rfl, nn, rfl⟩) | (go_at_call 31; refine (asked_any _ _ _ _ true _ hg2).mono ?_; rintro e w' ⟨rfl, rfl⟩))
      go_ret
      exact ⟨ret_bool ho'.symm, by rw [r1, r2, r3]; exact hg2, by (repeat (first | exact Keeps.refl _ _ | exact hkk | refine Keeps.alloc ?_ _ | refine Keeps.drew ?_ | refine Keeps.drewN ?_ _ | refine Keeps.setCell ?_ (by first | (left; rfl) | (right; first | (simp; done) | (simp; omega) | (simp [size_drewN]; done) | (simp [size_drewN]; omega))) _))⟩
    · have ho' : dueB true t N L S = true := by simp [dueB, ho]
      have r1 : dueL true t N L S = t := by simp [dueL, ho']
      have r2 : dueS true t N L S = S + 1 := by simp [dueS, ho']
      have r3 : dueA true t N L S = false := by simp [dueA, ho']
      go_enter Try.func27, Try.ntmps27
      go_wp2_with (first | (go_at_call 51; refine (open_any g _ _ t N L S true _ hg2 (by simp) (by simp) hb).mono ?_; rintro e w' ⟨rfl, nn, rfl⟩) | (go_at_call 31; refine (asked_any _ _ _ _ true _ hg2).mono ?_; rintro e w' ⟨rfl, rfl⟩) | (go_at_call 50; fail))
      refine (set_any g N L S true false _ (hg2.drewN nn)).mono ?_
      rintro e w1 ⟨rfl, hg3, hk⟩
      clear h0 h1 h2 h3 hf1 hf2 hf3
      have p0 := hk.cell (q := w.heap.size) (i := 0) (v := .pointer (some ⟨g, 0, none⟩)) (by simp) (by omega)
      have p1 := hk.cell (q := w.heap.size + 1) (i := 0) (v := .int .i64 t) (by simp) (by omega)
      have h1 := hg3.c1
      have h2 := hg3.c2
      have hf1 := hg3.fr 1
      have hf2 := hg3.fr 2
      have hkk : Keeps g w w1 := Keeps.trans (by (repeat (first | exact Keeps.refl _ _ | exact hkk | refine Keeps.alloc ?_ _ | refine Keeps.drew ?_ | refine Keeps.drewN ?_ _ | refine Keeps.setCell ?_ (by first | (left; rfl) | (right; first | (simp; done) | (simp; omega) | (simp [size_drewN]; done) | (simp [size_drewN]; omega))) _))) hk
      go_wp2
      go_region
      all_goals
        go_wp2
        go_ret
        refine ⟨ret_bool ho'.symm, ?_, by (repeat (first | exact Keeps.refl _ _ | exact hkk | refine Keeps.alloc ?_ _ | refine Keeps.drew ?_ | refine Keeps.drewN ?_ _ | refine Keeps.setCell ?_ (by first | (left; rfl) | (right; first | (simp; done) | (simp; omega) | (simp [size_drewN]; done) | (simp [size_drewN]; omega))) _))⟩
        rw [r1, r2, r3]
        unfold gate at hg3 ⊢
        simp [heap_drew, heap_set, hg3, putIn]

set_option maxHeartbeats 1000000 in
theorem alive24_any (w : World) : Calls Try.prog 24 #[] w fun e w' => e = .returned (.bool true) ∧ Below w.heap.size w w' := by
  go_enter Try.func24, Try.ntmps24
  go_wp2_with fail
  refine (new_any 5 _).mono ?_
  rintro e w1 ⟨rfl, g1, b1⟩
  have hs1 := g1.lt
  go_wp2_with fail
  refine (ask_any _ _ _ _ _ _ g1).mono ?_
  rintro e w2 ⟨rfl, g2, k2⟩
  have b2 := Below.keeps b1 (by omega) (by omega) k2
  go_wp2_with fail
  refine (due_any _ 0 5 0 0 true _ g2 (by decide) (by decide) (by decide)).mono ?_
  rintro e w3 ⟨rfl, g3', k3⟩
  have g3 : gate w3 w.heap.size 5 0 1 false := g3'
  have b3 := Below.keeps b2 (by have := k2.size; omega) (by omega) k3
  have e3 : dueB true 0 5 0 0 = true := rfl
  clear g3'
  go_wp2_with fail
  refine (ask_any _ _ _ _ _ _ g3).mono ?_
  rintro e w4 ⟨rfl, g4, k4⟩
  have b4 := Below.keeps b3 (by have := b3.size; omega) (by omega) k4
  go_wp2_with fail
  refine (due_any _ 3 5 0 1 true _ g4 (by decide) (by decide) (by decide)).mono ?_
  rintro e w5 ⟨rfl, g5', k5⟩
  have g5 : gate w5 w.heap.size 5 0 1 true := g5'
  have b5 := Below.keeps b4 (by have := b4.size; omega) (by omega) k5
  have e5 : dueB true 3 5 0 1 = false := rfl
  clear g5'
  go_wp2_with fail
  refine (due_any _ 5 5 0 1 true _ g5 (by decide) (by decide) (by decide)).mono ?_
  rintro e w6 ⟨rfl, g6', k6⟩
  have g6 : gate w6 w.heap.size 5 5 2 false := g6'
  have b6 := Below.keeps b5 (by have := b5.size; omega) (by omega) k6
  have e6 : dueB true 5 5 0 1 = true := rfl
  clear g6'
  go_wp2_with fail
  refine (due_any _ 9 5 5 2 false _ g6 (by decide) (by decide) (by decide)).mono ?_
  rintro e w7 ⟨rfl, g7', k7⟩
  have g7 : gate w7 w.heap.size 5 5 2 false := g7'
  have b7 := Below.keeps b6 (by have := b6.size; omega) (by omega) k7
  have e7 : dueB false 9 5 5 2 = false := rfl
  clear g7'
  go_wp2_with fail
  refine (sent_any _ _ _ _ _ _ g7).mono ?_
  rintro e w8 ⟨rfl, rfl⟩
  go_wp2
  go_ret
  exact ⟨rfl, b7⟩
end Go.Proofs.Ytgkjgefnialleaa
