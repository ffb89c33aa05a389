/-
  Contracts of package layers.
-/
import Derived.Test.YtkdjkaimcciemaaBase
import Derived.Test.YtkdjkaimcciemaaProg
namespace Go.Proofs.Ytkdjkaimcciemaa
open Go.RowKit
set_option linter.unusedVariables false
set_option linter.unusedSimpArgs false

/-- block g is a chooser -/
def chsr (w : World) (g : Nat) (m d s : Int) : Prop := w.heap[g]? = some (.cells #[.int .i64 m, .int .i64 d, .int .i64 s] 125 (0, 0))
theorem chsr.c0 {w : World} {g : Nat} {m d s : Int} (h : chsr w g m d s) : w.cell? ⟨g, 0, none⟩ = some (.int .i64 m) := cell_blk h
theorem chsr.c1 {w : World} {g : Nat} {m d s : Int} (h : chsr w g m d s) : w.cell? ⟨g, 1, none⟩ = some (.int .i64 d) := cell_blk h
theorem chsr.c2 {w : World} {g : Nat} {m d s : Int} (h : chsr w g m d s) : w.cell? ⟨g, 2, none⟩ = some (.int .i64 s) := cell_blk h
theorem chsr.fr {w : World} {g : Nat} {m d s : Int} (h : chsr w g m d s) (i : Nat) : w.frozen? ⟨g, i, none⟩ = false := free_blk h
theorem chsr.lt {w : World} {g : Nat} {m d s : Int} (h : chsr w g m d s) : g < w.heap.size := lt_of_block h
theorem chsr.drewN {w : World} {g : Nat} {m d s : Int} (h : chsr w g m d s) (n : Nat) : chsr (w.drewN n) g m d s := h

theorem lnew_no (m : Int) (w : World) (h : m < 1 ∨ 4 < m) :
    Calls Try.prog 46 #[.int .i64 m] w fun e w' => e = .returned (.pointer none) ∧ w = w' := by
  rcases h with h | h
  · go_enter Try.func46, Try.ntmps46
    go_wp2
    go_ret
    exact ⟨rfl, rfl⟩
  · have h2 : ¬ m < 1 := by omega
    go_enter Try.func46, Try.ntmps46
    go_wp2
    go_ret
    exact ⟨rfl, rfl⟩
theorem lnew_any (m : Int) (w : World) (h1 : 1 ≤ m) (h2 : m ≤ 4) :
    Calls Try.prog 46 #[.int .i64 m] w fun e w' => e = .returned (.pointer (some ⟨w.heap.size, 0, none⟩)) ∧ chsr w' w.heap.size m (-1) (-1) ∧ Below w.heap.size w w' := by
  go_enter Try.func46, Try.ntmps46
  go_wp2
  go_ret
  exact ⟨rfl, by (unfold chsr; rw [heap_alloc, if_pos rfl]), by (repeat (first | exact Below.refl _ _ | refine Below.alloc ?_ (by first | (simp; done) | (simp; omega) | (simp [size_drewN]; done) | (simp [size_drewN]; omega)) _ | refine Below.drew ?_ | refine below_drewN0 ?_ _ | refine Below.setCell ?_ (by first | (simp; done) | (simp; omega) | (simp [size_drewN]; done) | (simp [size_drewN]; omega)) _))⟩
theorem goes_any (g : Nat) (m d s : Int) (w : World) (hg : chsr w g m d s) :
    Calls Try.prog 47 #[.pointer (some ⟨g, 0, none⟩)] w fun e w' => e = .returned (.int .i64 s) ∧ w = w' := by
  have h2 := hg.c2
  go_enter Try.func47, Try.ntmps47
  go_wp2
  go_ret
  exact ⟨rfl, rfl⟩
theorem wanted_any (g : Nat) (m d s : Int) (w : World) (hg : chsr w g m d s) :
    Calls Try.prog 49 #[.pointer (some ⟨g, 0, none⟩)] w fun e w' => e = .returned (.int .i64 d) ∧ w = w' := by
  have h2 := hg.c1
  go_enter Try.func49, Try.ntmps49
  go_wp2
  go_ret
  exact ⟨rfl, rfl⟩

/-- what is wanted then; what goes then -/
def isL (m x : Int) : Bool := decide (0 ≤ x) && decide (x < m)
def wantOk (m x : Int) : Bool := decide (x = -1) || isL m x
theorem want_any (g : Nat) (m d s x : Int) (w : World) (hg : chsr w g m d s) :
    Calls Try.prog 48 #[.pointer (some ⟨g, 0, none⟩), .int .i64 x] w fun e w' => e = .returned (.int .i64 (bif wantOk m x then 0 else 9)) ∧
      chsr w' g m (bif wantOk m x then x else d) (bif x == -1 then -1 else s) ∧ Keeps g w w' := by
  have h0 := hg.c0
  have f1 := hg.fr 1
  have h1 := hg.c1
  have f2 := hg.fr 2
  have h2 := hg.c2
  by_cases c0 : x = -1
  · subst c0
    have e1 : wantOk m (-1) = true := by simp [wantOk]
    have HE := Lib.hid e1
    clear e1
    go_enter Try.func48, Try.ntmps48
    go_wp2
    go_returns
    refine ⟨ret_int (by rw [HE.out]; rfl), ?_, by (repeat (first | exact Keeps.refl _ _ | exact hkk | refine Keeps.alloc ?_ _ | refine Keeps.drew ?_ | refine Keeps.drewN ?_ _ | refine Keeps.setCell ?_ (by first | (left; rfl) | (right; first | (simp; done) | (simp; omega) | (simp [size_drewN]; done) | (simp [size_drewN]; omega))) _))⟩
    rw [HE.out]
    unfold chsr at hg ⊢
    simp [heap_set, hg, putIn]
  · have hx : (x == -1) = false := by simpa using c0
    by_cases c1 : 0 ≤ x
    · by_cases c2 : x < m
      · have e1 : wantOk m x = true := by simp [wantOk, isL, c1, c2]
        have HE := Lib.hid e1
        clear e1
        go_enter Try.func48, Try.ntmps48
        go_wp2
        go_returns
        refine ⟨ret_int (by rw [HE.out]; rfl), ?_, by (repeat (first | exact Keeps.refl _ _ | exact hkk | refine Keeps.alloc ?_ _ | refine Keeps.drew ?_ | refine Keeps.drewN ?_ _ | refine Keeps.setCell ?_ (by first | (left; rfl) | (right; first | (simp; done) | (simp; omega) | (simp [size_drewN]; done) | (simp [size_drewN]; omega))) _))⟩
        rw [HE.out, hx]
        unfold chsr at hg ⊢
        simp [heap_set, hg, putIn]
      · have e1 : wantOk m x = false := by simp [wantOk, isL, c0, c1]; omega
        have HE := Lib.hid e1
        clear e1
        go_enter Try.func48, Try.ntmps48
        go_wp2
        go_returns
        refine ⟨ret_int (by rw [HE.out]; rfl), ?_, by (repeat (first | exact Keeps.refl _ _ | exact hkk | refine Keeps.alloc ?_ _ | refine Keeps.drew ?_ | refine Keeps.drewN ?_ _ | refine Keeps.setCell ?_ (by first | (left; rfl) | (right; first | (simp; done) | (simp; omega) | (simp [size_drewN]; done) | (simp [size_drewN]; omega))) _))⟩
        rw [HE.out]
        exact hg
    · have e1 : wantOk m x = false := by simp [wantOk, isL, c0]; omega
      have HE := Lib.hid e1
      clear e1
      go_enter Try.func48, Try.ntmps48
      go_wp2
      go_returns
      refine ⟨ret_int (by rw [HE.out]; rfl), ?_, by (repeat (first | exact Keeps.refl _ _ | exact hkk | refine Keeps.alloc ?_ _ | refine Keeps.drew ?_ | refine Keeps.drewN ?_ _ | refine Keeps.setCell ?_ (by first | (left; rfl) | (right; first | (simp; done) | (simp; omega) | (simp [size_drewN]; done) | (simp [size_drewN]; omega))) _))⟩
      rw [HE.out]
      exact hg

theorem needs_any (g : Nat) (m d s : Int) (w : World) (hg : chsr w g m d s) :
    Calls Try.prog 54 #[.pointer (some ⟨g, 0, none⟩)] w fun e w' => e = .returned (.bool (d != s)) ∧ w = w' := by
  go_enter Try.func54, Try.ntmps54
  go_wp2_with (first | (go_at_call 47; refine (goes_any _ _ _ _ _ hg).mono ?_; rintro e w' ⟨rfl, rfl⟩) | (go_at_call 49; refine (wanted_any _ _ _ _ _ hg).mono ?_; rintro e w' ⟨rfl, rfl⟩))
  go_ret
  exact ⟨rfl, rfl⟩

/-- is a packet taken, was it turned to -/
def takeOk (m d s x : Int) (k : Bool) : Bool := isL m x && (decide (x = s) || (decide (x = d) && k))
def takeTurn (m d s x : Int) (k : Bool) : Bool := isL m x && !decide (x = s) && (decide (x = d) && k)
set_option maxRecDepth 100000 in
set_option maxHeartbeats 2000000 in
theorem take_any (g : Nat) (m d s x : Int) (k : Bool) (w : World) (hg : chsr w g m d s) :
    Calls Try.prog 50 #[.pointer (some ⟨g, 0, none⟩), .int .i64 x, .bool k] w fun e w' => e = .returned (.tuple #[.bool (takeOk m d s x k), .bool (takeTurn m d s x k)]) ∧
      chsr w' g m d (bif takeTurn m d s x k then x else s) ∧ Keeps g w w' := by
  have h0 := hg.c0
  have f1 := hg.fr 1
  have h1 := hg.c1
  have f2 := hg.fr 2
  have h2 := hg.c2
  have i0 : ∀ W, (Instr.index 127 (.agg #[.func (.func 65) #[.pointer (some ⟨g, 0, none⟩)] #[], .func (.func 66) #[.pointer (some ⟨g, 0, none⟩)] #[]]) (.int .i64 0)).run Try.prog W = .ok (.func (.func 65) #[.pointer (some ⟨g, 0, none⟩)] #[]) W := fun _ => by kernel_rfl
  have i1 : ∀ W, (Instr.index 127 (.agg #[.func (.func 65) #[.pointer (some ⟨g, 0, none⟩)] #[], .func (.func 66) #[.pointer (some ⟨g, 0, none⟩)] #[]]) (.int .i64 1)).run Try.prog W = .ok (.func (.func 66) #[.pointer (some ⟨g, 0, none⟩)] #[]) W := fun _ => by kernel_rfl
  by_cases c1 : 0 ≤ x
  · by_cases c2 : x < m
    · by_cases c3 : x = s
      · subst c3
        have e1 : takeOk m d x x k = true ∧ takeTurn m d x x k = false := by simp [takeOk, takeTurn, isL, c1, c2]
        have HE := Lib.hid e1
        clear e1
        have hxx : (x == x) = true := by simp
        go_enter Try.func50, Try.ntmps50
        go_wp2
        go_rounds 3
        go_returns
        rw [HE.out.1, HE.out.2]
        unfold chsr at hg ⊢
        exact ⟨rfl, by simp [heap_set, hg, putIn], by (repeat (first | exact Keeps.refl _ _ | exact hkk | refine Keeps.alloc ?_ _ | refine Keeps.drew ?_ | refine Keeps.drewN ?_ _ | refine Keeps.setCell ?_ (by first | (left; rfl) | (right; first | (simp; done) | (simp; omega) | (simp [size_drewN]; done) | (simp [size_drewN]; omega))) _))⟩
      · have h3 : (x == s) = false := by simpa using c3
        by_cases c4 : x = d
        · subst c4
          have hxx : (x == x) = true := by simp
          cases k
          · have e1 : takeOk m x s x false = false ∧ takeTurn m x s x false = false := by simp [takeOk, takeTurn, c3]
            have HE := Lib.hid e1
            clear e1
            go_enter Try.func50, Try.ntmps50
            go_wp2
            go_rounds 3
            go_returns
            rw [HE.out.1, HE.out.2]
            exact ⟨rfl, hg, by (repeat (first | exact Keeps.refl _ _ | exact hkk | refine Keeps.alloc ?_ _ | refine Keeps.drew ?_ | refine Keeps.drewN ?_ _ | refine Keeps.setCell ?_ (by first | (left; rfl) | (right; first | (simp; done) | (simp; omega) | (simp [size_drewN]; done) | (simp [size_drewN]; omega))) _))⟩
          · have e1 : takeOk m x s x true = true ∧ takeTurn m x s x true = true := by simp [takeOk, takeTurn, isL, c1, c2, c3]
            have HE := Lib.hid e1
            clear e1
            go_enter Try.func50, Try.ntmps50
            go_wp2
            go_rounds 3
            go_returns
            rw [HE.out.1, HE.out.2]
            unfold chsr at hg ⊢
            exact ⟨rfl, by simp [heap_set, hg, putIn], by (repeat (first | exact Keeps.refl _ _ | exact hkk | refine Keeps.alloc ?_ _ | refine Keeps.drew ?_ | refine Keeps.drewN ?_ _ | refine Keeps.setCell ?_ (by first | (left; rfl) | (right; first | (simp; done) | (simp; omega) | (simp [size_drewN]; done) | (simp [size_drewN]; omega))) _))⟩
        · have h4 : (x == d) = false := by simpa using c4
          have e1 : takeOk m d s x k = false ∧ takeTurn m d s x k = false := by simp [takeOk, takeTurn, c3, c4]
          have HE := Lib.hid e1
          clear e1
          go_enter Try.func50, Try.ntmps50
          go_wp2
          go_rounds 3
          go_returns
          rw [HE.out.1, HE.out.2]
          exact ⟨rfl, hg, by (repeat (first | exact Keeps.refl _ _ | exact hkk | refine Keeps.alloc ?_ _ | refine Keeps.drew ?_ | refine Keeps.drewN ?_ _ | refine Keeps.setCell ?_ (by first | (left; rfl) | (right; first | (simp; done) | (simp; omega) | (simp [size_drewN]; done) | (simp [size_drewN]; omega))) _))⟩
    · have e1 : takeOk m d s x k = false ∧ takeTurn m d s x k = false := by simp [takeOk, takeTurn, isL]; omega
      have HE := Lib.hid e1
      clear e1
      go_enter Try.func50, Try.ntmps50
      go_wp2
      go_returns
      rw [HE.out.1, HE.out.2]
      exact ⟨rfl, hg, by (repeat (first | exact Keeps.refl _ _ | exact hkk | refine Keeps.alloc ?_ _ | refine Keeps.drew ?_ | refine Keeps.drewN ?_ _ | refine Keeps.setCell ?_ (by first | (left; rfl) | (right; first | (simp; done) | (simp; omega) | (simp [size_drewN]; done) | (simp [size_drewN]; omega))) _))⟩
  · have e1 : takeOk m d s x k = false ∧ takeTurn m d s x k = false := by simp [takeOk, takeTurn, isL]; omega
    have HE := Lib.hid e1
    clear e1
    go_enter Try.func50, Try.ntmps50
    go_wp2
    go_returns
    rw [HE.out.1, HE.out.2]
    exact ⟨rfl, hg, by (repeat (first | exact Keeps.refl _ _ | exact hkk | refine Keeps.alloc ?_ _ | refine Keeps.drew ?_ | refine Keeps.drewN ?_ _ | refine Keeps.setCell ?_ (by first | (left; rfl) | (right; first | (simp; done) | (simp; omega) | (simp [size_drewN]; done) | (simp [size_drewN]; omega))) _))⟩

theorem alive23_any (w : World) : Calls Try.prog 45 #[] w fun e w' => e = .returned (.bool true) ∧ Below w.heap.size w w' := by
  go_enter Try.func45, Try.ntmps45
  go_wp2_with fail
  refine (lnew_any 2 _ (by omega) (by omega)).mono ?_
  rintro e w1 ⟨rfl, g1, b1⟩
  have hs1 := g1.lt
  go_wp2_with fail
  refine (want_any _ _ _ _ 1 _ g1).mono ?_
  rintro e w2 ⟨rfl, g2', k2⟩
  have g2 : chsr w2 w.heap.size 2 1 (-1) := g2'
  have b2 := Below.keeps b1 (by omega) (by omega) k2
  have e2 : (bif wantOk 2 1 then (0 : Int) else 9) = 0 := rfl
  clear g2'
  go_wp2_with fail
  refine (take_any _ _ _ _ 1 false _ g2).mono ?_
  rintro e w3 ⟨rfl, g3', k3⟩
  have g3 : chsr w3 w.heap.size 2 1 (-1) := g3'
  have b3 := Below.keeps b2 (by have := b2.size; omega) (by omega) k3
  have e3 : takeOk 2 1 (-1) 1 false = false := rfl
  have e4 : takeTurn 2 1 (-1) 1 false = false := rfl
  clear g3'
  go_wp2_with fail
  refine (take_any _ _ _ _ 1 true _ g3).mono ?_
  rintro e w4 ⟨rfl, g4', k4⟩
  have b4 := Below.keeps b3 (by have := b3.size; omega) (by omega) k4
  have e5 : takeOk 2 1 (-1) 1 true = true := rfl
  have e6 : takeTurn 2 1 (-1) 1 true = true := rfl
  clear g4'
  go_wp2_with fail
  go_ret
  exact ⟨rfl, b4⟩

theorem LayersNone.walk (x : Int) (k : Bool) (w : World) (w0 : (Lit.int .i64 x).wf = true) :
    Calls Try.prog 14 #[.int .i64 x, .bool k] w fun e w' => e = .returned (.bool true) ∧ Below w.heap.size w w' := by
  go_enter Try.func14, Try.ntmps14
  go_wp2_with (first | (go_at_call 45; refine (alive23_any _).mono ?_; rintro e w' ⟨rfl, hb⟩) | go_in)
  all_goals
    go_ret
    exact ⟨rfl, hb⟩
end Go.Proofs.Ytkdjkaimcciemaa
