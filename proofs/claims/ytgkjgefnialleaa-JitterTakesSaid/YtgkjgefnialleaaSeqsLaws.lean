/-
  The walks of the statements of chapter 02: SeqsIndex, SeqsBack, SeqsAhead.
-/
import Derived.Test.YtgkjgefnialleaaSeqs
namespace Go.Proofs.Ytgkjgefnialleaa
open Go.RowKit
set_option linter.unusedVariables false

theorem later_any (a b : Int) (w : World) (a0 : 0 ≤ a) (a1 : a ≤ 65535) (b0 : 0 ≤ b) (b1 : b ≤ 65535) :
    Calls Try.prog 21 #[.int .u16 a, .int .u16 b] w fun e w' => e = .returned (.bool (decide (0 < far16 a b))) ∧ w = w' := by
  go_enter Try.func21, Try.ntmps21
  go_wp2_with (go_at_call 19; refine (ahead_any _ _ _ (by omega) (by omega) (by omega) (by omega)).mono ?_; rintro e w' ⟨rfl, rfl⟩)
  go_ret
  exact ⟨rfl, rfl⟩
theorem rahead_any (a b : Int) (w : World) (a0 : 0 ≤ a) (a1 : a ≤ 65535) (b0 : 0 ≤ b) (b1 : b ≤ 65535) :
    Calls Try.prog 20 #[.int .u16 a, .int .u16 b] w fun e w' => e = .returned (.int .i64 (far16 a b)) ∧ w = w' := by
  go_enter Try.func20, Try.ntmps20
  go_wp2
  all_goals
    go_ret
    refine ⟨ret_int ?_, rfl⟩
    unfold far16
    go_arith
theorem rgone_any (a b : Int) (w : World) (a0 : 0 ≤ a) (a1 : a ≤ 4294967295) (b0 : 0 ≤ b) (b1 : b ≤ 4294967295) :
    Calls Try.prog 23 #[.int .u32 a, .int .u32 b] w fun e w' => e = .returned (.int .i64 (far32 a b)) ∧ w = w' := by
  go_enter Try.func23, Try.ntmps23
  go_wp2
  all_goals
    go_ret
    refine ⟨ret_int ?_, rfl⟩
    unfold far32
    go_arith

theorem alive02_any (w : World) : Calls Try.prog 15 #[] w fun e w' => e = .returned (.bool true) ∧ w = w' := by
  have e1 : sidx 70000 4463 = 69999 := by decide
  have e2 : sidx 10 65535 = 65535 := by decide
  have e3 : sidx 65530 3 = 65539 := by decide
  have e4 : far16 65535 1 = 2 := by decide
  go_enter Try.func15, Try.ntmps15
  go_wp2_with (first | (go_at_call 19; refine (ahead_any _ _ _ (by omega) (by omega) (by omega) (by omega)).mono ?_; rintro e w' ⟨rfl, rfl⟩) | (go_at_call 16; refine (index_any _ _ _ (by omega) (by omega) (by omega) (by omega)).mono ?_; rintro e w' ⟨rfl, rfl⟩))
  go_ret
  exact ⟨rfl, rfl⟩

theorem SeqsIndex.walk (h s : Int) (w : World) (w0 : (Lit.int .i64 h).wf = true) (w1 : (Lit.int .u16 s).wf = true) :
    Calls Try.prog 3 #[.int .i64 h, .int .u16 s] w fun e w' => e = .returned (.bool true) ∧ Below w.heap.size w w' := by
  have b0 := bounds_i64 w0
  have b1 := bounds_u16 w1
  by_cases hh : 4611686018427387904 < h
  · go_enter Try.func3, Try.ntmps3
    go_wp2_with (go_at_call 15; refine (alive02_any _).mono ?_; rintro e w' ⟨rfl, rfl⟩)
    go_ret
    exact ⟨rfl, Below.refl _ _⟩
  · obtain ⟨p1, p2, p3⟩ := sidx_spec h s (by omega) (by omega) (by omega)
    go_enter Try.func3, Try.ntmps3
    go_wp2_with (first | (go_at_call 15; refine (alive02_any _).mono ?_; rintro e w' ⟨rfl, rfl⟩) | (go_at_call 16; refine (index_any _ _ _ (by omega) (by omega) (by omega) (by omega)).mono ?_; rintro e w' ⟨rfl, rfl⟩) | (go_at_call 17; refine (rindex_any _ _ _ (by omega) (by omega) (by omega) (by omega)).mono ?_; rintro e w' ⟨rfl, rfl⟩) | (go_at_call 18; refine (seq_any _ _).mono ?_; rintro e w' ⟨rfl, rfl⟩))
    go_ret
    exact ⟨rfl, Below.refl _ _⟩

theorem sidx_back (h i : Int) (h0 : 0 ≤ h) (i0 : 0 ≤ i) (h1 : i ≤ h + 32767) (h2 : h - 32767 ≤ i) : sidx h (i % 65536) = i := by unfold sidx; omega

theorem SeqsBack.walk (h i : Int) (w : World) (w0 : (Lit.int .i64 h).wf = true) (w1 : (Lit.int .i64 i).wf = true) :
    Calls Try.prog 4 #[.int .i64 h, .int .i64 i] w fun e w' => e = .returned (.bool true) ∧ Below w.heap.size w w' := by
  have b0 := bounds_i64 w0
  have b1 := bounds_i64 w1
  by_cases c1 : h < 0
  · go_enter Try.func4, Try.ntmps4
    go_wp2_with (go_at_call 15; refine (alive02_any _).mono ?_; rintro e w' ⟨rfl, rfl⟩)
    go_ret
    exact ⟨rfl, Below.refl _ _⟩
  by_cases c2 : i < 0
  · go_enter Try.func4, Try.ntmps4
    go_wp2_with (go_at_call 15; refine (alive02_any _).mono ?_; rintro e w' ⟨rfl, rfl⟩)
    go_ret
    exact ⟨rfl, Below.refl _ _⟩
  by_cases c3 : 4611686018427387904 < h
  · go_enter Try.func4, Try.ntmps4
    go_wp2_with (go_at_call 15; refine (alive02_any _).mono ?_; rintro e w' ⟨rfl, rfl⟩)
    go_ret
    exact ⟨rfl, Below.refl _ _⟩
  by_cases c4 : h + 32767 < i
  · go_enter Try.func4, Try.ntmps4
    go_wp2_with (go_at_call 15; refine (alive02_any _).mono ?_; rintro e w' ⟨rfl, rfl⟩)
    go_ret
    exact ⟨rfl, Below.refl _ _⟩
  by_cases c5 : i < h - 32767
  · go_enter Try.func4, Try.ntmps4
    go_wp2_with (go_at_call 15; refine (alive02_any _).mono ?_; rintro e w' ⟨rfl, rfl⟩)
    go_ret
    exact ⟨rfl, Below.refl _ _⟩
  have hb := sidx_back h i (by omega) (by omega) (by omega) (by omega)
  go_enter Try.func4, Try.ntmps4
  go_wp2_with (first | (go_at_call 15; refine (alive02_any _).mono ?_; rintro e w' ⟨rfl, rfl⟩) | (go_at_call 16; refine (index_any _ _ _ (by omega) (by omega) (by omega) (by omega)).mono ?_; rintro e w' ⟨rfl, rfl⟩) | (go_at_call 18; refine (seq_any _ _).mono ?_; rintro e w' ⟨rfl, rfl⟩))
  go_ret
  exact ⟨rfl, Below.refl _ _⟩

theorem SeqsAhead.walk (a b c d : Int) (w : World) (w0 : (Lit.int .u16 a).wf = true) (w1 : (Lit.int .u16 b).wf = true) (w2 : (Lit.int .u32 c).wf = true) (w3 : (Lit.int .u32 d).wf = true) :
    Calls Try.prog 5 #[.int .u16 a, .int .u16 b, .int .u32 c, .int .u32 d] w fun e w' => e = .returned (.bool true) ∧ Below w.heap.size w w' := by
  have b0 := bounds_u16 w0
  have b1 := bounds_u16 w1
  have b2 := bounds_u32 w2
  have b3 := bounds_u32 w3
  go_enter Try.func5, Try.ntmps5
  go_wp2_with (first | (go_at_call 15; refine (alive02_any _).mono ?_; rintro e w' ⟨rfl, rfl⟩) | (go_at_call 19; refine (ahead_any _ _ _ (by omega) (by omega) (by omega) (by omega)).mono ?_; rintro e w' ⟨rfl, rfl⟩) | (go_at_call 20; refine (rahead_any _ _ _ (by omega) (by omega) (by omega) (by omega)).mono ?_; rintro e w' ⟨rfl, rfl⟩) | (go_at_call 21; refine (later_any _ _ _ (by omega) (by omega) (by omega) (by omega)).mono ?_; rintro e w' ⟨rfl, rfl⟩) | (go_at_call 22; refine (gone_any _ _ _).mono ?_; rintro e w' ⟨rfl, rfl⟩) | (go_at_call 23; refine (rgone_any _ _ _ (by omega) (by omega) (by omega) (by omega)).mono ?_; rintro e w' ⟨rfl, rfl⟩))
  go_ret
  exact ⟨rfl, Below.refl _ _⟩
end Go.Proofs.Ytgkjgefnialleaa
