/-
  The walk of OctetsOthers.
-/
import Derived.Test.YtgkjgefnialleaaOctNums
import Derived.Deep.RegionHeld3
import Derived.Deep.DrawnRows
namespace Go.Proofs.Ytgkjgefnialleaa
open Go.RowKit
set_option linter.unusedVariables false
set_option linter.unusedSimpArgs false

theorem BS.nil {B : Nat} {w : World} {a : Option Addr} {len cap : Nat} {Z : Nat → Int} (h : BS B w a len cap Z) : a = none → len = 0 ∧ cap = 0 := by
  intro ha
  rcases Nat.eq_zero_or_pos cap with h0 | h0
  · exact ⟨by have := h.le; omega, h0⟩
  · obtain ⟨_, _, h1, _⟩ := h.at_ h0; rw [h1] at ha; cases ha
/-- what a call of a Fill leaves: a value that reads as one string from then on -/
def FillP (B : Nat) (w : World) (S : ByteArray) (W : World) (e : Ending) (w' : World) : Prop :=
  ∃ v, e = .returned v ∧ (∀ W', Below w'.heap.size w' W' → Sem.run Try.prog (convert 48 9 v) W' = .ok (.string S) W') ∧ Below B w w' ∧ Below W.heap.size W w'
theorem fillP_of {B : Nat} {w W w' : World} {Z : Nat → Int} {len k : Nat} {e : Ending} (hW : Below B w W) (hB : B ≤ W.heap.size) (h : Filled Z len k W e w') : FillP B w (strOf (fillZ Z len) (len + k)) W e w' := by
  obtain ⟨a', c', rfl, hbs, hb⟩ := h
  exact ⟨_, rfl, fun W' h => run_conv_BS (hbs.keep h) Try.underlying48 Try.underlying5 Try.underlying9, hW.trans (hb.mono hB), hb⟩
theorem sameB_self (Z : Nat → Int) (n : Nat) : sameB Z Z n n = true := by simp [sameB]

attribute [local go_sem ↓] Go.wp_at_zero Go.wp_at_succ
set_option maxHeartbeats 32000000 in
theorem OctetsOthers.walk (x y : Int) (a1 : Option Addr) (n1 c1 : Nat) (z1 : List Int) (a2 : Option Addr) (n2 c2 : Nat) (z2 : List Int) (n : Int) (w : World) (w0 : (Lit.int .u64 x).wf = true) (w1 : (Lit.int .u64 y).wf = true) (r1 : IsRow .u8 w a1 n1 c1 z1) (r2 : IsRow .u8 w a2 n2 c2 z2) (w4 : (Lit.int .i64 n).wf = true) :
    Calls Try.prog 11 #[.int .u64 x, .int .u64 y, .slice a1 n1 c1, .slice a2 n2 c2, .int .i64 n] w fun e w' => e = .returned (.bool true) ∧ Below w.heap.size w w' := by
  obtain ⟨Z1, s1⟩ := BS.of_row r1
  obtain ⟨Z2, s2⟩ := BS.of_row r2
  have b0 := bounds_u64 w0
  have b1 := bounds_u64 w1
  have b4 := bounds_i64 w4
  clear r1 r2 w0 w1 w4
  have l1 := s1.le
  have m1 := s1.max
  have l2 := s2.le
  have m2 := s2.max
  by_cases k1 : 300 < (n1 : Int)
  · go_enter Try.func11, Try.ntmps11
    go_wp2_with (go_at_call 33; refine (alive01_any _).mono ?_; rintro e w1 ⟨rfl, hb1⟩)
    go_ret
    exact ⟨rfl, hb1⟩
  by_cases k2 : 300 < (n2 : Int)
  · go_enter Try.func11, Try.ntmps11
    go_wp2_with (go_at_call 33; refine (alive01_any _).mono ?_; rintro e w1 ⟨rfl, hb1⟩)
    go_ret
    exact ⟨rfl, hb1⟩
  by_cases k3 : 300 < n
  · go_enter Try.func11, Try.ntmps11
    go_wp2_with (go_at_call 33; refine (alive01_any _).mono ?_; rintro e w1 ⟨rfl, hb1⟩)
    go_ret
    exact ⟨rfl, hb1⟩
  have hc1 : ∀ W, Below w.heap.size w W → Sem.run Try.prog (convert 48 9 (.slice a1 n1 c1)) W = .ok (.string (strOf Z1 n1)) W := fun W h => run_conv_BS (s1.keep h) Try.underlying48 Try.underlying5 Try.underlying9
  have hc2 : ∀ W, Below w.heap.size w W → Sem.run Try.prog (convert 48 9 (.slice a2 n2 c2)) W = .ok (.string (strOf Z2 n2)) W := fun W h => run_conv_BS (s2.keep h) Try.underlying48 Try.underlying5 Try.underlying9
  have HC1 := Lib.hid hc1
  have HC2 := Lib.hid hc2
  clear hc1 hc2
  go_enter Try.func11, Try.ntmps11
  go_wp2_with fail
  refine (alive01_any _).mono ?_
  rintro e w1 ⟨rfl, hb1⟩
  have hs1 := hb1.size
  obtain ⟨S, hS⟩ : ∃ S, (if x + y > 18446744073709551615 then 18446744073709551615 else x + y) = S := ⟨_, rfl⟩
  obtain ⟨K, hK⟩ : ∃ K, (if n < 1 then 0 else padN n1 n.toNat) = K := ⟨_, rfl⟩
  have q1 := fun W => sat_any x y W b0.1 b0.2 b1.1 b1.2
  have q2 := fun W => rsat_any x y W b0.1 b0.2 b1.1 b1.2
  have q3 := fun W (h : Below w.heap.size w W) => same_any w.heap.size a1 n1 c1 Z1 a2 n2 c2 Z2 W (s1.keep h) (s2.keep h) h.size
  have q4 := fun W (h : Below w.heap.size w W) => same_any w.heap.size a1 n1 c1 Z1 a1 n1 c1 Z1 W (s1.keep h) (s1.keep h) h.size
  have q5 := fun W (h : Below w.heap.size w W) => fill_any w.heap.size a1 n1 c1 Z1 n W (s1.keep h) h.size (by omega) (by omega)
  have q6 := fun W (h : Below w.heap.size w W) => rfill_any w.heap.size a1 n1 c1 Z1 n W (s1.keep h) h.size s1.nil (by omega) (by omega) (by omega)
  rw [hS] at q1 q2
  rw [hK] at q5 q6
  rw [sameB_self] at q4
  have q5' := fun W (h : Below w.heap.size w W) => (q5 W h).mono fun e w' hf => fillP_of h h.size hf
  have q6' := fun W (h : Below w.heap.size w W) => (q6 W h).mono fun e w' hf => fillP_of h h.size hf
  have Q1 := Lib.hid q1
  have Q2 := Lib.hid q2
  have Q3 := Lib.hid q3
  have Q4 := Lib.hid q4
  have Q5 := Lib.hid q5'
  have Q6 := Lib.hid q6'
  clear q1 q2 q3 q4 q5 q6 q5' q6' hS hK s1 s2
  obtain ⟨T, hT⟩ : ∃ T, strOf (fillZ Z1 n1) (n1 + K) = T := ⟨_, rfl⟩
  rw [hT] at Q5 Q6
  clear hT
  have hsm : ((strOf Z1 n1).toList == (strOf Z2 n2).toList) = sameB Z1 Z2 n1 n2 := rfl
  have t1 : (S == S) = true := by simp
  have t2 : (T.toList == T.toList) = true := by simp
  have t3 : (sameB Z1 Z2 n1 n2 == sameB Z1 Z2 n1 n2) = true := by simp
  generalize sameB Z1 Z2 n1 n2 = sb at *
  have r1 := HC1.out w1.drew hb1.drew
  have r2 := HC2.out w1.drew hb1.drew
  have r3 := fun k => HC1.out (w1.drewN k) (below_drewN0 hb1 k)
  have r4 := fun k => HC2.out (w1.drewN k) (below_drewN0 hb1 k)
  clear HC1 HC2
  have BN := Lib.hid (fun k => below_drewN0 hb1 k)
  have BD := Lib.hid hb1.drew
  go_wp2_with fail
  go_region_with (first
    | (go_at_call 40; refine (Q1.out _).mono ?_; rintro e w' ⟨rfl, rfl⟩)
    | (go_at_call 41; refine (Q2.out _).mono ?_; rintro e w' ⟨rfl, rfl⟩)
    | (go_at_call 39; refine (Q5.out _ (by first | exact BD.out | exact BN.out _)).mono ?_; rintro e w5 ⟨v5, rfl, cv5, hB5, hb5⟩; have f5 := cv5 w5 (Below.refl _ _); have F5 := Lib.hid cv5; clear cv5)
    | (go_at_call 43; refine (Q6.out _ (by assumption)).mono ?_; rintro e w6 ⟨v6, rfl, cv6, hB6, hb6⟩; have f6 := cv6 w6 (Below.refl _ _); have f56 := F5.out w6 hb6; clear cv6)
    | (go_at_call 42; with_reducible refine (Q3.out _ (by first | exact BD.out | exact BN.out _)).mono ?_; rintro e w' ⟨rfl, nn, rfl⟩)
    | (go_at_call 42; with_reducible refine (Q4.out _ (by first | exact BD.out | exact BN.out _)).mono ?_; rintro e w' ⟨rfl, nn, rfl⟩))
  all_goals
    go_wp2_with fail
    go_ret
    exact ⟨rfl, by assumption⟩
end Go.Proofs.Ytgkjgefnialleaa
