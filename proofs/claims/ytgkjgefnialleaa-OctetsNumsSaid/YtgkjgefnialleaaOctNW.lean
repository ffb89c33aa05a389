/-
  The walk of OctetsNums.
-/
import Derived.Test.YtgkjgefnialleaaOctPut
import Derived.Deep.RegionHeld3
namespace Go.Proofs.Ytgkjgefnialleaa
open Go.RowKit
set_option linter.unusedVariables false
set_option linter.unusedSimpArgs false

theorem BS.nil' {B : Nat} {w : World} {a : Option Addr} {len cap : Nat} {Z : Nat → Int} (h : BS B w a len cap Z) : a = none → len = 0 ∧ cap = 0 := by
  intro ha
  rcases Nat.eq_zero_or_pos cap with h0 | h0
  · exact ⟨by have := h.le; omega, h0⟩
  · obtain ⟨_, _, h1, _⟩ := h.at_ h0; rw [h1] at ha; cases ha
theorem dig_step (q P : Int) (hP : 0 < P) : q / 256 % P * 256 + q % 256 = q % (P * 256) := by
  have h1 := Int.emod_nonneg q (show (256 : Int) ≠ 0 by decide)
  have h2 := Int.emod_lt_of_pos q (show (0 : Int) < 256 by decide)
  have h3 : q = q % 256 + 256 * (q / 256) := (Int.emod_add_mul_ediv q 256).symm
  have h4 := Int.emod_nonneg (q / 256) (show P ≠ 0 from Int.ne_of_gt hP)
  have h5 := Int.emod_lt_of_pos (q / 256) hP
  have h6 : q / 256 = q / 256 % P + P * (q / 256 / P) := (Int.emod_add_mul_ediv (q / 256) P).symm
  generalize q / 256 / P = d at h6
  generalize q / 256 % P = r at *
  generalize q % 256 = c at *
  have h7 : q = (r * 256 + c) + (P * 256) * d := by
    rw [h3, h6, Int.mul_add, Int.mul_comm 256 r, Int.mul_right_comm P 256 d, Int.mul_comm 256 (P * d)]
    generalize P * d * 256 = y
    omega
  rw [h7, Int.add_mul_emod_self_left]
  have h8 : r * 256 + c < P * 256 := by
    have : (r + 1) * 256 ≤ P * 256 := Int.mul_le_mul_of_nonneg_right (by omega) (by omega)
    omega
  exact (Int.emod_eq_of_lt (by omega) h8).symm
/-- what is put is there -/
theorem numv_put (Z : Nat → Int) (len : Nat) (x : Int) (m : Nat) (hx0 : 0 ≤ x) : numv (putZ Z len x m) len m = x % 256 ^ m := by
  have key : ∀ k, k ≤ m → numv (putZ Z len x m) len k = x / 256 ^ (m - k) % 256 ^ k := by
    intro k
    induction k with
    | zero => intro _; simp [numv, Int.emod_one]
    | succ k ih =>
      intro hk
      rw [numv, ih (by omega)]
      have e1 : putZ Z len x m (len + k) = x / 256 ^ (m - (k + 1)) % 256 := by
        unfold putZ; rw [if_neg (by omega), Nat.add_sub_cancel_left, show m - 1 - k = m - (k + 1) by omega, Int.pow_mul]; rfl
      rw [e1]
      generalize hq : x / 256 ^ (m - (k + 1)) = q
      have e2 : x / 256 ^ (m - k) = q / 256 := by
        rw [← hq, show m - k = (m - (k + 1)) + 1 by omega, Int.pow_succ, Int.ediv_ediv_of_nonneg (Int.pow_nonneg (by omega))]
      rw [e2, Int.pow_succ]
      have hP : (0 : Int) < 256 ^ k := Int.pow_pos (by omega)
      generalize (256 : Int) ^ k = P at *
      exact dig_step q P hP
  have := key m (Nat.le_refl _)
  simpa using this

/-- where a number was put: the length and the bytes then -/
def PutS (Z : Nat → Int) (len : Nat) (n x : Int) (L : Nat) (Y : Nat → Int) : Prop := (∃ m : Nat, n = m ∧ 1 ≤ m ∧ m ≤ 8 ∧ L = len + m ∧ Y = putZ Z len x m) ∨ ((n < 1 ∨ 8 < n) ∧ L = len ∧ Y = Z)
theorem puts_of (Z : Nat → Int) (len : Nat) (n x : Int) : ∃ L Y, PutS Z len n x L Y ∧ L ≤ len + 8 := by
  by_cases h : n < 1 ∨ 8 < n
  · exact ⟨len, Z, .inr ⟨h, rfl, rfl⟩, by omega⟩
  · obtain ⟨m, rfl⟩ := Int.eq_ofNat_of_zero_le (show 0 ≤ n by omega)
    exact ⟨len + m, putZ Z len x m, .inl ⟨m, rfl, by omega, by omega, rfl, rfl⟩, by omega⟩
/-- a value that reads as one string from then on, and as these bytes -/
def PutR (L : Nat) (Y : Nat → Int) (W : World) (e : Ending) (w' : World) : Prop := ∃ a' c', e = .returned (.slice a' L c') ∧ BS w'.heap.size w' a' L c' Y ∧ Below W.heap.size W w'
theorem put_all (B : Nat) (a : Option Addr) (len cap : Nat) (Z : Nat → Int) (n x : Int) (L : Nat) (Y : Nat → Int) (w : World) (hb : BS B w a len cap Z) (hB : B ≤ w.heap.size) (hlen : len ≤ 100000) (hx0 : 0 ≤ x) (hx1 : x ≤ 18446744073709551615) (h : PutS Z len n x L Y) :
    Calls Try.prog 37 #[.slice a len cap, .int .i64 n, .int .u64 x] w (PutR L Y w) := by
  rcases h with ⟨m, rfl, h1, h2, rfl, rfl⟩ | ⟨h1, rfl, rfl⟩
  · refine (put_good B a len cap Z m x w hb hB hlen h1 h2 hx0 hx1).mono fun e w' ⟨v, he, ho, hbl⟩ => ?_
    obtain ⟨a', c', rfl, hbs⟩ := BS.of_owns ho (fun i hi => putZ_bd hb.bd i hi) (by omega)
    exact ⟨a', c', he, hbs, hbl⟩
  · refine (put_bad B a _ cap _ n x w hb h1).mono fun e w' ⟨⟨a', he, hbs⟩, hw⟩ => ?_
    subst hw
    exact ⟨a', _, he, hbs.mono hB, Below.refl _ _⟩
theorem rput_all (B : Nat) (a : Option Addr) (len cap : Nat) (Z : Nat → Int) (n x : Int) (L : Nat) (Y : Nat → Int) (w : World) (hb : BS B w a len cap Z) (hB : B ≤ w.heap.size) (hlen : len ≤ 100000) (hx0 : 0 ≤ x) (hx1 : x ≤ 18446744073709551615) (h : PutS Z len n x L Y) :
    Calls Try.prog 38 #[.slice a len cap, .int .i64 n, .int .u64 x] w (PutR L Y w) := by
  rcases h with ⟨m, rfl, h1, h2, rfl, rfl⟩ | ⟨h1, rfl, rfl⟩
  · refine (rput_any B a len cap Z m x w hb hB hb.nil' hlen h1 h2 hx0 hx1).mono fun e w' ⟨v, he, ho, hbl⟩ => ?_
    obtain ⟨a', c', rfl, hbs⟩ := BS.of_owns ho (fun i hi => putZ_bd hb.bd i hi) (by omega)
    exact ⟨a', c', he, hbs, hbl⟩
  · refine (rput_bad B a _ cap _ n x w hb hB hb.nil' hlen h1).mono fun e w' ⟨v, he, ho, hbl⟩ => ?_
    obtain ⟨a', c', rfl, hbs⟩ := BS.of_owns ho hb.bd (by omega)
    exact ⟨a', c', he, hbs, hbl⟩

set_option maxHeartbeats 8000000 in
theorem OctetsNums.walk (a : Option Addr) (len cap : Nat) (zs : List Int) (at' n x : Int) (w : World) (r : IsRow .u8 w a len cap zs) (w1 : (Lit.int .i64 at').wf = true) (w2 : (Lit.int .i64 n).wf = true) (w3 : (Lit.int .u64 x).wf = true) :
    Calls Try.prog 9 #[.slice a len cap, .int .i64 at', .int .i64 n, .int .u64 x] w fun e w' => e = .returned (.bool true) ∧ Below w.heap.size w w' := by
  obtain ⟨Z, s⟩ := BS.of_row r
  have bt := bounds_i64 w1
  have bn := bounds_i64 w2
  have bx := bounds_u64 w3
  clear r w1 w2 w3
  have l1 := s.le
  have m1 := s.max
  by_cases k1 : 300 < (len : Int)
  · go_enter Try.func9, Try.ntmps9
    go_wp2_with (go_at_call 33; refine (alive01_any _).mono ?_; rintro e w1 ⟨rfl, hb1⟩)
    go_ret
    exact ⟨rfl, hb1⟩
  obtain ⟨L, Y, hP, hL⟩ := puts_of Z len n x
  have HP := Lib.hid hP
  have HSS := Lib.hid s
  have HC : Hid (∀ W, Below w.heap.size w W → Sem.run Try.prog (convert 48 9 (.slice a len cap)) W = .ok (.string (strOf Z len)) W) := Lib.hid fun W h => run_conv_BS (s.keep h) Try.underlying48 Try.underlying5 Try.underlying9
  clear hP s
  go_enter Try.func9, Try.ntmps9
  go_wp2_with fail
  refine (alive01_any _).mono ?_
  rintro e w1 ⟨rfl, hb1⟩
  have q1 := hb1.size
  go_wp2_with fail
  refine (num_any w.heap.size a len cap Z at' n _ (HSS.out.keep hb1) bt.1 bt.2 bn.1 bn.2).mono ?_
  rintro e w2 ⟨rfl, rfl⟩
  have hcv := HC.out w1 hb1
  have e3 : (strOf Z len).toList = (strOf Z len).toList := rfl
  cases ht : there len at' n
  all_goals
    have hno : numOr Z len at' n = if there len at' n then numv Z at'.toNat n.toNat else 0 := rfl
    rw [ht] at hno
    have HT := Lib.hid ht
    clear ht
    simp only [if_true, if_false, Bool.false_eq_true] at hno
    rw [hno]
    clear hno
    have nn : (numv Z at'.toNat n.toNat != numv Z at'.toNat n.toNat) = false := by simp
    generalize hyy : numv Z at'.toNat n.toNat = y at *
    have HYY := Lib.hid hyy
    clear hyy
    have HTC : Hid (Calls Try.prog 35 #[.slice a len cap, .int .i64 at', .int .i64 n] w1 fun e w' => e = .returned (.bool (there len at' n)) ∧ w1 = w') := Lib.hid (there_any a len cap at' n w1 (by omega) bt.1 bt.2 bn.1 bn.2)
    rw [HT.out] at HTC
    have B3 : ∀ W, Below w1.heap.size w1 W → Below w.heap.size w W := fun W h => hb1.trans (h.mono q1)
    have BB3 := Lib.hid B3
    clear B3
    have HPT := Lib.hid (fun W (h : Below w.heap.size w W) => put_all w.heap.size a len cap Z n x L Y W (HSS.out.keep h) h.size (by omega) bx.1 bx.2 HP.out)
    have HRP := Lib.hid (fun W (h : Below w.heap.size w W) => rput_all w.heap.size a len cap Z n x L Y W (HSS.out.keep h) h.size (by omega) bx.1 bx.2 HP.out)
    go_wp2_with fail
    refine HTC.out.mono ?_
    rintro e w2 ⟨rfl, rfl⟩
    go_wp2_with fail
  · refine (HPT.out _ hb1).mono ?_
    rintro e w3 ⟨a3, c3, rfl, hbs3, hb3⟩
    have b3 := BB3.out _ hb3
    have f3 := run_conv_BS (P := Try.prog) (hbs3.keep (Below.refl _ w3).drew) Try.underlying48 Try.underlying5 Try.underlying9
    have HB3 := Lib.hid hbs3
    clear hbs3
    go_wp2_with fail
    go_region_with (first
      | (go_at_call 38; refine (HRP.out _ (by exact b3.drew)).mono ?_; rintro e w4 ⟨a4, c4, rfl, hbs4, hb4⟩; have f4 := run_conv_BS (P := Try.prog) hbs4 Try.underlying48 Try.underlying5 Try.underlying9; have f34 := run_conv_BS (P := Try.prog) (HB3.out.keep ((Below.refl _ w3).drew.trans hb4)) Try.underlying48 Try.underlying5 Try.underlying9; have b4 := b3.drew.trans (hb4.mono b3.size); have fb := HC.out w4 b4; have HB4 := HB3.out.keep ((Below.refl _ w3).drew.trans hb4)))
    all_goals
      go_wp2_with fail
      refine (num_any w3.heap.size a3 L c3 Y (len : Int) n _ HB4 (by omega) (by omega) bn.1 bn.2).mono ?_
      rintro e w5 ⟨rfl, rfl⟩
      rcases HP.out with ⟨m, hm, h1, h2, hLL, hYY⟩ | ⟨hn, hLL, hYY⟩
      · subst hm
        have e1 : there L (len : Int) (m : Int) = true := (there_iff _ _ _).2 (by omega)
        have e2 : numOr Y L (len : Int) (m : Int) = x % 256 ^ m := by
          unfold numOr; rw [if_pos e1, Int.toNat_natCast, Int.toNat_natCast, hYY]; exact numv_put Z len x m bx.1
        rw [e1, e2]
        clear e1 e2 hYY hLL
        have hmm : m = 1 ∨ m = 2 ∨ m = 3 ∨ m = 4 ∨ m = 5 ∨ m = 6 ∨ m = 7 ∨ m = 8 := by omega
        have x8 : x % 18446744073709551616 = x := by omega
        rcases hmm with rfl | rfl | rfl | rfl | rfl | rfl | rfl | rfl
        all_goals
          simp only [Int.reducePow]
          go_wp2_with fail
          go_ret
          first
          | exact ⟨rfl, b4⟩
          | exact ⟨ret_bool (by simp [x8]), b4⟩
      · have e1 : there L (len : Int) n = false := by rw [← Bool.not_eq_true, there_iff]; omega
        have e2 : numOr Y L (len : Int) n = 0 := by unfold numOr; rw [e1]; rfl
        rw [e1, e2]
        clear e1 e2 hYY hLL
        rcases hn with hn | hn
        · go_wp2_with fail
          go_ret
          exact ⟨rfl, b4⟩
        · have hn' : ¬ n < 1 := by omega
          go_wp2_with fail
          go_ret
          exact ⟨rfl, b4⟩
  · have hrn := rnum_any w.heap.size a len cap Z at' n w1 (HSS.out.keep hb1) HT.out
    rw [HYY.out] at hrn
    have HRN := Lib.hid hrn
    clear hrn
    refine HRN.out.mono ?_
    rintro e w2 ⟨rfl, rfl⟩
    go_wp2_with fail
    refine (HPT.out _ hb1).mono ?_
    rintro e w3 ⟨a3, c3, rfl, hbs3, hb3⟩
    have b3 := BB3.out _ hb3
    have f3 := run_conv_BS (P := Try.prog) (hbs3.keep (Below.refl _ w3).drew) Try.underlying48 Try.underlying5 Try.underlying9
    have HB3 := Lib.hid hbs3
    clear hbs3
    go_wp2_with fail
    go_region_with (first
      | (go_at_call 38; refine (HRP.out _ (by exact b3.drew)).mono ?_; rintro e w4 ⟨a4, c4, rfl, hbs4, hb4⟩; have f4 := run_conv_BS (P := Try.prog) hbs4 Try.underlying48 Try.underlying5 Try.underlying9; have f34 := run_conv_BS (P := Try.prog) (HB3.out.keep ((Below.refl _ w3).drew.trans hb4)) Try.underlying48 Try.underlying5 Try.underlying9; have b4 := b3.drew.trans (hb4.mono b3.size); have fb := HC.out w4 b4; have HB4 := HB3.out.keep ((Below.refl _ w3).drew.trans hb4)))
    all_goals
      go_wp2_with fail
      refine (num_any w3.heap.size a3 L c3 Y (len : Int) n _ HB4 (by omega) (by omega) bn.1 bn.2).mono ?_
      rintro e w5 ⟨rfl, rfl⟩
      rcases HP.out with ⟨m, hm, h1, h2, hLL, hYY⟩ | ⟨hn, hLL, hYY⟩
      · subst hm
        have e1 : there L (len : Int) (m : Int) = true := (there_iff _ _ _).2 (by omega)
        have e2 : numOr Y L (len : Int) (m : Int) = x % 256 ^ m := by
          unfold numOr; rw [if_pos e1, Int.toNat_natCast, Int.toNat_natCast, hYY]; exact numv_put Z len x m bx.1
        rw [e1, e2]
        clear e1 e2 hYY hLL
        have hmm : m = 1 ∨ m = 2 ∨ m = 3 ∨ m = 4 ∨ m = 5 ∨ m = 6 ∨ m = 7 ∨ m = 8 := by omega
        have x8 : x % 18446744073709551616 = x := by omega
        rcases hmm with rfl | rfl | rfl | rfl | rfl | rfl | rfl | rfl
        all_goals
          simp only [Int.reducePow]
          go_wp2_with fail
          go_ret
          first
          | exact ⟨rfl, b4⟩
          | exact ⟨ret_bool (by simp [x8]), b4⟩
      · have e1 : there L (len : Int) n = false := by rw [← Bool.not_eq_true, there_iff]; omega
        have e2 : numOr Y L (len : Int) n = 0 := by unfold numOr; rw [e1]; rfl
        rw [e1, e2]
        clear e1 e2 hYY hLL
        rcases hn with hn | hn
        · go_wp2_with fail
          go_ret
          exact ⟨rfl, b4⟩
        · have hn' : ¬ n < 1 := by omega
          go_wp2_with fail
          go_ret
          exact ⟨rfl, b4⟩
end Go.Proofs.Ytgkjgefnialleaa
