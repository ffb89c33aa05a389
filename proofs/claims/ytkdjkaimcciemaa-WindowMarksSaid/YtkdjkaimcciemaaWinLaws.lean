/-
  The walks of WindowNone and WindowOnce.
-/
import Derived.Test.YtkdjkaimcciemaaWin
import Derived.Deep.QuietTactic
import Derived.BigQuiet
namespace Go.Proofs.Ytkdjkaimcciemaa
open Go.RowKit
set_option linter.unusedVariables false
set_option linter.unusedSimpArgs false

/-! ### What marking does -/
theorem markN_bd (n i : Int) (h0 : 0 ≤ n) (h1 : n ≤ 4611686018427387905) (i1 : i ≤ 4611686018427387904) : n ≤ markN n i ∧ markN n i ≤ 4611686018427387905 := by
  unfold markN; split <;> omega
theorem markB_bd (n b i : Int) (b0 : 0 ≤ b) (b1 : b ≤ 18446744073709551615) (h : freshB n b i = true) : 0 ≤ markB n b i ∧ markB n b i ≤ 18446744073709551615 := by
  unfold markB
  split
  · have hlt : b.toNat * 2 ^ min (i + 1 - n).toNat 64 % 18446744073709551616 < 2 ^ 64 := Nat.mod_lt _ (by omega)
    have := Nat.or_lt_two_pow (n := 64) hlt (show 1 < 2 ^ 64 by omega)
    omega
  · have h64 : n - 1 - i < 64 := by simp [freshB] at h; omega
    have hlt := pow_lt64 (n - 1 - i).toNat (by omega)
    have := Nat.or_lt_two_pow (n := 64) (show b.toNat < 2 ^ 64 by omega) (show 2 ^ (n - 1 - i).toNat < 2 ^ 64 by omega)
    omega
theorem markN'_bd (n b i : Int) (h0 : 0 ≤ n) (h1 : n ≤ 4611686018427387905) (i1 : i ≤ 4611686018427387904) : 0 ≤ markN' n b i ∧ markN' n b i ≤ 4611686018427387905 := by
  have := markN_bd n i h0 h1 i1
  unfold markN'; cases freshB n b i <;> simp <;> omega
theorem markB'_bd (n b i : Int) (b0 : 0 ≤ b) (b1 : b ≤ 18446744073709551615) : 0 ≤ markB' n b i ∧ markB' n b i ≤ 18446744073709551615 := by
  have := markB_bd n b i b0 b1
  unfold markB'
  cases h : freshB n b i
  · simp; omega
  · simp; exact this h
/-- the bits behind a mark -/
theorem bit_mark (n b i : Int) (j : Nat) (hj : j < 64) (b0 : 0 ≤ b) (b1 : b ≤ 18446744073709551615) (h : freshB n b i = true) :
    (markB n b i).toNat.testBit j = if n ≤ i then (decide (j = 0) || (decide ((i + 1 - n).toNat ≤ j) && b.toNat.testBit (j - (i + 1 - n).toNat))) else (b.toNat.testBit j || decide (j = (n - 1 - i).toNat)) := by
  unfold markB
  split
  · rename_i hc
    rw [Int.toNat_natCast, Nat.testBit_or]
    have e1 : Nat.testBit 1 j = decide (j = 0) := by cases j with | zero => rfl | succ j => simp [Nat.testBit_succ]
    rw [e1, show (18446744073709551616 : Nat) = 2 ^ 64 by decide, Nat.testBit_mod_two_pow]
    by_cases hm : (i + 1 - n).toNat ≤ 64
    · rw [Nat.min_eq_left hm, Nat.mul_comm, Nat.testBit_two_pow_mul]
      simp only [hj, decide_true, Bool.true_and]
      cases decide (j = 0) <;> simp
    · rw [Nat.min_eq_right (by omega), Nat.mul_comm, Nat.testBit_two_pow_mul]
      have : ¬ 64 ≤ j := by omega
      have h2 : ¬ (i + 1 - n).toNat ≤ j := by omega
      simp [this, h2]
  · rw [Int.toNat_natCast, Nat.testBit_or, Nat.testBit_two_pow]
    congr 1
    rw [Bool.eq_iff_iff]; simp; omega
theorem fresh_iff (n b i : Int) : freshB n b i = true ↔ 0 ≤ i ∧ (n ≤ i ∨ (n - 1 - i < 64 ∧ b.toNat.testBit (n - 1 - i).toNat = false)) := by simp [freshB]
theorem fresh_self (n b i : Int) (h0 : 0 ≤ n) (b0 : 0 ≤ b) (b1 : b ≤ 18446744073709551615) : freshB (markN' n b i) (markB' n b i) i = false := by
  cases h : freshB n b i
  · simp [markN', markB', h]
  · simp only [markN', markB', h, cond_true]
    rw [Bool.eq_false_iff, ne_eq, fresh_iff]
    rintro ⟨h1, h2⟩
    have h3 := (fresh_iff _ _ _).1 h
    by_cases hc : n ≤ i
    · have hN : markN n i = i + 1 := by unfold markN; rw [if_pos hc]
      rw [hN] at h2
      rcases h2 with h2 | ⟨_, h2⟩
      · omega
      · rw [show (i + 1 - 1 - i).toNat = 0 by omega, bit_mark _ _ _ _ (by omega) b0 b1 h, if_pos hc] at h2
        simp at h2
    · have hN : markN n i = n := by unfold markN; rw [if_neg hc]
      rw [hN] at h2
      rcases h2 with h2 | ⟨h4, h2⟩
      · omega
      · rw [bit_mark _ _ _ _ (by omega) b0 b1 h, if_neg hc] at h2
        simp at h2
theorem fresh_stays (n b i x : Int) (h0 : 0 ≤ n) (b0 : 0 ≤ b) (b1 : b ≤ 18446744073709551615) (hx : freshB n b x = false) : freshB (markN' n b i) (markB' n b i) x = false := by
  cases h : freshB n b i
  · simpa [markN', markB', h] using hx
  · simp only [markN', markB', h, cond_true]
    rw [Bool.eq_false_iff, ne_eq, fresh_iff]
    rw [Bool.eq_false_iff, ne_eq, fresh_iff] at hx
    rintro ⟨h1, h2⟩
    have h3 := (fresh_iff _ _ _).1 h
    apply hx
    refine ⟨h1, ?_⟩
    by_cases hc : n ≤ i
    · have hN : markN n i = i + 1 := by unfold markN; rw [if_pos hc]
      rw [hN] at h2
      by_cases hnx : n ≤ x
      · exact .inl hnx
      · right
        rcases h2 with h2 | ⟨h4, h2⟩
        · omega
        · rw [bit_mark _ _ _ _ (by omega) b0 b1 h, if_pos hc] at h2
          simp only [Bool.or_eq_false_iff, Bool.and_eq_false_iff, decide_eq_false_iff_not] at h2
          obtain ⟨h5, h6⟩ := h2
          refine ⟨by omega, ?_⟩
          rcases h6 with h6 | h6
          · omega
          · rw [← h6]; congr 1; omega
    · have hN : markN n i = n := by unfold markN; rw [if_neg hc]
      rw [hN] at h2
      rcases h2 with h2 | ⟨h4, h2⟩
      · exact .inl h2
      · by_cases hnx : n ≤ x
        · exact .inl hnx
        right
        rw [bit_mark _ _ _ _ (by omega) b0 b1 h, if_neg hc] at h2
        simp only [Bool.or_eq_false_iff] at h2
        exact ⟨h4, h2.1⟩

theorem alive08_any (w : World) : Calls Try.prog 27 #[] w fun e w' => e = .returned (.bool true) ∧ Below w.heap.size w w' := by
  go_enter Try.func27, Try.ntmps27
  go_wp2_with fail
  have g0 : win (w.alloc (.cells #[.int .i64 0, .int .u64 0] 56)) w.heap.size 0 0 := by unfold win; rw [heap_alloc, if_pos rfl]
  have hb0 : Below w.heap.size w (w.alloc (.cells #[.int .i64 0, .int .u64 0] 56)) := (Below.refl _ _).alloc (Nat.le_refl _) _
  refine (wmark_any _ 0 0 100 _ g0 (by decide) (by decide) (by decide) (by decide) (by decide)).mono ?_
  rintro e w1 ⟨rfl, g1', k1⟩
  have g1 : win w1 w.heap.size 101 1 := g1'
  have e1 : markE 0 0 100 = 0 := by decide +kernel
  have b1 := Below.keeps hb0 (by simp) (Nat.le_refl _) k1
  clear g1' g0
  go_wp2_with fail
  refine (wmark_any _ 101 1 37 _ g1 (by decide) (by decide) (by decide) (by decide) (by decide)).mono ?_
  rintro e w2 ⟨rfl, g2', k2⟩
  have g2 : win w2 w.heap.size 101 9223372036854775809 := g2'
  have e2 : markE 101 1 37 = 0 := by decide +kernel
  have b2 := Below.keeps b1 (by have := b1.size; omega) (Nat.le_refl _) k2
  clear g2' g1
  go_wp2_with fail
  refine (wmark_any _ 101 9223372036854775809 36 _ g2 (by decide) (by decide) (by decide) (by decide) (by decide)).mono ?_
  rintro e w3 ⟨rfl, g3', k3⟩
  have g3 : win w3 w.heap.size 101 9223372036854775809 := g3'
  have e3 : markE 101 9223372036854775809 36 = 5 := by decide +kernel
  have b3 := Below.keeps b2 (by have := b2.size; omega) (Nat.le_refl _) k3
  clear g3' g2
  go_wp2_with fail
  refine (wmark_any _ 101 9223372036854775809 100 _ g3 (by decide) (by decide) (by decide) (by decide) (by decide)).mono ?_
  rintro e w4 ⟨rfl, g4', k4⟩
  have g4 : win w4 w.heap.size 101 9223372036854775809 := g4'
  have e4 : markE 101 9223372036854775809 100 = 5 := by decide +kernel
  have b4 := Below.keeps b3 (by have := b3.size; omega) (Nat.le_refl _) k4
  clear g4' g3 b1 b2 b3 k1 k2 k3 k4
  go_wp2_with (go_at_call 31; refine (whigh_any _ _ _ _ g4 (by decide) (by decide)).mono ?_; rintro e w' ⟨rfl, rfl⟩)
  go_ret
  exact ⟨rfl, b4⟩

theorem great_no (i : Int) (w : World) (h : i ≤ 4611686018427387904) : Calls Try.prog 28 #[.int .i64 i] w fun e w' => e = .returned (.bool false) ∧ w = w' := by
  have e1 : decide (4611686018427387904 < i) = false := by simp; omega
  go_enter Try.func28, Try.ntmps28
  go_wp2
  go_ret
  exact ⟨rfl, rfl⟩
theorem great_yes (i : Int) (w : World) (h : ¬ i ≤ 4611686018427387904) : Calls Try.prog 28 #[.int .i64 i] w fun e w' => e = .returned (.bool true) ∧ w = w' := by
  have e1 : decide (4611686018427387904 < i) = true := by simp; omega
  go_enter Try.func28, Try.ntmps28
  go_wp2
  go_ret
  exact ⟨rfl, rfl⟩

theorem wfresh_not (g : Nat) (n b i : Int) (w : World) (hg : win w g n b) (h0 : 0 ≤ n) (h1 : n ≤ 4611686018427387905) (b0 : 0 ≤ b) (b1 : b ≤ 18446744073709551615) (i1 : i ≤ 9223372036854775807) (H : Hid (freshB n b i = false)) :
    Calls Try.prog 30 #[.pointer (some ⟨g, 0, none⟩), .int .i64 i] w fun e w' => e = .returned (.bool false) ∧ w = w' := by
  have h := wfresh_any g n b i w hg h0 h1 b0 b1 i1
  rw [H.out] at h; exact h
theorem wmark_not (g : Nat) (n b i : Int) (w : World) (hg : win w g n b) (h0 : 0 ≤ n) (h1 : n ≤ 4611686018427387905) (b0 : 0 ≤ b) (b1 : b ≤ 18446744073709551615) (i1 : i ≤ 4611686018427387904) (H : Hid (freshB n b i = false)) :
    Calls Try.prog 29 #[.pointer (some ⟨g, 0, none⟩), .int .i64 i] w fun e w' => e = .returned (.int .i64 5) ∧ win w' g n b ∧ Keeps g w w' := by
  have h := wmark_any g n b i w hg h0 h1 b0 b1 i1
  have e1 : markE n b i = 5 := by simp [markE, H.out]
  have e2 : markN' n b i = n := by simp [markN', H.out]
  have e3 : markB' n b i = b := by simp [markB', H.out]
  rw [e1, e2, e3] at h; exact h

set_option maxHeartbeats 1000000 in
theorem WindowNone.walk (i : Int) (w : World) (w0 : (Lit.int .i64 i).wf = true) :
    Calls Try.prog 8 #[.int .i64 i] w fun e w' => e = .returned (.bool true) ∧ Below w.heap.size w w' := by
  go_enter Try.func8, Try.ntmps8
  go_wp2_with (first | (go_at_call 27; refine (alive08_any _).mono ?_; rintro e w' ⟨rfl, hb⟩) | go_in)
  go_ret
  exact ⟨rfl, (hb.alloc (by have := hb.size; omega) _).alloc (by have := hb.size; simp; omega) _⟩

set_option maxHeartbeats 4000000 in
set_option maxRecDepth 100000 in
theorem WindowOnce.walk (a : Option Addr) (len cap : Nat) (zs : List Int) (w : World) (w0 : IsRow .i64 w a len cap zs) :
    Calls Try.prog 6 #[.slice a len cap] w fun e w' => e = .returned (.bool true) ∧ Below w.heap.size w w' := by
  obtain ⟨b, off, Z, ha, hl, hm, hc, hz⟩ := row_open w0
  have HA := Lib.hid ha
  have HC := Lib.hid hc
  have HZ := Lib.hid hz
  clear ha hc hz w0
  go_enter Try.func6, Try.ntmps6
  go_wp2_with (go_at_call 27; refine (alive08_any _).mono ?_; rintro e w1 ⟨rfl, hb1⟩)
  have g1 : win (w1.alloc (.cells #[.int .i64 0, .int .u64 0] 56)) w1.heap.size 0 0 := by unfold win; rw [heap_alloc, if_pos rfl]
  have hb2 : Below w.heap.size w (w1.alloc (.cells #[.int .i64 0, .int .u64 0] 56)) := hb1.alloc hb1.size _
  obtain ⟨g, hg⟩ : ∃ g, g = w1.heap.size := ⟨_, rfl⟩
  rw [← hg] at g1
  rw [← hg]
  have q1 : w.heap.size ≤ g := by rw [hg]; exact hb1.size
  clear hb1 hg
  go_loopw [4] (fun si wr => ∃ (k : Nat) (n m : Int), k ≤ len ∧ si = .int .i64 k ∧ win wr g n m ∧ 0 ≤ n ∧ n ≤ 4611686018427387905 ∧ 0 ≤ m ∧ m ≤ 18446744073709551615 ∧ Below w.heap.size w wr ∧ Hid (∀ j, j < k → freshB n m (Z j) = false ∧ Z j ≤ 4611686018427387904)) (fun si _ => len - (intOf si).toNat)
  case atStart => exact ⟨0, 0, 0, by omega, rfl, g1, by decide, by decide, by decide, by decide, hb2, Lib.hid (fun j hj => by omega)⟩
  case round =>
    obtain ⟨k, n, m, hk, rfl, hgr, n0, n1, m0, m1, hbel, HJ⟩ := hrel
    by_cases hlt : k < len ∧ k < 100
    · obtain ⟨hlt1, hlt2⟩ := hlt
      obtain ⟨rfl, hbs⟩ := HA.out (by omega)
      have hcell := Below.cell' hbel hbs (HC.out k (by omega))
      by_cases hgz : Z k ≤ 4611686018427387904
      · go_wp2_with (go_at_call 28; refine (great_no _ _ hgz).mono ?_; rintro e w' ⟨rfl, rfl⟩)
        refine (wmark_any _ n m (Z k) _ hgr n0 n1 m0 m1 hgz).mono ?_
        rintro e w2 ⟨rfl, g2, k2⟩
        have b2 := Below.keeps hbel hbel.size q1 k2
        have hN := markN'_bd n m (Z k) n0 n1 hgz
        have hM := markB'_bd n m (Z k) m0 m1
        have HJ2 : Hid (∀ j, j < k + 1 → freshB (markN' n m (Z k)) (markB' n m (Z k)) (Z j) = false ∧ Z j ≤ 4611686018427387904) := by
          refine Lib.hid (fun j hj => ?_)
          by_cases hjk : j < k
          · exact ⟨fresh_stays n m _ _ n0 m0 m1 (HJ.out j hjk).1, (HJ.out j hjk).2⟩
          · obtain rfl : j = k := by omega
            exact ⟨fresh_self n m _ n0 m0 m1, hgz⟩
        generalize markN' n m (Z k) = n' at *
        generalize markB' n m (Z k) = m' at *
        clear hgr hbel HJ hcell k2
        obtain ⟨hN0, hN1⟩ := hN
        obtain ⟨hM0, hM1⟩ := hM
        go_wp2_with fail
        obtain ⟨wo, hwo⟩ : ∃ wo : World, wo = w2 := ⟨_, rfl⟩
        go_loopw [5] (fun sj wr => ∃ (j : Nat), j ≤ k + 1 ∧ sj = .int .i64 j ∧ win wr g n' m' ∧ Below w.heap.size w wr) (fun sj _ => k + 1 - (intOf sj).toNat)
        case atStart => exact ⟨0, by omega, rfl, g2, b2⟩
        case round =>
          obtain ⟨j, hj, rfl, hgj, hbj⟩ := hrel
          by_cases hjk : j ≤ k
          · have hcj := Below.cell' hbj hbs (HC.out j (by omega))
            obtain ⟨hf, hzj⟩ := HJ2.out j (by omega)
            have HF := Lib.hid hf
            clear hf
            go_wp2_with fail
            go_quiet ((go_at_call 30; exact qsame (wfresh_not g n' m' (Z j) _ hgj hN0 hN1 hM0 hM1 (by omega) HF)))
            go_wp2_with fail
            refine (wmark_not g n' m' (Z j) _ (show win (wr.drewN _) g n' m' from hgj) hN0 hN1 hM0 hM1 hzj HF).mono ?_
            rintro e w3 ⟨rfl, g3, k3⟩
            have b3 := Below.keeps (below_drewN0 hbj _) hbj.size q1 k3
            clear hgj hbj k3 hcj
            go_wp2_with fail
            go_roundw
            case rel => exact ⟨j + 1, by omega, by go_num, g3, b3⟩
            case measure => simp [intOf] <;> omega
          · go_wp2_with fail
            go_roundw
            case rel => exact ⟨k + 1, n', m', by omega, by go_num, hgj, hN0, hN1, hM0, hM1, hbj, HJ2⟩
            case measure => simp [intOf] <;> omega
      · go_wp2_with (go_at_call 28; refine (great_yes _ _ hgz).mono ?_; rintro e w' ⟨rfl, rfl⟩)
        go_ret
        exact ⟨rfl, hbel⟩
    · go_wp2_with fail
      all_goals
        go_ret
        exact ⟨rfl, hbel⟩
end Go.Proofs.Ytkdjkaimcciemaa
