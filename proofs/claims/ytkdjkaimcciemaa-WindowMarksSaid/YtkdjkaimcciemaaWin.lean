/-
  The window of chapter 8: its object, and what each of its functions does.
-/
import Derived.Test.YtkdjkaimcciemaaProg
import Derived.Test.YtkdjkaimcciemaaBase
import Derived.Test.YtkdjkaimcciemaaReads
import Derived.Deep.RegionHeld3
import Derived.Laws.Bits64b
import Derived.Laws.Shifts
import Derived.IntWalk
namespace Go.Proofs.Ytkdjkaimcciemaa
open Go.RowKit
set_option linter.unusedVariables false
set_option linter.unusedSimpArgs false

/-- block g is a window: the highest index and one, the bits -/
def win (w : World) (g : Nat) (n b : Int) : Prop := w.heap[g]? = some (.cells #[.int .i64 n, .int .u64 b] 56 (0, 0))
theorem win.c0 {w : World} {g : Nat} {n b : Int} (h : win w g n b) : w.cell? ⟨g, 0, none⟩ = some (.int .i64 n) := cell_blk h
theorem win.c1 {w : World} {g : Nat} {n b : Int} (h : win w g n b) : w.cell? ⟨g, 1, none⟩ = some (.int .u64 b) := cell_blk h
theorem win.fr {w : World} {g : Nat} {n b : Int} (h : win w g n b) (i : Nat) : w.frozen? ⟨g, i, none⟩ = false := free_blk h
theorem win.lt {w : World} {g : Nat} {n b : Int} (h : win w g n b) : g < w.heap.size := lt_of_block h

theorem whigh_any (g : Nat) (n b : Int) (w : World) (hg : win w g n b) (h0 : 0 ≤ n) (h1 : n ≤ 4611686018427387905) :
    Calls Try.prog 31 #[.pointer (some ⟨g, 0, none⟩)] w fun e w' => e = .returned (.int .i64 (n - 1)) ∧ w = w' := by
  have c0 := hg.c0
  go_enter Try.func31, Try.ntmps31
  go_wp2
  go_ret
  exact ⟨rfl, rfl⟩
theorem wbelow_any (g : Nat) (n b i : Int) (w : World) (hg : win w g n b) (h0 : 0 ≤ n) (h1 : n ≤ 4611686018427387905) (i0 : 0 ≤ i) (i1 : i ≤ 9223372036854775807) :
    Calls Try.prog 60 #[.pointer (some ⟨g, 0, none⟩), .int .i64 i] w fun e w' => e = .returned (.int .i64 (n - 1 - i)) ∧ w = w' := by
  go_enter Try.func60, Try.ntmps60
  go_wp2_with (go_at_call 31; refine (whigh_any _ _ _ _ hg h0 h1).mono ?_; rintro e w' ⟨rfl, rfl⟩)
  go_ret
  exact ⟨rfl, rfl⟩

def freshB (n b i : Int) : Bool := decide (0 ≤ i) && (decide (n ≤ i) || (decide (n - 1 - i < 64) && !(b.toNat.testBit (n - 1 - i).toNat)))
theorem and_1 (d : Int) (h0 : 0 ≤ d) (h1 : d ≤ 18446744073709551615) : bits BinOp.and IntKind.u64 d 1 = d % 2 := by
  obtain ⟨d, rfl⟩ := Int.eq_ofNat_of_zero_le h0
  have h := bits_and_u64_nat d 1 (by omega) (by omega)
  have e : ((1 : Nat) : Int) = 1 := rfl
  rw [e] at h
  rw [h, Nat.and_one_is_mod]
  omega
/-- a bit, as the program looks at it -/
theorem bit_is (b : Int) (k : Nat) (h0 : 0 ≤ b) (h1 : b ≤ 18446744073709551615) : (bits BinOp.and IntKind.u64 (b / 2 ^ k) 1 == 0) = !(b.toNat.testBit k) := by
  obtain ⟨b, rfl⟩ := Int.eq_ofNat_of_zero_le h0
  have e : ((b : Int) / 2 ^ k) = ((b / 2 ^ k : Nat) : Int) := by simp
  have hle : b / 2 ^ k ≤ b := Nat.div_le_self _ _
  rw [e, Int.toNat_natCast, Nat.testBit_eq_decide_div_mod_eq]
  generalize b / 2 ^ k = q at *
  rw [and_1 _ (by omega) (by omega)]
  by_cases h : q % 2 = 1
  · rw [decide_eq_true h, Bool.not_true, beq_eq_false_iff_ne]; omega
  · rw [decide_eq_false h, Bool.not_false, beq_iff_eq]; omega

set_option maxHeartbeats 1000000 in
theorem wfresh_any (g : Nat) (n b i : Int) (w : World) (hg : win w g n b) (h0 : 0 ≤ n) (h1 : n ≤ 4611686018427387905) (b0 : 0 ≤ b) (b1 : b ≤ 18446744073709551615) (i1 : i ≤ 9223372036854775807) :
    Calls Try.prog 30 #[.pointer (some ⟨g, 0, none⟩), .int .i64 i] w fun e w' => e = .returned (.bool (freshB n b i)) ∧ w = w' := by
  have c1 := hg.c1
  by_cases i0 : i < 0
  · have HF : Hid (freshB n b i = false) := Lib.hid (by simp [freshB]; omega)
    go_enter Try.func30, Try.ntmps30
    go_wp2
    go_ret
    exact ⟨ret_bool HF.out.symm, rfl⟩
  have i2 : 0 ≤ i := by omega
  have e0 : decide (i < 0) = false := by simpa using i0
  by_cases k0 : n - 1 - i < 0
  · have HF : Hid (freshB n b i = true) := Lib.hid (by simp [freshB]; omega)
    have e1 : decide (n - 1 - i < 0) = true := by simpa using k0
    go_enter Try.func30, Try.ntmps30
    go_wp2_with (go_at_call 60; refine (wbelow_any _ _ _ _ _ hg h0 h1 i2 i1).mono ?_; rintro e w' ⟨rfl, rfl⟩)
    go_ret
    exact ⟨ret_bool HF.out.symm, rfl⟩
  have e1 : decide (n - 1 - i < 0) = false := by simpa using k0
  by_cases k1 : n - 1 - i < 64
  · have hb := bit_is b (n - 1 - i).toNat b0 b1
    have HF : Hid (freshB n b i = !(b.toNat.testBit (n - 1 - i).toNat)) := Lib.hid (by simp [freshB, i2, k1]; omega)
    go_enter Try.func30, Try.ntmps30
    go_wp2_with (go_at_call 60; refine (wbelow_any _ _ _ _ _ hg h0 h1 i2 i1).mono ?_; rintro e w' ⟨rfl, rfl⟩)
    go_ret
    exact ⟨ret_bool HF.out.symm, rfl⟩
  · have HF : Hid (freshB n b i = false) := Lib.hid (by simp [freshB]; omega)
    have e2 : decide (n - 1 - i < 64) = false := by simpa using k1
    go_enter Try.func30, Try.ntmps30
    go_wp2_with (go_at_call 60; refine (wbelow_any _ _ _ _ _ hg h0 h1 i2 i1).mono ?_; rintro e w' ⟨rfl, rfl⟩)
    go_ret
    exact ⟨ret_bool HF.out.symm, rfl⟩

/-- what a window is, when a fresh index is marked -/
def markN (n i : Int) : Int := if n ≤ i then i + 1 else n
def markB (n b i : Int) : Int := if n ≤ i then ((b.toNat * 2 ^ min (i + 1 - n).toNat 64 % 18446744073709551616 ||| 1 : Nat) : Int) else ((b.toNat ||| 2 ^ (n - 1 - i).toNat : Nat) : Int)

theorem markB_hi (n b i k : Int) (h0 : 0 ≤ n) (b0 : 0 ≤ b) (b1 : b ≤ 18446744073709551615) (h : n ≤ i) (hk : k = i + 1 - n) : bits .or .u64 (IntKind.u64.wrap (b * 2 ^ min k.toNat 64)) 1 = markB n b i := by
  subst hk
  obtain ⟨b, rfl⟩ := Int.eq_ofNat_of_zero_le b0
  unfold markB
  rw [if_pos h, IntKind.wrap_u64, Int.toNat_natCast]
  have e : ((b : Int) * 2 ^ min (i + 1 - n).toNat 64) % 18446744073709551616 = ((b * 2 ^ min (i + 1 - n).toNat 64 % 18446744073709551616 : Nat) : Int) := by simp
  rw [e]
  have hlt : b * 2 ^ min (i + 1 - n).toNat 64 % 18446744073709551616 < 18446744073709551616 := Nat.mod_lt _ (by omega)
  exact bits_or_u64_nat (b * 2 ^ min (i + 1 - n).toNat 64 % 18446744073709551616) 1 hlt (by omega)
theorem pow_lt64 (j : Nat) (h : j < 64) : 2 ^ j < 18446744073709551616 := by
  have := Nat.pow_lt_pow_right (a := 2) (by omega) h
  simpa using this
theorem markB_lo (n b i : Int) (b0 : 0 ≤ b) (b1 : b ≤ 18446744073709551615) (h : i < n) (hk : n - 1 - i < 64) : bits .or .u64 b (IntKind.u64.wrap (2 ^ min (n - 1 - i).toNat 64)) = markB n b i := by
  obtain ⟨b, rfl⟩ := Int.eq_ofNat_of_zero_le b0
  unfold markB
  rw [if_neg (by omega), IntKind.wrap_u64, Int.toNat_natCast, Nat.min_eq_left (by omega)]
  have hlt := pow_lt64 (n - 1 - i).toNat (by omega)
  have e : (2 : Int) ^ (n - 1 - i).toNat % 18446744073709551616 = ((2 ^ (n - 1 - i).toNat : Nat) : Int) := by
    rw [show (2 : Int) ^ (n - 1 - i).toNat = ((2 ^ (n - 1 - i).toNat : Nat) : Int) by simp]
    generalize 2 ^ (n - 1 - i).toNat = q at *
    omega
  rw [e]
  exact bits_or_u64_nat b _ (by omega) hlt

set_option maxHeartbeats 2000000 in
theorem wmark1_any (g : Nat) (n b i : Int) (p q : Nat) (w : World) (hg : win w g n b) (h0 : 0 ≤ n) (h1 : n ≤ 4611686018427387905) (b0 : 0 ≤ b) (b1 : b ≤ 18446744073709551615) (i0 : 0 ≤ i) (i1 : i ≤ 4611686018427387904)
    (hp : w.cell? ⟨p, 0, none⟩ = some (.pointer (some ⟨g, 0, none⟩))) (hq : w.cell? ⟨q, 0, none⟩ = some (.int .i64 i)) (hpg : p ≠ g) (hqg : q ≠ g) (hf : freshB n b i = true) :
    Calls Try.prog 59 #[.pointer (some ⟨p, 0, none⟩), .pointer (some ⟨q, 0, none⟩)] w fun e w' => e = .returned (.tuple #[]) ∧ win w' g (markN n i) (markB n b i) ∧ Keeps g w w' := by
  have c0 := hg.c0
  have c1 := hg.c1
  have f0 := hg.fr 0
  have f1 := hg.fr 1
  have HF := Lib.hid hf
  clear hf
  by_cases k0 : n - 1 - i < 0
  · have e1 : decide (0 ≤ n - 1 - i) = false := by simp; omega
    have M1 : Hid (markN n i = i + 1) := Lib.hid (by unfold markN; rw [if_pos (by omega)])
    obtain ⟨k, e2, e3, E4⟩ : ∃ k, IntKind.i64.wrap (-(n - 1 - i)) = k ∧ 0 ≤ k ∧ Hid (k = i + 1 - n) := ⟨_, IntWalk.i64_in _ (by omega), by omega, Lib.hid (by omega)⟩
    go_enter Try.func59, Try.ntmps59
    go_wp2_with (go_at_call 60; refine (wbelow_any _ _ _ _ _ hg h0 h1 i0 (by omega)).mono ?_; rintro e w' ⟨rfl, rfl⟩)
    go_region
    go_wp2
    go_returns
    refine ⟨rfl, ?_, by (repeat (first | exact Keeps.refl _ _ | exact hkk | refine Keeps.alloc ?_ _ | refine Keeps.drew ?_ | refine Keeps.drewN ?_ _ | refine Keeps.setCell ?_ (by first | (left; rfl) | (right; first | (simp; done) | (simp; omega) | (simp [size_drewN]; done) | (simp [size_drewN]; omega))) _))⟩
    rw [M1.out, ← markB_hi n b i k h0 b0 b1 (by omega) E4.out]
    unfold win at hg ⊢
    simp [heap_drew, heap_set, hg, putIn]
  · have e1 : decide (0 ≤ n - 1 - i) = true := by simp; omega
    go_enter Try.func59, Try.ntmps59
    go_wp2_with (go_at_call 60; refine (wbelow_any _ _ _ _ _ hg h0 h1 i0 (by omega)).mono ?_; rintro e w' ⟨rfl, rfl⟩)
    go_region
    go_wp2
    go_returns
    refine ⟨rfl, ?_, by (repeat (first | exact Keeps.refl _ _ | exact hkk | refine Keeps.alloc ?_ _ | refine Keeps.drew ?_ | refine Keeps.drewN ?_ _ | refine Keeps.setCell ?_ (by first | (left; rfl) | (right; first | (simp; done) | (simp; omega) | (simp [size_drewN]; done) | (simp [size_drewN]; omega))) _))⟩
    have h64 : n - 1 - i < 64 := by have := HF.out; simp [freshB] at this; omega
    rw [show markN n i = n by unfold markN; rw [if_neg (by omega)], ← markB_lo n b i b0 b1 (by omega) h64]
    unfold win at hg ⊢
    simp [heap_drew, heap_set, hg, putIn]

/-- what a call of Mark answers -/
def markE (n b i : Int) : Int := bif freshB n b i then 0 else 5
def markN' (n b i : Int) : Int := bif freshB n b i then markN n i else n
def markB' (n b i : Int) : Int := bif freshB n b i then markB n b i else b
set_option maxHeartbeats 2000000 in
theorem wmark_any (g : Nat) (n b i : Int) (w : World) (hg : win w g n b) (h0 : 0 ≤ n) (h1 : n ≤ 4611686018427387905) (b0 : 0 ≤ b) (b1 : b ≤ 18446744073709551615) (i1 : i ≤ 4611686018427387904) :
    Calls Try.prog 29 #[.pointer (some ⟨g, 0, none⟩), .int .i64 i] w fun e w' => e = .returned (.int .i64 (markE n b i)) ∧ win w' g (markN' n b i) (markB' n b i) ∧ Keeps g w w' := by
  have hl := hg.lt
  have ne0 : w.heap.size ≠ g := by omega
  have ne1 : w.heap.size + 1 ≠ g := by omega
  have hg2 : win ((w.alloc (.cells #[.pointer (some ⟨g, 0, none⟩)] 65)).alloc (.cells #[.int .i64 i] 2)) g n b := by
    unfold win at hg ⊢; rw [heap_alloc, heap_alloc, if_neg (by simp; omega), if_neg (by omega)]; exact hg
  cases hf : freshB n b i
  · have HE : Hid (markE n b i = 5 ∧ markN' n b i = n ∧ markB' n b i = b) := Lib.hid (by simp [markE, markN', markB', hf])
    go_enter Try.func29, Try.ntmps29
    go_wp2_with (first | (go_at_call 30; refine (wfresh_any _ _ _ _ _ hg2 h0 h1 b0 b1 (by omega)).mono ?_; rintro e w' ⟨rfl, rfl⟩) | go_in)
    go_ret
    rw [HE.out.1, HE.out.2.1, HE.out.2.2]
    exact ⟨rfl, hg2, by (repeat (first | exact Keeps.refl _ _ | exact hkk | refine Keeps.alloc ?_ _ | refine Keeps.drew ?_ | refine Keeps.drewN ?_ _ | refine Keeps.setCell ?_ (by first | (left; rfl) | (right; first | (simp; done) | (simp; omega) | (simp [size_drewN]; done) | (simp [size_drewN]; omega))) _))⟩
  · have i0 : 0 ≤ i := by simp [freshB] at hf; omega
    have HE : Hid (markE n b i = 0 ∧ markN' n b i = markN n i ∧ markB' n b i = markB n b i) := Lib.hid (by simp [markE, markN', markB', hf])
    go_enter Try.func29, Try.ntmps29
    go_wp2_with (first | (go_at_call 30; refine (wfresh_any _ _ _ _ _ hg2 h0 h1 b0 b1 (by omega)).mono ?_; rintro e w' ⟨rfl, rfl⟩) | (go_at_call 59; refine (wmark1_any g n b i _ _ _ hg2 h0 h1 b0 b1 i0 i1 (by simp) (by simp) ne0 ne1 hf).mono ?_; rintro e w' ⟨rfl, hg3, hk3⟩) | go_in)
    go_ret
    rw [HE.out.1, HE.out.2.1, HE.out.2.2]
    exact ⟨rfl, hg3, Keeps.trans (by (repeat (first | exact Keeps.refl _ _ | exact hkk | refine Keeps.alloc ?_ _ | refine Keeps.drew ?_ | refine Keeps.drewN ?_ _ | refine Keeps.setCell ?_ (by first | (left; rfl) | (right; first | (simp; done) | (simp; omega) | (simp [size_drewN]; done) | (simp [size_drewN]; omega))) _))) hk3⟩
end Go.Proofs.Ytkdjkaimcciemaa
