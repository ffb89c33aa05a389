/-
  Chapter 12: does it look like a message? Are bytes all zero?
-/
import Derived.Test.YtkoplofcjbeicaaStC
namespace Go.Proofs.Ytkoplofcjbeicaa
open Go.RowKit
set_option linter.unusedVariables false
set_option linter.unusedSimpArgs false
attribute [local irreducible] wpStill wpQuiet MixC.wpMix
attribute [local go_sem] MixC.rdOp MixC.rd MixC.rdUpon MixC.mvUpon

instance (Z : Nat → Int) (n : Nat) : Decidable (isM Z n) := by unfold isM; infer_instance
def isB (Z : Nat → Int) (n : Nat) : Bool := decide (isM Z n)
theorem numv_four (Z : Nat → Int) (p : Nat) : numv Z p 4 = ((Z p * 256 + Z (p + 1)) * 256 + Z (p + 2)) * 256 + Z (p + 3) := by
  unfold numv numv numv numv numv
  simp
theorem numv_two (Z : Nat → Int) (p : Nat) : numv Z p 2 = typA Z p := by
  unfold numv numv numv typA
  simp
theorem zs_four (Z : Nat → Int) (p : Nat) : zs (shA Z p) 4 = [Z p, Z (p + 1), Z (p + 2), Z (p + 3)] := by
  have e : List.range 4 = [0, 1, 2, 3] := rfl
  unfold zs shA
  rw [e]
  rfl
theorem magic_four : putL magicI 4 = [33, 18, 164, 66] := by decide
theorem magic_iff {Z : Nat → Int} {n p : Nat} (h : Bd Z n) (hp : p + 4 ≤ n) : numv Z p 4 = 554869826 ↔ zs (shA Z p) 4 = putL magicI 4 := by
  have a := h p (by omega)
  have b := h (p + 1) (by omega)
  have c := h (p + 2) (by omega)
  have d := h (p + 3) (by omega)
  rw [numv_four, zs_four, magic_four]
  constructor
  · intro e
    have e0 : Z p = 33 := by omega
    have e1 : Z (p + 1) = 18 := by omega
    have e2 : Z (p + 2) = 164 := by omega
    have e3 : Z (p + 3) = 66 := by omega
    rw [e0, e1, e2, e3]
  · intro e
    injection e with e0 e
    injection e with e1 e
    injection e with e2 e
    injection e with e3 e
    rw [e0, e1, e2, e3]
    decide
theorem there_b (n at' k : Nat) (hk : 1 ≤ k) (hk8 : k ≤ 8) : there n (at' : Int) (k : Int) = decide (at' + k ≤ n) := by
  by_cases h : at' + k ≤ n
  · rw [decide_eq_true h, there_iff]; omega
  · rw [decide_eq_false h, Bool.eq_false_iff, Ne, there_iff]; omega
theorem numOr_b (Z : Nat → Int) (n at' k : Nat) (hk : 1 ≤ k) (hk8 : k ≤ 8) : numOr Z n (at' : Int) (k : Int) = if at' + k ≤ n then numv Z at' k else 0 := by
  unfold numOr
  rw [there_b n at' k hk hk8]
  by_cases h : at' + k ≤ n
  · rw [decide_eq_true h, if_pos rfl, if_pos h]; rfl
  · rw [decide_eq_false h, if_neg (by decide), if_neg h]
/-- a number at a place -/
theorem num_at (B : Nat) (a : Option Addr) (n c : Nat) (Z : Nat → Int) (p k : Nat) (w : World) (hb : BS B w a n c Z) (hp : p ≤ 100000) (hk : 1 ≤ k) (hk8 : k ≤ 8) :
    Calls Try.prog 40 #[.slice a n c, .int .i64 (p : Int), .int .i64 (k : Int)] w fun e w' => e = .returned (.tuple #[.int .u64 (if p + k ≤ n then numv Z p k else 0), .bool (decide (p + k ≤ n))]) ∧ w = w' := by
  have := num_any B a n c Z (p : Int) (k : Int) w hb (by omega) (by omega) (by omega) (by omega)
  rw [there_b n p k hk hk8, numOr_b Z n p k hk hk8] at this
  exact this
theorem bd_of {B : Nat} {w : World} {a : Option Addr} {n c : Nat} {Z : Nat → Int} (hb : BS B w a n c Z) : Bd Z n := hb.bd
set_option maxHeartbeats 2000000 in
theorem is12_any (B : Nat) (a : Option Addr) (n c : Nat) (Z : Nat → Int) (w : World) (hb : BS B w a n c Z) : Calls Try.prog 15 #[.slice a n c] w fun e w' => e = .returned (.bool (isB Z n)) ∧ w = w' := by
  have HB := Lib.hid hb
  have hle := hb.le
  have hmx := hb.max
  have HN := Lib.hid (num_at B a n c Z 4 4 w hb (by omega) (by omega) (by omega))
  have hI : isB Z n = decide (isM Z n) := rfl
  obtain ⟨ib, hib⟩ : ∃ ib, isB Z n = ib := ⟨_, rfl⟩
  rw [hib] at hI ⊢
  have HI := Lib.hid hI
  clear hb hI hib
  by_cases h8 : 8 ≤ n
  · have q1 : (if 4 + 4 ≤ n then numv Z 4 4 else 0) = numv Z 4 4 := if_pos h8
    have q2 : decide (4 + 4 ≤ n) = true := decide_eq_true h8
    rw [q1, q2] at HN
    clear q1 q2
    by_cases h20 : 20 ≤ n
    · obtain ⟨b, off, rfl, hbb, hc⟩ := HB.out.at_ (by omega)
      have c0 := hc 0 (by omega)
      rw [Nat.add_zero] at c0
      have z0 := HB.out.bd 0 (by omega)
      have hmg := magic_iff (p := 4) (bd_of HB.out) (by omega)
      obtain ⟨v, hv⟩ : ∃ v, numv Z 4 4 = v := ⟨_, rfl⟩
      rw [hv] at HN hmg
      have h20i : (20 : Int) ≤ n := by omega
      clear hc hv
      by_cases h64 : Z 0 < 64
      · by_cases hm : v = 554869826
        · obtain rfl : ib = true := by rw [HI.out]; exact decide_eq_true ⟨h20, h64, hmg.1 hm⟩
          subst hm
          clear hmg
          go_enter Try.func15, Try.ntmps15
          go_wp2_with fail
          refine HN.out.mono ?_
          rintro e w' ⟨rfl, rfl⟩
          go_wp2_with fail
          go_ret
          exact ⟨rfl, rfl⟩
        · obtain rfl : ib = false := by rw [HI.out]; exact decide_eq_false (fun h => hm (hmg.2 h.2.2))
          have hm1 : (v == 554869826) = false := by simpa using hm
          have hm2 : (v = 554869826) = False := eq_false hm
          clear hmg hm
          go_enter Try.func15, Try.ntmps15
          go_wp2_with fail
          refine HN.out.mono ?_
          rintro e w' ⟨rfl, rfl⟩
          go_wp2_with fail
          go_ret
          exact ⟨rfl, rfl⟩
      · obtain rfl : ib = false := by rw [HI.out]; exact decide_eq_false (fun h => h64 h.2.1)
        clear hmg
        go_enter Try.func15, Try.ntmps15
        go_wp2_with fail
        refine HN.out.mono ?_
        rintro e w' ⟨rfl, rfl⟩
        go_wp2_with fail
        go_ret
        exact ⟨rfl, rfl⟩
    · obtain rfl : ib = false := by rw [HI.out]; exact decide_eq_false (fun h => h20 h.1)
      have h20i : ¬ (20 : Int) ≤ n := by omega
      go_enter Try.func15, Try.ntmps15
      go_wp2_with fail
      refine HN.out.mono ?_
      rintro e w' ⟨rfl, rfl⟩
      go_wp2_with fail
      go_ret
      exact ⟨rfl, rfl⟩
  · have q1 : (if 4 + 4 ≤ n then numv Z 4 4 else 0) = 0 := if_neg h8
    have q2 : decide (4 + 4 ≤ n) = false := decide_eq_false h8
    rw [q1, q2] at HN
    obtain rfl : ib = false := by rw [HI.out]; exact decide_eq_false (fun h => by have := h.1; omega)
    clear q1 q2
    go_enter Try.func15, Try.ntmps15
    go_wp2_with fail
    refine HN.out.mono ?_
    rintro e w' ⟨rfl, rfl⟩
    go_wp2_with fail
    go_ret
    exact ⟨rfl, rfl⟩
set_option maxHeartbeats 2000000 in
theorem ris12_any (B : Nat) (a : Option Addr) (n c : Nat) (Z : Nat → Int) (w : World) (hb : BS B w a n c Z) : Calls Try.prog 16 #[.slice a n c] w fun e w' => e = .returned (.bool (isB Z n)) ∧ w = w' := by
  have HB := Lib.hid hb
  have hle := hb.le
  have hmx := hb.max
  have hI : isB Z n = decide (isM Z n) := rfl
  obtain ⟨ib, hib⟩ : ∃ ib, isB Z n = ib := ⟨_, rfl⟩
  rw [hib] at hI ⊢
  have HI := Lib.hid hI
  clear hb hI hib
  by_cases h20 : 20 ≤ n
  · obtain ⟨b, off, rfl, hbb, hc⟩ := HB.out.at_ (by omega)
    have c0 := hc 0 (by omega)
    rw [Nat.add_zero] at c0
    have z0 := HB.out.bd 0 (by omega)
    have HN := Lib.hid (rnum_any B _ n c Z 4 4 w HB.out (by rw [there_iff]; omega))
    have hmg := magic_iff (p := 4) (bd_of HB.out) (by omega)
    have h20i : (20 : Int) ≤ n := by omega
    clear hc
    by_cases h64 : Z 0 < 64
    · have d64 : Z 0 / 64 = 0 := by omega
      have e4 : numv Z (Int.toNat 4) (Int.toNat 4) = numv Z 4 4 := rfl
      obtain ⟨v, hv⟩ : ∃ v, numv Z 4 4 = v := ⟨_, rfl⟩
      rw [e4, hv] at HN
      rw [hv] at hmg
      clear e4 hv
      by_cases hm : v = 554869826
      · obtain rfl : ib = true := by rw [HI.out]; exact decide_eq_true ⟨h20, h64, hmg.1 hm⟩
        subst hm
        clear hmg
        go_enter Try.func16, Try.ntmps16
        go_wp2_with fail
        refine HN.out.mono ?_
        rintro e w' ⟨rfl, rfl⟩
        go_wp2_with fail
        go_ret
        exact ⟨rfl, rfl⟩
      · obtain rfl : ib = false := by rw [HI.out]; exact decide_eq_false (fun h => hm (hmg.2 h.2.2))
        have hm1 : (v == 554869826) = false := by simpa using hm
        have hm2 : (v = 554869826) = False := eq_false hm
        clear hmg hm
        go_enter Try.func16, Try.ntmps16
        go_wp2_with fail
        refine HN.out.mono ?_
        rintro e w' ⟨rfl, rfl⟩
        go_wp2_with fail
        go_ret
        exact ⟨rfl, rfl⟩
    · have d64 : (Z 0 / 64 = 0) = False := eq_false (by omega)
      have d64b : (Z 0 / 64 == 0) = false := by have : ¬ Z 0 / 64 = 0 := by omega
                                                simpa using this
      obtain rfl : ib = false := by rw [HI.out]; exact decide_eq_false (fun h => h64 h.2.1)
      clear hmg
      go_enter Try.func16, Try.ntmps16
      go_wp2_with fail
      go_ret
      exact ⟨rfl, rfl⟩
  · obtain rfl : ib = false := by rw [HI.out]; exact decide_eq_false (fun h => h20 h.1)
    have h20i : ¬ (20 : Int) ≤ n := by omega
    go_enter Try.func16, Try.ntmps16
    go_wp2_with fail
    go_ret
    exact ⟨rfl, rfl⟩
theorem pad_eq (n : Nat) : (n + 3) / 4 * 4 = n + padN n 4 := by unfold padN; omega
set_option maxHeartbeats 1000000 in
theorem padded_any (n : Nat) (w : World) (hn : n ≤ 100000) : Calls Try.prog 71 #[.int .i64 (n : Int)] w fun e w' => e = .returned (.int .i64 ((n + padN n 4 : Nat) : Int)) ∧ w = w' := by
  have w1 : IntKind.i64.wrap ((n : Int) + 3) = (n : Int) + 3 := IntWalk.i64_in _ (by omega)
  have w2 : ((n : Int) + 3).tdiv 4 = ((n : Int) + 3) / 4 := Int.tdiv_eq_ediv_of_nonneg (by omega)
  have w3 : IntKind.i64.wrap (((n : Int) + 3) / 4) = ((n : Int) + 3) / 4 := IntWalk.i64_in _ (by omega)
  have w4 : IntKind.i64.wrap (((n : Int) + 3) / 4 * 4) = ((n : Int) + 3) / 4 * 4 := IntWalk.i64_in _ (by omega)
  have he : ((n + padN n 4 : Nat) : Int) = ((n : Int) + 3) / 4 * 4 := by have := pad_eq n; omega
  rw [he]
  clear he
  go_enter Try.func71, Try.ntmps71
  go_wp2_with fail
  go_ret
  exact ⟨rfl, rfl⟩
set_option maxHeartbeats 1000000 in
theorem nz_any (v : Int) (w : World) : Calls Try.prog 73 #[.int .u8 v] w fun e w' => e = .returned (.bool (decide (v ≠ 0))) ∧ w = w' := by
  by_cases hv : v = 0
  · subst hv
    go_enter Try.func73, Try.ntmps73
    go_wp2_with fail
    go_ret
    exact ⟨rfl, rfl⟩
  · have h1 : (v = 0) = False := eq_false hv
    have h2 : (v == 0) = false := by simpa using hv
    have h3 : (v != 0) = true := by simpa using hv
    have h4 : decide (v ≠ 0) = true := decide_eq_true hv
    rw [h4]
    clear hv h4
    go_enter Try.func73, Try.ntmps73
    go_wp2_with fail
    go_ret
    exact ⟨rfl, rfl⟩
/-- is one of the bytes not zero? -/
def NzP (n : Nat) (Z : Nat → Int) (w : World) (e : Ending) (w' : World) : Prop := ∃ t : Bool, e = .returned (.bool t) ∧ (t = false ↔ ∀ i, i < n → Z i = 0) ∧ w = w'
set_option maxRecDepth 100000 in
set_option maxHeartbeats 2000000 in
theorem nzIdx_any (B : Nat) (a : Option Addr) (n c : Nat) (Z : Nat → Int) (w : World) (hb : BS B w a n c Z) (hn : n ≤ 100000) :
    Calls Try.prog 89 #[.slice a n c, .func (.func 73) #[] #[]] w fun e w' => ∃ r : Int, e = .returned (.int .i64 r) ∧ ((0 ≤ r ∧ ∃ i, i < n ∧ Z i ≠ 0) ∨ (r = -1 ∧ ∀ i, i < n → Z i = 0)) ∧ w = w' := by
  have H := Lib.hid hb
  have hcl := hb.le
  have hcm := hb.max
  clear hb
  go_enter Try.func89, Try.ntmps89
  go_wp2_with fail
  go_loopw [8] (fun s8 wr => ∃ k : Nat, k ≤ n ∧ s8 = .int .i64 k ∧ w = wr ∧ Hid (∀ j, j < k → Z j = 0)) (fun s8 _ => n - (intOf s8).toNat)
  case atStart => exact ⟨0, by omega, rfl, (by trivial), Lib.hid (fun j h => by omega)⟩
  case round =>
    obtain ⟨k, hk, rfl, rfl, HP⟩ := hrel
    by_cases hlt : k < n
    · obtain ⟨b, off, rfl, hbb, hc⟩ := H.out.at_ (by omega)
      have c0 := hc k hlt
      have hki : (k : Int) < n := by omega
      have HC := Lib.hid (nz_any (Z k) w)
      clear hc
      go_wp2_with fail
      refine HC.out.mono ?_
      rintro e V ⟨rfl, rfl⟩
      by_cases hz : Z k = 0
      · have hd : decide (Z k ≠ 0) = false := by simp [hz]
        have HP2 : Hid (∀ j, j < k + 1 → Z j = 0) := Lib.hid (fun j h => by
          rcases Nat.lt_or_ge j k with h1 | h1
          · exact HP.out j h1
          · rw [show j = k by omega]; exact hz)
        rw [hd]
        clear hd hz c0
        go_wp2_with fail
        go_roundw
        case rel => exact ⟨k + 1, by omega, by go_num, (by trivial), HP2⟩
        case measure => simp [intOf] <;> omega
      · have hd : decide (Z k ≠ 0) = true := by simp [hz]
        have HZ := Lib.hid hz
        rw [hd]
        clear hd hz c0
        go_wp2_with fail
        go_ret
        exact ⟨_, rfl, .inl ⟨by omega, k, hlt, HZ.out⟩, (by trivial)⟩
    · have : k = n := by omega
      subst this
      clear hlt
      go_wp2_with fail
      go_ret
      exact ⟨_, rfl, .inr ⟨rfl, HP.out⟩, (by trivial)⟩
set_option maxHeartbeats 2000000 in
theorem nz12_any (B : Nat) (a : Option Addr) (n c : Nat) (Z : Nat → Int) (w : World) (hb : BS B w a n c Z) (hn : n ≤ 100000) :
    Calls Try.prog 72 #[.slice a n c, .func (.func 73) #[] #[]] w (NzP n Z w) := by
  have HI := Lib.hid (nzIdx_any B a n c Z w hb hn)
  clear hb
  go_enter Try.func72, Try.ntmps72
  go_wp2_with fail
  refine HI.out.mono ?_
  rintro e w1 ⟨r, rfl, hr, rfl⟩
  rcases hr with ⟨h0, i, hi, hz⟩ | ⟨rfl, hno⟩
  · have HZ := Lib.hid hz
    clear hz
    go_wp2_with fail
    go_ret
    exact ⟨true, rfl, ⟨fun h => (by cases h), fun h => absurd (h i hi) HZ.out⟩, (by trivial)⟩
  · have HE := Lib.hid hno
    clear hno
    go_wp2_with fail
    go_ret
    exact ⟨false, rfl, ⟨fun _ => HE.out, fun _ => (by trivial)⟩, (by trivial)⟩
end Go.Proofs.Ytkoplofcjbeicaa
