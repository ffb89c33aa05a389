/-
  Fill, and the walks of OctetsOwn and OctetsOthers.
-/
import Derived.Test.YtgkjgefnialleaaOct
import Derived.Test.YtgkjgefnialleaaAppend
namespace Go.Proofs.Ytgkjgefnialleaa
open Go.RowKit
set_option linter.unusedVariables false
set_option linter.unusedSimpArgs false

/-- how many zeros fill up -/
def padN (len N : Nat) : Nat := (N - len % N) % N
theorem padN_spec (len N : Nat) (hN : 1 ≤ N) : (len + padN len N) % N = 0 ∧ padN len N < N ∧ ∀ j, j < padN len N → (len + j) % N ≠ 0 := by
  have hr : len % N < N := Nat.mod_lt _ hN
  have hd := Nat.div_add_mod len N
  unfold padN
  rcases Nat.eq_zero_or_pos (len % N) with h0 | h0
  · rw [h0, Nat.sub_zero, Nat.mod_self]
    exact ⟨by simpa using h0, hN, by omega⟩
  · rw [Nat.mod_eq_of_lt (show N - len % N < N by omega)]
    refine ⟨?_, by omega, fun j hj => ?_⟩
    · have : len + (N - len % N) = N * (len / N) + N := by omega
      rw [this]; simp
    · have : len + j = (len % N + j) + N * (len / N) := by omega
      rw [this, Nat.add_mul_mod_self_left, Nat.mod_eq_of_lt (by omega)]
      omega
def fillZ (Z : Nat → Int) (len : Nat) (i : Nat) : Int := if i < len then Z i else 0
theorem fillZ_bd {Z : Nat → Int} {len : Nat} (h : ∀ i, i < len → 0 ≤ Z i ∧ Z i ≤ 255) (i : Nat) : 0 ≤ fillZ Z len i ∧ fillZ Z len i ≤ 255 := by
  unfold fillZ; split
  · exact h i ‹_›
  · omega
theorem fillZ_old {Z : Nat → Int} {len i : Nat} (h : i < len) : fillZ Z len i = Z i := if_pos h
theorem fillZ_new {Z : Nat → Int} {len i : Nat} (h : len ≤ i) : fillZ Z len i = 0 := if_neg (by omega)

/-- a slice of bytes, as append takes it: full -/
theorem BS.from_ {B : Nat} {w : World} {a : Option Addr} {len cap base : Nat} {Z : Nat → Int} (h : BS B w a len cap Z) (hB : B ≤ base) (e : TypeId) : From w base e (.slice a len len) len (bytesOf Z len) := by
  refine .inr ⟨a, rfl, fun ha => ?_, bytesOf_len _ _, fun ad had j u hj => ?_⟩
  · rcases Nat.eq_zero_or_pos len with h0 | h0
    · exact h0
    · obtain ⟨_, _, h1, _⟩ := h.at_ (by have := h.le; omega); rw [h1] at ha; cases ha
  · obtain ⟨hjl, rfl⟩ := bytesOf_get hj
    obtain ⟨b1, o1, h1, h2, h3⟩ := h.at_ (by have := h.le; omega)
    rw [h1] at had
    cases had
    have h4 := h3 j hjl
    have : (⟨b1, o1, none⟩ : Addr).add j = ⟨b1, o1 + j, none⟩ := by unfold Addr.add; split <;> simp_all
    rw [this]
    exact ⟨by show b1 < base; omega, h4⟩

/-- what Fill hands back, and what is there then -/
def Filled (Z : Nat → Int) (len k : Nat) (w : World) (e : Ending) (w' : World) : Prop := ∃ a' cap', e = .returned (.slice a' (len + k) cap') ∧ BS w'.heap.size w' a' (len + k) cap' (fillZ Z len) ∧ Below w.heap.size w w'

theorem fill_no (B : Nat) (a : Option Addr) (len cap : Nat) (Z : Nat → Int) (n : Int) (w : World) (hb : BS B w a len cap Z) (hB : B ≤ w.heap.size) (hn : n < 1) :
    Calls Try.prog 39 #[.slice a len cap, .int .i64 n] w (Filled Z len 0 w) := by
  go_enter Try.func39, Try.ntmps39
  go_wp2_with fail
  go_ret
  exact ⟨a, cap, rfl, (hb.mono hB).congr fun i hi => fillZ_old hi, Below.refl _ _⟩

set_option maxHeartbeats 1000000 in
theorem fill_yes (B : Nat) (a : Option Addr) (len cap : Nat) (Z : Nat → Int) (N : Nat) (w : World) (hb : BS B w a len cap Z) (hB : B ≤ w.heap.size) (hlen : len ≤ 100000) (hN : 1 ≤ N) (hN2 : N ≤ 100000) :
    Calls Try.prog 39 #[.slice a len cap, .int .i64 N] w (Filled Z len (padN len N) w) := by
  obtain ⟨p1, p2, p3⟩ := padN_spec len N hN
  obtain ⟨K, hK⟩ : ∃ K, K = padN len N := ⟨_, rfl⟩
  rw [← hK] at p1 p2 p3 ⊢
  clear hK
  have hle := hb.le
  have hmx := hb.max
  have hfr := hb.from_ hB 5
  have P1 := Lib.hid p1
  have P3 := Lib.hid p3
  have HF := Lib.hid hfr
  clear p1 p3 hfr
  obtain ⟨i0, hi, hz0, hz1, hz2⟩ := info_parts infoU8
  go_enter Try.func39, Try.ntmps39
  go_wp2_with fail
  go_loopw [5] (fun sv wr => ∃ k : Nat, k ≤ K ∧ Below w.heap.size w wr ∧ (∃ ao co, sv = .slice ao (len + k) co) ∧ Hid (From wr w.heap.size 5 sv (len + k) (bytesOf (fillZ Z len) (len + k))) ∧ Hid (0 < k → wr.ownsRow w.heap.size 5 1 sv (len + k) (bytesOf (fillZ Z len) (len + k))) ∧ Hid (k = 0 → sv = .slice a len len)) (fun sv _ => match sv with | .slice _ q _ => len + K - q | _ => 0)
  case atStart => exact ⟨0, by omega, Below.refl _ _, ⟨a, len, rfl⟩, by show From _ _ _ _ _ _; rw [Nat.add_zero, bytesOf_congr (Z := fillZ Z len) (Z' := Z) (fun i hi => fillZ_old hi)]; exact HF.out, fun h => by omega, fun _ => rfl⟩
  case round =>
    obtain ⟨k, hk, hbel, ⟨ao, co, rfl⟩, hfrom, hown, hsame⟩ := hrel
    by_cases hlt : k < K
    · have hne : (((len : Int) + k) % N == 0) = false := by
        have : ((len : Int) + k) % N ≠ 0 := by exact_mod_cast P3.out k hlt
        simpa using this
      have HO := hfrom
      clear hfrom hown hsame
      go_wp2_with
        (at_builtin
         refine append_from _ rfl (.tmp 20) (.tmp 21) 48 rfl w.heap.size 5 i0 (.int .u8 0) 1 Try.underlying48 hi hz0 hz1 hz2 rfl _ (len + k) _ rfl (HO.out.alloc ?f3 _) ⟨wr.heap.size, 0, none⟩ 1 1 [.int .u8 0] rfl rfl ?f4 ?f5 (by decide) ?f7 ?f8 ?f9 ?_
         case f3 => exact hbel.size
         case f4 => exact cell_one_at rfl
         case f5 => exact one_cell rfl
         case f7 => unfold maxLen; omega
         case f8 => omega
         case f9 => have := hbel.size; simp; omega)
      intro v2 w2 hown2 hb2
      have hbel2 : Below w.heap.size w w2 := (hbel.alloc hbel.size _).trans hb2
      have hown3 : w2.ownsRow w.heap.size 5 1 v2 (len + (k + 1)) (bytesOf (fillZ Z len) (len + (k + 1))) := by
        rw [← Nat.add_assoc, bytesOf_succ, fillZ_new (by omega)]
        exact hown2
      have HO2 := Lib.hid hown3
      clear hown2 hown3 hb2
      obtain ⟨ao2, co2, rfl⟩ := own_len HO2.out
      go_wp2_with fail
      go_roundw
      case rel => exact ⟨k + 1, by omega, hbel2, ⟨_, _, rfl⟩, .inl HO2.out, fun _ => HO2.out, fun h => by omega⟩
      case measure => simp <;> omega
    · obtain rfl : k = K := by omega
      have he : (((len : Int) + k) % N) = 0 := by exact_mod_cast P1.out
      have hz : ∀ i, i < len + k → 0 ≤ fillZ Z len i ∧ fillZ Z len i ≤ 255 := fun i _ => fillZ_bd hb.bd i
      have HZ := Lib.hid hz
      clear hz
      go_wp2_with fail
      go_ret
      rcases Nat.eq_zero_or_pos k with rfl | hk0
      · have := hsame.out rfl
        cases this
        refine ⟨a, len, rfl, ?_, hbel⟩
        exact (((hb.keep (hbel.mono hB)).cut (Nat.le_refl len) (Nat.le_refl len) hle).mono (by have := hbel.size; omega)).congr fun i hi => fillZ_old hi
      · obtain ⟨a3, c3, h3, h4⟩ := BS.of_owns (hown.out hk0) HZ.out (by omega)
        cases h3
        exact ⟨_, _, rfl, h4, hbel⟩

/-- whatever Fill is given -/
theorem fill_any (B : Nat) (a : Option Addr) (len cap : Nat) (Z : Nat → Int) (n : Int) (w : World) (hb : BS B w a len cap Z) (hB : B ≤ w.heap.size) (hlen : len ≤ 100000) (hn : n ≤ 100000) :
    Calls Try.prog 39 #[.slice a len cap, .int .i64 n] w (Filled Z len (if n < 1 then 0 else padN len n.toNat) w) := by
  by_cases h : n < 1
  · rw [if_pos h]; exact fill_no B a len cap Z n w hb hB h
  · rw [if_neg h]
    obtain ⟨N, rfl⟩ := Int.eq_ofNat_of_zero_le (show 0 ≤ n by omega)
    rw [Int.toNat_natCast]
    exact fill_yes B a len cap Z N w hb hB hlen (by omega) (by omega)
/-- Put keeps all that was there -/
theorem put_keeps (B : Nat) (a : Option Addr) (len cap : Nat) (Z : Nat → Int) (n x : Int) (w : World) (hb : BS B w a len cap Z) (hB : B ≤ w.heap.size) (hlen : len ≤ 100000) (hx0 : 0 ≤ x) (hx1 : x ≤ 18446744073709551615) :
    Calls Try.prog 37 #[.slice a len cap, .int .i64 n, .int .u64 x] w fun e w' => (∃ v, e = .returned v) ∧ Below w.heap.size w w' := by
  by_cases h : n < 1 ∨ 8 < n
  · refine (put_bad B a len cap Z n x w hb h).mono ?_
    rintro e w' ⟨⟨a', rfl, _⟩, rfl⟩
    exact ⟨⟨_, rfl⟩, Below.refl _ _⟩
  · obtain ⟨m, rfl⟩ := Int.eq_ofNat_of_zero_le (show 0 ≤ n by omega)
    refine (put_good B a len cap Z m x w hb hB hlen (by omega) (by omega) hx0 hx1).mono ?_
    rintro e w' ⟨v, rfl, _, hbel⟩
    exact ⟨⟨_, rfl⟩, hbel⟩

set_option maxHeartbeats 1000000 in
theorem OctetsOwn.walk (a : Option Addr) (len cap : Nat) (z : List Int) (c n x : Int) (w : World) (r : IsRow .u8 w a len cap z) (w1 : (Lit.int .u8 c).wf = true) (w2 : (Lit.int .i64 n).wf = true) (w3 : (Lit.int .u64 x).wf = true) :
    Calls Try.prog 10 #[.slice a len cap, .int .u8 c, .int .i64 n, .int .u64 x] w fun e w' => e = .returned (.bool true) ∧ Below w.heap.size w w' := by
  obtain ⟨Z, hbs⟩ := BS.of_row r
  have b1 := bounds_u8 w1
  have b2 := bounds_i64 w2
  have b3 := bounds_u64 w3
  have hle := hbs.le
  have hmx := hbs.max
  clear r w1 w2 w3
  by_cases c0 : len = 0
  · subst c0
    go_enter Try.func10, Try.ntmps10
    go_wp2_with (go_at_call 33; refine (alive01_any _).mono ?_; rintro e w1 ⟨rfl, hb1⟩)
    go_ret
    exact ⟨rfl, hb1⟩
  have e0 : ((len : Int) == 0) = false := by simp; omega
  by_cases c1 : 300 < (len : Int)
  · go_enter Try.func10, Try.ntmps10
    go_wp2_with (go_at_call 33; refine (alive01_any _).mono ?_; rintro e w1 ⟨rfl, hb1⟩)
    go_ret
    exact ⟨rfl, hb1⟩
  by_cases c2 : 300 < n
  · go_enter Try.func10, Try.ntmps10
    go_wp2_with (go_at_call 33; refine (alive01_any _).mono ?_; rintro e w1 ⟨rfl, hb1⟩)
    go_ret
    exact ⟨rfl, hb1⟩
  obtain ⟨k, hk1, hk2⟩ : ∃ k : Nat, c % (len : Int) = k ∧ k < len := by
    refine ⟨(c % (len : Int)).toNat, ?_, ?_⟩
    · have := Int.emod_nonneg c (show (len : Int) ≠ 0 by omega); omega
    · have := Int.emod_lt_of_pos c (show 0 < (len : Int) by omega); have := Int.emod_nonneg c (show (len : Int) ≠ 0 by omega); omega
  have hb1' : 1 ≤ (len : Int) := by omega
  have hcv : ∀ W, Below w.heap.size w W → Sem.run Try.prog (convert 48 9 (.slice a len cap)) W = .ok (.string (strOf Z len)) W := fun W h => run_conv_BS (hbs.keep h) Try.underlying48 Try.underlying5 Try.underlying9
  have HCV := Lib.hid hcv
  clear hcv
  go_enter Try.func10, Try.ntmps10
  go_wp2_with fail
  refine (alive01_any _).mono ?_
  rintro e w1 ⟨rfl, hb1⟩
  have hv1 := HCV.out w1 hb1
  go_wp2_with fail
  have hs1 := hb1.size
  refine (put_keeps w.heap.size a k cap Z n x _ ((hbs.keep hb1).cut (by omega) (by omega) (by omega)) hs1 (by omega) (by omega) (by omega)).mono ?_
  rintro e w2 ⟨⟨v2, rfl⟩, hb2⟩
  have hb2' := hb1.trans (hb2.mono hs1)
  clear hv1 hb2
  have hs2 := hb2'.size
  go_wp2_with fail
  refine (fill_any w.heap.size a k cap Z n _ ((hbs.keep hb2').cut (by omega) (by omega) (by omega)) hs2 (by omega) (by omega)).mono ?_
  rintro e w3 ⟨a3, cap3, rfl, _, hb3⟩
  have hb3' := hb2'.trans (hb3.mono hs2)
  have hv3 := HCV.out w3 hb3'
  clear hb3
  go_wp2_with fail
  all_goals
    go_ret
    exact ⟨rfl, hb3'⟩
end Go.Proofs.Ytgkjgefnialleaa
