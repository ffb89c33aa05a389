/-
  octets.Fill, apart from chapter 01.
-/
import Derived.Test.YtkoplofcjbeicaaBytes
import Derived.Test.YtkoplofcjbeicaaAppend
import Derived.Test.YtkoplofcjbeicaaU8
import Derived.IntWalk
namespace Go.Proofs.Ytkoplofcjbeicaa
open Go.RowKit
set_option linter.unusedVariables false
set_option linter.unusedSimpArgs false

/-- how many zeros fill up -/
def padN (len N : Nat) : Nat := (N - len % N) % N
theorem padN_spec (len N : Nat) (hN : 1 ≤ N) : (len + padN len N) % N = 0 ∧ padN len N < N ∧ ∀ j, j < padN len N → (len + j) % N ≠ 0 := by
  have hr : len % N < N := Nat.mod_lt _ hN
  have hd := Nat.div_add_mod len N
  unfold padN
  rcases Nat.eq_zero_or_pos (len % N) with h0 | h0
  · rw [h0, Nat.sub_zero, Nat.mod_self]
    exact ⟨by simpa using h0, hN, by omega⟩
  · rw [Nat.mod_eq_of_lt (show N - len % N < N by omega)]
    refine ⟨?_, by omega, fun j hj => ?_⟩
    · have : len + (N - len % N) = N * (len / N) + N := by omega
      rw [this]; simp
    · have : len + j = (len % N + j) + N * (len / N) := by omega
      rw [this, Nat.add_mul_mod_self_left, Nat.mod_eq_of_lt (by omega)]
      omega
def fillZ (Z : Nat → Int) (len : Nat) (i : Nat) : Int := if i < len then Z i else 0
theorem fillZ_bd {Z : Nat → Int} {len : Nat} (h : ∀ i, i < len → 0 ≤ Z i ∧ Z i ≤ 255) (i : Nat) : 0 ≤ fillZ Z len i ∧ fillZ Z len i ≤ 255 := by
  unfold fillZ; split
  · exact h i ‹_›
  · omega
theorem fillZ_old {Z : Nat → Int} {len i : Nat} (h : i < len) : fillZ Z len i = Z i := if_pos h
theorem fillZ_new {Z : Nat → Int} {len i : Nat} (h : len ≤ i) : fillZ Z len i = 0 := if_neg (by omega)

/-- a slice of bytes, as append takes it: full -/
theorem BS.from_ {B : Nat} {w : World} {a : Option Addr} {len cap base : Nat} {Z : Nat → Int} (h : BS B w a len cap Z) (hB : B ≤ base) (e : TypeId) : From w base e (.slice a len len) len (bytesOf Z len) := by
  refine .inr ⟨a, rfl, fun ha => ?_, bytesOf_len _ _, fun ad had j u hj => ?_⟩
  · rcases Nat.eq_zero_or_pos len with h0 | h0
    · exact h0
    · obtain ⟨_, _, h1, _⟩ := h.at_ (by have := h.le; omega); rw [h1] at ha; cases ha
  · obtain ⟨hjl, rfl⟩ := bytesOf_get hj
    obtain ⟨b1, o1, h1, h2, h3⟩ := h.at_ (by have := h.le; omega)
    rw [h1] at had
    cases had
    have h4 := h3 j hjl
    have : (⟨b1, o1, none⟩ : Addr).add j = ⟨b1, o1 + j, none⟩ := by unfold Addr.add; split <;> simp_all
    rw [this]
    exact ⟨by show b1 < base; omega, h4⟩

/-- what Fill hands back, and what is there then -/
def Filled (Z : Nat → Int) (len k : Nat) (w : World) (e : Ending) (w' : World) : Prop := ∃ a' cap', e = .returned (.slice a' (len + k) cap') ∧ BS w'.heap.size w' a' (len + k) cap' (fillZ Z len) ∧ Below w.heap.size w w'

theorem fill_no (B : Nat) (a : Option Addr) (len cap : Nat) (Z : Nat → Int) (n : Int) (w : World) (hb : BS B w a len cap Z) (hB : B ≤ w.heap.size) (hn : n < 1) :
    Calls Try.prog 44 #[.slice a len cap, .int .i64 n] w (Filled Z len 0 w) := by
  go_enter Try.func44, Try.ntmps44
  go_wp2_with fail
  go_ret
  exact ⟨a, cap, rfl, (hb.mono hB).congr fun i hi => fillZ_old hi, Below.refl _ _⟩

set_option maxRecDepth 100000 in
set_option maxHeartbeats 1000000 in
theorem fill_yes (B : Nat) (a : Option Addr) (len cap : Nat) (Z : Nat → Int) (N : Nat) (w : World) (hb : BS B w a len cap Z) (hB : B ≤ w.heap.size) (hlen : len ≤ 100000) (hN : 1 ≤ N) (hN2 : N ≤ 100000) :
    Calls Try.prog 44 #[.slice a len cap, .int .i64 N] w (Filled Z len (padN len N) w) := by
  obtain ⟨p1, p2, p3⟩ := padN_spec len N hN
  obtain ⟨K, hK⟩ : ∃ K, K = padN len N := ⟨_, rfl⟩
  rw [← hK] at p1 p2 p3 ⊢
  clear hK
  have hle := hb.le
  have hmx := hb.max
  have hfr := hb.from_ hB 5
  have P1 := Lib.hid p1
  have P3 := Lib.hid p3
  have HF := Lib.hid hfr
  clear p1 p3 hfr
  obtain ⟨i0, hi, hz0, hz1, hz2⟩ := info_parts infoU8
  go_enter Try.func44, Try.ntmps44
  go_wp2_with fail
  go_loopw [5] (fun sv wr => ∃ k : Nat, k ≤ K ∧ Below w.heap.size w wr ∧ (∃ ao co, sv = .slice ao (len + k) co) ∧ Hid (From wr w.heap.size 5 sv (len + k) (bytesOf (fillZ Z len) (len + k))) ∧ Hid (0 < k → wr.ownsRow w.heap.size 5 1 sv (len + k) (bytesOf (fillZ Z len) (len + k))) ∧ Hid (k = 0 → sv = .slice a len len)) (fun sv _ => match sv with | .slice _ q _ => len + K - q | _ => 0)
  case atStart => exact ⟨0, by omega, Below.refl _ _, ⟨a, len, rfl⟩, by show From _ _ _ _ _ _; rw [Nat.add_zero, bytesOf_congr (Z := fillZ Z len) (Z' := Z) (fun i hi => fillZ_old hi)]; exact HF.out, fun h => by omega, fun _ => rfl⟩
  case round =>
    obtain ⟨k, hk, hbel, ⟨ao, co, rfl⟩, hfrom, hown, hsame⟩ := hrel
    by_cases hlt : k < K
    · have hne : (((len : Int) + k) % N == 0) = false := by
        have : ((len : Int) + k) % N ≠ 0 := by exact_mod_cast P3.out k hlt
        simpa using this
      have HO := hfrom
      clear hfrom hown hsame
      go_wp2_with
        (at_builtin
         refine append_from _ rfl (.tmp 20) (.tmp 21) 22 rfl w.heap.size 5 i0 (.int .u8 0) 1 Try.underlying22 hi hz0 hz1 hz2 rfl _ (len + k) _ rfl (HO.out.alloc ?f3 _) ⟨wr.heap.size, 0, none⟩ 1 1 [.int .u8 0] rfl rfl ?f4 ?f5 (by decide) ?f7 ?f8 ?f9 ?_
         case f3 => exact hbel.size
         case f4 => exact cell_one_at rfl
         case f5 => exact one_cell rfl
         case f7 => unfold maxLen; omega
         case f8 => omega
         case f9 => have := hbel.size; simp; omega)
      intro v2 w2 hown2 hb2
      have hbel2 : Below w.heap.size w w2 := (hbel.alloc hbel.size _).trans hb2
      have hown3 : w2.ownsRow w.heap.size 5 1 v2 (len + (k + 1)) (bytesOf (fillZ Z len) (len + (k + 1))) := by
        rw [← Nat.add_assoc, bytesOf_succ, fillZ_new (by omega)]
        exact hown2
      have HO2 := Lib.hid hown3
      clear hown2 hown3 hb2
      obtain ⟨ao2, co2, rfl⟩ := own_len HO2.out
      go_wp2_with fail
      go_roundw
      case rel => exact ⟨k + 1, by omega, hbel2, ⟨_, _, rfl⟩, .inl HO2.out, fun _ => HO2.out, fun h => by omega⟩
      case measure => simp <;> omega
    · obtain rfl : k = K := by omega
      have he : (((len : Int) + k) % N) = 0 := by exact_mod_cast P1.out
      have hz : ∀ i, i < len + k → 0 ≤ fillZ Z len i ∧ fillZ Z len i ≤ 255 := fun i _ => fillZ_bd hb.bd i
      have HZ := Lib.hid hz
      clear hz
      go_wp2_with fail
      go_ret
      rcases Nat.eq_zero_or_pos k with rfl | hk0
      · have := hsame.out rfl
        cases this
        refine ⟨a, len, rfl, ?_, hbel⟩
        exact (((hb.keep (hbel.mono hB)).cut (Nat.le_refl len) (Nat.le_refl len) hle).mono (by have := hbel.size; omega)).congr fun i hi => fillZ_old hi
      · obtain ⟨a3, c3, h3, h4⟩ := BS.of_owns (hown.out hk0) HZ.out (by omega)
        cases h3
        exact ⟨_, _, rfl, h4, hbel⟩

end Go.Proofs.Ytkoplofcjbeicaa
