/-
  The walks of chapter 25: the inner functions of sharing; the law's words.
-/
import Derived.Test.YtkemkplmhjmahaaRemP
import Derived.Deep.QuietTactic
import Derived.BigQuiet
import Derived.StillTailTactics
import Derived.IntWalk
import Derived.Test.YtkemkplmhjmahaaProg
namespace Go.Proofs.Ytkemkplmhjmahaa
open Go.RowKit
set_option linter.unusedVariables false
set_option linter.unusedSimpArgs false

/-- costs that lie below B -/
structure CS (B : Nat) (w : World) (a : Option Addr) (n : Nat) (A : Nat → Option Addr) (K : Nat → Nat) (C : Nat → Nat → Int) (L : Nat → Nat) : Prop where
  at_ : 0 < n → ∃ b off, a = some ⟨b, off, none⟩ ∧ b < B ∧ ∀ i, i < n → w.cell? ⟨b, off + i, none⟩ = some (.slice (A i) (L i) (K i))
  row : ∀ i, i < n → 0 < L i → ∃ b off, A i = some ⟨b, off, none⟩ ∧ b < B ∧ ∀ j, j < L i → w.cell? ⟨b, off + j, none⟩ = some (.int .u64 (C i j))
  bd : ∀ i k, 0 ≤ C i k ∧ C i k ≤ 18446744073709551615
theorem CS.keep {B : Nat} {w w' : World} {a : Option Addr} {n : Nat} {A : Nat → Option Addr} {K : Nat → Nat} {C : Nat → Nat → Int} {L : Nat → Nat} (h : CS B w a n A K C L) (hb : Below B w w') : CS B w' a n A K C L := by
  refine ⟨fun h0 => ?_, fun i hi h0 => ?_, h.bd⟩
  · obtain ⟨b, off, h1, h2, h3⟩ := h.at_ h0
    exact ⟨b, off, h1, h2, fun i hi => Below.cell' hb h2 (h3 i hi)⟩
  · obtain ⟨b, off, h1, h2, h3⟩ := h.row i hi h0
    exact ⟨b, off, h1, h2, fun j hj => Below.cell' hb h2 (h3 j hj)⟩
theorem satR (a b : Int) (w : World) (a0 : 0 ≤ a) (a1 : a ≤ 18446744073709551615) (b0 : 0 ≤ b) (b1 : b ≤ 18446744073709551615) :
    Calls Try.prog 48 #[.int .u64 a, .int .u64 b] w fun e w' => e = .returned (.int .u64 (satI a b)) ∧ w' = w := by
  unfold satI
  by_cases h : a + b ≤ 18446744073709551615
  · rw [if_pos h]
    go_enter Try.func48, Try.ntmps48
    go_wp2_with fail
    go_ret
    exact ⟨rfl, rfl⟩
  · rw [if_neg h]
    go_enter Try.func48, Try.ntmps48
    go_wp2_with fail
    go_ret
    exact ⟨rfl, rfl⟩
theorem rsatR (a b : Int) (w : World) (a0 : 0 ≤ a) (a1 : a ≤ 18446744073709551615) (b0 : 0 ≤ b) (b1 : b ≤ 18446744073709551615) :
    Calls Try.prog 50 #[.int .u64 a, .int .u64 b] w fun e w' => e = .returned (.int .u64 (satI a b)) ∧ w' = w := by
  unfold satI
  by_cases h : a + b ≤ 18446744073709551615
  · rw [if_pos h]
    have hw : IntKind.u64.wrap (a + b) = a + b := by rw [IntKind.wrap_u64]; omega
    have hw2 : (a + b) % 18446744073709551616 = a + b := by omega
    go_enter Try.func50, Try.ntmps50
    go_wp2_with fail
    go_ret
    exact ⟨rfl, rfl⟩
  · rw [if_neg h]
    have hw : IntKind.u64.wrap (a + b) = a + b - 18446744073709551616 := by rw [IntKind.wrap_u64]; omega
    have hw2 : (a + b) % 18446744073709551616 = a + b - 18446744073709551616 := by omega
    have hd : decide (a + b - 18446744073709551616 < a) = true := by (simp; omega)
    go_enter Try.func50, Try.ntmps50
    go_wp2_with fail
    go_ret
    exact ⟨rfl, rfl⟩
theorem costR {B : Nat} {w : World} {a : Option Addr} {n : Nat} {A : Nat → Option Addr} {K : Nat → Nat} {C : Nat → Nat → Int} {L : Nat → Nat} (h : CS B w a n A K C L) (i : Nat) (hi : i < n) (k : Int) :
    Calls Try.prog 47 #[.slice (A i) (L i) (K i), .int .i64 k] w fun e w' => e = .returned (.int .u64 (cst C L i k)) ∧ w' = w := by
  unfold cst
  by_cases hk : 0 ≤ k ∧ k < L i
  · rw [if_pos hk]
    obtain ⟨h0, h1⟩ := hk
    obtain ⟨m, rfl⟩ := Int.eq_ofNat_of_zero_le h0
    obtain ⟨b, off, e1, hb, hc⟩ := h.row i hi (by omega)
    have hcell := hc m (by omega)
    rw [e1]
    rw [Int.toNat_natCast]
    generalize L i = l at *
    generalize K i = kk at *
    generalize C i m = z at *
    clear h hc e1
    go_enter Try.func47, Try.ntmps47
    go_wp2_with fail
    go_ret
    exact ⟨rfl, rfl⟩
  · rw [if_neg hk]
    generalize L i = l at *
    generalize K i = kk at *
    generalize A i = aa at *
    clear h
    go_enter Try.func47, Try.ntmps47
    go_wp2_with fail
    all_goals
      go_ret
      exact ⟨rfl, rfl⟩
theorem rcostR {B : Nat} {w : World} {a : Option Addr} {n : Nat} {A : Nat → Option Addr} {K : Nat → Nat} {C : Nat → Nat → Int} {L : Nat → Nat} (h : CS B w a n A K C L) (i : Nat) (hi : i < n) (k : Int) :
    Calls Try.prog 49 #[.slice (A i) (L i) (K i), .int .i64 k] w fun e w' => e = .returned (.int .u64 (cst C L i k)) ∧ w' = w := by
  unfold cst
  by_cases hk : 0 ≤ k ∧ k < L i
  · rw [if_pos hk]
    obtain ⟨h0, h1⟩ := hk
    obtain ⟨m, rfl⟩ := Int.eq_ofNat_of_zero_le h0
    obtain ⟨b, off, e1, hb, hc⟩ := h.row i hi (by omega)
    have hcell := hc m (by omega)
    rw [e1]
    rw [Int.toNat_natCast]
    generalize L i = l at *
    generalize K i = kk at *
    generalize C i m = z at *
    clear h hc e1
    go_enter Try.func49, Try.ntmps49
    go_wp2_with fail
    go_ret
    exact ⟨rfl, rfl⟩
  · rw [if_neg hk]
    generalize L i = l at *
    generalize K i = kk at *
    generalize A i = aa at *
    clear h
    go_enter Try.func49, Try.ntmps49
    go_wp2_with fail
    all_goals
      go_ret
      exact ⟨rfl, rfl⟩
end Go.Proofs.Ytkemkplmhjmahaa
