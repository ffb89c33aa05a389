/-
  The plain law of TwccCounts.
-/
import Derived.Test.YtihbceippcgfgaaBase
namespace Go.Proofs.Ytihbceippcgfgaa
open Go.RowKit
set_option linter.unusedVariables false
set_option linter.unusedSimpArgs false

/-- how many of the first k didn't come -/
def twLost (X : Nat → Int) : Nat → Nat
  | 0 => 0
  | k + 1 => twLost X k + if X k < 0 then 1 else 0
/-- the greatest of the first k -/
def twHigh (X : Nat → Int) : Nat → Int
  | 0 => -1
  | k + 1 => if twHigh X k < X k then X k else twHigh X k
/-- how many of the first k came late -/
def twLate (X : Nat → Int) : Nat → Nat
  | 0 => 0
  | k + 1 => twLate X k + if 0 ≤ X k ∧ X k < twHigh X k then 1 else 0
theorem twLost_le (X : Nat → Int) (k : Nat) : twLost X k ≤ k := by
  induction k with
  | zero => exact Nat.le_refl _
  | succ k ih => unfold twLost; split <;> omega
theorem twLate_le (X : Nat → Int) (k : Nat) : twLate X k ≤ k := by
  induction k with
  | zero => exact Nat.le_refl _
  | succ k ih => unfold twLate; split <;> omega
theorem twHigh_lt (X : Nat → Int) (x : Int) (hx : 0 ≤ x) (n : Nat) : x < twHigh X n ↔ ∃ k, k < n ∧ x < X k := by
  induction n with
  | zero =>
    constructor
    · intro h; unfold twHigh at h; omega
    · rintro ⟨k, h, _⟩; omega
  | succ n ih =>
    have e : twHigh X (n + 1) = if twHigh X n < X n then X n else twHigh X n := rfl
    rw [e]
    constructor
    · intro h
      split at h
      · exact ⟨n, by omega, h⟩
      · obtain ⟨k, h1, h2⟩ := ih.1 h; exact ⟨k, by omega, h2⟩
    · rintro ⟨k, h1, h2⟩
      by_cases hk : k = n
      · subst hk; split <;> omega
      · have := ih.2 ⟨k, by omega, h2⟩; split <;> omega
end Go.Proofs.Ytihbceippcgfgaa
