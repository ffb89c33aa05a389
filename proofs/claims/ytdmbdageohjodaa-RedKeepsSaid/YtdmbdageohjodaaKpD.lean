/-
  slices.Clone of any bytes, nil too.
-/
import Derived.Test.YtdmbdageohjodaaKpC
namespace Go.Proofs.Ytdmbdageohjodaa
open Go.RowKit
set_option linter.unusedVariables false
set_option linter.unusedSimpArgs false
attribute [local irreducible] wpStill wpQuiet

set_option maxHeartbeats 1000000 in
theorem clone_nil (w : World) :
    Calls Try.prog 90 #[.slice none 0 0] w fun e w' => e = .returned (.slice none 0 0) ∧ w = w' := by
  have hE : ∀ W : World, (binOp BinOp.eql 56 (.slice none 0 0) (.slice none 0 0)).run Try.prog W = .ok (.bool true) W := fun W => by kernel_rfl
  go_enter Try.func90, Try.ntmps90
  go_wp2_with fail
  go_ret
  exact ⟨rfl, rfl⟩
theorem clone_any (B : Nat) (a : Option Addr) (n c : Nat) (Z : Nat → Int) (w : World) (s : BS B w a n c Z) (hB : B ≤ w.heap.size) (hn : n ≤ 100000) :
    Calls Try.prog 90 #[.slice a n c] w fun e w' => ∃ a' c', e = .returned (.slice a' n c') ∧ w'.ownsRow w.heap.size 5 1 (.slice a' n c') n (bytesOf Z n) ∧ Below w.heap.size w w' := by
  cases a with
  | none =>
    obtain ⟨rfl, rfl⟩ := s.nils rfl
    refine (clone_nil w).mono ?_
    rintro e w' ⟨rfl, rfl⟩
    exact ⟨none, 0, rfl, World.ownsRow_nil _ _ _ _, Below.refl _ _⟩
  | some ad =>
    refine (clone_some B ad n c Z w s hB hn).mono ?_
    rintro e w' ⟨v, rfl, o, b⟩
    obtain ⟨a', c', rfl⟩ := own_len o
    exact ⟨a', c', rfl, o, b⟩
end Go.Proofs.Ytdmbdageohjodaa
