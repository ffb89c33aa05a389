/-
  slices.Clone of a slice of bytes.
-/
import Derived.Test.YtkoplofcjbeicaaRtx
namespace Go.Proofs.Ytkoplofcjbeicaa
open Go.RowKit
set_option linter.unusedVariables false
set_option linter.unusedSimpArgs false
attribute [local irreducible] wpStill wpQuiet

theorem eql_nil (ad : Addr) (n c : Nat) (W : World) : (binOp BinOp.eql 22 (.slice (some ad) n c) (.slice none 0 0)).run Try.prog W = .ok (.bool false) W := by kernel_rfl
set_option maxRecDepth 100000 in
set_option maxHeartbeats 4000000 in
theorem clone_some (B : Nat) (ad : Addr) (n c : Nat) (Z : Nat → Int) (w : World) (s : BS B w (some ad) n c Z) (hB : B ≤ w.heap.size) (hn : n ≤ 100000) :
    Calls Try.prog 55 #[.slice (some ad) n c] w fun e w' => ∃ v, e = .returned v ∧ w'.ownsRow w.heap.size 5 1 v n (bytesOf Z n) ∧ Below w.heap.size w w' := by
  obtain ⟨i0, hi, hz0, hz1, hz2⟩ := info_parts infoU8
  have S := Lib.hid s
  clear s
  have hE := eql_nil
  go_enter Try.func55, Try.ntmps55
  have HO : Hid ((w.alloc (.cells #[] 5)).ownsRow w.heap.size 5 1 (.slice (some ⟨w.heap.size, 0, none⟩) 0 0) 0 []) := Lib.hid ⟨rfl, .inr ⟨w.heap.size, 0, #[], rfl, Nat.le_refl _, alloc_blk_new, Nat.le_refl _, by unfold maxLen; omega, rfl, rfl⟩⟩
  have hal : Below w.heap.size w (w.alloc (.cells #[] 5)) := (Below.refl _ w).alloc (Nat.le_refl _) _
  have S1 := Lib.hid (S.out.keep (hal.mono hB))
  go_wp2_with
    (at_builtin
     refine append_src _ rfl (.tmp 5) (.tmp 6) 22 rfl w.heap.size 5 i0 (.int .u8 0) 1 1 Try.underlying22 hi hz0 hz1 hz2 rfl (by decide) (.slice (some ⟨w.heap.size, 0, none⟩) 0 0) 0 [] rfl HO.out (some ad) n c (bytesOf Z n) rfl ?d1 ?d2 ?d3 ?d4 ?d5 ?d6 ?d7 ?_
     case d1 => exact S1.out.nil
     case d2 => simp [bytesOf]
     case d3 => exact S1.out.news
     case d4 => intro u hu; simp [bytesOf] at hu; obtain ⟨i, _, rfl⟩ := hu; rfl
     case d5 => unfold maxLen; omega
     case d6 => omega
     case d7 => exact hal.size)
  intro v2 w2 own2 bel2
  have HO2 := Lib.hid own2
  have HB2 := Lib.hid (hal.trans bel2)
  obtain ⟨va, vc, hv⟩ := own_len own2
  subst hv
  clear own2 bel2
  go_wp2_with fail
  go_ret
  exact ⟨_, rfl, by have := HO2.out; simpa using this, HB2.out⟩
end Go.Proofs.Ytkoplofcjbeicaa
