/-
  Chapter 12: the laws StunWrites and StunAnswers.
-/
import Derived.Test.YtkoplofcjbeicaaStL
namespace Go.Proofs.Ytkoplofcjbeicaa
open Go.RowKit
set_option linter.unusedVariables false
set_option linter.unusedSimpArgs false
attribute [local irreducible] wpStill wpQuiet MixC.wpMix
attribute [local go_sem] MixC.rdOp MixC.rd MixC.rdUpon MixC.mvUpon

set_option maxRecDepth 100000 in
set_option maxHeartbeats 4000000 in
theorem StunAnswers.walk (a0 : Option Addr) (n c : Nat) (z0 : List Int) (u : Value) (w : World) (w0 : IsRow .u8 w a0 n c z0) (hu : ArgS Try.prog w 43 u) :
    Calls Try.prog 5 #[.slice a0 n c, u] w fun e w' => e = .returned (.bool true) ∧ Below w.heap.size w w' := by
  obtain ⟨Z, hb⟩ := BS.of_row w0
  obtain ⟨cs, rfl, hcs⟩ := hu
  obtain ⟨hsz, hrd⟩ := hcs 2 [41, 24] (by kernel_rfl)
  obtain ⟨v0, hv0, rv0⟩ := hrd 0 _ rfl
  obtain ⟨v1, hv1, rv1⟩ := hrd 1 _ rfl
  obtain ⟨A, rfl, wa⟩ := reads_int Try.underlying41 rv0
  obtain ⟨P, rfl, wp⟩ := reads_int Try.underlying24 rv1
  obtain rfl := arr2 hsz hv0 hv1
  have ab := bounds_u32 wa
  have pb := bounds_u16 wp
  have HB := Lib.hid hb
  have hle := hb.le
  have hmx := hb.max
  clear hb w0 hcs hrd rv0 rv1 hv0 hv1 hsz wa wp
  go_enter Try.func5, Try.ntmps5
  go_wp2_with fail
  obtain ⟨W0, hW0⟩ : ∃ W0, w.alloc (.cells #[.int .u32 A, .int .u16 P] 43) = W0 := ⟨_, rfl⟩
  obtain ⟨g, hg⟩ : ∃ g, w.heap.size = g := ⟨_, rfl⟩
  rw [hW0, hg]
  have B0 : Hid (Below w.heap.size w W0) := Lib.hid (by rw [← hW0]; exact (Below.refl _ _).alloc (Nat.le_refl _) _)
  have K0 : Hid (W0.heap[g]? = some (.cells #[.int .u32 A, .int .u16 P] 43 (0, 0))) := Lib.hid (by rw [← hW0, ← hg]; exact alloc_blk_new)
  clear hW0 hg
  have KK : Hid (∀ y, Below W0.heap.size W0 y → y.cell? ⟨g, 0, none⟩ = some (.int .u32 A) ∧ y.cell? ⟨g, 1, none⟩ = some (.int .u16 P) ∧ Below w.heap.size w y) := Lib.hid (fun y hy => by
    have kb := Below.blk hy K0.out (lt_of_block K0.out)
    exact ⟨cell_blk kb, cell_blk kb, B0.out.trans (hy.mono B0.out.size)⟩)
  refine (alive12_any W0).mono ?_
  rintro e w1 ⟨rfl, b1⟩
  have B1 := Lib.hid b1
  clear b1
  by_cases h3 : 3000 < n
  · have h3i : (3000 : Int) < n := by omega
    go_wp2_with fail
    go_ret
    exact ⟨rfl, (KK.out _ B1.out).2.2⟩
  have h3i : ¬ (3000 : Int) < n := by omega
  obtain ⟨c0, c1, bw1⟩ := KK.out _ B1.out
  have HA := Lib.hid (answer12_any w.heap.size a0 n c Z A P w1 (HB.out.keep bw1) bw1.size (by omega) ab pb)
  clear bw1
  go_wp2_with fail
  refine HA.out.mono ?_
  rintro e w2 ⟨b2, hres⟩
  have B2 := Lib.hid (B1.out.trans (b2.mono B1.out.size))
  clear b2 c0 c1 HA
  obtain ⟨c0, c1, bw2⟩ := KK.out _ B2.out
  have HA := Lib.hid (ranswer12_any w.heap.size a0 n c Z A P w2 (HB.out.keep bw2) bw2.size (by omega) ab pb)
  clear bw2
  rcases hres with ⟨hab, a1, k1, rfl, l1⟩ | ⟨hnab, rfl⟩
  · have HL1 := Lib.hid l1
    have HAB := Lib.hid hab
    have h32 : (32 : Int) ≤ n := by have := hab.2.2; omega
    clear l1 hab
    go_wp2_with fail
    refine HA.out.mono ?_
    rintro e w3 ⟨b3, ⟨-, a2, k2, rfl, l2⟩ | ⟨hno, -⟩⟩
    case inr => exact absurd HAB.out hno
    have B3 := Lib.hid (B2.out.trans (b3.mono B2.out.size))
    have L1 := Lib.hid (HL1.out.keep b3)
    have L2 := Lib.hid l2
    have s1 : (convert 22 9 (.slice a1 32 k1)).run Try.prog w3 = .ok (.string (strOf (gz (ansL Z (bits BinOp.xor .u16 P 8466) (bits BinOp.xor .u32 A 554869826))) 32)) w3 := run_conv_BS L1.out.bs Try.underlying22 Try.underlying5 Try.underlying9
    have s2 : (convert 22 9 (.slice a2 32 k2)).run Try.prog w3 = .ok (.string (strOf (gz (ansL Z (bits BinOp.xor .u16 P 8466) (bits BinOp.xor .u32 A 554869826))) 32)) w3 := run_conv_BS L2.out.bs Try.underlying22 Try.underlying5 Try.underlying9
    obtain ⟨S, hS⟩ : ∃ S, strOf (gz (ansL Z (bits BinOp.xor .u16 P 8466) (bits BinOp.xor .u32 A 554869826))) 32 = S := ⟨_, rfl⟩
    rw [hS] at s1 s2
    clear b3 l2 HA c0 c1 hS
    go_wp2_with fail
    go_ret
    exact ⟨rfl, (KK.out _ B3.out).2.2⟩
  · have HNA := Lib.hid hnab
    clear hnab
    go_wp2_with fail
    refine HA.out.mono ?_
    rintro e w3 ⟨b3, ⟨hab, -⟩ | ⟨-, rfl⟩⟩
    case inl => exact absurd hab HNA.out
    have B3 := Lib.hid (B2.out.trans (b3.mono B2.out.size))
    have s1 : (convert 22 9 (.slice none 0 0)).run Try.prog w3 = .ok (.string (strOf (gz []) 0)) w3 := run_conv_BS (BL.nil w3).bs Try.underlying22 Try.underlying5 Try.underlying9
    obtain ⟨S, hS⟩ : ∃ S, strOf (gz []) 0 = S := ⟨_, rfl⟩
    rw [hS] at s1
    clear b3 HA c0 c1 hS
    have hn0 : (0 : Int) ≤ n := by omega
    go_wp2_with fail
    go_ret
    exact ⟨rfl, (KK.out _ B3.out).2.2⟩
end Go.Proofs.Ytkoplofcjbeicaa
