/-
  The walk of bits.OnesCount64.
-/
import Derived.Test.YtkdjkaimcciemaaPop
import Derived.Test.YtkdjkaimcciemaaWinLaws
namespace Go.Proofs.Ytkdjkaimcciemaa
open Go.RowKit
set_option linter.unusedVariables false
set_option linter.unusedSimpArgs false

theorem wrapN (n : Nat) (h : n < 18446744073709551616) : IntKind.u64.wrap (n : Int) = n := by rw [IntKind.wrap_u64]; omega
theorem andN (x c : Nat) (hx : x < 18446744073709551616) (hc : c < 18446744073709551616) : bits BinOp.and IntKind.u64 (x : Int) (c : Int) = ((x &&& c : Nat) : Int) := bits_and_u64_nat x c hx hc
theorem and127 (d : Nat) (h1 : d < 2 ^ 63) : bits BinOp.and IntKind.i64 (d : Int) 127 = ((d % 128 : Nat) : Int) := by
  have a1 : (BitVec.ofInt 64 (d : Int)).toNat = d := by
    rw [BitVec.ofInt_natCast, BitVec.toNat_ofNat]; exact Nat.mod_eq_of_lt (Nat.lt_trans h1 (by decide))
  have a2 : (BitVec.ofInt 64 (127 : Int)).toNat = 127 := by decide
  show IntKind.i64.wrap ((BitVec.ofInt 64 (d : Int) &&& BitVec.ofInt 64 (127 : Int)).toNat : Int) = _
  rw [BitVec.toNat_and, a1, a2, show (127 : Nat) = 2 ^ 7 - 1 by decide, Nat.and_two_pow_sub_one_eq_mod]
  exact IntWalk.i64_in _ (by omega)
theorem ones_steps (x : Nat) (hx : x < 18446744073709551616) : ∃ z1 z2 z3 y1 y2 y3 : Nat,
    IntKind.u64.wrap (bits BinOp.and IntKind.u64 ((x : Int) / 2) 6148914691236517205 + bits BinOp.and IntKind.u64 (x : Int) 6148914691236517205) = (z1 : Int) ∧
    IntKind.u64.wrap (bits BinOp.and IntKind.u64 ((z1 : Int) / 4) 3689348814741910323 + bits BinOp.and IntKind.u64 (z1 : Int) 3689348814741910323) = (z2 : Int) ∧
    bits BinOp.and IntKind.u64 (IntKind.u64.wrap ((z2 : Int) / 16 + (z2 : Int))) 1085102592571150095 = (z3 : Int) ∧
    IntKind.u64.wrap ((z3 : Int) + (z3 : Int) / 256) = (y1 : Int) ∧ IntKind.u64.wrap ((y1 : Int) + (y1 : Int) / 65536) = (y2 : Int) ∧ IntKind.u64.wrap ((y2 : Int) + (y2 : Int) / 4294967296) = (y3 : Int) ∧
    IntKind.i64.wrap (y3 : Int) = y3 ∧ bits BinOp.and IntKind.i64 (y3 : Int) 127 = ((pcs 64 x : Nat) : Int) := by
  obtain ⟨a, b, c, d, e, f, g, h, h1, h2, hp, hs⟩ := pby8 x
  obtain ⟨y1, y2, y3, e1, e2, e3, l1, l2, l3, hf⟩ := fold8 a b c d e f g h h1 h2
  have hq := (pby_eq 8 x (by simpa using hx)).1
  have r1 : rep 85 8 = 6148914691236517205 := by decide
  have r2 : rep 51 8 = 3689348814741910323 := by decide
  have r3 : rep 15 8 = 1085102592571150095 := by decide
  have d2 : ∀ n : Nat, n < 18446744073709551616 → ∀ k : Nat, n / k < 18446744073709551616 := fun n hn k => Nat.lt_of_le_of_lt (Nat.div_le_self _ _) hn
  have z1l : s1 8 x < 18446744073709551616 := Nat.lt_of_le_of_lt (Nat.add_le_add Nat.and_le_right Nat.and_le_right) (by rw [r1]; decide)
  have z2b : s2 8 (s1 8 x) ≤ 7378697629483820646 := Nat.le_trans (Nat.add_le_add Nat.and_le_right Nat.and_le_right) (by rw [r2]; decide)
  have z2l : s2 8 (s1 8 x) < 18446744073709551616 := Nat.lt_of_le_of_lt z2b (by decide)
  have z23 : s2 8 (s1 8 x) / 16 + s2 8 (s1 8 x) < 18446744073709551616 := Nat.lt_of_le_of_lt (Nat.add_le_add (Nat.div_le_self _ _) (Nat.le_refl _)) (Nat.lt_of_le_of_lt (Nat.add_le_add z2b z2b) (by decide))
  refine ⟨s1 8 x, s2 8 (s1 8 x), pby 8 x, y1, y2, y3, ?_, ?_, ?_, ?_, ?_, ?_, ?_, ?_⟩
  · have u1 := andN (x / 2) 6148914691236517205 (d2 x hx 2) (by decide)
    have u2 := andN x 6148914691236517205 hx (by decide)
    have u3 : (((x / 2 : Nat)) : Int) = (x : Int) / 2 := by simp
    rw [u3] at u1
    rw [show ((6148914691236517205 : Nat) : Int) = 6148914691236517205 from rfl] at u1 u2
    rw [u1, u2, ← Int.natCast_add, show (x / 2 &&& 6148914691236517205) + (x &&& 6148914691236517205) = s1 8 x by unfold s1; rw [r1]]
    exact wrapN _ z1l
  · generalize s1 8 x = z at *
    have u1 := andN (z / 4) 3689348814741910323 (d2 z z1l 4) (by decide)
    have u2 := andN z 3689348814741910323 z1l (by decide)
    have u3 : (((z / 4 : Nat)) : Int) = (z : Int) / 4 := by simp
    rw [u3] at u1
    rw [show ((3689348814741910323 : Nat) : Int) = 3689348814741910323 from rfl] at u1 u2
    rw [u1, u2, ← Int.natCast_add, show (z / 4 &&& 3689348814741910323) + (z &&& 3689348814741910323) = s2 8 z by unfold s2; rw [r2]]
    exact wrapN _ z2l
  · rw [← hq]
    generalize s2 8 (s1 8 x) = z at *
    have u3 : (((z / 16 + z : Nat)) : Int) = (z : Int) / 16 + z := by simp
    have u1 := andN (z / 16 + z) 1085102592571150095 z23 (by decide)
    have u4 := wrapN (z / 16 + z) z23
    rw [u3] at u1 u4
    rw [show ((1085102592571150095 : Nat) : Int) = 1085102592571150095 from rfl] at u1
    rw [u4, u1]
    unfold s3
    rw [r3]
  · rw [hp]
    have u3 : (((hor a b c d e f g h + hor a b c d e f g h / 256 : Nat)) : Int) = (hor a b c d e f g h : Int) + (hor a b c d e f g h : Int) / 256 := by simp
    have u4 := wrapN (hor a b c d e f g h + hor a b c d e f g h / 256) (by rw [← e1]; exact Nat.lt_trans l1 (by decide))
    rw [u3] at u4
    rw [u4, ← u3, ← e1]
  · have u3 : (((y1 + y1 / 65536 : Nat)) : Int) = (y1 : Int) + (y1 : Int) / 65536 := by simp
    have u4 := wrapN (y1 + y1 / 65536) (by rw [← e2]; exact Nat.lt_trans l2 (by decide))
    rw [u3] at u4
    rw [u4, ← u3, ← e2]
  · have u3 : (((y2 + y2 / 4294967296 : Nat)) : Int) = (y2 : Int) + (y2 : Int) / 4294967296 := by simp
    have u4 := wrapN (y2 + y2 / 4294967296) (by rw [← e3]; exact Nat.lt_trans l3 (by decide))
    rw [u3] at u4
    rw [u4, ← u3, ← e3]
  · exact IntWalk.i64_in _ (by clear e1 e2 e3 hf; generalize y3 = q at *; omega)
  · rw [and127 _ l3, hf, hs]
set_option maxHeartbeats 1000000 in
theorem ones64_any (x : Nat) (w : World) (hx : x < 18446744073709551616) :
    Calls Try.prog 61 #[.int .u64 (x : Int)] w fun e w' => e = .returned (.int .i64 (pcs 64 x : Nat)) ∧ w = w' := by
  obtain ⟨z1, z2, z3, y1, y2, y3, e1, e2, e3, e4, e5, e6, e7, e8⟩ := ones_steps x hx
  clear hx
  go_enter Try.func61, Try.ntmps61
  go_wp2_with fail
  go_ret
  exact ⟨rfl, rfl⟩
end Go.Proofs.Ytkdjkaimcciemaa
