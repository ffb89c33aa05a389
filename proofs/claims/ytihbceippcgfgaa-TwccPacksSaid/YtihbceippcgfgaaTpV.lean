/-
  Chapter 37: Unpack's closures.
-/
import Derived.Test.YtihbceippcgfgaaTpN
import Derived.Test.YtihbceippcgfgaaTpK
import Derived.Test.YtihbceippcgfgaaNum
namespace Go.Proofs.Ytihbceippcgfgaa
open Go.RowKit
set_option linter.unusedVariables false
set_option linter.unusedSimpArgs false
attribute [local irreducible] wpStill wpQuiet

/-- the boxes of the bytes, the place, the error -/
structure Bx (w : World) (gb ga ge : Nat) (a : Option Addr) (N c p : Nat) : Prop where
  b : w.heap[gb]? = some (.cells #[.slice a N c] 25 (0, 0))
  at' : w.heap[ga]? = some (.cells #[.int .i64 (p : Nat)] 3 (0, 0))
  e : w.heap[ge]? = some (.cells #[.int .i64 0] 26 (0, 0))
set_option maxRecDepth 100000 in
set_option maxHeartbeats 1000000 in
theorem next_any (B gb ga ge : Nat) (a : Option Addr) (N c : Nat) (Z : Nat → Int) (p k : Nat) (w : World) (hs : BS B w a N c Z) (hk1 : 1 ≤ k) (hk2 : k ≤ 2) (hp : p + k ≤ N) (hN : N ≤ 100000) (hb : Bx w gb ga ge a N c p) (hne : ga ≠ gb ∧ ga ≠ ge) :
    Calls Try.prog 90 #[.int .i64 k, .pointer (some ⟨gb, 0, none⟩), .pointer (some ⟨ga, 0, none⟩), .pointer (some ⟨ge, 0, none⟩)] w fun e w' => e = .returned (.int .i64 (numv Z p k)) ∧ Bx w' gb ga ge a N c (p + k) ∧ Keeps ga w w' := by
  have h1 : w.cell? ⟨gb, 0, none⟩ = some (.slice a N c) := cell_blk hb.b
  have h2 : w.cell? ⟨ga, 0, none⟩ = some (.int .i64 (p : Nat)) := cell_blk hb.at'
  have h3 : w.cell? ⟨ge, 0, none⟩ = some (.int .i64 0) := cell_blk hb.e
  have hz : w.frozen? ⟨ga, 0, none⟩ = false := free_blk hb.at'
  have hnum := num_any B a N c Z (p : Int) (k : Int) w hs (by omega) (by omega) (by omega) (by omega)
  have ht : there N (p : Int) (k : Int) = true := (there_iff _ _ _).2 (by omega)
  have hno : numOr Z N (p : Int) (k : Int) = numv Z p k := by unfold numOr; rw [if_pos ht, Int.toNat_natCast, Int.toNat_natCast]
  rw [ht, hno] at hnum
  have hbd := numv_bd Z p k (fun i hi => hs.bd (p + i) (by omega))
  have hbd2 : 0 ≤ numv Z p k ∧ numv Z p k ≤ 65535 := by
    rcases (show k = 1 ∨ k = 2 by omega) with rfl | rfl
    · have := hbd.2; simp at this; omega
    · have := hbd.2; simp at this; omega
  have HNUM := Lib.hid hnum
  have HB := Lib.hid hb
  have hcells : Hid (Bx (w.setCell ⟨ga, 0, none⟩ (.int .i64 ((p : Int) + (k : Int)))) gb ga ge a N c (p + k) ∧ Keeps ga w (w.setCell ⟨ga, 0, none⟩ (.int .i64 ((p : Int) + (k : Int))))) := Lib.hid ⟨⟨by rw [set_blk_other _ (fun e => hne.1 e.symm)]; exact hb.b, by rw [set_blk _ hb.at']; rfl, by rw [set_blk_other _ (fun e => hne.2 e.symm)]; exact hb.e⟩, (Keeps.refl ga w).setCell (a := ⟨ga, 0, none⟩) (.inl rfl) _⟩
  generalize numv Z p k = x at *
  clear hs hb ht hno hbd hnum
  go_enter Try.func90, Try.ntmps90
  go_wp2_with fail
  refine HNUM.out.mono ?_
  rintro e w1 ⟨rfl, rfl⟩
  go_wp2_with fail
  go_ret
  exact ⟨rfl, hcells.out⟩
theorem must_yes (ge : Nat) (w : World) :
    Calls Try.prog 91 #[.bool true, .pointer (some ⟨ge, 0, none⟩)] w fun e w' => e = .returned (.tuple #[]) ∧ w = w' := by
  go_enter Try.func91, Try.ntmps91
  go_wp2_with fail
  go_end0
  exact ⟨rfl, rfl⟩
end Go.Proofs.Ytihbceippcgfgaa
