/-
  The law CaptureReads.
-/
import Derived.Test.YtdmbdageohjodaaCpT
namespace Go.Proofs.Ytdmbdageohjodaa
open Go.RowKit
set_option linter.unusedVariables false
set_option linter.unusedSimpArgs false
attribute [local irreducible] wpStill wpQuiet MixC.wpMix MixC.wpPick
attribute [local go_sem] MixC.rdOp MixC.rd MixC.rdUpon MixC.mvUpon

def RdD (Z : Nat → Int) (n K : Nat) (E : Int) (R : Nat → Rcd) : Prop := (n < 6 ∧ K = 0 ∧ E = 2) ∨ (6 ≤ n ∧ ¬ hdS Z ∧ K = 0 ∧ E = 3) ∨ (6 ≤ n ∧ hdS Z ∧ StopP Z n 6 K E ∧ ∀ i, i < K → IsRc Z (posP Z 6 i) (R i))
theorem RdD.pair {Z : Nat → Int} {n K K' : Nat} {E E' : Int} {R R' : Nat → Rcd} (h : RdD Z n K E R) (h' : RdD Z n K' E' R') : K = K' ∧ E = E' ∧ ∀ i, i < K → EqvR (R i) (R' i) := by
  rcases h with ⟨a, b, c⟩ | ⟨a, b, c, d⟩ | ⟨a, b, c, d⟩ <;> rcases h' with ⟨a', b', c'⟩ | ⟨a', b', c', d'⟩ | ⟨a', b', c', d'⟩
  · exact ⟨b.trans b'.symm, c.trans c'.symm, fun i hi => by omega⟩
  · omega
  · omega
  · omega
  · exact ⟨c.trans c'.symm, d.trans d'.symm, fun i hi => by omega⟩
  · exact absurd b' b
  · omega
  · exact absurd b b'
  · obtain ⟨h1, h2⟩ := c.uniq c'
    subst h1
    exact ⟨rfl, h2, fun i hi => (d i hi).eqv (d' i hi)⟩
theorem RdD.rcds {Z : Nat → Int} {n K base : Nat} {E : Int} {R : Nat → Rcd} {a : Option Addr} {c : Nat} {w : World} (h : RdD Z n K E R) (hr : RList R K base (.slice a K c) w) (hz : ∀ i, i < n → 0 ≤ Z i ∧ Z i ≤ 255) (hn : n ≤ 80000) : Rcds w.heap.size w a K c R := by
  rcases h with ⟨_, b, _⟩ | ⟨_, _, b, _⟩ | ⟨a, b, c, d⟩
  · subst b; exact (hr.rcds (by omega) (fun i hi => by omega)).2
  · subst b; exact (hr.rcds (by omega) (fun i hi => by omega)).2
  · exact rlist_rcds hr hz c a hn d
theorem RdD.small {Z : Nat → Int} {n K : Nat} {E : Int} {R : Nat → Rcd} (h : RdD Z n K E R) (hn : n ≤ 80000) : K ≤ 10000 := by
  rcases h with ⟨_, b, _⟩ | ⟨_, _, b, _⟩ | ⟨a, b, c, d⟩
  · omega
  · omega
  · have := c.small a; omega
set_option maxRecDepth 100000 in
set_option maxHeartbeats 2000000 in
theorem CaptureReads.walk (a0 : Option Addr) (n c : Nat) (z0 : List Int) (w : World) (w0 : IsRow .u8 w a0 n c z0) :
    Calls Try.prog 8 #[.slice a0 n c] w fun e w' => e = .returned (.bool true) ∧ Below w.heap.size w w' := by
  obtain ⟨Z, hb⟩ := BS.of_row w0
  have HB := Lib.hid hb
  have hle := hb.le
  have hmx := hb.max
  clear hb w0
  go_enter Try.func8, Try.ntmps8
  go_wp2_with fail
  refine (alive45_any w).mono ?_
  rintro e w1 ⟨rfl, b1⟩
  have B1 := Lib.hid b1
  clear b1
  by_cases h5 : 5000 < n
  · have d1 : decide (5000 < (n : Int)) = true := by simp; omega
    go_wp2_with fail
    go_ret
    exact ⟨rfl, B1.out⟩
  · have d1 : decide (5000 < (n : Int)) = false := by simp; omega
    go_wp2_with fail
    refine (read45_any w.heap.size a0 n c Z w1 (HB.out.keep B1.out) B1.out.size (by omega)).mono ?_
    rintro e w2 ⟨a1, K1, c1, R1, E1, rfl, b2, r1, h1⟩
    have B2 := Lib.hid (B1.out.trans (b2.mono B1.out.size))
    have R1H := Lib.hid r1
    have D1 : Hid (RdD Z n K1 E1 R1) := Lib.hid h1
    clear b2 r1 h1
    go_wp2_with fail
    refine (rread_any w.heap.size a0 n c Z w2 (HB.out.keep B2.out) B2.out.size (by omega)).mono ?_
    rintro e w3 ⟨a2, K2, c2, R2, E2, rfl, b3, r2, h2⟩
    have D2 : RdD Z n K2 E2 R2 := h2
    obtain ⟨e1, e2, heq⟩ := D1.out.pair D2
    subst e1 e2
    have B3 := Lib.hid (B2.out.trans (b3.mono B2.out.size))
    have q1 := D1.out.rcds (R1H.out.below b3) HB.out.bd (by omega)
    have q2 := D2.rcds r2 HB.out.bd (by omega)
    have hk := D2.small (by omega)
    have HSM := Lib.hid (rsame_true w3.heap.size a1 a2 K1 c1 c2 R1 R2 w3 q1 q2 (Nat.le_refl _) hk heq)
    clear b3 r2 h2 D2 heq q1 q2
    go_wp2_with fail
    refine HSM.out.mono ?_
    rintro e w4 ⟨rfl, b4⟩
    have B4 := Lib.hid (B3.out.trans (b4.mono B3.out.size))
    clear b4
    go_wp2_with fail
    go_ret
    exact ⟨rfl, B4.out⟩
end Go.Proofs.Ytdmbdageohjodaa
