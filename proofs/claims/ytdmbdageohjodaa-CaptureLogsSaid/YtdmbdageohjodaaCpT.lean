/-
  Chapter 45: alive; lists read, as records.
-/
import Derived.Test.YtdmbdageohjodaaCpI
import Derived.Test.YtdmbdageohjodaaCpS
import Derived.Test.YtdmbdageohjodaaCpD
namespace Go.Proofs.Ytdmbdageohjodaa
open Go.RowKit
set_option linter.unusedVariables false
set_option linter.unusedSimpArgs false
attribute [local irreducible] wpStill wpQuiet MixC.wpMix MixC.wpPick
attribute [local go_sem] MixC.rdOp MixC.rd MixC.rdUpon MixC.mvUpon

theorem Rcds.nil (B : Nat) (w : World) (Q : Nat → Rcd) : Rcds B w none 0 0 Q :=
  ⟨Nat.le_refl _, by omega, fun i hi => by omega, 0, 0, fun h => by omega, fun i hi => by omega⟩
theorem begS : strOf (gz begL) 6 = ⟨#[84, 78, 76, 67, 0, 1]⟩ := by decide +kernel
set_option maxHeartbeats 2000000 in
theorem alive45_any (w : World) : Calls Try.prog 27 #[] w fun e w' => e = .returned (.bool true) ∧ Below w.heap.size w w' := by
  go_enter Try.func27, Try.ntmps27
  go_wp2_with fail
  refine (write45_any 0 none 0 0 (fun _ => default) w (Rcds.nil _ _ _) (Nat.zero_le _) (by omega)).mono ?_
  rintro e w1 ⟨⟨_, a, N, c, rfl, hN, ho⟩ | ⟨h, _⟩, b1⟩
  · have hN6 : N = 6 := hN
    subst hN6
    have ho' : w1.ownsRow w.heap.size 5 1 (.slice a 6 c) 6 (u8s begL) := ho
    obtain ⟨-, a', c', he, hs⟩ := BS.own ho' begL_oct (by omega)
    cases he
    have v4 : (convert 56 9 (.slice a 6 c)).run Try.prog w1 = .ok (.string ⟨#[84, 78, 76, 67, 0, 1]⟩) w1 := by rw [conv_own ho' begL_oct (by omega) (Below.refl _ w1), begS]
    have hcl := hs.le
    obtain ⟨b0, o0, hp0, -⟩ := hs.mem
    obtain ⟨rfl, hb0⟩ := hp0 (by omega)
    have HS := Lib.hid hs
    have B1 := Lib.hid b1
    have q1 : (5 : Int) ≤ c := by omega
    clear hs ho ho' b1 hp0 hN
    go_wp2_with fail
    refine (read45_any w1.heap.size (some ⟨b0, o0, none⟩) 5 c (gz begL) w1 (HS.out.cut (by omega) (by omega) (Nat.le_refl _)) (Nat.le_refl _) (by omega)).mono ?_
    rintro e w2 ⟨a2, K, c2, R, E, rfl, b2, -, h⟩
    have hE : E = 2 := by
      rcases h with ⟨_, _, h⟩ | ⟨h, _⟩ | ⟨h, _⟩
      · exact h
      · omega
      · omega
    subst hE
    have B2 := Lib.hid (B1.out.trans (b2.mono B1.out.size))
    clear h b2
    go_wp2_with fail
    go_ret
    exact ⟨rfl, B2.out⟩
  · exact absurd (fun i hi => absurd hi (Nat.not_lt_zero _)) h
/-- what was read, as records -/
theorem numv8 {Z : Nat → Int} {s n : Nat} (h : ∀ i, i < n → 0 ≤ Z i ∧ Z i ≤ 255) (hs : s + 8 ≤ n) : 0 ≤ numv Z s 8 := (numvb h hs).1
theorem IsRc.bd {Z : Nat → Int} {n p : Nat} {r : Rcd} (h : IsRc Z p r) (hz : ∀ i, i < n → 0 ≤ Z i ∧ Z i ≤ 255) (hp : p < n) (he : errP Z n p = 0) :
    (-9223372036854775808 ≤ r.tk ∧ r.tk ≤ 9223372036854775807) ∧ (-9223372036854775808 ≤ r.wy ∧ r.wy ≤ 9223372036854775807) ∧ (0 ≤ r.ad ∧ r.ad ≤ 4294967295) ∧ (0 ≤ r.pt ∧ r.pt ≤ 65535) ∧ r.n ≤ 100000 ∧ ∀ x, x < r.n → 0 ≤ r.Z x ∧ r.Z x ≤ 255 := by
  have hle := errP_ok he
  unfold nxtP at hle
  obtain ⟨h1, h2, h3, h4, h5, h6⟩ := h
  have e3 : ¬ (9223372036854775807 < numv (shZ Z p) 0 8 ∨ 2 ≤ shZ Z p 8 ∨ 1200 < rcM (shZ Z p)) := fun hh => by
    unfold errP oneE at he
    rw [if_neg (by omega), if_pos hh] at he
    cases he
  rw [numv_sh, Nat.add_zero] at e3
  have t0 := numvb hz (show p + 8 ≤ n by omega)
  have a0 := numvb hz (show p + 9 + 4 ≤ n by omega)
  have p0 := numv2 hz (show p + 13 + 2 ≤ n by omega)
  have y0 := hz (p + 8) (by omega)
  refine ⟨by rw [h1]; omega, by rw [h2]; omega, by rw [h3]; omega, by rw [h4]; omega, by omega, fun x hx => by rw [h6 x hx]; exact hz _ (by omega)⟩
theorem StopP.small {Z : Nat → Int} {n s K : Nat} {E : Int} (h : StopP Z n s K E) (hs : s ≤ n) : s + 19 * K ≤ n := by
  have := posP_lt h.1 hs; omega
/-- two lists of one file -/
theorem rlist_rcds {Z : Nat → Int} {n K base : Nat} {E : Int} {R : Nat → Rcd} {a : Option Addr} {c : Nat} {w : World} (hr : RList R K base (.slice a K c) w) (hz : ∀ i, i < n → 0 ≤ Z i ∧ Z i ≤ 255) (hs : StopP Z n 6 K E) (h6 : 6 ≤ n) (hn : n ≤ 80000) (hi : ∀ i, i < K → IsRc Z (posP Z 6 i) (R i)) : Rcds w.heap.size w a K c R := by
  have hk := hs.small h6
  exact (hr.rcds (by omega) (fun i hi' => (hi i hi').bd hz (hs.1 i hi').1 (hs.1 i hi').2)).2
end Go.Proofs.Ytdmbdageohjodaa
