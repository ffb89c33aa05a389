/-
  Chapter 12: the law StunReads.
-/
import Derived.Test.YtkoplofcjbeicaaStK
namespace Go.Proofs.Ytkoplofcjbeicaa
open Go.RowKit
set_option linter.unusedVariables false
set_option linter.unusedSimpArgs false
attribute [local irreducible] wpStill wpQuiet MixC.wpMix
attribute [local go_sem] MixC.rdOp MixC.rd MixC.rdUpon MixC.mvUpon

theorem keys_in {Z : Nat → Int} {n : Nat} : ∀ m p, n - p ≤ m → ∀ k ∈ (prsA Z n p).1, k.2.1 + k.2.2 ≤ n := by
  intro m
  induction m with
  | zero => intro p hp k hk; rw [prsA, dif_neg (by omega)] at hk; cases hk
  | succ m ih =>
    intro p hp k hk
    rw [prsA] at hk
    by_cases h : p < n
    · rw [dif_pos h] at hk
      by_cases hg : goodA Z n p
      · rw [if_pos hg] at hk
        have h4 := sizA_pos Z p
        rcases List.mem_cons.1 hk with rfl | hk
        · have := hg.2.2.1
          unfold keyA sizA at *
          simp only
          omega
        · exact ih (p + sizA Z p) (by omega) k hk
      · rw [if_neg hg] at hk; cases hk
    · rw [dif_neg h] at hk; cases hk
theorem ok_read {Z : Nat → Int} {n : Nat} (hb : Bd Z n) {l : List AtE} (hr : readM Z n (l.map (fun y => shK 20 y.key))) (hz : ∀ y ∈ l, y.e.Z = shA (shA Z 20) y.st ∧ 0 ≤ y.e.t ∧ y.e.t ≤ 65535 ∧ y.e.n ≤ 255) : ∀ y ∈ l, OkA y.e := fun y hy => by
  obtain ⟨h1, h2, h3, h4⟩ := hz y hy
  have hk := keys_in (Z := Z) (n := n) n 20 (by omega) (shK 20 y.key) (by rw [hr.2.2.2.1]; exact List.mem_map.2 ⟨y, hy, rfl⟩)
  refine ⟨h2, h3, by omega, fun i hi => ?_⟩
  rw [h1]
  unfold shK AtE.key at hk
  simp only at hk
  exact hb (20 + (y.st + i)) (by omega)
set_option maxRecDepth 100000 in
set_option maxHeartbeats 4000000 in
theorem StunReads.walk (a0 : Option Addr) (n c : Nat) (z0 : List Int) (w : World) (w0 : IsRow .u8 w a0 n c z0) :
    Calls Try.prog 3 #[.slice a0 n c] w fun e w' => e = .returned (.bool true) ∧ Below w.heap.size w w' := by
  obtain ⟨Z, hb⟩ := BS.of_row w0
  have HB := Lib.hid hb
  have hle := hb.le
  have hmx := hb.max
  clear hb w0
  go_enter Try.func3, Try.ntmps3
  go_wp2_with fail
  refine (alive12_any w).mono ?_
  rintro e w1 ⟨rfl, b1⟩
  have B1 := Lib.hid b1
  clear b1
  by_cases h3 : 3000 < n
  · have h3i : (3000 : Int) < n := by omega
    go_wp2_with fail
    go_ret
    exact ⟨rfl, B1.out⟩
  have h3i : ¬ (3000 : Int) < n := by omega
  go_wp2_with fail
  refine (read12_any w.heap.size a0 n c Z w1 (HB.out.keep B1.out) B1.out.size (by omega)).mono ?_
  rintro e w2 ⟨b2, ⟨l, v, ks, rfl, hr, hks, hal, hz⟩ | ⟨E, rfl, hE, hno⟩⟩
  · obtain ⟨va, vc, rfl⟩ := hal.sl
    have B2 := Lib.hid (B1.out.trans (b2.mono B1.out.size))
    have HAL := Lib.hid hal
    subst hks
    have HR := Lib.hid hr
    have HZ := Lib.hid hz
    clear b2 hr hz hal
    simp only [msgV]
    go_wp2_with fail
    obtain ⟨W2, hW2⟩ : ∃ W2, w2.alloc (.cells (msgV (typA Z 0) (shA Z 8) (.slice va l.length vc)) 28) = W2 := ⟨_, rfl⟩
    obtain ⟨g, hg⟩ : ∃ g, w2.heap.size = g := ⟨_, rfl⟩
    have k2 : W2.heap[g]? = some (.cells (msgV (typA Z 0) (shA Z 8) (.slice va l.length vc)) 28 (0, 0)) := by rw [← hW2, ← hg]; exact alloc_blk_new
    have b2 : Below w2.heap.size w2 W2 := by rw [← hW2]; exact (Below.refl _ _).alloc (Nat.le_refl _) _
    change Calls _ _ _ (w2.alloc (.cells (msgV (typA Z 0) (shA Z 8) (.slice va l.length vc)) 28)) _
    rw [hW2, hg]
    have K2 := Lib.hid k2
    have Q2 := Lib.hid b2
    have B3 := Lib.hid (B2.out.trans (b2.mono B2.out.size))
    clear hW2 hg k2 b2
    refine (rread12_any w.heap.size a0 n c Z W2 (HB.out.keep B3.out) B3.out.size (by omega)).mono ?_
    rintro e w4 ⟨b4, ⟨l', v', rfl, hr', hal', hz'⟩ | ⟨E', rfl, hE', hno'⟩⟩
    case inr => exact absurd ((read_iff HB.out.bd (by omega) _).1 HR.out) (hno' _)
    obtain ⟨va', vc', rfl⟩ := hal'.sl
    have B4 := Lib.hid (B3.out.trans (b4.mono B3.out.size))
    have K4 := Lib.hid (Below.blk b4 K2.out (lt_of_block K2.out))
    have HR' := Lib.hid ((read_iff HB.out.bd (by omega) _).2 hr')
    have HZ' := Lib.hid hz'
    have HAL' := Lib.hid hal'
    have HAL4 := Lib.hid ((HAL.out.below Q2.out).below b4)
    clear b4 hr' hz' hal'
    simp only [msgV]
    obtain ⟨f0, f1, f2, f3, f4, f5, f6, f7, f8, f9, f10, f11, f12, f13⟩ := MsgF.mk' K4.out
    obtain ⟨W4, hW4⟩ : ∃ W4, w4.alloc (.cells (msgV (typA Z 0) (shA Z 8) (.slice va' l'.length vc')) 28) = W4 := ⟨_, rfl⟩
    have b5 : Below w4.heap.size w4 W4 := by rw [← hW4]; exact (Below.refl _ _).alloc (Nat.le_refl _) _
    have k5 : W4.heap[w4.heap.size]? = some (.cells (msgV (typA Z 0) (shA Z 8) (.slice va' l'.length vc')) 28 (0, 0)) := by rw [← hW4]; exact alloc_blk_new
    clear f0 f1 f2 f3 f4 f5 f6 f7 f8 f9 f10 f11 f12 f13
    obtain ⟨f0, f1, f2, f3, f4, f5, f6, f7, f8, f9, f10, f11, f12, f13⟩ := MsgF.mk' (Below.blk b5 K4.out (lt_of_block K4.out))
    obtain ⟨k0, k1, k2, k3, k4, k5', k6, k7, k8, k9, k10, k11, k12, k13⟩ := MsgF.mk' k5
    have B5 := Lib.hid (B4.out.trans (b5.mono B4.out.size))
    obtain ⟨hll, heq⟩ := same_read (readM_det HR.out HR'.out) (fun y hy => (HZ.out y hy).1) (fun y hy => (HZ'.out y hy).1)
    obtain ⟨-, ha1⟩ := (HAL4.out.below b5).ats (ok_read HB.out.bd HR.out HZ.out)
    obtain ⟨-, ha2⟩ := (HAL'.out.below b5).ats (fun y hy => (HZ'.out y hy).2)
    rw [← hll] at ha2
    have HSM := Lib.hid (rsame12_true (typA Z 0) (shA Z 8) va va' l.length vc vc' _ _ W4 ha1 ha2 (by have := HR.out.2.2.2.2; rw [List.length_map] at this; omega) heq)
    have HI : Hid (isB Z n = true) := Lib.hid (decide_eq_true HR.out.1)
    rw [← hll] at hW4 k13 ⊢
    clear b5 k5 hll heq ha1 ha2 HAL HAL' HAL4 HZ HZ' HR' K2 Q2
    go_upto_region 7 with (fail)
    change Code.wp _ _ _ _ (w4.alloc (.cells (msgV (typA Z 0) (shA Z 8) (.slice va' l.length vc')) 28))
    rw [hW4]
    obtain ⟨g4, hg4⟩ : ∃ g4, w4.heap.size = g4 := ⟨_, rfl⟩
    rw [hg4] at k0 k1 k2 k3 k4 k5' k6 k7 k8 k9 k10 k11 k12 k13 ⊢
    clear hW4 hg4
    go_wp2_with fail
    refine HSM.out.mono ?_
    rintro e w6 ⟨rfl, b6⟩
    have B6 := Lib.hid (B5.out.trans (b6.mono B5.out.size))
    clear b6 HSM f0 f1 f2 f3 f4 f5 f6 f7 f8 f9 f10 f11 f12 f13 k0 k1 k2 k3 k4 k5' k6 k7 k8 k9 k10 k11 k12 k13
    go_wp2_with fail
    refine (is12_any w.heap.size a0 n c Z w6 (HB.out.keep B6.out)).mono ?_
    rintro e w' ⟨rfl, rfl⟩
    rw [HI.out]
    go_wp2_with fail
    refine (ris12_any w.heap.size a0 n c Z w6 (HB.out.keep B6.out)).mono ?_
    rintro e w' ⟨rfl, rfl⟩
    rw [HI.out]
    go_wp2_with fail
    refine (is12_any w.heap.size a0 n c Z w6 (HB.out.keep B6.out)).mono ?_
    rintro e w' ⟨rfl, rfl⟩
    rw [HI.out]
    go_wp2_with fail
    go_ret
    exact ⟨rfl, B6.out⟩
  · have B2 := Lib.hid (B1.out.trans (b2.mono B1.out.size))
    have HE := Lib.hid hE
    have HNO := Lib.hid hno
    clear b2 hE hno
    simp only [noV, msgV]
    go_wp2_with fail
    obtain ⟨W2, hW2⟩ : ∃ W2, w2.alloc (.cells noV 28) = W2 := ⟨_, rfl⟩
    obtain ⟨g, hg⟩ : ∃ g, w2.heap.size = g := ⟨_, rfl⟩
    have k2 : W2.heap[g]? = some (.cells noV 28 (0, 0)) := by rw [← hW2, ← hg]; exact alloc_blk_new
    have b2 : Below w2.heap.size w2 W2 := by rw [← hW2]; exact (Below.refl _ _).alloc (Nat.le_refl _) _
    change Calls _ _ _ (w2.alloc (.cells noV 28)) _
    rw [hW2, hg]
    have K2 := Lib.hid k2
    have B3 := Lib.hid (B2.out.trans (b2.mono B2.out.size))
    clear hW2 hg k2 b2
    refine (rread12_any w.heap.size a0 n c Z W2 (HB.out.keep B3.out) B3.out.size (by omega)).mono ?_
    rintro e w4 ⟨b4, ⟨l', v', rfl, hr', hal', hz'⟩ | ⟨E', rfl, hE', hno'⟩⟩
    case inl => exact absurd ((read_iff HB.out.bd (by omega) _).2 hr') (HNO.out _)
    obtain rfl : E = E' := by have := HE.out; omega
    have B4 := Lib.hid (B3.out.trans (b4.mono B3.out.size))
    have K4 := Lib.hid (Below.blk b4 K2.out (lt_of_block K2.out))
    have q0 : (E = 0) = False := eq_false (by have := HE.out; omega)
    have q1 : (E == 0) = false := by simpa using (by have := HE.out; omega : ¬ E = 0)
    have q2 : (E != 0) = true := by simpa using (by have := HE.out; omega : ¬ E = 0)
    clear b4 hE' hno'
    simp only [noV, msgV]
    obtain ⟨W4, hW4⟩ : ∃ W4, w4.alloc (.cells noV 28) = W4 := ⟨_, rfl⟩
    have b5 : Below w4.heap.size w4 W4 := by rw [← hW4]; exact (Below.refl _ _).alloc (Nat.le_refl _) _
    have k5 : W4.heap[w4.heap.size]? = some (.cells noV 28 (0, 0)) := by rw [← hW4]; exact alloc_blk_new
    obtain ⟨f0, f1, f2, f3, f4, f5, f6, f7, f8, f9, f10, f11, f12, f13⟩ := MsgF.mk' (Below.blk b5 K4.out (lt_of_block K4.out))
    obtain ⟨k0, k1, k2, k3, k4, k5', k6, k7, k8, k9, k10, k11, k12, k13⟩ := MsgF.mk' k5
    have B5 := Lib.hid (B4.out.trans (b5.mono B4.out.size))
    have HSM := Lib.hid (rsame12_true 0 (fun _ => 0) none none 0 0 0 _ _ W4 (Ats.nil _ (fun _ => default)) (Ats.nil _ (fun _ => default)) (by omega) (fun i hi => by omega))
    clear b5 k5
    go_upto_region 7 with (fail)
    change Code.wp _ _ _ _ (w4.alloc (.cells noV 28))
    rw [hW4]
    obtain ⟨g4, hg4⟩ : ∃ g4, w4.heap.size = g4 := ⟨_, rfl⟩
    rw [hg4] at k0 k1 k2 k3 k4 k5' k6 k7 k8 k9 k10 k11 k12 k13 ⊢
    clear hW4 hg4
    go_wp2_with fail
    refine HSM.out.mono ?_
    rintro e w6 ⟨rfl, b6⟩
    have B6 := Lib.hid (B5.out.trans (b6.mono B5.out.size))
    clear b6 HSM f0 f1 f2 f3 f4 f5 f6 f7 f8 f9 f10 f11 f12 f13 k0 k1 k2 k3 k4 k5' k6 k7 k8 k9 k10 k11 k12 k13
    go_wp2_with fail
    refine (is12_any w.heap.size a0 n c Z w6 (HB.out.keep B6.out)).mono ?_
    rintro e w' ⟨rfl, rfl⟩
    go_wp2_with fail
    refine (ris12_any w.heap.size a0 n c Z w6 (HB.out.keep B6.out)).mono ?_
    rintro e w' ⟨rfl, rfl⟩
    go_wp2_with fail
    go_ret
    exact ⟨rfl, B6.out⟩
end Go.Proofs.Ytkoplofcjbeicaa
