/-
  The law CaptureWrites.
-/
import Derived.Test.YtdmbdageohjodaaCpV
namespace Go.Proofs.Ytdmbdageohjodaa
open Go.RowKit
set_option linter.unusedVariables false
set_option linter.unusedSimpArgs false
attribute [local irreducible] wpStill wpQuiet MixC.wpMix MixC.wpPick
attribute [local go_sem] MixC.rdOp MixC.rd MixC.rdUpon MixC.mvUpon

set_option maxRecDepth 100000 in
set_option maxHeartbeats 2000000 in
theorem great45_any (B : Nat) (a : Option Addr) (len c : Nat) (Q : Nat → Rcd) (w : World) (h : Rcds B w a len c Q) (hB : B ≤ w.heap.size) :
    Calls Try.prog 28 #[.slice a len c] w fun e w' => ∃ b, e = .returned (.bool b) ∧ (b = false → len ≤ 60) ∧ Below w.heap.size w w' := by
  have HQ := Lib.hid h
  have l1 := h.le
  have m1 := h.max
  clear h
  go_enter Try.func28, Try.ntmps28
  go_wp2_with fail
  go_loopw [3] (fun s3 wr => ∃ k : Nat, k ≤ len ∧ s3 = .int .i64 k ∧ Hid (Below w.heap.size w wr)) (fun s3 _ => len - (intOf s3).toNat)
  case atStart => exact ⟨0, by omega, rfl, Lib.hid (Below.refl _ _)⟩
  case round =>
    obtain ⟨k, hk, rfl, HS⟩ := hrel
    by_cases hlt : k < len
    · obtain ⟨b1, o1, hp1, hc1⟩ := (HQ.out.keep (HS.out.mono hB)).mem
      obtain ⟨rfl, hb1⟩ := hp1 (by omega)
      have c4 := hc1 k hlt 4 (by omega)
      simp only [Rcd.cell] at c4
      clear hp1 hc1
      have hki : (k : Int) < len := by omega
      by_cases hbig : 2000 < (Q k).n
      · have d1 : decide (2000 < ((Q k).n : Int)) = true := by simp; omega
        go_wp2_with fail
        go_ret
        exact ⟨true, rfl, fun h => (by cases h), HS.out⟩
      · have d1 : decide (2000 < ((Q k).n : Int)) = false := by simp; omega
        go_wp2_with fail
        go_roundw
        case rel => exact ⟨k + 1, by omega, by go_num, HS⟩
        case measure => simp [intOf] <;> omega
    · have : k = len := by omega
      subst this
      clear hlt
      by_cases hbig : 60 < k
      · have d1 : decide (60 < (k : Int)) = true := by simp; omega
        go_wp2_with fail
        go_ret
        exact ⟨true, rfl, fun h => (by cases h), HS.out⟩
      · have d1 : decide (60 < (k : Int)) = false := by simp; omega
        go_wp2_with fail
        go_ret
        exact ⟨false, rfl, fun _ => by omega, HS.out⟩
set_option maxRecDepth 100000 in
set_option maxHeartbeats 4000000 in
theorem CaptureWrites.walk (v : Value) (w : World) (r : Reads Try.prog w 6 54 v) :
    Calls Try.prog 7 #[v] w fun e w' => e = .returned (.bool true) ∧ Below w.heap.size w w' := by
  obtain ⟨a, len, cap, Q, rfl, hb⟩ := rcds_of r
  have HB := Lib.hid hb
  have hle := hb.le
  have hmx := hb.max
  clear hb r
  go_enter Try.func7, Try.ntmps7
  go_wp2_with fail
  refine (alive45_any w).mono ?_
  rintro e w1 ⟨rfl, b1⟩
  have B1 := Lib.hid b1
  clear b1
  go_wp2_with fail
  refine (great45_any w.heap.size a len cap Q w1 (HB.out.keep B1.out) B1.out.size).mono ?_
  rintro e w2 ⟨g, rfl, hg, b2⟩
  have B2 := Lib.hid (B1.out.trans (b2.mono B1.out.size))
  clear b2
  cases g with
  | true =>
    go_wp2_with fail
    go_ret
    exact ⟨rfl, B2.out⟩
  | false =>
    have h60 : len ≤ 60 := hg rfl
    clear hg
    go_wp2_with fail
    refine (write45_any w.heap.size a len cap Q w2 (HB.out.keep B2.out) B2.out.size h60).mono ?_
    rintro e w3 ⟨⟨hall, a1, N, c1, rfl, hN, o1⟩ | ⟨hno, rfl⟩, b3⟩
    · have B3 := Lib.hid (B2.out.trans (b3.mono B2.out.size))
      have O1 := Lib.hid o1
      have HN := Lib.hid hN
      clear b3 o1 hN
      go_wp2_with fail
      refine (rwrite45_any w.heap.size a len cap Q w3 (HB.out.keep B3.out) B3.out.size h60).mono ?_
      rintro e w4 ⟨⟨_, a2, N2, c2, rfl, hN2, o2⟩ | ⟨hno, _⟩, b4⟩
      · have hN := HN.out
        have hNN : N2 = N := hN2.trans hN.symm
        subst hNN
        have hNb := (filL_le Q len hall).2
        have hok : ∀ i, i < len → RcdOk w.heap.size w (Q i) := fun i hi => HB.out.ok i hi
        have hoc := filL_oct Q len hall hok
        have hN80 : N2 ≤ 80000 := by omega
        have B4 := Lib.hid (B3.out.trans (b4.mono B3.out.size))
        have o1' := own_below O1.out b4
        obtain ⟨-, a', c', he, hs1⟩ := BS.own o1' hoc (by omega)
        cases he
        have HRD : Hid (RdD (gz (filL Q len)) N2 len 0 Q) := Lib.hid (by rw [hN]; exact fil_read hok hall)
        have v1 := conv_own o1' hoc (by omega) (Below.refl _ w4)
        have v2 := conv_own o2 hoc (by omega) (Below.refl _ w4)
        have V1 := Lib.hid (fun W (hW : Below w4.heap.size w4 W) => conv_own o1' hoc (by omega) hW)
        have V2 := Lib.hid (fun W (hW : Below w4.heap.size w4 W) => conv_own o2 hoc (by omega) hW)
        have HS1 := Lib.hid hs1
        clear o1' o2 v1 v2 b4 hs1 hN2 hN hNb hok hoc HN O1
        go_wp2_with fail
        refine (read45_any w4.heap.size a1 N2 c1 (gz (filL Q len)) w4 HS1.out (Nat.le_refl _) hN80).mono ?_
        rintro e w5 ⟨a3, K, c3, R, E, rfl, b5, r5, h5⟩
        have D5 : RdD (gz (filL Q len)) N2 K E R := h5
        obtain ⟨e1, e2, heq⟩ := HRD.out.pair D5
        subst e1 e2
        have q5 := D5.rcds r5 HS1.out.bd hN80
        have B5 := Lib.hid (B4.out.trans (b5.mono B4.out.size))
        have hw5 := B5.out.size
        have v1 := V1.out w5 b5
        have v2 := V2.out w5 b5
        have HSM := Lib.hid (rsame_true w5.heap.size a a3 len cap c3 Q R w5 ((HB.out.keep B5.out).mono hw5) q5 (Nat.le_refl _) (by omega) heq)
        clear b5 r5 h5 D5 heq q5
        go_wp2_with fail
        refine HSM.out.mono ?_
        rintro e w6 ⟨rfl, b6⟩
        have B6 := Lib.hid (B5.out.trans (b6.mono B5.out.size))
        clear b6 v1 v2
        go_wp2_with fail
        go_ret
        exact ⟨rfl, B6.out⟩
      · exact absurd hall hno
    · have B3 := Lib.hid (B2.out.trans (b3.mono B2.out.size))
      clear b3
      go_wp2_with fail
      refine (rwrite45_any w.heap.size a len cap Q w3 (HB.out.keep B3.out) B3.out.size h60).mono ?_
      rintro e w4 ⟨⟨hall, _⟩ | ⟨_, rfl⟩, b4⟩
      · exact absurd hall hno
      · have B4 := Lib.hid (B3.out.trans (b4.mono B3.out.size))
        clear b4
        go_wp2_with fail
        go_ret
        exact ⟨rfl, B4.out⟩
end Go.Proofs.Ytdmbdageohjodaa
