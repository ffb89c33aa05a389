/-
  The law RedWrites.
-/
import Derived.Test.YtdmbdageohjodaaRedM
namespace Go.Proofs.Ytdmbdageohjodaa
open Go.RowKit
set_option linter.unusedVariables false
set_option linter.unusedSimpArgs false
attribute [local irreducible] wpStill wpQuiet

set_option maxRecDepth 100000 in
set_option maxHeartbeats 4000000 in
theorem RedWrites.walk (v : Value) (w : World) (r : Reads Try.prog w 6 105 v) :
    Calls Try.prog 13 #[v] w fun e w' => e = .returned (.bool true) ∧ Below w.heap.size w w' := by
  obtain ⟨a, len, cap, Q, rfl, hb⟩ := blks_ofb r
  have HB := Lib.hid hb
  have hle := hb.le
  have hmx := hb.max
  clear hb r
  go_enter Try.func13, Try.ntmps13
  go_wp2_with fail
  refine (alive36_any w).mono ?_
  rintro e w1 ⟨rfl, b1⟩
  have B1 := Lib.hid b1
  have HB1 := Lib.hid (HB.out.keep b1)
  clear b1
  go_wp2_with fail
  refine (great36_any w.heap.size a len cap Q w1 HB1.out).mono ?_
  rintro e w' ⟨g, rfl, hg, rfl⟩
  cases g with
  | true =>
    clear hg
    go_wp2_with fail
    go_ret
    exact ⟨rfl, B1.out⟩
  | false =>
    obtain ⟨g1, g2⟩ := hg rfl
    have HG := Lib.hid g2
    clear hg g2
    go_wp2_with fail
    refine (write_any w.heap.size a len cap Q w1 HB1.out B1.out.size HG.out).mono ?_
    rintro e w2 ⟨hc, b2⟩
    have B2 := Lib.hid (B1.out.trans (b2.mono B1.out.size))
    have HB2 := Lib.hid (HB.out.keep B2.out)
    clear b2
    rcases hc with ⟨hw, a5, N, c5, rfl, hN, o5⟩ | ⟨hw, rfl⟩
    · have HW := Lib.hid hw
      have HN := Lib.hid hN
      have O5 := Lib.hid o5
      have hN12 : N ≤ 1200 := by rw [hN]; exact hw.2.2.2
      clear hw hN o5
      go_wp2_with fail
      refine (refwrite_any w.heap.size a len cap Q w2 HB2.out B2.out.size HG.out).mono ?_
      rintro e w3 ⟨hc, b3⟩
      have B3 := Lib.hid (B2.out.trans (b3.mono B2.out.size))
      rcases hc with ⟨_, a6, N6, c6, rfl, hN6, o6⟩ | ⟨hw2, _⟩
      · have : N6 = N := hN6.trans HN.out.symm
        subst this
        have O5' := Lib.hid (own_below O5.out b3)
        have O6 := Lib.hid o6
        have HOC : Hid (Oct (wrL Q len)) := Lib.hid (wrL_oct HW.out HB.out.ok)
        have hbs := BS.own O5'.out HOC.out (by omega)
        obtain ⟨-, a', c', he, hs⟩ := hbs
        cases he
        have HS := Lib.hid hs
        clear b3 o6 hN6 hs
        go_wp2_with fail
        refine (read_any w3.heap.size a5 N6 c5 (gz (wrL Q len)) w3 HS.out (Nat.le_refl _) (by omega)).mono ?_
        rintro e w4 ⟨hc, b4⟩
        have hback := back_all HW.out HB.out.ok
        rw [← HN.out] at hback
        have HBK := Lib.hid hback
        clear hback
        have B4 := Lib.hid (B3.out.trans (b4.mono B3.out.size))
        have HB4 := Lib.hid ((HB.out.keep B4.out).mono B4.out.size)
        have cv1 : ∀ W', Below w3.heap.size w3 W' → (convert 56 9 (.slice a5 N6 c5)).run Try.prog W' = .ok (.string (strOf (gz (wrL Q len)) N6)) W' := fun W' hb => conv_own O5'.out HOC.out (by omega) hb
        have cv2 : ∀ W', Below w3.heap.size w3 W' → (convert 56 9 (.slice a6 N6 c6)).run Try.prog W' = .ok (.string (strOf (gz (wrL Q len)) N6)) W' := fun W' hb => conv_own O6.out HOC.out (by omega) hb
        have cw1 := cv1 w4 b4
        have cw2 := cv2 w4 b4
        clear cv1 cv2 b4
        rcases hc with ⟨h0, _⟩ | ⟨_, J, ad, cp, Q2, hJ, h9, ho, rfl, bk, hq⟩
        · exact absurd HBK.out.1 h0
        · have hJ' : J = len - 1 := by have := HBK.out.2.1.symm.trans hJ; injection this with this; exact this.symm
          have hlJ : len = J + 1 := by have := HW.out.1; omega
          have HEV : Hid (∀ i, i < len → Eqv (Q i) (Q2 i)) := Lib.hid (fun i hi => HBK.out.2.2 i hi (Q2 i) (by rw [← hJ']; exact hq i (by omega)))
          have BK := Lib.hid bk
          generalize strOf (gz (wrL Q len)) N6 = ss at *
          clear hJ bk hq hJ'
          rw [← hlJ] at BK
          rw [← hlJ]
          clear hlJ
          go_wp2_with fail
          refine (same36_any a len cap Q ad cp Q2 w4 HB4.out BK.out HEV.out (by omega)).mono ?_
          rintro e w5 ⟨rfl, b5⟩
          have B5 := Lib.hid (B4.out.trans (b5.mono B4.out.size))
          clear b5
          go_wp2_with fail
          go_ret
          exact ⟨rfl, B5.out⟩
      · exact absurd HW.out hw2
    · have HW := Lib.hid hw
      clear hw
      go_wp2_with fail
      refine (refwrite_any w.heap.size a len cap Q w2 HB2.out B2.out.size HG.out).mono ?_
      rintro e w3 ⟨hc, b3⟩
      have B3 := Lib.hid (B2.out.trans (b3.mono B2.out.size))
      clear b3
      rcases hc with ⟨hw2, _⟩ | ⟨_, v, rfl⟩
      · exact absurd hw2 HW.out
      · go_wp2_with fail
        go_ret
        exact ⟨rfl, B3.out⟩
end Go.Proofs.Ytdmbdageohjodaa
