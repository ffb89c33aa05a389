/-
  Chapter 43: what a reader gives up with; next, length.
-/
import Derived.Test.YtkoplofcjbeicaaNlC
import Derived.Test.YtkoplofcjbeicaaNlF
namespace Go.Proofs.Ytkoplofcjbeicaa
open Go.RowKit
set_option linter.unusedVariables false
set_option linter.unusedSimpArgs false
attribute [local irreducible] wpStill wpQuiet MixC.wpMix

def pan (k : Int) : List PanicEntry := [{ v := .iface 88 (.agg #[.int .i64 k]), recovered := false }]
theorem must_no (k : Int) (w : World) : Calls Try.prog 53 #[.bool false, .int .i64 k] w fun e w' => e = .panicked (pan k) ∧ w = w' := by
  go_enter Try.func53, Try.ntmps53
  go_wp2_with fail
  exact ⟨rfl, rfl, rfl⟩
theorem omust (k : Int) (w : World) : Calls Try.prog 53 #[.bool true, .int .i64 k] w fun e w' => e = .returned (.tuple #[]) ∧ w = w' := by
  go_enter Try.func53, Try.ntmps53
  go_wp2_with fail
  go_end0
  exact ⟨rfl, rfl⟩
/-- a reader -/
def rdr (w : World) (g : Nat) (a : Option Addr) (n c : Nat) (pad : Int) : Prop := w.heap[g]? = some (.cells #[.slice a n c, .int .i64 pad] 92 (0, 0))
structure RD (B g : Nat) (w : World) (a : Option Addr) (n c : Nat) (Z : Nat → Int) (pad : Int) : Prop where
  r : rdr w g a n c pad
  bs : BS B w a n c Z
  lo : B ≤ g
theorem RD.keep {B g : Nat} {w w' : World} {a : Option Addr} {n c : Nat} {Z : Nat → Int} {pad : Int} (h : RD B g w a n c Z pad) (b : Below w.heap.size w w') : RD B g w' a n c Z pad :=
  ⟨Below.blk b h.r (lt_of_block h.r), h.bs.keep (b.mono (by have := lt_of_block h.r; have := h.lo; omega)), h.lo⟩
theorem bs_rest {B : Nat} {w : World} {b o n c k : Nat} {Z : Nat → Int} (h : BS B w (some ⟨b, o, none⟩) n c Z) (hk : k ≤ n) (hc : 0 < c) (a' : Option Addr) (ha : a' = if c = k then some ⟨b, o, none⟩ else some ⟨b, o + k, none⟩) : BS B w a' (n - k) (c - k) (fun x => Z (k + x)) := by
  have hl := h.le
  by_cases e : c = k
  · exact ⟨by omega, by have := h.max; omega, fun i hi => by omega, 0, 0, fun h => by omega, fun i hi => by omega⟩
  · rw [ha, if_neg e]; exact h.drop k hk hc
theorem rdr.set {w : World} {g : Nat} {a : Option Addr} {n c : Nat} {pad : Int} (h : rdr w g a n c pad) (a' : Option Addr) (n' c' : Nat) : rdr (w.setCell ⟨g, 0, none⟩ (.slice a' n' c')) g a' n' c' pad := by unfold rdr; rw [set_blk _ h]; rfl
theorem RD.cut {B g : Nat} {w : World} {b o n c k : Nat} {Z : Nat → Int} {pad : Int} (h : RD B g w (some ⟨b, o, none⟩) n c Z pad) (hk : k ≤ n) (hc : 0 < c) (a' : Option Addr) (ha : a' = if c = k then some ⟨b, o, none⟩ else some ⟨b, o + k, none⟩) :
    RD B g (w.setCell ⟨g, 0, none⟩ (.slice a' (n - k) (c - k))) a' (n - k) (c - k) (fun x => Z (k + x)) pad ∧ Keeps g w (w.setCell ⟨g, 0, none⟩ (.slice a' (n - k) (c - k))) := by
  have hkp : Keeps g w (w.setCell ⟨g, 0, none⟩ (.slice a' (n - k) (c - k))) := (Keeps.refl g w).setCell (a := ⟨g, 0, none⟩) (.inl rfl) _
  exact ⟨⟨h.r.set _ _ _, (bs_rest h.bs hk hc a' ha).keep (hkp.below (by have := lt_of_block h.r; have := h.lo; omega) h.lo), h.lo⟩, hkp⟩
/-- given up -/
def PanP (g : Nat) (w : World) (e : Ending) (w' : World) : Prop := ∃ k : Int, (k = 2 ∨ k = 3) ∧ e = .panicked (pan k) ∧ Keeps g w w'
def NextP (B g n : Nat) (Z : Nat → Int) (pad : Int) (w : World) (e : Ending) (w' : World) : Prop :=
  (n = 0 ∧ PanP g w e w') ∨ (0 < n ∧ (∃ z : Int, e = .returned (.int .i64 z) ∧ z = Z 0 ∧ 0 ≤ z ∧ z ≤ 255) ∧ (∃ b' o' c', RD B g w' (some ⟨b', o', none⟩) (n - 1) c' (fun x => Z (1 + x)) pad) ∧ Keeps g w w')
set_option maxRecDepth 100000 in
set_option maxHeartbeats 2000000 in
theorem onext (B g n c : Nat) (a : Option Addr) (Z : Nat → Int) (pad : Int) (w : World) (h : RD B g w a n c Z pad) :
    Calls Try.prog 50 #[.pointer (some ⟨g, 0, none⟩)] w (NextP B g n Z pad w) := by
  have c0 : w.cell? ⟨g, 0, none⟩ = some (.slice a n c) := cell_blk h.r
  have f0 : w.frozen? ⟨g, 0, none⟩ = false := free_blk h.r
  have hle := h.bs.le
  have hmx := h.bs.max
  rcases Nat.eq_zero_or_pos n with h0 | h0
  · subst h0
    clear h
    go_enter Try.func50, Try.ntmps50
    go_wp2_with fail
    refine (must_no 2 w).mono ?_
    rintro e w1 ⟨rfl, rfl⟩
    go_wp2_with fail
    exact ⟨rfl, .inl ⟨rfl, 2, .inl rfl, rfl, Keeps.refl _ _⟩⟩
  · obtain ⟨b, o, rfl, hb, hc⟩ := h.bs.at_ (by omega)
    have cz := hc 0 h0
    rw [Nat.add_zero] at cz
    have hz := h.bs.bd 0 h0
    have HC := Lib.hid (fun a' ha => h.cut (k := 1) (by omega) (by omega) a' ha)
    have hg := h.lo
    have hne : b ≠ g := by omega
    have n1 : (1 : Int) ≤ (n : Int) := by omega
    have n2 : (n : Int) ≤ (c : Int) := by omega
    have n3 : (0 : Int) < (n : Int) := by omega
    have n4 : 1 ≤ n := h0
    clear h hc
    go_enter Try.func50, Try.ntmps50
    go_wp2_with fail
    refine (omust 2 w).mono ?_
    rintro e w1 ⟨rfl, rfl⟩
    go_wp2_with fail
    · go_ret
      obtain ⟨q1, q2⟩ := HC.out (some ⟨b, o, none⟩) (by rw [if_pos (by assumption)])
      rw [show c - 1 = 0 by omega] at q1 q2
      exact .inr ⟨h0, ⟨_, rfl, rfl, hz.1, hz.2⟩, ⟨_, _, _, q1⟩, q2⟩
    · go_ret
      obtain ⟨q1, q2⟩ := HC.out (some ⟨b, o + 1, none⟩) (by rw [if_neg (by assumption)])
      exact .inr ⟨h0, ⟨_, rfl, rfl, hz.1, hz.2⟩, ⟨_, _, _, q1⟩, q2⟩
theorem PanP.tr {g : Nat} {u w w' : World} {e : Ending} (k : Keeps g u w) (h : PanP g w e w') : PanP g u e w' := by
  obtain ⟨x, hx, he, hk⟩ := h
  exact ⟨x, hx, he, k.trans hk⟩
/-- how many bytes are left behind what took some -/
def LenP (B g n : Nat) (pad : Int) (w : World) (e : Ending) (w' : World) : Prop :=
  PanP g w e w' ∨ (∃ (x n' b' o' c' : Nat) (Z' : Nat → Int), x ≤ 1300 ∧ n' + 1 ≤ n ∧ e = .returned (.int .i64 x) ∧ RD B g w' (some ⟨b', o', none⟩) n' c' Z' pad ∧ Keeps g w w')
set_option maxRecDepth 100000 in
set_option maxHeartbeats 2000000 in
theorem olength (B g n c : Nat) (a : Option Addr) (Z : Nat → Int) (pad : Int) (w : World) (h : RD B g w a n c Z pad) :
    Calls Try.prog 91 #[.pointer (some ⟨g, 0, none⟩)] w (LenP B g n pad w) := by
  have HN := Lib.hid (onext B g n c a Z pad w h)
  clear h
  go_enter Try.func91, Try.ntmps91
  go_wp2_with fail
  refine HN.out.mono ?_
  rintro e w1 (⟨h0, k, hk, rfl, hkp⟩ | ⟨h0, ⟨z, rfl, -, z1, z2⟩, ⟨b1, o1, c1, h1⟩, k1⟩)
  · have HP := Lib.hid (show PanP g w (.panicked (pan k)) w1 from ⟨k, hk, rfl, hkp⟩)
    clear h0 hk hkp
    go_wp2_with fail
    exact ⟨rfl, .inl HP.out⟩
  · obtain ⟨x, rfl⟩ := Int.eq_ofNat_of_zero_le z1
    have HR := Lib.hid h1
    have HK := Lib.hid k1
    clear h1 k1
    by_cases hq : 252 ≤ x
    · have t1 : decide ((252 : Int) ≤ (x : Int)) = true := by simp; omega
      have t1' : decide (252 ≤ x) = true := by simp; omega
      go_wp2_with fail
      refine (onext B g (n - 1) c1 (some ⟨b1, o1, none⟩) _ pad w1 HR.out).mono ?_
      rintro e w2 (⟨h2, k, hk, rfl, hkp⟩ | ⟨h2, ⟨z, rfl, -, y1, y2⟩, ⟨b2, o2, c2, h3⟩, k2⟩)
      · have HP := Lib.hid (show PanP g w (.panicked (pan k)) w2 from ⟨k, hk, rfl, HK.out.trans hkp⟩)
        clear h2 hk hkp
        go_wp2_with fail
        exact ⟨rfl, .inl HP.out⟩
      · obtain ⟨y, rfl⟩ := Int.eq_ofNat_of_zero_le y1
        have HR2 := Lib.hid h3
        have HK2 := Lib.hid (HK.out.trans k2)
        clear h3 k2
        go_wp2_with fail
        go_ret
        exact .inr ⟨x + 4 * y, n - 1 - 1, b2, o2, c2, _, by omega, by omega, ret_int (by omega), HR2.out, HK2.out⟩
    · have t1 : decide ((252 : Int) ≤ (x : Int)) = false := by simp; omega
      have t1' : decide (252 ≤ x) = false := by simp; omega
      go_wp2_with fail
      go_ret
      exact .inr ⟨x, n - 1, b1, o1, c1, _, by omega, by omega, rfl, HR.out, HK.out⟩
/-- padding: what it says, and how many bytes it took -/
def PadP (B g n : Nat) (pad : Int) (w : World) (e : Ending) (w' : World) : Prop :=
  PanP g w e w' ∨ (∃ (x n' b' o' c' : Nat) (Z' : Nat → Int), x ≤ 254 * n ∧ n' + 1 ≤ n ∧ e = .returned (.int .i64 x) ∧ RD B g w' (some ⟨b', o', none⟩) n' c' Z' pad ∧ Keeps g w w')
set_option maxRecDepth 100000 in
set_option maxHeartbeats 2000000 in
theorem opadding (B g n c b o : Nat) (Z : Nat → Int) (pad : Int) (w : World) (h : RD B g w (some ⟨b, o, none⟩) n c Z pad) (hn : n ≤ 10000) :
    Calls Try.prog 93 #[.pointer (some ⟨g, 0, none⟩)] w (PadP B g n pad w) := by
  have HR0 : Hid (∃ b' o' c' Z', RD B g w (some ⟨b', o', none⟩) (n - 0) c' Z' pad) := Lib.hid ⟨b, o, c, Z, h⟩
  clear h
  go_enter Try.func93, Try.ntmps93
  go_wp2_with fail
  go_loopw [3] (fun sn wx => ∃ j : Nat, j ≤ n ∧ sn = .int .i64 ((254 * j : Nat) : Int) ∧ Hid (∃ b' o' c' Z', RD B g wx (some ⟨b', o', none⟩) (n - j) c' Z' pad) ∧ Hid (Keeps g w wx)) (fun sn _ => 254 * n + 1 - (intOf sn).toNat)
  case atStart => exact ⟨0, by omega, rfl, HR0, Lib.hid (Keeps.refl _ _)⟩
  case round =>
    obtain ⟨j, hj, rfl, HR, HK⟩ := hrel
    obtain ⟨b1, o1, c1, Z1, h1⟩ := HR.out
    have HN := Lib.hid (onext B g (n - j) c1 (some ⟨b1, o1, none⟩) Z1 pad wr h1)
    clear h1
    go_wp2_with fail
    refine HN.out.mono ?_
    rintro e w1 (⟨h0, k, hk, rfl, hkp⟩ | ⟨h0, ⟨z, rfl, -, z1, z2⟩, ⟨b2, o2, c2, h1⟩, k1⟩)
    · have HP := Lib.hid (show PanP g w (.panicked (pan k)) w1 from ⟨k, hk, rfl, HK.out.trans hkp⟩)
      clear h0 hk hkp
      go_wp2_with fail
      exact ⟨rfl, .inl HP.out⟩
    · obtain ⟨x, rfl⟩ := Int.eq_ofNat_of_zero_le z1
      have HK1 := Lib.hid (HK.out.trans k1)
      have HR1 : Hid (∃ b' o' c' Z', RD B g w1 (some ⟨b', o', none⟩) (n - (j + 1)) c' Z' pad) := Lib.hid ⟨b2, o2, c2, _, by rw [show n - (j + 1) = n - j - 1 by omega]; exact h1⟩
      clear h1 k1 HN
      by_cases hq : x < 255
      · have t1 : decide ((x : Int) < 255) = true := by simp; omega
        have t1' : decide (x < 255) = true := by simp; omega
        have hxy : ((254 * j : Nat) : Int) + (x : Int) = ((254 * j + x : Nat) : Int) := by omega
        go_wp2_with fail
        go_ret
        obtain ⟨b9, o9, c9, Z9, h9⟩ := HR1.out
        exact .inr ⟨254 * j + x, n - (j + 1), b9, o9, c9, Z9, by omega, by omega, by first | rfl | (rw [← hxy]; rfl), h9, HK1.out⟩
      · have t1 : decide ((x : Int) < 255) = false := by simp; omega
        have t1' : decide (x < 255) = false := by simp; omega
        go_wp2_with fail
        exact ⟨⟨j + 1, by omega, by first | rfl | (congr 1; omega), HR1, HK1⟩, by simp [intOf]; omega⟩
end Go.Proofs.Ytkoplofcjbeicaa
