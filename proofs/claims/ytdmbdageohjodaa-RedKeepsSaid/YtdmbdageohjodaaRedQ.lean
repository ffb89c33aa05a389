/-
  Chapter 36: Same.
-/
import Derived.Test.YtdmbdageohjodaaRedU
namespace Go.Proofs.Ytdmbdageohjodaa
open Go.RowKit
set_option linter.unusedVariables false
set_option linter.unusedSimpArgs false
attribute [local irreducible] wpStill wpQuiet

def Eqv (p q : Blk) : Prop := p.t = q.t ∧ p.h = q.h ∧ p.n = q.n ∧ ∀ x, x < p.n → p.Z x = q.Z x
set_option maxRecDepth 100000 in
set_option maxHeartbeats 4000000 in
theorem same36_any (a1 : Option Addr) (len c1 : Nat) (Q1 : Nat → Blk) (a2 : Option Addr) (c2 : Nat) (Q2 : Nat → Blk) (w : World) (h1 : Blks w.heap.size w a1 len c1 Q1) (h2 : Blks w.heap.size w a2 len c2 Q2) (he : ∀ i, i < len → Eqv (Q1 i) (Q2 i)) (hl : len ≤ 100000) :
    Calls Try.prog 60 #[.slice a1 len c1, .slice a2 len c2] w fun e w' => e = .returned (.bool true) ∧ Below w.heap.size w w' := by
  have H1 := Lib.hid h1
  have H2 := Lib.hid h2
  have HE := Lib.hid he
  have hl1 := h1.le
  have hl2 := h2.le
  have hm1 := h1.max
  have hm2 := h2.max
  clear h1 h2 he
  go_enter Try.func60, Try.ntmps60
  go_wp2_with fail
  go_loopw [5] (fun s5 wr => ∃ k : Nat, k ≤ len ∧ s5 = .int .i64 k ∧ Hid (Below w.heap.size w wr)) (fun s5 _ => len - (intOf s5).toNat)
  case atStart => exact ⟨0, by omega, rfl, Lib.hid (Below.refl _ _)⟩
  case round =>
    obtain ⟨k, hk, rfl, HS⟩ := hrel
    by_cases hlt : k < len
    · obtain ⟨b1, o1, hp1, hc1⟩ := (H1.out.keep HS.out).mem
      obtain ⟨rfl, _⟩ := hp1 (by omega)
      obtain ⟨b2, o2, hp2, hc2⟩ := (H2.out.keep HS.out).mem
      obtain ⟨rfl, _⟩ := hp2 (by omega)
      have x0 := hc1 k hlt 0 (by omega)
      have x1 := hc1 k hlt 1 (by omega)
      have x2 := hc1 k hlt 2 (by omega)
      have y0 := hc2 k hlt 0 (by omega)
      have y1 := hc2 k hlt 1 (by omega)
      have y2 := hc2 k hlt 2 (by omega)
      obtain ⟨e1, e2, e3, e4⟩ := HE.out k hlt
      have k1 := ((H1.out.keep HS.out).ok k hlt).z
      have k2 := ((H2.out.keep HS.out).ok k hlt).z
      have cv1 : (convert 56 9 (.slice (Q1 k).a (Q1 k).n (Q1 k).c)).run Try.prog wr.drew = .ok (.string (strOf (Q1 k).Z (Q1 k).n)) wr.drew := run_conv_BS (k1.keep (Below.refl _ _).drew) Try.underlying56 Try.underlying5 Try.underlying9
      have cv2 : (convert 56 9 (.slice (Q2 k).a (Q2 k).n (Q2 k).c)).run Try.prog wr.drew = .ok (.string (strOf (Q2 k).Z (Q2 k).n)) wr.drew := run_conv_BS (k2.keep (Below.refl _ _).drew) Try.underlying56 Try.underlying5 Try.underlying9
      rw [← e3, ← strOf_congr e4] at cv2
      obtain ⟨t, ht⟩ : ∃ t, (Q1 k).t = t := ⟨_, rfl⟩
      obtain ⟨h, hh⟩ : ∃ h, (Q1 k).h = h := ⟨_, rfl⟩
      obtain ⟨n, hn⟩ : ∃ n, (Q1 k).n = n := ⟨_, rfl⟩
      simp only [Blk.cell, Nat.add_zero, ← e1, ← e2, ← e3, ht, hh, hn] at x0 x1 x2 y0 y1 y2 cv1 cv2
      generalize (Q1 k).a = u1 at *
      generalize (Q1 k).c = u2 at *
      generalize (Q2 k).a = u3 at *
      generalize (Q2 k).c = u4 at *
      generalize strOf (Q1 k).Z n = ss at *
      clear hp1 hp2 hc1 hc2 e1 e2 e3 e4 k1 k2 ht hh hn
      have hki : (k : Int) < len := by omega
      go_wp2_with fail
      refine wp_region_still_lit (by kernel_rfl) (by kernel_rfl) ?_
      iterate 39 still_step
      refine wpStill_nil ?_
      change Exit.then _ _ _ _ wr.drew
      clear x0 x1 x2 y0 y1 y2 cv1 cv2
      go_wp2_with fail
      go_roundw
      case rel => exact ⟨k + 1, by omega, by go_num, Lib.hid HS.out.drew⟩
      case measure => simp [intOf] <;> omega
    · have : k = len := by omega
      subst this
      clear hlt
      go_wp2_with fail
      go_ret
      exact ⟨rfl, HS.out⟩
end Go.Proofs.Ytdmbdageohjodaa
