/-
  Chapter 45: the reference compares lists of records.
-/
import Derived.Test.YtdmbdageohjodaaCpF
namespace Go.Proofs.Ytdmbdageohjodaa
open Go.RowKit
set_option linter.unusedVariables false
set_option linter.unusedSimpArgs false
attribute [local irreducible] wpStill wpQuiet MixC.wpMix MixC.wpPick
attribute [local go_sem] MixC.rdOp MixC.rd MixC.rdUpon MixC.mvUpon

set_option maxRecDepth 100000 in
set_option maxHeartbeats 4000000 in
theorem rsame_true (B : Nat) (a a' : Option Addr) (len c c' : Nat) (Q Q' : Nat → Rcd) (w : World) (h : Rcds B w a len c Q) (h' : Rcds B w a' len c' Q') (hB : B ≤ w.heap.size) (hl : len ≤ 10000) (he : ∀ i, i < len → EqvR (Q i) (Q' i)) :
    Calls Try.prog 32 #[.slice a len c, .slice a' len c'] w fun e w' => e = .returned (.bool true) ∧ Below w.heap.size w w' := by
  have HQ := Lib.hid h
  have HP := Lib.hid h'
  have l1 := h.le
  have m1 := h.max
  have l2 := h'.le
  have m2 := h'.max
  clear h h'
  go_enter Try.func32, Try.ntmps32
  go_wp2_with fail
  go_loopw [5] (fun s5 wr => ∃ k : Nat, k ≤ len ∧ s5 = .int .i64 k ∧ Hid (Below w.heap.size w wr)) (fun s5 _ => len - (intOf s5).toNat)
  case atStart => exact ⟨0, by omega, rfl, Lib.hid (Below.refl _ _)⟩
  case round =>
    obtain ⟨k, hk, rfl, HS⟩ := hrel
    by_cases hlt : k < len
    · obtain ⟨b1, o1, hp1, hc1⟩ := (HQ.out.keep (HS.out.mono hB)).mem
      obtain ⟨rfl, hb1⟩ := hp1 (by omega)
      obtain ⟨b2, o2, hp2, hc2⟩ := (HP.out.keep (HS.out.mono hB)).mem
      obtain ⟨rfl, hb2⟩ := hp2 (by omega)
      have c0 := hc1 k hlt 0 (by omega)
      have c1 := hc1 k hlt 1 (by omega)
      have c2 := hc1 k hlt 2 (by omega)
      have c3 := hc1 k hlt 3 (by omega)
      have c4 := hc1 k hlt 4 (by omega)
      have d0 := hc2 k hlt 0 (by omega)
      have d1 := hc2 k hlt 1 (by omega)
      have d2 := hc2 k hlt 2 (by omega)
      have d3 := hc2 k hlt 3 (by omega)
      have d4 := hc2 k hlt 4 (by omega)
      have z1 := (HQ.out.ok k hlt).z.keep (HS.out.mono hB)
      have z2 := (HP.out.ok k hlt).z.keep (HS.out.mono hB)
      have hE := he k hlt
      obtain ⟨q, hq⟩ : ∃ q, Q k = q := ⟨_, rfl⟩
      obtain ⟨r, hr⟩ : ∃ r, Q' k = r := ⟨_, rfl⟩
      rw [hq] at c0 c1 c2 c3 c4 z1 hE
      rw [hr] at d0 d1 d2 d3 d4 z2 hE
      obtain ⟨tk, wy, ad, pt, ra, rn, rc, rZ⟩ := q
      obtain ⟨tk', wy', ad', pt', ra', rn', rc', rZ'⟩ := r
      obtain ⟨e1, e2, e3, e4, e5, e6⟩ := hE
      simp only at e1 e2 e3 e4 e5 e6
      subst e1 e2 e3 e4 e5
      simp only [Rcd.cell, Nat.add_zero] at c0 c1 c2 c3 c4 d0 d1 d2 d3 d4 z1 z2
      have hs : strOf rZ' rn = strOf rZ rn := (strOf_congr e6).symm
      have z1' := z1.mono (Nat.le_trans hB HS.out.size)
      have z2' := z2.mono (Nat.le_trans hB HS.out.size)
      have C := Lib.hid (And.intro c0 (And.intro c1 (And.intro c2 (And.intro c3 c4))))
      have D := Lib.hid (And.intro d0 (And.intro d1 (And.intro d2 (And.intro d3 d4))))
      have HZ1 := Lib.hid z1'
      have HZ2 := Lib.hid z2'
      have HSS := Lib.hid hs
      clear c0 c1 c2 c3 c4 d0 d1 d2 d3 d4 z1 z2 z1' z2' hs hq hr hp1 hp2 hc1 hc2 e6
      have hki : (k : Int) < len := by omega
      go_upto_region 6 with (fail)
      have hne : Nonempty { w' : World // Below wr.heap.size wr w' } := ⟨⟨_, Below.refl _ _⟩⟩
      have lb1 := World.block_lt_of_cell? _ _ C.out.1
      have lb2 := World.block_lt_of_cell? _ _ D.out.1
      have u0 : ∀ z : { w' : World // Below wr.heap.size wr w' }, z.1.cell? ⟨b1, o1 + k * 5, none⟩ = some (.int .i64 tk) := fun z => Below.cell' z.2 lb1 C.out.1
      have u1 : ∀ z : { w' : World // Below wr.heap.size wr w' }, z.1.cell? ⟨b1, o1 + k * 5 + 1, none⟩ = some (.int .i64 wy) := fun z => Below.cell' z.2 lb1 C.out.2.1
      have u2 : ∀ z : { w' : World // Below wr.heap.size wr w' }, z.1.cell? ⟨b1, o1 + k * 5 + 2, none⟩ = some (.int .u32 ad) := fun z => Below.cell' z.2 lb1 C.out.2.2.1
      have u3 : ∀ z : { w' : World // Below wr.heap.size wr w' }, z.1.cell? ⟨b1, o1 + k * 5 + 3, none⟩ = some (.int .u16 pt) := fun z => Below.cell' z.2 lb1 C.out.2.2.2.1
      have u4 : ∀ z : { w' : World // Below wr.heap.size wr w' }, z.1.cell? ⟨b1, o1 + k * 5 + 4, none⟩ = some (.slice ra rn rc) := fun z => Below.cell' z.2 lb1 C.out.2.2.2.2
      have t0 : ∀ z : { w' : World // Below wr.heap.size wr w' }, z.1.cell? ⟨b2, o2 + k * 5, none⟩ = some (.int .i64 tk) := fun z => Below.cell' z.2 lb2 D.out.1
      have t1 : ∀ z : { w' : World // Below wr.heap.size wr w' }, z.1.cell? ⟨b2, o2 + k * 5 + 1, none⟩ = some (.int .i64 wy) := fun z => Below.cell' z.2 lb2 D.out.2.1
      have t2 : ∀ z : { w' : World // Below wr.heap.size wr w' }, z.1.cell? ⟨b2, o2 + k * 5 + 2, none⟩ = some (.int .u32 ad) := fun z => Below.cell' z.2 lb2 D.out.2.2.1
      have t3 : ∀ z : { w' : World // Below wr.heap.size wr w' }, z.1.cell? ⟨b2, o2 + k * 5 + 3, none⟩ = some (.int .u16 pt) := fun z => Below.cell' z.2 lb2 D.out.2.2.2.1
      have t4 : ∀ z : { w' : World // Below wr.heap.size wr w' }, z.1.cell? ⟨b2, o2 + k * 5 + 4, none⟩ = some (.slice ra' rn rc') := fun z => Below.cell' z.2 lb2 D.out.2.2.2.2
      have s1 : ∀ z : { w' : World // Below wr.heap.size wr w' }, (convert 56 9 (.slice ra rn rc)).run Try.prog z.1 = .ok (.string (strOf rZ rn)) z.1 := fun z => run_conv_BS (HZ1.out.keep z.2) Try.underlying56 Try.underlying5 Try.underlying9
      have s2 : ∀ z : { w' : World // Below wr.heap.size wr w' }, (convert 56 9 (.slice ra' rn rc')).run Try.prog z.1 = .ok (.string (strOf rZ rn)) z.1 := fun z => by rw [← HSS.out]; exact run_conv_BS (HZ2.out.keep z.2) Try.underlying56 Try.underlying5 Try.underlying9
      refine MixC.wp_region_mix [] (Below wr.heap.size wr) (Below.refl _ _).drew (by kernel_rfl) (by kernel_rfl) (by kernel_rfl) ?_
      (iterate 52 (refine MixC.mix_read rfl (fun K hK => ?_); go_simp; refine hK _ ?_; clear hK K))
      refine MixC.mix_nil ?_
      clear u0 u1 u2 u3 u4 t0 t1 t2 t3 t4 s1 s2 hne
      have B2 : Hid (Below w.heap.size w wr.drew) := Lib.hid HS.out.drew
      go_wp2_with fail
      go_roundw
      case rel => exact ⟨k + 1, by omega, by go_num, B2⟩
      case measure => simp [intOf] <;> omega
    · have : k = len := by omega
      subst this
      clear hlt
      go_wp2_with fail
      go_ret
      exact ⟨rfl, HS.out⟩
end Go.Proofs.Ytdmbdageohjodaa
