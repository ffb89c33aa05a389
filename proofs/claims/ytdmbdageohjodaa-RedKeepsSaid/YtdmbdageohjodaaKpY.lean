/-
  The law RedKeeps.
-/
import Derived.Test.YtdmbdageohjodaaKpW
namespace Go.Proofs.Ytdmbdageohjodaa
open Go.RowKit
set_option linter.unusedVariables false
set_option linter.unusedSimpArgs false
attribute [local irreducible] wpStill wpQuiet MixC.wpMix
attribute [local go_sem] MixC.rdOp MixC.rd MixC.rdUpon MixC.mvUpon

set_option maxRecDepth 100000 in
set_option maxHeartbeats 8000000 in
theorem RedKeeps.walk (a0 : Int) (v : Value) (a2 : Option Addr) (len2 cap2 : Nat) (z2 : List Int) (w : World) (h0 : (Lit.int .i64 a0).wf = true) (r : Reads Try.prog w 6 93 v) (r2 : IsRow .u32 w a2 len2 cap2 z2) :
    Calls Try.prog 12 #[.int .i64 a0, v, .slice a2 len2 cap2] w fun e w' => e = .returned (.bool true) ∧ Below w.heap.size w w' := by
  obtain ⟨a, len, cap, Q, rfl, hb⟩ := puts_of r
  obtain ⟨Y, hy⟩ := U4.of_row r2
  have HB := Lib.hid hb
  have HY := Lib.hid hy
  have hle := hb.le
  have hmx := hb.max
  have hle2 := hy.le
  have hmx2 := hy.max
  clear hb hy r r2
  go_enter Try.func12, Try.ntmps12
  go_wp2_with fail
  refine (alive36_any w).mono ?_
  rintro e w1 ⟨rfl, b1⟩
  have B1 := Lib.hid b1
  clear b1
  by_cases hl2 : len2 ≤ 60
  · have hl2' : decide (60 < (len2 : Int)) = false := by simp; omega
    go_wp2_with fail
    refine (new36_any a0 w1).mono ?_
    rintro e w2 ⟨rfl, gk2, b2⟩
    have GK2 := Lib.hid gk2
    have B2 := Lib.hid (B1.out.trans (b2.mono B1.out.size))
    obtain ⟨gk, hgk⟩ : ∃ gk, gk = w1.heap.size := ⟨_, rfl⟩
    have HGK : Hid (w.heap.size ≤ gk ∧ gk < w2.heap.size) := Lib.hid ⟨by rw [hgk]; exact B1.out.size, by rw [hgk]; exact lt_of_block gk2⟩
    rw [← hgk] at GK2
    rw [← hgk]
    clear gk2 b2 hgk
    go_upto_region 6 with (fail)
    generalize hW : World.alloc w2 _ = W
    have g2 : W.heap[w2.heap.size]? = some (.cells #[.int .i64 a0, .slice none 0 0, .slice none 0 0, .slice none 0 0] 100 (0, 0)) := by rw [← hW]; exact alloc_blk_new
    have b3 : Below w2.heap.size w2 W := by rw [← hW]; exact (Below.refl _ _).alloc (Nat.le_refl _) _
    obtain ⟨gr, hgr⟩ : ∃ gr, gr = w2.heap.size := ⟨_, rfl⟩
    have HGR : Hid (w.heap.size ≤ gr) := Lib.hid (by rw [hgr]; exact B2.out.size)
    rw [← hgr] at g2
    rw [← hgr]
    have B3 := Lib.hid (B2.out.trans (b3.mono B2.out.size))
    have J0 : Hid (JKp 0 (clampN a0) a0 w.heap.size gk gr W) := Lib.hid ⟨⟨fun _ => default, fun _ => default, .slice none 0 0, .slice none 0 0, .slice none 0 0, .slice none 0 0,
      ⟨Below.blk b3 GK2.out HGK.out.2, (by rw [Nat.zero_min]; exact World.ownsRow_nil _ _ _ _), (fun e => by cases e), HGK.out.1, (fun i _ hi => by omega), (fun i _ hi => by omega)⟩,
      ⟨g2, World.ownsRow_nil _ _ _ _, World.ownsRow_nil _ _ _ _, World.ownsRow_nil _ _ _ _, HGR.out, fun i hi => by omega, fun i hi => by omega⟩, fun i _ hi => by omega, fun i _ hi => by omega⟩, rfl, B3.out.size⟩
    clear g2 b3 hW hgr
    go_wp2_with fail
    go_loopw [9] (fun s9 wr => ∃ k m : Nat, k ≤ len ∧ k ≤ 30 ∧ m ≤ k ∧ s9 = .int .i64 k ∧ Hid (JKp m (clampN a0) a0 w.heap.size gk gr wr) ∧ Hid (Below w.heap.size w wr)) (fun s9 _ => len - (intOf s9).toNat)
    case atStart => exact ⟨0, 0, by omega, by omega, by omega, rfl, J0, B3⟩
    case round =>
      obtain ⟨k, m, hk, hk30, hmk, rfl, HJ, BW⟩ := hrel
      by_cases hlt : k < len ∧ k < 30
      · obtain ⟨hlt, hlt30⟩ := hlt
        have hki : (k : Int) < len := by omega
        have hk30i : (k : Int) < 30 := by omega
        obtain ⟨b1, o1, hp1, hc1⟩ := HB.out.mem
        obtain ⟨rfl, hb1⟩ := hp1 (by omega)
        have cx0 := Below.cell' BW.out hb1 (hc1 k hlt 0 (by omega))
        have cx1 := Below.cell' BW.out hb1 (hc1 k hlt 1 (by omega))
        have cx2 := Below.cell' BW.out hb1 (hc1 k hlt 2 (by omega))
        have OK := Lib.hid (HB.out.ok k hlt)
        obtain ⟨q, hq⟩ : ∃ q, Q k = q := ⟨_, rfl⟩
        rw [hq] at cx0 cx1 cx2 OK
        clear hq hp1 hc1
        obtain ⟨s, t, pa, pn, pc, pZ⟩ := q
        simp only [Kep.put, Nat.add_zero] at cx0 cx1 cx2
        by_cases hn : pn ≤ 1500
        · have hn' : decide (1500 < (pn : Int)) = false := by simp; omega
          have PP := puts_pair m (clampN a0) a0 w.heap.size gk gr s t pa pn pc pZ wr.drew (HJ.out.keep (Below.refl _ wr).drew) ((OK.out.z).keep (BW.out.trans (Below.refl _ wr).drew)) (by omega) hn OK.out.t0 OK.out.s0 OK.out.s1
          have C0 : Hid (Below w.heap.size w wr.drew) := Lib.hid (BW.out.trans (Below.refl _ wr).drew)
          have X0 := Lib.hid cx0
          have X1 := Lib.hid cx1
          have CW : Hid (∀ z : { w' : World // Below w.heap.size wr w' }, z.1.cell? ⟨b1, o1 + k * 3, none⟩ = some (.int .u32 s) ∧ z.1.cell? ⟨b1, o1 + k * 3 + 1, none⟩ = some (.int .u8 t) ∧ z.1.cell? ⟨b1, o1 + k * 3 + 2, none⟩ = some (.slice pa pn pc)) := Lib.hid (fun z => ⟨Below.cell' z.2 hb1 cx0, Below.cell' z.2 hb1 cx1, Below.cell' z.2 hb1 cx2⟩)
          clear cx0 cx1
          go_upto_region 13 with (fail)
          clear cx2
          have hne : Nonempty { w' : World // Below w.heap.size wr w' } := ⟨⟨_, (Below.refl _ wr).drew⟩⟩
          have u0 : ∀ z : { w' : World // Below w.heap.size wr w' }, z.1.cell? ⟨b1, o1 + k * 3, none⟩ = some (.int .u32 s) := fun z => (CW.out z).1
          have u1 : ∀ z : { w' : World // Below w.heap.size wr w' }, z.1.cell? ⟨b1, o1 + k * 3 + 1, none⟩ = some (.int .u8 t) := fun z => (CW.out z).2.1
          have u2 : ∀ z : { w' : World // Below w.heap.size wr w' }, z.1.cell? ⟨b1, o1 + k * 3 + 2, none⟩ = some (.slice pa pn pc) := fun z => (CW.out z).2.2
          refine MixC.wp_region_mix [16] (Below w.heap.size wr) (Below.refl _ wr).drew (by kernel_rfl) (by kernel_rfl) (by kernel_rfl) ?_
          iterate 16 (refine MixC.mix_read rfl (fun K hK => ?_); go_simp; refine hK _ ?_; clear hK K)
          refine MixC.mix_move rfl (fun K hK => ?_)
          go_simp
          rcases PP with hP | ⟨QQ, ln, hwok, hokb, hln, hP⟩
          · refine hP.mono ?_
            clear hP
            rintro e x1 ⟨he, bx1, hnext⟩
            obtain rfl : e = _ := he
            have HN := Lib.hid hnext
            have BX1 : Hid (Below w.heap.size wr x1) := Lib.hid ((Below.refl _ wr).drew.trans bx1)
            clear hnext bx1
            refine ⟨_, rfl, BX1.out, hK _ _ ?_⟩
            clear hK K
            iterate 5 (refine MixC.mix_read rfl (fun K hK => ?_); go_simp; refine hK _ ?_; clear hK K)
            refine MixC.mix_nil ?_
            clear u0 u1 u2 hne
            go_upto_region 14 with (fail)
            have hne : Nonempty { w' : World // Below w.heap.size x1 w' } := ⟨⟨_, (Below.refl _ x1).drew⟩⟩
            have u0 : ∀ z : { w' : World // Below w.heap.size x1 w' }, z.1.cell? ⟨b1, o1 + k * 3, none⟩ = some (.int .u32 s) := fun z => (CW.out ⟨z.1, BX1.out.trans z.2⟩).1
            have u1 : ∀ z : { w' : World // Below w.heap.size x1 w' }, z.1.cell? ⟨b1, o1 + k * 3 + 1, none⟩ = some (.int .u8 t) := fun z => (CW.out ⟨z.1, BX1.out.trans z.2⟩).2.1
            have u2 : ∀ z : { w' : World // Below w.heap.size x1 w' }, z.1.cell? ⟨b1, o1 + k * 3 + 2, none⟩ = some (.slice pa pn pc) := fun z => (CW.out ⟨z.1, BX1.out.trans z.2⟩).2.2
            refine MixC.wp_region_mix [16] (Below w.heap.size x1) (Below.refl _ x1).drew (by kernel_rfl) (by kernel_rfl) (by kernel_rfl) ?_
            iterate 16 (refine MixC.mix_read rfl (fun K hK => ?_); go_simp; refine hK _ ?_; clear hK K)
            refine MixC.mix_move rfl (fun K hK => ?_)
            go_simp
            refine (HN.out x1.drew (Below.refl _ x1).drew).mono ?_
            rintro e x2 ⟨he, bx2, _, m', hm', j2⟩
            obtain rfl : e = _ := he
            have BX2 : Hid (Below w.heap.size x1 x2) := Lib.hid ((Below.refl _ x1).drew.trans bx2)
            have J2 := Lib.hid j2
            clear bx2 j2 HN
            refine ⟨_, rfl, BX2.out, hK _ _ ?_⟩
            clear hK K
            iterate 5 (refine MixC.mix_read rfl (fun K hK => ?_); go_simp; refine hK _ ?_; clear hK K)
            refine MixC.mix_nil ?_
            clear u0 u1 u2 hne
            have cv := conv_own (World.ownsRow_nil x2 0 5 1) Oct.nil (by omega) (Below.refl _ x2)
            generalize strOf (gz []) 0 = ss at *
            go_wp2_with fail
            go_roundw
            case rel => exact ⟨k + 1, m', by omega, by omega, by omega, by go_num, J2, Lib.hid (BW.out.trans (BX1.out.trans BX2.out))⟩
            case measure => simp [intOf] <;> omega
          · refine hP.mono ?_
            clear hP
            rintro e x1 ⟨⟨a5, N5, c5, he, hN5, o5⟩, bx1, hnext⟩
            obtain rfl : e = _ := he
            have HN := Lib.hid hnext
            have HN5 := Lib.hid hN5
            have O5 := Lib.hid o5
            have BX1 : Hid (Below w.heap.size wr x1) := Lib.hid ((Below.refl _ wr).drew.trans bx1)
            have HWOK := Lib.hid hwok
            have HOKB := Lib.hid hokb
            have HOC : Hid (Oct (wrL QQ ln)) := Lib.hid (wrL_oct hwok hokb)
            have hN12 : N5 ≤ 1200 := by rw [hN5]; exact hwok.2.2.2
            clear hnext bx1 hN5 o5 hwok hokb hln
            refine ⟨_, rfl, BX1.out, hK _ _ ?_⟩
            clear hK K
            iterate 5 (refine MixC.mix_read rfl (fun K hK => ?_); go_simp; refine hK _ ?_; clear hK K)
            refine MixC.mix_nil ?_
            clear u0 u1 u2 hne
            go_upto_region 14 with (fail)
            have hne : Nonempty { w' : World // Below w.heap.size x1 w' } := ⟨⟨_, (Below.refl _ x1).drew⟩⟩
            have u0 : ∀ z : { w' : World // Below w.heap.size x1 w' }, z.1.cell? ⟨b1, o1 + k * 3, none⟩ = some (.int .u32 s) := fun z => (CW.out ⟨z.1, BX1.out.trans z.2⟩).1
            have u1 : ∀ z : { w' : World // Below w.heap.size x1 w' }, z.1.cell? ⟨b1, o1 + k * 3 + 1, none⟩ = some (.int .u8 t) := fun z => (CW.out ⟨z.1, BX1.out.trans z.2⟩).2.1
            have u2 : ∀ z : { w' : World // Below w.heap.size x1 w' }, z.1.cell? ⟨b1, o1 + k * 3 + 2, none⟩ = some (.slice pa pn pc) := fun z => (CW.out ⟨z.1, BX1.out.trans z.2⟩).2.2
            refine MixC.wp_region_mix [16] (Below w.heap.size x1) (Below.refl _ x1).drew (by kernel_rfl) (by kernel_rfl) (by kernel_rfl) ?_
            iterate 16 (refine MixC.mix_read rfl (fun K hK => ?_); go_simp; refine hK _ ?_; clear hK K)
            refine MixC.mix_move rfl (fun K hK => ?_)
            go_simp
            refine (HN.out x1.drew (Below.refl _ x1).drew).mono ?_
            rintro e x2 ⟨⟨a6, N6, c6, he, hN6, o6⟩, bx2, up2, j2⟩
            obtain rfl : e = _ := he
            obtain rfl : N6 = N5 := hN6.trans HN5.out.symm
            have BX2 : Hid (Below w.heap.size x1 x2) := Lib.hid ((Below.refl _ x1).drew.trans bx2)
            have J2 := Lib.hid j2
            have O6 := Lib.hid o6
            have O5' : Hid (x2.ownsRow wr.heap.size 5 1 (.slice a5 N6 c5) N6 (u8s (wrL QQ ln))) := Lib.hid (own_blk (w := x1.drew) O5.out (fun q h1 h2 => up2 q h1 h2))
            clear bx2 j2 HN hN6 o6 up2 O5
            refine ⟨_, rfl, BX2.out, hK _ _ ?_⟩
            clear hK K
            iterate 5 (refine MixC.mix_read rfl (fun K hK => ?_); go_simp; refine hK _ ?_; clear hK K)
            refine MixC.mix_nil ?_
            clear u0 u1 u2 hne
            have cv1 := conv_own O5'.out HOC.out (by omega) (Below.refl _ x2)
            have cv2 := conv_own O6.out HOC.out (by omega) (Below.refl _ x2)
            have RB := Lib.hid (back_all HWOK.out HOKB.out)
            have HL : Hid ((wrL QQ ln).length = N6) := Lib.hid HN5.out.symm
            obtain ⟨-, a', c', he, hs⟩ := BS.own O6.out HOC.out (by omega)
            cases he
            have HS := Lib.hid hs
            have BX : Hid (Below w.heap.size w x2) := Lib.hid (BW.out.trans (BX1.out.trans BX2.out))
            clear hs
            generalize strOf (gz (wrL QQ ln)) N6 = ss at *
            go_upto_region 18 with (fail)
            clear cv1 cv2
            go_wp2_with fail
            refine (refread_any x2.heap.size a6 N6 c6 (gz (wrL QQ ln)) x2 HS.out (Nat.le_refl _) (by omega)).mono ?_
            rintro e x3 ⟨hc, b3⟩
            have hrb := RB.out
            rw [HL.out] at hrb
            rcases hc with ⟨h0', _⟩ | ⟨_, J, ad, cp, Q2, hJ, hJ9, _, he, bk, hq⟩
            · exact absurd hrb.1 h0'
            · obtain rfl : e = _ := he
              have BK := Lib.hid bk
              have BX3 : Hid (Below w.heap.size w x3) := Lib.hid (BX.out.trans (b3.mono BX.out.size))
              have J3 := Lib.hid (J2.out.keep b3)
              have cx0 : x3.cell? ⟨b1, o1 + k * 3, none⟩ = some (.int .u32 s) := Below.cell' ((BX1.out.trans BX2.out).trans (b3.mono BX.out.size)) hb1 X0.out
              clear hrb hJ hq bk b3 RB
              go_wp2_with fail
              refine (fresh_any x3.heap.size ad (J + 1) cp Q2 s a2 len2 cap2 Y x3 BK.out ((HY.out.keep BX3.out).mono BX3.out.size) (Nat.le_refl _) (by omega)).mono ?_
              rintro e x4 ⟨vf, mm, he, hmm, of, b4⟩
              obtain rfl : e = _ := he
              obtain ⟨fa, fc, hvf⟩ := own_len of
              subst hvf
              have OF := Lib.hid of
              have HMM := Lib.hid hmm
              have BX4 : Hid (Below w.heap.size w x4) := Lib.hid (BX3.out.trans (b4.mono BX3.out.size))
              have J4 := Lib.hid (J3.out.keep b4)
              have cx4 : x4.cell? ⟨b1, o1 + k * 3, none⟩ = some (.int .u32 s) := by
                rw [b4.cell (p := ⟨b1, o1 + k * 3, none⟩) (World.block_lt_of_cell? _ _ cx0)]; exact cx0
              have X4 := Lib.hid cx4
              have BK4 := Lib.hid (BK.out.keep b4)
              have B34 := Lib.hid b4
              clear of hmm b4 cx0 cx4
              go_wp2_with fail
              go_loopw [17, 18] (fun s17 s18 wy => ∃ x : Nat, x ≤ J + 1 ∧ s18 = .int .i64 x ∧ s17 = .int .i64 ((frL Q2 Y len2 s x).length : Nat) ∧ Hid (Below x4.heap.size x4 wy)) (fun _ s18 _ => J + 1 - (intOf s18).toNat)
              case atStart => exact ⟨0, by omega, rfl, rfl, Lib.hid (Below.refl _ _)⟩
              case round =>
                obtain ⟨x, hx, rfl, rfl, HY4⟩ := hrel
                have hfl := frL_len Q2 Y len2 s x
                have hfs := frL_succ Q2 Y len2 s x
                obtain ⟨fl, hfle⟩ : ∃ fl, (frL Q2 Y len2 s x).length = fl := ⟨_, rfl⟩
                rw [hfle] at hfl
                rw [hfle]
                have HFL := Lib.hid hfle
                have HFS := Lib.hid hfs
                clear hfle hfs
                by_cases hxl : x < J + 1
                · obtain ⟨b4, o4, hp4, hc4⟩ := BK4.out.mem
                  obtain ⟨rfl, hb4⟩ := hp4 (by have := BK4.out.le; omega)
                  have cq := hc4 x hxl 1 (by omega)
                  obtain ⟨hh, hhe⟩ : ∃ hh, (Q2 x).h = hh := ⟨_, rfl⟩
                  have cq' : x4.cell? ⟨b4, o4 + x * 3 + 1, none⟩ = some (.int .i64 hh) := by rw [cq]; show some (Value.int .i64 (Q2 x).h) = _; rw [hhe]
                  have HHE := Lib.hid hhe
                  have CQ := Lib.hid cq'
                  have hxi : (x : Int) < (J : Int) + 1 := by omega
                  have HWR : Hid (IntKind.u32.wrap (s - IntKind.u32.wrap hh) = (s - hh) % 4294967296) := Lib.hid (by rw [IntKind.wrap_u32, IntKind.wrap_u32]; omega)
                  clear cq cq' hc4 hp4 hhe
                  go_wp2_with fail
                  go_loopw [19, 20] (fun s19 s20 wz => ∃ y : Nat, y ≤ len2 ∧ s20 = .int .i64 y ∧ s19 = .bool (hasZ Y y ((s - hh) % 4294967296)) ∧ Hid (Below x4.heap.size x4 wz)) (fun _ s20 _ => len2 - (intOf s20).toNat)
                  case atStart => exact ⟨0, by omega, rfl, by rw [hasZ_zero], HY4⟩
                  case round =>
                    obtain ⟨y, hy, rfl, rfl, HZ4⟩ := hrel
                    by_cases hyl : y < len2
                    · obtain ⟨b2, o2, hp2, hc2⟩ := HY.out.mem
                      obtain ⟨rfl, hb2⟩ := hp2 (by omega)
                      have cy := Below.cell' BX4.out hb2 (hc2 y hyl)
                      have hsu := hasZ_succ Y y ((s - hh) % 4294967296)
                      obtain ⟨yy, hyy⟩ : ∃ yy, Y y = yy := ⟨_, rfl⟩
                      rw [hyy] at cy hsu
                      have HSU := Lib.hid hsu
                      clear hyy hsu hc2 hp2
                      have hyi : (y : Int) < len2 := by omega
                      have CY := Lib.hid cy
                      clear cy
                      cases hz : hasZ Y y ((s - hh) % 4294967296) with
                      | true =>
                        have HZ := Lib.hid hz
                        clear hz
                        go_wp2_with fail
                        have hne : Nonempty { w' : World // Below x4.heap.size x4 w' } := ⟨⟨_, Below.refl _ _⟩⟩
                        have u0 : ∀ z : { w' : World // Below x4.heap.size x4 w' }, z.1.cell? ⟨b1, o1 + k * 3, none⟩ = some (.int .u32 s) := fun z => Below.cell' z.2 (World.block_lt_of_cell? _ _ X4.out) X4.out
                        have u1 : ∀ z : { w' : World // Below x4.heap.size x4 w' }, z.1.cell? ⟨b2, o2 + y, none⟩ = some (.int .u32 yy) := fun z => Below.cell' z.2 (World.block_lt_of_cell? _ _ CY.out) CY.out
                        have u2 : ∀ z : { w' : World // Below x4.heap.size x4 w' }, z.1.cell? ⟨b4, o4 + x * 3 + 1, none⟩ = some (.int .i64 hh) := fun z => Below.cell' z.2 (World.block_lt_of_cell? _ _ CQ.out) CQ.out
                        refine MixC.wp_region_mix [] (Below x4.heap.size x4) (HZ4.out.drew) (by kernel_rfl) (by kernel_rfl) (by kernel_rfl) ?_
                        iterate 21 (refine MixC.mix_read rfl (fun K hK => ?_); go_simp; refine hK _ ?_; clear hK K)
                        refine MixC.mix_nil ?_
                        clear u0 u1 u2 hne
                        go_wp2_with fail
                        go_roundw
                        case rel => exact ⟨y + 1, by omega, by go_num, by rw [HSU.out, HZ.out]; rfl, Lib.hid (HZ4.out.drew)⟩
                        case measure => simp [intOf] <;> omega
                      | false =>
                        have HZ := Lib.hid hz
                        clear hz
                        by_cases he : yy = (s - hh) % 4294967296
                        · have h1 : (yy == (s - hh) % 4294967296) = true := by simpa using he
                          have h2 : decide (yy = (s - hh) % 4294967296) = true := by simpa using he
                          clear he
                          go_wp2_with fail
                          have hne : Nonempty { w' : World // Below x4.heap.size x4 w' } := ⟨⟨_, Below.refl _ _⟩⟩
                          have u0 : ∀ z : { w' : World // Below x4.heap.size x4 w' }, z.1.cell? ⟨b1, o1 + k * 3, none⟩ = some (.int .u32 s) := fun z => Below.cell' z.2 (World.block_lt_of_cell? _ _ X4.out) X4.out
                          have u1 : ∀ z : { w' : World // Below x4.heap.size x4 w' }, z.1.cell? ⟨b2, o2 + y, none⟩ = some (.int .u32 yy) := fun z => Below.cell' z.2 (World.block_lt_of_cell? _ _ CY.out) CY.out
                          have u2 : ∀ z : { w' : World // Below x4.heap.size x4 w' }, z.1.cell? ⟨b4, o4 + x * 3 + 1, none⟩ = some (.int .i64 hh) := fun z => Below.cell' z.2 (World.block_lt_of_cell? _ _ CQ.out) CQ.out
                          refine MixC.wp_region_mix [] (Below x4.heap.size x4) (HZ4.out.drew) (by kernel_rfl) (by kernel_rfl) (by kernel_rfl) ?_
                          iterate 21 (refine MixC.mix_read rfl (fun K hK => ?_); go_simp; refine hK _ ?_; clear hK K)
                          refine MixC.mix_nil ?_
                          clear u0 u1 u2 hne
                          go_wp2_with fail
                          go_roundw
                          case rel => exact ⟨y + 1, by omega, by go_num, by rw [HWR.out, h1, HSU.out, HZ.out, h2]; rfl, Lib.hid (HZ4.out.drew)⟩
                          case measure => simp [intOf] <;> omega
                        · have h1 : (yy == (s - hh) % 4294967296) = false := by simpa using he
                          have h2 : decide (yy = (s - hh) % 4294967296) = false := by simpa using he
                          clear he
                          go_wp2_with fail
                          have hne : Nonempty { w' : World // Below x4.heap.size x4 w' } := ⟨⟨_, Below.refl _ _⟩⟩
                          have u0 : ∀ z : { w' : World // Below x4.heap.size x4 w' }, z.1.cell? ⟨b1, o1 + k * 3, none⟩ = some (.int .u32 s) := fun z => Below.cell' z.2 (World.block_lt_of_cell? _ _ X4.out) X4.out
                          have u1 : ∀ z : { w' : World // Below x4.heap.size x4 w' }, z.1.cell? ⟨b2, o2 + y, none⟩ = some (.int .u32 yy) := fun z => Below.cell' z.2 (World.block_lt_of_cell? _ _ CY.out) CY.out
                          have u2 : ∀ z : { w' : World // Below x4.heap.size x4 w' }, z.1.cell? ⟨b4, o4 + x * 3 + 1, none⟩ = some (.int .i64 hh) := fun z => Below.cell' z.2 (World.block_lt_of_cell? _ _ CQ.out) CQ.out
                          refine MixC.wp_region_mix [] (Below x4.heap.size x4) (HZ4.out.drew) (by kernel_rfl) (by kernel_rfl) (by kernel_rfl) ?_
                          iterate 21 (refine MixC.mix_read rfl (fun K hK => ?_); go_simp; refine hK _ ?_; clear hK K)
                          refine MixC.mix_nil ?_
                          clear u0 u1 u2 hne
                          go_wp2_with fail
                          go_roundw
                          case rel => exact ⟨y + 1, by omega, by go_num, by rw [HWR.out, h1, HSU.out, HZ.out, h2]; rfl, Lib.hid (HZ4.out.drew)⟩
                          case measure => simp [intOf] <;> omega
                    · have : y = len2 := by omega
                      subst this
                      clear hyl
                      cases hz : hasZ Y y ((s - hh) % 4294967296) with
                      | true =>
                        have HZ := Lib.hid hz
                        clear hz
                        go_wp2_with fail
                        go_roundw
                        case rel => exact ⟨x + 1, by omega, by go_num, by rw [HFS.out, if_pos (show seenB Y y s (Q2 x).h = true by unfold seenB; rw [HHE.out]; exact HZ.out), HFL.out], HZ4⟩
                        case measure => simp [intOf] <;> omega
                      | false =>
                        have HZ := Lib.hid hz
                        clear hz
                        have hsb : seenB Y y s (Q2 x).h = false := by unfold seenB; rw [HHE.out]; exact HZ.out
                        have hg := frL_get Q2 Y y s x hsb (J + 1) hxl
                        rw [HFL.out] at hg
                        have hfm : fl < mm := by rw [HMM.out]; exact (List.getElem?_eq_some_iff.1 hg).1
                        obtain ⟨m', rfl⟩ : ∃ m', mm = m' + 1 := ⟨mm - 1, by omega⟩
                        obtain ⟨gf, cf, hvf, hgf1, hgf2, -⟩ := own_some OF.out
                        have hfa : fa = some ⟨gf, 0, none⟩ := by injection hvf
                        subst hfa
                        have cfx := Below.cell' HZ4.out hgf2 (own_cell OF.out (i64s_get hg))
                        have HSB := Lib.hid hsb
                        have hfi : (fl : Int) < (m' : Int) + 1 := by omega
                        have hfm' : ¬ m' + 1 ≤ fl := by omega
                        have hd1 : decide (m' + 1 ≤ fl) = false := by simpa using hfm'
                        have hd2 : decide ((m' : Int) + 1 ≤ fl) = false := by simp; omega
                        clear hsb hg hvf
                        go_wp2_with fail
                        go_roundw
                        case rel => exact ⟨x + 1, by omega, by go_num, by rw [HFS.out, HSB.out, if_neg (by decide), List.length_append, HFL.out]; go_num, HZ4⟩
                        case measure => simp [intOf] <;> omega
                · have : x = J + 1 := by omega
                  subst this
                  have hm : fl = mm := by rw [← HFL.out, HMM.out]
                  subst hm
                  clear hxl
                  go_wp2_with fail
                  go_roundw
                  case rel => exact ⟨k + 1, m + 1, by omega, by omega, by omega, by go_num, Lib.hid (J4.out.keep HY4.out), Lib.hid (BX4.out.trans (HY4.out.mono BX4.out.size))⟩
                  case measure => simp [intOf] <;> omega
        · have hn' : decide (1500 < (pn : Int)) = true := by simp; omega
          clear hn cx0 cx1
          go_wp2_with fail
          go_ret
          exact ⟨rfl, BW.out⟩
      · rcases (by omega : ¬ k < len ∨ (k < len ∧ ¬ k < 30)) with h | ⟨h, h'⟩
        · have d1 : decide (k < len) = false := by simpa using h
          clear hlt
          go_wp2_with fail
          go_ret
          exact ⟨rfl, BW.out⟩
        · have d2 : decide ((k : Int) < 30) = false := by simp; omega
          have d3 : (k : Int) < len := by omega
          clear hlt h'
          go_wp2_with fail
          go_ret
          exact ⟨rfl, BW.out⟩
  · have hl2' : decide (60 < (len2 : Int)) = true := by simp; omega
    clear hl2
    go_wp2_with fail
    go_ret
    exact ⟨rfl, B1.out⟩
end Go.Proofs.Ytdmbdageohjodaa
