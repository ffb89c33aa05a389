/-
  Chapter 20: the reference's Report, the law LossesReports.
-/
import Derived.Test.YtdmbdageohjodaaLsR
namespace Go.Proofs.Ytdmbdageohjodaa
open Go.RowKit
set_option linter.unusedVariables false
set_option linter.unusedSimpArgs false
attribute [local irreducible] wpStill wpQuiet MixC.wpMix MixC.wpPick MixC.wpPickT
attribute [local go_sem] MixC.rdOp MixC.rd MixC.rdUpon MixC.mvUpon

theorem repF_lo' {ae ar be br : Int} (h : 0 < be - ae ∧ 0 < (be - br) - (ae - ar)) (hq : ((be - br) - (ae - ar)) * 256 / (be - ae) ≤ 255) : repF ae ar be br = ((be - br) - (ae - ar)) * 256 / (be - ae) % 256 := by
  rw [Int.mul_comm] at hq ⊢; exact repF_lo h hq
theorem repF_hi' {ae ar be br : Int} (h : 0 < be - ae ∧ 0 < (be - br) - (ae - ar)) (hq : 255 < ((be - br) - (ae - ar)) * 256 / (be - ae)) : repF ae ar be br = 255 := by
  rw [Int.mul_comm] at hq; exact repF_hi h hq
set_option maxHeartbeats 4000000 in
theorem rreport_any (s f l hh j t d ae ar ah be br bh : Int) (av bv : Bool) (w : World) (h1 : -1099511627776 ≤ ae ∧ ae ≤ 1099511627776) (h2 : -1099511627776 ≤ ar ∧ ar ≤ 1099511627776) (h3 : -1099511627776 ≤ be ∧ be ≤ 1099511627776) (h4 : -1099511627776 ≤ br ∧ br ≤ 1099511627776) :
    Calls Try.prog 25 #[.agg #[.int .u32 s, .int .u8 f, .int .i32 l, .int .u32 hh, .int .u32 j, .int .u32 t, .int .u32 d], .agg #[.int .i64 ae, .int .i64 ar, .int .i64 ah, .bool av], .agg #[.int .i64 be, .int .i64 br, .int .i64 bh, .bool bv]] w fun x w' => x = .returned (repV s (repF ae ar be br) (repL be br) (bh % 4294967296) j t d) ∧ Below w.heap.size w w' := by
  go_enter Try.func25, Try.ntmps25
  go_wp2_with fail
  have R0 := RB.mk' w #[.int .u32 s, .int .u8 f, .int .i32 l, .int .u32 hh, .int .u32 j, .int .u32 t, .int .u32 d] #[.int .i64 ae, .int .i64 ar, .int .i64 ah, .bool av] #[.int .i64 be, .int .i64 br, .int .i64 bh, .bool bv] #[.int .u32 0, .int .u8 0, .int .i32 0, .int .u32 0, .int .u32 0, .int .u32 0, .int .u32 0]
  generalize ((((w.alloc (.cells #[.int .u32 s, .int .u8 f, .int .i32 l, .int .u32 hh, .int .u32 j, .int .u32 t, .int .u32 d] 46)).alloc (.cells #[.int .i64 ae, .int .i64 ar, .int .i64 ah, .bool av] 48)).alloc (.cells #[.int .i64 be, .int .i64 br, .int .i64 bh, .bool bv] 48)).alloc (.cells #[.int .u32 0, .int .u8 0, .int .i32 0, .int .u32 0, .int .u32 0, .int .u32 0, .int .u32 0] 46)) = V at R0 ⊢
  obtain ⟨b, hb⟩ : ∃ b, w.heap.size = b := ⟨_, rfl⟩
  have R0' := R0
  rw [hb] at R0' ⊢
  clear R0
  have RV := Lib.hid R0'
  clear R0' hb
  have hne : Nonempty { w' : World // Below V.heap.size V w' } := ⟨⟨V, Below.refl _ _⟩⟩
  have FA : ∀ y : { w' : World // Below V.heap.size V w' }, RB w b #[.int .u32 s, .int .u8 f, .int .i32 l, .int .u32 hh, .int .u32 j, .int .u32 t, .int .u32 d] #[.int .i64 ae, .int .i64 ar, .int .i64 ah, .bool av] #[.int .i64 be, .int .i64 br, .int .i64 bh, .bool bv] #[.int .u32 0, .int .u8 0, .int .i32 0, .int .u32 0, .int .u32 0, .int .u32 0, .int .u32 0] y.1 := fun y => RV.out.step y.2
  have c0 := fun y => (FA y).cells.1.1
  have c1 := fun y => (FA y).cells.1.2.1
  have d0 := fun y => (FA y).cells.2.1
  have d1 := fun y => (FA y).cells.2.2.1
  clear FA
  refine MixC.wp_region_mix [] (Below V.heap.size V) (Below.refl _ _).drew (by kernel_rfl) (by kernel_rfl) (by kernel_rfl) ?_
  (iterate 14 (refine MixC.mix_read rfl (fun K hK => ?_); go_simp; refine hK _ ?_; clear hK K))
  refine MixC.mix_nil ?_
  change Exit.then _ _ _ _ V.drew
  rw [show IntKind.i64.wrap (ae - ar) = ae - ar by rw [IntKind.wrap_i64]; omega, show IntKind.i64.wrap (be - ae) = be - ae by rw [IntKind.wrap_i64]; omega, show IntKind.i64.wrap (be - br - (ae - ar)) = be - br - (ae - ar) by rw [IntKind.wrap_i64]; omega]
  have R3 := Lib.hid RV.out.drew
  clear c0 c1 d0 d1 hne RV
  generalize V.drew = w3 at R3 ⊢
  obtain ⟨⟨c0, c1, c2, c3⟩, d0, d1, d2, d3⟩ := R3.out.cells
  obtain ⟨x0, x1, x2, x3, x4, x5, x6⟩ := R3.out.xs
  obtain ⟨f0, f1⟩ := R3.out.free
  obtain ⟨r0, r1, r2, r3, r4, r5, r6⟩ := R3.out.rs
  by_cases hF : 0 < be - ae ∧ 0 < (be - br) - (ae - ar)
  · go_upto_region 6 with (fail)
    have RR : RB w b #[.int .u32 s, .int .u8 (0), .int .i32 (l), .int .u32 (bh % 4294967296), .int .u32 j, .int .u32 t, .int .u32 d] #[.int .i64 ae, .int .i64 ar, .int .i64 ah, .bool av] #[.int .i64 be, .int .i64 br, .int .i64 bh, .bool bv] #[.int .u32 0, .int .u8 0, .int .i32 0, .int .u32 0, .int .u32 0, .int .u32 0, .int .u32 0] _ := (R3.out.setX 3 (.int .u32 (bh % 4294967296))).setX 1 (.int .u8 0)
    obtain ⟨V5, hV⟩ : ∃ V5, V5 = (w3.setCell ⟨b, 3, none⟩ (.int .u32 (bh % 4294967296))).setCell ⟨b, 1, none⟩ (.int .u8 0) := ⟨_, rfl⟩
    rw [← hV] at RR ⊢
    clear x0 x1 x2 x3 x4 x5 x6 c0 c1 c2 c3 d0 d1 d2 d3 f0 f1 r0 r1 r2 r3 r4 r5 r6
    have R5 := Lib.hid RR
    clear hV RR R3
    obtain ⟨⟨c0, c1, c2, c3⟩, d0, d1, d2, d3⟩ := R5.out.cells
    obtain ⟨x0, x1, x2, x3, x4, x5, x6⟩ := R5.out.xs
    obtain ⟨f0, f1⟩ := R5.out.free
    obtain ⟨r0, r1, r2, r3, r4, r5, r6⟩ := R5.out.rs
    go_upto_region 10 with (fail)
    all_goals
      have RR : RB w b #[.int .u32 s, .int .u8 (repF ae ar be br), .int .i32 (l), .int .u32 (bh % 4294967296), .int .u32 j, .int .u32 t, .int .u32 d] #[.int .i64 ae, .int .i64 ar, .int .i64 ah, .bool av] #[.int .i64 be, .int .i64 br, .int .i64 bh, .bool bv] #[.int .u32 0, .int .u8 0, .int .i32 0, .int .u32 0, .int .u32 0, .int .u32 0, .int .u32 0] _ := R5.out.setX 1 (.int .u8 (repF ae ar be br))
      obtain ⟨V6, hV⟩ : ∃ V6, V6 = V5.setCell ⟨b, 1, none⟩ (.int .u8 (repF ae ar be br)) := ⟨_, rfl⟩
      rw [← hV] at RR
      first
        | rw [repF_lo' hF (by assumption)] at hV
        | rw [repF_hi' hF (by assumption)] at hV
      rw [← hV]
      clear x0 x1 x2 x3 x4 x5 x6 c0 c1 c2 c3 d0 d1 d2 d3 f0 f1 r0 r1 r2 r3 r4 r5 r6
      have V6R := Lib.hid RR
      clear hV RR R5
      obtain ⟨⟨c0, c1, c2, c3⟩, d0, d1, d2, d3⟩ := V6R.out.cells
      obtain ⟨x0, x1, x2, x3, x4, x5, x6⟩ := V6R.out.xs
      obtain ⟨f0, f1⟩ := V6R.out.free
      obtain ⟨r0, r1, r2, r3, r4, r5, r6⟩ := V6R.out.rs
      clear hF
      go_upto_region 15 with (fail)
      all_goals
        have RR : RB w b #[.int .u32 s, .int .u8 (repF ae ar be br), .int .i32 (repL be br), .int .u32 (bh % 4294967296), .int .u32 j, .int .u32 t, .int .u32 d] #[.int .i64 ae, .int .i64 ar, .int .i64 ah, .bool av] #[.int .i64 be, .int .i64 br, .int .i64 bh, .bool bv] #[.int .u32 0, .int .u8 0, .int .i32 0, .int .u32 0, .int .u32 0, .int .u32 0, .int .u32 0] _ := V6R.out.setX 2 (.int .i32 (repL be br))
        obtain ⟨V7, hV⟩ : ∃ V7, V7 = V6.setCell ⟨b, 2, none⟩ (.int .i32 (repL be br)) := ⟨_, rfl⟩
        rw [← hV] at RR
        first
          | rw [show repL be br = -8388608 by unfold repL; omega] at hV
          | rw [show repL be br = 8388607 by unfold repL; omega] at hV
          | rw [show repL be br = be - br by unfold repL; omega] at hV
        rw [← hV]
        clear x0 x1 x2 x3 x4 x5 x6 c0 c1 c2 c3 d0 d1 d2 d3 f0 f1 r0 r1 r2 r3 r4 r5 r6
        have R7 := Lib.hid RR
        clear hV RR V6R
        obtain ⟨⟨c0, c1, c2, c3⟩, d0, d1, d2, d3⟩ := R7.out.cells
        obtain ⟨x0, x1, x2, x3, x4, x5, x6⟩ := R7.out.xs
        obtain ⟨f0, f1⟩ := R7.out.free
        obtain ⟨r0, r1, r2, r3, r4, r5, r6⟩ := R7.out.rs
        go_wp2_with fail
        refine bodyPost_ret (by simp [results, Try.results25, go_sem, r0, r1, r2, r3, r4, r5, r6]; try rfl) rfl ?_
        have b9 := R7.out.hb
        have B9 := R7.out.bl
        refine ⟨rfl, ?_⟩
        (iterate 7 (refine Below.setCell ?_ (by show _ ≤ b + 1 + 1 + 1; omega) _))
        exact B9
  · go_upto_region 10 with (fail)
    all_goals
      have RR : RB w b #[.int .u32 s, .int .u8 (repF ae ar be br), .int .i32 (l), .int .u32 (bh % 4294967296), .int .u32 j, .int .u32 t, .int .u32 d] #[.int .i64 ae, .int .i64 ar, .int .i64 ah, .bool av] #[.int .i64 be, .int .i64 br, .int .i64 bh, .bool bv] #[.int .u32 0, .int .u8 0, .int .i32 0, .int .u32 0, .int .u32 0, .int .u32 0, .int .u32 0] ((w3.setCell ⟨b, 3, none⟩ (.int .u32 (bh % 4294967296))).setCell ⟨b, 1, none⟩ (.int .u8 0)) := by
        rw [repF_no hF]
        exact (R3.out.setX 3 (.int .u32 (bh % 4294967296))).setX 1 (.int .u8 0)
      obtain ⟨V5, hV⟩ : ∃ V5, V5 = (w3.setCell ⟨b, 3, none⟩ (.int .u32 (bh % 4294967296))).setCell ⟨b, 1, none⟩ (.int .u8 0) := ⟨_, rfl⟩
      rw [← hV] at RR ⊢
      clear x0 x1 x2 x3 x4 x5 x6 c0 c1 c2 c3 d0 d1 d2 d3 f0 f1 r0 r1 r2 r3 r4 r5 r6
      have R5 := Lib.hid RR
      clear hV RR R3
      obtain ⟨⟨c0, c1, c2, c3⟩, d0, d1, d2, d3⟩ := R5.out.cells
      obtain ⟨x0, x1, x2, x3, x4, x5, x6⟩ := R5.out.xs
      obtain ⟨f0, f1⟩ := R5.out.free
      obtain ⟨r0, r1, r2, r3, r4, r5, r6⟩ := R5.out.rs
      clear hF
      obtain ⟨V6, hV⟩ : ∃ V6, V6 = V5 := ⟨_, rfl⟩
      subst hV
      have V6R := R5
      clear R5
      go_upto_region 15 with (fail)
      all_goals
        have RR : RB w b #[.int .u32 s, .int .u8 (repF ae ar be br), .int .i32 (repL be br), .int .u32 (bh % 4294967296), .int .u32 j, .int .u32 t, .int .u32 d] #[.int .i64 ae, .int .i64 ar, .int .i64 ah, .bool av] #[.int .i64 be, .int .i64 br, .int .i64 bh, .bool bv] #[.int .u32 0, .int .u8 0, .int .i32 0, .int .u32 0, .int .u32 0, .int .u32 0, .int .u32 0] _ := V6R.out.setX 2 (.int .i32 (repL be br))
        obtain ⟨V7, hV⟩ : ∃ V7, V7 = V6.setCell ⟨b, 2, none⟩ (.int .i32 (repL be br)) := ⟨_, rfl⟩
        rw [← hV] at RR
        first
          | rw [show repL be br = -8388608 by unfold repL; omega] at hV
          | rw [show repL be br = 8388607 by unfold repL; omega] at hV
          | rw [show repL be br = be - br by unfold repL; omega] at hV
        rw [← hV]
        clear x0 x1 x2 x3 x4 x5 x6 c0 c1 c2 c3 d0 d1 d2 d3 f0 f1 r0 r1 r2 r3 r4 r5 r6
        have R7 := Lib.hid RR
        clear hV RR V6R
        obtain ⟨⟨c0, c1, c2, c3⟩, d0, d1, d2, d3⟩ := R7.out.cells
        obtain ⟨x0, x1, x2, x3, x4, x5, x6⟩ := R7.out.xs
        obtain ⟨f0, f1⟩ := R7.out.free
        obtain ⟨r0, r1, r2, r3, r4, r5, r6⟩ := R7.out.rs
        go_wp2_with fail
        refine bodyPost_ret (by simp [results, Try.results25, go_sem, r0, r1, r2, r3, r4, r5, r6]; try rfl) rfl ?_
        have b9 := R7.out.hb
        have B9 := R7.out.bl
        refine ⟨rfl, ?_⟩
        (iterate 7 (refine Below.setCell ?_ (by show _ ≤ b + 1 + 1 + 1; omega) _))
        exact B9
end Go.Proofs.Ytdmbdageohjodaa
