/-
  Chapter 20: the law LossesReports.
-/
import Derived.Test.YtdmbdageohjodaaLsS
import Derived.Test.YtdmbdageohjodaaReads
namespace Go.Proofs.Ytdmbdageohjodaa
open Go.RowKit
set_option linter.unusedVariables false
set_option linter.unusedSimpArgs false
attribute [local irreducible] wpStill wpQuiet MixC.wpMix MixC.wpPick MixC.wpPickT
attribute [local go_sem] MixC.rdOp MixC.rd MixC.rdUpon MixC.mvUpon

theorem stand_of {w : World} {v : Value} (h : ArgS Try.prog w 48 v) : ∃ e r i : Int, ∃ b : Bool, v = .agg #[.int .i64 e, .int .i64 r, .int .i64 i, .bool b] := by
  obtain ⟨cs, rfl, h⟩ := h
  have hlv : leaves Try.prog 3 48 = some [2, 2, 2, 4] := by kernel_rfl
  obtain ⟨hl, hr⟩ := h 3 _ hlv
  obtain ⟨x0, e0, r0⟩ := hr 0 _ rfl
  obtain ⟨x1, e1, r1⟩ := hr 1 _ rfl
  obtain ⟨x2, e2, r2⟩ := hr 2 _ rfl
  obtain ⟨x3, e3, r3⟩ := hr 3 _ rfl
  obtain ⟨T, rfl, -⟩ := reads_int Try.underlying2 r0
  obtain ⟨S, rfl, -⟩ := reads_int Try.underlying2 r1
  obtain ⟨R, rfl, -⟩ := reads_int Try.underlying2 r2
  obtain ⟨B, rfl⟩ := reads_bool Try.underlying4 r3
  exact ⟨T, S, R, B, by rw [arr4 hl e0 e1 e2 e3]⟩
theorem rep_of {w : World} {v : Value} (h : ArgS Try.prog w 46 v) : ∃ s f l hh j t d : Int, v = .agg #[.int .u32 s, .int .u8 f, .int .i32 l, .int .u32 hh, .int .u32 j, .int .u32 t, .int .u32 d] := by
  obtain ⟨cs, rfl, h⟩ := h
  have hlv : leaves Try.prog 3 46 = some [44, 5, 21, 44, 44, 44, 44] := by kernel_rfl
  obtain ⟨hl, hr⟩ := h 3 _ hlv
  obtain ⟨x0, e0, r0⟩ := hr 0 _ rfl
  obtain ⟨x1, e1, r1⟩ := hr 1 _ rfl
  obtain ⟨x2, e2, r2⟩ := hr 2 _ rfl
  obtain ⟨x3, e3, r3⟩ := hr 3 _ rfl
  obtain ⟨x4, e4, r4⟩ := hr 4 _ rfl
  obtain ⟨x5, e5, r5⟩ := hr 5 _ rfl
  obtain ⟨x6, e6, r6⟩ := hr 6 _ rfl
  obtain ⟨y0, rfl, -⟩ := reads_int Try.underlying44 r0
  obtain ⟨y1, rfl, -⟩ := reads_int Try.underlying5 r1
  obtain ⟨y2, rfl, -⟩ := reads_int Try.underlying21 r2
  obtain ⟨y3, rfl, -⟩ := reads_int Try.underlying44 r3
  obtain ⟨y4, rfl, -⟩ := reads_int Try.underlying44 r4
  obtain ⟨y5, rfl, -⟩ := reads_int Try.underlying44 r5
  obtain ⟨y6, rfl, -⟩ := reads_int Try.underlying44 r6
  exact ⟨y0, y1, y2, y3, y4, y5, y6, by rw [arr7 hl e0 e1 e2 e3 e4 e5 e6]⟩
/-- the law's boxes -/
structure RC (w0 : World) (b : Nat) (X A S : Array Value) (w : World) : Prop where
  bl : Below w0.heap.size w0 w
  x : w.heap[b]? = some (.cells X 46 (0, 0))
  a : w.heap[b + 1]? = some (.cells A 48 (0, 0))
  s : w.heap[b + 2]? = some (.cells S 48 (0, 0))
theorem RC.step {w0 : World} {b : Nat} {X A S : Array Value} {w w' : World} (h : RC w0 b X A S w) (hb : Below w.heap.size w w') : RC w0 b X A S w' :=
  ⟨h.bl.trans (hb.mono h.bl.size), Below.blk hb h.x (lt_of_block h.x), Below.blk hb h.a (lt_of_block h.a), Below.blk hb h.s (lt_of_block h.s)⟩
theorem RC.mk' (w : World) (X A S : Array Value) : RC w w.heap.size X A S (((w.alloc (.cells X 46)).alloc (.cells A 48)).alloc (.cells S 48)) := by
  refine ⟨by (repeat (first | exact Below.refl _ _ | refine Below.alloc ?_ (by first | (simp; done) | (simp; omega) | (simp [size_drewN]; done) | (simp [size_drewN]; omega)) _ | refine Below.drew ?_ | refine below_drewN0 ?_ _ | refine Below.setCell ?_ (by first | (simp; done) | (simp; omega) | (simp [size_drewN]; done) | (simp [size_drewN]; omega)) _)), ?_, ?_, ?_⟩
  · rw [alloc_blk_old (by simp; omega), alloc_blk_old (by simp)]; exact alloc_blk_new
  · rw [alloc_blk_old (by simp)]; exact (by simpa using alloc_blk_new (w := w.alloc (.cells X 46)) (o := .cells A 48))
  · exact (by simpa using alloc_blk_new (w := (w.alloc (.cells X 46)).alloc (.cells A 48)) (o := .cells S 48))
theorem RC.cells {w0 : World} {b : Nat} {A0 A1 A2 A3 S0 S1 S2 S3 X0 X1 X2 X3 X4 X5 X6 : Value} {w : World} (h : RC w0 b #[X0, X1, X2, X3, X4, X5, X6] #[A0, A1, A2, A3] #[S0, S1, S2, S3] w) :
    (w.cell? ⟨b + 1, 0, none⟩ = some A0 ∧ w.cell? ⟨b + 1, 1, none⟩ = some A1 ∧ w.cell? ⟨b + 1, 2, none⟩ = some A2 ∧ w.cell? ⟨b + 1, 3, none⟩ = some A3) ∧ (w.cell? ⟨b + 1 + 1, 0, none⟩ = some S0 ∧ w.cell? ⟨b + 1 + 1, 1, none⟩ = some S1 ∧ w.cell? ⟨b + 1 + 1, 2, none⟩ = some S2 ∧ w.cell? ⟨b + 1 + 1, 3, none⟩ = some S3) ∧
    w.cell? ⟨b, 0, none⟩ = some X0 ∧ w.cell? ⟨b, 1, none⟩ = some X1 ∧ w.cell? ⟨b, 2, none⟩ = some X2 ∧ w.cell? ⟨b, 3, none⟩ = some X3 ∧ w.cell? ⟨b, 4, none⟩ = some X4 ∧ w.cell? ⟨b, 5, none⟩ = some X5 ∧ w.cell? ⟨b, 6, none⟩ = some X6 :=
  ⟨⟨by rw [cell_blk h.a]; rfl, by rw [cell_blk h.a]; rfl, by rw [cell_blk h.a]; rfl, by rw [cell_blk h.a]; rfl⟩, ⟨by rw [cell_blk h.s]; rfl, by rw [cell_blk h.s]; rfl, by rw [cell_blk h.s]; rfl, by rw [cell_blk h.s]; rfl⟩, by rw [cell_blk h.x]; rfl, by rw [cell_blk h.x]; rfl, by rw [cell_blk h.x]; rfl, by rw [cell_blk h.x]; rfl, by rw [cell_blk h.x]; rfl, by rw [cell_blk h.x]; rfl, by rw [cell_blk h.x]; rfl⟩
set_option maxHeartbeats 4000000 in
theorem LossesReports.walk (v0 v1 v2 : Value) (w : World) (a0 : ArgS Try.prog w 46 v0) (a1 : ArgS Try.prog w 48 v1) (a2 : ArgS Try.prog w 48 v2) :
    Calls Try.prog 5 #[v0, v1, v2] w fun e w' => e = .returned (.bool true) ∧ Below w.heap.size w w' := by
  obtain ⟨s, f, l, hh, j, t, d, rfl⟩ := rep_of a0
  obtain ⟨ae, ar, ah, av, rfl⟩ := stand_of a1
  obtain ⟨be, br, bh, bv, rfl⟩ := stand_of a2
  clear a0 a1 a2
  go_enter Try.func5, Try.ntmps5
  go_wp2_with fail
  have R0 := RC.mk' w #[.int .u32 s, .int .u8 f, .int .i32 l, .int .u32 hh, .int .u32 j, .int .u32 t, .int .u32 d] #[.int .i64 ae, .int .i64 ar, .int .i64 ah, .bool av] #[.int .i64 be, .int .i64 br, .int .i64 bh, .bool bv]
  generalize (((w.alloc (.cells #[.int .u32 s, .int .u8 f, .int .i32 l, .int .u32 hh, .int .u32 j, .int .u32 t, .int .u32 d] 46)).alloc (.cells #[.int .i64 ae, .int .i64 ar, .int .i64 ah, .bool av] 48)).alloc (.cells #[.int .i64 be, .int .i64 br, .int .i64 bh, .bool bv] 48)) = V at R0 ⊢
  obtain ⟨b, hb⟩ : ∃ b, w.heap.size = b := ⟨_, rfl⟩
  have R0' := R0
  rw [hb] at R0' ⊢
  clear R0 hb
  refine (alive20_any V).mono ?_
  rintro e w1 ⟨rfl, b1⟩
  have R1 := Lib.hid (R0'.step b1)
  clear R0' b1
  obtain ⟨⟨c0, c1, c2, c3⟩, ⟨d0, d1, d2, d3⟩, x0, x1, x2, x3, x4, x5, x6⟩ := R1.out.cells
  by_cases hf : (-1099511627776 ≤ ae ∧ ae ≤ 1099511627776) ∧ (-1099511627776 ≤ ar ∧ ar ≤ 1099511627776) ∧ (-1099511627776 ≤ be ∧ be ≤ 1099511627776) ∧ (-1099511627776 ≤ br ∧ br ≤ 1099511627776)
  · obtain ⟨h1, h2, h3, h4⟩ := hf
    have Ra := Lib.hid (report_any s f l hh j t d ae ar ah be br bh av bv · h1 h2 h3 h4)
    have Rb := Lib.hid (rreport_any s f l hh j t d ae ar ah be br bh av bv · h1 h2 h3 h4)
    go_upto_region 5 with (fail)
    clear h1 h2 h3 h4
    clear c0 c1 c2 c3 d0 d1 d2 d3 x0 x1 x2 x3 x4 x5 x6
    obtain ⟨PF, hPF⟩ : ∃ PF, repF ae ar be br = PF := ⟨_, rfl⟩
    obtain ⟨PL, hPL⟩ : ∃ PL, repL be br = PL := ⟨_, rfl⟩
    obtain ⟨PH, hPH⟩ : ∃ PH, bh % 4294967296 = PH := ⟨_, rfl⟩
    rw [hPF, hPL, hPH] at Ra Rb
    clear hPF hPL hPH
    have hne : Nonempty { w' : World // Below w1.heap.size w1 w' } := ⟨⟨w1, Below.refl _ _⟩⟩
    have FA := fun y : { w' : World // Below w1.heap.size w1 w' } => (R1.out.step y.2).cells
    have c0 := fun y => (FA y).1.1
    have c1 := fun y => (FA y).1.2.1
    have c2 := fun y => (FA y).1.2.2.1
    have c3 := fun y => (FA y).1.2.2.2
    have d0 := fun y => (FA y).2.1.1
    have d1 := fun y => (FA y).2.1.2.1
    have d2 := fun y => (FA y).2.1.2.2.1
    have d3 := fun y => (FA y).2.1.2.2.2
    have x0 := fun y => (FA y).2.2.1
    have x1 := fun y => (FA y).2.2.2.1
    have x2 := fun y => (FA y).2.2.2.2.1
    have x3 := fun y => (FA y).2.2.2.2.2.1
    have x4 := fun y => (FA y).2.2.2.2.2.2.1
    have x5 := fun y => (FA y).2.2.2.2.2.2.2.1
    have x6 := fun y => (FA y).2.2.2.2.2.2.2.2
    clear FA
    refine MixC.wp_region_mix [3, 7] (Below w1.heap.size w1) (Below.refl _ _).drew (by kernel_rfl) (by kernel_rfl) (by kernel_rfl) ?_
    (iterate 3 (refine MixC.mix_read rfl (fun K hK => ?_); go_simp; refine hK _ ?_; clear hK K))
    refine MixC.mix_move rfl (fun K hK => ?_)
    go_simp
    refine (Ra.out _).mono ?_
    rintro e w2 ⟨rfl, b2⟩
    have B2 := Lib.hid ((Below.refl w1.heap.size w1).drew.trans (b2.mono (Nat.le_refl _)))
    refine ⟨_, rfl, B2.out, hK _ _ ?_⟩
    clear hK K b2
    (iterate 3 (refine MixC.mix_read rfl (fun K hK => ?_); go_simp; refine hK _ ?_; clear hK K))
    refine MixC.mix_move rfl (fun K hK => ?_)
    go_simp
    refine (Rb.out _).mono ?_
    rintro e w3 ⟨rfl, b3⟩
    have B3 := Lib.hid (B2.out.trans (b3.mono B2.out.size))
    refine ⟨_, rfl, B3.out, hK _ _ ?_⟩
    clear hK K b3
    unfold repV
    (iterate 2 (refine MixC.mix_read rfl (fun K hK => ?_); go_simp; refine hK _ ?_; clear hK K))
    refine MixC.mix_nil ?_
    change Exit.then _ _ _ _ w3
    have R3 := Lib.hid (R1.out.step B3.out)
    clear c0 c1 c2 c3 d0 d1 d2 d3 x0 x1 x2 x3 x4 x5 x6
    go_wp2_with fail
    go_ret
    exact ⟨by simp, R3.out.bl⟩
  · go_wp2_with fail
    all_goals
      go_ret
      exact ⟨rfl, R1.out.bl⟩
end Go.Proofs.Ytdmbdageohjodaa
