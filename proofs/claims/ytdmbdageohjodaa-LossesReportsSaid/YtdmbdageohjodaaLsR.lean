/-
  Chapter 20: reports (losses.Report, its reference), the law LossesReports.
-/
import Derived.Test.YtdmbdageohjodaaLsK
namespace Go.Proofs.Ytdmbdageohjodaa
open Go.RowKit
set_option linter.unusedVariables false
set_option linter.unusedSimpArgs false
attribute [local irreducible] wpStill wpQuiet MixC.wpMix MixC.wpPick MixC.wpPickT
attribute [local go_sem] MixC.rdOp MixC.rd MixC.rdUpon MixC.mvUpon

def standV (e r h : Int) (v : Bool) : Value := .agg #[.int .i64 e, .int .i64 r, .int .i64 h, .bool v]
def repV (s f l h j t d : Int) : Value := .agg #[.int .u32 s, .int .u8 f, .int .i32 l, .int .u32 h, .int .u32 j, .int .u32 t, .int .u32 d]
/-- the part lost, of 256 -/
def repF (ae ar be br : Int) : Int := if 0 < be - ae ∧ 0 < (be - br) - (ae - ar) then min ((256 * ((be - br) - (ae - ar))).tdiv (be - ae)) 255 else 0
def repL (be br : Int) : Int := min (max (be - br) (-8388608)) 8388607

theorem repF_q {ae ar be br : Int} (h : 0 < be - ae ∧ 0 < (be - br) - (ae - ar)) : (256 * ((be - br) - (ae - ar))).tdiv (be - ae) = 256 * ((be - br) - (ae - ar)) / (be - ae) ∧ 0 ≤ 256 * ((be - br) - (ae - ar)) / (be - ae) :=
  ⟨Int.tdiv_eq_ediv_of_nonneg (by omega), Int.ediv_nonneg (by omega) (by omega)⟩
theorem repF_lo {ae ar be br : Int} (h : 0 < be - ae ∧ 0 < (be - br) - (ae - ar)) (hq : 256 * ((be - br) - (ae - ar)) / (be - ae) ≤ 255) : repF ae ar be br = 256 * ((be - br) - (ae - ar)) / (be - ae) % 256 := by
  obtain ⟨h1, h2⟩ := repF_q h
  unfold repF
  rw [if_pos h, h1]
  omega
theorem repF_hi {ae ar be br : Int} (h : 0 < be - ae ∧ 0 < (be - br) - (ae - ar)) (hq : 255 < 256 * ((be - br) - (ae - ar)) / (be - ae)) : repF ae ar be br = 255 := by
  obtain ⟨h1, h2⟩ := repF_q h
  unfold repF
  rw [if_pos h, h1]
  omega
theorem repF_no {ae ar be br : Int} (h : ¬ (0 < be - ae ∧ 0 < (be - br) - (ae - ar))) : repF ae ar be br = 0 := if_neg h
theorem lost_any (e r h : Int) (v : Bool) (w : World) (he : -1099511627776 ≤ e ∧ e ≤ 1099511627776) (hr : -1099511627776 ≤ r ∧ r ≤ 1099511627776) :
    Calls Try.prog 67 #[.agg #[.int .i64 e, .int .i64 r, .int .i64 h, .bool v]] w fun x w' => x = .returned (.int .i64 (e - r)) ∧ Below w.heap.size w w' := by
  have i1 : IntKind.i64.wrap (e - r) = e - r := by rw [IntKind.wrap_i64]; omega
  go_enter Try.func67, Try.ntmps67
  go_wp2_with fail
  go_ret
  exact ⟨ret_int (by omega), by (repeat (first | exact Below.refl _ _ | refine Below.alloc ?_ (by first | (simp; done) | (simp; omega) | (simp [size_drewN]; done) | (simp [size_drewN]; omega)) _ | refine Below.drew ?_ | refine below_drewN0 ?_ _ | refine Below.setCell ?_ (by first | (simp; done) | (simp; omega) | (simp [size_drewN]; done) | (simp [size_drewN]; omega)) _))⟩
/-- the boxes -/
structure RB (w0 : World) (b : Nat) (X A S R : Array Value) (w : World) : Prop where
  bl : Below w0.heap.size w0 w
  hb : w0.heap.size ≤ b
  x : w.heap[b]? = some (.cells X 46 (0, 0))
  a : w.heap[b + 1]? = some (.cells A 48 (0, 0))
  s : w.heap[b + 2]? = some (.cells S 48 (0, 0))
  r : w.heap[b + 3]? = some (.cells R 46 (0, 0))
theorem RB.step {w0 : World} {b : Nat} {X A S R : Array Value} {w w' : World} (h : RB w0 b X A S R w) (hb : Below w.heap.size w w') : RB w0 b X A S R w' :=
  ⟨h.bl.trans (hb.mono h.bl.size), h.hb, Below.blk hb h.x (lt_of_block h.x), Below.blk hb h.a (lt_of_block h.a), Below.blk hb h.s (lt_of_block h.s), Below.blk hb h.r (lt_of_block h.r)⟩
theorem RB.drew {w0 : World} {b : Nat} {X A S R : Array Value} {w : World} (h : RB w0 b X A S R w) : RB w0 b X A S R w.drew := ⟨h.bl.drew, h.hb, h.x, h.a, h.s, h.r⟩
theorem RB.setX {w0 : World} {b : Nat} {X A S R : Array Value} {w : World} (h : RB w0 b X A S R w) (i : Nat) (v : Value) : RB w0 b (X.setIfInBounds i v) A S R (w.setCell ⟨b, i, none⟩ v) := by
  have hb := h.hb
  refine ⟨h.bl.setCell (by show _ ≤ b; exact hb) _, hb, set_blk _ h.x, ?_, ?_, ?_⟩
  · rw [set_blk_other _ (by show b + 1 ≠ b; omega)]; exact h.a
  · rw [set_blk_other _ (by show b + 2 ≠ b; omega)]; exact h.s
  · rw [set_blk_other _ (by show b + 3 ≠ b; omega)]; exact h.r
theorem RB.mk' (w : World) (X A S R : Array Value) : RB w w.heap.size X A S R ((((w.alloc (.cells X 46)).alloc (.cells A 48)).alloc (.cells S 48)).alloc (.cells R 46)) := by
  refine ⟨by (repeat (first | exact Below.refl _ _ | refine Below.alloc ?_ (by first | (simp; done) | (simp; omega) | (simp [size_drewN]; done) | (simp [size_drewN]; omega)) _ | refine Below.drew ?_ | refine below_drewN0 ?_ _ | refine Below.setCell ?_ (by first | (simp; done) | (simp; omega) | (simp [size_drewN]; done) | (simp [size_drewN]; omega)) _)), Nat.le_refl _, ?_, ?_, ?_, ?_⟩
  · rw [alloc_blk_old (by simp; omega), alloc_blk_old (by simp; omega), alloc_blk_old (by simp)]; exact alloc_blk_new
  · rw [alloc_blk_old (by simp), alloc_blk_old (by simp)]; exact (by simpa using alloc_blk_new (w := w.alloc (.cells X 46)) (o := .cells A 48))
  · rw [alloc_blk_old (by simp)]; exact (by simpa using alloc_blk_new (w := (w.alloc (.cells X 46)).alloc (.cells A 48)) (o := .cells S 48))
  · exact (by simpa using alloc_blk_new (w := ((w.alloc (.cells X 46)).alloc (.cells A 48)).alloc (.cells S 48)) (o := .cells R 46))
theorem RB.cells {w0 : World} {b : Nat} {A0 A1 A2 A3 S0 S1 S2 S3 : Value} {X R : Array Value} {w : World} (h : RB w0 b X #[A0, A1, A2, A3] #[S0, S1, S2, S3] R w) :
    (w.cell? ⟨b + 1, 0, none⟩ = some A0 ∧ w.cell? ⟨b + 1, 1, none⟩ = some A1 ∧ w.cell? ⟨b + 1, 2, none⟩ = some A2 ∧ w.cell? ⟨b + 1, 3, none⟩ = some A3) ∧ (w.cell? ⟨b + 1 + 1, 0, none⟩ = some S0 ∧ w.cell? ⟨b + 1 + 1, 1, none⟩ = some S1 ∧ w.cell? ⟨b + 1 + 1, 2, none⟩ = some S2 ∧ w.cell? ⟨b + 1 + 1, 3, none⟩ = some S3) :=
  ⟨⟨by rw [cell_blk h.a]; rfl, by rw [cell_blk h.a]; rfl, by rw [cell_blk h.a]; rfl, by rw [cell_blk h.a]; rfl⟩, by rw [cell_blk h.s]; rfl, by rw [cell_blk h.s]; rfl, by rw [cell_blk h.s]; rfl, by rw [cell_blk h.s]; rfl⟩
theorem RB.xs {w0 : World} {b : Nat} {A S R : Array Value} {X0 X1 X2 X3 X4 X5 X6 : Value} {w : World} (h : RB w0 b #[X0, X1, X2, X3, X4, X5, X6] A S R w) :
    w.cell? ⟨b, 0, none⟩ = some X0 ∧ w.cell? ⟨b, 1, none⟩ = some X1 ∧ w.cell? ⟨b, 2, none⟩ = some X2 ∧ w.cell? ⟨b, 3, none⟩ = some X3 ∧ w.cell? ⟨b, 4, none⟩ = some X4 ∧ w.cell? ⟨b, 5, none⟩ = some X5 ∧ w.cell? ⟨b, 6, none⟩ = some X6 :=
  ⟨by rw [cell_blk h.x]; rfl, by rw [cell_blk h.x]; rfl, by rw [cell_blk h.x]; rfl, by rw [cell_blk h.x]; rfl, by rw [cell_blk h.x]; rfl, by rw [cell_blk h.x]; rfl, by rw [cell_blk h.x]; rfl⟩
theorem RB.rs {w0 : World} {b : Nat} {A S X : Array Value} {X0 X1 X2 X3 X4 X5 X6 : Value} {w : World} (h : RB w0 b X A S #[X0, X1, X2, X3, X4, X5, X6] w) :
    w.cell? ⟨b + 1 + 1 + 1, 0, none⟩ = some X0 ∧ w.cell? ⟨b + 1 + 1 + 1, 1, none⟩ = some X1 ∧ w.cell? ⟨b + 1 + 1 + 1, 2, none⟩ = some X2 ∧ w.cell? ⟨b + 1 + 1 + 1, 3, none⟩ = some X3 ∧ w.cell? ⟨b + 1 + 1 + 1, 4, none⟩ = some X4 ∧ w.cell? ⟨b + 1 + 1 + 1, 5, none⟩ = some X5 ∧ w.cell? ⟨b + 1 + 1 + 1, 6, none⟩ = some X6 :=
  ⟨by rw [cell_blk h.r]; rfl, by rw [cell_blk h.r]; rfl, by rw [cell_blk h.r]; rfl, by rw [cell_blk h.r]; rfl, by rw [cell_blk h.r]; rfl, by rw [cell_blk h.r]; rfl, by rw [cell_blk h.r]; rfl⟩
theorem RB.free {w0 : World} {b : Nat} {X A S R : Array Value} {w : World} (h : RB w0 b X A S R w) : (∀ i, w.frozen? ⟨b, i, none⟩ = false) ∧ ∀ i, w.frozen? ⟨b + 1 + 1 + 1, i, none⟩ = false := ⟨fun i => free_blk h.x, fun i => free_blk h.r⟩

set_option maxHeartbeats 8000000 in
theorem report_any (s f l hh j t d ae ar ah be br bh : Int) (av bv : Bool) (w : World) (h1 : -1099511627776 ≤ ae ∧ ae ≤ 1099511627776) (h2 : -1099511627776 ≤ ar ∧ ar ≤ 1099511627776) (h3 : -1099511627776 ≤ be ∧ be ≤ 1099511627776) (h4 : -1099511627776 ≤ br ∧ br ≤ 1099511627776) :
    Calls Try.prog 24 #[.agg #[.int .u32 s, .int .u8 f, .int .i32 l, .int .u32 hh, .int .u32 j, .int .u32 t, .int .u32 d], .agg #[.int .i64 ae, .int .i64 ar, .int .i64 ah, .bool av], .agg #[.int .i64 be, .int .i64 br, .int .i64 bh, .bool bv]] w fun x w' => x = .returned (repV s (repF ae ar be br) (repL be br) (bh % 4294967296) j t d) ∧ Below w.heap.size w w' := by
  have La := Lib.hid (lost_any ae ar ah av · h1 h2)
  have Lb := Lib.hid (lost_any be br bh bv · h3 h4)
  go_enter Try.func24, Try.ntmps24
  go_wp2_with fail
  have R0 := RB.mk' w #[.int .u32 s, .int .u8 f, .int .i32 l, .int .u32 (bh % 4294967296), .int .u32 j, .int .u32 t, .int .u32 d] #[.int .i64 ae, .int .i64 ar, .int .i64 ah, .bool av] #[.int .i64 be, .int .i64 br, .int .i64 bh, .bool bv] #[.int .u32 0, .int .u8 0, .int .i32 0, .int .u32 0, .int .u32 0, .int .u32 0, .int .u32 0]
  generalize ((((w.alloc (.cells #[.int .u32 s, .int .u8 f, .int .i32 l, .int .u32 (bh % 4294967296), .int .u32 j, .int .u32 t, .int .u32 d] 46)).alloc (.cells #[.int .i64 ae, .int .i64 ar, .int .i64 ah, .bool av] 48)).alloc (.cells #[.int .i64 be, .int .i64 br, .int .i64 bh, .bool bv] 48)).alloc (.cells #[.int .u32 0, .int .u8 0, .int .i32 0, .int .u32 0, .int .u32 0, .int .u32 0, .int .u32 0] 46)) = W at R0 ⊢
  obtain ⟨b, hb⟩ : ∃ b, w.heap.size = b := ⟨_, rfl⟩
  have R0' := R0
  rw [hb] at R0' ⊢
  clear R0
  refine (Lb.out W).mono ?_
  rintro e w1 ⟨rfl, b1⟩
  have R1 := Lib.hid (R0'.step b1)
  clear R0' b1 hb
  obtain ⟨⟨c0, c1, c2, c3⟩, d0, d1, d2, d3⟩ := R1.out.cells
  obtain ⟨x0, x1, x2, x3, x4, x5, x6⟩ := R1.out.xs
  obtain ⟨f0, f1⟩ := R1.out.free
  go_wp2_with fail
  all_goals
    have hL : ∃ L, repL be br = L ∧ Hid (L = be - br ∨ L = 8388607 ∨ L = -8388608) := ⟨_, rfl, Lib.hid (by unfold repL; omega)⟩
    clear hL
    have RR : RB w b #[.int .u32 s, .int .u8 0, .int .i32 (repL be br), .int .u32 (bh % 4294967296), .int .u32 j, .int .u32 t, .int .u32 d] #[.int .i64 ae, .int .i64 ar, .int .i64 ah, .bool av] #[.int .i64 be, .int .i64 br, .int .i64 bh, .bool bv] #[.int .u32 0, .int .u8 0, .int .i32 0, .int .u32 0, .int .u32 0, .int .u32 0, .int .u32 0] _ := (R1.out.setX 2 (.int .i32 (repL be br))).setX 1 (.int .u8 0)
    obtain ⟨V, hV⟩ : ∃ V, V = (w1.setCell ⟨b, 2, none⟩ (.int .i32 (repL be br))).setCell ⟨b, 1, none⟩ (.int .u8 0) := ⟨_, rfl⟩
    rw [← hV] at RR
    first
      | rw [show repL be br = -8388608 by unfold repL; omega] at hV
      | rw [show repL be br = 8388607 by unfold repL; omega] at hV
      | rw [show repL be br = be - br by unfold repL; omega] at hV
    rw [← hV]
    clear hV x0 x1 x2 x3 x4 x5 x6 c0 c1 c2 c3 d0 d1 d2 d3 f0 f1 R1
    have RV := Lib.hid RR
    clear RR
    have hne : Nonempty { w' : World // Below V.heap.size V w' } := ⟨⟨V, Below.refl _ _⟩⟩
    have FA : ∀ y : { w' : World // Below V.heap.size V w' }, RB w b #[.int .u32 s, .int .u8 0, .int .i32 (repL be br), .int .u32 (bh % 4294967296), .int .u32 j, .int .u32 t, .int .u32 d] #[.int .i64 ae, .int .i64 ar, .int .i64 ah, .bool av] #[.int .i64 be, .int .i64 br, .int .i64 bh, .bool bv] #[.int .u32 0, .int .u8 0, .int .i32 0, .int .u32 0, .int .u32 0, .int .u32 0, .int .u32 0] y.1 := fun y => RV.out.step y.2
    have c0 := fun y => (FA y).cells.1.1
    have c1 := fun y => (FA y).cells.1.2.1
    have c2 := fun y => (FA y).cells.1.2.2.1
    have c3 := fun y => (FA y).cells.1.2.2.2
    have d0 := fun y => (FA y).cells.2.1
    have d1 := fun y => (FA y).cells.2.2.1
    have d2 := fun y => (FA y).cells.2.2.2.1
    have d3 := fun y => (FA y).cells.2.2.2.2
    clear FA
    refine MixC.wp_region_mix [6, 8] (Below V.heap.size V) (Below.refl _ _).drew (by kernel_rfl) (by kernel_rfl) (by kernel_rfl) ?_
    (iterate 6 (refine MixC.mix_read rfl (fun K hK => ?_); go_simp; refine hK _ ?_; clear hK K))
    refine MixC.mix_move rfl (fun K hK => ?_)
    go_simp
    refine (Lb.out _).mono ?_
    rintro e w2 ⟨rfl, b2⟩
    have B2 := Lib.hid ((Below.refl V.heap.size V).drew.trans (b2.mono (Nat.le_refl _)))
    refine ⟨_, rfl, B2.out, hK _ _ ?_⟩
    clear hK K b2
    (refine MixC.mix_read rfl (fun K hK => ?_); go_simp; refine hK _ ?_; clear hK K)
    refine MixC.mix_move rfl (fun K hK => ?_)
    go_simp
    refine (La.out _).mono ?_
    rintro e w3 ⟨rfl, b3⟩
    have B3 := Lib.hid (B2.out.trans (b3.mono B2.out.size))
    refine ⟨_, rfl, B3.out, hK _ _ ?_⟩
    clear hK K b3
    (iterate 3 (refine MixC.mix_read rfl (fun K hK => ?_); go_simp; refine hK _ ?_; clear hK K))
    refine MixC.mix_nil ?_
    change Exit.then _ _ _ _ w3
    have R3 := Lib.hid (RV.out.step B3.out)
    clear c0 c1 c2 c3 d0 d1 d2 d3
    obtain ⟨x0, x1, x2, x3, x4, x5, x6⟩ := R3.out.xs
    obtain ⟨f0, f1⟩ := R3.out.free
    obtain ⟨r0, r1, r2, r3, r4, r5, r6⟩ := R3.out.rs
    obtain ⟨SN, hSN⟩ : ∃ SN, SN = be - ae := ⟨_, rfl⟩
    obtain ⟨GN, hGN⟩ : ∃ GN, GN = (be - br) - (ae - ar) := ⟨_, rfl⟩
    by_cases hF : 0 < be - ae ∧ 0 < (be - br) - (ae - ar)
    · go_wp2_with fail
      all_goals
        refine bodyPost_ret (by simp [results, Try.results24, go_sem, r0, r1, r2, r3, r4, r5, r6]; try rfl) rfl ?_
        have b9 := R3.out.hb
        have B9 := R3.out.bl
        refine ⟨?_, ?_⟩
        · first
            | (rw [repF_lo hF (by assumption)]; rfl)
            | (rw [repF_hi hF (by assumption)]; rfl)
        · (iterate 7 (refine Below.setCell ?_ (by show _ ≤ b + 1 + 1 + 1; omega) _))
          exact Below.setCell B9 (by show _ ≤ b; omega) _
    · go_wp2_with fail
      all_goals
        refine bodyPost_ret (by simp [results, Try.results24, go_sem, r0, r1, r2, r3, r4, r5, r6]; try rfl) rfl ?_
        have b9 := R3.out.hb
        have B9 := R3.out.bl
        refine ⟨?_, ?_⟩
        · rw [repF_no hF]; rfl
        · (iterate 7 (refine Below.setCell ?_ (by show _ ≤ b + 1 + 1 + 1; omega) _))
          exact B9
end Go.Proofs.Ytdmbdageohjodaa
