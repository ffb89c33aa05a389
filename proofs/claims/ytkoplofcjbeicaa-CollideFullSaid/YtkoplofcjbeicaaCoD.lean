/-
  Chapter 44: a packet of its own number, where there is room.
-/
import Derived.Test.YtkoplofcjbeicaaCoC
namespace Go.Proofs.Ytkoplofcjbeicaa
open Go.RowKit
set_option linter.unusedVariables false
set_option linter.unusedSimpArgs false
attribute [local irreducible] wpStill wpQuiet MixC.wpMix

theorem BK.look {B g ms mc N : Nat} {own kp : Int} {S : Int → Option Value} {ns : Nat} {C : Plc → Option Value} {nc : Nat} {w : World} (h : BK B g ms mc N own kp S ns C nc w) (x : Plc) (hx : plok x) :
    (Instr.lookup 113 (.map (some mc)) (.agg #[.int .u32 x.1, .int .u16 x.2]) true).run Try.prog w = .ok (.tuple #[(C x).getD (.int .i64 0), .bool (C x).isSome]) w :=
  h.con.look (t := 113) Try.underlying113 (zero_tk w) x hx
set_option maxRecDepth 100000 in
set_option maxHeartbeats 8000000 in
theorem mine_room (B g ms mc N : Nat) (own kp : Int) (S : Int → Option Value) (ns : Nat) (C : Plc → Option Value) (nc : Nat) (w : World) (h : BK B g ms mc N own kp S ns C nc w) (hN : N < 10000) (p : Plc) (hp : plok p) (tick : Int) (hnc : nc ≤ 15) :
    Calls Try.prog 65 #[.pointer (some ⟨g, 0, none⟩), .agg #[.int .u32 p.1, .int .u16 p.2], .int .i64 tick] w (TkP B g ms mc (N + 1) own kp S ns (setAt C p (some (.int .i64 tick))) (if (C p).isSome then nc else nc + 1) (if (C p).isSome then 2 else 3) w) := by
  obtain ⟨p1, p2⟩ := p
  obtain ⟨V, hV⟩ : ∃ V, (w.alloc (.cells #[.pointer (some ⟨g, 0, none⟩)] 65)).alloc (.cells #[.int .u32 p1, .int .u16 p2] 43) = V := ⟨_, rfl⟩
  have bV : Below w.heap.size w V := by rw [← hV]; exact ((Below.refl _ _).alloc (Nat.le_refl _) _).alloc (by simp) _
  have g1 : V.heap[w.heap.size]? = some (.cells #[.pointer (some ⟨g, 0, none⟩)] 65 (0, 0)) := by rw [← hV, alloc_blk_old (by simp)]; exact alloc_blk_new
  have g2 : V.heap[w.heap.size + 1]? = some (.cells #[.int .u32 p1, .int .u16 p2] 43 (0, 0)) := by
    rw [← hV]
    have h := alloc_blk_new (w := w.alloc (.cells #[.pointer (some ⟨g, 0, none⟩)] 65)) (o := .cells #[.int .u32 p1, .int .u16 p2] 43)
    rw [show (w.alloc (.cells #[.pointer (some ⟨g, 0, none⟩)] 65)).heap.size = w.heap.size + 1 by simp] at h
    exact h
  have HV := h.keep bV
  obtain ⟨V1, hV1⟩ : ∃ V1, V.drew = V1 := ⟨_, rfl⟩
  have bV1 : Below V.heap.size V V1 := by rw [← hV1]; exact (Below.refl _ _).drew
  have HV1 := HV.keep bV1
  have hlk := HV1.look (p1, p2) hp
  have hlkV := (HV.keep (w' := V.drew) (Below.refl _ _).drew).look (p1, p2) hp
  obtain ⟨v0, hv0⟩ : ∃ v, (C (p1, p2)).getD (.int .i64 0) = v := ⟨_, rfl⟩
  obtain ⟨th, hth⟩ : ∃ v, (C (p1, p2)).isSome = v := ⟨_, rfl⟩
  rw [hv0, hth] at hlk hlkV
  have HV2 := HV1.keep (w' := V1.drew) (Below.refl _ _).drew
  obtain ⟨W5, hst, h5, b5, k5⟩ := HV2.con_set (by omega) (p1, p2) hp (.int .i64 tick)
  rw [hth] at h5 ⊢
  have t6 : decide ((16 : Int) < ((nc + 1 : Nat) : Int)) = false := by simp; omega
  have t6' : decide ((16 : Int) < (nc : Int) + 1) = false := by simp; omega
  cases th
  · simp only [if_true, Bool.false_eq_true, if_false] at h5 ⊢
    have H5 := Lib.hid h5
    have B5 : Hid (Kq ms mc w W5) := Lib.hid ((((Kq.bl bV).trans (Kq.bl bV1)).trans (Kq.bl (Below.refl _ _).drew)).trans (Kq.rk k5))
    have HVe := Lib.hid hV
    have HV1e := Lib.hid hV1
    have HST := Lib.hid hst
    have k1 : V1.heap[w.heap.size]? = _ := Below.blk bV1 g1 (lt_of_block g1)
    have k2 : V1.heap[w.heap.size + 1]? = _ := Below.blk bV1 g2 (lt_of_block g2)
    have c3 : V1.cell? ⟨g, 3, none⟩ = some (.map (some mc)) := cell_blk HV1.blk
    have d3 : V.cell? ⟨g, 3, none⟩ = some (.map (some mc)) := cell_blk HV.blk
    have e0 : V.cell? ⟨w.heap.size, 0, none⟩ = some (.pointer (some ⟨g, 0, none⟩)) := cell_blk g1
    have e1 : V.cell? ⟨w.heap.size + 1, 0, none⟩ = some (.int .u32 p1) := cell_blk g2
    have e2 : V.cell? ⟨w.heap.size + 1, 1, none⟩ = some (.int .u16 p2) := cell_blk g2
    have f0 : V1.cell? ⟨w.heap.size, 0, none⟩ = some (.pointer (some ⟨g, 0, none⟩)) := cell_blk k1
    have f1 : V1.cell? ⟨w.heap.size + 1, 0, none⟩ = some (.int .u32 p1) := cell_blk k2
    have f2 : V1.cell? ⟨w.heap.size + 1, 1, none⟩ = some (.int .u16 p2) := cell_blk k2
    have c35 : W5.cell? ⟨g, 3, none⟩ = some (.map (some mc)) := cell_blk h5.blk
    have hmc := h.con.lt
    have b15 : W5.cell? ⟨w.heap.size, 0, none⟩ = some (.pointer (some ⟨g, 0, none⟩)) := cell_blk ((k5.block _ (lt_of_block k1) (by omega)).trans k1)
    have hlen := fun ty => h5.con.len (t := 113) Try.underlying113 ty
    clear hV hV1 hst h HV g1 k5 g2 k1 k2 HV1 HV2 h5 b5 bV bV1 hv0
    go_enter Try.func65, Try.ntmps65
    go_wp2_with fail
    rw [HVe.out]
    refine wp_region_still_lit (by kernel_rfl) (by kernel_rfl) ?_
    iterate 11 still_step
    refine wpStill_nil ?_
    change Exit.then _ _ _ _ V.drew
    rw [HV1e.out]
    clear d3 e0 e1 e2 hlk hlkV
    go_wp2_with fail
    have hst := HST.out
    go_still_tail 6, (by kernel_rfl)
    change wpList _ _ _ _ _ V1.drew
    go_wp2_with fail
    go_ret
    exact ⟨rfl, H5.out, B5.out⟩
  · simp only [if_true, Bool.false_eq_true, if_false] at h5 ⊢
    have H5 := Lib.hid h5
    have B5 : Hid (Kq ms mc w W5) := Lib.hid ((((Kq.bl bV).trans (Kq.bl bV1)).trans (Kq.bl (Below.refl _ _).drew)).trans (Kq.rk k5))
    have HVe := Lib.hid hV
    have HV1e := Lib.hid hV1
    have HST := Lib.hid hst
    have k1 : V1.heap[w.heap.size]? = _ := Below.blk bV1 g1 (lt_of_block g1)
    have k2 : V1.heap[w.heap.size + 1]? = _ := Below.blk bV1 g2 (lt_of_block g2)
    have c3 : V1.cell? ⟨g, 3, none⟩ = some (.map (some mc)) := cell_blk HV1.blk
    have d3 : V.cell? ⟨g, 3, none⟩ = some (.map (some mc)) := cell_blk HV.blk
    have e0 : V.cell? ⟨w.heap.size, 0, none⟩ = some (.pointer (some ⟨g, 0, none⟩)) := cell_blk g1
    have e1 : V.cell? ⟨w.heap.size + 1, 0, none⟩ = some (.int .u32 p1) := cell_blk g2
    have e2 : V.cell? ⟨w.heap.size + 1, 1, none⟩ = some (.int .u16 p2) := cell_blk g2
    have f0 : V1.cell? ⟨w.heap.size, 0, none⟩ = some (.pointer (some ⟨g, 0, none⟩)) := cell_blk k1
    have f1 : V1.cell? ⟨w.heap.size + 1, 0, none⟩ = some (.int .u32 p1) := cell_blk k2
    have f2 : V1.cell? ⟨w.heap.size + 1, 1, none⟩ = some (.int .u16 p2) := cell_blk k2
    have c35 : W5.cell? ⟨g, 3, none⟩ = some (.map (some mc)) := cell_blk h5.blk
    have hmc := h.con.lt
    have b15 : W5.cell? ⟨w.heap.size, 0, none⟩ = some (.pointer (some ⟨g, 0, none⟩)) := cell_blk ((k5.block _ (lt_of_block k1) (by omega)).trans k1)
    have hlen := fun ty => h5.con.len (t := 113) Try.underlying113 ty
    clear hV hV1 hst h HV g1 k5 g2 k1 k2 HV1 HV2 h5 b5 bV bV1 hv0
    go_enter Try.func65, Try.ntmps65
    go_wp2_with fail
    rw [HVe.out]
    refine wp_region_still_lit (by kernel_rfl) (by kernel_rfl) ?_
    iterate 11 still_step
    refine wpStill_nil ?_
    change Exit.then _ _ _ _ V.drew
    rw [HV1e.out]
    clear d3 e0 e1 e2 hlk hlkV
    go_wp2_with fail
    have hst := HST.out
    go_still_tail 6, (by kernel_rfl)
    change wpList _ _ _ _ _ V1.drew
    go_wp2_with fail
    go_ret
    exact ⟨rfl, H5.out, B5.out⟩
end Go.Proofs.Ytkoplofcjbeicaa
