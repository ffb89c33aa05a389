/-
  Chapter 44: the closures; Conflicts where nothing is old.
-/
import Derived.Test.YtkoplofcjbeicaaCoD
import Derived.Test.YtkoplofcjbeicaaCoL
import Derived.Test.YtkoplofcjbeicaaCoM
namespace Go.Proofs.Ytkoplofcjbeicaa
open Go.RowKit
set_option linter.unusedVariables false
set_option linter.unusedSimpArgs false
attribute [local irreducible] wpStill wpQuiet MixC.wpMix

theorem BK.look1 {B g ms mc N : Nat} {own kp : Int} {S : Int → Option Value} {ns : Nat} {C : Plc → Option Value} {nc : Nat} {w : World} (h : BK B g ms mc N own kp S ns C nc w) (x : Plc) (hx : plok x) {v : Value} (hv : C x = some v) :
    (Instr.lookup 113 (.map (some mc)) (.agg #[.int .u32 x.1, .int .u16 x.2]) false).run Try.prog w = .ok v w := by
  have := h.con.look1 (t := 113) Try.underlying113 (zero_tk w) x hx
  rw [hv] at this
  exact this
set_option maxRecDepth 100000 in
set_option maxHeartbeats 4000000 in
theorem conf1 (B g ms mc N : Nat) (own kp : Int) (S : Int → Option Value) (ns : Nat) (C : Plc → Option Value) (nc : Nat) (w : World) (h : BK B g ms mc N own kp S ns C nc w) (pb pt : Nat) (tick t : Int) (p : Plc) (hp : plok p) (hC : C p = some (.int .i64 t)) (ht : -1000 ≤ t ∧ t ≤ 1000) (hk : -1000 ≤ tick ∧ tick ≤ 1000)
    (h1 : w.heap[pb]? = some (.cells #[.pointer (some ⟨g, 0, none⟩)] 65 (0, 0))) (h2 : w.heap[pt]? = some (.cells #[.int .i64 tick] 2 (0, 0))) :
    Calls Try.prog 69 (#[.agg #[.int .u32 p.1, .int .u16 p.2]] ++ #[.pointer (some ⟨pb, 0, none⟩), .pointer (some ⟨pt, 0, none⟩)]) w fun e w' => e = .returned (.bool (decide (kp < tick - t))) ∧ Below w.heap.size w w' := by
  obtain ⟨p1, p2⟩ := p
  show Calls Try.prog 69 #[.agg #[.int .u32 p1, .int .u16 p2], .pointer (some ⟨pb, 0, none⟩), .pointer (some ⟨pt, 0, none⟩)] w _
  obtain ⟨V, hV⟩ : ∃ V, w.alloc (.cells #[.int .u32 p1, .int .u16 p2] 43) = V := ⟨_, rfl⟩
  have bV : Below w.heap.size w V := by rw [← hV]; exact (Below.refl _ _).alloc (Nat.le_refl _) _
  have g3 : V.heap[w.heap.size]? = some (.cells #[.int .u32 p1, .int .u16 p2] 43 (0, 0)) := by rw [← hV]; exact alloc_blk_new
  have HVd := (h.keep bV).keep (w' := V.drew) (Below.refl _ _).drew
  have hlk := HVd.look1 (p1, p2) hp hC
  have c3 : V.cell? ⟨g, 3, none⟩ = some (.map (some mc)) := cell_blk (h.keep bV).blk
  have e1 : V.cell? ⟨pb, 0, none⟩ = some (.pointer (some ⟨g, 0, none⟩)) := cell_blk (Below.blk bV h1 (lt_of_block h1))
  have e2 : V.cell? ⟨pt, 0, none⟩ = some (.int .i64 tick) := cell_blk (Below.blk bV h2 (lt_of_block h2))
  have x0 : V.cell? ⟨w.heap.size, 0, none⟩ = some (.int .u32 p1) := cell_blk g3
  have x1 : V.cell? ⟨w.heap.size, 1, none⟩ = some (.int .u16 p2) := cell_blk g3
  have HO := Lib.hid ((old_any B g ms mc N own kp S ns C nc V.drew HVd t tick ht hk).mono (fun e w' h => (⟨h.1, h.2.symm⟩ : e = .returned (.bool (decide (kp < tick - t))) ∧ w' = V.drew)))
  have HVe := Lib.hid hV
  have BV := Lib.hid bV
  clear h hC h1 h2 hV bV g3 HVd
  generalize decide (kp < tick - t) = z at *
  go_enter Try.func69, Try.ntmps69
  go_wp2_with fail
  rw [HVe.out]
  refine wp_region_still_lit (by kernel_rfl) (by kernel_rfl) ?_
  iterate 8 still_step
  still_call HO.out
  still_step
  refine wpStill_nil ?_
  change Exit.then _ _ _ _ V.drew
  go_wp2_with fail
  go_ret
  exact ⟨rfl, BV.out.drew⟩
set_option maxRecDepth 100000 in
set_option maxHeartbeats 4000000 in
theorem mine1 (pf : Nat) (p q : Plc) (w : World) (h : w.heap[pf]? = some (.cells #[.int .u32 q.1, .int .u16 q.2] 43 (0, 0))) :
    Calls Try.prog 82 (#[.agg #[.int .u32 p.1, .int .u16 p.2]] ++ #[.pointer (some ⟨pf, 0, none⟩)]) w fun e w' => e = .returned (.bool (decide (p = q))) ∧ Below w.heap.size w w' := by
  have heq := eqin_plc p q
  obtain ⟨p1, p2⟩ := p
  obtain ⟨q1, q2⟩ := q
  show Calls Try.prog 82 #[.agg #[.int .u32 p1, .int .u16 p2], .pointer (some ⟨pf, 0, none⟩)] w _
  have c0 : w.cell? ⟨pf, 0, none⟩ = some (.int .u32 q1) := cell_blk h
  have c1 : w.cell? ⟨pf, 1, none⟩ = some (.int .u16 q2) := cell_blk h
  have hl := lt_of_block h
  have hne : w.heap.size ≠ pf := by omega
  generalize decide (((p1, p2) : Plc) = (q1, q2)) = z at *
  clear h
  go_enter Try.func82, Try.ntmps82
  go_wp2_with fail
  go_ret
  exact ⟨rfl, (Below.refl _ _).alloc (Nat.le_refl _) _⟩
set_option maxRecDepth 100000 in
set_option maxHeartbeats 4000000 in
theorem mine2 (B g ms mc N : Nat) (own kp : Int) (S : Int → Option Value) (ns : Nat) (C : Plc → Option Value) (nc : Nat) (w : World) (h : BK B g ms mc N own kp S ns C nc w) (pb : Nat) (s t : Int) (p q : Plc) (hp : plok p) (hq : plok q) (hC : C p = some (.int .i64 s)) (hD : C q = some (.int .i64 t))
    (h1 : w.heap[pb]? = some (.cells #[.pointer (some ⟨g, 0, none⟩)] 65 (0, 0))) :
    Calls Try.prog 84 (#[.agg #[.int .u32 p.1, .int .u16 p.2], .agg #[.int .u32 q.1, .int .u16 q.2]] ++ #[.pointer (some ⟨pb, 0, none⟩)]) w fun e w' => e = .returned (.int .i64 (cmpI s t)) ∧ Below w.heap.size w w' := by
  obtain ⟨p1, p2⟩ := p
  obtain ⟨q1, q2⟩ := q
  show Calls Try.prog 84 #[.agg #[.int .u32 p1, .int .u16 p2], .agg #[.int .u32 q1, .int .u16 q2], .pointer (some ⟨pb, 0, none⟩)] w _
  obtain ⟨V, hV⟩ : ∃ V, (w.alloc (.cells #[.int .u32 p1, .int .u16 p2] 43)).alloc (.cells #[.int .u32 q1, .int .u16 q2] 43) = V := ⟨_, rfl⟩
  have bV : Below w.heap.size w V := by rw [← hV]; exact ((Below.refl _ _).alloc (Nat.le_refl _) _).alloc (by simp) _
  have g1 : V.heap[w.heap.size]? = some (.cells #[.int .u32 p1, .int .u16 p2] 43 (0, 0)) := by rw [← hV, alloc_blk_old (by simp)]; exact alloc_blk_new
  have g2 : V.heap[w.heap.size + 1]? = some (.cells #[.int .u32 q1, .int .u16 q2] 43 (0, 0)) := by
    rw [← hV]
    have h := alloc_blk_new (w := w.alloc (.cells #[.int .u32 p1, .int .u16 p2] 43)) (o := .cells #[.int .u32 q1, .int .u16 q2] 43)
    rw [show (w.alloc (.cells #[.int .u32 p1, .int .u16 p2] 43)).heap.size = w.heap.size + 1 by simp] at h
    exact h
  have HVd := (h.keep bV).keep (w' := V.drew) (Below.refl _ _).drew
  have hlk := HVd.look1 (p1, p2) hp hC
  have hlk2 := HVd.look1 (q1, q2) hq hD
  have c3 : V.cell? ⟨g, 3, none⟩ = some (.map (some mc)) := cell_blk (h.keep bV).blk
  have e1 : V.cell? ⟨pb, 0, none⟩ = some (.pointer (some ⟨g, 0, none⟩)) := cell_blk (Below.blk bV h1 (lt_of_block h1))
  have x0 : V.cell? ⟨w.heap.size, 0, none⟩ = some (.int .u32 p1) := cell_blk g1
  have x1 : V.cell? ⟨w.heap.size, 1, none⟩ = some (.int .u16 p2) := cell_blk g1
  have y0 : V.cell? ⟨w.heap.size + 1, 0, none⟩ = some (.int .u32 q1) := cell_blk g2
  have y1 : V.cell? ⟨w.heap.size + 1, 1, none⟩ = some (.int .u16 q2) := cell_blk g2
  have HO := Lib.hid (cmp64 s t V.drew)
  have HVe := Lib.hid hV
  have BV := Lib.hid bV
  clear h hC hD h1 hV bV g1 g2 HVd
  generalize cmpI s t = z at *
  go_enter Try.func84, Try.ntmps84
  go_wp2_with fail
  rw [HVe.out]
  refine wp_region_still_lit (by kernel_rfl) (by kernel_rfl) ?_
  iterate 12 still_step
  still_call HO.out
  still_step
  refine wpStill_nil ?_
  change Exit.then _ _ _ _ V.drew
  go_wp2_with fail
  go_ret
  exact ⟨rfl, BV.out.drew⟩
end Go.Proofs.Ytkoplofcjbeicaa
