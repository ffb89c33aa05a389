/-
  Chapter 44: the document's example.
-/
import Derived.Test.YtkoplofcjbeicaaCoE
namespace Go.Proofs.Ytkoplofcjbeicaa
open Go.RowKit
set_option linter.unusedVariables false
set_option linter.unusedSimpArgs false
attribute [local irreducible] wpStill wpQuiet MixC.wpMix

theorem fresh_nil (kp tick : Int) : Fresh kp tick (fun _ => none) := fun x v _ h => by cases h
theorem fresh_set {kp tick t : Int} {C : Plc → Option Value} (h : Fresh kp tick C) (p : Plc) (h1 : -1000 ≤ t) (h2 : t ≤ 1000) (h3 : ¬ kp < tick - t) : Fresh kp tick (setAt C p (some (.int .i64 t))) := fun x v hx hv => by
  unfold setAt at hv
  by_cases e : x = p
  · rw [if_pos e] at hv; injection hv with hv; exact ⟨t, hv.symm, h1, h2, h3⟩
  · rw [if_neg e] at hv; exact h x v hx hv
theorem setAt_same {α : Type} [DecidableEq α] (f : α → Option Value) (x : α) (v : Option Value) : setAt f x v x = v := by unfold setAt; rw [if_pos rfl]
/-- two places in boxes -/
structure Bx (p q ms mc : Nat) (x y : Plc) (w : World) : Prop where
  a : w.heap[p]? = some (.cells #[.int .u32 x.1, .int .u16 x.2] 43 (0, 0))
  b : w.heap[q]? = some (.cells #[.int .u32 y.1, .int .u16 y.2] 43 (0, 0))
  n1 : p ≠ ms
  n2 : p ≠ mc
  n3 : q ≠ ms
  n4 : q ≠ mc
theorem Bx.kq {p q ms mc : Nat} {x y : Plc} {w w' : World} (h : Bx p q ms mc x y w) (k : Kq ms mc w w') : Bx p q ms mc x y w' :=
  ⟨(k.block _ (lt_of_block h.a) h.n1 h.n2).trans h.a, (k.block _ (lt_of_block h.b) h.n3 h.n4).trans h.b, h.n1, h.n2, h.n3, h.n4⟩
theorem Bx.a0 {p q ms mc : Nat} {x y : Plc} {w : World} (h : Bx p q ms mc x y w) : w.cell? ⟨p, 0, none⟩ = some (.int .u32 x.1) := cell_blk h.a
theorem Bx.a1 {p q ms mc : Nat} {x y : Plc} {w : World} (h : Bx p q ms mc x y w) : w.cell? ⟨p, 1, none⟩ = some (.int .u16 x.2) := cell_blk h.a
theorem Bx.b0 {p q ms mc : Nat} {x y : Plc} {w : World} (h : Bx p q ms mc x y w) : w.cell? ⟨q, 0, none⟩ = some (.int .u32 y.1) := cell_blk h.b
theorem Bx.b1 {p q ms mc : Nat} {x y : Plc} {w : World} (h : Bx p q ms mc x y w) : w.cell? ⟨q, 1, none⟩ = some (.int .u16 y.2) := cell_blk h.b
theorem bx_new (w : World) (ms mc : Nat) (x y : Plc) (h1 : ms < w.heap.size) (h2 : mc < w.heap.size) : Bx w.heap.size (w.heap.size + 1) ms mc x y ((w.alloc (.cells #[.int .u32 x.1, .int .u16 x.2] 43)).alloc (.cells #[.int .u32 y.1, .int .u16 y.2] 43)) := by
  refine ⟨?_, ?_, by omega, by omega, by omega, by omega⟩
  · rw [alloc_blk_old (by simp)]; exact alloc_blk_new
  · have h := alloc_blk_new (w := w.alloc (.cells #[.int .u32 x.1, .int .u16 x.2] 43)) (o := .cells #[.int .u32 y.1, .int .u16 y.2] 43)
    rw [show (w.alloc (.cells #[.int .u32 x.1, .int .u16 x.2] 43)).heap.size = w.heap.size + 1 by simp] at h
    exact h
set_option maxRecDepth 100000 in
set_option maxHeartbeats 4000000 in
theorem alive44 (w : World) : Calls Try.prog 34 #[] w fun e w' => e = .returned (.bool true) ∧ Below w.heap.size w w' := by
  go_enter Try.func34, Try.ntmps34
  go_wp2_with fail
  refine (new_book 9 5 5 w (.inl ⟨by omega, rfl⟩)).mono ?_
  rintro e w1 ⟨rfl, hb, b1⟩
  obtain ⟨g, hg⟩ : ∃ g, g = w.heap.size + 1 + 1 := ⟨_, rfl⟩
  obtain ⟨mc, hmc⟩ : ∃ mc, mc = w.heap.size + 1 := ⟨_, rfl⟩
  obtain ⟨ms, hms⟩ : ∃ ms, ms = w.heap.size := ⟨_, rfl⟩
  have hb' : BK w.heap.size g ms mc 0 9 5 (fun _ => none) 0 (fun _ => none) 0 w1 := by rw [hg, hmc, hms]; exact hb
  rw [← hg]
  have HB := Lib.hid hb'
  have B1 := Lib.hid b1
  have L1 : Hid (mc < w1.heap.size ∧ ms < w1.heap.size ∧ w.heap.size ≤ mc ∧ w.heap.size ≤ ms) := Lib.hid ⟨hb'.con.lt, hb'.src.lt, by omega, by omega⟩
  clear hb hb' b1 hg hmc hms
  go_wp2_with fail
  generalize hV : World.alloc (World.alloc _ _) _ = V0
  have bV : Below w1.heap.size w1 V0 := by rw [← hV]; exact ((Below.refl _ _).alloc (Nat.le_refl _) _).alloc (by simp) _
  have hx : Bx w1.heap.size (w1.heap.size + 1) ms mc (1, 0) (2, 0) V0 := by rw [← hV]; exact bx_new w1 ms mc (1, 0) (2, 0) L1.out.2.1 L1.out.1
  obtain ⟨p, hp⟩ : ∃ p, p = w1.heap.size := ⟨_, rfl⟩
  rw [← hp] at hx ⊢
  have HB0 := Lib.hid (HB.out.keep bV)
  have B0 := Lib.hid (B1.out.trans (bV.mono B1.out.size))
  have HX0 := Lib.hid hx
  clear hV bV hx hp HB B1
  have z0 := HX0.out.a0
  have z1 := HX0.out.a1
  refine (take_src w.heap.size g ms mc 0 9 5 (fun _ => none) 0 (fun _ => none) 0 _ HB0.out (by omega) 7 (1, 0) 0 (by omega) (fresh_nil 5 0) (by omega) (by decide) 0 (setAt (fun _ => none) 7 (some (pv (1, 0) 0))) 1 (.new rfl (by omega))).mono ?_
  rintro e V1 ⟨rfl, hb, kq⟩
  have HB1 := Lib.hid hb
  have HX1 := Lib.hid (HX0.out.kq kq)
  have B1 := Lib.hid (B0.out.trans (kq.below L1.out.2.2.2 L1.out.2.2.1 HB0.out.size))
  clear z0 z1 hb kq
  have z0 := HX1.out.a0
  have z1 := HX1.out.a1
  go_wp2_with fail
  refine (take_src w.heap.size g ms mc 1 9 5 (setAt (fun _ => none) 7 (some (pv (1, 0) 0))) 1 (fun _ => none) 0 _ HB1.out (by omega) 7 (1, 0) 0 (by omega) (fresh_nil 5 0) (by omega) (by decide) 1 (setAt (setAt (fun _ => none) 7 (some (pv (1, 0) 0))) 7 (some (pv (1, 0) 0))) 1 (.same ⟨0, setAt_same _ _ _⟩)).mono ?_
  rintro e V2 ⟨rfl, hb, kq⟩
  have HB2 := Lib.hid hb
  have HX2 := Lib.hid (HX1.out.kq kq)
  have B2 := Lib.hid (B1.out.trans (kq.below L1.out.2.2.2 L1.out.2.2.1 HB1.out.size))
  clear z0 z1 hb kq
  have z0 := HX2.out.b0
  have z1 := HX2.out.b1
  go_wp2_with fail
  refine (take_src w.heap.size g ms mc 2 9 5 (setAt (setAt (fun _ => none) 7 (some (pv (1, 0) 0))) 7 (some (pv (1, 0) 0))) 1 (fun _ => none) 0 _ HB2.out (by omega) 7 (2, 0) 0 (by omega) (fresh_nil 5 0) (by omega) (by decide) 5 (setAt (setAt (fun _ => none) 7 (some (pv (1, 0) 0))) 7 (some (pv (1, 0) 0))) 1 (.coll ⟨(1, 0), 0, setAt_same _ _ _, by decide, by omega, by omega, by omega⟩)).mono ?_
  rintro e V3 ⟨rfl, hb, kq⟩
  have HB3 := Lib.hid hb
  have HX3 := Lib.hid (HX2.out.kq kq)
  have B3 := Lib.hid (B2.out.trans (kq.below L1.out.2.2.2 L1.out.2.2.1 HB2.out.size))
  clear z0 z1 hb kq
  have z0 := HX3.out.a0
  have z1 := HX3.out.a1
  go_wp2_with fail
  refine (take_own w.heap.size g ms mc 3 9 5 (setAt (setAt (fun _ => none) 7 (some (pv (1, 0) 0))) 7 (some (pv (1, 0) 0))) 1 (fun _ => none) 0 _ HB3.out (1, 0) 0 (by omega) (fresh_nil 5 0) 4 (setAt (fun _ => none) (1, 0) (some (.int .i64 0))) 1 3 (fun w1 h => mine_room w.heap.size g ms mc 3 9 5 (setAt (setAt (fun _ => none) 7 (some (pv (1, 0) 0))) 7 (some (pv (1, 0) 0))) 1 (fun _ => none) 0 w1 h (by omega) (1, 0) ⟨by decide, by decide⟩ 0 (by omega))).mono ?_
  rintro e V4 ⟨rfl, hb, kq⟩
  have HB4 := Lib.hid hb
  have HX4 := Lib.hid (HX3.out.kq kq)
  have B4 := Lib.hid (B3.out.trans (kq.below L1.out.2.2.2 L1.out.2.2.1 HB3.out.size))
  clear z0 z1 hb kq
  have z0 := HX4.out.a0
  have z1 := HX4.out.a1
  go_wp2_with fail
  refine (take_own w.heap.size g ms mc 4 9 5 (setAt (setAt (fun _ => none) 7 (some (pv (1, 0) 0))) 7 (some (pv (1, 0) 0))) 1 (setAt (fun _ => none) (1, 0) (some (.int .i64 0))) 1 _ HB4.out (1, 0) 0 (by omega) (fresh_set (fresh_nil 5 0) (1, 0) (by omega) (by omega) (by omega)) 5 (setAt (setAt (fun _ => none) (1, 0) (some (.int .i64 0))) (1, 0) (some (.int .i64 0))) 1 2 (fun w1 h => mine_room w.heap.size g ms mc 4 9 5 (setAt (setAt (fun _ => none) 7 (some (pv (1, 0) 0))) 7 (some (pv (1, 0) 0))) 1 (setAt (fun _ => none) (1, 0) (some (.int .i64 0))) 1 w1 h (by omega) (1, 0) ⟨by decide, by decide⟩ 0 (by omega))).mono ?_
  rintro e V5 ⟨rfl, hb, kq⟩
  have HB5 := Lib.hid hb
  have HX5 := Lib.hid (HX4.out.kq kq)
  have B5 := Lib.hid (B4.out.trans (kq.below L1.out.2.2.2 L1.out.2.2.1 HB4.out.size))
  clear z0 z1 hb kq
  go_wp2_with fail
  go_ret
  exact ⟨rfl, B5.out⟩
end Go.Proofs.Ytkoplofcjbeicaa
