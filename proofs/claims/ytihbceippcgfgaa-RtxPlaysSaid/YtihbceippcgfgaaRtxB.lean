/-
  Chapter 34: a packet is taken back.
-/
import Derived.Test.YtihbceippcgfgaaRtxT
import Derived.Test.YtihbceippcgfgaaRtxU
import Derived.Test.YtihbceippcgfgaaSame10
namespace Go.Proofs.Ytihbceippcgfgaa
open Go.RowKit
set_option linter.unusedVariables false
set_option linter.unusedSimpArgs false
attribute [local irreducible] wpStill wpQuiet

set_option maxRecDepth 100000 in
set_option maxHeartbeats 4000000 in
theorem back_none (B : Nat) (w : World) (m : Bool) (ty sq st src : Int) (oa : Option Addr) (on oc : Nat) (ex : Bool) (pr : Int) (xa : Option Addr) (xn xc : Nat) (a : Option Addr) (n c : Nat) (Z : Nat → Int) (pd : Int) (g bp bf np : Nat) (F1 : Int → Option Value) (f2 : Int → Option Int) (s1 s2 : Nat) (ty' : Int)  (hT : Tab w g bp bf np F1 (firstOf f2) s1 s2) (hsrc : (Lit.int .u32 src).wf = true) (hf : f2 src = none) :
    Calls Try.prog 34 #[.pointer (some ⟨g, 0, none⟩), .agg #[(.bool m), (.int .u8 ty), (.int .u16 sq), (.int .u32 st), (.int .u32 src), (.slice oa on oc), (.bool ex), (.int .u16 pr), (.slice xa xn xc), (.slice a n c), (.int .u8 pd)], .int .u8 ty'] w fun e w' => e = .returned (.tuple #[.agg #[(.bool false), (.int .u8 0), (.int .u16 0), (.int .u32 0), (.int .u32 0), (.slice none 0 0), (.bool false), (.int .u16 0), (.slice none 0 0), (.slice none 0 0), (.int .u8 0)], .int .i64 9]) ∧ Below w.heap.size w w' := by
  have t2 := two2 w (.cells #[(.bool m), (.int .u8 ty), (.int .u16 sq), (.int .u32 st), (.int .u32 src), (.slice oa on oc), (.bool ex), (.int .u16 pr), (.slice xa xn xc), (.slice a n c), (.int .u8 pd)] 44) (.cells #[(.bool false), (.int .u8 0), (.int .u16 0), (.int .u32 0), (.int .u32 0), (.slice none 0 0), (.bool false), (.int .u16 0), (.slice none 0 0), (.slice none 0 0), (.int .u8 0)] 44)
  have HT := Lib.hid hT
  have HS := Lib.hid hsrc
  have HF := Lib.hid hf
  clear hT hsrc hf
  go_enter Try.func34, Try.ntmps34
  go_wp2_with fail
  generalize hW : World.alloc _ _ = W
  rw [hW] at t2
  have BW : Below w.heap.size w W := by rw [← hW]; exact ((Below.refl _ w).alloc (Nat.le_refl _) _).alloc (by simp) _
  clear hW
  obtain ⟨q0, q1⟩ := t2
  obtain ⟨g2, h0⟩ : ∃ g2, g2 = w.heap.size := ⟨_, rfl⟩
  rw [← h0] at q0 q1
  rw [← h0]
  obtain ⟨g3, h1⟩ : ∃ g3, g3 = g2 + 1 := ⟨_, rfl⟩
  rw [← h1] at q1
  rw [← h1]
  have l2 := lt_of_block q0
  have l3 := lt_of_block q1
  have w2' : w.heap.size ≤ g2 := by omega
  have w3' : w.heap.size ≤ g3 := by omega
  have n23 : g2 ≠ g3 := by omega
  clear h0 h1
  have HBW := Lib.hid BW
  have HQ2 := Lib.hid q0
  have HQ3 := Lib.hid q1
  have TW := Lib.hid (HT.out.keep BW)
  clear q0 q1 BW
  have y0 : W.cell? ⟨g, 1, none⟩ = some (.map (some bf)) := cell_blk TW.out.blk
  have y1 : W.cell? ⟨g2, 4, none⟩ = some (.int .u32 src) := cell_blk HQ2.out
  have y2 : (Instr.lookup 131 (.map (some bf)) (.int .u32 src) true).run Try.prog W.drew = .ok (.tuple #[.int .u32 0, .bool false]) W.drew := by
    have := (TW.out.drewN 1).look2 src HS.out
    unfold firstOf at this
    rw [HF.out] at this
    exact this
  refine wp_region_still_lit (by kernel_rfl) (by kernel_rfl) ?_
  iterate 12 still_step
  refine wpStill_nil ?_
  change Exit.then _ _ _ _ W.drew
  clear y0 y1 y2
  generalize hD : W.drew = D
  have QD2 : Hid (D.heap[g2]? = some (.cells #[(.bool m), (.int .u8 ty), (.int .u16 sq), (.int .u32 st), (.int .u32 src), (.slice oa on oc), (.bool ex), (.int .u16 pr), (.slice xa xn xc), (.slice a n c), (.int .u8 pd)] 44 (0, 0))) := Lib.hid (by rw [← hD]; exact HQ2.out)
  have QD3 : Hid (D.heap[g3]? = some (.cells #[(.bool false), (.int .u8 0), (.int .u16 0), (.int .u32 0), (.int .u32 0), (.slice none 0 0), (.bool false), (.int .u16 0), (.slice none 0 0), (.slice none 0 0), (.int .u8 0)] 44 (0, 0))) := Lib.hid (by rw [← hD]; exact HQ3.out)
  have BD : Hid (Below w.heap.size w D) := Lib.hid (by rw [← hD]; exact HBW.out.drew)
  have d2 : g2 < D.heap.size := lt_of_block QD2.out
  have d3 : g3 < D.heap.size := lt_of_block QD3.out
  clear hD l2 l3
  have d_0 : D.cell? ⟨g3, 0, none⟩ = some (.bool false) := cell_blk QD3.out
  have z_0 : D.frozen? ⟨g3, 0, none⟩ = false := free_blk QD3.out
  have d_1 : D.cell? ⟨g3, 1, none⟩ = some (.int .u8 0) := cell_blk QD3.out
  have z_1 : D.frozen? ⟨g3, 1, none⟩ = false := free_blk QD3.out
  have d_2 : D.cell? ⟨g3, 2, none⟩ = some (.int .u16 0) := cell_blk QD3.out
  have z_2 : D.frozen? ⟨g3, 2, none⟩ = false := free_blk QD3.out
  have d_3 : D.cell? ⟨g3, 3, none⟩ = some (.int .u32 0) := cell_blk QD3.out
  have z_3 : D.frozen? ⟨g3, 3, none⟩ = false := free_blk QD3.out
  have d_4 : D.cell? ⟨g3, 4, none⟩ = some (.int .u32 0) := cell_blk QD3.out
  have z_4 : D.frozen? ⟨g3, 4, none⟩ = false := free_blk QD3.out
  have d_5 : D.cell? ⟨g3, 5, none⟩ = some (.slice none 0 0) := cell_blk QD3.out
  have z_5 : D.frozen? ⟨g3, 5, none⟩ = false := free_blk QD3.out
  have d_6 : D.cell? ⟨g3, 6, none⟩ = some (.bool false) := cell_blk QD3.out
  have z_6 : D.frozen? ⟨g3, 6, none⟩ = false := free_blk QD3.out
  have d_7 : D.cell? ⟨g3, 7, none⟩ = some (.int .u16 0) := cell_blk QD3.out
  have z_7 : D.frozen? ⟨g3, 7, none⟩ = false := free_blk QD3.out
  have d_8 : D.cell? ⟨g3, 8, none⟩ = some (.slice none 0 0) := cell_blk QD3.out
  have z_8 : D.frozen? ⟨g3, 8, none⟩ = false := free_blk QD3.out
  have d_9 : D.cell? ⟨g3, 9, none⟩ = some (.slice none 0 0) := cell_blk QD3.out
  have z_9 : D.frozen? ⟨g3, 9, none⟩ = false := free_blk QD3.out
  have d_10 : D.cell? ⟨g3, 10, none⟩ = some (.int .u8 0) := cell_blk QD3.out
  have z_10 : D.frozen? ⟨g3, 10, none⟩ = false := free_blk QD3.out
  go_wp2_with fail
  generalize hF : World.setCell _ _ _ = Wf
  have gf : Wf.heap[g3]? = some (.cells #[(.bool false), (.int .u8 0), (.int .u16 0), (.int .u32 0), (.int .u32 0), (.slice none 0 0), (.bool false), (.int .u16 0), (.slice none 0 0), (.slice none 0 0), (.int .u8 0)] 44 (0, 0)) := by rw [← hF]; simp [heap_set, QD3.out, putIn]
  have KF : Hid (Keeps g3 D Wf) := Lib.hid (by rw [← hF]; (repeat (refine Keeps.setCell ?_ (by exact .inl rfl) _)); exact Keeps.refl _ _)
  clear hF d_0 z_0 d_1 z_1 d_2 z_2 d_3 z_3 d_4 z_4 d_5 z_5 d_6 z_6 d_7 z_7 d_8 z_8 d_9 z_9 d_10 z_10
  have r_0 : Wf.cell? ⟨g3, 0, none⟩ = some (.bool false) := cell_blk gf
  have r_1 : Wf.cell? ⟨g3, 1, none⟩ = some (.int .u8 0) := cell_blk gf
  have r_2 : Wf.cell? ⟨g3, 2, none⟩ = some (.int .u16 0) := cell_blk gf
  have r_3 : Wf.cell? ⟨g3, 3, none⟩ = some (.int .u32 0) := cell_blk gf
  have r_4 : Wf.cell? ⟨g3, 4, none⟩ = some (.int .u32 0) := cell_blk gf
  have r_5 : Wf.cell? ⟨g3, 5, none⟩ = some (.slice none 0 0) := cell_blk gf
  have r_6 : Wf.cell? ⟨g3, 6, none⟩ = some (.bool false) := cell_blk gf
  have r_7 : Wf.cell? ⟨g3, 7, none⟩ = some (.int .u16 0) := cell_blk gf
  have r_8 : Wf.cell? ⟨g3, 8, none⟩ = some (.slice none 0 0) := cell_blk gf
  have r_9 : Wf.cell? ⟨g3, 9, none⟩ = some (.slice none 0 0) := cell_blk gf
  have r_10 : Wf.cell? ⟨g3, 10, none⟩ = some (.int .u8 0) := cell_blk gf
  try go_wp2_with fail
  refine bodyPost_ret (v := .tuple #[.agg #[(.bool false), (.int .u8 0), (.int .u16 0), (.int .u32 0), (.int .u32 0), (.slice none 0 0), (.bool false), (.int .u16 0), (.slice none 0 0), (.slice none 0 0), (.int .u8 0)], .int .i64 9]) (by simp [results, Try.results34, go_sem, r_0, r_1, r_2, r_3, r_4, r_5, r_6, r_7, r_8, r_9, r_10]) rfl ?_
  exact ⟨rfl, Below.keeps BD.out (by have := BD.out.size; omega) w3' KF.out⟩
set_option maxRecDepth 100000 in
set_option maxHeartbeats 4000000 in
theorem back_short (B : Nat) (w : World) (m : Bool) (ty sq st src : Int) (oa : Option Addr) (on oc : Nat) (ex : Bool) (pr : Int) (xa : Option Addr) (xn xc : Nat) (a : Option Addr) (n c : Nat) (Z : Nat → Int) (pd : Int) (g bp bf np : Nat) (F1 : Int → Option Value) (f2 : Int → Option Int) (s1 s2 : Nat) (ty' : Int) (av : Int) (hT : Tab w g bp bf np F1 (firstOf f2) s1 s2) (hsrc : (Lit.int .u32 src).wf = true) (hf : f2 src = some av) (hZ : BS w.heap.size w a n c Z) (hn2 : n < 2) :
    Calls Try.prog 34 #[.pointer (some ⟨g, 0, none⟩), .agg #[(.bool m), (.int .u8 ty), (.int .u16 sq), (.int .u32 st), (.int .u32 src), (.slice oa on oc), (.bool ex), (.int .u16 pr), (.slice xa xn xc), (.slice a n c), (.int .u8 pd)], .int .u8 ty'] w fun e w' => e = .returned (.tuple #[.agg #[(.bool false), (.int .u8 0), (.int .u16 0), (.int .u32 0), (.int .u32 0), (.slice none 0 0), (.bool false), (.int .u16 0), (.slice none 0 0), (.slice none 0 0), (.int .u8 0)], .int .i64 2]) ∧ Below w.heap.size w w' := by
  have t2 := two2 w (.cells #[(.bool m), (.int .u8 ty), (.int .u16 sq), (.int .u32 st), (.int .u32 src), (.slice oa on oc), (.bool ex), (.int .u16 pr), (.slice xa xn xc), (.slice a n c), (.int .u8 pd)] 44) (.cells #[(.bool false), (.int .u8 0), (.int .u16 0), (.int .u32 0), (.int .u32 0), (.slice none 0 0), (.bool false), (.int .u16 0), (.slice none 0 0), (.slice none 0 0), (.int .u8 0)] 44)
  have HT := Lib.hid hT
  have HS := Lib.hid hsrc
  have HF := Lib.hid hf
  have HZ := Lib.hid hZ
  have HN := Lib.hid hn2
  clear hT hsrc hf hZ hn2
  go_enter Try.func34, Try.ntmps34
  go_wp2_with fail
  generalize hW : World.alloc _ _ = W
  rw [hW] at t2
  have BW : Below w.heap.size w W := by rw [← hW]; exact ((Below.refl _ w).alloc (Nat.le_refl _) _).alloc (by simp) _
  clear hW
  obtain ⟨q0, q1⟩ := t2
  obtain ⟨g2, h0⟩ : ∃ g2, g2 = w.heap.size := ⟨_, rfl⟩
  rw [← h0] at q0 q1
  rw [← h0]
  obtain ⟨g3, h1⟩ : ∃ g3, g3 = g2 + 1 := ⟨_, rfl⟩
  rw [← h1] at q1
  rw [← h1]
  have l2 := lt_of_block q0
  have l3 := lt_of_block q1
  have w2' : w.heap.size ≤ g2 := by omega
  have w3' : w.heap.size ≤ g3 := by omega
  have n23 : g2 ≠ g3 := by omega
  clear h0 h1
  have HBW := Lib.hid BW
  have HQ2 := Lib.hid q0
  have HQ3 := Lib.hid q1
  have TW := Lib.hid (HT.out.keep BW)
  clear q0 q1 BW
  have y0 : W.cell? ⟨g, 1, none⟩ = some (.map (some bf)) := cell_blk TW.out.blk
  have y1 : W.cell? ⟨g2, 4, none⟩ = some (.int .u32 src) := cell_blk HQ2.out
  have y2 : (Instr.lookup 131 (.map (some bf)) (.int .u32 src) true).run Try.prog W.drew = .ok (.tuple #[.int .u32 av, .bool true]) W.drew := by
    have := (TW.out.drewN 1).look2 src HS.out
    unfold firstOf at this
    rw [HF.out] at this
    exact this
  refine wp_region_still_lit (by kernel_rfl) (by kernel_rfl) ?_
  iterate 12 still_step
  refine wpStill_nil ?_
  change Exit.then _ _ _ _ W.drew
  clear y0 y1 y2
  generalize hD : W.drew = D
  have QD2 : Hid (D.heap[g2]? = some (.cells #[(.bool m), (.int .u8 ty), (.int .u16 sq), (.int .u32 st), (.int .u32 src), (.slice oa on oc), (.bool ex), (.int .u16 pr), (.slice xa xn xc), (.slice a n c), (.int .u8 pd)] 44 (0, 0))) := Lib.hid (by rw [← hD]; exact HQ2.out)
  have QD3 : Hid (D.heap[g3]? = some (.cells #[(.bool false), (.int .u8 0), (.int .u16 0), (.int .u32 0), (.int .u32 0), (.slice none 0 0), (.bool false), (.int .u16 0), (.slice none 0 0), (.slice none 0 0), (.int .u8 0)] 44 (0, 0))) := Lib.hid (by rw [← hD]; exact HQ3.out)
  have BD : Hid (Below w.heap.size w D) := Lib.hid (by rw [← hD]; exact HBW.out.drew)
  have d2 : g2 < D.heap.size := lt_of_block QD2.out
  have d3 : g3 < D.heap.size := lt_of_block QD3.out
  clear hD l2 l3
  have c_0 : D.cell? ⟨g2, 0, none⟩ = some (.bool m) := cell_blk QD2.out
  have c_1 : D.cell? ⟨g2, 1, none⟩ = some (.int .u8 ty) := cell_blk QD2.out
  have c_2 : D.cell? ⟨g2, 2, none⟩ = some (.int .u16 sq) := cell_blk QD2.out
  have c_3 : D.cell? ⟨g2, 3, none⟩ = some (.int .u32 st) := cell_blk QD2.out
  have c_4 : D.cell? ⟨g2, 4, none⟩ = some (.int .u32 src) := cell_blk QD2.out
  have c_5 : D.cell? ⟨g2, 5, none⟩ = some (.slice oa on oc) := cell_blk QD2.out
  have c_6 : D.cell? ⟨g2, 6, none⟩ = some (.bool ex) := cell_blk QD2.out
  have c_7 : D.cell? ⟨g2, 7, none⟩ = some (.int .u16 pr) := cell_blk QD2.out
  have c_8 : D.cell? ⟨g2, 8, none⟩ = some (.slice xa xn xc) := cell_blk QD2.out
  have c_9 : D.cell? ⟨g2, 9, none⟩ = some (.slice a n c) := cell_blk QD2.out
  have c_10 : D.cell? ⟨g2, 10, none⟩ = some (.int .u8 pd) := cell_blk QD2.out
  go_wp2_with fail
  refine (unwrap_short w.heap.size D m ty sq st src oa on oc ex pr xa xn xc a n c Z pd av ty' (HZ.out.keep BD.out) BD.out.size HN.out).mono ?_
  rintro e w8 ⟨rfl, b8⟩
  have V3 := Lib.hid (Below.blk b8 QD3.out d3)
  have B8 := Lib.hid (BD.out.trans (b8.mono BD.out.size))
  clear b8 c_0 c_1 c_2 c_3 c_4 c_5 c_6 c_7 c_8 c_9 c_10
  have d_0 : w8.cell? ⟨g3, 0, none⟩ = some (.bool false) := cell_blk V3.out
  have z_0 : w8.frozen? ⟨g3, 0, none⟩ = false := free_blk V3.out
  have d_1 : w8.cell? ⟨g3, 1, none⟩ = some (.int .u8 0) := cell_blk V3.out
  have z_1 : w8.frozen? ⟨g3, 1, none⟩ = false := free_blk V3.out
  have d_2 : w8.cell? ⟨g3, 2, none⟩ = some (.int .u16 0) := cell_blk V3.out
  have z_2 : w8.frozen? ⟨g3, 2, none⟩ = false := free_blk V3.out
  have d_3 : w8.cell? ⟨g3, 3, none⟩ = some (.int .u32 0) := cell_blk V3.out
  have z_3 : w8.frozen? ⟨g3, 3, none⟩ = false := free_blk V3.out
  have d_4 : w8.cell? ⟨g3, 4, none⟩ = some (.int .u32 0) := cell_blk V3.out
  have z_4 : w8.frozen? ⟨g3, 4, none⟩ = false := free_blk V3.out
  have d_5 : w8.cell? ⟨g3, 5, none⟩ = some (.slice none 0 0) := cell_blk V3.out
  have z_5 : w8.frozen? ⟨g3, 5, none⟩ = false := free_blk V3.out
  have d_6 : w8.cell? ⟨g3, 6, none⟩ = some (.bool false) := cell_blk V3.out
  have z_6 : w8.frozen? ⟨g3, 6, none⟩ = false := free_blk V3.out
  have d_7 : w8.cell? ⟨g3, 7, none⟩ = some (.int .u16 0) := cell_blk V3.out
  have z_7 : w8.frozen? ⟨g3, 7, none⟩ = false := free_blk V3.out
  have d_8 : w8.cell? ⟨g3, 8, none⟩ = some (.slice none 0 0) := cell_blk V3.out
  have z_8 : w8.frozen? ⟨g3, 8, none⟩ = false := free_blk V3.out
  have d_9 : w8.cell? ⟨g3, 9, none⟩ = some (.slice none 0 0) := cell_blk V3.out
  have z_9 : w8.frozen? ⟨g3, 9, none⟩ = false := free_blk V3.out
  have d_10 : w8.cell? ⟨g3, 10, none⟩ = some (.int .u8 0) := cell_blk V3.out
  have z_10 : w8.frozen? ⟨g3, 10, none⟩ = false := free_blk V3.out
  go_wp2_with fail
  generalize hF : World.setCell _ _ _ = Wf
  have gf : Wf.heap[g3]? = some (.cells #[(.bool false), (.int .u8 0), (.int .u16 0), (.int .u32 0), (.int .u32 0), (.slice none 0 0), (.bool false), (.int .u16 0), (.slice none 0 0), (.slice none 0 0), (.int .u8 0)] 44 (0, 0)) := by rw [← hF]; simp [heap_set, V3.out, putIn]
  have KF : Hid (Keeps g3 w8 Wf) := Lib.hid (by rw [← hF]; (repeat (refine Keeps.setCell ?_ (by exact .inl rfl) _)); exact Keeps.refl _ _)
  clear hF d_0 z_0 d_1 z_1 d_2 z_2 d_3 z_3 d_4 z_4 d_5 z_5 d_6 z_6 d_7 z_7 d_8 z_8 d_9 z_9 d_10 z_10
  have r_0 : Wf.cell? ⟨g3, 0, none⟩ = some (.bool false) := cell_blk gf
  have r_1 : Wf.cell? ⟨g3, 1, none⟩ = some (.int .u8 0) := cell_blk gf
  have r_2 : Wf.cell? ⟨g3, 2, none⟩ = some (.int .u16 0) := cell_blk gf
  have r_3 : Wf.cell? ⟨g3, 3, none⟩ = some (.int .u32 0) := cell_blk gf
  have r_4 : Wf.cell? ⟨g3, 4, none⟩ = some (.int .u32 0) := cell_blk gf
  have r_5 : Wf.cell? ⟨g3, 5, none⟩ = some (.slice none 0 0) := cell_blk gf
  have r_6 : Wf.cell? ⟨g3, 6, none⟩ = some (.bool false) := cell_blk gf
  have r_7 : Wf.cell? ⟨g3, 7, none⟩ = some (.int .u16 0) := cell_blk gf
  have r_8 : Wf.cell? ⟨g3, 8, none⟩ = some (.slice none 0 0) := cell_blk gf
  have r_9 : Wf.cell? ⟨g3, 9, none⟩ = some (.slice none 0 0) := cell_blk gf
  have r_10 : Wf.cell? ⟨g3, 10, none⟩ = some (.int .u8 0) := cell_blk gf
  try go_wp2_with fail
  refine bodyPost_ret (v := .tuple #[.agg #[(.bool false), (.int .u8 0), (.int .u16 0), (.int .u32 0), (.int .u32 0), (.slice none 0 0), (.bool false), (.int .u16 0), (.slice none 0 0), (.slice none 0 0), (.int .u8 0)], .int .i64 2]) (by simp [results, Try.results34, go_sem, r_0, r_1, r_2, r_3, r_4, r_5, r_6, r_7, r_8, r_9, r_10]) rfl ?_
  exact ⟨rfl, Below.keeps B8.out (by have := B8.out.size; omega) w3' KF.out⟩
set_option maxRecDepth 100000 in
set_option maxHeartbeats 4000000 in
theorem back_long (B : Nat) (w : World) (m : Bool) (ty sq st src : Int) (oa : Option Addr) (on oc : Nat) (ex : Bool) (pr : Int) (xa : Option Addr) (xn xc : Nat) (a : Option Addr) (n c : Nat) (Z : Nat → Int) (pd : Int) (g bp bf np : Nat) (F1 : Int → Option Value) (f2 : Int → Option Int) (s1 s2 : Nat) (ty' : Int) (av : Int) (l : Nat) (hT : Tab w g bp bf np F1 (firstOf f2) s1 s2) (hsrc : (Lit.int .u32 src).wf = true) (hf : f2 src = some av) (hZ : BS w.heap.size w a n c Z) (hnl : n = l + 2) (hn : n ≤ 9000) :
    Calls Try.prog 34 #[.pointer (some ⟨g, 0, none⟩), .agg #[(.bool m), (.int .u8 ty), (.int .u16 sq), (.int .u32 st), (.int .u32 src), (.slice oa on oc), (.bool ex), (.int .u16 pr), (.slice xa xn xc), (.slice a n c), (.int .u8 pd)], .int .u8 ty'] w fun e w' => ∃ a5 c5, e = .returned (.tuple #[.agg #[(.bool m), (.int .u8 ty'), (.int .u16 (numv Z 0 2)), (.int .u32 st), (.int .u32 av), (.slice oa on oc), (.bool ex), (.int .u16 pr), (.slice xa xn xc), (.slice a5 l c5), (.int .u8 pd)], .int .i64 0]) ∧ BS w'.heap.size w' a5 l c5 (fun i => Z (2 + i)) ∧ Below w.heap.size w w' := by
  have t2 := two2 w (.cells #[(.bool m), (.int .u8 ty), (.int .u16 sq), (.int .u32 st), (.int .u32 src), (.slice oa on oc), (.bool ex), (.int .u16 pr), (.slice xa xn xc), (.slice a n c), (.int .u8 pd)] 44) (.cells #[(.bool false), (.int .u8 0), (.int .u16 0), (.int .u32 0), (.int .u32 0), (.slice none 0 0), (.bool false), (.int .u16 0), (.slice none 0 0), (.slice none 0 0), (.int .u8 0)] 44)
  have HT := Lib.hid hT
  have HS := Lib.hid hsrc
  have HF := Lib.hid hf
  have HZ := Lib.hid hZ
  have HN := Lib.hid hnl
  clear hT hsrc hf hZ hnl
  go_enter Try.func34, Try.ntmps34
  go_wp2_with fail
  generalize hW : World.alloc _ _ = W
  rw [hW] at t2
  have BW : Below w.heap.size w W := by rw [← hW]; exact ((Below.refl _ w).alloc (Nat.le_refl _) _).alloc (by simp) _
  clear hW
  obtain ⟨q0, q1⟩ := t2
  obtain ⟨g2, h0⟩ : ∃ g2, g2 = w.heap.size := ⟨_, rfl⟩
  rw [← h0] at q0 q1
  rw [← h0]
  obtain ⟨g3, h1⟩ : ∃ g3, g3 = g2 + 1 := ⟨_, rfl⟩
  rw [← h1] at q1
  rw [← h1]
  have l2 := lt_of_block q0
  have l3 := lt_of_block q1
  have w2' : w.heap.size ≤ g2 := by omega
  have w3' : w.heap.size ≤ g3 := by omega
  have n23 : g2 ≠ g3 := by omega
  clear h0 h1
  have HBW := Lib.hid BW
  have HQ2 := Lib.hid q0
  have HQ3 := Lib.hid q1
  have TW := Lib.hid (HT.out.keep BW)
  clear q0 q1 BW
  have y0 : W.cell? ⟨g, 1, none⟩ = some (.map (some bf)) := cell_blk TW.out.blk
  have y1 : W.cell? ⟨g2, 4, none⟩ = some (.int .u32 src) := cell_blk HQ2.out
  have y2 : (Instr.lookup 131 (.map (some bf)) (.int .u32 src) true).run Try.prog W.drew = .ok (.tuple #[.int .u32 av, .bool true]) W.drew := by
    have := (TW.out.drewN 1).look2 src HS.out
    unfold firstOf at this
    rw [HF.out] at this
    exact this
  refine wp_region_still_lit (by kernel_rfl) (by kernel_rfl) ?_
  iterate 12 still_step
  refine wpStill_nil ?_
  change Exit.then _ _ _ _ W.drew
  clear y0 y1 y2
  generalize hD : W.drew = D
  have QD2 : Hid (D.heap[g2]? = some (.cells #[(.bool m), (.int .u8 ty), (.int .u16 sq), (.int .u32 st), (.int .u32 src), (.slice oa on oc), (.bool ex), (.int .u16 pr), (.slice xa xn xc), (.slice a n c), (.int .u8 pd)] 44 (0, 0))) := Lib.hid (by rw [← hD]; exact HQ2.out)
  have QD3 : Hid (D.heap[g3]? = some (.cells #[(.bool false), (.int .u8 0), (.int .u16 0), (.int .u32 0), (.int .u32 0), (.slice none 0 0), (.bool false), (.int .u16 0), (.slice none 0 0), (.slice none 0 0), (.int .u8 0)] 44 (0, 0))) := Lib.hid (by rw [← hD]; exact HQ3.out)
  have BD : Hid (Below w.heap.size w D) := Lib.hid (by rw [← hD]; exact HBW.out.drew)
  have d2 : g2 < D.heap.size := lt_of_block QD2.out
  have d3 : g3 < D.heap.size := lt_of_block QD3.out
  clear hD l2 l3
  have c_0 : D.cell? ⟨g2, 0, none⟩ = some (.bool m) := cell_blk QD2.out
  have c_1 : D.cell? ⟨g2, 1, none⟩ = some (.int .u8 ty) := cell_blk QD2.out
  have c_2 : D.cell? ⟨g2, 2, none⟩ = some (.int .u16 sq) := cell_blk QD2.out
  have c_3 : D.cell? ⟨g2, 3, none⟩ = some (.int .u32 st) := cell_blk QD2.out
  have c_4 : D.cell? ⟨g2, 4, none⟩ = some (.int .u32 src) := cell_blk QD2.out
  have c_5 : D.cell? ⟨g2, 5, none⟩ = some (.slice oa on oc) := cell_blk QD2.out
  have c_6 : D.cell? ⟨g2, 6, none⟩ = some (.bool ex) := cell_blk QD2.out
  have c_7 : D.cell? ⟨g2, 7, none⟩ = some (.int .u16 pr) := cell_blk QD2.out
  have c_8 : D.cell? ⟨g2, 8, none⟩ = some (.slice xa xn xc) := cell_blk QD2.out
  have c_9 : D.cell? ⟨g2, 9, none⟩ = some (.slice a n c) := cell_blk QD2.out
  have c_10 : D.cell? ⟨g2, 10, none⟩ = some (.int .u8 pd) := cell_blk QD2.out
  go_wp2_with fail
  refine (unwrap_fresh w.heap.size D m ty sq st src oa on oc ex pr xa xn xc a n c Z pd l av ty' (HZ.out.keep BD.out) BD.out.size HN.out hn).mono ?_
  rintro e w8 ⟨a5, c5, rfl, s8, b8, fr⟩
  have HS8 := Lib.hid s8
  have FR := Lib.hid fr
  have V3 := Lib.hid (Below.blk b8 QD3.out d3)
  have B8 := Lib.hid (BD.out.trans (b8.mono BD.out.size))
  clear b8 s8 fr c_0 c_1 c_2 c_3 c_4 c_5 c_6 c_7 c_8 c_9 c_10
  have d_0 : w8.cell? ⟨g3, 0, none⟩ = some (.bool false) := cell_blk V3.out
  have z_0 : w8.frozen? ⟨g3, 0, none⟩ = false := free_blk V3.out
  have d_1 : w8.cell? ⟨g3, 1, none⟩ = some (.int .u8 0) := cell_blk V3.out
  have z_1 : w8.frozen? ⟨g3, 1, none⟩ = false := free_blk V3.out
  have d_2 : w8.cell? ⟨g3, 2, none⟩ = some (.int .u16 0) := cell_blk V3.out
  have z_2 : w8.frozen? ⟨g3, 2, none⟩ = false := free_blk V3.out
  have d_3 : w8.cell? ⟨g3, 3, none⟩ = some (.int .u32 0) := cell_blk V3.out
  have z_3 : w8.frozen? ⟨g3, 3, none⟩ = false := free_blk V3.out
  have d_4 : w8.cell? ⟨g3, 4, none⟩ = some (.int .u32 0) := cell_blk V3.out
  have z_4 : w8.frozen? ⟨g3, 4, none⟩ = false := free_blk V3.out
  have d_5 : w8.cell? ⟨g3, 5, none⟩ = some (.slice none 0 0) := cell_blk V3.out
  have z_5 : w8.frozen? ⟨g3, 5, none⟩ = false := free_blk V3.out
  have d_6 : w8.cell? ⟨g3, 6, none⟩ = some (.bool false) := cell_blk V3.out
  have z_6 : w8.frozen? ⟨g3, 6, none⟩ = false := free_blk V3.out
  have d_7 : w8.cell? ⟨g3, 7, none⟩ = some (.int .u16 0) := cell_blk V3.out
  have z_7 : w8.frozen? ⟨g3, 7, none⟩ = false := free_blk V3.out
  have d_8 : w8.cell? ⟨g3, 8, none⟩ = some (.slice none 0 0) := cell_blk V3.out
  have z_8 : w8.frozen? ⟨g3, 8, none⟩ = false := free_blk V3.out
  have d_9 : w8.cell? ⟨g3, 9, none⟩ = some (.slice none 0 0) := cell_blk V3.out
  have z_9 : w8.frozen? ⟨g3, 9, none⟩ = false := free_blk V3.out
  have d_10 : w8.cell? ⟨g3, 10, none⟩ = some (.int .u8 0) := cell_blk V3.out
  have z_10 : w8.frozen? ⟨g3, 10, none⟩ = false := free_blk V3.out
  go_wp2_with fail
  generalize hF : World.setCell _ _ _ = Wf
  have gf : Wf.heap[g3]? = some (.cells #[(.bool m), (.int .u8 ty'), (.int .u16 (numv Z 0 2)), (.int .u32 st), (.int .u32 av), (.slice oa on oc), (.bool ex), (.int .u16 pr), (.slice xa xn xc), (.slice a5 l c5), (.int .u8 pd)] 44 (0, 0)) := by rw [← hF]; simp [heap_set, V3.out, putIn]
  have KF : Hid (Keeps g3 w8 Wf) := Lib.hid (by rw [← hF]; (repeat (refine Keeps.setCell ?_ (by exact .inl rfl) _)); exact Keeps.refl _ _)
  clear hF d_0 z_0 d_1 z_1 d_2 z_2 d_3 z_3 d_4 z_4 d_5 z_5 d_6 z_6 d_7 z_7 d_8 z_8 d_9 z_9 d_10 z_10
  have r_0 : Wf.cell? ⟨g3, 0, none⟩ = some (.bool m) := cell_blk gf
  have r_1 : Wf.cell? ⟨g3, 1, none⟩ = some (.int .u8 ty') := cell_blk gf
  have r_2 : Wf.cell? ⟨g3, 2, none⟩ = some (.int .u16 (numv Z 0 2)) := cell_blk gf
  have r_3 : Wf.cell? ⟨g3, 3, none⟩ = some (.int .u32 st) := cell_blk gf
  have r_4 : Wf.cell? ⟨g3, 4, none⟩ = some (.int .u32 av) := cell_blk gf
  have r_5 : Wf.cell? ⟨g3, 5, none⟩ = some (.slice oa on oc) := cell_blk gf
  have r_6 : Wf.cell? ⟨g3, 6, none⟩ = some (.bool ex) := cell_blk gf
  have r_7 : Wf.cell? ⟨g3, 7, none⟩ = some (.int .u16 pr) := cell_blk gf
  have r_8 : Wf.cell? ⟨g3, 8, none⟩ = some (.slice xa xn xc) := cell_blk gf
  have r_9 : Wf.cell? ⟨g3, 9, none⟩ = some (.slice a5 l c5) := cell_blk gf
  have r_10 : Wf.cell? ⟨g3, 10, none⟩ = some (.int .u8 pd) := cell_blk gf
  try go_wp2_with fail
  refine bodyPost_ret (v := .tuple #[.agg #[(.bool m), (.int .u8 ty'), (.int .u16 (numv Z 0 2)), (.int .u32 st), (.int .u32 av), (.slice oa on oc), (.bool ex), (.int .u16 pr), (.slice xa xn xc), (.slice a5 l c5), (.int .u8 pd)], .int .i64 0]) (by simp [results, Try.results34, go_sem, r_0, r_1, r_2, r_3, r_4, r_5, r_6, r_7, r_8, r_9, r_10]) rfl ?_
  refine ⟨a5, c5, rfl, ?_, ?_⟩
  · obtain ⟨h1, h2, h3, b, off, h4, h5⟩ := HS8.out
    refine ⟨h1, h2, h3, b, off, fun h => ⟨(h4 h).1, Nat.lt_of_lt_of_le (h4 h).2 KF.out.size⟩, fun i hi => ?_⟩
    have hb4 : b ≠ g3 := fun e => by have := FR.out b off none (h4 (by omega)).1; omega
    exact KF.out.cell (h5 i hi) hb4
  · exact Below.keeps B8.out (by have := B8.out.size; omega) w3' KF.out
end Go.Proofs.Ytihbceippcgfgaa
