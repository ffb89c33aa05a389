/-
  Chapter 10's reference: two packets that are the same.
-/
import Derived.Test.YtihbceippcgfgaaRtx
import Derived.StillTailTactics
namespace Go.Proofs.Ytihbceippcgfgaa
open Go.RowKit
set_option linter.unusedVariables false
set_option linter.unusedSimpArgs false
attribute [local irreducible] wpStill wpQuiet

/-- a slice of uint32 below B -/
structure US (B : Nat) (w : World) (a : Option Addr) (n cap : Nat) (V : Nat → Int) : Prop where
  le : n ≤ cap
  max : cap ≤ 9223372036854775807
  mem : 0 < n → ∃ b off, a = some ⟨b, off, none⟩ ∧ b < B ∧ ∀ i, i < n → w.cell? ⟨b, off + i, none⟩ = some (.int .u32 (V i))
theorem US.keep {B : Nat} {w w' : World} {a : Option Addr} {n cap : Nat} {V : Nat → Int} (h : US B w a n cap V) (hb : Below B w w') : US B w' a n cap V := by
  obtain ⟨h1, h2, h3⟩ := h
  refine ⟨h1, h2, fun h0 => ?_⟩
  obtain ⟨b, off, h4, h5, h6⟩ := h3 h0
  exact ⟨b, off, h4, h5, fun i hi => by rw [hb.cell (p := ⟨b, off + i, none⟩) h5]; exact h6 i hi⟩
theorem US.nil {B : Nat} {w : World} {V : Nat → Int} : US B w none 0 0 V := ⟨by omega, by omega, by omega⟩
theorem BS.nil0 {B : Nat} {w : World} {V : Nat → Int} : BS B w none 0 0 V := ⟨by omega, by omega, by omega, 0, 0, by omega, by omega⟩
theorem two2 (w : World) (x y : Obj) : ((w.alloc x).alloc y).heap[w.heap.size]? = some x ∧ ((w.alloc x).alloc y).heap[w.heap.size + 1]? = some y := by
  refine ⟨?_, ?_⟩
  · rw [heap_alloc, heap_alloc, if_neg (by simp), if_pos rfl]
  · rw [heap_alloc, if_pos (by simp)]
set_option maxRecDepth 100000 in
set_option maxHeartbeats 8000000 in
theorem same_any (B : Nat) (w : World) (m : Bool) (ty sq st src : Int) (oa : Option Addr) (on oc : Nat) (ex : Bool) (pr : Int) (xa : Option Addr) (xn xc : Nat) (a1 : Option Addr) (n c1 : Nat) (Z1 : Nat → Int) (a2 : Option Addr) (c2 : Nat) (Z2 : Nat → Int) (pd : Int) (V X : Nat → Int)
    (ho : US B w oa on oc V) (hx : BS B w xa xn xc X) (h1 : BS B w a1 n c1 Z1) (h2 : BS B w a2 n c2 Z2) (hz : ∀ i, i < n → Z1 i = Z2 i) (hB : B ≤ w.heap.size) :
    Calls Try.prog 29 #[.agg #[(.bool m), (.int .u8 ty), (.int .u16 sq), (.int .u32 st), (.int .u32 src), (.slice oa on oc), (.bool ex), (.int .u16 pr), (.slice xa xn xc), (.slice a1 n c1), (.int .u8 pd)], .agg #[(.bool m), (.int .u8 ty), (.int .u16 sq), (.int .u32 st), (.int .u32 src), (.slice oa on oc), (.bool ex), (.int .u16 pr), (.slice xa xn xc), (.slice a2 n c2), (.int .u8 pd)]] w fun e w' => e = .returned (.bool true) ∧ Below w.heap.size w w' := by
  have t2 := two2 w (.cells #[(.bool m), (.int .u8 ty), (.int .u16 sq), (.int .u32 st), (.int .u32 src), (.slice oa on oc), (.bool ex), (.int .u16 pr), (.slice xa xn xc), (.slice a1 n c1), (.int .u8 pd)] 44) (.cells #[(.bool m), (.int .u8 ty), (.int .u16 sq), (.int .u32 st), (.int .u32 src), (.slice oa on oc), (.bool ex), (.int .u16 pr), (.slice xa xn xc), (.slice a2 n c2), (.int .u8 pd)] 44)
  have hle := ho.le
  have hmx := ho.max
  have hst : strOf Z2 n = strOf Z1 n := strOf_congr fun i hi => (hz i hi).symm
  have HC1 : Hid (∀ W, Below w.heap.size w W → Sem.run Try.prog (convert 25 9 (.slice a1 n c1)) W = .ok (.string (strOf Z1 n)) W) := Lib.hid (fun W hb => run_conv_BS (h1.keep (hb.mono hB)) Try.underlying25 Try.underlying5 Try.underlying9)
  have HC2 : Hid (∀ W, Below w.heap.size w W → Sem.run Try.prog (convert 25 9 (.slice a2 n c2)) W = .ok (.string (strOf Z1 n)) W) := Lib.hid (fun W hb => by rw [← hst]; exact run_conv_BS (h2.keep (hb.mono hB)) Try.underlying25 Try.underlying5 Try.underlying9)
  have HC3 : Hid (∀ W, Below w.heap.size w W → Sem.run Try.prog (convert 25 9 (.slice xa xn xc)) W = .ok (.string (strOf X xn)) W) := Lib.hid (fun W hb => run_conv_BS (hx.keep (hb.mono hB)) Try.underlying25 Try.underlying5 Try.underlying9)
  have HO := Lib.hid ho
  clear hst hz h1 h2 hx ho
  go_enter Try.func29, Try.ntmps29
  go_wp2_with fail
  generalize hW : World.alloc _ _ = W
  rw [hW] at t2
  have BW : Below w.heap.size w W := by rw [← hW]; exact ((Below.refl _ w).alloc (Nat.le_refl _) _).alloc (by simp) _
  clear hW
  obtain ⟨q0, q1⟩ := t2
  obtain ⟨g0, h0⟩ : ∃ g0, g0 = w.heap.size := ⟨_, rfl⟩
  rw [← h0] at q0 q1
  rw [← h0]
  obtain ⟨g1, h1⟩ : ∃ g1, g1 = g0 + 1 := ⟨_, rfl⟩
  rw [← h1] at q1
  rw [← h1]
  clear h0 h1
  have HBW := Lib.hid BW
  have HQ0 := Lib.hid q0
  have HQ1 := Lib.hid q1
  clear q0 q1 BW
  go_loopw [5] (fun si wr => ∃ k : Nat, k ≤ on ∧ si = .int .i64 k ∧ Hid (∃ q, wr = W.drewN q)) (fun si _ => on - (intOf si).toNat)
  case atStart => exact ⟨0, by omega, rfl, Lib.hid ⟨0, rfl⟩⟩
  case round =>
    obtain ⟨k, hk, rfl, hw⟩ := hrel
    have HB : Hid (Below w.heap.size w wr) := Lib.hid (by obtain ⟨q, h⟩ := hw.out; rw [h]; exact below_drewN0 HBW.out q)
    have R0 : Hid (wr.heap[g0]? = some (.cells #[(.bool m), (.int .u8 ty), (.int .u16 sq), (.int .u32 st), (.int .u32 src), (.slice oa on oc), (.bool ex), (.int .u16 pr), (.slice xa xn xc), (.slice a1 n c1), (.int .u8 pd)] 44 (0, 0))) := Lib.hid (by obtain ⟨q, h⟩ := hw.out; rw [h]; exact HQ0.out)
    have R1 : Hid (wr.heap[g1]? = some (.cells #[(.bool m), (.int .u8 ty), (.int .u16 sq), (.int .u32 st), (.int .u32 src), (.slice oa on oc), (.bool ex), (.int .u16 pr), (.slice xa xn xc), (.slice a2 n c2), (.int .u8 pd)] 44 (0, 0))) := Lib.hid (by obtain ⟨q, h⟩ := hw.out; rw [h]; exact HQ1.out)
    by_cases hlt : k < on
    · obtain ⟨bo, oo, rfl, hbo, hco⟩ := (HO.out.keep (HB.out.mono hB)).mem (by omega)
      have c0 : wr.cell? ⟨g0, 5, none⟩ = some (.slice (some ⟨bo, oo, none⟩) on oc) := cell_blk R0.out
      have c1' : wr.cell? ⟨g1, 5, none⟩ = some (.slice (some ⟨bo, oo, none⟩) on oc) := cell_blk R1.out
      have ck := hco k hlt
      have hkI : (k : Int) < on := by omega
      clear hco
      go_wp2_with fail
      refine wp_region_still_lit (by kernel_rfl) (by kernel_rfl) ?_
      iterate 11 still_step
      refine wpStill_nil ?_
      change Exit.then _ _ _ _ wr.drew
      go_wp2_with fail
      go_roundw
      case rel => exact ⟨k + 1, by omega, by go_num, Lib.hid (by obtain ⟨q, h⟩ := hw.out; exact ⟨q + 1, by rw [h]; rfl⟩)⟩
      case measure => simp [intOf] <;> omega
    · obtain rfl : k = on := by omega
      have r0 : wr.cell? ⟨g0, 0, none⟩ = some (.bool m) := cell_blk R0.out
      have s0 : wr.cell? ⟨g1, 0, none⟩ = some (.bool m) := cell_blk R1.out
      have r1 : wr.cell? ⟨g0, 1, none⟩ = some (.int .u8 ty) := cell_blk R0.out
      have s1 : wr.cell? ⟨g1, 1, none⟩ = some (.int .u8 ty) := cell_blk R1.out
      have r2 : wr.cell? ⟨g0, 2, none⟩ = some (.int .u16 sq) := cell_blk R0.out
      have s2 : wr.cell? ⟨g1, 2, none⟩ = some (.int .u16 sq) := cell_blk R1.out
      have r3 : wr.cell? ⟨g0, 3, none⟩ = some (.int .u32 st) := cell_blk R0.out
      have s3 : wr.cell? ⟨g1, 3, none⟩ = some (.int .u32 st) := cell_blk R1.out
      have r4 : wr.cell? ⟨g0, 4, none⟩ = some (.int .u32 src) := cell_blk R0.out
      have s4 : wr.cell? ⟨g1, 4, none⟩ = some (.int .u32 src) := cell_blk R1.out
      have r5 : wr.cell? ⟨g0, 5, none⟩ = some (.slice oa k oc) := cell_blk R0.out
      have s5 : wr.cell? ⟨g1, 5, none⟩ = some (.slice oa k oc) := cell_blk R1.out
      have r6 : wr.cell? ⟨g0, 6, none⟩ = some (.bool ex) := cell_blk R0.out
      have s6 : wr.cell? ⟨g1, 6, none⟩ = some (.bool ex) := cell_blk R1.out
      have r7 : wr.cell? ⟨g0, 7, none⟩ = some (.int .u16 pr) := cell_blk R0.out
      have s7 : wr.cell? ⟨g1, 7, none⟩ = some (.int .u16 pr) := cell_blk R1.out
      have r8 : wr.cell? ⟨g0, 8, none⟩ = some (.slice xa xn xc) := cell_blk R0.out
      have s8 : wr.cell? ⟨g1, 8, none⟩ = some (.slice xa xn xc) := cell_blk R1.out
      have r9 : wr.cell? ⟨g0, 9, none⟩ = some (.slice a1 n c1) := cell_blk R0.out
      have s9 : wr.cell? ⟨g1, 9, none⟩ = some (.slice a2 n c2) := cell_blk R1.out
      have r10 : wr.cell? ⟨g0, 10, none⟩ = some (.int .u8 pd) := cell_blk R0.out
      have s10 : wr.cell? ⟨g1, 10, none⟩ = some (.int .u8 pd) := cell_blk R1.out
      have v1 := HC1.out wr HB.out
      have v2 := HC2.out wr HB.out
      have v3 := HC3.out wr HB.out
      go_wp2_with fail
      go_ret
      exact ⟨by simp, HB.out⟩
end Go.Proofs.Ytihbceippcgfgaa
