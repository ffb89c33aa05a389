/-
  Chapter 34: what a packet sent again stands for.
-/
import Derived.Test.YtihbceippcgfgaaClone
import Derived.Test.YtihbceippcgfgaaNum
import Derived.Test.YtihbceippcgfgaaRtxW
namespace Go.Proofs.Ytihbceippcgfgaa
open Go.RowKit
set_option linter.unusedVariables false
set_option linter.unusedSimpArgs false
attribute [local irreducible] wpStill wpQuiet

theorem numv2_congr (Z Z' : Nat → Int) (h0 : Z 0 = Z' 0) (h1 : Z 1 = Z' 1) : numv Z 0 2 = numv Z' 0 2 := by simp [numv, h0, h1]
set_option maxRecDepth 100000 in
set_option maxHeartbeats 8000000 in
theorem unwrap_fresh (B : Nat) (w : World) (m : Bool) (ty sq st src : Int) (oa : Option Addr) (on oc : Nat) (ex : Bool) (pr : Int) (xa : Option Addr) (xn xc : Nat) (a : Option Addr) (n c : Nat) (Z : Nat → Int) (pd : Int) (l : Nat) (src' ty' : Int) (hZ : BS B w a n c Z) (hB : B ≤ w.heap.size) (hnl : n = l + 2) (hn : n ≤ 9000) :
    Calls Try.prog 27 #[.agg #[(.bool m), (.int .u8 ty), (.int .u16 sq), (.int .u32 st), (.int .u32 src), (.slice oa on oc), (.bool ex), (.int .u16 pr), (.slice xa xn xc), (.slice a n c), (.int .u8 pd)], .int .u32 src', .int .u8 ty'] w fun e w' => ∃ a5 c5, e = .returned (.tuple #[.agg #[(.bool m), (.int .u8 ty'), (.int .u16 (numv Z 0 2)), (.int .u32 st), (.int .u32 src'), (.slice oa on oc), (.bool ex), (.int .u16 pr), (.slice xa xn xc), (.slice a5 l c5), (.int .u8 pd)], .int .i64 0]) ∧ BS w'.heap.size w' a5 l c5 (fun i => Z (2 + i)) ∧ Below w.heap.size w w' ∧ (∀ b o s, a5 = some ⟨b, o, s⟩ → w.heap.size ≤ b) := by
  have hn2 : 2 ≤ n := by omega
  have e1 : there n 0 2 = true := (there_iff _ _ _).2 (by omega)
  have e2 : numOr Z n 0 2 = numv Z 0 2 := by unfold numOr; rw [if_pos e1]; rfl
  have hnb := numv_bd Z 0 2 (fun i hi => by have := hZ.bd (0 + i) (by omega); exact this)
  rw [show (256 : Int) ^ 2 = 65536 by decide] at hnb
  have HZ := Lib.hid hZ
  have hle := hZ.le
  have hmx := hZ.max
  obtain ⟨b, off, rfl, hbB, hc⟩ := hZ.at_ (by omega)
  have hS1 : Hid (BS B w (some ⟨b, off + 2, none⟩) l (c - 2) (fun i => Z (2 + i))) := Lib.hid ⟨by omega, by omega, fun i hi => hZ.bd _ (by omega), b, off + 2, fun _ => ⟨rfl, hbB⟩, fun i hi => by rw [Nat.add_assoc]; exact hc _ (by omega)⟩
  have hS2 : c = 2 → Hid (BS B w (some ⟨b, off, none⟩) l 0 (fun i => Z (2 + i))) := fun hc2 => Lib.hid ⟨by omega, by omega, fun i hi => by omega, b, off, fun _ => ⟨rfl, hbB⟩, fun i hi => by omega⟩
  clear hc hZ
  have t3 := three3 w (.cells #[(.bool m), (.int .u8 ty), (.int .u16 sq), (.int .u32 st), (.int .u32 src), (.slice oa on oc), (.bool ex), (.int .u16 pr), (.slice xa xn xc), (.slice (some ⟨b, off, none⟩) n c), (.int .u8 pd)] 44) (.cells #[(.bool false), (.int .u8 0), (.int .u16 0), (.int .u32 0), (.int .u32 0), (.slice none 0 0), (.bool false), (.int .u16 0), (.slice none 0 0), (.slice none 0 0), (.int .u8 0)] 44) (.cells #[(.bool m), (.int .u8 ty), (.int .u16 sq), (.int .u32 st), (.int .u32 src), (.slice oa on oc), (.bool ex), (.int .u16 pr), (.slice xa xn xc), (.slice (some ⟨b, off, none⟩) n c), (.int .u8 pd)] 44)
  generalize hnv : numv Z 0 2 = nv at *
  have HNV := Lib.hid hnv
  clear hnv
  have HE2 := Lib.hid e2
  clear e2
  have k3 : IntKind.u16.wrap nv = nv := by rw [IntKind.wrap_u16]; omega
  have k4 : nv % 65536 = nv := by omega
  have hnv0 : 0 ≤ nv := hnb.1
  have hnv1 : nv ≤ 65535 := by omega
  clear hnb
  have HS := Lib.hid (And.intro hS1.out (fun h => (hS2 h).out))
  clear hS1 hS2
  have hl9 : l ≤ 9000 := by omega
  have HN := Lib.hid hnl
  have e12 : (n ≤ 2 ∧ c ≤ 2) ∨ (2 < c ∧ n - 2 = l) := by omega
  clear hnl
  rcases e12 with ⟨hn22, hc2⟩ | ⟨hc2, e3⟩
  all_goals
    go_enter Try.func27, Try.ntmps27
    go_wp2_with fail
    refine (num_any B _ n _ Z 0 2 _ (HZ.out.keep ((((Below.refl _ w).alloc (Nat.le_refl _) _).alloc (by simp) _).mono hB)) (by omega) (by omega) (by omega) (by omega)).mono ?_
    rintro e w' ⟨rfl, rfl⟩
    rw [e1, HE2.out]
    go_wp2_with fail
    generalize hW : World.alloc _ _ = W
    rw [hW] at t3
    have BW : Below w.heap.size w W := by rw [← hW]; exact (((Below.refl _ w).alloc (Nat.le_refl _) _).alloc (by simp) _).alloc (by simp; omega) _
    clear hW
    obtain ⟨q0, q1, q2⟩ := t3
    obtain ⟨g0, h0⟩ : ∃ g0, g0 = w.heap.size := ⟨_, rfl⟩
    rw [← h0] at q0 q1 q2
    rw [← h0]
    obtain ⟨g1, h1⟩ : ∃ g1, g1 = g0 + 1 := ⟨_, rfl⟩
    obtain ⟨g2, h2⟩ : ∃ g2, g2 = g1 + 1 := ⟨_, rfl⟩
    rw [← h1] at q1 q2
    rw [← h2] at q2
    rw [← h1, ← h2]
    have l0 := lt_of_block q0
    have l1 := lt_of_block q1
    have l2 := lt_of_block q2
    have w1' : w.heap.size ≤ g1 := by omega
    have w2' : w.heap.size ≤ g2 := by omega
    have n12 : g1 ≠ g2 := by omega
    have n21 : g2 ≠ g1 := by omega
    clear h0 h1 h2
    have HBW := Lib.hid BW
    have HQ0 := Lib.hid q0
    have HQ1 := Lib.hid q1
    have HQ2 := Lib.hid q2
    clear q0 q1 q2 BW
    have hcl : ∀ a1 c1, BS B w (some a1) l c1 (fun i => Z (2 + i)) → Calls Try.prog 70 #[.slice (some a1) l c1] W fun e w' => ∃ a5 c5, e = .returned (.slice a5 l c5) ∧ w'.ownsRow W.heap.size 5 1 (.slice a5 l c5) l (bytesOf (fun i => Z (2 + i)) l) ∧ Below W.heap.size W w' := fun a1 c1 hs => (clone_some B a1 l c1 (fun i => Z (2 + i)) W (hs.keep (HBW.out.mono hB)) (by have := HBW.out.size; omega) (by omega)).mono (by
      rintro e w' ⟨v, rfl, O1, B2⟩
      obtain ⟨a1, d1, hv1⟩ := own_len O1
      subst hv1
      exact ⟨a1, d1, rfl, O1, B2⟩)
    have hcl2 := Lib.hid hcl
    clear hcl
  · obtain rfl : l = 0 := by have := HN.out; omega
    refine (hcl2.out ⟨b, off, none⟩ 0 (HS.out.2 (by omega))).mono ?_
    clear hcl2
    rintro e w5 ⟨a5, c5, rfl, S5, B5⟩
    have L5 := S5.lt
    have Q2 : Hid (w5.heap[g2]? = some (.cells #[(.bool m), (.int .u8 ty), (.int .u16 sq), (.int .u32 st), (.int .u32 src), (.slice oa on oc), (.bool ex), (.int .u16 pr), (.slice xa xn xc), (.slice (some ⟨b, off, none⟩) n c), (.int .u8 pd)] 44 (0, 0))) := Lib.hid ((B5.block g2 l2).trans HQ2.out)
    have Q1 : Hid (w5.heap[g1]? = some (.cells #[(.bool false), (.int .u8 0), (.int .u16 0), (.int .u32 0), (.int .u32 0), (.slice none 0 0), (.bool false), (.int .u16 0), (.slice none 0 0), (.slice none 0 0), (.int .u8 0)] 44 (0, 0))) := Lib.hid ((B5.block g1 l1).trans HQ1.out)
    have O6 := Lib.hid S5
    have B6 : Hid (Below w.heap.size w w5) := Lib.hid (HBW.out.trans (B5.mono HBW.out.size))
    have HL5 := Lib.hid L5
    clear S5 B5 L5
    have e0 : w5.cell? ⟨g2, 0, none⟩ = some (.bool m) := cell_blk Q2.out
    have e1 : w5.cell? ⟨g2, 1, none⟩ = some (.int .u8 ty) := cell_blk Q2.out
    have e2 : w5.cell? ⟨g2, 2, none⟩ = some (.int .u16 sq) := cell_blk Q2.out
    have e3 : w5.cell? ⟨g2, 3, none⟩ = some (.int .u32 st) := cell_blk Q2.out
    have e4 : w5.cell? ⟨g2, 4, none⟩ = some (.int .u32 src) := cell_blk Q2.out
    have e5 : w5.cell? ⟨g2, 5, none⟩ = some (.slice oa on oc) := cell_blk Q2.out
    have e6 : w5.cell? ⟨g2, 6, none⟩ = some (.bool ex) := cell_blk Q2.out
    have e7 : w5.cell? ⟨g2, 7, none⟩ = some (.int .u16 pr) := cell_blk Q2.out
    have e8 : w5.cell? ⟨g2, 8, none⟩ = some (.slice xa xn xc) := cell_blk Q2.out
    have e9 : w5.cell? ⟨g2, 9, none⟩ = some (.slice (some ⟨b, off, none⟩) n c) := cell_blk Q2.out
    have e10 : w5.cell? ⟨g2, 10, none⟩ = some (.int .u8 pd) := cell_blk Q2.out
    have f1 : w5.frozen? ⟨g2, 1, none⟩ = false := free_blk Q2.out
    have f2 : w5.frozen? ⟨g2, 2, none⟩ = false := free_blk Q2.out
    have f4 : w5.frozen? ⟨g2, 4, none⟩ = false := free_blk Q2.out
    have f9 : w5.frozen? ⟨g2, 9, none⟩ = false := free_blk Q2.out
    have d0 : w5.cell? ⟨g1, 0, none⟩ = some (.bool false) := cell_blk Q1.out
    have d1 : w5.cell? ⟨g1, 1, none⟩ = some (.int .u8 0) := cell_blk Q1.out
    have d2 : w5.cell? ⟨g1, 2, none⟩ = some (.int .u16 0) := cell_blk Q1.out
    have d3 : w5.cell? ⟨g1, 3, none⟩ = some (.int .u32 0) := cell_blk Q1.out
    have d4 : w5.cell? ⟨g1, 4, none⟩ = some (.int .u32 0) := cell_blk Q1.out
    have d5 : w5.cell? ⟨g1, 5, none⟩ = some (.slice none 0 0) := cell_blk Q1.out
    have d6 : w5.cell? ⟨g1, 6, none⟩ = some (.bool false) := cell_blk Q1.out
    have d7 : w5.cell? ⟨g1, 7, none⟩ = some (.int .u16 0) := cell_blk Q1.out
    have d8 : w5.cell? ⟨g1, 8, none⟩ = some (.slice none 0 0) := cell_blk Q1.out
    have d9 : w5.cell? ⟨g1, 9, none⟩ = some (.slice none 0 0) := cell_blk Q1.out
    have d10 : w5.cell? ⟨g1, 10, none⟩ = some (.int .u8 0) := cell_blk Q1.out
    have z0 : w5.frozen? ⟨g1, 0, none⟩ = false := free_blk Q1.out
    have z1 : w5.frozen? ⟨g1, 1, none⟩ = false := free_blk Q1.out
    have z2 : w5.frozen? ⟨g1, 2, none⟩ = false := free_blk Q1.out
    have z3 : w5.frozen? ⟨g1, 3, none⟩ = false := free_blk Q1.out
    have z4 : w5.frozen? ⟨g1, 4, none⟩ = false := free_blk Q1.out
    have z5 : w5.frozen? ⟨g1, 5, none⟩ = false := free_blk Q1.out
    have z6 : w5.frozen? ⟨g1, 6, none⟩ = false := free_blk Q1.out
    have z7 : w5.frozen? ⟨g1, 7, none⟩ = false := free_blk Q1.out
    have z8 : w5.frozen? ⟨g1, 8, none⟩ = false := free_blk Q1.out
    have z9 : w5.frozen? ⟨g1, 9, none⟩ = false := free_blk Q1.out
    have z10 : w5.frozen? ⟨g1, 10, none⟩ = false := free_blk Q1.out
    go_wp2_with fail
    clear e0 d0 z0 e1 d1 z1 e2 d2 z2 e3 d3 z3 e4 d4 z4 e5 d5 z5 e6 d6 z6 e7 d7 z7 e8 d8 z8 e9 d9 z9 e10 d10 z10 f1 f2 f4 f9
    generalize hF : World.setCell _ _ _ = Wf
    have gf : Wf.heap[g1]? = some (.cells #[(.bool m), (.int .u8 ty'), (.int .u16 nv), (.int .u32 st), (.int .u32 src'), (.slice oa on oc), (.bool ex), (.int .u16 pr), (.slice xa xn xc), (.slice a5 0 c5), (.int .u8 pd)] 44 (0, 0)) := by rw [← hF]; simp [heap_set, Q1.out, Q2.out, putIn, n12, n21]
    have O7 := own_blk1x O6.out (w' := Wf) (fun k hk => by
      have := (HL5.out k hk).1
      rw [← hF]
      simp [heap_set, show k ≠ g1 by omega, show k ≠ g2 by omega])
    have BF : Below w.heap.size w Wf := by
      rw [← hF]
      iterate 11 refine Below.setCell ?_ w1' _
      iterate 4 refine Below.setCell ?_ w2' _
      exact B6.out
    clear hF
    have r0 : Wf.cell? ⟨g1, 0, none⟩ = some (.bool m) := cell_blk gf
    have r1 : Wf.cell? ⟨g1, 1, none⟩ = some (.int .u8 ty') := cell_blk gf
    have r2 : Wf.cell? ⟨g1, 2, none⟩ = some (.int .u16 nv) := cell_blk gf
    have r3 : Wf.cell? ⟨g1, 3, none⟩ = some (.int .u32 st) := cell_blk gf
    have r4 : Wf.cell? ⟨g1, 4, none⟩ = some (.int .u32 src') := cell_blk gf
    have r5 : Wf.cell? ⟨g1, 5, none⟩ = some (.slice oa on oc) := cell_blk gf
    have r6 : Wf.cell? ⟨g1, 6, none⟩ = some (.bool ex) := cell_blk gf
    have r7 : Wf.cell? ⟨g1, 7, none⟩ = some (.int .u16 pr) := cell_blk gf
    have r8 : Wf.cell? ⟨g1, 8, none⟩ = some (.slice xa xn xc) := cell_blk gf
    have r9 : Wf.cell? ⟨g1, 9, none⟩ = some (.slice a5 0 c5) := cell_blk gf
    have r10 : Wf.cell? ⟨g1, 10, none⟩ = some (.int .u8 pd) := cell_blk gf
    refine bodyPost_ret (v := .tuple #[.agg #[(.bool m), (.int .u8 ty'), (.int .u16 nv), (.int .u32 st), (.int .u32 src'), (.slice oa on oc), (.bool ex), (.int .u16 pr), (.slice xa xn xc), (.slice a5 0 c5), (.int .u8 pd)], .int .i64 0]) (by simp [results, Try.results27, go_sem, r0, r1, r2, r3, r4, r5, r6, r7, r8, r9, r10]) rfl ?_
    obtain ⟨a', c', he, hs⟩ := BS.of_owns O7 (fun i hi => HZ.out.bd _ (by omega)) (by omega)
    cases he
    exact ⟨a5, c5, rfl, hs, BF, fun b o s e => by subst e; have := (HL5.out b rfl).1; have := HBW.out.size; omega⟩
  · refine (hcl2.out ⟨b, off + 2, none⟩ (c - 2) HS.out.1).mono ?_
    clear hcl2
    rintro e w5 ⟨a5, c5, rfl, S5, B5⟩
    have L5 := S5.lt
    have Q2 : Hid (w5.heap[g2]? = some (.cells #[(.bool m), (.int .u8 ty), (.int .u16 sq), (.int .u32 st), (.int .u32 src), (.slice oa on oc), (.bool ex), (.int .u16 pr), (.slice xa xn xc), (.slice (some ⟨b, off, none⟩) n c), (.int .u8 pd)] 44 (0, 0))) := Lib.hid ((B5.block g2 l2).trans HQ2.out)
    have Q1 : Hid (w5.heap[g1]? = some (.cells #[(.bool false), (.int .u8 0), (.int .u16 0), (.int .u32 0), (.int .u32 0), (.slice none 0 0), (.bool false), (.int .u16 0), (.slice none 0 0), (.slice none 0 0), (.int .u8 0)] 44 (0, 0))) := Lib.hid ((B5.block g1 l1).trans HQ1.out)
    have O6 := Lib.hid S5
    have B6 : Hid (Below w.heap.size w w5) := Lib.hid (HBW.out.trans (B5.mono HBW.out.size))
    have HL5 := Lib.hid L5
    clear S5 B5 L5
    have e0 : w5.cell? ⟨g2, 0, none⟩ = some (.bool m) := cell_blk Q2.out
    have e1 : w5.cell? ⟨g2, 1, none⟩ = some (.int .u8 ty) := cell_blk Q2.out
    have e2 : w5.cell? ⟨g2, 2, none⟩ = some (.int .u16 sq) := cell_blk Q2.out
    have e3 : w5.cell? ⟨g2, 3, none⟩ = some (.int .u32 st) := cell_blk Q2.out
    have e4 : w5.cell? ⟨g2, 4, none⟩ = some (.int .u32 src) := cell_blk Q2.out
    have e5 : w5.cell? ⟨g2, 5, none⟩ = some (.slice oa on oc) := cell_blk Q2.out
    have e6 : w5.cell? ⟨g2, 6, none⟩ = some (.bool ex) := cell_blk Q2.out
    have e7 : w5.cell? ⟨g2, 7, none⟩ = some (.int .u16 pr) := cell_blk Q2.out
    have e8 : w5.cell? ⟨g2, 8, none⟩ = some (.slice xa xn xc) := cell_blk Q2.out
    have e9 : w5.cell? ⟨g2, 9, none⟩ = some (.slice (some ⟨b, off, none⟩) n c) := cell_blk Q2.out
    have e10 : w5.cell? ⟨g2, 10, none⟩ = some (.int .u8 pd) := cell_blk Q2.out
    have f1 : w5.frozen? ⟨g2, 1, none⟩ = false := free_blk Q2.out
    have f2 : w5.frozen? ⟨g2, 2, none⟩ = false := free_blk Q2.out
    have f4 : w5.frozen? ⟨g2, 4, none⟩ = false := free_blk Q2.out
    have f9 : w5.frozen? ⟨g2, 9, none⟩ = false := free_blk Q2.out
    have d0 : w5.cell? ⟨g1, 0, none⟩ = some (.bool false) := cell_blk Q1.out
    have d1 : w5.cell? ⟨g1, 1, none⟩ = some (.int .u8 0) := cell_blk Q1.out
    have d2 : w5.cell? ⟨g1, 2, none⟩ = some (.int .u16 0) := cell_blk Q1.out
    have d3 : w5.cell? ⟨g1, 3, none⟩ = some (.int .u32 0) := cell_blk Q1.out
    have d4 : w5.cell? ⟨g1, 4, none⟩ = some (.int .u32 0) := cell_blk Q1.out
    have d5 : w5.cell? ⟨g1, 5, none⟩ = some (.slice none 0 0) := cell_blk Q1.out
    have d6 : w5.cell? ⟨g1, 6, none⟩ = some (.bool false) := cell_blk Q1.out
    have d7 : w5.cell? ⟨g1, 7, none⟩ = some (.int .u16 0) := cell_blk Q1.out
    have d8 : w5.cell? ⟨g1, 8, none⟩ = some (.slice none 0 0) := cell_blk Q1.out
    have d9 : w5.cell? ⟨g1, 9, none⟩ = some (.slice none 0 0) := cell_blk Q1.out
    have d10 : w5.cell? ⟨g1, 10, none⟩ = some (.int .u8 0) := cell_blk Q1.out
    have z0 : w5.frozen? ⟨g1, 0, none⟩ = false := free_blk Q1.out
    have z1 : w5.frozen? ⟨g1, 1, none⟩ = false := free_blk Q1.out
    have z2 : w5.frozen? ⟨g1, 2, none⟩ = false := free_blk Q1.out
    have z3 : w5.frozen? ⟨g1, 3, none⟩ = false := free_blk Q1.out
    have z4 : w5.frozen? ⟨g1, 4, none⟩ = false := free_blk Q1.out
    have z5 : w5.frozen? ⟨g1, 5, none⟩ = false := free_blk Q1.out
    have z6 : w5.frozen? ⟨g1, 6, none⟩ = false := free_blk Q1.out
    have z7 : w5.frozen? ⟨g1, 7, none⟩ = false := free_blk Q1.out
    have z8 : w5.frozen? ⟨g1, 8, none⟩ = false := free_blk Q1.out
    have z9 : w5.frozen? ⟨g1, 9, none⟩ = false := free_blk Q1.out
    have z10 : w5.frozen? ⟨g1, 10, none⟩ = false := free_blk Q1.out
    go_wp2_with fail
    clear e0 d0 z0 e1 d1 z1 e2 d2 z2 e3 d3 z3 e4 d4 z4 e5 d5 z5 e6 d6 z6 e7 d7 z7 e8 d8 z8 e9 d9 z9 e10 d10 z10 f1 f2 f4 f9
    generalize hF : World.setCell _ _ _ = Wf
    have gf : Wf.heap[g1]? = some (.cells #[(.bool m), (.int .u8 ty'), (.int .u16 nv), (.int .u32 st), (.int .u32 src'), (.slice oa on oc), (.bool ex), (.int .u16 pr), (.slice xa xn xc), (.slice a5 l c5), (.int .u8 pd)] 44 (0, 0)) := by rw [← hF]; simp [heap_set, Q1.out, Q2.out, putIn, n12, n21]
    have O7 := own_blk1x O6.out (w' := Wf) (fun k hk => by
      have := (HL5.out k hk).1
      rw [← hF]
      simp [heap_set, show k ≠ g1 by omega, show k ≠ g2 by omega])
    have BF : Below w.heap.size w Wf := by
      rw [← hF]
      iterate 11 refine Below.setCell ?_ w1' _
      iterate 4 refine Below.setCell ?_ w2' _
      exact B6.out
    clear hF
    have r0 : Wf.cell? ⟨g1, 0, none⟩ = some (.bool m) := cell_blk gf
    have r1 : Wf.cell? ⟨g1, 1, none⟩ = some (.int .u8 ty') := cell_blk gf
    have r2 : Wf.cell? ⟨g1, 2, none⟩ = some (.int .u16 nv) := cell_blk gf
    have r3 : Wf.cell? ⟨g1, 3, none⟩ = some (.int .u32 st) := cell_blk gf
    have r4 : Wf.cell? ⟨g1, 4, none⟩ = some (.int .u32 src') := cell_blk gf
    have r5 : Wf.cell? ⟨g1, 5, none⟩ = some (.slice oa on oc) := cell_blk gf
    have r6 : Wf.cell? ⟨g1, 6, none⟩ = some (.bool ex) := cell_blk gf
    have r7 : Wf.cell? ⟨g1, 7, none⟩ = some (.int .u16 pr) := cell_blk gf
    have r8 : Wf.cell? ⟨g1, 8, none⟩ = some (.slice xa xn xc) := cell_blk gf
    have r9 : Wf.cell? ⟨g1, 9, none⟩ = some (.slice a5 l c5) := cell_blk gf
    have r10 : Wf.cell? ⟨g1, 10, none⟩ = some (.int .u8 pd) := cell_blk gf
    refine bodyPost_ret (v := .tuple #[.agg #[(.bool m), (.int .u8 ty'), (.int .u16 nv), (.int .u32 st), (.int .u32 src'), (.slice oa on oc), (.bool ex), (.int .u16 pr), (.slice xa xn xc), (.slice a5 l c5), (.int .u8 pd)], .int .i64 0]) (by simp [results, Try.results27, go_sem, r0, r1, r2, r3, r4, r5, r6, r7, r8, r9, r10]) rfl ?_
    obtain ⟨a', c', he, hs⟩ := BS.of_owns O7 (fun i hi => HZ.out.bd _ (by omega)) (by omega)
    cases he
    exact ⟨a5, c5, rfl, hs, BF, fun b o s e => by subst e; have := (HL5.out b rfl).1; have := HBW.out.size; omega⟩
theorem unwrap_long (B : Nat) (w : World) (m : Bool) (ty sq st src : Int) (oa : Option Addr) (on oc : Nat) (ex : Bool) (pr : Int) (xa : Option Addr) (xn xc : Nat) (a : Option Addr) (n c : Nat) (Z : Nat → Int) (pd : Int) (l : Nat) (src' ty' : Int) (hZ : BS B w a n c Z) (hB : B ≤ w.heap.size) (hnl : n = l + 2) (hn : n ≤ 9000) :
    Calls Try.prog 27 #[.agg #[(.bool m), (.int .u8 ty), (.int .u16 sq), (.int .u32 st), (.int .u32 src), (.slice oa on oc), (.bool ex), (.int .u16 pr), (.slice xa xn xc), (.slice a n c), (.int .u8 pd)], .int .u32 src', .int .u8 ty'] w fun e w' => ∃ a5 c5, e = .returned (.tuple #[.agg #[(.bool m), (.int .u8 ty'), (.int .u16 (numv Z 0 2)), (.int .u32 st), (.int .u32 src'), (.slice oa on oc), (.bool ex), (.int .u16 pr), (.slice xa xn xc), (.slice a5 l c5), (.int .u8 pd)], .int .i64 0]) ∧ BS w'.heap.size w' a5 l c5 (fun i => Z (2 + i)) ∧ Below w.heap.size w w' :=
  (unwrap_fresh B w m ty sq st src oa on oc ex pr xa xn xc a n c Z pd l src' ty' hZ hB hnl hn).mono (by rintro e w' ⟨a5, c5, h1, h2, h3, _⟩; exact ⟨a5, c5, h1, h2, h3⟩)
set_option maxRecDepth 100000 in
set_option maxHeartbeats 8000000 in
theorem unwrap_short (B : Nat) (w : World) (m : Bool) (ty sq st src : Int) (oa : Option Addr) (on oc : Nat) (ex : Bool) (pr : Int) (xa : Option Addr) (xn xc : Nat) (a : Option Addr) (n c : Nat) (Z : Nat → Int) (pd : Int) (src' ty' : Int) (hZ : BS B w a n c Z) (hB : B ≤ w.heap.size) (hn2 : n < 2) :
    Calls Try.prog 27 #[.agg #[(.bool m), (.int .u8 ty), (.int .u16 sq), (.int .u32 st), (.int .u32 src), (.slice oa on oc), (.bool ex), (.int .u16 pr), (.slice xa xn xc), (.slice a n c), (.int .u8 pd)], .int .u32 src', .int .u8 ty'] w fun e w' => e = .returned (.tuple #[.agg #[(.bool false), (.int .u8 0), (.int .u16 0), (.int .u32 0), (.int .u32 0), (.slice none 0 0), (.bool false), (.int .u16 0), (.slice none 0 0), (.slice none 0 0), (.int .u8 0)], .int .i64 2]) ∧ Below w.heap.size w w' := by
  have e1 : there n 0 2 = false := by rw [← Bool.not_eq_true, there_iff]; omega
  have e2 : numOr Z n 0 2 = 0 := by unfold numOr; rw [e1]; rfl
  have HZ := Lib.hid hZ
  clear hZ
  go_enter Try.func27, Try.ntmps27
  go_wp2_with fail
  refine (num_any B _ n c Z 0 2 _ (HZ.out.keep ((((Below.refl _ w).alloc (Nat.le_refl _) _).alloc (by simp) _).mono hB)) (by omega) (by omega) (by omega) (by omega)).mono ?_
  rintro e w' ⟨rfl, rfl⟩
  rw [e1, e2]
  go_wp2_with fail
  exact bodyPost_ret (v := .tuple #[.agg #[(.bool false), (.int .u8 0), (.int .u16 0), (.int .u32 0), (.int .u32 0), (.slice none 0 0), (.bool false), (.int .u16 0), (.slice none 0 0), (.slice none 0 0), (.int .u8 0)], .int .i64 2]) (by simp [results, Try.results27, go_sem]) rfl ⟨rfl, by (repeat (first | exact Below.refl _ _ | refine Below.alloc ?_ (by first | (simp; done) | (simp; omega) | (simp [size_drewN]; done) | (simp [size_drewN]; omega)) _ | refine Below.drew ?_ | refine below_drewN0 ?_ _ | refine Below.setCell ?_ (by first | (simp; done) | (simp; omega) | (simp [size_drewN]; done) | (simp [size_drewN]; omega)) _))⟩
end Go.Proofs.Ytihbceippcgfgaa
