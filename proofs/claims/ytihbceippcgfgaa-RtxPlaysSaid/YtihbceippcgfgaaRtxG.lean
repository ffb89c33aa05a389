/-
  Chapter 34: the number of what is sent again.
-/
import Derived.Test.YtihbceippcgfgaaRtxP
namespace Go.Proofs.Ytihbceippcgfgaa
open Go.RowKit
set_option linter.unusedVariables false
set_option linter.unusedSimpArgs false
attribute [local irreducible] wpStill wpQuiet
attribute [local go_sem] MixC.rdOp MixC.rd MixC.rdUpon MixC.mvUpon

set_option maxRecDepth 100000 in
set_option maxHeartbeats 1000000 in
theorem next_any (W : World) (g bp bf n g2 g3 g6 : Nat) (f1 : Int → Option (Int × Int × Int)) (F2 : Int → Option Value) (s1 s2 : Nat) (to typ nx src : Int) (pc : Array Value) (hT : Tab W g bp bf n (pairsOf f1) F2 s1 s2) (h6 : W.heap[g6]? = some (.cells #[.int .u32 to, .int .u8 typ, .int .u16 nx] 136 (0, 0)))
    (h2 : W.heap[g2]? = some (.cells #[.pointer (some ⟨g, 0, none⟩)] 54 (0, 0))) (h3 : W.heap[g3]? = some (.cells pc 44 (0, 0))) (h34 : pc[4]? = some (.int .u32 src)) (hsrc : (Lit.int .u32 src).wf = true) (hin : (f1 src).isSome = true) (n0 : 0 ≤ nx) (n1 : nx ≤ 65535) (hn : n < 1000)
    (d1 : g6 ≠ g) (d2 : g6 ≠ bp) (d3 : g6 ≠ bf) (d4 : g6 ≠ g2) (d5 : g6 ≠ g3) :
    Calls Try.prog 79 #[.pointer (some ⟨g6, 0, none⟩), .pointer (some ⟨g2, 0, none⟩), .pointer (some ⟨g3, 0, none⟩)] W fun e w' => e = .returned (.int .u16 nx) ∧ Tab w' g bp bf (n + 1) (pairsOf (updI f1 src (some (to, typ, (nx + 1) % 65536)))) F2 s1 s2 ∧ w'.heap[g6]? = some (.cells #[.int .u32 to, .int .u8 typ, .int .u16 ((nx + 1) % 65536)] 136 (0, 0)) ∧ KeepsL [g6, bp] W w' := by
  have c2 : W.cell? ⟨g6, 2, none⟩ = some (.int .u16 nx) := cell_blk h6
  have z2 : W.frozen? ⟨g6, 2, none⟩ = false := free_blk h6
  have k1 : IntKind.u16.wrap (nx + 1) = (nx + 1) % 65536 := by rw [IntKind.wrap_u16]
  have k2 : IntKind.u16.wrap ((nx + 1) % 65536 - 1) = nx := by rw [IntKind.wrap_u16]; omega
  have HT := Lib.hid hT
  have H6 := Lib.hid h6
  have H2 := Lib.hid h2
  have H3 := Lib.hid h3
  have H34 := Lib.hid h34
  have HS := Lib.hid hsrc
  have HI := Lib.hid hin
  clear hT h6 h2 h3 h34 hsrc hin
  go_enter Try.func79, Try.ntmps79
  go_wp2_with fail
  generalize hV : World.setCell W _ _ = V
  have KV : Keeps g6 W V := by rw [← hV]; exact (Keeps.refl g6 W).setCell (.inl rfl) _
  have SV : V.heap.size = W.heap.size := by rw [← hV]; simp [World.setCell]
  have V6 : V.heap[g6]? = some (.cells #[.int .u32 to, .int .u8 typ, .int .u16 ((nx + 1) % 65536)] 136 (0, 0)) := by rw [← hV, set_blk _ H6.out]; rfl
  clear hV
  have TV : Tab V g bp bf n (pairsOf f1) F2 s1 s2 := ⟨KV.blk HT.out.blk (Ne.symm d1), HT.out.m1.of_blk (KV.block _ HT.out.m1.lt (Ne.symm d2)), HT.out.m2.of_blk (KV.block _ HT.out.m2.lt (Ne.symm d3)), HT.out.n1, HT.out.n2, HT.out.n3⟩
  have V2 := KV.blk H2.out (Ne.symm d4)
  have V3 := KV.blk H3.out (Ne.symm d5)
  obtain ⟨w1, hr, hm, k1', z1'⟩ := (TV.drewN 1).m1.store Try.underlying130 (by unfold maxLen; omega) src HS.out (pairV to typ ((nx + 1) % 65536))
  rw [pairsOf_upd, pairsOf_some, HI.out] at hm
  have e0 : V.cell? ⟨g2, 0, none⟩ = some (.pointer (some ⟨g, 0, none⟩)) := cell_blk V2
  have e1 : V.cell? ⟨g, 0, none⟩ = some (.map (some bp)) := cell_blk TV.blk
  have e2 : V.cell? ⟨g3, 4, none⟩ = some (.int .u32 src) := by rw [cell_blk V3]; exact H34.out
  have e3 : V.cell? ⟨g6, 0, none⟩ = some (.int .u32 to) := cell_blk V6
  have e4 : V.cell? ⟨g6, 1, none⟩ = some (.int .u8 typ) := cell_blk V6
  have e5 : V.cell? ⟨g6, 2, none⟩ = some (.int .u16 ((nx + 1) % 65536)) := cell_blk V6
  have hr' : (Instr.mapUpdate 130 (.map (some bp)) (.int .u32 src) (.agg #[.int .u32 to, .int .u8 typ, .int .u16 ((nx + 1) % 65536)])).run Try.prog V.drew = .ok () w1 := hr
  have x6 : w1.heap[g6]? = some (.cells #[.int .u32 to, .int .u8 typ, .int .u16 ((nx + 1) % 65536)] 136 (0, 0)) := k1'.blk (w := V.drewN 1) V6 d2
  have e6 : w1.cell? ⟨g6, 2, none⟩ = some (.int .u16 ((nx + 1) % 65536)) := cell_blk x6
  have TD := TV.drewN 1
  have R : Hid (Tab w1 g bp bf (n + 1) (pairsOf (updI f1 src (some (to, typ, (nx + 1) % 65536)))) F2 s1 s2) := Lib.hid ⟨k1'.blk TD.blk HT.out.n1, hm, (TD.m2.of_blk (k1'.block _ TD.m2.lt (Ne.symm HT.out.n3))).mono (Nat.le_succ _), HT.out.n1, HT.out.n2, HT.out.n3⟩
  have R6 := Lib.hid x6
  have KK : Hid (KeepsL [g6, bp] W w1) := Lib.hid ((KeepsL.of KV (by simp)).trans ((KeepsL.of_below (Below.refl _ V).drew).trans (KeepsL.of k1' (by simp))))
  clear hr hm k1' z1' TD x6 TV V2 V3 V6 KV
  refine wp_region_still_tail 7 (by kernel_rfl) (by kernel_rfl) ?_
  simp only [List.take_succ_cons, List.take_zero, List.drop_succ_cons, List.drop_zero]
  iterate 7 still_step
  refine wpStill_nil ?_
  change wpList _ _ _ _ _ V.drew
  go_wp2_with fail
  go_ret
  exact ⟨rfl, R.out, R6.out, KK.out⟩
end Go.Proofs.Ytihbceippcgfgaa
