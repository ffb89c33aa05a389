/-
  Chapter 34: a pair is laid.
-/
import Derived.Test.YtihbceippcgfgaaRtxT
namespace Go.Proofs.Ytihbceippcgfgaa
open Go.RowKit
set_option linter.unusedVariables false
set_option linter.unusedSimpArgs false
attribute [local irreducible] wpStill wpQuiet
attribute [local go_sem] MixC.rdOp MixC.rd MixC.rdUpon MixC.mvUpon

def HasB (g : Nat) (o : Obj) (w : World) : Prop := w.heap[g]? = some o
set_option maxRecDepth 100000 in
set_option maxHeartbeats 1000000 in
theorem pair_ok (w : World) (g bp bf n : Nat) (f1 : Int → Option (Int × Int × Int)) (f2 : Int → Option Int) (s1 s2 : Nat) (a b typ : Int) (h : Tab w g bp bf n (pairsOf f1) (firstOf f2) s1 s2) (ha : (Lit.int .u32 a).wf = true) (hb : (Lit.int .u32 b).wf = true) (hab : a ≠ b) (ht : typ ≤ 127)
    (hp : ((f1 a).isSome || (f2 a).isSome) = false) (hs : ((f1 b).isSome || (f2 b).isSome) = false) (hf : s1 < 16) (hn : n < 1000) :
    Calls Try.prog 32 #[.pointer (some ⟨g, 0, none⟩), .int .u32 a, .int .u32 b, .int .u8 typ] w fun e w' => e = .returned (.int .i64 0) ∧ Tab w' g bp bf (n + 1) (pairsOf (updI f1 a (some (b, typ, 0)))) (firstOf (updI f2 b (some a))) (s1 + 1) (s2 + 1) ∧ KeepsL [bp, bf] w w' := by
  have e1 : (a == b) = false := by simpa using hab
  have e2 : decide (a = b) = false := by simpa using hab
  have e3 : decide (127 < typ) = false := by (simp; omega)
  have e4 : decide ((16 : Int) ≤ s1) = false := by (simp; omega)
  have H := Lib.hid h
  have HA := Lib.hid ha
  have HB := Lib.hid hb
  have HP := Lib.hid hp
  have HS := Lib.hid hs
  have HAB := Lib.hid hab
  clear h hp hs ha hb hab
  go_enter Try.func32, Try.ntmps32
  go_wp2_with fail
  refine (paired_hid w g bp bf n f1 f2 s1 s2 a false H.out HA.out HP.out).mono ?_
  rintro e w1 ⟨rfl, b1⟩
  go_wp2_with fail
  refine (paired_hid w1 g bp bf n f1 f2 s1 s2 b false (H.out.keep b1) HB.out HS.out).mono ?_
  rintro e w2 ⟨rfl, b2⟩
  have T2 := Lib.hid ((H.out.keep b1).keep b2)
  have K2 : Hid (KeepsL [bp, bf] w w2) := Lib.hid (KeepsL.of_below (b1.trans (b2.mono b1.size)))
  have c0 : w2.cell? ⟨g, 0, none⟩ = some (.map (some bp)) := cell_blk T2.out.blk
  have hl := T2.out.m1.len Try.underlying130
  clear b1 b2
  go_wp2_with fail
  clear c0 hl
  -- the region
  have T3 := Lib.hid (T2.out.drewN 1)
  obtain ⟨v0, st, w3, r1, k1, z1, next1⟩ := T3.out.m1.entry Try.underlying130 zeroPair (by unfold maxLen; omega) a HA.out
  obtain ⟨w4, r2, k2, z2, m1⟩ := next1 w3 (pairV b typ 0) rfl
  have m2 : MapI kU32 w4 bf n (firstOf f2) s2 := T3.out.m2.of_blk (by
    rw [k2.block bf (by rw [z1]; exact T3.out.m2.lt) (Ne.symm T2.out.n3), k1.block bf T3.out.m2.lt (Ne.symm T2.out.n3)])
  obtain ⟨v1, st1, w5, r3, k3, z3, next2⟩ := m2.entry Try.underlying131 zeroU32 (by unfold maxLen; omega) b HB.out
  obtain ⟨w6, r4, k4, z4, m3⟩ := next2 w5 (.int .u32 a) rfl
  rw [pairsOf_upd, pairsOf_some] at m1
  rw [firstOf_upd, firstOf_some] at m3
  have hp := HP.out
  have hs := HS.out
  simp only [Bool.or_eq_false_iff] at hp hs
  rw [hp.1] at m1
  rw [hs.2] at m3
  have q2 : HasB g (.cells #[.map (some bp), .map (some bf)] 133 (0, 0)) w2.drew := T3.out.blk
  have q3 : HasB g (.cells #[.map (some bp), .map (some bf)] 133 (0, 0)) w3 := k1.blk q2 T2.out.n1
  have q4 : HasB g (.cells #[.map (some bp), .map (some bf)] 133 (0, 0)) w4 := k2.blk q3 T2.out.n1
  have q5 : HasB g (.cells #[.map (some bp), .map (some bf)] 133 (0, 0)) w5 := k3.blk q4 T2.out.n2
  have q6 : HasB g (.cells #[.map (some bp), .map (some bf)] 133 (0, 0)) w6 := k4.blk q5 T2.out.n2
  have m1' := m1.of_blk (w' := w6) (by rw [k4.block bp (by rw [z3, z2, z1]; exact T3.out.m1.lt) T2.out.n3, k3.block bp (by rw [z2, z1]; exact T3.out.m1.lt) T2.out.n3])
  have R : Hid (Tab w6 g bp bf (n + 1) (pairsOf (updI f1 a (some (b, typ, 0)))) (firstOf (updI f2 b (some a))) (s1 + 1) (s2 + 1)) := Lib.hid ⟨q6, m1', m3, T2.out.n1, T2.out.n2, T2.out.n3⟩
  have K : Hid (KeepsL [bp, bf] w w6) := Lib.hid (K2.out.trans ((KeepsL.of_below ((Below.refl _ w2).drew)).trans ((KeepsL.of k1 (by simp)).trans ((KeepsL.of k2 (by simp)).trans ((KeepsL.of k3 (by simp)).trans (KeepsL.of k4 (by simp)))))))
  have Q2 := Lib.hid q2
  have Q3 := Lib.hid q3
  have Q4 := Lib.hid q4
  have Q5 := Lib.hid q5
  have Q6 := Lib.hid q6
  clear next1 next2 m1 m2 m3 m1' k1 k2 k3 k4 z1 z2 z3 z4 hp hs q2 q3 q4 q5 q6 K2
  have y0 : ∀ y : { w' : World // HasB g (.cells #[.map (some bp), .map (some bf)] 133 (0, 0)) w' }, y.1.cell? ⟨g, 0, none⟩ = some (.map (some bp)) := fun y => cell_blk y.2
  have y1 : ∀ y : { w' : World // HasB g (.cells #[.map (some bp), .map (some bf)] 133 (0, 0)) w' }, y.1.cell? ⟨g, 1, none⟩ = some (.map (some bf)) := fun y => cell_blk y.2
  have r1' : (Instr.mapEntry 130 (.map (some bp)) (.int .u32 a)).run Try.prog w2.drew = .ok (.tuple #[v0, .int .i64 st]) w3 := r1
  have r2' : (Instr.entryStore 130 (.map (some bp)) (.int .i64 st) (.agg #[.int .u32 b, .int .u8 typ, .int .u16 0])).run Try.prog w3 = .ok () w4 := r2
  have r3' : (Instr.mapEntry 131 (.map (some bf)) (.int .u32 b)).run Try.prog w4 = .ok (.tuple #[v1, .int .i64 st1]) w5 := r3
  have r4' : (Instr.entryStore 131 (.map (some bf)) (.int .i64 st1) (.int .u32 a)).run Try.prog w5 = .ok () w6 := r4
  clear r1 r2 r3 r4
  have hne : Nonempty { w' : World // HasB g (.cells #[.map (some bp), .map (some bf)] 133 (0, 0)) w' } := ⟨⟨_, Q2.out⟩⟩
  refine MixC.wp_region_mix [14, 15, 16, 17, 18, 19] (HasB g (.cells #[.map (some bp), .map (some bf)] 133 (0, 0))) Q2.out (by kernel_rfl) (by kernel_rfl) (by kernel_rfl) ?_
  iterate 14 (refine MixC.mix_read rfl (fun K hK => ?_); go_simp; refine hK _ ?_; clear hK K)
  (refine MixC.mix_move rfl (fun K hK => ?_); go_simp; refine ⟨Q3.out, hK _ _ ?_⟩; clear hK K)
  (refine MixC.mix_move rfl (fun K hK => ?_); go_simp; refine ⟨Q3.out, hK _ _ ?_⟩; clear hK K)
  (refine MixC.mix_move rfl (fun K hK => ?_); go_simp; refine ⟨Q4.out, hK _ _ ?_⟩; clear hK K)
  (refine MixC.mix_move rfl (fun K hK => ?_); go_simp; refine ⟨Q5.out, hK _ _ ?_⟩; clear hK K)
  (refine MixC.mix_move rfl (fun K hK => ?_); go_simp; refine ⟨Q5.out, hK _ _ ?_⟩; clear hK K)
  (refine MixC.mix_move rfl (fun K hK => ?_); go_simp; refine ⟨Q6.out, hK _ _ ?_⟩; clear hK K)
  refine MixC.mix_nil ?_
  change Exit.then _ _ _ _ w6
  go_wp2_with fail
  go_ret
  exact ⟨rfl, R.out, K.out⟩
end Go.Proofs.Ytihbceippcgfgaa
