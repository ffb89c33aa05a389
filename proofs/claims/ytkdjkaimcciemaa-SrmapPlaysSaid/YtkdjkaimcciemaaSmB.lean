/-
  Chapter 38: the book's other methods.
-/
import Derived.Test.YtkdjkaimcciemaaSmA
import Derived.Test.YtkdjkaimcciemaaFillB
import Derived.Test.YtkdjkaimcciemaaMixC
namespace Go.Proofs.Ytkdjkaimcciemaa
open Go.RowKit
set_option linter.unusedVariables false
set_option linter.unusedSimpArgs false
attribute [local irreducible] wpStill wpQuiet MixC.wpMix
attribute [local go_sem] MixC.rdOp MixC.rd MixC.rdUpon MixC.mvUpon

set_option maxHeartbeats 2000000 in
theorem bkdrop_any (w : World) (gk gm n : Nat) (f : Int → Option Sy) (sz : Nat) (x : Int) (h : Bk gk gm n f sz w) (hx : (Lit.int .u32 x).wf = true) :
    Calls Try.prog 21 #[.pointer (some ⟨gk, 0, none⟩), .int .u32 x] w fun e w' => ((f x).isSome = false ∧ e = .returned (.int .i64 9) ∧ Bk gk gm n f sz w' ∧ Keeps gm w w') ∨ ((f x).isSome = true ∧ e = .returned (.int .i64 0) ∧ Bk gk gm n (updS f x none) (sz - 1) w' ∧ Keeps gm w w') := by
  have c0 := h.cell
  obtain ⟨s0, hlk, -⟩ := h.look x hx
  have H := Lib.hid h
  obtain ⟨W0, hW0⟩ : ∃ W0, w.alloc (.cells #[.int .u64 s0.T, .int .u32 s0.S, .int .u32 s0.R] 25) = W0 := ⟨_, rfl⟩
  have b0 : Below w.heap.size w W0 := by rw [← hW0]; exact (Below.refl _ _).alloc (Nat.le_refl _) _
  have h0 := h.keep b0
  have c1 := h0.cell
  have H0 := Lib.hid h0
  have KB : Hid (Keeps gm w W0) := Lib.hid ((Keeps.refl _ _).of_below b0)
  obtain ⟨W1, hdr, hm1, hk1, hs1⟩ : ∃ W1, (∀ ty, (Builtin.delete_ #[107, 23] ty #[.map (some gm), .int .u32 x]).run Try.prog W0 = .ok (.tuple #[]) W1) ∧ MapI kS W1 gm n (setAt (sysOf f) x none) (if (sysOf f x).isSome then sz - 1 else sz) ∧ Keeps gm W0 W1 ∧ W1.heap.size = W0.heap.size := by
    obtain ⟨W1, h1, h2, h3, h4⟩ := h0.map.drop (t := 107) Try.underlying107 x hx 0
    refine ⟨W1, fun ty => ?_, h2, h3, h4⟩
    have e : (Builtin.delete_ #[107, 23] ty #[.map (some gm), kS.kv x]).run Try.prog W0 = (Builtin.delete_ #[107, 23] 0 #[.map (some gm), kS.kv x]).run Try.prog W0 := rfl
    exact e.trans h1
  rw [sysOf_del, sysOf_some] at hm1
  obtain ⟨th, hth⟩ : ∃ th, (f x).isSome = th := ⟨_, rfl⟩
  rw [hth] at hlk hm1 ⊢
  cases th with
  | false =>
    clear hdr hm1 hk1 hs1 h h0 c1 b0 hth
    go_enter Try.func21, Try.ntmps21
    go_wp2_with fail
    go_ret
    exact .inl ⟨by first | rfl | trivial, by first | rfl | trivial, H0.out, KB.out⟩
  | true =>
    have B1 : Hid (Bk gk gm n (updS f x none) (sz - 1) W1) := Lib.hid ⟨(hk1.block gk (lt_of_block H0.out.blk) H0.out.ne).trans H0.out.blk, hm1, H0.out.ne⟩
    have K1 := Lib.hid (KB.out.trans hk1)
    clear hth hm1 hk1 hs1 h h0 b0
    go_enter Try.func21, Try.ntmps21
    go_wp2_with fail
    go_ret
    exact .inr ⟨by first | rfl | trivial, by first | rfl | trivial, B1.out, K1.out⟩
theorem tmOf_bd (T S R st : Int) : 0 ≤ tmOf T S R st ∧ tmOf T S R st ≤ 18446744073709551615 := by
  unfold tmOf
  split
  · omega
  · omega
def TrP (f : Int → Option Sy) (a b st : Int) (w : World) (e : Ending) (w' : World) : Prop :=
  Below w.heap.size w w' ∧ ((∃ s s' : Sy, f a = some s ∧ f b = some s' ∧ e = .returned (.tuple #[.int .u32 (stOf s'.T s'.S s'.R (tmOf s.T s.S s.R st)), .int .i64 0])) ∨ ((f a = none ∨ f b = none) ∧ e = .returned (.tuple #[.int .u32 0, .int .i64 9])))
set_option maxRecDepth 100000 in
set_option maxHeartbeats 2000000 in
theorem bktr_any (w : World) (gk gm n : Nat) (f : Int → Option Sy) (sz : Nat) (a b st : Int) (h : Bk gk gm n f sz w) (ha : (Lit.int .u32 a).wf = true) (hb : (Lit.int .u32 b).wf = true) (hok : ∀ x s, f x = some s → s.Ok) :
    Calls Try.prog 22 #[.pointer (some ⟨gk, 0, none⟩), .int .u32 a, .int .u32 b, .int .u32 st] w (TrP f a b st w) := by
  have c0 := h.cell
  obtain ⟨s1, hl1, hf1⟩ := h.look a ha
  have H := Lib.hid h
  have HOK := Lib.hid hok
  obtain ⟨W1, hW1⟩ : ∃ W1, w.alloc (.cells #[.int .u64 s1.T, .int .u32 s1.S, .int .u32 s1.R] 25) = W1 := ⟨_, rfl⟩
  obtain ⟨g1, hg1⟩ : ∃ g1, w.heap.size = g1 := ⟨_, rfl⟩
  have b1 : Below w.heap.size w W1 := by rw [← hW1]; exact (Below.refl _ _).alloc (Nat.le_refl _) _
  have k1 : W1.heap[g1]? = some (.cells #[.int .u64 s1.T, .int .u32 s1.S, .int .u32 s1.R] 25 (0, 0)) := by rw [← hW1, ← hg1]; exact alloc_blk_new
  have H1 := Lib.hid (h.keep b1)
  have K1 := Lib.hid k1
  have B1 := Lib.hid b1
  obtain ⟨s2, hl2, hf2⟩ := H1.out.look b hb
  obtain ⟨p1, hp1⟩ : ∃ p1, (f a).isSome = p1 := ⟨_, rfl⟩
  obtain ⟨p2, hp2⟩ : ∃ p2, (f b).isSome = p2 := ⟨_, rfl⟩
  have HP1 := Lib.hid hp1
  have HP2 := Lib.hid hp2
  have HF1 := Lib.hid hf1
  have HF2 := Lib.hid hf2
  rw [hp1] at hl1
  rw [hp2] at hl2
  clear h hok b1 k1 hf1 hf2
  go_enter Try.func22, Try.ntmps22
  go_upto_region 2 with (fail)
  try rw [hW1]
  try rw [hg1]
  clear hW1 hg1 hl1 c0
  have c0 := H1.out.cell
  go_upto_region 3 with (fail)
  clear c0 hl2
  obtain ⟨W2, hW2⟩ : ∃ W2, W1.alloc (.cells #[.int .u64 s2.T, .int .u32 s2.S, .int .u32 s2.R] 25) = W2 := ⟨_, rfl⟩
  obtain ⟨g2, hg2⟩ : ∃ g2, W1.heap.size = g2 := ⟨_, rfl⟩
  rw [hW2, hg2]
  have b2 : Below W1.heap.size W1 W2 := by rw [← hW2]; exact (Below.refl _ _).alloc (Nat.le_refl _) _
  have k2 : W2.heap[g2]? = some (.cells #[.int .u64 s2.T, .int .u32 s2.S, .int .u32 s2.R] 25 (0, 0)) := by rw [← hW2, ← hg2]; exact alloc_blk_new
  have B2 := Lib.hid (B1.out.trans (b2.mono B1.out.size))
  have K2 := Lib.hid k2
  have K12 := Lib.hid (Below.blk b2 K1.out (lt_of_block K1.out))
  clear hW2 hg2 b2 k2 hp1 hp2
  cases p1 with
  | false =>
    go_wp2_with fail
    refine bodyPost_ret (by simp [results, Try.results22, go_sem]; try rfl) rfl ?_
    exact ⟨B2.out, .inr ⟨.inl (by have := HP1.out; cases hfa : f a; rfl; rw [hfa] at this; cases this), rfl⟩⟩
  | true =>
    cases p2 with
    | false =>
      go_wp2_with fail
      refine bodyPost_ret (by simp [results, Try.results22, go_sem]; try rfl) rfl ?_
      exact ⟨B2.out, .inr ⟨.inr (by have := HP2.out; cases hfa : f b; rfl; rw [hfa] at this; cases this), rfl⟩⟩
    | true =>
      obtain ⟨q1, hq1⟩ := Option.isSome_iff_exists.1 HP1.out
      obtain ⟨q2, hq2⟩ := Option.isSome_iff_exists.1 HP2.out
      obtain rfl := HF1.out q1 hq1
      obtain rfl := HF2.out q2 hq2
      have o1 := HOK.out _ _ hq1
      have o2 := HOK.out _ _ hq2
      have HQ1 := Lib.hid hq1
      have HQ2 := Lib.hid hq2
      have htm := tmOf_bd s1.T s1.S s1.R st
      obtain ⟨tm, hh⟩ : ∃ tm, tmOf s1.T s1.S s1.R st = tm := ⟨_, rfl⟩
      have HTM := Lib.hid hh
      have hTi := time_any s1.T s1.S s1.R st W2.drew o1.r.1 o1.r.2
      rw [hh] at htm hTi
      have HTI := Lib.hid hTi
      have D0 : Hid (Below W2.heap.size W2 W2.drew) := Lib.hid (Below.refl _ _).drew
      have hne : Nonempty { w' : World // Below W2.heap.size W2 w' } := ⟨⟨W2, Below.refl _ _⟩⟩
      have e0 : ∀ y : { w' : World // Below W2.heap.size W2 w' }, y.1.cell? ⟨g1, 0, none⟩ = some (.int .u64 s1.T) := fun y => cell_blk (Below.blk y.2 K12.out (lt_of_block K12.out))
      have e1 : ∀ y : { w' : World // Below W2.heap.size W2 w' }, y.1.cell? ⟨g1, 1, none⟩ = some (.int .u32 s1.S) := fun y => cell_blk (Below.blk y.2 K12.out (lt_of_block K12.out))
      have e2 : ∀ y : { w' : World // Below W2.heap.size W2 w' }, y.1.cell? ⟨g1, 2, none⟩ = some (.int .u32 s1.R) := fun y => cell_blk (Below.blk y.2 K12.out (lt_of_block K12.out))
      have d0 : ∀ y : { w' : World // Below W2.heap.size W2 w' }, y.1.cell? ⟨g2, 0, none⟩ = some (.int .u64 s2.T) := fun y => cell_blk (Below.blk y.2 K2.out (lt_of_block K2.out))
      have d1 : ∀ y : { w' : World // Below W2.heap.size W2 w' }, y.1.cell? ⟨g2, 1, none⟩ = some (.int .u32 s2.S) := fun y => cell_blk (Below.blk y.2 K2.out (lt_of_block K2.out))
      have d2 : ∀ y : { w' : World // Below W2.heap.size W2 w' }, y.1.cell? ⟨g2, 2, none⟩ = some (.int .u32 s2.R) := fun y => cell_blk (Below.blk y.2 K2.out (lt_of_block K2.out))
      clear hq1 hq2 hh hTi
      go_upto_region 5 with (fail)
      refine MixC.wp_region_mix [3, 4] (Below W2.heap.size W2) D0.out (by kernel_rfl) (by kernel_rfl) (by kernel_rfl) ?_
      (iterate 3 (refine MixC.mix_read rfl (fun K hK => ?_); go_simp; refine hK _ ?_; clear hK K))
      refine MixC.mix_move rfl (fun K hK => ?_)
      go_simp
      refine HTI.out.mono ?_
      rintro e V1 ⟨rfl, bv1⟩
      have HB1 : Hid (Below W2.heap.size W2 V1) := Lib.hid (D0.out.trans bv1)
      have HST := Lib.hid (stamp_any s2.T s2.S s2.R tm V1 o2.r.1 o2.r.2 o2.ss htm o2.t)
      refine ⟨_, rfl, HB1.out, hK _ _ ?_⟩
      clear hK K bv1 HTI
      refine MixC.mix_move rfl (fun K hK => ?_)
      go_simp
      refine HST.out.mono ?_
      rintro e V2 ⟨rfl, bv2⟩
      have HB2 : Hid (Below W2.heap.size W2 V2) := Lib.hid (HB1.out.trans (bv2.mono HB1.out.size))
      refine ⟨_, rfl, HB2.out, hK _ _ ?_⟩
      clear hK K bv2 HST
      (iterate 2 (refine MixC.mix_read rfl (fun K hK => ?_); go_simp; refine hK _ ?_; clear hK K))
      refine MixC.mix_nil ?_
      change Exit.then _ _ _ _ V2
      clear e0 e1 e2 d0 d1 d2 hne
      go_wp2_with fail
      refine bodyPost_ret (by simp [results, Try.results22, go_sem]; try rfl) rfl ?_
      exact ⟨B2.out.trans (HB2.out.mono B2.out.size), .inl ⟨s1, s2, HQ1.out, HQ2.out, by rw [HTM.out]⟩⟩
/-! ### Reports -/
def ctV (kd so ti st pk : Int) : Array Value := #[.int .i64 kd, .int .u32 so, .int .u32 0, .int .u64 ti, .int .u32 st, .int .u32 pk, .int .u32 0, .slice none 0 0, .slice none 0 0, .slice none 0 0, .slice none 0 0, .slice none 0 0, .int .u64 0]
structure CtF (kd so ti st pk : Int) (g : Nat) (W : World) : Prop where
  f0 : W.cell? ⟨g, 0, none⟩ = some (.int .i64 kd)
  f1 : W.cell? ⟨g, 1, none⟩ = some (.int .u32 so)
  f2 : W.cell? ⟨g, 2, none⟩ = some (.int .u32 0)
  f3 : W.cell? ⟨g, 3, none⟩ = some (.int .u64 ti)
  f4 : W.cell? ⟨g, 4, none⟩ = some (.int .u32 st)
  f5 : W.cell? ⟨g, 5, none⟩ = some (.int .u32 pk)
  f6 : W.cell? ⟨g, 6, none⟩ = some (.int .u32 0)
  f7 : W.cell? ⟨g, 7, none⟩ = some (.slice none 0 0)
  f8 : W.cell? ⟨g, 8, none⟩ = some (.slice none 0 0)
  f9 : W.cell? ⟨g, 9, none⟩ = some (.slice none 0 0)
  f10 : W.cell? ⟨g, 10, none⟩ = some (.slice none 0 0)
  f11 : W.cell? ⟨g, 11, none⟩ = some (.slice none 0 0)
  f12 : W.cell? ⟨g, 12, none⟩ = some (.int .u64 0)
theorem CtF.mk' {kd so ti st pk : Int} {g : Nat} {W : World} {t : TypeId} {mm : Nat × Nat} (h : W.heap[g]? = some (.cells (ctV kd so ti st pk) t mm)) : CtF kd so ti st pk g W :=
  ⟨cell_blk h, cell_blk h, cell_blk h, cell_blk h, cell_blk h, cell_blk h, cell_blk h, cell_blk h, cell_blk h, cell_blk h, cell_blk h, cell_blk h, cell_blk h⟩
structure CtZ (g : Nat) (W : World) : Prop where
  z0 : W.frozen? ⟨g, 0, none⟩ = false
  z1 : W.frozen? ⟨g, 1, none⟩ = false
  z2 : W.frozen? ⟨g, 2, none⟩ = false
  z3 : W.frozen? ⟨g, 3, none⟩ = false
  z4 : W.frozen? ⟨g, 4, none⟩ = false
  z5 : W.frozen? ⟨g, 5, none⟩ = false
  z6 : W.frozen? ⟨g, 6, none⟩ = false
  z7 : W.frozen? ⟨g, 7, none⟩ = false
  z8 : W.frozen? ⟨g, 8, none⟩ = false
  z9 : W.frozen? ⟨g, 9, none⟩ = false
  z10 : W.frozen? ⟨g, 10, none⟩ = false
  z11 : W.frozen? ⟨g, 11, none⟩ = false
  z12 : W.frozen? ⟨g, 12, none⟩ = false
theorem CtZ.mk' {m : Array Value} {g : Nat} {W : World} {t : TypeId} (h : W.heap[g]? = some (.cells m t (0, 0))) : CtZ g W :=
  ⟨free_blk h, free_blk h, free_blk h, free_blk h, free_blk h, free_blk h, free_blk h, free_blk h, free_blk h, free_blk h, free_blk h, free_blk h, free_blk h⟩
theorem store_ct {W X : World} {g : Nat} {T : TypeId} {kd so ti st pk kd' so' ti' st' pk' : Int} (h : W.heap[g]? = some (.cells (ctV kd so ti st pk) T (0, 0))) (hX : W.setCells g 0 (ctV kd' so' ti' st' pk').toList = X) :
    X.heap[g]? = some (.cells (ctV kd' so' ti' st' pk') T (0, 0)) ∧ (∀ B, B ≤ g → Below B W X) := by
  obtain ⟨h1, h2, -⟩ := fill_blk h (by simp [ctV]) hX
  exact ⟨by simpa using h1, h2⟩
def RpP (f : Int → Option Sy) (kd so ti st pk x : Int) (w : World) (e : Ending) (w' : World) : Prop :=
  Below w.heap.size w w' ∧ ((kd ≠ 200 ∧ e = .returned (.tuple #[.agg (ctV 0 0 0 0 0), .int .i64 1])) ∨ (kd = 200 ∧ f x = none ∧ e = .returned (.tuple #[.agg (ctV 0 0 0 0 0), .int .i64 9])) ∨ (kd = 200 ∧ ∃ s : Sy, f x = some s ∧ e = .returned (.tuple #[.agg (ctV kd x ti (stOf s.T s.S s.R ti) pk), .int .i64 0])))
set_option maxRecDepth 100000 in
set_option maxHeartbeats 4000000 in
theorem bkrep_any (w : World) (gk gm n : Nat) (f : Int → Option Sy) (sz : Nat) (kd so ti st pk x : Int) (h : Bk gk gm n f sz w) (hx : (Lit.int .u32 x).wf = true) (hok : ∀ x s, f x = some s → s.Ok) (hti : 0 ≤ ti ∧ ti ≤ 18446744073709551615) :
    Calls Try.prog 23 #[.pointer (some ⟨gk, 0, none⟩), .agg (ctV kd so ti st pk), .int .u32 x] w (RpP f kd so ti st pk x w) := by
  have H := Lib.hid h
  have HOK := Lib.hid hok
  clear h hok
  unfold ctV
  go_enter Try.func23, Try.ntmps23
  go_upto_region 1 with (fail)
  obtain ⟨W0, hW0⟩ : ∃ W0, (w.alloc (.cells (ctV kd so ti st pk) 47)).alloc (.cells (ctV 0 0 0 0 0) 47) = W0 := ⟨_, rfl⟩
  obtain ⟨g, hg⟩ : ∃ g, w.heap.size = g := ⟨_, rfl⟩
  change Code.wp _ _ _ _ ((w.alloc (.cells (ctV kd so ti st pk) 47)).alloc (.cells (ctV 0 0 0 0 0) 47))
  have K4 : W0.heap[g]? = some (.cells (ctV kd so ti st pk) 47 (0, 0)) := by
    rw [← hW0, ← hg, alloc_blk_old (by simp [World.size_alloc])]
    exact alloc_blk_new
  have K6 : W0.heap[g + 1]? = some (.cells (ctV 0 0 0 0 0) 47 (0, 0)) := by
    rw [← hW0, ← hg]
    have := alloc_blk_new (w := w.alloc (.cells (ctV kd so ti st pk) 47)) (o := .cells (ctV 0 0 0 0 0) 47)
    rw [World.size_alloc] at this
    exact this
  have b0 : Below w.heap.size w W0 := by rw [← hW0]; exact ((Below.refl _ _).alloc (Nat.le_refl _) _).alloc (by simp [World.size_alloc]) _
  rw [hW0, hg]
  have HK4 := Lib.hid K4
  have HK6 := Lib.hid K6
  have B0 := Lib.hid b0
  have HG := Lib.hid hg
  have H0 := Lib.hid (H.out.keep b0)
  clear K4 K6 b0 hW0 hg
  have c0 := H0.out.cell
  obtain ⟨s1, hl1, hf1⟩ := H0.out.look x hx
  obtain ⟨p1, hp1⟩ : ∃ p1, (f x).isSome = p1 := ⟨_, rfl⟩
  have HP1 := Lib.hid hp1
  have HF1 := Lib.hid hf1
  rw [hp1] at hl1
  clear hp1 hf1
  go_upto_region 2 with (fail)
  clear c0 hl1
  obtain ⟨W1, hW1⟩ : ∃ W1, W0.alloc (.cells #[.int .u64 s1.T, .int .u32 s1.S, .int .u32 s1.R] 25) = W1 := ⟨_, rfl⟩
  obtain ⟨g8, hg8⟩ : ∃ g8, W0.heap.size = g8 := ⟨_, rfl⟩
  rw [hW1, hg8]
  have b1 : Below W0.heap.size W0 W1 := by rw [← hW1]; exact (Below.refl _ _).alloc (Nat.le_refl _) _
  have k8 : W1.heap[g8]? = some (.cells #[.int .u64 s1.T, .int .u32 s1.S, .int .u32 s1.R] 25 (0, 0)) := by rw [← hW1, ← hg8]; exact alloc_blk_new
  have B1 := Lib.hid (B0.out.trans (b1.mono B0.out.size))
  have L4 := Lib.hid (Below.blk b1 HK4.out (lt_of_block HK4.out))
  have L6 := Lib.hid (Below.blk b1 HK6.out (lt_of_block HK6.out))
  have L8 := Lib.hid k8
  have hg8b : g + 1 < g8 := by rw [← hg8]; exact lt_of_block HK6.out
  clear hW1 hg8 b1 k8
  obtain ⟨f0, f1, f2, f3, f4, f5, f6, f7, f8, f9, f10, f11, f12⟩ := CtF.mk' L4.out
  obtain ⟨j0, j1, j2, j3, j4, j5, j6, j7, j8, j9, j10, j11, j12⟩ := CtZ.mk' L6.out
  obtain ⟨k0, k1, k2, k3, k4, k5, k6, k7, k8, k9, k10, k11, k12⟩ := CtF.mk' L6.out
  by_cases hk : kd = 200
  · subst hk
    cases p1 with
    | false =>
      have HN : Hid (f x = none) := Lib.hid (by have := HP1.out; cases hfa : f x; rfl; rw [hfa] at this; cases this)
      go_wp2_with fail
      generalize hX : World.setCell _ _ _ = X
      obtain ⟨e6, hb⟩ := store_ct (kd' := 0) (so' := 0) (ti' := 0) (st' := 0) (pk' := 0) L6.out hX
      clear hX f0 f1 f2 f3 f4 f5 f6 f7 f8 f9 f10 f11 f12 j0 j1 j2 j3 j4 j5 j6 j7 j8 j9 j10 j11 j12 k0 k1 k2 k3 k4 k5 k6 k7 k8 k9 k10 k11 k12
      obtain ⟨f0, f1, f2, f3, f4, f5, f6, f7, f8, f9, f10, f11, f12⟩ := CtF.mk' e6
      refine bodyPost_ret (v := .tuple #[.agg (ctV 0 0 0 0 0), .int .i64 9]) (by simp [results, Try.results23, go_sem, f0, f1, f2, f3, f4, f5, f6, f7, f8, f9, f10, f11, f12]; rfl) rfl ?_
      exact ⟨B1.out.trans (hb _ (by have := HG.out; omega)), .inr (.inl ⟨rfl, HN.out, rfl⟩)⟩
    | true =>
      obtain ⟨q1, hq1⟩ := Option.isSome_iff_exists.1 HP1.out
      obtain rfl := HF1.out q1 hq1
      have o1 := HOK.out _ _ hq1
      have HQ := Lib.hid hq1
      have HST := Lib.hid (stamp_any s1.T s1.S s1.R ti W1 o1.r.1 o1.r.2 o1.ss hti o1.t)
      have e0 : W1.cell? ⟨g8, 0, none⟩ = some (.int .u64 s1.T) := cell_blk L8.out
      have e1 : W1.cell? ⟨g8, 1, none⟩ = some (.int .u32 s1.S) := cell_blk L8.out
      have e2 : W1.cell? ⟨g8, 2, none⟩ = some (.int .u32 s1.R) := cell_blk L8.out
      clear hq1
      go_wp2_with fail
      refine HST.out.mono ?_
      rintro e W2 ⟨rfl, b2⟩
      have B2 := Lib.hid (B1.out.trans (b2.mono B1.out.size))
      have M4 := Lib.hid (Below.blk b2 L4.out (lt_of_block L4.out))
      have M6 := Lib.hid (Below.blk b2 L6.out (lt_of_block L6.out))
      clear e0 e1 e2 b2 HST f0 f1 f2 f3 f4 f5 f6 f7 f8 f9 f10 f11 f12 j0 j1 j2 j3 j4 j5 j6 j7 j8 j9 j10 j11 j12 k0 k1 k2 k3 k4 k5 k6 k7 k8 k9 k10 k11 k12
      obtain ⟨v, hv⟩ : ∃ v, stOf s1.T s1.S s1.R ti = v := ⟨_, rfl⟩
      have HV := Lib.hid hv
      rw [hv]
      clear hv
      obtain ⟨W3, hW3⟩ : ∃ W3, (W2.setCell ⟨g, 1, none⟩ (.int .u32 x)).setCell ⟨g, 4, none⟩ (.int .u32 v) = W3 := ⟨_, rfl⟩
      have m4 : W3.heap[g]? = some (.cells (ctV 200 x ti v pk) 47 (0, 0)) := by rw [← hW3, set_blk _ (set_blk _ M4.out)]; rfl
      have m6 : W3.heap[g + 1]? = some (.cells (ctV 0 0 0 0 0) 47 (0, 0)) := by rw [← hW3]; exact (set_blk_other _ (show g + 1 ≠ g by omega)).trans ((set_blk_other _ (show g + 1 ≠ g by omega)).trans M6.out)
      have b3 : Below w.heap.size w W3 := by rw [← hW3]; exact (B2.out.setCell (p := ⟨g, 1, none⟩) (by rw [HG.out]; exact Nat.le_refl _) _).setCell (p := ⟨g, 4, none⟩) (by rw [HG.out]; exact Nat.le_refl _) _
      have z1 : W2.cell? ⟨g, 1, none⟩ = some (.int .u32 so) := cell_blk M4.out
      have z2 : W2.frozen? ⟨g, 1, none⟩ = false := free_blk M4.out
      have z3 : W2.cell? ⟨g, 4, none⟩ = some (.int .u32 st) := cell_blk M4.out
      have z4 : W2.frozen? ⟨g, 4, none⟩ = false := free_blk M4.out
      have HM4 := Lib.hid m4
      have HM6 := Lib.hid m6
      have HB3 := Lib.hid b3
      clear m4 m6 b3
      go_upto_region 7 with (fail)
      try rw [hW3]
      clear hW3 z1 z2 z3 z4
      obtain ⟨f0, f1, f2, f3, f4, f5, f6, f7, f8, f9, f10, f11, f12⟩ := CtF.mk' HM4.out
      obtain ⟨j0, j1, j2, j3, j4, j5, j6, j7, j8, j9, j10, j11, j12⟩ := CtZ.mk' HM6.out
      obtain ⟨k0, k1, k2, k3, k4, k5, k6, k7, k8, k9, k10, k11, k12⟩ := CtF.mk' HM6.out
      go_wp2_with fail
      generalize hX : World.setCell _ _ _ = X
      obtain ⟨e6, hb⟩ := store_ct (kd' := 200) (so' := x) (ti' := ti) (st' := v) (pk' := pk) HM6.out hX
      clear hX f0 f1 f2 f3 f4 f5 f6 f7 f8 f9 f10 f11 f12 j0 j1 j2 j3 j4 j5 j6 j7 j8 j9 j10 j11 j12 k0 k1 k2 k3 k4 k5 k6 k7 k8 k9 k10 k11 k12
      obtain ⟨f0, f1, f2, f3, f4, f5, f6, f7, f8, f9, f10, f11, f12⟩ := CtF.mk' e6
      refine bodyPost_ret (v := .tuple #[.agg (ctV 200 x ti v pk), .int .i64 0]) (by simp [results, Try.results23, go_sem, f0, f1, f2, f3, f4, f5, f6, f7, f8, f9, f10, f11, f12]; rfl) rfl ?_
      exact ⟨HB3.out.trans (hb _ (by have := HG.out; omega)), .inr (.inr ⟨rfl, s1, HQ.out, by rw [HV.out]⟩)⟩
  · have hk1 : (kd = 200) = False := eq_false hk
    have hk2 : (kd == 200) = false := by simpa using hk
    have hk3 : (kd != 200) = true := by simpa using hk
    have HKD := Lib.hid hk
    clear hk
    go_wp2_with fail
    generalize hX : World.setCell _ _ _ = X
    obtain ⟨e6, hb⟩ := store_ct (kd' := 0) (so' := 0) (ti' := 0) (st' := 0) (pk' := 0) L6.out hX
    clear hX f0 f1 f2 f3 f4 f5 f6 f7 f8 f9 f10 f11 f12 j0 j1 j2 j3 j4 j5 j6 j7 j8 j9 j10 j11 j12 k0 k1 k2 k3 k4 k5 k6 k7 k8 k9 k10 k11 k12
    obtain ⟨f0, f1, f2, f3, f4, f5, f6, f7, f8, f9, f10, f11, f12⟩ := CtF.mk' e6
    refine bodyPost_ret (v := .tuple #[.agg (ctV 0 0 0 0 0), .int .i64 1]) (by simp [results, Try.results23, go_sem, f0, f1, f2, f3, f4, f5, f6, f7, f8, f9, f10, f11, f12]; rfl) rfl ?_
    exact ⟨B1.out.trans (hb _ (by have := HG.out; omega)), .inl ⟨HKD.out, rfl⟩⟩
end Go.Proofs.Ytkdjkaimcciemaa
