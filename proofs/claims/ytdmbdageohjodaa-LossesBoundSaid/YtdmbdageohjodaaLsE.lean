/-
  Chapter 20: Came at the first index; at one that was there.
-/
import Derived.Test.YtdmbdageohjodaaLsD
namespace Go.Proofs.Ytdmbdageohjodaa
open Go.RowKit
set_option linter.unusedVariables false
set_option linter.unusedSimpArgs false
attribute [local irreducible] wpStill wpQuiet MixC.wpMix MixC.wpPick MixC.wpPickT
attribute [local go_sem] MixC.rdOp MixC.rd MixC.rdUpon MixC.mvUpon

/-- the keeper's own block turns -/
theorem KS.own {B g : Nat} {pause high high' : Int} {M M' : List (Nat × Mis)} {a a' : Option Addr} {c c' : Nat} {w w' : World} (h : KS B g pause high M a c w) (hb : But (some g) w w') (hg : w'.heap[g]? = some (keepO pause high' (.slice a' M'.length c')))
    (hr : PR w 124 a' M'.length c' (ptrs M')) (hn : (M'.map (·.1)).Nodup) (hm : ∀ x ∈ M', w.heap[x.1]? = some (misO x.2) ∧ B ≤ x.1) (hrb : ∀ k, blkOf a' = some k → B ≤ k) : KS B g pause high' M' a' c' w' := by
  have hng : blkOf a' ≠ some g := hr.ofT h.blk (by decide)
  refine ⟨hg, hr.but hb (fun k hk e => hng (by rw [hk, ← e])), hn, fun x hx => hb.blk (hm x hx).1 (fun e => ?_), h.gB, hrb, fun x hx => (hm x hx).2⟩
  have h1 := (hm x hx).1
  injection e with e
  rw [← e, h.blk] at h1
  injection h1 with h1
  injection h1 with _ h1
  exact absurd h1 (by decide)
set_option maxRecDepth 100000 in
set_option maxHeartbeats 4000000 in
theorem came_first (B g : Nat) (pause high i tick : Int) (M : List (Nat × Mis)) (a : Option Addr) (c : Nat) (w : World) (h : KS B g pause high M a c w) (hB : B ≤ w.heap.size) (h0 : 0 ≤ i) (hh : high < 0) :
    Calls Try.prog 21 #[.pointer (some ⟨g, 0, none⟩), .int .i64 i, .int .i64 tick] w (CamePost B g pause high i tick M w) := by
  have hf : farI high i = false := by unfold farI; simp; omega
  have e1 : cameH high i = i := by unfold cameH; rw [if_neg (by rw [hf]; decide), if_pos (by omega)]
  have e2 : cameM high i tick (ofM M) = ofM M := by unfold cameM; rw [if_neg (by rw [hf]; decide), if_pos hh]
  unfold CamePost
  rw [e1, e2]
  have H := Lib.hid h
  obtain ⟨V, hV⟩ : ∃ V, w.alloc (.cells #[.int .i64 i] 2) = V := ⟨_, rfl⟩
  have bv : Below w.heap.size w V := by rw [← hV]; exact (Below.refl _ _).alloc (Nat.le_refl _) _
  have x0 : V.heap[w.heap.size]? = some (.cells #[.int .i64 i] 2 (0, 0)) := by rw [← hV]; exact alloc_blk_new
  have HV := Lib.hid (H.out.keep bv)
  obtain ⟨q, hq⟩ : ∃ q, w.heap.size = q := ⟨_, rfl⟩
  rw [hq] at x0
  have hne : Nonempty { w' : World // Below V.heap.size V w' } := ⟨⟨_, Below.refl _ _⟩⟩
  have o1 : ∀ z : { w' : World // Below V.heap.size V w' }, z.1.cell? ⟨g, 1, none⟩ = some (.int .i64 high) := fun z => cell_blk (Below.blk z.2 HV.out.blk HV.out.lt)
  have o2 : ∀ z : { w' : World // Below V.heap.size V w' }, z.1.cell? ⟨q, 0, none⟩ = some (.int .i64 i) := fun z => cell_blk (Below.blk z.2 x0 (lt_of_block x0))
  have y1 : V.cell? ⟨g, 1, none⟩ = some (.int .i64 high) := cell_blk HV.out.blk
  have y2 : V.cell? ⟨q, 0, none⟩ = some (.int .i64 i) := cell_blk x0
  have y3 : V.frozen? ⟨g, 1, none⟩ = false := free_blk HV.out.blk
  have BV := Lib.hid bv
  have hnew : KS B g pause i M a c (V.setCell ⟨g, 1, none⟩ (.int .i64 i)) := HV.out.own ((But.refl (some g) V).set _ _) (by rw [set_blk _ HV.out.blk]; rfl) HV.out.row HV.out.nd (fun x hx => ⟨HV.out.ms x hx, HV.out.mB x hx⟩) HV.out.rB
  have hbel : Below B w (V.setCell ⟨g, 1, none⟩ (.int .i64 i)) := (BV.out.mono hB).setCell HV.out.gB _
  have hty : Ty kTs w (V.setCell ⟨g, 1, none⟩ (.int .i64 i)) := (Ty.below BV.out).trans (Ty.set HV.out.blk (by decide) _)
  have FIN : Hid (∀ z, Below (V.setCell ⟨g, 1, none⟩ (.int .i64 i)).heap.size (V.setCell ⟨g, 1, none⟩ (.int .i64 i)) z → (∃ M' a' c', KS B g pause i M' a' c' z ∧ ofM M' = ofM M) ∧ Below B w z ∧ Ty kTs w z) := Lib.hid (fun z hz => ⟨⟨M, a, c, hnew.keep hz, rfl⟩, hbel.trans (hz.mono (by have := BV.out.size; simp only [World.setCell, Array.size_modify]; omega)), hty.trans (Ty.below hz)⟩)
  have d0 : decide (i < 0) = false := by simpa using h0
  have d1 : decide (0 ≤ high) = false := by simpa using hh
  have d2 : decide (high < 0) = true := by simpa using hh
  clear h bv x0 e1 e2 hf hh hnew hbel hty
  go_enter Try.func21, Try.ntmps21
  go_wp2_with fail
  refine MixC.wp_region_mix [] (Below V.heap.size V) (Below.refl _ _).drew (by kernel_rfl) (by kernel_rfl) (by kernel_rfl) ?_
  (iterate 23 (refine MixC.mix_read rfl (fun K hK => ?_); go_simp; refine hK _ ?_; clear hK K))
  refine MixC.mix_nil ?_
  clear o1 o2 hne
  go_wp2_with fail
  go_returns
  exact ⟨rfl, FIN.out _ (Below.refl _ _).drew⟩
theorem left_of (i : Int) (M : List (Nat × Mis)) : ofM (leftL (isI i) M) = (ofM M).filter fun m => !decide (m.i = i) := by
  unfold ofM leftL
  rw [List.filter_map]
  rfl
theorem left_of3 (M : List (Nat × Mis)) : ofM (leftL is3 M) = (ofM M).filter fun m => !decide (3 ≤ m.tr) := by
  unfold ofM leftL
  rw [List.filter_map]
  rfl
theorem left_nd {p : Nat × Mis → Bool} {M : List (Nat × Mis)} (h : (M.map (·.1)).Nodup) : ((leftL p M).map (·.1)).Nodup := (List.filter_sublist.map _).nodup h
theorem left_mem {p : Nat × Mis → Bool} {M : List (Nat × Mis)} {x : Nat × Mis} (h : x ∈ leftL p M) : x ∈ M := (List.mem_filter.1 h).1
set_option maxRecDepth 100000 in
set_option maxHeartbeats 4000000 in
theorem came_same (B g : Nat) (pause high i tick : Int) (M : List (Nat × Mis)) (a : Option Addr) (c : Nat) (w : World) (h : KS B g pause high M a c w) (hB : B ≤ w.heap.size) (h0 : 0 ≤ i) (hh : i ≤ high) (hh1 : high ≤ 4611686018427387904) (hM : M.length ≤ 1000) :
    Calls Try.prog 21 #[.pointer (some ⟨g, 0, none⟩), .int .i64 i, .int .i64 tick] w (CamePost B g pause high i tick M w) := by
  have hf : farI high i = false := by unfold farI; simp; omega
  have e1 : cameH high i = high := by unfold cameH; rw [if_neg (by rw [hf]; decide), if_neg (by omega)]
  have e2 : cameM high i tick (ofM M) = (ofM M).filter fun m => !decide (m.i = i) := by unfold cameM; rw [if_neg (by rw [hf]; decide), if_neg (by omega), if_neg (by omega)]
  unfold CamePost
  rw [e1, e2]
  have H := Lib.hid h
  obtain ⟨V, hV⟩ : ∃ V, w.alloc (.cells #[.int .i64 i] 2) = V := ⟨_, rfl⟩
  have bv : Below w.heap.size w V := by rw [← hV]; exact (Below.refl _ _).alloc (Nat.le_refl _) _
  have x0 : V.heap[w.heap.size]? = some (.cells #[.int .i64 i] 2 (0, 0)) := by rw [← hV]; exact alloc_blk_new
  have HV := Lib.hid (H.out.keep bv)
  obtain ⟨q, hq⟩ : ∃ q, w.heap.size = q := ⟨_, rfl⟩
  rw [hq] at x0
  have hne : Nonempty { w' : World // Below V.heap.size V w' } := ⟨⟨_, Below.refl _ _⟩⟩
  have o1 : ∀ z : { w' : World // Below V.heap.size V w' }, z.1.cell? ⟨g, 1, none⟩ = some (.int .i64 high) := fun z => cell_blk (Below.blk z.2 HV.out.blk HV.out.lt)
  have o2 : ∀ z : { w' : World // Below V.heap.size V w' }, z.1.cell? ⟨q, 0, none⟩ = some (.int .i64 i) := fun z => cell_blk (Below.blk z.2 x0 (lt_of_block x0))
  have y1 : V.cell? ⟨g, 1, none⟩ = some (.int .i64 high) := cell_blk HV.out.blk
  have y4 : V.cell? ⟨g, 2, none⟩ = some (.slice a M.length c) := cell_blk HV.out.blk
  have BV := Lib.hid bv
  have HX0 := Lib.hid x0
  have HD : Hid (∀ z, Below V.heap.size V z → Calls Try.prog 62 #[.slice a M.length c, .func (.func 66) #[] #[.pointer (some ⟨q, 0, none⟩)]] z (DelPost (isI i) M a c z)) := Lib.hid (fun z hz => by
    have HZ := HV.out.keep hz
    refine delCame (isI i) M a c q z HZ.row (by omega) (fun z2 x hx hz2 => ?_)
    have hq1 := Below.blk hz HX0.out (lt_of_block HX0.out)
    exact came1_any x.2 x.1 q i z2 (hz2.blk (HZ.ms x hx) (HZ.nm x hx)) (hz2.blk hq1 (HZ.row.ofT hq1 (by decide))))
  have d0 : decide (i < 0) = false := by simpa using h0
  have d1 : decide (0 ≤ high) = true := by simp; omega
  have d2 : decide (1099511627776 < i - high) = false := by simp; omega
  have d3 : decide (high < 0) = false := by simp; omega
  have d4 : decide (high < i) = false := by simp; omega
  have w1 : IntKind.i64.wrap (i - high) = i - high := IntWalk.i64_in _ (by omega)
  obtain ⟨N, hN⟩ : ∃ N, M.length = N := ⟨_, rfl⟩
  have HN := Lib.hid hN
  rw [hN] at y4 HD
  clear h bv x0 e1 e2 hf hN
  go_enter Try.func21, Try.ntmps21
  go_wp2_with fail
  refine MixC.wp_region_mix [] (Below V.heap.size V) (Below.refl _ _).drew (by kernel_rfl) (by kernel_rfl) (by kernel_rfl) ?_
  (iterate 23 (refine MixC.mix_read rfl (fun K hK => ?_); go_simp; refine hK _ ?_; clear hK K))
  refine MixC.mix_nil ?_
  go_wp2_with fail
  have C5 : Hid (Below V.heap.size V V.drew.drew) := Lib.hid (Below.refl _ _).drew.drew
  refine MixC.wp_region_mix [] (Below V.heap.size V) C5.out (by kernel_rfl) (by kernel_rfl) (by kernel_rfl) ?_
  (iterate 7 (refine MixC.mix_read rfl (fun K hK => ?_); go_simp; refine hK _ ?_; clear hK K))
  refine MixC.mix_nil ?_
  clear o1 o2 hne w1
  go_wp2_with fail
  refine (HD.out _ C5.out).mono ?_
  rintro e W ⟨a', m, rfl, hm, hr, hba, hbut⟩
  have B1 : But (blkOf a) V W := (But.of_below C5.out).trans hbut
  have g1 : W.heap[g]? = some (keepO pause high (.slice a M.length c)) := B1.blk HV.out.blk HV.out.ng
  have s1 : W.cell? ⟨g, 2, none⟩ = some (.slice a M.length c) := cell_blk g1
  have s2 : W.frozen? ⟨g, 2, none⟩ = false := free_blk g1
  subst hm
  have KW : KS B g pause high M a c W → True := fun _ => trivial
  have hms : ∀ x ∈ leftL (isI i) M, W.heap[x.1]? = some (misO x.2) ∧ B ≤ x.1 := fun x hx => ⟨B1.blk (HV.out.ms x (left_mem hx)) (HV.out.nm x (left_mem hx)), HV.out.mB x (left_mem hx)⟩
  have hbW : Below B w W := (BV.out.mono hB).trans (B1.below (Nat.le_trans hB BV.out.size) HV.out.rB)
  have htW : Ty kTs w W := (Ty.below BV.out).trans (Ty.but B1 (fun k hk => by obtain ⟨cs, h⟩ := HV.out.row.block k hk; exact ⟨cs, _, h⟩) (by decide))
  have FIN : Hid (∀ z, But (some g) W z → z.heap[g]? = some (keepO pause high (.slice a' (leftL (isI i) M).length c)) → (∃ M' a' c', KS B g pause high M' a' c' z ∧ ofM M' = (ofM M).filter fun m => !decide (m.i = i)) ∧ Below B w z ∧ Ty kTs w z) := Lib.hid (fun z hz hg => by
    have hng : blkOf a' ≠ some g := by rw [hba]; exact HV.out.ng
    refine ⟨⟨leftL (isI i) M, a', c, ⟨hg, hr.but hz (fun k hk e => hng (by rw [hk, ← e])), left_nd HV.out.nd, fun x hx => hz.blk (hms x hx).1 (fun e => HV.out.gm x (left_mem hx) (by injection e with e; exact e.symm)), HV.out.gB, fun k hk => HV.out.rB k (by rw [← hba]; exact hk), fun x hx => (hms x hx).2⟩, left_of i M⟩, hbW.trans (hz.below (Nat.le_trans hB hbW.size) (fun k e => by injection e with e; have := HV.out.gB; omega)), htW.trans (Ty.but hz (fun k e => by cases e; exact ⟨_, _, g1⟩) (by decide))⟩)
  have G1 := Lib.hid g1
  obtain ⟨m', hm'⟩ : ∃ m', (leftL (isI i) M).length = m' := ⟨_, rfl⟩
  rw [hm'] at FIN ⊢
  clear hr hba hbut B1 g1 KW hms hbW htW hm'
  go_wp2_with fail
  go_returns
  exact ⟨rfl, FIN.out _ ((But.refl (some g) W).set _ _) (by rw [set_blk _ G1.out]; rfl)⟩
end Go.Proofs.Ytdmbdageohjodaa
