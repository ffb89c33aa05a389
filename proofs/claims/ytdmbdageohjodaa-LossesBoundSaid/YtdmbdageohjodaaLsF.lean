/-
  Chapter 20: Came at an index above all.
-/
import Derived.Test.YtdmbdageohjodaaLsE
namespace Go.Proofs.Ytdmbdageohjodaa
open Go.RowKit
set_option linter.unusedVariables false
set_option linter.unusedSimpArgs false
attribute [local irreducible] wpStill wpQuiet MixC.wpMix MixC.wpPick MixC.wpPickT
attribute [local go_sem] MixC.rdOp MixC.rd MixC.rdUpon MixC.mvUpon

theorem infoPtr : (Try.prog.info? 124).map (fun i => (i.zero, i.size, i.bytes)) = some (some (.pointer none), 1, 8) := by kernel_rfl
theorem elPtr : ElemT Try.prog 118 124 1 8 := ElemT.mk' Try.underlying118 infoPtr rfl (by decide)
theorem KS.mk2 {B g : Nat} {pause high0 high' : Int} {v0 : Value} {M' : List (Nat × Mis)} {a' : Option Addr} {c' : Nat} {w w' : World} (hblk : w.heap[g]? = some (keepO pause high0 v0)) (gB : B ≤ g) (hb : But (some g) w w') (hg : w'.heap[g]? = some (keepO pause high' (.slice a' M'.length c')))
    (hr : PR w 124 a' M'.length c' (ptrs M')) (hn : (M'.map (·.1)).Nodup) (hm : ∀ x ∈ M', w.heap[x.1]? = some (misO x.2) ∧ B ≤ x.1) (hrb : ∀ k, blkOf a' = some k → B ≤ k) : KS B g pause high' M' a' c' w' := by
  have hng : blkOf a' ≠ some g := hr.ofT hblk (by decide)
  refine ⟨hg, hr.but hb (fun k hk e => hng (by rw [hk, ← e])), hn, fun x hx => hb.blk (hm x hx).1 (fun e => ?_), gB, hrb, fun x hx => (hm x hx).2⟩
  have h1 := (hm x hx).1
  injection e with e
  rw [← e, hblk] at h1
  injection h1 with h1
  injection h1 with _ h1
  exact absurd h1 (by decide)
structure CSt (B g q : Nat) (pause high i tick x0 : Int) (M NB : List (Nat × Mis)) (a' : Option Addr) (c' k : Nat) (w wr : World) : Prop where
  ks : KS B g pause high (M ++ NB) a' c' wr
  nb : ofM NB = newsL x0 tick k
  bl : Below B w wr
  ty : Ty kTs w wr
  bx : wr.heap[q]? = some (.cells #[.int .i64 i] 2 (0, 0))
theorem ptrs_app (M N : List (Nat × Mis)) : ptrs (M ++ N) = ptrs M ++ ptrs N := List.map_append ..
/-- one more: its block, its row, the keeper's block -/
theorem CSt.add {B g q : Nat} {pause high i tick x0 x : Int} {M NB : List (Nat × Mis)} {a' : Option Addr} {c' k : Nat} {w wr : World} (h : CSt B g q pause high i tick x0 M NB a' c' k w wr) (hx : x = x0 + k) (hB : B ≤ w.heap.size)
    {a2 : Option Addr} {c2 : Nat} {W2 : World} (A : PApp Try.prog 118 (wr.alloc (misO ⟨x, 0, tick⟩)) (.cells #[ptr wr.heap.size] 124) (.slice a' (M ++ NB).length c') a' a2 (M ++ NB).length c2 W2 124 (ptrs (M ++ NB) ++ [ptr wr.heap.size])) :
    CSt B g q pause high i tick x0 M (NB ++ [(wr.heap.size, ⟨x, 0, tick⟩)]) a2 c2 (k + 1) w (W2.setCell ⟨g, 2, none⟩ (.slice a2 ((M ++ NB).length + 1) c2)) := by
  have bU : Below wr.heap.size wr (wr.alloc (misO ⟨x, 0, tick⟩)) := (Below.refl _ _).alloc (Nat.le_refl _) _
  have hsU : (wr.alloc (misO ⟨x, 0, tick⟩)).heap.size = wr.heap.size + 1 := by simp
  have KU := h.ks.keep bU
  have hxb : (wr.alloc (misO ⟨x, 0, tick⟩)).heap[wr.heap.size]? = some (misO ⟨x, 0, tick⟩) := alloc_blk_new
  have g2 : W2.heap[g]? = some (keepO pause high (.slice a' (M ++ NB).length c')) := A.but.blk KU.blk KU.ng
  have hlen : (M ++ (NB ++ [(wr.heap.size, (⟨x, 0, tick⟩ : Mis))])).length = (M ++ NB).length + 1 := by simp [Nat.add_assoc]
  have heq : M ++ (NB ++ [(wr.heap.size, (⟨x, 0, tick⟩ : Mis))]) = (M ++ NB) ++ [(wr.heap.size, ⟨x, 0, tick⟩)] := by rw [List.append_assoc]
  have hbut : But (some g) W2 (W2.setCell ⟨g, 2, none⟩ (.slice a2 ((M ++ NB).length + 1) c2)) := (But.refl (some g) W2).set _ _
  have hBr : B ≤ wr.heap.size := Nat.le_trans hB h.bl.size
  have tU : Ty kTs wr W2 := (Ty.below bU).trans (Ty.but A.but (fun k hk => by obtain ⟨cs, h⟩ := KU.row.block k hk; exact ⟨cs, _, h⟩) (by decide))
  have t3 : Ty kTs wr (W2.setCell ⟨g, 2, none⟩ (.slice a2 ((M ++ NB).length + 1) c2)) := tU.trans (Ty.set g2 (by decide) _)
  refine ⟨KS.mk2 g2 h.ks.gB hbut (by rw [set_blk _ g2, hlen]; rfl) (by rw [hlen, heq, ptrs_app]; exact A.row) ?_ (fun y hy => ?_) (fun k' hk' => ?_), ?_, ?_, h.ty.trans t3, t3.blk h.bx (by decide)⟩
  · rw [heq, List.map_append, List.nodup_append]
    refine ⟨h.ks.nd, by simp, fun y hy z hz => ?_⟩
    obtain ⟨v, hv, rfl⟩ := List.mem_map.1 hy
    have : z = wr.heap.size := by simpa using hz
    subst this
    have := lt_of_block (h.ks.ms v hv)
    omega
  · rw [heq] at hy
    rcases List.mem_append.1 hy with hy | hy
    · exact ⟨A.but.blk (KU.ms y hy) (KU.nm y hy), h.ks.mB y hy⟩
    · have : y = (wr.heap.size, ⟨x, 0, tick⟩) := by simpa using hy
      subst this
      refine ⟨A.but.blk hxb (fun e => ?_), hBr⟩
      have := h.ks.row.lt _ e
      omega
  · rcases A.new k' hk' with e | e
    · exact h.ks.rB k' e
    · omega
  · rw [newsL_succ, ← h.nb, ← hx]
    unfold ofM
    rw [List.map_append]; rfl
  · have h1 : Below B wr W2 := (bU.mono hBr).trans (A.but.below (Nat.le_trans hBr bU.size) h.ks.rB)
    exact (h.bl.trans h1).setCell h.ks.gB _
set_option maxRecDepth 100000 in
set_option maxHeartbeats 8000000 in
theorem came_more (B g : Nat) (pause high i tick : Int) (M : List (Nat × Mis)) (a : Option Addr) (c : Nat) (w : World) (h : KS B g pause high M a c w) (hB : B ≤ w.heap.size) (hi0 : 0 ≤ high) (hh : high < i) (hf : i - high ≤ 1099511627776) (hi1 : i ≤ 4611686018427387904) (hM : M.length ≤ 1000) :
    Calls Try.prog 21 #[.pointer (some ⟨g, 0, none⟩), .int .i64 i, .int .i64 tick] w (CamePost B g pause high i tick M w) := by
  have hf : farI high i = false := by unfold farI; simp; omega
  have e1 : cameH high i = i := by unfold cameH; rw [if_neg (by rw [hf]; decide), if_pos (by omega)]
  have e2 : cameM high i tick (ofM M) = last32 (ofM M ++ newsL (max (high + 1) (i - 32)) tick (i - max (high + 1) (i - 32)).toNat) := by unfold cameM; rw [if_neg (by rw [hf]; decide), if_neg (by omega), if_pos hh]
  obtain ⟨x0, hx0⟩ : ∃ x0, max (high + 1) (i - 32) = x0 := ⟨_, rfl⟩
  have hxa : high + 1 ≤ x0 ∧ i - 32 ≤ x0 ∧ x0 ≤ i := by omega
  have hxm : (if high + 1 < i - 32 then i - 32 else high + 1) = x0 := by rw [← hx0]; split <;> omega
  unfold CamePost
  rw [e1, e2, hx0]
  have HXM := Lib.hid hxm
  have H := Lib.hid h
  obtain ⟨V, hV⟩ : ∃ V, w.alloc (.cells #[.int .i64 i] 2) = V := ⟨_, rfl⟩
  have bv : Below w.heap.size w V := by rw [← hV]; exact (Below.refl _ _).alloc (Nat.le_refl _) _
  have y0 : V.heap[w.heap.size]? = some (.cells #[.int .i64 i] 2 (0, 0)) := by rw [← hV]; exact alloc_blk_new
  have HV := Lib.hid (H.out.keep bv)
  obtain ⟨q, hq⟩ : ∃ q, w.heap.size = q := ⟨_, rfl⟩
  rw [hq] at y0
  have hne : Nonempty { w' : World // Below V.heap.size V w' } := ⟨⟨_, Below.refl _ _⟩⟩
  have o1 : ∀ z : { w' : World // Below V.heap.size V w' }, z.1.cell? ⟨g, 1, none⟩ = some (.int .i64 high) := fun z => cell_blk (Below.blk z.2 HV.out.blk HV.out.lt)
  have o2 : ∀ z : { w' : World // Below V.heap.size V w' }, z.1.cell? ⟨q, 0, none⟩ = some (.int .i64 i) := fun z => cell_blk (Below.blk z.2 y0 (lt_of_block y0))
  have x1 : V.cell? ⟨g, 1, none⟩ = some (.int .i64 high) := cell_blk HV.out.blk
  have BV := Lib.hid bv
  have HY0 := Lib.hid y0
  have HHB := Lib.hid hB
  have d0 : decide (i < 0) = false := by simp; omega
  have d1 : decide (0 ≤ high) = true := by simp; omega
  have d2 : decide (1099511627776 < i - high) = false := by simp; omega
  have d3 : decide (high < 0) = false := by simp; omega
  have d4 : decide (high < i) = true := by simp; omega
  have w1 : IntKind.i64.wrap (i - high) = i - high := IntWalk.i64_in _ (by omega)
  have w2 : IntKind.i64.wrap (high + 1) = high + 1 := IntWalk.i64_in _ (by omega)
  have w3 : IntKind.i64.wrap (i - 32) = i - 32 := IntWalk.i64_in _ (by omega)
  have HX0 := Lib.hid hx0
  have S0 : Hid (∀ z, Below V.heap.size V z → CSt B g q pause high i tick x0 M [] a c 0 w z) := Lib.hid (fun z hz => ⟨by rw [List.append_nil]; exact HV.out.keep hz, rfl, (BV.out.mono HHB.out).trans (hz.mono (Nat.le_trans HHB.out BV.out.size)), (Ty.below BV.out).trans (Ty.below hz), Below.blk hz HY0.out (lt_of_block HY0.out)⟩)
  clear h bv y0 e1 e2 hf hx0 hxm
  go_enter Try.func21, Try.ntmps21
  go_wp2_with fail
  refine MixC.wp_region_mix [] (Below V.heap.size V) (Below.refl _ _).drew (by kernel_rfl) (by kernel_rfl) (by kernel_rfl) ?_
  (iterate 23 (refine MixC.mix_read rfl (fun K hK => ?_); go_simp; refine hK _ ?_; clear hK K))
  refine MixC.mix_nil ?_
  go_wp2_with fail
  have C5 : Hid (Below V.heap.size V V.drew.drew) := Lib.hid (Below.refl _ _).drew.drew
  refine MixC.wp_region_mix [] (Below V.heap.size V) C5.out (by kernel_rfl) (by kernel_rfl) (by kernel_rfl) ?_
  (iterate 7 (refine MixC.mix_read rfl (fun K hK => ?_); go_simp; refine hK _ ?_; clear hK K))
  refine MixC.mix_nil ?_
  go_wp2_with fail
  have C6 : Hid (Below V.heap.size V V.drew.drew.drew) := Lib.hid (Below.refl _ _).drew.drew.drew
  have hxm := HXM.out
  refine MixC.wp_region_mix [] (Below V.heap.size V) C6.out (by kernel_rfl) (by kernel_rfl) (by kernel_rfl) ?_
  (iterate 9 (refine MixC.mix_read rfl (fun K hK => ?_); go_simp; refine hK _ ?_; clear hK K))
  refine MixC.mix_nil ?_
  clear o1 o2 hne w1 w2 w3 hxm x1
  have S1 : Hid (CSt B g q pause high i tick x0 M [] a c 0 w V.drew.drew.drew) := Lib.hid (S0.out _ C6.out)
  have X00 : Hid (x0 = x0 + (0 : Nat)) := Lib.hid (by omega)
  go_wp2_with fail
  go_loopw [6] (fun s6 wr => ∃ (k : Nat) (x : Int) (NB : List (Nat × Mis)) (a' : Option Addr) (c' : Nat), s6 = .int .i64 x ∧ x0 ≤ x ∧ x ≤ i ∧ Hid (x = x0 + k) ∧ Hid (CSt B g q pause high i tick x0 M NB a' c' k w wr)) (fun s6 _ => (i - intOf s6).toNat)
  case atStart => exact ⟨0, x0, [], a, c, rfl, by omega, by omega, X00, S1⟩
  case round =>
    obtain ⟨k, x, NB, a', c', rfl, hx1, hx2, HXK, HS⟩ := hrel
    have cq : wr.cell? ⟨q, 0, none⟩ = some (.int .i64 i) := cell_blk HS.out.bx
    have hk32 : k ≤ 32 := by have := HXK.out; omega
    have hnl : (M ++ NB).length = M.length + k := by
      have := congrArg List.length HS.out.nb
      simp only [ofM, newsL, List.length_map, List.length_range] at this
      rw [List.length_append, this]
    have g2 : wr.cell? ⟨g, 2, none⟩ = some (.slice a' (M ++ NB).length c') := cell_blk HS.out.ks.blk
    obtain ⟨n, hn⟩ : ∃ n, (M ++ NB).length = n := ⟨_, rfl⟩
    have HN := Lib.hid hn
    by_cases hlt : x < i
    · have d5 : decide (x < i) = true := by simpa using hlt
      obtain ⟨a2, c2, W2, A⟩ := pr_app elPtr (HS.out.ks.keep ((Below.refl _ wr).alloc (Nat.le_refl _) (misO ⟨x, 0, tick⟩))).row (ptr wr.heap.size) rfl (by omega) (by omega)
      have S2 := Lib.hid (HS.out.add HXK.out HHB.out A)
      have hU : wr.alloc (.cells #[.int .i64 x, .int .i64 0, .int .i64 tick] 126) = wr.alloc (misO ⟨x, 0, tick⟩) := rfl
      have g3 : W2.heap[g]? = some (keepO pause high (.slice a' (M ++ NB).length c')) := A.but.blk (HS.out.ks.keep ((Below.refl _ wr).alloc (Nat.le_refl _) (misO ⟨x, 0, tick⟩))).blk (HS.out.ks.keep ((Below.refl _ wr).alloc (Nat.le_refl _) (misO ⟨x, 0, tick⟩))).ng
      have s1 : W2.cell? ⟨g, 2, none⟩ = some (.slice a' (M ++ NB).length c') := cell_blk g3
      have s2 : W2.frozen? ⟨g, 2, none⟩ = false := free_blk g3
      have hr := A.run
      rw [show (wr.alloc (misO ⟨x, 0, tick⟩)).heap.size = wr.heap.size + 1 by simp] at hr
      rw [hn] at g2 s1 hr S2
      have HA : Hid (∀ ty, (Builtin.append_ #[118, 118] ty #[.slice a' n c', .slice (some ⟨wr.heap.size + 1, 0, none⟩) 1 1]).run Try.prog ((wr.alloc (.cells #[.int .i64 x, .int .i64 0, .int .i64 tick] 126)).alloc (.cells #[.pointer (some ⟨wr.heap.size, 0, none⟩)] 124)) = .ok (.slice a2 (n + 1) c2) W2) := Lib.hid hr
      have HXK2 : Hid (x + 1 = x0 + ((k + 1 : Nat) : Int)) := Lib.hid (by have := HXK.out; omega)
      have w4 : IntKind.i64.wrap (x + 1) = x + 1 := IntWalk.i64_in _ (by omega)
      clear A hU g3 hr hn hnl
      go_wp2_with (at_builtin; refine wpList_of_append rfl (.tmp 73) (.tmp 78) 118 rfl _ _ _ rfl rfl HA.out ?_)
      go_roundw
      case rel => exact ⟨k + 1, x + 1, _, a2, c2, rfl, by omega, by omega, HXK2, S2⟩
      case measure => simp [intOf]; omega
    · have d5 : decide (x < i) = false := by simpa using hlt
      have hxi : x = i := by omega
      have HKI : Hid ((i - x0).toNat = k) := Lib.hid (by have := HXK.out; omega)
      obtain ⟨m, hm⟩ : ∃ m, n - 32 = m := ⟨_, rfl⟩
      have hmn : m ≤ n := by omega
      have hmi : (if (n : Int) - 32 < 0 then 0 else (n : Int) - 32) = (m : Int) := by split <;> omega
      have w4 : IntKind.i64.wrap ((n : Int) - 32) = (n : Int) - 32 := IntWalk.i64_in _ (by omega)
      have hsl := run_from Try.underlying118 sizePtr a' n c' m hmn
      have hdr := HS.out.ks.row
      rw [hn] at hdr
      have hdrop := hdr.drop m hmn
      have hbd := blkOf_drop a' c' m
      obtain ⟨a5, ha5⟩ : ∃ a5, (if c' = m then a' else a'.map (·.add (m * 1))) = a5 := ⟨_, rfl⟩
      rw [ha5] at hsl hdrop hbd
      have hpd : (ptrs (M ++ NB)).drop m = ptrs ((M ++ NB).drop m) := by unfold ptrs; rw [List.map_drop]
      have hdl : ((M ++ NB).drop m).length = n - m := by rw [List.length_drop, hn]
      have hofm : ofM ((M ++ NB).drop m) = last32 (ofM M ++ newsL x0 tick k) := by
        unfold last32 ofM
        have e : (M.map (·.2) ++ newsL x0 tick k) = (M ++ NB).map (·.2) := by rw [List.map_append, ← HS.out.nb]; rfl
        rw [e, List.length_map, hn, hm, List.map_drop]
      rw [hpd] at hdrop
      have G0 : Hid (wr.heap[g]? = some (keepO pause high (.slice a' n c'))) := Lib.hid (by rw [← hn]; exact HS.out.ks.blk)
      have FIN : Hid (∀ z, But (some g) wr z → z.heap[g]? = some (keepO pause i (.slice a5 (n - m) (c' - m))) → (∃ M' a' c', KS B g pause i M' a' c' z ∧ ofM M' = last32 (ofM M ++ newsL x0 tick (i - x0).toNat)) ∧ Below B w z ∧ Ty kTs w z) := Lib.hid (fun z hz hg => by
        refine ⟨⟨(M ++ NB).drop m, a5, c' - m, KS.mk2 G0.out HS.out.ks.gB hz (by rw [hdl]; exact hg) (by rw [hdl]; exact hdrop) ((List.drop_sublist _ _).map _ |>.nodup HS.out.ks.nd) (fun y hy => ⟨HS.out.ks.ms y (List.mem_of_mem_drop hy), HS.out.ks.mB y (List.mem_of_mem_drop hy)⟩) (fun k' hk' => HS.out.ks.rB k' (by rw [← hbd]; exact hk')), by rw [HKI.out]; exact hofm⟩, HS.out.bl.trans (hz.below (Nat.le_trans HHB.out HS.out.bl.size) (fun k e => by injection e with e; have := HS.out.ks.gB; omega)), HS.out.ty.trans (Ty.but hz (fun k e => by cases e; exact ⟨_, _, G0.out⟩) (by decide))⟩)
      rw [hn] at g2
      have hne : Nonempty { w' : World // Below wr.heap.size wr w' } := ⟨⟨_, Below.refl _ _⟩⟩
      have o2 : ∀ z : { w' : World // Below wr.heap.size wr w' }, z.1.cell? ⟨g, 2, none⟩ = some (.slice a' n c') := fun z => cell_blk (Below.blk z.2 G0.out (lt_of_block G0.out))
      have s2 : wr.frozen? ⟨g, 2, none⟩ = false := free_blk G0.out
      have hqg : Hid (q ≠ g) := Lib.hid (fun e => by
        have h1 := HS.out.bx
        rw [e, G0.out] at h1
        injection h1 with h1
        injection h1 with _ h1
        exact absurd h1 (by decide))
      clear hnl hn hdr hdrop hbd ha5 hpd hdl hofm hm
      go_upto_region 10 with (fail)
      refine MixC.wp_region_mix_tail 15 [] (Below wr.heap.size wr) (Below.refl _ _).drew (by kernel_rfl) (by kernel_rfl) (by kernel_rfl) ?_
      simp only [List.take_succ_cons, List.take_zero, List.drop_succ_cons, List.drop_zero]
      (iterate 15 (refine MixC.mix_read rfl (fun K hK => ?_); go_simp; refine hK _ ?_; clear hK K))
      refine MixC.mix_nil ?_
      clear o2 hne w4
      go_upto_region 11 with (fail)
      clear s2 g2 cq
      have G1 : (wr.setCell ⟨g, 2, none⟩ (.slice a5 (n - m) (c' - m))).heap[g]? = some (keepO pause high (.slice a5 (n - m) (c' - m))) := by rw [set_blk _ G0.out]; rfl
      have Q1 : (wr.setCell ⟨g, 2, none⟩ (.slice a5 (n - m) (c' - m))).heap[q]? = some (.cells #[.int .i64 i] 2 (0, 0)) := by rw [set_blk_other _ (by exact hqg.out)]; exact HS.out.bx
      have B1 : Hid (But (some g) wr (wr.setCell ⟨g, 2, none⟩ (.slice a5 (n - m) (c' - m)))) := Lib.hid ((But.refl (some g) wr).set _ _)
      generalize hX : World.setCell wr _ _ = X at G1 Q1 B1 ⊢
      clear hX
      have HG1 := Lib.hid G1
      have cq : X.cell? ⟨q, 0, none⟩ = some (.int .i64 i) := cell_blk Q1
      have s1 : X.cell? ⟨g, 1, none⟩ = some (.int .i64 high) := cell_blk G1
      have s2 : X.frozen? ⟨g, 1, none⟩ = false := free_blk G1
      clear G1 Q1
      go_wp2_with fail
      go_returns
      obtain ⟨⟨M', a', c', k1, k2⟩, k3, k4⟩ := FIN.out (X.setCell ⟨g, 1, none⟩ (.int .i64 i)).drew ((B1.out.set _ _).drew) (by
        show (X.setCell _ _).heap[g]? = _
        rw [set_blk _ HG1.out]; rfl)
      exact ⟨rfl, ⟨M', ⟨a', c', k1⟩, k2⟩, k3, k4⟩
/-- **Came.** -/
theorem came_any (B g : Nat) (pause high i tick : Int) (M : List (Nat × Mis)) (a : Option Addr) (c : Nat) (w : World) (h : KS B g pause high M a c w) (hB : B ≤ w.heap.size) (hh0 : -1 ≤ high) (hh : high ≤ 4611686018427387904) (hi : i ≤ 4611686018427387904) (hM : M.length ≤ 1000) :
    Calls Try.prog 21 #[.pointer (some ⟨g, 0, none⟩), .int .i64 i, .int .i64 tick] w (CamePost B g pause high i tick M w) := by
  by_cases hf : farI high i = true
  · exact came_far B g pause high i tick M a c w h hB hf hh hi hh0
  · have hf' : ¬ (i < 0) ∧ ¬ (0 ≤ high ∧ 1099511627776 < i - high) := by
      unfold farI at hf
      simp at hf
      omega
    by_cases h1 : high < 0
    · exact came_first B g pause high i tick M a c w h hB (by omega) h1
    · by_cases h2 : high < i
      · exact came_more B g pause high i tick M a c w h hB (by omega) h2 (by omega) hi hM
      · exact came_same B g pause high i tick M a c w h hB (by omega) (by omega) hh hM
end Go.Proofs.Ytdmbdageohjodaa
