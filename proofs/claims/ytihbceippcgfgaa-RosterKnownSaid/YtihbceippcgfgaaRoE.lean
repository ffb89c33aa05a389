/-
  Chapter 47: New.
-/
import Derived.Test.YtihbceippcgfgaaRoD
namespace Go.Proofs.Ytihbceippcgfgaa
open Go.RowKit
set_option linter.unusedVariables false
set_option linter.unusedSimpArgs false
attribute [local irreducible] wpStill wpQuiet MixC.wpMix
attribute [local go_sem] MixC.rdOp MixC.rd MixC.rdUpon MixC.mvUpon

def roS0 (n : Nat) (p : Int) : RoS := ⟨n, p, fun _ => 0, fun _ => ⟨#[]⟩, fun _ _ => 0, fun _ _ => 0, fun _ _ => 0⟩
theorem infoEnt : (Try.prog.info? 148).map (fun i => (i.zero, i.size, i.bytes)) = some (some (.agg #[.int .i64 0, .string ⟨#[]⟩]), 2, 24) := by kernel_rfl
theorem infoSig : (Try.prog.info? 154).map (fun i => (i.zero, i.size, i.bytes)) = some (some (.agg #[.int .i64 0, .int .i64 0, .int .i64 0]), 3, 24) := by kernel_rfl
theorem infoSl : (Try.prog.info? 144).map (fun i => (i.zero, i.size, i.bytes)) = some (some (.slice none 0 0), 1, 24) := by kernel_rfl
theorem elSl : ElemT Try.prog 141 144 1 24 := ElemT.mk' Try.underlying141 infoSl rfl (by decide)
theorem made_get (z : Array Value) (n j : Nat) (hj : j < n) : (madeCells z n)[j]? = some (z[j % z.size]!) := by unfold madeCells; simp [hj]
def slV (rw : Nat → Nat) (n k : Nat) : List Value := (List.range k).map fun j => .slice (some ⟨rw j, 0, none⟩) n n
/-- while it is made -/
structure NwI (g be n : Nat) (p : Int) (k : Nat) (rw : Nat → Nat) (va : Option Addr) (vc : Nat) (w W : World) : Prop where
  bl : Below w.heap.size w W
  bg : W.heap[g]? = some (.cells #[.int .i64 p, .slice (some ⟨be, 0, none⟩) n n, .slice va k vc] 143 (0, 0))
  bE : W.heap[be]? = some (.cells (madeCells #[.int .i64 0, .string ⟨#[]⟩] (n * 2)) 148 (0, 0))
  row : W.ownsRow w.heap.size 144 1 (.slice va k vc) k (slV rw n k)
  sg : ∀ j, j < k → W.heap[rw j]? = some (.cells (madeCells #[.int .i64 0, .int .i64 0, .int .i64 0] (n * 3)) 154 (0, 0)) ∧ w.heap.size ≤ rw j
  inj : ∀ i j, i < k → j < k → rw i = rw j → i = j
  wg : w.heap.size ≤ g ∧ w.heap.size ≤ be
theorem NwI.done {g be n : Nat} {p : Int} {rw : Nat → Nat} {va : Option Addr} {vc : Nat} {w W : World} (h : NwI g be n p n rw va vc w W) (h1 : 1 ≤ n) (h2 : n ≤ 16) {B : Nat} (hB : B ≤ w.heap.size) : RoM B g (roS0 n p) W := by
  rcases h.row.2 with ⟨hv, h0⟩ | ⟨bs, cap, cur, hv, hg, hh, hn, hm, hs, ht⟩
  · omega
  · injection hv with e1 e2 e3
    subst e1
    subst e3
    refine ⟨be, n, bs, vc, rw, fun _ => n, Nat.le_trans hB h.wg.1, Nat.le_trans hB h.wg.2, Nat.le_trans hB hg, fun i hi => Nat.le_trans hB (h.sg i hi).2, ⟨Nat.le_refl _, hn, fun _ => Nat.le_refl _⟩, ⟨h1, h2⟩, h.bg, ⟨_, h.bE, fun j hj => ?_⟩, ⟨_, hh, fun i hi => ?_⟩, fun i hi => ⟨_, (h.sg i hi).1, fun j hj => ?_⟩, h.inj⟩
    · change j < n at hj
      rw [made_get _ _ _ (by omega), made_get _ _ _ (by omega)]
      simp [roS0]
    · change i < n at hi
      have h3 := h.row.cells (g := bs) rfl i (.slice (some ⟨rw i, 0, none⟩) n n) (by unfold slV; simp [hi])
      rw [addr_add, Nat.zero_add, cell_blk hh] at h3
      exact h3
    · change j < n at hj
      rw [made_get _ _ _ (by omega), made_get _ _ _ (by omega), made_get _ _ _ (by omega)]
      simp [roS0, Nat.mul_comm j 3, Nat.mul_add_mod]
def mkE (n : Nat) : Prop := ∀ W : World, (Instr.makeSlice 140 (.int .i64 (n : Int)) (.int .i64 (n : Int))).run Try.prog W = .ok (.slice (some ⟨W.heap.size, 0, none⟩) n n) (W.alloc (.cells (madeCells #[.int .i64 0, .string ⟨#[]⟩] (n * 2)) 148))
theorem mkE_any (n : Nat) (hn : n ≤ 1000) : mkE n := fun W => by
  obtain ⟨i, h1, h2⟩ := Option.map_eq_some_iff.1 infoEnt
  have hz : i.zero = some (.agg #[.int .i64 0, .string ⟨#[]⟩]) := congrArg (·.1) h2
  have hs : i.size = 2 := congrArg (·.2.1) h2
  have hb : i.bytes = 24 := congrArg (·.2.2) h2
  have := run_makeSlice (P := Try.prog) (w := W) 140 148 i (.agg #[.int .i64 0, .string ⟨#[]⟩]) Try.underlying140 h1 hz .i64 .i64 (n : Int) (n : Int) (by omega) (Int.le_refl _) (by rw [hs]; omega) (by rw [hb]; omega) (by omega)
  rw [hs] at this
  simpa [Value.cells] using this
theorem mkS_any (n : Nat) (hn : n ≤ 1000) : ∀ W : World, (Instr.makeSlice 144 (.int .i64 (n : Int)) (.int .i64 (n : Int))).run Try.prog W = .ok (.slice (some ⟨W.heap.size, 0, none⟩) n n) (W.alloc (.cells (madeCells #[.int .i64 0, .int .i64 0, .int .i64 0] (n * 3)) 154)) := fun W => by
  obtain ⟨i, h1, h2⟩ := Option.map_eq_some_iff.1 infoSig
  have hz : i.zero = some (.agg #[.int .i64 0, .int .i64 0, .int .i64 0]) := congrArg (·.1) h2
  have hs : i.size = 3 := congrArg (·.2.1) h2
  have hb : i.bytes = 24 := congrArg (·.2.2) h2
  have := run_makeSlice (P := Try.prog) (w := W) 144 154 i (.agg #[.int .i64 0, .int .i64 0, .int .i64 0]) Try.underlying144 h1 hz .i64 .i64 (n : Int) (n : Int) (by omega) (Int.le_refl _) (by rw [hs]; omega) (by rw [hb]; omega) (by omega)
  rw [hs] at this
  simpa [Value.cells] using this
set_option maxRecDepth 100000 in
set_option maxHeartbeats 4000000 in
theorem new47_any (n : Nat) (p : Int) (w : World) (h1 : 1 ≤ n) (h2 : n ≤ 16) (hp : 1 ≤ p) (B : Nat) (hB : B ≤ w.heap.size) : Calls Try.prog 41 #[.int .i64 n, .int .i64 p] w fun e w' => ∃ g, e = .returned (.pointer (some ⟨g, 0, none⟩)) ∧ RoM B g (roS0 n p) w' ∧ Below w.heap.size w w' := by
  have me := mkE_any n (by omega)
  have ms := mkS_any n (by omega)
  unfold mkE at me
  have MS := Lib.hid ms
  clear ms
  have t1 : ¬ (n : Int) < 1 := by omega
  have t2 : ¬ (16 : Int) < n := by omega
  have t3 : ¬ p < 1 := by omega
  go_enter Try.func41, Try.ntmps41
  go_wp2_with fail
  generalize hW : World.alloc (World.alloc w _) _ = W1
  obtain ⟨be, hbe⟩ : ∃ b, w.heap.size = b := ⟨_, rfl⟩
  have I0 : NwI (w.heap.size + 1) w.heap.size n p 0 (fun _ => 0) none 0 w W1 := by
    subst hW
    refine ⟨((Below.refl _ _).alloc (Nat.le_refl _) _).alloc (by simp) _, ?_, ?_, World.ownsRow_nil _ _ _ _, fun j hj => by omega, fun i j hi => by omega, by omega, Nat.le_refl _⟩
    · exact (by simpa using alloc_blk_new (w := w.alloc (.cells (madeCells #[.int .i64 0, .string ⟨#[]⟩] (n * 2)) 148)) (o := .cells #[.int .i64 p, .slice (some ⟨w.heap.size, 0, none⟩) n n, .slice none 0 0] 143))
    · rw [alloc_blk_old (by simp)]; exact alloc_blk_new
  rw [hbe] at I0 ⊢
  have HI := Lib.hid I0
  have hwb : Hid (w.heap.size = be) := Lib.hid hbe
  clear I0 hW hbe me t1 t2 t3
  go_loopw [22] (fun s22 wr => ∃ (k : Nat) (rw' : Nat → Nat) (va : Option Addr) (vc : Nat), k ≤ n ∧ s22 = .int .i64 k ∧ Hid (NwI (be + 1) be n p k rw' va vc w wr)) (fun s22 _ => n - (intOf s22).toNat)
  case atStart => exact ⟨0, _, _, _, by omega, rfl, HI⟩
  case round =>
    clear HI
    obtain ⟨k, rw', va, vc, hk, rfl, HS⟩ := hrel
    by_cases hlt : k < n
    · have hki : (k : Int) < n := by omega
      obtain ⟨V1, hV1⟩ : ∃ V1, (wr.alloc (.cells (madeCells #[.int .i64 0, .int .i64 0, .int .i64 0] (n * 3)) 154)).drew = V1 := ⟨_, rfl⟩
      have b1 : Below wr.heap.size wr V1 := by rw [← hV1]; exact ((Below.refl wr.heap.size wr).alloc (Nat.le_refl _) _).drew
      have s1 : V1.heap.size = wr.heap.size + 1 := by rw [← hV1]; simp
      have kb : V1.heap[wr.heap.size]? = some (.cells (madeCells #[.int .i64 0, .int .i64 0, .int .i64 0] (n * 3)) 154 (0, 0)) := by rw [← hV1]; exact alloc_blk_new (w := wr.drew)
      obtain ⟨a9, c9, V2, A9, B9⟩ := app1 elSl (own_below HS.out.row b1) [.slice (some ⟨wr.heap.size, 0, none⟩) n n] rfl (one_cell rfl) (by omega) (by omega) (Nat.le_trans HS.out.bl.size b1.size)
      have kg := Below.blk b1 HS.out.bg (lt_of_block HS.out.bg)
      have ko := own_blockT (own_below HS.out.row b1)
      have tn : TyB 144 V1 V2 := TyB.but A9.but ko
      have kg2 := tn _ _ _ _ kg (by decide)
      have C0 : Hid (HasO (be + 1) (.cells #[.int .i64 p, .slice (some ⟨be, 0, none⟩) n n, .slice va k vc] 143 (0, 0)) wr.drew) := Lib.hid HS.out.bg
      have C1 : Hid (HasO (be + 1) (.cells #[.int .i64 p, .slice (some ⟨be, 0, none⟩) n n, .slice va k vc] 143 (0, 0)) V1) := Lib.hid kg
      have C2 : Hid (HasO (be + 1) (.cells #[.int .i64 p, .slice (some ⟨be, 0, none⟩) n n, .slice va k vc] 143 (0, 0)) (V1.alloc (.cells #[.slice (some ⟨wr.heap.size, 0, none⟩) n n] 144))) := Lib.hid ((alloc_blk_old (lt_of_block kg)).trans kg)
      have C3 : Hid (HasO (be + 1) (.cells #[.int .i64 p, .slice (some ⟨be, 0, none⟩) n n, .slice va k vc] 143 (0, 0)) V2) := Lib.hid kg2
      have hne : Nonempty { w' : World // HasO (be + 1) (.cells #[.int .i64 p, .slice (some ⟨be, 0, none⟩) n n, .slice va k vc] 143 (0, 0)) w' } := ⟨⟨_, C0.out⟩⟩
      have z2 : ∀ z : { w' : World // HasO (be + 1) (.cells #[.int .i64 p, .slice (some ⟨be, 0, none⟩) n n, .slice va k vc] 143 (0, 0)) w' }, z.1.cell? ⟨be + 1, 2, none⟩ = some (.slice va k vc) := fun z => cell_blk z.2
      have msw := MS.out wr.drew
      have HA := Lib.hid A9.run
      have HV1 := Lib.hid hV1
      have HR : Hid (∀ Z, V2.setCell ⟨be + 1, 2, none⟩ (.slice a9 (k + 1) c9) = Z → NwI (be + 1) be n p (k + 1) (upd1 rw' k wr.heap.size) a9 c9 w Z) := Lib.hid (fun Z hZ => by
        subst hZ
        have tz : TyB 143 V2 (V2.setCell ⟨be + 1, 2, none⟩ (.slice a9 (k + 1) c9)) := TyB.set kg2 _
        have hu : ∀ j, j < k → upd1 rw' k wr.heap.size j = rw' j := fun j hj => if_neg (by omega)
        have hk' : upd1 rw' k wr.heap.size k = wr.heap.size := if_pos rfl
        have hsv : slV (upd1 rw' k wr.heap.size) n (k + 1) = slV rw' n k ++ [.slice (some ⟨wr.heap.size, 0, none⟩) n n] := by
          unfold slV
          rw [List.range_succ, List.map_append, List.map_singleton, hk']
          congr 1
          exact List.map_congr_left (fun j hj => by rw [hu j (List.mem_range.1 hj)])
        refine ⟨(HS.out.bl.trans ((b1.mono HS.out.bl.size).trans B9)).setCell (p := ⟨be + 1, 2, none⟩) HS.out.wg.1 _, by rw [set_blk _ kg2]; rfl, ?_, ?_, fun j hj => ?_, fun i j hi hj e => ?_, HS.out.wg⟩
        · exact tz _ _ _ _ (tn _ _ _ _ (Below.blk b1 HS.out.bE (lt_of_block HS.out.bE)) (by decide)) (by decide)
        · rw [hsv]; exact tz.own A9.own (by decide)
        · by_cases hjk : j < k
          · rw [hu j hjk]
            obtain ⟨s1', s2'⟩ := HS.out.sg j hjk
            exact ⟨tz _ _ _ _ (tn _ _ _ _ (Below.blk b1 s1' (lt_of_block s1')) (by decide)) (by decide), s2'⟩
          · obtain rfl : j = k := by omega
            rw [hk']
            exact ⟨tz _ _ _ _ (tn _ _ _ _ kb (by decide)) (by decide), HS.out.bl.size⟩
        · have lt : ∀ j, j < k → rw' j < wr.heap.size := fun j hj => lt_of_block (HS.out.sg j hj).1
          by_cases hik : i < k <;> by_cases hjk : j < k
          · rw [hu i hik, hu j hjk] at e; exact HS.out.inj i j hik hjk e
          · obtain rfl : j = k := by omega
            rw [hu i hik, hk'] at e; have := lt i hik; omega
          · obtain rfl : i = k := by omega
            rw [hu j hjk, hk'] at e; have := lt j hjk; omega
          · omega)
      have f2 : V2.frozen? ⟨be + 1, 2, none⟩ = false := free_blk kg2
      have c2 : V2.cell? ⟨be + 1, 2, none⟩ = some (.slice va k vc) := cell_blk kg2
      clear A9 B9 tn kg kg2 ko kb b1 hV1 s1
      go_upto_region 6 with (fail)
      refine MixC.wp_region_mix_tail 9 [6, 7, 8] (HasO (be + 1) (.cells #[.int .i64 p, .slice (some ⟨be, 0, none⟩) n n, .slice va k vc] 143 (0, 0))) C0.out (by kernel_rfl) (by kernel_rfl) (by kernel_rfl) ?_
      simp only [List.take_succ_cons, List.take_zero, List.drop_succ_cons, List.drop_zero]
      (iterate 6 (refine MixC.mix_read rfl (fun K hK => ?_); go_simp; refine hK _ ?_; clear hK K))
      refine MixC.mix_move rfl (fun K hK => ?_)
      go_simp
      rw [HV1.out]
      refine ⟨C1.out, hK _ _ ?_⟩
      clear hK K msw
      refine MixC.mix_move rfl (fun K hK => ?_)
      go_simp
      refine ⟨C2.out, hK _ _ ?_⟩
      clear hK K
      (refine MixC.mix_move rfl (fun K hK => ?_); refine Eq.mpr (if_pos rfl) ?_; refine mv_app (s := .tmp 28) (x := .tmp 31) (t := 141) rfl rfl rfl HA.out C3.out (hK _ _ ?_); clear hK K)
      refine MixC.mix_nil ?_
      change wpList _ _ _ _ _ V2
      clear z2 hne
      go_wp2_with fail
      obtain ⟨Z, hZ⟩ : ∃ Z, V2.setCell ⟨be + 1, 2, none⟩ (.slice a9 (k + 1) c9) = Z := ⟨_, rfl⟩
      rw [hZ]
      have HZ := Lib.hid (HR.out Z hZ)
      clear hZ f2 c2
      go_wp2_with fail
      go_roundw
      case rel => exact ⟨k + 1, _, a9, c9, hlt, by go_num, HZ⟩
      case measure => simp [intOf] <;> omega
    · obtain rfl : n = k := by omega
      clear hlt
      go_wp2_with fail
      go_ret
      exact ⟨be + 1, rfl, HS.out.done h1 h2 hB, HS.out.bl⟩
end Go.Proofs.Ytihbceippcgfgaa
