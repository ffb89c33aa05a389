/-
  Chapter 43: the configs.
-/
import Derived.Test.YtkoplofcjbeicaaOpA
import Derived.Test.YtkoplofcjbeicaaRtxC
namespace Go.Proofs.Ytkoplofcjbeicaa
open Go.RowKit
set_option linter.unusedVariables false
set_option linter.unusedSimpArgs false
attribute [local irreducible] wpStill wpQuiet MixC.wpMix

def tabF (F : Nat → Int) (n : Nat) : List Value := (List.range n).map fun i => Value.int .i64 (F i)
theorem tabF_len (F : Nat → Int) (n : Nat) : (tabF F n).length = n := by simp [tabF]
theorem tabF_get (F : Nat → Int) {n i : Nat} (h : i < n) : (tabF F n)[i]? = some (.int .i64 (F i)) := by simp [tabF, h]
def CfgO (F : Nat → Int) (k : Nat) : Prop := 2 ≤ k → F 3 = 0 ∧ F 4 = 0 ∧ F 5 = 160
theorem ix4_0 (a b c d : Int) (W : World) : (Instr.index 129 (.agg #[.int .i64 a, .int .i64 b, .int .i64 c, .int .i64 d]) (.int .i64 0)).run Try.prog W = .ok (.int .i64 a) W := by kernel_rfl
theorem ix4_1 (a b c d : Int) (W : World) : (Instr.index 129 (.agg #[.int .i64 a, .int .i64 b, .int .i64 c, .int .i64 d]) (.int .i64 1)).run Try.prog W = .ok (.int .i64 b) W := by kernel_rfl
theorem ix4_2 (a b c d : Int) (W : World) : (Instr.index 129 (.agg #[.int .i64 a, .int .i64 b, .int .i64 c, .int .i64 d]) (.int .i64 2)).run Try.prog W = .ok (.int .i64 c) W := by kernel_rfl
theorem ix4_3 (a b c d : Int) (W : World) : (Instr.index 129 (.agg #[.int .i64 a, .int .i64 b, .int .i64 c, .int .i64 d]) (.int .i64 3)).run Try.prog W = .ok (.int .i64 d) W := by kernel_rfl
theorem ix4 (a b c d x : Int) (h0 : 0 ≤ x) (h4 : x < 4) : ∃ v, (∀ W, (Instr.index 129 (.agg #[.int .i64 a, .int .i64 b, .int .i64 c, .int .i64 d]) (.int .i64 x)).run Try.prog W = .ok (.int .i64 v) W) ∧ (x = 1 → v = b) := by
  rcases (show x = 0 ∨ x = 1 ∨ x = 2 ∨ x = 3 by omega) with rfl | rfl | rfl | rfl
  · exact ⟨a, fun W => ix4_0 a b c d W, fun h => absurd h (by decide)⟩
  · exact ⟨b, fun W => ix4_1 a b c d W, fun h => rfl⟩
  · exact ⟨c, fun W => ix4_2 a b c d W, fun h => absurd h (by decide)⟩
  · exact ⟨d, fun W => ix4_3 a b c d W, fun h => absurd h (by decide)⟩
def set3 (F : Nat → Int) (o : Nat) (a b c : Int) : Nat → Int := fun i => if i = o then a else if i = o + 1 then b else if i = o + 2 then c else F i
theorem tab_set3 (F : Nat → Int) (o : Nat) (a b c : Int) (ho : o + 2 < 96) : (((tabF F 96).toArray.setIfInBounds o (.int .i64 a)).setIfInBounds (o + 1) (.int .i64 b)).setIfInBounds (o + 2) (.int .i64 c) = (tabF (set3 F o a b c) 96).toArray := by
  apply Array.ext_getElem?
  intro i
  by_cases hi : i < 96
  · simp only [Array.getElem?_setIfInBounds, List.getElem?_toArray, tabF_get _ hi, Array.size_setIfInBounds, List.size_toArray, tabF_len]
    unfold set3
    by_cases e0 : i = o
    · subst e0; simp [hi]
    · by_cases e1 : i = o + 1
      · subst e1; simp [hi]
      · by_cases e2 : i = o + 2
        · subst e2; simp [hi]
        · rw [if_neg (fun h => e2 h.symm), if_neg (fun h => e1 h.symm), if_neg (fun h => e0 h.symm), if_neg e0, if_neg e1, if_neg e2]
  · rw [Array.getElem?_eq_none (by simp [tabF_len]; omega), Array.getElem?_eq_none (by simp [tabF_len]; omega)]
theorem st3 {W : World} {G o B : Nat} {T : TypeId} {F : Nat → Int} (h : W.heap[G]? = some (.cells (tabF F 96).toArray T (0, 0))) (a b c : Int) (ho : o + 2 < 96) (hB : B ≤ G) :
    (((W.setCell ⟨G, o, none⟩ (.int .i64 a)).setCell ⟨G, o + 1, none⟩ (.int .i64 b)).setCell ⟨G, o + 2, none⟩ (.int .i64 c)).heap[G]? = some (.cells (tabF (set3 F o a b c) 96).toArray T (0, 0)) ∧
    (∀ q, q ≠ G → (((W.setCell ⟨G, o, none⟩ (.int .i64 a)).setCell ⟨G, o + 1, none⟩ (.int .i64 b)).setCell ⟨G, o + 2, none⟩ (.int .i64 c)).heap[q]? = W.heap[q]?) ∧
    Below B W (((W.setCell ⟨G, o, none⟩ (.int .i64 a)).setCell ⟨G, o + 1, none⟩ (.int .i64 b)).setCell ⟨G, o + 2, none⟩ (.int .i64 c)) := by
  refine ⟨?_, fun q hq => ?_, (((Below.refl _ _).setCell hB _).setCell hB _).setCell hB _⟩
  · rw [set_blk _ (set_blk _ (set_blk _ h)), tab_set3 F o a b c ho]
  · rw [set_blk_other _ hq, set_blk_other _ hq, set_blk_other _ hq]
theorem cell_tab {W : World} {G o : Nat} {T : TypeId} {F : Nat → Int} (h : W.heap[G]? = some (.cells (tabF F 96).toArray T (0, 0))) (ho : o < 96) : W.cell? ⟨G, o, none⟩ = some (.int .i64 (F o)) := by
  rw [cell_blk h, List.getElem?_toArray, tabF_get _ ho]
theorem CfgO.set {F : Nat → Int} {k : Nat} {a b c : Int} (h : CfgO F k) (h1 : k = 1 → a = 0 ∧ b = 0 ∧ c = 160) : CfgO (set3 F (k * 3) a b c) (k + 1) := by
  intro hk
  by_cases e : k = 1
  · obtain ⟨rfl, rfl, rfl⟩ := h1 e
    subst e
    exact ⟨rfl, rfl, rfl⟩
  · obtain ⟨h3, h4, h5⟩ := h (by omega)
    unfold set3
    refine ⟨?_, ?_, ?_⟩
    · rw [if_neg (by omega), if_neg (by omega), if_neg (by omega)]; exact h3
    · rw [if_neg (by omega), if_neg (by omega), if_neg (by omega)]; exact h4
    · rw [if_neg (by omega), if_neg (by omega), if_neg (by omega)]; exact h5
set_option maxRecDepth 100000 in
set_option maxHeartbeats 20000000 in
theorem oconfigs (w : World) : Calls Try.prog 51 #[] w fun e w' => (∃ F, e = .returned (.agg (tabF F 96).toArray) ∧ F 3 = 0 ∧ F 4 = 0 ∧ F 5 = 160) ∧ Below w.heap.size w w' := by
  go_enter Try.func51, Try.ntmps51
  go_wp2_with fail
  go_loopw [3] (fun s wx => ∃ (k : Nat) (F : Nat → Int), k ≤ 32 ∧ s = .int .i64 k ∧ Hid (wx.heap[w.heap.size + 1]? = some (.cells (tabF F 96).toArray 95 (0, 0))) ∧ Hid (∃ cs, cs.size = 96 ∧ wx.heap[w.heap.size]? = some (.cells cs 95 (0, 0))) ∧ Hid (Below w.heap.size w wx) ∧ Hid (CfgO F k)) (fun s _ => 32 - (intOf s).toNat)
  case atStart =>
    refine ⟨0, fun _ => 0, by omega, rfl, Lib.hid ?_, Lib.hid ⟨Try.zeroCells95, by kernel_rfl, ?_⟩, Lib.hid (((Below.refl _ _).alloc (Nat.le_refl _) _).alloc (by simp) _), Lib.hid (fun h => by omega)⟩
    · have h := alloc_blk_new (w := w.alloc (Obj.cells Try.zeroCells95 95)) (o := Obj.cells Try.zeroCells95 95)
      rw [show (w.alloc (Obj.cells Try.zeroCells95 95)).heap.size = w.heap.size + 1 by simp] at h
      rw [h, show Try.zeroCells95 = (tabF (fun _ => 0) 96).toArray by kernel_rfl]
    · exact (alloc_blk_old (by simp)).trans alloc_blk_new
  case round =>
    obtain ⟨k, F, hk, rfl, HB, HZ, HW, HF⟩ := hrel
    by_cases hlt : k < 32
    · have t0 : decide ((k : Int) < 32) = true := by simp; omega
      have t0' : decide (k < 32) = true := by simp; omega
      have c0 := cell_tab HB.out (o := k * 3) (by omega)
      have c1 := cell_tab HB.out (o := k * 3 + 1) (by omega)
      have c2 := cell_tab HB.out (o := k * 3 + 2) (by omega)
      have z0 : wr.frozen? ⟨w.heap.size + 1, k * 3, none⟩ = false := free_blk HB.out
      have z1 : wr.frozen? ⟨w.heap.size + 1, k * 3 + 1, none⟩ = false := free_blk HB.out
      have z2 : wr.frozen? ⟨w.heap.size + 1, k * 3 + 2, none⟩ = false := free_blk HB.out
      by_cases h12 : k < 12
      · have t1 : decide ((k : Int) < 12) = true := by simp; omega
        have t1' : decide (k < 12) = true := by simp; omega
        obtain ⟨v, hv, hv1⟩ := ix4 80 160 320 480 ((k : Int) % 4) (by omega) (by omega)
        have HV := Lib.hid hv1
        clear hv1
        go_wp2_with fail
        obtain ⟨q1, q2, q3⟩ := st3 HB.out 0 ((k : Int) / 4) v (o := k * 3) (by omega) (Nat.le_succ w.heap.size)
        obtain ⟨cs, hcs, hz⟩ := HZ.out
        go_roundw
        case rel => exact ⟨k + 1, _, by omega, rfl, Lib.hid q1, Lib.hid ⟨cs, hcs, (q2 _ (by omega)).trans hz⟩, Lib.hid (HW.out.trans q3), Lib.hid (HF.out.set fun e => ⟨rfl, by omega, HV.out (by omega)⟩)⟩
        all_goals (simp only [intOf]; omega)
      · by_cases h16 : k < 16
        · have t1 : decide ((k : Int) < 12) = false := by simp; omega
          have t1' : decide (k < 12) = false := by simp; omega
          have t2 : decide ((k : Int) < 16) = true := by simp; omega
          have t2' : decide (k < 16) = true := by simp; omega
          go_wp2_with fail
          obtain ⟨q1, q2, q3⟩ := st3 HB.out 1 (3 + ((k : Int) - 12) / 2) (wrap64 (80 * 2 ^ (k % 2))) (o := k * 3) (by omega) (Nat.le_succ w.heap.size)
          obtain ⟨cs, hcs, hz⟩ := HZ.out
          go_roundw
          case rel => exact ⟨k + 1, _, by omega, rfl, Lib.hid q1, Lib.hid ⟨cs, hcs, (q2 _ (by omega)).trans hz⟩, Lib.hid (HW.out.trans q3), Lib.hid (HF.out.set fun e => by omega)⟩
          all_goals (simp only [intOf]; omega)
        · have t1 : decide ((k : Int) < 12) = false := by simp; omega
          have t1' : decide (k < 12) = false := by simp; omega
          have t2 : decide ((k : Int) < 16) = false := by simp; omega
          have t2' : decide (k < 16) = false := by simp; omega
          obtain ⟨v, hv, -⟩ := ix4 0 2 3 4 (((k : Int) - 16) / 4) (by omega) (by omega)
          go_wp2_with fail
          go_region
          obtain ⟨q1, q2, q3⟩ := st3 HB.out 2 v (wrap64 (20 * 2 ^ (k % 4))) (o := k * 3) (by omega) (Nat.le_succ w.heap.size)
          obtain ⟨cs, hcs, hz⟩ := HZ.out
          go_wp2_with fail
          go_roundw
          case rel => exact ⟨k + 1, _, by omega, rfl, Lib.hid q1, Lib.hid ⟨cs, hcs, (q2 _ (by omega)).trans hz⟩, Lib.hid (HW.out.trans q3.drew), Lib.hid (HF.out.set fun e => by omega)⟩
          all_goals (simp only [intOf]; omega)
    · have t0 : decide ((k : Int) < 32) = false := by simp; omega
      have t0' : decide (k < 32) = false := by simp; omega
      obtain ⟨cs, hcs, hz⟩ := HZ.out
      obtain ⟨X, hX⟩ : ∃ X, wr.setCells w.heap.size 0 (tabF F 96) = X := ⟨_, rfl⟩
      obtain ⟨x1, x2, -⟩ := fill_blk hz (by rw [hcs, tabF_len]) hX
      have hrg : wr.rangeAt (w.heap.size + 1) 0 (tabF F 96) := fun j v hv => by
        have hj : j < 96 := by
          have := (List.getElem?_eq_some_iff.1 hv).1; rwa [tabF_len] at this
        rw [Nat.zero_add, cell_tab HB.out hj]; rw [tabF_get _ hj] at hv; exact hv
      have hth := there_blk hz (n := (tabF F 96).toArray.size) (by rw [hcs]; simp [tabF_len])
      have hl2 : (loadVar 95 ⟨w.heap.size, 0, none⟩).run Try.prog X = .ok (.agg (tabF F 96).toArray) X := run_loadVar_mid X w.heap.size 0 _ (tabF F 96) (.array 32 94) (fun j v hv => by
        rw [Nat.zero_add, cell_blk x1, List.getElem?_toArray]; exact hv) (by kernel_rfl) rfl (by rw [tabF_len]; kernel_rfl)
      go_wp2_with fail
      rename_i hK
      refine wp_load_mid 95 _ rfl (w.heap.size + 1) 0 rfl (tabF F 96) (.array 32 94) hrg (by kernel_rfl) rfl (by rw [tabF_len]; kernel_rfl) (hK _ _ ?_)
      refine wpList_store_mid rfl 95 _ _ rfl w.heap.size 0 (tabF F 96).toArray rfl rfl hth (by rw [List.size_toArray, tabF_len]; kernel_rfl) (all_oneCell_toArray fun v hv => by
          obtain ⟨i, -, rfl⟩ := List.mem_map.1 hv; rfl) ?_
      rw [show (tabF F 96).toArray.toList = tabF F 96 from rfl, hX]
      clear hX
      go_wp2_with fail
      refine bodyPost_ret (results_cell_row Try.results51 _ X w.heap.size _ _ (0, 0) (.array 32 94) rfl x1 (by kernel_rfl) rfl (by rw [List.size_toArray, tabF_len]; kernel_rfl)) rfl ?_
      exact ⟨⟨F, rfl, HF.out (by omega)⟩, HW.out.trans (x2 _ (Nat.le_refl _))⟩
end Go.Proofs.Ytkoplofcjbeicaa
