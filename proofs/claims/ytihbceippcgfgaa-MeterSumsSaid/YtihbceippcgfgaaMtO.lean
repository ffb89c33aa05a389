/-
  Chapter 49: the walk of Over, and the example.
-/
import Derived.Test.YtihbceippcgfgaaMt
namespace Go.Proofs.Ytihbceippcgfgaa
open Go.RowKit
set_option linter.unusedVariables false
set_option linter.unusedSimpArgs false
attribute [local irreducible] wpStill wpQuiet

theorem infoStr : (Try.prog.info? 9).map (fun i => (i.zero, i.size, i.bytes)) = some (some (.string ⟨#[]⟩), 1, 16) := by kernel_rfl
/-- the words ahead of place k -/
def wds (B : Nat → Bool) : Nat → List ByteArray
  | 0 => []
  | k + 1 => if B k = true then wds B k ++ [nmS k] else wds B k
theorem wds_len (B : Nat → Bool) (k : Nat) : (wds B k).length ≤ k := by
  induction k with
  | zero => exact Nat.le_refl _
  | succ k ih =>
    unfold wds; split
    · rw [List.length_append]; simp; omega
    · omega
def strV (l : List ByteArray) : List Value := l.map Value.string
def joinW (B : Nat → Bool) : ByteArray := ⟨(Lib.join ((wds B 5).map (·.data.toList)) [32]).toArray⟩
theorem joinlen (B : Nat → Bool) : (Lib.join ((wds B 5).map (·.data.toList)) [32]).length ≤ 140737488355328 := by
  simp only [wds]
  generalize B 0 = b0
  generalize B 1 = b1
  generalize B 2 = b2
  generalize B 3 = b3
  generalize B 4 = b4
  revert b0 b1 b2 b3 b4
  decide +kernel
theorem nx0 (W : World) : (Instr.index 168 (.agg #[.string (nmS 0), .string (nmS 1), .string (nmS 2), .string (nmS 3), .string (nmS 4)]) (.int .i64 0)).run Try.prog W = .ok (.string (nmS 0)) W := by kernel_rfl
theorem nx1 (W : World) : (Instr.index 168 (.agg #[.string (nmS 0), .string (nmS 1), .string (nmS 2), .string (nmS 3), .string (nmS 4)]) (.int .i64 1)).run Try.prog W = .ok (.string (nmS 1)) W := by kernel_rfl
theorem nx2 (W : World) : (Instr.index 168 (.agg #[.string (nmS 0), .string (nmS 1), .string (nmS 2), .string (nmS 3), .string (nmS 4)]) (.int .i64 2)).run Try.prog W = .ok (.string (nmS 2)) W := by kernel_rfl
theorem nx3 (W : World) : (Instr.index 168 (.agg #[.string (nmS 0), .string (nmS 1), .string (nmS 2), .string (nmS 3), .string (nmS 4)]) (.int .i64 3)).run Try.prog W = .ok (.string (nmS 3)) W := by kernel_rfl
theorem nx4 (W : World) : (Instr.index 168 (.agg #[.string (nmS 0), .string (nmS 1), .string (nmS 2), .string (nmS 3), .string (nmS 4)]) (.int .i64 4)).run Try.prog W = .ok (.string (nmS 4)) W := by kernel_rfl
theorem nx (k : Nat) (hk : k < 5) (W : World) : (Instr.index 168 (.agg #[.string (nmS 0), .string (nmS 1), .string (nmS 2), .string (nmS 3), .string (nmS 4)]) (.int .i64 (k : Int))).run Try.prog W = .ok (.string (nmS k)) W := by
  have hcase : k = 0 ∨ k = 1 ∨ k = 2 ∨ k = 3 ∨ k = 4 := by omega
  rcases hcase with rfl | rfl | rfl | rfl | rfl
  · exact nx0 W
  · exact nx1 W
  · exact nx2 W
  · exact nx3 W
  · exact nx4 W
set_option maxRecDepth 100000 in
set_option maxHeartbeats 4000000 in
theorem over_any (R Q : Nat → Int) (w : World) :
    Calls Try.prog 58 #[.agg #[.int .i64 (R 0), .int .i64 (R 1), .int .i64 (R 2), .int .i64 (R 3), .int .i64 (R 4)], .agg #[.int .i64 (Q 0), .int .i64 (Q 1), .int .i64 (Q 2), .int .i64 (Q 3), .int .i64 (Q 4)]] w fun e w' => e = .returned (.string (joinW fun i => decide (Q i < R i))) ∧ Below w.heap.size w w' := by
  obtain ⟨i0, hi, hz0, hz1, hz2⟩ := info_parts infoStr
  obtain ⟨B, hB⟩ : ∃ B : Nat → Bool, B = fun i => decide (Q i < R i) := ⟨_, rfl⟩
  rw [← hB]
  have HA : Hid (∀ i, i < 5 → ∀ W g h, W.heap[g]? = some (.cells #[.int .i64 (R 0), .int .i64 (R 1), .int .i64 (R 2), .int .i64 (R 3), .int .i64 (R 4)] 100 (0, 0)) → W.heap[h]? = some (.cells #[.int .i64 (Q 0), .int .i64 (Q 1), .int .i64 (Q 2), .int .i64 (Q 3), .int .i64 (Q 4)] 100 (0, 0)) →
    Calls Try.prog 94 #[.int .i64 (i : Nat), .pointer (some ⟨g, 0, none⟩), .pointer (some ⟨h, 0, none⟩)] W fun e w' => e = .returned (.bool (B i)) ∧ Below W.heap.size W w') := Lib.hid (fun i hi W g h h1 h2 => by rw [hB]; exact above_any R Q g h i hi W h1 h2)
  clear hB
  have HNM := Lib.hid names_any
  have HNX := Lib.hid nx
  go_enter Try.func58, Try.ntmps58
  go_wp2_with fail
  generalize hW : World.alloc _ _ = W
  have hsz : W.heap.size = w.heap.size + 2 := by rw [← hW]; simp
  have g1 : W.heap[w.heap.size]? = some (.cells #[.int .i64 (R 0), .int .i64 (R 1), .int .i64 (R 2), .int .i64 (R 3), .int .i64 (R 4)] 100 (0, 0)) := by rw [← hW, heap_alloc, heap_alloc, if_neg (by simp), if_pos rfl]
  have g2 : W.heap[w.heap.size + 1]? = some (.cells #[.int .i64 (Q 0), .int .i64 (Q 1), .int .i64 (Q 2), .int .i64 (Q 3), .int .i64 (Q 4)] 100 (0, 0)) := by rw [← hW, heap_alloc, if_pos (by simp)]
  have B2 : Below w.heap.size w W := by rw [← hW]; exact ((Below.refl _ w).alloc (Nat.le_refl _) _).alloc (by simp) _
  clear hW
  refine (HNM.out W).mono ?_
  rintro e w2 ⟨rfl, B3⟩
  obtain ⟨NM, hNM⟩ : ∃ NM : Value, NM = .agg #[.string (nmS 0), .string (nmS 1), .string (nmS 2), .string (nmS 3), .string (nmS 4)] := ⟨_, rfl⟩
  rw [← hNM]
  have HNX2 : Hid (∀ k, k < 5 → ∀ W, (Instr.index 168 NM (.int .i64 (k : Nat))).run Try.prog W = .ok (.string (nmS k)) W) := Lib.hid (fun k hk W => by rw [hNM]; exact HNX.out k hk W)
  clear HNX hNM HNM
  go_wp2_with fail
  go_loopw [5, 11] (fun sv si wr => ∃ (k : Nat) (v : Value), k ≤ 5 ∧ si = .int .i64 k ∧ sv = v ∧ Hid (wr.ownsRow W.heap.size 9 1 v (wds B k).length (strV (wds B k))) ∧ Hid (Below W.heap.size W wr)) (fun _ si _ => 5 - (intOf si).toNat)
  case atStart => exact ⟨0, .slice none 0 0, by omega, rfl, rfl, Lib.hid ⟨rfl, .inl ⟨rfl, rfl⟩⟩, Lib.hid B3⟩
  case round =>
    clear B3
    obtain ⟨k, v, hk, rfl, rfl, HO, HB⟩ := hrel
    obtain ⟨va, vc, hv⟩ := own_len HO.out
    subst hv
    by_cases hlt : k < 5
    · have hx := HNX2.out k hlt
      have HC := Lib.hid (HA.out k hlt wr w.heap.size (w.heap.size + 1) (by rw [HB.out.block _ (by omega)]; exact g1) (by rw [HB.out.block _ (by omega)]; exact g2))
      have hS := HB.out.size
      have hwl := wds_len B k
      go_wp2_with fail
      refine HC.out.mono ?_
      rintro e w3 ⟨rfl, B4⟩
      have hS4 := B4.size
      have HO4 := Lib.hid (own_blk HO.out (fun p _ hp => B4.block p hp))
      have HB4 := Lib.hid (HB.out.trans (B4.mono hS))
      clear B4 HC HO HB hx
      have hn1 : Hid (wds B (k + 1) = if B k = true then wds B k ++ [nmS k] else wds B k) := Lib.hid rfl
      cases hBk : B k
      · have hn2 : Hid (wds B (k + 1) = wds B k) := Lib.hid (by rw [hn1.out, hBk]; rfl)
        go_wp2_with fail
        go_roundw
        case rel => exact ⟨k + 1, _, by omega, by go_num, rfl, by rw [hn2.out]; exact HO4, HB4⟩
        case measure => simp [intOf] <;> omega
      · have hn2 : Hid (wds B (k + 1) = wds B k ++ [nmS k]) := Lib.hid (by rw [hn1.out, if_pos hBk])
        go_wp2_with
          (at_builtin
           refine wpList_append_own _ rfl (.tmp 18) (.tmp 20) 165 rfl W.heap.size 9 i0 (.string ⟨#[]⟩) 1 16 Try.underlying165 hi hz0 hz1 hz2 rfl (by decide) (.slice va (wds B k).length vc) (wds B k).length (strV (wds B k)) rfl (HO4.out.alloc _) ⟨w3.heap.size, 0, none⟩ 1 1 [.string (nmS k)] rfl rfl ?d1 ?d2 ?d3 ?d4 ?d5 ?_
           case d1 => exact cell_one_at rfl
           case d2 => exact one_cell rfl
           case d3 => unfold maxLen; omega
           case d4 => omega
           case d5 => simp; omega)
        intro v2 w4 own2 grow2 nil2
        have HO5 : Hid (w4.ownsRow W.heap.size 9 1 v2 (wds B (k + 1)).length (strV (wds B (k + 1)))) := Lib.hid (by
          rw [hn2.out]
          have e1 : strV (wds B k ++ [nmS k]) = strV (wds B k) ++ [.string (nmS k)] := by simp [strV]
          rw [e1, List.length_append, hsz]; exact own2)
        have hlt2 := HO4.out.lt
        have HB5 : Hid (Below W.heap.size W w4) := Lib.hid ((HB4.out.alloc (by omega) _).grown grow2 (by simp; omega) (fun p hp => (hlt2 p hp).1))
        clear own2 grow2 nil2 hlt2 HO4 HB4
        go_wp2_with fail
        go_roundw
        case rel => exact ⟨k + 1, _, by omega, by go_num, rfl, HO5, HB5⟩
        case measure => simp [intOf] <;> omega
    · obtain rfl : k = 5 := by omega
      have hwl := wds_len B 5
      have hS := HB.out.size
      have B5 : Below w.heap.size w wr := B2.trans (HB.out.mono (by omega))
      have hlt2 := HO.out.lt
      have hcell := fun g => HO.out.cells (g := g)
      have hX : Hid (joinW B = ⟨(Lib.join ((wds B 5).map (·.data.toList)) [32]).toArray⟩) := Lib.hid rfl
      obtain ⟨h1, h2⟩ := HO.out
      rcases h2 with ⟨h3, h4⟩ | ⟨g, cap, cur, hv, hg, hh, hn2, hcap, hsz2, _⟩
      · have hnil : wds B 5 = [] := List.length_eq_zero_iff.1 h4
        rw [hnil] at hX ⊢
        have HJ := Lib.hid (Try.strings_Join_none va vc ⟨#[32]⟩ wr)
        clear hnil h1 h3 h4 hcell hlt2 HO hwl
        go_wp2_with fail
        refine HJ.out.mono ?_
        rintro e w3 ⟨rfl, rfl⟩
        go_wp2_with fail
        go_ret
        exact ⟨by rw [hX.out]; rfl, B5⟩
      · cases hv
        have hgl := (hlt2 g rfl).2
        have hcells : ∀ (j : Nat) x, (wds B 5)[j]? = some x → wr.cell? ⟨g, 0 + j, none⟩ = some (.string x) := fun j x hj => by
          have := hcell g rfl j (.string x) (by simp [strV, hj])
          rw [show ∀ m, (⟨g, 0, none⟩ : Addr).add m = ⟨g, m, none⟩ from fun m => by unfold Addr.add; split <;> simp_all] at this
          rw [Nat.zero_add]; exact this
        have hlen : (Lib.join ((wds B 5).map (·.data.toList)) (⟨#[32]⟩ : ByteArray).data.toList).length ≤ 140737488355328 := joinlen B
        have HJ := Lib.hid (Try.strings_Join g 0 vc (wds B 5) ⟨#[32]⟩ wr hcells hgl (by omega) (by omega) hlen)
        clear hcells hlen hcell hlt2 h1 hh hn2 hcap hsz2
        go_wp2_with fail
        refine HJ.out.mono ?_
        rintro e w3 ⟨rfl, B6⟩
        go_wp2_with fail
        go_ret
        exact ⟨by rw [hX.out]; rfl, B5.trans (B6.mono B5.size)⟩
theorem alive49_any (w : World) : Calls Try.prog 55 #[] w fun e w' => e = .returned (.bool true) ∧ Below w.heap.size w w' := by
  have HO := Lib.hid (over_any (fun i => if i = 0 then 3 else if i = 4 then 9 else 0) (fun i => if i = 0 then 2 else if i = 1 then 8 else if i = 2 then 4 else if i = 3 then 8 else if i = 4 then 8 else 0) w)
  have hj : joinW (fun i => decide ((if i = 0 then (2 : Int) else if i = 1 then 8 else if i = 2 then 4 else if i = 3 then 8 else if i = 4 then 8 else 0) < (if i = 0 then 3 else if i = 4 then 9 else 0))) = ⟨#[116, 114, 97, 99, 107, 115, 32, 98, 121, 116, 101, 115]⟩ := by decide +kernel
  rw [hj] at HO
  clear hj
  have HO2 : Hid (Calls Try.prog 58 #[.agg #[.int .i64 3, .int .i64 0, .int .i64 0, .int .i64 0, .int .i64 9], .agg #[.int .i64 2, .int .i64 8, .int .i64 4, .int .i64 8, .int .i64 8]] w fun e w' => e = .returned (.string ⟨#[116, 114, 97, 99, 107, 115, 32, 98, 121, 116, 101, 115]⟩) ∧ Below w.heap.size w w') := HO
  clear HO
  go_enter Try.func55, Try.ntmps55
  go_wp2_with fail
  refine HO2.out.mono ?_
  rintro e w1 ⟨rfl, B1⟩
  go_wp2_with fail
  go_ret
  exact ⟨rfl, B1⟩
end Go.Proofs.Ytihbceippcgfgaa
