/-
  Chapter 43: slices.Repeat of one length; bits.Mul by one.
-/
import Derived.Test.YtkoplofcjbeicaaOpB
import Derived.Test.YtkoplofcjbeicaaNlL
import Derived.Laws.CopyRow
import Derived.Laws.CopyOwn
namespace Go.Proofs.Ytkoplofcjbeicaa
open Go.RowKit
set_option linter.unusedVariables false
set_option linter.unusedSimpArgs false
attribute [local irreducible] wpStill wpQuiet MixC.wpMix
attribute [local go_sem] MixC.rdOp MixC.rd MixC.rdUpon MixC.mvUpon

theorem and32 (q : Nat) (hq : q ≤ 1000) : bits BinOp.and IntKind.u64 (q : Int) 4294967295 = q := by
  have h := bits_and_u64_nat q 4294967295 (by omega) (by omega)
  have e : ((4294967295 : Nat) : Int) = 4294967295 := rfl
  rw [e] at h
  rw [h, show (4294967295 : Nat) = 2 ^ 32 - 1 by decide, Nat.and_two_pow_sub_one_eq_mod, Nat.mod_eq_of_lt (by omega)]
theorem mul64_one (q : Nat) (hq : q ≤ 1000) (w : World) :
    Calls Try.prog 120 #[.int .u64 1, .int .u64 q] w fun e w' => e = .returned (.tuple #[.int .u64 0, .int .u64 q]) ∧ w = w' := by
  have h1 := and32 q hq
  have h2 := and32 1 (by omega)
  have h2' : bits BinOp.and IntKind.u64 1 4294967295 = 1 := h2
  have h3 := and32 0 (by omega)
  have h3' : bits BinOp.and IntKind.u64 0 4294967295 = 0 := h3
  have h4 : (q : Int) / 4294967296 = 0 := by omega
  clear h2 h3
  go_enter Try.func120, Try.ntmps120
  go_wp2_with fail
  go_returns
  exact ⟨rfl, rfl⟩
theorem mul_one (q : Nat) (hq : q ≤ 1000) (w : World) :
    Calls Try.prog 113 #[.int .u64 1, .int .u64 q] w fun e w' => e = .returned (.tuple #[.int .u64 0, .int .u64 q]) ∧ w = w' := by
  have HM := Lib.hid (mul64_one q hq w)
  go_enter Try.func113, Try.ntmps113
  go_wp2_with fail
  refine HM.out.mono ?_
  rintro e w1 ⟨rfl, rfl⟩
  go_wp2_with fail
  go_returns
  exact ⟨rfl, rfl⟩
/-- a copy within rows of numbers, all of them x -/
theorem copy_x {W : World} {g o dl dc sl sc t x : Nat} {a : Addr} {cur : Array Value} (hg : W.heap[g]? = some (.cells cur 3 (0, 0))) (hsrc : ∀ j, j < t → W.cell? (a.add j) = some (.int .i64 (x : Nat))) (ht : t = Nat.min sl dl) (hfit : o + t ≤ cur.size) :
    ∃ cur' : Array Value, (∀ ty, (Builtin.copy_ #[107, 107] ty #[.slice (some ⟨g, o, none⟩) dl dc, .slice (some a) sl sc]).run Try.prog W = .ok (.int .i64 (t : Nat)) (W.setRow g cur')) ∧ cur'.size = cur.size ∧ (∀ i, i < o → cur'[i]? = cur[i]?) ∧ (∀ i, o ≤ i → i < o + t → cur'[i]? = some (.int .i64 (x : Nat))) := by
  refine ⟨(cur.toList.take o ++ List.replicate t (Value.int .i64 (x : Nat)) ++ cur.toList.drop (o + t)).toArray, fun ty => ?_, ?_, fun i hi => ?_, fun i h1 h2 => ?_⟩
  · have := run_copy_row Try.prog W 107 107 ty 3 g o dl dc a sl sc cur 3 (List.replicate t (Value.int .i64 (x : Nat))) Try.underlying107 (by kernel_rfl) hg (by rw [List.length_replicate]; exact ht) (fun j v hj => by
      rw [List.getElem?_replicate] at hj
      split at hj
      · cases hj; exact hsrc j ‹_›
      · cases hj) (by rw [List.length_replicate]; exact hfit) (fun v hv => by rw [List.mem_replicate] at hv; rw [hv.2]; rfl)
    rw [List.length_replicate] at this
    exact this
  · simp; omega
  · simp only [List.getElem?_toArray, List.append_assoc]
    rw [List.getElem?_append_left (by simp; omega), List.getElem?_take, if_pos hi]
    simp
  · simp only [List.getElem?_toArray]
    rw [List.getElem?_append_left (by simp; omega), List.getElem?_append_right (by simp; omega), List.getElem?_replicate, if_pos (by simp; omega)]
theorem exec_copy {P : Program} {w w' : World} {o : Oper} {a : Act} {s x : Operand} {t t' : TypeId} (ho : o.op = .call { callee := .builtin .copy, args := #[s, x], argTypes := #[t, t'] }) {v1 v2 v' : Value} (hs : a.eval s = v1) (hx : a.eval x = v2)
    (hr : (Builtin.copy_ #[t, t'] o.type #[v1, v2]).run P w = .ok v' w') : (execOp a.eval o).run P w = .ok (.value v') w' := by
  unfold execOp
  simp only [ho, resolve, invoke, builtin, Sem.run_bind, Sem.run_pure, Result.andThen_ok, List.map_toArray, List.map_cons, List.map_nil, hs, hx, hr]
theorem wpList_of_copy {P : Program} {w w' : World} {ops : Array Oper} {rest : List Oper} {o : Oper} {a : Act} {Q : Exit → Act → World → Prop} (hgd : o.guard = none) (s x : Operand) (t t' : TypeId)
    (ho : o.op = .call { callee := .builtin .copy, args := #[s, x], argTypes := #[t, t'] }) (v1 v2 v' : Value) (hs : a.eval s = v1) (hx : a.eval x = v2)
    (hr : ∀ ty, (Builtin.copy_ #[t, t'] ty #[v1, v2]).run P w = .ok v' w') (h : wpList P ops Q rest (a.put o.dst v') w') : wpList P ops Q (o :: rest) a w := by
  refine wpList_plain hgd fun K hK => ?_
  unfold Oper.wp
  rw [exec_copy ho hs hx (hr o.type)]
  exact hK _ _ h
theorem mv_copy {P : Program} {C : World → Prop} {w w' : World} {o : Oper} {a : Act} {K : Act → World → Prop} {s x : Operand} {t t' : TypeId} (ho : o.op = .call { callee := .builtin .copy, args := #[s, x], argTypes := #[t, t'] }) {v1 v2 v' : Value} (hs : a.eval s = v1) (hx : a.eval x = v2)
    (hr : ∀ ty, (Builtin.copy_ #[t, t'] ty #[v1, v2]).run P w = .ok v' w') (hC : C w') (hK : K (a.put o.dst v') w') : MixC.mvUpon P C o a K ((execOp a.eval o).run P w) := by
  rw [exec_copy ho hs hx (hr o.type)]
  exact ⟨hC, hK⟩
def CT (_ : World) : Prop := True
set_option maxRecDepth 100000 in
set_option maxHeartbeats 4000000 in
theorem orepeat (x q b : Nat) (hx : x ≤ 100000) (hq1 : 1 ≤ q) (hq : q ≤ 1000) (w : World) (hc : w.cell? ⟨b, 0, none⟩ = some (.int .i64 (x : Nat))) :
    Calls Try.prog 100 #[.slice (some ⟨b, 0, none⟩) 1 1, .int .i64 (q : Nat)] w fun e w' => ∃ g cur, e = .returned (.slice (some ⟨g, 0, none⟩) q q) ∧ w.heap.size ≤ g ∧ w'.heap[g]? = some (.cells cur 3 (0, 0)) ∧ (∀ i, i < q → cur[i]? = some (.int .i64 (x : Nat))) ∧ Below w.heap.size w w' := by
  obtain ⟨i0, hi, hz0, hz1, hz2⟩ := info_parts infoI41
  have hbl := World.block_lt_of_cell? _ _ hc
  have HM := Lib.hid (mul_one q hq w)
  have HC := Lib.hid hc
  have t1 : decide ((q : Int) < 0) = false := by simp
  have t2 : decide ((9223372036854775807 : Int) < (q : Int)) = false := by simp; omega
  have hmk := fun (W : World) => run_makeSlice (P := Try.prog) W 107 3 i0 (.int .i64 0) Try.underlying107 hi hz0 .i64 .i64 (q : Int) (q : Int) (by omega) (Int.le_refl _) (by rw [hz1]; omega) (by rw [hz2]; omega) (by omega)
  have hmk' : ∀ W : World, (Instr.makeSlice 107 (.int .i64 (q : Int)) (.int .i64 (q : Int))).run Try.prog W = .ok (.slice (some ⟨W.heap.size, 0, none⟩) q q) (W.alloc (.cells (madeCells #[Value.int .i64 0] q) 3)) := by
    intro W; have := hmk W; rw [hz1] at this; simpa [Value.cells] using this
  clear hmk hc
  go_enter Try.func100, Try.ntmps100
  go_wp2_with fail
  refine HM.out.mono ?_
  rintro e w1 ⟨rfl, rfl⟩
  have hb1 : Below w.heap.size w (w.alloc (.cells (madeCells #[Value.int .i64 0] q) 3)) := (Below.refl _ _).alloc (Nat.le_refl _) _
  have hsz : (madeCells #[Value.int .i64 0] q).size = q := by simp [size_madeCells]
  obtain ⟨cur1, r1, s1, -, x1⟩ := copy_x (W := w.alloc (.cells (madeCells #[Value.int .i64 0] q) 3)) (g := w.heap.size) (o := 0) (dl := q) (dc := q) (sl := 1) (sc := 1) (t := 1) (x := x) (a := ⟨b, 0, none⟩) alloc_blk_new (fun j hj => by
    obtain rfl : j = 0 := by omega
    rw [addr_add]
    exact Below.cell' hb1 hbl HC.out) (by show 1 = min 1 q; omega) (by rw [hsz]; omega)
  have HR1 := Lib.hid r1
  obtain ⟨W2, hW2⟩ : ∃ W2, World.setRow (w.alloc (.cells (madeCells #[Value.int .i64 0] q) 3)) w.heap.size cur1 = W2 := ⟨_, rfl⟩
  have HB2 : Hid (Below w.heap.size w W2) := Lib.hid (by rw [← hW2]; exact below_setRow hb1 (Nat.le_refl _) _)
  have HW2 : Hid (W2.heap[w.heap.size]? = some (.cells cur1 3 (0, 0))) := Lib.hid (by rw [← hW2]; exact setRow_heap _ _ _ _ _ _ alloc_blk_new)
  have HX1 : Hid (∀ i, i < 1 → cur1[i]? = some (.int .i64 (x : Nat))) := Lib.hid (fun i hi => x1 i (by omega) (by omega))
  have HS1 : Hid (cur1.size = q) := Lib.hid (by rw [s1, hsz])
  obtain ⟨g, hg⟩ : ∃ g, g = w.heap.size := ⟨_, rfl⟩
  rw [hW2] at HR1
  have HG := Lib.hid hg
  clear hb1 hsz r1 s1 x1 hW2 hg
  have r1 := HR1.out
  go_wp2_with fail
  clear r1
  rw [← HG.out]
  go_loopw [8] (fun sj wx => ∃ (j : Nat) (cur : Array Value), 1 ≤ j ∧ j ≤ q ∧ sj = .int .i64 j ∧ Hid (wx.heap[g]? = some (.cells cur 3 (0, 0))) ∧ Hid (cur.size = q) ∧ Hid (∀ i, i < j → cur[i]? = some (.int .i64 (x : Nat))) ∧ Hid (Below w.heap.size w wx)) (fun sj _ => q - (intOf sj).toNat)
  case atStart => exact ⟨1, cur1, by omega, by omega, rfl, Lib.hid (by rw [HG.out]; exact HW2.out), HS1, HX1, HB2⟩
  case round =>
    clear HW2 HS1 HX1 HB2
    obtain ⟨j, cur, hj1, hjq, rfl, HW, HS, HX, HB⟩ := hrel
    by_cases hlt : j < q
    · obtain ⟨t, ht⟩ : ∃ t, t = min j (q - j) := ⟨_, rfl⟩
      have htb : 1 ≤ t ∧ t ≤ q - j ∧ t ≤ j := by omega
      obtain ⟨cur2, r2, s2, y2, x2⟩ := copy_x (W := wr.drew) (g := g) (o := j) (dl := q - j) (dc := q - j) (sl := j) (sc := q) (t := t) (x := x) (a := ⟨g, 0, none⟩) HW.out (fun i hi => by
        rw [addr_add, Nat.zero_add, cell_blk (w := wr.drew) HW.out]
        exact HX.out i (by omega)) ht (by rw [HS.out]; omega)
      obtain ⟨W3, hW3⟩ : ∃ W3, World.setRow wr.drew g cur2 = W3 := ⟨_, rfl⟩
      rw [hW3] at r2
      have HR2 := Lib.hid r2
      have HW3 : Hid (W3.heap[g]? = some (.cells cur2 3 (0, 0))) := Lib.hid (by rw [← hW3]; exact setRow_heap _ _ _ _ _ _ HW.out)
      have HS3 : Hid (cur2.size = q) := Lib.hid (by rw [s2]; exact HS.out)
      have HX3 : Hid (∀ i, i < j + t → cur2[i]? = some (.int .i64 (x : Nat))) := Lib.hid (fun i hi => by
        by_cases h : i < j
        · rw [y2 i (by omega)]; exact HX.out i h
        · exact x2 i (by omega) (by omega))
      have HB3 : Hid (Below w.heap.size w W3) := Lib.hid (by rw [← hW3]; exact below_setRow HB.out.drew (Nat.le_of_eq HG.out.symm) _)
      have n1 : ¬ q = j := by omega
      have n2 : (j : Int) ≤ (q : Int) := by omega
      have n3 : j ≤ q := hjq
      have q1 : IntKind.i64.wrap ((j : Int) + (t : Int)) = (j : Int) + (t : Int) := by rw [IntKind.wrap_i64]; omega
      clear r2 s2 y2 x2 hW3 ht
      go_upto_region 9 with (fail)
      have hne : Nonempty { w' : World // CT w' } := ⟨⟨w, trivial⟩⟩
      refine MixC.wp_region_mix [7] CT trivial (by kernel_rfl) (by kernel_rfl) (by kernel_rfl) ?_
      (iterate 7 (refine MixC.mix_read rfl (fun K hK => ?_); go_simp; refine hK _ ?_; clear hK K))
      refine MixC.mix_move rfl (fun K hK => ?_)
      refine Eq.mpr (if_pos rfl) ?_
      refine mv_copy (s := .tmp 41) (x := .tmp 44) (t := 107) (t' := 107) rfl rfl rfl HR2.out trivial (hK _ _ ?_)
      clear hK K
      (iterate 2 (refine MixC.mix_read rfl (fun K hK => ?_); go_simp; refine hK _ ?_; clear hK K))
      refine MixC.mix_nil ?_
      change Exit.inBlock _ _ _ _ W3
      clear hne
      go_wp2_with fail
      exact ⟨⟨j + t, cur2, by omega, by omega, by go_num, HW3, HS3, HX3, HB3⟩, by simp [intOf]; omega⟩
    · obtain rfl : q = j := by omega
      go_wp2_with fail
      go_ret
      exact ⟨g, cur, rfl, Nat.le_of_eq HG.out.symm, HW.out, HX.out, HB.out⟩
end Go.Proofs.Ytkoplofcjbeicaa
