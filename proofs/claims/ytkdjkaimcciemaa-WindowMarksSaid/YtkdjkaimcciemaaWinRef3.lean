/-
  Mark of the reference of chapter 8.
-/
import Derived.Test.YtkdjkaimcciemaaWinRef2
namespace Go.Proofs.Ytkdjkaimcciemaa
open Go.RowKit
set_option linter.unusedVariables false
set_option linter.unusedSimpArgs false

theorem infoI : (Try.prog.info? 2).map (fun i => (i.zero, i.size, i.bytes)) = some (some (.int .i64 0), 1, 8) := by kernel_rfl
theorem lstL_upd (X : Nat → Int) (n : Nat) (y : Int) : lstL (fun i => if i = n then y else X i) (n + 1) = lstL X n ++ [.int .i64 y] := by
  have : ∀ m, m ≤ n → lstL (fun i => if i = n then y else X i) m = lstL X m := by
    intro m
    induction m with
    | zero => intro _; rfl
    | succ m ih => intro hm; rw [lstL_succ, lstL_succ, ih (by omega), if_neg (by omega)]
  rw [lstL_succ, this n (Nat.le_refl _), if_pos rfl]
theorem rwmark_no (base g r : Nat) (v : Value) (n : Nat) (X : Nat → Int) (i : Int) (w : World) (hg : rwin w r v) (ho : rls w base g r v n X) (hn : n ≤ 1000) (i1 : i ≤ 4611686018427387904) (h : rfr X n i = false) :
    Calls Try.prog 33 #[.pointer (some ⟨r, 0, none⟩), .int .i64 i] w fun e w' => e = .returned (.bool false) ∧ w = w' := by
  have HP := Lib.hid (rwfresh_any base g r v n X i w hg ho hn i1)
  rw [h] at HP
  go_enter Try.func33, Try.ntmps33
  go_wp2_with fail
  refine HP.out.mono ?_
  rintro e w1 ⟨rfl, rfl⟩
  go_wp2_with fail
  go_ret
  exact ⟨rfl, rfl⟩
set_option maxHeartbeats 1000000 in
theorem rwmark_yes (base g r : Nat) (v : Value) (n : Nat) (X : Nat → Int) (i : Int) (w : World) (hg : rwin w r v) (ho : rls w base g r v n X) (hn : n ≤ 1000) (hbase : base ≤ w.heap.size) (i1 : i ≤ 4611686018427387904) (h : rfr X n i = true) :
    Calls Try.prog 33 #[.pointer (some ⟨r, 0, none⟩), .int .i64 i] w fun e w' => e = .returned (.bool true) ∧
      ∃ q cap, rwin w' r (.slice (some ⟨q, 0, none⟩) (n + 1) cap) ∧ w'.ownsRow base 2 1 (.slice (some ⟨q, 0, none⟩) (n + 1) cap) (n + 1) (lstL (fun j => if j = n then i else X j) (n + 1)) ∧ (v.ownBlock = some q ∨ w.heap.size < q) ∧
      (∀ k, k < w.heap.size → k ≠ r → v.ownBlock ≠ some k → w'.heap[k]? = w.heap[k]?) ∧ w.heap.size ≤ w'.heap.size ∧ w'.os = w.os ∧ w'.tape = w.tape ∧ w'.output = w.output := by
  have HP := Lib.hid (rwfresh_any base g r v n X i w hg ho hn i1)
  rw [h] at HP
  rw [lstL_upd]
  obtain ⟨i0', hi, hz0, hz1, hz2⟩ := info_parts infoI
  have c0 : w.cell? ⟨r, 0, none⟩ = some v := cell_blk hg
  have hl : r < w.heap.size := hg.lt
  have hne : w.heap.size ≠ r := by omega
  have hlo : v.ownBlock ≠ some r := fun h => (ho.ne r h).2 rfl
  have HO : Hid (∀ x, (w.alloc x).ownsRow base 2 1 v n (lstL X n)) := Lib.hid (fun x => (ho.below ((Below.refl _ w).alloc (Nat.le_refl _) x)).own)
  have HG : Hid (∀ x k, k < w.heap.size → (w.alloc x).heap[k]? = w.heap[k]?) := Lib.hid (fun x k hk => alloc_blk_old hk)
  go_enter Try.func33, Try.ntmps33
  go_wp2_with fail
  refine HP.out.mono ?_
  rintro e w1 ⟨rfl, rfl⟩
  go_wp2_with
    (at_builtin
     refine wpList_append_lies _ rfl (.tmp 13) (.tmp 15) 54 rfl base 2 i0' (.int .i64 0) 1 8 Try.underlying54 hi hz0 hz1 hz2 rfl (by decide) v n (lstL X n) rfl (HO.out _) ⟨w.heap.size, 0, none⟩ 1 1 [.int .i64 i] rfl rfl ?a1 ?a2 (by omega) ?a3 ?a4 ?a5 (w.heap.size + 1) ?a6 ?_
     case a1 =>
       intro j u hj
       rw [show (⟨w.heap.size, 0, none⟩ : Addr).add j = ⟨w.heap.size, j, none⟩ from by unfold Addr.add; split <;> simp_all, cell_blk alloc_blk_new]
       simpa using hj
     case a2 => simp [Value.oneCell']
     case a3 => unfold maxLen; omega
     case a4 => omega
     case a5 => simp; omega
     case a6 => simp)
  intro q' cap' w5 own5 grow5 at5 lt5
  have r5 : rwin w5 r v := (grow5.block r (by simp; omega) (Ne.symm hlo)).trans ((HG.out _ r hl).trans hg)
  have s8 : w5.frozen? ⟨r, 0, none⟩ = false := free_blk r5
  have s9 : w5.cell? ⟨r, 0, none⟩ = some v := cell_blk r5
  have G5 := Lib.hid grow5
  have O5 := Lib.hid own5
  have A5 := Lib.hid at5
  clear own5 grow5 at5
  go_wp2_with fail
  go_ret
  have kU := (Keeps.refl r w5).setCell (a := ⟨r, 0, none⟩) (.inl rfl) (.slice (some ⟨q', 0, none⟩) (n + 1) cap')
  have hqr : q' ≠ r := by
    rcases A5.out with h | h
    · exact (ho.ne q' h).2
    · omega
  have oS : rls w5 base r r (.slice (some ⟨q', 0, none⟩) (n + 1) cap') (n + 1) (fun j => if j = n then i else X j) := ⟨by rw [lstL_upd]; exact O5.out, fun q hq => by
    obtain rfl : q' = q := by simpa [Value.ownBlock] using hq
    exact ⟨hqr, hqr⟩⟩
  have hsz := G5.out.size
  simp at hsz
  have hus := kU.size
  refine ⟨rfl, q', cap', ?_, by rw [← lstL_upd]; exact (oS.keepsR kU).own, ?_, fun k hk hkr hkv => ?_, by omega, kU.os.trans G5.out.os, kU.tape.trans G5.out.tape, kU.output.trans G5.out.output⟩
  · unfold rwin at r5 ⊢; simp [heap_set, r5, putIn]
  · rcases A5.out with h | h
    · exact .inl h
    · exact .inr (by omega)
  · exact (kU.block k (by omega) hkr).trans ((G5.out.block k (by simp; omega) (Ne.symm hkv)).trans (HG.out _ k hk))
end Go.Proofs.Ytkdjkaimcciemaa
