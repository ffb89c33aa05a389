/-
  Chapter 43: the readers by their codes; the deferred closure.
-/
import Derived.Test.YtkoplofcjbeicaaOpA
import Derived.Defers
import Derived.Recover
namespace Go.Proofs.Ytkoplofcjbeicaa
open Go.RowKit
set_option linter.unusedVariables false
set_option linter.unusedSimpArgs false
attribute [local irreducible] wpStill wpQuiet MixC.wpMix

theorem oreaders (w : World) : Calls Try.prog 52 #[] w fun e w' => e = .returned (.agg #[.func (.func 75) #[] #[], .func (.func 76) #[] #[], .func (.func 77) #[] #[], .func (.func 78) #[] #[]]) ∧ Below w.heap.size w w' := by
  have hst := fun (f : Fn) (a : Addr) (W : World) => run_store Try.prog W a (.func f #[] #[]) .plain rfl
  go_enter Try.func52, Try.ntmps52
  go_wp2_with fail
  refine bodyPost_ret (by simp [results, Try.results52, go_sem]; try rfl) rfl ?_
  exact ⟨rfl, (Below.refl _ _).alloc (Nat.le_refl _) _⟩
/-- the named results' boxes -/
def boxO (w : World) (p : Nat) (v0 v1 v2 v3 v4 v5 : Value) : Prop := w.heap[p]? = some (.cells #[v0, v1, v2, v3, v4, v5] 48 (0, 0))
theorem catch_idle (p q : Addr) (w : World) :
    CallsD Try.prog 49 #[.pointer (some p), .pointer (some q)] .returning w fun e u' w' => e = .returned (.tuple #[]) ∧ u' = .returning ∧ w' = w := by
  refine callsD_of_wpS Try.func49 rfl fun c₀ cs hu => ?_
  apply wpS_seq
  apply wpS_region
  simp [wpOpsS, go_sem, recoverD, hu, Try.ntmps49, Exit.thenS]
  apply wpS_seq
  apply wpS_region
  simp [wpOpsS, go_sem, Exit.thenS]
  refine wpS_cond (t := false) (by simp [Act.eval, Array.replicate]) ?_
  simp only [Bool.false_eq_true, if_false]
  refine wpS_of_wp (wp_skip ?_)
  cases c₀
  simp_all [bodyPostS, results, Try.results49]
theorem lay6 {w X : World} {p q : Nat} {k : Int} {v0 v1 v2 v3 v4 v5 x : Value} {o : Obj} (hp : w.heap[p]? = some (.cells #[v0, v1, v2, v3, v4, v5] 48 (0, 0))) (hq : w.heap[q]? = some (.cells #[x] 29 (0, 0))) (hpq : p ≠ q)
    (hX : ((((((((w.setCell ⟨p, 0, none⟩ (.int .i64 0)).setCell ⟨p, 1, none⟩ (.int .i64 0)).setCell ⟨p, 2, none⟩ (.bool false)).setCell ⟨p, 3, none⟩ (.int .i64 0)).setCell ⟨p, 4, none⟩ (.slice none 0 0)).setCell ⟨p, 5, none⟩ (.int .i64 0)).setCell ⟨q, 0, none⟩ (.int .i64 k)).alloc o).drew = X) :
    X.heap[p]? = some (.cells #[.int .i64 0, .int .i64 0, .bool false, .int .i64 0, .slice none 0 0, .int .i64 0] 48 (0, 0)) ∧ X.heap[q]? = some (.cells #[.int .i64 k] 29 (0, 0)) ∧ (∀ B, B ≤ p → B ≤ q → B ≤ w.heap.size → Below B w X) := by
  have hqp : q ≠ p := fun e => hpq e.symm
  have s0 := set_blk (i := 0) (.int .i64 0) hp
  have s1 := set_blk (i := 1) (.int .i64 0) s0
  have s2 := set_blk (i := 2) (.bool false) s1
  have s3 := set_blk (i := 3) (.int .i64 0) s2
  have s4 := set_blk (i := 4) (.slice none 0 0) s3
  have s5 := set_blk (i := 5) (.int .i64 0) s4
  have s6 : ((((((w.setCell ⟨p, 0, none⟩ (.int .i64 0)).setCell ⟨p, 1, none⟩ (.int .i64 0)).setCell ⟨p, 2, none⟩ (.bool false)).setCell ⟨p, 3, none⟩ (.int .i64 0)).setCell ⟨p, 4, none⟩ (.slice none 0 0)).setCell ⟨p, 5, none⟩ (.int .i64 0)).heap[q]? = some (.cells #[x] 29 (0, 0)) := by
    rw [set_blk_other _ hqp, set_blk_other _ hqp, set_blk_other _ hqp, set_blk_other _ hqp, set_blk_other _ hqp, set_blk_other _ hqp]; exact hq
  have s7 := set_blk (i := 0) (.int .i64 k) s6
  have k7 := ((((((((Kp2.rf p q w).set (.inl rfl) 0 (.int .i64 0)).set (.inl rfl) 1 (.int .i64 0)).set (.inl rfl) 2 (.bool false)).set (.inl rfl) 3 (.int .i64 0)).set (.inl rfl) 4 (.slice none 0 0)).set (.inl rfl) 5 (.int .i64 0)).set (.inr rfl) 0 (.int .i64 k)).below (((Below.refl _ _).alloc (Nat.le_refl _) o).drew)
  rw [← hX]
  refine ⟨?_, ?_, fun B h1 h2 h3 => k7.toBelow h1 h2 h3⟩
  · rw [heap_drew, alloc_blk_old (lt_of_block ((set_blk_other _ hpq).trans s5)), set_blk_other _ hpq]; exact s5
  · rw [heap_drew, alloc_blk_old (lt_of_block s7)]; exact s7
set_option maxRecDepth 100000 in
set_option maxHeartbeats 4000000 in
/-- given up: the closure lays the named results -/
theorem catch_panic (p q : Nat) (k : Int) (v0 v1 v2 v3 v4 v5 x : Value) (w : World) (hp : w.heap[p]? = some (.cells #[v0, v1, v2, v3, v4, v5] 48 (0, 0))) (hq : w.heap[q]? = some (.cells #[x] 29 (0, 0))) (hpq : p ≠ q) :
    CallsD Try.prog 49 #[.pointer (some ⟨p, 0, none⟩), .pointer (some ⟨q, 0, none⟩)] (.panicking (pan k)) w fun e u' w' =>
      e = .returned (.tuple #[]) ∧ u' = .panicking [{ v := .iface 88 (.agg #[.int .i64 k]), recovered := true }] ∧ w'.heap[p]? = some (.cells #[.int .i64 0, .int .i64 0, .bool false, .int .i64 0, .slice none 0 0, .int .i64 0] 48 (0, 0)) ∧ w'.heap[q]? = some (.cells #[.int .i64 k] 29 (0, 0)) ∧ (∀ B, B ≤ p → B ≤ q → B ≤ w.heap.size → Below B w w') := by
  refine callsD_of_wpS Try.func49 rfl fun c₀ cs hu => ?_
  unfold pan at hu
  apply wpS_seq
  apply wpS_region
  simp [wpOpsS, go_sem, recoverD, hu, Try.ntmps49, Exit.thenS]
  apply wpS_seq
  apply wpS_region
  simp [wpOpsS, go_sem, Exit.thenS]
  refine wpS_cond (t := true) (by simp [Act.eval, Array.replicate]) ?_
  simp only [if_true]
  refine wpS_of_wp ?_
  have hta : ∀ W : World, (Instr.typeAssert (.iface 88 (.agg #[.int .i64 k])) 20 88 true).run Try.prog W = .ok (.tuple #[.agg #[.int .i64 k], .bool true]) W := fun _ => by kernel_rfl
  have c0 : ∀ j (hj : j < 6), ∃ y, w.cell? ⟨p, j, none⟩ = some y := fun j hj => by
    rw [cell_blk hp]
    have : j = 0 ∨ j = 1 ∨ j = 2 ∨ j = 3 ∨ j = 4 ∨ j = 5 := by omega
    rcases this with rfl | rfl | rfl | rfl | rfl | rfl <;> exact ⟨_, rfl⟩
  have lp := lt_of_block hp
  have lq := lt_of_block hq
  obtain ⟨y0, e0⟩ := c0 0 (by omega)
  obtain ⟨y1, e1⟩ := c0 1 (by omega)
  obtain ⟨y2, e2⟩ := c0 2 (by omega)
  obtain ⟨y3, e3⟩ := c0 3 (by omega)
  obtain ⟨y4, e4⟩ := c0 4 (by omega)
  obtain ⟨y5, e5⟩ := c0 5 (by omega)
  have z0 : w.frozen? ⟨p, 0, none⟩ = false := free_blk hp
  have z1 : w.frozen? ⟨p, 1, none⟩ = false := free_blk hp
  have z2 : w.frozen? ⟨p, 2, none⟩ = false := free_blk hp
  have z3 : w.frozen? ⟨p, 3, none⟩ = false := free_blk hp
  have z4 : w.frozen? ⟨p, 4, none⟩ = false := free_blk hp
  have z5 : w.frozen? ⟨p, 5, none⟩ = false := free_blk hp
  have x0 : w.cell? ⟨q, 0, none⟩ = some x := cell_blk hq
  have f0 : w.frozen? ⟨q, 0, none⟩ = false := free_blk hq
  have np : p ≠ w.heap.size := by omega
  have nq : q ≠ w.heap.size := by omega
  have hqp : q ≠ p := fun e => hpq e.symm
  have HP := Lib.hid hp
  have HQ := Lib.hid hq
  clear c0 hp hq
  change Code.wp _ _ _ { tmps := #[.pointer (some ⟨p, 0, none⟩), .pointer (some ⟨q, 0, none⟩), .iface 88 (.agg #[.int .i64 k]), undef, undef, .iface 88 (.agg #[.int .i64 k]), .iface 88 (.agg #[.int .i64 k]), .bool true, undef, undef, undef, undef, undef, undef, undef, undef, undef, undef, undef], defers := [] } w
  go_wp2_with fail
  have np' : w.heap.size ≠ p := by omega
  have nq' : w.heap.size ≠ q := by omega
  go_region
  generalize hX : World.drew _ = X
  obtain ⟨q1, q2, q3⟩ := lay6 HP.out HQ.out hpq hX
  have Q1 := Lib.hid q1
  have Q2 := Lib.hid q2
  have Q3 := Lib.hid q3
  clear hX q1 q2 q3 e0 e1 e2 e3 e4 e5 z0 z1 z2 z3 z4 z5 x0 f0 hta HP HQ
  go_wp2_with fail
  simp [bodyPostS, results, Try.results49]
  exact ⟨Q1.out, Q2.out, Q3.out⟩
end Go.Proofs.Ytkoplofcjbeicaa
