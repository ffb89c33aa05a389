/-
  Chapter 34: the reference's Pair.
-/
import Derived.Test.YtihbceippcgfgaaRtxE
namespace Go.Proofs.Ytihbceippcgfgaa
open Go.RowKit
set_option linter.unusedVariables false
set_option linter.unusedSimpArgs false
attribute [local irreducible] wpStill wpQuiet

theorem exec_append {P : Program} {w w' : World} {o : Oper} {a : Act} {s x : Operand} {t : TypeId} (ho : o.op = .call { callee := .builtin .append, args := #[s, x], argTypes := #[t, t] }) {v1 v2 v' : Value} (hs : a.eval s = v1) (hx : a.eval x = v2)
    (hr : (Builtin.append_ #[t, t] o.type #[v1, v2]).run P w = .ok v' w') : (execOp a.eval o).run P w = .ok (.value v') w' := by
  unfold execOp
  simp only [ho, resolve, invoke, builtin, Sem.run_bind, Sem.run_pure, Result.andThen_ok, List.map_toArray, List.map_cons, List.map_nil, hs, hx, hr]
theorem wpList_of_append {P : Program} {w w' : World} {ops : Array Oper} {rest : List Oper} {o : Oper} {a : Act} {Q : Exit → Act → World → Prop} (hgd : o.guard = none) (s x : Operand) (t : TypeId)
    (ho : o.op = .call { callee := .builtin .append, args := #[s, x], argTypes := #[t, t] }) (v1 v2 v' : Value) (hs : a.eval s = v1) (hx : a.eval x = v2)
    (hr : ∀ ty, (Builtin.append_ #[t, t] ty #[v1, v2]).run P w = .ok v' w') (h : wpList P ops Q rest (a.put o.dst v') w') : wpList P ops Q (o :: rest) a w := by
  refine wpList_plain hgd fun K hK => ?_
  unfold Oper.wp
  rw [exec_append ho hs hx (hr o.type)]
  exact hK _ _ h
theorem RTab.congr {w : World} {base gr : Nat} {av : List Nat} {V V' : Nat → Value} {n n' : Nat → Nat} {L L' : Nat → Nat → Int} (h : RTab w base gr av V n L) (hV : ∀ j, j < 4 → V' j = V j) (hn : ∀ j, j < 4 → n' j = n j) (hL : ∀ j, j < 4 → ∀ i, i < n j → L' j i = L j i) : RTab w base gr av V' n' L' := by
  refine ⟨by rw [hV 0 (by omega), hV 1 (by omega), hV 2 (by omega), hV 3 (by omega)]; exact h.blk, fun j hj => ?_, fun i j hi hj hij k => ?_, fun j hj => ?_, h.lt, h.gm, h.gb⟩
  · rw [hV j hj, hn j hj, colOf_congr (fun i hi => hL j hj i hi)]; exact h.col j hj
  · rw [hV i hi, hV j hj]; exact h.ap i j hi hj hij k
  · rw [hV j hj]; exact h.ng j hj
def four (a b c d : Value) : Nat → Value
  | 0 => a
  | 1 => b
  | 2 => c
  | _ => d
def fourL (a b c d : Nat → Int) : Nat → Nat → Int
  | 0 => a
  | 1 => b
  | 2 => c
  | _ => d
/-- a table of n rows -/
def RT (w : World) (base gr : Nat) (av : List Nat) (a b c d : Value) (n : Nat) (A B T N : Nat → Int) : Prop := RTab w base gr av (four a b c d) (fun _ => n) (fourL A B T N)
theorem RT.keep {w w' : World} {base gr : Nat} {av : List Nat} {a b c d : Value} {n : Nat} {A B T N : Nat → Int} (h : RT w base gr av a b c d n A B T N) (hb : Below w.heap.size w w') : RT w' base gr av a b c d n A B T N := RTab.keep h hb
theorem refpair_arg (w : World) (p : Value) (a b typ : Int) (h : a = b ∨ 127 < typ) : Calls Try.prog 35 #[p, .int .u32 a, .int .u32 b, .int .u8 typ] w fun e w' => e = .returned (.int .i64 1) ∧ w = w' := by
  rcases h with rfl | h
  · go_enter Try.func35, Try.ntmps35
    go_wp2_with fail
    go_ret
    exact ⟨rfl, rfl⟩
  · by_cases hab : a = b
    · subst hab
      go_enter Try.func35, Try.ntmps35
      go_wp2_with fail
      go_ret
      exact ⟨rfl, rfl⟩
    · have e1 : (a == b) = false := by simpa using hab
      have e2 : decide (a = b) = false := by simpa using hab
      clear hab
      go_enter Try.func35, Try.ntmps35
      go_wp2_with fail
      go_ret
      exact ⟨rfl, rfl⟩
theorem atI_nonneg {L : Nat → Int} {n : Nat} {x : Int} : (0 ≤ atI L n x) ↔ (findI L x n).isSome = true := by
  unfold atI
  cases findI L x n <;> simp <;> omega
set_option maxRecDepth 100000 in
set_option maxHeartbeats 4000000 in
theorem refpair_state (w : World) (base gr : Nat) (av : List Nat) (va vb vc vd : Value) (n : Nat) (A B T N : Nat → Int) (a b typ : Int) (h : RT w base gr av va vb vc vd n A B T N) (hab : a ≠ b) (ht : typ ≤ 127) (hs : (findI A a n).isSome = true ∨ (findI B a n).isSome = true ∨ (findI A b n).isSome = true ∨ (findI B b n).isSome = true) :
    Calls Try.prog 35 #[.pointer (some ⟨gr, 0, none⟩), .int .u32 a, .int .u32 b, .int .u8 typ] w fun e w' => e = .returned (.int .i64 10) ∧ w = w' := by
  have e1 : (a == b) = false := by simpa using hab
  have e2 : decide (a = b) = false := by simpa using hab
  have e3 : decide (127 < typ) = false := by (simp; omega)
  obtain ⟨aA, cA, hVA, uA⟩ := RTab.us h 0 (by omega)
  obtain ⟨aB, cB, hVB, uB⟩ := RTab.us h 1 (by omega)
  have hva : va = .slice aA n cA := hVA
  have hvb : vb = .slice aB n cB := hVB
  subst hva hvb
  have UA : Hid (US w.heap.size w aA n cA A) := Lib.hid uA
  have UB : Hid (US w.heap.size w aB n cB B) := Lib.hid uB
  have H := Lib.hid h
  have c0 : w.cell? ⟨gr, 0, none⟩ = some (.slice aA n cA) := cell_blk h.blk
  have c1 : w.cell? ⟨gr, 1, none⟩ = some (.slice aB n cB) := cell_blk h.blk
  have HS := Lib.hid hs
  clear h hab hVA hVB uA uB hs
  by_cases t0 : 0 ≤ atI A n a
  · have d0 : decide (0 ≤ atI A n a) = true := by simpa using t0
    clear t0
    go_enter Try.func35, Try.ntmps35
    go_wp2_with fail
    refine (at34_any w.heap.size w aA n cA A a UA.out).mono ?_
    rintro e w' ⟨rfl, rfl⟩
    go_wp2_with fail
    go_ret
    exact ⟨rfl, rfl⟩
  have HT0 := Lib.hid t0
  have d0 : decide (0 ≤ atI A n a) = false := by simpa using t0
  clear t0
  by_cases t1 : 0 ≤ atI B n a
  · have d1 : decide (0 ≤ atI B n a) = true := by simpa using t1
    clear t1
    go_enter Try.func35, Try.ntmps35
    go_wp2_with fail
    refine (at34_any w.heap.size w aA n cA A a UA.out).mono ?_
    rintro e w' ⟨rfl, rfl⟩
    go_wp2_with fail
    refine (at34_any w.heap.size w aB n cB B a UB.out).mono ?_
    rintro e w' ⟨rfl, rfl⟩
    go_wp2_with fail
    go_ret
    exact ⟨rfl, rfl⟩
  have HT1 := Lib.hid t1
  have d1 : decide (0 ≤ atI B n a) = false := by simpa using t1
  clear t1
  by_cases t2 : 0 ≤ atI A n b
  · have d2 : decide (0 ≤ atI A n b) = true := by simpa using t2
    clear t2
    go_enter Try.func35, Try.ntmps35
    go_wp2_with fail
    refine (at34_any w.heap.size w aA n cA A a UA.out).mono ?_
    rintro e w' ⟨rfl, rfl⟩
    go_wp2_with fail
    refine (at34_any w.heap.size w aB n cB B a UB.out).mono ?_
    rintro e w' ⟨rfl, rfl⟩
    go_wp2_with fail
    refine (at34_any w.heap.size w aA n cA A b UA.out).mono ?_
    rintro e w' ⟨rfl, rfl⟩
    go_wp2_with fail
    go_ret
    exact ⟨rfl, rfl⟩
  have HT2 := Lib.hid t2
  have d2 : decide (0 ≤ atI A n b) = false := by simpa using t2
  clear t2
  have d3 : decide (0 ≤ atI B n b) = true := by
    have h0 := HT0.out; have h1 := HT1.out; have h2 := HT2.out
    rw [atI_nonneg] at h0 h1 h2
    have : 0 ≤ atI B n b := by rw [atI_nonneg]; rcases HS.out with h | h | h | h
                               · exact absurd h h0
                               · exact absurd h h1
                               · exact absurd h h2
                               · exact h
    simpa using this
  go_enter Try.func35, Try.ntmps35
  go_wp2_with fail
  refine (at34_any w.heap.size w aA n cA A a UA.out).mono ?_
  rintro e w' ⟨rfl, rfl⟩
  go_wp2_with fail
  refine (at34_any w.heap.size w aB n cB B a UB.out).mono ?_
  rintro e w' ⟨rfl, rfl⟩
  go_wp2_with fail
  refine (at34_any w.heap.size w aA n cA A b UA.out).mono ?_
  rintro e w' ⟨rfl, rfl⟩
  go_wp2_with fail
  refine (at34_any w.heap.size w aB n cB B b UB.out).mono ?_
  rintro e w' ⟨rfl, rfl⟩
  go_wp2_with fail
  go_ret
  exact ⟨rfl, rfl⟩
set_option maxRecDepth 100000 in
set_option maxHeartbeats 4000000 in
theorem refpair_full (w : World) (base gr : Nat) (av : List Nat) (va vb vc vd : Value) (n : Nat) (A B T N : Nat → Int) (a b typ : Int) (h : RT w base gr av va vb vc vd n A B T N) (hab : a ≠ b) (ht : typ ≤ 127) (h0 : findI A a n = none) (h1 : findI B a n = none) (h2 : findI A b n = none) (h3 : findI B b n = none) (hn : n = 16) :
    Calls Try.prog 35 #[.pointer (some ⟨gr, 0, none⟩), .int .u32 a, .int .u32 b, .int .u8 typ] w fun e w' => e = .returned (.int .i64 6) ∧ w = w' := by
  have e1 : (a == b) = false := by simpa using hab
  have e2 : decide (a = b) = false := by simpa using hab
  have e3 : decide (127 < typ) = false := by (simp; omega)
  obtain ⟨aA, cA, hVA, uA⟩ := RTab.us h 0 (by omega)
  obtain ⟨aB, cB, hVB, uB⟩ := RTab.us h 1 (by omega)
  have hva : va = .slice aA n cA := hVA
  have hvb : vb = .slice aB n cB := hVB
  subst hva hvb
  have UA : Hid (US w.heap.size w aA n cA A) := Lib.hid uA
  have UB : Hid (US w.heap.size w aB n cB B) := Lib.hid uB
  have H := Lib.hid h
  have c0 : w.cell? ⟨gr, 0, none⟩ = some (.slice aA n cA) := cell_blk h.blk
  have c1 : w.cell? ⟨gr, 1, none⟩ = some (.slice aB n cB) := cell_blk h.blk
  have d0 : decide (0 ≤ atI A n a) = false := by unfold atI; rw [h0]; rfl
  have d1 : decide (0 ≤ atI B n a) = false := by unfold atI; rw [h1]; rfl
  have d2 : decide (0 ≤ atI A n b) = false := by unfold atI; rw [h2]; rfl
  have d3 : decide (0 ≤ atI B n b) = false := by unfold atI; rw [h3]; rfl
  have d4 : decide ((n : Int) = 16) = true := by (simp; omega)
  have d5 : ((n : Int) == 16) = true := by (simp; omega)
  clear hn h hab hVA hVB uA uB h0 h1 h2 h3
  go_enter Try.func35, Try.ntmps35
  go_wp2_with fail
  refine (at34_any w.heap.size w aA n cA A a UA.out).mono ?_
  rintro e w' ⟨rfl, rfl⟩
  go_wp2_with fail
  refine (at34_any w.heap.size w aB n cB B a UB.out).mono ?_
  rintro e w' ⟨rfl, rfl⟩
  go_wp2_with fail
  refine (at34_any w.heap.size w aA n cA A b UA.out).mono ?_
  rintro e w' ⟨rfl, rfl⟩
  go_wp2_with fail
  refine (at34_any w.heap.size w aB n cB B b UB.out).mono ?_
  rintro e w' ⟨rfl, rfl⟩
  go_wp2_with fail
  go_ret
  exact ⟨rfl, rfl⟩
set_option maxRecDepth 100000 in
set_option maxHeartbeats 4000000 in
theorem refpair_ok (w : World) (base gr : Nat) (av : List Nat) (va vb vc vd : Value) (n : Nat) (A B T N : Nat → Int) (a b typ : Int) (h : RT w base gr av va vb vc vd n A B T N) (hab : a ≠ b) (ht : typ ≤ 127) (h0 : findI A a n = none) (h1 : findI B a n = none) (h2 : findI A b n = none) (h3 : findI B b n = none) (hn : n < 16) (hbs : base ≤ w.heap.size) :
    Calls Try.prog 35 #[.pointer (some ⟨gr, 0, none⟩), .int .u32 a, .int .u32 b, .int .u8 typ] w fun e w' => e = .returned (.int .i64 0) ∧ (∃ xa xb xc xd, RT w' base gr av xa xb xc xd (n + 1) (updN A n a) (updN B n b) (updN T n typ) (updN N n 0)) ∧ Below base w w' ∧ ∀ k ∈ av, k ≠ gr → w'.heap[k]? = w.heap[k]? := by
  have e1 : (a == b) = false := by simpa using hab
  have e2 : decide (a = b) = false := by simpa using hab
  have e3 : decide (127 < typ) = false := by (simp; omega)
  obtain ⟨aA, cA, hVA, uA⟩ := RTab.us h 0 (by omega)
  obtain ⟨aB, cB, hVB, uB⟩ := RTab.us h 1 (by omega)
  have hva : va = .slice aA n cA := hVA
  have hvb : vb = .slice aB n cB := hVB
  subst hva hvb
  have UA : Hid (US w.heap.size w aA n cA A) := Lib.hid uA
  have UB : Hid (US w.heap.size w aB n cB B) := Lib.hid uB
  have H := Lib.hid h
  have c0 : w.cell? ⟨gr, 0, none⟩ = some (.slice aA n cA) := cell_blk h.blk
  have c1 : w.cell? ⟨gr, 1, none⟩ = some (.slice aB n cB) := cell_blk h.blk
  have d0 : decide (0 ≤ atI A n a) = false := by unfold atI; rw [h0]; rfl
  have d1 : decide (0 ≤ atI B n a) = false := by unfold atI; rw [h1]; rfl
  have d2 : decide (0 ≤ atI A n b) = false := by unfold atI; rw [h2]; rfl
  have d3 : decide (0 ≤ atI B n b) = false := by unfold atI; rw [h3]; rfl
  have d4 : decide ((n : Int) = 16) = false := by (simp; omega)
  have d5 : ((n : Int) == 16) = false := by (simp; omega)
  obtain ⟨aT, cT, hvc⟩ := own_len (h.col 2 (by omega))
  obtain ⟨aN, cN, hvd⟩ := own_len (h.col 3 (by omega))
  have hvc' : vc = .slice aT n cT := hvc
  have hvd' : vd = .slice aN n cN := hvd
  subst hvc' hvd'
  clear hab hVA hVB uA uB h0 h1 h2 h3 h hvc hvd
  obtain ⟨x0, y0, w1, r0, g0, b0, v0, n0⟩ := RTab.push H.out 0 (by omega) a (by show n ≤ 1000; omega) (by exact hbs)
  have R0 : Hid (∀ ty, (Builtin.append_ #[42, 42] ty #[(.slice aA n cA), .slice (some ⟨w.heap.size, 0, none⟩) 1 1]).run Try.prog (w.alloc (.cells #[.int .u32 a] 41)) = .ok (.slice x0 (n + 1) y0) w1) := Lib.hid r0
  have c10 : w1.cell? ⟨gr, 0, none⟩ = some (.slice aA n cA) := cell_blk g0
  have c11 : w1.cell? ⟨gr, 1, none⟩ = some (.slice aB n cB) := cell_blk g0
  have c12 : w1.cell? ⟨gr, 2, none⟩ = some (.slice aT n cT) := cell_blk g0
  have c13 : w1.cell? ⟨gr, 3, none⟩ = some (.slice aN n cN) := cell_blk g0
  have f1 : w1.frozen? ⟨gr, 0, none⟩ = false := free_blk g0
  have T1 := n0 (w1.setCell ⟨gr, 0, none⟩ (.slice x0 (n + 1) y0)) (by simp [World.setCell]) (fun k hk => set_blk_other _ hk) (by rw [set_blk _ g0]; rfl)
  have z1 : (w1.setCell ⟨gr, 0, none⟩ (.slice x0 (n + 1) y0)).heap.size = w1.heap.size := by simp [World.setCell]
  have q1 : Below base w (w1.setCell ⟨gr, 0, none⟩ (.slice x0 (n + 1) y0)) := Below.setCell (b0) H.out.gb _
  have k1 : ∀ k ∈ av, k ≠ gr → (w1.setCell ⟨gr, 0, none⟩ (.slice x0 (n + 1) y0)).heap[k]? = w.heap[k]? := fun k hk hne => (set_blk_other _ hne).trans ((v0 k hk))
  obtain ⟨x1, y1, w2, r1, g1, b1, v1, n1⟩ := RTab.push T1 1 (by omega) b (by show n ≤ 1000; omega) (by have := q1.size; omega)
  rw [z1] at r1
  have R1 : Hid (∀ ty, (Builtin.append_ #[42, 42] ty #[(.slice aB n cB), .slice (some ⟨w1.heap.size, 0, none⟩) 1 1]).run Try.prog ((w1.setCell ⟨gr, 0, none⟩ (.slice x0 (n + 1) y0)).alloc (.cells #[.int .u32 b] 41)) = .ok (.slice x1 (n + 1) y1) w2) := Lib.hid r1
  have c20 : w2.cell? ⟨gr, 0, none⟩ = some (.slice x0 (n + 1) y0) := cell_blk g1
  have c21 : w2.cell? ⟨gr, 1, none⟩ = some (.slice aB n cB) := cell_blk g1
  have c22 : w2.cell? ⟨gr, 2, none⟩ = some (.slice aT n cT) := cell_blk g1
  have c23 : w2.cell? ⟨gr, 3, none⟩ = some (.slice aN n cN) := cell_blk g1
  have f2 : w2.frozen? ⟨gr, 1, none⟩ = false := free_blk g1
  have T2 := n1 (w2.setCell ⟨gr, 1, none⟩ (.slice x1 (n + 1) y1)) (by simp [World.setCell]) (fun k hk => set_blk_other _ hk) (by rw [set_blk _ g1]; rfl)
  have z2 : (w2.setCell ⟨gr, 1, none⟩ (.slice x1 (n + 1) y1)).heap.size = w2.heap.size := by simp [World.setCell]
  have q2 : Below base w (w2.setCell ⟨gr, 1, none⟩ (.slice x1 (n + 1) y1)) := Below.setCell (q1.trans b1) H.out.gb _
  have k2 : ∀ k ∈ av, k ≠ gr → (w2.setCell ⟨gr, 1, none⟩ (.slice x1 (n + 1) y1)).heap[k]? = w.heap[k]? := fun k hk hne => (set_blk_other _ hne).trans ((v1 k hk).trans (k1 k hk hne))
  obtain ⟨x2, y2, w3, r2, g2, b2, v2, n2⟩ := RTab.push T2 2 (by omega) typ (by show n ≤ 1000; omega) (by have := q2.size; omega)
  rw [z2] at r2
  have R2 : Hid (∀ ty, (Builtin.append_ #[25, 25] ty #[(.slice aT n cT), .slice (some ⟨w2.heap.size, 0, none⟩) 1 1]).run Try.prog ((w2.setCell ⟨gr, 1, none⟩ (.slice x1 (n + 1) y1)).alloc (.cells #[.int .u8 typ] 5)) = .ok (.slice x2 (n + 1) y2) w3) := Lib.hid r2
  have c30 : w3.cell? ⟨gr, 0, none⟩ = some (.slice x0 (n + 1) y0) := cell_blk g2
  have c31 : w3.cell? ⟨gr, 1, none⟩ = some (.slice x1 (n + 1) y1) := cell_blk g2
  have c32 : w3.cell? ⟨gr, 2, none⟩ = some (.slice aT n cT) := cell_blk g2
  have c33 : w3.cell? ⟨gr, 3, none⟩ = some (.slice aN n cN) := cell_blk g2
  have f3 : w3.frozen? ⟨gr, 2, none⟩ = false := free_blk g2
  have T3 := n2 (w3.setCell ⟨gr, 2, none⟩ (.slice x2 (n + 1) y2)) (by simp [World.setCell]) (fun k hk => set_blk_other _ hk) (by rw [set_blk _ g2]; rfl)
  have z3 : (w3.setCell ⟨gr, 2, none⟩ (.slice x2 (n + 1) y2)).heap.size = w3.heap.size := by simp [World.setCell]
  have q3 : Below base w (w3.setCell ⟨gr, 2, none⟩ (.slice x2 (n + 1) y2)) := Below.setCell (q2.trans b2) H.out.gb _
  have k3 : ∀ k ∈ av, k ≠ gr → (w3.setCell ⟨gr, 2, none⟩ (.slice x2 (n + 1) y2)).heap[k]? = w.heap[k]? := fun k hk hne => (set_blk_other _ hne).trans ((v2 k hk).trans (k2 k hk hne))
  obtain ⟨x3, y3, w4, r3, g3, b3, v3, n3⟩ := RTab.push T3 3 (by omega) 0 (by show n ≤ 1000; omega) (by have := q3.size; omega)
  rw [z3] at r3
  have R3 : Hid (∀ ty, (Builtin.append_ #[62, 62] ty #[(.slice aN n cN), .slice (some ⟨w3.heap.size, 0, none⟩) 1 1]).run Try.prog ((w3.setCell ⟨gr, 2, none⟩ (.slice x2 (n + 1) y2)).alloc (.cells #[.int .u16 0] 40)) = .ok (.slice x3 (n + 1) y3) w4) := Lib.hid r3
  have c40 : w4.cell? ⟨gr, 0, none⟩ = some (.slice x0 (n + 1) y0) := cell_blk g3
  have c41 : w4.cell? ⟨gr, 1, none⟩ = some (.slice x1 (n + 1) y1) := cell_blk g3
  have c42 : w4.cell? ⟨gr, 2, none⟩ = some (.slice x2 (n + 1) y2) := cell_blk g3
  have c43 : w4.cell? ⟨gr, 3, none⟩ = some (.slice aN n cN) := cell_blk g3
  have f4 : w4.frozen? ⟨gr, 3, none⟩ = false := free_blk g3
  have T4 := n3 (w4.setCell ⟨gr, 3, none⟩ (.slice x3 (n + 1) y3)) (by simp [World.setCell]) (fun k hk => set_blk_other _ hk) (by rw [set_blk _ g3]; rfl)
  have z4 : (w4.setCell ⟨gr, 3, none⟩ (.slice x3 (n + 1) y3)).heap.size = w4.heap.size := by simp [World.setCell]
  have q4 : Below base w (w4.setCell ⟨gr, 3, none⟩ (.slice x3 (n + 1) y3)) := Below.setCell (q3.trans b3) H.out.gb _
  have k4 : ∀ k ∈ av, k ≠ gr → (w4.setCell ⟨gr, 3, none⟩ (.slice x3 (n + 1) y3)).heap[k]? = w.heap[k]? := fun k hk hne => (set_blk_other _ hne).trans ((v3 k hk).trans (k3 k hk hne))
  have FIN : Hid (RT (w4.setCell ⟨gr, 3, none⟩ (.slice x3 (n + 1) y3)) base gr av (.slice x0 (n + 1) y0) (.slice x1 (n + 1) y1) (.slice x2 (n + 1) y2) (.slice x3 (n + 1) y3) (n + 1) (updN A n a) (updN B n b) (updN T n typ) (updN N n 0)) := Lib.hid (T4.congr
    (fun j hj => by have : j = 0 ∨ j = 1 ∨ j = 2 ∨ j = 3 := by omega
                    rcases this with rfl | rfl | rfl | rfl <;> rfl)
    (fun j hj => by have : j = 0 ∨ j = 1 ∨ j = 2 ∨ j = 3 := by omega
                    rcases this with rfl | rfl | rfl | rfl <;> rfl)
    (fun j hj i _ => by have : j = 0 ∨ j = 1 ∨ j = 2 ∨ j = 3 := by omega
                        rcases this with rfl | rfl | rfl | rfl <;> rfl))
  have Q4 := Lib.hid q4
  have K4 := Lib.hid k4
  clear r0 g0 b0 v0 n0 r1 g1 b1 v1 n1 r2 g2 b2 v2 n2 r3 g3 b3 v3 n3 T1 z1 q1 k1 T2 z2 q2 k2 T3 z3 q3 k3 T4 z4 q4 k4
  go_enter Try.func35, Try.ntmps35
  go_wp2_with fail
  refine (at34_any w.heap.size w aA n cA A a UA.out).mono ?_
  rintro e w' ⟨rfl, rfl⟩
  go_wp2_with fail
  refine (at34_any w.heap.size w aB n cB B a UB.out).mono ?_
  rintro e w' ⟨rfl, rfl⟩
  go_wp2_with fail
  refine (at34_any w.heap.size w aA n cA A b UA.out).mono ?_
  rintro e w' ⟨rfl, rfl⟩
  go_wp2_with fail
  refine (at34_any w.heap.size w aB n cB B b UB.out).mono ?_
  rintro e w' ⟨rfl, rfl⟩
  go_wp2_with (first
    | (at_builtin; refine wpList_of_append rfl (.tmp 60) (.tmp 62) 42 rfl _ _ _ rfl rfl R0.out ?_)
    | (at_builtin; refine wpList_of_append rfl (.tmp 70) (.tmp 72) 42 rfl _ _ _ rfl rfl R1.out ?_)
    | (at_builtin; refine wpList_of_append rfl (.tmp 80) (.tmp 82) 25 rfl _ _ _ rfl rfl R2.out ?_)
    | (at_builtin; refine wpList_of_append rfl (.tmp 90) (.tmp 91) 62 rfl _ _ _ rfl rfl R3.out ?_)
    )
  go_ret
  exact ⟨rfl, ⟨_, _, _, _, FIN.out⟩, Q4.out, K4.out⟩
end Go.Proofs.Ytihbceippcgfgaa
