/-
  Chapter 38: the two rows grow, are set, and are cut.
-/
import Derived.Test.YtkdjkaimcciemaaSmD
namespace Go.Proofs.Ytkdjkaimcciemaa
open Go.RowKit
set_option linter.unusedVariables false
set_option linter.unusedSimpArgs false

theorem But.refl (r : Option Nat) (w : World) : But r w w := ⟨rfl, rfl, rfl, Nat.le_refl _, fun _ _ _ => rfl⟩
theorem But.set {b : Nat} {u w : World} (h : But (some b) u w) (i : Nat) (v : Value) : But (some b) u (w.setCell ⟨b, i, none⟩ v) :=
  ⟨h.os, h.tape, h.output, by have := h.size; simp [World.setCell]; omega, fun k hk hne => (Below.heap_setCell _ _ _ _ (fun e => hne (by rw [e]))).trans (h.block k hk hne)⟩
theorem Bk.low {gk gm n sz N0 : Nat} {f : Int → Option Sy} {w w' : World} (h : Bk gk gm n f sz w) (hb : Below N0 w w') (hk : gk < N0) (hm : gm < N0) : Bk gk gm n f sz w' := ⟨Below.blk hb h.blk hk, h.map.of_blk (hb.block _ hm), h.ne⟩
theorem nmV_app (N : List Ent) (p : Ent) : nmV (N ++ [p]) = nmV N ++ [.int .u32 p.1] := by simp [nmV]
theorem syV_app (N : List Ent) (p : Ent) : syV (N ++ [p]) = syV N ++ syL p.2 := by simp [syV]
/-- both rows grow by one -/
theorem sm_push {w X : World} {gk gm N0 n g7 : Nat} {N : List Ent} {f : Int → Option Sy} {na : Option Addr} {nc : Nat} {sa : Option Addr} {sc : Nat} {A : Int} {s : Sy} {cs : Array Value} {T7 : TypeId}
    (bk : Bk gk gm n f (N.length + 1) X) (rn : X.ownsRow N0 23 1 (.slice na N.length nc) N.length (nmV N)) (rs : X.ownsRow N0 25 3 (.slice sa N.length sc) N.length (syV N)) (rb : Below w.heap.size w X) (rz : N0 ≤ X.heap.size) (hk : gk < N0) (hm : gm < N0) (hw : w.heap.size ≤ N0) (hl : N.length ≤ 32)
    (h7 : X.heap[g7]? = some (.cells cs T7 (0, 0))) (ht1 : T7 ≠ 23) (ht2 : T7 ≠ 25) :
    ∃ a1 c1 V1 a2 c2 V2, (∀ ty, (Builtin.append_ #[34, 34] ty #[.slice na N.length nc, .slice (some ⟨X.heap.size, 0, none⟩) 1 1]).run Try.prog (X.alloc (.cells #[.int .u32 A] 23)) = .ok (.slice a1 (N.length + 1) c1) V1) ∧ V1.heap[g7]? = some (.cells cs T7 (0, 0)) ∧
      (∀ ty, (Builtin.append_ #[35, 35] ty #[.slice sa N.length sc, .slice (some ⟨V1.heap.size, 0, none⟩) 1 1]).run Try.prog (V1.alloc (.cells #[.int .u64 s.T, .int .u32 s.S, .int .u32 s.R] 25)) = .ok (.slice a2 (N.length + 1) c2) V2) ∧
      V2.ownsRow N0 23 1 (.slice a1 (N.length + 1) c1) (N.length + 1) (nmV (N ++ [(A, s)])) ∧ V2.ownsRow N0 25 3 (.slice a2 (N.length + 1) c2) (N.length + 1) (syV (N ++ [(A, s)])) ∧ Bk gk gm n f (N.length + 1) V2 ∧ Below w.heap.size w V2 ∧ N0 ≤ V2.heap.size := by
  obtain ⟨a1, c1, V1, A1, B1⟩ := app1 elU32 rn [.int .u32 A] rfl (one_cell rfl) (by omega) (by omega) rz
  have rs1 := own_apart rs rn A1.but (by decide)
  have z1 : N0 ≤ V1.heap.size := Nat.le_trans rz B1.size
  have k7 : V1.heap[g7]? = some (.cells cs T7 (0, 0)) := A1.but.blk h7 (fun e => by
    obtain ⟨cs', mm, h1⟩ := own_blk2 rn g7 e
    rw [h7] at h1
    injection h1 with h1
    injection h1 with _ h1
    exact ht1 h1)
  obtain ⟨a2, c2, V2, A2, B2⟩ := app1 elSy rs1 (syL s) rfl (fun u hu => by simp [syL] at hu; rcases hu with rfl | rfl | rfl <;> rfl) (by omega) (by omega) z1
  have n1 := A1.own
  rw [← nmV_app N (A, s)] at n1
  have n2 := own_apart n1 rs1 A2.but (by decide)
  have s2 := A2.own
  rw [← syV_app N (A, s)] at s2
  exact ⟨a1, c1, V1, a2, c2, V2, A1.run, k7, A2.run, n2, s2, bk.low (B1.trans B2) hk hm, rb.trans ((B1.trans B2).mono hw), Nat.le_trans z1 B2.size⟩
/-- an element of the second row is set -/
theorem own_set1 {w : World} {base g n cap : Nat} {e : TypeId} {size : Nat} {xs : List Value} (h : w.ownsRow base e size (.slice (some ⟨g, 0, none⟩) n cap) n xs) (j : Nat) (u : Value) :
    (w.setCell ⟨g, j, none⟩ u).ownsRow base e size (.slice (some ⟨g, 0, none⟩) n cap) n (xs.set j u) := by
  obtain ⟨h1, h2⟩ := h
  refine ⟨by rw [List.length_set]; exact h1, ?_⟩
  rcases h2 with ⟨h2, _⟩ | ⟨g', cap', cur, hv, hg, hh, r1, r2, r3, r4⟩
  · cases h2
  · cases hv
    refine .inr ⟨g, cap, cur.setIfInBounds j u, rfl, hg, set_blk u hh, r1, r2, by simpa using r3, ?_⟩
    rw [Array.toList_setIfInBounds, List.take_set, r4]
theorem syV_set (N : List Ent) (j : Nat) (x : Int) (s : Sy) (h : j < N.length) : (((syV N).set (j * 3) (.int .u64 s.T)).set (j * 3 + 1) (.int .u32 s.S)).set (j * 3 + 2) (.int .u32 s.R) = syV (N.set j (x, s)) := by
  induction N generalizing j with
  | nil => exact absurd h (Nat.not_lt_zero _)
  | cons p N ih =>
    have e2 : ∀ (q : Ent) (M : List Ent), syV (q :: M) = syL q.2 ++ syV M := fun q M => by simp [syV]
    cases j with
    | zero => rw [e2, List.set_cons_zero, e2]; rfl
    | succ j =>
      rw [e2, List.set_cons_succ, e2, ← ih j (by simpa using h), show (j + 1) * 3 = j * 3 + 3 by omega]
      rfl
theorem nmV_set (N : List Ent) (j : Nat) (s : Sy) (h : j < N.length) : nmV (N.set j (kN N j, s)) = nmV N := by
  unfold nmV
  rw [List.map_set]
  apply List.ext_getElem?
  intro i
  rw [List.getElem?_set]
  by_cases e : j = i
  · subst e
    rw [if_pos rfl, if_pos (by simpa using h)]
    have := nmV_get N j h
    unfold nmV at this
    exact this.symm
  · rw [if_neg e]
theorem sm_set {w X : World} {gk gm N0 n : Nat} {N : List Ent} {f : Int → Option Sy} {na : Option Addr} {nc : Nat} {sa : Option Addr} {sc : Nat} {s : Sy} {j sz : Nat} (hj : j < N.length)
    (bk : Bk gk gm n f sz X) (rn : X.ownsRow N0 23 1 (.slice na N.length nc) N.length (nmV N)) (rs : X.ownsRow N0 25 3 (.slice sa N.length sc) N.length (syV N)) (rb : Below w.heap.size w X) (hk : gk < N0) (hm : gm < N0) (hw : w.heap.size ≤ N0) :
    ∃ sb X1 X2 X3, sa = some ⟨sb, 0, none⟩ ∧ X.setCell ⟨sb, j * 3, none⟩ (.int .u64 s.T) = X1 ∧ X1.setCell ⟨sb, j * 3 + 1, none⟩ (.int .u32 s.S) = X2 ∧ X2.setCell ⟨sb, j * 3 + 2, none⟩ (.int .u32 s.R) = X3 ∧
      (X.cell? ⟨sb, j * 3, none⟩ = some (.int .u64 (sN N j).T) ∧ X.frozen? ⟨sb, j * 3, none⟩ = false) ∧ (X1.cell? ⟨sb, j * 3 + 1, none⟩ = some (.int .u32 (sN N j).S) ∧ X1.frozen? ⟨sb, j * 3 + 1, none⟩ = false) ∧ (X2.cell? ⟨sb, j * 3 + 2, none⟩ = some (.int .u32 (sN N j).R) ∧ X2.frozen? ⟨sb, j * 3 + 2, none⟩ = false) ∧
      X3.ownsRow N0 23 1 (.slice na N.length nc) N.length (nmV (N.set j (kN N j, s))) ∧ X3.ownsRow N0 25 3 (.slice sa N.length sc) N.length (syV (N.set j (kN N j, s))) ∧ Bk gk gm n f sz X3 ∧ Below w.heap.size w X3 ∧ X.heap.size = X3.heap.size := by
  obtain ⟨sb, cp, cur, hv, hg, hh, r1, r2, r3, r4⟩ : ∃ sb cp cur, (Value.slice sa N.length sc) = .slice (some ⟨sb, 0, none⟩) N.length cp ∧ N0 ≤ sb ∧ X.heap[sb]? = some (.cells cur 25 (0, 0)) ∧ N.length ≤ cp ∧ cp ≤ maxLen ∧ cur.size = cp * 3 ∧ cur.toList.take (N.length * 3) = syV N := by
    rcases rs.2 with ⟨_, h0⟩ | ⟨g, cp, cur, h1, h2⟩
    · omega
    · exact ⟨g, cp, cur, h1, h2⟩
  injection hv with v1 v2 v3
  subst v1 v3
  have hc : ∀ t u, (syV N)[t]? = some u → X.cell? ⟨sb, t, none⟩ = some u := fun t u ht => by
    have := rs.cells rfl t u ht
    rw [addr_add, Nat.zero_add] at this
    exact this
  obtain ⟨g0, g1, g2⟩ := syV_get N j hj
  have ne : ∀ (W : World) (c1 : Array Value) (a b : Nat) (u : Value), W.heap[sb]? = some (.cells c1 25 (0, 0)) → a ≠ b → (W.setCell ⟨sb, a, none⟩ u).cell? ⟨sb, b, none⟩ = W.cell? ⟨sb, b, none⟩ := fun W c1 a b u hW hab => by
    unfold World.cell?
    rw [set_blk u hW, hW]
    simp [Array.getElem?_setIfInBounds, hab]
  have h1 := set_blk (i := j * 3) (.int .u64 s.T) hh
  have h2 := set_blk (i := j * 3 + 1) (.int .u32 s.S) h1
  have o3 := own_set1 (own_set1 (own_set1 rs (j * 3) (.int .u64 s.T)) (j * 3 + 1) (.int .u32 s.S)) (j * 3 + 2) (.int .u32 s.R)
  rw [syV_set N j (kN N j) s hj] at o3
  have bX : Below N0 X (((X.setCell ⟨sb, j * 3, none⟩ (.int .u64 s.T)).setCell ⟨sb, j * 3 + 1, none⟩ (.int .u32 s.S)).setCell ⟨sb, j * 3 + 2, none⟩ (.int .u32 s.R)) := (((Below.refl _ _).setCell (p := ⟨sb, j * 3, none⟩) hg _).setCell (p := ⟨sb, j * 3 + 1, none⟩) hg _).setCell (p := ⟨sb, j * 3 + 2, none⟩) hg _
  have bu : But (some sb) X (((X.setCell ⟨sb, j * 3, none⟩ (.int .u64 s.T)).setCell ⟨sb, j * 3 + 1, none⟩ (.int .u32 s.S)).setCell ⟨sb, j * 3 + 2, none⟩ (.int .u32 s.R)) := (((But.refl _ _).set _ _).set _ _).set _ _
  refine ⟨sb, _, _, _, rfl, rfl, rfl, rfl, ⟨hc _ _ g0, free_blk hh⟩, ⟨(ne X cur _ _ _ hh (by omega)).trans (hc _ _ g1), free_blk h1⟩, ⟨(ne _ _ _ _ _ h1 (by omega)).trans ((ne X cur _ _ _ hh (by omega)).trans (hc _ _ g2)), free_blk h2⟩, ?_, o3, bk.low bX hk hm, rb.trans (bX.mono hw), by simp [World.setCell]⟩
  rw [nmV_set N j s hj]
  exact own_apart rn rs bu (by decide)
end Go.Proofs.Ytkdjkaimcciemaa
