/-
  Chapter 38: a row is cut at a place; other blocks of the call's own.
-/
import Derived.Test.YtkdjkaimcciemaaSmF
namespace Go.Proofs.Ytkdjkaimcciemaa
open Go.RowKit
set_option linter.unusedVariables false
set_option linter.unusedSimpArgs false

theorem own_mn {w : World} {base base' : Nat} {e : TypeId} {size : Nat} {v : Value} {n : Nat} {xs : List Value} (h : w.ownsRow base e size v n xs) (hb : base' ≤ base) : w.ownsRow base' e size v n xs := by
  obtain ⟨h1, h2⟩ := h
  refine ⟨h1, ?_⟩
  rcases h2 with h2 | ⟨g, cap, cur, hv, hg, r⟩
  · exact .inl h2
  · exact .inr ⟨g, cap, cur, hv, by omega, r⟩
/-- a block of another type is written -/
theorem SmI.other {w : World} {gk gm N0 n g : Nat} {N : List Ent} {f : Int → Option Sy} {na : Option Addr} {nc : Nat} {sa : Option Addr} {sc : Nat} {X Y : World} {cs : Array Value} {T7 : TypeId} (h : SmI w gk gm N0 n N f na nc sa sc X) (hb : But (some g) X Y) (hg : N0 ≤ g) (hw : w.heap.size ≤ N0) (hk : gk < N0) (hm : gm < N0) (h7 : X.heap[g]? = some (.cells cs T7 (0, 0))) (ht1 : T7 ≠ 23) (ht2 : T7 ≠ 25) : SmI w gk gm N0 n N f na nc sa sc Y := by
  have bl : Below N0 X Y := hb.below h.sz (fun q e => by cases e; exact hg)
  refine ⟨h.bk.low bl hk hm, own_but h.nm hb (fun q hq e => ?_), own_but h.sy hb (fun q hq e => ?_), h.rel, h.bl.trans (bl.mono hw), Nat.le_trans h.sz hb.size, h.l32, h.ok⟩
  · cases e
    obtain ⟨cs', mm, h1⟩ := own_blk2 h.nm g hq
    rw [h7] at h1; injection h1 with h1; injection h1 with _ h1
    exact ht1 h1
  · cases e
    obtain ⟨cs', mm, h1⟩ := own_blk2 h.sy g hq
    rw [h7] at h1; injection h1 with h1; injection h1 with _ h1
    exact ht2 h1
theorem SmI.mono {w : World} {gk gm N0 n n' : Nat} {N : List Ent} {f : Int → Option Sy} {na : Option Addr} {nc : Nat} {sa : Option Addr} {sc : Nat} {X : World} (h : SmI w gk gm N0 n N f na nc sa sc X) (hn : n ≤ n') : SmI w gk gm N0 n' N f na nc sa sc X :=
  ⟨⟨h.bk.blk, h.bk.map.mono hn, h.bk.ne⟩, h.nm, h.sy, h.rel, h.bl, h.sz, h.l32, h.ok⟩
theorem sl_upto2 {P : Program} {t e : TypeId} {s : Nat} (hu : P.underlying t = some (.slice e)) (hs : ∀ W, (sizeOf e).run P W = .ok s W) (a : Option Addr) (n c k : Nat) (hk : k ≤ c) (W : World) :
    (Instr.slice t (.slice a n c) none (some (.int .i64 k)) none).run P W = .ok (.slice (if c = 0 then a else a.map (·.add (0 * s))) k c) W := by
  have he : P.elem t = e := by unfold Program.elem; rw [hu]
  rw [run_slice_h W t a n c (by rw [hu, he]) .i64 k (by omega) (by omega), he, hs]
  simp [sliced]
theorem sl_from2 {P : Program} {t e : TypeId} {s : Nat} (hu : P.underlying t = some (.slice e)) (hs : ∀ W, (sizeOf e).run P W = .ok s W) (a : Option Addr) (n c : Nat) (k : Nat) (hk : k ≤ n) (W : World) :
    (Instr.slice t (.slice a n c) (some (.int .i64 (k : Int))) none none).run P W = .ok (.slice (if c = k then a else a.map (·.add (k * s))) (n - k) (c - k)) W := by
  have he : P.elem t = e := by unfold Program.elem; rw [hu]
  rw [run_slice_l W t a n c (by rw [hu, he]) .i64 k (by omega) (by omega), he, hs]
  simp [sliced]
set_option maxHeartbeats 2000000 in
/-- append(append([]T{}, s[:j]...), s[j+1:]...) -/
theorem row_cut {t e : TypeId} {size bytes : Nat} (E : ElemT Try.prog t e size bytes) (hs : ∀ W, (sizeOf e).run Try.prog W = .ok size W) {X : World} {N0 n nc j : Nat} {na : Option Addr} {xs : List Value} (h : X.ownsRow N0 e size (.slice na n nc) n xs) (hj : j < n) (hn : n ≤ 1000) (hz : N0 ≤ X.heap.size) (h1 : ∀ u ∈ xs, u.oneCell' = true) (hb : bytes ≤ 1000) :
    ∃ A1 A2 a1 c1 W1 a2 c2 W2, (∀ W, (Instr.slice t (.slice na n nc) none (some (.int .i64 (j : Int))) none).run Try.prog W = .ok (.slice A1 j nc) W) ∧ (∀ W, (Instr.slice t (.slice na n nc) (some (.int .i64 ((j : Int) + 1))) none none).run Try.prog W = .ok (.slice A2 (n - (j + 1)) (nc - (j + 1))) W) ∧
      (∀ ty, (Builtin.append_ #[t, t] ty #[.slice (some ⟨X.heap.size, 0, none⟩) 0 0, .slice A1 j nc]).run Try.prog (X.drew.alloc (.cells #[] e)) = .ok (.slice a1 j c1) W1) ∧ (∀ ty, (Builtin.append_ #[t, t] ty #[.slice a1 j c1, .slice A2 (n - (j + 1)) (nc - (j + 1))]).run Try.prog W1 = .ok (.slice a2 (n - 1) c2) W2) ∧
      Below X.heap.size X (X.drew.alloc (.cells #[] e)) ∧ Below X.heap.size X W1 ∧ Below X.heap.size X W2 ∧ W2.ownsRow N0 e size (.slice a2 (n - 1) c2) (n - 1) (xs.take (j * size) ++ xs.drop ((j + 1) * size)) := by
  obtain ⟨nb, cp, cur, hv, hg, hh, r1, r2, r3, r4⟩ : ∃ nb cp cur, (Value.slice na n nc) = .slice (some ⟨nb, 0, none⟩) n cp ∧ N0 ≤ nb ∧ X.heap[nb]? = some (.cells cur e (0, 0)) ∧ n ≤ cp ∧ cp ≤ maxLen ∧ cur.size = cp * size ∧ cur.toList.take (n * size) = xs := by
    rcases h.2 with ⟨_, h0⟩ | ⟨g, cp, cur, h1, h2⟩
    · omega
    · exact ⟨g, cp, cur, h1, h2⟩
  injection hv with v1 v2 v3
  subst v1 v3
  have hxl := h.1
  have hcell : ∀ q u, xs[q]? = some u → X.cell? ⟨nb, q, none⟩ = some u := fun q u hq => by
    have := h.cells rfl q u hq
    rw [addr_add, Nat.zero_add] at this
    exact this
  have s0 := E.info
  obtain ⟨i0, z0, _, _, _, _, _, hpos⟩ := s0
  have hjs : (j + 1) * size ≤ n * size := Nat.mul_le_mul_right _ hj
  have hjs1 : (j + 1) * size = j * size + size := Nat.succ_mul j size
  have b0 : Below X.heap.size X (X.drew.alloc (.cells #[] e)) := (Below.refl _ _).drew.alloc (Nat.le_refl _) _
  have o0 : (X.drew.alloc (.cells #[] e)).ownsRow X.heap.size e size (.slice (some ⟨X.heap.size, 0, none⟩) 0 0) 0 [] := ⟨by simp, .inr ⟨X.heap.size, 0, #[], rfl, Nat.le_refl _, alloc_blk_new, Nat.le_refl _, by unfold maxLen; omega, by simp, by simp⟩⟩
  have key : ∀ (W : World) (k : Nat), Below X.heap.size X W → ∀ q u, (xs.drop k)[q]? = some u → W.cell? ⟨nb, k + q, none⟩ = some u := fun W k hW q u hq => by
    rw [List.getElem?_drop] at hq
    exact Below.cell' hW (World.block_lt_of_cell? _ _ (hcell _ _ hq)) (hcell _ _ hq)
  obtain ⟨a1, c1, W1, A1', B1⟩ := appS E o0 (some ⟨nb, 0, none⟩) j nc (xs.take (j * size)) (fun e => by cases e) (by rw [List.length_take]; omega) (fun ad e q u hq => by
    cases e
    rw [List.getElem?_take] at hq
    split at hq
    · rw [addr_add]
      exact key _ 0 b0 q u (by simpa using hq)
    · cases hq) (fun u hu => h1 u (List.mem_of_mem_take hu)) (by omega) hb b0.size
  have bb1 : Below X.heap.size X W1 := b0.trans B1
  have o1 := A1'.own
  have rr1 := A1'.run
  rw [Nat.zero_add, List.nil_append] at o1
  rw [Nat.zero_add] at rr1
  obtain ⟨A2, hA2, hrow⟩ : ∃ A2, A2 = (if nc = j + 1 then (some ⟨nb, 0, none⟩ : Option Addr) else (some ⟨nb, 0, none⟩ : Option Addr).map (·.add ((j + 1) * size))) ∧ ∀ ad, A2 = some ad → ∀ (q : Nat) u, (xs.drop ((j + 1) * size))[q]? = some u → W1.cell? (ad.add q) = some u := by
    refine ⟨_, rfl, fun ad had q u hq => ?_⟩
    split at had
    · rename_i hc
      have : xs.length ≤ (j + 1) * size := by rw [hxl]; exact Nat.mul_le_mul_right _ (by omega)
      rw [List.getElem?_drop, List.getElem?_eq_none (by omega)] at hq
      cases hq
    · simp only [Option.map_some, Option.some.injEq] at had
      subst had
      rw [addr_add, addr_add, Nat.zero_add]
      exact key W1 _ bb1 q u hq
  obtain ⟨a2, c2, W2, A2', B2⟩ := appS E o1 A2 (n - (j + 1)) (nc - (j + 1)) (xs.drop ((j + 1) * size)) (fun e => by rw [hA2] at e; split at e <;> cases e) (by rw [List.length_drop, hxl, Nat.sub_mul]) hrow (fun u hu => h1 u (List.mem_of_mem_drop hu)) (by omega) hb bb1.size
  have o2 := A2'.own
  have rr2 := A2'.run
  rw [show j + (n - (j + 1)) = n - 1 by omega] at o2 rr2
  refine ⟨some ⟨nb, 0, none⟩, A2, a1, c1, W1, a2, c2, W2, fun W => ?_, fun W => ?_, rr1, rr2, b0, bb1, bb1.trans B2, own_mn o2 hz⟩
  · rw [sl_upto2 E.under hs _ n nc j (by omega)]
    by_cases hc0 : nc = 0
    · rw [if_pos hc0]
    · rw [if_neg hc0]; simp [addr_add]
  · rw [show (j : Int) + 1 = ((j + 1 : Nat) : Int) by omega, sl_from2 E.under hs _ n nc (j + 1) (by omega), hA2]
theorem sizeU32 (W : World) : (sizeOf 23).run Try.prog W = .ok 1 W := by kernel_rfl
theorem sizeSy (W : World) : (sizeOf 25).run Try.prog W = .ok 3 W := by kernel_rfl
theorem nmV_cut (N : List Ent) (j : Nat) : (nmV N).take (j * 1) ++ (nmV N).drop ((j + 1) * 1) = nmV (cutN N j) := by
  unfold nmV cutN
  rw [Nat.mul_one, Nat.mul_one, List.map_append, List.map_take, List.map_drop]
theorem syV_take (N : List Ent) (j : Nat) : (syV N).take (j * 3) = syV (N.take j) := by
  induction N generalizing j with
  | nil => simp [syV]
  | cons p N ih =>
    cases j with
    | zero => simp [syV]
    | succ j =>
      have e2 : ∀ M, syV (p :: M) = syL p.2 ++ syV M := fun M => by simp [syV]
      rw [List.take_succ_cons, e2, e2, ← ih j, show (j + 1) * 3 = j * 3 + 3 by omega]
      rfl
theorem syV_drop (N : List Ent) (j : Nat) : (syV N).drop (j * 3) = syV (N.drop j) := by
  induction N generalizing j with
  | nil => simp [syV]
  | cons p N ih =>
    cases j with
    | zero => simp
    | succ j =>
      have e2 : ∀ M, syV (p :: M) = syL p.2 ++ syV M := fun M => by simp [syV]
      rw [List.drop_succ_cons, e2, ← ih j, show (j + 1) * 3 = j * 3 + 3 by omega]
      rfl
theorem syV_cut (N : List Ent) (j : Nat) : (syV N).take (j * 3) ++ (syV N).drop ((j + 1) * 3) = syV (cutN N j) := by
  rw [syV_take, syV_drop]
  unfold cutN syV
  rw [List.flatMap_append]
theorem nmV_one (N : List Ent) : ∀ u ∈ nmV N, u.oneCell' = true := fun u hu => by
  obtain ⟨p, _, rfl⟩ := List.mem_map.1 hu
  rfl
theorem syV_one (N : List Ent) : ∀ u ∈ syV N, u.oneCell' = true := fun u hu => by
  unfold syV at hu
  obtain ⟨p, _, h⟩ := List.mem_flatMap.1 hu
  simp [syL] at h
  rcases h with rfl | rfl | rfl <;> rfl
theorem sy_cells {X : World} {N0 : Nat} {N : List Ent} {sa : Option Addr} {sc j : Nat} (h : X.ownsRow N0 25 3 (.slice sa N.length sc) N.length (syV N)) (hj : j < N.length) :
    ∃ sb cp, (Value.slice sa N.length sc) = .slice (some ⟨sb, 0, none⟩) N.length cp ∧ ∀ q, q < N.length → X.cell? ⟨sb, q * 3, none⟩ = some (.int .u64 (sN N q).T) ∧ X.cell? ⟨sb, q * 3 + 1, none⟩ = some (.int .u32 (sN N q).S) ∧ X.cell? ⟨sb, q * 3 + 2, none⟩ = some (.int .u32 (sN N q).R) := by
  rcases h.2 with ⟨_, h0⟩ | ⟨g, cp, cur, h1, _⟩
  · omega
  · have h2 := h
    rw [h1] at h2
    have hc : ∀ t u, (syV N)[t]? = some u → X.cell? ⟨g, t, none⟩ = some u := fun t u ht => by
      have := h2.cells rfl t u ht
      rw [addr_add, Nat.zero_add] at this
      exact this
    exact ⟨g, cp, h1, fun q hq => ⟨hc _ _ (syV_get N q hq).1, hc _ _ (syV_get N q hq).2.1, hc _ _ (syV_get N q hq).2.2⟩⟩
end Go.Proofs.Ytkdjkaimcciemaa
