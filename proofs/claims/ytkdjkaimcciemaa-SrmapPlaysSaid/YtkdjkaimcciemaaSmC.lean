/-
  Chapter 38: the reference compares reports; a book as a list.
-/
import Derived.Test.YtkdjkaimcciemaaSmB
import Derived.Test.YtkdjkaimcciemaaApp
import Derived.Deep.LoopGhost
namespace Go.Proofs.Ytkdjkaimcciemaa
open Go.RowKit
set_option linter.unusedVariables false
set_option linter.unusedSimpArgs false
attribute [local irreducible] wpStill wpQuiet MixC.wpMix
attribute [local go_sem] MixC.rdOp MixC.rd MixC.rdUpon MixC.mvUpon

set_option maxRecDepth 100000 in
set_option maxHeartbeats 4000000 in
theorem rsame11_true (kd so ti st pk : Int) (w : World) :
    Calls Try.prog 24 #[.agg (ctV kd so ti st pk), .agg (ctV kd so ti st pk)] w fun e w' => e = .returned (.bool true) ∧ Below w.heap.size w w' := by
  unfold ctV
  go_enter Try.func24, Try.ntmps24
  go_upto_region 1 with (fail)
  obtain ⟨W0, hW0⟩ : ∃ W0, (w.alloc (.cells (ctV kd so ti st pk) 47)).alloc (.cells (ctV kd so ti st pk) 47) = W0 := ⟨_, rfl⟩
  obtain ⟨g, hg⟩ : ∃ g, w.heap.size = g := ⟨_, rfl⟩
  change Code.wp _ _ _ _ ((w.alloc (.cells (ctV kd so ti st pk) 47)).alloc (.cells (ctV kd so ti st pk) 47))
  have K4 : W0.heap[g]? = some (.cells (ctV kd so ti st pk) 47 (0, 0)) := by
    rw [← hW0, ← hg, alloc_blk_old (by simp [World.size_alloc])]
    exact alloc_blk_new
  have K6 : W0.heap[g + 1]? = some (.cells (ctV kd so ti st pk) 47 (0, 0)) := by
    rw [← hW0, ← hg]
    have := alloc_blk_new (w := w.alloc (.cells (ctV kd so ti st pk) 47)) (o := .cells (ctV kd so ti st pk) 47)
    rw [World.size_alloc] at this
    exact this
  have b0 : Below w.heap.size w W0 := by rw [← hW0]; exact ((Below.refl _ _).alloc (Nat.le_refl _) _).alloc (by simp [World.size_alloc]) _
  rw [hW0, hg]
  have B0 := Lib.hid b0
  clear b0 hW0 hg
  obtain ⟨f0, f1, f2, f3, f4, f5, f6, f7, f8, f9, f10, f11, f12⟩ := CtF.mk' K4
  obtain ⟨k0, k1, k2, k3, k4, k5, k6, k7, k8, k9, k10, k11, k12⟩ := CtF.mk' K6
  clear K4 K6
  go_wp2_with fail
  go_loopw [5] (fun s wr => s = .int .i64 0 ∧ Hid (W0 = wr)) (fun _ _ => 0)
  case atStart => exact ⟨rfl, Lib.hid rfl⟩
  obtain ⟨rfl, HW⟩ := hrel
  have hw := HW.out
  subst hw
  clear HW
  go_wp2_with fail
  go_loopw [6] (fun s wr => s = .int .i64 0 ∧ Hid (W0 = wr)) (fun _ _ => 0)
  case atStart => exact ⟨rfl, Lib.hid rfl⟩
  obtain ⟨rfl, HW⟩ := hrel
  have hw := HW.out
  subst hw
  clear HW
  go_wp2_with fail
  go_loopw [7] (fun s wr => s = .int .i64 0 ∧ Hid (W0 = wr)) (fun _ _ => 0)
  case atStart => exact ⟨rfl, Lib.hid rfl⟩
  obtain ⟨rfl, HW⟩ := hrel
  have hw := HW.out
  subst hw
  clear HW
  go_wp2_with fail
  go_loopw [8] (fun s wr => s = .int .i64 0 ∧ Hid (W0 = wr)) (fun _ _ => 0)
  case atStart => exact ⟨rfl, Lib.hid rfl⟩
  obtain ⟨rfl, HW⟩ := hrel
  have hw := HW.out
  subst hw
  clear HW
  go_wp2_with fail
  go_loopw [9] (fun s wr => s = .int .i64 0 ∧ Hid (W0 = wr)) (fun _ _ => 0)
  case atStart => exact ⟨rfl, Lib.hid rfl⟩
  obtain ⟨rfl, HW⟩ := hrel
  have hw := HW.out
  subst hw
  clear HW
  go_wp2_with fail
  go_ret
  exact ⟨rfl, B0.out⟩
/-! ### A book as a list -/
abbrev Ent := Int × Sy
def kN (N : List Ent) (j : Nat) : Int := (N.getD j (0, ⟨0, 0, 0⟩)).1
def sN (N : List Ent) (j : Nat) : Sy := (N.getD j (0, ⟨0, 0, 0⟩)).2
/-- a list tells what a book holds -/
structure Rel (N : List Ent) (f : Int → Option Sy) : Prop where
  has : ∀ j, j < N.length → f (kN N j) = some (sN N j)
  all : ∀ x s, f x = some s → ∃ j, j < N.length ∧ kN N j = x
  uni : ∀ i j, i < N.length → j < N.length → kN N i = kN N j → i = j
/-- where a key stands among the first k, or -1 -/
def AtN (N : List Ent) (x : Int) (k : Nat) (r : Int) : Prop := (∃ j : Nat, j < k ∧ kN N j = x ∧ r = j) ∨ (r = -1 ∧ ∀ j, j < k → kN N j ≠ x)
theorem AtN.zero (N : List Ent) (x : Int) : AtN N x 0 (-1) := .inr ⟨rfl, fun j hj => by omega⟩
theorem AtN.hit (N : List Ent) (x : Int) (k : Nat) (h : kN N k = x) : AtN N x (k + 1) (k : Int) := .inl ⟨k, by omega, h, rfl⟩
theorem AtN.miss {N : List Ent} {x : Int} {k : Nat} {r : Int} (hr : AtN N x k r) (h : kN N k ≠ x) : AtN N x (k + 1) r := by
  rcases hr with ⟨j, h1, h2, h3⟩ | ⟨h1, h2⟩
  · exact .inl ⟨j, by omega, h2, h3⟩
  · exact .inr ⟨h1, fun j hj => by
      rcases Nat.lt_or_ge j k with c | c
      · exact h2 j c
      · rw [show j = k by omega]; exact h⟩
theorem AtN.none {N : List Ent} {f : Int → Option Sy} {x : Int} (h : Rel N f) (hr : AtN N x N.length (-1)) : f x = none := by
  rcases hr with ⟨j, h1, h2, h3⟩ | ⟨_, h2⟩
  · omega
  · cases hf : f x with
    | none => rfl
    | some s =>
      obtain ⟨j, h3, h4⟩ := h.all x s hf
      exact absurd h4 (h2 j h3)
theorem AtN.some {N : List Ent} {f : Int → Option Sy} {x : Int} {j : Nat} (h : Rel N f) (hr : AtN N x N.length (j : Int)) : j < N.length ∧ kN N j = x ∧ f x = some (sN N j) := by
  rcases hr with ⟨j', h1, h2, h3⟩ | ⟨h1, _⟩
  · obtain rfl : j = j' := by omega
    exact ⟨h1, h2, by rw [← h2]; exact h.has j h1⟩
  · omega
theorem kN_app {N : List Ent} {p : Ent} {j : Nat} (h : j < N.length) : kN (N ++ [p]) j = kN N j ∧ sN (N ++ [p]) j = sN N j := by
  unfold kN sN
  rw [List.getD_eq_getElem?_getD, List.getD_eq_getElem?_getD, List.getElem?_append_left h]
  exact ⟨rfl, rfl⟩
theorem kN_new (N : List Ent) (p : Ent) : kN (N ++ [p]) N.length = p.1 ∧ sN (N ++ [p]) N.length = p.2 := by
  unfold kN sN
  rw [List.getD_eq_getElem?_getD, List.getElem?_append_right (Nat.le_refl _), Nat.sub_self]
  exact ⟨rfl, rfl⟩
theorem Rel.add {N : List Ent} {f : Int → Option Sy} {x : Int} {s : Sy} (h : Rel N f) (hn : f x = none) : Rel (N ++ [(x, s)]) (updS f x (some s)) := by
  have hne : ∀ j, j < N.length → kN N j ≠ x := fun j hj e => by have := h.has j hj; rw [e, hn] at this; cases this
  refine ⟨fun j hj => ?_, fun y t hy => ?_, fun i j hi hj he => ?_⟩
  · rw [List.length_append, List.length_singleton] at hj
    rcases Nat.lt_or_ge j N.length with c | c
    · rw [(kN_app c).1, (kN_app c).2]
      unfold updS
      rw [if_neg (hne j c)]
      exact h.has j c
    · obtain rfl : j = N.length := by omega
      rw [(kN_new N _).1, (kN_new N _).2]
      unfold updS
      rw [if_pos rfl]
  · unfold updS at hy
    by_cases e : y = x
    · exact ⟨N.length, by simp, by rw [(kN_new N _).1, e]⟩
    · rw [if_neg e] at hy
      obtain ⟨j, h1, h2⟩ := h.all y t hy
      exact ⟨j, by rw [List.length_append]; omega, by rw [(kN_app h1).1]; exact h2⟩
  · rw [List.length_append, List.length_singleton] at hi hj
    rcases Nat.lt_or_ge i N.length with ci | ci
    · rcases Nat.lt_or_ge j N.length with cj | cj
      · rw [(kN_app ci).1, (kN_app cj).1] at he; exact h.uni i j ci cj he
      · obtain rfl : j = N.length := by omega
        rw [(kN_app ci).1, (kN_new N _).1] at he
        exact absurd he (hne i ci)
    · obtain rfl : i = N.length := by omega
      rcases Nat.lt_or_ge j N.length with cj | cj
      · rw [(kN_app cj).1, (kN_new N _).1] at he
        exact absurd he.symm (hne j cj)
      · omega
theorem kN_set {N : List Ent} {j : Nat} {p : Ent} (h : j < N.length) (i : Nat) : kN (N.set j p) i = (if i = j then p.1 else kN N i) ∧ sN (N.set j p) i = (if i = j then p.2 else sN N i) := by
  unfold kN sN
  rw [List.getD_eq_getElem?_getD, List.getD_eq_getElem?_getD, List.getElem?_set]
  by_cases e : j = i
  · subst e; rw [if_pos rfl, if_pos h, if_pos rfl, if_pos rfl]; exact ⟨rfl, rfl⟩
  · rw [if_neg e, if_neg (fun h => e h.symm), if_neg (fun h => e h.symm)]; exact ⟨rfl, rfl⟩
theorem Rel.put {N : List Ent} {f : Int → Option Sy} {j : Nat} {s : Sy} (h : Rel N f) (hj : j < N.length) : Rel (N.set j (kN N j, s)) (updS f (kN N j) (some s)) := by
  have hk : ∀ i, kN (N.set j (kN N j, s)) i = kN N i := fun i => by
    rw [(kN_set hj i).1]
    by_cases e : i = j
    · rw [if_pos e, e]
    · rw [if_neg e]
  refine ⟨fun i hi => ?_, fun y t hy => ?_, fun a b ha hb he => ?_⟩
  · rw [List.length_set] at hi
    rw [hk, (kN_set hj i).2]
    unfold updS
    by_cases e : i = j
    · subst e; rw [if_pos rfl, if_pos rfl]
    · rw [if_neg e, if_neg (fun e' => e (h.uni i j hi hj e'))]; exact h.has i hi
  · unfold updS at hy
    by_cases e : y = kN N j
    · exact ⟨j, by rw [List.length_set]; exact hj, by rw [hk, e]⟩
    · rw [if_neg e] at hy
      obtain ⟨i, h1, h2⟩ := h.all y t hy
      exact ⟨i, by rw [List.length_set]; exact h1, by rw [hk]; exact h2⟩
  · rw [List.length_set] at ha hb
    rw [hk, hk] at he
    exact h.uni a b ha hb he
def cutN (N : List Ent) (j : Nat) : List Ent := N.take j ++ N.drop (j + 1)
theorem cutN_len {N : List Ent} {j : Nat} (h : j < N.length) : (cutN N j).length = N.length - 1 := by unfold cutN; rw [List.length_append, List.length_take, List.length_drop]; omega
theorem kN_cut {N : List Ent} {j : Nat} (h : j < N.length) (i : Nat) : kN (cutN N j) i = kN N (if i < j then i else i + 1) ∧ sN (cutN N j) i = sN N (if i < j then i else i + 1) := by
  unfold kN sN cutN
  rw [List.getD_eq_getElem?_getD, List.getD_eq_getElem?_getD]
  by_cases e : i < j
  · rw [if_pos e, List.getElem?_append_left (by rw [List.length_take]; omega), List.getElem?_take, if_pos e]; exact ⟨rfl, rfl⟩
  · rw [if_neg e, List.getElem?_append_right (by rw [List.length_take]; omega), List.length_take, List.getElem?_drop, show j + 1 + (i - min j N.length) = i + 1 by omega]; exact ⟨rfl, rfl⟩
theorem Rel.cut {N : List Ent} {f : Int → Option Sy} {j : Nat} (h : Rel N f) (hj : j < N.length) : Rel (cutN N j) (updS f (kN N j) none) := by
  have hl := cutN_len hj
  refine ⟨fun i hi => ?_, fun y t hy => ?_, fun a b ha hb he => ?_⟩
  · rw [(kN_cut hj i).1, (kN_cut hj i).2]
    have hi' : (if i < j then i else i + 1) < N.length ∧ (if i < j then i else i + 1) ≠ j := by split <;> omega
    unfold updS
    rw [if_neg (fun e => hi'.2 (h.uni _ _ hi'.1 hj e))]
    exact h.has _ hi'.1
  · unfold updS at hy
    by_cases e : y = kN N j
    · rw [if_pos e] at hy; cases hy
    · rw [if_neg e] at hy
      obtain ⟨i, h1, h2⟩ := h.all y t hy
      have hij : i ≠ j := fun e' => e (by rw [← h2, e'])
      by_cases c : i < j
      · exact ⟨i, by omega, by rw [(kN_cut hj i).1, if_pos c]; exact h2⟩
      · exact ⟨i - 1, by omega, by rw [(kN_cut hj (i - 1)).1, if_neg (by omega), show i - 1 + 1 = i by omega]; exact h2⟩
  · rw [(kN_cut hj a).1, (kN_cut hj b).1] at he
    have := h.uni _ _ (by split <;> omega) (by split <;> omega) he
    split at this <;> split at this <;> omega
end Go.Proofs.Ytkdjkaimcciemaa
