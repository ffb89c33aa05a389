/-
  Chapter 32: what Without leaves (plain), and the row while slices.DeleteFunc goes over it.
-/
import Derived.Test.YtihbceippcgfgaaExL
namespace Go.Proofs.Ytihbceippcgfgaa
open Go.RowKit
set_option linter.unusedVariables false
set_option linter.unusedSimpArgs false

def El.vals (e : El) : List Value := [.int .i64 e.id, .slice e.a e.n e.c]
theorem El.vals_len (e : El) : e.vals.length = 2 := rfl
open Classical in
/-- the elements before j whose number isn't among F's -/
noncomputable def keepE (Q : Nat → El) (F : Nat → Int) (m : Nat) : Nat → List El
  | 0 => []
  | j + 1 => keepE Q F m j ++ (if InF F m (Q j).id then [] else [Q j])
theorem keepE_drop {Q : Nat → El} {F : Nat → Int} {m j : Nat} (h : InF F m (Q j).id) : keepE Q F m (j + 1) = keepE Q F m j := by
  show keepE Q F m j ++ _ = _
  rw [if_pos h, List.append_nil]
theorem keepE_take {Q : Nat → El} {F : Nat → Int} {m j : Nat} (h : ¬ InF F m (Q j).id) : keepE Q F m (j + 1) = keepE Q F m j ++ [Q j] := by
  show keepE Q F m j ++ _ = _
  rw [if_neg h]
theorem keepE_all {Q : Nat → El} {F : Nat → Int} {m j : Nat} (h : ∀ i, i < j → ¬ InF F m (Q i).id) : keepE Q F m j = (List.range j).map Q := by
  induction j with
  | zero => rfl
  | succ j ih => rw [keepE_take (h j (by omega)), ih (fun i hi => h i (by omega)), List.range_succ, List.map_append]; rfl
theorem keepE_le (Q : Nat → El) (F : Nat → Int) (m j : Nat) : (keepE Q F m j).length ≤ j := by
  induction j with
  | zero => exact Nat.le_refl _
  | succ j ih =>
    by_cases h : InF F m (Q j).id
    · rw [keepE_drop h]; omega
    · rw [keepE_take h, List.length_append, List.length_singleton]; omega
/-- the row while DeleteFunc goes over it: the kept ones of the first j in front, from j on as it was -/
structure DelR (Q : Nat → El) (F : Nat → Int) (m len i j : Nat) (xs : List Value) : Prop where
  size : xs.length = len * 2
  cnt : (keepE Q F m j).length = i
  le : i ≤ j
  front : ∀ t, t < i * 2 → xs[t]? = ((keepE Q F m j).flatMap El.vals)[t]?
  tail : ∀ t, j * 2 ≤ t → xs[t]? = (elsV Q len)[t]?
theorem flatE_len (l : List El) : (l.flatMap El.vals).length = l.length * 2 := by
  induction l with
  | nil => rfl
  | cons x l ih => rw [List.flatMap_cons, List.length_append, ih, El.vals_len, List.length_cons]; omega
theorem DelR.pass {Q : Nat → El} {F : Nat → Int} {m len i j : Nat} {xs : List Value} (h : DelR Q F m len i j xs) (hd : InF F m (Q j).id) : DelR Q F m len i (j + 1) xs :=
  ⟨h.size, by rw [keepE_drop hd]; exact h.cnt, by have := h.le; omega, fun t ht => by rw [keepE_drop hd]; exact h.front t ht, fun t ht => h.tail t (by omega)⟩
theorem DelR.move {Q : Nat → El} {F : Nat → Int} {m len i j : Nat} {xs : List Value} (h : DelR Q F m len i j xs) (hd : ¬ InF F m (Q j).id) (hj : j < len) : DelR Q F m len (i + 1) (j + 1) ((xs.set (i * 2) (.int .i64 (Q j).id)).set (i * 2 + 1) (.slice (Q j).a (Q j).n (Q j).c)) := by
  have hle := h.le
  have hl := h.size
  have hi := h.cnt
  have hf : (keepE Q F m (j + 1)).flatMap El.vals = (keepE Q F m j).flatMap El.vals ++ (Q j).vals := by rw [keepE_take hd, List.flatMap_append, List.flatMap_singleton]
  have hfl := flatE_len (keepE Q F m j)
  rw [hi] at hfl
  refine ⟨by rw [List.length_set, List.length_set]; exact hl, by rw [keepE_take hd, List.length_append, List.length_singleton, hi], by omega, fun t ht => ?_, fun t ht => ?_⟩
  · rw [hf]
    by_cases h1 : t < i * 2
    · rw [List.getElem?_set_ne (by omega), List.getElem?_set_ne (by omega), List.getElem?_append_left (by omega)]
      exact h.front t h1
    · rw [List.getElem?_append_right (by omega), hfl]
      rcases (by omega : t = i * 2 ∨ t = i * 2 + 1) with rfl | rfl
      · rw [List.getElem?_set_ne (by omega), List.getElem?_set_self (by omega), Nat.sub_self]; rfl
      · rw [List.getElem?_set_self (by rw [List.length_set]; omega), show i * 2 + 1 - i * 2 = 1 by omega]; rfl
  · rw [List.getElem?_set_ne (by omega), List.getElem?_set_ne (by omega)]
    exact h.tail t (by omega)
theorem flat_range (Q : Nat → El) (k : Nat) : ((List.range k).map Q).flatMap El.vals = elsV Q k := by
  induction k with
  | zero => rfl
  | succ k ih =>
    rw [List.range_succ, List.map_append, List.flatMap_append, ih]
    rfl
theorem elsV_left (Q : Nat → El) {k n : Nat} (h : k ≤ n) {t : Nat} (ht : t < k * 2) : (elsV Q n)[t]? = (elsV Q k)[t]? := by
  obtain ⟨i, hi, hij⟩ : ∃ i, i < k ∧ (t = i * 2 ∨ t = i * 2 + 1) := ⟨t / 2, by omega, by omega⟩
  obtain ⟨h1, h2⟩ := elsV_get Q n i (by omega)
  obtain ⟨h3, h4⟩ := elsV_get Q k i hi
  rcases hij with rfl | rfl
  · rw [h1, h3]
  · rw [h2, h4]
theorem DelR.start {Q : Nat → El} {F : Nat → Int} {m len k : Nat} (hk : k < len) (hin : InF F m (Q k).id) (hb : ∀ j, j < k → ¬ InF F m (Q j).id) : DelR Q F m len k (k + 1) (elsV Q len) := by
  have hke : keepE Q F m (k + 1) = (List.range k).map Q := by rw [keepE_drop hin, keepE_all hb]
  exact ⟨elsV_len Q len, by rw [hke]; simp, by omega, fun t ht => by rw [hke, flat_range]; exact elsV_left Q (by omega) ht, fun t _ => rfl⟩
end Go.Proofs.Ytihbceippcgfgaa
