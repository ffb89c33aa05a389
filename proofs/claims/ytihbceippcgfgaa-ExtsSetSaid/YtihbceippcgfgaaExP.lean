/-
  Chapter 32: the built-in clear over a row of elements, and what is left of the row.
-/
import Derived.Test.YtihbceippcgfgaaExM
import Derived.Lib.SliceRun
namespace Go.Proofs.Ytihbceippcgfgaa
open Go.RowKit
set_option linter.unusedVariables false
set_option linter.unusedSimpArgs false

theorem zeroEl (W : World) : (zeroValue 35).run Try.prog W = .ok (.agg #[.int .i64 0, .slice none 0 0]) W := by kernel_rfl
theorem sizeEl (W : World) : (sizeOf 35).run Try.prog W = .ok 2 W := by kernel_rfl
theorem setC_blk {b : Nat} {T : TypeId} {m : Nat × Nat} : ∀ (l : List Value) (k : Nat) (w : World) (cs : Array Value), w.heap[b]? = some (.cells cs T m) →
    ∃ cs' : Array Value, (w.setCells b k l).heap[b]? = some (.cells cs' T m) ∧ cs'.size = cs.size ∧ ∀ x, x < k → cs'[x]? = cs[x]?
  | [], k, w, cs, h => ⟨cs, h, rfl, fun _ _ => rfl⟩
  | v :: l, k, w, cs, h => by
    obtain ⟨cs', h1, h2, h3⟩ := setC_blk (b := b) l (k + 1) (w.setCell ⟨b, k, none⟩ v) _ (set_blk v h)
    refine ⟨cs', h1, by rw [h2]; simp, fun x hx => ?_⟩
    rw [h3 x (by omega), Array.getElem?_setIfInBounds, if_neg (by omega)]
theorem setC_but (b : Nat) : ∀ (l : List Value) (k : Nat) (w u : World), But (some b) u w → But (some b) u (w.setCells b k l)
  | [], k, w, u, h => h
  | v :: l, k, w, u, h => setC_but b l (k + 1) (w.setCell ⟨b, k, none⟩ v) u (h.set k v)
theorem sl_from {P : Program} {t e : TypeId} {s : Nat} (hu : P.underlying t = some (.slice e)) (hs : ∀ W, (sizeOf e).run P W = .ok s W) (a : Option Addr) (n c k : Nat) (hk : k ≤ n) (W : World) :
    (Instr.slice t (.slice a n c) (some (.int .i64 k)) none none).run P W = .ok (.slice (if c = k then a else a.map (·.add (k * s))) (n - k) (c - k)) W := by
  have he : P.elem t = e := by unfold Program.elem; rw [hu]
  rw [run_slice_l W t a n c (by rw [hu, he]) .i64 k (by omega) (by omega), he, hs]
  simp [sliced]
theorem sl_upto {P : Program} {t e : TypeId} {s : Nat} (hu : P.underlying t = some (.slice e)) (hs : ∀ W, (sizeOf e).run P W = .ok s W) (a : Option Addr) (n c k : Nat) (hk : k ≤ c) (W : World) :
    (Instr.slice t (.slice a n c) none (some (.int .i64 k)) none).run P W = .ok (.slice (if c = 0 then a else a.map (·.add (0 * s))) k c) W := by
  have he : P.elem t = e := by unfold Program.elem; rw [hu]
  rw [run_slice_h W t a n c (by rw [hu, he]) .i64 k (by omega) (by omega), he, hs]
  simp [sliced]
/-- 'clear(s)', s of n > 0 elements of any number of cells -/
theorem run_clear_wide {P : Program} (t e : TypeId) (z : Value) (ht : P.underlying t = some (.slice e)) (hv : ∀ w, (zeroValue e).run P w = .ok z w) (h0 : 0 < z.cells.size) (h1 : ∀ i, i < z.cells.size → z.cells[i]!.oneCell' = true) (b o n c : Nat) (hn : 0 < n) :
    ∃ zs : List Value, zs.length = n * z.cells.size ∧ ∀ w : World, (∀ j, j < n * z.cells.size → (w.cell? ⟨b, o + j, none⟩).isSome = true) → (∀ j, j < n * z.cells.size → w.frozen? ⟨b, o + j, none⟩ = false) →
    ∀ ty, (Builtin.clear_ #[t] ty #[.slice (some ⟨b, o, none⟩) n c]).run P w = .ok (.tuple #[]) (w.setCells b o zs) := by
  refine ⟨(Builtin.zeroCells z.cells n).toList, by simp [Builtin.zeroCells], fun w hc hf ty => ?_⟩
  have hl : (Builtin.zeroCells z.cells n).toList.length = n * z.cells.size := by simp [Builtin.zeroCells]
  have hst := run_storeCells_cells (P := P) b o (Builtin.zeroCells z.cells n).toList 0 w (by rw [hl]; simpa using hc) (by rw [hl]; simpa using hf) (by
    intro v hv'
    simp only [Builtin.zeroCells, Array.toList_map, List.mem_map] at hv'
    obtain ⟨i, _, rfl⟩ := hv'
    exact h1 _ (Nat.mod_lt _ h0))
  simp only [Nat.add_zero] at hst
  obtain ⟨m, rfl⟩ : ∃ m, n = m + 1 := ⟨n - 1, by omega⟩
  simp [Builtin.clear_, run_underlying ht, hv, hst]
/-- the row's first i elements, behind it anything -/
theorem own_front {w : World} {base b n c i s : Nat} {T : TypeId} {xs zs : List Value} (h : w.ownsRow base T s (.slice (some ⟨b, 0, none⟩) n c) n xs) (hi : i ≤ n) :
    (w.setCells b (i * s) zs).ownsRow base T s (.slice (some ⟨b, 0, none⟩) i c) i (xs.take (i * s)) := by
  obtain ⟨h1, h2⟩ := h
  have hle : i * s ≤ n * s := Nat.mul_le_mul_right _ hi
  refine ⟨by rw [List.length_take, h1]; omega, .inr ?_⟩
  rcases h2 with ⟨h2, _⟩ | ⟨g', cap', cur, hv, hg, hh, r1, r2, r3, r4⟩
  · cases h2
  · cases hv
    obtain ⟨cs', e1, e2, e3⟩ := setC_blk zs (i * s) w cur hh
    refine ⟨b, c, cs', rfl, hg, e1, by omega, r2, by omega, ?_⟩
    rw [← r4, List.take_take, Nat.min_eq_left hle]
    apply List.ext_getElem?
    intro j
    rw [List.getElem?_take, List.getElem?_take]
    split
    · have := e3 j (by assumption)
      simpa using this
    · rfl
theorem own_cells_some {w : World} {base b n c s : Nat} {T : TypeId} {xs : List Value} (h : w.ownsRow base T s (.slice (some ⟨b, 0, none⟩) n c) n xs) (j : Nat) (hj : j < n * s) : (w.cell? ⟨b, j, none⟩).isSome = true ∧ w.frozen? ⟨b, j, none⟩ = false := by
  obtain ⟨h1, h2⟩ := h
  rcases h2 with ⟨h2, _⟩ | ⟨g', cap', cur, hv, hg, hh, r1, r2, r3, r4⟩
  · cases h2
  · cases hv
    have : n * s ≤ c * s := Nat.mul_le_mul_right _ r1
    refine ⟨?_, free_blk hh⟩
    rw [cell_blk hh, Array.getElem?_eq_getElem (by omega)]
    rfl
theorem DelR.done {Q : Nat → El} {F : Nat → Int} {m len i : Nat} {xs : List Value} (h : DelR Q F m len i len xs) : (keepE Q F m len).length = i ∧ xs.take (i * 2) = (keepE Q F m len).flatMap El.vals := by
  refine ⟨h.cnt, ?_⟩
  have hf := flatE_len (keepE Q F m len)
  rw [h.cnt] at hf
  apply List.ext_getElem?
  intro t
  rw [List.getElem?_take]
  split
  · exact h.front t (by assumption)
  · rw [List.getElem?_eq_none (by omega)]
end Go.Proofs.Ytihbceippcgfgaa
