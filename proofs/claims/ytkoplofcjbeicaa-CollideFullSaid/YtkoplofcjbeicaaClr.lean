/-
  The built-in clear over elements of several cells; slices from and up to a place.
-/
import Derived.Test.YtkoplofcjbeicaaRange
import Derived.Lib.SliceRun
namespace Go.Proofs.Ytkoplofcjbeicaa
open Go.RowKit
set_option linter.unusedVariables false
set_option linter.unusedSimpArgs false

theorem setC_blk {b : Nat} {T : TypeId} {m : Nat × Nat} : ∀ (l : List Value) (k : Nat) (w : World) (cs : Array Value), w.heap[b]? = some (.cells cs T m) →
    ∃ cs' : Array Value, (w.setCells b k l).heap[b]? = some (.cells cs' T m) ∧ cs'.size = cs.size ∧ ∀ x, x < k → cs'[x]? = cs[x]?
  | [], k, w, cs, h => ⟨cs, h, rfl, fun _ _ => rfl⟩
  | v :: l, k, w, cs, h => by
    obtain ⟨cs', h1, h2, h3⟩ := setC_blk (b := b) l (k + 1) (w.setCell ⟨b, k, none⟩ v) _ (set_blk v h)
    refine ⟨cs', h1, by rw [h2]; simp, fun x hx => ?_⟩
    rw [h3 x (by omega), Array.getElem?_setIfInBounds, if_neg (by omega)]
theorem setC_but (b : Nat) : ∀ (l : List Value) (k : Nat) (w u : World), But (some b) u w → But (some b) u (w.setCells b k l)
  | [], k, w, u, h => h
  | v :: l, k, w, u, h => setC_but b l (k + 1) (w.setCell ⟨b, k, none⟩ v) u (h.set k v)
theorem sl_from {P : Program} {t e : TypeId} {s : Nat} (hu : P.underlying t = some (.slice e)) (hs : ∀ W, (sizeOf e).run P W = .ok s W) (a : Option Addr) (n c k : Nat) (hk : k ≤ n) (W : World) :
    (Instr.slice t (.slice a n c) (some (.int .i64 k)) none none).run P W = .ok (.slice (if c = k then a else a.map (·.add (k * s))) (n - k) (c - k)) W := by
  have he : P.elem t = e := by unfold Program.elem; rw [hu]
  rw [run_slice_l W t a n c (by rw [hu, he]) .i64 k (by omega) (by omega), he, hs]
  simp [sliced]
theorem sl_upto {P : Program} {t e : TypeId} {s : Nat} (hu : P.underlying t = some (.slice e)) (hs : ∀ W, (sizeOf e).run P W = .ok s W) (a : Option Addr) (n c k : Nat) (hk : k ≤ c) (W : World) :
    (Instr.slice t (.slice a n c) none (some (.int .i64 k)) none).run P W = .ok (.slice (if c = 0 then a else a.map (·.add (0 * s))) k c) W := by
  have he : P.elem t = e := by unfold Program.elem; rw [hu]
  rw [run_slice_h W t a n c (by rw [hu, he]) .i64 k (by omega) (by omega), he, hs]
  simp [sliced]
/-- 'clear(s)', s of n > 0 elements of any number of cells -/
theorem run_clear_wide {P : Program} (t e : TypeId) (z : Value) (ht : P.underlying t = some (.slice e)) (hv : ∀ w, (zeroValue e).run P w = .ok z w) (h0 : 0 < z.cells.size) (h1 : ∀ i, i < z.cells.size → z.cells[i]!.oneCell' = true) (b o n c : Nat) (hn : 0 < n) :
    ∃ zs : List Value, zs.length = n * z.cells.size ∧ ∀ w : World, (∀ j, j < n * z.cells.size → (w.cell? ⟨b, o + j, none⟩).isSome = true) → (∀ j, j < n * z.cells.size → w.frozen? ⟨b, o + j, none⟩ = false) →
    ∀ ty, (Builtin.clear_ #[t] ty #[.slice (some ⟨b, o, none⟩) n c]).run P w = .ok (.tuple #[]) (w.setCells b o zs) := by
  refine ⟨(Builtin.zeroCells z.cells n).toList, by simp [Builtin.zeroCells], fun w hc hf ty => ?_⟩
  have hl : (Builtin.zeroCells z.cells n).toList.length = n * z.cells.size := by simp [Builtin.zeroCells]
  have hst := run_storeCells_cells (P := P) b o (Builtin.zeroCells z.cells n).toList 0 w (by rw [hl]; simpa using hc) (by rw [hl]; simpa using hf) (by
    intro v hv'
    simp only [Builtin.zeroCells, Array.toList_map, List.mem_map] at hv'
    obtain ⟨i, _, rfl⟩ := hv'
    exact h1 _ (Nat.mod_lt _ h0))
  simp only [Nat.add_zero] at hst
  obtain ⟨m, rfl⟩ : ∃ m, n = m + 1 := ⟨n - 1, by omega⟩
  simp [Builtin.clear_, run_underlying ht, hv, hst]
end Go.Proofs.Ytkoplofcjbeicaa
