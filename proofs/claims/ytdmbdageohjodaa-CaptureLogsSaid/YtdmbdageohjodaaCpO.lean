/-
  Chapter 45: chosen records, as a slice of records.
-/
import Derived.Test.YtdmbdageohjodaaCpM
namespace Go.Proofs.Ytdmbdageohjodaa
open Go.RowKit
set_option linter.unusedVariables false
set_option linter.unusedSimpArgs false

theorem rowL_len (L : List Rcd) : (rowL L).length = L.length * 5 := by
  induction L with
  | nil => rfl
  | cons r L ih => show (rcV r ++ rowL L).length = _; rw [List.length_append, ih]; simp [rcV]; omega
theorem rowL_get (L : List Rcd) (i j : Nat) (hi : i < L.length) (hj : j < 5) : (rowL L)[i * 5 + j]? = some ((L.getD i default).cell j) := by
  induction L generalizing i with
  | nil => simp at hi
  | cons r L ih =>
    show (rcV r ++ rowL L)[i * 5 + j]? = _
    cases i with
    | zero =>
      rw [List.getElem?_append_left (by simp [rcV]; omega)]
      rcases (by omega : j = 0 ∨ j = 1 ∨ j = 2 ∨ j = 3 ∨ j = 4) with rfl | rfl | rfl | rfl | rfl <;> rfl
    | succ i =>
      have h5 : (rcV r).length = 5 := rfl
      rw [List.getElem?_append_right (by omega), h5, show (i + 1) * 5 + j - 5 = i * 5 + j by omega, ih i (by simpa using hi)]
      rfl
theorem sel_rcds {base : Nat} {a : Option Addr} {c : Nat} {w : World} {L : List Rcd} (h : w.ownsRow base 72 5 (.slice a L.length c) L.length (rowL L)) (hn : L.length ≤ 10000) (ok : ∀ i, i < L.length → RcdOk w.heap.size w (L.getD i default)) : Rcds w.heap.size w a L.length c (fun i => L.getD i default) := by
  have hlt := h.lt
  have hcell := fun g => h.cells (g := g)
  obtain ⟨h3, h4⟩ := h
  rcases h4 with ⟨hv, h0⟩ | ⟨g, cap, cur, hv, hg, hh, hn2, hcap, hsz, _⟩
  · injection hv with e1 e2 e3
    subst e1 e3
    exact ⟨by omega, by omega, fun i hi => by omega, 0, 0, fun h => by omega, fun i hi => by omega⟩
  · injection hv with e1 e2 e3
    subst e1 e3
    refine ⟨hn2, by unfold maxLen at hcap; omega, ok, g, 0, fun _ => ⟨rfl, (hlt g rfl).2⟩, fun i hi j hj => ?_⟩
    have := hcell g rfl (i * 5 + j) _ (rowL_get L i j hi hj)
    rw [addr_add] at this
    rw [← this]
    congr 1
    simp [Nat.add_assoc]
end Go.Proofs.Ytdmbdageohjodaa
