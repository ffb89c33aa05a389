/-
  Chapter 20: the reference's keeper: a place's turn (Tries, Next).
-/
import Derived.Test.YtdmbdageohjodaaLt2
namespace Go.Proofs.Ytdmbdageohjodaa
open Go.RowKit
set_option linter.unusedVariables false
set_option linter.unusedSimpArgs false

theorem vsI_set (L : List Int) (x : Nat) (v : Int) : vsI (L.set x v) = (vsI L).set x (.int .i64 v) := by unfold vsI; rw [List.map_set]
theorem own_frz {w : World} {base : Nat} {e : TypeId} {size : Nat} {b n c : Nat} {xs : List Value} (h : w.ownsRow base e size (.slice (some ⟨b, 0, none⟩) n c) n xs) : (∃ cs, w.heap[b]? = some (.cells cs e (0, 0))) ∧ ∀ i, w.frozen? ⟨b, i, none⟩ = false := by
  rcases h.2 with ⟨hv, _⟩ | ⟨g, cap, cur, hv, hg, hh, _⟩
  · cases hv
  · injection hv with e1 _ _
    cases e1
    exact ⟨⟨_, hh⟩, fun i => free_blk hh⟩
/-- what a place holds, with the keeper's cells -/
theorem RK.get {B g : Nat} {pause high : Int} {L : List Mis} {w : World} (h : RK B g pause high L w) {x : Nat} (hx : x < L.length) :
    ∃ bI cI bN cN bT cT, (w.cell? ⟨g, 2, none⟩ = some (.slice (some ⟨bI, 0, none⟩) L.length cI) ∧ w.cell? ⟨g, 3, none⟩ = some (.slice (some ⟨bT, 0, none⟩) L.length cT) ∧ w.cell? ⟨g, 4, none⟩ = some (.slice (some ⟨bN, 0, none⟩) L.length cN)) ∧
      (w.cell? ⟨bI, x, none⟩ = some (.int .i64 (L[x]'hx).i) ∧ w.cell? ⟨bN, x, none⟩ = some (.int .i64 (L[x]'hx).nx) ∧ w.cell? ⟨bT, x, none⟩ = some (.int .i64 (L[x]'hx).tr)) ∧ (w.frozen? ⟨bN, x, none⟩ = false ∧ w.frozen? ⟨bT, x, none⟩ = false) ∧
      (∀ v, RK B g pause high (L.set x ⟨(L[x]'hx).i, v, (L[x]'hx).nx⟩) (w.setCell ⟨bT, x, none⟩ (.int .i64 v)) ∧ Below B w (w.setCell ⟨bT, x, none⟩ (.int .i64 v)) ∧ Ty rTs w (w.setCell ⟨bT, x, none⟩ (.int .i64 v))) ∧
      (∀ v, RK B g pause high (L.set x ⟨(L[x]'hx).i, (L[x]'hx).tr, v⟩) (w.setCell ⟨bN, x, none⟩ (.int .i64 v)) ∧ Below B w (w.setCell ⟨bN, x, none⟩ (.int .i64 v)) ∧ Ty rTs w (w.setCell ⟨bN, x, none⟩ (.int .i64 v))) := by
  obtain ⟨gB, aI, cI, aN, cN, aT, cT, hg, hr⟩ := h
  obtain ⟨bI, bN, bT, ⟨rfl, rfl, rfl⟩, ⟨l1, l2, l3⟩, e1, e2, e3⟩ := hr.get hx
  have hI := hr.hI
  have hN := hr.hN
  have hT := hr.hT
  have ap := hr.ap
  rw [List.length_map] at hI hN hT
  obtain ⟨⟨csN, kN⟩, fN⟩ := own_frz hN
  obtain ⟨⟨csT, kT⟩, fT⟩ := own_frz hT
  refine ⟨bI, cI, bN, cN, bT, cT, ⟨by rw [cell_blk hg]; rfl, by rw [cell_blk hg]; rfl, by rw [cell_blk hg]; rfl⟩, ⟨e1, e2, e3⟩, ⟨fN x, fT x⟩, fun v => ?_, fun v => ?_⟩
  · have bt : But (some bT) w (w.setCell ⟨bT, x, none⟩ (.int .i64 v)) := (But.refl _ w).set x _
    refine ⟨⟨gB, some ⟨bI, 0, none⟩, cI, some ⟨bN, 0, none⟩, cN, some ⟨bT, 0, none⟩, cT, ?_, ?_⟩, (Below.refl B w).setCell l3.1 _, Ty.set kT (by decide) _⟩
    · rw [List.length_set]
      exact bt.blk hg (fun e => by
        cases e
        rw [hg] at kT
        injection kT with kT
        injection kT with _ kT
        exact absurd kT (by decide))
    · have hi2 : (L.set x ⟨(L[x]'hx).i, v, (L[x]'hx).nx⟩).map (·.i) = L.map (·.i) := by
        rw [List.map_set]
        refine List.ext_getElem? (fun j => ?_)
        rw [List.getElem?_set]
        split
        · rename_i hj; subst hj
          simp [hx]
        · rfl
      have hn2 : (L.set x ⟨(L[x]'hx).i, v, (L[x]'hx).nx⟩).map (·.nx) = L.map (·.nx) := by
        rw [List.map_set]
        refine List.ext_getElem? (fun j => ?_)
        rw [List.getElem?_set]
        split
        · rename_i hj; subst hj
          simp [hx]
        · rfl
      rw [hi2, hn2, List.length_set, List.map_set]
      have kB : ∀ k, (some bT) = some k → ∃ cs m, w.heap[k]? = some (.cells cs 3 m) := fun k e => by cases e; exact ⟨_, _, kT⟩
      refine ⟨own_but hr.hI bt (own_typ hr.hI kB (by decide)), own_but hr.hN bt (own_typ hr.hN kB (by decide)), ?_, ap⟩
      rw [vsI_set, List.length_set, List.length_map]
      exact own_set hT (by rw [vsI_len, List.length_map]; exact hx) _
  · have bt : But (some bN) w (w.setCell ⟨bN, x, none⟩ (.int .i64 v)) := (But.refl _ w).set x _
    refine ⟨⟨gB, some ⟨bI, 0, none⟩, cI, some ⟨bN, 0, none⟩, cN, some ⟨bT, 0, none⟩, cT, ?_, ?_⟩, (Below.refl B w).setCell l2.1 _, Ty.set kN (by decide) _⟩
    · rw [List.length_set]
      exact bt.blk hg (fun e => by
        cases e
        rw [hg] at kN
        injection kN with kN
        injection kN with _ kN
        exact absurd kN (by decide))
    · have hi2 : (L.set x ⟨(L[x]'hx).i, (L[x]'hx).tr, v⟩).map (·.i) = L.map (·.i) := by
        rw [List.map_set]
        refine List.ext_getElem? (fun j => ?_)
        rw [List.getElem?_set]
        split
        · rename_i hj; subst hj
          simp [hx]
        · rfl
      have hn2 : (L.set x ⟨(L[x]'hx).i, (L[x]'hx).tr, v⟩).map (·.tr) = L.map (·.tr) := by
        rw [List.map_set]
        refine List.ext_getElem? (fun j => ?_)
        rw [List.getElem?_set]
        split
        · rename_i hj; subst hj
          simp [hx]
        · rfl
      rw [hi2, hn2, List.length_set, List.map_set]
      have kB : ∀ k, (some bN) = some k → ∃ cs m, w.heap[k]? = some (.cells cs 2 m) := fun k e => by cases e; exact ⟨_, _, kN⟩
      refine ⟨own_but hr.hI bt (fun k e1 e2 => by injection e2 with e2; subst e2; exact ap _ e1 rfl), ?_, own_but hr.hT bt (own_typ hr.hT kB (by decide)), ap⟩
      · rw [vsI_set, List.length_set, List.length_map]
        exact own_set hN (by rw [vsI_len, List.length_map]; exact hx) _
end Go.Proofs.Ytdmbdageohjodaa
