/-
  Chapter 20: asking, plain: who is due, who is asked for; the pairs that were handed over.
-/
import Derived.Test.YtdmbdageohjodaaLsG
namespace Go.Proofs.Ytdmbdageohjodaa
open Go.RowKit
set_option linter.unusedVariables false
set_option linter.unusedSimpArgs false

def seqI (i : Int) : Int := i % 65536
def upM (tick pause : Int) (m : Mis) : Mis := ⟨m.i, m.tr + 1, tick + pause⟩
/-- what an asking makes of the list, and whom it asks for -/
def askM (tick pause : Int) : List Int → List Mis → List Mis × List Int
  | l, [] => ([], l)
  | l, m :: M => if tick < m.nx then (m :: (askM tick pause l M).1, (askM tick pause l M).2) else if 16 < (lossL (l ++ [seqI m.i])).length then (m :: M, l) else (upM tick pause m :: (askM tick pause (l ++ [seqI m.i]) M).1, (askM tick pause (l ++ [seqI m.i]) M).2)
def isDue (tick : Int) : Nat × Mis → Bool := fun x => !decide (tick < x.2.nx)
def dueL (tick : Int) (M : List (Nat × Mis)) : List (Nat × Mis) := M.filter (isDue tick)
def seqsOf (D : List (Nat × Mis)) : List Int := D.map fun x => seqI x.2.i
/-- those of D turned -/
def curL (tick pause : Int) (D M : List (Nat × Mis)) : List (Nat × Mis) := M.map fun x => (x.1, if x.1 ∈ D.map (·.1) then upM tick pause x.2 else x.2)
theorem cur_blocks (tick pause : Int) (D M : List (Nat × Mis)) : (curL tick pause D M).map (·.1) = M.map (·.1) := by unfold curL; rw [List.map_map]; rfl
theorem cur_len (tick pause : Int) (D M : List (Nat × Mis)) : (curL tick pause D M).length = M.length := by unfold curL; simp
theorem cur_nil (tick pause : Int) (M : List (Nat × Mis)) : curL tick pause [] M = M := by unfold curL; simp
theorem due_succ {tick : Int} {M : List (Nat × Mis)} {j : Nat} (h : j < M.length) : dueL tick (M.take (j + 1)) = dueL tick (M.take j) ++ (if isDue tick (M[j]'h) = true then [M[j]'h] else []) := by
  unfold dueL
  rw [List.take_succ_eq_append_getElem h, List.filter_append]
  congr 1
  by_cases hp : isDue tick (M[j]'h) = true
  · rw [if_pos hp]; simp [hp]
  · rw [if_neg hp]; simp [hp]
theorem notin_take {M : List (Nat × Mis)} {tick : Int} {j : Nat} (hnd : (M.map (·.1)).Nodup) (h : j < M.length) : (M[j]'h).1 ∉ (dueL tick (M.take j)).map (·.1) := by
  intro hm
  obtain ⟨x, hx, e⟩ := List.mem_map.1 hm
  have hx' : x ∈ M.take j := (List.mem_filter.1 hx).1
  obtain ⟨t, ht, e2⟩ := List.mem_iff_getElem.1 hx'
  have htj : t < j := by simp at ht; omega
  rw [List.getElem_take] at e2
  have h1 : (M.map (·.1))[t]'(by simp; omega) = (M.map (·.1))[j]'(by simp; omega) := by simp [e2, e]
  have := (List.getElem_inj hnd).1 h1
  omega
/-- what is left to do, behind j -/
def AskEq (tick pause : Int) (M : List (Nat × Mis)) (D : List (Nat × Mis)) (j : Nat) : Prop :=
  D = dueL tick (M.take j) ∧ askM tick pause [] (ofM M) = (ofM ((curL tick pause D M).take j) ++ (askM tick pause (seqsOf D) (ofM (M.drop j))).1, (askM tick pause (seqsOf D) (ofM (M.drop j))).2)
theorem AskEq.start (tick pause : Int) (M : List (Nat × Mis)) : AskEq tick pause M [] 0 := ⟨rfl, by simp [ofM, seqsOf]⟩
theorem ofM_drop {M : List (Nat × Mis)} {j : Nat} (h : j < M.length) : ofM (M.drop j) = (M[j]'h).2 :: ofM (M.drop (j + 1)) := by rw [List.drop_eq_getElem_cons h]; rfl
theorem cur_get {tick pause : Int} {D M : List (Nat × Mis)} {j : Nat} (h : j < M.length) : (curL tick pause D M)[j]'(by rw [cur_len]; exact h) = ((M[j]'h).1, if (M[j]'h).1 ∈ D.map (·.1) then upM tick pause (M[j]'h).2 else (M[j]'h).2) := by simp [curL]
theorem ofM_cur_succ {tick pause : Int} {D M : List (Nat × Mis)} {j : Nat} (h : j < M.length) : ofM ((curL tick pause D M).take (j + 1)) = ofM ((curL tick pause D M).take j) ++ [if (M[j]'h).1 ∈ D.map (·.1) then upM tick pause (M[j]'h).2 else (M[j]'h).2] := by
  rw [List.take_succ_eq_append_getElem (by rw [cur_len]; exact h), cur_get h]
  unfold ofM
  rw [List.map_append]
  rfl
/-- one that isn't due -/
theorem AskEq.skip {tick pause : Int} {M D : List (Nat × Mis)} {j : Nat} (h : AskEq tick pause M D j) (hnd : (M.map (·.1)).Nodup) (hj : j < M.length) (hd : isDue tick (M[j]'hj) = false) : AskEq tick pause M D (j + 1) := by
  obtain ⟨h1, h2⟩ := h
  refine ⟨by rw [due_succ hj, if_neg (by rw [hd]; decide), List.append_nil]; exact h1, ?_⟩
  have hn := notin_take (tick := tick) hnd hj
  rw [← h1] at hn
  have hd' : tick < (M[j]'hj).2.nx := by simpa [isDue] using hd
  rw [h2, ofM_drop hj, ofM_cur_succ hj, if_neg hn]
  simp only [askM, if_pos hd']
  rw [List.append_assoc]; rfl
theorem cur_take {tick pause : Int} {M : List (Nat × Mis)} {j : Nat} (hnd : (M.map (·.1)).Nodup) (hj : j < M.length) : ofM ((curL tick pause (dueL tick (M.take j) ++ [M[j]'hj]) M).take j) = ofM ((curL tick pause (dueL tick (M.take j)) M).take j) := by
  unfold ofM
  apply List.ext_getElem?
  intro t
  by_cases ht : t < j
  · rw [List.getElem?_map, List.getElem?_map, List.getElem?_take, List.getElem?_take, if_pos ht, if_pos ht]
    have htm : t < M.length := by omega
    rw [List.getElem?_eq_getElem (by rw [cur_len]; exact htm), List.getElem?_eq_getElem (by rw [cur_len]; exact htm), cur_get htm, cur_get htm]
    have hne : (M[t]'htm).1 ≠ (M[j]'hj).1 := fun e => by
      have h1 : (M.map (·.1))[t]'(by simp; omega) = (M.map (·.1))[j]'(by simp; omega) := by simp [e]
      have := (List.getElem_inj hnd).1 h1
      omega
    have : ((M[t]'htm).1 ∈ (dueL tick (M.take j) ++ [M[j]'hj]).map (·.1)) ↔ ((M[t]'htm).1 ∈ (dueL tick (M.take j)).map (·.1)) := by
      rw [List.map_append, List.mem_append]
      simp [hne]
    simp only [this]
  · rw [List.getElem?_eq_none (by simp; omega), List.getElem?_eq_none (by simp; omega)]
/-- one that is asked for -/
theorem AskEq.take {tick pause : Int} {M D : List (Nat × Mis)} {j : Nat} (h : AskEq tick pause M D j) (hnd : (M.map (·.1)).Nodup) (hj : j < M.length) (hd : isDue tick (M[j]'hj) = true) (hl : ¬ 16 < (lossL (seqsOf (D ++ [M[j]'hj]))).length) : AskEq tick pause M (D ++ [M[j]'hj]) (j + 1) := by
  obtain ⟨h1, h2⟩ := h
  refine ⟨by rw [due_succ hj, if_pos hd, h1], ?_⟩
  have hd' : ¬ tick < (M[j]'hj).2.nx := by simpa [isDue] using hd
  have hs : seqsOf (D ++ [M[j]'hj]) = seqsOf D ++ [seqI (M[j]'hj).2.i] := by unfold seqsOf; rw [List.map_append]; rfl
  rw [hs] at hl ⊢
  have hin : (M[j]'hj).1 ∈ (D ++ [M[j]'hj]).map (·.1) := by rw [List.map_append]; exact List.mem_append_right _ (by simp)
  rw [h2, ofM_drop hj, ofM_cur_succ hj, if_pos hin]
  simp only [askM, if_neg hd', if_neg hl]
  have e := cur_take (tick := tick) (pause := pause) hnd hj
  rw [← h1] at e
  rw [e, List.append_assoc]; rfl
/-- the last one: there would be too many -/
theorem AskEq.stop {tick pause : Int} {M D : List (Nat × Mis)} {j : Nat} (h : AskEq tick pause M D j) (hnd : (M.map (·.1)).Nodup) (hj : j < M.length) (hd : isDue tick (M[j]'hj) = true) (hl : 16 < (lossL (seqsOf (D ++ [M[j]'hj]))).length) : askM tick pause [] (ofM M) = (ofM (curL tick pause D M), seqsOf D) := by
  obtain ⟨h1, h2⟩ := h
  have hd' : ¬ tick < (M[j]'hj).2.nx := by simpa [isDue] using hd
  have hs : seqsOf (D ++ [M[j]'hj]) = seqsOf D ++ [seqI (M[j]'hj).2.i] := by unfold seqsOf; rw [List.map_append]; rfl
  rw [hs] at hl
  rw [h2, ofM_drop hj]
  simp only [askM, if_neg hd', if_pos hl]
  congr 1
  rw [← ofM_drop hj]
  -- behind j nothing has turned
  have e : ofM ((curL tick pause D M).drop j) = ofM (M.drop j) := by
    unfold ofM
    apply List.ext_getElem?
    intro t
    rw [List.getElem?_map, List.getElem?_map, List.getElem?_drop, List.getElem?_drop]
    by_cases ht : j + t < M.length
    · rw [List.getElem?_eq_getElem (by rw [cur_len]; exact ht), List.getElem?_eq_getElem ht, cur_get ht]
      have hn : (M[j + t]'ht).1 ∉ D.map (·.1) := fun hm => by
        have := notin_take (tick := tick) hnd ht
        refine this ?_
        obtain ⟨x, hx, e⟩ := List.mem_map.1 hm
        rw [h1] at hx
        refine List.mem_map.2 ⟨x, ?_, e⟩
        have hxm := List.mem_filter.1 hx
        refine List.mem_filter.2 ⟨?_, hxm.2⟩
        have : (M.take j) = (M.take (j + t)).take j := by rw [List.take_take]; congr 1; omega
        rw [this] at hxm
        exact List.mem_of_mem_take hxm.1
      simp [hn]
    · rw [List.getElem?_eq_none (by rw [cur_len]; omega), List.getElem?_eq_none (by omega)]
  have e2 : ofM (curL tick pause D M) = ofM ((curL tick pause D M).take j) ++ ofM ((curL tick pause D M).drop j) := by
    unfold ofM
    rw [← List.map_append, List.take_append_drop]
  rw [e2, e]
/-- all have come -/
theorem AskEq.all {tick pause : Int} {M D : List (Nat × Mis)} {j : Nat} (h : AskEq tick pause M D j) (hj : j = M.length) : askM tick pause [] (ofM M) = (ofM (curL tick pause D M), seqsOf D) := by
  obtain ⟨h1, h2⟩ := h
  rw [h2, hj]
  have e : (curL tick pause D M).take M.length = curL tick pause D M := by rw [← cur_len tick pause D M, List.take_length]
  rw [e, List.drop_length]
  simp [ofM, askM]
theorem AskEq.to {tick pause : Int} {M D : List (Nat × Mis)} {j j' : Nat} (h : AskEq tick pause M D j) (hnd : (M.map (·.1)).Nodup) (hd : D = dueL tick (M.take j')) (hj : j ≤ j') (hj' : j' ≤ M.length) : AskEq tick pause M D j' := by
  obtain ⟨t, rfl⟩ : ∃ t, j' = j + t := ⟨j' - j, by omega⟩
  induction t with
  | zero => exact h
  | succ t ih =>
    have hjt : j + t < M.length := by omega
    have e := due_succ (tick := tick) hjt
    have hmono : ∀ s, j + s ≤ M.length → (dueL tick (M.take j)).length ≤ (dueL tick (M.take (j + s))).length := fun s hs => by
      induction s with
      | zero => exact Nat.le_refl _
      | succ s ihs =>
        have hh : j + s < M.length := by omega
        have e2 := due_succ (tick := tick) hh
        rw [show j + (s + 1) = j + s + 1 by omega, e2, List.length_append]
        have := ihs (by omega)
        omega
    have hnot : isDue tick (M[j + t]'hjt) = false := by
      cases hc : isDue tick (M[j + t]'hjt) with
      | false => rfl
      | true =>
        exfalso
        rw [if_pos hc] at e
        have h3 := congrArg List.length hd
        rw [show j + (t + 1) = j + t + 1 by omega, e, List.length_append] at h3
        have h4 := hmono t (by omega)
        rw [← h.1] at h4
        simp at h3
        omega
    rw [if_neg (by rw [hnot]; decide), List.append_nil] at e
    have := ih (by rw [hd, show j + (t + 1) = j + t + 1 by omega, e]) (by omega) (by omega)
    exact this.skip hnd hjt hnot
end Go.Proofs.Ytdmbdageohjodaa
