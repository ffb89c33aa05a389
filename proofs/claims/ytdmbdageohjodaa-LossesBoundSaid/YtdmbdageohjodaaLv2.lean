/-
  Chapter 20: what a keeper asked for so far (plain): nothing more than three times, nor twice within a pause.
-/
import Derived.Test.YtdmbdageohjodaaLt7
import Derived.Test.YtdmbdageohjodaaLv1
namespace Go.Proofs.Ytdmbdageohjodaa
open Go.RowKit
set_option linter.unusedVariables false
set_option linter.unusedSimpArgs false

/-- those that an Ask asks for -/
def askT (tick pause : Int) : List Int → List Mis → List Mis
  | l, [] => []
  | l, m :: M => if tick < m.nx then askT tick pause l M else if 16 < (lossL (l ++ [seqI m.i])).length then [] else m :: askT tick pause (l ++ [seqI m.i]) M
theorem askT_2 (tick pause : Int) (L : List Mis) : ∀ l, (askM tick pause l L).2 = l ++ (askT tick pause l L).map (fun m => seqI m.i) := by
  induction L with
  | nil => intro l; simp [askM, askT]
  | cons m M ih =>
    intro l
    unfold askM askT
    split
    · exact ih l
    · split
      · simp
      · show (askM tick pause (l ++ [seqI m.i]) M).2 = _
        rw [ih, List.map_cons, List.append_assoc]; rfl
theorem askT_sub (tick pause : Int) (L : List Mis) : ∀ l, (askT tick pause l L).Sublist L := by
  induction L with
  | nil => intro l; exact List.Sublist.slnil
  | cons m M ih =>
    intro l
    unfold askT
    split
    · exact (ih l).cons m
    · split
      · exact List.nil_sublist _
      · exact (ih _).cons_cons m
theorem askT_due (tick pause : Int) (L : List Mis) : ∀ l, ∀ m ∈ askT tick pause l L, m.nx ≤ tick := by
  induction L with
  | nil => intro l m hm; cases hm
  | cons x M ih =>
    intro l m hm
    unfold askT at hm
    split at hm
    · exact ih l m hm
    · split at hm
      · cases hm
      · rcases List.mem_cons.1 hm with h1 | h1
        · subst h1; omega
        · exact ih _ m h1
theorem askT_1 (tick pause : Int) (L : List Mis) : ∀ l, (L.map (·.i)).Nodup → ∀ m' ∈ (askM tick pause l L).1, (∃ m ∈ askT tick pause l L, m' = upM tick pause m) ∨ (m' ∈ L ∧ m'.i ∉ (askT tick pause l L).map (·.i)) := by
  induction L with
  | nil => intro l _ m' hm; cases hm
  | cons x M ih =>
    intro l hnd m' hm
    rw [List.map_cons, List.nodup_cons] at hnd
    unfold askM at hm
    unfold askT
    split at hm
    · rename_i h1
      rw [if_pos h1]
      rcases List.mem_cons.1 hm with h2 | h2
      · refine .inr ⟨by rw [h2]; exact List.mem_cons_self, fun h3 => hnd.1 ?_⟩
        rw [h2] at h3
        exact ((askT_sub tick pause M l).map _).subset h3
      · rcases ih l hnd.2 m' h2 with h3 | ⟨h3, h4⟩
        · exact .inl h3
        · exact .inr ⟨List.mem_cons_of_mem _ h3, h4⟩
    · rename_i h1
      rw [if_neg h1]
      split at hm
      · rename_i h2
        rw [if_pos h2]
        exact .inr ⟨hm, fun h => by cases h⟩
      · rename_i h2
        rw [if_neg h2]
        rcases List.mem_cons.1 hm with h3 | h3
        · exact .inl ⟨x, List.mem_cons_self, h3⟩
        · rcases ih _ hnd.2 m' h3 with ⟨m, h4, h5⟩ | ⟨h4, h5⟩
          · exact .inl ⟨m, List.mem_cons_of_mem _ h4, h5⟩
          · refine .inr ⟨List.mem_cons_of_mem _ h4, fun h6 => ?_⟩
            rw [List.map_cons] at h6
            rcases List.mem_cons.1 h6 with h7 | h7
            · exact hnd.1 (by rw [← h7]; exact List.mem_map.2 ⟨m', h4, rfl⟩)
            · exact h5 h7
/-- how often -/
def cnt (H : List (Int × Int)) (s : Int) : Nat := H.countP fun e => decide (e.1 = s)
theorem cnt_app (H K : List (Int × Int)) (s : Int) : cnt (H ++ K) s = cnt H s + cnt K s := List.countP_append ..
def tl (tick : Int) (T : List Mis) : List (Int × Int) := T.map fun m => (m.i, tick)
theorem cnt_tl (tick : Int) (T : List Mis) (s : Int) : cnt (tl tick T) s = (T.map (·.i)).count s := by
  unfold cnt tl
  rw [List.countP_map, List.count_eq_countP, List.countP_map]
  congr 1
theorem tl_mem {tick : Int} {T : List Mis} {e : Int × Int} (h : e ∈ tl tick T) : e.2 = tick ∧ e.1 ∈ T.map (·.i) := by
  obtain ⟨m, hm, rfl⟩ := List.mem_map.1 h
  exact ⟨rfl, List.mem_map.2 ⟨m, hm, rfl⟩⟩
structure HI (p high : Int) (L : List Mis) (H : List (Int × Int)) : Prop where
  pi : PI high L
  lt : ∀ e ∈ H, e.1 < high
  nn : ∀ e ∈ H, 0 ≤ e.2
  ok : ∀ m ∈ L, (cnt H m.i : Int) = m.tr ∧ ∀ e ∈ H, e.1 = m.i → e.2 + p ≤ m.nx
theorem HI.start (p : Int) : HI p (-1) [] [] := ⟨PI.start, fun e he => (by cases he), fun e he => (by cases he), fun m hm => (by cases hm)⟩
theorem cnt_none {H : List (Int × Int)} {s : Int} (h : ∀ e ∈ H, e.1 ≠ s) : cnt H s = 0 := by
  unfold cnt
  rw [List.countP_eq_zero]
  intro e he
  simpa using h e he
theorem HI.came {p high i tick : Int} {L : List Mis} {H : List (Int × Int)} (h : HI p high L H) (hi : i ≤ 4611686018427387904) : HI p (cameH high i) (cameM high i tick L) H := by
  refine ⟨h.pi.came hi, fun e he => ?_, h.nn, ?_⟩
  · have := h.lt e he
    unfold cameH
    split
    · exact this
    · split <;> omega
  · unfold cameM
    split
    · exact h.ok
    · split
      · exact h.ok
      · split
        · intro m hm
          have hm2 := (last32_sub _).subset hm
          rcases List.mem_append.1 hm2 with h1 | h1
          · exact h.ok m h1
          · obtain ⟨a, b, c⟩ := newsL_mem h1
            have hne : ∀ e ∈ H, e.1 ≠ m.i := fun e he => by have := h.lt e he; omega
            rw [cnt_none hne, c]
            exact ⟨rfl, fun e he h2 => absurd h2 (hne e he)⟩
        · intro m hm
          exact h.ok m (List.mem_filter.1 hm).1
theorem HI.ask {p high tick : Int} {L : List Mis} {H : List (Int × Int)} (h : HI p high L H) (hp : 0 ≤ p) (ht : 0 ≤ tick) : HI p high (askK tick p L) (H ++ tl tick (askT tick p [] L)) := by
  have hsub := askT_sub tick p L []
  have hnd : ((askT tick p [] L).map (·.i)).Nodup := List.Sublist.nodup (hsub.map _) h.pi.nd
  refine ⟨h.pi.ask, fun e he => ?_, fun e he => ?_, fun m' hm => ?_⟩
  · rcases List.mem_append.1 he with h1 | h1
    · exact h.lt e h1
    · obtain ⟨m, hm, h2⟩ := List.mem_map.1 (tl_mem h1).2
      rw [← h2]
      exact (h.pi.el m (hsub.subset hm)).2.1
  · rcases List.mem_append.1 he with h1 | h1
    · exact h.nn e h1
    · rw [(tl_mem h1).1]; exact ht
  · have hm1 := (List.mem_filter.1 hm).1
    rw [cnt_app, cnt_tl]
    rcases askT_1 tick p L [] h.pi.nd m' hm1 with ⟨m, h1, rfl⟩ | ⟨h1, h2⟩
    · obtain ⟨o1, o2⟩ := h.ok m (hsub.subset h1)
      have hc : ((askT tick p [] L).map (·.i)).count m.i = 1 := by rw [hnd.count, if_pos (List.mem_map.2 ⟨m, h1, rfl⟩)]
      have hd := askT_due tick p L [] m h1
      refine ⟨by show ((cnt H m.i + _ : Nat) : Int) = m.tr + 1; rw [show (upM tick p m).i = m.i from rfl, hc]; omega, fun e he h3 => ?_⟩
      show e.2 + p ≤ tick + p
      rcases List.mem_append.1 he with h4 | h4
      · have := o2 e h4 h3; omega
      · rw [(tl_mem h4).1]; omega
    · obtain ⟨o1, o2⟩ := h.ok m' h1
      rw [List.count_eq_zero.2 h2]
      refine ⟨by omega, fun e he h3 => ?_⟩
      rcases List.mem_append.1 he with h4 | h4
      · exact o2 e h4 h3
      · exact absurd (by rw [← h3]; exact (tl_mem h4).2) h2
/-- what the law looks at, for one that is asked -/
theorem HI.one {p high tick : Int} {L : List Mis} {H : List (Int × Int)} (h : HI p high L H) (ht : 0 ≤ tick) {a : Nat} (ha : a < (askT tick p [] L).length) :
    cnt (H ++ tl tick ((askT tick p [] L).take a)) ((askT tick p [] L)[a]'ha).i ≤ 2 ∧ ∀ e ∈ H ++ tl tick ((askT tick p [] L).take a), e.1 = ((askT tick p [] L)[a]'ha).i → 0 ≤ e.2 ∧ e.2 + p ≤ tick := by
  have hsub := askT_sub tick p L []
  have hnd : ((askT tick p [] L).map (·.i)).Nodup := List.Sublist.nodup (hsub.map _) h.pi.nd
  have hm := List.getElem_mem ha
  have hd := askT_due tick p L [] _ hm
  obtain ⟨o1, o2⟩ := h.ok _ (hsub.subset hm)
  have htr := (h.pi.el _ (hsub.subset hm)).2.2.2
  have hnot : ((askT tick p [] L)[a]'ha).i ∉ ((askT tick p [] L).take a).map (·.i) := fun hin => by
    have e := List.take_append_drop a (askT tick p [] L)
    rw [← e, List.map_append, List.nodup_append, List.drop_eq_getElem_cons ha] at hnd
    exact hnd.2.2 _ hin _ (by rw [List.map_cons]; exact List.mem_cons_self) rfl
  rw [cnt_app, cnt_tl, List.count_eq_zero.2 hnot]
  refine ⟨by omega, fun e he h3 => ?_⟩
  rcases List.mem_append.1 he with h4 | h4
  · have := o2 e h4 h3; have := h.nn e h4; omega
  · exact absurd (by rw [← h3]; exact (tl_mem h4).2) hnot
theorem HI.nack {p high tick : Int} {L : List Mis} {H : List (Int × Int)} (h : HI p high L H) (hh : high ≤ 65535) : nackL (askO tick p L) = (askT tick p [] L).map (·.i) := by
  have hsub := askT_sub tick p L []
  have e : (askT tick p [] L).map (fun m => seqI m.i) = (askT tick p [] L).map (·.i) := List.map_congr_left (fun m hm => by
    obtain ⟨a, b, -⟩ := h.pi.el m (hsub.subset hm)
    unfold seqI
    omega)
  unfold askO
  rw [askT_2, List.nil_append, e]
  refine nack_loss _ (List.Pairwise.sublist (hsub.map _) h.pi.srt) (fun s hs => ?_)
  obtain ⟨m, hm, rfl⟩ := List.mem_map.1 hs
  obtain ⟨a, b, -⟩ := h.pi.el m (hsub.subset hm)
  omega
end Go.Proofs.Ytdmbdageohjodaa
