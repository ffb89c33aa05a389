/-
  Chapter 20: what stays true of a keeper's list, whatever comes and is asked (plain).
-/
import Derived.Test.YtdmbdageohjodaaLsJ
namespace Go.Proofs.Ytdmbdageohjodaa
open Go.RowKit
set_option linter.unusedVariables false
set_option linter.unusedSimpArgs false

structure PI (high : Int) (L : List Mis) : Prop where
  hh : -1 ≤ high ∧ high ≤ 4611686018427387904
  len : L.length ≤ 32
  el : ∀ m ∈ L, 0 ≤ m.i ∧ m.i < high ∧ 0 ≤ m.tr ∧ m.tr ≤ 2
  srt : (L.map (·.i)).Pairwise (· < ·)
theorem PI.start : PI (-1) [] := ⟨by omega, by decide, fun m hm => (by cases hm), List.Pairwise.nil⟩
theorem PI.nd {high : Int} {L : List Mis} (h : PI high L) : (L.map (·.i)).Nodup := h.srt.imp (fun hab => by omega)
theorem last32_sub (l : List Mis) : (last32 l).Sublist l := by unfold last32; exact List.drop_sublist _ _
theorem last32_len (l : List Mis) : (last32 l).length ≤ 32 := by unfold last32; rw [List.length_drop]; omega
theorem newsL_i (x tick : Int) (k : Nat) : (newsL x tick k).map (·.i) = (List.range k).map (fun t : Nat => x + (t : Int)) := by
  unfold newsL; rw [List.map_map]; rfl
theorem newsL_srt (x tick : Int) (k : Nat) : ((newsL x tick k).map (·.i)).Pairwise (· < ·) := by
  rw [newsL_i, List.pairwise_map]
  exact List.pairwise_lt_range.imp (fun h => by omega)
theorem newsL_mem {x tick : Int} {k : Nat} {m : Mis} (h : m ∈ newsL x tick k) : x ≤ m.i ∧ m.i < x + k ∧ m.tr = 0 := by
  unfold newsL at h
  obtain ⟨t, ht, rfl⟩ := List.mem_map.1 h
  have := List.mem_range.1 ht
  exact ⟨by show x ≤ x + (t : Int); omega, by show x + (t : Int) < _; omega, rfl⟩
theorem PI.came {high i tick : Int} {L : List Mis} (h : PI high L) (hi : i ≤ 4611686018427387904) : PI (cameH high i) (cameM high i tick L) := by
  by_cases hf : farI high i = true
  · obtain ⟨e1, e2⟩ : cameH high i = high ∧ cameM high i tick L = L := by unfold cameH cameM; rw [if_pos hf, if_pos hf]; exact ⟨rfl, rfl⟩
    rw [e1, e2]; exact h
  · have hi0 : 0 ≤ i := by
      unfold farI at hf
      by_cases hx : i < 0
      · simp [hx] at hf
      · omega
    unfold cameH cameM
    rw [if_neg hf, if_neg hf]
    by_cases hn : high < 0
    · rw [if_pos hn, if_pos (by omega)]
      exact ⟨by omega, h.len, fun m hm => by obtain ⟨a, b, c, d⟩ := h.el m hm; exact ⟨a, by omega, c, d⟩, h.srt⟩
    · rw [if_neg hn]
      by_cases hl : high < i
      · rw [if_pos hl, if_pos hl]
        have hin : ∀ m ∈ L ++ newsL (max (high + 1) (i - 32)) tick (i - max (high + 1) (i - 32)).toNat, 0 ≤ m.i ∧ m.i < i ∧ 0 ≤ m.tr ∧ m.tr ≤ 2 := fun m hm => by
          rcases List.mem_append.1 hm with h1 | h1
          · obtain ⟨a, b, c, d⟩ := h.el m h1; exact ⟨a, by omega, c, d⟩
          · obtain ⟨a, b, c⟩ := newsL_mem h1; rw [c]; exact ⟨by omega, by omega, by omega, by omega⟩
        refine ⟨by omega, last32_len _, fun m hm => hin m ((last32_sub _).subset hm), ?_⟩
        refine List.Pairwise.sublist ((last32_sub _).map _) ?_
        rw [List.map_append, List.pairwise_append]
        refine ⟨h.srt, newsL_srt _ _ _, fun a ha b hb => ?_⟩
        obtain ⟨m, hm, rfl⟩ := List.mem_map.1 ha
        obtain ⟨m', hm', rfl⟩ := List.mem_map.1 hb
        have h1 := (h.el m hm).2.1
        have h2 := (newsL_mem hm').1
        omega
      · rw [if_neg hl, if_neg hl]
        exact ⟨h.hh, Nat.le_trans (List.length_filter_le _ _) h.len, fun m hm => h.el m (List.mem_filter.1 hm).1, List.Pairwise.sublist (List.filter_sublist.map _) h.srt⟩
theorem askM_i (tick pause : Int) (L : List Mis) : ∀ l, (askM tick pause l L).1.map (·.i) = L.map (·.i) := by
  induction L with
  | nil => intro l; rfl
  | cons m M ih =>
    intro l
    unfold askM
    split
    · show m.i :: _ = m.i :: _; rw [ih]
    · split
      · rfl
      · show m.i :: _ = m.i :: _; rw [ih]
theorem askM_el {p q : Mis → Prop} (tick pause : Int) (hpq : ∀ m, p m → q m) (hup : ∀ m, p m → q (upM tick pause m)) (L : List Mis) : ∀ l, (∀ m ∈ L, p m) → ∀ m ∈ (askM tick pause l L).1, q m := by
  induction L with
  | nil => intro l _ m hm; cases hm
  | cons x M ih =>
    intro l hL m hm
    have hx := hL x List.mem_cons_self
    have hM : ∀ m ∈ M, p m := fun m h => hL m (List.mem_cons_of_mem _ h)
    unfold askM at hm
    split at hm
    · rcases List.mem_cons.1 hm with h1 | h1
      · rw [h1]; exact hpq _ hx
      · exact ih _ hM m h1
    · split at hm
      · exact hpq _ (hL m hm)
      · rcases List.mem_cons.1 hm with h1 | h1
        · rw [h1]; exact hup _ hx
        · exact ih _ hM m h1
theorem PI.ask {high tick pause : Int} {L : List Mis} (h : PI high L) : PI high (askK tick pause L) := by
  have hi := askM_i tick pause L []
  have hl : (askM tick pause [] L).1.length = L.length := by have := congrArg List.length hi; simpa using this
  refine ⟨h.hh, Nat.le_trans (List.length_filter_le _ _) (by rw [hl]; exact h.len), fun m hm => ?_, ?_⟩
  · obtain ⟨h1, h2⟩ := List.mem_filter.1 hm
    have := askM_el (p := fun m => 0 ≤ m.i ∧ m.i < high ∧ 0 ≤ m.tr ∧ m.tr ≤ 2) (q := fun m => 0 ≤ m.i ∧ m.i < high ∧ 0 ≤ m.tr ∧ m.tr ≤ 3) tick pause (fun m h => ⟨h.1, h.2.1, h.2.2.1, by omega⟩) (fun m h => by unfold upM; exact ⟨h.1, h.2.1, by show 0 ≤ m.tr + 1; omega, by show m.tr + 1 ≤ 3; omega⟩) L [] h.el m h1
    have h3 : ¬ 3 ≤ m.tr := by simpa using h2
    exact ⟨this.1, this.2.1, this.2.2.1, by omega⟩
  · refine List.Pairwise.sublist (List.filter_sublist.map _) ?_
    rw [hi]; exact h.srt
end Go.Proofs.Ytdmbdageohjodaa
