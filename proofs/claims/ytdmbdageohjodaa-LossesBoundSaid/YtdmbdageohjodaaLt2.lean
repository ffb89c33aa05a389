/-
  Chapter 20: the reference's keeper: Came, any case, against the machine's plain function.
-/
import Derived.Test.YtdmbdageohjodaaLt1
namespace Go.Proofs.Ytdmbdageohjodaa
open Go.RowKit
set_option linter.unusedVariables false
set_option linter.unusedSimpArgs false

theorem newsL_add (x tick : Int) (a b : Nat) : newsL x tick (a + b) = newsL x tick a ++ newsL (x + a) tick b := by
  unfold newsL
  rw [List.range_add, List.map_append, List.map_map]
  congr 1
  refine List.map_congr_left (fun t _ => ?_)
  show (⟨x + ((a + t : Nat) : Int), 0, tick⟩ : Mis) = ⟨x + (a : Int) + (t : Int), 0, tick⟩
  rw [show x + ((a + t : Nat) : Int) = x + (a : Int) + (t : Int) by omega]
theorem last32_news (L : List Mis) (x tick : Int) (k : Nat) (h : 32 ≤ k) : last32 (L ++ newsL x tick k) = newsL (x + k - 32) tick 32 := by
  obtain ⟨a, rfl⟩ : ∃ a, k = a + 32 := ⟨k - 32, by omega⟩
  unfold last32
  rw [newsL_add, ← List.append_assoc, List.length_append, newsL_len, Nat.add_sub_cancel, List.drop_left, show x + ((a + 32 : Nat) : Int) - 32 = x + a by omega]
theorem came_eq (L : List Mis) (high i tick : Int) (h : high < i) : last32 (L ++ newsL (fromR high i) tick (i - fromR high i).toNat) = last32 (L ++ newsL (max (high + 1) (i - 32)) tick (i - max (high + 1) (i - 32)).toNat) := by
  by_cases h1 : i - (high + 1) ≤ 32
  · rw [show fromR high i = high + 1 from if_neg (by omega), show max (high + 1) (i - 32) = high + 1 by omega]
  · have hf : fromR high i ≤ i - 32 := by unfold fromR; split <;> omega
    rw [last32_news _ _ _ _ (by omega), last32_news _ _ _ _ (by omega)]
    congr 1
    omega
theorem rcame_any (B g : Nat) (pause high i tick : Int) (L : List Mis) (w : World) (h : RK B g pause high L w) (hB : B ≤ w.heap.size) (hL : L.length ≤ 900) (hh0 : -1 ≤ high) (hh : high ≤ 4611686018427387904) (hi : i ≤ 4611686018427387904) (nd : (L.map (·.i)).Nodup) :
    Calls Try.prog 22 #[.pointer (some ⟨g, 0, none⟩), .int .i64 i, .int .i64 tick] w (RPost B g pause (cameH high i) (cameM high i tick L) w) := by
  by_cases hf : farI high i = true
  · obtain ⟨e1, e2⟩ := camed_far (tick := tick) (l := L) hf
    rw [e1, e2]
    exact rcame_far B g pause high i tick L w h hf hh hi hh0
  · have hf2 := hf
    unfold farI at hf2
    have h0 : 0 ≤ i := by
      by_cases hx : i < 0
      · simp [hx] at hf2
      · omega
    have h2 : 0 ≤ high → i - high ≤ 1099511627776 := fun hx => by
      have : ¬ (1099511627776 < i - high) := fun hy => by simp [hx, hy] at hf2
      omega
    unfold cameH cameM
    rw [if_neg hf, if_neg hf]
    by_cases h3 : high < 0
    · rw [if_pos (by omega : high < i), if_pos h3]
      exact rcame_first B g pause high i tick L w h h0 h3
    · rw [if_neg h3]
      by_cases h4 : high < i
      · rw [if_pos h4, if_pos h4, ← came_eq L high i tick h4]
        exact rcame_more B g pause high i tick L w h hB hL (by omega) h4 (h2 (by omega)) hi
      · rw [if_neg h4, if_neg h4]
        exact rcame_same B g pause high i tick L w h hB (by omega) h0 (by omega) hh nd
end Go.Proofs.Ytdmbdageohjodaa
