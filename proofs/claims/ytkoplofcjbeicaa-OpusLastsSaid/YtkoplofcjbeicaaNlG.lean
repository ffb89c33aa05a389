/-
  Chapter 41: pieces put one by one; the walk of NalCuts.
-/
import Derived.Test.YtkoplofcjbeicaaNlF
import Derived.Test.YtkoplofcjbeicaaNlE
namespace Go.Proofs.Ytkoplofcjbeicaa
open Go.RowKit
set_option linter.unusedVariables false
set_option linter.unusedSimpArgs false
attribute [local irreducible] wpStill wpQuiet MixC.wpMix
attribute [local go_sem] MixC.rdOp MixC.rd MixC.rdUpon MixC.mvUpon

theorem zs_add (Z : Nat → Int) (a b : Nat) : zs Z (a + b) = zs Z a ++ zs (fun x => Z (a + x)) b := by
  unfold zs
  rw [List.range_add, List.map_append, List.map_map]
  rfl
theorem pcL_len (Z : Nat → Int) (n d q : Nat) : (pcL Z n d q).length = 2 + min d (n - 1 - q) := by
  unfold pcL; rw [List.length_append, zs_len]; rfl
/-- a piece's data -/
theorem pcL_data (Z : Nat → Int) (n d q : Nat) : zs (fun x => gz (pcL Z n d q) (2 + x)) ((pcL Z n d q).length - 2) = zs (fun x => Z (1 + q + x)) (min d (n - 1 - q)) := by
  rw [pcL_len, show 2 + min d (n - 1 - q) - 2 = min d (n - 1 - q) by omega]
  unfold zs
  refine List.map_congr_left fun i hi => ?_
  have hi := List.mem_range.1 hi
  show gz (pcL Z n d q) (2 + i) = _
  unfold gz pcL zs
  rw [List.getD_eq_getElem?_getD, List.getElem?_append_right (by simp)]
  simp [hi]
theorem qk_le {d K k : Nat} (h : k ≤ K) : qk d k ≤ qk d K := by
  induction K with
  | zero => have : k = 0 := by omega
            subst this; exact Nat.le_refl _
  | succ K ih =>
    by_cases e : k = K + 1
    · subst e; exact Nat.le_refl _
    · have := ih (by omega); show qk d k ≤ qk d K + d; omega
/-- a piece that lies somewhere -/
theorem Own1.pc {w w' : World} {G : Nat} {v : Value} {Z : Nat → Int} {n d q : Nat} (h : Own1 w G v (pcL Z n d q)) (hu : 0 ≤ Z 0 ∧ Z 0 ≤ 255) (ht : 1 ≤ Z 0 % 32 ∧ Z 0 % 32 ≤ 23) (hd : 1 ≤ d ∧ d ≤ 1000) (hq : 1 + q < n) (b : Below w.heap.size w w') :
    ∃ g c, v = .slice (some ⟨g, 0, none⟩) (pcL Z n d q).length c ∧ g < w.heap.size ∧ PcB w' g (pcL Z n d q).length c (gz (pcL Z n d q)) (Z 0) (fzI n d q) := by
  have hl := pcL_len Z n d q
  obtain ⟨_, a, c, hv, hb⟩ := BS.own h.own h.oct (by omega)
  obtain ⟨g, cap, hv2, h2, h3, h4, h5⟩ := own_pos h.own (by omega)
  rw [hv] at hv2
  cases hv2
  exact ⟨g, c, hv, h3, (hb.keep b).mono b.size, by omega, rfl, rfl, hu, ht⟩
/-- how the assembler stands behind i pieces -/
def AsK (Z : Nat → Int) (n d K g i : Nat) (w : World) : Prop :=
  ((i = 0 ∨ i = K) ∧ asm w g (.slice none 0 0)) ∨ (0 < i ∧ i < K ∧ ∃ q c, asm w g (.slice (some ⟨q, 0, none⟩) (1 + qk d i) c) ∧ w.ownsRow (g + 1) 5 1 (.slice (some ⟨q, 0, none⟩) (1 + qk d i) c) (1 + qk d i) (u8s (zs Z (1 + qk d i))))
/-- what Put answers to piece i -/
def PutK (Z : Nat → Int) (n d K g i : Nat) (w : World) (e : Ending) (w' : World) : Prop :=
  ((i + 1 < K ∧ e = .returned (.tuple #[.slice none 0 0, .int .i64 0])) ∨ (i + 1 = K ∧ ∃ gx a c, e = .returned (.tuple #[.slice (some ⟨gx, 0, none⟩) 1 1, .int .i64 0]) ∧ w'.heap[gx]? = some (.cells #[.slice a n c] 22 (0, 0)) ∧ w'.ownsRow (g + 1) 5 1 (.slice a n c) n (u8s (zs Z n)))) ∧ AsK Z n d K g (i + 1) w' ∧ Below g w w'
theorem put_k (Z : Nat → Int) (n d K g i : Nat) (w : World) (hM : Man n d K) (hK : 2 ≤ K) (hi : i < K) (hn : n ≤ 1000) (hd : 1 ≤ d ∧ d ≤ 1000) (b m c : Nat) (hm : m = (pcL Z n d (qk d i)).length) (hp : PcB w b m c (gz (pcL Z n d (qk d i))) (Z 0) (fzI n d (qk d i))) (hA : AsK Z n d K g i w) (hbg : b < g) :
    Calls Try.prog 29 #[.pointer (some ⟨g, 0, none⟩), .slice (some ⟨b, 0, none⟩) m c] w (PutK Z n d K g i w) := by
  have hqi := hM.2 i hi
  have hdata := pcL_data Z n d (qk d i)
  rw [← hm] at hdata
  have hml : m = 2 + min d (n - 1 - qk d i) := by rw [hm, pcL_len]
  have hs : qk d (i + 1) = qk d i + d := rfl
  have hnl : i + 1 < K → min d (n - 1 - qk d i) = d ∧ 1 + qk d (i + 1) < n := fun h => by have := hM.2 (i + 1) h; omega
  have hll : i + 1 = K → n ≤ qk d i + d + 1 := fun h => by have := hM.1; rw [← h] at this; omega
  rcases Nat.eq_zero_or_pos i with h0 | h0
  · subst h0
    have hfz : fzI n d (qk d 0) = 128 := by
      have := hnl (by omega)
      unfold fzI
      rw [if_pos (show qk d 0 = 0 from rfl), if_neg (by show ¬ n ≤ 0 + d + 1; have h1 : qk d (0 + 1) = 0 + d := rfl; omega)]; rfl
    rw [hfz] at hp
    have hA0 : asm w g (.slice none 0 0) := by
      rcases hA with ⟨_, h⟩ | ⟨h, _⟩
      · exact h
      · omega
    refine (put_first w g b m c _ (Z 0) hA0 hp hbg).mono ?_
    rintro e w' ⟨rfl, a', c', q1, q2, q3⟩
    rw [hdata, (hnl (by omega)).1] at q2
    have hmm : m - 2 = d := by have := (hnl (by omega)).1; omega
    rw [hmm] at q1 q2
    have e1 : 1 + d = 1 + qk d (0 + 1) := by show 1 + d = 1 + (0 + d); omega
    have e2 : [Z 0] ++ zs (fun x => Z (1 + qk d 0 + x)) d = zs Z (1 + d) := by rw [zs_add]; rfl
    rw [e2] at q2
    rw [e1] at q1 q2
    obtain ⟨gq, cq, hv, _⟩ := own_pos q2 (by omega)
    cases hv
    exact ⟨.inl ⟨by omega, rfl⟩, .inr ⟨by omega, by omega, gq, c', q1, q2⟩, q3⟩
  · obtain ⟨q, cu, hA1, hO⟩ : ∃ q c, asm w g (.slice (some ⟨q, 0, none⟩) (1 + qk d i) c) ∧ w.ownsRow (g + 1) 5 1 (.slice (some ⟨q, 0, none⟩) (1 + qk d i) c) (1 + qk d i) (u8s (zs Z (1 + qk d i))) := by
      rcases hA with ⟨h | h, _⟩ | ⟨_, _, h⟩
      · omega
      · omega
      · exact h
    have hq0 : qk d i ≠ 0 := by have := qk_ge hd.1 i; omega
    have hz : fzI n d (qk d i) = 0 ∨ fzI n d (qk d i) = 64 := by
      unfold fzI; rw [if_neg hq0]; split <;> simp
    have hU : (zs Z (1 + qk d i))[0]? = some (Z 0) := by unfold zs; rw [List.getElem?_map, List.getElem?_range (by omega)]; rfl
    refine (put_next w g b m c _ (Z 0) _ q (1 + qk d i) cu (zs Z (1 + qk d i)) hA1 hO (by omega) (by omega) hU hz hp hbg).mono ?_
    rintro e w' ⟨⟨hz0, rfl, a', c', q1, q2⟩ | ⟨hz0, gx, a', c', rfl, q1, q2, q3⟩, q4⟩
    · have hnl2 : ¬ n ≤ qk d i + d + 1 := fun h => by unfold fzI at hz0; rw [if_neg hq0, if_pos h] at hz0; omega
      have hlt : i + 1 < K := by
        rcases Nat.lt_or_ge (i + 1) K with h | h
        · exact h
        · exact absurd (hll (by omega)) hnl2
      obtain ⟨k1, k2⟩ := hnl hlt
      rw [hdata, k1, ← zs_add] at q2
      have hmm : 1 + qk d i + (m - 2) = 1 + qk d (i + 1) := by rw [hs]; omega
      rw [hmm] at q1 q2
      rw [show 1 + qk d i + d = 1 + qk d (i + 1) by rw [hs]; omega] at q2
      obtain ⟨gq, cq, hv, _⟩ := own_pos q2 (by omega)
      cases hv
      exact ⟨.inl ⟨hlt, rfl⟩, .inr ⟨by omega, hlt, gq, c', q1, q2⟩, q4⟩
    · have hnl2 : n ≤ qk d i + d + 1 := by
        by_cases h : n ≤ qk d i + d + 1
        · exact h
        · unfold fzI at hz0; rw [if_neg hq0, if_neg h] at hz0; omega
      have hlt : i + 1 = K := by
        rcases Nat.lt_or_ge (i + 1) K with h | h
        · have := (hnl h).2; omega
        · omega
      rw [hdata, ← zs_add] at q3
      have hmm : 1 + qk d i + (m - 2) = n := by omega
      have hmm2 : 1 + qk d i + min d (n - 1 - qk d i) = n := by omega
      rw [hmm] at q1 q3
      rw [hmm2] at q3
      exact ⟨.inr ⟨hlt, gx, a', c', rfl, q1, q3⟩, .inl ⟨.inr hlt, q2⟩, q4⟩
end Go.Proofs.Ytkoplofcjbeicaa
