/-
  The plain law of chapter 25: how a rate is shared out.
-/
import Derived.Test.YtkemkplmhjmahaaReads
namespace Go.Proofs.Ytkemkplmhjmahaa
open Go.RowKit
set_option linter.unusedVariables false
set_option linter.unusedSimpArgs false

def satI (a b : Int) : Int := if a + b ≤ 18446744073709551615 then a + b else 18446744073709551615
/-- the cost of a layer -/
def cst (C : Nat → Nat → Int) (L : Nat → Nat) (i : Nat) (k : Int) : Int := if 0 ≤ k ∧ k < L i then C i k.toNat else 0
structure Sh where
  out : Nat → Int
  left : Int
/-- may a subscription have its next layer? -/
def fitsB (C : Nat → Nat → Int) (L : Nat → Nat) (s : Sh) (i : Nat) : Bool := decide (i < 64) && (decide (s.out i + 1 < min (L i : Int) 8) && decide (cst C L i (s.out i + 1) ≤ satI s.left (cst C L i (s.out i))))
def bestN (C : Nat → Nat → Int) (L : Nat → Nat) (s : Sh) : Nat → Int
  | 0 => -1
  | k + 1 => if fitsB C L s k = true ∧ (bestN C L s k = -1 ∨ s.out k < s.out (bestN C L s k).toNat) then (k : Int) else bestN C L s k
theorem bestN_bd (C : Nat → Nat → Int) (L : Nat → Nat) (s : Sh) (k : Nat) : -1 ≤ bestN C L s k ∧ bestN C L s k < k := by
  induction k with
  | zero => unfold bestN; omega
  | succ k ih => unfold bestN; split <;> omega
/-- the best one -/
def isBest (C : Nat → Nat → Int) (L : Nat → Nat) (s : Sh) (n b : Nat) : Prop := b < n ∧ fitsB C L s b = true ∧ ∀ i, i < n → fitsB C L s i = true → s.out b < s.out i ∨ (s.out b = s.out i ∧ b ≤ i)
theorem bestN_none (C : Nat → Nat → Int) (L : Nat → Nat) (s : Sh) (n : Nat) : (bestN C L s n = -1 ∧ ∀ i, i < n → fitsB C L s i = false) ∨ (0 ≤ bestN C L s n ∧ isBest C L s n (bestN C L s n).toNat) := by
  induction n with
  | zero => exact .inl ⟨rfl, fun i h => by omega⟩
  | succ n ih =>
    have e : bestN C L s (n + 1) = if fitsB C L s n = true ∧ (bestN C L s n = -1 ∨ s.out n < s.out (bestN C L s n).toNat) then (n : Int) else bestN C L s n := rfl
    rw [e]
    rcases ih with ⟨h1, h2⟩ | ⟨h1, h2, h3, h4⟩
    · by_cases hf : fitsB C L s n = true
      · rw [if_pos ⟨hf, .inl h1⟩]
        refine .inr ⟨by omega, by simp, by simpa using hf, fun i hi hfi => ?_⟩
        by_cases hin : i = n
        · subst hin; exact .inr ⟨by simp, by simp⟩
        · rw [h2 i (by omega)] at hfi; exact absurd hfi (by decide)
      · rw [if_neg (fun h => hf h.1)]
        refine .inl ⟨h1, fun i hi => ?_⟩
        by_cases hin : i = n
        · subst hin; simpa using hf
        · exact h2 i (by omega)
    · by_cases hf : fitsB C L s n = true ∧ s.out n < s.out (bestN C L s n).toNat
      · rw [if_pos ⟨hf.1, .inr hf.2⟩]
        refine .inr ⟨by omega, by simp, by simpa using hf.1, fun i hi hfi => ?_⟩
        by_cases hin : i = n
        · subst hin; exact .inr ⟨by simp, by simp⟩
        · have := h4 i (by omega) hfi
          left; simp only [Int.toNat_natCast]; omega
      · rw [if_neg (by rintro ⟨ha, hb⟩; rcases hb with hb | hb; · omega
                       · exact hf ⟨ha, hb⟩)]
        refine .inr ⟨h1, by omega, h3, fun i hi hfi => ?_⟩
        by_cases hin : i = n
        · subst hin
          have : ¬ s.out i < s.out (bestN C L s i).toNat := fun h => hf ⟨hfi, h⟩
          omega
        · exact h4 i (by omega) hfi
theorem isBest_uni {C : Nat → Nat → Int} {L : Nat → Nat} {s : Sh} {n b c : Nat} (h : isBest C L s n b) (k : isBest C L s n c) : b = c := by
  have h1 := h.2.2 c k.1 k.2.1
  have h2 := k.2.2 b h.1 h.2.1
  omega
theorem bestN_of {C : Nat → Nat → Int} {L : Nat → Nat} {s : Sh} {n b : Nat} (h : isBest C L s n b) : bestN C L s n = b := by
  rcases bestN_none C L s n with ⟨h1, h2⟩ | ⟨h1, h2⟩
  · have := h2 b h.1; rw [h.2.1] at this; exact absurd this (by decide)
  · have := isBest_uni h h2; omega
theorem bestN_of_none {C : Nat → Nat → Int} {L : Nat → Nat} {s : Sh} {n : Nat} (h : ∀ i, i < n → fitsB C L s i = false) : bestN C L s n = -1 := by
  rcases bestN_none C L s n with ⟨h1, h2⟩ | ⟨h1, h2, h3, h4⟩
  · exact h1
  · rw [h _ h2] at h3; exact absurd h3 (by decide)
/-- what one turn makes of the rate that is left -/
def leftN (l had has : Int) : Int := if had ≤ has then l - (has - had) else satI l (had - has)
def stepS (C : Nat → Nat → Int) (L : Nat → Nat) (n : Nat) (s : Sh) : Sh :=
  if bestN C L s n = -1 then s else
    ⟨fun i => if i = (bestN C L s n).toNat then s.out i + 1 else s.out i, leftN s.left (cst C L (bestN C L s n).toNat (s.out (bestN C L s n).toNat)) (cst C L (bestN C L s n).toNat (s.out (bestN C L s n).toNat + 1))⟩
def iterS (C : Nat → Nat → Int) (L : Nat → Nat) (n : Nat) (s : Sh) : Nat → Sh
  | 0 => s
  | j + 1 => stepS C L n (iterS C L n s j)
/-- the end of a sharing -/
def FinS (C : Nat → Nat → Int) (L : Nat → Nat) (n : Nat) (s t : Sh) : Prop := (∃ j, t = iterS C L n s j) ∧ bestN C L t n = -1
theorem iterS_stay {C : Nat → Nat → Int} {L : Nat → Nat} {n : Nat} {s : Sh} {j : Nat} (h : bestN C L (iterS C L n s j) n = -1) (m : Nat) : iterS C L n s (j + m) = iterS C L n s j := by
  induction m with
  | zero => rfl
  | succ m ih =>
    have e : iterS C L n s (j + (m + 1)) = stepS C L n (iterS C L n s (j + m)) := rfl
    rw [e, ih]; unfold stepS; rw [if_pos h]
theorem FinS.uni {C : Nat → Nat → Int} {L : Nat → Nat} {n : Nat} {s t u : Sh} (h : FinS C L n s t) (k : FinS C L n s u) : t = u := by
  obtain ⟨⟨j, rfl⟩, h⟩ := h
  obtain ⟨⟨m, rfl⟩, k⟩ := k
  rcases Nat.le_total j m with hjm | hjm
  · have := iterS_stay h (m - j); rw [show j + (m - j) = m by omega] at this; exact this.symm
  · have := iterS_stay k (j - m); rw [show m + (j - m) = j by omega] at this; exact this
def sh0 (rate : Int) : Sh := ⟨fun _ => -1, rate⟩
/-- how far a sharing may still go -/
def room (s : Sh) : Nat → Nat
  | 0 => 0
  | k + 1 => room s k + (7 - s.out k).toNat
/-- what holds at all times -/
structure SI (s : Sh) : Prop where
  lo : ∀ i, -1 ≤ s.out i
  hi : ∀ i, s.out i ≤ 7
  l0 : 0 ≤ s.left
  l1 : s.left ≤ 18446744073709551615
theorem satI_bd (a b : Int) (a0 : 0 ≤ a) (b0 : 0 ≤ b) : 0 ≤ satI a b ∧ satI a b ≤ 18446744073709551615 := by unfold satI; split <;> omega
theorem cst_bd {C : Nat → Nat → Int} (hC : ∀ i k, 0 ≤ C i k ∧ C i k ≤ 18446744073709551615) (L : Nat → Nat) (i : Nat) (k : Int) : 0 ≤ cst C L i k ∧ cst C L i k ≤ 18446744073709551615 := by
  unfold cst; split
  · exact hC _ _
  · omega
theorem fits_of {C : Nat → Nat → Int} {L : Nat → Nat} {s : Sh} {i : Nat} (h : fitsB C L s i = true) : i < 64 ∧ s.out i + 1 < L i ∧ s.out i + 1 < 8 ∧ cst C L i (s.out i + 1) ≤ satI s.left (cst C L i (s.out i)) := by
  unfold fitsB at h
  simp only [Bool.and_eq_true, decide_eq_true_eq] at h
  obtain ⟨h1, h2, h3⟩ := h
  exact ⟨h1, by omega, by omega, h3⟩
theorem leftN_bd (l had has : Int) (l0 : 0 ≤ l) (l1 : l ≤ 18446744073709551615) (h0 : 0 ≤ had) (s0 : 0 ≤ has) (h : has ≤ satI l had) : 0 ≤ leftN l had has ∧ leftN l had has ≤ 18446744073709551615 := by
  unfold leftN
  unfold satI at h
  split
  · split at h <;> omega
  · exact satI_bd _ _ l0 (by omega)
/-- the best one's turn, by its number -/
theorem stepS_best {C : Nat → Nat → Int} {L : Nat → Nat} {s : Sh} {n b : Nat} (h : isBest C L s n b) : stepS C L n s = ⟨fun i => if i = b then s.out i + 1 else s.out i, leftN s.left (cst C L b (s.out b)) (cst C L b (s.out b + 1))⟩ := by
  have hb := bestN_of h
  unfold stepS
  rw [hb, if_neg (by omega), Int.toNat_natCast]
theorem SI.step {C : Nat → Nat → Int} (hC : ∀ i k, 0 ≤ C i k ∧ C i k ≤ 18446744073709551615) {L : Nat → Nat} {s : Sh} {n b : Nat} (h : SI s) (k : isBest C L s n b) : SI (stepS C L n s) := by
  rw [stepS_best k]
  obtain ⟨f1, f2, f3, f4⟩ := fits_of k.2.1
  have hl := leftN_bd s.left (cst C L b (s.out b)) (cst C L b (s.out b + 1)) h.l0 h.l1 (cst_bd hC L b _).1 (cst_bd hC L b _).1 f4
  refine ⟨fun i => ?_, fun i => ?_, hl.1, hl.2⟩
  · show -1 ≤ if i = b then s.out i + 1 else s.out i
    have := h.lo i; split <;> omega
  · show (if i = b then s.out i + 1 else s.out i) ≤ 7
    have := h.hi i; split
    · rename_i e; subst e; omega
    · omega
theorem room_upd (s : Sh) (b : Nat) (l : Int) (n : Nat) (h : s.out b ≤ 6) : (b < n → room ⟨fun i => if i = b then s.out i + 1 else s.out i, l⟩ n + 1 = room s n) ∧ (n ≤ b → room ⟨fun i => if i = b then s.out i + 1 else s.out i, l⟩ n = room s n) := by
  induction n with
  | zero => exact ⟨fun h => by omega, fun _ => rfl⟩
  | succ n ih =>
    have e : ∀ t, room t (n + 1) = room t n + (7 - t.out n).toNat := fun _ => rfl
    refine ⟨fun hb => ?_, fun hb => ?_⟩
    · rw [e, e]
      by_cases hbn : b = n
      · rw [ih.2 (by omega)]
        subst hbn
        show _ + (7 - if b = b then s.out b + 1 else s.out b).toNat + 1 = _
        rw [if_pos rfl]; omega
      · have h1 := ih.1 (by omega)
        show _ + (7 - if n = b then s.out n + 1 else s.out n).toNat + 1 = _
        rw [if_neg (by omega)]; omega
    · rw [e, e, ih.2 (by omega)]
      show _ + (7 - if n = b then s.out n + 1 else s.out n).toNat = _
      rw [if_neg (by omega)]
theorem room_step {C : Nat → Nat → Int} {L : Nat → Nat} {s : Sh} {n b : Nat} (k : isBest C L s n b) : room (stepS C L n s) n + 1 = room s n := by
  rw [stepS_best k]
  obtain ⟨f1, f2, f3, f4⟩ := fits_of k.2.1
  exact (room_upd s b _ n (by omega)).1 k.1
/-! ### Cost -/
def costN (C : Nat → Nat → Int) (L : Nat → Nat) (n : Nat) (Y : Nat → Int) : Nat → Int
  | 0 => 0
  | m + 1 => if m < n then satI (costN C L n Y m) (cst C L m (Y m)) else costN C L n Y m
theorem costN_bd {C : Nat → Nat → Int} (hC : ∀ i k, 0 ≤ C i k ∧ C i k ≤ 18446744073709551615) (L : Nat → Nat) (n : Nat) (Y : Nat → Int) (m : Nat) : 0 ≤ costN C L n Y m ∧ costN C L n Y m ≤ 18446744073709551615 := by
  induction m with
  | zero => unfold costN; omega
  | succ m ih =>
    unfold costN; split
    · exact satI_bd _ _ ih.1 (cst_bd hC L m _).1
    · exact ih
theorem costN_stop (C : Nat → Nat → Int) (L : Nat → Nat) (n : Nat) (Y : Nat → Int) (d : Nat) : costN C L n Y (n + d) = costN C L n Y n := by
  induction d with
  | zero => rfl
  | succ d ih =>
    have e : costN C L n Y (n + (d + 1)) = if n + d < n then satI (costN C L n Y (n + d)) (cst C L (n + d) (Y (n + d))) else costN C L n Y (n + d) := rfl
    rw [e, if_neg (by omega), ih]
/-- the sum without a bound -/
def tot (C : Nat → Nat → Int) (L : Nat → Nat) (Y : Nat → Int) : Nat → Int
  | 0 => 0
  | m + 1 => tot C L Y m + cst C L m (Y m)
theorem tot_mono {C : Nat → Nat → Int} (hC : ∀ i k, 0 ≤ C i k ∧ C i k ≤ 18446744073709551615) (L : Nat → Nat) (Y : Nat → Int) (m d : Nat) : 0 ≤ tot C L Y m ∧ tot C L Y m ≤ tot C L Y (m + d) := by
  have h0 : ∀ m, 0 ≤ tot C L Y m := by
    intro m; induction m with
    | zero => unfold tot; omega
    | succ m ih => have := (cst_bd hC L m (Y m)).1; unfold tot; omega
  refine ⟨h0 m, ?_⟩
  induction d with
  | zero => exact Int.le_refl _
  | succ d ih =>
    have e : tot C L Y (m + (d + 1)) = tot C L Y (m + d) + cst C L (m + d) (Y (m + d)) := rfl
    have := (cst_bd hC L (m + d) (Y (m + d))).1
    omega
theorem costN_tot {C : Nat → Nat → Int} (hC : ∀ i k, 0 ≤ C i k ∧ C i k ≤ 18446744073709551615) (L : Nat → Nat) (n : Nat) (Y : Nat → Int) (h : tot C L Y n ≤ 18446744073709551615) (m : Nat) (hm : m ≤ n) : costN C L n Y m = tot C L Y m := by
  induction m with
  | zero => rfl
  | succ m ih =>
    have h1 := (tot_mono hC L Y (m + 1) (n - (m + 1))).2
    rw [show m + 1 + (n - (m + 1)) = n by omega] at h1
    have e : tot C L Y (m + 1) = tot C L Y m + cst C L m (Y m) := rfl
    unfold costN
    rw [if_pos (by omega), ih (by omega)]
    unfold satI
    rw [if_pos (by omega), e]
theorem tot_upd (C : Nat → Nat → Int) (L : Nat → Nat) (Y : Nat → Int) (b : Nat) (v : Int) (n : Nat) : (b < n → tot C L (fun i => if i = b then v else Y i) n = tot C L Y n - cst C L b (Y b) + cst C L b v) ∧ (n ≤ b → tot C L (fun i => if i = b then v else Y i) n = tot C L Y n) := by
  induction n with
  | zero => exact ⟨fun h => by omega, fun _ => rfl⟩
  | succ n ih =>
    have e : ∀ Z, tot C L Z (n + 1) = tot C L Z n + cst C L n (Z n) := fun _ => rfl
    refine ⟨fun hb => ?_, fun hb => ?_⟩
    · rw [e, e]
      by_cases hbn : b = n
      · rw [ih.2 (by omega)]
        subst hbn
        show _ + cst C L b (if b = b then v else Y b) = _
        rw [if_pos rfl]; omega
      · have h1 := ih.1 (by omega)
        show _ + cst C L n (if n = b then v else Y n) = _
        rw [if_neg (by omega), h1]; omega
    · rw [e, e, ih.2 (by omega)]
      show _ + cst C L n (if n = b then v else Y n) = _
      rw [if_neg (by omega)]
theorem cst_neg (C : Nat → Nat → Int) (L : Nat → Nat) (i : Nat) : cst C L i (-1) = 0 := by unfold cst; rw [if_neg (by omega)]
theorem tot_zero (C : Nat → Nat → Int) (L : Nat → Nat) (n : Nat) : tot C L (fun _ => -1) n = 0 := by
  induction n with
  | zero => rfl
  | succ n ih => unfold tot; rw [ih, cst_neg]; rfl
/-- where no cost goes round, what is given and what is left are the rate -/
theorem fits_law {C : Nat → Nat → Int} (hC : ∀ i k, 0 ≤ C i k ∧ C i k ≤ 18446744073709551615) (L : Nat → Nat) (n : Nat) (rate : Int) (r0 : 0 ≤ rate) (r1 : rate ≤ 4294967295) (j : Nat) :
    SI (iterS C L n (sh0 rate) j) ∧ tot C L (iterS C L n (sh0 rate) j).out n + (iterS C L n (sh0 rate) j).left = rate := by
  induction j with
  | zero => exact ⟨⟨fun i => by show (-1 : Int) ≤ -1; omega, fun i => by show (-1 : Int) ≤ 7; omega, r0, by show rate ≤ _; omega⟩, by show tot C L (fun _ => -1) n + rate = rate; rw [tot_zero]; omega⟩
  | succ j ih =>
    obtain ⟨h1, h2⟩ := ih
    have e : iterS C L n (sh0 rate) (j + 1) = stepS C L n (iterS C L n (sh0 rate) j) := rfl
    rw [e]
    generalize iterS C L n (sh0 rate) j = s at *
    rcases bestN_none C L s n with ⟨k1, k2⟩ | ⟨k1, k2⟩
    · unfold stepS; rw [if_pos k1]; exact ⟨h1, h2⟩
    · generalize (bestN C L s n).toNat = b at *
      refine ⟨SI.step hC h1 k2, ?_⟩
      rw [stepS_best k2]
      obtain ⟨f1, f2, f3, f4⟩ := fits_of k2.2.1
      have hb := k2.1
      have hu := (tot_upd C L s.out b (s.out b + 1) n).1 hb
      have hf : (fun i => if i = b then s.out i + 1 else s.out i) = fun i => if i = b then s.out b + 1 else s.out i := by
        funext i; by_cases h : i = b
        · rw [if_pos h, if_pos h, h]
        · rw [if_neg h, if_neg h]
      show tot C L (fun i => if i = b then s.out i + 1 else s.out i) n + leftN s.left _ _ = rate
      rw [hf, hu]
      have hm1 : cst C L b (s.out b) ≤ tot C L s.out (b + 1) := by
        have e2 : tot C L s.out (b + 1) = tot C L s.out b + cst C L b (s.out b) := rfl
        have := (tot_mono hC L s.out b 0).1; omega
      have hm2 := (tot_mono hC L s.out (b + 1) (n - (b + 1))).2
      rw [show b + 1 + (n - (b + 1)) = n by omega] at hm2
      have hc := (cst_bd hC L b (s.out b + 1)).1
      have hl := h1.l0
      unfold leftN
      split
      · omega
      · unfold satI; rw [if_pos (by omega)]; omega
end Go.Proofs.Ytkemkplmhjmahaa
