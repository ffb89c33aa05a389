/-
  The plain law of WindowMarks: the ones of the window are those that were there.
-/
import Derived.Test.YtkdjkaimcciemaaWinRef3
namespace Go.Proofs.Ytkdjkaimcciemaa
open Go.RowKit
set_option linter.unusedVariables false
set_option linter.unusedSimpArgs false

/-- how many of the first n -/
def sumb (f : Nat → Bool) : Nat → Nat
  | 0 => 0
  | n + 1 => sumb f n + if f n = true then 1 else 0
theorem sumb_first (f : Nat → Bool) (n : Nat) : sumb f (n + 1) = (if f 0 = true then 1 else 0) + sumb (fun j => f (j + 1)) n := by
  induction n with
  | zero => simp [sumb]
  | succ n ih =>
    have e : sumb f (n + 1 + 1) = sumb f (n + 1) + if f (n + 1) = true then 1 else 0 := rfl
    have e2 : sumb (fun j => f (j + 1)) (n + 1) = sumb (fun j => f (j + 1)) n + if f (n + 1) = true then 1 else 0 := rfl
    rw [e, e2, ih]
    omega
theorem pcs_sumb (n : Nat) : ∀ x, pcs n x = sumb (fun j => x.testBit j) n := by
  induction n with
  | zero => intro x; rfl
  | succ n ih =>
    intro x
    rw [sumb_first, pcs_s, ih]
    have e : (if x.testBit 0 = true then 1 else 0) = x % 2 := by
      rw [Nat.testBit_zero]
      by_cases h : x % 2 = 1
      · simp [h]
      · simp [h]; omega
    rw [e]
    have e2 : (fun j => (x / 2).testBit j) = fun j => x.testBit (j + 1) := by
      funext j; rw [Nat.testBit_succ]
    rw [e2]
theorem sumb_congr (f f' : Nat → Bool) (n : Nat) (h : ∀ j, j < n → f j = f' j) : sumb f n = sumb f' n := by
  induction n with
  | zero => rfl
  | succ n ih => unfold sumb; rw [ih (fun j hj => h j (by omega)), h n (by omega)]
theorem sumb_one (f : Nat → Bool) (t : Nat) (ht : f t = false) (m : Nat) : sumb (fun j => f j || decide (j = t)) m = sumb f m + if t < m then 1 else 0 := by
  induction m with
  | zero => rfl
  | succ m ih =>
    unfold sumb
    rw [ih]
    by_cases h : m = t
    · subst h
      simp [ht]
    · have hd : decide (m = t) = false := decide_eq_false h
      have e : (if t < m + 1 then 1 else 0) = (if t < m then 1 else 0) := by
        by_cases h2 : t < m
        · rw [if_pos h2, if_pos (by omega)]
        · rw [if_neg h2, if_neg (by omega)]
      rw [e]
      simp only [hd, Bool.or_false]
      omega
theorem rcnt_sumb (X : Nat → Int) (h : Int) (N : Nat) (hi : ∀ i, i < N → X i ≤ h) (hd : ∀ i k, i < N → k < i → X k ≠ X i) : rcnt X h N = sumb (fun j => rhas X (h - j) N) 64 := by
  induction N with
  | zero =>
    have : ∀ m, sumb (fun j => rhas X (h - j) 0) m = 0 := by
      intro m; induction m with
      | zero => rfl
      | succ m ih => unfold sumb; rw [ih]; rfl
    rw [this]; rfl
  | succ N ih =>
    have h1 := ih (fun i h => hi i (by omega)) (fun i k h => hd i k (by omega))
    have h2 := hi N (by omega)
    have e : rcnt X h (N + 1) = rcnt X h N + if h < X N + 64 then 1 else 0 := rfl
    rw [e, h1]
    have ht : rhas X (h - ((h - X N).toNat : Int)) N = false := by
      rw [show h - ((h - X N).toNat : Int) = X N by omega]
      cases hc : rhas X (X N) N
      · rfl
      · obtain ⟨k, k1, k2⟩ := (rhas_of X (X N) N).1 hc
        exact absurd k2 (hd N k (by omega) k1)
    have e3 := sumb_one (fun j => rhas X (h - j) N) (h - X N).toNat ht 64
    have e4 : sumb (fun j => rhas X (h - j) (N + 1)) 64 = sumb (fun j => rhas X (h - j) N || decide (j = (h - X N).toNat)) 64 := sumb_congr _ _ 64 fun j hj => by
      show (rhas X (h - j) N || (X N == h - j)) = _
      have : (X N == h - (j : Int)) = decide (j = (h - X N).toNat) := by
        by_cases hq : X N = h - j
        · rw [decide_eq_true (by omega), hq]; simp
        · rw [decide_eq_false (by omega)]; simpa using hq
      rw [this]
    rw [e4, e3]
    by_cases hq : h < X N + 64
    · rw [if_pos hq, if_pos (by omega)]
    · rw [if_neg hq, if_neg (by omega)]
/-- what holds between the program's window and the reference's list -/
structure WI (n b : Int) (N : Nat) (X : Nat → Int) : Prop where
  n0 : 0 ≤ n
  n1 : n ≤ 4611686018427387905
  b0 : 0 ≤ b
  b1 : b ≤ 18446744073709551615
  top : mx X N = n - 1
  el : ∀ i, i < N → 0 ≤ X i ∧ X i ≤ n - 1
  dist : ∀ i k, i < N → k < i → X k ≠ X i
  bit : ∀ j, j < 64 → b.toNat.testBit j = rhas X (n - 1 - j) N
theorem WI.zero (X : Nat → Int) : WI 0 0 0 X := ⟨by omega, by omega, by omega, by omega, rfl, fun i h => by omega, fun i k h => by omega, fun j hj => by simp [rhas]⟩
theorem WI.count {n b : Int} {N : Nat} {X : Nat → Int} (h : WI n b N X) : pcs 64 b.toNat = rcnt X (mx X N) N := by
  rw [h.top, rcnt_sumb X (n - 1) N (fun i hi => (h.el i hi).2) h.dist, pcs_sumb]
  exact sumb_congr _ _ 64 h.bit
theorem WI.fresh {n b : Int} {N : Nat} {X : Nat → Int} (h : WI n b N X) (i : Int) : freshB n b i = rfr X N i := by
  unfold freshB rfr
  rw [h.top]
  by_cases h0 : 0 ≤ i
  · rw [decide_eq_true h0, Bool.true_and, Bool.true_and]
    by_cases h1 : n ≤ i
    · have hr : rhas X i N = false := by
        cases hc : rhas X i N
        · rfl
        · obtain ⟨k, k1, k2⟩ := (rhas_of X i N).1 hc
          have := (h.el k k1).2
          omega
      rw [hr, decide_eq_true h1, decide_eq_true (by omega : n - 1 < i + 64)]
      rfl
    · rw [decide_eq_false h1, Bool.false_or]
      by_cases h2 : n - 1 - i < 64
      · have hb := h.bit (n - 1 - i).toNat (by omega)
        rw [show n - 1 - ((n - 1 - i).toNat : Int) = i by omega] at hb
        rw [hb, decide_eq_true h2, decide_eq_true (by omega : n - 1 < i + 64)]
      · rw [decide_eq_false h2, decide_eq_false (by omega : ¬ n - 1 < i + 64)]
        rfl
  · rw [decide_eq_false h0]
    rfl
theorem mx_upd (X : Nat → Int) (N : Nat) (i : Int) (m : Nat) (hm : m ≤ N) : mx (fun j => if j = N then i else X j) m = mx X m := by
  induction m with
  | zero => rfl
  | succ m ih =>
    have e : ∀ Z, mx Z (m + 1) = if mx Z m < Z m then Z m else mx Z m := fun _ => rfl
    rw [e, e, ih (by omega), if_neg (by omega : ¬ m = N)]
theorem rhas_upd (X : Nat → Int) (N : Nat) (i x : Int) (m : Nat) (hm : m ≤ N) : rhas (fun j => if j = N then i else X j) x m = rhas X x m := by
  induction m with
  | zero => rfl
  | succ m ih =>
    have e : ∀ Z : Nat → Int, rhas Z x (m + 1) = (rhas Z x m || (Z m == x)) := fun _ => rfl
    rw [e, e, ih (by omega), if_neg (by omega : ¬ m = N)]
theorem WI.mark {n b : Int} {N : Nat} {X : Nat → Int} (h : WI n b N X) (i : Int) (hi : i ≤ 4611686018427387904) (hf : freshB n b i = true) : WI (markN n i) (markB n b i) (N + 1) (fun j => if j = N then i else X j) := by
  have hr := h.fresh i
  rw [hf] at hr
  have hr2 : 0 ≤ i ∧ n - 1 < i + 64 ∧ rhas X i N = false := by
    have := hr.symm
    unfold rfr at this
    rw [h.top] at this
    simpa using this
  have hB := markB_bd n b i h.b0 h.b1 hf
  have hN := markN_bd n i h.n0 h.n1 hi
  have n0 := h.n0
  have hmx : mx (fun j => if j = N then i else X j) (N + 1) = if mx X N < i then i else mx X N := by
    have e : ∀ Z, mx Z (N + 1) = if mx Z N < Z N then Z N else mx Z N := fun _ => rfl
    rw [e, mx_upd X N i N (Nat.le_refl _), if_pos rfl]
  have hrh : ∀ x, rhas (fun j => if j = N then i else X j) x (N + 1) = (rhas X x N || (i == x)) := fun x => by
    have e : ∀ Z : Nat → Int, rhas Z x (N + 1) = (rhas Z x N || (Z N == x)) := fun _ => rfl
    rw [e, rhas_upd X N i x N (Nat.le_refl _), if_pos rfl]
  refine ⟨by omega, hN.2, hB.1, hB.2, ?_, fun k hk => ?_, fun a k ha hk => ?_, fun j hj => ?_⟩
  · rw [hmx, h.top]
    unfold markN
    by_cases hc : n ≤ i
    · rw [if_pos (by omega), if_pos hc]; omega
    · rw [if_neg (by omega), if_neg hc]
  · by_cases hkN : k = N
    · rw [if_pos hkN]; unfold markN; split <;> omega
    · rw [if_neg hkN]; have := h.el k (by omega); omega
  · rw [if_neg (by omega : ¬ k = N)]
    by_cases haN : a = N
    · rw [if_pos haN]
      intro he
      have := (rhas_of X i N).2 ⟨k, by omega, he⟩
      rw [hr2.2.2] at this
      exact absurd this (by decide)
    · rw [if_neg haN]; exact h.dist a k (by omega) hk
  · rw [bit_mark n b i j hj h.b0 h.b1 hf, hrh]
    unfold markN
    by_cases hc : n ≤ i
    · rw [if_pos hc, if_pos hc]
      have e1 : (i == i + 1 - 1 - (j : Int)) = decide (j = 0) := by
        by_cases hj0 : j = 0
        · rw [decide_eq_true hj0, beq_iff_eq]; omega
        · rw [decide_eq_false hj0, beq_eq_false_iff_ne]; omega
      rw [e1, Bool.or_comm]
      congr 1
      by_cases hq : (i + 1 - n).toNat ≤ j
      · rw [decide_eq_true hq, Bool.true_and, h.bit _ (by omega)]
        congr 1
        omega
      · rw [decide_eq_false hq, Bool.false_and]
        symm
        cases hcc : rhas X (i + 1 - 1 - (j : Int)) N
        · rfl
        · obtain ⟨k, k1, k2⟩ := (rhas_of X _ N).1 hcc
          have := (h.el k k1).2
          omega
    · rw [if_neg hc, if_neg hc, h.bit j hj]
      congr 1
      by_cases hq : j = (n - 1 - i).toNat
      · rw [decide_eq_true hq]; symm; rw [beq_iff_eq]; omega
      · rw [decide_eq_false hq]; symm; rw [beq_eq_false_iff_ne]; omega
end Go.Proofs.Ytkdjkaimcciemaa
