/-
  Chapter 37, plain: signs and steps of ticks, runs and rows of signs, the bytes they make.
-/
import Derived.Test.YtihbceippcgfgaaBase
namespace Go.Proofs.Ytihbceippcgfgaa
open Go.RowKit
set_option linter.unusedVariables false
set_option linter.unusedSimpArgs false

/-- the last tick of the first k that came -/
def ahd (X : Nat → Int) : Nat → Int
  | 0 => 0
  | k + 1 => if X k = -1 then ahd X k else X k
def stp (X : Nat → Int) (k : Nat) : Int := if X k = -1 then 0 else X k - ahd X k
def sg (X : Nat → Int) (k : Nat) : Int := if X k = -1 then 0 else if 0 ≤ stp X k ∧ stp X k ≤ 255 then 1 else 2
def ok1 (X : Nat → Int) (k : Nat) : Prop := -1 ≤ X k ∧ X k ≤ 1048575 ∧ -32768 ≤ stp X k ∧ stp X k ≤ 32767
def good (X : Nat → Int) (n : Nat) : Prop := ∀ k, k < n → ok1 X k
/-- the steps of those that came -/
def cs (X : Nat → Int) : Nat → List Int
  | 0 => []
  | k + 1 => cs X k ++ (if X k = -1 then [] else [stp X k])
theorem cs_len (X : Nat → Int) (k : Nat) : (cs X k).length ≤ k := by
  induction k with
  | zero => exact Nat.le_refl _
  | succ k ih => unfold cs; rw [List.length_append]; split <;> simp <;> omega
theorem cs_get (X : Nat → Int) {k : Nat} (hk : X k ≠ -1) {n : Nat} (h : k < n) : (cs X n)[(cs X k).length]? = some (stp X k) := by
  induction n with
  | zero => omega
  | succ n ih =>
    by_cases e : k = n
    · subst e
      show (cs X k ++ (if X k = -1 then [] else [stp X k]))[(cs X k).length]? = _
      rw [if_neg hk]; simp
    · have h2 := ih (by omega)
      show (cs X n ++ (if X n = -1 then [] else [stp X n]))[(cs X k).length]? = _
      rw [List.getElem?_append_left (List.getElem?_eq_some_iff.1 h2).1]; exact h2
theorem sg_bd (X : Nat → Int) (k : Nat) : 0 ≤ sg X k ∧ sg X k ≤ 2 := by unfold sg; split <;> (try split) <;> omega
theorem sg_zero {X : Nat → Int} {k : Nat} : sg X k = 0 ↔ X k = -1 := by unfold sg; split <;> (try split) <;> omega
theorem ahd_succ (X : Nat → Int) (k : Nat) : ahd X (k + 1) = if X k = -1 then ahd X k else X k := rfl
theorem ahd_stp (X : Nat → Int) (k : Nat) : ahd X (k + 1) = ahd X k + stp X k := by rw [ahd_succ]; unfold stp; split <;> omega
theorem ahd_bd {X : Nat → Int} {n : Nat} (h : good X n) : ∀ k, k ≤ n → 0 ≤ ahd X k ∧ ahd X k ≤ 1048575 := by
  intro k
  induction k with
  | zero => intro _; exact ⟨Int.le_refl _, by show (0 : Int) ≤ _; omega⟩
  | succ k ih =>
    intro hk
    have h1 := ih (by omega)
    have h2 := h k (by omega)
    rw [ahd_succ]; unfold ok1 at h2
    split <;> omega

/-! ### Runs -/
structure IsRun (σ : Nat → Int) (n p r : Nat) : Prop where
  pos : 1 ≤ r
  le : p + r ≤ n
  all : ∀ i, i < r → σ (p + i) = σ p
  fin : p + r = n ∨ σ (p + r) ≠ σ p
theorem IsRun.uniq {σ : Nat → Int} {n p r q : Nat} (h : IsRun σ n p r) (k : IsRun σ n p q) : r = q := by
  rcases Nat.lt_trichotomy r q with l | l | l
  · rcases h.fin with f | f
    · have := k.le; omega
    · exact absurd (k.all r l) f
  · exact l
  · rcases k.fin with f | f
    · have := h.le; omega
    · exact absurd (h.all q l) f
def ra (σ : Nat → Int) (p : Nat) : Nat → Nat → Nat
  | c, 0 => c
  | c, m + 1 => if σ (p + c) = σ p then ra σ p (c + 1) m else c
theorem ra_run (σ : Nat → Int) (n p : Nat) : ∀ m c, 1 ≤ c → p + c + m = n → (∀ i, i < c → σ (p + i) = σ p) → IsRun σ n p (ra σ p c m) := by
  intro m
  induction m with
  | zero => intro c h1 h2 h3; exact ⟨h1, by show p + c ≤ n; omega, h3, .inl (by show p + c = n; omega)⟩
  | succ m ih =>
    intro c h1 h2 h3
    unfold ra
    split
    · rename_i he
      refine ih (c + 1) (by omega) (by omega) (fun i hi => ?_)
      by_cases e : i = c
      · subst e; exact he
      · exact h3 i (by omega)
    · rename_i he
      exact ⟨h1, by omega, h3, .inr he⟩
def rl (σ : Nat → Int) (n p : Nat) : Nat := ra σ p 1 (n - p - 1)
theorem rl_run {σ : Nat → Int} {n p : Nat} (h : p < n) : IsRun σ n p (rl σ n p) := ra_run σ n p _ 1 (Nat.le_refl _) (by show p + 1 + (n - p - 1) = n; omega) (fun i hi => by
  obtain rfl : i = 0 := by omega
  rfl)

/-! ### Words -/
def isR (σ : Nat → Int) (n p : Nat) : Prop := 7 ≤ rl σ n p ∨ p + rl σ n p = n
instance (σ : Nat → Int) (n p : Nat) : Decidable (isR σ n p) := by unfold isR; infer_instance
def dg (σ : Nat → Int) (n p i : Nat) : Int := if p + i < n then σ (p + i) else 0
def rowW (σ : Nat → Int) (n p : Nat) : Int := 32768 + dg σ n p 0 * 4096 + dg σ n p 1 * 1024 + dg σ n p 2 * 256 + dg σ n p 3 * 64 + dg σ n p 4 * 16 + dg σ n p 5 * 4 + dg σ n p 6
def wd (σ : Nat → Int) (n p : Nat) : Int := if isR σ n p then σ p * 8192 + rl σ n p else rowW σ n p
def nx (σ : Nat → Int) (n p : Nat) : Nat := if isR σ n p then p + rl σ n p else p + 7
def pos (σ : Nat → Int) (n : Nat) : Nat → Nat
  | 0 => 0
  | j + 1 => nx σ n (pos σ n j)
theorem nx_lt {σ : Nat → Int} {n p : Nat} (h : p < n) : p < nx σ n p := by
  have := (rl_run (σ := σ) h).pos
  unfold nx; split <;> omega
theorem dg_bd {σ : Nat → Int} (hσ : ∀ i, 0 ≤ σ i ∧ σ i ≤ 2) (n p i : Nat) : 0 ≤ dg σ n p i ∧ dg σ n p i ≤ 2 := by
  unfold dg; split
  · exact hσ _
  · omega
theorem wd_bd {σ : Nat → Int} (hσ : ∀ i, 0 ≤ σ i ∧ σ i ≤ 2) {n p : Nat} (h : p < n) (hn : n ≤ 400) : 0 ≤ wd σ n p ∧ wd σ n p ≤ 65535 := by
  have h1 := (rl_run (σ := σ) h).le
  have h2 := hσ p
  have d := fun i => dg_bd hσ n p i
  have d0 := d 0; have d1 := d 1; have d2 := d 2; have d3 := d 3; have d4 := d 4; have d5 := d 5; have d6 := d 6
  unfold wd rowW
  split <;> omega
/-- how many words -/
def Many (σ : Nat → Int) (n J : Nat) : Prop := n ≤ pos σ n J ∧ ∀ j, j < J → pos σ n j < n
theorem Many.uniq {σ : Nat → Int} {n J K : Nat} (h : Many σ n J) (k : Many σ n K) : J = K := by
  rcases Nat.lt_trichotomy J K with l | l | l
  · have := k.2 J l; have := h.1; omega
  · exact l
  · have := h.2 K l; have := k.1; omega
theorem pos_ge {σ : Nat → Int} {n J : Nat} (h : ∀ j, j < J → pos σ n j < n) : J ≤ pos σ n J := by
  induction J with
  | zero => exact Nat.zero_le _
  | succ J ih =>
    have h1 := ih (fun j hj => h j (by omega))
    have h2 := nx_lt (σ := σ) (h J (by omega))
    show J + 1 ≤ nx σ n (pos σ n J)
    omega
theorem Many.le {σ : Nat → Int} {n J : Nat} (h : Many σ n J) : J ≤ n := by
  cases J with
  | zero => exact Nat.zero_le _
  | succ J =>
    have h1 := pos_ge (σ := σ) (n := n) (J := J) (fun j hj => h.2 j (by omega))
    have h2 := h.2 J (by omega)
    omega

/-! ### Bytes -/
def wbs (σ : Nat → Int) (n : Nat) : Nat → List Int
  | 0 => []
  | j + 1 => wbs σ n j ++ [wd σ n (pos σ n j) / 256, wd σ n (pos σ n j) % 256]
def sb (X : Nat → Int) (k : Nat) : List Int := if X k = -1 then [] else if sg X k = 1 then [stp X k] else [stp X k % 65536 / 256, stp X k % 65536 % 256]
def sbs (X : Nat → Int) : Nat → List Int
  | 0 => []
  | k + 1 => sbs X k ++ sb X k
theorem wbs_len (σ : Nat → Int) (n j : Nat) : (wbs σ n j).length = 2 * j := by
  induction j with
  | zero => rfl
  | succ j ih => unfold wbs; simp [ih]; omega
theorem sb_len (X : Nat → Int) (k : Nat) : ((sb X k).length : Int) = sg X k := by
  unfold sb
  by_cases h : X k = -1
  · rw [if_pos h, sg_zero.2 h]; rfl
  · rw [if_neg h]
    have h1 := sg_bd X k
    have h2 : sg X k ≠ 0 := fun e => h (sg_zero.1 e)
    split
    · rename_i e; rw [e]; rfl
    · show (2 : Int) = _; omega
theorem sbs_len (X : Nat → Int) (k : Nat) : (sbs X k).length ≤ 2 * k := by
  induction k with
  | zero => exact Nat.le_refl _
  | succ k ih =>
    have h1 := sb_len X k
    have h2 := sg_bd X k
    unfold sbs; rw [List.length_append]; omega
def hd4 (base : Int) (n : Nat) : List Int := [base / 256, base % 256, (n : Int) / 256, (n : Int) % 256]
/-- all bytes -/
def pks (base : Int) (X : Nat → Int) (n J : Nat) : List Int := hd4 base n ++ wbs (sg X) n J ++ sbs X n
theorem sg_one {X : Nat → Int} {k : Nat} (h : sg X k = 1) : 0 ≤ stp X k ∧ stp X k ≤ 255 := by
  unfold sg at h; split at h
  · omega
  · split at h <;> first | assumption | omega
theorem sb_oct {X : Nat → Int} {k : Nat} : ∀ x ∈ sb X k, 0 ≤ x ∧ x ≤ 255 := by
  intro x hx
  unfold sb at hx
  split at hx
  · cases hx
  · split at hx
    · rename_i h; have := sg_one h; simp at hx; omega
    · simp at hx; omega
theorem sbs_oct {X : Nat → Int} {k : Nat} : ∀ x ∈ sbs X k, 0 ≤ x ∧ x ≤ 255 := by
  induction k with
  | zero => intro x hx; cases hx
  | succ k ih =>
    intro x hx
    rcases List.mem_append.1 hx with h | h
    · exact ih x h
    · exact sb_oct x h
theorem wbs_oct {σ : Nat → Int} (hσ : ∀ i, 0 ≤ σ i ∧ σ i ≤ 2) {n J : Nat} (hn : n ≤ 400) (h : ∀ j, j < J → pos σ n j < n) : ∀ x ∈ wbs σ n J, 0 ≤ x ∧ x ≤ 255 := by
  induction J with
  | zero => intro x hx; cases hx
  | succ J ih =>
    intro x hx
    rcases List.mem_append.1 hx with k | k
    · exact ih (fun j hj => h j (by omega)) x k
    · have := wd_bd hσ (h J (by omega)) hn
      simp at k; omega
theorem hd4_oct {base : Int} {n : Nat} (hb : 0 ≤ base ∧ base ≤ 65535) (hn : n ≤ 400) : ∀ x ∈ hd4 base n, 0 ≤ x ∧ x ≤ 255 := by
  intro x hx; simp [hd4] at hx; omega
/-- a word's place -/
theorem wbs_get {σ : Nat → Int} {n : Nat} {j J : Nat} (h : j < J) : (wbs σ n J)[2 * j]? = some (wd σ n (pos σ n j) / 256) ∧ (wbs σ n J)[2 * j + 1]? = some (wd σ n (pos σ n j) % 256) := by
  induction J with
  | zero => omega
  | succ J ih =>
    unfold wbs
    by_cases e : j = J
    · subst e
      rw [List.getElem?_append_right (by rw [wbs_len]; omega), List.getElem?_append_right (by rw [wbs_len]; omega), wbs_len]
      simp
    · obtain ⟨h1, h2⟩ := ih (by omega)
      rw [List.getElem?_append_left (List.getElem?_eq_some_iff.1 h1).1, List.getElem?_append_left (List.getElem?_eq_some_iff.1 h2).1]
      exact ⟨h1, h2⟩
/-- a step's place -/
theorem sbs_get {X : Nat → Int} {k n : Nat} (h : k < n) {i : Nat} {u : Int} (hu : (sb X k)[i]? = some u) : (sbs X n)[(sbs X k).length + i]? = some u := by
  induction n with
  | zero => omega
  | succ n ih =>
    show (sbs X n ++ sb X n)[_]? = _
    by_cases e : k = n
    · subst e
      rw [List.getElem?_append_right (by omega), Nat.add_sub_cancel_left]
      exact hu
    · have h2 := ih (by omega)
      rw [List.getElem?_append_left (List.getElem?_eq_some_iff.1 h2).1]; exact h2
theorem pks_head (base : Int) (X : Nat → Int) (n J : Nat) : (pks base X n J)[0]? = some (base / 256) ∧ (pks base X n J)[1]? = some (base % 256) ∧ (pks base X n J)[2]? = some ((n : Int) / 256) ∧ (pks base X n J)[3]? = some ((n : Int) % 256) := by
  simp [pks, hd4]
theorem pks_word {base : Int} {X : Nat → Int} {n J j : Nat} (h : j < J) : (pks base X n J)[4 + 2 * j]? = some (wd (sg X) n (pos (sg X) n j) / 256) ∧ (pks base X n J)[4 + 2 * j + 1]? = some (wd (sg X) n (pos (sg X) n j) % 256) := by
  have hl : (hd4 base n).length = 4 := rfl
  have h2 := wbs_get (σ := sg X) (n := n) h
  have hw := wbs_len (sg X) n J
  have hb : (hd4 base n ++ wbs (sg X) n J).length = 4 + 2 * J := by rw [List.length_append, hw, hl]
  unfold pks
  constructor
  · rw [List.getElem?_append_left (by rw [hb]; omega), List.getElem?_append_right (by rw [hl]; omega), hl, show 4 + 2 * j - 4 = 2 * j by omega]
    exact h2.1
  · rw [List.getElem?_append_left (by rw [hb]; omega), List.getElem?_append_right (by rw [hl]; omega), hl, show 4 + 2 * j + 1 - 4 = 2 * j + 1 by omega]
    exact h2.2
theorem pks_step {base : Int} {X : Nat → Int} {n J k : Nat} (h : k < n) {i : Nat} {u : Int} (hu : (sb X k)[i]? = some u) : (pks base X n J)[4 + 2 * J + (sbs X k).length + i]? = some u := by
  have hl : (hd4 base n ++ wbs (sg X) n J).length = 4 + 2 * J := by rw [List.length_append, wbs_len]; rfl
  unfold pks
  rw [List.getElem?_append_right (by rw [hl]; omega), hl, show 4 + 2 * J + (sbs X k).length + i - (4 + 2 * J) = (sbs X k).length + i by omega]
  exact sbs_get h hu
theorem pks_len (base : Int) (X : Nat → Int) (n J : Nat) : (pks base X n J).length = 4 + 2 * J + (sbs X n).length := by
  unfold pks; rw [List.length_append, List.length_append, wbs_len]; rfl
end Go.Proofs.Ytihbceippcgfgaa
