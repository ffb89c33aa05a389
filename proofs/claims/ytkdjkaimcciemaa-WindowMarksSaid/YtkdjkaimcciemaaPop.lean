/-
  The plain law of bits.OnesCount64: the sum of the bits.
-/
import Derived.Test.YtkdjkaimcciemaaBase
namespace Go.Proofs.Ytkdjkaimcciemaa
open Go.RowKit
set_option linter.unusedVariables false
set_option linter.unusedSimpArgs false

/-- the number of ones among the lowest n bits -/
def pcs : Nat → Nat → Nat
  | 0, _ => 0
  | n + 1, x => x % 2 + pcs n (x / 2)
/-- a byte, n times over -/
def rep (m : Nat) : Nat → Nat
  | 0 => 0
  | n + 1 => m + 256 * rep m n
theorem rep_s (m n : Nat) : rep m (n + 1) = m + 256 * rep m n := rfl
theorem pcs_s (n x : Nat) : pcs (n + 1) x = x % 2 + pcs n (x / 2) := rfl
theorem and_byte (l h m k : Nat) (hl : l < 256) (hm : m < 256) : (l + 256 * h) &&& (m + 256 * k) = (l &&& m) + 256 * (h &&& k) := by
  have e1 : ((l + 256 * h) &&& (m + 256 * k)) % 2 ^ 8 = l &&& m := by
    rw [Nat.and_mod_two_pow]
    have a1 : (l + 256 * h) % 2 ^ 8 = l := by omega
    have a2 : (m + 256 * k) % 2 ^ 8 = m := by omega
    rw [a1, a2]
  have e2 : ((l + 256 * h) &&& (m + 256 * k)) / 2 ^ 8 = h &&& k := by
    rw [Nat.and_div_two_pow]
    have a1 : (l + 256 * h) / 2 ^ 8 = h := by omega
    have a2 : (m + 256 * k) / 2 ^ 8 = k := by omega
    rw [a1, a2]
  omega
def s1 (n x : Nat) : Nat := (x / 2 &&& rep 85 n) + (x &&& rep 85 n)
def s2 (n x : Nat) : Nat := (x / 4 &&& rep 51 n) + (x &&& rep 51 n)
def s3 (n x : Nat) : Nat := (x / 16 + x) &&& rep 15 n
def t1 (l : Nat) : Nat := (l / 2 &&& 85) + (l &&& 85)
def t2 (l : Nat) : Nat := (l / 4 &&& 51) + (l &&& 51)
def t3 (l : Nat) : Nat := (l / 16 + l) &&& 15
theorem t1_lt : ∀ l : Fin 256, t1 l.val < 256 := by decide +kernel
theorem t2_lt : ∀ l : Fin 256, t2 (t1 l.val) % 16 ≤ 4 ∧ t2 (t1 l.val) ≤ 68 := by decide +kernel
theorem t3_eq : ∀ l : Fin 256, t3 (t2 (t1 l.val)) = pcs 8 l.val := by decide +kernel
theorem and85 : ∀ (l : Fin 256) (b : Fin 2), (l.val / 2 + 128 * b.val) &&& 85 = l.val / 2 &&& 85 := by decide +kernel
theorem and51 : ∀ (l : Fin 256) (b : Fin 4), (l.val / 4 + 64 * b.val) &&& 51 = l.val / 4 &&& 51 := by decide +kernel
theorem s1_byte (n l h : Nat) (hl : l < 256) : s1 (n + 1) (l + 256 * h) = t1 l + 256 * s1 n h := by
  unfold s1
  rw [rep_s]
  have e : (l + 256 * h) / 2 = (l / 2 + 128 * (h % 2)) + 256 * (h / 2) := by omega
  rw [e, and_byte _ _ _ _ (by omega) (by omega), and_byte _ _ _ _ hl (by omega)]
  have a := and85 ⟨l, hl⟩ ⟨h % 2, by omega⟩
  simp only at a
  rw [a]
  unfold t1
  omega
theorem s2_byte (n l h : Nat) (hl : l < 256) : s2 (n + 1) (l + 256 * h) = t2 l + 256 * s2 n h := by
  unfold s2
  rw [rep_s]
  have e : (l + 256 * h) / 4 = (l / 4 + 64 * (h % 4)) + 256 * (h / 4) := by omega
  rw [e, and_byte _ _ _ _ (by omega) (by omega), and_byte _ _ _ _ hl (by omega)]
  have a := and51 ⟨l, hl⟩ ⟨h % 4, by omega⟩
  simp only at a
  rw [a]
  unfold t2
  omega
theorem and_15 (x : Nat) : x &&& 15 = x % 16 := Nat.and_two_pow_sub_one_eq_mod x 4
theorem s3_byte (n l h : Nat) (hl : l ≤ 68) (hh : h % 16 ≤ 4) : s3 (n + 1) (l + 256 * h) = t3 l + 256 * s3 n h := by
  unfold s3
  rw [rep_s]
  have e : (l + 256 * h) / 16 + (l + 256 * h) = (l / 16 + l + 16 * (h % 16)) + 256 * (h / 16 + h) := by omega
  rw [e, and_byte _ _ _ _ (by omega) (by omega), and_15]
  unfold t3
  rw [and_15]
  omega
/-- the bytes' counts, byte by byte -/
def pby : Nat → Nat → Nat
  | 0, _ => 0
  | n + 1, x => pcs 8 (x % 256) + 256 * pby n (x / 256)
theorem pby_eq (n : Nat) : ∀ x, x < 256 ^ n → s3 n (s2 n (s1 n x)) = pby n x ∧ s2 n (s1 n x) % 16 ≤ 4 := by
  induction n with
  | zero => intro x hx; have : x = 0 := by simpa using hx
            subst this; exact ⟨rfl, by decide⟩
  | succ n ih =>
    intro x hx
    have hd : x = x % 256 + 256 * (x / 256) := by omega
    have hl : x % 256 < 256 := Nat.mod_lt _ (by omega)
    have hh : x / 256 < 256 ^ n := Nat.div_lt_of_lt_mul (by rw [Nat.pow_succ] at hx; omega)
    obtain ⟨i1, i2⟩ := ih _ hh
    have q1 := t1_lt ⟨x % 256, hl⟩
    have q2 := t2_lt ⟨x % 256, hl⟩
    have q3 := t3_eq ⟨x % 256, hl⟩
    simp only at q1 q2 q3
    have e1 : s1 (n + 1) x = t1 (x % 256) + 256 * s1 n (x / 256) := by rw [← s1_byte n _ _ hl, ← hd]
    have e2 : s2 (n + 1) (s1 (n + 1) x) = t2 (t1 (x % 256)) + 256 * s2 n (s1 n (x / 256)) := by rw [e1, s2_byte n _ _ q1]
    refine ⟨?_, by rw [e2]; omega⟩
    rw [e2, s3_byte n _ _ q2.2 i2, i1, q3]
    rfl
theorem pcs_le (n : Nat) : ∀ x, pcs n x ≤ n := by
  induction n with
  | zero => intro x; exact Nat.le_refl _
  | succ n ih => intro x; have := ih (x / 2); unfold pcs; omega
theorem pcs_mod (n : Nat) : ∀ x, pcs n (x % 2 ^ n) = pcs n x := by
  induction n with
  | zero => intro x; rfl
  | succ n ih =>
    intro x
    unfold pcs
    have a1 : x % 2 ^ (n + 1) % 2 = x % 2 := by rw [Nat.pow_succ, Nat.mul_comm, Nat.mod_mul_right_mod]
    have a2 : x % 2 ^ (n + 1) / 2 = x / 2 % 2 ^ n := by rw [Nat.pow_succ, Nat.mul_comm, Nat.mod_mul_right_div_self]
    rw [a1, a2, ih]
theorem pcs_add (m n : Nat) : ∀ x, pcs (m + n) x = pcs m x + pcs n (x / 2 ^ m) := by
  induction m with
  | zero => intro x; simp [pcs]
  | succ m ih =>
    intro x
    rw [Nat.succ_add, pcs_s, pcs_s, ih, Nat.div_div_eq_div_mul, Nat.pow_succ, Nat.mul_comm 2]
    omega
/-- Horner's form of eight bytes -/
def hor (a b c d e f g h : Nat) : Nat := a + 256 * (b + 256 * (c + 256 * (d + 256 * (e + 256 * (f + 256 * (g + 256 * h))))))
theorem hor_div (a b c d e f g h : Nat) (ha : a < 256) : hor a b c d e f g h / 256 = hor b c d e f g h 0 := by unfold hor; omega
theorem hor_add (a b c d e f g h a' b' c' d' e' f' g' h' : Nat) : hor a b c d e f g h + hor a' b' c' d' e' f' g' h' = hor (a + a') (b + b') (c + c') (d + d') (e + e') (f + f') (g + g') (h + h') := by unfold hor; omega
theorem hor_div2 (a b c d e f g h : Nat) (ha : a < 256) (hb : b < 256) : hor a b c d e f g h / 65536 = hor c d e f g h 0 0 := by
  rw [show 65536 = 256 * 256 from rfl, ← Nat.div_div_eq_div_mul, hor_div _ _ _ _ _ _ _ _ ha, hor_div _ _ _ _ _ _ _ _ hb]
theorem hor_div4 (a b c d e f g h : Nat) (ha : a < 256) (hb : b < 256) (hc : c < 256) (hd : d < 256) : hor a b c d e f g h / 4294967296 = hor e f g h 0 0 0 0 := by
  rw [show 4294967296 = 65536 * 65536 from rfl, ← Nat.div_div_eq_div_mul, hor_div2 _ _ _ _ _ _ _ _ ha hb, hor_div2 _ _ _ _ _ _ _ _ hc hd]
theorem hor_lo (a b c d e f g h : Nat) (ha : a < 128) : hor a b c d e f g h % 128 = a := by unfold hor; omega
theorem hor_lt (a b c d e f g h : Nat) (ha : a < 256) (hb : b < 256) (hc : c < 256) (hd : d < 256) (he : e < 256) (hf : f < 256) (hg : g < 256) (hh : h < 128) : hor a b c d e f g h < 2 ^ 63 := by unfold hor; omega
theorem pby8 (x : Nat) : ∃ a b c d e f g h, (a ≤ 8 ∧ b ≤ 8 ∧ c ≤ 8 ∧ d ≤ 8) ∧ (e ≤ 8 ∧ f ≤ 8 ∧ g ≤ 8 ∧ h ≤ 8) ∧ pby 8 x = hor a b c d e f g h ∧ pcs 64 x = a + b + c + d + e + f + g + h := by
  have step : ∀ n y, pcs (8 + n) y = pcs 8 (y % 256) + pcs n (y / 256) := fun n y => by
    rw [pcs_add 8 n y, ← pcs_mod 8 y]
  have e8 : ∀ y, pcs 8 y = pcs 8 (y % 256) := fun y => (pcs_mod 8 y).symm
  refine ⟨_, _, _, _, _, _, _, _, ⟨pcs_le 8 (x % 256), pcs_le 8 (x / 256 % 256), pcs_le 8 (x / 256 / 256 % 256), pcs_le 8 (x / 256 / 256 / 256 % 256)⟩, ⟨pcs_le 8 (x / 256 / 256 / 256 / 256 % 256), pcs_le 8 (x / 256 / 256 / 256 / 256 / 256 % 256), pcs_le 8 (x / 256 / 256 / 256 / 256 / 256 / 256 % 256), pcs_le 8 (x / 256 / 256 / 256 / 256 / 256 / 256 / 256 % 256)⟩, rfl, ?_⟩
  rw [show (64 : Nat) = 8 + 56 from rfl, step 56, show (56 : Nat) = 8 + 48 from rfl, step 48, show (48 : Nat) = 8 + 40 from rfl, step 40, show (40 : Nat) = 8 + 32 from rfl, step 32, show (32 : Nat) = 8 + 24 from rfl, step 24, show (24 : Nat) = 8 + 16 from rfl, step 16, show (16 : Nat) = 8 + 8 from rfl, step 8, e8 (x / 256 / 256 / 256 / 256 / 256 / 256 / 256)]
  omega
/-- the last three sums, and the low seven bits -/
theorem fold8 (a b c d e f g h : Nat) (h1 : a ≤ 8 ∧ b ≤ 8 ∧ c ≤ 8 ∧ d ≤ 8) (h2 : e ≤ 8 ∧ f ≤ 8 ∧ g ≤ 8 ∧ h ≤ 8) : ∃ y1 y2 y3, y1 = hor a b c d e f g h + hor a b c d e f g h / 256 ∧ y2 = y1 + y1 / 65536 ∧ y3 = y2 + y2 / 4294967296 ∧ y1 < 2 ^ 63 ∧ y2 < 2 ^ 63 ∧ y3 < 2 ^ 63 ∧ y3 % 128 = a + b + c + d + e + f + g + h := by
  refine ⟨_, _, _, rfl, rfl, rfl, ?_⟩
  rw [hor_div _ _ _ _ _ _ _ _ (by omega), hor_add, hor_div2 _ _ _ _ _ _ _ _ (by omega) (by omega), hor_add, hor_div4 _ _ _ _ _ _ _ _ (by omega) (by omega) (by omega) (by omega), hor_add]
  refine ⟨hor_lt _ _ _ _ _ _ _ _ (by omega) (by omega) (by omega) (by omega) (by omega) (by omega) (by omega) (by omega), hor_lt _ _ _ _ _ _ _ _ (by omega) (by omega) (by omega) (by omega) (by omega) (by omega) (by omega) (by omega), hor_lt _ _ _ _ _ _ _ _ (by omega) (by omega) (by omega) (by omega) (by omega) (by omega) (by omega) (by omega), ?_⟩
  rw [hor_lo _ _ _ _ _ _ _ _ (by omega)]
  omega
end Go.Proofs.Ytkdjkaimcciemaa
