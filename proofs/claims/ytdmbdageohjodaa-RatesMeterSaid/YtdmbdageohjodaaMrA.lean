/-
  Chapter 40: sums and peaks of rings, plain; rows of numbers that came in.
-/
import Derived.Test.YtdmbdageohjodaaReads
import Derived.Test.YtdmbdageohjodaaApp
import Derived.Test.YtdmbdageohjodaaBytes
import Derived.Test.YtdmbdageohjodaaProg
namespace Go.Proofs.Ytdmbdageohjodaa
open Go.RowKit
set_option linter.unusedVariables false
set_option linter.unusedSimpArgs false

def satI (a b : Int) : Int := if a + b ≤ 18446744073709551615 then a + b else 18446744073709551615
theorem satI_bd (a b : Int) (a0 : 0 ≤ a) (b0 : 0 ≤ b) : 0 ≤ satI a b ∧ satI a b ≤ 18446744073709551615 := by unfold satI; split <;> omega
def sumN (f : Nat → Int) : Nat → Int
  | 0 => 0
  | k + 1 => sumN f k + f k
def satN (f : Nat → Int) : Nat → Int
  | 0 => 0
  | k + 1 => satI (satN f k) (f k)
def maxN (f : Nat → Int) : Nat → Int
  | 0 => 0
  | k + 1 => max (maxN f k) (f k)
theorem sumN_pos {f : Nat → Int} {n : Nat} (h : ∀ i, i < n → 0 ≤ f i) : 0 ≤ sumN f n := by
  induction n with
  | zero => simp [sumN]
  | succ n ih => have := ih (fun i hi => h i (by omega)); have := h n (by omega); simp only [sumN]; omega
theorem satN_eq {f : Nat → Int} {n : Nat} (h : ∀ i, i < n → 0 ≤ f i) : satN f n = min (sumN f n) 18446744073709551615 := by
  induction n with
  | zero => simp only [sumN, satN]; omega
  | succ n ih =>
    have h1 := ih (fun i hi => h i (by omega))
    have h2 := h n (by omega)
    have h3 := sumN_pos (fun i hi => h i (by omega : i < n + 1)) (n := n)
    simp only [satN, sumN, h1, satI]
    split <;> omega
theorem satN_bd {f : Nat → Int} {n : Nat} (h : ∀ i, i < n → 0 ≤ f i) : 0 ≤ satN f n ∧ satN f n ≤ 18446744073709551615 := by
  rw [satN_eq h]; have := sumN_pos h; omega
theorem maxN_le {f : Nat → Int} {n : Nat} {x : Int} : maxN f n ≤ x ↔ 0 ≤ x ∧ ∀ i, i < n → f i ≤ x := by
  induction n with
  | zero => simp [maxN]
  | succ n ih =>
    simp only [maxN]
    rw [Int.max_le, ih]
    constructor
    · rintro ⟨⟨h1, h2⟩, h3⟩
      refine ⟨h1, fun i hi => ?_⟩
      rcases Nat.lt_or_ge i n with h | h
      · exact h2 i h
      · have : i = n := by omega
        subst this; exact h3
    · rintro ⟨h1, h2⟩
      exact ⟨⟨h1, fun i hi => h2 i (by omega)⟩, h2 n (by omega)⟩
theorem maxN_ge {f : Nat → Int} {n i : Nat} (h : i < n) : f i ≤ maxN f n := (maxN_le.1 (Int.le_refl (maxN f n))).2 i h
theorem maxN_pos {f : Nat → Int} {n : Nat} : 0 ≤ maxN f n := (maxN_le.1 (Int.le_refl (maxN f n))).1
theorem maxN_bd {f : Nat → Int} {n : Nat} (h : ∀ i, i < n → f i ≤ 18446744073709551615) : 0 ≤ maxN f n ∧ maxN f n ≤ 18446744073709551615 := ⟨maxN_pos, maxN_le.2 ⟨by omega, h⟩⟩
theorem sumN_congr {f g : Nat → Int} {n : Nat} (h : ∀ i, i < n → f i = g i) : sumN f n = sumN g n := by
  induction n with
  | zero => rfl
  | succ n ih => simp only [sumN]; rw [ih (fun i hi => h i (by omega)), h n (by omega)]
theorem satN_congr {f g : Nat → Int} {n : Nat} (h : ∀ i, i < n → f i = g i) : satN f n = satN g n := by
  induction n with
  | zero => rfl
  | succ n ih => simp only [satN]; rw [ih (fun i hi => h i (by omega)), h n (by omega)]
theorem maxN_congr {f g : Nat → Int} {n : Nat} (h : ∀ i, i < n → f i = g i) : maxN f n = maxN g n := by
  induction n with
  | zero => rfl
  | succ n ih => simp only [maxN]; rw [ih (fun i hi => h i (by omega)), h n (by omega)]
def upd (f : Nat → Int) (j : Nat) (x : Int) : Nat → Int := fun i => if i = j then x else f i
theorem upd_same (f : Nat → Int) (j : Nat) (x : Int) : upd f j x j = x := if_pos rfl
theorem upd_other (f : Nat → Int) (j : Nat) (x : Int) {i : Nat} (h : i ≠ j) : upd f j x i = f i := if_neg h
theorem upd_upd (f : Nat → Int) (j : Nat) (x y : Int) : upd (upd f j x) j y = upd f j y := by funext i; unfold upd; split <;> rfl
theorem sumN_upd (f : Nat → Int) (j : Nat) (x : Int) (n : Nat) : sumN (upd f j x) n = if j < n then sumN f n - f j + x else sumN f n := by
  induction n with
  | zero => simp [sumN]
  | succ n ih =>
    simp only [sumN]
    rw [ih]
    by_cases h : j = n
    · subst h; rw [if_neg (by omega), if_pos (by omega), upd_same]; omega
    · rw [upd_other _ _ _ (Ne.symm h)]
      split
      · rw [if_pos (by omega)]; omega
      · rw [if_neg (by omega)]
/-- the last n of len -/
def msk (f : Nat → Int) (n : Int) (len : Nat) : Nat → Int := fun i => if (len : Int) ≤ i + n then f i else 0
theorem msk_pos {f : Nat → Int} {n : Int} {len : Nat} (h : ∀ i, i < len → 0 ≤ f i) : ∀ i, i < len → 0 ≤ msk f n len i := fun i hi => by
  unfold msk
  split
  · exact h i hi
  · omega
/-- how a ring of W stands behind tick i: f: what went by in each tick -/
structure Ring (W : Nat) (L : Nat → Int) (f : Nat → Int) (i : Nat) : Prop where
  win : ∀ t, t ≤ i → i < t + W → L (t % W) = f t
  src : ∀ j, j < W → L j = 0 ∨ ∃ t, t ≤ i ∧ i < t + W ∧ t % W = j ∧ L j = f t
  sm : sumN L W = sumN (msk f W (i + 1)) (i + 1)
theorem Ring.start {W : Nat} {f : Nat → Int} (h : 1 ≤ W) : Ring W (upd (fun _ => 0) 0 (f 0)) f 0 := by
  refine ⟨fun t ht _ => ?_, fun j hj => ?_, ?_⟩
  · have : t = 0 := by omega
    subst this
    rw [Nat.zero_mod, upd_same]
  · by_cases hj0 : j = 0
    · subst hj0; exact .inr ⟨0, by omega, by omega, Nat.zero_mod _, upd_same _ _ _⟩
    · exact .inl (upd_other _ _ _ hj0)
  · rw [sumN_upd, if_pos (by omega)]
    have : sumN (fun _ => (0 : Int)) W = 0 := by
      generalize W = n
      induction n with
      | zero => rfl
      | succ n ih => simp only [sumN]; omega
    rw [this]
    simp only [sumN, msk]
    rw [if_pos (by omega)]
    omega
theorem Ring.next {W : Nat} {L f : Nat → Int} {i : Nat} (h : Ring W L f i) (hW : 1 ≤ W) : Ring W (upd L ((i + 1) % W) (f (i + 1))) f (i + 1) := by
  have hj0 : (i + 1) % W < W := Nat.mod_lt _ (by omega)
  have hL : L ((i + 1) % W) = if W ≤ i + 1 then f (i + 1 - W) else 0 := by
    by_cases hw : W ≤ i + 1
    · rw [if_pos hw, ← h.win (i + 1 - W) (by omega) (by omega)]
      congr 1
      conv => lhs; rw [show i + 1 = (i + 1 - W) + W by omega]
      rw [Nat.add_mod_right]
    · rw [if_neg hw]
      rcases h.src ((i + 1) % W) hj0 with h1 | ⟨t, h1, h2, h3, _⟩
      · exact h1
      · rw [Nat.mod_eq_of_lt (by omega : t < W), Nat.mod_eq_of_lt (by omega : i + 1 < W)] at h3
        omega
  refine ⟨fun t ht hw => ?_, fun j hj => ?_, ?_⟩
  · by_cases e : t = i + 1
    · subst e; exact upd_same _ _ _
    · by_cases hm : t % W = (i + 1) % W
      · exfalso
        -- two indices less than W apart with one rest
        have h1 := Nat.div_add_mod t W
        have h2 := Nat.div_add_mod (i + 1) W
        rw [hm] at h1
        have h3 : W * (t / W) < W * ((i + 1) / W) := by omega
        have h4 := Nat.lt_of_mul_lt_mul_left h3
        have h5 : W * (t / W + 1) ≤ W * ((i + 1) / W) := Nat.mul_le_mul_left _ h4
        rw [Nat.mul_add, Nat.mul_one] at h5
        omega
      · rw [upd_other _ _ _ hm]
        exact h.win t (by omega) (by omega)
  · by_cases e : j = (i + 1) % W
    · subst e; exact .inr ⟨i + 1, by omega, by omega, rfl, upd_same _ _ _⟩
    · rw [upd_other _ _ _ e]
      rcases h.src j hj with h1 | ⟨t, h1, h2, h3, h4⟩
      · exact .inl h1
      · refine .inr ⟨t, by omega, ?_, h3, h4⟩
        rcases Nat.lt_or_ge (i + 1) (t + W) with h5 | h5
        · exact h5
        · exfalso
          have : i + 1 = t + W := by omega
          rw [this, Nat.add_mod_right] at e
          exact e h3.symm
  · rw [sumN_upd, if_pos hj0, h.sm, hL]
    show _ = sumN (msk f W (i + 1 + 1)) (i + 1) + msk f W (i + 1 + 1) (i + 1)
    have e1 : msk f W (i + 1 + 1) (i + 1) = f (i + 1) := by unfold msk; rw [if_pos (by push_cast; omega)]
    rw [e1]
    by_cases hw : W ≤ i + 1
    · rw [if_pos hw]
      have e2 : sumN (msk f W (i + 1 + 1)) (i + 1) = sumN (upd (msk f W (i + 1)) (i + 1 - W) 0) (i + 1) := sumN_congr (fun t ht => by
        unfold upd msk
        by_cases e : t = i + 1 - W
        · rw [if_pos e, if_neg (by push_cast; omega)]
        · rw [if_neg e]
          by_cases h6 : ((i + 1 : Nat) : Int) ≤ t + W
          · rw [if_pos h6, if_pos (by push_cast at *; omega)]
          · rw [if_neg h6, if_neg (by push_cast at *; omega)])
      rw [e2, sumN_upd, if_pos (by omega)]
      have e3 : msk f W (i + 1) (i + 1 - W) = f (i + 1 - W) := by unfold msk; rw [if_pos (by push_cast; omega)]
      rw [e3]
      omega
    · rw [if_neg hw]
      have e2 : sumN (msk f W (i + 1 + 1)) (i + 1) = sumN (msk f W (i + 1)) (i + 1) := sumN_congr (fun t ht => by
        unfold msk
        rw [if_pos (by push_cast; omega), if_pos (by push_cast; omega)])
      rw [e2]
      omega
theorem Ring.sat {W : Nat} {L f : Nat → Int} {i : Nat} (h : Ring W L f i) (hL : ∀ j, j < W → 0 ≤ L j) (hf : ∀ t, t < i + 1 → 0 ≤ f t) : satN L W = satN (msk f W (i + 1)) (i + 1) := by
  rw [satN_eq hL, satN_eq (msk_pos hf), h.sm]
theorem Ring.peak {W : Nat} {L f : Nat → Int} {i : Nat} (h : Ring W L f i) (hW : 1 ≤ W) : maxN L W = maxN (msk f W (i + 1)) (i + 1) := by
  refine Int.le_antisymm (maxN_le.2 ⟨maxN_pos, fun j hj => ?_⟩) (maxN_le.2 ⟨maxN_pos, fun t ht => ?_⟩)
  · rcases h.src j hj with h1 | ⟨t, h1, h2, h3, h4⟩
    · rw [h1]; exact maxN_pos
    · rw [h4]
      have := maxN_ge (f := msk f W (i + 1)) (show t < i + 1 by omega)
      unfold msk at this ⊢
      rw [if_pos (by push_cast; omega)] at this
      exact this
  · unfold msk
    split
    · rename_i hc
      rw [← h.win t (by omega) (by push_cast at hc; omega)]
      exact maxN_ge (Nat.mod_lt _ (by omega))
    · exact maxN_pos

/-! ### Rows of numbers -/
structure US (B : Nat) (w : World) (a : Option Addr) (n : Nat) (Z : Nat → Int) : Prop where
  bd : ∀ i, i < n → 0 ≤ Z i ∧ Z i ≤ 18446744073709551615
  mem : ∃ b off, (0 < n → a = some ⟨b, off, none⟩ ∧ b < B) ∧ ∀ i, i < n → w.cell? ⟨b, off + i, none⟩ = some (.int .u64 (Z i))
theorem US.keep {B : Nat} {w w' : World} {a : Option Addr} {n : Nat} {Z : Nat → Int} (h : US B w a n Z) (hb : Below B w w') : US B w' a n Z := by
  obtain ⟨h1, b, off, h2, h3⟩ := h
  exact ⟨h1, b, off, h2, fun i hi => Below.cell' hb (h2 (by omega)).2 (h3 i hi)⟩
theorem US.mono {B B' : Nat} {w : World} {a : Option Addr} {n : Nat} {Z : Nat → Int} (h : US B w a n Z) (hb : B ≤ B') : US B' w a n Z := by
  obtain ⟨h1, b, off, h2, h3⟩ := h
  exact ⟨h1, b, off, fun h => ⟨(h2 h).1, Nat.lt_of_lt_of_le (h2 h).2 hb⟩, h3⟩
def u64s (f : Nat → Int) (n : Nat) : List Value := (List.range n).map fun i => .int .u64 (f i)
theorem u64s_succ (f : Nat → Int) (n : Nat) : u64s f (n + 1) = u64s f n ++ [.int .u64 (f n)] := by simp [u64s, List.range_succ]
theorem u64s_get (f : Nat → Int) {n i : Nat} (h : i < n) : (u64s f n)[i]? = some (.int .u64 (f i)) := by unfold u64s; rw [List.getElem?_map, List.getElem?_range h]; rfl
/-- the rows of a table -/
structure Tab (B : Nat) (w : World) (a : Option Addr) (n : Nat) (A : Nat → Option Addr) (K : Nat → Nat) (C : Nat → Nat → Int) (L : Nat → Nat) : Prop where
  at_ : ∃ b off, (0 < n → a = some ⟨b, off, none⟩ ∧ b < B) ∧ ∀ i, i < n → w.cell? ⟨b, off + i, none⟩ = some (.slice (A i) (L i) (K i))
  row : ∀ i, i < n → US B w (A i) (L i) (C i)
  len : ∀ i, L i ≤ 9223372036854775807
theorem Tab.keep {B : Nat} {w w' : World} {a : Option Addr} {n : Nat} {A : Nat → Option Addr} {K : Nat → Nat} {C : Nat → Nat → Int} {L : Nat → Nat} (h : Tab B w a n A K C L) (hb : Below B w w') : Tab B w' a n A K C L := by
  obtain ⟨⟨b, off, h1, h2⟩, h3, h4⟩ := h
  exact ⟨⟨b, off, h1, fun i hi => Below.cell' hb (h1 (by omega)).2 (h2 i hi)⟩, fun i hi => (h3 i hi).keep hb, h4⟩
theorem tab_of {w : World} {v : Value} (h : Reads Try.prog w 6 84 v) : ∃ a n cap, ∃ (A : Nat → Option Addr) (K : Nat → Nat) (C : Nat → Nat → Int) (L : Nat → Nat), v = .slice a n cap ∧ n ≤ cap ∧ cap ≤ 9223372036854775807 ∧ Tab w.heap.size w a n A K C L := by
  obtain ⟨a, len, cap, b, off, V, rfl, row⟩ := reads_slice Try.underlying84 (ts := [90]) (by kernel_rfl) (by kernel_rfl) (by decide) h
  have hm := row.max
  unfold maxLen at hm
  obtain ⟨F, hF⟩ := Deep.choose_lt (α := Option Addr × Nat × Nat × (Nat → Int)) (n := cap) (p := fun i x => V i 0 = .slice x.1 x.2.1 x.2.2.1 ∧ x.2.1 ≤ 9223372036854775807 ∧ US w.heap.size w x.1 x.2.1 x.2.2.2) (fun i hi => by
    have hr := row.read i hi 0 _ rfl
    obtain ⟨a', l', c', b', o', V', he, row'⟩ := reads_slice Try.underlying90 (ts := [88]) (by kernel_rfl) (by kernel_rfl) (by decide) hr
    obtain ⟨Z, hZ⟩ := Deep.choose_lt (n := c') (p := fun j (x : Int) => V' j 0 = .int .u64 x ∧ (Lit.int .u64 x).wf = true) (fun j hj => reads_int Try.underlying88 (row'.read j hj 0 _ rfl))
    have hm' := row'.max
    unfold maxLen at hm'
    have hle' := row'.le
    refine ⟨(a', l', c', Z), he, by show l' ≤ _; omega, fun j hj => bounds_u64 (hZ j (by have : j < l' := hj; omega)).2, b', o', fun h0 => row'.addr (by have : 0 < l' := h0; omega), fun j hj => ?_⟩
    have hj' : j < c' := by have : j < l' := hj; omega
    have := row'.cell j hj' 0 (by decide)
    simpa [(hZ j hj').1] using this)
  have hle := row.le
  refine ⟨a, len, cap, fun i => (F i).1, fun i => (F i).2.2.1, fun i => (F i).2.2.2, fun i => if i < len then (F i).2.1 else 0, rfl, hle, hm, ⟨b, off, fun h0 => row.addr (by omega), fun i hi => ?_⟩, fun i hi => ?_, fun i => ?_⟩
  · have := row.cell i (by omega) 0 (by decide)
    rw [if_pos hi]
    simpa [(hF i (by omega)).1] using this
  · show US _ _ _ (if i < len then (F i).2.1 else 0) _
    rw [if_pos hi]; exact (hF i (by omega)).2.2
  · show (if i < len then (F i).2.1 else 0) ≤ _
    split
    · exact (hF i (by omega)).2.1
    · omega
end Go.Proofs.Ytdmbdageohjodaa
