/-
  Chapter 36: keepers made; which blocks are fresh.
-/
import Derived.Test.YtdmbdageohjodaaKpG
import Derived.Test.YtdmbdageohjodaaRedB
namespace Go.Proofs.Ytdmbdageohjodaa
open Go.RowKit
set_option linter.unusedVariables false
set_option linter.unusedSimpArgs false
attribute [local irreducible] wpStill wpQuiet

def clampN (d : Int) : Nat := (min (max d 0) 8).toNat
theorem clampN_le (d : Int) : clampN d ≤ 8 := by unfold clampN; omega
theorem clampN_eq (d : Int) : min (max d 0) 8 = (clampN d : Int) := by unfold clampN; omega
set_option maxHeartbeats 1000000 in
theorem new36_any (d : Int) (w : World) :
    Calls Try.prog 51 #[.int .i64 d] w fun e w' => e = .returned (.pointer (some ⟨w.heap.size, 0, none⟩)) ∧ w'.heap[w.heap.size]? = some (.cells #[.int .i64 (clampN d), .slice none 0 0] 154 (0, 0)) ∧ Below w.heap.size w w' := by
  go_enter Try.func51, Try.ntmps51
  go_wp2_with fail
  go_ret
  exact ⟨rfl, by rw [← clampN_eq]; exact alloc_blk_new, (Below.refl _ _).alloc (Nat.le_refl _) _⟩

/-! ### Is a number among some? -/
/-- slices of numbers of 32 bits -/
structure U4 (B : Nat) (w : World) (a : Option Addr) (n c : Nat) (Z : Nat → Int) : Prop where
  le : n ≤ c
  max : c ≤ 9223372036854775807
  wf : ∀ i, i < n → (Lit.int .u32 (Z i)).wf = true
  mem : ∃ b off, (0 < c → a = some ⟨b, off, none⟩ ∧ b < B) ∧ ∀ i, i < n → w.cell? ⟨b, off + i, none⟩ = some (.int .u32 (Z i))
theorem U4.keep {B : Nat} {w w' : World} {a : Option Addr} {n c : Nat} {Z : Nat → Int} (h : U4 B w a n c Z) (hb : Below B w w') : U4 B w' a n c Z := by
  obtain ⟨h1, h2, h3, b, off, h4, h5⟩ := h
  refine ⟨h1, h2, h3, b, off, h4, fun i hi => ?_⟩
  rw [hb.cell (p := ⟨b, off + i, none⟩) (h4 (by omega)).2]; exact h5 i hi
theorem U4.mono {B B' : Nat} {w : World} {a : Option Addr} {n c : Nat} {Z : Nat → Int} (h : U4 B w a n c Z) (hb : B ≤ B') : U4 B' w a n c Z := by
  obtain ⟨h1, h2, h3, b, off, h4, h5⟩ := h
  exact ⟨h1, h2, h3, b, off, fun h => ⟨(h4 h).1, by have := (h4 h).2; omega⟩, h5⟩
/-- the first place of a number among some; none: -1 -/
def idxZ (Z : Nat → Int) (x : Int) : Nat → Nat → Int
  | 0, _ => -1
  | n + 1, k => if Z k = x then (k : Int) else idxZ Z x n (k + 1)
def hasZ (Z : Nat → Int) (n : Nat) (x : Int) : Bool := decide (∃ i, i < n ∧ Z i = x)
theorem idxZ_has (Z : Nat → Int) (x : Int) : ∀ (n k : Nat), (0 ≤ idxZ Z x n k ↔ ∃ i, k ≤ i ∧ i < k + n ∧ Z i = x) := by
  intro n
  induction n with
  | zero => intro k; simp [idxZ]; omega
  | succ n ih =>
    intro k
    unfold idxZ
    by_cases h : Z k = x
    · rw [if_pos h]
      exact ⟨fun _ => ⟨k, Nat.le_refl _, by omega, h⟩, fun _ => by omega⟩
    · rw [if_neg h, ih (k + 1)]
      constructor
      · rintro ⟨i, h1, h2, h3⟩; exact ⟨i, by omega, by omega, h3⟩
      · rintro ⟨i, h1, h2, h3⟩
        refine ⟨i, ?_, by omega, h3⟩
        rcases Nat.lt_or_ge k i with h4 | h4
        · exact h4
        · have : i = k := by omega
          subst this; exact absurd h3 h
theorem hasZ_eq (Z : Nat → Int) (n : Nat) (x : Int) : decide (0 ≤ idxZ Z x n 0) = hasZ Z n x := by
  unfold hasZ
  rw [Bool.eq_iff_iff, decide_eq_true_eq, decide_eq_true_eq, idxZ_has]
  constructor
  · rintro ⟨i, _, h2, h3⟩; exact ⟨i, by omega, h3⟩
  · rintro ⟨i, h2, h3⟩; exact ⟨i, by omega, by omega, h3⟩
set_option maxHeartbeats 2000000 in
theorem index_u4 (B : Nat) (a : Option Addr) (n c : Nat) (Z : Nat → Int) (x : Int) (w : World) (h : U4 B w a n c Z) :
    Calls Try.prog 110 #[.slice a n c, .int .u32 x] w fun e w' => e = .returned (.int .i64 (idxZ Z x n 0)) ∧ w = w' := by
  have H := Lib.hid h
  have hle := h.le
  have hmx := h.max
  clear h
  go_enter Try.func110, Try.ntmps110
  go_wp2_with fail
  go_loop [8] (fun s8 => ∃ k : Nat, k ≤ n ∧ s8 = .int .i64 k ∧ Hid (idxZ Z x n 0 = idxZ Z x (n - k) k)) (fun s8 => n - (intOf s8).toNat)
  case atStart => exact ⟨0, by omega, rfl, Lib.hid rfl⟩
  case round =>
    obtain ⟨k, hk, rfl, HS⟩ := hrel
    by_cases hlt : k < n
    · obtain ⟨b1, o1, hp1, hc1⟩ := H.out.mem
      obtain ⟨rfl, _⟩ := hp1 (by omega)
      have x2 := hc1 k hlt
      have hki : (k : Int) < n := by omega
      have hst : idxZ Z x (n - k) k = if Z k = x then (k : Int) else idxZ Z x (n - (k + 1)) (k + 1) := by
        rw [show n - k = (n - (k + 1)) + 1 by omega]; rfl
      have HST := Lib.hid hst
      obtain ⟨z, hz⟩ : ∃ z, Z k = z := ⟨_, rfl⟩
      have HZ := Lib.hid hz
      rw [hz] at x2
      clear hp1 hc1 hz hst
      by_cases hx : x = z
      · have h1 : (x == z) = true := by simpa using hx
        have h2 : decide (x = z) = true := by simpa using hx
        have HX := Lib.hid hx
        clear hx
        go_wp2_with fail
        go_ret
        exact ⟨by rw [HS.out, HST.out, HZ.out, if_pos HX.out.symm]; rfl, rfl⟩
      · have h1 : (x == z) = false := by simpa using hx
        have h2 : decide (x = z) = false := by simpa using hx
        go_wp2_with fail
        go_round
        case rel => exact ⟨k + 1, by omega, by go_num, Lib.hid (by rw [HS.out, HST.out, HZ.out, if_neg (fun e => hx e.symm)])⟩
        case measure => simp [intOf] <;> omega
    · have : k = n := by omega
      subst this
      clear hlt
      go_wp2_with fail
      go_ret
      exact ⟨by rw [HS.out, Nat.sub_self]; rfl, rfl⟩
theorem contains_u4 (B : Nat) (a : Option Addr) (n c : Nat) (Z : Nat → Int) (x : Int) (w : World) (h : U4 B w a n c Z) :
    Calls Try.prog 94 #[.slice a n c, .int .u32 x] w fun e w' => e = .returned (.bool (hasZ Z n x)) ∧ w = w' := by
  have HI := Lib.hid (index_u4 B a n c Z x w h)
  have HE := Lib.hid (hasZ_eq Z n x)
  obtain ⟨y, hy⟩ : ∃ y, idxZ Z x n 0 = y := ⟨_, rfl⟩
  rw [hy] at HI HE
  clear h hy
  go_enter Try.func94, Try.ntmps94
  go_wp2_with fail
  refine HI.out.mono ?_
  rintro e w' ⟨rfl, rfl⟩
  go_wp2_with fail
  go_ret
  exact ⟨by rw [← HE.out]; rfl, rfl⟩
end Go.Proofs.Ytdmbdageohjodaa
