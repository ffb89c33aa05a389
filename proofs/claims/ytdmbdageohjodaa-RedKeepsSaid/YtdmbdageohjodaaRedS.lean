/-
  Chapter 36: a payload that is read.
-/
import Derived.Test.YtdmbdageohjodaaRedR
import Derived.Test.YtdmbdageohjodaaClone
namespace Go.Proofs.Ytdmbdageohjodaa
open Go.RowKit
set_option linter.unusedVariables false
set_option linter.unusedSimpArgs false
attribute [local irreducible] wpStill wpQuiet

theorem own_set {w : World} {base g n cap : Nat} {e : TypeId} {size : Nat} {xs : List Value} (h : w.ownsRow base e size (.slice (some ⟨g, 0, none⟩) n cap) n xs) (j : Nat) (u : Value) :
    (w.setCell ⟨g, j, none⟩ u).ownsRow base e size (.slice (some ⟨g, 0, none⟩) n cap) n (xs.set j u) := by
  obtain ⟨h1, h2⟩ := h
  refine ⟨by rw [List.length_set]; exact h1, ?_⟩
  rcases h2 with ⟨h2, _⟩ | ⟨g', cap', cur, hv, hg, hh, r1, r2, r3, r4⟩
  · cases h2
  · cases hv
    refine .inr ⟨g, cap, cur.setIfInBounds j u, rfl, hg, set_blk u hh, r1, r2, by simpa using r3, ?_⟩
    rw [Array.toList_setIfInBounds, List.take_set, r4]
theorem bcells_set (Q : Nat → Blk) (n i : Nat) (hi : i < n) (b : Blk) (ht : b.t = (Q i).t) (hh : b.h = (Q i).h) : (bcells Q n).set (i * 3 + 2) (.slice b.a b.n b.c) = bcells (fun x => if x = i then b else Q x) n := by
  induction n with
  | zero => omega
  | succ n ih =>
    rw [bcells_succ, bcells_succ]
    rcases Nat.lt_or_ge i n with h | h
    · rw [List.set_append_left _ _ (by rw [bcells_len]; omega), ih h]
      simp only [show ¬ n = i by omega, if_false]
    · have : i = n := by omega
      subst this
      rw [List.set_append_right _ _ (by rw [bcells_len]; omega), bcells_len, Nat.add_sub_cancel_left, bcells_congr (Q := fun x => if x = i then b else Q x) (Q' := Q) (fun x hx => if_neg (by omega))]
      simp [ht, hh]
theorem bcells_get (Q : Nat → Blk) (n i j : Nat) (hi : i < n) (hj : j < 3) : (bcells Q n)[i * 3 + j]? = some ((Q i).cell j) := by
  induction n with
  | zero => omega
  | succ n ih =>
    rw [bcells_succ]
    rcases Nat.lt_or_ge i n with h | h
    · rw [List.getElem?_append_left (by rw [bcells_len]; omega)]; exact ih h
    · have : i = n := by omega
      subst this
      rw [List.getElem?_append_right (by rw [bcells_len]; omega), bcells_len, Nat.add_sub_cancel_left]
      rcases (by omega : j = 0 ∨ j = 1 ∨ j = 2) with rfl | rfl | rfl <;> rfl
/-- where the bytes of block k begin -/
def offZ (Z : Nat → Int) (J : Nat) : Nat → Nat
  | 0 => 4 * J + 1
  | k + 1 => offZ Z J k + hsz Z k
theorem offZ_le (Z : Nat → Int) (J k m : Nat) (h : k ≤ m) : offZ Z J k ≤ offZ Z J m := by
  induction m with
  | zero => have : k = 0 := by omega
            subst this; exact Nat.le_refl _
  | succ m ih =>
    rcases Nat.lt_or_ge k (m + 1) with h1 | h1
    · have := ih (by omega); show _ ≤ offZ Z J m + hsz Z m; omega
    · have : k = m + 1 := by omega
      subst this; exact Nat.le_refl _
def rdE (Z : Nat → Int) (n : Nat) : Int := match hdrs Z n (n + 1) 0 with
  | none => 2
  | some J => if offZ Z J J ≤ n then (if 9 < J + 1 then 3 else 0) else 2
def lenAt (Z : Nat → Int) (n J i : Nat) : Nat := if i = J then n - offZ Z J J else hsz Z i
/-- a block as it is read -/
def IsAt (Z : Nat → Int) (n J i : Nat) (q : Blk) : Prop := q.t = (hQ Z J i).t ∧ q.h = (hQ Z J i).h ∧ q.n = lenAt Z n J i ∧ ∀ x, x < q.n → q.Z x = Z (offZ Z J i + x)
def RdPost (Z : Nat → Int) (n : Nat) (w : World) (e : Ending) (w' : World) : Prop :=
  ((rdE Z n ≠ 0 ∧ e = .returned (.tuple #[.slice none 0 0, .int .i64 (rdE Z n)])) ∨
   (rdE Z n = 0 ∧ ∃ J ad cap Q, hdrs Z n (n + 1) 0 = some J ∧ J + 1 ≤ 9 ∧ offZ Z J J ≤ n ∧ e = .returned (.tuple #[.slice ad (J + 1) cap, .int .i64 0]) ∧ Blks w'.heap.size w' ad (J + 1) cap Q ∧ ∀ i, i ≤ J → IsAt Z n J i (Q i))) ∧ Below w.heap.size w w'
/-- the rows of blocks as they are filled: the first k have their bytes, in blocks from H on -/
structure Fil (Z : Nat → Int) (n J k base H : Nat) (g cap : Nat) (Q : Nat → Blk) (wr : World) : Prop where
  row : wr.ownsRow base 110 3 (.slice (some ⟨g, 0, none⟩) (J + 1) cap) (J + 1) (bcells Q (J + 1))
  gH : g < H
  don : ∀ i, i < k → IsAt Z n J i (Q i) ∧ wr.ownsRow H 5 1 (.slice (Q i).a (Q i).n (Q i).c) (Q i).n (bytesOf (fun x => Z (offZ Z J i + x)) (Q i).n)
  rest : ∀ i, k ≤ i → i ≤ J → Q i = hQ Z J i
theorem Fil.keep {Z : Nat → Int} {n J k base H : Nat} {g cap : Nat} {Q : Nat → Blk} {wr w' : World} (h : Fil Z n J k base H g cap Q wr) (hb : Below wr.heap.size wr w') : Fil Z n J k base H g cap Q w' :=
  ⟨own_below h.row hb, h.gH, fun i hi => ⟨(h.don i hi).1, own_below (h.don i hi).2 hb⟩, h.rest⟩
/-- block k gets its bytes -/
theorem Fil.put {Z : Nat → Int} {n J k base H : Nat} {g cap : Nat} {Q : Nat → Blk} {wr : World} (h : Fil Z n J k base H g cap Q wr) (hk : k ≤ J) (hH : H ≤ wr.heap.size) {a : Option Addr} {m c : Nat} (hm : m = lenAt Z n J k) (ho : wr.ownsRow H 5 1 (.slice a m c) m (bytesOf (fun x => Z (offZ Z J k + x)) m)) :
    ∃ Q', Fil Z n J (k + 1) base H g cap Q' (wr.setCell ⟨g, k * 3 + 2, none⟩ (.slice a m c)) := by
  have hq := h.rest k (Nat.le_refl _) hk
  refine ⟨fun x => if x = k then ⟨(hQ Z J k).t, (hQ Z J k).h, a, m, c, fun x => Z (offZ Z J k + x)⟩ else Q x, ?_, h.gH, fun i hi => ?_, fun i h1 h2 => ?_⟩
  · have := own_set h.row (k * 3 + 2) (.slice a m c)
    rw [bcells_set Q (J + 1) k (by omega) ⟨(hQ Z J k).t, (hQ Z J k).h, a, m, c, fun x => Z (offZ Z J k + x)⟩ (by rw [hq]) (by rw [hq])] at this
    exact this
  · have hst : ∀ {v : Value} {m : Nat} {xs : List Value}, wr.ownsRow H 5 1 v m xs → (wr.setCell ⟨g, k * 3 + 2, none⟩ (.slice a m c)).ownsRow H 5 1 v m xs := fun ho => own_blk ho (fun q hq1 hq2 => set_blk_other _ (by show q ≠ g; have := h.gH; omega))
    by_cases e : i = k
    · subst e
      simp only [if_true]
      exact ⟨⟨rfl, rfl, hm, fun x _ => rfl⟩, own_blk ho (fun q hq1 hq2 => set_blk_other _ (by show q ≠ g; have := h.gH; omega))⟩
    · simp only [e, if_false]
      exact ⟨(h.don i (by omega)).1, own_blk (h.don i (by omega)).2 (fun q hq1 hq2 => set_blk_other _ (by show q ≠ g; have := h.gH; omega))⟩
  · simp only [show ¬ i = k by omega, if_false]
    exact h.rest i (by omega) h2
end Go.Proofs.Ytdmbdageohjodaa
