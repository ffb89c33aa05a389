/-
  Chapter 36: blocks out of kept payloads: plain laws, and rows of kept payloads.
-/
import Derived.Test.YtdmbdageohjodaaKpF
namespace Go.Proofs.Ytdmbdageohjodaa
open Go.RowKit
set_option linter.unusedVariables false
set_option linter.unusedSimpArgs false

/-- equal blocks make equal bytes -/
theorem wrL_congr {Q Q' : Nat → Blk} {len : Nat} (h0 : 0 < len) (h : ∀ i, i < len → Eqv (Q i) (Q' i)) : wrL Q len = wrL Q' len ∧ (wok Q len ↔ wok Q' len) := by
  have hd : ∀ i, i < len → hdL (Q i) = hdL (Q' i) := fun i hi => by
    obtain ⟨a, b, c, d⟩ := h i hi
    unfold hdL hdV
    rw [a, b, c]
  have dt : ∀ i, i < len → zs (Q i).Z (Q i).n = zs (Q' i).Z (Q' i).n := fun i hi => by
    obtain ⟨a, b, c, d⟩ := h i hi
    unfold zs
    rw [← c]
    exact List.map_congr_left fun x hx => d x (List.mem_range.1 hx)
  have hH : ∀ k, k ≤ len → HLs Q k = HLs Q' k := by
    intro k
    induction k with
    | zero => intro _; rfl
    | succ k ih => intro hk; rw [HLs_succ, HLs_succ, ih (by omega), hd k (by omega)]
  have hD : ∀ k, k ≤ len → DLs Q k = DLs Q' k := by
    intro k
    induction k with
    | zero => intro _; rfl
    | succ k ih => intro hk; rw [DLs_succ, DLs_succ, ih (by omega), dt k (by omega)]
  have hw : wrL Q len = wrL Q' len := by
    unfold wrL HXs
    rw [if_pos rfl, if_pos rfl, hD len (Nat.le_refl _), hH (len - 1) (by omega)]
    rw [(h (len - 1) (by omega)).1]
  refine ⟨hw, ?_⟩
  unfold wok okTo
  rw [hw]
  constructor
  · rintro ⟨a, b, c, d⟩
    exact ⟨a, b, fun i hi => by obtain ⟨x, y, z, _⟩ := h i hi; rw [← x, ← y, ← z]; exact c i hi, d⟩
  · rintro ⟨a, b, c, d⟩
    exact ⟨a, b, fun i hi => by obtain ⟨x, y, z, _⟩ := h i hi; rw [x, y, z]; exact c i hi, d⟩
/-- a payload that is kept -/
structure Kep where
  s : Int
  t : Int
  a : Option Addr
  n : Nat
  c : Nat
  Z : Nat → Int
instance : Inhabited Kep := ⟨⟨0, 0, none, 0, 0, fun _ => 0⟩⟩
/-- is it carried again, at a stamp? -/
def selB (st : Int) (k : Kep) : Bool := decide (0 < far32 k.s st) && decide (far32 k.s st ≤ 16383) && decide (k.n ≤ 1023)
def Kep.blk (st : Int) (k : Kep) : Blk := ⟨k.t, far32 k.s st, k.a, k.n, k.c, k.Z⟩
/-- the blocks out of k kept payloads, from number lo on -/
def selQ (E : Nat → Kep) (st : Int) (lo : Nat) : Nat → List Blk
  | 0 => []
  | k + 1 => selQ E st lo k ++ (if selB st (E (lo + k)) then [(E (lo + k)).blk st] else [])
theorem selQ_len (E : Nat → Kep) (st : Int) (lo k : Nat) : (selQ E st lo k).length ≤ k := by
  induction k with
  | zero => exact Nat.le_refl _
  | succ k ih =>
    unfold selQ
    rw [List.length_append]
    split <;> simp <;> omega
/-- the same payload, wherever its bytes lie -/
def SameK (p q : Kep) : Prop := p.s = q.s ∧ p.t = q.t ∧ p.n = q.n ∧ ∀ x, x < p.n → p.Z x = q.Z x
theorem SameK.sel {st : Int} {p q : Kep} (h : SameK p q) : selB st p = selB st q := by
  obtain ⟨a, b, c, d⟩ := h
  unfold selB; rw [a, c]
theorem SameK.eqv {st : Int} {p q : Kep} (h : SameK p q) : Eqv (p.blk st) (q.blk st) := by
  obtain ⟨a, b, c, d⟩ := h
  exact ⟨b, by show far32 _ _ = far32 _ _; rw [a], c, d⟩
/-- two lists of blocks, one as the other -/
def EqvL (l m : List Blk) : Prop := l.length = m.length ∧ ∀ i, i < l.length → Eqv (l.getD i default) (m.getD i default)
theorem EqvL.nil : EqvL [] [] := ⟨rfl, fun i hi => by simp at hi⟩
theorem EqvL.snoc {l m : List Blk} {b c : Blk} (h : EqvL l m) (k : Eqv b c) : EqvL (l ++ [b]) (m ++ [c]) := by
  obtain ⟨h1, h2⟩ := h
  refine ⟨by simp [h1], fun i hi => ?_⟩
  rw [List.length_append] at hi
  simp only [List.length_cons, List.length_nil, Nat.zero_add] at hi
  rcases Nat.lt_or_ge i l.length with h3 | h3
  · simp only [List.getD, List.getElem?_append_left h3, List.getElem?_append_left (show i < m.length by omega)]
    exact h2 i h3
  · have : i = l.length := by omega
    subst this
    simp only [List.getD]
    rw [List.getElem?_append_right (Nat.le_refl _), h1, List.getElem?_append_right (Nat.le_refl _)]
    simpa using k
theorem selQ_eqv {E F : Nat → Kep} {st : Int} {lo : Nat} : ∀ k, (∀ i, i < k → SameK (E (lo + i)) (F (lo + i))) → EqvL (selQ E st lo k) (selQ F st lo k) := by
  intro k
  induction k with
  | zero => intro _; exact EqvL.nil
  | succ k ih =>
    intro h
    have h1 := ih fun i hi => h i (by omega)
    have h2 := h k (by omega)
    unfold selQ
    rw [h2.sel]
    split
    · exact h1.snoc h2.eqv
    · simpa using h1
/-! ### In memory -/
def bcL (l : List Blk) : List Value := l.flatMap fun b => [.int .u8 b.t, .int .i64 b.h, .slice b.a b.n b.c]
theorem bcL_app (l m : List Blk) : bcL (l ++ m) = bcL l ++ bcL m := List.flatMap_append ..
theorem bcL_len (l : List Blk) : (bcL l).length = l.length * 3 := by
  induction l with
  | nil => rfl
  | cons b l ih => show (bcL ([b] ++ l)).length = _; rw [bcL_app, List.length_append, ih]; simp [bcL]; omega
theorem bcL_get (l : List Blk) (i j : Nat) (hi : i < l.length) (hj : j < 3) : (bcL l)[i * 3 + j]? = some ((l.getD i default).cell j) := by
  induction l generalizing i with
  | nil => simp at hi
  | cons b l ih =>
    show (bcL ([b] ++ l))[i * 3 + j]? = _
    rw [bcL_app]
    rcases Nat.eq_zero_or_pos i with h | h
    · subst h
      rw [List.getElem?_append_left (by rw [bcL_len]; simp; omega)]
      rcases (by omega : j = 0 ∨ j = 1 ∨ j = 2) with rfl | rfl | rfl <;> rfl
    · obtain ⟨i', rfl⟩ : ∃ i', i = i' + 1 := ⟨i - 1, by omega⟩
      rw [List.getElem?_append_right (by rw [bcL_len]; simp; omega), bcL_len]
      have := ih i' (by simpa using hi)
      simp only [List.length_cons, List.length_nil]
      rw [show (i' + 1) * 3 + j - (0 + 1) * 3 = i' * 3 + j by omega, this]
      rfl
/-- a row of blocks of the call's own reads as blocks -/
theorem bcL_blks {w : World} {base : Nat} {a : Option Addr} {n c : Nat} {l : List Blk} (h : w.ownsRow base 110 3 (.slice a n c) n (bcL l)) (hok : ∀ b ∈ l, BlkOk w.heap.size w b) (hn : n ≤ 1000) : n = l.length ∧ Blks w.heap.size w a n c fun i => l.getD i default := by
  have hl : n = l.length := by have := h.1; rw [bcL_len] at this; omega
  have hlt := h.lt
  have hcell := fun g => h.cells (g := g)
  refine ⟨hl, ?_⟩
  have okk : ∀ i, i < n → BlkOk w.heap.size w (l.getD i default) := fun i hi => by
    have hi' : i < l.length := by omega
    simp only [List.getD, List.getElem?_eq_getElem hi', Option.getD_some]
    exact hok _ (List.getElem_mem hi')
  obtain ⟨h1, h2⟩ := h
  rcases h2 with ⟨hv, h0⟩ | ⟨g, cap, cur, hv, hg, hh, hn2, hcap, hsz, _⟩
  · cases hv
    exact ⟨by omega, by omega, okk, 0, 0, fun h => by omega, fun i hi => by omega⟩
  · cases hv
    refine ⟨hn2, by unfold maxLen at hcap; omega, okk, g, 0, fun _ => ⟨rfl, (hlt g rfl).2⟩, fun i hi j hj => ?_⟩
    have := hcell g rfl (i * 3 + j) _ (bcL_get l i j (by omega) hj)
    rw [addr_add] at this
    rw [← this]
    congr 1
    simp [Nat.add_assoc]
/-- rows of kept payloads, from number lo on -/
def kcells (E : Nat → Kep) (lo n : Nat) : List Value := (List.range n).flatMap fun i => [.int .u32 (E (lo + i)).s, .int .u8 (E (lo + i)).t, .slice (E (lo + i)).a (E (lo + i)).n (E (lo + i)).c]
theorem kcells_succ (E : Nat → Kep) (lo n : Nat) : kcells E lo (n + 1) = kcells E lo n ++ [.int .u32 (E (lo + n)).s, .int .u8 (E (lo + n)).t, .slice (E (lo + n)).a (E (lo + n)).n (E (lo + n)).c] := by simp [kcells, List.range_succ]
theorem kcells_len (E : Nat → Kep) (lo n : Nat) : (kcells E lo n).length = n * 3 := by
  induction n with
  | zero => rfl
  | succ n ih => rw [kcells_succ, List.length_append, ih]; simp; omega
theorem kcells_get (E : Nat → Kep) (lo n i : Nat) (hi : i < n) : (kcells E lo n)[i * 3]? = some (.int .u32 (E (lo + i)).s) ∧ (kcells E lo n)[i * 3 + 1]? = some (.int .u8 (E (lo + i)).t) ∧ (kcells E lo n)[i * 3 + 2]? = some (.slice (E (lo + i)).a (E (lo + i)).n (E (lo + i)).c) := by
  induction n with
  | zero => omega
  | succ n ih =>
    rw [kcells_succ]
    rcases Nat.lt_or_ge i n with h | h
    · rw [List.getElem?_append_left (by rw [kcells_len]; omega), List.getElem?_append_left (by rw [kcells_len]; omega), List.getElem?_append_left (by rw [kcells_len]; omega)]
      exact ih h
    · have : i = n := by omega
      subst this
      refine ⟨?_, ?_, ?_⟩ <;> rw [List.getElem?_append_right (by rw [kcells_len]; omega), kcells_len]
      · simp
      · simp
      · simp
end Go.Proofs.Ytdmbdageohjodaa
