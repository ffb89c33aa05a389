/-
  A range over a map in memory, the map as a function from keys to values: which keys are still to come. Over any program, any key's type, any elements.
-/
import Derived.Test.YtkoplofcjbeicaaMapI
import Derived.Maps.RangeWalk
namespace Go.Proofs.Ytkoplofcjbeicaa
open Go.RowKit
set_option linter.unusedVariables false
set_option linter.unusedSimpArgs false

/-- how a type's values are keys, and that all keys are such -/
structure KeyI (P : Program) (K : TypeId) (α : Type) extends KeyT P K α where
  inv : ∀ key l, keyOf P K key = some l → ∃ x, ok x ∧ key = kv x
def intKeyI {P : Program} {K : TypeId} {q : IntKind} (hu : P.underlying K = some (.int q)) : KeyI P K Int where
  toKeyT := intKey hu
  inv := fun key l h => by
    obtain ⟨x, h1, h2, h3⟩ := Maps.keyOf_int_inv hu h
    exact ⟨x, h3, h1⟩
section
variable {P : Program} {K : TypeId} {α : Type} {k : KeyI P K α}
/-- An iterator at block r goes over the map at block b (that has f x at x): left tells which keys are still to come, cnt how many. -/
def RangeI (k : KeyI P K α) (w : World) (b r n : Nat) (f : α → Option Value) (sz : Nat) (left : α → Bool) (cnt : Nat) : Prop :=
  ∃ (D : DataW Value) (L : Lit → Bool), w.ranges P K RV b r n D L cnt ∧ Maps.size D = sz ∧ (∀ x, k.ok x → Maps.has D (k.kl x) = (f x).isSome ∧ ∀ z, D.atKey (k.kl x) z = match f x with | some v => .held v | none => z) ∧ ∀ x, k.ok x → L (k.kl x) = left x
theorem RangeI.map {w : World} {b r n : Nat} {f : α → Option Value} {sz : Nat} {left : α → Bool} {cnt : Nat} (h : RangeI k w b r n f sz left cnt) : MapI k.toKeyT w b n f sz := by
  obtain ⟨D, L, h1, h2, h3, -⟩ := h
  exact ⟨D, h1.owns, h2, h3⟩
theorem RangeI.of_blks {w w' : World} {b r n : Nat} {f : α → Option Value} {sz : Nat} {left : α → Bool} {cnt : Nat} (h : RangeI k w b r n f sz left cnt) (hb : w'.heap[b]? = w.heap[b]?) (hr : w'.heap[r]? = w.heap[r]?) : RangeI k w' b r n f sz left cnt := by
  obtain ⟨D, L, ⟨es, clock, since, seen, c0, h1, h2, h3, h4, h5, h6⟩, h7⟩ := h
  exact ⟨D, L, ⟨es, clock, since, seen, c0, hb.trans h1, h2, h3, h4, hr.trans h5, h6⟩, h7⟩
theorem RangeI.ne {w : World} {b r n : Nat} {f : α → Option Value} {sz : Nat} {left : α → Bool} {cnt : Nat} (h : RangeI k w b r n f sz left cnt) : r ≠ b := by
  obtain ⟨D, L, h1, -⟩ := h; exact h1.ne
theorem RangeI.lt {w : World} {b r n : Nat} {f : α → Option Value} {sz : Nat} {left : α → Bool} {cnt : Nat} (h : RangeI k w b r n f sz left cnt) : r < w.heap.size := by
  obtain ⟨D, L, h1, -⟩ := h; exact h1.lt
theorem RangeI.cnt_le {w : World} {b r n : Nat} {f : α → Option Value} {sz : Nat} {left : α → Bool} {cnt : Nat} (h : RangeI k w b r n f sz left cnt) : w.rangeLeft b r = cnt := by
  obtain ⟨D, L, h1, -⟩ := h; exact h1.left_eq
theorem below_of_grown {w w' : World} {r B : Nat} (h : w.grownBy w' (some r)) (hr : B ≤ r) (hB : B ≤ w.heap.size) : Below B w w' := (keeps_of_grown h).below hB hr
/-- range m -/
theorem MapI.range {w : World} {b n : Nat} {f : α → Option Value} {sz : Nat} (h : MapI k.toKeyT w b n f sz) {t e : TypeId} (ht : P.underlying t = some (.map K e)) :
    ∃ w', (Instr.range t (.map (some b))).run P w = .ok (.pointer (some ⟨w.heap.size, 0, none⟩)) w' ∧ RangeI k w' b w.heap.size n f sz (fun x => (f x).isSome) sz ∧ Below w.heap.size w w' ∧ w'.heap.size = w.heap.size + 1 := by
  obtain ⟨D, h1, rfl, h3⟩ := h
  obtain ⟨w', r1, r2, r3, r4⟩ := h1.range k.law ht
  refine ⟨w', r1, ⟨D, _, r2, rfl, h3, fun x hx => (h3 x hx).1⟩, ⟨r3.os, r3.tape, r3.output, r3.size, fun i hi => r3.block i hi (by simp)⟩, r4⟩
variable [DecidableEq α]
/-- the step -/
theorem RangeI.next {w : World} {b r n : Nat} {f : α → Option Value} {sz : Nat} {left : α → Bool} {cnt : Nat} (h : RangeI k w b r n f sz left cnt) (ty : TypeId) :
    (cnt = 0 ∧ (∀ x, k.ok x → left x = false) ∧ (Instr.next (.pointer (some ⟨r, 0, none⟩)) false ty).run P w = .ok (.tuple #[.bool false]) w) ∨
    ∃ x v w' cnt', k.ok x ∧ left x = true ∧ f x = some v ∧ (Instr.next (.pointer (some ⟨r, 0, none⟩)) false ty).run P w = .ok (.tuple #[.bool true, k.kv x, v]) w' ∧
      RangeI k w' b r n f sz (fun y => left y && !decide (y = x)) cnt' ∧ cnt' < cnt ∧ Keeps r w w' ∧ w'.heap.size = w.heap.size ∧ (Instr.entry (.pointer (some ⟨r, 0, none⟩))).run P w' = .ok (.tuple #[k.kv x, v]) w' := by
  obtain ⟨D, L, h1, h2, h3, h4⟩ := h
  rcases h1.next k.law ty with ⟨r1, r2, r3⟩ | ⟨key, v, kl, y, w', cnt', r1, r2, r3, r4, r5, r6, r7, r8, r9, r10⟩
  · exact .inl ⟨r1, fun x hx => by rw [← h4 x hx]; exact r2 _, r3⟩
  · obtain ⟨x, hx, rfl⟩ := k.inv key kl r1
    obtain rfl : kl = k.kl x := by rw [k.key x hx] at r1; injection r1 with r1; exact r1.symm
    have hy : y.1 = .held v := by simp [RV] at r3; rw [← r3]
    have hf : f x = some v := by
      cases hfx : f x with
      | none =>
        have := (h3 x hx).2 (.map [])
        rw [r4, hy, hfx] at this
        simp at this
      | some u =>
        have := (h3 x hx).2 (.map [])
        rw [r4, hy, hfx] at this
        simp at this
        rw [this]
    refine .inr ⟨x, v, w', cnt', hx, by rw [← h4 x hx]; exact r2, hf, r5, ⟨D, _, r6, h2, h3, fun z hz => ?_⟩, r7, keeps_of_grown r8, r9, r10⟩
    show (L (k.kl z) && !(k.kl z).sameKey (k.kl x)) = _
    rw [h4 z hz]
    congr 1
    congr 1
    rw [Bool.eq_iff_iff, WideAt.sameKey_iff (k.lit x), decide_eq_true_iff]
    exact ⟨fun e => k.inj z x hz hx e, fun e => by rw [e]⟩
end
end Go.Proofs.Ytkoplofcjbeicaa
