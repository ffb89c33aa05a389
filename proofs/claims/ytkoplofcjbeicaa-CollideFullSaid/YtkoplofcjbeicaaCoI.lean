/-
  Chapter 44: the places that conflict, rising.
-/
import Derived.Test.YtkoplofcjbeicaaCoC
import Derived.Test.YtkoplofcjbeicaaCoH
import Derived.Test.YtkoplofcjbeicaaU8
namespace Go.Proofs.Ytkoplofcjbeicaa
open Go.RowKit
set_option linter.unusedVariables false
set_option linter.unusedSimpArgs false
attribute [local irreducible] wpStill wpQuiet MixC.wpMix

theorem infoTup : (Try.prog.info? 43).map (fun i => (i.zero, i.size, i.bytes)) = some (some (.agg #[.int .u32 0, .int .u16 0]), 2, 8) := by kernel_rfl
theorem elTup : ElemT Try.prog 68 43 2 8 := ElemT.mk' (z := .agg #[.int .u32 0, .int .u16 0]) Try.underlying68 infoTup rfl (by decide)
/-- places as cells -/
def tvs (L : List Plc) : List Value := L.flatMap fun x => [.int .u32 x.1, .int .u16 x.2]
theorem tvs_app (L M : List Plc) : tvs (L ++ M) = tvs L ++ tvs M := by simp [tvs]
theorem tvs_len (L : List Plc) : (tvs L).length = L.length * 2 := by
  induction L with
  | nil => rfl
  | cons x L ih => show (tvs L).length + 2 = _; rw [ih, List.length_cons]; omega
theorem tvs_get : ∀ (L : List Plc) (i : Nat) (h : i < L.length), (tvs L)[i * 2]? = some (.int .u32 (L[i]).1) ∧ (tvs L)[i * 2 + 1]? = some (.int .u16 (L[i]).2)
  | x :: L, 0, _ => ⟨rfl, rfl⟩
  | x :: L, i + 1, h => by
    obtain ⟨h1, h2⟩ := tvs_get L i (by simpa using h)
    have e1 : (i + 1) * 2 = i * 2 + 1 + 1 := by omega
    rw [e1]
    exact ⟨h1, h2⟩
/-- what was collected -/
structure Col (C : Plc → Option Value) (left : Plc → Bool) (L : List Plc) : Prop where
  nd : L.Nodup
  is : ∀ x, x ∈ L → plok x
  iff : ∀ x, plok x → (x ∈ L ↔ (C x).isSome = true ∧ left x = false)
theorem Col.start (C : Plc → Option Value) : Col C (fun x => (C x).isSome) [] := ⟨List.nodup_nil, fun x h => by simp at h, fun x hx => by cases h : (C x).isSome <;> simp [h]⟩
theorem Col.step {C : Plc → Option Value} {left : Plc → Bool} {L : List Plc} {x : Plc} {v : Value} (h : Col C left L) (hx : plok x) (hl : left x = true) (hc : C x = some v) : Col C (fun y => left y && !decide (y = x)) (L ++ [x]) := by
  refine ⟨List.nodup_append.2 ⟨h.nd, by simp, fun a ha b hb e => ?_⟩, fun y hy => ?_, fun y hy => ?_⟩
  · simp at hb; subst hb; subst e
    have := ((h.iff a (h.is a ha)).1 ha).2
    rw [hl] at this; cases this
  · rcases List.mem_append.1 hy with h1 | h1
    · exact h.is y h1
    · simp at h1; subst h1; exact hx
  · rw [List.mem_append, h.iff y hy]
    by_cases e : y = x
    · subst e; simp [hc]
    · simp [e]
end Go.Proofs.Ytkoplofcjbeicaa
