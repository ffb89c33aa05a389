/-
  Chapter 44: places as keys of maps.
-/
import Derived.Test.YtkoplofcjbeicaaMapR
import Derived.DeepKeys4
import Derived.Test.YtkoplofcjbeicaaProg
namespace Go.Proofs.Ytkoplofcjbeicaa
open Go.RowKit
set_option linter.unusedVariables false
set_option linter.unusedSimpArgs false

/-- a place: address, port -/
abbrev Plc := Int × Int
def plv (x : Plc) : Value := .agg #[.int .u32 x.1, .int .u16 x.2]
def plok (x : Plc) : Prop := (Lit.int .u32 x.1).wf = true ∧ (Lit.int .u16 x.2).wf = true
theorem tup_wide : (match Try.prog.underlying 43 with | some (.array _ _) | some (.struct _) => true | _ => false) = true := by kernel_rfl
theorem laid44 : laidOutB Try.prog = true := by kernel_rfl
theorem row44 : (43 : TypeId) < Try.prog.types.size := of_decide_eq_true (by kernel_rfl)
set_option maxRecDepth 100000 in
theorem law44 : WideMaps.KeyLaw Try.prog 43 := deep_law_laid laid44 (m := 2) (by omega) row44 (by kernel_rfl) tup_wide
theorem cells43 : Try.prog.cellsOf 43 = 2 := by kernel_rfl
theorem cells41 : Try.prog.cellsOf 41 = 1 := by kernel_rfl
theorem cells24 : Try.prog.cellsOf 24 = 1 := by kernel_rfl
theorem kt43 : Try.prog.keyType 43 = true := by kernel_rfl
theorem plkey (x : Plc) (h : plok x) : ∃ l, keyOf Try.prog 43 (plv x) = some l := by
  obtain ⟨h1, h2⟩ := h
  obtain ⟨d, hd⟩ := Nat.exists_eq_add_of_lt row44
  refine ⟨.string (keyBytes [.int .u32 x.1, .int .u16 x.2]), ?_⟩
  have f1 : Value.formed Try.prog 43 (plv x) = true := by simp [Value.formed, plv, Try.underlying43, cells43]
  have hl : Try.prog.keyLits (Try.prog.types.size + 1) 43 (plv x).cells.toList = some [.int .u32 x.1, .int .u16 x.2] := by
    rw [hd]
    simp [Program.keyLits, Try.underlying43, Try.underlying41, Try.underlying24, cells43, cells41, cells24, plv, Value.cells, h1, h2]
  unfold keyOf
  rw [Try.underlying43]
  simp only [kt43, f1, hl, Bool.and_self, if_true, Option.map_some]
set_option maxRecDepth 100000 in
theorem plinv (v : Value) (l : Lit) (h : keyOf Try.prog 43 v = some l) : ∃ x, plok x ∧ v = plv x := by
  obtain ⟨xs, L, rfl, h1, h2⟩ := keyOf_top tup_wide h
  obtain ⟨d, hd⟩ := Nat.exists_eq_add_of_lt row44
  rw [hd] at h1
  obtain ⟨l0⟩ := xs
  have hlen : l0.length = 2 := by
    by_cases hl : l0.length = 2
    · exact hl
    · simp [Program.keyLits, Try.underlying43, cells43, hl] at h1
  match l0, hlen with
  | [a, b], _ =>
    simp [Program.keyLits, Try.underlying43, Try.underlying41, Try.underlying24, cells43, cells41, cells24] at h1
    cases a <;> simp at h1
    rename_i q1 x1 _
    by_cases c1 : q1 = .u32 ∧ (Lit.int .u32 x1).wf = true
    · rw [if_pos c1] at h1
      cases b <;> simp at h1
      rename_i q2 x2 _
      by_cases c2 : q2 = .u16 ∧ (Lit.int .u16 x2).wf = true
      · obtain ⟨rfl, w1⟩ := c1
        obtain ⟨rfl, w2⟩ := c2
        exact ⟨(x1, x2), ⟨w1, w2⟩, rfl⟩
      · rw [if_neg c2] at h1; simp at h1
    · rw [if_neg c1] at h1; simp at h1
noncomputable def tupKey : KeyI Try.prog 43 Plc where
  law := Maps.Keyed.of_law law44
  kv := plv
  kl := fun x => (keyOf Try.prog 43 (plv x)).getD (.bool true)
  ok := plok
  key := fun x hx => by obtain ⟨l, hl⟩ := plkey x hx; rw [hl]; rfl
  lit := fun x => by
    cases hl : keyOf Try.prog 43 (plv x) with
    | none => trivial
    | some l => exact (Maps.Keyed.of_law law44).key hl
  inj := fun x y hx hy h => by
    obtain ⟨l1, h1⟩ := plkey x hx
    obtain ⟨l2, h2⟩ := plkey y hy
    rw [h1, h2] at h
    simp only [Option.getD_some] at h
    subst h
    have := law44.inj h1 h2
    unfold plv at this
    obtain ⟨a, b⟩ := x
    obtain ⟨c, d⟩ := y
    simp at this
    rw [this.1, this.2]
  inv := plinv
end Go.Proofs.Ytkoplofcjbeicaa
