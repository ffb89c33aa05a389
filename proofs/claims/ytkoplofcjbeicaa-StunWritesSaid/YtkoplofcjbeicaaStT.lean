/-
  Chapter 12: two arrays of twelve bytes are compared.
-/
import Derived.Test.YtkoplofcjbeicaaStF
import Derived.ChangeKeysEq
import Derived.Laws.StructEq
namespace Go.Proofs.Ytkoplofcjbeicaa
open Go.RowKit
set_option linter.unusedVariables false
set_option linter.unusedSimpArgs false

theorem infoU8' : ∃ i, Try.prog.info? 5 = some i := by
  have h : (Try.prog.info? 5).isSome = true := by kernel_rfl
  exact Option.isSome_iff_exists.1 h
theorem cellsU8 : Try.prog.cellsOf 5 = 1 := by kernel_rfl
theorem undTx : Try.prog.underlying 25 = some (.array 12 5) := by kernel_rfl
def txV (x : Nat → Int) : Value := .agg #[.int .u8 (x 0), .int .u8 (x 1), .int .u8 (x 2), .int .u8 (x 3), .int .u8 (x 4), .int .u8 (x 5), .int .u8 (x 6), .int .u8 (x 7), .int .u8 (x 8), .int .u8 (x 9), .int .u8 (x 10), .int .u8 (x 11)]
theorem part_u8 (xs : Array Value) (k : Nat) (v : Int) (W : World) (h : xs[k]? = some (.int .u8 v)) : (part 5 xs k).run Try.prog W = .ok (.int .u8 v) W := by
  have h0 : (isAgg 5).run Try.prog W = .ok false W := by kernel_rfl
  simp [part, h0, h]
theorem neq_tx (x : Nat → Int) (W : World) : (binOp .neq 25 (txV x) (txV x)).run Try.prog W = .ok (.bool false) W := by
  obtain ⟨i, hi⟩ := infoU8'
  unfold txV
  rw [run_neq_struct, run_equalIn_array W 9999 _ _ undTx hi, cellsU8]
  have e : List.range 12 = [0, 1, 2, 3, 4, 5, 6, 7, 8, 9, 10, 11] := rfl
  rw [e]
  have hq : ∀ v : Int, (Op.equalIn 9999 5 (.int .u8 v) (.int .u8 v)).run Try.prog W = .ok true W := fun v => by
    rw [run_equalIn_int W 9998 5 .u8 .u8 v v Try.underlying5, beq_self_eq_true]
  obtain ⟨A, hA⟩ : ∃ A : Array Value, #[.int .u8 (x 0), .int .u8 (x 1), .int .u8 (x 2), .int .u8 (x 3), .int .u8 (x 4), .int .u8 (x 5), .int .u8 (x 6), .int .u8 (x 7), .int .u8 (x 8), .int .u8 (x 9), .int .u8 (x 10), .int .u8 (x 11)] = A := ⟨_, rfl⟩
  rw [hA]
  have p0 := part_u8 A 0 (x 0) W (by rw [← hA]; rfl)
  have p1 := part_u8 A 1 (x 1) W (by rw [← hA]; rfl)
  have p2 := part_u8 A 2 (x 2) W (by rw [← hA]; rfl)
  have p3 := part_u8 A 3 (x 3) W (by rw [← hA]; rfl)
  have p4 := part_u8 A 4 (x 4) W (by rw [← hA]; rfl)
  have p5 := part_u8 A 5 (x 5) W (by rw [← hA]; rfl)
  have p6 := part_u8 A 6 (x 6) W (by rw [← hA]; rfl)
  have p7 := part_u8 A 7 (x 7) W (by rw [← hA]; rfl)
  have p8 := part_u8 A 8 (x 8) W (by rw [← hA]; rfl)
  have p9 := part_u8 A 9 (x 9) W (by rw [← hA]; rfl)
  have p10 := part_u8 A 10 (x 10) W (by rw [← hA]; rfl)
  have p11 := part_u8 A 11 (x 11) W (by rw [← hA]; rfl)
  simp only [Op.eqItems, Nat.mul_one, Sem.run_bind, p0, p1, p2, p3, p4, p5, p6, p7, p8, p9, p10, p11, Result.andThen_ok, hq, Bool.not_true, Bool.false_eq_true, if_false, Sem.run_pure, Bool.not_false, Bool.not_true]
end Go.Proofs.Ytkoplofcjbeicaa
