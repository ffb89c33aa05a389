/-
  An append as a mover of a region (XMixC, XMixT); a class: one block whole.
-/
import Derived.Test.YtkoplofcjbeicaaMixT
import Derived.Test.YtkoplofcjbeicaaOwn
namespace Go.Proofs.Ytkoplofcjbeicaa
open Go.RowKit
set_option linter.unusedVariables false
set_option linter.unusedSimpArgs false

theorem mv_app {P : Program} {C : World → Prop} {w w' : World} {o : Oper} {a : Act} {K : Act → World → Prop} {s x : Operand} {t : TypeId} (ho : o.op = .call { callee := .builtin .append, args := #[s, x], argTypes := #[t, t] }) {v1 v2 v' : Value} (hs : a.eval s = v1) (hx : a.eval x = v2)
    (hr : ∀ ty, (Builtin.append_ #[t, t] ty #[v1, v2]).run P w = .ok v' w') (hC : C w') (hK : K (a.put o.dst v') w') : MixC.mvUpon P C o a K ((execOp a.eval o).run P w) := by
  rw [exec_append ho hs hx (hr o.type)]
  exact ⟨hC, hK⟩
/-- one block whole -/
def HasO (b : Nat) (o : Obj) (w : World) : Prop := w.heap[b]? = some o
/-- a number of blocks whole -/
def Has (l : List (Nat × Obj)) (w : World) : Prop := ∀ x ∈ l, w.heap[x.1]? = some x.2
theorem Has.below {l : List (Nat × Obj)} {B : Nat} {w w' : World} (h : Has l w) (hb : Below B w w') (hl : ∀ x ∈ l, x.1 < B) : Has l w' := fun x hx => Below.blk hb (h x hx) (hl x hx)
theorem Has.but {l : List (Nat × Obj)} {r : Option Nat} {w w' : World} (h : Has l w) (hb : But r w w') (hl : ∀ x ∈ l, r ≠ some x.1) : Has l w' := fun x hx => hb.blk (h x hx) (hl x hx)
theorem Has.alloc {l : List (Nat × Obj)} {w : World} (h : Has l w) (o : Obj) : Has l (w.alloc o) := fun x hx => (alloc_blk_old (lt_of_block (h x hx))).trans (h x hx)
end Go.Proofs.Ytkoplofcjbeicaa
