/-
  A whole block stored over: what is there behind the store; over any program.
-/
import Derived.Test.YtkoplofcjbeicaaBase
import Derived.Test.YtkoplofcjbeicaaMixC
import Derived.Deep.MidRow
namespace Go.Proofs.Ytkoplofcjbeicaa
open Go.RowKit
set_option linter.unusedVariables false
set_option linter.unusedSimpArgs false

def fillA (cs : Array Value) : Nat → List Value → Array Value
  | _, [] => cs
  | o, v :: r => fillA (cs.setIfInBounds o v) (o + 1) r
theorem fillA_size : ∀ (vs : List Value) (o : Nat) (cs : Array Value), (fillA cs o vs).size = cs.size
  | [], _, _ => rfl
  | v :: r, o, cs => by rw [fillA, fillA_size r]; simp
theorem fillA_get : ∀ (vs : List Value) (o : Nat) (cs : Array Value) (j : Nat), (fillA cs o vs)[j]? = if o ≤ j ∧ j < o + vs.length ∧ j < cs.size then vs[j - o]? else cs[j]?
  | [], o, cs, j => by rw [fillA, if_neg (by simp; omega)]
  | v :: r, o, cs, j => by
    rw [fillA, fillA_get r]
    simp only [Array.size_setIfInBounds, List.length_cons]
    by_cases h1 : j = o
    · subst h1
      rw [if_neg (by omega)]
      by_cases h2 : j < cs.size
      · rw [if_pos (by omega), Nat.sub_self]
        simp [h2]
      · rw [if_neg (by omega)]
        simp [h2]
    · by_cases h2 : o + 1 ≤ j ∧ j < o + 1 + r.length ∧ j < cs.size
      · rw [if_pos h2, if_pos (by omega)]
        obtain ⟨q, hq⟩ : ∃ q, j - o = q + 1 := ⟨j - o - 1, by omega⟩
        rw [hq, List.getElem?_cons_succ]
        congr 1
        omega
      · rw [if_neg h2, if_neg (by omega)]
        rw [Array.getElem?_setIfInBounds_ne (Ne.symm h1)]
theorem fillA_all {cs : Array Value} {vs : List Value} (h : cs.size = vs.length) : fillA cs 0 vs = vs.toArray := by
  apply Array.ext_getElem?
  intro j
  rw [fillA_get]
  by_cases hj : j < vs.length
  · rw [if_pos (by omega), Nat.sub_zero]; simp
  · rw [if_neg (by omega)]
    simp [hj, h]
theorem setCells_blk {T : TypeId} {m : Nat × Nat} {g : Nat} : ∀ (vs : List Value) (o : Nat) (cs : Array Value) (W : World), W.heap[g]? = some (.cells cs T m) → (W.setCells g o vs).heap[g]? = some (.cells (fillA cs o vs) T m)
  | [], _, _, _, h => h
  | v :: r, o, cs, W, h => by
    rw [World.setCells, fillA]
    exact setCells_blk r (o + 1) _ _ (set_blk v h)
theorem setCells_other {g k : Nat} (hk : k ≠ g) : ∀ (vs : List Value) (o : Nat) (W : World), (W.setCells g o vs).heap[k]? = W.heap[k]?
  | [], _, _ => rfl
  | v :: r, o, W => by
    rw [World.setCells, setCells_other hk r]
    exact set_blk_other v hk
theorem setCells_below {B g : Nat} (hB : B ≤ g) : ∀ (vs : List Value) (o : Nat) (W : World), Below B W (W.setCells g o vs)
  | [], _, _ => Below.refl _ _
  | v :: r, o, W => by
    rw [World.setCells]
    exact ((Below.refl B W).setCell hB v (p := ⟨g, o, none⟩)).trans (setCells_below hB r (o + 1) _)
theorem fill_blk {W X : World} {g : Nat} {T : TypeId} {m : Nat × Nat} {cs : Array Value} {vs : List Value} (h : W.heap[g]? = some (.cells cs T m)) (hs : cs.size = vs.length) (hX : W.setCells g 0 vs = X) :
    X.heap[g]? = some (.cells vs.toArray T m) ∧ (∀ B, B ≤ g → Below B W X) ∧ (∀ k, k ≠ g → X.heap[k]? = W.heap[k]?) := by
  subst hX
  refine ⟨?_, fun B hB => setCells_below hB vs 0 W, fun k hk => setCells_other hk vs 0 W⟩
  rw [← fillA_all hs]
  exact setCells_blk vs 0 cs W h
theorem there_blk {W : World} {g n : Nat} {T : TypeId} {cs : Array Value} (h : W.heap[g]? = some (.cells cs T (0, 0))) (hn : n ≤ cs.size) : W.there g 0 n := fun j hj => by
  refine ⟨?_, by rw [Nat.zero_add]; exact free_blk h⟩
  rw [Nat.zero_add]
  rw [cell_blk h]
  simp [show j < cs.size by omega]
/-- a whole struct's store, as a mover -/
theorem mv_store {P : Program} {C : World → Prop} {w X : World} {o : Oper} {a : Act} {K : Act → World → Prop} (ty : TypeId) (x y : Operand) (ho : o.op = .store ty x y) (b : Nat) (cells : Array Value) (hx : a.eval x = .pointer (some ⟨b, 0, none⟩)) (hy : a.eval y = .agg cells)
    (ht : w.there b 0 cells.size) (hi : (P.info? ty).map (·.size) = some cells.size) (h1 : cells.all (·.oneCell') = true) (hX : w.setCells b 0 cells.toList = X) (hC : C X) (hK : K (a.put o.dst undef) X) : MixC.mvUpon P C o a K ((execOp a.eval o).run P w) := by
  have e : (execOp a.eval o).run P w = .ok .skip X := by
    unfold execOp
    simp only [ho, hx, hy, Instr.storeAt, Instr.sureAddr, Sem.run_bind, Sem.run_pure, Result.andThen_ok, run_storeVar_mid w b 0 ty cells ht hi h1, hX]
  rw [e]
  exact ⟨hC, hK⟩
theorem own_blockR {w : World} {b1 : Nat} {e1 : TypeId} {s1 n1 : Nat} {v1 : Value} {xs1 : List Value} (h1 : w.ownsRow b1 e1 s1 v1 n1 xs1) : ∀ g, v1.ownBlock = some g → ∃ cs mm, w.heap[g]? = some (.cells cs e1 mm) := fun g hg => by
  rcases h1.2 with ⟨hv, _⟩ | ⟨x, _, cs, hv, _, hx, _⟩
  · rw [hv] at hg; cases hg
  · rw [hv] at hg; cases hg; exact ⟨_, _, hx⟩
end Go.Proofs.Ytkoplofcjbeicaa
