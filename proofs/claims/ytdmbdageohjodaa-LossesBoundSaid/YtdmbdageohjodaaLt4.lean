/-
  Chapter 20: the reference's keeper: Ask.
-/
import Derived.Test.YtdmbdageohjodaaLt3
import Derived.Test.YtdmbdageohjodaaCopy3
namespace Go.Proofs.Ytdmbdageohjodaa
open Go.RowKit
set_option linter.unusedVariables false
set_option linter.unusedSimpArgs false
attribute [local irreducible] wpStill wpQuiet MixC.wpMix MixC.wpPick MixC.wpPickT
attribute [local go_sem] MixC.rdOp MixC.rd MixC.rdUpon MixC.mvUpon

/-- between two places -/
structure RA (B g : Nat) (pause high tick : Int) (L : List Mis) (x m : Nat) (l : List Int) (al : Option Addr) (cl : Nat) (P : List Mis) (w wr : World) : Prop where
  k : RK B g pause high (P ++ L.drop x) wr
  pl : P.length = x
  eq : askM tick pause [] L = (P ++ (askM tick pause l (L.drop x)).1, (askM tick pause l (L.drop x)).2)
  bl : Below B w wr
  ty : Ty rTs w wr
  ln : m = l.length
  bd : ∀ y ∈ l, 0 ≤ y ∧ y ≤ 65535
  row : wr.ownsRow w.heap.size 33 1 (.slice al m cl) m (u16s l)
theorem RA.start {B g : Nat} {pause high tick : Int} {L : List Mis} {w : World} (h : RK B g pause high L w) : RA B g pause high tick L 0 0 [] none 0 [] w w :=
  ⟨h, rfl, rfl, Below.refl _ _, Ty.refl _ _, rfl, fun y hy => (by cases hy), World.ownsRow_nil _ _ _ _⟩
theorem RA.get {B g : Nat} {pause high tick : Int} {L : List Mis} {x m : Nat} {l : List Int} {al : Option Addr} {cl : Nat} {P : List Mis} {w wr : World} (h : RA B g pause high tick L x m l al cl P w wr) (hx : x < L.length) : (P ++ L.drop x)[x]'(by rw [List.length_append, h.pl, List.length_drop]; omega) = L[x]'hx := by
  rw [List.getElem_append_right (by rw [h.pl]; exact Nat.le_refl _)]
  simp [h.pl]
theorem RA.len {B g : Nat} {pause high tick : Int} {L : List Mis} {x m : Nat} {l : List Int} {al : Option Addr} {cl : Nat} {P : List Mis} {w wr : World} (h : RA B g pause high tick L x m l al cl P w wr) (hx : x ≤ L.length) : (P ++ L.drop x).length = L.length := by rw [List.length_append, h.pl, List.length_drop]; omega
theorem askM_cons (tick pause : Int) (l : List Int) (m : Mis) (M : List Mis) : askM tick pause l (m :: M) = if tick < m.nx then (m :: (askM tick pause l M).1, (askM tick pause l M).2) else if 16 < (lossL (l ++ [seqI m.i])).length then (m :: M, l) else (upM tick pause m :: (askM tick pause (l ++ [seqI m.i]) M).1, (askM tick pause (l ++ [seqI m.i]) M).2) := rfl
theorem RA.skip {B g : Nat} {pause high tick : Int} {L : List Mis} {x m : Nat} {l : List Int} {al : Option Addr} {cl : Nat} {P : List Mis} {w wr : World} (h : RA B g pause high tick L x m l al cl P w wr) (hx : x < L.length) (hd : tick < (L[x]'hx).nx) : RA B g pause high tick L (x + 1) m l al cl (P ++ [L[x]'hx]) w wr := by
  have e := List.drop_eq_getElem_cons hx
  refine ⟨?_, by rw [List.length_append, h.pl]; rfl, ?_, h.bl, h.ty, h.ln, h.bd, h.row⟩
  · rw [List.append_assoc]
    show RK B g pause high (P ++ ([L[x]'hx] ++ L.drop (x + 1))) wr
    rw [show [L[x]'hx] ++ L.drop (x + 1) = L.drop x from e.symm]
    exact h.k
  · rw [h.eq, e, askM_cons, if_pos hd]
    simp
theorem set_at {P M : List Mis} {x : Nat} {y z : Mis} (h : P.length = x) : (P ++ y :: M).set x z = P ++ z :: M := by
  subst h
  rw [List.set_append_right _ _ (Nat.le_refl _), Nat.sub_self]
  rfl
theorem RA.turn {B g : Nat} {pause high tick : Int} {L : List Mis} {x m : Nat} {l : List Int} {al : Option Addr} {cl : Nat} {P : List Mis} {w wr : World} (h : RA B g pause high tick L x m l al cl P w wr) (hx : x < L.length) (hd : ¬ tick < (L[x]'hx).nx) (hl : ¬ 16 < (lossL (l ++ [seqI (L[x]'hx).i])).length)
    {a2 : Option Addr} {c2 : Nat} {Z : World} (hk : RK B g pause high (P ++ upM tick pause (L[x]'hx) :: L.drop (x + 1)) Z) (hb : Below B wr Z) (ht : Ty rTs wr Z) (hr : Z.ownsRow w.heap.size 33 1 (.slice a2 (m + 1) c2) (m + 1) (u16s (l ++ [seqI (L[x]'hx).i]))) :
    RA B g pause high tick L (x + 1) (m + 1) (l ++ [seqI (L[x]'hx).i]) a2 c2 (P ++ [upM tick pause (L[x]'hx)]) w Z := by
  have e := List.drop_eq_getElem_cons hx
  refine ⟨by rw [List.append_assoc]; exact hk, by rw [List.length_append, h.pl]; rfl, ?_, h.bl.trans hb, h.ty.trans ht, by rw [List.length_append, h.ln]; rfl, fun y hy => ?_, hr⟩
  · rw [h.eq, e, askM_cons, if_neg hd, if_neg hl]
    simp
  · rcases List.mem_append.1 hy with h1 | h1
    · exact h.bd y h1
    · have : y = seqI (L[x]'hx).i := by simpa using h1
      subst this
      unfold seqI; omega
theorem RA.stop {B g : Nat} {pause high tick : Int} {L : List Mis} {x m : Nat} {l : List Int} {al : Option Addr} {cl : Nat} {P : List Mis} {w wr : World} (h : RA B g pause high tick L x m l al cl P w wr) (hx : x < L.length) (hd : ¬ tick < (L[x]'hx).nx) (hl : 16 < (lossL (l ++ [seqI (L[x]'hx).i])).length) : askM tick pause [] L = (P ++ L.drop x, l) := by
  have e := List.drop_eq_getElem_cons hx
  rw [h.eq, e, askM_cons, if_neg hd, if_pos hl]
theorem RA.done {B g : Nat} {pause high tick : Int} {L : List Mis} {x m : Nat} {l : List Int} {al : Option Addr} {cl : Nat} {P : List Mis} {w wr : World} (h : RA B g pause high tick L x m l al cl P w wr) (hx : x = L.length) : askM tick pause [] L = (P ++ L.drop x, l) := by
  rw [h.eq, hx, List.drop_length]; simp [askM]
end Go.Proofs.Ytdmbdageohjodaa
