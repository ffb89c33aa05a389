/-
  Chapter 20: the reference's keeper: three rows; New, drop.
-/
import Derived.Test.YtdmbdageohjodaaLsU
import Derived.Test.YtdmbdageohjodaaLsJ
namespace Go.Proofs.Ytdmbdageohjodaa
open Go.RowKit
set_option linter.unusedVariables false
set_option linter.unusedSimpArgs false
attribute [local irreducible] wpStill wpQuiet MixC.wpMix MixC.wpPick MixC.wpPickT
attribute [local go_sem] MixC.rdOp MixC.rd MixC.rdUpon MixC.mvUpon

theorem infoInt : (Try.prog.info? 3).map (fun i => (i.zero, i.size, i.bytes)) = some (some (.int .i64 0), 1, 8) := by kernel_rfl
theorem elInt : ElemT Try.prog 39 3 1 8 := ElemT.mk' Try.underlying39 infoInt rfl (by decide)
def vsI (L : List Int) : List Value := L.map fun i => .int .i64 i
theorem vsI_len (L : List Int) : (vsI L).length = L.length := List.length_map ..
theorem vsI_app (L M : List Int) : vsI (L ++ M) = vsI L ++ vsI M := List.map_append ..
theorem vsI_get {L : List Int} {i : Nat} {x : Int} (h : L[i]? = some x) : (vsI L)[i]? = some (.int .i64 x) := by unfold vsI; rw [List.getElem?_map, h]; rfl
/-- three rows apart -/
structure R3 (B : Nat) (w : World) (vI : Value) (I : List Int) (vN : Value) (N : List Int) (vT : Value) (T : List Int) : Prop where
  hI : w.ownsRow B 2 1 vI I.length (vsI I)
  hN : w.ownsRow B 2 1 vN N.length (vsI N)
  hT : w.ownsRow B 3 1 vT T.length (vsI T)
  ap : ∀ k, vI.ownBlock = some k → vN.ownBlock ≠ some k
theorem R3.nil (B : Nat) (w : World) : R3 B w (.slice none 0 0) [] (.slice none 0 0) [] (.slice none 0 0) [] := ⟨World.ownsRow_nil _ _ _ _, World.ownsRow_nil _ _ _ _, World.ownsRow_nil _ _ _ _, fun k e => (by cases e)⟩
theorem own_typ {w : World} {b1 : Nat} {e1 : TypeId} {s1 n1 : Nat} {v1 : Value} {xs1 : List Value} (h1 : w.ownsRow b1 e1 s1 v1 n1 xs1) {r : Option Nat} {T : TypeId} (hr : ∀ k, r = some k → ∃ cs m, w.heap[k]? = some (.cells cs T m)) (hT : e1 ≠ T) : ∀ k, v1.ownBlock = some k → r ≠ some k := fun k hk e => by
  obtain ⟨cs, m, h2⟩ := hr k e
  obtain ⟨cs', m', h3⟩ := own_block h1 k hk
  rw [h2] at h3
  injection h3 with h3
  injection h3 with _ h3
  exact hT h3.symm
theorem R3.but {B : Nat} {w w' : World} {vI vN vT : Value} {I N T : List Int} (h : R3 B w vI I vN N vT T) {r : Option Nat} {U : TypeId} (hb : But r w w') (hr : ∀ k, r = some k → ∃ cs m, w.heap[k]? = some (.cells cs U m)) (h1 : 2 ≠ U) (h2 : 3 ≠ U) : R3 B w' vI I vN N vT T :=
  ⟨own_but h.hI hb (own_typ h.hI hr h1), own_but h.hN hb (own_typ h.hN hr h1), own_but h.hT hb (own_typ h.hT hr h2), h.ap⟩
theorem R3.below {B : Nat} {w w' : World} {vI vN vT : Value} {I N T : List Int} (h : R3 B w vI I vN N vT T) (hb : Below w.heap.size w w') : R3 B w' vI I vN N vT T :=
  ⟨own_below h.hI hb, own_below h.hN hb, own_below h.hT hb, h.ap⟩
theorem R3.pushI {B : Nat} {w : World} {vI vN vT : Value} {I N T : List Int} (h : R3 B w vI I vN N vT T) (hB : B ≤ w.heap.size) (hn : I.length ≤ 1000000) (x : Int) :
    ∃ a' c' W, (∀ ty, (Builtin.append_ #[37, 37] ty #[vI, .slice (some ⟨w.heap.size, 0, none⟩) 1 1]).run Try.prog (w.alloc (.cells #[.int .i64 x] 2)) = .ok (.slice a' (I.length + 1) c') W) ∧ Below B w W ∧ Ty [2] w W ∧ R3 B W (.slice a' (I.length + 1) c') (I ++ [x]) vN N vT T := by
  obtain ⟨a', c', W, A, bl⟩ := app1 elI64 h.hI [.int .i64 x] rfl (one_cell rfl) hn (by omega) hB
  refine ⟨a', c', W, A.run, bl, Ty.but A.but (own_block h.hI) (by simp), ?_⟩
  have o := A.own
  refine ⟨by rw [vsI_app, List.length_append]; exact o, own_but h.hN A.but (fun k hk e => h.ap k e hk), own_but h.hT A.but (own_typ h.hT (own_block h.hI) (by decide)), fun k hk e => ?_⟩
  rcases A.new k hk with h1 | h1
  · exact h.ap k h1 e
  · have := (h.hN.lt k e).2; omega
theorem R3.pushN {B : Nat} {w : World} {vI vN vT : Value} {I N T : List Int} (h : R3 B w vI I vN N vT T) (hB : B ≤ w.heap.size) (hn : N.length ≤ 1000000) (x : Int) :
    ∃ a' c' W, (∀ ty, (Builtin.append_ #[37, 37] ty #[vN, .slice (some ⟨w.heap.size, 0, none⟩) 1 1]).run Try.prog (w.alloc (.cells #[.int .i64 x] 2)) = .ok (.slice a' (N.length + 1) c') W) ∧ Below B w W ∧ Ty [2] w W ∧ R3 B W vI I (.slice a' (N.length + 1) c') (N ++ [x]) vT T := by
  obtain ⟨a', c', W, A, bl⟩ := app1 elI64 h.hN [.int .i64 x] rfl (one_cell rfl) hn (by omega) hB
  refine ⟨a', c', W, A.run, bl, Ty.but A.but (own_block h.hN) (by simp), ?_⟩
  have o := A.own
  refine ⟨own_but h.hI A.but (fun k hk e => h.ap k hk e), by rw [vsI_app, List.length_append]; exact o, own_but h.hT A.but (own_typ h.hT (own_block h.hN) (by decide)), fun k hk e => ?_⟩
  rcases A.new k e with h1 | h1
  · exact h.ap k hk h1
  · have := (h.hI.lt k hk).2; omega
theorem R3.pushT {B : Nat} {w : World} {vI vN vT : Value} {I N T : List Int} (h : R3 B w vI I vN N vT T) (hB : B ≤ w.heap.size) (hn : T.length ≤ 1000000) (x : Int) :
    ∃ a' c' W, (∀ ty, (Builtin.append_ #[39, 39] ty #[vT, .slice (some ⟨w.heap.size, 0, none⟩) 1 1]).run Try.prog (w.alloc (.cells #[.int .i64 x] 3)) = .ok (.slice a' (T.length + 1) c') W) ∧ Below B w W ∧ Ty [3] w W ∧ R3 B W vI I vN N (.slice a' (T.length + 1) c') (T ++ [x]) := by
  obtain ⟨a', c', W, A, bl⟩ := app1 elInt h.hT [.int .i64 x] rfl (one_cell rfl) hn (by omega) hB
  refine ⟨a', c', W, A.run, bl, Ty.but A.but (own_block h.hT) (by simp), ?_⟩
  have o := A.own
  exact ⟨own_but h.hI A.but (own_typ h.hI (own_block h.hT) (by decide)), own_but h.hN A.but (own_typ h.hN (own_block h.hT) (by decide)), by rw [vsI_app, List.length_append]; exact o, h.ap⟩
/-- the reference's keeper -/
def rkO (pause high : Int) (vI vT vN : Value) : Obj := .cells #[.int .i64 pause, .int .i64 high, vI, vT, vN] 41 (0, 0)
structure RK (B g : Nat) (pause high : Int) (L : List Mis) (w : World) : Prop where
  gB : B ≤ g
  st : ∃ aI cI aN cN aT cT, w.heap[g]? = some (rkO pause high (.slice aI L.length cI) (.slice aT L.length cT) (.slice aN L.length cN)) ∧ R3 B w (.slice aI L.length cI) (L.map (·.i)) (.slice aN L.length cN) (L.map (·.nx)) (.slice aT L.length cT) (L.map (·.tr))
theorem RK.keep {B g : Nat} {pause high : Int} {L : List Mis} {w w' : World} (h : RK B g pause high L w) (hb : Below w.heap.size w w') : RK B g pause high L w' := by
  obtain ⟨h1, aI, cI, aN, cN, aT, cT, h2, h3⟩ := h
  exact ⟨h1, aI, cI, aN, cN, aT, cT, Below.blk hb h2 (lt_of_block h2), h3.below hb⟩
theorem RK.ty {B g : Nat} {pause high : Int} {L : List Mis} {w w' : World} {ts : List TypeId} (h : RK B g pause high L w) (hb : Ty ts w w') (t1 : 41 ∉ ts) (t2 : 2 ∉ ts) (t3 : 3 ∉ ts) : RK B g pause high L w' := by
  obtain ⟨h1, aI, cI, aN, cN, aT, cT, h2, h3⟩ := h
  exact ⟨h1, aI, cI, aN, cN, aT, cT, hb.blk h2 t1, hb.own h3.hI t2, hb.own h3.hN t2, hb.own h3.hT t3, h3.ap⟩
def rTs : List TypeId := [41, 2, 3]
set_option maxHeartbeats 1000000 in
theorem rnew_any (B : Nat) (p : Int) (w : World) (hB : B ≤ w.heap.size) : Calls Try.prog 17 #[.int .i64 p] w fun e w' => e = .returned (.pointer (some ⟨w.heap.size, 0, none⟩)) ∧ RK B w.heap.size (max p 1) (-1) [] w' ∧ Below w.heap.size w w' := by
  by_cases hp : p < 1
  · rw [show max p 1 = 1 by omega]
    go_enter Try.func17, Try.ntmps17
    go_wp2_with fail
    go_ret
    exact ⟨rfl, ⟨hB, none, 0, none, 0, none, 0, alloc_blk_new, R3.nil _ _⟩, (Below.refl _ _).alloc (Nat.le_refl _) _⟩
  · rw [show max p 1 = p by omega]
    go_enter Try.func17, Try.ntmps17
    go_wp2_with fail
    go_ret
    exact ⟨rfl, ⟨hB, none, 0, none, 0, none, 0, alloc_blk_new, R3.nil _ _⟩, (Below.refl _ _).alloc (Nat.le_refl _) _⟩
end Go.Proofs.Ytdmbdageohjodaa
