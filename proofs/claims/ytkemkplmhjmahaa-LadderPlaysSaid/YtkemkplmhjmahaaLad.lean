/-
  The ladder of chapter 21: its object, and what each of its functions does.
-/
import Derived.Test.YtkemkplmhjmahaaProg
import Derived.Test.YtkemkplmhjmahaaBase
import Derived.Test.YtkemkplmhjmahaaReads
import Derived.Deep.RegionHeld3
import Derived.BigQuiet
import Derived.Maps.Own
import Derived.Carry
namespace Go.Proofs.Ytkemkplmhjmahaa
open Go.RowKit
set_option linter.unusedVariables false
set_option linter.unusedSimpArgs false

/-- block g is a ladder: soft, hard, decay; strikes, ticks left, is it shut -/
def ldr (w : World) (g : Nat) (S H D n l q : Int) : Prop :=
  w.heap[g]? = some (.cells #[.int .i64 S, .int .i64 H, .int .i64 D, .int .i64 n, .int .i64 l, .int .i64 q] 85 (0, 0))
theorem ldr.lt {w : World} {g : Nat} {S H D n l q : Int} (h : ldr w g S H D n l q) : g < w.heap.size := lt_of_block h
def stOf (S n q : Int) : Int := bif q == 1 then 2 else bif decide (S ≤ n) then 1 else 0

/-! ### The map that State asks -/
theorem lawB : Maps.Keyed Try.prog 4 := Maps.bool_keyed Try.underlying4
theorem zeroI (w : World) : (zeroValue 3).run Try.prog w = .ok (.int .i64 0) w := by kernel_rfl
theorem grown_below {B r : Nat} {u w w' : World} (h : Below B u w) (hg : w.grownBy w' (some r)) (hr : B ≤ r) (hB : B ≤ w.heap.size) : Below B u w' :=
  h.trans ⟨hg.os, hg.tape, hg.output, hg.size, fun k hk => hg.block k (by omega) (fun e => by cases e; omega)⟩
theorem lad_map (w : World) : ∃ W1 W2 : World, (Instr.mapUpdate 86 (.map (some w.heap.size)) (.bool true) (.int .i64 1)).run Try.prog ((w.alloc (.map #[] 0)).drew) = .ok () W1 ∧
    (Instr.mapUpdate 86 (.map (some w.heap.size)) (.bool false) (.int .i64 0)).run Try.prog W1 = .ok () W2 ∧
    (Instr.lookup 86 (.map (some w.heap.size)) (.bool true) false).run Try.prog W2 = .ok (.int .i64 1) W2 ∧
    (Instr.lookup 86 (.map (some w.heap.size)) (.bool false) false).run Try.prog W2 = .ok (.int .i64 0) W2 ∧ Below w.heap.size w W1 ∧ Below w.heap.size w W2 := by
  have h0 : ((w.alloc (.map #[] 0)).drew).ownsMap Try.prog 4 (plainElem (H := Unit) Try.prog 3) w.heap.size 0 (.map []) := (World.ownsMap_made _ _ _ _).drew
  obtain ⟨W1, r1, h1, g1⟩ := h0.update lawB Try.underlying86 (by decide) (Maps.keyOf_bool_mk Try.underlying4 true) (plainElem_int (H := Unit) Try.underlying3 (show (Lit.int .i64 1).wf = true by decide))
  obtain ⟨W2, r2, h2, g2⟩ := h1.update lawB Try.underlying86 (by decide) (Maps.keyOf_bool_mk Try.underlying4 false) (plainElem_int (H := Unit) Try.underlying3 (show (Lit.int .i64 0).wf = true by decide))
  obtain ⟨c1, l1, a1, _⟩ := h2.lookup_int lawB Try.underlying86 Try.underlying3 (zeroI _) (Maps.keyOf_bool_mk Try.underlying4 true)
  obtain ⟨c2, l2, a2, _⟩ := h2.lookup_int lawB Try.underlying86 Try.underlying3 (zeroI _) (Maps.keyOf_bool_mk Try.underlying4 false)
  have b0 : Below w.heap.size w ((w.alloc (.map #[] 0)).drew) := ((Below.refl _ _).alloc (Nat.le_refl _) _).drew
  have b1 := grown_below b0 g1 (Nat.le_refl _) b0.size
  have b2 := grown_below b1 g2 (Nat.le_refl _) b1.size
  have e1 : c1 = 1 := by
    have h : (DataW.lit (.int .i64 1) : DataW Unit) = .lit (.int .i64 c1) := a1
    injection h with h; injection h with _ h; exact h.symm
  have e2 : c2 = 0 := by
    have h : (DataW.lit (.int .i64 0) : DataW Unit) = .lit (.int .i64 c2) := a2
    injection h with h; injection h with _ h; exact h.symm
  subst e1 e2
  exact ⟨W1, W2, r1, r2, l1, l2, b1, b2⟩

theorem lad_map' (w : World) : ∃ W1 W2 : World, (Instr.mapUpdate 86 (.map (some w.heap.size)) (.bool false) (.int .i64 0)).run Try.prog ((w.alloc (.map #[] 0)).drew) = .ok () W1 ∧
    (Instr.mapUpdate 86 (.map (some w.heap.size)) (.bool true) (.int .i64 1)).run Try.prog W1 = .ok () W2 ∧
    (Instr.lookup 86 (.map (some w.heap.size)) (.bool true) false).run Try.prog W2 = .ok (.int .i64 1) W2 ∧
    (Instr.lookup 86 (.map (some w.heap.size)) (.bool false) false).run Try.prog W2 = .ok (.int .i64 0) W2 ∧ Below w.heap.size w W1 ∧ Below w.heap.size w W2 := by
  have h0 : ((w.alloc (.map #[] 0)).drew).ownsMap Try.prog 4 (plainElem (H := Unit) Try.prog 3) w.heap.size 0 (.map []) := (World.ownsMap_made _ _ _ _).drew
  obtain ⟨W1, r1, h1, g1⟩ := h0.update lawB Try.underlying86 (by decide) (Maps.keyOf_bool_mk Try.underlying4 false) (plainElem_int (H := Unit) Try.underlying3 (show (Lit.int .i64 0).wf = true by decide))
  obtain ⟨W2, r2, h2, g2⟩ := h1.update lawB Try.underlying86 (by decide) (Maps.keyOf_bool_mk Try.underlying4 true) (plainElem_int (H := Unit) Try.underlying3 (show (Lit.int .i64 1).wf = true by decide))
  obtain ⟨c1, l1, a1, _⟩ := h2.lookup_int lawB Try.underlying86 Try.underlying3 (zeroI _) (Maps.keyOf_bool_mk Try.underlying4 true)
  obtain ⟨c2, l2, a2, _⟩ := h2.lookup_int lawB Try.underlying86 Try.underlying3 (zeroI _) (Maps.keyOf_bool_mk Try.underlying4 false)
  have b0 : Below w.heap.size w ((w.alloc (.map #[] 0)).drew) := ((Below.refl _ _).alloc (Nat.le_refl _) _).drew
  have b1 := grown_below b0 g1 (Nat.le_refl _) b0.size
  have b2 := grown_below b1 g2 (Nat.le_refl _) b1.size
  have e1 : c1 = 1 := by
    have h : (DataW.lit (.int .i64 1) : DataW Unit) = .lit (.int .i64 c1) := a1
    injection h with h; injection h with _ h; exact h.symm
  have e2 : c2 = 0 := by
    have h : (DataW.lit (.int .i64 0) : DataW Unit) = .lit (.int .i64 c2) := a2
    injection h with h; injection h with _ h; exact h.symm
  subst e1 e2
  exact ⟨W1, W2, r1, r2, l1, l2, b1, b2⟩

set_option maxRecDepth 100000 in
set_option maxHeartbeats 2000000 in
theorem lstate_any (g : Nat) (S H D n l q : Int) (w : World) (hg : ldr w g S H D n l q) :
    Calls Try.prog 20 #[.pointer (some ⟨g, 0, none⟩)] w fun e w' => e = .returned (.int .i64 (stOf S n q)) ∧ Below w.heap.size w w' := by
  have c0 : w.cell? ⟨g, 0, none⟩ = some (.int .i64 S) := cell_blk hg
  have c3 : w.cell? ⟨g, 3, none⟩ = some (.int .i64 n) := cell_blk hg
  have c5 : w.cell? ⟨g, 5, none⟩ = some (.int .i64 q) := cell_blk hg
  have hl := hg.lt
  by_cases hq : q = 1
  · subst hq
    have HE := Lib.hid (show stOf S n 1 = 2 from rfl)
    go_enter Try.func20, Try.ntmps20
    go_wp2
    go_ret
    exact ⟨ret_int HE.out.symm, Below.refl _ _⟩
  · have e0 : (q == 1) = false := by simpa using hq
    by_cases hs : S ≤ n
    · have e1 : decide (S ≤ n) = true := by simpa using hs
      obtain ⟨W1, W2, r1, r2, r3, r4, b1, b2⟩ := lad_map w
      have hmm := @run_makeMap Try.prog
      obtain ⟨V1, V2, s1, s2, s3, s4, k1, k2⟩ := lad_map' w
      have f0 : V1.cell? ⟨g, 0, none⟩ = some (.int .i64 S) := Below.cell' k1 hl c0
      have f3 : V1.cell? ⟨g, 3, none⟩ = some (.int .i64 n) := Below.cell' k1 hl c3
      have f5 : V2.cell? ⟨g, 0, none⟩ = some (.int .i64 S) := Below.cell' k2 hl c0
      have f6 : V2.cell? ⟨g, 3, none⟩ = some (.int .i64 n) := Below.cell' k2 hl c3
      have d0 : W1.cell? ⟨g, 0, none⟩ = some (.int .i64 S) := Below.cell' b1 hl c0
      have d3 : W1.cell? ⟨g, 3, none⟩ = some (.int .i64 n) := Below.cell' b1 hl c3
      have d5 : W2.cell? ⟨g, 0, none⟩ = some (.int .i64 S) := Below.cell' b2 hl c0
      have d6 : W2.cell? ⟨g, 3, none⟩ = some (.int .i64 n) := Below.cell' b2 hl c3
      have HE := Lib.hid (show stOf S n q = 1 by simp [stOf, e0, e1])
      go_enter Try.func20, Try.ntmps20
      go_wp2_with fail
      go_region_held3 (fun W => W.cell? ⟨g, 0, none⟩ = some (.int .i64 S) ∧ W.cell? ⟨g, 3, none⟩ = some (.int .i64 n)) (go_keep) (fail)
      all_goals
        go_wp2
        go_ret
        exact ⟨ret_int HE.out.symm, by assumption⟩
    · have e1 : decide (S ≤ n) = false := by simpa using hs
      obtain ⟨W1, W2, r1, r2, r3, r4, b1, b2⟩ := lad_map w
      have hmm := @run_makeMap Try.prog
      obtain ⟨V1, V2, s1, s2, s3, s4, k1, k2⟩ := lad_map' w
      have f0 : V1.cell? ⟨g, 0, none⟩ = some (.int .i64 S) := Below.cell' k1 hl c0
      have f3 : V1.cell? ⟨g, 3, none⟩ = some (.int .i64 n) := Below.cell' k1 hl c3
      have f5 : V2.cell? ⟨g, 0, none⟩ = some (.int .i64 S) := Below.cell' k2 hl c0
      have f6 : V2.cell? ⟨g, 3, none⟩ = some (.int .i64 n) := Below.cell' k2 hl c3
      have d0 : W1.cell? ⟨g, 0, none⟩ = some (.int .i64 S) := Below.cell' b1 hl c0
      have d3 : W1.cell? ⟨g, 3, none⟩ = some (.int .i64 n) := Below.cell' b1 hl c3
      have d5 : W2.cell? ⟨g, 0, none⟩ = some (.int .i64 S) := Below.cell' b2 hl c0
      have d6 : W2.cell? ⟨g, 3, none⟩ = some (.int .i64 n) := Below.cell' b2 hl c3
      have HE := Lib.hid (show stOf S n q = 0 by simp [stOf, e0, e1])
      go_enter Try.func20, Try.ntmps20
      go_wp2_with fail
      go_region_held3 (fun W => W.cell? ⟨g, 0, none⟩ = some (.int .i64 S) ∧ W.cell? ⟨g, 3, none⟩ = some (.int .i64 n)) (go_keep) (fail)
      all_goals
        go_wp2
        go_ret
        exact ⟨ret_int HE.out.symm, by assumption⟩

theorem lnew_any (S H D : Int) (w : World) (h1 : 1 ≤ S) (h2 : S < H) (h3 : H ≤ 1000) (h4 : 1 ≤ D) :
    Calls Try.prog 16 #[.agg #[.int .i64 S, .int .i64 H, .int .i64 D]] w fun e w' => ∃ g, e = .returned (.pointer (some ⟨g, 0, none⟩)) ∧ w.heap.size ≤ g ∧ ldr w' g S H D 0 D 0 ∧ Below w.heap.size w w' := by
  have e1 : decide (S < 1) = false := by simp; omega
  have e2 : decide (H ≤ S) = false := by simp; omega
  have e3 : decide (1000 < H) = false := by simp; omega
  have e4 : decide (D < 1) = false := by simp; omega
  go_enter Try.func16, Try.ntmps16
  go_wp2
  go_ret
  exact ⟨_, rfl, by simp, by (unfold ldr; rw [heap_alloc, if_pos (by simp)]), by (repeat (first | exact Below.refl _ _ | refine Below.alloc ?_ (by first | (simp; done) | (simp; omega) | (simp [size_drewN]; done) | (simp [size_drewN]; omega)) _ | refine Below.drew ?_ | refine below_drewN0 ?_ _ | refine Below.setCell ?_ (by first | (simp; done) | (simp; omega) | (simp [size_drewN]; done) | (simp [size_drewN]; omega)) _))⟩
theorem lnew_no (S H D : Int) (w : World) (h : ¬ (1 ≤ S ∧ S < H ∧ H ≤ 1000 ∧ 1 ≤ D)) :
    Calls Try.prog 16 #[.agg #[.int .i64 S, .int .i64 H, .int .i64 D]] w fun e w' => e = .returned (.pointer none) ∧ Below w.heap.size w w' := by
  by_cases h1 : S < 1
  · have e1 : decide (S < 1) = true := by simpa using h1
    go_enter Try.func16, Try.ntmps16
    go_wp2
    go_ret
    exact ⟨rfl, by (repeat (first | exact Below.refl _ _ | refine Below.alloc ?_ (by first | (simp; done) | (simp; omega) | (simp [size_drewN]; done) | (simp [size_drewN]; omega)) _ | refine Below.drew ?_ | refine below_drewN0 ?_ _ | refine Below.setCell ?_ (by first | (simp; done) | (simp; omega) | (simp [size_drewN]; done) | (simp [size_drewN]; omega)) _))⟩
  have e1 : decide (S < 1) = false := by simpa using h1
  by_cases h2 : H ≤ S
  · have e2 : decide (H ≤ S) = true := by simpa using h2
    go_enter Try.func16, Try.ntmps16
    go_wp2
    go_ret
    exact ⟨rfl, by (repeat (first | exact Below.refl _ _ | refine Below.alloc ?_ (by first | (simp; done) | (simp; omega) | (simp [size_drewN]; done) | (simp [size_drewN]; omega)) _ | refine Below.drew ?_ | refine below_drewN0 ?_ _ | refine Below.setCell ?_ (by first | (simp; done) | (simp; omega) | (simp [size_drewN]; done) | (simp [size_drewN]; omega)) _))⟩
  have e2 : decide (H ≤ S) = false := by simpa using h2
  by_cases h3 : 1000 < H
  · have e3 : decide (1000 < H) = true := by simpa using h3
    go_enter Try.func16, Try.ntmps16
    go_wp2
    go_ret
    exact ⟨rfl, by (repeat (first | exact Below.refl _ _ | refine Below.alloc ?_ (by first | (simp; done) | (simp; omega) | (simp [size_drewN]; done) | (simp [size_drewN]; omega)) _ | refine Below.drew ?_ | refine below_drewN0 ?_ _ | refine Below.setCell ?_ (by first | (simp; done) | (simp; omega) | (simp [size_drewN]; done) | (simp [size_drewN]; omega)) _))⟩
  have e3 : decide (1000 < H) = false := by simpa using h3
  have e4 : decide (D < 1) = true := by simp; omega
  clear h
  go_enter Try.func16, Try.ntmps16
  go_wp2
  go_ret
  exact ⟨rfl, by (repeat (first | exact Below.refl _ _ | refine Below.alloc ?_ (by first | (simp; done) | (simp; omega) | (simp [size_drewN]; done) | (simp [size_drewN]; omega)) _ | refine Below.drew ?_ | refine below_drewN0 ?_ _ | refine Below.setCell ?_ (by first | (simp; done) | (simp; omega) | (simp [size_drewN]; done) | (simp [size_drewN]; omega)) _))⟩
theorem lstrikes_any (g : Nat) (S H D n l q : Int) (w : World) (hg : ldr w g S H D n l q) :
    Calls Try.prog 21 #[.pointer (some ⟨g, 0, none⟩)] w fun e w' => e = .returned (.int .i64 n) ∧ w = w' := by
  have c3 : w.cell? ⟨g, 3, none⟩ = some (.int .i64 n) := cell_blk hg
  go_enter Try.func21, Try.ntmps21
  go_wp2
  go_ret
  exact ⟨rfl, rfl⟩
theorem lstrike_no (g : Nat) (x : Int) (w : World) (hx : x < 1) :
    Calls Try.prog 19 #[.pointer (some ⟨g, 0, none⟩), .int .i64 x] w fun e w' => e = .returned (.tuple #[]) ∧ w = w' := by
  have e1 : decide (x < 1) = true := by simpa using hx
  go_enter Try.func19, Try.ntmps19
  go_wp2
  go_returns
  exact ⟨rfl, rfl⟩
/-- strikes behind x more -/
def upS (n x : Int) : Int := min (n + x) 1000
theorem lstrike_any (g : Nat) (S H D n l q x : Int) (w : World) (hg : ldr w g S H D n l q) (n0 : 0 ≤ n) (n1 : n ≤ 1000) (hx : 1 ≤ x) :
    Calls Try.prog 19 #[.pointer (some ⟨g, 0, none⟩), .int .i64 x] w fun e w' => e = .returned (.tuple #[]) ∧ ldr w' g S H D (upS n x) D (bif decide (H ≤ upS n x) then 1 else q) ∧ Keeps g w w' := by
  have c1 : w.cell? ⟨g, 1, none⟩ = some (.int .i64 H) := cell_blk hg
  have c2 : w.cell? ⟨g, 2, none⟩ = some (.int .i64 D) := cell_blk hg
  have c3 : w.cell? ⟨g, 3, none⟩ = some (.int .i64 n) := cell_blk hg
  have c4 : w.cell? ⟨g, 4, none⟩ = some (.int .i64 l) := cell_blk hg
  have c5 : w.cell? ⟨g, 5, none⟩ = some (.int .i64 q) := cell_blk hg
  have f3 : w.frozen? ⟨g, 3, none⟩ = false := free_blk hg
  have f4 : w.frozen? ⟨g, 4, none⟩ = false := free_blk hg
  have f5 : w.frozen? ⟨g, 5, none⟩ = false := free_blk hg
  have e1 : decide (x < 1) = false := by simp; omega
  go_enter Try.func19, Try.ntmps19
  go_wp2_with fail
  all_goals
    go_quiet (fail)
    go_wp2_with fail
    all_goals
      go_returns
      refine ⟨rfl, ?_, by (repeat (first | exact Keeps.refl _ _ | exact hkk | refine Keeps.alloc ?_ _ | refine Keeps.drew ?_ | refine Keeps.drewN ?_ _ | refine Keeps.setCell ?_ (by first | (left; rfl) | (right; first | (simp; done) | (simp; omega) | (simp [size_drewN]; done) | (simp [size_drewN]; omega))) _))⟩
      unfold ldr at hg ⊢
      first
      | (have hh : H ≤ upS n x := by unfold upS; omega
         rw [decide_eq_true hh])
      | (have hh : ¬ H ≤ upS n x := by unfold upS; omega
         rw [decide_eq_false hh])
      simp [heap_drewN, heap_set, hg, putIn]
      unfold upS
      omega

/-- Tick, where it is not shut -/
def tkN (n l : Int) : Int := bif decide (1 < l) then n else max (n - 1) 0
def tkL (D l : Int) : Int := bif decide (1 < l) then l - 1 else D
theorem ltick_shut (g : Nat) (S H D n l : Int) (w : World) (hg : ldr w g S H D n l 1) :
    Calls Try.prog 18 #[.pointer (some ⟨g, 0, none⟩)] w fun e w' => e = .returned (.tuple #[]) ∧ Below w.heap.size w w' := by
  have h := lstate_any g S H D n l 1 w hg
  rw [show stOf S n 1 = 2 from rfl] at h
  have HC := Lib.hid h
  clear h
  go_enter Try.func18, Try.ntmps18
  go_wp2_with (go_at_call 20; refine (HC.out).mono ?_; rintro e w' ⟨rfl, hb⟩)
  go_returns
  exact ⟨rfl, hb⟩
theorem ltick_any (g : Nat) (S H D n l : Int) (w : World) (hg : ldr w g S H D n l 0) (n0 : 0 ≤ n) (n1 : n ≤ 1000) (l0 : 1 ≤ l) (l1 : l ≤ 9223372036854775807) :
    Calls Try.prog 18 #[.pointer (some ⟨g, 0, none⟩)] w fun e w' => e = .returned (.tuple #[]) ∧ ldr w' g S H D (tkN n l) (tkL D l) 0 ∧ Keeps g w w' := by
  have h := lstate_any g S H D n l 0 w hg
  have hs : stOf S n 0 = 0 ∨ stOf S n 0 = 1 := by unfold stOf; cases decide (S ≤ n) <;> simp
  generalize stOf S n 0 = s at *
  have es : (s == 2) = false := by simp; omega
  have HC := Lib.hid h
  clear h
  go_enter Try.func18, Try.ntmps18
  go_wp2_with fail
  refine HC.out.mono ?_
  rintro e w1 ⟨rfl, hb⟩
  have g1 : ldr w1 g S H D n l 0 := Below.blk hb hg hg.lt
  have k1 : Keeps g w w1 := Below.nothing hb g
  have c1 : w1.cell? ⟨g, 1, none⟩ = some (.int .i64 H) := cell_blk g1
  have c2 : w1.cell? ⟨g, 2, none⟩ = some (.int .i64 D) := cell_blk g1
  have c3 : w1.cell? ⟨g, 3, none⟩ = some (.int .i64 n) := cell_blk g1
  have c4 : w1.cell? ⟨g, 4, none⟩ = some (.int .i64 l) := cell_blk g1
  have f3 : w1.frozen? ⟨g, 3, none⟩ = false := free_blk g1
  have f4 : w1.frozen? ⟨g, 4, none⟩ = false := free_blk g1
  clear hb hg
  by_cases h1 : 1 < l
  · have e1 : decide (0 < l - 1) = true := by simp; omega
    have E := Lib.hid (show tkN n l = n ∧ tkL D l = l - 1 by simp [tkN, tkL, h1])
    go_wp2_with fail
    go_returns
    refine ⟨rfl, ?_, by (refine Keeps.setCell ?_ (by left; rfl) _; exact k1)⟩
    rw [E.out.1, E.out.2]
    unfold ldr at g1 ⊢
    simp [heap_set, g1, putIn]
  · have e1 : decide (0 < l - 1) = false := by simp; omega
    have E := Lib.hid (show tkN n l = max (n - 1) 0 ∧ tkL D l = D by simp [tkN, tkL, h1])
    go_wp2_with fail
    all_goals
      go_returns
      refine ⟨rfl, ?_, by (iterate 3 (refine Keeps.setCell ?_ (by left; rfl) _)); exact k1⟩
      rw [E.out.1, E.out.2]
      unfold ldr at g1 ⊢
      simp [heap_set, g1, putIn]
      try omega
end Go.Proofs.Ytkemkplmhjmahaa
