/-
  New and Take of the floor of chapter 33.
-/
import Derived.Test.YtkemkplmhjmahaaLev
import Derived.StillTailTactics
namespace Go.Proofs.Ytkemkplmhjmahaa
open Go.RowKit
set_option linter.unusedVariables false
set_option linter.unusedSimpArgs false

theorem below_of_keeps {B b : Nat} {w w' : World} (hk : Keeps b w w') (hB : B ≤ w.heap.size) (hb : B ≤ b) : Below B w w' := hk.below hB hb
theorem lnew2 (w : World) : Calls Try.prog 36 #[.int .i64 2, .int .i64 10] w fun e w' => ∃ g q, e = .returned (.pointer (some ⟨g, 0, none⟩)) ∧ w.heap.size ≤ g ∧ w.heap.size ≤ q ∧ flr w' g q 2 (fun _ => 0) 10 (-1) ∧ Below w.heap.size w w' := by
  have hmk : ∀ W : World, (Instr.makeSlice 47 (.int .i64 2) (.int .i64 2)).run Try.prog W = .ok (.slice (some ⟨W.heap.size, 0, none⟩) 2 2) (W.alloc (.cells #[.int .i64 0, .int .i64 0] 3)) := fun W => by kernel_rfl
  go_enter Try.func36, Try.ntmps36
  go_wp2_with fail
  go_ret
  refine ⟨_, _, rfl, by simp, Nat.le_refl _, ⟨by rw [heap_alloc, if_pos (by simp)], ⟨_, by rw [heap_alloc, if_neg (by simp), heap_alloc, if_pos rfl], rfl, fun i hi => ?_⟩, by simp⟩, by (repeat (first | exact Below.refl _ _ | refine Below.alloc ?_ (by first | (simp; done) | (simp; omega) | (simp [size_drewN]; done) | (simp [size_drewN]; omega)) _ | refine Below.drew ?_ | refine below_drewN0 ?_ _ | refine Below.setCell ?_ (by first | (simp; done) | (simp; omega) | (simp [size_drewN]; done) | (simp [size_drewN]; omega)) _))⟩
  have : i = 0 ∨ i = 1 := by omega
  rcases this with rfl | rfl <;> rfl
theorem lnew4 (w : World) : Calls Try.prog 36 #[.int .i64 4, .int .i64 5] w fun e w' => ∃ g q, e = .returned (.pointer (some ⟨g, 0, none⟩)) ∧ w.heap.size ≤ g ∧ w.heap.size ≤ q ∧ flr w' g q 4 (fun _ => 0) 5 (-1) ∧ Below w.heap.size w w' := by
  have hmk : ∀ W : World, (Instr.makeSlice 47 (.int .i64 4) (.int .i64 4)).run Try.prog W = .ok (.slice (some ⟨W.heap.size, 0, none⟩) 4 4) (W.alloc (.cells #[.int .i64 0, .int .i64 0, .int .i64 0, .int .i64 0] 3)) := fun W => by kernel_rfl
  go_enter Try.func36, Try.ntmps36
  go_wp2_with fail
  go_ret
  refine ⟨_, _, rfl, by simp, Nat.le_refl _, ⟨by rw [heap_alloc, if_pos (by simp)], ⟨_, by rw [heap_alloc, if_neg (by simp), heap_alloc, if_pos rfl], rfl, fun i hi => ?_⟩, by simp⟩, by (repeat (first | exact Below.refl _ _ | refine Below.alloc ?_ (by first | (simp; done) | (simp; omega) | (simp [size_drewN]; done) | (simp [size_drewN]; omega)) _ | refine Below.drew ?_ | refine below_drewN0 ?_ _ | refine Below.setCell ?_ (by first | (simp; done) | (simp; omega) | (simp [size_drewN]; done) | (simp [size_drewN]; omega)) _))⟩
  have : i = 0 ∨ i = 1 ∨ i = 2 ∨ i = 3 := by omega
  rcases this with rfl | rfl | rfl | rfl <;> rfl
def level (v : Bool) (d : Int) : Value := .agg #[.bool v, .int .i64 d]
theorem lmay_any (v : Bool) (d : Int) (w : World) :
    Calls Try.prog 52 #[level v d] w fun e w' => e = .returned (.bool (decide (0 ≤ d) && decide (d ≤ 127))) ∧ Below w.heap.size w w' := by
  unfold level
  by_cases h0 : 0 ≤ d
  · have e0 : decide (0 ≤ d) = true := by simpa using h0
    rw [e0]
    go_enter Try.func52, Try.ntmps52
    go_wp2_with fail
    go_ret
    exact ⟨ret_bool (by simp), by (repeat (first | exact Below.refl _ _ | refine Below.alloc ?_ (by first | (simp; done) | (simp; omega) | (simp [size_drewN]; done) | (simp [size_drewN]; omega)) _ | refine Below.drew ?_ | refine below_drewN0 ?_ _ | refine Below.setCell ?_ (by first | (simp; done) | (simp; omega) | (simp [size_drewN]; done) | (simp [size_drewN]; omega)) _))⟩
  · have e0 : decide (0 ≤ d) = false := by simpa using h0
    rw [e0]
    go_enter Try.func52, Try.ntmps52
    go_wp2_with fail
    go_ret
    exact ⟨ret_bool (by simp), by (repeat (first | exact Below.refl _ _ | refine Below.alloc ?_ (by first | (simp; done) | (simp; omega) | (simp [size_drewN]; done) | (simp [size_drewN]; omega)) _ | refine Below.drew ?_ | refine below_drewN0 ?_ _ | refine Below.setCell ?_ (by first | (simp; done) | (simp; omega) | (simp [size_drewN]; done) | (simp [size_drewN]; omega)) _))⟩
theorem ltake_none (g q n : Nat) (S : Nat → Int) (L sp x : Int) (v : Bool) (d : Int) (w : World) (hg : flr w g q n S L sp) (hn : n ≤ 64) (hx : ¬ (0 ≤ x ∧ x < n)) :
    Calls Try.prog 37 #[.pointer (some ⟨g, 0, none⟩), .int .i64 x, level v d] w fun e w' => e = .returned (.tuple #[.int .i64 (-1), .int .i64 9]) ∧ Below w.heap.size w w' := by
  have hg2 := hg.old ((Below.refl _ w).alloc (Nat.le_refl _) (.cells #[.bool v, .int .i64 d] 61))
  have T := Lib.hid (lthere_any g q n S L sp x _ hg2 hn)
  rw [show (decide (0 ≤ x) && decide (x < (n : Int))) = false by simp; omega] at T
  clear hx
  unfold level
  go_enter Try.func37, Try.ntmps37
  go_wp2_with (go_at_call 51; refine (T.out).mono ?_; rintro e w' ⟨rfl, rfl⟩)
  go_returns
  exact ⟨rfl, by (repeat (first | exact Below.refl _ _ | refine Below.alloc ?_ (by first | (simp; done) | (simp; omega) | (simp [size_drewN]; done) | (simp [size_drewN]; omega)) _ | refine Below.drew ?_ | refine below_drewN0 ?_ _ | refine Below.setCell ?_ (by first | (simp; done) | (simp; omega) | (simp [size_drewN]; done) | (simp [size_drewN]; omega)) _))⟩
set_option maxHeartbeats 1000000 in
theorem ltake_arg (g q n : Nat) (S : Nat → Int) (L sp x : Int) (v : Bool) (d : Int) (w : World) (hg : flr w g q n S L sp) (hn : n ≤ 64) (hx : 0 ≤ x ∧ x < n) (hd : ¬ (0 ≤ d ∧ d ≤ 127)) :
    Calls Try.prog 37 #[.pointer (some ⟨g, 0, none⟩), .int .i64 x, level v d] w fun e w' => e = .returned (.tuple #[.int .i64 (-1), .int .i64 1]) ∧ Below w.heap.size w w' := by
  have hg2 := hg.old ((Below.refl _ w).alloc (Nat.le_refl _) (.cells #[.bool v, .int .i64 d] 61))
  have T := Lib.hid (lthere_any g q n S L sp x _ hg2 hn)
  rw [show (decide (0 ≤ x) && decide (x < (n : Int))) = true by simp; omega] at T
  have M := Lib.hid (lmay_any v d (w.alloc (.cells #[.bool v, .int .i64 d] 61)))
  rw [show (decide (0 ≤ d) && decide (d ≤ 127)) = false by simp; omega] at M
  clear hx hd
  unfold level at *
  go_enter Try.func37, Try.ntmps37
  go_wp2_with (first | (go_at_call 51; refine (T.out).mono ?_; rintro e w' ⟨rfl, rfl⟩) | (go_at_call 52; refine (M.out).mono ?_; rintro e w' ⟨rfl, hb⟩))
  go_returns
  exact ⟨rfl, ((Below.refl _ _).alloc (Nat.le_refl _) _).trans (hb.mono (by simp))⟩

/-- a score behind a level -/
def less (s : Int) : Int := s - (s + 3) / 4
def after (s : Int) (v : Bool) (d : Int) : Int := bif v then less s + (127 - d) else less s

set_option maxHeartbeats 4000000 in
theorem ltake_any (g q n : Nat) (S : Nat → Int) (L sp : Int) (k : Nat) (v : Bool) (d : Int) (w : World) (hg : flr w g q n S L sp) (hn : n ≤ 64) (hS : ∀ i, i < n → 0 ≤ S i ∧ S i ≤ 508) (hL : 0 ≤ L ∧ L ≤ 1000000) (hk : k < n) (hd : 0 ≤ d ∧ d ≤ 127) :
    Calls Try.prog 37 #[.pointer (some ⟨g, 0, none⟩), .int .i64 k, level v d] w fun e w' =>
      e = .returned (.tuple #[.int .i64 (spTo (upd S k (after (S k) v d)) n L sp), .int .i64 0]) ∧ flr w' g q n (upd S k (after (S k) v d)) L (spTo (upd S k (after (S k) v d)) n L sp) ∧ Below (min g q) w w' := by
  have hlt := hg.lt
  have hg2 := hg.old ((Below.refl _ w).alloc (Nat.le_refl _) (.cells #[.bool v, .int .i64 d] 61))
  have T := Lib.hid (lthere_any g q n S L sp k _ hg2 hn)
  rw [show (decide (0 ≤ (k : Int)) && decide ((k : Int) < (n : Int))) = true by simp; omega] at T
  have M := Lib.hid (lmay_any v d (w.alloc (.cells #[.bool v, .int .i64 d] 61)))
  rw [show (decide (0 ≤ d) && decide (d ≤ 127)) = true by simp; omega] at M
  have hs := hS k hk
  obtain ⟨s, HSK, hs0, hs1⟩ : ∃ s, Hid (S k = s) ∧ 0 ≤ s ∧ s ≤ 508 := ⟨_, Lib.hid rfl, hs.1, hs.2⟩
  rw [HSK.out]
  have hS2 : ∀ i, i < n → 0 ≤ upd S k (after s v d) i ∧ upd S k (after s v d) i ≤ 1000 := fun i hi => by
    have := hS i hi
    unfold upd; split
    · unfold after less; cases v <;> simp <;> omega
    · omega
  have HS2 := Lib.hid hS2
  clear hS2 hS hs
  have w1 : IntKind.i64.wrap (s + 4) = s + 4 := IntWalk.i64_in _ (by omega)
  have w2 : IntKind.i64.wrap (s + 4 - 1) = s + 4 - 1 := IntWalk.i64_in _ (by omega)
  obtain ⟨r, hr1, hr2, hr3, hr4⟩ : ∃ r, (s + 4 - 1).tdiv 4 = r ∧ 0 ≤ r ∧ r ≤ s ∧ Hid (less s = s - r) := ⟨_, Int.tdiv_eq_ediv_of_nonneg (by omega), by omega, by omega, Lib.hid (by unfold less; omega)⟩
  have w3 : IntKind.i64.wrap r = r := IntWalk.i64_in _ (by omega)
  have w4 : IntKind.i64.wrap (s - r) = s - r := IntWalk.i64_in _ (by omega)
  have w5 : IntKind.i64.wrap (127 - d) = 127 - d := IntWalk.i64_in _ (by omega)
  have w6 : IntKind.i64.wrap (s - r + (127 - d)) = s - r + (127 - d) := IntWalk.i64_in _ (by omega)
  have hr5 : (s + 4 - 1) / 4 = r := by rw [← hr1, Int.tdiv_eq_ediv_of_nonneg (by omega)]
  unfold level at *
  go_enter Try.func37, Try.ntmps37
  go_wp2_with (first | (go_at_call 51; refine (T.out).mono ?_; rintro e w' ⟨rfl, rfl⟩) | (go_at_call 52; fail))
  refine M.out.mono ?_
  rintro e W ⟨rfl, hb⟩
  have hgW := hg2.old hb
  have pW := Below.blk hb alloc_blk_new (by simp)
  have bW : Below w.heap.size w W := ((Below.refl _ _).alloc (Nat.le_refl _) _).trans (hb.mono (by simp))
  have sz := lt_of_block pW
  clear hb hg2 hg T M
  have c0 := hgW.c0
  have ck := hgW.at hk
  rw [HSK.out] at ck
  have fk := hgW.fq k
  have l0 : W.cell? ⟨w.heap.size, 0, none⟩ = some (.bool v) := cell_blk pW
  have l1 : W.cell? ⟨w.heap.size, 1, none⟩ = some (.int .i64 d) := cell_blk pW
  have hgq := hgW.ne
  have hgq' : q ≠ g := fun h => hgq h.symm
  have nw : w.heap.size ≠ q := by omega
  have nk0 : (0 : Int) ≤ (k : Int) := by omega
  have nk1 : (k : Int) < (n : Int) := by omega
  have bWm : Below (min g q) w W := bW.mono (by omega)
  cases v
  · have ea : after s false d = s - r := hr4.out
    rw [ea] at HS2
    have HE := Lib.hid ea
    clear ea
    have hX : flr ((W.setCell ⟨q, k, none⟩ (.int .i64 (s - r))).drew) g q n (upd S k (s - r)) L sp := (hgW.setS k (s - r)).drewN 1
    have bX : Below (min g q) w ((W.setCell ⟨q, k, none⟩ (.int .i64 (s - r))).drew) := (Below.setCell bWm (by simp; omega) _).drew
    go_wp2_with fail
    go_still_tail 19, (by kernel_rfl)
    change wpList _ _ _ _ _ W.drew
    go_wp2_with fail
    have hlX := hX.lt
    refine (lturn_any g q n _ L sp _ hX hn HS2.out hL).mono ?_
    rintro e X2 ⟨rfl, hX2, kX⟩
    have bX2 : Below (min g q) w X2 := bX.trans (kX.below (by omega) (by omega))
    have c2 := hX2.c2
    have HX2 := Lib.hid hX2
    clear hX kX bX hX2
    go_wp2_with fail
    go_returns
    rw [HE.out]
    exact ⟨rfl, HX2.out, bX2⟩
  · have ea : after s true d = s - r + (127 - d) := by unfold after; rw [hr4.out]; rfl
    rw [ea] at HS2
    have HE := Lib.hid ea
    clear ea
    obtain ⟨V, hV⟩ : ∃ V, V = (W.setCell ⟨q, k, none⟩ (.int .i64 (s - r))).drew := ⟨_, rfl⟩
    have gV : flr V g q n (upd S k (s - r)) L sp := by rw [hV]; exact (hgW.setS k (s - r)).drewN 1
    have bV : Below (min g q) w V := by rw [hV]; exact (Below.setCell bWm (by simp; omega) _).drew
    have lV : V.cell? ⟨w.heap.size, 0, none⟩ = some (.bool true) := by rw [hV]; show (W.setCell _ _).cell? _ = _; rw [World.cell?_of_block (w := W) (set_blk_other _ (by simpa using nw))]; exact l0
    have lV1 : V.cell? ⟨w.heap.size, 1, none⟩ = some (.int .i64 d) := by rw [hV]; show (W.setCell _ _).cell? _ = _; rw [World.cell?_of_block (w := W) (set_blk_other _ (by simpa using nw))]; exact l1
    have HV := Lib.hid hV
    clear hV
    go_wp2_with fail
    go_still_tail 19, (by kernel_rfl)
    change wpList _ _ _ _ _ W.drew
    go_wp2_with fail
    rw [← HV.out]
    clear c0 ck fk l0 l1 pW bW bWm
    have c0 := gV.c0
    have ck := gV.at hk
    rw [show upd S k (s - r) k = s - r by unfold upd; rw [if_pos rfl]] at ck
    have fk := gV.fq k
    have hX : flr ((V.setCell ⟨q, k, none⟩ (.int .i64 (s - r + (127 - d)))).drew) g q n (upd S k (s - r + (127 - d))) L sp := by
      have := (gV.setS k (s - r + (127 - d))).drewN 1
      rw [show upd (upd S k (s - r)) k (s - r + (127 - d)) = upd S k (s - r + (127 - d)) by funext i; unfold upd; split <;> rfl] at this
      exact this
    have bX : Below (min g q) w ((V.setCell ⟨q, k, none⟩ (.int .i64 (s - r + (127 - d)))).drew) := (Below.setCell bV (by simp; omega) _).drew
    go_wp2_with fail
    go_still_tail 12, (by kernel_rfl)
    change wpList _ _ _ _ _ V.drew
    go_wp2_with fail
    have hlX := hX.lt
    refine (lturn_any g q n _ L sp _ hX hn HS2.out hL).mono ?_
    rintro e X2 ⟨rfl, hX2, kX⟩
    have bX2 : Below (min g q) w X2 := bX.trans (kX.below (by omega) (by omega))
    have c2 := hX2.c2
    have HX2 := Lib.hid hX2
    clear hX kX bX hX2
    go_wp2_with fail
    go_returns
    rw [HE.out]
    exact ⟨rfl, HX2.out, bX2⟩
end Go.Proofs.Ytkemkplmhjmahaa
