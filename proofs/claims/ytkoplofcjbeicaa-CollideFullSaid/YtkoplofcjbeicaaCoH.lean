/-
  Chapter 44: two places compared for their order.
-/
import Derived.Test.YtkoplofcjbeicaaCoB
import Derived.StillTailTactics
import Derived.Sort.Grow
namespace Go.Proofs.Ytkoplofcjbeicaa
open Go.RowKit
set_option linter.unusedVariables false
set_option linter.unusedSimpArgs false
attribute [local irreducible] wpStill wpQuiet MixC.wpMix

def cmpI (x y : Int) : Int := if x < y then -1 else if y < x then 1 else 0
theorem nan32 (x : Int) (w : World) : Calls Try.prog 111 #[.int .u32 x] w fun e w' => e = .returned (.bool false) ∧ w' = w := by
  go_enter Try.func111, Try.ntmps111
  go_wp2_with fail
  go_ret
  exact ⟨by simp, rfl⟩
theorem nan16 (x : Int) (w : World) : Calls Try.prog 112 #[.int .u16 x] w fun e w' => e = .returned (.bool false) ∧ w' = w := by
  go_enter Try.func112, Try.ntmps112
  go_wp2_with fail
  go_ret
  exact ⟨by simp, rfl⟩
theorem nan64 (x : Int) (w : World) : Calls Try.prog 94 #[.int .i64 x] w fun e w' => e = .returned (.bool false) ∧ w' = w := by
  go_enter Try.func94, Try.ntmps94
  go_wp2_with fail
  go_ret
  exact ⟨by simp, rfl⟩
theorem cmp32 (x y : Int) (w : World) : Calls Try.prog 98 #[.int .u32 x, .int .u32 y] w fun e w' => e = .returned (.int .i64 (cmpI x y)) ∧ w' = w := by
  unfold cmpI
  rcases Int.lt_trichotomy x y with h | h | h
  · have t1 : decide (x < y) = true := by simp [h]
    rw [if_pos h]
    clear h
    go_enter Try.func98, Try.ntmps98
    go_wp2_with fail
    refine (nan32 x w).mono ?_
    rintro e w1 ⟨rfl, rfl⟩
    go_wp2_with fail
    refine (nan32 y w1).mono ?_
    rintro e w2 ⟨rfl, rfl⟩
    go_wp2_with fail
    go_ret
    exact ⟨rfl, rfl⟩
  · subst h
    rw [if_neg (by omega), if_neg (by omega)]
    go_enter Try.func98, Try.ntmps98
    go_wp2_with fail
    refine (nan32 x w).mono ?_
    rintro e w1 ⟨rfl, rfl⟩
    go_wp2_with fail
    refine (nan32 x w1).mono ?_
    rintro e w2 ⟨rfl, rfl⟩
    go_wp2_with fail
    go_ret
    exact ⟨rfl, rfl⟩
  · have t1 : decide (x < y) = false := by simp; omega
    have t2 : decide (y < x) = true := by simp [h]
    rw [if_neg (by omega), if_pos h]
    clear h
    go_enter Try.func98, Try.ntmps98
    go_wp2_with fail
    refine (nan32 x w).mono ?_
    rintro e w1 ⟨rfl, rfl⟩
    go_wp2_with fail
    refine (nan32 y w1).mono ?_
    rintro e w2 ⟨rfl, rfl⟩
    go_wp2_with fail
    go_ret
    exact ⟨rfl, rfl⟩
theorem cmp16 (x y : Int) (w : World) : Calls Try.prog 99 #[.int .u16 x, .int .u16 y] w fun e w' => e = .returned (.int .i64 (cmpI x y)) ∧ w' = w := by
  unfold cmpI
  rcases Int.lt_trichotomy x y with h | h | h
  · have t1 : decide (x < y) = true := by simp [h]
    rw [if_pos h]
    clear h
    go_enter Try.func99, Try.ntmps99
    go_wp2_with fail
    refine (nan16 x w).mono ?_
    rintro e w1 ⟨rfl, rfl⟩
    go_wp2_with fail
    refine (nan16 y w1).mono ?_
    rintro e w2 ⟨rfl, rfl⟩
    go_wp2_with fail
    go_ret
    exact ⟨rfl, rfl⟩
  · subst h
    rw [if_neg (by omega), if_neg (by omega)]
    go_enter Try.func99, Try.ntmps99
    go_wp2_with fail
    refine (nan16 x w).mono ?_
    rintro e w1 ⟨rfl, rfl⟩
    go_wp2_with fail
    refine (nan16 x w1).mono ?_
    rintro e w2 ⟨rfl, rfl⟩
    go_wp2_with fail
    go_ret
    exact ⟨rfl, rfl⟩
  · have t1 : decide (x < y) = false := by simp; omega
    have t2 : decide (y < x) = true := by simp [h]
    rw [if_neg (by omega), if_pos h]
    clear h
    go_enter Try.func99, Try.ntmps99
    go_wp2_with fail
    refine (nan16 x w).mono ?_
    rintro e w1 ⟨rfl, rfl⟩
    go_wp2_with fail
    refine (nan16 y w1).mono ?_
    rintro e w2 ⟨rfl, rfl⟩
    go_wp2_with fail
    go_ret
    exact ⟨rfl, rfl⟩
theorem cmp64 (x y : Int) (w : World) : Calls Try.prog 85 #[.int .i64 x, .int .i64 y] w fun e w' => e = .returned (.int .i64 (cmpI x y)) ∧ w' = w := by
  unfold cmpI
  rcases Int.lt_trichotomy x y with h | h | h
  · have t1 : decide (x < y) = true := by simp [h]
    rw [if_pos h]
    clear h
    go_enter Try.func85, Try.ntmps85
    go_wp2_with fail
    refine (nan64 x w).mono ?_
    rintro e w1 ⟨rfl, rfl⟩
    go_wp2_with fail
    refine (nan64 y w1).mono ?_
    rintro e w2 ⟨rfl, rfl⟩
    go_wp2_with fail
    go_ret
    exact ⟨rfl, rfl⟩
  · subst h
    rw [if_neg (by omega), if_neg (by omega)]
    go_enter Try.func85, Try.ntmps85
    go_wp2_with fail
    refine (nan64 x w).mono ?_
    rintro e w1 ⟨rfl, rfl⟩
    go_wp2_with fail
    refine (nan64 x w1).mono ?_
    rintro e w2 ⟨rfl, rfl⟩
    go_wp2_with fail
    go_ret
    exact ⟨rfl, rfl⟩
  · have t1 : decide (x < y) = false := by simp; omega
    have t2 : decide (y < x) = true := by simp [h]
    rw [if_neg (by omega), if_pos h]
    clear h
    go_enter Try.func85, Try.ntmps85
    go_wp2_with fail
    refine (nan64 x w).mono ?_
    rintro e w1 ⟨rfl, rfl⟩
    go_wp2_with fail
    refine (nan64 y w1).mono ?_
    rintro e w2 ⟨rfl, rfl⟩
    go_wp2_with fail
    go_ret
    exact ⟨rfl, rfl⟩
set_option maxRecDepth 100000 in
set_option maxHeartbeats 2000000 in
theorem or2 (b : Nat) (x y : Int) (w : World) (h0 : w.cell? ⟨b, 0, none⟩ = some (.int .i64 x)) (h1 : w.cell? ⟨b, 1, none⟩ = some (.int .i64 y)) :
    Calls Try.prog 97 #[.slice (some ⟨b, 0, none⟩) 2 2] w fun e w' => e = .returned (.int .i64 (if x = 0 then y else x)) ∧ w' = w := by
  by_cases hx : x = 0
  · subst hx
    rw [if_pos rfl]
    by_cases hy : y = 0
    · subst hy
      go_enter Try.func97, Try.ntmps97
      go_wp2_with fail
      go_rounds 3
      go_wp2_with fail
      go_ret
      exact ⟨rfl, rfl⟩
    · have t1 : decide (y = 0) = false := by simp [hy]
      have t2 : (y == 0) = false := by simp [hy]
      have t3 : (y != 0) = true := by simp [hy]
      clear hy
      go_enter Try.func97, Try.ntmps97
      go_wp2_with fail
      go_rounds 3
      go_wp2_with fail
      go_ret
      exact ⟨rfl, rfl⟩
  · rw [if_neg hx]
    have t1 : decide (x = 0) = false := by simp [hx]
    have t2 : (x == 0) = false := by simp [hx]
    have t3 : (x != 0) = true := by simp [hx]
    clear hx
    go_enter Try.func97, Try.ntmps97
    go_wp2_with fail
    go_rounds 3
    go_wp2_with fail
    go_ret
    exact ⟨rfl, rfl⟩
def cmpP (x y : Plc) : Int := if cmpI x.1 y.1 = 0 then cmpI x.2 y.2 else cmpI x.1 y.1
theorem grow3 (w : World) (a b c : Obj) : (((w.alloc a).alloc b).alloc c).drew = Sort.grow (w.drewN 1) #[a, b, c] := by
  rw [Sort.alloc_eq_grow, Sort.alloc_eq_grow, Sort.alloc_eq_grow, Sort.grow_grow, Sort.grow_grow, Sort.drew_grow]
  rfl
set_option maxRecDepth 100000 in
set_option maxHeartbeats 4000000 in
theorem compare_any (x y : Plc) (w : World) : Calls Try.prog 88 #[.agg #[.int .u32 x.1, .int .u16 x.2], .agg #[.int .u32 y.1, .int .u16 y.2]] w fun e w' => e = .returned (.int .i64 (cmpP x y)) ∧ ∃ os', w' = Sort.grow (w.drewN 1) os' := by
  obtain ⟨x1, x2⟩ := x
  obtain ⟨y1, y2⟩ := y
  obtain ⟨W, hW⟩ : ∃ W, (w.alloc (.cells #[.int .u32 x1, .int .u16 x2] 43)).alloc (.cells #[.int .u32 y1, .int .u16 y2] 43) = W := ⟨_, rfl⟩
  have g1 : W.heap[w.heap.size]? = some (.cells #[.int .u32 x1, .int .u16 x2] 43 (0, 0)) := by rw [← hW, alloc_blk_old (by simp)]; exact alloc_blk_new
  have g2 : W.heap[w.heap.size + 1]? = some (.cells #[.int .u32 y1, .int .u16 y2] 43 (0, 0)) := by
    rw [← hW]
    have h := alloc_blk_new (w := w.alloc (.cells #[.int .u32 x1, .int .u16 x2] 43)) (o := .cells #[.int .u32 y1, .int .u16 y2] 43)
    rw [show (w.alloc (.cells #[.int .u32 x1, .int .u16 x2] 43)).heap.size = w.heap.size + 1 by simp] at h
    exact h
  have a0 : W.cell? ⟨w.heap.size, 0, none⟩ = some (.int .u32 x1) := cell_blk g1
  have a1 : W.cell? ⟨w.heap.size, 1, none⟩ = some (.int .u16 x2) := cell_blk g1
  have b0 : W.cell? ⟨w.heap.size + 1, 0, none⟩ = some (.int .u32 y1) := cell_blk g2
  have b1 : W.cell? ⟨w.heap.size + 1, 1, none⟩ = some (.int .u16 y2) := cell_blk g2
  have H1 := Lib.hid (cmp32 x1 y1 W.drew)
  have H2 := Lib.hid (cmp16 x2 y2 W.drew)
  unfold cmpP
  show Calls _ _ _ _ fun e w' => e = .returned (.int .i64 (if cmpI x1 y1 = 0 then cmpI x2 y2 else cmpI x1 y1)) ∧ _
  generalize cmpI x1 y1 = r1 at H1 ⊢
  generalize cmpI x2 y2 = r2 at H2 ⊢
  obtain ⟨r, hr⟩ : ∃ r, (if r1 = 0 then r2 else r1) = r := ⟨_, rfl⟩
  rw [hr]
  have HR := Lib.hid hr
  clear hr
  have HG := Lib.hid (grow3 w (.cells #[.int .u32 x1, .int .u16 x2] 43) (.cells #[.int .u32 y1, .int .u16 y2] 43) (.cells #[.int .i64 r1, .int .i64 r2] 3))
  rw [hW] at HG
  have HW := Lib.hid hW
  clear g1 g2 hW
  go_enter Try.func88, Try.ntmps88
  go_wp2_with fail
  rw [HW.out]
  refine wp_region_still_tail 10 (by kernel_rfl) (by kernel_rfl) ?_
  simp only [List.take_succ_cons, List.take_zero, List.drop_succ_cons, List.drop_zero]
  iterate 4 still_step
  still_call H1.out
  iterate 4 still_step
  still_call H2.out
  refine wpStill_nil ?_
  change wpList _ _ _ _ _ W.drew
  go_wp2_with fail
  generalize hX : World.drew _ = X
  have k0 : X.cell? ⟨W.heap.size, 0, none⟩ = some (.int .i64 r1) := by rw [← hX]; exact cell_blk (w := (W.alloc _).drew) (by rw [heap_drew]; exact alloc_blk_new)
  have k1 : X.cell? ⟨W.heap.size, 1, none⟩ = some (.int .i64 r2) := by rw [← hX]; exact cell_blk (w := (W.alloc _).drew) (by rw [heap_drew]; exact alloc_blk_new)
  rw [hX] at HG
  clear hX
  refine (or2 W.heap.size r1 r2 X k0 k1).mono ?_
  rintro e w' ⟨rfl, rfl⟩
  rw [HR.out]
  go_wp2_with fail
  go_ret
  exact ⟨rfl, _, HG.out⟩
end Go.Proofs.Ytkoplofcjbeicaa
