/-
  The walks of LadderDecays.
-/
import Derived.Test.YtkemkplmhjmahaaLadLaws
namespace Go.Proofs.Ytkemkplmhjmahaa
open Go.RowKit
set_option linter.unusedVariables false
set_option linter.unusedSimpArgs false

/-- what holds behind k ticks, where it is open -/
structure DecInv (n D k m l : Int) : Prop where
  m0 : 0 ≤ m
  m1 : m ≤ n
  l0 : 1 ≤ l
  l1 : l ≤ D
  b : (n - m) * D + (D - l) ≤ k
theorem DecInv.step {n D k m l : Int} (h : DecInv n D k m l) : DecInv n D (k + 1) (tkN m l) (tkL D l) := by
  obtain ⟨m0, m1, l0, l1, b⟩ := h
  unfold tkN tkL
  by_cases hl : 1 < l
  · simp only [hl, decide_true, cond_true]
    exact ⟨m0, m1, by omega, by omega, by omega⟩
  · simp only [hl, decide_false, cond_false]
    obtain rfl : l = 1 := by omega
    by_cases hm : 1 ≤ m
    · rw [show max (m - 1) 0 = m - 1 by omega]
      refine ⟨by omega, by omega, by omega, by omega, ?_⟩
      have : (n - (m - 1)) * D = (n - m) * D + D := by rw [show n - (m - 1) = (n - m) + 1 by omega, Int.add_mul]; omega
      omega
    · obtain rfl : m = 0 := by omega
      rw [show max ((0 : Int) - 1) 0 = 0 by omega]
      exact ⟨by omega, by omega, by omega, by omega, by simp at b ⊢; omega⟩
theorem DecInv.fin {n D k m l : Int} (h : DecInv n D k m l) (hD : 1 ≤ D) : n - m ≤ k / D := by
  obtain ⟨m0, m1, l0, l1, b⟩ := h
  exact (Int.le_ediv_iff_mul_le (by omega)).2 (by omega)

set_option maxHeartbeats 4000000 in
theorem LadderDecays.walk (soft more decay n t : Int) (w : World) (w0 : (Lit.int .u8 soft).wf = true) (w1 : (Lit.int .u8 more).wf = true) (w2 : (Lit.int .u8 decay).wf = true) (w3 : (Lit.int .u8 n).wf = true) (w4 : (Lit.int .u8 t).wf = true) :
    Calls Try.prog 4 #[.int .u8 soft, .int .u8 more, .int .u8 decay, .int .u8 n, .int .u8 t] w fun e w' => e = .returned (.bool true) ∧ Below w.heap.size w w' := by
  have b0 := bounds_u8 w0
  have b1 := bounds_u8 w1
  have b2 := bounds_u8 w2
  have b3 := bounds_u8 w3
  have b4 := bounds_u8 w4
  clear w0 w1 w2 w3 w4
  go_enter Try.func4, Try.ntmps4
  go_wp2_with fail
  refine (alive21_any _).mono ?_
  rintro e w1 ⟨rfl, hb1⟩
  go_wp2_with fail
  refine (lnew_any _ _ _ _ (by omega) (by omega) (by omega) (by omega)).mono ?_
  rintro e w2 ⟨g, rfl, q2, g2, hb2⟩
  have p2 : w2.heap[w1.heap.size]? = some (.cells #[.int .i64 (soft + 1), .int .i64 (soft + 2 + more), .int .i64 (decay + 1)] 23 (0, 0)) := Below.blk hb2 alloc_blk_new (by simp)
  have B2 : Below w.heap.size w w2 := (hb1.alloc hb1.size _).trans (hb2.mono (by have := hb1.size; simp; omega))
  have q1 : w.heap.size ≤ g := by have := hb1.size; simp at q2; omega
  have qg : w1.heap.size ≠ g := by simp at q2; omega
  clear hb1 hb2
  obtain ⟨K, hK⟩ : ∃ K, K = w1.heap.size := ⟨_, rfl⟩
  rw [← hK] at p2 qg
  rw [← hK]
  clear hK q2
  obtain ⟨S, hS⟩ : ∃ S, S = soft + 1 := ⟨_, rfl⟩
  obtain ⟨H, hH⟩ : ∃ H, H = soft + 2 + more := ⟨_, rfl⟩
  obtain ⟨D, hD⟩ : ∃ D, D = decay + 1 := ⟨_, rfl⟩
  rw [← hS, ← hH, ← hD] at g2 p2
  rw [← hS, ← hH, ← hD]
  have bH : S < H ∧ 1 ≤ S ∧ H ≤ 600 := by omega
  have bD : 1 ≤ D ∧ D ≤ 256 := by omega
  clear hS hH hD
  go_wp2_with fail
  have key : Calls Try.prog 19 #[.pointer (some ⟨g, 0, none⟩), .int .i64 n] w2 fun e w' => e = .returned (.tuple #[]) ∧ ldr w' g S H D n D (bif decide (H ≤ n) then 1 else 0) ∧ Keeps g w2 w' := by
    by_cases hn : n < 1
    · obtain rfl : n = 0 := by omega
      rw [decide_eq_false (by omega)]
      exact (lstrike_no g 0 w2 (by decide)).mono fun e w' ⟨h1, h2⟩ => by subst h2; exact ⟨h1, g2, Keeps.refl _ _⟩
    · have := lstrike_any g S H D 0 D 0 n w2 g2 (by decide) (by decide) (by omega)
      rw [show upS 0 n = n by unfold upS; omega] at this
      exact this
  refine key.mono ?_
  rintro e w3 ⟨rfl, g3, k3⟩
  have B3 := Below.keeps B2 B2.size q1 k3
  have p3 := k3.blk p2 qg
  clear key k3 g2 B2 p2
  go_wp2_with (go_at_call 21; refine (lstrikes_any _ _ _ _ _ _ _ _ g3).mono ?_; rintro e w' ⟨rfl, rfl⟩)
  by_cases hn : H ≤ n
  · rw [decide_eq_true hn] at g3
    replace g3 : ldr w3 g S H D n D 1 := g3
    go_loopw [14] (fun si wr => ∃ (k : Nat), k ≤ t ∧ si = .int .i64 k ∧ ldr wr g S H D n D 1 ∧ Below w.heap.size w wr ∧ wr.heap[K]? = some (.cells #[.int .i64 S, .int .i64 H, .int .i64 D] 23 (0, 0))) (fun si _ => (t - intOf si).toNat)
    case atStart => exact ⟨0, by omega, rfl, g3, B3, p3⟩
    case round =>
      obtain ⟨k, hk, rfl, hgr, hbel, hp⟩ := hrel
      by_cases hlt : (k : Int) < t
      · go_wp2_with fail
        refine (ltick_shut _ _ _ _ _ _ _ hgr).mono ?_
        rintro e w6 ⟨rfl, b⟩
        have g6 : ldr w6 g S H D n D 1 := Below.blk b hgr hgr.lt
        have b6 := hbel.trans (b.mono hbel.size)
        have p6 := Below.blk b hp (lt_of_block hp)
        clear hgr hbel b hp
        go_wp2_with fail
        go_roundw
        case rel => exact ⟨k + 1, by omega, by go_num, g6, b6, p6⟩
        case measure => simp [intOf] <;> omega
      · have c1 : wr.cell? ⟨K, 1, none⟩ = some (.int .i64 H) := cell_blk hp
        have hst := lstate_any _ _ _ _ _ _ _ _ hgr
        rw [show stOf S n 1 = 2 from rfl] at hst
        have HST := Lib.hid hst
        clear hst
        have t1 : decide (H ≤ n) = true := by simpa using hn
        go_wp2_with (first | (go_at_call 21; refine (lstrikes_any _ _ _ _ _ _ _ _ hgr).mono ?_; rintro e w' ⟨rfl, rfl⟩) | (go_at_call 20; refine (HST.out).mono ?_; rintro e w' ⟨rfl, hb⟩))
        go_ret
        exact ⟨by simp, hbel.trans (hb.mono hbel.size)⟩
  · rw [decide_eq_false hn] at g3
    replace g3 : ldr w3 g S H D n D 0 := g3
    go_loopw [14] (fun si wr => ∃ (k : Nat) (m l : Int), k ≤ t ∧ si = .int .i64 k ∧ ldr wr g S H D m l 0 ∧ Below w.heap.size w wr ∧ wr.heap[K]? = some (.cells #[.int .i64 S, .int .i64 H, .int .i64 D] 23 (0, 0)) ∧ Hid (DecInv n D k m l)) (fun si _ => (t - intOf si).toNat)
    case atStart => exact ⟨0, n, D, by omega, rfl, g3, B3, p3, Lib.hid ⟨by omega, by omega, by omega, by omega, by simp⟩⟩
    case round =>
      obtain ⟨k, m, l, hk, rfl, hgr, hbel, hp, HI⟩ := hrel
      have i0 := HI.out.m0
      have i1 := HI.out.m1
      have i2 := HI.out.l0
      have i3 := HI.out.l1
      by_cases hlt : (k : Int) < t
      · have HI2 : Hid (DecInv n D ((k + 1 : Nat) : Int) (tkN m l) (tkL D l)) := Lib.hid (by have := HI.out.step; simpa using this)
        go_wp2_with fail
        refine (ltick_any _ _ _ _ _ _ _ hgr i0 (by omega) i2 (by omega)).mono ?_
        rintro e w6 ⟨rfl, g6, k6⟩
        have b6 := Below.keeps hbel hbel.size q1 k6
        have p6 := k6.blk hp qg
        clear hgr hbel k6 hp HI
        go_wp2_with fail
        go_roundw
        case rel => exact ⟨k + 1, _, _, by omega, by go_num, g6, b6, p6, HI2⟩
        case measure => simp [intOf] <;> omega
      · obtain rfl : t = k := by omega
        have hfin := HI.out.fin bD.1
        have c1 : wr.cell? ⟨K, 1, none⟩ = some (.int .i64 H) := cell_blk hp
        have c2 : wr.cell? ⟨K, 2, none⟩ = some (.int .i64 D) := cell_blk hp
        have t1 : decide (H ≤ n) = false := by simpa using hn
        have t2 : decide (0 ≤ n - m) = true := by simp; omega
        have hq : (k : Int) / D ≤ k := Int.ediv_le_self _ (by omega)
        have hq0 : 0 ≤ (k : Int) / D := Int.ediv_nonneg (by omega) (by omega)
        clear HI
        go_wp2_with (first | (go_at_call 21; refine (lstrikes_any _ _ _ _ _ _ _ _ hgr).mono ?_; rintro e w' ⟨rfl, rfl⟩))
        go_ret
        exact ⟨ret_bool (by simp; omega), hbel⟩
end Go.Proofs.Ytkemkplmhjmahaa
