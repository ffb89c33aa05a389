/-
  The walks of the statements of chapter 18: JitterEven, JitterBound, JitterTakes.
-/
import Derived.Test.YtgkjgefnialleaaJit
import Derived.StillTailTactics
namespace Go.Proofs.Ytgkjgefnialleaa
open Go.RowKit
set_option linter.unusedVariables false
set_option linter.unusedSimpArgs false

theorem apd_self (y : Int) : apd y y = 0 := by unfold apd far32; simp
theorem jstep_zero : jstep 0 0 = 0 := by decide
theorem even_way {c s d Y : Int} (h : (c - s) % 4294967296 = Y) : ((c + d) % 4294967296 - (s + d) % 4294967296) % 4294967296 = Y := by omega

set_option maxHeartbeats 1000000 in
theorem JitterEven.walk (c0 s0 : Int) (a : Option Addr) (len cap : Nat) (z : List Int) (w : World) (w0 : (Lit.int .u32 c0).wf = true) (w1 : (Lit.int .u32 s0).wf = true) (w2 : IsRow .u16 w a len cap z) :
    Calls Try.prog 13 #[.int .u32 c0, .int .u32 s0, .slice a len cap] w fun e w' => e = .returned (.bool true) ∧ Below w.heap.size w w' := by
  obtain ⟨b, off, Z, ha, hl, hm, hc, hw⟩ := row_open w2
  have HA := Lib.hid ha
  have HC := Lib.hid hc
  have HW := Lib.hid hw
  clear ha hc hw w0 w1
  obtain ⟨Y, hY⟩ : ∃ Y, (c0 - s0) % 4294967296 = Y := ⟨_, rfl⟩
  have HY := Lib.hid hY
  clear hY
  go_enter Try.func13, Try.ntmps13
  go_wp2_with (go_at_call 44; refine (alive18_any _).mono ?_; rintro e w1 ⟨rfl, hb1⟩)
  have g0 : gauge (w1.alloc (.cells #[.int .u32 0, .int .u64 0, .int .i64 0] 64)) w1.heap.size 0 0 0 := by unfold gauge; rw [heap_alloc, if_pos rfl]
  have hs := hb1.size
  have hb2 : Below w.heap.size w (w1.alloc (.cells #[.int .u32 0, .int .u64 0, .int .i64 0] 64)) := hb1.alloc hs _
  obtain ⟨g, hg⟩ : ∃ g, g = w1.heap.size := ⟨_, rfl⟩
  rw [← hg] at g0
  rw [← hg]
  replace hg : w.heap.size ≤ g := by omega
  clear hb1
  go_loopw [0, 1, 8] (fun sc ss si wr => ∃ (k : Nat) (c s y : Int), k ≤ len ∧ k ≤ 100 ∧ sc = .int .u32 c ∧ ss = .int .u32 s ∧ si = .int .i64 k ∧ gauge wr g y 0 k ∧ Below w.heap.size w wr ∧ Hid ((c - s) % 4294967296 = Y) ∧ Hid (k = 0 → y = 0) ∧ Hid (0 < k → y = Y)) (fun _ _ si _ => len - (intOf si).toNat)
  case atStart => exact ⟨0, c0, s0, 0, by omega, by omega, rfl, rfl, rfl, g0, hb2, HY.out, fun _ => rfl, fun h => by omega⟩
  case round =>
    clear g0 hb2
    obtain ⟨k, c, s, y, hk, hk2, rfl, rfl, rfl, hgr, hbel, hcs, hy0, hy1⟩ := hrel
    by_cases hlt : k < len ∧ k < 100
    · obtain ⟨hlt1, hlt2⟩ := hlt
      obtain ⟨rfl, hbs⟩ := HA.out (by omega)
      have hcell := Below.cell' hbel hbs (HC.out k (by omega))
      have hzb := bounds_u16 (HW.out k (by omega))
      obtain ⟨d, hd⟩ : ∃ d, d = Z k := ⟨_, rfl⟩
      rw [← hd] at hcell hzb
      have hs2 := hbel.size
      go_wp2_with fail
      have main : Calls Try.prog 45 #[.pointer (some ⟨g, 0, none⟩), .int .u32 c, .int .u32 s] wr fun e w' => e = .returned (.tuple #[]) ∧ gauge w' g Y 0 ((k : Int) + 1) ∧ Keeps g wr w' := by
        rcases Nat.eq_zero_or_pos k with rfl | hp
        · have h := hy0.out rfl
          subst h
          refine (take_first g c s wr hgr).mono ?_
          rintro e w' ⟨rfl, g', k'⟩
          rw [hcs.out] at g'
          exact ⟨rfl, by simpa using g', k'⟩
        · have h := hy1.out hp
          subst h
          refine (take_next g y 0 k c s wr hgr (by omega) (by omega) (by omega) (by omega)).mono ?_
          rintro e w' ⟨rfl, g', k'⟩
          rw [hcs.out, apd_self, jstep_zero] at g'
          exact ⟨rfl, g', k'⟩
      refine main.mono ?_
      rintro e w2 ⟨rfl, g2, k2⟩
      clear hcell
      have hbel2 := Below.keeps hbel hs2 hg k2
      have hcell := Below.cell' hbel2 hbs (HC.out k (by omega))
      rw [← hd] at hcell
      clear hd
      have e1 : (0 : Int) / 16 = 0 := by decide
      have HE := even_way (d := d) hcs.out
      have HE2 := Lib.hid HE
      clear HE
      go_wp2_with (first | (go_at_call 47; refine (sixteen_any _ _ _ _ _ g2).mono ?_; rintro e w' ⟨rfl, rfl⟩) | (go_at_call 48; refine (now_any _ _ _ _ _ g2 (by omega) (by omega)).mono ?_; rintro e w' ⟨rfl, rfl⟩))
      all_goals
        go_roundw
        case rel => exact ⟨k + 1, (c + d) % 4294967296, (s + d) % 4294967296, Y, by omega, by omega, rfl, rfl, by go_num, by simpa using g2, hbel2, HE2.out, fun h => by omega, fun _ => rfl⟩
        case measure => simp [intOf] <;> omega
    · go_wp2_with fail
      all_goals
        go_ret
        exact ⟨rfl, hbel⟩

/-- the difference of two numbers -/
def dif (x y : Int) : Int := if y < x then x - y else y - x
theorem bound_step {x d m : Int} (hx : 0 ≤ x) (hx2 : x ≤ 16 * m) (hd : 0 ≤ d) (hdm : d ≤ m) : jstep x d ≤ 16 * m := by unfold jstep; split <;> omega
theorem apd_small {x y : Int} (hx : 0 ≤ x ∧ x ≤ 65535) (hy : 0 ≤ y ∧ y ≤ 65535) : apd x y = dif y x := by
  unfold apd dif far32
  split <;> split <;> omega
theorem way_eq {k d : Int} : ((k * 100 + d) % 4294967296 - (k * 100) % 4294967296) % 4294967296 = d % 4294967296 := by omega

set_option maxHeartbeats 1000000 in
set_option maxRecDepth 100000 in
theorem JitterBound.walk (a : Option Addr) (len cap : Nat) (z : List Int) (w : World) (w2 : IsRow .u16 w a len cap z) :
    Calls Try.prog 14 #[.slice a len cap] w fun e w' => e = .returned (.bool true) ∧ Below w.heap.size w w' := by
  obtain ⟨b, off, Z, ha, hl, hm, hc, hw⟩ := row_open w2
  have HA := Lib.hid ha
  have HC := Lib.hid hc
  have HW := Lib.hid hw
  clear ha hc hw
  go_enter Try.func14, Try.ntmps14
  go_wp2_with (go_at_call 44; refine (alive18_any _).mono ?_; rintro e w1 ⟨rfl, hb1⟩)
  have g0 : gauge (w1.alloc (.cells #[.int .u32 0, .int .u64 0, .int .i64 0] 64)) w1.heap.size 0 0 0 := by unfold gauge; rw [heap_alloc, if_pos rfl]
  have hs := hb1.size
  have hb2 : Below w.heap.size w (w1.alloc (.cells #[.int .u32 0, .int .u64 0, .int .i64 0] 64)) := hb1.alloc hs _
  obtain ⟨g, hg⟩ : ∃ g, g = w1.heap.size := ⟨_, rfl⟩
  rw [← hg] at g0
  rw [← hg]
  replace hg : w.heap.size ≤ g := by omega
  clear hb1
  go_loopw [4, 5] (fun sm si wr => ∃ (k : Nat) (m y x : Int), k ≤ len ∧ k ≤ 200 ∧ sm = .int .u32 m ∧ si = .int .i64 k ∧ gauge wr g y x k ∧ Below w.heap.size w wr ∧ 0 ≤ m ∧ m ≤ 65535 ∧ 0 ≤ x ∧ x ≤ 16 * m ∧ Hid (k = 0 → y = 0 ∧ x = 0) ∧ Hid (0 < k → y = Z (k - 1))) (fun _ si _ => len - (intOf si).toNat)
  case atStart => exact ⟨0, 0, 0, 0, by omega, by omega, rfl, rfl, g0, hb2, by omega, by omega, by omega, by omega, fun _ => ⟨rfl, rfl⟩, fun h => by omega⟩
  case round =>
    clear g0 hb2
    obtain ⟨k, m, y, x, hk, hk2, rfl, rfl, hgr, hbel, hm0, hm1, hx0, hx1, hy0, hy1⟩ := hrel
    by_cases hlt : k < len ∧ k < 200
    · obtain ⟨hlt1, hlt2⟩ := hlt
      obtain ⟨rfl, hbs⟩ := HA.out (by omega)
      have hcell := Below.cell' hbel hbs (HC.out k (by omega))
      have hzb := bounds_u16 (HW.out k (by omega))
      have hs2 := hbel.size
      rcases Nat.eq_zero_or_pos k with rfl | hp
      · obtain ⟨rfl, rfl⟩ := hy0.out rfl
        clear hy0 hy1
        obtain ⟨d, hd⟩ : ∃ d, d = Z 0 := ⟨_, rfl⟩
        rw [← hd] at hcell hzb
        have HD := Lib.hid hd
        clear hd
        simp only [Nat.add_zero] at hcell
        go_wp2_with fail
        refine (take_first g _ _ wr hgr).mono ?_
        rintro e w2 ⟨rfl, g2, k2⟩
        have hw1 : (d - 0) % 4294967296 = d := by omega
        rw [hw1] at g2
        clear hw1 hx0 hx1
        have e1 : (0 : Int) / 16 = 0 := by decide
        go_wp2_with (first | (go_at_call 48; refine (now_any _ _ _ _ _ g2 (by omega) (by omega)).mono ?_; rintro e w' ⟨rfl, rfl⟩))
        go_roundw
        case rel => exact ⟨1, m, d, 0, by omega, by omega, rfl, rfl, g2, Below.keeps hbel hs2 hg k2, by omega, by omega, by omega, by omega, fun h => by omega, fun _ => HD.out⟩
        case measure => simp [intOf] <;> omega
      · have h := hy1.out hp
        subst h
        clear hy0 hy1
        obtain ⟨j, rfl⟩ : ∃ j, k = j + 1 := ⟨k - 1, by omega⟩
        have hcell1 := Below.cell' hbel hbs (HC.out j (by omega))
        have hzb1 := bounds_u16 (HW.out j (by omega))
        simp only [Nat.add_sub_cancel] at hgr
        obtain ⟨d, hd⟩ : ∃ d, d = Z (j + 1) := ⟨_, rfl⟩
        obtain ⟨d1, hd1⟩ : ∃ d1, d1 = Z j := ⟨_, rfl⟩
        rw [← hd] at hcell hzb
        rw [← hd1] at hcell1 hzb1 hgr
        have HD := Lib.hid hd
        clear hd hd1
        rw [show ((j + 1 : Nat) : Int) = (j : Int) + 1 by omega] at hgr
        by_cases hgt : d < d1
        · by_cases hbig : m < d1 - d
          · go_wp2_with fail
            go_quiet (fail)
            go_wp2_with fail
            go_quiet (fail)
            go_wp2_with fail
            go_quiet (fail)
            go_wp2_with fail
            refine (take_next g d1 x ((j : Int) + 1) _ _ _ (hgr.drewN _) (by omega) (by omega) (by omega) (by omega)).mono ?_
            rintro e w2 ⟨rfl, g2, k2⟩
            have hw1 : ((((j : Int) + 1) * 100 + d) - (((j : Int) + 1) * 100)) % 4294967296 = d := by omega
            rw [hw1, apd_small hzb1 hzb] at g2
            have hd0 : 0 ≤ dif d d1 ∧ dif d d1 ≤ d1 - d := by unfold dif; split <;> omega
            have hst := bound_step (d := dif d d1) (m := d1 - d) hx0 (by omega) hd0.1 hd0.2
            have hst0 := (jstep_bd (d := dif d d1) hx0 hd0.1).1
            obtain ⟨x2, hx2⟩ : ∃ x2, x2 = jstep x (dif d d1) := ⟨_, rfl⟩
            rw [← hx2] at g2 hst hst0
            clear hx2 hw1 hd0 hx0 hx1
            go_wp2_with (first | (go_at_call 48; refine (now_any _ _ _ _ _ g2 (by omega) (by omega)).mono ?_; rintro e w' ⟨rfl, rfl⟩))
            go_roundw
            case rel => exact ⟨j + 2, d1 - d, d, x2, by omega, by omega, rfl, by go_num, by have := g2; rw [show ((j + 2 : Nat) : Int) = (j : Int) + 1 + 1 by omega]; exact this, Below.keeps (below_drewN0 hbel _) (by simp [size_drewN]; omega) hg k2, by omega, by omega, by omega, by omega, fun h => by omega, fun _ => HD.out⟩
            case measure => simp [intOf] <;> omega
          · go_wp2_with fail
            go_quiet (fail)
            go_wp2_with fail
            go_quiet (fail)
            go_wp2_with fail
            go_quiet (fail)
            go_wp2_with fail
            refine (take_next g d1 x ((j : Int) + 1) _ _ _ (hgr.drewN _) (by omega) (by omega) (by omega) (by omega)).mono ?_
            rintro e w2 ⟨rfl, g2, k2⟩
            have hw1 : ((((j : Int) + 1) * 100 + d) - (((j : Int) + 1) * 100)) % 4294967296 = d := by omega
            rw [hw1, apd_small hzb1 hzb] at g2
            have hd0 : 0 ≤ dif d d1 ∧ dif d d1 ≤ m := by unfold dif; split <;> omega
            have hst := bound_step (d := dif d d1) (m := m) hx0 (by omega) hd0.1 hd0.2
            have hst0 := (jstep_bd (d := dif d d1) hx0 hd0.1).1
            obtain ⟨x2, hx2⟩ : ∃ x2, x2 = jstep x (dif d d1) := ⟨_, rfl⟩
            rw [← hx2] at g2 hst hst0
            clear hx2 hw1 hd0 hx0 hx1
            go_wp2_with (first | (go_at_call 48; refine (now_any _ _ _ _ _ g2 (by omega) (by omega)).mono ?_; rintro e w' ⟨rfl, rfl⟩))
            go_roundw
            case rel => exact ⟨j + 2, m, d, x2, by omega, by omega, rfl, by go_num, by have := g2; rw [show ((j + 2 : Nat) : Int) = (j : Int) + 1 + 1 by omega]; exact this, Below.keeps (below_drewN0 hbel _) (by simp [size_drewN]; omega) hg k2, by omega, by omega, by omega, by omega, fun h => by omega, fun _ => HD.out⟩
            case measure => simp [intOf] <;> omega
        · by_cases hbig : m < d - d1
          · go_wp2_with fail
            go_quiet (fail)
            go_wp2_with fail
            go_quiet (fail)
            go_wp2_with fail
            refine (take_next g d1 x ((j : Int) + 1) _ _ _ (hgr.drewN _) (by omega) (by omega) (by omega) (by omega)).mono ?_
            rintro e w2 ⟨rfl, g2, k2⟩
            have hw1 : ((((j : Int) + 1) * 100 + d) - (((j : Int) + 1) * 100)) % 4294967296 = d := by omega
            rw [hw1, apd_small hzb1 hzb] at g2
            have hd0 : 0 ≤ dif d d1 ∧ dif d d1 ≤ d - d1 := by unfold dif; split <;> omega
            have hst := bound_step (d := dif d d1) (m := d - d1) hx0 (by omega) hd0.1 hd0.2
            have hst0 := (jstep_bd (d := dif d d1) hx0 hd0.1).1
            obtain ⟨x2, hx2⟩ : ∃ x2, x2 = jstep x (dif d d1) := ⟨_, rfl⟩
            rw [← hx2] at g2 hst hst0
            clear hx2 hw1 hd0 hx0 hx1
            go_wp2_with (first | (go_at_call 48; refine (now_any _ _ _ _ _ g2 (by omega) (by omega)).mono ?_; rintro e w' ⟨rfl, rfl⟩))
            go_roundw
            case rel => exact ⟨j + 2, d - d1, d, x2, by omega, by omega, rfl, by go_num, by have := g2; rw [show ((j + 2 : Nat) : Int) = (j : Int) + 1 + 1 by omega]; exact this, Below.keeps (below_drewN0 hbel _) (by simp [size_drewN]; omega) hg k2, by omega, by omega, by omega, by omega, fun h => by omega, fun _ => HD.out⟩
            case measure => simp [intOf] <;> omega
          · go_wp2_with fail
            go_quiet (fail)
            go_wp2_with fail
            go_quiet (fail)
            go_wp2_with fail
            refine (take_next g d1 x ((j : Int) + 1) _ _ _ (hgr.drewN _) (by omega) (by omega) (by omega) (by omega)).mono ?_
            rintro e w2 ⟨rfl, g2, k2⟩
            have hw1 : ((((j : Int) + 1) * 100 + d) - (((j : Int) + 1) * 100)) % 4294967296 = d := by omega
            rw [hw1, apd_small hzb1 hzb] at g2
            have hd0 : 0 ≤ dif d d1 ∧ dif d d1 ≤ m := by unfold dif; split <;> omega
            have hst := bound_step (d := dif d d1) (m := m) hx0 (by omega) hd0.1 hd0.2
            have hst0 := (jstep_bd (d := dif d d1) hx0 hd0.1).1
            obtain ⟨x2, hx2⟩ : ∃ x2, x2 = jstep x (dif d d1) := ⟨_, rfl⟩
            rw [← hx2] at g2 hst hst0
            clear hx2 hw1 hd0 hx0 hx1
            go_wp2_with (first | (go_at_call 48; refine (now_any _ _ _ _ _ g2 (by omega) (by omega)).mono ?_; rintro e w' ⟨rfl, rfl⟩))
            go_roundw
            case rel => exact ⟨j + 2, m, d, x2, by omega, by omega, rfl, by go_num, by have := g2; rw [show ((j + 2 : Nat) : Int) = (j : Int) + 1 + 1 by omega]; exact this, Below.keeps (below_drewN0 hbel _) (by simp [size_drewN]; omega) hg k2, by omega, by omega, by omega, by omega, fun h => by omega, fun _ => HD.out⟩
            case measure => simp [intOf] <;> omega
    · have HH := Lib.hid hlt
      go_wp2_with fail
      all_goals
        refine (take_nil _ _ _).mono ?_
        rintro e w2 ⟨rfl, rfl⟩
        go_wp2
        go_ret
        exact ⟨rfl, hbel⟩
end Go.Proofs.Ytgkjgefnialleaa
