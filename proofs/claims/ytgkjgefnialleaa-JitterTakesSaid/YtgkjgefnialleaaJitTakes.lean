/-
  The reference of chapter 18, and the walk of JitterTakes.
-/
import Derived.Test.YtgkjgefnialleaaJit
import Derived.Test.YtgkjgefnialleaaSeqsLaws
import Derived.StillTailTactics
namespace Go.Proofs.Ytgkjgefnialleaa
open Go.RowKit
set_option linter.unusedVariables false
set_option linter.unusedSimpArgs false

/-- the way of packet j; the jitter behind packet j -/
def wayOf (C T : Nat → Int) (j : Nat) : Int := (C j - T j) % 4294967296
def jit (C T : Nat → Int) : Nat → Int
  | 0 => 0
  | j + 1 => jstep (jit C T j) (apd (wayOf C T j) (wayOf C T (j + 1)))
theorem jit_bd (C T : Nat → Int) (j : Nat) : 0 ≤ jit C T j ∧ jit C T j ≤ 4294967295 := by
  induction j with
  | zero => simp [jit]
  | succ j ih => exact jstep_bd ih.1 (apd_bd _ _).1
theorem wayOf_bd (C T : Nat → Int) (j : Nat) : 0 ≤ wayOf C T j ∧ wayOf C T j ≤ 4294967295 := by unfold wayOf; omega

set_option maxHeartbeats 1000000 in
theorem rsixteen_any (n b1 o1 c1 b2 o2 c2 : Nat) (C T : Nat → Int) (w : World) (hn : n ≤ 1000) (hn1 : n + 1 ≤ c1) (hn2 : n + 1 ≤ c2)
    (h1 : ∀ i, i < n + 1 → w.cell? ⟨b1, o1 + i, none⟩ = some (.int .u32 (C i))) (h2 : ∀ i, i < n + 1 → w.cell? ⟨b2, o2 + i, none⟩ = some (.int .u32 (T i))) :
    Calls Try.prog 46 #[.slice (some ⟨b1, o1, none⟩) (n + 1) c1, .slice (some ⟨b2, o2, none⟩) (n + 1) c2] w fun e w' => e = .returned (.int .u64 (jit C T n)) ∧ ∃ k, w' = w.drewN k := by
  have H1 := Lib.hid h1
  have H2 := Lib.hid h2
  clear h1 h2
  go_enter Try.func46, Try.ntmps46
  go_wp2_with fail
  go_loopw [5, 6] (fun sx si wr => ∃ (k : Nat) (x : Int), k ≤ n ∧ si = .int .i64 (k + 1) ∧ sx = .int .i64 x ∧ Hid (x = jit C T k) ∧ 0 ≤ x ∧ x ≤ 4294967295 ∧ ∃ m, wr = w.drewN m) (fun _ si _ => n + 1 - (intOf si).toNat)
  case atStart => exact ⟨0, 0, by omega, rfl, rfl, rfl, by omega, by omega, 0, rfl⟩
  case round =>
    obtain ⟨k, x, hk, rfl, rfl, hx, hx0, hx1, m, hwr⟩ := hrel
    have hcell : ∀ a, wr.cell? a = w.cell? a := fun a => by rw [hwr]; rfl
    have HWR := Lib.hid hwr
    have HCL := Lib.hid hcell
    clear hwr hcell
    by_cases hlt : k < n
    · have ca := (HCL.out _).trans (H1.out k (by omega))
      have cb := (HCL.out _).trans (H1.out (k + 1) (by omega))
      have cc := (HCL.out _).trans (H2.out k (by omega))
      have cd := (HCL.out _).trans (H2.out (k + 1) (by omega))
      have wa := wayOf_bd C T k
      have wb := wayOf_bd C T (k + 1)
      have fb := far32_bd (wayOf C T k) (wayOf C T (k + 1))
      obtain ⟨y, hy⟩ : ∃ y, y = wayOf C T k := ⟨_, rfl⟩
      obtain ⟨z, hz⟩ : ∃ z, z = wayOf C T (k + 1) := ⟨_, rfl⟩
      rw [← hy] at wa fb
      rw [← hz] at wb fb
      have e1 : (C k - T k) % 4294967296 = y := hy.symm
      have e2 : (C (k + 1) - T (k + 1)) % 4294967296 = z := hz.symm
      have e3 : IntKind.u32.wrap (C k - T k) = y := by rw [IntKind.wrap_u32]; exact e1
      have e4 : IntKind.u32.wrap (C (k + 1) - T (k + 1)) = z := by rw [IntKind.wrap_u32]; exact e2
      have HY := Lib.hid hy
      have HZ := Lib.hid hz
      clear hy hz
      go_wp2_with fail
      go_quiet ((go_at_call 23; exact qsame (rgone_any _ _ _ wa.1 wa.2 wb.1 wb.2)))
      clear e1 e2 e3 e4 ca cb cc cd
      obtain ⟨f, hf⟩ : ∃ f, f = far32 y z := ⟨_, rfl⟩
      rw [← hf] at fb ⊢
      have hs : jit C T (k + 1) = jstep x (if f < 0 then -f else f) := by rw [hf, HY.out, HZ.out, hx.out]; rfl
      have HS := Lib.hid hs
      have HF := Lib.hid hf
      clear hs hf
      by_cases hf0 : f < 0
      · by_cases hbig : 4294967295 < x + -f - (x + 8) / 16
        · go_wp2_with fail
          go_roundw
          case rel => exact ⟨k + 1, 4294967295, by omega, by go_num, rfl, by show _ = _; rw [HS.out]; rw [if_pos hf0]; unfold jstep; rw [if_pos hbig], by omega, by omega, m + nq, by rw [HWR.out, World.drewN_drewN]⟩
          case measure => simp [intOf] <;> omega
        · go_wp2_with fail
          go_roundw
          case rel => exact ⟨k + 1, (x + -f - (x + 8) / 16), by omega, by go_num, rfl, by show _ = _; rw [HS.out]; rw [if_pos hf0]; unfold jstep; rw [if_neg hbig], by omega, by omega, m + nq, by rw [HWR.out, World.drewN_drewN]⟩
          case measure => simp [intOf] <;> omega
      · by_cases hbig : 4294967295 < x + f - (x + 8) / 16
        · go_wp2_with fail
          go_roundw
          case rel => exact ⟨k + 1, 4294967295, by omega, by go_num, rfl, by show _ = _; rw [HS.out]; rw [if_neg hf0]; unfold jstep; rw [if_pos hbig], by omega, by omega, m + nq, by rw [HWR.out, World.drewN_drewN]⟩
          case measure => simp [intOf] <;> omega
        · go_wp2_with fail
          go_roundw
          case rel => exact ⟨k + 1, (x + f - (x + 8) / 16), by omega, by go_num, rfl, by show _ = _; rw [HS.out]; rw [if_neg hf0]; unfold jstep; rw [if_neg hbig], by omega, by omega, m + nq, by rw [HWR.out, World.drewN_drewN]⟩
          case measure => simp [intOf] <;> omega
    · obtain rfl : k = n := by omega
      go_wp2_with fail
      go_ret
      exact ⟨ret_int (by rw [← hx.out]), m, HWR.out⟩

set_option maxHeartbeats 1000000 in
set_option maxRecDepth 100000 in
theorem JitterTakes.walk (a1 : Option Addr) (len1 cap1 : Nat) (z1 : List Int) (a2 : Option Addr) (len2 cap2 : Nat) (z2 : List Int) (w : World) (r1 : IsRow .u32 w a1 len1 cap1 z1) (r2 : IsRow .u32 w a2 len2 cap2 z2) :
    Calls Try.prog 12 #[.slice a1 len1 cap1, .slice a2 len2 cap2] w fun e w' => e = .returned (.bool true) ∧ Below w.heap.size w w' := by
  obtain ⟨b1, o1, C, ha1, hl1, hm1, hc1, hw1⟩ := row_open r1
  obtain ⟨b2, o2, T, ha2, hl2, hm2, hc2, hw2⟩ := row_open r2
  have HA1 := Lib.hid ha1
  have HC1 := Lib.hid hc1
  have HA2 := Lib.hid ha2
  have HC2 := Lib.hid hc2
  clear ha1 hc1 hw1 ha2 hc2 hw2 r1 r2
  go_enter Try.func12, Try.ntmps12
  go_wp2_with (go_at_call 44; refine (alive18_any _).mono ?_; rintro e w1 ⟨rfl, hb1⟩)
  have g0 : gauge (w1.alloc (.cells #[.int .u32 0, .int .u64 0, .int .i64 0] 64)) w1.heap.size 0 0 0 := by unfold gauge; rw [heap_alloc, if_pos rfl]
  have hs := hb1.size
  have hb2 : Below w.heap.size w (w1.alloc (.cells #[.int .u32 0, .int .u64 0, .int .i64 0] 64)) := hb1.alloc hs _
  obtain ⟨g, hg⟩ : ∃ g, g = w1.heap.size := ⟨_, rfl⟩
  rw [← hg] at g0
  rw [← hg]
  replace hg : w.heap.size ≤ g := by omega
  clear hb1
  go_loopw [6] (fun si wr => ∃ (k : Nat) (y x : Int), k ≤ len1 ∧ k ≤ len2 ∧ k ≤ 80 ∧ si = .int .i64 k ∧ gauge wr g y x k ∧ Below w.heap.size w wr ∧ Hid (k = 0 → y = 0 ∧ x = 0) ∧ Hid (0 < k → y = wayOf C T (k - 1) ∧ x = jit C T (k - 1))) (fun si _ => len1 - (intOf si).toNat)
  case atStart => exact ⟨0, 0, 0, by omega, by omega, by omega, rfl, g0, hb2, fun _ => ⟨rfl, rfl⟩, fun h => by omega⟩
  case round =>
    clear g0 hb2
    obtain ⟨k, y, x, hk, hk1, hk2, rfl, hgr, hbel, hy0, hy1⟩ := hrel
    by_cases hlt : k < len1 ∧ k < len2 ∧ k < 80
    · obtain ⟨hlt1, hlt2, hlt3⟩ := hlt
      obtain ⟨rfl, hbs1⟩ := HA1.out (by omega)
      obtain ⟨rfl, hbs2⟩ := HA2.out (by omega)
      have hcell1 := Below.cell' hbel hbs1 (HC1.out k (by omega))
      have hcell2 := Below.cell' hbel hbs2 (HC2.out k (by omega))
      have hs2 := hbel.size
      have hj := jit_bd C T k
      have main : Calls Try.prog 45 #[.pointer (some ⟨g, 0, none⟩), .int .u32 (C k), .int .u32 (T k)] wr.drew fun e w' => e = .returned (.tuple #[]) ∧ gauge w' g (wayOf C T k) (jit C T k) ((k : Int) + 1) ∧ Keeps g wr.drew w' := by
        rcases Nat.eq_zero_or_pos k with rfl | hp
        · obtain ⟨rfl, rfl⟩ := hy0.out rfl
          exact take_first g (C 0) (T 0) wr.drew hgr
        · obtain ⟨rfl, rfl⟩ := hy1.out hp
          obtain ⟨j, rfl⟩ : ∃ j, k = j + 1 := ⟨k - 1, by omega⟩
          exact take_next g _ _ _ (C (j + 1)) (T (j + 1)) wr.drew hgr (by omega) (by omega) (jit_bd _ _ _).1 (jit_bd _ _ _).2
      have HM := Lib.hid main
      clear main
      go_wp2_with fail
      go_region_with (go_at_call 45; refine HM.out.mono ?_; rintro e w2 ⟨rfl, g2, k2⟩)
      all_goals
        have hbel2 := Below.keeps hbel.drew (by simpa using hs2) hg k2
        have h1 : ∀ i, i < k + 1 → w2.cell? ⟨b1, o1 + i, none⟩ = some (.int .u32 (C i)) := fun i hi => Below.cell' hbel2 hbs1 (HC1.out i (by omega))
        have h2 : ∀ i, i < k + 1 → w2.cell? ⟨b2, o2 + i, none⟩ = some (.int .u32 (T i)) := fun i hi => Below.cell' hbel2 hbs2 (HC2.out i (by omega))
        have hr := fun n => rsixteen_any k b1 o1 cap1 b2 o2 cap2 C T (w2.drewN n) (by omega) (by omega) (by omega) h1 h2
        have HR := Lib.hid hr
        clear h1 h2 hr hcell1 hcell2
        have hd1 : 0 ≤ jit C T k / 16 := by omega
        have hd2 : jit C T k / 16 ≤ 4294967295 := by omega
        go_wp2_with fail
        go_quiet ((go_at_call 46; exact Calls.quiet_of (HR.out _)))
        go_wp2_with (first | (go_at_call 47; refine (sixteen_any _ _ _ _ _ (g2.drewN _)).mono ?_; rintro e w' ⟨rfl, rfl⟩) | (go_at_call 48; refine (now_any _ _ _ _ _ (g2.drewN _) hj.1 hj.2).mono ?_; rintro e w' ⟨rfl, rfl⟩) | (go_at_call 49; refine (count_any _ _ _ _ _ (g2.drewN _)).mono ?_; rintro e w' ⟨rfl, rfl⟩))

        go_roundw
        case rel => exact ⟨k + 1, _, _, by omega, by omega, by omega, by go_num, by have := g2.drewN nq; rw [show ((k + 1 : Nat) : Int) = (k : Int) + 1 by omega]; exact this, below_drewN0 hbel2 _, fun h => by omega, fun _ => ⟨rfl, rfl⟩⟩
        case measure => simp [intOf] <;> omega
    · go_wp2_with fail
      all_goals
        go_ret
        exact ⟨rfl, hbel⟩
end Go.Proofs.Ytgkjgefnialleaa
