/-
  Chapter 49: the worst of readings, the reference's.
-/
import Derived.Test.YtihbceippcgfgaaMtW
namespace Go.Proofs.Ytihbceippcgfgaa
open Go.RowKit
set_option linter.unusedVariables false
set_option linter.unusedSimpArgs false
attribute [local irreducible] wpStill wpQuiet

theorem cmp2_le (x0 x1 y0 y1 : Int) : cmp2 x0 x1 y0 y1 ≤ 0 ↔ ¬ (y0 < x0 ∨ (x0 = y0 ∧ y1 < x1)) := by
  have hc : ∀ x y, cmpI x y = if x < y then -1 else if y < x then 1 else 0 := fun _ _ => rfl
  unfold cmp2
  rw [hc, hc]
  constructor
  · intro h
    split at h <;> split at h <;> (try split at h) <;> (try split at h) <;> omega
  · intro h
    split <;> split <;> (try split) <;> (try split) <;> omega
set_option maxRecDepth 100000 in
set_option maxHeartbeats 4000000 in
theorem rworst_any {B : Nat} {w : World} {a : Option Addr} {n cap : Nat} {R : Nat → Nat → Int} (h : RS B w a n R) (hB : B ≤ w.heap.size) (hn : n ≤ 1000) (hcap : n ≤ cap) :
    Calls Try.prog 65 #[.slice a n cap] w fun e w' => e = .returned (.int .i64 (worI R n)) ∧ Below w.heap.size w w' := by
  have H := Lib.hid h
  clear h
  go_enter Try.func65, Try.ntmps65
  go_wp2_with fail
  go_loopw [3, 4] (fun sw si wr => ∃ (k d : Nat), k ≤ n ∧ si = .int .i64 k ∧ sw = .int .i64 (worI R k) ∧ Hid (wr = w.drewN d)) (fun _ si _ => n - (intOf si).toNat)
  case atStart => exact ⟨0, 0, by omega, rfl, rfl, Lib.hid rfl⟩
  case round =>
    obtain ⟨k, d, hk, rfl, rfl, hw⟩ := hrel
    by_cases hlt : k < n
    · obtain ⟨b, off, rfl, hb, hcc⟩ := H.out.at_ (by omega)
      have HW : Hid (wr.drew = w.drewN (d + 1)) := Lib.hid (by rw [hw.out]; rfl)
      have m3 : wr.cell? ⟨b, off + k * 5 + 3, none⟩ = some (.int .i64 (R k 3)) := by rw [hw.out]; exact hcc k hlt 3 (by omega)
      have m4 : wr.cell? ⟨b, off + k * 5 + 4, none⟩ = some (.int .i64 (R k 4)) := by rw [hw.out]; exact hcc k hlt 4 (by omega)
      have hbd := worI_bd R k
      have hNext : Hid (worI R (k + 1) = if 0 ≤ worI R k ∧ cmp2 (R k 4) (R k 3) (R (worI R k).toNat 4) (R (worI R k).toNat 3) ≤ 0 then worI R k else k) := Lib.hid rfl
      rcases (show worI R k = -1 ∨ 0 ≤ worI R k by omega) with h0 | h0
      · rw [if_neg (by omega)] at hNext
        have e0 : decide (worI R k < 0) = true := by (simp; omega)
        generalize worI R k = wk at *
        clear h0 hbd m3 m4 hcc
        go_wp2_with fail
        refine wp_region_still_lit (by kernel_rfl) (by kernel_rfl) ?_
        iterate 41 still_step
        refine wpStill_nil ?_
        change Exit.then _ _ _ _ wr.drew
        go_wp2_with fail
        go_roundw
        case rel => exact ⟨k + 1, d + 1, by omega, by go_num, by rw [hNext.out], HW⟩
        case measure => simp [intOf] <;> omega
      · obtain ⟨m, hm⟩ := Int.eq_ofNat_of_zero_le h0
        rw [hm] at hNext hbd ⊢
        rw [Int.toNat_natCast] at hNext
        have hmn : m < n := by omega
        have y3 : wr.cell? ⟨b, off + m * 5 + 3, none⟩ = some (.int .i64 (R m 3)) := by rw [hw.out]; exact hcc m hmn 3 (by omega)
        have y4 : wr.cell? ⟨b, off + m * 5 + 4, none⟩ = some (.int .i64 (R m 4)) := by rw [hw.out]; exact hcc m hmn 4 (by omega)
        have e0 : decide ((m : Int) < 0) = false := by (simp <;> omega)
        have hle := cmp2_le (R k 4) (R k 3) (R m 4) (R m 3)
        clear h0 hm hcc
        generalize R k 4 = p4 at *
        generalize R k 3 = p3 at *
        generalize R m 4 = q4 at *
        generalize R m 3 = q3 at *
        rcases (show q4 < p4 ∨ (¬ q4 < p4 ∧ p4 = q4 ∧ q3 < p3) ∨ (¬ q4 < p4 ∧ p4 = q4 ∧ ¬ q3 < p3) ∨ (¬ q4 < p4 ∧ p4 ≠ q4) by omega) with hc | ⟨h1, h2, h3⟩ | ⟨h1, h2, h3⟩ | ⟨h1, h2⟩
        · rw [if_neg (fun h => hle.1 h.2 (.inl hc))] at hNext
          have e1 : decide (q4 < p4) = true := by simpa using hc
          clear hc hle
          go_wp2_with fail
          refine wp_region_still_lit (by kernel_rfl) (by kernel_rfl) ?_
          iterate 41 still_step
          refine wpStill_nil ?_
          change Exit.then _ _ _ _ wr.drew
          go_wp2_with fail
          go_roundw
          case rel => exact ⟨k + 1, d + 1, by omega, by go_num, by rw [hNext.out], HW⟩
          case measure => simp [intOf] <;> omega
        · rw [if_neg (fun h => hle.1 h.2 (.inr ⟨h2, h3⟩))] at hNext
          have e1 : decide (q4 < p4) = false := by simpa using h1
          have e2 : (p4 == q4) = true := by simpa using h2
          have e3 : decide (q3 < p3) = true := by simpa using h3
          clear h1 h2 h3 hle
          go_wp2_with fail
          refine wp_region_still_lit (by kernel_rfl) (by kernel_rfl) ?_
          iterate 41 still_step
          refine wpStill_nil ?_
          change Exit.then _ _ _ _ wr.drew
          go_wp2_with fail
          go_roundw
          case rel => exact ⟨k + 1, d + 1, by omega, by go_num, by rw [hNext.out], HW⟩
          case measure => simp [intOf] <;> omega
        · rw [if_pos ⟨by omega, hle.2 (by omega)⟩] at hNext
          have e1 : decide (q4 < p4) = false := by simpa using h1
          have e2 : (p4 == q4) = true := by simpa using h2
          have e3 : decide (q3 < p3) = false := by simpa using h3
          clear h1 h2 h3 hle
          go_wp2_with fail
          refine wp_region_still_lit (by kernel_rfl) (by kernel_rfl) ?_
          iterate 41 still_step
          refine wpStill_nil ?_
          change Exit.then _ _ _ _ wr.drew
          go_wp2_with fail
          go_roundw
          case rel => exact ⟨k + 1, d + 1, by omega, by go_num, by rw [hNext.out], HW⟩
          case measure => simp [intOf] <;> omega
        · rw [if_pos ⟨by omega, hle.2 (by omega)⟩] at hNext
          have e1 : decide (q4 < p4) = false := by simpa using h1
          have e2 : (p4 == q4) = false := by simpa using h2
          clear h1 h2 hle
          go_wp2_with fail
          refine wp_region_still_lit (by kernel_rfl) (by kernel_rfl) ?_
          iterate 41 still_step
          refine wpStill_nil ?_
          change Exit.then _ _ _ _ wr.drew
          go_wp2_with fail
          go_roundw
          case rel => exact ⟨k + 1, d + 1, by omega, by go_num, by rw [hNext.out], HW⟩
          case measure => simp [intOf] <;> omega
    · obtain rfl : n = k := by omega
      go_wp2_with fail
      go_ret
      exact ⟨rfl, by rw [hw.out]; exact below_drewN0 (Below.refl _ _) d⟩
end Go.Proofs.Ytihbceippcgfgaa
