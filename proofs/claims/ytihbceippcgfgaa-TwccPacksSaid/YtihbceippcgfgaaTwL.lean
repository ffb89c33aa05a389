/-
  The walk of TwccCounts.
-/
import Derived.Test.YtihbceippcgfgaaTw
namespace Go.Proofs.Ytihbceippcgfgaa
open Go.RowKit
set_option linter.unusedVariables false
set_option linter.unusedSimpArgs false
attribute [local irreducible] wpStill wpQuiet

theorem alive37_any (w : World) : Calls Try.prog 48 #[] w fun e w' => e = .returned (.bool true) ∧ Below w.heap.size w w' := by
  have hs : strOf (putZ (putZ (putZ (putZ (fun _ => 0) 0 5 2) 2 1 2) 4 8193 2) 6 3 1) 7 = ⟨#[0, 5, 0, 1, 32, 1, 3]⟩ := by decide +kernel
  go_enter Try.func48, Try.ntmps48
  go_wp2_with fail
  refine (pack_one _ w.heap.size 1 (by simp) (by omega)).mono ?_
  rintro e w1 ⟨a, c, rfl, S, B⟩
  have hc := run_conv_BS S Try.underlying25 Try.underlying5 Try.underlying9
  rw [hs] at hc
  have B2 : Below w.heap.size w w1 := ((Below.refl _ w).alloc (Nat.le_refl _) _).trans (B.mono (by simp))
  clear S hs B
  go_wp2_with fail
  go_ret
  exact ⟨rfl, B2⟩
set_option maxHeartbeats 1000000 in
theorem lost_any (w : World) (a : Option Addr) (n cap : Nat) (X : Nat → Int) (hc : 0 < n → ∃ b off, a = some ⟨b, off, none⟩ ∧ ∀ i, i < n → w.cell? ⟨b, off + i, none⟩ = some (.int .i64 (X i))) (hle : n ≤ cap) (hcap : cap ≤ 9223372036854775807) :
    Calls Try.prog 49 #[.slice a n cap] w fun e w' => e = .returned (.int .i64 (twLost X n : Nat)) ∧ w = w' := by
  have HC := Lib.hid hc
  clear hc
  go_enter Try.func49, Try.ntmps49
  go_wp2_with fail
  go_loopw [3, 8] (fun sx si wr => ∃ (k c : Nat), k ≤ n ∧ c ≤ k ∧ si = .int .i64 k ∧ sx = .int .i64 c ∧ Hid (c = twLost X k) ∧ wr = w) (fun _ si _ => n - (intOf si).toNat)
  case atStart => exact ⟨0, 0, by omega, by omega, rfl, rfl, Lib.hid rfl, rfl⟩
  case round =>
    obtain ⟨k, c, hk, hck, rfl, rfl, hx, rfl⟩ := hrel
    by_cases hlt : k < n
    · obtain ⟨b, off, rfl, hcc⟩ := HC.out (by omega)
      have ck := hcc k hlt
      clear hcc
      by_cases hh : X k < 0
      · have e1 : decide (X k < 0) = true := by simpa using hh
        have hn2 : Hid (c + 1 = twLost X (k + 1)) := Lib.hid (by unfold twLost; rw [if_pos hh, ← hx.out])
        clear hh
        go_wp2_with fail
        go_roundw
        case rel => exact ⟨k + 1, c + 1, by omega, by omega, by go_num, by go_num, hn2, trivial⟩
        case measure => simp [intOf] <;> omega
      · have e1 : decide (X k < 0) = false := by simpa using hh
        have hn2 : Hid (c = twLost X (k + 1)) := Lib.hid (by unfold twLost; rw [if_neg hh, ← hx.out]; rfl)
        clear hh
        go_wp2_with fail
        go_roundw
        case rel => exact ⟨k + 1, c, by omega, by omega, by go_num, rfl, hn2, trivial⟩
        case measure => simp [intOf] <;> omega
    · obtain rfl : n = k := by omega
      go_wp2_with fail
      go_ret
      exact ⟨by rw [← hx.out]; rfl, rfl⟩
set_option maxHeartbeats 1000000 in
theorem late_any (w : World) (a : Option Addr) (n cap : Nat) (X : Nat → Int) (hc : 0 < n → ∃ b off, a = some ⟨b, off, none⟩ ∧ ∀ i, i < n → w.cell? ⟨b, off + i, none⟩ = some (.int .i64 (X i))) (hle : n ≤ cap) (hcap : cap ≤ 9223372036854775807) :
    Calls Try.prog 50 #[.slice a n cap] w fun e w' => e = .returned (.int .i64 (twLate X n : Nat)) ∧ w = w' := by
  have HC := Lib.hid hc
  clear hc
  go_enter Try.func50, Try.ntmps50
  go_wp2_with fail
  go_loopw [3, 4, 9] (fun sx sh si wr => ∃ (k c : Nat) (h : Int), k ≤ n ∧ c ≤ k ∧ si = .int .i64 k ∧ sx = .int .i64 c ∧ sh = .int .i64 h ∧ Hid (h = twHigh X k) ∧ Hid (c = twLate X k) ∧ wr = w) (fun _ _ si _ => n - (intOf si).toNat)
  case atStart => exact ⟨0, 0, -1, by omega, by omega, rfl, rfl, rfl, Lib.hid rfl, Lib.hid rfl, rfl⟩
  case round =>
    obtain ⟨k, c, h, hk, hck, rfl, rfl, rfl, hh, hx, rfl⟩ := hrel
    by_cases hlt : k < n
    · obtain ⟨b, off, rfl, hcc⟩ := HC.out (by omega)
      have ck := hcc k hlt
      clear hcc
      have hn1 : Hid ((if h < X k then X k else h) = twHigh X (k + 1)) := Lib.hid (by unfold twHigh; rw [← hh.out])
      have hn2 : Hid (c + (if 0 ≤ X k ∧ X k < h then 1 else 0) = twLate X (k + 1)) := Lib.hid (by unfold twLate; rw [← hh.out, ← hx.out])
      generalize X k = x at *
      rcases (show x < 0 ∨ 0 ≤ x by omega) with h0 | h0
      · rw [if_neg (show ¬ (0 ≤ x ∧ x < h) by omega)] at hn2
        have e0 : decide (0 ≤ x) = false := by (simp; omega)
        rcases (show h < x ∨ ¬ h < x by omega) with hm | hm
        · rw [if_pos hm] at hn1
          go_wp2_with fail
          go_roundw
          case rel => exact ⟨k + 1, c, _, by omega, by omega, by go_num, rfl, by simp [hm], hn1, hn2, trivial⟩
          case measure => simp [intOf] <;> omega
        · rw [if_neg hm] at hn1
          go_wp2_with fail
          go_roundw
          case rel => exact ⟨k + 1, c, _, by omega, by omega, by go_num, rfl, by simp [hm], hn1, hn2, trivial⟩
          case measure => simp [intOf] <;> omega
      · have e0 : decide (0 ≤ x) = true := by simpa using h0
        rcases (show x < h ∨ ¬ x < h by omega) with h1 | h1
        · rw [if_pos ⟨h0, h1⟩] at hn2
          have e1 : decide (x < h) = true := by simpa using h1
          have hm : ¬ h < x := by omega
          rw [if_neg hm] at hn1
          go_wp2_with fail
          go_roundw
          case rel => exact ⟨k + 1, c + 1, _, by omega, by omega, by go_num, by go_num, by simp [hm], hn1, hn2, trivial⟩
          case measure => simp [intOf] <;> omega
        · rw [if_neg (fun h => h1 h.2)] at hn2
          have e1 : decide (x < h) = false := by simpa using h1
          rcases (show h < x ∨ ¬ h < x by omega) with hm | hm
          · rw [if_pos hm] at hn1
            go_wp2_with fail
            go_roundw
            case rel => exact ⟨k + 1, c, _, by omega, by omega, by go_num, rfl, by simp [hm], hn1, hn2, trivial⟩
            case measure => simp [intOf] <;> omega
          · rw [if_neg hm] at hn1
            go_wp2_with fail
            go_roundw
            case rel => exact ⟨k + 1, c, _, by omega, by omega, by go_num, rfl, by simp [hm], hn1, hn2, trivial⟩
            case measure => simp [intOf] <;> omega
    · obtain rfl : n = k := by omega
      go_wp2_with fail
      go_ret
      exact ⟨by rw [← hx.out]; rfl, rfl⟩
set_option maxHeartbeats 2000000 in
theorem TwccCounts.walk (a : Option Addr) (n cap : Nat) (zs : List Int) (w : World) (r0 : IsRow .i64 w a n cap zs) :
    Calls Try.prog 11 #[.slice a n cap] w fun e w' => e = .returned (.bool true) ∧ Below w.heap.size w w' := by
  obtain ⟨b, off, X, ha, hl, hm, hc, hz⟩ := row_open r0
  have HC : Hid (0 < n → ∃ b off, a = some ⟨b, off, none⟩ ∧ b < w.heap.size ∧ ∀ i, i < n → w.cell? ⟨b, off + i, none⟩ = some (.int .i64 (X i))) := Lib.hid (fun h0 => ⟨b, off, (ha (by omega)).1, (ha (by omega)).2, fun i hi => hc i (by omega)⟩)
  clear ha hc hz r0
  go_enter Try.func11, Try.ntmps11
  go_wp2_with fail
  refine (alive37_any _).mono ?_
  rintro e w1 ⟨rfl, B1⟩
  by_cases h500 : 500 < n
  · have e1 : decide ((500 : Int) < (n : Int)) = true := by (simp; omega)
    go_wp2_with fail
    go_ret
    exact ⟨rfl, B1⟩
  have e1 : decide ((500 : Int) < (n : Int)) = false := by (simp; omega)
  have HCell : Hid (∀ d, 0 < n → ∃ b off, a = some ⟨b, off, none⟩ ∧ ∀ i, i < n → (w1.drewN d).cell? ⟨b, off + i, none⟩ = some (.int .i64 (X i))) := Lib.hid (fun d h0 => by
    obtain ⟨b, off, h1, h2, h3⟩ := HC.out h0
    exact ⟨b, off, h1, fun i hi => Below.cell' (below_drewN0 B1 d) h2 (h3 i hi)⟩)
  clear HC h500
  go_wp2_with fail
  go_loopw [3, 4, 5] (fun s3 s4 si wr => ∃ (i d c l : Nat), i ≤ n ∧ c ≤ i ∧ l ≤ i ∧ si = .int .i64 i ∧ s3 = .int .i64 c ∧ s4 = .int .i64 l ∧ Hid (c = twLost X i) ∧ Hid (l = twLate X i) ∧ Hid (wr = w1.drewN d)) (fun _ _ si _ => n - (intOf si).toNat)
  case atStart => exact ⟨0, 0, 0, 0, by omega, by omega, by omega, rfl, rfl, rfl, Lib.hid rfl, Lib.hid rfl, Lib.hid rfl⟩
  case round =>
    obtain ⟨i, d, c, l, hin, hci, hli, rfl, rfl, rfl, hc, hl2, hw⟩ := hrel
    by_cases hlt : i < n
    · obtain ⟨b, off, rfl, hcc⟩ := HCell.out d (by omega)
      have ci : wr.cell? ⟨b, off + i, none⟩ = some (.int .i64 (X i)) := by rw [hw.out]; exact hcc i hlt
      clear hcc
      have hnc : Hid (c + (if X i < 0 then 1 else 0) = twLost X (i + 1)) := Lib.hid (by unfold twLost; rw [← hc.out])
      have hnl : Hid (l + (if 0 ≤ X i ∧ X i < twHigh X i then 1 else 0) = twLate X (i + 1)) := Lib.hid (by unfold twLate; rw [← hl2.out])
      by_cases h0 : X i < 0
      · have e2 : decide (X i < 0) = true := by simpa using h0
        rw [if_pos h0] at hnc
        rw [if_neg (by omega)] at hnl
        clear h0
        go_wp2_with fail
        go_roundw
        case rel => exact ⟨i + 1, d, c + 1, l, by omega, by omega, by omega, by go_num, by go_num, rfl, hnc, hnl, hw⟩
        case measure => simp [intOf] <;> omega
      · have e2 : decide (X i < 0) = false := by simpa using h0
        rw [if_neg h0] at hnc
        have HH := Lib.hid (twHigh_lt X (X i) (by omega) i)
        have h0' : 0 ≤ X i := by omega
        have HP := Lib.hid h0'
        clear h0 h0'
        go_wp2_with fail
        go_loopw [4, 6] (fun s4 sk wr => ∃ (k d : Nat), k ≤ i ∧ sk = .int .i64 k ∧ s4 = .int .i64 l ∧ Hid (∀ j, j < k → X j ≤ X i) ∧ Hid (wr = w1.drewN d)) (fun _ sk _ => i - (intOf sk).toNat)
        case atStart => exact ⟨0, d, by omega, rfl, rfl, Lib.hid (fun j hj => by omega), hw⟩
        case round =>
          clear ci hw
          obtain ⟨k, d, hki, rfl, rfl, hno, hw⟩ := hrel
          by_cases hk : k < i
          · obtain ⟨b', off', hab, hcc⟩ := HCell.out d (by omega)
            obtain ⟨rfl, rfl⟩ : b = b' ∧ off = off' := by simpa using hab
            have ci : wr.cell? ⟨b, off + i, none⟩ = some (.int .i64 (X i)) := by rw [hw.out]; exact hcc i hlt
            have ck : wr.cell? ⟨b, off + k, none⟩ = some (.int .i64 (X k)) := by rw [hw.out]; exact hcc k (by omega)
            have hkn : k < n := by omega
            have HW : Hid (wr.drew = w1.drewN (d + 1)) := Lib.hid (by rw [hw.out]; rfl)
            clear hcc
            by_cases hgt : X i < X k
            · have e3 : decide (X i < X k) = true := by simpa using hgt
              have hnl2 : Hid (l + 1 = twLate X (i + 1)) := Lib.hid (by rw [← hnl.out, if_pos ⟨HP.out, HH.out.2 ⟨k, hk, hgt⟩⟩])
              clear hgt hnl
              go_wp2_with fail
              refine wp_region_still_lit (by kernel_rfl) (by kernel_rfl) ?_
              iterate 9 still_step
              refine wpStill_nil ?_
              change Exit.then _ _ _ _ wr.drew
              go_wp2_with fail
              go_roundw
              case rel => exact ⟨i + 1, d + 1, c, l + 1, by omega, by omega, by omega, by go_num, rfl, by go_num, hnc, hnl2, HW⟩
              case measure => simp [intOf] <;> omega
            · have e3 : decide (X i < X k) = false := by simpa using hgt
              have hno2 : Hid (∀ j, j < k + 1 → X j ≤ X i) := Lib.hid (fun j hj => by
                by_cases h : j = k
                · subst h; omega
                · exact hno.out j (by omega))
              clear hgt hno
              go_wp2_with fail
              refine wp_region_still_lit (by kernel_rfl) (by kernel_rfl) ?_
              iterate 9 still_step
              refine wpStill_nil ?_
              change Exit.then _ _ _ _ wr.drew
              go_wp2_with fail
              go_roundw
              case rel => exact ⟨k + 1, d + 1, by omega, by go_num, rfl, hno2, HW⟩
              case measure => simp [intOf] <;> omega
          · obtain rfl : i = k := by omega
            have hnl2 : Hid (l = twLate X (i + 1)) := Lib.hid (by
              rw [← hnl.out, if_neg]
              · rfl
              · rintro ⟨_, h⟩
                obtain ⟨j, h1, h2⟩ := HH.out.1 h
                have := hno.out j h1
                omega)
            clear hnl hno
            go_wp2_with fail
            go_roundw
            case rel => exact ⟨i + 1, d, c, l, by omega, by omega, by omega, by go_num, rfl, rfl, hnc, hnl2, hw⟩
            case measure => simp [intOf] <;> omega
    · obtain rfl : n = i := by omega
      have HL1 := Lib.hid (lost_any wr a n cap X (by rw [hw.out]; exact HCell.out d) hl hm)
      have HL2 := Lib.hid (late_any wr a n cap X (by rw [hw.out]; exact HCell.out d) hl hm)
      rw [← hc.out] at HL1
      rw [← hl2.out] at HL2
      have x1 : ((c : Int) == (c : Int)) = true := by simp
      have x2 : ((l : Int) == (l : Int)) = true := by simp
      go_wp2_with fail
      refine HL1.out.mono ?_
      rintro e w2 ⟨rfl, rfl⟩
      go_wp2_with fail
      refine HL2.out.mono ?_
      rintro e w2 ⟨rfl, rfl⟩
      go_wp2_with fail
      go_ret
      exact ⟨rfl, by rw [hw.out]; exact below_drewN0 B1 d⟩
end Go.Proofs.Ytihbceippcgfgaa
