/-
  Chapter 37: the reference's Signs.
-/
import Derived.Test.YtihbceippcgfgaaTpS
namespace Go.Proofs.Ytihbceippcgfgaa
open Go.RowKit
set_option linter.unusedVariables false
set_option linter.unusedSimpArgs false
attribute [local irreducible] wpStill wpQuiet

set_option maxRecDepth 100000 in
set_option maxHeartbeats 2000000 in
theorem rsigns_any (w : World) (a : Option Addr) (n cap : Nat) (X : Nat → Int) (h : IRow w a n cap X) (hn : n ≤ 1000) (hw : ∀ i, i < n → -9223372036854775808 ≤ X i ∧ X i ≤ 9223372036854775807) :
    Calls Try.prog 89 #[.slice a n cap] w (StPost X n n (fl (stp X) n) w) := by
  have HI := Lib.hid h
  have HW := Lib.hid hw
  have hle := h.le
  have hmx := h.max
  clear h hw
  go_enter Try.func89, Try.ntmps89
  go_wp2_with fail
  go_loopw [5, 6, 7, 8] (fun s5 s6 s7 si wr => ∃ (k : Nat) (a1 a2 : Option Addr) (c1 c2 : Nat) (g : Int), k ≤ n ∧ si = .int .i64 k ∧ s5 = .slice a1 k c1 ∧ s6 = .slice a2 k c2 ∧ s7 = .int .i64 g ∧ Hid (g = ahd X k) ∧ Hid (∀ j, j < k → ok1 X j) ∧ Hid (Two wr w.heap.size (.slice a1 k c1) (.slice a2 k c2) k k (fl (sg X) k) (fl (stp X) k)) ∧ Hid (Below w.heap.size w wr)) (fun _ _ _ si _ => n - (intOf si).toNat)
  case atStart => exact ⟨0, none, none, 0, 0, 0, by omega, rfl, rfl, rfl, rfl, Lib.hid rfl, Lib.hid (fun j hj => by omega), Lib.hid (two_nil _ _), Lib.hid (Below.refl _ _)⟩
  case round =>
    obtain ⟨k, a1, a2, c1, c2, g, hk, rfl, rfl, rfl, rfl, HG, HO, HT, HB⟩ := hrel
    by_cases hlt : k < n
    · have hbs := HB.out.size
      obtain ⟨b, off, rfl, hb, hcc⟩ := HI.out.at' (by omega)
      have ck := Below.cell' HB.out hb (hcc k hlt)
      clear hcc
      have hx := HW.out k hlt
      have hg : 0 ≤ g ∧ g ≤ 1048575 := by rw [HG.out]; exact ahd_bd (n := k) HO.out k (Nat.le_refl _)
      have app : ∀ x y : Int, sg X k = x → stp X k = y → ∃ a1' c1' W1 a2' c2' W2, Hid (∀ ty, (Builtin.append_ #[90, 90] ty #[.slice a1 k c1, .slice (some ⟨wr.heap.size, 0, none⟩) 1 1]).run Try.prog (wr.alloc (.cells #[.int .i64 x] 3)) = .ok (.slice a1' (k + 1) c1') W1) ∧ Hid (∀ ty, (Builtin.append_ #[90, 90] ty #[.slice a2 k c2, .slice (some ⟨W1.heap.size, 0, none⟩) 1 1]).run Try.prog (W1.alloc (.cells #[.int .i64 y] 3)) = .ok (.slice a2' (k + 1) c2') W2) ∧ Hid (Two W2 w.heap.size (.slice a1' (k + 1) c1') (.slice a2' (k + 1) c2') (k + 1) (k + 1) (fl (sg X) (k + 1)) (fl (stp X) (k + 1))) ∧ Hid (Below w.heap.size w W2) ∧ Hid (Below w.heap.size w W1) := by
        intro x y hx hy
        obtain ⟨a1', c1', W1, R1, T1, B1⟩ := HT.out.sign x (by omega) hbs
        obtain ⟨a2', c2', W2, R2, T2, B2⟩ := T1.step y (by omega) (Nat.le_trans hbs (by have := B1.size; omega))
        exact ⟨a1', c1', W1, a2', c2', W2, Lib.hid R1, Lib.hid R2, Lib.hid (by rw [fl_succ, fl_succ, hx, hy]; exact T2), Lib.hid ((HB.out.trans B1).trans B2), Lib.hid (HB.out.trans B1)⟩
      have HA := Lib.hid app
      clear app
      by_cases h1 : X k = -1
      · have HG2 : Hid (g = ahd X (k + 1)) := Lib.hid (by rw [ahd_succ, if_pos h1]; exact HG.out)
        have hsg := sg_zero.2 h1
        have hst : stp X k = 0 := if_pos h1
        have HO2 : Hid (∀ j, j < k + 1 → ok1 X j) := Lib.hid (fun j hj => by
          by_cases e : j = k
          · subst e; unfold ok1; omega
          · exact HO.out j (by omega))
        obtain ⟨a1', c1', W1, a2', c2', W2, HR, HR2, T2', HB2, HB1⟩ := HA.out _ _ hsg hst
        rw [h1] at ck
        clear h1 hsg hst hx HG HO HT HA
        go_wp2_with (at_builtin; first | refine wpList_of_append rfl (.tmp 56) (.tmp 58) 90 rfl _ _ _ rfl rfl HR.out ?_ | refine wpList_of_append rfl (.tmp 60) (.tmp 62) 90 rfl _ _ _ rfl rfl HR2.out ?_)
        go_roundw
        case rel => exact ⟨k + 1, a1', a2', c1', c2', g, by omega, by go_num, rfl, rfl, rfl, HG2, HO2, T2', HB2⟩
        case measure => simp [intOf] <;> omega
      · have hst : stp X k = X k - g := by unfold stp; rw [if_neg h1, ← HG.out]
        by_cases hok : ok1 X k
        · obtain ⟨o1, o2, o3, o4⟩ := hok
          rw [hst] at o3 o4
          have t1 : decide (X k < -1) = false := by simp; omega
          have t2 : decide (1048575 < X k) = false := by simp; omega
          have t0 : decide (0 ≤ X k) = true := by simp; omega
          have t3 : decide (X k - g < -32768) = false := by simp; omega
          have t4 : decide (32767 < X k - g) = false := by simp; omega
          have HG2 : Hid (X k = ahd X (k + 1)) := Lib.hid (by rw [ahd_succ, if_neg h1])
          have HO2 : Hid (∀ j, j < k + 1 → ok1 X j) := Lib.hid (fun j hj => by
            by_cases e : j = k
            · subst e; unfold ok1; omega
            · exact HO.out j (by omega))
          by_cases hs : 0 ≤ X k - g ∧ X k - g ≤ 255
          · have t5 : decide (0 ≤ X k - g) = true := by simp; omega
            have t5' : decide (g ≤ X k) = true := by simp; omega
            have t6 : decide (X k - g < 256) = true := by simp; omega
            have hsg : sg X k = 1 := by unfold sg; rw [if_neg h1, hst, if_pos hs]
            obtain ⟨a1', c1', W1, a2', c2', W2, HR, HR2, T2', HB2, HB1⟩ := HA.out _ _ hsg hst
            clear hst hsg h1 HG HO HT HA hs o1 o2
            go_wp2_with (at_builtin; first | refine wpList_of_append rfl (.tmp 56) (.tmp 58) 90 rfl _ _ _ rfl rfl HR.out ?_ | refine wpList_of_append rfl (.tmp 60) (.tmp 62) 90 rfl _ _ _ rfl rfl HR2.out ?_)
            go_roundw
            case rel => exact ⟨k + 1, a1', a2', c1', c2', X k, by omega, by go_num, rfl, rfl, rfl, HG2, HO2, T2', HB2⟩
            case measure => simp [intOf] <;> omega
          · have hsg : sg X k = 2 := by unfold sg; rw [if_neg h1, hst, if_neg hs]
            obtain ⟨a1', c1', W1, a2', c2', W2, HR, HR2, T2', HB2, HB1⟩ := HA.out _ _ hsg hst
            clear hst hsg h1 HG HO HT HA o1 o2
            rcases (show X k - g < 0 ∨ (0 ≤ X k - g ∧ 255 < X k - g) by omega) with h0 | ⟨h0, h00⟩
            · have t5 : decide (0 ≤ X k - g) = false := by simp; omega
              have t5' : decide (g ≤ X k) = false := by simp; omega
              clear h0 hs
              go_wp2_with (at_builtin; first | refine wpList_of_append rfl (.tmp 56) (.tmp 58) 90 rfl _ _ _ rfl rfl HR.out ?_ | refine wpList_of_append rfl (.tmp 60) (.tmp 62) 90 rfl _ _ _ rfl rfl HR2.out ?_)
              go_roundw
              case rel => exact ⟨k + 1, a1', a2', c1', c2', X k, by omega, by go_num, rfl, rfl, rfl, HG2, HO2, T2', HB2⟩
              case measure => simp [intOf] <;> omega
            · have t5 : decide (0 ≤ X k - g) = true := by simp; omega
              have t5' : decide (g ≤ X k) = true := by simp; omega
              have t6 : decide (X k - g < 256) = false := by simp; omega
              clear h0 h00 hs
              go_wp2_with (at_builtin; first | refine wpList_of_append rfl (.tmp 56) (.tmp 58) 90 rfl _ _ _ rfl rfl HR.out ?_ | refine wpList_of_append rfl (.tmp 60) (.tmp 62) 90 rfl _ _ _ rfl rfl HR2.out ?_)
              go_roundw
              case rel => exact ⟨k + 1, a1', a2', c1', c2', X k, by omega, by go_num, rfl, rfl, rfl, HG2, HO2, T2', HB2⟩
              case measure => simp [intOf] <;> omega
        · have hbad : Hid (¬ good X n) := Lib.hid (fun hg => hok (hg k hlt))
          have hor : X k < -1 ∨ (-1 ≤ X k ∧ 1048575 < X k) ∨ (0 ≤ X k ∧ X k ≤ 1048575 ∧ X k - g < -32768) ∨ (0 ≤ X k ∧ X k ≤ 1048575 ∧ -32768 ≤ X k - g ∧ 32767 < X k - g) := by
            unfold ok1 at hok; rw [hst] at hok; omega
          clear hok hst h1 HA
          rcases hor with t | ⟨t, u⟩ | ⟨t, u, v⟩ | ⟨t, u, v, x⟩
          · have t1 : decide (X k < -1) = true := by simp; omega
            clear t
            go_wp2_with fail
            go_returns
            exact ⟨.inr ⟨hbad.out, rfl⟩, HB.out⟩
          · have t1 : decide (X k < -1) = false := by simp; omega
            have t2 : decide (1048575 < X k) = true := by simp; omega
            clear t u
            go_wp2_with fail
            go_returns
            exact ⟨.inr ⟨hbad.out, rfl⟩, HB.out⟩
          · have t1 : decide (X k < -1) = false := by simp; omega
            have t2 : decide (1048575 < X k) = false := by simp; omega
            have t0 : decide (0 ≤ X k) = true := by simp; omega
            have t3 : decide (X k - g < -32768) = true := by simp; omega
            have t5 : decide (0 ≤ X k - g) = false := by simp; omega
            have t5' : decide (g ≤ X k) = false := by simp; omega
            clear v
            go_wp2_with fail
            go_returns
            exact ⟨.inr ⟨hbad.out, rfl⟩, HB.out⟩
          · have t1 : decide (X k < -1) = false := by simp; omega
            have t2 : decide (1048575 < X k) = false := by simp; omega
            have t0 : decide (0 ≤ X k) = true := by simp; omega
            have t3 : decide (X k - g < -32768) = false := by simp; omega
            have t4 : decide (32767 < X k - g) = true := by simp; omega
            have t5 : decide (0 ≤ X k - g) = true := by simp; omega
            have t5' : decide (g ≤ X k) = true := by simp; omega
            have t6 : decide (X k - g < 256) = false := by simp; omega
            clear v x
            go_wp2_with fail
            go_returns
            exact ⟨.inr ⟨hbad.out, rfl⟩, HB.out⟩
    · obtain rfl : n = k := by omega
      go_wp2_with fail
      go_returns
      exact ⟨.inl ⟨HO.out, a1, c1, a2, c2, rfl, HT.out⟩, HB.out⟩
end Go.Proofs.Ytihbceippcgfgaa
