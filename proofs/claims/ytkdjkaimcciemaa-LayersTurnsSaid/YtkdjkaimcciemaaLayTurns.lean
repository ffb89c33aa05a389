/-
  The reference of chapter 23, and the walks of LayersPlays and LayersTurns.
-/
import Derived.Test.YtkdjkaimcciemaaLayLaws
import Derived.Test.YtkdjkaimcciemaaReads
import Derived.Deep.RegionHeld3
namespace Go.Proofs.Ytkdjkaimcciemaa
open Go.RowKit
set_option linter.unusedVariables false
set_option linter.unusedSimpArgs false



theorem take_tri (m d s x : Int) (y : Bool) : (takeTurn m d s x y = true ∧ takeOk m d s x y = true ∧ y = true ∧ x = d ∧ x ≠ s) ∨ (takeTurn m d s x y = false ∧ takeOk m d s x y = true ∧ x = s) ∨ (takeTurn m d s x y = false ∧ takeOk m d s x y = false) := by
  unfold takeTurn takeOk
  by_cases h1 : x = s
  · subst h1
    cases isL m x <;> simp
  · by_cases h2 : x = d
    · subst h2
      cases isL m x <;> cases y <;> simp [h1]
    · simp [h1, h2]

set_option maxHeartbeats 4000000 in
set_option maxRecDepth 100000 in
theorem LayersTurns.walk (m : Int) (v : Value) (w : World) (w0 : (Lit.int .u8 m).wf = true) (r : Reads Try.prog w 6 88 v) :
    Calls Try.prog 12 #[.int .u8 m, v] w fun e w' => e = .returned (.bool true) ∧ Below w.heap.size w w' := by
  obtain ⟨a, len, cap, b, off, T, L, K, rfl, ha, hl, hm, hc, hL⟩ := ops_of r
  have hmb := bounds_u8 w0
  clear r w0
  have HA := Lib.hid ha
  have HC := Lib.hid hc
  have HL := Lib.hid hL
  clear ha hc hL
  go_enter Try.func12, Try.ntmps12
  go_wp2_with (first | (go_at_call 45; refine (alive23_any _).mono ?_; rintro e w0 ⟨rfl, hb0⟩) | (go_at_call 46; refine (lnew_any _ _ (by omega) (by omega)).mono ?_; rintro e w1 ⟨rfl, hg0, hb1⟩))
  have hs0 := hb0.size
  have hs1 := hb1.size
  have hlg := hg0.lt
  have hB2 : Below w.heap.size w w1 := hb0.trans (hb1.mono hs0)
  obtain ⟨g, hg⟩ : ∃ g, g = w0.heap.size := ⟨_, rfl⟩
  rw [← hg] at hg0
  rw [← hg]
  have q1 : w.heap.size ≤ g := by omega
  clear hb0 hb1 hs0 hs1 hlg hg
  go_loopw [6] (fun si wr => ∃ (k : Nat) (d s : Int), k ≤ len ∧ si = .int .i64 k ∧ chsr wr g (m % 4 + 1) d s ∧ Below w.heap.size w wr) (fun si _ => len - (intOf si).toNat)
  case atStart => exact ⟨0, _, _, by omega, rfl, hg0, hB2⟩
  case round =>
    obtain ⟨k, d, s, hk, rfl, hgt, hbel⟩ := hrel
    by_cases hlt : k < len ∧ k < 100
    · obtain ⟨hlt1, hlt2⟩ := hlt
      obtain ⟨rfl, hbs⟩ := HA.out (by omega)
      obtain ⟨hc0, hc1, hc2⟩ := HC.out k (by omega)
      have k0 := Below.cell' hbel hbs hc0
      have k1 := Below.cell' hbel hbs hc1
      have k2 := Below.cell' hbel hbs hc2
      clear hc0 hc1 hc2
      have hLk := HL.out k (by omega)
      obtain ⟨x, hx⟩ : ∃ x, L k = x := ⟨_, rfl⟩
      obtain ⟨y, hy⟩ : ∃ y, K k = y := ⟨_, rfl⟩
      rw [hx] at k1 hLk
      rw [hy] at k2
      clear hx hy
      have hsz := hbel.size
      cases hT : T k
      · rw [hT] at k0
        go_wp2_with (first | (go_at_call 47; refine (goes_any g _ d s _ hgt).mono ?_; rintro e w' ⟨rfl, rfl⟩))
        refine (want_any g _ d s x _ hgt).mono ?_
        rintro e w3 ⟨rfl, g3, k3⟩
        have b3 : Below w.heap.size w w3 := Below.keeps hbel hsz q1 k3
        obtain ⟨D, hD⟩ : ∃ D, (bif wantOk (m % 4 + 1) x then x else d) = D := ⟨_, rfl⟩
        rw [hD] at g3
        clear hD k3 k0 k1 k2 hbel hgt
        have gx : (x == -1) = true ∨ (x == -1) = false := by cases x == -1 <;> simp
        have GX : chsr w3 g (m % 4 + 1) D (-1) ∨ chsr w3 g (m % 4 + 1) D s := by
          rcases gx with h | h
          · rw [h] at g3; exact .inl g3
          · rw [h] at g3; exact .inr g3
        clear gx g3
        rcases GX with g3 | g3
        · by_cases hs : s = -1
          · subst hs
            go_wp2_with (first | (go_at_call 47; refine (goes_any g _ D (-1) _ g3).mono ?_; rintro e w' ⟨rfl, rfl⟩))
            go_roundw
            case rel => exact ⟨k + 1, D, -1, by omega, by go_num, g3, b3⟩
            case measure => simp [intOf] <;> omega
          · have hs' : ((-1 : Int) == s) = false := by simp; omega
            go_wp2_with (first | (go_at_call 47; refine (goes_any g _ D (-1) _ g3).mono ?_; rintro e w' ⟨rfl, rfl⟩))
            go_roundw
            case rel => exact ⟨k + 1, D, -1, by omega, by go_num, g3, b3⟩
            case measure => simp [intOf] <;> omega
        · go_wp2_with (first | (go_at_call 47; refine (goes_any g _ D s _ g3).mono ?_; rintro e w' ⟨rfl, rfl⟩))
          go_roundw
          case rel => exact ⟨k + 1, D, s, by omega, by go_num, g3, b3⟩
          case measure => simp [intOf] <;> omega
      · rw [hT] at k0
        go_wp2_with (first | (go_at_call 47; refine (goes_any g _ d s _ hgt).mono ?_; rintro e w' ⟨rfl, rfl⟩) | (go_at_call 49; refine (wanted_any g _ d s _ hgt).mono ?_; rintro e w' ⟨rfl, rfl⟩))
        go_region_held3 (fun W => W.cell? ⟨b, off + k * 3 + 1, none⟩ = some (.int .i64 x) ∧ W.cell? ⟨b, off + k * 3 + 2, none⟩ = some (.bool y)) (first | go_keep | exact ⟨hw1, hw2⟩)
          (first | (go_at_call 50; refine (take_any g _ d s x y _ (chsr.drew' hgt)).mono ?_; rintro e w3 ⟨rfl, g3, k3⟩; have hw1 := k3.cell (w := wr.drew) k1 (by omega); have hw2 := k3.cell (w := wr.drew) k2 (by omega)))
        have b3 : Below w.heap.size w w3 := Below.keeps (bdrew hbel) hsz q1 k3
        have l0 : w3.cell? ⟨b, off + k * 3 + 1, none⟩ = some (.int .i64 x) := k3.cell (w := wr.drew) k1 (by omega)
        have l1 : w3.cell? ⟨b, off + k * 3 + 2, none⟩ = some (.bool y) := k3.cell (w := wr.drew) k2 (by omega)
        clear k0 k1 k2 k3 hbel hgt
        have tri := take_tri (m % 4 + 1) d s x y
        rcases tri with ⟨e1, e2, rfl, rfl, e5⟩ | ⟨e1, e2, rfl⟩ | ⟨e1, e2⟩
        · rw [e1] at g3
          replace g3 : chsr w3 g (m % 4 + 1) x x := g3
          rw [e1, e2]
          clear e1 e2
          have e6 : (x == s) = false := by simp; omega
          go_wp2_with fail
          go_quiet ((first | (go_at_call 47; exact qsame (goes_any g _ x x _ g3)) | (go_at_call 49; exact qsame (wanted_any g _ x x _ g3))))
          go_wp2_with fail
          go_roundw
          case rel => exact ⟨k + 1, x, x, by omega, by go_num, g3, below_drewN0 b3 _⟩
          case measure => simp [intOf] <;> omega
        · rw [e1] at g3
          replace g3 : chsr w3 g (m % 4 + 1) d x := g3
          rw [e1, e2]
          clear e1 e2
          go_wp2_with fail
          go_quiet ((first | (go_at_call 47; exact qsame (goes_any g _ d x _ g3)) | (go_at_call 49; exact qsame (wanted_any g _ d x _ g3))))
          go_wp2_with fail
          go_roundw
          case rel => exact ⟨k + 1, d, x, by omega, by go_num, g3, below_drewN0 b3 _⟩
          case measure => simp [intOf] <;> omega
        · rw [e1] at g3
          replace g3 : chsr w3 g (m % 4 + 1) d s := g3
          rw [e1, e2]
          clear e1 e2
          go_wp2_with fail
          go_quiet ((first | (go_at_call 47; exact qsame (goes_any g _ d s _ g3)) | (go_at_call 49; exact qsame (wanted_any g _ d s _ g3))))
          go_wp2_with fail
          go_roundw
          case rel => exact ⟨k + 1, d, s, by omega, by go_num, g3, below_drewN0 b3 _⟩
          case measure => simp [intOf] <;> omega
    · go_wp2_with fail
      all_goals
        go_ret
        exact ⟨rfl, hbel⟩
end Go.Proofs.Ytkdjkaimcciemaa
