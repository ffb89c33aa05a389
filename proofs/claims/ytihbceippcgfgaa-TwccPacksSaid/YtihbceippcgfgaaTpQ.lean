/-
  Chapter 37: run and rowOf.
-/
import Derived.Test.YtihbceippcgfgaaTpS
namespace Go.Proofs.Ytihbceippcgfgaa
open Go.RowKit
set_option linter.unusedVariables false
set_option linter.unusedSimpArgs false
attribute [local irreducible] wpStill wpQuiet

/-- q numbers of a row from p on -/
def Part (w : World) (s p q : Nat) (σ : Nat → Int) : Prop := s < w.heap.size ∧ ∀ i, i < q → w.cell? ⟨s, p + i, none⟩ = some (.int .i64 (σ (p + i)))
theorem Part.keep {w w' : World} {s p q : Nat} {σ : Nat → Int} (h : Part w s p q σ) (hb : Below w.heap.size w w') : Part w' s p q σ := ⟨by have := hb.size; have := h.1; omega, fun i hi => Below.cell' hb h.1 (h.2 i hi)⟩
set_option maxRecDepth 100000 in
set_option maxHeartbeats 1000000 in
theorem run_any (σ : Nat → Int) (w : World) (s p q c : Nat) (h : Part w s p q σ) (hq : 1 ≤ q) (hq4 : q ≤ 400) (hc : q ≤ c) (hcm : c ≤ 9223372036854775807) :
    Calls Try.prog 87 #[.slice (some ⟨s, p, none⟩) q c] w fun e w' => e = .returned (.int .i64 (rl σ (p + q) p : Nat)) ∧ Below w.heap.size w w' := by
  have HC := Lib.hid h.2
  have h0 := HC.out 0 (by omega)
  rw [Nat.add_zero] at h0
  have H0 := Lib.hid h0
  have hq0 : 0 < q := hq
  have e1 : ∀ i, i < 1 → σ (p + i) = σ p := fun i hi => by
    obtain rfl : i = 0 := by omega
    rfl
  have E1 := Lib.hid e1
  clear h h0 e1
  go_enter Try.func87, Try.ntmps87
  go_wp2_with fail
  go_loopw [3] (fun si wr => ∃ (k d : Nat), 1 ≤ k ∧ k ≤ q ∧ si = .int .i64 k ∧ Hid (∀ i, i < k → σ (p + i) = σ p) ∧ Hid (wr = w.drewN d)) (fun si _ => q - (intOf si).toNat)
  case atStart => exact ⟨1, 0, by omega, by omega, rfl, E1, Lib.hid rfl⟩
  case round =>
    obtain ⟨k, d, hk1, hk, rfl, HE, HW⟩ := hrel
    by_cases hlt : k < q
    · have c0 : wr.cell? ⟨s, p, none⟩ = some (.int .i64 (σ p)) := by rw [HW.out]; exact H0.out
      have ck : wr.cell? ⟨s, p + k, none⟩ = some (.int .i64 (σ (p + k))) := by rw [HW.out]; exact HC.out k hlt
      have HW2 : Hid (wr.drew = w.drewN (d + 1)) := Lib.hid (by rw [HW.out]; rfl)
      have t1 : decide ((k : Int) < (q : Int)) = true := by simp; omega
      have t2 : decide ((k : Int) < 8191) = true := by simp; omega
      by_cases he : σ (p + k) = σ p
      · have HE2 : Hid (∀ i, i < k + 1 → σ (p + i) = σ p) := Lib.hid (fun i hi => by
          by_cases e : i = k
          · subst e; exact he
          · exact HE.out i (by omega))
        rw [he] at ck
        have t3 : (σ p == σ p) = true := by simp
        clear he HE
        go_wp2_with fail
        refine wp_region_still_lit (by kernel_rfl) (by kernel_rfl) ?_
        iterate 18 still_step
        refine wpStill_nil ?_
        change Exit.then _ _ _ _ wr.drew
        go_wp2_with fail
        go_roundw
        case rel => exact ⟨k + 1, d + 1, by omega, by omega, by go_num, HE2, HW2⟩
        case measure => simp [intOf] <;> omega
      · have hr : IsRun σ (p + q) p k := ⟨hk1, by omega, HE.out, .inr he⟩
        have hrl := (rl_run (σ := σ) (n := p + q) (p := p) (by omega)).uniq hr
        have HR := Lib.hid hrl
        have t3 : (σ (p + k) == σ p) = false := by simpa using he
        clear he hr hrl
        go_wp2_with fail
        refine wp_region_still_lit (by kernel_rfl) (by kernel_rfl) ?_
        iterate 18 still_step
        refine wpStill_nil ?_
        change Exit.then _ _ _ _ wr.drew
        go_wp2_with fail
        go_ret
        exact ⟨by rw [HR.out]; rfl, by rw [HW2.out]; exact below_drewN0 (Below.refl _ _) _⟩
    · obtain rfl : q = k := by omega
      have hr : IsRun σ (p + q) p q := ⟨hk1, by omega, HE.out, .inl rfl⟩
      have HR := Lib.hid ((rl_run (σ := σ) (n := p + q) (p := p) (by omega)).uniq hr)
      have HW2 : Hid (wr.drew = w.drewN (d + 1)) := Lib.hid (by rw [HW.out]; rfl)
      have t1 : decide ((q : Int) < (q : Int)) = false := by simp
      clear hr hlt
      go_wp2_with fail
      refine wp_region_still_lit (by kernel_rfl) (by kernel_rfl) ?_
      iterate 18 still_step
      refine wpStill_nil ?_
      change Exit.then _ _ _ _ wr.drew
      go_wp2_with fail
      go_ret
      exact ⟨by rw [HR.out]; rfl, by rw [HW2.out]; exact below_drewN0 (Below.refl _ _) _⟩

/-! ### A row's word -/
theorem row_end (σ : Nat → Int) (n p : Nat) : ∀ k, k ≤ 7 → (∀ i, k ≤ i → i < 7 → dg σ n p i = 0) → rowK σ n p k * 2 ^ (14 - 2 * k) = rowW σ n p := by
  intro k hk hz
  have z := fun i h => hz i h
  have : k = 7 ∨ k = 0 ∨ k = 1 ∨ k = 2 ∨ k = 3 ∨ k = 4 ∨ k = 5 ∨ k = 6 := by omega
  rcases this with rfl | rfl | rfl | rfl | rfl | rfl | rfl | rfl
  · rw [← rowK_7]; show _ * 2 ^ 0 = _; rw [Int.pow_zero, Int.mul_one]
  all_goals simp only [rowK, rowW]
  · have := z 0 (by omega) (by omega); have := z 1 (by omega) (by omega); have := z 2 (by omega) (by omega); have := z 3 (by omega) (by omega); have := z 4 (by omega) (by omega); have := z 5 (by omega) (by omega); have := z 6 (by omega) (by omega); simp; omega
  · have := z 1 (by omega) (by omega); have := z 2 (by omega) (by omega); have := z 3 (by omega) (by omega); have := z 4 (by omega) (by omega); have := z 5 (by omega) (by omega); have := z 6 (by omega) (by omega); simp; omega
  · have := z 2 (by omega) (by omega); have := z 3 (by omega) (by omega); have := z 4 (by omega) (by omega); have := z 5 (by omega) (by omega); have := z 6 (by omega) (by omega); simp; omega
  · have := z 3 (by omega) (by omega); have := z 4 (by omega) (by omega); have := z 5 (by omega) (by omega); have := z 6 (by omega) (by omega); simp; omega
  · have := z 4 (by omega) (by omega); have := z 5 (by omega) (by omega); have := z 6 (by omega) (by omega); simp; omega
  · have := z 5 (by omega) (by omega); have := z 6 (by omega) (by omega); simp; omega
  · have h6 := z 6 (by omega) (by omega); rw [h6]; show _ * 2 ^ 2 = _; omega
/-- one more sign of a row -/
theorem row_or (σ : Nat → Int) (hσ : ∀ i, 0 ≤ σ i ∧ σ i ≤ 2) (n p k : Nat) (hk : k < 7) (hp : p + k < n) :
    bits BinOp.or IntKind.i64 (rowK σ n p k * 2 ^ (14 - 2 * k)) (wrap64 (σ (p + k) * 2 ^ (2 * (6 - k)))) = rowK σ n p (k + 1) * 2 ^ (14 - 2 * (k + 1)) := by
  have hd : dg σ n p k = σ (p + k) := by unfold dg; rw [if_pos hp]
  have hs := hσ (p + k)
  have hb := rowK_bd hσ n p k (by omega)
  have hr : rowK σ n p (k + 1) = rowK σ n p k * 4 + σ (p + k) := by rw [← hd]; rfl
  have : k = 0 ∨ k = 1 ∨ k = 2 ∨ k = 3 ∨ k = 4 ∨ k = 5 ∨ k = 6 := by omega
  have wr : ∀ z : Int, 0 ≤ z → z ≤ 65535 → wrap64 z = z := fun z h1 h2 => by unfold wrap64; omega
  rcases this with rfl | rfl | rfl | rfl | rfl | rfl | rfl <;> (
    generalize σ _ = x at *
    rw [hr]
    generalize rowK σ n p _ = y at *)
  · rw [wr _ (by show 0 ≤ x * 2 ^ 12; omega) (by show x * 2 ^ 12 ≤ _; omega)]
    exact (orLow 14 y (x * 2 ^ 12) (by omega) (by omega) (by omega)).trans (by show _ = _ * 2 ^ 12; omega)
  · rw [wr _ (by show 0 ≤ x * 2 ^ 10; omega) (by show x * 2 ^ 10 ≤ _; omega)]
    exact (orLow 12 y (x * 2 ^ 10) (by omega) (by omega) (by omega)).trans (by show _ = _ * 2 ^ 10; omega)
  · rw [wr _ (by show 0 ≤ x * 2 ^ 8; omega) (by show x * 2 ^ 8 ≤ _; omega)]
    exact (orLow 10 y (x * 2 ^ 8) (by omega) (by omega) (by omega)).trans (by show _ = _ * 2 ^ 8; omega)
  · rw [wr _ (by show 0 ≤ x * 2 ^ 6; omega) (by show x * 2 ^ 6 ≤ _; omega)]
    exact (orLow 8 y (x * 2 ^ 6) (by omega) (by omega) (by omega)).trans (by show _ = _ * 2 ^ 6; omega)
  · rw [wr _ (by show 0 ≤ x * 2 ^ 4; omega) (by show x * 2 ^ 4 ≤ _; omega)]
    exact (orLow 6 y (x * 2 ^ 4) (by omega) (by omega) (by omega)).trans (by show _ = _ * 2 ^ 4; omega)
  · rw [wr _ (by show 0 ≤ x * 2 ^ 2; omega) (by show x * 2 ^ 2 ≤ _; omega)]
    exact (orLow 4 y (x * 2 ^ 2) (by omega) (by omega) (by omega)).trans (by show _ = _ * 2 ^ 2; omega)
  · rw [wr _ (by show 0 ≤ x * 2 ^ 0; omega) (by show x * 2 ^ 0 ≤ _; omega)]
    exact (orLow 2 y (x * 2 ^ 0) (by omega) (by omega) (by omega)).trans (by show _ = _ * 2 ^ 0; omega)
set_option maxRecDepth 100000 in
set_option maxHeartbeats 1000000 in
theorem rowOf_any (σ : Nat → Int) (hσ : ∀ i, 0 ≤ σ i ∧ σ i ≤ 2) (w : World) (s p q c : Nat) (h : Part w s p q σ) (hq : 1 ≤ q) (hq4 : q ≤ 400) (hc : q ≤ c) (hcm : c ≤ 9223372036854775807) :
    Calls Try.prog 88 #[.slice (some ⟨s, p, none⟩) q c] w fun e w' => e = .returned (.int .i64 (rowW σ (p + q) p)) ∧ Below w.heap.size w w' := by
  have HC := Lib.hid h.2
  have HS := Lib.hid hσ
  obtain ⟨m, hm⟩ : ∃ m, m = min 7 q := ⟨_, rfl⟩
  have hm7 : m ≤ 7 := by omega
  have hmq : m ≤ q := by omega
  have HM := Lib.hid hm
  have hmI : (if (q : Int) < 7 then (q : Int) else 7) = m := by split <;> omega
  clear h hσ hm
  go_enter Try.func88, Try.ntmps88
  go_wp2_with fail
  go_loopw [3, 12] (fun sx si wr => ∃ (k : Nat) (x : Int), k ≤ m ∧ si = .int .i64 k ∧ sx = .int .i64 x ∧ Hid (x = rowK σ (p + q) p k * 2 ^ (14 - 2 * k)) ∧ wr = w) (fun _ si _ => m - (intOf si).toNat)
  case atStart => exact ⟨0, 32768, by omega, rfl, rfl, Lib.hid (by simp [rowK]), rfl⟩
  case round =>
    obtain ⟨k, x, hk, rfl, rfl, HX, rfl⟩ := hrel
    by_cases hlt : k < m
    · have ck := HC.out k (by omega)
      have H1 : Hid (bits BinOp.or IntKind.i64 x (wrap64 (σ (p + k) * 2 ^ (2 * (6 - k)))) = rowK σ (p + q) p (k + 1) * 2 ^ (14 - 2 * (k + 1))) := Lib.hid (by rw [HX.out]; exact row_or σ HS.out (p + q) p k (by omega) (by omega))
      go_wp2_with fail
      exact ⟨⟨k + 1, _, by omega, by go_num, rfl, H1, trivial⟩, by simp [intOf] <;> omega⟩
    · obtain rfl : m = k := by omega
      have H1 : Hid (x = rowW σ (p + q) p) := Lib.hid (by
        rw [HX.out]
        refine row_end σ _ _ m hm7 (fun i h1 h2 => ?_)
        have := HM.out
        unfold dg; rw [if_neg (by omega)])
      go_wp2_with fail
      go_ret
      exact ⟨by rw [H1.out]; rfl, Below.refl _ _⟩
end Go.Proofs.Ytihbceippcgfgaa
