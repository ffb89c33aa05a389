/-
  Fresh and Count of the reference of chapter 8.
-/
import Derived.Test.YtkdjkaimcciemaaWinRef
import Derived.IntWalk
namespace Go.Proofs.Ytkdjkaimcciemaa
open Go.RowKit
set_option linter.unusedVariables false
set_option linter.unusedSimpArgs false

/-- is i among the first k? -/
def rhas (X : Nat → Int) (i : Int) : Nat → Bool
  | 0 => false
  | k + 1 => rhas X i k || (X k == i)
theorem rhas_of (X : Nat → Int) (i : Int) (n : Nat) : rhas X i n = true ↔ ∃ k, k < n ∧ X k = i := by
  induction n with
  | zero => simp [rhas]
  | succ n ih =>
    unfold rhas
    rw [Bool.or_eq_true, ih]
    constructor
    · rintro (⟨k, h1, h2⟩ | h)
      · exact ⟨k, by omega, h2⟩
      · exact ⟨n, by omega, by simpa using h⟩
    · rintro ⟨k, h1, h2⟩
      by_cases hk : k = n
      · exact .inr (by rw [← hk, h2]; simp)
      · exact .inl ⟨k, by omega, h2⟩
def rfr (X : Nat → Int) (n : Nat) (i : Int) : Bool := decide (0 ≤ i) && (decide (mx X n < i + 64) && !(rhas X i n))
/-- how many of the first k are in the window whose highest is h -/
def rcnt (X : Nat → Int) (h : Int) : Nat → Nat
  | 0 => 0
  | k + 1 => rcnt X h k + if h < X k + 64 then 1 else 0
theorem rcnt_le (X : Nat → Int) (h : Int) (k : Nat) : rcnt X h k ≤ k := by
  induction k with
  | zero => exact Nat.le_refl _
  | succ k ih => unfold rcnt; split <;> omega

set_option maxHeartbeats 1000000 in
theorem rwfresh_any (base g r : Nat) (v : Value) (n : Nat) (X : Nat → Int) (i : Int) (w : World) (hg : rwin w r v) (ho : rls w base g r v n X) (hn : n ≤ 1000) (i1 : i ≤ 4611686018427387904) :
    Calls Try.prog 32 #[.pointer (some ⟨r, 0, none⟩), .int .i64 i] w fun e w' => e = .returned (.bool (rfr X n i)) ∧ w = w' := by
  have HP := Lib.hid (rwhigh_any base g r v n X w hg ho hn)
  obtain ⟨av, cv, hv⟩ := ho.len
  have c0 : w.cell? ⟨r, 0, none⟩ = some v := cell_blk hg
  have HC := Lib.hid (fun hn => ho.cells hn)
  have HR : Hid (rfr X n i = (decide (0 ≤ i) && (decide (mx X n < i + 64) && !(rhas X i n)))) := Lib.hid rfl
  obtain ⟨M, hM⟩ : ∃ M, mx X n = M := ⟨_, rfl⟩
  obtain ⟨R, hR⟩ : ∃ R, rfr X n i = R := ⟨_, rfl⟩
  rw [hM] at HP HR
  rw [hR] at HR
  rw [hR]
  clear hM hR
  subst hv
  by_cases h0 : i < 0
  · have e0 : decide (i < 0) = true := by simpa using h0
    have hR : R = false := by rw [HR.out]; simp; omega
    subst hR
    go_enter Try.func32, Try.ntmps32
    go_wp2_with fail
    go_ret
    exact ⟨rfl, rfl⟩
  have e0 : decide (i < 0) = false := by simpa using h0
  have s1 : IntKind.i64.wrap (i + 64) = i + 64 := IntWalk.i64_in _ (by omega)
  have s2 : wrap64 (i + 64) = i + 64 := by unfold wrap64; omega
  by_cases h1 : i + 64 ≤ M
  · have e1 : decide (i + 64 ≤ M) = true := by simpa using h1
    have hR : R = false := by rw [HR.out]; simp; omega
    subst hR
    clear h1 h0
    go_enter Try.func32, Try.ntmps32
    go_wp2_with fail
    refine HP.out.mono ?_
    rintro e w1 ⟨rfl, rfl⟩
    go_wp2_with fail
    go_ret
    exact ⟨rfl, rfl⟩
  have e1 : decide (i + 64 ≤ M) = false := by simpa using h1
  have HR2 : Hid (R = !(rhas X i n)) := Lib.hid (by rw [HR.out, decide_eq_true (by omega : 0 ≤ i), decide_eq_true (by omega : M < i + 64)]; simp)
  clear HR h1 h0
  go_enter Try.func32, Try.ntmps32
  go_wp2_with fail
  refine HP.out.mono ?_
  rintro e w1 ⟨rfl, rfl⟩
  go_wp2_with fail
  clear s1 s2 e1 e0 HP
  go_loopw [5] (fun si wr => ∃ (k : Nat), k ≤ n ∧ si = .int .i64 k ∧ Hid (rhas X i k = false) ∧ Hid (wr = w)) (fun si _ => n - (intOf si).toNat)
  case atStart => exact ⟨0, by omega, rfl, Lib.hid rfl, Lib.hid rfl⟩
  case round =>
    obtain ⟨k, hk, rfl, ht, hw⟩ := hrel
    have c8' : wr.cell? ⟨r, 0, none⟩ = some (.slice av n cv) := by rw [hw.out]; exact c0
    by_cases hlt : k < n
    · obtain ⟨q, cap, hq, hcap, hcap2, hqw, hcells⟩ := HC.out (by omega)
      cases hq
      have ck : wr.cell? ⟨q, k, none⟩ = some (.int .i64 (X k)) := by rw [hw.out]; exact hcells k hlt
      clear hcells
      by_cases ht2 : X k = i
      · have e1 : (X k == i) = true := by simpa using ht2
        have hR : Hid (R = false) := Lib.hid (by rw [HR2.out, (rhas_of X i n).2 ⟨k, hlt, ht2⟩]; rfl)
        clear ht2
        go_wp2_with fail
        go_ret
        exact ⟨by rw [hR.out]; rfl, hw.out.symm⟩
      · have e1 : (X k == i) = false := by simpa using ht2
        have hn2 : Hid (rhas X i (k + 1) = false) := Lib.hid (by unfold rhas; rw [ht.out, e1]; rfl)
        clear ht2
        go_wp2_with fail
        go_roundw
        case rel => exact ⟨k + 1, by omega, by go_num, hn2, hw⟩
        case measure => simp [intOf] <;> omega
    · obtain rfl : k = n := by omega
      go_wp2_with fail
      go_ret
      exact ⟨by rw [HR2.out, ht.out]; rfl, hw.out.symm⟩

set_option maxHeartbeats 1000000 in
theorem rwcount_any (base g r : Nat) (v : Value) (n : Nat) (X : Nat → Int) (w : World) (hg : rwin w r v) (ho : rls w base g r v n X) (hn : n ≤ 1000) (hX : ∀ i, i < n → 0 ≤ X i ∧ X i ≤ 4611686018427387904) :
    Calls Try.prog 36 #[.pointer (some ⟨r, 0, none⟩)] w fun e w' => e = .returned (.int .i64 (rcnt X (mx X n) n : Nat)) ∧ ∃ m, w' = w.drewN m := by
  have HP : Hid (∀ W, rwin W r v → rls W base g r v n X → Calls Try.prog 34 #[.pointer (some ⟨r, 0, none⟩)] W fun e w' => e = .returned (.int .i64 (mx X n)) ∧ W = w') := Lib.hid (fun W h1 h2 => rwhigh_any base g r v n X W h1 h2 hn)
  obtain ⟨av, cv, hv⟩ := ho.len
  have c0 : w.cell? ⟨r, 0, none⟩ = some v := cell_blk hg
  have HC := Lib.hid (fun hn => ho.cells hn)
  have HX := Lib.hid hX
  clear hX
  obtain ⟨M, hM⟩ : ∃ M, mx X n = M := ⟨_, rfl⟩
  rw [hM] at HP
  rw [hM]
  clear hM
  subst hv
  go_enter Try.func36, Try.ntmps36
  go_wp2_with fail
  go_loopw [3, 4] (fun sa si wr => ∃ (k c m : Nat), k ≤ n ∧ c ≤ k ∧ si = .int .i64 k ∧ sa = .int .i64 c ∧ Hid (c = rcnt X M k) ∧ Hid (wr = w.drewN m)) (fun _ si _ => n - (intOf si).toNat)
  case atStart => exact ⟨0, 0, 0, by omega, by omega, rfl, rfl, Lib.hid rfl, Lib.hid rfl⟩
  case round =>
    obtain ⟨k, c, m, hk, hck, rfl, rfl, ht, hw⟩ := hrel
    have c8' : wr.cell? ⟨r, 0, none⟩ = some (.slice av n cv) := by rw [hw.out]; exact c0
    have g9 : rwin wr r (.slice av n cv) := by rw [hw.out]; exact hg
    have o9 : rls wr base g r (.slice av n cv) n X := by rw [hw.out]; exact ⟨ho.own, ho.ne⟩
    by_cases hlt : k < n
    · obtain ⟨q, cap, hq, hcap, hcap2, hqw, hcells⟩ := HC.out (by omega)
      cases hq
      have ck : wr.cell? ⟨q, k, none⟩ = some (.int .i64 (X k)) := by rw [hw.out]; exact hcells k hlt
      obtain ⟨x0, x1⟩ := HX.out k hlt
      have s1 : IntKind.i64.wrap (X k + 64) = X k + 64 := IntWalk.i64_in _ (by omega)
      have s2 : wrap64 (X k + 64) = X k + 64 := by unfold wrap64; omega
      have j0 : (0 : Int) ≤ (k : Int) := by omega
      have j1 : (k : Int) < (n : Int) := by omega
      clear hcells x0 x1
      by_cases ht2 : M < X k + 64
      · have e1 : decide (M < X k + 64) = true := by simpa using ht2
        have hn2 : Hid (c + 1 = rcnt X M (k + 1)) := Lib.hid (by unfold rcnt; rw [if_pos ht2, ← ht.out])
        clear ht2
        go_wp2_with fail
        go_quiet ((go_at_call 34; exact qsame (HP.out _ g9 ⟨o9.own, o9.ne⟩)))
        clear s1 s2
        go_wp2_with fail
        go_roundw
        case rel => exact ⟨k + 1, c + 1, m + _, by omega, by omega, by go_num, by go_num, hn2, Lib.hid (by rw [hw.out, World.drewN_drewN])⟩
        case measure => simp [intOf] <;> omega
      · have e1 : decide (M < X k + 64) = false := by simpa using ht2
        have hn2 : Hid (c = rcnt X M (k + 1)) := Lib.hid (by unfold rcnt; rw [if_neg ht2, ← ht.out]; rfl)
        clear ht2
        go_wp2_with fail
        go_quiet ((go_at_call 34; exact qsame (HP.out _ g9 ⟨o9.own, o9.ne⟩)))
        clear s1 s2
        go_wp2_with fail
        go_roundw
        case rel => exact ⟨k + 1, c, m + _, by omega, by omega, by go_num, rfl, hn2, Lib.hid (by rw [hw.out, World.drewN_drewN])⟩
        case measure => simp [intOf] <;> omega
    · obtain rfl : k = n := by omega
      go_wp2_with fail
      go_ret
      exact ⟨by rw [← ht.out]; rfl, m, hw.out⟩
end Go.Proofs.Ytkdjkaimcciemaa
