/-
  The walks of chapter 25: may a subscription have its next layer?
-/
import Derived.Test.YtkemkplmhjmahaaRem
namespace Go.Proofs.Ytkemkplmhjmahaa
open Go.RowKit
set_option linter.unusedVariables false
set_option linter.unusedSimpArgs false
attribute [local irreducible] wpStill

/-- the memory of a sharing: c the costs, o what is given, l what is left -/
structure SW (B : Nat) (w0 W : World) (c o l : Nat) (a : Option Addr) (n cap : Nat) (A : Nat → Option Addr) (K : Nat → Nat) (C : Nat → Nat → Int) (L : Nat → Nat) (av : Option Addr) (cv : Nat) (S : Sh) : Prop where
  hc : W.heap[c]? = some (.cells #[.slice a n cap] 46 (0, 0))
  ho : W.heap[o]? = some (.cells #[.slice av n cv] 47 (0, 0))
  hl : W.heap[l]? = some (.cells #[.int .u64 S.left] 43 (0, 0))
  hq : 0 < n → ∃ q cur, av = some ⟨q, 0, none⟩ ∧ q ≠ c ∧ q ≠ o ∧ q ≠ l ∧ B ≤ q ∧ W.heap[q]? = some (.cells cur 3 (0, 0)) ∧ ∀ i, i < n → cur[i]? = some (.int .i64 (S.out i))
  ne : c ≠ o ∧ c ≠ l ∧ o ≠ l ∧ B ≤ c ∧ B ≤ o ∧ B ≤ l
  hb : Below B w0 W
  cs : CS B W a n A K C L
  hn : n ≤ cv
theorem SW.drewN {B : Nat} {w0 W : World} {c o l : Nat} {a : Option Addr} {n cap : Nat} {A : Nat → Option Addr} {K : Nat → Nat} {C : Nat → Nat → Int} {L : Nat → Nat} {av : Option Addr} {cv : Nat} {S : Sh} (h : SW B w0 W c o l a n cap A K C L av cv S) (m : Nat) : SW B w0 (W.drewN m) c o l a n cap A K C L av cv S :=
  ⟨h.hc, h.ho, h.hl, h.hq, h.ne, below_drewN0 h.hb m, ⟨h.cs.at_, h.cs.row, h.cs.bd⟩, h.hn⟩
set_option maxHeartbeats 2000000 in
theorem fits_any {B : Nat} {w0 W : World} {c o l : Nat} {a : Option Addr} {n cap : Nat} {A : Nat → Option Addr} {K : Nat → Nat} {C : Nat → Nat → Int} {L : Nat → Nat} {av : Option Addr} {cv : Nat} {S : Sh} (h : SW B w0 W c o l a n cap A K C L av cv S) (hS : SI S) (hL : ∀ i, L i ≤ 1000) (i : Nat) (hi : i < n) :
    Calls Try.prog 46 #[.int .i64 i, .pointer (some ⟨o, 0, none⟩), .pointer (some ⟨c, 0, none⟩), .pointer (some ⟨l, 0, none⟩)] W fun e w' => e = .returned (.bool (fitsB C L S i)) ∧ w' = W.drew := by
  have c0 : W.cell? ⟨o, 0, none⟩ = some (.slice av n cv) := cell_blk h.ho
  have c1 : W.cell? ⟨c, 0, none⟩ = some (.slice a n cap) := cell_blk h.hc
  have c2 : W.cell? ⟨l, 0, none⟩ = some (.int .u64 S.left) := cell_blk h.hl
  obtain ⟨q, cur, hav, q1, q2, q3, q4, q5, q6⟩ := h.hq (by omega)
  have c3 : W.cell? ⟨q, i, none⟩ = some (.int .i64 (S.out i)) := by rw [cell_blk q5]; exact q6 i hi
  obtain ⟨b, off, ha, hbB, hcc⟩ := h.cs.at_ (by omega)
  have c4 : W.cell? ⟨b, off + i, none⟩ = some (.slice (A i) (L i) (K i)) := hcc i hi
  have hR : Hid (fitsB C L S i = (decide (i < 64) && (decide (S.out i + 1 < min (L i : Int) 8) && decide (cst C L i (S.out i + 1) ≤ satI S.left (cst C L i (S.out i)))))) := Lib.hid rfl
  have HK : Hid (∀ k, Calls Try.prog 47 #[.slice (A i) (L i) (K i), .int .i64 k] W.drew fun e w' => e = .returned (.int .u64 (cst C L i k)) ∧ w' = W.drew) := Lib.hid fun k => costR (w := W.drew) ⟨h.cs.at_, h.cs.row, h.cs.bd⟩ i hi k
  have hb0 := cst_bd h.cs.bd L i (S.out i)
  have HS : Hid (Calls Try.prog 48 #[.int .u64 S.left, .int .u64 (cst C L i (S.out i))] W.drew fun e w' => e = .returned (.int .u64 (satI S.left (cst C L i (S.out i)))) ∧ w' = W.drew) := Lib.hid (satR _ _ _ hS.l0 hS.l1 hb0.1 hb0.2)
  have x0 := hS.lo i
  have x1 := hS.hi i
  have hl2 := hL i
  have w1 : IntKind.i64.wrap (S.out i + 1) = S.out i + 1 := IntWalk.i64_in _ (by omega)
  have w2 : wrap64 (S.out i + 1) = S.out i + 1 := by unfold wrap64; omega
  have hncv := h.hn
  subst hav ha
  clear h hS hL hb0 q1 q2 q3 q5 q6 hcc
  generalize hX : S.out i = x at *
  generalize S.left = lf at *
  generalize hk1 : cst C L i (x + 1) = k1 at *
  generalize hk0 : cst C L i x = k0 at *
  have HK1 := Lib.hid (HK.out (x + 1))
  have HK0 := Lib.hid (HK.out x)
  rw [hk1] at HK1
  rw [hk0] at HK0
  clear HK hk1 hk0 hX
  obtain ⟨R, hRR⟩ : ∃ R, fitsB C L S i = R := ⟨_, rfl⟩
  rw [hRR] at hR
  rw [hRR]
  clear hRR
  generalize A i = aa at *
  generalize L i = ll at *
  generalize K i = kk at *
  have mm8 : min (ll : Int) 8 = if (8 : Int) < (ll : Int) then 8 else (ll : Int) := by split <;> omega
  rw [mm8] at hR
  clear mm8
  by_cases h64 : i < 64
  · have d0 : decide ((i : Int) < 64) = true := by (simp; omega)
    by_cases hmin : x + 1 < if (8 : Int) < (ll : Int) then 8 else (ll : Int)
    · have d1 : decide (x + 1 < if (8 : Int) < (ll : Int) then 8 else (ll : Int)) = true := by simpa only [decide_eq_true_eq, decide_eq_false_iff_not] using hmin
      rcases (show k1 ≤ satI lf k0 ∨ ¬ k1 ≤ satI lf k0 by omega) with hle | hle
      · have d2 : decide (k1 ≤ satI lf k0) = true := by simpa using hle
        clear hmin
        have HR : Hid (R = true) := Lib.hid (by rw [hR.out, d1, d2, decide_eq_true h64]; rfl)
        clear hR
        go_enter Try.func46, Try.ntmps46
        go_wp2_with fail
        refine wp_region_still_lit (by kernel_rfl) (by kernel_rfl) ?_
        iterate 18 still_step
        still_call HK1.out
        iterate 9 still_step
        still_call HK0.out
        still_call HS.out
        iterate 3 still_step
        refine wpStill_nil ?_
        go_wp2_with fail
        all_goals
          go_ret
          exact ⟨ret_bool HR.out.symm, rfl⟩
      · have d2 : decide (k1 ≤ satI lf k0) = false := by simpa using hle
        clear hmin
        have HR : Hid (R = false) := Lib.hid (by rw [hR.out, d1, d2, decide_eq_true h64]; rfl)
        clear hR
        go_enter Try.func46, Try.ntmps46
        go_wp2_with fail
        refine wp_region_still_lit (by kernel_rfl) (by kernel_rfl) ?_
        iterate 18 still_step
        still_call HK1.out
        iterate 9 still_step
        still_call HK0.out
        still_call HS.out
        iterate 3 still_step
        refine wpStill_nil ?_
        go_wp2_with fail
        all_goals
          go_ret
          exact ⟨ret_bool HR.out.symm, rfl⟩
    · have d1 : decide (x + 1 < if (8 : Int) < (ll : Int) then 8 else (ll : Int)) = false := by simpa only [decide_eq_true_eq, decide_eq_false_iff_not] using hmin
      have HR : Hid (R = false) := Lib.hid (by rw [hR.out, d1, decide_eq_true h64]; rfl)
      clear hR hmin
      go_enter Try.func46, Try.ntmps46
      go_wp2_with fail
      refine wp_region_still_lit (by kernel_rfl) (by kernel_rfl) ?_
      iterate 33 still_step
      refine wpStill_nil ?_
      go_wp2_with fail
      all_goals
        go_ret
        exact ⟨ret_bool HR.out.symm, rfl⟩
  · have d0 : decide ((i : Int) < 64) = false := by (simp; omega)
    have HR : Hid (R = false) := Lib.hid (by rw [hR.out, decide_eq_false h64]; rfl)
    clear hR
    go_enter Try.func46, Try.ntmps46
    go_wp2_with fail
    refine wp_region_still_lit (by kernel_rfl) (by kernel_rfl) ?_
    iterate 33 still_step
    refine wpStill_nil ?_
    go_wp2_with fail
    go_ret
    exact ⟨ret_bool HR.out.symm, rfl⟩
end Go.Proofs.Ytkemkplmhjmahaa
