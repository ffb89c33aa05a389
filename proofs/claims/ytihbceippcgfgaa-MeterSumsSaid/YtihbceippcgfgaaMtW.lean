/-
  Chapter 49: the worst of readings.
-/
import Derived.Test.YtihbceippcgfgaaMtP
namespace Go.Proofs.Ytihbceippcgfgaa
open Go.RowKit
set_option linter.unusedVariables false
set_option linter.unusedSimpArgs false
attribute [local irreducible] wpStill wpQuiet

def cmp2 (x0 x1 y0 y1 : Int) : Int := if cmpI x0 y0 = 0 then cmpI x1 y1 else cmpI x0 y0
set_option maxRecDepth 100000 in
set_option maxHeartbeats 4000000 in
theorem compare_any (x0 x1 y0 y1 : Int) (p q c d : Nat) (w : World) (a0 : w.cell? ⟨p, 0, none⟩ = some (.int .i64 x0)) (a1 : w.cell? ⟨p, 1, none⟩ = some (.int .i64 x1)) (b0 : w.cell? ⟨q, 0, none⟩ = some (.int .i64 y0)) (b1 : w.cell? ⟨q, 1, none⟩ = some (.int .i64 y1)) (hc : 2 ≤ c) (hd : 2 ≤ d) :
    Calls Try.prog 101 #[.slice (some ⟨p, 0, none⟩) 2 c, .slice (some ⟨q, 0, none⟩) 2 d] w fun e w' => e = .returned (.int .i64 (cmp2 x0 x1 y0 y1)) ∧ w' = w := by
  have H0 := Lib.hid (fun W => cmp_any x0 y0 W)
  have H1 := Lib.hid (fun W => cmp_any x1 y1 W)
  have hT : Hid (cmp2 x0 x1 y0 y1 = if cmpI x0 y0 = 0 then cmpI x1 y1 else cmpI x0 y0) := Lib.hid rfl
  generalize cmpI x0 y0 = r0 at *
  generalize cmpI x1 y1 = r1 at *
  go_enter Try.func101, Try.ntmps101
  go_wp2_with fail
  go_loopw [11] (fun si wr => (si = .int .i64 0 ∨ (si = .int .i64 1 ∧ Hid (r0 = 0)) ∨ (si = .int .i64 2 ∧ Hid (r0 = 0) ∧ Hid (r1 = 0))) ∧ wr = w) (fun si _ => 2 - (intOf si).toNat)
  case atStart => exact ⟨.inl rfl, rfl⟩
  case round =>
    obtain ⟨rfl | ⟨rfl, h0⟩ | ⟨rfl, h0, h1⟩, rfl⟩ := hrel
    · go_wp2_with fail
      refine (H0.out _).mono ?_
      rintro e w1 ⟨rfl, rfl⟩
      rcases (show r0 = 0 ∨ r0 ≠ 0 by omega) with h | h
      · have e1 : (r0 != 0) = false := by simp [h]
        have e2 : (r0 == 0) = true := by simp [h]
        have hz := Lib.hid h
        clear h
        go_wp2_with fail
        go_roundw
        case rel => exact ⟨.inr (.inl ⟨rfl, hz⟩), trivial⟩
        case measure => simp [intOf]
      · have e1 : (r0 != 0) = true := by simp [h]
        have e2 : (r0 == 0) = false := by simp [h]
        rw [if_neg h] at hT
        clear h
        go_wp2_with fail
        go_ret
        exact ⟨by rw [hT.out]; rfl, rfl⟩
    · rw [if_pos h0.out] at hT
      go_wp2_with fail
      refine (H1.out _).mono ?_
      rintro e w1 ⟨rfl, rfl⟩
      rcases (show r1 = 0 ∨ r1 ≠ 0 by omega) with h | h
      · have e1 : (r1 != 0) = false := by simp [h]
        have e2 : (r1 == 0) = true := by simp [h]
        have hz := Lib.hid h
        clear h
        go_wp2_with fail
        go_roundw
        case rel => exact ⟨.inr (.inr ⟨rfl, h0, hz⟩), trivial⟩
        case measure => simp [intOf]
      · have e1 : (r1 != 0) = true := by simp [h]
        have e2 : (r1 == 0) = false := by simp [h]
        clear h
        go_wp2_with fail
        go_ret
        exact ⟨by rw [hT.out]; rfl, rfl⟩
    · rw [if_pos h0.out, h1.out] at hT
      go_wp2_with fail
      go_ret
      exact ⟨by rw [hT.out]; rfl, rfl⟩
/-- readings that lie below B -/
structure RS (B : Nat) (w : World) (a : Option Addr) (n : Nat) (R : Nat → Nat → Int) : Prop where
  at_ : 0 < n → ∃ b off, a = some ⟨b, off, none⟩ ∧ b < B ∧ ∀ i, i < n → ∀ j, j < 5 → w.cell? ⟨b, off + i * 5 + j, none⟩ = some (.int .i64 (R i j))
  bd : ∀ i j, -9223372036854775808 ≤ R i j ∧ R i j ≤ 9223372036854775807
theorem RS.keep {B : Nat} {w w' : World} {a : Option Addr} {n : Nat} {R : Nat → Nat → Int} (h : RS B w a n R) (hb : Below B w w') : RS B w' a n R := by
  refine ⟨fun h0 => ?_, h.bd⟩
  obtain ⟨b, off, h1, h2, h3⟩ := h.at_ h0
  exact ⟨b, off, h1, h2, fun i hi j hj => Below.cell' hb h2 (h3 i hi j hj)⟩
/-- the worst of the first k -/
def worI (R : Nat → Nat → Int) : Nat → Int
  | 0 => -1
  | k + 1 => if 0 ≤ worI R k ∧ cmp2 (R k 4) (R k 3) (R (worI R k).toNat 4) (R (worI R k).toNat 3) ≤ 0 then worI R k else k
theorem worI_bd (R : Nat → Nat → Int) (k : Nat) : -1 ≤ worI R k ∧ worI R k < k := by
  induction k with
  | zero => unfold worI; omega
  | succ k ih => unfold worI; split <;> omega
set_option maxRecDepth 100000 in
set_option maxHeartbeats 4000000 in
theorem worst_any {B : Nat} {w : World} {a : Option Addr} {n cap : Nat} {R : Nat → Nat → Int} (h : RS B w a n R) (hB : B ≤ w.heap.size) (hn : n ≤ 1000) (hcap : n ≤ cap) :
    Calls Try.prog 64 #[.slice a n cap] w fun e w' => e = .returned (.int .i64 (worI R n)) ∧ Below w.heap.size w w' := by
  have H := Lib.hid h
  clear h
  go_enter Try.func64, Try.ntmps64
  go_wp2_with fail
  go_loopw [3, 8] (fun sw si wr => ∃ (k : Nat), k ≤ n ∧ si = .int .i64 k ∧ sw = .int .i64 (worI R k) ∧ Hid (Below w.heap.size w wr)) (fun _ si _ => n - (intOf si).toNat)
  case atStart => exact ⟨0, by omega, rfl, rfl, Lib.hid (Below.refl _ _)⟩
  case round =>
    obtain ⟨k, hk, rfl, rfl, HB⟩ := hrel
    by_cases hlt : k < n
    · have HR := Lib.hid (H.out.keep (HB.out.mono hB))
      obtain ⟨b, off, rfl, hb, hcc⟩ := HR.out.at_ (by omega)
      have m0 : wr.cell? ⟨b, off + k * 5, none⟩ = some (.int .i64 (R k 0)) := hcc k hlt 0 (by omega)
      have m1 := hcc k hlt 1 (by omega)
      have m2 := hcc k hlt 2 (by omega)
      have m3 := hcc k hlt 3 (by omega)
      have m4 := hcc k hlt 4 (by omega)
      have hbd := worI_bd R k
      have hNext : Hid (worI R (k + 1) = if 0 ≤ worI R k ∧ cmp2 (R k 4) (R k 3) (R (worI R k).toNat 4) (R (worI R k).toNat 3) ≤ 0 then worI R k else k) := Lib.hid rfl
      have HCC := Lib.hid hcc
      clear hcc
      rcases (show worI R k = -1 ∨ 0 ≤ worI R k by omega) with h0 | h0
      · rw [if_neg (by omega)] at hNext
        have e0 : decide (0 ≤ worI R k) = false := by (simp; omega)
        generalize worI R k = wk at *
        clear h0 hbd
        go_wp2_with fail
        generalize hW : wr.alloc _ = W1
        have g1 : W1.heap[wr.heap.size]? = some (.cells #[.int .i64 (R k 0), .int .i64 (R k 1), .int .i64 (R k 2), .int .i64 (R k 3), .int .i64 (R k 4)] 100 (0, 0)) := by rw [← hW]; exact alloc_blk_new
        have HB1 : Hid (Below w.heap.size w W1) := Lib.hid (by rw [← hW]; exact HB.out.alloc HB.out.size _)
        clear hW m0 m1 m2 m3 m4 g1
        refine wp_region_still_lit (by kernel_rfl) (by kernel_rfl) ?_
        iterate 22 still_step
        refine wpStill_nil ?_
        change Exit.then _ _ _ _ W1.drew
        go_wp2_with fail
        go_roundw
        case rel => exact ⟨k + 1, by omega, by go_num, by rw [hNext.out], Lib.hid HB1.out.drew⟩
        case measure => simp [intOf] <;> omega
      · obtain ⟨m, hm⟩ := Int.eq_ofNat_of_zero_le h0
        rw [hm] at hNext hbd ⊢
        rw [Int.toNat_natCast] at hNext
        have hmn : m < n := by omega
        have x3 := HCC.out m hmn 3 (by omega)
        have x4 := HCC.out m hmn 4 (by omega)
        clear h0 hm
        go_wp2_with fail
        generalize hW : wr.alloc _ = W1
        have g1 : W1.heap[wr.heap.size]? = some (.cells #[.int .i64 (R k 0), .int .i64 (R k 1), .int .i64 (R k 2), .int .i64 (R k 3), .int .i64 (R k 4)] 100 (0, 0)) := by rw [← hW]; exact alloc_blk_new
        have HB1 : Hid (Below w.heap.size w W1) := Lib.hid (by rw [← hW]; exact HB.out.alloc HB.out.size _)
        have hbw : b < wr.heap.size := by have := HB.out.size; omega
        have y3 : W1.cell? ⟨b, off + m * 5 + 3, none⟩ = some (.int .i64 (R m 3)) := by rw [← hW]; exact Below.cell' ((Below.refl _ wr).alloc (Nat.le_refl _) _) hbw x3
        have y4 : W1.cell? ⟨b, off + m * 5 + 4, none⟩ = some (.int .i64 (R m 4)) := by rw [← hW]; exact Below.cell' ((Below.refl _ wr).alloc (Nat.le_refl _) _) hbw x4
        clear hW m0 m1 m2 m3 m4 x3 x4
        generalize wr.heap.size = g at *
        have r3 : W1.cell? ⟨g, 3, none⟩ = some (.int .i64 (R k 3)) := cell_blk g1
        have r4 : W1.cell? ⟨g, 4, none⟩ = some (.int .i64 (R k 4)) := cell_blk g1
        clear g1
        have e1 : decide ((0 : Int) ≤ (m : Int)) = true := by (simp <;> omega)
        rcases (show cmp2 (R k 4) (R k 3) (R m 4) (R m 3) ≤ 0 ∨ ¬ cmp2 (R k 4) (R k 3) (R m 4) (R m 3) ≤ 0 by omega) with hc | hc
        · rw [if_pos ⟨by omega, hc⟩] at hNext
          have e2 : decide (cmp2 (R k 4) (R k 3) (R m 4) (R m 3) ≤ 0) = true := by simpa using hc
          clear hc
          go_region_held3 (fun w' => w'.cell? ⟨g, 4, none⟩ = some (.int .i64 (R k 4)) ∧ w'.cell? ⟨g, 3, none⟩ = some (.int .i64 (R k 3)) ∧ w'.cell? ⟨b, off + m * 5 + 4, none⟩ = some (.int .i64 (R m 4)) ∧ w'.cell? ⟨b, off + m * 5 + 3, none⟩ = some (.int .i64 (R m 3))) (go_keep)
            (first | (go_at_call 101; refine (compare_any (R k 4) (R k 3) (R m 4) (R m 3) _ _ 2 2 _ (by simp) (by simp) (by simp) (by simp) (by omega) (by omega)).mono ?_; rintro e w' ⟨rfl, rfl⟩))
          all_goals
            go_wp2_with fail
            go_roundw
            case rel => exact ⟨k + 1, by omega, by go_num, by rw [hNext.out], Lib.hid (by (repeat (first | exact HB1.out | refine Below.alloc ?_ (by have := HB1.out.size; simp; omega) _ | refine Below.drew ?_ | refine below_drewN0 ?_ _)))⟩
            case measure => simp [intOf] <;> omega
        · rw [if_neg (fun h => hc h.2)] at hNext
          have e2 : decide (cmp2 (R k 4) (R k 3) (R m 4) (R m 3) ≤ 0) = false := by simpa using hc
          clear hc
          go_region_held3 (fun w' => w'.cell? ⟨g, 4, none⟩ = some (.int .i64 (R k 4)) ∧ w'.cell? ⟨g, 3, none⟩ = some (.int .i64 (R k 3)) ∧ w'.cell? ⟨b, off + m * 5 + 4, none⟩ = some (.int .i64 (R m 4)) ∧ w'.cell? ⟨b, off + m * 5 + 3, none⟩ = some (.int .i64 (R m 3))) (go_keep)
            (first | (go_at_call 101; refine (compare_any (R k 4) (R k 3) (R m 4) (R m 3) _ _ 2 2 _ (by simp) (by simp) (by simp) (by simp) (by omega) (by omega)).mono ?_; rintro e w' ⟨rfl, rfl⟩))
          all_goals
            go_wp2_with fail
            go_roundw
            case rel => exact ⟨k + 1, by omega, by go_num, by rw [hNext.out], Lib.hid (by (repeat (first | exact HB1.out | refine Below.alloc ?_ (by have := HB1.out.size; simp; omega) _ | refine Below.drew ?_ | refine below_drewN0 ?_ _)))⟩
            case measure => simp [intOf] <;> omega
    · obtain rfl : n = k := by omega
      go_wp2_with fail
      go_ret
      exact ⟨rfl, HB.out⟩
end Go.Proofs.Ytihbceippcgfgaa
