/-
  The walk of RembShares.
-/
import Derived.Test.YtkemkplmhjmahaaRemQ
namespace Go.Proofs.Ytkemkplmhjmahaa
open Go.RowKit
set_option linter.unusedVariables false
set_option linter.unusedSimpArgs false
attribute [local irreducible] wpStill wpQuiet

set_option maxRecDepth 100000 in
set_option maxHeartbeats 2000000 in
theorem RembShares.walk (rate : Int) (v : Value) (la : Option Addr) (m lc : Nat) (zs : List Int) (w : World) (w0 : (Lit.int .u64 rate).wf = true) (r1 : Reads Try.prog w 6 46 v) (r2 : IsRow .i64 w la m lc zs) :
    Calls Try.prog 8 #[.int .u64 rate, v, .slice la m lc] w fun e w' => e = .returned (.bool true) ∧ Below w.heap.size w w' := by
  obtain ⟨a, n, cap, A, K, C, L, rfl, hcap, hcap2, hcs, hLz, hLb⟩ := costs_of r1
  obtain ⟨lb, loff, Y, la2, ll, lm, lcell, lz⟩ := row_open r2
  have hr := bounds_u64 w0
  have HY : Hid (∀ W, Below w.heap.size w W → YS W la m Y) := Lib.hid (fun W hB h0 => ⟨lb, loff, (la2 (by omega)).1, fun i hi => Below.cell' hB (la2 (by omega)).2 (lcell i (by omega))⟩)
  have HCS := Lib.hid hcs
  have HLZ := Lib.hid hLz
  have HLB := Lib.hid hLb
  clear hcs hLz hLb r1 w0 r2 la2 lcell lz
  go_enter Try.func8, Try.ntmps8
  go_wp2_with fail
  refine (alive25_any _).mono ?_
  rintro e w1 ⟨rfl, B1⟩
  go_wp2_with fail
  refine (great25_any HCS.out w1 B1 hcap hcap2 HLB.out).mono ?_
  rintro e w2 ⟨rfl, g, rfl, hg⟩
  have HG := Lib.hid hg
  clear hg
  cases g
  · obtain ⟨hn, hL30⟩ := HG.out rfl
    have HL30 := Lib.hid hL30
    have hl1000 : Hid (∀ i, L i ≤ 1000) := Lib.hid (fun i => by
      rcases Nat.lt_or_ge i n with h | h
      · have := hL30 i h; omega
      · have := HLZ.out i h; omega)
    clear hL30 HG
    have X1 := Lib.hid (HCS.out.keep B1)
    by_cases h200 : 200 < m
    · have e1 : decide ((200 : Int) < (m : Int)) = true := by (simp; omega)
      go_wp2_with fail
      go_ret
      exact ⟨rfl, B1⟩
    have e1 : decide ((200 : Int) < (m : Int)) = false := by (simp; omega)
    go_wp2_with fail
    refine (share_any w1 rate a n cap A K C L (X1.out.mono B1.size) hl1000.out (by omega) hcap (by omega) (by omega)).mono ?_
    rintro e w3 ⟨av, cv, T, rfl, hF, B3, hcv, hq⟩
    have X3 := Lib.hid ((X1.out.keep (B3.mono B1.size)).mono (Nat.le_trans B1.size B3.size))
    have B5 : Below w.heap.size w w3 := B1.trans (B3.mono B1.size)
    have HF := Lib.hid hF
    have HQ := Lib.hid hq
    clear hF hq B3 X1
    go_wp2_with fail
    refine (rshare_any w3 rate a n cap A K C L X3.out hl1000.out (by omega) hcap (by omega) (by omega)).mono ?_
    rintro e w4 ⟨q2, T2, rfl, hF2, B6, g1, g2, hq2⟩
    obtain rfl := hF2.uni HF.out
    have HQ2 := Lib.hid hq2
    have HQ3 : Hid (0 < n → ∃ q, av = some ⟨q, 0, none⟩ ∧ ∀ i, i < n → w4.cell? ⟨q, i, none⟩ = some (.int .i64 (T2.out i))) := Lib.hid (fun h0 => by
      obtain ⟨q, h1, h2, h3, h4⟩ := HQ.out h0
      exact ⟨q, h1, fun i hi => Below.cell' B6 h3 (h4 i hi)⟩)
    have B7 : Below w.heap.size w w4 := B5.trans (B6.mono B5.size)
    have en : ((n : Int) != (n : Int)) = false := by simp
    clear hF2 hq2 HF HQ B6 X3 g1 g2 B5
    go_wp2_with fail
    go_loopw [9] (fun si wr => ∃ (k d : Nat), k ≤ n ∧ si = .int .i64 k ∧ Hid (wr = w4.drewN d)) (fun si _ => n - (intOf si).toNat)
    case atStart => exact ⟨0, 0, by omega, rfl, Lib.hid rfl⟩
    case round =>
      obtain ⟨k, d, hk, rfl, hw⟩ := hrel
      by_cases hlt : k < n
      · obtain ⟨q, rfl, hc⟩ := HQ3.out (by omega)
        have c1 : wr.cell? ⟨q, k, none⟩ = some (.int .i64 (T2.out k)) := by rw [hw.out]; exact hc k hlt
        have c2 : wr.cell? ⟨q2, k, none⟩ = some (.int .i64 (T2.out k)) := by rw [hw.out]; exact HQ2.out k hlt
        have HW1 : Hid (wr.drew = w4.drewN (d + 1)) := Lib.hid (by rw [hw.out]; rfl)
        generalize T2.out k = y at *
        have ey : (y != y) = false := by simp
        clear hc
        go_wp2_with fail
        refine wp_region_still_lit (by kernel_rfl) (by kernel_rfl) ?_
        iterate 9 still_step
        refine wpStill_nil ?_
        change Exit.then _ _ _ _ wr.drew
        go_wp2_with fail
        go_roundw
        case rel => exact ⟨k + 1, d + 1, by omega, by go_num, HW1⟩
        case measure => simp [intOf] <;> omega
      · have B8 : Below w.heap.size w wr := by rw [hw.out]; exact below_drewN0 B7 d
        have HC1 := Lib.hid (cost_any HCS.out wr B8 hcap la m lc Y (HY.out wr B8) (by omega) (by omega) (by omega))
        have HC2 := Lib.hid (rcost_any HCS.out wr B8 hcap la m lc Y (HY.out wr B8) (by omega) (by omega) (by omega))
        generalize costN C L n Y m = x at *
        have ex : (x == x) = true := by simp
        obtain rfl : n = k := by omega
        go_wp2_with fail
        refine HC1.out.mono ?_
        rintro e w5 ⟨rfl, rfl⟩
        go_wp2_with fail
        refine HC2.out.mono ?_
        rintro e w5 ⟨rfl, d', rfl⟩
        go_wp2_with fail
        go_ret
        exact ⟨rfl, below_drewN0 B8 d'⟩
  · go_wp2_with fail
    go_ret
    exact ⟨rfl, B1⟩
end Go.Proofs.Ytkemkplmhjmahaa
