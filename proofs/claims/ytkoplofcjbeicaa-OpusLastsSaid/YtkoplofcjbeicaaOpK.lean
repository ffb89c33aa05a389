/-
  Chapter 43: no packet that is read lasts longer than may be (OpusLasts).
-/
import Derived.Test.YtkoplofcjbeicaaOpJ
namespace Go.Proofs.Ytkoplofcjbeicaa
open Go.RowKit
set_option linter.unusedVariables false
set_option linter.unusedSimpArgs false
attribute [local irreducible] wpStill wpQuiet MixC.wpMix

theorem sm_step (P : Nat → List Int) (i : Nat) : sm (fun i => (P i).length) (i + 1) = sm (fun i => (P i).length) i + (P i).length := rfl
set_option maxRecDepth 100000 in
set_option maxHeartbeats 8000000 in
theorem OpusLasts.walk (a : Option Addr) (len cap : Nat) (zs : List Int) (w : World) (r : IsRow .u8 w a len cap zs) :
    Calls Try.prog 6 #[.slice a len cap] w fun e w' => e = .returned (.bool true) ∧ Below w.heap.size w w' := by
  obtain ⟨Z, hs⟩ := BS.of_row r
  have HS := Lib.hid hs
  have hle := hs.le
  have hmx := hs.max
  clear hs r
  go_enter Try.func6, Try.ntmps6
  go_wp2_with fail
  refine (alive43 w).mono ?_
  rintro e w1 ⟨rfl, hb1⟩
  have HB1 := Lib.hid hb1
  clear hb1
  by_cases hlen : 5000 < len
  · have t1 : decide ((5000 : Int) < (len : Int)) = true := by simp; omega
    have t1' : decide (5000 < len) = true := by simp; omega
    go_wp2_with fail
    go_ret
    exact ⟨rfl, HB1.out⟩
  · have t1 : decide ((5000 : Int) < (len : Int)) = false := by simp; omega
    have t1' : decide (5000 < len) = false := by simp; omega
    go_wp2_with fail
    have hn : len ≤ 5000 := by omega
    refine (oread len cap a Z w1 ((HS.out.keep HB1.out).mono HB1.out.size) hn).mono ?_
    rintro e w2 ⟨hb2, hx⟩
    have HB2 := Lib.hid (HB1.out.trans (hb2.mono HB1.out.size))
    clear hb2
    rcases hx with ⟨k, hk, rfl, -, -⟩ | ⟨d0, d1, d2, st, a9, q, c9, p, P, vs, rfl, hR, h1, h48, hm, hP, hsum, -, -⟩
    · have tk : (k == 0) = false := by rcases hk with rfl | rfl <;> rfl
      have tk' : (k != 0) = true := by rcases hk with rfl | rfl <;> rfl
      have tk2 : decide (k = 0) = false := by rcases hk with rfl | rfl <;> rfl
      clear hk
      go_wp2_with fail
      go_ret
      exact ⟨rfl, HB2.out.alloc (HB2.out.size) _⟩
    · have HR := Lib.hid hR
      have HM := Lib.hid hm
      have HP := Lib.hid hP
      have HSM := Lib.hid hsum
      obtain ⟨lq, lm⟩ := own_cap hR.own
      clear hR hm hP hsum
      go_wp2_with fail
      generalize hW : World.alloc w2 _ = W
      have bw : Below w2.heap.size w2 W := by rw [← hW]; exact (Below.refl _ _).alloc (Nat.le_refl _) _
      have bx : W.heap[w2.heap.size]? = some (.cells #[.int .i64 d0, .int .i64 d1, .bool st, .int .i64 d2, .slice a9 q c9, .int .i64 (p : Nat)] 48 (0, 0)) := by rw [← hW]; exact alloc_blk_new
      have k3 : W.cell? ⟨w2.heap.size, 3, none⟩ = some (.int .i64 d2) := cell_blk bx
      have k4 : W.cell? ⟨w2.heap.size, 4, none⟩ = some (.slice a9 q c9) := cell_blk bx
      have k5 : W.cell? ⟨w2.heap.size, 5, none⟩ = some (.int .i64 (p : Nat)) := cell_blk bx
      have HRW := Lib.hid (HR.out.below bw)
      have HBW := Lib.hid (HB2.out.trans (bw.mono HB2.out.size))
      clear hW bw bx
      go_loopw [5, 6] (fun ss si wx => ∃ i : Nat, i ≤ q ∧ si = .int .i64 i ∧ ss = .int .i64 ((sm (fun i => (P i).length) i : Nat) : Int) ∧ Hid (wx = W)) (fun _ si _ => q - (intOf si).toNat)
      case atStart => exact ⟨0, by omega, rfl, rfl, Lib.hid rfl⟩
      case round =>
        obtain ⟨i, hi, rfl, rfl, HE⟩ := hrel
        obtain rfl := HE.out
        by_cases hlt : i < q
        · obtain ⟨g, cc, he, -, gl, gc, -⟩ := own_pos HRW.out.own (by omega)
          cases he
          have q0 := own_cell HRW.out.own (show ((List.range q).map vs)[i]? = some (vs i) by simp [hlt])
          obtain ⟨ai, ci, hvi, -⟩ := (HRW.out.each i hlt).str (by have := HP.out i hlt; omega) (Below.refl _ _)
          obtain ⟨m, hm⟩ : ∃ m, m = (P i).length := ⟨_, rfl⟩
          obtain ⟨s, hs⟩ : ∃ s, s = sm (fun i => (P i).length) i := ⟨_, rfl⟩
          rw [hvi, ← hm] at q0
          have hle2 := sm_le (s := fun i => (P i).length) (show i + 1 ≤ q by omega)
          rw [sm_step, ← hm, ← hs] at hle2
          have m1 : m ≤ 1275 := by have := HP.out i hlt; omega
          have s1 : s + m ≤ 5000 := by have := HSM.out; omega
          have t2 : decide ((1275 : Int) < (m : Int)) = false := by simp; omega
          have t2' : decide (1275 < m) = false := by simp; omega
          rw [← hs]
          have HMM := Lib.hid hm
          have HSS := Lib.hid hs
          clear hle2 hvi hm hs
          go_wp2_with fail
          go_roundw
          case rel => exact ⟨i + 1, by omega, by go_num, by rw [sm_step, ← HSS.out, ← HMM.out]; rfl, Lib.hid (by trivial)⟩
          case measure => simp [intOf] <;> omega
        · obtain rfl : i = q := by omega
          obtain ⟨s, hs⟩ : ∃ s, s = sm (fun i => (P i).length) i := ⟨_, rfl⟩
          rw [← hs]
          have hss : p + s + 1 ≤ len := by have := HSM.out; omega
          have t2 : decide (wrap64 ((i : Int) * d2) ≤ 960) = true := by simp [HM.out]
          have t3 : decide ((1 : Int) ≤ (i : Int)) = true := by simp; omega
          have t3' : decide (1 ≤ i) = true := by simp; omega
          have t4 : decide ((s : Int) + (p : Int) < (len : Int)) = true := by simp; omega
          clear hs
          go_wp2_with fail
          go_ret
          exact ⟨rfl, HBW.out⟩
end Go.Proofs.Ytkoplofcjbeicaa
