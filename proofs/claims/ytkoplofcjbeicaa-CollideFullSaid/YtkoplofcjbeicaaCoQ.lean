/-
  Chapter 44: no more than 64 sources are known, and 16 places conflict (CollideFull).
-/
import Derived.Test.YtkoplofcjbeicaaCoF
import Derived.Test.YtkoplofcjbeicaaCoP
namespace Go.Proofs.Ytkoplofcjbeicaa
open Go.RowKit
set_option linter.unusedVariables false
set_option linter.unusedSimpArgs false
attribute [local irreducible] wpStill wpQuiet MixC.wpMix

/-- the first k sources, each at its own address -/
def srcF (k : Nat) : Int → Option Value := fun x => if 0 ≤ x ∧ x < (k : Int) then some (pv (x, 0) 0) else none
theorem srcF_push (k : Nat) : setAt (srcF k) (k : Int) (some (pv ((k : Int), 0) 0)) = srcF (k + 1) := by
  funext x
  unfold setAt srcF
  by_cases e : x = (k : Int)
  · rw [if_pos e, if_pos ⟨by omega, by omega⟩, e]
  · rw [if_neg e]
    by_cases h : 0 ≤ x ∧ x < (k : Int)
    · rw [if_pos h, if_pos ⟨h.1, by omega⟩]
    · rw [if_neg h, if_neg (fun h2 => h ⟨h2.1, by omega⟩)]
theorem srcF_none {k i : Nat} (h : k ≤ i) : srcF k (i : Int) = none := by unfold srcF; rw [if_neg (by omega)]
theorem srcF_zero : srcF 0 = fun _ => none := by funext x; unfold srcF; rw [if_neg (by omega)]
theorem winC_zero (lo : Nat) : winC lo 0 = fun _ => none := by funext x; unfold winC; rw [if_neg (by omega)]
theorem win_fresh {lo n i : Nat} (h : lo + n ≤ i) (hi : i ≤ 60) : Fresh 100 i (winC lo n) := fun x v hx hv => by
  obtain ⟨h1, h2, h3⟩ := winC_some hv
  exact ⟨x.2, h1, by omega, by omega, by omega⟩
theorem port_ok {i : Nat} (h : i < 65536) : plok ((0 : Int), (i : Int)) := by
  have m1 : IntKind.u16.min = 0 := rfl
  have m2 : IntKind.u16.max = 65535 := rfl
  refine ⟨(by decide : (Lit.int .u32 0).wf = true), ?_⟩
  show (Lit.int .u16 (i : Int)).wf = true
  simp only [Lit.wf, m1, m2, Bool.and_eq_true, decide_eq_true_eq]
  omega
theorem u32_ok {i : Nat} (h : i < 65536) : (Lit.int .u32 (i : Int)).wf = true := by
  have m1 : IntKind.u32.min = 0 := rfl
  have m2 : IntKind.u32.max = 4294967295 := rfl
  simp only [Lit.wf, m1, m2, Bool.and_eq_true, decide_eq_true_eq]
  omega
/-- the i-th packet of its own number: one place more, or the window moves on -/
theorem take_win (B g ms mc N : Nat) (S : Int → Option Value) (ns i : Nat) (w : World) (h : BK B g ms mc N 1000 100 S ns (winC (i - 16) (min i 16)) (min i 16) w) (hN : N < 10000) (hi : i < 60) :
    Calls Try.prog 36 #[.pointer (some ⟨g, 0, none⟩), .int .u32 1000, .agg #[.int .u32 0, .int .u16 (i : Nat)], .int .i64 (i : Nat)] w (TkP B g ms mc (N + 1) 1000 100 S ns (winC (i + 1 - 16) (min (i + 1) 16)) (min (i + 1) 16) 3 w) := by
  refine take_own B g ms mc N 1000 100 S ns (winC (i - 16) (min i 16)) (min i 16) w h ((0 : Int), (i : Int)) i (by omega) (win_fresh (by omega) (by omega)) (N + 1) _ _ 3 (fun w1 h1 => ?_)
  by_cases h16 : i < 16
  · have e1 : i - 16 = 0 := by omega
    have e2 : min i 16 = i := by omega
    have e3 : i + 1 - 16 = 0 := by omega
    have e4 : min (i + 1) 16 = i + 1 := by omega
    rw [e1, e2] at h1
    rw [e3, e4]
    have hn : winC 0 i ((0 : Int), (i : Int)) = none := by
      have := winC_next 0 i
      rwa [Nat.zero_add] at this
    have hm := mine_room B g ms mc N 1000 100 S ns (winC 0 i) i w1 h1 hN ((0 : Int), (i : Int)) (port_ok (by omega)) i (by omega)
    rw [hn] at hm
    have hp := winC_push 0 i
    rw [Nat.zero_add] at hp
    rw [hp] at hm
    exact hm
  · have e2 : min i 16 = 16 := by omega
    have e3 : i + 1 - 16 = i - 16 + 1 := by omega
    have e4 : min (i + 1) 16 = 16 := by omega
    rw [e2] at h1
    rw [e3, e4]
    have hm := mine_full B g ms mc N 1000 100 S ns (i - 16) w1 h1 hN (by omega)
    rw [show i - 16 + 16 = i by omega] at hm
    exact hm
set_option maxRecDepth 100000 in
set_option maxHeartbeats 8000000 in
theorem CollideFull.walk (n m : Int) (w : World) (w0 : (Lit.int .u8 n).wf = true) (w1 : (Lit.int .u8 m).wf = true) :
    Calls Try.prog 9 #[.int .u8 n, .int .u8 m] w fun e w' => e = .returned (.bool true) ∧ Below w.heap.size w w' := by
  have hn := bounds_u8 w0
  have hm := bounds_u8 w1
  obtain ⟨n, rfl⟩ := Int.eq_ofNat_of_zero_le hn.1
  obtain ⟨m, rfl⟩ := Int.eq_ofNat_of_zero_le hm.1
  go_enter Try.func9, Try.ntmps9
  go_wp2_with fail
  refine (alive44 w).mono ?_
  rintro e V1 ⟨rfl, b1⟩
  have B1 := Lib.hid b1
  clear b1
  go_wp2_with fail
  refine (new_book 1000 100 100 V1 (.inl ⟨by omega, rfl⟩)).mono ?_
  rintro e V2 ⟨rfl, hb, b2⟩
  obtain ⟨g, hg⟩ : ∃ g, g = V1.heap.size + 1 + 1 := ⟨_, rfl⟩
  obtain ⟨mc, hmc⟩ : ∃ mc, mc = V1.heap.size + 1 := ⟨_, rfl⟩
  obtain ⟨ms, hms⟩ : ∃ ms, ms = V1.heap.size := ⟨_, rfl⟩
  have hb' : BK V1.heap.size g ms mc 0 1000 100 (srcF 0) 0 (winC 0 0) 0 V2 := by rw [hg, hmc, hms, srcF_zero, winC_zero]; exact hb
  rw [← hg]
  have HB := Lib.hid hb'
  have B2 := Lib.hid (B1.out.trans (b2.mono B1.out.size))
  have LM : Hid (w.heap.size ≤ ms ∧ w.heap.size ≤ mc) := Lib.hid ⟨by have := B1.out.size; omega, by have := B1.out.size; omega⟩
  clear hb hb' b2 hg hmc hms
  go_wp2_with fail
  go_loopw [6] (fun s6 wx => ∃ i : Nat, i ≤ n ∧ s6 = .int .i64 i ∧ Hid (BK V1.heap.size g ms mc i 1000 100 (srcF (min i 64)) (min i 64) (winC 0 0) 0 wx) ∧ Hid (Below w.heap.size w wx)) (fun s6 _ => n - (intOf s6).toNat)
  case atStart => exact ⟨0, by omega, rfl, HB, B2⟩
  case round =>
    clear HB B2
    obtain ⟨i, hi, rfl, HB, HW⟩ := hrel
    by_cases hlt : i < n
    · have t1 : decide ((i : Int) < (n : Int)) = true := by simp; omega
      have q1 : IntKind.u32.wrap (i : Int) = (i : Int) := by rw [IntKind.wrap_u32]; omega
      by_cases h64 : i < 64
      · have t2 : decide ((i : Int) < 64) = true := by simp; omega
        have t3 : decide ((64 : Int) ≤ (i : Int)) = false := by simp; omega
        have HT := Lib.hid (take_src V1.heap.size g ms mc i 1000 100 (srcF (min i 64)) (min i 64) (winC 0 0) 0 wr HB.out (by omega) i ((i : Int), 0) 0 (by omega) (by rw [winC_zero]; exact fresh_nil _ _) (by omega) (u32_ok (by omega)) 0 _ _ (.new (srcF_none (by omega)) (by omega)))
        go_wp2_with fail
        refine HT.out.mono ?_
        rintro e w2 ⟨rfl, hb, kq⟩
        have HB2 : Hid (BK V1.heap.size g ms mc (i + 1) 1000 100 (srcF (min (i + 1) 64)) (min (i + 1) 64) (winC 0 0) 0 w2) := Lib.hid (by
          have e1 : min i 64 = i := by omega
          have e2 : min (i + 1) 64 = i + 1 := by omega
          rw [e1, srcF_push] at hb
          rw [e2]; exact hb)
        have HW2 := Lib.hid (HW.out.trans (kq.below LM.out.1 LM.out.2 HW.out.size))
        clear hb kq HT
        go_wp2_with fail
        go_roundw
        case rel => exact ⟨i + 1, by omega, by go_num, HB2, HW2⟩
        case measure => simp [intOf] <;> omega
      · have t2 : decide ((i : Int) < 64) = false := by simp; omega
        have t3 : decide ((64 : Int) ≤ (i : Int)) = true := by simp; omega
        have HT := Lib.hid (take_src V1.heap.size g ms mc i 1000 100 (srcF (min i 64)) (min i 64) (winC 0 0) 0 wr HB.out (by omega) i ((i : Int), 0) 0 (by omega) (by rw [winC_zero]; exact fresh_nil _ _) (by omega) (u32_ok (by omega)) 4 _ _ (.full (srcF_none (by omega)) (by omega)))
        go_wp2_with fail
        refine HT.out.mono ?_
        rintro e w2 ⟨rfl, hb, kq⟩
        have HB2 : Hid (BK V1.heap.size g ms mc (i + 1) 1000 100 (srcF (min (i + 1) 64)) (min (i + 1) 64) (winC 0 0) 0 w2) := Lib.hid (by
          have e1 : min i 64 = 64 := by omega
          have e2 : min (i + 1) 64 = 64 := by omega
          rw [e1] at hb
          rw [e2]; exact hb)
        have HW2 := Lib.hid (HW.out.trans (kq.below LM.out.1 LM.out.2 HW.out.size))
        clear hb kq HT
        go_wp2_with fail
        go_roundw
        case rel => exact ⟨i + 1, by omega, by go_num, HB2, HW2⟩
        case measure => simp [intOf] <;> omega
    · obtain rfl : n = i := by omega
      go_wp2_with fail
      have HC0 : Hid (BK V1.heap.size g ms mc (n + 0) 1000 100 (srcF (min n 64)) (min n 64) (winC (0 - 16) (min 0 16)) (min 0 16) wr) := HB
      clear hlt hi
      obtain ⟨k, hk⟩ : ∃ k, k = m % 60 := ⟨_, rfl⟩
      have hkm : (m : Int) % 60 = (k : Int) := by omega
      have hk60 : k < 60 := by omega
      clear hk
      go_loopw [8] (fun s8 wx => ∃ i : Nat, i ≤ k ∧ s8 = .int .i64 i ∧ Hid (BK V1.heap.size g ms mc (n + i) 1000 100 (srcF (min n 64)) (min n 64) (winC (i - 16) (min i 16)) (min i 16) wx) ∧ Hid (Below w.heap.size w wx)) (fun s8 _ => k - (intOf s8).toNat)
      case atStart => exact ⟨0, by omega, rfl, HC0, HW⟩
      case round =>
        clear HC0 HB HW
        obtain ⟨i, hi, rfl, HB, HW⟩ := hrel
        by_cases hlt : i < k
        · have t1 : decide ((i : Int) < (k : Int)) = true := by simp; omega
          have q1 : IntKind.u16.wrap (i : Int) = (i : Int) := by rw [IntKind.wrap_u16]; omega
          have HT := Lib.hid (take_win V1.heap.size g ms mc (n + i) (srcF (min n 64)) (min n 64) i wr HB.out (by omega) (by omega))
          go_wp2_with fail
          refine HT.out.mono ?_
          rintro e w2 ⟨rfl, hb, kq⟩
          have HB2 : Hid (BK V1.heap.size g ms mc (n + (i + 1)) 1000 100 (srcF (min n 64)) (min n 64) (winC (i + 1 - 16) (min (i + 1) 16)) (min (i + 1) 16) w2) := Lib.hid hb
          have HW2 := Lib.hid (HW.out.trans (kq.below LM.out.1 LM.out.2 HW.out.size))
          clear hb kq HT
          go_wp2_with fail
          go_roundw
          case rel => exact ⟨i + 1, by omega, by go_num, HB2, HW2⟩
          case measure => simp [intOf] <;> omega
        · obtain rfl : k = i := by omega
          clear hlt hi
          have t1 : decide ((k : Int) < (k : Int)) = false := by simp
          go_wp2_with fail
          refine (conflicts_any V1.heap.size g ms mc (n + k) 1000 100 (srcF (min n 64)) (min n 64) (winC (k - 16) (min k 16)) (min k 16) wr HB.out 60 (by omega) (fun x v hx hv => ?_) (fun x v hv => ⟨_, (winC_some hv).1⟩) (by omega)).mono ?_
          · obtain ⟨h1, h2, h3⟩ := winC_some hv
            exact ⟨x.2, h1, by omega, by omega, by omega⟩
          rintro e w5 ⟨b5, M, hM, -, hx⟩
          have HW5 := Lib.hid (HW.out.trans (b5.mono HW.out.size))
          obtain rfl := sorted_win hM (by omega)
          obtain ⟨a, c, rfl, hrow⟩ : ∃ a c, e = .returned (.slice a (min k 16) c) ∧ (0 < k → ∃ b, a = some ⟨b, 0, none⟩ ∧ TRow w5 b (min k 16) c (fun i => (winL (k - 16) (min k 16))[i]!)) := by
            rcases hx with ⟨h0, rfl⟩ | ⟨b, c, h1, -, rfl, h3⟩
            · have := winL_len (k - 16) (min k 16)
              rw [h0] at this
              have hk0 : min k 16 = 0 := by simpa using this.symm
              exact ⟨none, 0, by rw [hk0], fun h => by omega⟩
            · rw [winL_len] at h3 ⊢
              exact ⟨some ⟨b, 0, none⟩, c, rfl, fun _ => ⟨b, rfl, h3⟩⟩
          have HROW := Lib.hid hrow
          obtain ⟨z, hz⟩ : ∃ z, z = min k 16 := ⟨_, rfl⟩
          have HZ := Lib.hid hz
          rw [← hz]
          have hz16 : z ≤ 16 := by omega
          clear hrow hx b5 hM HB
          have t2 : (decide ((16 : Int) < (k : Int)) = true ∧ z = 16) ∨ (decide ((16 : Int) < (k : Int)) = false ∧ z = k) := by
            by_cases h : 16 < k
            · exact .inl ⟨by simp; omega, by omega⟩
            · exact .inr ⟨by simp; omega, by omega⟩
          clear hz
          rcases t2 with ⟨t3, rfl⟩ | ⟨t3, rfl⟩
          · have hk16 : 16 < k := by have := of_decide_eq_true t3; omega
            go_wp2_with fail
            go_loopw [11] (fun s11 wx => ∃ i : Nat, i ≤ 16 ∧ s11 = .int .i64 i ∧ Hid (wx = w5)) (fun s11 _ => 16 - (intOf s11).toNat)
            case atStart => exact ⟨0, by omega, rfl, Lib.hid rfl⟩
            case round =>
              obtain ⟨i, hi, rfl, HE⟩ := hrel
              obtain rfl := HE.out
              by_cases hlt : i < 16
              · have t5 : decide ((i : Int) < ((16 : Nat) : Int)) = true := by simp; omega
                have t5' : decide ((i : Int) < (16 : Int)) = true := by simp; omega
                obtain ⟨b, rfl, hrw⟩ := HROW.out (by omega)
                have hc := (hrw.cell i (by omega)).2
                have hg := winL_get (k - 16) (min k 16) i (by omega)
                simp only [hg] at hc
                have hc' : wr.cell? ⟨b, i * 2 + 1, none⟩ = some (.int .u16 ((k - 16 + i : Nat) : Int)) := by rw [hc]
                have q3 : (k : Int) - 16 + (i : Int) = ((k - 16 + i : Nat) : Int) := by omega
                have hii : (i : Int) < ((16 : Nat) : Int) := by omega
                have hle := hrw.le
                clear hrw hc hg
                go_wp2_with fail
                go_roundw
                case rel => exact ⟨i + 1, by omega, by go_num, Lib.hid (by trivial)⟩
                case measure => simp [intOf] <;> omega
              · obtain rfl : i = 16 := by omega
                go_wp2_with fail
                go_ret
                exact ⟨rfl, HW5.out⟩
          · have hk16 : z ≤ 16 := by omega
            go_wp2_with fail
            go_loopw [11] (fun s11 wx => ∃ i : Nat, i ≤ z ∧ s11 = .int .i64 i ∧ Hid (wx = w5)) (fun s11 _ => z - (intOf s11).toNat)
            case atStart => exact ⟨0, by omega, rfl, Lib.hid rfl⟩
            case round =>
              obtain ⟨i, hi, rfl, HE⟩ := hrel
              obtain rfl := HE.out
              by_cases hlt : i < z
              · have t5 : decide ((i : Int) < ((z : Nat) : Int)) = true := by simp; omega
                have t5' : decide ((i : Int) < (z : Int)) = true := by simp; omega
                obtain ⟨b, rfl, hrw⟩ := HROW.out (by omega)
                have hc := (hrw.cell i (by omega)).2
                have hg := winL_get (z - 16) (min z 16) i (by omega)
                simp only [hg] at hc
                have hc' : wr.cell? ⟨b, i * 2 + 1, none⟩ = some (.int .u16 (i : Int)) := by rw [hc]; congr 2; omega
                have hii : (i : Int) < ((z : Nat) : Int) := by omega
                have hle := hrw.le
                clear hrw hc hg
                go_wp2_with fail
                go_roundw
                case rel => exact ⟨i + 1, by omega, by go_num, Lib.hid (by trivial)⟩
                case measure => simp [intOf] <;> omega
              · obtain rfl : z = i := by omega
                go_wp2_with fail
                go_ret
                exact ⟨rfl, HW5.out⟩
end Go.Proofs.Ytkoplofcjbeicaa
