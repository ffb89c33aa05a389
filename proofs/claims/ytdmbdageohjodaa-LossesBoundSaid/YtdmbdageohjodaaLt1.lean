/-
  Chapter 20: the reference's keeper: Came at an index above, the walk.
-/
import Derived.Test.YtdmbdageohjodaaLsZ
namespace Go.Proofs.Ytdmbdageohjodaa
open Go.RowKit
set_option linter.unusedVariables false
set_option linter.unusedSimpArgs false
attribute [local irreducible] wpStill wpQuiet MixC.wpMix MixC.wpPick MixC.wpPickT
attribute [local go_sem] MixC.rdOp MixC.rd MixC.rdUpon MixC.mvUpon

def fromR (high i : Int) : Int := if 100 < i - (high + 1) then i - 100 else high + 1
def lenW (w : World) (g : Nat) : Nat := match w.cell? ⟨g, 2, none⟩ with
  | some (.slice _ n _) => n
  | _ => 0
theorem RK.lenW {B g : Nat} {pause high : Int} {L : List Mis} {w : World} (h : RK B g pause high L w) : lenW w g = L.length := by
  obtain ⟨-, -, -, aI, cI, c2⟩ := h.cells
  unfold Go.Proofs.Ytdmbdageohjodaa.lenW
  rw [c2]
/-- a keeper, and what it left -/
def RW (B g : Nat) (pause high : Int) (L : List Mis) (w w' : World) : Prop := RK B g pause high L w' ∧ Below B w w' ∧ Ty rTs w w'
theorem newsL_len (x tick : Int) (k : Nat) : (newsL x tick k).length = k := by simp [newsL]
set_option maxRecDepth 100000 in
set_option maxHeartbeats 8000000 in
theorem rcame_more (B g : Nat) (pause high i tick : Int) (L : List Mis) (w : World) (h : RK B g pause high L w) (hB : B ≤ w.heap.size) (hL : L.length ≤ 900) (h0 : 0 ≤ high) (hh : high < i) (hf : i - high ≤ 1099511627776) (hi : i ≤ 4611686018427387904) :
    Calls Try.prog 22 #[.pointer (some ⟨g, 0, none⟩), .int .i64 i, .int .i64 tick] w (RPost B g pause i (last32 (L ++ newsL (fromR high i) tick (i - fromR high i).toNat)) w) := by
  obtain ⟨c0, c1, f0, aI, cI, c2⟩ := h.cells
  have H := Lib.hid h
  have i1 : IntKind.i64.wrap (i - high) = i - high := IntWalk.i64_in _ (by omega)
  have i2 : IntKind.i64.wrap (high + 1) = high + 1 := IntWalk.i64_in _ (by omega)
  have i3 : IntKind.i64.wrap (i - (high + 1)) = i - (high + 1) := IntWalk.i64_in _ (by omega)
  have d1 : decide (1099511627776 < i - high) = false := by simp; omega
  obtain ⟨x0, hx0⟩ : ∃ x0, fromR high i = x0 := ⟨_, rfl⟩
  have xb : -1 ≤ x0 ∧ x0 ≤ i ∧ i - x0 ≤ 100 := by rw [← hx0]; unfold fromR; split <;> omega
  have HX := Lib.hid hx0
  rw [hx0]
  obtain ⟨cn, hcn⟩ : ∃ cn : Nat, (i - x0).toNat = cn := ⟨_, rfl⟩
  have hci : i = x0 + cn := by omega
  have hc100 : cn ≤ 100 := by omega
  rw [hcn]
  have HCI := Lib.hid hci
  clear h hcn hci
  unfold fromR at hx0
  have C0 : Hid (RW B g pause high (L ++ newsL x0 tick 0) w w) := Lib.hid (by
    rw [show newsL x0 tick 0 = [] from rfl, List.append_nil]
    exact ⟨H.out, Below.refl _ _, Ty.refl _ _⟩)
  go_enter Try.func22, Try.ntmps22
  by_cases h100 : 100 < i - (high + 1)
  all_goals
    go_upto_region 7 with (fail)
    have e := HX.out
    unfold fromR at e
    first
      | (rw [if_pos h100] at e; rw [e])
      | (rw [if_neg h100] at e; rw [e])
    clear e h100
    clear hx0 c0 c1 f0 c2
    go_wp2_with fail
    go_loopw [7] (fun s7 wr => ∃ k : Nat, k ≤ cn ∧ s7 = .int .i64 (x0 + k) ∧ Hid (RW B g pause high (L ++ newsL x0 tick k) w wr)) (fun s7 _ => cn - (intOf s7 - x0).toNat)
    case atStart => exact ⟨0, by omega, by go_num, C0⟩
    case round =>
      obtain ⟨k, hk, rfl, HK⟩ := hrel
      have hci := HCI.out
      by_cases hlt : k < cn
      · have t1 : x0 + (k : Int) < i := by omega
        have ll : (L ++ newsL x0 tick k).length ≤ 2000 := by rw [List.length_append, newsL_len]; omega
        obtain ⟨aI, cI, aN, cN, aT, cT, a1, c1, W1, a2, c2, W2, a3, c3, W3, q1, A1, ⟨q2, q3, q4⟩, A2, ⟨q5, q6, q7⟩, A3, ⟨q8, q9⟩, R, B9, T9⟩ := HK.out.1.add (Nat.le_trans hB HK.out.2.1.size) ll (x0 + k) tick
        generalize (L ++ newsL x0 tick k).length = m at *
        have F : Hid (RW B g pause high (L ++ newsL x0 tick (k + 1)) w (W3.setCell ⟨g, 3, none⟩ (.slice a3 (m + 1) c3))) := Lib.hid (by
          rw [newsL_succ, ← List.append_assoc]
          exact ⟨R, HK.out.2.1.trans B9, HK.out.2.2.trans T9⟩)
        have HA1 := Lib.hid A1
        have HA2 := Lib.hid A2
        have HA3 := Lib.hid A3
        clear A1 A2 A3 R B9 T9 hci ll
        go_wp2_with (first | (at_builtin; refine wpList_of_append rfl (.tmp 63) (.tmp 65) 37 rfl _ _ _ rfl rfl HA1.out ?_) | (at_builtin; refine wpList_of_append rfl (.tmp 73) (.tmp 75) 37 rfl _ _ _ rfl rfl HA2.out ?_) | (at_builtin; refine wpList_of_append rfl (.tmp 83) (.tmp 84) 39 rfl _ _ _ rfl rfl HA3.out ?_))
        refine ⟨⟨k + 1, by omega, by go_num, F⟩, ?_⟩
        simp [intOf] <;> omega
      · obtain rfl : k = cn := by omega
        obtain ⟨T, hT⟩ : ∃ T, L ++ newsL x0 tick k = T := ⟨_, rfl⟩
        have hTl : T.length ≤ 900 + 100 := by rw [← hT, List.length_append, newsL_len]; omega
        rw [hT] at HK ⊢
        have t1 : ¬ x0 + (k : Int) < i := by omega
        obtain ⟨W0, hW0⟩ : ∃ W0, W0 = wr := ⟨_, rfl⟩
        have HK0 : Hid (RW B g pause high T w W0) := Lib.hid (by rw [hW0]; exact HK.out)
        have HT := Lib.hid hT
        obtain ⟨q0, q1, q2, aJ, cJ, q3⟩ := HK.out.1.cells
        clear hT hci C0
        go_wp2_with fail
        have I0 : Hid (RW B g pause high (T.drop 0) w wr) := Lib.hid (by rw [List.drop_zero]; exact HK.out)
        clear HK HK0 hW0 q0 q1 q2 q3
        go_loopw [] (fun wx => ∃ d, Hid (d ≤ T.length - 32) ∧ Hid (RW B g pause high (T.drop d) w wx)) (fun wx => lenW wx g)
        case atStart => exact ⟨0, Lib.hid (by omega), I0⟩
        case round =>
          clear I0
          obtain ⟨d, HD, HK⟩ := hrel
          generalize hWW : wr = W at *
          clear hWW
          obtain ⟨q0, q1, q2, aJ, cJ, q3⟩ := HK.out.1.cells
          obtain ⟨m, hm⟩ : ∃ m, (T.drop d).length = m := ⟨_, rfl⟩
          have hml : T.length - d = m := by rw [← hm, List.length_drop]
          have HLM := Lib.hid (HK.out.1.lenW.trans hm)
          have HM := Lib.hid hm
          rw [hm] at q3
          clear hm
          by_cases h32 : 32 < m
          · have h32i : (32 : Int) < m := by omega
            go_wp2_with fail
            refine (drop_any B g pause high (T.drop d) 0 W HK.out.1 (Nat.le_trans hB HK.out.2.1.size) (by rw [List.length_drop]; omega) (by omega)).mono ?_
            rintro e w1 ⟨rfl, k1, b1⟩
            have k2 : RK B g pause high (T.drop (d + 1)) w1 := by
              have e : (T.drop d).eraseIdx 0 = T.drop (d + 1) := by rw [List.eraseIdx_zero, List.tail_drop]
              rw [← e]; exact k1
            have F : Hid (RW B g pause high (T.drop (d + 1)) w w1) := Lib.hid (by
              obtain ⟨gB, aI, cI, aN, cN, aT, cT, hg, hr⟩ := HK.out.1
              exact ⟨k2, HK.out.2.1.trans (b1.below (Nat.le_trans hB HK.out.2.1.size) (fun k e => by cases e; exact gB)), HK.out.2.2.trans (Ty.but b1 (T := 41) (fun k e => by cases e; exact ⟨_, _, hg⟩) (by decide))⟩)
            have F2 : Hid (lenW w1 g < lenW W g) := Lib.hid (by rw [HLM.out, k2.lenW, List.length_drop]; omega)
            clear k1 b1 k2
            go_wp2_with fail
            exact ⟨⟨d + 1, Lib.hid (by omega), F⟩, F2.out⟩
          · have h32i : ¬ (32 : Int) < m := by omega
            have e : T.drop d = last32 T := by
              unfold last32
              rw [show d = T.length - 32 by have := HD.out; omega]
            rw [e] at HK
            have H9 := Lib.hid (HK.out.1.high i)
            have H8 := Lib.hid HK.out.2
            clear e
            have HT' := HT.out
            go_wp2_with fail
            go_returns
            have r : RPost B g pause i (last32 T) w (.returned (.tuple #[])) (W.setCell ⟨g, 1, none⟩ (.int .i64 i)) := ⟨rfl, H9.out.1, H8.out.1.trans H9.out.2.1, H8.out.2.trans H9.out.2.2⟩
            first
              | exact r
              | (rw [HT']; exact r)
end Go.Proofs.Ytdmbdageohjodaa
