/-
  Chapter 20: the reference's losses of numbers (ref11.Losses).
-/
import Derived.Test.YtdmbdageohjodaaLsG
namespace Go.Proofs.Ytdmbdageohjodaa
open Go.RowKit
set_option linter.unusedVariables false
set_option linter.unusedSimpArgs false
attribute [local irreducible] wpStill wpQuiet MixC.wpMix MixC.wpPick MixC.wpPickT
attribute [local go_sem] MixC.rdOp MixC.rd MixC.rdUpon MixC.mvUpon

/-- the bits when k's before kk were tried -/
def bAt (b kk : Int) (k : Nat) : Int := if 1 ≤ kk ∧ kk < k then orB b kk else b
def dAt (kk : Int) (k : Nat) : Bool := decide (1 ≤ kk) && decide (kk < k)
theorem dAt_one (kk : Int) : dAt kk 1 = false := by unfold dAt; by_cases h : 1 ≤ kk <;> simp [h]
theorem bAt_one (b kk : Int) : bAt b kk 1 = b := if_neg (by omega)
theorem bAt_bd (b kk : Int) (k : Nat) (h : 0 ≤ b ∧ b ≤ 65535) : 0 ≤ bAt b kk k ∧ bAt b kk k ≤ 65535 := by
  unfold bAt
  split
  · exact orB_bd b kk h
  · exact h
theorem dAt_ne {kk : Int} {j : Nat} (h : (j : Int) ≠ kk) : dAt kk (j + 1) = dAt kk j := by
  unfold dAt
  by_cases h1 : kk < j
  · rw [show decide (kk < ((j + 1 : Nat) : Int)) = true by simp; omega, show decide (kk < (j : Int)) = true by simpa using h1]
  · rw [show decide (kk < ((j + 1 : Nat) : Int)) = false by simp; omega, show decide (kk < (j : Int)) = false by simpa using h1]
theorem bAt_ne {b kk : Int} {j : Nat} (h : (j : Int) ≠ kk) : bAt b kk (j + 1) = bAt b kk j := by
  unfold bAt
  by_cases h1 : 1 ≤ kk ∧ kk < j
  · rw [if_pos h1, if_pos (by omega)]
  · rw [if_neg h1, if_neg (by omega)]
theorem dAt_eq {kk : Int} {j : Nat} (h : (j : Int) = kk) (hj : 1 ≤ j) : dAt kk (j + 1) = true := by unfold dAt; simp; omega
theorem bAt_eq {b kk : Int} {j : Nat} (h : (j : Int) = kk) (hj : 1 ≤ j) : bAt b kk (j + 1) = orB (bAt b kk j) j := by
  unfold bAt
  rw [if_pos (by omega), if_neg (by omega), h]
set_option maxRecDepth 100000 in
set_option maxHeartbeats 4000000 in
theorem rloss_any (B : Nat) (a : Option Addr) (n c : Nat) (Z : Nat → Int) (w : World) (h : US B w a n Z) (hB : B ≤ w.heap.size) (hn : n ≤ 100000) :
    Calls Try.prog 64 #[.slice a n c] w (LossPost (lossL (zs Z n)) w) := by
  have HU := Lib.hid h
  clear h
  go_enter Try.func64, Try.ntmps64
  go_wp2_with fail
  go_loopw [3, 4] (fun s3 s4 wr => ∃ (k m : Nat) (va : Option Addr) (vc : Nat), k ≤ n ∧ m ≤ k ∧ s4 = .int .i64 k ∧ s3 = .slice va m vc ∧ Hid (m = (lossL (zs Z k)).length) ∧ Hid (OkL (lossL (zs Z k))) ∧ Hid (Below w.heap.size w wr) ∧ Hid (wr.ownsRow w.heap.size 35 2 (.slice va m vc) m (lossV (lossL (zs Z k))))) (fun _ s4 _ => n - (intOf s4).toNat)
  case atStart => exact ⟨0, 0, none, 0, by omega, by omega, rfl, rfl, Lib.hid rfl, Lib.hid (fun x hx => by cases hx), Lib.hid (Below.refl _ _), Lib.hid (World.ownsRow_nil _ _ _ _)⟩
  case round =>
    obtain ⟨k, m, va, vc, hk, hmk, rfl, rfl, HM, HOK, HB, HO⟩ := hrel
    by_cases hlt : k < n
    · obtain ⟨hbd, b, off, hp, hc⟩ := HU.out
      obtain ⟨rfl, hbB⟩ := hp (by omega)
      have HC := Lib.hid (And.intro (by omega : b < w.heap.size) (hc k hlt))
      have cz := Below.cell' HB.out HC.out.1 HC.out.2
      have zb := hbd k hlt
      have hsn := lossL_snoc (zs Z k) (Z k)
      rw [← zs_succ] at hsn
      obtain ⟨s, hs⟩ : ∃ s, Z k = s := ⟨_, rfl⟩
      rw [hs] at cz zb hsn HC
      have HSN := Lib.hid hsn
      obtain ⟨s0, s1⟩ := zb
      have hki : (k : Int) < n := by omega
      obtain ⟨L, hL⟩ : ∃ L, lossL (zs Z k) = L := ⟨_, rfl⟩
      rw [hL] at HM HOK HO HSN
      clear hbd hp hc hs hsn hL
      rcases List.eq_nil_or_concat L with rfl | ⟨P, ⟨q, b2⟩, rfl⟩
      · have hm0 : m = 0 := HM.out
        subst hm0
        obtain ⟨a9, c9, V2, A9, B9⟩ := app1 elLoss HO.out [.int .u16 s, .int .u16 0] rfl (by intro u hu; simp at hu; rcases hu with rfl | rfl <;> rfl) (by omega) (by omega) HB.out.size
        have HA := Lib.hid A9.run
        have e := HSN.out
        rw [lstep_nil] at e
        have F : Hid (1 = (lossL (zs Z (k + 1))).length ∧ OkL (lossL (zs Z (k + 1))) ∧ V2.ownsRow w.heap.size 35 2 (.slice a9 (0 + 1) c9) (0 + 1) (lossV (lossL (zs Z (k + 1))))) := Lib.hid (by
          rw [e]
          exact ⟨rfl, fun x hx => by (have : x = (s, 0) := by simpa using hx); subst this; exact ⟨⟨s0, s1⟩, by omega, by omega⟩, A9.own⟩)
        have B2 := Lib.hid (HB.out.trans B9)
        clear A9 B9 e
        go_wp2_with fail
        obtain ⟨W, hW⟩ : ∃ W, W = wr := ⟨_, rfl⟩
        subst hW
        go_loopw [5, 6] (fun s5 s6 wx => s5 = .bool false ∧ s6 = .int .i64 1 ∧ wx = W) (fun _ _ _ => 0)
        case atStart => exact ⟨rfl, rfl, rfl⟩
        case round =>
          obtain ⟨rfl, rfl, rfl⟩ := hrel
          go_wp2_with (at_builtin; refine wpList_of_append rfl (.tmp 57) (.tmp 63) 31 rfl _ _ _ rfl rfl HA.out ?_)
          go_roundw
          case rel => exact ⟨k + 1, 1, a9, c9, by omega, by omega, by go_num, rfl, Lib.hid F.out.1, Lib.hid F.out.2.1, B2, Lib.hid F.out.2.2⟩
          case measure => simp [intOf] <;> omega
      · rw [List.concat_eq_append] at HM HOK HO HSN
        obtain ⟨p, hp⟩ : ∃ p, P.length = p := ⟨_, rfl⟩
        have hm1 : m = p + 1 := by rw [HM.out]; simp [hp]
        subst hm1
        obtain ⟨g, cap, hv, hg, -, -, -⟩ := own_some HO.out
        injection hv with hva hvb hvc
        subst hva hvc
        clear hvb
        obtain ⟨⟨q0, q1⟩, b0, b1⟩ := HOK.out (q, b2) (by simp)
        simp only at q0 q1 b0 b1
        have HP := Lib.hid hp
        obtain ⟨kk, hkk⟩ : ∃ kk, (s - q) % 65536 = kk := ⟨_, rfl⟩
        have kb : 0 ≤ kk ∧ kk ≤ 65535 := by omega
        have HKK := Lib.hid hkk
        clear hp hkk
        go_wp2_with fail
        obtain ⟨W, hW⟩ : ∃ W, W = wr := ⟨_, rfl⟩
        subst hW
        go_loopw [5, 6] (fun s5 s6 wx => ∃ j : Nat, (1 ≤ j ∧ j ≤ 17) ∧ s5 = .bool (dAt kk j) ∧ s6 = .int .i64 j ∧ Hid (Below w.heap.size w wx) ∧ Hid (wx.ownsRow w.heap.size 35 2 (.slice (some ⟨g, 0, none⟩) (p + 1) vc) (p + 1) (lossV (P ++ [(q, bAt b2 kk j)])))) (fun _ s6 _ => 17 - (intOf s6).toNat)
        case atStart => exact ⟨1, by omega, by rw [dAt_one], rfl, HB, Lib.hid (by rw [bAt_one]; exact HO.out)⟩
        case round =>
          obtain ⟨j, hj, rfl, rfl, HBx, HOx⟩ := hrel
          rename World => wx
          by_cases hj7 : j < 17
          · have hji : (j : Int) < 17 := by omega
            obtain ⟨bj, hbj⟩ : ∃ bj, bAt b2 kk j = bj := ⟨_, rfl⟩
            have bjb : 0 ≤ bj ∧ bj ≤ 65535 := by rw [← hbj]; exact bAt_bd b2 kk j ⟨b0, b1⟩
            rw [hbj] at HOx
            obtain ⟨g', cap', hv, -, -, hcell, -⟩ := own_some HOx.out
            injection hv with hva hvb hvc
            injection hva with hva
            injection hva with hva _ _
            subst hva hvc
            clear hvb
            obtain ⟨l1, l2⟩ := lossV_last P q bj
            rw [HP.out] at l1 l2
            have cq := hcell _ _ l1
            have cb := hcell _ _ l2
            have cz2 := Below.cell' HBx.out HC.out.1 HC.out.2
            have frz : wx.frozen? ⟨g, p * 2 + 1, none⟩ = false := by
              rcases HOx.out.2 with ⟨_, h0⟩ | ⟨g2, cap2, cur, hv, _, hh, _⟩
              · omega
              · injection hv with e1 _ _
                cases e1
                exact free_blk hh
            clear hcell l1 l2
            have wp1 : IntKind.i64.wrap ((p : Int) + 1 - 1) = p := by rw [show (p : Int) + 1 - 1 = p by omega]; exact IntWalk.i64_in _ (by omega)
            have wp2 : IntKind.i64.wrap (p : Int) = p := IntWalk.i64_in _ (by omega)
            have wp3 : (p : Int) < (p : Int) + 1 := by omega
            have wj : IntKind.u16.wrap (j : Int) = j := by rw [IntKind.wrap_u16]; omega
            by_cases hjk : (j : Int) = kk
            · subst hjk
              have wq : IntKind.u16.wrap (q + (j : Int)) = s := by rw [IntKind.wrap_u16]; have := HKK.out; omega
              go_wp2_with fail
              refine wp_region_still_lit (by kernel_rfl) (by kernel_rfl) ?_
              iterate 15 still_step
              refine wpStill_nil ?_
              change Exit.then _ _ _ _ wx.drew
              have j1 : IntKind.i64.wrap ((j : Int) - 1) = (j : Int) - 1 := IntWalk.i64_in _ (by omega)
              go_wp2_with fail
              have hO : (wx.setCell ⟨g, p * 2 + 1, none⟩ (.int .u16 (orB bj (j : Int)))).ownsRow w.heap.size 35 2 (.slice (some ⟨g, 0, none⟩) (p + 1) vc) (p + 1) (lossV (P ++ [(q, bAt b2 (j : Int) (j + 1))])) := by
                have e3 := lossV_set P q bj (orB bj (j : Int))
                rw [HP.out] at e3
                rw [bAt_eq rfl hj.1, hbj, ← e3]
                exact own_set HOx.out (j := p * 2 + 1) (by rw [lossV_len]; simp [HP.out]; omega) (.int .u16 (orB bj (j : Int)))
              refine ⟨⟨j + 1, by omega, by rw [dAt_eq rfl hj.1], by go_num, Lib.hid (HBx.out.setCell hg _).drew, Lib.hid hO⟩, ?_⟩
              simp [intOf] <;> omega
            · have wn : (IntKind.u16.wrap (q + (j : Int)) == s) = false := by rw [IntKind.wrap_u16]; have := HKK.out; simp; omega
              go_wp2_with fail
              refine wp_region_still_lit (by kernel_rfl) (by kernel_rfl) ?_
              iterate 15 still_step
              refine wpStill_nil ?_
              change Exit.then _ _ _ _ wx.drew
              go_wp2_with fail
              refine ⟨⟨j + 1, by omega, by rw [dAt_ne hjk], by go_num, Lib.hid HBx.out.drew, Lib.hid (by rw [bAt_ne hjk, hbj]; exact HOx.out)⟩, ?_⟩
              simp [intOf] <;> omega
          · obtain rfl : j = 17 := by omega
            by_cases hk1 : 1 ≤ kk ∧ kk ≤ 16
            · have dd : dAt kk 17 = true := by unfold dAt; simp; omega
              have e := HSN.out
              rw [lstep_in (by unfold lossP; rw [HKK.out]; simp; omega), HKK.out] at e
              have F : Hid (p + 1 = (lossL (zs Z (k + 1))).length ∧ OkL (lossL (zs Z (k + 1))) ∧ wx.ownsRow w.heap.size 35 2 (.slice (some ⟨g, 0, none⟩) (p + 1) vc) (p + 1) (lossV (lossL (zs Z (k + 1))))) := Lib.hid (by
                rw [e]
                refine ⟨by simp [HP.out], fun x hx => ?_, ?_⟩
                · rcases List.mem_append.1 hx with h | h
                  · exact HOK.out x (List.mem_append_left _ h)
                  · have : x = (q, orB b2 kk) := by simpa using h
                    subst this
                    exact ⟨⟨q0, q1⟩, orB_bd b2 kk ⟨b0, b1⟩⟩
                · have h := HOx.out
                  rw [show bAt b2 kk 17 = orB b2 kk from if_pos (by omega)] at h
                  exact h)
              clear e
              rw [dd]
              go_wp2_with fail
              go_roundw
              case rel => exact ⟨k + 1, p + 1, some ⟨g, 0, none⟩, vc, by omega, by omega, by go_num, rfl, Lib.hid F.out.1, Lib.hid F.out.2.1, HBx, Lib.hid F.out.2.2⟩
              case measure => simp [intOf] <;> omega
            · have dd : dAt kk 17 = false := by unfold dAt; by_cases h : 1 ≤ kk <;> simp [h]; omega
              have hb17 : bAt b2 kk 17 = b2 := if_neg (by omega)
              rw [hb17] at HOx
              obtain ⟨a9, c9, V2, A9, B9⟩ := app1 elLoss HOx.out [.int .u16 s, .int .u16 0] rfl (by intro u hu; simp at hu; rcases hu with rfl | rfl <;> rfl) (by omega) (by omega) HBx.out.size
              have HA := Lib.hid A9.run
              have e := HSN.out
              rw [lstep_new (by unfold lossP; rw [HKK.out]; simp; omega)] at e
              have F : Hid (p + 1 + 1 = (lossL (zs Z (k + 1))).length ∧ OkL (lossL (zs Z (k + 1))) ∧ V2.ownsRow w.heap.size 35 2 (.slice a9 (p + 1 + 1) c9) (p + 1 + 1) (lossV (lossL (zs Z (k + 1))))) := Lib.hid (by
                rw [e]
                refine ⟨by simp [HP.out], fun x hx => ?_, by rw [lossV_app]; exact A9.own⟩
                rcases List.mem_append.1 hx with h | h
                · exact HOK.out x h
                · have : x = (s, 0) := by simpa using h
                  subst this
                  exact ⟨⟨s0, s1⟩, by omega, by omega⟩)
              have B2 := Lib.hid (HBx.out.trans B9)
              have cz2 := Below.cell' HBx.out HC.out.1 HC.out.2
              clear A9 B9 e
              rw [dd]
              go_wp2_with (at_builtin; refine wpList_of_append rfl (.tmp 57) (.tmp 63) 31 rfl _ _ _ rfl rfl HA.out ?_)
              go_roundw
              case rel => exact ⟨k + 1, p + 1 + 1, a9, c9, by omega, by omega, by go_num, rfl, Lib.hid F.out.1, Lib.hid F.out.2.1, B2, Lib.hid F.out.2.2⟩
              case measure => simp [intOf] <;> omega
    · obtain rfl : n = k := by omega
      clear hlt
      go_wp2_with fail
      go_ret
      exact ⟨va, vc, by rw [HM.out]; rfl, by rw [← HM.out]; exact HO.out, HB.out⟩
end Go.Proofs.Ytdmbdageohjodaa
