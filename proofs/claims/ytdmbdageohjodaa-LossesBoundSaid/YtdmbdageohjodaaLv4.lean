/-
  Chapter 20: the law LossesBound.
-/
import Derived.Test.YtdmbdageohjodaaLv3
namespace Go.Proofs.Ytdmbdageohjodaa
open Go.RowKit
set_option linter.unusedVariables false
set_option linter.unusedSimpArgs false
attribute [local irreducible] wpStill wpQuiet MixC.wpMix MixC.wpPick MixC.wpPickT
attribute [local go_sem] MixC.rdOp MixC.rd MixC.rdUpon MixC.mvUpon

theorem LB.start {pause : Int} {w V : World} (hw : Below w.heap.size w V) (hp : 0 ≤ pause ∧ pause ≤ 255) :
    Calls Try.prog 16 #[.int .i64 pause] V fun e V' => e = .returned (.pointer (some ⟨V.heap.size, 0, none⟩)) ∧ LB V.heap.size (max pause 1) (-1) [] [] 0 none 0 none 0 w V' := by
  refine (newK_any w.heap.size pause V hw.size).mono ?_
  rintro e V' ⟨rfl, k, b⟩
  exact ⟨rfl, hw.trans (b.mono hw.size), ⟨[], none, 0, k, rfl⟩, HI.start _, by omega, rfl, R3.nil _ _⟩
theorem cameH_next {h x : Int} (h1 : -1 ≤ h) (h2 : h < x) (h3 : 0 ≤ x) (h4 : x - h ≤ 1000000) : cameH h x = x := by
  have hf : farI h x = false := by
    unfold farI
    simp
    omega
  unfold cameH
  rw [hf, if_neg (by decide), if_pos h2]
set_option maxRecDepth 100000 in
set_option maxHeartbeats 8000000 in
theorem LossesBound.walk (pause : Int) (a : Option Addr) (len cap : Nat) (z : List Int) (w : World) (hp : (Lit.int .u8 pause).wf = true) (r : IsRow .u16 w a len cap z) :
    Calls Try.prog 6 #[.int .u8 pause, .slice a len cap] w fun e w' => e = .returned (.bool true) ∧ Below w.heap.size w w' := by
  obtain ⟨b, off, Z, ha, hl, hm, hc, hw⟩ := row_open r
  have HA := Lib.hid ha
  have HC := Lib.hid hc
  have HW := Lib.hid hw
  obtain ⟨p0, p1⟩ := bounds_u8 hp
  clear ha hc hw r hp
  go_enter Try.func6, Try.ntmps6
  go_wp2_with fail
  refine (alive20_any w).mono ?_
  rintro e w1 ⟨rfl, b1⟩
  have B1 := Lib.hid b1
  clear b1
  have HN := Lib.hid (LB.start (pause := pause) B1.out ⟨p0, p1⟩)
  obtain ⟨pa, hpa⟩ : ∃ pa, max pause 1 = pa := ⟨_, rfl⟩
  have HPA := Lib.hid hpa
  obtain ⟨gk, hgk⟩ : ∃ gk, w1.heap.size = gk := ⟨_, rfl⟩
  rw [hpa, hgk] at HN
  clear hpa hgk
  go_wp2_with fail
  refine HN.out.mono ?_
  rintro e w2 ⟨rfl, lb⟩
  have L0 := Lib.hid lb
  clear lb HN
  go_upto_if 23 with (fail)
  go_cut [6] (fun s6 wx => s6 = .int .i64 pa ∧ Hid (LB gk pa (-1) [] [] 0 none 0 none 0 w wx))
  case first =>
    by_cases h1 : pause < 1
    · have e1 : Hid ((1 : Int) = pa) := Lib.hid (by rw [← HPA.out]; omega)
      go_wp2_with fail
      go_meet
      exact ⟨by rw [← e1.out], L0⟩
    · have e1 : Hid (pause = pa) := Lib.hid (by rw [← HPA.out]; omega)
      go_wp2_with fail
      go_meet
      exact ⟨by rw [← e1.out], L0⟩
  case rest =>
    obtain ⟨rfl, L1⟩ := hcut
    have hpa : 1 ≤ pa ∧ pa ≤ 255 := L1.out.pa
    clear L0 HPA p0 p1
    go_wp2_with fail
    go_loopw [7, 8, 9, 10] (fun s7 s8 s9 s10 wr => ∃ (i m : Nat) (hg hk : Int) (L : List Mis) (H : List (Int × Int)) (va : Option Addr) (vc : Nat) (wa : Option Addr) (wc : Nat), i ≤ len ∧ i ≤ 60 ∧ m ≤ i * 32 ∧ (0 ≤ hg ∧ hg ≤ i * 40) ∧ (-1 ≤ hk ∧ hk ≤ hg ∧ (hk = hg ∨ hk = -1)) ∧ s7 = .int .i64 hg ∧ s8 = .slice va m vc ∧ s9 = .slice wa m wc ∧ s10 = .int .i64 i ∧ Hid (LB gk pa hk L H m va vc wa wc w wr)) (fun _ _ _ s10 _ => len - (intOf s10).toNat)
    case atStart => exact ⟨0, 0, 0, -1, [], [], none, 0, none, 0, by omega, by omega, by omega, by omega, by omega, rfl, rfl, rfl, rfl, L1⟩
    case round =>
      clear L1
      obtain ⟨i, m, hg, hk, L, H, va, vc, wa, wc, hi, hi60, hm32, ⟨g0, g1⟩, ⟨k0, k1, k2⟩, rfl, rfl, rfl, rfl, HS⟩ := hrel
      by_cases hlt : i < len
      · by_cases h60 : i < 60
        · have hli : (i : Int) < len := by omega
          have h60i : (i : Int) < 60 := by omega
          obtain ⟨rfl, hb⟩ := HA.out (by omega)
          have c0 := HC.out i (by omega)
          have hz := bounds_u16 (HW.out i (by omega))
          obtain ⟨x, hx⟩ : ∃ x, Z i = x := ⟨_, rfl⟩
          rw [hx] at c0 hz
          have c1 := Below.cell' HS.out.bl hb c0
          clear c0 hx
          go_upto_region 14 with (fail)
          generalize hy : hg + x % 40 + 1 = y
          have y1 : hg < y ∧ y ≤ hg + 40 := by omega
          have HCM := Lib.hid (HS.out.came y i (by omega))
          rw [cameH_next (h := hk) (x := y) k0 (by omega) (by omega) (by omega)] at HCM
          clear hy c1
          go_wp2_with fail
          refine HCM.out.mono ?_
          rintro e V1 ⟨rfl, r1⟩
          obtain ⟨L1, hL1⟩ : ∃ L1, cameM hk y i L = L1 := ⟨_, rfl⟩
          rw [hL1] at r1
          have R1 := Lib.hid r1
          clear r1 hL1 HCM HS
          go_wp2_with fail
          refine R1.out.miss.mono ?_
          rintro e V2 ⟨⟨xa, xc, rfl⟩, r2⟩
          have R2 := Lib.hid r2
          have h32 := R2.out.hi.pi.len
          obtain ⟨l1, hl1⟩ : ∃ l1, L1.length = l1 := ⟨_, rfl⟩
          rw [hl1] at h32 ⊢
          have h32i : ¬ (32 : Int) < l1 := by omega
          have HAK := Lib.hid (R2.out.ask i (by omega) (by omega))
          have HON : Hid (∀ a y, (askT i pa [] L1)[a]? = some y → (0 ≤ y.i ∧ y.i ≤ 65535) ∧ cnt (H ++ tl i ((askT i pa [] L1).take a)) y.i ≤ 2 ∧ ∀ e ∈ H ++ tl i ((askT i pa [] L1).take a), e.1 = y.i → 0 ≤ e.2 ∧ e.2 + pa ≤ i) := Lib.hid (fun a y h => by
            obtain ⟨ha, rfl⟩ := List.getElem?_eq_some_iff.1 h
            have hel := R2.out.hi.pi.el _ ((askT_sub i pa L1 []).subset (List.getElem_mem ha))
            exact ⟨by omega, R2.out.hi.one (by omega) ha⟩)
          have HAS := Lib.hid (R2.out.hi.ask (tick := i) (by omega) (by omega))
          have hTl : (askT i pa [] L1).length ≤ l1 := by rw [← hl1]; exact (askT_sub _ _ _ _).length_le
          have HL1 := Lib.hid hl1
          clear r2 hl1 R1
          go_wp2_with fail
          refine HAK.out.mono ?_
          rintro e V3 ⟨v3, rfl, r3, hk3⟩
          have HNK := Lib.hid hk3
          clear r3 hk3 HAK
          go_wp2_with fail
          refine HNK.out.mono ?_
          rintro e V4 ⟨na, nc, rfl, no, r4⟩
          obtain ⟨T, hT⟩ : ∃ T, askT i pa [] L1 = T := ⟨_, rfl⟩
          obtain ⟨LK, hLK⟩ : ∃ LK, askK i pa L1 = LK := ⟨_, rfl⟩
          rw [hT] at HON HAS no hTl ⊢
          rw [hLK] at HAS r4
          have R4 := Lib.hid r4
          have NO := Lib.hid no
          obtain ⟨tn, htn⟩ : ∃ tn, T.length = tn := ⟨_, rfl⟩
          rw [htn] at hTl NO ⊢
          have HTN := Lib.hid htn
          have HML := Lib.hid R4.out.ml
          clear r4 no hT hLK htn HNK h32i R2
          go_wp2_with fail
          go_loopw [8, 9, 12] (fun s8 s9 s12 wx => ∃ (k m' : Nat) (va' : Option Addr) (vc' : Nat) (wa' : Option Addr) (wc' : Nat), k ≤ tn ∧ m' = m + k ∧ s8 = .slice va' m' vc' ∧ s9 = .slice wa' m' wc' ∧ s12 = .int .i64 k ∧ Hid (LC gk pa y LK (H ++ tl i (T.take k)) m' va' vc' wa' wc' w wx) ∧ Hid (wx.ownsRow w.heap.size 33 1 (.slice na tn nc) tn (u16s (T.map (·.i))))) (fun _ _ s12 _ => tn - (intOf s12).toNat)
          case atStart => exact ⟨0, m, va, vc, wa, wc, by omega, by omega, rfl, rfl, rfl, Lib.hid (by rw [List.take_zero]; show LC gk pa y LK (H ++ []) m va vc wa wc w V4; rw [List.append_nil]; exact R4.out), NO⟩
          case round =>
            clear R4 NO
            obtain ⟨k, m', va', vc', wa', wc', hk9, hm', rfl, rfl, rfl, HC4, NO⟩ := hrel
            have HMK := Lib.hid hm'
            have hmb : m' ≤ 60 * 32 + 32 := by omega
            clear hm'
            by_cases hkt : k < tn
            · have hki : (k : Int) < tn := by omega
              have hkT : k < T.length := by rw [HTN.out]; exact hkt
              obtain ⟨t, ht⟩ : ∃ t, T[k]'hkT = t := ⟨_, rfl⟩
              have htk : T[k]? = some t := by rw [List.getElem?_eq_getElem hkT, ht]
              obtain ⟨o0, o1, o2⟩ := HON.out k t htk
              have hsucc : H ++ tl i (T.take (k + 1)) = (H ++ tl i (T.take k)) ++ [(t.i, (i : Int))] := by
                rw [List.take_succ_eq_append_getElem hkT, ht]
                unfold tl
                rw [List.map_append, List.append_assoc]; rfl
              obtain ⟨Q, hQ⟩ : ∃ Q, H ++ tl i (T.take k) = Q := ⟨_, rfl⟩
              rw [hQ] at o1 o2 hsucc HC4
              obtain ⟨nb, en, ⟨-, nlt⟩, cn⟩ := own_get NO.out (x := k) (u := .int .u16 t.i) (by unfold u16s; rw [List.map_map, List.getElem?_map, htk]; rfl)
              subst en
              obtain ⟨s, hs⟩ : ∃ s, t.i = s := ⟨_, rfl⟩
              rw [hs] at o0 o1 o2 hsucc cn
              have ws : wrap64 s = s := IntWalk.wrap64_in _ (by omega)
              have NC : Hid (∀ W, Below wr.heap.size wr W → W.cell? ⟨nb, k, none⟩ = some (.int .u16 s)) := Lib.hid (fun W hb => Below.cell' hb nlt cn)
              have HO1 := Lib.hid o1
              have HO2 := Lib.hid o2
              have HSU := Lib.hid hsucc
              have HMQ : Hid (m' = Q.length) := Lib.hid HC4.out.ml
              clear o1 o2 hsucc hQ ht htk hs cn nlt
              go_wp2_with fail
              have BZ := Lib.hid (Below.refl wr.heap.size wr)
              obtain ⟨V5, hV5⟩ : ∃ V5, V5 = wr := ⟨_, rfl⟩
              rw [← hV5] at BZ NC HC4 NO ⊢
              clear hV5
              go_loopw [13, 14] (fun s13 s14 wx => ∃ j : Nat, j ≤ m' ∧ s13 = .int .i64 (cnt (Q.take j) s) ∧ s14 = .int .i64 j ∧ Hid (Below V5.heap.size V5 wx)) (fun _ s14 _ => m' - (intOf s14).toNat)
              case atStart => exact ⟨0, by omega, rfl, rfl, BZ⟩
              case round =>
                clear BZ
                obtain ⟨j, hj, rfl, rfl, BZ⟩ := hrel
                by_cases hjm : j < m'
                · have hji : (j : Int) < m' := by omega
                  obtain ⟨b1, b2, rfl, rfl, d1, d2⟩ := (HC4.out.keep BZ.out).at_ hjm
                  have d3 := NC.out _ BZ.out
                  have hjQ : j < Q.length := by rw [← HMQ.out]; exact hjm
                  have hct := cnt_take hjQ s
                  have ho2 := HO2.out (Q.getD j (0, 0)) (by rw [List.getD, List.getElem?_eq_getElem hjQ]; exact List.getElem_mem _)
                  obtain ⟨q1, hq1⟩ : ∃ q1, (Q.getD j (0, 0)).1 = q1 := ⟨_, rfl⟩
                  obtain ⟨q2, hq2⟩ : ∃ q2, (Q.getD j (0, 0)).2 = q2 := ⟨_, rfl⟩
                  rw [hq1] at d1 hct ho2
                  rw [hq2] at d2 ho2
                  obtain ⟨n1, hn1⟩ : ∃ n1, cnt (Q.take j) s = n1 := ⟨_, rfl⟩
                  have hnj : n1 ≤ j := by rw [← hn1]; exact Nat.le_trans List.countP_le_length (by rw [List.length_take]; omega)
                  rw [hn1] at hct ⊢
                  clear hq1 hq2 hn1
                  go_wp2_with fail
                  go_quiet (fail)
                  generalize hW : wr.drewN _ = V6
                  have BZ2 : Hid (Below V5.heap.size V5 V6) := Lib.hid (by rw [← hW]; exact below_drewN0 BZ.out _)
                  have B6 : Hid (Below wr.heap.size wr V6) := Lib.hid (by rw [← hW]; exact below_drewN0 (Below.refl _ _) _)
                  have d4 : V6.cell? ⟨b2, j, none⟩ = some (.int .i64 q2) := by
                    obtain ⟨b1', b2', e1, e2, d1', d2'⟩ := (HC4.out.keep BZ2.out).at_ hjm
                    cases e1
                    cases e2
                    rw [d2']
                    have := (HC4.out.keep BZ.out).at_ hjm
                    obtain ⟨b1', b2', e1, e2, d1', d2''⟩ := this
                    cases e1
                    cases e2
                    rw [d2] at d2''
                    exact d2''.symm
                  clear hW B6 d1 d2 d3 BZ
                  have j1 : IntKind.i64.wrap ((j : Int) + 1) = (j : Int) + 1 := IntWalk.i64_in _ (by omega)
                  by_cases hq : q1 = s
                  · have ho3 := ho2 hq
                    rw [if_pos hq] at hct
                    have hq' : (q1 = s) = True := eq_true hq
                    have n2 : IntKind.i64.wrap ((n1 : Int) + 1) = (n1 : Int) + 1 := IntWalk.i64_in _ (by omega)
                    have n3 : wrap64 ((i : Int) - q2) = (i : Int) - q2 := IntWalk.wrap64_in _ (by omega)
                    have n5 : (q1 == s) = true := by simpa using hq
                    have n4 : ¬ (i : Int) - q2 < pa := by omega
                    have HCT : Hid ((n1 : Int) + 1 = (cnt (Q.take (j + 1)) s : Int)) := Lib.hid (by rw [hct]; omega)
                    clear hq ho2 hct
                    go_wp2_with fail
                    go_roundw
                    case rel => exact ⟨j + 1, by omega, by rw [HCT.out], by go_num, BZ2⟩
                    case measure => simp [intOf] <;> omega
                  · have hq' : (q1 = s) = False := eq_false hq
                    have n5 : (q1 == s) = false := by simpa using hq
                    rw [if_neg hq] at hct
                    have HCT : Hid ((n1 : Int) = (cnt (Q.take (j + 1)) s : Int)) := Lib.hid (by rw [hct]; omega)
                    clear hq ho2 hct
                    go_wp2_with fail
                    go_roundw
                    case rel => exact ⟨j + 1, by omega, by rw [HCT.out], by go_num, BZ2⟩
                    case measure => simp [intOf] <;> omega
                · obtain rfl : m' = j := by omega
                  clear hjm
                  obtain ⟨n1, hn1⟩ : ∃ n1, cnt (Q.take m') s = n1 := ⟨_, rfl⟩
                  have h2 : ¬ (3 : Int) ≤ n1 := by
                    have e : Q.take m' = Q := by rw [HMQ.out, List.take_length]
                    rw [e] at hn1
                    have := HO1.out
                    omega
                  rw [hn1]
                  obtain ⟨a1, c1, W1, a2, c2, W2, r1, r2, LC2, T2⟩ := (HC4.out.keep BZ.out).push (by omega) s i
                  have A1 := Lib.hid r1
                  have A2 := Lib.hid r2
                  have LC3 : Hid (LC gk pa y LK (H ++ tl i (T.take (k + 1))) (m' + 1) a1 c1 a2 c2 w W2) := Lib.hid (by rw [HSU.out]; exact LC2)
                  have NO3 := Lib.hid (T2.own (own_below NO.out BZ.out) (by decide))
                  have d3 := NC.out _ BZ.out
                  have k1 : IntKind.i64.wrap ((k : Int) + 1) = (k : Int) + 1 := IntWalk.i64_in _ (by omega)
                  clear r1 r2 LC2 T2 hn1 HC4 NO BZ NC
                  go_wp2_with first | (at_builtin; refine wpList_of_append rfl (.tmp 89) (.tmp 95) 37 rfl _ _ _ rfl rfl A1.out ?_) | (at_builtin; refine wpList_of_append rfl (.tmp 97) (.tmp 99) 37 rfl _ _ _ rfl rfl A2.out ?_)
                  go_roundw
                  case rel => exact ⟨k + 1, m' + 1, a1, c1, a2, c2, by omega, by have := HMK.out; omega, rfl, rfl, by go_num, LC3, NO3⟩
                  case measure => simp [intOf] <;> omega
            · obtain rfl : tn = k := by omega
              have hTt : T.take tn = T := by rw [← HTN.out, List.take_length]
              have LB5 : Hid (LB gk pa y LK (H ++ tl i T) m' va' vc' wa' wc' w wr) := Lib.hid (by
                have := HC4.out
                rw [hTt] at this
                exact ⟨this.bl, this.ks, HAS.out, hpa, this.ml, this.r⟩)
              have i1 : IntKind.i64.wrap ((i : Int) + 1) = (i : Int) + 1 := IntWalk.i64_in _ (by omega)
              clear HC4 NO hTt HON HAS hkt
              go_wp2_with fail
              go_roundw
              case rel => exact ⟨i + 1, m', y, y, LK, H ++ tl i T, va', vc', wa', wc', by omega, by omega, by have := HMK.out; omega, by omega, by omega, rfl, rfl, rfl, by go_num, LB5⟩
              case measure => simp [intOf] <;> omega
        · have h60i : ¬ (i : Int) < 60 := by omega
          have hli : (i : Int) < len := by omega
          go_wp2_with fail
          go_ret
          exact ⟨rfl, HS.out.bl⟩
      · have hli : ¬ (i : Int) < len := by omega
        go_wp2_with fail
        all_goals
          go_ret
          exact ⟨rfl, HS.out.bl⟩
end Go.Proofs.Ytdmbdageohjodaa
