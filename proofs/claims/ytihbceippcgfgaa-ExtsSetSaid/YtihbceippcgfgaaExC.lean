/-
  Chapter 32: the reference's Write.
-/
import Derived.Test.YtihbceippcgfgaaExB
import Derived.Test.YtihbceippcgfgaaMixO
namespace Go.Proofs.Ytihbceippcgfgaa
open Go.RowKit
set_option linter.unusedVariables false
set_option linter.unusedSimpArgs false
attribute [local irreducible] wpStill wpQuiet MixC.wpMix
attribute [local go_sem] MixC.rdOp MixC.rd MixC.rdUpon MixC.mvUpon

theorem rep_succ (L : List Int) (j : Nat) : L ++ List.replicate (j + 1) (0 : Int) = (L ++ List.replicate j 0) ++ [0] := by rw [List.replicate_succ', List.append_assoc]
set_option maxRecDepth 100000 in
set_option maxHeartbeats 8000000 in
theorem rwrite32_any (ad : Option Addr) (len cap : Nat) (Q : Nat → El) (w : World) (h : Els w.heap.size w ad len cap Q) (hl : len ≤ 200) :
    Calls Try.prog 18 #[.slice ad len cap] w (WrPost (.bool true) (.bool false) Q len w) := by
  have H := Lib.hid h
  have hle := h.le
  have hmx := h.max
  clear h
  go_enter Try.func18, Try.ntmps18
  go_wp2_with fail
  go_loopw [4, 5] (fun s4 s5 wr => ∃ (k m : Nat) (a : Option Addr) (c : Nat), k ≤ len ∧ m ≤ k * 17 ∧ s5 = .int .i64 k ∧ s4 = .slice a m c ∧ Hid (mayAll Q k ∧ m = (wrE Q k).length) ∧ Hid (Below w.heap.size w wr) ∧ Hid (wr.ownsRow w.heap.size 5 1 (.slice a m c) m (u8s (wrE Q k)))) (fun _ s5 _ => len - (intOf s5).toNat)
  case atStart => exact ⟨0, 0, none, 0, by omega, by omega, rfl, rfl, Lib.hid ⟨fun i hi => by omega, rfl⟩, Lib.hid (Below.refl _ _), Lib.hid (World.ownsRow_nil _ _ _ _)⟩
  case round =>
    obtain ⟨k, m, a, c, hk, hm, rfl, rfl, HM, HB, HO⟩ := hrel
    by_cases hlt : k < len
    · have hki : (k : Int) < len := by omega
      obtain ⟨b, off, hp, hc⟩ := H.out.mem
      obtain ⟨rfl, hb⟩ := hp (by omega)
      obtain ⟨c0', c1'⟩ := hc k hlt
      have hok := H.out.ok k hlt
      obtain ⟨q, hq⟩ : ∃ q, Q k = q := ⟨_, rfl⟩
      have HQ := Lib.hid hq
      rw [hq] at c0' c1' hok
      obtain ⟨id, qa, qn, qc, qZ⟩ := q
      simp only at c0' c1'
      have OK := Lib.hid hok
      have qle := hok.z.le
      have qmx := hok.z.max
      simp only at qle qmx
      have FC : Hid (∀ y, Below w.heap.size w y → y.cell? ⟨b, off + k * 2, none⟩ = some (.int .i64 id) ∧ y.cell? ⟨b, off + k * 2 + 1, none⟩ = some (.slice qa qn qc)) := Lib.hid (fun y hy => ⟨Below.cell' hy hb c0', Below.cell' hy hb c1'⟩)
      clear hp hc hq hok c0' c1'
      obtain ⟨c0, c1⟩ := FC.out _ HB.out
      cases hmay : mayE id qn with
      | false =>
        have hno : Hid (¬ okW Q len) := Lib.hid (fun h => by
          have := h.1 k hlt
          rw [HQ.out] at this
          simp only at this
          rw [hmay] at this
          cases this)
        have hcase : id < 1 ∨ (¬ id < 1 ∧ 14 < id) ∨ (¬ id < 1 ∧ ¬ 14 < id ∧ (qn : Int) < 1) ∨ (¬ id < 1 ∧ ¬ 14 < id ∧ ¬ (qn : Int) < 1 ∧ (16 : Int) < qn) := by
          rw [Bool.eq_false_iff, Ne, mayE_iff] at hmay
          omega
        clear hmay
        rcases hcase with h1 | ⟨h1, h2⟩ | ⟨h1, h2, h3⟩ | ⟨h1, h2, h3, h4⟩
        all_goals
          go_wp2_with fail
          refine bodyPost_ret (by simp [results, Try.results18, go_sem]; try rfl) rfl ?_
          exact ⟨HB.out, .inr ⟨hno.out, none, 0, 0, rfl, fun _ => rfl⟩⟩
      | true =>
        obtain ⟨m1, m2, m3, m4⟩ := (mayE_iff _ _).1 hmay
        have t1 : ¬ id < 1 := by omega
        have t2 : ¬ 14 < id := by omega
        have t3 : ¬ (qn : Int) < 1 := by omega
        have t4 : ¬ (16 : Int) < qn := by omega
        have HMY : Hid (mayAll Q (k + 1)) := Lib.hid (fun i hi => by
          by_cases hik : i < k
          · exact HM.out.1 i hik
          · obtain rfl : i = k := by omega
            rw [HQ.out]; exact hmay)
        obtain ⟨hd, hhd⟩ : ∃ x, 16 * id + (qn : Int) - 1 = x := ⟨_, rfl⟩
        have hor : (16 * id + (qn : Int) - 1) % 256 = hd := by omega
        have hor2 : IntKind.u8.wrap (16 * id + (qn : Int) - 1) = hd := by rw [IntKind.wrap_u8]; omega
        have bd : Below wr.heap.size wr wr.drew := (Below.refl _ _).drew
        obtain ⟨a3, c3, V3, A3, B3⟩ := app1 elU8 (own_below HO.out bd) [.int .u8 hd] rfl (one_cell rfl) (by omega) (by omega) HB.out.size
        have bw3 := HB.out.drew.trans B3
        have hz3 := (OK.out.keep bw3).z
        simp only at hz3
        obtain ⟨a4, c4, V4, A4, B4⟩ := appS elU8 A3.own qa qn qc (u8s (zs qZ qn)) hz3.nils (by rw [u8s_len, zs_len, Nat.mul_one]) hz3.news' (u8s_one _) (by omega) (by omega) bw3.size
        have hsucc : wrE Q (k + 1) = wrE Q k ++ [hd] ++ zs qZ qn := by rw [wrE_succ, HQ.out]; unfold elL; simp only; rw [hhd, List.append_assoc]; rfl
        have O4 : Hid (V4.ownsRow w.heap.size 5 1 (.slice a4 (m + 1 + qn) c4) (m + 1 + qn) (u8s (wrE Q (k + 1)))) := Lib.hid (by rw [hsucc, u8s_app, u8s_app]; exact A4.own)
        have HM4 : Hid (mayAll Q (k + 1) ∧ m + 1 + qn = (wrE Q (k + 1)).length) := Lib.hid ⟨HMY.out, by rw [hsucc, List.length_append, List.length_append, zs_len, ← HM.out.2]; rfl⟩
        have BW3 := Lib.hid bw3
        have BW4 := Lib.hid (bw3.trans B4)
        have HA3 := Lib.hid A3.run
        have HA4 := Lib.hid A4.run
        have k1 : IntKind.i64.wrap ((k : Int) + 1) = (k : Int) + 1 := IntWalk.i64_in _ (by omega)
        have q1 : IntKind.i64.wrap (16 * id) = 16 * id := IntWalk.i64_in _ (by omega)
        have q2 : IntKind.i64.wrap (16 * id + (qn : Int)) = 16 * id + (qn : Int) := IntWalk.i64_in _ (by omega)
        have q3 : IntKind.i64.wrap (16 * id + (qn : Int) - 1) = 16 * id + (qn : Int) - 1 := IntWalk.i64_in _ (by omega)
        have D0 := Lib.hid HB.out.drew
        have D1 : Hid (Below w.heap.size w (wr.drew.alloc (.cells #[.int .u8 hd] 5))) := Lib.hid (HB.out.drew.alloc HB.out.size _)
        clear A3 B3 bw3 hz3 A4 B4 hsucc hhd hmay bd
        go_upto_region 8 with (fail)
        have hne : Nonempty { w' : World // Below w.heap.size w w' } := ⟨⟨w, Below.refl _ _⟩⟩
        clear c0 c1
        have c0 : ∀ y : { w' : World // Below w.heap.size w w' }, y.1.cell? ⟨b, off + k * 2, none⟩ = some (.int .i64 id) := fun y => (FC.out _ y.2).1
        have c1 : ∀ y : { w' : World // Below w.heap.size w w' }, y.1.cell? ⟨b, off + k * 2 + 1, none⟩ = some (.slice qa qn qc) := fun y => (FC.out _ y.2).2
        refine MixC.wp_region_mix [11, 12, 18] (Below w.heap.size w) D0.out (by kernel_rfl) (by kernel_rfl) (by kernel_rfl) ?_
        (iterate 11 (refine MixC.mix_read rfl (fun K hK => ?_); go_simp; refine hK _ ?_; clear hK K))
        refine MixC.mix_move rfl (fun K hK => ?_)
        go_simp
        refine ⟨D1.out, hK _ _ ?_⟩
        clear hK K
        (refine MixC.mix_move rfl (fun K hK => ?_); refine Eq.mpr (if_pos rfl) ?_; refine mv_app (s := .tmp 41) (x := .tmp 52) (t := 25) rfl rfl rfl HA3.out BW3.out (hK _ _ ?_); clear hK K)
        (iterate 5 (refine MixC.mix_read rfl (fun K hK => ?_); go_simp; refine hK _ ?_; clear hK K))
        (refine MixC.mix_move rfl (fun K hK => ?_); refine Eq.mpr (if_pos rfl) ?_; refine mv_app (s := .tmp 53) (x := .tmp 58) (t := 25) rfl rfl rfl HA4.out BW4.out (hK _ _ ?_); clear hK K)
        (refine MixC.mix_read rfl (fun K hK => ?_); go_simp; refine hK _ ?_; clear hK K)
        refine MixC.mix_nil ?_
        change Exit.inBlock _ _ _ _ V4
        clear c0 c1 hne
        go_wp2_with fail
        go_roundw
        case rel => exact ⟨k + 1, m + 1 + qn, a4, c4, by omega, by omega, by go_num, rfl, HM4, BW4, O4⟩
        case measure => simp [intOf] <;> omega
    · obtain rfl : len = k := by omega
      clear hlt
      obtain ⟨L, hL⟩ : ∃ L, wrE Q len = L := ⟨_, rfl⟩
      have hO : Oct L := by rw [← hL]; exact wrE_oct (Q := Q) H.out.ok HM.out.1
      obtain ⟨p1, p2, p3⟩ := padN_spec m 4 (by omega)
      obtain ⟨P, hP⟩ : ∃ P, padN m 4 = P := ⟨_, rfl⟩
      rw [hP] at p1 p2 p3
      have HO0 : Hid (Oct L) := Lib.hid hO
      have P1 := Lib.hid p1
      have P3 := Lib.hid p3
      have HLL : Hid (wrE Q len = L ∧ m = L.length ∧ filL L = L ++ List.replicate P 0) := Lib.hid ⟨hL, by rw [← hL]; exact HM.out.2, by unfold filL; rw [← hL, ← HM.out.2, hP]⟩
      have O1 : Hid (wr.ownsRow w.heap.size 5 1 (.slice a (m + 0) c) (m + 0) (u8s (L ++ List.replicate 0 0))) := Lib.hid (by
        have := HO.out
        rw [hL] at this
        simpa using this)
      clear hO p1 p3 hP hL HO
      go_wp2_with fail
      go_loopw [4] (fun s4 wx => ∃ (j : Nat) (a' : Option Addr) (c' : Nat), j ≤ P ∧ s4 = .slice a' (m + j) c' ∧ Hid (Below w.heap.size w wx) ∧ Hid (wx.ownsRow w.heap.size 5 1 (.slice a' (m + j) c') (m + j) (u8s (L ++ List.replicate j 0)))) (fun s4 _ => match s4 with | .slice _ q _ => m + P - q | _ => 0)
      case atStart => exact ⟨0, a, c, by omega, rfl, HB, O1⟩
      case round =>
        clear O1 HB
        obtain ⟨j, a', c', hj, rfl, HB, HO⟩ := hrel
        by_cases hjP : j < P
        · have hr : (0 : Int) < ((m : Int) + j) % 4 := by
            have := P3.out j hjP
            omega
          have tmd : ((m : Int) + j).tmod 4 = ((m : Int) + j) % 4 := Int.tmod_eq_emod_of_nonneg (by omega)
          obtain ⟨a3, c3, V3, A3, B3⟩ := app1 elU8 HO.out [.int .u8 0] rfl (one_cell rfl) (by omega) (by omega) HB.out.size
          have O3 : Hid (V3.ownsRow w.heap.size 5 1 (.slice a3 (m + (j + 1)) c3) (m + (j + 1)) (u8s (L ++ List.replicate (j + 1) 0))) := Lib.hid (by rw [rep_succ, u8s_app]; exact A3.own)
          have B3' := Lib.hid (HB.out.trans B3)
          have HA3 := Lib.hid A3.run
          clear A3 B3
          go_wp2_with (at_builtin; refine wpList_of_append rfl (.tmp 64) (.tmp 65) 25 rfl _ _ _ rfl rfl HA3.out ?_)
          go_roundw
          case rel => exact ⟨j + 1, a3, c3, by omega, rfl, B3', O3⟩
          case measure => simp <;> omega
        · obtain rfl : P = j := by omega
          have hr : ¬ (0 : Int) < ((m : Int) + P) % 4 := by
            have := P1.out
            omega
          have tmd : ((m : Int) + P).tmod 4 = ((m : Int) + P) % 4 := Int.tmod_eq_emod_of_nonneg (by omega)
          have hOct : Oct (L ++ List.replicate P 0) := HO0.out.app (fun x hx => by rw [List.mem_replicate] at hx; rw [hx.2]; omega)
          obtain ⟨hml, a5, c5, hsl, hbs⟩ := BS.own HO.out hOct (by omega)
          injection hsl with e1 _ e3
          subst e1 e3
          have BL9 : Hid (BL wr a' (m + P) c' (filL (wrE Q len))) := Lib.hid (by
            rw [HLL.out.1, HLL.out.2.2]
            exact ⟨hml, hbs⟩)
          clear hbs hml hOct hjP
          by_cases h1020 : (m : Int) + P ≤ 1020
          · go_wp2_with fail
            refine bodyPost_ret (by simp [results, Try.results18, go_sem]; try rfl) rfl ?_
            exact ⟨HB.out, .inl ⟨⟨HM.out.1, by have := BL9.out.1; omega⟩, a', m + P, c', by simp [h1020], BL9.out⟩⟩
          · go_wp2_with fail
            refine bodyPost_ret (by simp [results, Try.results18, go_sem]; try rfl) rfl ?_
            exact ⟨HB.out, .inr ⟨fun h => by have := h.2; have := BL9.out.1; omega, a', m + P, c', by simp [h1020], fun h => by cases h⟩⟩
end Go.Proofs.Ytihbceippcgfgaa
