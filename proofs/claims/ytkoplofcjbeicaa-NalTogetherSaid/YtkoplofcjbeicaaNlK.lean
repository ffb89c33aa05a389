/-
  Chapter 41: the reference's Together.
-/
import Derived.Test.YtkoplofcjbeicaaNlJ
namespace Go.Proofs.Ytkoplofcjbeicaa
open Go.RowKit
set_option linter.unusedVariables false
set_option linter.unusedSimpArgs false
attribute [local irreducible] wpStill wpQuiet MixC.wpMix
attribute [local go_sem] MixC.rdOp MixC.rd MixC.rdUpon MixC.mvUpon

theorem zs_two (x y : Int) : zs (gz [x, y]) 2 = [x, y] := zs_gz [x, y]
set_option maxRecDepth 100000 in
set_option maxHeartbeats 4000000 in
theorem rtog_any (B : Nat) (ad : Option Addr) (K c : Nat) (U : Nat → Sl) (w : World) (h : Sls B w ad K c U) (hB : B ≤ w.heap.size) (hK : K ≤ 40) :
    Calls Try.prog 33 #[.slice ad K c] w (TgAny U K (.bool true) (.bool false) w) := by
  have H := Lib.hid h
  have hle := h.le
  have hmx := h.max
  clear h
  rcases Nat.eq_zero_or_pos K with h0 | h0
  · subst h0
    have hbad : Hid (¬ GoodU U 0) := Lib.hid (fun h => by have := h.1; omega)
    go_enter Try.func33, Try.ntmps33
    go_wp2_with fail
    go_returns
    exact .inr ⟨hbad.out, rfl, Below.refl _ _⟩
  have k0 : ((K : Int) == 0) = false := by simp; omega
  go_enter Try.func33, Try.ntmps33
  go_wp2_with fail
  go_loopw [4, 5, 6] (fun st so si wx => ∃ (i N c' : Nat) (a' : Option Addr) (t : Int), i ≤ K ∧ si = .int .i64 i ∧ st = .int .u8 t ∧ so = .slice a' N c' ∧ (0 ≤ t ∧ t ≤ 7) ∧ N ≤ 65537 * i ∧ Hid (t = tp U i) ∧ Hid (N = (bdL U i).length) ∧ Hid (∀ j, j < i → okU (U j)) ∧ Hid (wx.ownsRow w.heap.size 5 1 (.slice a' N c') N (u8s (bdL U i)) ∧ Oct (bdL U i)) ∧ Hid (Below w.heap.size w wx)) (fun _ _ si _ => K - (intOf si).toNat)
  case atStart => exact ⟨0, 0, 0, none, 0, by omega, rfl, rfl, rfl, by omega, by omega, Lib.hid rfl, Lib.hid rfl, Lib.hid (fun j hj => by omega), Lib.hid ⟨World.ownsRow_nil _ _ _ _, Oct.nil⟩, Lib.hid (Below.refl _ _)⟩
  case round =>
    obtain ⟨i, N, c', a', t, hi, rfl, rfl, rfl, htb, hN, HT, HN, HO, HR, HB⟩ := hrel
    by_cases hlt : i < K
    · have hw := H.out.keep (HB.out.mono hB)
      obtain ⟨bl, ol, hp, hc⟩ := hw.mem
      obtain ⟨rfl, hbl⟩ := hp (by omega)
      have ck := hc i hlt
      have hbs := hw.ok i hlt
      have hwB : B ≤ wr.heap.size := by have := HB.out.size; omega
      obtain ⟨x, hx⟩ : ∃ x, x = U i := ⟨_, rfl⟩
      have HCK : Hid (∀ y : { w' : World // Below w.heap.size w w' }, y.1.cell? ⟨bl, ol + i, none⟩ = some x.v ∧ BS B y.1 x.a x.n x.c x.Z) := Lib.hid (fun y => by
        have hw := H.out.keep (y.2.mono hB)
        obtain ⟨bl', ol', hp, hc⟩ := hw.mem
        obtain ⟨he, _⟩ := hp (by omega)
        cases he
        rw [hx]
        exact ⟨hc i hlt, hw.ok i hlt⟩)
      rw [← hx] at ck hbs
      have HX := Lib.hid hx
      clear hx hp hc hw
      obtain ⟨ai, ni, ci, Zi⟩ := x
      unfold Sl.v at ck
      simp only at ck hbs
      by_cases hok : isU Zi ni ∧ ni ≤ 65535
      · obtain ⟨hu, hn⟩ := hok
        have HU := Lib.hid (runit_any B ai ni ci Zi wr hbs true ⟨fun _ => hu, fun _ => rfl⟩)
        have t1 : decide ((65535 : Int) < (ni : Int)) = false := by simp; omega
        have hu0 := hu.1
        obtain ⟨bi, oi, he, hbi, hci⟩ := hbs.at_ (by have := hbs.le; omega)
        cases he
        have c0 := hci 0 hu0
        rw [Nat.add_zero] at c0
        have hz := hbs.bd 0 hu0
        have hnl := hbs.le
        have HK1 : Hid (∀ y : { w' : World // Below w.heap.size w w' }, y.1.cell? ⟨bl, ol + i, none⟩ = some (.slice (some ⟨bi, oi, none⟩) ni ci)) := Lib.hid (fun y => (HCK.out y).1)
        have HO2 : Hid (∀ j, j < i + 1 → okU (U j)) := Lib.hid (fun j hj => by
          by_cases e : j = i
          · subst e; rw [← HX.out]; exact ⟨hu, hn⟩
          · exact HO.out j (by omega))
        have HEL : bdL U i ++ [(ni : Int) / 256, (ni : Int) % 256] ++ zs Zi ni = bdL U (i + 1) := by rw [bdL_succ, ← HX.out, List.append_assoc]; rfl
        have HOC : Oct (bdL U (i + 1)) := by rw [bdL_succ, ← HX.out]; exact HR.out.2.app (eL_oct (s := ⟨_, ni, ci, Zi⟩) hbs hn)
        have D0 : Hid (Below w.heap.size w wr.drew) := Lib.hid HB.out.drew
        have d1 : Below w.heap.size w (wr.alloc (.cells #[.int .u8 ((ni : Int) / 256), .int .u8 ((ni : Int) % 256)] 5)).drew := (HB.out.alloc HB.out.size _).drew
        have bA : Below wr.heap.size wr (wr.alloc (.cells #[.int .u8 ((ni : Int) / 256), .int .u8 ((ni : Int) % 256)] 5)).drew := ((Below.refl _ _).alloc (Nat.le_refl _) _).drew
        have htw : BS (wr.heap.size + 1) (wr.alloc (.cells #[.int .u8 ((ni : Int) / 256), .int .u8 ((ni : Int) % 256)] 5)).drew (some ⟨wr.heap.size, 0, none⟩) 2 2 (gz [(ni : Int) / 256, (ni : Int) % 256]) := bs_two wr.drew ((ni : Int) / 256) ((ni : Int) % 256) (by omega) (by omega)
        obtain ⟨a2, c2, W2, r2, o2, b2⟩ := app_big (own_below HR.out.1 bA) htw (by omega) d1.size
        rw [zs_two] at o2
        have d2 := d1.trans b2
        obtain ⟨a3, c3, W3, r3, o3, b3⟩ := app_big o2 (HCK.out ⟨W2, d2⟩).2 (by show N + 2 + ni ≤ _; omega) d2.size
        have D1 := Lib.hid d1
        have D2 := Lib.hid d2
        have D3 := Lib.hid (d2.trans b3)
        have HR1 := Lib.hid r2
        have HR2 : Hid (∀ ty, (Builtin.append_ #[22, 22] ty #[.slice a2 (N + 2) c2, .slice (some ⟨bi, oi, none⟩) ni ci]).run Try.prog W2 = .ok (.slice a3 (N + 2 + ni) c3) W3) := Lib.hid r3
        have HR3 : Hid (W3.ownsRow w.heap.size 5 1 (.slice a3 (N + 2 + ni) c3) (N + 2 + ni) (u8s (bdL U (i + 1))) ∧ Oct (bdL U (i + 1))) := Lib.hid ⟨by rw [← HEL]; exact o3, HOC⟩
        have HN3 : Hid (N + 2 + ni = (bdL U (i + 1)).length) := Lib.hid (by rw [bdL_len, ← HX.out, ← HN.out]; show N + 2 + ni = N + (2 + ni); omega)
        have q1 : IntKind.i64.wrap ((ni : Int).tdiv 256) = (ni : Int) / 256 := by rw [Int.tdiv_eq_ediv_of_nonneg (by omega), IntKind.wrap_i64]; omega
        have q0 : IntKind.i64.wrap ((ni : Int) / 256) = (ni : Int) / 256 := by rw [IntKind.wrap_i64]; omega
        have q6 : IntKind.i64.wrap ((ni : Int) % 256) = (ni : Int) % 256 := by rw [IntKind.wrap_i64]; omega
        have q2 : IntKind.u8.wrap ((ni : Int) / 256) = (ni : Int) / 256 := by rw [IntKind.wrap_u8]; omega
        have q3 : (ni : Int).tmod 256 = (ni : Int) % 256 := Int.tmod_eq_emod_of_nonneg (by omega)
        have q4 : IntKind.u8.wrap ((ni : Int) % 256) = (ni : Int) % 256 := by rw [IntKind.wrap_u8]; omega
        have q5 : (ni : Int) / 256 % 256 = (ni : Int) / 256 := by omega
        clear hu hbs hci HEL HOC d1 bA htw r2 o2 b2 d2 r3 o3 b3 HCK
        by_cases hq : t < Zi 0 / 32
        · have u2 : decide (t < Zi 0 / 32) = true := by simp; omega
          have hT2 : Zi 0 / 32 = tp U (i + 1) := by
            unfold tp; rw [← HX.out, ← HT.out]
            show _ = if t < Zi 0 / 32 then Zi 0 / 32 else t
            rw [if_pos hq]
          have HT2 := Lib.hid hT2
          clear hT2 hq
          go_wp2_with fail
          refine HU.out.mono ?_
          rintro e w1 ⟨rfl, rfl⟩
          go_upto_region 12 with (fail)
          have hne : Nonempty { w' : World // Below w.heap.size w w' } := ⟨⟨w, Below.refl _ _⟩⟩
          have k1 := HK1.out
          refine MixC.wp_region_mix [15, 16, 21] (Below w.heap.size w) D0.out (by kernel_rfl) (by kernel_rfl) (by kernel_rfl) ?_
          (iterate 15 (refine MixC.mix_read rfl (fun K hK => ?_); go_simp; refine hK _ ?_; clear hK K))
          refine MixC.mix_move rfl (fun K hK => ?_)
          go_simp
          refine ⟨D1.out, hK _ _ ?_⟩
          clear hK K
          (refine MixC.mix_move rfl (fun K hK => ?_); refine Eq.mpr (if_pos rfl) ?_; refine mv_app (s := .tmp 46) (x := .tmp 61) (t := 22) rfl rfl rfl HR1.out D2.out (hK _ _ ?_); clear hK K)
          (iterate 4 (refine MixC.mix_read rfl (fun K hK => ?_); go_simp; refine hK _ ?_; clear hK K))
          (refine MixC.mix_move rfl (fun K hK => ?_); refine Eq.mpr (if_pos rfl) ?_; refine mv_app (s := .tmp 62) (x := .tmp 66) (t := 22) rfl rfl rfl HR2.out D3.out (hK _ _ ?_); clear hK K)
          (refine MixC.mix_read rfl (fun K hK => ?_); go_simp; refine hK _ ?_; clear hK K)
          refine MixC.mix_nil ?_
          change Exit.inBlock _ _ _ _ W3
          clear k1 hne
          go_wp2_with fail
          go_roundw
          case rel => exact ⟨i + 1, N + 2 + ni, c3, a3, Zi 0 / 32, by omega, by go_num, rfl, rfl, by omega, by omega, HT2, HN3, HO2, HR3, D3⟩
          case measure => simp [intOf] <;> omega
        · have u2 : decide (t < Zi 0 / 32) = false := by simp; omega
          have hT2 : t = tp U (i + 1) := by
            unfold tp; rw [← HX.out, ← HT.out]
            show _ = if t < Zi 0 / 32 then Zi 0 / 32 else t
            rw [if_neg hq]
          have HT2 := Lib.hid hT2
          clear hT2 hq
          go_wp2_with fail
          refine HU.out.mono ?_
          rintro e w1 ⟨rfl, rfl⟩
          go_upto_region 12 with (fail)
          have hne : Nonempty { w' : World // Below w.heap.size w w' } := ⟨⟨w, Below.refl _ _⟩⟩
          have k1 := HK1.out
          refine MixC.wp_region_mix [15, 16, 21] (Below w.heap.size w) D0.out (by kernel_rfl) (by kernel_rfl) (by kernel_rfl) ?_
          (iterate 15 (refine MixC.mix_read rfl (fun K hK => ?_); go_simp; refine hK _ ?_; clear hK K))
          refine MixC.mix_move rfl (fun K hK => ?_)
          go_simp
          refine ⟨D1.out, hK _ _ ?_⟩
          clear hK K
          (refine MixC.mix_move rfl (fun K hK => ?_); refine Eq.mpr (if_pos rfl) ?_; refine mv_app (s := .tmp 46) (x := .tmp 61) (t := 22) rfl rfl rfl HR1.out D2.out (hK _ _ ?_); clear hK K)
          (iterate 4 (refine MixC.mix_read rfl (fun K hK => ?_); go_simp; refine hK _ ?_; clear hK K))
          (refine MixC.mix_move rfl (fun K hK => ?_); refine Eq.mpr (if_pos rfl) ?_; refine mv_app (s := .tmp 62) (x := .tmp 66) (t := 22) rfl rfl rfl HR2.out D3.out (hK _ _ ?_); clear hK K)
          (refine MixC.mix_read rfl (fun K hK => ?_); go_simp; refine hK _ ?_; clear hK K)
          refine MixC.mix_nil ?_
          change Exit.inBlock _ _ _ _ W3
          clear k1 hne
          go_wp2_with fail
          go_roundw
          case rel => exact ⟨i + 1, N + 2 + ni, c3, a3, t, by omega, by go_num, rfl, rfl, by omega, by omega, HT2, HN3, HO2, HR3, D3⟩
          case measure => simp [intOf] <;> omega
      · have hbad : Hid (¬ GoodU U K) := Lib.hid (fun h => hok (by have := h.2 i hlt; rw [← HX.out] at this; exact this))
        by_cases hu : isU Zi ni
        · have HU := Lib.hid (runit_any B ai ni ci Zi wr hbs true ⟨fun _ => hu, fun _ => rfl⟩)
          have t1 : decide ((65535 : Int) < (ni : Int)) = true := by
            have : ¬ ni ≤ 65535 := fun h => hok ⟨hu, h⟩
            simp; omega
          clear hok hu hbs HCK
          go_wp2_with fail
          refine HU.out.mono ?_
          rintro e w1 ⟨rfl, rfl⟩
          go_wp2_with fail
          go_returns
          exact .inr ⟨hbad.out, rfl, HB.out⟩
        · have HU := Lib.hid (runit_any B ai ni ci Zi wr hbs false ⟨fun h => (by cases h), fun h => absurd h hu⟩)
          clear hok hu hbs HCK
          go_wp2_with fail
          refine HU.out.mono ?_
          rintro e w1 ⟨rfl, rfl⟩
          go_wp2_with fail
          go_returns
          exact .inr ⟨hbad.out, rfl, HB.out⟩
    · obtain rfl : K = i := by omega
      obtain ⟨-, hbb⟩ := bs_own HR.out.1 HR.out.2
      have bA : Below wr.heap.size wr (wr.alloc (.cells #[.int .u8 (32 * t + 24)] 5)) := (Below.refl _ _).alloc (Nat.le_refl _) _
      obtain ⟨a3, c3, W3, r3, o3, b3⟩ := app_big (u8_own wr (32 * t + 24) w.heap.size HB.out.size) (hbb.keep bA) (by omega) (by have := bA.size; have := HB.out.size; omega)
      have HRUN := Lib.hid r3
      have HG : Hid (GoodU U K) := Lib.hid ⟨h0, HO.out⟩
      have hzs : zs (gz (bdL U K)) N = bdL U K := by rw [HN.out]; exact zs_gz _
      have h32 : tp U K * 32 + 24 = 32 * t + 24 := by rw [← HT.out]; omega
      have HR3 : Hid (W3.ownsRow w.heap.size 5 1 (.slice a3 (1 + N) c3) (1 + N) (u8s (tgL U K))) := Lib.hid (by unfold tgL; rw [h32, ← hzs]; exact o3)
      have HOC : Hid (Oct (tgL U K)) := Lib.hid (by unfold tgL; rw [h32]; exact Oct.app (fun x hx => by simp at hx; omega) HR.out.2)
      have HN3 : Hid (1 + N = (tgL U K).length) := Lib.hid (by unfold tgL; rw [List.length_append, ← HN.out]; rfl)
      have HB3 : Hid (Below w.heap.size w W3) := Lib.hid (HB.out.trans ((bA.mono HB.out.size).trans b3))
      clear hbb bA r3 o3 b3 hzs h32
      go_wp2_with (at_builtin; refine wpList_of_append rfl (.tmp 71) (.tmp 72) 22 rfl _ _ _ rfl rfl HRUN.out ?_)
      go_returns
      exact .inl ⟨HG.out, a3, 1 + N, c3, rfl, HN3.out, HR3.out, HOC.out, HB3.out⟩
end Go.Proofs.Ytkoplofcjbeicaa
