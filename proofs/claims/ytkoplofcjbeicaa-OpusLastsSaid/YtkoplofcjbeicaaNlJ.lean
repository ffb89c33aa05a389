/-
  Chapter 41: Together, and the reference's.
-/
import Derived.Test.YtkoplofcjbeicaaNlI
namespace Go.Proofs.Ytkoplofcjbeicaa
open Go.RowKit
set_option linter.unusedVariables false
set_option linter.unusedSimpArgs false
attribute [local irreducible] wpStill wpQuiet MixC.wpMix
attribute [local go_sem] MixC.rdOp MixC.rd MixC.rdUpon MixC.mvUpon

def GoodU (U : Nat → Sl) (K : Nat) : Prop := 1 ≤ K ∧ ∀ i, i < K → okU (U i)
def TgAny (U : Nat → Sl) (K : Nat) (r rb : Value) (w : World) (e : Ending) (w' : World) : Prop :=
  (GoodU U K ∧ TgPost U K r w e w') ∨ (¬ GoodU U K ∧ e = .returned (.tuple #[.slice none 0 0, rb]) ∧ Below w.heap.size w w')
theorem u8_own (w : World) (x : Int) (G : Nat) (hG : G ≤ w.heap.size) : (w.alloc (.cells #[.int .u8 x] 5)).ownsRow G 5 1 (.slice (some ⟨w.heap.size, 0, none⟩) 1 1) 1 (u8s [x]) :=
  ⟨rfl, .inr ⟨w.heap.size, 1, _, rfl, hG, alloc_blk_new, Nat.le_refl _, by unfold maxLen; omega, rfl, rfl⟩⟩
set_option maxRecDepth 100000 in
set_option maxHeartbeats 4000000 in
theorem tog_any (B : Nat) (ad : Option Addr) (K c : Nat) (U : Nat → Sl) (w : World) (h : Sls B w ad K c U) (hB : B ≤ w.heap.size) (hK : K ≤ 40) :
    Calls Try.prog 32 #[.slice ad K c] w (TgAny U K (.int .i64 0) (.int .i64 1) w) := by
  have H := Lib.hid h
  have hle := h.le
  have hmx := h.max
  clear h
  rcases Nat.eq_zero_or_pos K with h0 | h0
  · subst h0
    have hbad : Hid (¬ GoodU U 0) := Lib.hid (fun h => by have := h.1; omega)
    go_enter Try.func32, Try.ntmps32
    go_wp2_with fail
    go_returns
    exact .inr ⟨hbad.out, rfl, Below.refl _ _⟩
  have k0 : ((K : Int) == 0) = false := by simp; omega
  go_enter Try.func32, Try.ntmps32
  go_wp2_with fail
  go_loopw [4, 5, 13] (fun st so si wx => ∃ (i N c' : Nat) (a' : Option Addr) (t : Int), i ≤ K ∧ si = .int .i64 i ∧ st = .int .u8 (t * 32) ∧ so = .slice a' N c' ∧ (0 ≤ t ∧ t ≤ 7) ∧ N ≤ 65537 * i ∧ Hid (t = tp U i) ∧ Hid (N = (bdL U i).length) ∧ Hid (∀ j, j < i → okU (U j)) ∧ Hid (wx.ownsRow w.heap.size 5 1 (.slice a' N c') N (u8s (bdL U i)) ∧ Oct (bdL U i)) ∧ Hid (Below w.heap.size w wx)) (fun _ _ si _ => K - (intOf si).toNat)
  case atStart => exact ⟨0, 0, 0, none, 0, by omega, rfl, rfl, rfl, by omega, by omega, Lib.hid rfl, Lib.hid rfl, Lib.hid (fun j hj => by omega), Lib.hid ⟨World.ownsRow_nil _ _ _ _, Oct.nil⟩, Lib.hid (Below.refl _ _)⟩
  case round =>
    obtain ⟨i, N, c', a', t, hi, rfl, rfl, rfl, htb, hN, HT, HN, HO, HR, HB⟩ := hrel
    by_cases hlt : i < K
    · have hw := H.out.keep (HB.out.mono hB)
      obtain ⟨bl, ol, hp, hc⟩ := hw.mem
      obtain ⟨rfl, hbl⟩ := hp (by omega)
      have ck := hc i hlt
      have hbs := hw.ok i hlt
      have hwB : B ≤ wr.heap.size := by have := HB.out.size; omega
      obtain ⟨x, hx⟩ : ∃ x, x = U i := ⟨_, rfl⟩
      rw [← hx] at ck hbs
      have HX := Lib.hid hx
      clear hx hp hc hw
      obtain ⟨ai, ni, ci, Zi⟩ := x
      unfold Sl.v at ck
      simp only at ck hbs
      by_cases hok : isU Zi ni ∧ ni ≤ 65535
      · obtain ⟨hu, hn⟩ := hok
        have HU := Lib.hid (isUnit_any B ai ni ci Zi wr hbs true ⟨fun _ => hu, fun _ => rfl⟩)
        have t1 : decide ((65535 : Int) < (ni : Int)) = false := by simp; omega
        have hu0 := hu.1
        obtain ⟨bi, oi, he, hbi, hci⟩ := hbs.at_ (by have := hbs.le; omega)
        cases he
        have c0 := hci 0 hu0
        rw [Nat.add_zero] at c0
        have hz := hbs.bd 0 hu0
        obtain ⟨n1, -⟩ := nb (Zi 0) hz
        have hnl := hbs.le
        obtain ⟨t2, ht2⟩ : ∃ t2, t2 = tp U (i + 1) := ⟨_, rfl⟩
        have htt : t2 = if t < Zi 0 / 32 then Zi 0 / 32 else t := by rw [ht2]; unfold tp; rw [← HX.out, ← HT.out]
        have hmax : max (t * 32) (Zi 0 / 32 * 32) = t2 * 32 := by rw [htt]; split <;> omega
        have ht2b : 0 ≤ t2 ∧ t2 ≤ 7 := by rw [htt]; split <;> omega
        have HT2 := Lib.hid ht2
        have HBS := Lib.hid hbs
        have HO2 : Hid (∀ j, j < i + 1 → okU (U j)) := Lib.hid (fun j hj => by
          by_cases e : j = i
          · subst e; rw [← HX.out]; exact ⟨hu, hn⟩
          · exact HO.out j (by omega))
        have HEL : Hid (bdL U i ++ [(ni : Int) / 256, (ni : Int) % 256] ++ zs Zi ni = bdL U (i + 1)) := Lib.hid (by rw [bdL_succ, ← HX.out, List.append_assoc]; rfl)
        have HOC : Hid (Oct (bdL U (i + 1))) := Lib.hid (by rw [bdL_succ, ← HX.out]; exact HR.out.2.app (eL_oct (s := ⟨_, ni, ci, Zi⟩) hbs hn))
        have HPL := Lib.hid (putL2n (ni : Int) (by omega) (by omega))
        clear hu hbs hci htt ht2
        go_wp2_with fail
        refine HU.out.mono ?_
        rintro e w1 ⟨rfl, rfl⟩
        go_wp2_with fail
        refine (put_lb a' N c' (bdL U i) w.heap.size 2 ni _ wr HR.out.1 HR.out.2 (by omega) (by omega) (by omega) (by omega) (by omega) HPL.out).mono ?_
        rintro e w2 ⟨a2, c2, rfl, o2, b2⟩
        have hb2 : Below w.heap.size w w2 := HB.out.trans (b2.mono HB.out.size)
        obtain ⟨a3, c3, W3, r3, o3, b3⟩ := app_big (o2.mono HB.out.size) ((HBS.out.keep (b2.mono hwB))) (by omega) hb2.size
        have HRUN := Lib.hid r3
        have HR3 : Hid (W3.ownsRow w.heap.size 5 1 (.slice a3 (N + 2 + ni) c3) (N + 2 + ni) (u8s (bdL U (i + 1))) ∧ Oct (bdL U (i + 1))) := Lib.hid ⟨by rw [← HEL.out]; exact o3, HOC.out⟩
        have HB3 := Lib.hid (hb2.trans b3)
        have HN3 : Hid (N + 2 + ni = (bdL U (i + 1)).length) := Lib.hid (by rw [bdL_len, ← HX.out, ← HN.out]; show N + 2 + ni = N + (2 + ni); omega)
        clear o2 b2 hb2 r3 o3 b3
        go_wp2_with (at_builtin; refine wpList_of_append rfl (.tmp 35) (.tmp 36) 22 rfl _ _ _ rfl rfl HRUN.out ?_)
        go_roundw
        case rel => exact ⟨i + 1, N + 2 + ni, c3, a3, t2, by omega, by go_num, rfl, rfl, ht2b, by omega, HT2, HN3, HO2, HR3, HB3⟩
        case measure => simp [intOf] <;> omega
      · have hbad : Hid (¬ GoodU U K) := Lib.hid (fun h => hok (by have := h.2 i hlt; rw [← HX.out] at this; exact this))
        by_cases hu : isU Zi ni
        · have HU := Lib.hid (isUnit_any B ai ni ci Zi wr hbs true ⟨fun _ => hu, fun _ => rfl⟩)
          have t1 : decide ((65535 : Int) < (ni : Int)) = true := by
            have : ¬ ni ≤ 65535 := fun h => hok ⟨hu, h⟩
            simp; omega
          clear hok hu hbs
          go_wp2_with fail
          refine HU.out.mono ?_
          rintro e w1 ⟨rfl, rfl⟩
          go_wp2_with fail
          go_returns
          exact .inr ⟨hbad.out, rfl, HB.out⟩
        · have HU := Lib.hid (isUnit_any B ai ni ci Zi wr hbs false ⟨fun h => (by cases h), fun h => absurd h hu⟩)
          clear hok hu hbs
          go_wp2_with fail
          refine HU.out.mono ?_
          rintro e w1 ⟨rfl, rfl⟩
          go_wp2_with fail
          go_returns
          exact .inr ⟨hbad.out, rfl, HB.out⟩
    · obtain rfl : K = i := by omega
      have ho := or24 t htb
      obtain ⟨-, hbb⟩ := bs_own HR.out.1 HR.out.2
      have bA : Below wr.heap.size wr (wr.alloc (.cells #[.int .u8 (t * 32 + 24)] 5)) := (Below.refl _ _).alloc (Nat.le_refl _) _
      obtain ⟨a3, c3, W3, r3, o3, b3⟩ := app_big (u8_own wr (t * 32 + 24) w.heap.size HB.out.size) (hbb.keep bA) (by omega) (by have := bA.size; have := HB.out.size; omega)
      have HRUN := Lib.hid r3
      have HG : Hid (GoodU U K) := Lib.hid ⟨h0, HO.out⟩
      have hzs : zs (gz (bdL U K)) N = bdL U K := by rw [HN.out]; exact zs_gz _
      have HR3 : Hid (W3.ownsRow w.heap.size 5 1 (.slice a3 (1 + N) c3) (1 + N) (u8s (tgL U K))) := Lib.hid (by unfold tgL; rw [← HT.out, ← hzs]; exact o3)
      have HOC : Hid (Oct (tgL U K)) := Lib.hid (by unfold tgL; rw [← HT.out]; exact Oct.app (fun x hx => by simp at hx; omega) HR.out.2)
      have HN3 : Hid (1 + N = (tgL U K).length) := Lib.hid (by unfold tgL; rw [List.length_append, ← HN.out]; rfl)
      have HB3 : Hid (Below w.heap.size w W3) := Lib.hid (HB.out.trans ((bA.mono HB.out.size).trans b3))
      clear hbb bA r3 o3 b3 hzs
      go_wp2_with (at_builtin; refine wpList_of_append rfl (.tmp 41) (.tmp 42) 22 rfl _ _ _ rfl rfl HRUN.out ?_)
      go_returns
      exact .inl ⟨HG.out, a3, 1 + N, c3, rfl, HN3.out, HR3.out, HOC.out, HB3.out⟩
end Go.Proofs.Ytkoplofcjbeicaa
