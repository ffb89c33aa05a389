/-
  Chapter 41: Put of a payload that has several; the walk of NalTogether.
-/
import Derived.Test.YtkoplofcjbeicaaNlL
import Derived.Test.YtkoplofcjbeicaaNlK
namespace Go.Proofs.Ytkoplofcjbeicaa
open Go.RowKit
set_option linter.unusedVariables false
set_option linter.unusedSimpArgs false
attribute [local irreducible] wpStill wpQuiet MixC.wpMix

theorem tg_zero (U : Nat → Sl) (K : Nat) : gz (tgL U K) 0 = tp U K * 32 + 24 := rfl
set_option maxRecDepth 100000 in
set_option maxHeartbeats 2000000 in
theorem units_tg (U : Nat → Sl) (K bb N cc B : Nat) (w : World) (hG : GoodU U K) (hb : BS B w (some ⟨bb, 0, none⟩) N cc (gz (tgL U K))) (hB : B ≤ w.heap.size) (hN : N = (tgL U K).length) (hN2 : N ≤ 3000000) (hN1 : 3 ≤ N) (hK : K ≤ 40) (ht : 0 ≤ tp U K ∧ tp U K ≤ 7) :
    Calls Try.prog 59 #[.slice (some ⟨bb, 0, none⟩) N cc] w fun e w' => ∃ v, e = .returned (.tuple #[v, .int .i64 0]) ∧ Below w.heap.size w w' := by
  have HU := Lib.hid (aunits_any U K bb N cc B w hG hb hB hN hN2 hK)
  obtain ⟨b', o', he, hbb, hc⟩ := hb.at_ (by have := hb.le; omega)
  cases he
  have c0 := hc 0 (by omega)
  rw [tg_zero] at c0
  have HT := typ_any (tp U K * 32 + 24) w (by omega)
  rw [show (tp U K * 32 + 24) % 32 = 24 by omega] at HT
  have HT := Lib.hid HT
  generalize tp U K * 32 + 24 = z at *
  have n0 : ((N : Int) == 0) = false := by simp; omega
  have hN0 : (0 : Int) < (N : Int) := by omega
  have hN0' : 0 < N := by omega
  have hN1' : (1 : Int) ≤ (N : Int) := by omega
  have hle := hb.le
  have hmx := hb.max
  have hc1 : ¬ cc = 1 := by omega
  clear hb hN hc hG
  go_enter Try.func59, Try.ntmps59
  go_wp2_with fail
  refine HT.out.mono ?_
  rintro e w1 ⟨rfl, rfl⟩
  go_wp2_with fail
  refine HU.out.mono ?_
  rintro e w1 ⟨v, rfl, B1⟩
  go_wp2_with fail
  go_returns
  exact ⟨v, rfl, B1⟩
set_option maxRecDepth 100000 in
set_option maxHeartbeats 2000000 in
theorem put_tg (U : Nat → Sl) (K bb N cc B g : Nat) (w : World) (h : asm w g (.slice none 0 0)) (hG : GoodU U K) (hb : BS B w (some ⟨bb, 0, none⟩) N cc (gz (tgL U K))) (hB : B ≤ g) (hN : N = (tgL U K).length) (hN2 : N ≤ 3000000) (hN1 : 3 ≤ N) (hK : K ≤ 40) (ht : 0 ≤ tp U K ∧ tp U K ≤ 7) :
    Calls Try.prog 29 #[.pointer (some ⟨g, 0, none⟩), .slice (some ⟨bb, 0, none⟩) N cc] w fun e w' => ∃ a c vs G, e = .returned (.tuple #[.slice a K c, .int .i64 0]) ∧ Rows w' G a K c (fun i => (U i).l) vs ∧ Below g w w' := by
  have hgl := lt_of_block h
  have HU := Lib.hid (units_tg U K bb N cc B w hG hb (by omega) hN hN2 hN1 hK ht)
  have HBS := Lib.hid hb
  have HG := Lib.hid hG
  have HN := Lib.hid hN
  have HA := Lib.hid h
  obtain ⟨b', o', he, hbb, hc⟩ := hb.at_ (by have := hb.le; omega)
  cases he
  have c0 := hc 0 (by omega)
  rw [tg_zero] at c0
  have HT : Hid (∀ W, Calls Try.prog 61 #[.int .u8 (tp U K * 32 + 24)] W fun e w' => e = .returned (.int .i64 24) ∧ W = w') := Lib.hid (fun W => by
    have := ntyp_any (tp U K * 32 + 24) W (by omega)
    rw [show (tp U K * 32 + 24) % 32 = 24 by omega] at this
    exact this)
  have HC0 := Lib.hid c0
  generalize tp U K * 32 + 24 = z at *
  have hN0 : (0 : Int) < (N : Int) := by omega
  have hN0' : 0 < N := by omega
  have hN1' : (1 : Int) ≤ (N : Int) := by omega
  have hle := hb.le
  have hmx := hb.max
  have hc1 : ¬ cc = 1 := by omega
  clear hb hN hc hG h c0
  go_enter Try.func29, Try.ntmps29
  go_wp2_with fail
  refine HU.out.mono ?_
  rintro e w1 ⟨v, rfl, B1⟩
  have c1 := Below.cell' B1 (by omega) HC0.out
  have hA1 := HA.out.keep B1
  have HB1 := Lib.hid B1
  clear B1
  go_wp2_with fail
  refine (HT.out _).mono ?_
  rintro e w2 ⟨rfl, rfl⟩
  go_wp2_with fail
  refine (drop41 w1 g hA1).mono ?_
  rintro e w2 ⟨rfl, hA2, k2⟩
  have HB2 : Hid (Below g w w2) := Lib.hid ((HB1.out.mono (Nat.le_of_lt hgl)).trans (k2.below (by have := HB1.out.size; omega) (Nat.le_refl _)))
  have HK2 : Hid (g < w2.heap.size) := Lib.hid (lt_of_block hA2)
  clear k2 hA2
  go_wp2_with fail
  refine (nunits_any U K bb N cc B w2 HG.out (HBS.out.keep (HB2.out.mono hB)) (by have := HK2.out; omega) HN.out hN2 hK).mono ?_
  rintro e w3 ⟨a, c, vs, rfl, hR, B3⟩
  have HR := Lib.hid hR
  have HB3 := Lib.hid (HB2.out.trans (B3.mono (Nat.le_of_lt HK2.out)))
  clear hR B3
  go_wp2_with fail
  go_returns
  exact ⟨a, c, vs, _, rfl, HR.out, HB3.out⟩
instance : Inhabited Sl := ⟨⟨none, 0, 0, fun _ => 0⟩⟩
theorem sls_of {w : World} {v : Value} (h : Reads Try.prog w 6 46 v) : ∃ a K c U, v = .slice a K c ∧ Sls w.heap.size w a K c U := by
  obtain ⟨a, len, cap, b, off, V, rfl, row⟩ := reads_slice Try.underlying46 (ts := [22]) (by kernel_rfl) (by kernel_rfl) (by decide) h
  have hx : ∀ i, i < cap → ∃ s : Sl, V i 0 = s.v ∧ BS w.heap.size w s.a s.n s.c s.Z := fun i hi => by
    obtain ⟨a, n, c, Z, e2, hZ⟩ := bs_of36b (row.read i hi 0 _ rfl)
    exact ⟨⟨a, n, c, Z⟩, e2, hZ⟩
  obtain ⟨U, hU⟩ := Deep.choose_lt (n := cap) (α := Sl) (p := fun i s => V i 0 = s.v ∧ BS w.heap.size w s.a s.n s.c s.Z) hx
  have hm := row.max
  unfold maxLen at hm
  have hle := row.le
  refine ⟨a, len, cap, U, rfl, hle, by omega, fun i hi => (hU i (by omega)).2, b, off, row.addr, fun i hi => ?_⟩
  have := row.cell i (by omega) 0 (by decide)
  rw [(hU i (by omega)).1] at this
  rw [← this]
  simp
theorem own_str {w w' : World} {G : Nat} {a : Option Addr} {N c : Nat} {L : List Int} (h : w.ownsRow G 5 1 (.slice a N c) N (u8s L)) (hO : Oct L) (b : Below w.heap.size w w') : (convert 22 9 (.slice a N c)).run Try.prog w' = .ok (.string (strL L)) w' := by
  obtain ⟨hl, hb⟩ := bs_own h hO
  rw [run_conv_BS (hb.keep b) Try.underlying22 Try.underlying5 Try.underlying9, hl, strL_gz]
set_option maxRecDepth 100000 in
set_option maxHeartbeats 8000000 in
theorem NalTogether.walk (v : Value) (w : World) (h : Reads Try.prog w 6 46 v) :
    Calls Try.prog 8 #[v] w fun e w' => e = .returned (.bool true) ∧ Below w.heap.size w w' := by
  obtain ⟨ad, K, c, U, rfl, hs⟩ := sls_of h
  have HS := Lib.hid hs
  have hle := hs.le
  have hmx := hs.max
  clear h hs
  go_enter Try.func8, Try.ntmps8
  go_wp2_with fail
  refine (alive41 _).mono ?_
  rintro e w1 ⟨rfl, B1⟩
  have HB1 := Lib.hid B1
  clear B1
  by_cases hK : 40 < K
  · have e1 : decide ((40 : Int) < (K : Int)) = true := by simp; omega
    clear hK
    go_wp2_with fail
    go_ret
    exact ⟨rfl, HB1.out⟩
  have e1 : decide ((40 : Int) < (K : Int)) = false := by simp; omega
  go_wp2_with fail
  go_loopw [3, 4] (fun so si wx => ∃ (i c' : Nat) (a' : Option Addr), i ≤ K ∧ si = .int .i64 i ∧ so = .slice a' i c' ∧ Hid (∀ j, j < i → (U j).n ≤ 70000) ∧ Hid (wx.ownsRow w.heap.size 9 1 (.slice a' i c') i (strs (fun j => (U j).l) i)) ∧ Hid (Below w.heap.size w wx)) (fun _ si _ => K - (intOf si).toNat)
  case atStart => exact ⟨0, 0, none, by omega, rfl, rfl, Lib.hid (fun j hj => by omega), Lib.hid (World.ownsRow_nil _ _ _ _), HB1⟩
  case round =>
    clear HB1
    obtain ⟨i, c', a', hi, rfl, rfl, HN, HO, HB⟩ := hrel
    by_cases hlt : i < K
    · have hw := HS.out.keep HB.out
      obtain ⟨bl, ol, hp, hc⟩ := hw.mem
      obtain ⟨rfl, hbl⟩ := hp (by omega)
      have ck := hc i hlt
      have hbs := hw.ok i hlt
      obtain ⟨x, hx⟩ : ∃ x, x = U i := ⟨_, rfl⟩
      rw [← hx] at ck hbs
      have HX := Lib.hid hx
      clear hx hp hc hw
      obtain ⟨ai, ni, ci, Zi⟩ := x
      unfold Sl.v at ck
      simp only at ck hbs
      by_cases hn : 70000 < ni
      · have t1 : decide ((70000 : Int) < (ni : Int)) = true := by simp; omega
        clear hn hbs
        go_wp2_with fail
        go_ret
        exact ⟨rfl, HB.out⟩
      · have t1 : decide ((70000 : Int) < (ni : Int)) = false := by simp; omega
        have hcv := convZ hbs
        have HN2 : Hid (∀ j, j < i + 1 → (U j).n ≤ 70000) := Lib.hid (fun j hj => by
          by_cases e : j = i
          · subst e; rw [← HX.out]; show ni ≤ 70000; omega
          · exact HN.out j (by omega))
        obtain ⟨S, hS⟩ : ∃ S, S = strL (zs Zi ni) := ⟨_, rfl⟩
        rw [← hS] at hcv
        obtain ⟨a3, c3, W3, A3, b3⟩ := app1 elStr HO.out [.string S] rfl (one_cell rfl) (by omega) (by omega) HB.out.size
        have HRUN := Lib.hid A3.run
        have HO3 : Hid (W3.ownsRow w.heap.size 9 1 (.slice a3 (i + 1) c3) (i + 1) (strs (fun j => (U j).l) (i + 1))) := Lib.hid (by
          rw [strs_succ, ← HX.out]
          have := A3.own
          rw [hS] at this
          exact this)
        have HB3 := Lib.hid (HB.out.trans b3)
        clear hn hbs A3 b3 hS
        go_wp2_with (at_builtin; refine wpList_of_append rfl (.tmp 28) (.tmp 34) 53 rfl _ _ _ rfl rfl HRUN.out ?_)
        go_roundw
        case rel => exact ⟨i + 1, c3, a3, by omega, by go_num, rfl, HN2, HO3, HB3⟩
        case measure => simp [intOf] <;> omega
    · obtain rfl : K = i := by omega
      go_wp2_with fail
      refine (tog_any w.heap.size ad K c U wr (HS.out.keep HB.out) HB.out.size (by omega)).mono ?_
      rintro e w2 (⟨hG, ab, N, cb, rfl, hNN, o2, hO2, B2⟩ | ⟨hG, rfl, B2⟩)
      · have HG := Lib.hid hG
        have HNN := Lib.hid hNN
        have HO2 := Lib.hid (show _ ∧ _ from ⟨o2, hO2⟩)
        have HB2 := Lib.hid B2
        have HBW := Lib.hid (HB.out.trans (B2.mono HB.out.size))
        clear hNN o2 hO2 B2
        go_wp2_with fail
        refine (rtog_any w.heap.size ad K c U w2 (HS.out.keep HBW.out) HBW.out.size (by omega)).mono ?_
        rintro e w3 (⟨_, ar, N', cr, rfl, hN', o3, hO3, B3⟩ | ⟨hG', _⟩)
        case inr => exact absurd HG.out hG'
        obtain rfl : N = N' := by rw [HNN.out, hN']
        have HO3 := Lib.hid (show _ ∧ _ from ⟨o3, hO3⟩)
        have HB3 := Lib.hid B3
        have HBW3 := Lib.hid (HBW.out.trans (B3.mono HBW.out.size))
        clear hN' o3 hO3 B3
        have hNo : N = off U K := by rw [HNN.out, tg_len]
        have hN1 : 3 ≤ N := by
          have h1 := HG.out.1
          have h2 := off_le (U := U) h1
          have h3 := off_succ U 0
          have h4 : off U 0 = 1 := rfl
          have h5 := HG.out.2 0 (by omega)
          have h6 := h5.1.1
          rw [hNo]; simp only [Nat.zero_add] at h3; omega
        have hN2 : N ≤ 3000000 := by
          have := bdL_le (U := U) (k := K) (fun i hi => (HG.out.2 i hi).2)
          rw [hNo]; unfold off; omega
        have htp : 0 ≤ tp U K ∧ tp U K ≤ 7 := tp_bd (fun i hi => (HS.out.ok i hi).bd 0 (HG.out.2 i hi).1.1)
        clear hNo
        go_wp2_with fail
        refine (new41 w3).mono ?_
        rintro e w4 ⟨g, rfl, hg, hA, B4⟩
        have HB4 := Lib.hid B4
        have HA := Lib.hid hA
        clear hA B4
        obtain ⟨bb, cc', he, -, hbl2, -, -⟩ := own_pos HO2.out.1 (by omega)
        cases he
        have hb4 : Below w2.heap.size w2 w4 := HB3.out.trans (HB4.out.mono HB3.out.size)
        have hbs4 := ((bs_own HO2.out.1 HO2.out.2).2.keep hb4)
        have HPUT := Lib.hid (put_tg U K bb N cb w2.heap.size g w4 HA.out HG.out hbs4 (by have := HB3.out.size; omega) HNN.out hN2 hN1 (by omega) htp)
        clear hb4 hbs4
        go_wp2_with fail
        refine HPUT.out.mono ?_
        rintro e w5 ⟨au, cu, vs, G, rfl, hR, B5⟩
        have hb35 : Below w3.heap.size w3 w5 := HB4.out.trans (B5.mono hg)
        have s2 := own_str HO2.out.1 HO2.out.2 (HB3.out.trans (hb35.mono HB3.out.size))
        have s3 := own_str HO3.out.1 HO3.out.2 hb35
        have hb5 : Below wr.heap.size wr w5 := HB2.out.trans ((HB3.out.trans (hb35.mono HB3.out.size)).mono HB2.out.size)
        have HSAME := Lib.hid (same_yes G w.heap.size au a' K cu c' (fun j => (U j).l) vs w5 hR (own_below HO.out hb5) (fun i hi => by show (zs (U i).Z (U i).n).length ≤ _; rw [zs_len]; have := HN.out i hi; omega))
        have HBE := Lib.hid (HBW3.out.trans (hb35.mono HBW3.out.size))
        obtain ⟨S, hS⟩ : ∃ S, S = strL (tgL U K) := ⟨_, rfl⟩
        rw [← hS] at s2 s3
        have t2 : (S.toList == S.toList) = true := beq_self_eq_true _
        clear hR B5 hb35 hb5 hS htp
        go_wp2_with fail
        refine HSAME.out.mono ?_
        rintro e w6 ⟨rfl, B6⟩
        go_wp2_with fail
        go_ret
        exact ⟨rfl, HBE.out.trans (B6.mono HBE.out.size)⟩
      · have HG := Lib.hid hG
        have HBW := Lib.hid (HB.out.trans (B2.mono HB.out.size))
        clear hG B2
        go_wp2_with fail
        refine (rtog_any w.heap.size ad K c U w2 (HS.out.keep HBW.out) HBW.out.size (by omega)).mono ?_
        rintro e w3 (⟨hG', _⟩ | ⟨_, rfl, B3⟩)
        case inl => exact absurd hG' HG.out
        have HBW3 := Lib.hid (HBW.out.trans (B3.mono HBW.out.size))
        clear B3
        go_wp2_with fail
        go_ret
        exact ⟨rfl, HBW3.out⟩
end Go.Proofs.Ytkoplofcjbeicaa
