/-
  The law RatesMeter.
-/
import Derived.Test.YtdmbdageohjodaaMrC
namespace Go.Proofs.Ytdmbdageohjodaa
open Go.RowKit
set_option linter.unusedVariables false
set_option linter.unusedSimpArgs false
attribute [local irreducible] wpStill wpQuiet MixC.wpMix
attribute [local go_sem] MixC.rdOp MixC.rd MixC.rdUpon MixC.mvUpon

theorem zbd (j : Nat) (h : j < 64) : 0 ≤ (0 : Int) ∧ (0 : Int) ≤ 18446744073709551615 := by omega
theorem ubd {L : Nat → Int} {j : Nat} {x : Int} (h : ∀ i, i < 64 → 0 ≤ L i ∧ L i ≤ 18446744073709551615) (x0 : 0 ≤ x) (x1 : x ≤ 18446744073709551615) : ∀ i, i < 64 → 0 ≤ upd L j x i ∧ upd L j x i ≤ 18446744073709551615 := fun i hi => by
  unfold upd; split
  · exact ⟨x0, x1⟩
  · exact h i hi
def aL1 : Nat → Int := upd (fun _ => 0) 0 5
def aL2 : Nat → Int := upd aL1 1 0
def aL3 : Nat → Int := upd aL2 1 7
def aL4 : Nat → Int := upd aL3 0 0
theorem aB1 : ∀ i, i < 64 → 0 ≤ aL1 i ∧ aL1 i ≤ 18446744073709551615 := ubd zbd (by omega) (by omega)
theorem aB2 : ∀ i, i < 64 → 0 ≤ aL2 i ∧ aL2 i ≤ 18446744073709551615 := ubd aB1 (by omega) (by omega)
theorem aB3 : ∀ i, i < 64 → 0 ≤ aL3 i ∧ aL3 i ≤ 18446744073709551615 := ubd aB2 (by omega) (by omega)
theorem aB4 : ∀ i, i < 64 → 0 ≤ aL4 i ∧ aL4 i ≤ 18446744073709551615 := ubd aB3 (by omega) (by omega)
set_option maxHeartbeats 2000000 in
theorem alive40_any (w : World) : Calls Try.prog 42 #[] w fun e w' => e = .returned (.bool true) ∧ Below w.heap.size w w' := by
  go_enter Try.func42, Try.ntmps42
  go_wp2_with fail
  refine (newm_any 2 w (by omega) (by omega)).mono ?_
  rintro e w1 ⟨rfl, m1, b1⟩
  obtain ⟨g, hg⟩ : ∃ g, w.heap.size = g := ⟨_, rfl⟩
  rw [hg] at m1 ⊢
  have M1 := Lib.hid m1
  have HG := Lib.hid hg
  have B1 := Lib.hid b1
  clear m1 b1 hg
  go_wp2_with fail
  refine (add_any g 2 0 (fun _ => 0) 5 w1 M1.out (by omega) zbd (by omega) (by omega)).mono ?_
  rintro e w2 ⟨rfl, m2, k2⟩
  have M2 : Hid (MSt g 2 0 aL1 w2) := Lib.hid m2
  have B2 := Lib.hid (Below.keeps (B := w.heap.size) B1.out B1.out.size (by have := HG.out; omega) k2)
  clear m2 k2
  go_wp2_with fail
  refine (tick_any g 2 0 aL1 w2 M2.out (by omega) (by omega)).mono ?_
  rintro e w3 ⟨rfl, m3, k3⟩
  have M3 : Hid (MSt g 2 1 aL2 w3) := Lib.hid m3
  have B3 := Lib.hid (Below.keeps (B := w.heap.size) B2.out B2.out.size (by have := HG.out; omega) k3)
  clear m3 k3
  go_wp2_with fail
  refine (add_any g 2 1 aL2 7 w3 M3.out (by omega) aB2 (by omega) (by omega)).mono ?_
  rintro e w4 ⟨rfl, m4, k4⟩
  have M4 : Hid (MSt g 2 1 aL3 w4) := Lib.hid m4
  have B4 := Lib.hid (Below.keeps (B := w.heap.size) B3.out B3.out.size (by have := HG.out; omega) k4)
  clear m4 k4
  have HS1 := Lib.hid (sumM_any g 2 1 aL3 w4 M4.out (by omega) (by omega) aB3)
  rw [show satN aL3 2 = 12 by decide +kernel] at HS1
  go_wp2_with fail
  refine HS1.out.mono ?_
  rintro e w5 ⟨rfl, b5⟩
  have M5 := Lib.hid (M4.out.keep b5)
  have B5 := Lib.hid (B4.out.trans (b5.mono B4.out.size))
  clear b5
  go_wp2_with fail
  refine (tick_any g 2 1 aL3 w5 M5.out (by omega) (by omega)).mono ?_
  rintro e w6 ⟨rfl, m6, k6⟩
  have M6 : Hid (MSt g 2 0 aL4 w6) := Lib.hid m6
  have B6 := Lib.hid (Below.keeps (B := w.heap.size) B5.out B5.out.size (by have := HG.out; omega) k6)
  clear m6 k6
  go_wp2_with fail
  refine (newG_ex w6).mono ?_
  rintro e w7 ⟨rfl, g7, b7⟩
  obtain ⟨q, hq⟩ : ∃ q, w6.heap.size = q := ⟨_, rfl⟩
  rw [hq] at g7 ⊢
  have G7 := Lib.hid g7
  have M7 := Lib.hid (M6.out.keep b7)
  have B7 := Lib.hid (B6.out.trans (b7.mono B6.out.size))
  have HQG : Hid (g ≠ q) := Lib.hid (by have := M6.out.lt; omega)
  have HQW : Hid (w.heap.size ≤ q) := Lib.hid (by have := B6.out.size; omega)
  clear g7 b7 hq
  go_wp2_with fail
  refine (report_ex q w7 G7.out).mono ?_
  rintro e w8 ⟨rfl, g8, k8⟩
  have G8 := Lib.hid g8
  have M8 : Hid (MSt g 2 0 aL4 w8) := Lib.hid (by
    obtain ⟨cs, h1, h2⟩ := M7.out.ex
    exact ⟨cs, Keeps.blk k8 h1 HQG.out, h2⟩)
  have B8 := Lib.hid (Below.keeps (B := w.heap.size) B7.out B7.out.size HQW.out k8)
  have HS2 := Lib.hid (sumM_any g 2 0 aL4 w8 M8.out (by omega) (by omega) aB4)
  rw [show satN aL4 2 = 7 by decide +kernel] at HS2
  clear g8 k8
  go_wp2_with fail
  refine HS2.out.mono ?_
  rintro e w9 ⟨rfl, b9⟩
  have G9 := Lib.hid (Below.blk b9 G8.out (lt_of_block G8.out))
  have B9 := Lib.hid (B8.out.trans (b9.mono B8.out.size))
  clear b9
  go_wp2_with fail
  refine (rateG_any q 109 w9 G9.out).mono ?_
  rintro e w' ⟨rfl, rfl⟩
  go_wp2_with fail
  go_ret
  exact ⟨rfl, B9.out⟩
theorem infoU64 : (Try.prog.info? 88).map (fun i => (i.zero, i.size, i.bytes)) = some (some (.int .u64 0), 1, 8) := by kernel_rfl
theorem elU64 : ElemT Try.prog 90 88 1 8 := ElemT.mk' Try.underlying90 infoU64 rfl (by decide)
theorem us_own {w : World} {base n : Nat} {a : Option Addr} {c : Nat} {f : Nat → Int} (h : w.ownsRow base 88 1 (.slice a n c) n (u64s f n)) (hb : ∀ i, i < n → 0 ≤ f i ∧ f i ≤ 18446744073709551615) : US w.heap.size w a n f := by
  refine ⟨hb, ?_⟩
  rcases h.2 with ⟨hv, h0⟩ | ⟨g, cap, cur, hv, hg, hh, hn, _⟩
  · exact ⟨0, 0, fun h => by omega, fun i hi => by omega⟩
  · injection hv with e1 e2 e3
    subst e1
    exact ⟨g, 0, fun _ => ⟨rfl, lt_of_block hh⟩, fun i hi => by rw [Nat.zero_add]; exact own_cell h (u64s_get f hi)⟩
structure RM (g W i : Nat) (f : Nat → Int) (now : Nat) (Lm : Nat → Int) (aa : Option Addr) (ca : Nat) (w wr : World) : Prop where
  bl : Below w.heap.size w wr
  gw : w.heap.size ≤ g
  ms : MSt g W now Lm wr
  bd : ∀ j, j < 64 → 0 ≤ Lm j ∧ Lm j ≤ 18446744073709551615
  z : i = 0 → now = 0 ∧ Lm = fun _ => 0
  r : 0 < i → now = (i - 1) % W ∧ Ring W Lm f (i - 1)
  row : wr.ownsRow w.heap.size 88 1 (.slice aa i ca) i (u64s f i)
  ng : (Value.slice aa i ca).ownBlock ≠ some g
/-- behind its tick -/
structure RT (g W i : Nat) (f : Nat → Int) (Lm : Nat → Int) (aa : Option Addr) (ca : Nat) (w wr : World) : Prop where
  bl : Below w.heap.size w wr
  gw : w.heap.size ≤ g
  ms : MSt g W (i % W) Lm wr
  bd : ∀ j, j < 64 → 0 ≤ Lm j ∧ Lm j ≤ 18446744073709551615
  z : Lm (i % W) = 0
  r : Ring W (upd Lm (i % W) (f i)) f i
  row : wr.ownsRow w.heap.size 88 1 (.slice aa i ca) i (u64s f i)
  ng : (Value.slice aa i ca).ownBlock ≠ some g
theorem own_keeps {g : Nat} {w w' : World} {base : Nat} {e : TypeId} {size : Nat} {v : Value} {n : Nat} {xs : List Value} (h : w.ownsRow base e size v n xs) (hk : Keeps g w w') (hg : v.ownBlock ≠ some g) : w'.ownsRow base e size v n xs :=
  own_but h (r := some g) ⟨hk.os, hk.tape, hk.output, hk.size, fun k hk' hne => hk.block k hk' (fun e => hne (by rw [e]))⟩ (fun k h1 h2 => hg (by rw [h1, h2]))
theorem RM.tick0 {g W : Nat} {f : Nat → Int} {now : Nat} {Lm : Nat → Int} {aa : Option Addr} {ca : Nat} {w wr : World} (h : RM g W 0 f now Lm aa ca w wr) (hW : 1 ≤ W) : RT g W 0 f Lm aa ca w wr := by
  obtain ⟨h1, h2⟩ := h.z rfl
  subst h1 h2
  exact ⟨h.bl, h.gw, by rw [Nat.zero_mod]; exact h.ms, h.bd, rfl, by rw [Nat.zero_mod]; exact Ring.start hW, h.row, h.ng⟩
theorem RM.tick {g W i : Nat} {f : Nat → Int} {now : Nat} {Lm : Nat → Int} {aa : Option Addr} {ca : Nat} {w wr w' : World} (h : RM g W i f now Lm aa ca w wr) (hi : 0 < i) (hW : 1 ≤ W) (hm : MSt g W ((now + 1) % W) (upd Lm ((now + 1) % W) 0) w') (hk : Keeps g wr w') : RT g W i f (upd Lm (i % W) 0) aa ca w w' := by
  obtain ⟨h1, h2⟩ := h.r hi
  have e : (now + 1) % W = i % W := by rw [h1, Nat.mod_add_mod]; congr 1; omega
  rw [e] at hm
  refine ⟨Below.keeps h.bl h.bl.size h.gw hk, h.gw, hm, ubd h.bd (by omega) (by omega), upd_same _ _ _, ?_, own_keeps h.row hk h.ng, h.ng⟩
  rw [upd_upd]
  have := h2.next hW
  rw [show i - 1 + 1 = i by omega] at this
  exact this
set_option maxRecDepth 100000 in
set_option maxHeartbeats 8000000 in
theorem RatesMeter.walk (width : Int) (v : Value) (w : World) (hwi : (Lit.int .i64 width).wf = true) (r : Reads Try.prog w 6 84 v) :
    Calls Try.prog 11 #[.int .i64 width, v] w fun e w' => e = .returned (.bool true) ∧ Below w.heap.size w w' := by
  obtain ⟨a, len, cap, A, K, C, L, rfl, hle, hcx, ht⟩ := tab_of r
  have HT := Lib.hid ht
  obtain ⟨wi0, wi1⟩ := bounds_i64 hwi
  clear ht r hwi
  go_enter Try.func11, Try.ntmps11
  go_wp2_with fail
  refine (alive40_any w).mono ?_
  rintro e w1 ⟨rfl, b1⟩
  have B1 := Lib.hid b1
  clear b1
  by_cases hbad : width < 1 ∨ 64 < width
  · have HN := Lib.hid (newm_nil width w1 hbad)
    have fin : ∀ (P : Prop), P → P := fun _ h => h
    rcases hbad with hb | hb
    · have d1 : decide (width < 1) = true := by simpa using hb
      go_wp2_with fail
      refine HN.out.mono ?_
      rintro e w' ⟨rfl, rfl⟩
      go_wp2_with fail
      refine (add_nil 3 w1).mono ?_
      rintro e w' ⟨rfl, rfl⟩
      go_wp2_with fail
      refine (tick_nil w1).mono ?_
      rintro e w' ⟨rfl, rfl⟩
      go_wp2_with fail
      refine (sumM_nil w1).mono ?_
      rintro e w' ⟨rfl, rfl⟩
      go_wp2_with fail
      refine (peakM_nil w1).mono ?_
      rintro e w' ⟨rfl, rfl⟩
      go_wp2_with fail
      go_ret
      exact ⟨rfl, B1.out⟩
    · have d1 : decide (width < 1) = false := by simp; omega
      have d2 : decide (64 < width) = true := by simpa using hb
      go_wp2_with fail
      refine HN.out.mono ?_
      rintro e w' ⟨rfl, rfl⟩
      go_wp2_with fail
      refine (add_nil 3 w1).mono ?_
      rintro e w' ⟨rfl, rfl⟩
      go_wp2_with fail
      refine (tick_nil w1).mono ?_
      rintro e w' ⟨rfl, rfl⟩
      go_wp2_with fail
      refine (sumM_nil w1).mono ?_
      rintro e w' ⟨rfl, rfl⟩
      go_wp2_with fail
      refine (peakM_nil w1).mono ?_
      rintro e w' ⟨rfl, rfl⟩
      go_wp2_with fail
      go_ret
      exact ⟨rfl, B1.out⟩
  · obtain ⟨W, rfl⟩ := Int.eq_ofNat_of_zero_le (show 0 ≤ width by omega)
    have hW1 : 1 ≤ W := by omega
    have hW2 : W ≤ 64 := by omega
    have d1 : decide ((W : Int) < 1) = false := by simp; omega
    have d2 : decide (64 < (W : Int)) = false := by simp; omega
    clear hbad
    go_wp2_with fail
    refine (newm_any W w1 hW1 hW2).mono ?_
    rintro e w2 ⟨rfl, m2, b2⟩
    obtain ⟨g, hg⟩ : ∃ g, w1.heap.size = g := ⟨_, rfl⟩
    rw [hg] at m2 ⊢
    obtain ⟨f, hf⟩ : ∃ f : Nat → Int, f = fun t => satN (C t) (L t) := ⟨_, rfl⟩
    have HF := Lib.hid hf
    have R0 : Hid (RM g W 0 f 0 (fun _ => 0) none 0 w w2) := Lib.hid ⟨B1.out.trans (b2.mono B1.out.size), by have := B1.out.size; omega, m2, zbd, fun _ => ⟨rfl, rfl⟩, fun h => by omega, World.ownsRow_nil _ _ _ _, fun e => by cases e⟩
    have FB : Hid (∀ t, t < len → 0 ≤ f t ∧ f t ≤ 18446744073709551615) := Lib.hid (fun t ht => by rw [HF.out]; exact satN_bd (fun j hj => ((HT.out.row t ht).bd j hj).1))
    clear m2 b2 hg hf
    go_wp2_with fail
    go_loopw [6, 7] (fun s6 s7 wr => ∃ (i now : Nat) (Lm : Nat → Int) (aa : Option Addr) (ca : Nat), i ≤ len ∧ i ≤ 150 ∧ s7 = .int .i64 i ∧ s6 = .slice aa i ca ∧ Hid (RM g W i f now Lm aa ca w wr)) (fun _ s7 _ => len - (intOf s7).toNat)
    case atStart => exact ⟨0, 0, fun _ => 0, none, 0, by omega, by omega, rfl, rfl, R0⟩
    case round =>
      obtain ⟨i, now, Lm, aa, ca, hi, hi150, rfl, rfl, HS⟩ := hrel
      by_cases hlt : i < len
      · by_cases h150 : i < 150
        · obtain ⟨b, off, hp, hc⟩ := (HT.out.keep HS.out.bl).at_
          obtain ⟨rfl, hb⟩ := hp (by omega)
          have cz := hc i hlt
          have US0 := Lib.hid (HT.out.row i hlt)
          have hLm := HT.out.len i
          obtain ⟨ra, hra⟩ : ∃ ra, A i = ra := ⟨_, rfl⟩
          obtain ⟨rn, hrn⟩ : ∃ rn, L i = rn := ⟨_, rfl⟩
          obtain ⟨rc, hrc⟩ : ∃ rc, K i = rc := ⟨_, rfl⟩
          obtain ⟨Z, hZ⟩ : ∃ Z, C i = Z := ⟨_, rfl⟩
          have HFI : Hid (f i = satN Z rn) := Lib.hid (by rw [HF.out]; show satN (C i) (L i) = _; rw [hZ, hrn])
          have hcell : Hid (w.cell? ⟨b, off + i, none⟩ = some (.slice ra rn rc)) := Lib.hid (by
            have := HS.out.bl.cell (p := ⟨b, off + i, none⟩) hb
            rw [← this, cz, hra, hrn, hrc])
          rw [hra, hrn, hrc] at cz
          rw [hra, hrn, hZ] at US0
          rw [hrn] at hLm
          have hki : (i : Int) < len := by omega
          have h150' : (i : Int) < 150 := by omega
          clear hp hc hra hrn hrc hZ
          by_cases h20 : 20 < rn
          · have d3 : decide (20 < (rn : Int)) = true := by simp; omega
            go_wp2_with fail
            go_ret
            exact ⟨rfl, HS.out.bl⟩
          · have d3 : decide (20 < (rn : Int)) = false := by simp; omega
            go_upto_if 54 with (fail)
            go_cut [7] (fun s7 wx => s7 = .int .i64 i ∧ ∃ Lt, Hid (RT g W i f Lt aa ca w wx))
            case first =>
              by_cases hi0 : i = 0
              · subst hi0
                have RT0 : Hid (RT g W 0 f Lm aa ca w wr) := Lib.hid (HS.out.tick0 hW1)
                go_wp2_with fail
                go_meet
                exact ⟨rfl, Lm, RT0⟩
              · have d4 : decide (0 < (i : Int)) = true := by simp; omega
                have d5 : 0 < i := by omega
                have HNW : Hid (now < W) := Lib.hid (by rw [(HS.out.r d5).1]; exact Nat.mod_lt _ (by omega))
                clear hi0
                go_wp2_with fail
                refine (tick_any g W now Lm wr HS.out.ms HNW.out hW2).mono ?_
                rintro e V ⟨rfl, m3, k3⟩
                have RT0 : Hid (RT g W i f (upd Lm (i % W) 0) aa ca w V) := Lib.hid (HS.out.tick d5 hW1 m3 k3)
                clear m3 k3
                go_wp2_with fail
                go_meet
                exact ⟨rfl, _, RT0⟩
            case rest =>
              obtain ⟨rfl, Lt, HR⟩ := hcut
              obtain ⟨wb, hwb⟩ : ∃ wb, wb = wc := ⟨_, rfl⟩
              subst hwb
              clear cz d3
              have hmw : Hid (i % W < 64) := Lib.hid (by have := Nat.mod_lt i (show W > 0 by omega); omega)
              have A0 : Hid (MSt g W (i % W) (upd Lt (i % W) (satN Z 0)) wb ∧ Keeps g wb wb) := Lib.hid ⟨by
                have e : upd Lt (i % W) (satN Z 0) = Lt := by
                  funext j
                  unfold upd
                  split
                  · rename_i h; rw [h]; exact HR.out.z.symm
                  · rfl
                rw [e]; exact HR.out.ms, Keeps.refl _ _⟩
              go_wp2_with fail
              go_loopw [8] (fun s8 wx => ∃ k : Nat, k ≤ rn ∧ s8 = .int .i64 k ∧ Hid (MSt g W (i % W) (upd Lt (i % W) (satN Z k)) wx ∧ Keeps g wb wx)) (fun s8 _ => rn - (intOf s8).toNat)
              case atStart => exact ⟨0, by omega, rfl, A0⟩
              case round =>
                obtain ⟨k, hk, rfl, HA⟩ := hrel
                have BX := Lib.hid (Below.keeps HR.out.bl HR.out.bl.size HR.out.gw HA.out.2)
                have cz : wr.cell? ⟨b, off + i, none⟩ = some (.slice ra rn rc) := Below.cell' BX.out hb hcell.out
                by_cases hkr : k < rn
                · obtain ⟨hbd, b2, o2, hp2, hc2⟩ := US0.out.keep BX.out
                  obtain ⟨rfl, hb2⟩ := hp2 (by omega)
                  have cx := hc2 k hkr
                  have xb := hbd k hkr
                  obtain ⟨x, hx⟩ : ∃ x, Z k = x := ⟨_, rfl⟩
                  rw [hx] at cx xb
                  have HX := Lib.hid hx
                  have hkk : (k : Int) < rn := by omega
                  have ZB : Hid (∀ j, j < rn → 0 ≤ Z j ∧ Z j ≤ 18446744073709551615) := Lib.hid hbd
                  clear hbd hp2 hc2 hx
                  obtain ⟨x0, x1⟩ := xb
                  have sb := satN_bd (f := Z) (n := k) (fun j hj => (ZB.out j (by omega)).1)
                  have HAD := Lib.hid (add_any g W (i % W) (upd Lt (i % W) (satN Z k)) x wr HA.out.1 hmw.out (ubd HR.out.bd sb.1 sb.2) x0 x1)
                  clear sb
                  go_wp2_with fail
                  refine HAD.out.mono ?_
                  rintro e V ⟨rfl, m4, k4⟩
                  have A1 : Hid (MSt g W (i % W) (upd Lt (i % W) (satN Z (k + 1))) V ∧ Keeps g wb V) := Lib.hid ⟨by
                    rw [upd_upd, upd_same] at m4
                    show MSt g W (i % W) (upd Lt (i % W) (satI (satN Z k) (Z k))) V
                    rw [HX.out]; exact m4, HA.out.2.trans k4⟩
                  clear m4 k4 cx cz
                  go_wp2_with fail
                  go_roundw
                  case rel => exact ⟨k + 1, hkr, by go_num, A1⟩
                  case measure => simp [intOf] <;> omega
                · obtain rfl : rn = k := by omega
                  clear hkr
                  have HFI2 := Lib.hid HFI.out
                  obtain ⟨wd, hwd⟩ : ∃ wd, wd = wr := ⟨_, rfl⟩
                  rw [← hwd] at BX cz HA ⊢
                  clear hwd
                  have ROW := Lib.hid (own_keeps HR.out.row HA.out.2 HR.out.ng)
                  have HS1 : Hid (∀ z, Below w.heap.size w z → Calls Try.prog 48 #[.slice ra rn rc, .int .i64 rn] z fun e w' => e = .returned (.int .u64 (f i)) ∧ z = w') := Lib.hid (fun z hz => by
                    have h1 := US0.out.keep hz
                    have h2 := rsumM_any w.heap.size ra rn rc Z (rn : Int) z h1 (by omega) (by omega) (by omega)
                    have e : satN (msk Z rn rn) rn = f i := by
                      rw [HFI2.out]
                      exact satN_congr (fun j hj => by unfold msk; rw [if_pos (by omega)])
                    rw [e] at h2
                    exact h2)
                  have hms : MSt g W (i % W) (upd Lt (i % W) (f i)) wd := by rw [HFI2.out]; exact HA.out.1
                  have hrg := HR.out.r
                  have hfb := FB.out i hlt
                  have hlb : ∀ j, j < 64 → 0 ≤ upd Lt (i % W) (f i) j ∧ upd Lt (i % W) (f i) j ≤ 18446744073709551615 := ubd HR.out.bd hfb.1 hfb.2
                  obtain ⟨Ln, hLn⟩ : ∃ Ln, upd Lt (i % W) (f i) = Ln := ⟨_, rfl⟩
                  rw [hLn] at hms hrg hlb
                  obtain ⟨y, hy⟩ : ∃ y, f i = y := ⟨_, rfl⟩
                  rw [hy] at HS1
                  have hlt9 := hms.lt
                  obtain ⟨a9, c9, V2, A9, B9⟩ := app1 elU64 (own_below ROW.out (Below.refl _ wd).drew) [.int .u64 y] rfl (one_cell rfl) (by omega) (by omega) BX.out.size
                  have hms2 : MSt g W (i % W) Ln V2 := by
                    obtain ⟨cs, h1, h2⟩ := hms.ex
                    exact ⟨cs, A9.but.blk h1 HR.out.ng, h2⟩
                  have hrow2 : V2.ownsRow w.heap.size 88 1 (.slice a9 (i + 1) c9) (i + 1) (u64s f (i + 1)) := by rw [u64s_succ, hy]; exact A9.own
                  have hng2 : (Value.slice a9 (i + 1) c9).ownBlock ≠ some g := fun e => by
                    rcases A9.new g e with h | h
                    · exact HR.out.ng h
                    · have : wd.drew.heap.size = wd.heap.size := rfl
                      omega
                  have BV2 : Hid (Below w.heap.size w V2) := Lib.hid (BX.out.drew.trans B9)
                  have fb : ∀ t, t < i + 1 → 0 ≤ f t ∧ f t ≤ 18446744073709551615 := fun t ht => FB.out t (by omega)
                  have hsm := sumM_any g W (i % W) Ln V2 hms2 hW1 hW2 hlb
                  have hpk : ∀ z, Below V2.heap.size V2 z → _ := fun z hz => peakM_any g W (i % W) Ln z (hms2.keep hz) hW1 hW2 hlb
                  have hrs : ∀ z, Below V2.heap.size V2 z → _ := fun z hz => rsumM_any z.heap.size a9 (i + 1) c9 f (W : Int) z (us_own (own_below hrow2 hz) fb) (by omega) (by omega) (by omega)
                  have hrp : ∀ z, Below V2.heap.size V2 z → _ := fun z hz => rpeakM_any z.heap.size a9 (i + 1) c9 f (W : Int) z (us_own (own_below hrow2 hz) fb) (by omega) (by omega) (by omega)
                  have e1 := hrg.sat (fun j hj => (hlb j (by omega)).1) (fun t ht => (fb t ht).1)
                  have e2 := hrg.peak hW1
                  obtain ⟨S, hS⟩ : ∃ S, satN (msk f W (i + 1)) (i + 1) = S := ⟨_, rfl⟩
                  obtain ⟨P, hP⟩ : ∃ P, maxN (msk f W (i + 1)) (i + 1) = P := ⟨_, rfl⟩
                  rw [e1, hS] at hsm
                  rw [hS] at hrs
                  rw [e2, hP] at hpk
                  rw [hP] at hrp
                  have RN : Hid (∀ z, Below V2.heap.size V2 z → RM g W (i + 1) f (i % W) Ln a9 c9 w z) := Lib.hid (fun z hz => ⟨BV2.out.trans (hz.mono BV2.out.size), HR.out.gw, hms2.keep hz, hlb, fun h => by omega, fun _ => ⟨rfl, hrg⟩, own_below hrow2 hz, hng2⟩)
                  have HSM := Lib.hid hsm
                  have HPK := Lib.hid hpk
                  have HRS := Lib.hid hrs
                  have HRP := Lib.hid hrp
                  have hne : Nonempty { w' : World // Below w.heap.size w w' } := ⟨⟨_, Below.refl _ _⟩⟩
                  have cz' : ∀ z : { w' : World // Below w.heap.size w w' }, z.1.cell? ⟨b, off + i, none⟩ = some (.slice ra rn rc) := fun z => Below.cell' z.2 hb hcell.out
                  have M9 : Hid (Below w.heap.size w (wd.drew.alloc (.cells #[.int .u64 y] 88))) := Lib.hid (BX.out.drew.alloc BX.out.size _)
                  have HA9 := Lib.hid A9
                  clear A9 B9 hy hms hrg hfb hlb hLn hlt9 hms2 hrow2 hng2 fb hsm hpk hrs hrp e1 e2 hS hP
                  go_upto_region 22 with (fail)
                  clear cz
                  refine MixC.wp_region_mix [11, 12] (Below w.heap.size w) BX.out.drew (by kernel_rfl) (by kernel_rfl) (by kernel_rfl) ?_
                  (iterate 10 (refine MixC.mix_read rfl (fun K hK => ?_); go_simp; refine hK _ ?_; clear hK K))
                  refine MixC.mix_read rfl (fun K hK => ?_)
                  go_simp
                  refine ⟨.int .u64 y, fun z hz => (HS1.out z hz).mono (fun e w1 h => ⟨h.1, h.2.symm⟩), hK _ ?_⟩
                  clear hK K
                  refine MixC.mix_move rfl (fun K hK => ?_)
                  go_simp
                  refine ⟨M9.out, hK _ _ ?_⟩
                  clear hK K
                  refine MixC.mix_move rfl (fun K hK => ?_)
                  refine Eq.mpr (if_pos rfl) ?_
                  refine mv_app (s := .tmp 75) (x := .tmp 86) (t := 90) rfl rfl rfl HA9.out.run BV2.out (hK _ _ ?_)
                  clear hK K
                  (refine MixC.mix_read rfl (fun K hK => ?_); go_simp; refine hK _ ?_; clear hK K)
                  refine MixC.mix_nil ?_
                  clear cz' hne
                  go_wp2_with fail
                  refine HSM.out.mono ?_
                  rintro e V3 ⟨rfl, b3⟩
                  have B3 := Lib.hid b3
                  clear b3
                  go_wp2_with fail
                  refine (HRS.out V3 B3.out).mono ?_
                  rintro e w' ⟨rfl, rfl⟩
                  go_wp2_with fail
                  refine (HPK.out V3 B3.out).mono ?_
                  rintro e V4 ⟨rfl, b4⟩
                  have B4 := Lib.hid (B3.out.trans (b4.mono B3.out.size))
                  clear b4
                  go_wp2_with fail
                  refine (HRP.out V4 B4.out).mono ?_
                  rintro e w' ⟨rfl, rfl⟩
                  go_wp2_with fail
                  have RNX := Lib.hid (RN.out V4 B4.out)
                  go_roundw
                  case rel => exact ⟨i + 1, i % W, Ln, a9, c9, by omega, by omega, by go_num, rfl, RNX⟩
                  case measure => simp [intOf] <;> omega
        · have d3 : decide ((i : Int) < 150) = false := by simp; omega
          have hki : (i : Int) < len := by omega
          go_wp2_with fail
          go_ret
          exact ⟨rfl, HS.out.bl⟩
      · obtain rfl : len = i := by omega
        clear hlt
        go_wp2_with fail
        go_ret
        exact ⟨rfl, HS.out.bl⟩
end Go.Proofs.Ytdmbdageohjodaa
