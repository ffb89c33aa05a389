/-
  The walk of NalCuts.
-/
import Derived.Test.YtkoplofcjbeicaaNlG
namespace Go.Proofs.Ytkoplofcjbeicaa
open Go.RowKit
set_option linter.unusedVariables false
set_option linter.unusedSimpArgs false
attribute [local irreducible] wpStill wpQuiet MixC.wpMix
attribute [local go_sem] MixC.rdOp MixC.rd MixC.rdUpon MixC.mvUpon

set_option maxRecDepth 100000 in
set_option maxHeartbeats 8000000 in
theorem NalCuts.walk (a : Option Addr) (n cap : Nat) (zs0 : List Int) (s : Int) (w : World) (r0 : IsRow .u8 w a n cap zs0) (h1 : (Lit.int .i64 s).wf = true) :
    Calls Try.prog 7 #[.slice a n cap, .int .i64 s] w fun e w' => e = .returned (.bool true) ∧ Below w.heap.size w w' := by
  obtain ⟨Z, hs⟩ := BS.of_row r0
  have hsb := bounds_i64 h1
  have hle := hs.le
  have hmx := hs.max
  have HS := Lib.hid hs
  clear r0 h1 hs
  by_cases hn : 1000 < n
  · have e1 : decide ((1000 : Int) < (n : Int)) = true := by simp; omega
    clear hn
    go_enter Try.func7, Try.ntmps7
    go_wp2_with fail
    refine (alive41 _).mono ?_
    rintro e w1 ⟨rfl, B1⟩
    go_wp2_with fail
    go_ret
    exact ⟨rfl, B1⟩
  have e1 : decide ((1000 : Int) < (n : Int)) = false := by simp; omega
  by_cases hG : isU Z n ∧ 3 ≤ s
  · obtain ⟨hu, hs3⟩ := hG
    have HU := Lib.hid hu
    have hu0 := HS.out.bd 0 hu.1
    have ht := hu.2
    by_cases hsn : (n : Int) ≤ s
    · have hn0 := hu.1
      clear hu
      have HZ0 := Lib.hid hu0
      clear hu0 ht
      go_enter Try.func7, Try.ntmps7
      go_wp2_with fail
      refine (alive41 _).mono ?_
      rintro e w1 ⟨rfl, B1⟩
      have HB1 := Lib.hid B1
      clear B1
      go_wp2_with fail
      refine (cut_short w.heap.size n cap a s Z w1 (HS.out.keep HB1.out) HB1.out.size HU.out (by omega) hs3 hsn hsb.2).mono ?_
      rintro e w2 ⟨al, cl, vs, rfl, hR, B2⟩
      have HB2 := Lib.hid (HB1.out.trans (B2.mono HB1.out.size))
      go_wp2_with fail
      refine (rcut_short w.heap.size n cap a s Z w2 (HS.out.keep HB2.out) HB2.out.size HU.out hs3 hsn).mono ?_
      rintro e w3 ⟨ar, cr, rfl, hO, B3⟩
      have HB3 := Lib.hid (HB2.out.trans (B3.mono HB2.out.size))
      have HR3 := Lib.hid (hR.below B3)
      have HO := Lib.hid hO
      obtain ⟨gl, cl', he, -, gll, -, -⟩ := own_pos HR3.out.own (by omega)
      cases he
      clear hR hO B2 B3
      go_wp2_with fail
      refine (same_yes _ _ _ _ 1 _ _ _ vs w3 HR3.out HO.out (fun i hi => by rw [zs_len]; omega)).mono ?_
      rintro e w4 ⟨rfl, B4⟩
      have HB4 := Lib.hid (HB3.out.trans (B4.mono HB3.out.size))
      have HR4 := Lib.hid (HR3.out.below B4)
      have gl4 : gl < w4.heap.size := by have := B4.size; omega
      clear B4
      go_wp2_with fail
      refine (new41 w4).mono ?_
      rintro e w5 ⟨g, rfl, hg, hA, B5⟩
      have HB5 := Lib.hid B5
      have HA := Lib.hid hA
      have c1 : w4.cell? ⟨gl, 0, none⟩ = some (vs 0) := own_cell HR4.out.own (show ((List.range 1).map vs)[0]? = some (vs 0) by simp)
      have E0 := HR4.out.each 0 (by omega)
      obtain ⟨_, a0, c0, hv0, hb0⟩ := BS.own E0.own E0.oct (by rw [zs_len]; omega)
      rw [zs_len] at hv0 hb0
      rw [hv0] at c1
      have hb1 : BS w4.heap.size w4 a0 n c0 Z := hb0.congr (fun i hi => by
        unfold gz zs
        rw [List.getD_eq_getElem?_getD, List.getElem?_map, List.getElem?_range hi]; rfl)
      have HB0 := Lib.hid hb1
      have HC1' := Lib.hid c1
      have t1 : decide (s < (n : Int)) = false := by simp; omega
      clear hA B5 E0 hv0 hb0 hb1 c1
      go_wp2_with fail
      go_loopw [10] (fun si wx => ∃ i : Nat, i ≤ 1 ∧ si = .int .i64 i ∧ Hid (asm wx g (.slice none 0 0)) ∧ Hid (Below g w5 wx)) (fun si _ => 1 - (intOf si).toNat)
      case atStart => exact ⟨0, by omega, rfl, HA, Lib.hid (Below.refl _ _)⟩
      case round =>
        clear HA
        obtain ⟨i, hi, rfl, HA, HB⟩ := hrel
        rcases (show i = 0 ∨ i = 1 by omega) with rfl | rfl
        · have hb5 : Below w4.heap.size w4 wr := HB5.out.trans (HB.out.mono hg)
          have c1 := Below.cell' hb5 gl4 HC1'.out
          have hbs := HB0.out.keep hb5
          have HPUT := Lib.hid (put_unit w4.heap.size wr g a0 n c0 Z HA.out hbs hg HU.out (by omega))
          clear hb5 hbs
          go_wp2_with fail
          refine HPUT.out.mono ?_
          rintro e w5 ⟨gx, a9, c9, rfl, q1, q2, q3, q4⟩
          have gxl := lt_of_block q1
          have HQ : Hid (∀ y : { w' : World // Below w5.heap.size w5 w' }, y.1.cell? ⟨gx, 0, none⟩ = some (.slice a9 n c9)) := Lib.hid (fun y => cell_blk (Below.blk y.2 q1 gxl))
          have o9 : Own1 w5 (g + 1) (.slice a9 n c9) (zs Z n) := ⟨by rw [zs_len]; exact q3, zs_oct HS.out⟩
          obtain ⟨S, hS⟩ : ∃ S, S = strL (zs Z n) := ⟨_, rfl⟩
          have HC1 : Hid (∀ y : { w' : World // Below w5.heap.size w5 w' }, (convert 22 9 (.slice a9 n c9)).run Try.prog y.1 = .ok (.string S) y.1) := Lib.hid (fun y => by
            obtain ⟨a8, c8, h1, h2⟩ := o9.str (by rw [zs_len]; omega) y.2
            rw [zs_len] at h1 h2
            cases h1
            rw [hS]; exact h2)
          have hgw : w.heap.size ≤ g := Nat.le_trans HB4.out.size hg
          have HBA : Hid (Below w.heap.size w w5) := Lib.hid (HB4.out.trans ((HB5.out.mono HB4.out.size).trans ((HB.out.mono hgw).trans (q4.mono hgw))))
          have HC2 : Hid (∀ y : { w' : World // Below w5.heap.size w5 w' }, (convert 22 9 (.slice a n cap)).run Try.prog y.1 = .ok (.string S) y.1) := Lib.hid (fun y => by
            rw [hS]; exact convZ ((HS.out.keep HBA.out).keep (y.2.mono HBA.out.size)))
          have D0 : Hid (Below w5.heap.size w5 w5.drew) := Lib.hid (Below.refl _ _).drew
          have HA5 : Hid (asm w5.drew g (.slice none 0 0)) := Lib.hid q2
          have HB6 : Hid (Below g _ w5.drew) := Lib.hid (HB.out.trans q4.drew)
          have t2 : (S.toList == S.toList) = true := beq_self_eq_true _
          have t3 : (S.toList != S.toList) = false := by simp
          clear q1 q2 q3 q4 o9 hS
          have k0 : IntKind.i64.wrap 0 = 0 := by decide
          have c2 := HQ.out
          have c3 := HC1.out
          have c4 := HC2.out
          go_upto_region 18 with (fail)
          have hne : Nonempty { w' : World // Below w5.heap.size w5 w' } := ⟨⟨_, Below.refl _ _⟩⟩
          refine MixC.wp_region_mix [] (Below w5.heap.size w5) D0.out (by kernel_rfl) (by kernel_rfl) (by kernel_rfl) ?_
          (iterate 35 (refine MixC.mix_read rfl (fun K hK => ?_); go_simp; refine hK _ ?_; clear hK K))
          refine MixC.mix_nil ?_
          change Exit.then _ _ _ _ w5.drew
          clear c2 c3 c4 hne
          go_wp2_with fail
          go_roundw
          case rel => exact ⟨1, by omega, rfl, HA5, HB6⟩
          case measure => simp [intOf]
        · have HBA : Hid (Below w.heap.size w wr) := Lib.hid (HB4.out.trans ((HB5.out.mono HB4.out.size).trans (HB.out.mono (Nat.le_trans HB4.out.size hg))))
          go_wp2_with fail
          refine (lost41 wr g _ HA.out).mono ?_
          rintro e w6 ⟨rfl, rfl⟩
          go_wp2_with fail
          refine (begun41 wr g HA.out).mono ?_
          rintro e w6 ⟨rfl, rfl⟩
          go_wp2_with fail
          go_ret
          exact ⟨rfl, HBA.out⟩
    · obtain ⟨sn, rfl⟩ := Int.eq_ofNat_of_zero_le (show 0 ≤ s by omega)
      obtain ⟨d, hd⟩ : ∃ d, sn = d + 2 := ⟨sn - 2, by omega⟩
      have hd1 : 1 ≤ d ∧ d ≤ 1000 := by omega
      have hsn2 : sn < n := by omega
      obtain ⟨b, o, rfl, hbB, -⟩ := HS.out.at_ (by omega)
      have HD := Lib.hid hd
      have HT := Lib.hid ht
      have HU0 := Lib.hid hu0
      clear hu hu0 ht hd hsn
      go_enter Try.func7, Try.ntmps7
      go_wp2_with fail
      refine (alive41 _).mono ?_
      rintro e w1 ⟨rfl, B1⟩
      have HB1 := Lib.hid B1
      clear B1
      go_wp2_with fail
      refine (cut_long w.heap.size sn d n cap b o Z w1 (HS.out.keep HB1.out) HB1.out.size HU.out (by omega) HD.out hd1.1 hsn2).mono ?_
      rintro e w2 ⟨K, hM, al, cl, vs, rfl, hR, B2⟩
      have HB2 := Lib.hid (HB1.out.trans (B2.mono HB1.out.size))
      have HM := Lib.hid hM
      have hK : 2 ≤ K := by
        have h1 := hM.1
        have h2 := HD.out
        rcases (show K = 0 ∨ K = 1 ∨ 2 ≤ K by omega) with h | h | h
        · subst h; have : qk d 0 = 0 := rfl; omega
        · subst h; have : qk d 1 = 0 + d := rfl; omega
        · exact h
      have hK2 : K ≤ 1000 := by
        have h1 := hM.2 (K - 1) (by omega)
        have h2 := qk_ge hd1.1 (K - 1)
        omega
      clear hM
      go_wp2_with fail
      refine (rcut_long w.heap.size sn d n cap b o Z w2 (HS.out.keep HB2.out) HB2.out.size HU.out (by omega) HD.out hd1.1 hsn2).mono ?_
      rintro e w3 ⟨K', hM', ar, cr, rfl, hO, B3⟩
      obtain rfl := HM.out.uniq hM'
      have HB3 := Lib.hid (HB2.out.trans (B3.mono HB2.out.size))
      have HR3 := Lib.hid (hR.below B3)
      have HO := Lib.hid hO
      obtain ⟨gl, cl', he, -, gll, -, -⟩ := own_pos HR3.out.own (by omega)
      cases he
      clear hR hO B2 B3 hM'
      go_wp2_with fail
      refine (same_yes _ _ _ _ K _ _ _ vs w3 HR3.out HO.out (fun i hi => by rw [pcL_len]; omega)).mono ?_
      rintro e w4 ⟨rfl, B4⟩
      have HB4 := Lib.hid (HB3.out.trans (B4.mono HB3.out.size))
      have HR4 := Lib.hid (HR3.out.below B4)
      have gl4 : gl < w4.heap.size := by have := B4.size; omega
      clear B4
      go_wp2_with fail
      refine (new41 w4).mono ?_
      rintro e w5 ⟨g, rfl, hg, hA, B5⟩
      have HB5 := Lib.hid B5
      have HA : Hid (AsK Z n d K g 0 w5) := Lib.hid (.inl ⟨.inl rfl, hA⟩)
      clear hA B5
      go_wp2_with fail
      go_loopw [10] (fun si wx => ∃ i : Nat, i ≤ K ∧ si = .int .i64 i ∧ Hid (AsK Z n d K g i wx) ∧ Hid (Below g w5 wx)) (fun si _ => K - (intOf si).toNat)
      case atStart => exact ⟨0, by omega, rfl, HA, Lib.hid (Below.refl _ _)⟩
      case round =>
        clear HA
        obtain ⟨i, hi, rfl, HA, HB⟩ := hrel
        by_cases hlt : i < K
        · have hb5 : Below w4.heap.size w4 wr := HB5.out.trans (HB.out.mono hg)
          have c1 : w4.cell? ⟨gl, i, none⟩ = some (vs i) := own_cell HR4.out.own (show ((List.range K).map vs)[i]? = some (vs i) by simp [hlt])
          obtain ⟨gi, ci, hvi, gil, hp⟩ := (HR4.out.each i hlt).pc HU0.out HT.out hd1 (HM.out.2 i hlt) hb5
          rw [hvi] at c1
          obtain ⟨m, hm⟩ : ∃ m, m = (pcL Z n d (qk d i)).length := ⟨_, rfl⟩
          have hm2 : m ≤ sn ∧ 2 ≤ m := by have := pcL_len Z n d (qk d i); have := HD.out; omega
          rw [← hm] at c1 hp
          have c1' := Below.cell' hb5 gl4 c1
          have HPUT := Lib.hid (put_k Z n d K g i wr HM.out hK hlt (by omega) hd1 gi m ci hm hp HA.out (by omega))
          have t1 : decide ((sn : Int) < (m : Int)) = false := by simp; omega
          have t1' : decide (sn < m) = false := by simp; omega
          have k0 : IntKind.i64.wrap ((K : Int) - 1) = (K : Int) - 1 := by rw [IntKind.wrap_i64]; omega
          have hgw : w.heap.size ≤ g := Nat.le_trans HB4.out.size hg
          clear hb5 c1 hp hvi hm
          go_wp2_with fail
          refine HPUT.out.mono ?_
          rintro e w5 ⟨q1, q2, q3⟩
          have D0 : Hid (Below w5.heap.size w5 w5.drew) := Lib.hid (Below.refl _ _).drew
          have HA5 : Hid (AsK Z n d K g (i + 1) w5.drew) := Lib.hid q2
          have HB6 : Hid (Below g _ w5.drew) := Lib.hid (HB.out.trans q3.drew)
          have HBA : Hid (Below w.heap.size w w5) := Lib.hid (HB4.out.trans ((HB5.out.mono HB4.out.size).trans ((HB.out.mono hgw).trans (q3.mono hgw))))
          rcases q1 with ⟨hik, rfl⟩ | ⟨hik, gx, a9, c9, rfl, q4, q5⟩
          · have t2 : decide ((i : Int) < (K : Int) - 1) = true := by simp; omega
            have t3 : ((i : Int) == (K : Int) - 1) = false := by simp; omega
            clear q2 q3
            go_upto_region 18 with (fail)
            have hne : Nonempty { w' : World // Below w5.heap.size w5 w' } := ⟨⟨_, Below.refl _ _⟩⟩
            refine MixC.wp_region_mix [] (Below w5.heap.size w5) D0.out (by kernel_rfl) (by kernel_rfl) (by kernel_rfl) ?_
            (iterate 35 (refine MixC.mix_read rfl (fun K hK => ?_); go_simp; refine hK _ ?_; clear hK K))
            refine MixC.mix_nil ?_
            change Exit.then _ _ _ _ w5.drew
            clear hne
            go_wp2_with fail
            go_roundw
            case rel => exact ⟨i + 1, by omega, by go_num, HA5, HB6⟩
            case measure => simp [intOf] <;> omega
          · have t2 : decide ((i : Int) < (K : Int) - 1) = false := by simp; omega
            have t3 : ((i : Int) == (K : Int) - 1) = true := by simp; omega
            have gxl := lt_of_block q4
            have HQ : Hid (∀ y : { w' : World // Below w5.heap.size w5 w' }, y.1.cell? ⟨gx, 0, none⟩ = some (.slice a9 n c9)) := Lib.hid (fun y => cell_blk (Below.blk y.2 q4 gxl))
            have o9 : Own1 w5 (g + 1) (.slice a9 n c9) (zs Z n) := ⟨by rw [zs_len]; exact q5, zs_oct HS.out⟩
            obtain ⟨S, hS⟩ : ∃ S, S = strL (zs Z n) := ⟨_, rfl⟩
            have HC1 : Hid (∀ y : { w' : World // Below w5.heap.size w5 w' }, (convert 22 9 (.slice a9 n c9)).run Try.prog y.1 = .ok (.string S) y.1) := Lib.hid (fun y => by
              obtain ⟨a8, c8, h1, h2⟩ := o9.str (by rw [zs_len]; omega) y.2
              rw [zs_len] at h1 h2
              cases h1
              rw [hS]; exact h2)
            have HC2 : Hid (∀ y : { w' : World // Below w5.heap.size w5 w' }, (convert 22 9 (.slice (some ⟨b, o, none⟩) n cap)).run Try.prog y.1 = .ok (.string S) y.1) := Lib.hid (fun y => by
              rw [hS]; exact convZ ((HS.out.keep HBA.out).keep (y.2.mono HBA.out.size)))
            have t5 : (S.toList == S.toList) = true := beq_self_eq_true _
            have t6 : (S.toList != S.toList) = false := by simp
            clear q2 q3 q4 q5 o9 hS
            have c2 := HQ.out
            have c3 := HC1.out
            have c4 := HC2.out
            go_upto_region 18 with (fail)
            have hne : Nonempty { w' : World // Below w5.heap.size w5 w' } := ⟨⟨_, Below.refl _ _⟩⟩
            refine MixC.wp_region_mix [] (Below w5.heap.size w5) D0.out (by kernel_rfl) (by kernel_rfl) (by kernel_rfl) ?_
            (iterate 35 (refine MixC.mix_read rfl (fun K hK => ?_); go_simp; refine hK _ ?_; clear hK K))
            refine MixC.mix_nil ?_
            change Exit.then _ _ _ _ w5.drew
            clear c2 c3 c4 hne
            go_wp2_with fail
            go_roundw
            case rel => exact ⟨i + 1, by omega, by go_num, HA5, HB6⟩
            case measure => simp [intOf] <;> omega
        · obtain rfl : K = i := by omega
          have hA9 : asm wr g (.slice none 0 0) := by
            rcases HA.out with ⟨_, h⟩ | ⟨_, h, _⟩
            · exact h
            · omega
          have HA9 := Lib.hid hA9
          have HBA : Hid (Below w.heap.size w wr) := Lib.hid (HB4.out.trans ((HB5.out.mono HB4.out.size).trans (HB.out.mono (Nat.le_trans HB4.out.size hg))))
          clear hA9
          go_wp2_with fail
          refine (lost41 wr g _ HA9.out).mono ?_
          rintro e w6 ⟨rfl, rfl⟩
          go_wp2_with fail
          refine (begun41 wr g HA9.out).mono ?_
          rintro e w6 ⟨rfl, rfl⟩
          go_wp2_with fail
          go_ret
          exact ⟨rfl, HBA.out⟩
  · have HG := Lib.hid hG
    clear hG
    go_enter Try.func7, Try.ntmps7
    go_wp2_with fail
    refine (alive41 _).mono ?_
    rintro e w1 ⟨rfl, B1⟩
    have HB1 := Lib.hid B1
    clear B1
    go_wp2_with fail
    refine (cut_bad w.heap.size n cap a s Z w1 (HS.out.keep HB1.out) HB1.out.size HG.out).mono ?_
    rintro e w2 ⟨rfl, B2⟩
    have HB2 := Lib.hid (HB1.out.trans (B2.mono HB1.out.size))
    clear B2
    go_wp2_with fail
    refine (rcut_bad w.heap.size n cap a s Z w2 (HS.out.keep HB2.out) HG.out).mono ?_
    rintro e w3 ⟨rfl, rfl⟩
    go_wp2_with fail
    go_ret
    exact ⟨rfl, HB2.out⟩
end Go.Proofs.Ytkoplofcjbeicaa
