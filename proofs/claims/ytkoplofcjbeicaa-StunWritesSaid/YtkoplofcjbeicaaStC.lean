/-
  Chapter 12: the reference's Write.
-/
import Derived.Test.YtkoplofcjbeicaaStB
namespace Go.Proofs.Ytkoplofcjbeicaa
open Go.RowKit
set_option linter.unusedVariables false
set_option linter.unusedSimpArgs false
attribute [local irreducible] wpStill wpQuiet MixC.wpMix
attribute [local go_sem] MixC.rdOp MixC.rd MixC.rdUpon MixC.mvUpon

theorem zs_succ (Z : Nat → Int) (n : Nat) : zs Z (n + 1) = zs Z n ++ [Z n] := by simp [zs, List.range_succ]
set_option maxRecDepth 100000 in
set_option maxHeartbeats 4000000 in
theorem rwrite12_any (T : Int) (x : Nat → Int) (a : Option Addr) (len cap : Nat) (Q : Nat → At) (w : World) (hT : 0 ≤ T ∧ T ≤ 65535) (hx : ∀ i, i < 12 → 0 ≤ x i ∧ x i ≤ 255) (h : Ats w.heap.size w a len cap Q) (hlim : len ≤ 1000) :
    Calls Try.prog 19 #[.agg #[.int .u16 T, .int .u8 (x 0), .int .u8 (x 1), .int .u8 (x 2), .int .u8 (x 3), .int .u8 (x 4), .int .u8 (x 5), .int .u8 (x 6), .int .u8 (x 7), .int .u8 (x 8), .int .u8 (x 9), .int .u8 (x 10), .int .u8 (x 11), .slice a len cap]] w (Wr12 (.bool true) (.bool false) T x len Q w) := by
  have H := Lib.hid h
  have HX := Lib.hid hx
  have hle := h.le
  have hmx := h.max
  obtain ⟨t0, t1⟩ := hT
  clear h hx
  go_enter Try.func19, Try.ntmps19
  go_upto_region 1 with (fail)
  obtain ⟨W0, hW0⟩ : ∃ W0, w.alloc (.cells #[.int .u16 T, .int .u8 (x 0), .int .u8 (x 1), .int .u8 (x 2), .int .u8 (x 3), .int .u8 (x 4), .int .u8 (x 5), .int .u8 (x 6), .int .u8 (x 7), .int .u8 (x 8), .int .u8 (x 9), .int .u8 (x 10), .int .u8 (x 11), .slice a len cap] 28) = W0 := ⟨_, rfl⟩
  obtain ⟨g, hg⟩ : ∃ g, w.heap.size = g := ⟨_, rfl⟩
  rw [hW0, hg]
  have B0 : Hid (Below w.heap.size w W0) := Lib.hid (by rw [← hW0]; exact (Below.refl _ _).alloc (Nat.le_refl _) _)
  have K0 : Hid (W0.heap[g]? = some (.cells #[.int .u16 T, .int .u8 (x 0), .int .u8 (x 1), .int .u8 (x 2), .int .u8 (x 3), .int .u8 (x 4), .int .u8 (x 5), .int .u8 (x 6), .int .u8 (x 7), .int .u8 (x 8), .int .u8 (x 9), .int .u8 (x 10), .int .u8 (x 11), .slice a len cap] 28 (0, 0))) := Lib.hid (by rw [← hW0, ← hg]; exact alloc_blk_new)
  have HG0 : Hid (w.heap.size = g ∧ g < W0.heap.size) := Lib.hid ⟨hg, lt_of_block K0.out⟩
  clear hW0 hg
  have KK : Hid (∀ y, Below W0.heap.size W0 y → y.heap[g]? = some (.cells #[.int .u16 T, .int .u8 (x 0), .int .u8 (x 1), .int .u8 (x 2), .int .u8 (x 3), .int .u8 (x 4), .int .u8 (x 5), .int .u8 (x 6), .int .u8 (x 7), .int .u8 (x 8), .int .u8 (x 9), .int .u8 (x 10), .int .u8 (x 11), .slice a len cap] 28 (0, 0)) ∧ Below w.heap.size w y ∧ Ats y.heap.size y a len cap Q) := Lib.hid (fun y hy => by
    have bb := B0.out.trans (hy.mono B0.out.size)
    exact ⟨Below.blk hy K0.out HG0.out.2, bb, (H.out.keep bb).mono bb.size⟩)
  have c0 : W0.cell? ⟨g, 0, none⟩ = some (.int .u16 T) := cell_blk K0.out
  have c13 : W0.cell? ⟨g, 13, none⟩ = some (.slice a len cap) := cell_blk K0.out
  by_cases hTT : 16383 < T
  · go_wp2_with fail
    refine bodyPost_ret (by simp [results, Try.results19, go_sem]; try rfl) rfl ?_
    exact ⟨(KK.out _ (Below.refl _ _)).2.1, .inr ⟨fun h => by have := h.1; omega, rfl⟩⟩
  · by_cases h16 : 16 < len
    · have h16i : (16 : Int) < len := by omega
      go_wp2_with fail
      refine bodyPost_ret (by simp [results, Try.results19, go_sem]; try rfl) rfl ?_
      exact ⟨(KK.out _ (Below.refl _ _)).2.1, .inr ⟨fun h => by have := h.2.1; omega, rfl⟩⟩
    · have h16i : ¬ (16 : Int) < len := by omega
      go_wp2_with fail
      go_loopw [4, 5] (fun s4 s5 wr => ∃ (k m : Nat) (b : Option Addr) (bc : Nat), k ≤ len ∧ m ≤ k * 300 ∧ s5 = .int .i64 k ∧ s4 = .slice b m bc ∧ Hid (∀ i, i < k → (Q i).n ≤ 255) ∧ Hid (Below W0.heap.size W0 wr) ∧ Hid (BL wr b m bc (bodQ Q k))) (fun _ s5 _ => len - (intOf s5).toNat)
      case atStart => exact ⟨0, 0, none, 0, by omega, by omega, rfl, rfl, Lib.hid (fun i hi => by omega), Lib.hid (Below.refl _ _), Lib.hid (by rw [bodQ_zero]; exact BL.nil _)⟩
      case round =>
        clear c0 c13
        obtain ⟨k, m, b, bc, hk, hm, rfl, rfl, HM, HB, HO⟩ := hrel
        have c13 : wr.cell? ⟨g, 13, none⟩ = some (.slice a len cap) := cell_blk (KK.out _ HB.out).1
        by_cases hlt : k < len
        · have hki : (k : Int) < len := by omega
          obtain ⟨bb, off, hp, hc⟩ := (KK.out _ HB.out).2.2.mem
          obtain ⟨rfl, hbb⟩ := hp (by omega)
          obtain ⟨c0, c1⟩ := hc k hlt
          have hok := (KK.out _ HB.out).2.2.ok k hlt
          obtain ⟨q, hq⟩ : ∃ q, Q k = q := ⟨_, rfl⟩
          have HQ := Lib.hid hq
          rw [hq] at c0 c1 hok
          obtain ⟨t, qa, qn, qc, qZ⟩ := q
          simp only at c0 c1
          have OK := Lib.hid hok
          have qle := hok.z.le
          have qmx := hok.z.max
          have qt0 := hok.t0
          have qt1 := hok.t1
          simp only at qle qmx qt0 qt1
          clear hp hc hq hok
          by_cases h255 : 255 < qn
          · have h255i : (255 : Int) < qn := by omega
            have hno : Hid (¬ okW12 T len Q) := Lib.hid (fun h => by
              have := h.2.2 k hlt
              rw [HQ.out] at this
              simp only at this
              omega)
            go_wp2_with fail
            refine bodyPost_ret (by simp [results, Try.results19, go_sem]; try rfl) rfl ?_
            exact ⟨(KK.out _ HB.out).2.1, .inr ⟨hno.out, rfl⟩⟩
          · have h255i : ¬ (255 : Int) < qn := by omega
            have HM2 : Hid (∀ i, i < k + 1 → (Q i).n ≤ 255) := Lib.hid (fun i hi => by
              by_cases hik : i < k
              · exact HM.out i hik
              · obtain rfl : i = k := by omega
                rw [HQ.out]; show qn ≤ 255; omega)
            have wt : IntKind.u64.wrap t = t := by rw [IntKind.wrap_u64]; omega
            have wq : IntKind.u64.wrap (qn : Int) = (qn : Int) := by rw [IntKind.wrap_u64]; omega
            have HP1 := Lib.hid (rput_bl b m bc (bodQ Q k) 2 t wr HO.out (by omega) (by omega) (by omega) qt0 (by omega))
            go_wp2_with fail
            refine HP1.out.mono ?_
            rintro e V1 ⟨b1, bc1, rfl, o1, l1, bl1⟩
            have HL1 := Lib.hid l1
            have HB1 := Lib.hid bl1
            have HP2 := Lib.hid (rput_bl b1 (m + 2) bc1 _ 2 (qn : Int) V1 HL1.out (by omega) (by omega) (by omega) (by omega) (by omega))
            clear o1 l1 bl1 HP1 c0 c1 c13
            go_wp2_with fail
            refine HP2.out.mono ?_
            rintro e V2 ⟨b2, bc2, rfl, o2, l2, bl2⟩
            have HO2 := Lib.hid o2
            have HB2 : Hid (Below wr.heap.size wr V2) := Lib.hid (HB1.out.trans (bl2.mono HB1.out.size))
            have HS2 : Hid (V1.heap.size ≤ V2.heap.size) := Lib.hid bl2.size
            clear o2 l2 bl2 HP2
            have BW2 := Lib.hid (HB.out.trans (HB2.out.mono HB.out.size))
            have hz2 := ((OK.out.keep HB2.out)).z
            simp only at hz2
            obtain ⟨a3, c3, V3, A3, B3⟩ := appS elU8 HO2.out qa qn qc (u8s (zs qZ qn)) hz2.nils (by rw [u8s_len, zs_len, Nat.mul_one]) hz2.news' (u8s_one _) (by omega) (by omega) HS2.out
            have hoct : Oct (bodQ Q k ++ putL t 2 ++ putL qn 2 ++ zs qZ qn) := ((HO.out.oct.app (putL_oct _ _)).app (putL_oct _ _)).app (zs_oct hz2)
            have o3 := A3.own
            rw [← u8s_app] at o3
            have hl3 := BL.own' o3 hoct (by omega)
            have hf3 := rfill_bl a3 (m + 2 + 2 + qn) c3 _ V3 hl3 (by omega)
            rw [fil_enc (bodQ Q k) (zs qZ qn) t qn (zs_len _ _).symm (bodQ_4 Q k), show bodQ Q k ++ encA t (zs qZ qn) = bodQ Q (k + 1) by rw [bodQ_succ, HQ.out]] at hf3
            have HF3 := Lib.hid hf3
            have HA3 := Lib.hid A3.run
            have BW3 : Hid (Below W0.heap.size W0 V3) := Lib.hid (BW2.out.trans (B3.mono (by have := HB1.out.size; have := HB.out.size; omega)))
            clear A3 B3 hoct o3 hl3 hf3 hz2
            go_wp2_with (at_builtin; refine wpList_of_append rfl (.tmp 48) (.tmp 49) 22 rfl _ _ _ rfl rfl HA3.out ?_)
            refine HF3.out.mono ?_
            rintro e V4 ⟨b4, bc4, rfl, l4, bl4⟩
            have HL4 := Lib.hid l4
            have BW4 := Lib.hid (BW3.out.trans (bl4.mono BW3.out.size))
            have hp4 := padN_4 (m + 2 + 2 + qn)
            obtain ⟨m4, hm4⟩ : ∃ m4, m + 2 + 2 + qn + padN (m + 2 + 2 + qn) 4 = m4 := ⟨_, rfl⟩
            rw [hm4] at HL4 ⊢
            have hm5 : m4 ≤ (k + 1) * 300 := by omega
            clear l4 bl4 hm4 hp4 HF3
            go_wp2_with fail
            go_roundw
            case rel => exact ⟨k + 1, m4, b4, bc4, by omega, hm5, by go_num, rfl, HM2, BW4, HL4⟩
            case measure => simp [intOf] <;> omega
        · obtain rfl : len = k := by omega
          clear hlt
          obtain ⟨body, hbody⟩ : ∃ body, bodQ Q len = body := ⟨_, rfl⟩
          rw [hbody] at HO
          have c0 : wr.cell? ⟨g, 0, none⟩ = some (.int .u16 T) := cell_blk (KK.out _ HB.out).1
          have wt : IntKind.u64.wrap T = T := by rw [IntKind.wrap_u64]; omega
          have wm : IntKind.u64.wrap (m : Int) = (m : Int) := by rw [IntKind.wrap_u64]; omega
          have HP1 := Lib.hid (rput_bl none 0 0 [] 2 T wr (BL.nil _) (by omega) (by omega) (by omega) t0 (by omega))
          go_wp2_with fail
          refine HP1.out.mono ?_
          rintro e V1 ⟨b1, bc1, rfl, o1, l1, bl1⟩
          have HL1 := Lib.hid l1
          have B1 := Lib.hid bl1
          have HP2 := Lib.hid (rput_bl b1 (0 + 2) bc1 _ 2 (m : Int) V1 HL1.out (by omega) (by omega) (by omega) (by omega) (by omega))
          clear o1 l1 bl1 HP1 c0
          go_wp2_with fail
          refine HP2.out.mono ?_
          rintro e V2 ⟨b2, bc2, rfl, o2, l2, bl2⟩
          have HL2 := Lib.hid l2
          have B2 := Lib.hid (B1.out.trans (bl2.mono B1.out.size))
          have HP3 := Lib.hid (rput_bl b2 (0 + 2 + 2) bc2 _ 4 magicI V2 HL2.out (by omega) (by omega) (by omega) (by decide) (by decide))
          clear o2 l2 bl2 HP2
          go_wp2_with fail
          refine HP3.out.mono ?_
          rintro e V3 ⟨b3, bc3, rfl, o3, l3, bl3⟩
          obtain ⟨hd, hhd⟩ : ∃ hd, [] ++ putL T 2 ++ putL (m : Int) 2 ++ putL magicI 4 = hd := ⟨_, rfl⟩
          rw [hhd] at o3 l3
          have O3 : Hid (V3.ownsRow V2.heap.size 5 1 (.slice b3 (8 + 0) bc3) (8 + 0) (u8s (hd ++ zs x 0))) := Lib.hid (by
            have e : hd ++ zs x 0 = hd := by simp [zs]
            rw [e]; exact o3)
          have HD : Hid (Oct hd ∧ wrM T (zs x 12) (cons Q len) = hd ++ zs x 12 ++ body) := Lib.hid ⟨l3.oct, by
            unfold wrM headW
            rw [show bodA (cons Q len) = body from hbody, ← HO.out.len, ← hhd, List.nil_append]⟩
          have B3 := Lib.hid (B2.out.trans (bl3.mono B2.out.size))
          have HO3 : Hid (BS V2.heap.size V3 b m bc (gz body) ∧ m = body.length ∧ Oct body) := Lib.hid ⟨(HO.out.bs.keep B3.out).mono B2.out.size, HO.out.len, HO.out.oct⟩
          have BW3 := Lib.hid (HB.out.trans (B3.out.mono HB.out.size))
          have N2 : Hid (V2.heap.size ≤ V3.heap.size ∧ W0.heap.size ≤ V2.heap.size ∧ wr.heap.size ≤ V2.heap.size) := Lib.hid ⟨bl3.size, by have := B2.out.size; have := HB.out.size; omega, B2.out.size⟩
          clear o3 l3 bl3 HP3 hhd HL1 HL2 c13
          obtain ⟨N, hN⟩ : ∃ N, V2.heap.size = N := ⟨_, rfl⟩
          rw [hN] at O3 N2 HO3
          clear hN HB HO hbody
          obtain ⟨wz, hwz⟩ : ∃ wz, wz = wr := ⟨_, rfl⟩
          rw [← hwz] at B1 B2 B3 N2
          clear hwz wr B1 B2 B3
          go_wp2_with fail
          go_loopw [7, 8] (fun s7 s8 wr => ∃ (j : Nat) (b : Option Addr) (c : Nat), j ≤ 12 ∧ s8 = .int .i64 j ∧ s7 = .slice b (8 + j) c ∧ Hid (Below N V3 wr) ∧ Hid (wr.ownsRow N 5 1 (.slice b (8 + j) c) (8 + j) (u8s (hd ++ zs x j)))) (fun _ s8 _ => 12 - (intOf s8).toNat)
          case atStart => exact ⟨0, b3, bc3, by omega, rfl, rfl, Lib.hid (Below.refl _ _), O3⟩
          case round =>
            obtain ⟨j, b', c', hj, rfl, rfl, HB, HO⟩ := hrel
            by_cases hlt : j < 12
            · have BP := Lib.hid (BW3.out.trans (HB.out.mono (by have := N2.out; omega)))
              have cj : wr.cell? ⟨g, 1 + j, none⟩ = some (.int .u8 (x j)) := by
                rw [cell_blk (KK.out _ BP.out).1]
                rcases (by omega : j = 0 ∨ j = 1 ∨ j = 2 ∨ j = 3 ∨ j = 4 ∨ j = 5 ∨ j = 6 ∨ j = 7 ∨ j = 8 ∨ j = 9 ∨ j = 10 ∨ j = 11) with rfl | rfl | rfl | rfl | rfl | rfl | rfl | rfl | rfl | rfl | rfl | rfl <;> rfl
              have hji : (j : Int) < 12 := by omega
              obtain ⟨a9, c9, W9, A9, B9⟩ := app1 elU8 HO.out [.int .u8 (x j)] rfl (one_cell rfl) (by omega) (by omega) (by have := HB.out.size; have := N2.out; omega)
              have O9 : Hid (W9.ownsRow N 5 1 (.slice a9 (8 + (j + 1)) c9) (8 + (j + 1)) (u8s (hd ++ zs x (j + 1)))) := Lib.hid (by
                rw [zs_succ, ← List.append_assoc, u8s_app]
                exact A9.own)
              have P9 := Lib.hid (HB.out.trans B9)
              have HA := Lib.hid A9.run
              clear A9 B9
              go_wp2_with (at_builtin; refine wpList_of_append rfl (.tmp 67) (.tmp 72) 22 rfl _ _ _ rfl rfl HA.out ?_)
              go_roundw
              case rel => exact ⟨j + 1, a9, c9, by omega, by go_num, rfl, P9, O9⟩
              case measure => simp [intOf] <;> omega
            · obtain rfl : j = 12 := by omega
              have hlb := HO3.out.1.keep HB.out
              have hbl := hlb.le
              have hbm := hlb.max
              have hm3 : m ≤ 5000 := by omega
              obtain ⟨a9, c9, W9, A9, B9⟩ := appS elU8 HO.out b m bc (u8s (zs (gz body) m)) hlb.nils (by rw [u8s_len, zs_len, Nat.mul_one]) hlb.news' (u8s_one _) (by omega) (by omega) (by have := HB.out.size; have := N2.out; omega)
              have o9 := A9.own
              rw [← u8s_app, zs_ext body m HO3.out.2.1.symm, ← HD.out.2] at o9
              have hoct : Oct (wrM T (zs x 12) (cons Q len)) := by
                rw [HD.out.2]
                exact (HD.out.1.app (fun y hy => by
                  obtain ⟨i, hi, rfl⟩ := List.mem_map.1 hy
                  exact HX.out i (List.mem_range.1 hi))).app HO3.out.2.2
              have L9 := Lib.hid (BL.own' o9 hoct (by omega))
              have P9 := Lib.hid (BW3.out.trans ((HB.out.trans B9).mono (by have := N2.out; omega)))
              have HA := Lib.hid A9.run
              have HOK : Hid (okW12 T len Q) := Lib.hid ⟨by omega, by omega, HM.out⟩
              clear A9 B9 o9 hoct hlb
              go_wp2_with (at_builtin; refine wpList_of_append rfl (.tmp 74) (.tmp 75) 22 rfl _ _ _ rfl rfl HA.out ?_)
              refine bodyPost_ret (by simp [results, Try.results19, go_sem]; try rfl) rfl ?_
              exact ⟨(KK.out _ P9.out).2.1, .inl ⟨HOK.out, _, _, _, rfl, L9.out⟩⟩
end Go.Proofs.Ytkoplofcjbeicaa
