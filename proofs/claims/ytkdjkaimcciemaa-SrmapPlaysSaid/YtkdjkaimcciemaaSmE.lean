/-
  Chapter 38: the law SrmapPlays.
-/
import Derived.Test.YtkdjkaimcciemaaSmG
namespace Go.Proofs.Ytkdjkaimcciemaa
open Go.RowKit
set_option linter.unusedVariables false
set_option linter.unusedSimpArgs false
attribute [local irreducible] wpStill wpQuiet MixC.wpMix
attribute [local go_sem] MixC.rdOp MixC.rd MixC.rdUpon MixC.mvUpon

set_option maxRecDepth 100000 in
set_option maxHeartbeats 160000000 in
theorem SrmapPlays.walk (v : Value) (w : World) (r : Reads Try.prog w 6 31 v) : Calls Try.prog 5 #[v] w fun e w' => e = .returned (.bool true) ∧ Below w.heap.size w w' := by
  obtain ⟨ad, len, cap, ob, off, O, rfl, hle, hmx, hadr, hcell⟩ := ops_of r
  have HAD := Lib.hid hadr
  have HO := Lib.hid hcell
  clear hadr hcell r
  go_enter Try.func5, Try.ntmps5
  go_wp2_with fail
  refine (alive38_any w).mono ?_
  rintro e w1 ⟨rfl, b1⟩
  have B1 := Lib.hid b1
  clear b1
  go_wp2_with fail
  refine (bknew_any w1).mono ?_
  rintro e w2 ⟨rfl, hbk, b2⟩
  have hgt : w1.heap.size < w2.heap.size := hbk.map.lt
  have hgk : w1.heap.size + 1 < w2.heap.size := lt_of_block hbk.blk
  obtain ⟨gk, hgke⟩ : ∃ gk, w1.heap.size + 1 = gk := ⟨_, rfl⟩
  obtain ⟨gm, hgme⟩ : ∃ gm, w1.heap.size = gm := ⟨_, rfl⟩
  rw [hgke] at hbk hgk ⊢
  rw [hgme] at hbk hgt
  have hwm : w.heap.size ≤ gm := by rw [← hgme]; exact B1.out.size
  have hwk : w.heap.size ≤ gk := by omega
  obtain ⟨N0, hN0⟩ : ∃ N0, w2.heap.size = N0 := ⟨_, rfl⟩
  have hmN : gm < N0 := by omega
  have hkN : gk < N0 := by omega
  have I0 : Hid (SmI w gk gm N0 0 [] (fun _ => none) none 0 none 0 w2) := Lib.hid ⟨hbk, World.ownsRow_nil _ _ _ _, World.ownsRow_nil _ _ _ _, ⟨fun j hj => absurd hj (Nat.not_lt_zero _), fun x s h => (by cases h), fun i j hi => absurd hi (Nat.not_lt_zero _)⟩, B1.out.trans (b2.mono B1.out.size), by omega, by simp, fun j hj => absurd hj (Nat.not_lt_zero _)⟩
  clear hbk b2 hgt hgk hgke hgme hN0 B1
  go_wp2_with fail
  go_loopw [4, 5, 6] (fun s4 s5 s6 wr => ∃ (i ln : Nat) (N : List Ent) (f : Int → Option Sy) (na : Option Addr) (nc : Nat) (sa : Option Addr) (sc : Nat), i ≤ len ∧ i ≤ 80 ∧ s6 = .int .i64 i ∧ s4 = .slice na ln nc ∧ s5 = .slice sa ln sc ∧ ln ≤ 32 ∧ Hid (ln = N.length) ∧ Hid (SmI w gk gm N0 i N f na nc sa sc wr)) (fun _ _ s6 _ => len - (intOf s6).toNat)
  case atStart => exact ⟨0, 0, [], fun _ => none, none, 0, none, 0, by omega, by omega, rfl, rfl, rfl, by omega, Lib.hid rfl, I0⟩
  case round =>
    clear I0
    obtain ⟨i, ln, N, f, na, nc, sa, sc, hi, hi80, rfl, rfl, rfl, hl32, HL, HI⟩ := hrel
    by_cases hlt : i < len ∧ i < 80
    · obtain ⟨hlt, h80⟩ := hlt
      have hii : (i : Int) < len := by omega
      have h80i : (i : Int) < 80 := by omega
      obtain ⟨rfl, hob⟩ := HAD.out (by omega)
      obtain ⟨hok, q0, q1, q2, q3, q4, q5, q6⟩ := HO.out i (by omega)
      obtain ⟨o, ho⟩ : ∃ o, O i = o := ⟨_, rfl⟩
      rw [ho] at hok q0 q1 q2 q3 q4 q5 q6
      have bw := HI.out.bl
      have c0 := Below.cell' bw hob q0
      have c1 := Below.cell' bw hob q1
      have c2 := Below.cell' bw hob q2
      have c3 := Below.cell' bw hob q3
      have c4 := Below.cell' bw hob q4
      have c5 := Below.cell' bw hob q5
      have c6 := Below.cell' bw hob q6
      obtain ⟨kd, A, B, ⟨T, S, R⟩, M⟩ := o
      simp only at c0 c1 c2 c3 c4 c5 c6
      have OK := Lib.hid hok
      clear q0 q1 q2 q3 q4 q5 q6 bw ho hok
      go_upto_region 12 with (fail)
      obtain ⟨V, hV⟩ : ∃ V, wr.alloc (.cells (opC ⟨kd, A, B, ⟨T, S, R⟩, M⟩) 37) = V := ⟨_, rfl⟩
      obtain ⟨g7, hg7⟩ : ∃ g7, wr.heap.size = g7 := ⟨_, rfl⟩
      change Code.wp _ _ _ _ (wr.alloc (.cells (opC ⟨kd, A, B, ⟨T, S, R⟩, M⟩) 37))
      rw [hV, hg7]
      have bV : Below wr.heap.size wr V := by rw [← hV]; exact (Below.refl _ _).alloc (Nat.le_refl _) _
      have K7 : Hid (V.heap[g7]? = some (.cells (opC ⟨kd, A, B, ⟨T, S, R⟩, M⟩) 37 (0, 0))) := Lib.hid (by rw [← hV, ← hg7]; exact alloc_blk_new)
      have HV := Lib.hid (HI.out.below bV)
      have hg7N : N0 ≤ g7 := by rw [← hg7]; exact HI.out.sz
      clear hV hg7 bV c0 c1 c2 c3 c4 c5 c6
      go_wp2_with fail
      go_loopw [8, 9, 10] (fun s8 s9 s10 wr => ∃ (k : Nat) (r1 r2 : Int), k ≤ ln ∧ s10 = .int .i64 k ∧ s8 = .int .i64 r1 ∧ s9 = .int .i64 r2 ∧ Hid (AtN N A k r1) ∧ Hid (AtN N B k r2) ∧ Hid (Below V.heap.size V wr)) (fun _ _ s10 _ => ln - (intOf s10).toNat)
      case atStart => exact ⟨0, -1, -1, by omega, rfl, rfl, rfl, Lib.hid (AtN.zero _ _), Lib.hid (AtN.zero _ _), Lib.hid (Below.refl _ _)⟩
      case round =>
        obtain ⟨k, r1, r2, hk, rfl, rfl, rfl, HR1, HR2, HW⟩ := hrel
        by_cases hkl : k < ln
        · have hki : (k : Int) < ln := by omega
          have hkN2 : k < N.length := by have := HL.out; omega
          obtain ⟨nb, nc', hnv, hnb⟩ : ∃ nb nc', (Value.slice na ln nc) = .slice (some ⟨nb, 0, none⟩) ln nc' ∧ V.cell? ⟨nb, k, none⟩ = some (.int .u32 (kN N k)) := by
            have hrow := HV.out.nm
            rw [← HL.out] at hrow
            rcases hrow.2 with ⟨_, h0⟩ | ⟨g, cp, cur, h1, _⟩
            · omega
            · have h2 := hrow
              rw [h1] at h2
              have := h2.cells rfl k _ (nmV_get N k hkN2)
              rw [addr_add, Nat.zero_add] at this
              exact ⟨g, cp, h1, this⟩
          injection hnv with x1 x2 x3
          subst x1 x3
          have d0 : wr.cell? ⟨nb, k, none⟩ = some (.int .u32 (kN N k)) := Below.cell' HW.out (World.block_lt_of_cell? _ _ hnb) hnb
          have d1 : wr.cell? ⟨g7, 1, none⟩ = some (.int .u32 A) := cell_blk (Below.blk HW.out K7.out (lt_of_block K7.out))
          have d2 : wr.cell? ⟨g7, 2, none⟩ = some (.int .u32 B) := cell_blk (Below.blk HW.out K7.out (lt_of_block K7.out))
          by_cases e1 : kN N k = A
          · by_cases e2 : kN N k = B
            · as_aux_lemma =>
                subst e1
                subst e2
                have Q1 := Lib.hid (AtN.hit N (kN N k) k rfl)
                have Q2 := Lib.hid (AtN.hit N (kN N k) k rfl)
                go_wp2_with fail
                go_quiet (fail)
                generalize hX : wr.drewN _ = X
                have bX : Below V.heap.size V X := by rw [← hX]; exact below_drewN0 HW.out _
                have BX := Lib.hid bX
                clear hX bX d0 d1 d2
                have d0 : X.cell? ⟨nb, k, none⟩ = some (.int .u32 (kN N k)) := Below.cell' BX.out (World.block_lt_of_cell? _ _ hnb) hnb
                have d2 : X.cell? ⟨g7, 2, none⟩ = some (.int .u32 (kN N k)) := cell_blk (Below.blk BX.out K7.out (lt_of_block K7.out))
                go_wp2_with fail
                go_quiet (fail)
                generalize hX : X.drewN _ = Y
                have BY : Hid (Below V.heap.size V Y) := Lib.hid (by rw [← hX]; exact below_drewN0 BX.out _)
                clear hX d0 d2
                go_wp2_with fail
                go_roundw
                case rel => exact ⟨k + 1, (k : Int), (k : Int), by omega, by go_num, by go_num, by go_num, Q1, Q2, BY⟩
                case measure => simp [intOf] <;> omega
            · as_aux_lemma =>
                have Q1 := Lib.hid (AtN.hit N A k e1)
                have Q2 := Lib.hid (AtN.miss HR2.out e2)
                have f1 : (kN N k = A) = True := eq_true e1
                have g1 : (kN N k == A) = true := by simpa using e1
                have f2 : (kN N k = B) = False := eq_false e2
                have g2 : (kN N k == B) = false := by simpa using e2
                clear e1 e2
                go_wp2_with fail
                go_quiet (fail)
                generalize hX : wr.drewN _ = X
                have bX : Below V.heap.size V X := by rw [← hX]; exact below_drewN0 HW.out _
                have BX := Lib.hid bX
                clear hX bX d0 d1 d2
                have d0 : X.cell? ⟨nb, k, none⟩ = some (.int .u32 (kN N k)) := Below.cell' BX.out (World.block_lt_of_cell? _ _ hnb) hnb
                have d2 : X.cell? ⟨g7, 2, none⟩ = some (.int .u32 B) := cell_blk (Below.blk BX.out K7.out (lt_of_block K7.out))
                go_wp2_with fail
                go_quiet (fail)
                generalize hX : X.drewN _ = Y
                have BY : Hid (Below V.heap.size V Y) := Lib.hid (by rw [← hX]; exact below_drewN0 BX.out _)
                clear hX d0 d2
                go_wp2_with fail
                go_roundw
                case rel => exact ⟨k + 1, (k : Int), r2, by omega, by go_num, by go_num, by go_num, Q1, Q2, BY⟩
                case measure => simp [intOf] <;> omega
          · by_cases e2 : kN N k = B
            · as_aux_lemma =>
                have Q1 := Lib.hid (AtN.miss HR1.out e1)
                have Q2 := Lib.hid (AtN.hit N B k e2)
                have f1 : (kN N k = A) = False := eq_false e1
                have g1 : (kN N k == A) = false := by simpa using e1
                have f2 : (kN N k = B) = True := eq_true e2
                have g2 : (kN N k == B) = true := by simpa using e2
                clear e1 e2
                go_wp2_with fail
                go_quiet (fail)
                generalize hX : wr.drewN _ = X
                have bX : Below V.heap.size V X := by rw [← hX]; exact below_drewN0 HW.out _
                have BX := Lib.hid bX
                clear hX bX d0 d1 d2
                have d0 : X.cell? ⟨nb, k, none⟩ = some (.int .u32 (kN N k)) := Below.cell' BX.out (World.block_lt_of_cell? _ _ hnb) hnb
                have d2 : X.cell? ⟨g7, 2, none⟩ = some (.int .u32 B) := cell_blk (Below.blk BX.out K7.out (lt_of_block K7.out))
                go_wp2_with fail
                go_quiet (fail)
                generalize hX : X.drewN _ = Y
                have BY : Hid (Below V.heap.size V Y) := Lib.hid (by rw [← hX]; exact below_drewN0 BX.out _)
                clear hX d0 d2
                go_wp2_with fail
                go_roundw
                case rel => exact ⟨k + 1, r1, (k : Int), by omega, by go_num, by go_num, by go_num, Q1, Q2, BY⟩
                case measure => simp [intOf] <;> omega
            · as_aux_lemma =>
                have Q1 := Lib.hid (AtN.miss HR1.out e1)
                have Q2 := Lib.hid (AtN.miss HR2.out e2)
                have f1 : (kN N k = A) = False := eq_false e1
                have g1 : (kN N k == A) = false := by simpa using e1
                have f2 : (kN N k = B) = False := eq_false e2
                have g2 : (kN N k == B) = false := by simpa using e2
                clear e1 e2
                go_wp2_with fail
                go_quiet (fail)
                generalize hX : wr.drewN _ = X
                have bX : Below V.heap.size V X := by rw [← hX]; exact below_drewN0 HW.out _
                have BX := Lib.hid bX
                clear hX bX d0 d1 d2
                have d0 : X.cell? ⟨nb, k, none⟩ = some (.int .u32 (kN N k)) := Below.cell' BX.out (World.block_lt_of_cell? _ _ hnb) hnb
                have d2 : X.cell? ⟨g7, 2, none⟩ = some (.int .u32 B) := cell_blk (Below.blk BX.out K7.out (lt_of_block K7.out))
                go_wp2_with fail
                go_quiet (fail)
                generalize hX : X.drewN _ = Y
                have BY : Hid (Below V.heap.size V Y) := Lib.hid (by rw [← hX]; exact below_drewN0 BX.out _)
                clear hX d0 d2
                go_wp2_with fail
                go_roundw
                case rel => exact ⟨k + 1, r1, r2, by omega, by go_num, by go_num, by go_num, Q1, Q2, BY⟩
                case measure => simp [intOf] <;> omega
        · obtain rfl : ln = k := by omega
          clear hkl
          obtain ⟨W, hWe⟩ : ∃ W, W = wr := ⟨_, rfl⟩
          rw [← hWe] at HW ⊢
          clear hWe wr
          have IW := Lib.hid (HV.out.below HW.out)
          have BK7 := Lib.hid (Below.blk HW.out K7.out (lt_of_block K7.out))
          have q0 : W.cell? ⟨g7, 0, none⟩ = some (.int .u8 kd) := cell_blk BK7.out
          have q1 : W.cell? ⟨g7, 1, none⟩ = some (.int .u32 A) := cell_blk BK7.out
          have q2 : W.cell? ⟨g7, 2, none⟩ = some (.int .u32 B) := cell_blk BK7.out
          have q3 : W.cell? ⟨g7, 3, none⟩ = some (.int .u64 T) := cell_blk BK7.out
          have q4 : W.cell? ⟨g7, 4, none⟩ = some (.int .u32 S) := cell_blk BK7.out
          have q5 : W.cell? ⟨g7, 5, none⟩ = some (.int .u32 R) := cell_blk BK7.out
          have q6 : W.cell? ⟨g7, 6, none⟩ = some (.int .u32 M) := cell_blk BK7.out
          have kb := OK.out.kd
          simp only at kb
          have htm : kd.tmod 5 = kd % 5 := Int.tmod_eq_emod_of_nonneg kb.1
          rw [HL.out] at HR1 HR2
          have HF : Hid ((r1 = -1 ∧ f A = none) ∨ ∃ j : Nat, r1 = j ∧ j < ln ∧ kN N j = A ∧ f A = some (sN N j)) := Lib.hid (by
            rcases HR1.out with ⟨j, h1, h2, h3⟩ | ⟨h1, h2⟩
            · exact .inr ⟨j, h3, by rw [HL.out]; exact h1, h2, by rw [← h2]; exact IW.out.rel.has j h1⟩
            · exact .inl ⟨h1, AtN.none IW.out.rel (by rw [← h1]; exact HR1.out)⟩)
          have HG : Hid ((r2 = -1 ∧ f B = none) ∨ ∃ j : Nat, r2 = j ∧ j < ln ∧ kN N j = B ∧ f B = some (sN N j)) := Lib.hid (by
            rcases HR2.out with ⟨j, h1, h2, h3⟩ | ⟨h1, h2⟩
            · exact .inr ⟨j, h3, by rw [HL.out]; exact h1, h2, by rw [← h2]; exact IW.out.rel.has j h1⟩
            · exact .inl ⟨h1, AtN.none IW.out.rel (by rw [← h1]; exact HR2.out)⟩)
          clear HR1 HR2 HV HW K7 HI kb
          by_cases m2 : kd % 5 = 2
          · as_aux_lemma =>
              rw [m2] at htm
              have HDR := Lib.hid (bkdrop_any W gk gm i f N.length A IW.out.bk OK.out.a)
              go_wp2_with fail
              refine HDR.out.mono ?_
              rintro e X hE
              clear HDR q0 q1 q2 q3 q4 q5 q6
              rcases HF.out with ⟨rfl, hfn⟩ | ⟨j, rfl, hj, hkj, hfs⟩
              · rcases hE.symm with ⟨h, _⟩ | ⟨_, rfl, bk', kp'⟩
                · rw [hfn] at h; cases h
                obtain ⟨rn, rs, rb, rz⟩ := IW.out.rows kp' hmN hwm
                have IX : Hid (SmI w gk gm N0 (i + 1) N f na nc sa sc X) := Lib.hid ⟨⟨bk'.blk, bk'.map.mono (by omega), bk'.ne⟩, rn, rs, IW.out.rel, rb, rz, IW.out.l32, IW.out.ok⟩
                clear hfn bk' kp' rn rs rb rz
                go_wp2_with fail
                go_roundw
                case rel => exact ⟨i + 1, ln, N, f, na, nc, sa, sc, by omega, by omega, by go_num, rfl, rfl, hl32, HL, IX⟩
                case measure => simp [intOf] <;> omega
              · rcases hE with ⟨h, _⟩ | ⟨_, rfl, bk', kp'⟩
                · rw [hfs] at h; cases h
                subst hkj
                obtain ⟨rn, rs, rb, rz⟩ := IW.out.rows kp' hmN hwm
                have l32 := IW.out.l32
                have hji : ¬ (j : Int) < 0 := by omega
                have hln : N.length = ln := HL.out.symm
                have hjN : j < N.length := by omega
                have hw1 : IntKind.i64.wrap ((j : Int) + 1) = (j : Int) + 1 := IntWalk.i64_in _ (by omega)
                obtain ⟨A1, A2, a1, c1, V1, a2, c2, V2, s1, s2, p1, p2, b0, b1, b2, o2⟩ := row_cut elU32 sizeU32 rn hjN (by omega) rz (nmV_one N) (by omega)
                rw [nmV_cut] at o2
                have rs2 := own_below rs b2
                have rz2 : N0 ≤ V2.heap.size := Nat.le_trans rz b2.size
                obtain ⟨A3, A4, a3, c3, V3, a4, c4, V4, s3, s4, p3, p4, b3, b4, b5, o5⟩ := row_cut elSy sizeSy rs2 hjN (by omega) rz2 (syV_one N) (by omega)
                rw [syV_cut] at o5
                have o6 := own_below o2 b5
                have bb : Below X.heap.size X V4 := b2.trans (b5.mono b2.size)
                have hll := cutN_len hjN
                have bk4 : Bk gk gm (i + 1) (updS f (kN N j) none) (cutN N j).length V4 := by
                  rw [hll]
                  have h := bk'.low (bb.mono rz) hkN hmN
                  exact ⟨h.blk, h.map.mono (by omega), h.ne⟩
                have IX : Hid (SmI w gk gm N0 (i + 1) (cutN N j) (updS f (kN N j) none) a2 c2 a4 c4 V4) := Lib.hid ⟨bk4, by rw [hll]; exact o6, by rw [hll]; exact o5, IW.out.rel.cut hjN, rb.trans (bb.mono rb.size), Nat.le_trans rz bb.size, by rw [hll]; omega, fun q hq => by
                  rw [(kN_cut hjN q).2]
                  rw [hll] at hq
                  exact IW.out.ok _ (by split <;> omega)⟩
                have HL2 : Hid (ln - 1 = (cutN N j).length) := Lib.hid (by rw [hll, hln])
                have hl31 : ln - 1 ≤ 32 := by omega
                have HLN := Lib.hid (bklen_any V4 gk gm _ _ _ bk4)
                rw [hll] at HLN
                rw [hln] at s1 s2 p2 s3 s4 p4 HLN
                have P1 := Lib.hid p1
                have P2 := Lib.hid p2
                have P3 := Lib.hid p3
                have P4 := Lib.hid p4
                have D1 := Lib.hid b0
                have D2 := Lib.hid b1
                have D3 := Lib.hid b2
                have D4 := Lib.hid b3
                have D5 := Lib.hid b4
                have D6 := Lib.hid b5
                clear bk' kp' rn rs rb rz p1 p2 p3 p4 b0 b1 b2 b3 b4 b5 bb bk4 o2 o5 o6 rs2 rz2 hll hfs l32 hjN hln
                go_upto_region 41 with (fail)
                have hne : Nonempty { w' : World // Below X.heap.size X w' } := ⟨⟨X, Below.refl _ _⟩⟩
                refine MixC.wp_region_mix [0, 4, 9] (Below X.heap.size X) (Below.refl _ _).drew (by kernel_rfl) (by kernel_rfl) (by kernel_rfl) ?_
                refine MixC.mix_move rfl (fun K hK => ?_)
                go_simp
                refine ⟨D1.out, hK _ _ ?_⟩
                clear hK K
                (iterate 3 (refine MixC.mix_read rfl (fun K hK => ?_); go_simp; refine hK _ ?_; clear hK K))
                (refine MixC.mix_move rfl (fun K hK => ?_); refine Eq.mpr (if_pos rfl) ?_; refine mv_app (s := .tmp 116) (x := .tmp 119) (t := 34) rfl rfl rfl P1.out D2.out (hK _ _ ?_); clear hK K)
                (iterate 4 (refine MixC.mix_read rfl (fun K hK => ?_); go_simp; refine hK _ ?_; clear hK K))
                (refine MixC.mix_move rfl (fun K hK => ?_); refine Eq.mpr (if_pos rfl) ?_; refine mv_app (s := .tmp 120) (x := .tmp 124) (t := 34) rfl rfl rfl P2.out D3.out (hK _ _ ?_); clear hK K)
                (refine MixC.mix_read rfl (fun K hK => ?_); go_simp; refine hK _ ?_; clear hK K)
                refine MixC.mix_nil ?_
                clear hne
                go_upto_region 42 with (fail)
                have hne : Nonempty { w' : World // Below V2.heap.size V2 w' } := ⟨⟨V2, Below.refl _ _⟩⟩
                refine MixC.wp_region_mix [0, 4, 9] (Below V2.heap.size V2) (Below.refl _ _).drew (by kernel_rfl) (by kernel_rfl) (by kernel_rfl) ?_
                refine MixC.mix_move rfl (fun K hK => ?_)
                go_simp
                refine ⟨D4.out, hK _ _ ?_⟩
                clear hK K
                (iterate 3 (refine MixC.mix_read rfl (fun K hK => ?_); go_simp; refine hK _ ?_; clear hK K))
                (refine MixC.mix_move rfl (fun K hK => ?_); refine Eq.mpr (if_pos rfl) ?_; refine mv_app (s := .tmp 126) (x := .tmp 129) (t := 35) rfl rfl rfl P3.out D5.out (hK _ _ ?_); clear hK K)
                (iterate 4 (refine MixC.mix_read rfl (fun K hK => ?_); go_simp; refine hK _ ?_; clear hK K))
                (refine MixC.mix_move rfl (fun K hK => ?_); refine Eq.mpr (if_pos rfl) ?_; refine mv_app (s := .tmp 130) (x := .tmp 134) (t := 35) rfl rfl rfl P4.out D6.out (hK _ _ ?_); clear hK K)
                (refine MixC.mix_read rfl (fun K hK => ?_); go_simp; refine hK _ ?_; clear hK K)
                refine MixC.mix_nil ?_
                clear hne s1 s2 s3 s4
                go_wp2_with fail
                refine HLN.out.mono ?_
                rintro e w' ⟨rfl, rfl⟩
                clear HLN
                go_wp2_with fail
                go_roundw
                case rel => exact ⟨i + 1, ln - 1, cutN N j, _, a2, c2, a4, c4, by omega, by omega, by go_num, rfl, rfl, hl31, HL2, IX⟩
                case measure => simp [intOf] <;> omega
          · by_cases m3 : kd % 5 = 3
            · as_aux_lemma =>
                rw [m3] at htm
                have HTR := Lib.hid (bktr_any W gk gm i f N.length A B M IW.out.bk OK.out.a OK.out.b IW.out.okf)
                go_wp2_with fail
                refine HTR.out.mono ?_
                rintro e X ⟨bX, hE⟩
                clear HTR q0 q1 q2 q3 q4 q5 q6
                have IX := Lib.hid ((IW.out.below bX).mono (Nat.le_succ i))
                have X7 := Lib.hid (Below.blk bX BK7.out (lt_of_block BK7.out))
                have q4 : X.cell? ⟨g7, 6, none⟩ = some (.int .u32 M) := cell_blk X7.out
                have hln : N.length = ln := HL.out.symm
                clear bX
                rcases HF.out with ⟨rfl, hfn⟩ | ⟨j, rfl, hj, hkj, hfs⟩
                · rcases hE with ⟨s, s', h, _⟩ | ⟨_, rfl⟩
                  · rw [hfn] at h; cases h
                  have HLN := Lib.hid (bklen_any X gk gm _ _ _ IX.out.bk)
                  clear hfn q4
                  go_wp2_with fail
                  refine HLN.out.mono ?_
                  rintro e w' ⟨rfl, rfl⟩
                  rw [hln]
                  clear HLN hln
                  go_wp2_with fail
                  go_roundw
                  case rel => exact ⟨i + 1, ln, N, f, na, nc, sa, sc, by omega, by omega, by go_num, rfl, rfl, hl32, HL, IX⟩
                  case measure => simp [intOf] <;> omega
                · have hji : ¬ (j : Int) < 0 := by omega
                  have hjl : (j : Int) < ln := by omega
                  rcases HG.out with ⟨rfl, hgn⟩ | ⟨j2, rfl, hj2, hkj2, hgs⟩
                  · rcases hE with ⟨s, s', _, h, _⟩ | ⟨_, rfl⟩
                    · rw [hgn] at h; cases h
                    have HLN := Lib.hid (bklen_any X gk gm _ _ _ IX.out.bk)
                    clear hgn hfs q4
                    go_wp2_with fail
                    refine HLN.out.mono ?_
                    rintro e w' ⟨rfl, rfl⟩
                    rw [hln]
                    clear HLN hln
                    go_wp2_with fail
                    go_roundw
                    case rel => exact ⟨i + 1, ln, N, f, na, nc, sa, sc, by omega, by omega, by go_num, rfl, rfl, hl32, HL, IX⟩
                    case measure => simp [intOf] <;> omega
                  · have hji2 : ¬ (j2 : Int) < 0 := by omega
                    have hjl2 : (j2 : Int) < ln := by omega
                    obtain rfl : e = .returned (.tuple #[.int .u32 (stOf (sN N j2).T (sN N j2).S (sN N j2).R (tmOf (sN N j).T (sN N j).S (sN N j).R M)), .int .i64 0]) := by
                      rcases hE with ⟨s, s', h1, h2, h3⟩ | ⟨h1 | h1, _⟩
                      · rw [hfs] at h1; rw [hgs] at h2
                        injection h1 with h1; injection h2 with h2
                        subst h1; subst h2
                        exact h3
                      · rw [hfs] at h1; cases h1
                      · rw [hgs] at h1; cases h1
                    have ok1 := Lib.hid (IW.out.ok j (by omega))
                    have ok2 := Lib.hid (IW.out.ok j2 (by omega))
                    obtain ⟨sb, cp, hsa, hcl⟩ := sy_cells IX.out.sy (show j < N.length by omega)
                    injection hsa with x1 x2 x3
                    subst x1 x3
                    have hne : Nonempty { w' : World // Below X.heap.size X w' } := ⟨⟨X, Below.refl _ _⟩⟩
                    have HC := Lib.hid hcl
                    have y0 : ∀ y : { w' : World // Below X.heap.size X w' }, y.1.cell? ⟨sb, j * 3, none⟩ = some (.int .u64 (sN N j).T) := fun y => Below.cell' y.2 (World.block_lt_of_cell? _ _ (HC.out j (by omega)).1) (HC.out j (by omega)).1
                    have y1 : ∀ y : { w' : World // Below X.heap.size X w' }, y.1.cell? ⟨sb, j * 3 + 1, none⟩ = some (.int .u32 (sN N j).S) := fun y => Below.cell' y.2 (World.block_lt_of_cell? _ _ (HC.out j (by omega)).2.1) (HC.out j (by omega)).2.1
                    have y2 : ∀ y : { w' : World // Below X.heap.size X w' }, y.1.cell? ⟨sb, j * 3 + 2, none⟩ = some (.int .u32 (sN N j).R) := fun y => Below.cell' y.2 (World.block_lt_of_cell? _ _ (HC.out j (by omega)).2.2) (HC.out j (by omega)).2.2
                    have z0 : ∀ y : { w' : World // Below X.heap.size X w' }, y.1.cell? ⟨sb, j2 * 3, none⟩ = some (.int .u64 (sN N j2).T) := fun y => Below.cell' y.2 (World.block_lt_of_cell? _ _ (HC.out j2 (by omega)).1) (HC.out j2 (by omega)).1
                    have z1 : ∀ y : { w' : World // Below X.heap.size X w' }, y.1.cell? ⟨sb, j2 * 3 + 1, none⟩ = some (.int .u32 (sN N j2).S) := fun y => Below.cell' y.2 (World.block_lt_of_cell? _ _ (HC.out j2 (by omega)).2.1) (HC.out j2 (by omega)).2.1
                    have z2 : ∀ y : { w' : World // Below X.heap.size X w' }, y.1.cell? ⟨sb, j2 * 3 + 2, none⟩ = some (.int .u32 (sN N j2).R) := fun y => Below.cell' y.2 (World.block_lt_of_cell? _ _ (HC.out j2 (by omega)).2.2) (HC.out j2 (by omega)).2.2
                    have q4' : ∀ y : { w' : World // Below X.heap.size X w' }, y.1.cell? ⟨g7, 6, none⟩ = some (.int .u32 M) := fun y => Below.cell' y.2 (World.block_lt_of_cell? _ _ q4) q4
                    clear hfs hgs hE q4 hcl
                    go_upto_region 48 with (fail)
                    refine MixC.wp_region_mix [14, 15] (Below X.heap.size X) (Below.refl _ _).drew (by kernel_rfl) (by kernel_rfl) (by kernel_rfl) ?_
                    (iterate 14 (refine MixC.mix_read rfl (fun K hK => ?_); go_simp; refine hK _ ?_; clear hK K))
                    refine MixC.mix_move rfl (fun K hK => ?_)
                    go_simp
                    refine (rtime_any (sN N j).T (sN N j).S (sN N j).R M X.drew ok1.out.r.1 ok1.out.r.2 ok1.out.ss OK.out.m ok1.out.t).mono ?_
                    rintro e V1 ⟨rfl, b1⟩
                    have D1 := Lib.hid ((Below.refl X.heap.size X).drew.trans b1)
                    refine ⟨_, rfl, D1.out, hK _ _ ?_⟩
                    clear hK K b1
                    refine MixC.mix_move rfl (fun K hK => ?_)
                    go_simp
                    refine (rstamp_any (sN N j2).T (sN N j2).S (sN N j2).R _ V1 ok2.out.r.1 ok2.out.r.2 ok2.out.ss (tmOf_bd _ _ _ _) ok2.out.t).mono ?_
                    rintro e V2 ⟨rfl, b2⟩
                    have D2 := Lib.hid (D1.out.trans (b2.mono D1.out.size))
                    refine ⟨_, rfl, D2.out, hK _ _ ?_⟩
                    clear hK K b2
                    (iterate 2 (refine MixC.mix_read rfl (fun K hK => ?_); go_simp; refine hK _ ?_; clear hK K))
                    refine MixC.mix_nil ?_
                    have IX2 := Lib.hid (IX.out.below D2.out)
                    clear y0 y1 y2 z0 z1 z2 q4' hne
                    have HLN := Lib.hid (bklen_any V2 gk gm _ _ _ IX2.out.bk)
                    go_wp2_with fail
                    refine HLN.out.mono ?_
                    rintro e w' ⟨rfl, rfl⟩
                    rw [hln]
                    clear HLN hln
                    go_wp2_with fail
                    go_roundw
                    case rel => exact ⟨i + 1, ln, N, f, na, nc, some ⟨sb, 0, none⟩, sc, by omega, by omega, by go_num, rfl, rfl, hl32, HL, IX2⟩
                    case measure => simp [intOf] <;> omega
            · by_cases m4 : kd % 5 = 4
              · as_aux_lemma =>
                  rw [m4] at htm
                  obtain ⟨Y0, hY0⟩ : ∃ Y0, W.alloc (.cells (ctV 200 9 T M 5) 47) = Y0 := ⟨_, rfl⟩
                  obtain ⟨g14, hg14⟩ : ∃ g14, W.heap.size = g14 := ⟨_, rfl⟩
                  have hgN : N0 ≤ g14 := by rw [← hg14]; exact IW.out.sz
                  have bY0 : Below W.heap.size W Y0 := by rw [← hY0]; exact (Below.refl _ _).alloc (Nat.le_refl _) _
                  have K14 : Hid (Y0.heap[g14]? = some (.cells (ctV 200 9 T M 5) 47 (0, 0))) := Lib.hid (by rw [← hY0, ← hg14]; exact alloc_blk_new)
                  have IY := Lib.hid (IW.out.below bY0)
                  have Y7 := Lib.hid (Below.blk bY0 BK7.out (lt_of_block BK7.out))
                  have h714 : g7 ≠ g14 := by have := lt_of_block BK7.out; omega
                  have HRA := Lib.hid (bkrep_any Y0 gk gm i f N.length 200 9 T M 5 A IY.out.bk OK.out.a IY.out.okf OK.out.s.t)
                  go_upto_region 52 with (fail)
                  change Code.wp _ _ _ _ (W.alloc (.cells (ctV 200 9 T M 5) 47))
                  first | rw [hY0, hg14] | rw [hY0]
                  clear hY0 hg14 bY0 q0 q1 q2 q3 q4 q5 q6
                  have q1 : Y0.cell? ⟨g7, 1, none⟩ = some (.int .u32 A) := cell_blk Y7.out
                  obtain ⟨f0, f1, f2, f3, f4, f5, f6, f7, f8, f9, f10, f11, f12⟩ := CtF.mk' K14.out
                  go_wp2_with fail
                  refine HRA.out.mono ?_
                  rintro e Y1 ⟨bY1, hE1⟩
                  clear HRA q1 f0 f1 f2 f3 f4 f5 f6 f7 f8 f9 f10 f11 f12
                  have I1 := Lib.hid (IY.out.below bY1)
                  have L14 := Lib.hid (Below.blk bY1 K14.out (lt_of_block K14.out))
                  have L7 := Lib.hid (Below.blk bY1 Y7.out (lt_of_block Y7.out))
                  have hz1 := lt_of_block L14.out
                  have hz7 := lt_of_block L7.out
                  clear bY1 IY K14 Y7
                  obtain ⟨k1, o1, t1, s1, p1, er, rfl, hres⟩ : ∃ k1 o1 t1 s1 p1 er : Int, e = .returned (.tuple #[.agg (ctV k1 o1 t1 s1 p1), .int .i64 er]) ∧ ((r1 = -1 ∧ er = 9) ∨ (∃ j : Nat, r1 = j ∧ j < ln ∧ er = 0 ∧ 200 = k1 ∧ A = o1 ∧ T = t1 ∧ stOf (sN N j).T (sN N j).S (sN N j).R T = s1 ∧ 5 = p1)) := by
                    rcases HF.out with ⟨h1, hfn⟩ | ⟨j, h1, hj, hkj, hfs⟩
                    · rcases hE1 with ⟨h, _⟩ | ⟨_, _, h⟩ | ⟨_, s, h, _⟩
                      · exact absurd rfl h
                      · exact ⟨_, _, _, _, _, _, h, .inl ⟨h1, rfl⟩⟩
                      · rw [hfn] at h; cases h
                    · rcases hE1 with ⟨h, _⟩ | ⟨_, h, _⟩ | ⟨_, s, h, h2⟩
                      · exact absurd rfl h
                      · rw [hfs] at h; cases h
                      · rw [hfs] at h
                        injection h with h
                        subst h
                        exact ⟨_, _, _, _, _, _, h2, .inr ⟨j, h1, hj, rfl, rfl, rfl, rfl, rfl, rfl⟩⟩
                  have HRes := Lib.hid hres
                  clear hres hE1 HF HG
                  obtain ⟨Y2, hY2⟩ : ∃ Y2, Y1.alloc (.cells (ctV k1 o1 t1 s1 p1) 47) = Y2 := ⟨_, rfl⟩
                  obtain ⟨g15, hg15⟩ : ∃ g15, Y1.heap.size = g15 := ⟨_, rfl⟩
                  have bY2 : Below Y1.heap.size Y1 Y2 := by rw [← hY2]; exact (Below.refl _ _).alloc (Nat.le_refl _) _
                  have K15 : Hid (Y2.heap[g15]? = some (.cells (ctV k1 o1 t1 s1 p1) 47 (0, 0))) := Lib.hid (by rw [← hY2, ← hg15]; exact alloc_blk_new)
                  have I2 := Lib.hid (I1.out.below bY2)
                  have M14 := Lib.hid (Below.blk bY2 L14.out (lt_of_block L14.out))
                  have M7 := Lib.hid (Below.blk bY2 L7.out (lt_of_block L7.out))
                  have h1415 : g15 ≠ g14 := by omega
                  have HRB := Lib.hid (bkrep_any Y2 gk gm i f N.length 201 0 0 0 0 A I2.out.bk OK.out.a I2.out.okf (by omega))
                  unfold ctV
                  go_upto_region 53 with (fail)
                  change Code.wp _ _ _ _ (Y1.alloc (.cells (ctV k1 o1 t1 s1 p1) 47))
                  first | rw [hY2, hg15] | rw [hY2]
                  clear hY2 hg15 bY2 hz1 hz7 I1 L14 L7
                  have q1 : Y2.cell? ⟨g7, 1, none⟩ = some (.int .u32 A) := cell_blk M7.out
                  go_wp2_with fail
                  refine HRB.out.mono ?_
                  rintro e Y3 ⟨bY3, hE2⟩
                  obtain rfl : e = .returned (.tuple #[.agg (ctV 0 0 0 0 0), .int .i64 1]) := by
                    rcases hE2 with ⟨_, h⟩ | ⟨h, _⟩ | ⟨h, _⟩
                    · exact h
                    · exact absurd h (by decide)
                    · exact absurd h (by decide)
                  clear HRB q1 hE2
                  obtain ⟨Y4, hY4⟩ : ∃ Y4, Y3.alloc (.cells (ctV 0 0 0 0 0) 47) = Y4 := ⟨_, rfl⟩
                  have bY4 : Below Y2.heap.size Y2 Y4 := by rw [← hY4]; exact bY3.alloc bY3.size _
                  have I4 := Lib.hid (I2.out.below bY4)
                  have P14 := Lib.hid (Below.blk bY4 M14.out (lt_of_block M14.out))
                  have P15 := Lib.hid (Below.blk bY4 K15.out (lt_of_block K15.out))
                  have P7 := Lib.hid (Below.blk bY4 M7.out (lt_of_block M7.out))
                  unfold ctV
                  go_upto_region 54 with (fail)
                  change Code.wp _ _ _ _ (Y3.alloc (.cells (ctV 0 0 0 0 0) 47))
                  rw [hY4]
                  generalize Y3.heap.size = g17
                  clear hY4 bY3 bY4 I2 M14 M7 K15 Y3 Y2 Y1 Y0
                  rcases HRes.out with ⟨rfl, rfl⟩ | ⟨j, rfl, hj, rfl, rfl, rfl, rfl, hs1, rfl⟩
                  · have IX := Lib.hid (I4.out.mono (Nat.le_succ i))
                    go_wp2_with fail
                    go_roundw
                    case rel => exact ⟨i + 1, ln, N, f, na, nc, sa, sc, by omega, by omega, by go_num, rfl, rfl, hl32, HL, IX⟩
                    case measure => simp [intOf] <;> omega
                  · have hji : ¬ (j : Int) < 0 := by omega
                    have hjl : (j : Int) < ln := by omega
                    have hln : N.length = ln := HL.out.symm
                    have ok1 := Lib.hid (IW.out.ok j (by omega))
                    have q1 : Y4.cell? ⟨g7, 1, none⟩ = some (.int .u32 A) := cell_blk P7.out
                    have u1 : Y4.cell? ⟨g14, 1, none⟩ = some (.int .u32 9) := cell_blk P14.out
                    have w1 : Y4.frozen? ⟨g14, 1, none⟩ = false := free_blk P14.out
                    obtain ⟨Z1, hZ1⟩ : ∃ Z1, Y4.setCell ⟨g14, 1, none⟩ (.int .u32 A) = Z1 := ⟨_, rfl⟩
                    have K1 : Hid (Z1.heap[g14]? = some (.cells (ctV 200 A T M 5) 47 (0, 0))) := Lib.hid (by rw [← hZ1]; exact set_blk _ P14.out)
                    have K15 : Hid (Z1.heap[g15]? = some (.cells (ctV 200 A T s1 5) 47 (0, 0))) := Lib.hid (by rw [← hZ1, set_blk_other _ (by show g15 ≠ g14; exact h1415)]; exact P15.out)
                    have K7 : Hid (Z1.heap[g7]? = some (.cells (opC ⟨kd, A, B, ⟨T, S, R⟩, M⟩) 37 (0, 0))) := Lib.hid (by rw [← hZ1, set_blk_other _ (by show g7 ≠ g14; exact h714)]; exact P7.out)
                    have J1 : Hid (SmI w gk gm N0 i N f na nc sa sc Z1) := Lib.hid (I4.out.other (by rw [← hZ1]; exact (But.refl _ _).set _ _) hgN (by omega) hkN hmN P14.out (by decide) (by decide))
                    go_upto_region 60 with (fail)
                    try rw [hZ1]
                    clear hZ1 q1 u1 w1 I4 P14 P15 P7
                    obtain ⟨sb, cp, hsa, hcl⟩ := sy_cells J1.out.sy (show j < N.length by omega)
                    injection hsa with x1 x2 x3
                    subst x1 x3
                    have HC := Lib.hid (hcl j (by omega))
                    have hne : Nonempty { w' : World // Below Z1.heap.size Z1 w' } := ⟨⟨Z1, Below.refl _ _⟩⟩
                    have y0 : ∀ y : { w' : World // Below Z1.heap.size Z1 w' }, y.1.cell? ⟨sb, j * 3, none⟩ = some (.int .u64 (sN N j).T) := fun y => Below.cell' y.2 (World.block_lt_of_cell? _ _ HC.out.1) HC.out.1
                    have y1 : ∀ y : { w' : World // Below Z1.heap.size Z1 w' }, y.1.cell? ⟨sb, j * 3 + 1, none⟩ = some (.int .u32 (sN N j).S) := fun y => Below.cell' y.2 (World.block_lt_of_cell? _ _ HC.out.2.1) HC.out.2.1
                    have y2 : ∀ y : { w' : World // Below Z1.heap.size Z1 w' }, y.1.cell? ⟨sb, j * 3 + 2, none⟩ = some (.int .u32 (sN N j).R) := fun y => Below.cell' y.2 (World.block_lt_of_cell? _ _ HC.out.2.2) HC.out.2.2
                    have q3 : ∀ y : { w' : World // Below Z1.heap.size Z1 w' }, y.1.cell? ⟨g7, 3, none⟩ = some (.int .u64 T) := fun y => cell_blk (Below.blk y.2 K7.out (lt_of_block K7.out))
                    have HS1 := Lib.hid hs1
                    clear hcl hs1
                    refine MixC.wp_region_mix_tail 9 [7] (Below Z1.heap.size Z1) (Below.refl _ _).drew (by kernel_rfl) (by kernel_rfl) (by kernel_rfl) ?_
                    simp only [List.take_succ_cons, List.take_zero, List.drop_succ_cons, List.drop_zero]
                    (iterate 7 (refine MixC.mix_read rfl (fun K hK => ?_); go_simp; refine hK _ ?_; clear hK K))
                    refine MixC.mix_move rfl (fun K hK => ?_)
                    go_simp
                    refine (rstamp_any (sN N j).T (sN N j).S (sN N j).R T Z1.drew ok1.out.r.1 ok1.out.r.2 ok1.out.ss OK.out.s.t ok1.out.t).mono ?_
                    rintro e Z2 ⟨he, b2⟩
                    rw [HS1.out] at he
                    subst he
                    have D2 := Lib.hid ((Below.refl Z1.heap.size Z1).drew.trans b2)
                    refine ⟨_, rfl, D2.out, hK _ _ ?_⟩
                    clear hK K b2
                    (refine MixC.mix_read rfl (fun K hK => ?_); go_simp; refine hK _ ?_; clear hK K)
                    refine MixC.mix_nil ?_
                    clear y0 y1 y2 q3 hne
                    have J2 := Lib.hid (J1.out.below D2.out)
                    have R14 := Lib.hid (Below.blk D2.out K1.out (lt_of_block K1.out))
                    have R15 := Lib.hid (Below.blk D2.out K15.out (lt_of_block K15.out))
                    have u4 : Z2.cell? ⟨g14, 4, none⟩ = some (.int .u32 M) := cell_blk R14.out
                    have w4 : Z2.frozen? ⟨g14, 4, none⟩ = false := free_blk R14.out
                    obtain ⟨Z3, hZ3⟩ : ∃ Z3, Z2.setCell ⟨g14, 4, none⟩ (.int .u32 s1) = Z3 := ⟨_, rfl⟩
                    have S14 : Hid (Z3.heap[g14]? = some (.cells (ctV 200 A T s1 5) 47 (0, 0))) := Lib.hid (by rw [← hZ3]; exact set_blk _ R14.out)
                    have S15 : Hid (Z3.heap[g15]? = some (.cells (ctV 200 A T s1 5) 47 (0, 0))) := Lib.hid (by rw [← hZ3, set_blk_other _ (by show g15 ≠ g14; exact h1415)]; exact R15.out)
                    have J3 : Hid (SmI w gk gm N0 i N f na nc (some ⟨sb, 0, none⟩) sc Z3) := Lib.hid (J2.out.other (by rw [← hZ3]; exact (But.refl _ _).set _ _) hgN (by omega) hkN hmN R14.out (by decide) (by decide))
                    go_upto_region 61 with (fail)
                    try rw [hZ3]
                    clear hZ3 u4 w4 J1 J2 R14 R15 K1 K15 K7
                    obtain ⟨f0, f1, f2, f3, f4, f5, f6, f7, f8, f9, f10, f11, f12⟩ := CtF.mk' S14.out
                    obtain ⟨k0, k1, k2, k3, k4, k5, k6, k7, k8, k9, k10, k11, k12⟩ := CtF.mk' S15.out
                    go_wp2_with fail
                    refine (rsame11_true 200 A T s1 5 Z3).mono ?_
                    rintro e Z4 ⟨rfl, b4⟩
                    clear f0 f1 f2 f3 f4 f5 f6 f7 f8 f9 f10 f11 f12 k0 k1 k2 k3 k4 k5 k6 k7 k8 k9 k10 k11 k12
                    have IX := Lib.hid ((J3.out.below b4).mono (Nat.le_succ i))
                    have HLN := Lib.hid (bklen_any Z4 gk gm _ _ _ IX.out.bk)
                    clear b4
                    go_wp2_with fail
                    refine HLN.out.mono ?_
                    rintro e w' ⟨rfl, rfl⟩
                    rw [hln]
                    clear HLN hln
                    go_wp2_with fail
                    go_roundw
                    case rel => exact ⟨i + 1, ln, N, f, na, nc, some ⟨sb, 0, none⟩, sc, by omega, by omega, by go_num, rfl, rfl, hl32, HL, IX⟩
                    case measure => simp [intOf] <;> omega
              · as_aux_lemma =>
                  obtain ⟨m, hm⟩ : ∃ m, kd % 5 = m := ⟨_, rfl⟩
                  rw [hm] at htm m2 m3 m4
                  have n2 : (m = 2) = False := eq_false m2
                  have n3 : (m = 3) = False := eq_false m3
                  have n4 : (m = 4) = False := eq_false m4
                  have l2 : (m == 2) = false := by simpa using m2
                  have l3 : (m == 3) = false := by simpa using m3
                  have l4 : (m == 4) = false := by simpa using m4
                  clear m2 m3 m4
                  have HPU := Lib.hid (bkput_any W gk gm i f N.length A ⟨T, S, R⟩ IW.out.bk OK.out.a OK.out.s (by omega))
                  go_wp2_with fail
                  refine HPU.out.mono ?_
                  rintro e X ⟨E, f', sz', rfl, bk', kp', hE⟩
                  obtain ⟨rn, rs, rb, rz⟩ := IW.out.rows kp' hmN hwm
                  have hg7W := lt_of_block BK7.out
                  have X7 := Lib.hid (kp'.blk BK7.out (by omega))
                  have HBK := Lib.hid bk'
                  have HRN := Lib.hid rn
                  have HRS := Lib.hid rs
                  have HRB := Lib.hid rb
                  clear bk' kp' rn rs rb HPU q0 q1 q2 q3 q4 q5 q6
                  have q5 : X.cell? ⟨g7, 5, none⟩ = some (.int .u32 R) := cell_blk X7.out
                  rcases hE with ⟨rfl, hR, rfl, rfl⟩ | ⟨rfl, hR, hno, h32, rfl, rfl⟩ | ⟨rfl, hR, hor, rfl, rfl⟩
                  · simp only at hR
                    subst hR
                    have IX : Hid (SmI w gk gm N0 (i + 1) N f' na nc sa sc X) := Lib.hid ⟨HBK.out, HRN.out, HRS.out, IW.out.rel, HRB.out, rz, IW.out.l32, IW.out.ok⟩
                    go_wp2_with fail
                    go_roundw
                    case rel => exact ⟨i + 1, ln, N, f', na, nc, sa, sc, by omega, by omega, by go_num, rfl, rfl, hl32, HL, IX⟩
                    case measure => simp [intOf] <;> omega
                  · simp only at hR
                    have IX : Hid (SmI w gk gm N0 (i + 1) N f' na nc sa sc X) := Lib.hid ⟨HBK.out, HRN.out, HRS.out, IW.out.rel, HRB.out, rz, IW.out.l32, IW.out.ok⟩
                    have p1 : (R = 0) = False := eq_false hR
                    have p2 : (R == 0) = false := by simpa using hR
                    obtain rfl : r1 = -1 := by
                      rcases HF.out with ⟨h, _⟩ | ⟨j, _, _, _, h⟩
                      · exact h
                      · rw [h] at hno; cases hno
                    have hl : (ln : Int) = 32 := by have := HL.out; omega
                    have p3 : ((ln : Int) = 32) = True := eq_true hl
                    have p4 : ((ln : Int) == 32) = true := by rw [hl]; rfl
                    clear hR hno h32 hl
                    go_wp2_with fail
                    go_roundw
                    case rel => exact ⟨i + 1, ln, N, f', na, nc, sa, sc, by omega, by omega, by go_num, rfl, rfl, hl32, HL, IX⟩
                    case measure => simp [intOf] <;> omega
                  · simp only at hR
                    have p1 : (R = 0) = False := eq_false hR
                    have p2 : (R == 0) = false := by simpa using hR
                    have q1 : X.cell? ⟨g7, 1, none⟩ = some (.int .u32 A) := cell_blk X7.out
                    have q3 : X.cell? ⟨g7, 3, none⟩ = some (.int .u64 T) := cell_blk X7.out
                    have q4 : X.cell? ⟨g7, 4, none⟩ = some (.int .u32 S) := cell_blk X7.out
                    rcases HF.out with ⟨rfl, hfn⟩ | ⟨j, rfl, hj, hkj, hfs⟩
                    · have hl : ¬ (ln : Int) = 32 := by
                        have := HL.out
                        rcases hor with h | h
                        · rw [hfn] at h; cases h
                        · omega
                      have p3 : ((ln : Int) = 32) = False := eq_false hl
                      have p4 : ((ln : Int) == 32) = false := by simpa using hl
                      have hbk := HBK.out
                      rw [hfn] at hbk
                      have hbk' : Bk gk gm (i + 1) (updS f A (some ⟨T, S, R⟩)) (N.length + 1) X := hbk
                      obtain ⟨a1, c1, V1, a2, c2, V2, r1, k7, r2, n2, s2, bk2, bl2, z2⟩ := sm_push (A := A) (s := ⟨T, S, R⟩) hbk' HRN.out HRS.out HRB.out rz hkN hmN (by omega) IW.out.l32 X7.out (by decide) (by decide)
                      have hln : N.length = ln := HL.out.symm
                      have IX : Hid (SmI w gk gm N0 (i + 1) (N ++ [(A, ⟨T, S, R⟩)]) (updS f A (some ⟨T, S, R⟩)) a1 c1 a2 c2 V2) := Lib.hid ⟨by rw [List.length_append]; exact bk2, by rw [List.length_append]; exact n2, by rw [List.length_append]; exact s2, IW.out.rel.add hfn, bl2, z2, by rw [List.length_append, List.length_singleton]; have := IW.out.l32; omega, fun q hq => by
                        rw [List.length_append, List.length_singleton] at hq
                        rcases Nat.lt_or_ge q N.length with c | c
                        · rw [(kN_app c).2]; exact IW.out.ok q c
                        · obtain rfl : q = N.length := by omega
                          rw [(kN_new N _).2]; exact OK.out.s⟩
                      have HL2 : Hid (ln + 1 = (N ++ [(A, (⟨T, S, R⟩ : Sy))]).length) := Lib.hid (by rw [List.length_append, ← hln]; rfl)
                      rw [hln] at r1 r2
                      have HA1 := Lib.hid r1
                      have HA2 := Lib.hid r2
                      have t3 : V1.cell? ⟨g7, 3, none⟩ = some (.int .u64 T) := cell_blk k7
                      have t4 : V1.cell? ⟨g7, 4, none⟩ = some (.int .u32 S) := cell_blk k7
                      have t5 : V1.cell? ⟨g7, 5, none⟩ = some (.int .u32 R) := cell_blk k7
                      have HLN := Lib.hid (bklen_any V2 gk gm _ _ _ bk2)
                      have hl31 : ln + 1 ≤ 32 := by have := IX.out.l32; rw [← HL2.out] at this; exact this
                      clear hR hor hl hbk hbk' r1 k7 r2 n2 s2 bk2 bl2 z2 hfn
                      go_wp2_with first | (at_builtin; refine wpList_of_append rfl (.tmp 89) (.tmp 92) 34 rfl _ _ _ rfl rfl HA1.out ?_) | (at_builtin; refine wpList_of_append rfl (.tmp 94) (.tmp 97) 35 rfl _ _ _ rfl rfl HA2.out ?_)
                      refine HLN.out.mono ?_
                      rintro e w' ⟨rfl, rfl⟩
                      rw [hln]
                      clear HLN hln
                      go_wp2_with fail
                      go_roundw
                      case rel => exact ⟨i + 1, ln + 1, N ++ [(A, ⟨T, S, R⟩)], _, a1, c1, a2, c2, by omega, by omega, by go_num, rfl, rfl, hl31, HL2, IX⟩
                      case measure => simp [intOf] <;> omega
                    · subst hkj
                      have hbk := HBK.out
                      rw [hfs] at hbk
                      have hbk' : Bk gk gm (i + 1) (updS f (kN N j) (some ⟨T, S, R⟩)) N.length X := hbk
                      have hjN : j < N.length := by have := HL.out; omega
                      obtain ⟨sb, X1, X2, X3, hsa, w1', w2', w3', ⟨t1, u1⟩, ⟨t2, u2⟩, ⟨t3, u3⟩, n3, s3, bk3, bl3, z3⟩ := sm_set (s := ⟨T, S, R⟩) hjN hbk' HRN.out HRS.out HRB.out hkN hmN (by omega)
                      subst hsa
                      have hll : (N.set j (kN N j, (⟨T, S, R⟩ : Sy))).length = N.length := List.length_set ..
                      have IX : Hid (SmI w gk gm N0 (i + 1) (N.set j (kN N j, ⟨T, S, R⟩)) (updS f (kN N j) (some ⟨T, S, R⟩)) na nc (some ⟨sb, 0, none⟩) sc X3) := Lib.hid ⟨by rw [hll]; exact bk3, by rw [hll]; exact n3, by rw [hll]; exact s3, IW.out.rel.put hjN, bl3, by rw [← z3]; exact rz, by rw [hll]; exact IW.out.l32, fun q hq => by
                        rw [hll] at hq
                        rw [(kN_set hjN q).2]
                        split
                        · exact OK.out.s
                        · exact IW.out.ok q hq⟩
                      have HL2 : Hid (ln = (N.set j (kN N j, (⟨T, S, R⟩ : Sy))).length) := Lib.hid (by rw [hll]; exact HL.out)
                      have HLN := Lib.hid (bklen_any X3 gk gm _ _ _ bk3)
                      have hji : (j : Int) < ln := by omega
                      have hln : N.length = ln := HL.out.symm
                      clear hR hor hbk hbk' n3 s3 bk3 bl3 z3 hll hfs
                      go_wp2_with fail
                      refine HLN.out.mono ?_
                      rintro e w' ⟨rfl, rfl⟩
                      rw [hln]
                      clear HLN hln
                      go_wp2_with fail
                      go_roundw
                      case rel => exact ⟨i + 1, ln, N.set j (kN N j, ⟨T, S, R⟩), _, na, nc, some ⟨sb, 0, none⟩, sc, by omega, by omega, by go_num, rfl, rfl, hl32, HL2, IX⟩
                      case measure => simp [intOf] <;> omega
    · have hlt' : len ≤ i ∨ 80 ≤ i := by omega
      have BL := Lib.hid HI.out.bl
      rcases Nat.lt_or_ge i len with hc | hc
      · have hc1 : (i : Int) < len := by omega
        have hc2 : ¬ (i : Int) < 80 := by omega
        go_wp2_with fail
        go_ret
        exact ⟨rfl, BL.out⟩
      · have hc1 : ¬ (i : Int) < len := by omega
        go_wp2_with fail
        go_ret
        exact ⟨rfl, BL.out⟩
end Go.Proofs.Ytkdjkaimcciemaa
