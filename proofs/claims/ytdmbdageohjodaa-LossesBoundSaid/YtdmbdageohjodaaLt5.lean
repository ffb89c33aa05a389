/-
  Chapter 20: the reference's keeper: Ask, the walk.
-/
import Derived.Test.YtdmbdageohjodaaLt6
namespace Go.Proofs.Ytdmbdageohjodaa
open Go.RowKit
set_option linter.unusedVariables false
set_option linter.unusedSimpArgs false
attribute [local irreducible] wpStill wpQuiet MixC.wpMix MixC.wpPick MixC.wpPickT
attribute [local go_sem] MixC.rdOp MixC.rd MixC.rdUpon MixC.mvUpon

theorem lies_own {w : World} {base : Nat} {e : TypeId} {a : Option Addr} {n c : Nat} {xs : List Value} (h : w.ownsRow base e 1 (.slice a n c) n xs) (h1 : ∀ u ∈ xs, u.oneCell' = true) : Lies w.heap.size w a n c 1 xs := by
  refine ⟨fun e => ?_, h.1, fun ad e j u hj => ?_, h1⟩
  · rcases h.2 with ⟨hv, h0⟩ | ⟨g, cap, cur, hv, _⟩
    · injection hv with _ _ h3; exact ⟨h0, h3⟩
    · subst e; injection hv with h1 _ _; cases h1
  · obtain ⟨b, e2, l2, h2⟩ := own_get h hj
    rw [e] at e2
    cases e2
    exact ⟨by rw [addr_add, Nat.zero_add]; exact h2, l2.2⟩
theorem u16s_one (l : List Int) : ∀ u ∈ u16s l, u.oneCell' = true := fun u hu => by
  obtain ⟨x, _, rfl⟩ := List.mem_map.1 hu
  rfl
set_option maxRecDepth 100000 in
set_option maxHeartbeats 8000000 in
theorem rask_any (B g : Nat) (pause high tick : Int) (L : List Mis) (w : World) (h : RK B g pause high L w) (hB : B ≤ w.heap.size) (hL : L.length ≤ 1000) (hMi : ∀ x ∈ L, (-9223372036854775808 ≤ x.i ∧ x.i ≤ 9223372036854775807) ∧ 0 ≤ x.tr ∧ x.tr ≤ 100) (hp : 1 ≤ pause ∧ pause ≤ 1000000000) (ht : -4611686018427387904 ≤ tick ∧ tick ≤ 4611686018427387904) :
    Calls Try.prog 20 #[.pointer (some ⟨g, 0, none⟩), .int .i64 tick] w (RAskPost B g pause high tick L w) := by
  obtain ⟨n, hn⟩ : ∃ n, L.length = n := ⟨_, rfl⟩
  have H0 := Lib.hid (RA.start (pause := pause) (tick := tick) h)
  have HN := Lib.hid hn
  have HM := Lib.hid hMi
  clear h hn hMi
  go_enter Try.func20, Try.ntmps20
  go_wp2_with fail
  go_loopw [5, 6] (fun s5 s6 wr => ∃ (x m : Nat) (l : List Int) (al : Option Addr) (cl : Nat) (P : List Mis), x ≤ n ∧ m ≤ x ∧ s6 = .int .i64 x ∧ s5 = .slice al m cl ∧ Hid (RA B g pause high tick L x m l al cl P w wr)) (fun _ s6 _ => n - (intOf s6).toNat)
  case atStart => exact ⟨0, 0, [], none, 0, [], by omega, by omega, rfl, rfl, H0⟩
  case round =>
    clear H0
    obtain ⟨x, m, l, al, cl, P, hx, hmx, rfl, rfl, HS⟩ := hrel
    by_cases hlt : x < n
    · have hxL : x < L.length := by rw [HN.out]; exact hlt
      have hxi : (x : Int) < n := by omega
      have hlen := HS.out.len (Nat.le_of_lt hxL)
      have hxp : x < (P ++ L.drop x).length := by rw [hlen]; exact hxL
      have hg := HS.out.get hxL
      obtain ⟨bI, cI, bN, cN, bT, cT, ⟨q2, q3, q4⟩, ⟨e1, e2, e3⟩, ⟨f1, f2⟩, -, -⟩ := HS.out.k.get hxp
      rw [hlen, HN.out] at q2 q3 q4
      rw [hg] at e1 e2 e3
      obtain ⟨⟨i0, i1⟩, t0, t1⟩ := HM.out _ (List.getElem_mem hxL)
      have SK := HS.out.skip hxL
      have TU := HS.out.turn (hx := hxL)
      have ST := HS.out.stop hxL
      obtain ⟨y, hy⟩ : ∃ y, L[x]'hxL = y := ⟨_, rfl⟩
      have HY := Lib.hid hy
      by_cases hd : tick < y.nx
      · have SK2 := Lib.hid (SK (by rw [hy]; exact hd))
        rw [hy] at e1 e2 e3 SK2
        obtain ⟨yi, yt, yn⟩ := y
        simp only at e1 e2 e3 hd
        clear SK TU ST hg hy e1 e3 f1 f2 q3
        go_wp2_with fail
        refine ⟨⟨x + 1, m, l, al, cl, P ++ [⟨yi, yt, yn⟩], by omega, by omega, by go_num, rfl, SK2⟩, ?_⟩
        simp [intOf] <;> omega
      · clear SK
        obtain ⟨yi, yt, yn⟩ := y
        simp only at hd i0 i1 t0 t1
        rw [hy] at e1 e2 e3
        simp only at e1 e2 e3
        rw [hy] at TU ST i0 i1 t0 t1
        simp only at TU ST i0 i1 t0 t1
        obtain ⟨s, hs⟩ : ∃ s, seqI yi = s := ⟨_, rfl⟩
        rw [hs] at TU ST
        have TU' := Lib.hid (@TU hd)
        have ST' := Lib.hid (ST hd)
        have ws : IntKind.u16.wrap (yi.tmod 65536) = s := by rw [← hs, IntKind.wrap_u16, Int.tmod_def]; unfold seqI; omega
        have sb : 0 ≤ s ∧ s ≤ 65535 := by rw [← hs]; unfold seqI; omega
        clear TU ST hs
        have hlies : Lies wr.drew.heap.size wr.drew al m cl 1 (u16s l) := lies_own (w := wr.drew) HS.out.row (u16s_one l)
        obtain ⟨pa1, pc1, U1, pa2, pc2, U2, pr1, pr2, pb0, pb1, pb2, pb3, pown⟩ := copyA elU16 wr.drew al m cl (u16s l) [.int .u16 s] hlies rfl (one_cell rfl) (by omega) (by omega)
        obtain ⟨qa1, qc1, X1, qa2, qc2, X2, qr1, qr2, qb0, qb1, qb2, qb3, qown⟩ := copyB elU16 wr.drew al m cl (u16s l) [.int .u16 s] hlies rfl (one_cell rfl) (by omega) (by omega)
        obtain ⟨ya1, yc1, Y1, ya2, yc2, Y2, yr1, yr2, yb0, yb1, yb2, yb3, yown⟩ := copyC elU16 wr.drew al m cl (u16s l) [.int .u16 s] hlies rfl (one_cell rfl) (by omega) (by omega)
        have PR1 := Lib.hid pr1
        have PR2 := Lib.hid pr2
        have PB0 : Hid (Below wr.heap.size wr _) := Lib.hid ((Below.refl _ wr).drew.trans pb0)
        have PB1 : Hid (Below wr.heap.size wr _) := Lib.hid ((Below.refl _ wr).drew.trans pb1)
        have PB2 : Hid (Below wr.heap.size wr _) := Lib.hid ((Below.refl _ wr).drew.trans pb2)
        have PB3 : Hid (Below wr.heap.size wr _) := Lib.hid ((Below.refl _ wr).drew.trans pb3)
        have PO := Lib.hid pown
        have QR1 := Lib.hid qr1
        have QR2 := Lib.hid qr2
        have QB0 : Hid (Below wr.heap.size wr _) := Lib.hid ((Below.refl _ wr).drew.trans qb0)
        have QB1 : Hid (Below wr.heap.size wr _) := Lib.hid ((Below.refl _ wr).drew.trans qb1)
        have QB2 : Hid (Below wr.heap.size wr _) := Lib.hid ((Below.refl _ wr).drew.trans qb2)
        have QB3 : Hid (Below wr.heap.size wr _) := Lib.hid ((Below.refl _ wr).drew.trans qb3)
        have QO := Lib.hid qown
        have YR1 := Lib.hid yr1
        have YR2 := Lib.hid yr2
        have YB0 : Hid (Below wr.heap.size wr _) := Lib.hid ((Below.refl _ wr).drew.trans yb0)
        have YB1 : Hid (Below wr.heap.size wr _) := Lib.hid ((Below.refl _ wr).drew.trans yb1)
        have YB2 : Hid (Below wr.heap.size wr _) := Lib.hid ((Below.refl _ wr).drew.trans yb2)
        have YB3 : Hid (Below wr.heap.size wr _) := Lib.hid ((Below.refl _ wr).drew.trans yb3)
        have YO := Lib.hid yown
        clear hlies pr1 pr2 pb0 pb1 pb2 pb3 pown qr1 qr2 qb0 qb1 qb2 qb3 qown yr1 yr2 yb0 yb1 yb2 yb3 yown
        go_upto_region 6 with (fail)
        go_cut [7] (fun s7 wx => ∃ an cn, s7 = .slice an (m + 1) cn ∧ Hid (Below wr.heap.size wr wx) ∧ Hid (wx.ownsRow wr.heap.size 33 1 (.slice an (m + 1) cn) (m + 1) (u16s l ++ [.int .u16 s])))
        case first =>
          have hne : Nonempty { w' : World // Below wr.heap.size wr w' } := ⟨⟨_, Below.refl _ _⟩⟩
          have o2 : ∀ z : { w' : World // Below wr.heap.size wr w' }, z.1.cell? ⟨g, 2, none⟩ = some (.slice (some ⟨bI, 0, none⟩) n cI) := fun z => Below.cell' z.2 (World.block_lt_of_cell? _ _ q2) q2
          have o1 : ∀ z : { w' : World // Below wr.heap.size wr w' }, z.1.cell? ⟨bI, x, none⟩ = some (.int .i64 yi) := fun z => Below.cell' z.2 (World.block_lt_of_cell? _ _ e1) e1
          have C1 : Hid (Below wr.heap.size wr wr.drew) := Lib.hid (Below.refl _ _).drew
          refine MixC.wp_region_pick [0, 2, 12, 13] (Below wr.heap.size wr) C1.out (by kernel_rfl) ?_
          simp only [List.length_cons, List.length_nil, Nat.reduceAdd]
          (refine MixC.pick_read 1 rfl (by kernel_rfl) rfl (by kernel_rfl) (by kernel_rfl) C1.out (fun K hK => ?_); go_simp; refine hK _ ?_; clear hK K)
          (refine MixC.pick_read 3 rfl (by kernel_rfl) rfl (by kernel_rfl) (by kernel_rfl) C1.out (fun K hK => ?_); go_simp; refine hK _ ?_; clear hK K)
          (refine MixC.pick_read 4 rfl (by kernel_rfl) rfl (by kernel_rfl) (by kernel_rfl) C1.out (fun K hK => ?_); go_simp; refine hK _ ?_; clear hK K)
          (refine MixC.pick_read 5 rfl (by kernel_rfl) rfl (by kernel_rfl) (by kernel_rfl) C1.out (fun K hK => ?_); go_simp; refine hK _ ?_; clear hK K)
          (refine MixC.pick_read 6 rfl (by kernel_rfl) rfl (by kernel_rfl) (by kernel_rfl) C1.out (fun K hK => ?_); go_simp; refine hK _ ?_; clear hK K)
          (refine MixC.pick_read 7 rfl (by kernel_rfl) rfl (by kernel_rfl) (by kernel_rfl) C1.out (fun K hK => ?_); go_simp; refine hK _ ?_; clear hK K)
          (refine MixC.pick_read 8 rfl (by kernel_rfl) rfl (by kernel_rfl) (by kernel_rfl) C1.out (fun K hK => ?_); go_simp; refine hK _ ?_; clear hK K)
          (refine MixC.pick_read 9 rfl (by kernel_rfl) rfl (by kernel_rfl) (by kernel_rfl) C1.out (fun K hK => ?_); go_simp; refine hK _ ?_; clear hK K)
          (refine MixC.pick_read 10 rfl (by kernel_rfl) rfl (by kernel_rfl) (by kernel_rfl) C1.out (fun K hK => ?_); go_simp; refine hK _ ?_; clear hK K)
          (refine MixC.pick_read 11 rfl (by kernel_rfl) rfl (by kernel_rfl) (by kernel_rfl) C1.out (fun K hK => ?_); go_simp; refine hK _ ?_; clear hK K)
          refine MixC.pick_two 0 12 rfl rfl rfl rfl (by kernel_rfl) (fun K hK => ?_) (fun K hK => ?_)
          · go_simp
            refine ⟨PB0.out, hK _ _ ?_⟩
            clear hK K
            refine MixC.pick_two 2 12 rfl rfl rfl rfl (by kernel_rfl) (fun K hK => ?_) (fun K hK => ?_)
            · refine Eq.mpr (if_pos rfl) ?_
              refine mv_app (s := .tmp 27) (x := .tmp 28) (t := 51) rfl rfl rfl PR1.out PB1.out (hK _ _ ?_)
              clear hK K
              refine MixC.pick_move 12 rfl rfl (by kernel_rfl) (fun K hK => ?_)
              go_simp
              refine ⟨PB2.out, hK _ _ ?_⟩
              clear hK K
              refine MixC.pick_move 13 rfl rfl (by kernel_rfl) (fun K hK => ?_)
              refine Eq.mpr (if_pos rfl) ?_
              refine mv_app (s := .tmp 29) (x := .tmp 39) (t := 51) rfl rfl rfl PR2.out PB3.out (hK _ _ ?_)
              clear hK K
              (refine MixC.pick_read 14 rfl (by kernel_rfl) rfl (by kernel_rfl) (by kernel_rfl) PB3.out (fun K hK => ?_); go_simp; refine hK _ ?_; clear hK K)
              refine MixC.pick_nil (by kernel_rfl) ?_
              clear o1 o2 hne
              go_wp2_with fail
              go_meet
              exact ⟨pa2, pc2, rfl, PB3, PO⟩
            · go_simp
              refine ⟨QB1.out, hK _ _ ?_⟩
              clear hK K
              refine MixC.pick_move 2 rfl rfl (by kernel_rfl) (fun K hK => ?_)
              refine Eq.mpr (if_pos rfl) ?_
              refine mv_app (s := .tmp 27) (x := .tmp 28) (t := 51) rfl rfl rfl QR1.out QB2.out (hK _ _ ?_)
              clear hK K
              refine MixC.pick_move 13 rfl rfl (by kernel_rfl) (fun K hK => ?_)
              refine Eq.mpr (if_pos rfl) ?_
              refine mv_app (s := .tmp 29) (x := .tmp 39) (t := 51) rfl rfl rfl QR2.out QB3.out (hK _ _ ?_)
              clear hK K
              (refine MixC.pick_read 14 rfl (by kernel_rfl) rfl (by kernel_rfl) (by kernel_rfl) QB3.out (fun K hK => ?_); go_simp; refine hK _ ?_; clear hK K)
              refine MixC.pick_nil (by kernel_rfl) ?_
              clear o1 o2 hne
              go_wp2_with fail
              go_meet
              exact ⟨qa2, qc2, rfl, QB3, QO⟩
          · go_simp
            refine ⟨YB0.out, hK _ _ ?_⟩
            clear hK K
            refine MixC.pick_move 0 rfl rfl (by kernel_rfl) (fun K hK => ?_)
            go_simp
            refine ⟨YB1.out, hK _ _ ?_⟩
            clear hK K
            refine MixC.pick_move 2 rfl rfl (by kernel_rfl) (fun K hK => ?_)
            refine Eq.mpr (if_pos rfl) ?_
            refine mv_app (s := .tmp 27) (x := .tmp 28) (t := 51) rfl rfl rfl YR1.out YB2.out (hK _ _ ?_)
            clear hK K
            refine MixC.pick_move 13 rfl rfl (by kernel_rfl) (fun K hK => ?_)
            refine Eq.mpr (if_pos rfl) ?_
            refine mv_app (s := .tmp 29) (x := .tmp 39) (t := 51) rfl rfl rfl YR2.out YB3.out (hK _ _ ?_)
            clear hK K
            (refine MixC.pick_read 14 rfl (by kernel_rfl) rfl (by kernel_rfl) (by kernel_rfl) YB3.out (fun K hK => ?_); go_simp; refine hK _ ?_; clear hK K)
            refine MixC.pick_nil (by kernel_rfl) ?_
            clear o1 o2 hne
            go_wp2_with fail
            go_meet
            exact ⟨ya2, yc2, rfl, YB3, YO⟩
        case rest =>
          obtain ⟨an, cn, rfl, BN, ON⟩ := hcut
          have hrow : wc.ownsRow wr.heap.size 33 1 (.slice an (m + 1) cn) (m + 1) (u16s (l ++ [s])) := by unfold u16s; rw [List.map_append]; exact ON.out
          have hbl : ∀ y ∈ l ++ [s], 0 ≤ y ∧ y ≤ 65535 := fun y hy => by
            rcases List.mem_append.1 hy with h1 | h1
            · exact HS.out.bd y h1
            · have : y = s := by simpa using h1
              subst this; exact sb
          have HLS := Lib.hid (rloss_row hrow hbl (by omega))
          have HRW := Lib.hid hrow
          obtain ⟨K, hK⟩ : ∃ K, (lossL (l ++ [s])).length = K := ⟨_, rfl⟩
          have HKK := Lib.hid hK
          clear hK hrow hbl ON
          go_wp2_with fail
          refine HLS.out.mono ?_
          rintro e V ⟨a3, c3, rfl, o3, b3⟩
          have HBV : Hid (Below wr.heap.size wr V) := Lib.hid (BN.out.trans (b3.mono BN.out.size))
          have HRV : Hid (V.ownsRow wr.heap.size 33 1 (.slice an (m + 1) cn) (m + 1) (u16s (l ++ [s]))) := Lib.hid (own_below HRW.out b3)
          clear o3 b3
          rw [HKK.out]
          by_cases h16 : 16 < K
          · have h16i : (16 : Int) < K := by omega
            have HL9 : (P ++ L.drop x).length ≤ 1000 := by rw [hlen]; exact hL
            have HT : Hid (RT B g pause high tick L (P ++ L.drop x) m l al cl w V) := Lib.hid ((HS.out.rt (ST'.out (by rw [HKK.out]; exact h16))).keep hB HBV.out)
            clear TU' ST' HLS HRW HRV
            obtain ⟨q, hq⟩ : ∃ q, (P ++ L.drop x).length = q := ⟨_, rfl⟩
            have HQ := Lib.hid hq
            have hq9 : q ≤ 1000 := by rw [← hq]; exact HL9
            obtain ⟨-, -, -, aI, cI, g2⟩ := HT.out.k.cells
            rw [hq] at g2
            have HZ0 : Hid (RZ B g pause high (P ++ L.drop x) q m l al cl w V) := Lib.hid (by rw [← hq]; exact HT.out.rz)
            have HEQ := Lib.hid HT.out.eq
            have HBD := Lib.hid HT.out.bd
            have hmm : m ≤ 1000 := by omega
            have HB9 := Lib.hid hB
            have wq : IntKind.i64.wrap ((q : Int) - 1) = (q : Int) - 1 := IntWalk.i64_in _ (by omega)
            clear hq
            go_wp2_with fail
            clear g2
            obtain ⟨V0, hV0⟩ : ∃ V0, V0 = V := ⟨_, rfl⟩
            subst hV0
            go_loopw [8] (fun s8 wx => (∃ i : Nat, i < q ∧ s8 = .int .i64 i ∧ Hid (RZ B g pause high (P ++ L.drop x) (i + 1) m l al cl w wx)) ∨ (s8 = .int .i64 (-1) ∧ Hid (RZ B g pause high (P ++ L.drop x) 0 m l al cl w wx))) (fun s8 _ => (intOf s8 + 1).toNat)
            case atStart =>
              rcases q with _ | i
              · exact Or.inr ⟨rfl, HZ0⟩
              · exact Or.inl ⟨i, by omega, by go_num, HZ0⟩
            case round =>
              rename World => wx
              rcases hrel with ⟨i, hi, rfl, HZ⟩ | ⟨rfl, HZ⟩
              · have hiM : i < (P ++ L.drop x).length := by rw [HQ.out]; exact hi
                obtain ⟨bT, cT, nT, g3, hin, e3⟩ := HZ.out.got hiM
                have hin2 : (i : Int) < nT := by omega
                have wi : IntKind.i64.wrap ((i : Int) - 1) = (i : Int) - 1 := IntWalk.i64_in _ (by omega)
                by_cases h3 : 3 ≤ ((P ++ L.drop x)[i]'hiM).tr
                · have hle := HZ.out.len (by omega)
                  have hdc := Lib.hid (drop_any B g pause high _ i wx HZ.out.k (Nat.le_trans HB9.out HZ.out.bl.size) (by omega) (by omega))
                  have FD : Hid (∀ V', RK B g pause high (((P ++ L.drop x).take (i + 1) ++ ((P ++ L.drop x).drop (i + 1)).filter kp).eraseIdx i) V' → But (some g) wx V' → RZ B g pause high (P ++ L.drop x) i m l al cl w V') := Lib.hid (fun V' a b => HZ.out.del HB9.out hiM h3 a b)
                  obtain ⟨tt, htt⟩ : ∃ tt, ((P ++ L.drop x)[i]'hiM).tr = tt := ⟨_, rfl⟩
                  rw [htt] at e3 h3
                  clear htt hle
                  go_wp2_with fail
                  refine hdc.out.mono ?_
                  rintro e V' ⟨rfl, hk, hb⟩
                  have FZ := Lib.hid (FD.out V' hk hb)
                  clear hk hb e3 g3
                  go_wp2_with fail
                  refine ⟨?_, by simp [intOf] <;> omega⟩
                  rcases i with _ | i
                  · exact Or.inr ⟨by go_num, FZ⟩
                  · exact Or.inl ⟨i, by omega, by go_num, FZ⟩
                · have FZ := Lib.hid (HZ.out.keep hiM h3)
                  obtain ⟨tt, htt⟩ : ∃ tt, ((P ++ L.drop x)[i]'hiM).tr = tt := ⟨_, rfl⟩
                  rw [htt] at e3 h3
                  clear htt
                  go_wp2_with fail
                  refine ⟨?_, by simp [intOf] <;> omega⟩
                  rcases i with _ | i
                  · exact Or.inr ⟨by go_num, FZ⟩
                  · exact Or.inl ⟨i, by omega, by go_num, FZ⟩
              · have HLL := Lib.hid (rloss_row HZ.out.row HBD.out (by omega))
                go_wp2_with fail
                refine HLL.out.mono ?_
                rintro e W ⟨a3, c3, rfl, o3, b3⟩
                have FP := Lib.hid (HZ.out.post HB9.out HEQ.out o3 b3)
                clear o3 b3
                go_wp2_with fail
                go_ret
                exact FP.out
          · have h16i : ¬ (16 : Int) < K := by omega
            have hdc := List.drop_eq_getElem_cons hxL
            rw [HY.out] at hdc
            have kV := HS.out.k.keep HBV.out
            rw [hdc] at kV
            obtain ⟨tb, tc, tn, u1, u2, u3, u4, u5⟩ := kV.tT HS.out.pl
            obtain ⟨k3, b3, t3⟩ := u5 (yt + 1)
            have wt : IntKind.i64.wrap (yt + 1) = yt + 1 := IntWalk.i64_in _ (by omega)
            simp only at u3
            obtain ⟨V3, hV3⟩ : ∃ V3, V.setCell ⟨tb, x, none⟩ (.int .i64 (yt + 1)) = V3 := ⟨_, rfl⟩
            rw [hV3] at k3 b3 t3
            obtain ⟨nb, nc, nn, v1, v2, v3, v4, v6, v5⟩ := k3.tN HS.out.pl
            obtain ⟨k4, b4, t4⟩ := v5 (tick + pause)
            have wn : IntKind.i64.wrap (tick + pause) = tick + pause := IntWalk.i64_in _ (by omega)
            have u2i : (x : Int) < tn := by omega
            have v2i : (x : Int) < nn := by omega
            have HV3 := Lib.hid hV3
            have hb1 : Below B wr V := HBV.out.mono (Nat.le_trans hB HS.out.bl.size)
            have SN := Lib.hid (TU'.out (by rw [HKK.out]; exact h16) (k4.keep (Below.refl _ _).drew) ((hb1.trans (b3.trans b4)).drew) ((Ty.below HBV.out).trans (t3.trans (t4.trans (Ty.below (Below.refl _ _).drew)))) (World.ownsRow.mono (((t3.trans t4).own HRV.out (by decide))) HS.out.bl.size))
            clear kV u5 k3 b3 t3 hV3 v5 k4 b4 t4 hb1 hdc TU' ST' HLS HRW HRV
            go_upto_region 10 with (fail)
            rw [HV3.out]
            clear u1 u3 u4
            refine wp_region_still_tail 12 (by kernel_rfl) (by kernel_rfl) ?_
            simp only [List.take_succ_cons, List.take_zero, List.drop_succ_cons, List.drop_zero]
            iterate 12 still_step
            refine wpStill_nil ?_
            change wpList _ _ _ _ _ V3.drew
            go_wp2_with fail
            refine ⟨⟨x + 1, m + 1, l ++ [s], an, cn, P ++ [upM tick pause ⟨yi, yt, yn⟩], by omega, by omega, by go_num, rfl, SN⟩, ?_⟩
            simp [intOf] <;> omega
    · obtain rfl : n = x := by omega
      have HL9 : (P ++ L.drop n).length ≤ 1000 := by rw [HS.out.len (by rw [HN.out]; exact Nat.le_refl _)]; exact hL
      have HT : Hid (RT B g pause high tick L (P ++ L.drop n) m l al cl w wr) := Lib.hid (HS.out.rt (HS.out.done HN.out.symm))
      obtain ⟨V, hV⟩ : ∃ V, V = wr := ⟨_, rfl⟩
      subst hV
      obtain ⟨-, -, -, aI0, cI0, g20⟩ := HS.out.k.cells
      have hq : (P ++ L.drop n).length = n := by rw [HS.out.len (by rw [HN.out]; exact Nat.le_refl _), HN.out]
      rw [hq] at g20
      clear HS hlt
      have HQ := Lib.hid hq
      have hq9 : n ≤ 1000 := by have := HN.out; omega
      have HZ0 : Hid (RZ B g pause high (P ++ L.drop n) n m l al cl w V) := Lib.hid (by have := HT.out.rz; rw [hq] at this; exact this)
      have HEQ := Lib.hid HT.out.eq
      have HBD := Lib.hid HT.out.bd
      have hmm : m ≤ 1000 := by omega
      have HB9 := Lib.hid hB
      have wq : IntKind.i64.wrap ((n : Int) - 1) = (n : Int) - 1 := IntWalk.i64_in _ (by omega)
      clear hq
      go_wp2_with fail
      clear g20
      obtain ⟨V0, hV0⟩ : ∃ V0, V0 = V := ⟨_, rfl⟩
      subst hV0
      go_loopw [8] (fun s8 wx => (∃ i : Nat, i < n ∧ s8 = .int .i64 i ∧ Hid (RZ B g pause high (P ++ L.drop n) (i + 1) m l al cl w wx)) ∨ (s8 = .int .i64 (-1) ∧ Hid (RZ B g pause high (P ++ L.drop n) 0 m l al cl w wx))) (fun s8 _ => (intOf s8 + 1).toNat)
      case atStart =>
        rcases n with _ | i
        · exact Or.inr ⟨rfl, HZ0⟩
        · exact Or.inl ⟨i, by omega, by go_num, HZ0⟩
      case round =>
        rename World => wx
        rcases hrel with ⟨i, hi, rfl, HZ⟩ | ⟨rfl, HZ⟩
        · have hiM : i < (P ++ L.drop n).length := by rw [HQ.out]; exact hi
          obtain ⟨bT, cT, nT, g3, hin, e3⟩ := HZ.out.got hiM
          have hin2 : (i : Int) < nT := by omega
          have wi : IntKind.i64.wrap ((i : Int) - 1) = (i : Int) - 1 := IntWalk.i64_in _ (by omega)
          by_cases h3 : 3 ≤ ((P ++ L.drop n)[i]'hiM).tr
          · have hle := HZ.out.len (by omega)
            have hdc := Lib.hid (drop_any B g pause high _ i wx HZ.out.k (Nat.le_trans HB9.out HZ.out.bl.size) (by omega) (by omega))
            have FD : Hid (∀ V', RK B g pause high (((P ++ L.drop n).take (i + 1) ++ ((P ++ L.drop n).drop (i + 1)).filter kp).eraseIdx i) V' → But (some g) wx V' → RZ B g pause high (P ++ L.drop n) i m l al cl w V') := Lib.hid (fun V' a b => HZ.out.del HB9.out hiM h3 a b)
            obtain ⟨tt, htt⟩ : ∃ tt, ((P ++ L.drop n)[i]'hiM).tr = tt := ⟨_, rfl⟩
            rw [htt] at e3 h3
            clear htt hle
            go_wp2_with fail
            refine hdc.out.mono ?_
            rintro e V' ⟨rfl, hk, hb⟩
            have FZ := Lib.hid (FD.out V' hk hb)
            clear hk hb e3 g3
            go_wp2_with fail
            refine ⟨?_, by simp [intOf] <;> omega⟩
            rcases i with _ | i
            · exact Or.inr ⟨by go_num, FZ⟩
            · exact Or.inl ⟨i, by omega, by go_num, FZ⟩
          · have FZ := Lib.hid (HZ.out.keep hiM h3)
            obtain ⟨tt, htt⟩ : ∃ tt, ((P ++ L.drop n)[i]'hiM).tr = tt := ⟨_, rfl⟩
            rw [htt] at e3 h3
            clear htt
            go_wp2_with fail
            refine ⟨?_, by simp [intOf] <;> omega⟩
            rcases i with _ | i
            · exact Or.inr ⟨by go_num, FZ⟩
            · exact Or.inl ⟨i, by omega, by go_num, FZ⟩
        · have HLL := Lib.hid (rloss_row HZ.out.row HBD.out (by omega))
          go_wp2_with fail
          refine HLL.out.mono ?_
          rintro e W ⟨a3, c3, rfl, o3, b3⟩
          have FP := Lib.hid (HZ.out.post HB9.out HEQ.out o3 b3)
          clear o3 b3
          go_wp2_with fail
          go_ret
          exact FP.out
end Go.Proofs.Ytdmbdageohjodaa
