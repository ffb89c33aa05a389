/-
  Chapter 20: the law LossesPlays.
-/
import Derived.Test.YtdmbdageohjodaaLt8
import Derived.Test.YtdmbdageohjodaaReads
namespace Go.Proofs.Ytdmbdageohjodaa
open Go.RowKit
set_option linter.unusedVariables false
set_option linter.unusedSimpArgs false
attribute [local irreducible] wpStill wpQuiet MixC.wpMix MixC.wpPick MixC.wpPickT
attribute [local go_sem] MixC.rdOp MixC.rd MixC.rdUpon MixC.mvUpon

theorem askM_16 (tick pause : Int) (L : List Mis) : ∀ l, (lossL l).length ≤ 16 → (lossL (askM tick pause l L).2).length ≤ 16 := by
  induction L with
  | nil => intro l h; exact h
  | cons m M ih =>
    intro l h
    unfold askM
    split
    · exact ih l h
    · split
      · exact h
      · exact ih _ (by omega)
theorem askO_16 (tick pause : Int) (L : List Mis) : (askO tick pause L).length ≤ 16 := askM_16 tick pause L [] (by decide)
def greatB (I T : Int) : Bool := decide (4611686018427387904 < I) || decide (4611686018427387904 < T) || decide (I < -4611686018427387904) || decide (T < -4611686018427387904)
set_option maxHeartbeats 1000000 in
theorem great20_any (a : Bool) (I T : Int) (w : World) : Calls Try.prog 18 #[.agg #[.bool a, .int .i64 I, .int .i64 T]] w fun e w' => e = .returned (.bool (greatB I T)) ∧ Below w.heap.size w w' := by
  have hw : Below w.heap.size w (w.alloc (.cells #[.bool a, .int .i64 I, .int .i64 T] 30)) := (Below.refl _ _).alloc (Nat.le_refl _) _
  unfold greatB
  by_cases h1 : 4611686018427387904 < I
  · go_enter Try.func18, Try.ntmps18
    go_wp2_with fail
    all_goals
      go_ret
      exact ⟨by simp [h1], hw⟩
  · by_cases h2 : 4611686018427387904 < T
    · go_enter Try.func18, Try.ntmps18
      go_wp2_with fail
      all_goals
        go_ret
        exact ⟨by simp [h1, h2], hw⟩
    · by_cases h3 : I < -4611686018427387904
      · go_enter Try.func18, Try.ntmps18
        go_wp2_with fail
        all_goals
          go_ret
          exact ⟨by simp [h1, h2, h3], hw⟩
      · by_cases h4 : T < -4611686018427387904
        · go_enter Try.func18, Try.ntmps18
          go_wp2_with fail
          all_goals
            go_ret
            exact ⟨by simp [h1, h2, h3, h4], hw⟩
        · go_enter Try.func18, Try.ntmps18
          go_wp2_with fail
          all_goals
            go_ret
            exact ⟨by simp [h1, h2, h3, h4], hw⟩
theorem greatB_no {I T : Int} (h : greatB I T = false) : (-4611686018427387904 ≤ I ∧ I ≤ 4611686018427387904) ∧ (-4611686018427387904 ≤ T ∧ T ≤ 4611686018427387904) := by
  unfold greatB at h
  simp at h
  omega
theorem lossV_at {O : List (Int × Int)} {k : Nat} (hk : k < O.length) : (lossV O)[k * 2]? = some (.int .u16 (O.getD k (0, 0)).1) ∧ (lossV O)[k * 2 + 1]? = some (.int .u16 (O.getD k (0, 0)).2) := by
  induction O generalizing k with
  | nil => cases hk
  | cons x l ih =>
    obtain ⟨q, b⟩ := x
    cases k with
    | zero => exact ⟨rfl, rfl⟩
    | succ k =>
      have := ih (k := k) (by simpa using hk)
      rw [show (k + 1) * 2 = k * 2 + 2 by omega]
      exact this
theorem Asked.get {O : List (Int × Int)} {v : Value} {V : World} (h : Asked O v V) : ∃ a c, v = .slice a O.length c ∧ ∀ k, k < O.length → ∀ W, Below V.heap.size V W → ∃ b, a = some ⟨b, 0, none⟩ ∧ W.cell? ⟨b, k * 2, none⟩ = some (.int .u16 (O.getD k (0, 0)).1) ∧ W.cell? ⟨b, k * 2 + 1, none⟩ = some (.int .u16 (O.getD k (0, 0)).2) := by
  obtain ⟨a, c, rfl, o⟩ := h
  refine ⟨a, c, rfl, fun k hk W hb => ?_⟩
  have o2 := own_below o hb
  rcases o2.2 with ⟨hv, h0⟩ | ⟨g, cap, cur, hv, hg, hh, hn, _⟩
  · omega
  · injection hv with e1 e2 e3
    subst e1
    exact ⟨g, rfl, own_cell o2 (lossV_at hk).1, own_cell o2 (lossV_at hk).2⟩
theorem mis_row {L : List Mis} {a : Option Addr} {n c : Nat} {V : World} (o : V.ownsRow 0 2 1 (.slice a n c) n (i64s (L.map (·.i)))) (hn : n = L.length) : ∀ k, k < n → ∀ W, Below V.heap.size V W → ∃ b, a = some ⟨b, 0, none⟩ ∧ W.cell? ⟨b, k, none⟩ = some (.int .i64 ((L.map (·.i)).getD k 0)) := fun k hk W hb => by
  have o2 := own_below o hb
  have hk2 : k < (L.map (·.i)).length := by rw [List.length_map]; omega
  obtain ⟨b, e, -, h1⟩ := own_get o2 (x := k) (u := .int .i64 ((L.map (·.i)).getD k 0)) (by unfold i64s; rw [List.getElem?_map, List.getD, List.getElem?_eq_getElem hk2]; rfl)
  exact ⟨b, e, h1⟩
theorem RP.bothI {gk gr : Nat} {pause h1 h2 : Int} {L1 L2 : List Mis} {w V : World} (h : RP gk gr pause h1 L1 h2 L2 w V) : ∃ a c, (∀ W, Below V.heap.size V W → W.cell? ⟨gr, 2, none⟩ = some (.slice a L2.length c)) ∧ (∀ k, k < L2.length → ∀ W, Below V.heap.size V W → ∃ b, a = some ⟨b, 0, none⟩ ∧ W.cell? ⟨b, k, none⟩ = some (.int .i64 ((L2.map (·.i)).getD k 0))) := by
  obtain ⟨-, -, -, a, c, g⟩ := h.rk.cells
  have ge : ∀ W, Below V.heap.size V W → W.cell? ⟨gr, 2, none⟩ = some (.slice a L2.length c) := fun W hb => (Below.cell hb (p := ⟨gr, 2, none⟩) h.rk.lt).trans g
  refine ⟨a, c, ge, fun k hk W hb => ?_⟩
  obtain ⟨bI, cI, bN, cN, bT, cT, ⟨q2, q3, q4⟩, ⟨e1, e2, e3⟩, -⟩ := (h.rk.keep hb).get hk
  have g' := ge W hb
  rw [q2] at g'
  injection g' with g'
  injection g' with g' _ _
  have hk2 : k < (L2.map (·.i)).length := by rw [List.length_map]; exact hk
  exact ⟨bI, g'.symm, by rw [e1, List.getD, List.getElem?_eq_getElem hk2]; simp⟩
set_option maxRecDepth 100000 in
set_option maxHeartbeats 8000000 in
theorem LossesPlays.core (pause : Int) (a : Option Addr) (len cap b off : Nat) (A : Nat → Bool) (I T : Nat → Int) (w : World)
    (haddr : 0 < cap → a = some ⟨b, off, none⟩ ∧ b < w.heap.size) (hlc : len ≤ cap) (hcm : cap ≤ maxLen)
    (hc : ∀ i, i < cap → w.cell? ⟨b, off + i * 3, none⟩ = some (.bool (A i)) ∧ w.cell? ⟨b, off + i * 3 + 1, none⟩ = some (.int .i64 (I i)) ∧ w.cell? ⟨b, off + i * 3 + 2, none⟩ = some (.int .i64 (T i))) :
    Calls Try.prog 3 #[.int .i64 pause, .slice a len cap] w fun e w' => e = .returned (.bool true) ∧ Below w.heap.size w w' := by
  have HC := Lib.hid hc
  have HA := Lib.hid haddr
  clear hc haddr
  go_enter Try.func3, Try.ntmps3
  go_wp2_with fail
  refine (alive20_any w).mono ?_
  rintro e w1 ⟨rfl, b1⟩
  have B1 := Lib.hid b1
  clear b1
  by_cases hp : 1000000000 < pause
  · go_wp2_with fail
    go_ret
    exact ⟨rfl, B1.out⟩
  · have HN := Lib.hid (RP.start (pause := pause) B1.out (by omega))
    go_wp2_with fail
    refine HN.out.mono ?_
    rintro e w2 ⟨rfl, b2, hn2⟩
    have HN2 := Lib.hid hn2
    clear b2 hn2
    go_wp2_with fail
    refine HN2.out.mono ?_
    rintro e w3 ⟨rfl, rp⟩
    obtain ⟨gk, hgk⟩ : ∃ gk, w1.heap.size = gk := ⟨_, rfl⟩
    obtain ⟨gr, hgr⟩ : ∃ gr, w2.heap.size = gr := ⟨_, rfl⟩
    obtain ⟨pa, hpa⟩ : ∃ pa, max pause 1 = pa := ⟨_, rfl⟩
    rw [hgk, hgr, hpa] at rp
    rw [hgk, hgr]
    have R0 := Lib.hid rp
    clear rp hgk hgr hpa HN HN2 hp
    go_wp2_with fail
    go_loopw [7] (fun s7 wr => ∃ (i : Nat) (h : Int) (L : List Mis), i ≤ len ∧ i ≤ 80 ∧ s7 = .int .i64 i ∧ Hid (RP gk gr pa h L h L w wr)) (fun s7 _ => len - (intOf s7).toNat)
    case atStart => exact ⟨0, -1, [], by omega, by omega, rfl, R0⟩
    case round =>
      obtain ⟨i, h, L, hi, hi80, rfl, HS⟩ := hrel
      by_cases hlt : i < len
      · by_cases h80 : i < 80
        · have hli : (i : Int) < len := by omega
          have h80i : (i : Int) < 80 := by omega
          obtain ⟨rfl, hb⟩ := HA.out (by omega)
          obtain ⟨c0, c1, c2⟩ := HC.out i (by omega)
          obtain ⟨Ai, hAi⟩ : ∃ x, A i = x := ⟨_, rfl⟩
          obtain ⟨Ii, hIi⟩ : ∃ x, I i = x := ⟨_, rfl⟩
          obtain ⟨Ti, hTi⟩ : ∃ x, T i = x := ⟨_, rfl⟩
          rw [hAi] at c0
          rw [hIi] at c1
          rw [hTi] at c2
          have FC : Hid (∀ y, Below w.heap.size w y → y.cell? ⟨b, off + i * 3, none⟩ = some (.bool Ai) ∧ y.cell? ⟨b, off + i * 3 + 1, none⟩ = some (.int .i64 Ii) ∧ y.cell? ⟨b, off + i * 3 + 2, none⟩ = some (.int .i64 Ti)) := Lib.hid (fun y hy => ⟨Below.cell' hy hb c0, Below.cell' hy hb c1, Below.cell' hy hb c2⟩)
          clear c0 c1 c2 hAi hIi hTi
          obtain ⟨c0, c1, c2⟩ := FC.out _ HS.out.bl
          go_wp2_with fail
          refine (great20_any Ai Ii Ti wr).mono ?_
          rintro e V1 ⟨rfl, b1⟩
          have H1 := Lib.hid (HS.out.keep b1)
          clear b1 HS c0 c1 c2
          obtain ⟨c0, c1, c2⟩ := FC.out _ H1.out.bl
          cases hgb : greatB Ii Ti with
          | true =>
            go_wp2_with fail
            go_ret
            exact ⟨rfl, H1.out.bl⟩
          | false =>
            obtain ⟨gI, gT⟩ := greatB_no hgb
            clear hgb
            go_upto_if 40 with (fail)
            go_cut [] (fun wx => ∃ h' L', Hid (RP gk gr pa h' L' h' L' w wx))
            case first =>
              cases Ai with
              | true =>
                go_upto_region 12 with (fail)
                have hne : Nonempty { w' : World // Below w.heap.size w w' } := ⟨⟨w, Below.refl _ _⟩⟩
                clear c0 c1 c2
                have c2 : ∀ y : { w' : World // Below w.heap.size w w' }, y.1.cell? ⟨b, off + i * 3 + 2, none⟩ = some (.int .i64 Ti) := fun y => (FC.out _ y.2).2.2
                have HD := Lib.hid (H1.out.keep (Below.refl V1.heap.size V1).drew)
                refine MixC.wp_region_mix [6, 13] (Below w.heap.size w) HD.out.bl (by kernel_rfl) (by kernel_rfl) (by kernel_rfl) ?_
                (iterate 6 (refine MixC.mix_read rfl (fun K hK => ?_); go_simp; refine hK _ ?_; clear hK K))
                refine MixC.mix_move rfl (fun K hK => ?_)
                go_simp
                refine (HD.out.ask1 Ti gT).mono ?_
                rintro e W1 ⟨va, rfl, as1, r1⟩
                have A1 := Lib.hid as1
                have R1 := Lib.hid r1
                refine ⟨_, rfl, R1.out.bl, hK _ _ ?_⟩
                clear hK K as1 r1
                (iterate 6 (refine MixC.mix_read rfl (fun K hK => ?_); go_simp; refine hK _ ?_; clear hK K))
                refine MixC.mix_move rfl (fun K hK => ?_)
                go_simp
                refine (R1.out.ask2 Ti gT).mono ?_
                rintro e W2 ⟨⟨vb, rfl, as2⟩, kp, r2⟩
                have A2 := Lib.hid as2
                have A1' := Lib.hid (kp _ _ A1.out)
                have R2 := Lib.hid r2
                refine ⟨_, rfl, R2.out.bl, hK _ _ ?_⟩
                clear hK K as2 r2 kp A1
                (iterate 2 (refine MixC.mix_read rfl (fun K hK => ?_); go_simp; refine hK _ ?_; clear hK K))
                refine MixC.mix_nil ?_
                change Exit.then _ _ _ _ W2
                obtain ⟨xa, xc, rfl, ga⟩ := A1'.out.get
                obtain ⟨ya, yc, rfl, gb⟩ := A2.out.get
                have HF : Hid (∀ z, Below W2.heap.size W2 z → RP gk gr pa h (askK Ti pa L) h (askK Ti pa L) w z) := Lib.hid (fun z hz => R2.out.keep hz)
                obtain ⟨n, hn⟩ : ∃ n, (askO Ti pa L).length = n := ⟨_, rfl⟩
                obtain ⟨Q, hQ⟩ : ∃ Q : Nat → Int, (fun k => ((askO Ti pa L).getD k (0, 0)).1) = Q := ⟨_, rfl⟩
                obtain ⟨R, hR⟩ : ∃ R : Nat → Int, (fun k => ((askO Ti pa L).getD k (0, 0)).2) = R := ⟨_, rfl⟩
                have ga2 : ∀ k, k < n → ∀ W, Below W2.heap.size W2 W → ∃ b, xa = some ⟨b, 0, none⟩ ∧ W.cell? ⟨b, k * 2, none⟩ = some (.int .u16 (Q k)) ∧ W.cell? ⟨b, k * 2 + 1, none⟩ = some (.int .u16 (R k)) := by rw [← hn, ← hQ, ← hR]; exact ga
                have gb2 : ∀ k, k < n → ∀ W, Below W2.heap.size W2 W → ∃ b, ya = some ⟨b, 0, none⟩ ∧ W.cell? ⟨b, k * 2, none⟩ = some (.int .u16 (Q k)) ∧ W.cell? ⟨b, k * 2 + 1, none⟩ = some (.int .u16 (R k)) := by rw [← hn, ← hQ, ← hR]; exact gb
                have GA := Lib.hid ga2
                have GB := Lib.hid gb2
                have hn16 := askO_16 Ti pa L
                rw [hn] at hn16 ⊢
                clear hn hQ hR ga gb ga2 gb2 A1' A2 R1 R2 H1 HD FC HA HC c2 hne
                go_wp2_with fail
                have BZ := Lib.hid (Below.refl W2.heap.size W2)
                go_loopw [10] (fun s10 wx => ∃ k : Nat, k ≤ n ∧ s10 = .int .i64 k ∧ Hid (Below W2.heap.size W2 wx)) (fun s10 _ => n - (intOf s10).toNat)
                case atStart => exact ⟨0, by omega, rfl, BZ⟩
                case round =>
                  clear BZ
                  obtain ⟨k, hk, rfl, BZ⟩ := hrel
                  by_cases hkn : k < n
                  · obtain ⟨p1, rfl, x0, x1⟩ := GA.out k hkn _ BZ.out
                    obtain ⟨p2, rfl, y0, y1⟩ := GB.out k hkn _ BZ.out
                    have hki : (k : Int) < n := by omega
                    obtain ⟨q, hq⟩ : ∃ q, Q k = q := ⟨_, rfl⟩
                    obtain ⟨r, hr⟩ : ∃ r, R k = r := ⟨_, rfl⟩
                    rw [hq] at x0 y0
                    rw [hr] at x1 y1
                    clear hq hr
                    go_wp2_with fail
                    go_quiet (fail)
                    generalize hW : wr.drewN _ = V4
                    have BZ2 : Hid (Below W2.heap.size W2 V4) := Lib.hid (by rw [← hW]; exact below_drewN0 BZ.out _)
                    clear hW
                    have ki : IntKind.i64.wrap ((k : Int) + 1) = (k : Int) + 1 := IntWalk.i64_in _ (by omega)
                    clear x0 x1 y0 y1 BZ
                    go_wp2_with fail
                    go_roundw
                    case rel => exact ⟨k + 1, hkn, by go_num, BZ2⟩
                    case measure => simp [intOf] <;> omega
                  · obtain rfl : n = k := by omega
                    clear hkn
                    go_wp2_with fail
                    go_meet
                    exact ⟨_, _, Lib.hid (HF.out _ BZ.out)⟩
              | false =>
                go_upto_region 20 with (fail)
                have hne : Nonempty { w' : World // Below w.heap.size w w' } := ⟨⟨w, Below.refl _ _⟩⟩
                clear c0 c1 c2
                have c1 : ∀ y : { w' : World // Below w.heap.size w w' }, y.1.cell? ⟨b, off + i * 3 + 1, none⟩ = some (.int .i64 Ii) := fun y => (FC.out _ y.2).2.1
                have c2 : ∀ y : { w' : World // Below w.heap.size w w' }, y.1.cell? ⟨b, off + i * 3 + 2, none⟩ = some (.int .i64 Ti) := fun y => (FC.out _ y.2).2.2
                have HD := Lib.hid (H1.out.keep (Below.refl V1.heap.size V1).drew)
                refine MixC.wp_region_mix [11] (Below w.heap.size w) HD.out.bl (by kernel_rfl) (by kernel_rfl) (by kernel_rfl) ?_
                (iterate 11 (refine MixC.mix_read rfl (fun K hK => ?_); go_simp; refine hK _ ?_; clear hK K))
                refine MixC.mix_move rfl (fun K hK => ?_)
                go_simp
                refine (HD.out.came1 Ii Ti gI.2).mono ?_
                rintro e W1 ⟨rfl, r1⟩
                have R1 := Lib.hid r1
                refine ⟨_, rfl, R1.out.bl, hK _ _ ?_⟩
                clear hK K r1
                refine MixC.mix_nil ?_
                change Exit.then _ _ _ _ W1
                go_upto_region 21 with (fail)
                have HE := Lib.hid (R1.out.keep (Below.refl W1.heap.size W1).drew)
                refine MixC.wp_region_mix [11] (Below w.heap.size w) HE.out.bl (by kernel_rfl) (by kernel_rfl) (by kernel_rfl) ?_
                (iterate 11 (refine MixC.mix_read rfl (fun K hK => ?_); go_simp; refine hK _ ?_; clear hK K))
                refine MixC.mix_move rfl (fun K hK => ?_)
                go_simp
                refine (HE.out.came2 Ii Ti gI.2).mono ?_
                rintro e W2 ⟨rfl, r2⟩
                have R2 := Lib.hid r2
                refine ⟨_, rfl, R2.out.bl, hK _ _ ?_⟩
                clear hK K r2
                refine MixC.mix_nil ?_
                change Exit.then _ _ _ _ W2
                go_wp2_with fail
                go_meet
                exact ⟨_, _, R2⟩
            case rest =>
              obtain ⟨h', L', HR⟩ := hcut
              obtain ⟨wb, hwb⟩ : ∃ wb, wb = wc := ⟨_, rfl⟩
              subst hwb
              clear c0 c1 c2 H1
              go_wp2_with fail
              refine HR.out.miss.mono ?_
              rintro e V2 ⟨⟨xa, xc, rfl, ro⟩, r2⟩
              have R2 := Lib.hid r2
              obtain ⟨ya, yc, g2, gy⟩ := R2.out.bothI
              obtain ⟨n, hn⟩ : ∃ n, L'.length = n := ⟨_, rfl⟩
              obtain ⟨Q, hQ⟩ : ∃ Q : Nat → Int, (fun k => (L'.map (·.i)).getD k 0) = Q := ⟨_, rfl⟩
              have gx2 : ∀ k, k < n → ∀ W, Below V2.heap.size V2 W → ∃ b, xa = some ⟨b, 0, none⟩ ∧ W.cell? ⟨b, k, none⟩ = some (.int .i64 (Q k)) := by rw [← hn, ← hQ]; exact mis_row ro rfl
              have gy2 : ∀ k, k < n → ∀ W, Below V2.heap.size V2 W → ∃ b, ya = some ⟨b, 0, none⟩ ∧ W.cell? ⟨b, k, none⟩ = some (.int .i64 (Q k)) := by rw [← hn, ← hQ]; exact gy
              rw [hn] at g2 ⊢
              have GX := Lib.hid gx2
              have GY := Lib.hid gy2
              have hn32 := R2.out.p1.len
              rw [hn] at hn32
              have G2 := Lib.hid g2
              clear ro r2 gy hn hQ gx2 gy2 g2
              have g2 := G2.out _ (Below.refl _ _)
              go_wp2_with fail
              have BZ := Lib.hid (Below.refl V2.heap.size V2)
              clear g2
              go_loopw [12] (fun s12 wx => ∃ k : Nat, k ≤ n ∧ s12 = .int .i64 k ∧ Hid (Below V2.heap.size V2 wx)) (fun s12 _ => n - (intOf s12).toNat)
              case atStart => exact ⟨0, by omega, rfl, BZ⟩
              case round =>
                clear BZ
                obtain ⟨k, hk, rfl, BZ⟩ := hrel
                by_cases hkn : k < n
                · obtain ⟨p1, rfl, x0⟩ := GX.out k hkn _ BZ.out
                  obtain ⟨p2, rfl, y0⟩ := GY.out k hkn _ BZ.out
                  have g2 := G2.out _ BZ.out
                  have hki : (k : Int) < n := by omega
                  obtain ⟨q, hq⟩ : ∃ q, Q k = q := ⟨_, rfl⟩
                  rw [hq] at x0 y0
                  clear hq
                  go_wp2_with fail
                  go_quiet (fail)
                  generalize hW : wr.drewN _ = V4
                  have BZ2 : Hid (Below V2.heap.size V2 V4) := Lib.hid (by rw [← hW]; exact below_drewN0 BZ.out _)
                  clear hW
                  have ki : IntKind.i64.wrap ((k : Int) + 1) = (k : Int) + 1 := IntWalk.i64_in _ (by omega)
                  clear x0 y0 g2 BZ
                  go_wp2_with fail
                  go_roundw
                  case rel => exact ⟨k + 1, hkn, by go_num, BZ2⟩
                  case measure => simp [intOf] <;> omega
                · obtain rfl : n = k := by omega
                  clear hkn
                  have ii : IntKind.i64.wrap ((i : Int) + 1) = (i : Int) + 1 := IntWalk.i64_in _ (by omega)
                  have RZ2 := Lib.hid (R2.out.keep BZ.out)
                  clear hli h80i
                  go_wp2_with fail
                  go_roundw
                  case rel => exact ⟨i + 1, h', L', by omega, by omega, by go_num, RZ2⟩
                  case measure => simp [intOf] <;> omega
        · have h80i : ¬ (i : Int) < 80 := by omega
          have hli : (i : Int) < len := by omega
          go_wp2_with fail
          go_ret
          exact ⟨rfl, HS.out.bl⟩
      · have hli : ¬ (i : Int) < len := by omega
        go_wp2_with fail
        all_goals
          go_ret
          exact ⟨rfl, HS.out.bl⟩
theorem LossesPlays.walk (pause : Int) (v : Value) (w : World) (hp : (Lit.int .i64 pause).wf = true) (r : Reads Try.prog w 6 22 v) :
    Calls Try.prog 3 #[.int .i64 pause, v] w fun e w' => e = .returned (.bool true) ∧ Below w.heap.size w w' := by
  obtain ⟨a, len, cap, b, off, V, rfl, row⟩ := reads_slice Try.underlying22 (ts := [4, 2, 2]) (by kernel_rfl) (by kernel_rfl) (by decide) r
  obtain ⟨A, hA⟩ := Deep.choose_lt (n := cap) (p := fun i (x : Bool) => V i 0 = .bool x) (fun i hi => reads_bool Try.underlying4 (row.read i hi 0 _ rfl))
  obtain ⟨I, hI⟩ := Deep.choose_lt (n := cap) (p := fun i (x : Int) => V i 1 = .int .i64 x ∧ (Lit.int .i64 x).wf = true) (fun i hi => reads_int Try.underlying2 (row.read i hi 1 _ rfl))
  obtain ⟨T, hT⟩ := Deep.choose_lt (n := cap) (p := fun i (x : Int) => V i 2 = .int .i64 x ∧ (Lit.int .i64 x).wf = true) (fun i hi => reads_int Try.underlying2 (row.read i hi 2 _ rfl))
  refine LossesPlays.core pause a len cap b off A I T w row.addr row.le row.max (fun i hi => ⟨?_, ?_, ?_⟩)
  · have := row.cell i hi 0 (by decide); simpa [hA i hi] using this
  · have := row.cell i hi 1 (by decide); simpa [(hI i hi).1, Nat.add_assoc] using this
  · have := row.cell i hi 2 (by decide); simpa [(hT i hi).1, Nat.add_assoc] using this
end Go.Proofs.Ytdmbdageohjodaa
