/-
  The walk of LadderPlays.
-/
import Derived.Test.YtkemkplmhjmahaaLadRef
namespace Go.Proofs.Ytkemkplmhjmahaa
open Go.RowKit
set_option linter.unusedVariables false
set_option linter.unusedSimpArgs false

theorem lops_of {w : World} {v : Value} (h : Reads Try.prog w 6 32 v) : ∃ a len cap b off, ∃ (X Y : Nat → Int), v = .slice a len cap ∧ (0 < cap → a = some ⟨b, off, none⟩ ∧ b < w.heap.size) ∧ len ≤ cap ∧ cap ≤ 9223372036854775807 ∧
    (∀ i, i < cap → w.cell? ⟨b, off + i * 2, none⟩ = some (.int .u8 (X i)) ∧ w.cell? ⟨b, off + i * 2 + 1, none⟩ = some (.int .i64 (Y i))) ∧
    ∀ i, i < cap → (0 ≤ X i ∧ X i ≤ 255) ∧ (-9223372036854775808 ≤ Y i ∧ Y i ≤ 9223372036854775807) := by
  obtain ⟨a, len, cap, b, off, V, rfl, row⟩ := reads_slice Try.underlying32 (ts := [5, 3]) (by kernel_rfl) (by kernel_rfl) (by decide) h
  obtain ⟨X, hX⟩ := Deep.choose_lt (n := cap) (p := fun i (x : Int) => V i 0 = .int .u8 x ∧ (Lit.int .u8 x).wf = true) (fun i hi => reads_int Try.underlying5 (row.read i hi 0 _ rfl))
  obtain ⟨Y, hY⟩ := Deep.choose_lt (n := cap) (p := fun i (x : Int) => V i 1 = .int .i64 x ∧ (Lit.int .i64 x).wf = true) (fun i hi => reads_int Try.underlying3 (row.read i hi 1 _ rfl))
  have hm := row.max
  unfold maxLen at hm
  refine ⟨a, len, cap, b, off, X, Y, rfl, row.addr, row.le, by omega, fun i hi => ⟨?_, ?_⟩, fun i hi => ⟨bounds_u8 (hX i hi).2, bounds_i64 (hY i hi).2⟩⟩
  · have := row.cell i hi 0 (by decide); simpa [(hX i hi).1] using this
  · have := row.cell i hi 1 (by decide); simpa [(hY i hi).1, Nat.add_assoc] using this

/-- the copy that was made, if one was -/
def cpy (w : World) (g r : Nat) (cv wv : Value) : Prop :=
  (cv = .pointer none ∧ wv = .int .i64 0) ∨ ∃ (cc : Nat) (S H D n l q : Int), cv = .pointer (some ⟨cc, 0, none⟩) ∧ wv = .int .i64 n ∧ ldr w cc S H D n l q ∧ cc ≠ g ∧ cc ≠ r
theorem cpy.keeps {w w' : World} {g r b : Nat} {cv wv : Value} (h : cpy w g r cv wv) (k : Keeps b w w') (hb : b = g ∨ b = r) : cpy w' g r cv wv := by
  rcases h with h | ⟨cc, S, H, D, n, l, q, h1, h2, h3, h4, h5⟩
  · exact .inl h
  · exact .inr ⟨cc, S, H, D, n, l, q, h1, h2, k.blk h3 (by rcases hb with rfl | rfl <;> assumption), h4, h5⟩
theorem cpy.below {w w' : World} {g r : Nat} {cv wv : Value} (h : cpy w g r cv wv) (k : Below w.heap.size w w') : cpy w' g r cv wv := h.keeps (Below.nothing k g) (.inl rfl)
theorem cpy.new {w : World} {g r r' : Nat} {cv wv : Value} (h : cpy w g r cv wv) (hr : w.heap.size ≤ r') : cpy w g r' cv wv := by
  rcases h with h | ⟨cc, S, H, D, n, l, q, h1, h2, h3, h4, h5⟩
  · exact .inl h
  · exact .inr ⟨cc, S, H, D, n, l, q, h1, h2, h3, h4, by have := lt_of_block h3; omega⟩

structure LP (w0 wr : World) (g r : Nat) (S H D n l : Int) (s : Bool) (cv wv : Value) : Prop where
  x : ldr wr g S H D n l (qi s)
  y : rl wr r S H D n l s
  c : cpy wr g r cv wv
  b : Below w0.heap.size w0 wr
  n0 : 0 ≤ n
  n1 : n ≤ 1000
  l0 : 1 ≤ l
  l1 : l ≤ 9223372036854775807
  g0 : w0.heap.size < g
  p : wr.heap[w0.heap.size]? = some (.cells #[.int .i64 S, .int .i64 H, .int .i64 D] 23 (0, 0))
  r0 : w0.heap.size < r
  gr : g ≠ r

set_option maxHeartbeats 16000000 in
set_option maxRecDepth 100000 in
theorem LadderPlays.walk (v0 v1 : Value) (cut : Int) (w : World) (a0 : ArgS Try.prog w 23 v0) (a1 : Reads Try.prog w 6 32 v1) (w2 : (Lit.int .u8 cut).wf = true) :
    Calls Try.prog 5 #[v0, v1, .int .u8 cut] w fun e w' => e = .returned (.bool true) ∧ Below w.heap.size w w' := by
  obtain ⟨S, H, D, rfl, hS, hH, hD⟩ := rungs_of a0
  obtain ⟨a, len, cap, b, off, X, Y, rfl, ha, hl, hm, hc, hX⟩ := lops_of a1
  have hcut0 := bounds_u8 w2
  have HA := Lib.hid ha
  have HC := Lib.hid hc
  have HX := Lib.hid hX
  clear a0 a1 w2 ha hc hX
  go_enter Try.func5, Try.ntmps5
  go_wp2_with fail
  refine (alive21_any _).mono ?_
  rintro e w1 ⟨rfl, hb1⟩
  have p0 : w1.heap[w.heap.size]? = some (.cells #[.int .i64 S, .int .i64 H, .int .i64 D] 23 (0, 0)) := Below.blk hb1 alloc_blk_new (by simp)
  have B1 : Below w.heap.size w w1 := ((Below.refl _ _).alloc (Nat.le_refl _) _).trans (hb1.mono (by simp))
  have sz1 : w.heap.size < w1.heap.size := lt_of_block p0
  clear hb1
  have c0 : w1.cell? ⟨w.heap.size, 0, none⟩ = some (.int .i64 S) := cell_blk p0
  have c1 : w1.cell? ⟨w.heap.size, 1, none⟩ = some (.int .i64 H) := cell_blk p0
  have c2 : w1.cell? ⟨w.heap.size, 2, none⟩ = some (.int .i64 D) := cell_blk p0
  by_cases hm : ¬ (1 ≤ S ∧ S < H ∧ H ≤ 1000 ∧ 1 ≤ D)
  · go_wp2_with fail
    refine (lnew_no _ _ _ _ hm).mono ?_
    rintro e w2 ⟨rfl, hb2⟩
    have p2 := Below.blk hb2 p0 sz1
    have B2 := B1.trans (hb2.mono B1.size)
    have k0 : w2.cell? ⟨w.heap.size, 0, none⟩ = some (.int .i64 S) := cell_blk p2
    have k1 : w2.cell? ⟨w.heap.size, 1, none⟩ = some (.int .i64 H) := cell_blk p2
    have k2 : w2.cell? ⟨w.heap.size, 2, none⟩ = some (.int .i64 D) := cell_blk p2
    clear c0 c1 c2 hb2 p0 B1
    have HM := Lib.hid hm
    clear hm
    go_wp2_with fail
    refine (rmay_no _ _ _ _ HM.out).mono ?_
    rintro e w3 ⟨rfl, hb3⟩
    have B3 := B2.trans (hb3.mono B2.size)
    go_wp2_with fail
    go_ret
    exact ⟨rfl, B3⟩
  obtain ⟨h1, h2, h3, h4⟩ := Classical.not_not.1 hm
  clear hm
  go_wp2_with fail
  refine (lnew_any _ _ _ _ h1 h2 h3 h4).mono ?_
  rintro e w2 ⟨g, rfl, q2, g2, hb2⟩
  have B2 := B1.trans (hb2.mono B1.size)
  have p2 := Below.blk hb2 p0 sz1
  have hg0 : w.heap.size < g := by omega
  have k0 : w2.cell? ⟨w.heap.size, 0, none⟩ = some (.int .i64 S) := cell_blk p2
  have k1 : w2.cell? ⟨w.heap.size, 1, none⟩ = some (.int .i64 H) := cell_blk p2
  have k2 : w2.cell? ⟨w.heap.size, 2, none⟩ = some (.int .i64 D) := cell_blk p2
  clear c0 c1 c2 hb2 p0 B1 q2 sz1
  go_wp2_with fail
  refine (rmay_yes _ _ _ _ h1 h2 h3 h4).mono ?_
  rintro e w3 ⟨rfl, hb3⟩
  have B3 := B2.trans (hb3.mono B2.size)
  have p3 := Below.blk hb3 p2 (lt_of_block p2)
  have g3 : ldr w3 g S H D 0 D 0 := Below.blk hb3 g2 g2.lt
  have k0 : w3.cell? ⟨w.heap.size, 0, none⟩ = some (.int .i64 S) := cell_blk p3
  have k1 : w3.cell? ⟨w.heap.size, 1, none⟩ = some (.int .i64 H) := cell_blk p3
  have k2 : w3.cell? ⟨w.heap.size, 2, none⟩ = some (.int .i64 D) := cell_blk p3
  clear hb3 B2 p2 g2
  go_wp2_with fail
  refine (rlnew_any S H D _).mono ?_
  rintro e w4 ⟨r, rfl, q4, r4, hb4⟩
  have B4 := B3.trans (hb4.mono B3.size)
  have p4 := Below.blk hb4 p3 (lt_of_block p3)
  have g4 : ldr w4 g S H D 0 D (qi false) := Below.blk hb4 g3 g3.lt
  have hr0 : w.heap.size < r := by have := g3.lt; omega
  have hgr : g ≠ r := by have := g3.lt; omega
  have hb0 : w.heap.size ≤ w.heap.size := Nat.le_refl _
  clear k0 k1 k2 hb4 B3 p3 g3 q4
  go_wp2_with fail
  go_loopw [8, 9, 10, 11] (fun rv cv wv si wr => ∃ (k r : Nat) (n l : Int) (s : Bool), k ≤ len ∧ k ≤ 150 ∧ si = .int .i64 k ∧ rv = .pointer (some ⟨r, 0, none⟩) ∧ LP w wr g r S H D n l s cv wv) (fun _ _ _ si _ => len - (intOf si).toNat)
  case atStart => exact ⟨0, r, 0, D, false, by omega, by omega, rfl, rfl, ⟨g4, r4, .inl ⟨rfl, rfl⟩, B4, by omega, by omega, h4, hD.2, hg0, p4, hr0, hgr⟩⟩
  case round =>
    clear r4 g4 B4 hr0 hgr
    obtain ⟨k, r, n, l, s, hk, hk150, rfl, rfl, ⟨xg, xr, xc, xb, hn0, hn1, hl0, hl1, hg0', xp, hr0, hgr⟩⟩ := hrel
    by_cases hlt : k < len ∧ k < 150
    · obtain ⟨hlt1, hlt2⟩ := hlt
      obtain ⟨rfl, hbs⟩ := HA.out (by omega)
      obtain ⟨la, lb⟩ := HC.out k (by omega)
      obtain ⟨hK, hN2⟩ := HX.out k (by omega)
      have la1 := Below.cell' xb hbs la
      have lb1 := Below.cell' xb hbs lb
      generalize X k = K at *
      generalize Y k = N at *
      by_cases hcut : (k : Int) = cut % 100
      · have t1 : ((k : Int) == cut % 100) = true := by simpa using hcut
        clear hcut
        go_wp2_with fail
        refine (lcopy_any g S H D n l (qi s) _ xg).mono ?_
        rintro e w3 ⟨rfl, cg, b3⟩
        have xg3 : ldr w3 g S H D n l (qi s) := Below.blk b3 xg xg.lt
        have xr3 : rl w3 r S H D n l s := Below.blk b3 xr xr.lt
        have xp3 := Below.blk b3 xp (lt_of_block xp)
        have xb3 := xb.trans (b3.mono xb.size)
        have la3 := Below.cell' xb3 hbs la
        have lb3 := Below.cell' xb3 hbs lb
        have hcc : cpy w3 g r (.pointer (some ⟨wr.heap.size, 0, none⟩)) (.int .i64 n) := .inr ⟨_, _, _, _, _, _, _, rfl, rfl, cg, by have := xg.lt; omega, by have := xr.lt; omega⟩
        generalize wr.heap.size = C at *
        clear la1 lb1 xg xr xc xb b3 cg xp
        go_wp2_with fail
        refine (lstrikes_any g S H D n l (qi s) _ xg3).mono ?_
        rintro e w4 ⟨rfl, rfl⟩
        have xg := xg3
        have xr := xr3
        have xb := xb3
        have la1 := la3
        have lb1 := lb3
        have xc := hcc
        have xp := xp3
        clear xg3 xr3 xb3 la3 lb3 hcc xp3
        by_cases hk2 : K % 4 = 2
        · have t2 : (K % 4 == 2) = true := by simpa using hk2
          by_cases hN : N < 1
          · go_wp2_with (first | (go_at_call 19; refine (lstrike_no _ N _ hN).mono ?_; rintro e w' ⟨rfl, rfl⟩) | (go_at_call 24; refine (rlstrike_no _ N _ hN).mono ?_; rintro e w' ⟨rfl, rfl⟩))
            have kr := Wd.cell (B := w3.heap.size) (w0 := w3) (b := r) (i := 3) (v := .int .i64 (n)) (cell_blk xr) xr.lt
            obtain ⟨sv, hsv⟩ : ∃ sv, Hid (stOf S (n) (qi (s)) = sv) := ⟨_, Lib.hid rfl⟩
            have Q1 : Hid (∀ x : Wd w3.heap.size w3, Calls Try.prog 20 #[.pointer (some ⟨g, 0, none⟩)] x.1 fun e w' => e = .returned (.int .i64 sv) ∧ Below x.1.heap.size x.1 w') := by
              refine Lib.hid fun x => ?_
              rw [← hsv.out]
              exact lstate_any g S H D (n) (l) (qi (s)) x.1 (Below.blk x.2 xg xg.lt)
            have Q2 : Hid (∀ x : Wd w3.heap.size w3, Calls Try.prog 27 #[.pointer (some ⟨r, 0, none⟩)] x.1 fun e w' => e = .returned (.int .i64 sv) ∧ Below x.1.heap.size x.1 w') := by
              refine Lib.hid fun x => ?_
              rw [← hsv.out]
              exact (rlstate_any r S H D (n) (l) (s) x.1 (Below.blk x.2 xr xr.lt)).mono fun e w' ⟨h1, n, h2⟩ => ⟨h1, by rw [h2]; exact below_drewN0 (Below.refl _ _) _⟩
            have Q3 : Hid (∀ x : Wd w3.heap.size w3, Calls Try.prog 21 #[.pointer (some ⟨g, 0, none⟩)] x.1 fun e w' => e = .returned (.int .i64 (n)) ∧ x.1 = w') := by
              refine Lib.hid fun x => ?_
              exact lstrikes_any g S H D (n) (l) (qi (s)) x.1 (Below.blk x.2 xg xg.lt)
            have n1 : (sv != sv) = false := by simp
            have n2 : ((n) != (n)) = false := by simp
            go_wp2_with fail
            (refine wp_region_calm (Below.refl w3.heap.size w3) (by kernel_rfl) (by kernel_rfl) ?_; (iterate 14 quiet_step (first | (go_at_call 20; exact calm _ (Nat.le_refl _) (Q1.out _)) | (go_at_call 27; exact calm _ (Nat.le_refl _) (Q2.out _)) | (go_at_call 21; exact calm_same _ (Q3.out _)))); refine wpQuiet_nil ?_; intro _ hw'; obtain ⟨⟨w9, hwq⟩, hw''⟩ := hw'; subst hw'')
            go_wp2_with fail
            go_roundw
            case rel => exact ⟨k + 1, r, (n), (l), (s), by omega, by omega, by go_num, rfl, ⟨Below.blk hwq xg xg.lt, Below.blk hwq xr xr.lt, xc.below hwq, xb.trans (hwq.mono xb.size), by omega, by omega, by omega, by omega, hg0, Below.blk hwq xp (lt_of_block xp), hr0, hgr⟩⟩
            case measure => simp [intOf] <;> omega
          · go_wp2_with fail
            refine (lstrike_any g S H D n l (qi s) N _ xg hn0 hn1 (by omega)).mono ?_
            rintro e w4 ⟨rfl, yg', k4⟩
            have yg : ldr w4 g S H D (upS n N) D (qi (decide (H ≤ upS n N) || s)) := by
              cases hd : decide (H ≤ upS n N)
              · rw [hd] at yg'; exact yg'
              · rw [hd] at yg'; exact yg'
            have yr : rl w4 r S H D n l _ := k4.blk xr (by omega)
            have yc := xc.keeps k4 (.inl rfl)
            have yb := Below.keeps xb xb.size (by omega) k4
            have yp := k4.blk xp (by omega)
            have l1c := k4.cell lb1 (by omega)
            clear yg' k4 xg xr xc xb la1 lb1 xp
            go_wp2_with fail
            refine (rlstrike_any r S H D n l N s _ yr hn0 hn1 (by omega) hN2.2).mono ?_
            rintro e w5 ⟨rfl, zr, k5⟩
            have zg : ldr w5 g S H D (upS n N) D (qi (decide (H ≤ upS n N) || s)) := k5.blk yg (by omega)
            have zc := yc.keeps k5 (.inr rfl)
            have zb := Below.keeps yb yb.size (by omega) k5
            have zp := k5.blk yp (by omega)
            have hu : 0 ≤ upS n N ∧ upS n N ≤ 1000 := by unfold upS; omega
            clear k5 yg yr yc yb l1c yp
            generalize upS n N = u at *
            generalize (decide (H ≤ u) || s) = s' at *
            have kr := Wd.cell (B := w5.heap.size) (w0 := w5) (b := r) (i := 3) (v := .int .i64 (u)) (cell_blk zr) zr.lt
            obtain ⟨sv, hsv⟩ : ∃ sv, Hid (stOf S (u) (qi (s')) = sv) := ⟨_, Lib.hid rfl⟩
            have Q1 : Hid (∀ x : Wd w5.heap.size w5, Calls Try.prog 20 #[.pointer (some ⟨g, 0, none⟩)] x.1 fun e w' => e = .returned (.int .i64 sv) ∧ Below x.1.heap.size x.1 w') := by
              refine Lib.hid fun x => ?_
              rw [← hsv.out]
              exact lstate_any g S H D (u) (D) (qi (s')) x.1 (Below.blk x.2 zg zg.lt)
            have Q2 : Hid (∀ x : Wd w5.heap.size w5, Calls Try.prog 27 #[.pointer (some ⟨r, 0, none⟩)] x.1 fun e w' => e = .returned (.int .i64 sv) ∧ Below x.1.heap.size x.1 w') := by
              refine Lib.hid fun x => ?_
              rw [← hsv.out]
              exact (rlstate_any r S H D (u) (D) (s') x.1 (Below.blk x.2 zr zr.lt)).mono fun e w' ⟨h1, n, h2⟩ => ⟨h1, by rw [h2]; exact below_drewN0 (Below.refl _ _) _⟩
            have Q3 : Hid (∀ x : Wd w5.heap.size w5, Calls Try.prog 21 #[.pointer (some ⟨g, 0, none⟩)] x.1 fun e w' => e = .returned (.int .i64 (u)) ∧ x.1 = w') := by
              refine Lib.hid fun x => ?_
              exact lstrikes_any g S H D (u) (D) (qi (s')) x.1 (Below.blk x.2 zg zg.lt)
            have n1 : (sv != sv) = false := by simp
            have n2 : ((u) != (u)) = false := by simp
            go_wp2_with fail
            (refine wp_region_calm (Below.refl w5.heap.size w5) (by kernel_rfl) (by kernel_rfl) ?_; (iterate 14 quiet_step (first | (go_at_call 20; exact calm _ (Nat.le_refl _) (Q1.out _)) | (go_at_call 27; exact calm _ (Nat.le_refl _) (Q2.out _)) | (go_at_call 21; exact calm_same _ (Q3.out _)))); refine wpQuiet_nil ?_; intro _ hw'; obtain ⟨⟨w9, hwq⟩, hw''⟩ := hw'; subst hw'')
            go_wp2_with fail
            go_roundw
            case rel => exact ⟨k + 1, r, (u), (D), (s'), by omega, by omega, by go_num, rfl, ⟨Below.blk hwq zg zg.lt, Below.blk hwq zr zr.lt, zc.below hwq, zb.trans (hwq.mono zb.size), by omega, by omega, by omega, by omega, hg0, Below.blk hwq zp (lt_of_block zp), hr0, hgr⟩⟩
            case measure => simp [intOf] <;> omega
        have t2 : (K % 4 == 2) = false := by simpa using hk2
        by_cases hk3 : K % 4 = 3
        · have t3 : (K % 4 == 3) = true := by simpa using hk3
          go_wp2_with fail
          refine (lreset_any g S H D n l (qi s) _ xg).mono ?_
          rintro e w4 ⟨rfl, yg, k4⟩
          have yc := xc.keeps k4 (.inl rfl)
          have yb := Below.keeps xb xb.size (by omega) k4
          have pr := k4.blk xp (by omega)
          have c0 : w4.cell? ⟨w.heap.size, 0, none⟩ = some (.int .i64 S) := cell_blk pr
          have c1 : w4.cell? ⟨w.heap.size, 1, none⟩ = some (.int .i64 H) := cell_blk pr
          have c2 : w4.cell? ⟨w.heap.size, 2, none⟩ = some (.int .i64 D) := cell_blk pr
          clear k4 xg xr xc xb la1 lb1 xp
          go_wp2_with fail
          refine (rlnew_any S H D _).mono ?_
          rintro e w5 ⟨r5, rfl, q5, zr, b5⟩
          have zg : ldr w5 g S H D 0 D (qi false) := Below.blk b5 yg yg.lt
          have zc := (yc.new q5).below b5
          have zb := yb.trans (b5.mono yb.size)
          have zp := Below.blk b5 pr (lt_of_block pr)
          have hr50 : w.heap.size < r5 := by have := yg.lt; omega
          have hr51 : g ≠ r5 := by have := yg.lt; omega
          clear b5 yg yc yb pr c0 c1 c2
          have kr := Wd.cell (B := w5.heap.size) (w0 := w5) (b := r5) (i := 3) (v := .int .i64 (0)) (cell_blk zr) zr.lt
          obtain ⟨sv, hsv⟩ : ∃ sv, Hid (stOf S (0) (qi (false)) = sv) := ⟨_, Lib.hid rfl⟩
          have Q1 : Hid (∀ x : Wd w5.heap.size w5, Calls Try.prog 20 #[.pointer (some ⟨g, 0, none⟩)] x.1 fun e w' => e = .returned (.int .i64 sv) ∧ Below x.1.heap.size x.1 w') := by
            refine Lib.hid fun x => ?_
            rw [← hsv.out]
            exact lstate_any g S H D (0) (D) (qi (false)) x.1 (Below.blk x.2 zg zg.lt)
          have Q2 : Hid (∀ x : Wd w5.heap.size w5, Calls Try.prog 27 #[.pointer (some ⟨r5, 0, none⟩)] x.1 fun e w' => e = .returned (.int .i64 sv) ∧ Below x.1.heap.size x.1 w') := by
            refine Lib.hid fun x => ?_
            rw [← hsv.out]
            exact (rlstate_any r5 S H D (0) (D) (false) x.1 (Below.blk x.2 zr zr.lt)).mono fun e w' ⟨h1, n, h2⟩ => ⟨h1, by rw [h2]; exact below_drewN0 (Below.refl _ _) _⟩
          have Q3 : Hid (∀ x : Wd w5.heap.size w5, Calls Try.prog 21 #[.pointer (some ⟨g, 0, none⟩)] x.1 fun e w' => e = .returned (.int .i64 (0)) ∧ x.1 = w') := by
            refine Lib.hid fun x => ?_
            exact lstrikes_any g S H D (0) (D) (qi (false)) x.1 (Below.blk x.2 zg zg.lt)
          have n1 : (sv != sv) = false := by simp
          have n2 : ((0) != (0)) = false := by simp
          go_wp2_with fail
          (refine wp_region_calm (Below.refl w5.heap.size w5) (by kernel_rfl) (by kernel_rfl) ?_; (iterate 14 quiet_step (first | (go_at_call 20; exact calm _ (Nat.le_refl _) (Q1.out _)) | (go_at_call 27; exact calm _ (Nat.le_refl _) (Q2.out _)) | (go_at_call 21; exact calm_same _ (Q3.out _)))); refine wpQuiet_nil ?_; intro _ hw'; obtain ⟨⟨w9, hwq⟩, hw''⟩ := hw'; subst hw'')
          go_wp2_with fail
          go_roundw
          case rel => exact ⟨k + 1, r5, (0), (D), (false), by omega, by omega, by go_num, rfl, ⟨Below.blk hwq zg zg.lt, Below.blk hwq zr zr.lt, zc.below hwq, zb.trans (hwq.mono zb.size), by omega, by omega, by omega, by omega, hg0, Below.blk hwq zp (lt_of_block zp), hr50, hr51⟩⟩
          case measure => simp [intOf] <;> omega
        have t3 : (K % 4 == 3) = false := by simpa using hk3
        cases s
        · go_wp2_with fail
          refine (ltick_any g S H D n l _ xg hn0 hn1 hl0 hl1).mono ?_
          rintro e w4 ⟨rfl, yg, k4⟩
          have yr : rl w4 r S H D n l _ := k4.blk xr (by omega)
          have yc := xc.keeps k4 (.inl rfl)
          have yb := Below.keeps xb xb.size (by omega) k4
          have yp := k4.blk xp (by omega)
          clear k4 xg xr xc xb la1 lb1 xp
          go_wp2_with fail
          refine (rltick_any r S H D n l _ yr hn0 hn1 hl0 hl1).mono ?_
          rintro e w5 ⟨rfl, zr, k5⟩
          have zg : ldr w5 g S H D (tkN n l) (tkL D l) (qi false) := k5.blk yg (by omega)
          have zc := yc.keeps k5 (.inr rfl)
          have zb := Below.keeps yb yb.size (by omega) k5
          have zp := k5.blk yp (by omega)
          have hu : 0 ≤ tkN n l ∧ tkN n l ≤ 1000 ∧ 1 ≤ tkL D l ∧ tkL D l ≤ 9223372036854775807 := by
            unfold tkN tkL
            by_cases hl1 : 1 < l
            · simp [hl1]; omega
            · simp [hl1]; omega
          clear k5 yg yr yc yb yp
          generalize tkN n l = u at *
          generalize tkL D l = l' at *
          have kr := Wd.cell (B := w5.heap.size) (w0 := w5) (b := r) (i := 3) (v := .int .i64 (u)) (cell_blk zr) zr.lt
          obtain ⟨sv, hsv⟩ : ∃ sv, Hid (stOf S (u) (qi (false)) = sv) := ⟨_, Lib.hid rfl⟩
          have Q1 : Hid (∀ x : Wd w5.heap.size w5, Calls Try.prog 20 #[.pointer (some ⟨g, 0, none⟩)] x.1 fun e w' => e = .returned (.int .i64 sv) ∧ Below x.1.heap.size x.1 w') := by
            refine Lib.hid fun x => ?_
            rw [← hsv.out]
            exact lstate_any g S H D (u) (l') (qi (false)) x.1 (Below.blk x.2 zg zg.lt)
          have Q2 : Hid (∀ x : Wd w5.heap.size w5, Calls Try.prog 27 #[.pointer (some ⟨r, 0, none⟩)] x.1 fun e w' => e = .returned (.int .i64 sv) ∧ Below x.1.heap.size x.1 w') := by
            refine Lib.hid fun x => ?_
            rw [← hsv.out]
            exact (rlstate_any r S H D (u) (l') (false) x.1 (Below.blk x.2 zr zr.lt)).mono fun e w' ⟨h1, n, h2⟩ => ⟨h1, by rw [h2]; exact below_drewN0 (Below.refl _ _) _⟩
          have Q3 : Hid (∀ x : Wd w5.heap.size w5, Calls Try.prog 21 #[.pointer (some ⟨g, 0, none⟩)] x.1 fun e w' => e = .returned (.int .i64 (u)) ∧ x.1 = w') := by
            refine Lib.hid fun x => ?_
            exact lstrikes_any g S H D (u) (l') (qi (false)) x.1 (Below.blk x.2 zg zg.lt)
          have n1 : (sv != sv) = false := by simp
          have n2 : ((u) != (u)) = false := by simp
          go_wp2_with fail
          (refine wp_region_calm (Below.refl w5.heap.size w5) (by kernel_rfl) (by kernel_rfl) ?_; (iterate 14 quiet_step (first | (go_at_call 20; exact calm _ (Nat.le_refl _) (Q1.out _)) | (go_at_call 27; exact calm _ (Nat.le_refl _) (Q2.out _)) | (go_at_call 21; exact calm_same _ (Q3.out _)))); refine wpQuiet_nil ?_; intro _ hw'; obtain ⟨⟨w9, hwq⟩, hw''⟩ := hw'; subst hw'')
          go_wp2_with fail
          go_roundw
          case rel => exact ⟨k + 1, r, (u), (l'), (false), by omega, by omega, by go_num, rfl, ⟨Below.blk hwq zg zg.lt, Below.blk hwq zr zr.lt, zc.below hwq, zb.trans (hwq.mono zb.size), by omega, by omega, by omega, by omega, hg0, Below.blk hwq zp (lt_of_block zp), hr0, hgr⟩⟩
          case measure => simp [intOf] <;> omega
        · go_wp2_with fail
          refine (ltick_shut g S H D n l _ xg).mono ?_
          rintro e w4 ⟨rfl, b4⟩
          have yg : ldr w4 g S H D n l (qi true) := Below.blk b4 xg xg.lt
          have yr : rl w4 r S H D n l true := Below.blk b4 xr xr.lt
          have yc := xc.below b4
          have yb := xb.trans (b4.mono xb.size)
          have yp := Below.blk b4 xp (lt_of_block xp)
          clear b4 xg xr xc xb la1 lb1 xp
          go_wp2_with (go_at_call 26; refine (rltick_shut r S H D n l _ yr).mono ?_; rintro e w' ⟨rfl, rfl⟩)
          have kr := Wd.cell (B := w4.heap.size) (w0 := w4) (b := r) (i := 3) (v := .int .i64 (n)) (cell_blk yr) yr.lt
          obtain ⟨sv, hsv⟩ : ∃ sv, Hid (stOf S (n) (qi (true)) = sv) := ⟨_, Lib.hid rfl⟩
          have Q1 : Hid (∀ x : Wd w4.heap.size w4, Calls Try.prog 20 #[.pointer (some ⟨g, 0, none⟩)] x.1 fun e w' => e = .returned (.int .i64 sv) ∧ Below x.1.heap.size x.1 w') := by
            refine Lib.hid fun x => ?_
            rw [← hsv.out]
            exact lstate_any g S H D (n) (l) (qi (true)) x.1 (Below.blk x.2 yg yg.lt)
          have Q2 : Hid (∀ x : Wd w4.heap.size w4, Calls Try.prog 27 #[.pointer (some ⟨r, 0, none⟩)] x.1 fun e w' => e = .returned (.int .i64 sv) ∧ Below x.1.heap.size x.1 w') := by
            refine Lib.hid fun x => ?_
            rw [← hsv.out]
            exact (rlstate_any r S H D (n) (l) (true) x.1 (Below.blk x.2 yr yr.lt)).mono fun e w' ⟨h1, n, h2⟩ => ⟨h1, by rw [h2]; exact below_drewN0 (Below.refl _ _) _⟩
          have Q3 : Hid (∀ x : Wd w4.heap.size w4, Calls Try.prog 21 #[.pointer (some ⟨g, 0, none⟩)] x.1 fun e w' => e = .returned (.int .i64 (n)) ∧ x.1 = w') := by
            refine Lib.hid fun x => ?_
            exact lstrikes_any g S H D (n) (l) (qi (true)) x.1 (Below.blk x.2 yg yg.lt)
          have n1 : (sv != sv) = false := by simp
          have n2 : ((n) != (n)) = false := by simp
          go_wp2_with fail
          (refine wp_region_calm (Below.refl w4.heap.size w4) (by kernel_rfl) (by kernel_rfl) ?_; (iterate 14 quiet_step (first | (go_at_call 20; exact calm _ (Nat.le_refl _) (Q1.out _)) | (go_at_call 27; exact calm _ (Nat.le_refl _) (Q2.out _)) | (go_at_call 21; exact calm_same _ (Q3.out _)))); refine wpQuiet_nil ?_; intro _ hw'; obtain ⟨⟨w9, hwq⟩, hw''⟩ := hw'; subst hw'')
          go_wp2_with fail
          go_roundw
          case rel => exact ⟨k + 1, r, (n), (l), (true), by omega, by omega, by go_num, rfl, ⟨Below.blk hwq yg yg.lt, Below.blk hwq yr yr.lt, yc.below hwq, yb.trans (hwq.mono yb.size), by omega, by omega, by omega, by omega, hg0, Below.blk hwq yp (lt_of_block yp), hr0, hgr⟩⟩
          case measure => simp [intOf] <;> omega
      · have t1 : ((k : Int) == cut % 100) = false := by simpa using hcut
        by_cases hk2 : K % 4 = 2
        · have t2 : (K % 4 == 2) = true := by simpa using hk2
          by_cases hN : N < 1
          · go_wp2_with (first | (go_at_call 19; refine (lstrike_no _ N _ hN).mono ?_; rintro e w' ⟨rfl, rfl⟩) | (go_at_call 24; refine (rlstrike_no _ N _ hN).mono ?_; rintro e w' ⟨rfl, rfl⟩))
            have kr := Wd.cell (B := wr.heap.size) (w0 := wr) (b := r) (i := 3) (v := .int .i64 (n)) (cell_blk xr) xr.lt
            obtain ⟨sv, hsv⟩ : ∃ sv, Hid (stOf S (n) (qi (s)) = sv) := ⟨_, Lib.hid rfl⟩
            have Q1 : Hid (∀ x : Wd wr.heap.size wr, Calls Try.prog 20 #[.pointer (some ⟨g, 0, none⟩)] x.1 fun e w' => e = .returned (.int .i64 sv) ∧ Below x.1.heap.size x.1 w') := by
              refine Lib.hid fun x => ?_
              rw [← hsv.out]
              exact lstate_any g S H D (n) (l) (qi (s)) x.1 (Below.blk x.2 xg xg.lt)
            have Q2 : Hid (∀ x : Wd wr.heap.size wr, Calls Try.prog 27 #[.pointer (some ⟨r, 0, none⟩)] x.1 fun e w' => e = .returned (.int .i64 sv) ∧ Below x.1.heap.size x.1 w') := by
              refine Lib.hid fun x => ?_
              rw [← hsv.out]
              exact (rlstate_any r S H D (n) (l) (s) x.1 (Below.blk x.2 xr xr.lt)).mono fun e w' ⟨h1, n, h2⟩ => ⟨h1, by rw [h2]; exact below_drewN0 (Below.refl _ _) _⟩
            have Q3 : Hid (∀ x : Wd wr.heap.size wr, Calls Try.prog 21 #[.pointer (some ⟨g, 0, none⟩)] x.1 fun e w' => e = .returned (.int .i64 (n)) ∧ x.1 = w') := by
              refine Lib.hid fun x => ?_
              exact lstrikes_any g S H D (n) (l) (qi (s)) x.1 (Below.blk x.2 xg xg.lt)
            have n1 : (sv != sv) = false := by simp
            have n2 : ((n) != (n)) = false := by simp
            go_wp2_with fail
            (refine wp_region_calm (Below.refl wr.heap.size wr) (by kernel_rfl) (by kernel_rfl) ?_; (iterate 14 quiet_step (first | (go_at_call 20; exact calm _ (Nat.le_refl _) (Q1.out _)) | (go_at_call 27; exact calm _ (Nat.le_refl _) (Q2.out _)) | (go_at_call 21; exact calm_same _ (Q3.out _)))); refine wpQuiet_nil ?_; intro _ hw'; obtain ⟨⟨w9, hwq⟩, hw''⟩ := hw'; subst hw'')
            go_wp2_with fail
            go_roundw
            case rel => exact ⟨k + 1, r, (n), (l), (s), by omega, by omega, by go_num, rfl, ⟨Below.blk hwq xg xg.lt, Below.blk hwq xr xr.lt, xc.below hwq, xb.trans (hwq.mono xb.size), by omega, by omega, by omega, by omega, hg0, Below.blk hwq xp (lt_of_block xp), hr0, hgr⟩⟩
            case measure => simp [intOf] <;> omega
          · go_wp2_with fail
            refine (lstrike_any g S H D n l (qi s) N _ xg hn0 hn1 (by omega)).mono ?_
            rintro e w4 ⟨rfl, yg', k4⟩
            have yg : ldr w4 g S H D (upS n N) D (qi (decide (H ≤ upS n N) || s)) := by
              cases hd : decide (H ≤ upS n N)
              · rw [hd] at yg'; exact yg'
              · rw [hd] at yg'; exact yg'
            have yr : rl w4 r S H D n l _ := k4.blk xr (by omega)
            have yc := xc.keeps k4 (.inl rfl)
            have yb := Below.keeps xb xb.size (by omega) k4
            have yp := k4.blk xp (by omega)
            have l1c := k4.cell lb1 (by omega)
            clear yg' k4 xg xr xc xb la1 lb1 xp
            go_wp2_with fail
            refine (rlstrike_any r S H D n l N s _ yr hn0 hn1 (by omega) hN2.2).mono ?_
            rintro e w5 ⟨rfl, zr, k5⟩
            have zg : ldr w5 g S H D (upS n N) D (qi (decide (H ≤ upS n N) || s)) := k5.blk yg (by omega)
            have zc := yc.keeps k5 (.inr rfl)
            have zb := Below.keeps yb yb.size (by omega) k5
            have zp := k5.blk yp (by omega)
            have hu : 0 ≤ upS n N ∧ upS n N ≤ 1000 := by unfold upS; omega
            clear k5 yg yr yc yb l1c yp
            generalize upS n N = u at *
            generalize (decide (H ≤ u) || s) = s' at *
            have kr := Wd.cell (B := w5.heap.size) (w0 := w5) (b := r) (i := 3) (v := .int .i64 (u)) (cell_blk zr) zr.lt
            obtain ⟨sv, hsv⟩ : ∃ sv, Hid (stOf S (u) (qi (s')) = sv) := ⟨_, Lib.hid rfl⟩
            have Q1 : Hid (∀ x : Wd w5.heap.size w5, Calls Try.prog 20 #[.pointer (some ⟨g, 0, none⟩)] x.1 fun e w' => e = .returned (.int .i64 sv) ∧ Below x.1.heap.size x.1 w') := by
              refine Lib.hid fun x => ?_
              rw [← hsv.out]
              exact lstate_any g S H D (u) (D) (qi (s')) x.1 (Below.blk x.2 zg zg.lt)
            have Q2 : Hid (∀ x : Wd w5.heap.size w5, Calls Try.prog 27 #[.pointer (some ⟨r, 0, none⟩)] x.1 fun e w' => e = .returned (.int .i64 sv) ∧ Below x.1.heap.size x.1 w') := by
              refine Lib.hid fun x => ?_
              rw [← hsv.out]
              exact (rlstate_any r S H D (u) (D) (s') x.1 (Below.blk x.2 zr zr.lt)).mono fun e w' ⟨h1, n, h2⟩ => ⟨h1, by rw [h2]; exact below_drewN0 (Below.refl _ _) _⟩
            have Q3 : Hid (∀ x : Wd w5.heap.size w5, Calls Try.prog 21 #[.pointer (some ⟨g, 0, none⟩)] x.1 fun e w' => e = .returned (.int .i64 (u)) ∧ x.1 = w') := by
              refine Lib.hid fun x => ?_
              exact lstrikes_any g S H D (u) (D) (qi (s')) x.1 (Below.blk x.2 zg zg.lt)
            have n1 : (sv != sv) = false := by simp
            have n2 : ((u) != (u)) = false := by simp
            go_wp2_with fail
            (refine wp_region_calm (Below.refl w5.heap.size w5) (by kernel_rfl) (by kernel_rfl) ?_; (iterate 14 quiet_step (first | (go_at_call 20; exact calm _ (Nat.le_refl _) (Q1.out _)) | (go_at_call 27; exact calm _ (Nat.le_refl _) (Q2.out _)) | (go_at_call 21; exact calm_same _ (Q3.out _)))); refine wpQuiet_nil ?_; intro _ hw'; obtain ⟨⟨w9, hwq⟩, hw''⟩ := hw'; subst hw'')
            go_wp2_with fail
            go_roundw
            case rel => exact ⟨k + 1, r, (u), (D), (s'), by omega, by omega, by go_num, rfl, ⟨Below.blk hwq zg zg.lt, Below.blk hwq zr zr.lt, zc.below hwq, zb.trans (hwq.mono zb.size), by omega, by omega, by omega, by omega, hg0, Below.blk hwq zp (lt_of_block zp), hr0, hgr⟩⟩
            case measure => simp [intOf] <;> omega
        have t2 : (K % 4 == 2) = false := by simpa using hk2
        by_cases hk3 : K % 4 = 3
        · have t3 : (K % 4 == 3) = true := by simpa using hk3
          go_wp2_with fail
          refine (lreset_any g S H D n l (qi s) _ xg).mono ?_
          rintro e w4 ⟨rfl, yg, k4⟩
          have yc := xc.keeps k4 (.inl rfl)
          have yb := Below.keeps xb xb.size (by omega) k4
          have pr := k4.blk xp (by omega)
          have c0 : w4.cell? ⟨w.heap.size, 0, none⟩ = some (.int .i64 S) := cell_blk pr
          have c1 : w4.cell? ⟨w.heap.size, 1, none⟩ = some (.int .i64 H) := cell_blk pr
          have c2 : w4.cell? ⟨w.heap.size, 2, none⟩ = some (.int .i64 D) := cell_blk pr
          clear k4 xg xr xc xb la1 lb1 xp
          go_wp2_with fail
          refine (rlnew_any S H D _).mono ?_
          rintro e w5 ⟨r5, rfl, q5, zr, b5⟩
          have zg : ldr w5 g S H D 0 D (qi false) := Below.blk b5 yg yg.lt
          have zc := (yc.new q5).below b5
          have zb := yb.trans (b5.mono yb.size)
          have zp := Below.blk b5 pr (lt_of_block pr)
          have hr50 : w.heap.size < r5 := by have := yg.lt; omega
          have hr51 : g ≠ r5 := by have := yg.lt; omega
          clear b5 yg yc yb pr c0 c1 c2
          have kr := Wd.cell (B := w5.heap.size) (w0 := w5) (b := r5) (i := 3) (v := .int .i64 (0)) (cell_blk zr) zr.lt
          obtain ⟨sv, hsv⟩ : ∃ sv, Hid (stOf S (0) (qi (false)) = sv) := ⟨_, Lib.hid rfl⟩
          have Q1 : Hid (∀ x : Wd w5.heap.size w5, Calls Try.prog 20 #[.pointer (some ⟨g, 0, none⟩)] x.1 fun e w' => e = .returned (.int .i64 sv) ∧ Below x.1.heap.size x.1 w') := by
            refine Lib.hid fun x => ?_
            rw [← hsv.out]
            exact lstate_any g S H D (0) (D) (qi (false)) x.1 (Below.blk x.2 zg zg.lt)
          have Q2 : Hid (∀ x : Wd w5.heap.size w5, Calls Try.prog 27 #[.pointer (some ⟨r5, 0, none⟩)] x.1 fun e w' => e = .returned (.int .i64 sv) ∧ Below x.1.heap.size x.1 w') := by
            refine Lib.hid fun x => ?_
            rw [← hsv.out]
            exact (rlstate_any r5 S H D (0) (D) (false) x.1 (Below.blk x.2 zr zr.lt)).mono fun e w' ⟨h1, n, h2⟩ => ⟨h1, by rw [h2]; exact below_drewN0 (Below.refl _ _) _⟩
          have Q3 : Hid (∀ x : Wd w5.heap.size w5, Calls Try.prog 21 #[.pointer (some ⟨g, 0, none⟩)] x.1 fun e w' => e = .returned (.int .i64 (0)) ∧ x.1 = w') := by
            refine Lib.hid fun x => ?_
            exact lstrikes_any g S H D (0) (D) (qi (false)) x.1 (Below.blk x.2 zg zg.lt)
          have n1 : (sv != sv) = false := by simp
          have n2 : ((0) != (0)) = false := by simp
          go_wp2_with fail
          (refine wp_region_calm (Below.refl w5.heap.size w5) (by kernel_rfl) (by kernel_rfl) ?_; (iterate 14 quiet_step (first | (go_at_call 20; exact calm _ (Nat.le_refl _) (Q1.out _)) | (go_at_call 27; exact calm _ (Nat.le_refl _) (Q2.out _)) | (go_at_call 21; exact calm_same _ (Q3.out _)))); refine wpQuiet_nil ?_; intro _ hw'; obtain ⟨⟨w9, hwq⟩, hw''⟩ := hw'; subst hw'')
          go_wp2_with fail
          go_roundw
          case rel => exact ⟨k + 1, r5, (0), (D), (false), by omega, by omega, by go_num, rfl, ⟨Below.blk hwq zg zg.lt, Below.blk hwq zr zr.lt, zc.below hwq, zb.trans (hwq.mono zb.size), by omega, by omega, by omega, by omega, hg0, Below.blk hwq zp (lt_of_block zp), hr50, hr51⟩⟩
          case measure => simp [intOf] <;> omega
        have t3 : (K % 4 == 3) = false := by simpa using hk3
        cases s
        · go_wp2_with fail
          refine (ltick_any g S H D n l _ xg hn0 hn1 hl0 hl1).mono ?_
          rintro e w4 ⟨rfl, yg, k4⟩
          have yr : rl w4 r S H D n l _ := k4.blk xr (by omega)
          have yc := xc.keeps k4 (.inl rfl)
          have yb := Below.keeps xb xb.size (by omega) k4
          have yp := k4.blk xp (by omega)
          clear k4 xg xr xc xb la1 lb1 xp
          go_wp2_with fail
          refine (rltick_any r S H D n l _ yr hn0 hn1 hl0 hl1).mono ?_
          rintro e w5 ⟨rfl, zr, k5⟩
          have zg : ldr w5 g S H D (tkN n l) (tkL D l) (qi false) := k5.blk yg (by omega)
          have zc := yc.keeps k5 (.inr rfl)
          have zb := Below.keeps yb yb.size (by omega) k5
          have zp := k5.blk yp (by omega)
          have hu : 0 ≤ tkN n l ∧ tkN n l ≤ 1000 ∧ 1 ≤ tkL D l ∧ tkL D l ≤ 9223372036854775807 := by
            unfold tkN tkL
            by_cases hl1 : 1 < l
            · simp [hl1]; omega
            · simp [hl1]; omega
          clear k5 yg yr yc yb yp
          generalize tkN n l = u at *
          generalize tkL D l = l' at *
          have kr := Wd.cell (B := w5.heap.size) (w0 := w5) (b := r) (i := 3) (v := .int .i64 (u)) (cell_blk zr) zr.lt
          obtain ⟨sv, hsv⟩ : ∃ sv, Hid (stOf S (u) (qi (false)) = sv) := ⟨_, Lib.hid rfl⟩
          have Q1 : Hid (∀ x : Wd w5.heap.size w5, Calls Try.prog 20 #[.pointer (some ⟨g, 0, none⟩)] x.1 fun e w' => e = .returned (.int .i64 sv) ∧ Below x.1.heap.size x.1 w') := by
            refine Lib.hid fun x => ?_
            rw [← hsv.out]
            exact lstate_any g S H D (u) (l') (qi (false)) x.1 (Below.blk x.2 zg zg.lt)
          have Q2 : Hid (∀ x : Wd w5.heap.size w5, Calls Try.prog 27 #[.pointer (some ⟨r, 0, none⟩)] x.1 fun e w' => e = .returned (.int .i64 sv) ∧ Below x.1.heap.size x.1 w') := by
            refine Lib.hid fun x => ?_
            rw [← hsv.out]
            exact (rlstate_any r S H D (u) (l') (false) x.1 (Below.blk x.2 zr zr.lt)).mono fun e w' ⟨h1, n, h2⟩ => ⟨h1, by rw [h2]; exact below_drewN0 (Below.refl _ _) _⟩
          have Q3 : Hid (∀ x : Wd w5.heap.size w5, Calls Try.prog 21 #[.pointer (some ⟨g, 0, none⟩)] x.1 fun e w' => e = .returned (.int .i64 (u)) ∧ x.1 = w') := by
            refine Lib.hid fun x => ?_
            exact lstrikes_any g S H D (u) (l') (qi (false)) x.1 (Below.blk x.2 zg zg.lt)
          have n1 : (sv != sv) = false := by simp
          have n2 : ((u) != (u)) = false := by simp
          go_wp2_with fail
          (refine wp_region_calm (Below.refl w5.heap.size w5) (by kernel_rfl) (by kernel_rfl) ?_; (iterate 14 quiet_step (first | (go_at_call 20; exact calm _ (Nat.le_refl _) (Q1.out _)) | (go_at_call 27; exact calm _ (Nat.le_refl _) (Q2.out _)) | (go_at_call 21; exact calm_same _ (Q3.out _)))); refine wpQuiet_nil ?_; intro _ hw'; obtain ⟨⟨w9, hwq⟩, hw''⟩ := hw'; subst hw'')
          go_wp2_with fail
          go_roundw
          case rel => exact ⟨k + 1, r, (u), (l'), (false), by omega, by omega, by go_num, rfl, ⟨Below.blk hwq zg zg.lt, Below.blk hwq zr zr.lt, zc.below hwq, zb.trans (hwq.mono zb.size), by omega, by omega, by omega, by omega, hg0, Below.blk hwq zp (lt_of_block zp), hr0, hgr⟩⟩
          case measure => simp [intOf] <;> omega
        · go_wp2_with fail
          refine (ltick_shut g S H D n l _ xg).mono ?_
          rintro e w4 ⟨rfl, b4⟩
          have yg : ldr w4 g S H D n l (qi true) := Below.blk b4 xg xg.lt
          have yr : rl w4 r S H D n l true := Below.blk b4 xr xr.lt
          have yc := xc.below b4
          have yb := xb.trans (b4.mono xb.size)
          have yp := Below.blk b4 xp (lt_of_block xp)
          clear b4 xg xr xc xb la1 lb1 xp
          go_wp2_with (go_at_call 26; refine (rltick_shut r S H D n l _ yr).mono ?_; rintro e w' ⟨rfl, rfl⟩)
          have kr := Wd.cell (B := w4.heap.size) (w0 := w4) (b := r) (i := 3) (v := .int .i64 (n)) (cell_blk yr) yr.lt
          obtain ⟨sv, hsv⟩ : ∃ sv, Hid (stOf S (n) (qi (true)) = sv) := ⟨_, Lib.hid rfl⟩
          have Q1 : Hid (∀ x : Wd w4.heap.size w4, Calls Try.prog 20 #[.pointer (some ⟨g, 0, none⟩)] x.1 fun e w' => e = .returned (.int .i64 sv) ∧ Below x.1.heap.size x.1 w') := by
            refine Lib.hid fun x => ?_
            rw [← hsv.out]
            exact lstate_any g S H D (n) (l) (qi (true)) x.1 (Below.blk x.2 yg yg.lt)
          have Q2 : Hid (∀ x : Wd w4.heap.size w4, Calls Try.prog 27 #[.pointer (some ⟨r, 0, none⟩)] x.1 fun e w' => e = .returned (.int .i64 sv) ∧ Below x.1.heap.size x.1 w') := by
            refine Lib.hid fun x => ?_
            rw [← hsv.out]
            exact (rlstate_any r S H D (n) (l) (true) x.1 (Below.blk x.2 yr yr.lt)).mono fun e w' ⟨h1, n, h2⟩ => ⟨h1, by rw [h2]; exact below_drewN0 (Below.refl _ _) _⟩
          have Q3 : Hid (∀ x : Wd w4.heap.size w4, Calls Try.prog 21 #[.pointer (some ⟨g, 0, none⟩)] x.1 fun e w' => e = .returned (.int .i64 (n)) ∧ x.1 = w') := by
            refine Lib.hid fun x => ?_
            exact lstrikes_any g S H D (n) (l) (qi (true)) x.1 (Below.blk x.2 yg yg.lt)
          have n1 : (sv != sv) = false := by simp
          have n2 : ((n) != (n)) = false := by simp
          go_wp2_with fail
          (refine wp_region_calm (Below.refl w4.heap.size w4) (by kernel_rfl) (by kernel_rfl) ?_; (iterate 14 quiet_step (first | (go_at_call 20; exact calm _ (Nat.le_refl _) (Q1.out _)) | (go_at_call 27; exact calm _ (Nat.le_refl _) (Q2.out _)) | (go_at_call 21; exact calm_same _ (Q3.out _)))); refine wpQuiet_nil ?_; intro _ hw'; obtain ⟨⟨w9, hwq⟩, hw''⟩ := hw'; subst hw'')
          go_wp2_with fail
          go_roundw
          case rel => exact ⟨k + 1, r, (n), (l), (true), by omega, by omega, by go_num, rfl, ⟨Below.blk hwq yg yg.lt, Below.blk hwq yr yr.lt, yc.below hwq, yb.trans (hwq.mono yb.size), by omega, by omega, by omega, by omega, hg0, Below.blk hwq yp (lt_of_block yp), hr0, hgr⟩⟩
          case measure => simp [intOf] <;> omega
    · rcases xc with ⟨rfl, rfl⟩ | ⟨cc, S', H', D', n', l', q', rfl, rfl, hcp, _, _⟩
      · go_wp2_with fail
        all_goals
          go_ret
          exact ⟨rfl, xb⟩
      · have n2 : (n' == n') = true := by simp
        go_wp2_with (go_at_call 21; refine (lstrikes_any _ _ _ _ _ _ _ _ hcp).mono ?_; rintro e w' ⟨rfl, rfl⟩)
        all_goals
          go_ret
          exact ⟨rfl, xb⟩
end Go.Proofs.Ytkemkplmhjmahaa
