/-
  The walk of RewritePlays.
-/
import Derived.Test.YtkdjkaimcciemaaRewPlaysA
import Derived.Deep.QuietTactic
import Derived.BigQuiet
import Derived.Deep.RegionHeld3
namespace Go.Proofs.Ytkdjkaimcciemaa
open Go.RowKit
set_option linter.unusedVariables false
set_option linter.unusedSimpArgs false

set_option maxRecDepth 100000 in
set_option maxHeartbeats 16000000 in
theorem RewritePlays.walk (first : Int) (v1 : Value) (w : World) (w0 : (Lit.int .i64 first).wf = true) (r1 : Reads Try.prog w 6 75 v1) :
    Calls Try.prog 10 #[.int .i64 first, v1] w fun e w' => e = .returned (.bool true) ∧ Below w.heap.size w w' := by
  obtain ⟨a, len, cap, b, off, M, X, Y, Z, rfl, ha, hl, hm, hc, hX⟩ := rwops_of r1
  have hf := bounds_i64 w0
  have HA := Lib.hid ha
  have HC := Lib.hid hc
  have HX := Lib.hid hX
  clear ha hc hX w0 r1
  go_enter Try.func10, Try.ntmps10
  go_wp2_with fail
  refine (alive22_any _).mono ?_
  rintro e w1 ⟨rfl, hb1⟩
  have B1 : Below w.heap.size w w1 := hb1
  clear hb1
  by_cases h0 : 46116860184273879 < first
  · have e0 : decide (46116860184273879 < first) = true := by simpa using h0
    go_wp2_with fail
    go_ret
    exact ⟨rfl, B1⟩
  have e0 : decide (46116860184273879 < first) = false := by simpa using h0
  have bx := boxes2 w1 (.cells #[.int .i64 0, .bool false, .int .i64 0, .int .u32 0, .int .u16 0, .int .i64 0, .int .u32 0, .int .u16 0, .bool false, .int .i64 0, .int .u32 0, .int .u16 0] 70) (.cells #[.int .i64 0, .bool false, .int .i64 0, .int .u32 0, .int .u16 0, .int .i64 0, .int .u32 0, .int .u16 0, .slice none 0 0] 79)
  go_wp2_with fail
  refine (start_zero _ 0 first _ (show wrt _ w1.heap.size 0 false 0 0 0 0 0 0 false 0 0 0 from bx.1)).mono ?_
  rintro e w2 ⟨rfl, g2, k2⟩
  have r2 : rwr w2 (w1.heap.size + 1) 0 false 0 0 0 0 0 0 (.slice none 0 0) := k2.blk bx.2 (by omega)
  have B2 : Below w.heap.size w w2 := Below.keeps ((B1.alloc B1.size _).alloc (by have := B1.size; simp; omega) _) (by have := B1.size; simp; omega) B1.size k2
  obtain ⟨g, hg⟩ : ∃ g, g = w1.heap.size := ⟨_, rfl⟩
  have q0 := B1.size
  rw [← hg] at g2 r2 q0
  rw [← hg]
  obtain ⟨r, hr⟩ : ∃ r, r = g + 1 := ⟨_, rfl⟩
  rw [← hr] at r2
  rw [← hr]
  have hgr : g ≠ r := by omega
  have hrg : r ≠ g := by omega
  have hwr : w.heap.size ≤ r := by omega
  clear hr hg bx k2 B1
  have hfs : first < 0 ∨ 0 ≤ first := by omega
  rcases hfs with hf0 | hf0
  all_goals
    first
      | (have e1 : decide (0 ≤ first) = false := by (simp; omega)
         rw [e1] at g2
         go_wp2_with fail
         obtain ⟨f, hff, g3, r3, B3⟩ : ∃ f : Int, (0 ≤ f ∧ f ≤ 46116860184273879) ∧ wrt w2 g f false 0 0 0 0 0 0 false 0 0 0 ∧ rwr w2 r f false 0 0 0 0 0 0 (.slice none 0 0) ∧ Below w.heap.size w w2 := ⟨0, by omega, g2, r2, B2⟩)
      | (have e1 : decide (0 ≤ first) = true := by (simp; omega)
         rw [e1] at g2
         have j0 : w2.frozen? ⟨r, 0, none⟩ = false := r2.set 0
         have i0 : w2.cell? ⟨r, 0, none⟩ = some (.int .i64 0) := cell_blk r2
         go_wp2_with fail
         obtain ⟨f, hff, g3, r3, B3⟩ : ∃ f : Int, (0 ≤ f ∧ f ≤ 46116860184273879) ∧ wrt (w2.setCell ⟨r, 0, none⟩ (.int .i64 first)) g f false 0 0 0 0 0 0 false 0 0 0 ∧ rwr (w2.setCell ⟨r, 0, none⟩ (.int .i64 first)) r f false 0 0 0 0 0 0 (.slice none 0 0) ∧ Below w.heap.size w (w2.setCell ⟨r, 0, none⟩ (.int .i64 first)) := ⟨first, by omega, ((Keeps.refl r w2).setCell (.inl rfl) _).blk g2 hgr, by unfold rwr at r2 ⊢; simp [heap_set, r2, putIn], below_set B2 hwr _⟩
         clear j0 i0)
    clear g2 r2 B2 e1 hf0
    go_loopw [7] (fun si wr => ∃ (k : Nat) (fo : Bool) (a1 a2 a3 b1 b2 b3 : Int) (o : Bool) (c1 c2 c3 : Int) (v : Value) (n : Nat) (O : Nat → Int × Int × Int), k ≤ len ∧ si = .int .i64 k ∧ Hid (RP w wr g r k f fo a1 a2 a3 b1 b2 b3 o c1 c2 c3 v n O)) (fun si _ => len - (intOf si).toNat)
    case atStart => exact ⟨0, false, 0, 0, 0, 0, 0, 0, false, 0, 0, 0, .slice none 0 0, 0, fun _ => (0, 0, 0), by omega, rfl, Lib.hid ⟨g3, r3, ⟨⟨rfl, .inl ⟨rfl, rfl⟩⟩, fun q hq => by cases hq⟩, .inl ⟨rfl, rfl⟩, B3, ⟨hff, by omega, by omega, by omega, by omega, by omega, by omega, by omega⟩, Nat.le_refl _, fun _ => rfl⟩⟩
    case round =>
      clear g3 r3 B3
      obtain ⟨k, fo, a1, a2, a3, b1, b2, b3, o, c1, c2, c3, v, n, O, hk, rfl, R⟩ := hrel
      have xb := R.out.b
      by_cases hlt : k < len ∧ k < 40
      · obtain ⟨hlt1, hlt2⟩ := hlt
        obtain ⟨rfl, hbs⟩ := HA.out (by omega)
        obtain ⟨m0, m1, m2, m3⟩ := HC.out k (by omega)
        obtain ⟨bx, by_, bz⟩ := HX.out k (by omega)
        have l0 := Below.cell' xb hbs m0
        have l1 := Below.cell' xb hbs m1
        have l2 := Below.cell' xb hbs m2
        have l3 := Below.cell' xb hbs m3
        clear m0 m1 m2 m3
        generalize M k = mp at *
        generalize X k = x1 at *
        generalize Y k = x2 at *
        generalize Z k = x3 at *
        by_cases hx : 46116860184273879 < x1
        · have e2 : decide (46116860184273879 < x1) = true := by simpa using hx
          go_wp2_with fail
          go_ret
          exact ⟨rfl, xb.alloc xb.size _⟩
        have e2 : decide (46116860184273879 < x1) = false := by simpa using hx
        have hbw : b < wr.heap.size := Nat.lt_of_lt_of_le hbs xb.size
        have hbn : b ≠ wr.heap.size := by omega
        cases mp
        · obtain ⟨er, fo', p1, p2, p3, q1, q2, q3, hPI, hz', CP, CR⟩ := follow_all w.heap.size g r f fo a1 a2 a3 b1 b2 b3 o c1 c2 c3 n O x1 x2 x3 k R.out.i R.out.l R.out.z R.out.m hlt2 (by omega) bz
          have HCP := Lib.hid CP
          have HCR := Lib.hid CR
          have HPI := Lib.hid hPI
          have HZ' := Lib.hid hz'
          clear CP CR hPI hz'
          have t0 : (er != er) = false := by simp
          have hPg : g < wr.heap.size := R.out.x.lt
          have hPr : r < wr.heap.size := R.out.y.lt
          have HL := Lib.hid R.out.l
          have hnk := R.out.m
          go_wp2_with fail
          generalize hV : wr.alloc _ = V
          have gV : wrt V g f fo a1 a2 a3 b1 b2 b3 o c1 c2 c3 := by rw [← hV]; exact wrt_alloc R.out.x _
          have rV : rwr V r f fo a1 a2 a3 b1 b2 b3 v := by rw [← hV]; exact rwr_alloc R.out.y _
          have sV : outs V w.heap.size g r v n O := by rw [← hV]; exact R.out.s.below ((Below.refl _ _).alloc (Nat.le_refl _) _)
          have bV : Below w.heap.size w V := by rw [← hV]; exact xb.alloc xb.size _
          have pV : V.heap[wr.heap.size]? = some (.cells #[.int .i64 x1, .int .u32 x2, .int .u16 x3] 68 (0, 0)) := by rw [← hV]; exact alloc_blk_new
          clear hV R xb l0 l1 l2 l3
          generalize wr.heap.size = P at *
          have k0 : V.cell? ⟨P, 0, none⟩ = some (.int .i64 x1) := cell_blk pV
          have k1 : V.cell? ⟨P, 1, none⟩ = some (.int .u32 x2) := cell_blk pV
          have k2 : V.cell? ⟨P, 2, none⟩ = some (.int .u16 x3) := cell_blk pV
          have hPgn : P ≠ g := by omega
          have hPrn : P ≠ r := by omega
          clear pV
          go_region_held3 (fun W => W.cell? ⟨P, 0, none⟩ = some (.int .i64 x1) ∧ W.cell? ⟨P, 1, none⟩ = some (.int .u32 x2) ∧ W.cell? ⟨P, 2, none⟩ = some (.int .u16 x3)) (first | go_keep | exact hk3 | exact hk4)
            (first | (go_at_call 38; refine (HCP.out V.drew gV).mono ?_; rintro e w3 ⟨rfl, g3, k3⟩; have r3 := k3.blk (w := V.drew) rV hrg; have s3 := outs.keepsG (w := V.drew) ⟨sV.own, sV.ne⟩ k3; have hk3 := And.intro (k3.cell (w := V.drew) k0 hPgn) (And.intro (k3.cell (w := V.drew) k1 hPgn) (k3.cell (w := V.drew) k2 hPgn))) | (go_at_call 42; refine (HCR.out w3 v r3 s3).mono ?_; rintro e w4 ⟨rfl, r4, k4⟩; have hk4 := And.intro (k4.cell hk3.1 hPrn) (And.intro (k4.cell hk3.2.1 hPrn) (k4.cell hk3.2.2 hPrn))))
          have b3 : Below w.heap.size w w3 := Below.keeps bV.drew bV.size (by omega) k3
          have R5 : Hid (RP w w4 g r (k + 1) f fo' p1 p2 p3 q1 q2 q3 o c1 c2 c3 v n O) := Lib.hid ⟨k4.blk g3 hgr, r4, s3.keepsR k4, HL.out, Below.keeps b3 b3.size hwr k4, HPI.out, by omega, HZ'.out⟩
          clear g3 r3 s3 r4 k3 k4 hk3 hk4 b3 gV rV sV bV k0 k1 k2 HCP HCR HPI HZ' HL
          generalize w4 = W5 at *
          have HP := Lib.hid (rhigh_any g f fo' p1 p2 p3 q1 q2 q3 o c1 c2 c3 _ R5.out.x)
          have HR := Lib.hid (rrhigh_any w.heap.size g r f fo' p1 p2 p3 q1 q2 q3 v n O o c1 c2 c3 _ R5.out.y R5.out.s (by have := R5.out.m; omega) R5.out.l)
          obtain ⟨hi, HH⟩ : ∃ hi : Int, Hid ((bif o then c1 else -1) = hi) := ⟨_, Lib.hid rfl⟩
          rw [HH.out] at HP HR
          clear HH
          have n1 : (hi != hi) = false := by simp
          have c8 : W5.cell? ⟨r, 8, none⟩ = some v := cell_blk R5.out.y
          have i1 : W5.cell? ⟨r, 1, none⟩ = some (.bool fo') := cell_blk R5.out.y
          obtain ⟨av, cv, hv⟩ := R5.out.s.len
          go_wp2_with fail
          refine HP.out.mono ?_
          rintro e w6 ⟨rfl, rfl⟩
          go_wp2_with fail
          refine HR.out.mono ?_
          rintro e w7 ⟨rfl, m, rfl⟩
          clear HP HR
          rw [hv] at c8
          cases hF : fo'
          · have hn0 := R5.out.z hF
            rw [hF] at i1
            rw [hn0] at c8
            go_wp2_with fail
            go_roundw
            case rel => exact ⟨k + 1, _, _, _, _, _, _, _, _, _, _, _, _, _, _, by omega, by go_num, Lib.hid (R5.out.drewN _)⟩
            case measure => simp [intOf] <;> omega
          · rw [hF] at i1
            have HS : Hid (∀ m, Calls Try.prog 40 #[.pointer (some ⟨g, 0, none⟩), .int .i64 5] (W5.drewN m) fun e w' => e = .returned (.tuple #[]) ∧ ∃ m', w' = (W5.drewN m).drewN m') := Lib.hid fun m => start_not g f 5 p1 p2 p3 q1 q2 q3 o c1 c2 c3 _ (by have := (R5.out.drewN m).x; rw [hF] at this; exact this) (by omega)
            by_cases hn : 0 < n
            · have t1 : decide ((0 : Int) < (n : Int)) = true := by simpa using hn
              go_wp2_with fail
              refine (HS.out _).mono ?_
              rintro e w8 ⟨rfl, m', rfl⟩
              go_wp2_with fail
              go_roundw
              case rel => exact ⟨k + 1, _, _, _, _, _, _, _, _, _, _, _, _, _, _, by omega, by go_num, Lib.hid (R5.out.drewN _)⟩
              case measure => simp [intOf] <;> omega
            · have t1 : decide ((0 : Int) < (n : Int)) = false := by simpa using hn
              go_wp2_with fail
              refine (HS.out _).mono ?_
              rintro e w8 ⟨rfl, m', rfl⟩
              go_wp2_with fail
              go_roundw
              case rel => exact ⟨k + 1, _, _, _, _, _, _, _, _, _, _, _, _, _, _, by omega, by go_num, Lib.hid (R5.out.drewN _)⟩
              case measure => simp [intOf] <;> omega
        · obtain ⟨z1, z2, z3, er, o', d1, d2, d3, n', O', hPI, hL, hn', hz', CP, CR⟩ := map_all w.heap.size g r f fo a1 a2 a3 b1 b2 b3 o c1 c2 c3 n O x1 x2 x3 k R.out.i R.out.l R.out.z R.out.m hlt2 (by omega) bz
          have HCP := Lib.hid CP
          have HCR := Lib.hid CR
          have HPI := Lib.hid hPI
          have HL := Lib.hid hL
          have HZ' := Lib.hid hz'
          clear CP CR hPI hL hz'
          have t0 : (er != er) = false := by simp
          have hPg : g < wr.heap.size := R.out.x.lt
          have hPr : r < wr.heap.size := R.out.y.lt
          go_wp2_with fail
          refine (HCP.out _ (wrt_alloc R.out.x _)).mono ?_
          rintro e w3 ⟨rfl, g3, k3⟩
          have r3 : rwr w3 r f fo a1 a2 a3 b1 b2 b3 v := k3.blk (rwr_alloc R.out.y _) hrg
          have s3 : outs w3 w.heap.size g r v n O := (R.out.s.below ((Below.refl _ _).alloc (Nat.le_refl _) _)).keepsG k3
          have bw3 : Below w.heap.size w w3 := Below.keeps (xb.alloc xb.size _) (xb.alloc xb.size _).size q0 k3
          have P3 : w3.heap[wr.heap.size]? = some (.cells #[.int .i64 x1, .int .u32 x2, .int .u16 x3] 68 (0, 0)) := k3.blk alloc_blk_new (by omega)
          clear k3 R xb l0 l1 l2 l3
          generalize wr.heap.size = P at *
          have hP3 : P < w3.heap.size := lt_of_block P3
          have hg3 : g < w3.heap.size := g3.lt
          have hr3 : r < w3.heap.size := r3.lt
          have k0 : w3.cell? ⟨P, 0, none⟩ = some (.int .i64 x1) := cell_blk P3
          have k1 : w3.cell? ⟨P, 1, none⟩ = some (.int .u32 x2) := cell_blk P3
          have k2 : w3.cell? ⟨P, 2, none⟩ = some (.int .u16 x3) := cell_blk P3
          clear P3
          unfold mapped
          go_wp2_with fail
          refine (HCR.out _ v (rwr_alloc r3 _) (s3.below ((Below.refl _ _).alloc (Nat.le_refl _) _)) ((bw3.alloc bw3.size _).size) (by simp; omega)).mono ?_
          rintro e w4 ⟨rfl, v', r4, s4, hf4, z4, o4, t4, u4⟩
          have A4 := (hf4 w3.heap.size (by simp) (by omega) (s3.far _ (.inr (.inr (Nat.le_refl _))))).trans alloc_blk_new
          have g4 : wrt w4 g f fo a1 a2 a3 b1 b2 b3 o' d1 d2 d3 := (hf4 g (by simp; omega) hgr (s3.far g (.inr (.inl rfl)))).trans (wrt_alloc g3 _)
          have b4 : Below w.heap.size w w4 := ⟨o4.trans bw3.os, t4.trans bw3.tape, u4.trans bw3.output, by have := bw3.size; simp at z4; omega, fun q hq => (hf4 q (by have := bw3.size; simp; omega) (by omega) (s3.far q (.inl hq))).trans ((alloc_blk_old (by have := bw3.size; omega)).trans (bw3.block q hq))⟩
          have R4 : Hid (RP w w4 g r (k + 1) f fo a1 a2 a3 b1 b2 b3 o' d1 d2 d3 v' n' O') := Lib.hid ⟨g4, r4, s4, HL.out, b4, HPI.out, hn', HZ'.out⟩
          clear r4 s4 hf4 z4 o4 t4 u4 g4 b4 r3 s3 g3 bw3 HCP HCR HL HPI HZ' k0 k1 k2 hP3 hg3 hr3
          generalize w3.heap.size = A at *
          have hA4 : A < w4.heap.size := lt_of_block A4
          have k0 : w4.cell? ⟨A, 0, none⟩ = some (.int .i64 z1) := cell_blk A4
          have k1 : w4.cell? ⟨A, 1, none⟩ = some (.int .u32 z2) := cell_blk A4
          have k2 : w4.cell? ⟨A, 2, none⟩ = some (.int .u16 z3) := cell_blk A4
          clear A4
          unfold mapped
          go_wp2_with fail
          generalize hW5 : w4.alloc _ = W5
          have R5 : Hid (RP w W5 g r (k + 1) f fo a1 a2 a3 b1 b2 b3 o' d1 d2 d3 v' n' O') := Lib.hid (by rw [← hW5]; exact R4.out.alloc _)
          clear hW5 R4 k0 k1 k2 hA4
          have HP := Lib.hid (rhigh_any g f fo a1 a2 a3 b1 b2 b3 o' d1 d2 d3 _ R5.out.x)
          have HR := Lib.hid (rrhigh_any w.heap.size g r f fo a1 a2 a3 b1 b2 b3 v' n' O' o' d1 d2 d3 _ R5.out.y R5.out.s (by have := R5.out.m; omega) R5.out.l)
          obtain ⟨hi, HH⟩ : ∃ hi : Int, Hid ((bif o' then d1 else -1) = hi) := ⟨_, Lib.hid rfl⟩
          rw [HH.out] at HP HR
          clear HH
          have n1 : (hi != hi) = false := by simp
          have c8 : W5.cell? ⟨r, 8, none⟩ = some v' := cell_blk R5.out.y
          have i1 : W5.cell? ⟨r, 1, none⟩ = some (.bool fo) := cell_blk R5.out.y
          obtain ⟨av, cv, hv⟩ := R5.out.s.len
          go_wp2_with fail
          refine HP.out.mono ?_
          rintro e w6 ⟨rfl, rfl⟩
          go_wp2_with fail
          refine HR.out.mono ?_
          rintro e w7 ⟨rfl, m, rfl⟩
          clear HP HR
          rw [hv] at c8
          cases hF : fo
          · have hn0 := R5.out.z hF
            rw [hF] at i1
            rw [hn0] at c8
            go_wp2_with fail
            go_roundw
            case rel => exact ⟨k + 1, _, _, _, _, _, _, _, _, _, _, _, _, _, _, by omega, by go_num, Lib.hid (R5.out.drewN _)⟩
            case measure => simp [intOf] <;> omega
          · rw [hF] at i1
            have HS : Hid (∀ m, Calls Try.prog 40 #[.pointer (some ⟨g, 0, none⟩), .int .i64 5] (W5.drewN m) fun e w' => e = .returned (.tuple #[]) ∧ ∃ m', w' = (W5.drewN m).drewN m') := Lib.hid fun m => start_not g f 5 a1 a2 a3 b1 b2 b3 o' d1 d2 d3 _ (by have := (R5.out.drewN m).x; rw [hF] at this; exact this) (by omega)
            by_cases hn : 0 < n'
            · have t1 : decide ((0 : Int) < (n' : Int)) = true := by simpa using hn
              go_wp2_with fail
              refine (HS.out _).mono ?_
              rintro e w8 ⟨rfl, m', rfl⟩
              go_wp2_with fail
              go_roundw
              case rel => exact ⟨k + 1, _, _, _, _, _, _, _, _, _, _, _, _, _, _, by omega, by go_num, Lib.hid (R5.out.drewN _)⟩
              case measure => simp [intOf] <;> omega
            · have t1 : decide ((0 : Int) < (n' : Int)) = false := by simpa using hn
              go_wp2_with fail
              refine (HS.out _).mono ?_
              rintro e w8 ⟨rfl, m', rfl⟩
              go_wp2_with fail
              go_roundw
              case rel => exact ⟨k + 1, _, _, _, _, _, _, _, _, _, _, _, _, _, _, by omega, by go_num, Lib.hid (R5.out.drewN _)⟩
              case measure => simp [intOf] <;> omega
      · clear R
        go_wp2_with fail
        all_goals
          go_ret
          exact ⟨rfl, xb⟩
end Go.Proofs.Ytkdjkaimcciemaa
