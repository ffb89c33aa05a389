/-
  Chapter 45: the reference reads a file.
-/
import Derived.Test.YtdmbdageohjodaaCpF
namespace Go.Proofs.Ytdmbdageohjodaa
open Go.RowKit
set_option linter.unusedVariables false
set_option linter.unusedSimpArgs false
attribute [local irreducible] wpStill wpQuiet MixC.wpMix MixC.wpPick
attribute [local go_sem] MixC.rdOp MixC.rd MixC.rdUpon MixC.mvUpon

def hdB (Z : Nat → Int) : Bool := (strOf Z 6).toList == (strOf (gz begL) 6).toList
def hdS (Z : Nat → Int) : Prop := hdB Z = true
def ReadPost (Z : Nat → Int) (n : Nat) (w : World) (e : Ending) (w' : World) : Prop :=
  ∃ a K c R, ∃ E : Int, e = .returned (.tuple #[.slice a K c, .int .i64 E]) ∧ Below w.heap.size w w' ∧ RList R K w.heap.size (.slice a K c) w' ∧
    ((n < 6 ∧ K = 0 ∧ E = 2) ∨ (6 ≤ n ∧ ¬ hdS Z ∧ K = 0 ∧ E = 3) ∨ (6 ≤ n ∧ hdS Z ∧ StopP Z n 6 K E ∧ ∀ i, i < K → IsRc Z (posP Z 6 i) (R i)))
/-- what a round of a reader's loop knows -/
structure RdSt (Z : Nat → Int) (n k p : Nat) (R : Nat → Rcd) (v : Value) (w wr : World) : Prop where
  bl : Below w.heap.size w wr
  row : RList R k w.heap.size v wr
  at' : posP Z 6 k = p
  okk : ∀ i, i < k → posP Z 6 i < n ∧ errP Z n (posP Z 6 i) = 0
  is : ∀ i, i < k → IsRc Z (posP Z 6 i) (R i)
theorem RList.sl {R : Nat → Rcd} {k base : Nat} {v : Value} {w : World} (h : RList R k base v w) : ∃ a c, v = .slice a k c := own_len h.row
set_option maxRecDepth 100000 in
set_option maxHeartbeats 4000000 in
theorem rread_any (B : Nat) (a : Option Addr) (n c : Nat) (Z : Nat → Int) (w : World) (hb : BS B w a n c Z) (hB : B ≤ w.heap.size) (hn : n ≤ 80000) :
    Calls Try.prog 33 #[.slice a n c] w (ReadPost Z n w) := by
  have HB := Lib.hid hb
  have hle := hb.le
  have hmx := hb.max
  clear hb
  by_cases h6 : n < 6
  · have d1 : decide ((n : Int) < 6) = true := by simp; omega
    go_enter Try.func33, Try.ntmps33
    go_wp2_with fail
    go_ret2
    exact ⟨none, 0, 0, fun _ => default, 2, rfl, Below.refl _ _, RList.nil _ _ _, .inl ⟨h6, rfl, rfl⟩⟩
  · have d1 : decide ((n : Int) < 6) = false := by simp; omega
    obtain ⟨b0, o0, hp0, hc0⟩ := HB.out.mem
    obtain ⟨rfl, hb0⟩ := hp0 (by omega)
    have q1 : (6 : Int) ≤ c := by omega
    clear hp0 hc0
    go_enter Try.func33, Try.ntmps33
    go_upto_region 3 with (fail)
    go_cut [17] (fun s17 wx => (s17 = .bool (!hdB Z)) ∧ Hid (Below w.heap.size w wx))
    case first =>
      have hne : Nonempty { w' : World // Below w.heap.size w w' } := ⟨⟨_, Below.refl _ _⟩⟩
      have D0 : Hid (Below w.heap.size w w.drew) := Lib.hid (Below.refl _ _).drew
      have v2 : ∀ z : { w' : World // Below w.heap.size w w' }, (convert 56 9 (.slice (some ⟨b0, o0, none⟩) 6 c)).run Try.prog z.1 = .ok (.string (strOf Z 6)) z.1 := fun z => run_conv_BS ((HB.out.keep (z.2.mono hB)).cut (k := 6) (m := c) (by omega) (by omega) (Nat.le_refl _)) Try.underlying56 Try.underlying5 Try.underlying9
      refine MixC.wp_region_mix [3, 4] (Below w.heap.size w) D0.out (by kernel_rfl) (by kernel_rfl) (by kernel_rfl) ?_
      (iterate 3 (refine MixC.mix_read rfl (fun K hK => ?_); go_simp; refine hK _ ?_; clear hK K))
      refine MixC.mix_move rfl (fun K hK => ?_)
      go_simp
      refine (rbeg_any w.drew).mono ?_
      rintro e V ⟨a1, c1, rfl, o1, b1⟩
      have D1 : Hid (Below w.heap.size w V) := Lib.hid ((Below.refl _ _).drew.trans b1)
      have v4 := conv_own o1 begL_oct (by omega) (Below.refl _ V)
      clear o1 b1
      refine ⟨_, rfl, D1.out, hK _ _ ?_⟩
      clear hK K
      refine MixC.mix_move rfl (fun K hK => ?_)
      go_simp
      refine ⟨D1.out, hK _ _ ?_⟩
      clear hK K
      (refine MixC.mix_read rfl (fun K hK => ?_); go_simp; refine hK _ ?_; clear hK K)
      refine MixC.mix_nil ?_
      go_wp2_with fail
      go_meet
      exact ⟨rfl, D1⟩
    case rest =>
      obtain ⟨rfl, BWC⟩ := hcut
      by_cases hh : hdS Z
      · rw [show (!hdB Z) = false by unfold hdS at hh; rw [hh]; rfl]
        have HH := Lib.hid hh
        clear hh d1 q1
        have h6 : 6 ≤ n := by omega
        go_wp2_with fail
        go_loopw [4, 5] (fun s4 s5 wr => ∃ (k p : Nat) (R : Nat → Rcd), s5 = .int .i64 p ∧ Hid (RdSt Z n k p R s4 w wr)) (fun _ s5 _ => n - (intOf s5).toNat)
        case atStart => exact ⟨0, 6, fun _ => default, rfl, Lib.hid ⟨BWC.out, RList.nil _ _ _, rfl, fun i hi => by omega, fun i hi => by omega⟩⟩
        case round =>
          obtain ⟨k, p, R, rfl, HS⟩ := hrel
          obtain ⟨v4a, v4c, h4⟩ := HS.out.row.sl
          subst h4
          have hp := HS.out.at'
          have hple := posP_lt HS.out.okk (by omega)
          rw [hp] at hple
          have HBD := Lib.hid HB.out.bd
          by_cases hlt : p < n
          · have f1 : decide ((p : Int) < n) = true := by simp; omega
            have hbad : Hid (∀ E : Int, errP Z n p = E → E ≠ 0 → StopP Z n 6 k E) := Lib.hid (fun E hE h0 => ⟨HS.out.okk, .inr ⟨by rw [hp]; exact hlt, by rw [hp, hE], h0⟩⟩)
            by_cases h17 : n < p + 17
            · have f2 : decide ((n : Int) < (p : Int) + 17) = true := by simp; omega
              have hE : Hid (errP Z n p = 2) := Lib.hid (by unfold errP oneE; rw [if_pos (.inl (by omega))])
              clear hp
              go_wp2_with fail
              go_ret2
              exact ⟨_, _, _, R, 2, rfl, HS.out.bl, HS.out.row, .inr (.inr ⟨by omega, HH.out, hbad.out _ hE.out (by decide), HS.out.is⟩)⟩
            · have f2 : decide ((n : Int) < (p : Int) + 17) = false := by simp; omega
              obtain ⟨v0, v1⟩ := numv2 HBD.out (show p + 15 + 2 ≤ n by omega)
              obtain ⟨m, hm⟩ : ∃ m : Nat, numv Z (p + 15) 2 = m := ⟨(numv Z (p + 15) 2).toNat, by omega⟩
              have hrc : rcM (shZ Z p) = m := by unfold rcM; rw [numv_sh]; omega
              have numAt : ∀ (x : Int) (s k : Nat) (W : World), x = s → Below w.heap.size w W → s + k ≤ n → 1 ≤ k → k ≤ 8 → Calls Try.prog 73 #[.slice (some ⟨b0, o0, none⟩) n c, .int .i64 x, .int .i64 k] W fun e w' => e = .returned (.int .u64 (numv Z s k)) ∧ W = w' := fun x s k W hx hW h1 h2 h3 => by
                subst hx
                exact rnum_any B _ n c Z s k W (HB.out.keep (hW.mono hB)) ((there_iff _ _ _).2 (by omega))
              have HNUM := Lib.hid numAt
              have HRC := Lib.hid hrc
              have HM := Lib.hid hm
              have HP := Lib.hid hp
              have hm1 : m ≤ 65535 := by omega
              have n1 := numAt (p + 15) (p + 15) 2 wr (by omega) HS.out.bl (by omega) (by omega) (by omega)
              rw [hm] at n1
              clear numAt hrc hm v0 v1 hp h17
              go_wp2_with fail
              refine n1.mono ?_
              rintro e w' ⟨rfl, rfl⟩
              clear n1
              by_cases hsz : n < p + 19 + m
              · have f3 : decide ((n : Int) < (p : Int) + 17 + m + 2) = true := by simp; omega
                have hE : Hid (errP Z n p = 2) := Lib.hid (by unfold errP oneE; rw [HRC.out, if_pos (.inr (by omega))])
                go_wp2_with fail
                go_ret2
                exact ⟨_, _, _, R, 2, rfl, HS.out.bl, HS.out.row, .inr (.inr ⟨by omega, HH.out, hbad.out _ hE.out (by decide), HS.out.is⟩)⟩
              · have f3 : decide ((n : Int) < (p : Int) + 17 + m + 2) = false := by simp; omega
                go_wp2_with fail
                have n2 := HNUM.out p p 8 wr rfl HS.out.bl (by omega) (by omega) (by omega)
                obtain ⟨t0, t1⟩ := numvb HBD.out (show p + 8 ≤ n by omega)
                obtain ⟨tk, htk⟩ : ∃ x, numv Z p 8 = x := ⟨_, rfl⟩
                rw [htk] at n2 t0 t1
                have HTK := Lib.hid htk
                clear htk
                refine n2.mono ?_
                rintro e w' ⟨rfl, rfl⟩
                clear n2
                go_upto_region 14 with (fail)
                obtain ⟨ad0, ad1⟩ := numvb HBD.out (show p + 9 + 4 ≤ n by omega)
                obtain ⟨pt0, pt1⟩ := numv2 HBD.out (show p + 13 + 2 ≤ n by omega)
                obtain ⟨y80, y81⟩ := HBD.out (p + 8) (by omega)
                obtain ⟨ad, had⟩ : ∃ x, numv Z (p + 9) 4 = x := ⟨_, rfl⟩
                obtain ⟨pt, hpt⟩ : ∃ x, numv Z (p + 13) 2 = x := ⟨_, rfl⟩
                obtain ⟨wy, hwy⟩ : ∃ x, Z (p + 8) = x := ⟨_, rfl⟩
                have n3 : ∀ y : World, Below wr.heap.size wr y → _ := fun y hy => HNUM.out (p + 9) (p + 9) 4 y (by omega) (HS.out.bl.trans (hy.mono HS.out.bl.size)) (by omega) (by omega) (by omega)
                have n4 : ∀ y : World, Below wr.heap.size wr y → _ := fun y hy => HNUM.out (p + 13) (p + 13) 2 y (by omega) (HS.out.bl.trans (hy.mono HS.out.bl.size)) (by omega) (by omega) (by omega)
                rw [had] at n3 ad0 ad1
                rw [hpt] at n4 pt0 pt1
                rw [hwy] at y80 y81
                have HT := Lib.hid (And.intro had (And.intro hpt hwy))
                have N3 := Lib.hid n3
                have N4 := Lib.hid n4
                obtain ⟨b1, o1, hp1, hc1⟩ := (HB.out.keep (HS.out.bl.mono hB)).mem
                obtain ⟨he1, hb1⟩ := hp1 (by omega)
                cases he1
                have c8 := hc1 (p + 8) (by omega)
                rw [hwy] at c8
                have C8 := Lib.hid c8
                clear n3 n4 had hpt hwy hp1 hc1 c8
                have q1 : IntKind.u32.wrap ad = ad := by rw [IntKind.wrap_u32]; omega
                have q2 : IntKind.u16.wrap pt = pt := by rw [IntKind.wrap_u16]; omega
                have q3 : (p : Int) + 17 + m ≤ c := by omega
                have q4 : ((p : Int) + 17 + m).toNat = p + 17 + m := by omega
                have q5 : ¬ c = p + 17 := by omega
                have q8 : (p : Int) + 8 < n := by omega
                have q9 : ((p : Int) + 17).toNat = p + 17 := by omega
                have q10 : (0 : Int) ≤ (p : Int) + 17 + m := by omega
                have w8 : IntKind.i64.wrap ((p : Int) + 8) = (p : Int) + 8 := IntWalk.i64_in _ (by omega)
                have w9 : IntKind.i64.wrap ((p : Int) + 9) = (p : Int) + 9 := IntWalk.i64_in _ (by omega)
                have w13 : IntKind.i64.wrap ((p : Int) + 13) = (p : Int) + 13 := IntWalk.i64_in _ (by omega)
                have w17 : IntKind.i64.wrap ((p : Int) + 17) = (p : Int) + 17 := IntWalk.i64_in _ (by omega)
                have w17m : IntKind.i64.wrap ((p : Int) + 17 + m) = (p : Int) + 17 + m := IntWalk.i64_in _ (by omega)
                have q13 : (0 : Int) ≤ (p : Int) + 8 := by omega
                have q14 : (0 : Int) ≤ (p : Int) + 17 := by omega
                have q12 : IntKind.i64.wrap wy = wy := IntWalk.i64_in _ (by omega)
                have q6 : (p : Int) + 17 ≤ (p : Int) + 17 + m := by omega
                have q7 : ((p : Int) + 8).toNat = p + 8 := by omega
                have hsrc : BS wr.heap.size wr (some ⟨b0, o0 + (p + 17), none⟩) m (c - (p + 17)) (fun x => shZ Z p (17 + x)) := by
                  have := (((HB.out.keep (HS.out.bl.mono hB)).cut (k := p + 17 + m) (m := c) (by omega) (by omega) (Nat.le_refl _)).drop (p + 17) (by omega) (by omega)).mono (Nat.le_trans hB HS.out.bl.size)
                  rw [show p + 17 + m - (p + 17) = m by omega] at this
                  exact this.congr (fun i _ => by show Z (p + (17 + i)) = _; rw [Nat.add_assoc])
                have HSR := Lib.hid hsrc
                obtain ⟨tkw, htkw⟩ : ∃ x, IntKind.i64.wrap tk = x := ⟨_, rfl⟩
                have HTW := Lib.hid htkw
                clear hsrc
                go_cut [8] (fun s8 wx => ∃ g8 a8 c8, s8 = .pointer (some ⟨g8, 0, none⟩) ∧ Hid (Below wr.heap.size wr wx) ∧ Hid (RcIn (shZ Z p) tkw wy ad pt m wr.heap.size g8 a8 c8 wx))
                case first =>
                  have hne : Nonempty { w' : World // Below wr.heap.size wr w' } := ⟨⟨_, Below.refl _ _⟩⟩
                  have v8 : ∀ z : { w' : World // Below wr.heap.size wr w' }, z.1.cell? ⟨b0, o0 + (p + 8), none⟩ = some (.int .u8 wy) := fun z => Below.cell' z.2 (World.block_lt_of_cell? _ _ C8.out) C8.out
                  have D0 : Hid (Below wr.heap.size wr wr.drew) := Lib.hid (Below.refl _ _).drew
                  refine MixC.wp_region_pick [19, 28, 30, 31] (Below wr.heap.size wr) D0.out (by kernel_rfl) ?_
                  simp only [List.length_cons, List.length_nil, Nat.reduceAdd]
                  (refine MixC.pick_read 0 rfl (by kernel_rfl) rfl (by kernel_rfl) (by kernel_rfl) D0.out (fun K hK => ?_); go_simp; refine hK _ ?_; clear hK K)
                  (refine MixC.pick_read 1 rfl (by kernel_rfl) rfl (by kernel_rfl) (by kernel_rfl) D0.out (fun K hK => ?_); go_simp; refine hK _ ?_; clear hK K)
                  (refine MixC.pick_read 2 rfl (by kernel_rfl) rfl (by kernel_rfl) (by kernel_rfl) D0.out (fun K hK => ?_); go_simp; refine hK _ ?_; clear hK K)
                  (refine MixC.pick_read 3 rfl (by kernel_rfl) rfl (by kernel_rfl) (by kernel_rfl) D0.out (fun K hK => ?_); go_simp; refine hK _ ?_; clear hK K)
                  (refine MixC.pick_read 4 rfl (by kernel_rfl) rfl (by kernel_rfl) (by kernel_rfl) D0.out (fun K hK => ?_); go_simp; refine hK _ ?_; clear hK K)
                  (refine MixC.pick_read 5 rfl (by kernel_rfl) rfl (by kernel_rfl) (by kernel_rfl) D0.out (fun K hK => ?_); go_simp; refine hK _ ?_; clear hK K)
                  (refine MixC.pick_read 6 rfl (by kernel_rfl) rfl (by kernel_rfl) (by kernel_rfl) D0.out (fun K hK => ?_); go_simp; refine hK _ ?_; clear hK K)
                  (refine MixC.pick_read 7 rfl (by kernel_rfl) rfl (by kernel_rfl) (by kernel_rfl) D0.out (fun K hK => ?_); go_simp; refine hK _ ?_; clear hK K)
                  (refine MixC.pick_read 8 rfl (by kernel_rfl) rfl (by kernel_rfl) (by kernel_rfl) D0.out (fun K hK => ?_); go_simp; refine hK _ ?_; clear hK K)
                  (refine MixC.pick_read 9 rfl (by kernel_rfl) rfl (by kernel_rfl) (by kernel_rfl) D0.out (fun K hK => ?_); go_simp; refine hK _ ?_; clear hK K)
                  (refine MixC.pick_read 10 rfl (by kernel_rfl) rfl (by kernel_rfl) (by kernel_rfl) D0.out (fun K hK => ?_); go_simp; refine hK _ ?_; clear hK K)
                  refine MixC.pick_read 11 rfl (by kernel_rfl) rfl (by kernel_rfl) (by kernel_rfl) D0.out (fun K hK => ?_)
                  go_simp
                  refine ⟨.int .u64 ad, fun y hy => (N3.out y hy).mono (fun e w1 h => ⟨h.1, h.2.symm⟩), hK _ ?_⟩
                  clear hK K
                  (refine MixC.pick_read 12 rfl (by kernel_rfl) rfl (by kernel_rfl) (by kernel_rfl) D0.out (fun K hK => ?_); go_simp; refine hK _ ?_; clear hK K)
                  (refine MixC.pick_read 13 rfl (by kernel_rfl) rfl (by kernel_rfl) (by kernel_rfl) D0.out (fun K hK => ?_); go_simp; refine hK _ ?_; clear hK K)
                  (refine MixC.pick_read 14 rfl (by kernel_rfl) rfl (by kernel_rfl) (by kernel_rfl) D0.out (fun K hK => ?_); go_simp; refine hK _ ?_; clear hK K)
                  (refine MixC.pick_read 15 rfl (by kernel_rfl) rfl (by kernel_rfl) (by kernel_rfl) D0.out (fun K hK => ?_); go_simp; refine hK _ ?_; clear hK K)
                  refine MixC.pick_read 16 rfl (by kernel_rfl) rfl (by kernel_rfl) (by kernel_rfl) D0.out (fun K hK => ?_)
                  go_simp
                  refine ⟨.int .u64 pt, fun y hy => (N4.out y hy).mono (fun e w1 h => ⟨h.1, h.2.symm⟩), hK _ ?_⟩
                  clear hK K
                  (refine MixC.pick_read 17 rfl (by kernel_rfl) rfl (by kernel_rfl) (by kernel_rfl) D0.out (fun K hK => ?_); go_simp; refine hK _ ?_; clear hK K)
                  (refine MixC.pick_read 18 rfl (by kernel_rfl) rfl (by kernel_rfl) (by kernel_rfl) D0.out (fun K hK => ?_); go_simp; refine hK _ ?_; clear hK K)
                  (refine MixC.pick_read 20 rfl (by kernel_rfl) rfl (by kernel_rfl) (by kernel_rfl) D0.out (fun K hK => ?_); go_simp; refine hK _ ?_; clear hK K)
                  (refine MixC.pick_read 21 rfl (by kernel_rfl) rfl (by kernel_rfl) (by kernel_rfl) D0.out (fun K hK => ?_); go_simp; refine hK _ ?_; clear hK K)
                  (refine MixC.pick_read 22 rfl (by kernel_rfl) rfl (by kernel_rfl) (by kernel_rfl) D0.out (fun K hK => ?_); go_simp; refine hK _ ?_; clear hK K)
                  (refine MixC.pick_read 23 rfl (by kernel_rfl) rfl (by kernel_rfl) (by kernel_rfl) D0.out (fun K hK => ?_); go_simp; refine hK _ ?_; clear hK K)
                  (refine MixC.pick_read 24 rfl (by kernel_rfl) rfl (by kernel_rfl) (by kernel_rfl) D0.out (fun K hK => ?_); go_simp; refine hK _ ?_; clear hK K)
                  (refine MixC.pick_read 25 rfl (by kernel_rfl) rfl (by kernel_rfl) (by kernel_rfl) D0.out (fun K hK => ?_); go_simp; refine hK _ ?_; clear hK K)
                  (refine MixC.pick_read 26 rfl (by kernel_rfl) rfl (by kernel_rfl) (by kernel_rfl) D0.out (fun K hK => ?_); go_simp; refine hK _ ?_; clear hK K)
                  (refine MixC.pick_read 27 rfl (by kernel_rfl) rfl (by kernel_rfl) (by kernel_rfl) D0.out (fun K hK => ?_); go_simp; refine hK _ ?_; clear hK K)
                  clear htkw
                  generalize hW0 : wr.drew = W0 at D0 ⊢
                  clear hW0
                  refine MixC.pick_two 19 30 rfl rfl rfl rfl (by kernel_rfl) (fun K hK => ?_) (fun K hK => ?_)
                  · go_simp
                    obtain ⟨V1, hV⟩ : ∃ V', W0.alloc (.cells #[] 5) = V' := ⟨_, rfl⟩
                    have R19 : V1.ownsRow wr.heap.size 5 1 (.slice (some ⟨W0.heap.size, 0, none⟩) 0 0) 0 [] := by rw [← hV]; exact nil_row W0 _ D0.out.size
                    have D1 : Hid (Below wr.heap.size wr V1) := Lib.hid (by rw [← hV]; exact D0.out.alloc D0.out.size _)
                    obtain ⟨g9, hg9⟩ : ∃ g9, W0.heap.size = g9 := ⟨_, rfl⟩
                    rw [hg9] at R19
                    rw [hV, hg9]
                    refine ⟨D1.out, hK _ _ ?_⟩
                    clear hK K hV hg9
                    refine MixC.pick_two 28 30 rfl rfl rfl rfl (by kernel_rfl) (fun K hK => ?_) (fun K hK => ?_)
                    · have D2P := D1
                      obtain ⟨a7, c7, V2, A7, B7⟩ := appS elU8 R19 (some ⟨b0, o0 + (p + 17), none⟩) m (c - (p + 17)) (u8s (zs (fun x => shZ Z p (17 + x)) m)) (HSR.out.keep D2P.out).nils (by rw [u8s_len, zs_len, Nat.mul_one]) (HSR.out.keep D2P.out).news' (u8s_one _) (by omega) (by omega) D2P.out.size
                      have D2 : Hid (Below wr.heap.size wr V2) := Lib.hid (D2P.out.trans B7)
                      have O7 : Hid (V2.ownsRow wr.heap.size 5 1 (.slice a7 m c7) m (bytesOf (fun x => shZ Z p (17 + x)) m)) := Lib.hid (by have := A7.own; rw [Nat.zero_add, List.nil_append, zs_u8s] at this; exact this)
                      have HA := Lib.hid A7.run
                      rw [Nat.zero_add] at HA
                      clear A7 B7 R19
                      refine Eq.mpr (if_pos rfl) ?_
                      refine mv_app (s := .tmp 64) (x := .tmp 72) (t := 56) rfl rfl rfl HA.out D2.out (hK _ _ ?_)
                      clear hK K HA
                      (refine MixC.pick_read 29 rfl (by kernel_rfl) rfl (by kernel_rfl) (by kernel_rfl) D2.out (fun K hK => ?_); go_simp; refine hK _ ?_; clear hK K)
                      refine MixC.pick_move 30 rfl rfl (by kernel_rfl) (fun K hK => ?_)
                      go_simp
                      obtain ⟨V3, hV⟩ : ∃ V', V2.alloc (.cells #[.int .i64 0, .int .i64 0, .int .u32 0, .int .u16 0, .slice none 0 0] 72) = V' := ⟨_, rfl⟩
                      obtain ⟨gn, hgn⟩ : ∃ gn, gn = V2.heap.size := ⟨_, rfl⟩
                      have G2 : V3.heap[gn]? = some (.cells #[.int .i64 0, .int .i64 0, .int .u32 0, .int .u16 0, .slice none 0 0] 72 (0, 0)) := by rw [← hV, hgn]; exact alloc_blk_new
                      have D3 : Hid (Below wr.heap.size wr V3) := Lib.hid (by rw [← hV]; exact D2.out.alloc D2.out.size _)
                      have O8 : Hid (V3.ownsRow wr.heap.size 5 1 (.slice a7 m c7) m (bytesOf (fun x => shZ Z p (17 + x)) m)) := Lib.hid (by rw [← hV]; exact own_below O7.out ((Below.refl _ _).alloc (Nat.le_refl _) _))
                      have hgw : wr.heap.size ≤ gn := by rw [hgn]; exact D2.out.size
                      rw [hV, ← hgn]
                      refine ⟨D3.out, hK _ _ ?_⟩
                      clear hK K hV hgn
                      have y0 : V3.cell? ⟨gn, 0, none⟩ = some (.int .i64 0) := cell_blk G2
                      have y1 : V3.cell? ⟨gn, 1, none⟩ = some (.int .i64 0) := cell_blk G2
                      have y2 : V3.cell? ⟨gn, 2, none⟩ = some (.int .u32 0) := cell_blk G2
                      have y3 : V3.cell? ⟨gn, 3, none⟩ = some (.int .u16 0) := cell_blk G2
                      have y4 : V3.cell? ⟨gn, 4, none⟩ = some (.slice none 0 0) := cell_blk G2
                      have z0 : V3.frozen? ⟨gn, 0, none⟩ = false := free_blk G2
                      have z1 : V3.frozen? ⟨gn, 1, none⟩ = false := free_blk G2
                      have z2 : V3.frozen? ⟨gn, 2, none⟩ = false := free_blk G2
                      have z3 : V3.frozen? ⟨gn, 3, none⟩ = false := free_blk G2
                      have z4 : V3.frozen? ⟨gn, 4, none⟩ = false := free_blk G2
                      refine MixC.pick_move 31 rfl rfl (by kernel_rfl) (fun K hK => ?_)
                      go_simp
                      generalize hX : World.setCell _ _ _ = X
                      obtain ⟨x1, x2, x3, x4⟩ := set5 G2 hX
                      have DX : Hid (Below wr.heap.size wr X) := Lib.hid (D3.out.trans (x2 _ hgw))
                      have RX : Hid (RcIn (shZ Z p) tkw wy ad pt m wr.heap.size gn a7 c7 X) := Lib.hid ⟨x1, hgw, own_blk1y O8.out (fun q hq => x3 q (fun e => by
                        obtain ⟨cs, mm, h2⟩ := own_block O8.out q hq
                        rw [e, G2] at h2
                        injection h2 with h2
                        injection h2 with _ h2
                        exact absurd h2 (by decide)))⟩
                      refine ⟨DX.out, hK _ _ ?_⟩
                      clear hK K hX x1 x2 x3 x4 y0 y1 y2 y3 y4 z0 z1 z2 z3 z4
                      refine MixC.pick_nil (by kernel_rfl) ?_
                      clear v8 hne
                      go_wp2_with fail
                      go_meet
                      exact ⟨gn, a7, c7, rfl, DX, RX⟩
                    · go_simp
                      obtain ⟨V2, hV⟩ : ∃ V', V1.alloc (.cells #[.int .i64 0, .int .i64 0, .int .u32 0, .int .u16 0, .slice none 0 0] 72) = V' := ⟨_, rfl⟩
                      obtain ⟨gn, hgn⟩ : ∃ gn, gn = V1.heap.size := ⟨_, rfl⟩
                      have G2 : V2.heap[gn]? = some (.cells #[.int .i64 0, .int .i64 0, .int .u32 0, .int .u16 0, .slice none 0 0] 72 (0, 0)) := by rw [← hV, hgn]; exact alloc_blk_new
                      have D2 : Hid (Below wr.heap.size wr V2) := Lib.hid (by rw [← hV]; exact D1.out.alloc D1.out.size _)
                      have hne9 : gn ≠ g9 := by have := (R19.lt g9 rfl).2; omega
                      have R19 : V2.ownsRow wr.heap.size 5 1 (.slice (some ⟨g9, 0, none⟩) 0 0) 0 [] := by rw [← hV]; exact own_below R19 ((Below.refl _ _).alloc (Nat.le_refl _) _)
                      have hgw : wr.heap.size ≤ gn := by rw [hgn]; exact D1.out.size
                      rw [hV, ← hgn]
                      refine ⟨D2.out, hK _ _ ?_⟩
                      clear hK K hV hgn
                      refine MixC.pick_move 28 rfl rfl (by kernel_rfl) (fun K hK => ?_)
                      have D3P := D2
                      obtain ⟨a7, c7, V3, A7, B7⟩ := appS elU8 R19 (some ⟨b0, o0 + (p + 17), none⟩) m (c - (p + 17)) (u8s (zs (fun x => shZ Z p (17 + x)) m)) (HSR.out.keep D3P.out).nils (by rw [u8s_len, zs_len, Nat.mul_one]) (HSR.out.keep D3P.out).news' (u8s_one _) (by omega) (by omega) D3P.out.size
                      have D3 : Hid (Below wr.heap.size wr V3) := Lib.hid (D3P.out.trans B7)
                      have O7 : Hid (V3.ownsRow wr.heap.size 5 1 (.slice a7 m c7) m (bytesOf (fun x => shZ Z p (17 + x)) m)) := Lib.hid (by have := A7.own; rw [Nat.zero_add, List.nil_append, zs_u8s] at this; exact this)
                      have HA := Lib.hid A7.run
                      have G3 : V3.heap[gn]? = some (.cells #[.int .i64 0, .int .i64 0, .int .u32 0, .int .u16 0, .slice none 0 0] 72 (0, 0)) := A7.but.blk G2 (fun e => hne9 (by cases e; rfl))
                      rw [Nat.zero_add] at HA
                      clear A7 B7 R19
                      refine Eq.mpr (if_pos rfl) ?_
                      refine mv_app (s := .tmp 64) (x := .tmp 72) (t := 56) rfl rfl rfl HA.out D3.out (hK _ _ ?_)
                      clear hK K HA
                      replace G2 := G3
                      have O8 := O7
                      (refine MixC.pick_read 29 rfl (by kernel_rfl) rfl (by kernel_rfl) (by kernel_rfl) D3.out (fun K hK => ?_); go_simp; refine hK _ ?_; clear hK K)
                      have y0 : V3.cell? ⟨gn, 0, none⟩ = some (.int .i64 0) := cell_blk G2
                      have y1 : V3.cell? ⟨gn, 1, none⟩ = some (.int .i64 0) := cell_blk G2
                      have y2 : V3.cell? ⟨gn, 2, none⟩ = some (.int .u32 0) := cell_blk G2
                      have y3 : V3.cell? ⟨gn, 3, none⟩ = some (.int .u16 0) := cell_blk G2
                      have y4 : V3.cell? ⟨gn, 4, none⟩ = some (.slice none 0 0) := cell_blk G2
                      have z0 : V3.frozen? ⟨gn, 0, none⟩ = false := free_blk G2
                      have z1 : V3.frozen? ⟨gn, 1, none⟩ = false := free_blk G2
                      have z2 : V3.frozen? ⟨gn, 2, none⟩ = false := free_blk G2
                      have z3 : V3.frozen? ⟨gn, 3, none⟩ = false := free_blk G2
                      have z4 : V3.frozen? ⟨gn, 4, none⟩ = false := free_blk G2
                      refine MixC.pick_move 31 rfl rfl (by kernel_rfl) (fun K hK => ?_)
                      go_simp
                      generalize hX : World.setCell _ _ _ = X
                      obtain ⟨x1, x2, x3, x4⟩ := set5 G2 hX
                      have DX : Hid (Below wr.heap.size wr X) := Lib.hid (D3.out.trans (x2 _ hgw))
                      have RX : Hid (RcIn (shZ Z p) tkw wy ad pt m wr.heap.size gn a7 c7 X) := Lib.hid ⟨x1, hgw, own_blk1y O8.out (fun q hq => x3 q (fun e => by
                        obtain ⟨cs, mm, h2⟩ := own_block O8.out q hq
                        rw [e, G2] at h2
                        injection h2 with h2
                        injection h2 with _ h2
                        exact absurd h2 (by decide)))⟩
                      refine ⟨DX.out, hK _ _ ?_⟩
                      clear hK K hX x1 x2 x3 x4 y0 y1 y2 y3 y4 z0 z1 z2 z3 z4
                      refine MixC.pick_nil (by kernel_rfl) ?_
                      clear v8 hne
                      go_wp2_with fail
                      go_meet
                      exact ⟨gn, a7, c7, rfl, DX, RX⟩
                  · go_simp
                    obtain ⟨V1, hV⟩ : ∃ V', W0.alloc (.cells #[.int .i64 0, .int .i64 0, .int .u32 0, .int .u16 0, .slice none 0 0] 72) = V' := ⟨_, rfl⟩
                    obtain ⟨gn, hgn⟩ : ∃ gn, gn = W0.heap.size := ⟨_, rfl⟩
                    have G2 : V1.heap[gn]? = some (.cells #[.int .i64 0, .int .i64 0, .int .u32 0, .int .u16 0, .slice none 0 0] 72 (0, 0)) := by rw [← hV, hgn]; exact alloc_blk_new
                    have D1 : Hid (Below wr.heap.size wr V1) := Lib.hid (by rw [← hV]; exact D0.out.alloc D0.out.size _)
                    have hgw : wr.heap.size ≤ gn := by rw [hgn]; exact D0.out.size
                    rw [hV, ← hgn]
                    refine ⟨D1.out, hK _ _ ?_⟩
                    clear hK K hV hgn
                    refine MixC.pick_move 19 rfl rfl (by kernel_rfl) (fun K hK => ?_)
                    go_simp
                    obtain ⟨V2, hV⟩ : ∃ V', V1.alloc (.cells #[] 5) = V' := ⟨_, rfl⟩
                    have R19 : V2.ownsRow wr.heap.size 5 1 (.slice (some ⟨V1.heap.size, 0, none⟩) 0 0) 0 [] := by rw [← hV]; exact nil_row V1 _ D1.out.size
                    have D2 : Hid (Below wr.heap.size wr V2) := Lib.hid (by rw [← hV]; exact D1.out.alloc D1.out.size _)
                    have G3 : V2.heap[gn]? = some (.cells #[.int .i64 0, .int .i64 0, .int .u32 0, .int .u16 0, .slice none 0 0] 72 (0, 0)) := by rw [← hV]; exact (alloc_blk_old (lt_of_block G2)).trans G2
                    have hne9 : V1.heap.size ≠ gn := by have := lt_of_block G2; omega
                    obtain ⟨g9, hg9⟩ : ∃ g9, V1.heap.size = g9 := ⟨_, rfl⟩
                    rw [hg9] at R19 hne9
                    rw [hV, hg9]
                    refine ⟨D2.out, hK _ _ ?_⟩
                    clear hK K hV hg9
                    refine MixC.pick_move 28 rfl rfl (by kernel_rfl) (fun K hK => ?_)
                    have D3P := D2
                    obtain ⟨a7, c7, V3, A7, B7⟩ := appS elU8 R19 (some ⟨b0, o0 + (p + 17), none⟩) m (c - (p + 17)) (u8s (zs (fun x => shZ Z p (17 + x)) m)) (HSR.out.keep D3P.out).nils (by rw [u8s_len, zs_len, Nat.mul_one]) (HSR.out.keep D3P.out).news' (u8s_one _) (by omega) (by omega) D3P.out.size
                    have D3 : Hid (Below wr.heap.size wr V3) := Lib.hid (D3P.out.trans B7)
                    have O7 : Hid (V3.ownsRow wr.heap.size 5 1 (.slice a7 m c7) m (bytesOf (fun x => shZ Z p (17 + x)) m)) := Lib.hid (by have := A7.own; rw [Nat.zero_add, List.nil_append, zs_u8s] at this; exact this)
                    have HA := Lib.hid A7.run
                    have G4 : V3.heap[gn]? = some (.cells #[.int .i64 0, .int .i64 0, .int .u32 0, .int .u16 0, .slice none 0 0] 72 (0, 0)) := A7.but.blk G3 (fun e => hne9 (by cases e; rfl))
                    rw [Nat.zero_add] at HA
                    clear A7 B7 R19
                    refine Eq.mpr (if_pos rfl) ?_
                    refine mv_app (s := .tmp 64) (x := .tmp 72) (t := 56) rfl rfl rfl HA.out D3.out (hK _ _ ?_)
                    clear hK K HA
                    replace G2 := G4
                    have O8 := O7
                    (refine MixC.pick_read 29 rfl (by kernel_rfl) rfl (by kernel_rfl) (by kernel_rfl) D3.out (fun K hK => ?_); go_simp; refine hK _ ?_; clear hK K)
                    have y0 : V3.cell? ⟨gn, 0, none⟩ = some (.int .i64 0) := cell_blk G2
                    have y1 : V3.cell? ⟨gn, 1, none⟩ = some (.int .i64 0) := cell_blk G2
                    have y2 : V3.cell? ⟨gn, 2, none⟩ = some (.int .u32 0) := cell_blk G2
                    have y3 : V3.cell? ⟨gn, 3, none⟩ = some (.int .u16 0) := cell_blk G2
                    have y4 : V3.cell? ⟨gn, 4, none⟩ = some (.slice none 0 0) := cell_blk G2
                    have z0 : V3.frozen? ⟨gn, 0, none⟩ = false := free_blk G2
                    have z1 : V3.frozen? ⟨gn, 1, none⟩ = false := free_blk G2
                    have z2 : V3.frozen? ⟨gn, 2, none⟩ = false := free_blk G2
                    have z3 : V3.frozen? ⟨gn, 3, none⟩ = false := free_blk G2
                    have z4 : V3.frozen? ⟨gn, 4, none⟩ = false := free_blk G2
                    refine MixC.pick_move 31 rfl rfl (by kernel_rfl) (fun K hK => ?_)
                    go_simp
                    generalize hX : World.setCell _ _ _ = X
                    obtain ⟨x1, x2, x3, x4⟩ := set5 G2 hX
                    have DX : Hid (Below wr.heap.size wr X) := Lib.hid (D3.out.trans (x2 _ hgw))
                    have RX : Hid (RcIn (shZ Z p) tkw wy ad pt m wr.heap.size gn a7 c7 X) := Lib.hid ⟨x1, hgw, own_blk1y O8.out (fun q hq => x3 q (fun e => by
                      obtain ⟨cs, mm, h2⟩ := own_block O8.out q hq
                      rw [e, G2] at h2
                      injection h2 with h2
                      injection h2 with _ h2
                      exact absurd h2 (by decide)))⟩
                    refine ⟨DX.out, hK _ _ ?_⟩
                    clear hK K hX x1 x2 x3 x4 y0 y1 y2 y3 y4 z0 z1 z2 z3 z4
                    refine MixC.pick_nil (by kernel_rfl) ?_
                    clear v8 hne
                    go_wp2_with fail
                    go_meet
                    exact ⟨gn, a7, c7, rfl, DX, RX⟩
                case rest =>
                  obtain ⟨g8, a8, c8, rfl, B8, R8⟩ := hcut
                  have BWC2 : Hid (Below w.heap.size w wc) := Lib.hid (HS.out.bl.trans (B8.out.mono HS.out.bl.size))
                  have RW : Hid (RList R k w.heap.size (.slice v4a k v4c) wc) := Lib.hid (HS.out.row.below B8.out)
                  obtain ⟨sm, hsm⟩ : ∃ x, numv Z (p + (17 + m)) 2 = x := ⟨_, rfl⟩
                  have hEm : Hid (errP Z n p = if 9223372036854775807 < tk ∨ 2 ≤ wy ∨ 1200 < m then 3 else if sm ≠ smR (shZ Z p) (17 + m) then 4 else 0) := Lib.hid (by
                    unfold errP oneE
                    rw [HRC.out, if_neg (by omega), numv_sh, numv_sh, hsm, Nat.add_zero, HTK.out, show shZ Z p 8 = wy from HT.out.2.2])
                  clear q1 q2 q3 q4 q5 q6 q7 q8 q9 q10 q12 q13 q14 w8 w9 w13 htkw f3
                  by_cases ht : 9223372036854775807 < tk
                  · have d2 : decide (9223372036854775807 < tk) = true := by simpa using ht
                    have hE : Hid (errP Z n p = 3) := Lib.hid (by rw [hEm.out, if_pos (.inl ht)])
                    clear w17 w17m hEm
                    go_wp2_with fail
                    go_ret2
                    exact ⟨_, _, _, R, 3, rfl, BWC2.out, RW.out, .inr (.inr ⟨by omega, HH.out, hbad.out _ hE.out (by decide), HS.out.is⟩)⟩
                  · have d2 : decide (9223372036854775807 < tk) = false := by simpa using ht
                    have htw : tkw = tk := by rw [← HTW.out]; exact IntWalk.i64_in _ (by omega)
                    subst htw
                    have e0 : wc.cell? ⟨g8, 0, none⟩ = some (.int .i64 tkw) := cell_blk R8.out.blk
                    have e1 : wc.cell? ⟨g8, 1, none⟩ = some (.int .i64 wy) := cell_blk R8.out.blk
                    have e2 : wc.cell? ⟨g8, 2, none⟩ = some (.int .u32 ad) := cell_blk R8.out.blk
                    have e3 : wc.cell? ⟨g8, 3, none⟩ = some (.int .u16 pt) := cell_blk R8.out.blk
                    have e4 : wc.cell? ⟨g8, 4, none⟩ = some (.slice a8 m c8) := cell_blk R8.out.blk
                    go_wp2_with fail
                    refine (rmay45_any tkw wy ad pt a8 m c8 wc).mono ?_
                    rintro e V1 ⟨rfl, b1⟩
                    have B1 := Lib.hid b1
                    have BV : Hid (Below w.heap.size w V1) := Lib.hid (BWC2.out.trans (b1.mono BWC2.out.size))
                    have RV : Hid (RList R k w.heap.size (.slice v4a k v4c) V1) := Lib.hid (RW.out.below b1)
                    have G1 := Lib.hid (Below.blk b1 R8.out.blk (lt_of_block R8.out.blk))
                    have O1 := Lib.hid (own_below R8.out.row b1)
                    clear b1 e0 e1 e2 e3 e4
                    cases hmy : mayR tkw wy m with
                    | false =>
                      have hE : Hid (errP Z n p = 3) := Lib.hid (by
                        have : 9223372036854775807 < tkw ∨ 2 ≤ wy ∨ 1200 < m := by
                          have h := mayR_iff tkw wy m
                          rw [hmy] at h
                          simp only [Bool.false_eq_true, false_iff] at h
                          omega
                        rw [hEm.out, if_pos this])
                      clear hmy hEm
                      go_wp2_with fail
                      go_ret2
                      exact ⟨_, _, _, R, 3, rfl, BV.out, RV.out, .inr (.inr ⟨by omega, HH.out, hbad.out _ hE.out (by decide), HS.out.is⟩)⟩
                    | true =>
                      have HMY := Lib.hid ((mayR_iff _ _ _).1 hmy)
                      clear hmy
                      obtain ⟨y, hy⟩ : ∃ y, smR (shZ Z p) (17 + m) = y := ⟨_, rfl⟩
                      have hEm2 : Hid (errP Z n p = if sm ≠ y then 4 else 0) := Lib.hid (by rw [hEm.out, if_neg (by have := HMY.out; omega), hy])
                      have n5 : ∀ z : World, Below V1.heap.size V1 z → _ := fun z hz => HNUM.out (p + 17 + m) (p + (17 + m)) 2 z (by omega) (BV.out.trans (hz.mono BV.out.size)) (by omega) (by omega) (by omega)
                      rw [hsm] at n5
                      have s5 : ∀ z : World, Below V1.heap.size V1 z → Calls Try.prog 74 #[.slice (some ⟨b0, o0 + p, none⟩) (17 + m) (c - p)] z fun e w' => e = .returned (.int .u64 y) ∧ z = w' := fun z hz => by
                        have := ((HB.out.keep ((BV.out.trans (hz.mono BV.out.size)).mono hB)).cut (k := p + 17 + m) (m := c) (by omega) (by omega) (Nat.le_refl _)).drop p (by omega) (by omega)
                        rw [show p + 17 + m - p = 17 + m by omega] at this
                        have := rsum45_any B _ (17 + m) (c - p) (shZ Z p) z this (by omega)
                        rw [hy] at this
                        exact this
                      have N5 := Lib.hid n5
                      have S5 := Lib.hid s5
                      have q3 : (p : Int) + 17 + m ≤ c := by omega
                      have q4 : ((p : Int) + 17 + m).toNat = p + 17 + m := by omega
                      have q5 : ¬ c = p := by omega
                      have q10 : (0 : Int) ≤ (p : Int) + 17 + m := by omega
                      have q6 : (p : Int) ≤ (p : Int) + 17 + m := by omega
                      have q7 : p + 17 + m - p = 17 + m := by omega
                      clear n5 s5 hsm hy hEm
                      go_upto_region 17 with (fail)
                      have hne : Nonempty { w' : World // Below V1.heap.size V1 w' } := ⟨⟨_, Below.refl _ _⟩⟩
                      refine MixC.wp_region_mix [] (Below V1.heap.size V1) (Below.refl _ _).drew (by kernel_rfl) (by kernel_rfl) (by kernel_rfl) ?_
                      (iterate 5 (refine MixC.mix_read rfl (fun K hK => ?_); go_simp; refine hK _ ?_; clear hK K))
                      refine MixC.mix_read rfl (fun K hK => ?_)
                      go_simp
                      refine ⟨.int .u64 sm, fun y hy => (N5.out y hy).mono (fun e w1 h => ⟨h.1, h.2.symm⟩), hK _ ?_⟩
                      clear hK K
                      (iterate 7 (refine MixC.mix_read rfl (fun K hK => ?_); go_simp; refine hK _ ?_; clear hK K))
                      refine MixC.mix_read rfl (fun K hK => ?_)
                      go_simp
                      refine ⟨.int .u64 y, fun y hy => (S5.out y hy).mono (fun e w1 h => ⟨h.1, h.2.symm⟩), hK _ ?_⟩
                      clear hK K
                      by_cases he : sm = y
                      · have d3 : (sm == y) = true := by simpa using he
                        have d4 : decide (sm = y) = true := by simpa using he
                        have hE : Hid (errP Z n p = 0) := Lib.hid (by rw [hEm2.out, if_neg (by simpa using he)])
                        clear he hEm2
                        (refine MixC.mix_read rfl (fun K hK => ?_); go_simp; refine hK _ ?_; clear hK K)
                        refine MixC.mix_nil ?_
                        clear hne
                        have O2 : Hid (V1.drew.ownsRow w.heap.size 5 1 (.slice a8 m c8) m (bytesOf (fun i => shZ Z p (17 + i)) m)) := Lib.hid (own_below (World.ownsRow.mono O1.out HS.out.bl.size) (Below.refl _ _).drew)
                        have G2 : V1.drew.heap[g8]? = some (rcO tkw wy ad pt a8 m c8) := G1.out
                        have R2 : RList R k w.heap.size (.slice v4a k v4c) V1.drew := RV.out.below (Below.refl _ _).drew
                        have B2 : Below w.heap.size w V1.drew := BV.out.drew
                        generalize hV2 : V1.drew = V2 at O2 G2 R2 B2 ⊢
                        clear hV2
                        have e0 : V2.cell? ⟨g8, 0, none⟩ = some (.int .i64 tkw) := cell_blk G2
                        have e1 : V2.cell? ⟨g8, 1, none⟩ = some (.int .i64 wy) := cell_blk G2
                        have e2 : V2.cell? ⟨g8, 2, none⟩ = some (.int .u32 ad) := cell_blk G2
                        have e3 : V2.cell? ⟨g8, 3, none⟩ = some (.int .u16 pt) := cell_blk G2
                        have e4 : V2.cell? ⟨g8, 4, none⟩ = some (.slice a8 m c8) := cell_blk G2
                        have hk1 : 6 + 19 * k ≤ p := hple.2
                        obtain ⟨a9, c9, V3, A9, B9⟩ := app1 elRcd R2.row (rcV ⟨tkw, wy, ad, pt, a8, m, c8, fun i => shZ Z p (17 + i)⟩) rfl (rcV_one _) (by omega) (by omega) B2.size
                        have R3 := Lib.hid (R2.add (r := ⟨tkw, wy, ad, pt, a8, m, c8, fun i => shZ Z p (17 + i)⟩) O2.out A9.but A9.own)
                        have B3 := Lib.hid (B2.trans B9)
                        have HA := Lib.hid A9.run
                        have IS : Hid (IsRc Z p ⟨tkw, wy, ad, pt, a8, m, c8, fun i => shZ Z p (17 + i)⟩) := Lib.hid ⟨HTK.out.symm, HT.out.2.2.symm, HT.out.1.symm, HT.out.2.1.symm, HRC.out.symm, fun x _ => by show Z (p + (17 + x)) = Z (p + 17 + x); rw [Nat.add_assoc]⟩
                        clear R2 B2 A9 B9 G2
                        go_wp2_with (at_builtin; refine wpList_of_append rfl (.tmp 99) (.tmp 101) 54 rfl _ _ _ rfl rfl HA.out ?_)
                        go_roundw
                        case rel =>
                          refine ⟨k + 1, p + (19 + m), addR R k _, by go_num, Lib.hid ⟨B3.out, R3.out, ?_, fun i hi => ?_, fun i hi => ?_⟩⟩
                          · show nxtP Z (posP Z 6 k) = _
                            rw [HP.out]; unfold nxtP; rw [HRC.out]
                          · rcases Nat.lt_or_ge i k with h | h
                            · exact HS.out.okk i h
                            · have : i = k := by omega
                              subst this; rw [HP.out]; exact ⟨hlt, hE.out⟩
                          · rcases Nat.lt_or_ge i k with h | h
                            · rw [addR_other _ _ (by omega)]; exact HS.out.is i h
                            · have : i = k := by omega
                              subst this; rw [HP.out, addR_same]; exact IS.out
                        case measure => simp [intOf] <;> omega
                      · have d3 : (sm == y) = false := by simpa using he
                        have d4 : decide (sm = y) = false := by simpa using he
                        have hE : Hid (errP Z n p = 4) := Lib.hid (by rw [hEm2.out, if_pos he])
                        clear he hEm2
                        (refine MixC.mix_read rfl (fun K hK => ?_); go_simp; refine hK _ ?_; clear hK K)
                        refine MixC.mix_nil ?_
                        clear hne
                        have B2 : Hid (Below w.heap.size w V1.drew) := Lib.hid BV.out.drew
                        have R2 : Hid (RList R k w.heap.size (.slice v4a k v4c) V1.drew) := Lib.hid (RV.out.below (Below.refl _ _).drew)
                        go_wp2_with fail
                        go_ret2
                        exact ⟨_, _, _, R, 4, rfl, B2.out, R2.out, .inr (.inr ⟨by omega, HH.out, hbad.out _ hE.out (by decide), HS.out.is⟩)⟩
          · have : p = n := by omega
            subst this
            clear hlt
            go_wp2_with fail
            go_ret2
            exact ⟨_, _, _, R, 0, rfl, HS.out.bl, HS.out.row, .inr (.inr ⟨h6, HH.out, ⟨HS.out.okk, .inl ⟨hp, rfl⟩⟩, HS.out.is⟩)⟩
      · rw [show (!hdB Z) = true by unfold hdS at hh; simpa using hh]
        clear d1 q1
        go_wp2_with fail
        go_ret2
        exact ⟨none, 0, 0, fun _ => default, 3, rfl, BWC.out, RList.nil _ _ _, .inr (.inl ⟨by omega, hh, rfl, rfl⟩)⟩
end Go.Proofs.Ytdmbdageohjodaa
