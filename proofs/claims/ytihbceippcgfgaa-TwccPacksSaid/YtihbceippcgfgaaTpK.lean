/-
  Chapter 37: Pack.
-/
import Derived.Test.YtihbceippcgfgaaTpQ
import Derived.Test.YtihbceippcgfgaaTpU
namespace Go.Proofs.Ytihbceippcgfgaa
open Go.RowKit
set_option linter.unusedVariables false
set_option linter.unusedSimpArgs false
attribute [local irreducible] wpStill wpQuiet

theorem putL1 (x : Int) (h0 : 0 ≤ x) (h1 : x ≤ 255) : putL x 1 = [x] := by
  show [x / 2 ^ 0 % 256] = _
  rw [Int.pow_zero, Int.ediv_one]
  congr 1
  omega
theorem putL2 (x : Int) : putL x 2 = [x / 256 % 256, x % 256] := by
  show [x / 2 ^ 8 % 256, x / 2 ^ 0 % 256] = _
  rw [Int.pow_zero, Int.ediv_one]
  rfl
theorem putL2w (x : Int) (h0 : 0 ≤ x) (h1 : x ≤ 65535) : putL x 2 = [x / 256, x % 256] := by
  rw [putL2, show x / 256 % 256 = x / 256 by omega]
/-- bytes of a call's own -/
def OwnB (w : World) (B : Nat) (a : Option Addr) (N c : Nat) (L : List Int) : Prop := w.ownsRow B 5 1 (.slice a N c) N (u8s L) ∧ Oct L
theorem putB {w : World} {B : Nat} {a : Option Addr} {N c : Nat} {L : List Int} (h : OwnB w B a N c L) (m : Nat) (x : Int) (M : List Int) (hN : N ≤ 100000) (hm1 : 1 ≤ m) (hm2 : m ≤ 8) (hx0 : 0 ≤ x) (hx1 : x ≤ 18446744073709551615) (hM : putL x m = M) (hB : B ≤ w.heap.size) :
    Calls Try.prog 76 #[.slice a N c, .int .i64 m, .int .u64 x] w fun e w' => ∃ a' c', e = .returned (.slice a' (N + m) c') ∧ OwnB w' B a' (N + m) c' (L ++ M) ∧ Below w.heap.size w w' := by
  subst hM
  refine (put_l a N c L B m x w h.1 h.2 hN hm1 hm2 hx0 hx1).mono ?_
  rintro e w' ⟨a', c', rfl, o, b⟩
  exact ⟨a', c', rfl, ⟨o.mono hB, h.2.app (putL_oct _ _)⟩, b⟩
theorem OwnB.nil (w : World) (B : Nat) : OwnB w B none 0 0 [] := ⟨World.ownsRow_nil _ _ _ _, Oct.nil⟩
theorem OwnB.keep {w w' : World} {B : Nat} {a : Option Addr} {N c : Nat} {L : List Int} (h : OwnB w B a N c L) (b : Below w.heap.size w w') : OwnB w' B a N c L := ⟨own_below h.1 b, h.2⟩
/-- what Pack makes -/
def PkPost (base : Int) (X : Nat → Int) (n : Nat) (r : Value) (w : World) (e : Ending) (w' : World) : Prop :=
  ∃ J N a c, Many (sg X) n J ∧ N = (pks base X n J).length ∧ e = .returned (.tuple #[.slice a N c, r]) ∧ OwnB w' w.heap.size a N c (pks base X n J) ∧ Below w.heap.size w w'
def lnOf : Value → Nat
  | .slice _ n _ => n
  | _ => 0
theorem wbs_succ (σ : Nat → Int) (n j : Nat) : wbs σ n (j + 1) = wbs σ n j ++ [wd σ n (pos σ n j) / 256, wd σ n (pos σ n j) % 256] := rfl
theorem sbs_succ (X : Nat → Int) (k : Nat) : sbs X (k + 1) = sbs X k ++ sb X k := rfl
theorem pos_succ (σ : Nat → Int) (n j : Nat) : pos σ n (j + 1) = nx σ n (pos σ n j) := rfl

theorem own_pos {w : World} {base : Nat} {e : TypeId} {size : Nat} {v : Value} {n : Nat} {xs : List Value} (h : w.ownsRow base e size v n xs) (hn : 0 < n) :
    ∃ g cap, v = .slice (some ⟨g, 0, none⟩) n cap ∧ base ≤ g ∧ g < w.heap.size ∧ n ≤ cap ∧ cap ≤ 9223372036854775807 := by
  have hlt := h.lt
  obtain ⟨h1, h2⟩ := h
  rcases h2 with ⟨_, h0⟩ | ⟨g, cap, cur, hv, hg, hh, hn2, hcap, hsz, _⟩
  · omega
  · exact ⟨g, cap, hv, hg, lt_of_block hh, hn2, by unfold maxLen at hcap; omega⟩
theorem hd4_eq (base : Int) (n : Nat) : ([base / 256, base % 256] ++ [(n : Int) / 256, (n : Int) % 256] : List Int) = hd4 base n ++ wbs (sg fun _ => 0) n 0 := rfl

set_option maxRecDepth 100000 in
set_option maxHeartbeats 4000000 in
theorem pack_good (base : Int) (hb : 0 ≤ base ∧ base ≤ 65535) (w : World) (a : Option Addr) (n cap : Nat) (X : Nat → Int) (h : IRow w a n cap X) (hn1 : 1 ≤ n) (hn : n ≤ 400) (hw : ∀ i, i < n → -9223372036854775808 ≤ X i ∧ X i ≤ 9223372036854775807) (hg : good X n) :
    Calls Try.prog 51 #[.int .u16 base, .slice a n cap] w (PkPost base X n (.int .i64 0) w) := by
  have hs := steps_any w a n cap X h (by omega) hw
  obtain ⟨m, hm⟩ : ∃ m, m = (cs X n).length := ⟨_, rfl⟩
  rw [← hm] at hs
  have hmn : m ≤ n := by rw [hm]; exact cs_len X n
  have HS := Lib.hid hs
  have HM := Lib.hid hm
  have HG := Lib.hid hg
  have hle := h.le
  have hmx := h.max
  have hp1 : Hid (putL base 2 = [base / 256, base % 256]) := Lib.hid (putL2w base hb.1 hb.2)
  have hp2 : Hid (putL (n : Int) 2 = [(n : Int) / 256, (n : Int) % 256]) := Lib.hid (putL2w n (by omega) (by omega))
  have hσ : Hid (∀ i, 0 ≤ sg X i ∧ sg X i ≤ 2) := Lib.hid (sg_bd X)
  clear h hw hg hs hm
  have t1 : decide ((n : Int) < 1) = false := by simp; omega
  have t2 : decide (400 < (n : Int)) = false := by simp; omega
  go_enter Try.func51, Try.ntmps51
  go_wp2_with fail
  go_step3
  go_wp2_with fail
  refine HS.out.mono ?_
  rintro e w1 ⟨⟨_, a1, c1, a2, c2, rfl, T⟩ | ⟨hno, _⟩, B1⟩
  case inr => exact absurd HG.out hno
  obtain ⟨s, d1, he1, g1, g2, l1, l2⟩ := own_pos T.one (by omega)
  cases he1
  have HT := Lib.hid T
  have hB1 := B1.size
  have HK : Hid (∀ i, i < n → w1.cell? ⟨s, i, none⟩ = some (.int .i64 (sg X i))) := Lib.hid (fun i hi => own_cell T.one (vsI_fl _ hi))
  clear T
  go_wp2_with fail
  refine (putB (OwnB.nil w1 w.heap.size) 2 base [base / 256, base % 256] (by omega) (by omega) (by omega) hb.1 (by omega) hp1.out hB1).mono ?_
  rintro e w2 ⟨a3, c3, rfl, O2, B2⟩
  have hB2 := B2.size
  go_wp2_with fail
  refine (putB O2 2 n [(n : Int) / 256, (n : Int) % 256] (by omega) (by omega) (by omega) (by omega) (by omega) hp2.out (by omega)).mono ?_
  rintro e w3 ⟨a4, c4, rfl, O3, B3⟩
  have hB3 := B3.size
  have HO3 : Hid (OwnB w3 w.heap.size a4 4 c4 (hd4 base n ++ wbs (sg X) n 0)) := Lib.hid O3
  have HB3 : Hid (Below w1.heap.size w1 w3) := Lib.hid (B2.trans (B3.mono hB2))
  have HB1 := Lib.hid B1
  clear O2 O3 B1 B2 B3
  go_wp2_with fail
  go_step3
  go_wp2_with fail
  go_loopw [9, 10] (fun so sl wr => ∃ (j q N lc c' : Nat) (la a' : Option Addr), sl = .slice la q lc ∧ so = .slice a' N c' ∧ q ≤ n ∧ q ≤ lc ∧ lc ≤ 9223372036854775807 ∧ N ≤ 1000 ∧ Hid (q = n - pos (sg X) n j) ∧ Hid (0 < q → la = some ⟨s, pos (sg X) n j, none⟩) ∧ Hid (N = 4 + 2 * j) ∧ Hid (∀ i, i < j → pos (sg X) n i < n) ∧ Hid (OwnB wr w.heap.size a' N c' (hd4 base n ++ wbs (sg X) n j)) ∧ Hid (Below w1.heap.size w1 wr)) (fun _ sl _ => lnOf sl)
  case atStart => exact ⟨0, n, 4, c1, c4, some ⟨s, 0, none⟩, a4, rfl, rfl, by omega, by omega, by omega, by omega, Lib.hid rfl, Lib.hid (fun _ => rfl), Lib.hid rfl, Lib.hid (fun i hi => by omega), HO3, HB3⟩
  case round =>
    obtain ⟨j, q, N, lc, c', la, a', rfl, rfl, hqn, hql, hlc, hN, HQ, HLA, HN, HJ, HO, HB⟩ := hrel
    by_cases hq : 0 < q
    · obtain rfl := HLA.out hq
      have hpn : pos (sg X) n j + q = n := by have := HQ.out; omega
      have hpl : Hid (pos (sg X) n j < n) := Lib.hid (by omega)
      have hr0 := rl_run (σ := sg X) hpl.out
      generalize hp : pos (sg X) n j = p at hpn hpl hr0 ⊢
      have HP := Lib.hid hp
      have hPart : Part wr s p q (sg X) := ⟨by have := HB.out.size; omega, fun i hi => Below.cell' HB.out g2 (HK.out (p + i) (by omega))⟩
      have hrun := run_any (sg X) wr s p q lc hPart (by omega) (by omega) hql hlc
      rw [hpn] at hrun
      have hrq : rl (sg X) n p ≤ q ∧ 1 ≤ rl (sg X) n p := by have := hr0.le; have := hr0.pos; omega
      have hisR : Hid (isR (sg X) n p ↔ 7 ≤ rl (sg X) n p ∨ rl (sg X) n p = q) := Lib.hid (by unfold isR; omega)
      generalize hr : rl (sg X) n p = r at hrun hrq hisR
      have HR := Lib.hid hr
      have HRUN := Lib.hid hrun
      have hJ2 : Hid (∀ i, i < j + 1 → pos (sg X) n i < n) := Lib.hid (fun i hi => by
        by_cases e : i = j
        · subst e; rw [HP.out]; exact hpl.out
        · exact HJ.out i (by omega))
      have hj : j ≤ 400 := by have := pos_ge HJ.out; have := hpl.out; have := HP.out; omega
      have hcp := HK.out p (by omega)
      have HCP := Lib.hid (Below.cell' HB.out g2 hcp)
      have hsl : s < wr.heap.size := by have := HB.out.size; omega
      clear hp hr hr0 hpn hrun hPart hcp
      have hpq : Hid (p + q = n) := Lib.hid (by have := HQ.out; have := HP.out; have := hpl.out; omega)
      rcases (show 7 ≤ r ∨ (r < 7 ∧ r = q) ∨ (r < 7 ∧ r ≠ q) by omega) with hA | ⟨hA, hA2⟩ | ⟨hA, hA2⟩
      · have hR := hisR.out.2 (.inl hA)
        have HQ2 : Hid (q - r = n - pos (sg X) n (j + 1)) := Lib.hid (by rw [pos_succ, HP.out]; unfold nx; rw [if_pos hR, HR.out]; have := hpq.out; omega)
        have HL2 : Hid (0 < q - r → (if lc = r then some { block := s, off := p } else some { block := s, off := p + r } : Option Addr) = some ⟨s, pos (sg X) n (j + 1), none⟩) := Lib.hid (fun h0 => by rw [if_neg (by omega), pos_succ, HP.out]; unfold nx; rw [if_pos hR, HR.out])
        have hs := hσ.out p
        have hwd : wd (sg X) n p = sg X p * 8192 + r := by unfold wd; rw [if_pos hR, HR.out]
        have hwb := wd_bd hσ.out hpl.out hn
        obtain ⟨x, hx⟩ : ∃ x, x = wd (sg X) n p := ⟨_, rfl⟩
        rw [← hx] at hwb hwd
        have ho := orRun (sg X p) r hs (by omega)
        rw [← hwd] at ho
        have hbytes : Hid (hd4 base n ++ wbs (sg X) n j ++ [x / 256, x % 256] = hd4 base n ++ wbs (sg X) n (j + 1)) := Lib.hid (by rw [wbs_succ, HP.out, ← hx, List.append_assoc])
        have hpu := Lib.hid (putL2w x hwb.1 hwb.2)
        clear hR hwd hx
        generalize hy : sg X p = y at *
        clear hy
        have t7 : decide (7 ≤ (r : Int)) = true := by simp; omega
        go_wp2_with fail
        refine HRUN.out.mono ?_
        rintro e w4 ⟨rfl, B4⟩
        have cp := Below.cell' B4 hsl HCP.out
        have hB4 := B4.size
        go_wp2_with fail
        refine (putB (HO.out.keep B4) 2 x _ (by omega) (by omega) (by omega) (by omega) (by omega) hpu.out (by have := HB.out.size; omega)).mono ?_
        rintro e w5 ⟨a5, c5, rfl, O5, B5⟩
        have HO5 : Hid (OwnB w5 w.heap.size a5 (N + 2) c5 (hd4 base n ++ wbs (sg X) n (j + 1))) := Lib.hid (by rw [← hbytes.out]; exact O5)
        have HB5 := Lib.hid ((HB.out.trans (B4.mono HB.out.size)).trans (B5.mono (by have := HB.out.size; omega)))
        have HN5 : Hid (N + 2 = 4 + 2 * (j + 1)) := Lib.hid (by rw [HN.out]; omega)
        have hN5 : N + 2 ≤ 1000 := by have := HN.out; omega
        clear O5 B5 B4 cp
        go_wp2_with fail
        exact ⟨⟨j + 1, q - r, N + 2, lc - r, c5, _, a5, rfl, rfl, by omega, by omega, by omega, hN5, HQ2, HL2, HN5, hJ2, HO5, HB5⟩, by show q - r < q; omega⟩
      · have hR := hisR.out.2 (.inr hA2)
        subst hA2
        have HQ2 : Hid (0 = n - pos (sg X) n (j + 1)) := Lib.hid (by rw [pos_succ, HP.out]; unfold nx; rw [if_pos hR, HR.out]; have := hpq.out; omega)
        have hs := hσ.out p
        have hwd : wd (sg X) n p = sg X p * 8192 + r := by unfold wd; rw [if_pos hR, HR.out]
        have hwb := wd_bd hσ.out hpl.out hn
        obtain ⟨x, hx⟩ : ∃ x, x = wd (sg X) n p := ⟨_, rfl⟩
        rw [← hx] at hwb hwd
        have ho := orRun (sg X p) r hs (by omega)
        rw [← hwd] at ho
        have hbytes : Hid (hd4 base n ++ wbs (sg X) n j ++ [x / 256, x % 256] = hd4 base n ++ wbs (sg X) n (j + 1)) := Lib.hid (by rw [wbs_succ, HP.out, ← hx, List.append_assoc])
        have hpu := Lib.hid (putL2w x hwb.1 hwb.2)
        clear hR hwd hx
        generalize hy : sg X p = y at *
        clear hy
        have t7 : decide (7 ≤ (r : Int)) = false := by simp; omega
        have t8 : ((r : Int) == (r : Int)) = true := by simp
        go_wp2_with fail
        refine HRUN.out.mono ?_
        rintro e w4 ⟨rfl, B4⟩
        have cp := Below.cell' B4 hsl HCP.out
        have hB4 := B4.size
        go_wp2_with fail
        refine (putB (HO.out.keep B4) 2 x _ (by omega) (by omega) (by omega) (by omega) (by omega) hpu.out (by have := HB.out.size; omega)).mono ?_
        rintro e w5 ⟨a5, c5, rfl, O5, B5⟩
        have HO5 : Hid (OwnB w5 w.heap.size a5 (N + 2) c5 (hd4 base n ++ wbs (sg X) n (j + 1))) := Lib.hid (by rw [← hbytes.out]; exact O5)
        have HB5 := Lib.hid ((HB.out.trans (B4.mono HB.out.size)).trans (B5.mono (by have := HB.out.size; omega)))
        have HN5 : Hid (N + 2 = 4 + 2 * (j + 1)) := Lib.hid (by rw [HN.out]; omega)
        have hN5 : N + 2 ≤ 1000 := by have := HN.out; omega
        clear O5 B5 B4 cp
        go_wp2_with fail
        exact ⟨⟨j + 1, 0, N + 2, lc - r, c5, _, a5, rfl, rfl, by omega, by omega, by omega, hN5, HQ2, Lib.hid (fun h0 => by omega), HN5, hJ2, HO5, HB5⟩, by show 0 < r; omega⟩
      · have hR : ¬ isR (sg X) n p := fun h => by have := hisR.out.1 h; omega
        have t7 : decide (7 ≤ (r : Int)) = false := by simp; omega
        have t8 : ((r : Int) == (q : Int)) = false := by simp; omega
        obtain ⟨k7, hk7⟩ : ∃ k7, k7 = min 7 q := ⟨_, rfl⟩
        have hk1 : k7 ≤ 7 := by omega
        have hk2 : k7 ≤ q := by omega
        have hk3 : 1 ≤ k7 := by omega
        have hmI : (if (q : Int) < 7 then (q : Int) else 7) = k7 := by split <;> omega
        have HQ2 : Hid (q - k7 = n - pos (sg X) n (j + 1)) := Lib.hid (by rw [pos_succ, HP.out]; unfold nx; rw [if_neg hR]; have := hpq.out; omega)
        have HL2 : Hid (0 < q - k7 → (if lc = k7 then some { block := s, off := p } else some { block := s, off := p + k7 } : Option Addr) = some ⟨s, pos (sg X) n (j + 1), none⟩) := Lib.hid (fun h0 => by rw [if_neg (by omega), pos_succ, HP.out]; unfold nx; rw [if_neg hR, show k7 = 7 by omega])
        have hwb := wd_bd hσ.out hpl.out hn
        obtain ⟨x, hx⟩ : ∃ x, x = wd (sg X) n p := ⟨_, rfl⟩
        rw [← hx] at hwb
        have hxr : rowW (sg X) n p = x := by rw [hx]; unfold wd; rw [if_neg hR]
        have hbytes : Hid (hd4 base n ++ wbs (sg X) n j ++ [x / 256, x % 256] = hd4 base n ++ wbs (sg X) n (j + 1)) := Lib.hid (by rw [wbs_succ, HP.out, ← hx, List.append_assoc])
        have hpu := Lib.hid (putL2w x hwb.1 hwb.2)
        have HXR := Lib.hid hxr
        clear hR hx hk7 hxr
        go_wp2_with fail
        refine HRUN.out.mono ?_
        rintro e w4 ⟨rfl, B4⟩
        have hB4 := B4.size
        have hrow := rowOf_any (sg X) hσ.out w4 s p q lc (Part.keep ⟨hsl, fun i hi => Below.cell' HB.out g2 (HK.out (p + i) (by have := hpq.out; omega))⟩ B4) (by omega) (by omega) hql hlc
        rw [hpq.out, HXR.out] at hrow
        go_wp2_with fail
        refine hrow.mono ?_
        rintro e w6 ⟨rfl, B6⟩
        have hB6 := B6.size
        go_wp2_with fail
        refine (putB ((HO.out.keep B4).keep B6) 2 x _ (by omega) (by omega) (by omega) (by omega) (by omega) hpu.out (by have := HB.out.size; omega)).mono ?_
        rintro e w5 ⟨a5, c5, rfl, O5, B5⟩
        have HO5 : Hid (OwnB w5 w.heap.size a5 (N + 2) c5 (hd4 base n ++ wbs (sg X) n (j + 1))) := Lib.hid (by rw [← hbytes.out]; exact O5)
        have HB5 := Lib.hid (((HB.out.trans (B4.mono HB.out.size)).trans (B6.mono (by have := HB.out.size; omega))).trans (B5.mono (by have := HB.out.size; omega)))
        have HN5 : Hid (N + 2 = 4 + 2 * (j + 1)) := Lib.hid (by rw [HN.out]; omega)
        have hN5 : N + 2 ≤ 1000 := by have := HN.out; omega
        clear O5 B5 B4 B6 hrow
        go_wp2_with fail
        exact ⟨⟨j + 1, q - k7, N + 2, lc - k7, c5, _, a5, rfl, rfl, by omega, by omega, by omega, hN5, HQ2, HL2, HN5, hJ2, HO5, HB5⟩, by show q - k7 < q; omega⟩
    · obtain rfl : q = 0 := by omega
      have HMany : Hid (Many (sg X) n j) := Lib.hid ⟨by have := HQ.out; omega, HJ.out⟩
      have hj : j ≤ 400 := by have := HMany.out.le; omega
      clear HLA HQ
      go_wp2_with fail
      generalize hwW : wr = W5 at *
      clear hwW
      go_loopw [9, 12, 78] (fun so sc si wr => ∃ (i cm N : Nat) (a' : Option Addr) (c' : Nat), i ≤ n ∧ cm ≤ i ∧ N ≤ 2000 ∧ si = .int .i64 i ∧ sc = .int .i64 cm ∧ so = .slice a' N c' ∧ Hid (cm = (cs X i).length) ∧ Hid (N = 4 + 2 * j + (sbs X i).length) ∧ Hid (OwnB wr w.heap.size a' N c' (hd4 base n ++ wbs (sg X) n j ++ sbs X i)) ∧ Hid (Below w1.heap.size w1 wr)) (fun _ _ si _ => n - (intOf si).toNat)
      case atStart => exact ⟨0, 0, N, a', c', by omega, by omega, by omega, rfl, rfl, rfl, Lib.hid rfl, Lib.hid (by rw [HN.out]; rfl), Lib.hid (by have := HO.out; rw [show sbs X 0 = [] from rfl, List.append_nil]; exact this), HB⟩
      case round =>
        clear HO HB HN hN
        obtain ⟨i, cm, N, a', c', hi, hcm, hN, rfl, rfl, rfl, HC, HN, HO, HB⟩ := hrel
        by_cases hlt : i < n
        · have hB5 := HB.out.size
          have ci := Below.cell' HB.out g2 (HK.out i hlt)
          by_cases hx : X i = -1
          · have hsg := sg_zero.2 hx
            rw [hsg] at ci
            have HC2 : Hid (cm = (cs X (i + 1)).length) := Lib.hid (by show _ = (cs X i ++ (if X i = -1 then [] else [stp X i])).length; rw [if_pos hx, List.append_nil]; exact HC.out)
            have hsb : sb X i = [] := if_pos hx
            have HN2 : Hid (N = 4 + 2 * j + (sbs X (i + 1)).length) := Lib.hid (by rw [sbs_succ, hsb, List.append_nil]; exact HN.out)
            have HO2 : Hid (OwnB wr w.heap.size a' N c' (hd4 base n ++ wbs (sg X) n j ++ sbs X (i + 1))) := Lib.hid (by rw [sbs_succ, hsb, List.append_nil]; exact HO.out)
            clear hx hsg hsb
            go_wp2_with fail
            go_roundw
            case rel => exact ⟨i + 1, cm, N, a', c', by omega, by omega, by omega, by go_num, rfl, rfl, HC2, HN2, HO2, HB⟩
            case measure => simp [intOf] <;> omega
          · have hget := cs_get X hx hlt
            rw [← HC.out] at hget
            have hmm : cm < m := by have := (List.getElem?_eq_some_iff.1 hget).1; have := HM.out; omega
            obtain ⟨s2, d2, he2, u1, u2, u3, u4⟩ := own_pos HT.out.two (by omega)
            cases he2
            have cd := Below.cell' HB.out u2 (own_cell HT.out.two (vsI_get hget))
            have hok := HG.out i hlt
            have HC2 : Hid (cm + 1 = (cs X (i + 1)).length) := Lib.hid (by show _ = (cs X i ++ (if X i = -1 then [] else [stp X i])).length; rw [if_neg hx, List.length_append, ← HC.out]; rfl)
            have hsl2 : (sbs X i).length ≤ 2 * i := sbs_len X i
            have hN3 : N ≤ 4 + 2 * j + 2 * i := by have := HN.out; omega
            rcases (show sg X i = 1 ∨ sg X i = 2 by have := hσ.out i; have h0 : sg X i ≠ 0 := fun e => hx (sg_zero.1 e); omega) with h1 | h2
            · have hd := sg_one h1
              rw [h1] at ci
              have hsb : sb X i = [stp X i] := by unfold sb; rw [if_neg hx, if_pos h1]
              have HSB := Lib.hid hsb
              have hpu := Lib.hid (putL1 (stp X i) hd.1 hd.2)
              clear hsb h1 hok hget hsl2
              generalize hz : stp X i = z at *
              clear hz
              go_wp2_with fail
              refine (putB HO.out 1 z _ (by omega) (by omega) (by omega) (by omega) (by omega) hpu.out (by omega)).mono ?_
              rintro e w4 ⟨a5, c5, rfl, O5, B5⟩
              have HO5 : Hid (OwnB w4 w.heap.size a5 (N + 1) c5 (hd4 base n ++ wbs (sg X) n j ++ sbs X (i + 1))) := Lib.hid (by rw [sbs_succ, HSB.out, ← List.append_assoc]; exact O5)
              have HN5 : Hid (N + 1 = 4 + 2 * j + (sbs X (i + 1)).length) := Lib.hid (by rw [sbs_succ, HSB.out, List.length_append, ← Nat.add_assoc, ← HN.out]; rfl)
              have HB5 := Lib.hid (HB.out.trans (B5.mono hB5))
              clear O5 B5
              go_wp2_with fail
              go_roundw
              case rel => exact ⟨i + 1, cm + 1, N + 1, a5, c5, by omega, by omega, by omega, by go_num, by go_num, rfl, HC2, HN5, HO5, HB5⟩
              case measure => simp [intOf] <;> omega
            · rw [h2] at ci
              have hsb : sb X i = [stp X i % 65536 / 256, stp X i % 65536 % 256] := by unfold sb; rw [if_neg hx, if_neg (by omega)]
              have HSB := Lib.hid hsb
              obtain ⟨_, _, o3, o4⟩ := hok
              clear hsb h2 hget hsl2
              generalize hz : stp X i = z at *
              clear hz
              have hwz : 0 ≤ IntKind.u64.wrap z ∧ IntKind.u64.wrap z ≤ 18446744073709551615 ∧ putL (IntKind.u64.wrap z) 2 = [z % 65536 / 256, z % 65536 % 256] := by
                rw [putL2, IntKind.wrap_u64]
                refine ⟨by omega, by omega, ?_⟩
                congr 1
                · omega
                · congr 1
                  omega
              have HWZ := Lib.hid hwz
              clear hwz
              go_wp2_with fail
              refine (putB HO.out 2 (IntKind.u64.wrap z) _ (by omega) (by omega) (by omega) HWZ.out.1 HWZ.out.2.1 HWZ.out.2.2 (by omega)).mono ?_
              rintro e w4 ⟨a5, c5, rfl, O5, B5⟩
              have HO5 : Hid (OwnB w4 w.heap.size a5 (N + 2) c5 (hd4 base n ++ wbs (sg X) n j ++ sbs X (i + 1))) := Lib.hid (by rw [sbs_succ, HSB.out, ← List.append_assoc]; exact O5)
              have HN5 : Hid (N + 2 = 4 + 2 * j + (sbs X (i + 1)).length) := Lib.hid (by rw [sbs_succ, HSB.out, List.length_append, ← Nat.add_assoc, ← HN.out]; rfl)
              have HB5 := Lib.hid (HB.out.trans (B5.mono hB5))
              clear O5 B5
              go_wp2_with fail
              go_roundw
              case rel => exact ⟨i + 1, cm + 1, N + 2, a5, c5, by omega, by omega, by omega, by go_num, by go_num, rfl, HC2, HN5, HO5, HB5⟩
              case measure => simp [intOf] <;> omega
        · obtain rfl : n = i := by omega
          have HN9 : Hid (N = (pks base X n j).length) := Lib.hid (by rw [pks_len]; exact HN.out)
          have HB9 : Hid (Below w.heap.size w wr) := Lib.hid (HB1.out.trans (HB.out.mono hB1))
          go_wp2_with fail
          simp only [Exit.inBlock, Exit.then, Exit.noGoto_normal, Exit.noGoto_ret, Exit.noGoto_exit]
          go_returns
          exact ⟨j, N, a', c', HMany.out, HN9.out, rfl, HO.out, HB9.out⟩
set_option maxRecDepth 100000 in
set_option maxHeartbeats 2000000 in
theorem pack_bad (base : Int) (w : World) (a : Option Addr) (n cap : Nat) (X : Nat → Int) (h : IRow w a n cap X) (hn : n ≤ 1000) (hw : ∀ i, i < n → -9223372036854775808 ≤ X i ∧ X i ≤ 9223372036854775807) (hno : ¬ (1 ≤ n ∧ n ≤ 400 ∧ good X n)) :
    Calls Try.prog 51 #[.int .u16 base, .slice a n cap] w fun e w' => e = .returned (.tuple #[.slice none 0 0, .int .i64 1]) ∧ Below w.heap.size w w' := by
  have hs := steps_any w a n cap X h (by omega) hw
  obtain ⟨m, hm⟩ : ∃ m, m = (cs X n).length := ⟨_, rfl⟩
  rw [← hm] at hs
  have HS := Lib.hid hs
  have HM := Lib.hid hm
  have HNO := Lib.hid hno
  have hle := h.le
  have hmx := h.max
  clear h hw hs hm hno
  go_enter Try.func51, Try.ntmps51
  go_wp2_with fail
  go_step3
  go_wp2_with fail
  refine HS.out.mono ?_
  rintro e w1 ⟨⟨hg, a1, c1, a2, c2, rfl, T⟩ | ⟨hno, rfl⟩, B1⟩
  · have HB1 := Lib.hid B1
    rcases (show n < 1 ∨ 400 < n by have := HNO.out; by_cases h1 : n < 1 <;> by_cases h2 : 400 < n <;> first | (left; assumption) | (right; assumption) | exact absurd ⟨by omega, by omega, hg⟩ this) with hn1 | hn4
    · have t1 : decide ((n : Int) < 1) = true := by simp; omega
      clear T B1 hn1
      go_wp2_with fail
      simp only [Exit.inBlock, Exit.then, Exit.noGoto_normal, Exit.noGoto_ret, Exit.noGoto_exit]
      go_returns
      exact ⟨rfl, HB1.out⟩
    · have t1 : decide ((n : Int) < 1) = false := by simp; omega
      have t2 : decide (400 < (n : Int)) = true := by simp; omega
      clear T B1 hn4
      go_wp2_with fail
      simp only [Exit.inBlock, Exit.then, Exit.noGoto_normal, Exit.noGoto_ret, Exit.noGoto_exit]
      go_returns
      exact ⟨rfl, HB1.out⟩
  · have HB1 := Lib.hid B1
    clear B1 hno
    by_cases hn1 : n < 1
    · have t1 : decide ((n : Int) < 1) = true := by simp; omega
      clear hn1
      go_wp2_with fail
      simp only [Exit.inBlock, Exit.then, Exit.noGoto_normal, Exit.noGoto_ret, Exit.noGoto_exit]
      go_returns
      exact ⟨rfl, HB1.out⟩
    · have t1 : decide ((n : Int) < 1) = false := by simp; omega
      clear hn1
      by_cases hn4 : 400 < n
      · have t2 : decide (400 < (n : Int)) = true := by simp; omega
        clear hn4
        go_wp2_with fail
        simp only [Exit.inBlock, Exit.then, Exit.noGoto_normal, Exit.noGoto_ret, Exit.noGoto_exit]
        go_returns
        exact ⟨rfl, HB1.out⟩
      · have t2 : decide (400 < (n : Int)) = false := by simp; omega
        clear hn4
        go_wp2_with fail
        simp only [Exit.inBlock, Exit.then, Exit.noGoto_normal, Exit.noGoto_ret, Exit.noGoto_exit]
        go_returns
        exact ⟨rfl, HB1.out⟩
end Go.Proofs.Ytihbceippcgfgaa
