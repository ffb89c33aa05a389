/-
  The law CaptureCuts.
-/
import Derived.Test.YtdmbdageohjodaaCpW
namespace Go.Proofs.Ytdmbdageohjodaa
open Go.RowKit
set_option linter.unusedVariables false
set_option linter.unusedSimpArgs false
attribute [local irreducible] wpStill wpQuiet MixC.wpMix MixC.wpPick
attribute [local go_sem] MixC.rdOp MixC.rd MixC.rdUpon MixC.mvUpon

theorem Rcds.cut {B : Nat} {w : World} {ad : Option Addr} {len cap : Nat} {Q : Nat → Rcd} (h : Rcds B w ad len cap Q) {k : Nat} (hk : k ≤ len) : Rcds B w ad k cap Q := by
  obtain ⟨h1, h2, h3, b, off, h4, h5⟩ := h
  exact ⟨by omega, h2, fun i hi => h3 i (by omega), b, off, h4, fun i hi => h5 i (by omega)⟩
theorem fil_succ (Q : Nat → Rcd) (k : Nat) : (filL Q (k + 1)).length = (filL Q k).length + (19 + (Q k).n) := by show (filL Q k ++ oneL (Q k)).length = _; rw [List.length_append, oneL_len]
/-- a file cut behind k records, and less than one more -/
theorem fil_cut {B : Nat} {w : World} {Q : Nat → Rcd} {len k m : Nat} (ok : ∀ i, i < len → RcdOk B w (Q i)) (ha : allR Q len) (hk : k ≤ len) (hm : m ≤ (filL Q len).length) (h1 : (filL Q k).length ≤ m) (h2 : k < len → m < (filL Q (k + 1)).length) :
    RdD (gz (filL Q len)) m k (if (filL Q k).length = m then 0 else 2) Q := by
  have h6 := (filL_pre Q 0 k (Nat.zero_le _)).1
  have h60 : (filL Q 0).length = 6 := rfl
  refine .inr (.inr ⟨by omega, ?_, ⟨fun i hi => ?_, ?_⟩, fun i hi => ?_⟩)
  · have h6 := (filL_pre Q 0 len (Nat.zero_le _))
    unfold hdS hdB
    rw [strOf_congr (Z' := gz begL) (fun i hi => h6.2 i (by omega))]
    simp
  · rw [fil_pos ok ha i (by omega)]
    have h1 := fil_succ Q i
    have h2 := (filL_pre Q (i + 1) k (by omega)).1
    exact ⟨by omega, (fil_at ok ha (by omega)).err (ha i (by omega)) (ok i (by omega)).t1 (by omega)⟩
  · rw [fil_pos ok ha k hk]
    by_cases he : (filL Q k).length = m
    · rw [if_pos he]; exact .inl ⟨he, rfl⟩
    · rw [if_neg he]
      have hkl : k < len := by
        rcases Nat.lt_or_ge k len with h | h
        · exact h
        · have : k = len := by omega
          subst this; omega
      refine .inr ⟨by omega, ?_, by decide⟩
      have := h2 hkl
      rw [fil_succ] at this
      unfold errP oneE
      rw [(fil_at ok ha hkl).rcM, if_pos (.inr (by omega))]
  · rw [fil_pos ok ha i (by omega)]; exact (fil_at ok ha (by omega)).is
set_option maxRecDepth 100000 in
set_option maxHeartbeats 4000000 in
theorem CaptureCuts.walk (v : Value) (u : Int) (w : World) (r : Reads Try.prog w 6 54 v) (hu : (Lit.int .u16 u).wf = true) :
    Calls Try.prog 9 #[v, .int .u16 u] w fun e w' => e = .returned (.bool true) ∧ Below w.heap.size w w' := by
  obtain ⟨a, len, cap, Q, rfl, hb⟩ := rcds_of r
  have HB := Lib.hid hb
  have hle := hb.le
  have hmx := hb.max
  obtain ⟨u0, u1⟩ := bounds_u16 hu
  clear hb r hu
  go_enter Try.func9, Try.ntmps9
  go_wp2_with fail
  refine (alive45_any w).mono ?_
  rintro e w1 ⟨rfl, b1⟩
  have B1 := Lib.hid b1
  clear b1
  go_wp2_with fail
  refine (great45_any w.heap.size a len cap Q w1 (HB.out.keep B1.out) B1.out.size).mono ?_
  rintro e w2 ⟨g, rfl, hg, b2⟩
  have B2 := Lib.hid (B1.out.trans (b2.mono B1.out.size))
  clear b2
  cases g with
  | true =>
    go_wp2_with fail
    go_ret
    exact ⟨rfl, B2.out⟩
  | false =>
    have h60 : len ≤ 60 := hg rfl
    clear hg
    go_wp2_with fail
    refine (write45_any w.heap.size a len cap Q w2 (HB.out.keep B2.out) B2.out.size h60).mono ?_
    rintro e w3 ⟨⟨hall, a1, N, c1, rfl, hN, o1⟩ | ⟨hno, rfl⟩, b3⟩
    · have B3 := Lib.hid (B2.out.trans (b3.mono B2.out.size))
      have HA := Lib.hid hall
      have hNb := filL_le Q len hall
      rw [← hN] at hNb
      have hok : ∀ i, i < len → RcdOk w.heap.size w (Q i) := fun i hi => HB.out.ok i hi
      have hoc := filL_oct Q len hall hok
      obtain ⟨-, a', c', he, hs1⟩ := BS.own o1 hoc (by omega)
      cases he
      have HS1 := Lib.hid hs1
      have HN := Lib.hid hN
      have HOK := Lib.hid hok
      have hcl := hs1.le
      have hcm := hs1.max
      clear b3 o1 hs1 hok hoc hN hall
      have hi64 : IntKind.i64.wrap u = u := IntWalk.i64_in _ (by omega)
      obtain ⟨m, hm⟩ : ∃ m : Nat, u.tmod (N + 1) = m := ⟨(u.tmod (N + 1)).toNat, by rw [Int.tmod_eq_emod_of_nonneg u0]; have := Int.emod_nonneg u (show (N : Int) + 1 ≠ 0 by omega); omega⟩
      have hmN : m ≤ N := by
        have h := Int.emod_lt_of_pos u (show (0 : Int) < N + 1 by omega)
        rw [← Int.tmod_eq_emod_of_nonneg u0, hm] at h
        omega
      obtain ⟨bb, ob, hpb, -⟩ := HS1.out.mem
      obtain ⟨rfl, hbb⟩ := hpb (by omega)
      have hmw : IntKind.i64.wrap (m : Int) = m := IntWalk.i64_in _ (by omega)
      have hmc : (m : Int) ≤ c1 := by omega
      clear hpb
      go_wp2_with fail
      refine (read45_any w3.heap.size (some ⟨bb, ob, none⟩) m c1 (gz (filL Q len)) w3 (HS1.out.cut hmN (by omega) (Nat.le_refl _)) (Nat.le_refl _) (by omega)).mono ?_
      rintro e w4 ⟨a5, K, c5, R, E, rfl, b4, r4, h4⟩
      have B4 := Lib.hid (B3.out.trans (b4.mono B3.out.size))
      have R4 := Lib.hid r4
      have D4 : Hid (RdD (gz (filL Q len)) m K E R) := Lib.hid h4
      clear b4 r4 h4 hi64 hm
      by_cases h6 : m < 6
      · have d1 : decide ((m : Int) < 6) = true := by simp; omega
        have h0 : K = 0 ∧ E = 2 := by
          rcases D4.out with ⟨_, h⟩ | ⟨h, _⟩ | ⟨h, _⟩
          · exact h
          · omega
          · omega
        obtain ⟨e1, e2⟩ := h0
        subst e1 e2
        go_wp2_with fail
        go_ret
        exact ⟨rfl, B4.out⟩
      · have d1 : decide ((m : Int) < 6) = false := by simp; omega
        go_wp2_with fail
        go_loopw [10, 11] (fun s10 s11 wr => ∃ k p : Nat, k ≤ len ∧ s11 = .int .i64 k ∧ s10 = .int .i64 p ∧ Hid ((filL Q k).length = p) ∧ Hid (p ≤ m) ∧ Hid (Below w4.heap.size w4 wr)) (fun _ s11 _ => len - (intOf s11).toNat)
        case atStart => exact ⟨0, 6, by omega, rfl, rfl, Lib.hid rfl, Lib.hid (by omega), Lib.hid (Below.refl _ _)⟩
        case round =>
          obtain ⟨k, p, hk, rfl, rfl, HP, HLE, HS⟩ := hrel
          have hle3 := HLE.out
          clear d1
          by_cases hlt : k < len
          · have BW := Lib.hid (B4.out.trans (HS.out.mono B4.out.size))
            obtain ⟨b1, o1, hp1, hc1⟩ := (HB.out.keep BW.out).mem
            obtain ⟨rfl, hb1⟩ := hp1 (by omega)
            have c0 := hc1 k hlt 0 (by omega)
            have c1' := hc1 k hlt 1 (by omega)
            have c2 := hc1 k hlt 2 (by omega)
            have c3 := hc1 k hlt 3 (by omega)
            have c4 := hc1 k hlt 4 (by omega)
            have ok := (HOK.out k hlt).keep BW.out
            have hmy := HA.out k hlt
            unfold okR at hmy
            have hfs := fil_succ Q k
            obtain ⟨q, hq⟩ : ∃ q, Q k = q := ⟨_, rfl⟩
            rw [hq] at c0 c1' c2 c3 c4 ok hmy hfs
            obtain ⟨tk, wy, ad, pt, ra, rn, rc, rZ⟩ := q
            simp only [Rcd.cell, Nat.add_zero] at c0 c1' c2 c3 c4
            simp only at hmy hfs
            rw [HP.out] at hfs
            have m3 := ((mayR_iff _ _ _).1 hmy).2.2.2
            have OK := Lib.hid ok
            have HMY := Lib.hid hmy
            have HFS := Lib.hid hfs
            have hki : (k : Int) < len := by omega
            have lb1 := World.block_lt_of_cell? _ _ c0
            have CC := Lib.hid (And.intro c0 (And.intro c1' (And.intro c2 (And.intro c3 c4))))
            clear hp1 hc1 ok hmy hfs hq
            by_cases hfit : p + (19 + rn) ≤ m
            · have d2 : decide ((p : Int) + (19 + (rn : Int)) ≤ m) = true := by simp; omega
              have d3 : decide ((p : Int) + ((19 + rn : Nat) : Int) ≤ m) = true := by simp; omega
              go_wp2_with fail
              refine (rone_any w.heap.size tk wy ad pt ra rn rc rZ wr OK.out BW.out.size HMY.out).mono ?_
              rintro e V1 ⟨av, cv, he, -, bv⟩
              simp only at he
              subst he
              have BV := Lib.hid bv
              have x0 := Below.cell' bv lb1 CC.out.1
              have x1 := Below.cell' bv lb1 CC.out.2.1
              have x2 := Below.cell' bv lb1 CC.out.2.2.1
              have x3 := Below.cell' bv lb1 CC.out.2.2.2.1
              have x4 := Below.cell' bv lb1 CC.out.2.2.2.2
              clear bv c0 c1' c2 c3 c4
              go_wp2_with fail
              refine (rone_any w.heap.size tk wy ad pt ra rn rc rZ V1 (OK.out.keep (BV.out.mono BW.out.size)) (Nat.le_trans BW.out.size BV.out.size) HMY.out).mono ?_
              rintro e V2 ⟨av2, cv2, he, -, bv2⟩
              simp only at he
              subst he
              have BV2 := Lib.hid (HS.out.trans ((BV.out.trans (bv2.mono BV.out.size)).mono HS.out.size))
              clear bv2 x0 x1 x2 x3 x4
              go_wp2_with fail
              go_roundw
              case rel => exact ⟨k + 1, p + (19 + rn), by omega, by go_num, by go_num, HFS, Lib.hid hfit, BV2⟩
              case measure => simp [intOf] <;> omega
            · have d2 : decide ((p : Int) + (19 + (rn : Int)) ≤ m) = false := by simp; omega
              have d3 : decide ((p : Int) + ((19 + rn : Nat) : Int) ≤ m) = false := by simp; omega
              go_wp2_with fail
              refine (rone_any w.heap.size tk wy ad pt ra rn rc rZ wr OK.out BW.out.size HMY.out).mono ?_
              rintro e V1 ⟨av, cv, he, -, bv⟩
              simp only at he
              subst he
              have BV := Lib.hid (HS.out.trans (bv.mono HS.out.size))
              clear bv c0 c1' c2 c3 c4
              have HD := fil_cut HOK.out HA.out hk (by rw [HN.out] at hmN; exact hmN) (by rw [HP.out]; exact HLE.out) (fun _ => by rw [HFS.out]; omega)
              obtain ⟨e1, e2, heq⟩ := D4.out.pair HD
              rw [HP.out] at e2
              have q5 := D4.out.rcds (R4.out.below BV.out) (HS1.out.cut hmN (by omega) (Nat.le_refl _)).bd (by omega)
              have BF : Hid (Below w.heap.size w V1) := Lib.hid (B4.out.trans (BV.out.mono B4.out.size))
              subst e1
              have HSM := Lib.hid (rsame_true V1.heap.size a5 (some ⟨b1, o1, none⟩) K c5 cap R Q V1 q5 (((HB.out.cut hk).keep BF.out).mono BF.out.size) (Nat.le_refl _) (by omega) heq)
              clear heq q5 HD
              have hkc : (K : Int) ≤ cap := by omega
              by_cases hpm : p = m
              · have e3 : E = 0 := by rw [e2, if_pos hpm]
                clear e2
                subst e3
                have d7 : decide ((p : Int) = m) = true := by simp; omega
                have d8 : ((p : Int) == (m : Int)) = true := by simp; omega
                clear hpm
                go_wp2_with fail
                refine HSM.out.mono ?_
                rintro e wz ⟨rfl, bz⟩
                have BZ := Lib.hid (BF.out.trans (bz.mono BF.out.size))
                clear bz
                go_wp2_with fail
                go_ret
                exact ⟨rfl, BZ.out⟩
              · have e3 : E = 2 := by rw [e2, if_neg hpm]
                clear e2
                subst e3
                have d7 : decide ((p : Int) = m) = false := by simp; omega
                have d8 : ((p : Int) == (m : Int)) = false := by simp; omega
                clear hpm
                go_wp2_with fail
                refine HSM.out.mono ?_
                rintro e wz ⟨rfl, bz⟩
                have BZ := Lib.hid (BF.out.trans (bz.mono BF.out.size))
                clear bz
                go_wp2_with fail
                go_ret
                exact ⟨rfl, BZ.out⟩
          · have hkl : k = len := by omega
            have d9 : decide (k < len) = false := by simpa using hlt
            have hn3 : ∀ h : k < len, m < (filL Q (k + 1)).length := fun h => absurd h hlt
            clear hkl hlt
            have HD := fil_cut HOK.out HA.out hk (by rw [HN.out] at hmN; exact hmN) (by rw [HP.out]; exact HLE.out) hn3
            obtain ⟨e1, e2, heq⟩ := D4.out.pair HD
            rw [HP.out] at e2
            have q5 := D4.out.rcds (R4.out.below HS.out) (HS1.out.cut hmN (by omega) (Nat.le_refl _)).bd (by omega)
            have BF : Hid (Below w.heap.size w wr) := Lib.hid (B4.out.trans (HS.out.mono B4.out.size))
            subst e1
            have HSM := Lib.hid (rsame_true wr.heap.size a5 a K c5 cap R Q wr q5 (((HB.out.cut hk).keep BF.out).mono BF.out.size) (Nat.le_refl _) (by omega) heq)
            clear heq q5 HD
            have hkc : (K : Int) ≤ cap := by omega
            by_cases hpm : p = m
            · have e3 : E = 0 := by rw [e2, if_pos hpm]
              clear e2
              subst e3
              have d7 : decide ((p : Int) = m) = true := by simp; omega
              have d8 : ((p : Int) == (m : Int)) = true := by simp; omega
              clear hpm
              go_wp2_with fail
              refine HSM.out.mono ?_
              rintro e wz ⟨rfl, bz⟩
              have BZ := Lib.hid (BF.out.trans (bz.mono BF.out.size))
              clear bz
              go_wp2_with fail
              go_ret
              exact ⟨rfl, BZ.out⟩
            · have e3 : E = 2 := by rw [e2, if_neg hpm]
              clear e2
              subst e3
              have d7 : decide ((p : Int) = m) = false := by simp; omega
              have d8 : ((p : Int) == (m : Int)) = false := by simp; omega
              clear hpm
              go_wp2_with fail
              refine HSM.out.mono ?_
              rintro e wz ⟨rfl, bz⟩
              have BZ := Lib.hid (BF.out.trans (bz.mono BF.out.size))
              clear bz
              go_wp2_with fail
              go_ret
              exact ⟨rfl, BZ.out⟩
    · have B3 := Lib.hid (B2.out.trans (b3.mono B2.out.size))
      clear b3
      go_wp2_with fail
      go_ret
      exact ⟨rfl, B3.out⟩
end Go.Proofs.Ytdmbdageohjodaa
