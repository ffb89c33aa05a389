/-
  The walk of TwccPacks.
-/
import Derived.Test.YtihbceippcgfgaaTwL
import Derived.Test.YtihbceippcgfgaaTpM
import Derived.Test.YtihbceippcgfgaaTpW
namespace Go.Proofs.Ytihbceippcgfgaa
open Go.RowKit
set_option linter.unusedVariables false
set_option linter.unusedSimpArgs false
attribute [local irreducible] wpStill wpQuiet

theorem irow_own {w : World} {B : Nat} {a : Option Addr} {n c : Nat} {X : Nat → Int} (h : w.ownsRow B 3 1 (.slice a n c) n (vsI (fl X n))) : IRow w a n c X := by
  rcases Nat.eq_zero_or_pos n with h0 | h0
  · subst h0
    have h2 := h.2
    rcases h2 with ⟨hv, _⟩ | ⟨g, cap, cur, hv, hg, hh, hn2, hcap, hsz, _⟩
    · cases hv; exact ⟨by omega, by omega, fun h => by omega⟩
    · cases hv; exact ⟨by omega, by unfold maxLen at hcap; omega, fun h => by omega⟩
  · obtain ⟨g, cap, hv, _, h2, h3, h4⟩ := own_pos h h0
    cases hv
    exact ⟨h3, h4, fun _ => ⟨g, 0, rfl, h2, fun i hi => by rw [Nat.zero_add]; exact own_cell h (vsI_fl _ hi)⟩⟩
set_option maxRecDepth 100000 in
set_option maxHeartbeats 2000000 in
theorem TwccPacks.walk (base : Int) (a : Option Addr) (n cap : Nat) (zs : List Int) (w : World) (h0 : (Lit.int .u16 base).wf = true) (r0 : IsRow .i64 w a n cap zs) :
    Calls Try.prog 12 #[.int .u16 base, .slice a n cap] w fun e w' => e = .returned (.bool true) ∧ Below w.heap.size w w' := by
  obtain ⟨b, off, X, ha, hl, hm, hc, hz⟩ := row_open r0
  have hb : 0 ≤ base ∧ base ≤ 65535 := bounds_u16 h0
  have HI : Hid (IRow w a n cap X) := Lib.hid ⟨hl, hm, fun h0 => ⟨b, off, (ha (by omega)).1, (ha (by omega)).2, fun i hi => hc i (by omega)⟩⟩
  have HW : Hid (∀ i, i < n → -9223372036854775808 ≤ X i ∧ X i ≤ 9223372036854775807) := Lib.hid (fun i hi => bounds_i64 (hz i (by omega)))
  clear ha hc hz r0 h0
  go_enter Try.func12, Try.ntmps12
  go_wp2_with fail
  refine (alive37_any _).mono ?_
  rintro e w1 ⟨rfl, B1⟩
  have HB1 := Lib.hid B1
  clear B1
  by_cases hn : 1000 < n
  · have e1 : decide ((1000 : Int) < (n : Int)) = true := by simp; omega
    clear hn
    go_wp2_with fail
    go_ret
    exact ⟨rfl, HB1.out⟩
  have e1 : decide ((1000 : Int) < (n : Int)) = false := by simp; omega
  go_wp2_with fail
  by_cases hG : 1 ≤ n ∧ n ≤ 400 ∧ good X n
  · obtain ⟨n1, n4, hg⟩ := hG
    refine (pack_good base hb w1 a n cap X (HI.out.keep HB1.out) n1 n4 HW.out hg).mono ?_
    rintro e w2 ⟨J, N, a2, c2, hJ, hN, rfl, O2, B2⟩
    have HN := Lib.hid hN
    clear hN
    have HB2 := Lib.hid (HB1.out.trans (B2.mono HB1.out.size))
    go_wp2_with fail
    refine (rpack_good base hb w2 a n cap X (HI.out.keep HB2.out) n1 n4 HW.out hg).mono ?_
    rintro e w3 ⟨J', N', a3, c3, hJ', hN', rfl, O3, B3⟩
    obtain rfl := hJ.uniq hJ'
    obtain rfl : N = N' := by rw [HN.out, hN']
    clear hN' hJ'
    have HB3 := Lib.hid (HB2.out.trans (B3.mono HB2.out.size))
    go_wp2_with fail
    refine (unpack_any base hb X n J n1 n4 hg hJ w3 _ a2 N c2 HN.out (O2.keep B3)).mono ?_
    rintro e w4 ⟨a4, c4, rfl, R4, B4⟩
    have HB4 := Lib.hid (HB3.out.trans (B4.mono HB3.out.size))
    have hN9 : N ≤ 1000000 := by rw [HN.out, pks_len]; have := hJ.le; have := sbs_len X n; omega
    have s2 := conv_own (O2.keep B3).1 O2.2 hN9 B4
    have s3 := conv_own O3.1 O3.2 hN9 B4
    have HINT := Lib.hid (ints_yes w4 a4 a n c4 cap X (irow_own R4) (HI.out.keep HB4.out))
    have t1 : (base == base) = true := by simp
    clear hJ O2 O3 B2 B3 R4 B4 hg
    generalize strOf (gz (pks base X n J)) N = str at *
    have t2 : (str.toList == str.toList) = true := beq_self_eq_true _
    go_wp2_with fail
    refine HINT.out.mono ?_
    rintro e w5 ⟨rfl, B5⟩
    go_wp2_with fail
    go_ret
    exact ⟨rfl, HB4.out.trans (B5.mono HB4.out.size)⟩
  · refine (pack_bad base w1 a n cap X (HI.out.keep HB1.out) (by omega) HW.out hG).mono ?_
    rintro e w2 ⟨rfl, B2⟩
    have HB2 := Lib.hid (HB1.out.trans (B2.mono HB1.out.size))
    go_wp2_with fail
    refine (rpack_bad base w2 a n cap X (HI.out.keep HB2.out) (by omega) HW.out hG).mono ?_
    rintro e w3 ⟨rfl, B3⟩
    have HB3 := Lib.hid (HB2.out.trans (B3.mono HB2.out.size))
    clear B2 B3 hG
    go_wp2_with fail
    go_ret
    exact ⟨rfl, HB3.out⟩
end Go.Proofs.Ytihbceippcgfgaa
