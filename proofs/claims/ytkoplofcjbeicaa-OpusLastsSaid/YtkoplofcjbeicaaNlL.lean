/-
  Chapter 41: units of a payload that has several, as avc and nal read them.
-/
import Derived.Test.YtkoplofcjbeicaaNlJ
import Derived.Test.YtkoplofcjbeicaaNum
namespace Go.Proofs.Ytkoplofcjbeicaa
open Go.RowKit
set_option linter.unusedVariables false
set_option linter.unusedSimpArgs false
attribute [local irreducible] wpStill wpQuiet MixC.wpMix

theorem infoI41 : (Try.prog.info? 3).map (fun i => (i.zero, i.size, i.bytes)) = some (some (.int .i64 0), 1, 8) := by kernel_rfl
theorem elI41 : ElemT Try.prog 107 3 1 8 := ElemT.mk' (z := .int .i64 0) Try.underlying107 infoI41 rfl (by decide)
/-- where unit i lies in a payload -/
def off (U : Nat → Sl) (i : Nat) : Nat := 1 + (bdL U i).length
theorem off_succ (U : Nat → Sl) (i : Nat) : off U (i + 1) = off U i + (2 + (U i).n) := by unfold off; rw [bdL_len]; omega
theorem off_le {U : Nat → Sl} {i K : Nat} (h : i ≤ K) : off U i ≤ off U K := by unfold off; have := bdL_mono (U := U) h; omega
theorem tg_len (U : Nat → Sl) (K : Nat) : (tgL U K).length = off U K := by unfold tgL off; rw [List.length_append]; rfl
theorem tg_get {U : Nat → Sl} {i K : Nat} (h : i < K) {j : Nat} {u : Int} (hu : (eL (U i))[j]? = some u) : gz (tgL U K) (off U i + j) = u := by
  have h1 := bdL_get h hu
  unfold gz
  rw [List.getD_eq_getElem?_getD]
  have : (tgL U K)[off U i + j]? = some u := by
    unfold tgL off
    rw [List.getElem?_append_right (by show 1 ≤ _; omega)]
    show (bdL U K)[1 + (bdL U i).length + j - 1]? = _
    rw [show 1 + (bdL U i).length + j - 1 = (bdL U i).length + j by omega]
    exact h1
  rw [this]; rfl
/-- a unit at the head of what is left -/
theorem tg_head {U : Nat → Sl} {i K : Nat} (h : i < K) : gz (tgL U K) (off U i) = ((U i).n : Int) / 256 ∧ gz (tgL U K) (off U i + 1) = ((U i).n : Int) % 256 ∧ ∀ x, x < (U i).n → gz (tgL U K) (off U i + (2 + x)) = (U i).Z x := by
  refine ⟨tg_get (j := 0) h rfl, tg_get (j := 1) h rfl, fun x hx => tg_get h ?_⟩
  unfold eL
  rw [List.getElem?_append_right (by show 2 ≤ 2 + x; omega)]
  show (zs (U i).Z (U i).n)[2 + x - 2]? = _
  rw [show 2 + x - 2 = x by omega]
  unfold zs
  rw [List.getElem?_map, List.getElem?_range hx]; rfl
/-- what is left of a payload behind i units -/
structure Left (U : Nat → Sl) (K bb N cc : Nat) (i : Nat) (r : Option Addr) (m rc : Nat) : Prop where
  some' : ∃ x, r = some ⟨bb, x, none⟩
  len : m = N - off U i
  at' : 0 < m → r = some ⟨bb, off U i, none⟩ ∧ rc = cc - off U i
  le : m ≤ rc
  max : rc ≤ 9223372036854775807
theorem Left.step {U : Nat → Sl} {K bb N cc i m rc e x : Nat} (h : Left U K bb N cc i (some ⟨bb, x, none⟩) m rc) (hm : 0 < m) (he : e = 2 + (U i).n) (hem : e ≤ m) (hcN : N ≤ cc) (r' : Option Addr) (hr : r' = if rc = e then some ⟨bb, x, none⟩ else some ⟨bb, x + e, none⟩) : Left U K bb N cc (i + 1) r' (m - e) (rc - e) := by
  obtain ⟨h1, h2⟩ := h.at' hm
  cases h1
  have h3 := h.len
  have h4 := h.le
  have h5 := h.max
  have h6 := off_succ U i
  refine ⟨?_, by omega, fun h0 => ⟨?_, by omega⟩, by omega, by omega⟩
  · rw [hr]; split <;> exact ⟨_, rfl⟩
  · rw [hr, if_neg (by omega), h6, he]
/-- what the number ahead is, and that the rest is bytes -/
theorem Left.num {U : Nat → Sl} {K bb N cc i m rc x B : Nat} {w : World} (h : Left U K bb N cc i (some ⟨bb, x, none⟩) m rc) (hb : BS B w (some ⟨bb, 0, none⟩) N cc (gz (tgL U K))) (hN : N = (tgL U K).length) (hi : i < K) (hn : (U i).n ≤ 65535) (hc : 1 < cc) :
    0 < m ∧ 2 + (U i).n ≤ m ∧ x = off U i ∧ BS B w (some ⟨bb, x, none⟩) m rc (fun y => gz (tgL U K) (off U i + y)) ∧ Calls Try.prog 40 #[.slice (some ⟨bb, x, none⟩) m rc, .int .i64 0, .int .i64 2] w fun e w' => e = .returned (.tuple #[.int .u64 ((U i).n : Nat), .bool true]) ∧ w = w' := by
  have h1 := h.len
  have h2 := off_le (U := U) (show i + 1 ≤ K by omega)
  rw [off_succ] at h2
  have hNN : N = off U K := by rw [hN, tg_len]
  have hm : 0 < m := by omega
  obtain ⟨h3, h4⟩ := h.at' hm
  cases h3
  have h5 := hb.drop (off U i) (by omega) (by omega)
  rw [Nat.zero_add, ← h1, ← h4] at h5
  refine ⟨hm, by omega, rfl, h5, ?_⟩
  have hnum := num_any B _ m rc _ 0 2 w h5 (by omega) (by omega) (by omega) (by omega)
  have ht : there m 0 2 = true := (there_iff _ _ _).2 (by omega)
  obtain ⟨g0, g1, -⟩ := tg_head hi
  have hv : numOr (fun y => gz (tgL U K) (off U i + y)) m 0 2 = ((U i).n : Nat) := by
    unfold numOr
    rw [if_pos ht]
    show (0 * 256 + gz (tgL U K) (off U i + (0 + 0))) * 256 + gz (tgL U K) (off U i + (0 + 1)) = _
    rw [show off U i + (0 + 0) = off U i by omega, show off U i + (0 + 1) = off U i + 1 by omega, g0, g1]
    omega
  rw [ht, hv] at hnum
  exact hnum
set_option maxRecDepth 100000 in
set_option maxHeartbeats 4000000 in
theorem aunits_any (U : Nat → Sl) (K bb N cc B : Nat) (w : World) (hG : GoodU U K) (hb : BS B w (some ⟨bb, 0, none⟩) N cc (gz (tgL U K))) (hB : B ≤ w.heap.size) (hN : N = (tgL U K).length) (hN2 : N ≤ 3000000) (hK : K ≤ 40) :
    Calls Try.prog 80 #[.slice (some ⟨bb, 1, none⟩) (N - 1) (cc - 1)] w fun e w' => ∃ v, e = .returned (.tuple #[v, .int .i64 0]) ∧ Below w.heap.size w w' := by
  have HB0 := Lib.hid hb
  have HG := Lib.hid hG
  have HN := Lib.hid hN
  have hcc := hb.le
  have hcm := hb.max
  have hN1 : 3 ≤ N := by rw [hN, tg_len]; have := off_le (U := U) (show 1 ≤ K from hG.1); rw [off_succ] at this; unfold off at this ⊢; omega
  have HL0 : Hid (Left U K bb N cc 0 (some ⟨bb, 1, none⟩) (N - 1) (cc - 1)) := Lib.hid ⟨⟨_, rfl⟩, rfl, fun _ => ⟨rfl, rfl⟩, by omega, by omega⟩
  have hK1 := hG.1
  clear hb hG hN
  go_enter Try.func80, Try.ntmps80
  go_wp2_with fail
  go_step3
  go_wp2_with fail
  go_step3
  go_wp2_with fail
  go_loopw [0, 4] (fun sb so wx => ∃ (i m rc oc : Nat) (r o' : Option Addr) (xs : List Value), i < K ∧ sb = .slice r m rc ∧ so = .slice o' i oc ∧ Hid (Left U K bb N cc i r m rc) ∧ Hid (wx.ownsRow w.heap.size 3 1 (.slice o' i oc) i xs) ∧ Hid (Below w.heap.size w wx)) (fun sb _ _ => lnS sb)
  case atStart => exact ⟨0, _, _, 0, _, none, [], by omega, rfl, rfl, HL0, Lib.hid (World.ownsRow_nil _ _ _ _), Lib.hid (Below.refl _ _)⟩
  case round =>
    obtain ⟨i, m, rc, oc, r, o', xs, hi, rfl, rfl, HL, HO, HB⟩ := hrel
    obtain ⟨x, rfl⟩ := HL.out.some'
    have hok := HG.out.2 i hi
    obtain ⟨hm, hem, hxo, hbs, hnum⟩ := HL.out.num (HB0.out.keep (HB.out.mono hB)) HN.out hi hok.2 (by omega)
    obtain ⟨n, hn⟩ : ∃ n, n = (U i).n := ⟨_, rfl⟩
    obtain ⟨e, he⟩ : ∃ e, e = 2 + n := ⟨_, rfl⟩
    have hn1 : 1 ≤ n ∧ n ≤ 65535 := by rw [hn]; exact ⟨hok.1.1, hok.2⟩
    rw [← hn] at hnum hem
    have HNUM := Lib.hid hnum
    obtain ⟨bb', x', hee, hbbB, hcc2⟩ := hbs.at_ (by have := hbs.le; omega)
    cases hee
    have c2 := hcc2 2 (by omega)
    rw [(tg_head hi).2.2 0 hok.1.1] at c2
    have hz := hbs.bd 2 (by omega)
    rw [(tg_head hi).2.2 0 hok.1.1] at hz
    have HT := Lib.hid (typ_any ((U i).Z 0) wr hz)
    have htb : 1 ≤ (U i).Z 0 % 32 := hok.1.2.1
    generalize (U i).Z 0 % 32 = t at *
    generalize (U i).Z 0 = z at *
    have hbs2 := HB.out.size
    obtain ⟨o5, oc5, W5, A5, b5⟩ := app1 elI41 HO.out [.int .i64 t] rfl (one_cell rfl) (by omega) (by omega) hbs2
    have HRUN := Lib.hid A5.run
    have HO5 := Lib.hid A5.own
    have HB5 := Lib.hid (HB.out.trans b5)
    have u1 : ((n : Int) == 0) = false := by simp; omega
    have u2 : decide ((m : Int) - 2 < (n : Int)) = false := by simp; omega
    have u3 : (t == 0) = false := by simp; omega
    have m2 : (2 : Int) < (m : Int) := by omega
    have m3 : 2 < m := by omega
    have hmr := HL.out.le
    have hmr2 := HL.out.max
    have hen : (2 : Int) + (n : Int) = (e : Int) := by omega
    have hEM : e ≤ m := by omega
    have HE := Lib.hid he
    have HNI := Lib.hid hn
    have hm3 : m ≤ 3000000 := by have := HL.out.len; omega
    have HST : Hid (Left U K bb N cc (i + 1) (if rc = e then some ⟨bb, x, none⟩ else some ⟨bb, x + e, none⟩) (m - e) (rc - e)) := Lib.hid (HL.out.step hm (by rw [he, hn]) hEM hcc _ rfl)
    have hst := HST.out.len
    have hlast : i + 1 = K → m - e = 0 := fun h => by rw [hst, h, HN.out, tg_len]; omega
    have hmore : i + 1 < K → 0 < m - e := fun h => by
      have h2 := off_le (U := U) (show i + 1 + 1 ≤ K by omega)
      rw [off_succ] at h2
      have h3 : N = off U K := by rw [HN.out, tg_len]
      rw [hst]; omega
    clear hbs hnum hcc2 hok he hn A5 b5 hem hxo hz hst
    rcases (show i + 1 < K ∨ i + 1 = K by omega) with hik | hik
    · have u4 : (((m - e : Nat) : Int) == 0) = false := by have := hmore hik; simp; omega
      have u5 : ((m : Int) - (e : Int) == 0) = false := by have := hmore hik; simp; omega
      clear hlast hmore
      go_wp2_with fail
      refine HNUM.out.mono ?_
      rintro e' w1 ⟨rfl, rfl⟩
      go_wp2_with fail
      refine HT.out.mono ?_
      rintro e' w1 ⟨rfl, rfl⟩
      go_wp2_with (at_builtin; refine wpList_of_append rfl (.tmp 32) (.tmp 34) 107 rfl _ _ _ rfl rfl HRUN.out ?_)
      exact ⟨⟨i + 1, m - e, rc - e, oc5, _, o5, _, hik, rfl, rfl, HST, HO5, HB5⟩, by show m - e < m; omega⟩
    · have u4 : (((m - e : Nat) : Int) == 0) = true := by rw [hlast hik]; rfl
      have u5 : ((m : Int) - (e : Int) == 0) = true := by have := hlast hik; simp; omega
      clear hlast hmore hik
      go_wp2_with fail
      refine HNUM.out.mono ?_
      rintro e' w1 ⟨rfl, rfl⟩
      go_wp2_with fail
      refine HT.out.mono ?_
      rintro e' w1 ⟨rfl, rfl⟩
      go_wp2_with (at_builtin; refine wpList_of_append rfl (.tmp 32) (.tmp 34) 107 rfl _ _ _ rfl rfl HRUN.out ?_)
      all_goals
        try simp only [Exit.inBlock, Exit.then, Exit.noGoto_normal, Exit.noGoto_ret, Exit.noGoto_exit]
        go_returns
        exact ⟨_, rfl, HB5.out⟩
set_option maxRecDepth 100000 in
set_option maxHeartbeats 4000000 in
theorem nunits_any (U : Nat → Sl) (K bb N cc B : Nat) (w : World) (hG : GoodU U K) (hb : BS B w (some ⟨bb, 0, none⟩) N cc (gz (tgL U K))) (hB : B ≤ w.heap.size) (hN : N = (tgL U K).length) (hN2 : N ≤ 3000000) (hK : K ≤ 40) :
    Calls Try.prog 63 #[.slice (some ⟨bb, 1, none⟩) (N - 1) (cc - 1)] w fun e w' => ∃ a c vs, e = .returned (.slice a K c) ∧ Rows w' w.heap.size a K c (fun i => (U i).l) vs ∧ Below w.heap.size w w' := by
  have HB0 := Lib.hid hb
  have HG := Lib.hid hG
  have HN := Lib.hid hN
  have hcc := hb.le
  have hcm := hb.max
  have hN1 : 3 ≤ N := by rw [hN, tg_len]; have := off_le (U := U) (show 1 ≤ K from hG.1); rw [off_succ] at this; unfold off at this ⊢; omega
  have HL0 : Hid (Left U K bb N cc 0 (some ⟨bb, 1, none⟩) (N - 1) (cc - 1)) := Lib.hid ⟨⟨_, rfl⟩, rfl, fun _ => ⟨rfl, rfl⟩, by omega, by omega⟩
  have hK1 := hG.1
  clear hb hG hN
  go_enter Try.func63, Try.ntmps63
  go_wp2_with fail
  go_step3
  go_wp2_with fail
  go_step3
  go_wp2_with fail
  go_loopw [0, 3] (fun sb so wx => ∃ (i m rc oc : Nat) (r o' : Option Addr) (vs : Nat → Value), i ≤ K ∧ sb = .slice r m rc ∧ so = .slice o' i oc ∧ Hid (Left U K bb N cc i r m rc) ∧ Hid (Rows wx w.heap.size o' i oc (fun i => (U i).l) vs) ∧ Hid (Below w.heap.size w wx)) (fun _ so _ => K + 1 - lnS so)
  case atStart => exact ⟨0, _, _, 0, _, none, _, by omega, rfl, rfl, HL0, Lib.hid (Rows.nil _ _ _), Lib.hid (Below.refl _ _)⟩
  case round =>
    obtain ⟨i, m, rc, oc, r, o', vs, hi, rfl, rfl, HL, HO, HB⟩ := hrel
    obtain ⟨x, rfl⟩ := HL.out.some'
    have hbw := HB0.out.keep (HB.out.mono hB)
    have hbs2 := HB.out.size
    by_cases hik : i < K
    · have hok := HG.out.2 i hik
      obtain ⟨hm, hem, hxo, hbs, hnum⟩ := HL.out.num hbw HN.out hik hok.2 (by omega)
      obtain ⟨n, hn⟩ : ∃ n, n = (U i).n := ⟨_, rfl⟩
      obtain ⟨e, he⟩ : ∃ e, e = 2 + n := ⟨_, rfl⟩
      have hn1 : 1 ≤ n ∧ n ≤ 65535 := by rw [hn]; exact ⟨hok.1.1, hok.2⟩
      rw [← hn] at hnum hem
      have HNUM := Lib.hid hnum
      have hcut := ((hbs.cut (k := e) (m := rc) (by omega) (by have := hbs.le; omega) (Nat.le_refl _)).drop 2 (by omega) (by have := hbs.le; omega))
      rw [show e - 2 = n by omega] at hcut
      have hcut2 : BS B wr (some ⟨bb, x + 2, none⟩) n (rc - 2) (U i).Z := hcut.congr (fun j hj => ((tg_head hik).2.2 j (by rw [← hn]; exact hj)).symm)
      have HCL := Lib.hid (clone_any B _ n (rc - 2) (U i).Z wr hcut2 (by omega) (by omega))
      have HOC : Hid (Oct (U i).l ∧ (U i).l = zs (U i).Z n ∧ n = (U i).l.length) := Lib.hid ⟨by unfold Sl.l; rw [← hn]; exact zs_oct hcut2, by unfold Sl.l; rw [← hn], by rw [Sl.l_len]; exact hn⟩
      have hmr := HL.out.le
      have hmr2 := HL.out.max
      have hen : (2 : Int) + (n : Int) = (e : Int) := by omega
      have hEM : e ≤ m := by omega
      have hm3 : m ≤ 3000000 := by have := HL.out.len; omega
      have m2 : (2 : Int) ≤ (e : Int) := by omega
      have m3 : 2 ≤ e := by omega
      have m4 : e ≤ rc := by omega
      have m5 : ¬ rc = 2 := by omega
      have m6 : e - 2 = n := by omega
      have HST : Hid (Left U K bb N cc (i + 1) (if rc = e then some ⟨bb, x, none⟩ else some ⟨bb, x + e, none⟩) (m - e) (rc - e)) := Lib.hid (HL.out.step hm (by rw [he, hn]) hEM hcc _ rfl)
      clear hbs hnum hok he hn hem hxo hcut hcut2 hbw
      go_wp2_with fail
      refine HNUM.out.mono ?_
      rintro e' w1 ⟨rfl, rfl⟩
      go_wp2_with fail
      refine HCL.out.mono ?_
      rintro e' w1 ⟨a1, c1, rfl, o1, b1⟩
      have hb1 := HB.out.trans (b1.mono hbs2)
      have hown : Own1 w1 w.heap.size (.slice a1 n c1) (U i).l := ⟨by rw [← HOC.out.2.2, HOC.out.2.1, zs_u8s]; exact o1.mono hbs2, HOC.out.1⟩
      obtain ⟨a4, c4, W4, r4, R4, b4⟩ := (HO.out.below b1).push hown (by omega) hb1.size rfl
      have HRUN := Lib.hid r4
      have HR4 := Lib.hid R4
      have HB4 := Lib.hid (hb1.trans b4)
      clear o1 b1 hb1 hown r4 R4 b4
      go_wp2_with (at_builtin; refine wpList_of_append rfl (.tmp 13) (.tmp 19) 46 rfl _ _ _ rfl rfl HRUN.out ?_)
      exact ⟨⟨i + 1, m - e, rc - e, c4, _, a4, _, by omega, rfl, rfl, HST, HR4, HB4⟩, by show K + 1 - (i + 1) < K + 1 - i; omega⟩
    · obtain rfl : K = i := by omega
      have hm0 : m = 0 := by rw [HL.out.len, HN.out, tg_len]; omega
      subst hm0
      have hmx := HL.out.max
      obtain ⟨b', o'', he, hbb, -⟩ := hbw.at_ (by omega)
      cases he
      have hbe : BS B wr (some ⟨bb, x, none⟩) 0 rc (fun _ => 0) := ⟨by omega, hmx, fun i hi => by omega, bb, x, fun _ => ⟨rfl, hbb⟩, fun i hi => by omega⟩
      have hnum := num_any B _ 0 rc _ 0 2 wr hbe (by omega) (by omega) (by omega) (by omega)
      have ht : there 0 0 2 = false := rfl
      rw [ht] at hnum
      have HNUM := Lib.hid hnum
      clear hbw hbe hnum hi hik ht
      go_wp2_with fail
      refine HNUM.out.mono ?_
      rintro e' w1 ⟨rfl, rfl⟩
      go_wp2_with fail
      try simp only [Exit.inBlock, Exit.then, Exit.noGoto_normal, Exit.noGoto_ret, Exit.noGoto_exit]
      go_returns
      exact ⟨_, _, _, rfl, HO.out, HB.out⟩
end Go.Proofs.Ytkoplofcjbeicaa
