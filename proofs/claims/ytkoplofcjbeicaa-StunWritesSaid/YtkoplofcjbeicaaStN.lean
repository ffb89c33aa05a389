/-
  Chapter 12: the law StunWrites.
-/
import Derived.Test.YtkoplofcjbeicaaStL
namespace Go.Proofs.Ytkoplofcjbeicaa
open Go.RowKit
set_option linter.unusedVariables false
set_option linter.unusedSimpArgs false
attribute [local irreducible] wpStill wpQuiet MixC.wpMix
attribute [local go_sem] MixC.rdOp MixC.rd MixC.rdUpon MixC.mvUpon

theorem arr14 {cs : Array Value} {m : Array Value} (hl : cs.size = 14) (hm : m.size = 14) (h : ∀ i, i < 14 → cs[i]? = m[i]?) : cs = m := by
  apply Array.ext_getElem?
  intro i
  by_cases hi : i < 14
  · exact h i hi
  · rw [Array.getElem?_eq_none (by omega), Array.getElem?_eq_none (by omega)]
/-- a message that came in -/
theorem msg_of {w : World} {u : Value} (hu : ArgS Try.prog w 28 u) : ∃ T x a len cap Q, u = .agg (msgV T x (.slice a len cap)) ∧ (0 ≤ T ∧ T ≤ 65535) ∧ (∀ i, i < 12 → 0 ≤ x i ∧ x i ≤ 255) ∧ Ats w.heap.size w a len cap Q := by
  obtain ⟨cs, rfl, hcs⟩ := hu
  obtain ⟨hsz, hrd⟩ := hcs 3 [24, 5, 5, 5, 5, 5, 5, 5, 5, 5, 5, 5, 5, 26] (by kernel_rfl)
  obtain ⟨v0, hv0, rv0⟩ := hrd 0 _ rfl
  obtain ⟨v1, hv1, rv1⟩ := hrd 1 _ rfl
  obtain ⟨v2, hv2, rv2⟩ := hrd 2 _ rfl
  obtain ⟨v3, hv3, rv3⟩ := hrd 3 _ rfl
  obtain ⟨v4, hv4, rv4⟩ := hrd 4 _ rfl
  obtain ⟨v5, hv5, rv5⟩ := hrd 5 _ rfl
  obtain ⟨v6, hv6, rv6⟩ := hrd 6 _ rfl
  obtain ⟨v7, hv7, rv7⟩ := hrd 7 _ rfl
  obtain ⟨v8, hv8, rv8⟩ := hrd 8 _ rfl
  obtain ⟨v9, hv9, rv9⟩ := hrd 9 _ rfl
  obtain ⟨v10, hv10, rv10⟩ := hrd 10 _ rfl
  obtain ⟨v11, hv11, rv11⟩ := hrd 11 _ rfl
  obtain ⟨v12, hv12, rv12⟩ := hrd 12 _ rfl
  obtain ⟨v13, hv13, rv13⟩ := hrd 13 _ rfl
  obtain ⟨T, rfl, wt⟩ := reads_int Try.underlying24 rv0
  obtain ⟨y0, rfl, wy0⟩ := reads_int Try.underlying5 rv1
  obtain ⟨y1, rfl, wy1⟩ := reads_int Try.underlying5 rv2
  obtain ⟨y2, rfl, wy2⟩ := reads_int Try.underlying5 rv3
  obtain ⟨y3, rfl, wy3⟩ := reads_int Try.underlying5 rv4
  obtain ⟨y4, rfl, wy4⟩ := reads_int Try.underlying5 rv5
  obtain ⟨y5, rfl, wy5⟩ := reads_int Try.underlying5 rv6
  obtain ⟨y6, rfl, wy6⟩ := reads_int Try.underlying5 rv7
  obtain ⟨y7, rfl, wy7⟩ := reads_int Try.underlying5 rv8
  obtain ⟨y8, rfl, wy8⟩ := reads_int Try.underlying5 rv9
  obtain ⟨y9, rfl, wy9⟩ := reads_int Try.underlying5 rv10
  obtain ⟨y10, rfl, wy10⟩ := reads_int Try.underlying5 rv11
  obtain ⟨y11, rfl, wy11⟩ := reads_int Try.underlying5 rv12
  obtain ⟨a, len, cap, Q, rfl, hat⟩ := ats_of rv13
  refine ⟨T, fun i => [y0, y1, y2, y3, y4, y5, y6, y7, y8, y9, y10, y11].getD i 0, a, len, cap, Q, ?_, bounds_u16 wt, fun i hi => ?_, hat⟩
  · congr 1
    refine arr14 (by simpa using hsz) rfl (fun i hi => ?_)
    rcases (by omega : i = 0 ∨ i = 1 ∨ i = 2 ∨ i = 3 ∨ i = 4 ∨ i = 5 ∨ i = 6 ∨ i = 7 ∨ i = 8 ∨ i = 9 ∨ i = 10 ∨ i = 11 ∨ i = 12 ∨ i = 13) with rfl | rfl | rfl | rfl | rfl | rfl | rfl | rfl | rfl | rfl | rfl | rfl | rfl | rfl
    · exact hv0
    · exact hv1
    · exact hv2
    · exact hv3
    · exact hv4
    · exact hv5
    · exact hv6
    · exact hv7
    · exact hv8
    · exact hv9
    · exact hv10
    · exact hv11
    · exact hv12
    · exact hv13
  · rcases (by omega : i = 0 ∨ i = 1 ∨ i = 2 ∨ i = 3 ∨ i = 4 ∨ i = 5 ∨ i = 6 ∨ i = 7 ∨ i = 8 ∨ i = 9 ∨ i = 10 ∨ i = 11) with rfl | rfl | rfl | rfl | rfl | rfl | rfl | rfl | rfl | rfl | rfl | rfl
    · exact bounds_u8 wy0
    · exact bounds_u8 wy1
    · exact bounds_u8 wy2
    · exact bounds_u8 wy3
    · exact bounds_u8 wy4
    · exact bounds_u8 wy5
    · exact bounds_u8 wy6
    · exact bounds_u8 wy7
    · exact bounds_u8 wy8
    · exact bounds_u8 wy9
    · exact bounds_u8 wy10
    · exact bounds_u8 wy11
theorem conO {B : Nat} {w : World} {q : At} (h : AtOk B w q) (hn : q.n ≤ 255) : OkC q.con := ⟨h.t0, h.t1, by show (zs q.Z q.n).length ≤ 255; rw [zs_len]; exact hn, zs_oct h.z⟩
theorem bod_le {l : List Con} (h : ∀ c ∈ l, OkC c) : (bodA l).length ≤ l.length * 262 := by
  induction l with
  | nil => simp [bodA]
  | cons c l ih =>
    rw [cons_bod, List.length_append, enc_len, List.length_cons]
    have h1 := ih (fun x hx => h x (List.mem_cons_of_mem _ hx))
    have h2 := (h c (List.mem_cons_self ..)).2.2.1
    have h4 := (padN_spec c.2.length 4 (by omega)).2.1
    omega
theorem cons_get (Q : Nat → At) (k i : Nat) (h : i < k) : (cons Q k)[i]? = some (Q i).con := by
  unfold cons
  rw [List.getElem?_map, List.getElem?_range h]
  rfl
set_option maxRecDepth 100000 in
set_option maxHeartbeats 4000000 in
theorem StunWrites.walk (u : Value) (w : World) (hu : ArgS Try.prog w 28 u) :
    Calls Try.prog 4 #[u] w fun e w' => e = .returned (.bool true) ∧ Below w.heap.size w w' := by
  obtain ⟨T, x, a, len, cap, Q, rfl, tb, xb, hat⟩ := msg_of hu
  have HA := Lib.hid hat
  have HX := Lib.hid xb
  have hle := hat.le
  have hmx := hat.max
  clear hu hat xb
  simp only [msgV]
  go_enter Try.func4, Try.ntmps4
  go_wp2_with fail
  obtain ⟨W0, hW0⟩ : ∃ W0, w.alloc (.cells (msgV T x (.slice a len cap)) 28) = W0 := ⟨_, rfl⟩
  obtain ⟨g, hg⟩ : ∃ g, w.heap.size = g := ⟨_, rfl⟩
  change Calls _ _ _ (w.alloc (.cells (msgV T x (.slice a len cap)) 28)) _
  rw [hW0, hg]
  have B0 : Hid (Below w.heap.size w W0) := Lib.hid (by rw [← hW0]; exact (Below.refl _ _).alloc (Nat.le_refl _) _)
  have K0 : Hid (W0.heap[g]? = some (.cells (msgV T x (.slice a len cap)) 28 (0, 0))) := Lib.hid (by rw [← hW0, ← hg]; exact alloc_blk_new)
  clear hW0 hg
  have KK : Hid (∀ y, Below W0.heap.size W0 y → y.heap[g]? = some (.cells (msgV T x (.slice a len cap)) 28 (0, 0)) ∧ Below w.heap.size w y ∧ Ats y.heap.size y a len cap Q) := Lib.hid (fun y hy => by
    have bb := B0.out.trans (hy.mono B0.out.size)
    exact ⟨Below.blk hy K0.out (lt_of_block K0.out), bb, (HA.out.keep bb).mono bb.size⟩)
  refine (alive12_any W0).mono ?_
  rintro e w1 ⟨rfl, b1⟩
  have B1 := Lib.hid b1
  clear b1
  obtain ⟨f0, f1, f2, f3, f4, f5, f6, f7, f8, f9, f10, f11, f12, f13⟩ := MsgF.mk' (KK.out _ B1.out).1
  go_wp2_with fail
  clear f0 f1 f2 f3 f4 f5 f6 f7 f8 f9 f10 f11 f12 f13
  refine (great12_any T x a len cap Q w1 (KK.out _ B1.out).2.2).mono ?_
  rintro e w2 ⟨t, rfl, b2, hg⟩
  have B2 := Lib.hid (B1.out.trans (b2.mono B1.out.size))
  clear b2
  cases t with
  | true =>
    go_wp2_with fail
    go_ret
    exact ⟨rfl, (KK.out _ B2.out).2.1⟩
  | false =>
    obtain ⟨h60, h600⟩ := hg rfl
    clear hg
    obtain ⟨f0, f1, f2, f3, f4, f5, f6, f7, f8, f9, f10, f11, f12, f13⟩ := MsgF.mk' (KK.out _ B2.out).1
    go_wp2_with fail
    clear f0 f1 f2 f3 f4 f5 f6 f7 f8 f9 f10 f11 f12 f13
    refine (write12_any T x a len cap Q w2 tb HX.out (KK.out _ B2.out).2.2).mono ?_
    rintro e w3 ⟨b3, hres⟩
    have B3 := Lib.hid (B2.out.trans (b3.mono B2.out.size))
    obtain ⟨f0, f1, f2, f3, f4, f5, f6, f7, f8, f9, f10, f11, f12, f13⟩ := MsgF.mk' (KK.out _ B3.out).1
    have HRW := Lib.hid (rwrite12_any T x a len cap Q w3 tb HX.out (KK.out _ B3.out).2.2 (by omega))
    clear b3
    rcases hres with ⟨hok, a1, n1, c1, rfl, l1⟩ | ⟨hno, rfl⟩
    · have HOK := Lib.hid hok
      have HL1 := Lib.hid l1
      clear hok l1
      go_wp2_with fail
      clear f0 f1 f2 f3 f4 f5 f6 f7 f8 f9 f10 f11 f12 f13
      refine HRW.out.mono ?_
      clear HRW
      rintro e w4 ⟨b4, ⟨-, a2, n2, c2, rfl, l2⟩ | ⟨hno, -⟩⟩
      case inr => exact absurd HOK.out hno
      have B4 := Lib.hid (B3.out.trans (b4.mono B3.out.size))
      have L1 := Lib.hid (HL1.out.keep b4)
      obtain rfl : n1 = n2 := HL1.out.len.trans l2.len.symm
      have L2 := Lib.hid l2
      clear b4 l2
      have hcon : ∀ c ∈ cons Q len, OkC c := fun c hc => by
        obtain ⟨i, hi, rfl⟩ := List.mem_map.1 hc
        have hil := List.mem_range.1 hi
        exact conO (HA.out.ok i hil) (HOK.out.2.2 i hil)
      have hbl := bod_le hcon
      rw [cons_len] at hbl
      have h16 := HOK.out.2.1
      obtain ⟨ks, r1, r2, r3, r4⟩ := read_back12 (T := T) (tx := zs x 12) (l := cons Q len) ⟨tb.1, HOK.out.1⟩ (zs_len _ _) (by rw [cons_len]; exact h16) hcon (by omega)
      rw [← HL1.out.len] at r1
      have hn1 : n1 ≤ 5000 := by
        have := HL1.out.len
        rw [wr_len] at this
        omega
      obtain ⟨W, hW⟩ : ∃ W, wrM T (zs x 12) (cons Q len) = W := ⟨_, rfl⟩
      rw [hW] at r1 r2 r3 r4 L1 L2
      have R := Lib.hid (And.intro r1 (And.intro r2 (And.intro r3 r4)))
      have HRD := Lib.hid (read12_any w4.heap.size a1 n1 c1 (gz W) w4 L1.out.bs (Nat.le_refl _) (by omega))
      clear hcon hbl r1 r2 r3 r4 hW
      go_wp2_with fail
      refine HRD.out.mono ?_
      clear HRD
      rintro e w5 ⟨b5, ⟨l, v, ks', rfl, hr, hks, hal, hz⟩ | ⟨E, -, -, hno⟩⟩
      case inr => exact absurd R.out.1 (hno _)
      obtain ⟨va, vc, rfl⟩ := hal.sl
      have B5 := Lib.hid (B4.out.trans (b5.mono B4.out.size))
      obtain rfl : ks = ks' := readM_det R.out.1 hr
      have hokl := ok_read (L1.out.bs.bd) (hks ▸ hr) hz
      have hmsg : msgV (typA (gz W) 0) (shA (gz W) 8) (.slice va l.length vc) = msgV T x (.slice va l.length vc) := by
        rw [R.out.2.2.1]
        exact msg_congr (fun i hi => zs_at R.out.2.2.2 hi)
      rw [hmsg]
      have hmap : l.map (fun y => y.e.con) = cons Q len := by
        rw [← R.out.2.1, hks, List.map_map]
        refine List.map_congr_left (fun y hy => ?_)
        show y.e.con = conA (gz W) (shK 20 y.key)
        rw [conA_sh]
        show (_, zs y.e.Z y.e.n) = (_, _)
        rw [(hz y hy).1]
        rfl
      have hll : l.length = len := by have := congrArg List.length hmap; rw [List.length_map, cons_len] at this; exact this
      have heq : ∀ i, i < len → EqvA (Q i) (lA l i) := fun i hi => by
        have h1 := congrArg (fun q => q[i]?) hmap
        simp only [List.getElem?_map, List.getElem?_eq_getElem (show i < l.length by omega), Option.map_some, cons_get Q len i hi, Option.some.injEq] at h1
        rw [lA_get l i (by omega)]
        exact eqvA_con h1.symm
      have HEQ := Lib.hid heq
      have HAL := Lib.hid hal
      have HOKL := Lib.hid hokl
      have L15 := Lib.hid (L1.out.keep b5)
      have L25 := Lib.hid (L2.out.keep b5)
      rw [hll] at HAL ⊢
      clear b5 hr hks hal hz hokl hmsg hmap heq
      simp only [msgV]
      obtain ⟨W5, hW5⟩ : ∃ W5, w5.alloc (.cells (msgV T x (.slice va len vc)) 28) = W5 := ⟨_, rfl⟩
      have b6 : Below w5.heap.size w5 W5 := by rw [← hW5]; exact (Below.refl _ _).alloc (Nat.le_refl _) _
      have k6 : W5.heap[w5.heap.size]? = some (.cells (msgV T x (.slice va len vc)) 28 (0, 0)) := by rw [← hW5]; exact alloc_blk_new
      have B6 := Lib.hid (B5.out.trans (b6.mono B5.out.size))
      obtain ⟨f0, f1, f2, f3, f4, f5, f6, f7, f8, f9, f10, f11, f12, f13⟩ := MsgF.mk' (KK.out _ B6.out).1
      obtain ⟨k0, k1, k2, k3, k4, k5', k6', k7, k8, k9, k10, k11, k12, k13⟩ := MsgF.mk' k6
      obtain ⟨-, ha2⟩ := (HAL.out.below b6).ats HOKL.out
      have HSM := Lib.hid (rsame12_true T x a va len cap vc Q (lA l) W5 (KK.out _ B6.out).2.2 ha2 (by omega) HEQ.out)
      have s1 : (convert 22 9 (.slice a1 n1 c1)).run Try.prog W5 = .ok (.string (strOf (gz W) n1)) W5 := run_conv_BS (L15.out.keep b6).bs Try.underlying22 Try.underlying5 Try.underlying9
      have s2 : (convert 22 9 (.slice a2 n1 c2)).run Try.prog W5 = .ok (.string (strOf (gz W) n1)) W5 := run_conv_BS (L25.out.keep b6).bs Try.underlying22 Try.underlying5 Try.underlying9
      clear b6 k6 ha2
      go_upto_region 10 with (fail)
      change Code.wp _ _ _ _ (w5.alloc (.cells (msgV T x (.slice va len vc)) 28))
      rw [hW5]
      obtain ⟨g5, hg5⟩ : ∃ g5, w5.heap.size = g5 := ⟨_, rfl⟩
      rw [hg5] at k0 k1 k2 k3 k4 k5' k6' k7 k8 k9 k10 k11 k12 k13 ⊢
      clear hW5 hg5 hll
      go_wp2_with fail
      clear s1 s2 f0 f1 f2 f3 f4 f5 f6 f7 f8 f9 f10 f11 f12 f13 k0 k1 k2 k3 k4 k5' k6' k7 k8 k9 k10 k11 k12 k13
      refine HSM.out.mono ?_
      rintro e w7 ⟨rfl, b7⟩
      have B7 := Lib.hid (B6.out.trans (b7.mono B6.out.size))
      clear b7 HSM
      go_wp2_with fail
      go_ret
      exact ⟨rfl, (KK.out _ B7.out).2.1⟩
    · have HNO := Lib.hid hno
      clear hno
      go_wp2_with fail
      clear f0 f1 f2 f3 f4 f5 f6 f7 f8 f9 f10 f11 f12 f13
      refine HRW.out.mono ?_
      clear HRW
      rintro e w4 ⟨b4, ⟨hok, -⟩ | ⟨-, rfl⟩⟩
      case inl => exact absurd hok HNO.out
      have B4 := Lib.hid (B3.out.trans (b4.mono B3.out.size))
      clear b4
      go_wp2_with fail
      go_ret
      exact ⟨rfl, (KK.out _ B4.out).2.1⟩
end Go.Proofs.Ytkoplofcjbeicaa
