/-
  Chapter 47: the law RosterKnown.
-/
import Derived.Test.YtihbceippcgfgaaRoF
namespace Go.Proofs.Ytihbceippcgfgaa
open Go.RowKit
set_option linter.unusedVariables false
set_option linter.unusedSimpArgs false
attribute [local irreducible] wpStill wpQuiet MixC.wpMix
attribute [local go_sem] MixC.rdOp MixC.rd MixC.rdUpon MixC.mvUpon

theorem tell_bad (B g : Nat) (s : RoS) (w : World) (h : RoM B g s w) (x tick : Int) (hx : inN s.n x = false) : Calls Try.prog 43 #[.pointer (some ⟨g, 0, none⟩), .int .i64 x, .int .i64 tick] w fun e w' => e = .returned (.slice none 0 0) ∧ Below w.heap.size w w' := by
  obtain ⟨W1, hW1⟩ : ∃ W1, (w.alloc (.cells #[.pointer (some ⟨g, 0, none⟩)] 74)).alloc (.cells #[.int .i64 tick] 2) = W1 := ⟨_, rfl⟩
  have b1 : Below w.heap.size w W1 := by rw [← hW1]; exact ((Below.refl _ _).alloc (Nat.le_refl _) _).alloc (by simp) _
  have k3 : W1.heap[w.heap.size]? = some (.cells #[.pointer (some ⟨g, 0, none⟩)] 74 (0, 0)) := by rw [← hW1, alloc_blk_old (by simp)]; exact alloc_blk_new
  have HT := Lib.hid (there_any (h.keep b1) x)
  rw [hx] at HT
  have BW := Lib.hid b1
  have HW := Lib.hid hW1
  have y3 : W1.cell? ⟨w.heap.size, 0, none⟩ = some (.pointer (some ⟨g, 0, none⟩)) := cell_blk k3
  have Y3 := Lib.hid y3
  clear b1 hW1 k3 h hx y3
  refine calls_of_wp_marks Try.func43 rfl ?_
  simp only [Try.ntmps43, List.size_toArray, List.length_cons, List.length_nil, Nat.reduceAdd, Nat.reduceSub, Array.replicate_succ, Array.replicate_zero, List.push_toArray, List.append_toArray, List.nil_append, List.cons_append]
  go_upto_region 1 with (fail)
  rw [HW.out]
  have y3 := Y3.out
  go_wp2_with fail
  refine HT.out.mono ?_
  rintro e w' ⟨rfl, rfl⟩
  go_wp2_with fail
  refine leaves_none (v := .slice none 0 0) (by simp [results, Try.results43, go_sem]) ⟨rfl, BW.out⟩
theorem inN_of {n : Nat} {x : Int} (h : inN n x = true) : ∃ k : Nat, x = k ∧ k < n := by
  unfold inN at h
  simp at h
  exact ⟨x.toNat, by omega, by omega⟩
theorem set_all (B g : Nat) (s : RoS) (w : World) (h : RoM B g s w) {n : Nat} {p K T : Int} (hI : RoI s n p K T) (hK : K ≤ 1000) (x : Int) (t : ByteArray) : Calls Try.prog 42 #[.pointer (some ⟨g, 0, none⟩), .int .i64 x, .string t] w fun e w' => (∃ v, e = .returned v) ∧ ∃ s', RoM B g s' w' ∧ RoI s' n p (K + 1) T ∧ Below B w w' := by
  by_cases hb : inN s.n x = true ∧ t.size ≤ 64
  · obtain ⟨k, rfl, hk⟩ := inN_of hb.1
    refine (set_any h k t hk hb.2 (by have := hI.ve k; omega)).mono ?_
    rintro e w' ⟨rfl, m, b⟩
    exact ⟨⟨_, rfl⟩, _, m, hI.set k t, b⟩
  · refine (set_bad h x t ?_).mono ?_
    · by_cases hi : inN s.n x = true
      · exact .inr (by
          rcases Nat.lt_or_ge 64 t.size with h1 | h1
          · exact h1
          · exact absurd ⟨hi, h1⟩ hb)
      · exact .inl (by simpa using hi)
    · rintro e w' ⟨⟨a, b, rfl⟩, rfl⟩
      exact ⟨⟨_, rfl⟩, s, h, hI.mono (by omega) (Int.le_refl _), Below.refl _ _⟩
theorem tell_all (B g : Nat) (s : RoS) (w : World) (h : RoM B g s w) (hB : B ≤ w.heap.size) {n : Nat} {p K T : Int} (hI : RoI s n p K T) (hT : T ≤ 1000000000) (hp : 0 ≤ p ∧ p ≤ 1000000) (x tick : Int) (ht : 0 ≤ tick ∧ tick ≤ T) : Calls Try.prog 43 #[.pointer (some ⟨g, 0, none⟩), .int .i64 x, .int .i64 tick] w fun e w' => (∃ v, e = .returned v) ∧ ∃ s', RoM B g s' w' ∧ RoI s' n p K T ∧ Below B w w' := by
  by_cases hi : inN s.n x = true
  · obtain ⟨k, rfl, hk⟩ := inN_of hi
    refine (tell_any B g s w h hB k tick hk (by rw [hI.p]; exact hp) (by omega) (hI.tellP hT k)).mono ?_
    rintro e w' ⟨a, c, rfl, -, m, b, -⟩
    exact ⟨⟨_, rfl⟩, _, m, hI.tell k tick _ ht.1 ht.2, b⟩
  · refine (tell_bad B g s w h x tick (by simpa using hi)).mono ?_
    rintro e w' ⟨rfl, b⟩
    exact ⟨⟨_, rfl⟩, s, h.keep b, hI, b.mono hB⟩
/-- these are known -/
def kS (s : RoS) (x : Nat) (P : List Nat) : RoS := { s with kn := fun a b => if a = x ∧ b ∈ P then s.ve b else s.kn a b }
theorem kS_nil (s : RoS) (x : Nat) : kS s x [] = s := by cases s; simp [kS]
theorem kS_app (s : RoS) (x o : Nat) (P : List Nat) : knownF (kS s x P) x o (s.ve o) = kS s x (P ++ [o]) := by
  unfold knownF kS
  congr 1
  funext a b
  unfold upd2
  simp only
  by_cases h1 : a = x ∧ b = o
  · rw [if_pos h1, if_pos ⟨h1.1, by rw [h1.2]; simp⟩, h1.2]
  · rw [if_neg h1]
    by_cases h2 : a = x ∧ b ∈ P
    · rw [if_pos h2, if_pos ⟨h2.1, by simp [h2.2]⟩]
    · rw [if_neg h2, if_neg (fun h3 => by
        rcases List.mem_append.1 h3.2 with h4 | h4
        · exact h2 ⟨h3.1, h4⟩
        · exact h1 ⟨h3.1, by simpa using h4⟩)]
theorem kS_all (s : RoS) (x : Nat) : othL (kS s x (othL s x)) x = [] := by
  unfold othL
  rw [List.filter_eq_nil_iff]
  intro o ho hd
  have hd' : (decide (o ≠ x) && decide ((if x = x ∧ o ∈ (List.range s.n).filter (dueB s x) then s.ve o else s.kn x o) < s.ve o)) = true := hd
  simp only [Bool.and_eq_true, decide_eq_true_eq, true_and] at hd'
  by_cases hm : o ∈ (List.range s.n).filter (dueB s x)
  · rw [if_pos hm] at hd'; omega
  · rw [if_neg hm] at hd'
    exact hm (List.mem_filter.2 ⟨ho, by unfold dueB; simp [hd'.1, hd'.2]⟩)
theorem othL_tell (s : RoS) (x : Nat) (tick : Int) (L : List Nat) : othL (tellS s x tick L) x = othL s x := rfl
theorem told_all {s : RoS} {n : Nat} {p K T : Int} (h : RoI s n p K T) (x : Nat) (tick : Int) (ht : T + p ≤ tick) (L : List Nat) : tellL s x tick L = L := by
  unfold tellL
  rw [List.filter_eq_self]
  intro o _
  unfold toldB
  have := h.ti x o
  have := h.p
  simp
  omega
theorem noteV_get (s : RoS) (L : List Nat) {k : Nat} (hk : k < L.length) : (noteV s L)[k * 3]? = some (.int .i64 (L.getD k 0)) ∧ (noteV s L)[k * 3 + 1]? = some (.int .i64 (s.ve (L.getD k 0))) := by
  induction L generalizing k with
  | nil => cases hk
  | cons o L ih =>
    have e : noteV s (o :: L) = .int .i64 o :: .int .i64 (s.ve o) :: .string (s.tx o) :: noteV s L := rfl
    rw [e]
    cases k with
    | zero => exact ⟨rfl, rfl⟩
    | succ k =>
      have := ih (k := k) (by simpa using hk)
      rw [show (k + 1) * 3 = k * 3 + 3 by omega]
      exact this
set_option maxRecDepth 100000 in
set_option maxHeartbeats 8000000 in
theorem RosterKnown.core (a : Option Addr) (len cap b off : Nat) (K S T : Nat → Int) (X : Nat → ByteArray) (seat : Int) (w : World)
    (haddr : 0 < cap → a = some ⟨b, off, none⟩ ∧ b < w.heap.size) (hlc : len ≤ cap) (hcm : cap ≤ maxLen) (hs0 : 0 ≤ seat ∧ seat ≤ 255) (hk : ∀ i, i < cap → 0 ≤ K i ∧ K i ≤ 255)
    (hc : ∀ i, i < cap → w.cell? ⟨b, off + i * 6, none⟩ = some (.int .u8 (K i)) ∧ w.cell? ⟨b, off + i * 6 + 1, none⟩ = some (.int .i64 (S i)) ∧ w.cell? ⟨b, off + i * 6 + 4, none⟩ = some (.int .i64 (T i)) ∧ w.cell? ⟨b, off + i * 6 + 5, none⟩ = some (.string (X i))) :
    Calls Try.prog 8 #[.slice a len cap, .int .u8 seat] w fun e w' => e = .returned (.bool true) ∧ Below w.heap.size w w' := by
  have HC := Lib.hid hc
  have HA := Lib.hid haddr
  have HK := Lib.hid hk
  clear hc haddr hk
  unfold maxLen at hcm
  go_enter Try.func8, Try.ntmps8
  go_wp2_with fail
  refine (alive47_any w).mono ?_
  rintro e w1 ⟨rfl, b1⟩
  have B1 := Lib.hid b1
  clear b1
  have HN := Lib.hid (new47_any 4 3 w1 (by omega) (by omega) (by omega) w.heap.size B1.out.size)
  go_wp2_with fail
  refine HN.out.mono ?_
  rintro e w2 ⟨g, rfl, m2, b2⟩
  have M2 : Hid (RoM w.heap.size g (roS0 4 3) w2 ∧ Below w.heap.size w w2 ∧ RoI (roS0 4 3) 4 3 0 1000000) := Lib.hid ⟨m2, B1.out.trans (b2.mono B1.out.size), (RoI.start 4 3).mono (by omega) (by omega)⟩
  clear m2 b2 HN B1
  go_wp2_with fail
  go_loopw [6] (fun s6 wr => ∃ (i : Nat) (s : RoS), i ≤ len ∧ i ≤ 60 ∧ s6 = .int .i64 i ∧ Hid (RoM w.heap.size g s wr ∧ Below w.heap.size w wr ∧ RoI s 4 3 i 1000000)) (fun s6 _ => len - (intOf s6).toNat)
  case atStart => exact ⟨0, _, by omega, by omega, rfl, M2⟩
  case round =>
    clear M2
    obtain ⟨i, s, hi, hi60, rfl, HS⟩ := hrel
    by_cases hlt : i < len ∧ i < 60
    · obtain ⟨hlt, h60⟩ := hlt
      have hli : (i : Int) < len := by omega
      have h60i : (i : Int) < 60 := by omega
      obtain ⟨rfl, hb⟩ := HA.out (by omega)
      obtain ⟨c0, c1, c4, c5⟩ := HC.out i (by omega)
      have hkb := HK.out i (by omega)
      obtain ⟨Ki, hKi⟩ : ∃ x, K i = x := ⟨_, rfl⟩
      obtain ⟨Si, hSi⟩ : ∃ x, S i = x := ⟨_, rfl⟩
      obtain ⟨Ti, hTi⟩ : ∃ x, T i = x := ⟨_, rfl⟩
      obtain ⟨Xi, hXi⟩ : ∃ x, X i = x := ⟨_, rfl⟩
      rw [hKi] at c0 hkb
      rw [hSi] at c1
      rw [hTi] at c4
      rw [hXi] at c5
      have FC : Hid (∀ y, Below w.heap.size w y → y.cell? ⟨b, off + i * 6, none⟩ = some (.int .u8 Ki) ∧ y.cell? ⟨b, off + i * 6 + 1, none⟩ = some (.int .i64 Si) ∧ y.cell? ⟨b, off + i * 6 + 4, none⟩ = some (.int .i64 Ti) ∧ y.cell? ⟨b, off + i * 6 + 5, none⟩ = some (.string Xi)) := Lib.hid (fun y hy => ⟨Below.cell' hy hb c0, Below.cell' hy hb c1, Below.cell' hy hb c4, Below.cell' hy hb c5⟩)
      clear c0 c1 c4 c5 hKi hSi hTi hXi
      obtain ⟨c0, c1, c4, c5⟩ := FC.out _ HS.out.2.1
      by_cases hbad : 200 < Xi.size ∨ 1000000 < Ti ∨ Ti < 0
      · have fin : Below w.heap.size w wr := HS.out.2.1
        by_cases h1 : 200 < Xi.size
        · go_wp2_with fail
          go_ret
          exact ⟨rfl, fin⟩
        · by_cases h2 : 1000000 < Ti
          · go_wp2_with fail
            go_ret
            exact ⟨rfl, fin⟩
          · have h3 : Ti < 0 := by omega
            go_wp2_with fail
            go_ret
            exact ⟨rfl, fin⟩
      · have h1 : ¬ 200 < Xi.size := by omega
        have h2 : ¬ 1000000 < Ti := by omega
        have h3 : ¬ Ti < 0 := by omega
        clear hbad
        have hne : Nonempty { w' : World // Below w.heap.size w w' } := ⟨⟨w, Below.refl _ _⟩⟩
        have d1 : ∀ y : { w' : World // Below w.heap.size w w' }, y.1.cell? ⟨b, off + i * 6 + 1, none⟩ = some (.int .i64 Si) := fun y => (FC.out _ y.2).2.1
        have d4 : ∀ y : { w' : World // Below w.heap.size w w' }, y.1.cell? ⟨b, off + i * 6 + 4, none⟩ = some (.int .i64 Ti) := fun y => (FC.out _ y.2).2.2.1
        have d5 : ∀ y : { w' : World // Below w.heap.size w w' }, y.1.cell? ⟨b, off + i * 6 + 5, none⟩ = some (.string Xi) := fun y => (FC.out _ y.2).2.2.2
        have HD : Hid (RoM w.heap.size g s wr.drew ∧ Below w.heap.size w wr.drew) := Lib.hid ⟨HS.out.1.keep (Below.refl _ _).drew, HS.out.2.1.drew⟩
        have ii : IntKind.i64.wrap ((i : Int) + 1) = (i : Int) + 1 := IntWalk.i64_in _ (by omega)
        have tm : Ki.tmod 6 = Ki % 6 := Int.tmod_eq_emod_of_nonneg hkb.1
        by_cases h6 : Ki % 6 = 0
        · have h6' : (Ki % 6 == 0) = true := by simpa using h6
          go_upto_region 12 with (fail)
          clear c0 c1 c4 c5
          refine MixC.wp_region_mix [11] (Below w.heap.size w) HD.out.2 (by kernel_rfl) (by kernel_rfl) (by kernel_rfl) ?_
          (iterate 11 (refine MixC.mix_read rfl (fun K hK => ?_); go_simp; refine hK _ ?_; clear hK K))
          refine MixC.mix_move rfl (fun K hK => ?_)
          go_simp
          refine (set_all w.heap.size g s wr.drew HD.out.1 HS.out.2.2 (by omega) Si Xi).mono ?_
          rintro e V ⟨⟨v, rfl⟩, s', m3, i3, b3⟩
          have HR : Hid (RoM w.heap.size g s' V ∧ Below w.heap.size w V ∧ RoI s' 4 3 ((i + 1 : Nat) : Int) 1000000) := Lib.hid ⟨m3, HD.out.2.trans b3, i3.mono (by omega) (Int.le_refl _)⟩
          refine ⟨_, rfl, HR.out.2.1, hK _ _ ?_⟩
          clear hK K m3 i3 b3
          refine MixC.mix_nil ?_
          change Exit.inBlock _ _ _ _ V
          clear d1 d4 d5 hne
          go_wp2_with fail
          go_roundw
          case rel => exact ⟨i + 1, s', by omega, by omega, by go_num, HR⟩
          case measure => simp [intOf] <;> omega
        · have h6' : (Ki % 6 == 0) = false := by simpa using h6
          go_upto_region 13 with (fail)
          clear c0 c1 c4 c5
          refine MixC.wp_region_mix [11] (Below w.heap.size w) HD.out.2 (by kernel_rfl) (by kernel_rfl) (by kernel_rfl) ?_
          (iterate 11 (refine MixC.mix_read rfl (fun K hK => ?_); go_simp; refine hK _ ?_; clear hK K))
          refine MixC.mix_move rfl (fun K hK => ?_)
          go_simp
          refine (tell_all w.heap.size g s wr.drew HD.out.1 HD.out.2.size HS.out.2.2 (by omega) (by omega) Si Ti (by omega)).mono ?_
          rintro e V ⟨⟨v, rfl⟩, s', m3, i3, b3⟩
          have HR : Hid (RoM w.heap.size g s' V ∧ Below w.heap.size w V ∧ RoI s' 4 3 ((i + 1 : Nat) : Int) 1000000) := Lib.hid ⟨m3, HD.out.2.trans b3, i3.mono (by omega) (Int.le_refl _)⟩
          refine ⟨_, rfl, HR.out.2.1, hK _ _ ?_⟩
          clear hK K m3 i3 b3
          refine MixC.mix_nil ?_
          change Exit.inBlock _ _ _ _ V
          clear d1 d4 d5 hne
          go_wp2_with fail
          go_roundw
          case rel => exact ⟨i + 1, s', by omega, by omega, by go_num, HR⟩
          case measure => simp [intOf] <;> omega
    · have hnl : i = len ∨ (i < len ∧ i = 60) := by omega
      clear hlt
      obtain ⟨x, hx⟩ := Int.eq_ofNat_of_zero_le (show 0 ≤ seat % 4 by omega)
      have hx4 : x < 4 := by omega
      have tm : seat.tmod 4 = seat % 4 := Int.tmod_eq_emod_of_nonneg hs0.1
      rw [hx] at tm
      have tm2 : seat % 4 = (x : Int) := hx
      have HTL := Lib.hid (tell_any w.heap.size g s wr HS.out.1 HS.out.2.1.size x 2000000 (by rw [HS.out.2.2.n]; exact hx4) (by rw [HS.out.2.2.p]; omega) (by omega) (HS.out.2.2.tellP (by omega) x))
      have BH := Lib.hid HS.out.2.1
      have I2 := Lib.hid (HS.out.2.2.mono (K' := 60) (T' := 2000000) (by omega) (by omega))
      have hal := told_all HS.out.2.2 x 2000000 (by omega) (othL s x)
      have HAL := Lib.hid hal
      obtain ⟨L, hL⟩ : ∃ L, othL s x = L := ⟨_, rfl⟩
      have HL := Lib.hid hL
      clear hal hL hx HS
      rcases hnl with rfl | ⟨hkl, rfl⟩
      · go_wp2_with fail
        refine HTL.out.mono ?_
        rintro e V ⟨na, nc, rfl, no, m3, b3, -⟩
        have e3 : tellL s x 2000000 (othL s x) = L := by rw [HAL.out, HL.out]
        rw [e3] at no ⊢
        obtain ⟨s2, hs2⟩ : ∃ s2, tellS s x 2000000 (othL s x) = s2 := ⟨_, rfl⟩
        have f1 : othL s2 x = L := by rw [← hs2]; exact HL.out
        have f2 : noteV s L = noteV s2 L := by rw [← hs2]; rfl
        have f3 : RoI s2 4 3 60 2000000 := by rw [← hs2]; exact I2.out.tell _ _ _ (by omega) (by omega)
        rw [hs2] at m3
        rw [f2] at no
        have F1 := Lib.hid f1
        have F3 := Lib.hid f3
        have M3 : Hid (RoM w.heap.size g (kS s2 x (L.take 0)) V ∧ Below w.heap.size w V ∧ V.ownsRow 0 83 3 (.slice na L.length nc) L.length (noteV s2 L)) := Lib.hid ⟨by rw [List.take_zero, kS_nil]; exact m3, BH.out.trans b3, no⟩
        have hL4 : L.length ≤ 4 := by have := othL_len s2 x; rw [f1, f3.n] at this; exact this
        obtain ⟨m, hm⟩ : ∃ m, L.length = m := ⟨_, rfl⟩
        have HM := Lib.hid hm
        rw [hm] at hL4 M3 ⊢
        have hcap : m ≤ nc := by
          rcases M3.out.2.2.2 with ⟨hv, h0⟩ | ⟨b, cap, cur, hv, _, _, hn, _⟩
          · omega
          · injection hv with _ _ h3; omega
        clear no m3 b3 hs2 f1 f2 f3 e3 hm HTL I2 HAL
        go_wp2_with fail
        go_loopw [9] (fun s9 wx => ∃ k : Nat, k ≤ m ∧ s9 = .int .i64 k ∧ Hid (RoM w.heap.size g (kS s2 x (L.take k)) wx ∧ Below w.heap.size w wx ∧ wx.ownsRow 0 83 3 (.slice na m nc) m (noteV s2 L))) (fun s9 _ => m - (intOf s9).toNat)
        case atStart => exact ⟨0, by omega, rfl, M3⟩
        case round =>
          clear M3
          obtain ⟨k, hk, rfl, HS⟩ := hrel
          by_cases hkm : k < m
          · have hki : (k : Int) < m := by omega
            have hkL : k < L.length := by rw [HM.out]; exact hkm
            obtain ⟨nb, rfl⟩ : ∃ b, na = some ⟨b, 0, none⟩ := by
              rcases HS.out.2.2.2 with ⟨hv, h0⟩ | ⟨b, cap, cur, hv, _⟩
              · omega
              · injection hv with h1; exact ⟨b, h1⟩
            obtain ⟨o, ho⟩ : ∃ o, L.getD k 0 = o := ⟨_, rfl⟩
            obtain ⟨ve, hve⟩ : ∃ v, s2.ve o = v := ⟨_, rfl⟩
            have hoL : o ∈ othL s2 x := by rw [F1.out, ← ho, List.getD, List.getElem?_eq_getElem hkL]; exact List.getElem_mem hkL
            have hnot : o ∉ L.take k := fun hin => by
              have hnd := othL_nd s2 x
              rw [F1.out, ← List.take_append_drop k L, List.nodup_append, List.drop_eq_getElem_cons hkL] at hnd
              refine hnd.2.2 o hin (L[k]'hkL) List.mem_cons_self ?_
              rw [← ho, List.getD, List.getElem?_eq_getElem hkL]; rfl
            have hsucc : L.take (k + 1) = L.take k ++ [o] := by
              rw [List.take_succ_eq_append_getElem hkL, ← ho, List.getD, List.getElem?_eq_getElem hkL]; rfl
            obtain ⟨hor, hod⟩ := List.mem_filter.1 hoL
            have ho4 : o < 4 := by have := List.mem_range.1 hor; rw [F3.out.n] at this; exact this
            unfold dueB at hod
            simp only [Bool.and_eq_true, decide_eq_true_eq] at hod
            obtain ⟨hox, hokn⟩ := hod
            have hkn : (kS s2 x (L.take k)).kn x o = s2.kn x o := if_neg (fun h => hnot h.2)
            have HKA := Lib.hid (known_any w.heap.size g (kS s2 x (L.take k)) wr.drew (HS.out.1.keep (Below.refl _ _).drew) x o ve (by show x < s2.n; rw [F3.out.n]; exact hx4) (by show o < s2.n; rw [F3.out.n]; exact ho4) (fun e => hox e.symm) (by rw [hkn, ← hve]; exact hokn) (by show ve ≤ s2.ve o; rw [hve]; exact Int.le_refl _))
            rw [← hve, kS_app, ← hsucc, hve] at HKA
            have HG := Lib.hid (fun z : { w' : World // w'.ownsRow 0 83 3 (.slice (some ⟨nb, 0, none⟩) m nc) m (noteV s2 L) } => (⟨own_cell z.2 (noteV_get s2 L hkL).1, own_cell z.2 (noteV_get s2 L hkL).2⟩ : z.1.cell? ⟨nb, k * 3, none⟩ = some (.int .i64 (L.getD k 0 : Nat)) ∧ z.1.cell? ⟨nb, k * 3 + 1, none⟩ = some (.int .i64 (s2.ve (L.getD k 0)))))
            rw [ho, hve] at HG
            have hne : Nonempty { w' : World // w'.ownsRow 0 83 3 (.slice (some ⟨nb, 0, none⟩) m nc) m (noteV s2 L) } := ⟨⟨_, HS.out.2.2⟩⟩
            have y0 := fun z => (HG.out z).1
            have y1 := fun z => (HG.out z).2
            have C0 : Hid (wr.drew.ownsRow 0 83 3 (.slice (some ⟨nb, 0, none⟩) m nc) m (noteV s2 L)) := Lib.hid (own_below HS.out.2.2 (Below.refl _ _).drew)
            have t1 : ((o : Int) == (x : Int)) = false := by simp; omega
            have t2 : ((o : Int) = (x : Int)) = False := eq_false (by omega)
            have kk : IntKind.i64.wrap ((k : Int) + 1) = (k : Int) + 1 := IntWalk.i64_in _ (by omega)
            clear ho hve hoL hnot hsucc hor hox hokn hkn HG
            go_upto_region 19 with (fail)
            refine MixC.wp_region_mix [20] (fun z => z.ownsRow 0 83 3 (.slice (some ⟨nb, 0, none⟩) m nc) m (noteV s2 L)) C0.out (by kernel_rfl) (by kernel_rfl) (by kernel_rfl) ?_
            (iterate 20 (refine MixC.mix_read rfl (fun K hK => ?_); go_simp; refine hK _ ?_; clear hK K))
            refine MixC.mix_move rfl (fun K hK => ?_)
            go_simp
            refine HKA.out.mono ?_
            rintro e V2 ⟨rfl, m4, b4, f4⟩
            have f4' : TyB 154 wr.drew V2 := f4
            have R4 : Hid (RoM w.heap.size g (kS s2 x (L.take (k + 1))) V2 ∧ Below w.heap.size w V2 ∧ V2.ownsRow 0 83 3 (.slice (some ⟨nb, 0, none⟩) m nc) m (noteV s2 L)) := Lib.hid ⟨m4, HS.out.2.1.drew.trans b4, f4'.own C0.out (by decide)⟩
            refine ⟨_, rfl, R4.out.2.2, hK _ _ ?_⟩
            clear hK K m4 b4 f4 f4'
            (iterate 2 (refine MixC.mix_read rfl (fun K hK => ?_); go_simp; refine hK _ ?_; clear hK K))
            refine MixC.mix_nil ?_
            change Exit.then _ _ _ _ V2
            clear y0 y1 hne t1 t2
            go_wp2_with fail
            go_roundw
            case rel => exact ⟨k + 1, hkm, by go_num, R4⟩
            case measure => simp [intOf] <;> omega
          · obtain rfl : m = k := by omega
            have hall : L.take m = L := by rw [← HM.out, List.take_length]
            have hend : othL (kS s2 x (L.take m)) x = [] := by rw [hall, ← F1.out]; exact kS_all s2 x
            have HBH := Lib.hid (behind_any w.heap.size g _ wr HS.out.1 x (by show x < s2.n; rw [F3.out.n]; exact hx4))
            rw [hend] at HBH
            have HEND := Lib.hid hend
            clear hall hend hkm
            go_wp2_with fail
            refine HBH.out.mono ?_
            rintro e V3 ⟨rfl, b3⟩
            have B3 := Lib.hid (HS.out.2.1.trans (b3.mono HS.out.2.1.size))
            have HT3 := Lib.hid (tell_any w.heap.size g _ V3 (HS.out.1.keep b3) B3.out.size x 3000000 (by show x < s2.n; rw [F3.out.n]; exact hx4) (by show 0 ≤ s2.p ∧ s2.p ≤ 1000000; rw [F3.out.p]; omega) (by omega) (F3.out.tellP (by omega) x))
            clear b3
            go_wp2_with fail
            refine HT3.out.mono ?_
            rintro e V4 ⟨va, vc, rfl, -, -, b4, -⟩
            have e5 : (tellL (kS s2 x (L.take m)) x 3000000 (othL (kS s2 x (L.take m)) x)).length = 0 := by rw [HEND.out]; rfl
            rw [e5]
            have B4 := Lib.hid (B3.out.trans b4)
            clear b4 e5
            go_wp2_with fail
            go_ret
            exact ⟨rfl, B4.out⟩
      · go_wp2_with fail
        refine HTL.out.mono ?_
        rintro e V ⟨na, nc, rfl, no, m3, b3, -⟩
        have e3 : tellL s x 2000000 (othL s x) = L := by rw [HAL.out, HL.out]
        rw [e3] at no ⊢
        obtain ⟨s2, hs2⟩ : ∃ s2, tellS s x 2000000 (othL s x) = s2 := ⟨_, rfl⟩
        have f1 : othL s2 x = L := by rw [← hs2]; exact HL.out
        have f2 : noteV s L = noteV s2 L := by rw [← hs2]; rfl
        have f3 : RoI s2 4 3 60 2000000 := by rw [← hs2]; exact I2.out.tell _ _ _ (by omega) (by omega)
        rw [hs2] at m3
        rw [f2] at no
        have F1 := Lib.hid f1
        have F3 := Lib.hid f3
        have M3 : Hid (RoM w.heap.size g (kS s2 x (L.take 0)) V ∧ Below w.heap.size w V ∧ V.ownsRow 0 83 3 (.slice na L.length nc) L.length (noteV s2 L)) := Lib.hid ⟨by rw [List.take_zero, kS_nil]; exact m3, BH.out.trans b3, no⟩
        have hL4 : L.length ≤ 4 := by have := othL_len s2 x; rw [f1, f3.n] at this; exact this
        obtain ⟨m, hm⟩ : ∃ m, L.length = m := ⟨_, rfl⟩
        have HM := Lib.hid hm
        rw [hm] at hL4 M3 ⊢
        have hcap : m ≤ nc := by
          rcases M3.out.2.2.2 with ⟨hv, h0⟩ | ⟨b, cap, cur, hv, _, _, hn, _⟩
          · omega
          · injection hv with _ _ h3; omega
        clear no m3 b3 hs2 f1 f2 f3 e3 hm HTL I2 HAL
        go_wp2_with fail
        go_loopw [9] (fun s9 wx => ∃ k : Nat, k ≤ m ∧ s9 = .int .i64 k ∧ Hid (RoM w.heap.size g (kS s2 x (L.take k)) wx ∧ Below w.heap.size w wx ∧ wx.ownsRow 0 83 3 (.slice na m nc) m (noteV s2 L))) (fun s9 _ => m - (intOf s9).toNat)
        case atStart => exact ⟨0, by omega, rfl, M3⟩
        case round =>
          clear M3
          obtain ⟨k, hk, rfl, HS⟩ := hrel
          by_cases hkm : k < m
          · have hki : (k : Int) < m := by omega
            have hkL : k < L.length := by rw [HM.out]; exact hkm
            obtain ⟨nb, rfl⟩ : ∃ b, na = some ⟨b, 0, none⟩ := by
              rcases HS.out.2.2.2 with ⟨hv, h0⟩ | ⟨b, cap, cur, hv, _⟩
              · omega
              · injection hv with h1; exact ⟨b, h1⟩
            obtain ⟨o, ho⟩ : ∃ o, L.getD k 0 = o := ⟨_, rfl⟩
            obtain ⟨ve, hve⟩ : ∃ v, s2.ve o = v := ⟨_, rfl⟩
            have hoL : o ∈ othL s2 x := by rw [F1.out, ← ho, List.getD, List.getElem?_eq_getElem hkL]; exact List.getElem_mem hkL
            have hnot : o ∉ L.take k := fun hin => by
              have hnd := othL_nd s2 x
              rw [F1.out, ← List.take_append_drop k L, List.nodup_append, List.drop_eq_getElem_cons hkL] at hnd
              refine hnd.2.2 o hin (L[k]'hkL) List.mem_cons_self ?_
              rw [← ho, List.getD, List.getElem?_eq_getElem hkL]; rfl
            have hsucc : L.take (k + 1) = L.take k ++ [o] := by
              rw [List.take_succ_eq_append_getElem hkL, ← ho, List.getD, List.getElem?_eq_getElem hkL]; rfl
            obtain ⟨hor, hod⟩ := List.mem_filter.1 hoL
            have ho4 : o < 4 := by have := List.mem_range.1 hor; rw [F3.out.n] at this; exact this
            unfold dueB at hod
            simp only [Bool.and_eq_true, decide_eq_true_eq] at hod
            obtain ⟨hox, hokn⟩ := hod
            have hkn : (kS s2 x (L.take k)).kn x o = s2.kn x o := if_neg (fun h => hnot h.2)
            have HKA := Lib.hid (known_any w.heap.size g (kS s2 x (L.take k)) wr.drew (HS.out.1.keep (Below.refl _ _).drew) x o ve (by show x < s2.n; rw [F3.out.n]; exact hx4) (by show o < s2.n; rw [F3.out.n]; exact ho4) (fun e => hox e.symm) (by rw [hkn, ← hve]; exact hokn) (by show ve ≤ s2.ve o; rw [hve]; exact Int.le_refl _))
            rw [← hve, kS_app, ← hsucc, hve] at HKA
            have HG := Lib.hid (fun z : { w' : World // w'.ownsRow 0 83 3 (.slice (some ⟨nb, 0, none⟩) m nc) m (noteV s2 L) } => (⟨own_cell z.2 (noteV_get s2 L hkL).1, own_cell z.2 (noteV_get s2 L hkL).2⟩ : z.1.cell? ⟨nb, k * 3, none⟩ = some (.int .i64 (L.getD k 0 : Nat)) ∧ z.1.cell? ⟨nb, k * 3 + 1, none⟩ = some (.int .i64 (s2.ve (L.getD k 0)))))
            rw [ho, hve] at HG
            have hne : Nonempty { w' : World // w'.ownsRow 0 83 3 (.slice (some ⟨nb, 0, none⟩) m nc) m (noteV s2 L) } := ⟨⟨_, HS.out.2.2⟩⟩
            have y0 := fun z => (HG.out z).1
            have y1 := fun z => (HG.out z).2
            have C0 : Hid (wr.drew.ownsRow 0 83 3 (.slice (some ⟨nb, 0, none⟩) m nc) m (noteV s2 L)) := Lib.hid (own_below HS.out.2.2 (Below.refl _ _).drew)
            have t1 : ((o : Int) == (x : Int)) = false := by simp; omega
            have t2 : ((o : Int) = (x : Int)) = False := eq_false (by omega)
            have kk : IntKind.i64.wrap ((k : Int) + 1) = (k : Int) + 1 := IntWalk.i64_in _ (by omega)
            clear ho hve hoL hnot hsucc hor hox hokn hkn HG
            go_upto_region 19 with (fail)
            refine MixC.wp_region_mix [20] (fun z => z.ownsRow 0 83 3 (.slice (some ⟨nb, 0, none⟩) m nc) m (noteV s2 L)) C0.out (by kernel_rfl) (by kernel_rfl) (by kernel_rfl) ?_
            (iterate 20 (refine MixC.mix_read rfl (fun K hK => ?_); go_simp; refine hK _ ?_; clear hK K))
            refine MixC.mix_move rfl (fun K hK => ?_)
            go_simp
            refine HKA.out.mono ?_
            rintro e V2 ⟨rfl, m4, b4, f4⟩
            have f4' : TyB 154 wr.drew V2 := f4
            have R4 : Hid (RoM w.heap.size g (kS s2 x (L.take (k + 1))) V2 ∧ Below w.heap.size w V2 ∧ V2.ownsRow 0 83 3 (.slice (some ⟨nb, 0, none⟩) m nc) m (noteV s2 L)) := Lib.hid ⟨m4, HS.out.2.1.drew.trans b4, f4'.own C0.out (by decide)⟩
            refine ⟨_, rfl, R4.out.2.2, hK _ _ ?_⟩
            clear hK K m4 b4 f4 f4'
            (iterate 2 (refine MixC.mix_read rfl (fun K hK => ?_); go_simp; refine hK _ ?_; clear hK K))
            refine MixC.mix_nil ?_
            change Exit.then _ _ _ _ V2
            clear y0 y1 hne t1 t2
            go_wp2_with fail
            go_roundw
            case rel => exact ⟨k + 1, hkm, by go_num, R4⟩
            case measure => simp [intOf] <;> omega
          · obtain rfl : m = k := by omega
            have hall : L.take m = L := by rw [← HM.out, List.take_length]
            have hend : othL (kS s2 x (L.take m)) x = [] := by rw [hall, ← F1.out]; exact kS_all s2 x
            have HBH := Lib.hid (behind_any w.heap.size g _ wr HS.out.1 x (by show x < s2.n; rw [F3.out.n]; exact hx4))
            rw [hend] at HBH
            have HEND := Lib.hid hend
            clear hall hend hkm
            go_wp2_with fail
            refine HBH.out.mono ?_
            rintro e V3 ⟨rfl, b3⟩
            have B3 := Lib.hid (HS.out.2.1.trans (b3.mono HS.out.2.1.size))
            have HT3 := Lib.hid (tell_any w.heap.size g _ V3 (HS.out.1.keep b3) B3.out.size x 3000000 (by show x < s2.n; rw [F3.out.n]; exact hx4) (by show 0 ≤ s2.p ∧ s2.p ≤ 1000000; rw [F3.out.p]; omega) (by omega) (F3.out.tellP (by omega) x))
            clear b3
            go_wp2_with fail
            refine HT3.out.mono ?_
            rintro e V4 ⟨va, vc, rfl, -, -, b4, -⟩
            have e5 : (tellL (kS s2 x (L.take m)) x 3000000 (othL (kS s2 x (L.take m)) x)).length = 0 := by rw [HEND.out]; rfl
            rw [e5]
            have B4 := Lib.hid (B3.out.trans b4)
            clear b4 e5
            go_wp2_with fail
            go_ret
            exact ⟨rfl, B4.out⟩
theorem RosterKnown.walk (v : Value) (seat : Int) (w : World) (r : Reads Try.prog w 6 73 v) (hs : (Lit.int .u8 seat).wf = true) :
    Calls Try.prog 8 #[v, .int .u8 seat] w fun e w' => e = .returned (.bool true) ∧ Below w.heap.size w w' := by
  obtain ⟨a, len, cap, b, off, V, rfl, row⟩ := reads_slice Try.underlying73 (ts := [5, 3, 3, 3, 2, 9]) (by kernel_rfl) (by kernel_rfl) (by decide) r
  obtain ⟨K, hK⟩ := Deep.choose_lt (n := cap) (p := fun i (x : Int) => V i 0 = .int .u8 x ∧ (Lit.int .u8 x).wf = true) (fun i hi => reads_int Try.underlying5 (row.read i hi 0 _ rfl))
  obtain ⟨S, hS⟩ := Deep.choose_lt (n := cap) (p := fun i (x : Int) => V i 1 = .int .i64 x ∧ (Lit.int .i64 x).wf = true) (fun i hi => reads_int Try.underlying3 (row.read i hi 1 _ rfl))
  obtain ⟨T, hT⟩ := Deep.choose_lt (n := cap) (p := fun i (x : Int) => V i 4 = .int .i64 x ∧ (Lit.int .i64 x).wf = true) (fun i hi => reads_int Try.underlying2 (row.read i hi 4 _ rfl))
  obtain ⟨X, hX⟩ := Deep.choose_lt (n := cap) (p := fun i (x : ByteArray) => V i 5 = .string x ∧ x.size ≤ maxLen) (fun i hi => reads_string Try.underlying9 (row.read i hi 5 _ rfl))
  refine RosterKnown.core a len cap b off K S T X seat w row.addr row.le row.max (bounds_u8 hs) (fun i hi => bounds_u8 (hK i hi).2) (fun i hi => ⟨?_, ?_, ?_, ?_⟩)
  · have := row.cell i hi 0 (by decide); simpa [(hK i hi).1] using this
  · have := row.cell i hi 1 (by decide); simpa [(hS i hi).1, Nat.add_assoc] using this
  · have := row.cell i hi 4 (by decide); simpa [(hT i hi).1, Nat.add_assoc] using this
  · have := row.cell i hi 5 (by decide); simpa [(hX i hi).1, Nat.add_assoc] using this
end Go.Proofs.Ytihbceippcgfgaa
