/-
  Chapter 36: Read.
-/
import Derived.Test.YtdmbdageohjodaaRedS
namespace Go.Proofs.Ytdmbdageohjodaa
open Go.RowKit
set_option linter.unusedVariables false
set_option linter.unusedSimpArgs false
attribute [local irreducible] wpStill wpQuiet

theorem Fil.cell {Z : Nat → Int} {n J k base H : Nat} {g cap : Nat} {Q : Nat → Blk} {wr : World} (h : Fil Z n J k base H g cap Q wr) (i j : Nat) (hi : i ≤ J) (hj : j < 3) : wr.cell? ⟨g, i * 3 + j, none⟩ = some ((Q i).cell j) := by
  have := h.row.cells (g := g) rfl (i * 3 + j) _ (bcells_get Q (J + 1) i j (by omega) hj)
  rw [addr_add, Nat.zero_add] at this
  exact this
theorem Fil.free {Z : Nat → Int} {n J k base H : Nat} {g cap : Nat} {Q : Nat → Blk} {wr : World} (h : Fil Z n J k base H g cap Q wr) (x : Nat) : wr.frozen? ⟨g, x, none⟩ = false := by
  obtain ⟨_, h2⟩ := h.row
  rcases h2 with ⟨h2, _⟩ | ⟨g', cap', cur, hv, hg, hh, _⟩
  · cases h2
  · cases hv; exact free_blk hh
theorem Fil.lt {Z : Nat → Int} {n J k base H : Nat} {g cap : Nat} {Q : Nat → Blk} {wr : World} (h : Fil Z n J k base H g cap Q wr) : base ≤ g ∧ g < wr.heap.size ∧ J + 1 ≤ cap ∧ cap ≤ 9223372036854775807 := by
  have hlt := h.row.lt g rfl
  obtain ⟨_, h2⟩ := h.row
  rcases h2 with ⟨h2, _⟩ | ⟨g', cap', cur, hv, hg, hh, h3, h4, _⟩
  · cases h2
  · cases hv
    unfold maxLen at h4
    exact ⟨hlt.1, hlt.2, h3, h4⟩
/-- all filled: they read as blocks -/
theorem Fil.blks {Z : Nat → Int} {n J base H : Nat} {g cap : Nat} {Q : Nat → Blk} {wr : World} (h : Fil Z n J (J + 1) base H g cap Q wr) (hn : n ≤ 4000) (hJ : J + 1 ≤ 9) (hZ : ∀ i, i < n → 0 ≤ Z i ∧ Z i ≤ 255) (h4 : 4 * J + 1 ≤ n) (ho : offZ Z J J ≤ n) (hg : ∀ i, i < J → 128 ≤ Z (4 * i)) :
    ∃ Q', Blks wr.heap.size wr (some ⟨g, 0, none⟩) (J + 1) cap Q' ∧ ∀ i, i ≤ J → IsAt Z n J i (Q' i) := by
  obtain ⟨l1, l2, l3, l4⟩ := h.lt
  refine ⟨fun i => ⟨(Q i).t, (Q i).h, (Q i).a, (Q i).n, (Q i).c, fun x => Z (offZ Z J i + x)⟩, ⟨l3, l4, fun i hi => ?_, g, 0, fun _ => ⟨rfl, l2⟩, fun i hi j hj => ?_⟩, fun i hi => ?_⟩
  · obtain ⟨⟨e1, e2, e3, e4⟩, own⟩ := h.don i hi
    have hvb : 4 * i + 4 ≤ n → 0 ≤ hv Z i ∧ hv Z i < 16777216 := fun hi => by
      have a1 := hZ (4 * i + 1) (by omega)
      have a2 := hZ (4 * i + 2) (by omega)
      have a3 := hZ (4 * i + 3) (by omega)
      unfold hv; omega
    have hz := hZ (4 * i) (by omega)
    have hlen : offZ Z J i + (Q i).n ≤ n := by
      rw [e3]
      unfold lenAt
      split
      · rename_i e; subst e; omega
      · have := offZ_le Z J (i + 1) J (by omega)
        show offZ Z J (i + 1) ≤ n
        omega
    have hn' : (Q i).n ≤ 1000000 := by omega
    obtain ⟨a', c', he, hb⟩ := BS.of_owns own (fun x hx => hZ _ (by omega)) hn'
    injection he with h5 h6 h7
    refine ⟨?_, ?_, ?_, ?_, ?_⟩
    · show 0 ≤ (Q i).t
      rw [e1]; unfold hQ
      split
      · exact hz.1
      · have := hg i (by omega); show 0 ≤ Z (4 * i) - 128; omega
    · show (Q i).t ≤ 255
      rw [e1]; unfold hQ
      split
      · exact hz.2
      · show Z (4 * i) - 128 ≤ 255; omega
    · show -9223372036854775808 ≤ (Q i).h
      rw [e2]; unfold hQ
      split
      · show (-9223372036854775808 : Int) ≤ 0; omega
      · have := hvb (by omega); show -9223372036854775808 ≤ hv Z i / 1024; omega
    · show (Q i).h ≤ 9223372036854775807
      rw [e2]; unfold hQ
      split
      · show (0 : Int) ≤ 9223372036854775807; omega
      · have := hvb (by omega); show hv Z i / 1024 ≤ 9223372036854775807; omega
    · show BS wr.heap.size wr (Q i).a (Q i).n (Q i).c _
      rw [h5, h7]; exact hb
  · have := h.cell i j (by omega) hj
    rw [Nat.zero_add, this]
    rcases (by omega : j = 0 ∨ j = 1 ∨ j = 2) with rfl | rfl | rfl <;> rfl
  · obtain ⟨e1, e2, e3, e4⟩ := (h.don i (by omega)).1
    exact ⟨e1, e2, e3, fun x _ => rfl⟩
theorem hdrs_good {Z : Nat → Int} {n : Nat} : ∀ (f j J : Nat), hdrs Z n f j = some J → (∀ i, i < j → 128 ≤ Z (4 * i)) → (∀ i, i < J → 128 ≤ Z (4 * i)) ∧ 4 * J + 1 ≤ n := by
  intro f
  induction f with
  | zero => intro j J h; cases h
  | succ f ih =>
    intro j J h hj
    unfold hdrs at h
    split at h
    · cases h
    · split at h
      · cases h; exact ⟨hj, by omega⟩
      · split at h
        · cases h
        · exact ih (j + 1) J h (fun i hi => by
            rcases Nat.lt_or_ge i j with h1 | h1
            · exact hj i h1
            · have : i = j := by omega
              subst this; omega)
structure RSt (B : Nat) (Z : Nat → Int) (n J k : Nat) (w : World) (H g cap : Nat) (a : Option Addr) (m c : Nat) (v5 : Value) (wr : World) : Prop where
  bl : Below w.heap.size w wr
  hz : H ≤ wr.heap.size
  fil : ∃ Q, Fil Z n J k w.heap.size H g cap Q wr
  eq : m + offZ Z J k = n
  s : BS B w a m c (fun x => Z (offZ Z J k + x))
  o5 : wr.ownsRow w.heap.size 3 1 v5 J (szs (hsz Z) J)
  ng : v5.ownBlock ≠ some g
  h5 : ∀ q, v5.ownBlock = some q → q < H
set_option maxRecDepth 100000 in
set_option maxHeartbeats 4000000 in
theorem read_any (B : Nat) (a : Option Addr) (n c : Nat) (Z : Nat → Int) (w : World) (hb : BS B w a n c Z) (hB : B ≤ w.heap.size) (hn : n ≤ 4000) :
    Calls Try.prog 59 #[.slice a n c] w (RdPost Z n w) := by
  have HBS := Lib.hid hb
  have HH := Lib.hid (heads_any B a n c Z w hb hB hn)
  clear hb
  go_enter Try.func59, Try.ntmps59
  go_wp2_with fail
  refine HH.out.mono ?_
  rintro e w1 ⟨hcase, b1⟩
  rcases hcase with ⟨h0, rfl⟩ | ⟨J, a1, c1, v2, c3, b3, o3, hJ, h4, rfl, o1, o2, s3, ap⟩
  · have hE : rdE Z n = 2 := by unfold rdE; rw [h0]
    have HE := Lib.hid hE
    have B1 := Lib.hid b1
    clear h0 hE b1
    go_wp2_with fail
    go_ret2
    exact ⟨.inl ⟨by rw [HE.out]; decide, by rw [HE.out]; rfl⟩, B1.out⟩
  · obtain ⟨g, cap, hv1, _, _, _, _⟩ := own_some o1
    injection hv1 with e1 e2 e3
    subst e1 e3
    obtain ⟨v5a, v5c, h5⟩ := own_len o2
    subst h5
    have hadr : 0 < J → ∃ g5, v5a = some ⟨g5, 0, none⟩ := fun hJ0 => by
      obtain ⟨J', rfl⟩ : ∃ J', J = J' + 1 := ⟨J - 1, by omega⟩
      obtain ⟨g5, _, hv, _⟩ := own_some o2
      injection hv with e1
      exact ⟨g5, e1⟩
    have HA := Lib.hid hadr
    have HJ := Lib.hid hJ
    have HS0 : Hid (RSt B Z n J 0 w w1.heap.size g c1 (some ⟨b3, o3, none⟩) (n - (4 * J + 1)) c3 (.slice v5a J v5c) w1) := Lib.hid ⟨b1, Nat.le_refl _, ⟨hQ Z J, o1, (o1.lt g rfl).2, fun i hi => by omega, fun i _ _ => rfl⟩, by show _ + (4 * J + 1) = n; omega, s3, o2, fun e => ap g rfl e, fun q hq => (o2.lt q hq).2⟩
    have hJ9 : J ≤ 1000 := by omega
    obtain ⟨H, hH⟩ : ∃ H, H = w1.heap.size := ⟨_, rfl⟩
    rw [← hH] at HS0
    have hHw : w.heap.size ≤ H := by rw [hH]; exact b1.size
    clear hJ o1 o2 s3 ap hadr b1 hH
    obtain ⟨m0, hm0⟩ : ∃ m0, m0 = n - (4 * J + 1) := ⟨_, rfl⟩
    rw [← hm0] at HS0
    rw [← hm0]
    have hm4 : m0 ≤ 4000 := by omega
    clear hm0
    go_wp2_with fail
    go_loopw [6, 21] (fun s6 si wr => ∃ (k m : Nat) (b' o' c' : Nat), k ≤ J ∧ m ≤ 4000 ∧ si = .int .i64 k ∧ s6 = .slice (some ⟨b', o', none⟩) m c' ∧ Hid (RSt B Z n J k w H g c1 (some ⟨b', o', none⟩) m c' (.slice v5a J v5c) wr)) (fun _ si _ => J - (intOf si).toNat)
    case atStart => exact ⟨0, m0, b3, o3, c3, by omega, hm4, rfl, rfl, HS0⟩
    case round =>
      clear HS0
      obtain ⟨k, m, b', o', c', hk, hm, rfl, rfl, HS⟩ := hrel
      obtain ⟨Q, hF⟩ := HS.out.fil
      have HF := Lib.hid hF
      have hle := HS.out.s.le
      have hmx := HS.out.s.max
      have heq := HS.out.eq
      clear hF
      by_cases hlt : k < J
      · obtain ⟨g5, rfl⟩ := HA.out (by omega)
        have c5 : wr.cell? ⟨g5, k, none⟩ = some (.int .i64 (hsz Z k : Int)) := by
          have := HS.out.o5.cells (g := g5) rfl k (.int .i64 (hsz Z k : Int)) (by simp [szs, hlt])
          rw [addr_add, Nat.zero_add] at this
          exact this
        have hle5 : offZ Z J (k + 1) ≤ offZ Z J J := offZ_le Z J (k + 1) J (by omega)
        have hoff : offZ Z J (k + 1) = offZ Z J k + hsz Z k := rfl
        obtain ⟨s, hs⟩ : ∃ s, hsz Z k = s := ⟨_, rfl⟩
        rw [hs] at c5 hoff
        have HSZ := Lib.hid hs
        clear hs
        by_cases hsm : s ≤ m
        · have hd : decide ((m : Int) < (s : Int)) = false := by simp; omega
          have HCL := Lib.hid (clone_some B ⟨b', o', none⟩ s s (fun x => Z (offZ Z J k + x)) wr ((HS.out.s.keep (HS.out.bl.mono hB)).cut (by omega) (Nat.le_refl _) (by omega)) (Nat.le_trans hB HS.out.bl.size) (by omega))
          have hk1 : (k : Int) < (J : Int) + 1 := by omega
          have hsi : (s : Int) ≤ m := by omega
          have hsc : (s : Int) ≤ c' := by omega
          have hmi : (m : Int) ≤ c' := by omega
          have heqn : m - s + offZ Z J (k + 1) = n := by omega
          have HEQ := Lib.hid heqn
          clear hoff hle5 heq heqn
          rcases (by omega : (s = c' ∧ s = m) ∨ ¬ c' = s) with ⟨hc1, hc2⟩ | hcs
          · subst hc1
            subst hc2
            go_wp2_with fail
            refine HCL.out.mono ?_
            rintro e V2 ⟨v, rfl, o9, b9⟩
            obtain ⟨a9, c9, rfl⟩ := own_len o9
            have F2 := Lib.hid (HF.out.keep b9)
            have O9 := Lib.hid (World.ownsRow.mono o9 HS.out.hz)
            have B9 := Lib.hid b9
            have e2 : V2.cell? ⟨g, k * 3 + 2, none⟩ = some (.slice none 0 0) := by rw [F2.out.cell k 2 (by omega) (by omega), F2.out.rest k (Nat.le_refl _) (by omega)]; unfold hQ; rw [if_neg (by omega)]; rfl
            have f2 : V2.frozen? ⟨g, k * 3 + 2, none⟩ = false := F2.out.free _
            clear o9 b9
            go_wp2_with fail
            clear e2 f2
            generalize hV : World.setCell V2 _ _ = V3
            obtain ⟨Q', hF'⟩ := F2.out.put (by omega) (Nat.le_trans HS.out.hz B9.out.size) (m := s) (by unfold lenAt; rw [if_neg (by omega), HSZ.out]) O9.out
            rw [hV] at hF'
            have HF' := Lib.hid hF'
            have BV : Hid (Below w.heap.size wr V3) := Lib.hid (by rw [← hV]; exact Below.setCell (B9.out.mono HS.out.bl.size) F2.out.lt.1 _)
            have SZ : Hid (wr.heap.size ≤ V3.heap.size) := Lib.hid (by rw [← hV]; have := B9.out.size; simpa [World.setCell] using this)
            have O5 : Hid (V3.ownsRow w.heap.size 3 1 (.slice (some ⟨g5, 0, none⟩) J v5c) J (szs (hsz Z) J)) := Lib.hid (by
              rw [← hV]
              exact own_but (own_below HS.out.o5 B9.out) ⟨rfl, rfl, rfl, by simp [World.setCell], fun q hq hne => set_blk_other _ (by show q ≠ g; intro e; exact hne (by rw [e]))⟩ (fun q h1 h2 => HS.out.ng (by rw [h1]; exact h2.symm)))
            clear hF' hV
            go_roundw
            case rel => exact ⟨k + 1, 0, b', o', 0, by omega, by omega, by go_num, rfl, Lib.hid ⟨HS.out.bl.trans BV.out, Nat.le_trans HS.out.hz SZ.out, ⟨Q', HF'.out⟩, by have := HEQ.out; omega, ⟨by omega, by omega, fun i hi => by omega, 0, 0, fun h => by omega, fun i hi => by omega⟩, O5.out, HS.out.ng, HS.out.h5⟩⟩
            case measure => simp [intOf] <;> omega
          · go_wp2_with fail
            refine HCL.out.mono ?_
            rintro e V2 ⟨v, rfl, o9, b9⟩
            obtain ⟨a9, c9, rfl⟩ := own_len o9
            have F2 := Lib.hid (HF.out.keep b9)
            have O9 := Lib.hid (World.ownsRow.mono o9 HS.out.hz)
            have B9 := Lib.hid b9
            have e2 : V2.cell? ⟨g, k * 3 + 2, none⟩ = some (.slice none 0 0) := by rw [F2.out.cell k 2 (by omega) (by omega), F2.out.rest k (Nat.le_refl _) (by omega)]; unfold hQ; rw [if_neg (by omega)]; rfl
            have f2 : V2.frozen? ⟨g, k * 3 + 2, none⟩ = false := F2.out.free _
            clear o9 b9
            go_wp2_with fail
            clear e2 f2
            generalize hV : World.setCell V2 _ _ = V3
            obtain ⟨Q', hF'⟩ := F2.out.put (by omega) (Nat.le_trans HS.out.hz B9.out.size) (m := s) (by unfold lenAt; rw [if_neg (by omega), HSZ.out]) O9.out
            rw [hV] at hF'
            have HF' := Lib.hid hF'
            have BV : Hid (Below w.heap.size wr V3) := Lib.hid (by rw [← hV]; exact Below.setCell (B9.out.mono HS.out.bl.size) F2.out.lt.1 _)
            have SZ : Hid (wr.heap.size ≤ V3.heap.size) := Lib.hid (by rw [← hV]; have := B9.out.size; simpa [World.setCell] using this)
            have O5 : Hid (V3.ownsRow w.heap.size 3 1 (.slice (some ⟨g5, 0, none⟩) J v5c) J (szs (hsz Z) J)) := Lib.hid (by
              rw [← hV]
              exact own_but (own_below HS.out.o5 B9.out) ⟨rfl, rfl, rfl, by simp [World.setCell], fun q hq hne => set_blk_other _ (by show q ≠ g; intro e; exact hne (by rw [e]))⟩ (fun q h1 h2 => HS.out.ng (by rw [h1]; exact h2.symm)))
            clear hF' hV
            go_roundw
            case rel => exact ⟨k + 1, m - s, b', o' + s, c' - s, by omega, by omega, by go_num, rfl, Lib.hid ⟨HS.out.bl.trans BV.out, Nat.le_trans HS.out.hz SZ.out, ⟨Q', HF'.out⟩, HEQ.out, by
              rcases Nat.eq_zero_or_pos c' with h0 | h0
              · subst h0; exact ⟨by omega, by omega, fun i hi => by omega, 0, 0, fun h => by omega, fun i hi => by omega⟩
              · exact (HS.out.s.drop s (by omega) h0).congr (Z' := fun x => Z (offZ Z J (k + 1) + x)) (fun x hx => by show Z (offZ Z J k + hsz Z k + x) = Z (offZ Z J k + (s + x)); rw [HSZ.out, Nat.add_assoc]), O5.out, HS.out.ng, HS.out.h5⟩⟩
            case measure => simp [intOf] <;> omega
        · have hd : decide ((m : Int) < (s : Int)) = true := by simp; omega
          have hE : rdE Z n = 2 := by unfold rdE; rw [HJ.out]; simp only; rw [if_neg (by omega)]
          have HE := Lib.hid hE
          clear hE hoff hle5 heq
          go_wp2_with fail
          go_ret2
          exact ⟨.inl ⟨by rw [HE.out]; decide, by rw [HE.out]; rfl⟩, HS.out.bl⟩
      · have : k = J := by omega
        subst this
        by_cases h9 : k + 1 ≤ 9
        · have h9' : decide (9 < (k : Int) + 1) = false := by simp; omega
          have HCL := Lib.hid (clone_some B ⟨b', o', none⟩ m c' (fun x => Z (offZ Z k k + x)) wr (HS.out.s.keep (HS.out.bl.mono hB)) (Nat.le_trans hB HS.out.bl.size) (by omega))
          have hE : rdE Z n = 0 := by unfold rdE; rw [HJ.out]; simp only; rw [if_pos (by omega), if_neg (by omega)]
          have HE := Lib.hid hE
          have hm2 : m = n - offZ Z k k := by omega
          have HM := Lib.hid hm2
          have ho : offZ Z k k ≤ n := by omega
          have HGD := Lib.hid (hdrs_good _ _ _ HJ.out (fun i hi => by omega))
          clear hE heq hm2
          go_wp2_with fail
          refine HCL.out.mono ?_
          rintro e V2 ⟨v, rfl, o9, b9⟩
          obtain ⟨a9, c9, rfl⟩ := own_len o9
          have F2 := Lib.hid (HF.out.keep b9)
          have O9 := Lib.hid (World.ownsRow.mono o9 HS.out.hz)
          have B9 := Lib.hid b9
          have e2 : V2.cell? ⟨g, k * 3 + 2, none⟩ = some (.slice none 0 0) := by rw [F2.out.cell k 2 (by omega) (by omega), F2.out.rest k (Nat.le_refl _) (by omega)]; unfold hQ; rw [if_pos rfl]; rfl
          have f2 : V2.frozen? ⟨g, k * 3 + 2, none⟩ = false := F2.out.free _
          clear o9 b9
          go_wp2_with fail
          clear e2 f2
          generalize hV : World.setCell V2 _ _ = V3
          obtain ⟨Q', hF'⟩ := F2.out.put (by omega) (Nat.le_trans HS.out.hz B9.out.size) (m := m) (by unfold lenAt; rw [if_pos rfl]; exact HM.out) O9.out
          rw [hV] at hF'
          have HF' := Lib.hid hF'
          have BV : Hid (Below w.heap.size wr V3) := Lib.hid (by rw [← hV]; exact Below.setCell (B9.out.mono HS.out.bl.size) F2.out.lt.1 _)
          clear hF' hV
          obtain ⟨Q2, hb2, hq2⟩ := HF'.out.blks hn h9 HBS.out.bd h4 ho HGD.out.1
          have HB2 := Lib.hid hb2
          have HQ2 := Lib.hid hq2
          clear hb2 hq2
          go_ret2
          exact ⟨.inr ⟨HE.out, k, _, _, Q2, HJ.out, h9, ho, rfl, HB2.out, HQ2.out⟩, HS.out.bl.trans BV.out⟩
        · have hE : rdE Z n = 3 := by unfold rdE; rw [HJ.out]; simp only; rw [if_pos (by omega), if_pos (by omega)]
          have HE := Lib.hid hE
          have h9' : decide (9 < (k : Int) + 1) = true := by simp; omega
          clear hE heq
          go_wp2_with fail
          go_ret2
          exact ⟨.inl ⟨by rw [HE.out]; decide, by rw [HE.out]; rfl⟩, HS.out.bl⟩
end Go.Proofs.Ytdmbdageohjodaa
