/-
  The walk of LevelsSilent.
-/
import Derived.Test.YtkemkplmhjmahaaLevTake
import Derived.StillTailTactics
namespace Go.Proofs.Ytkemkplmhjmahaa
open Go.RowKit
set_option linter.unusedVariables false
set_option linter.unusedSimpArgs false

set_option maxHeartbeats 2000000 in
theorem alive33_any (w : World) : Calls Try.prog 35 #[] w fun e w' => e = .returned (.bool true) ∧ Below w.heap.size w w' := by
  go_enter Try.func35, Try.ntmps35
  go_wp2_with fail
  refine (lnew2 _).mono ?_
  rintro e w1 ⟨g, q, rfl, hg, hq, f1, b1⟩
  go_wp2_with fail
  refine (ltake_any g q 2 _ 10 (-1) 1 true 27 _ f1 (by decide) (fun i hi => by omega) (by decide) (by decide) (by decide)).mono ?_
  rintro e w2 ⟨rfl, f2, b2⟩
  have B2 := b1.trans (b2.mono (by omega))
  rw [show spTo (upd (fun _ => 0) 1 (after 0 true 27)) 2 10 (-1) = 1 by decide] at f2 ⊢
  clear b1 b2 f1
  go_wp2_with fail
  refine (ltake_any g q 2 _ 10 1 0 true 20 _ f2 (by decide) (fun i hi => by have : i = 0 ∨ i = 1 := (by omega); rcases this with rfl | rfl <;> decide) (by decide) (by decide) (by decide)).mono ?_
  rintro e w3 ⟨rfl, f3, b3⟩
  have B3 := B2.trans (b3.mono (by omega))
  rw [show spTo (upd (upd (fun _ => 0) 1 (after 0 true 27)) 0 (after (upd (fun _ => 0) 1 (after 0 true 27) 0) true 20)) 2 10 1 = 1 by decide] at f3 ⊢
  clear B2 b3 f2
  go_wp2_with fail
  refine (ltake_any g q 2 _ 10 1 0 true 20 _ f3 (by decide) (fun i hi => by have : i = 0 ∨ i = 1 := (by omega); rcases this with rfl | rfl <;> decide) (by decide) (by decide) (by decide)).mono ?_
  rintro e w4 ⟨rfl, f4, b4⟩
  have B4 := B3.trans (b4.mono (by omega))
  generalize hsp : spTo _ 2 10 1 = sp at f4 ⊢
  have hs0 : sp = 0 := by rw [← hsp]; decide
  subst hs0
  clear B3 b4 f3 hsp f4
  go_wp2_with fail
  go_ret
  exact ⟨rfl, B4⟩

theorem levops_of {w : World} {v : Value} (h : Reads Try.prog w 6 54 v) : ∃ a len cap b off, ∃ (X : Nat → Int) (V : Nat → Bool) (D : Nat → Int), v = .slice a len cap ∧ (0 < cap → a = some ⟨b, off, none⟩ ∧ b < w.heap.size) ∧ len ≤ cap ∧ cap ≤ 9223372036854775807 ∧
    (∀ i, i < cap → w.cell? ⟨b, off + i * 3, none⟩ = some (.int .i64 (X i)) ∧ w.cell? ⟨b, off + i * 3 + 1, none⟩ = some (.bool (V i)) ∧ w.cell? ⟨b, off + i * 3 + 2, none⟩ = some (.int .i64 (D i))) ∧
    ∀ i, i < cap → (-9223372036854775808 ≤ X i ∧ X i ≤ 9223372036854775807) := by
  obtain ⟨a, len, cap, b, off, V, rfl, row⟩ := reads_slice Try.underlying54 (ts := [3, 4, 3]) (by kernel_rfl) (by kernel_rfl) (by decide) h
  obtain ⟨X, hX⟩ := Deep.choose_lt (n := cap) (p := fun i (x : Int) => V i 0 = .int .i64 x ∧ (Lit.int .i64 x).wf = true) (fun i hi => reads_int Try.underlying3 (row.read i hi 0 _ rfl))
  obtain ⟨Y, hY⟩ := Deep.choose_lt (n := cap) (p := fun i (x : Bool) => V i 1 = .bool x) (fun i hi => reads_bool Try.underlying4 (row.read i hi 1 _ rfl))
  obtain ⟨Z, hZ⟩ := Deep.choose_lt (n := cap) (p := fun i (x : Int) => V i 2 = .int .i64 x ∧ (Lit.int .i64 x).wf = true) (fun i hi => reads_int Try.underlying3 (row.read i hi 2 _ rfl))
  have hm := row.max
  unfold maxLen at hm
  refine ⟨a, len, cap, b, off, X, Y, Z, rfl, row.addr, row.le, by omega, fun i hi => ⟨?_, ?_, ?_⟩, fun i hi => bounds_i64 (hX i hi).2⟩
  · have := row.cell i hi 0 (by decide); simpa [(hX i hi).1] using this
  · have := row.cell i hi 1 (by decide); simpa [hY i hi, Nat.add_assoc] using this
  · have := row.cell i hi 2 (by decide); simpa [(hZ i hi).1, Nat.add_assoc] using this

theorem after_bd {S : Nat → Int} {n : Nat} (h : ∀ i, i < n → 0 ≤ S i ∧ S i ≤ 508) (k : Nat) (hk : k < n) (v : Bool) (d : Int) (hd : 0 ≤ d ∧ d ≤ 127) : ∀ i, i < n → 0 ≤ upd S k (after (S k) v d) i ∧ upd S k (after (S k) v d) i ≤ 508 := fun i hi => by
  have h1 := h i hi
  have h2 := h k hk
  unfold upd; split
  · unfold after less; cases v <;> simp <;> omega
  · omega
/-- any level, of whatever seat -/
theorem ltake_all (g q : Nat) (S : Nat → Int) (sp x : Int) (v : Bool) (d : Int) (w : World) (hg : flr w g q 4 S 5 sp) (hS : ∀ i, i < 4 → 0 ≤ S i ∧ S i ≤ 508) :
    Calls Try.prog 37 #[.pointer (some ⟨g, 0, none⟩), .int .i64 x, level v d] w fun e w' => ∃ r S' sp', e = .returned r ∧ flr w' g q 4 S' 5 sp' ∧ (∀ i, i < 4 → 0 ≤ S' i ∧ S' i ≤ 508) ∧ Below (min g q) w w' := by
  have hl := hg.lt
  by_cases hx : 0 ≤ x ∧ x < ((4 : Nat) : Int)
  · obtain ⟨k, rfl⟩ := Int.eq_ofNat_of_zero_le hx.1
    have hk : k < 4 := by omega
    by_cases hd : 0 ≤ d ∧ d ≤ 127
    · exact (ltake_any g q 4 S 5 sp k v d w hg (by decide) hS (by decide) hk hd).mono fun e w' ⟨h1, h2, h3⟩ => ⟨_, _, _, h1, h2, after_bd hS k hk v d hd, h3⟩
    · exact (ltake_arg g q 4 S 5 sp _ v d w hg (by decide) hx hd).mono fun e w' ⟨h1, h2⟩ => ⟨_, S, sp, h1, hg.old h2, hS, h2.mono (by omega)⟩
  · exact (ltake_none g q 4 S 5 sp x v d w hg (by decide) hx).mono fun e w' ⟨h1, h2⟩ => ⟨_, S, sp, h1, hg.old h2, hS, h2.mono (by omega)⟩

/-- how much is left behind so many silent levels, at most -/
def dec : Nat → Int
  | 0 => 508
  | k + 1 => less (dec k)
theorem dec60 : dec 60 = 0 := by decide +kernel
theorem less_mono {a b : Int} (h : a ≤ b) : less a ≤ less b := by unfold less; omega
theorem sp_not {S : Nat → Int} {n : Nat} {L sp : Int} {s : Nat} (hs : s < n) (h0 : S s = 0) : spTo S n L sp ≠ s := by
  have hb := bestTo_bd S n
  unfold spTo
  split
  · rename_i h
    intro he
    apply hb.2.2 h.1
    rw [he]; simpa using h0
  · split
    · omega
    · rename_i h h2
      intro he
      apply h2
      unfold scoreOf
      rw [he, if_pos (by omega)]; simpa using h0

set_option maxHeartbeats 4000000 in
set_option maxRecDepth 100000 in
theorem LevelsSilent.walk (v : Value) (t : Int) (w : World) (r : Reads Try.prog w 6 54 v) (w1 : (Lit.int .u8 t).wf = true) :
    Calls Try.prog 10 #[v, .int .u8 t] w fun e w' => e = .returned (.bool true) ∧ Below w.heap.size w w' := by
  obtain ⟨a, len, cap, b, off, X, V, D, rfl, ha, hl, hm, hc, hX⟩ := levops_of r
  have ht := bounds_u8 w1
  have HA := Lib.hid ha
  have HC := Lib.hid hc
  have HX := Lib.hid hX
  clear ha hc hX r w1
  go_enter Try.func10, Try.ntmps10
  go_wp2_with fail
  refine (alive33_any _).mono ?_
  rintro e w1 ⟨rfl, hb1⟩
  go_wp2_with fail
  refine (lnew4 _).mono ?_
  rintro e w2 ⟨g, q, rfl, hg1, hq1, f2, hb2⟩
  have B2 := hb1.trans (hb2.mono hb1.size)
  have hgw : w.heap.size ≤ g := by have := hb1.size; omega
  have hqw : w.heap.size ≤ q := by have := hb1.size; omega
  clear hb1 hb2 hg1 hq1
  go_wp2_with fail
  go_loopw [6] (fun si wr => ∃ (k : Nat) (S : Nat → Int) (sp : Int), k ≤ len ∧ si = .int .i64 k ∧ flr wr g q 4 S 5 sp ∧ Hid (∀ i, i < 4 → 0 ≤ S i ∧ S i ≤ 508) ∧ Below w.heap.size w wr) (fun si _ => len - (intOf si).toNat)
  case atStart => exact ⟨0, _, _, by omega, rfl, f2, Lib.hid (fun i hi => by omega), B2⟩
  case round =>
    obtain ⟨k, S, sp, hk, rfl, fr, HS, hbel⟩ := hrel
    by_cases hlt : k < len ∧ k < 60
    · obtain ⟨hlt1, hlt2⟩ := hlt
      obtain ⟨rfl, hbs⟩ := HA.out (by omega)
      obtain ⟨k0, k1, k2⟩ := HC.out k (by omega)
      have l0 := Below.cell' hbel hbs k0
      have l1 := Below.cell' hbel hbs k1
      have l2 := Below.cell' hbel hbs k2
      clear k0 k1 k2
      have fr' := fr.drewN 1
      go_wp2_with fail
      go_still_tail 11, (by kernel_rfl)
      change wpList _ _ _ _ _ wr.drew
      go_wp2_with fail
      refine (ltake_all g q S sp (X k) (V k) (D k) _ fr' HS.out).mono ?_
      rintro e w3 ⟨rv, S', sp', rfl, f3, hS', b3⟩
      have B3 := (show Below w.heap.size w wr.drew from hbel.drew).trans (b3.mono (by omega))
      have HS' := Lib.hid hS'
      clear hS' b3 fr fr' l0 l1 l2 hbel
      go_wp2_with fail
      go_roundw
      case rel => exact ⟨k + 1, S', sp', by omega, by go_num, f3, HS', B3⟩
      case measure => simp [intOf] <;> omega
    · obtain ⟨s, hs4, hs'⟩ : ∃ s : Nat, s < 4 ∧ t % 4 = s := ⟨(t % 4).toNat, by omega, by omega⟩
      have HSM : Hid (t % 4 = (s : Int)) := Lib.hid hs'
      clear hs'
      have hks : (k < len ∧ ¬ k < 60) ∨ ¬ k < len := by omega
      rcases hks with ⟨hkl, hks⟩ | hks
      all_goals
        go_wp2_with fail
        obtain ⟨wo, hwo⟩ : ∃ wo : World, wo = wr := ⟨_, rfl⟩
        go_loopw [8] (fun si wr => ∃ (k : Nat) (S : Nat → Int) (sp : Int), k ≤ 60 ∧ si = .int .i64 k ∧ flr wr g q 4 S 5 sp ∧ Hid (∀ i, i < 4 → 0 ≤ S i ∧ S i ≤ 508) ∧ Hid (S s ≤ dec k) ∧ Hid (0 < k → S s = 0 → sp ≠ s) ∧ Below w.heap.size w wr) (fun si _ => 60 - (intOf si).toNat)
        case atStart => exact ⟨0, S, sp, by omega, rfl, fr, HS, Lib.hid (HS.out s hs4).2, Lib.hid (fun h => by omega), hbel⟩
        case round =>
          clear fr HS hbel
          obtain ⟨k, S, sp, hk, rfl, fr, HS, HD, HP, hbel⟩ := hrel
          by_cases hlt : k < 60
          · go_wp2_with fail
            have hT := ltake_any g q 4 S 5 sp s false 127 wr fr (by decide) HS.out (by decide) hs4 (by decide)
            rw [← HSM.out] at hT
            refine hT.mono ?_
            clear hT
            rintro e w3 ⟨rfl, f3, b3⟩
            have B3 := hbel.trans (b3.mono (by omega))
            have HS3 := Lib.hid (after_bd HS.out s hs4 false 127 (by decide))
            have HP3 : Hid (0 < k + 1 → upd S s (after (S s) false 127) s = 0 → spTo (upd S s (after (S s) false 127)) 4 5 sp ≠ s) := Lib.hid (fun _ h => sp_not hs4 h)
            have HD3 : Hid (upd S s (after (S s) false 127) s ≤ dec (k + 1)) := Lib.hid (by unfold upd; rw [if_pos rfl]; exact less_mono HD.out)
            generalize upd S s (after (S s) false 127) = S' at *
            generalize spTo S' 4 5 sp = sp' at *
            clear b3 fr hbel HS HD HP
            go_wp2_with fail
            go_roundw
            case rel =>
              exact ⟨k + 1, S', sp', by omega, by go_num, f3, HS3, HD3, HP3, B3⟩
            case measure => simp [intOf] <;> omega
          · obtain rfl : k = 60 := by omega
            have h0 : S s = 0 := by have := HD.out; rw [dec60] at this; have := (HS.out s hs4).1; omega
            have hne := HP.out (by omega) h0
            have hsc := lscore_any g q 4 S 5 sp (s : Int) _ fr (by decide)
            rw [show scoreOf S 4 (s : Int) = 0 by unfold scoreOf; rw [if_pos (by omega)]; simpa using h0] at hsc
            rw [← HSM.out] at hsc hne
            have HSC := Lib.hid hsc
            have n1 : (sp != t % 4) = true := by simpa using hne
            clear hsc hne h0
            go_wp2_with (first | (go_at_call 38; refine (HSC.out).mono ?_; rintro e w' ⟨rfl, rfl⟩) | (go_at_call 39; refine (lspeaks_any g q 4 S 5 sp _ fr).mono ?_; rintro e w' ⟨rfl, rfl⟩))
            go_ret
            exact ⟨ret_bool (by simp), hbel⟩
end Go.Proofs.Ytkemkplmhjmahaa
