/-
  Chapter 34: slices.Concat of two slices of bytes.
-/
import Derived.Test.YtkoplofcjbeicaaGrow
import Derived.Test.YtkoplofcjbeicaaPut
import Derived.Test.YtkoplofcjbeicaaAppend
import Derived.Test.YtkoplofcjbeicaaReads
import Derived.StillTailTactics
import Derived.IntWalk
namespace Go.Proofs.Ytkoplofcjbeicaa
open Go.RowKit
set_option linter.unusedVariables false
set_option linter.unusedSimpArgs false
attribute [local irreducible] wpStill wpQuiet

theorem grow_any (n : Nat) (h0 : 0 < n) (hn : n ≤ 1000000) (w : World) :
    Calls Try.prog 74 #[.slice none 0 0, .int .i64 (n : Int)] w fun e w' => ∃ v, e = .returned v ∧ w'.ownsRow w.heap.size 5 1 v 0 [] ∧ Below w.heap.size w w' := by
  obtain ⟨i0, hi, hz0, hz1, hz2⟩ := info_parts infoU8
  have h := Any8.slices_Grow_grow Try.growB i0 (.int .u8 0) hi hz0 (by omega) none 0 0 n [] w (by omega) (by omega) (by rw [hz2]; omega) (by omega) (by simp) (fun _ => rfl) (fun a h => by cases h)
  refine Calls.mono (show Calls Try.prog 74 #[.slice none 0 0, .int .i64 (n : Int)] w _ from h) ?_
  rintro e w' ⟨rfl, rfl⟩
  have hg := grownCap_ge w (0 + n) 0 (Try.growB_ren.t 25)
  refine ⟨_, rfl, ⟨rfl, .inr ⟨w.heap.size, _, _, rfl, Nat.le_refl _, alloc_blk_new, Nat.zero_le _, grownCap_le_maxLen w _ _ _ (by unfold maxLen; omega), ?_, rfl⟩⟩, ((Below.refl _ w).drew).alloc (Nat.le_refl _) _⟩
  rw [Nat.zero_add] at hg
  simp [Builtin.zeroCells, Value.cells]
  omega
theorem BS.nil {B : Nat} {w : World} {a : Option Addr} {len cap : Nat} {Z : Nat → Int} (h : BS B w a len cap Z) : a = none → len = 0 ∧ cap = 0 := by
  intro ha
  rcases Nat.eq_zero_or_pos cap with h0 | h0
  · exact ⟨by have := h.le; omega, h0⟩
  · obtain ⟨_, _, h1, _⟩ := h.at_ h0; rw [h1] at ha; cases ha
theorem BS.news {B : Nat} {w : World} {a : Option Addr} {n cap : Nat} {Z : Nat → Int} (h : BS B w a n cap Z) : ∀ ad, a = some ad → ∀ (j : Nat) u, (bytesOf Z n)[j]? = some u → w.cell? (ad.add j) = some u := by
  intro ad had j u hj
  obtain ⟨hjl, rfl⟩ := bytesOf_get hj
  obtain ⟨b1, o1, h1, h2, h3⟩ := h.at_ (by have := h.le; omega)
  rw [h1] at had
  cases had
  have h4 := h3 j hjl
  have : (⟨b1, o1, none⟩ : Addr).add j = ⟨b1, o1 + j, none⟩ := by unfold Addr.add; split <;> simp_all
  rw [this]; exact h4
def catZ (Z1 : Nat → Int) (n1 : Nat) (Z2 : Nat → Int) (i : Nat) : Int := if i < n1 then Z1 i else Z2 (i - n1)
theorem bytesOf_cat (Z1 : Nat → Int) (n1 : Nat) (Z2 : Nat → Int) (n2 : Nat) : bytesOf (catZ Z1 n1 Z2) (n1 + n2) = bytesOf Z1 n1 ++ bytesOf Z2 n2 := by
  induction n2 with
  | zero => rw [Nat.add_zero, bytesOf_congr (Z' := Z1) (fun i hi => by unfold catZ; rw [if_pos hi])]; simp [bytesOf]
  | succ n2 ih =>
    rw [← Nat.add_assoc, bytesOf_succ, ih, bytesOf_succ]
    have e : catZ Z1 n1 Z2 (n1 + n2) = Z2 n2 := by unfold catZ; rw [if_neg (by omega), Nat.add_sub_cancel_left]
    rw [e, List.append_assoc]
set_option maxRecDepth 100000 in
set_option maxHeartbeats 4000000 in
theorem concat_any (B : Nat) (a1 : Option Addr) (n1 c1 : Nat) (Z1 : Nat → Int) (a2 : Option Addr) (n2 c2 : Nat) (Z2 : Nat → Int) (p c : Nat) (w : World) (s1 : BS B w a1 n1 c1 Z1) (s2 : BS B w a2 n2 c2 Z2) (hB : B ≤ w.heap.size) (h1 : 0 < n1) (hn1 : n1 ≤ 10000) (hn2 : n2 ≤ 10000) (hc : 2 ≤ c)
    (p0 : w.cell? ⟨p, 0, none⟩ = some (.slice a1 n1 c1)) (p1 : w.cell? ⟨p, 1, none⟩ = some (.slice a2 n2 c2)) :
    Calls Try.prog 45 #[.slice (some ⟨p, 0, none⟩) 2 c] w fun e w' => ∃ v, e = .returned v ∧ w'.ownsRow w.heap.size 5 1 v (n1 + n2) (bytesOf (catZ Z1 n1 Z2) (n1 + n2)) ∧ Below w.heap.size w w' := by
  obtain ⟨i0, hi, hz0, hz1, hz2⟩ := info_parts infoU8
  have hp : p < w.heap.size := World.block_lt_of_cell? _ _ p0
  have S1 := Lib.hid s1
  have S2 := Lib.hid s2
  have hg0 := grow_any (n1 + n2) (by omega) (by omega) w
  rw [Int.natCast_add] at hg0
  have HG := Lib.hid hg0
  clear hg0
  clear s1 s2
  go_enter Try.func45, Try.ntmps45
  go_wp2_with fail
  go_loopw [3, 11] (fun so si wr => Hid (wr = w) ∧ ((si = .int .i64 0 ∧ so = .int .i64 0) ∨ (si = .int .i64 1 ∧ so = .int .i64 n1) ∨ (si = .int .i64 2 ∧ so = .int .i64 ((n1 : Int) + (n2 : Int))))) (fun _ si _ => 2 - (intOf si).toNat)
  case atStart => exact ⟨Lib.hid rfl, .inl ⟨rfl, rfl⟩⟩
  case round =>
    obtain ⟨hw, ⟨rfl, rfl⟩ | ⟨rfl, rfl⟩ | ⟨rfl, rfl⟩⟩ := hrel
    · have p0' : wr.cell? ⟨p, 0, none⟩ = some (.slice a1 n1 c1) := by rw [hw.out]; exact p0
      go_wp2_with fail
      exact ⟨⟨hw, .inr (.inl ⟨rfl, rfl⟩)⟩, by simp [intOf]⟩
    · have p1' : wr.cell? ⟨p, 1, none⟩ = some (.slice a2 n2 c2) := by rw [hw.out]; exact p1
      go_wp2_with fail
      exact ⟨⟨hw, .inr (.inr ⟨rfl, rfl⟩)⟩, by simp [intOf]⟩
    · have hw' := hw.out.symm
      subst hw'
      clear hw
      go_wp2_with fail
      refine HG.out.mono ?_
      rintro e w1 ⟨v0, rfl, O0, B0⟩
      have O1 := Lib.hid O0
      have B1 := Lib.hid B0
      clear O0 B0 HG
      go_wp2_with fail
      go_loopw [6, 27] (fun so si wr => Hid (Below w.heap.size w wr) ∧ ((si = .int .i64 0 ∧ Hid (wr.ownsRow w.heap.size 5 1 so 0 [])) ∨ (si = .int .i64 1 ∧ Hid (wr.ownsRow w.heap.size 5 1 so n1 (bytesOf Z1 n1))) ∨ (si = .int .i64 2 ∧ Hid (wr.ownsRow w.heap.size 5 1 so (n1 + n2) (bytesOf (catZ Z1 n1 Z2) (n1 + n2)))))) (fun _ si _ => 2 - (intOf si).toNat)
      case atStart => exact ⟨B1, .inl ⟨rfl, O1⟩⟩
      case round =>
        obtain ⟨HB, ⟨rfl, HO⟩ | ⟨rfl, HO⟩ | ⟨rfl, HO⟩⟩ := hrel
        all_goals obtain ⟨va, vc, hv⟩ := own_len HO.out
        all_goals subst hv
        · have BS0 := Lib.hid (S1.out.keep (HB.out.mono hB))
          have p0' := Below.cell' HB.out hp p0
          have hsz := HB.out.size
          go_wp2_with
            (at_builtin
             refine append_src _ rfl (.tmp 31) (.tmp 32) 22 rfl w.heap.size 5 i0 (.int .u8 0) 1 1 Try.underlying22 hi hz0 hz1 hz2 rfl (by decide) (.slice va 0 vc) 0 [] rfl HO.out a1 n1 c1 (bytesOf Z1 n1) rfl ?d1 ?d2 ?d3 ?d4 ?d5 ?d6 ?d7 ?_
             case d1 => exact BS0.out.nil
             case d2 => simp [bytesOf]
             case d3 => exact BS0.out.news
             case d4 => intro u hu; simp [bytesOf] at hu; obtain ⟨i, _, rfl⟩ := hu; rfl
             case d5 => unfold maxLen; omega
             case d6 => omega
             case d7 => exact hsz)
          intro v2 w2 own2 bel2
          have HO2 := Lib.hid own2
          have HB2 := Lib.hid (HB.out.trans bel2)
          clear own2 bel2
          go_wp2_with fail
          go_roundw
          case rel => exact ⟨HB2, .inr (.inl ⟨rfl, Lib.hid (by have := HO2.out; simpa using this)⟩)⟩
          case measure => simp [intOf]
        · have BS1 := Lib.hid (S2.out.keep (HB.out.mono hB))
          have p1' := Below.cell' HB.out hp p1
          have hsz := HB.out.size
          go_wp2_with
            (at_builtin
             refine append_src _ rfl (.tmp 31) (.tmp 32) 22 rfl w.heap.size 5 i0 (.int .u8 0) 1 1 Try.underlying22 hi hz0 hz1 hz2 rfl (by decide) (.slice va n1 vc) n1 (bytesOf Z1 n1) rfl HO.out a2 n2 c2 (bytesOf Z2 n2) rfl ?d1 ?d2 ?d3 ?d4 ?d5 ?d6 ?d7 ?_
             case d1 => exact BS1.out.nil
             case d2 => simp [bytesOf]
             case d3 => exact BS1.out.news
             case d4 => intro u hu; simp [bytesOf] at hu; obtain ⟨i, _, rfl⟩ := hu; rfl
             case d5 => unfold maxLen; omega
             case d6 => omega
             case d7 => exact hsz)
          intro v2 w2 own2 bel2
          have HO2 := Lib.hid own2
          have HB2 := Lib.hid (HB.out.trans bel2)
          clear own2 bel2
          go_wp2_with fail
          go_roundw
          case rel => exact ⟨HB2, .inr (.inr ⟨rfl, Lib.hid (by rw [bytesOf_cat]; exact HO2.out)⟩)⟩
          case measure => simp [intOf]
        · go_wp2_with fail
          go_ret
          exact ⟨_, rfl, HO.out, HB.out⟩
end Go.Proofs.Ytkoplofcjbeicaa
