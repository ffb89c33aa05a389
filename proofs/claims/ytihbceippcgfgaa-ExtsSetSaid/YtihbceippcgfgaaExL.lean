/-
  Chapter 32: slices.IndexFunc with Without's closure.
-/
import Derived.Test.YtihbceippcgfgaaExK
namespace Go.Proofs.Ytihbceippcgfgaa
open Go.RowKit
set_option linter.unusedVariables false
set_option linter.unusedSimpArgs false
attribute [local irreducible] wpStill wpQuiet MixC.wpMix
attribute [local go_sem] MixC.rdOp MixC.rd MixC.rdUpon MixC.mvUpon

def InF (F : Nat → Int) (m : Nat) (v : Int) : Prop := ∃ i, i < m ∧ F i = v
/-- r is the first place of an element whose number is among F's, or -1 -/
def AtW (Q : Nat → El) (len : Nat) (F : Nat → Int) (m : Nat) (w : World) (e : Ending) (w' : World) : Prop := ∃ r, e = .returned (.int .i64 r) ∧ ((∃ k : Nat, k < len ∧ r = k ∧ InF F m (Q k).id ∧ ∀ j, j < k → ¬ InF F m (Q j).id) ∨ (r = -1 ∧ ∀ j, j < len → ¬ InF F m (Q j).id)) ∧ Below w.heap.size w w'
set_option maxRecDepth 100000 in
set_option maxHeartbeats 4000000 in
theorem idxW_any (B : Nat) (a : Option Addr) (len c q : Nat) (Q : Nat → El) (ia : Option Addr) (m ic : Nat) (F : Nat → Int) (w : World) (hF : Ids B w ia m ic F) (hm : m ≤ 100000) (h : Els B w a len c Q) (hB : B ≤ w.heap.size) (hn : len ≤ 100000) (hq : w.cell? ⟨q, 0, none⟩ = some (.slice ia m ic)) :
    Calls Try.prog 103 #[.slice a len c, .func (.func 73) #[] #[.pointer (some ⟨q, 0, none⟩)]] w (AtW Q len F m w) := by
  have H := Lib.hid h
  have hcm := h.max
  have hcl := h.le
  have HQ := Lib.hid hq
  have HFF := Lib.hid hF
  clear h hq hF
  go_enter Try.func103, Try.ntmps103
  go_wp2_with fail
  go_loopw [8] (fun s8 wr => ∃ k : Nat, k ≤ len ∧ s8 = .int .i64 k ∧ Hid (Below w.heap.size w wr) ∧ Hid (∀ j, j < k → ¬ InF F m (Q j).id)) (fun s8 _ => len - (intOf s8).toNat)
  case atStart => exact ⟨0, by omega, rfl, Lib.hid (Below.refl _ _), Lib.hid (fun j h => by omega)⟩
  case round =>
    obtain ⟨k, hk, rfl, HB, HP⟩ := hrel
    by_cases hlt : k < len
    · obtain ⟨b, off, hp, hc⟩ := (H.out.keep (HB.out.mono hB)).mem
      obtain ⟨rfl, hb⟩ := hp (by omega)
      obtain ⟨c0, c1⟩ := hc k hlt
      have hki : (k : Int) < len := by omega
      have HC := Lib.hid (without1_any B ia m ic q F (Q k) wr (HFF.out.keep (HB.out.mono hB)) (Nat.le_trans hB HB.out.size) hm (Below.cell' HB.out (World.block_lt_of_cell? _ _ HQ.out) HQ.out))
      clear hp hc
      go_wp2_with fail
      refine HC.out.mono ?_
      rintro e V ⟨t, rfl, ht, bv⟩
      have HT := Lib.hid ht
      clear ht
      have BV := Lib.hid (HB.out.trans (bv.mono HB.out.size))
      clear bv c0 c1
      cases t with
      | true =>
        go_wp2_with fail
        go_ret
        exact ⟨_, rfl, .inl ⟨k, hlt, rfl, HT.out.1 trivial, HP.out⟩, BV.out⟩
      | false =>
        have HP2 : Hid (∀ j, j < k + 1 → ¬ InF F m (Q j).id) := Lib.hid (fun j h => by
          rcases Nat.lt_or_ge j k with h1 | h1
          · exact HP.out j h1
          · rw [show j = k by omega]; exact fun h => by have := HT.out.2 h; cases this)
        go_wp2_with fail
        go_roundw
        case rel => exact ⟨k + 1, by omega, by go_num, BV, HP2⟩
        case measure => simp [intOf] <;> omega
    · have : k = len := by omega
      subst this
      clear hlt
      go_wp2_with fail
      go_ret
      exact ⟨_, rfl, .inr ⟨rfl, HP.out⟩, HB.out⟩
end Go.Proofs.Ytihbceippcgfgaa
