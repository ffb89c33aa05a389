/-
  Chapter 32: the place of a number.
-/
import Derived.Test.YtihbceippcgfgaaExF
namespace Go.Proofs.Ytihbceippcgfgaa
open Go.RowKit
set_option linter.unusedVariables false
set_option linter.unusedSimpArgs false
attribute [local irreducible] wpStill wpQuiet MixC.wpMix
attribute [local go_sem] MixC.rdOp MixC.rd MixC.rdUpon MixC.mvUpon

/-- r is the first place of a number, or -1 -/
def AtR (Q : Nat → El) (len : Nat) (id : Int) (r : Int) : Prop := (∃ k : Nat, k < len ∧ r = k ∧ (Q k).id = id ∧ ∀ j, j < k → (Q j).id ≠ id) ∨ (r = -1 ∧ ∀ j, j < len → (Q j).id ≠ id)
def AtPost (Q : Nat → El) (len : Nat) (id : Int) (w : World) (e : Ending) (w' : World) : Prop := ∃ r, e = .returned (.int .i64 r) ∧ AtR Q len id r ∧ Below w.heap.size w w'
set_option maxHeartbeats 2000000 in
theorem at1_any (i id : Int) (a : Option Addr) (n c q : Nat) (w : World) (hq : w.cell? ⟨q, 0, none⟩ = some (.int .i64 id)) : Calls Try.prog 104 #[.agg #[.int .i64 i, .slice a n c], .pointer (some ⟨q, 0, none⟩)] w fun e w' => e = .returned (.bool (i == id)) ∧ Below w.heap.size w w' := by
  have hq2 : (w.alloc (.cells #[.int .i64 i, .slice a n c] 35)).cell? ⟨q, 0, none⟩ = some (.int .i64 id) := Below.cell' ((Below.refl w.heap.size w).alloc (Nat.le_refl _) _) (World.block_lt_of_cell? _ _ hq) hq
  go_enter Try.func104, Try.ntmps104
  go_wp2_with fail
  go_ret
  exact ⟨rfl, by (repeat (first | exact Below.refl _ _ | refine Below.alloc ?_ (by first | (simp; done) | (simp; omega) | (simp [size_drewN]; done) | (simp [size_drewN]; omega)) _ | refine Below.drew ?_ | refine below_drewN0 ?_ _ | refine Below.setCell ?_ (by first | (simp; done) | (simp; omega) | (simp [size_drewN]; done) | (simp [size_drewN]; omega)) _))⟩
set_option maxRecDepth 100000 in
set_option maxHeartbeats 4000000 in
theorem idxE_any (B : Nat) (a : Option Addr) (len c q : Nat) (Q : Nat → El) (id : Int) (w : World) (h : Els B w a len c Q) (hB : B ≤ w.heap.size) (hn : len ≤ 100000) (hq : w.cell? ⟨q, 0, none⟩ = some (.int .i64 id)) :
    Calls Try.prog 103 #[.slice a len c, .func (.func 104) #[] #[.pointer (some ⟨q, 0, none⟩)]] w (AtPost Q len id w) := by
  have H := Lib.hid h
  have hcm := h.max
  have hcl := h.le
  have HQ := Lib.hid hq
  clear h hq
  go_enter Try.func103, Try.ntmps103
  go_wp2_with fail
  go_loopw [8] (fun s8 wr => ∃ k : Nat, k ≤ len ∧ s8 = .int .i64 k ∧ Hid (Below w.heap.size w wr) ∧ Hid (∀ j, j < k → (Q j).id ≠ id)) (fun s8 _ => len - (intOf s8).toNat)
  case atStart => exact ⟨0, by omega, rfl, Lib.hid (Below.refl _ _), Lib.hid (fun j h => by omega)⟩
  case round =>
    obtain ⟨k, hk, rfl, HB, HP⟩ := hrel
    by_cases hlt : k < len
    · obtain ⟨b, off, hp, hc⟩ := (H.out.keep (HB.out.mono hB)).mem
      obtain ⟨rfl, hb⟩ := hp (by omega)
      obtain ⟨c0, c1⟩ := hc k hlt
      have hki : (k : Int) < len := by omega
      have HC := Lib.hid (at1_any (Q k).id id (Q k).a (Q k).n (Q k).c q wr (Below.cell' HB.out (World.block_lt_of_cell? _ _ HQ.out) HQ.out))
      clear hp hc
      obtain ⟨t, ht⟩ : ∃ t, ((Q k).id == id) = t := ⟨_, rfl⟩
      rw [ht] at HC
      have HT := Lib.hid ht
      clear ht
      go_wp2_with fail
      refine HC.out.mono ?_
      rintro e V ⟨rfl, bv⟩
      have BV := Lib.hid (HB.out.trans (bv.mono HB.out.size))
      clear bv c0 c1
      cases t with
      | true =>
        go_wp2_with fail
        go_ret
        exact ⟨_, rfl, .inl ⟨k, hlt, rfl, by simpa using HT.out, HP.out⟩, BV.out⟩
      | false =>
        have HP2 : Hid (∀ j, j < k + 1 → (Q j).id ≠ id) := Lib.hid (fun j h => by
          rcases Nat.lt_or_ge j k with h1 | h1
          · exact HP.out j h1
          · rw [show j = k by omega]; simpa using HT.out)
        go_wp2_with fail
        go_roundw
        case rel => exact ⟨k + 1, by omega, by go_num, BV, HP2⟩
        case measure => simp [intOf] <;> omega
    · have : k = len := by omega
      subst this
      clear hlt
      go_wp2_with fail
      go_ret
      exact ⟨_, rfl, .inr ⟨rfl, HP.out⟩, HB.out⟩
set_option maxHeartbeats 2000000 in
theorem at32_any (B : Nat) (a : Option Addr) (len c : Nat) (Q : Nat → El) (id : Int) (w : World) (h : Els B w a len c Q) (hB : B ≤ w.heap.size) (hn : len ≤ 100000) : Calls Try.prog 71 #[.slice a len c, .int .i64 id] w (AtPost Q len id w) := by
  have H := Lib.hid h
  clear h
  go_enter Try.func71, Try.ntmps71
  go_wp2_with fail
  obtain ⟨W, hW⟩ : ∃ W, w.alloc (.cells #[.int .i64 id] 3) = W := ⟨_, rfl⟩
  rw [hW]
  have b1 : Below w.heap.size w W := by rw [← hW]; exact (Below.refl _ _).alloc (Nat.le_refl _) _
  have k1 : W.cell? ⟨w.heap.size, 0, none⟩ = some (.int .i64 id) := by rw [← hW]; exact cell_blk alloc_blk_new
  refine (idxE_any B a len c w.heap.size Q id W (H.out.keep (b1.mono hB)) (Nat.le_trans hB b1.size) hn k1).mono ?_
  rintro e V ⟨r, rfl, hr, b2⟩
  have BV := Lib.hid (b1.trans (b2.mono b1.size))
  have HR := Lib.hid hr
  clear hr b1 b2 k1 hW
  go_wp2_with fail
  go_ret
  exact ⟨r, rfl, HR.out, BV.out⟩
end Go.Proofs.Ytihbceippcgfgaa
