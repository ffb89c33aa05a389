/-
  Chapter 32: does a number stand in a list of numbers; what Without's closure says.
-/
import Derived.Test.YtihbceippcgfgaaExJ
namespace Go.Proofs.Ytihbceippcgfgaa
open Go.RowKit
set_option linter.unusedVariables false
set_option linter.unusedSimpArgs false
attribute [local irreducible] wpStill wpQuiet MixC.wpMix
attribute [local go_sem] MixC.rdOp MixC.rd MixC.rdUpon MixC.mvUpon

/-- a list of numbers that lies somewhere -/
structure Ids (B : Nat) (w : World) (a : Option Addr) (n c : Nat) (F : Nat → Int) : Prop where
  le : n ≤ c
  max : c ≤ 9223372036854775807
  mem : ∃ b off, (0 < n → a = some ⟨b, off, none⟩ ∧ b < B) ∧ ∀ i, i < n → w.cell? ⟨b, off + i, none⟩ = some (.int .i64 (F i))
theorem Ids.keep {B : Nat} {w w' : World} {a : Option Addr} {n c : Nat} {F : Nat → Int} (h : Ids B w a n c F) (hb : Below B w w') : Ids B w' a n c F := by
  obtain ⟨h1, h2, b, off, h3, h4⟩ := h
  exact ⟨h1, h2, b, off, h3, fun i hi => Below.cell' hb (h3 (by omega)).2 (h4 i hi)⟩
def IxP (F : Nat → Int) (n : Nat) (v : Int) (w : World) (e : Ending) (w' : World) : Prop := ∃ r, e = .returned (.int .i64 r) ∧ ((0 ≤ r ∧ ∃ i, i < n ∧ F i = v) ∨ (r = -1 ∧ ∀ i, i < n → F i ≠ v)) ∧ Below w.heap.size w w'
set_option maxRecDepth 100000 in
set_option maxHeartbeats 4000000 in
theorem ix_any (B : Nat) (a : Option Addr) (n c : Nat) (F : Nat → Int) (v : Int) (w : World) (h : Ids B w a n c F) (hB : B ≤ w.heap.size) (hn : n ≤ 100000) :
    Calls Try.prog 105 #[.slice a n c, .int .i64 v] w (IxP F n v w) := by
  have H := Lib.hid h
  have hcm := h.max
  have hcl := h.le
  clear h
  go_enter Try.func105, Try.ntmps105
  go_wp2_with fail
  go_loopw [8] (fun s8 wr => ∃ k : Nat, k ≤ n ∧ s8 = .int .i64 k ∧ Hid (Below w.heap.size w wr) ∧ Hid (∀ j, j < k → F j ≠ v)) (fun s8 _ => n - (intOf s8).toNat)
  case atStart => exact ⟨0, by omega, rfl, Lib.hid (Below.refl _ _), Lib.hid (fun j h => by omega)⟩
  case round =>
    obtain ⟨k, hk, rfl, HB, HP⟩ := hrel
    by_cases hlt : k < n
    · obtain ⟨b, off, hp, hc⟩ := (H.out.keep (HB.out.mono hB)).mem
      obtain ⟨rfl, hb⟩ := hp (by omega)
      have c0 := hc k hlt
      have hki : (k : Int) < n := by omega
      clear hp hc
      by_cases he : F k = v
      · have he1 : (F k = v) = True := eq_true he
        have he2 : (F k == v) = true := by simpa using he
        have he3 : (v = F k) = True := eq_true he.symm
        have he4 : (v == F k) = true := by simpa using he.symm
        have HE := Lib.hid he
        clear he
        go_wp2_with fail
        go_ret
        exact ⟨_, rfl, .inl ⟨by omega, k, hlt, HE.out⟩, by first | exact HB.out | exact HB.out.drew⟩
      · have he1 : (F k = v) = False := eq_false he
        have he2 : (F k == v) = false := by simpa using he
        have he3 : (v = F k) = False := eq_false (fun h => he h.symm)
        have he4 : (v == F k) = false := by simpa using fun h => he h.symm
        have HP2 : Hid (∀ j, j < k + 1 → F j ≠ v) := Lib.hid (fun j h => by
          rcases Nat.lt_or_ge j k with h1 | h1
          · exact HP.out j h1
          · rw [show j = k by omega]; exact he)
        have HB2 : Hid (Below w.heap.size w wr.drew) := Lib.hid HB.out.drew
        clear he
        go_wp2_with fail
        go_roundw
        case rel => exact ⟨k + 1, by omega, by go_num, by first | exact HB | exact HB2, HP2⟩
        case measure => simp [intOf] <;> omega
    · have : k = n := by omega
      subst this
      clear hlt
      go_wp2_with fail
      go_ret
      exact ⟨_, rfl, .inr ⟨rfl, HP.out⟩, HB.out⟩
def ContP (F : Nat → Int) (n : Nat) (v : Int) (w : World) (e : Ending) (w' : World) : Prop := ∃ t : Bool, e = .returned (.bool t) ∧ (t = true ↔ ∃ i, i < n ∧ F i = v) ∧ Below w.heap.size w w'
set_option maxHeartbeats 2000000 in
theorem cont_any (B : Nat) (a : Option Addr) (n c : Nat) (F : Nat → Int) (v : Int) (w : World) (h : Ids B w a n c F) (hB : B ≤ w.heap.size) (hn : n ≤ 100000) :
    Calls Try.prog 74 #[.slice a n c, .int .i64 v] w (ContP F n v w) := by
  have HI := Lib.hid (ix_any B a n c F v w h hB hn)
  clear h
  go_enter Try.func74, Try.ntmps74
  go_wp2_with fail
  refine HI.out.mono ?_
  rintro e w1 ⟨r, rfl, hr, b1⟩
  have B1 := Lib.hid b1
  clear b1
  rcases hr with ⟨h0, hex⟩ | ⟨rfl, hno⟩
  · have HE := Lib.hid hex
    clear hex
    go_wp2_with fail
    go_ret
    exact ⟨true, rfl, ⟨fun _ => HE.out, fun _ => rfl⟩, B1.out⟩
  · have HE := Lib.hid hno
    clear hno
    go_wp2_with fail
    go_ret
    exact ⟨false, rfl, ⟨fun h => (by cases h), fun ⟨i, hi, h⟩ => absurd h (HE.out i hi)⟩, B1.out⟩
set_option maxHeartbeats 2000000 in
theorem without1_any (B : Nat) (a : Option Addr) (n c q : Nat) (F : Nat → Int) (x : El) (w : World) (h : Ids B w a n c F) (hB : B ≤ w.heap.size) (hn : n ≤ 100000) (hq : w.cell? ⟨q, 0, none⟩ = some (.slice a n c)) :
    Calls Try.prog 73 #[.agg #[.int .i64 x.id, .slice x.a x.n x.c], .pointer (some ⟨q, 0, none⟩)] w (ContP F n x.id w) := by
  have H := Lib.hid h
  have hq2 : (w.alloc (.cells #[.int .i64 x.id, .slice x.a x.n x.c] 35)).cell? ⟨q, 0, none⟩ = some (.slice a n c) := Below.cell' ((Below.refl w.heap.size w).alloc (Nat.le_refl _) _) (World.block_lt_of_cell? _ _ hq) hq
  clear h hq
  go_enter Try.func73, Try.ntmps73
  go_wp2_with fail
  obtain ⟨W, hW⟩ : ∃ W, w.alloc (.cells #[.int .i64 x.id, .slice x.a x.n x.c] 35) = W := ⟨_, rfl⟩
  rw [hW]
  have b1 : Below w.heap.size w W := by rw [← hW]; exact (Below.refl _ _).alloc (Nat.le_refl _) _
  clear hW hq2
  refine (cont_any B a n c F x.id W (H.out.keep (b1.mono hB)) (Nat.le_trans hB b1.size) hn).mono ?_
  rintro e V ⟨t, rfl, ht, b2⟩
  have BV := Lib.hid (b1.trans (b2.mono b1.size))
  have HT := Lib.hid ht
  clear ht b1 b2
  go_wp2_with fail
  go_ret
  exact ⟨t, rfl, HT.out, BV.out⟩
end Go.Proofs.Ytihbceippcgfgaa
