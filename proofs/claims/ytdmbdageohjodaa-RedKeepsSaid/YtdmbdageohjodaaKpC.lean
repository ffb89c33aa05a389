/-
  Chapter 36: slices.Clone of kept payloads.
-/
import Derived.Test.YtdmbdageohjodaaKpL
namespace Go.Proofs.Ytdmbdageohjodaa
open Go.RowKit
set_option linter.unusedVariables false
set_option linter.unusedSimpArgs false
attribute [local irreducible] wpStill wpQuiet

theorem infoKept : (Try.prog.info? 156).map (fun i => (i.zero, i.size, i.bytes)) = some (some (.agg #[.int .u32 0, .int .u8 0, .slice none 0 0]), 3, 32) := by kernel_rfl
theorem eql_nilK (ad : Addr) (n c : Nat) (W : World) : (binOp BinOp.eql 152 (.slice (some ad) n c) (.slice none 0 0)).run Try.prog W = .ok (.bool false) W := by kernel_rfl
set_option maxRecDepth 100000 in
set_option maxHeartbeats 4000000 in
theorem cloneK_some (ad : Addr) (n c : Nat) (news : List Value) (w : World) (hl : news.length = n * 3) (hc : ∀ (j : Nat) u, news[j]? = some u → w.cell? (ad.add j) = some u) (h1 : ∀ u ∈ news, u.oneCell' = true) (hn : n ≤ 10000) :
    Calls Try.prog 91 #[.slice (some ad) n c] w fun e w' => ∃ a' c', e = .returned (.slice a' n c') ∧ w'.ownsRow w.heap.size 156 3 (.slice a' n c') n news ∧ Below w.heap.size w w' := by
  obtain ⟨i0, hi, hz0, hz1, hz2⟩ := info_parts infoKept
  obtain ⟨WA, hWA⟩ : ∃ WA, w.alloc (.cells #[] 156) = WA := ⟨_, rfl⟩
  have hrow : WA.ownsRow w.heap.size 156 3 (.slice (some ⟨w.heap.size, 0, none⟩) 0 0) 0 [] := by
    rw [← hWA]
    exact ⟨rfl, .inr ⟨w.heap.size, 0, #[], rfl, Nat.le_refl _, alloc_blk_new, Nat.le_refl _, by unfold maxLen; omega, rfl, rfl⟩⟩
  have BWA : Below w.heap.size w WA := by rw [← hWA]; exact (Below.refl _ _).alloc (Nat.le_refl _) _
  obtain ⟨x, y, W1, r, own, but, nb⟩ := run_app (P := Try.prog) (w := WA) (t := 152) Try.underlying152 hi hz0 hz1 hz2 rfl (by decide) hrow (some ad) n c news (fun e => by cases e) hl (fun a' e j u hj => by
    cases e
    rw [BWA.cell (World.block_lt_of_cell? _ _ (hc j u hj))]
    exact hc j u hj) h1 (by unfold maxLen; omega) (by omega) BWA.size
  have R := Lib.hid r
  have O := Lib.hid own
  have B1 := Lib.hid (BWA.trans (but.below BWA.size (fun k hk => by cases hk; exact Nat.le_refl _)))
  have hE := eql_nilK
  clear r own but nb hrow BWA hl hc h1
  go_enter Try.func91, Try.ntmps91
  go_wp2_with (at_builtin; refine wpList_of_append rfl (.tmp 5) (.tmp 6) 152 rfl _ _ _ rfl rfl R.out ?_)
  go_ret
  exact ⟨x, y, rfl, by have := O.out; rw [Nat.zero_add, List.nil_append] at this; exact this, B1.out⟩
end Go.Proofs.Ytdmbdageohjodaa
