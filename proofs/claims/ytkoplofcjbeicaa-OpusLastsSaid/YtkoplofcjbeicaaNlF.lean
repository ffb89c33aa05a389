/-
  Chapter 41: the law's same; the example.
-/
import Derived.Test.YtkoplofcjbeicaaNlD
namespace Go.Proofs.Ytkoplofcjbeicaa
open Go.RowKit
set_option linter.unusedVariables false
set_option linter.unusedSimpArgs false
attribute [local irreducible] wpStill wpQuiet MixC.wpMix
attribute [local go_sem] MixC.rdOp MixC.rd MixC.rdUpon MixC.mvUpon

theorem own_pos {w : World} {base : Nat} {e : TypeId} {size : Nat} {v : Value} {n : Nat} {xs : List Value} (h : w.ownsRow base e size v n xs) (hn : 0 < n) :
    ∃ g cap, v = .slice (some ⟨g, 0, none⟩) n cap ∧ base ≤ g ∧ g < w.heap.size ∧ n ≤ cap ∧ cap ≤ 9223372036854775807 := by
  have hlt := h.lt
  obtain ⟨h1, h2⟩ := h
  rcases h2 with ⟨_, h0⟩ | ⟨g, cap, cur, hv, hg, hh, hn2, hcap, hsz, _⟩
  · omega
  · exact ⟨g, cap, hv, hg, lt_of_block hh, hn2, by unfold maxLen at hcap; omega⟩
theorem own_cap {w : World} {base : Nat} {e : TypeId} {size : Nat} {a : Option Addr} {c : Nat} {n : Nat} {xs : List Value} (h : w.ownsRow base e size (.slice a n c) n xs) : n ≤ c ∧ c ≤ 9223372036854775807 := by
  rcases Nat.eq_zero_or_pos n with h0 | h0
  · obtain ⟨h1, h2⟩ := h
    rcases h2 with ⟨hv, _⟩ | ⟨g, cap, cur, hv, hg, hh, hn2, hcap, hsz, _⟩
    · cases hv; omega
    · cases hv; exact ⟨hn2, by unfold maxLen at hcap; omega⟩
  · obtain ⟨g, cap, hv, _, _, h3, h4⟩ := own_pos h h0
    cases hv; exact ⟨h3, h4⟩
theorem strL_gz (L : List Int) : strOf (gz L) L.length = strL L := by
  show strOfNums (zs (gz L) L.length) = _
  rw [zs_gz]; rfl
/-- an element of a row, as it lies and as a string -/
theorem Own1.str {w w' : World} {G : Nat} {v : Value} {L : List Int} (h : Own1 w G v L) (hL : L.length ≤ 1000000) (b : Below w.heap.size w w') : ∃ a c, v = .slice a L.length c ∧ (convert 22 9 (.slice a L.length c)).run Try.prog w' = .ok (.string (strL L)) w' := by
  obtain ⟨_, a, c, hv, hb⟩ := BS.own h.own h.oct hL
  refine ⟨a, c, hv, ?_⟩
  rw [run_conv_BS (hb.keep b) Try.underlying22 Try.underlying5 Try.underlying9, strL_gz]
set_option maxRecDepth 100000 in
set_option maxHeartbeats 4000000 in
theorem same_yes (G G' : Nat) (a b : Option Addr) (k c d : Nat) (P : Nat → List Int) (vs : Nat → Value) (w : World) (h : Rows w G a k c P vs) (h2 : w.ownsRow G' 9 1 (.slice b k d) k (strs P k)) (hP : ∀ i, i < k → (P i).length ≤ 1000000) :
    Calls Try.prog 27 #[.slice a k c, .slice b k d] w fun e w' => e = .returned (.bool true) ∧ Below w.heap.size w w' := by
  have H := Lib.hid h
  have H2 := Lib.hid h2
  have HP := Lib.hid hP
  have l1 := own_cap h.own
  have l2 := own_cap h2
  clear h h2 hP
  go_enter Try.func27, Try.ntmps27
  go_wp2_with fail
  go_loopw [5] (fun si wx => ∃ i : Nat, i ≤ k ∧ si = .int .i64 i ∧ Hid (Below w.heap.size w wx)) (fun si _ => k - (intOf si).toNat)
  case atStart => exact ⟨0, by omega, rfl, Lib.hid (Below.refl _ _)⟩
  case round =>
    obtain ⟨i, hi, rfl, HB⟩ := hrel
    by_cases hlt : i < k
    · obtain ⟨g1, d1, he, -, g1l, -, -⟩ := own_pos H.out.own (by omega)
      cases he
      obtain ⟨g2, d2, he, -, g2l, -, -⟩ := own_pos H2.out (by omega)
      cases he
      have q1 := own_cell H.out.own (show ((List.range k).map vs)[i]? = some (vs i) by simp [hlt])
      have q2 := own_cell H2.out (show (strs P k)[i]? = some (.string (strL (P i))) by simp [strs, hlt])
      have HS := Lib.hid (fun (y : { w' : World // Below w.heap.size w w' }) => (H.out.each i hlt).str (HP.out i hlt) y.2)
      obtain ⟨ai, ci, hvi, -⟩ := HS.out ⟨w, Below.refl _ _⟩
      obtain ⟨m, hm⟩ : ∃ m, m = (P i).length := ⟨_, rfl⟩
      obtain ⟨S, hS⟩ : ∃ S, S = strL (P i) := ⟨_, rfl⟩
      rw [← hS] at q2
      rw [hvi, ← hm] at q1
      have HCV : Hid (∀ y : { w' : World // Below w.heap.size w w' }, (convert 22 9 (.slice ai m ci)).run Try.prog y.1 = .ok (.string S) y.1) := Lib.hid (fun y => by
        obtain ⟨a', c', h1, h2⟩ := HS.out y
        rw [hvi] at h1
        cases h1
        rw [hm, hS]; exact h2)
      have HQ1 : Hid (∀ y : { w' : World // Below w.heap.size w w' }, y.1.cell? ⟨g1, i, none⟩ = some (.slice ai m ci)) := Lib.hid (fun y => Below.cell' y.2 g1l q1)
      have HQ2 : Hid (∀ y : { w' : World // Below w.heap.size w w' }, y.1.cell? ⟨g2, i, none⟩ = some (.string S)) := Lib.hid (fun y => Below.cell' y.2 g2l q2)
      have D0 : Hid (Below w.heap.size w wr.drew) := Lib.hid HB.out.drew
      have t1 : (S.toList == S.toList) = true := beq_self_eq_true _
      have t2 : (S.toList != S.toList) = false := by simp
      clear hvi hm hS q1 q2 HS
      go_upto_region 6 with (fail)
      have hne : Nonempty { w' : World // Below w.heap.size w w' } := ⟨⟨w, Below.refl _ _⟩⟩
      have c1 := HQ1.out
      have c2 := HQ2.out
      have c3 := HCV.out
      refine MixC.wp_region_mix [] (Below w.heap.size w) D0.out (by kernel_rfl) (by kernel_rfl) (by kernel_rfl) ?_
      (iterate 10 (refine MixC.mix_read rfl (fun K hK => ?_); go_simp; refine hK _ ?_; clear hK K))
      refine MixC.mix_nil ?_
      change Exit.then _ _ _ _ wr.drew
      clear c1 c2 c3 hne
      go_wp2_with fail
      go_roundw
      case rel => exact ⟨i + 1, by omega, by go_num, D0⟩
      case measure => simp [intOf] <;> omega
    · obtain rfl : k = i := by omega
      go_wp2_with fail
      go_ret
      exact ⟨rfl, HB.out⟩
set_option maxRecDepth 100000 in
set_option maxHeartbeats 4000000 in
theorem alive41 (w : World) : Calls Try.prog 24 #[] w fun e w' => e = .returned (.bool true) ∧ Below w.heap.size w w' := by
  obtain ⟨W1, hW1⟩ : ∃ W1, w.alloc (.cells #[.int .u8 101, .int .u8 1, .int .u8 2, .int .u8 3, .int .u8 4] 5) = W1 := ⟨_, rfl⟩
  have b1 : Below w.heap.size w W1 := by rw [← hW1]; exact (Below.refl _ _).alloc (Nat.le_refl _) _
  have g1 : W1.heap[w.heap.size]? = some (.cells #[.int .u8 101, .int .u8 1, .int .u8 2, .int .u8 3, .int .u8 4] 5 (0, 0)) := by rw [← hW1]; exact alloc_blk_new
  have l1 := lt_of_block g1
  have five : ∀ i, i < 5 → i = 0 ∨ i = 1 ∨ i = 2 ∨ i = 3 ∨ i = 4 := by omega
  have hs : BS W1.heap.size W1 (some ⟨w.heap.size, 0, none⟩) 5 5 (gz [101, 1, 2, 3, 4]) := ⟨by omega, by omega, fun i hi => by
    rcases five i hi with rfl | rfl | rfl | rfl | rfl <;> decide, w.heap.size, 0, fun _ => ⟨rfl, l1⟩, fun i hi => by
    rw [Nat.zero_add, cell_blk g1]
    rcases five i hi with rfl | rfl | rfl | rfl | rfl <;> rfl⟩
  have hc := cut_long W1.heap.size 4 2 5 5 w.heap.size 0 (gz [101, 1, 2, 3, 4]) W1 hs (Nat.le_refl _) ⟨by omega, by decide, by decide⟩ (by omega) rfl (by omega) (by omega)
  have HC := Lib.hid hc
  have HB1 := Lib.hid b1
  clear hc hs b1 g1 l1 five
  go_enter Try.func24, Try.ntmps24
  go_wp2_with fail
  refine HC.out.mono ?_
  rintro e w2 ⟨K, hM, a, c, vs, rfl, hR, hB⟩
  obtain rfl : K = 2 := hM.uniq ⟨by decide, fun j hj => by
    have : j = 0 ∨ j = 1 := by omega
    rcases this with rfl | rfl <;> decide⟩
  obtain ⟨g, cc, he, -, gl, -, -⟩ := own_pos hR.own (by omega)
  cases he
  have q0 := own_cell hR.own (show ((List.range 2).map vs)[0]? = some (vs 0) by simp)
  have q1 := own_cell hR.own (show ((List.range 2).map vs)[1]? = some (vs 1) by simp)
  have hp0 : pcL (gz [101, 1, 2, 3, 4]) 5 2 (qk 2 0) = [124, 133, 1, 2] := by decide
  have hp1 : pcL (gz [101, 1, 2, 3, 4]) 5 2 (qk 2 1) = [124, 69, 3, 4] := by decide
  have E0 := hR.each 0 (by omega)
  have E1 := hR.each 1 (by omega)
  simp only [hp0] at E0
  simp only [hp1] at E1
  obtain ⟨a0, c0, hv0, cv0⟩ := E0.str (by decide) (Below.refl _ _)
  obtain ⟨a1, c1, hv1, cv1⟩ := E1.str (by decide) (Below.refl _ _)
  have s0 : strL [124, 133, 1, 2] = ⟨#[124, 133, 1, 2]⟩ := by decide +kernel
  have s1 : strL [124, 69, 3, 4] = ⟨#[124, 69, 3, 4]⟩ := by decide +kernel
  rw [s0] at cv0
  rw [s1] at cv1
  rw [hv0] at q0
  rw [hv1] at q1
  simp only [List.length_cons, List.length_nil, Nat.zero_add, Nat.reduceAdd] at cv0 cv1 q0 q1
  have HB2 := Lib.hid (HB1.out.trans (hB.mono HB1.out.size))
  clear hR hB E0 E1 hv0 hv1 hp0 hp1 s0 s1 hM HC
  go_wp2_with fail
  go_ret
  exact ⟨rfl, HB2.out⟩
end Go.Proofs.Ytkoplofcjbeicaa
