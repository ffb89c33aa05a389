/-
  Chapter 44: Conflicts where nothing is old.
-/
import Derived.Test.YtkoplofcjbeicaaCoN
namespace Go.Proofs.Ytkoplofcjbeicaa
open Go.RowKit
set_option linter.unusedVariables false
set_option linter.unusedSimpArgs false
attribute [local irreducible] wpStill wpQuiet MixC.wpMix

theorem Sorted.get {C : Plc → Option Value} {M : List Plc} (h : Sorted C M) {i : Nat} (hi : i < M.length) : plok (M[i]!) ∧ (C (M[i]!)).isSome = true := by
  have e : M[i]! = M[i] := by simp [hi]
  rw [e]
  have hm : M[i] ∈ M := List.getElem_mem hi
  exact ⟨h.is _ hm, (h.iff _ (h.is _ hm)).1 hm⟩
set_option maxRecDepth 100000 in
set_option maxHeartbeats 4000000 in
theorem conflicts_any (B g ms mc N : Nat) (own kp : Int) (S : Int → Option Value) (ns : Nat) (C : Plc → Option Value) (nc : Nat) (w : World) (h : BK B g ms mc N own kp S ns C nc w) (tick : Int) (hk : -1000 ≤ tick ∧ tick ≤ 1000) (hf : Fresh kp tick C) (hv : ∀ x v, C x = some v → ∃ t : Int, v = .int .i64 t) (hnc : nc ≤ 1000) :
    Calls Try.prog 37 #[.pointer (some ⟨g, 0, none⟩), .int .i64 tick] w (PlcP C w) := by
  obtain ⟨V, hV⟩ : ∃ V, (w.alloc (.cells #[.pointer (some ⟨g, 0, none⟩)] 65)).alloc (.cells #[.int .i64 tick] 2) = V := ⟨_, rfl⟩
  have bV : Below w.heap.size w V := by rw [← hV]; exact ((Below.refl _ _).alloc (Nat.le_refl _) _).alloc (by simp) _
  have g1 : V.heap[w.heap.size]? = some (.cells #[.pointer (some ⟨g, 0, none⟩)] 65 (0, 0)) := by rw [← hV, alloc_blk_old (by simp)]; exact alloc_blk_new
  have g2 : V.heap[w.heap.size + 1]? = some (.cells #[.int .i64 tick] 2 (0, 0)) := by
    rw [← hV]
    have h := alloc_blk_new (w := w.alloc (.cells #[.pointer (some ⟨g, 0, none⟩)] 65)) (o := .cells #[.int .i64 tick] 2)
    rw [show (w.alloc (.cells #[.pointer (some ⟨g, 0, none⟩)] 65)).heap.size = w.heap.size + 1 by simp] at h
    exact h
  have HK := Lib.hid (h.keep bV)
  have HP := Lib.hid (places_any B g ms mc N own kp S ns C nc V HK.out hv hnc)
  have HF := Lib.hid hf
  have G1 := Lib.hid g1
  have G2 := Lib.hid g2
  have BV := Lib.hid bV
  have e0 : V.cell? ⟨w.heap.size, 0, none⟩ = some (.pointer (some ⟨g, 0, none⟩)) := cell_blk g1
  clear h hf hv bV g1 g2
  have hmf : ∀ (fn : Fn) (first cap : Array Value) (w : World), (Instr.makeFunc fn first cap).run Try.prog w = .ok (.func fn first cap) w := fun _ _ _ _ => rfl
  go_enter Try.func37, Try.ntmps37
  go_wp2_with fail
  clear hV
  refine HP.out.mono ?_
  rintro e w2 ⟨b2, M, hM, hml, ⟨rfl, rfl⟩ | ⟨b, c, hb, hne, rfl, hrow⟩⟩
  · have HM := Lib.hid hM
    have B2 := Lib.hid (BV.out.trans (b2.mono BV.out.size))
    clear hM b2 hml
    go_wp2_with fail
    refine (del44_nil _ w2).mono ?_
    rintro e w3 ⟨b3, rfl⟩
    have B3 := Lib.hid (B2.out.trans (b3.mono B2.out.size))
    clear b3
    go_wp2_with fail
    go_ret
    exact ⟨B3.out, [], HM.out, Nat.zero_le _, .inl ⟨rfl, rfl⟩⟩
  · have HM := Lib.hid hM
    have B2 := Lib.hid (BV.out.trans (b2.mono BV.out.size))
    have K2 := HK.out.keep b2
    have q1 := Below.blk b2 G1.out (lt_of_block G1.out)
    have q2 := Below.blk b2 G2.out (lt_of_block G2.out)
    have HML := Lib.hid hml
    have HD := Lib.hid (del44_none 69 #[.pointer (some ⟨w.heap.size, 0, none⟩), .pointer (some ⟨w.heap.size + 1, 0, none⟩)] b M.length c (fun i => M[i]!) w2 hrow hml (fun v W => by kernel_rfl) (fun i hi W hb => by
      obtain ⟨hp, hs⟩ := hM.get hi
      obtain ⟨v, hv⟩ := Option.isSome_iff_exists.1 hs
      obtain ⟨t, rfl, ht1, ht2, ht3⟩ := HF.out _ _ hp hv
      have := conf1 B g ms mc N own kp S ns C nc W (K2.keep hb) w.heap.size (w.heap.size + 1) tick t _ hp hv ⟨ht1, ht2⟩ hk (Below.blk hb q1 (lt_of_block q1)) (Below.blk hb q2 (lt_of_block q2))
      rw [show decide (kp < tick - t) = false by simp; omega] at this
      exact this))
    have HR := Lib.hid hrow
    have HN := Lib.hid hne
    have HB := Lib.hid hb
    obtain ⟨m, hm⟩ : ∃ m, M.length = m := ⟨_, rfl⟩
    rw [hm] at HD HR ⊢
    have HMM := Lib.hid hm
    clear hM b2 hrow hne hb q1 q2 K2 hm hml
    go_wp2_with fail
    refine HD.out.mono ?_
    rintro e w3 ⟨b3, rfl⟩
    have B3 := Lib.hid (B2.out.trans (b3.mono B2.out.size))
    have HR3 := Lib.hid (HR.out.keep b3)
    clear b3
    go_wp2_with fail
    go_ret
    exact ⟨B3.out, M, HM.out, HML.out, .inr ⟨b, c, by have := HB.out; have := BV.out.size; omega, HN.out, by rw [HMM.out]; rfl, by rw [HMM.out]; exact HR3.out⟩⟩
end Go.Proofs.Ytkoplofcjbeicaa
