/-
  Chapter 47: the law RosterSame.
-/
import Derived.Test.YtihbceippcgfgaaRoF
namespace Go.Proofs.Ytihbceippcgfgaa
open Go.RowKit
set_option linter.unusedVariables false
set_option linter.unusedSimpArgs false
attribute [local irreducible] wpStill wpQuiet MixC.wpMix
attribute [local go_sem] MixC.rdOp MixC.rd MixC.rdUpon MixC.mvUpon

theorem setF_again (s : RoS) (x : Nat) (t : ByteArray) : setF (setF s x t) x t = setF s x t := by
  have h : (setF s x t).tx x = t := by
    unfold setF
    split
    · assumption
    · show (if x = x then t else _) = t; rw [if_pos rfl]
  unfold setF at h ⊢
  split
  · rename_i h1; simp [h1]
  · rename_i h1
    simp only [h1, if_false] at h
    rw [if_pos h]
theorem othL_one (s : RoS) (h : s.n = 1) : othL s 0 = [] := by
  unfold othL
  rw [h]
  rfl
set_option maxRecDepth 100000 in
set_option maxHeartbeats 4000000 in
theorem RosterSame.walk (t : ByteArray) (n : Int) (w : World) (ht : t.size ≤ maxLen) (hn : (Lit.int .u8 n).wf = true) : Calls Try.prog 9 #[.string t, .int .u8 n] w fun e w' => e = .returned (.bool true) ∧ Below w.heap.size w w' := by
  obtain ⟨n0, n1⟩ := bounds_u8 hn
  clear hn
  unfold maxLen at ht
  go_enter Try.func9, Try.ntmps9
  go_wp2_with fail
  refine (alive47_any w).mono ?_
  rintro e w1 ⟨rfl, b1⟩
  have B1 := Lib.hid b1
  clear b1
  by_cases h64 : 64 < t.size
  · go_wp2_with fail
    go_ret
    exact ⟨rfl, B1.out⟩
  · by_cases he : t = ⟨#[]⟩
    · subst he
      go_wp2_with fail
      go_ret
      exact ⟨rfl, B1.out⟩
    · have hb : t.toList.isEmpty = false := by
        rw [ByteArray.toList_eq]
        cases h : t.data.toList with
        | nil => exact absurd (WideShapes.bytes_inj (b := ⟨#[]⟩) h) he
        | cons x l => rfl
      have HE := Lib.hid he
      have HN := Lib.hid (new47_any 1 1 w1 (by omega) (by omega) (by omega) w.heap.size B1.out.size)
      clear he
      go_wp2_with fail
      refine HN.out.mono ?_
      rintro e w2 ⟨g, rfl, m2, b2⟩
      have M2 : Hid (RoM w.heap.size g (roS0 1 1) w2 ∧ Below w.heap.size w w2) := Lib.hid ⟨m2, B1.out.trans (b2.mono B1.out.size)⟩
      obtain ⟨s1, hs1⟩ : ∃ s1, setF (roS0 1 1) 0 t = s1 := ⟨_, rfl⟩
      have S1 : Hid (setF (roS0 1 1) 0 t = s1 ∧ setF s1 0 t = s1 ∧ s1.ve 0 = 1 ∧ s1.tx 0 = t ∧ s1.n = 1) := Lib.hid (by
        have e1 : s1.ve 0 = 1 ∧ s1.tx 0 = t := by
          rw [← hs1]
          unfold setF
          rw [if_neg (fun h => HE.out (by rw [← h]; rfl))]
          exact ⟨rfl, rfl⟩
        refine ⟨hs1, by rw [← hs1]; exact setF_again _ _ _, e1.1, e1.2, by rw [← hs1]; exact ((RoI.start 1 1).set 0 t).n⟩)
      have I1 : Hid (RoI s1 1 1 1 0) := Lib.hid (by rw [← hs1]; exact (RoI.start 1 1).set 0 t)
      clear m2 b2 hs1 HN
      obtain ⟨N, hN⟩ := Int.eq_ofNat_of_zero_le (show 0 ≤ n % 20 by omega)
      have hN20 : N < 20 := by omega
      have tm : n.tmod 20 = N := by rw [Int.tmod_eq_emod_of_nonneg n0]; exact hN
      clear hN
      go_wp2_with fail
      go_loopw [6] (fun s6 wr => ∃ (i : Nat), i ≤ N + 1 ∧ s6 = .int .i64 i ∧ Hid (Below w.heap.size w wr ∧ RoM w.heap.size g (if i = 0 then roS0 1 1 else s1) wr)) (fun s6 _ => N + 1 - (intOf s6).toNat)
      case atStart => exact ⟨0, by omega, rfl, Lib.hid ⟨M2.out.2, M2.out.1⟩⟩
      case round =>
        clear M2
        obtain ⟨i, hi, rfl, HS⟩ := hrel
        by_cases hlt : i ≤ N
        · have hli : (i : Int) ≤ N := by omega
          have HST : Hid (Calls Try.prog 42 #[.pointer (some ⟨g, 0, none⟩), .int .i64 0, .string t] wr fun e w' => e = .returned (.tuple #[.int .i64 1, .int .i64 0]) ∧ RoM w.heap.size g s1 w' ∧ Below w.heap.size wr w') := Lib.hid (by
            by_cases h0 : i = 0
            · have hm := HS.out.2
              rw [if_pos h0] at hm
              have := set_any hm 0 t (by show 0 < 1; omega) (by omega) (by show (0 : Int) ≤ 0 ∧ (0 : Int) ≤ 1000000; omega)
              rw [S1.out.1, S1.out.2.2.1] at this
              exact this
            · have hm := HS.out.2
              rw [if_neg h0] at hm
              have := set_any hm 0 t (by rw [S1.out.2.2.2.2]; omega) (by omega) (by rw [S1.out.2.2.1]; omega)
              rw [S1.out.2.1, S1.out.2.2.1] at this
              exact this)
          go_wp2_with fail
          refine HST.out.mono ?_
          rintro e V ⟨rfl, m3, b3⟩
          have S3 : Hid (Below w.heap.size w V ∧ RoM w.heap.size g (if i + 1 = 0 then roS0 1 1 else s1) V) := Lib.hid ⟨HS.out.1.trans b3, by rw [if_neg (by omega)]; exact m3⟩
          clear m3 b3 HST
          go_wp2_with fail
          go_roundw
          case rel => exact ⟨i + 1, by omega, by go_num, S3⟩
          case measure => simp [intOf] <;> omega
        · obtain rfl : i = N + 1 := by omega
          have hli : ¬ ((N + 1 : Nat) : Int) ≤ N := by omega
          have hm := HS.out.2
          rw [if_neg (by omega)] at hm
          have hset := set_any hm 0 ⟨#[]⟩ (by rw [S1.out.2.2.2.2]; omega) (by decide) (by rw [S1.out.2.2.1]; omega)
          have e2 : (setF s1 0 ⟨#[]⟩).ve 0 = 2 := by
            unfold setF
            rw [S1.out.2.2.2.1, if_neg HE.out]
            show (if 0 = 0 then s1.ve 0 + 1 else s1.ve 0) = 2
            rw [if_pos rfl, S1.out.2.2.1]; rfl
          rw [e2] at hset
          have HST := Lib.hid hset
          have HB := Lib.hid HS.out.1
          clear hm hset e2 hlt HS
          go_wp2_with fail
          refine HST.out.mono ?_
          rintro e V ⟨rfl, m3, b3⟩
          have hn1 := (I1.out.set 0 ⟨#[]⟩).n
          have HBH := Lib.hid (behind_any w.heap.size g _ V m3 0 (by rw [hn1]; omega))
          rw [othL_one _ hn1] at HBH
          have B3 := Lib.hid (HB.out.trans b3)
          clear m3 b3 hn1 HST
          go_wp2_with fail
          refine HBH.out.mono ?_
          rintro e V2 ⟨rfl, b4⟩
          have B4 := Lib.hid (B3.out.trans (b4.mono B3.out.size))
          clear b4
          go_wp2_with fail
          go_ret
          exact ⟨rfl, B4.out⟩
end Go.Proofs.Ytihbceippcgfgaa
