/-
  The walk of RewriteAbove.
-/
import Derived.Test.YtkdjkaimcciemaaRewOrd
import Derived.Deep.QuietTactic
import Derived.BigQuiet
namespace Go.Proofs.Ytkdjkaimcciemaa
open Go.RowKit
set_option linter.unusedVariables false
set_option linter.unusedSimpArgs false

theorem mrow_of {w : World} {v : Value} (h : Reads Try.prog w 6 77 v) : ∃ a len cap b off, ∃ (X Y Z : Nat → Int), v = .slice a len cap ∧ (0 < cap → a = some ⟨b, off, none⟩ ∧ b < w.heap.size) ∧ len ≤ cap ∧ cap ≤ 9223372036854775807 ∧
    (∀ i, i < cap → w.cell? ⟨b, off + i * 3, none⟩ = some (.int .i64 (X i)) ∧ w.cell? ⟨b, off + i * 3 + 1, none⟩ = some (.int .u32 (Y i)) ∧ w.cell? ⟨b, off + i * 3 + 2, none⟩ = some (.int .u16 (Z i))) ∧
    ∀ i, i < cap → (-9223372036854775808 ≤ X i ∧ X i ≤ 9223372036854775807) ∧ (0 ≤ Y i ∧ Y i ≤ 4294967295) ∧ (0 ≤ Z i ∧ Z i ≤ 65535) := by
  obtain ⟨a, len, cap, b, off, V, rfl, row⟩ := reads_slice Try.underlying77 (ts := [2, 23, 66]) (by kernel_rfl) (by kernel_rfl) (by decide) h
  obtain ⟨X, hX⟩ := Deep.choose_lt (n := cap) (p := fun i (x : Int) => V i 0 = .int .i64 x ∧ (Lit.int .i64 x).wf = true) (fun i hi => reads_int Try.underlying2 (row.read i hi 0 _ rfl))
  obtain ⟨Y, hY⟩ := Deep.choose_lt (n := cap) (p := fun i (x : Int) => V i 1 = .int .u32 x ∧ (Lit.int .u32 x).wf = true) (fun i hi => reads_int Try.underlying23 (row.read i hi 1 _ rfl))
  obtain ⟨Z, hZ⟩ := Deep.choose_lt (n := cap) (p := fun i (x : Int) => V i 2 = .int .u16 x ∧ (Lit.int .u16 x).wf = true) (fun i hi => reads_int Try.underlying66 (row.read i hi 2 _ rfl))
  have hm := row.max
  unfold maxLen at hm
  refine ⟨a, len, cap, b, off, X, Y, Z, rfl, row.addr, row.le, by omega, fun i hi => ⟨?_, ?_, ?_⟩, fun i hi => ⟨bounds_i64 (hX i hi).2, bounds_u32 (hY i hi).2, bounds_u16 (hZ i hi).2⟩⟩
  · have := row.cell i hi 0 (by decide); simpa [(hX i hi).1] using this
  · have := row.cell i hi 1 (by decide); simpa [(hY i hi).1, Nat.add_assoc] using this
  · have := row.cell i hi 2 (by decide); simpa [(hZ i hi).1, Nat.add_assoc] using this

/-- what holds of a writer that began with nothing -/
structure AbInv (fo : Bool) (a1 a2 a3 : Int) (o : Bool) (c1 c2 c3 : Int) (k : Nat) : Prop where
  z : k = 0 → fo = false ∧ a1 = 0 ∧ a2 = 0 ∧ a3 = 0 ∧ o = false ∧ c1 = 0 ∧ c2 = 0 ∧ c3 = 0
  p : 0 < k → fo = true
  a : 0 ≤ a1 ∧ a1 ≤ 46116860184273879
  c : 0 ≤ c1 ∧ c1 ≤ 46116860184273879
  d : 0 ≤ c3 ∧ c3 ≤ 65535

theorem ab_map {o : Bool} {a1 a2 a3 c1 c2 c3 x1 x2 x3 : Int} (k : Nat) (ha : 0 ≤ a1 ∧ a1 ≤ 46116860184273879) (hc : 0 ≤ c1 ∧ c1 ≤ 46116860184273879) (hd : 0 ≤ c3 ∧ c3 ≤ 65535) (hx : a1 ≤ x1) (hx2 : x1 ≤ 46116860184273879) :
    AbInv true a1 a2 a3 true (bif mtop c1 o (my1 a1 0 x1) then my1 a1 0 x1 else c1) (bif mtop c1 o (my1 a1 0 x1) then my2 a2 0 x2 else c2) (bif mtop c1 o (my1 a1 0 x1) then my3 a3 0 x3 else c3) (k + 1) := by
  refine ⟨fun h => by omega, fun _ => rfl, ha, ?_, ?_⟩
  · cases mtop c1 o (my1 a1 0 x1)
    · simpa using hc
    · simp [my1]; omega
  · cases mtop c1 o (my1 a1 0 x1)
    · simpa using hd
    · simp [my3]; omega

set_option maxRecDepth 100000 in
set_option maxHeartbeats 4000000 in
theorem RewriteAbove.walk (v0 v1 v2 : Value) (w : World) (r0 : Reads Try.prog w 6 77 v0) (s1 : ArgS Try.prog w 68 v1) (r2 : Reads Try.prog w 6 77 v2) :
    Calls Try.prog 11 #[v0, v1, v2] w fun e w' => e = .returned (.bool true) ∧ Below w.heap.size w w' := by
  obtain ⟨a, len, cap, b, off, X, Y, Z, rfl, ha, hl, hm, hc, hX⟩ := mrow_of r0
  obtain ⟨a', len', cap', b', off', X', Y', Z', rfl, ha', hl', hm', hc', hX'⟩ := mrow_of r2
  obtain ⟨x1, x2, x3, rfl, hx1, hx2, hx3⟩ := mapped_of s1
  clear r0 r2 s1
  have HA := Lib.hid ha
  have HC := Lib.hid hc
  have HX := Lib.hid hX
  have HA' := Lib.hid ha'
  have HC' := Lib.hid hc'
  have HX' := Lib.hid hX'
  clear ha hc hX ha' hc' hX'
  unfold mapped
  go_enter Try.func11, Try.ntmps11
  go_wp2_with fail
  refine (alive22_any _).mono ?_
  rintro e w1 ⟨rfl, hb1⟩
  have p0 : w1.heap[w.heap.size]? = some (.cells #[.int .i64 x1, .int .u32 x2, .int .u16 x3] 68 (0, 0)) := Below.blk hb1 alloc_blk_new (by simp)
  have B1 : Below w.heap.size w w1 := ((Below.refl _ _).alloc (Nat.le_refl _) _).trans (hb1.mono (by simp))
  have sz1 : w.heap.size < w1.heap.size := lt_of_block p0
  clear hb1
  have B2 := B1.alloc B1.size (.cells #[.int .i64 0, .bool false, .int .i64 0, .int .u32 0, .int .u16 0, .int .i64 0, .int .u32 0, .int .u16 0, .bool false, .int .i64 0, .int .u32 0, .int .u16 0] 70)
  have p1 := (alloc_blk_old (o := .cells #[.int .i64 0, .bool false, .int .i64 0, .int .u32 0, .int .u16 0, .int .i64 0, .int .u32 0, .int .u16 0, .bool false, .int .i64 0, .int .u32 0, .int .u16 0] 70) sz1).trans p0
  have g1 := wrt_new w1
  clear B1 p0
  go_wp2_with fail
  obtain ⟨g, hg⟩ : ∃ g, g = w1.heap.size := ⟨_, rfl⟩
  rw [← hg] at g1 sz1
  rw [← hg]
  have q1 : w.heap.size < g := by omega
  clear hg sz1
  go_loopw [8] (fun si wr => ∃ (k : Nat) (fo : Bool) (a1 a2 a3 : Int) (o : Bool) (c1 c2 c3 : Int), k ≤ len ∧ si = .int .i64 k ∧ wrt wr g 0 fo a1 a2 a3 0 0 0 o c1 c2 c3 ∧ Below w.heap.size w wr ∧ wr.heap[w.heap.size]? = some (.cells #[.int .i64 x1, .int .u32 x2, .int .u16 x3] 68 (0, 0)) ∧ Hid (AbInv fo a1 a2 a3 o c1 c2 c3 k)) (fun si _ => len - (intOf si).toNat)
  case atStart => exact ⟨0, false, 0, 0, 0, false, 0, 0, 0, by omega, rfl, g1, B2, p1, Lib.hid ⟨fun _ => by decide, fun h => by omega, by omega, by omega, by omega⟩⟩
  case round =>
    obtain ⟨k, fo, a1, a2, a3, o, c1, c2, c3, hk, rfl, hgr, hbel, hpx, HI⟩ := hrel
    by_cases hlt : k < len ∧ k < 30
    · obtain ⟨hlt1, hlt2⟩ := hlt
      obtain ⟨rfl, hbs⟩ := HA.out (by omega)
      obtain ⟨k0, k1, k2⟩ := HC.out k (by omega)
      obtain ⟨bx, by_, bz⟩ := HX.out k (by omega)
      have l0 := Below.cell' hbel hbs k0
      have l1 := Below.cell' hbel hbs k1
      have l2 := Below.cell' hbel hbs k2
      clear k0 k1 k2
      generalize X k = u1 at *
      generalize Y k = u2 at *
      generalize Z k = u3 at *
      by_cases hn : u1 < 0
      · have e0 : decide (u1 < 0) = true := by simpa using hn
        go_wp2_with fail
        go_ret
        exact ⟨rfl, hbel⟩
      have e0 : decide (u1 < 0) = false := by simpa using hn
      by_cases hf : 46116860184273879 < u1
      · have e1 : decide (46116860184273879 < u1) = true := by simpa using hf
        go_wp2_with fail
        go_ret
        exact ⟨rfl, hbel⟩
      have e1 : decide (46116860184273879 < u1) = false := by simpa using hf
      by_cases hk0 : k = 0
      · subst hk0
        obtain ⟨rfl, rfl, rfl, rfl, rfl, rfl, rfl, rfl⟩ := HI.out.z rfl
        simp only [Nat.zero_mul, Nat.add_zero] at l0 l1 l2
        go_wp2_with fail
        refine (follow_any _ _ _ _ _ _ _ _ _ _ _ _ _ u1 u2 u3 _ hgr (by decide) (by decide) (by omega)).mono ?_
        rintro e w3 ⟨rfl, g3', k3⟩
        have g3 : wrt w3 g 0 true u1 u2 u3 0 0 0 false 0 0 0 := g3'
        have b3 := Below.keeps hbel hbel.size (by omega) k3
        have px3 := k3.blk hpx (by omega)
        have m0 := k3.cell l0 (by omega)
        have m1 := k3.cell l1 (by omega)
        have m2 := k3.cell l2 (by omega)
        clear g3' k3 hgr hbel hpx l0 l1 l2
        go_wp2_with fail
        refine (map_any _ _ _ _ _ _ _ _ _ _ _ _ u1 u2 u3 _ g3 (by omega) (by omega) (by omega)).mono ?_
        rintro e w4 ⟨rfl, g4, k4⟩
        have b4 := Below.keeps b3 b3.size (by omega) k4
        have px4 := k4.blk px3 (by omega)
        clear g3 k4 b3 px3 m0 m1 m2
        go_wp2_with fail
        go_roundw
        case rel => exact ⟨1, _, _, _, _, _, _, _, _, by omega, by go_num, g4, b4, px4, Lib.hid (ab_map 0 (by omega) (by omega) (by omega) (by omega) (by omega))⟩
        case measure => simp [intOf] <;> omega
      · have hkb : ((k : Int) == 0) = false := by simp; omega
        obtain rfl := HI.out.p (by omega)
        have i1 := HI.out.a
        have i2 := HI.out.c
        have i3 := HI.out.d
        by_cases ho : u1 < a1
        · go_wp2_with fail
          refine (map_old _ _ _ _ _ _ _ _ _ _ _ _ u1 u2 u3 _ hgr (by omega) ho).mono ?_
          rintro e w4 ⟨rfl, hb⟩
          have g4 : wrt w4 g 0 true a1 a2 a3 0 0 0 o c1 c2 c3 := Below.blk hb hgr hgr.lt
          have b4 := hbel.trans (hb.mono hbel.size)
          have px4 := Below.blk hb hpx (lt_of_block hpx)
          have hi := HI.out
          clear hb hgr hbel hpx l0 l1 l2
          go_wp2_with fail
          go_roundw
          case rel => exact ⟨k + 1, _, _, _, _, _, _, _, _, by omega, by go_num, g4, b4, px4, Lib.hid ⟨fun h => by omega, fun _ => rfl, i1, i2, i3⟩⟩
          case measure => simp [intOf] <;> omega
        · go_wp2_with fail
          refine (map_any _ _ _ _ _ _ _ _ _ _ _ _ u1 u2 u3 _ hgr (by omega) (by omega) (by omega)).mono ?_
          rintro e w4 ⟨rfl, g4, k4⟩
          have b4 := Below.keeps hbel hbel.size (by omega) k4
          have px4 := k4.blk hpx (by omega)
          clear hgr k4 hbel hpx l0 l1 l2
          go_wp2_with fail
          go_roundw
          case rel => exact ⟨k + 1, _, _, _, _, _, _, _, _, by omega, by go_num, g4, b4, px4, Lib.hid (ab_map k i1 i2 i3 (by omega) (by omega))⟩
          case measure => simp [intOf] <;> omega
    · have i2 := HI.out.c
      have i3 := HI.out.d
      have c0 : wr.cell? ⟨w.heap.size, 0, none⟩ = some (.int .i64 x1) := cell_blk hpx
      have c1' : wr.cell? ⟨w.heap.size, 1, none⟩ = some (.int .u32 x2) := cell_blk hpx
      have c2' : wr.cell? ⟨w.heap.size, 2, none⟩ = some (.int .u16 x3) := cell_blk hpx
      by_cases hn : x1 < 0
      · have e0 : decide (x1 < 0) = true := by simpa using hn
        go_wp2_with (go_at_call 43; refine (rhigh_any _ _ _ _ _ _ _ _ _ _ _ _ _ _ hgr).mono ?_; rintro e w' ⟨rfl, rfl⟩)
        all_goals
          go_ret
          exact ⟨rfl, hbel⟩
      have e0 : decide (x1 < 0) = false := by simpa using hn
      by_cases hf : 46116860184273879 < x1
      · have e1 : decide (46116860184273879 < x1) = true := by simpa using hf
        go_wp2_with (go_at_call 43; refine (rhigh_any _ _ _ _ _ _ _ _ _ _ _ _ _ _ hgr).mono ?_; rintro e w' ⟨rfl, rfl⟩)
        all_goals
          go_ret
          exact ⟨rfl, hbel⟩
      have e1 : decide (46116860184273879 < x1) = false := by simpa using hf
      obtain ⟨hi, HH⟩ : ∃ hi : Int, Hid (hi = bif o then c1 else -1) := ⟨_, rfl⟩
      have hB : hi < nx1 0 o c1 ∧ 0 ≤ nx1 0 o c1 ∧ nx1 0 o c1 ≤ 46116860184273880 := by rw [HH.out]; unfold nx1; cases o <;> simp <;> omega
      have hcall : Calls Try.prog 43 #[.pointer (some ⟨g, 0, none⟩)] wr fun e w' => e = .returned (.int .i64 hi) ∧ wr = w' := by rw [HH.out]; exact rhigh_any _ _ _ _ _ _ _ _ _ _ _ _ _ _ hgr
      have HCALL := Lib.hid hcall
      clear hcall
      have hks : (k < len ∧ ¬ k < 30) ∨ ¬ k < len := by omega
      rcases hks with ⟨hkl, hks⟩ | hks
      all_goals
        go_wp2_with (go_at_call 43; refine (HCALL.out).mono ?_; rintro e w' ⟨rfl, rfl⟩)
        refine (follow_any _ _ _ _ _ _ _ _ _ _ _ _ _ x1 x2 x3 _ hgr (by omega) (by omega) (by omega)).mono ?_
        rintro e w3 ⟨rfl, g3, k3⟩
        have b3 := Below.keeps hbel hbel.size (by omega) k3
        clear k3 hgr hbel hpx c0 c1' c2' HI HCALL HH
        generalize nx1 0 o c1 = y1 at *
        generalize nx2 o c2 = y2 at *
        generalize nx3 o c3 = y3 at *
        go_wp2_with fail
        obtain ⟨wo, hwo⟩ : ∃ wo : World, wo = w3 := ⟨_, rfl⟩
        go_loopw [10] (fun sj wr => ∃ (j : Nat) (o : Bool) (c1 c2 c3 : Int), j ≤ len' ∧ sj = .int .i64 j ∧ wrt wr g 0 true x1 x2 x3 y1 y2 y3 o c1 c2 c3 ∧ Below w.heap.size w wr) (fun sj _ => len' - (intOf sj).toNat)
        case atStart => exact ⟨0, _, _, _, _, by omega, rfl, g3, b3⟩
        case round =>
          obtain ⟨j, o, c1, c2, c3, hj, rfl, hgj, hbj⟩ := hrel
          by_cases hjt : j < len' ∧ j < 30
          · obtain ⟨hjt1, hjt2⟩ := hjt
            obtain ⟨rfl, hbs⟩ := HA'.out (by omega)
            obtain ⟨k0, k1, k2⟩ := HC'.out j (by omega)
            obtain ⟨bx, by_, bz⟩ := HX'.out j (by omega)
            have l0 := Below.cell' hbj hbs k0
            have l1 := Below.cell' hbj hbs k1
            have l2 := Below.cell' hbj hbs k2
            clear k0 k1 k2
            generalize X' j = u1 at *
            generalize Y' j = u2 at *
            generalize Z' j = u3 at *
            by_cases hf : 46116860184273879 < u1
            · have e2 : decide (46116860184273879 < u1) = true := by simpa using hf
              go_wp2_with fail
              go_ret
              exact ⟨rfl, hbj⟩
            have e2 : decide (46116860184273879 < u1) = false := by simpa using hf
            go_wp2_with fail
            by_cases hu : u1 < 0
            · refine (map_state _ _ _ _ _ _ _ _ _ _ _ _ _ u1 u2 u3 _ hgj (.inr hu)).mono ?_
              rintro e w4 ⟨rfl, hb⟩
              have g4 := Below.blk hb hgj hgj.lt
              have b4 := hbj.trans (hb.mono hbj.size)
              clear hb hgj hbj l0 l1 l2
              unfold mapped
              go_wp2_with fail
              go_roundw
              case rel => exact ⟨j + 1, _, _, _, _, by omega, by go_num, wrt_alloc (show wrt w4 _ _ _ _ _ _ _ _ _ _ _ _ _ from g4) _, b4.alloc b4.size _⟩
              case measure => simp [intOf] <;> omega
            · by_cases ho : u1 < x1
              · refine (map_old _ _ _ _ _ _ _ _ _ _ _ _ u1 u2 u3 _ hgj (by omega) ho).mono ?_
                rintro e w4 ⟨rfl, hb⟩
                have g4 := Below.blk hb hgj hgj.lt
                have b4 := hbj.trans (hb.mono hbj.size)
                clear hb hgj hbj l0 l1 l2
                unfold mapped
                go_wp2_with fail
                go_roundw
                case rel => exact ⟨j + 1, _, _, _, _, by omega, by go_num, wrt_alloc (show wrt w4 _ _ _ _ _ _ _ _ _ _ _ _ _ from g4) _, b4.alloc b4.size _⟩
                case measure => simp [intOf] <;> omega
              · refine (map_any _ _ _ _ _ _ _ _ _ _ _ _ u1 u2 u3 _ hgj (by omega) (by omega) (by omega)).mono ?_
                rintro e w4 ⟨rfl, g4, k4⟩
                have b4 := Below.keeps hbj hbj.size (by omega) k4
                have hle : decide (my1 x1 y1 u1 ≤ hi) = false := decide_eq_false (by unfold my1; omega)
                clear k4 hgj hbj l0 l1 l2
                unfold mapped
                go_wp2_with fail
                go_roundw
                case rel => exact ⟨j + 1, _, _, _, _, by omega, by go_num, wrt_alloc g4 _, b4.alloc b4.size _⟩
                case measure => simp [intOf] <;> omega
          · go_wp2_with fail
            all_goals
              go_ret
              exact ⟨rfl, hbj⟩
end Go.Proofs.Ytkdjkaimcciemaa
