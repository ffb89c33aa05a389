/-
  Chapter 37: the example, and the walk of TwccCounts.
-/
import Derived.Test.YtihbceippcgfgaaTwP
import Derived.Test.YtihbceippcgfgaaPut
import Derived.StillTailTactics
import Derived.IntWalk
namespace Go.Proofs.Ytihbceippcgfgaa
open Go.RowKit
set_option linter.unusedVariables false
set_option linter.unusedSimpArgs false
attribute [local irreducible] wpStill wpQuiet

theorem infoI3 : (Try.prog.info? 3).map (fun i => (i.zero, i.size, i.bytes)) = some (some (.int .i64 0), 1, 8) := by kernel_rfl
set_option maxRecDepth 100000 in
set_option maxHeartbeats 1000000 in
theorem steps_one (w : World) (b cap : Nat) (hc : w.cell? ⟨b, 0, none⟩ = some (.int .i64 3)) (hcap : 1 ≤ cap) :
    Calls Try.prog 86 #[.slice (some ⟨b, 0, none⟩) 1 cap] w fun e w' => ∃ v1 v2, e = .returned (.tuple #[v1, v2, .bool true]) ∧ w'.ownsRow w.heap.size 3 1 v1 1 [.int .i64 1] ∧ w'.ownsRow w.heap.size 3 1 v2 1 [.int .i64 3] ∧ Below w.heap.size w w' := by
  obtain ⟨i0, hi, hz0, hz1, hz2⟩ := info_parts infoI3
  have hb : b < w.heap.size := World.block_lt_of_cell? _ _ hc
  go_enter Try.func86, Try.ntmps86
  go_wp2_with fail
  go_loopw [5, 6, 7, 13] (fun s1 s2 sa si wr => Below w.heap.size w wr ∧ ((si = .int .i64 0 ∧ s1 = .slice none 0 0 ∧ s2 = .slice none 0 0 ∧ sa = .int .i64 0) ∨ (si = .int .i64 1 ∧ ∃ v1 v2, s1 = v1 ∧ s2 = v2 ∧ Hid (wr.ownsRow w.heap.size 3 1 v1 1 [.int .i64 1]) ∧ Hid (wr.ownsRow w.heap.size 3 1 v2 1 [.int .i64 3])))) (fun _ _ _ si _ => 1 - (intOf si).toNat)
  case atStart => exact ⟨Below.refl _ _, .inl ⟨rfl, rfl, rfl, rfl⟩⟩
  case round =>
    obtain ⟨hB, ⟨rfl, rfl, rfl, rfl⟩ | ⟨rfl, v1, v2, rfl, rfl, H1, H2⟩⟩ := hrel
    · have hc' := Below.cell' hB hb hc
      have hBs := hB.size
      go_wp2_with
        (at_builtin
         refine wpList_append_own _ rfl (.tmp 50) (.tmp 51) 90 rfl w.heap.size 3 i0 (.int .i64 0) 1 8 Try.underlying90 hi hz0 hz1 hz2 rfl (by decide) (.slice none 0 0) 0 [] rfl ⟨rfl, .inl ⟨rfl, rfl⟩⟩ ⟨wr.heap.size, 0, none⟩ 1 1 [.int .i64 1] rfl rfl ?d1 ?d2 ?d3 ?d4 ?d5 ?_
         case d1 => exact cell_one_at rfl
         case d2 => exact one_cell rfl
         case d3 => unfold maxLen; omega
         case d4 => omega
         case d5 => simp; omega)
      intro v1 w2 own1 grow1 nil1
      have B2 : Below w.heap.size w w2 := (hB.alloc hBs _).grown grow1 (by simp; omega) (fun p hp => by cases hp)
      have O1 := Lib.hid own1
      clear own1 grow1 nil1
      have hBs2 := B2.size
      go_wp2_with
        (at_builtin
         refine wpList_append_own _ rfl (.tmp 53) (.tmp 55) 90 rfl w.heap.size 3 i0 (.int .i64 0) 1 8 Try.underlying90 hi hz0 hz1 hz2 rfl (by decide) (.slice none 0 0) 0 [] rfl ⟨rfl, .inl ⟨rfl, rfl⟩⟩ ⟨w2.heap.size, 0, none⟩ 1 1 [.int .i64 3] rfl rfl ?e1 ?e2 ?e3 ?e4 ?e5 ?_
         case e1 => exact cell_one_at rfl
         case e2 => exact one_cell rfl
         case e3 => unfold maxLen; omega
         case e4 => omega
         case e5 => simp; omega)
      intro v2 w3 own2 grow2 nil2
      have B23 : Below w2.heap.size w2 w3 := ((Below.refl _ w2).alloc (Nat.le_refl _) _).grown grow2 (by simp) (fun p hp => by cases hp)
      have B3 := B2.trans (B23.mono hBs2)
      have O2 := Lib.hid own2
      have O3 := Lib.hid (own_blk O1.out (fun k _ hk => B23.block k hk))
      clear own2 grow2 nil2 B23 O1
      go_wp2_with fail
      go_roundw
      case rel => exact ⟨B3, .inr ⟨rfl, _, _, rfl, rfl, O3, O2⟩⟩
      case measure => simp [intOf]
    · go_wp2_with fail
      go_returns
      exact ⟨_, _, rfl, H1.out, H2.out, hB⟩
/-- of one sign -/
theorem run_one (w : World) (b o cap : Nat) (hcap : 1 ≤ cap) :
    Calls Try.prog 87 #[.slice (some ⟨b, o, none⟩) 1 cap] w fun e w' => e = .returned (.int .i64 1) ∧ w' = w.drew := by
  go_enter Try.func87, Try.ntmps87
  go_wp2_with fail
  go_loopw [3] (fun si wr => si = .int .i64 1 ∧ wr = w) (fun si _ => 0)
  case atStart => exact ⟨rfl, rfl⟩
  case round =>
    obtain ⟨rfl, rfl⟩ := hrel
    go_wp2_with fail
    refine wp_region_still_lit (by kernel_rfl) (by kernel_rfl) ?_
    iterate 18 still_step
    refine wpStill_nil ?_
    change Exit.then _ _ _ _ wr.drew
    go_wp2_with fail
    go_ret
    exact ⟨rfl, rfl⟩
def lenOf : Value → Nat
  | .slice _ n _ => n
  | _ => 0
set_option maxRecDepth 100000 in
set_option maxHeartbeats 2000000 in
theorem pack_one (w : World) (b cap : Nat) (hc : w.cell? ⟨b, 0, none⟩ = some (.int .i64 3)) (hcap : 1 ≤ cap) :
    Calls Try.prog 51 #[.int .u16 5, .slice (some ⟨b, 0, none⟩) 1 cap] w fun e w' => ∃ a c, e = .returned (.tuple #[.slice a 7 c, .int .i64 0]) ∧ BS w'.heap.size w' a 7 c (putZ (putZ (putZ (putZ (fun _ => 0) 0 5 2) 2 1 2) 4 8193 2) 6 3 1) ∧ Below w.heap.size w w' := by
  have HS := Lib.hid (steps_one w b cap hc hcap)
  go_enter Try.func51, Try.ntmps51
  go_wp2_with fail
  go_step3
  go_wp2_with fail
  refine HS.out.mono ?_
  rintro e w1 ⟨v1, v2, rfl, O1, O2, B1⟩
  obtain ⟨s, c1, rfl, g1, g2, k1, l1⟩ := own_some O1
  obtain ⟨p, c2, rfl, g3, g4, k2, l2⟩ := own_some O2
  have s0 := k1 0 _ rfl
  have p0 := k2 0 _ rfl
  have hB1 := B1.size
  clear O1 O2 k1 k2
  go_wp2_with fail
  refine (put_good w.heap.size none 0 0 (fun _ => 0) 2 5 w1 ⟨by omega, by omega, fun i h => by omega, 0, 0, fun h => by omega, fun i h => by omega⟩ hB1 (by omega) (by omega) (by omega) (by omega) (by omega)).mono ?_
  rintro e w2 ⟨v, rfl, O1, B2⟩
  obtain ⟨a1, d1, rfl, S1⟩ := BS.of_owns O1 (fun i hi => putZ_bd (fun _ h => by omega) i hi) (by omega)
  have hB2 := B2.size
  have s1 := Below.cell' B2 g2 s0
  have p1 := Below.cell' B2 g4 p0
  clear O1 s0 p0
  go_wp2_with fail
  refine (put_good w2.heap.size a1 2 d1 _ 2 1 w2 S1 (Nat.le_refl _) (by omega) (by omega) (by omega) (by omega) (by omega)).mono ?_
  rintro e w3 ⟨v, rfl, O1, B3⟩
  obtain ⟨a2, d2, rfl, S2⟩ := BS.of_owns O1 (fun i hi => putZ_bd S1.bd i hi) (by omega)
  have hB3 := B3.size
  have s2 := Below.cell' B3 (by omega) s1
  have p2 := Below.cell' B3 (by omega) p1
  clear O1 s1 p1
  go_wp2_with fail
  go_step3
  go_wp2_with fail
  have e8 : bits BinOp.or IntKind.i64 8192 1 = 8193 := by decide +kernel
  have S2' := Lib.hid S2
  go_loopw [9, 10] (fun so sl wr => (sl = .slice (some ⟨s, 0, none⟩) 1 c1 ∧ so = .slice a2 4 d2 ∧ wr = w3) ∨ (∃ a3 d3 la lc, sl = .slice la 0 lc ∧ so = .slice a3 6 d3 ∧ Hid (BS wr.heap.size wr a3 6 d3 (putZ (putZ (putZ (fun _ => 0) 0 5 2) 2 1 2) 4 8193 2)) ∧ Hid (Below w3.heap.size w3 wr))) (fun _ sl _ => lenOf sl)
  case atStart => exact .inl ⟨rfl, rfl, rfl⟩
  case round =>
    rcases hrel with ⟨rfl, rfl, rfl⟩ | ⟨a3, d3, la, lc, rfl, rfl, S3, B4⟩
    · go_wp2_with fail
      refine (run_one wr s 0 c1 l1).mono ?_
      rintro e w4 ⟨rfl, rfl⟩
      have s3 : wr.drew.cell? ⟨s, 0, none⟩ = some (.int .i64 1) := s2
      go_wp2_with fail
      refine (put_good wr.heap.size a2 4 d2 _ 2 8193 wr.drew (show BS _ wr.drew _ _ _ _ from ⟨S2'.out.le, S2'.out.max, S2'.out.bd, S2'.out.mem⟩) (Nat.le_refl _) (by omega) (by omega) (by omega) (by omega) (by omega)).mono ?_
      rintro e w4 ⟨v, rfl, O4, B4⟩
      obtain ⟨a3, d3, rfl, S3⟩ := BS.of_owns O4 (fun i hi => putZ_bd S2'.out.bd i hi) (by omega)
      have R3 := Lib.hid S3
      have R4 : Hid (Below wr.heap.size wr w4) := Lib.hid ((Below.refl _ wr).drew.trans B4)
      clear O4 S3 B4
      go_wp2_with fail
      exact ⟨.inr ⟨a3, d3, _, _, rfl, rfl, R3, R4⟩, by simp [lenOf]⟩
    · have B5 : Below w.heap.size w wr := (B1.trans (B2.mono hB1)).trans ((B3.mono (by omega)).trans (B4.out.mono (by omega)))
      have s5 := Below.cell' B4.out (by omega) s2
      have p5 := Below.cell' B4.out (by omega) p2
      go_wp2_with fail
      generalize hwW : wr = W5 at *
      clear hwW
      go_loopw [9, 12, 78] (fun so sc si wr => (si = .int .i64 0 ∧ sc = .int .i64 0 ∧ so = .slice a3 6 d3 ∧ wr = W5) ∨ (si = .int .i64 1 ∧ ∃ a4 d4, so = .slice a4 7 d4 ∧ Hid (BS wr.heap.size wr a4 7 d4 (putZ (putZ (putZ (putZ (fun _ => 0) 0 5 2) 2 1 2) 4 8193 2) 6 3 1)) ∧ Hid (Below W5.heap.size W5 wr))) (fun _ _ si _ => 1 - (intOf si).toNat)
      case atStart => exact .inl ⟨rfl, rfl, rfl, rfl⟩
      case round =>
        rcases hrel with ⟨rfl, rfl, rfl, rfl⟩ | ⟨rfl, a4, d4, rfl, S4, B6⟩
        · go_wp2_with fail
          refine (put_good wr.heap.size a3 6 d3 _ 1 3 wr S3.out (Nat.le_refl _) (by omega) (by omega) (by omega) (by omega) (by omega)).mono ?_
          rintro e w4 ⟨v, rfl, O4, B4⟩
          obtain ⟨a4, d4, rfl, S5⟩ := BS.of_owns O4 (fun i hi => putZ_bd S3.out.bd i hi) (by omega)
          have R3 := Lib.hid S5
          have R4 := Lib.hid B4
          clear O4 S5 B4
          go_wp2_with fail
          go_roundw
          case rel => exact .inr ⟨rfl, a4, d4, rfl, R3, R4⟩
          case measure => simp [intOf]
        · go_wp2_with fail
          simp only [Exit.inBlock, Exit.then, Exit.noGoto_normal, Exit.noGoto_ret, Exit.noGoto_exit]
          go_returns
          exact ⟨a4, d4, rfl, S4.out, B5.trans (B6.out.mono B5.size)⟩
end Go.Proofs.Ytihbceippcgfgaa
