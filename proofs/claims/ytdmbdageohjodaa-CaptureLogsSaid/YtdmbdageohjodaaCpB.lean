/-
  Chapter 45: a file's beginning; one record's bytes.
-/
import Derived.Test.YtdmbdageohjodaaCpA
import Derived.Test.YtdmbdageohjodaaRNP
import Derived.Test.YtdmbdageohjodaaPick
import Derived.Lib.SlBytesConst
namespace Go.Proofs.Ytdmbdageohjodaa
open Go.RowKit
set_option linter.unusedVariables false
set_option linter.unusedSimpArgs false
attribute [local irreducible] wpStill wpQuiet MixC.wpMix
attribute [local go_sem] MixC.rdOp MixC.rd MixC.rdUpon MixC.mvUpon

theorem elU8 : ElemT Try.prog 56 5 1 1 := ElemT.mk' (z := .int .u8 0) Try.underlying56 infoU8 rfl (by decide)
/-- octets.Put behind nothing -/
theorem put_l0 (m : Nat) (x : Int) (w : World) (hm1 : 1 ≤ m) (hm2 : m ≤ 8) (hx0 : 0 ≤ x) (hx1 : x ≤ 18446744073709551615) :
    Calls Try.prog 96 #[.slice none 0 0, .int .i64 m, .int .u64 x] w fun e w' => ∃ a' c', e = .returned (.slice a' m c') ∧ w'.ownsRow w.heap.size 5 1 (.slice a' m c') m (u8s (putL x m)) ∧ Below w.heap.size w w' := by
  refine (put_l none 0 0 [] 0 m x w (World.ownsRow_nil _ _ _ _) Oct.nil (by omega) hm1 hm2 hx0 hx1).mono ?_
  rintro e w' ⟨a', c', he, ho, hb⟩
  rw [Nat.zero_add] at he ho
  rw [List.nil_append] at ho
  exact ⟨a', c', he, ho, hb⟩
/-- the reference's Put, of lists -/
theorem rput_l (a : Option Addr) (n cap : Nat) (L : List Int) (base m : Nat) (x : Int) (w : World) (ho : w.ownsRow base 5 1 (.slice a n cap) n (u8s L)) (hO : Oct L) (hn : n ≤ 100000) (hm1 : 1 ≤ m) (hm2 : m ≤ 8) (hx0 : 0 ≤ x) (hx1 : x ≤ 18446744073709551615) :
    Calls Try.prog 75 #[.slice a n cap, .int .i64 m, .int .u64 x] w fun e w' => ∃ a' c', e = .returned (.slice a' (n + m) c') ∧ w'.ownsRow w.heap.size 5 1 (.slice a' (n + m) c') (n + m) (u8s (L ++ putL x m)) ∧ Below w.heap.size w w' := by
  obtain ⟨hl, a1, c1, he, hb⟩ := BS.own ho hO (by omega)
  cases he
  refine (rput_any _ a n cap (gz L) m x w hb (Nat.le_refl _) hb.nils hn hm1 hm2 hx0 hx1).mono ?_
  rintro e w' ⟨v, rfl, o, b⟩
  obtain ⟨a', c', rfl⟩ := own_len o
  refine ⟨a', c', rfl, ?_, b⟩
  rw [bytesOf_put] at o
  rw [u8s_app, u8s_bytes, ← hl]
  exact o
theorem rput_l0 (m : Nat) (x : Int) (w : World) (hm1 : 1 ≤ m) (hm2 : m ≤ 8) (hx0 : 0 ≤ x) (hx1 : x ≤ 18446744073709551615) :
    Calls Try.prog 75 #[.slice none 0 0, .int .i64 m, .int .u64 x] w fun e w' => ∃ a' c', e = .returned (.slice a' m c') ∧ w'.ownsRow w.heap.size 5 1 (.slice a' m c') m (u8s (putL x m)) ∧ Below w.heap.size w w' := by
  refine (rput_l none 0 0 [] 0 m x w (World.ownsRow_nil _ _ _ _) Oct.nil (by omega) hm1 hm2 hx0 hx1).mono ?_
  rintro e w' ⟨a', c', he, ho, hb⟩
  rw [Nat.zero_add] at he ho
  rw [List.nil_append] at ho
  exact ⟨a', c', he, ho, hb⟩

/-! ### The beginning -/
def begL : List Int := [84, 78, 76, 67, 0, 1]
theorem begL_put : [84, 78, 76, 67] ++ putL 1 2 = begL := by decide +kernel
set_option maxRecDepth 100000 in
set_option maxHeartbeats 2000000 in
theorem beg_any (w : World) : Calls Try.prog 68 #[] w fun e w' => ∃ a c, e = .returned (.slice a 6 c) ∧ w'.ownsRow w.heap.size 5 1 (.slice a 6 c) 6 (u8s begL) ∧ Below w.heap.size w w' := by
  have hcs := Go.Lib.run_convert_bytes_const (P := Try.prog) w 56 5 #[.int .u8 84, .int .u8 78, .int .u8 76, .int .u8 67] 4 4 Try.underlying56 Try.underlying5
  obtain ⟨W, hW⟩ : ∃ W, w.alloc (.cells #[.int .u8 84, .int .u8 78, .int .u8 76, .int .u8 67] 5 ((#[Value.int .u8 84, .int .u8 78, .int .u8 76, .int .u8 67] : Array Value).size, (#[Value.int .u8 84, .int .u8 78, .int .u8 76, .int .u8 67] : Array Value).size + 1)) = W := ⟨_, rfl⟩
  have hnew : W.heap[w.heap.size]? = some (.cells #[.int .u8 84, .int .u8 78, .int .u8 76, .int .u8 67] 5 (4, 5)) := by rw [← hW]; exact alloc_blk_new
  have BW : Hid (Below w.heap.size w W) := Lib.hid (by rw [← hW]; exact (Below.refl _ _).alloc (Nat.le_refl _) _)
  have hbs : BS W.heap.size W (some ⟨w.heap.size, 0, none⟩) 4 4 (gz [84, 78, 76, 67]) := ⟨by omega, by omega, fun i hi => by
      rcases (by omega : i = 0 ∨ i = 1 ∨ i = 2 ∨ i = 3) with rfl | rfl | rfl | rfl <;> exact ⟨by decide, by decide⟩, w.heap.size, 0, fun _ => ⟨rfl, lt_of_block hnew⟩, fun i hi => by
      rcases (by omega : i = 0 ∨ i = 1 ∨ i = 2 ∨ i = 3) with rfl | rfl | rfl | rfl <;> exact cell_blk hnew⟩
  have HP := Lib.hid (put_good W.heap.size (some ⟨w.heap.size, 0, none⟩) 4 4 (gz [84, 78, 76, 67]) 2 1 W hbs (Nat.le_refl _) (by omega) (by omega) (by omega) (by omega) (by omega))
  rw [hW] at hcs
  clear hbs hnew hW
  go_enter Try.func68, Try.ntmps68
  go_wp2_with fail
  refine HP.out.mono ?_
  rintro e w' ⟨v, rfl, o, b⟩
  obtain ⟨a', c', rfl⟩ := own_len o
  have O := Lib.hid o
  have BB := Lib.hid (BW.out.trans (b.mono BW.out.size))
  clear o b hcs
  go_wp2_with fail
  go_ret
  refine ⟨a', c', rfl, ?_, BB.out⟩
  have := World.ownsRow.mono O.out BW.out.size
  rw [bytesOf_put] at this
  rw [← begL_put, u8s_app, u8s_bytes [84, 78, 76, 67]]
  exact this
set_option maxHeartbeats 2000000 in
theorem rbeg_any (w : World) : Calls Try.prog 71 #[] w fun e w' => ∃ a c, e = .returned (.slice a 6 c) ∧ w'.ownsRow w.heap.size 5 1 (.slice a 6 c) 6 (u8s begL) ∧ Below w.heap.size w w' := by
  go_enter Try.func71, Try.ntmps71
  go_wp2_with fail
  go_ret
  exact ⟨_, _, rfl, ⟨rfl, .inr ⟨w.heap.size, 6, _, rfl, Nat.le_refl _, alloc_blk_new, Nat.le_refl _, by unfold maxLen; omega, rfl, rfl⟩⟩, (Below.refl _ _).alloc (Nat.le_refl _) _⟩
end Go.Proofs.Ytdmbdageohjodaa
