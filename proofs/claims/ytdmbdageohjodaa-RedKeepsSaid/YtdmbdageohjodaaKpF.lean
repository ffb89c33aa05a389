/-
  Chapter 36: Fresh.
-/
import Derived.Test.YtdmbdageohjodaaKpN
namespace Go.Proofs.Ytdmbdageohjodaa
open Go.RowKit
set_option linter.unusedVariables false
set_option linter.unusedSimpArgs false
attribute [local irreducible] wpStill wpQuiet

/-- was a block seen? -/
def seenB (Z : Nat → Int) (n : Nat) (st h : Int) : Bool := hasZ Z n ((st - h) % 4294967296)
set_option maxRecDepth 100000 in
set_option maxHeartbeats 1000000 in
theorem fresh1_any (B : Nat) (t h : Int) (a0 : Option Addr) (n0 c0 : Nat) (g4 g5 : Nat) (st : Int) (a : Option Addr) (n c : Nat) (Z : Nat → Int) (w : World) (hU : U4 B w a n c Z) (hB : B ≤ w.heap.size)
    (h5 : w.cell? ⟨g5, 0, none⟩ = some (.slice a n c)) (h4 : w.cell? ⟨g4, 0, none⟩ = some (.int .u32 st)) :
    Calls Try.prog 93 #[.agg #[.int .u8 t, .int .i64 h, .slice a0 n0 c0], .pointer (some ⟨g5, 0, none⟩), .pointer (some ⟨g4, 0, none⟩)] w fun e w' => e = .returned (.bool (seenB Z n st h)) ∧ Below w.heap.size w w' := by
  have HW : Hid (Below w.heap.size w (w.alloc (.cells #[.int .u8 t, .int .i64 h, .slice a0 n0 c0] 110))) := Lib.hid ((Below.refl _ _).alloc (Nat.le_refl _) _)
  have HC := Lib.hid (contains_u4 B a n c Z ((st - h) % 4294967296) (w.alloc (.cells #[.int .u8 t, .int .i64 h, .slice a0 n0 c0] 110)) (hU.keep (HW.out.mono hB)))
  have l5 : g5 < w.heap.size := World.block_lt_of_cell? _ _ h5
  have l4 : g4 < w.heap.size := World.block_lt_of_cell? _ _ h4
  clear hU
  go_enter Try.func93, Try.ntmps93
  go_wp2_with fail
  refine HC.out.mono ?_
  rintro e w' ⟨rfl, rfl⟩
  go_wp2_with fail
  go_ret
  exact ⟨rfl, HW.out⟩
def frL (Q : Nat → Blk) (Z : Nat → Int) (n : Nat) (st : Int) (k : Nat) : List Nat := (List.range k).filter fun i => !seenB Z n st (Q i).h
theorem frL_succ (Q : Nat → Blk) (Z : Nat → Int) (n : Nat) (st : Int) (k : Nat) : frL Q Z n st (k + 1) = if seenB Z n st (Q k).h then frL Q Z n st k else frL Q Z n st k ++ [k] := by
  unfold frL
  rw [List.range_succ, List.filter_append]
  cases h : seenB Z n st (Q k).h <;> simp [h]
theorem frL_len (Q : Nat → Blk) (Z : Nat → Int) (n : Nat) (st : Int) (k : Nat) : (frL Q Z n st k).length ≤ k := by
  have := List.length_filter_le (fun i => !seenB Z n st (Q i).h) (List.range k)
  simpa [frL] using this
def i64s (L : List Nat) : List Value := L.map fun x : Nat => Value.int .i64 (Int.ofNat x)
theorem i64s_app (L M : List Nat) : i64s (L ++ M) = i64s L ++ i64s M := List.map_append ..
def FrPost (Q : Nat → Blk) (Z : Nat → Int) (n : Nat) (st : Int) (len : Nat) (w : World) (e : Ending) (w' : World) : Prop :=
  ∃ v m, e = .returned v ∧ m = (frL Q Z n st len).length ∧ w'.ownsRow w.heap.size 3 1 v m (i64s (frL Q Z n st len)) ∧ Below w.heap.size w w'
set_option maxRecDepth 100000 in
set_option maxHeartbeats 4000000 in
theorem fresh_any (B : Nat) (ad : Option Addr) (len cap : Nat) (Q : Nat → Blk) (st : Int) (a : Option Addr) (n c : Nat) (Z : Nat → Int) (w : World) (hQ : Blks B w ad len cap Q) (hU : U4 B w a n c Z) (hB : B ≤ w.heap.size) (hl : len ≤ 100) :
    Calls Try.prog 55 #[.slice ad len cap, .int .u32 st, .slice a n c] w (FrPost Q Z n st len w) := by
  obtain ⟨i1, hi1, hy0, hy1, hy2⟩ := info_parts infoInt
  have HQ := Lib.hid hQ
  have HU := Lib.hid hU
  have hle := hQ.le
  have hmx := hQ.max
  clear hQ hU
  go_enter Try.func55, Try.ntmps55
  go_wp2_with fail
  generalize hW : World.alloc _ _ = W
  have g4 : W.heap[w.heap.size]? = some (.cells #[.int .u32 st] 44 (0, 0)) := by rw [← hW, alloc_blk_old (by simp)]; exact alloc_blk_new
  have g5 : W.heap[w.heap.size + 1]? = some (.cells #[.slice a n c] 94 (0, 0)) := by
    rw [← hW]
    have := alloc_blk_new (w := w.alloc (.cells #[.int .u32 st] 44)) (o := .cells #[.slice a n c] 94)
    simpa using this
  have BW : Hid (Below w.heap.size w W) := Lib.hid (by rw [← hW]; exact ((Below.refl _ w).alloc (Nat.le_refl _) _).alloc (by simp) _)
  have HG4 := Lib.hid g4
  have HG5 := Lib.hid g5
  have sW : Hid (W.heap.size = w.heap.size + 1 + 1) := Lib.hid (by rw [← hW]; simp)
  clear g4 g5 hW
  go_loopw [7, 14] (fun s7 si wr => ∃ k : Nat, k ≤ len ∧ si = .int .i64 k ∧ Hid (Below W.heap.size W wr) ∧ Hid (wr.ownsRow W.heap.size 3 1 s7 (frL Q Z n st k).length (i64s (frL Q Z n st k)))) (fun _ si _ => len - (intOf si).toNat)
  case atStart => exact ⟨0, by omega, rfl, Lib.hid (Below.refl _ _), Lib.hid (by have := World.ownsRow_nil W W.heap.size 3 1; simpa [frL, i64s] using this)⟩
  case round =>
    obtain ⟨k, hk, rfl, HB, HO⟩ := hrel
    obtain ⟨v7a, v7c, h7⟩ := own_len HO.out
    subst h7
    by_cases hlt : k < len
    · have bw : Below w.heap.size w wr := BW.out.trans (HB.out.mono BW.out.size)
      obtain ⟨b1, o1, hp1, hc1⟩ := (HQ.out.keep (bw.mono hB)).mem
      obtain ⟨rfl, _⟩ := hp1 (by omega)
      have c0 := hc1 k hlt 0 (by omega)
      have c1 := hc1 k hlt 1 (by omega)
      have c2 := hc1 k hlt 2 (by omega)
      have hfs := frL_succ Q Z n st k
      have hfl := frL_len Q Z n st k
      obtain ⟨q, hq⟩ : ∃ q, Q k = q := ⟨_, rfl⟩
      rw [hq] at c0 c1 c2 hfs
      have HFS := Lib.hid hfs
      clear hq hp1 hc1 hfs
      obtain ⟨t, h, qa, qn, qc, qZ⟩ := q
      simp only [Blk.cell, Nat.add_zero] at c0 c1 c2
      have HBW := Lib.hid bw
      have hki : (k : Int) < len := by omega
      clear bw
      go_wp2_with fail
      generalize hV : World.alloc wr _ = V
      have BV : Hid (Below wr.heap.size wr V) := Lib.hid (by rw [← hV]; exact (Below.refl _ _).alloc (Nat.le_refl _) _)
      clear hV
      have BVW : Hid (Below W.heap.size W V) := Lib.hid (HB.out.trans (BV.out.mono HB.out.size))
      have lt5 := lt_of_block HG5.out
      refine (fresh1_any B t h qa qn qc w.heap.size (w.heap.size + 1) st a n c Z V (HU.out.keep ((HBW.out.trans (BV.out.mono HBW.out.size)).mono hB)) (Nat.le_trans hB (Nat.le_trans HBW.out.size BV.out.size)) (cell_blk (Below.blk BVW.out HG5.out lt5)) (cell_blk (Below.blk BVW.out HG4.out (by omega)))).mono ?_
      rintro e V2 ⟨rfl, b2⟩
      have B2 := Lib.hid (BVW.out.trans (b2.mono BVW.out.size))
      have O2 := Lib.hid (own_below (own_below HO.out BV.out) b2)
      clear b2
      cases hs : seenB Z n st h with
      | true =>
        have HS := Lib.hid hs
        clear hs
        go_wp2_with fail
        go_roundw
        case rel => exact ⟨k + 1, by omega, by go_num, B2, Lib.hid (by rw [HFS.out, if_pos HS.out]; exact O2.out)⟩
        case measure => simp [intOf] <;> omega
      | false =>
        have HS := Lib.hid hs
        clear hs
        obtain ⟨WA, hWA⟩ : ∃ WA, V2.alloc (.cells #[.int .i64 (k : Int)] 3) = WA := ⟨_, rfl⟩
        have BWA : Hid (Below V2.heap.size V2 WA) := Lib.hid (by rw [← hWA]; exact (Below.refl _ _).alloc (Nat.le_refl _) _)
        obtain ⟨x7, y7, W4, r7, own7, but7, nb7⟩ := run_app (P := Try.prog) (w := WA) (t := 39) Try.underlying39 hi1 hy0 hy1 hy2 rfl (by decide) (own_below O2.out BWA.out) (some ⟨V2.heap.size, 0, none⟩) 1 1 [.int .i64 (k : Int)] (fun e => by cases e) rfl (fun ad e jj u hj => by cases e; rw [← hWA]; exact cell_one_at (w := V2) rfl jj u hj) (one_cell rfl) (by unfold maxLen; omega) (by omega) (Nat.le_trans B2.out.size BWA.out.size)
        have R7 := Lib.hid r7
        have O7 := Lib.hid own7
        have B4 : Hid (Below W.heap.size W W4) := Lib.hid ((B2.out.trans (BWA.out.mono B2.out.size)).trans (but7.below (Nat.le_trans B2.out.size BWA.out.size) (fun g hg => (HO.out.lt g hg).1)))
        clear r7 own7 but7 nb7 BWA
        go_wp2_with (at_builtin; refine wpList_of_append rfl (.tmp 23) (.tmp 25) 39 rfl _ _ _ rfl rfl R7.out ?_)
        go_roundw
        case rel => exact ⟨k + 1, by omega, by go_num, B4, Lib.hid (by rw [HFS.out, HS.out, if_neg (by decide), i64s_app, List.length_append]; exact O7.out)⟩
        case measure => simp [intOf] <;> omega
    · have : k = len := by omega
      subst this
      clear hlt
      go_wp2_with fail
      go_ret
      exact ⟨_, _, rfl, rfl, World.ownsRow.mono HO.out BW.out.size, BW.out.trans (HB.out.mono BW.out.size)⟩
end Go.Proofs.Ytdmbdageohjodaa
