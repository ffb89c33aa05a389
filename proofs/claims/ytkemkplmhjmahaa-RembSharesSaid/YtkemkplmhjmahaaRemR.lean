/-
  The reference of chapter 25: its Share and its Cost.
-/
import Derived.Test.YtkemkplmhjmahaaRemL
namespace Go.Proofs.Ytkemkplmhjmahaa
open Go.RowKit
set_option linter.unusedVariables false
set_option linter.unusedSimpArgs false
attribute [local irreducible] wpStill wpQuiet

/-- the memory of the reference's sharing -/
structure RW (B : Nat) (w0 W : World) (a : Option Addr) (n : Nat) (A : Nat → Option Addr) (K : Nat → Nat) (C : Nat → Nat → Int) (L : Nat → Nat) (q : Nat) (Y : Nat → Int) : Prop where
  hq : ∃ cur, W.heap[q]? = some (.cells cur 3 (0, 0)) ∧ ∀ i, i < n → cur[i]? = some (.int .i64 (Y i))
  hb : Below B w0 W
  cs : CS B W a n A K C L
  ne : B ≤ q
theorem RW.drewN {B : Nat} {w0 W : World} {a : Option Addr} {n : Nat} {A : Nat → Option Addr} {K : Nat → Nat} {C : Nat → Nat → Int} {L : Nat → Nat} {q : Nat} {Y : Nat → Int} (h : RW B w0 W a n A K C L q Y) (m : Nat) : RW B w0 (W.drewN m) a n A K C L q Y := ⟨h.hq, below_drewN0 h.hb m, ⟨h.cs.at_, h.cs.row, h.cs.bd⟩, h.ne⟩
theorem RW.set {B : Nat} {w0 W : World} {a : Option Addr} {n : Nat} {A : Nat → Option Addr} {K : Nat → Nat} {C : Nat → Nat → Int} {L : Nat → Nat} {q : Nat} {Y : Nat → Int} (h : RW B w0 W a n A K C L q Y) (b : Nat) (hb : b < n) (x : Int) : RW B w0 (W.setCell ⟨q, b, none⟩ (.int .i64 x)) a n A K C L q (fun i => if i = b then x else Y i) := by
  obtain ⟨⟨cur, g6, g7⟩, h6, h7, h8⟩ := h
  refine ⟨⟨cur.setIfInBounds b (.int .i64 x), by rw [set_blk _ g6], fun i hi => ?_⟩, below_set h6 h8 _, h7.keep (below_set (Below.refl B W) h8 _), h8⟩
  have hlt : b < cur.size := by
    have := g7 b hb
    rcases Nat.lt_or_ge b cur.size with h' | h'
    · exact h'
    · rw [Array.getElem?_eq_none h'] at this; cases this
  by_cases hib : i = b
  · subst hib
    rw [if_pos rfl]; simp [hlt]
  · rw [if_neg hib, Array.getElem?_setIfInBounds_ne (by omega)]; exact g7 i hi
theorem RW.cell {B : Nat} {w0 W : World} {a : Option Addr} {n : Nat} {A : Nat → Option Addr} {K : Nat → Nat} {C : Nat → Nat → Int} {L : Nat → Nat} {q : Nat} {Y : Nat → Int} (h : RW B w0 W a n A K C L q Y) (i : Nat) (hi : i < n) : W.cell? ⟨q, i, none⟩ = some (.int .i64 (Y i)) := by
  obtain ⟨cur, g6, g7⟩ := h.hq
  rw [cell_blk g6]; exact g7 i hi
theorem RW.free {B : Nat} {w0 W : World} {a : Option Addr} {n : Nat} {A : Nat → Option Addr} {K : Nat → Nat} {C : Nat → Nat → Int} {L : Nat → Nat} {q : Nat} {Y : Nat → Int} (h : RW B w0 W a n A K C L q Y) (i : Nat) : W.frozen? ⟨q, i, none⟩ = false := by
  obtain ⟨cur, g6, g7⟩ := h.hq
  exact free_blk g6
/-- what the search knows: all that fit have at least 'want' -/
def atL (C : Nat → Nat → Int) (L : Nat → Nat) (S : Sh) (n : Nat) (want : Int) : Prop := ∀ i, i < n → fitsB C L S i = true → want ≤ S.out i
theorem atL.best {C : Nat → Nat → Int} {L : Nat → Nat} {S : Sh} {n b : Nat} {want : Int} (h : atL C L S n want) (hb : b < n) (hf : fitsB C L S b = true) (ho : S.out b = want) (hp : ∀ i, i < b → fitsB C L S i = true → S.out i ≠ want) : isBest C L S n b := by
  refine ⟨hb, hf, fun i hi hfi => ?_⟩
  have h1 := h i hi hfi
  by_cases hib : i < b
  · have := hp i hib hfi; omega
  · omega
theorem atL.next {C : Nat → Nat → Int} {L : Nat → Nat} {S : Sh} {n : Nat} {want : Int} (h : atL C L S n want) (hp : ∀ i, i < min n 64 → fitsB C L S i = true → S.out i ≠ want) : atL C L S n (want + 1) := by
  intro i hi hf
  have h1 := h i hi hf
  have h2 := fits_of hf
  have h3 := hp i (by omega) hf
  omega
theorem atL.none {C : Nat → Nat → Int} {L : Nat → Nat} {S : Sh} {n : Nat} (h : atL C L S n 8) : bestN C L S n = -1 := bestN_of_none fun i hi => by
  cases hf : fitsB C L S i
  · rfl
  · have h1 := h i hi hf
    have h2 := fits_of hf
    omega
theorem rmake (n : Nat) (hn : n ≤ 1000) (W : World) : (Instr.makeSlice 47 (.int .i64 (n : Int)) (.int .i64 (n : Int))).run Try.prog W = .ok (.slice (some ⟨W.heap.size, 0, none⟩) n n) (W.alloc (.cells (madeCells (Value.int .i64 0).cells n) 3)) := by
  obtain ⟨i0, hi, hz0, hz1, hz2⟩ := info_parts infoInt
  have hmk := run_makeSlice (P := Try.prog) W 47 3 i0 (.int .i64 0) Try.underlying47 hi hz0 .i64 .i64 (n : Int) (n : Int) (by omega) (Int.le_refl _) (by rw [hz1]; omega) (by rw [hz2]; omega) (by omega)
  simpa [hz1] using hmk
theorem made_get (n i : Nat) (hi : i < n) : (madeCells (Value.int .i64 0).cells n)[i]? = some (.int .i64 0) := by
  simp [madeCells, Value.cells, hi, Nat.mod_one]
set_option maxHeartbeats 1000000 in
theorem rcost_any {w : World} {a : Option Addr} {n cap : Nat} {A : Nat → Option Addr} {K : Nat → Nat} {C : Nat → Nat → Int} {L : Nat → Nat} (h : CS w.heap.size w a n A K C L) (W : World) (hB : Below w.heap.size w W) (hcap : n ≤ cap) (av : Option Addr) (m cv : Nat) (Y : Nat → Int) (hY : YS W av m Y) (hcv : m ≤ cv) (hm : m ≤ 9223372036854775807) (hn : n ≤ 9223372036854775807) :
    Calls Try.prog 34 #[.slice a n cap, .slice av m cv] W fun e w' => e = .returned (.int .u64 (costN C L n Y m)) ∧ ∃ d, w' = W.drewN d := by
  have H := Lib.hid (h.keep hB)
  have HY := Lib.hid hY
  clear h hY
  go_enter Try.func34, Try.ntmps34
  go_wp2_with fail
  go_loopw [5, 6] (fun sx si wr => ∃ (k d : Nat) (x : Int), k ≤ m ∧ k ≤ n ∧ si = .int .i64 k ∧ sx = .int .u64 x ∧ Hid (x = costN C L n Y k) ∧ Hid (wr = W.drewN d)) (fun _ si _ => m - (intOf si).toNat)
  case atStart => exact ⟨0, 0, 0, by omega, by omega, rfl, rfl, Lib.hid rfl, Lib.hid rfl⟩
  case round =>
    obtain ⟨k, d, x, hk, hkn, rfl, rfl, hx, hw⟩ := hrel
    by_cases hlt : k < m
    · by_cases hin : k < n
      · obtain ⟨q, off, rfl, hc⟩ := HY.out (by omega)
        have ck : wr.cell? ⟨q, off + k, none⟩ = some (.int .i64 (Y k)) := by rw [hw.out]; exact hc k hlt
        clear hc
        obtain ⟨b, off2, rfl, hb, hc⟩ := H.out.at_ (by omega)
        have c2 : wr.cell? ⟨b, off2 + k, none⟩ = some (.slice (A k) (L k) (K k)) := by rw [hw.out]; exact hc k hin
        clear hc
        have HC : Hid (Calls Try.prog 49 #[.slice (A k) (L k) (K k), .int .i64 (Y k)] wr.drew fun e w' => e = .returned (.int .u64 (cst C L k (Y k))) ∧ w' = wr.drew) := Lib.hid (by rw [hw.out]; exact rcostR (w := (W.drewN d).drew) ⟨H.out.at_, H.out.row, H.out.bd⟩ k hin _)
        have hb0 := cst_bd H.out.bd L k (Y k)
        have hbx := costN_bd H.out.bd L n Y k
        rw [← hx.out] at hbx
        have hn2 : Hid (satI x (cst C L k (Y k)) = costN C L n Y (k + 1)) := Lib.hid (by unfold costN; rw [if_pos hin, ← hx.out])
        generalize cst C L k (Y k) = z at *
        generalize Y k = y at *
        have HS := Lib.hid (rsatR x z wr.drew hbx.1 hbx.2 hb0.1 hb0.2)
        go_wp2_with fail
        refine wp_region_still_lit (by kernel_rfl) (by kernel_rfl) ?_
        iterate 9 still_step
        still_call HC.out
        still_call HS.out
        iterate 1 still_step
        refine wpStill_nil ?_
        change Exit.inBlock _ _ _ _ wr.drew
        go_wp2_with fail
        go_roundw
        case rel => exact ⟨k + 1, d + 1, _, by omega, by omega, by go_num, rfl, hn2, Lib.hid (by rw [hw.out]; rfl)⟩
        case measure => simp [intOf] <;> omega
      · obtain rfl : n = k := by omega
        have hstop := costN_stop C L n Y (m - n)
        rw [show n + (m - n) = m by omega] at hstop
        have HST := Lib.hid hstop
        clear hstop
        go_wp2_with fail
        go_ret
        exact ⟨ret_int (by rw [HST.out]; exact hx.out), d, hw.out⟩
    · obtain rfl : m = k := by omega
      go_wp2_with fail
      go_ret
      exact ⟨ret_int hx.out, d, hw.out⟩
end Go.Proofs.Ytkemkplmhjmahaa
