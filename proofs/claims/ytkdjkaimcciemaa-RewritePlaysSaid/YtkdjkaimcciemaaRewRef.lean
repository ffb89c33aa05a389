/-
  The reference of chapter 22: its object, and what each of its functions does.
-/
import Derived.Test.YtkdjkaimcciemaaRewAbove
import Derived.Deep.AppendLies
import Derived.Deep.RegionHeld3
namespace Go.Proofs.Ytkdjkaimcciemaa
open Go.RowKit
set_option linter.unusedVariables false
set_option linter.unusedSimpArgs false

/-- block r is the reference's writer; v: all that went out -/
def rwr (w : World) (r : Nat) (f : Int) (fo : Bool) (a1 a2 a3 b1 b2 b3 : Int) (v : Value) : Prop :=
  w.heap[r]? = some (.cells #[.int .i64 f, .bool fo, .int .i64 a1, .int .u32 a2, .int .u16 a3, .int .i64 b1, .int .u32 b2, .int .u16 b3, v] 79 (0, 0))
theorem rwr.lt {w : World} {r : Nat} {f : Int} {fo : Bool} {a1 a2 a3 b1 b2 b3 : Int} {v : Value} (h : rwr w r f fo a1 a2 a3 b1 b2 b3 v) : r < w.heap.size := lt_of_block h
/-- what went out, as cells -/
def outL (O : Nat → Int × Int × Int) (n : Nat) : List Value := (List.range n).flatMap fun i => [.int .i64 (O i).1, .int .u32 (O i).2.1, .int .u16 (O i).2.2]
theorem outL_succ (O : Nat → Int × Int × Int) (n : Nat) : outL O (n + 1) = outL O n ++ [.int .i64 (O n).1, .int .u32 (O n).2.1, .int .u16 (O n).2.2] := by simp [outL, List.range_succ]
theorem outL_len (O : Nat → Int × Int × Int) (n : Nat) : (outL O n).length = n * 3 := by
  induction n with
  | zero => rfl
  | succ n ih => rw [outL_succ, List.length_append, ih]; simp; omega
theorem outL_get (O : Nat → Int × Int × Int) (n i : Nat) (h : i < n) : (outL O n)[i * 3]? = some (.int .i64 (O i).1) ∧ (outL O n)[i * 3 + 1]? = some (.int .u32 (O i).2.1) ∧ (outL O n)[i * 3 + 2]? = some (.int .u16 (O i).2.2) := by
  induction n with
  | zero => omega
  | succ n ih =>
    rw [outL_succ]
    have hl := outL_len O n
    by_cases hi : i < n
    · obtain ⟨h1, h2, h3⟩ := ih hi
      refine ⟨?_, ?_, ?_⟩ <;> (rw [List.getElem?_append_left (by omega)]; assumption)
    · obtain rfl : i = n := by omega
      refine ⟨?_, ?_, ?_⟩ <;> rw [List.getElem?_append_right (by omega), hl]
      · simp
      · simp
      · simp
/-- all that went out lies in a row of the reference's own, apart from two blocks -/
structure outs (w : World) (base g r : Nat) (v : Value) (n : Nat) (O : Nat → Int × Int × Int) : Prop where
  own : w.ownsRow base 68 3 v n (outL O n)
  ne : ∀ q, v.ownBlock = some q → q ≠ g ∧ q ≠ r
theorem outs.blk {w w' : World} {base g r : Nat} {v : Value} {n : Nat} {O : Nat → Int × Int × Int} (h : outs w base g r v n O) (hb : ∀ q, q < w.heap.size → q ≠ g → q ≠ r → w'.heap[q]? = w.heap[q]?) : outs w' base g r v n O := by
  have hlt := h.own.lt
  have hne := h.ne
  refine ⟨?_, h.ne⟩
  obtain ⟨h1, h2⟩ := h.own
  refine ⟨h1, ?_⟩
  rcases h2 with h2 | ⟨q, cap, cur, hv, hg, hh, rr⟩
  · exact .inl h2
  · subst hv
    obtain ⟨h3, h4⟩ := hlt q rfl
    obtain ⟨h5, h6⟩ := hne q rfl
    exact .inr ⟨q, cap, cur, rfl, hg, by rw [hb q h4 h5 h6]; exact hh, rr⟩
theorem outs.keepsG {w w' : World} {base g r : Nat} {v : Value} {n : Nat} {O : Nat → Int × Int × Int} (h : outs w base g r v n O) (k : Keeps g w w') : outs w' base g r v n O := h.blk fun q hq h1 h2 => k.block q hq h1
theorem outs.keepsR {w w' : World} {base g r : Nat} {v : Value} {n : Nat} {O : Nat → Int × Int × Int} (h : outs w base g r v n O) (k : Keeps r w w') : outs w' base g r v n O := h.blk fun q hq h1 h2 => k.block q hq h2
theorem outs.below {w w' : World} {base g r : Nat} {v : Value} {n : Nat} {O : Nat → Int × Int × Int} (h : outs w base g r v n O) (k : Below w.heap.size w w') : outs w' base g r v n O := h.blk fun q hq h1 h2 => k.block q hq
/-- the cells of one -/
theorem outs.cells {w : World} {base g r : Nat} {v : Value} {n : Nat} {O : Nat → Int × Int × Int} (h : outs w base g r v n O) (hn : 0 < n) :
    ∃ q cap, v = .slice (some ⟨q, 0, none⟩) n cap ∧ n ≤ cap ∧ cap ≤ 9223372036854775807 ∧ q < w.heap.size ∧ ∀ i, i < n → w.cell? ⟨q, i * 3, none⟩ = some (.int .i64 (O i).1) ∧ w.cell? ⟨q, i * 3 + 1, none⟩ = some (.int .u32 (O i).2.1) ∧ w.cell? ⟨q, i * 3 + 2, none⟩ = some (.int .u16 (O i).2.2) := by
  have hlt := h.own.lt
  have hcell := fun g => h.own.cells (g := g)
  obtain ⟨h1, h2⟩ := h.own
  rcases h2 with ⟨_, h0⟩ | ⟨q, cap, cur, hv, hg, hh, hn2, hcap, hsz, _⟩
  · omega
  · subst hv
    obtain ⟨h3, h4⟩ := hlt q rfl
    refine ⟨q, cap, rfl, by omega, by unfold maxLen at hcap; omega, h4, fun i hi => ?_⟩
    obtain ⟨g1, g2, g3⟩ := outL_get O n i hi
    have a1 := hcell q rfl _ _ g1
    have a2 := hcell q rfl _ _ g2
    have a3 := hcell q rfl _ _ g3
    rw [show ∀ m, (⟨q, 0, none⟩ : Addr).add m = ⟨q, m, none⟩ from fun m => by unfold Addr.add; split <;> simp_all] at a1 a2 a3
    exact ⟨a1, a2, a3⟩
theorem outs.len {w : World} {base g r : Nat} {v : Value} {n : Nat} {O : Nat → Int × Int × Int} (h : outs w base g r v n O) : ∃ a cap, v = .slice a n cap := own_len h.own

def topTo (O : Nat → Int × Int × Int) : Nat → Int
  | 0 => -1
  | k + 1 => if topTo O k < 0 ∨ (O (topTo O k).toNat).1 ≤ (O k).1 then k else topTo O k
theorem topTo_bd (O : Nat → Int × Int × Int) (k : Nat) : -1 ≤ topTo O k ∧ topTo O k < k ∧ (0 < k → 0 ≤ topTo O k) := by
  induction k with
  | zero => simp [topTo]
  | succ k ih => unfold topTo; split <;> omega

set_option maxHeartbeats 2000000 in
theorem rtop_any (base g r : Nat) (f : Int) (fo : Bool) (a1 a2 a3 b1 b2 b3 : Int) (v : Value) (n : Nat) (O : Nat → Int × Int × Int) (w : World) (hg : rwr w r f fo a1 a2 a3 b1 b2 b3 v) (ho : outs w base g r v n O) (hn : n ≤ 1000) :
    Calls Try.prog 63 #[.pointer (some ⟨r, 0, none⟩)] w fun e w' => e = .returned (.int .i64 (topTo O n)) ∧ ∃ m, w' = w.drewN m := by
  obtain ⟨av, cv, hv⟩ := ho.len
  have c8 : w.cell? ⟨r, 8, none⟩ = some v := cell_blk hg
  have HC := Lib.hid (fun hn => ho.cells hn)
  subst hv
  go_enter Try.func63, Try.ntmps63
  go_wp2_with fail
  go_loopw [3, 4] (fun sa si wr => ∃ (k : Nat) (t : Int), k ≤ n ∧ si = .int .i64 k ∧ sa = .int .i64 t ∧ -1 ≤ t ∧ t < k ∧ Hid (t = topTo O k) ∧ ∃ m, Hid (wr = w.drewN m)) (fun _ si _ => n - (intOf si).toNat)
  case atStart => exact ⟨0, -1, by omega, rfl, rfl, by omega, by omega, Lib.hid rfl, 0, Lib.hid rfl⟩
  case round =>
    obtain ⟨k, t, hk, rfl, rfl, ht0, ht1, ht, m, hw⟩ := hrel
    have c8' : wr.cell? ⟨r, 8, none⟩ = some (.slice av n cv) := by rw [hw.out]; exact c8
    by_cases hlt : k < n
    · obtain ⟨q, cap, hq, hcap, hcap2, hqw, hcells⟩ := HC.out (by omega)
      cases hq
      have ck : wr.cell? ⟨q, k * 3, none⟩ = some (.int .i64 (O k).1) := by rw [hw.out]; exact (hcells k hlt).1
      by_cases ht2 : t < 0
      · have e1 : decide (t < 0) = true := by simpa using ht2
        have hn2 : Hid ((k : Int) = topTo O (k + 1)) := Lib.hid (by unfold topTo; rw [if_pos (.inl (by rw [← ht.out]; exact ht2))])
        clear hcells
        go_wp2_with fail
        go_quiet (fail)
        go_wp2_with fail
        go_roundw
        case rel => exact ⟨k + 1, k, by omega, by go_num, rfl, by omega, by omega, hn2, m + _, Lib.hid (by rw [hw.out, World.drewN_drewN])⟩
        case measure => simp [intOf] <;> omega
      · have e1 : decide (t < 0) = false := by simpa using ht2
        obtain ⟨s, rfl⟩ := Int.eq_ofNat_of_zero_le (show 0 ≤ t by omega)
        have hs : s < n := by omega
        have cs : wr.cell? ⟨q, s * 3, none⟩ = some (.int .i64 (O s).1) := by rw [hw.out]; exact (hcells s hs).1
        have hts : topTo O k = (s : Int) := ht.out.symm
        have i0 : (0 : Int) ≤ (s : Int) := by omega
        have i1 : (s : Int) < (n : Int) := by omega
        have i2 : (0 : Int) ≤ (k : Int) := by omega
        have i3 : (k : Int) < (n : Int) := by omega
        by_cases hle : (O s).1 ≤ (O k).1
        · have e2 : decide ((O s).1 ≤ (O k).1) = true := by simpa using hle
          have hn2 : Hid ((k : Int) = topTo O (k + 1)) := Lib.hid (by unfold topTo; rw [hts, if_pos (.inr (by simpa using hle))])
          clear hcells hts hle
          go_wp2_with fail
          go_quiet (fail)
          go_wp2_with fail
          go_roundw
          case rel => exact ⟨k + 1, k, by omega, by go_num, rfl, by omega, by omega, hn2, m + _, Lib.hid (by rw [hw.out, World.drewN_drewN])⟩
          case measure => simp [intOf] <;> omega
        · have e2 : decide ((O s).1 ≤ (O k).1) = false := by simpa using hle
          have hn2 : Hid ((s : Int) = topTo O (k + 1)) := Lib.hid (by unfold topTo; rw [hts, if_neg (by rintro (h | h); exact absurd h (by omega); exact hle (by simpa using h))])
          clear hcells hts hle
          go_wp2_with fail
          go_quiet (fail)
          go_wp2_with fail
          go_roundw
          case rel => exact ⟨k + 1, s, by omega, by go_num, rfl, by omega, by omega, hn2, m + _, Lib.hid (by rw [hw.out, World.drewN_drewN])⟩
          case measure => simp [intOf] <;> omega
    · obtain rfl : k = n := by omega
      go_wp2_with fail
      go_ret
      exact ⟨ret_int ht.out, m, hw.out⟩
end Go.Proofs.Ytkdjkaimcciemaa
