/-
  The reference of chapter 8: its object; High, Fresh, Count. And the program's Count.
-/
import Derived.Test.YtkdjkaimcciemaaPopW
import Derived.Deep.AppendLies
import Derived.Deep.QuietTactic
import Derived.BigQuiet
namespace Go.Proofs.Ytkdjkaimcciemaa
open Go.RowKit
set_option linter.unusedVariables false
set_option linter.unusedSimpArgs false

theorem wcount_any (g : Nat) (n b : Int) (w : World) (hg : win w g n b) (b0 : 0 ≤ b) (b1 : b ≤ 18446744073709551615) :
    Calls Try.prog 35 #[.pointer (some ⟨g, 0, none⟩)] w fun e w' => e = .returned (.int .i64 (pcs 64 b.toNat : Nat)) ∧ w = w' := by
  obtain ⟨x, rfl⟩ := Int.eq_ofNat_of_zero_le b0
  have c1 := hg.c1
  rw [Int.toNat_natCast]
  have hx : x < 18446744073709551616 := by omega
  clear b0 b1
  go_enter Try.func35, Try.ntmps35
  go_wp2_with fail
  refine (ones64_any x _ hx).mono ?_
  rintro e w1 ⟨rfl, rfl⟩
  go_wp2_with fail
  go_ret
  exact ⟨rfl, rfl⟩

/-- block r is the reference's window; v: all that were there -/
def rwin (w : World) (r : Nat) (v : Value) : Prop := w.heap[r]? = some (.cells #[v] 63 (0, 0))
theorem rwin.lt {w : World} {r : Nat} {v : Value} (h : rwin w r v) : r < w.heap.size := lt_of_block h
def lstL (X : Nat → Int) (n : Nat) : List Value := (List.range n).map fun i => .int .i64 (X i)
theorem lstL_succ (X : Nat → Int) (n : Nat) : lstL X (n + 1) = lstL X n ++ [.int .i64 (X n)] := by simp [lstL, List.range_succ]
structure rls (w : World) (base g r : Nat) (v : Value) (n : Nat) (X : Nat → Int) : Prop where
  own : w.ownsRow base 2 1 v n (lstL X n)
  ne : ∀ q, v.ownBlock = some q → q ≠ g ∧ q ≠ r
theorem rls.blk {w w' : World} {base g r : Nat} {v : Value} {n : Nat} {X : Nat → Int} (h : rls w base g r v n X) (hb : ∀ q, q < w.heap.size → q ≠ g → q ≠ r → w'.heap[q]? = w.heap[q]?) : rls w' base g r v n X := by
  have hlt := h.own.lt
  have hne := h.ne
  refine ⟨?_, h.ne⟩
  obtain ⟨h1, h2⟩ := h.own
  refine ⟨h1, ?_⟩
  rcases h2 with h2 | ⟨q, cap, cur, hv, hg, hh, rr⟩
  · exact .inl h2
  · subst hv
    obtain ⟨h3, h4⟩ := hlt q rfl
    obtain ⟨h5, h6⟩ := hne q rfl
    exact .inr ⟨q, cap, cur, rfl, hg, by rw [hb q h4 h5 h6]; exact hh, rr⟩
theorem rls.keepsG {w w' : World} {base g r : Nat} {v : Value} {n : Nat} {X : Nat → Int} (h : rls w base g r v n X) (k : Keeps g w w') : rls w' base g r v n X := h.blk fun q hq h1 h2 => k.block q hq h1
theorem rls.keepsR {w w' : World} {base g r : Nat} {v : Value} {n : Nat} {X : Nat → Int} (h : rls w base g r v n X) (k : Keeps r w w') : rls w' base g r v n X := h.blk fun q hq h1 h2 => k.block q hq h2
theorem rls.below {w w' : World} {base g r : Nat} {v : Value} {n : Nat} {X : Nat → Int} (h : rls w base g r v n X) (k : Below w.heap.size w w') : rls w' base g r v n X := h.blk fun q hq h1 h2 => k.block q hq
theorem rls.cells {w : World} {base g r : Nat} {v : Value} {n : Nat} {X : Nat → Int} (h : rls w base g r v n X) (hn : 0 < n) :
    ∃ q cap, v = .slice (some ⟨q, 0, none⟩) n cap ∧ n ≤ cap ∧ cap ≤ 9223372036854775807 ∧ q < w.heap.size ∧ ∀ i, i < n → w.cell? ⟨q, i, none⟩ = some (.int .i64 (X i)) := by
  have hlt := h.own.lt
  have hcell := fun g => h.own.cells (g := g)
  obtain ⟨h1, h2⟩ := h.own
  rcases h2 with ⟨_, h0⟩ | ⟨q, cap, cur, hv, hg, hh, hn2, hcap, hsz, _⟩
  · omega
  · subst hv
    obtain ⟨h3, h4⟩ := hlt q rfl
    refine ⟨q, cap, rfl, by omega, by unfold maxLen at hcap; omega, h4, fun i hi => ?_⟩
    have g1 : (lstL X n)[i]? = some (.int .i64 (X i)) := by simp [lstL, hi]
    have a1 := hcell q rfl _ _ g1
    rw [show ∀ m, (⟨q, 0, none⟩ : Addr).add m = ⟨q, m, none⟩ from fun m => by unfold Addr.add; split <;> simp_all] at a1
    exact a1
theorem rls.len {w : World} {base g r : Nat} {v : Value} {n : Nat} {X : Nat → Int} (h : rls w base g r v n X) : ∃ a cap, v = .slice a n cap := own_len h.own
/-- the highest of the first k -/
def mx (X : Nat → Int) : Nat → Int
  | 0 => -1
  | k + 1 => if mx X k < X k then X k else mx X k

set_option maxHeartbeats 1000000 in
theorem rwhigh_any (base g r : Nat) (v : Value) (n : Nat) (X : Nat → Int) (w : World) (hg : rwin w r v) (ho : rls w base g r v n X) (hn : n ≤ 1000) :
    Calls Try.prog 34 #[.pointer (some ⟨r, 0, none⟩)] w fun e w' => e = .returned (.int .i64 (mx X n)) ∧ w = w' := by
  obtain ⟨av, cv, hv⟩ := ho.len
  have c0 : w.cell? ⟨r, 0, none⟩ = some v := cell_blk hg
  have HC := Lib.hid (fun hn => ho.cells hn)
  subst hv
  go_enter Try.func34, Try.ntmps34
  go_wp2_with fail
  go_loopw [3, 4] (fun sa si wr => ∃ (k : Nat) (t : Int), k ≤ n ∧ si = .int .i64 k ∧ sa = .int .i64 t ∧ Hid (t = mx X k) ∧ Hid (wr = w)) (fun _ si _ => n - (intOf si).toNat)
  case atStart => exact ⟨0, -1, by omega, rfl, rfl, Lib.hid rfl, Lib.hid rfl⟩
  case round =>
    obtain ⟨k, t, hk, rfl, rfl, ht, hw⟩ := hrel
    have c8' : wr.cell? ⟨r, 0, none⟩ = some (.slice av n cv) := by rw [hw.out]; exact c0
    by_cases hlt : k < n
    · obtain ⟨q, cap, hq, hcap, hcap2, hqw, hcells⟩ := HC.out (by omega)
      cases hq
      have ck : wr.cell? ⟨q, k, none⟩ = some (.int .i64 (X k)) := by rw [hw.out]; exact hcells k hlt
      clear hcells
      by_cases ht2 : t < X k
      · have e1 : decide (t < X k) = true := by simpa using ht2
        have hn2 : Hid (X k = mx X (k + 1)) := Lib.hid (by unfold mx; rw [if_pos (by rw [← ht.out]; exact ht2)])
        clear ht2
        go_wp2_with fail
        go_roundw
        case rel => exact ⟨k + 1, _, by omega, by go_num, rfl, hn2, hw⟩
        case measure => simp [intOf] <;> omega
      · have e1 : decide (t < X k) = false := by simpa using ht2
        have hn2 : Hid (t = mx X (k + 1)) := Lib.hid (by unfold mx; rw [if_neg (by rw [← ht.out]; exact ht2)]; exact ht.out)
        clear ht2
        go_wp2_with fail
        go_roundw
        case rel => exact ⟨k + 1, _, by omega, by go_num, rfl, hn2, hw⟩
        case measure => simp [intOf] <;> omega
    · obtain rfl : k = n := by omega
      go_wp2_with fail
      go_ret
      exact ⟨ret_int ht.out, hw.out.symm⟩
end Go.Proofs.Ytkdjkaimcciemaa
