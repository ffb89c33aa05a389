/-
  Put of package octets (lines of XOct, for other seats).
-/
import Derived.Test.YtkoplofcjbeicaaBytes
import Derived.Deep.Onto
import Derived.Test.YtkoplofcjbeicaaProg
namespace Go.Proofs.Ytkoplofcjbeicaa
open Go.RowKit
set_option linter.unusedVariables false
set_option linter.unusedSimpArgs false

def putZ (Z : Nat → Int) (len : Nat) (x : Int) (m : Nat) (i : Nat) : Int := if i < len then Z i else x / 2 ^ (8 * (m - 1 - (i - len))) % 256
theorem infoU8 : (Try.prog.info? 5).map (fun i => (i.zero, i.size, i.bytes)) = some (some (.int .u8 0), 1, 1) := by kernel_rfl
def bytesOf (Z : Nat → Int) (n : Nat) : List Value := (List.range n).map fun i => .int .u8 (Z i)
theorem bytesOf_succ (Z : Nat → Int) (n : Nat) : bytesOf Z (n + 1) = bytesOf Z n ++ [.int .u8 (Z n)] := by simp [bytesOf, List.range_succ]
theorem bytesOf_len (Z : Nat → Int) (n : Nat) : (bytesOf Z n).length = n := by simp [bytesOf]
theorem bytesOf_get {Z : Nat → Int} {n j : Nat} {u : Value} (h : (bytesOf Z n)[j]? = some u) : j < n ∧ u = .int .u8 (Z j) := by
  have hj : j < n := by have := (List.getElem?_eq_some_iff.1 h).1; simpa [bytesOf] using this
  refine ⟨hj, ?_⟩
  simp [bytesOf, hj] at h
  exact h.symm
theorem bytesOf_congr {Z Z' : Nat → Int} {n : Nat} (h : ∀ i, i < n → Z i = Z' i) : bytesOf Z n = bytesOf Z' n := by
  unfold bytesOf
  exact List.map_congr_left fun i hi => by rw [h i (List.mem_range.1 hi)]

set_option maxRecDepth 100000 in
set_option maxHeartbeats 1000000 in
theorem put_good (B : Nat) (a : Option Addr) (len cap : Nat) (Z : Nat → Int) (m : Nat) (x : Int) (w : World) (hb : BS B w a len cap Z) (hB : B ≤ w.heap.size) (hlen : len ≤ 100000) (hm1 : 1 ≤ m) (hm2 : m ≤ 8) (hx0 : 0 ≤ x) (hx1 : x ≤ 18446744073709551615) :
    Calls Try.prog 43 #[.slice a len cap, .int .i64 m, .int .u64 x] w fun e w' => ∃ v, e = .returned v ∧ w'.ownsRow w.heap.size 5 1 v (len + m) (bytesOf (putZ Z len x m) (len + m)) ∧ Below w.heap.size w w' := by
  have hle := hb.le
  have hmx := hb.max
  obtain ⟨i0, hi, hz0, hz1, hz2⟩ := info_parts infoU8
  go_enter Try.func43, Try.ntmps43
  go_wp2_with fail
  go_loopw [7, 23] (fun sv si wr => ∃ k : Nat, k ≤ m ∧ si = .int .i64 k ∧ Below w.heap.size w wr ∧ Hid ((k = 0 ∧ sv = .slice a len len) ∨ (0 < k ∧ wr.ownsRow w.heap.size 5 1 sv (len + k) (bytesOf (putZ Z len x m) (len + k))))) (fun _ si _ => m - (intOf si).toNat)
  case atStart => exact ⟨0, by omega, rfl, Below.refl _ _, .inl ⟨rfl, rfl⟩⟩
  case round =>
    obtain ⟨k, hk, rfl, hbel, hv⟩ := hrel
    by_cases hlt : k < m
    · rcases hv.out with ⟨rfl, rfl⟩ | ⟨hk0, hown⟩
      · have hbr := hb.keep (hbel.mono hB)
        have HBR := Lib.hid hbr
        clear hbr
        go_wp2_with
          (at_builtin
           refine wpList_append_grows _ rfl (.tmp 26) (.tmp 35) 22 rfl 5 i0 (.int .u8 0) 1 1 Try.underlying22 hi hz0 hz1 hz2 rfl (by decide) a len len (bytesOf Z len) rfl ?d1 ?d2 ?d3 ⟨wr.heap.size, 0, none⟩ 1 1 [.int .u8 (x / 2 ^ (8 * (m - 1)) % 256)] rfl rfl ?d4 ?d5 ?d6 ?d7 ?d8 ?_
           case d1 =>
             intro h
             rcases Nat.eq_zero_or_pos cap with h0 | h0
             · omega
             · obtain ⟨_, _, h1, _⟩ := hb.at_ h0; rw [h1] at h; cases h
           case d2 => simp [bytesOf]
           case d3 =>
             intro ad had j u hj
             obtain ⟨hjl, rfl⟩ := bytesOf_get hj
             obtain ⟨b1, o1, h1, h2, h3⟩ := HBR.out.at_ (by omega)
             rw [h1] at had
             cases had
             have h4 := h3 j hjl
             have : (⟨b1, o1, none⟩ : Addr).add j = ⟨b1, o1 + j, none⟩ := by unfold Addr.add; split <;> simp_all
             rw [this, World.cell?_alloc_past _ _ _ (by have := hbel.size; omega)]
             exact h4
           case d4 => exact cell_one_at rfl
           case d5 => exact one_cell rfl
           case d6 => omega
           case d7 => unfold maxLen; omega
           case d8 => omega)
        intro v2 w2 hown2 hgrow
        have hbel2 : Below w.heap.size w w2 := (hbel.alloc hbel.size _).grown hgrow (by have := hbel.size; first | omega | (simp; omega)) (fun k h => by cases h)
        have hown3 : w2.ownsRow w.heap.size 5 1 v2 (len + 1) (bytesOf (putZ Z len x m) (len + 1)) := by
          rw [bytesOf_succ, bytesOf_congr (Z := putZ Z len x m) (Z' := Z) (fun i hi => by unfold putZ; rw [if_pos hi])]
          have e : putZ Z len x m len = x / 2 ^ (8 * (m - 1)) % 256 := by unfold putZ; rw [if_neg (by omega), Nat.sub_self, Nat.sub_zero]
          rw [e]
          exact World.ownsRow.mono hown2 (by have := hbel.size; first | omega | (simp; omega))
        have HO := Lib.hid hown3
        clear hown2 hgrow hown3 hbel
        go_wp2_with fail
        go_roundw
        case rel => exact ⟨1, by omega, rfl, hbel2, .inr ⟨by omega, HO.out⟩⟩
        case measure => simp [intOf] <;> omega
      · have HO := Lib.hid hown
        clear hown hv
        go_wp2_with
          (at_builtin
           refine wpList_append_own _ rfl (.tmp 26) (.tmp 35) 22 rfl w.heap.size 5 i0 (.int .u8 0) 1 1 Try.underlying22 hi hz0 hz1 hz2 rfl (by decide) _ (len + k) _ rfl (HO.out.alloc _) ⟨wr.heap.size, 0, none⟩ 1 1 [.int .u8 (x / 2 ^ (8 * (m - 1 - k)) % 256)] rfl rfl ?f4 ?f5 ?f7 ?f8 ?f9 ?_
           case f4 => exact cell_one_at rfl
           case f5 => exact one_cell rfl
           case f7 => unfold maxLen; omega
           case f8 => omega
           case f9 => simp; have := hbel.size; omega)
        intro v2 w2 hown2 hgrow hnil
        clear hnil
        have hlt2 := HO.out.lt
        have hbel2 : Below w.heap.size w w2 := (hbel.alloc hbel.size _).grown hgrow (by have := hbel.size; first | omega | (simp; omega)) (fun k h => (hlt2 k h).1)
        have hown3 : w2.ownsRow w.heap.size 5 1 v2 (len + (k + 1)) (bytesOf (putZ Z len x m) (len + (k + 1))) := by
          rw [← Nat.add_assoc, bytesOf_succ]
          have e : putZ Z len x m (len + k) = x / 2 ^ (8 * (m - 1 - k)) % 256 := by unfold putZ; rw [if_neg (by omega), Nat.add_sub_cancel_left]
          rw [e]
          exact hown2
        have HO2 := Lib.hid hown3
        clear hown2 hgrow hown3 hbel HO hlt2
        go_wp2_with fail
        go_roundw
        case rel => exact ⟨k + 1, by omega, by go_num, hbel2, .inr ⟨by omega, HO2.out⟩⟩
        case measure => simp [intOf] <;> omega
    · obtain rfl : k = m := by omega
      rcases hv.out with ⟨h0, _⟩ | ⟨hk0, hown⟩
      · omega
      · have HO := Lib.hid hown
        clear hown hv
        go_wp2_with fail
        go_ret
        exact ⟨_, rfl, HO.out, hbel⟩

/-- a slice of bytes that the call owns, read -/
theorem BS.of_owns {w : World} {base n : Nat} {v : Value} {Z : Nat → Int} (h : w.ownsRow base 5 1 v n (bytesOf Z n)) (hm : ∀ i, i < n → 0 ≤ Z i ∧ Z i ≤ 255) (hn : n ≤ 1000000) : ∃ a cap, v = .slice a n cap ∧ BS w.heap.size w a n cap Z := by
  have hlt := h.lt
  have hcell := fun g => h.cells (g := g)
  obtain ⟨h1, h2⟩ := h
  rcases h2 with ⟨rfl, h0⟩ | ⟨g, cap, cur, hv, hg, hh, hn2, hcap, hsz, _⟩
  · obtain rfl : n = 0 := by omega
    exact ⟨none, 0, rfl, by omega, by omega, hm, 0, 0, by omega, by omega⟩
  · subst hv
    obtain ⟨h3, h4⟩ := hlt g rfl
    refine ⟨_, cap, rfl, by omega, by unfold maxLen at hcap; omega, hm, g, 0, fun _ => ⟨rfl, h4⟩, fun i hi => ?_⟩
    have := hcell g rfl i (.int .u8 (Z i)) (by simp [bytesOf, hi])
    unfold Addr.add at this
    by_cases h0 : i = 0
    · subst h0; simpa using this
    · simpa [h0] using this
theorem putZ_bd {Z : Nat → Int} {len m : Nat} {x : Int} (h : ∀ i, i < len → 0 ≤ Z i ∧ Z i ≤ 255) (i : Nat) (hi : i < len + m) : 0 ≤ putZ Z len x m i ∧ putZ Z len x m i ≤ 255 := by
  unfold putZ; split
  · exact h i ‹_›
  · omega

end Go.Proofs.Ytkoplofcjbeicaa
