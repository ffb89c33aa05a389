/-
  Chapter 41: units together, plain; appends and Put of many bytes.
-/
import Derived.Test.YtkoplofcjbeicaaNlF
import Derived.Test.YtkoplofcjbeicaaNlE
import Derived.Test.YtkoplofcjbeicaaNlG
import Derived.Deep.Onto
namespace Go.Proofs.Ytkoplofcjbeicaa
open Go.RowKit
set_option linter.unusedVariables false
set_option linter.unusedSimpArgs false
attribute [local irreducible] wpStill wpQuiet MixC.wpMix

set_option maxRecDepth 100000 in
set_option maxHeartbeats 1000000 in
theorem put_big (B : Nat) (a : Option Addr) (len cap : Nat) (Z : Nat → Int) (m : Nat) (x : Int) (w : World) (hb : BS B w a len cap Z) (hB : B ≤ w.heap.size) (hlen : len ≤ 4000000) (hm1 : 1 ≤ m) (hm2 : m ≤ 8) (hx0 : 0 ≤ x) (hx1 : x ≤ 18446744073709551615) :
    Calls Try.prog 43 #[.slice a len cap, .int .i64 m, .int .u64 x] w fun e w' => ∃ v, e = .returned v ∧ w'.ownsRow w.heap.size 5 1 v (len + m) (bytesOf (putZ Z len x m) (len + m)) ∧ Below w.heap.size w w' := by
  have hle := hb.le
  have hmx := hb.max
  obtain ⟨i0, hi, hz0, hz1, hz2⟩ := info_parts infoU8
  go_enter Try.func43, Try.ntmps43
  go_wp2_with fail
  go_loopw [7, 23] (fun sv si wr => ∃ k : Nat, k ≤ m ∧ si = .int .i64 k ∧ Below w.heap.size w wr ∧ Hid ((k = 0 ∧ sv = .slice a len len) ∨ (0 < k ∧ wr.ownsRow w.heap.size 5 1 sv (len + k) (bytesOf (putZ Z len x m) (len + k))))) (fun _ si _ => m - (intOf si).toNat)
  case atStart => exact ⟨0, by omega, rfl, Below.refl _ _, .inl ⟨rfl, rfl⟩⟩
  case round =>
    obtain ⟨k, hk, rfl, hbel, hv⟩ := hrel
    by_cases hlt : k < m
    · rcases hv.out with ⟨rfl, rfl⟩ | ⟨hk0, hown⟩
      · have hbr := hb.keep (hbel.mono hB)
        have HBR := Lib.hid hbr
        clear hbr
        go_wp2_with
          (at_builtin
           refine wpList_append_grows _ rfl (.tmp 26) (.tmp 35) 22 rfl 5 i0 (.int .u8 0) 1 1 Try.underlying22 hi hz0 hz1 hz2 rfl (by decide) a len len (bytesOf Z len) rfl ?d1 ?d2 ?d3 ⟨wr.heap.size, 0, none⟩ 1 1 [.int .u8 (x / 2 ^ (8 * (m - 1)) % 256)] rfl rfl ?d4 ?d5 ?d6 ?d7 ?d8 ?_
           case d1 =>
             intro h
             rcases Nat.eq_zero_or_pos cap with h0 | h0
             · omega
             · obtain ⟨_, _, h1, _⟩ := hb.at_ h0; rw [h1] at h; cases h
           case d2 => simp [bytesOf]
           case d3 =>
             intro ad had j u hj
             obtain ⟨hjl, rfl⟩ := bytesOf_get hj
             obtain ⟨b1, o1, h1, h2, h3⟩ := HBR.out.at_ (by omega)
             rw [h1] at had
             cases had
             have h4 := h3 j hjl
             have : (⟨b1, o1, none⟩ : Addr).add j = ⟨b1, o1 + j, none⟩ := by unfold Addr.add; split <;> simp_all
             rw [this, World.cell?_alloc_past _ _ _ (by have := hbel.size; omega)]
             exact h4
           case d4 => exact cell_one_at rfl
           case d5 => exact one_cell rfl
           case d6 => omega
           case d7 => unfold maxLen; omega
           case d8 => omega)
        intro v2 w2 hown2 hgrow
        have hbel2 : Below w.heap.size w w2 := (hbel.alloc hbel.size _).grown hgrow (by have := hbel.size; first | omega | (simp; omega)) (fun k h => by cases h)
        have hown3 : w2.ownsRow w.heap.size 5 1 v2 (len + 1) (bytesOf (putZ Z len x m) (len + 1)) := by
          rw [bytesOf_succ, bytesOf_congr (Z := putZ Z len x m) (Z' := Z) (fun i hi => by unfold putZ; rw [if_pos hi])]
          have e : putZ Z len x m len = x / 2 ^ (8 * (m - 1)) % 256 := by unfold putZ; rw [if_neg (by omega), Nat.sub_self, Nat.sub_zero]
          rw [e]
          exact World.ownsRow.mono hown2 (by have := hbel.size; first | omega | (simp; omega))
        have HO := Lib.hid hown3
        clear hown2 hgrow hown3 hbel
        go_wp2_with fail
        go_roundw
        case rel => exact ⟨1, by omega, rfl, hbel2, .inr ⟨by omega, HO.out⟩⟩
        case measure => simp [intOf] <;> omega
      · have HO := Lib.hid hown
        clear hown hv
        go_wp2_with
          (at_builtin
           refine wpList_append_own _ rfl (.tmp 26) (.tmp 35) 22 rfl w.heap.size 5 i0 (.int .u8 0) 1 1 Try.underlying22 hi hz0 hz1 hz2 rfl (by decide) _ (len + k) _ rfl (HO.out.alloc _) ⟨wr.heap.size, 0, none⟩ 1 1 [.int .u8 (x / 2 ^ (8 * (m - 1 - k)) % 256)] rfl rfl ?f4 ?f5 ?f7 ?f8 ?f9 ?_
           case f4 => exact cell_one_at rfl
           case f5 => exact one_cell rfl
           case f7 => unfold maxLen; omega
           case f8 => omega
           case f9 => simp; have := hbel.size; omega)
        intro v2 w2 hown2 hgrow hnil
        clear hnil
        have hlt2 := HO.out.lt
        have hbel2 : Below w.heap.size w w2 := (hbel.alloc hbel.size _).grown hgrow (by have := hbel.size; first | omega | (simp; omega)) (fun k h => (hlt2 k h).1)
        have hown3 : w2.ownsRow w.heap.size 5 1 v2 (len + (k + 1)) (bytesOf (putZ Z len x m) (len + (k + 1))) := by
          rw [← Nat.add_assoc, bytesOf_succ]
          have e : putZ Z len x m (len + k) = x / 2 ^ (8 * (m - 1 - k)) % 256 := by unfold putZ; rw [if_neg (by omega), Nat.add_sub_cancel_left]
          rw [e]
          exact hown2
        have HO2 := Lib.hid hown3
        clear hown2 hgrow hown3 hbel HO hlt2
        go_wp2_with fail
        go_roundw
        case rel => exact ⟨k + 1, by omega, by go_num, hbel2, .inr ⟨by omega, HO2.out⟩⟩
        case measure => simp [intOf] <;> omega
    · obtain rfl : k = m := by omega
      rcases hv.out with ⟨h0, _⟩ | ⟨hk0, hown⟩
      · omega
      · have HO := Lib.hid hown
        clear hown hv
        go_wp2_with fail
        go_ret
        exact ⟨_, rfl, HO.out, hbel⟩


theorem bs_own {w : World} {G : Nat} {a : Option Addr} {n c : Nat} {L : List Int} (h : w.ownsRow G 5 1 (.slice a n c) n (u8s L)) (hO : Oct L) : n = L.length ∧ BS w.heap.size w a n c (gz L) := by
  have hl : n = L.length := by have := h.1; rw [u8s_len] at this; omega
  obtain ⟨c1, c2⟩ := own_cap h
  refine ⟨hl, c1, c2, fun i _ => hO.gz i, ?_⟩
  have h2 := h.2
  rcases h2 with ⟨hv, h0⟩ | ⟨g, cap, cur, hv, hg, hh, _⟩
  · cases hv; exact ⟨0, 0, fun h => by omega, fun i hi => by omega⟩
  · cases hv
    refine ⟨g, 0, fun _ => ⟨rfl, lt_of_block hh⟩, fun i hi => ?_⟩
    rw [Nat.zero_add]
    refine own_cell h ?_
    rw [u8s_bytes, ← hl]
    unfold bytesOf
    rw [List.getElem?_map, List.getElem?_range hi]; rfl
theorem put_lb (a : Option Addr) (n cap : Nat) (L : List Int) (B m : Nat) (x : Int) (M : List Int) (w : World) (ho : w.ownsRow B 5 1 (.slice a n cap) n (u8s L)) (hO : Oct L) (hn : n ≤ 4000000) (hm1 : 1 ≤ m) (hm2 : m ≤ 8) (hx0 : 0 ≤ x) (hx1 : x ≤ 18446744073709551615) (hM : putL x m = M) :
    Calls Try.prog 43 #[.slice a n cap, .int .i64 m, .int .u64 x] w fun e w' => ∃ a' c', e = .returned (.slice a' (n + m) c') ∧ w'.ownsRow w.heap.size 5 1 (.slice a' (n + m) c') (n + m) (u8s (L ++ M)) ∧ Below w.heap.size w w' := by
  subst hM
  obtain ⟨hl, hb⟩ := bs_own ho hO
  refine (put_big _ a n cap (gz L) m x w hb (Nat.le_refl _) hn hm1 hm2 hx0 hx1).mono ?_
  rintro e w' ⟨v, rfl, o, b⟩
  obtain ⟨a', c', rfl⟩ := own_len o
  refine ⟨a', c', rfl, ?_, b⟩
  rw [u8s_app, u8s_bytes L, ← hl, ← bytesOf_put]
  exact o
/-- many bytes behind many -/
theorem app_big {w : World} {G : Nat} {a : Option Addr} {n c : Nat} {L : List Int} (h : w.ownsRow G 5 1 (.slice a n c) n (u8s L)) {B : Nat} {ax : Option Addr} {m cx : Nat} {Z : Nat → Int} (hb : BS B w ax m cx Z) (hn : n + m ≤ 9000000) (hG : G ≤ w.heap.size) :
    ∃ a' c' W, (∀ ty, (Builtin.append_ #[22, 22] ty #[.slice a n c, .slice ax m cx]).run Try.prog w = .ok (.slice a' (n + m) c') W) ∧ W.ownsRow G 5 1 (.slice a' (n + m) c') (n + m) (u8s (L ++ zs Z m)) ∧ Below G w W := by
  obtain ⟨under, i, z, hi, hz, hs, hby, hzs, h0⟩ := elU8n
  obtain ⟨a', c', W, r, o, b, nb⟩ := run_app (P := Try.prog) (w := w) (t := 22) under hi hz hs hby hzs h0 h ax m cx (u8s (zs Z m)) hb.nils (by rw [u8s_len, zs_len, Nat.mul_one]) hb.news' (u8s_one _) (by unfold maxLen; omega) (by omega) hG
  exact ⟨a', c', W, r, by rw [u8s_app]; exact o, b.below hG (fun k hk => (h.lt k hk).1)⟩

/-! ### Plain -/
/-- a unit and its length -/
def eL (s : Sl) : List Int := [(s.n : Int) / 256, (s.n : Int) % 256] ++ s.l
def bdL (U : Nat → Sl) : Nat → List Int
  | 0 => []
  | k + 1 => bdL U k ++ eL (U k)
def tp (U : Nat → Sl) : Nat → Int
  | 0 => 0
  | k + 1 => if tp U k < (U k).Z 0 / 32 then (U k).Z 0 / 32 else tp U k
def okU (s : Sl) : Prop := isU s.Z s.n ∧ s.n ≤ 65535
theorem eL_len (s : Sl) : (eL s).length = 2 + s.n := by unfold eL; rw [List.length_append, Sl.l_len]; rfl
theorem bdL_succ (U : Nat → Sl) (k : Nat) : bdL U (k + 1) = bdL U k ++ eL (U k) := rfl
theorem bdL_len (U : Nat → Sl) (k : Nat) : (bdL U (k + 1)).length = (bdL U k).length + (2 + (U k).n) := by rw [bdL_succ, List.length_append, eL_len]
theorem bdL_le {U : Nat → Sl} {k : Nat} (h : ∀ i, i < k → (U i).n ≤ 65535) : (bdL U k).length ≤ 65537 * k := by
  induction k with
  | zero => exact Nat.le_refl _
  | succ k ih =>
    have h1 := ih (fun i hi => h i (by omega))
    have h2 := h k (by omega)
    rw [bdL_len]; omega
theorem bdL_mono {U : Nat → Sl} {i K : Nat} (h : i ≤ K) : (bdL U i).length ≤ (bdL U K).length := by
  induction K with
  | zero => have : i = 0 := by omega
            subst this; exact Nat.le_refl _
  | succ K ih =>
    by_cases e : i = K + 1
    · subst e; exact Nat.le_refl _
    · have := ih (by omega); rw [bdL_len]; omega
theorem bdL_get {U : Nat → Sl} {i K : Nat} (h : i < K) {j : Nat} {u : Int} (hu : (eL (U i))[j]? = some u) : (bdL U K)[(bdL U i).length + j]? = some u := by
  induction K with
  | zero => omega
  | succ K ih =>
    rw [bdL_succ]
    by_cases e : i = K
    · subst e
      rw [List.getElem?_append_right (by omega), Nat.add_sub_cancel_left]
      exact hu
    · have h2 := ih (by omega)
      rw [List.getElem?_append_left (List.getElem?_eq_some_iff.1 h2).1]; exact h2
theorem tp_bd {U : Nat → Sl} {k : Nat} (h : ∀ i, i < k → 0 ≤ (U i).Z 0 ∧ (U i).Z 0 ≤ 255) : 0 ≤ tp U k ∧ tp U k ≤ 7 := by
  induction k with
  | zero => exact ⟨Int.le_refl _, by show (0 : Int) ≤ 7; omega⟩
  | succ k ih =>
    have h1 := ih (fun i hi => h i (by omega))
    have h2 := h k (by omega)
    unfold tp; split <;> omega
/-- all bytes -/
def tgL (U : Nat → Sl) (K : Nat) : List Int := [tp U K * 32 + 24] ++ bdL U K
theorem eL_oct {B : Nat} {w : World} {s : Sl} (h : BS B w s.a s.n s.c s.Z) (hn : s.n ≤ 65535) : Oct (eL s) := by
  refine Oct.app (fun x hx => ?_) (zs_oct h)
  simp only [List.mem_cons, List.not_mem_nil, or_false] at hx
  rcases hx with rfl | rfl <;> omega
theorem nb24 : ∀ t ∈ List.range 8, bits .or .u8 (((t : Nat) : Int) * 32) 24 = (t : Int) * 32 + 24 := by decide +kernel
theorem or24 (t : Int) (h : 0 ≤ t ∧ t ≤ 7) : bits .or .u8 (t * 32) 24 = t * 32 + 24 := by
  obtain ⟨n, rfl⟩ := Int.eq_ofNat_of_zero_le h.1
  exact nb24 n (List.mem_range.2 (by omega))
def TgPost (U : Nat → Sl) (K : Nat) (r : Value) (w : World) (e : Ending) (w' : World) : Prop :=
  ∃ a N c, e = .returned (.tuple #[.slice a N c, r]) ∧ N = (tgL U K).length ∧ w'.ownsRow w.heap.size 5 1 (.slice a N c) N (u8s (tgL U K)) ∧ Oct (tgL U K) ∧ Below w.heap.size w w'
theorem putL2n (x : Int) (h0 : 0 ≤ x) (h1 : x ≤ 65535) : putL x 2 = [x / 256, x % 256] := by
  show [x / 2 ^ 8 % 256, x / 2 ^ 0 % 256] = _
  rw [Int.pow_zero, Int.ediv_one, show x / 2 ^ 8 % 256 = x / 256 by show x / 256 % 256 = _; omega]
end Go.Proofs.Ytkoplofcjbeicaa
