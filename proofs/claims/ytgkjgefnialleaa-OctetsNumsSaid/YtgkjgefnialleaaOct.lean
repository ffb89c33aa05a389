/-
  Contracts of package octets.
-/
import Derived.Test.YtgkjgefnialleaaBytes
import Derived.Deep.Onto
import Derived.Test.YtgkjgefnialleaaProg
namespace Go.Proofs.Ytgkjgefnialleaa
open Go.RowKit
set_option linter.unusedVariables false
set_option linter.unusedSimpArgs false

/-- the number that k bytes from s on are -/
def numv (Z : Nat → Int) (s : Nat) : Nat → Int
  | 0 => 0
  | k + 1 => numv Z s k * 256 + Z (s + k)
theorem numv_bd (Z : Nat → Int) (s k : Nat) (h : ∀ i, i < k → 0 ≤ Z (s + i) ∧ Z (s + i) ≤ 255) : 0 ≤ numv Z s k ∧ numv Z s k < 256 ^ k := by
  induction k with
  | zero => simp [numv]
  | succ k ih =>
    have := ih (fun i hi => h i (by omega))
    have hk := h k (by omega)
    rw [numv, Int.pow_succ]
    omega
theorem pow7 : ∀ k, k < 8 → (256 : Int) ^ k ≤ 72057594037927936 := by decide
/-- are n bytes there? -/
def there (len : Nat) (at' n : Int) : Bool := decide (1 ≤ n) && decide (n ≤ 8) && decide (0 ≤ at') && decide (at' ≤ len) && decide (n ≤ len - at')
def numOr (Z : Nat → Int) (len : Nat) (at' n : Int) : Int := if there len at' n then numv Z at'.toNat n.toNat else 0
theorem there_iff (len : Nat) (at' n : Int) : there len at' n = true ↔ 1 ≤ n ∧ n ≤ 8 ∧ 0 ≤ at' ∧ at' ≤ len ∧ n ≤ len - at' := by simp [there, and_assoc]

theorem or_low (x c : Int) (hx : 0 ≤ x) (hx2 : x < 72057594037927936) (hc : 0 ≤ c ∧ c ≤ 255) : bits BinOp.or IntKind.u64 (x * 256) c = x * 256 + c := by
  obtain ⟨x, rfl⟩ := Int.eq_ofNat_of_zero_le hx
  obtain ⟨c, rfl⟩ := Int.eq_ofNat_of_zero_le hc.1
  have h := bits_or_u64_nat (x * 256) c (by omega) (by omega)
  rw [show ((x : Int) * 256) = ((x * 256 : Nat) : Int) by omega, h]
  have := Nat.shiftLeft_add_eq_or_of_lt (show c < 2 ^ 8 by omega) x
  rw [Nat.shiftLeft_eq, show (2 : Nat) ^ 8 = 256 by decide] at this
  rw [← this]
  omega

theorem num_any (B : Nat) (a : Option Addr) (len cap : Nat) (Z : Nat → Int) (at' n : Int) (w : World) (hb : BS B w a len cap Z) (ha0 : -9223372036854775808 ≤ at') (ha1 : at' ≤ 9223372036854775807) (hn0 : -9223372036854775808 ≤ n) (hn1 : n ≤ 9223372036854775807) :
    Calls Try.prog 34 #[.slice a len cap, .int .i64 at', .int .i64 n] w fun e w' => e = .returned (.tuple #[.int .u64 (numOr Z len at' n), .bool (there len at' n)]) ∧ w = w' := by
  have hle := hb.le
  have hmx := hb.max
  by_cases ht : 1 ≤ n ∧ n ≤ 8 ∧ 0 ≤ at' ∧ at' ≤ len ∧ n ≤ len - at'
  · have e1 : there len at' n = true := (there_iff _ _ _).2 ht
    have e2 : numOr Z len at' n = numv Z at'.toNat n.toNat := by unfold numOr; rw [if_pos e1]
    rw [e1, e2]
    obtain ⟨t1, t2, t3, t4, t5⟩ := ht
    obtain ⟨b, off, rfl, hbB, hc⟩ := hb.at_ (by omega)
    obtain ⟨s, rfl⟩ := Int.eq_ofNat_of_zero_le t3
    obtain ⟨m, rfl⟩ := Int.eq_ofNat_of_zero_le (show 0 ≤ n by omega)
    have hbd := hb.bd
    have HC := Lib.hid hc
    have HB := Lib.hid hbd
    clear hb e1 e2 hc hbd
    rw [Int.toNat_natCast, Int.toNat_natCast]
    go_enter Try.func34, Try.ntmps34
    go_wp2_with fail
    go_loop [8, 42] (fun sx si => ∃ (k : Nat) (x : Int), k ≤ m ∧ si = .int .i64 k ∧ sx = .int .u64 x ∧ Hid (x = numv Z s k)) (fun _ si => m - (intOf si).toNat)
    case atStart => exact ⟨0, 0, by omega, rfl, rfl, rfl⟩
    case round =>
      obtain ⟨k, x, hk, rfl, rfl, hx⟩ := hrel
      by_cases hlt : k < m
      · have hcell := HC.out (s + k) (by omega)
        rw [← Nat.add_assoc] at hcell
        have hzb := HB.out (s + k) (by omega)
        have hnb := numv_bd Z s k (fun i hi => HB.out (s + i) (by omega))
        rw [← hx.out] at hnb
        have hp := pow7 k (by omega)
        have hx0 : 0 ≤ x := hnb.1
        have hx1 : x < 72057594037927936 := by have := hnb.2; omega
        clear hnb hp
        have hor := or_low x (Z (s + k)) hx0 hx1 hzb
        go_wp2_with fail
        go_round
        case rel => exact ⟨k + 1, x * 256 + Z (s + k), by omega, by go_num, rfl, by show _ = _; rw [hx.out]; rfl⟩
        case measure => simp [intOf] <;> omega
      · obtain rfl : k = m := by omega
        go_wp2_with fail
        go_ret2
        exact ⟨by rw [hx.out]; rfl, rfl⟩
  · have e1 : there len at' n = false := by rw [← Bool.not_eq_true, there_iff]; exact ht
    have e2 : numOr Z len at' n = 0 := by unfold numOr; rw [e1]; rfl
    rw [e1, e2]
    clear hb e1 e2
    by_cases c1 : n < 1
    · go_enter Try.func34, Try.ntmps34
      go_wp2_with fail
      go_ret2
      exact ⟨rfl, rfl⟩
    by_cases c2 : 8 < n
    · go_enter Try.func34, Try.ntmps34
      go_wp2_with fail
      go_ret2
      exact ⟨rfl, rfl⟩
    by_cases c3 : at' < 0
    · go_enter Try.func34, Try.ntmps34
      go_wp2_with fail
      go_ret2
      exact ⟨rfl, rfl⟩
    by_cases c4 : len < at'
    · go_enter Try.func34, Try.ntmps34
      go_wp2_with fail
      go_ret2
      exact ⟨rfl, rfl⟩
    have c5 : (len : Int) - at' < n := by omega
    clear ht
    go_enter Try.func34, Try.ntmps34
    go_wp2_with fail
    go_ret2
    exact ⟨rfl, rfl⟩

theorem there_any (a : Option Addr) (len cap : Nat) (at' n : Int) (w : World) (hm : len ≤ 9223372036854775807) (ha0 : -9223372036854775808 ≤ at') (ha1 : at' ≤ 9223372036854775807) (hn0 : -9223372036854775808 ≤ n) (hn1 : n ≤ 9223372036854775807) :
    Calls Try.prog 35 #[.slice a len cap, .int .i64 at', .int .i64 n] w fun e w' => e = .returned (.bool (there len at' n)) ∧ w = w' := by
  by_cases c1 : 1 ≤ n
  · by_cases c2 : n ≤ 8
    · by_cases c3 : 0 ≤ at'
      · by_cases c4 : at' ≤ len
        · go_enter Try.func35, Try.ntmps35
          go_wp2_with fail
          all_goals
            go_ret
            exact ⟨ret_bool (by simp [there, c1, c2, c3, c4]), rfl⟩
        · go_enter Try.func35, Try.ntmps35
          go_wp2_with fail
          go_ret
          exact ⟨ret_bool (by simp [there]; omega), rfl⟩
      · go_enter Try.func35, Try.ntmps35
        go_wp2_with fail
        go_ret
        exact ⟨ret_bool (by simp [there]; omega), rfl⟩
    · go_enter Try.func35, Try.ntmps35
      go_wp2_with fail
      go_ret
      exact ⟨ret_bool (by simp [there]; omega), rfl⟩
  · go_enter Try.func35, Try.ntmps35
    go_wp2_with fail
    go_ret
    exact ⟨ret_bool (by simp [there]; omega), rfl⟩

theorem numv_head (Z : Nat → Int) (s k : Nat) : numv Z s (k + 1) = Z s * 256 ^ k + numv Z (s + 1) k := by
  induction k with
  | zero => simp [numv]
  | succ k ih =>
    rw [numv, ih, numv, Int.pow_succ, show s + 1 + k = s + (k + 1) by omega, Int.add_mul, Int.mul_assoc]
    omega

theorem put_bad (B : Nat) (a : Option Addr) (len cap : Nat) (Z : Nat → Int) (n x : Int) (w : World) (hb : BS B w a len cap Z) (hn : n < 1 ∨ 8 < n) :
    Calls Try.prog 37 #[.slice a len cap, .int .i64 n, .int .u64 x] w fun e w' => (∃ a', e = .returned (.slice a' len len) ∧ BS B w a' len len Z) ∧ w = w' := by
  have hle := hb.le
  have hmx := hb.max
  have hc := hb.cut (Nat.le_refl len) (Nat.le_refl len) hle
  rcases hn with hn | hn
  · go_enter Try.func37, Try.ntmps37
    go_wp2_with fail
    go_ret
    exact ⟨⟨_, rfl, hc⟩, rfl⟩
  · have h1 : ¬ n < 1 := by omega
    go_enter Try.func37, Try.ntmps37
    go_wp2_with fail
    go_ret
    exact ⟨⟨_, rfl, hc⟩, rfl⟩

/-- bytes with a number behind them -/
def putZ (Z : Nat → Int) (len : Nat) (x : Int) (m : Nat) (i : Nat) : Int := if i < len then Z i else x / 2 ^ (8 * (m - 1 - (i - len))) % 256
theorem infoU8 : (Try.prog.info? 5).map (fun i => (i.zero, i.size, i.bytes)) = some (some (.int .u8 0), 1, 1) := by kernel_rfl
def bytesOf (Z : Nat → Int) (n : Nat) : List Value := (List.range n).map fun i => .int .u8 (Z i)
theorem bytesOf_succ (Z : Nat → Int) (n : Nat) : bytesOf Z (n + 1) = bytesOf Z n ++ [.int .u8 (Z n)] := by simp [bytesOf, List.range_succ]
theorem bytesOf_len (Z : Nat → Int) (n : Nat) : (bytesOf Z n).length = n := by simp [bytesOf]
theorem bytesOf_get {Z : Nat → Int} {n j : Nat} {u : Value} (h : (bytesOf Z n)[j]? = some u) : j < n ∧ u = .int .u8 (Z j) := by
  have hj : j < n := by have := (List.getElem?_eq_some_iff.1 h).1; simpa [bytesOf] using this
  refine ⟨hj, ?_⟩
  simp [bytesOf, hj] at h
  exact h.symm
theorem bytesOf_congr {Z Z' : Nat → Int} {n : Nat} (h : ∀ i, i < n → Z i = Z' i) : bytesOf Z n = bytesOf Z' n := by
  unfold bytesOf
  exact List.map_congr_left fun i hi => by rw [h i (List.mem_range.1 hi)]

set_option maxHeartbeats 1000000 in
theorem put_good (B : Nat) (a : Option Addr) (len cap : Nat) (Z : Nat → Int) (m : Nat) (x : Int) (w : World) (hb : BS B w a len cap Z) (hB : B ≤ w.heap.size) (hlen : len ≤ 100000) (hm1 : 1 ≤ m) (hm2 : m ≤ 8) (hx0 : 0 ≤ x) (hx1 : x ≤ 18446744073709551615) :
    Calls Try.prog 37 #[.slice a len cap, .int .i64 m, .int .u64 x] w fun e w' => ∃ v, e = .returned v ∧ w'.ownsRow w.heap.size 5 1 v (len + m) (bytesOf (putZ Z len x m) (len + m)) ∧ Below w.heap.size w w' := by
  have hle := hb.le
  have hmx := hb.max
  obtain ⟨i0, hi, hz0, hz1, hz2⟩ := info_parts infoU8
  go_enter Try.func37, Try.ntmps37
  go_wp2_with fail
  go_loopw [7, 23] (fun sv si wr => ∃ k : Nat, k ≤ m ∧ si = .int .i64 k ∧ Below w.heap.size w wr ∧ Hid ((k = 0 ∧ sv = .slice a len len) ∨ (0 < k ∧ wr.ownsRow w.heap.size 5 1 sv (len + k) (bytesOf (putZ Z len x m) (len + k))))) (fun _ si _ => m - (intOf si).toNat)
  case atStart => exact ⟨0, by omega, rfl, Below.refl _ _, .inl ⟨rfl, rfl⟩⟩
  case round =>
    obtain ⟨k, hk, rfl, hbel, hv⟩ := hrel
    by_cases hlt : k < m
    · rcases hv.out with ⟨rfl, rfl⟩ | ⟨hk0, hown⟩
      · have hbr := hb.keep (hbel.mono hB)
        have HBR := Lib.hid hbr
        clear hbr
        go_wp2_with
          (at_builtin
           refine wpList_append_grows _ rfl (.tmp 26) (.tmp 35) 48 rfl 5 i0 (.int .u8 0) 1 1 Try.underlying48 hi hz0 hz1 hz2 rfl (by decide) a len len (bytesOf Z len) rfl ?d1 ?d2 ?d3 ⟨wr.heap.size, 0, none⟩ 1 1 [.int .u8 (x / 2 ^ (8 * (m - 1)) % 256)] rfl rfl ?d4 ?d5 ?d6 ?d7 ?d8 ?_
           case d1 =>
             intro h
             rcases Nat.eq_zero_or_pos cap with h0 | h0
             · omega
             · obtain ⟨_, _, h1, _⟩ := hb.at_ h0; rw [h1] at h; cases h
           case d2 => simp [bytesOf]
           case d3 =>
             intro ad had j u hj
             obtain ⟨hjl, rfl⟩ := bytesOf_get hj
             obtain ⟨b1, o1, h1, h2, h3⟩ := HBR.out.at_ (by omega)
             rw [h1] at had
             cases had
             have h4 := h3 j hjl
             have : (⟨b1, o1, none⟩ : Addr).add j = ⟨b1, o1 + j, none⟩ := by unfold Addr.add; split <;> simp_all
             rw [this, World.cell?_alloc_past _ _ _ (by have := hbel.size; omega)]
             exact h4
           case d4 => exact cell_one_at rfl
           case d5 => exact one_cell rfl
           case d6 => omega
           case d7 => unfold maxLen; omega
           case d8 => omega)
        intro v2 w2 hown2 hgrow
        have hbel2 : Below w.heap.size w w2 := (hbel.alloc hbel.size _).grown hgrow (by have := hbel.size; first | omega | (simp; omega)) (fun k h => by cases h)
        have hown3 : w2.ownsRow w.heap.size 5 1 v2 (len + 1) (bytesOf (putZ Z len x m) (len + 1)) := by
          rw [bytesOf_succ, bytesOf_congr (Z := putZ Z len x m) (Z' := Z) (fun i hi => by unfold putZ; rw [if_pos hi])]
          have e : putZ Z len x m len = x / 2 ^ (8 * (m - 1)) % 256 := by unfold putZ; rw [if_neg (by omega), Nat.sub_self, Nat.sub_zero]
          rw [e]
          exact World.ownsRow.mono hown2 (by have := hbel.size; first | omega | (simp; omega))
        have HO := Lib.hid hown3
        clear hown2 hgrow hown3 hbel
        go_wp2_with fail
        go_roundw
        case rel => exact ⟨1, by omega, rfl, hbel2, .inr ⟨by omega, HO.out⟩⟩
        case measure => simp [intOf] <;> omega
      · have HO := Lib.hid hown
        clear hown hv
        go_wp2_with
          (at_builtin
           refine wpList_append_own _ rfl (.tmp 26) (.tmp 35) 48 rfl w.heap.size 5 i0 (.int .u8 0) 1 1 Try.underlying48 hi hz0 hz1 hz2 rfl (by decide) _ (len + k) _ rfl (HO.out.alloc _) ⟨wr.heap.size, 0, none⟩ 1 1 [.int .u8 (x / 2 ^ (8 * (m - 1 - k)) % 256)] rfl rfl ?f4 ?f5 ?f7 ?f8 ?f9 ?_
           case f4 => exact cell_one_at rfl
           case f5 => exact one_cell rfl
           case f7 => unfold maxLen; omega
           case f8 => omega
           case f9 => simp; have := hbel.size; omega)
        intro v2 w2 hown2 hgrow hnil
        clear hnil
        have hlt2 := HO.out.lt
        have hbel2 : Below w.heap.size w w2 := (hbel.alloc hbel.size _).grown hgrow (by have := hbel.size; first | omega | (simp; omega)) (fun k h => (hlt2 k h).1)
        have hown3 : w2.ownsRow w.heap.size 5 1 v2 (len + (k + 1)) (bytesOf (putZ Z len x m) (len + (k + 1))) := by
          rw [← Nat.add_assoc, bytesOf_succ]
          have e : putZ Z len x m (len + k) = x / 2 ^ (8 * (m - 1 - k)) % 256 := by unfold putZ; rw [if_neg (by omega), Nat.add_sub_cancel_left]
          rw [e]
          exact hown2
        have HO2 := Lib.hid hown3
        clear hown2 hgrow hown3 hbel HO hlt2
        go_wp2_with fail
        go_roundw
        case rel => exact ⟨k + 1, by omega, by go_num, hbel2, .inr ⟨by omega, HO2.out⟩⟩
        case measure => simp [intOf] <;> omega
    · obtain rfl : k = m := by omega
      rcases hv.out with ⟨h0, _⟩ | ⟨hk0, hown⟩
      · omega
      · have HO := Lib.hid hown
        clear hown hv
        go_wp2_with fail
        go_ret
        exact ⟨_, rfl, HO.out, hbel⟩

/-- a slice of bytes that the call owns, read -/
theorem BS.of_owns {w : World} {base n : Nat} {v : Value} {Z : Nat → Int} (h : w.ownsRow base 5 1 v n (bytesOf Z n)) (hm : ∀ i, i < n → 0 ≤ Z i ∧ Z i ≤ 255) (hn : n ≤ 1000000) : ∃ a cap, v = .slice a n cap ∧ BS w.heap.size w a n cap Z := by
  have hlt := h.lt
  have hcell := fun g => h.cells (g := g)
  obtain ⟨h1, h2⟩ := h
  rcases h2 with ⟨rfl, h0⟩ | ⟨g, cap, cur, hv, hg, hh, hn2, hcap, hsz, _⟩
  · obtain rfl : n = 0 := by omega
    exact ⟨none, 0, rfl, by omega, by omega, hm, 0, 0, by omega, by omega⟩
  · subst hv
    obtain ⟨h3, h4⟩ := hlt g rfl
    refine ⟨_, cap, rfl, by omega, by unfold maxLen at hcap; omega, hm, g, 0, fun _ => ⟨rfl, h4⟩, fun i hi => ?_⟩
    have := hcell g rfl i (.int .u8 (Z i)) (by simp [bytesOf, hi])
    unfold Addr.add at this
    by_cases h0 : i = 0
    · subst h0; simpa using this
    · simpa [h0] using this
theorem putZ_bd {Z : Nat → Int} {len m : Nat} {x : Int} (h : ∀ i, i < len → 0 ≤ Z i ∧ Z i ≤ 255) (i : Nat) (hi : i < len + m) : 0 ≤ putZ Z len x m i ∧ putZ Z len x m i ≤ 255 := by
  unfold putZ; split
  · exact h i ‹_›
  · omega

theorem sat_any (a b : Int) (w : World) (a0 : 0 ≤ a) (a1 : a ≤ 18446744073709551615) (b0 : 0 ≤ b) (b1 : b ≤ 18446744073709551615) :
    Calls Try.prog 40 #[.int .u64 a, .int .u64 b] w fun e w' => e = .returned (.int .u64 (if a + b > 18446744073709551615 then 18446744073709551615 else a + b)) ∧ w = w' := by
  by_cases h : a + b > 18446744073709551615
  · rw [if_pos h]
    go_enter Try.func40, Try.ntmps40
    go_wp2_with fail
    go_ret
    exact ⟨rfl, rfl⟩
  · rw [if_neg h]
    go_enter Try.func40, Try.ntmps40
    go_wp2_with fail
    go_ret
    exact ⟨rfl, rfl⟩

theorem alive01_any (w : World) : Calls Try.prog 33 #[] w fun e w' => e = .returned (.bool true) ∧ Below w.heap.size w w' := by
  have h1 : BS (w.heap.size + 1) (w.alloc (.cells #[.int .u8 1, .int .u8 2, .int .u8 3] 5)) (some ⟨w.heap.size, 0, none⟩) 3 3 (fun i => i + 1) := by
    refine ⟨by omega, by omega, fun i hi => by omega, w.heap.size, 0, fun _ => ⟨rfl, by omega⟩, fun i hi => ?_⟩
    have : i = 0 ∨ i = 1 ∨ i = 2 := by omega
    rcases this with rfl | rfl | rfl <;> simp
  have e1 : there 3 1 2 = true := by decide
  have e2 : numOr (fun i => (i : Int) + 1) 3 1 2 = 515 := by decide
  go_enter Try.func33, Try.ntmps33
  go_wp2_with fail
  refine (num_any _ _ 3 3 _ 1 2 _ h1 (by omega) (by omega) (by omega) (by omega)).mono ?_
  rintro e w1 ⟨rfl, rfl⟩
  rw [e1, e2]
  go_wp2_with fail
  refine (put_good 0 none 0 0 (fun _ => 0) 2 258 _ ⟨by omega, by omega, by omega, 0, 0, by omega, by omega⟩ (by omega) (by omega) (by omega) (by omega) (by omega) (by omega)).mono ?_
  rintro e w2 ⟨v, rfl, hown, hbel⟩
  obtain ⟨a2, cap2, rfl, hbs⟩ := BS.of_owns hown (fun i hi => putZ_bd (by omega) i hi) (by omega)
  have hconv := run_conv_BS hbs Try.underlying48 Try.underlying5 (dst := 9) Try.underlying9
  have e3 : strOf (putZ (fun _ => 0) 0 258 2) 2 = ⟨#[1, 2]⟩ := by decide
  rw [show 0 + 2 = 2 by omega, e3] at hconv
  rw [show 0 + 2 = 2 by omega] at *
  have hB : Below w.heap.size w w2 := (show Below w.heap.size w (w.alloc _) by (repeat (first | exact Below.refl _ _ | refine Below.alloc ?_ (by first | (simp; done) | (simp; omega) | (simp [size_drewN]; done) | (simp [size_drewN]; omega)) _ | refine Below.drew ?_ | refine below_drewN0 ?_ _ | refine Below.setCell ?_ (by first | (simp; done) | (simp; omega) | (simp [size_drewN]; done) | (simp [size_drewN]; omega)) _))).trans (hbel.mono (by simp))
  clear hbs hown h1 hbel
  go_wp2_with (go_at_call 40; refine (sat_any _ _ _ (by omega) (by omega) (by omega) (by omega)).mono ?_; rintro e w' ⟨rfl, rfl⟩)
  go_ret
  exact ⟨rfl, hB⟩
end Go.Proofs.Ytgkjgefnialleaa
