/-
  The references of chapter 01, and the walks of OctetsOthers and OctetsNums.
-/
import Derived.Test.YtgkjgefnialleaaOctLaws
namespace Go.Proofs.Ytgkjgefnialleaa
open Go.RowKit
set_option linter.unusedVariables false
set_option linter.unusedSimpArgs false

theorem rsat_any (a b : Int) (w : World) (a0 : 0 ≤ a) (a1 : a ≤ 18446744073709551615) (b0 : 0 ≤ b) (b1 : b ≤ 18446744073709551615) :
    Calls Try.prog 41 #[.int .u64 a, .int .u64 b] w fun e w' => e = .returned (.int .u64 (if a + b > 18446744073709551615 then 18446744073709551615 else a + b)) ∧ w = w' := by
  have hw : IntKind.u64.wrap (a + b) = if a + b > 18446744073709551615 then a + b - 18446744073709551615 - 1 else a + b := by rw [IntKind.wrap_u64]; split <;> omega
  by_cases h : a + b > 18446744073709551615
  · rw [if_pos h] at hw ⊢
    go_enter Try.func41, Try.ntmps41
    go_wp2_with fail
    go_ret
    exact ⟨rfl, rfl⟩
  · rw [if_neg h]
    clear hw
    go_enter Try.func41, Try.ntmps41
    go_wp2_with fail
    go_ret
    exact ⟨rfl, rfl⟩

theorem diff_bits (d x y : Int) (hd : 0 ≤ d ∧ d ≤ 255) (hx : 0 ≤ x ∧ x ≤ 255) (hy : 0 ≤ y ∧ y ≤ 255) :
    ∃ r, bits BinOp.or IntKind.u8 d (bits BinOp.xor IntKind.u8 x y) = r ∧ 0 ≤ r ∧ r ≤ 255 ∧ (r = 0 ↔ d = 0 ∧ x = y) := by
  rw [u8_xor x y hx.1 (by omega) hy.1 (by omega)]
  have hl : x.toNat ^^^ y.toNat < 2 ^ 8 := Nat.xor_lt_two_pow (by omega) (by omega)
  have hl2 : d.toNat ||| (x.toNat ^^^ y.toNat) < 2 ^ 8 := Nat.or_lt_two_pow (by omega) hl
  rw [u8_or d _ hd.1 (by omega) (by omega) (by omega), Int.toNat_natCast]
  refine ⟨_, rfl, by omega, by omega, ?_⟩
  constructor
  · intro h
    have h0 : d.toNat ||| (x.toNat ^^^ y.toNat) = 0 := by omega
    have h1 : d.toNat = 0 := by
      have := Nat.left_le_or (n := d.toNat) (m := x.toNat ^^^ y.toNat); omega
    have h2 : x.toNat ^^^ y.toNat = 0 := by
      have := Nat.right_le_or (n := d.toNat) (m := x.toNat ^^^ y.toNat); omega
    have h3 : x.toNat = y.toNat := by
      have : x.toNat ^^^ y.toNat ^^^ y.toNat = 0 ^^^ y.toNat := by rw [h2]
      rwa [Nat.xor_assoc, Nat.xor_self, Nat.xor_zero, Nat.zero_xor] at this
    omega
  · rintro ⟨rfl, rfl⟩
    simp

/-- the same bytes? -/
def sameB (Z Z' : Nat → Int) (n m : Nat) : Bool := (strOf Z n).toList == (strOf Z' m).toList
theorem sameB_iff {Z Z' : Nat → Int} {n m : Nat} (hz : ∀ i, i < n → 0 ≤ Z i ∧ Z i ≤ 255) (hz' : ∀ i, i < m → 0 ≤ Z' i ∧ Z' i ≤ 255) : sameB Z Z' n m = true ↔ n = m ∧ ∀ i, i < n → Z i = Z' i := by
  unfold sameB
  rw [beq_iff_eq, ByteArray.toList_eq, ByteArray.toList_eq]
  constructor
  · intro h
    refine strOf_inj hz hz' ?_
    have : (strOf Z n).data = (strOf Z' m).data := Array.toList_inj.1 h
    cases hx : strOf Z n; cases hy : strOf Z' m; rw [hx, hy] at this; simp at this; rw [this]
  · rintro ⟨rfl, h⟩; rw [strOf_congr h]

set_option maxHeartbeats 1000000 in
theorem same_any (B : Nat) (a1 : Option Addr) (n1 c1 : Nat) (Z1 : Nat → Int) (a2 : Option Addr) (n2 c2 : Nat) (Z2 : Nat → Int) (w : World) (h1 : BS B w a1 n1 c1 Z1) (h2 : BS B w a2 n2 c2 Z2) (hB : B ≤ w.heap.size) :
    Calls Try.prog 42 #[.slice a1 n1 c1, .slice a2 n2 c2] w fun e w' => e = .returned (.bool (sameB Z1 Z2 n1 n2)) ∧ ∃ k, w' = w.drewN k := by
  have l1 := h1.le
  have m1 := h1.max
  have l2 := h2.le
  have m2 := h2.max
  have hs := sameB_iff h1.bd h2.bd
  by_cases hn : n1 = n2
  · subst hn
    have HS := Lib.hid hs
    have H1 := Lib.hid h1.mem
    have H2 := Lib.hid h2.mem
    have D1 := Lib.hid h1.bd
    have D2 := Lib.hid h2.bd
    clear hs h1 h2
    go_enter Try.func42, Try.ntmps42
    go_wp2_with fail
    go_loopw [5, 14] (fun sd si wr => ∃ (k : Nat) (d : Int), k ≤ n1 ∧ si = .int .i64 k ∧ sd = .int .u8 d ∧ 0 ≤ d ∧ d ≤ 255 ∧ Hid (d = 0 ↔ ∀ i, i < k → Z1 i = Z2 i) ∧ ∃ m, wr = w.drewN m) (fun _ si _ => n1 - (intOf si).toNat)
    case atStart => exact ⟨0, 0, by omega, rfl, rfl, by omega, by omega, by show _ ↔ _; simp, 0, rfl⟩
    case round =>
      obtain ⟨k, d, hk, rfl, rfl, hd0, hd1, hd, m, hwr⟩ := hrel
      have HW := Lib.hid hwr
      by_cases hlt : k < n1
      · obtain ⟨b1, o1, ha1, hc1⟩ := H1.out
        obtain ⟨b2, o2, ha2, hc2⟩ := H2.out
        obtain ⟨rfl, _⟩ := ha1 (by omega)
        obtain ⟨rfl, _⟩ := ha2 (by omega)
        have e1 : wr.cell? ⟨b1, o1 + k, none⟩ = some (.int .u8 (Z1 k)) := by rw [hwr]; exact hc1 k hlt
        have e2 : wr.cell? ⟨b2, o2 + k, none⟩ = some (.int .u8 (Z2 k)) := by rw [hwr]; exact hc2 k hlt
        obtain ⟨r, hr, hr0, hr1, hr2⟩ := diff_bits d (Z1 k) (Z2 k) ⟨hd0, hd1⟩ (D1.out k hlt) (D2.out k hlt)
        have hr3 : r = 0 ↔ ∀ i, i < k + 1 → Z1 i = Z2 i := by
          rw [hr2, hd.out]
          constructor
          · rintro ⟨ha, hb⟩ i hi
            rcases Nat.lt_succ_iff_lt_or_eq.1 hi with h | rfl
            · exact ha i h
            · exact hb
          · exact fun h => ⟨fun i hi => h i (by omega), h k (by omega)⟩
        have HR := Lib.hid hr3
        clear hr2 hr3 hc1 hc2 ha1 ha2 H1 H2 D1 D2 hwr
        go_wp2_with fail
        go_quiet (fail)
        go_wp2_with fail
        go_roundw
        case rel => exact ⟨k + 1, r, by omega, by go_num, rfl, hr0, hr1, HR.out, m + _, by rw [HW.out, World.drewN_drewN]⟩
        case measure => simp [intOf] <;> omega
      · obtain rfl : k = n1 := by omega
        clear H1 H2 D1 D2 hwr
        have hres : sameB Z1 Z2 k k = (d == 0) := by
          rw [Bool.eq_iff_iff, HS.out, beq_iff_eq, hd.out]; simp
        have HRES := Lib.hid hres
        clear hres HS
        go_wp2_with fail
        go_ret
        exact ⟨ret_bool HRES.out.symm, m, HW.out⟩
  · have hf : sameB Z1 Z2 n1 n2 = false := by
      rw [← Bool.not_eq_true, hs]; exact fun h => hn h.1
    have hne : ((n1 : Int) == n2) = false := by simp; omega
    clear hs h1 h2
    go_enter Try.func42, Try.ntmps42
    go_wp2_with fail
    go_ret
    exact ⟨ret_bool hf.symm, 0, rfl⟩

theorem bytes_one {Z : Nat → Int} {n : Nat} : ∀ u ∈ bytesOf Z n, u.oneCell' = true := by
  intro u hu
  simp [bytesOf] at hu
  obtain ⟨i, _, rfl⟩ := hu
  rfl
/-- how append takes a slice of bytes that came in -/
theorem BS.src {B : Nat} {w w' : World} {a : Option Addr} {len cap : Nat} {Z : Nat → Int} (h : BS B w a len cap Z) (hb : ∀ k, k < B → w'.heap[k]? = w.heap[k]?) : ∀ ad, a = some ad → ∀ (j : Nat) u, (bytesOf Z len)[j]? = some u → w'.cell? (ad.add j) = some u := by
  intro ad had j u hj
  obtain ⟨hjl, rfl⟩ := bytesOf_get hj
  obtain ⟨b1, o1, h1, h2, h3⟩ := h.at_ (by have := h.le; omega)
  rw [h1] at had
  cases had
  have : (⟨b1, o1, none⟩ : Addr).add j = ⟨b1, o1 + j, none⟩ := by unfold Addr.add; split <;> simp_all
  rw [this, World.cell?_of_block (w := w) (hb b1 h2)]
  exact h3 j hjl

/-- The reference's Fill, of nothing to fill and of something. -/
theorem rfill_any (B : Nat) (a : Option Addr) (len cap : Nat) (Z : Nat → Int) (n : Int) (w : World) (hb : BS B w a len cap Z) (hB : B ≤ w.heap.size) (hnil : a = none → len = 0 ∧ cap = 0) (hlen : len ≤ 100000) (hn : n ≤ 100000) (hn0 : -9223372036854775808 ≤ n) :
    Calls Try.prog 43 #[.slice a len cap, .int .i64 n] w (Filled Z len (if n < 1 then 0 else padN len n.toNat) w) := by
  obtain ⟨K, hK, hK2, p1, p3⟩ : ∃ K, (if n < 1 then 0 else padN len n.toNat) = K ∧ K ≤ 100000 ∧ Hid (1 ≤ n → ((len : Int) + K) % n = 0) ∧ Hid (1 ≤ n → ∀ j : Nat, j < K → ((len : Int) + j) % n ≠ 0) := by
    refine ⟨_, rfl, ?_⟩
    by_cases h : n < 1
    · rw [if_pos h]
      exact ⟨by omega, fun h' => by omega, fun h' => by omega⟩
    · rw [if_neg h]
      obtain ⟨N, rfl⟩ := Int.eq_ofNat_of_zero_le (show 0 ≤ n by omega)
      obtain ⟨p1, p2, p3⟩ := padN_spec len N (by omega)
      rw [Int.toNat_natCast]
      exact ⟨by omega, fun _ => by exact_mod_cast p1, fun _ j hj => by exact_mod_cast p3 j hj⟩
  rw [hK]
  have hK0 : n < 1 → K = 0 := fun h => by rw [← hK, if_pos h]
  have HK := Lib.hid hK0
  clear hK hK0
  have hle := hb.le
  have hmx := hb.max
  have hsrc := fun w' => hb.src (w' := w')
  have HS := Lib.hid hsrc
  have HBD := Lib.hid hb.bd
  clear hsrc hb
  obtain ⟨i0, hi, hz0, hz1, hz2⟩ := info_parts infoU8
  have hm0 : (w.alloc (.cells #[] 5)).ownsRow w.heap.size 5 1 (.slice (some ⟨w.heap.size, 0, none⟩) 0 0) 0 [] := World.ownsRow_made w #[] 0 (Nat.le_refl _) (by unfold maxLen; omega) rfl
  have HM := Lib.hid hm0
  clear hm0
  go_enter Try.func43, Try.ntmps43
  go_wp2_with
    (at_builtin
     refine append_src _ rfl (.tmp 6) (.tmp 7) 48 rfl w.heap.size 5 i0 (.int .u8 0) 1 1 Try.underlying48 hi hz0 hz1 hz2 rfl (by decide) _ 0 [] rfl HM.out a len cap (bytesOf Z len) rfl hnil ?g1 ?g2 bytes_one ?g3 ?g4 ?g5 ?_
     case g1 => simp [bytesOf]
     case g2 => exact HS.out _ (fun k hk => alloc_blk_old (by omega))
     case g3 => unfold maxLen; omega
     case g4 => omega
     case g5 => simp)
  intro v1 w1 hown1 hb1
  have hbel1 : Below w.heap.size w w1 := ((Below.refl _ _).alloc (Nat.le_refl _) _).trans hb1
  have hown1' : w1.ownsRow w.heap.size 5 1 v1 (len + 0) (bytesOf (fillZ Z len) (len + 0)) := by
    rw [Nat.add_zero, bytesOf_congr (Z := fillZ Z len) (Z' := Z) (fun i hi => fillZ_old hi)]
    simpa using hown1
  have HO1 := Lib.hid hown1'
  obtain ⟨a1, c1, rfl⟩ : ∃ a c, v1 = .slice a len c := by simpa using own_len hown1'
  clear hown1 hown1' hb1
  go_wp2_with fail
  go_loopw [5] (fun sv wr => ∃ k : Nat, k ≤ K ∧ Below w.heap.size w wr ∧ (∃ ao co, sv = .slice ao (len + k) co) ∧ Hid (wr.ownsRow w.heap.size 5 1 sv (len + k) (bytesOf (fillZ Z len) (len + k)))) (fun sv _ => match sv with | .slice _ q _ => len + K - q | _ => 0)
  case atStart => exact ⟨0, by omega, hbel1, ⟨_, _, rfl⟩, HO1.out⟩
  case round =>
    clear HO1 hbel1
    obtain ⟨k, hk, hbel, ⟨ao, co, rfl⟩, HO⟩ := hrel
    by_cases hlt : k < K
    · have hn1 : 1 ≤ n := by
        rcases Int.lt_or_le n 1 with h | h
        · have := HK.out h; omega
        · exact h
      have hne : 0 < ((len : Int) + k) % n := by
        have h1 := p3.out hn1 k hlt
        have h2 := Int.emod_nonneg ((len : Int) + k) (show n ≠ 0 by omega)
        omega
      go_wp2_with
        (at_builtin
         refine wpList_append_own _ rfl (.tmp 18) (.tmp 19) 48 rfl w.heap.size 5 i0 (.int .u8 0) 1 1 Try.underlying48 hi hz0 hz1 hz2 rfl (by decide) _ (len + k) _ rfl (HO.out.alloc _) ⟨wr.heap.size, 0, none⟩ 1 1 [.int .u8 0] rfl rfl ?f4 ?f5 ?f7 ?f8 ?f9 ?_
         case f4 => exact cell_one_at rfl
         case f5 => exact one_cell rfl
         case f7 => unfold maxLen; omega
         case f8 => omega
         case f9 => have := hbel.size; simp; omega)
      intro v2 w2 hown2 hgrow hnil2
      have hlt2 := HO.out.lt
      have hbel2 : Below w.heap.size w w2 := (hbel.alloc hbel.size _).grown hgrow (by have := hbel.size; simp; omega) (fun k hk => (hlt2 k hk).1)
      have hown3 : w2.ownsRow w.heap.size 5 1 v2 (len + (k + 1)) (bytesOf (fillZ Z len) (len + (k + 1))) := by
        rw [← Nat.add_assoc, bytesOf_succ, fillZ_new (by omega)]
        exact hown2
      have HO2 := Lib.hid hown3
      clear hown2 hown3 hgrow hnil2 hlt2
      obtain ⟨ao2, co2, rfl⟩ := own_len HO2.out
      go_wp2_with fail
      go_roundw
      case rel => exact ⟨k + 1, by omega, hbel2, ⟨_, _, rfl⟩, HO2.out⟩
      case measure => simp <;> omega
    · obtain rfl : k = K := by omega
      obtain ⟨a3, c3, h3, h4⟩ := BS.of_owns HO.out (fun i _ => fillZ_bd HBD.out i) (by omega)
      cases h3
      by_cases hn1 : 1 ≤ n
      · have he : (((len : Int) + k) % n) = 0 := p1.out hn1
        go_wp2_with fail
        go_ret
        exact ⟨_, _, rfl, h4, hbel⟩
      · go_wp2_with fail
        go_ret
        exact ⟨_, _, rfl, h4, hbel⟩
end Go.Proofs.Ytgkjgefnialleaa
