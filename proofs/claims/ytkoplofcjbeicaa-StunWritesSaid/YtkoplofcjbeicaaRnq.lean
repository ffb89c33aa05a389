/-
  The references Num and Put of chapter 01 (lines of XOctPut, for other seats).
-/
import Derived.Test.YtkoplofcjbeicaaNum
import Derived.Test.YtkoplofcjbeicaaPut
import Derived.Test.YtkoplofcjbeicaaAppend
import Derived.Test.YtkoplofcjbeicaaFill
namespace Go.Proofs.Ytkoplofcjbeicaa
open Go.RowKit
set_option linter.unusedVariables false
set_option linter.unusedSimpArgs false

theorem numv_head (Z : Nat → Int) (s k : Nat) : numv Z s (k + 1) = Z s * 256 ^ k + numv Z (s + 1) k := by
  induction k with
  | zero => simp [numv]
  | succ k ih =>
    rw [numv, ih, numv, Int.pow_succ, show s + 1 + k = s + (k + 1) by omega, Int.add_mul, Int.mul_assoc]
    omega

theorem BS.src {B : Nat} {w w' : World} {a : Option Addr} {len cap : Nat} {Z : Nat → Int} (h : BS B w a len cap Z) (hb : ∀ k, k < B → w'.heap[k]? = w.heap[k]?) : ∀ ad, a = some ad → ∀ (j : Nat) u, (bytesOf Z len)[j]? = some u → w'.cell? (ad.add j) = some u := by
  intro ad had j u hj
  obtain ⟨hjl, rfl⟩ := bytesOf_get hj
  obtain ⟨b1, o1, h1, h2, h3⟩ := h.at_ (by have := h.le; omega)
  rw [h1] at had
  cases had
  have : (⟨b1, o1, none⟩ : Addr).add j = ⟨b1, o1 + j, none⟩ := by unfold Addr.add; split <;> simp_all
  rw [this, World.cell?_of_block (w := w) (hb b1 h2)]
  exact h3 j hjl

def fillY (Z : Nat → Int) (len : Nat) (i : Nat) : Int := if i < len then Z i else 0
theorem fillY_old {Z : Nat → Int} {len i : Nat} (h : i < len) : fillY Z len i = Z i := if_pos h
theorem bytes_one {Z : Nat → Int} {n : Nat} : ∀ u ∈ bytesOf Z n, u.oneCell' = true := by
  intro u hu
  simp [bytesOf] at hu
  obtain ⟨i, _, rfl⟩ := hu
  rfl
theorem pow8 : ∀ k, k ≤ 8 → (256 : Int) ^ k ≤ 18446744073709551616 := by decide
/-- the number of the last j of m bytes -/
theorem numv_tail (Z : Nat → Int) (s m j : Nat) (h : j < m) : numv Z (s + (m - j)) j + 256 ^ j * Z (s + (m - 1 - j)) = numv Z (s + (m - (j + 1))) (j + 1) := by
  rw [numv_head, show s + (m - (j + 1)) + 1 = s + (m - j) by omega, show m - 1 - j = m - (j + 1) by omega, Int.mul_comm]; omega

set_option maxRecDepth 100000 in
set_option maxHeartbeats 1000000 in
theorem rnum_any (B : Nat) (a : Option Addr) (len cap : Nat) (Z : Nat → Int) (at' n : Int) (w : World) (hb : BS B w a len cap Z) (ht : there len at' n = true) :
    Calls Try.prog 42 #[.slice a len cap, .int .i64 at', .int .i64 n] w fun e w' => e = .returned (.int .u64 (numv Z at'.toNat n.toNat)) ∧ w = w' := by
  have hle := hb.le
  have hmx := hb.max
  obtain ⟨t1, t2, t3, t4, t5⟩ := (there_iff _ _ _).1 ht
  obtain ⟨b, off, rfl, hbB, hc⟩ := hb.at_ (by omega)
  obtain ⟨s, rfl⟩ := Int.eq_ofNat_of_zero_le t3
  obtain ⟨m, rfl⟩ := Int.eq_ofNat_of_zero_le (show 0 ≤ n by omega)
  have hbd := hb.bd
  have HC := Lib.hid hc
  have HB := Lib.hid hbd
  clear hb hc hbd ht
  rw [Int.toNat_natCast, Int.toNat_natCast]
  go_enter Try.func42, Try.ntmps42
  go_wp2_with fail
  go_loop [7, 8, 9] (fun sx sp si => ∃ (j : Nat) (i x p : Int), j ≤ m ∧ si = .int .i64 i ∧ s - 1 ≤ i ∧ i ≤ s + m - 1 ∧ Hid (i = s + m - 1 - j) ∧ sx = .int .u64 x ∧ sp = .int .u64 p ∧ Hid (x = numv Z (s + (m - j)) j) ∧ Hid (p = 256 ^ j % 18446744073709551616)) (fun _ _ si => (intOf si - s + 1).toNat)
  case atStart => exact ⟨0, _, 0, 1, by omega, rfl, by omega, by omega, Lib.hid (by omega), rfl, rfl, Lib.hid rfl, Lib.hid rfl⟩
  case round =>
    obtain ⟨j, i, x, p, hj, rfl, hi0, hi1, hi, rfl, rfl, hx, hp⟩ := hrel
    by_cases hlt : j < m
    · obtain ⟨q, hq⟩ : ∃ q : Nat, i = q := ⟨i.toNat, by have := hi.out; omega⟩
      subst hq
      have hq2 : q = s + (m - 1 - j) := by have := hi.out; omega
      have hcell := HC.out q (by omega)
      have hzb := HB.out q (by omega)
      have hp8 := pow8 (j + 1) (by omega)
      have hnb := numv_bd Z (s + (m - (j + 1))) (j + 1) (fun i hi => HB.out (s + (m - (j + 1)) + i) (by omega))
      have htl := numv_tail Z s m j hlt
      rw [← hq2, ← hx.out] at htl
      have hpow : (256 : Int) ^ j = p := by
        have h1 : (256 : Int) ^ (j + 1) = 256 ^ j * 256 := Int.pow_succ _ _
        have h2 : 0 ≤ (256 : Int) ^ j := Int.pow_nonneg (by omega)
        rw [hp.out]; exact (Int.emod_eq_of_lt h2 (by omega)).symm
      rw [hpow] at htl
      generalize hY : numv Z (s + (m - (j + 1))) (j + 1) = Y at htl hnb
      have h0p : 0 ≤ p := by rw [← hpow]; exact Int.pow_nonneg (by omega)
      have hpz : 0 ≤ p * Z q := Int.mul_nonneg h0p hzb.1
      have hx0 : 0 ≤ x := by
        have := numv_bd Z (s + (m - j)) j (fun i hi => HB.out (s + (m - j) + i) (by omega))
        rw [hx.out]; exact this.1
      have hw1 : IntKind.u64.wrap (p * Z q) = p * Z q := by rw [IntKind.wrap_u64]; exact Int.emod_eq_of_lt hpz (by omega)
      have hw2 : IntKind.u64.wrap (x + p * Z q) = Y := by rw [IntKind.wrap_u64, htl]; exact Int.emod_eq_of_lt hnb.1 (by omega)
      have hw1' : p * Z q % 18446744073709551616 = p * Z q := Int.emod_eq_of_lt hpz (by omega)
      have hw2' : (x + p * Z q) % 18446744073709551616 = Y := by rw [htl]; exact Int.emod_eq_of_lt hnb.1 (by omega)
      have hp2 : Hid (p * 256 % 18446744073709551616 = 256 ^ (j + 1) % 18446744073709551616) := Lib.hid (by rw [Int.pow_succ, hpow])
      have HY := Lib.hid hY
      have HI : Hid ((q : Int) - 1 = s + m - 1 - ((j + 1 : Nat) : Int)) := Lib.hid (by omega)
      have hqs : s ≤ q := by omega
      have hql : q < len := by omega
      have hqs' : decide ((s : Int) ≤ q) = true := by simp; omega
      clear hY htl hpow hp8 hnb hq2 hpz
      go_wp2_with fail
      go_round
      case rel => exact ⟨j + 1, (q : Int) - 1, Y, p * 256 % 18446744073709551616, by omega, by go_num, by omega, by omega, HI, rfl, by first | rfl | (simp only [IntKind.wrap_u64]), Lib.hid HY.out.symm, hp2⟩
      case measure => simp [intOf] <;> omega
    · obtain rfl : j = m := by omega
      have hii : i = s - 1 := by have := hi.out; omega
      subst hii
      have hqs' : decide ((s : Int) ≤ s - 1) = false := by simp; omega
      go_wp2_with fail
      go_ret
      exact ⟨by rw [hx.out]; simp, rfl⟩

theorem bytesOf_append {Z Y Y' : Nat → Int} {a b : Nat} (h1 : ∀ i, i < a → Z i = Y i) (h2 : ∀ t, t < b → Z (a + t) = Y' t) : bytesOf Y a ++ bytesOf Y' b = bytesOf Z (a + b) := by
  unfold bytesOf
  rw [List.range_add, List.map_append, List.map_map]
  congr 1
  · exact List.map_congr_left fun i hi => by rw [h1 i (List.mem_range.1 hi)]
  · exact List.map_congr_left fun i hi => by rw [Function.comp, h2 i (List.mem_range.1 hi)]
theorem addr_add0 (b t : Nat) : (⟨b, 0, none⟩ : Addr).add t = ⟨b, t, none⟩ := by
  unfold Addr.add; split <;> simp_all
set_option maxRecDepth 100000 in
set_option maxHeartbeats 2000000 in
theorem rput_any (B : Nat) (a : Option Addr) (len cap : Nat) (Z : Nat → Int) (m : Nat) (x : Int) (w : World) (hb : BS B w a len cap Z) (hB : B ≤ w.heap.size) (hnil : a = none → len = 0 ∧ cap = 0) (hlen : len ≤ 100000) (hm1 : 1 ≤ m) (hm2 : m ≤ 8) (hx0 : 0 ≤ x) (hx1 : x ≤ 18446744073709551615) :
    Calls Try.prog 46 #[.slice a len cap, .int .i64 m, .int .u64 x] w fun e w' => ∃ v, e = .returned v ∧ w'.ownsRow w.heap.size 5 1 v (len + m) (bytesOf (putZ Z len x m) (len + m)) ∧ Below w.heap.size w w' := by
  have hle := hb.le
  have hmx := hb.max
  have hsrc := fun w' => hb.src (w' := w')
  have HS := Lib.hid hsrc
  have HBD := Lib.hid hb.bd
  clear hsrc hb
  obtain ⟨i0, hi, hz0, hz1, hz2⟩ := info_parts infoU8
  have hm0 : (w.alloc (.cells #[] 5)).ownsRow w.heap.size 5 1 (.slice (some ⟨w.heap.size, 0, none⟩) 0 0) 0 [] := World.ownsRow_made w #[] 0 (Nat.le_refl _) (by unfold maxLen; omega) rfl
  have HM := Lib.hid hm0
  clear hm0
  go_enter Try.func46, Try.ntmps46
  go_wp2_with
    (at_builtin
     refine append_src _ rfl (.tmp 10) (.tmp 11) 22 rfl w.heap.size 5 i0 (.int .u8 0) 1 1 Try.underlying22 hi hz0 hz1 hz2 rfl (by decide) _ 0 [] rfl HM.out a len cap (bytesOf Z len) rfl hnil ?g1 ?g2 bytes_one ?g3 ?g4 ?g5 ?_
     case g1 => simp [bytesOf]
     case g2 => exact HS.out _ (fun k hk => alloc_blk_old (by omega))
     case g3 => unfold maxLen; omega
     case g4 => omega
     case g5 => simp)
  intro v1 w1 hown1 hb1
  have hbel1 : Below w.heap.size w w1 := ((Below.refl _ _).alloc (Nat.le_refl _) _).trans hb1
  have hown1' : w1.ownsRow w.heap.size 5 1 v1 (len + 0) (bytesOf (fillY Z len) (len + 0)) := by
    rw [Nat.add_zero, bytesOf_congr (Z := fillY Z len) (Z' := Z) (fun i hi => fillY_old hi)]
    simpa using hown1
  have HO1 := Lib.hid hown1'
  obtain ⟨a1, c1, rfl⟩ : ∃ a c, v1 = .slice a len c := by simpa using own_len hown1'
  clear hown1 hown1' hb1
  have hmk := fun (W : World) => run_makeSlice (P := Try.prog) W 22 5 i0 (.int .u8 0) Try.underlying22 hi hz0 .i64 .i64 (m : Int) (m : Int) (by omega) (Int.le_refl _) (by rw [hz1]; omega) (by rw [hz2]; omega) (by omega)
  have hmk' : ∀ W : World, (Instr.makeSlice 22 (.int .i64 (m : Int)) (.int .i64 (m : Int))).run Try.prog W = .ok (.slice (some ⟨W.heap.size, 0, none⟩) m m) (W.alloc (.cells (madeCells (Value.int .u8 0).cells m) 5)) := by
    intro W; have := hmk W; rw [hz1] at this; simpa using this
  clear hmk
  go_wp2_with fail
  generalize hW2 : (w1.alloc _) = W2
  obtain ⟨cs0, hcs0, hsz0⟩ : ∃ cs : Array Value, W2.heap[w1.heap.size]? = some (.cells cs 5 (0, 0)) ∧ cs.size = m := by
    rw [← hW2]; exact ⟨_, alloc_blk_new, by simp [size_madeCells]⟩
  have hbel2 : Below w.heap.size w W2 := by rw [← hW2]; exact hbel1.alloc hbel1.size _
  have HO2 : Hid (W2.ownsRow w.heap.size 5 1 (.slice a1 len c1) (len + 0) (bytesOf (fillY Z len) (len + 0))) := Lib.hid (own_blk HO1.out (fun k _ hk => by rw [← hW2]; exact alloc_blk_old hk))
  have hne : ∀ g, (Value.slice a1 len c1).ownBlock = some g → g ≠ w1.heap.size := fun g hg => by have := HO1.out.lt g hg; omega
  have HNE := Lib.hid hne
  have q0 := hbel1.size
  clear hW2 HO1 hmk' hne
  generalize w1.heap.size = K at *
  clear hbel1
  go_loopw [2, 9] (fun sx si wr => ∃ (j : Nat) (i y : Int) (cs : Array Value), j ≤ m ∧ si = .int .i64 i ∧ -1 ≤ i ∧ i ≤ m - 1 ∧ Hid (i = m - 1 - j) ∧ sx = .int .u64 y ∧ 0 ≤ y ∧ y ≤ 18446744073709551615 ∧ Hid (y = x / 256 ^ j) ∧ wr.heap[K]? = some (.cells cs 5 (0, 0)) ∧ cs.size = m ∧
      Hid (∀ t, m - j ≤ t → t < m → cs[t]? = some (.int .u8 (x / 2 ^ (8 * (m - 1 - t)) % 256))) ∧ Below w.heap.size w wr ∧ Hid (wr.ownsRow w.heap.size 5 1 (.slice a1 len c1) (len + 0) (bytesOf (fillY Z len) (len + 0)))) (fun _ si _ => (intOf si + 1).toNat)
  case atStart => exact ⟨0, _, x, cs0, by omega, rfl, by omega, by omega, Lib.hid (by omega), rfl, hx0, hx1, Lib.hid (by simp), hcs0, hsz0, Lib.hid (fun t h1 h2 => by omega), hbel2, HO2⟩
  case round =>
    clear HO2 hbel2 hcs0 hsz0
    obtain ⟨j, i, y, cs, hj, rfl, hi0, hi1, hii, rfl, hy0, hy1, hy, hcs, hsz, hd, hbel, HO⟩ := hrel
    by_cases hlt : j < m
    · obtain ⟨q, hq⟩ : ∃ q : Nat, i = q := ⟨i.toNat, by have := hii.out; omega⟩
      subst hq
      have hq2 : q = m - 1 - j := by have := hii.out; omega
      have hqm : q < m := by omega
      have hcell : ∃ v, wr.cell? ⟨K, q, none⟩ = some v := by rw [cell_blk hcs]; exact ⟨_, Array.getElem?_eq_getElem (by omega)⟩
      obtain ⟨v0, hcell⟩ := hcell
      have hfree : wr.frozen? ⟨K, q, none⟩ = false := free_blk hcs
      have t1 : decide ((0 : Int) ≤ q) = true := by simp
      have hset : ∀ v, (wr.setCell ⟨K, q, none⟩ v).heap[K]? = some (.cells (cs.setIfInBounds q v) 5 (0, 0)) := fun v => set_blk v hcs
      have HSET := Lib.hid hset
      have hown : ∀ v, (wr.setCell ⟨K, q, none⟩ v).ownsRow w.heap.size 5 1 (.slice a1 len c1) (len + 0) (bytesOf (fillY Z len) (len + 0)) := fun v => by
        have hlt := HO.out.lt
        have h := HO.out
        obtain ⟨h1, h2⟩ := h
        refine ⟨h1, ?_⟩
        rcases h2 with h2 | ⟨g, cap', cur, hv, hg, hh, r⟩
        · exact .inl h2
        · have hgk : g ≠ K := HNE.out g (by rw [hv]; rfl)
          exact .inr ⟨g, cap', cur, hv, hg, by rw [set_blk_other _ (by simpa using hgk)]; exact hh, r⟩
      have HOWN := Lib.hid hown
      have hbs : ∀ v, Below w.heap.size w (wr.setCell ⟨K, q, none⟩ v) := fun v => Below.setCell hbel (by omega) v
      have HBS := Lib.hid hbs
      have hy2 : Hid (y / 256 = x / 256 ^ (j + 1)) := Lib.hid (by rw [hy.out, Int.pow_succ, Int.ediv_ediv_of_nonneg (Int.pow_nonneg (by omega))])
      have hdig : Hid (y % 256 = x / 2 ^ (8 * (m - 1 - q)) % 256) := Lib.hid (by rw [hy.out, show m - 1 - q = j by omega, Int.pow_mul]; rfl)
      have HI : Hid ((q : Int) - 1 = m - 1 - ((j + 1 : Nat) : Int)) := Lib.hid (by omega)
      have HQ := Lib.hid hq2
      clear hset hown hbs hcs hbel hq2
      go_wp2_with fail
      go_roundw
      case rel => exact ⟨j + 1, (q : Int) - 1, y / 256, _, by omega, by go_num, by omega, by omega, HI, by go_num, by omega, by omega, hy2, HSET.out _, by simpa using hsz, Lib.hid (fun t h1 h2 => by
        have := HQ.out
        by_cases htq : t = q
        · subst htq; rw [← hdig.out]; simp [hsz, h2]
        · rw [Array.getElem?_setIfInBounds_ne (Ne.symm htq)]; exact hd.out t (by omega) h2), HBS.out _, HOWN.out _⟩
      case measure => simp [intOf] <;> omega
    · obtain rfl : j = m := by omega
      have hi2 : i = -1 := by have := hii.out; omega
      subst hi2
      go_wp2_with
        (at_builtin
         refine append_src _ rfl (.tmp 36) (.tmp 37) 22 rfl w.heap.size 5 i0 (.int .u8 0) 1 1 Try.underlying22 hi hz0 hz1 hz2 rfl (by decide) _ (len + 0) _ rfl HO.out (some ⟨K, 0, none⟩) j j (bytesOf (fun t => x / 2 ^ (8 * (j - 1 - t)) % 256) j) rfl ?k0 ?k1 ?k2 bytes_one ?k3 ?k4 ?k5 ?_
         case k0 => intro h; cases h
         case k1 => simp [bytesOf]
         case k2 =>
           intro ad had t u ht
           cases had
           obtain ⟨htj, rfl⟩ := bytesOf_get ht
           rw [addr_add0, cell_blk hcs]
           exact hd.out t (by omega) htj
         case k3 => unfold maxLen; omega
         case k4 => omega
         case k5 => exact hbel.size)
      intro v2 w2 hown2 hb2
      have hown3 : w2.ownsRow w.heap.size 5 1 v2 (len + j) (bytesOf (putZ Z len x j) (len + j)) := by
        rw [← bytesOf_append (Z := putZ Z len x j) (Y := fillY Z len) (Y' := fun t => x / 2 ^ (8 * (j - 1 - t)) % 256) (fun i hi => by rw [fillY_old hi]; unfold putZ; rw [if_pos hi]) (fun t ht => by unfold putZ; rw [if_neg (by omega), Nat.add_sub_cancel_left])]
        exact hown2
      have HO3 := Lib.hid hown3
      have hb3 := hbel.trans hb2
      clear hown2 hown3 hb2 hbel hcs
      go_wp2_with fail
      go_ret
      exact ⟨_, rfl, HO3.out, hb3⟩

end Go.Proofs.Ytkoplofcjbeicaa
