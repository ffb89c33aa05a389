/-
  Chapter 36: the reference's Read.
-/
import Derived.Test.YtdmbdageohjodaaRedT
import Derived.StillTailTactics
import Derived.IntWalk
namespace Go.Proofs.Ytdmbdageohjodaa
open Go.RowKit
set_option linter.unusedVariables false
set_option linter.unusedSimpArgs false
attribute [local irreducible] wpStill wpQuiet

structure H1 (Z : Nat → Int) (n : Nat) (w : World) (j p : Nat) (v4 v5 : Value) (wr : World) : Prop where
  bl : Below w.heap.size w wr
  eq : p = 4 * j
  hd : hdrs Z n (n + 1) 0 = hdrs Z n (n + 1 - j) j
  jn : 4 * j ≤ n
  o4 : wr.ownsRow w.heap.size 110 3 v4 j (bcells (hQm Z) j)
  o5 : wr.ownsRow w.heap.size 3 1 v5 j (szs (hsz Z) j)
  ap : ∀ g, v4.ownBlock = some g → v5.ownBlock ≠ some g
structure R2 (Z : Nat → Int) (n J k : Nat) (w : World) (H g cap p : Nat) (v5 : Value) (wr : World) : Prop where
  bl : Below w.heap.size w wr
  hz : H ≤ wr.heap.size
  fil : ∃ Q, Fil Z n J k w.heap.size H g cap Q wr
  eq : p = offZ Z J k
  le : p ≤ n
  o5 : wr.ownsRow w.heap.size 3 1 v5 J (szs (hsz Z) J)
  ng : v5.ownBlock ≠ some g
  h5 : ∀ q, v5.ownBlock = some q → q < H
theorem nil_row (W : World) (base : Nat) (hb : base ≤ W.heap.size) : (W.alloc (.cells #[] 5)).ownsRow base 5 1 (.slice (some ⟨W.heap.size, 0, none⟩) 0 0) 0 [] :=
  ⟨rfl, .inr ⟨W.heap.size, 0, #[], rfl, hb, alloc_blk_new, Nat.le_refl _, by unfold maxLen; omega, rfl, rfl⟩⟩
set_option maxRecDepth 100000 in
set_option maxHeartbeats 4000000 in
theorem refread_any (B : Nat) (a : Option Addr) (n c : Nat) (Z : Nat → Int) (w : World) (hb : BS B w a n c Z) (hB : B ≤ w.heap.size) (hn : n ≤ 4000) :
    Calls Try.prog 54 #[.slice a n c] w (RdPost Z n w) := by
  obtain ⟨i0, hi, hz0, hz1, hz2⟩ := info_parts infoBlk
  obtain ⟨i1, hi1, hy0, hy1, hy2⟩ := info_parts infoInt
  obtain ⟨i2, hi2, hx0, hx1, hx2⟩ := info_parts infoU8
  have HBS := Lib.hid hb
  have hle := hb.le
  have hmx := hb.max
  clear hb
  go_enter Try.func54, Try.ntmps54
  go_wp2_with fail
  go_loopw [4, 5, 6] (fun s4 s5 s6 wr => ∃ (j p : Nat), p ≤ 4000 ∧ j ≤ 1000 ∧ s6 = .int .i64 p ∧ Hid (H1 Z n w j p s4 s5 wr)) (fun _ _ s6 _ => n - (intOf s6).toNat)
  case atStart => exact ⟨0, 0, by omega, by omega, rfl, Lib.hid ⟨Below.refl _ _, rfl, rfl, by omega, World.ownsRow_nil _ _ _ _, World.ownsRow_nil _ _ _ _, fun g h => by cases h⟩⟩
  case round =>
    obtain ⟨j, p, hp, hj, rfl, HS⟩ := hrel
    obtain ⟨v4a, v4c, h4⟩ := own_len HS.out.o4
    obtain ⟨v5a, v5c, h5⟩ := own_len HS.out.o5
    subst h4 h5
    have heq := HS.out.eq
    have hjn := HS.out.jn
    by_cases h0 : n ≤ p
    · have hno : hdrs Z n (n + 1) 0 = none := by
        rw [HS.out.hd, show n + 1 - j = (n - j) + 1 by omega]
        unfold hdrs
        rw [if_pos (by omega)]
      have hE : rdE Z n = 2 := by unfold rdE; rw [hno]
      have HE := Lib.hid hE
      have h0' : decide ((n : Int) ≤ p) = true := by simp; omega
      clear hno hE heq hjn
      go_wp2_with fail
      go_ret2
      exact ⟨.inl ⟨by rw [HE.out]; decide, by rw [HE.out]; rfl⟩, HS.out.bl⟩
    · have h0' : decide ((n : Int) ≤ p) = false := by simp; omega
      obtain ⟨b, off, rfl, hbB, hcl⟩ := HBS.out.at_ (by omega)
      have HCL : Hid (∀ i, i < n → wr.cell? ⟨b, off + i, none⟩ = some (.int .u8 (Z i))) := Lib.hid (fun i hi => Below.cell' (HS.out.bl.mono hB) hbB (hcl i hi))
      have cz := HCL.out p (by omega)
      obtain ⟨z0, z1⟩ := HBS.out.bd p (by omega)
      obtain ⟨z, hz⟩ : ∃ z, Z p = z := ⟨_, rfl⟩
      have HZ : Hid (Z (4 * j) = z) := Lib.hid (by rw [← heq]; exact hz)
      rw [hz] at cz z0 z1
      have hpn : (p : Int) < n := by omega
      have hwz := HS.out.bl.size
      clear hz hcl
      by_cases hzl : z < 128
      · have hz' : decide (z < 128) = true := by simpa using hzl
        have hJ : hdrs Z n (n + 1) 0 = some j := by
          rw [HS.out.hd, show n + 1 - j = (n - j) + 1 by omega]
          unfold hdrs
          rw [if_neg (by omega), if_pos (by rw [HZ.out]; exact hzl)]
        have HJ := Lib.hid hJ
        obtain ⟨WA, hWA⟩ : ∃ WA, wr.alloc (.cells #[.int .u8 z, .int .i64 0, .slice none 0 0] 110) = WA := ⟨_, rfl⟩
        have BWA : Hid (Below wr.heap.size wr WA) := Lib.hid (by rw [← hWA]; exact (Below.refl _ _).alloc (Nat.le_refl _) _)
        have hnew : WA.heap[wr.heap.size]? = some (.cells #[.int .u8 z, .int .i64 0, .slice none 0 0] 110 (0, 0)) := by rw [← hWA]; exact alloc_blk_new
        obtain ⟨x4, y4, W3, r4, own4, but4, nb4⟩ := run_app (P := Try.prog) (w := WA) (t := 105) Try.underlying105 hi hz0 hz1 hz2 rfl (by decide) (own_below HS.out.o4 BWA.out) (some ⟨wr.heap.size, 0, none⟩) 1 1 [.int .u8 z, .int .i64 0, .slice none 0 0] (fun e => by cases e) rfl (fun ad e jj u hj => by
          cases e
          rw [addr_add, Nat.zero_add, cell_blk hnew, ← hj]
          simp) (by simp [Value.oneCell']) (by unfold maxLen; omega) (by omega) (Nat.le_trans hwz BWA.out.size)
        have R4 := Lib.hid r4
        have hqj : hQ Z j j = ⟨z, 0, none, 0, 0, fun _ => 0⟩ := by simp only [hQ, if_true]; rw [HZ.out]
        have hcon : bcells (hQm Z) j ++ [.int .u8 z, .int .i64 0, .slice none 0 0] = bcells (hQ Z j) (j + 1) := by
          rw [bcells_succ, bcells_congr (Q := hQ Z j) (Q' := hQm Z) (n := j) (fun i hi => by simp only [hQ, hQm]; rw [if_neg (by omega)]), hqj]
        rw [hcon] at own4
        have O4 := Lib.hid own4
        have O5 := Lib.hid (own_but (own_below HS.out.o5 BWA.out) but4 (fun g h1 h2 => HS.out.ap g h2 h1))
        have AP : Hid (∀ g, (Value.slice x4 (j + 1) y4).ownBlock = some g → (Value.slice v5a j v5c).ownBlock ≠ some g) := Lib.hid (fun g h1 h2 => by
          rcases nb4 g h1 with h3 | h3
          · exact HS.out.ap g h3 h2
          · have := (HS.out.o5.lt g h2).2; have := BWA.out.size; omega)
        have BW3 : Hid (Below w.heap.size w W3) := Lib.hid ((HS.out.bl.trans (BWA.out.mono hwz)).trans (but4.below (Nat.le_trans hwz BWA.out.size) (fun g hg => (HS.out.o4.lt g hg).1)))
        have h4n : 4 * j + 1 ≤ n := by omega
        obtain ⟨g, c1, hv1, -⟩ := own_some O4.out
        injection hv1 with e1 e2 e3
        subst e1 e3
        have hadr : 0 < j → ∃ g5, v5a = some ⟨g5, 0, none⟩ := fun hJ0 => by
          have o2 := O5.out
          obtain ⟨J', rfl⟩ : ∃ J', j = J' + 1 := ⟨j - 1, by omega⟩
          obtain ⟨g5, _, hv, -⟩ := own_some o2
          injection hv with e1
          exact ⟨g5, e1⟩
        have HA := Lib.hid hadr
        have HP1 : Hid (p + 1 = offZ Z j 0) := Lib.hid (by show p + 1 = 4 * j + 1; omega)
        have HS0 : Hid (R2 Z n j 0 w W3.heap.size g y4 (p + 1) (.slice v5a j v5c) W3) := Lib.hid ⟨BW3.out, Nat.le_refl _, ⟨hQ Z j, O4.out, (O4.out.lt g rfl).2, fun i hi => by omega, fun i _ _ => rfl⟩, HP1.out, by omega, O5.out, fun e => AP.out g rfl e, fun q hq => (O5.out.lt q hq).2⟩
        obtain ⟨H, hH⟩ : ∃ H, H = W3.heap.size := ⟨_, rfl⟩
        rw [← hH] at HS0
        clear hJ r4 own4 but4 nb4 hqj hcon hnew BWA heq hjn hadr hH AP O4 O5 HS
        go_wp2_with (at_builtin; refine wpList_of_append rfl (.tmp 18) (.tmp 24) 105 rfl _ _ _ rfl rfl R4.out ?_)
        go_loopw [6, 8] (fun s6 s8 wr2 => ∃ (k q : Nat), k ≤ j ∧ q ≤ 4000 ∧ s8 = .int .i64 k ∧ s6 = .int .i64 q ∧ Hid (R2 Z n j k w H g y4 q (.slice v5a j v5c) wr2)) (fun _ s8 _ => j - (intOf s8).toNat)
        case atStart => exact ⟨0, p + 1, by omega, by omega, rfl, by go_num, HS0⟩
        case round =>
          clear HS0 cz
          obtain ⟨k, q, hk, hq, rfl, rfl, HS⟩ := hrel
          obtain ⟨Q, hF⟩ := HS.out.fil
          have HF := Lib.hid hF
          have heq := HS.out.eq
          have hqn := HS.out.le
          have hsz2 := HS.out.bl.size
          clear hF
          by_cases hlt : k < j
          · obtain ⟨g5, rfl⟩ := HA.out (by omega)
            have c5 : wr.cell? ⟨g5, k, none⟩ = some (.int .i64 (hsz Z k : Int)) := by
              have := HS.out.o5.cells (g := g5) rfl k (.int .i64 (hsz Z k : Int)) (by simp [szs, hlt])
              rw [addr_add, Nat.zero_add] at this
              exact this
            have hle5 : offZ Z j (k + 1) ≤ offZ Z j j := offZ_le Z j (k + 1) j (by omega)
            have hoff : offZ Z j (k + 1) = offZ Z j k + hsz Z k := rfl
            obtain ⟨s, hs⟩ : ∃ s, hsz Z k = s := ⟨_, rfl⟩
            rw [hs] at c5 hoff
            have HSZ := Lib.hid hs
            have hs2 : s < 1024 := by rw [← hs]; unfold hsz; omega
            clear hs
            by_cases hsm : q + s ≤ n
            · have hd : decide ((n : Int) < (q : Int) + (s : Int)) = false := by simp; omega
              have hsum : (q : Int) + s ≤ n := by omega
              have hnc : (n : Int) ≤ c := by omega
              have hgg : g5 ≠ g := fun e => HS.out.ng (by rw [e]; rfl)
              have hgg' : g ≠ g5 := fun e => hgg e.symm
              have HEQ : Hid (q = offZ Z j k) := Lib.hid heq
              have hq2 : 0 ≤ (q : Int) := by omega
              have hsq : (q : Int) ≤ (q : Int) + s := by omega
              clear hoff hle5 heq
              rcases (by omega : (c = q ∧ 0 = s) ∨ (¬ c = q ∧ q < c)) with ⟨hc1, hc2⟩ | ⟨hcq, hcl⟩
              · subst hc2
                subst hc1
                obtain ⟨WA, hWA⟩ : ∃ WA, wr.alloc (.cells #[] 5) = WA := ⟨_, rfl⟩
                have BWA : Hid (Below wr.heap.size wr WA) := Lib.hid (by rw [← hWA]; exact (Below.refl _ _).alloc (Nat.le_refl _) _)
                have SRC : Hid (BS B WA (some ⟨b, off, none⟩) 0 0 (fun x => Z (offZ Z j k + x))) := Lib.hid ⟨by omega, by omega, fun i hi => by omega, 0, 0, fun h => by omega, fun i hi => by omega⟩
                have hrow : WA.ownsRow wr.heap.size 5 1 (.slice (some ⟨wr.heap.size, 0, none⟩) 0 0) 0 [] := by rw [← hWA]; exact nil_row wr _ (Nat.le_refl _)
                obtain ⟨x9, y9, W9, r9, own9, but9, nb9⟩ := run_app (P := Try.prog) (w := WA) (t := 56) Try.underlying56 hi2 hx0 hx1 hx2 rfl (by decide) hrow (some ⟨b, off, none⟩) 0 0 (u8s (zs (fun x => Z (offZ Z j k + x)) (0))) SRC.out.nils (by rw [u8s_len, zs_len, Nat.mul_one]) SRC.out.news' (u8s_one _) (by unfold maxLen; omega) (by omega) BWA.out.size
                have R9 := Lib.hid r9
                have b9 : Below wr.heap.size wr W9 := BWA.out.trans (but9.below BWA.out.size (fun k hk => by cases hk; exact Nat.le_refl _))
                have F2 := Lib.hid (HF.out.keep b9)
                have O9 : Hid (W9.ownsRow H 5 1 (.slice x9 0 y9) 0 (bytesOf (fun x => Z (offZ Z j k + x)) 0)) := Lib.hid (by
                  have := World.ownsRow.mono own9 HS.out.hz
                  rw [List.nil_append, zs_u8s] at this
                  rw [Nat.zero_add] at this
                  exact this)
                have B9 := Lib.hid b9
                have e2 : W9.cell? ⟨g, k * 3 + 2, none⟩ = some (.slice none 0 0) := by rw [F2.out.cell k 2 (by omega) (by omega), F2.out.rest k (Nat.le_refl _) (by omega)]; unfold hQ; rw [if_neg (by omega)]; rfl
                have f2 : W9.frozen? ⟨g, k * 3 + 2, none⟩ = false := F2.out.free _
                have c5A := Below.cell' BWA.out (World.block_lt_of_cell? _ _ c5) c5
                have e5 := Below.cell' B9.out (World.block_lt_of_cell? _ _ c5) c5
                clear r9 own9 but9 nb9 b9 hrow
                go_wp2_with (at_builtin; refine wpList_of_append rfl (.tmp 90) (.tmp 99) 56 rfl _ _ _ rfl rfl R9.out ?_)
                clear e2 f2 hWA e5 c5A
                generalize hV : World.setCell W9 _ _ = V3
                obtain ⟨Q', hF'⟩ := F2.out.put (by omega) (Nat.le_trans HS.out.hz B9.out.size) (m := 0) (by unfold lenAt; rw [if_neg (by omega), HSZ.out]) O9.out
                rw [hV] at hF'
                have HF' := Lib.hid hF'
                have BV : Hid (Below w.heap.size wr V3) := Lib.hid (by rw [← hV]; exact Below.setCell (B9.out.mono HS.out.bl.size) F2.out.lt.1 _)
                have SZ : Hid (wr.heap.size ≤ V3.heap.size) := Lib.hid (by rw [← hV]; have := B9.out.size; simpa [World.setCell] using this)
                have O5 : Hid (V3.ownsRow w.heap.size 3 1 (.slice (some ⟨g5, 0, none⟩) j v5c) j (szs (hsz Z) j)) := Lib.hid (by
                  rw [← hV]
                  exact own_but (own_below HS.out.o5 B9.out) ⟨rfl, rfl, rfl, by simp [World.setCell], fun q hq hne => set_blk_other _ (by show q ≠ g; intro e; exact hne (by rw [e]))⟩ (fun q h1 h2 => HS.out.ng (by rw [h1]; exact h2.symm)))
                clear hF' hV
                go_roundw
                case rel => exact ⟨k + 1, c, by omega, by omega, by go_num, by go_num, Lib.hid ⟨HS.out.bl.trans BV.out, Nat.le_trans HS.out.hz SZ.out, ⟨Q', HF'.out⟩, (by have := HEQ.out; show c = offZ Z j k + hsz Z k; rw [HSZ.out]; omega), by omega, O5.out, HS.out.ng, HS.out.h5⟩⟩
                case measure => simp [intOf] <;> omega
              · have hqc : (q : Int) + s ≤ c := by omega
                have htn : ((q : Int) + s).toNat = q + s := by omega
                have hqs : q + s - q = s := by omega
                obtain ⟨WA, hWA⟩ : ∃ WA, wr.alloc (.cells #[] 5) = WA := ⟨_, rfl⟩
                have BWA : Hid (Below wr.heap.size wr WA) := Lib.hid (by rw [← hWA]; exact (Below.refl _ _).alloc (Nat.le_refl _) _)
                have SRC : Hid (BS B WA (some ⟨b, off + q, none⟩) s (c - q) (fun x => Z (offZ Z j k + x))) := Lib.hid (by
                  have := ((HBS.out.keep (HS.out.bl.mono hB)).keep (BWA.out.mono (Nat.le_trans hB HS.out.bl.size))).drop q (by omega) (by omega)
                  have := this.cut (k := s) (m := c - q) (by omega) (by omega) (by omega)
                  rw [HEQ.out] at this ⊢
                  exact this)
                have hrow : WA.ownsRow wr.heap.size 5 1 (.slice (some ⟨wr.heap.size, 0, none⟩) 0 0) 0 [] := by rw [← hWA]; exact nil_row wr _ (Nat.le_refl _)
                obtain ⟨x9, y9, W9, r9, own9, but9, nb9⟩ := run_app (P := Try.prog) (w := WA) (t := 56) Try.underlying56 hi2 hx0 hx1 hx2 rfl (by decide) hrow (some ⟨b, off + q, none⟩) s (c - q) (u8s (zs (fun x => Z (offZ Z j k + x)) (s))) SRC.out.nils (by rw [u8s_len, zs_len, Nat.mul_one]) SRC.out.news' (u8s_one _) (by unfold maxLen; omega) (by omega) BWA.out.size
                have R9 := Lib.hid r9
                have b9 : Below wr.heap.size wr W9 := BWA.out.trans (but9.below BWA.out.size (fun k hk => by cases hk; exact Nat.le_refl _))
                have F2 := Lib.hid (HF.out.keep b9)
                have O9 : Hid (W9.ownsRow H 5 1 (.slice x9 s y9) s (bytesOf (fun x => Z (offZ Z j k + x)) s)) := Lib.hid (by
                  have := World.ownsRow.mono own9 HS.out.hz
                  rw [List.nil_append, zs_u8s] at this
                  rw [Nat.zero_add] at this
                  exact this)
                have B9 := Lib.hid b9
                have e2 : W9.cell? ⟨g, k * 3 + 2, none⟩ = some (.slice none 0 0) := by rw [F2.out.cell k 2 (by omega) (by omega), F2.out.rest k (Nat.le_refl _) (by omega)]; unfold hQ; rw [if_neg (by omega)]; rfl
                have f2 : W9.frozen? ⟨g, k * 3 + 2, none⟩ = false := F2.out.free _
                have c5A := Below.cell' BWA.out (World.block_lt_of_cell? _ _ c5) c5
                have e5 := Below.cell' B9.out (World.block_lt_of_cell? _ _ c5) c5
                clear r9 own9 but9 nb9 b9 hrow
                go_wp2_with (at_builtin; refine wpList_of_append rfl (.tmp 90) (.tmp 99) 56 rfl _ _ _ rfl rfl R9.out ?_)
                clear e2 f2 hWA e5 c5A
                generalize hV : World.setCell W9 _ _ = V3
                obtain ⟨Q', hF'⟩ := F2.out.put (by omega) (Nat.le_trans HS.out.hz B9.out.size) (m := s) (by unfold lenAt; rw [if_neg (by omega), HSZ.out]) O9.out
                rw [hV] at hF'
                have HF' := Lib.hid hF'
                have BV : Hid (Below w.heap.size wr V3) := Lib.hid (by rw [← hV]; exact Below.setCell (B9.out.mono HS.out.bl.size) F2.out.lt.1 _)
                have SZ : Hid (wr.heap.size ≤ V3.heap.size) := Lib.hid (by rw [← hV]; have := B9.out.size; simpa [World.setCell] using this)
                have O5 : Hid (V3.ownsRow w.heap.size 3 1 (.slice (some ⟨g5, 0, none⟩) j v5c) j (szs (hsz Z) j)) := Lib.hid (by
                  rw [← hV]
                  exact own_but (own_below HS.out.o5 B9.out) ⟨rfl, rfl, rfl, by simp [World.setCell], fun q hq hne => set_blk_other _ (by show q ≠ g; intro e; exact hne (by rw [e]))⟩ (fun q h1 h2 => HS.out.ng (by rw [h1]; exact h2.symm)))
                clear hF' hV
                go_roundw
                case rel => exact ⟨k + 1, q + s, by omega, by omega, by go_num, by go_num, Lib.hid ⟨HS.out.bl.trans BV.out, Nat.le_trans HS.out.hz SZ.out, ⟨Q', HF'.out⟩, (by have := HEQ.out; show q + s = offZ Z j k + hsz Z k; rw [HSZ.out]; omega), by omega, O5.out, HS.out.ng, HS.out.h5⟩⟩
                case measure => simp [intOf] <;> omega
            · have hd : decide ((n : Int) < (q : Int) + (s : Int)) = true := by simp; omega
              have hE : rdE Z n = 2 := by unfold rdE; rw [HJ.out]; simp only; rw [if_neg (by omega)]
              have HE := Lib.hid hE
              clear hE hoff hle5 heq
              go_wp2_with fail
              go_ret2
              exact ⟨.inl ⟨by rw [HE.out]; decide, by rw [HE.out]; rfl⟩, HS.out.bl⟩
          · have : k = j := by omega
            subst this
            by_cases h9 : k + 1 ≤ 9
            · have h9' : decide (9 < (k : Int) + 1) = false := by simp; omega
              have hE : rdE Z n = 0 := by unfold rdE; rw [HJ.out]; simp only; rw [if_pos (by omega), if_neg (by omega)]
              have HE := Lib.hid hE
              have ho : offZ Z k k ≤ n := by omega
              have HGD := Lib.hid (hdrs_good _ _ _ HJ.out (fun i hi => by omega))
              have HEQ : Hid (q = offZ Z k k) := Lib.hid heq
              have hqn' : (q : Int) ≤ n := by omega
              have hnc' : (n : Int) ≤ c := by omega
              clear hE heq
              rcases (by omega : (c = q ∧ n = c) ∨ (¬ c = q ∧ q < c)) with ⟨hc1, hc2⟩ | ⟨hcq, hcl⟩
              · subst hc1
                have HM : Hid (0 = n - offZ Z k k) := Lib.hid (by have := HEQ.out; omega)
                have hcn : (c : Int) ≤ n := by omega
                have hz1 : n - c = 0 := by omega
                obtain ⟨WA, hWA⟩ : ∃ WA, wr.alloc (.cells #[] 5) = WA := ⟨_, rfl⟩
                have BWA : Hid (Below wr.heap.size wr WA) := Lib.hid (by rw [← hWA]; exact (Below.refl _ _).alloc (Nat.le_refl _) _)
                have SRC : Hid (BS B WA (some ⟨b, off, none⟩) 0 0 (fun x => Z (offZ Z k k + x))) := Lib.hid ⟨by omega, by omega, fun i hi => by omega, 0, 0, fun h => by omega, fun i hi => by omega⟩
                have hrow : WA.ownsRow wr.heap.size 5 1 (.slice (some ⟨wr.heap.size, 0, none⟩) 0 0) 0 [] := by rw [← hWA]; exact nil_row wr _ (Nat.le_refl _)
                obtain ⟨x9, y9, W9, r9, own9, but9, nb9⟩ := run_app (P := Try.prog) (w := WA) (t := 56) Try.underlying56 hi2 hx0 hx1 hx2 rfl (by decide) hrow (some ⟨b, off, none⟩) 0 0 (u8s (zs (fun x => Z (offZ Z k k + x)) (0))) SRC.out.nils (by rw [u8s_len, zs_len, Nat.mul_one]) SRC.out.news' (u8s_one _) (by unfold maxLen; omega) (by omega) BWA.out.size
                have R9 := Lib.hid r9
                have b9 : Below wr.heap.size wr W9 := BWA.out.trans (but9.below BWA.out.size (fun k hk => by cases hk; exact Nat.le_refl _))
                have F2 := Lib.hid (HF.out.keep b9)
                have O9 : Hid (W9.ownsRow H 5 1 (.slice x9 (0) y9) (0) (bytesOf (fun x => Z (offZ Z k k + x)) (0))) := Lib.hid (by
                  have := World.ownsRow.mono own9 HS.out.hz
                  rw [List.nil_append, zs_u8s] at this
                  rw [Nat.zero_add] at this
                  exact this)
                have B9 := Lib.hid b9
                have e2 : W9.cell? ⟨g, k * 3 + 2, none⟩ = some (.slice none 0 0) := by rw [F2.out.cell k 2 (by omega) (by omega), F2.out.rest k (Nat.le_refl _) (by omega)]; unfold hQ; rw [if_pos rfl]; rfl
                have f2 : W9.frozen? ⟨g, k * 3 + 2, none⟩ = false := F2.out.free _
                clear r9 own9 but9 nb9 b9 hrow
                go_wp2_with (at_builtin; refine wpList_of_append rfl (.tmp 116) (.tmp 119) 56 rfl _ _ _ rfl rfl R9.out ?_)
                clear e2 f2 hWA
                generalize hV : World.setCell W9 _ _ = V3
                obtain ⟨Q', hF'⟩ := F2.out.put (by omega) (Nat.le_trans HS.out.hz B9.out.size) (m := 0) (by unfold lenAt; rw [if_pos rfl]; exact HM.out) O9.out
                rw [hV] at hF'
                have HF' := Lib.hid hF'
                have BV : Hid (Below w.heap.size wr V3) := Lib.hid (by rw [← hV]; exact Below.setCell (B9.out.mono HS.out.bl.size) F2.out.lt.1 _)
                have SZ : Hid (wr.heap.size ≤ V3.heap.size) := Lib.hid (by rw [← hV]; have := B9.out.size; simpa [World.setCell] using this)
                clear hF' hV
                obtain ⟨Q2, hb2, hq2⟩ := HF'.out.blks hn h9 HBS.out.bd (by omega) ho HGD.out.1
                have HB2 := Lib.hid hb2
                have HQ2 := Lib.hid hq2
                clear hb2 hq2
                go_ret2
                exact ⟨.inr ⟨HE.out, k, _, _, Q2, HJ.out, h9, ho, rfl, HB2.out, HQ2.out⟩, HS.out.bl.trans BV.out⟩
              · have HM : Hid (n - q = n - offZ Z k k) := Lib.hid (by have := HEQ.out; omega)
                obtain ⟨WA, hWA⟩ : ∃ WA, wr.alloc (.cells #[] 5) = WA := ⟨_, rfl⟩
                have BWA : Hid (Below wr.heap.size wr WA) := Lib.hid (by rw [← hWA]; exact (Below.refl _ _).alloc (Nat.le_refl _) _)
                have SRC : Hid (BS B WA (some ⟨b, off + q, none⟩) (n - q) (c - q) (fun x => Z (offZ Z k k + x))) := Lib.hid (by
                  have := ((HBS.out.keep (HS.out.bl.mono hB)).keep (BWA.out.mono (Nat.le_trans hB HS.out.bl.size))).drop q (by omega) (by omega)
                  rw [HEQ.out] at this ⊢
                  exact this)
                have hrow : WA.ownsRow wr.heap.size 5 1 (.slice (some ⟨wr.heap.size, 0, none⟩) 0 0) 0 [] := by rw [← hWA]; exact nil_row wr _ (Nat.le_refl _)
                obtain ⟨x9, y9, W9, r9, own9, but9, nb9⟩ := run_app (P := Try.prog) (w := WA) (t := 56) Try.underlying56 hi2 hx0 hx1 hx2 rfl (by decide) hrow (some ⟨b, off + q, none⟩) (n - q) (c - q) (u8s (zs (fun x => Z (offZ Z k k + x)) ((n - q)))) SRC.out.nils (by rw [u8s_len, zs_len, Nat.mul_one]) SRC.out.news' (u8s_one _) (by unfold maxLen; omega) (by omega) BWA.out.size
                have R9 := Lib.hid r9
                have b9 : Below wr.heap.size wr W9 := BWA.out.trans (but9.below BWA.out.size (fun k hk => by cases hk; exact Nat.le_refl _))
                have F2 := Lib.hid (HF.out.keep b9)
                have O9 : Hid (W9.ownsRow H 5 1 (.slice x9 ((n - q)) y9) ((n - q)) (bytesOf (fun x => Z (offZ Z k k + x)) ((n - q)))) := Lib.hid (by
                  have := World.ownsRow.mono own9 HS.out.hz
                  rw [List.nil_append, zs_u8s] at this
                  rw [Nat.zero_add] at this
                  exact this)
                have B9 := Lib.hid b9
                have e2 : W9.cell? ⟨g, k * 3 + 2, none⟩ = some (.slice none 0 0) := by rw [F2.out.cell k 2 (by omega) (by omega), F2.out.rest k (Nat.le_refl _) (by omega)]; unfold hQ; rw [if_pos rfl]; rfl
                have f2 : W9.frozen? ⟨g, k * 3 + 2, none⟩ = false := F2.out.free _
                clear r9 own9 but9 nb9 b9 hrow
                go_wp2_with (at_builtin; refine wpList_of_append rfl (.tmp 116) (.tmp 119) 56 rfl _ _ _ rfl rfl R9.out ?_)
                clear e2 f2 hWA
                generalize hV : World.setCell W9 _ _ = V3
                obtain ⟨Q', hF'⟩ := F2.out.put (by omega) (Nat.le_trans HS.out.hz B9.out.size) (m := (n - q)) (by unfold lenAt; rw [if_pos rfl]; exact HM.out) O9.out
                rw [hV] at hF'
                have HF' := Lib.hid hF'
                have BV : Hid (Below w.heap.size wr V3) := Lib.hid (by rw [← hV]; exact Below.setCell (B9.out.mono HS.out.bl.size) F2.out.lt.1 _)
                have SZ : Hid (wr.heap.size ≤ V3.heap.size) := Lib.hid (by rw [← hV]; have := B9.out.size; simpa [World.setCell] using this)
                clear hF' hV
                obtain ⟨Q2, hb2, hq2⟩ := HF'.out.blks hn h9 HBS.out.bd (by omega) ho HGD.out.1
                have HB2 := Lib.hid hb2
                have HQ2 := Lib.hid hq2
                clear hb2 hq2
                go_ret2
                exact ⟨.inr ⟨HE.out, k, _, _, Q2, HJ.out, h9, ho, rfl, HB2.out, HQ2.out⟩, HS.out.bl.trans BV.out⟩
            · have hE : rdE Z n = 3 := by unfold rdE; rw [HJ.out]; simp only; rw [if_pos (by omega), if_pos (by omega)]
              have HE := Lib.hid hE
              have h9' : decide (9 < (k : Int) + 1) = true := by simp; omega
              clear hE heq
              go_wp2_with fail
              go_ret2
              exact ⟨.inl ⟨by rw [HE.out]; decide, by rw [HE.out]; rfl⟩, HS.out.bl⟩
      · have hz' : decide (z < 128) = false := by simpa using hzl
        by_cases hp4 : p + 4 ≤ n
        · have hd : decide ((n : Int) < (p : Int) + 4) = false := by simp; omega
          have cy1 : wr.cell? ⟨b, off + (p + 1), none⟩ = some (.int .u8 (Z (p + 1))) := HCL.out (p + 1) (by omega)
          have cy2 : wr.cell? ⟨b, off + (p + 2), none⟩ = some (.int .u8 (Z (p + 2))) := HCL.out (p + 2) (by omega)
          have cy3 : wr.cell? ⟨b, off + (p + 3), none⟩ = some (.int .u8 (Z (p + 3))) := HCL.out (p + 3) (by omega)
          have by1 := HBS.out.bd (p + 1) (by omega)
          have by2 := HBS.out.bd (p + 2) (by omega)
          have by3 := HBS.out.bd (p + 3) (by omega)
          have hvx : hv Z j = Z (p + 1) * 65536 + Z (p + 2) * 256 + Z (p + 3) := by unfold hv; rw [heq]
          obtain ⟨d1, hd1⟩ : ∃ d, Z (p + 1) = d := ⟨_, rfl⟩
          obtain ⟨d2, hd2⟩ : ∃ d, Z (p + 2) = d := ⟨_, rfl⟩
          obtain ⟨d3, hd3⟩ : ∃ d, Z (p + 3) = d := ⟨_, rfl⟩
          rw [hd1] at cy1 by1 hvx
          rw [hd2] at cy2 by2 hvx
          rw [hd3] at cy3 by3 hvx
          have HX := Lib.hid hvx
          clear hd1 hd2 hd3 hvx
          obtain ⟨p10, p11⟩ := by1
          obtain ⟨p20, p21⟩ := by2
          obtain ⟨p30, p31⟩ := by3
          have q1 : (p : Int) + 1 < n := by omega
          have q1' : 0 ≤ (p : Int) + 1 := by omega
          have q2' : 0 ≤ (p : Int) + 2 := by omega
          have q3' : 0 ≤ (p : Int) + 3 := by omega
          have q2 : (p : Int) + 2 < n := by omega
          have q3 : (p : Int) + 3 < n := by omega
          have t1 : ((p : Int) + 1).toNat = p + 1 := by omega
          have t2 : ((p : Int) + 2).toNat = p + 2 := by omega
          have t3 : ((p : Int) + 3).toNat = p + 3 := by omega
          have hnx : hdrs Z n (n + 1) 0 = hdrs Z n (n + 1 - (j + 1)) (j + 1) := by
            rw [HS.out.hd, show n + 1 - j = (n - j) + 1 by omega]
            conv => lhs; unfold hdrs
            rw [if_neg (by omega), if_neg (by rw [HZ.out]; omega), if_neg (by omega), show n + 1 - (j + 1) = n - j by omega]
          have HNX := Lib.hid hnx
          have HPQ : Hid (p + 4 = 4 * (j + 1)) := Lib.hid (by omega)
          have hj1 : j + 1 ≤ 1000 := by omega
          have hjn1 : 4 * (j + 1) ≤ n := by omega
          clear hnx
          obtain ⟨WA, hWA⟩ : ∃ WA, (wr.alloc (.cells #[.int .u8 (z - 128), .int .i64 ((d1 * 65536 + d2 * 256 + d3) / 1024), .slice none 0 0] 110)).drew = WA := ⟨_, rfl⟩
          have BWA : Hid (Below wr.heap.size wr WA) := Lib.hid (by rw [← hWA]; exact ((Below.refl _ _).alloc (Nat.le_refl _) _).drew)
          have hnew : WA.heap[wr.heap.size]? = some (.cells #[.int .u8 (z - 128), .int .i64 ((d1 * 65536 + d2 * 256 + d3) / 1024), .slice none 0 0] 110 (0, 0)) := by rw [← hWA, drew_blk]; exact alloc_blk_new
          have czA : WA.cell? ⟨b, off + p, none⟩ = some (.int .u8 z) := Below.cell' BWA.out (World.block_lt_of_cell? _ _ cz) cz
          obtain ⟨x6, y6, W3, r6, own6, but6, nb6⟩ := run_app (P := Try.prog) (w := WA) (t := 105) Try.underlying105 hi hz0 hz1 hz2 rfl (by decide) (own_below HS.out.o4 BWA.out) (some ⟨wr.heap.size, 0, none⟩) 1 1 [.int .u8 (z - 128), .int .i64 ((d1 * 65536 + d2 * 256 + d3) / 1024), .slice none 0 0] (fun e => by cases e) rfl (fun ad e jj u hj => by
            cases e
            rw [addr_add, Nat.zero_add, cell_blk hnew, ← hj]
            simp) (by simp [Value.oneCell']) (by unfold maxLen; omega) (by omega) (Nat.le_trans hwz BWA.out.size)
          have R6 := Lib.hid r6
          have hcon : bcells (hQm Z) j ++ [.int .u8 (z - 128), .int .i64 ((d1 * 65536 + d2 * 256 + d3) / 1024), .slice none 0 0] = bcells (hQm Z) (j + 1) := by
            rw [bcells_succ]
            simp only [hQm]
            rw [HZ.out, HX.out]
          rw [hcon] at own6
          have O6 := Lib.hid own6
          have HL6 := Lib.hid own6.lt
          have o7 := own_but (own_below HS.out.o5 BWA.out) but6 (fun g h1 h2 => HS.out.ap g h2 h1)
          have AP := fun g (h1 : (Value.slice x6 (j + 1) y6).ownBlock = some g) (h2 : (Value.slice v5a j v5c).ownBlock = some g) => (nb6 g h1).elim (fun h3 => HS.out.ap g h3 h2) (fun h3 => absurd (HS.out.o5.lt g h2).2 (by have := BWA.out.size; omega))
          have BD3 : Hid (Below w.heap.size wr W3) := Lib.hid ((BWA.out.mono hwz).trans (but6.below (Nat.le_trans hwz BWA.out.size) (fun g hg => (HS.out.o4.lt g hg).1)))
          clear r6 own6 but6 nb6 hcon hnew BWA
          obtain ⟨WB, hWB⟩ : ∃ WB, W3.alloc (.cells #[.int .i64 ((d1 * 65536 + d2 * 256 + d3) % 1024)] 3) = WB := ⟨_, rfl⟩
          have BWB : Hid (Below W3.heap.size W3 WB) := Lib.hid (by rw [← hWB]; exact (Below.refl _ _).alloc (Nat.le_refl _) _)
          obtain ⟨x7, y7, W4, r7, own7, but7, nb7⟩ := run_app (P := Try.prog) (w := WB) (t := 39) Try.underlying39 hi1 hy0 hy1 hy2 rfl (by decide) (own_below o7 BWB.out) (some ⟨W3.heap.size, 0, none⟩) 1 1 [.int .i64 ((d1 * 65536 + d2 * 256 + d3) % 1024)] (fun e => by cases e) rfl (fun ad e jj u hj => by cases e; rw [← hWB]; exact cell_one_at (w := W3) rfl jj u hj) (one_cell rfl) (by unfold maxLen; omega) (by omega) (Nat.le_trans (Nat.le_trans hwz BD3.out.size) BWB.out.size)
          have R7 := Lib.hid r7
          have hcon : szs (hsz Z) j ++ [.int .i64 ((d1 * 65536 + d2 * 256 + d3) % 1024)] = szs (hsz Z) (j + 1) := by
            rw [szs_succ]
            unfold hsz
            rw [HX.out, Int.toNat_of_nonneg (by omega)]
          rw [hcon] at own7
          have O7 := Lib.hid own7
          have O6 := Lib.hid (own_but (own_below O6.out BWB.out) but7 (fun g h1 h2 => AP g h1 h2))
          have AP7 : Hid (∀ g, (Value.slice x6 (j + 1) y6).ownBlock = some g → (Value.slice x7 (j + 1) y7).ownBlock ≠ some g) := Lib.hid (fun g h1 h2 => by
            rcases nb7 g h2 with h3 | h3
            · exact AP g h1 h3
            · have hlt := (HL6.out g h1).2
              have := BWB.out.size
              omega)
          have BD4 : Hid (Below w.heap.size wr W4) := Lib.hid (BD3.out.trans ((BWB.out.mono (Nat.le_trans hwz BD3.out.size)).trans (but7.below (Nat.le_trans (Nat.le_trans hwz BD3.out.size) BWB.out.size) (fun g hg => (HS.out.o5.lt g hg).1))))
          clear r7 own7 but7 nb7 hcon BWB o7 AP heq hjn
          have w0 : IntKind.i64.wrap ((p : Int) + 1) = (p : Int) + 1 := IntWalk.i64_in _ (by omega)
          have w1 : IntKind.i64.wrap ((p : Int) + 2) = (p : Int) + 2 := IntWalk.i64_in _ (by omega)
          have w2 : IntKind.i64.wrap ((p : Int) + 3) = (p : Int) + 3 := IntWalk.i64_in _ (by omega)
          have w3 : IntKind.i64.wrap (d1 * 65536) = d1 * 65536 := IntWalk.i64_in _ (by omega)
          have w4 : IntKind.i64.wrap (d2 * 256) = d2 * 256 := IntWalk.i64_in _ (by omega)
          have w5 : IntKind.i64.wrap (d1 * 65536 + d2 * 256) = d1 * 65536 + d2 * 256 := IntWalk.i64_in _ (by omega)
          have w6 : IntKind.i64.wrap (d1 * 65536 + d2 * 256 + d3) = d1 * 65536 + d2 * 256 + d3 := IntWalk.i64_in _ (by omega)
          have w7 : IntKind.i64.wrap (d1) = d1 := IntWalk.i64_in _ (by omega)
          have w8 : IntKind.i64.wrap (d2) = d2 := IntWalk.i64_in _ (by omega)
          have w9 : IntKind.i64.wrap (d3) = d3 := IntWalk.i64_in _ (by omega)
          go_wp2_with fail
          refine wp_region_still_lit (by kernel_rfl) (by kernel_rfl) ?_
          iterate 23 still_step
          refine wpStill_nil ?_
          change Exit.then _ _ _ _ wr.drew
          clear w0 w1 w2 w3 w4 w5 w6 w7 w8 w9
          go_wp2_with (first | (at_builtin; refine wpList_of_append rfl (.tmp 55) (.tmp 64) 105 rfl _ _ _ rfl rfl R6.out ?_) | (at_builtin; refine wpList_of_append rfl (.tmp 66) (.tmp 69) 39 rfl _ _ _ rfl rfl R7.out ?_))
          go_roundw
          case rel => exact ⟨j + 1, p + 4, by omega, hj1, by go_num, Lib.hid ⟨HS.out.bl.trans BD4.out, HPQ.out, HNX.out, hjn1, O6.out, O7.out, AP7.out⟩⟩
          case measure => simp [intOf] <;> omega
        · have hno : hdrs Z n (n + 1) 0 = none := by
            rw [HS.out.hd, show n + 1 - j = (n - j) + 1 by omega]
            unfold hdrs
            rw [if_neg (by omega), if_neg (by rw [HZ.out]; omega), if_pos (by omega)]
          have hE : rdE Z n = 2 := by unfold rdE; rw [hno]
          have HE := Lib.hid hE
          have hd : decide ((n : Int) < (p : Int) + 4) = true := by simp; omega
          clear hno hE heq hjn
          go_wp2_with fail
          go_ret2
          exact ⟨.inl ⟨by rw [HE.out]; decide, by rw [HE.out]; rfl⟩, HS.out.bl⟩
end Go.Proofs.Ytdmbdageohjodaa
