/-
  Chapter 36: what is written.
-/
import Derived.Test.YtdmbdageohjodaaConc
import Derived.Test.YtdmbdageohjodaaMixO
namespace Go.Proofs.Ytdmbdageohjodaa
open Go.RowKit
set_option linter.unusedVariables false
set_option linter.unusedSimpArgs false
attribute [local irreducible] wpStill wpQuiet
attribute [local go_sem] MixC.rdOp MixC.rd MixC.rdUpon MixC.mvUpon

def hdV (b : Blk) : Int := b.h * 1024 + b.n
def putL (x : Int) (m : Nat) : List Int := (List.range m).map fun i => x / 2 ^ (8 * (m - 1 - i)) % 256
theorem putL_len (x : Int) (m : Nat) : (putL x m).length = m := by simp [putL]
theorem putL_oct (x : Int) (m : Nat) : Oct (putL x m) := fun y hy => by
  simp only [putL, List.mem_map] at hy
  obtain ⟨i, _, rfl⟩ := hy
  omega
theorem bytesOf_put (Z : Nat → Int) (n : Nat) (x : Int) (m : Nat) : bytesOf (putZ Z n x m) (n + m) = bytesOf Z n ++ u8s (putL x m) := by
  unfold bytesOf u8s putL
  rw [List.range_add, List.map_append, List.map_map, List.map_map]
  congr 1
  · exact List.map_congr_left fun i hi => by unfold putZ; rw [if_pos (List.mem_range.1 hi)]
  · exact List.map_congr_left fun i hi => by
      show Value.int .u8 (putZ Z n x m (n + i)) = _
      unfold putZ
      rw [if_neg (by omega), Nat.add_sub_cancel_left]
      rfl
/-- octets.Put, of lists -/
theorem put_l (a : Option Addr) (n cap : Nat) (L : List Int) (base m : Nat) (x : Int) (w : World) (ho : w.ownsRow base 5 1 (.slice a n cap) n (u8s L)) (hO : Oct L) (hn : n ≤ 100000) (hm1 : 1 ≤ m) (hm2 : m ≤ 8) (hx0 : 0 ≤ x) (hx1 : x ≤ 18446744073709551615) :
    Calls Try.prog 96 #[.slice a n cap, .int .i64 m, .int .u64 x] w fun e w' => ∃ a' c', e = .returned (.slice a' (n + m) c') ∧ w'.ownsRow w.heap.size 5 1 (.slice a' (n + m) c') (n + m) (u8s (L ++ putL x m)) ∧ Below w.heap.size w w' := by
  obtain ⟨hl, a1, c1, he, hb⟩ := BS.own ho hO (by omega)
  cases he
  refine (put_good _ a n cap (gz L) m x w hb (Nat.le_refl _) hn hm1 hm2 hx0 hx1).mono ?_
  rintro e w' ⟨v, rfl, o, b⟩
  obtain ⟨a', c', rfl⟩ := own_len o
  refine ⟨a', c', rfl, ?_, b⟩
  rw [u8s_app, u8s_bytes L, ← hl, ← bytesOf_put]
  exact o
def hdL (b : Blk) : List Int := (128 + b.t) :: putL (hdV b) 3
theorem hdL_oct (b : Blk) (h0 : 0 ≤ b.t) (h1 : b.t < 128) : Oct (hdL b) := fun y hy => by
  rcases List.mem_cons.1 hy with rfl | hy
  · omega
  · exact putL_oct _ _ y hy
def HLs (Q : Nat → Blk) (k : Nat) : List Int := (List.range k).flatMap fun i => hdL (Q i)
def DLs (Q : Nat → Blk) (k : Nat) : List Int := (List.range k).flatMap fun i => zs (Q i).Z (Q i).n
theorem HLs_succ (Q : Nat → Blk) (k : Nat) : HLs Q (k + 1) = HLs Q k ++ hdL (Q k) := by simp [HLs, List.range_succ]
theorem DLs_succ (Q : Nat → Blk) (k : Nat) : DLs Q (k + 1) = DLs Q k ++ zs (Q k).Z (Q k).n := by simp [DLs, List.range_succ]
theorem HLs_oct (Q : Nat → Blk) (k : Nat) (h : ∀ i, i < k → 0 ≤ (Q i).t ∧ (Q i).t < 128) : Oct (HLs Q k) := by
  induction k with
  | zero => exact Oct.nil
  | succ k ih => rw [HLs_succ]; exact (ih fun i hi => h i (by omega)).app (hdL_oct _ (h k (by omega)).1 (h k (by omega)).2)
theorem HLs_len (Q : Nat → Blk) (k : Nat) : (HLs Q k).length = 4 * k := by
  induction k with
  | zero => rfl
  | succ k ih => rw [HLs_succ, List.length_append, ih]; simp [hdL, putL_len]; omega
/-- the heads behind k rounds of 'len' -/
def HXs (Q : Nat → Blk) (len k : Nat) : List Int := if k = len then HLs Q (k - 1) ++ [(Q (k - 1)).t] else HLs Q k
def okTo (Q : Nat → Blk) (len k : Nat) : Prop := ∀ i, i < k → mayB (Q i).t (Q i).h (Q i).n (decide (i + 1 = len)) = true
def wrL (Q : Nat → Blk) (len : Nat) : List Int := HXs Q len len ++ DLs Q len
def wok (Q : Nat → Blk) (len : Nat) : Prop := 1 ≤ len ∧ len ≤ 9 ∧ okTo Q len len ∧ (wrL Q len).length ≤ 1200
theorem DLs_le (Q : Nat → Blk) (k : Nat) (h : ∀ i, i < k → (Q i).n ≤ 2000) : (DLs Q k).length ≤ k * 2000 := by
  induction k with
  | zero => simp [DLs]
  | succ k ih =>
    have := ih (fun i hi => h i (by omega))
    have := h k (by omega)
    rw [DLs_succ, List.length_append, zs_len]
    omega
theorem HXs_le (Q : Nat → Blk) (len k : Nat) (h : k ≤ len) : (HXs Q len k).length ≤ 4 * k + 1 := by
  unfold HXs
  split
  · rw [List.length_append, HLs_len]; simp; omega
  · rw [HLs_len]; omega
def WPost (Q : Nat → Blk) (len : Nat) (w : World) (e : Ending) (w' : World) : Prop :=
  ((wok Q len ∧ ∃ a N c, e = .returned (.tuple #[.slice a N c, .int .i64 0]) ∧ N = (wrL Q len).length ∧ w'.ownsRow w.heap.size 5 1 (.slice a N c) N (u8s (wrL Q len))) ∨ (¬ wok Q len ∧ e = .returned (.tuple #[.slice none 0 0, .int .i64 1]))) ∧ Below w.heap.size w w'
theorem okTo.t {Q : Nat → Blk} {len k : Nat} (h : okTo Q len k) {B : Nat} {w : World} (ho : ∀ i, i < k → BlkOk B w (Q i)) : ∀ i, i < k → 0 ≤ (Q i).t ∧ (Q i).t < 128 := fun i hi => by
  have := h i hi
  refine ⟨(ho i hi).t0, ?_⟩
  cases hd : decide (i + 1 = len) <;> rw [hd] at this
  · exact ((mayB_mid _ _ _).1 this).1
  · exact ((mayB_last _ _ _).1 this).1
theorem orV (h : Int) (n : Nat) (h0 : 0 ≤ h) (h1 : h ≤ 16383) (hn : n ≤ 1023) : bits BinOp.or IntKind.u64 (h * 1024) n = h * 1024 + n := by
  obtain ⟨h, rfl⟩ := Int.eq_ofNat_of_zero_le h0
  have e := bits_or_u64_nat (h * 1024) n (by omega) (by omega)
  rw [show ((h : Int) * 1024) = ((h * 1024 : Nat) : Int) by omega, e]
  have := Nat.two_pow_add_eq_or_of_lt (i := 10) (b := n) (by omega) h
  have e2 : h * 1024 = 2 ^ 10 * h := by omega
  rw [e2, ← this]
  omega
theorem zs_gz (L : List Int) : zs (gz L) L.length = L := by
  apply List.ext_getElem?
  intro i
  unfold zs gz
  rw [List.getElem?_map]
  by_cases h : i < L.length
  · rw [List.getElem?_range h, List.getElem?_eq_getElem h]; simp [h]
  · rw [List.getElem?_eq_none (by simpa using h), List.getElem?_eq_none (by omega)]; rfl
def two (x y : Sl) : Nat → Sl := fun i => if i = 0 then x else y
theorem cats_two (x y : Sl) : cats (two x y) 2 = x.l ++ y.l := by simp [cats, two, List.range_succ]
theorem DLs_oct (Q : Nat → Blk) {B : Nat} {w : World} (k : Nat) (h : ∀ i, i < k → BlkOk B w (Q i)) : Oct (DLs Q k) := by
  induction k with
  | zero => exact Oct.nil
  | succ k ih => rw [DLs_succ]; exact (ih fun i hi => h i (by omega)).app (zs_oct (h k (by omega)).z)
theorem HXs_oct (Q : Nat → Blk) (len : Nat) (h0 : 0 < len) (h : ∀ i, i < len → 0 ≤ (Q i).t ∧ (Q i).t < 128) : Oct (HXs Q len len) := by
  unfold HXs
  rw [if_pos rfl]
  refine (HLs_oct Q _ fun i hi => h i (by omega)).app fun y hy => ?_
  have := h (len - 1) (by omega)
  simp at hy
  omega
theorem or128 (t : Int) (h0 : 0 ≤ t) (h1 : t < 128) : bits BinOp.or IntKind.u8 128 t = 128 + t := by
  obtain ⟨t, rfl⟩ := Int.eq_ofNat_of_zero_le h0
  have : ∀ t : Fin 128, bits BinOp.or IntKind.u8 128 ((t.val : Nat) : Int) = 128 + ((t.val : Nat) : Int) := by decide
  exact this ⟨t, by omega⟩
structure WSt (Q : Nat → Blk) (len : Nat) (w : World) (k : Nat) (v4 v5 : Value) (wr : World) : Prop where
  bl : Below w.heap.size w wr
  ok : okTo Q len k
  o4 : wr.ownsRow w.heap.size 5 1 v4 (HXs Q len k).length (u8s (HXs Q len k))
  o5 : wr.ownsRow w.heap.size 5 1 v5 (DLs Q k).length (u8s (DLs Q k))
  ap : ∀ g, v4.ownBlock = some g → v5.ownBlock ≠ some g
set_option maxRecDepth 100000 in
set_option maxHeartbeats 4000000 in
theorem write_any (B : Nat) (ad : Option Addr) (len cap : Nat) (Q : Nat → Blk) (w : World) (hQ : Blks B w ad len cap Q) (hB : B ≤ w.heap.size) (hn : ∀ i, i < len → (Q i).n ≤ 2000) :
    Calls Try.prog 57 #[.slice ad len cap] w (WPost Q len w) := by
  obtain ⟨i0, hi, hz0, hz1, hz2⟩ := info_parts infoU8
  by_cases hlen : 1 ≤ len ∧ len ≤ 9
  · obtain ⟨hl1, hl9⟩ := hlen
    have hle := hQ.le
    have hmx := hQ.max
    have HQ := Lib.hid hQ
    obtain ⟨b, off, hp, hcell⟩ := hQ.mem
    obtain ⟨rfl, hbB⟩ := hp (by omega)
    have HC := Lib.hid hcell
    have HN := Lib.hid hn
    clear hQ hcell hp hn
    have hl1' : decide ((len : Int) < 1) = false := by simp; omega
    have hl9' : decide (9 < (len : Int)) = false := by simp; omega
    go_enter Try.func57, Try.ntmps57
    go_wp2_with fail
    go_loopw [4, 5, 20] (fun s4 s5 si wr => ∃ k : Nat, k ≤ len ∧ si = .int .i64 k ∧ Hid (WSt Q len w k s4 s5 wr)) (fun _ _ si _ => len - (intOf si).toNat)
    case atStart => exact ⟨0, by omega, rfl, Lib.hid ⟨Below.refl _ _, fun i hi => by omega, by simp only [HXs, if_neg (by omega : ¬ 0 = len)]; exact World.ownsRow_nil _ _ _ _, World.ownsRow_nil _ _ _ _, fun g h => by cases h⟩⟩
    case round =>
      obtain ⟨k, hk, rfl, HS⟩ := hrel
      obtain ⟨v4a, v4c, h4⟩ := own_len HS.out.o4
      obtain ⟨v5a, v5c, h5⟩ := own_len HS.out.o5
      subst h4 h5
      by_cases hlt : k < len
      · have bw := HS.out.bl
        have hcl : ∀ j, j < 3 → wr.cell? ⟨b, off + k * 3 + j, none⟩ = some ((Q k).cell j) := fun j hj => Below.cell' (bw.mono hB) hbB (HC.out k hlt j hj)
        have c0 := hcl 0 (by omega)
        have c1 := hcl 1 (by omega)
        have c2 := hcl 2 (by omega)
        have OK := Lib.hid ((HQ.out.ok k hlt).keep (bw.mono hB))
        have n0 := HN.out k hlt
        have BW := Lib.hid bw
        clear bw hcl
        obtain ⟨q, hq⟩ : ∃ q, Q k = q := ⟨_, rfl⟩
        have HQK := Lib.hid hq
        rw [hq] at c0 c1 c2 OK n0
        clear hq
        obtain ⟨t, h, a, n, c, Z⟩ := q
        simp only [Blk.cell, Nat.add_zero] at c0 c1 c2 n0
        have t0 := OK.out.t0
        have t1 := OK.out.t1
        simp only at t0 t1
        by_cases hlast : k + 1 = len
        · have hl' : decide ((k : Int) = (len : Int) - 1) = true := by simp; omega
          have hl'' : ((k : Int) == (len : Int) - 1) = true := by simp; omega
          go_wp2_with fail
          generalize hW : World.alloc wr _ = W1
          have BA : Hid (Below wr.heap.size wr W1) := Lib.hid (by rw [← hW]; exact (Below.refl _ _).alloc (Nat.le_refl _) _)
          have GA : Hid (W1.heap[wr.heap.size]? = some (.cells #[.int .u8 t, .int .i64 h, .slice a n c] 110 (0, 0))) := Lib.hid (by rw [← hW]; exact alloc_blk_new)
          clear hW
          obtain ⟨g7, hg7⟩ : ∃ g7, g7 = wr.heap.size := ⟨_, rfl⟩
          rw [← hg7] at GA
          rw [← hg7]
          have g7w : wr.heap.size ≤ g7 := by omega
          clear hg7
          refine (may_any t h a n c true W1).mono ?_
          rintro e W2 ⟨rfl, b2⟩
          have B2 := Lib.hid (BA.out.trans (b2.mono BA.out.size))
          have G2 := Lib.hid (Below.blk b2 GA.out (lt_of_block GA.out))
          clear b2 BA GA
          cases hm : mayB t h n true with
          | false =>
            go_wp2_with fail
            go_ret2
            have hno : ¬ wok Q len := fun hw => by
              have := hw.2.2.1 k hlt
              rw [HQK.out] at this
              simp only [decide_eq_true hlast, hm] at this
              cases this
            exact ⟨.inr ⟨hno, rfl⟩, BW.out.trans (B2.out.mono BW.out.size)⟩
          | true =>
            obtain ⟨q1, q2⟩ := (mayB_last _ _ _).1 hm
            have HM := Lib.hid hm
            clear hm
            obtain ⟨WA, hWA⟩ : ∃ WA, W2.alloc (.cells #[.int .u8 t] 5) = WA := ⟨_, rfl⟩
            have BWA : Hid (Below W2.heap.size W2 WA) := Lib.hid (by rw [← hWA]; exact (Below.refl _ _).alloc (Nat.le_refl _) _)
            have hX : HXs Q len k = HLs Q k := by unfold HXs; rw [if_neg (by omega)]
            have hL : (HLs Q k).length ≤ 40 := by rw [HLs_len]; omega
            have hD : (DLs Q k).length ≤ k * 2000 := DLs_le Q k (fun i hi => HN.out i (by omega))
            have o4 := own_below (own_below HS.out.o4 B2.out) BWA.out
            have o5 := own_below (own_below HS.out.o5 B2.out) BWA.out
            rw [hX] at o4
            have hbs : w.heap.size ≤ W2.heap.size := Nat.le_trans BW.out.size B2.out.size
            obtain ⟨x4, y4, W4, r4, own4, but4, nb4⟩ := run_app (P := Try.prog) (w := WA) (t := 56) Try.underlying56 hi hz0 hz1 hz2 rfl (by decide) o4 (some ⟨W2.heap.size, 0, none⟩) 1 1 [.int .u8 t] (fun e => by cases e) rfl (fun ad e j u hj => by cases e; rw [← hWA]; exact cell_one_at (w := W2) rfl j u hj) (one_cell rfl) (by unfold maxLen; omega) (by omega) (Nat.le_trans hbs BWA.out.size)
            have lt4 : ∀ g, (Value.slice v4a (HLs Q k).length v4c).ownBlock = some g → w.heap.size ≤ g ∧ g < wr.heap.size := fun g hg => by have := HS.out.o4; rw [hX] at this; exact this.lt g hg
            have O5 := Lib.hid (own_but o5 but4 (fun g h1 h2 => HS.out.ap g (by rw [hX]; exact h2) h1))
            have G4 : Hid (HasO g7 (.cells #[.int .u8 t, .int .i64 h, .slice a n c] 110 (0, 0)) W4) := Lib.hid (but4.blk (Below.blk BWA.out G2.out (lt_of_block G2.out)) (fun e => by have := (lt4 g7 e).2; omega))
            have BD4 : Hid (Below w.heap.size wr W4) := Lib.hid (((B2.out.mono BW.out.size).trans (BWA.out.mono hbs)).trans (but4.below (Nat.le_trans hbs BWA.out.size) (fun g hg => (lt4 g hg).1)))
            have AP4 : Hid (∀ g, (Value.slice x4 ((HLs Q k).length + 1) y4).ownBlock = some g → (Value.slice v5a (DLs Q k).length v5c).ownBlock ≠ some g) := Lib.hid (fun g h1 h2 => by
              rcases nb4 g h1 with h3 | h3
              · exact HS.out.ap g (by rw [hX]; exact h3) h2
              · have := (HS.out.o5.lt g h2).2; have := B2.out.size; have := BWA.out.size; omega)
            have R4 := Lib.hid r4
            have O4 := Lib.hid own4
            have HXK := Lib.hid hX
            clear o4 o5 r4 own4 but4 nb4 lt4 hX BWA
            have e0 : W2.cell? ⟨g7, 0, none⟩ = some (.int .u8 t) := cell_blk G2.out
            have HX1 : Hid ((HXs Q len (k + 1)).length = (HLs Q k).length + 1 ∧ u8s (HXs Q len (k + 1)) = u8s (HLs Q k) ++ [.int .u8 t]) := Lib.hid (by
              have e : HXs Q len (k + 1) = HLs Q k ++ [t] := by unfold HXs; rw [if_pos hlast, Nat.add_sub_cancel, HQK.out]
              rw [e]
              exact ⟨by simp, by rw [u8s_app]; rfl⟩)
            have OKN : Hid (okTo Q len (k + 1)) := Lib.hid (fun i hi => by
              rcases Nat.lt_or_ge i k with h1 | h1
              · exact HS.out.ok i h1
              · have : i = k := by omega
                subst this
                rw [HQK.out, decide_eq_true hlast]
                exact HM.out)
            rw [HXK.out]
            have hD1 : (DLs Q (k + 1)).length = (DLs Q k).length + n := by rw [DLs_succ, List.length_append, zs_len, HQK.out]
            have HD1 := Lib.hid hD1
            have HDV : Hid (u8s (DLs Q (k + 1)) = u8s (DLs Q k) ++ u8s (zs Z n)) := Lib.hid (by rw [DLs_succ, u8s_app, HQK.out])
            have e2 : W4.cell? ⟨g7, 2, none⟩ = some (.slice a n c) := cell_blk G4.out
            have BZ : Hid (BS B W4 a n c Z) := Lib.hid (OK.out.z.keep (BD4.out.mono hB))
            obtain ⟨x5, y5, W5, r5, own5, but5, nb5⟩ := run_app (P := Try.prog) (w := W4) (t := 56) Try.underlying56 hi hz0 hz1 hz2 rfl (by decide) O5.out a n c (u8s (zs Z n)) BZ.out.nils (by rw [u8s_len, zs_len, Nat.mul_one]) BZ.out.news' (u8s_one _) (by unfold maxLen; omega) (by omega) (Nat.le_trans BW.out.size BD4.out.size)
            have R5 := Lib.hid r5
            have OO5 := Lib.hid own5
            have OO4 := Lib.hid (own_but O4.out but5 (fun g h1 h2 => AP4.out g h1 h2))
            have BW5 : Hid (Below w.heap.size w W5) := Lib.hid ((BW.out.trans BD4.out).trans (but5.below (Nat.le_trans BW.out.size BD4.out.size) (fun g hg => (O5.out.lt g hg).1)))
            have AP5 : Hid (∀ g, (Value.slice x4 ((HLs Q k).length + 1) y4 : Value).ownBlock = some g → (Value.slice x5 ((DLs Q k).length + n) y5).ownBlock ≠ some g) := Lib.hid (fun g h1 h2 => by
              rcases nb5 g h2 with h3 | h3
              · exact AP4.out g h1 h3
              · have := (O4.out.lt g h1).2; omega)
            clear r5 own5 but5 nb5 hD1
            go_wp2_with (first | (at_builtin; refine wpList_of_append rfl (.tmp 53) (.tmp 56) 56 rfl _ _ _ rfl rfl R4.out ?_) | (at_builtin; refine wpList_of_append rfl (.tmp 58) (.tmp 60) 56 rfl _ _ _ rfl rfl R5.out ?_))
            go_roundw
            case rel => exact ⟨k + 1, by omega, by go_num, Lib.hid ⟨BW5.out, OKN.out, by rw [HX1.out.1, HX1.out.2]; exact OO4.out, by rw [HD1.out, HDV.out]; exact OO5.out, AP5.out⟩⟩
            case measure => simp [intOf] <;> omega
        · have hl' : decide ((k : Int) = (len : Int) - 1) = false := by simp; omega
          have hl'' : ((k : Int) == (len : Int) - 1) = false := by simp; omega
          go_wp2_with fail
          generalize hW : World.alloc wr _ = W1
          have BA : Hid (Below wr.heap.size wr W1) := Lib.hid (by rw [← hW]; exact (Below.refl _ _).alloc (Nat.le_refl _) _)
          have GA : Hid (W1.heap[wr.heap.size]? = some (.cells #[.int .u8 t, .int .i64 h, .slice a n c] 110 (0, 0))) := Lib.hid (by rw [← hW]; exact alloc_blk_new)
          clear hW
          obtain ⟨g7, hg7⟩ : ∃ g7, g7 = wr.heap.size := ⟨_, rfl⟩
          rw [← hg7] at GA
          rw [← hg7]
          have g7w : wr.heap.size ≤ g7 := by omega
          clear hg7
          refine (may_any t h a n c false W1).mono ?_
          rintro e W2 ⟨rfl, b2⟩
          have B2 := Lib.hid (BA.out.trans (b2.mono BA.out.size))
          have G2 := Lib.hid (Below.blk b2 GA.out (lt_of_block GA.out))
          clear b2 BA GA
          cases hm : mayB t h n false with
          | false =>
            go_wp2_with fail
            go_ret2
            have hno : ¬ wok Q len := fun hw => by
              have := hw.2.2.1 k hlt
              rw [HQK.out] at this
              simp only [decide_eq_false (show ¬ k + 1 = len from hlast), hm] at this
              cases this
            exact ⟨.inr ⟨hno, rfl⟩, BW.out.trans (B2.out.mono BW.out.size)⟩
          | true =>
            obtain ⟨q1, q2, q3, q4⟩ := (mayB_mid _ _ _).1 hm
            have HM := Lib.hid hm
            clear hm
            obtain ⟨WA, hWA⟩ : ∃ WA, (W2.alloc (.cells #[.int .u8 (128 + t)] 5)).drew = WA := ⟨_, rfl⟩
            have BWA : Hid (Below W2.heap.size W2 WA) := Lib.hid (by rw [← hWA]; exact ((Below.refl _ _).alloc (Nat.le_refl _) _).drew)
            have hX : HXs Q len k = HLs Q k := by unfold HXs; rw [if_neg (by omega)]
            have hL : (HLs Q k).length ≤ 40 := by rw [HLs_len]; omega
            have hD : (DLs Q k).length ≤ k * 2000 := DLs_le Q k (fun i hi => HN.out i (by omega))
            have o4 := own_below (own_below HS.out.o4 B2.out) BWA.out
            have o5 := own_below (own_below HS.out.o5 B2.out) BWA.out
            rw [hX] at o4
            have hbs : w.heap.size ≤ W2.heap.size := Nat.le_trans BW.out.size B2.out.size
            obtain ⟨x4, y4, W3, r4, own4, but4, nb4⟩ := run_app (P := Try.prog) (w := WA) (t := 56) Try.underlying56 hi hz0 hz1 hz2 rfl (by decide) o4 (some ⟨W2.heap.size, 0, none⟩) 1 1 [.int .u8 (128 + t)] (fun e => by cases e) rfl (fun ad e j u hj => by cases e; rw [← hWA]; exact cell_one_at (w := W2) rfl j u hj) (one_cell rfl) (by unfold maxLen; omega) (by omega) (Nat.le_trans hbs BWA.out.size)
            have lt4 : ∀ g, (Value.slice v4a (HLs Q k).length v4c).ownBlock = some g → w.heap.size ≤ g ∧ g < wr.heap.size := fun g hg => by have := HS.out.o4; rw [hX] at this; exact this.lt g hg
            have o5' := own_but o5 but4 (fun g h1 h2 => HS.out.ap g (by rw [hX]; exact h2) h1)
            have hlt5 := HS.out.o5.lt
            have C0 : Hid (HasO g7 (.cells #[.int .u8 t, .int .i64 h, .slice a n c] 110 (0, 0)) W2.drew) := Lib.hid G2.out
            have C1 : Hid (HasO g7 (.cells #[.int .u8 t, .int .i64 h, .slice a n c] 110 (0, 0)) WA) := Lib.hid (Below.blk BWA.out G2.out (lt_of_block G2.out))
            have C2 : Hid (HasO g7 (.cells #[.int .u8 t, .int .i64 h, .slice a n c] 110 (0, 0)) W3) := Lib.hid (but4.blk C1.out (fun e => by have := (lt4 g7 e).2; omega))
            have hs4 := u8s_app (HLs Q k) [128 + t]
            have hoc : Oct (HLs Q k) := HLs_oct Q k (okTo.t HS.out.ok (fun i hi => HQ.out.ok i (by omega)))
            have HP : Hid (Calls Try.prog 96 #[.slice x4 ((HLs Q k).length + 1) y4, .int .i64 3, .int .u64 (h * 1024 + n)] W3 fun e w' => ∃ a' c', e = .returned (.slice a' ((HLs Q k).length + 1 + 3) c') ∧ w'.ownsRow W3.heap.size 5 1 (.slice a' ((HLs Q k).length + 1 + 3) c') ((HLs Q k).length + 1 + 3) (u8s (HLs Q (k + 1))) ∧ Below W3.heap.size W3 w') := Lib.hid (by
              refine (put_l x4 _ y4 (HLs Q k ++ [128 + t]) w.heap.size 3 (h * 1024 + n) W3 (by rw [hs4]; exact own4) (hoc.app (fun y hy => by simp at hy; omega)) (by omega) (by omega) (by omega) (by omega) (by omega)).mono ?_
              rintro e w' ⟨a', c', he, o, b⟩
              refine ⟨a', c', he, ?_, b⟩
              rw [HLs_succ, HQK.out, show hdL ⟨t, h, a, n, c, Z⟩ = [128 + t] ++ putL (h * 1024 + n) 3 from rfl, ← List.append_assoc]
              exact o)
            have BD3 : Hid (Below w.heap.size wr W3) := Lib.hid (((B2.out.mono BW.out.size).trans (BWA.out.mono hbs)).trans (but4.below (Nat.le_trans hbs BWA.out.size) (fun g hg => (lt4 g hg).1)))
            have BW3 : Hid (Below w.heap.size w W3) := Lib.hid (((BW.out.trans (B2.out.mono BW.out.size)).trans (BWA.out.mono hbs)).trans (but4.below (Nat.le_trans hbs BWA.out.size) (fun g hg => (lt4 g hg).1)))
            have R4 := Lib.hid r4
            have O5 := Lib.hid o5'
            have HL5 := Lib.hid hlt5
            have HXK := Lib.hid hX
            have hsz3 : wr.heap.size ≤ W3.heap.size := Nat.le_trans (Nat.le_trans B2.out.size BWA.out.size) but4.size
            have g73 : g7 < W3.heap.size := lt_of_block C2.out
            clear o4 o5 r4 own4 but4 nb4 lt4 o5' hlt5 hs4 hoc hX BWA
            have hne : Nonempty { w' : World // HasO g7 (.cells #[.int .u8 t, .int .i64 h, .slice a n c] 110 (0, 0)) w' } := ⟨⟨_, C0.out⟩⟩
            have o1 : ∀ z : { w' : World // HasO g7 (.cells #[.int .u8 t, .int .i64 h, .slice a n c] 110 (0, 0)) w' }, z.1.cell? ⟨g7, 0, none⟩ = some (.int .u8 t) := fun z => cell_blk z.2
            have o2 : ∀ z : { w' : World // HasO g7 (.cells #[.int .u8 t, .int .i64 h, .slice a n c] 110 (0, 0)) w' }, z.1.cell? ⟨g7, 1, none⟩ = some (.int .i64 h) := fun z => cell_blk z.2
            have o3 : ∀ z : { w' : World // HasO g7 (.cells #[.int .u8 t, .int .i64 h, .slice a n c] 110 (0, 0)) w' }, z.1.cell? ⟨g7, 2, none⟩ = some (.slice a n c) := fun z => cell_blk z.2
            have k1 := or128 t t0 q1
            have k2 := orV h n q2 q3 q4
            have k3 : IntKind.u64.wrap h = h := by rw [IntKind.wrap_u64]; omega
            have k4 : IntKind.u64.wrap (n : Int) = n := by rw [IntKind.wrap_u64]; omega
            have k5 : IntKind.u64.wrap (h * 1024) = h * 1024 := by rw [IntKind.wrap_u64]; omega
            rw [HXK.out]
            go_wp2_with fail
            refine MixC.wp_region_mix [4, 5, 15] (HasO g7 (.cells #[.int .u8 t, .int .i64 h, .slice a n c] 110 (0, 0))) C0.out (by kernel_rfl) (by kernel_rfl) (by kernel_rfl) ?_
            iterate 4 (refine MixC.mix_read rfl (fun K hK => ?_); go_simp; refine hK _ ?_; clear hK K)
            (refine MixC.mix_move rfl (fun K hK => ?_); go_simp; refine ⟨C1.out, hK _ _ ?_⟩; clear hK K)
            refine MixC.mix_move rfl (fun K hK => ?_)
            refine Eq.mpr (if_pos rfl) ?_
            refine mv_app (s := .tmp 30) (x := .tmp 34) (t := 56) rfl rfl rfl R4.out C2.out (hK _ _ ?_)
            clear hK K
            iterate 9 (refine MixC.mix_read rfl (fun K hK => ?_); go_simp; refine hK _ ?_; clear hK K)
            refine MixC.mix_move rfl (fun K hK => ?_)
            go_simp
            refine HP.out.mono ?_
            rintro e W4 ⟨a4, c4, rfl, o4, b4⟩
            have O4 := Lib.hid o4
            have B4 := Lib.hid b4
            have G4 : Hid (HasO g7 (.cells #[.int .u8 t, .int .i64 h, .slice a n c] 110 (0, 0)) W4) := Lib.hid (Below.blk b4 C2.out (lt_of_block C2.out))
            clear o4 b4
            refine ⟨_, rfl, G4.out, hK _ _ ?_⟩
            clear hK K
            (refine MixC.mix_read rfl (fun K hK => ?_); go_simp; refine hK _ ?_; clear hK K)
            refine MixC.mix_nil ?_
            have BD4 : Hid (Below w.heap.size wr W4) := Lib.hid (BD3.out.trans (B4.out.mono (Nat.le_trans BW.out.size hsz3)))
            have HX1 : Hid ((HXs Q len (k + 1)).length = (HLs Q k).length + 1 + 3 ∧ HXs Q len (k + 1) = HLs Q (k + 1)) := Lib.hid ⟨by unfold HXs; rw [if_neg (by omega), HLs_len, HLs_len]; omega, by unfold HXs; rw [if_neg (by omega)]⟩
            have OKN : Hid (okTo Q len (k + 1)) := Lib.hid (fun i hi => by
              rcases Nat.lt_or_ge i k with h1 | h1
              · exact HS.out.ok i h1
              · have : i = k := by omega
                subst this
                rw [HQK.out, decide_eq_false (show ¬ i + 1 = len from hlast)]
                exact HM.out)
            have O5 := Lib.hid (own_below O5.out B4.out)
            have AP4 : Hid (∀ g, (Value.slice a4 ((HLs Q k).length + 1 + 3) c4).ownBlock = some g → (Value.slice v5a (DLs Q k).length v5c).ownBlock ≠ some g) := Lib.hid (fun g h1 h2 => by have := (O4.out.lt g h1).1; have := (HL5.out g h2).2; omega)
            have O4 := Lib.hid (World.ownsRow.mono O4.out BW3.out.size)
            have hD1 : (DLs Q (k + 1)).length = (DLs Q k).length + n := by rw [DLs_succ, List.length_append, zs_len, HQK.out]
            have HD1 := Lib.hid hD1
            have HDV : Hid (u8s (DLs Q (k + 1)) = u8s (DLs Q k) ++ u8s (zs Z n)) := Lib.hid (by rw [DLs_succ, u8s_app, HQK.out])
            have e2 : W4.cell? ⟨g7, 2, none⟩ = some (.slice a n c) := cell_blk G4.out
            have BZ : Hid (BS B W4 a n c Z) := Lib.hid (OK.out.z.keep (BD4.out.mono hB))
            obtain ⟨x5, y5, W5, r5, own5, but5, nb5⟩ := run_app (P := Try.prog) (w := W4) (t := 56) Try.underlying56 hi hz0 hz1 hz2 rfl (by decide) O5.out a n c (u8s (zs Z n)) BZ.out.nils (by rw [u8s_len, zs_len, Nat.mul_one]) BZ.out.news' (u8s_one _) (by unfold maxLen; omega) (by omega) (Nat.le_trans BW.out.size BD4.out.size)
            have R5 := Lib.hid r5
            have OO5 := Lib.hid own5
            have OO4 := Lib.hid (own_but O4.out but5 (fun g h1 h2 => AP4.out g h1 h2))
            have BW5 : Hid (Below w.heap.size w W5) := Lib.hid ((BW.out.trans BD4.out).trans (but5.below (Nat.le_trans BW.out.size BD4.out.size) (fun g hg => (O5.out.lt g hg).1)))
            have AP5 : Hid (∀ g, (Value.slice a4 ((HLs Q k).length + 1 + 3) c4 : Value).ownBlock = some g → (Value.slice x5 ((DLs Q k).length + n) y5).ownBlock ≠ some g) := Lib.hid (fun g h1 h2 => by
              rcases nb5 g h2 with h3 | h3
              · exact AP4.out g h1 h3
              · have := (O4.out.lt g h1).2; omega)
            clear r5 own5 but5 nb5 hD1
            go_wp2_with (at_builtin; refine wpList_of_append rfl (.tmp 58) (.tmp 60) 56 rfl _ _ _ rfl rfl R5.out ?_)
            go_roundw
            case rel => exact ⟨k + 1, by omega, by go_num, Lib.hid ⟨BW5.out, OKN.out, by rw [HX1.out.1, HX1.out.2]; exact OO4.out, by rw [HD1.out, HDV.out]; exact OO5.out, AP5.out⟩⟩
            case measure => simp [intOf] <;> omega
      · have : k = len := by omega
        subst this
        have hl4 : (HXs Q k k).length ≤ 4 * k + 1 := HXs_le Q k k (Nat.le_refl _)
        have hl5 : (DLs Q k).length ≤ k * 2000 := DLs_le Q k (fun i hi => HN.out i (by omega))
        have hl0 : 0 < (HXs Q k k).length := by unfold HXs; rw [if_pos rfl]; simp
        have HT : Hid (∀ i, i < k → 0 ≤ (Q i).t ∧ (Q i).t < 128) := Lib.hid (okTo.t HS.out.ok (fun i hi => HQ.out.ok i hi))
        have hO4 : Oct (HXs Q k k) := HXs_oct Q k (by omega) HT.out
        have hO5 : Oct (DLs Q k) := DLs_oct Q k HQ.out.ok
        obtain ⟨_, a4, c4, he4, s4⟩ := BS.own HS.out.o4 hO4 (by omega)
        cases he4
        obtain ⟨_, a5, c5, he5, s5⟩ := BS.own HS.out.o5 hO5 (by omega)
        cases he5
        have hal : Below wr.heap.size wr (wr.alloc (.cells #[.slice v4a (HXs Q k k).length v4c, .slice v5a (DLs Q k).length v5c] 56)) := (Below.refl _ wr).alloc (Nat.le_refl _) _
        have hcat : cats (two ⟨v4a, (HXs Q k k).length, v4c, gz (HXs Q k k)⟩ ⟨v5a, (DLs Q k).length, v5c, gz (DLs Q k)⟩) 2 = wrL Q k := by
          rw [cats_two]; show zs _ _ ++ zs _ _ = _; rw [zs_gz, zs_gz]; rfl
        have hS : Sls (wr.heap.size + 1) (wr.alloc (.cells #[.slice v4a (HXs Q k k).length v4c, .slice v5a (DLs Q k).length v5c] 56)) (some ⟨wr.heap.size, 0, none⟩) 2 2 (two ⟨v4a, (HXs Q k k).length, v4c, gz (HXs Q k k)⟩ ⟨v5a, (DLs Q k).length, v5c, gz (DLs Q k)⟩) := by
          refine ⟨by omega, by omega, fun i hi => ?_, wr.heap.size, 0, fun _ => ⟨rfl, by omega⟩, fun i hi => ?_⟩
          · rcases (by omega : i = 0 ∨ i = 1) with rfl | rfl
            · exact (s4.keep hal).mono (by omega)
            · exact (s5.keep hal).mono (by omega)
          · rcases (by omega : i = 0 ∨ i = 1) with rfl | rfl
            · exact cell_blk alloc_blk_new
            · exact cell_blk alloc_blk_new
        have hlen2 : (wrL Q k).length = (HXs Q k k).length + (DLs Q k).length := by unfold wrL; rw [List.length_append]
        have hcc := concat_sl (wr.heap.size + 1) (some ⟨wr.heap.size, 0, none⟩) 2 2 (two ⟨v4a, (HXs Q k k).length, v4c, gz (HXs Q k k)⟩ ⟨v5a, (DLs Q k).length, v5c, gz (DLs Q k)⟩) _ hS (by simp) (by omega) (by rw [hcat]; omega) (by rw [hcat]; omega)
        rw [hcat] at hcc
        have HCC := Lib.hid hcc
        have HAL := Lib.hid hal
        have HOK := Lib.hid HS.out.ok
        have HBL := Lib.hid HS.out.bl
        clear hcc hS hcat s4 s5 hO4 hO5 hal
        go_wp2_with fail
        refine HCC.out.mono ?_
        rintro e W1 ⟨a9, c9, rfl, o9, b9⟩
        have O9 := Lib.hid o9
        have B9 := Lib.hid (HBL.out.trans ((HAL.out.trans (b9.mono HAL.out.size)).mono HBL.out.size))
        have Z9 : Hid (w.heap.size ≤ (wr.alloc (.cells #[.slice v4a (HXs Q k k).length v4c, .slice v5a (DLs Q k).length v5c] 56)).heap.size) := Lib.hid (Nat.le_trans HBL.out.size HAL.out.size)
        clear o9 b9 HCC HAL
        by_cases h12 : (wrL Q k).length ≤ 1200
        · have h12' : decide (1200 < ((wrL Q k).length : Int)) = false := by simp; omega
          have HW := Lib.hid h12
          clear h12 hlen2
          go_wp2_with fail
          go_ret2
          exact ⟨.inl ⟨⟨hl1, hl9, HOK.out, HW.out⟩, a9, _, c9, rfl, rfl, World.ownsRow.mono O9.out Z9.out⟩, B9.out⟩
        · have h12' : decide (1200 < ((wrL Q k).length : Int)) = true := by simp; omega
          have hno : ¬ wok Q k := fun h => h12 h.2.2.2
          clear h12 hlen2
          go_wp2_with fail
          go_ret2
          exact ⟨.inr ⟨hno, rfl⟩, B9.out⟩
  · have hno : ¬ wok Q len := fun h => hlen ⟨h.1, h.2.1⟩
    rcases (by omega : len < 1 ∨ (1 ≤ len ∧ 9 < len)) with h1 | ⟨h1, h2⟩
    · have h1' : decide ((len : Int) < 1) = true := by simp; omega
      clear hlen
      go_enter Try.func57, Try.ntmps57
      go_wp2_with fail
      go_ret2
      exact ⟨.inr ⟨hno, rfl⟩, Below.refl _ _⟩
    · have h1' : decide ((len : Int) < 1) = false := by simp; omega
      have h2' : decide (9 < (len : Int)) = true := by simp; omega
      clear hlen
      go_enter Try.func57, Try.ntmps57
      go_wp2_with fail
      go_ret2
      exact ⟨.inr ⟨hno, rfl⟩, Below.refl _ _⟩
end Go.Proofs.Ytdmbdageohjodaa
