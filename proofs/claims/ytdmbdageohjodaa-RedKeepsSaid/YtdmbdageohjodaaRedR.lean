/-
  Chapter 36: the heads of a payload that is read.
-/
import Derived.Test.YtdmbdageohjodaaRedW
import Derived.Test.YtdmbdageohjodaaNum
namespace Go.Proofs.Ytdmbdageohjodaa
open Go.RowKit
set_option linter.unusedVariables false
set_option linter.unusedSimpArgs false
attribute [local irreducible] wpStill wpQuiet
attribute [local go_sem] MixC.rdOp MixC.rd MixC.rdUpon MixC.mvUpon

/-- how many heads there are ahead of the last one; none: they aren't all there -/
def hdrs (Z : Nat → Int) (n : Nat) : Nat → Nat → Option Nat
  | 0, _ => none
  | f + 1, j => if n ≤ 4 * j then none else if Z (4 * j) < 128 then some j else if n < 4 * j + 4 then none else hdrs Z n f (j + 1)
def hv (Z : Nat → Int) (i : Nat) : Int := Z (4 * i + 1) * 65536 + Z (4 * i + 2) * 256 + Z (4 * i + 3)
def hsz (Z : Nat → Int) (i : Nat) : Nat := (hv Z i % 1024).toNat
/-- heads as blocks without bytes -/
def hQ (Z : Nat → Int) (J : Nat) (i : Nat) : Blk := if i = J then ⟨Z (4 * i), 0, none, 0, 0, fun _ => 0⟩ else ⟨Z (4 * i) - 128, hv Z i / 1024, none, 0, 0, fun _ => 0⟩
def hQm (Z : Nat → Int) (i : Nat) : Blk := ⟨Z (4 * i) - 128, hv Z i / 1024, none, 0, 0, fun _ => 0⟩
def bcells (Q : Nat → Blk) (n : Nat) : List Value := (List.range n).flatMap fun i => [.int .u8 (Q i).t, .int .i64 (Q i).h, .slice (Q i).a (Q i).n (Q i).c]
theorem bcells_succ (Q : Nat → Blk) (n : Nat) : bcells Q (n + 1) = bcells Q n ++ [.int .u8 (Q n).t, .int .i64 (Q n).h, .slice (Q n).a (Q n).n (Q n).c] := by simp [bcells, List.range_succ]
theorem bcells_congr {Q Q' : Nat → Blk} {n : Nat} (h : ∀ i, i < n → Q i = Q' i) : bcells Q n = bcells Q' n := by
  induction n with
  | zero => rfl
  | succ n ih => rw [bcells_succ, bcells_succ, ih fun i hi => h i (by omega), h n (by omega)]
theorem bcells_len (Q : Nat → Blk) (n : Nat) : (bcells Q n).length = n * 3 := by
  induction n with
  | zero => rfl
  | succ n ih => rw [bcells_succ, List.length_append, ih]; simp; omega
def szs (S : Nat → Nat) (n : Nat) : List Value := (List.range n).map fun i => .int .i64 (S i : Int)
theorem szs_succ (S : Nat → Nat) (n : Nat) : szs S (n + 1) = szs S n ++ [.int .i64 (S n : Int)] := by simp [szs, List.range_succ]
theorem infoBlk : (Try.prog.info? 110).map (fun i => (i.zero, i.size, i.bytes)) = some (some (.agg #[.int .u8 0, .int .i64 0, .slice none 0 0]), 3, 40) := by kernel_rfl
theorem infoInt : (Try.prog.info? 3).map (fun i => (i.zero, i.size, i.bytes)) = some (some (.int .i64 0), 1, 8) := by kernel_rfl
/-- cut at the beginning: b[k:] -/
theorem BS.drop {B : Nat} {w : World} {b off n c : Nat} {Z : Nat → Int} (h : BS B w (some ⟨b, off, none⟩) n c Z) (k : Nat) (hk : k ≤ n) (hc : 0 < c) : BS B w (some ⟨b, off + k, none⟩) (n - k) (c - k) (fun x => Z (k + x)) := by
  obtain ⟨h1, h2, h3, b', off', h4, h5⟩ := h
  obtain ⟨h6, h7⟩ := h4 hc
  cases h6
  refine ⟨by omega, by omega, fun i hi => h3 _ (by omega), b, off + k, fun _ => ⟨rfl, h7⟩, fun i hi => ?_⟩
  rw [Nat.add_assoc]
  exact h5 _ (by omega)
/-- and, at k = cap, where the address stays -/
theorem BS.drop0 {B : Nat} {w : World} {a a' : Option Addr} {n c : Nat} {Z : Nat → Int} (h : BS B w a n c Z) (k : Nat) (hk : k = c) : BS B w a' (n - k) (c - k) (fun x => Z (k + x)) := by
  have := h.le
  exact ⟨by omega, by have := h.max; omega, fun i hi => by omega, 0, 0, fun h => by omega, fun i hi => by omega⟩
set_option maxRecDepth 100000 in
theorem hi_bit (z : Int) (h0 : 0 ≤ z) (h1 : z ≤ 255) : (z < 128 → bits BinOp.and IntKind.u8 z 128 = 0 ∧ bits BinOp.andNot IntKind.u8 z 128 = z) ∧ (128 ≤ z → bits BinOp.and IntKind.u8 z 128 = 128 ∧ bits BinOp.andNot IntKind.u8 z 128 = z - 128) := by
  obtain ⟨z, rfl⟩ := Int.eq_ofNat_of_zero_le h0
  have : ∀ z : Fin 256, ((((z.val : Nat) : Int) < 128 → bits BinOp.and IntKind.u8 ((z.val : Nat) : Int) 128 = 0 ∧ bits BinOp.andNot IntKind.u8 ((z.val : Nat) : Int) 128 = ((z.val : Nat) : Int)) ∧ (128 ≤ ((z.val : Nat) : Int) → bits BinOp.and IntKind.u8 ((z.val : Nat) : Int) 128 = 128 ∧ bits BinOp.andNot IntKind.u8 ((z.val : Nat) : Int) 128 = ((z.val : Nat) : Int) - 128)) := by decide
  exact this ⟨z, by omega⟩
theorem low10 (x : Int) (h0 : 0 ≤ x) (h1 : x < 16777216) : bits BinOp.and IntKind.u64 x 1023 = x % 1024 := by
  obtain ⟨x, rfl⟩ := Int.eq_ofNat_of_zero_le h0
  have e := bits_and_u64_nat x 1023 (by omega) (by omega)
  rw [show (1023 : Int) = ((1023 : Nat) : Int) from rfl, e]
  rw [Nat.and_two_pow_sub_one_eq_mod x 10]
  rfl
structure HSt (B : Nat) (Z : Nat → Int) (n : Nat) (w : World) (j m : Nat) (a : Option Addr) (c : Nat) (v6 v7 : Value) (wr : World) : Prop where
  bl : Below w.heap.size w wr
  eq : m + 4 * j = n
  hd : hdrs Z n (n + 1) 0 = hdrs Z n (n + 1 - j) j
  s : BS B w a m c (fun x => Z (4 * j + x))
  o6 : wr.ownsRow w.heap.size 110 3 v6 j (bcells (hQm Z) j)
  o7 : wr.ownsRow w.heap.size 3 1 v7 j (szs (hsz Z) j)
  ap : ∀ g, v6.ownBlock = some g → v7.ownBlock ≠ some g
def HPost (B : Nat) (Z : Nat → Int) (n : Nat) (w : World) (e : Ending) (w' : World) : Prop :=
  ((hdrs Z n (n + 1) 0 = none ∧ e = .returned (.tuple #[.slice none 0 0, .slice none 0 0, .slice none 0 0, .bool false])) ∨
   (∃ J a1 c1 v2 c3 b3 o3, hdrs Z n (n + 1) 0 = some J ∧ 4 * J + 1 ≤ n ∧ e = .returned (.tuple #[.slice a1 (J + 1) c1, v2, .slice (some ⟨b3, o3, none⟩) (n - (4 * J + 1)) c3, .bool true]) ∧
      w'.ownsRow w.heap.size 110 3 (.slice a1 (J + 1) c1) (J + 1) (bcells (hQ Z J) (J + 1)) ∧ w'.ownsRow w.heap.size 3 1 v2 J (szs (hsz Z) J) ∧ BS B w (some ⟨b3, o3, none⟩) (n - (4 * J + 1)) c3 (fun x => Z (4 * J + 1 + x)) ∧
      (∀ g, (Value.slice a1 (J + 1) c1).ownBlock = some g → v2.ownBlock ≠ some g))) ∧ Below w.heap.size w w'
set_option maxRecDepth 100000 in
set_option maxHeartbeats 4000000 in
theorem heads_any (B : Nat) (a : Option Addr) (n c : Nat) (Z : Nat → Int) (w : World) (hb : BS B w a n c Z) (hB : B ≤ w.heap.size) (hn : n ≤ 4000) :
    Calls Try.prog 97 #[.slice a n c] w (HPost B Z n w) := by
  obtain ⟨i0, hi, hz0, hz1, hz2⟩ := info_parts infoBlk
  obtain ⟨i1, hi1, hy0, hy1, hy2⟩ := info_parts infoInt
  have HBS := Lib.hid hb
  clear hb
  go_enter Try.func97, Try.ntmps97
  go_wp2_with fail
  go_loopw [0, 6, 7] (fun s0 s6 s7 wr => ∃ (j m : Nat) (a' : Option Addr) (c' : Nat), m ≤ 4000 ∧ j ≤ 1000 ∧ s0 = .slice a' m c' ∧ Hid (HSt B Z n w j m a' c' s6 s7 wr)) (fun s0 _ _ _ => (match s0 with | .slice _ m _ => m | _ => 0))
  case atStart => exact ⟨0, n, a, c, hn, by omega, rfl, Lib.hid ⟨Below.refl _ _, by omega, rfl, by simpa using HBS.out, World.ownsRow_nil _ _ _ _, World.ownsRow_nil _ _ _ _, fun g h => by cases h⟩⟩
  case round =>
    obtain ⟨j, m, a', c', hm, hj, rfl, HS⟩ := hrel
    obtain ⟨v6a, v6c, h6⟩ := own_len HS.out.o6
    obtain ⟨v7a, v7c, h7⟩ := own_len HS.out.o7
    subst h6 h7
    have hle := HS.out.s.le
    have hmx := HS.out.s.max
    by_cases h0 : m = 0
    · have hno : hdrs Z n (n + 1) 0 = none := by
        have := HS.out.eq
        rw [HS.out.hd, show n + 1 - j = (n - j) + 1 by omega]
        unfold hdrs
        rw [if_pos (by omega)]
      have HNO := Lib.hid hno
      subst h0
      clear hno
      go_wp2_with fail
      exact bodyPost_ret (v := .tuple #[.slice none 0 0, .slice none 0 0, .slice none 0 0, .bool false]) (by simp [results, Try.results97, go_sem]) rfl ⟨.inl ⟨HNO.out, rfl⟩, HS.out.bl⟩
    · obtain ⟨b, off, rfl, hbB, hcl⟩ := HS.out.s.at_ (by omega)
      have z0 := HS.out.s.bd 0 (by omega)
      simp only [Nat.add_zero] at z0
      have cz : wr.cell? ⟨b, off, none⟩ = some (.int .u8 (Z (4 * j))) := Below.cell' (HS.out.bl.mono hB) hbB (by simpa using hcl 0 (by omega))
      obtain ⟨z, hz⟩ : ∃ z, Z (4 * j) = z := ⟨_, rfl⟩
      have HZ := Lib.hid hz
      rw [hz] at cz z0
      clear hz hcl
      obtain ⟨z0, z1⟩ := z0
      obtain ⟨hb1, hb2⟩ := hi_bit z z0 z1
      have hm0 : (0 : Int) < m := by omega
      have hm1 : (1 : Int) ≤ m := by omega
      by_cases hz : z < 128
      · obtain ⟨e1, e2⟩ := hb1 hz
        clear hb1 hb2
        have hJ : hdrs Z n (n + 1) 0 = some j := by
          have := HS.out.eq
          rw [HS.out.hd, show n + 1 - j = (n - j) + 1 by omega]
          unfold hdrs
          rw [if_neg (by omega), if_pos (by rw [HZ.out]; exact hz)]
        have HJ := Lib.hid hJ
        clear hJ
        have heq := HS.out.eq
        obtain ⟨WA, hWA⟩ : ∃ WA, (wr.alloc (.cells #[.int .u8 z, .int .i64 0, .slice none 0 0] 110)).drew = WA := ⟨_, rfl⟩
        have BWA : Hid (Below wr.heap.size wr WA) := Lib.hid (by rw [← hWA]; exact ((Below.refl _ _).alloc (Nat.le_refl _) _).drew)
        have hnew : WA.heap[wr.heap.size]? = some (.cells #[.int .u8 z, .int .i64 0, .slice none 0 0] 110 (0, 0)) := by rw [← hWA, drew_blk]; exact alloc_blk_new
        obtain ⟨x6, y6, W3, r6, own6, but6, nb6⟩ := run_app (P := Try.prog) (w := WA) (t := 105) Try.underlying105 hi hz0 hz1 hz2 rfl (by decide) (own_below HS.out.o6 BWA.out) (some ⟨wr.heap.size, 0, none⟩) 1 1 [.int .u8 z, .int .i64 0, .slice none 0 0] (fun e => by cases e) rfl (fun ad e jj u hj => by
          cases e
          rw [addr_add, Nat.zero_add, cell_blk hnew, ← hj]
          simp) (by simp [Value.oneCell']) (by unfold maxLen; omega) (by omega) (Nat.le_trans HS.out.bl.size BWA.out.size)
        have R6 := Lib.hid r6
        have hqj : hQ Z j j = ⟨z, 0, none, 0, 0, fun _ => 0⟩ := by simp only [hQ, if_true]; rw [HZ.out]
        have hcon : bcells (hQm Z) j ++ [.int .u8 z, .int .i64 0, .slice none 0 0] = bcells (hQ Z j) (j + 1) := by
          rw [bcells_succ, bcells_congr (Q := hQ Z j) (Q' := hQm Z) (n := j) (fun i hi => by simp only [hQ, hQm]; rw [if_neg (by omega)]), hqj]
        rw [hcon] at own6
        have O6 := Lib.hid own6
        have O7 := Lib.hid (own_but (own_below HS.out.o7 BWA.out) but6 (fun g h1 h2 => HS.out.ap g h2 h1))
        have AP : Hid (∀ g, (Value.slice x6 (j + 1) y6).ownBlock = some g → (Value.slice v7a j v7c).ownBlock ≠ some g) := Lib.hid (fun g h1 h2 => by
          rcases nb6 g h1 with h3 | h3
          · exact HS.out.ap g h3 h2
          · have := (HS.out.o7.lt g h2).2; have := BWA.out.size; omega)
        have BW3 : Hid (Below w.heap.size w W3) := Lib.hid ((HS.out.bl.trans (BWA.out.mono HS.out.bl.size)).trans (but6.below (Nat.le_trans HS.out.bl.size BWA.out.size) (fun g hg => (HS.out.o6.lt g hg).1)))
        have hn1 : m - 1 = n - (4 * j + 1) := by omega
        have HN1 := Lib.hid hn1
        have h4n : 4 * j + 1 ≤ n := by omega
        clear r6 own6 but6 nb6 hcon hqj hnew BWA hn1 heq
        have hne : Nonempty { w' : World // (fun _ : World => True) w' } := ⟨⟨wr, trivial⟩⟩
        rcases (by omega : (c' = 1 ∧ m = 1) ∨ ¬ c' = 1) with ⟨rfl, rfl⟩ | hc1
        · have S3 : Hid (BS B w (some ⟨b, off, none⟩) (n - (4 * j + 1)) 0 (fun x => Z (4 * j + 1 + x))) := Lib.hid ⟨by have := HN1.out; omega, by omega, fun i hi => by have := HN1.out; omega, 0, 0, fun h => by omega, fun i hi => by have := HN1.out; omega⟩
          have HN1 : Hid (n - (4 * j + 1) = 0) := Lib.hid (by have := HN1.out; omega)
          go_wp2_with fail
          refine MixC.wp_region_mix [3, 4] (fun _ : World => True) trivial (by kernel_rfl) (by kernel_rfl) (by kernel_rfl) ?_
          iterate 3 (refine MixC.mix_read rfl (fun K hK => ?_); go_simp; refine hK _ ?_; clear hK K)
          (refine MixC.mix_move rfl (fun K hK => ?_); go_simp; refine hK _ _ ?_; clear hK K)
          refine MixC.mix_move rfl (fun K hK => ?_)
          refine Eq.mpr (if_pos rfl) ?_
          refine mv_app (s := .tmp 23) (x := .tmp 26) (t := 105) rfl rfl rfl R6.out trivial (hK _ _ ?_)
          clear hK K
          iterate 7 (refine MixC.mix_read rfl (fun K hK => ?_); go_simp; refine hK _ ?_; clear hK K)
          refine MixC.mix_nil ?_
          go_wp2_with fail
          refine bodyPost_ret (v := .tuple #[.slice x6 (j + 1) y6, .slice v7a j v7c, .slice (some ⟨b, off, none⟩) (n - (4 * j + 1)) 0, .bool true]) (by simp [results, Try.results97, go_sem, HN1.out]) rfl ⟨.inr ⟨j, x6, y6, _, 0, b, off, HJ.out, h4n, rfl, O6.out, O7.out, S3.out, AP.out⟩, BW3.out⟩
        · have S3 : Hid (BS B w (some ⟨b, off + 1, none⟩) (n - (4 * j + 1)) (c' - 1) (fun x => Z (4 * j + 1 + x))) := Lib.hid (by
            have := HS.out.s.drop 1 (by omega) (by omega)
            rw [HN1.out] at this
            exact this.congr (Z' := fun x => Z (4 * j + 1 + x)) (fun x hx => by show _ = Z (4 * j + (1 + x)); rw [Nat.add_assoc]))
          have HN1 : Hid (n - (4 * j + 1) = m - 1) := Lib.hid HN1.out.symm
          go_wp2_with fail
          refine MixC.wp_region_mix [3, 4] (fun _ : World => True) trivial (by kernel_rfl) (by kernel_rfl) (by kernel_rfl) ?_
          iterate 3 (refine MixC.mix_read rfl (fun K hK => ?_); go_simp; refine hK _ ?_; clear hK K)
          (refine MixC.mix_move rfl (fun K hK => ?_); go_simp; refine hK _ _ ?_; clear hK K)
          refine MixC.mix_move rfl (fun K hK => ?_)
          refine Eq.mpr (if_pos rfl) ?_
          refine mv_app (s := .tmp 23) (x := .tmp 26) (t := 105) rfl rfl rfl R6.out trivial (hK _ _ ?_)
          clear hK K
          iterate 7 (refine MixC.mix_read rfl (fun K hK => ?_); go_simp; refine hK _ ?_; clear hK K)
          refine MixC.mix_nil ?_
          go_wp2_with fail
          refine bodyPost_ret (v := .tuple #[.slice x6 (j + 1) y6, .slice v7a j v7c, .slice (some ⟨b, off + 1, none⟩) (n - (4 * j + 1)) (c' - 1), .bool true]) (by simp [results, Try.results97, go_sem, HN1.out]) rfl ⟨.inr ⟨j, x6, y6, _, (c' - 1), b, off + 1, HJ.out, h4n, rfl, O6.out, O7.out, S3.out, AP.out⟩, BW3.out⟩
      · obtain ⟨e1, e2⟩ := hb2 (by omega)
        clear hb1 hb2
        have SS := Lib.hid (HS.out.s.keep (HS.out.bl.mono hB))
        have heq := HS.out.eq
        have HNM := Lib.hid (num_any B (some ⟨b, off, none⟩) m c' (fun x => Z (4 * j + x)) 1 3 wr SS.out (by omega) (by omega) (by omega) (by omega))
        by_cases h4 : 4 ≤ m
        · have ht : there m 1 3 = true := (there_iff _ _ _).2 (by omega)
          have hnum : numOr (fun x => Z (4 * j + x)) m 1 3 = hv Z j := by
            unfold numOr
            rw [if_pos ht]
            simp only [show (3 : Int).toNat = 3 from rfl, show (1 : Int).toNat = 1 from rfl, numv]
            unfold hv
            show ((0 * 256 + Z (4 * j + 1)) * 256 + Z (4 * j + 2)) * 256 + Z (4 * j + 3) = Z (4 * j + 1) * 65536 + Z (4 * j + 2) * 256 + Z (4 * j + 3)
            omega
          rw [ht, hnum] at HNM
          have hvb : 0 ≤ hv Z j ∧ hv Z j < 16777216 := by
            have a1 := SS.out.bd 1 (by omega)
            have a2 := SS.out.bd 2 (by omega)
            have a3 := SS.out.bd 3 (by omega)
            unfold hv
            omega
          obtain ⟨x, hx⟩ : ∃ x, hv Z j = x := ⟨_, rfl⟩
          have HX := Lib.hid hx
          rw [hx] at HNM hvb
          obtain ⟨x0, x1⟩ := hvb
          have hl := low10 x x0 x1
          clear ht hnum hx
          have hnx : hdrs Z n (n + 1) 0 = hdrs Z n (n + 1 - (j + 1)) (j + 1) := by
            rw [HS.out.hd, show n + 1 - j = (n - j) + 1 by omega]
            conv => lhs; unfold hdrs
            rw [if_neg (by omega), if_neg (by rw [HZ.out]; omega), if_neg (by omega), show n + 1 - (j + 1) = n - j by omega]
          have HNX := Lib.hid hnx
          clear hnx
          obtain ⟨WA, hWA⟩ : ∃ WA, wr.alloc (.cells #[.int .u8 (z - 128), .int .i64 (x / 1024), .slice none 0 0] 110) = WA := ⟨_, rfl⟩
          have BWA : Hid (Below wr.heap.size wr WA) := Lib.hid (by rw [← hWA]; exact (Below.refl _ _).alloc (Nat.le_refl _) _)
          have hnew : WA.heap[wr.heap.size]? = some (.cells #[.int .u8 (z - 128), .int .i64 (x / 1024), .slice none 0 0] 110 (0, 0)) := by rw [← hWA]; exact alloc_blk_new
          obtain ⟨x6, y6, W3, r6, own6, but6, nb6⟩ := run_app (P := Try.prog) (w := WA) (t := 105) Try.underlying105 hi hz0 hz1 hz2 rfl (by decide) (own_below HS.out.o6 BWA.out) (some ⟨wr.heap.size, 0, none⟩) 1 1 [.int .u8 (z - 128), .int .i64 (x / 1024), .slice none 0 0] (fun e => by cases e) rfl (fun ad e jj u hj => by
            cases e
            rw [addr_add, Nat.zero_add, cell_blk hnew, ← hj]
            simp) (by simp [Value.oneCell']) (by unfold maxLen; omega) (by omega) (Nat.le_trans HS.out.bl.size BWA.out.size)
          have R6 := Lib.hid r6
          have hcon : bcells (hQm Z) j ++ [.int .u8 (z - 128), .int .i64 (x / 1024), .slice none 0 0] = bcells (hQm Z) (j + 1) := by
            rw [bcells_succ]
            simp only [hQm]
            rw [HZ.out, HX.out]
          rw [hcon] at own6
          have O6 := Lib.hid own6
          have HL6 := Lib.hid own6.lt
          have o7 := own_but (own_below HS.out.o7 BWA.out) but6 (fun g h1 h2 => HS.out.ap g h2 h1)
          have AP := fun g (h1 : (Value.slice x6 (j + 1) y6).ownBlock = some g) (h2 : (Value.slice v7a j v7c).ownBlock = some g) => (nb6 g h1).elim (fun h3 => HS.out.ap g h3 h2) (fun h3 => absurd (HS.out.o7.lt g h2).2 (by have := BWA.out.size; omega))
          have BD3 : Hid (Below w.heap.size wr W3) := Lib.hid ((BWA.out.mono HS.out.bl.size).trans (but6.below (Nat.le_trans HS.out.bl.size BWA.out.size) (fun g hg => (HS.out.o6.lt g hg).1)))
          clear r6 own6 but6 nb6 hcon hnew BWA
          obtain ⟨WB, hWB⟩ : ∃ WB, W3.alloc (.cells #[.int .i64 (x % 1024)] 3) = WB := ⟨_, rfl⟩
          have BWB : Hid (Below W3.heap.size W3 WB) := Lib.hid (by rw [← hWB]; exact (Below.refl _ _).alloc (Nat.le_refl _) _)
          obtain ⟨x7, y7, W4, r7, own7, but7, nb7⟩ := run_app (P := Try.prog) (w := WB) (t := 39) Try.underlying39 hi1 hy0 hy1 hy2 rfl (by decide) (own_below o7 BWB.out) (some ⟨W3.heap.size, 0, none⟩) 1 1 [.int .i64 (x % 1024)] (fun e => by cases e) rfl (fun ad e jj u hj => by cases e; rw [← hWB]; exact cell_one_at (w := W3) rfl jj u hj) (one_cell rfl) (by unfold maxLen; omega) (by omega) (Nat.le_trans (Nat.le_trans HS.out.bl.size BD3.out.size) BWB.out.size)
          have R7 := Lib.hid r7
          have hcon : szs (hsz Z) j ++ [.int .i64 (x % 1024)] = szs (hsz Z) (j + 1) := by
            rw [szs_succ]
            unfold hsz
            rw [HX.out, Int.toNat_of_nonneg (by omega)]
          rw [hcon] at own7
          have O7 := Lib.hid own7
          have O6 := Lib.hid (own_but (own_below O6.out BWB.out) but7 (fun g h1 h2 => AP g h1 h2))
          have AP7 : Hid (∀ g, (Value.slice x6 (j + 1) y6).ownBlock = some g → (Value.slice x7 (j + 1) y7).ownBlock ≠ some g) := Lib.hid (fun g h1 h2 => by
            rcases nb7 g h2 with h3 | h3
            · exact AP g h1 h3
            · have hlt := (HL6.out g h1).2
              have := BWB.out.size
              omega)
          have BD4 : Hid (Below w.heap.size wr W4) := Lib.hid (BD3.out.trans ((BWB.out.mono (Nat.le_trans HS.out.bl.size BD3.out.size)).trans (but7.below (Nat.le_trans (Nat.le_trans HS.out.bl.size BD3.out.size) BWB.out.size) (fun g hg => (HS.out.o7.lt g hg).1))))
          have k1 : 0 ≤ x % 1024 := by omega
          clear r7 own7 but7 nb7 hcon BWB o7 AP
          have hjn : j + 1 ≤ 1000 := by omega
          have h4m : (4 : Int) ≤ m := by omega
          rcases (by omega : (c' = 4 ∧ m = 4) ∨ ¬ c' = 4) with ⟨rfl, rfl⟩ | hc4
          · go_wp2_with fail
            refine HNM.out.mono ?_
            rintro e w' ⟨rfl, rfl⟩
            go_wp2_with (first | (at_builtin; refine wpList_of_append rfl (.tmp 38) (.tmp 44) 105 rfl _ _ _ rfl rfl R6.out ?_) | (at_builtin; refine wpList_of_append rfl (.tmp 46) (.tmp 50) 39 rfl _ _ _ rfl rfl R7.out ?_))
            exact ⟨⟨j + 1, 0, _, _, by omega, hjn, rfl, Lib.hid ⟨HS.out.bl.trans BD4.out, by omega, HNX.out, ⟨by omega, by omega, fun i hi => by omega, 0, 0, fun h => by omega, fun i hi => by omega⟩, O6.out, O7.out, AP7.out⟩⟩, by show 0 < 4; omega⟩
          · go_wp2_with fail
            refine HNM.out.mono ?_
            rintro e w' ⟨rfl, rfl⟩
            go_wp2_with (first | (at_builtin; refine wpList_of_append rfl (.tmp 38) (.tmp 44) 105 rfl _ _ _ rfl rfl R6.out ?_) | (at_builtin; refine wpList_of_append rfl (.tmp 46) (.tmp 50) 39 rfl _ _ _ rfl rfl R7.out ?_))
            exact ⟨⟨j + 1, m - 4, _, _, by omega, hjn, rfl, Lib.hid ⟨HS.out.bl.trans BD4.out, by omega, HNX.out, (HS.out.s.drop 4 (by omega) (by omega)).congr (Z' := fun x => Z (4 * (j + 1) + x)) (fun x hx => by show Z (4 * (j + 1) + x) = Z (4 * j + (4 + x)); congr 1; omega), O6.out, O7.out, AP7.out⟩⟩, by show m - 4 < m; omega⟩
        · have ht : there m 1 3 = false := by
            cases h : there m 1 3
            · rfl
            · rw [there_iff] at h; omega
          rw [ht] at HNM
          have hno : hdrs Z n (n + 1) 0 = none := by
            rw [HS.out.hd, show n + 1 - j = (n - j) + 1 by omega]
            unfold hdrs
            rw [if_neg (by omega), if_neg (by rw [HZ.out]; omega), if_pos (by omega)]
          have HNO := Lib.hid hno
          clear ht hno heq
          go_wp2_with fail
          refine HNM.out.mono ?_
          rintro e w' ⟨rfl, rfl⟩
          go_wp2_with fail
          exact bodyPost_ret (v := .tuple #[.slice none 0 0, .slice none 0 0, .slice none 0 0, .bool false]) (by simp [results, Try.results97, go_sem]) rfl ⟨.inl ⟨HNO.out, rfl⟩, HS.out.bl⟩
end Go.Proofs.Ytdmbdageohjodaa
