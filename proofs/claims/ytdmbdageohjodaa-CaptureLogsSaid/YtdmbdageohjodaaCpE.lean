/-
  Chapter 45: one record read.
-/
import Derived.Test.YtdmbdageohjodaaCpD
namespace Go.Proofs.Ytdmbdageohjodaa
open Go.RowKit
set_option linter.unusedVariables false
set_option linter.unusedSimpArgs false
attribute [local irreducible] wpStill wpQuiet MixC.wpMix MixC.wpPick
attribute [local go_sem] MixC.rdOp MixC.rd MixC.rdUpon MixC.mvUpon

theorem BS.drop {B : Nat} {w : World} {b off n c : Nat} {Z : Nat → Int} (h : BS B w (some ⟨b, off, none⟩) n c Z) (k : Nat) (hk : k ≤ n) (hc : 0 < c) : BS B w (some ⟨b, off + k, none⟩) (n - k) (c - k) (fun x => Z (k + x)) := by
  obtain ⟨h1, h2, h3, b', off', h4, h5⟩ := h
  obtain ⟨h6, h7⟩ := h4 hc
  cases h6
  refine ⟨by omega, by omega, fun i hi => h3 _ (by omega), b, off + k, fun _ => ⟨rfl, h7⟩, fun i hi => ?_⟩
  rw [Nat.add_assoc]
  exact h5 _ (by omega)
/-- and, at k = cap, where the address stays -/
theorem BS.drop0 {B : Nat} {w : World} {a a' : Option Addr} {n c : Nat} {Z : Nat → Int} (h : BS B w a n c Z) (k : Nat) (hk : k = c) : BS B w a' (n - k) (c - k) (fun x => Z (k + x)) := by
  have := h.le
  exact ⟨by omega, by have := h.max; omega, fun i hi => by omega, 0, 0, fun h => by omega, fun i hi => by omega⟩
theorem set5 {W X : World} {g : Nat} {T : TypeId} {a b c d e v0 v1 v2 v3 v4 : Value} (h : W.heap[g]? = some (.cells #[a, b, c, d, e] T (0, 0)))
    (hX : (((((W.setCell ⟨g, 0, none⟩ v0).setCell ⟨g, 1, none⟩ v1).setCell ⟨g, 2, none⟩ v2).setCell ⟨g, 3, none⟩ v3).setCell ⟨g, 4, none⟩ v4) = X) :
    X.heap[g]? = some (.cells #[v0, v1, v2, v3, v4] T (0, 0)) ∧ (∀ B, B ≤ g → Below B W X) ∧ (∀ k, k ≠ g → X.heap[k]? = W.heap[k]?) ∧ X.heap.size = W.heap.size := by
  subst hX
  refine ⟨by rw [set_blk _ (set_blk _ (set_blk _ (set_blk _ (set_blk _ h))))]; rfl, fun B hB => (((((Below.refl _ _).setCell (p := ⟨g, 0, none⟩) hB _).setCell (p := ⟨g, 1, none⟩) hB _).setCell (p := ⟨g, 2, none⟩) hB _).setCell (p := ⟨g, 3, none⟩) hB _).setCell (p := ⟨g, 4, none⟩) hB _, fun k hk => ?_, by simp only [World.setCell, Array.size_modify]⟩
  rw [set_blk_other _ hk, set_blk_other _ hk, set_blk_other _ hk, set_blk_other _ hk, set_blk_other _ hk]
/-- a record that lies in a block of its own, with its bytes -/
structure RcIn (Z : Nat → Int) (tk wy ad pt : Int) (m H g : Nat) (a : Option Addr) (c : Nat) (W : World) : Prop where
  blk : W.heap[g]? = some (rcO tk wy ad pt a m c)
  gH : H ≤ g
  row : W.ownsRow H 5 1 (.slice a m c) m (bytesOf (fun i => Z (17 + i)) m)
/-- a record at the beginning of bytes: how many bytes of its own -/
def rcM (Z : Nat → Int) : Nat := (numv Z 15 2).toNat
/-- its error -/
def oneE (Z : Nat → Int) (n : Nat) : Int :=
  if n < 17 ∨ n < 19 + rcM Z then 2
  else if 9223372036854775807 < numv Z 0 8 ∨ 2 ≤ Z 8 ∨ 1200 < rcM Z then 3
  else if numv Z (17 + rcM Z) 2 ≠ smR Z (17 + rcM Z) then 4 else 0
theorem numv2 {Z : Nat → Int} {s n : Nat} (h : ∀ i, i < n → 0 ≤ Z i ∧ Z i ≤ 255) (hs : s + 2 ≤ n) : 0 ≤ numv Z s 2 ∧ numv Z s 2 ≤ 65535 := by
  have h1 := h s (by omega)
  have h2 := h (s + 1) (by omega)
  simp only [numv, Nat.add_zero]
  omega
theorem numvb {Z : Nat → Int} {s k n : Nat} (h : ∀ i, i < n → 0 ≤ Z i ∧ Z i ≤ 255) (hs : s + k ≤ n) : 0 ≤ numv Z s k ∧ numv Z s k < 256 ^ k := numv_bd Z s k (fun i hi => h (s + i) (by omega))
def OnePost (Z : Nat → Int) (n : Nat) (w : World) (e : Ending) (w' : World) : Prop :=
  ((oneE Z n ≠ 0 ∧ e = .returned (.tuple #[.agg #[.int .i64 0, .int .i64 0, .int .u32 0, .int .u16 0, .slice none 0 0], .int .i64 0, .int .i64 (oneE Z n)])) ∨
   (oneE Z n = 0 ∧ ∃ a' c', e = .returned (.tuple #[.agg #[.int .i64 (numv Z 0 8), .int .i64 (Z 8), .int .u32 (numv Z 9 4), .int .u16 (numv Z 13 2), .slice a' (rcM Z) c'], .int .i64 (19 + rcM Z : Nat), .int .i64 0]) ∧
     w'.ownsRow w.heap.size 5 1 (.slice a' (rcM Z) c') (rcM Z) (bytesOf (fun i => Z (17 + i)) (rcM Z)))) ∧ Below w.heap.size w w'
set_option maxRecDepth 100000 in
set_option maxHeartbeats 4000000 in
theorem one_any (B : Nat) (a : Option Addr) (n c : Nat) (Z : Nat → Int) (w : World) (hb : BS B w a n c Z) (hB : B ≤ w.heap.size) (hn : n ≤ 80000) :
    Calls Try.prog 104 #[.slice a n c] w (OnePost Z n w) := by
  have HB := Lib.hid hb
  have hle := hb.le
  have hmx := hb.max
  have hbd := hb.bd
  clear hb
  by_cases h17 : 17 ≤ n
  · obtain ⟨v0, v1⟩ := numv2 hbd (show 15 + 2 ≤ n by omega)
    obtain ⟨m, hm⟩ : ∃ m : Nat, numv Z 15 2 = m := ⟨(numv Z 15 2).toNat, by omega⟩
    have hrc : rcM Z = m := by unfold rcM; omega
    have numAt : ∀ (at' k : Nat) (W : World), Below w.heap.size w W → at' + k ≤ n → 1 ≤ k → k ≤ 8 → Calls Try.prog 111 #[.slice a n c, .int .i64 at', .int .i64 k] W fun e w' => e = .returned (.tuple #[.int .u64 (numv Z at' k), .bool true]) ∧ W = w' := fun at' k W hW h1 h2 h3 => by
      have th : there n at' k = true := (there_iff _ _ _).2 (by omega)
      have := num_any B a n c Z at' k W (HB.out.keep (hW.mono hB)) (by omega) (by omega) (by omega) (by omega)
      rw [th, show numOr Z n at' k = numv Z at' k by unfold numOr; rw [if_pos th]; simp] at this
      exact this
    have HNUM := Lib.hid numAt
    have HBD := Lib.hid hbd
    have HRC := Lib.hid hrc
    have hm1 : m ≤ 65535 := by omega
    have HM := Lib.hid hm
    clear hbd hrc hm v0 v1 numAt
    obtain ⟨g, hg⟩ : ∃ g, g = w.heap.size := ⟨_, rfl⟩
    obtain ⟨W, hW⟩ : ∃ W, w.alloc (.cells #[.int .i64 0, .int .i64 0, .int .u32 0, .int .u16 0, .slice none 0 0] 72) = W := ⟨_, rfl⟩
    have BW : Hid (Below w.heap.size w W) := Lib.hid (by rw [← hW]; exact (Below.refl _ _).alloc (Nat.le_refl _) _)
    have G0 : Hid (W.heap[g]? = some (.cells #[.int .i64 0, .int .i64 0, .int .u32 0, .int .u16 0, .slice none 0 0] 72 (0, 0))) := Lib.hid (by rw [← hW, hg]; exact alloc_blk_new)
    have HGW : Hid (w.heap.size ≤ g) := Lib.hid (by omega)
    have n1 := HNUM.out 15 2 W BW.out (by omega) (by omega) (by omega)
    rw [HM.out] at n1
    have N1 := Lib.hid n1
    have HWE := Lib.hid hW
    have HGE := Lib.hid hg
    clear n1 hW hg
    by_cases hsz : n < 19 + m
    · have d1 : decide ((n : Int) < 17 + (m : Int) + 2) = true := by simp; omega
      have hE : Hid (oneE Z n = 2) := Lib.hid (by unfold oneE; rw [HRC.out, if_pos (.inr hsz)])
      have G9 := G0
      clear hsz
      go_enter Try.func104, Try.ntmps104
      go_upto_region 1 with (fail)
      rw [HWE.out, ← HGE.out]
      go_wp2_with fail
      refine N1.out.mono ?_
      rintro e w' ⟨rfl, rfl⟩
      go_upto_region 4 with (fail)
      have y0 : W.cell? ⟨g, 0, none⟩ = some (.int .i64 0) := cell_blk G0.out
      have y1 : W.cell? ⟨g, 1, none⟩ = some (.int .i64 0) := cell_blk G0.out
      have y2 : W.cell? ⟨g, 2, none⟩ = some (.int .u32 0) := cell_blk G0.out
      have y3 : W.cell? ⟨g, 3, none⟩ = some (.int .u16 0) := cell_blk G0.out
      have y4 : W.cell? ⟨g, 4, none⟩ = some (.slice none 0 0) := cell_blk G0.out
      have z0 : W.frozen? ⟨g, 0, none⟩ = false := free_blk G0.out
      have z1 : W.frozen? ⟨g, 1, none⟩ = false := free_blk G0.out
      have z2 : W.frozen? ⟨g, 2, none⟩ = false := free_blk G0.out
      have z3 : W.frozen? ⟨g, 3, none⟩ = false := free_blk G0.out
      have z4 : W.frozen? ⟨g, 4, none⟩ = false := free_blk G0.out
      go_wp2_with fail
      clear y0 y1 y2 y3 y4 z0 z1 z2 z3 z4
      generalize hX : World.setCell _ _ _ = X
      have gx : X.heap[g]? = some (.cells #[.int .i64 0, .int .i64 0, .int .u32 0, .int .u16 0, .slice none 0 0] 72 (0, 0)) := by rw [← hX, set_blk _ (set_blk _ (set_blk _ (set_blk _ (set_blk _ G9.out))))]; rfl
      have bx : Below w.heap.size w X := by rw [← hX]; exact (((((BW.out).setCell (p := ⟨g, 0, none⟩) HGW.out _).setCell (p := ⟨g, 1, none⟩) HGW.out _).setCell (p := ⟨g, 2, none⟩) HGW.out _).setCell (p := ⟨g, 3, none⟩) HGW.out _).setCell (p := ⟨g, 4, none⟩) HGW.out _
      clear hX
      have r0 : X.cell? ⟨g, 0, none⟩ = some (.int .i64 0) := cell_blk gx
      have r1 : X.cell? ⟨g, 1, none⟩ = some (.int .i64 0) := cell_blk gx
      have r2 : X.cell? ⟨g, 2, none⟩ = some (.int .u32 0) := cell_blk gx
      have r3 : X.cell? ⟨g, 3, none⟩ = some (.int .u16 0) := cell_blk gx
      have r4 : X.cell? ⟨g, 4, none⟩ = some (.slice none 0 0) := cell_blk gx
      refine bodyPost_ret (v := .tuple #[.agg #[.int .i64 0, .int .i64 0, .int .u32 0, .int .u16 0, .slice none 0 0], .int .i64 0, .int .i64 2]) (by simp [results, Try.results104, go_sem, r0, r1, r2, r3, r4]) rfl ?_
      exact ⟨.inl ⟨by rw [hE.out]; decide, by rw [hE.out]⟩, bx⟩
    · have d1 : decide ((n : Int) < 17 + (m : Int) + 2) = false := by simp; omega
      have n2 := HNUM.out 0 8 W BW.out (by omega) (by omega) (by omega)
      have n3 := HNUM.out 9 4 W BW.out (by omega) (by omega) (by omega)
      have n4 := HNUM.out 13 2 W BW.out (by omega) (by omega) (by omega)
      have n5 := HNUM.out (17 + m) 2 W BW.out (by omega) (by omega) (by omega)
      rw [show ((17 + m : Nat) : Int) = 17 + (m : Int) by omega] at n5
      obtain ⟨t0, t1⟩ := numvb HBD.out (show 0 + 8 ≤ n by omega)
      obtain ⟨ad0, ad1⟩ := numvb HBD.out (show 9 + 4 ≤ n by omega)
      obtain ⟨pt0, pt1⟩ := numv2 HBD.out (show 13 + 2 ≤ n by omega)
      obtain ⟨s0, s1⟩ := numv2 HBD.out (show 17 + m + 2 ≤ n by omega)
      obtain ⟨y80, y81⟩ := HBD.out 8 (by omega)
      obtain ⟨tk, htk⟩ : ∃ x, numv Z 0 8 = x := ⟨_, rfl⟩
      obtain ⟨ad, had⟩ : ∃ x, numv Z 9 4 = x := ⟨_, rfl⟩
      obtain ⟨pt, hpt⟩ : ∃ x, numv Z 13 2 = x := ⟨_, rfl⟩
      obtain ⟨sm, hsm⟩ : ∃ x, numv Z (17 + m) 2 = x := ⟨_, rfl⟩
      obtain ⟨wy, hwy⟩ : ∃ x, Z 8 = x := ⟨_, rfl⟩
      rw [htk] at n2 t0 t1
      rw [had] at n3 ad0 ad1
      rw [hpt] at n4 pt0 pt1
      rw [hsm] at n5 s0 s1
      rw [hwy] at y80 y81
      have HT := Lib.hid (And.intro htk (And.intro had (And.intro hpt (And.intro hsm hwy))))
      have N2 := Lib.hid n2
      have N3 := Lib.hid n3
      have N4 := Lib.hid n4
      have N5 := Lib.hid n5
      obtain ⟨b0, o0, hp0, hc0⟩ := (HB.out.keep (BW.out.mono hB)).mem
      obtain ⟨rfl, hb0⟩ := hp0 (by omega)
      have c8 := hc0 8 (by omega)
      rw [hwy] at c8
      have C8 := Lib.hid c8
      clear n2 n3 n4 n5 htk had hpt hsm hwy hp0 hc0 c8
      go_enter Try.func104, Try.ntmps104
      go_upto_region 1 with (fail)
      rw [HWE.out, ← HGE.out]
      go_wp2_with fail
      refine N1.out.mono ?_
      rintro e w' ⟨rfl, rfl⟩
      go_wp2_with fail
      refine N2.out.mono ?_
      rintro e w' ⟨rfl, rfl⟩
      go_wp2_with fail
      refine N3.out.mono ?_
      rintro e w' ⟨rfl, rfl⟩
      go_wp2_with fail
      refine N4.out.mono ?_
      rintro e w' ⟨rfl, rfl⟩
      go_wp2_with fail
      refine N5.out.mono ?_
      rintro e w' ⟨rfl, rfl⟩
      go_upto_region 9 with (fail)
      have q1 : IntKind.u32.wrap ad = ad := by rw [IntKind.wrap_u32]; omega
      have q2 : IntKind.u16.wrap pt = pt := by rw [IntKind.wrap_u16]; omega
      have q3 : 17 + (m : Int) ≤ c := by omega
      have q4 : (17 + (m : Int)).toNat = 17 + m := by omega
      have q5 : ¬ c = 17 := by omega
      have q8 : (8 : Int) < n := by omega
      have q9 : IntKind.i64.wrap (17 + (m : Int)) = 17 + (m : Int) := IntWalk.i64_in _ (by omega)
      have q10 : (0 : Int) ≤ 17 + (m : Int) := by omega
      have q11 : max (17 + (m : Int)) 0 = 17 + (m : Int) := by omega
      have q12 : IntKind.i64.wrap wy = wy := IntWalk.i64_in _ (by omega)
      have q6 : (17 : Int) ≤ 17 + (m : Int) := by omega
      have q7 : IntKind.i64.wrap (17 + (m : Int) + 2 - 2) = 17 + (m : Int) := by rw [show 17 + (m : Int) + 2 - 2 = 17 + (m : Int) by omega]; exact IntWalk.i64_in _ (by omega)
      have hsrc : BS W.heap.size W (some ⟨b0, o0 + 17, none⟩) m (c - 17) (fun x => Z (17 + x)) := by
        have := (((HB.out.keep (BW.out.mono hB)).cut (k := 17 + m) (m := c) (by omega) (by omega) (Nat.le_refl _)).drop 17 (by omega) (by omega)).mono (Nat.le_trans hB BW.out.size)
        rw [show 17 + m - 17 = m by omega] at this
        exact this
      have HS := Lib.hid hsrc
      clear hsrc
      go_cut [16] (fun s16 wx => ∃ g16 a16 c16, s16 = .pointer (some ⟨g16, 0, none⟩) ∧ Hid (Below W.heap.size W wx) ∧ Hid (RcIn Z 0 wy ad pt m W.heap.size g16 a16 c16 wx))
      case first =>
        have hne : Nonempty { w' : World // Below W.heap.size W w' } := ⟨⟨_, Below.refl _ _⟩⟩
        have v8 : ∀ z : { w' : World // Below W.heap.size W w' }, z.1.cell? ⟨b0, o0 + 8, none⟩ = some (.int .u8 wy) := fun z => Below.cell' z.2 (World.block_lt_of_cell? _ _ C8.out) C8.out
        have D0 : Hid (Below W.heap.size W W.drew) := Lib.hid (Below.refl _ _).drew
        refine MixC.wp_region_pick [13, 15, 16] (Below W.heap.size W) D0.out (by kernel_rfl) ?_
        simp only [List.length_cons, List.length_nil, Nat.reduceAdd]
        (refine MixC.pick_read 0 rfl (by kernel_rfl) rfl (by kernel_rfl) (by kernel_rfl) D0.out (fun K hK => ?_); go_simp; refine hK _ ?_; clear hK K)
        (refine MixC.pick_read 1 rfl (by kernel_rfl) rfl (by kernel_rfl) (by kernel_rfl) D0.out (fun K hK => ?_); go_simp; refine hK _ ?_; clear hK K)
        (refine MixC.pick_read 2 rfl (by kernel_rfl) rfl (by kernel_rfl) (by kernel_rfl) D0.out (fun K hK => ?_); go_simp; refine hK _ ?_; clear hK K)
        (refine MixC.pick_read 3 rfl (by kernel_rfl) rfl (by kernel_rfl) (by kernel_rfl) D0.out (fun K hK => ?_); go_simp; refine hK _ ?_; clear hK K)
        (refine MixC.pick_read 4 rfl (by kernel_rfl) rfl (by kernel_rfl) (by kernel_rfl) D0.out (fun K hK => ?_); go_simp; refine hK _ ?_; clear hK K)
        (refine MixC.pick_read 5 rfl (by kernel_rfl) rfl (by kernel_rfl) (by kernel_rfl) D0.out (fun K hK => ?_); go_simp; refine hK _ ?_; clear hK K)
        (refine MixC.pick_read 6 rfl (by kernel_rfl) rfl (by kernel_rfl) (by kernel_rfl) D0.out (fun K hK => ?_); go_simp; refine hK _ ?_; clear hK K)
        (refine MixC.pick_read 7 rfl (by kernel_rfl) rfl (by kernel_rfl) (by kernel_rfl) D0.out (fun K hK => ?_); go_simp; refine hK _ ?_; clear hK K)
        (refine MixC.pick_read 8 rfl (by kernel_rfl) rfl (by kernel_rfl) (by kernel_rfl) D0.out (fun K hK => ?_); go_simp; refine hK _ ?_; clear hK K)
        (refine MixC.pick_read 9 rfl (by kernel_rfl) rfl (by kernel_rfl) (by kernel_rfl) D0.out (fun K hK => ?_); go_simp; refine hK _ ?_; clear hK K)
        (refine MixC.pick_read 10 rfl (by kernel_rfl) rfl (by kernel_rfl) (by kernel_rfl) D0.out (fun K hK => ?_); go_simp; refine hK _ ?_; clear hK K)
        (refine MixC.pick_read 11 rfl (by kernel_rfl) rfl (by kernel_rfl) (by kernel_rfl) D0.out (fun K hK => ?_); go_simp; refine hK _ ?_; clear hK K)
        (refine MixC.pick_read 12 rfl (by kernel_rfl) rfl (by kernel_rfl) (by kernel_rfl) D0.out (fun K hK => ?_); go_simp; refine hK _ ?_; clear hK K)
        refine MixC.pick_two 13 15 rfl rfl rfl rfl (by kernel_rfl) (fun K hK => ?_) (fun K hK => ?_)
        · go_simp
          refine (clone_any W.heap.size (some ⟨b0, o0 + 17, none⟩) m (c - 17) (fun x => Z (17 + x)) W.drew (HS.out.keep (Below.refl _ _).drew) (Nat.le_refl _) (by omega)).mono ?_
          rintro e V ⟨a1, c1, rfl, o1, b1⟩
          have O1 := Lib.hid o1
          have D1 : Hid (Below W.heap.size W V) := Lib.hid ((Below.refl _ _).drew.trans b1)
          clear o1 b1
          refine ⟨_, rfl, D1.out, hK _ _ ?_⟩
          clear hK K
          (refine MixC.pick_read 14 rfl (by kernel_rfl) rfl (by kernel_rfl) (by kernel_rfl) D1.out (fun K hK => ?_); go_simp; refine hK _ ?_; clear hK K)
          refine MixC.pick_move 15 rfl rfl (by kernel_rfl) (fun K hK => ?_)
          go_simp
          obtain ⟨V2, hV2⟩ : ∃ V2, V.alloc (.cells #[.int .i64 0, .int .i64 0, .int .u32 0, .int .u16 0, .slice none 0 0] 72) = V2 := ⟨_, rfl⟩
          obtain ⟨gn, hgn⟩ : ∃ gn, gn = V.heap.size := ⟨_, rfl⟩
          have G2 : V2.heap[gn]? = some (.cells #[.int .i64 0, .int .i64 0, .int .u32 0, .int .u16 0, .slice none 0 0] 72 (0, 0)) := by rw [← hV2, hgn]; exact alloc_blk_new
          have D2 : Hid (Below W.heap.size W V2) := Lib.hid (by rw [← hV2]; exact D1.out.alloc D1.out.size _)
          have O2 : Hid (V2.ownsRow W.heap.size 5 1 (.slice a1 m c1) m (bytesOf (fun i => Z (17 + i)) m)) := Lib.hid (by rw [← hV2]; exact own_below O1.out ((Below.refl _ _).alloc (Nat.le_refl _) _))
          have hgw : W.heap.size ≤ gn := by rw [hgn]; exact D1.out.size
          rw [hV2, ← hgn]
          refine ⟨D2.out, hK _ _ ?_⟩
          clear hK K hV2 hgn
          have y0 : V2.cell? ⟨gn, 0, none⟩ = some (.int .i64 0) := cell_blk G2
          have y1 : V2.cell? ⟨gn, 1, none⟩ = some (.int .i64 0) := cell_blk G2
          have y2 : V2.cell? ⟨gn, 2, none⟩ = some (.int .u32 0) := cell_blk G2
          have y3 : V2.cell? ⟨gn, 3, none⟩ = some (.int .u16 0) := cell_blk G2
          have y4 : V2.cell? ⟨gn, 4, none⟩ = some (.slice none 0 0) := cell_blk G2
          have z0 : V2.frozen? ⟨gn, 0, none⟩ = false := free_blk G2
          have z1 : V2.frozen? ⟨gn, 1, none⟩ = false := free_blk G2
          have z2 : V2.frozen? ⟨gn, 2, none⟩ = false := free_blk G2
          have z3 : V2.frozen? ⟨gn, 3, none⟩ = false := free_blk G2
          have z4 : V2.frozen? ⟨gn, 4, none⟩ = false := free_blk G2
          refine MixC.pick_move 16 rfl rfl (by kernel_rfl) (fun K hK => ?_)
          go_simp
          generalize hX : World.setCell _ _ _ = X
          obtain ⟨x1, x2, x3, x4⟩ := set5 G2 hX
          have DX : Hid (Below W.heap.size W X) := Lib.hid (D2.out.trans (x2 _ hgw))
          have RX : Hid (RcIn Z 0 wy ad pt m W.heap.size gn a1 c1 X) := Lib.hid ⟨x1, hgw, own_blk1y O2.out (fun q hq => x3 q (fun e => by
            obtain ⟨cs, mm, h2⟩ := own_block O2.out q hq
            rw [e, G2] at h2
            injection h2 with h2
            injection h2 with _ h2
            exact absurd h2 (by decide)))⟩
          refine ⟨DX.out, hK _ _ ?_⟩
          clear hK K hX x1 x2 x3 x4 y0 y1 y2 y3 y4 z0 z1 z2 z3 z4
          refine MixC.pick_nil (by kernel_rfl) ?_
          clear v8 hne
          go_wp2_with fail
          go_meet
          exact ⟨gn, a1, c1, rfl, DX, RX⟩
        · go_simp
          obtain ⟨V, hV⟩ : ∃ V, (W.alloc (.cells #[.int .i64 0, .int .i64 0, .int .u32 0, .int .u16 0, .slice none 0 0] 72)).drew = V := ⟨_, rfl⟩
          obtain ⟨gn, hgn⟩ : ∃ gn, gn = W.heap.size := ⟨_, rfl⟩
          have G1 : V.heap[gn]? = some (.cells #[.int .i64 0, .int .i64 0, .int .u32 0, .int .u16 0, .slice none 0 0] 72 (0, 0)) := by rw [← hV, hgn]; exact alloc_blk_new (w := W)
          have D1 : Hid (Below W.heap.size W V) := Lib.hid (by rw [← hV]; exact ((Below.refl _ _).alloc (Nat.le_refl _) _).drew)
          have hgw : W.heap.size ≤ gn := by omega
          rw [hV, ← hgn]
          refine ⟨by rw [hgn]; exact D1.out, hK _ _ ?_⟩
          clear hK K hV hgn
          refine MixC.pick_move 13 rfl rfl (by kernel_rfl) (fun K hK => ?_)
          go_simp
          refine (clone_any W.heap.size (some ⟨b0, o0 + 17, none⟩) m (c - 17) (fun x => Z (17 + x)) V (HS.out.keep D1.out) D1.out.size (by omega)).mono ?_
          rintro e V2 ⟨a1, c1, rfl, o1, b1⟩
          have O2 : Hid (V2.ownsRow W.heap.size 5 1 (.slice a1 m c1) m (bytesOf (fun i => Z (17 + i)) m)) := Lib.hid (World.ownsRow.mono o1 D1.out.size)
          have D2 : Hid (Below W.heap.size W V2) := Lib.hid (D1.out.trans (b1.mono D1.out.size))
          have G2 : V2.heap[gn]? = some (.cells #[.int .i64 0, .int .i64 0, .int .u32 0, .int .u16 0, .slice none 0 0] 72 (0, 0)) := Below.blk b1 G1 (lt_of_block G1)
          clear o1 b1
          refine ⟨_, rfl, D2.out, hK _ _ ?_⟩
          clear hK K
          (refine MixC.pick_read 14 rfl (by kernel_rfl) rfl (by kernel_rfl) (by kernel_rfl) D2.out (fun K hK => ?_); go_simp; refine hK _ ?_; clear hK K)
          have y0 : V2.cell? ⟨gn, 0, none⟩ = some (.int .i64 0) := cell_blk G2
          have y1 : V2.cell? ⟨gn, 1, none⟩ = some (.int .i64 0) := cell_blk G2
          have y2 : V2.cell? ⟨gn, 2, none⟩ = some (.int .u32 0) := cell_blk G2
          have y3 : V2.cell? ⟨gn, 3, none⟩ = some (.int .u16 0) := cell_blk G2
          have y4 : V2.cell? ⟨gn, 4, none⟩ = some (.slice none 0 0) := cell_blk G2
          have z0 : V2.frozen? ⟨gn, 0, none⟩ = false := free_blk G2
          have z1 : V2.frozen? ⟨gn, 1, none⟩ = false := free_blk G2
          have z2 : V2.frozen? ⟨gn, 2, none⟩ = false := free_blk G2
          have z3 : V2.frozen? ⟨gn, 3, none⟩ = false := free_blk G2
          have z4 : V2.frozen? ⟨gn, 4, none⟩ = false := free_blk G2
          refine MixC.pick_move 16 rfl rfl (by kernel_rfl) (fun K hK => ?_)
          go_simp
          generalize hX : World.setCell _ _ _ = X
          obtain ⟨x1, x2, x3, x4⟩ := set5 G2 hX
          have DX : Hid (Below W.heap.size W X) := Lib.hid (D2.out.trans (x2 _ hgw))
          have RX : Hid (RcIn Z 0 wy ad pt m W.heap.size gn a1 c1 X) := Lib.hid ⟨x1, hgw, own_blk1y O2.out (fun q hq => x3 q (fun e => by
            obtain ⟨cs, mm, h2⟩ := own_block O2.out q hq
            rw [e, G2] at h2
            injection h2 with h2
            injection h2 with _ h2
            exact absurd h2 (by decide)))⟩
          refine ⟨DX.out, hK _ _ ?_⟩
          clear hK K hX x1 x2 x3 x4 y0 y1 y2 y3 y4 z0 z1 z2 z3 z4
          refine MixC.pick_nil (by kernel_rfl) ?_
          clear v8 hne
          go_wp2_with fail
          go_meet
          exact ⟨gn, a1, c1, rfl, DX, RX⟩
      case rest =>
        obtain ⟨g16, a16, c16, rfl, DX, RX⟩ := hcut
        clear q1 q2 q3 q4 q5 q6 q7 q8 q9 q10 q11 q12
        have s0 : wc.cell? ⟨g16, 0, none⟩ = some (.int .i64 0) := cell_blk RX.out.blk
        have f0 : wc.frozen? ⟨g16, 0, none⟩ = false := free_blk RX.out.blk
        have hgl := lt_of_block G0.out
        have BWX : Hid (Below w.heap.size w wc) := Lib.hid (BW.out.trans (DX.out.mono BW.out.size))
        have hg16 : W.heap.size ≤ g16 := RX.out.gH
        have GX1 : ∀ v, Hid ((wc.setCell ⟨g16, 0, none⟩ v).heap[g]? = some (.cells #[.int .i64 0, .int .i64 0, .int .u32 0, .int .u16 0, .slice none 0 0] 72 (0, 0))) := fun v => Lib.hid (by
          rw [set_blk_other _ (by show g ≠ g16; omega)]; exact Below.blk DX.out G0.out hgl)
        have RX1 : ∀ v, Hid ((wc.setCell ⟨g16, 0, none⟩ v).heap[g16]? = some (.cells #[v, .int .i64 wy, .int .u32 ad, .int .u16 pt, .slice a16 m c16] 72 (0, 0))) := fun v => Lib.hid (by rw [set_blk _ RX.out.blk]; rfl)
        have BX1 : ∀ v, Hid (Below w.heap.size w (wc.setCell ⟨g16, 0, none⟩ v)) := fun v => Lib.hid (BWX.out.setCell (p := ⟨g16, 0, none⟩) (by show w.heap.size ≤ g16; have := BW.out.size; omega) _)
        have OX1 : ∀ v, Hid ((wc.setCell ⟨g16, 0, none⟩ v).ownsRow W.heap.size 5 1 (.slice a16 m c16) m (bytesOf (fun i => Z (17 + i)) m)) := fun v => Lib.hid (own_setT v RX.out.blk RX.out.row (by decide))
        have GXH := Lib.hid GX1
        have RXH := Lib.hid RX1
        have BXH := Lib.hid BX1
        have OXH := Lib.hid OX1
        clear GX1 RX1 BX1 OX1
        by_cases ht : 9223372036854775807 < tk
        · have d2 : decide (9223372036854775807 < tk) = true := by simpa using ht
          have hE : Hid (oneE Z n = 3) := Lib.hid (by unfold oneE; rw [HRC.out, if_neg (by omega), if_pos (.inl (by rw [HT.out.1]; exact ht))])
          go_upto_region 12 with (fail)
          clear s0 f0
          have G9 := (GXH.out (.int .i64 (min tk 9223372036854775807))).out
          have B9 := (BXH.out (.int .i64 (min tk 9223372036854775807))).out
          generalize hX1 : World.setCell wc _ _ = X1 at *
          clear hX1
          have y0 : X1.cell? ⟨g, 0, none⟩ = some (.int .i64 0) := cell_blk G9
          have y1 : X1.cell? ⟨g, 1, none⟩ = some (.int .i64 0) := cell_blk G9
          have y2 : X1.cell? ⟨g, 2, none⟩ = some (.int .u32 0) := cell_blk G9
          have y3 : X1.cell? ⟨g, 3, none⟩ = some (.int .u16 0) := cell_blk G9
          have y4 : X1.cell? ⟨g, 4, none⟩ = some (.slice none 0 0) := cell_blk G9
          have z0 : X1.frozen? ⟨g, 0, none⟩ = false := free_blk G9
          have z1 : X1.frozen? ⟨g, 1, none⟩ = false := free_blk G9
          have z2 : X1.frozen? ⟨g, 2, none⟩ = false := free_blk G9
          have z3 : X1.frozen? ⟨g, 3, none⟩ = false := free_blk G9
          have z4 : X1.frozen? ⟨g, 4, none⟩ = false := free_blk G9
          go_wp2_with fail
          clear y0 y1 y2 y3 y4 z0 z1 z2 z3 z4
          generalize hX : World.setCell _ _ _ = X
          obtain ⟨gx, bx0, -, -⟩ := set5 G9 hX
          have bx : Below w.heap.size w X := B9.trans (bx0 _ HGW.out)
          clear hX bx0
          have r0 : X.cell? ⟨g, 0, none⟩ = some (.int .i64 0) := cell_blk gx
          have r1 : X.cell? ⟨g, 1, none⟩ = some (.int .i64 0) := cell_blk gx
          have r2 : X.cell? ⟨g, 2, none⟩ = some (.int .u32 0) := cell_blk gx
          have r3 : X.cell? ⟨g, 3, none⟩ = some (.int .u16 0) := cell_blk gx
          have r4 : X.cell? ⟨g, 4, none⟩ = some (.slice none 0 0) := cell_blk gx
          refine bodyPost_ret (v := .tuple #[.agg #[.int .i64 0, .int .i64 0, .int .u32 0, .int .u16 0, .slice none 0 0], .int .i64 0, .int .i64 3]) (by simp [results, Try.results104, go_sem, r0, r1, r2, r3, r4]) rfl ?_
          exact ⟨.inl ⟨by rw [hE.out]; decide, by rw [hE.out]⟩, bx⟩
        · have d2 : decide (9223372036854775807 < tk) = false := by simpa using ht
          have hmin : min tk 9223372036854775807 = tk := by omega
          go_upto_region 11 with (fail)
          clear s0 f0 hmin
          have G9 := Lib.hid (GXH.out (.int .i64 tk)).out
          have R9 := Lib.hid (RXH.out (.int .i64 tk)).out
          have B9 := Lib.hid (BXH.out (.int .i64 tk)).out
          have O9 := Lib.hid (OXH.out (.int .i64 tk)).out
          generalize hX1 : World.setCell wc _ _ = X1 at *
          clear hX1
          have e0 : X1.cell? ⟨g16, 0, none⟩ = some (.int .i64 tk) := cell_blk R9.out
          have e1 : X1.cell? ⟨g16, 1, none⟩ = some (.int .i64 wy) := cell_blk R9.out
          have e2 : X1.cell? ⟨g16, 2, none⟩ = some (.int .u32 ad) := cell_blk R9.out
          have e3 : X1.cell? ⟨g16, 3, none⟩ = some (.int .u16 pt) := cell_blk R9.out
          have e4 : X1.cell? ⟨g16, 4, none⟩ = some (.slice a16 m c16) := cell_blk R9.out
          have hEm : Hid (oneE Z n = if mayR tk wy m = true then (if sm ≠ smR Z (17 + m) then 4 else 0) else 3) := Lib.hid (by
            unfold oneE
            rw [HRC.out, if_neg (by omega), HT.out.1, HT.out.2.2.2.1, HT.out.2.2.2.2]
            by_cases hmy : mayR tk wy m = true
            · obtain ⟨x1, x2, x3, x4⟩ := (mayR_iff _ _ _).1 hmy
              rw [if_neg (by omega), if_pos hmy]
            · have : 9223372036854775807 < tk ∨ 2 ≤ wy ∨ 1200 < m := by
                rw [mayR_iff] at hmy; omega
              rw [if_pos this, if_neg hmy])
          go_wp2_with fail
          refine (may45_any tk wy ad pt a16 m c16 X1).mono ?_
          rintro e V1 ⟨rfl, b1⟩
          have G1 := Lib.hid (Below.blk b1 G9.out (lt_of_block G9.out))
          have R1 := Lib.hid (Below.blk b1 R9.out (lt_of_block R9.out))
          have O1 := Lib.hid (own_below O9.out b1)
          have BV := Lib.hid (B9.out.trans (b1.mono B9.out.size))
          clear b1 e0 e1 e2 e3 e4
          cases hmy : mayR tk wy m with
          | false =>
            have hE : Hid (oneE Z n = 3) := Lib.hid (by rw [hEm.out, hmy]; rfl)
            clear hmy hEm
            go_upto_region 12 with (fail)
            have y0 : V1.cell? ⟨g, 0, none⟩ = some (.int .i64 0) := cell_blk G1.out
            have y1 : V1.cell? ⟨g, 1, none⟩ = some (.int .i64 0) := cell_blk G1.out
            have y2 : V1.cell? ⟨g, 2, none⟩ = some (.int .u32 0) := cell_blk G1.out
            have y3 : V1.cell? ⟨g, 3, none⟩ = some (.int .u16 0) := cell_blk G1.out
            have y4 : V1.cell? ⟨g, 4, none⟩ = some (.slice none 0 0) := cell_blk G1.out
            have z0 : V1.frozen? ⟨g, 0, none⟩ = false := free_blk G1.out
            have z1 : V1.frozen? ⟨g, 1, none⟩ = false := free_blk G1.out
            have z2 : V1.frozen? ⟨g, 2, none⟩ = false := free_blk G1.out
            have z3 : V1.frozen? ⟨g, 3, none⟩ = false := free_blk G1.out
            have z4 : V1.frozen? ⟨g, 4, none⟩ = false := free_blk G1.out
            go_wp2_with fail
            clear y0 y1 y2 y3 y4 z0 z1 z2 z3 z4
            generalize hX : World.setCell _ _ _ = X
            obtain ⟨gx, bx0, -, -⟩ := set5 G1.out hX
            have bx : Below w.heap.size w X := BV.out.trans (bx0 _ HGW.out)
            clear hX bx0
            have r0 : X.cell? ⟨g, 0, none⟩ = some (.int .i64 0) := cell_blk gx
            have r1 : X.cell? ⟨g, 1, none⟩ = some (.int .i64 0) := cell_blk gx
            have r2 : X.cell? ⟨g, 2, none⟩ = some (.int .u32 0) := cell_blk gx
            have r3 : X.cell? ⟨g, 3, none⟩ = some (.int .u16 0) := cell_blk gx
            have r4 : X.cell? ⟨g, 4, none⟩ = some (.slice none 0 0) := cell_blk gx
            refine bodyPost_ret (v := .tuple #[.agg #[.int .i64 0, .int .i64 0, .int .u32 0, .int .u16 0, .slice none 0 0], .int .i64 0, .int .i64 3]) (by simp [results, Try.results104, go_sem, r0, r1, r2, r3, r4]) rfl ?_
            exact ⟨.inl ⟨by rw [hE.out]; decide, by rw [hE.out]⟩, bx⟩
          | true =>
            have HMY := Lib.hid hmy
            have q3 : 17 + (m : Int) ≤ c := by omega
            have q4 : (17 + (m : Int)).toNat = 17 + m := by omega
            have q10 : (0 : Int) ≤ 17 + (m : Int) := by omega
            clear hmy
            go_wp2_with fail
            refine (sum45_any B (some ⟨b0, o0, none⟩) (17 + m) c Z V1 ((HB.out.keep (BV.out.mono hB)).cut (by omega) (by omega) (Nat.le_refl _)) (by omega)).mono ?_
            rintro e w' ⟨rfl, rfl⟩
            clear q3 q4 q10
            obtain ⟨y, hy⟩ : ∃ y, smR Z (17 + m) = y := ⟨_, rfl⟩
            have HY := Lib.hid hy
            rw [hy]
            clear hy
            by_cases he : sm = y
            · have d3 : (sm == y) = true := by simpa using he
              have d4 : decide (sm = y) = true := by simpa using he
              have hE : Hid (oneE Z n = 0) := Lib.hid (by rw [hEm.out, if_pos HMY.out, HY.out, if_neg (by simpa using he)])
              clear he hEm
              go_upto_region 15 with (fail)
              have e0 : V1.cell? ⟨g16, 0, none⟩ = some (.int .i64 tk) := cell_blk R1.out
              have e1 : V1.cell? ⟨g16, 1, none⟩ = some (.int .i64 wy) := cell_blk R1.out
              have e2 : V1.cell? ⟨g16, 2, none⟩ = some (.int .u32 ad) := cell_blk R1.out
              have e3 : V1.cell? ⟨g16, 3, none⟩ = some (.int .u16 pt) := cell_blk R1.out
              have e4 : V1.cell? ⟨g16, 4, none⟩ = some (.slice a16 m c16) := cell_blk R1.out
              have y0 : V1.cell? ⟨g, 0, none⟩ = some (.int .i64 0) := cell_blk G1.out
              have y1 : V1.cell? ⟨g, 1, none⟩ = some (.int .i64 0) := cell_blk G1.out
              have y2 : V1.cell? ⟨g, 2, none⟩ = some (.int .u32 0) := cell_blk G1.out
              have y3 : V1.cell? ⟨g, 3, none⟩ = some (.int .u16 0) := cell_blk G1.out
              have y4 : V1.cell? ⟨g, 4, none⟩ = some (.slice none 0 0) := cell_blk G1.out
              have z0 : V1.frozen? ⟨g, 0, none⟩ = false := free_blk G1.out
              have z1 : V1.frozen? ⟨g, 1, none⟩ = false := free_blk G1.out
              have z2 : V1.frozen? ⟨g, 2, none⟩ = false := free_blk G1.out
              have z3 : V1.frozen? ⟨g, 3, none⟩ = false := free_blk G1.out
              have z4 : V1.frozen? ⟨g, 4, none⟩ = false := free_blk G1.out
              go_wp2_with fail
              clear y0 y1 y2 y3 y4 z0 z1 z2 z3 z4 e0 e1 e2 e3 e4
              generalize hX : World.setCell _ _ _ = X
              obtain ⟨gx, bx0, hoth, -⟩ := set5 G1.out hX
              have bx : Below w.heap.size w X := BV.out.trans (bx0 _ HGW.out)
              have ox : X.ownsRow W.heap.size 5 1 (.slice a16 m c16) m (bytesOf (fun i => Z (17 + i)) m) := own_blk1y O1.out (fun q hq => hoth q (fun e => by have := (O1.out.lt q hq).1; omega))
              clear hX bx0 hoth
              have r0 : X.cell? ⟨g, 0, none⟩ = some (.int .i64 tk) := cell_blk gx
              have r1 : X.cell? ⟨g, 1, none⟩ = some (.int .i64 wy) := cell_blk gx
              have r2 : X.cell? ⟨g, 2, none⟩ = some (.int .u32 ad) := cell_blk gx
              have r3 : X.cell? ⟨g, 3, none⟩ = some (.int .u16 pt) := cell_blk gx
              have r4 : X.cell? ⟨g, 4, none⟩ = some (.slice a16 m c16) := cell_blk gx
              refine bodyPost_ret (v := .tuple #[.agg #[.int .i64 tk, .int .i64 wy, .int .u32 ad, .int .u16 pt, .slice a16 m c16], .int .i64 (17 + (m : Int) + 2), .int .i64 0]) (by simp [results, Try.results104, go_sem, r0, r1, r2, r3, r4]) rfl ?_
              refine ⟨.inr ⟨hE.out, a16, c16, ?_, ?_⟩, bx⟩
              · rw [HT.out.1, HT.out.2.1, HT.out.2.2.1, HT.out.2.2.2.2, HRC.out, show ((19 + m : Nat) : Int) = 17 + (m : Int) + 2 by omega]
              · rw [HRC.out]; exact World.ownsRow.mono ox BW.out.size
            · have d3 : (sm == y) = false := by simpa using he
              have d4 : decide (sm = y) = false := by simpa using he
              have hE : Hid (oneE Z n = 4) := Lib.hid (by rw [hEm.out, if_pos HMY.out, HY.out, if_pos he])
              clear he hEm
              go_upto_region 14 with (fail)
              have y0 : V1.cell? ⟨g, 0, none⟩ = some (.int .i64 0) := cell_blk G1.out
              have y1 : V1.cell? ⟨g, 1, none⟩ = some (.int .i64 0) := cell_blk G1.out
              have y2 : V1.cell? ⟨g, 2, none⟩ = some (.int .u32 0) := cell_blk G1.out
              have y3 : V1.cell? ⟨g, 3, none⟩ = some (.int .u16 0) := cell_blk G1.out
              have y4 : V1.cell? ⟨g, 4, none⟩ = some (.slice none 0 0) := cell_blk G1.out
              have z0 : V1.frozen? ⟨g, 0, none⟩ = false := free_blk G1.out
              have z1 : V1.frozen? ⟨g, 1, none⟩ = false := free_blk G1.out
              have z2 : V1.frozen? ⟨g, 2, none⟩ = false := free_blk G1.out
              have z3 : V1.frozen? ⟨g, 3, none⟩ = false := free_blk G1.out
              have z4 : V1.frozen? ⟨g, 4, none⟩ = false := free_blk G1.out
              go_wp2_with fail
              clear y0 y1 y2 y3 y4 z0 z1 z2 z3 z4
              generalize hX : World.setCell _ _ _ = X
              obtain ⟨gx, bx0, -, -⟩ := set5 G1.out hX
              have bx : Below w.heap.size w X := BV.out.trans (bx0 _ HGW.out)
              clear hX bx0
              have r0 : X.cell? ⟨g, 0, none⟩ = some (.int .i64 0) := cell_blk gx
              have r1 : X.cell? ⟨g, 1, none⟩ = some (.int .i64 0) := cell_blk gx
              have r2 : X.cell? ⟨g, 2, none⟩ = some (.int .u32 0) := cell_blk gx
              have r3 : X.cell? ⟨g, 3, none⟩ = some (.int .u16 0) := cell_blk gx
              have r4 : X.cell? ⟨g, 4, none⟩ = some (.slice none 0 0) := cell_blk gx
              refine bodyPost_ret (v := .tuple #[.agg #[.int .i64 0, .int .i64 0, .int .u32 0, .int .u16 0, .slice none 0 0], .int .i64 0, .int .i64 4]) (by simp [results, Try.results104, go_sem, r0, r1, r2, r3, r4]) rfl ?_
              exact ⟨.inl ⟨by rw [hE.out]; decide, by rw [hE.out]⟩, bx⟩
  · have th1 : there n 15 2 = false := by rw [Bool.eq_false_iff, Ne, there_iff]; omega
    obtain ⟨g, hg⟩ : ∃ g, g = w.heap.size := ⟨_, rfl⟩
    obtain ⟨W, hW⟩ : ∃ W, w.alloc (.cells #[.int .i64 0, .int .i64 0, .int .u32 0, .int .u16 0, .slice none 0 0] 72) = W := ⟨_, rfl⟩
    have BW : Hid (Below w.heap.size w W) := Lib.hid (by rw [← hW]; exact (Below.refl _ _).alloc (Nat.le_refl _) _)
    have G0 : Hid (W.heap[g]? = some (.cells #[.int .i64 0, .int .i64 0, .int .u32 0, .int .u16 0, .slice none 0 0] 72 (0, 0))) := Lib.hid (by rw [← hW, hg]; exact alloc_blk_new)
    have HGW : Hid (w.heap.size ≤ g) := Lib.hid (by omega)
    have n1 := num_any B a n c Z 15 2 W (HB.out.keep (BW.out.mono hB)) (by omega) (by omega) (by omega) (by omega)
    rw [th1, show numOr Z n 15 2 = 0 by unfold numOr; rw [th1]; rfl] at n1
    have N1 := Lib.hid n1
    have hE : Hid (oneE Z n = 2) := Lib.hid (by unfold oneE; rw [if_pos (.inl (by omega))])
    have HWE := Lib.hid hW
    have HGE := Lib.hid hg
    clear n1 hW hg hbd th1 h17
    go_enter Try.func104, Try.ntmps104
    go_upto_region 1 with (fail)
    rw [HWE.out, ← HGE.out]
    go_wp2_with fail
    refine N1.out.mono ?_
    rintro e w' ⟨rfl, rfl⟩
    go_upto_region 4 with (fail)
    have y0 : W.cell? ⟨g, 0, none⟩ = some (.int .i64 0) := cell_blk G0.out
    have y1 : W.cell? ⟨g, 1, none⟩ = some (.int .i64 0) := cell_blk G0.out
    have y2 : W.cell? ⟨g, 2, none⟩ = some (.int .u32 0) := cell_blk G0.out
    have y3 : W.cell? ⟨g, 3, none⟩ = some (.int .u16 0) := cell_blk G0.out
    have y4 : W.cell? ⟨g, 4, none⟩ = some (.slice none 0 0) := cell_blk G0.out
    have z0 : W.frozen? ⟨g, 0, none⟩ = false := free_blk G0.out
    have z1 : W.frozen? ⟨g, 1, none⟩ = false := free_blk G0.out
    have z2 : W.frozen? ⟨g, 2, none⟩ = false := free_blk G0.out
    have z3 : W.frozen? ⟨g, 3, none⟩ = false := free_blk G0.out
    have z4 : W.frozen? ⟨g, 4, none⟩ = false := free_blk G0.out
    go_wp2_with fail
    clear y0 y1 y2 y3 y4 z0 z1 z2 z3 z4
    generalize hX : World.setCell _ _ _ = X
    obtain ⟨gx, bx0, -, -⟩ := set5 G0.out hX
    have bx : Below w.heap.size w X := BW.out.trans (bx0 _ HGW.out)
    clear hX bx0
    have r0 : X.cell? ⟨g, 0, none⟩ = some (.int .i64 0) := cell_blk gx
    have r1 : X.cell? ⟨g, 1, none⟩ = some (.int .i64 0) := cell_blk gx
    have r2 : X.cell? ⟨g, 2, none⟩ = some (.int .u32 0) := cell_blk gx
    have r3 : X.cell? ⟨g, 3, none⟩ = some (.int .u16 0) := cell_blk gx
    have r4 : X.cell? ⟨g, 4, none⟩ = some (.slice none 0 0) := cell_blk gx
    refine bodyPost_ret (v := .tuple #[.agg #[.int .i64 0, .int .i64 0, .int .u32 0, .int .u16 0, .slice none 0 0], .int .i64 0, .int .i64 2]) (by simp [results, Try.results104, go_sem, r0, r1, r2, r3, r4]) rfl ?_
    exact ⟨.inl ⟨by rw [hE.out]; decide, by rw [hE.out]⟩, bx⟩
end Go.Proofs.Ytdmbdageohjodaa
