/-
  Chapter 32: the reference compares lists of elements; alive; great.
-/
import Derived.Test.YtihbceippcgfgaaExE
namespace Go.Proofs.Ytihbceippcgfgaa
open Go.RowKit
set_option linter.unusedVariables false
set_option linter.unusedSimpArgs false
attribute [local irreducible] wpStill wpQuiet MixC.wpMix
attribute [local go_sem] MixC.rdOp MixC.rd MixC.rdUpon MixC.mvUpon

structure EqvE (q r : El) : Prop where
  id : q.id = r.id
  n : q.n = r.n
  z : ∀ x, x < q.n → q.Z x = r.Z x
set_option maxRecDepth 100000 in
set_option maxHeartbeats 4000000 in
theorem rsame32_true (B : Nat) (a a' : Option Addr) (len c c' : Nat) (Q Q' : Nat → El) (w : World) (h : Els B w a len c Q) (h' : Els B w a' len c' Q') (hB : B ≤ w.heap.size) (hl : len ≤ 10000) (he : ∀ i, i < len → EqvE (Q i) (Q' i)) :
    Calls Try.prog 20 #[.slice a len c, .slice a' len c'] w fun e w' => e = .returned (.bool true) ∧ Below w.heap.size w w' := by
  have HQ := Lib.hid h
  have HP := Lib.hid h'
  have l1 := h.le
  have m1 := h.max
  have l2 := h'.le
  have m2 := h'.max
  clear h h'
  go_enter Try.func20, Try.ntmps20
  go_wp2_with fail
  go_loopw [5] (fun s5 wr => ∃ k : Nat, k ≤ len ∧ s5 = .int .i64 k ∧ Hid (Below w.heap.size w wr)) (fun s5 _ => len - (intOf s5).toNat)
  case atStart => exact ⟨0, by omega, rfl, Lib.hid (Below.refl _ _)⟩
  case round =>
    obtain ⟨k, hk, rfl, HS⟩ := hrel
    by_cases hlt : k < len
    · obtain ⟨b1, o1, hp1, hc1⟩ := (HQ.out.keep (HS.out.mono hB)).mem
      obtain ⟨rfl, hb1⟩ := hp1 (by omega)
      obtain ⟨b2, o2, hp2, hc2⟩ := (HP.out.keep (HS.out.mono hB)).mem
      obtain ⟨rfl, hb2⟩ := hp2 (by omega)
      have c0 := hc1 k hlt
      have d0 := hc2 k hlt
      have z1 := (HQ.out.ok k hlt).z.keep (HS.out.mono hB)
      have z2 := (HP.out.ok k hlt).z.keep (HS.out.mono hB)
      have hE := he k hlt
      obtain ⟨q, hq⟩ : ∃ q, Q k = q := ⟨_, rfl⟩
      obtain ⟨r, hr⟩ : ∃ r, Q' k = r := ⟨_, rfl⟩
      rw [hq] at c0 z1 hE
      rw [hr] at d0 z2 hE
      obtain ⟨id, ra, rn, rc, rZ⟩ := q
      obtain ⟨id', ra', rn', rc', rZ'⟩ := r
      obtain ⟨e1, e5, e6⟩ := hE
      simp only at e1 e5 e6
      subst e1 e5
      simp only at c0 d0 z1 z2
      have hs : strOf rZ' rn = strOf rZ rn := (strOf_congr e6).symm
      have z1' := z1.mono (Nat.le_trans hB HS.out.size)
      have z2' := z2.mono (Nat.le_trans hB HS.out.size)
      have C := Lib.hid c0
      have D := Lib.hid d0
      have HZ1 := Lib.hid z1'
      have HZ2 := Lib.hid z2'
      have HSS := Lib.hid hs
      clear c0 d0 z1 z2 z1' z2' hs hq hr hp1 hp2 hc1 hc2 e6
      have hki : (k : Int) < len := by omega
      go_upto_region 6 with (fail)
      have hne : Nonempty { w' : World // Below wr.heap.size wr w' } := ⟨⟨_, Below.refl _ _⟩⟩
      have lb1 := World.block_lt_of_cell? _ _ C.out.1
      have lb2 := World.block_lt_of_cell? _ _ D.out.1
      have u0 : ∀ z : { w' : World // Below wr.heap.size wr w' }, z.1.cell? ⟨b1, o1 + k * 2, none⟩ = some (.int .i64 id) := fun z => Below.cell' z.2 lb1 C.out.1
      have u4 : ∀ z : { w' : World // Below wr.heap.size wr w' }, z.1.cell? ⟨b1, o1 + k * 2 + 1, none⟩ = some (.slice ra rn rc) := fun z => Below.cell' z.2 lb1 C.out.2
      have t0 : ∀ z : { w' : World // Below wr.heap.size wr w' }, z.1.cell? ⟨b2, o2 + k * 2, none⟩ = some (.int .i64 id) := fun z => Below.cell' z.2 lb2 D.out.1
      have t4 : ∀ z : { w' : World // Below wr.heap.size wr w' }, z.1.cell? ⟨b2, o2 + k * 2 + 1, none⟩ = some (.slice ra' rn rc') := fun z => Below.cell' z.2 lb2 D.out.2
      have s1 : ∀ z : { w' : World // Below wr.heap.size wr w' }, (convert 25 9 (.slice ra rn rc)).run Try.prog z.1 = .ok (.string (strOf rZ rn)) z.1 := fun z => run_conv_BS (HZ1.out.keep z.2) Try.underlying25 Try.underlying5 Try.underlying9
      have s2 : ∀ z : { w' : World // Below wr.heap.size wr w' }, (convert 25 9 (.slice ra' rn rc')).run Try.prog z.1 = .ok (.string (strOf rZ rn)) z.1 := fun z => by rw [← HSS.out]; exact run_conv_BS (HZ2.out.keep z.2) Try.underlying25 Try.underlying5 Try.underlying9
      refine MixC.wp_region_mix [] (Below wr.heap.size wr) (Below.refl _ _).drew (by kernel_rfl) (by kernel_rfl) (by kernel_rfl) ?_
      (iterate 26 (refine MixC.mix_read rfl (fun K hK => ?_); go_simp; refine hK _ ?_; clear hK K))
      refine MixC.mix_nil ?_
      clear u0 u4 t0 t4 s1 s2 hne
      have B2 : Hid (Below w.heap.size w wr.drew) := Lib.hid HS.out.drew
      go_wp2_with fail
      go_roundw
      case rel => exact ⟨k + 1, by omega, by go_num, B2⟩
      case measure => simp [intOf] <;> omega
    · have : k = len := by omega
      subst this
      clear hlt
      go_wp2_with fail
      go_ret
      exact ⟨rfl, HS.out⟩
def GrP (len : Nat) (Q : Nat → El) (w : World) (e : Ending) (w' : World) : Prop := ∃ b : Bool, e = .returned (.bool b) ∧ Below w.heap.size w w' ∧ (b = false → len ≤ 200 ∧ ∀ i, i < len → (Q i).n ≤ 100)
set_option maxRecDepth 100000 in
set_option maxHeartbeats 4000000 in
theorem great32_any (B : Nat) (a : Option Addr) (len c : Nat) (Q : Nat → El) (w : World) (h : Els B w a len c Q) (hB : B ≤ w.heap.size) :
    Calls Try.prog 16 #[.slice a len c] w (GrP len Q w) := by
  have HQ := Lib.hid h
  have l1 := h.le
  have m1 := h.max
  clear h
  go_enter Try.func16, Try.ntmps16
  go_wp2_with fail
  go_loopw [3] (fun s3 wr => ∃ k : Nat, k ≤ len ∧ s3 = .int .i64 k ∧ Hid (Below w.heap.size w wr) ∧ Hid (∀ i, i < k → (Q i).n ≤ 100)) (fun s3 _ => len - (intOf s3).toNat)
  case atStart => exact ⟨0, by omega, rfl, Lib.hid (Below.refl _ _), Lib.hid (fun i hi => absurd hi (Nat.not_lt_zero _))⟩
  case round =>
    obtain ⟨k, hk, rfl, HS, HN⟩ := hrel
    by_cases hlt : k < len
    · obtain ⟨b1, o1, hp1, hc1⟩ := (HQ.out.keep (HS.out.mono hB)).mem
      obtain ⟨rfl, hb1⟩ := hp1 (by omega)
      have c0 := (hc1 k hlt).2
      have c1 : wr.cell? ⟨b1, o1 + (k * 2 + 1), none⟩ = some (.slice (Q k).a (Q k).n (Q k).c) := c0
      have hki : (k : Int) < len := by omega
      clear hp1 hc1
      by_cases h100 : (Q k).n ≤ 100
      · have h1 : ¬ (100 : Int) < (Q k).n := by omega
        have h2 : ((Q k).n : Int) ≤ 100 := by omega
        have HN2 : Hid (∀ i, i < k + 1 → (Q i).n ≤ 100) := Lib.hid (fun i hi => by
          rcases Nat.lt_or_ge i k with h | h
          · exact HN.out i h
          · rw [show i = k by omega]; exact h100)
        have HS2 : Hid (Below w.heap.size w wr.drew) := Lib.hid HS.out.drew
        go_wp2_with fail
        go_roundw
        case rel => exact ⟨k + 1, by omega, by go_num, by first | exact HS | exact HS2, HN2⟩
        case measure => simp [intOf] <;> omega
      · have h1 : (100 : Int) < (Q k).n := by omega
        go_wp2_with fail
        go_ret
        exact ⟨true, rfl, by first | exact HS.out | exact HS.out.drew, fun h => by cases h⟩
    · have : k = len := by omega
      subst this
      clear hlt
      by_cases h200 : k ≤ 200
      · have h1 : ¬ (200 : Int) < k := by omega
        go_wp2_with fail
        go_ret
        exact ⟨_, rfl, HS.out, fun _ => ⟨h200, HN.out⟩⟩
      · have h1 : (200 : Int) < k := by omega
        go_wp2_with fail
        go_ret
        exact ⟨_, rfl, HS.out, fun h => by first | (exact absurd h (by simp [h1])) | (simp at h; omega)⟩
theorem vals_get (l : List ElE) (i : Nat) (hi : i < l.length) : (l.flatMap ElE.vals)[i * 2]? = some (.int .i64 (l[i]).e.id) ∧ (l.flatMap ElE.vals)[i * 2 + 1]? = some (.slice (l[i]).e.a (l[i]).e.n (l[i]).e.c) := by
  induction l generalizing i with
  | nil => exact absurd hi (Nat.not_lt_zero _)
  | cons x l ih =>
    rw [List.flatMap_cons]
    cases i with
    | zero => exact ⟨rfl, rfl⟩
    | succ i =>
      have := ih i (by simpa using hi)
      rw [show (i + 1) * 2 = i * 2 + 2 by omega]
      simpa [ElE.vals] using this
def lE (l : List ElE) (i : Nat) : El := (l.map ElE.e).getD i default
theorem lE_get (l : List ElE) (i : Nat) (hi : i < l.length) : lE l i = (l[i]).e := by simp [lE, hi]
structure OkE (e : El) : Prop where
  i0 : -9223372036854775808 ≤ e.id
  i1 : e.id ≤ 9223372036854775807
  n : e.n ≤ 100000
  z : ∀ i, i < e.n → 0 ≤ e.Z i ∧ e.Z i ≤ 255
theorem EList.els {l : List ElE} {base : Nat} {a : Option Addr} {n c : Nat} {w : World} (h : EList l base (.slice a n c) w) (ok : ∀ i (hi : i < l.length), OkE (l[i]).e) : n = l.length ∧ Els w.heap.size w a n c (lE l) := by
  obtain ⟨h1, h2⟩ := h
  have hlt := h1.lt
  have hcell := fun g => h1.cells (g := g)
  have okk : ∀ i, i < l.length → ElOk w.heap.size w (lE l i) := fun i hi => by
    obtain ⟨q1, q2, q9, q10⟩ := ok i hi
    rw [lE_get l i hi]
    obtain ⟨a', c', he, hs⟩ := BS.of_owns (h2 _ (List.getElem_mem hi)) q10 (by omega)
    have e1 : a' = (l[i]).e.a := by injection he with x1 x2 x3; exact x1.symm
    have e2 : c' = (l[i]).e.c := by injection he with x1 x2 x3; exact x3.symm
    rw [e1, e2] at hs
    exact ⟨q1, q2, hs⟩
  obtain ⟨h3, h4⟩ := h1
  rcases h4 with ⟨hv, h0⟩ | ⟨g, cap, cur, hv, hg, hh, hn2, hcap, hsz, _⟩
  · injection hv with e1 e2 e3
    subst e1 e2 e3
    have hl0 : l.length = 0 := by omega
    exact ⟨hl0.symm, Nat.le_refl _, by omega, fun i hi => by omega, 0, 0, fun h => by omega, fun i hi => by omega⟩
  · injection hv with e1 e2 e3
    subst e1 e2 e3
    refine ⟨rfl, hn2, by unfold maxLen at hcap; omega, okk, g, 0, fun _ => ⟨rfl, (hlt g rfl).2⟩, fun i hi => ?_⟩
    rw [lE_get l i hi]
    have t0 := hcell g rfl (i * 2) _ (vals_get l i hi).1
    have t1 := hcell g rfl (i * 2 + 1) _ (vals_get l i hi).2
    rw [addr_add] at t0 t1
    exact ⟨t0, t1⟩
def zal : Nat → Int := gz [16, 255, 0, 0]
def zah : Nat → Int := gz [17, 1]
theorem prs_al : prs zal 4 0 = ([(1, 1, 1)], true) := by
  rw [prs]; simp [zal, gz, lenP]
  rw [prs]; simp [zal, gz, lenP]
  rw [prs]; simp [zal, gz, lenP]
  rw [prs]; simp
theorem prs_ah : (prs zah 2 0).2 = false := by
  rw [prs]; simp [zah, gz, lenP]
set_option maxHeartbeats 2000000 in
theorem alive32_any (w : World) : Calls Try.prog 15 #[] w fun e w' => e = .returned (.bool true) ∧ Below w.heap.size w w' := by
  go_enter Try.func15, Try.ntmps15
  go_wp2_with fail
  obtain ⟨W1, hW1⟩ : ∃ W1, w.alloc (.cells #[.int .u8 16, .int .u8 255, .int .u8 0, .int .u8 0] 5) = W1 := ⟨_, rfl⟩
  rw [hW1]
  have b1 : Below w.heap.size w W1 := by rw [← hW1]; exact (Below.refl _ _).alloc (Nat.le_refl _) _
  have k1 : W1.heap[w.heap.size]? = some (.cells #[.int .u8 16, .int .u8 255, .int .u8 0, .int .u8 0] 5 (0, 0)) := by rw [← hW1]; exact alloc_blk_new
  have hs1 : BS W1.heap.size W1 (some ⟨w.heap.size, 0, none⟩) 4 4 zal := ⟨Nat.le_refl _, by omega, fun i hi => by
    rcases (by omega : i = 0 ∨ i = 1 ∨ i = 2 ∨ i = 3) with rfl | rfl | rfl | rfl <;> decide, w.heap.size, 0, fun _ => ⟨rfl, lt_of_block k1⟩, fun i hi => by
    rw [cell_blk k1]
    rcases (by omega : i = 0 ∨ i = 1 ∨ i = 2 ∨ i = 3) with rfl | rfl | rfl | rfl <;> rfl⟩
  have B1 := Lib.hid b1
  clear hW1 k1 b1
  refine (read32_any W1.heap.size _ 4 4 zal W1 hs1 (Nat.le_refl _) (by omega)).mono ?_
  rintro e w2 ⟨v, E, rfl, b2, h⟩
  obtain ⟨rfl, l, hl, hr, hz⟩ : E = 0 ∧ ∃ l : List ElE, prs zal 4 0 = (l.map ElE.key, true) ∧ EList l W1.heap.size v w2 ∧ ∀ x ∈ l, x.e.Z = fun i => zal (x.st + i) := by
    rcases h with h | ⟨_, _, h⟩
    · exact h
    · rw [prs_al] at h; cases h
  have B2 : Hid (Below w.heap.size w w2) := Lib.hid (B1.out.trans (b2.mono B1.out.size))
  obtain ⟨va, vc, rfl⟩ := hr.sl
  have HL : Hid (EList l W1.heap.size (.slice va l.length vc) w2 ∧ prs zal 4 0 = (l.map ElE.key, true) ∧ ∀ x ∈ l, x.e.Z = fun i => zal (x.st + i)) := Lib.hid ⟨hr, hl, hz⟩
  clear h hs1 b2 hr hl hz
  go_wp2_with fail
  obtain ⟨W3, hW3⟩ : ∃ W3, w2.alloc (.cells #[.int .u8 17, .int .u8 1] 5) = W3 := ⟨_, rfl⟩
  rw [hW3]
  have b3 : Below w2.heap.size w2 W3 := by rw [← hW3]; exact (Below.refl _ _).alloc (Nat.le_refl _) _
  have k3 : W3.heap[w2.heap.size]? = some (.cells #[.int .u8 17, .int .u8 1] 5 (0, 0)) := by rw [← hW3]; exact alloc_blk_new
  have hs3 : BS W3.heap.size W3 (some ⟨w2.heap.size, 0, none⟩) 2 2 zah := ⟨Nat.le_refl _, by omega, fun i hi => by
    rcases (by omega : i = 0 ∨ i = 1) with rfl | rfl <;> decide, w2.heap.size, 0, fun _ => ⟨rfl, lt_of_block k3⟩, fun i hi => by
    rw [cell_blk k3]
    rcases (by omega : i = 0 ∨ i = 1) with rfl | rfl <;> rfl⟩
  have B3 := Lib.hid b3
  clear hW3 k3 b3
  refine (read32_any W3.heap.size _ 2 2 zah W3 hs3 (Nat.le_refl _) (by omega)).mono ?_
  rintro e w4 ⟨v, E, rfl, b4, h⟩
  obtain ⟨rfl, rfl⟩ : E = 2 ∧ v = .slice none 0 0 := by
    rcases h with ⟨_, l', h, _⟩ | ⟨h1, h2, _⟩
    · have h9 := prs_ah; rw [h] at h9; cases h9
    · exact ⟨h1, h2⟩
  have B4 : Hid (Below w2.heap.size w2 w4) := Lib.hid (B3.out.trans (b4.mono B3.out.size))
  clear h hs3 b4
  go_wp2_with fail
  obtain ⟨W5, hW5⟩ : ∃ W5, (w4.alloc (.cells #[.int .u8 255] 5)).alloc (.cells #[.int .i64 1, .slice (some ⟨w4.heap.size, 0, none⟩) 1 1] 35) = W5 := ⟨_, rfl⟩
  rw [hW5]
  have b5 : Below w4.heap.size w4 W5 := by rw [← hW5]; exact ((Below.refl _ _).alloc (Nat.le_refl _) _).alloc (by simp) _
  have k5 : W5.heap[w4.heap.size]? = some (.cells #[.int .u8 255] 5 (0, 0)) := by rw [← hW5]; exact (alloc_blk_old (by simp)).trans alloc_blk_new
  have k6 : W5.heap[w4.heap.size + 1]? = some (.cells #[.int .i64 1, .slice (some ⟨w4.heap.size, 0, none⟩) 1 1] 35 (0, 0)) := by
    rw [← hW5]
    have := alloc_blk_new (w := w4.alloc (.cells #[.int .u8 255] 5)) (o := .cells #[.int .i64 1, .slice (some ⟨w4.heap.size, 0, none⟩) 1 1] 35)
    rw [World.size_alloc] at this
    exact this
  obtain ⟨hr, hl, hz⟩ := HL.out
  rw [prs_al] at hl
  obtain ⟨x, rfl⟩ : ∃ x, l = [x] := by
    have := congrArg (fun q => q.1.length) hl
    simp only [List.length_cons, List.length_nil, List.length_map] at this
    exact List.length_eq_one_iff.1 this.symm
  have hkx : x.key = (1, 1, 1) := by
    have := congrArg (fun q => q.1) hl
    simpa using this.symm
  have hzx := hz x (by simp)
  obtain ⟨⟨xi, xa, xn, xc, xZ⟩, st, xo⟩ := x
  simp only [ElE.key, Prod.mk.injEq] at hkx
  obtain ⟨rfl, rfl, rfl⟩ := hkx
  simp only at hzx
  subst hzx
  have hr5 := (hr.below (B4.out.mono (Nat.le_refl _))).below b5
  obtain ⟨-, hels⟩ := hr5.els (fun i hi => by
    have : i = 0 := by simpa using hi
    subst this
    refine ⟨by show (-9223372036854775808 : Int) ≤ 1; decide, by show (1 : Int) ≤ 9223372036854775807; decide, by show (1 : Nat) ≤ 100000; decide, fun j hj => ?_⟩
    have hj1 : j < 1 := hj
    have : j = 0 := by omega
    subst this
    show 0 ≤ zal (1 + 0) ∧ zal (1 + 0) ≤ 255
    decide)
  have hel2 : Els W5.heap.size W5 (some ⟨w4.heap.size + 1, 0, none⟩) 1 1 (fun _ => ⟨1, some ⟨w4.heap.size, 0, none⟩, 1, 1, fun _ => 255⟩) := ⟨Nat.le_refl _, by omega, fun i hi => ⟨by show (-9223372036854775808 : Int) ≤ 1; decide, by show (1 : Int) ≤ 9223372036854775807; decide, Nat.le_refl _, by show (1 : Nat) ≤ 9223372036854775807; decide, fun j hj => by show (0 : Int) ≤ 255 ∧ (255 : Int) ≤ 255; decide, w4.heap.size, 0, fun _ => ⟨rfl, lt_of_block k5⟩, fun j hj => by
    have hj1 : j < 1 := hj
    have : j = 0 := by omega
    subst this
    exact cell_blk k5⟩, w4.heap.size + 1, 0, fun _ => ⟨rfl, lt_of_block k6⟩, fun i hi => by
    have : i = 0 := by omega
    subst this
    exact ⟨cell_blk k6, cell_blk k6⟩⟩
  have B5 : Hid (Below w.heap.size w W5) := Lib.hid ((B2.out.trans (B4.out.mono B2.out.size)).trans (b5.mono (by have := B2.out.size; have := B4.out.size; omega)))
  refine (rsame32_true W5.heap.size va _ 1 vc 1 _ _ W5 hels hel2 (Nat.le_refl _) (by omega) (fun i hi => by
    have : i = 0 := by omega
    subst this
    exact ⟨rfl, rfl, fun j hj => by
      have : j = 0 := by
        have : j < 1 := hj
        omega
      subst this
      rfl⟩)).mono ?_
  rintro e w6 ⟨rfl, b6⟩
  have B6 := Lib.hid (B5.out.trans (b6.mono B5.out.size))
  clear hr hl hz hr5 hels hel2 k5 k6 b5 b6 hW5 HL
  go_wp2_with fail
  go_ret
  exact ⟨rfl, B6.out⟩
end Go.Proofs.Ytihbceippcgfgaa
