/-
  The reference of chapter 23, and the walks of LayersPlays and LayersTurns.
-/
import Derived.Test.YtkdjkaimcciemaaLay
import Derived.Test.YtkdjkaimcciemaaReads
import Derived.Deep.RegionHeld3
namespace Go.Proofs.Ytkdjkaimcciemaa
open Go.RowKit
set_option linter.unusedVariables false
set_option linter.unusedSimpArgs false

/-- block g is the reference's chooser -/
def rchsr (w : World) (g : Nat) (m d s : Int) : Prop := w.heap[g]? = some (.cells #[.int .i64 m, .int .i64 d, .int .i64 s] 101 (0, 0))
theorem rchsr.c0 {w : World} {g : Nat} {m d s : Int} (h : rchsr w g m d s) : w.cell? ⟨g, 0, none⟩ = some (.int .i64 m) := cell_blk h
theorem rchsr.c1 {w : World} {g : Nat} {m d s : Int} (h : rchsr w g m d s) : w.cell? ⟨g, 1, none⟩ = some (.int .i64 d) := cell_blk h
theorem rchsr.c2 {w : World} {g : Nat} {m d s : Int} (h : rchsr w g m d s) : w.cell? ⟨g, 2, none⟩ = some (.int .i64 s) := cell_blk h
theorem rchsr.fr {w : World} {g : Nat} {m d s : Int} (h : rchsr w g m d s) (i : Nat) : w.frozen? ⟨g, i, none⟩ = false := free_blk h
theorem rchsr.drew {w : World} {g : Nat} {m d s : Int} (h : rchsr w g m d s) : rchsr w.drew g m d s := h
theorem chsr.drew' {w : World} {g : Nat} {m d s : Int} (h : chsr w g m d s) : chsr w.drew g m d s := h
theorem rchsr.lt {w : World} {g : Nat} {m d s : Int} (h : rchsr w g m d s) : g < w.heap.size := lt_of_block h

theorem rlnew_any (m : Int) (w : World) :
    Calls Try.prog 51 #[.int .i64 m] w fun e w' => e = .returned (.pointer (some ⟨w.heap.size, 0, none⟩)) ∧ rchsr w' w.heap.size m (-1) (-1) ∧ Below w.heap.size w w' := by
  go_enter Try.func51, Try.ntmps51
  go_wp2
  go_ret
  exact ⟨rfl, by (unfold rchsr; rw [heap_alloc, if_pos rfl]), by (repeat (first | exact Below.refl _ _ | refine Below.alloc ?_ (by first | (simp; done) | (simp; omega) | (simp [size_drewN]; done) | (simp [size_drewN]; omega)) _ | refine Below.drew ?_ | refine below_drewN0 ?_ _ | refine Below.setCell ?_ (by first | (simp; done) | (simp; omega) | (simp [size_drewN]; done) | (simp [size_drewN]; omega)) _))⟩
theorem rwant_any (g : Nat) (m d s x : Int) (w : World) (hg : rchsr w g m d s) (hm : 1 ≤ m) :
    Calls Try.prog 53 #[.pointer (some ⟨g, 0, none⟩), .int .i64 x] w fun e w' => e = .returned (.int .i64 (bif wantOk m x then 0 else 9)) ∧
      rchsr w' g m (bif wantOk m x then x else d) (bif x == -1 then -1 else s) ∧ Keeps g w w' := by
  have h0 := hg.c0
  have f1 := hg.fr 1
  have h1 := hg.c1
  have f2 := hg.fr 2
  have h2 := hg.c2
  by_cases c0 : x = -1
  · subst c0
    have e1 : wantOk m (-1) = true := by simp [wantOk]
    have HE := Lib.hid e1
    clear e1
    go_enter Try.func53, Try.ntmps53
    go_wp2
    go_returns
    refine ⟨ret_int (by rw [HE.out]; rfl), ?_, by (repeat (first | exact Keeps.refl _ _ | exact hkk | refine Keeps.alloc ?_ _ | refine Keeps.drew ?_ | refine Keeps.drewN ?_ _ | refine Keeps.setCell ?_ (by first | (left; rfl) | (right; first | (simp; done) | (simp; omega) | (simp [size_drewN]; done) | (simp [size_drewN]; omega))) _))⟩
    rw [HE.out]
    unfold rchsr at hg ⊢
    simp [heap_set, hg, putIn]
  · have hx : (x == -1) = false := by simpa using c0
    by_cases c1 : 0 ≤ x
    · by_cases c2 : x < m
      · have e1 : wantOk m x = true := by simp [wantOk, isL, c1, c2]
        have HE := Lib.hid e1
        clear e1
        go_enter Try.func53, Try.ntmps53
        go_wp2
        go_returns
        refine ⟨ret_int (by rw [HE.out]; rfl), ?_, by (repeat (first | exact Keeps.refl _ _ | exact hkk | refine Keeps.alloc ?_ _ | refine Keeps.drew ?_ | refine Keeps.drewN ?_ _ | refine Keeps.setCell ?_ (by first | (left; rfl) | (right; first | (simp; done) | (simp; omega) | (simp [size_drewN]; done) | (simp [size_drewN]; omega))) _))⟩
        rw [HE.out, hx]
        unfold rchsr at hg ⊢
        simp [heap_set, hg, putIn]
      · have e1 : wantOk m x = false := by simp [wantOk, isL, c0, c1]; omega
        have HE := Lib.hid e1
        clear e1
        go_enter Try.func53, Try.ntmps53
        go_wp2
        go_returns
        refine ⟨ret_int (by rw [HE.out]; rfl), ?_, by (repeat (first | exact Keeps.refl _ _ | exact hkk | refine Keeps.alloc ?_ _ | refine Keeps.drew ?_ | refine Keeps.drewN ?_ _ | refine Keeps.setCell ?_ (by first | (left; rfl) | (right; first | (simp; done) | (simp; omega) | (simp [size_drewN]; done) | (simp [size_drewN]; omega))) _))⟩
        rw [HE.out]
        exact hg
    · have e1 : wantOk m x = false := by simp [wantOk, isL, c0]; omega
      have HE := Lib.hid e1
      clear e1
      go_enter Try.func53, Try.ntmps53
      go_wp2
      go_returns
      refine ⟨ret_int (by rw [HE.out]; rfl), ?_, by (repeat (first | exact Keeps.refl _ _ | exact hkk | refine Keeps.alloc ?_ _ | refine Keeps.drew ?_ | refine Keeps.drewN ?_ _ | refine Keeps.setCell ?_ (by first | (left; rfl) | (right; first | (simp; done) | (simp; omega) | (simp [size_drewN]; done) | (simp [size_drewN]; omega))) _))⟩
      rw [HE.out]
      exact hg

theorem rtake_any (g : Nat) (m d s x : Int) (k : Bool) (w : World) (hg : rchsr w g m d s) :
    Calls Try.prog 52 #[.pointer (some ⟨g, 0, none⟩), .int .i64 x, .bool k] w fun e w' => e = .returned (.tuple #[.bool (takeOk m d s x k), .bool (takeTurn m d s x k)]) ∧
      rchsr w' g m d (bif takeTurn m d s x k then x else s) ∧ Keeps g w w' := by
  have h0 := hg.c0
  have f1 := hg.fr 1
  have h1 := hg.c1
  have f2 := hg.fr 2
  have h2 := hg.c2
  by_cases c1 : 0 ≤ x
  · by_cases c2 : x < m
    · by_cases c3 : x = s
      · subst c3
        have e1 : takeOk m d x x k = true ∧ takeTurn m d x x k = false := by simp [takeOk, takeTurn, isL, c1, c2]
        have HE := Lib.hid e1
        clear e1
        have hxx : (x == x) = true := by simp
        go_enter Try.func52, Try.ntmps52
        go_wp2
        go_returns
        rw [HE.out.1, HE.out.2]
        exact ⟨rfl, hg, by (repeat (first | exact Keeps.refl _ _ | exact hkk | refine Keeps.alloc ?_ _ | refine Keeps.drew ?_ | refine Keeps.drewN ?_ _ | refine Keeps.setCell ?_ (by first | (left; rfl) | (right; first | (simp; done) | (simp; omega) | (simp [size_drewN]; done) | (simp [size_drewN]; omega))) _))⟩
      · have h3 : (s == x) = false := by simp; omega
        by_cases c4 : x = d
        · subst c4
          have hxx : (x == x) = true := by simp
          cases k
          · have e1 : takeOk m x s x false = false ∧ takeTurn m x s x false = false := by simp [takeOk, takeTurn, c3]
            have HE := Lib.hid e1
            clear e1
            go_enter Try.func52, Try.ntmps52
            go_wp2
            go_returns
            rw [HE.out.1, HE.out.2]
            exact ⟨rfl, hg, by (repeat (first | exact Keeps.refl _ _ | exact hkk | refine Keeps.alloc ?_ _ | refine Keeps.drew ?_ | refine Keeps.drewN ?_ _ | refine Keeps.setCell ?_ (by first | (left; rfl) | (right; first | (simp; done) | (simp; omega) | (simp [size_drewN]; done) | (simp [size_drewN]; omega))) _))⟩
          · have e1 : takeOk m x s x true = true ∧ takeTurn m x s x true = true := by simp [takeOk, takeTurn, isL, c1, c2, c3]
            have HE := Lib.hid e1
            clear e1
            go_enter Try.func52, Try.ntmps52
            go_wp2
            go_returns
            rw [HE.out.1, HE.out.2]
            unfold rchsr at hg ⊢
            exact ⟨rfl, by simp [heap_set, hg, putIn], by (repeat (first | exact Keeps.refl _ _ | exact hkk | refine Keeps.alloc ?_ _ | refine Keeps.drew ?_ | refine Keeps.drewN ?_ _ | refine Keeps.setCell ?_ (by first | (left; rfl) | (right; first | (simp; done) | (simp; omega) | (simp [size_drewN]; done) | (simp [size_drewN]; omega))) _))⟩
        · have h4 : (d == x) = false := by simp; omega
          have e1 : takeOk m d s x k = false ∧ takeTurn m d s x k = false := by simp [takeOk, takeTurn, c3, c4]
          have HE := Lib.hid e1
          clear e1
          cases k
          all_goals
            go_enter Try.func52, Try.ntmps52
            go_wp2
            go_returns
            rw [HE.out.1, HE.out.2]
            exact ⟨rfl, hg, by (repeat (first | exact Keeps.refl _ _ | exact hkk | refine Keeps.alloc ?_ _ | refine Keeps.drew ?_ | refine Keeps.drewN ?_ _ | refine Keeps.setCell ?_ (by first | (left; rfl) | (right; first | (simp; done) | (simp; omega) | (simp [size_drewN]; done) | (simp [size_drewN]; omega))) _))⟩
    · have e1 : takeOk m d s x k = false ∧ takeTurn m d s x k = false := by simp [takeOk, takeTurn, isL]; omega
      have HE := Lib.hid e1
      clear e1
      go_enter Try.func52, Try.ntmps52
      go_wp2
      go_returns
      rw [HE.out.1, HE.out.2]
      exact ⟨rfl, hg, by (repeat (first | exact Keeps.refl _ _ | exact hkk | refine Keeps.alloc ?_ _ | refine Keeps.drew ?_ | refine Keeps.drewN ?_ _ | refine Keeps.setCell ?_ (by first | (left; rfl) | (right; first | (simp; done) | (simp; omega) | (simp [size_drewN]; done) | (simp [size_drewN]; omega))) _))⟩
  · have e1 : takeOk m d s x k = false ∧ takeTurn m d s x k = false := by simp [takeOk, takeTurn, isL]; omega
    have HE := Lib.hid e1
    clear e1
    go_enter Try.func52, Try.ntmps52
    go_wp2
    go_returns
    rw [HE.out.1, HE.out.2]
    exact ⟨rfl, hg, by (repeat (first | exact Keeps.refl _ _ | exact hkk | refine Keeps.alloc ?_ _ | refine Keeps.drew ?_ | refine Keeps.drewN ?_ _ | refine Keeps.setCell ?_ (by first | (left; rfl) | (right; first | (simp; done) | (simp; omega) | (simp [size_drewN]; done) | (simp [size_drewN]; omega))) _))⟩

theorem bdrew {B : Nat} {u w : World} (h : Below B u w) : Below B u w.drew := ⟨h.os, h.tape, h.output, h.size, h.block⟩

theorem ops_of {w : World} {v : Value} (h : Reads Try.prog w 6 88 v) : ∃ a len cap b off, ∃ (T : Nat → Bool) (L : Nat → Int) (K : Nat → Bool), v = .slice a len cap ∧ (0 < cap → a = some ⟨b, off, none⟩ ∧ b < w.heap.size) ∧ len ≤ cap ∧ cap ≤ 9223372036854775807 ∧
    (∀ i, i < cap → w.cell? ⟨b, off + i * 3, none⟩ = some (.bool (T i)) ∧ w.cell? ⟨b, off + i * 3 + 1, none⟩ = some (.int .i64 (L i)) ∧ w.cell? ⟨b, off + i * 3 + 2, none⟩ = some (.bool (K i))) ∧ ∀ i, i < cap → -9223372036854775808 ≤ L i ∧ L i ≤ 9223372036854775807 := by
  obtain ⟨a, len, cap, b, off, V, rfl, row⟩ := reads_slice Try.underlying88 (ts := [4, 3, 4]) (by kernel_rfl) (by kernel_rfl) (by decide) h
  obtain ⟨T, hT⟩ := Deep.choose_lt (n := cap) (p := fun i (x : Bool) => V i 0 = .bool x) (fun i hi => reads_bool Try.underlying4 (row.read i hi 0 _ rfl))
  obtain ⟨L, hL⟩ := Deep.choose_lt (n := cap) (p := fun i (x : Int) => V i 1 = .int .i64 x ∧ (Lit.int .i64 x).wf = true) (fun i hi => reads_int Try.underlying3 (row.read i hi 1 _ rfl))
  obtain ⟨K, hK⟩ := Deep.choose_lt (n := cap) (p := fun i (x : Bool) => V i 2 = .bool x) (fun i hi => reads_bool Try.underlying4 (row.read i hi 2 _ rfl))
  have hm := row.max
  unfold maxLen at hm
  refine ⟨a, len, cap, b, off, T, L, K, rfl, row.addr, row.le, by omega, fun i hi => ⟨?_, ?_, ?_⟩, fun i hi => bounds_i64 (hL i hi).2⟩
  · have := row.cell i hi 0 (by decide); simpa [hT i hi] using this
  · have := row.cell i hi 1 (by decide); simpa [(hL i hi).1, Nat.add_assoc] using this
  · have := row.cell i hi 2 (by decide); simpa [hK i hi, Nat.add_assoc] using this

set_option maxHeartbeats 4000000 in
set_option maxRecDepth 100000 in
theorem LayersPlays.walk (m : Int) (v : Value) (w : World) (w0 : (Lit.int .i64 m).wf = true) (r : Reads Try.prog w 6 88 v) :
    Calls Try.prog 13 #[.int .i64 m, v] w fun e w' => e = .returned (.bool true) ∧ Below w.heap.size w w' := by
  obtain ⟨a, len, cap, b, off, T, L, K, rfl, ha, hl, hm, hc, hL⟩ := ops_of r
  clear r w0
  by_cases c1 : m < 1
  · go_enter Try.func13, Try.ntmps13
    go_wp2_with (first | (go_at_call 45; refine (alive23_any _).mono ?_; rintro e w1 ⟨rfl, hb1⟩) | (go_at_call 46; refine (lnew_no _ _ (.inl c1)).mono ?_; rintro e w2 ⟨rfl, rfl⟩))
    go_ret
    exact ⟨rfl, hb1⟩
  by_cases c2 : 4 < m
  · go_enter Try.func13, Try.ntmps13
    go_wp2_with (first | (go_at_call 45; refine (alive23_any _).mono ?_; rintro e w1 ⟨rfl, hb1⟩) | (go_at_call 46; refine (lnew_no _ _ (.inr c2)).mono ?_; rintro e w2 ⟨rfl, rfl⟩))
    go_ret
    exact ⟨rfl, hb1⟩
  have HA := Lib.hid ha
  have HC := Lib.hid hc
  have HL := Lib.hid hL
  clear ha hc hL
  go_enter Try.func13, Try.ntmps13
  go_wp2_with (first | (go_at_call 45; refine (alive23_any _).mono ?_; rintro e w0 ⟨rfl, hb0⟩) | (go_at_call 46; refine (lnew_any _ _ (by omega) (by omega)).mono ?_; rintro e w1 ⟨rfl, hg0, hb1⟩) | (go_at_call 51; refine (rlnew_any _ _).mono ?_; rintro e w2 ⟨rfl, hr0, hb2⟩))
  have hs0 := hb0.size
  have hs1 := hb1.size
  have hlg := hg0.lt
  have hlr := hr0.lt
  have hg2 : chsr w2 w0.heap.size m (-1) (-1) := Below.blk hb2 hg0 hlg
  have hB2 : Below w.heap.size w w2 := (hb0.trans (hb1.mono hs0)).trans (hb2.mono (by omega))
  obtain ⟨g, hg⟩ : ∃ g, g = w0.heap.size := ⟨_, rfl⟩
  obtain ⟨r, hr⟩ : ∃ r, r = w1.heap.size := ⟨_, rfl⟩
  rw [← hg] at hg2
  rw [← hr] at hr0
  rw [← hg, ← hr]
  have q1 : w.heap.size ≤ g := by omega
  have q2 : g < r := by omega
  clear hg0 hb0 hb1 hb2 hs0 hs1 hlg hlr hg hr
  go_loopw [7] (fun si wr => ∃ (k : Nat) (d s : Int), k ≤ len ∧ si = .int .i64 k ∧ chsr wr g m d s ∧ rchsr wr r m d s ∧ Below w.heap.size w wr) (fun si _ => len - (intOf si).toNat)
  case atStart => exact ⟨0, _, _, by omega, rfl, hg2, hr0, hB2⟩
  case round =>
    obtain ⟨k, d, s, hk, rfl, hgt, hrg, hbel⟩ := hrel
    by_cases hlt : k < len ∧ k < 100
    · obtain ⟨hlt1, hlt2⟩ := hlt
      obtain ⟨rfl, hbs⟩ := HA.out (by omega)
      obtain ⟨hc0, hc1, hc2⟩ := HC.out k (by omega)
      have k0 := Below.cell' hbel hbs hc0
      have k1 := Below.cell' hbel hbs hc1
      have k2 := Below.cell' hbel hbs hc2
      clear hc0 hc1 hc2
      have hLk := HL.out k (by omega)
      obtain ⟨x, hx⟩ : ∃ x, L k = x := ⟨_, rfl⟩
      obtain ⟨y, hy⟩ : ∃ y, K k = y := ⟨_, rfl⟩
      rw [hx] at k1 hLk
      rw [hy] at k2
      clear hx hy
      have hsz := hbel.size
      cases hT : T k
      · rw [hT] at k0
        go_wp2_with fail
        go_region_held3 (fun W => W.cell? ⟨b, off + k * 3 + 1, none⟩ = some (.int .i64 x)) (first | go_keep | exact hw2 | exact hw1)
          (first | (go_at_call 48; refine (want_any g m d s x _ (chsr.drew' hgt)).mono ?_; rintro e w3 ⟨rfl, g3, k3⟩; have hw1 := k3.cell (w := wr.drew) k1 (by omega); have r3 := k3.blk (w := wr.drew) (rchsr.drew hrg) (by omega)) | (go_at_call 53; refine (rwant_any r m d s x _ r3 (by omega)).mono ?_; rintro e w4 ⟨rfl, r4, k4⟩; have hw2 := k4.cell hw1 (by omega)))
        have c4 : chsr w4 g m (bif wantOk m x then x else d) (bif x == -1 then -1 else s) := k4.blk g3 (by omega)
        have b4 : Below w.heap.size w w4 := Below.keeps (Below.keeps (bdrew hbel) hsz q1 k3) (by have := k3.size; simp at this; omega) (by omega) k4
        obtain ⟨D, hD⟩ : ∃ D, (bif wantOk m x then x else d) = D := ⟨_, rfl⟩
        obtain ⟨E, hE⟩ : ∃ E, (bif x == -1 then -1 else s) = E := ⟨_, rfl⟩
        rw [hD, hE] at c4 r4
        clear hD hE g3 k3 k4 hrg hgt hbel k0 k1 k2
        have d1 := r4.c1
        have d2 := r4.c2
        go_wp2_with fail
        go_quiet ((first | (go_at_call 47; exact qsame (goes_any g m D E _ c4)) | (go_at_call 49; exact qsame (wanted_any g m D E _ c4)) | (go_at_call 54; exact qsame (needs_any g m D E _ c4))))
        go_wp2_with fail
        go_roundw
        case rel => exact ⟨k + 1, D, E, by omega, by go_num, c4, r4, below_drewN0 b4 _⟩
        case measure => simp [intOf] <;> omega
      · rw [hT] at k0
        go_wp2_with fail
        go_region_held3 (fun W => W.cell? ⟨b, off + k * 3 + 1, none⟩ = some (.int .i64 x) ∧ W.cell? ⟨b, off + k * 3 + 2, none⟩ = some (.bool y)) (first | go_keep | exact ⟨hw1, hw2⟩)
          (first | (go_at_call 50; refine (take_any g m d s x y _ (chsr.drew' hgt)).mono ?_; rintro e w3 ⟨rfl, g3, k3⟩; have hw1 := k3.cell (w := wr.drew) k1 (by omega); have hw2 := k3.cell (w := wr.drew) k2 (by omega)))
        have r3 := k3.blk (w := wr.drew) (rchsr.drew hrg) (by omega)
        have b3 : Below w.heap.size w w3 := Below.keeps (bdrew hbel) hsz q1 k3
        go_wp2_with fail
        go_region_held3 (fun W => W.cell? ⟨b, off + k * 3 + 1, none⟩ = some (.int .i64 x) ∧ W.cell? ⟨b, off + k * 3 + 2, none⟩ = some (.bool y)) (first | go_keep | exact ⟨hw3, hw4⟩)
          (first | (go_at_call 52; refine (rtake_any r m d s x y _ (rchsr.drew r3)).mono ?_; rintro e w4 ⟨rfl, r4, k4⟩; have hw3 := k4.cell (w := w3.drew) hw1 (by omega); have hw4 := k4.cell (w := w3.drew) hw2 (by omega)))
        have c4 : chsr w4 g m d (bif takeTurn m d s x y then x else s) := k4.blk (w := w3.drew) (chsr.drew' g3) (by omega)
        have b4 : Below w.heap.size w w4 := Below.keeps (bdrew b3) (by have := k3.size; simp at this; show _ ≤ w3.heap.size; omega) (by omega) k4
        obtain ⟨E, hE⟩ : ∃ E, (bif takeTurn m d s x y then x else s) = E := ⟨_, rfl⟩
        rw [hE] at c4 r4
        clear hE g3 k3 k4 hrg hgt hbel k0 k1 k2
        have d1 := r4.c1
        have d2 := r4.c2
        go_wp2_with fail
        go_quiet ((first | (go_at_call 47; exact qsame (goes_any g m d E _ c4)) | (go_at_call 49; exact qsame (wanted_any g m d E _ c4)) | (go_at_call 54; exact qsame (needs_any g m d E _ c4))))
        go_wp2_with fail
        go_roundw
        case rel => exact ⟨k + 1, d, E, by omega, by go_num, c4, r4, below_drewN0 b4 _⟩
        case measure => simp [intOf] <;> omega
    · go_wp2_with fail
      all_goals
        go_ret
        exact ⟨rfl, hbel⟩
end Go.Proofs.Ytkdjkaimcciemaa
