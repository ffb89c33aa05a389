/-
  Read and Write of chapter 33, and the walk of LevelsBytes.
-/
import Derived.Test.YtkemkplmhjmahaaLevLaws
import Derived.StillTailTactics
namespace Go.Proofs.Ytkemkplmhjmahaa
open Go.RowKit
set_option linter.unusedVariables false
set_option linter.unusedSimpArgs false

theorem cell_alloc33 {w : World} {b i : Nat} {v : Value} (h : w.cell? ⟨b, i, none⟩ = some v) (x : Obj) : (w.alloc x).cell? ⟨b, i, none⟩ = some v := by
  rw [World.cell?_of_block (w := w) (Below.heap_alloc _ _ _ (World.block_lt_of_cell? _ _ h))]; exact h
theorem bits_level : ∀ b ∈ List.range 256, (bits .and .u8 ((b : Nat) : Int) 128 != 0) = decide ((127 : Int) < b) ∧ bits .andNot .u8 ((b : Nat) : Int) 128 = (b : Int) % 128 := by decide +kernel
theorem bits_voice : ∀ b ∈ List.range 128, bits .or .u8 ((b : Nat) : Int) 128 = (b : Int) + 128 := by decide +kernel

theorem lread_no (a : Option Addr) (len cap : Nat) (w : World) (hm : len ≤ 9223372036854775807) (h : len ≠ 1) :
    Calls Try.prog 40 #[.slice a len cap] w fun e w' => e = .returned (.tuple #[level false 0, .int .i64 1]) ∧ Below w.heap.size w w' := by
  have e1 : ((len : Int) != 1) = true := by simp; omega
  unfold level
  go_enter Try.func40, Try.ntmps40
  go_wp2_with fail
  go_returns
  exact ⟨rfl, by (repeat (first | exact Below.refl _ _ | refine Below.alloc ?_ (by first | (simp; done) | (simp; omega) | (simp [size_drewN]; done) | (simp [size_drewN]; omega)) _ | refine Below.drew ?_ | refine below_drewN0 ?_ _ | refine Below.setCell ?_ (by first | (simp; done) | (simp; omega) | (simp [size_drewN]; done) | (simp [size_drewN]; omega)) _))⟩
set_option maxHeartbeats 1000000 in
theorem lread_any (b off cap : Nat) (x : Int) (w : World) (hb : b < w.heap.size) (hc : w.cell? ⟨b, off, none⟩ = some (.int .u8 x)) (hx : 0 ≤ x ∧ x ≤ 255) :
    Calls Try.prog 40 #[.slice (some ⟨b, off, none⟩) 1 cap] w fun e w' => e = .returned (.tuple #[level (decide (127 < x)) (x % 128), .int .i64 0]) ∧ Below w.heap.size w w' := by
  obtain ⟨n, rfl⟩ := Int.eq_ofNat_of_zero_le hx.1
  obtain ⟨h1, h2⟩ := bits_level n (List.mem_range.2 (by omega))
  have hn : w.heap.size ≠ b := by omega
  have r1 : (0 : Int) ≤ (n : Int) % 128 := by omega
  have r2 : (n : Int) % 128 ≤ 127 := by omega
  generalize hW : w.alloc (.cells #[.bool false, .int .i64 0] 61) = W
  have pW : W.heap[w.heap.size]? = some (.cells #[.bool false, .int .i64 0] 61 (0, 0)) := by rw [← hW]; exact alloc_blk_new
  have bW : Below w.heap.size w W := by rw [← hW]; exact (Below.refl _ _).alloc (Nat.le_refl _) _
  have cW := Below.cell' bW hb hc
  have p0 : W.cell? ⟨w.heap.size, 0, none⟩ = some (.bool false) := cell_blk pW
  have p1 : W.cell? ⟨w.heap.size, 1, none⟩ = some (.int .i64 0) := cell_blk pW
  have s0 : W.frozen? ⟨w.heap.size, 0, none⟩ = false := free_blk pW
  have s1 : W.frozen? ⟨w.heap.size, 1, none⟩ = false := free_blk pW
  have HW := Lib.hid hW
  clear hW hc
  generalize hr : (n : Int) % 128 = r at *
  have r3 : IntKind.i64.wrap r = r := IntWalk.i64_in _ (by omega)
  unfold level
  go_enter Try.func40, Try.ntmps40
  go_wp2_with fail
  rw [HW.out]
  go_region_held3 (fun V => V.cell? ⟨b, off, none⟩ = some (.int .u8 (n : Int))) (go_keep) (fail)
  go_wp2_with fail
  refine bodyPost_ret (by simp [results, Try.results40, go_sem, p0, p1]; try rfl) rfl ?_
  refine ⟨rfl, ?_⟩
  refine Below.drew ?_
  (iterate 2 (refine Below.setCell ?_ (by exact Nat.le_refl _) _))
  exact bW
theorem lwrite_no (v : Bool) (d : Int) (w : World) (hd : ¬ (0 ≤ d ∧ d ≤ 127)) :
    Calls Try.prog 41 #[level v d] w fun e w' => e = .returned (.tuple #[.slice none 0 0, .int .i64 1]) ∧ Below w.heap.size w w' := by
  have M := Lib.hid (lmay_any v d (w.alloc (.cells #[.bool v, .int .i64 d] 61)))
  rw [show (decide (0 ≤ d) && decide (d ≤ 127)) = false by simp; omega] at M
  clear hd
  unfold level at *
  go_enter Try.func41, Try.ntmps41
  go_wp2_with (first | (go_at_call 52; refine (M.out).mono ?_; rintro e w' ⟨rfl, hb⟩))
  go_returns
  exact ⟨rfl, ((Below.refl _ _).alloc (Nat.le_refl _) _).trans (hb.mono (by simp))⟩
theorem lwrite_any (v : Bool) (d : Int) (w : World) (hd : 0 ≤ d ∧ d ≤ 127) :
    Calls Try.prog 41 #[level v d] w fun e w' => ∃ b cap, e = .returned (.tuple #[.slice (some ⟨b, 0, none⟩) 1 cap, .int .i64 0]) ∧ w.heap.size ≤ b ∧ b < w'.heap.size ∧ w'.cell? ⟨b, 0, none⟩ = some (.int .u8 (bif v then d + 128 else d)) ∧ Below w.heap.size w w' := by
  have M := Lib.hid (lmay_any v d (w.alloc (.cells #[.bool v, .int .i64 d] 61)))
  rw [show (decide (0 ≤ d) && decide (d ≤ 127)) = true by simp; omega] at M
  obtain ⟨n, rfl⟩ := Int.eq_ofNat_of_zero_le hd.1
  have hv := bits_voice n (List.mem_range.2 (by omega))
  unfold level at *
  cases v
  all_goals
    go_enter Try.func41, Try.ntmps41
    go_wp2_with fail
    refine M.out.mono ?_
    rintro e W ⟨rfl, hb⟩
    have pW := Below.blk hb alloc_blk_new (by simp)
    have bW : Below w.heap.size w W := ((Below.refl _ _).alloc (Nat.le_refl _) _).trans (hb.mono (by simp))
    have p0 : W.cell? ⟨w.heap.size, 0, none⟩ = some (.bool _) := cell_blk pW
    have p1 : W.cell? ⟨w.heap.size, 1, none⟩ = some (.int .i64 (n : Int)) := cell_blk pW
    have sz := lt_of_block pW
    clear hb pW M
    go_wp2_with fail
    go_returns
    exact ⟨_, _, rfl, by omega, by simp, by simp, bW.alloc bW.size _⟩

theorem level_of {w : World} {v : Value} (h : ArgS Try.prog w 61 v) : ∃ x d, v = level x d ∧ (-9223372036854775808 ≤ d ∧ d ≤ 9223372036854775807) := by
  obtain ⟨cs, rfl, h⟩ := h
  obtain ⟨hs, hc⟩ := h 6 [4, 3] (by kernel_rfl)
  obtain ⟨x0, h0, r0⟩ := hc 0 4 rfl
  obtain ⟨x1, h1, r1⟩ := hc 1 3 rfl
  obtain ⟨m0, rfl⟩ := reads_bool Try.underlying4 r0
  obtain ⟨m1, rfl, k1⟩ := reads_int Try.underlying3 r1
  obtain rfl := arr2 hs h0 h1
  exact ⟨m0, m1, rfl, bounds_i64 k1⟩

set_option maxHeartbeats 4000000 in
set_option maxRecDepth 100000 in
theorem LevelsBytes.walk (a : Option Addr) (len cap : Nat) (zs : List Int) (v : Value) (w : World) (r : IsRow .u8 w a len cap zs) (s : ArgS Try.prog w 61 v) :
    Calls Try.prog 11 #[.slice a len cap, v] w fun e w' => e = .returned (.bool true) ∧ Below w.heap.size w w' := by
  obtain ⟨b, off, Z, ha, hl, hm, hc, hz⟩ := row_open r
  obtain ⟨x, d, rfl, hd⟩ := level_of s
  -- what stands behind the first half
  have half : ∀ (W : World) (K : Unit), Below w.heap.size w W → W.heap[w.heap.size]? = some (.cells #[.bool x, .int .i64 d] 61 (0, 0)) → True := fun _ _ _ _ => trivial
  clear half
  have HZ : Hid (∀ i, i < cap → 0 ≤ Z i ∧ Z i ≤ 255) := Lib.hid (fun i hi => bounds_u8 (hz i hi))
  have HA := Lib.hid ha
  have HC := Lib.hid hc
  clear ha hc hz r s
  unfold level
  go_enter Try.func11, Try.ntmps11
  go_wp2_with fail
  refine (alive33_any _).mono ?_
  rintro e w1 ⟨rfl, hb1⟩
  have p1 : w1.heap[w.heap.size]? = some (.cells #[.bool x, .int .i64 d] 61 (0, 0)) := Below.blk hb1 alloc_blk_new (by simp)
  have B1 : Below w.heap.size w w1 := ((Below.refl _ _).alloc (Nat.le_refl _) _).trans (hb1.mono (by simp))
  clear hb1
  by_cases h1 : len = 1
  · subst h1
    obtain ⟨rfl, hbs⟩ := HA.out (by omega)
    have hz0 := HZ.out 0 (by omega)
    have hcell := Below.cell' B1 hbs (HC.out 0 (by omega))
    rw [Nat.add_zero] at hcell
    generalize Z 0 = z at *
    go_wp2_with fail
    refine (lread_any b off cap z _ (by have := B1.size; omega) hcell hz0).mono ?_
    rintro e w2 ⟨rfl, hb2⟩
    have p2 := Below.blk hb2 p1 (lt_of_block p1)
    have B2 := B1.trans (hb2.mono B1.size)
    have c2 := Below.cell' hb2 (by have := B1.size; omega) hcell
    have sz2 := lt_of_block p2
    have bsz : b < w2.heap.size := World.block_lt_of_cell? _ _ c2
    obtain ⟨V, HV⟩ : ∃ V : Bool, Hid (decide (127 < z) = V) := ⟨_, rfl⟩
    have hV : decide (127 < z) = V := HV.out
    obtain ⟨r, hr, hr0⟩ : ∃ r : Int, z % 128 = r ∧ (0 ≤ r ∧ r ≤ 127) := ⟨_, rfl, by omega⟩
    rw [hV, hr]
    unfold level
    have n1 : (V != V) = false := by simp
    have n2 : (r != r) = false := by simp
    have zt : z.tmod 128 = r := by rw [Int.tmod_eq_emod_of_nonneg hz0.1, hr]
    have r3 : IntKind.i64.wrap r = r := IntWalk.i64_in _ (by omega)
    clear hb2 p1 B1 hcell
    have pa := (alloc_blk_old (o := .cells #[.bool V, .int .i64 r] 61) sz2).trans p2
    have Ba := B2.alloc B2.size (.cells #[.bool V, .int .i64 r] 61)
    have ca := cell_alloc33 c2 (.cells #[.bool V, .int .i64 r] 61)
    have la0 : (w2.alloc (.cells #[.bool V, .int .i64 r] 61)).cell? ⟨w2.heap.size, 0, none⟩ = some (.bool V) := by simp
    have la1 : (w2.alloc (.cells #[.bool V, .int .i64 r] 61)).cell? ⟨w2.heap.size, 1, none⟩ = some (.int .i64 r) := by simp
    have HXE := Lib.hid (show ∃ W, W = w2.alloc (.cells #[.bool V, .int .i64 r] 61) from ⟨_, rfl⟩)
    obtain ⟨W, hW⟩ := HXE.out
    rw [← hW] at pa Ba ca la0 la1
    have HW := Lib.hid hW.symm
    clear hW HXE p2 B2 c2
    go_wp2_with fail
    rw [HW.out]
    go_quiet (fail)
    generalize hX : (World.drewN _ _) = X
    have pX : X.heap[w.heap.size]? = some (.cells #[.bool x, .int .i64 d] 61 (0, 0)) := by rw [← hX]; exact pa
    have BX : Below w.heap.size w X := by rw [← hX]; exact below_drewN0 Ba _
    clear hX pa Ba ca la0 la1 HW
    have c0 : X.cell? ⟨w.heap.size, 0, none⟩ = some (.bool x) := cell_blk pX
    have c1 : X.cell? ⟨w.heap.size, 1, none⟩ = some (.int .i64 d) := cell_blk pX
    have szX := lt_of_block pX
    go_wp2_with fail
    by_cases hd2 : 0 ≤ d ∧ d ≤ 127
    · refine (lwrite_any x d X hd2).mono ?_
      rintro e X2 ⟨b2, cap2, rfl, hb2, hb2', hc2, hbX⟩
      have pX2 := Below.blk hbX pX szX
      have BX2 := BX.trans (hbX.mono BX.size)
      have sz2 := lt_of_block pX2
      have d0 : X2.cell? ⟨w.heap.size, 0, none⟩ = some (.bool x) := cell_blk pX2
      have d1 : X2.cell? ⟨w.heap.size, 1, none⟩ = some (.int .i64 d) := cell_blk pX2
      have t1 : decide (d < 0) = false := by simp; omega
      have t2 : decide (127 < d) = false := by simp; omega
      obtain ⟨y, hy, hy2, HY⟩ : ∃ y : Int, (bif x then d + 128 else d) = y ∧ (0 ≤ y ∧ y ≤ 255) ∧ Hid (decide (127 < y) = x ∧ y % 128 = d) := by
        refine ⟨_, rfl, ?_, Lib.hid ?_⟩
        · cases x <;> simp <;> omega
        · cases x <;> simp <;> omega
      rw [hy] at hc2
      clear hy c0 c1 hbX pX BX
      go_wp2_with fail
      refine (lread_any b2 0 cap2 y _ hb2' hc2 hy2).mono ?_
      rintro e X3 ⟨rfl, hb3⟩
      rw [HY.out.1, HY.out.2]
      have pX3 := Below.blk hb3 pX2 sz2
      have BX3 := BX2.trans (hb3.mono BX2.size)
      have sz3 := lt_of_block pX3
      have f0 : X3.cell? ⟨w.heap.size, 0, none⟩ = some (.bool x) := cell_blk pX3
      have f1 : X3.cell? ⟨w.heap.size, 1, none⟩ = some (.int .i64 d) := cell_blk pX3
      clear d0 d1 hb3 pX2 BX2 hc2
      unfold level
      have u1 : (x == x) = true := by simp
      have u2 : (d == d) = true := by simp
      go_wp2_with fail
      go_ret
      exact ⟨ret_bool (by simp), BX3.alloc BX3.size _⟩
    · refine (lwrite_no x d X hd2).mono ?_
      rintro e X2 ⟨rfl, hbX⟩
      have pX2 := Below.blk hbX pX szX
      have BX2 := BX.trans (hbX.mono BX.size)
      have d1 : X2.cell? ⟨w.heap.size, 1, none⟩ = some (.int .i64 d) := cell_blk pX2
      by_cases hd0 : d < 0
      · have t1 : decide (d < 0) = true := by simpa using hd0
        clear hd2 c0 c1 hbX pX BX
        go_wp2_with fail
        go_ret
        exact ⟨rfl, BX2⟩
      · have t1 : decide (d < 0) = false := by simpa using hd0
        have t2 : decide (127 < d) = true := by simp; omega
        clear hd2 c0 c1 hbX pX BX
        go_wp2_with fail
        go_ret
        exact ⟨rfl, BX2⟩
  · have hne : ((len : Int) != 1) = true := by simp; omega
    go_wp2_with fail
    refine (lread_no a len cap _ (by omega) h1).mono ?_
    rintro e w2 ⟨rfl, hb2⟩
    have p2 := Below.blk hb2 p1 (lt_of_block p1)
    have B2 := B1.trans (hb2.mono B1.size)
    have sz2 := lt_of_block p2
    clear hb2 p1 B1
    have pa := (alloc_blk_old (o := .cells #[.bool false, .int .i64 0] 61) sz2).trans p2
    have Ba := B2.alloc B2.size (.cells #[.bool false, .int .i64 0] 61)
    have c0 : (w2.alloc (.cells #[.bool false, .int .i64 0] 61)).cell? ⟨w.heap.size, 0, none⟩ = some (.bool x) := cell_blk pa
    have c1 : (w2.alloc (.cells #[.bool false, .int .i64 0] 61)).cell? ⟨w.heap.size, 1, none⟩ = some (.int .i64 d) := cell_blk pa
    unfold level
    have hl' : ¬ len = 1 := h1
    go_wp2_with fail
    generalize hX : (World.alloc w2 _) = X at *
    have pX : X.heap[w.heap.size]? = some (.cells #[.bool x, .int .i64 d] 61 (0, 0)) := pa
    have BX : Below w.heap.size w X := Ba
    clear hX pa Ba c0 c1
    have c0 : X.cell? ⟨w.heap.size, 0, none⟩ = some (.bool x) := cell_blk pX
    have c1 : X.cell? ⟨w.heap.size, 1, none⟩ = some (.int .i64 d) := cell_blk pX
    have szX := lt_of_block pX
    go_wp2_with fail
    by_cases hd2 : 0 ≤ d ∧ d ≤ 127
    · refine (lwrite_any x d X hd2).mono ?_
      rintro e X2 ⟨b2, cap2, rfl, hb2, hb2', hc2, hbX⟩
      have pX2 := Below.blk hbX pX szX
      have BX2 := BX.trans (hbX.mono BX.size)
      have sz2 := lt_of_block pX2
      have d0 : X2.cell? ⟨w.heap.size, 0, none⟩ = some (.bool x) := cell_blk pX2
      have d1 : X2.cell? ⟨w.heap.size, 1, none⟩ = some (.int .i64 d) := cell_blk pX2
      have t1 : decide (d < 0) = false := by simp; omega
      have t2 : decide (127 < d) = false := by simp; omega
      obtain ⟨y, hy, hy2, HY⟩ : ∃ y : Int, (bif x then d + 128 else d) = y ∧ (0 ≤ y ∧ y ≤ 255) ∧ Hid (decide (127 < y) = x ∧ y % 128 = d) := by
        refine ⟨_, rfl, ?_, Lib.hid ?_⟩
        · cases x <;> simp <;> omega
        · cases x <;> simp <;> omega
      rw [hy] at hc2
      clear hy c0 c1 hbX pX BX
      go_wp2_with fail
      refine (lread_any b2 0 cap2 y _ hb2' hc2 hy2).mono ?_
      rintro e X3 ⟨rfl, hb3⟩
      rw [HY.out.1, HY.out.2]
      have pX3 := Below.blk hb3 pX2 sz2
      have BX3 := BX2.trans (hb3.mono BX2.size)
      have sz3 := lt_of_block pX3
      have f0 : X3.cell? ⟨w.heap.size, 0, none⟩ = some (.bool x) := cell_blk pX3
      have f1 : X3.cell? ⟨w.heap.size, 1, none⟩ = some (.int .i64 d) := cell_blk pX3
      clear d0 d1 hb3 pX2 BX2 hc2
      unfold level
      have u1 : (x == x) = true := by simp
      have u2 : (d == d) = true := by simp
      go_wp2_with fail
      go_ret
      exact ⟨ret_bool (by simp), BX3.alloc BX3.size _⟩
    · refine (lwrite_no x d X hd2).mono ?_
      rintro e X2 ⟨rfl, hbX⟩
      have pX2 := Below.blk hbX pX szX
      have BX2 := BX.trans (hbX.mono BX.size)
      have d1 : X2.cell? ⟨w.heap.size, 1, none⟩ = some (.int .i64 d) := cell_blk pX2
      by_cases hd0 : d < 0
      · have t1 : decide (d < 0) = true := by simpa using hd0
        clear hd2 c0 c1 hbX pX BX
        go_wp2_with fail
        go_ret
        exact ⟨rfl, BX2⟩
      · have t1 : decide (d < 0) = false := by simpa using hd0
        have t2 : decide (127 < d) = true := by simp; omega
        clear hd2 c0 c1 hbX pX BX
        go_wp2_with fail
        go_ret
        exact ⟨rfl, BX2⟩
end Go.Proofs.Ytkemkplmhjmahaa
