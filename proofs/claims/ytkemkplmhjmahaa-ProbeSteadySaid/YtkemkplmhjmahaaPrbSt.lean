/-
  The walks of ProbeLate and ProbeSteady.
-/
import Derived.Test.YtkemkplmhjmahaaPrbLaws
import Derived.IntWalk
namespace Go.Proofs.Ytkemkplmhjmahaa
open Go.RowKit
set_option linter.unusedVariables false
set_option linter.unusedSimpArgs false

theorem fld2 (a b c : Int) (d : Bool) (W : World) : (Instr.field 78 (.agg #[.int .i64 a, .int .i64 b, .int .i64 c, .bool d]) 2).run Try.prog W = .ok (.int .i64 c) W := by kernel_rfl
theorem fld1 (a b c : Int) (d : Bool) (W : World) : (Instr.field 78 (.agg #[.int .i64 a, .int .i64 b, .int .i64 c, .bool d]) 1).run Try.prog W = .ok (.int .i64 b) W := by kernel_rfl
theorem w16 (a y : Int) (h : y = a % 65536) : IntKind.u16.wrap a = y := by rw [IntKind.wrap_u16, h]

set_option maxHeartbeats 4000000 in
theorem ProbeLate.walk (x d0 : Int) (w : World) (w0 : (Lit.int .u16 x).wf = true) (w1 : (Lit.int .u8 d0).wf = true) :
    Calls Try.prog 13 #[.int .u16 x, .int .u8 d0] w fun e w' => e = .returned (.bool true) ∧ Below w.heap.size w w' := by
  have bx := bounds_u16 w0
  have bd := bounds_u8 w1
  clear w0 w1
  obtain ⟨y, e1, hy, HY⟩ : ∃ y, IntKind.u16.wrap (x + 1) = y ∧ (0 ≤ y ∧ y ≤ 65535) ∧ Hid (y = (x + 1) % 65536) := ⟨_, w16 _ _ rfl, by omega, Lib.hid rfl⟩
  obtain ⟨z, e2, hz, HZ⟩ : ∃ y, IntKind.u16.wrap (x + 200) = y ∧ (0 ≤ y ∧ y ≤ 65535) ∧ Hid (y = (x + 200) % 65536) := ⟨_, w16 _ _ rfl, by omega, Lib.hid rfl⟩
  obtain ⟨d, e3, hd, HD⟩ : ∃ d, d0 % 99 + 1 = d ∧ (1 ≤ d ∧ d ≤ 99) ∧ Hid (d = d0 % 99 + 1) := ⟨_, rfl, by omega, Lib.hid rfl⟩
  obtain ⟨v, e4, hv, HV⟩ : ∃ y, IntKind.u16.wrap (z - d) = y ∧ (0 ≤ y ∧ y ≤ 65535) ∧ Hid (y = (z - d) % 65536) := ⟨_, w16 _ _ rfl, by omega, Lib.hid rfl⟩
  go_enter Try.func13, Try.ntmps13
  go_wp2_with fail
  refine (alive17_any _).mono ?_
  rintro e w1 ⟨rfl, hb1⟩
  have B0 : Below w.heap.size w (w1.alloc (.cells #[.bool false, .int .u16 0, .int .i64 0, .int .i64 0, .int .i64 0, .int .i64 0, .int .i64 0] 75)) := hb1.alloc hb1.size _
  have q0 := hb1.size
  go_wp2_with fail
  refine (take_first _ x _ (prb_new w1) bx.1 bx.2).mono ?_
  rintro e w2 ⟨rfl, g2, k2⟩
  have B2 := Below.keeps B0 B0.size q0 k2
  clear k2 B0 hb1
  obtain ⟨g, hg⟩ : ∃ g, g = w1.heap.size := ⟨_, rfl⟩
  rw [← hg] at g2 q0
  rw [← hg]
  clear hg
  go_wp2_with fail
  refine (take_try _ y _ _ _ _ _ _ g2 (Lib.hid HY.out) hy.1 hy.2).mono ?_
  rintro e w3 ⟨rfl, g3, k3⟩
  have B3 := Below.keeps B2 B2.size q0 k3
  clear k3 B2 g2
  go_wp2_with fail
  refine (take_near _ z _ _ _ _ _ _ g3 (by have := HY.out; have := HZ.out; omega) (by decide) (by decide)).mono ?_
  rintro e w4 ⟨rfl, g4, k4⟩
  have B4 := Below.keeps B3 B3.size q0 k4
  have ht : 0 ≤ up1 z y 0 ∧ up1 z y 0 ≤ 1 := by unfold up1; cases decide (z < y) <;> simp
  generalize up1 z y 0 = t at *
  clear k4 B3 g3
  go_wp2_with fail
  refine (pstand_any _ _ _ _ _ _ _ g4 (by omega) hz hy).mono ?_
  rintro e w5 ⟨rfl, b5⟩
  have B5 := B4.trans (b5.mono B4.size)
  have g5 : prb w5 g true z t y (1 + 1) 0 65536 := Below.blk b5 g4 g4.lt
  clear b5 B4 g4
  obtain ⟨T, HT⟩ : ∃ T, Hid (T = t * 65536 + z) := ⟨_, rfl⟩
  rw [← HT.out]
  unfold standing
  go_wp2_with fail
  have B6 := B5.alloc B5.size (.cells #[.int .i64 (T - y + 1), .int .i64 (1 + 1), .int .i64 T, .bool true] 78)
  have hl5 := g5.lt
  refine (take_late _ v _ _ _ _ _ _ ((Below.heap_alloc _ _ _ g5.lt).trans g5) (by have := HV.out; omega) (by decide)).mono ?_
  rintro e w6 ⟨rfl, g6, k6⟩
  have p6 := k6.blk (k := w5.heap.size) alloc_blk_new (by omega)
  have B7 := Below.keeps B6 B6.size q0 k6
  clear k6 g5 B5 B6
  go_wp2_with fail
  refine (pstand_any _ _ _ _ _ _ _ g6 (by omega) hz hy).mono ?_
  rintro e w7 ⟨rfl, b7⟩
  have B8 := B7.trans (b7.mono B7.size)
  have g7 : prb w7 g true z t y (1 + 1 + 1) 0 65536 := Below.blk b7 g6 g6.lt
  have p7 := Below.blk b7 p6 (lt_of_block p6)
  clear b7 B7 g6 p6
  rw [← HT.out]
  unfold standing
  have hl7 := g7.lt
  have l5 : w5.heap.size < w7.heap.size := lt_of_block p7
  have c0 : w7.cell? ⟨w5.heap.size, 0, none⟩ = some (.int .i64 (T - y + 1)) := cell_blk p7
  have c1 : w7.cell? ⟨w5.heap.size, 1, none⟩ = some (.int .i64 (1 + 1)) := cell_blk p7
  have c2 : w7.cell? ⟨w5.heap.size, 2, none⟩ = some (.int .i64 T) := cell_blk p7
  have g8 : ∀ o, prb (w7.alloc o) g true z t y (1 + 1 + 1) 0 65536 := fun o => (Below.heap_alloc _ _ _ g7.lt).trans g7
  have G8 := Lib.hid g8
  have hT : 0 ≤ T ∧ T ≤ 200000 := by have := HT.out; omega
  have hi : Hid ((bif decide (z < v) then t * 65536 + v - 65536 else t * 65536 + v) = T - d) := by
    refine Lib.hid ?_
    have h1 := HT.out
    have h2 := HV.out
    by_cases hzv : z < v
    · rw [decide_eq_true hzv]; simp only [cond_true]; omega
    · rw [decide_eq_false hzv]; simp only [cond_false]; omega
  have hix : Hid (∀ W, prb W g true z t y (1 + 1 + 1) 0 65536 → Calls Try.prog 45 #[.pointer (some ⟨g, 0, none⟩), .int .u16 v] W fun e w' => e = .returned (.int .i64 (T - d)) ∧ W = w') := by
    refine Lib.hid (fun W hW => ?_)
    have := pindex_any g v z t y (1 + 1 + 1) 65536 W hW (by omega) hz hv
    rw [hi.out] at this; exact this
  have B9 := fun o => B8.alloc B8.size o
  clear g8 g7 B8 p7
  have t1 : (T == T) = true := by simp
  have t2 : (T - y + 1 == T - y + 1) = true := by simp
  have t3 : (T - d == T - d) = true := by simp
  go_wp2_with fail
  go_quiet ((go_at_call 45; exact qsame (hix.out _ (G8.out _))))
  go_wp2_with fail
  go_ret
  exact ⟨rfl, below_drewN0 (B9 _) _⟩

set_option maxHeartbeats 4000000 in
set_option maxRecDepth 100000 in
theorem ProbeSteady.walk (x : Int) (a : Option Addr) (len cap : Nat) (zs : List Int) (w : World) (w0 : (Lit.int .u16 x).wf = true) (r : IsRow .u16 w a len cap zs) :
    Calls Try.prog 12 #[.int .u16 x, .slice a len cap] w fun e w' => e = .returned (.bool true) ∧ Below w.heap.size w w' := by
  have bx := bounds_u16 w0
  obtain ⟨b, off, Z, ha, hl, hm, hc, hz⟩ := row_open r
  have HA := Lib.hid ha
  have HC := Lib.hid hc
  have HZ : Hid (∀ i, i < cap → 0 ≤ Z i ∧ Z i ≤ 65535) := Lib.hid (fun i hi => bounds_u16 (hz i hi))
  clear ha hc hz r w0
  obtain ⟨y, e1, hy, HY⟩ : ∃ y, IntKind.u16.wrap (x + 1) = y ∧ (0 ≤ y ∧ y ≤ 65535) ∧ Hid (y = (x + 1) % 65536) := ⟨_, w16 _ _ rfl, by omega, Lib.hid rfl⟩
  go_enter Try.func12, Try.ntmps12
  go_wp2_with fail
  refine (alive17_any _).mono ?_
  rintro e w1 ⟨rfl, hb1⟩
  have B0 : Below w.heap.size w (w1.alloc (.cells #[.bool false, .int .u16 0, .int .i64 0, .int .i64 0, .int .i64 0, .int .i64 0, .int .i64 0] 75)) := hb1.alloc hb1.size _
  have q0 := hb1.size
  go_wp2_with fail
  refine (take_first _ x _ (prb_new w1) bx.1 bx.2).mono ?_
  rintro e w2 ⟨rfl, g2, k2⟩
  have B2 := Below.keeps B0 B0.size q0 k2
  clear k2 B0 hb1
  obtain ⟨g, hg⟩ : ∃ g, g = w1.heap.size := ⟨_, rfl⟩
  rw [← hg] at g2 q0
  rw [← hg]
  clear hg
  go_wp2_with fail
  refine (take_try _ y _ _ _ _ _ _ g2 (Lib.hid HY.out) hy.1 hy.2).mono ?_
  rintro e w3 ⟨rfl, g3, k3⟩
  have B3 := Below.keeps B2 B2.size q0 k3
  clear k3 B2 g2 HY e1 bx
  go_wp2_with fail
  go_loopw [6, 7, 8] (fun sq hi si wr => ∃ (k : Nat) (h t f : Int), k ≤ len ∧ k ≤ 200 ∧ si = .int .i64 k ∧ sq = .int .u16 h ∧ (∃ T, Hid (T = t * 65536 + h) ∧ hi = .int .i64 T) ∧ prb wr g true h t f (k + 1) 0 65536 ∧ Below w.heap.size w wr ∧ 0 ≤ h ∧ h ≤ 65535 ∧ 0 ≤ t ∧ t ≤ k ∧ 0 ≤ f ∧ f ≤ 65535) (fun _ _ si _ => len - (intOf si).toNat)
  case atStart => exact ⟨0, y, 0, y, by omega, by omega, rfl, rfl, ⟨y, Lib.hid (by omega), rfl⟩, g3, B3, hy.1, hy.2, by omega, by omega, hy.1, hy.2⟩
  case round =>
    obtain ⟨k, h, t, f, hk, hk2, rfl, rfl, ⟨T, HT, rfl⟩, hgr, hbel, h0, h1, t0, t1, f0, f1⟩ := hrel
    by_cases hlt : k < len ∧ k < 200
    · obtain ⟨hlt1, hlt2⟩ := hlt
      obtain ⟨rfl, hbs⟩ := HA.out (by omega)
      have hcell := Below.cell' hbel hbs (HC.out k (by omega))
      have hzk := HZ.out k (by omega)
      generalize Z k = z at *
      obtain ⟨d, e2, hd, HD⟩ : ∃ d, z % 2999 + 1 = d ∧ (1 ≤ d ∧ d ≤ 2999) ∧ Hid (d = z % 2999 + 1) := ⟨_, rfl, by omega, Lib.hid rfl⟩
      obtain ⟨v, e3, hv, HV⟩ : ∃ y, IntKind.u16.wrap (h + d) = y ∧ (0 ≤ y ∧ y ≤ 65535) ∧ Hid (y = (h + d) % 65536) := ⟨_, w16 _ _ rfl, by omega, Lib.hid rfl⟩
      have hT0 : 0 ≤ T ∧ T ≤ 20000000 := by have := HT.out; omega
      obtain ⟨t', HT', ht', HU⟩ : ∃ t', Hid (up1 v h t = t') ∧ (0 ≤ t' ∧ t' ≤ k + 1) ∧ Hid (T + d = t' * 65536 + v) := by
        refine ⟨_, Lib.hid rfl, ?_, Lib.hid ?_⟩
        · unfold up1; cases decide (v < h) <;> simp <;> omega
        · have h2 := HT.out
          have h3 := HV.out
          unfold up1
          by_cases hvh : v < h
          · rw [decide_eq_true hvh]; simp only [cond_true]; omega
          · rw [decide_eq_false hvh]; simp only [cond_false]; omega
      obtain ⟨c, hcc, hc0⟩ : ∃ c : Int, Hid (c = (k : Int) + 1) ∧ (0 ≤ c ∧ c ≤ 300) := ⟨_, Lib.hid rfl, by omega⟩
      rw [← hcc.out] at hgr
      go_wp2_with fail
      refine (take_near _ v _ _ _ _ _ _ hgr (by have := HV.out; omega) (by omega) (by omega)).mono ?_
      rintro e w4 ⟨rfl, g4, k4⟩
      rw [HT'.out] at g4
      have B4 := Below.keeps hbel hbel.size q0 k4
      clear k4 hgr hbel hcell
      go_wp2_with fail
      refine (pstand_any _ _ _ _ _ _ _ g4 (by omega) hv ⟨f0, f1⟩).mono ?_
      rintro e w5 ⟨rfl, b5⟩
      have B5 := B4.trans (b5.mono B4.size)
      have g5 : prb w5 g true v t' f (c + 1) 0 65536 := Below.blk b5 g4 g4.lt
      clear b5 B4 g4
      rw [← HU.out]
      unfold standing
      have n1 : (T + d != T + d) = false := by simp
      have F2 := fld2 (T + d - f + 1) (c + 1) (T + d) true
      have F1 := fld1 (T + d - f + 1) (c + 1) (T + d) true
      go_wp2_with fail
      refine (pstand_any _ _ _ _ _ _ _ g5 (by omega) hv ⟨f0, f1⟩).mono ?_
      rintro e w6 ⟨rfl, b6⟩
      have B6 := B5.trans (b6.mono B5.size)
      have g6 : prb w6 g true v t' f (c + 1) 0 65536 := Below.blk b6 g5 g5.lt
      clear b6 B5 g5
      rw [← HU.out]
      unfold standing
      have n2 : (c + 1 != (k : Int) + 2) = false := by rw [hcc.out]; simp; omega
      go_wp2_with fail
      have hi : (bif decide (v < v) then t' * 65536 + v - 65536 else t' * 65536 + v) = T + d := by
        rw [decide_eq_false (by omega)]; simp only [cond_false]; exact HU.out.symm
      have hix := pindex_any g v v t' f (c + 1) 65536 w6 g6 (by omega) hv hv
      rw [hi] at hix
      clear hi
      refine hix.mono ?_
      rintro e w7 ⟨rfl, rfl⟩
      clear hix
      go_wp2_with fail
      go_roundw
      case rel => exact ⟨k + 1, v, t', f, by omega, by omega, by go_num, rfl, ⟨T + d, HU, rfl⟩, (by have := g6; rw [hcc.out] at this; exact this), B6, hv.1, hv.2, ht'.1, by omega, f0, f1⟩
      case measure => simp [intOf] <;> omega
    · go_wp2_with fail
      all_goals
        go_ret
        exact ⟨rfl, hbel⟩
end Go.Proofs.Ytkemkplmhjmahaa
