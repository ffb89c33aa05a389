/-
  Chapter 37: the reference's Pack.
-/
import Derived.Test.YtihbceippcgfgaaTpK
import Derived.Test.YtihbceippcgfgaaTpR
namespace Go.Proofs.Ytihbceippcgfgaa
open Go.RowKit
set_option linter.unusedVariables false
set_option linter.unusedSimpArgs false
attribute [local irreducible] wpStill wpQuiet

theorem elU : ElemT Try.prog 25 5 1 1 := ElemT.mk' (z := .int .u8 0) Try.underlying25 infoU8 rfl (by decide)
/-- two more bytes -/
theorem appB2 {w : World} {B : Nat} {a : Option Addr} {N c : Nat} {L : List Int} (h : OwnB w B a N c L) (x y : Int) (hx : 0 ≤ x ∧ x ≤ 255) (hy : 0 ≤ y ∧ y ≤ 255) (hN : N ≤ 100000) (hB : B ≤ w.heap.size) :
    ∃ a' c' W, (∀ ty, (Builtin.append_ #[25, 25] ty #[.slice a N c, .slice (some ⟨w.heap.size, 0, none⟩) 2 2]).run Try.prog (w.alloc (.cells #[.int .u8 x, .int .u8 y] 5)) = .ok (.slice a' (N + 2) c') W) ∧ OwnB W B a' (N + 2) c' (L ++ [x, y]) ∧ Below B w W := by
  have b : Below w.heap.size w (w.alloc (.cells #[.int .u8 x, .int .u8 y] 5)) := (Below.refl _ _).alloc (Nat.le_refl _) _
  have hc : (w.alloc (.cells #[.int .u8 x, .int .u8 y] 5)).heap[w.heap.size]? = some (.cells #[.int .u8 x, .int .u8 y] 5 (0, 0)) := alloc_blk_new
  obtain ⟨a', c', W, A, b2⟩ := appS elU (own_below h.1 b) (some ⟨w.heap.size, 0, none⟩) 2 2 (u8s [x, y]) (fun e => by cases e) rfl (fun ad e j u hj => by
    cases e
    rw [addr_add, Nat.zero_add, cell_blk hc, ← hj]
    show (#[Value.int .u8 x, .int .u8 y])[j]? = [Value.int .u8 x, .int .u8 y][j]?
    simp) (u8s_one _) (by omega) (by omega) (by simp; omega)
  exact ⟨a', c', W, A.run, ⟨by rw [u8s_app]; exact A.own, h.2.app (fun z hz => by simp at hz; omega)⟩, (b.mono hB).trans b2⟩
/-- one more byte -/
theorem appB1 {w : World} {B : Nat} {a : Option Addr} {N c : Nat} {L : List Int} (h : OwnB w B a N c L) (x : Int) (hx : 0 ≤ x ∧ x ≤ 255) (hN : N ≤ 100000) (hB : B ≤ w.heap.size) :
    ∃ a' c' W, (∀ ty, (Builtin.append_ #[25, 25] ty #[.slice a N c, .slice (some ⟨w.heap.size, 0, none⟩) 1 1]).run Try.prog (w.alloc (.cells #[.int .u8 x] 5)) = .ok (.slice a' (N + 1) c') W) ∧ OwnB W B a' (N + 1) c' (L ++ [x]) ∧ Below B w W := by
  obtain ⟨a', c', W, A, b⟩ := app1 elU h.1 [.int .u8 x] rfl (one_cell rfl) (by omega) (by omega) hB
  exact ⟨a', c', W, A.run, ⟨by rw [u8s_app]; exact A.own, h.2.app (fun z hz => by simp at hz; omega)⟩, b⟩

theorem four_row (w : World) (x y z u : Int) : (w.alloc (.cells #[.int .u8 x, .int .u8 y, .int .u8 z, .int .u8 u] 5)).ownsRow w.heap.size 5 1 (.slice (some ⟨w.heap.size, 0, none⟩) 4 4) 4 (u8s [x, y, z, u]) :=
  ⟨rfl, .inr ⟨w.heap.size, 4, _, rfl, Nat.le_refl _, alloc_blk_new, Nat.le_refl _, by unfold maxLen; omega, rfl, rfl⟩⟩
set_option maxRecDepth 100000 in
set_option maxHeartbeats 4000000 in
theorem rpack_good (base : Int) (hb : 0 ≤ base ∧ base ≤ 65535) (w : World) (a : Option Addr) (n cap : Nat) (X : Nat → Int) (h : IRow w a n cap X) (hn1 : 1 ≤ n) (hn : n ≤ 400) (hw : ∀ i, i < n → -9223372036854775808 ≤ X i ∧ X i ≤ 9223372036854775807) (hg : good X n) :
    Calls Try.prog 52 #[.int .u16 base, .slice a n cap] w (PkPost base X n (.bool true) w) := by
  have HS := Lib.hid (rsigns_any w a n cap X h (by omega) hw)
  have HG := Lib.hid hg
  have hle := h.le
  have hmx := h.max
  have hσ : Hid (∀ i, 0 ≤ sg X i ∧ sg X i ≤ 2) := Lib.hid (sg_bd X)
  clear h hw hg
  have hbd : Hid (IntKind.u16.wrap (base.tdiv 256) % 256 = base / 256) := Lib.hid (by rw [Int.tdiv_eq_ediv_of_nonneg hb.1, IntKind.wrap_u16]; omega)
  have t1 : decide ((n : Int) < 1) = false := by simp; omega
  have t2 : decide (400 < (n : Int)) = false := by simp; omega
  go_enter Try.func52, Try.ntmps52
  go_wp2_with fail
  refine HS.out.mono ?_
  rintro e w1 ⟨⟨_, a1, c1, a2, c2, rfl, T⟩ | ⟨hno, _⟩, B1⟩
  case inr => exact absurd HG.out hno
  obtain ⟨s, d1, he1, g1, g2, l1, l2⟩ := own_pos T.one (by omega)
  cases he1
  obtain ⟨s', d2, he2, u1, u2, u3, u4⟩ := own_pos T.two (by omega)
  cases he2
  have hB1 := B1.size
  have HK : Hid (∀ i, i < n → w1.cell? ⟨s, i, none⟩ = some (.int .i64 (sg X i))) := Lib.hid (fun i hi => own_cell T.one (vsI_fl _ hi))
  have HK2 : Hid (∀ i, i < n → w1.cell? ⟨s', i, none⟩ = some (.int .i64 (stp X i))) := Lib.hid (fun i hi => own_cell T.two (vsI_fl _ hi))
  have HB1 := Lib.hid B1
  clear T B1
  go_wp2_with fail
  have O0 : Hid (OwnB (w1.alloc (.cells #[.int .u8 (IntKind.u16.wrap (base.tdiv 256) % 256), .int .u8 (base % 256), .int .u8 ((n : Int) / 256), .int .u8 ((n : Int) % 256)] 5)) w1.heap.size (some ⟨w1.heap.size, 0, none⟩) 4 4 (hd4 base n ++ wbs (sg X) n 0)) := Lib.hid (by rw [hbd.out]; exact ⟨four_row w1 _ _ _ _, hd4_oct hb hn⟩)
  have B0 : Hid (Below w1.heap.size w1 (w1.alloc (.cells #[.int .u8 (IntKind.u16.wrap (base.tdiv 256) % 256), .int .u8 (base % 256), .int .u8 ((n : Int) / 256), .int .u8 ((n : Int) % 256)] 5))) := Lib.hid ((Below.refl _ _).alloc (Nat.le_refl _) _)
  generalize World.alloc w1 _ = W0 at O0 B0 ⊢
  go_loopw [10, 11] (fun so sa wr => ∃ (p j N c' : Nat) (a' : Option Addr), sa = .int .i64 p ∧ so = .slice a' N c' ∧ p ≤ 410 ∧ N ≤ 1000 ∧ Hid (p = pos (sg X) n j) ∧ Hid (N = 4 + 2 * j) ∧ Hid (∀ i, i < j → pos (sg X) n i < n) ∧ Hid (OwnB wr w1.heap.size a' N c' (hd4 base n ++ wbs (sg X) n j)) ∧ Hid (Below w1.heap.size w1 wr)) (fun _ sa _ => n - (intOf sa).toNat)
  case atStart => exact ⟨0, 0, 4, 4, _, rfl, rfl, by omega, by omega, Lib.hid rfl, Lib.hid rfl, Lib.hid (fun i hi => by omega), O0, B0⟩
  case round =>
    obtain ⟨p, j, N, c', a', rfl, rfl, hp4, hN, HP, HN, HJ, HO, HB⟩ := hrel
    by_cases hpn : p < n
    · have hpl : Hid (pos (sg X) n j < n) := Lib.hid (by rw [← HP.out]; exact hpn)
      have hj : j ≤ 400 := by have := pos_ge HJ.out; have := hpl.out; omega
      have hJ2 : Hid (∀ i, i < j + 1 → pos (sg X) n i < n) := Lib.hid (fun i hi => by
        by_cases e : i = j
        · subst e; exact hpl.out
        · exact HJ.out i (by omega))
      have hbs := HB.out.size
      have HC : Hid (∀ (d : Nat) i, i < n → (wr.drewN d).cell? ⟨s, i, none⟩ = some (.int .i64 (sg X i))) := Lib.hid (fun d i hi => Below.cell' (below_drewN0 HB.out d) g2 (HK.out i hi))
      go_wp2_with fail
      generalize hWW : wr = W1 at *
      clear hWW
      go_loopw [12] (fun sk wx => ∃ (k d : Nat), p + k ≤ n ∧ sk = .int .i64 k ∧ Hid (∀ i, i < k → sg X (p + i) = sg X p) ∧ Hid (wx = W1.drewN d)) (fun sk _ => n - (intOf sk).toNat)
      case atStart => exact ⟨0, 0, by omega, rfl, Lib.hid (fun i hi => by omega), Lib.hid rfl⟩
      case round =>
        obtain ⟨k, d, hpk, rfl, HE, HW⟩ := hrel
        have wpk : IntKind.i64.wrap ((p : Int) + (k : Int)) = (p : Int) + (k : Int) := by rw [IntKind.wrap_i64]; omega
        have HW2 : Hid (wr.drew = W1.drewN (d + 1)) := Lib.hid (by rw [HW.out]; rfl)
        have HCW : Hid (∀ i, i < n → wr.cell? ⟨s, i, none⟩ = some (.int .i64 (sg X i))) := Lib.hid (fun i hi => by rw [HW.out]; exact HC.out d i hi)
        rcases (show (p + k < n ∧ sg X (p + k) = sg X p) ∨ (p + k < n ∧ sg X (p + k) ≠ sg X p) ∨ p + k = n by omega) with ⟨hlt, he⟩ | ⟨hlt, he⟩ | hlt
        case inl =>
          have c0 := HCW.out p (by omega)
          have ck := HCW.out (p + k) hlt
          have u1 : decide ((p : Int) + (k : Int) < (n : Int)) = true := by simp; omega
          have v1 : (0 : Int) ≤ (p : Int) + (k : Int) := by omega
          have v2 : (p : Int) + (k : Int) < (n : Int) := by omega
          have v3 : ((p : Int) + (k : Int)).toNat = p + k := by omega
          have HE2 : Hid (∀ i, i < k + 1 → sg X (p + i) = sg X p) := Lib.hid (fun i hi => by
            by_cases e : i = k
            · subst e; exact he
            · exact HE.out i (by omega))
          rw [he] at ck
          have u3 : (sg X p == sg X p) = true := by simp
          clear he HE
          go_wp2_with fail
          refine wp_region_still_lit (by kernel_rfl) (by kernel_rfl) ?_
          iterate 18 still_step
          refine wpStill_nil ?_
          change Exit.then _ _ _ _ wr.drew
          go_wp2_with fail
          go_roundw
          case rel => exact ⟨k + 1, d + 1, by omega, by go_num, HE2, HW2⟩
          case measure => simp [intOf] <;> omega
        case' inr.inl =>
          have hk0 : 1 ≤ k := by
            rcases Nat.eq_zero_or_pos k with e | e
            · subst e; exact absurd rfl he
            · exact e
          have HR : Hid (IsRun (sg X) n p k) := Lib.hid ⟨hk0, hpk, HE.out, .inr he⟩
          have c0 := HCW.out p (by omega)
          have ck := HCW.out (p + k) hlt
          have u1 : decide ((p : Int) + (k : Int) < (n : Int)) = true := by simp; omega
          have v1 : (0 : Int) ≤ (p : Int) + (k : Int) := by omega
          have v2 : (p : Int) + (k : Int) < (n : Int) := by omega
          have v3 : ((p : Int) + (k : Int)).toNat = p + k := by omega
          have u3 : (sg X (p + k) == sg X p) = false := by simpa using he
          clear he
          go_wp2_with fail
          refine wp_region_still_lit (by kernel_rfl) (by kernel_rfl) ?_
          iterate 18 still_step
          refine wpStill_nil ?_
          change Exit.then _ _ _ _ wr.drew
          clear u1 v1 v2 v3 u3 c0 ck hlt
        case' inr.inr =>
          have hk0 : 1 ≤ k := by omega
          have HR : Hid (IsRun (sg X) n p k) := Lib.hid ⟨hk0, hpk, HE.out, .inl hlt⟩
          have u1 : decide ((p : Int) + (k : Int) < (n : Int)) = false := by simp; omega
          clear hlt
          go_wp2_with fail
          refine wp_region_still_lit (by kernel_rfl) (by kernel_rfl) ?_
          iterate 18 still_step
          refine wpStill_nil ?_
          change Exit.then _ _ _ _ wr.drew
          clear u1
        all_goals
          clear HW HCW HE
          generalize hWW2 : wr.drew = W2 at HW2 ⊢
          clear hWW2
          have HB2 : Hid (Below w1.heap.size w1 W2) := Lib.hid (by rw [HW2.out]; exact below_drewN0 HB.out _)
          have HO2 : Hid (OwnB W2 w1.heap.size a' N c' (hd4 base n ++ wbs (sg X) n j)) := Lib.hid (by rw [HW2.out]; exact HO.out.keep (below_drewN0 (Below.refl _ _) _))
          have hb2 : w1.heap.size ≤ W2.heap.size := HB2.out.size
          have c2' : W2.cell? ⟨s, p, none⟩ = some (.int .i64 (sg X p)) := by rw [HW2.out]; exact HC.out _ p (by omega)
          have HCW : Hid (∀ i, i < n → W2.cell? ⟨s, i, none⟩ = some (.int .i64 (sg X i))) := Lib.hid (fun i hi => by rw [HW2.out]; exact HC.out _ i hi)
          have hisR : Hid (isR (sg X) n p ↔ 7 ≤ k ∨ p + k = n) := Lib.hid (by unfold isR; rw [(rl_run (σ := sg X) hpn).uniq HR.out])
          have HRL : Hid (rl (sg X) n p = k) := Lib.hid ((rl_run (σ := sg X) hpn).uniq HR.out)
          have HPJ : Hid (pos (sg X) n j = p) := Lib.hid HP.out.symm
          have hsb := hσ.out p
          clear HW2 HB HO HR HP HC wpk
          have app : isR (sg X) n p → ∃ x1 a5 c5 W5, Hid (x1 = wd (sg X) n p / 256 ∧ x1 = sg X p * 32 + (k : Int) / 256 ∧ 0 ≤ x1 ∧ x1 ≤ 255) ∧ Hid (∀ ty, (Builtin.append_ #[25, 25] ty #[.slice a' N c', .slice (some ⟨W2.heap.size, 0, none⟩) 2 2]).run Try.prog (W2.alloc (.cells #[.int .u8 x1, .int .u8 ((k : Int) % 256)] 5)) = .ok (.slice a5 (N + 2) c5) W5) ∧ Hid (OwnB W5 w1.heap.size a5 (N + 2) c5 (hd4 base n ++ wbs (sg X) n (j + 1))) ∧ Hid (Below w1.heap.size w1 W5) ∧ Hid (pos (sg X) n (j + 1) = p + k) := by
            intro hR
            have hw : wd (sg X) n p = sg X p * 8192 + k := by unfold wd; rw [if_pos hR, HRL.out]
            obtain ⟨a5, c5, W5, r5, o5, b5⟩ := appB2 HO2.out (wd (sg X) n p / 256) ((k : Int) % 256) (by omega) (by omega) (by omega) hb2
            exact ⟨_, a5, c5, W5, Lib.hid ⟨rfl, by omega, by omega, by omega⟩, Lib.hid r5, Lib.hid (by rw [wbs_succ, HPJ.out, ← List.append_assoc, show wd (sg X) n p % 256 = (k : Int) % 256 by omega]; exact o5), Lib.hid (HB2.out.trans b5), Lib.hid (by rw [pos_succ, HPJ.out]; unfold nx; rw [if_pos hR, HRL.out])⟩
          have HAPP := Lib.hid app
          have hN5 : N + 2 ≤ 1000 := by have := HN.out; omega
          have HN5 : Hid (N + 2 = 4 + 2 * (j + 1)) := Lib.hid (by rw [HN.out]; omega)
          clear app HRL
          rcases (show 7 ≤ k ∨ (k < 7 ∧ p + k = n) ∨ (k < 7 ∧ p + k ≠ n) by omega) with hA | ⟨hA, hA2⟩ | ⟨hA, hA2⟩
          · obtain ⟨x1, a5, c5, W5, HX, HRUN, HO5, HB5, HP5⟩ := HAPP.out (hisR.out.2 (.inl hA))
            clear HAPP hisR
            have t7 : decide (7 ≤ (k : Int)) = true := by simp; omega
            obtain ⟨-, x2, x3, x4⟩ := HX.out
            generalize hy : sg X p = y at *
            have e1 : wrap64 (wrap64 (y * 32) + (k : Int) / 256) % 256 = x1 := by unfold wrap64; omega
            have e3 : y * 32 + (k : Int) / 256 = x1 := x2.symm
            clear hy x2
            go_wp2_with (at_builtin; refine wpList_of_append rfl (.tmp 80) (.tmp 93) 25 rfl _ _ _ rfl rfl HRUN.out ?_)
            exact ⟨⟨p + k, j + 1, N + 2, c5, a5, by go_num, rfl, by omega, hN5, Lib.hid HP5.out.symm, HN5, hJ2, HO5, HB5⟩, by simp [intOf] <;> omega⟩
          · obtain ⟨x1, a5, c5, W5, HX, HRUN, HO5, HB5, HP5⟩ := HAPP.out (hisR.out.2 (.inr hA2))
            clear HAPP hisR
            have t7 : decide (7 ≤ (k : Int)) = false := by simp; omega
            have t8 : (((p : Int) + (k : Int)) == (n : Int)) = true := by simp; omega
            clear hA2
            obtain ⟨-, x2, x3, x4⟩ := HX.out
            generalize hy : sg X p = y at *
            have e1 : wrap64 (wrap64 (y * 32) + (k : Int) / 256) % 256 = x1 := by unfold wrap64; omega
            have e3 : y * 32 + (k : Int) / 256 = x1 := x2.symm
            clear hy x2
            go_wp2_with (at_builtin; refine wpList_of_append rfl (.tmp 80) (.tmp 93) 25 rfl _ _ _ rfl rfl HRUN.out ?_)
            exact ⟨⟨p + k, j + 1, N + 2, c5, a5, by go_num, rfl, by omega, hN5, Lib.hid HP5.out.symm, HN5, hJ2, HO5, HB5⟩, by simp [intOf] <;> omega⟩
          · have hR : ¬ isR (sg X) n p := fun h => by have := hisR.out.1 h; omega
            have HP5 : Hid (pos (sg X) n (j + 1) = p + 7) := Lib.hid (by rw [pos_succ, HPJ.out]; unfold nx; rw [if_neg hR])
            have hwd : wd (sg X) n p = rowW (sg X) n p := by unfold wd; rw [if_neg hR]
            have hwb := wd_bd hσ.out hpl.out hn
            rw [HPJ.out] at hwb
            obtain ⟨x, hx⟩ : ∃ x, x = wd (sg X) n p := ⟨_, rfl⟩
            rw [← hx] at hwb
            obtain ⟨a5, c5, W5, r5, o5, b5⟩ := appB2 HO2.out (x / 256) (x % 256) (by omega) (by omega) (by omega) hb2
            have HRUN := Lib.hid r5
            have HO5 : Hid (OwnB W5 w1.heap.size a5 (N + 2) c5 (hd4 base n ++ wbs (sg X) n (j + 1))) := Lib.hid (by rw [wbs_succ, HPJ.out, ← hx, ← List.append_assoc]; exact o5)
            have HB5 := Lib.hid (HB2.out.trans b5)
            have HX : Hid (rowK (sg X) n p 7 = x) := Lib.hid (by rw [rowK_7, hx, hwd])
            have t7 : decide (7 ≤ (k : Int)) = false := by simp; omega
            have t8 : (((p : Int) + (k : Int)) == (n : Int)) = false := by simp; omega
            clear HAPP hisR hR hwd hx r5 o5 b5 hA2 c2' hsb
            go_wp2_with fail
            generalize hWW4 : W2 = W4 at *
            clear hWW4
            go_loopw [13, 14] (fun sx sk wx => ∃ (i : Nat) (z : Int), i ≤ 7 ∧ sk = .int .i64 i ∧ sx = .int .i64 z ∧ Hid (z = rowK (sg X) n p i) ∧ wx = W4) (fun _ sk _ => 7 - (intOf sk).toNat)
            case atStart => exact ⟨0, 2, by omega, rfl, rfl, Lib.hid rfl, rfl⟩
            case round =>
              obtain ⟨i, z, hi7, rfl, rfl, HZ, rfl⟩ := hrel
              by_cases hi : i < 7
              · have hzb := rowK_bd hσ.out n p i hi7
                rw [← HZ.out] at hzb
                by_cases hpi : p + i < n
                · have ci := HCW.out (p + i) hpi
                  have hsi := hσ.out (p + i)
                  have HZ2 : Hid (z * 4 + sg X (p + i) = rowK (sg X) n p (i + 1)) := Lib.hid (by rw [HZ.out]; show _ = _ * 4 + dg (sg X) n p i; unfold dg; rw [if_pos hpi])
                  have u1 : decide ((p : Int) + (i : Int) < (n : Int)) = true := by simp; omega
                  go_wp2_with fail
                  go_roundw
                  case rel => exact ⟨i + 1, _, by omega, by go_num, rfl, HZ2, trivial⟩
                  case measure => simp [intOf] <;> omega
                · have HZ2 : Hid (z * 4 = rowK (sg X) n p (i + 1)) := Lib.hid (by rw [HZ.out]; show _ = _ * 4 + dg (sg X) n p i; unfold dg; rw [if_neg hpi, Int.add_zero])
                  have u1 : decide ((p : Int) + (i : Int) < (n : Int)) = false := by simp; omega
                  go_wp2_with fail
                  go_roundw
                  case rel => exact ⟨i + 1, _, by omega, by go_num, rfl, HZ2, trivial⟩
                  case measure => simp [intOf] <;> omega
              · obtain rfl : i = 7 := by omega
                obtain rfl : z = x := by rw [HZ.out, HX.out]
                go_wp2_with (at_builtin; refine wpList_of_append rfl (.tmp 117) (.tmp 124) 25 rfl _ _ _ rfl rfl HRUN.out ?_)
                exact ⟨⟨p + 7, j + 1, N + 2, c5, a5, by go_num, rfl, by omega, hN5, Lib.hid HP5.out.symm, HN5, hJ2, HO5, HB5⟩, by simp [intOf] <;> omega⟩
    · have HMany : Hid (Many (sg X) n j) := Lib.hid ⟨by rw [← HP.out]; omega, HJ.out⟩
      have hj : j ≤ 400 := by have := HMany.out.le; omega
      clear HP
      go_wp2_with fail
      generalize hwW : wr = W5 at *
      clear hwW
      go_loopw [10, 15] (fun so si wr => ∃ (i N : Nat) (a' : Option Addr) (c' : Nat), i ≤ n ∧ N ≤ 2000 ∧ si = .int .i64 i ∧ so = .slice a' N c' ∧ Hid (N = 4 + 2 * j + (sbs X i).length) ∧ Hid (OwnB wr w1.heap.size a' N c' (hd4 base n ++ wbs (sg X) n j ++ sbs X i)) ∧ Hid (Below w1.heap.size w1 wr)) (fun _ si _ => n - (intOf si).toNat)
      case atStart => exact ⟨0, N, a', c', by omega, by omega, rfl, rfl, Lib.hid (by rw [HN.out]; rfl), Lib.hid (by have := HO.out; rw [show sbs X 0 = [] from rfl, List.append_nil]; exact this), HB⟩
      case round =>
        clear HO HB HN hN
        obtain ⟨i, N, a', c', hi, hN, rfl, rfl, HN, HO, HB⟩ := hrel
        by_cases hlt : i < n
        · have hB5 := HB.out.size
          have ci := Below.cell' HB.out g2 (HK.out i hlt)
          have cd := Below.cell' HB.out u2 (HK2.out i hlt)
          by_cases hx : X i = -1
          · have hsg := sg_zero.2 hx
            rw [hsg] at ci
            have hsb : sb X i = [] := if_pos hx
            have HN2 : Hid (N = 4 + 2 * j + (sbs X (i + 1)).length) := Lib.hid (by rw [sbs_succ, hsb, List.append_nil]; exact HN.out)
            have HO2 : Hid (OwnB wr w1.heap.size a' N c' (hd4 base n ++ wbs (sg X) n j ++ sbs X (i + 1))) := Lib.hid (by rw [sbs_succ, hsb, List.append_nil]; exact HO.out)
            clear hx hsg hsb
            go_wp2_with fail
            go_roundw
            case rel => exact ⟨i + 1, N, a', c', by omega, by omega, by go_num, rfl, HN2, HO2, HB⟩
            case measure => simp [intOf] <;> omega
          · have hok := HG.out i hlt
            have hsl2 : (sbs X i).length ≤ 2 * i := sbs_len X i
            have hN3 : N ≤ 4 + 2 * j + 2 * i := by have := HN.out; omega
            rcases (show sg X i = 1 ∨ sg X i = 2 by have := hσ.out i; have h0 : sg X i ≠ 0 := fun e => hx (sg_zero.1 e); omega) with h1 | h2
            · have hd := sg_one h1
              rw [h1] at ci
              have hsb : sb X i = [stp X i] := by unfold sb; rw [if_neg hx, if_pos h1]
              obtain ⟨a5, c5, W5', r5, o5, b5⟩ := appB1 HO.out (stp X i) hd (by omega) hB5
              have HRUN := Lib.hid r5
              have HO5 : Hid (OwnB W5' w1.heap.size a5 (N + 1) c5 (hd4 base n ++ wbs (sg X) n j ++ sbs X (i + 1))) := Lib.hid (by rw [sbs_succ, hsb, ← List.append_assoc]; exact o5)
              have HN5 : Hid (N + 1 = 4 + 2 * j + (sbs X (i + 1)).length) := Lib.hid (by rw [sbs_succ, hsb, List.length_append, ← Nat.add_assoc, ← HN.out]; rfl)
              have HB5 := Lib.hid (HB.out.trans b5)
              have ci5 : W5'.cell? ⟨s, i, none⟩ = some (.int .i64 1) := by rw [← h1]; exact Below.cell' HB5.out g2 (HK.out i hlt)
              clear hsb h1 hok hsl2 r5 o5 b5
              generalize hz : stp X i = z at *
              clear hz
              go_wp2_with (at_builtin; refine wpList_of_append rfl (.tmp 138) (.tmp 144) 25 rfl _ _ _ rfl rfl HRUN.out ?_)
              go_roundw
              case rel => exact ⟨i + 1, N + 1, a5, c5, by omega, by omega, by go_num, rfl, HN5, HO5, HB5⟩
              case measure => simp [intOf] <;> omega
            · rw [h2] at ci
              have hsb : sb X i = [stp X i % 65536 / 256, stp X i % 65536 % 256] := by unfold sb; rw [if_neg hx, if_neg (by omega)]
              obtain ⟨-, -, o3, o4⟩ := hok
              obtain ⟨a5, c5, W5', r5, o5, b5⟩ := appB2 HO.out (stp X i % 65536 / 256) (stp X i % 65536 % 256) (by omega) (by omega) (by omega) hB5
              have HO5 : Hid (OwnB W5' w1.heap.size a5 (N + 2) c5 (hd4 base n ++ wbs (sg X) n j ++ sbs X (i + 1))) := Lib.hid (by rw [sbs_succ, hsb, ← List.append_assoc]; exact o5)
              have HN5 : Hid (N + 2 = 4 + 2 * j + (sbs X (i + 1)).length) := Lib.hid (by rw [sbs_succ, hsb, List.length_append, ← Nat.add_assoc, ← HN.out]; rfl)
              have HB5 := Lib.hid (HB.out.trans b5)
              obtain ⟨x, hx5⟩ : ∃ x, x = stp X i % 65536 := ⟨_, rfl⟩
              rw [← hx5] at r5
              have HRUN := Lib.hid r5
              have hx6 : (stp X i + 65536) % 65536 = x := by omega
              have hx0 : 0 ≤ x ∧ x ≤ 65535 := by omega
              clear hsb h2 hsl2 r5 o5 b5 hx5
              generalize hz : stp X i = z at *
              clear hz
              go_wp2_with (at_builtin; refine wpList_of_append rfl (.tmp 157) (.tmp 164) 25 rfl _ _ _ rfl rfl HRUN.out ?_)
              go_roundw
              case rel => exact ⟨i + 1, N + 2, a5, c5, by omega, by omega, by go_num, rfl, HN5, HO5, HB5⟩
              case measure => simp [intOf] <;> omega
        · obtain rfl : n = i := by omega
          have HN9 : Hid (N = (pks base X n j).length) := Lib.hid (by rw [pks_len]; exact HN.out)
          have HB9 : Hid (Below w.heap.size w wr) := Lib.hid (HB1.out.trans (HB.out.mono hB1))
          have HO9 : Hid (OwnB wr w.heap.size a' N c' (pks base X n j)) := Lib.hid ⟨HO.out.1.mono hB1, HO.out.2⟩
          go_wp2_with fail
          go_returns
          exact ⟨j, N, a', c', HMany.out, HN9.out, rfl, HO9.out, HB9.out⟩
end Go.Proofs.Ytihbceippcgfgaa
