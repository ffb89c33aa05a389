/-
  Chapter 37: what may not be packed, by the reference; chunk; ints.
-/
import Derived.Test.YtihbceippcgfgaaTpR
import Derived.Test.YtihbceippcgfgaaTpQ
namespace Go.Proofs.Ytihbceippcgfgaa
open Go.RowKit
set_option linter.unusedVariables false
set_option linter.unusedSimpArgs false
attribute [local irreducible] wpStill wpQuiet

set_option maxRecDepth 100000 in
set_option maxHeartbeats 2000000 in
theorem rpack_bad (base : Int) (w : World) (a : Option Addr) (n cap : Nat) (X : Nat → Int) (h : IRow w a n cap X) (hn : n ≤ 1000) (hw : ∀ i, i < n → -9223372036854775808 ≤ X i ∧ X i ≤ 9223372036854775807) (hno : ¬ (1 ≤ n ∧ n ≤ 400 ∧ good X n)) :
    Calls Try.prog 52 #[.int .u16 base, .slice a n cap] w fun e w' => e = .returned (.tuple #[.slice none 0 0, .bool false]) ∧ Below w.heap.size w w' := by
  have HS := Lib.hid (rsigns_any w a n cap X h (by omega) hw)
  have HNO := Lib.hid hno
  have hle := h.le
  have hmx := h.max
  clear h hw hno
  go_enter Try.func52, Try.ntmps52
  go_wp2_with fail
  refine HS.out.mono ?_
  rintro e w1 ⟨⟨hg, a1, c1, a2, c2, rfl, T⟩ | ⟨hno, rfl⟩, B1⟩
  · have HB1 := Lib.hid B1
    rcases (show n < 1 ∨ 400 < n by have := HNO.out; by_cases h1 : n < 1 <;> by_cases h2 : 400 < n <;> first | (left; assumption) | (right; assumption) | exact absurd ⟨by omega, by omega, hg⟩ this) with hn1 | hn4
    · have t1 : decide ((n : Int) < 1) = true := by simp; omega
      clear T B1 hn1
      go_wp2_with fail
      go_returns
      exact ⟨rfl, HB1.out⟩
    · have t1 : decide ((n : Int) < 1) = false := by simp; omega
      have t2 : decide (400 < (n : Int)) = true := by simp; omega
      clear T B1 hn4
      go_wp2_with fail
      go_returns
      exact ⟨rfl, HB1.out⟩
  · have HB1 := Lib.hid B1
    clear B1 hno
    go_wp2_with fail
    go_returns
    exact ⟨rfl, HB1.out⟩

/-- one more number -/
theorem appI {w : World} {B : Nat} {a : Option Addr} {N c : Nat} {L : List Int} (h : w.ownsRow B 3 1 (.slice a N c) N (vsI L)) (x : Int) (hN : N ≤ 100000) (hB : B ≤ w.heap.size) :
    ∃ a' c' W, (∀ ty, (Builtin.append_ #[90, 90] ty #[.slice a N c, .slice (some ⟨w.heap.size, 0, none⟩) 1 1]).run Try.prog (w.alloc (.cells #[.int .i64 x] 3)) = .ok (.slice a' (N + 1) c') W) ∧ W.ownsRow B 3 1 (.slice a' (N + 1) c') (N + 1) (vsI (L ++ [x])) ∧ Below B w W := by
  obtain ⟨a', c', W, A, b⟩ := app1 elI h [.int .i64 x] rfl (one_cell rfl) (by omega) (by omega) hB
  exact ⟨a', c', W, A.run, by rw [vsI_app]; exact A.own, b⟩
/-- the signs of a word -/
def chL (σ : Nat → Int) (p k : Nat) : List Int := fl (fun i => σ (p + i)) k
theorem chL_succ (σ : Nat → Int) (p k : Nat) : chL σ p (k + 1) = chL σ p k ++ [σ (p + k)] := fl_succ _ k
theorem fl_chL (σ : Nat → Int) (p k : Nat) : fl σ p ++ chL σ p k = fl σ (p + k) := by
  unfold chL fl
  rw [List.range_add, List.map_append, List.map_map]
  rfl
theorem row_dg {σ : Nat → Int} (hσ : ∀ i, 0 ≤ σ i ∧ σ i ≤ 2) {n p : Nat} (hr : ¬ isR σ n p) (i : Nat) (hi : i < 7) (x : Int) (hx : x = wd σ n p) (h0 : 0 ≤ x) (h1 : x ≤ 65535) :
    bits BinOp.and IntKind.i64 (x / 2 ^ (2 * (6 - i))) 3 = dg σ n p i := by
  obtain ⟨_, d0, d1, d2, d3, d4, d5, d6⟩ := wd_row hσ hr
  rw [← hx] at d0 d1 d2 d3 d4 d5 d6
  have : i = 0 ∨ i = 1 ∨ i = 2 ∨ i = 3 ∨ i = 4 ∨ i = 5 ∨ i = 6 := by omega
  rcases this with rfl | rfl | rfl | rfl | rfl | rfl | rfl
  · rw [← d0]; exact and3 (x / 4096) (by omega) (by omega)
  · rw [← d1]; exact and3 (x / 1024) (by omega) (by omega)
  · rw [← d2]; exact and3 (x / 256) (by omega) (by omega)
  · rw [← d3]; exact and3 (x / 64) (by omega) (by omega)
  · rw [← d4]; exact and3 (x / 16) (by omega) (by omega)
  · rw [← d5]; exact and3 (x / 4) (by omega) (by omega)
  · rw [← d6, show x / 2 ^ (2 * (6 - 6)) = x from Int.ediv_one x]; exact and3 x (by omega) (by omega)
def chN (σ : Nat → Int) (n p : Nat) : Nat := min (nx σ n p) n - p
set_option maxRecDepth 100000 in
set_option maxHeartbeats 2000000 in
theorem chunk_any (σ : Nat → Int) (hσ : ∀ i, 0 ≤ σ i ∧ σ i ≤ 2) (n p q : Nat) (hp : p < n) (hn : n ≤ 400) (hq : q = n - p) (w : World) :
    Calls Try.prog 92 #[.int .i64 (wd σ n p), .int .i64 q] w fun e w' => ∃ a c m, m = chN σ n p ∧ e = .returned (.tuple #[.slice a m c, .bool true]) ∧ w'.ownsRow w.heap.size 3 1 (.slice a m c) m (vsI (chL σ p m)) ∧ Below w.heap.size w w' := by
  have hwb := wd_bd hσ hp hn
  have hr := rl_run (σ := σ) hp
  obtain ⟨x, hx⟩ : ∃ x, x = wd σ n p := ⟨_, rfl⟩
  have HS := Lib.hid hσ
  rw [← hx] at hwb ⊢
  by_cases hR : isR σ n p
  · obtain ⟨r1, r2, r3⟩ := wd_run hσ hp hn hR
    rw [← hx] at r1 r2 r3
    have hand := and8191 x hwb.1 hwb.2
    rw [r2] at hand
    obtain ⟨r, hrr⟩ : ∃ r, r = rl σ n p := ⟨_, rfl⟩
    obtain ⟨y, hy⟩ : ∃ y, y = σ p := ⟨_, rfl⟩
    have HA : Hid (∀ i, i < r → σ (p + i) = y) := Lib.hid (fun i hi => by rw [hy]; exact hr.all i (by omega))
    have hrb : 1 ≤ r ∧ r ≤ q := by have := hr.pos; have := hr.le; omega
    have hM : Hid (r = chN σ n p) := Lib.hid (by unfold chN nx; rw [if_pos hR, ← hrr]; have := hr.le; omega)
    have hyb : 0 ≤ y ∧ y ≤ 2 := by rw [hy]; exact hσ p
    rw [← hrr] at hand
    rw [← hy] at r1
    have hqb : q ≤ 400 := by omega
    have t1 : decide (y ≤ 2) = true := by simp; omega
    have t2 : decide (1 ≤ (r : Int)) = true := by simp; omega
    have t3 : decide ((r : Int) ≤ (q : Int)) = true := by simp; omega
    rcases r3 with r4 | r4 <;> (
      clear hr hx hR hrr hy r2 hσ hq
      go_enter Try.func92, Try.ntmps92
      go_wp2_with fail
      go_loopw [6, 22] (fun so si wr => ∃ (k c : Nat) (a : Option Addr), k ≤ r ∧ si = .int .i64 k ∧ so = .slice a k c ∧ Hid (wr.ownsRow w.heap.size 3 1 (.slice a k c) k (vsI (chL σ p k))) ∧ Hid (Below w.heap.size w wr)) (fun _ si _ => r - (intOf si).toNat)
      case atStart => exact ⟨0, 0, none, by omega, rfl, rfl, Lib.hid (own_nil _ _), Lib.hid (Below.refl _ _)⟩
      case round =>
        obtain ⟨k, c, a, hk, rfl, rfl, HO, HB⟩ := hrel
        by_cases hlt : k < r
        · have hbs := HB.out.size
          obtain ⟨a5, c5, W5, r5, o5, b5⟩ := appI HO.out y (by omega) hbs
          have HRUN := Lib.hid r5
          have HO5 : Hid (W5.ownsRow w.heap.size 3 1 (.slice a5 (k + 1) c5) (k + 1) (vsI (chL σ p (k + 1)))) := Lib.hid (by rw [chL_succ, HA.out k hlt]; exact o5)
          have HB5 := Lib.hid (HB.out.trans b5)
          clear r5 o5 b5
          go_wp2_with (at_builtin; refine wpList_of_append rfl (.tmp 24) (.tmp 26) 90 rfl _ _ _ rfl rfl HRUN.out ?_)
          go_roundw
          case rel => exact ⟨k + 1, c5, a5, by omega, by go_num, rfl, HO5, HB5⟩
          case measure => simp [intOf] <;> omega
        · obtain rfl : k = r := by omega
          go_wp2_with fail
          go_returns
          exact ⟨a, c, k, hM.out, rfl, HO.out, HB.out⟩)
  · have hd := fun i hi => row_dg hσ hR i hi x hx hwb.1 hwb.2
    have HD := Lib.hid hd
    have r0 := (wd_row hσ hR).1
    rw [← hx] at r0
    have hqb : q ≤ 400 := by omega
    have HQ := Lib.hid hq
    have hM : Hid (min 7 q = chN σ n p) := Lib.hid (by unfold chN nx; rw [if_neg hR]; omega)
    clear hr hx hR hσ hq hd
    go_enter Try.func92, Try.ntmps92
    go_wp2_with fail
    go_loopw [6, 9, 43] (fun so sk si wr => ∃ (k m c : Nat) (a : Option Addr), k ≤ 7 ∧ m ≤ k ∧ si = .int .i64 k ∧ sk = .bool true ∧ so = .slice a m c ∧ Hid (m = min k q) ∧ Hid (wr.ownsRow w.heap.size 3 1 (.slice a m c) m (vsI (chL σ p m))) ∧ Hid (Below w.heap.size w wr)) (fun _ _ si _ => 7 - (intOf si).toNat)
    case atStart => exact ⟨0, 0, 0, none, by omega, by omega, rfl, rfl, rfl, Lib.hid (by omega), Lib.hid (own_nil _ _), Lib.hid (Below.refl _ _)⟩
    case round =>
      obtain ⟨k, m, c, a, hk, hmk, rfl, rfl, rfl, HM, HO, HB⟩ := hrel
      by_cases hlt : k < 7
      · have hz := HD.out k hlt
        have hb := dg_bd HS.out n p k
        by_cases hkq : k < q
        · have hbs := HB.out.size
          obtain ⟨a5, c5, W5, r5, o5, b5⟩ := appI HO.out (dg σ n p k) (by omega) hbs
          have HRUN := Lib.hid r5
          have HM5 : Hid (m + 1 = min (k + 1) q) := Lib.hid (by have := HM.out; omega)
          have HO5 : Hid (W5.ownsRow w.heap.size 3 1 (.slice a5 (m + 1) c5) (m + 1) (vsI (chL σ p (m + 1)))) := Lib.hid (by
            have e : dg σ n p k = σ (p + m) := by have := HM.out; have := HQ.out; unfold dg; rw [if_pos (by omega), show k = m by omega]
            rw [chL_succ, ← e]; exact o5)
          have HB5 := Lib.hid (HB.out.trans b5)
          clear r5 o5 b5
          generalize dg σ n p k = z at *
          have t1 : decide (z ≤ 2) = true := by simp; omega
          have t2 : decide ((k : Int) < (q : Int)) = true := by simp; omega
          go_wp2_with (at_builtin; refine wpList_of_append rfl (.tmp 69) (.tmp 71) 90 rfl _ _ _ rfl rfl HRUN.out ?_)
          go_roundw
          case rel => exact ⟨k + 1, m + 1, c5, a5, by omega, by omega, by go_num, rfl, rfl, HM5, HO5, HB5⟩
          case measure => simp [intOf] <;> omega
        · have e : dg σ n p k = 0 := by have := HQ.out; unfold dg; rw [if_neg (by omega)]
          have HM5 : Hid (m = min (k + 1) q) := Lib.hid (by have := HM.out; omega)
          rw [e] at hz
          have t2 : decide ((k : Int) < (q : Int)) = false := by simp; omega
          clear e hb
          go_wp2_with fail
          go_roundw
          case rel => exact ⟨k + 1, m, c, a, by omega, by omega, by go_num, rfl, rfl, HM5, HO, HB⟩
          case measure => simp [intOf] <;> omega
      · obtain rfl : k = 7 := by omega
        go_wp2_with fail
        go_returns
        exact ⟨a, c, m, HM.out.trans hM.out, rfl, HO.out, HB.out⟩

set_option maxRecDepth 100000 in
set_option maxHeartbeats 1000000 in
theorem ints_yes (w : World) (a b : Option Addr) (n c d : Nat) (X : Nat → Int) (h1 : IRow w a n c X) (h2 : IRow w b n d X) :
    Calls Try.prog 54 #[.slice a n c, .slice b n d] w fun e w' => e = .returned (.bool true) ∧ Below w.heap.size w w' := by
  have H1 := Lib.hid h1.at'
  have H2 := Lib.hid h2.at'
  have l1 := h1.le
  have l2 := h2.le
  have m1 := h1.max
  have m2 := h2.max
  clear h1 h2
  go_enter Try.func54, Try.ntmps54
  go_wp2_with fail
  go_loopw [5] (fun si wr => ∃ k m : Nat, k ≤ n ∧ si = .int .i64 k ∧ Hid (wr = w.drewN m)) (fun si _ => n - (intOf si).toNat)
  case atStart => exact ⟨0, 0, by omega, rfl, Lib.hid rfl⟩
  case round =>
    obtain ⟨k, m, hk, rfl, HW⟩ := hrel
    by_cases hlt : k < n
    · obtain ⟨g1, o1, rfl, _, k1⟩ := H1.out (by omega)
      obtain ⟨g2, o2, rfl, _, k2⟩ := H2.out (by omega)
      have e1 : wr.cell? ⟨g1, o1 + k, none⟩ = some (.int .i64 (X k)) := by rw [HW.out]; exact k1 k hlt
      have e2 : wr.cell? ⟨g2, o2 + k, none⟩ = some (.int .i64 (X k)) := by rw [HW.out]; exact k2 k hlt
      have HW2 : Hid (wr.drew = w.drewN (m + 1)) := Lib.hid (by rw [HW.out]; rfl)
      have t : (X k == X k) = true := by simp
      have t' : (X k != X k) = false := by simp
      clear k1 k2
      go_wp2_with fail
      refine wp_region_still_lit (by kernel_rfl) (by kernel_rfl) ?_
      iterate 9 still_step
      refine wpStill_nil ?_
      change Exit.then _ _ _ _ wr.drew
      go_wp2_with fail
      go_roundw
      case rel => exact ⟨k + 1, m + 1, by omega, by go_num, HW2⟩
      case measure => simp [intOf] <;> omega
    · obtain rfl : n = k := by omega
      go_wp2_with fail
      go_ret
      exact ⟨rfl, by rw [HW.out]; exact below_drewN0 (Below.refl _ _) _⟩
end Go.Proofs.Ytihbceippcgfgaa
