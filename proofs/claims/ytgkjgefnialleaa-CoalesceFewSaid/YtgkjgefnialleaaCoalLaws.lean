/-
  The walks of the statements of chapter 24: CoalesceNone, CoalesceFew, CoalescePlays.
-/
import Derived.Test.YtgkjgefnialleaaCoal
import Derived.Test.YtgkjgefnialleaaReads
namespace Go.Proofs.Ytgkjgefnialleaa
open Go.RowKit
set_option linter.unusedVariables false

theorem CoalesceNone.walk (t : Int) (w : World) (w0 : (Lit.int .i64 t).wf = true) :
    Calls Try.prog 8 #[.int .i64 t] w fun e w' => e = .returned (.bool true) ∧ Below w.heap.size w w' := by
  go_enter Try.func8, Try.ntmps8
  go_wp2_with (first | (go_at_call 24; refine (alive24_any _).mono ?_; rintro e w' ⟨rfl, hb⟩) | go_in)
  go_ret
  exact ⟨rfl, (hb.alloc (by have := hb.size; omega) _).alloc (by have := hb.size; simp; omega) _⟩

/-- what holds ahead of tick k -/
structure FewInv (N a b k L S : Int) (A : Bool) (c v : Int) : Prop where
  s0 : 0 ≤ S
  s1 : S ≤ k
  ll : 0 ≤ L
  l0 : 0 < S → L < k
  c0 : 0 ≤ c
  c1 : c ≤ k
  yes : A = true → 0 < S ∧ L < v ∧ v < k ∧ k - 1 - L < N
  no : A = false → v = -1
  cnt : 0 < c → 0 < S ∧ a + (c - 1) * N ≤ L ∧ a + (c - 1) * N < b
theorem few_start (N a b : Int) : FewInv N a b 0 0 0 false 0 (-1) := ⟨by omega, by omega, by omega, by omega, by omega, by omega, by simp, by simp, by omega⟩
theorem opn_iff (t N L S : Int) : opn t N L S = true ↔ S = 0 ∨ (L ≤ t ∧ N ≤ t - L) := by simp [opn]
/-- not due -/
theorem few_not {N a b k L S : Int} {c v v' : Int} {A : Bool} (h : FewInv N a b k L S A c v) (hv : (A = true ∧ v' = v) ∨ (A = false ∧ v' = k)) (ho : dueB true k N L S = false) (hN : 1 ≤ N) :
    FewInv N a b (k + 1) L S true c v' ∧ 0 ≤ v' ∧ k - v' < N := by
  have ho' : ¬ (S = 0 ∨ (L ≤ k ∧ N ≤ k - L)) := by rw [← opn_iff]; simp [dueB] at ho; simp [ho]
  obtain ⟨s0, s1, ll, l0, c0, c1, y, n, cnt⟩ := h
  have hS : 0 < S := by omega
  have hL := l0 hS
  have hk : k - L < N := by omega
  have hvL : L < v' ∧ v' ≤ k := by
    rcases hv with ⟨hA, rfl⟩ | ⟨hA, rfl⟩
    · have := y hA; omega
    · omega
  exact ⟨⟨s0, by omega, ll, fun _ => by omega, c0, by omega, fun _ => ⟨hS, hvL.1, by omega, by omega⟩, by simp, cnt⟩, by omega, by omega⟩
/-- due, and counted -/
theorem few_in {N a b k L S : Int} {c v : Int} {A : Bool} (h : FewInv N a b k L S A c v) (ho : dueB true k N L S = true) (hN : 1 ≤ N) (ha : a ≤ k) (hb : k < b) :
    FewInv N a b (k + 1) k (S + 1) false (c + 1) (-1) := by
  have ho' : S = 0 ∨ (L ≤ k ∧ N ≤ k - L) := by rw [← opn_iff]; simpa [dueB] using ho
  obtain ⟨s0, s1, ll, l0, c0, c1, y, n, cnt⟩ := h
  refine ⟨by omega, by omega, by omega, fun _ => by omega, by omega, by omega, by simp, by simp, fun _ => ⟨by omega, ?_⟩⟩
  by_cases hc : 0 < c
  · have := cnt hc
    have e : (c + 1 - 1) * N = (c - 1) * N + N := by rw [show c + 1 - 1 = (c - 1) + 1 by omega, Int.add_mul]; omega
    rw [e]
    omega
  · have : c = 0 := by omega
    subst this
    simp; omega
/-- due, and not counted -/
theorem few_out {N a b k L S : Int} {c v : Int} {A : Bool} (h : FewInv N a b k L S A c v) (ho : dueB true k N L S = true) (hN : 1 ≤ N) :
    FewInv N a b (k + 1) k (S + 1) false c (-1) := by
  have ho' : S = 0 ∨ (L ≤ k ∧ N ≤ k - L) := by rw [← opn_iff]; simpa [dueB] using ho
  obtain ⟨s0, s1, ll, l0, c0, c1, y, n, cnt⟩ := h
  refine ⟨by omega, by omega, by omega, fun _ => by omega, by omega, by omega, by simp, by simp, fun hc => ?_⟩
  have := cnt hc
  omega
theorem few_idle {N a b k L S : Int} {c v : Int} (h : FewInv N a b k L S false c v) : FewInv N a b (k + 1) L S false c v := by
  obtain ⟨s0, s1, ll, l0, c0, c1, y, n, cnt⟩ := h
  exact ⟨s0, by omega, ll, fun h => by have := l0 h; omega, c0, by omega, by simp, n, cnt⟩
theorem few_end0 {N a b k L S : Int} {c v : Int} {A : Bool} (h : FewInv N a b k L S A c v) (hN : 1 ≤ N) (hb : b ≤ a) : c = 0 := by
  obtain ⟨s0, s1, ll, l0, c0, c1, y, n, cnt⟩ := h
  by_cases hc : 0 < c
  · have := cnt hc
    have : 0 ≤ (c - 1) * N := Int.mul_nonneg (by omega) (by omega)
    omega
  · omega
theorem few_end1 {N a b k L S : Int} {c v : Int} {A : Bool} (h : FewInv N a b k L S A c v) (hN : 1 ≤ N) (hb : a < b) : c ≤ (b - a + N - 1) / N + 1 := by
  obtain ⟨s0, s1, ll, l0, c0, c1, y, n, cnt⟩ := h
  by_cases hc : 0 < c
  · have := cnt hc
    have : c - 1 ≤ (b - a + N - 1) / N := (Int.le_ediv_iff_mul_le (by omega)).2 (by omega)
    omega
  · have : 0 ≤ (b - a + N - 1) / N := Int.ediv_nonneg (by omega) (by omega)
    omega
theorem dueB_false (t N L S : Int) : dueB false t N L S = false := by simp [dueB]

set_option maxHeartbeats 2000000 in
set_option maxRecDepth 100000 in
theorem CoalesceFew.core (n0 : Int) (a : Option Addr) (len cap b off : Nat) (f : Nat → Bool) (x y : Int) (w : World) (hn : 0 ≤ n0 ∧ n0 ≤ 255) (hx : 0 ≤ x ∧ x ≤ 255) (hy : 0 ≤ y ∧ y ≤ 255)
    (ha : 0 < cap → a = some ⟨b, off, none⟩ ∧ b < w.heap.size) (hl : len ≤ cap) (hm : cap ≤ maxLen) (hc : ∀ i, i < cap → w.cell? ⟨b, off + i, none⟩ = some (.bool (f i))) :
    Calls Try.prog 6 #[.int .u8 n0, .slice a len cap, .int .u8 x, .int .u8 y] w fun e w' => e = .returned (.bool true) ∧ Below w.heap.size w w' := by
  unfold maxLen at hm
  obtain ⟨N, hN1, hN2, hN3, hN4⟩ : ∃ N : Int, max n0 1 ≤ N ∧ N ≤ max n0 1 ∧ 1 ≤ N ∧ N ≤ 255 := ⟨max n0 1, by omega, by omega, by omega, by omega⟩
  have HA := Lib.hid ha
  have HC := Lib.hid hc
  clear ha hc
  by_cases h1 : n0 < 1
  all_goals
    go_enter Try.func6, Try.ntmps6
    go_wp2_with (first | (go_at_call 24; refine (alive24_any _).mono ?_; rintro e w0 ⟨rfl, hb0⟩) | (go_at_call 25; refine (new_any _ _).mono ?_; rintro e w1 ⟨rfl, hg0, hb1⟩))
    have hg1 : gate w1 w0.heap.size N 0 0 false := by rw [show N = max n0 1 by omega]; exact hg0
    have hs0 := hb0.size
    have hB1 : Below w.heap.size w w1 := hb0.trans (hb1.mono hs0)
    clear hg0 hb1
    obtain ⟨g, hg⟩ : ∃ g, g = w0.heap.size := ⟨_, rfl⟩
    rw [← hg] at hg1
    rw [← hg]
    replace hg : w.heap.size ≤ g := by omega
    clear hb0
    go_loopw [11, 14, 15] (fun sc sv si wr => ∃ (k : Nat) (L S c v : Int) (A : Bool), k ≤ len ∧ si = .int .i64 k ∧ sc = .int .i64 c ∧ sv = .int .i64 v ∧ gate wr g N L S A ∧ Below w.heap.size w wr ∧ Hid (FewInv N x y k L S A c v) ∧ k ≤ 200) (fun _ _ si _ => len - (intOf si).toNat)
    case atStart => exact ⟨0, 0, 0, 0, -1, false, by omega, rfl, rfl, rfl, hg1, hB1, few_start N x y, by omega⟩
    case round =>
      obtain ⟨k, L, S, c, v, A, hk, rfl, rfl, rfl, hgr, hbel, hinv, hk2⟩ := hrel
      by_cases hlt : k < len ∧ k < 200
      · obtain ⟨hlt1, hlt2⟩ := hlt
        obtain ⟨rfl, hbs⟩ := HA.out (by omega)
        have hcell := Below.cell' hbel hbs (HC.out k (by omega))
        have i0 := hinv.out.s0
        have i1 := hinv.out.s1
        have i2 := hinv.out.ll
        have i3 := hinv.out.c0
        have i4 := hinv.out.c1
        cases hf : f k
        · rw [hf] at hcell
          cases A
          · obtain rfl := hinv.out.no rfl
            have hq := dueB_false k N L S
            go_wp2_with (first | (go_at_call 27; refine (due_any _ _ _ _ _ _ _ hgr (by omega) (by omega) (by omega)).mono ?_; rintro e w' ⟨rfl, hg2, hkp⟩))
            all_goals
              go_roundw
              case rel => exact ⟨k + 1, L, S, c, -1, false, by omega, by go_num, rfl, rfl, by have := hg2; simpa [dueL, dueS, dueA, hq] using this, Below.keeps hbel (by have := hbel.size; omega) hg hkp, few_idle hinv.out, by omega⟩
              case measure => simp [intOf]; omega
          · have i5 := hinv.out.yes rfl
            cases hq : dueB true k N L S
            · obtain ⟨j1, j2, j3⟩ := few_not hinv.out (v' := v) (.inl ⟨rfl, rfl⟩) hq hN3
              have J1 := Lib.hid j1
              clear j1
              go_wp2_with (first | (go_at_call 26; refine (ask_any _ _ _ _ _ _ hgr).mono ?_; rintro e w' ⟨rfl, hg1', hkp1⟩) | (go_at_call 27; refine (due_any _ _ _ _ _ _ _ (by assumption) (by omega) (by omega) (by omega)).mono ?_; rintro e w' ⟨rfl, hg2, hkp⟩))
              all_goals
                go_roundw
                case rel => exact ⟨k + 1, L, S, c, v, true, by omega, by go_num, rfl, rfl, by have := hg2; simpa [dueL, dueS, dueA, hq] using this, Below.keeps hbel (by have := hbel.size; omega) hg hkp, J1.out, by omega⟩
                case measure => simp [intOf]; omega
            · have o1 := fun h1 h2 => few_in hinv.out hq hN3 (a := x) (b := y) h1 h2
              have o2 := few_out hinv.out hq hN3 (a := x) (b := y)
              have O1 := Lib.hid o1
              have O2 := Lib.hid o2
              clear o1 o2
              by_cases hin : x ≤ k ∧ k < y
              · obtain ⟨hin1, hin2⟩ := hin
                go_wp2_with (first | (go_at_call 26; refine (ask_any _ _ _ _ _ _ hgr).mono ?_; rintro e w' ⟨rfl, hg1', hkp1⟩) | (go_at_call 27; refine (due_any _ _ _ _ _ _ _ (by assumption) (by omega) (by omega) (by omega)).mono ?_; rintro e w' ⟨rfl, hg2, hkp⟩))
                all_goals
                  go_roundw
                  case rel => exact ⟨k + 1, k, S + 1, c + 1, -1, false, by omega, by go_num, rfl, rfl, by have := hg2; simpa [dueL, dueS, dueA, hq] using this, Below.keeps hbel (by have := hbel.size; omega) hg hkp, O1.out hin1 hin2, by omega⟩
                  case measure => simp [intOf]; omega
              · go_wp2_with (first | (go_at_call 26; refine (ask_any _ _ _ _ _ _ hgr).mono ?_; rintro e w' ⟨rfl, hg1', hkp1⟩) | (go_at_call 27; refine (due_any _ _ _ _ _ _ _ (by assumption) (by omega) (by omega) (by omega)).mono ?_; rintro e w' ⟨rfl, hg2, hkp⟩))
                all_goals
                  all_goals
                    go_roundw
                    case rel => exact ⟨k + 1, k, S + 1, c, -1, false, by omega, by go_num, rfl, rfl, by have := hg2; simpa [dueL, dueS, dueA, hq] using this, Below.keeps hbel (by have := hbel.size; omega) hg hkp, O2.out, by omega⟩
                    case measure => simp [intOf]; omega

        · rw [hf] at hcell
          cases A
          · obtain rfl := hinv.out.no rfl
            cases hq : dueB true k N L S
            · obtain ⟨j1, j2, j3⟩ := few_not hinv.out (v' := k) (.inr ⟨rfl, rfl⟩) hq hN3
              have J1 := Lib.hid j1
              clear j1
              go_wp2_with (first | (go_at_call 26; refine (ask_any _ _ _ _ _ _ hgr).mono ?_; rintro e w' ⟨rfl, hg1', hkp1⟩) | (go_at_call 27; refine (due_any _ _ _ _ _ _ _ (by assumption) (by omega) (by omega) (by omega)).mono ?_; rintro e w' ⟨rfl, hg2, hkp⟩))
              all_goals
                go_roundw
                case rel => exact ⟨k + 1, L, S, c, k, true, by omega, by go_num, rfl, rfl, by have := hg2; simpa [dueL, dueS, dueA, hq] using this, Below.keeps hbel (by have := hbel.size; omega) hg (hkp1.trans hkp), J1.out, by omega⟩
                case measure => simp [intOf]; omega
            · have o1 := fun h1 h2 => few_in hinv.out hq hN3 (a := x) (b := y) h1 h2
              have o2 := few_out hinv.out hq hN3 (a := x) (b := y)
              have O1 := Lib.hid o1
              have O2 := Lib.hid o2
              clear o1 o2
              by_cases hin : x ≤ k ∧ k < y
              · obtain ⟨hin1, hin2⟩ := hin
                go_wp2_with (first | (go_at_call 26; refine (ask_any _ _ _ _ _ _ hgr).mono ?_; rintro e w' ⟨rfl, hg1', hkp1⟩) | (go_at_call 27; refine (due_any _ _ _ _ _ _ _ (by assumption) (by omega) (by omega) (by omega)).mono ?_; rintro e w' ⟨rfl, hg2, hkp⟩))
                all_goals
                  go_roundw
                  case rel => exact ⟨k + 1, k, S + 1, c + 1, -1, false, by omega, by go_num, rfl, rfl, by have := hg2; simpa [dueL, dueS, dueA, hq] using this, Below.keeps hbel (by have := hbel.size; omega) hg (hkp1.trans hkp), O1.out hin1 hin2, by omega⟩
                  case measure => simp [intOf]; omega
              · go_wp2_with (first | (go_at_call 26; refine (ask_any _ _ _ _ _ _ hgr).mono ?_; rintro e w' ⟨rfl, hg1', hkp1⟩) | (go_at_call 27; refine (due_any _ _ _ _ _ _ _ (by assumption) (by omega) (by omega) (by omega)).mono ?_; rintro e w' ⟨rfl, hg2, hkp⟩))
                all_goals
                  all_goals
                    go_roundw
                    case rel => exact ⟨k + 1, k, S + 1, c, -1, false, by omega, by go_num, rfl, rfl, by have := hg2; simpa [dueL, dueS, dueA, hq] using this, Below.keeps hbel (by have := hbel.size; omega) hg (hkp1.trans hkp), O2.out, by omega⟩
                    case measure => simp [intOf]; omega

          · have i5 := hinv.out.yes rfl
            cases hq : dueB true k N L S
            · obtain ⟨j1, j2, j3⟩ := few_not hinv.out (v' := v) (.inl ⟨rfl, rfl⟩) hq hN3
              have J1 := Lib.hid j1
              clear j1
              go_wp2_with (first | (go_at_call 26; refine (ask_any _ _ _ _ _ _ hgr).mono ?_; rintro e w' ⟨rfl, hg1', hkp1⟩) | (go_at_call 27; refine (due_any _ _ _ _ _ _ _ (by assumption) (by omega) (by omega) (by omega)).mono ?_; rintro e w' ⟨rfl, hg2, hkp⟩))
              all_goals
                go_roundw
                case rel => exact ⟨k + 1, L, S, c, v, true, by omega, by go_num, rfl, rfl, by have := hg2; simpa [dueL, dueS, dueA, hq] using this, Below.keeps hbel (by have := hbel.size; omega) hg (hkp1.trans hkp), J1.out, by omega⟩
                case measure => simp [intOf]; omega
            · have o1 := fun h1 h2 => few_in hinv.out hq hN3 (a := x) (b := y) h1 h2
              have o2 := few_out hinv.out hq hN3 (a := x) (b := y)
              have O1 := Lib.hid o1
              have O2 := Lib.hid o2
              clear o1 o2
              by_cases hin : x ≤ k ∧ k < y
              · obtain ⟨hin1, hin2⟩ := hin
                go_wp2_with (first | (go_at_call 26; refine (ask_any _ _ _ _ _ _ hgr).mono ?_; rintro e w' ⟨rfl, hg1', hkp1⟩) | (go_at_call 27; refine (due_any _ _ _ _ _ _ _ (by assumption) (by omega) (by omega) (by omega)).mono ?_; rintro e w' ⟨rfl, hg2, hkp⟩))
                all_goals
                  go_roundw
                  case rel => exact ⟨k + 1, k, S + 1, c + 1, -1, false, by omega, by go_num, rfl, rfl, by have := hg2; simpa [dueL, dueS, dueA, hq] using this, Below.keeps hbel (by have := hbel.size; omega) hg (hkp1.trans hkp), O1.out hin1 hin2, by omega⟩
                  case measure => simp [intOf]; omega
              · go_wp2_with (first | (go_at_call 26; refine (ask_any _ _ _ _ _ _ hgr).mono ?_; rintro e w' ⟨rfl, hg1', hkp1⟩) | (go_at_call 27; refine (due_any _ _ _ _ _ _ _ (by assumption) (by omega) (by omega) (by omega)).mono ?_; rintro e w' ⟨rfl, hg2, hkp⟩))
                all_goals
                  all_goals
                    go_roundw
                    case rel => exact ⟨k + 1, k, S + 1, c, -1, false, by omega, by go_num, rfl, rfl, by have := hg2; simpa [dueL, dueS, dueA, hq] using this, Below.keeps hbel (by have := hbel.size; omega) hg (hkp1.trans hkp), O2.out, by omega⟩
                    case measure => simp [intOf]; omega

      · have e0 := few_end0 hinv.out hN3
        have e1 := few_end1 hinv.out hN3
        have E0 := Lib.hid e0
        have E1 := Lib.hid e1
        have i3 := hinv.out.c0
        have i4 := hinv.out.c1
        clear e0 e1 hinv
        by_cases hxy : y ≤ x
        · obtain rfl := E0.out hxy
          go_wp2
          all_goals
            go_ret
            exact ⟨rfl, hbel⟩
        · have e1 := E1.out (by omega)
          have e2 : (y - x + N - 1) / N ≤ y - x + N - 1 := Int.ediv_le_self _ (by omega)
          have e3 : 0 ≤ (y - x + N - 1) / N := Int.ediv_nonneg (by omega) (by omega)
          have hN5 : N = n0 ∨ N = 1 ∧ n0 < 1 := by omega
          rcases hN5 with rfl | ⟨rfl, h1'⟩
          all_goals try (exfalso; omega)
          all_goals try simp only [Int.ediv_one] at e1
          all_goals
            go_wp2
            all_goals
              go_ret
              exact ⟨ret_bool (by first | rfl | (apply decide_eq_true; omega)), hbel⟩

theorem CoalesceFew.walk (n0 : Int) (v : Value) (x y : Int) (w : World) (w0 : (Lit.int .u8 n0).wf = true) (w1 : Reads Try.prog w 6 33 v) (w2 : (Lit.int .u8 x).wf = true) (w3 : (Lit.int .u8 y).wf = true) :
    Calls Try.prog 6 #[.int .u8 n0, v, .int .u8 x, .int .u8 y] w fun e w' => e = .returned (.bool true) ∧ Below w.heap.size w w' := by
  obtain ⟨a, len, cap, b, off, V, rfl, row⟩ := reads_slice Try.underlying33 (ts := [4]) (by kernel_rfl) (by kernel_rfl) (by decide) w1
  obtain ⟨f, hf⟩ := Deep.choose_lt (n := cap) (p := fun i (x : Bool) => V i 0 = .bool x) (fun i hi => reads_bool Try.underlying4 (row.read i hi 0 _ rfl))
  exact CoalesceFew.core n0 a len cap b off f x y w (bounds_u8 w0) (bounds_u8 w2) (bounds_u8 w3) row.addr row.le row.max (fun i hi => by have := row.cell i hi 0 (by decide); simpa [hf i hi] using this)
end Go.Proofs.Ytgkjgefnialleaa
