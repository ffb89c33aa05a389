/-
  The walks of RembLowest and RembFits.
-/
import Derived.Test.YtkemkplmhjmahaaRemS
namespace Go.Proofs.Ytkemkplmhjmahaa
open Go.RowKit
set_option linter.unusedVariables false
set_option linter.unusedSimpArgs false
attribute [local irreducible] wpStill wpQuiet

/-- costs that came in -/
theorem costs_of {w : World} {v : Value} (h : Reads Try.prog w 6 46 v) : ∃ a n cap, ∃ (A : Nat → Option Addr) (K : Nat → Nat) (C : Nat → Nat → Int) (L : Nat → Nat), v = .slice a n cap ∧ n ≤ cap ∧ cap ≤ 9223372036854775807 ∧ CS w.heap.size w a n A K C L ∧ (∀ i, n ≤ i → L i = 0) ∧ ∀ i, L i ≤ 9223372036854775807 := by
  obtain ⟨a, len, cap, b, off, V, rfl, row⟩ := reads_slice Try.underlying46 (ts := [42]) (by kernel_rfl) (by kernel_rfl) (by decide) h
  have hm := row.max
  unfold maxLen at hm
  obtain ⟨F, hF⟩ := Deep.choose_lt (α := Option Addr × Nat × Nat × (Nat → Int)) (n := cap) (p := fun i x => V i 0 = .slice x.1 x.2.1 x.2.2.1 ∧ x.2.1 ≤ 9223372036854775807 ∧ ∃ b off, (0 < x.2.1 → x.1 = some ⟨b, off, none⟩ ∧ b < w.heap.size) ∧ ∀ j, j < x.2.1 → w.cell? ⟨b, off + j, none⟩ = some (.int .u64 (x.2.2.2 j)) ∧ 0 ≤ x.2.2.2 j ∧ x.2.2.2 j ≤ 18446744073709551615) (fun i hi => by
    have hr := row.read i hi 0 _ rfl
    obtain ⟨a', l', c', b', o', V', he, row'⟩ := reads_slice Try.underlying42 (ts := [43]) (by kernel_rfl) (by kernel_rfl) (by decide) hr
    obtain ⟨Z, hZ⟩ := Deep.choose_lt (n := c') (p := fun j (x : Int) => V' j 0 = .int .u64 x ∧ (Lit.int .u64 x).wf = true) (fun j hj => reads_int Try.underlying43 (row'.read j hj 0 _ rfl))
    have hm' := row'.max
    unfold maxLen at hm'
    have hle' := row'.le
    refine ⟨(a', l', c', Z), he, by show l' ≤ _; omega, b', o', fun h0 => row'.addr (by have : 0 < l' := h0; omega), fun j hj => ?_⟩
    have hj' : j < c' := by have : j < l' := hj; omega
    have := row'.cell j hj' 0 (by decide)
    refine ⟨by simpa [(hZ j hj').1] using this, bounds_u64 (hZ j hj').2⟩)
  have hle := row.le
  refine ⟨a, len, cap, fun i => (F i).1, fun i => (F i).2.2.1, fun i k => if i < len ∧ k < (F i).2.1 then (F i).2.2.2 k else 0, fun i => if i < len then (F i).2.1 else 0, rfl, hle, hm, ⟨fun h0 => ⟨b, off, (row.addr (by omega)).1, (row.addr (by omega)).2, fun i hi => ?_⟩, fun i hi h0 => ?_, fun i k => ?_⟩, fun i hi => if_neg (by omega), fun i => ?_⟩
  · have := row.cell i (by omega) 0 (by decide)
    rw [if_pos hi]
    simpa [(hF i (by omega)).1] using this
  · rw [if_pos hi] at h0
    obtain ⟨_, _, b', o', h1, h2⟩ := hF i (by omega)
    refine ⟨b', o', (h1 h0).1, (h1 h0).2, fun j hj => ?_⟩
    rw [if_pos hi] at hj
    rw [if_pos ⟨hi, hj⟩]
    exact (h2 j hj).1
  · show 0 ≤ (if i < len ∧ k < (F i).2.1 then (F i).2.2.2 k else 0) ∧ (if i < len ∧ k < (F i).2.1 then (F i).2.2.2 k else 0) ≤ 18446744073709551615
    split
    · rename_i hc
      obtain ⟨_, _, b', o', h1, h2⟩ := hF i (by omega)
      exact (h2 k hc.2).2
    · omega
  · show (if i < len then (F i).2.1 else 0) ≤ _
    split
    · exact (hF i (by omega)).2.1
    · omega
set_option maxHeartbeats 1000000 in
theorem great25_any {w : World} {a : Option Addr} {n cap : Nat} {A : Nat → Option Addr} {K : Nat → Nat} {C : Nat → Nat → Int} {L : Nat → Nat} (h : CS w.heap.size w a n A K C L) (W : World) (hB : Below w.heap.size w W) (hcap : n ≤ cap) (hcap2 : cap ≤ 9223372036854775807) (hL : ∀ i, L i ≤ 9223372036854775807) :
    Calls Try.prog 30 #[.slice a n cap] W fun e w' => W = w' ∧ ∃ g, e = .returned (.bool g) ∧ (g = false → n ≤ 100 ∧ ∀ i, i < n → L i ≤ 30) := by
  have H := Lib.hid (h.keep hB)
  have HL := Lib.hid hL
  clear h hL
  go_enter Try.func30, Try.ntmps30
  go_wp2_with fail
  go_loopw [3] (fun si wr => ∃ (k : Nat), k ≤ n ∧ si = .int .i64 k ∧ Hid (∀ i, i < k → L i ≤ 30) ∧ wr = W) (fun si _ => n - (intOf si).toNat)
  case atStart => exact ⟨0, by omega, rfl, Lib.hid (fun i hi => by omega), rfl⟩
  case round =>
    obtain ⟨k, hk, rfl, hk3, rfl⟩ := hrel
    by_cases hlt : k < n
    · obtain ⟨b, off, rfl, hb, hc⟩ := H.out.at_ (by omega)
      have ck := hc k hlt
      have hlk := HL.out k
      clear hc
      by_cases h30 : 30 < L k
      · have e1 : decide ((30 : Int) < (L k : Int)) = true := by (simp; omega)
        go_wp2_with fail
        go_ret
        exact ⟨rfl, true, rfl, fun h => by cases h⟩
      · have e1 : decide ((30 : Int) < (L k : Int)) = false := by (simp; omega)
        have hn3 : Hid (∀ i, i < k + 1 → L i ≤ 30) := Lib.hid (fun i hi => by
          by_cases hik : i = k
          · subst hik; omega
          · exact hk3.out i (by omega))
        clear h30
        go_wp2_with fail
        go_roundw
        case rel => exact ⟨k + 1, by omega, by go_num, hn3, trivial⟩
        case measure => simp [intOf] <;> omega
    · obtain rfl : n = k := by omega
      go_wp2_with fail
      go_ret
      exact ⟨rfl, _, rfl, fun h => ⟨by simp at h; omega, hk3.out⟩⟩
/-- layers -/
def YS (w : World) (av : Option Addr) (m : Nat) (Y : Nat → Int) : Prop := 0 < m → ∃ q off, av = some ⟨q, off, none⟩ ∧ ∀ i, i < m → w.cell? ⟨q, off + i, none⟩ = some (.int .i64 (Y i))
set_option maxHeartbeats 1000000 in
theorem cost_any {w : World} {a : Option Addr} {n cap : Nat} {A : Nat → Option Addr} {K : Nat → Nat} {C : Nat → Nat → Int} {L : Nat → Nat} (h : CS w.heap.size w a n A K C L) (W : World) (hB : Below w.heap.size w W) (hcap : n ≤ cap) (av : Option Addr) (m cv : Nat) (Y : Nat → Int) (hY : YS W av m Y) (hcv : m ≤ cv) (hm : m ≤ 9223372036854775807) (hn : n ≤ 9223372036854775807) :
    Calls Try.prog 33 #[.slice a n cap, .slice av m cv] W fun e w' => e = .returned (.int .u64 (costN C L n Y m)) ∧ W = w' := by
  have H := Lib.hid (h.keep hB)
  have HY := Lib.hid hY
  clear h hY
  go_enter Try.func33, Try.ntmps33
  go_wp2_with fail
  go_loopw [5, 10] (fun sx si wr => ∃ (k : Nat) (x : Int), k ≤ m ∧ si = .int .i64 k ∧ sx = .int .u64 x ∧ Hid (x = costN C L n Y k) ∧ wr = W) (fun _ si _ => m - (intOf si).toNat)
  case atStart => exact ⟨0, 0, by omega, rfl, rfl, Lib.hid rfl, rfl⟩
  case round =>
    obtain ⟨k, x, hk, rfl, rfl, hx, rfl⟩ := hrel
    by_cases hlt : k < m
    · obtain ⟨q, off, rfl, hc⟩ := HY.out (by omega)
      have ck := hc k hlt
      clear hc
      generalize hYk : Y k = y at *
      by_cases hin : k < n
      · obtain ⟨b, off2, rfl, hb, hc⟩ := H.out.at_ (by omega)
        have c2 := hc k hin
        clear hc
        have HC := Lib.hid (costR H.out k hin y)
        have hb0 := cst_bd H.out.bd L k y
        have hbx := costN_bd H.out.bd L n Y k
        rw [← hx.out] at hbx
        have hn2 : Hid (satI x (cst C L k y) = costN C L n Y (k + 1)) := Lib.hid (by unfold costN; rw [if_pos hin, hYk, ← hx.out])
        generalize cst C L k y = z at *
        have HS := Lib.hid (satR x z wr hbx.1 hbx.2 hb0.1 hb0.2)
        clear hYk
        go_wp2_with fail
        refine HC.out.mono ?_
        rintro e w1 ⟨rfl, rfl⟩
        go_wp2_with fail
        refine HS.out.mono ?_
        rintro e w1 ⟨rfl, rfl⟩
        go_wp2_with fail
        go_roundw
        case rel => exact ⟨k + 1, _, by omega, by go_num, rfl, hn2, trivial⟩
        case measure => simp [intOf] <;> omega
      · have hn2 : Hid (x = costN C L n Y (k + 1)) := Lib.hid (by unfold costN; rw [if_neg hin]; exact hx.out)
        clear hYk
        go_wp2_with fail
        go_roundw
        case rel => exact ⟨k + 1, x, by omega, by go_num, rfl, hn2, trivial⟩
        case measure => simp [intOf] <;> omega
    · obtain rfl : m = k := by omega
      go_wp2_with fail
      go_ret
      exact ⟨ret_int hx.out, rfl⟩
/-! ### The example -/
def exC (i k : Nat) : Int := if i = 0 then (if k = 0 then 3 else if k = 1 then 8 else 0) else if i = 1 then (if k = 0 then 4 else if k = 1 then 9 else 0) else 0
def exL (i : Nat) : Nat := if i < 2 then 2 else 0
theorem exC_bd : ∀ i k, 0 ≤ exC i k ∧ exC i k ≤ 18446744073709551615 := by intro i k; unfold exC; repeat' split <;> omega
theorem fin10 : FinS exC exL 2 (sh0 10) (iterS exC exL 2 (sh0 10) 2) := ⟨⟨2, rfl⟩, by decide⟩
theorem fin12 : FinS exC exL 2 (sh0 12) (iterS exC exL 2 (sh0 12) 3) := ⟨⟨3, rfl⟩, by decide⟩
theorem out10 : (iterS exC exL 2 (sh0 10) 2).out 0 = 0 ∧ (iterS exC exL 2 (sh0 10) 2).out 1 = 0 := by decide
theorem out12 : (iterS exC exL 2 (sh0 12) 3).out 0 = 1 ∧ (iterS exC exL 2 (sh0 12) 3).out 1 = 0 := by decide
theorem CS.mono {B B' : Nat} {w : World} {a : Option Addr} {n : Nat} {A : Nat → Option Addr} {K : Nat → Nat} {C : Nat → Nat → Int} {L : Nat → Nat} (h : CS B w a n A K C L) (hb : B ≤ B') : CS B' w a n A K C L := by
  refine ⟨fun h0 => ?_, fun i hi h0 => ?_, h.bd⟩
  · obtain ⟨b, off, h1, h2, h3⟩ := h.at_ h0
    exact ⟨b, off, h1, by omega, h3⟩
  · obtain ⟨b, off, h1, h2, h3⟩ := h.row i hi h0
    exact ⟨b, off, h1, by omega, h3⟩
theorem three (w : World) (x y z : Obj) : (((w.alloc x).alloc y).alloc z).heap[w.heap.size]? = some x ∧ (((w.alloc x).alloc y).alloc z).heap[w.heap.size + 1]? = some y ∧ (((w.alloc x).alloc y).alloc z).heap[w.heap.size + 1 + 1]? = some z := by
  refine ⟨?_, ?_, ?_⟩
  · rw [heap_alloc, heap_alloc, heap_alloc, if_neg (by simp; omega), if_neg (by simp), if_pos rfl]
  · rw [heap_alloc, heap_alloc, if_neg (by simp), if_pos (by simp)]
  · rw [heap_alloc, if_pos (by simp)]
theorem exCS {W : World} {g : Nat} (h0 : W.heap[g]? = some (.cells #[.int .u64 3, .int .u64 8] 43 (0, 0))) (h1 : W.heap[g + 1]? = some (.cells #[.int .u64 4, .int .u64 9] 43 (0, 0))) (h2 : W.heap[g + 1 + 1]? = some (.cells #[.slice (some ⟨g, 0, none⟩) 2 2, .slice (some ⟨g + 1, 0, none⟩) 2 2] 42 (0, 0))) :
    CS W.heap.size W (some ⟨g + 1 + 1, 0, none⟩) 2 (fun i => some ⟨g + i, 0, none⟩) (fun _ => 2) exC exL := by
  have l2 := lt_of_block h2
  have two : ∀ i, i < 2 → i = 0 ∨ i = 1 := fun i h => by omega
  refine ⟨fun _ => ⟨_, 0, rfl, l2, fun i hi => ?_⟩, fun i hi h3 => ⟨g + i, 0, rfl, by omega, fun j hj => ?_⟩, exC_bd⟩
  · rw [cell_blk h2]
    rcases two i hi with rfl | rfl <;> rfl
  · have hj2 : j < 2 := by unfold exL at hj; rw [if_pos hi] at hj; exact hj
    rcases two i hi with rfl | rfl
    · rw [show g + 0 = g from rfl, cell_blk h0]
      rcases two j hj2 with rfl | rfl <;> rfl
    · rw [cell_blk h1]
      rcases two j hj2 with rfl | rfl <;> rfl
theorem exL_bd : ∀ i, exL i ≤ 1000 := by intro i; unfold exL; split <;> omega
theorem alive25_any (w : World) : Calls Try.prog 28 #[] w fun e w' => e = .returned (.bool true) ∧ Below w.heap.size w w' := by
  have t3 := three w (.cells #[.int .u64 3, .int .u64 8] 43) (.cells #[.int .u64 4, .int .u64 9] 43) (.cells #[.slice (some ⟨w.heap.size, 0, none⟩) 2 2, .slice (some ⟨w.heap.size + 1, 0, none⟩) 2 2] 42)
  go_enter Try.func28, Try.ntmps28
  go_wp2_with fail
  generalize hW : World.alloc _ _ = W
  rw [hW] at t3
  have B3 : Below w.heap.size w W := by rw [← hW]; exact (((Below.refl _ w).alloc (Nat.le_refl _) _).alloc (by simp) _).alloc (by simp; omega) _
  have hsz : W.heap.size = w.heap.size + 3 := by rw [← hW]; simp
  have X1 := exCS t3.1 t3.2.1 t3.2.2
  clear t3 hW
  generalize hg : w.heap.size = g at *
  refine (share_any W 10 _ 2 2 _ _ _ _ X1 exL_bd (by omega) (by omega) (by omega) (by omega)).mono ?_
  rintro e w2 ⟨av, cv, T, rfl, hF, B4, hcv, hq⟩
  obtain rfl := hF.uni fin10
  obtain ⟨q, rfl, q1, q2, q3⟩ := hq (by omega)
  have a0 := q3 0 (by omega)
  have a1 := q3 1 (by omega)
  rw [out10.1] at a0
  rw [out10.2] at a1
  clear q3 hq hF
  have X2 := (X1.keep B4).mono B4.size
  have B5 : Below g w w2 := B3.trans (B4.mono (by omega))
  go_wp2_with fail
  refine (share_any w2 12 _ 2 2 _ _ _ _ X2 exL_bd (by omega) (by omega) (by omega) (by omega)).mono ?_
  rintro e w3 ⟨av, cv', T, rfl, hF, B6, hcv', hq⟩
  obtain rfl := hF.uni fin12
  obtain ⟨q', rfl, p1, p2, q3⟩ := hq (by omega)
  have b0 := q3 0 (by omega)
  have b1 := q3 1 (by omega)
  rw [out12.1] at b0
  rw [out12.2] at b1
  have a0' := Below.cell' B6 q2 a0
  have a1' := Below.cell' B6 q2 a1
  have B7 : Below g w w3 := B5.trans (B6.mono (by have := B5.size; omega))
  clear q3 hq hF B5 B6 B4 X1 X2 a0 a1
  go_wp2_with fail
  go_ret
  exact ⟨rfl, by rw [hg]; exact B7⟩
/-! ### Lowest -/
def lowN (Z : Nat → Int) : Nat → Int
  | 0 => 18446744073709551615
  | k + 1 => if Z k < lowN Z k then Z k else lowN Z k
theorem lowN_le (Z : Nat → Int) (n : Nat) : ∀ k, k < n → lowN Z n ≤ Z k := by
  induction n with
  | zero => intro k h; omega
  | succ n ih =>
    intro k hk
    unfold lowN
    by_cases hkn : k = n
    · subst hkn; split <;> omega
    · have := ih k (by omega); split <;> omega
theorem lowN_hit (Z : Nat → Int) (n : Nat) (h : ∀ k, k < n → Z k ≤ 18446744073709551615) : (∃ k, k < n ∧ Z k = lowN Z n) ∨ lowN Z n = 18446744073709551615 := by
  induction n with
  | zero => exact .inr rfl
  | succ n ih =>
    unfold lowN
    split
    · exact .inl ⟨n, by omega, rfl⟩
    · rcases ih (fun k hk => h k (by omega)) with ⟨k, h1, h2⟩ | h2
      · exact .inl ⟨k, by omega, h2⟩
      · exact .inr h2
/-- found it? -/
def fdN (Z : Nat → Int) (x : Int) : Nat → Bool
  | 0 => false
  | k + 1 => fdN Z x k || (Z k == x)
theorem fdN_of (Z : Nat → Int) (x : Int) (n : Nat) (k : Nat) (hk : k < n) (h : Z k = x) : fdN Z x n = true := by
  induction n with
  | zero => omega
  | succ n ih =>
    unfold fdN
    by_cases hkn : k = n
    · subst hkn; simp [h]
    · rw [ih (by omega)]; rfl
theorem fd_all (Z : Nat → Int) (n : Nat) (h0 : 0 < n) (h : ∀ k, k < n → Z k ≤ 18446744073709551615) : fdN Z (lowN Z n) n = true := by
  rcases lowN_hit Z n h with ⟨k, h1, h2⟩ | h2
  · exact fdN_of Z _ n k h1 h2
  · have h3 := lowN_le Z n 0 h0
    have h4 := h 0 h0
    exact fdN_of Z _ n 0 h0 (by omega)
set_option maxHeartbeats 1000000 in
theorem lowest_any (w : World) (a : Option Addr) (n cap : Nat) (Z : Nat → Int) (hc : 0 < n → ∃ b off, a = some ⟨b, off, none⟩ ∧ ∀ i, i < n → w.cell? ⟨b, off + i, none⟩ = some (.int .u64 (Z i))) (hle : n ≤ cap) (hcap : cap ≤ 9223372036854775807) :
    Calls Try.prog 29 #[.slice a n cap] w fun e w' => e = .returned (.int .u64 (lowN Z n)) ∧ w = w' := by
  have HC := Lib.hid hc
  clear hc
  go_enter Try.func29, Try.ntmps29
  go_wp2_with fail
  go_loopw [3, 8] (fun sx si wr => ∃ (k : Nat) (x : Int), k ≤ n ∧ si = .int .i64 k ∧ sx = .int .u64 x ∧ Hid (x = lowN Z k) ∧ wr = w) (fun _ si _ => n - (intOf si).toNat)
  case atStart => exact ⟨0, _, by omega, rfl, rfl, Lib.hid rfl, rfl⟩
  case round =>
    obtain ⟨k, x, hk, rfl, rfl, hx, rfl⟩ := hrel
    by_cases hlt : k < n
    · obtain ⟨b, off, rfl, hcc⟩ := HC.out (by omega)
      have ck := hcc k hlt
      clear hcc
      have hn2 : Hid ((if Z k < x then Z k else x) = lowN Z (k + 1)) := Lib.hid (by unfold lowN; rw [← hx.out])
      rcases (show Z k < x ∨ ¬ Z k < x by omega) with hh | hh
      · rw [if_pos hh] at hn2
        go_wp2_with fail
        go_roundw
        case rel => exact ⟨k + 1, _, by omega, by go_num, by simp [hh], hn2, trivial⟩
        case measure => simp [intOf] <;> omega
      · rw [if_neg hh] at hn2
        go_wp2_with fail
        go_roundw
        case rel => exact ⟨k + 1, _, by omega, by go_num, by simp [hh], hn2, trivial⟩
        case measure => simp [intOf] <;> omega
    · obtain rfl : n = k := by omega
      go_wp2_with fail
      go_ret
      exact ⟨ret_int hx.out, rfl⟩
end Go.Proofs.Ytkemkplmhjmahaa
