/-
  Chapter 32: a list's copy; Find.
-/
import Derived.Test.YtihbceippcgfgaaExH
namespace Go.Proofs.Ytihbceippcgfgaa
open Go.RowKit
set_option linter.unusedVariables false
set_option linter.unusedSimpArgs false
attribute [local irreducible] wpStill wpQuiet MixC.wpMix
attribute [local go_sem] MixC.rdOp MixC.rd MixC.rdUpon MixC.mvUpon

theorem eql_nilE (ad : Addr) (n c : Nat) (W : World) : (binOp BinOp.eql 22 (.slice (some ad) n c) (.slice none 0 0)).run Try.prog W = .ok (.bool false) W := by kernel_rfl
theorem eql_nilE0 (W : World) : (binOp BinOp.eql 22 (.slice none 0 0) (.slice none 0 0)).run Try.prog W = .ok (.bool true) W := by kernel_rfl
def ClE (n : Nat) (news : List Value) (w : World) (e : Ending) (w' : World) : Prop := ∃ a' c', e = .returned (.slice a' n c') ∧ w'.ownsRow w.heap.size 35 2 (.slice a' n c') n news ∧ Below w.heap.size w w'
set_option maxRecDepth 100000 in
set_option maxHeartbeats 4000000 in
theorem cloneE_some (ad : Addr) (n c : Nat) (news : List Value) (w : World) (hl : news.length = n * 2) (hc : ∀ (j : Nat) u, news[j]? = some u → w.cell? (ad.add j) = some u) (h1 : ∀ u ∈ news, u.oneCell' = true) (hn : n ≤ 10000) :
    Calls Try.prog 69 #[.slice (some ad) n c] w (ClE n news w) := by
  obtain ⟨i0, hi, hz0, hz1, hz2⟩ := info_parts infoElE
  obtain ⟨WA, hWA⟩ : ∃ WA, w.alloc (.cells #[] 35) = WA := ⟨_, rfl⟩
  have hrow : WA.ownsRow w.heap.size 35 2 (.slice (some ⟨w.heap.size, 0, none⟩) 0 0) 0 [] := by
    rw [← hWA]
    exact ⟨rfl, .inr ⟨w.heap.size, 0, #[], rfl, Nat.le_refl _, alloc_blk_new, Nat.le_refl _, by unfold maxLen; omega, rfl, rfl⟩⟩
  have BWA : Below w.heap.size w WA := by rw [← hWA]; exact (Below.refl _ _).alloc (Nat.le_refl _) _
  obtain ⟨x, y, W1, r, own, but, nb⟩ := run_app (P := Try.prog) (w := WA) (t := 22) Try.underlying22 hi hz0 hz1 hz2 rfl (by decide) hrow (some ad) n c news (fun e => by cases e) (by omega) (fun a' e j u hj => by
    cases e
    rw [BWA.cell (World.block_lt_of_cell? _ _ (hc j u hj))]
    exact hc j u hj) h1 (by unfold maxLen; omega) (by omega) BWA.size
  have R := Lib.hid r
  have O := Lib.hid own
  have B1 := Lib.hid (BWA.trans (but.below BWA.size (fun k hk => by cases hk; exact Nat.le_refl _)))
  have hE := eql_nilE
  clear r own but nb hrow BWA hl hc h1
  go_enter Try.func69, Try.ntmps69
  go_wp2_with (at_builtin; refine wpList_of_append rfl (.tmp 5) (.tmp 6) 22 rfl _ _ _ rfl rfl R.out ?_)
  go_ret
  exact ⟨x, y, rfl, by have := O.out; rw [Nat.zero_add, List.nil_append] at this; exact this, B1.out⟩
set_option maxHeartbeats 1000000 in
theorem cloneE_nil (w : World) :
    Calls Try.prog 69 #[.slice none 0 0] w (ClE 0 [] w) := by
  have hE := eql_nilE0
  go_enter Try.func69, Try.ntmps69
  go_wp2_with fail
  go_ret
  exact ⟨none, 0, rfl, World.ownsRow_nil _ _ _ _, Below.refl _ _⟩


/-- the cells of a list that lies somewhere -/
def elsV (Q : Nat → El) : Nat → List Value
  | 0 => []
  | k + 1 => elsV Q k ++ [.int .i64 (Q k).id, .slice (Q k).a (Q k).n (Q k).c]
theorem elsV_len (Q : Nat → El) (k : Nat) : (elsV Q k).length = k * 2 := by
  induction k with
  | zero => rfl
  | succ k ih => simp only [elsV, List.length_append, ih, List.length_cons, List.length_nil]; omega
theorem elsV_get (Q : Nat → El) (k i : Nat) (hi : i < k) : (elsV Q k)[i * 2]? = some (.int .i64 (Q i).id) ∧ (elsV Q k)[i * 2 + 1]? = some (.slice (Q i).a (Q i).n (Q i).c) := by
  induction k with
  | zero => omega
  | succ k ih =>
    unfold elsV
    rcases Nat.lt_or_ge i k with h | h
    · rw [List.getElem?_append_left (by rw [elsV_len]; omega), List.getElem?_append_left (by rw [elsV_len]; omega)]
      exact ih h
    · obtain rfl : i = k := by omega
      rw [List.getElem?_append_right (by rw [elsV_len]; omega), List.getElem?_append_right (by rw [elsV_len]; omega), elsV_len, show i * 2 - i * 2 = 0 by omega, show i * 2 + 1 - i * 2 = 1 by omega]
      exact ⟨rfl, rfl⟩
theorem elsV_one (Q : Nat → El) (k : Nat) : ∀ u ∈ elsV Q k, u.oneCell' = true := by
  induction k with
  | zero => intro u hu; cases hu
  | succ k ih =>
    intro u hu
    unfold elsV at hu
    rcases List.mem_append.1 hu with h | h
    · exact ih u h
    · simp only [List.mem_cons, List.not_mem_nil, or_false] at h
      rcases h with rfl | rfl <;> rfl
theorem elsV_at (Q : Nat → El) (k j : Nat) (u : Value) (h : (elsV Q k)[j]? = some u) : ∃ i, i < k ∧ ((j = i * 2 ∧ u = .int .i64 (Q i).id) ∨ (j = i * 2 + 1 ∧ u = .slice (Q i).a (Q i).n (Q i).c)) := by
  have hj : j < k * 2 := by
    rcases Nat.lt_or_ge j (k * 2) with h1 | h1
    · exact h1
    · rw [List.getElem?_eq_none (by rw [elsV_len]; exact h1)] at h; cases h
  obtain ⟨h1, h2⟩ := elsV_get Q k (j / 2) (by omega)
  refine ⟨j / 2, by omega, ?_⟩
  rcases Nat.mod_two_eq_zero_or_one j with h3 | h3
  · have e : j = j / 2 * 2 := by omega
    rw [← e, h] at h1
    cases h1
    exact .inl ⟨e, rfl⟩
  · have e : j = j / 2 * 2 + 1 := by omega
    rw [← e, h] at h2
    cases h2
    exact .inr ⟨e, rfl⟩
theorem cloneE_any (B : Nat) (a : Option Addr) (n c : Nat) (Q : Nat → El) (w : World) (h : Els B w a n c Q) (hB : B ≤ w.heap.size) (hn : n ≤ 10000) : Calls Try.prog 69 #[.slice a n c] w (ClE n (elsV Q n) w) := by
  obtain ⟨b, off, hp, hc⟩ := h.mem
  cases a with
  | none =>
    have h0 : c = 0 := by
      rcases Nat.eq_zero_or_pos c with h0 | h0
      · exact h0
      · have := (hp h0).1; cases this
    have := h.le
    obtain rfl : n = 0 := by omega
    subst h0
    exact cloneE_nil w
  | some ad =>
    refine cloneE_some ad n c (elsV Q n) w (elsV_len Q n) (fun j u hj => ?_) (elsV_one Q n) hn
    obtain ⟨i, hi, h1⟩ := elsV_at Q n j u hj
    have hle := h.le
    obtain ⟨h2, -⟩ := hp (by omega)
    cases h2
    obtain ⟨c0, c1⟩ := hc i hi
    rw [addr_add]
    rcases h1 with ⟨rfl, rfl⟩ | ⟨rfl, rfl⟩
    · exact c0
    · exact c1
/-- what the copy is -/
theorem Els.copy {B base : Nat} {w : World} {a : Option Addr} {n c : Nat} {Q : Nat → El} (ho : w.ownsRow base 35 2 (.slice a n c) n (elsV Q n)) (hq : ∀ i, i < n → ElOk B w (Q i)) (hB : B ≤ w.heap.size) : Els w.heap.size w a n c Q := by
  have hlt := ho.lt
  have hcell := fun g => ho.cells (g := g)
  obtain ⟨h3, h4⟩ := ho
  rcases h4 with ⟨hv, h0⟩ | ⟨g, cap, cur, hv, hg, hh, hn2, hcap, hsz, _⟩
  · injection hv with e1 e2 e3
    subst e1 e2 e3
    exact ⟨Nat.le_refl _, by omega, fun i hi => by omega, 0, 0, fun h => by omega, fun i hi => by omega⟩
  · injection hv with e1 e2 e3
    subst e1 e3
    refine ⟨hn2, by unfold maxLen at hcap; omega, fun i hi => (hq i hi).mono hB, g, 0, fun _ => ⟨rfl, (hlt g rfl).2⟩, fun i hi => ?_⟩
    have t0 := hcell g rfl (i * 2) _ (elsV_get Q n i hi).1
    have t1 := hcell g rfl (i * 2 + 1) _ (elsV_get Q n i hi).2
    rw [addr_add] at t0 t1
    exact ⟨t0, t1⟩
def FindP (Q : Nat → El) (len : Nat) (id : Int) (w : World) (e : Ending) (w' : World) : Prop :=
  Below w.heap.size w w' ∧ ((∃ k a n c, k < len ∧ (Q k).id = id ∧ (∀ j, j < k → (Q j).id ≠ id) ∧ e = .returned (.tuple #[.slice a n c, .bool true]) ∧ n = (Q k).n ∧ w'.ownsRow w.heap.size 5 1 (.slice a n c) n (bytesOf (Q k).Z n)) ∨ (e = .returned (.tuple #[.slice none 0 0, .bool false]) ∧ ∀ j, j < len → (Q j).id ≠ id))
set_option maxRecDepth 100000 in
set_option maxHeartbeats 2000000 in
theorem find32_any (B : Nat) (a : Option Addr) (len c : Nat) (Q : Nat → El) (id : Int) (w : World) (h : Els B w a len c Q) (hB : B ≤ w.heap.size) (hn : len ≤ 10000) (hq : ∀ i, i < len → (Q i).n ≤ 100000) : Calls Try.prog 22 #[.slice a len c, .int .i64 id] w (FindP Q len id w) := by
  have H := Lib.hid h
  have HN := Lib.hid hq
  have hcm := h.max
  have hcl := h.le
  clear h hq
  go_enter Try.func22, Try.ntmps22
  go_wp2_with fail
  refine (at32_any B a len c Q id w H.out hB (by omega)).mono ?_
  rintro e w1 ⟨r, rfl, hr, b1⟩
  have B1 := Lib.hid b1
  clear b1
  rcases hr with ⟨k, hk, rfl, hid, hbef⟩ | ⟨rfl, hno⟩
  · have HI := Lib.hid hid
    have HF := Lib.hid hbef
    obtain ⟨b, off, hp, hc⟩ := (H.out.keep (B1.out.mono hB)).mem
    obtain ⟨rfl, hb⟩ := hp (by omega)
    obtain ⟨c0, c1⟩ := hc k hk
    have c2 : w1.cell? ⟨b, off + (k * 2 + 1), none⟩ = some (.slice (Q k).a (Q k).n (Q k).c) := c1
    have hki : (k : Int) < len := by omega
    clear hp hc hid hbef
    go_wp2_with fail
    refine (clone_any B (Q k).a (Q k).n (Q k).c (Q k).Z w1 ((H.out.ok k hk).z.keep (B1.out.mono hB)) (Nat.le_trans hB B1.out.size) (HN.out k hk)).mono ?_
    rintro e w2 ⟨a2, c2', rfl, ho, b2⟩
    have HO := Lib.hid (World.ownsRow.mono ho B1.out.size)
    have B2 := Lib.hid (B1.out.trans (b2.mono B1.out.size))
    clear ho b2 c0 c1 c2
    go_wp2_with fail
    refine bodyPost_ret (by simp [results, Try.results22, go_sem]; try rfl) rfl ?_
    exact ⟨B2.out, .inl ⟨k, a2, (Q k).n, c2', hk, HI.out, HF.out, rfl, rfl, HO.out⟩⟩
  · have HF := Lib.hid hno
    clear hno
    go_wp2_with fail
    refine bodyPost_ret (by simp [results, Try.results22, go_sem]; try rfl) rfl ?_
    exact ⟨B1.out, .inr ⟨rfl, HF.out⟩⟩
end Go.Proofs.Ytihbceippcgfgaa
