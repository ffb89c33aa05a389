/-
  Chapter 32: what is written is read (plain), and the law ExtsWrite.
-/
import Derived.Test.YtihbceippcgfgaaExF
import Derived.Test.YtihbceippcgfgaaExC
namespace Go.Proofs.Ytihbceippcgfgaa
open Go.RowKit
set_option linter.unusedVariables false
set_option linter.unusedSimpArgs false
attribute [local irreducible] wpStill wpQuiet MixC.wpMix
attribute [local go_sem] MixC.rdOp MixC.rd MixC.rdUpon MixC.mvUpon

def kyE (Q : Nat → El) (i : Nat) : Int × Nat × Nat := ((Q i).id, (wrE Q i).length + 1, (Q i).n)
def kysE (Q : Nat → El) : Nat → Nat → List (Int × Nat × Nat)
  | _, 0 => []
  | k, m + 1 => kyE Q k :: kysE Q (k + 1) m
theorem kysE_len (Q : Nat → El) (m : Nat) : ∀ k, (kysE Q k m).length = m := by
  induction m with
  | zero => intro k; rfl
  | succ m ih => intro k; simp [kysE, ih]
theorem kysE_get (Q : Nat → El) (m : Nat) : ∀ k i, i < m → (kysE Q k m)[i]? = some (kyE Q (k + i)) := by
  induction m with
  | zero => intro k i hi; omega
  | succ m ih =>
    intro k i hi
    cases i with
    | zero => rfl
    | succ i =>
      have := ih (k + 1) i (by omega)
      rw [show k + (i + 1) = k + 1 + i by omega]
      simpa [kysE] using this
theorem prs_zero (Z : Nat → Int) (n : Nat) : ∀ m p, n - p ≤ m → (∀ i, p ≤ i → i < n → Z i = 0) → prs Z n p = ([], true) := by
  intro m
  induction m with
  | zero => intro p hp _; rw [prs, dif_neg (by omega)]
  | succ m ih =>
    intro p hp hz
    by_cases h : p < n
    · rw [prs, dif_pos h, if_pos (hz p (Nat.le_refl _) h)]
      exact ih (p + 1) (by omega) (fun i h1 h2 => hz i (by omega) h2)
    · rw [prs, dif_neg h]
theorem wrE_le (Q : Nat → El) {k len : Nat} (h : k ≤ len) : ∃ M, wrE Q len = wrE Q k ++ M := by
  induction len with
  | zero => obtain rfl : k = 0 := by omega
            exact ⟨[], by simp⟩
  | succ len ih =>
    rcases Nat.lt_or_ge len k with h1 | h1
    · obtain rfl : k = len + 1 := by omega
      exact ⟨[], by simp⟩
    · obtain ⟨M, hM⟩ := ih h1
      exact ⟨M ++ elL (Q len), by rw [wrE_succ, hM, List.append_assoc]⟩
theorem gz_left {A C : List Int} {i : Nat} (h : i < A.length) : gz (A ++ C) i = gz A i := by
  unfold gz; rw [List.getD_eq_getElem?_getD, List.getD_eq_getElem?_getD, List.getElem?_append_left h]
theorem gz_right {A C : List Int} (i : Nat) : gz (A ++ C) (A.length + i) = gz C i := by
  unfold gz; rw [List.getD_eq_getElem?_getD, List.getD_eq_getElem?_getD, List.getElem?_append_right (by omega)]; congr 2; omega
/-- where an element lies -/
theorem fil_at (Q : Nat → El) {k len : Nat} (h : k < len) : ∃ C, filL (wrE Q len) = wrE Q k ++ (elL (Q k) ++ C) ∧ (wrE Q k).length + (Q k).n + 1 ≤ (filL (wrE Q len)).length := by
  obtain ⟨M, hM⟩ := wrE_le Q (show k + 1 ≤ len by omega)
  refine ⟨M ++ List.replicate (padN (wrE Q len).length 4) 0, ?_, ?_⟩
  · unfold filL
    rw [hM, wrE_succ]
    simp only [List.append_assoc]
  · unfold filL
    rw [List.length_append, hM, wrE_succ, List.length_append, List.length_append, elL_len]
    omega
theorem fil_head (Q : Nat → El) {k len : Nat} (h : k < len) : gz (filL (wrE Q len)) (wrE Q k).length = 16 * (Q k).id + (Q k).n - 1 := by
  obtain ⟨C, hC, _⟩ := fil_at Q h
  rw [hC]
  have := gz_right (A := wrE Q k) (C := elL (Q k) ++ C) 0
  rw [Nat.add_zero] at this
  rw [this]
  rfl
theorem fil_byte (Q : Nat → El) {k len j : Nat} (h : k < len) (hj : j < (Q k).n) : gz (filL (wrE Q len)) ((wrE Q k).length + 1 + j) = (Q k).Z j := by
  obtain ⟨C, hC, _⟩ := fil_at Q h
  rw [hC, Nat.add_assoc, gz_right]
  rw [gz_left (by rw [elL_len]; omega)]
  unfold elL
  show gz ([16 * (Q k).id + (Q k).n - 1] ++ zs (Q k).Z (Q k).n) (1 + j) = _
  have := gz_right (A := [16 * (Q k).id + (Q k).n - 1]) (C := zs (Q k).Z (Q k).n) j
  rw [List.length_singleton] at this
  rw [this]
  unfold gz zs
  simp [hj]
theorem prs_from (Q : Nat → El) {len : Nat} (hm : mayAll Q len) : ∀ m k, k + m = len → prs (gz (filL (wrE Q len))) (filL (wrE Q len)).length (wrE Q k).length = (kysE Q k m, true) := by
  intro m
  induction m with
  | zero =>
    intro k hk
    obtain rfl : k = len := by omega
    refine prs_zero _ _ _ _ (Nat.le_refl _) (fun i h1 h2 => ?_)
    unfold filL
    obtain ⟨q, rfl⟩ : ∃ q, i = (wrE Q k).length + q := ⟨i - (wrE Q k).length, by omega⟩
    rw [gz_right]
    unfold gz
    rw [List.getD_eq_getElem?_getD, List.getElem?_replicate]
    split <;> rfl
  | succ m ih =>
    intro k hk
    have hkl : k < len := by omega
    obtain ⟨m1, m2, m3, m4⟩ := (mayE_iff _ _).1 (hm k hkl)
    obtain ⟨C, -, hle⟩ := fil_at Q hkl
    have hh := fil_head Q hkl
    have hn : lenP (gz (filL (wrE Q len))) (wrE Q k).length = (Q k).n := by
      unfold lenP; rw [hh]; omega
    have hid : (16 * (Q k).id + (Q k).n - 1) / 16 = (Q k).id := by omega
    have hnx : (wrE Q k).length + 1 + (Q k).n = (wrE Q (k + 1)).length := by rw [wrE_succ, List.length_append, elL_len]; omega
    rw [prs, dif_pos (by omega), hn, hh, hid, if_neg (by omega), if_neg (by omega), if_neg (by omega), if_neg (by omega), hnx, ih (k + 1) (by omega)]
    rfl
theorem prs_fil (Q : Nat → El) {len : Nat} (hm : mayAll Q len) : prs (gz (filL (wrE Q len))) (filL (wrE Q len)).length 0 = (kysE Q 0 len, true) := prs_from Q hm len 0 (by omega)
/-- what is read is what was written -/
theorem read_back (Q : Nat → El) {len : Nat} (hm : mayAll Q len) {l : List ElE} (hl : prs (gz (filL (wrE Q len))) (filL (wrE Q len)).length 0 = (l.map ElE.key, true)) (hz : ∀ x ∈ l, x.e.Z = fun i => gz (filL (wrE Q len)) (x.st + i)) :
    l.length = len ∧ ∀ i (hi : i < l.length), EqvE (Q i) (l[i]).e := by
  rw [prs_fil Q hm] at hl
  have h1 : kysE Q 0 len = l.map ElE.key := congrArg (fun q => q.1) hl
  have h2 : l.length = len := by have := congrArg List.length h1; rw [kysE_len, List.length_map] at this; exact this.symm
  refine ⟨h2, fun i hi => ?_⟩
  have h3 := kysE_get Q len 0 i (by omega)
  rw [h1, Nat.zero_add, List.getElem?_map, List.getElem?_eq_getElem hi] at h3
  have h4 : (l[i]).key = kyE Q i := by simpa using h3
  have h5 := hz _ (List.getElem_mem hi)
  generalize l[i] = x at h4 h5 ⊢
  obtain ⟨⟨xi, xa, xn, xc, xZ⟩, st, xo⟩ := x
  simp only [ElE.key, kyE, Prod.mk.injEq] at h4
  obtain ⟨e1, e2, e3⟩ := h4
  simp only at h5
  refine ⟨e1.symm, e3.symm, fun j hj => ?_⟩
  show (Q i).Z j = xZ j
  rw [h5, e2]
  exact (fil_byte Q (by omega) hj).symm
set_option maxRecDepth 100000 in
set_option maxHeartbeats 800000 in
theorem ExtsWrite.walk (v : Value) (w : World) (r : Reads Try.prog w 6 22 v) : Calls Try.prog 3 #[v] w fun e w' => e = .returned (.bool true) ∧ Below w.heap.size w w' := by
  obtain ⟨a, len, cap, Q, rfl, hb⟩ := els_of r
  have HB := Lib.hid hb
  have hle := hb.le
  have hmx := hb.max
  clear hb r
  go_enter Try.func3, Try.ntmps3
  go_wp2_with fail
  refine (alive32_any w).mono ?_
  rintro e w1 ⟨rfl, b1⟩
  have B1 := Lib.hid b1
  clear b1
  go_wp2_with fail
  refine (great32_any w.heap.size a len cap Q w1 (HB.out.keep B1.out) B1.out.size).mono ?_
  rintro e w2 ⟨g, rfl, b2, hg⟩
  have B2 := Lib.hid (B1.out.trans (b2.mono B1.out.size))
  clear b2
  cases g with
  | true =>
    go_wp2_with fail
    go_ret
    exact ⟨rfl, B2.out⟩
  | false =>
    obtain ⟨h200, -⟩ := hg rfl
    clear hg
    go_wp2_with fail
    refine (write32_any a len cap Q w2 ((HB.out.keep B2.out).mono B2.out.size) h200).mono ?_
    rintro e w3 ⟨b3, h3⟩
    have B3 := Lib.hid (B2.out.trans (b3.mono B2.out.size))
    have H3 : Hid (Els w3.heap.size w3 a len cap Q) := Lib.hid ((HB.out.keep B3.out).mono B3.out.size)
    have HP := Lib.hid b3
    clear b3
    rcases h3 with ⟨hok, a1, n1, c1, rfl, l1⟩ | ⟨hno, a1, n1, c1, rfl, hz⟩
    · have HOK := Lib.hid hok
      have HL1 := Lib.hid l1
      clear hok l1
      go_wp2_with fail
      refine (rwrite32_any a len cap Q w3 H3.out h200).mono ?_
      rintro e w4 ⟨b4, ⟨-, a2, n2, c2, rfl, l2⟩ | ⟨hno, -⟩⟩
      · have B4 := Lib.hid (B3.out.trans (b4.mono B3.out.size))
        have HB4 := Lib.hid b4
        have HL2 := Lib.hid l2
        obtain rfl : n1 = n2 := HL1.out.1.trans l2.1.symm
        have hn8 : n1 ≤ 80000 := by have := HL1.out.1; have := HOK.out.2; omega
        clear b4 l2
        go_wp2_with fail
        have hbs := (HL1.out.keep HB4.out).2
        have hc := read32_any w4.heap.size a1 n1 c1 (gz (filL (wrE Q len))) w4 hbs (Nat.le_refl _) hn8
        refine hc.mono ?_
        rintro e w5 ⟨v, E, rfl, b5, h5⟩
        obtain ⟨rfl, l, hl, hr, hz⟩ : E = 0 ∧ ∃ l : List ElE, prs (gz (filL (wrE Q len))) n1 0 = (l.map ElE.key, true) ∧ EList l w4.heap.size v w5 ∧ ∀ x ∈ l, x.e.Z = fun i => gz (filL (wrE Q len)) (x.st + i) := by
          rcases h5 with h | ⟨_, _, h⟩
          · exact h
          · rw [HL1.out.1, prs_fil Q HOK.out.1] at h; cases h
        rw [HL1.out.1] at hl
        obtain ⟨hll, heq⟩ := read_back Q HOK.out.1 hl hz
        obtain ⟨va, vc, rfl⟩ := hr.sl
        have B5 := Lib.hid (B4.out.trans (b5.mono B4.out.size))
        have hokq : ∀ i (hi : i < l.length), OkE (l[i]).e := fun i hi => by
          obtain ⟨e1, e2, e3⟩ := heq i hi
          have q := HB.out.ok i (by omega)
          obtain ⟨m1, m2, m3, m4⟩ := (mayE_iff _ _).1 (HOK.out.1 i (by omega))
          exact ⟨by rw [← e1]; exact q.i0, by rw [← e1]; exact q.i1, by rw [← e2]; omega, fun j hj => by rw [← e2] at hj; rw [← e3 j hj]; exact q.z.bd j hj⟩
        obtain ⟨-, hels⟩ := hr.els hokq
        have HE5 : Hid (Els w5.heap.size w5 va len vc (lE l)) := Lib.hid (by rw [hll] at hels; exact hels)
        have HEQ : Hid (∀ i, i < len → EqvE (Q i) (lE l i)) := Lib.hid (fun i hi => by rw [lE_get l i (by omega)]; exact heq i (by omega))
        have H5 : Hid (Els w5.heap.size w5 a len cap Q) := Lib.hid ((HB.out.keep B5.out).mono B5.out.size)
        have s1 : (convert 25 9 (.slice a1 n1 c1)).run Try.prog w5 = .ok (.string (strOf (gz (filL (wrE Q len))) n1)) w5 := run_conv_BS (HL1.out.keep (HB4.out.trans (b5.mono HB4.out.size))).2 Try.underlying25 Try.underlying5 Try.underlying9
        have s2 : (convert 25 9 (.slice a2 n1 c2)).run Try.prog w5 = .ok (.string (strOf (gz (filL (wrE Q len))) n1)) w5 := by
          exact run_conv_BS (HL2.out.keep b5).2 Try.underlying25 Try.underlying5 Try.underlying9
        rw [hll]
        clear h5 hl hz hr heq hokq hels b5 hll
        go_wp2_with fail
        clear s1 s2
        refine (rsame32_true w5.heap.size a va len cap vc Q (lE l) w5 H5.out HE5.out (Nat.le_refl _) (by omega) HEQ.out).mono ?_
        rintro e w6 ⟨rfl, b6⟩
        have B6 := Lib.hid (B5.out.trans (b6.mono B5.out.size))
        clear b6
        go_wp2_with fail
        go_ret
        exact ⟨rfl, B6.out⟩
      · exact absurd HOK.out hno
    · obtain rfl := hz rfl
      have HNO := Lib.hid hno
      clear hno hz
      go_wp2_with fail
      refine (rwrite32_any a len cap Q w3 H3.out h200).mono ?_
      rintro e w4 ⟨b4, ⟨hok, -⟩ | ⟨-, a2, n2, c2, rfl, -⟩⟩
      · exact absurd hok HNO.out
      · have B4 := Lib.hid (B3.out.trans (b4.mono B3.out.size))
        clear b4
        go_wp2_with fail
        go_ret
        exact ⟨rfl, B4.out⟩
end Go.Proofs.Ytihbceippcgfgaa
