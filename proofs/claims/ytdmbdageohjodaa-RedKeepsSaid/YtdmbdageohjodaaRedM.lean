/-
  Chapter 36: what is written reads back: a plain law.
-/
import Derived.Test.YtdmbdageohjodaaRedA
import Derived.Test.YtdmbdageohjodaaRedV
namespace Go.Proofs.Ytdmbdageohjodaa
open Go.RowKit
set_option linter.unusedVariables false
set_option linter.unusedSimpArgs false

theorem gz_left (A B : List Int) (i : Nat) (h : i < A.length) : gz (A ++ B) i = gz A i := by
  unfold gz; simp only [List.getD, List.getElem?_append_left h]
theorem gz_right (A B : List Int) (i : Nat) : gz (A ++ B) (A.length + i) = gz B i := by
  unfold gz; simp only [List.getD]; rw [List.getElem?_append_right (by omega), Nat.add_sub_cancel_left]
theorem HLs_get (Q : Nat → Blk) (k i j : Nat) (hi : i < k) (hj : j < 4) : gz (HLs Q k) (4 * i + j) = gz (hdL (Q i)) j := by
  induction k with
  | zero => omega
  | succ k ih =>
    rw [HLs_succ]
    rcases Nat.lt_or_ge i k with h | h
    · rw [gz_left _ _ _ (by rw [HLs_len]; omega)]; exact ih h
    · have : i = k := by omega
      subst this
      have := gz_right (HLs Q i) (hdL (Q i)) j
      rw [HLs_len] at this
      exact this
theorem DLs_len_le (Q : Nat → Blk) (k m : Nat) (h : k ≤ m) : (DLs Q k).length ≤ (DLs Q m).length := by
  induction m with
  | zero => have : k = 0 := by omega
            subst this; exact Nat.le_refl _
  | succ m ih =>
    rcases Nat.lt_or_ge k (m + 1) with h1 | h1
    · have := ih (by omega); rw [DLs_succ, List.length_append]; omega
    · have : k = m + 1 := by omega
      subst this; exact Nat.le_refl _
theorem DLs_get (Q : Nat → Blk) (k i x : Nat) (hi : i < k) (hx : x < (Q i).n) : gz (DLs Q k) ((DLs Q i).length + x) = (Q i).Z x := by
  induction k with
  | zero => omega
  | succ k ih =>
    rw [DLs_succ]
    rcases Nat.lt_or_ge i k with h | h
    · have h1 := DLs_len_le Q (i + 1) k (by omega)
      rw [DLs_succ, List.length_append, zs_len] at h1
      rw [gz_left _ _ _ (by omega)]; exact ih h
    · have : i = k := by omega
      subst this
      rw [gz_right]
      unfold gz zs
      simp [List.getD, hx]
section
variable {Q : Nat → Blk} {len : Nat}
theorem HXs_full (h : 1 ≤ len) : HXs Q len len = HLs Q (len - 1) ++ [(Q (len - 1)).t] := by unfold HXs; rw [if_pos rfl]
theorem HXs_full_len (h : 1 ≤ len) : (HXs Q len len).length = 4 * (len - 1) + 1 := by rw [HXs_full h, List.length_append, HLs_len]; rfl
theorem wrL_len (h : 1 ≤ len) : (wrL Q len).length = 4 * (len - 1) + 1 + (DLs Q len).length := by unfold wrL; rw [List.length_append, HXs_full_len h]
theorem wrL_head (h : 1 ≤ len) (i j : Nat) (hi : i < len - 1) (hj : j < 4) : gz (wrL Q len) (4 * i + j) = gz (hdL (Q i)) j := by
  unfold wrL
  rw [gz_left _ _ _ (by rw [HXs_full_len h]; omega), HXs_full h, gz_left _ _ _ (by rw [HLs_len]; omega)]
  exact HLs_get Q _ i j hi hj
theorem wrL_last (h : 1 ≤ len) : gz (wrL Q len) (4 * (len - 1)) = (Q (len - 1)).t := by
  unfold wrL
  rw [gz_left _ _ _ (by rw [HXs_full_len h]; omega), HXs_full h]
  have := gz_right (HLs Q (len - 1)) [(Q (len - 1)).t] 0
  rw [HLs_len] at this
  exact this
theorem wrL_data (h : 1 ≤ len) (i x : Nat) (hi : i < len) (hx : x < (Q i).n) : gz (wrL Q len) (4 * (len - 1) + 1 + (DLs Q i).length + x) = (Q i).Z x := by
  unfold wrL
  have := gz_right (HXs Q len len) (DLs Q len) ((DLs Q i).length + x)
  rw [HXs_full_len h, ← Nat.add_assoc] at this
  rw [this]
  exact DLs_get Q len i x hi hx
theorem back_hv (h : 1 ≤ len) (i : Nat) (hi : i < len - 1) (h0 : 0 ≤ (Q i).h) (h1 : (Q i).h ≤ 16383) (hn : (Q i).n ≤ 1023) : hv (gz (wrL Q len)) i = (Q i).h * 1024 + (Q i).n := by
  unfold hv
  rw [wrL_head h i 1 hi (by omega), wrL_head h i 2 hi (by omega), wrL_head h i 3 hi (by omega)]
  have e : hdL (Q i) = [128 + (Q i).t, hdV (Q i) / 65536, hdV (Q i) / 256 % 256, hdV (Q i) % 256] := by
    unfold hdL
    rw [hd_ref _ (by unfold hdV; omega) (by unfold hdV; omega)]
  rw [e]
  show hdV (Q i) / 65536 * 65536 + hdV (Q i) / 256 % 256 * 256 + hdV (Q i) % 256 = _
  show _ = hdV (Q i)
  have : 0 ≤ hdV (Q i) ∧ hdV (Q i) < 16777216 := by unfold hdV; omega
  omega
theorem back_hdrs (h : 1 ≤ len) (hk : ∀ i, i < len - 1 → 0 ≤ (Q i).t) (hl : (Q (len - 1)).t < 128) (N : Nat) (hN : N = (wrL Q len).length) :
    ∀ (f j : Nat), j ≤ len - 1 → len - 1 - j < f → hdrs (gz (wrL Q len)) N f j = some (len - 1) := by
  have hN' : 4 * (len - 1) + 1 ≤ N := by rw [hN, wrL_len h]; omega
  intro f
  induction f with
  | zero => intro j _ hf; omega
  | succ f ih =>
    intro j hj hf
    unfold hdrs
    rw [if_neg (by omega)]
    by_cases e : j = len - 1
    · subst e
      rw [if_pos (by rw [wrL_last h]; exact hl)]
    · have h0 := wrL_head h j 0 (Q := Q) (by omega) (by omega)
      have h1 : gz (hdL (Q j)) 0 = 128 + (Q j).t := rfl
      have h2 := hk j (by omega)
      rw [Nat.add_zero] at h0
      rw [if_neg (by rw [h0, h1]; omega), if_neg (by omega)]
      exact ih (j + 1) (by omega) (by omega)
/-- **what is written reads back** -/
theorem back_all (hw : wok Q len) {B : Nat} {w : World} (ho : ∀ i, i < len → BlkOk B w (Q i)) :
    rdE (gz (wrL Q len)) (wrL Q len).length = 0 ∧ hdrs (gz (wrL Q len)) (wrL Q len).length ((wrL Q len).length + 1) 0 = some (len - 1) ∧
    ∀ i, i < len → ∀ q, IsAt (gz (wrL Q len)) (wrL Q len).length (len - 1) i q → Eqv (Q i) q := by
  obtain ⟨h1, h9, hok, _⟩ := hw
  have ht := okTo.t hok ho
  have hmid : ∀ i, i < len - 1 → (Q i).t < 128 ∧ 0 ≤ (Q i).h ∧ (Q i).h ≤ 16383 ∧ (Q i).n ≤ 1023 := fun i hi => by
    have := hok i (by omega)
    rw [decide_eq_false (show ¬ i + 1 = len by omega)] at this
    exact (mayB_mid _ _ _).1 this
  have hlast := hok (len - 1) (by omega)
  rw [decide_eq_true (show len - 1 + 1 = len by omega)] at hlast
  have hl := (mayB_last _ _ _).1 hlast
  have hhd := back_hdrs (Q := Q) h1 (fun i hi => (ht i (by omega)).1) hl.1 _ rfl ((wrL Q len).length + 1) 0 (by omega) (by rw [wrL_len h1]; omega)
  have hs : ∀ i, i < len - 1 → hsz (gz (wrL Q len)) i = (Q i).n := fun i hi => by
    obtain ⟨_, a, b, c⟩ := hmid i hi
    unfold hsz
    rw [back_hv h1 i hi a b c]
    omega
  have hoff : ∀ k, k ≤ len - 1 → offZ (gz (wrL Q len)) (len - 1) k = 4 * (len - 1) + 1 + (DLs Q k).length := by
    intro k
    induction k with
    | zero => intro _; rfl
    | succ k ih =>
      intro hk
      show offZ _ _ k + hsz _ k = _
      rw [ih (by omega), hs k (by omega), DLs_succ, List.length_append, zs_len, Nat.add_assoc]
  have hfull : (DLs Q len).length = (DLs Q (len - 1)).length + (Q (len - 1)).n := by
    have := DLs_succ Q (len - 1)
    rw [show len - 1 + 1 = len by omega] at this
    rw [this, List.length_append, zs_len]
  have hoJ := hoff (len - 1) (Nat.le_refl _)
  refine ⟨?_, hhd, fun i hi q hq => ?_⟩
  · unfold rdE
    rw [hhd]
    simp only
    rw [if_pos (by rw [hoJ, wrL_len h1, hfull]; omega), if_neg (by omega)]
  · obtain ⟨q1, q2, q3, q4⟩ := hq
    have hlen : lenAt (gz (wrL Q len)) (wrL Q len).length (len - 1) i = (Q i).n := by
      unfold lenAt
      by_cases e : i = len - 1
      · rw [if_pos e, hoJ, wrL_len h1, hfull, e]; omega
      · rw [if_neg e, hs i (by omega)]
    rw [hlen] at q3
    refine ⟨?_, ?_, q3.symm, fun x hx => ?_⟩
    · rw [q1]
      unfold hQ
      by_cases e : i = len - 1
      · rw [if_pos e]; show _ = gz (wrL Q len) (4 * i); rw [e, wrL_last h1]
      · rw [if_neg e]
        show _ = gz (wrL Q len) (4 * i) - 128
        have h0 := wrL_head h1 i 0 (Q := Q) (by omega) (by omega)
        have h2 : gz (hdL (Q i)) 0 = 128 + (Q i).t := rfl
        rw [Nat.add_zero] at h0
        rw [h0, h2]; omega
    · rw [q2]
      unfold hQ
      by_cases e : i = len - 1
      · rw [if_pos e]; show _ = (0 : Int); rw [e]; exact hl.2
      · rw [if_neg e]
        obtain ⟨_, a, b, c⟩ := hmid i (by omega)
        show _ = hv (gz (wrL Q len)) i / 1024
        rw [back_hv h1 i (by omega) a b c]; omega
    · rw [q4 x (by rw [q3]; exact hx), hoff i (by omega)]
      exact (wrL_data h1 i x hi hx).symm
end
theorem bs_of36b {w : World} {v : Value} (h : Reads Try.prog w 5 56 v) : ∃ a n c Z, v = .slice a n c ∧ BS w.heap.size w a n c Z := by
  obtain ⟨a, len, cap, b, off, V, rfl, row⟩ := reads_slice Try.underlying56 (ts := [5]) (by kernel_rfl) (by kernel_rfl) (by decide) h
  have hx : ∀ i, i < cap → ∃ z : Int, V i 0 = .int .u8 z ∧ (Lit.int .u8 z).wf = true := fun i hi => reads_int Try.underlying5 (row.read i hi 0 _ rfl)
  obtain ⟨Z, hZ⟩ := Deep.choose_lt (n := cap) (α := Int) (p := fun i z => V i 0 = .int .u8 z ∧ (Lit.int .u8 z).wf = true) hx
  have hm := row.max
  unfold maxLen at hm
  refine ⟨a, len, cap, Z, rfl, row.le, by omega, fun i hi => bounds_u8 (hZ i (by have := row.le; omega)).2, b, off, row.addr, fun i hi => ?_⟩
  have := row.cell i (by have := row.le; omega) 0 (by decide)
  rw [(hZ i (by have := row.le; omega)).1] at this
  rw [← this]
  simp
theorem blks_ofb {w : World} {v : Value} (h : Reads Try.prog w 6 105 v) : ∃ a len cap Q, v = .slice a len cap ∧ Blks w.heap.size w a len cap Q := by
  obtain ⟨a, len, cap, b, off, V, rfl, row⟩ := reads_slice Try.underlying105 (ts := [5, 3, 56]) (by kernel_rfl) (by kernel_rfl) (by decide) h
  have hx : ∀ i, i < cap → ∃ o : Blk, (∀ j, j < 3 → V i j = o.cell j) ∧ BlkOk w.heap.size w o := fun i hi => by
    obtain ⟨t, e0, w0⟩ := reads_int Try.underlying5 (row.read i hi 0 _ rfl)
    obtain ⟨h, e1, w1⟩ := reads_int Try.underlying3 (row.read i hi 1 _ rfl)
    obtain ⟨a, n, c, Z, e2, hZ⟩ := bs_of36b (row.read i hi 2 _ rfl)
    have b0 := bounds_u8 w0
    have b1 := bounds_i64 w1
    refine ⟨⟨t, h, a, n, c, Z⟩, fun j hj => ?_, b0.1, b0.2, b1.1, b1.2, hZ⟩
    match j, hj with
    | 0, _ => exact e0
    | 1, _ => exact e1
    | 2, _ => exact e2
  obtain ⟨Q, hQ⟩ := Deep.choose_lt (n := cap) (α := Blk) (p := fun i o => (∀ j, j < 3 → V i j = o.cell j) ∧ BlkOk w.heap.size w o) hx
  have hm := row.max
  unfold maxLen at hm
  have hle := row.le
  refine ⟨a, len, cap, Q, rfl, hle, by omega, fun i hi => (hQ i (by omega)).2, b, off, row.addr, fun i hi j hj => ?_⟩
  have := row.cell i (by omega) j (by show j < 3; exact hj)
  rw [(hQ i (by omega)).1 j hj] at this
  rw [← this, show ([5, 3, 56] : List TypeId).length = 3 from rfl, Nat.add_assoc]

def greatB (Q : Nat → Blk) (len : Nat) (b : Bool) : Prop := b = false → len ≤ 40 ∧ ∀ i, i < len → (Q i).n ≤ 2000
def GPost (Q : Nat → Blk) (len : Nat) (w : World) (e : Ending) (w' : World) : Prop := ∃ b, e = .returned (.bool b) ∧ greatB Q len b ∧ w = w'
set_option maxHeartbeats 2000000 in
theorem great36_any (B : Nat) (a : Option Addr) (len c : Nat) (Q : Nat → Blk) (w : World) (h : Blks B w a len c Q) :
    Calls Try.prog 56 #[.slice a len c] w (GPost Q len w) := by
  have H := Lib.hid h
  have hle := h.le
  have hmx := h.max
  clear h
  go_enter Try.func56, Try.ntmps56
  go_wp2_with fail
  go_loop [3] (fun s3 => ∃ k : Nat, k ≤ len ∧ s3 = .int .i64 k ∧ Hid (∀ i, i < k → (Q i).n ≤ 2000)) (fun s3 => len - (intOf s3).toNat)
  case atStart => exact ⟨0, by omega, rfl, Lib.hid (fun i hi => by omega)⟩
  case round =>
    obtain ⟨k, hk, rfl, HS⟩ := hrel
    by_cases hlt : k < len
    · obtain ⟨b1, o1, hp1, hc1⟩ := H.out.mem
      obtain ⟨rfl, _⟩ := hp1 (by omega)
      have x2 := hc1 k hlt 2 (by omega)
      simp only [Blk.cell] at x2
      obtain ⟨n, hn⟩ : ∃ n, (Q k).n = n := ⟨_, rfl⟩
      have HN := Lib.hid hn
      rw [hn] at x2
      generalize (Q k).a = u1 at *
      generalize (Q k).c = u2 at *
      clear hp1 hc1 hn
      have hki : (k : Int) < len := by omega
      by_cases h2 : n ≤ 2000
      · have h2' : decide (2000 < (n : Int)) = false := by simp; omega
        go_wp2_with fail
        go_round
        case rel => exact ⟨k + 1, by omega, by go_num, Lib.hid (fun i hi => by
          rcases Nat.lt_or_ge i k with h | h
          · exact HS.out i h
          · have : i = k := by omega
            subst this; rw [HN.out]; exact h2)⟩
        case measure => simp [intOf] <;> omega
      · have h2' : decide (2000 < (n : Int)) = true := by simp; omega
        go_wp2_with fail
        go_ret
        exact ⟨true, rfl, (fun h => (by cases h)), rfl⟩
    · have : k = len := by omega
      subst this
      by_cases h4 : k ≤ 40
      · have h4' : decide (40 < (k : Int)) = false := by simp; omega
        clear hlt
        go_wp2_with fail
        go_ret
        exact ⟨false, rfl, fun _ => ⟨h4, HS.out⟩, rfl⟩
      · have h4' : decide (40 < (k : Int)) = true := by simp; omega
        clear hlt
        go_wp2_with fail
        go_ret
        exact ⟨true, rfl, (fun h => (by cases h)), rfl⟩
end Go.Proofs.Ytdmbdageohjodaa
