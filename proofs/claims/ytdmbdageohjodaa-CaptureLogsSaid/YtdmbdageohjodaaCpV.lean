/-
  Chapter 45: a file that was written reads as its records: plain laws.
-/
import Derived.Test.YtdmbdageohjodaaCpU
namespace Go.Proofs.Ytdmbdageohjodaa
open Go.RowKit
set_option linter.unusedVariables false
set_option linter.unusedSimpArgs false

theorem numv_eq {Z Z' : Nat → Int} {s s' k : Nat} (h : ∀ i, i < k → Z (s + i) = Z' (s' + i)) : numv Z s k = numv Z' s' k := by
  induction k with
  | zero => rfl
  | succ k ih => unfold numv; rw [ih (fun i hi => h i (by omega)), h k (by omega)]
theorem dig_step (q P : Int) (hP : 0 < P) : q / 256 % P * 256 + q % 256 = q % (P * 256) := by
  have h1 := Int.emod_nonneg q (show (256 : Int) ≠ 0 by decide)
  have h2 := Int.emod_lt_of_pos q (show (0 : Int) < 256 by decide)
  have h3 : q = q % 256 + 256 * (q / 256) := (Int.emod_add_mul_ediv q 256).symm
  have h4 := Int.emod_nonneg (q / 256) (show P ≠ 0 from Int.ne_of_gt hP)
  have h5 := Int.emod_lt_of_pos (q / 256) hP
  have h6 : q / 256 = q / 256 % P + P * (q / 256 / P) := (Int.emod_add_mul_ediv (q / 256) P).symm
  generalize q / 256 / P = d at h6
  generalize q / 256 % P = r at *
  generalize q % 256 = c at *
  have h7 : q = (r * 256 + c) + (P * 256) * d := by
    rw [h3, h6, Int.mul_add, Int.mul_comm 256 r, Int.mul_right_comm P 256 d, Int.mul_comm 256 (P * d)]
    generalize P * d * 256 = y
    omega
  rw [h7, Int.add_mul_emod_self_left]
  have h8 : r * 256 + c < P * 256 := by
    have : (r + 1) * 256 ≤ P * 256 := Int.mul_le_mul_of_nonneg_right (by omega) (by omega)
    omega
  exact (Int.emod_eq_of_lt (by omega) h8).symm
/-- what is put is there -/
theorem numv_put (Z : Nat → Int) (len : Nat) (x : Int) (m : Nat) (hx0 : 0 ≤ x) : numv (putZ Z len x m) len m = x % 256 ^ m := by
  have key : ∀ k, k ≤ m → numv (putZ Z len x m) len k = x / 256 ^ (m - k) % 256 ^ k := by
    intro k
    induction k with
    | zero => intro _; simp [numv, Int.emod_one]
    | succ k ih =>
      intro hk
      rw [numv, ih (by omega)]
      have e1 : putZ Z len x m (len + k) = x / 256 ^ (m - (k + 1)) % 256 := by
        unfold putZ; rw [if_neg (by omega), Nat.add_sub_cancel_left, show m - 1 - k = m - (k + 1) by omega, Int.pow_mul]; rfl
      rw [e1]
      generalize hq : x / 256 ^ (m - (k + 1)) = q
      have e2 : x / 256 ^ (m - k) = q / 256 := by
        rw [← hq, show m - k = (m - (k + 1)) + 1 by omega, Int.pow_succ, Int.ediv_ediv_of_nonneg (Int.pow_nonneg (by omega))]
      rw [e2, Int.pow_succ]
      have hP : (0 : Int) < 256 ^ k := Int.pow_pos (by omega)
      generalize (256 : Int) ^ k = P at *
      exact dig_step q P hP
  have := key m (Nat.le_refl _)
  simpa using this

theorem gz_left {A B : List Int} {i : Nat} (h : i < A.length) : gz (A ++ B) i = gz A i := by
  unfold gz; simp only [List.getD]; rw [List.getElem?_append_left h]
theorem gz_right {A B : List Int} {i j : Nat} (h : j = A.length + i) : gz (A ++ B) j = gz B i := by
  subst h
  unfold gz; simp only [List.getD]; rw [List.getElem?_append_right (by omega), Nat.add_sub_cancel_left]
theorem gz_putL (x : Int) {m i : Nat} (h : i < m) : gz (putL x m) i = x / 2 ^ (8 * (m - 1 - i)) % 256 := by
  unfold gz putL; simp [List.getD, h]
theorem num_at {Z : Nat → Int} {s m : Nat} {x : Int} (h : ∀ i, i < m → Z (s + i) = gz (putL x m) i) (h0 : 0 ≤ x) (h1 : x < 256 ^ m) : numv Z s m = x := by
  have e : numv Z s m = numv (putZ Z s x m) s m := numv_eq (fun i hi => by
    rw [h i hi, gz_putL x hi]; unfold putZ; rw [if_neg (by omega), Nat.add_sub_cancel_left])
  rw [e, numv_put _ _ _ _ h0]
  exact Int.emod_eq_of_lt h0 h1
/-- a record's bytes at a place -/
structure RcAt (Z : Nat → Int) (p : Nat) (r : Rcd) : Prop where
  tk : numv Z p 8 = r.tk
  wy : Z (p + 8) = r.wy
  ad : numv Z (p + 9) 4 = r.ad
  pt : numv Z (p + 13) 2 = r.pt
  n : numv Z (p + 15) 2 = r.n
  dat : ∀ x, x < r.n → Z (p + 17 + x) = r.Z x
  sm : numv Z (p + 17 + r.n) 2 = smR (shZ Z p) (17 + r.n)
theorem rcAt {B : Nat} {w : World} {Z : Nat → Int} {p : Nat} {r : Rcd} (ok : RcdOk B w r) (hm : okR r) (h : ∀ x, x < 19 + r.n → Z (p + x) = gz (oneL r) x) : RcAt Z p r := by
  obtain ⟨m0, m1, m2, m3⟩ := (mayR_iff _ _ _).1 hm
  have k1 := ok.t1
  have k2 := ok.a0
  have k3 := ok.a1
  have k4 := ok.p0
  have k5 := ok.p1
  have hr : ∀ x, x < 17 + r.n → Z (p + x) = gz (recL r) x := fun x hx => by rw [h x (by omega)]; unfold oneL; exact gz_left (by rw [recL_len]; exact hx)
  have h17 : ∀ x, x < 17 → Z (p + x) = gz (midR r ++ putL r.n 2) x := fun x hx => by rw [hr x (by omega)]; unfold recL; exact gz_left (by rw [List.length_append, midR_len, putL_len]; exact hx)
  have h15 : ∀ x, x < 15 → Z (p + x) = gz (midR r) x := fun x hx => by rw [h17 x (by omega)]; exact gz_left (by rw [midR_len]; exact hx)
  have h13 : ∀ x, x < 13 → Z (p + x) = gz (hdR r ++ putL r.ad 4) x := fun x hx => by rw [h15 x (by omega)]; unfold midR; exact gz_left (by rw [List.length_append, hdR_len, putL_len]; exact hx)
  have h9 : ∀ x, x < 9 → Z (p + x) = gz (hdR r) x := fun x hx => by rw [h13 x (by omega)]; exact gz_left (by rw [hdR_len]; exact hx)
  have hsum : smR (shZ Z p) (17 + r.n) = smR (gz (recL r)) (17 + r.n) := smR_congr (fun i hi => hr i hi)
  have sb := smR_bd (gz (recL r)) (17 + r.n)
  refine ⟨num_at (fun i hi => ?_) m0 (by omega), ?_, num_at (fun i hi => ?_) k2 (by omega), num_at (fun i hi => ?_) k4 (by omega), num_at (fun i hi => ?_) (by omega) (by omega), fun x hx => ?_, ?_⟩
  · rw [h9 i (by omega)]; unfold hdR; exact gz_left (by rw [putL_len]; exact hi)
  · rw [h9 8 (by omega)]; unfold hdR; rw [gz_right (i := 0) (by rw [putL_len])]; rfl
  · rw [Nat.add_assoc, h13 (9 + i) (by omega)]; exact gz_right (by rw [hdR_len])
  · rw [Nat.add_assoc, h15 (13 + i) (by omega)]; unfold midR; exact gz_right (by rw [List.length_append, hdR_len, putL_len])
  · rw [Nat.add_assoc, h17 (15 + i) (by omega)]; exact gz_right (by rw [midR_len])
  · rw [Nat.add_assoc, hr (17 + x) (by omega)]; unfold recL
    rw [gz_right (i := x) (by rw [List.length_append, midR_len, putL_len])]
    unfold gz zs; simp [List.getD, hx]
  · rw [hsum]
    refine num_at (fun i hi => ?_) sb.1 (by omega)
    rw [show p + 17 + r.n + i = p + (17 + r.n + i) by omega, h (17 + r.n + i) (by omega)]; unfold oneL; exact gz_right (by rw [recL_len])
theorem RcAt.rcM {Z : Nat → Int} {p : Nat} {r : Rcd} (h : RcAt Z p r) : Go.Proofs.Ytdmbdageohjodaa.rcM (shZ Z p) = r.n := by
  unfold Go.Proofs.Ytdmbdageohjodaa.rcM; rw [numv_sh, h.n]; omega
theorem RcAt.is {Z : Nat → Int} {p : Nat} {r : Rcd} (h : RcAt Z p r) : IsRc Z p r := ⟨h.tk.symm, h.wy.symm, h.ad.symm, h.pt.symm, h.rcM.symm, fun x hx => (h.dat x hx).symm⟩
theorem RcAt.err {Z : Nat → Int} {n p : Nat} {r : Rcd} (h : RcAt Z p r) (hm : okR r) (hk : r.tk ≤ 9223372036854775807) (hp : p + (19 + r.n) ≤ n) : errP Z n p = 0 := by
  obtain ⟨m0, m1, m2, m3⟩ := (mayR_iff _ _ _).1 hm
  have e1 : shZ Z p 8 = r.wy := h.wy
  unfold errP oneE
  rw [h.rcM, if_neg (by omega), numv_sh, Nat.add_zero, h.tk, e1, if_neg (by omega), numv_sh, show p + (17 + r.n) = p + 17 + r.n by omega, h.sm, if_neg (by simp)]
/-! ### The file -/
theorem filL_pre (Q : Nat → Rcd) (k len : Nat) (h : k ≤ len) : (filL Q k).length ≤ (filL Q len).length ∧ ∀ i, i < (filL Q k).length → gz (filL Q len) i = gz (filL Q k) i := by
  induction len with
  | zero => have : k = 0 := by omega
            subst this; exact ⟨Nat.le_refl _, fun i _ => rfl⟩
  | succ len ih =>
    rcases Nat.lt_or_ge len k with hk | hk
    · have : k = len + 1 := by omega
      subst this; exact ⟨Nat.le_refl _, fun i _ => rfl⟩
    · obtain ⟨h1, h2⟩ := ih hk
      refine ⟨by show _ ≤ (filL Q len ++ oneL (Q len)).length; rw [List.length_append]; omega, fun i hi => ?_⟩
      rw [← h2 i hi]
      show gz (filL Q len ++ oneL (Q len)) i = _
      exact gz_left (by omega)
theorem fil_at {B : Nat} {w : World} {Q : Nat → Rcd} {len k : Nat} (ok : ∀ i, i < len → RcdOk B w (Q i)) (ha : allR Q len) (hk : k < len) : RcAt (gz (filL Q len)) (filL Q k).length (Q k) := by
  refine rcAt (ok k hk) (ha k hk) (fun x hx => ?_)
  have h1 : (filL Q (k + 1)).length = (filL Q k).length + (19 + (Q k).n) := by show (filL Q k ++ oneL (Q k)).length = _; rw [List.length_append, oneL_len]
  rw [(filL_pre Q (k + 1) len (by omega)).2 _ (by omega)]
  show gz (filL Q k ++ oneL (Q k)) _ = _
  exact gz_right rfl
theorem fil_pos {B : Nat} {w : World} {Q : Nat → Rcd} {len : Nat} (ok : ∀ i, i < len → RcdOk B w (Q i)) (ha : allR Q len) : ∀ k, k ≤ len → posP (gz (filL Q len)) 6 k = (filL Q k).length := by
  intro k
  induction k with
  | zero => intro _; rfl
  | succ k ih =>
    intro hk
    show nxtP _ (posP _ 6 k) = (filL Q k ++ oneL (Q k)).length
    rw [ih (by omega), List.length_append, oneL_len]
    unfold nxtP
    rw [(fil_at ok ha (by omega)).rcM]
theorem fil_read {B : Nat} {w : World} {Q : Nat → Rcd} {len : Nat} (ok : ∀ i, i < len → RcdOk B w (Q i)) (ha : allR Q len) : RdD (gz (filL Q len)) (filL Q len).length len 0 Q := by
  have h6 := (filL_pre Q 0 len (Nat.zero_le _))
  have h60 : (filL Q 0).length = 6 := rfl
  refine .inr (.inr ⟨by omega, ?_, ⟨fun i hi => ?_, .inl ⟨fil_pos ok ha len (Nat.le_refl _), rfl⟩⟩, fun i hi => ?_⟩)
  · unfold hdS hdB
    rw [strOf_congr (Z' := gz begL) (fun i hi => h6.2 i (by omega))]
    simp
  · rw [fil_pos ok ha i (by omega)]
    have h1 : (filL Q (i + 1)).length = (filL Q i).length + (19 + (Q i).n) := by show (filL Q i ++ oneL (Q i)).length = _; rw [List.length_append, oneL_len]
    have h2 := (filL_pre Q (i + 1) len (by omega)).1
    exact ⟨by omega, (fil_at ok ha hi).err (ha i hi) (ok i hi).t1 (by omega)⟩
  · rw [fil_pos ok ha i (by omega)]; exact (fil_at ok ha hi).is
end Go.Proofs.Ytdmbdageohjodaa
