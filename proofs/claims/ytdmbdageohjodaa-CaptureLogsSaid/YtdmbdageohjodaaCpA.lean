/-
  Chapter 45: records; which may be; sums of bytes.
-/
import Derived.Test.YtdmbdageohjodaaU8
namespace Go.Proofs.Ytdmbdageohjodaa
open Go.RowKit
set_option linter.unusedVariables false
set_option linter.unusedSimpArgs false
attribute [local irreducible] wpStill wpQuiet

structure Rcd where
  tk : Int
  wy : Int
  ad : Int
  pt : Int
  a : Option Addr
  n : Nat
  c : Nat
  Z : Nat → Int
instance : Inhabited Rcd := ⟨⟨0, 0, 0, 0, none, 0, 0, fun _ => 0⟩⟩
def Rcd.cell (r : Rcd) : Nat → Value
  | 0 => .int .i64 r.tk
  | 1 => .int .i64 r.wy
  | 2 => .int .u32 r.ad
  | 3 => .int .u16 r.pt
  | _ => .slice r.a r.n r.c
def Rcd.agg (r : Rcd) : Value := .agg #[.int .i64 r.tk, .int .i64 r.wy, .int .u32 r.ad, .int .u16 r.pt, .slice r.a r.n r.c]
structure RcdOk (B : Nat) (w : World) (r : Rcd) : Prop where
  t0 : -9223372036854775808 ≤ r.tk
  t1 : r.tk ≤ 9223372036854775807
  w0 : -9223372036854775808 ≤ r.wy
  w1 : r.wy ≤ 9223372036854775807
  a0 : 0 ≤ r.ad
  a1 : r.ad ≤ 4294967295
  p0 : 0 ≤ r.pt
  p1 : r.pt ≤ 65535
  z : BS B w r.a r.n r.c r.Z
theorem RcdOk.keep {B : Nat} {w w' : World} {r : Rcd} (h : RcdOk B w r) (hb : Below B w w') : RcdOk B w' r := ⟨h.t0, h.t1, h.w0, h.w1, h.a0, h.a1, h.p0, h.p1, h.z.keep hb⟩
theorem RcdOk.mono {B B' : Nat} {w : World} {r : Rcd} (h : RcdOk B w r) (hb : B ≤ B') : RcdOk B' w r := ⟨h.t0, h.t1, h.w0, h.w1, h.a0, h.a1, h.p0, h.p1, h.z.mono hb⟩
/-- a slice of records -/
structure Rcds (B : Nat) (w : World) (ad : Option Addr) (len cap : Nat) (Q : Nat → Rcd) : Prop where
  le : len ≤ cap
  max : cap ≤ 9223372036854775807
  ok : ∀ i, i < len → RcdOk B w (Q i)
  mem : ∃ b off, (0 < cap → ad = some ⟨b, off, none⟩ ∧ b < B) ∧ ∀ i, i < len → ∀ j, j < 5 → w.cell? ⟨b, off + i * 5 + j, none⟩ = some ((Q i).cell j)
theorem Rcds.keep {B : Nat} {w w' : World} {ad : Option Addr} {len cap : Nat} {Q : Nat → Rcd} (h : Rcds B w ad len cap Q) (hb : Below B w w') : Rcds B w' ad len cap Q := by
  obtain ⟨h1, h2, h3, b, off, h4, h5⟩ := h
  refine ⟨h1, h2, fun i hi => (h3 i hi).keep hb, b, off, h4, fun i hi j hj => ?_⟩
  rw [hb.cell (p := ⟨b, off + i * 5 + j, none⟩) (h4 (by omega)).2]
  exact h5 i hi j hj
theorem Rcds.mono {B B' : Nat} {w : World} {ad : Option Addr} {len cap : Nat} {Q : Nat → Rcd} (h : Rcds B w ad len cap Q) (hB : B ≤ B') : Rcds B' w ad len cap Q := by
  obtain ⟨h1, h2, h3, b, off, h4, h5⟩ := h
  exact ⟨h1, h2, fun i hi => (h3 i hi).mono hB, b, off, fun h => ⟨(h4 h).1, by have := (h4 h).2; omega⟩, h5⟩
theorem rcds_of {w : World} {v : Value} (h : Reads Try.prog w 6 54 v) : ∃ a len cap Q, v = .slice a len cap ∧ Rcds w.heap.size w a len cap Q := by
  obtain ⟨a, len, cap, b, off, V, rfl, row⟩ := reads_slice Try.underlying54 (ts := [2, 3, 44, 33, 56]) (by kernel_rfl) (by kernel_rfl) (by decide) h
  have hx : ∀ i, i < cap → ∃ o : Rcd, (∀ j, j < 5 → V i j = o.cell j) ∧ RcdOk w.heap.size w o := fun i hi => by
    obtain ⟨tk, e0, w0⟩ := reads_int Try.underlying2 (row.read i hi 0 _ rfl)
    obtain ⟨wy, e1, w1⟩ := reads_int Try.underlying3 (row.read i hi 1 _ rfl)
    obtain ⟨ad, e2, w2⟩ := reads_int Try.underlying44 (row.read i hi 2 _ rfl)
    obtain ⟨pt, e3, w3⟩ := reads_int Try.underlying33 (row.read i hi 3 _ rfl)
    obtain ⟨a, n, c, Z, e4, hZ⟩ := bs_of36b (row.read i hi 4 _ rfl)
    have b0 := bounds_i64 w0
    have b1 := bounds_i64 w1
    have b2 := bounds_u32 w2
    have b3 := bounds_u16 w3
    refine ⟨⟨tk, wy, ad, pt, a, n, c, Z⟩, fun j hj => ?_, b0.1, b0.2, b1.1, b1.2, b2.1, b2.2, b3.1, b3.2, hZ⟩
    match j, hj with
    | 0, _ => exact e0
    | 1, _ => exact e1
    | 2, _ => exact e2
    | 3, _ => exact e3
    | 4, _ => exact e4
  obtain ⟨Q, hQ⟩ := Deep.choose_lt (n := cap) (α := Rcd) (p := fun i o => (∀ j, j < 5 → V i j = o.cell j) ∧ RcdOk w.heap.size w o) hx
  have hm := row.max
  unfold maxLen at hm
  have hle := row.le
  refine ⟨a, len, cap, Q, rfl, hle, by omega, fun i hi => (hQ i (by omega)).2, b, off, row.addr, fun i hi j hj => ?_⟩
  have := row.cell i (by omega) j (by show j < 5; exact hj)
  rw [(hQ i (by omega)).1 j hj] at this
  rw [← this, show ([2, 3, 44, 33, 56] : List TypeId).length = 5 from rfl, Nat.add_assoc]

/-! ### May a record be? -/
def mayR (tk wy : Int) (n : Nat) : Bool := decide (0 ≤ tk ∧ 0 ≤ wy ∧ wy < 2 ∧ n ≤ 1200)
theorem mayR_iff (tk wy : Int) (n : Nat) : mayR tk wy n = true ↔ 0 ≤ tk ∧ 0 ≤ wy ∧ wy < 2 ∧ n ≤ 1200 := by simp [mayR]
set_option maxHeartbeats 2000000 in
theorem may45_any (tk wy ad pt : Int) (a : Option Addr) (n c : Nat) (w : World) :
    Calls Try.prog 69 #[.agg #[.int .i64 tk, .int .i64 wy, .int .u32 ad, .int .u16 pt, .slice a n c]] w fun e w' => e = .returned (.bool (mayR tk wy n)) ∧ Below w.heap.size w w' := by
  obtain ⟨b, hb⟩ : ∃ b, mayR tk wy n = b := ⟨_, rfl⟩
  rw [hb]
  by_cases h1 : 0 ≤ tk
  · have h1' : decide (0 ≤ tk) = true := by simpa using h1
    by_cases h2 : 0 ≤ wy
    · have h2' : decide (0 ≤ wy) = true := by simpa using h2
      by_cases h3 : wy < 2
      · have h3' : decide (wy < 2) = true := by simpa using h3
        by_cases h4 : n ≤ 1200
        · have h4' : decide ((n : Int) ≤ 1200) = true := by simp; omega
          have : b = true := by rw [← hb, mayR_iff]; exact ⟨h1, h2, h3, h4⟩
          subst this
          clear hb
          go_enter Try.func69, Try.ntmps69
          go_wp2_with fail
          go_ret
          exact ⟨rfl, by (repeat (first | exact Below.refl _ _ | refine Below.alloc ?_ (by first | (simp; done) | (simp; omega) | (simp [size_drewN]; done) | (simp [size_drewN]; omega)) _ | refine Below.drew ?_ | refine below_drewN0 ?_ _ | refine Below.setCell ?_ (by first | (simp; done) | (simp; omega) | (simp [size_drewN]; done) | (simp [size_drewN]; omega)) _))⟩
        · have h4' : decide ((n : Int) ≤ 1200) = false := by simp; omega
          have : b = false := by rw [← hb, Bool.eq_false_iff, Ne, mayR_iff]; omega
          subst this
          clear hb h4
          go_enter Try.func69, Try.ntmps69
          go_wp2_with fail
          go_ret
          exact ⟨rfl, by (repeat (first | exact Below.refl _ _ | refine Below.alloc ?_ (by first | (simp; done) | (simp; omega) | (simp [size_drewN]; done) | (simp [size_drewN]; omega)) _ | refine Below.drew ?_ | refine below_drewN0 ?_ _ | refine Below.setCell ?_ (by first | (simp; done) | (simp; omega) | (simp [size_drewN]; done) | (simp [size_drewN]; omega)) _))⟩
      · have h3' : decide (wy < 2) = false := by simpa using h3
        have : b = false := by rw [← hb, Bool.eq_false_iff, Ne, mayR_iff]; omega
        subst this
        clear hb h3
        go_enter Try.func69, Try.ntmps69
        go_wp2_with fail
        go_ret
        exact ⟨rfl, by (repeat (first | exact Below.refl _ _ | refine Below.alloc ?_ (by first | (simp; done) | (simp; omega) | (simp [size_drewN]; done) | (simp [size_drewN]; omega)) _ | refine Below.drew ?_ | refine below_drewN0 ?_ _ | refine Below.setCell ?_ (by first | (simp; done) | (simp; omega) | (simp [size_drewN]; done) | (simp [size_drewN]; omega)) _))⟩
    · have h2' : decide (0 ≤ wy) = false := by simpa using h2
      have : b = false := by rw [← hb, Bool.eq_false_iff, Ne, mayR_iff]; omega
      subst this
      clear hb h2
      go_enter Try.func69, Try.ntmps69
      go_wp2_with fail
      go_ret
      exact ⟨rfl, by (repeat (first | exact Below.refl _ _ | refine Below.alloc ?_ (by first | (simp; done) | (simp; omega) | (simp [size_drewN]; done) | (simp [size_drewN]; omega)) _ | refine Below.drew ?_ | refine below_drewN0 ?_ _ | refine Below.setCell ?_ (by first | (simp; done) | (simp; omega) | (simp [size_drewN]; done) | (simp [size_drewN]; omega)) _))⟩
  · have h1' : decide (0 ≤ tk) = false := by simpa using h1
    have : b = false := by rw [← hb, Bool.eq_false_iff, Ne, mayR_iff]; omega
    subst this
    clear hb h1
    go_enter Try.func69, Try.ntmps69
    go_wp2_with fail
    go_ret
    exact ⟨rfl, by (repeat (first | exact Below.refl _ _ | refine Below.alloc ?_ (by first | (simp; done) | (simp; omega) | (simp [size_drewN]; done) | (simp [size_drewN]; omega)) _ | refine Below.drew ?_ | refine below_drewN0 ?_ _ | refine Below.setCell ?_ (by first | (simp; done) | (simp; omega) | (simp [size_drewN]; done) | (simp [size_drewN]; omega)) _))⟩
set_option maxHeartbeats 2000000 in
theorem rmay45_any (tk wy ad pt : Int) (a : Option Addr) (n c : Nat) (w : World) :
    Calls Try.prog 37 #[.agg #[.int .i64 tk, .int .i64 wy, .int .u32 ad, .int .u16 pt, .slice a n c]] w fun e w' => e = .returned (.bool (mayR tk wy n)) ∧ Below w.heap.size w w' := by
  obtain ⟨b, hb⟩ : ∃ b, mayR tk wy n = b := ⟨_, rfl⟩
  rw [hb]
  by_cases h1 : 0 ≤ tk
  · have h1' : decide (0 ≤ tk) = true := by simpa using h1
    have fin : ∀ x : Int, wy = x → (x = 0 ∨ x = 1) → Hid (b = decide ((n : Int) ≤ 1200)) := fun x h2 h3 => Lib.hid (by
      rw [← hb, Bool.eq_iff_iff, mayR_iff, decide_eq_true_eq]; omega)
    by_cases h2 : wy = 0
    · have F := fin wy rfl (.inl h2)
      have h2' : decide (wy = 0) = true := by simpa using h2
      have h2'' : (wy == 0) = true := by simpa using h2
      clear hb h2 fin
      cases hd : decide ((n : Int) ≤ 1200) with
      | true =>
        rw [F.out, hd]
        clear F
        go_enter Try.func37, Try.ntmps37
        go_wp2_with fail
        go_ret
        exact ⟨rfl, by (repeat (first | exact Below.refl _ _ | refine Below.alloc ?_ (by first | (simp; done) | (simp; omega) | (simp [size_drewN]; done) | (simp [size_drewN]; omega)) _ | refine Below.drew ?_ | refine below_drewN0 ?_ _ | refine Below.setCell ?_ (by first | (simp; done) | (simp; omega) | (simp [size_drewN]; done) | (simp [size_drewN]; omega)) _))⟩
      | false =>
        rw [F.out, hd]
        clear F
        go_enter Try.func37, Try.ntmps37
        go_wp2_with fail
        go_ret
        exact ⟨rfl, by (repeat (first | exact Below.refl _ _ | refine Below.alloc ?_ (by first | (simp; done) | (simp; omega) | (simp [size_drewN]; done) | (simp [size_drewN]; omega)) _ | refine Below.drew ?_ | refine below_drewN0 ?_ _ | refine Below.setCell ?_ (by first | (simp; done) | (simp; omega) | (simp [size_drewN]; done) | (simp [size_drewN]; omega)) _))⟩
    · by_cases h3 : wy = 1
      · have F := fin wy rfl (.inr h3)
        have h2' : decide (wy = 0) = false := by simpa using h2
        have h2'' : (wy == 0) = false := by simpa using h2
        have h3' : decide (wy = 1) = true := by simpa using h3
        have h3'' : (wy == 1) = true := by simpa using h3
        clear hb h2 h3 fin
        cases hd : decide ((n : Int) ≤ 1200) with
        | true =>
          rw [F.out, hd]
          clear F
          go_enter Try.func37, Try.ntmps37
          go_wp2_with fail
          go_ret
          exact ⟨rfl, by (repeat (first | exact Below.refl _ _ | refine Below.alloc ?_ (by first | (simp; done) | (simp; omega) | (simp [size_drewN]; done) | (simp [size_drewN]; omega)) _ | refine Below.drew ?_ | refine below_drewN0 ?_ _ | refine Below.setCell ?_ (by first | (simp; done) | (simp; omega) | (simp [size_drewN]; done) | (simp [size_drewN]; omega)) _))⟩
        | false =>
          rw [F.out, hd]
          clear F
          go_enter Try.func37, Try.ntmps37
          go_wp2_with fail
          go_ret
          exact ⟨rfl, by (repeat (first | exact Below.refl _ _ | refine Below.alloc ?_ (by first | (simp; done) | (simp; omega) | (simp [size_drewN]; done) | (simp [size_drewN]; omega)) _ | refine Below.drew ?_ | refine below_drewN0 ?_ _ | refine Below.setCell ?_ (by first | (simp; done) | (simp; omega) | (simp [size_drewN]; done) | (simp [size_drewN]; omega)) _))⟩
      · have h2' : decide (wy = 0) = false := by simpa using h2
        have h2'' : (wy == 0) = false := by simpa using h2
        have h3' : decide (wy = 1) = false := by simpa using h3
        have h3'' : (wy == 1) = false := by simpa using h3
        have : b = false := by rw [← hb, Bool.eq_false_iff, Ne, mayR_iff]; omega
        subst this
        clear hb h2 h3 fin
        go_enter Try.func37, Try.ntmps37
        go_wp2_with fail
        go_ret
        exact ⟨rfl, by (repeat (first | exact Below.refl _ _ | refine Below.alloc ?_ (by first | (simp; done) | (simp; omega) | (simp [size_drewN]; done) | (simp [size_drewN]; omega)) _ | refine Below.drew ?_ | refine below_drewN0 ?_ _ | refine Below.setCell ?_ (by first | (simp; done) | (simp; omega) | (simp [size_drewN]; done) | (simp [size_drewN]; omega)) _))⟩
  · have h1' : decide (0 ≤ tk) = false := by simpa using h1
    have : b = false := by rw [← hb, Bool.eq_false_iff, Ne, mayR_iff]; omega
    subst this
    clear hb h1
    go_enter Try.func37, Try.ntmps37
    go_wp2_with fail
    go_ret
    exact ⟨rfl, by (repeat (first | exact Below.refl _ _ | refine Below.alloc ?_ (by first | (simp; done) | (simp; omega) | (simp [size_drewN]; done) | (simp [size_drewN]; omega)) _ | refine Below.drew ?_ | refine below_drewN0 ?_ _ | refine Below.setCell ?_ (by first | (simp; done) | (simp; omega) | (simp [size_drewN]; done) | (simp [size_drewN]; omega)) _))⟩

/-! ### Sums -/
def sumZ (Z : Nat → Int) : Nat → Int
  | 0 => 0
  | k + 1 => sumZ Z k + ((k : Int) + 1) * Z k
theorem sumZ_bd (Z : Nat → Int) (k : Nat) (h : ∀ i, i < k → 0 ≤ Z i ∧ Z i ≤ 255) (hk : k ≤ 70000) : 0 ≤ sumZ Z k ∧ sumZ Z k ≤ (k : Int) * 17920256 := by
  induction k with
  | zero => simp [sumZ]
  | succ k ih =>
    obtain ⟨h1, h2⟩ := ih (fun i hi => h i (by omega)) (by omega)
    obtain ⟨h3, h4⟩ := h k (by omega)
    unfold sumZ
    have h5 : 0 ≤ ((k : Int) + 1) * Z k := Int.mul_nonneg (by omega) h3
    have h6 : ((k : Int) + 1) * Z k ≤ 70001 * 255 := Int.mul_le_mul (by omega) h4 h3 (by omega)
    push_cast
    omega
theorem sumZ_congr {Z Z' : Nat → Int} {k : Nat} (h : ∀ i, i < k → Z i = Z' i) : sumZ Z k = sumZ Z' k := by
  induction k with
  | zero => rfl
  | succ k ih => unfold sumZ; rw [ih (fun i hi => h i (by omega)), h k (by omega)]
def smR (Z : Nat → Int) (n : Nat) : Int := sumZ Z n % 65521
theorem smR_bd (Z : Nat → Int) (n : Nat) : 0 ≤ smR Z n ∧ smR Z n < 65521 := by unfold smR; omega
theorem smR_succ (Z : Nat → Int) (k : Nat) : smR Z (k + 1) = (smR Z k + ((k : Int) + 1) * Z k) % 65521 := by
  unfold smR; show (sumZ Z k + _) % _ = _
  rw [Int.emod_add_emod]
set_option maxRecDepth 100000 in
set_option maxHeartbeats 2000000 in
theorem sum45_any (B : Nat) (a : Option Addr) (n c : Nat) (Z : Nat → Int) (w : World) (hb : BS B w a n c Z) (hn : n ≤ 70000) :
    Calls Try.prog 102 #[.slice a n c] w fun e w' => e = .returned (.int .u64 (smR Z n)) ∧ w = w' := by
  have HB := Lib.hid hb
  have hle := hb.le
  have hmx := hb.max
  clear hb
  go_enter Try.func102, Try.ntmps102
  go_wp2_with fail
  go_loop [3, 8] (fun s3 s8 => ∃ (k : Nat) (s : Int), k ≤ n ∧ s8 = .int .i64 k ∧ s3 = .int .u64 s ∧ 0 ≤ s ∧ s < 65521 ∧ Hid (s = smR Z k)) (fun _ s8 => n - (intOf s8).toNat)
  case atStart => exact ⟨0, 0, by omega, rfl, rfl, by omega, by omega, Lib.hid rfl⟩
  case round =>
    obtain ⟨k, s, hk, rfl, rfl, s0, s1, HS⟩ := hrel
    by_cases hlt : k < n
    · obtain ⟨b1, o1, hp1, hc1⟩ := HB.out.mem
      obtain ⟨rfl, _⟩ := hp1 (by omega)
      have cz := hc1 k hlt
      have hzb := HB.out.bd k hlt
      have hss := smR_succ Z k
      obtain ⟨z, hz⟩ : ∃ z, Z k = z := ⟨_, rfl⟩
      rw [hz] at cz hzb hss
      rw [← HS.out] at hss
      have HSS := Lib.hid hss
      clear hp1 hc1 hz hss
      obtain ⟨z0, z1⟩ := hzb
      have hki : (k : Int) < n := by omega
      have hm0 : 0 ≤ ((k : Int) + 1) * z := Int.mul_nonneg (by omega) z0
      have hm1 : ((k : Int) + 1) * z ≤ 70001 * 255 := Int.mul_le_mul (by omega) z1 z0 (by omega)
      have w1 : IntKind.u64.wrap ((k : Int) + 1) = (k : Int) + 1 := by rw [IntKind.wrap_u64]; omega
      have w2 : IntKind.u64.wrap z = z := by rw [IntKind.wrap_u64]; omega
      have w3 : IntKind.u64.wrap (((k : Int) + 1) * z) = ((k : Int) + 1) * z := by rw [IntKind.wrap_u64]; exact Int.emod_eq_of_lt hm0 (by omega)
      have w4 : IntKind.u64.wrap (s + ((k : Int) + 1) * z) = s + ((k : Int) + 1) * z := by rw [IntKind.wrap_u64]; exact Int.emod_eq_of_lt (by omega) (by omega)
      have w5 : ((k : Int) + 1) * z % 18446744073709551616 = ((k : Int) + 1) * z := Int.emod_eq_of_lt hm0 (by omega)
      have w6 : (s + ((k : Int) + 1) * z) % 18446744073709551616 = s + ((k : Int) + 1) * z := Int.emod_eq_of_lt (by omega) (by omega)
      have w7 : (s + ((k : Int) + 1) * z).tmod 65521 = (s + ((k : Int) + 1) * z) % 65521 := Int.tmod_eq_emod_of_nonneg (by omega)
      have hr : 0 ≤ (s + ((k : Int) + 1) * z) % 65521 ∧ (s + ((k : Int) + 1) * z) % 65521 < 65521 := ⟨Int.emod_nonneg _ (by omega), Int.emod_lt_of_pos _ (by omega)⟩
      have HR := Lib.hid hr
      clear hr
      go_wp2_with fail
      go_round
      case rel => exact ⟨k + 1, _, by omega, by go_num, rfl, HR.out.1, HR.out.2, Lib.hid HSS.out.symm⟩
      case measure => simp [intOf] <;> omega
    · have : k = n := by omega
      subst this
      clear hlt
      go_wp2_with fail
      go_ret
      exact ⟨by rw [HS.out]; rfl, rfl⟩
set_option maxRecDepth 100000 in
set_option maxHeartbeats 2000000 in
theorem rsum45_any (B : Nat) (a : Option Addr) (n c : Nat) (Z : Nat → Int) (w : World) (hb : BS B w a n c Z) (hn : n ≤ 70000) :
    Calls Try.prog 74 #[.slice a n c] w fun e w' => e = .returned (.int .u64 (smR Z n)) ∧ w = w' := by
  have HB := Lib.hid hb
  have hle := hb.le
  have hmx := hb.max
  clear hb
  go_enter Try.func74, Try.ntmps74
  go_wp2_with fail
  go_loop [3, 4] (fun s3 s4 => ∃ (k : Nat) (s : Int), k ≤ n ∧ s4 = .int .i64 k ∧ s3 = .int .u64 s ∧ 0 ≤ s ∧ s ≤ (k : Int) * 17920256 ∧ Hid (s = sumZ Z k)) (fun _ s4 => n - (intOf s4).toNat)
  case atStart => exact ⟨0, 0, by omega, rfl, rfl, by omega, by omega, Lib.hid rfl⟩
  case round =>
    obtain ⟨k, s, hk, rfl, rfl, s0, s1, HS⟩ := hrel
    by_cases hlt : k < n
    · obtain ⟨b1, o1, hp1, hc1⟩ := HB.out.mem
      obtain ⟨rfl, _⟩ := hp1 (by omega)
      have cz := hc1 k hlt
      have hzb := HB.out.bd k hlt
      have hss : sumZ Z (k + 1) = sumZ Z k + ((k : Int) + 1) * Z k := rfl
      have hbd := sumZ_bd Z (k + 1) (fun i hi => HB.out.bd i (by omega)) (by omega)
      obtain ⟨z, hz⟩ : ∃ z, Z k = z := ⟨_, rfl⟩
      rw [hz] at cz hzb hss
      rw [← HS.out] at hss
      rw [hss] at hbd
      have HSS := Lib.hid hss
      clear hp1 hc1 hz hss
      obtain ⟨z0, z1⟩ := hzb
      have hki : (k : Int) < n := by omega
      have hm0 : 0 ≤ ((k : Int) + 1) * z := Int.mul_nonneg (by omega) z0
      have hm1 : ((k : Int) + 1) * z ≤ 70001 * 255 := Int.mul_le_mul (by omega) z1 z0 (by omega)
      have w1 : IntKind.u64.wrap ((k : Int) + 1) = (k : Int) + 1 := by rw [IntKind.wrap_u64]; omega
      have w2 : IntKind.u64.wrap z = z := by rw [IntKind.wrap_u64]; omega
      have w3 : IntKind.u64.wrap (((k : Int) + 1) * z) = ((k : Int) + 1) * z := by rw [IntKind.wrap_u64]; exact Int.emod_eq_of_lt hm0 (by omega)
      have w4 : IntKind.u64.wrap (s + ((k : Int) + 1) * z) = s + ((k : Int) + 1) * z := by rw [IntKind.wrap_u64]; exact Int.emod_eq_of_lt (by omega) (by omega)
      have w5 : ((k : Int) + 1) * z % 18446744073709551616 = ((k : Int) + 1) * z := Int.emod_eq_of_lt hm0 (by omega)
      have w6 : (s + ((k : Int) + 1) * z) % 18446744073709551616 = s + ((k : Int) + 1) * z := Int.emod_eq_of_lt (by omega) (by omega)
      have HR := Lib.hid hbd
      clear hbd
      go_wp2_with fail
      go_round
      case rel => exact ⟨k + 1, _, by omega, by go_num, rfl, HR.out.1, by have := HR.out.2; omega, Lib.hid HSS.out.symm⟩
      case measure => simp [intOf] <;> omega
    · have : k = n := by omega
      subst this
      clear hlt
      have w7 : s.tmod 65521 = s % 65521 := Int.tmod_eq_emod_of_nonneg (by omega)
      go_wp2_with fail
      go_ret
      exact ⟨ret_int (by unfold smR; rw [← HS.out]), rfl⟩
end Go.Proofs.Ytdmbdageohjodaa
