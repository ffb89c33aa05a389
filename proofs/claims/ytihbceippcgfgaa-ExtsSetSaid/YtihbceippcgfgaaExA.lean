/-
  Chapter 32: elements that came in, which may be, and the bytes of a list.
-/
import Derived.Test.YtihbceippcgfgaaFill
import Derived.Test.YtihbceippcgfgaaApp
import Derived.Test.YtihbceippcgfgaaReads
import Derived.Deep.DeepCutAuto
namespace Go.Proofs.Ytihbceippcgfgaa
open Go.RowKit
set_option linter.unusedVariables false
set_option linter.unusedSimpArgs false
attribute [local irreducible] wpStill wpQuiet MixC.wpMix
attribute [local go_sem] MixC.rdOp MixC.rd MixC.rdUpon MixC.mvUpon

structure El where
  id : Int
  a : Option Addr
  n : Nat
  c : Nat
  Z : Nat → Int
instance : Inhabited El := ⟨⟨0, none, 0, 0, fun _ => 0⟩⟩
structure ElOk (B : Nat) (w : World) (e : El) : Prop where
  i0 : -9223372036854775808 ≤ e.id
  i1 : e.id ≤ 9223372036854775807
  z : BS B w e.a e.n e.c e.Z
theorem ElOk.keep {B : Nat} {w w' : World} {e : El} (h : ElOk B w e) (hb : Below B w w') : ElOk B w' e := ⟨h.i0, h.i1, h.z.keep hb⟩
theorem ElOk.mono {B B' : Nat} {w : World} {e : El} (h : ElOk B w e) (hb : B ≤ B') : ElOk B' w e := ⟨h.i0, h.i1, h.z.mono hb⟩
/-- a list of elements that lies somewhere -/
structure Els (B : Nat) (w : World) (ad : Option Addr) (len cap : Nat) (Q : Nat → El) : Prop where
  le : len ≤ cap
  max : cap ≤ 9223372036854775807
  ok : ∀ i, i < len → ElOk B w (Q i)
  mem : ∃ b off, (0 < cap → ad = some ⟨b, off, none⟩ ∧ b < B) ∧ ∀ i, i < len → w.cell? ⟨b, off + i * 2, none⟩ = some (.int .i64 (Q i).id) ∧ w.cell? ⟨b, off + i * 2 + 1, none⟩ = some (.slice (Q i).a (Q i).n (Q i).c)
theorem Els.keep {B : Nat} {w w' : World} {ad : Option Addr} {len cap : Nat} {Q : Nat → El} (h : Els B w ad len cap Q) (hb : Below B w w') : Els B w' ad len cap Q := by
  obtain ⟨h1, h2, h3, b, off, h4, h5⟩ := h
  refine ⟨h1, h2, fun i hi => (h3 i hi).keep hb, b, off, h4, fun i hi => ?_⟩
  obtain ⟨h6, h7⟩ := h5 i hi
  exact ⟨Below.cell' hb (h4 (by omega)).2 h6, Below.cell' hb (h4 (by omega)).2 h7⟩
theorem Els.mono {B B' : Nat} {w : World} {ad : Option Addr} {len cap : Nat} {Q : Nat → El} (h : Els B w ad len cap Q) (hB : B ≤ B') : Els B' w ad len cap Q := by
  obtain ⟨h1, h2, h3, b, off, h4, h5⟩ := h
  exact ⟨h1, h2, fun i hi => (h3 i hi).mono hB, b, off, fun h => ⟨(h4 h).1, by have := (h4 h).2; omega⟩, h5⟩
theorem els_of {w : World} {v : Value} (h : Reads Try.prog w 6 22 v) : ∃ a len cap Q, v = .slice a len cap ∧ Els w.heap.size w a len cap Q := by
  obtain ⟨a, len, cap, b, off, V, rfl, row⟩ := reads_slice Try.underlying22 (ts := [3, 25]) (by kernel_rfl) (by kernel_rfl) (by decide) h
  have hx : ∀ i, i < cap → ∃ o : El, (V i 0 = .int .i64 o.id ∧ V i 1 = .slice o.a o.n o.c) ∧ ElOk w.heap.size w o := fun i hi => by
    obtain ⟨id, e0, w0⟩ := reads_int Try.underlying3 (row.read i hi 0 _ rfl)
    obtain ⟨a, n, c, Z, e4, hZ⟩ := bs_of36b (row.read i hi 1 _ rfl)
    have b0 := bounds_i64 w0
    exact ⟨⟨id, a, n, c, Z⟩, ⟨e0, e4⟩, b0.1, b0.2, hZ⟩
  obtain ⟨Q, hQ⟩ := Deep.choose_lt (n := cap) (α := El) (p := fun i o => (V i 0 = .int .i64 o.id ∧ V i 1 = .slice o.a o.n o.c) ∧ ElOk w.heap.size w o) hx
  have hm := row.max
  unfold maxLen at hm
  have hle := row.le
  refine ⟨a, len, cap, Q, rfl, hle, by omega, fun i hi => (hQ i (by omega)).2, b, off, row.addr, fun i hi => ⟨?_, ?_⟩⟩
  · have := row.cell i (by omega) 0 (by decide)
    rw [(hQ i (by omega)).1.1] at this
    simpa using this
  · have := row.cell i (by omega) 1 (by decide)
    rw [(hQ i (by omega)).1.2] at this
    simpa [Nat.add_assoc] using this
/-! ### May an element be? -/
def mayE (id : Int) (n : Nat) : Bool := decide (1 ≤ id) && decide (id ≤ 14) && decide (1 ≤ n) && decide (n ≤ 16)
theorem mayE_iff (id : Int) (n : Nat) : mayE id n = true ↔ 1 ≤ id ∧ id ≤ 14 ∧ 1 ≤ n ∧ n ≤ 16 := by simp [mayE, and_assoc]
set_option maxHeartbeats 2000000 in
theorem may32_any (id : Int) (a : Option Addr) (n c : Nat) (w : World) : Calls Try.prog 66 #[.agg #[.int .i64 id, .slice a n c]] w fun e w' => e = .returned (.bool (mayE id n)) ∧ Below w.heap.size w w' := by
  obtain ⟨b, hb⟩ : ∃ b, mayE id n = b := ⟨_, rfl⟩
  rw [hb]
  by_cases h1 : 1 ≤ id
  · by_cases h2 : id ≤ 14
    · by_cases h3 : 1 ≤ n
      · have h3' : (1 : Int) ≤ n := by omega
        by_cases h4 : n ≤ 16
        · have h4' : (n : Int) ≤ 16 := by omega
          obtain rfl : b = true := by rw [← hb, mayE_iff]; exact ⟨h1, h2, h3, h4⟩
          clear hb
          go_enter Try.func66, Try.ntmps66
          go_wp2_with fail
          go_ret
          exact ⟨rfl, by (repeat (first | exact Below.refl _ _ | refine Below.alloc ?_ (by first | (simp; done) | (simp; omega) | (simp [size_drewN]; done) | (simp [size_drewN]; omega)) _ | refine Below.drew ?_ | refine below_drewN0 ?_ _ | refine Below.setCell ?_ (by first | (simp; done) | (simp; omega) | (simp [size_drewN]; done) | (simp [size_drewN]; omega)) _))⟩
        · have h4' : ¬ (n : Int) ≤ 16 := by omega
          obtain rfl : b = false := by rw [← hb, Bool.eq_false_iff, Ne, mayE_iff]; omega
          clear hb h4
          go_enter Try.func66, Try.ntmps66
          go_wp2_with fail
          go_ret
          exact ⟨rfl, by (repeat (first | exact Below.refl _ _ | refine Below.alloc ?_ (by first | (simp; done) | (simp; omega) | (simp [size_drewN]; done) | (simp [size_drewN]; omega)) _ | refine Below.drew ?_ | refine below_drewN0 ?_ _ | refine Below.setCell ?_ (by first | (simp; done) | (simp; omega) | (simp [size_drewN]; done) | (simp [size_drewN]; omega)) _))⟩
      · have h3' : ¬ (1 : Int) ≤ n := by omega
        obtain rfl : b = false := by rw [← hb, Bool.eq_false_iff, Ne, mayE_iff]; omega
        clear hb h3
        go_enter Try.func66, Try.ntmps66
        go_wp2_with fail
        go_ret
        exact ⟨rfl, by (repeat (first | exact Below.refl _ _ | refine Below.alloc ?_ (by first | (simp; done) | (simp; omega) | (simp [size_drewN]; done) | (simp [size_drewN]; omega)) _ | refine Below.drew ?_ | refine below_drewN0 ?_ _ | refine Below.setCell ?_ (by first | (simp; done) | (simp; omega) | (simp [size_drewN]; done) | (simp [size_drewN]; omega)) _))⟩
    · obtain rfl : b = false := by rw [← hb, Bool.eq_false_iff, Ne, mayE_iff]; omega
      clear hb
      go_enter Try.func66, Try.ntmps66
      go_wp2_with fail
      go_ret
      exact ⟨rfl, by (repeat (first | exact Below.refl _ _ | refine Below.alloc ?_ (by first | (simp; done) | (simp; omega) | (simp [size_drewN]; done) | (simp [size_drewN]; omega)) _ | refine Below.drew ?_ | refine below_drewN0 ?_ _ | refine Below.setCell ?_ (by first | (simp; done) | (simp; omega) | (simp [size_drewN]; done) | (simp [size_drewN]; omega)) _))⟩
  · obtain rfl : b = false := by rw [← hb, Bool.eq_false_iff, Ne, mayE_iff]; omega
    clear hb
    go_enter Try.func66, Try.ntmps66
    go_wp2_with fail
    go_ret
    exact ⟨rfl, by (repeat (first | exact Below.refl _ _ | refine Below.alloc ?_ (by first | (simp; done) | (simp; omega) | (simp [size_drewN]; done) | (simp [size_drewN]; omega)) _ | refine Below.drew ?_ | refine below_drewN0 ?_ _ | refine Below.setCell ?_ (by first | (simp; done) | (simp; omega) | (simp [size_drewN]; done) | (simp [size_drewN]; omega)) _))⟩
/-! ### The bytes of a list -/
def elL (e : El) : List Int := (16 * e.id + e.n - 1) :: zs e.Z e.n
def wrE (Q : Nat → El) (k : Nat) : List Int := (List.range k).flatMap fun i => elL (Q i)
theorem wrE_succ (Q : Nat → El) (k : Nat) : wrE Q (k + 1) = wrE Q k ++ elL (Q k) := by simp [wrE, List.range_succ]
def mayAll (Q : Nat → El) (k : Nat) : Prop := ∀ i, i < k → mayE (Q i).id (Q i).n = true
theorem elL_oct {B : Nat} {w : World} {e : El} (h : ElOk B w e) (hm : mayE e.id e.n = true) : Oct (elL e) := by
  obtain ⟨m1, m2, m3, m4⟩ := (mayE_iff _ _).1 hm
  intro x hx
  rcases List.mem_cons.1 hx with rfl | hx
  · omega
  · exact zs_oct h.z x hx
theorem wrE_oct {B : Nat} {w : World} {Q : Nat → El} {k : Nat} (h : ∀ i, i < k → ElOk B w (Q i)) (hm : mayAll Q k) : Oct (wrE Q k) := by
  induction k with
  | zero => intro x hx; simp [wrE] at hx
  | succ k ih =>
    rw [wrE_succ]
    exact (ih (fun i hi => h i (by omega)) (fun i hi => hm i (by omega))).app (elL_oct (h k (by omega)) (hm k (by omega)))
theorem elL_len (e : El) : (elL e).length = e.n + 1 := by simp [elL, zs_len]
theorem wrE_len {Q : Nat → El} {k : Nat} (hm : mayAll Q k) : (wrE Q k).length ≤ k * 17 := by
  induction k with
  | zero => simp [wrE]
  | succ k ih =>
    rw [wrE_succ, List.length_append, elL_len]
    have := ih (fun i hi => hm i (by omega))
    obtain ⟨m1, m2, m3, m4⟩ := (mayE_iff _ _).1 (hm k (by omega))
    omega
def filL (L : List Int) : List Int := L ++ List.replicate (padN L.length 4) 0
theorem head_or (id : Int) (n : Nat) (h : mayE id n = true) : bits BinOp.or .i64 (id * 16) ((n : Int) - 1) % 256 = 16 * id + n - 1 := by
  obtain ⟨m1, m2, m3, m4⟩ := (mayE_iff _ _).1 h
  obtain ⟨m, rfl⟩ : ∃ m, n = m + 1 := ⟨n - 1, by omega⟩
  obtain ⟨i, rfl⟩ := Int.eq_ofNat_of_zero_le (show 0 ≤ id by omega)
  have hi : i < 15 := by omega
  have hm : m < 16 := by omega
  have key : ∀ i : Fin 15, ∀ m : Fin 16, bits BinOp.or .i64 (((i.1 : Nat) : Int) * 16) (((m.1 + 1 : Nat) : Int) - 1) % 256 = 16 * ((i.1 : Nat) : Int) + ((m.1 + 1 : Nat) : Int) - 1 := by decide +kernel
  exact key ⟨i, hi⟩ ⟨m, hm⟩
end Go.Proofs.Ytihbceippcgfgaa
