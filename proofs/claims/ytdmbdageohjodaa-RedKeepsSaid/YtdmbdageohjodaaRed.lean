/-
  Chapter 36: blocks that came in, and which may be.
-/
import Derived.Test.YtdmbdageohjodaaPut
import Derived.Test.YtdmbdageohjodaaOwn
import Derived.Test.YtdmbdageohjodaaReads
namespace Go.Proofs.Ytdmbdageohjodaa
open Go.RowKit
set_option linter.unusedVariables false
set_option linter.unusedSimpArgs false
attribute [local irreducible] wpStill wpQuiet

/-- numbers as values -/
def u8s (L : List Int) : List Value := L.map fun x => .int .u8 x
theorem u8s_app (L M : List Int) : u8s (L ++ M) = u8s L ++ u8s M := List.map_append ..
theorem u8s_len (L : List Int) : (u8s L).length = L.length := List.length_map ..
def gz (L : List Int) (i : Nat) : Int := L.getD i 0
theorem u8s_bytes (L : List Int) : u8s L = bytesOf (gz L) L.length := by
  unfold u8s bytesOf gz
  apply List.ext_getElem?
  intro i
  rw [List.getElem?_map, List.getElem?_map]
  by_cases h : i < L.length
  · rw [List.getElem?_range h, List.getElem?_eq_getElem h]; simp [h]
  · rw [List.getElem?_eq_none (by omega), List.getElem?_eq_none (by simpa using h)]; rfl
/-- numbers of bytes -/
def Oct (L : List Int) : Prop := ∀ x ∈ L, 0 ≤ x ∧ x ≤ 255
theorem Oct.gz {L : List Int} (h : Oct L) (i : Nat) : 0 ≤ gz L i ∧ gz L i ≤ 255 := by
  unfold Go.Proofs.Ytdmbdageohjodaa.gz
  by_cases hi : i < L.length
  · simp only [List.getD, List.getElem?_eq_getElem hi, Option.getD_some]
    exact h _ (List.getElem_mem hi)
  · simp only [List.getD, List.getElem?_eq_none (by omega : L.length ≤ i), Option.getD_none]; omega
theorem Oct.app {L M : List Int} (h : Oct L) (k : Oct M) : Oct (L ++ M) := fun x hx => (List.mem_append.1 hx).elim (h x) (k x)
theorem Oct.nil : Oct [] := fun x hx => by cases hx
/-- a row of the call's own reads as bytes -/
theorem BS.own {w : World} {base n : Nat} {v : Value} {L : List Int} (h : w.ownsRow base 5 1 v n (u8s L)) (hO : Oct L) (hn : n ≤ 1000000) : n = L.length ∧ ∃ a cap, v = .slice a n cap ∧ BS w.heap.size w a n cap (gz L) := by
  have hl : n = L.length := by have := h.1; rw [u8s_len] at this; omega
  subst hl
  rw [u8s_bytes] at h
  exact ⟨rfl, BS.of_owns h (fun i _ => hO.gz i) hn⟩
/-- a slice of bytes, as a list -/
def zs (Z : Nat → Int) (n : Nat) : List Int := (List.range n).map Z
theorem zs_len (Z : Nat → Int) (n : Nat) : (zs Z n).length = n := by simp [zs]
theorem zs_u8s (Z : Nat → Int) (n : Nat) : u8s (zs Z n) = bytesOf Z n := by simp [u8s, zs, bytesOf]
theorem zs_oct {B : Nat} {w : World} {a : Option Addr} {n c : Nat} {Z : Nat → Int} (h : BS B w a n c Z) : Oct (zs Z n) := fun x hx => by
  simp only [zs, List.mem_map, List.mem_range] at hx
  obtain ⟨i, hi, rfl⟩ := hx
  exact h.bd i hi
theorem BS.nils {B : Nat} {w : World} {a : Option Addr} {n c : Nat} {Z : Nat → Int} (h : BS B w a n c Z) : a = none → n = 0 ∧ c = 0 := fun e => by
  obtain ⟨b, off, h1, _⟩ := h.mem
  have := h.le
  have : c = 0 := by
    rcases Nat.eq_zero_or_pos c with h0 | h0
    · exact h0
    · have := (h1 h0).1; rw [e] at this; cases this
  exact ⟨by omega, this⟩
theorem BS.news' {B : Nat} {w : World} {a : Option Addr} {n c : Nat} {Z : Nat → Int} (h : BS B w a n c Z) : ∀ ad, a = some ad → ∀ (j : Nat) u, (u8s (zs Z n))[j]? = some u → w.cell? (ad.add j) = some u := fun ad e j u hj => by
  rw [zs_u8s] at hj
  obtain ⟨h1, rfl⟩ := bytesOf_get hj
  obtain ⟨b, off, h2, h3⟩ := h.mem
  have h4 := h2 (by have := h.le; omega)
  rw [e] at h4
  obtain ⟨h4, _⟩ := h4
  cases h4
  rw [addr_add]
  exact h3 j h1
theorem u8s_one (L : List Int) : ∀ u ∈ u8s L, u.oneCell' = true := by
  intro u hu
  simp only [u8s, List.mem_map] at hu
  obtain ⟨x, _, rfl⟩ := hu
  rfl

/-! ### Blocks -/
structure Blk where
  t : Int
  h : Int
  a : Option Addr
  n : Nat
  c : Nat
  Z : Nat → Int
instance : Inhabited Blk := ⟨⟨0, 0, none, 0, 0, fun _ => 0⟩⟩
def Blk.cell (b : Blk) : Nat → Value
  | 0 => .int .u8 b.t
  | 1 => .int .i64 b.h
  | _ => .slice b.a b.n b.c
def Blk.agg (b : Blk) : Value := .agg #[.int .u8 b.t, .int .i64 b.h, .slice b.a b.n b.c]
structure BlkOk (B : Nat) (w : World) (b : Blk) : Prop where
  t0 : 0 ≤ b.t
  t1 : b.t ≤ 255
  h0 : -9223372036854775808 ≤ b.h
  h1 : b.h ≤ 9223372036854775807
  z : BS B w b.a b.n b.c b.Z
/-- a slice of blocks -/
structure Blks (B : Nat) (w : World) (ad : Option Addr) (len cap : Nat) (Q : Nat → Blk) : Prop where
  le : len ≤ cap
  max : cap ≤ 9223372036854775807
  ok : ∀ i, i < len → BlkOk B w (Q i)
  mem : ∃ b off, (0 < cap → ad = some ⟨b, off, none⟩ ∧ b < B) ∧ ∀ i, i < len → ∀ j, j < 3 → w.cell? ⟨b, off + i * 3 + j, none⟩ = some ((Q i).cell j)
theorem BlkOk.keep {B : Nat} {w w' : World} {b : Blk} (h : BlkOk B w b) (hb : Below B w w') : BlkOk B w' b := ⟨h.t0, h.t1, h.h0, h.h1, h.z.keep hb⟩
theorem Blks.keep {B : Nat} {w w' : World} {ad : Option Addr} {len cap : Nat} {Q : Nat → Blk} (h : Blks B w ad len cap Q) (hb : Below B w w') : Blks B w' ad len cap Q := by
  obtain ⟨h1, h2, h3, b, off, h4, h5⟩ := h
  refine ⟨h1, h2, fun i hi => (h3 i hi).keep hb, b, off, h4, fun i hi j hj => ?_⟩
  rw [hb.cell (p := ⟨b, off + i * 3 + j, none⟩) (h4 (by omega)).2]
  exact h5 i hi j hj
theorem Blks.mono {B B' : Nat} {w : World} {ad : Option Addr} {len cap : Nat} {Q : Nat → Blk} (h : Blks B w ad len cap Q) (hB : B ≤ B') : Blks B' w ad len cap Q := by
  obtain ⟨h1, h2, h3, b, off, h4, h5⟩ := h
  exact ⟨h1, h2, fun i hi => let o := h3 i hi; ⟨o.t0, o.t1, o.h0, o.h1, o.z.mono hB⟩, b, off, fun h => ⟨(h4 h).1, by have := (h4 h).2; omega⟩, h5⟩
theorem bs_of36 {w : World} {v : Value} (h : Reads Try.prog w 6 56 v) : ∃ a n c Z, v = .slice a n c ∧ BS w.heap.size w a n c Z := by
  obtain ⟨a, len, cap, b, off, V, rfl, row⟩ := reads_slice Try.underlying56 (ts := [5]) (by kernel_rfl) (by kernel_rfl) (by decide) h
  have hx : ∀ i, i < cap → ∃ z : Int, V i 0 = .int .u8 z ∧ (Lit.int .u8 z).wf = true := fun i hi => reads_int Try.underlying5 (row.read i hi 0 _ rfl)
  obtain ⟨Z, hZ⟩ := Deep.choose_lt (n := cap) (α := Int) (p := fun i z => V i 0 = .int .u8 z ∧ (Lit.int .u8 z).wf = true) hx
  have hm := row.max
  unfold maxLen at hm
  refine ⟨a, len, cap, Z, rfl, row.le, by omega, fun i hi => bounds_u8 (hZ i (by have := row.le; omega)).2, b, off, row.addr, fun i hi => ?_⟩
  have := row.cell i (by have := row.le; omega) 0 (by decide)
  rw [(hZ i (by have := row.le; omega)).1] at this
  rw [← this]
  simp
theorem blks_of {w : World} {v : Value} (h : Reads Try.prog w 7 105 v) : ∃ a len cap Q, v = .slice a len cap ∧ Blks w.heap.size w a len cap Q := by
  obtain ⟨a, len, cap, b, off, V, rfl, row⟩ := reads_slice Try.underlying105 (ts := [5, 3, 56]) (by kernel_rfl) (by kernel_rfl) (by decide) h
  have hx : ∀ i, i < cap → ∃ o : Blk, (∀ j, j < 3 → V i j = o.cell j) ∧ BlkOk w.heap.size w o := fun i hi => by
    obtain ⟨t, e0, w0⟩ := reads_int Try.underlying5 (row.read i hi 0 _ rfl)
    obtain ⟨h, e1, w1⟩ := reads_int Try.underlying3 (row.read i hi 1 _ rfl)
    obtain ⟨a, n, c, Z, e2, hZ⟩ := bs_of36 (row.read i hi 2 _ rfl)
    have b0 := bounds_u8 w0
    have b1 := bounds_i64 w1
    refine ⟨⟨t, h, a, n, c, Z⟩, fun j hj => ?_, b0.1, b0.2, b1.1, b1.2, hZ⟩
    match j, hj with
    | 0, _ => exact e0
    | 1, _ => exact e1
    | 2, _ => exact e2
  obtain ⟨Q, hQ⟩ := Deep.choose_lt (n := cap) (α := Blk) (p := fun i o => (∀ j, j < 3 → V i j = o.cell j) ∧ BlkOk w.heap.size w o) hx
  have hm := row.max
  unfold maxLen at hm
  have hle := row.le
  refine ⟨a, len, cap, Q, rfl, hle, by omega, fun i hi => (hQ i (by omega)).2, b, off, row.addr, fun i hi j hj => ?_⟩
  have := row.cell i (by omega) j (by show j < 3; exact hj)
  rw [(hQ i (by omega)).1 j hj] at this
  rw [← this, show ([5, 3, 56] : List TypeId).length = 3 from rfl, Nat.add_assoc]

/-! ### May a block be? -/
def mayB (t h : Int) (n : Nat) (last : Bool) : Bool := if last then decide (t < 128) && decide (h = 0) else decide (t < 128) && decide (0 ≤ h) && decide (h ≤ 16383) && decide (n ≤ 1023)
theorem mayB_last (t h : Int) (n : Nat) : mayB t h n true = true ↔ t < 128 ∧ h = 0 := by simp [mayB]
theorem mayB_mid (t h : Int) (n : Nat) : mayB t h n false = true ↔ t < 128 ∧ 0 ≤ h ∧ h ≤ 16383 ∧ n ≤ 1023 := by simp [mayB, and_assoc]
theorem mayB_eq (t h : Int) (n : Nat) (last : Bool) (b : Bool) (hb : mayB t h n last = true ↔ b = true) : mayB t h n last = b := by
  cases hm : mayB t h n last <;> cases b <;> simp_all
set_option maxHeartbeats 1000000 in
theorem may_any (t h : Int) (a : Option Addr) (n c : Nat) (last : Bool) (w : World) :
    Calls Try.prog 95 #[.agg #[.int .u8 t, .int .i64 h, .slice a n c], .bool last] w fun e w' => e = .returned (.bool (mayB t h n last)) ∧ Below w.heap.size w w' := by
  cases last with
  | true =>
    by_cases h1 : t < 128
    · by_cases h2 : h = 0
      · subst h2
        have h1' : decide (t < 128) = true := by simpa using h1
        rw [mayB_eq t 0 n true true (by rw [mayB_last]; simp; omega)]
        go_enter Try.func95, Try.ntmps95
        go_wp2_with fail
        go_ret
        exact ⟨rfl, by (repeat (first | exact Below.refl _ _ | refine Below.alloc ?_ (by first | (simp; done) | (simp; omega) | (simp [size_drewN]; done) | (simp [size_drewN]; omega)) _ | refine Below.drew ?_ | refine below_drewN0 ?_ _ | refine Below.setCell ?_ (by first | (simp; done) | (simp; omega) | (simp [size_drewN]; done) | (simp [size_drewN]; omega)) _))⟩
      · have h2' : decide (h = 0) = false := by simpa using h2
        have h2'' : (h == 0) = false := by simpa using h2
        have h1' : decide (t < 128) = true := by simpa using h1
        rw [mayB_eq t h n true false (by rw [mayB_last]; simp; omega)]
        clear h2
        go_enter Try.func95, Try.ntmps95
        go_wp2_with fail
        go_ret
        exact ⟨rfl, by (repeat (first | exact Below.refl _ _ | refine Below.alloc ?_ (by first | (simp; done) | (simp; omega) | (simp [size_drewN]; done) | (simp [size_drewN]; omega)) _ | refine Below.drew ?_ | refine below_drewN0 ?_ _ | refine Below.setCell ?_ (by first | (simp; done) | (simp; omega) | (simp [size_drewN]; done) | (simp [size_drewN]; omega)) _))⟩
    · have h1' : decide (t < 128) = false := by simpa using h1
      rw [mayB_eq t h n true false (by rw [mayB_last]; simp; omega)]
      go_enter Try.func95, Try.ntmps95
      go_wp2_with fail
      go_ret
      exact ⟨rfl, by (repeat (first | exact Below.refl _ _ | refine Below.alloc ?_ (by first | (simp; done) | (simp; omega) | (simp [size_drewN]; done) | (simp [size_drewN]; omega)) _ | refine Below.drew ?_ | refine below_drewN0 ?_ _ | refine Below.setCell ?_ (by first | (simp; done) | (simp; omega) | (simp [size_drewN]; done) | (simp [size_drewN]; omega)) _))⟩
  | false =>
    by_cases h1 : t < 128
    · have h1' : decide (t < 128) = true := by simpa using h1
      by_cases h2 : 0 ≤ h
      · have h2' : decide (0 ≤ h) = true := by simpa using h2
        by_cases h3 : h ≤ 16383
        · have h3' : decide (h ≤ 16383) = true := by simpa using h3
          by_cases h4 : n ≤ 1023
          · have h4' : decide ((n : Int) ≤ 1023) = true := by simp; omega
            rw [mayB_eq t h n false true (by rw [mayB_mid]; simp; omega)]
            go_enter Try.func95, Try.ntmps95
            go_wp2_with fail
            go_ret
            exact ⟨rfl, by (repeat (first | exact Below.refl _ _ | refine Below.alloc ?_ (by first | (simp; done) | (simp; omega) | (simp [size_drewN]; done) | (simp [size_drewN]; omega)) _ | refine Below.drew ?_ | refine below_drewN0 ?_ _ | refine Below.setCell ?_ (by first | (simp; done) | (simp; omega) | (simp [size_drewN]; done) | (simp [size_drewN]; omega)) _))⟩
          · have h4' : decide ((n : Int) ≤ 1023) = false := by simp; omega
            rw [mayB_eq t h n false false (by rw [mayB_mid]; simp; omega)]
            go_enter Try.func95, Try.ntmps95
            go_wp2_with fail
            go_ret
            exact ⟨rfl, by (repeat (first | exact Below.refl _ _ | refine Below.alloc ?_ (by first | (simp; done) | (simp; omega) | (simp [size_drewN]; done) | (simp [size_drewN]; omega)) _ | refine Below.drew ?_ | refine below_drewN0 ?_ _ | refine Below.setCell ?_ (by first | (simp; done) | (simp; omega) | (simp [size_drewN]; done) | (simp [size_drewN]; omega)) _))⟩
        · have h3' : decide (h ≤ 16383) = false := by simpa using h3
          rw [mayB_eq t h n false false (by rw [mayB_mid]; simp; omega)]
          go_enter Try.func95, Try.ntmps95
          go_wp2_with fail
          go_ret
          exact ⟨rfl, by (repeat (first | exact Below.refl _ _ | refine Below.alloc ?_ (by first | (simp; done) | (simp; omega) | (simp [size_drewN]; done) | (simp [size_drewN]; omega)) _ | refine Below.drew ?_ | refine below_drewN0 ?_ _ | refine Below.setCell ?_ (by first | (simp; done) | (simp; omega) | (simp [size_drewN]; done) | (simp [size_drewN]; omega)) _))⟩
      · have h2' : decide (0 ≤ h) = false := by simpa using h2
        rw [mayB_eq t h n false false (by rw [mayB_mid]; simp; omega)]
        go_enter Try.func95, Try.ntmps95
        go_wp2_with fail
        go_ret
        exact ⟨rfl, by (repeat (first | exact Below.refl _ _ | refine Below.alloc ?_ (by first | (simp; done) | (simp; omega) | (simp [size_drewN]; done) | (simp [size_drewN]; omega)) _ | refine Below.drew ?_ | refine below_drewN0 ?_ _ | refine Below.setCell ?_ (by first | (simp; done) | (simp; omega) | (simp [size_drewN]; done) | (simp [size_drewN]; omega)) _))⟩
    · have h1' : decide (t < 128) = false := by simpa using h1
      rw [mayB_eq t h n false false (by rw [mayB_mid]; simp; omega)]
      go_enter Try.func95, Try.ntmps95
      go_wp2_with fail
      go_ret
      exact ⟨rfl, by (repeat (first | exact Below.refl _ _ | refine Below.alloc ?_ (by first | (simp; done) | (simp; omega) | (simp [size_drewN]; done) | (simp [size_drewN]; omega)) _ | refine Below.drew ?_ | refine below_drewN0 ?_ _ | refine Below.setCell ?_ (by first | (simp; done) | (simp; omega) | (simp [size_drewN]; done) | (simp [size_drewN]; omega)) _))⟩
end Go.Proofs.Ytdmbdageohjodaa
