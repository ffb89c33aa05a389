/-
  Slices of bytes in memory, by index, over any program: reading, converting to a string, cutting.
-/
import Derived.Test.YtkoplofcjbeicaaBase
namespace Go.Proofs.Ytkoplofcjbeicaa
open Go.RowKit
set_option linter.unusedVariables false
set_option linter.unusedSimpArgs false

/-- A slice of bytes whose block lies below B. -/
structure BS (B : Nat) (w : World) (a : Option Addr) (n cap : Nat) (Z : Nat → Int) : Prop where
  le : n ≤ cap
  max : cap ≤ 9223372036854775807
  bd : ∀ i, i < n → 0 ≤ Z i ∧ Z i ≤ 255
  mem : ∃ b off, (0 < cap → a = some ⟨b, off, none⟩ ∧ b < B) ∧ ∀ i, i < n → w.cell? ⟨b, off + i, none⟩ = some (.int .u8 (Z i))

theorem BS.keep {B : Nat} {w w' : World} {a : Option Addr} {n cap : Nat} {Z : Nat → Int} (h : BS B w a n cap Z) (hb : Below B w w') : BS B w' a n cap Z := by
  obtain ⟨h1, h2, h3, b, off, h4, h5⟩ := h
  refine ⟨h1, h2, h3, b, off, h4, fun i hi => ?_⟩
  rw [hb.cell (p := ⟨b, off + i, none⟩) (h4 (by omega)).2]; exact h5 i hi
theorem BS.of_row {w : World} {a : Option Addr} {len cap : Nat} {zs : List Int} (h : IsRow .u8 w a len cap zs) : ∃ Z, BS w.heap.size w a len cap Z := by
  obtain ⟨b, off, Z, ha, hl, hm, hc, hw⟩ := row_open h
  exact ⟨Z, hl, hm, fun i hi => bounds_u8 (hw i (by omega)), b, off, ha, fun i hi => hc i (by omega)⟩
/-- where it lies -/
theorem BS.at_ {B : Nat} {w : World} {a : Option Addr} {n cap : Nat} {Z : Nat → Int} (h : BS B w a n cap Z) (h0 : 0 < cap) : ∃ b off, a = some ⟨b, off, none⟩ ∧ b < B ∧ ∀ i, i < n → w.cell? ⟨b, off + i, none⟩ = some (.int .u8 (Z i)) := by
  obtain ⟨_, _, _, b, off, h4, h5⟩ := h
  exact ⟨b, off, (h4 h0).1, (h4 h0).2, h5⟩
theorem BS.mono {B B' : Nat} {w : World} {a : Option Addr} {n cap : Nat} {Z : Nat → Int} (h : BS B w a n cap Z) (hb : B ≤ B') : BS B' w a n cap Z := by
  obtain ⟨h1, h2, h3, b, off, h4, h5⟩ := h
  exact ⟨h1, h2, h3, b, off, fun h => ⟨(h4 h).1, by have := (h4 h).2; omega⟩, h5⟩
theorem BS.congr {B : Nat} {w : World} {a : Option Addr} {n cap : Nat} {Z Z' : Nat → Int} (h : BS B w a n cap Z) (he : ∀ i, i < n → Z' i = Z i) : BS B w a n cap Z' := by
  obtain ⟨h1, h2, h3, b, off, h4, h5⟩ := h
  exact ⟨h1, h2, fun i hi => by rw [he i hi]; exact h3 i hi, b, off, h4, fun i hi => by rw [he i hi]; exact h5 i hi⟩
/-- cut at the end: b[:k], or b[:k:m] -/
theorem BS.cut {B : Nat} {w : World} {a : Option Addr} {n cap : Nat} {Z : Nat → Int} (h : BS B w a n cap Z) {k m : Nat} (hk : k ≤ n) (hm : k ≤ m) (hm2 : m ≤ cap) : BS B w a k m Z := by
  obtain ⟨h1, h2, h3, b, off, h4, h5⟩ := h
  exact ⟨hm, by omega, fun i hi => h3 i (by omega), b, off, fun h => h4 (by omega), fun i hi => h5 i (by omega)⟩

/-- The string of the first n bytes. -/
def strOf (Z : Nat → Int) (n : Nat) : ByteArray := strOfNums ((List.range n).map Z)
theorem strOf_congr {Z Z' : Nat → Int} {n : Nat} (h : ∀ i, i < n → Z i = Z' i) : strOf Z n = strOf Z' n := by
  unfold strOf
  rw [List.map_congr_left (fun i hi => h i (List.mem_range.1 hi))]
theorem strOf_size (Z : Nat → Int) (n : Nat) : (strOf Z n).size = n := by simp [strOf, strOfNums_size]

theorem run_conv_BS {P : Program} {B : Nat} {w : World} {a : Option Addr} {n cap : Nat} {Z : Nat → Int} (h : BS B w a n cap Z) {src e dst : TypeId} (hs : P.underlying src = some (.slice e)) (he : P.underlying e = some (.int .u8)) (hd : P.underlying dst = some .string) :
    (convert src dst (.slice a n cap)).run P w = .ok (.string (strOf Z n)) w := by
  obtain ⟨h1, h2, h3, b, off, h4, h5⟩ := h
  rcases Nat.eq_zero_or_pos n with rfl | hn
  · have hz : strOf Z 0 = ByteArray.empty := rfl
    rw [hz]
    cases a with
    | none => exact run_convert_bytes_nil w src e hs he 0 cap dst hd
    | some x =>
      rw [run_convert_bytes_string w src dst e _ 0 cap hs he hd, run_bytesToString w x 0 cap [] (by simp [loadCells, loadCellsFrom])]
      rfl
  · obtain ⟨rfl, _⟩ := h4 (by omega)
    exact run_convert_bytes_arg w src e hs he b off n cap ((List.range n).map Z) (by simp) (fun i hi => by rw [h5 i hi]; simp [List.getD, hi]) dst hd
/-- two strings of bytes -/
theorem strOf_inj {Z Z' : Nat → Int} {n m : Nat} (hz : ∀ i, i < n → 0 ≤ Z i ∧ Z i ≤ 255) (hz' : ∀ i, i < m → 0 ≤ Z' i ∧ Z' i ≤ 255) (h : strOf Z n = strOf Z' m) : n = m ∧ ∀ i, i < n → Z i = Z' i := by
  have hl : n = m := by have := congrArg ByteArray.size h; simpa [strOf_size] using this
  subst hl
  refine ⟨rfl, fun i hi => ?_⟩
  have h1 : (strOf Z n).data.toList = (strOf Z' n).data.toList := by rw [h]
  unfold strOf at h1
  rw [strOfNums_data, strOfNums_data] at h1
  have h2 := congrArg (fun l => l[i]?) h1
  simp [hi] at h2
  have a1 := hz i hi
  have a2 := hz' i hi
  have h3 := congrArg UInt8.toNat h2
  simp at h3
  omega
end Go.Proofs.Ytkoplofcjbeicaa
