/-
  The writer of chapter 22: its object, and what each of its functions does.
-/
import Derived.Test.YtkdjkaimcciemaaProg
import Derived.Test.YtkdjkaimcciemaaBase
import Derived.Test.YtkdjkaimcciemaaReads
import Derived.Deep.RegionHeld3
namespace Go.Proofs.Ytkdjkaimcciemaa
open Go.RowKit
set_option linter.unusedVariables false
set_option linter.unusedSimpArgs false

/-- the value of a place -/
def mapped (i s p : Int) : Value := .agg #[.int .i64 i, .int .u32 s, .int .u16 p]
/-- block g is the writer: first, follows, there, here, out, last -/
def wrt (w : World) (g : Nat) (f : Int) (fo : Bool) (a1 a2 a3 b1 b2 b3 : Int) (o : Bool) (c1 c2 c3 : Int) : Prop :=
  w.heap[g]? = some (.cells #[.int .i64 f, .bool fo, .int .i64 a1, .int .u32 a2, .int .u16 a3, .int .i64 b1, .int .u32 b2, .int .u16 b3, .bool o, .int .i64 c1, .int .u32 c2, .int .u16 c3] 70 (0, 0))
theorem wrt.lt {w : World} {g : Nat} {f : Int} {fo : Bool} {a1 a2 a3 b1 b2 b3 : Int} {o : Bool} {c1 c2 c3 : Int} (h : wrt w g f fo a1 a2 a3 b1 b2 b3 o c1 c2 c3) : g < w.heap.size := lt_of_block h

theorem wrt.alloc {w : World} {g : Nat} {f : Int} {fo : Bool} {a1 a2 a3 b1 b2 b3 : Int} {o : Bool} {c1 c2 c3 : Int} (h : wrt w g f fo a1 a2 a3 b1 b2 b3 o c1 c2 c3) (x : Obj) : wrt ((w.alloc x).drew) g f fo a1 a2 a3 b1 b2 b3 o c1 c2 c3 :=
  (Below.heap_alloc _ _ _ h.lt).trans h

theorem box_blk (w : World) (x : Obj) : ((w.alloc x).drew).heap[w.heap.size]? = some x := by
  show (w.alloc x).heap[w.heap.size]? = some x
  rw [heap_alloc]; simp

def nx1 (f : Int) (o : Bool) (c1 : Int) : Int := bif o then c1 + 1 else f
def nx2 (o : Bool) (c2 : Int) : Int := bif o then (c2 + 3000) % 4294967296 else 0
def nx3 (o : Bool) (c3 : Int) : Int := bif o then (c3 + 1) % 32768 else 0

theorem bits_and_u16_nat (a b : Nat) (ha : a < 65536) (hb : b < 65536) : bits .and .u16 (a : Int) (b : Int) = ((a &&& b : Nat) : Int) := by
  have hx : a &&& b < 2 ^ 16 := Nat.and_lt_two_pow _ (by omega)
  have h1 : (BitVec.ofInt 16 (a : Int)).toNat = a := by
    rw [BitVec.ofInt_natCast, BitVec.toNat_ofNat]; exact Nat.mod_eq_of_lt (by omega)
  have h2 : (BitVec.ofInt 16 (b : Int)).toNat = b := by
    rw [BitVec.ofInt_natCast, BitVec.toNat_ofNat]; exact Nat.mod_eq_of_lt (by omega)
  show IntKind.u16.wrap ((BitVec.ofInt 16 (a : Int) &&& BitVec.ofInt 16 (b : Int)).toNat : Int) = _
  rw [BitVec.toNat_and, h1, h2, IntKind.wrap_u16]
  omega
theorem and_low15 (d : Int) (h0 : 0 ≤ d) (h1 : d ≤ 65535) : bits BinOp.and IntKind.u16 d 32767 = d % 32768 := by
  obtain ⟨d, rfl⟩ := Int.eq_ofNat_of_zero_le h0
  have h := bits_and_u16_nat d 32767 (by omega) (by omega)
  have e : ((32767 : Nat) : Int) = 32767 := rfl
  rw [e] at h
  rw [h, show (32767 : Nat) = 2 ^ 15 - 1 by decide, Nat.and_two_pow_sub_one_eq_mod]
  omega

set_option maxRecDepth 100000 in
set_option maxHeartbeats 2000000 in
theorem next_any (g : Nat) (f : Int) (fo : Bool) (a1 a2 a3 b1 b2 b3 : Int) (o : Bool) (c1 c2 c3 : Int) (w : World) (hg : wrt w g f fo a1 a2 a3 b1 b2 b3 o c1 c2 c3)
    (hc : -9223372036854775808 ≤ c1 ∧ c1 < 9223372036854775807) (hp : 0 ≤ c3 ∧ c3 ≤ 65535) :
    Calls Try.prog 62 #[.pointer (some ⟨g, 0, none⟩)] w fun e w' => e = .returned (mapped (nx1 f o c1) (nx2 o c2) (nx3 o c3)) ∧ Below w.heap.size w w' := by
  have h0 : w.cell? ⟨g, 0, none⟩ = some (.int .i64 f) := cell_blk hg
  have h8 : w.cell? ⟨g, 8, none⟩ = some (.bool o) := cell_blk hg
  have h9 : w.cell? ⟨g, 9, none⟩ = some (.int .i64 c1) := cell_blk hg
  have h10 : w.cell? ⟨g, 10, none⟩ = some (.int .u32 c2) := cell_blk hg
  have h11 : w.cell? ⟨g, 11, none⟩ = some (.int .u16 c3) := cell_blk hg
  have hl : g < w.heap.size := hg.lt
  have hn : w.heap.size ≠ g := Nat.ne_of_gt hl
  cases o
  · go_enter Try.func62, Try.ntmps62
    go_wp2
    go_returns
    exact ⟨rfl, by (repeat (first | exact Below.refl _ _ | refine Below.alloc ?_ (by first | (simp; done) | (simp; omega) | (simp [size_drewN]; done) | (simp [size_drewN]; omega)) _ | refine Below.drew ?_ | refine below_drewN0 ?_ _ | refine Below.setCell ?_ (by first | (simp; done) | (simp; omega) | (simp [size_drewN]; done) | (simp [size_drewN]; omega)) _))⟩
  · go_enter Try.func62, Try.ntmps62
    go_wp2_with fail
    go_region
    go_wp2
    go_returns
    refine ⟨?_, by (repeat (first | exact Below.refl _ _ | refine Below.alloc ?_ (by first | (simp; done) | (simp; omega) | (simp [size_drewN]; done) | (simp [size_drewN]; omega)) _ | refine Below.drew ?_ | refine below_drewN0 ?_ _ | refine Below.setCell ?_ (by first | (simp; done) | (simp; omega) | (simp [size_drewN]; done) | (simp [size_drewN]; omega)) _))⟩
    rw [and_low15 _ (by rw [IntKind.wrap_u16]; omega) (by rw [IntKind.wrap_u16]; omega), IntKind.wrap_u16, show (c3 + 1) % 65536 % 32768 = (c3 + 1) % 32768 by omega]
    rfl

set_option maxRecDepth 100000 in
set_option maxHeartbeats 2000000 in
theorem follow_any (g : Nat) (f : Int) (fo : Bool) (a1 a2 a3 b1 b2 b3 : Int) (o : Bool) (c1 c2 c3 x1 x2 x3 : Int) (w : World) (hg : wrt w g f fo a1 a2 a3 b1 b2 b3 o c1 c2 c3)
    (hc : -9223372036854775808 ≤ c1 ∧ c1 < 9223372036854775807) (hp : 0 ≤ c3 ∧ c3 ≤ 65535) (hx : 0 ≤ x1) :
    Calls Try.prog 38 #[.pointer (some ⟨g, 0, none⟩), mapped x1 x2 x3] w fun e w' => e = .returned (.int .i64 0) ∧
      wrt w' g f true x1 x2 x3 (nx1 f o c1) (nx2 o c2) (nx3 o c3) o c1 c2 c3 ∧ Keeps g w w' := by
  unfold mapped
  have hl : g < w.heap.size := hg.lt
  have hn : w.heap.size ≠ g := Nat.ne_of_gt hl
  go_enter Try.func38, Try.ntmps38
  go_wp2_with fail
  go_region_with ((first | (go_at_call 62; refine (next_any g f fo a1 a2 a3 b1 b2 b3 o c1 c2 c3 _ (wrt.alloc hg _) hc hp).mono ?_; rintro e w1 ⟨rfl, hb1⟩; unfold mapped; have hg1 := Below.blk hb1 (wrt.alloc hg _) (by simp; omega); have hb2 : w1.heap[w.heap.size]? = some (.cells #[.int .i64 x1, .int .u32 x2, .int .u16 x3] 68 (0, 0)) := Below.blk hb1 (box_blk w _) (by simp); have l0 : w1.cell? ⟨w.heap.size, 0, none⟩ = some (.int .i64 x1) := cell_blk hb2; have l1 : w1.cell? ⟨w.heap.size, 1, none⟩ = some (.int .u32 x2) := cell_blk hb2; have l2 : w1.cell? ⟨w.heap.size, 2, none⟩ = some (.int .u16 x3) := cell_blk hb2; have i1 : w1.cell? ⟨g, 1, none⟩ = some (.bool fo) := cell_blk hg1; have i2 : w1.cell? ⟨g, 2, none⟩ = some (.int .i64 a1) := cell_blk hg1; have i3 : w1.cell? ⟨g, 3, none⟩ = some (.int .u32 a2) := cell_blk hg1; have i4 : w1.cell? ⟨g, 4, none⟩ = some (.int .u16 a3) := cell_blk hg1; have i5 : w1.cell? ⟨g, 5, none⟩ = some (.int .i64 b1) := cell_blk hg1; have i6 : w1.cell? ⟨g, 6, none⟩ = some (.int .u32 b2) := cell_blk hg1; have i7 : w1.cell? ⟨g, 7, none⟩ = some (.int .u16 b3) := cell_blk hg1; have j1 : w1.frozen? ⟨g, 1, none⟩ = false := free_blk hg1; have j2 : w1.frozen? ⟨g, 2, none⟩ = false := free_blk hg1; have j3 : w1.frozen? ⟨g, 3, none⟩ = false := free_blk hg1; have j4 : w1.frozen? ⟨g, 4, none⟩ = false := free_blk hg1; have j5 : w1.frozen? ⟨g, 5, none⟩ = false := free_blk hg1; have j6 : w1.frozen? ⟨g, 6, none⟩ = false := free_blk hg1; have j7 : w1.frozen? ⟨g, 7, none⟩ = false := free_blk hg1)))
  all_goals
    go_wp2
    go_returns
    refine ⟨rfl, ?_, ?_⟩
    · unfold wrt
      simp [heap_set, hg1, putIn]
    · have hk0 : Keeps g w ((w.alloc (Obj.cells #[.int .i64 x1, .int .u32 x2, .int .u16 x3] 68 (0, 0))).drew) := ((Keeps.refl g w).alloc _).drew
      have hkk : Keeps g w w1 := hk0.of_below hb1
      clear hk0
      iterate 7 (refine Keeps.setCell ?_ (by left; rfl) _)
      exact hkk
end Go.Proofs.Ytkdjkaimcciemaa
