/-
  Chapter 34: packets in a slice that came in.
-/
import Derived.Test.YtihbceippcgfgaaRtxK
namespace Go.Proofs.Ytihbceippcgfgaa
open Go.RowKit
set_option linter.unusedVariables false
set_option linter.unusedSimpArgs false
attribute [local irreducible] wpStill wpQuiet

structure Pk where
  m : Bool
  ty : Int
  sq : Int
  st : Int
  src : Int
  oa : Option Addr
  on : Nat
  oc : Nat
  ex : Bool
  pr : Int
  xa : Option Addr
  xn : Nat
  xc : Nat
  a : Option Addr
  n : Nat
  c : Nat
  pd : Int
  V : Nat → Int
  X : Nat → Int
  Z : Nat → Int
instance : Inhabited Pk := ⟨⟨false, 0, 0, 0, 0, none, 0, 0, false, 0, none, 0, 0, none, 0, 0, 0, fun _ => 0, fun _ => 0, fun _ => 0⟩⟩
structure PkOk (w : World) (p : Pk) : Prop where
  o : US w.heap.size w p.oa p.on p.oc p.V
  x : BS w.heap.size w p.xa p.xn p.xc p.X
  z : BS w.heap.size w p.a p.n p.c p.Z
  q0 : 0 ≤ p.sq
  q1 : p.sq ≤ 65535
  s : (Lit.int .u32 p.src).wf = true
def Pk.cell (p : Pk) : Nat → Value
  | 0 => .bool p.m
  | 1 => .int .u8 p.ty
  | 2 => .int .u16 p.sq
  | 3 => .int .u32 p.st
  | 4 => .int .u32 p.src
  | 5 => .slice p.oa p.on p.oc
  | 6 => .bool p.ex
  | 7 => .int .u16 p.pr
  | 8 => .slice p.xa p.xn p.xc
  | 9 => .slice p.a p.n p.c
  | _ => .int .u8 p.pd
theorem leavesU8' : leaves Try.prog 4 5 = some [5] := by kernel_rfl
theorem leavesU32' : leaves Try.prog 4 41 = some [41] := by kernel_rfl
theorem bs_of5 {w : World} {v : Value} (h : Reads Try.prog w 5 25 v) : ∃ a n c Z, v = .slice a n c ∧ BS w.heap.size w a n c Z := by
  obtain ⟨a, n, c, b, off, V, rfl, R⟩ := reads_slice Try.underlying25 leavesU8' (by kernel_rfl) (by decide) h
  obtain ⟨h1, h2, h3, h4, h5⟩ := R
  have hx : ∀ i, i < c → ∃ z, V i 0 = .int .u8 z ∧ (Lit.int .u8 z).wf = true := fun i hi => reads_int Try.underlying5 (h5 i hi 0 5 rfl)
  obtain ⟨Z, hZ⟩ := Deep.choose_lt (α := Int) (n := c) (p := fun i z => V i 0 = .int .u8 z ∧ (Lit.int .u8 z).wf = true) hx
  refine ⟨a, n, c, Z, rfl, h2, by unfold maxLen at h3; omega, fun i hi => bounds_u8 (hZ i (by omega)).2, b, off, h1, fun i hi => ?_⟩
  have := h4 i (by omega) 0 (by decide)
  simp at this
  rw [this, (hZ i (by omega)).1]
theorem us_of5 {w : World} {v : Value} (h : Reads Try.prog w 5 42 v) : ∃ a n c V, v = .slice a n c ∧ US w.heap.size w a n c V := by
  obtain ⟨a, n, c, b, off, V, rfl, R⟩ := reads_slice Try.underlying42 leavesU32' (by kernel_rfl) (by decide) h
  obtain ⟨h1, h2, h3, h4, h5⟩ := R
  have hx : ∀ i, i < c → ∃ z, V i 0 = .int .u32 z ∧ (Lit.int .u32 z).wf = true := fun i hi => reads_int Try.underlying41 (h5 i hi 0 41 rfl)
  obtain ⟨Z, hZ⟩ := Deep.choose_lt (α := Int) (n := c) (p := fun i z => V i 0 = .int .u32 z ∧ (Lit.int .u32 z).wf = true) hx
  refine ⟨a, n, c, Z, rfl, h2, by unfold maxLen at h3; omega, fun h0 => ⟨b, off, (h1 (by omega)).1, (h1 (by omega)).2, fun i hi => ?_⟩⟩
  have := h4 i (by omega) 0 (by decide)
  simp at this
  rw [this, (hZ i (by omega)).1]
def rtpLeaves : List TypeId := [4, 5, 40, 41, 41, 42, 4, 40, 25, 25, 5]
theorem pk_of {w : World} (c : Nat → Value) (h : ∀ j u, rtpLeaves[j]? = some u → Reads Try.prog w 5 u (c j)) : ∃ p : Pk, (∀ j, j < 11 → c j = p.cell j) ∧ PkOk w p := by
  obtain ⟨m, e0⟩ := reads_bool Try.underlying4 (h 0 _ rfl)
  obtain ⟨ty, e1, w1⟩ := reads_int Try.underlying5 (h 1 _ rfl)
  obtain ⟨sq, e2, w2⟩ := reads_int Try.underlying40 (h 2 _ rfl)
  obtain ⟨st, e3, w3⟩ := reads_int Try.underlying41 (h 3 _ rfl)
  obtain ⟨src, e4, w4⟩ := reads_int Try.underlying41 (h 4 _ rfl)
  obtain ⟨oa, on, oc, V, e5, u5⟩ := us_of5 (h 5 _ rfl)
  obtain ⟨ex, e6⟩ := reads_bool Try.underlying4 (h 6 _ rfl)
  obtain ⟨pr, e7, w7⟩ := reads_int Try.underlying40 (h 7 _ rfl)
  obtain ⟨xa, xn, xc, X, e8, u8⟩ := bs_of5 (h 8 _ rfl)
  obtain ⟨a, n, c', Z, e9, u9⟩ := bs_of5 (h 9 _ rfl)
  obtain ⟨pd, e10, w10⟩ := reads_int Try.underlying5 (h 10 _ rfl)
  have b2 := bounds_u16 w2
  refine ⟨⟨m, ty, sq, st, src, oa, on, oc, ex, pr, xa, xn, xc, a, n, c', pd, V, X, Z⟩, fun j hj => ?_, u5, u8, u9, b2.1, b2.2, w4⟩
  have : j = 0 ∨ j = 1 ∨ j = 2 ∨ j = 3 ∨ j = 4 ∨ j = 5 ∨ j = 6 ∨ j = 7 ∨ j = 8 ∨ j = 9 ∨ j = 10 := by omega
  rcases this with rfl | rfl | rfl | rfl | rfl | rfl | rfl | rfl | rfl | rfl | rfl <;> assumption
theorem rtps_of {w : World} {v : Value} (h : Reads Try.prog w 6 53 v) : ∃ a len cap b off, ∃ Q : Nat → Pk, v = .slice a len cap ∧ (0 < cap → a = some ⟨b, off, none⟩ ∧ b < w.heap.size) ∧ len ≤ cap ∧ cap ≤ 9223372036854775807 ∧
    ∀ i, i < cap → (∀ j, j < 11 → w.cell? ⟨b, off + i * 11 + j, none⟩ = some ((Q i).cell j)) ∧ PkOk w (Q i) := by
  obtain ⟨a, len, cap, b, off, V, rfl, row⟩ := reads_slice Try.underlying53 (ts := rtpLeaves) (by kernel_rfl) (by kernel_rfl) (by decide) h
  obtain ⟨Q, hQ⟩ := Deep.choose_lt (n := cap) (α := Pk) (p := fun i p => (∀ j, j < 11 → V i j = p.cell j) ∧ PkOk w p) (fun i hi => pk_of (V i) (fun j u hj => row.read i hi j u hj))
  have hm := row.max
  unfold maxLen at hm
  refine ⟨a, len, cap, b, off, Q, rfl, row.addr, row.le, by omega, fun i hi => ⟨fun j hj => ?_, (hQ i hi).2⟩⟩
  have := row.cell i hi j (by show j < 11; exact hj)
  rw [(hQ i hi).1 j hj] at this
  rw [← this, show rtpLeaves.length = 11 from rfl, Nat.add_assoc]
theorem PkOk.up {w w' : World} {p : Pk} (h : PkOk w p) (hb : Below w.heap.size w w') : PkOk w' p := ⟨h.o.up hb, h.x.up hb, h.z.up hb, h.q0, h.q1, h.s⟩
end Go.Proofs.Ytihbceippcgfgaa
