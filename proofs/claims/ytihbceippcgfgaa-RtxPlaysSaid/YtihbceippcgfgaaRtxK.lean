/-
  Chapter 34: packets that came in, and small laws.
-/
import Derived.Test.YtihbceippcgfgaaRtxU
import Derived.Test.YtihbceippcgfgaaSame10
namespace Go.Proofs.Ytihbceippcgfgaa
open Go.RowKit
set_option linter.unusedVariables false
set_option linter.unusedSimpArgs false
attribute [local irreducible] wpStill wpQuiet

theorem arr11 {cs : Array Value} {a0 a1 a2 a3 a4 a5 a6 a7 a8 a9 a10 : Value} (hl : cs.size = 11) (h0 : cs[0]? = some a0) (h1 : cs[1]? = some a1) (h2 : cs[2]? = some a2) (h3 : cs[3]? = some a3) (h4 : cs[4]? = some a4) (h5 : cs[5]? = some a5) (h6 : cs[6]? = some a6) (h7 : cs[7]? = some a7) (h8 : cs[8]? = some a8) (h9 : cs[9]? = some a9) (h10 : cs[10]? = some a10) : cs = #[a0, a1, a2, a3, a4, a5, a6, a7, a8, a9, a10] := by
  apply Array.ext
  · simpa using hl
  · intro i h1 h2
    have : i = 0 ∨ i = 1 ∨ i = 2 ∨ i = 3 ∨ i = 4 ∨ i = 5 ∨ i = 6 ∨ i = 7 ∨ i = 8 ∨ i = 9 ∨ i = 10 := by simp at h2; omega
    rcases this with rfl | rfl | rfl | rfl | rfl | rfl | rfl | rfl | rfl | rfl | rfl <;> simp_all
theorem leavesRtp : leaves Try.prog 6 44 = some [4, 5, 40, 41, 41, 42, 4, 40, 25, 25, 5] := by kernel_rfl
theorem leavesU8 : leaves Try.prog 5 5 = some [5] := by kernel_rfl
theorem leavesU32 : leaves Try.prog 5 41 = some [41] := by kernel_rfl
/-- bytes that came in -/
theorem bs_of {w : World} {v : Value} (h : Reads Try.prog w 6 25 v) : ∃ a n c Z, v = .slice a n c ∧ BS w.heap.size w a n c Z := by
  obtain ⟨a, n, c, b, off, V, rfl, R⟩ := reads_slice Try.underlying25 leavesU8 (by kernel_rfl) (by decide) h
  obtain ⟨h1, h2, h3, h4, h5⟩ := R
  have hx : ∀ i, i < c → ∃ z, V i 0 = .int .u8 z ∧ (Lit.int .u8 z).wf = true := fun i hi => reads_int Try.underlying5 (h5 i hi 0 5 rfl)
  obtain ⟨Z, hZ⟩ := Deep.choose_lt (α := Int) (n := c) (p := fun i z => V i 0 = .int .u8 z ∧ (Lit.int .u8 z).wf = true) hx
  refine ⟨a, n, c, Z, rfl, h2, by unfold maxLen at h3; omega, fun i hi => bounds_u8 (hZ i (by omega)).2, b, off, h1, fun i hi => ?_⟩
  have := h4 i (by omega) 0 (by decide)
  simp at this
  rw [this, (hZ i (by omega)).1]
theorem us_of {w : World} {v : Value} (h : Reads Try.prog w 6 42 v) : ∃ a n c V, v = .slice a n c ∧ US w.heap.size w a n c V := by
  obtain ⟨a, n, c, b, off, V, rfl, R⟩ := reads_slice Try.underlying42 leavesU32 (by kernel_rfl) (by decide) h
  obtain ⟨h1, h2, h3, h4, h5⟩ := R
  have hx : ∀ i, i < c → ∃ z, V i 0 = .int .u32 z ∧ (Lit.int .u32 z).wf = true := fun i hi => reads_int Try.underlying41 (h5 i hi 0 41 rfl)
  obtain ⟨Z, hZ⟩ := Deep.choose_lt (α := Int) (n := c) (p := fun i z => V i 0 = .int .u32 z ∧ (Lit.int .u32 z).wf = true) hx
  refine ⟨a, n, c, Z, rfl, h2, by unfold maxLen at h3; omega, fun h0 => ⟨b, off, (h1 (by omega)).1, (h1 (by omega)).2, fun i hi => ?_⟩⟩
  have := h4 i (by omega) 0 (by decide)
  simp at this
  rw [this, (hZ i (by omega)).1]
/-- a packet that came in -/
theorem rtp_of {w : World} {v : Value} (h : ArgS Try.prog w 44 v) : ∃ (m : Bool) (ty sq st src : Int) (oa : Option Addr) (on oc : Nat) (ex : Bool) (pr : Int) (xa : Option Addr) (xn xc : Nat) (a : Option Addr) (n c : Nat) (pd : Int) (V X Z : Nat → Int),
    v = .agg #[(.bool m), (.int .u8 ty), (.int .u16 sq), (.int .u32 st), (.int .u32 src), (.slice oa on oc), (.bool ex), (.int .u16 pr), (.slice xa xn xc), (.slice a n c), (.int .u8 pd)] ∧ US w.heap.size w oa on oc V ∧ BS w.heap.size w xa xn xc X ∧ BS w.heap.size w a n c Z ∧ 0 ≤ sq ∧ sq ≤ 65535 ∧ 0 ≤ src ∧ src ≤ 4294967295 ∧ 0 ≤ ty ∧ ty ≤ 255 := by
  obtain ⟨cs, rfl, hx⟩ := h
  obtain ⟨hs, hr⟩ := hx 6 _ leavesRtp
  obtain ⟨x0, e0, r0⟩ := hr 0 _ rfl
  obtain ⟨x1, e1, r1⟩ := hr 1 _ rfl
  obtain ⟨x2, e2, r2⟩ := hr 2 _ rfl
  obtain ⟨x3, e3, r3⟩ := hr 3 _ rfl
  obtain ⟨x4, e4, r4⟩ := hr 4 _ rfl
  obtain ⟨x5, e5, r5⟩ := hr 5 _ rfl
  obtain ⟨x6, e6, r6⟩ := hr 6 _ rfl
  obtain ⟨x7, e7, r7⟩ := hr 7 _ rfl
  obtain ⟨x8, e8, r8⟩ := hr 8 _ rfl
  obtain ⟨x9, e9, r9⟩ := hr 9 _ rfl
  obtain ⟨x10, e10, r10⟩ := hr 10 _ rfl
  have := arr11 hs e0 e1 e2 e3 e4 e5 e6 e7 e8 e9 e10
  subst this
  obtain ⟨m, rfl⟩ := reads_bool Try.underlying4 r0
  obtain ⟨ty, rfl, w1⟩ := reads_int Try.underlying5 r1
  obtain ⟨sq, rfl, w2⟩ := reads_int Try.underlying40 r2
  obtain ⟨st, rfl, w3⟩ := reads_int Try.underlying41 r3
  obtain ⟨src, rfl, w4⟩ := reads_int Try.underlying41 r4
  obtain ⟨oa, on, oc, V, rfl, u5⟩ := us_of r5
  obtain ⟨ex, rfl⟩ := reads_bool Try.underlying4 r6
  obtain ⟨pr, rfl, w7⟩ := reads_int Try.underlying40 r7
  obtain ⟨xa, xn, xc, X, rfl, u8⟩ := bs_of r8
  obtain ⟨a, n, c, Z, rfl, u9⟩ := bs_of r9
  obtain ⟨pd, rfl, w10⟩ := reads_int Try.underlying5 r10
  have b1 := bounds_u8 w1
  have b2 := bounds_u16 w2
  have b4 := bounds_u32 w4
  exact ⟨m, ty, sq, st, src, oa, on, oc, ex, pr, xa, xn, xc, a, n, c, pd, V, X, Z, rfl, u5, u8, u9, b2.1, b2.2, b4.1, b4.2, b1.1, b1.2⟩
def greatB (n xn on : Nat) : Bool := decide (2000 < n) || decide (2000 < xn) || decide (100 < on)
set_option maxRecDepth 100000 in
set_option maxHeartbeats 2000000 in
theorem great_any (w : World) (m : Bool) (ty sq st src : Int) (oa : Option Addr) (on oc : Nat) (ex : Bool) (pr : Int) (xa : Option Addr) (xn xc : Nat) (a : Option Addr) (n c : Nat) (pd : Int) :
    Calls Try.prog 25 #[.agg #[(.bool m), (.int .u8 ty), (.int .u16 sq), (.int .u32 st), (.int .u32 src), (.slice oa on oc), (.bool ex), (.int .u16 pr), (.slice xa xn xc), (.slice a n c), (.int .u8 pd)]] w fun e w' => e = .returned (.bool (greatB n xn on)) ∧ Below w.heap.size w w' := by
  have h1 : greatB n xn on = (decide (2000 < n) || decide (2000 < xn) || decide (100 < on)) := rfl
  rw [h1]
  by_cases c1 : 2000 < n
  · have d1 : decide ((2000 : Int) < n) = true := by (simp; omega)
    go_enter Try.func25, Try.ntmps25
    go_wp2_with fail
    go_ret
    exact ⟨by simp [c1], by (repeat (first | exact Below.refl _ _ | refine Below.alloc ?_ (by first | (simp; done) | (simp; omega) | (simp [size_drewN]; done) | (simp [size_drewN]; omega)) _ | refine Below.drew ?_ | refine below_drewN0 ?_ _ | refine Below.setCell ?_ (by first | (simp; done) | (simp; omega) | (simp [size_drewN]; done) | (simp [size_drewN]; omega)) _))⟩
  · have d1 : decide ((2000 : Int) < n) = false := by (simp; omega)
    by_cases c2 : 2000 < xn
    · have d2 : decide ((2000 : Int) < xn) = true := by (simp; omega)
      go_enter Try.func25, Try.ntmps25
      go_wp2_with fail
      go_ret
      exact ⟨by simp [c1, c2], by (repeat (first | exact Below.refl _ _ | refine Below.alloc ?_ (by first | (simp; done) | (simp; omega) | (simp [size_drewN]; done) | (simp [size_drewN]; omega)) _ | refine Below.drew ?_ | refine below_drewN0 ?_ _ | refine Below.setCell ?_ (by first | (simp; done) | (simp; omega) | (simp [size_drewN]; done) | (simp [size_drewN]; omega)) _))⟩
    · have d2 : decide ((2000 : Int) < xn) = false := by (simp; omega)
      go_enter Try.func25, Try.ntmps25
      go_wp2_with fail
      go_ret
      exact ⟨by simp [c1, c2]; omega, by (repeat (first | exact Below.refl _ _ | refine Below.alloc ?_ (by first | (simp; done) | (simp; omega) | (simp [size_drewN]; done) | (simp [size_drewN]; omega)) _ | refine Below.drew ?_ | refine below_drewN0 ?_ _ | refine Below.setCell ?_ (by first | (simp; done) | (simp; omega) | (simp [size_drewN]; done) | (simp [size_drewN]; omega)) _))⟩
theorem BS.up {w w' : World} {a : Option Addr} {n c : Nat} {Z : Nat → Int} (h : BS w.heap.size w a n c Z) (hb : Below w.heap.size w w') : BS w'.heap.size w' a n c Z := (h.keep hb).mono hb.size
theorem US.mono {B B' : Nat} {w : World} {a : Option Addr} {n c : Nat} {Z : Nat → Int} (h : US B w a n c Z) (hb : B ≤ B') : US B' w a n c Z := ⟨h.le, h.max, fun h0 => by obtain ⟨b, off, h1, h2, h3⟩ := h.mem h0; exact ⟨b, off, h1, by omega, h3⟩⟩
theorem US.up {w w' : World} {a : Option Addr} {n c : Nat} {Z : Nat → Int} (h : US w.heap.size w a n c Z) (hb : Below w.heap.size w w') : US w'.heap.size w' a n c Z := (h.keep hb).mono hb.size
theorem bmore {u w w' : World} (h : Below u.heap.size u w) (k : Below w.heap.size w w') : Below u.heap.size u w' := h.trans (k.mono h.size)
theorem bplus {u w : World} (h : Below u.heap.size u w) (o : Obj) : Below u.heap.size u (w.alloc o) := h.alloc h.size o
theorem bone (u : World) (o : Obj) : Below u.heap.size u (u.alloc o) := (Below.refl _ u).alloc (Nat.le_refl _) o
theorem wrapped_num (sq : Int) (Z : Nat → Int) (h0 : 0 ≤ sq) (h1 : sq ≤ 65535) : numv (catZ (putZ (fun _ => 0) 0 sq 2) 2 Z) 0 2 = sq := by
  simp [numv, catZ, putZ]; omega
theorem wrapped_rest (sq : Int) (Z : Nat → Int) (i : Nat) : catZ (putZ (fun _ => 0) 0 sq 2) 2 Z (2 + i) = Z i := by unfold catZ; rw [if_neg (by omega)]; congr 1; omega
end Go.Proofs.Ytihbceippcgfgaa
