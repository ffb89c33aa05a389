/-
  The law RtxWraps.
-/
import Derived.Test.YtihbceippcgfgaaRtxA
import Derived.Test.YtihbceippcgfgaaRtxU
import Derived.Test.YtihbceippcgfgaaRtxV
import Derived.Test.YtihbceippcgfgaaRtxX
import Derived.Test.YtihbceippcgfgaaSame10
import Derived.Test.YtihbceippcgfgaaMix
namespace Go.Proofs.Ytihbceippcgfgaa
open Go.RowKit
set_option linter.unusedVariables false
set_option linter.unusedSimpArgs false
attribute [local irreducible] wpStill wpQuiet

attribute [local go_sem] rdOp rd rdUpon mvUpon
theorem arr11 {cs : Array Value} {a0 a1 a2 a3 a4 a5 a6 a7 a8 a9 a10 : Value} (hl : cs.size = 11) (h0 : cs[0]? = some a0) (h1 : cs[1]? = some a1) (h2 : cs[2]? = some a2) (h3 : cs[3]? = some a3) (h4 : cs[4]? = some a4) (h5 : cs[5]? = some a5) (h6 : cs[6]? = some a6) (h7 : cs[7]? = some a7) (h8 : cs[8]? = some a8) (h9 : cs[9]? = some a9) (h10 : cs[10]? = some a10) : cs = #[a0, a1, a2, a3, a4, a5, a6, a7, a8, a9, a10] := by
  apply Array.ext
  · simpa using hl
  · intro i h1 h2
    have : i = 0 ∨ i = 1 ∨ i = 2 ∨ i = 3 ∨ i = 4 ∨ i = 5 ∨ i = 6 ∨ i = 7 ∨ i = 8 ∨ i = 9 ∨ i = 10 := by simp at h2; omega
    rcases this with rfl | rfl | rfl | rfl | rfl | rfl | rfl | rfl | rfl | rfl | rfl <;> simp_all
theorem leavesRtp : leaves Try.prog 6 44 = some [4, 5, 40, 41, 41, 42, 4, 40, 25, 25, 5] := by kernel_rfl
theorem leavesU8 : leaves Try.prog 5 5 = some [5] := by kernel_rfl
theorem leavesU32 : leaves Try.prog 5 41 = some [41] := by kernel_rfl
/-- bytes that came in -/
theorem bs_of {w : World} {v : Value} (h : Reads Try.prog w 6 25 v) : ∃ a n c Z, v = .slice a n c ∧ BS w.heap.size w a n c Z := by
  obtain ⟨a, n, c, b, off, V, rfl, R⟩ := reads_slice Try.underlying25 leavesU8 (by kernel_rfl) (by decide) h
  obtain ⟨h1, h2, h3, h4, h5⟩ := R
  have hx : ∀ i, i < c → ∃ z, V i 0 = .int .u8 z ∧ (Lit.int .u8 z).wf = true := fun i hi => reads_int Try.underlying5 (h5 i hi 0 5 rfl)
  obtain ⟨Z, hZ⟩ := Deep.choose_lt (α := Int) (n := c) (p := fun i z => V i 0 = .int .u8 z ∧ (Lit.int .u8 z).wf = true) hx
  refine ⟨a, n, c, Z, rfl, h2, by unfold maxLen at h3; omega, fun i hi => bounds_u8 (hZ i (by omega)).2, b, off, h1, fun i hi => ?_⟩
  have := h4 i (by omega) 0 (by decide)
  simp at this
  rw [this, (hZ i (by omega)).1]
theorem us_of {w : World} {v : Value} (h : Reads Try.prog w 6 42 v) : ∃ a n c V, v = .slice a n c ∧ US w.heap.size w a n c V := by
  obtain ⟨a, n, c, b, off, V, rfl, R⟩ := reads_slice Try.underlying42 leavesU32 (by kernel_rfl) (by decide) h
  obtain ⟨h1, h2, h3, h4, h5⟩ := R
  have hx : ∀ i, i < c → ∃ z, V i 0 = .int .u32 z ∧ (Lit.int .u32 z).wf = true := fun i hi => reads_int Try.underlying41 (h5 i hi 0 41 rfl)
  obtain ⟨Z, hZ⟩ := Deep.choose_lt (α := Int) (n := c) (p := fun i z => V i 0 = .int .u32 z ∧ (Lit.int .u32 z).wf = true) hx
  refine ⟨a, n, c, Z, rfl, h2, by unfold maxLen at h3; omega, fun h0 => ⟨b, off, (h1 (by omega)).1, (h1 (by omega)).2, fun i hi => ?_⟩⟩
  have := h4 i (by omega) 0 (by decide)
  simp at this
  rw [this, (hZ i (by omega)).1]
/-- a packet that came in -/
theorem rtp_of {w : World} {v : Value} (h : ArgS Try.prog w 44 v) : ∃ (m : Bool) (ty sq st src : Int) (oa : Option Addr) (on oc : Nat) (ex : Bool) (pr : Int) (xa : Option Addr) (xn xc : Nat) (a : Option Addr) (n c : Nat) (pd : Int) (V X Z : Nat → Int),
    v = .agg #[(.bool m), (.int .u8 ty), (.int .u16 sq), (.int .u32 st), (.int .u32 src), (.slice oa on oc), (.bool ex), (.int .u16 pr), (.slice xa xn xc), (.slice a n c), (.int .u8 pd)] ∧ US w.heap.size w oa on oc V ∧ BS w.heap.size w xa xn xc X ∧ BS w.heap.size w a n c Z ∧ 0 ≤ sq ∧ sq ≤ 65535 ∧ 0 ≤ src ∧ src ≤ 4294967295 ∧ 0 ≤ ty ∧ ty ≤ 255 := by
  obtain ⟨cs, rfl, hx⟩ := h
  obtain ⟨hs, hr⟩ := hx 6 _ leavesRtp
  obtain ⟨x0, e0, r0⟩ := hr 0 _ rfl
  obtain ⟨x1, e1, r1⟩ := hr 1 _ rfl
  obtain ⟨x2, e2, r2⟩ := hr 2 _ rfl
  obtain ⟨x3, e3, r3⟩ := hr 3 _ rfl
  obtain ⟨x4, e4, r4⟩ := hr 4 _ rfl
  obtain ⟨x5, e5, r5⟩ := hr 5 _ rfl
  obtain ⟨x6, e6, r6⟩ := hr 6 _ rfl
  obtain ⟨x7, e7, r7⟩ := hr 7 _ rfl
  obtain ⟨x8, e8, r8⟩ := hr 8 _ rfl
  obtain ⟨x9, e9, r9⟩ := hr 9 _ rfl
  obtain ⟨x10, e10, r10⟩ := hr 10 _ rfl
  have := arr11 hs e0 e1 e2 e3 e4 e5 e6 e7 e8 e9 e10
  subst this
  obtain ⟨m, rfl⟩ := reads_bool Try.underlying4 r0
  obtain ⟨ty, rfl, w1⟩ := reads_int Try.underlying5 r1
  obtain ⟨sq, rfl, w2⟩ := reads_int Try.underlying40 r2
  obtain ⟨st, rfl, w3⟩ := reads_int Try.underlying41 r3
  obtain ⟨src, rfl, w4⟩ := reads_int Try.underlying41 r4
  obtain ⟨oa, on, oc, V, rfl, u5⟩ := us_of r5
  obtain ⟨ex, rfl⟩ := reads_bool Try.underlying4 r6
  obtain ⟨pr, rfl, w7⟩ := reads_int Try.underlying40 r7
  obtain ⟨xa, xn, xc, X, rfl, u8⟩ := bs_of r8
  obtain ⟨a, n, c, Z, rfl, u9⟩ := bs_of r9
  obtain ⟨pd, rfl, w10⟩ := reads_int Try.underlying5 r10
  have b1 := bounds_u8 w1
  have b2 := bounds_u16 w2
  have b4 := bounds_u32 w4
  exact ⟨m, ty, sq, st, src, oa, on, oc, ex, pr, xa, xn, xc, a, n, c, pd, V, X, Z, rfl, u5, u8, u9, b2.1, b2.2, b4.1, b4.2, b1.1, b1.2⟩
def greatB (n xn on : Nat) : Bool := decide (2000 < n) || decide (2000 < xn) || decide (100 < on)
set_option maxRecDepth 100000 in
set_option maxHeartbeats 2000000 in
theorem great_any (w : World) (m : Bool) (ty sq st src : Int) (oa : Option Addr) (on oc : Nat) (ex : Bool) (pr : Int) (xa : Option Addr) (xn xc : Nat) (a : Option Addr) (n c : Nat) (pd : Int) :
    Calls Try.prog 25 #[.agg #[(.bool m), (.int .u8 ty), (.int .u16 sq), (.int .u32 st), (.int .u32 src), (.slice oa on oc), (.bool ex), (.int .u16 pr), (.slice xa xn xc), (.slice a n c), (.int .u8 pd)]] w fun e w' => e = .returned (.bool (greatB n xn on)) ∧ Below w.heap.size w w' := by
  have h1 : greatB n xn on = (decide (2000 < n) || decide (2000 < xn) || decide (100 < on)) := rfl
  rw [h1]
  by_cases c1 : 2000 < n
  · have d1 : decide ((2000 : Int) < n) = true := by (simp; omega)
    go_enter Try.func25, Try.ntmps25
    go_wp2_with fail
    go_ret
    exact ⟨by simp [c1], by (repeat (first | exact Below.refl _ _ | refine Below.alloc ?_ (by first | (simp; done) | (simp; omega) | (simp [size_drewN]; done) | (simp [size_drewN]; omega)) _ | refine Below.drew ?_ | refine below_drewN0 ?_ _ | refine Below.setCell ?_ (by first | (simp; done) | (simp; omega) | (simp [size_drewN]; done) | (simp [size_drewN]; omega)) _))⟩
  · have d1 : decide ((2000 : Int) < n) = false := by (simp; omega)
    by_cases c2 : 2000 < xn
    · have d2 : decide ((2000 : Int) < xn) = true := by (simp; omega)
      go_enter Try.func25, Try.ntmps25
      go_wp2_with fail
      go_ret
      exact ⟨by simp [c1, c2], by (repeat (first | exact Below.refl _ _ | refine Below.alloc ?_ (by first | (simp; done) | (simp; omega) | (simp [size_drewN]; done) | (simp [size_drewN]; omega)) _ | refine Below.drew ?_ | refine below_drewN0 ?_ _ | refine Below.setCell ?_ (by first | (simp; done) | (simp; omega) | (simp [size_drewN]; done) | (simp [size_drewN]; omega)) _))⟩
    · have d2 : decide ((2000 : Int) < xn) = false := by (simp; omega)
      go_enter Try.func25, Try.ntmps25
      go_wp2_with fail
      go_ret
      exact ⟨by simp [c1, c2]; omega, by (repeat (first | exact Below.refl _ _ | refine Below.alloc ?_ (by first | (simp; done) | (simp; omega) | (simp [size_drewN]; done) | (simp [size_drewN]; omega)) _ | refine Below.drew ?_ | refine below_drewN0 ?_ _ | refine Below.setCell ?_ (by first | (simp; done) | (simp; omega) | (simp [size_drewN]; done) | (simp [size_drewN]; omega)) _))⟩
theorem BS.up {w w' : World} {a : Option Addr} {n c : Nat} {Z : Nat → Int} (h : BS w.heap.size w a n c Z) (hb : Below w.heap.size w w') : BS w'.heap.size w' a n c Z := (h.keep hb).mono hb.size
theorem US.mono {B B' : Nat} {w : World} {a : Option Addr} {n c : Nat} {Z : Nat → Int} (h : US B w a n c Z) (hb : B ≤ B') : US B' w a n c Z := ⟨h.le, h.max, fun h0 => by obtain ⟨b, off, h1, h2, h3⟩ := h.mem h0; exact ⟨b, off, h1, by omega, h3⟩⟩
theorem US.up {w w' : World} {a : Option Addr} {n c : Nat} {Z : Nat → Int} (h : US w.heap.size w a n c Z) (hb : Below w.heap.size w w') : US w'.heap.size w' a n c Z := (h.keep hb).mono hb.size
theorem bmore {u w w' : World} (h : Below u.heap.size u w) (k : Below w.heap.size w w') : Below u.heap.size u w' := h.trans (k.mono h.size)
theorem bplus {u w : World} (h : Below u.heap.size u w) (o : Obj) : Below u.heap.size u (w.alloc o) := h.alloc h.size o
theorem bone (u : World) (o : Obj) : Below u.heap.size u (u.alloc o) := (Below.refl _ u).alloc (Nat.le_refl _) o
set_option maxRecDepth 100000 in
set_option maxHeartbeats 2000000 in
theorem refunwrap_short (B : Nat) (w : World) (m : Bool) (ty sq st src : Int) (oa : Option Addr) (on oc : Nat) (ex : Bool) (pr : Int) (xa : Option Addr) (xn xc : Nat) (a : Option Addr) (n c : Nat) (Z : Nat → Int) (pd : Int) (src' ty' : Int) (hn2 : n < 2) :
    Calls Try.prog 28 #[.agg #[(.bool m), (.int .u8 ty), (.int .u16 sq), (.int .u32 st), (.int .u32 src), (.slice oa on oc), (.bool ex), (.int .u16 pr), (.slice xa xn xc), (.slice a n c), (.int .u8 pd)], .int .u32 src', .int .u8 ty'] w fun e w' => e = .returned (.tuple #[.agg #[(.bool false), (.int .u8 0), (.int .u16 0), (.int .u32 0), (.int .u32 0), (.slice none 0 0), (.bool false), (.int .u16 0), (.slice none 0 0), (.slice none 0 0), (.int .u8 0)], .bool false]) ∧ Below w.heap.size w w' := by
  go_enter Try.func28, Try.ntmps28
  go_wp2_with fail
  exact bodyPost_ret (v := .tuple #[.agg #[(.bool false), (.int .u8 0), (.int .u16 0), (.int .u32 0), (.int .u32 0), (.slice none 0 0), (.bool false), (.int .u16 0), (.slice none 0 0), (.slice none 0 0), (.int .u8 0)], .bool false]) (by simp [results, Try.results28, go_sem]) rfl ⟨rfl, by (repeat (first | exact Below.refl _ _ | refine Below.alloc ?_ (by first | (simp; done) | (simp; omega) | (simp [size_drewN]; done) | (simp [size_drewN]; omega)) _ | refine Below.drew ?_ | refine below_drewN0 ?_ _ | refine Below.setCell ?_ (by first | (simp; done) | (simp; omega) | (simp [size_drewN]; done) | (simp [size_drewN]; omega)) _))⟩
theorem wrapped_num (sq : Int) (Z : Nat → Int) (h0 : 0 ≤ sq) (h1 : sq ≤ 65535) : numv (catZ (putZ (fun _ => 0) 0 sq 2) 2 Z) 0 2 = sq := by
  simp [numv, catZ, putZ]; omega
theorem wrapped_rest (sq : Int) (Z : Nat → Int) (i : Nat) : catZ (putZ (fun _ => 0) 0 sq 2) 2 Z (2 + i) = Z i := by unfold catZ; rw [if_neg (by omega)]; congr 1; omega
set_option maxRecDepth 100000 in
set_option maxHeartbeats 16000000 in
theorem wraps_short (w : World) (m : Bool) (ty sq st src : Int) (oa : Option Addr) (on oc : Nat) (ex : Bool) (pr : Int) (xa : Option Addr) (xn xc : Nat) (a : Option Addr) (n c : Nat) (Z : Nat → Int) (pd : Int) (V X : Nat → Int) (source typ seq : Int) (ho : US w.heap.size w oa on oc V) (hx : BS w.heap.size w xa xn xc X) (hz : BS w.heap.size w a n c Z) (hs0 : 0 ≤ sq) (hs1 : sq ≤ 65535) (hg : greatB n xn on = false) (hn2 : n < 2) :
    Calls Try.prog 5 #[.agg #[(.bool m), (.int .u8 ty), (.int .u16 sq), (.int .u32 st), (.int .u32 src), (.slice oa on oc), (.bool ex), (.int .u16 pr), (.slice xa xn xc), (.slice a n c), (.int .u8 pd)], .int .u32 source, .int .u8 typ, .int .u16 seq] w fun e w' => e = .returned (.bool true) ∧ Below w.heap.size w w' := by
  have hn9 : n ≤ 2000 := by simp [greatB] at hg; omega
  have HO := Lib.hid ho
  have HX := Lib.hid hx
  have HZ := Lib.hid hz
  have HG := Lib.hid hg
  have HN := Lib.hid hn2
  clear ho hx hz hg hn2
  go_enter Try.func5, Try.ntmps5
  go_wp2_with fail
  refine (alive34_any _).mono ?_
  rintro e w1 ⟨rfl, b1⟩
  have D1 : Hid (Below w.heap.size w w1) := Lib.hid (bmore (bone w _) b1)
  have G4_1 : Hid (w1.heap[w.heap.size]? = some (.cells #[(.bool m), (.int .u8 ty), (.int .u16 sq), (.int .u32 st), (.int .u32 src), (.slice oa on oc), (.bool ex), (.int .u16 pr), (.slice xa xn xc), (.slice a n c), (.int .u8 pd)] 44 (0, 0))) := Lib.hid (Below.blk b1 alloc_blk_new (by simp))
  clear b1
  obtain ⟨g4, hg4⟩ : ∃ g4, g4 = w.heap.size := ⟨_, rfl⟩
  rw [← hg4] at G4_1
  rw [← hg4]
  have HG4 := Lib.hid hg4
  clear hg4
  have cc0 : w1.cell? ⟨g4, 0, none⟩ = some (.bool m) := cell_blk G4_1.out
  have cc1 : w1.cell? ⟨g4, 1, none⟩ = some (.int .u8 ty) := cell_blk G4_1.out
  have cc2 : w1.cell? ⟨g4, 2, none⟩ = some (.int .u16 sq) := cell_blk G4_1.out
  have cc3 : w1.cell? ⟨g4, 3, none⟩ = some (.int .u32 st) := cell_blk G4_1.out
  have cc4 : w1.cell? ⟨g4, 4, none⟩ = some (.int .u32 src) := cell_blk G4_1.out
  have cc5 : w1.cell? ⟨g4, 5, none⟩ = some (.slice oa on oc) := cell_blk G4_1.out
  have cc6 : w1.cell? ⟨g4, 6, none⟩ = some (.bool ex) := cell_blk G4_1.out
  have cc7 : w1.cell? ⟨g4, 7, none⟩ = some (.int .u16 pr) := cell_blk G4_1.out
  have cc8 : w1.cell? ⟨g4, 8, none⟩ = some (.slice xa xn xc) := cell_blk G4_1.out
  have cc9 : w1.cell? ⟨g4, 9, none⟩ = some (.slice a n c) := cell_blk G4_1.out
  have cc10 : w1.cell? ⟨g4, 10, none⟩ = some (.int .u8 pd) := cell_blk G4_1.out
  go_wp2_with fail
  refine (great_any w1 m ty sq st src oa on oc ex pr xa xn xc a n c pd).mono ?_
  rintro e w2 ⟨rfl, b2⟩
  rw [HG.out]
  have D2 := Lib.hid (bmore D1.out b2)
  have G4_2 := Lib.hid (Below.blk b2 G4_1.out (lt_of_block G4_1.out))
  clear b2
  clear cc0 cc1 cc2 cc3 cc4 cc5 cc6 cc7 cc8 cc9 cc10
  have cc0 : w2.cell? ⟨g4, 0, none⟩ = some (.bool m) := cell_blk G4_2.out
  have cc1 : w2.cell? ⟨g4, 1, none⟩ = some (.int .u8 ty) := cell_blk G4_2.out
  have cc2 : w2.cell? ⟨g4, 2, none⟩ = some (.int .u16 sq) := cell_blk G4_2.out
  have cc3 : w2.cell? ⟨g4, 3, none⟩ = some (.int .u32 st) := cell_blk G4_2.out
  have cc4 : w2.cell? ⟨g4, 4, none⟩ = some (.int .u32 src) := cell_blk G4_2.out
  have cc5 : w2.cell? ⟨g4, 5, none⟩ = some (.slice oa on oc) := cell_blk G4_2.out
  have cc6 : w2.cell? ⟨g4, 6, none⟩ = some (.bool ex) := cell_blk G4_2.out
  have cc7 : w2.cell? ⟨g4, 7, none⟩ = some (.int .u16 pr) := cell_blk G4_2.out
  have cc8 : w2.cell? ⟨g4, 8, none⟩ = some (.slice xa xn xc) := cell_blk G4_2.out
  have cc9 : w2.cell? ⟨g4, 9, none⟩ = some (.slice a n c) := cell_blk G4_2.out
  have cc10 : w2.cell? ⟨g4, 10, none⟩ = some (.int .u8 pd) := cell_blk G4_2.out
  go_wp2_with fail
  refine (wrap_any w2.heap.size w2 m ty sq st src oa on oc ex pr xa xn xc a n c Z pd source typ seq (HZ.out.up D2.out) (Nat.le_refl _) (by omega) hs0 hs1).mono ?_
  rintro e w3 ⟨a5, c5, rfl, s5, b3⟩
  have S5 := Lib.hid s5
  have D3 := Lib.hid (bmore D2.out b3)
  have G4_3 := Lib.hid (Below.blk b3 G4_2.out (lt_of_block G4_2.out))
  clear b3 s5
  clear cc0 cc1 cc2 cc3 cc4 cc5 cc6 cc7 cc8 cc9 cc10
  have cc0 : ∀ o, (World.alloc w3 o).cell? ⟨g4, 0, none⟩ = some (.bool m) := fun o => cell_blk ((alloc_blk_old (lt_of_block G4_3.out)).trans G4_3.out)
  have cc1 : ∀ o, (World.alloc w3 o).cell? ⟨g4, 1, none⟩ = some (.int .u8 ty) := fun o => cell_blk ((alloc_blk_old (lt_of_block G4_3.out)).trans G4_3.out)
  have cc2 : ∀ o, (World.alloc w3 o).cell? ⟨g4, 2, none⟩ = some (.int .u16 sq) := fun o => cell_blk ((alloc_blk_old (lt_of_block G4_3.out)).trans G4_3.out)
  have cc3 : ∀ o, (World.alloc w3 o).cell? ⟨g4, 3, none⟩ = some (.int .u32 st) := fun o => cell_blk ((alloc_blk_old (lt_of_block G4_3.out)).trans G4_3.out)
  have cc4 : ∀ o, (World.alloc w3 o).cell? ⟨g4, 4, none⟩ = some (.int .u32 src) := fun o => cell_blk ((alloc_blk_old (lt_of_block G4_3.out)).trans G4_3.out)
  have cc5 : ∀ o, (World.alloc w3 o).cell? ⟨g4, 5, none⟩ = some (.slice oa on oc) := fun o => cell_blk ((alloc_blk_old (lt_of_block G4_3.out)).trans G4_3.out)
  have cc6 : ∀ o, (World.alloc w3 o).cell? ⟨g4, 6, none⟩ = some (.bool ex) := fun o => cell_blk ((alloc_blk_old (lt_of_block G4_3.out)).trans G4_3.out)
  have cc7 : ∀ o, (World.alloc w3 o).cell? ⟨g4, 7, none⟩ = some (.int .u16 pr) := fun o => cell_blk ((alloc_blk_old (lt_of_block G4_3.out)).trans G4_3.out)
  have cc8 : ∀ o, (World.alloc w3 o).cell? ⟨g4, 8, none⟩ = some (.slice xa xn xc) := fun o => cell_blk ((alloc_blk_old (lt_of_block G4_3.out)).trans G4_3.out)
  have cc9 : ∀ o, (World.alloc w3 o).cell? ⟨g4, 9, none⟩ = some (.slice a n c) := fun o => cell_blk ((alloc_blk_old (lt_of_block G4_3.out)).trans G4_3.out)
  have cc10 : ∀ o, (World.alloc w3 o).cell? ⟨g4, 10, none⟩ = some (.int .u8 pd) := fun o => cell_blk ((alloc_blk_old (lt_of_block G4_3.out)).trans G4_3.out)
  go_wp2_with fail
  generalize hW4 : w3.alloc _ = w4
  have E4 : Hid (Below w3.heap.size w3 w4) := Lib.hid (by rw [← hW4]; exact bone w3 _)
  have G9_4 : Hid (w4.heap[w3.heap.size]? = some (.cells #[(.bool m), (.int .u8 typ), (.int .u16 seq), (.int .u32 st), (.int .u32 source), (.slice oa on oc), (.bool ex), (.int .u16 pr), (.slice xa xn xc), (.slice a5 (2 + n) c5), (.int .u8 pd)] 44 (0, 0))) := Lib.hid (by rw [← hW4]; exact alloc_blk_new)
  clear hW4
  have D4 := Lib.hid (bmore D3.out E4.out)
  have G4_4 := Lib.hid (Below.blk E4.out G4_3.out (lt_of_block G4_3.out))
  clear cc0 cc1 cc2 cc3 cc4 cc5 cc6 cc7 cc8 cc9 cc10
  refine (unwrap_short w4.heap.size w4 m ty sq st src oa on oc ex pr xa xn xc a n c Z pd source typ (HZ.out.up D4.out) (Nat.le_refl _) HN.out).mono ?_
  rintro e w5 ⟨rfl, b5⟩
  have D5 := Lib.hid (bmore D4.out b5)
  have E5 := Lib.hid (bmore E4.out b5)
  have G4_5 := Lib.hid (Below.blk b5 G4_4.out (lt_of_block G4_4.out))
  have G9_5 := Lib.hid (Below.blk b5 G9_4.out (lt_of_block G9_4.out))
  clear b5
  have cc0 : ∀ o, (World.alloc w5 o).cell? ⟨g4, 0, none⟩ = some (.bool m) := fun o => cell_blk ((alloc_blk_old (lt_of_block G4_5.out)).trans G4_5.out)
  have cc1 : ∀ o, (World.alloc w5 o).cell? ⟨g4, 1, none⟩ = some (.int .u8 ty) := fun o => cell_blk ((alloc_blk_old (lt_of_block G4_5.out)).trans G4_5.out)
  have cc2 : ∀ o, (World.alloc w5 o).cell? ⟨g4, 2, none⟩ = some (.int .u16 sq) := fun o => cell_blk ((alloc_blk_old (lt_of_block G4_5.out)).trans G4_5.out)
  have cc3 : ∀ o, (World.alloc w5 o).cell? ⟨g4, 3, none⟩ = some (.int .u32 st) := fun o => cell_blk ((alloc_blk_old (lt_of_block G4_5.out)).trans G4_5.out)
  have cc4 : ∀ o, (World.alloc w5 o).cell? ⟨g4, 4, none⟩ = some (.int .u32 src) := fun o => cell_blk ((alloc_blk_old (lt_of_block G4_5.out)).trans G4_5.out)
  have cc5 : ∀ o, (World.alloc w5 o).cell? ⟨g4, 5, none⟩ = some (.slice oa on oc) := fun o => cell_blk ((alloc_blk_old (lt_of_block G4_5.out)).trans G4_5.out)
  have cc6 : ∀ o, (World.alloc w5 o).cell? ⟨g4, 6, none⟩ = some (.bool ex) := fun o => cell_blk ((alloc_blk_old (lt_of_block G4_5.out)).trans G4_5.out)
  have cc7 : ∀ o, (World.alloc w5 o).cell? ⟨g4, 7, none⟩ = some (.int .u16 pr) := fun o => cell_blk ((alloc_blk_old (lt_of_block G4_5.out)).trans G4_5.out)
  have cc8 : ∀ o, (World.alloc w5 o).cell? ⟨g4, 8, none⟩ = some (.slice xa xn xc) := fun o => cell_blk ((alloc_blk_old (lt_of_block G4_5.out)).trans G4_5.out)
  have cc9 : ∀ o, (World.alloc w5 o).cell? ⟨g4, 9, none⟩ = some (.slice a n c) := fun o => cell_blk ((alloc_blk_old (lt_of_block G4_5.out)).trans G4_5.out)
  have cc10 : ∀ o, (World.alloc w5 o).cell? ⟨g4, 10, none⟩ = some (.int .u8 pd) := fun o => cell_blk ((alloc_blk_old (lt_of_block G4_5.out)).trans G4_5.out)
  go_wp2_with fail
  generalize hW6 : w5.alloc _ = w6
  have F6 : Hid (Below w5.heap.size w5 w6) := Lib.hid (by rw [← hW6]; exact bone w5 _)
  have G10_6 : Hid (w6.heap[w5.heap.size]? = some (.cells #[(.bool false), (.int .u8 0), (.int .u16 0), (.int .u32 0), (.int .u32 0), (.slice none 0 0), (.bool false), (.int .u16 0), (.slice none 0 0), (.slice none 0 0), (.int .u8 0)] 44 (0, 0))) := Lib.hid (by rw [← hW6]; exact alloc_blk_new)
  clear hW6
  have D6 := Lib.hid (bmore D5.out F6.out)
  have E6 := Lib.hid (bmore E5.out F6.out)
  have G4_6 := Lib.hid (Below.blk F6.out G4_5.out (lt_of_block G4_5.out))
  have G9_6 := Lib.hid (Below.blk F6.out G9_5.out (lt_of_block G9_5.out))
  clear cc0 cc1 cc2 cc3 cc4 cc5 cc6 cc7 cc8 cc9 cc10
  refine (refunwrap_short 0 w6 m ty sq st src oa on oc ex pr xa xn xc a n c (fun _ => 0) pd source typ HN.out).mono ?_
  rintro e w7 ⟨rfl, b7⟩
  have D7 := Lib.hid (bmore D6.out b7)
  have E7 := Lib.hid (bmore E6.out b7)
  have F7 := Lib.hid (bmore F6.out b7)
  have G4_7 := Lib.hid (Below.blk b7 G4_6.out (lt_of_block G4_6.out))
  have G9_7 := Lib.hid (Below.blk b7 G9_6.out (lt_of_block G9_6.out))
  have G10_7 := Lib.hid (Below.blk b7 G10_6.out (lt_of_block G10_6.out))
  clear b7
  obtain ⟨g9, hg9⟩ : ∃ g9, g9 = w3.heap.size := ⟨_, rfl⟩
  rw [← hg9] at G9_7
  rw [← hg9]
  clear hg9
  have cc0 : ∀ o, (World.alloc w7 o).cell? ⟨g4, 0, none⟩ = some (.bool m) := fun o => cell_blk ((alloc_blk_old (lt_of_block G4_7.out)).trans G4_7.out)
  have cc1 : ∀ o, (World.alloc w7 o).cell? ⟨g4, 1, none⟩ = some (.int .u8 ty) := fun o => cell_blk ((alloc_blk_old (lt_of_block G4_7.out)).trans G4_7.out)
  have cc2 : ∀ o, (World.alloc w7 o).cell? ⟨g4, 2, none⟩ = some (.int .u16 sq) := fun o => cell_blk ((alloc_blk_old (lt_of_block G4_7.out)).trans G4_7.out)
  have cc3 : ∀ o, (World.alloc w7 o).cell? ⟨g4, 3, none⟩ = some (.int .u32 st) := fun o => cell_blk ((alloc_blk_old (lt_of_block G4_7.out)).trans G4_7.out)
  have cc4 : ∀ o, (World.alloc w7 o).cell? ⟨g4, 4, none⟩ = some (.int .u32 src) := fun o => cell_blk ((alloc_blk_old (lt_of_block G4_7.out)).trans G4_7.out)
  have cc5 : ∀ o, (World.alloc w7 o).cell? ⟨g4, 5, none⟩ = some (.slice oa on oc) := fun o => cell_blk ((alloc_blk_old (lt_of_block G4_7.out)).trans G4_7.out)
  have cc6 : ∀ o, (World.alloc w7 o).cell? ⟨g4, 6, none⟩ = some (.bool ex) := fun o => cell_blk ((alloc_blk_old (lt_of_block G4_7.out)).trans G4_7.out)
  have cc7 : ∀ o, (World.alloc w7 o).cell? ⟨g4, 7, none⟩ = some (.int .u16 pr) := fun o => cell_blk ((alloc_blk_old (lt_of_block G4_7.out)).trans G4_7.out)
  have cc8 : ∀ o, (World.alloc w7 o).cell? ⟨g4, 8, none⟩ = some (.slice xa xn xc) := fun o => cell_blk ((alloc_blk_old (lt_of_block G4_7.out)).trans G4_7.out)
  have cc9 : ∀ o, (World.alloc w7 o).cell? ⟨g4, 9, none⟩ = some (.slice a n c) := fun o => cell_blk ((alloc_blk_old (lt_of_block G4_7.out)).trans G4_7.out)
  have cc10 : ∀ o, (World.alloc w7 o).cell? ⟨g4, 10, none⟩ = some (.int .u8 pd) := fun o => cell_blk ((alloc_blk_old (lt_of_block G4_7.out)).trans G4_7.out)
  have dd0 : ∀ o, (World.alloc w7 o).cell? ⟨g9, 0, none⟩ = some (.bool m) := fun o => cell_blk ((alloc_blk_old (lt_of_block G9_7.out)).trans G9_7.out)
  have dd1 : ∀ o, (World.alloc w7 o).cell? ⟨g9, 1, none⟩ = some (.int .u8 typ) := fun o => cell_blk ((alloc_blk_old (lt_of_block G9_7.out)).trans G9_7.out)
  have dd2 : ∀ o, (World.alloc w7 o).cell? ⟨g9, 2, none⟩ = some (.int .u16 seq) := fun o => cell_blk ((alloc_blk_old (lt_of_block G9_7.out)).trans G9_7.out)
  have dd3 : ∀ o, (World.alloc w7 o).cell? ⟨g9, 3, none⟩ = some (.int .u32 st) := fun o => cell_blk ((alloc_blk_old (lt_of_block G9_7.out)).trans G9_7.out)
  have dd4 : ∀ o, (World.alloc w7 o).cell? ⟨g9, 4, none⟩ = some (.int .u32 source) := fun o => cell_blk ((alloc_blk_old (lt_of_block G9_7.out)).trans G9_7.out)
  have dd5 : ∀ o, (World.alloc w7 o).cell? ⟨g9, 5, none⟩ = some (.slice oa on oc) := fun o => cell_blk ((alloc_blk_old (lt_of_block G9_7.out)).trans G9_7.out)
  have dd6 : ∀ o, (World.alloc w7 o).cell? ⟨g9, 6, none⟩ = some (.bool ex) := fun o => cell_blk ((alloc_blk_old (lt_of_block G9_7.out)).trans G9_7.out)
  have dd7 : ∀ o, (World.alloc w7 o).cell? ⟨g9, 7, none⟩ = some (.int .u16 pr) := fun o => cell_blk ((alloc_blk_old (lt_of_block G9_7.out)).trans G9_7.out)
  have dd8 : ∀ o, (World.alloc w7 o).cell? ⟨g9, 8, none⟩ = some (.slice xa xn xc) := fun o => cell_blk ((alloc_blk_old (lt_of_block G9_7.out)).trans G9_7.out)
  have dd9 : ∀ o, (World.alloc w7 o).cell? ⟨g9, 9, none⟩ = some (.slice a5 (2 + n) c5) := fun o => cell_blk ((alloc_blk_old (lt_of_block G9_7.out)).trans G9_7.out)
  have dd10 : ∀ o, (World.alloc w7 o).cell? ⟨g9, 10, none⟩ = some (.int .u8 pd) := fun o => cell_blk ((alloc_blk_old (lt_of_block G9_7.out)).trans G9_7.out)
  go_wp2_with fail
  generalize hW8 : w7.alloc _ = w8
  have J8 : Hid (Below w7.heap.size w7 w8) := Lib.hid (by rw [← hW8]; exact bone w7 _)
  have G12_8 : Hid (w8.heap[w7.heap.size]? = some (.cells #[(.bool false), (.int .u8 0), (.int .u16 0), (.int .u32 0), (.int .u32 0), (.slice none 0 0), (.bool false), (.int .u16 0), (.slice none 0 0), (.slice none 0 0), (.int .u8 0)] 44 (0, 0))) := Lib.hid (by rw [← hW8]; exact alloc_blk_new)
  clear hW8
  have D8 := Lib.hid (bmore D7.out J8.out)
  have E8 := Lib.hid (bmore E7.out J8.out)
  have F8 := Lib.hid (bmore F7.out J8.out)
  have G4_8 := Lib.hid (Below.blk J8.out G4_7.out (lt_of_block G4_7.out))
  have G9_8 := Lib.hid (Below.blk J8.out G9_7.out (lt_of_block G9_7.out))
  have G10_8 := Lib.hid (Below.blk J8.out G10_7.out (lt_of_block G10_7.out))
  clear cc0 cc1 cc2 cc3 cc4 cc5 cc6 cc7 cc8 cc9 cc10
  clear dd0 dd1 dd2 dd3 dd4 dd5 dd6 dd7 dd8 dd9 dd10
  refine (unwrap_long w8.heap.size w8 m typ seq st source oa on oc ex pr xa xn xc a5 (2 + n) c5 (catZ (putZ (fun _ => 0) 0 sq 2) 2 Z) pd n src ty (S5.out.up E8.out) (Nat.le_refl _) (by omega) (by omega)).mono ?_
  rintro e w9 ⟨a8, c8, rfl, s8, b9⟩
  rw [wrapped_num sq Z hs0 hs1]
  have S8 := Lib.hid s8
  have D9 := Lib.hid (bmore D8.out b9)
  have E9 := Lib.hid (bmore E8.out b9)
  have F9 := Lib.hid (bmore F8.out b9)
  have J9 := Lib.hid (bmore J8.out b9)
  have G4_9 := Lib.hid (Below.blk b9 G4_8.out (lt_of_block G4_8.out))
  have G9_9 := Lib.hid (Below.blk b9 G9_8.out (lt_of_block G9_8.out))
  have G10_9 := Lib.hid (Below.blk b9 G10_8.out (lt_of_block G10_8.out))
  have G12_9 := Lib.hid (Below.blk b9 G12_8.out (lt_of_block G12_8.out))
  clear b9 s8
  go_wp2_with fail
  generalize hW : w9.alloc _ = W
  have M : Hid (Below w9.heap.size w9 W) := Lib.hid (by rw [← hW]; exact bone w9 _)
  have G14 : Hid (W.heap[w9.heap.size]? = some (.cells #[(.bool m), (.int .u8 ty), (.int .u16 sq), (.int .u32 st), (.int .u32 src), (.slice oa on oc), (.bool ex), (.int .u16 pr), (.slice xa xn xc), (.slice a8 n c8), (.int .u8 pd)] 44 (0, 0))) := Lib.hid (by rw [← hW]; exact alloc_blk_new)
  clear hW
  obtain ⟨g14, hg14⟩ : ∃ g14, g14 = w9.heap.size := ⟨_, rfl⟩
  rw [← hg14] at G14
  rw [← hg14]
  clear hg14
  obtain ⟨g12, hg12⟩ : ∃ g12, g12 = w7.heap.size := ⟨_, rfl⟩
  rw [← hg12] at G12_9
  rw [← hg12]
  clear hg12
  obtain ⟨g10, hg10⟩ : ∃ g10, g10 = w5.heap.size := ⟨_, rfl⟩
  rw [← hg10] at G10_9
  rw [← hg10]
  clear hg10
  have D := Lib.hid (bmore D9.out M.out)
  have E := Lib.hid (bmore E9.out M.out)
  have F := Lib.hid (bmore F9.out M.out)
  have J := Lib.hid (bmore J9.out M.out)
  have G4 := Lib.hid (Below.blk M.out G4_9.out (lt_of_block G4_9.out))
  have G9 := Lib.hid (Below.blk M.out G9_9.out (lt_of_block G9_9.out))
  have G10 := Lib.hid (Below.blk M.out G10_9.out (lt_of_block G10_9.out))
  have G12 := Lib.hid (Below.blk M.out G12_9.out (lt_of_block G12_9.out))
  clear G4_1 G4_2 G4_3 G4_4 G4_5 G4_6 G4_7 G4_8 G4_9 G9_4 G9_5 G9_6 G9_7 G9_8 G9_9 G10_6 G10_7 G10_8 G10_9 G12_8 G12_9
  clear D1 D2 D3 D4 D5 D6 D7 D8 D9 E4 E5 E6 E7 E8 E9 F6 F7 F8 F9 J8 J9
  have ppb : Hid (∀ y : Wd W.heap.size W, y.1.heap[g4]? = some (.cells #[(.bool m), (.int .u8 ty), (.int .u16 sq), (.int .u32 st), (.int .u32 src), (.slice oa on oc), (.bool ex), (.int .u16 pr), (.slice xa xn xc), (.slice a n c), (.int .u8 pd)] 44 (0, 0))) := Lib.hid (fun y => Below.blk y.2 G4.out (lt_of_block G4.out))
  have pp0 : ∀ y : Wd W.heap.size W, y.1.cell? ⟨g4, 0, none⟩ = some (.bool m) := fun y => cell_blk (ppb.out y)
  have pp1 : ∀ y : Wd W.heap.size W, y.1.cell? ⟨g4, 1, none⟩ = some (.int .u8 ty) := fun y => cell_blk (ppb.out y)
  have pp2 : ∀ y : Wd W.heap.size W, y.1.cell? ⟨g4, 2, none⟩ = some (.int .u16 sq) := fun y => cell_blk (ppb.out y)
  have pp3 : ∀ y : Wd W.heap.size W, y.1.cell? ⟨g4, 3, none⟩ = some (.int .u32 st) := fun y => cell_blk (ppb.out y)
  have pp4 : ∀ y : Wd W.heap.size W, y.1.cell? ⟨g4, 4, none⟩ = some (.int .u32 src) := fun y => cell_blk (ppb.out y)
  have pp5 : ∀ y : Wd W.heap.size W, y.1.cell? ⟨g4, 5, none⟩ = some (.slice oa on oc) := fun y => cell_blk (ppb.out y)
  have pp6 : ∀ y : Wd W.heap.size W, y.1.cell? ⟨g4, 6, none⟩ = some (.bool ex) := fun y => cell_blk (ppb.out y)
  have pp7 : ∀ y : Wd W.heap.size W, y.1.cell? ⟨g4, 7, none⟩ = some (.int .u16 pr) := fun y => cell_blk (ppb.out y)
  have pp8 : ∀ y : Wd W.heap.size W, y.1.cell? ⟨g4, 8, none⟩ = some (.slice xa xn xc) := fun y => cell_blk (ppb.out y)
  have pp9 : ∀ y : Wd W.heap.size W, y.1.cell? ⟨g4, 9, none⟩ = some (.slice a n c) := fun y => cell_blk (ppb.out y)
  have pp10 : ∀ y : Wd W.heap.size W, y.1.cell? ⟨g4, 10, none⟩ = some (.int .u8 pd) := fun y => cell_blk (ppb.out y)
  have qqb : Hid (∀ y : Wd W.heap.size W, y.1.heap[g9]? = some (.cells #[(.bool m), (.int .u8 typ), (.int .u16 seq), (.int .u32 st), (.int .u32 source), (.slice oa on oc), (.bool ex), (.int .u16 pr), (.slice xa xn xc), (.slice a5 (2 + n) c5), (.int .u8 pd)] 44 (0, 0))) := Lib.hid (fun y => Below.blk y.2 G9.out (lt_of_block G9.out))
  have qq0 : ∀ y : Wd W.heap.size W, y.1.cell? ⟨g9, 0, none⟩ = some (.bool m) := fun y => cell_blk (qqb.out y)
  have qq1 : ∀ y : Wd W.heap.size W, y.1.cell? ⟨g9, 1, none⟩ = some (.int .u8 typ) := fun y => cell_blk (qqb.out y)
  have qq2 : ∀ y : Wd W.heap.size W, y.1.cell? ⟨g9, 2, none⟩ = some (.int .u16 seq) := fun y => cell_blk (qqb.out y)
  have qq3 : ∀ y : Wd W.heap.size W, y.1.cell? ⟨g9, 3, none⟩ = some (.int .u32 st) := fun y => cell_blk (qqb.out y)
  have qq4 : ∀ y : Wd W.heap.size W, y.1.cell? ⟨g9, 4, none⟩ = some (.int .u32 source) := fun y => cell_blk (qqb.out y)
  have qq5 : ∀ y : Wd W.heap.size W, y.1.cell? ⟨g9, 5, none⟩ = some (.slice oa on oc) := fun y => cell_blk (qqb.out y)
  have qq6 : ∀ y : Wd W.heap.size W, y.1.cell? ⟨g9, 6, none⟩ = some (.bool ex) := fun y => cell_blk (qqb.out y)
  have qq7 : ∀ y : Wd W.heap.size W, y.1.cell? ⟨g9, 7, none⟩ = some (.int .u16 pr) := fun y => cell_blk (qqb.out y)
  have qq8 : ∀ y : Wd W.heap.size W, y.1.cell? ⟨g9, 8, none⟩ = some (.slice xa xn xc) := fun y => cell_blk (qqb.out y)
  have qq9 : ∀ y : Wd W.heap.size W, y.1.cell? ⟨g9, 9, none⟩ = some (.slice a5 (2 + n) c5) := fun y => cell_blk (qqb.out y)
  have qq10 : ∀ y : Wd W.heap.size W, y.1.cell? ⟨g9, 10, none⟩ = some (.int .u8 pd) := fun y => cell_blk (qqb.out y)
  have rrb : Hid (∀ y : Wd W.heap.size W, y.1.heap[g10]? = some (.cells #[(.bool false), (.int .u8 0), (.int .u16 0), (.int .u32 0), (.int .u32 0), (.slice none 0 0), (.bool false), (.int .u16 0), (.slice none 0 0), (.slice none 0 0), (.int .u8 0)] 44 (0, 0))) := Lib.hid (fun y => Below.blk y.2 G10.out (lt_of_block G10.out))
  have rr0 : ∀ y : Wd W.heap.size W, y.1.cell? ⟨g10, 0, none⟩ = some (.bool false) := fun y => cell_blk (rrb.out y)
  have rr1 : ∀ y : Wd W.heap.size W, y.1.cell? ⟨g10, 1, none⟩ = some (.int .u8 0) := fun y => cell_blk (rrb.out y)
  have rr2 : ∀ y : Wd W.heap.size W, y.1.cell? ⟨g10, 2, none⟩ = some (.int .u16 0) := fun y => cell_blk (rrb.out y)
  have rr3 : ∀ y : Wd W.heap.size W, y.1.cell? ⟨g10, 3, none⟩ = some (.int .u32 0) := fun y => cell_blk (rrb.out y)
  have rr4 : ∀ y : Wd W.heap.size W, y.1.cell? ⟨g10, 4, none⟩ = some (.int .u32 0) := fun y => cell_blk (rrb.out y)
  have rr5 : ∀ y : Wd W.heap.size W, y.1.cell? ⟨g10, 5, none⟩ = some (.slice none 0 0) := fun y => cell_blk (rrb.out y)
  have rr6 : ∀ y : Wd W.heap.size W, y.1.cell? ⟨g10, 6, none⟩ = some (.bool false) := fun y => cell_blk (rrb.out y)
  have rr7 : ∀ y : Wd W.heap.size W, y.1.cell? ⟨g10, 7, none⟩ = some (.int .u16 0) := fun y => cell_blk (rrb.out y)
  have rr8 : ∀ y : Wd W.heap.size W, y.1.cell? ⟨g10, 8, none⟩ = some (.slice none 0 0) := fun y => cell_blk (rrb.out y)
  have rr9 : ∀ y : Wd W.heap.size W, y.1.cell? ⟨g10, 9, none⟩ = some (.slice none 0 0) := fun y => cell_blk (rrb.out y)
  have rr10 : ∀ y : Wd W.heap.size W, y.1.cell? ⟨g10, 10, none⟩ = some (.int .u8 0) := fun y => cell_blk (rrb.out y)
  have ssb : Hid (∀ y : Wd W.heap.size W, y.1.heap[g12]? = some (.cells #[(.bool false), (.int .u8 0), (.int .u16 0), (.int .u32 0), (.int .u32 0), (.slice none 0 0), (.bool false), (.int .u16 0), (.slice none 0 0), (.slice none 0 0), (.int .u8 0)] 44 (0, 0))) := Lib.hid (fun y => Below.blk y.2 G12.out (lt_of_block G12.out))
  have ss0 : ∀ y : Wd W.heap.size W, y.1.cell? ⟨g12, 0, none⟩ = some (.bool false) := fun y => cell_blk (ssb.out y)
  have ss1 : ∀ y : Wd W.heap.size W, y.1.cell? ⟨g12, 1, none⟩ = some (.int .u8 0) := fun y => cell_blk (ssb.out y)
  have ss2 : ∀ y : Wd W.heap.size W, y.1.cell? ⟨g12, 2, none⟩ = some (.int .u16 0) := fun y => cell_blk (ssb.out y)
  have ss3 : ∀ y : Wd W.heap.size W, y.1.cell? ⟨g12, 3, none⟩ = some (.int .u32 0) := fun y => cell_blk (ssb.out y)
  have ss4 : ∀ y : Wd W.heap.size W, y.1.cell? ⟨g12, 4, none⟩ = some (.int .u32 0) := fun y => cell_blk (ssb.out y)
  have ss5 : ∀ y : Wd W.heap.size W, y.1.cell? ⟨g12, 5, none⟩ = some (.slice none 0 0) := fun y => cell_blk (ssb.out y)
  have ss6 : ∀ y : Wd W.heap.size W, y.1.cell? ⟨g12, 6, none⟩ = some (.bool false) := fun y => cell_blk (ssb.out y)
  have ss7 : ∀ y : Wd W.heap.size W, y.1.cell? ⟨g12, 7, none⟩ = some (.int .u16 0) := fun y => cell_blk (ssb.out y)
  have ss8 : ∀ y : Wd W.heap.size W, y.1.cell? ⟨g12, 8, none⟩ = some (.slice none 0 0) := fun y => cell_blk (ssb.out y)
  have ss9 : ∀ y : Wd W.heap.size W, y.1.cell? ⟨g12, 9, none⟩ = some (.slice none 0 0) := fun y => cell_blk (ssb.out y)
  have ss10 : ∀ y : Wd W.heap.size W, y.1.cell? ⟨g12, 10, none⟩ = some (.int .u8 0) := fun y => cell_blk (ssb.out y)
  have ttb : Hid (∀ y : Wd W.heap.size W, y.1.heap[g14]? = some (.cells #[(.bool m), (.int .u8 ty), (.int .u16 sq), (.int .u32 st), (.int .u32 src), (.slice oa on oc), (.bool ex), (.int .u16 pr), (.slice xa xn xc), (.slice a8 n c8), (.int .u8 pd)] 44 (0, 0))) := Lib.hid (fun y => Below.blk y.2 G14.out (lt_of_block G14.out))
  have tt0 : ∀ y : Wd W.heap.size W, y.1.cell? ⟨g14, 0, none⟩ = some (.bool m) := fun y => cell_blk (ttb.out y)
  have tt1 : ∀ y : Wd W.heap.size W, y.1.cell? ⟨g14, 1, none⟩ = some (.int .u8 ty) := fun y => cell_blk (ttb.out y)
  have tt2 : ∀ y : Wd W.heap.size W, y.1.cell? ⟨g14, 2, none⟩ = some (.int .u16 sq) := fun y => cell_blk (ttb.out y)
  have tt3 : ∀ y : Wd W.heap.size W, y.1.cell? ⟨g14, 3, none⟩ = some (.int .u32 st) := fun y => cell_blk (ttb.out y)
  have tt4 : ∀ y : Wd W.heap.size W, y.1.cell? ⟨g14, 4, none⟩ = some (.int .u32 src) := fun y => cell_blk (ttb.out y)
  have tt5 : ∀ y : Wd W.heap.size W, y.1.cell? ⟨g14, 5, none⟩ = some (.slice oa on oc) := fun y => cell_blk (ttb.out y)
  have tt6 : ∀ y : Wd W.heap.size W, y.1.cell? ⟨g14, 6, none⟩ = some (.bool ex) := fun y => cell_blk (ttb.out y)
  have tt7 : ∀ y : Wd W.heap.size W, y.1.cell? ⟨g14, 7, none⟩ = some (.int .u16 pr) := fun y => cell_blk (ttb.out y)
  have tt8 : ∀ y : Wd W.heap.size W, y.1.cell? ⟨g14, 8, none⟩ = some (.slice xa xn xc) := fun y => cell_blk (ttb.out y)
  have tt9 : ∀ y : Wd W.heap.size W, y.1.cell? ⟨g14, 9, none⟩ = some (.slice a8 n c8) := fun y => cell_blk (ttb.out y)
  have tt10 : ∀ y : Wd W.heap.size W, y.1.cell? ⟨g14, 10, none⟩ = some (.int .u8 pd) := fun y => cell_blk (ttb.out y)
  refine wp_region_mix [5, 6, 7, 12, 13, 19, 20, 23, 24, 25, 28, 29, 32] W.heap.size W (Below.refl _ _) (by kernel_rfl) (by kernel_rfl) (by kernel_rfl) ?_
  iterate 5 (refine mix_read rfl (fun K hK => ?_); go_simp; refine hK _ ?_; clear hK K)
  refine mix_move rfl (fun K hK => ?_)
  go_simp
  refine (refwrap_any W.heap.size W.drew m ty sq st src oa on oc ex pr xa xn xc a n c Z pd source typ seq (HZ.out.up D.out.drew) (Nat.le_refl _) (by omega) hs0 hs1).mono ?_
  rintro e x1 ⟨a9, c9, rfl, s9, bx⟩
  have S9 := Lib.hid s9
  have X1 : Hid (Below W.heap.size W x1) := Lib.hid ((Below.refl _ W).drew.trans bx)
  clear s9 bx
  refine ⟨_, rfl, X1.out, hK _ _ ?_⟩
  clear hK K
  refine mix_move rfl (fun K hK => ?_)
  go_simp
  refine (same_any x1.heap.size x1 m typ seq st source oa on oc ex pr xa xn xc a5 (2 + n) c5 (catZ (putZ (fun _ => 0) 0 sq 2) 2 Z) a9 c9 (catZ (putZ (fun _ => 0) 0 sq 2) 2 Z) pd V X (HO.out.up (bmore D.out X1.out)) (HX.out.up (bmore D.out X1.out)) (S5.out.up (bmore E.out X1.out)) S9.out (fun _ _ => rfl) (Nat.le_refl _)).mono ?_
  rintro e x2 ⟨rfl, bx⟩
  have X2 := Lib.hid (bmore X1.out bx)
  clear bx
  refine ⟨_, rfl, X2.out, hK _ _ ?_⟩
  clear hK K
  (refine mix_move rfl (fun K hK => ?_); go_simp; refine ⟨X2.out, hK _ _ ?_⟩; clear hK K)
  iterate 4 (refine mix_read rfl (fun K hK => ?_); go_simp; refine hK _ ?_; clear hK K)
  iterate 2 (refine mix_move rfl (fun K hK => ?_); go_simp; refine ⟨X2.out, hK _ _ ?_⟩; clear hK K)
  iterate 5 (refine mix_read rfl (fun K hK => ?_); go_simp; refine hK _ ?_; clear hK K)
  iterate 2 (refine mix_move rfl (fun K hK => ?_); go_simp; refine ⟨X2.out, hK _ _ ?_⟩; clear hK K)
  iterate 2 (refine mix_read rfl (fun K hK => ?_); go_simp; refine hK _ ?_; clear hK K)
  refine mix_move rfl (fun K hK => ?_)
  go_simp
  refine (same_any x2.heap.size x2 false 0 0 0 0 none 0 0 false 0 none 0 0 none 0 0 (fun _ => 0) none 0 (fun _ => 0) 0 (fun _ => 0) (fun _ => 0) US.nil BS.nil0 BS.nil0 BS.nil0 (fun _ _ => rfl) (Nat.le_refl _)).mono ?_
  rintro e x3 ⟨rfl, bx⟩
  have X3 := Lib.hid (bmore X2.out bx)
  clear bx
  refine ⟨_, rfl, X3.out, hK _ _ ?_⟩
  clear hK K
  iterate 2 (refine mix_move rfl (fun K hK => ?_); go_simp; refine ⟨X3.out, hK _ _ ?_⟩; clear hK K)
  iterate 2 (refine mix_read rfl (fun K hK => ?_); go_simp; refine hK _ ?_; clear hK K)
  iterate 2 (refine mix_move rfl (fun K hK => ?_); go_simp; refine ⟨X3.out, hK _ _ ?_⟩; clear hK K)
  iterate 2 (refine mix_read rfl (fun K hK => ?_); go_simp; refine hK _ ?_; clear hK K)
  refine mix_move rfl (fun K hK => ?_)
  go_simp
  refine (same_any x3.heap.size x3 m ty sq st src oa on oc ex pr xa xn xc a8 n c8 (fun i => catZ (putZ (fun _ => 0) 0 sq 2) 2 Z (2 + i)) a c Z pd V X (HO.out.up (bmore D.out X3.out)) (HX.out.up (bmore D.out X3.out)) (S8.out.up (bmore M.out X3.out)) (HZ.out.up (bmore D.out X3.out)) (fun _ _ => wrapped_rest _ _ _) (Nat.le_refl _)).mono ?_
  rintro e x4 ⟨rfl, bx⟩
  have X4 := Lib.hid (bmore X3.out bx)
  clear bx
  refine ⟨_, rfl, X4.out, hK _ _ ?_⟩
  clear hK K
  iterate 2 (refine mix_read rfl (fun K hK => ?_); go_simp; refine hK _ ?_; clear hK K)
  refine mix_nil ?_
  change Exit.then _ _ _ _ x4
  go_wp2_with fail
  go_ret
  exact ⟨rfl, bmore D.out X4.out⟩
set_option maxRecDepth 100000 in
set_option maxHeartbeats 16000000 in
theorem wraps_long (w : World) (m : Bool) (ty sq st src : Int) (oa : Option Addr) (on oc : Nat) (ex : Bool) (pr : Int) (xa : Option Addr) (xn xc : Nat) (a : Option Addr) (n c : Nat) (Z : Nat → Int) (pd : Int) (V X : Nat → Int) (l : Nat) (source typ seq : Int) (ho : US w.heap.size w oa on oc V) (hx : BS w.heap.size w xa xn xc X) (hz : BS w.heap.size w a n c Z) (hs0 : 0 ≤ sq) (hs1 : sq ≤ 65535) (hg : greatB n xn on = false) (hnl : n = l + 2) :
    Calls Try.prog 5 #[.agg #[(.bool m), (.int .u8 ty), (.int .u16 sq), (.int .u32 st), (.int .u32 src), (.slice oa on oc), (.bool ex), (.int .u16 pr), (.slice xa xn xc), (.slice a n c), (.int .u8 pd)], .int .u32 source, .int .u8 typ, .int .u16 seq] w fun e w' => e = .returned (.bool true) ∧ Below w.heap.size w w' := by
  have hn9 : n ≤ 2000 := by simp [greatB] at hg; omega
  have HO := Lib.hid ho
  have HX := Lib.hid hx
  have HZ := Lib.hid hz
  have HG := Lib.hid hg
  have HN := Lib.hid hnl
  clear ho hx hz hg hnl
  go_enter Try.func5, Try.ntmps5
  go_wp2_with fail
  refine (alive34_any _).mono ?_
  rintro e w1 ⟨rfl, b1⟩
  have D1 : Hid (Below w.heap.size w w1) := Lib.hid (bmore (bone w _) b1)
  have G4_1 : Hid (w1.heap[w.heap.size]? = some (.cells #[(.bool m), (.int .u8 ty), (.int .u16 sq), (.int .u32 st), (.int .u32 src), (.slice oa on oc), (.bool ex), (.int .u16 pr), (.slice xa xn xc), (.slice a n c), (.int .u8 pd)] 44 (0, 0))) := Lib.hid (Below.blk b1 alloc_blk_new (by simp))
  clear b1
  obtain ⟨g4, hg4⟩ : ∃ g4, g4 = w.heap.size := ⟨_, rfl⟩
  rw [← hg4] at G4_1
  rw [← hg4]
  have HG4 := Lib.hid hg4
  clear hg4
  have cc0 : w1.cell? ⟨g4, 0, none⟩ = some (.bool m) := cell_blk G4_1.out
  have cc1 : w1.cell? ⟨g4, 1, none⟩ = some (.int .u8 ty) := cell_blk G4_1.out
  have cc2 : w1.cell? ⟨g4, 2, none⟩ = some (.int .u16 sq) := cell_blk G4_1.out
  have cc3 : w1.cell? ⟨g4, 3, none⟩ = some (.int .u32 st) := cell_blk G4_1.out
  have cc4 : w1.cell? ⟨g4, 4, none⟩ = some (.int .u32 src) := cell_blk G4_1.out
  have cc5 : w1.cell? ⟨g4, 5, none⟩ = some (.slice oa on oc) := cell_blk G4_1.out
  have cc6 : w1.cell? ⟨g4, 6, none⟩ = some (.bool ex) := cell_blk G4_1.out
  have cc7 : w1.cell? ⟨g4, 7, none⟩ = some (.int .u16 pr) := cell_blk G4_1.out
  have cc8 : w1.cell? ⟨g4, 8, none⟩ = some (.slice xa xn xc) := cell_blk G4_1.out
  have cc9 : w1.cell? ⟨g4, 9, none⟩ = some (.slice a n c) := cell_blk G4_1.out
  have cc10 : w1.cell? ⟨g4, 10, none⟩ = some (.int .u8 pd) := cell_blk G4_1.out
  go_wp2_with fail
  refine (great_any w1 m ty sq st src oa on oc ex pr xa xn xc a n c pd).mono ?_
  rintro e w2 ⟨rfl, b2⟩
  rw [HG.out]
  have D2 := Lib.hid (bmore D1.out b2)
  have G4_2 := Lib.hid (Below.blk b2 G4_1.out (lt_of_block G4_1.out))
  clear b2
  clear cc0 cc1 cc2 cc3 cc4 cc5 cc6 cc7 cc8 cc9 cc10
  have cc0 : w2.cell? ⟨g4, 0, none⟩ = some (.bool m) := cell_blk G4_2.out
  have cc1 : w2.cell? ⟨g4, 1, none⟩ = some (.int .u8 ty) := cell_blk G4_2.out
  have cc2 : w2.cell? ⟨g4, 2, none⟩ = some (.int .u16 sq) := cell_blk G4_2.out
  have cc3 : w2.cell? ⟨g4, 3, none⟩ = some (.int .u32 st) := cell_blk G4_2.out
  have cc4 : w2.cell? ⟨g4, 4, none⟩ = some (.int .u32 src) := cell_blk G4_2.out
  have cc5 : w2.cell? ⟨g4, 5, none⟩ = some (.slice oa on oc) := cell_blk G4_2.out
  have cc6 : w2.cell? ⟨g4, 6, none⟩ = some (.bool ex) := cell_blk G4_2.out
  have cc7 : w2.cell? ⟨g4, 7, none⟩ = some (.int .u16 pr) := cell_blk G4_2.out
  have cc8 : w2.cell? ⟨g4, 8, none⟩ = some (.slice xa xn xc) := cell_blk G4_2.out
  have cc9 : w2.cell? ⟨g4, 9, none⟩ = some (.slice a n c) := cell_blk G4_2.out
  have cc10 : w2.cell? ⟨g4, 10, none⟩ = some (.int .u8 pd) := cell_blk G4_2.out
  go_wp2_with fail
  refine (wrap_any w2.heap.size w2 m ty sq st src oa on oc ex pr xa xn xc a n c Z pd source typ seq (HZ.out.up D2.out) (Nat.le_refl _) (by omega) hs0 hs1).mono ?_
  rintro e w3 ⟨a5, c5, rfl, s5, b3⟩
  have S5 := Lib.hid s5
  have D3 := Lib.hid (bmore D2.out b3)
  have G4_3 := Lib.hid (Below.blk b3 G4_2.out (lt_of_block G4_2.out))
  clear b3 s5
  clear cc0 cc1 cc2 cc3 cc4 cc5 cc6 cc7 cc8 cc9 cc10
  have cc0 : ∀ o, (World.alloc w3 o).cell? ⟨g4, 0, none⟩ = some (.bool m) := fun o => cell_blk ((alloc_blk_old (lt_of_block G4_3.out)).trans G4_3.out)
  have cc1 : ∀ o, (World.alloc w3 o).cell? ⟨g4, 1, none⟩ = some (.int .u8 ty) := fun o => cell_blk ((alloc_blk_old (lt_of_block G4_3.out)).trans G4_3.out)
  have cc2 : ∀ o, (World.alloc w3 o).cell? ⟨g4, 2, none⟩ = some (.int .u16 sq) := fun o => cell_blk ((alloc_blk_old (lt_of_block G4_3.out)).trans G4_3.out)
  have cc3 : ∀ o, (World.alloc w3 o).cell? ⟨g4, 3, none⟩ = some (.int .u32 st) := fun o => cell_blk ((alloc_blk_old (lt_of_block G4_3.out)).trans G4_3.out)
  have cc4 : ∀ o, (World.alloc w3 o).cell? ⟨g4, 4, none⟩ = some (.int .u32 src) := fun o => cell_blk ((alloc_blk_old (lt_of_block G4_3.out)).trans G4_3.out)
  have cc5 : ∀ o, (World.alloc w3 o).cell? ⟨g4, 5, none⟩ = some (.slice oa on oc) := fun o => cell_blk ((alloc_blk_old (lt_of_block G4_3.out)).trans G4_3.out)
  have cc6 : ∀ o, (World.alloc w3 o).cell? ⟨g4, 6, none⟩ = some (.bool ex) := fun o => cell_blk ((alloc_blk_old (lt_of_block G4_3.out)).trans G4_3.out)
  have cc7 : ∀ o, (World.alloc w3 o).cell? ⟨g4, 7, none⟩ = some (.int .u16 pr) := fun o => cell_blk ((alloc_blk_old (lt_of_block G4_3.out)).trans G4_3.out)
  have cc8 : ∀ o, (World.alloc w3 o).cell? ⟨g4, 8, none⟩ = some (.slice xa xn xc) := fun o => cell_blk ((alloc_blk_old (lt_of_block G4_3.out)).trans G4_3.out)
  have cc9 : ∀ o, (World.alloc w3 o).cell? ⟨g4, 9, none⟩ = some (.slice a n c) := fun o => cell_blk ((alloc_blk_old (lt_of_block G4_3.out)).trans G4_3.out)
  have cc10 : ∀ o, (World.alloc w3 o).cell? ⟨g4, 10, none⟩ = some (.int .u8 pd) := fun o => cell_blk ((alloc_blk_old (lt_of_block G4_3.out)).trans G4_3.out)
  go_wp2_with fail
  generalize hW4 : w3.alloc _ = w4
  have E4 : Hid (Below w3.heap.size w3 w4) := Lib.hid (by rw [← hW4]; exact bone w3 _)
  have G9_4 : Hid (w4.heap[w3.heap.size]? = some (.cells #[(.bool m), (.int .u8 typ), (.int .u16 seq), (.int .u32 st), (.int .u32 source), (.slice oa on oc), (.bool ex), (.int .u16 pr), (.slice xa xn xc), (.slice a5 (2 + n) c5), (.int .u8 pd)] 44 (0, 0))) := Lib.hid (by rw [← hW4]; exact alloc_blk_new)
  clear hW4
  have D4 := Lib.hid (bmore D3.out E4.out)
  have G4_4 := Lib.hid (Below.blk E4.out G4_3.out (lt_of_block G4_3.out))
  clear cc0 cc1 cc2 cc3 cc4 cc5 cc6 cc7 cc8 cc9 cc10
  refine (unwrap_long w4.heap.size w4 m ty sq st src oa on oc ex pr xa xn xc a n c Z pd l source typ (HZ.out.up D4.out) (Nat.le_refl _) HN.out (by omega)).mono ?_
  rintro e w5 ⟨a6, c6, rfl, s6, b5⟩
  have S6 := Lib.hid s6
  clear s6
  have D5 := Lib.hid (bmore D4.out b5)
  have E5 := Lib.hid (bmore E4.out b5)
  have G4_5 := Lib.hid (Below.blk b5 G4_4.out (lt_of_block G4_4.out))
  have G9_5 := Lib.hid (Below.blk b5 G9_4.out (lt_of_block G9_4.out))
  clear b5
  have cc0 : ∀ o, (World.alloc w5 o).cell? ⟨g4, 0, none⟩ = some (.bool m) := fun o => cell_blk ((alloc_blk_old (lt_of_block G4_5.out)).trans G4_5.out)
  have cc1 : ∀ o, (World.alloc w5 o).cell? ⟨g4, 1, none⟩ = some (.int .u8 ty) := fun o => cell_blk ((alloc_blk_old (lt_of_block G4_5.out)).trans G4_5.out)
  have cc2 : ∀ o, (World.alloc w5 o).cell? ⟨g4, 2, none⟩ = some (.int .u16 sq) := fun o => cell_blk ((alloc_blk_old (lt_of_block G4_5.out)).trans G4_5.out)
  have cc3 : ∀ o, (World.alloc w5 o).cell? ⟨g4, 3, none⟩ = some (.int .u32 st) := fun o => cell_blk ((alloc_blk_old (lt_of_block G4_5.out)).trans G4_5.out)
  have cc4 : ∀ o, (World.alloc w5 o).cell? ⟨g4, 4, none⟩ = some (.int .u32 src) := fun o => cell_blk ((alloc_blk_old (lt_of_block G4_5.out)).trans G4_5.out)
  have cc5 : ∀ o, (World.alloc w5 o).cell? ⟨g4, 5, none⟩ = some (.slice oa on oc) := fun o => cell_blk ((alloc_blk_old (lt_of_block G4_5.out)).trans G4_5.out)
  have cc6 : ∀ o, (World.alloc w5 o).cell? ⟨g4, 6, none⟩ = some (.bool ex) := fun o => cell_blk ((alloc_blk_old (lt_of_block G4_5.out)).trans G4_5.out)
  have cc7 : ∀ o, (World.alloc w5 o).cell? ⟨g4, 7, none⟩ = some (.int .u16 pr) := fun o => cell_blk ((alloc_blk_old (lt_of_block G4_5.out)).trans G4_5.out)
  have cc8 : ∀ o, (World.alloc w5 o).cell? ⟨g4, 8, none⟩ = some (.slice xa xn xc) := fun o => cell_blk ((alloc_blk_old (lt_of_block G4_5.out)).trans G4_5.out)
  have cc9 : ∀ o, (World.alloc w5 o).cell? ⟨g4, 9, none⟩ = some (.slice a n c) := fun o => cell_blk ((alloc_blk_old (lt_of_block G4_5.out)).trans G4_5.out)
  have cc10 : ∀ o, (World.alloc w5 o).cell? ⟨g4, 10, none⟩ = some (.int .u8 pd) := fun o => cell_blk ((alloc_blk_old (lt_of_block G4_5.out)).trans G4_5.out)
  go_wp2_with fail
  generalize hW6 : w5.alloc _ = w6
  have F6 : Hid (Below w5.heap.size w5 w6) := Lib.hid (by rw [← hW6]; exact bone w5 _)
  have G10_6 : Hid (w6.heap[w5.heap.size]? = some (.cells #[(.bool m), (.int .u8 typ), (.int .u16 (numv Z 0 2)), (.int .u32 st), (.int .u32 source), (.slice oa on oc), (.bool ex), (.int .u16 pr), (.slice xa xn xc), (.slice a6 l c6), (.int .u8 pd)] 44 (0, 0))) := Lib.hid (by rw [← hW6]; exact alloc_blk_new)
  clear hW6
  have D6 := Lib.hid (bmore D5.out F6.out)
  have E6 := Lib.hid (bmore E5.out F6.out)
  have G4_6 := Lib.hid (Below.blk F6.out G4_5.out (lt_of_block G4_5.out))
  have G9_6 := Lib.hid (Below.blk F6.out G9_5.out (lt_of_block G9_5.out))
  clear cc0 cc1 cc2 cc3 cc4 cc5 cc6 cc7 cc8 cc9 cc10
  refine (refunwrap_long w6.heap.size w6 m ty sq st src oa on oc ex pr xa xn xc a n c Z pd l source typ (HZ.out.up D6.out) (Nat.le_refl _) HN.out (by omega)).mono ?_
  rintro e w7 ⟨a7, c7, rfl, s7, b7⟩
  have S7 := Lib.hid s7
  clear s7
  have D7 := Lib.hid (bmore D6.out b7)
  have E7 := Lib.hid (bmore E6.out b7)
  have F7 := Lib.hid (bmore F6.out b7)
  have G4_7 := Lib.hid (Below.blk b7 G4_6.out (lt_of_block G4_6.out))
  have G9_7 := Lib.hid (Below.blk b7 G9_6.out (lt_of_block G9_6.out))
  have G10_7 := Lib.hid (Below.blk b7 G10_6.out (lt_of_block G10_6.out))
  clear b7
  obtain ⟨g9, hg9⟩ : ∃ g9, g9 = w3.heap.size := ⟨_, rfl⟩
  rw [← hg9] at G9_7
  rw [← hg9]
  clear hg9
  have cc0 : ∀ o, (World.alloc w7 o).cell? ⟨g4, 0, none⟩ = some (.bool m) := fun o => cell_blk ((alloc_blk_old (lt_of_block G4_7.out)).trans G4_7.out)
  have cc1 : ∀ o, (World.alloc w7 o).cell? ⟨g4, 1, none⟩ = some (.int .u8 ty) := fun o => cell_blk ((alloc_blk_old (lt_of_block G4_7.out)).trans G4_7.out)
  have cc2 : ∀ o, (World.alloc w7 o).cell? ⟨g4, 2, none⟩ = some (.int .u16 sq) := fun o => cell_blk ((alloc_blk_old (lt_of_block G4_7.out)).trans G4_7.out)
  have cc3 : ∀ o, (World.alloc w7 o).cell? ⟨g4, 3, none⟩ = some (.int .u32 st) := fun o => cell_blk ((alloc_blk_old (lt_of_block G4_7.out)).trans G4_7.out)
  have cc4 : ∀ o, (World.alloc w7 o).cell? ⟨g4, 4, none⟩ = some (.int .u32 src) := fun o => cell_blk ((alloc_blk_old (lt_of_block G4_7.out)).trans G4_7.out)
  have cc5 : ∀ o, (World.alloc w7 o).cell? ⟨g4, 5, none⟩ = some (.slice oa on oc) := fun o => cell_blk ((alloc_blk_old (lt_of_block G4_7.out)).trans G4_7.out)
  have cc6 : ∀ o, (World.alloc w7 o).cell? ⟨g4, 6, none⟩ = some (.bool ex) := fun o => cell_blk ((alloc_blk_old (lt_of_block G4_7.out)).trans G4_7.out)
  have cc7 : ∀ o, (World.alloc w7 o).cell? ⟨g4, 7, none⟩ = some (.int .u16 pr) := fun o => cell_blk ((alloc_blk_old (lt_of_block G4_7.out)).trans G4_7.out)
  have cc8 : ∀ o, (World.alloc w7 o).cell? ⟨g4, 8, none⟩ = some (.slice xa xn xc) := fun o => cell_blk ((alloc_blk_old (lt_of_block G4_7.out)).trans G4_7.out)
  have cc9 : ∀ o, (World.alloc w7 o).cell? ⟨g4, 9, none⟩ = some (.slice a n c) := fun o => cell_blk ((alloc_blk_old (lt_of_block G4_7.out)).trans G4_7.out)
  have cc10 : ∀ o, (World.alloc w7 o).cell? ⟨g4, 10, none⟩ = some (.int .u8 pd) := fun o => cell_blk ((alloc_blk_old (lt_of_block G4_7.out)).trans G4_7.out)
  have dd0 : ∀ o, (World.alloc w7 o).cell? ⟨g9, 0, none⟩ = some (.bool m) := fun o => cell_blk ((alloc_blk_old (lt_of_block G9_7.out)).trans G9_7.out)
  have dd1 : ∀ o, (World.alloc w7 o).cell? ⟨g9, 1, none⟩ = some (.int .u8 typ) := fun o => cell_blk ((alloc_blk_old (lt_of_block G9_7.out)).trans G9_7.out)
  have dd2 : ∀ o, (World.alloc w7 o).cell? ⟨g9, 2, none⟩ = some (.int .u16 seq) := fun o => cell_blk ((alloc_blk_old (lt_of_block G9_7.out)).trans G9_7.out)
  have dd3 : ∀ o, (World.alloc w7 o).cell? ⟨g9, 3, none⟩ = some (.int .u32 st) := fun o => cell_blk ((alloc_blk_old (lt_of_block G9_7.out)).trans G9_7.out)
  have dd4 : ∀ o, (World.alloc w7 o).cell? ⟨g9, 4, none⟩ = some (.int .u32 source) := fun o => cell_blk ((alloc_blk_old (lt_of_block G9_7.out)).trans G9_7.out)
  have dd5 : ∀ o, (World.alloc w7 o).cell? ⟨g9, 5, none⟩ = some (.slice oa on oc) := fun o => cell_blk ((alloc_blk_old (lt_of_block G9_7.out)).trans G9_7.out)
  have dd6 : ∀ o, (World.alloc w7 o).cell? ⟨g9, 6, none⟩ = some (.bool ex) := fun o => cell_blk ((alloc_blk_old (lt_of_block G9_7.out)).trans G9_7.out)
  have dd7 : ∀ o, (World.alloc w7 o).cell? ⟨g9, 7, none⟩ = some (.int .u16 pr) := fun o => cell_blk ((alloc_blk_old (lt_of_block G9_7.out)).trans G9_7.out)
  have dd8 : ∀ o, (World.alloc w7 o).cell? ⟨g9, 8, none⟩ = some (.slice xa xn xc) := fun o => cell_blk ((alloc_blk_old (lt_of_block G9_7.out)).trans G9_7.out)
  have dd9 : ∀ o, (World.alloc w7 o).cell? ⟨g9, 9, none⟩ = some (.slice a5 (2 + n) c5) := fun o => cell_blk ((alloc_blk_old (lt_of_block G9_7.out)).trans G9_7.out)
  have dd10 : ∀ o, (World.alloc w7 o).cell? ⟨g9, 10, none⟩ = some (.int .u8 pd) := fun o => cell_blk ((alloc_blk_old (lt_of_block G9_7.out)).trans G9_7.out)
  go_wp2_with fail
  generalize hW8 : w7.alloc _ = w8
  have J8 : Hid (Below w7.heap.size w7 w8) := Lib.hid (by rw [← hW8]; exact bone w7 _)
  have G12_8 : Hid (w8.heap[w7.heap.size]? = some (.cells #[(.bool m), (.int .u8 typ), (.int .u16 (numv Z 0 2)), (.int .u32 st), (.int .u32 source), (.slice oa on oc), (.bool ex), (.int .u16 pr), (.slice xa xn xc), (.slice a7 l c7), (.int .u8 pd)] 44 (0, 0))) := Lib.hid (by rw [← hW8]; exact alloc_blk_new)
  clear hW8
  have D8 := Lib.hid (bmore D7.out J8.out)
  have E8 := Lib.hid (bmore E7.out J8.out)
  have F8 := Lib.hid (bmore F7.out J8.out)
  have G4_8 := Lib.hid (Below.blk J8.out G4_7.out (lt_of_block G4_7.out))
  have G9_8 := Lib.hid (Below.blk J8.out G9_7.out (lt_of_block G9_7.out))
  have G10_8 := Lib.hid (Below.blk J8.out G10_7.out (lt_of_block G10_7.out))
  clear cc0 cc1 cc2 cc3 cc4 cc5 cc6 cc7 cc8 cc9 cc10
  clear dd0 dd1 dd2 dd3 dd4 dd5 dd6 dd7 dd8 dd9 dd10
  refine (unwrap_long w8.heap.size w8 m typ seq st source oa on oc ex pr xa xn xc a5 (2 + n) c5 (catZ (putZ (fun _ => 0) 0 sq 2) 2 Z) pd n src ty (S5.out.up E8.out) (Nat.le_refl _) (by omega) (by omega)).mono ?_
  rintro e w9 ⟨a8, c8, rfl, s8, b9⟩
  rw [wrapped_num sq Z hs0 hs1]
  have S8 := Lib.hid s8
  have D9 := Lib.hid (bmore D8.out b9)
  have E9 := Lib.hid (bmore E8.out b9)
  have F9 := Lib.hid (bmore F8.out b9)
  have J9 := Lib.hid (bmore J8.out b9)
  have G4_9 := Lib.hid (Below.blk b9 G4_8.out (lt_of_block G4_8.out))
  have G9_9 := Lib.hid (Below.blk b9 G9_8.out (lt_of_block G9_8.out))
  have G10_9 := Lib.hid (Below.blk b9 G10_8.out (lt_of_block G10_8.out))
  have G12_9 := Lib.hid (Below.blk b9 G12_8.out (lt_of_block G12_8.out))
  clear b9 s8
  go_wp2_with fail
  generalize hW : w9.alloc _ = W
  have M : Hid (Below w9.heap.size w9 W) := Lib.hid (by rw [← hW]; exact bone w9 _)
  have G14 : Hid (W.heap[w9.heap.size]? = some (.cells #[(.bool m), (.int .u8 ty), (.int .u16 sq), (.int .u32 st), (.int .u32 src), (.slice oa on oc), (.bool ex), (.int .u16 pr), (.slice xa xn xc), (.slice a8 n c8), (.int .u8 pd)] 44 (0, 0))) := Lib.hid (by rw [← hW]; exact alloc_blk_new)
  clear hW
  obtain ⟨g14, hg14⟩ : ∃ g14, g14 = w9.heap.size := ⟨_, rfl⟩
  rw [← hg14] at G14
  rw [← hg14]
  clear hg14
  obtain ⟨g12, hg12⟩ : ∃ g12, g12 = w7.heap.size := ⟨_, rfl⟩
  rw [← hg12] at G12_9
  rw [← hg12]
  clear hg12
  obtain ⟨g10, hg10⟩ : ∃ g10, g10 = w5.heap.size := ⟨_, rfl⟩
  rw [← hg10] at G10_9
  rw [← hg10]
  clear hg10
  have D := Lib.hid (bmore D9.out M.out)
  have E := Lib.hid (bmore E9.out M.out)
  have F := Lib.hid (bmore F9.out M.out)
  have J := Lib.hid (bmore J9.out M.out)
  have G4 := Lib.hid (Below.blk M.out G4_9.out (lt_of_block G4_9.out))
  have G9 := Lib.hid (Below.blk M.out G9_9.out (lt_of_block G9_9.out))
  have G10 := Lib.hid (Below.blk M.out G10_9.out (lt_of_block G10_9.out))
  have G12 := Lib.hid (Below.blk M.out G12_9.out (lt_of_block G12_9.out))
  clear G4_1 G4_2 G4_3 G4_4 G4_5 G4_6 G4_7 G4_8 G4_9 G9_4 G9_5 G9_6 G9_7 G9_8 G9_9 G10_6 G10_7 G10_8 G10_9 G12_8 G12_9
  clear D1 D2 D3 D4 D5 D6 D7 D8 D9 E4 E5 E6 E7 E8 E9 F6 F7 F8 F9 J8 J9
  have ppb : Hid (∀ y : Wd W.heap.size W, y.1.heap[g4]? = some (.cells #[(.bool m), (.int .u8 ty), (.int .u16 sq), (.int .u32 st), (.int .u32 src), (.slice oa on oc), (.bool ex), (.int .u16 pr), (.slice xa xn xc), (.slice a n c), (.int .u8 pd)] 44 (0, 0))) := Lib.hid (fun y => Below.blk y.2 G4.out (lt_of_block G4.out))
  have pp0 : ∀ y : Wd W.heap.size W, y.1.cell? ⟨g4, 0, none⟩ = some (.bool m) := fun y => cell_blk (ppb.out y)
  have pp1 : ∀ y : Wd W.heap.size W, y.1.cell? ⟨g4, 1, none⟩ = some (.int .u8 ty) := fun y => cell_blk (ppb.out y)
  have pp2 : ∀ y : Wd W.heap.size W, y.1.cell? ⟨g4, 2, none⟩ = some (.int .u16 sq) := fun y => cell_blk (ppb.out y)
  have pp3 : ∀ y : Wd W.heap.size W, y.1.cell? ⟨g4, 3, none⟩ = some (.int .u32 st) := fun y => cell_blk (ppb.out y)
  have pp4 : ∀ y : Wd W.heap.size W, y.1.cell? ⟨g4, 4, none⟩ = some (.int .u32 src) := fun y => cell_blk (ppb.out y)
  have pp5 : ∀ y : Wd W.heap.size W, y.1.cell? ⟨g4, 5, none⟩ = some (.slice oa on oc) := fun y => cell_blk (ppb.out y)
  have pp6 : ∀ y : Wd W.heap.size W, y.1.cell? ⟨g4, 6, none⟩ = some (.bool ex) := fun y => cell_blk (ppb.out y)
  have pp7 : ∀ y : Wd W.heap.size W, y.1.cell? ⟨g4, 7, none⟩ = some (.int .u16 pr) := fun y => cell_blk (ppb.out y)
  have pp8 : ∀ y : Wd W.heap.size W, y.1.cell? ⟨g4, 8, none⟩ = some (.slice xa xn xc) := fun y => cell_blk (ppb.out y)
  have pp9 : ∀ y : Wd W.heap.size W, y.1.cell? ⟨g4, 9, none⟩ = some (.slice a n c) := fun y => cell_blk (ppb.out y)
  have pp10 : ∀ y : Wd W.heap.size W, y.1.cell? ⟨g4, 10, none⟩ = some (.int .u8 pd) := fun y => cell_blk (ppb.out y)
  have qqb : Hid (∀ y : Wd W.heap.size W, y.1.heap[g9]? = some (.cells #[(.bool m), (.int .u8 typ), (.int .u16 seq), (.int .u32 st), (.int .u32 source), (.slice oa on oc), (.bool ex), (.int .u16 pr), (.slice xa xn xc), (.slice a5 (2 + n) c5), (.int .u8 pd)] 44 (0, 0))) := Lib.hid (fun y => Below.blk y.2 G9.out (lt_of_block G9.out))
  have qq0 : ∀ y : Wd W.heap.size W, y.1.cell? ⟨g9, 0, none⟩ = some (.bool m) := fun y => cell_blk (qqb.out y)
  have qq1 : ∀ y : Wd W.heap.size W, y.1.cell? ⟨g9, 1, none⟩ = some (.int .u8 typ) := fun y => cell_blk (qqb.out y)
  have qq2 : ∀ y : Wd W.heap.size W, y.1.cell? ⟨g9, 2, none⟩ = some (.int .u16 seq) := fun y => cell_blk (qqb.out y)
  have qq3 : ∀ y : Wd W.heap.size W, y.1.cell? ⟨g9, 3, none⟩ = some (.int .u32 st) := fun y => cell_blk (qqb.out y)
  have qq4 : ∀ y : Wd W.heap.size W, y.1.cell? ⟨g9, 4, none⟩ = some (.int .u32 source) := fun y => cell_blk (qqb.out y)
  have qq5 : ∀ y : Wd W.heap.size W, y.1.cell? ⟨g9, 5, none⟩ = some (.slice oa on oc) := fun y => cell_blk (qqb.out y)
  have qq6 : ∀ y : Wd W.heap.size W, y.1.cell? ⟨g9, 6, none⟩ = some (.bool ex) := fun y => cell_blk (qqb.out y)
  have qq7 : ∀ y : Wd W.heap.size W, y.1.cell? ⟨g9, 7, none⟩ = some (.int .u16 pr) := fun y => cell_blk (qqb.out y)
  have qq8 : ∀ y : Wd W.heap.size W, y.1.cell? ⟨g9, 8, none⟩ = some (.slice xa xn xc) := fun y => cell_blk (qqb.out y)
  have qq9 : ∀ y : Wd W.heap.size W, y.1.cell? ⟨g9, 9, none⟩ = some (.slice a5 (2 + n) c5) := fun y => cell_blk (qqb.out y)
  have qq10 : ∀ y : Wd W.heap.size W, y.1.cell? ⟨g9, 10, none⟩ = some (.int .u8 pd) := fun y => cell_blk (qqb.out y)
  have rrb : Hid (∀ y : Wd W.heap.size W, y.1.heap[g10]? = some (.cells #[(.bool m), (.int .u8 typ), (.int .u16 (numv Z 0 2)), (.int .u32 st), (.int .u32 source), (.slice oa on oc), (.bool ex), (.int .u16 pr), (.slice xa xn xc), (.slice a6 l c6), (.int .u8 pd)] 44 (0, 0))) := Lib.hid (fun y => Below.blk y.2 G10.out (lt_of_block G10.out))
  have rr0 : ∀ y : Wd W.heap.size W, y.1.cell? ⟨g10, 0, none⟩ = some (.bool m) := fun y => cell_blk (rrb.out y)
  have rr1 : ∀ y : Wd W.heap.size W, y.1.cell? ⟨g10, 1, none⟩ = some (.int .u8 typ) := fun y => cell_blk (rrb.out y)
  have rr2 : ∀ y : Wd W.heap.size W, y.1.cell? ⟨g10, 2, none⟩ = some (.int .u16 (numv Z 0 2)) := fun y => cell_blk (rrb.out y)
  have rr3 : ∀ y : Wd W.heap.size W, y.1.cell? ⟨g10, 3, none⟩ = some (.int .u32 st) := fun y => cell_blk (rrb.out y)
  have rr4 : ∀ y : Wd W.heap.size W, y.1.cell? ⟨g10, 4, none⟩ = some (.int .u32 source) := fun y => cell_blk (rrb.out y)
  have rr5 : ∀ y : Wd W.heap.size W, y.1.cell? ⟨g10, 5, none⟩ = some (.slice oa on oc) := fun y => cell_blk (rrb.out y)
  have rr6 : ∀ y : Wd W.heap.size W, y.1.cell? ⟨g10, 6, none⟩ = some (.bool ex) := fun y => cell_blk (rrb.out y)
  have rr7 : ∀ y : Wd W.heap.size W, y.1.cell? ⟨g10, 7, none⟩ = some (.int .u16 pr) := fun y => cell_blk (rrb.out y)
  have rr8 : ∀ y : Wd W.heap.size W, y.1.cell? ⟨g10, 8, none⟩ = some (.slice xa xn xc) := fun y => cell_blk (rrb.out y)
  have rr9 : ∀ y : Wd W.heap.size W, y.1.cell? ⟨g10, 9, none⟩ = some (.slice a6 l c6) := fun y => cell_blk (rrb.out y)
  have rr10 : ∀ y : Wd W.heap.size W, y.1.cell? ⟨g10, 10, none⟩ = some (.int .u8 pd) := fun y => cell_blk (rrb.out y)
  have ssb : Hid (∀ y : Wd W.heap.size W, y.1.heap[g12]? = some (.cells #[(.bool m), (.int .u8 typ), (.int .u16 (numv Z 0 2)), (.int .u32 st), (.int .u32 source), (.slice oa on oc), (.bool ex), (.int .u16 pr), (.slice xa xn xc), (.slice a7 l c7), (.int .u8 pd)] 44 (0, 0))) := Lib.hid (fun y => Below.blk y.2 G12.out (lt_of_block G12.out))
  have ss0 : ∀ y : Wd W.heap.size W, y.1.cell? ⟨g12, 0, none⟩ = some (.bool m) := fun y => cell_blk (ssb.out y)
  have ss1 : ∀ y : Wd W.heap.size W, y.1.cell? ⟨g12, 1, none⟩ = some (.int .u8 typ) := fun y => cell_blk (ssb.out y)
  have ss2 : ∀ y : Wd W.heap.size W, y.1.cell? ⟨g12, 2, none⟩ = some (.int .u16 (numv Z 0 2)) := fun y => cell_blk (ssb.out y)
  have ss3 : ∀ y : Wd W.heap.size W, y.1.cell? ⟨g12, 3, none⟩ = some (.int .u32 st) := fun y => cell_blk (ssb.out y)
  have ss4 : ∀ y : Wd W.heap.size W, y.1.cell? ⟨g12, 4, none⟩ = some (.int .u32 source) := fun y => cell_blk (ssb.out y)
  have ss5 : ∀ y : Wd W.heap.size W, y.1.cell? ⟨g12, 5, none⟩ = some (.slice oa on oc) := fun y => cell_blk (ssb.out y)
  have ss6 : ∀ y : Wd W.heap.size W, y.1.cell? ⟨g12, 6, none⟩ = some (.bool ex) := fun y => cell_blk (ssb.out y)
  have ss7 : ∀ y : Wd W.heap.size W, y.1.cell? ⟨g12, 7, none⟩ = some (.int .u16 pr) := fun y => cell_blk (ssb.out y)
  have ss8 : ∀ y : Wd W.heap.size W, y.1.cell? ⟨g12, 8, none⟩ = some (.slice xa xn xc) := fun y => cell_blk (ssb.out y)
  have ss9 : ∀ y : Wd W.heap.size W, y.1.cell? ⟨g12, 9, none⟩ = some (.slice a7 l c7) := fun y => cell_blk (ssb.out y)
  have ss10 : ∀ y : Wd W.heap.size W, y.1.cell? ⟨g12, 10, none⟩ = some (.int .u8 pd) := fun y => cell_blk (ssb.out y)
  have ttb : Hid (∀ y : Wd W.heap.size W, y.1.heap[g14]? = some (.cells #[(.bool m), (.int .u8 ty), (.int .u16 sq), (.int .u32 st), (.int .u32 src), (.slice oa on oc), (.bool ex), (.int .u16 pr), (.slice xa xn xc), (.slice a8 n c8), (.int .u8 pd)] 44 (0, 0))) := Lib.hid (fun y => Below.blk y.2 G14.out (lt_of_block G14.out))
  have tt0 : ∀ y : Wd W.heap.size W, y.1.cell? ⟨g14, 0, none⟩ = some (.bool m) := fun y => cell_blk (ttb.out y)
  have tt1 : ∀ y : Wd W.heap.size W, y.1.cell? ⟨g14, 1, none⟩ = some (.int .u8 ty) := fun y => cell_blk (ttb.out y)
  have tt2 : ∀ y : Wd W.heap.size W, y.1.cell? ⟨g14, 2, none⟩ = some (.int .u16 sq) := fun y => cell_blk (ttb.out y)
  have tt3 : ∀ y : Wd W.heap.size W, y.1.cell? ⟨g14, 3, none⟩ = some (.int .u32 st) := fun y => cell_blk (ttb.out y)
  have tt4 : ∀ y : Wd W.heap.size W, y.1.cell? ⟨g14, 4, none⟩ = some (.int .u32 src) := fun y => cell_blk (ttb.out y)
  have tt5 : ∀ y : Wd W.heap.size W, y.1.cell? ⟨g14, 5, none⟩ = some (.slice oa on oc) := fun y => cell_blk (ttb.out y)
  have tt6 : ∀ y : Wd W.heap.size W, y.1.cell? ⟨g14, 6, none⟩ = some (.bool ex) := fun y => cell_blk (ttb.out y)
  have tt7 : ∀ y : Wd W.heap.size W, y.1.cell? ⟨g14, 7, none⟩ = some (.int .u16 pr) := fun y => cell_blk (ttb.out y)
  have tt8 : ∀ y : Wd W.heap.size W, y.1.cell? ⟨g14, 8, none⟩ = some (.slice xa xn xc) := fun y => cell_blk (ttb.out y)
  have tt9 : ∀ y : Wd W.heap.size W, y.1.cell? ⟨g14, 9, none⟩ = some (.slice a8 n c8) := fun y => cell_blk (ttb.out y)
  have tt10 : ∀ y : Wd W.heap.size W, y.1.cell? ⟨g14, 10, none⟩ = some (.int .u8 pd) := fun y => cell_blk (ttb.out y)
  refine wp_region_mix [5, 6, 7, 12, 13, 19, 20, 23, 24, 25, 28, 29, 32] W.heap.size W (Below.refl _ _) (by kernel_rfl) (by kernel_rfl) (by kernel_rfl) ?_
  iterate 5 (refine mix_read rfl (fun K hK => ?_); go_simp; refine hK _ ?_; clear hK K)
  refine mix_move rfl (fun K hK => ?_)
  go_simp
  refine (refwrap_any W.heap.size W.drew m ty sq st src oa on oc ex pr xa xn xc a n c Z pd source typ seq (HZ.out.up D.out.drew) (Nat.le_refl _) (by omega) hs0 hs1).mono ?_
  rintro e x1 ⟨a9, c9, rfl, s9, bx⟩
  have S9 := Lib.hid s9
  have X1 : Hid (Below W.heap.size W x1) := Lib.hid ((Below.refl _ W).drew.trans bx)
  clear s9 bx
  refine ⟨_, rfl, X1.out, hK _ _ ?_⟩
  clear hK K
  refine mix_move rfl (fun K hK => ?_)
  go_simp
  refine (same_any x1.heap.size x1 m typ seq st source oa on oc ex pr xa xn xc a5 (2 + n) c5 (catZ (putZ (fun _ => 0) 0 sq 2) 2 Z) a9 c9 (catZ (putZ (fun _ => 0) 0 sq 2) 2 Z) pd V X (HO.out.up (bmore D.out X1.out)) (HX.out.up (bmore D.out X1.out)) (S5.out.up (bmore E.out X1.out)) S9.out (fun _ _ => rfl) (Nat.le_refl _)).mono ?_
  rintro e x2 ⟨rfl, bx⟩
  have X2 := Lib.hid (bmore X1.out bx)
  clear bx
  refine ⟨_, rfl, X2.out, hK _ _ ?_⟩
  clear hK K
  (refine mix_move rfl (fun K hK => ?_); go_simp; refine ⟨X2.out, hK _ _ ?_⟩; clear hK K)
  iterate 4 (refine mix_read rfl (fun K hK => ?_); go_simp; refine hK _ ?_; clear hK K)
  iterate 2 (refine mix_move rfl (fun K hK => ?_); go_simp; refine ⟨X2.out, hK _ _ ?_⟩; clear hK K)
  iterate 5 (refine mix_read rfl (fun K hK => ?_); go_simp; refine hK _ ?_; clear hK K)
  iterate 2 (refine mix_move rfl (fun K hK => ?_); go_simp; refine ⟨X2.out, hK _ _ ?_⟩; clear hK K)
  iterate 2 (refine mix_read rfl (fun K hK => ?_); go_simp; refine hK _ ?_; clear hK K)
  refine mix_move rfl (fun K hK => ?_)
  go_simp
  refine (same_any x2.heap.size x2 m typ (numv Z 0 2) st source oa on oc ex pr xa xn xc a6 l c6 (fun i => Z (2 + i)) a7 c7 (fun i => Z (2 + i)) pd V X (HO.out.up (bmore D.out X2.out)) (HX.out.up (bmore D.out X2.out)) (S6.out.up (bmore F.out X2.out)) (S7.out.up (bmore J.out X2.out)) (fun _ _ => rfl) (Nat.le_refl _)).mono ?_
  rintro e x3 ⟨rfl, bx⟩
  have X3 := Lib.hid (bmore X2.out bx)
  clear bx
  refine ⟨_, rfl, X3.out, hK _ _ ?_⟩
  clear hK K
  iterate 2 (refine mix_move rfl (fun K hK => ?_); go_simp; refine ⟨X3.out, hK _ _ ?_⟩; clear hK K)
  iterate 2 (refine mix_read rfl (fun K hK => ?_); go_simp; refine hK _ ?_; clear hK K)
  iterate 2 (refine mix_move rfl (fun K hK => ?_); go_simp; refine ⟨X3.out, hK _ _ ?_⟩; clear hK K)
  iterate 2 (refine mix_read rfl (fun K hK => ?_); go_simp; refine hK _ ?_; clear hK K)
  refine mix_move rfl (fun K hK => ?_)
  go_simp
  refine (same_any x3.heap.size x3 m ty sq st src oa on oc ex pr xa xn xc a8 n c8 (fun i => catZ (putZ (fun _ => 0) 0 sq 2) 2 Z (2 + i)) a c Z pd V X (HO.out.up (bmore D.out X3.out)) (HX.out.up (bmore D.out X3.out)) (S8.out.up (bmore M.out X3.out)) (HZ.out.up (bmore D.out X3.out)) (fun _ _ => wrapped_rest _ _ _) (Nat.le_refl _)).mono ?_
  rintro e x4 ⟨rfl, bx⟩
  have X4 := Lib.hid (bmore X3.out bx)
  clear bx
  refine ⟨_, rfl, X4.out, hK _ _ ?_⟩
  clear hK K
  iterate 2 (refine mix_read rfl (fun K hK => ?_); go_simp; refine hK _ ?_; clear hK K)
  refine mix_nil ?_
  change Exit.then _ _ _ _ x4
  go_wp2_with fail
  go_ret
  exact ⟨rfl, bmore D.out X4.out⟩
set_option maxRecDepth 100000 in
set_option maxHeartbeats 2000000 in
theorem RtxWraps.walk (v : Value) (source typ seq : Int) (w : World) (s : ArgS Try.prog w 44 v) (w1 : (Lit.int .u32 source).wf = true) (w2 : (Lit.int .u8 typ).wf = true) (w3 : (Lit.int .u16 seq).wf = true) :
    Calls Try.prog 5 #[v, .int .u32 source, .int .u8 typ, .int .u16 seq] w fun e w' => e = .returned (.bool true) ∧ Below w.heap.size w w' := by
  obtain ⟨m, ty, sq, st, src, oa, on, oc, ex, pr, xa, xn, xc, a, n, c, pd, V, X, Z, rfl, ho, hx, hz, hs0, hs1, _⟩ := rtp_of s
  clear s w1 w2 w3
  by_cases hg : greatB n xn on = false
  · by_cases hn : n < 2
    · exact wraps_short w m ty sq st src oa on oc ex pr xa xn xc a n c Z pd V X source typ seq ho hx hz hs0 hs1 hg hn
    · exact wraps_long w m ty sq st src oa on oc ex pr xa xn xc a n c Z pd V X (n - 2) source typ seq ho hx hz hs0 hs1 hg (by omega)
  · have hg' : greatB n xn on = true := by simpa using hg
    have HG := Lib.hid hg'
    clear hg hg' ho hx hz
    go_enter Try.func5, Try.ntmps5
    go_wp2_with fail
    refine (alive34_any _).mono ?_
    rintro e w1 ⟨rfl, b1⟩
    have D1 : Hid (Below w.heap.size w w1) := Lib.hid (bmore (bone w _) b1)
    have G4_1 : Hid (w1.heap[w.heap.size]? = some (.cells #[(.bool m), (.int .u8 ty), (.int .u16 sq), (.int .u32 st), (.int .u32 src), (.slice oa on oc), (.bool ex), (.int .u16 pr), (.slice xa xn xc), (.slice a n c), (.int .u8 pd)] 44 (0, 0))) := Lib.hid (Below.blk b1 alloc_blk_new (by simp))
    clear b1
    have cc0 : w1.cell? ⟨w.heap.size, 0, none⟩ = some (.bool m) := cell_blk G4_1.out
    have cc1 : w1.cell? ⟨w.heap.size, 1, none⟩ = some (.int .u8 ty) := cell_blk G4_1.out
    have cc2 : w1.cell? ⟨w.heap.size, 2, none⟩ = some (.int .u16 sq) := cell_blk G4_1.out
    have cc3 : w1.cell? ⟨w.heap.size, 3, none⟩ = some (.int .u32 st) := cell_blk G4_1.out
    have cc4 : w1.cell? ⟨w.heap.size, 4, none⟩ = some (.int .u32 src) := cell_blk G4_1.out
    have cc5 : w1.cell? ⟨w.heap.size, 5, none⟩ = some (.slice oa on oc) := cell_blk G4_1.out
    have cc6 : w1.cell? ⟨w.heap.size, 6, none⟩ = some (.bool ex) := cell_blk G4_1.out
    have cc7 : w1.cell? ⟨w.heap.size, 7, none⟩ = some (.int .u16 pr) := cell_blk G4_1.out
    have cc8 : w1.cell? ⟨w.heap.size, 8, none⟩ = some (.slice xa xn xc) := cell_blk G4_1.out
    have cc9 : w1.cell? ⟨w.heap.size, 9, none⟩ = some (.slice a n c) := cell_blk G4_1.out
    have cc10 : w1.cell? ⟨w.heap.size, 10, none⟩ = some (.int .u8 pd) := cell_blk G4_1.out

    go_wp2_with fail
    refine (great_any w1 m ty sq st src oa on oc ex pr xa xn xc a n c pd).mono ?_
    rintro e w2 ⟨rfl, b2⟩
    rw [HG.out]
    go_wp2_with fail
    go_ret
    exact ⟨rfl, bmore D1.out b2⟩

end Go.Proofs.Ytihbceippcgfgaa
