/-
  Chapter 44: a book; which ticks are old; forgetting where nothing is old.
-/
import Derived.Test.YtkoplofcjbeicaaCoA
import Derived.Test.YtkoplofcjbeicaaApp
namespace Go.Proofs.Ytkoplofcjbeicaa
open Go.RowKit
set_option linter.unusedVariables false
set_option linter.unusedSimpArgs false
attribute [local irreducible] wpStill wpQuiet MixC.wpMix

noncomputable def srcKey : KeyI Try.prog 41 Int := intKeyI (q := .u32) Try.underlying41
/-- all old blocks but g and h are as they were -/
structure Kq (g h : Nat) (w w' : World) : Prop where
  os : w'.os = w.os
  tape : w'.tape = w.tape
  output : w'.output = w.output
  size : w.heap.size ≤ w'.heap.size
  block : ∀ q, q < w.heap.size → q ≠ g → q ≠ h → w'.heap[q]? = w.heap[q]?
theorem Kq.rf (g h : Nat) (w : World) : Kq g h w w := ⟨rfl, rfl, rfl, Nat.le_refl _, fun _ _ _ _ => rfl⟩
theorem Kq.trans {g h : Nat} {u w w' : World} (k : Kq g h u w) (b : Kq g h w w') : Kq g h u w' :=
  ⟨b.os.trans k.os, b.tape.trans k.tape, b.output.trans k.output, Nat.le_trans k.size b.size, fun q hq h1 h2 => (b.block q (Nat.lt_of_lt_of_le hq k.size) h1 h2).trans (k.block q hq h1 h2)⟩
theorem Kq.bl {g h : Nat} {w w' : World} (b : Below w.heap.size w w') : Kq g h w w' := ⟨b.os, b.tape, b.output, b.size, fun q hq _ _ => b.block q hq⟩
theorem Kq.lk {g h : Nat} {w w' : World} (k : Keeps g w w') : Kq g h w w' := ⟨k.os, k.tape, k.output, k.size, fun q hq h1 _ => k.block q hq h1⟩
theorem Kq.rk {g h : Nat} {w w' : World} (k : Keeps h w w') : Kq g h w w' := ⟨k.os, k.tape, k.output, k.size, fun q hq _ h2 => k.block q hq h2⟩
theorem Kq.below {g h B : Nat} {w w' : World} (k : Kq g h w w') (h1 : B ≤ g) (h2 : B ≤ h) (hB : B ≤ w.heap.size) : Below B w w' := ⟨k.os, k.tape, k.output, k.size, fun q hq => k.block q (by omega) (by omega) (by omega)⟩
/-- a book in memory: its own number, how long it keeps, its sources, its conflicts -/
structure BK (B g ms mc N : Nat) (own keep : Int) (S : Int → Option Value) (ns : Nat) (C : Plc → Option Value) (nc : Nat) (w : World) : Prop where
  blk : w.heap[g]? = some (.cells #[.int .u32 own, .int .i64 keep, .map (some ms), .map (some mc)] 115 (0, 0))
  src : MapI srcKey.toKeyT w ms N S ns
  con : MapI tupKey.toKeyT w mc N C nc
  ns : ms ≠ g
  nc : mc ≠ g
  nm : ms ≠ mc
  lg : B ≤ g
  ls : B ≤ ms
  lc : B ≤ mc
theorem BK.keep {B g ms mc N : Nat} {own kp : Int} {S : Int → Option Value} {ns : Nat} {C : Plc → Option Value} {nc : Nat} {w w' : World} (h : BK B g ms mc N own kp S ns C nc w) (b : Below w.heap.size w w') : BK B g ms mc N own kp S ns C nc w' :=
  ⟨Below.blk b h.blk (lt_of_block h.blk), h.src.of_blk (b.block _ h.src.lt), h.con.of_blk (b.block _ h.con.lt), h.ns, h.nc, h.nm, h.lg, h.ls, h.lc⟩
theorem old_any (B g ms mc N : Nat) (own kp : Int) (S : Int → Option Value) (ns : Nat) (C : Plc → Option Value) (nc : Nat) (w : World) (h : BK B g ms mc N own kp S ns C nc w) (t k : Int) (ht : -1000 ≤ t ∧ t ≤ 1000) (hk : -1000 ≤ k ∧ k ≤ 1000) :
    Calls Try.prog 66 #[.pointer (some ⟨g, 0, none⟩), .int .i64 t, .int .i64 k] w fun e w' => e = .returned (.bool (decide (kp < k - t))) ∧ w = w' := by
  have c1 : w.cell? ⟨g, 1, none⟩ = some (.int .i64 kp) := cell_blk h.blk
  have hw : IntKind.i64.wrap (k - t) = k - t := by rw [IntKind.wrap_i64]; omega
  have hw2 : wrap64 (k - t) = k - t := by unfold wrap64; omega
  clear h
  go_enter Try.func66, Try.ntmps66
  go_wp2_with fail
  go_ret
  exact ⟨rfl, rfl⟩
/-- the conflicts' ticks, small and none old at tick -/
def Fresh (kp tick : Int) (C : Plc → Option Value) : Prop := ∀ x v, plok x → C x = some v → ∃ t : Int, v = .int .i64 t ∧ -1000 ≤ t ∧ t ≤ 1000 ∧ ¬ kp < tick - t
set_option maxRecDepth 100000 in
set_option maxHeartbeats 2000000 in
theorem forget_any (B g ms mc N : Nat) (own kp : Int) (S : Int → Option Value) (ns : Nat) (C : Plc → Option Value) (nc : Nat) (w : World) (h : BK B g ms mc N own kp S ns C nc w) (tick : Int) (hk : -1000 ≤ tick ∧ tick ≤ 1000) (hf : Fresh kp tick C) :
    Calls Try.prog 64 #[.pointer (some ⟨g, 0, none⟩), .int .i64 tick] w fun e w' => e = .returned (.tuple #[]) ∧ Below w.heap.size w w' := by
  obtain ⟨W1, hrun, hR, hB, hsz⟩ := h.con.range (k := tupKey) Try.underlying113
  have c3 : w.cell? ⟨g, 3, none⟩ = some (.map (some mc)) := cell_blk h.blk
  have H := Lib.hid h
  have HR := Lib.hid hR
  have HB := Lib.hid hB
  have HF := Lib.hid hf
  clear h hR hB hf hsz
  go_enter Try.func64, Try.ntmps64
  go_wp2_with fail
  go_loopw [5] (fun s5 wx => ∃ left cnt, s5 = s5 ∧ Hid (RangeI tupKey wx mc w.heap.size N C nc left cnt) ∧ Hid (Below w.heap.size w wx)) (fun s5 wx => wx.rangeLeft mc w.heap.size)
  case atStart => exact ⟨_, _, rfl, HR, HB⟩
  case round =>
    obtain ⟨left, cnt, -, HR, HB⟩ := hrel
    rcases HR.out.next 0 with ⟨r1, r2, r3⟩ | ⟨x, v, w2, cnt2, hx, hl, hf, r3, hR2, hlt, k2, hs2, hen⟩
    · clear r1 r2
      go_wp2_with fail
      go_end0
      exact ⟨rfl, HB.out⟩
    · obtain ⟨t, rfl, ht1, ht2, ht3⟩ := HF.out x v hx hf
      have HR2 := Lib.hid hR2
      have HM : Hid (cnt2 < wr.rangeLeft mc w.heap.size) := Lib.hid (by rw [HR.out.cnt_le]; exact hlt)
      have hlr := HR.out.lt
      have HB2 : Hid (Below w.heap.size w w2) := Lib.hid (HB.out.trans (k2.below (Nat.le_of_lt hlr) (Nat.le_refl _)))
      obtain ⟨x1, x2⟩ := x
      have hen' : (Instr.entry (.pointer (some ⟨w.heap.size, 0, none⟩))).run Try.prog w2 = .ok (.tuple #[.agg #[.int .u32 x1, .int .u16 x2], .int .i64 t]) w2 := hen
      have r3' : (Instr.next (.pointer (some ⟨w.heap.size, 0, none⟩)) false 0).run Try.prog wr = .ok (.tuple #[.bool true, .agg #[.int .u32 x1, .int .u16 x2], .int .i64 t]) w2 := r3
      clear hR2 hlt hl hf k2 hs2 hx hen r3
      go_wp2_with fail
      generalize hW3 : World.alloc w2 _ = W3
      have b3 : Below w2.heap.size w2 W3 := by rw [← hW3]; exact (Below.refl _ _).alloc (Nat.le_refl _) _
      have HB3 : Hid (Below w.heap.size w W3) := Lib.hid (HB2.out.trans (b3.mono HB2.out.size))
      have HR3 : Hid (RangeI tupKey W3 mc w.heap.size N C nc (fun y => left y && !decide (y = (x1, x2))) cnt2) := Lib.hid (HR2.out.of_blks (b3.block _ HR2.out.map.lt) (b3.block _ HR2.out.lt))
      clear hW3 b3
      have tf : decide (kp < tick - t) = false := by simp; omega
      refine (old_any B g ms mc N own kp S ns C nc W3 (H.out.keep HB3.out) t tick ⟨ht1, ht2⟩ hk).mono ?_
      rintro e w4 ⟨rfl, rfl⟩
      clear r3' hen'
      go_wp2_with fail
      exact ⟨⟨_, _, by trivial, HR3, HB3⟩, by rw [HR3.out.cnt_le]; exact HM.out⟩
end Go.Proofs.Ytkoplofcjbeicaa
