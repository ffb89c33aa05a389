/-
  Chapter 44: two places compared; Take at a source that isn't its own.
-/
import Derived.Test.YtkoplofcjbeicaaCoB
import Derived.Laws.StructEq
import Derived.StillTailTactics
namespace Go.Proofs.Ytkoplofcjbeicaa
open Go.RowKit
set_option linter.unusedVariables false
set_option linter.unusedSimpArgs false
attribute [local irreducible] wpStill wpQuiet MixC.wpMix

theorem eqin_plc (x y : Plc) (W : World) : (Op.equalIn 10000 43 (.agg #[.int .u32 x.1, .int .u16 x.2]) (.agg #[.int .u32 y.1, .int .u16 y.2])).run Try.prog W = .ok (decide (x = y)) W := by
  have hS : Try.prog.underlying 43 = some (.struct (Try.prog.fieldsOf 43)) := by kernel_rfl
  have hp : Try.prog.stoodInHeld 43 = false := by kernel_rfl
  have a3 : ∀ W : World, (isAgg 41).run Try.prog W = .ok false W := fun W => by kernel_rfl
  have a4 : ∀ W : World, (isAgg 24).run Try.prog W = .ok false W := fun W => by kernel_rfl
  have u3 := Try.underlying41
  have u4 := Try.underlying24
  obtain ⟨x1, x2⟩ := x
  obtain ⟨y1, y2⟩ := y
  rw [show (10000 : Nat) = 9999 + 1 from rfl, run_equalIn_struct W 9999 _ _ _ hS hp]
  simp only [Program.fieldsOf, Try.underlying43]
  go_simp
  by_cases h1 : x1 = y1 <;> by_cases h2 : x2 = y2 <;> simp [h1, h2]
/-- where a source is, and since when -/
def pv (x : Plc) (t : Int) : Value := .agg #[.int .u32 x.1, .int .u16 x.2, .int .i64 t]
theorem zero_pl (W : World) : (zeroValue 119).run Try.prog W = .ok (.agg #[.int .u32 0, .int .u16 0, .int .i64 0]) W := by kernel_rfl
theorem zero_tk (W : World) : (zeroValue 2).run Try.prog W = .ok (.int .i64 0) W := by kernel_rfl
theorem BK.src_set {B g ms mc N : Nat} {own kp : Int} {S : Int → Option Value} {ns : Nat} {C : Plc → Option Value} {nc : Nat} {w : World} (h : BK B g ms mc N own kp S ns C nc w) (hN : N < 100000) (x : Int) (hx : (Lit.int .u32 x).wf = true) (v : Value) :
    ∃ w', (Instr.mapUpdate 112 (.map (some ms)) (.int .u32 x) v).run Try.prog w = .ok () w' ∧ BK B g ms mc (N + 1) own kp (setAt S x (some v)) (if (S x).isSome then ns else ns + 1) C nc w' ∧ Below B w w' ∧ Keeps ms w w' := by
  obtain ⟨w', r, hm, hk, hs⟩ := h.src.store (t := 112) Try.underlying112 (by unfold maxLen; omega) x hx v
  have hb : Below B w w' := hk.below (Nat.le_trans h.ls (Nat.le_of_lt h.src.lt)) h.ls
  exact ⟨w', r, ⟨(hk.block _ (lt_of_block h.blk) (fun e => h.ns e.symm)).trans h.blk, hm, (h.con.of_blk (hk.block _ h.con.lt (fun e => h.nm e.symm))).mono (Nat.le_succ N), h.ns, h.nc, h.nm, h.lg, h.ls, h.lc⟩, hb, hk⟩
theorem BK.con_set {B g ms mc N : Nat} {own kp : Int} {S : Int → Option Value} {ns : Nat} {C : Plc → Option Value} {nc : Nat} {w : World} (h : BK B g ms mc N own kp S ns C nc w) (hN : N < 100000) (x : Plc) (hx : plok x) (v : Value) :
    ∃ w', (Instr.mapUpdate 113 (.map (some mc)) (.agg #[.int .u32 x.1, .int .u16 x.2]) v).run Try.prog w = .ok () w' ∧ BK B g ms mc (N + 1) own kp S ns (setAt C x (some v)) (if (C x).isSome then nc else nc + 1) w' ∧ Below B w w' ∧ Keeps mc w w' := by
  obtain ⟨w', r, hm, hk, hs⟩ := h.con.store (t := 113) Try.underlying113 (by unfold maxLen; omega) x hx v
  have hb : Below B w w' := hk.below (Nat.le_trans h.lc (Nat.le_of_lt h.con.lt)) h.lc
  exact ⟨w', r, ⟨(hk.block _ (lt_of_block h.blk) (fun e => h.nc e.symm)).trans h.blk, (h.src.of_blk (hk.block _ h.src.lt h.nm)).mono (Nat.le_succ N), hm, h.ns, h.nc, h.nm, h.lg, h.ls, h.lc⟩, hb, hk⟩
theorem BK.con_drop {B g ms mc N : Nat} {own kp : Int} {S : Int → Option Value} {ns : Nat} {C : Plc → Option Value} {nc : Nat} {w : World} (h : BK B g ms mc N own kp S ns C nc w) (x : Plc) (hx : plok x) (ty : TypeId) :
    ∃ w', (Builtin.delete_ #[113, 43] ty #[.map (some mc), .agg #[.int .u32 x.1, .int .u16 x.2]]).run Try.prog w = .ok (.tuple #[]) w' ∧ BK B g ms mc N own kp S ns (setAt C x none) (if (C x).isSome then nc - 1 else nc) w' ∧ Below B w w' ∧ Keeps mc w w' := by
  obtain ⟨w', r, hm, hk, hs⟩ := h.con.drop (t := 113) Try.underlying113 x hx ty
  have hb : Below B w w' := hk.below (Nat.le_trans h.lc (Nat.le_of_lt h.con.lt)) h.lc
  exact ⟨w', r, ⟨(hk.block _ (lt_of_block h.blk) (fun e => h.nc e.symm)).trans h.blk, h.src.of_blk (hk.block _ h.src.lt h.nm), hm, h.ns, h.nc, h.nm, h.lg, h.ls, h.lc⟩, hb, hk⟩
theorem BK.more {B g ms mc N : Nat} {own kp : Int} {S : Int → Option Value} {ns : Nat} {C : Plc → Option Value} {nc : Nat} {w : World} (h : BK B g ms mc N own kp S ns C nc w) : BK B g ms mc (N + 1) own kp S ns C nc w := ⟨h.blk, h.src.mono (Nat.le_succ N), h.con.mono (Nat.le_succ N), h.ns, h.nc, h.nm, h.lg, h.ls, h.lc⟩
theorem BK.size {B g ms mc N : Nat} {own kp : Int} {S : Int → Option Value} {ns : Nat} {C : Plc → Option Value} {nc : Nat} {w : World} (h : BK B g ms mc N own kp S ns C nc w) : B ≤ w.heap.size := Nat.le_trans h.lg (Nat.le_of_lt (lt_of_block h.blk))
/-- how Take ends: what it says, and the book -/
def TkP (B g ms mc N : Nat) (own kp : Int) (S : Int → Option Value) (ns : Nat) (C : Plc → Option Value) (nc : Nat) (r : Int) (w : World) (e : Ending) (w' : World) : Prop :=
  e = .returned (.int .i64 r) ∧ BK B g ms mc N own kp S ns C nc w' ∧ Kq ms mc w w'
/-- Take of a source that isn't its own, in the four ways that are asked here -/
inductive TkO (s : Int) (p : Plc) (tick kp : Int) (S : Int → Option Value) (ns : Nat) : Int → (Int → Option Value) → Nat → Prop
  | new : S s = none → ns < 64 → TkO s p tick kp S ns 0 (setAt S s (some (pv p tick))) (ns + 1)
  | full : S s = none → 64 ≤ ns → TkO s p tick kp S ns 4 S ns
  | same : (∃ t0, S s = some (pv p t0)) → TkO s p tick kp S ns 1 (setAt S s (some (pv p tick))) ns
  | coll : (∃ a t0, S s = some (pv a t0) ∧ a ≠ p ∧ -1000 ≤ t0 ∧ t0 ≤ 1000 ∧ ¬ kp < tick - t0) → TkO s p tick kp S ns 5 S ns
set_option maxRecDepth 100000 in
set_option maxHeartbeats 8000000 in
theorem take_src (B g ms mc N : Nat) (own kp : Int) (S : Int → Option Value) (ns : Nat) (C : Plc → Option Value) (nc : Nat) (w : World) (h : BK B g ms mc N own kp S ns C nc w) (hN : N < 10000) (s : Int) (from_ : Plc) (tick : Int) (hk : -1000 ≤ tick ∧ tick ≤ 1000) (hf : Fresh kp tick C)
    (hs : s ≠ own) (hw : (Lit.int .u32 s).wf = true) (r : Int) (S' : Int → Option Value) (ns' : Nat) (ho : TkO s from_ tick kp S ns r S' ns') :
    Calls Try.prog 36 #[.pointer (some ⟨g, 0, none⟩), .int .u32 s, plv from_, .int .i64 tick] w (TkP B g ms mc (N + 1) own kp S' ns' C nc r w) := by
  obtain ⟨f1, f2⟩ := from_
  have HF := Lib.hid hf
  have t1 : decide (s = own) = false := by simp [hs]
  have t1' : (s == own) = false := by simp [hs]
  unfold plv
  generalize hW : w.alloc (.cells #[.int .u32 f1, .int .u16 f2] 43) = W
  have bW : Below w.heap.size w W := by rw [← hW]; exact (Below.refl _ _).alloc (Nat.le_refl _) _
  have hB := h.keep bW
  have HB := Lib.hid hB
  have BW : Hid (Kq ms mc w W) := Lib.hid (Kq.bl bW)
  have cW : W.heap[w.heap.size]? = some (.cells #[.int .u32 f1, .int .u16 f2] 43 (0, 0)) := by rw [← hW]; exact alloc_blk_new
  have CW := Lib.hid cW
  have HO := Lib.hid ho
  clear h hB bW hf hs cW ho
  go_enter Try.func36, Try.ntmps36
  go_wp2_with fail
  try rw [hW]
  clear hW
  refine (forget_any B g ms mc N own kp S ns C nc W HB.out tick hk HF.out).mono ?_
  rintro e w2 ⟨rfl, b2⟩
  have H2 := HB.out.keep b2
  have B2 := Lib.hid (BW.out.trans (Kq.bl b2))
  have g2 : w2.heap[w.heap.size]? = some (.cells #[.int .u32 f1, .int .u16 f2] 43 (0, 0)) := Below.blk b2 CW.out (lt_of_block CW.out)
  have hlt := lt_of_block g2
  have hlg := lt_of_block H2.blk
  have c0 : w2.cell? ⟨g, 0, none⟩ = some (.int .u32 own) := cell_blk H2.blk
  have c2 : w2.cell? ⟨g, 2, none⟩ = some (.map (some ms)) := cell_blk H2.blk
  have x0 : w2.cell? ⟨w.heap.size, 0, none⟩ = some (.int .u32 f1) := cell_blk g2
  have x1 : w2.cell? ⟨w.heap.size, 1, none⟩ = some (.int .u16 f2) := cell_blk g2
  have hlk := H2.src.look (t := 112) Try.underlying112 (zero_pl w2) s hw
  have n1 : w2.heap.size ≠ w.heap.size := by omega
  have n2 : w2.heap.size ≠ g := by omega
  have HB2 := Lib.hid H2
  clear H2 g2 b2 HB CW BW HF
  cases HO.out with
  | new h0 h64 =>
    rw [h0] at hlk
    have hlk' : (Instr.lookup 112 (.map (some ms)) (.int .u32 s) true).run Try.prog w2 = .ok (.tuple #[.agg #[.int .u32 0, .int .u16 0, .int .i64 0], .bool false]) w2 := hlk
    clear hlk
    obtain ⟨V, hV⟩ : ∃ V, w2.alloc (.cells #[.int .u32 0, .int .u16 0, .int .i64 0] 119) = V := ⟨_, rfl⟩
    have bV : Below w2.heap.size w2 V := by rw [← hV]; exact (Below.refl _ _).alloc (Nat.le_refl _) _
    have HV := HB2.out.keep bV
    have hlen := fun ty => HV.src.len (t := 112) Try.underlying112 ty
    have vlt := HB2.out
    have v2 : V.cell? ⟨g, 2, none⟩ = some (.map (some ms)) := cell_blk HV.blk
    have y0 : V.cell? ⟨w.heap.size, 0, none⟩ = some (.int .u32 f1) := Below.cell' bV hlt x0
    have y1 : V.cell? ⟨w.heap.size, 1, none⟩ = some (.int .u16 f2) := Below.cell' bV hlt x1
    have HVd := HV.keep (w' := V.drew) (Below.refl _ _).drew
    obtain ⟨W5, hst, h5, -, b5⟩ := HVd.src_set (by omega) s hw (.agg #[.int .u32 f1, .int .u16 f2, .int .i64 tick])
    rw [h0] at h5
    have H5 : Hid (BK B g ms mc (N + 1) own kp (setAt S s (some (pv (f1, f2) tick))) (ns + 1) C nc W5) := Lib.hid h5
    have B5 := Lib.hid (((B2.out.trans (Kq.bl bV)).trans (Kq.bl (Below.refl _ _).drew)).trans (Kq.lk b5))
    have t2 : decide ((64 : Int) ≤ (ns : Int)) = false := by simp; omega
    have t2' : decide (64 ≤ ns) = false := by simp; omega
    have HVe := Lib.hid hV
    have V2 := Lib.hid v2
    have Y0 := Lib.hid y0
    have Y1 := Lib.hid y1
    have HST := Lib.hid hst
    rw [← hV] at hlen
    clear HV HVd h5 b5 h0 h64 vlt hV hst v2 y0 y1 bV
    go_wp2_with fail
    rw [HVe.out]
    have v2 := V2.out
    have y0 := Y0.out
    have y1 := Y1.out
    have hst := HST.out
    clear hlen hlk' c0 c2 x0 x1
    go_still_tail 8, (by kernel_rfl)
    change wpList _ _ _ _ _ V.drew
    go_wp2_with fail
    go_ret
    exact ⟨rfl, H5.out, B5.out⟩
  | full h0 h64 =>
    rw [h0] at hlk
    have hlk' : (Instr.lookup 112 (.map (some ms)) (.int .u32 s) true).run Try.prog w2 = .ok (.tuple #[.agg #[.int .u32 0, .int .u16 0, .int .i64 0], .bool false]) w2 := hlk
    clear hlk
    obtain ⟨V, hV⟩ : ∃ V, w2.alloc (.cells #[.int .u32 0, .int .u16 0, .int .i64 0] 119) = V := ⟨_, rfl⟩
    have bV : Below w2.heap.size w2 V := by rw [← hV]; exact (Below.refl _ _).alloc (Nat.le_refl _) _
    have HV := HB2.out.keep bV
    have hlen := fun ty => HV.src.len (t := 112) Try.underlying112 ty
    have H5 := Lib.hid HV.more
    have B5 := Lib.hid (B2.out.trans (Kq.bl bV))
    have t2 : decide ((64 : Int) ≤ (ns : Int)) = true := by simp; omega
    have t2' : decide (64 ≤ ns) = true := by simp; omega
    have HVe := Lib.hid hV
    rw [← hV] at hlen
    clear HV h0 h64 hV bV
    go_wp2_with fail
    rw [HVe.out]
    go_ret
    exact ⟨rfl, H5.out, B5.out⟩
  | same hh =>
    obtain ⟨t0, h0⟩ := hh
    rw [h0] at hlk
    have hlk' : (Instr.lookup 112 (.map (some ms)) (.int .u32 s) true).run Try.prog w2 = .ok (.tuple #[.agg #[.int .u32 f1, .int .u16 f2, .int .i64 t0], .bool true]) w2 := hlk
    clear hlk
    obtain ⟨V, hV⟩ : ∃ V, w2.alloc (.cells #[.int .u32 f1, .int .u16 f2, .int .i64 t0] 119) = V := ⟨_, rfl⟩
    have bV : Below w2.heap.size w2 V := by rw [← hV]; exact (Below.refl _ _).alloc (Nat.le_refl _) _
    have HV := HB2.out.keep bV
    have v2 : V.cell? ⟨g, 2, none⟩ = some (.map (some ms)) := cell_blk HV.blk
    have y0 : V.cell? ⟨w.heap.size, 0, none⟩ = some (.int .u32 f1) := Below.cell' bV hlt x0
    have y1 : V.cell? ⟨w.heap.size, 1, none⟩ = some (.int .u16 f2) := Below.cell' bV hlt x1
    have HVd := HV.keep (w' := V.drew) (Below.refl _ _).drew
    obtain ⟨W5, hst, h5, -, b5⟩ := HVd.src_set (by omega) s hw (.agg #[.int .u32 f1, .int .u16 f2, .int .i64 tick])
    rw [h0] at h5
    have H5 : Hid (BK B g ms mc (N + 1) own kp (setAt S s (some (pv (f1, f2) tick))) ns C nc W5) := Lib.hid h5
    have B5 := Lib.hid (((B2.out.trans (Kq.bl bV)).trans (Kq.bl (Below.refl _ _).drew)).trans (Kq.lk b5))
    have heq : ∀ W : World, (Op.equalIn 10000 43 (.agg #[.int .u32 f1, .int .u16 f2]) (.agg #[.int .u32 f1, .int .u16 f2])).run Try.prog W = .ok true W := fun W => by rw [eqin_plc (f1, f2) (f1, f2)]; simp
    have HVe := Lib.hid hV
    have V2 := Lib.hid v2
    have Y0 := Lib.hid y0
    have Y1 := Lib.hid y1
    have HST := Lib.hid hst
    clear HV HVd h5 b5 h0 hV hst v2 y0 y1 bV
    go_wp2_with fail
    rw [HVe.out]
    have v2 := V2.out
    have y0 := Y0.out
    have y1 := Y1.out
    have hst := HST.out
    clear hlk' c0 c2 x0 x1
    go_still_tail 8, (by kernel_rfl)
    change wpList _ _ _ _ _ V.drew
    go_wp2_with fail
    go_ret
    exact ⟨rfl, H5.out, B5.out⟩
  | coll hh =>
    obtain ⟨⟨a1, a2⟩, t0, h0, hne, ht1, ht2, ht3⟩ := hh
    rw [h0] at hlk
    have hlk' : (Instr.lookup 112 (.map (some ms)) (.int .u32 s) true).run Try.prog w2 = .ok (.tuple #[.agg #[.int .u32 a1, .int .u16 a2, .int .i64 t0], .bool true]) w2 := hlk
    clear hlk
    obtain ⟨V, hV⟩ : ∃ V, w2.alloc (.cells #[.int .u32 a1, .int .u16 a2, .int .i64 t0] 119) = V := ⟨_, rfl⟩
    have bV : Below w2.heap.size w2 V := by rw [← hV]; exact (Below.refl _ _).alloc (Nat.le_refl _) _
    have HV := HB2.out.keep bV
    have H5 := Lib.hid HV.more
    have B5 := Lib.hid (B2.out.trans (Kq.bl bV))
    have heq : ∀ W : World, (Op.equalIn 10000 43 (.agg #[.int .u32 a1, .int .u16 a2]) (.agg #[.int .u32 f1, .int .u16 f2])).run Try.prog W = .ok false W := fun W => by rw [eqin_plc (a1, a2) (f1, f2)]; simp [hne]
    have tf : decide (kp < tick - t0) = false := by simp; omega
    have HO2 := Lib.hid (old_any B g ms mc N own kp S ns C nc V HV t0 tick ⟨ht1, ht2⟩ hk)
    have HVe := Lib.hid hV
    clear HV h0 hV bV hne ht1 ht2 ht3
    go_wp2_with fail
    rw [HVe.out]
    refine HO2.out.mono ?_
    rintro e w4 ⟨rfl, rfl⟩
    go_wp2_with fail
    go_ret
    exact ⟨rfl, H5.out, B5.out⟩
end Go.Proofs.Ytkoplofcjbeicaa
