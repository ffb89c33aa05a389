/-
  High and Follow of the reference of chapter 22.
-/
import Derived.Test.YtkdjkaimcciemaaRewRef
namespace Go.Proofs.Ytkdjkaimcciemaa
open Go.RowKit
set_option linter.unusedVariables false
set_option linter.unusedSimpArgs false

theorem rwr.set {w : World} {r : Nat} {f : Int} {fo : Bool} {a1 a2 a3 b1 b2 b3 : Int} {v : Value} (h : rwr w r f fo a1 a2 a3 b1 b2 b3 v) (k : Nat) : w.frozen? ⟨r, k, none⟩ = false := free_blk h
theorem rwr_alloc {w : World} {r : Nat} {f : Int} {fo : Bool} {a1 a2 a3 b1 b2 b3 : Int} {v : Value} (h : rwr w r f fo a1 a2 a3 b1 b2 b3 v) (x : Obj) : rwr (w.alloc x) r f fo a1 a2 a3 b1 b2 b3 v := (Below.heap_alloc _ _ _ h.lt).trans h
/-- the program's last one, and the reference's highest -/
def lnk (O : Nat → Int × Int × Int) (n : Nat) (o : Bool) (c1 c2 c3 : Int) : Prop := (n = 0 ∧ o = false) ∨ (0 < n ∧ o = true ∧ O (topTo O n).toNat = (c1, c2, c3))

theorem rrhigh_any (base g r : Nat) (f : Int) (fo : Bool) (a1 a2 a3 b1 b2 b3 : Int) (v : Value) (n : Nat) (O : Nat → Int × Int × Int) (o : Bool) (c1 c2 c3 : Int) (w : World) (hg : rwr w r f fo a1 a2 a3 b1 b2 b3 v) (ho : outs w base g r v n O) (hn : n ≤ 1000) (hl : lnk O n o c1 c2 c3) :
    Calls Try.prog 44 #[.pointer (some ⟨r, 0, none⟩)] w fun e w' => e = .returned (.int .i64 (bif o then c1 else -1)) ∧ ∃ m, w' = w.drewN m := by
  have HT := Lib.hid (rtop_any base g r f fo a1 a2 a3 b1 b2 b3 v n O w hg ho hn)
  have hb := topTo_bd O n
  have c8 : w.cell? ⟨r, 8, none⟩ = some v := cell_blk hg
  rcases hl with ⟨rfl, rfl⟩ | ⟨h0, rfl, hO⟩
  · rw [show topTo O 0 = -1 from rfl] at HT
    clear hb
    go_enter Try.func44, Try.ntmps44
    go_wp2_with fail
    refine HT.out.mono ?_
    rintro e w1 ⟨rfl, m, rfl⟩
    go_wp2_with fail
    go_ret
    exact ⟨rfl, m, rfl⟩
  · obtain ⟨q, cap, rfl, hcap, hcap2, hqw, hcells⟩ := ho.cells h0
    obtain ⟨s, hs⟩ := Int.eq_ofNat_of_zero_le (hb.2.2 h0)
    rw [hs] at HT hO hb
    rw [Int.toNat_natCast] at hO
    have cs := (hcells s (by omega)).1
    rw [hO] at cs
    have i0 : (0 : Int) ≤ (s : Int) := by omega
    have i1 : (s : Int) < (n : Int) := by omega
    clear hb hs hO hcells
    go_enter Try.func44, Try.ntmps44
    go_wp2_with fail
    refine HT.out.mono ?_
    rintro e w1 ⟨rfl, m, rfl⟩
    go_wp2_with fail
    go_ret
    exact ⟨rfl, m, rfl⟩
theorem rrfollow_no (r : Nat) (x1 x2 x3 : Int) (w : World) (h : x1 < 0) :
    Calls Try.prog 42 #[.pointer (some ⟨r, 0, none⟩), mapped x1 x2 x3] w fun e w' => e = .returned (.int .i64 10) ∧ Below w.heap.size w w' := by
  unfold mapped
  have e1 : decide (x1 < 0) = true := by simpa using h
  go_enter Try.func42, Try.ntmps42
  go_wp2_with fail
  go_returns
  exact ⟨rfl, by (repeat (first | exact Below.refl _ _ | refine Below.alloc ?_ (by first | (simp; done) | (simp; omega) | (simp [size_drewN]; done) | (simp [size_drewN]; omega)) _ | refine Below.drew ?_ | refine below_drewN0 ?_ _ | refine Below.setCell ?_ (by first | (simp; done) | (simp; omega) | (simp [size_drewN]; done) | (simp [size_drewN]; omega)) _))⟩
set_option maxRecDepth 100000 in
set_option maxHeartbeats 4000000 in
theorem rrfollow_any (base g r : Nat) (f : Int) (fo : Bool) (a1 a2 a3 b1 b2 b3 : Int) (v : Value) (n : Nat) (O : Nat → Int × Int × Int) (o : Bool) (c1 c2 c3 x1 x2 x3 : Int) (w : World) (hg : rwr w r f fo a1 a2 a3 b1 b2 b3 v) (ho : outs w base g r v n O) (hn : n ≤ 1000) (hl : lnk O n o c1 c2 c3) (hx : 0 ≤ x1)
    (hc : -1 ≤ c1 ∧ c1 ≤ 9000000000000000000) (hc2 : 0 ≤ c2 ∧ c2 ≤ 4294967295) (hc3 : 0 ≤ c3 ∧ c3 ≤ 65535) :
    Calls Try.prog 42 #[.pointer (some ⟨r, 0, none⟩), mapped x1 x2 x3] w fun e w' => e = .returned (.int .i64 0) ∧ rwr w' r f true x1 x2 x3 (nx1 f o c1) (nx2 o c2) (nx3 o c3) v ∧ Keeps r w w' := by
  have hlr := hg.lt
  have hne : w.heap.size ≠ r := by omega
  have e1 : decide (x1 < 0) = false := by simp; omega
  have i0 : w.cell? ⟨r, 0, none⟩ = some (.int .i64 f) := cell_blk hg
  have i1 : w.cell? ⟨r, 1, none⟩ = some (.bool fo) := cell_blk hg
  have i2 : w.cell? ⟨r, 2, none⟩ = some (.int .i64 a1) := cell_blk hg
  have i3 : w.cell? ⟨r, 3, none⟩ = some (.int .u32 a2) := cell_blk hg
  have i4 : w.cell? ⟨r, 4, none⟩ = some (.int .u16 a3) := cell_blk hg
  have i5 : w.cell? ⟨r, 5, none⟩ = some (.int .i64 b1) := cell_blk hg
  have i6 : w.cell? ⟨r, 6, none⟩ = some (.int .u32 b2) := cell_blk hg
  have i7 : w.cell? ⟨r, 7, none⟩ = some (.int .u16 b3) := cell_blk hg
  have j1 := hg.set 1
  have j2 := hg.set 2
  have j3 := hg.set 3
  have j4 := hg.set 4
  have j5 := hg.set 5
  have j6 := hg.set 6
  have j7 := hg.set 7
  unfold mapped
  go_enter Try.func42, Try.ntmps42
  go_wp2_with fail
  generalize hW : (World.setCell _ _ _) = W
  have gW : rwr W r f true x1 x2 x3 f 0 0 v := by
    rw [← hW]; unfold rwr at hg ⊢; simp [heap_set, hg, putIn]
  have kW : Keeps r w W := by
    rw [← hW]; (iterate 7 (refine Keeps.setCell ?_ (by left; rfl) _)); exact Keeps.refl _ _
  have hz : W.heap.size = w.heap.size := by rw [← hW]; simp [World.setCell]
  clear hW i0 i1 i2 i3 i4 i5 i6 i7 j1 j2 j3 j4 j5 j6 j7 hg
  have gV := fun x => (rwr_alloc gW x)
  have oV := fun x => (ho.keepsR kW).keepsG (Keeps.alloc (Keeps.refl g W) x)
  have kV := fun x => kW.alloc x
  generalize hV : (World.alloc W _) = V
  have gV' : rwr V r f true x1 x2 x3 f 0 0 v := by rw [← hV]; exact gV _
  have oV' : outs V base g r v n O := by rw [← hV]; exact oV _
  have kV' : Keeps r w V := by rw [← hV]; exact kV _
  have hzV : w.heap.size < V.heap.size := by rw [← hV]; simp [hz]
  clear hV gV oV kV gW kW hz ho
  have HT := Lib.hid (rtop_any base g r f true x1 x2 x3 f 0 0 v n O V gV' oV' hn)
  have hb := topTo_bd O n
  have c5 : V.cell? ⟨r, 5, none⟩ = some (.int .i64 f) := cell_blk gV'
  have c6 : V.cell? ⟨r, 6, none⟩ = some (.int .u32 0) := cell_blk gV'
  have c7 : V.cell? ⟨r, 7, none⟩ = some (.int .u16 0) := cell_blk gV'
  have c8 : V.cell? ⟨r, 8, none⟩ = some v := cell_blk gV'
  have j5 := gV'.set 5
  have j6 := gV'.set 6
  have j7 := gV'.set 7
  rcases hl with ⟨rfl, rfl⟩ | ⟨h0, rfl, hO⟩
  · rw [show topTo O 0 = -1 from rfl] at HT
    clear hb
    refine HT.out.mono ?_
    rintro e w1 ⟨rfl, m, rfl⟩
    go_wp2_with fail
    go_ret
    exact ⟨rfl, gV', kV'.drewN m⟩
  · obtain ⟨q, cap, rfl, hcap, hcap2, hqw, hcells⟩ := oV'.cells h0
    have hqr : q ≠ r := (oV'.ne q rfl).2
    obtain ⟨s, hs⟩ := Int.eq_ofNat_of_zero_le (hb.2.2 h0)
    rw [hs] at HT hO hb
    rw [Int.toNat_natCast] at hO
    obtain ⟨cs0, cs1, cs2⟩ := hcells s (by omega)
    rw [hO] at cs0 cs1 cs2
    replace cs0 : V.cell? ⟨q, s * 3, none⟩ = some (.int .i64 c1) := cs0
    replace cs1 : V.cell? ⟨q, s * 3 + 1, none⟩ = some (.int .u32 c2) := cs1
    replace cs2 : V.cell? ⟨q, s * 3 + 2, none⟩ = some (.int .u16 c3) := cs2
    have s0 : (0 : Int) ≤ (s : Int) := by omega
    have s1 : (s : Int) < (n : Int) := by omega
    have t1 : decide (0 ≤ (s : Int)) = true := by simp
    clear hb hs hO hcells oV'
    have hVr : r < V.heap.size := gV'.lt
    have hVn : V.heap.size ≠ r := by omega
    refine HT.out.mono ?_
    rintro e U ⟨rfl, m, hU⟩
    have gU : rwr U r f true x1 x2 x3 f 0 0 (.slice (some ⟨q, 0, none⟩) n cap) := by rw [hU]; exact gV'
    have kU : Keeps r w U := by rw [hU]; exact kV'.drewN m
    have u0 : U.cell? ⟨q, s * 3, none⟩ = some (.int .i64 c1) := by rw [hU]; exact cs0
    have u1 : U.cell? ⟨q, s * 3 + 1, none⟩ = some (.int .u32 c2) := by rw [hU]; exact cs1
    have u2 : U.cell? ⟨q, s * 3 + 2, none⟩ = some (.int .u16 c3) := by rw [hU]; exact cs2
    have uq : q < U.heap.size := World.block_lt_of_cell? _ _ u0
    have ur : r < U.heap.size := gU.lt
    have un : U.heap.size ≠ r := by omega
    clear hU gV' kV' cs0 cs1 cs2 c5 c6 c7 c8 j5 j6 j7 HT hVr hVn hqw hzV
    have c5 : U.cell? ⟨r, 5, none⟩ = some (.int .i64 f) := cell_blk gU
    have c6 : U.cell? ⟨r, 6, none⟩ = some (.int .u32 0) := cell_blk gU
    have c7 : U.cell? ⟨r, 7, none⟩ = some (.int .u16 0) := cell_blk gU
    have c8 : U.cell? ⟨r, 8, none⟩ = some (.slice (some ⟨q, 0, none⟩) n cap) := cell_blk gU
    have j5 := gU.set 5
    have j6 := gU.set 6
    have j7 := gU.set 7
    go_wp2_with fail
    go_ret
    have E3 : (IntKind.u16.wrap (c3 + 1)).tmod 32768 = nx3 true c3 := by
      rw [IntKind.wrap_u16, Int.tmod_eq_emod_of_nonneg (by omega)]
      show (c3 + 1) % 65536 % 32768 = (c3 + 1) % 32768
      omega
    refine ⟨rfl, ?_, by refine Keeps.alloc ?_ _; (iterate 3 (refine Keeps.setCell ?_ (by left; rfl) _)); exact kU⟩
    rw [E3]
    refine rwr_alloc ?_ _
    unfold rwr at gU ⊢
    simp [heap_set, gU, putIn]
    exact ⟨rfl, rfl⟩
end Go.Proofs.Ytkdjkaimcciemaa
