/-
  Chapter 12: the reference compares messages; Great.
-/
import Derived.Test.YtkoplofcjbeicaaStG
import Derived.Test.YtkoplofcjbeicaaStT
namespace Go.Proofs.Ytkoplofcjbeicaa
open Go.RowKit
set_option linter.unusedVariables false
set_option linter.unusedSimpArgs false
attribute [local irreducible] wpStill wpQuiet MixC.wpMix
attribute [local go_sem] MixC.rdOp MixC.rd MixC.rdUpon MixC.mvUpon

structure EqvA (q r : At) : Prop where
  t : q.t = r.t
  n : q.n = r.n
  z : ∀ x, x < q.n → q.Z x = r.Z x
theorem eqvA_con {q r : At} (h : q.con = r.con) : EqvA q r := by
  unfold At.con at h
  have h1 : q.t = r.t := congrArg Prod.fst h
  have h2 : zs q.Z q.n = zs r.Z r.n := congrArg Prod.snd h
  have h3 : q.n = r.n := by have := congrArg List.length h2; rwa [zs_len, zs_len] at this
  rw [← h3] at h2
  exact ⟨h1, h3, fun x hx => zs_at h2 hx⟩
set_option maxRecDepth 100000 in
set_option maxHeartbeats 4000000 in
theorem rsame12_true (T : Int) (x : Nat → Int) (a a' : Option Addr) (len c c' : Nat) (Q Q' : Nat → At) (w : World) (h : Ats w.heap.size w a len c Q) (h' : Ats w.heap.size w a' len c' Q') (hl : len ≤ 10000) (he : ∀ i, i < len → EqvA (Q i) (Q' i)) :
    Calls Try.prog 14 #[.agg (msgV T x (.slice a len c)), .agg (msgV T x (.slice a' len c'))] w fun e w' => e = .returned (.bool true) ∧ Below w.heap.size w w' := by
  have HQ := Lib.hid h
  have HP := Lib.hid h'
  have l1 := h.le
  have m1 := h.max
  have l2 := h'.le
  have m2 := h'.max
  have HE := Lib.hid he
  clear h h' he
  unfold msgV
  go_enter Try.func14, Try.ntmps14
  go_upto_region 1 with (fail)
  obtain ⟨W0, hW0⟩ : ∃ W0, (w.alloc (.cells (msgV T x (.slice a len c)) 28)).alloc (.cells (msgV T x (.slice a' len c')) 28) = W0 := ⟨_, rfl⟩
  obtain ⟨g, hg⟩ : ∃ g, w.heap.size = g := ⟨_, rfl⟩
  have K1 : W0.heap[g]? = some (.cells (msgV T x (.slice a len c)) 28 (0, 0)) := by
    rw [← hW0, ← hg, alloc_blk_old (by simp [World.size_alloc])]
    exact alloc_blk_new
  have K2 : W0.heap[g + 1]? = some (.cells (msgV T x (.slice a' len c')) 28 (0, 0)) := by
    rw [← hW0, ← hg]
    have := alloc_blk_new (w := w.alloc (.cells (msgV T x (.slice a len c)) 28)) (o := .cells (msgV T x (.slice a' len c')) 28)
    rw [World.size_alloc] at this
    exact this
  have b0 : Below w.heap.size w W0 := by rw [← hW0]; exact ((Below.refl _ _).alloc (Nat.le_refl _) _).alloc (by simp [World.size_alloc]) _
  change Code.wp _ _ _ _ ((w.alloc (.cells (msgV T x (.slice a len c)) 28)).alloc (.cells (msgV T x (.slice a' len c')) 28))
  rw [hW0, hg]
  have HK1 := Lib.hid K1
  have HK2 := Lib.hid K2
  have HB0 := Lib.hid b0
  clear K1 K2 b0 hW0 hg
  obtain ⟨f0, f1, f2, f3, f4, f5, f6, f7, f8, f9, f10, f11, f12, f13⟩ := MsgF.mk' HK1.out
  obtain ⟨k0, k1, k2, k3, k4, k5, k6, k7, k8, k9, k10, k11, k12, k13⟩ := MsgF.mk' HK2.out
  have htx := neq_tx x
  unfold txV at htx
  go_wp2_with fail
  clear htx f0 f1 f2 f3 f4 f5 f6 f7 f8 f9 f10 f11 f12 f13 k0 k1 k2 k3 k4 k5 k6 k7 k8 k9 k10 k11 k12 k13
  have KK : Hid (∀ y, Below W0.heap.size W0 y → y.cell? ⟨g, 13, none⟩ = some (.slice a len c) ∧ y.cell? ⟨g + 1, 13, none⟩ = some (.slice a' len c') ∧ Below w.heap.size w y ∧ Ats w.heap.size y a len c Q ∧ Ats w.heap.size y a' len c' Q') := Lib.hid (fun y hy => by
    have bb := HB0.out.trans (hy.mono HB0.out.size)
    exact ⟨cell_blk (Below.blk hy HK1.out (lt_of_block HK1.out)), cell_blk (Below.blk hy HK2.out (lt_of_block HK2.out)), bb, HQ.out.keep bb, HP.out.keep bb⟩)
  go_loopw [5] (fun s5 wr => ∃ k : Nat, k ≤ len ∧ s5 = .int .i64 k ∧ Hid (Below W0.heap.size W0 wr)) (fun s5 _ => len - (intOf s5).toNat)
  case atStart => exact ⟨0, by omega, rfl, Lib.hid (Below.refl _ _)⟩
  case round =>
    obtain ⟨k, hk, rfl, HS⟩ := hrel
    obtain ⟨g13, h13, bw, at1, at2⟩ := KK.out _ HS.out
    by_cases hlt : k < len
    · obtain ⟨b1, o1, hp1, hc1⟩ := at1.mem
      obtain ⟨rfl, hb1⟩ := hp1 (by omega)
      obtain ⟨b2, o2, hp2, hc2⟩ := at2.mem
      obtain ⟨rfl, hb2⟩ := hp2 (by omega)
      have c0 := hc1 k hlt
      have d0 := hc2 k hlt
      have z1 := (at1.ok k hlt).z
      have z2 := (at2.ok k hlt).z
      have hE := HE.out k hlt
      obtain ⟨q, hq⟩ : ∃ q, Q k = q := ⟨_, rfl⟩
      obtain ⟨r, hr⟩ : ∃ r, Q' k = r := ⟨_, rfl⟩
      rw [hq] at c0 z1 hE
      rw [hr] at d0 z2 hE
      obtain ⟨id, ra, rn, rc, rZ⟩ := q
      obtain ⟨id', ra', rn', rc', rZ'⟩ := r
      obtain ⟨e1, e5, e6⟩ := hE
      simp only at e1 e5 e6
      subst e1 e5
      simp only at c0 d0 z1 z2
      have hs : strOf rZ' rn = strOf rZ rn := (strOf_congr e6).symm
      have z1' := z1.mono bw.size
      have z2' := z2.mono bw.size
      have C := Lib.hid c0
      have D := Lib.hid d0
      have HZ1 := Lib.hid z1'
      have HZ2 := Lib.hid z2'
      have HSS := Lib.hid hs
      have G1 := Lib.hid g13
      have G2 := Lib.hid h13
      clear c0 d0 z1 z2 z1' z2' hs hq hr hp1 hp2 hc1 hc2 e6 at1 at2 bw
      have hki : (k : Int) < len := by omega
      go_upto_region 6 with (fail)
      clear g13 h13
      have hne : Nonempty { w' : World // Below wr.heap.size wr w' } := ⟨⟨_, Below.refl _ _⟩⟩
      have lb1 := World.block_lt_of_cell? _ _ C.out.1
      have lb2 := World.block_lt_of_cell? _ _ D.out.1
      have lg1 := World.block_lt_of_cell? _ _ G1.out
      have lg2 := World.block_lt_of_cell? _ _ G2.out
      have v1 : ∀ z : { w' : World // Below wr.heap.size wr w' }, z.1.cell? ⟨g, 13, none⟩ = some (.slice (some ⟨b1, o1, none⟩) len c) := fun z => Below.cell' z.2 lg1 G1.out
      have v2 : ∀ z : { w' : World // Below wr.heap.size wr w' }, z.1.cell? ⟨g + 1, 13, none⟩ = some (.slice (some ⟨b2, o2, none⟩) len c') := fun z => Below.cell' z.2 lg2 G2.out
      have u0 : ∀ z : { w' : World // Below wr.heap.size wr w' }, z.1.cell? ⟨b1, o1 + k * 2, none⟩ = some (.int .u16 id) := fun z => Below.cell' z.2 lb1 C.out.1
      have u4 : ∀ z : { w' : World // Below wr.heap.size wr w' }, z.1.cell? ⟨b1, o1 + k * 2 + 1, none⟩ = some (.slice ra rn rc) := fun z => Below.cell' z.2 lb1 C.out.2
      have t0 : ∀ z : { w' : World // Below wr.heap.size wr w' }, z.1.cell? ⟨b2, o2 + k * 2, none⟩ = some (.int .u16 id) := fun z => Below.cell' z.2 lb2 D.out.1
      have t4 : ∀ z : { w' : World // Below wr.heap.size wr w' }, z.1.cell? ⟨b2, o2 + k * 2 + 1, none⟩ = some (.slice ra' rn rc') := fun z => Below.cell' z.2 lb2 D.out.2
      have s1 : ∀ z : { w' : World // Below wr.heap.size wr w' }, (convert 22 9 (.slice ra rn rc)).run Try.prog z.1 = .ok (.string (strOf rZ rn)) z.1 := fun z => run_conv_BS (HZ1.out.keep z.2) Try.underlying22 Try.underlying5 Try.underlying9
      have s2 : ∀ z : { w' : World // Below wr.heap.size wr w' }, (convert 22 9 (.slice ra' rn rc')).run Try.prog z.1 = .ok (.string (strOf rZ rn)) z.1 := fun z => by rw [← HSS.out]; exact run_conv_BS (HZ2.out.keep z.2) Try.underlying22 Try.underlying5 Try.underlying9
      refine MixC.wp_region_mix [] (Below wr.heap.size wr) (Below.refl _ _).drew (by kernel_rfl) (by kernel_rfl) (by kernel_rfl) ?_
      (iterate 30 (refine MixC.mix_read rfl (fun K hK => ?_); go_simp; refine hK _ ?_; clear hK K))
      refine MixC.mix_nil ?_
      clear u0 u4 t0 t4 s1 s2 v1 v2 hne
      have B2 : Hid (Below W0.heap.size W0 wr.drew) := Lib.hid HS.out.drew
      go_wp2_with fail
      go_roundw
      case rel => exact ⟨k + 1, by omega, by go_num, B2⟩
      case measure => simp [intOf] <;> omega
    · have : k = len := by omega
      subst this
      have BW := Lib.hid bw
      clear hlt at1 at2
      go_wp2_with fail
      go_ret
      exact ⟨rfl, BW.out⟩
def Gr12 (len : Nat) (Q : Nat → At) (w : World) (e : Ending) (w' : World) : Prop := ∃ b : Bool, e = .returned (.bool b) ∧ Below w.heap.size w w' ∧ (b = false → len ≤ 60 ∧ ∀ i, i < len → (Q i).n ≤ 600)
set_option maxRecDepth 100000 in
set_option maxHeartbeats 4000000 in
theorem great12_any (T : Int) (x : Nat → Int) (a : Option Addr) (len c : Nat) (Q : Nat → At) (w : World) (h : Ats w.heap.size w a len c Q) :
    Calls Try.prog 17 #[.agg (msgV T x (.slice a len c))] w (Gr12 len Q w) := by
  have HQ := Lib.hid h
  have l1 := h.le
  have m1 := h.max
  clear h
  unfold msgV
  go_enter Try.func17, Try.ntmps17
  go_upto_region 1 with (fail)
  obtain ⟨W0, hW0⟩ : ∃ W0, w.alloc (.cells (msgV T x (.slice a len c)) 28) = W0 := ⟨_, rfl⟩
  obtain ⟨g, hg⟩ : ∃ g, w.heap.size = g := ⟨_, rfl⟩
  have K1 : W0.heap[g]? = some (.cells (msgV T x (.slice a len c)) 28 (0, 0)) := by rw [← hW0, ← hg]; exact alloc_blk_new
  have b0 : Below w.heap.size w W0 := by rw [← hW0]; exact (Below.refl _ _).alloc (Nat.le_refl _) _
  change Code.wp _ _ _ _ (w.alloc (.cells (msgV T x (.slice a len c)) 28))
  rw [hW0, hg]
  have HK1 := Lib.hid K1
  have HB0 := Lib.hid b0
  have t13 : W0.cell? ⟨g, 13, none⟩ = some (.slice a len c) := cell_blk K1
  have HA := Lib.hid (HQ.out.keep b0)
  clear K1 b0 hW0 hg
  go_wp2_with fail
  go_loopw [3] (fun s3 wr => ∃ k : Nat, k ≤ len ∧ s3 = .int .i64 k ∧ Hid (W0 = wr) ∧ Hid (∀ i, i < k → (Q i).n ≤ 600)) (fun s3 _ => len - (intOf s3).toNat)
  case atStart => exact ⟨0, by omega, rfl, Lib.hid rfl, Lib.hid (fun i h => by omega)⟩
  case round =>
    obtain ⟨k, hk, rfl, HW, HP⟩ := hrel
    have hw' := HW.out
    subst hw'
    clear HW
    by_cases hlt : k < len
    · obtain ⟨b1, o1, hp1, hc1⟩ := HA.out.mem
      obtain ⟨rfl, hb1⟩ := hp1 (by omega)
      obtain ⟨c0, c1⟩ := hc1 k hlt
      have hki : (k : Int) < len := by omega
      obtain ⟨q, hq⟩ : ∃ q, Q k = q := ⟨_, rfl⟩
      have HQ2 := Lib.hid hq
      rw [hq] at c0 c1
      obtain ⟨id, ra, rn, rc, rZ⟩ := q
      simp only at c0 c1
      clear hp1 hc1 hq
      by_cases h600 : 600 < rn
      · have h6 : (600 : Int) < rn := by omega
        go_wp2_with fail
        go_ret
        exact ⟨true, rfl, HB0.out, fun h => by cases h⟩
      · have h6 : ¬ (600 : Int) < rn := by omega
        have HP2 : Hid (∀ i, i < k + 1 → (Q i).n ≤ 600) := Lib.hid (fun i hi => by
          rcases Nat.lt_or_ge i k with h1 | h1
          · exact HP.out i h1
          · obtain rfl : i = k := by omega
            rw [HQ2.out]; show rn ≤ 600; omega)
        have HW : Hid (W0 = W0) := Lib.hid rfl
        go_wp2_with fail
        go_roundw
        case rel => exact ⟨k + 1, by omega, by go_num, by first | exact HW | exact Lib.hid trivial, HP2⟩
        case measure => simp [intOf] <;> omega
    · obtain rfl : len = k := by omega
      clear hlt
      by_cases h60 : 60 < len
      · have h6 : (60 : Int) < len := by omega
        go_wp2_with fail
        go_ret
        exact ⟨true, by simp [h6], HB0.out, fun h => by cases h⟩
      · have h6 : ¬ (60 : Int) < len := by omega
        go_wp2_with fail
        go_ret
        exact ⟨false, by simp [h6], HB0.out, fun _ => ⟨by omega, HP.out⟩⟩
end Go.Proofs.Ytkoplofcjbeicaa
