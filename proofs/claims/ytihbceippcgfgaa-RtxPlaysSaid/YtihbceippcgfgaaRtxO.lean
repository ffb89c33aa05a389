/-
  The law RtxPlays.
-/
import Derived.Test.YtihbceippcgfgaaRtxA
import Derived.Test.YtihbceippcgfgaaRtxN
import Derived.Test.YtihbceippcgfgaaRtxH
import Derived.Test.YtihbceippcgfgaaRtxS
import Derived.Test.YtihbceippcgfgaaRtxB
import Derived.Test.YtihbceippcgfgaaRtxV
import Derived.Test.YtihbceippcgfgaaRtxX
import Derived.Test.YtihbceippcgfgaaRtxC
import Derived.Test.YtihbceippcgfgaaPick
import Derived.Deep.DeepCutAuto
namespace Go.Proofs.Ytihbceippcgfgaa
open Go.RowKit
set_option linter.unusedVariables false
set_option linter.unusedSimpArgs false
attribute [local irreducible] wpStill wpQuiet

attribute [local go_sem] rdOp rd rdUpon mvUpon
attribute [local go_sem] MixC.rdOp MixC.rd MixC.rdUpon MixC.mvUpon
theorem stt_nil {w w2 W : World} {g bp bf gr : Nat} (hb : Below w.heap.size w w2) (hT : Tab w2 g bp bf 0 (fun _ => none) (fun _ => none) 0 0) (hW : W = w2.alloc (.cells #[.slice none 0 0, .slice none 0 0, .slice none 0 0, .slice none 0 0] 64)) (hg : gr = w2.heap.size) (p1 : w.heap.size ≤ bp) (p2 : w.heap.size ≤ bf) :
    Stt w W g bp bf gr [gr, g, bp, bf] 0 := by
  have BW : Below w2.heap.size w2 W := by rw [hW]; exact bone w2 _
  have GW : W.heap[gr]? = some (.cells #[.slice none 0 0, .slice none 0 0, .slice none 0 0, .slice none 0 0] 64 (0, 0)) := by rw [hW, hg]; exact alloc_blk_new
  have hT' := hT.keep BW
  have l1 := lt_of_block hT.blk
  have l2 := hT.m1.lt
  have l3 := hT.m2.lt
  refine ⟨fun _ => none, fun _ => none, .slice none 0 0, .slice none 0 0, .slice none 0 0, .slice none 0 0, 0, fun _ => 0, fun _ => 0, fun _ => 0, fun _ => 0, ⟨bmore hb BW, hT', ⟨GW, fun j hj => ?_, fun i j hi hj _ k hk => ?_, fun j hj y _ => ?_, fun y hy => ?_, by simp, by have := hb.size; omega⟩, relP_nil, by omega, p1, p2, by simp, by simp, by simp, by omega, by omega, by omega⟩⟩
  · have : j = 0 ∨ j = 1 ∨ j = 2 ∨ j = 3 := by omega
    rcases this with rfl | rfl | rfl | rfl <;> exact ⟨rfl, .inl ⟨rfl, rfl⟩⟩
  · have : i = 0 ∨ i = 1 ∨ i = 2 ∨ i = 3 := by omega
    rcases this with rfl | rfl | rfl | rfl <;> cases hk
  · have : j = 0 ∨ j = 1 ∨ j = 2 ∨ j = 3 := by omega
    rcases this with rfl | rfl | rfl | rfl <;> (intro e; cases e)
  · have := lt_of_block GW
    have := BW.size
    simp at hy
    rcases hy with rfl | rfl | rfl | rfl <;> omega
set_option maxRecDepth 100000 in
set_option maxHeartbeats 2000000 in
theorem refunwrap_sh34 (B : Nat) (w : World) (m : Bool) (ty sq st src : Int) (oa : Option Addr) (on oc : Nat) (ex : Bool) (pr : Int) (xa : Option Addr) (xn xc : Nat) (a : Option Addr) (n c : Nat) (Z : Nat → Int) (pd : Int) (src' ty' : Int) (hn2 : n < 2) :
    Calls Try.prog 28 #[.agg #[(.bool m), (.int .u8 ty), (.int .u16 sq), (.int .u32 st), (.int .u32 src), (.slice oa on oc), (.bool ex), (.int .u16 pr), (.slice xa xn xc), (.slice a n c), (.int .u8 pd)], .int .u32 src', .int .u8 ty'] w fun e w' => e = .returned (.tuple #[.agg #[(.bool false), (.int .u8 0), (.int .u16 0), (.int .u32 0), (.int .u32 0), (.slice none 0 0), (.bool false), (.int .u16 0), (.slice none 0 0), (.slice none 0 0), (.int .u8 0)], .bool false]) ∧ Below w.heap.size w w' := by
  go_enter Try.func28, Try.ntmps28
  go_wp2_with fail
  exact bodyPost_ret (v := .tuple #[.agg #[(.bool false), (.int .u8 0), (.int .u16 0), (.int .u32 0), (.int .u32 0), (.slice none 0 0), (.bool false), (.int .u16 0), (.slice none 0 0), (.slice none 0 0), (.int .u8 0)], .bool false]) (by simp [results, Try.results28, go_sem]) rfl ⟨rfl, by (repeat (first | exact Below.refl _ _ | refine Below.alloc ?_ (by first | (simp; done) | (simp; omega) | (simp [size_drewN]; done) | (simp [size_drewN]; omega)) _ | refine Below.drew ?_ | refine below_drewN0 ?_ _ | refine Below.setCell ?_ (by first | (simp; done) | (simp; omega) | (simp [size_drewN]; done) | (simp [size_drewN]; omega)) _))⟩
set_option maxRecDepth 100000 in
set_option maxHeartbeats 64000000 in
theorem RtxPlays.walk (v : Value) (w : World) (r : Reads Try.prog w 6 60 v) :
    Calls Try.prog 7 #[v] w fun e w' => e = .returned (.bool true) ∧ Below w.heap.size w w' := by
  obtain ⟨ad, len, cap, sb, off, Q, rfl, ha, hl, hm, hQ⟩ := pops_of r
  have HA := Lib.hid ha
  have HQ := Lib.hid hQ
  clear ha hQ r
  go_enter Try.func7, Try.ntmps7
  go_wp2_with fail
  refine (alive34_any _).mono ?_
  rintro e x1 ⟨rfl, b1⟩
  have B1 := Lib.hid b1
  clear b1
  go_wp2_with fail
  refine (tabnew_any x1).mono ?_
  rintro e x2 ⟨rfl, T2, b2⟩
  have B2 := Lib.hid (bmore B1.out b2)
  have p1 : w.heap.size ≤ x1.heap.size := B1.out.size
  have q1 : x1.heap.size + 1 + 1 < x2.heap.size := lt_of_block T2.blk
  have HS0 : Hid (Stt w (x2.alloc (.cells #[.slice none 0 0, .slice none 0 0, .slice none 0 0, .slice none 0 0] 64)) (x1.heap.size + 1 + 1) x1.heap.size (x1.heap.size + 1) x2.heap.size [x2.heap.size, x1.heap.size + 1 + 1, x1.heap.size, x1.heap.size + 1] 0) := Lib.hid (stt_nil B2.out T2 rfl rfl p1 (by omega))
  obtain ⟨g, hg⟩ : ∃ g, g = x1.heap.size + 1 + 1 := ⟨_, rfl⟩
  obtain ⟨bp, hp⟩ : ∃ bp, bp = x1.heap.size := ⟨_, rfl⟩
  obtain ⟨bf, hf⟩ : ∃ bf, bf = x1.heap.size + 1 := ⟨_, rfl⟩
  rw [← hg, ← hf, ← hp] at HS0
  rw [← hg]
  clear T2 b2 hg hp hf p1 q1
  go_wp2_with fail
  generalize hW : World.alloc x2 _ = W0
  rw [hW] at HS0
  clear hW
  obtain ⟨gr, hgr⟩ : ∃ gr, gr = x2.heap.size := ⟨_, rfl⟩
  rw [← hgr] at HS0
  rw [← hgr]
  clear hgr B1 B2
  go_loopw [5] (fun si wr => ∃ k : Nat, k ≤ len ∧ k ≤ 60 ∧ si = .int .i64 k ∧ Hid (Stt w wr g bp bf gr [gr, g, bp, bf] k)) (fun si _ => len - (intOf si).toNat)
  case atStart => exact ⟨0, by omega, by omega, rfl, HS0⟩
  case round =>
    clear HS0
    obtain ⟨k, hk, hk60, rfl, HS⟩ := hrel
    by_cases hlt : k < len ∧ k < 60
    · obtain ⟨hlt1, hlt2⟩ := hlt
      obtain ⟨rfl, hsb⟩ := HA.out (by omega)
      obtain ⟨hcells, hok⟩ := HQ.out k (by omega)
      have BW : Below w.heap.size w wr := by obtain ⟨_, _, _, _, _, _, _, _, _, _, _, S⟩ := HS.out; exact S.bl
      have hc : ∀ j, j < 15 → wr.cell? ⟨sb, off + k * 15 + j, none⟩ = some ((Q k).cell j) := fun j hj => Below.cell' BW hsb (hcells j hj)
      have OK := Lib.hid (hok.up BW)
      clear hcells hok
      obtain ⟨p, hp⟩ : ∃ p, Q k = p := ⟨_, rfl⟩
      rw [hp] at OK hc
      have HQP := Lib.hid hp
      clear hp
      obtain ⟨kd, A0, B0, t0, ⟨m, ty, sq, st, src, oa, on, oc, ex, pr, xa, xn, xc, pa, n, c, pd, V, X, Z⟩⟩ := p
      have s_0 : wr.cell? ⟨sb, off + k * 15, none⟩ = some (.int .u8 kd) := hc 0 (by omega)
      have s_1 : wr.cell? ⟨sb, off + k * 15 + 1, none⟩ = some (.int .u32 A0) := hc 1 (by omega)
      have s_2 : wr.cell? ⟨sb, off + k * 15 + 2, none⟩ = some (.int .u32 B0) := hc 2 (by omega)
      have s_3 : wr.cell? ⟨sb, off + k * 15 + 3, none⟩ = some (.int .u8 t0) := hc 3 (by omega)
      have s_4 : wr.cell? ⟨sb, off + k * 15 + 4, none⟩ = some (.bool m) := hc 4 (by omega)
      have s_5 : wr.cell? ⟨sb, off + k * 15 + 5, none⟩ = some (.int .u8 ty) := hc 5 (by omega)
      have s_6 : wr.cell? ⟨sb, off + k * 15 + 6, none⟩ = some (.int .u16 sq) := hc 6 (by omega)
      have s_7 : wr.cell? ⟨sb, off + k * 15 + 7, none⟩ = some (.int .u32 st) := hc 7 (by omega)
      have s_8 : wr.cell? ⟨sb, off + k * 15 + 8, none⟩ = some (.int .u32 src) := hc 8 (by omega)
      have s_9 : wr.cell? ⟨sb, off + k * 15 + 9, none⟩ = some (.slice oa on oc) := hc 9 (by omega)
      have s_10 : wr.cell? ⟨sb, off + k * 15 + 10, none⟩ = some (.bool ex) := hc 10 (by omega)
      have s_11 : wr.cell? ⟨sb, off + k * 15 + 11, none⟩ = some (.int .u16 pr) := hc 11 (by omega)
      have s_12 : wr.cell? ⟨sb, off + k * 15 + 12, none⟩ = some (.slice xa xn xc) := hc 12 (by omega)
      have s_13 : wr.cell? ⟨sb, off + k * 15 + 13, none⟩ = some (.slice pa n c) := hc 13 (by omega)
      have s_14 : wr.cell? ⟨sb, off + k * 15 + 14, none⟩ = some (.int .u8 pd) := hc 14 (by omega)
      clear hc
      go_wp2_with fail
      clear s_0 s_1 s_2 s_3 s_4 s_5 s_6 s_7 s_8 s_9 s_10 s_11 s_12 s_13 s_14
      generalize hW : World.alloc wr _ = W
      have BA : Hid (Below wr.heap.size wr W) := Lib.hid (by rw [← hW]; exact bone wr _)
      have GA : Hid (W.heap[wr.heap.size]? = some (.cells #[(.int .u8 kd), (.int .u32 A0), (.int .u32 B0), (.int .u8 t0), (.bool m), (.int .u8 ty), (.int .u16 sq), (.int .u32 st), (.int .u32 src), (.slice oa on oc), (.bool ex), (.int .u16 pr), (.slice xa xn xc), (.slice pa n c), (.int .u8 pd)] 66 (0, 0))) := Lib.hid (by rw [← hW]; exact alloc_blk_new)
      clear hW
      obtain ⟨g6, hg6⟩ : ∃ g6, g6 = wr.heap.size := ⟨_, rfl⟩
      rw [← hg6] at GA
      rw [← hg6]
      have hg6' : wr.heap.size ≤ g6 := by omega
      have d0 : w.heap.size ≤ g6 := by have := BW.size; omega
      have dd : gr < g6 ∧ g < g6 ∧ bp < g6 ∧ bf < g6 := by
        obtain ⟨_, _, _, _, _, _, _, _, _, _, _, S⟩ := HS.out
        have := lt_of_block S.rt.blk; have := lt_of_block S.tab.blk; have := S.tab.m1.lt; have := S.tab.m2.lt
        omega
      obtain ⟨d1, d2, d3, d4⟩ := dd
      clear hg6
      refine (great_any W m ty sq st src oa on oc ex pr xa xn xc pa n c pd).mono ?_
      rintro e V2 ⟨rfl, b2⟩
      have BB := Lib.hid (bmore BA.out b2)
      have GB := Lib.hid (Below.blk b2 GA.out (lt_of_block GA.out))
      have S2 : Hid (Stt w V2 g bp bf gr (g6 :: [gr, g, bp, bf]) k) := Lib.hid (HS.out.box BB.out hg6' (lt_of_block GB.out))
      have OK2 := Lib.hid (OK.out.up BB.out)
      clear b2 BA GA
      cases hg : greatB n xn on with
      | true =>
        go_wp2_with fail
        go_ret
        exact ⟨rfl, bmore BW BB.out⟩
      | false =>
        have hn9 : n ≤ 2000 := by simp [greatB] at hg; omega
        clear hg
        have k0 := OK.out.k0
        have k1 := OK.out.k1
        simp only at k0 k1
        have WA := Lib.hid OK.out.a
        have WB := Lib.hid OK.out.b
        have WS := Lib.hid OK.out.p.s
        have qs := OK.out.p.q0
        have qt := OK.out.p.q1
        simp only at qs qt
        have hmod : kd % 5 = 0 ∨ (kd % 5 = 1 ∨ kd % 5 = 2) ∨ kd % 5 = 3 ∨ kd % 5 = 4 := by omega
        have e_0 : V2.cell? ⟨g6, 0, none⟩ = some (.int .u8 kd) := cell_blk GB.out
        have e_1 : V2.cell? ⟨g6, 1, none⟩ = some (.int .u32 A0) := cell_blk GB.out
        have e_2 : V2.cell? ⟨g6, 2, none⟩ = some (.int .u32 B0) := cell_blk GB.out
        have e_3 : V2.cell? ⟨g6, 3, none⟩ = some (.int .u8 t0) := cell_blk GB.out
        have e_4 : V2.cell? ⟨g6, 4, none⟩ = some (.bool m) := cell_blk GB.out
        have e_5 : V2.cell? ⟨g6, 5, none⟩ = some (.int .u8 ty) := cell_blk GB.out
        have e_6 : V2.cell? ⟨g6, 6, none⟩ = some (.int .u16 sq) := cell_blk GB.out
        have e_7 : V2.cell? ⟨g6, 7, none⟩ = some (.int .u32 st) := cell_blk GB.out
        have e_8 : V2.cell? ⟨g6, 8, none⟩ = some (.int .u32 src) := cell_blk GB.out
        have e_9 : V2.cell? ⟨g6, 9, none⟩ = some (.slice oa on oc) := cell_blk GB.out
        have e_10 : V2.cell? ⟨g6, 10, none⟩ = some (.bool ex) := cell_blk GB.out
        have e_11 : V2.cell? ⟨g6, 11, none⟩ = some (.int .u16 pr) := cell_blk GB.out
        have e_12 : V2.cell? ⟨g6, 12, none⟩ = some (.slice xa xn xc) := cell_blk GB.out
        have e_13 : V2.cell? ⟨g6, 13, none⟩ = some (.slice pa n c) := cell_blk GB.out
        have e_14 : V2.cell? ⟨g6, 14, none⟩ = some (.int .u8 pd) := cell_blk GB.out
        rcases hmod with hmod | hmod | hmod | hmod
        · as_aux_lemma =>
            have m1 : kd % 5 = 0 := hmod
            have m2 : kd.tmod 5 = 0 := by rw [Int.tmod_eq_emod_of_nonneg k0]; exact hmod
            clear hmod k0 k1
            obtain ⟨code, hc⟩ := pair_both (S2.out.keep ((Below.refl _ V2).drew)) (by omega) A0 B0 t0 WA.out WB.out
            have HC := Lib.hid hc
            clear hc
            have C0 : Hid (HasB g6 (.cells #[(.int .u8 kd), (.int .u32 A0), (.int .u32 B0), (.int .u8 t0), (.bool m), (.int .u8 ty), (.int .u16 sq), (.int .u32 st), (.int .u32 src), (.slice oa on oc), (.bool ex), (.int .u16 pr), (.slice xa xn xc), (.slice pa n c), (.int .u8 pd)] 66 (0, 0)) V2.drew) := Lib.hid GB.out
            have hne : Nonempty { w' : World // HasB g6 (.cells #[(.int .u8 kd), (.int .u32 A0), (.int .u32 B0), (.int .u8 t0), (.bool m), (.int .u8 ty), (.int .u16 sq), (.int .u32 st), (.int .u32 src), (.slice oa on oc), (.bool ex), (.int .u16 pr), (.slice xa xn xc), (.slice pa n c), (.int .u8 pd)] 66 (0, 0)) w' } := ⟨⟨_, C0.out⟩⟩
            have o1 : ∀ z : { w' : World // HasB g6 (.cells #[(.int .u8 kd), (.int .u32 A0), (.int .u32 B0), (.int .u8 t0), (.bool m), (.int .u8 ty), (.int .u16 sq), (.int .u32 st), (.int .u32 src), (.slice oa on oc), (.bool ex), (.int .u16 pr), (.slice xa xn xc), (.slice pa n c), (.int .u8 pd)] 66 (0, 0)) w' }, z.1.cell? ⟨g6, 1, none⟩ = some (.int .u32 A0) := fun z => cell_blk z.2
            have o2 : ∀ z : { w' : World // HasB g6 (.cells #[(.int .u8 kd), (.int .u32 A0), (.int .u32 B0), (.int .u8 t0), (.bool m), (.int .u8 ty), (.int .u16 sq), (.int .u32 st), (.int .u32 src), (.slice oa on oc), (.bool ex), (.int .u16 pr), (.slice xa xn xc), (.slice pa n c), (.int .u8 pd)] 66 (0, 0)) w' }, z.1.cell? ⟨g6, 2, none⟩ = some (.int .u32 B0) := fun z => cell_blk z.2
            have o3 : ∀ z : { w' : World // HasB g6 (.cells #[(.int .u8 kd), (.int .u32 A0), (.int .u32 B0), (.int .u8 t0), (.bool m), (.int .u8 ty), (.int .u16 sq), (.int .u32 st), (.int .u32 src), (.slice oa on oc), (.bool ex), (.int .u16 pr), (.slice xa xn xc), (.slice pa n c), (.int .u8 pd)] 66 (0, 0)) w' }, z.1.cell? ⟨g6, 3, none⟩ = some (.int .u8 t0) := fun z => cell_blk z.2
            go_wp2_with fail
            clear e_0 e_1 e_2 e_3 e_4 e_5 e_6 e_7 e_8 e_9 e_10 e_11 e_12 e_13 e_14
            refine MixC.wp_region_mix [7, 15] (HasB g6 (.cells #[(.int .u8 kd), (.int .u32 A0), (.int .u32 B0), (.int .u8 t0), (.bool m), (.int .u8 ty), (.int .u16 sq), (.int .u32 st), (.int .u32 src), (.slice oa on oc), (.bool ex), (.int .u16 pr), (.slice xa xn xc), (.slice pa n c), (.int .u8 pd)] 66 (0, 0))) C0.out (by kernel_rfl) (by kernel_rfl) (by kernel_rfl) ?_
            iterate 7 (refine MixC.mix_read rfl (fun K hK => ?_); go_simp; refine hK _ ?_; clear hK K)
            refine MixC.mix_move rfl (fun K hK => ?_)
            go_simp
            refine HC.out.mono ?_
            rintro e V3 ⟨rfl, kk, sz, hc2⟩
            have HC2 := Lib.hid hc2
            have C3 : Hid (HasB g6 (.cells #[(.int .u8 kd), (.int .u32 A0), (.int .u32 B0), (.int .u8 t0), (.bool m), (.int .u8 ty), (.int .u16 sq), (.int .u32 st), (.int .u32 src), (.slice oa on oc), (.bool ex), (.int .u16 pr), (.slice xa xn xc), (.slice pa n c), (.int .u8 pd)] 66 (0, 0)) V3) := Lib.hid ((kk g6 List.mem_cons_self (by omega) (by omega)).trans GB.out)
            clear kk hc2
            refine ⟨_, rfl, C3.out, hK _ _ ?_⟩
            clear hK K
            iterate 7 (refine MixC.mix_read rfl (fun K hK => ?_); go_simp; refine hK _ ?_; clear hK K)
            refine MixC.mix_move rfl (fun K hK => ?_)
            go_simp
            refine HC2.out.mono ?_
            rintro e V4 ⟨rfl, kk, hs4⟩
            have S4 := Lib.hid hs4
            have C4 : Hid (HasB g6 (.cells #[(.int .u8 kd), (.int .u32 A0), (.int .u32 B0), (.int .u8 t0), (.bool m), (.int .u8 ty), (.int .u16 sq), (.int .u32 st), (.int .u32 src), (.slice oa on oc), (.bool ex), (.int .u16 pr), (.slice xa xn xc), (.slice pa n c), (.int .u8 pd)] 66 (0, 0)) V4) := Lib.hid ((kk g6 List.mem_cons_self (by omega) (by omega) (by omega)).trans GB.out)
            clear kk hs4
            refine ⟨_, rfl, C4.out, hK _ _ ?_⟩
            clear hK K
            (refine MixC.mix_read rfl (fun K hK => ?_); go_simp; refine hK _ ?_; clear hK K)
            refine MixC.mix_nil ?_
            change Exit.then _ _ _ _ V4
            clear o1 o2 o3 hne
            obtain ⟨zf1, zf2, zva, zvb, zvc, zvd, cnt, zA, zB, zT, zN, SS⟩ := S4.out
            obtain ⟨aA, cA, hVA, _⟩ := RTab.us SS.rt 0 (by omega)
            have hva : zva = .slice aA cnt cA := hVA
            have q0 : V4.cell? ⟨gr, 0, none⟩ = some (.slice aA cnt cA) := by rw [← hva]; exact cell_blk SS.rt.blk
            have HL : Hid (Calls Try.prog 39 #[.pointer (some ⟨g, 0, none⟩)] V4.drew fun e w' => e = .returned (.int .i64 cnt) ∧ w' = V4.drew) := Lib.hid ((tablen_any V4.drew g bp bf _ _ _ cnt cnt (SS.tab.drewN 1)).mono (by rintro e w' ⟨h1, h2⟩; exact ⟨h1, h2.symm⟩))
            clear SS hVA hva
            go_wp2_with fail
            refine wp_region_still_lit (by kernel_rfl) (by kernel_rfl) ?_
            still_step
            still_call HL.out
            iterate 6 still_step
            refine wpStill_nil ?_
            change Exit.then _ _ _ _ V4.drew
            clear q0 HL
            go_wp2_with fail
            go_roundw
            case rel => exact ⟨k + 1, by omega, by omega, by go_num, Lib.hid (Stt.unbox ((S4.out.keep ((Below.refl _ V4).drew)).mono (by omega)))⟩
            case measure => simp [intOf] <;> omega
        · as_aux_lemma =>
            have n0 : (kd % 5 == 0) = false := by simp; omega
            have n3 : (kd % 5 == 3) = false := by simp; omega
            have n4 : (kd % 5 == 4) = false := by simp; omega
            have r0 : decide (kd % 5 = 0) = false := by simp; omega
            have r3 : decide (kd % 5 = 3) = false := by simp; omega
            have r4 : decide (kd % 5 = 4) = false := by simp; omega
            have m2 : kd.tmod 5 = kd % 5 := Int.tmod_eq_emod_of_nonneg k0
            generalize kd % 5 = kr at *
            clear hmod k0 k1
            obtain ⟨f1, f2, va, vb, vc, vd, cnt, A, B, T, N, SS⟩ := S2.out
            obtain ⟨aA, cA, hVA, _⟩ := RTab.us SS.rt 0 (by omega)
            have hva : va = .slice aA cnt cA := hVA
            obtain ⟨aB, cB, hVB⟩ := own_len (SS.rt.col 1 (by omega))
            have hvb : vb = .slice aB cnt cB := hVB
            obtain ⟨aT, cT, hVC⟩ := own_len (SS.rt.col 2 (by omega))
            have hvc : vc = .slice aT cnt cT := hVC
            obtain ⟨aN, cN, hVD⟩ := own_len (SS.rt.col 3 (by omega))
            have hvd : vd = .slice aN cnt cN := hVD
            subst hva hvb hvc hvd
            have HSS := Lib.hid SS
            clear SS hVA hVB hVC hVD
            cases hfi : findI A src cnt with
            | none =>
              have HF1 : Hid (f1 src = none) := Lib.hid (by rw [HSS.out.rel.r1, hfi]; rfl)
              have HAT : Hid (atI A cnt src = -1) := Lib.hid (by unfold atI; rw [hfi])
              clear hfi
              go_wp2_with fail
              clear e_0 e_1 e_2 e_3 e_4 e_5 e_6 e_7 e_8 e_9 e_10 e_11 e_12 e_13 e_14
              refine (again_none 0 V2 m ty sq st src oa on oc ex pr xa xn xc pa n c Z pd g bp bf k f1 (firstOf f2) cnt cnt HSS.out.tab HF1.out WS.out).mono ?_
              rintro e V3 ⟨rfl, b3⟩
              have S3 := Lib.hid (HSS.out.keep b3)
              have G3 := Lib.hid (Below.blk b3 GB.out (lt_of_block GB.out))
              clear b3
              go_wp2_with fail
              generalize hV : World.alloc V3 _ = V4
              have B4 : Hid (Below V3.heap.size V3 V4) := Lib.hid (by rw [← hV]; exact bone V3 _)
              clear hV
              have S4 := Lib.hid (S3.out.keep B4.out)
              have y0 : V4.cell? ⟨gr, 0, none⟩ = some (.slice aA cnt cA) := cell_blk S4.out.rt.blk
              have y1 : V4.cell? ⟨g6, 8, none⟩ = some (.int .u32 src) := cell_blk (Below.blk B4.out G3.out (lt_of_block G3.out))
              have HC : Hid (Calls Try.prog 36 #[.slice aA cnt cA, .int .u32 src] V4.drew fun e w' => e = .returned (.int .i64 (-1)) ∧ w' = V4.drew) := Lib.hid (by
                obtain ⟨a', c', h1, h2⟩ := RTab.us (S4.out.rt.keep ((Below.refl _ V4).drew)) 0 (by omega)
                obtain ⟨rfl, rfl⟩ : aA = a' ∧ cA = c' := by injection h1 with h1 _ h3; exact ⟨h1, h3⟩
                refine (at34_any _ V4.drew aA cnt cA A src h2).mono ?_
                rintro e w' ⟨h3, h4⟩
                exact ⟨by rw [h3, HAT.out], h4.symm⟩)
              refine wp_region_still_lit (by kernel_rfl) (by kernel_rfl) ?_
              iterate 7 still_step
              still_call HC.out
              still_step
              refine wpStill_nil ?_
              change Exit.then _ _ _ _ V4.drew
              clear y0 y1 HC
              go_wp2_with fail
              go_roundw
              case rel => exact ⟨k + 1, by omega, by omega, by go_num, Lib.hid (Stt.unbox ((Stt.keep ⟨_, _, _, _, _, _, _, _, _, _, _, S4.out⟩ ((Below.refl _ V4).drew)).mono (by omega)))⟩
              case measure => simp [intOf] <;> omega
            | some p =>
              obtain ⟨hp, hsp, _⟩ := findI_some hfi
              have HF1 : Hid (f1 src = some (B p, T p, N p)) := Lib.hid (by rw [HSS.out.rel.r1, hfi]; rfl)
              have HAT : Hid (atI A cnt src = p) := Lib.hid (by unfold atI; rw [hfi])
              have HSP := Lib.hid hsp
              have nn := HSS.out.rel.nn p hp
              obtain ⟨nn0, nn1⟩ := nn
              have cnt1 : ∃ c', cnt = c' + 1 := ⟨cnt - 1, by omega⟩
              have adr : ∀ (a' : Option Addr) (cc j : Nat), j < 4 → four (.slice aA cnt cA) (.slice aB cnt cB) (.slice aT cnt cT) (.slice aN cnt cN) j = .slice a' cnt cc → ∃ b', a' = some ⟨b', 0, none⟩ := fun a' cc j hj he => by
                obtain ⟨c', hc'⟩ := cnt1
                have hcol := HSS.out.rt.col j hj
                rw [he] at hcol
                simp only [hc'] at hcol
                obtain ⟨g', cap', hv, _⟩ := own_some hcol
                exact ⟨g', by injection hv⟩
              obtain ⟨b1, rfl⟩ := adr aB cB 1 (by omega) rfl
              obtain ⟨b2, rfl⟩ := adr aT cT 2 (by omega) rfl
              obtain ⟨b3, rfl⟩ := adr aN cN 3 (by omega) rfl
              clear hfi hsp cnt1 adr
              go_wp2_with fail
              clear e_0 e_1 e_2 e_3 e_4 e_5 e_6 e_7 e_8 e_9 e_10 e_11 e_12 e_13 e_14
              refine (again_some 0 V2 m ty sq st src oa on oc ex pr xa xn xc pa n c Z pd g bp bf k f1 (firstOf f2) cnt cnt (B p) (T p) (N p) HSS.out.tab HF1.out WS.out OK2.out.p.z (by omega) qs qt nn0 nn1 (by omega)).mono ?_
              rintro e V3 ⟨a5, c5, rfl, s5, T3, k3⟩
              have HS5 := Lib.hid s5
              have HT3 := Lib.hid T3
              have R3 := Lib.hid (HSS.out.rt.keepL k3 (by intro x hx; simp at hx; rw [hx]; exact HSS.out.mp) (by simp; exact Ne.symm HSS.out.n2))
              have BL3 : Hid (Below w.heap.size w V3) := Lib.hid (HSS.out.bl.trans (k3.below HSS.out.bl.size (by intro x hx; simp at hx; rw [hx]; exact HSS.out.pb)))
              have G3 := Lib.hid (k3.blk GB.out (by simp; omega))
              clear s5 T3 k3
              go_wp2_with fail
              generalize hV : World.alloc V3 _ = V4
              have B4 : Hid (Below V3.heap.size V3 V4) := Lib.hid (by rw [← hV]; exact bone V3 _)
              have G12 : Hid (V4.heap[V3.heap.size]? = some (.cells #[(.bool m), (.int .u8 (T p)), (.int .u16 (N p)), (.int .u32 st), (.int .u32 (B p)), (.slice oa on oc), (.bool ex), (.int .u16 pr), (.slice xa xn xc), (.slice a5 (2 + n) c5), (.int .u8 pd)] 44 (0, 0))) := Lib.hid (by rw [← hV]; exact alloc_blk_new)
              clear hV
              obtain ⟨g12, hg12⟩ : ∃ g12, g12 = V3.heap.size := ⟨_, rfl⟩
              rw [← hg12] at G12
              rw [← hg12]
              clear hg12
              have T4 := Lib.hid (HT3.out.keep B4.out)
              have R4 := Lib.hid (R3.out.keep B4.out)
              have G4 := Lib.hid (Below.blk B4.out G3.out (lt_of_block G3.out))
              have y0 : V4.cell? ⟨gr, 0, none⟩ = some (.slice aA cnt cA) := cell_blk R4.out.blk
              have y1 : V4.cell? ⟨g6, 8, none⟩ = some (.int .u32 src) := cell_blk G4.out
              have HC : Hid (Calls Try.prog 36 #[.slice aA cnt cA, .int .u32 src] V4.drew fun e w' => e = .returned (.int .i64 p) ∧ w' = V4.drew) := Lib.hid (by
                obtain ⟨a', c', h1, h2⟩ := RTab.us (R4.out.keep ((Below.refl _ V4).drew)) 0 (by omega)
                obtain ⟨rfl, rfl⟩ : aA = a' ∧ cA = c' := by injection h1 with h1 _ h3; exact ⟨h1, h3⟩
                refine (at34_any _ V4.drew aA cnt cA A src h2).mono ?_
                rintro e w' ⟨h3, h4⟩
                exact ⟨by rw [h3, HAT.out], h4.symm⟩)
              refine wp_region_still_lit (by kernel_rfl) (by kernel_rfl) ?_
              iterate 7 still_step
              still_call HC.out
              still_step
              refine wpStill_nil ?_
              change Exit.then _ _ _ _ V4.drew
              clear y0 y1 HC
              generalize hD : V4.drew = V5
              have B5 : Hid (Below V3.heap.size V3 V5) := Lib.hid (by rw [← hD]; exact B4.out.drew)
              have T5 : Hid (Tab V5 g bp bf (k + 1) (pairsOf (updI f1 src (some (B p, T p, (N p + 1) % 65536)))) (firstOf f2) cnt cnt) := Lib.hid (by rw [← hD]; exact T4.out.drewN 1)
              have R5 : Hid (RT V5 w.heap.size gr (g6 :: [gr, g, bp, bf]) (.slice aA cnt cA) (.slice (some ⟨b1, 0, none⟩) cnt cB) (.slice (some ⟨b2, 0, none⟩) cnt cT) (.slice (some ⟨b3, 0, none⟩) cnt cN) cnt A B T N) := Lib.hid (by rw [← hD]; exact R4.out.keep ((Below.refl _ V4).drew))
              have G6 : Hid (V5.heap[g6]? = some (.cells #[(.int .u8 kd), (.int .u32 A0), (.int .u32 B0), (.int .u8 t0), (.bool m), (.int .u8 ty), (.int .u16 sq), (.int .u32 st), (.int .u32 src), (.slice oa on oc), (.bool ex), (.int .u16 pr), (.slice xa xn xc), (.slice pa n c), (.int .u8 pd)] 66 (0, 0))) := Lib.hid (by rw [← hD]; exact G4.out)
              have G7 : Hid (V5.heap[g12]? = some (.cells #[(.bool m), (.int .u8 (T p)), (.int .u16 (N p)), (.int .u32 st), (.int .u32 (B p)), (.slice oa on oc), (.bool ex), (.int .u16 pr), (.slice xa xn xc), (.slice a5 (2 + n) c5), (.int .u8 pd)] 44 (0, 0))) := Lib.hid (by rw [← hD]; exact G12.out)
              clear hD T4 R4 G4 G12
              have BL5 := Lib.hid (bmore BL3.out B5.out)
              have el : ∀ (j : Nat) (b' cc : Nat), j < 4 → four (.slice aA cnt cA) (.slice (some ⟨b1, 0, none⟩) cnt cB) (.slice (some ⟨b2, 0, none⟩) cnt cT) (.slice (some ⟨b3, 0, none⟩) cnt cN) j = .slice (some ⟨b', 0, none⟩) cnt cc → V5.cell? ⟨b', p, none⟩ = some (.int (cK j) (fourL A B T N j p)) := fun j b' cc hj he => by
                have hcol := R5.out.col j hj
                rw [he] at hcol
                have := hcol.cells (g := b') rfl p (.int (cK j) (fourL A B T N j p)) (by simp [colOf, hp])
                rw [addr_add, Nat.zero_add] at this
                exact this
              have l1 : V5.cell? ⟨b1, p, none⟩ = some (.int .u32 (B p)) := el 1 b1 cB (by omega) rfl
              have l2 : V5.cell? ⟨b2, p, none⟩ = some (.int .u8 (T p)) := el 2 b2 cT (by omega) rfl
              have l3 : V5.cell? ⟨b3, p, none⟩ = some (.int .u16 (N p)) := el 3 b3 cN (by omega) rfl
              have L3 := Lib.hid l3
              clear el
              have oa_0 : ∀ y : Wd V5.heap.size V5, y.1.cell? ⟨g12, 0, none⟩ = some (.bool m) := fun y => cell_blk (Below.blk y.2 G7.out (lt_of_block G7.out))
              have ob_0 : ∀ y : Wd V5.heap.size V5, y.1.cell? ⟨g6, 4, none⟩ = some (.bool m) := fun y => cell_blk (Below.blk y.2 G6.out (lt_of_block G6.out))
              have oa_1 : ∀ y : Wd V5.heap.size V5, y.1.cell? ⟨g12, 1, none⟩ = some (.int .u8 (T p)) := fun y => cell_blk (Below.blk y.2 G7.out (lt_of_block G7.out))
              have ob_1 : ∀ y : Wd V5.heap.size V5, y.1.cell? ⟨g6, 5, none⟩ = some (.int .u8 ty) := fun y => cell_blk (Below.blk y.2 G6.out (lt_of_block G6.out))
              have oa_2 : ∀ y : Wd V5.heap.size V5, y.1.cell? ⟨g12, 2, none⟩ = some (.int .u16 (N p)) := fun y => cell_blk (Below.blk y.2 G7.out (lt_of_block G7.out))
              have ob_2 : ∀ y : Wd V5.heap.size V5, y.1.cell? ⟨g6, 6, none⟩ = some (.int .u16 sq) := fun y => cell_blk (Below.blk y.2 G6.out (lt_of_block G6.out))
              have oa_3 : ∀ y : Wd V5.heap.size V5, y.1.cell? ⟨g12, 3, none⟩ = some (.int .u32 st) := fun y => cell_blk (Below.blk y.2 G7.out (lt_of_block G7.out))
              have ob_3 : ∀ y : Wd V5.heap.size V5, y.1.cell? ⟨g6, 7, none⟩ = some (.int .u32 st) := fun y => cell_blk (Below.blk y.2 G6.out (lt_of_block G6.out))
              have oa_4 : ∀ y : Wd V5.heap.size V5, y.1.cell? ⟨g12, 4, none⟩ = some (.int .u32 (B p)) := fun y => cell_blk (Below.blk y.2 G7.out (lt_of_block G7.out))
              have ob_4 : ∀ y : Wd V5.heap.size V5, y.1.cell? ⟨g6, 8, none⟩ = some (.int .u32 src) := fun y => cell_blk (Below.blk y.2 G6.out (lt_of_block G6.out))
              have oa_5 : ∀ y : Wd V5.heap.size V5, y.1.cell? ⟨g12, 5, none⟩ = some (.slice oa on oc) := fun y => cell_blk (Below.blk y.2 G7.out (lt_of_block G7.out))
              have ob_5 : ∀ y : Wd V5.heap.size V5, y.1.cell? ⟨g6, 9, none⟩ = some (.slice oa on oc) := fun y => cell_blk (Below.blk y.2 G6.out (lt_of_block G6.out))
              have oa_6 : ∀ y : Wd V5.heap.size V5, y.1.cell? ⟨g12, 6, none⟩ = some (.bool ex) := fun y => cell_blk (Below.blk y.2 G7.out (lt_of_block G7.out))
              have ob_6 : ∀ y : Wd V5.heap.size V5, y.1.cell? ⟨g6, 10, none⟩ = some (.bool ex) := fun y => cell_blk (Below.blk y.2 G6.out (lt_of_block G6.out))
              have oa_7 : ∀ y : Wd V5.heap.size V5, y.1.cell? ⟨g12, 7, none⟩ = some (.int .u16 pr) := fun y => cell_blk (Below.blk y.2 G7.out (lt_of_block G7.out))
              have ob_7 : ∀ y : Wd V5.heap.size V5, y.1.cell? ⟨g6, 11, none⟩ = some (.int .u16 pr) := fun y => cell_blk (Below.blk y.2 G6.out (lt_of_block G6.out))
              have oa_8 : ∀ y : Wd V5.heap.size V5, y.1.cell? ⟨g12, 8, none⟩ = some (.slice xa xn xc) := fun y => cell_blk (Below.blk y.2 G7.out (lt_of_block G7.out))
              have ob_8 : ∀ y : Wd V5.heap.size V5, y.1.cell? ⟨g6, 12, none⟩ = some (.slice xa xn xc) := fun y => cell_blk (Below.blk y.2 G6.out (lt_of_block G6.out))
              have oa_9 : ∀ y : Wd V5.heap.size V5, y.1.cell? ⟨g12, 9, none⟩ = some (.slice a5 (2 + n) c5) := fun y => cell_blk (Below.blk y.2 G7.out (lt_of_block G7.out))
              have ob_9 : ∀ y : Wd V5.heap.size V5, y.1.cell? ⟨g6, 13, none⟩ = some (.slice pa n c) := fun y => cell_blk (Below.blk y.2 G6.out (lt_of_block G6.out))
              have oa_10 : ∀ y : Wd V5.heap.size V5, y.1.cell? ⟨g12, 10, none⟩ = some (.int .u8 pd) := fun y => cell_blk (Below.blk y.2 G7.out (lt_of_block G7.out))
              have ob_10 : ∀ y : Wd V5.heap.size V5, y.1.cell? ⟨g6, 14, none⟩ = some (.int .u8 pd) := fun y => cell_blk (Below.blk y.2 G6.out (lt_of_block G6.out))
              have oc_0 : ∀ y : Wd V5.heap.size V5, y.1.cell? ⟨gr, 1, none⟩ = some (.slice (some ⟨b1, 0, none⟩) cnt cB) := fun y => cell_blk (Below.blk y.2 R5.out.blk (lt_of_block R5.out.blk))
              have od_0 : ∀ y : Wd V5.heap.size V5, y.1.cell? ⟨b1, p, none⟩ = some (.int .u32 (B p)) := fun y => Below.cell' y.2 (World.block_lt_of_cell? _ _ l1) l1
              have oc_1 : ∀ y : Wd V5.heap.size V5, y.1.cell? ⟨gr, 2, none⟩ = some (.slice (some ⟨b2, 0, none⟩) cnt cT) := fun y => cell_blk (Below.blk y.2 R5.out.blk (lt_of_block R5.out.blk))
              have od_1 : ∀ y : Wd V5.heap.size V5, y.1.cell? ⟨b2, p, none⟩ = some (.int .u8 (T p)) := fun y => Below.cell' y.2 (World.block_lt_of_cell? _ _ l2) l2
              have oc_2 : ∀ y : Wd V5.heap.size V5, y.1.cell? ⟨gr, 3, none⟩ = some (.slice (some ⟨b3, 0, none⟩) cnt cN) := fun y => cell_blk (Below.blk y.2 R5.out.blk (lt_of_block R5.out.blk))
              have od_2 : ∀ y : Wd V5.heap.size V5, y.1.cell? ⟨b3, p, none⟩ = some (.int .u16 (N p)) := fun y => Below.cell' y.2 (World.block_lt_of_cell? _ _ l3) l3
              have OKW : Hid (PopOk w _) := Lib.hid (HQP.out ▸ (HQ.out k (by omega)).2)
              have hpI : (p : Int) < cnt := by omega
              have hpN : ¬ ((p : Int) < 0) := by omega
              clear l1 l2 l3
              go_wp2_with fail
              refine wp_region_mix [27, 28] V5.heap.size V5 (Below.refl _ _) (by kernel_rfl) (by kernel_rfl) (by kernel_rfl) ?_
              iterate 27 (refine mix_read rfl (fun K hK => ?_); go_simp; refine hK _ ?_; clear hK K)
              refine mix_move rfl (fun K hK => ?_)
              go_simp
              refine (refwrap_any V5.heap.size V5.drew m ty sq st src oa on oc ex pr xa xn xc pa n c Z pd (B p) (T p) (N p) (OKW.out.p.z.up BL5.out.drew) (Nat.le_refl _) (by omega) qs qt).mono ?_
              rintro e X1 ⟨a9, c9, rfl, s9, bx⟩
              have S9 := Lib.hid s9
              have E1 : Hid (Below V5.heap.size V5 X1) := Lib.hid ((Below.refl _ V5).drew.trans bx)
              clear s9 bx
              refine ⟨_, rfl, E1.out, hK _ _ ?_⟩
              clear hK K
              refine mix_move rfl (fun K hK => ?_)
              go_simp
              refine (same_any X1.heap.size X1 m (T p) (N p) st (B p) oa on oc ex pr xa xn xc a5 (2 + n) c5 (catZ (putZ (fun _ => 0) 0 sq 2) 2 Z) a9 c9 (catZ (putZ (fun _ => 0) 0 sq 2) 2 Z) pd V X (OKW.out.p.o.up (bmore BL5.out E1.out)) (OKW.out.p.x.up (bmore BL5.out E1.out)) (HS5.out.up (bmore B5.out E1.out)) S9.out (fun _ _ => rfl) (Nat.le_refl _)).mono ?_
              rintro e X2 ⟨rfl, bx⟩
              have E2 := Lib.hid (bmore E1.out bx)
              clear bx
              refine ⟨_, rfl, E2.out, hK _ _ ?_⟩
              clear hK K
              iterate 2 (refine mix_read rfl (fun K hK => ?_); go_simp; refine hK _ ?_; clear hK K)
              refine mix_nil ?_
              change Exit.then _ _ _ _ X2
              clear oa_0 ob_0 oa_1 ob_1 oa_2 ob_2 oa_3 ob_3 oa_4 ob_4 oa_5 ob_5 oa_6 ob_6 oa_7 ob_7 oa_8 ob_8 oa_9 ob_9 oa_10 ob_10 oc_0 oc_1 oc_2 od_0 od_1 od_2
              have T6 := Lib.hid (T5.out.keep E2.out)
              have R6 := Lib.hid (R5.out.keep E2.out)
              have x3 : X2.cell? ⟨gr, 3, none⟩ = some (.slice (some ⟨b3, 0, none⟩) cnt cN) := cell_blk R6.out.blk
              have xe : X2.cell? ⟨b3, p, none⟩ = some (.int .u16 (N p)) := Below.cell' E2.out (World.block_lt_of_cell? _ _ L3.out) L3.out
              have xf : X2.frozen? ⟨b3, p, none⟩ = false := by
                obtain ⟨_, o2⟩ := R6.out.col 3 (by omega)
                have e1 : four (.slice aA cnt cA) (.slice (some ⟨b1, 0, none⟩) cnt cB) (.slice (some ⟨b2, 0, none⟩) cnt cT) (.slice (some ⟨b3, 0, none⟩) cnt cN) 3 = .slice (some ⟨b3, 0, none⟩) cnt cN := rfl
                rcases o2 with ⟨o2, _⟩ | ⟨gg, cap', cur, hv, hgb, hh, _⟩
                · rw [e1] at o2; cases o2
                · rw [e1] at hv
                  have hgg : b3 = gg := by injection hv with h1; injection h1 with h1; injection h1
                  subst hgg
                  exact free_blk hh
              have kw : IntKind.u16.wrap (N p + 1) = (N p + 1) % 65536 := by rw [IntKind.wrap_u16]
              go_wp2_with fail
              clear x3 xe xf kw
              generalize hZ : World.setCell X2 _ _ = X3
              have SX : Hid (Stt w X3 g bp bf gr (g6 :: [gr, g, bp, bf]) (k + 1)) := Lib.hid (by
                rw [← hZ]
                have nb : ∀ y ∈ g6 :: [gr, g, bp, bf], y ≠ b3 := fun y hy e => R6.out.ng 3 (by omega) y hy (by rw [e]; rfl)
                have hr := HSS.out.rel.again hp ((N p + 1) % 65536) (by omega)
                rw [HSP.out] at hr
                exact ⟨_, f2, _, _, _, _, cnt, A, B, T, _, ⟨Below.setCell (bmore BL5.out E2.out) ((R6.out.col 3 (by omega)).lt b3 rfl).1 _, T6.out.stay (set_blk_other _ (nb g (by simp))) (set_blk_other _ (nb bp (by simp))) (set_blk_other _ (nb bf (by simp))), RT.setN R6.out p hp _, hr, HSS.out.le, HSS.out.pb, HSS.out.fb, HSS.out.mg, HSS.out.mp, HSS.out.mf, HSS.out.n1, HSS.out.n2, HSS.out.n3⟩⟩)
              clear hZ
              obtain ⟨zf1, zf2, zva, zvb, zvc, zvd, cnt, zA, zB, zT, zN, SS⟩ := SX.out
              obtain ⟨aA, cA, hVA, _⟩ := RTab.us SS.rt 0 (by omega)
              have hva : zva = .slice aA cnt cA := hVA
              have q0 : X3.cell? ⟨gr, 0, none⟩ = some (.slice aA cnt cA) := by rw [← hva]; exact cell_blk SS.rt.blk
              have HL : Hid (Calls Try.prog 39 #[.pointer (some ⟨g, 0, none⟩)] X3.drew fun e w' => e = .returned (.int .i64 cnt) ∧ w' = X3.drew) := Lib.hid ((tablen_any X3.drew g bp bf _ _ _ cnt cnt (SS.tab.drewN 1)).mono (by rintro e w' ⟨h1, h2⟩; exact ⟨h1, h2.symm⟩))
              clear SS hVA hva
              refine wp_region_still_lit (by kernel_rfl) (by kernel_rfl) ?_
              still_step
              still_call HL.out
              iterate 6 still_step
              refine wpStill_nil ?_
              change Exit.then _ _ _ _ X3.drew
              clear q0 HL
              go_wp2_with fail
              go_roundw
              case rel => exact ⟨k + 1, by omega, by omega, by go_num, Lib.hid (Stt.unbox ((SX.out.keep ((Below.refl _ X3).drew)).mono (by omega)))⟩
              case measure => simp [intOf] <;> omega
        · as_aux_lemma =>
            have m1 : kd % 5 = 3 := hmod
            have m2 : kd.tmod 5 = 3 := by rw [Int.tmod_eq_emod_of_nonneg k0]; exact hmod
            clear hmod k0 k1
            obtain ⟨f1, f2, va, vb, vc, vd, cnt, A, B, T, N, SS⟩ := S2.out
            obtain ⟨aA, cA, hVA, _⟩ := RTab.us SS.rt 0 (by omega)
            have hva : va = .slice aA cnt cA := hVA
            obtain ⟨aB, cB, hVB⟩ := own_len (SS.rt.col 1 (by omega))
            have hvb : vb = .slice aB cnt cB := hVB
            obtain ⟨aT, cT, hVC⟩ := own_len (SS.rt.col 2 (by omega))
            have hvc : vc = .slice aT cnt cT := hVC
            obtain ⟨aN, cN, hVD⟩ := own_len (SS.rt.col 3 (by omega))
            have hvd : vd = .slice aN cnt cN := hVD
            subst hva hvb hvc hvd
            have HSS := Lib.hid SS
            clear SS hVA hVB hVC hVD
            cases hfi : findI B src cnt with
            | none =>
              have HF1 : Hid (f2 src = none) := Lib.hid (by rw [HSS.out.rel.r2, hfi]; rfl)
              have HAT : Hid (atI B cnt src = -1) := Lib.hid (by unfold atI; rw [hfi])
              clear hfi
              go_wp2_with fail
              clear e_0 e_1 e_2 e_3 e_4 e_5 e_6 e_7 e_8 e_9 e_10 e_11 e_12 e_13 e_14
              refine (back_none 0 V2 m ty sq st src oa on oc ex pr xa xn xc pa n c Z pd g bp bf k (pairsOf f1) f2 cnt cnt t0 HSS.out.tab WS.out HF1.out).mono ?_
              rintro e V3 ⟨rfl, b3⟩
              have S3 := Lib.hid (HSS.out.keep b3)
              have G3 := Lib.hid (Below.blk b3 GB.out (lt_of_block GB.out))
              clear b3
              go_wp2_with fail
              generalize hV : World.alloc V3 _ = V4
              have B4 : Hid (Below V3.heap.size V3 V4) := Lib.hid (by rw [← hV]; exact bone V3 _)
              clear hV
              have S4 := Lib.hid (S3.out.keep B4.out)
              have y0 : V4.cell? ⟨gr, 1, none⟩ = some (.slice aB cnt cB) := cell_blk S4.out.rt.blk
              have y1 : V4.cell? ⟨g6, 8, none⟩ = some (.int .u32 src) := cell_blk (Below.blk B4.out G3.out (lt_of_block G3.out))
              have HC : Hid (Calls Try.prog 36 #[.slice aB cnt cB, .int .u32 src] V4.drew fun e w' => e = .returned (.int .i64 (-1)) ∧ w' = V4.drew) := Lib.hid (by
                obtain ⟨a', c', h1, h2⟩ := RTab.us (S4.out.rt.keep ((Below.refl _ V4).drew)) 1 (by omega)
                obtain ⟨rfl, rfl⟩ : aB = a' ∧ cB = c' := by injection h1 with h1 _ h3; exact ⟨h1, h3⟩
                refine (at34_any _ V4.drew aB cnt cB B src h2).mono ?_
                rintro e w' ⟨h3, h4⟩
                exact ⟨by rw [h3, HAT.out], h4.symm⟩)
              refine wp_region_still_lit (by kernel_rfl) (by kernel_rfl) ?_
              iterate 7 still_step
              still_call HC.out
              still_step
              refine wpStill_nil ?_
              change Exit.then _ _ _ _ V4.drew
              clear y0 y1 HC
              go_wp2_with fail
              go_roundw
              case rel => exact ⟨k + 1, by omega, by omega, by go_num, Lib.hid (Stt.unbox ((Stt.keep ⟨_, _, _, _, _, _, _, _, _, _, _, S4.out⟩ ((Below.refl _ V4).drew)).mono (by omega)))⟩
              case measure => simp [intOf] <;> omega
            | some p =>
              obtain ⟨hp, hsp, _⟩ := findI_some hfi
              have HF1 : Hid (f2 src = some (A p)) := Lib.hid (by rw [HSS.out.rel.r2, hfi]; rfl)
              have HAT : Hid (atI B cnt src = p) := Lib.hid (by unfold atI; rw [hfi])
              have cnt1 : ∃ c', cnt = c' + 1 := ⟨cnt - 1, by omega⟩
              obtain ⟨bA, rfl⟩ : ∃ b', aA = some ⟨b', 0, none⟩ := by
                obtain ⟨c', hc'⟩ := cnt1
                have hcol := HSS.out.rt.col 0 (by omega)
                have he : four (.slice aA cnt cA) (.slice aB cnt cB) (.slice aT cnt cT) (.slice aN cnt cN) 0 = .slice aA cnt cA := rfl
                rw [he] at hcol
                simp only [hc'] at hcol
                obtain ⟨g', cap', hv, _⟩ := own_some hcol
                exact ⟨g', by injection hv⟩
              clear hfi hsp cnt1
              have hn2l : n < 2 ∨ ∃ l, n = l + 2 := by
                rcases Nat.lt_or_ge n 2 with h | h
                · exact .inl h
                · exact .inr ⟨n - 2, by omega⟩
              rcases hn2l with hn2 | ⟨l, hnl⟩
              · have HN := Lib.hid hn2
                clear hn2
                go_wp2_with fail
                clear e_0 e_1 e_2 e_3 e_4 e_5 e_6 e_7 e_8 e_9 e_10 e_11 e_12 e_13 e_14
                refine (back_short 0 V2 m ty sq st src oa on oc ex pr xa xn xc pa n c Z pd g bp bf k (pairsOf f1) f2 cnt cnt t0 (A p) HSS.out.tab WS.out HF1.out OK2.out.p.z HN.out).mono ?_
                rintro e V3 ⟨rfl, b3⟩
                have S3 := Lib.hid (HSS.out.keep b3)
                have G3 := Lib.hid (Below.blk b3 GB.out (lt_of_block GB.out))
                have BL3 : Hid (Below w.heap.size w V3) := Lib.hid (bmore HSS.out.bl b3)
                clear b3
                go_wp2_with fail
                generalize hV : World.alloc V3 _ = V4
                have B4 : Hid (Below V3.heap.size V3 V4) := Lib.hid (by rw [← hV]; exact bone V3 _)
                have G12 : Hid (V4.heap[V3.heap.size]? = some (.cells #[(.bool false), (.int .u8 0), (.int .u16 0), (.int .u32 0), (.int .u32 0), (.slice none 0 0), (.bool false), (.int .u16 0), (.slice none 0 0), (.slice none 0 0), (.int .u8 0)] 44 (0, 0))) := Lib.hid (by rw [← hV]; exact alloc_blk_new)
                clear hV
                obtain ⟨g12, hg12⟩ : ∃ g12, g12 = V3.heap.size := ⟨_, rfl⟩
                rw [← hg12] at G12
                rw [← hg12]
                clear hg12
                have S4 := Lib.hid (S3.out.keep B4.out)
                have G4 := Lib.hid (Below.blk B4.out G3.out (lt_of_block G3.out))
                have y0 : V4.cell? ⟨gr, 1, none⟩ = some (.slice aB cnt cB) := cell_blk S4.out.rt.blk
                have y1 : V4.cell? ⟨g6, 8, none⟩ = some (.int .u32 src) := cell_blk G4.out
                have HC : Hid (Calls Try.prog 36 #[.slice aB cnt cB, .int .u32 src] V4.drew fun e w' => e = .returned (.int .i64 p) ∧ w' = V4.drew) := Lib.hid (by
                  obtain ⟨a', c', h1, h2⟩ := RTab.us (S4.out.rt.keep ((Below.refl _ V4).drew)) 1 (by omega)
                  obtain ⟨rfl, rfl⟩ : aB = a' ∧ cB = c' := by injection h1 with h1 _ h3; exact ⟨h1, h3⟩
                  refine (at34_any _ V4.drew aB cnt cB B src h2).mono ?_
                  rintro e w' ⟨h3, h4⟩
                  exact ⟨by rw [h3, HAT.out], h4.symm⟩)
                refine wp_region_still_lit (by kernel_rfl) (by kernel_rfl) ?_
                iterate 7 still_step
                still_call HC.out
                still_step
                refine wpStill_nil ?_
                change Exit.then _ _ _ _ V4.drew
                clear y0 y1 HC
                generalize hD : V4.drew = V5
                have B5 : Hid (Below V3.heap.size V3 V5) := Lib.hid (by rw [← hD]; exact B4.out.drew)
                have S5 : Hid (St w V5 g bp bf gr (g6 :: [gr, g, bp, bf]) k f1 f2 (.slice (some ⟨bA, 0, none⟩) cnt cA) (.slice aB cnt cB) (.slice aT cnt cT) (.slice aN cnt cN) cnt A B T N) := Lib.hid (by rw [← hD]; exact S4.out.keep ((Below.refl _ V4).drew))
                have G6 : Hid (V5.heap[g6]? = some (.cells #[(.int .u8 kd), (.int .u32 A0), (.int .u32 B0), (.int .u8 t0), (.bool m), (.int .u8 ty), (.int .u16 sq), (.int .u32 st), (.int .u32 src), (.slice oa on oc), (.bool ex), (.int .u16 pr), (.slice xa xn xc), (.slice pa n c), (.int .u8 pd)] 66 (0, 0))) := Lib.hid (by rw [← hD]; exact G4.out)
                have G7 : Hid (V5.heap[g12]? = some (.cells #[(.bool false), (.int .u8 0), (.int .u16 0), (.int .u32 0), (.int .u32 0), (.slice none 0 0), (.bool false), (.int .u16 0), (.slice none 0 0), (.slice none 0 0), (.int .u8 0)] 44 (0, 0))) := Lib.hid (by rw [← hD]; exact G12.out)
                clear hD S4 G4 G12 S3 G3
                have l1 : V5.cell? ⟨bA, p, none⟩ = some (.int .u32 (A p)) := by
                  have hcol := S5.out.rt.col 0 (by omega)
                  have he : four (.slice (some ⟨bA, 0, none⟩) cnt cA) (.slice aB cnt cB) (.slice aT cnt cT) (.slice aN cnt cN) 0 = .slice (some ⟨bA, 0, none⟩) cnt cA := rfl
                  rw [he] at hcol
                  have := hcol.cells (g := bA) rfl p (.int (cK 0) (fourL A B T N 0 p)) (by simp [colOf, hp])
                  rw [addr_add, Nat.zero_add] at this
                  exact this
                have l0 : V5.cell? ⟨gr, 0, none⟩ = some (.slice (some ⟨bA, 0, none⟩) cnt cA) := cell_blk S5.out.rt.blk
                have L0 := lt_of_block S5.out.rt.blk
                have L1 : bA < V5.heap.size := World.block_lt_of_cell? _ _ l1
                have L2 := lt_of_block G6.out
                have e_3 : V5.cell? ⟨g6, 3, none⟩ = some (.int .u8 t0) := cell_blk G6.out
                have e_4 : V5.cell? ⟨g6, 4, none⟩ = some (.bool m) := cell_blk G6.out
                have e_5 : V5.cell? ⟨g6, 5, none⟩ = some (.int .u8 ty) := cell_blk G6.out
                have e_6 : V5.cell? ⟨g6, 6, none⟩ = some (.int .u16 sq) := cell_blk G6.out
                have e_7 : V5.cell? ⟨g6, 7, none⟩ = some (.int .u32 st) := cell_blk G6.out
                have e_8 : V5.cell? ⟨g6, 8, none⟩ = some (.int .u32 src) := cell_blk G6.out
                have e_9 : V5.cell? ⟨g6, 9, none⟩ = some (.slice oa on oc) := cell_blk G6.out
                have e_10 : V5.cell? ⟨g6, 10, none⟩ = some (.bool ex) := cell_blk G6.out
                have e_11 : V5.cell? ⟨g6, 11, none⟩ = some (.int .u16 pr) := cell_blk G6.out
                have e_12 : V5.cell? ⟨g6, 12, none⟩ = some (.slice xa xn xc) := cell_blk G6.out
                have e_13 : V5.cell? ⟨g6, 13, none⟩ = some (.slice pa n c) := cell_blk G6.out
                have e_14 : V5.cell? ⟨g6, 14, none⟩ = some (.int .u8 pd) := cell_blk G6.out
                have HU : Hid (∀ W, Below V5.heap.size V5 W → Calls Try.prog 28 #[.agg #[(.bool m), (.int .u8 ty), (.int .u16 sq), (.int .u32 st), (.int .u32 src), (.slice oa on oc), (.bool ex), (.int .u16 pr), (.slice xa xn xc), (.slice pa n c), (.int .u8 pd)], .int .u32 (A p), .int .u8 t0] W fun e w' => e = .returned (.tuple #[.agg #[(.bool false), (.int .u8 0), (.int .u16 0), (.int .u32 0), (.int .u32 0), (.slice none 0 0), (.bool false), (.int .u16 0), (.slice none 0 0), (.slice none 0 0), (.int .u8 0)], .bool false]) ∧ Below W.heap.size W w') := Lib.hid (fun W _ => refunwrap_sh34 0 W m ty sq st src oa on oc ex pr xa xn xc pa n c Z pd (A p) t0 HN.out)
                have hpI : (p : Int) < cnt := by omega
                have hpN : ¬ ((p : Int) < 0) := by omega
                go_upto_region 30 with (fail)
                have f_3 : ∀ y, Below V5.heap.size V5 y → y.cell? ⟨g6, 3, none⟩ = some (.int .u8 t0) := fun y h => Below.cell' h L2 e_3
                have f_4 : ∀ y, Below V5.heap.size V5 y → y.cell? ⟨g6, 4, none⟩ = some (.bool m) := fun y h => Below.cell' h L2 e_4
                have f_5 : ∀ y, Below V5.heap.size V5 y → y.cell? ⟨g6, 5, none⟩ = some (.int .u8 ty) := fun y h => Below.cell' h L2 e_5
                have f_6 : ∀ y, Below V5.heap.size V5 y → y.cell? ⟨g6, 6, none⟩ = some (.int .u16 sq) := fun y h => Below.cell' h L2 e_6
                have f_7 : ∀ y, Below V5.heap.size V5 y → y.cell? ⟨g6, 7, none⟩ = some (.int .u32 st) := fun y h => Below.cell' h L2 e_7
                have f_8 : ∀ y, Below V5.heap.size V5 y → y.cell? ⟨g6, 8, none⟩ = some (.int .u32 src) := fun y h => Below.cell' h L2 e_8
                have f_9 : ∀ y, Below V5.heap.size V5 y → y.cell? ⟨g6, 9, none⟩ = some (.slice oa on oc) := fun y h => Below.cell' h L2 e_9
                have f_10 : ∀ y, Below V5.heap.size V5 y → y.cell? ⟨g6, 10, none⟩ = some (.bool ex) := fun y h => Below.cell' h L2 e_10
                have f_11 : ∀ y, Below V5.heap.size V5 y → y.cell? ⟨g6, 11, none⟩ = some (.int .u16 pr) := fun y h => Below.cell' h L2 e_11
                have f_12 : ∀ y, Below V5.heap.size V5 y → y.cell? ⟨g6, 12, none⟩ = some (.slice xa xn xc) := fun y h => Below.cell' h L2 e_12
                have f_13 : ∀ y, Below V5.heap.size V5 y → y.cell? ⟨g6, 13, none⟩ = some (.slice pa n c) := fun y h => Below.cell' h L2 e_13
                have f_14 : ∀ y, Below V5.heap.size V5 y → y.cell? ⟨g6, 14, none⟩ = some (.int .u8 pd) := fun y h => Below.cell' h L2 e_14
                have f_0 : ∀ y, Below V5.heap.size V5 y → y.cell? ⟨gr, 0, none⟩ = some (.slice (some ⟨bA, 0, none⟩) cnt cA) := fun y h => Below.cell' h L0 l0
                have f_1 : ∀ y, Below V5.heap.size V5 y → y.cell? ⟨bA, p, none⟩ = some (.int .u32 (A p)) := fun y h => Below.cell' h L1 l1
                clear e_3 e_4 e_5 e_6 e_7 e_8 e_9 e_10 e_11 e_12 e_13 e_14 l0 l1
                go_cut [10, 11] (fun s10 s11 wx => ∃ g13 : Nat, s10 = .pointer (some ⟨g13, 0, none⟩) ∧ s11 = .bool false ∧ Hid (wx.heap[g13]? = some (.cells #[(.bool false), (.int .u8 0), (.int .u16 0), (.int .u32 0), (.int .u32 0), (.slice none 0 0), (.bool false), (.int .u16 0), (.slice none 0 0), (.slice none 0 0), (.int .u8 0)] 44 (0, 0))) ∧ Hid (Below V5.heap.size V5 wx))
                case first =>
                  have hne : Nonempty { w' : World // Below V5.heap.size V5 w' } := ⟨⟨_, Below.refl _ _⟩⟩
                  have h_0 := fun z : { w' : World // Below V5.heap.size V5 w' } => f_0 z.1 z.2
                  have h_1 := fun z : { w' : World // Below V5.heap.size V5 w' } => f_1 z.1 z.2
                  have h_3 := fun z : { w' : World // Below V5.heap.size V5 w' } => f_3 z.1 z.2
                  have h_4 := fun z : { w' : World // Below V5.heap.size V5 w' } => f_4 z.1 z.2
                  have h_5 := fun z : { w' : World // Below V5.heap.size V5 w' } => f_5 z.1 z.2
                  have h_6 := fun z : { w' : World // Below V5.heap.size V5 w' } => f_6 z.1 z.2
                  have h_7 := fun z : { w' : World // Below V5.heap.size V5 w' } => f_7 z.1 z.2
                  have h_8 := fun z : { w' : World // Below V5.heap.size V5 w' } => f_8 z.1 z.2
                  have h_9 := fun z : { w' : World // Below V5.heap.size V5 w' } => f_9 z.1 z.2
                  have h_10 := fun z : { w' : World // Below V5.heap.size V5 w' } => f_10 z.1 z.2
                  have h_11 := fun z : { w' : World // Below V5.heap.size V5 w' } => f_11 z.1 z.2
                  have h_12 := fun z : { w' : World // Below V5.heap.size V5 w' } => f_12 z.1 z.2
                  have h_13 := fun z : { w' : World // Below V5.heap.size V5 w' } => f_13 z.1 z.2
                  have h_14 := fun z : { w' : World // Below V5.heap.size V5 w' } => f_14 z.1 z.2
                  clear f_0 f_1 f_3 f_4 f_5 f_6 f_7 f_8 f_9 f_10 f_11 f_12 f_13 f_14
                  have D0 : Hid (Below V5.heap.size V5 V5.drew) := Lib.hid (Below.refl _ _).drew
                  refine MixC.wp_region_pick [11, 15, 16] (Below V5.heap.size V5) D0.out (by kernel_rfl) ?_
                  simp only [List.length_cons, List.length_nil, Nat.reduceAdd]
                  (refine MixC.pick_read 0 rfl (by kernel_rfl) rfl (by kernel_rfl) (by kernel_rfl) D0.out (fun K hK => ?_); go_simp; refine hK _ ?_; clear hK K)
                  (refine MixC.pick_read 1 rfl (by kernel_rfl) rfl (by kernel_rfl) (by kernel_rfl) D0.out (fun K hK => ?_); go_simp; refine hK _ ?_; clear hK K)
                  (refine MixC.pick_read 2 rfl (by kernel_rfl) rfl (by kernel_rfl) (by kernel_rfl) D0.out (fun K hK => ?_); go_simp; refine hK _ ?_; clear hK K)
                  (refine MixC.pick_read 3 rfl (by kernel_rfl) rfl (by kernel_rfl) (by kernel_rfl) D0.out (fun K hK => ?_); go_simp; refine hK _ ?_; clear hK K)
                  (refine MixC.pick_read 4 rfl (by kernel_rfl) rfl (by kernel_rfl) (by kernel_rfl) D0.out (fun K hK => ?_); go_simp; refine hK _ ?_; clear hK K)
                  (refine MixC.pick_read 5 rfl (by kernel_rfl) rfl (by kernel_rfl) (by kernel_rfl) D0.out (fun K hK => ?_); go_simp; refine hK _ ?_; clear hK K)
                  (refine MixC.pick_read 6 rfl (by kernel_rfl) rfl (by kernel_rfl) (by kernel_rfl) D0.out (fun K hK => ?_); go_simp; refine hK _ ?_; clear hK K)
                  (refine MixC.pick_read 7 rfl (by kernel_rfl) rfl (by kernel_rfl) (by kernel_rfl) D0.out (fun K hK => ?_); go_simp; refine hK _ ?_; clear hK K)
                  (refine MixC.pick_read 8 rfl (by kernel_rfl) rfl (by kernel_rfl) (by kernel_rfl) D0.out (fun K hK => ?_); go_simp; refine hK _ ?_; clear hK K)
                  (refine MixC.pick_read 9 rfl (by kernel_rfl) rfl (by kernel_rfl) (by kernel_rfl) D0.out (fun K hK => ?_); go_simp; refine hK _ ?_; clear hK K)
                  (refine MixC.pick_read 10 rfl (by kernel_rfl) rfl (by kernel_rfl) (by kernel_rfl) D0.out (fun K hK => ?_); go_simp; refine hK _ ?_; clear hK K)
                  refine MixC.pick_two 11 15 rfl rfl rfl rfl (by kernel_rfl) (fun K hK => ?_) (fun K hK => ?_)
                  · go_simp
                    refine (HU.out _ D0.out).mono ?_
                    rintro e w3 ⟨rfl, b9⟩
                    have D1 : Hid (Below V5.heap.size V5 w3) := Lib.hid (bmore D0.out b9)
                    refine ⟨_, rfl, D1.out, hK _ _ ?_⟩
                    clear hK K b9
                    (refine MixC.pick_read 12 rfl (by kernel_rfl) rfl (by kernel_rfl) (by kernel_rfl) D1.out (fun K hK => ?_); go_simp; refine hK _ ?_; clear hK K)
                    (refine MixC.pick_read 13 rfl (by kernel_rfl) rfl (by kernel_rfl) (by kernel_rfl) D1.out (fun K hK => ?_); go_simp; refine hK _ ?_; clear hK K)
                    (refine MixC.pick_read 14 rfl (by kernel_rfl) rfl (by kernel_rfl) (by kernel_rfl) D1.out (fun K hK => ?_); go_simp; refine hK _ ?_; clear hK K)
                    refine MixC.pick_move 15 rfl rfl (by kernel_rfl) (fun K hK => ?_)
                    go_simp
                    obtain ⟨V6, hV6⟩ : ∃ V6, w3.alloc (.cells #[(.bool false), (.int .u8 0), (.int .u16 0), (.int .u32 0), (.int .u32 0), (.slice none 0 0), (.bool false), (.int .u16 0), (.slice none 0 0), (.slice none 0 0), (.int .u8 0)] 44) = V6 := ⟨_, rfl⟩
                    obtain ⟨g13, hg13⟩ : ∃ g13, g13 = w3.heap.size := ⟨_, rfl⟩
                    have G2 : V6.heap[g13]? = some (.cells #[(.bool false), (.int .u8 0), (.int .u16 0), (.int .u32 0), (.int .u32 0), (.slice none 0 0), (.bool false), (.int .u16 0), (.slice none 0 0), (.slice none 0 0), (.int .u8 0)] 44 (0, 0)) := by rw [← hV6, hg13]; exact alloc_blk_new
                    have D2 : Hid (Below V5.heap.size V5 V6) := Lib.hid (by rw [← hV6]; exact D1.out.alloc D1.out.size _)
                    have hgw : V5.heap.size ≤ g13 := by rw [hg13]; exact D1.out.size
                    rw [hV6, ← hg13]
                    refine ⟨D2.out, hK _ _ ?_⟩
                    clear hK K hV6 hg13
                    obtain ⟨X2, hX⟩ : ∃ X2, World.setCells V6 g13 0 (Array.toList #[(.bool false), (.int .u8 0), (.int .u16 0), (.int .u32 0), (.int .u32 0), (.slice none 0 0), (.bool false), (.int .u16 0), (.slice none 0 0), (.slice none 0 0), (.int .u8 0)]) = X2 := ⟨_, rfl⟩
                    obtain ⟨x1, x2, x3⟩ := fill_blk G2 (by rfl) hX
                    have GQ : Hid (X2.heap[g13]? = some (.cells #[(.bool false), (.int .u8 0), (.int .u16 0), (.int .u32 0), (.int .u32 0), (.slice none 0 0), (.bool false), (.int .u16 0), (.slice none 0 0), (.slice none 0 0), (.int .u8 0)] 44 (0, 0))) := Lib.hid x1
                    have BX : Hid (Below V5.heap.size V5 X2) := Lib.hid (D2.out.trans (x2 _ hgw))
                    refine MixC.pick_move 16 rfl rfl (by kernel_rfl) (fun K hK => ?_)
                    refine Eq.mpr (if_pos rfl) ?_
                    refine mv_store 44 (.tmp 10) (.tmp 156) rfl g13 #[(.bool false), (.int .u8 0), (.int .u16 0), (.int .u32 0), (.int .u32 0), (.slice none 0 0), (.bool false), (.int .u16 0), (.slice none 0 0), (.slice none 0 0), (.int .u8 0)] rfl rfl (there_blk G2 (Nat.le_refl 11)) (by kernel_rfl) (by kernel_rfl) hX BX.out (hK _ _ ?_)
                    clear hK K hX x1 x2 x3
                    (refine MixC.pick_read 17 rfl (by kernel_rfl) rfl (by kernel_rfl) (by kernel_rfl) BX.out (fun K hK => ?_); go_simp; refine hK _ ?_; clear hK K)
                    refine MixC.pick_nil (by kernel_rfl) ?_
                    clear hne h_0 h_1 h_3 h_4 h_5 h_6 h_7 h_8 h_9 h_10 h_11 h_12 h_13 h_14
                    go_wp2_with fail
                    go_meet
                    exact ⟨g13, rfl, rfl, GQ, BX⟩
                  · go_simp
                    obtain ⟨V6, hV6⟩ : ∃ V6, (V5.alloc (.cells #[(.bool false), (.int .u8 0), (.int .u16 0), (.int .u32 0), (.int .u32 0), (.slice none 0 0), (.bool false), (.int .u16 0), (.slice none 0 0), (.slice none 0 0), (.int .u8 0)] 44)).drew = V6 := ⟨_, rfl⟩
                    obtain ⟨g13, hg13⟩ : ∃ g13, g13 = V5.heap.size := ⟨_, rfl⟩
                    have G1 : V6.heap[g13]? = some (.cells #[(.bool false), (.int .u8 0), (.int .u16 0), (.int .u32 0), (.int .u32 0), (.slice none 0 0), (.bool false), (.int .u16 0), (.slice none 0 0), (.slice none 0 0), (.int .u8 0)] 44 (0, 0)) := by rw [← hV6, hg13]; exact alloc_blk_new (w := V5)
                    have D1 : Hid (Below V5.heap.size V5 V6) := Lib.hid (by rw [← hV6]; exact ((Below.refl _ _).alloc (Nat.le_refl _) _).drew)
                    have hgw : V5.heap.size ≤ g13 := by omega
                    rw [hV6, ← hg13]
                    refine ⟨by rw [hg13]; exact D1.out, hK _ _ ?_⟩
                    clear hK K hV6 hg13
                    refine MixC.pick_move 11 rfl rfl (by kernel_rfl) (fun K hK => ?_)
                    go_simp
                    refine (HU.out _ D1.out).mono ?_
                    rintro e w3 ⟨rfl, b9⟩
                    have D2 : Hid (Below V5.heap.size V5 w3) := Lib.hid (bmore D1.out b9)
                    have G2 : w3.heap[g13]? = some (.cells #[(.bool false), (.int .u8 0), (.int .u16 0), (.int .u32 0), (.int .u32 0), (.slice none 0 0), (.bool false), (.int .u16 0), (.slice none 0 0), (.slice none 0 0), (.int .u8 0)] 44 (0, 0)) := Below.blk b9 G1 (lt_of_block G1)
                    refine ⟨_, rfl, D2.out, hK _ _ ?_⟩
                    clear hK K b9 G1
                    (refine MixC.pick_read 12 rfl (by kernel_rfl) rfl (by kernel_rfl) (by kernel_rfl) D2.out (fun K hK => ?_); go_simp; refine hK _ ?_; clear hK K)
                    (refine MixC.pick_read 13 rfl (by kernel_rfl) rfl (by kernel_rfl) (by kernel_rfl) D2.out (fun K hK => ?_); go_simp; refine hK _ ?_; clear hK K)
                    (refine MixC.pick_read 14 rfl (by kernel_rfl) rfl (by kernel_rfl) (by kernel_rfl) D2.out (fun K hK => ?_); go_simp; refine hK _ ?_; clear hK K)
                    obtain ⟨X2, hX⟩ : ∃ X2, World.setCells w3 g13 0 (Array.toList #[(.bool false), (.int .u8 0), (.int .u16 0), (.int .u32 0), (.int .u32 0), (.slice none 0 0), (.bool false), (.int .u16 0), (.slice none 0 0), (.slice none 0 0), (.int .u8 0)]) = X2 := ⟨_, rfl⟩
                    obtain ⟨x1, x2, x3⟩ := fill_blk G2 (by rfl) hX
                    have GQ : Hid (X2.heap[g13]? = some (.cells #[(.bool false), (.int .u8 0), (.int .u16 0), (.int .u32 0), (.int .u32 0), (.slice none 0 0), (.bool false), (.int .u16 0), (.slice none 0 0), (.slice none 0 0), (.int .u8 0)] 44 (0, 0))) := Lib.hid x1
                    have BX : Hid (Below V5.heap.size V5 X2) := Lib.hid (D2.out.trans (x2 _ hgw))
                    refine MixC.pick_move 16 rfl rfl (by kernel_rfl) (fun K hK => ?_)
                    refine Eq.mpr (if_pos rfl) ?_
                    refine mv_store 44 (.tmp 10) (.tmp 156) rfl g13 #[(.bool false), (.int .u8 0), (.int .u16 0), (.int .u32 0), (.int .u32 0), (.slice none 0 0), (.bool false), (.int .u16 0), (.slice none 0 0), (.slice none 0 0), (.int .u8 0)] rfl rfl (there_blk G2 (Nat.le_refl 11)) (by kernel_rfl) (by kernel_rfl) hX BX.out (hK _ _ ?_)
                    clear hK K hX x1 x2 x3
                    (refine MixC.pick_read 17 rfl (by kernel_rfl) rfl (by kernel_rfl) (by kernel_rfl) BX.out (fun K hK => ?_); go_simp; refine hK _ ?_; clear hK K)
                    refine MixC.pick_nil (by kernel_rfl) ?_
                    clear hne h_0 h_1 h_3 h_4 h_5 h_6 h_7 h_8 h_9 h_10 h_11 h_12 h_13 h_14
                    go_wp2_with fail
                    go_meet
                    exact ⟨g13, rfl, rfl, GQ, BX⟩
                case rest =>
                  obtain ⟨g13, rfl, rfl, GQ, BX⟩ := hcut
                  clear f_0 f_1 f_3 f_4 f_5 f_6 f_7 f_8 f_9 f_10 f_11 f_12 f_13 f_14 HU
                  have BWX : Hid (Below w.heap.size w wc) := Lib.hid (bmore (bmore BL3.out B5.out) BX.out)
                  have G7X := Lib.hid (Below.blk BX.out G7.out (lt_of_block G7.out))
                  have k_0 : wc.cell? ⟨g12, 0, none⟩ = some (.bool false) := cell_blk G7X.out
                  have m_0 : wc.cell? ⟨g13, 0, none⟩ = some (.bool false) := cell_blk GQ.out
                  have k_1 : wc.cell? ⟨g12, 1, none⟩ = some (.int .u8 0) := cell_blk G7X.out
                  have m_1 : wc.cell? ⟨g13, 1, none⟩ = some (.int .u8 0) := cell_blk GQ.out
                  have k_2 : wc.cell? ⟨g12, 2, none⟩ = some (.int .u16 0) := cell_blk G7X.out
                  have m_2 : wc.cell? ⟨g13, 2, none⟩ = some (.int .u16 0) := cell_blk GQ.out
                  have k_3 : wc.cell? ⟨g12, 3, none⟩ = some (.int .u32 0) := cell_blk G7X.out
                  have m_3 : wc.cell? ⟨g13, 3, none⟩ = some (.int .u32 0) := cell_blk GQ.out
                  have k_4 : wc.cell? ⟨g12, 4, none⟩ = some (.int .u32 0) := cell_blk G7X.out
                  have m_4 : wc.cell? ⟨g13, 4, none⟩ = some (.int .u32 0) := cell_blk GQ.out
                  have k_5 : wc.cell? ⟨g12, 5, none⟩ = some (.slice none 0 0) := cell_blk G7X.out
                  have m_5 : wc.cell? ⟨g13, 5, none⟩ = some (.slice none 0 0) := cell_blk GQ.out
                  have k_6 : wc.cell? ⟨g12, 6, none⟩ = some (.bool false) := cell_blk G7X.out
                  have m_6 : wc.cell? ⟨g13, 6, none⟩ = some (.bool false) := cell_blk GQ.out
                  have k_7 : wc.cell? ⟨g12, 7, none⟩ = some (.int .u16 0) := cell_blk G7X.out
                  have m_7 : wc.cell? ⟨g13, 7, none⟩ = some (.int .u16 0) := cell_blk GQ.out
                  have k_8 : wc.cell? ⟨g12, 8, none⟩ = some (.slice none 0 0) := cell_blk G7X.out
                  have m_8 : wc.cell? ⟨g13, 8, none⟩ = some (.slice none 0 0) := cell_blk GQ.out
                  have k_9 : wc.cell? ⟨g12, 9, none⟩ = some (.slice none 0 0) := cell_blk G7X.out
                  have m_9 : wc.cell? ⟨g13, 9, none⟩ = some (.slice none 0 0) := cell_blk GQ.out
                  have k_10 : wc.cell? ⟨g12, 10, none⟩ = some (.int .u8 0) := cell_blk G7X.out
                  have m_10 : wc.cell? ⟨g13, 10, none⟩ = some (.int .u8 0) := cell_blk GQ.out
                  go_wp2_with fail
                  clear k_0 m_0 k_1 m_1 k_2 m_2 k_3 m_3 k_4 m_4 k_5 m_5 k_6 m_6 k_7 m_7 k_8 m_8 k_9 m_9 k_10 m_10
                  refine (same_any wc.heap.size wc false 0 0 0 0 none 0 0 false 0 none 0 0 none 0 0 (fun _ => 0) none 0 (fun _ => 0) 0 (fun _ => 0) (fun _ => 0) US.nil BS.nil0 BS.nil0 BS.nil0 (fun _ _ => rfl) (Nat.le_refl _)).mono ?_
                  rintro e X4 ⟨rfl, bx⟩
                  have SX : Hid (Stt w X4 g bp bf gr (g6 :: [gr, g, bp, bf]) (k + 1)) := Lib.hid ((Stt.keep ⟨_, _, _, _, _, _, _, _, _, _, _, S5.out⟩ (bmore BX.out bx)).mono (by omega))
                  clear bx
                  go_wp2_with fail
                  obtain ⟨zf1, zf2, zva, zvb, zvc, zvd, cnt, zA, zB, zT, zN, SS⟩ := SX.out
                  obtain ⟨aA, cA, hVA, _⟩ := RTab.us SS.rt 0 (by omega)
                  have hva : zva = .slice aA cnt cA := hVA
                  have q0 : X4.cell? ⟨gr, 0, none⟩ = some (.slice aA cnt cA) := by rw [← hva]; exact cell_blk SS.rt.blk
                  have HL : Hid (Calls Try.prog 39 #[.pointer (some ⟨g, 0, none⟩)] X4.drew fun e w' => e = .returned (.int .i64 cnt) ∧ w' = X4.drew) := Lib.hid ((tablen_any X4.drew g bp bf _ _ _ cnt cnt (SS.tab.drewN 1)).mono (by rintro e w' ⟨h1, h2⟩; exact ⟨h1, h2.symm⟩))
                  clear SS hVA hva
                  refine wp_region_still_lit (by kernel_rfl) (by kernel_rfl) ?_
                  still_step
                  still_call HL.out
                  iterate 6 still_step
                  refine wpStill_nil ?_
                  change Exit.then _ _ _ _ X4.drew
                  clear q0 HL
                  go_wp2_with fail
                  go_roundw
                  case rel => exact ⟨k + 1, by omega, by omega, by go_num, Lib.hid (Stt.unbox ((SX.out.keep ((Below.refl _ X4).drew)).mono (by omega)))⟩
                  case measure => simp [intOf] <;> omega
              · have HN := Lib.hid hnl
                have hl9 : l ≤ 9000 := by omega
                clear hnl
                go_wp2_with fail
                clear e_0 e_1 e_2 e_3 e_4 e_5 e_6 e_7 e_8 e_9 e_10 e_11 e_12 e_13 e_14
                refine (back_long 0 V2 m ty sq st src oa on oc ex pr xa xn xc pa n c Z pd g bp bf k (pairsOf f1) f2 cnt cnt t0 (A p) l HSS.out.tab WS.out HF1.out OK2.out.p.z HN.out (by omega)).mono ?_
                rintro e V3 ⟨a5, c5, rfl, s5, b3⟩
                have HS5 := Lib.hid s5
                clear s5
                have S3 := Lib.hid (HSS.out.keep b3)
                have G3 := Lib.hid (Below.blk b3 GB.out (lt_of_block GB.out))
                have BL3 : Hid (Below w.heap.size w V3) := Lib.hid (bmore HSS.out.bl b3)
                clear b3
                go_wp2_with fail
                generalize hV : World.alloc V3 _ = V4
                have B4 : Hid (Below V3.heap.size V3 V4) := Lib.hid (by rw [← hV]; exact bone V3 _)
                have G12 : Hid (V4.heap[V3.heap.size]? = some (.cells #[(.bool m), (.int .u8 t0), (.int .u16 (numv Z 0 2)), (.int .u32 st), (.int .u32 (A p)), (.slice oa on oc), (.bool ex), (.int .u16 pr), (.slice xa xn xc), (.slice a5 l c5), (.int .u8 pd)] 44 (0, 0))) := Lib.hid (by rw [← hV]; exact alloc_blk_new)
                clear hV
                obtain ⟨g12, hg12⟩ : ∃ g12, g12 = V3.heap.size := ⟨_, rfl⟩
                rw [← hg12] at G12
                rw [← hg12]
                clear hg12
                have S4 := Lib.hid (S3.out.keep B4.out)
                have G4 := Lib.hid (Below.blk B4.out G3.out (lt_of_block G3.out))
                have y0 : V4.cell? ⟨gr, 1, none⟩ = some (.slice aB cnt cB) := cell_blk S4.out.rt.blk
                have y1 : V4.cell? ⟨g6, 8, none⟩ = some (.int .u32 src) := cell_blk G4.out
                have HC : Hid (Calls Try.prog 36 #[.slice aB cnt cB, .int .u32 src] V4.drew fun e w' => e = .returned (.int .i64 p) ∧ w' = V4.drew) := Lib.hid (by
                  obtain ⟨a', c', h1, h2⟩ := RTab.us (S4.out.rt.keep ((Below.refl _ V4).drew)) 1 (by omega)
                  obtain ⟨rfl, rfl⟩ : aB = a' ∧ cB = c' := by injection h1 with h1 _ h3; exact ⟨h1, h3⟩
                  refine (at34_any _ V4.drew aB cnt cB B src h2).mono ?_
                  rintro e w' ⟨h3, h4⟩
                  exact ⟨by rw [h3, HAT.out], h4.symm⟩)
                refine wp_region_still_lit (by kernel_rfl) (by kernel_rfl) ?_
                iterate 7 still_step
                still_call HC.out
                still_step
                refine wpStill_nil ?_
                change Exit.then _ _ _ _ V4.drew
                clear y0 y1 HC
                generalize hD : V4.drew = V5
                have B5 : Hid (Below V3.heap.size V3 V5) := Lib.hid (by rw [← hD]; exact B4.out.drew)
                have S5 : Hid (St w V5 g bp bf gr (g6 :: [gr, g, bp, bf]) k f1 f2 (.slice (some ⟨bA, 0, none⟩) cnt cA) (.slice aB cnt cB) (.slice aT cnt cT) (.slice aN cnt cN) cnt A B T N) := Lib.hid (by rw [← hD]; exact S4.out.keep ((Below.refl _ V4).drew))
                have G6 : Hid (V5.heap[g6]? = some (.cells #[(.int .u8 kd), (.int .u32 A0), (.int .u32 B0), (.int .u8 t0), (.bool m), (.int .u8 ty), (.int .u16 sq), (.int .u32 st), (.int .u32 src), (.slice oa on oc), (.bool ex), (.int .u16 pr), (.slice xa xn xc), (.slice pa n c), (.int .u8 pd)] 66 (0, 0))) := Lib.hid (by rw [← hD]; exact G4.out)
                have G7 : Hid (V5.heap[g12]? = some (.cells #[(.bool m), (.int .u8 t0), (.int .u16 (numv Z 0 2)), (.int .u32 st), (.int .u32 (A p)), (.slice oa on oc), (.bool ex), (.int .u16 pr), (.slice xa xn xc), (.slice a5 l c5), (.int .u8 pd)] 44 (0, 0))) := Lib.hid (by rw [← hD]; exact G12.out)
                clear hD S4 G4 G12 S3 G3
                have l1 : V5.cell? ⟨bA, p, none⟩ = some (.int .u32 (A p)) := by
                  have hcol := S5.out.rt.col 0 (by omega)
                  have he : four (.slice (some ⟨bA, 0, none⟩) cnt cA) (.slice aB cnt cB) (.slice aT cnt cT) (.slice aN cnt cN) 0 = .slice (some ⟨bA, 0, none⟩) cnt cA := rfl
                  rw [he] at hcol
                  have := hcol.cells (g := bA) rfl p (.int (cK 0) (fourL A B T N 0 p)) (by simp [colOf, hp])
                  rw [addr_add, Nat.zero_add] at this
                  exact this
                have l0 : V5.cell? ⟨gr, 0, none⟩ = some (.slice (some ⟨bA, 0, none⟩) cnt cA) := cell_blk S5.out.rt.blk
                have L0 := lt_of_block S5.out.rt.blk
                have L1 : bA < V5.heap.size := World.block_lt_of_cell? _ _ l1
                have L2 := lt_of_block G6.out
                have e_3 : V5.cell? ⟨g6, 3, none⟩ = some (.int .u8 t0) := cell_blk G6.out
                have e_4 : V5.cell? ⟨g6, 4, none⟩ = some (.bool m) := cell_blk G6.out
                have e_5 : V5.cell? ⟨g6, 5, none⟩ = some (.int .u8 ty) := cell_blk G6.out
                have e_6 : V5.cell? ⟨g6, 6, none⟩ = some (.int .u16 sq) := cell_blk G6.out
                have e_7 : V5.cell? ⟨g6, 7, none⟩ = some (.int .u32 st) := cell_blk G6.out
                have e_8 : V5.cell? ⟨g6, 8, none⟩ = some (.int .u32 src) := cell_blk G6.out
                have e_9 : V5.cell? ⟨g6, 9, none⟩ = some (.slice oa on oc) := cell_blk G6.out
                have e_10 : V5.cell? ⟨g6, 10, none⟩ = some (.bool ex) := cell_blk G6.out
                have e_11 : V5.cell? ⟨g6, 11, none⟩ = some (.int .u16 pr) := cell_blk G6.out
                have e_12 : V5.cell? ⟨g6, 12, none⟩ = some (.slice xa xn xc) := cell_blk G6.out
                have e_13 : V5.cell? ⟨g6, 13, none⟩ = some (.slice pa n c) := cell_blk G6.out
                have e_14 : V5.cell? ⟨g6, 14, none⟩ = some (.int .u8 pd) := cell_blk G6.out
                have OKW : Hid (PopOk w _) := Lib.hid (HQP.out ▸ (HQ.out k (by omega)).2)
                have HU : Hid (∀ W, Below V5.heap.size V5 W → Calls Try.prog 28 #[.agg #[(.bool m), (.int .u8 ty), (.int .u16 sq), (.int .u32 st), (.int .u32 src), (.slice oa on oc), (.bool ex), (.int .u16 pr), (.slice xa xn xc), (.slice pa n c), (.int .u8 pd)], .int .u32 (A p), .int .u8 t0] W fun e w' => ∃ a9 c9, e = .returned (.tuple #[.agg #[(.bool m), (.int .u8 t0), (.int .u16 (numv Z 0 2)), (.int .u32 st), (.int .u32 (A p)), (.slice oa on oc), (.bool ex), (.int .u16 pr), (.slice xa xn xc), (.slice a9 l c9), (.int .u8 pd)], .bool true]) ∧ w'.ownsRow W.heap.size 5 1 (.slice a9 l c9) l (bytesOf (fun i => Z (2 + i)) l) ∧ Below W.heap.size W w') := Lib.hid (fun W hb => refunwrap_own W.heap.size W m ty sq st src oa on oc ex pr xa xn xc pa n c Z pd l (A p) t0 (OKW.out.p.z.up (bmore (bmore BL3.out B5.out) hb)) (Nat.le_refl _) HN.out (by omega))
                have hpI : (p : Int) < cnt := by omega
                have hpN : ¬ ((p : Int) < 0) := by omega
                go_upto_region 30 with (fail)
                have f_3 : ∀ y, Below V5.heap.size V5 y → y.cell? ⟨g6, 3, none⟩ = some (.int .u8 t0) := fun y h => Below.cell' h L2 e_3
                have f_4 : ∀ y, Below V5.heap.size V5 y → y.cell? ⟨g6, 4, none⟩ = some (.bool m) := fun y h => Below.cell' h L2 e_4
                have f_5 : ∀ y, Below V5.heap.size V5 y → y.cell? ⟨g6, 5, none⟩ = some (.int .u8 ty) := fun y h => Below.cell' h L2 e_5
                have f_6 : ∀ y, Below V5.heap.size V5 y → y.cell? ⟨g6, 6, none⟩ = some (.int .u16 sq) := fun y h => Below.cell' h L2 e_6
                have f_7 : ∀ y, Below V5.heap.size V5 y → y.cell? ⟨g6, 7, none⟩ = some (.int .u32 st) := fun y h => Below.cell' h L2 e_7
                have f_8 : ∀ y, Below V5.heap.size V5 y → y.cell? ⟨g6, 8, none⟩ = some (.int .u32 src) := fun y h => Below.cell' h L2 e_8
                have f_9 : ∀ y, Below V5.heap.size V5 y → y.cell? ⟨g6, 9, none⟩ = some (.slice oa on oc) := fun y h => Below.cell' h L2 e_9
                have f_10 : ∀ y, Below V5.heap.size V5 y → y.cell? ⟨g6, 10, none⟩ = some (.bool ex) := fun y h => Below.cell' h L2 e_10
                have f_11 : ∀ y, Below V5.heap.size V5 y → y.cell? ⟨g6, 11, none⟩ = some (.int .u16 pr) := fun y h => Below.cell' h L2 e_11
                have f_12 : ∀ y, Below V5.heap.size V5 y → y.cell? ⟨g6, 12, none⟩ = some (.slice xa xn xc) := fun y h => Below.cell' h L2 e_12
                have f_13 : ∀ y, Below V5.heap.size V5 y → y.cell? ⟨g6, 13, none⟩ = some (.slice pa n c) := fun y h => Below.cell' h L2 e_13
                have f_14 : ∀ y, Below V5.heap.size V5 y → y.cell? ⟨g6, 14, none⟩ = some (.int .u8 pd) := fun y h => Below.cell' h L2 e_14
                have f_0 : ∀ y, Below V5.heap.size V5 y → y.cell? ⟨gr, 0, none⟩ = some (.slice (some ⟨bA, 0, none⟩) cnt cA) := fun y h => Below.cell' h L0 l0
                have f_1 : ∀ y, Below V5.heap.size V5 y → y.cell? ⟨bA, p, none⟩ = some (.int .u32 (A p)) := fun y h => Below.cell' h L1 l1
                clear e_3 e_4 e_5 e_6 e_7 e_8 e_9 e_10 e_11 e_12 e_13 e_14 l0 l1
                go_cut [10, 11] (fun s10 s11 wx => ∃ (g13 : Nat) (a9 : Option Addr) (c9 : Nat), s10 = .pointer (some ⟨g13, 0, none⟩) ∧ s11 = .bool true ∧ Hid (wx.heap[g13]? = some (.cells #[(.bool m), (.int .u8 t0), (.int .u16 (numv Z 0 2)), (.int .u32 st), (.int .u32 (A p)), (.slice oa on oc), (.bool ex), (.int .u16 pr), (.slice xa xn xc), (.slice a9 l c9), (.int .u8 pd)] 44 (0, 0))) ∧ Hid (Below V5.heap.size V5 wx) ∧ Hid (BS wx.heap.size wx a9 l c9 (fun i => Z (2 + i))))
                case first =>
                  have hne : Nonempty { w' : World // Below V5.heap.size V5 w' } := ⟨⟨_, Below.refl _ _⟩⟩
                  have h_0 := fun z : { w' : World // Below V5.heap.size V5 w' } => f_0 z.1 z.2
                  have h_1 := fun z : { w' : World // Below V5.heap.size V5 w' } => f_1 z.1 z.2
                  have h_3 := fun z : { w' : World // Below V5.heap.size V5 w' } => f_3 z.1 z.2
                  have h_4 := fun z : { w' : World // Below V5.heap.size V5 w' } => f_4 z.1 z.2
                  have h_5 := fun z : { w' : World // Below V5.heap.size V5 w' } => f_5 z.1 z.2
                  have h_6 := fun z : { w' : World // Below V5.heap.size V5 w' } => f_6 z.1 z.2
                  have h_7 := fun z : { w' : World // Below V5.heap.size V5 w' } => f_7 z.1 z.2
                  have h_8 := fun z : { w' : World // Below V5.heap.size V5 w' } => f_8 z.1 z.2
                  have h_9 := fun z : { w' : World // Below V5.heap.size V5 w' } => f_9 z.1 z.2
                  have h_10 := fun z : { w' : World // Below V5.heap.size V5 w' } => f_10 z.1 z.2
                  have h_11 := fun z : { w' : World // Below V5.heap.size V5 w' } => f_11 z.1 z.2
                  have h_12 := fun z : { w' : World // Below V5.heap.size V5 w' } => f_12 z.1 z.2
                  have h_13 := fun z : { w' : World // Below V5.heap.size V5 w' } => f_13 z.1 z.2
                  have h_14 := fun z : { w' : World // Below V5.heap.size V5 w' } => f_14 z.1 z.2
                  clear f_0 f_1 f_3 f_4 f_5 f_6 f_7 f_8 f_9 f_10 f_11 f_12 f_13 f_14
                  have D0 : Hid (Below V5.heap.size V5 V5.drew) := Lib.hid (Below.refl _ _).drew
                  refine MixC.wp_region_pick [11, 15, 16] (Below V5.heap.size V5) D0.out (by kernel_rfl) ?_
                  simp only [List.length_cons, List.length_nil, Nat.reduceAdd]
                  (refine MixC.pick_read 0 rfl (by kernel_rfl) rfl (by kernel_rfl) (by kernel_rfl) D0.out (fun K hK => ?_); go_simp; refine hK _ ?_; clear hK K)
                  (refine MixC.pick_read 1 rfl (by kernel_rfl) rfl (by kernel_rfl) (by kernel_rfl) D0.out (fun K hK => ?_); go_simp; refine hK _ ?_; clear hK K)
                  (refine MixC.pick_read 2 rfl (by kernel_rfl) rfl (by kernel_rfl) (by kernel_rfl) D0.out (fun K hK => ?_); go_simp; refine hK _ ?_; clear hK K)
                  (refine MixC.pick_read 3 rfl (by kernel_rfl) rfl (by kernel_rfl) (by kernel_rfl) D0.out (fun K hK => ?_); go_simp; refine hK _ ?_; clear hK K)
                  (refine MixC.pick_read 4 rfl (by kernel_rfl) rfl (by kernel_rfl) (by kernel_rfl) D0.out (fun K hK => ?_); go_simp; refine hK _ ?_; clear hK K)
                  (refine MixC.pick_read 5 rfl (by kernel_rfl) rfl (by kernel_rfl) (by kernel_rfl) D0.out (fun K hK => ?_); go_simp; refine hK _ ?_; clear hK K)
                  (refine MixC.pick_read 6 rfl (by kernel_rfl) rfl (by kernel_rfl) (by kernel_rfl) D0.out (fun K hK => ?_); go_simp; refine hK _ ?_; clear hK K)
                  (refine MixC.pick_read 7 rfl (by kernel_rfl) rfl (by kernel_rfl) (by kernel_rfl) D0.out (fun K hK => ?_); go_simp; refine hK _ ?_; clear hK K)
                  (refine MixC.pick_read 8 rfl (by kernel_rfl) rfl (by kernel_rfl) (by kernel_rfl) D0.out (fun K hK => ?_); go_simp; refine hK _ ?_; clear hK K)
                  (refine MixC.pick_read 9 rfl (by kernel_rfl) rfl (by kernel_rfl) (by kernel_rfl) D0.out (fun K hK => ?_); go_simp; refine hK _ ?_; clear hK K)
                  (refine MixC.pick_read 10 rfl (by kernel_rfl) rfl (by kernel_rfl) (by kernel_rfl) D0.out (fun K hK => ?_); go_simp; refine hK _ ?_; clear hK K)
                  refine MixC.pick_two 11 15 rfl rfl rfl rfl (by kernel_rfl) (fun K hK => ?_) (fun K hK => ?_)
                  · go_simp
                    refine (HU.out _ D0.out).mono ?_
                    rintro e w3 ⟨a9, c9, rfl, s9, b9⟩
                    have D1 : Hid (Below V5.heap.size V5 w3) := Lib.hid (bmore D0.out b9)
                    refine ⟨_, rfl, D1.out, hK _ _ ?_⟩
                    clear hK K b9
                    (refine MixC.pick_read 12 rfl (by kernel_rfl) rfl (by kernel_rfl) (by kernel_rfl) D1.out (fun K hK => ?_); go_simp; refine hK _ ?_; clear hK K)
                    (refine MixC.pick_read 13 rfl (by kernel_rfl) rfl (by kernel_rfl) (by kernel_rfl) D1.out (fun K hK => ?_); go_simp; refine hK _ ?_; clear hK K)
                    (refine MixC.pick_read 14 rfl (by kernel_rfl) rfl (by kernel_rfl) (by kernel_rfl) D1.out (fun K hK => ?_); go_simp; refine hK _ ?_; clear hK K)
                    refine MixC.pick_move 15 rfl rfl (by kernel_rfl) (fun K hK => ?_)
                    go_simp
                    obtain ⟨V6, hV6⟩ : ∃ V6, w3.alloc (.cells #[(.bool false), (.int .u8 0), (.int .u16 0), (.int .u32 0), (.int .u32 0), (.slice none 0 0), (.bool false), (.int .u16 0), (.slice none 0 0), (.slice none 0 0), (.int .u8 0)] 44) = V6 := ⟨_, rfl⟩
                    obtain ⟨g13, hg13⟩ : ∃ g13, g13 = w3.heap.size := ⟨_, rfl⟩
                    have G2 : V6.heap[g13]? = some (.cells #[(.bool false), (.int .u8 0), (.int .u16 0), (.int .u32 0), (.int .u32 0), (.slice none 0 0), (.bool false), (.int .u16 0), (.slice none 0 0), (.slice none 0 0), (.int .u8 0)] 44 (0, 0)) := by rw [← hV6, hg13]; exact alloc_blk_new
                    have D2 : Hid (Below V5.heap.size V5 V6) := Lib.hid (by rw [← hV6]; exact D1.out.alloc D1.out.size _)
                    have O2 : Hid (V6.ownsRow V5.heap.size 5 1 (.slice a9 l c9) l (bytesOf (fun i => Z (2 + i)) l)) := Lib.hid (own_blk1x (World.ownsRow.mono s9 D0.out.size) (fun q hq => by rw [← hV6]; exact alloc_blk_old (s9.lt q hq).2))
                    have hgw : V5.heap.size ≤ g13 := by rw [hg13]; exact D1.out.size
                    rw [hV6, ← hg13]
                    refine ⟨D2.out, hK _ _ ?_⟩
                    clear hK K hV6 hg13 s9
                    obtain ⟨X2, hX⟩ : ∃ X2, World.setCells V6 g13 0 (Array.toList #[(.bool m), (.int .u8 t0), (.int .u16 (numv Z 0 2)), (.int .u32 st), (.int .u32 (A p)), (.slice oa on oc), (.bool ex), (.int .u16 pr), (.slice xa xn xc), (.slice a9 l c9), (.int .u8 pd)]) = X2 := ⟨_, rfl⟩
                    obtain ⟨x1, x2, x3⟩ := fill_blk G2 (by rfl) hX
                    have GQ : Hid (X2.heap[g13]? = some (.cells #[(.bool m), (.int .u8 t0), (.int .u16 (numv Z 0 2)), (.int .u32 st), (.int .u32 (A p)), (.slice oa on oc), (.bool ex), (.int .u16 pr), (.slice xa xn xc), (.slice a9 l c9), (.int .u8 pd)] 44 (0, 0))) := Lib.hid x1
                    have BX : Hid (Below V5.heap.size V5 X2) := Lib.hid (D2.out.trans (x2 _ hgw))
                    have SQ : Hid (BS X2.heap.size X2 a9 l c9 (fun i => Z (2 + i))) := Lib.hid (by
                      have O := own_blk1x O2.out (w' := X2) (fun q hq => x3 q (fun e => by
                        obtain ⟨cs, mm, h2⟩ := own_blockR O2.out q hq
                        rw [e, G2] at h2
                        injection h2 with h2
                        injection h2 with _ h2
                        exact absurd h2 (by decide)))
                      obtain ⟨a', c', he, hs⟩ := BS.of_owns O (fun i hi => OK2.out.p.z.bd _ (by have := HN.out; show 2 + i < n; omega)) (by omega)
                      cases he
                      exact hs)
                    refine MixC.pick_move 16 rfl rfl (by kernel_rfl) (fun K hK => ?_)
                    refine Eq.mpr (if_pos rfl) ?_
                    refine mv_store 44 (.tmp 10) (.tmp 156) rfl g13 #[(.bool m), (.int .u8 t0), (.int .u16 (numv Z 0 2)), (.int .u32 st), (.int .u32 (A p)), (.slice oa on oc), (.bool ex), (.int .u16 pr), (.slice xa xn xc), (.slice a9 l c9), (.int .u8 pd)] rfl rfl (there_blk G2 (Nat.le_refl 11)) (by kernel_rfl) (by kernel_rfl) hX BX.out (hK _ _ ?_)
                    clear hK K hX x1 x2 x3
                    (refine MixC.pick_read 17 rfl (by kernel_rfl) rfl (by kernel_rfl) (by kernel_rfl) BX.out (fun K hK => ?_); go_simp; refine hK _ ?_; clear hK K)
                    refine MixC.pick_nil (by kernel_rfl) ?_
                    clear hne h_0 h_1 h_3 h_4 h_5 h_6 h_7 h_8 h_9 h_10 h_11 h_12 h_13 h_14
                    go_wp2_with fail
                    go_meet
                    exact ⟨g13, a9, c9, rfl, rfl, GQ, BX, SQ⟩
                  · go_simp
                    obtain ⟨V6, hV6⟩ : ∃ V6, (V5.alloc (.cells #[(.bool false), (.int .u8 0), (.int .u16 0), (.int .u32 0), (.int .u32 0), (.slice none 0 0), (.bool false), (.int .u16 0), (.slice none 0 0), (.slice none 0 0), (.int .u8 0)] 44)).drew = V6 := ⟨_, rfl⟩
                    obtain ⟨g13, hg13⟩ : ∃ g13, g13 = V5.heap.size := ⟨_, rfl⟩
                    have G1 : V6.heap[g13]? = some (.cells #[(.bool false), (.int .u8 0), (.int .u16 0), (.int .u32 0), (.int .u32 0), (.slice none 0 0), (.bool false), (.int .u16 0), (.slice none 0 0), (.slice none 0 0), (.int .u8 0)] 44 (0, 0)) := by rw [← hV6, hg13]; exact alloc_blk_new (w := V5)
                    have D1 : Hid (Below V5.heap.size V5 V6) := Lib.hid (by rw [← hV6]; exact ((Below.refl _ _).alloc (Nat.le_refl _) _).drew)
                    have hgw : V5.heap.size ≤ g13 := by omega
                    rw [hV6, ← hg13]
                    refine ⟨by rw [hg13]; exact D1.out, hK _ _ ?_⟩
                    clear hK K hV6 hg13
                    refine MixC.pick_move 11 rfl rfl (by kernel_rfl) (fun K hK => ?_)
                    go_simp
                    refine (HU.out _ D1.out).mono ?_
                    rintro e w3 ⟨a9, c9, rfl, s9, b9⟩
                    have D2 : Hid (Below V5.heap.size V5 w3) := Lib.hid (bmore D1.out b9)
                    have G2 : w3.heap[g13]? = some (.cells #[(.bool false), (.int .u8 0), (.int .u16 0), (.int .u32 0), (.int .u32 0), (.slice none 0 0), (.bool false), (.int .u16 0), (.slice none 0 0), (.slice none 0 0), (.int .u8 0)] 44 (0, 0)) := Below.blk b9 G1 (lt_of_block G1)
                    have O2 : Hid (w3.ownsRow V5.heap.size 5 1 (.slice a9 l c9) l (bytesOf (fun i => Z (2 + i)) l)) := Lib.hid (World.ownsRow.mono s9 D1.out.size)
                    refine ⟨_, rfl, D2.out, hK _ _ ?_⟩
                    clear hK K b9 G1 s9
                    (refine MixC.pick_read 12 rfl (by kernel_rfl) rfl (by kernel_rfl) (by kernel_rfl) D2.out (fun K hK => ?_); go_simp; refine hK _ ?_; clear hK K)
                    (refine MixC.pick_read 13 rfl (by kernel_rfl) rfl (by kernel_rfl) (by kernel_rfl) D2.out (fun K hK => ?_); go_simp; refine hK _ ?_; clear hK K)
                    (refine MixC.pick_read 14 rfl (by kernel_rfl) rfl (by kernel_rfl) (by kernel_rfl) D2.out (fun K hK => ?_); go_simp; refine hK _ ?_; clear hK K)
                    obtain ⟨X2, hX⟩ : ∃ X2, World.setCells w3 g13 0 (Array.toList #[(.bool m), (.int .u8 t0), (.int .u16 (numv Z 0 2)), (.int .u32 st), (.int .u32 (A p)), (.slice oa on oc), (.bool ex), (.int .u16 pr), (.slice xa xn xc), (.slice a9 l c9), (.int .u8 pd)]) = X2 := ⟨_, rfl⟩
                    obtain ⟨x1, x2, x3⟩ := fill_blk G2 (by rfl) hX
                    have GQ : Hid (X2.heap[g13]? = some (.cells #[(.bool m), (.int .u8 t0), (.int .u16 (numv Z 0 2)), (.int .u32 st), (.int .u32 (A p)), (.slice oa on oc), (.bool ex), (.int .u16 pr), (.slice xa xn xc), (.slice a9 l c9), (.int .u8 pd)] 44 (0, 0))) := Lib.hid x1
                    have BX : Hid (Below V5.heap.size V5 X2) := Lib.hid (D2.out.trans (x2 _ hgw))
                    have SQ : Hid (BS X2.heap.size X2 a9 l c9 (fun i => Z (2 + i))) := Lib.hid (by
                      have O := own_blk1x O2.out (w' := X2) (fun q hq => x3 q (fun e => by
                        obtain ⟨cs, mm, h2⟩ := own_blockR O2.out q hq
                        rw [e, G2] at h2
                        injection h2 with h2
                        injection h2 with _ h2
                        exact absurd h2 (by decide)))
                      obtain ⟨a', c', he, hs⟩ := BS.of_owns O (fun i hi => OK2.out.p.z.bd _ (by have := HN.out; show 2 + i < n; omega)) (by omega)
                      cases he
                      exact hs)
                    refine MixC.pick_move 16 rfl rfl (by kernel_rfl) (fun K hK => ?_)
                    refine Eq.mpr (if_pos rfl) ?_
                    refine mv_store 44 (.tmp 10) (.tmp 156) rfl g13 #[(.bool m), (.int .u8 t0), (.int .u16 (numv Z 0 2)), (.int .u32 st), (.int .u32 (A p)), (.slice oa on oc), (.bool ex), (.int .u16 pr), (.slice xa xn xc), (.slice a9 l c9), (.int .u8 pd)] rfl rfl (there_blk G2 (Nat.le_refl 11)) (by kernel_rfl) (by kernel_rfl) hX BX.out (hK _ _ ?_)
                    clear hK K hX x1 x2 x3
                    (refine MixC.pick_read 17 rfl (by kernel_rfl) rfl (by kernel_rfl) (by kernel_rfl) BX.out (fun K hK => ?_); go_simp; refine hK _ ?_; clear hK K)
                    refine MixC.pick_nil (by kernel_rfl) ?_
                    clear hne h_0 h_1 h_3 h_4 h_5 h_6 h_7 h_8 h_9 h_10 h_11 h_12 h_13 h_14
                    go_wp2_with fail
                    go_meet
                    exact ⟨g13, a9, c9, rfl, rfl, GQ, BX, SQ⟩
                case rest =>
                  obtain ⟨g13, a9, c9, rfl, rfl, GQ, BX, SQ⟩ := hcut
                  clear f_0 f_1 f_3 f_4 f_5 f_6 f_7 f_8 f_9 f_10 f_11 f_12 f_13 f_14 HU
                  have BWX : Hid (Below w.heap.size w wc) := Lib.hid (bmore (bmore BL3.out B5.out) BX.out)
                  have G7X := Lib.hid (Below.blk BX.out G7.out (lt_of_block G7.out))
                  have k_0 : wc.cell? ⟨g12, 0, none⟩ = some (.bool m) := cell_blk G7X.out
                  have m_0 : wc.cell? ⟨g13, 0, none⟩ = some (.bool m) := cell_blk GQ.out
                  have k_1 : wc.cell? ⟨g12, 1, none⟩ = some (.int .u8 t0) := cell_blk G7X.out
                  have m_1 : wc.cell? ⟨g13, 1, none⟩ = some (.int .u8 t0) := cell_blk GQ.out
                  have k_2 : wc.cell? ⟨g12, 2, none⟩ = some (.int .u16 (numv Z 0 2)) := cell_blk G7X.out
                  have m_2 : wc.cell? ⟨g13, 2, none⟩ = some (.int .u16 (numv Z 0 2)) := cell_blk GQ.out
                  have k_3 : wc.cell? ⟨g12, 3, none⟩ = some (.int .u32 st) := cell_blk G7X.out
                  have m_3 : wc.cell? ⟨g13, 3, none⟩ = some (.int .u32 st) := cell_blk GQ.out
                  have k_4 : wc.cell? ⟨g12, 4, none⟩ = some (.int .u32 (A p)) := cell_blk G7X.out
                  have m_4 : wc.cell? ⟨g13, 4, none⟩ = some (.int .u32 (A p)) := cell_blk GQ.out
                  have k_5 : wc.cell? ⟨g12, 5, none⟩ = some (.slice oa on oc) := cell_blk G7X.out
                  have m_5 : wc.cell? ⟨g13, 5, none⟩ = some (.slice oa on oc) := cell_blk GQ.out
                  have k_6 : wc.cell? ⟨g12, 6, none⟩ = some (.bool ex) := cell_blk G7X.out
                  have m_6 : wc.cell? ⟨g13, 6, none⟩ = some (.bool ex) := cell_blk GQ.out
                  have k_7 : wc.cell? ⟨g12, 7, none⟩ = some (.int .u16 pr) := cell_blk G7X.out
                  have m_7 : wc.cell? ⟨g13, 7, none⟩ = some (.int .u16 pr) := cell_blk GQ.out
                  have k_8 : wc.cell? ⟨g12, 8, none⟩ = some (.slice xa xn xc) := cell_blk G7X.out
                  have m_8 : wc.cell? ⟨g13, 8, none⟩ = some (.slice xa xn xc) := cell_blk GQ.out
                  have k_9 : wc.cell? ⟨g12, 9, none⟩ = some (.slice a5 l c5) := cell_blk G7X.out
                  have m_9 : wc.cell? ⟨g13, 9, none⟩ = some (.slice a9 l c9) := cell_blk GQ.out
                  have k_10 : wc.cell? ⟨g12, 10, none⟩ = some (.int .u8 pd) := cell_blk G7X.out
                  have m_10 : wc.cell? ⟨g13, 10, none⟩ = some (.int .u8 pd) := cell_blk GQ.out
                  go_wp2_with fail
                  clear k_0 m_0 k_1 m_1 k_2 m_2 k_3 m_3 k_4 m_4 k_5 m_5 k_6 m_6 k_7 m_7 k_8 m_8 k_9 m_9 k_10 m_10
                  refine (same_any wc.heap.size wc m t0 (numv Z 0 2) st (A p) oa on oc ex pr xa xn xc a5 l c5 (fun i => Z (2 + i)) a9 c9 (fun i => Z (2 + i)) pd V X (OKW.out.p.o.up BWX.out) (OKW.out.p.x.up BWX.out) (HS5.out.up (bmore B5.out BX.out)) SQ.out (fun _ _ => rfl) (Nat.le_refl _)).mono ?_
                  rintro e X4 ⟨rfl, bx⟩
                  have SX : Hid (Stt w X4 g bp bf gr (g6 :: [gr, g, bp, bf]) (k + 1)) := Lib.hid ((Stt.keep ⟨_, _, _, _, _, _, _, _, _, _, _, S5.out⟩ (bmore BX.out bx)).mono (by omega))
                  clear bx
                  go_wp2_with fail
                  obtain ⟨zf1, zf2, zva, zvb, zvc, zvd, cnt, zA, zB, zT, zN, SS⟩ := SX.out
                  obtain ⟨aA, cA, hVA, _⟩ := RTab.us SS.rt 0 (by omega)
                  have hva : zva = .slice aA cnt cA := hVA
                  have q0 : X4.cell? ⟨gr, 0, none⟩ = some (.slice aA cnt cA) := by rw [← hva]; exact cell_blk SS.rt.blk
                  have HL : Hid (Calls Try.prog 39 #[.pointer (some ⟨g, 0, none⟩)] X4.drew fun e w' => e = .returned (.int .i64 cnt) ∧ w' = X4.drew) := Lib.hid ((tablen_any X4.drew g bp bf _ _ _ cnt cnt (SS.tab.drewN 1)).mono (by rintro e w' ⟨h1, h2⟩; exact ⟨h1, h2.symm⟩))
                  clear SS hVA hva
                  refine wp_region_still_lit (by kernel_rfl) (by kernel_rfl) ?_
                  still_step
                  still_call HL.out
                  iterate 6 still_step
                  refine wpStill_nil ?_
                  change Exit.then _ _ _ _ X4.drew
                  clear q0 HL
                  go_wp2_with fail
                  go_roundw
                  case rel => exact ⟨k + 1, by omega, by omega, by go_num, Lib.hid (Stt.unbox ((SX.out.keep ((Below.refl _ X4).drew)).mono (by omega)))⟩
                  case measure => simp [intOf] <;> omega
        · as_aux_lemma =>
            have m1 : kd % 5 = 4 := hmod
            have m2 : kd.tmod 5 = 4 := by rw [Int.tmod_eq_emod_of_nonneg k0]; exact hmod
            clear hmod k0 k1
            obtain ⟨code, hc⟩ := drop_both (S2.out.keep ((Below.refl _ V2).drew)) A0 WA.out
            have HC := Lib.hid hc
            clear hc
            have C0 : Hid (HasB g6 (.cells #[(.int .u8 kd), (.int .u32 A0), (.int .u32 B0), (.int .u8 t0), (.bool m), (.int .u8 ty), (.int .u16 sq), (.int .u32 st), (.int .u32 src), (.slice oa on oc), (.bool ex), (.int .u16 pr), (.slice xa xn xc), (.slice pa n c), (.int .u8 pd)] 66 (0, 0)) V2.drew) := Lib.hid GB.out
            have hne : Nonempty { w' : World // HasB g6 (.cells #[(.int .u8 kd), (.int .u32 A0), (.int .u32 B0), (.int .u8 t0), (.bool m), (.int .u8 ty), (.int .u16 sq), (.int .u32 st), (.int .u32 src), (.slice oa on oc), (.bool ex), (.int .u16 pr), (.slice xa xn xc), (.slice pa n c), (.int .u8 pd)] 66 (0, 0)) w' } := ⟨⟨_, C0.out⟩⟩
            have o1 : ∀ z : { w' : World // HasB g6 (.cells #[(.int .u8 kd), (.int .u32 A0), (.int .u32 B0), (.int .u8 t0), (.bool m), (.int .u8 ty), (.int .u16 sq), (.int .u32 st), (.int .u32 src), (.slice oa on oc), (.bool ex), (.int .u16 pr), (.slice xa xn xc), (.slice pa n c), (.int .u8 pd)] 66 (0, 0)) w' }, z.1.cell? ⟨g6, 1, none⟩ = some (.int .u32 A0) := fun z => cell_blk z.2
            have o2 : ∀ z : { w' : World // HasB g6 (.cells #[(.int .u8 kd), (.int .u32 A0), (.int .u32 B0), (.int .u8 t0), (.bool m), (.int .u8 ty), (.int .u16 sq), (.int .u32 st), (.int .u32 src), (.slice oa on oc), (.bool ex), (.int .u16 pr), (.slice xa xn xc), (.slice pa n c), (.int .u8 pd)] 66 (0, 0)) w' }, z.1.cell? ⟨g6, 2, none⟩ = some (.int .u32 B0) := fun z => cell_blk z.2
            have o3 : ∀ z : { w' : World // HasB g6 (.cells #[(.int .u8 kd), (.int .u32 A0), (.int .u32 B0), (.int .u8 t0), (.bool m), (.int .u8 ty), (.int .u16 sq), (.int .u32 st), (.int .u32 src), (.slice oa on oc), (.bool ex), (.int .u16 pr), (.slice xa xn xc), (.slice pa n c), (.int .u8 pd)] 66 (0, 0)) w' }, z.1.cell? ⟨g6, 3, none⟩ = some (.int .u8 t0) := fun z => cell_blk z.2
            go_wp2_with fail
            clear e_0 e_1 e_2 e_3 e_4 e_5 e_6 e_7 e_8 e_9 e_10 e_11 e_12 e_13 e_14
            refine MixC.wp_region_mix [3, 7] (HasB g6 (.cells #[(.int .u8 kd), (.int .u32 A0), (.int .u32 B0), (.int .u8 t0), (.bool m), (.int .u8 ty), (.int .u16 sq), (.int .u32 st), (.int .u32 src), (.slice oa on oc), (.bool ex), (.int .u16 pr), (.slice xa xn xc), (.slice pa n c), (.int .u8 pd)] 66 (0, 0))) C0.out (by kernel_rfl) (by kernel_rfl) (by kernel_rfl) ?_
            iterate 3 (refine MixC.mix_read rfl (fun K hK => ?_); go_simp; refine hK _ ?_; clear hK K)
            refine MixC.mix_move rfl (fun K hK => ?_)
            go_simp
            refine HC.out.mono ?_
            rintro e V3 ⟨rfl, kk, sz, hc2⟩
            have HC2 := Lib.hid hc2
            have C3 : Hid (HasB g6 (.cells #[(.int .u8 kd), (.int .u32 A0), (.int .u32 B0), (.int .u8 t0), (.bool m), (.int .u8 ty), (.int .u16 sq), (.int .u32 st), (.int .u32 src), (.slice oa on oc), (.bool ex), (.int .u16 pr), (.slice xa xn xc), (.slice pa n c), (.int .u8 pd)] 66 (0, 0)) V3) := Lib.hid ((kk g6 List.mem_cons_self (by omega) (by omega)).trans GB.out)
            clear kk hc2
            refine ⟨_, rfl, C3.out, hK _ _ ?_⟩
            clear hK K
            iterate 3 (refine MixC.mix_read rfl (fun K hK => ?_); go_simp; refine hK _ ?_; clear hK K)
            refine MixC.mix_move rfl (fun K hK => ?_)
            go_simp
            refine HC2.out.mono ?_
            rintro e V4 ⟨rfl, kk, hs4⟩
            have S4 := Lib.hid hs4
            have C4 : Hid (HasB g6 (.cells #[(.int .u8 kd), (.int .u32 A0), (.int .u32 B0), (.int .u8 t0), (.bool m), (.int .u8 ty), (.int .u16 sq), (.int .u32 st), (.int .u32 src), (.slice oa on oc), (.bool ex), (.int .u16 pr), (.slice xa xn xc), (.slice pa n c), (.int .u8 pd)] 66 (0, 0)) V4) := Lib.hid ((kk g6 List.mem_cons_self (by omega) (by omega) (by omega)).trans GB.out)
            clear kk hs4
            refine ⟨_, rfl, C4.out, hK _ _ ?_⟩
            clear hK K
            (refine MixC.mix_read rfl (fun K hK => ?_); go_simp; refine hK _ ?_; clear hK K)
            refine MixC.mix_nil ?_
            change Exit.then _ _ _ _ V4
            clear o1 o2 o3 hne
            obtain ⟨zf1, zf2, zva, zvb, zvc, zvd, cnt, zA, zB, zT, zN, SS⟩ := S4.out
            obtain ⟨aA, cA, hVA, _⟩ := RTab.us SS.rt 0 (by omega)
            have hva : zva = .slice aA cnt cA := hVA
            have q0 : V4.cell? ⟨gr, 0, none⟩ = some (.slice aA cnt cA) := by rw [← hva]; exact cell_blk SS.rt.blk
            have HL : Hid (Calls Try.prog 39 #[.pointer (some ⟨g, 0, none⟩)] V4.drew fun e w' => e = .returned (.int .i64 cnt) ∧ w' = V4.drew) := Lib.hid ((tablen_any V4.drew g bp bf _ _ _ cnt cnt (SS.tab.drewN 1)).mono (by rintro e w' ⟨h1, h2⟩; exact ⟨h1, h2.symm⟩))
            clear SS hVA hva
            go_wp2_with fail
            refine wp_region_still_lit (by kernel_rfl) (by kernel_rfl) ?_
            still_step
            still_call HL.out
            iterate 6 still_step
            refine wpStill_nil ?_
            change Exit.then _ _ _ _ V4.drew
            clear q0 HL
            go_wp2_with fail
            go_roundw
            case rel => exact ⟨k + 1, by omega, by omega, by go_num, Lib.hid (Stt.unbox ((S4.out.keep ((Below.refl _ V4).drew)).mono (by omega)))⟩
            case measure => simp [intOf] <;> omega
    · have hnl : k = len ∨ (k < len ∧ k = 60) := by omega
      have BW : Below w.heap.size w wr := by obtain ⟨_, _, _, _, _, _, _, _, _, _, _, S⟩ := HS.out; exact S.bl
      clear hlt
      rcases hnl with rfl | ⟨hkl, rfl⟩
      · go_wp2_with fail
        go_ret
        exact ⟨rfl, BW⟩
      · go_wp2_with fail
        go_ret
        exact ⟨rfl, BW⟩
end Go.Proofs.Ytihbceippcgfgaa
