/-
  The law RtxThere.
-/
import Derived.Test.YtihbceippcgfgaaRtxA
import Derived.Test.YtihbceippcgfgaaRtxQ
import Derived.Test.YtihbceippcgfgaaRtxH
import Derived.Test.YtihbceippcgfgaaRtxB
namespace Go.Proofs.Ytihbceippcgfgaa
open Go.RowKit
set_option linter.unusedVariables false
set_option linter.unusedSimpArgs false
attribute [local irreducible] wpStill wpQuiet

/-- what holds ahead of packet k -/
structure Th (w wr : World) (g bp bf k : Nat) (a b typ : Int) : Prop where
  below : Below w.heap.size w wr
  pb : w.heap.size ≤ bp
  fb : w.heap.size ≤ bf
  gb : w.heap.size ≤ g
  tab : ∃ (f1 : Int → Option (Int × Int × Int)) (f2 : Int → Option Int), Tab wr g bp bf (1 + k) (pairsOf f1) (firstOf f2) 1 1 ∧ f1 a = some (b, typ, (k : Int)) ∧ f2 b = some a
set_option maxRecDepth 100000 in
set_option maxHeartbeats 16000000 in
theorem RtxThere.walk (a b typ : Int) (v : Value) (w : World) (w0 : (Lit.int .u32 a).wf = true) (w1 : (Lit.int .u32 b).wf = true) (w2 : (Lit.int .u8 typ).wf = true) (r : Reads Try.prog w 6 53 v) :
    Calls Try.prog 6 #[.int .u32 a, .int .u32 b, .int .u8 typ, v] w fun e w' => e = .returned (.bool true) ∧ Below w.heap.size w w' := by
  obtain ⟨ad, len, cap, sb, off, Q, rfl, ha, hl, hm, hQ⟩ := rtps_of r
  have HA := Lib.hid ha
  have HQ := Lib.hid hQ
  have W0 := Lib.hid w0
  have W1 := Lib.hid w1
  clear ha hQ w0 w1 w2 r
  go_enter Try.func6, Try.ntmps6
  go_wp2_with fail
  refine (alive34_any _).mono ?_
  rintro e x1 ⟨rfl, b1⟩
  have B1 := Lib.hid b1
  clear b1
  go_wp2_with fail
  refine (tabnew_any x1).mono ?_
  rintro e x2 ⟨rfl, T2, b2⟩
  have B2 := Lib.hid (bmore B1.out b2)
  have HT2 := Lib.hid T2
  have p1 : w.heap.size ≤ x1.heap.size := B1.out.size
  obtain ⟨g, hg⟩ : ∃ g, g = x1.heap.size + 1 + 1 := ⟨_, rfl⟩
  obtain ⟨bp, hp⟩ : ∃ bp, bp = x1.heap.size := ⟨_, rfl⟩
  obtain ⟨bf, hf⟩ : ∃ bf, bf = x1.heap.size + 1 := ⟨_, rfl⟩
  have HT3 : Hid (Tab x2 g bp bf 0 (pairsOf fun _ => none) (firstOf fun _ => none) 0 0) := by rw [hg, hp, hf]; exact Lib.hid T2
  have gp : w.heap.size ≤ bp := by omega
  have gf : w.heap.size ≤ bf := by omega
  have gg : w.heap.size ≤ g := by omega
  rw [← hg]
  clear T2 b2 HT2 hg hp hf p1
  by_cases hbad : a = b ∨ 127 < typ
  · have HB := Lib.hid hbad
    rcases hbad with rfl | h127
    · clear HB
      go_wp2_with fail
      refine (pair_arg x2 _ a a typ (.inl rfl)).mono ?_
      rintro e x3 ⟨rfl, rfl⟩
      go_wp2_with fail
      go_ret
      exact ⟨by simp, B2.out⟩
    · have e3 : decide (127 < typ) = true := by simpa using h127
      by_cases hab : a = b
      · subst hab
        go_wp2_with fail
        refine (pair_arg x2 _ a a typ (.inl rfl)).mono ?_
        rintro e x3 ⟨rfl, rfl⟩
        go_wp2_with fail
        go_ret
        exact ⟨by simp, B2.out⟩
      · have e1 : (a == b) = false := by simpa using hab
        have e2 : decide (a = b) = false := by simpa using hab
        clear hab h127
        go_wp2_with fail
        refine (pair_arg x2 _ a b typ HB.out).mono ?_
        rintro e x3 ⟨rfl, rfl⟩
        go_wp2_with fail
        go_ret
        exact ⟨by simp, B2.out⟩
  · have hne : a ≠ b := fun h => hbad (.inl h)
    have h127 : typ ≤ 127 := by have : ¬ 127 < typ := fun h => hbad (.inr h); omega
    have HN := Lib.hid hne
    clear hbad hne
    go_wp2_with fail
    refine (pair_ok x2 g bp bf 0 (fun _ => none) (fun _ => none) 0 0 a b typ HT3.out W0.out W1.out HN.out h127 rfl rfl (by omega) (by omega)).mono ?_
    rintro e x3 ⟨rfl, T3, k3⟩
    have HTH : Hid (Th w x3 g bp bf 0 a b typ) := Lib.hid ⟨B2.out.trans (k3.below B2.out.size (by intro x hx; simp at hx; rcases hx with rfl | rfl <;> assumption)), gp, gf, gg, _, _, T3, by unfold updI; rw [if_pos rfl]; rfl, by unfold updI; rw [if_pos rfl]⟩
    clear T3 k3 HT3 B1 B2 gp gf gg
    go_wp2_with fail
    go_loopw [10] (fun si wr => ∃ k : Nat, k ≤ len ∧ k ≤ 30 ∧ si = .int .i64 k ∧ Hid (Th w wr g bp bf k a b typ)) (fun si _ => len - (intOf si).toNat)
    case atStart => exact ⟨0, by omega, by omega, rfl, HTH⟩
    case round =>
      clear HTH
      obtain ⟨k, hk, hk30, rfl, HT⟩ := hrel
      by_cases hlt : k < len ∧ k < 30
      · obtain ⟨hlt1, hlt2⟩ := hlt
        obtain ⟨rfl, hsb⟩ := HA.out (by omega)
        obtain ⟨hcells, hok⟩ := HQ.out k (by omega)
        have BW := HT.out.below
        have OK := Lib.hid (hok.up BW)
        have hc : ∀ j, j < 11 → wr.cell? ⟨sb, off + k * 11 + j, none⟩ = some ((Q k).cell j) := fun j hj => Below.cell' BW hsb (hcells j hj)
        clear hcells hok
        obtain ⟨p, hp⟩ : ∃ p, Q k = p := ⟨_, rfl⟩
        rw [hp] at OK hc
        have HP := Lib.hid hp
        clear hp
        obtain ⟨m, ty, sq, st, src, oa, on, oc, ex, pr, xa, xn, xc, pa, n, c, pd, V, X, Z⟩ := p
        have s_0 : wr.cell? ⟨sb, off + k * 11, none⟩ = some (.bool m) := hc 0 (by omega)
        have s_1 : wr.cell? ⟨sb, off + k * 11 + 1, none⟩ = some (.int .u8 ty) := hc 1 (by omega)
        have s_2 : wr.cell? ⟨sb, off + k * 11 + 2, none⟩ = some (.int .u16 sq) := hc 2 (by omega)
        have s_3 : wr.cell? ⟨sb, off + k * 11 + 3, none⟩ = some (.int .u32 st) := hc 3 (by omega)
        have s_4 : wr.cell? ⟨sb, off + k * 11 + 4, none⟩ = some (.int .u32 src) := hc 4 (by omega)
        have s_5 : wr.cell? ⟨sb, off + k * 11 + 5, none⟩ = some (.slice oa on oc) := hc 5 (by omega)
        have s_6 : wr.cell? ⟨sb, off + k * 11 + 6, none⟩ = some (.bool ex) := hc 6 (by omega)
        have s_7 : wr.cell? ⟨sb, off + k * 11 + 7, none⟩ = some (.int .u16 pr) := hc 7 (by omega)
        have s_8 : wr.cell? ⟨sb, off + k * 11 + 8, none⟩ = some (.slice xa xn xc) := hc 8 (by omega)
        have s_9 : wr.cell? ⟨sb, off + k * 11 + 9, none⟩ = some (.slice pa n c) := hc 9 (by omega)
        have s_10 : wr.cell? ⟨sb, off + k * 11 + 10, none⟩ = some (.int .u8 pd) := hc 10 (by omega)
        clear hc
        go_wp2_with fail
        clear s_0 s_1 s_2 s_3 s_4 s_5 s_6 s_7 s_8 s_9 s_10
        generalize hW : World.alloc wr _ = W
        have BA : Hid (Below wr.heap.size wr W) := Lib.hid (by rw [← hW]; exact bone wr _)
        have GA : Hid (W.heap[wr.heap.size]? = some (.cells #[(.bool m), (.int .u8 ty), (.int .u16 sq), (.int .u32 st), (.int .u32 src), (.slice oa on oc), (.bool ex), (.int .u16 pr), (.slice xa xn xc), (.slice pa n c), (.int .u8 pd)] 44 (0, 0))) := Lib.hid (by rw [← hW]; exact alloc_blk_new)
        clear hW
        obtain ⟨g1, hg1⟩ : ∃ g1, g1 = wr.heap.size := ⟨_, rfl⟩
        rw [← hg1] at GA
        rw [← hg1]
        have d1 : g < g1 := by obtain ⟨f1, f2, T, _⟩ := HT.out.tab; have := lt_of_block T.blk; omega
        have d2 : bp < g1 := by obtain ⟨f1, f2, T, _⟩ := HT.out.tab; have := T.m1.lt; omega
        have d3 : bf < g1 := by obtain ⟨f1, f2, T, _⟩ := HT.out.tab; have := T.m2.lt; omega
        have d4 : wr.heap.size ≤ g1 := by omega
        have d5 : w.heap.size ≤ g1 := by have := BW.size; omega
        clear hg1
        refine (great_any W m ty sq st src oa on oc ex pr xa xn xc pa n c pd).mono ?_
        rintro e V2 ⟨rfl, b2⟩
        have BB := Lib.hid (bmore BA.out b2)
        have GB := Lib.hid (Below.blk b2 GA.out (lt_of_block GA.out))
        clear b2 BA GA
        cases hg : greatB n xn on with
        | true =>
          go_wp2_with fail
          go_ret
          exact ⟨rfl, bmore BW BB.out⟩
        | false =>
          have hn9 : n ≤ 2000 := by simp [greatB] at hg; omega
          have HG := Lib.hid hg
          clear hg
          have z4 : V2.frozen? ⟨g1, 4, none⟩ = false := free_blk GB.out
          have e_0 : V2.cell? ⟨g1, 0, none⟩ = some (.bool m) := cell_blk GB.out
          have e_1 : V2.cell? ⟨g1, 1, none⟩ = some (.int .u8 ty) := cell_blk GB.out
          have e_2 : V2.cell? ⟨g1, 2, none⟩ = some (.int .u16 sq) := cell_blk GB.out
          have e_3 : V2.cell? ⟨g1, 3, none⟩ = some (.int .u32 st) := cell_blk GB.out
          have e_4 : V2.cell? ⟨g1, 4, none⟩ = some (.int .u32 src) := cell_blk GB.out
          have e_5 : V2.cell? ⟨g1, 5, none⟩ = some (.slice oa on oc) := cell_blk GB.out
          have e_6 : V2.cell? ⟨g1, 6, none⟩ = some (.bool ex) := cell_blk GB.out
          have e_7 : V2.cell? ⟨g1, 7, none⟩ = some (.int .u16 pr) := cell_blk GB.out
          have e_8 : V2.cell? ⟨g1, 8, none⟩ = some (.slice xa xn xc) := cell_blk GB.out
          have e_9 : V2.cell? ⟨g1, 9, none⟩ = some (.slice pa n c) := cell_blk GB.out
          have e_10 : V2.cell? ⟨g1, 10, none⟩ = some (.int .u8 pd) := cell_blk GB.out
          go_wp2_with fail
          clear z4
          clear e_0 e_1 e_2 e_3 e_4 e_5 e_6 e_7 e_8 e_9 e_10
          generalize hV : World.setCell V2 _ _ = V3
          have BC : Hid (Below wr.heap.size wr V3) := Lib.hid (by rw [← hV]; exact BB.out.setCell (by exact d4) _)
          have GC : Hid (V3.heap[g1]? = some (.cells #[(.bool m), (.int .u8 ty), (.int .u16 sq), (.int .u32 st), (.int .u32 a), (.slice oa on oc), (.bool ex), (.int .u16 pr), (.slice xa xn xc), (.slice pa n c), (.int .u8 pd)] 44 (0, 0))) := Lib.hid (by rw [← hV, set_blk _ GB.out]; rfl)
          clear hV GB BB
          obtain ⟨f1, f2, T0, hf1, hf2⟩ := HT.out.tab
          have HF1 := Lib.hid hf1
          have HF2 := Lib.hid hf2
          have TC := Lib.hid (T0.keep BC.out)
          clear T0 hf1 hf2
          have K3 := Lib.hid (OK.out.up BC.out)
          have qs := OK.out.q0
          have qt := OK.out.q1
          simp only at qs qt
          refine (again_some 0 V3 m ty sq st a oa on oc ex pr xa xn xc pa n c Z pd g bp bf (1 + k) f1 (firstOf f2) 1 1 b typ k TC.out HF1.out W0.out K3.out.z (by omega) qs qt (by omega) (by omega) (by omega)).mono ?_
          rintro e V4 ⟨a5, c5, rfl, s5, T4, k4⟩
          have HT4 := Lib.hid T4
          have HS5 := Lib.hid s5
          have GD := Lib.hid (k4.blk GC.out (by simp; omega))
          have BD : Hid (Below w.heap.size w V4) := Lib.hid ((bmore BW BC.out).trans (k4.below (bmore BW BC.out).size (by intro x hx; simp at hx; rw [hx]; exact HT.out.pb)))
          clear T4 s5 k4
          have o1 : ∀ o, (World.alloc V4 o).cell? ⟨g1, 1, none⟩ = some (.int .u8 ty) := fun o => cell_blk ((alloc_blk_old (lt_of_block GD.out)).trans GD.out)
          go_wp2_with fail
          clear o1
          generalize hV : World.alloc V4 _ = V5
          have BE : Hid (Below V4.heap.size V4 V5) := Lib.hid (by rw [← hV]; exact bone V4 _)
          have HE : Hid (V5.heap[V4.heap.size]? = some (.cells #[(.bool m), (.int .u8 typ), (.int .u16 (k : Int)), (.int .u32 st), (.int .u32 b), (.slice oa on oc), (.bool ex), (.int .u16 pr), (.slice xa xn xc), (.slice a5 (2 + n) c5), (.int .u8 pd)] 44 (0, 0))) := Lib.hid (by rw [← hV]; exact alloc_blk_new)
          clear hV
          obtain ⟨g2, hg2⟩ : ∃ g2, g2 = V4.heap.size := ⟨_, rfl⟩
          rw [← hg2] at HE
          rw [← hg2]
          clear hg2
          have GE := Lib.hid (Below.blk BE.out GD.out (lt_of_block GD.out))
          have HT5 := Lib.hid (HT4.out.keep BE.out)
          refine (back_long 0 V5 m typ k st b oa on oc ex pr xa xn xc a5 (2 + n) c5 (catZ (putZ (fun _ => 0) 0 sq 2) 2 Z) pd g bp bf (1 + k + 1) _ f2 1 1 ty a n HT5.out W1.out HF2.out (HS5.out.up BE.out) (by omega) (by omega)).mono ?_
          rintro e V6 ⟨a6, c6, rfl, s6, b6⟩
          rw [wrapped_num sq Z qs qt]
          have HS6 := Lib.hid s6
          have BF := Lib.hid (bmore BE.out b6)
          have HF := Lib.hid (Below.blk b6 HE.out (lt_of_block HE.out))
          have GF := Lib.hid (Below.blk b6 GE.out (lt_of_block GE.out))
          clear s6 b6
          have kw : IntKind.u16.wrap (k : Int) = k := by rw [IntKind.wrap_u16]; omega
          have e_0 : ∀ o, (World.alloc V6 o).cell? ⟨g1, 0, none⟩ = some (.bool m) := fun o => cell_blk ((alloc_blk_old (lt_of_block GF.out)).trans GF.out)
          have e_1 : ∀ o, (World.alloc V6 o).cell? ⟨g1, 1, none⟩ = some (.int .u8 ty) := fun o => cell_blk ((alloc_blk_old (lt_of_block GF.out)).trans GF.out)
          have e_2 : ∀ o, (World.alloc V6 o).cell? ⟨g1, 2, none⟩ = some (.int .u16 sq) := fun o => cell_blk ((alloc_blk_old (lt_of_block GF.out)).trans GF.out)
          have e_3 : ∀ o, (World.alloc V6 o).cell? ⟨g1, 3, none⟩ = some (.int .u32 st) := fun o => cell_blk ((alloc_blk_old (lt_of_block GF.out)).trans GF.out)
          have e_4 : ∀ o, (World.alloc V6 o).cell? ⟨g1, 4, none⟩ = some (.int .u32 a) := fun o => cell_blk ((alloc_blk_old (lt_of_block GF.out)).trans GF.out)
          have e_5 : ∀ o, (World.alloc V6 o).cell? ⟨g1, 5, none⟩ = some (.slice oa on oc) := fun o => cell_blk ((alloc_blk_old (lt_of_block GF.out)).trans GF.out)
          have e_6 : ∀ o, (World.alloc V6 o).cell? ⟨g1, 6, none⟩ = some (.bool ex) := fun o => cell_blk ((alloc_blk_old (lt_of_block GF.out)).trans GF.out)
          have e_7 : ∀ o, (World.alloc V6 o).cell? ⟨g1, 7, none⟩ = some (.int .u16 pr) := fun o => cell_blk ((alloc_blk_old (lt_of_block GF.out)).trans GF.out)
          have e_8 : ∀ o, (World.alloc V6 o).cell? ⟨g1, 8, none⟩ = some (.slice xa xn xc) := fun o => cell_blk ((alloc_blk_old (lt_of_block GF.out)).trans GF.out)
          have e_9 : ∀ o, (World.alloc V6 o).cell? ⟨g1, 9, none⟩ = some (.slice pa n c) := fun o => cell_blk ((alloc_blk_old (lt_of_block GF.out)).trans GF.out)
          have e_10 : ∀ o, (World.alloc V6 o).cell? ⟨g1, 10, none⟩ = some (.int .u8 pd) := fun o => cell_blk ((alloc_blk_old (lt_of_block GF.out)).trans GF.out)
          have o2 : ∀ o, (World.alloc V6 o).cell? ⟨g2, 2, none⟩ = some (.int .u16 k) := fun o => cell_blk ((alloc_blk_old (lt_of_block HF.out)).trans HF.out)
          have o4 : ∀ o, (World.alloc V6 o).cell? ⟨g2, 4, none⟩ = some (.int .u32 b) := fun o => cell_blk ((alloc_blk_old (lt_of_block HF.out)).trans HF.out)
          go_wp2_with fail
          clear o2 o4
          clear e_0 e_1 e_2 e_3 e_4 e_5 e_6 e_7 e_8 e_9 e_10
          generalize hV : World.alloc V6 _ = V7
          have BG : Hid (Below V6.heap.size V6 V7) := Lib.hid (by rw [← hV]; exact bone V6 _)
          clear hV
          have BH : Hid (Below w.heap.size w V7) := Lib.hid (bmore BD.out (bmore BF.out BG.out))
          have OH := Lib.hid ((HQ.out k (by omega)).2)
          have K7 : Hid (US V7.heap.size V7 oa on oc V ∧ BS V7.heap.size V7 xa xn xc X ∧ BS V7.heap.size V7 pa n c Z) := Lib.hid (by rw [HP.out] at OH; exact ⟨OH.out.o.up BH.out, OH.out.x.up BH.out, OH.out.z.up BH.out⟩)
          refine (same_any V7.heap.size V7 m ty sq st a oa on oc ex pr xa xn xc a6 n c6 (fun i => catZ (putZ (fun _ => 0) 0 sq 2) 2 Z (2 + i)) pa c Z pd V X K7.out.1 K7.out.2.1 (HS6.out.up BG.out) K7.out.2.2 (fun _ _ => wrapped_rest _ _ _) (Nat.le_refl _)).mono ?_
          rintro e V8 ⟨rfl, b8⟩
          have BI := Lib.hid (bmore BF.out (bmore BG.out b8))
          have BJ := Lib.hid (bmore BD.out BI.out)
          clear b8
          go_wp2_with fail
          go_roundw
          case rel => exact ⟨k + 1, by omega, by omega, by go_num, Lib.hid ⟨BJ.out, HT.out.pb, HT.out.fb, HT.out.gb, _, f2, by rw [← Nat.add_assoc]; exact HT4.out.keep BI.out, by unfold updI; rw [if_pos rfl, Int.emod_eq_of_lt (by omega) (by omega)]; rfl, HF2.out⟩⟩
          case measure => simp [intOf] <;> omega
      · have hnl : k = len ∨ (k < len ∧ k = 30) := by omega
        clear hlt
        rcases hnl with rfl | ⟨hkl, rfl⟩
        · go_wp2_with fail
          go_ret
          exact ⟨rfl, HT.out.below⟩
        · go_wp2_with fail
          go_ret
          exact ⟨rfl, HT.out.below⟩
end Go.Proofs.Ytihbceippcgfgaa
