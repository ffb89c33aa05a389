/-
  Chapter 20: alive; the law LossesNone.
-/
import Derived.Test.YtdmbdageohjodaaLsJ
namespace Go.Proofs.Ytdmbdageohjodaa
open Go.RowKit
set_option linter.unusedVariables false
set_option linter.unusedSimpArgs false
attribute [local irreducible] wpStill wpQuiet MixC.wpMix MixC.wpPick MixC.wpPickT
attribute [local go_sem] MixC.rdOp MixC.rd MixC.rdUpon MixC.mvUpon

theorem ofM_len {M : List (Nat × Mis)} {L : List Mis} (h : ofM M = L) : M.length = L.length := by have := congrArg List.length h; simpa [ofM] using this
theorem ofM_mem {M : List (Nat × Mis)} {L : List Mis} (h : ofM M = L) {p : Mis → Prop} (hp : ∀ m ∈ L, p m) : ∀ x ∈ M, p x.2 := fun x hx => hp _ (by rw [← h]; exact List.mem_map.2 ⟨x, hx, rfl⟩)
theorem misI_of {M : List (Nat × Mis)} {L : List Mis} (h : ofM M = L) : misI M = L.map (·.i) := by rw [← h]; unfold misI ofM; rw [List.map_map]; rfl
theorem ex1 : cameH (-1) 5 = 5 ∧ cameM (-1) 5 1 [] = [] := by constructor <;> kernel_rfl
theorem ex2 : cameH 5 8 = 8 ∧ cameM 5 8 1 [] = [⟨6, 0, 1⟩, ⟨7, 0, 1⟩] := by constructor <;> kernel_rfl
theorem ex3 : askK 1 10 [⟨6, 0, 1⟩, ⟨7, 0, 1⟩] = [⟨6, 1, 11⟩, ⟨7, 1, 11⟩] ∧ askO 1 10 [⟨6, 0, 1⟩, ⟨7, 0, 1⟩] = [(6, 1)] := by constructor <;> kernel_rfl
theorem ex4 : askK 1 10 [⟨6, 1, 11⟩, ⟨7, 1, 11⟩] = [⟨6, 1, 11⟩, ⟨7, 1, 11⟩] ∧ askO 1 10 [⟨6, 1, 11⟩, ⟨7, 1, 11⟩] = [] := by constructor <;> kernel_rfl
theorem ex5 : cameH 8 7 = 8 ∧ cameM 8 7 1 [⟨6, 1, 11⟩, ⟨7, 1, 11⟩] = [⟨6, 1, 11⟩] := by constructor <;> kernel_rfl
theorem Ty.o {ts : List TypeId} {w w' : World} (h : Ty ts w w') {base : Nat} {e : TypeId} {size : Nat} {v : Value} {n : Nat} {xs : List Value} (ho : w.ownsRow base e size v n xs) (he : e ∉ ts) : w'.ownsRow base e size v n xs := h.own ho he
set_option maxHeartbeats 4000000 in
theorem alive20_any (w : World) : Calls Try.prog 15 #[] w fun e w' => e = .returned (.bool true) ∧ Below w.heap.size w w' := by
  obtain ⟨B, hB⟩ : ∃ B, w.heap.size = B := ⟨_, rfl⟩
  have HB := Lib.hid hB
  rw [hB]
  clear hB
  go_enter Try.func15, Try.ntmps15
  go_wp2_with fail
  refine (newK_any B 10 w (by rw [HB.out]; exact Nat.le_refl _)).mono ?_
  rintro e w1 ⟨rfl, k1, b1⟩
  obtain ⟨g, hg⟩ : ∃ g, w.heap.size = g := ⟨_, rfl⟩
  rw [hg] at k1 ⊢
  rw [HB.out] at b1
  rw [show (max (10 : Int) 1) = 10 by decide] at k1
  have K1 := Lib.hid k1
  have B1 := Lib.hid b1
  have S1 : Hid (B ≤ w1.heap.size) := Lib.hid (by have := b1.size; have := HB.out; omega)
  clear k1 b1 hg
  go_wp2_with fail
  refine (came_any B g 10 (-1) 5 1 [] none 0 w1 K1.out S1.out (by omega) (by omega) (by omega) (by decide)).mono ?_
  rintro e w2 ⟨rfl, ⟨M2, a2, c2, k2, h2⟩, b2, -⟩
  rw [ex1.1] at k2
  have h2' : ofM M2 = [] := h2.trans ex1.2
  have K2 := Lib.hid k2
  have H2 := Lib.hid h2'
  have B2 := Lib.hid (B1.out.trans b2)
  have S2 : Hid (B ≤ w2.heap.size) := Lib.hid (by have := b2.size; have := S1.out; omega)
  clear k2 h2 h2' b2
  go_wp2_with fail
  refine (came_any B g 10 5 8 1 M2 a2 c2 w2 K2.out S2.out (by omega) (by omega) (by omega) (by rw [ofM_len H2.out]; decide)).mono ?_
  rintro e w3 ⟨rfl, ⟨M3, a3, c3, k3, h3⟩, b3, -⟩
  rw [ex2.1] at k3
  have h3' : ofM M3 = [⟨6, 0, 1⟩, ⟨7, 0, 1⟩] := h3.trans (by rw [H2.out]; exact ex2.2)
  have K3 := Lib.hid k3
  have H3 := Lib.hid h3'
  have B3 := Lib.hid (B2.out.trans b3)
  have S3 : Hid (B ≤ w3.heap.size) := Lib.hid (by have := b3.size; have := S2.out; omega)
  clear k3 h3 h3' b3
  go_wp2_with fail
  refine (ask_any B g 10 8 1 M3 a3 c3 w3 K3.out S3.out (by rw [ofM_len H3.out]; decide) (ofM_mem (p := fun m => (-9223372036854775808 ≤ m.i ∧ m.i ≤ 9223372036854775807) ∧ 0 ≤ m.tr ∧ m.tr ≤ 100) H3.out (by intro m hm; simp at hm; rcases hm with rfl | rfl <;> decide)) (by omega) (by omega)).mono ?_
  rintro e w4 ⟨va, vc, M4, a4, c4, he, o4, k4, h4, b4, t4⟩
  rw [H3.out, ex3.2] at he o4
  subst he
  have h4' : ofM M4 = [⟨6, 1, 11⟩, ⟨7, 1, 11⟩] := h4.trans (by rw [H3.out]; exact ex3.1)
  have O4 : Hid (w4.ownsRow 0 35 2 (.slice va 1 vc) 1 [.int .u16 6, .int .u16 1]) := Lib.hid o4
  have K4 := Lib.hid k4
  have H4 := Lib.hid h4'
  have B4 := Lib.hid (B3.out.trans b4)
  have S4 : Hid (B ≤ w4.heap.size) := Lib.hid (by have := b4.size; have := S3.out; omega)
  clear k4 h4 h4' b4 t4 o4
  simp only [List.length_cons, List.length_nil, Nat.zero_add]
  go_wp2_with fail
  refine (ask_any B g 10 8 1 M4 a4 c4 w4 K4.out S4.out (by rw [ofM_len H4.out]; decide) (ofM_mem (p := fun m => (-9223372036854775808 ≤ m.i ∧ m.i ≤ 9223372036854775807) ∧ 0 ≤ m.tr ∧ m.tr ≤ 100) H4.out (by intro m hm; simp at hm; rcases hm with rfl | rfl <;> decide)) (by omega) (by omega)).mono ?_
  rintro e w5 ⟨va5, vc5, M5, a5, c5, he, -, k5, h5, b5, t5⟩
  rw [H4.out, ex4.2] at he
  subst he
  have h5' : ofM M5 = [⟨6, 1, 11⟩, ⟨7, 1, 11⟩] := h5.trans (by rw [H4.out]; exact ex4.1)
  obtain ⟨gl, cap, hv, -, -, hcell, hcap⟩ := own_some O4.out
  injection hv with hva hvb hvc
  clear hvb
  subst hva hvc
  have lblk : ∃ cs m, w4.heap[gl]? = some (.cells cs 35 m) := own_block O4.out gl rfl
  obtain ⟨lcs, lm, lh⟩ := lblk
  have lh5 : w5.heap[gl]? = some (.cells lcs 35 lm) := t5 gl _ lh rfl (fun cs T m e => by cases e; decide)
  have c6 : w4.cell? ⟨gl, 0, none⟩ = some (.int .u16 6) := hcell 0 _ rfl
  have c7 : w4.cell? ⟨gl, 1, none⟩ = some (.int .u16 1) := hcell 1 _ rfl
  rw [cell_blk lh] at c6 c7
  have LH := Lib.hid lh5
  have C6 := Lib.hid c6
  have C7 := Lib.hid c7
  have K5 := Lib.hid k5
  have H5 := Lib.hid h5'
  have B5 := Lib.hid (B4.out.trans b5)
  have S5 : Hid (B ≤ w5.heap.size) := Lib.hid (by have := b5.size; have := S4.out; omega)
  clear k5 h5 h5' b5 t5 hcell lh lh5 c6 c7
  simp only [List.length_nil]
  go_wp2_with fail
  refine (came_any B g 10 8 7 1 M5 a5 c5 w5 K5.out S5.out (by omega) (by omega) (by omega) (by rw [ofM_len H5.out]; decide)).mono ?_
  rintro e w6 ⟨rfl, ⟨M6, a6, c6, k6, h6⟩, b6, t6⟩
  rw [ex5.1] at k6
  have h6' : ofM M6 = [⟨6, 1, 11⟩] := h6.trans (by rw [H5.out]; exact ex5.2)
  have K6 := Lib.hid k6
  have H6 := Lib.hid h6'
  have B6 := Lib.hid (B5.out.trans b6)
  have S6 : Hid (B ≤ w6.heap.size) := Lib.hid (by have := b6.size; have := S5.out; omega)
  have LH6 := Lib.hid (t6.blk LH.out (by decide))
  clear k6 h6 h6' b6 t6
  go_wp2_with fail
  refine (miss_any B g 10 8 M6 a6 c6 w6 K6.out (by rw [ofM_len H6.out]; decide)).mono ?_
  rintro e w7 ⟨a7, c7, he, o7, b7⟩
  rw [misI_of H6.out] at he o7
  subst he
  have o7' : w7.ownsRow w6.heap.size 2 1 (.slice a7 1 c7) 1 [.int .i64 6] := o7
  obtain ⟨gm, cap2, hv, -, -, hcell, hcap2⟩ := own_some o7'
  injection hv with hva hvb hvc
  clear hvb
  subst hva hvc
  have x1 : w7.cell? ⟨gm, 0, none⟩ = some (.int .i64 6) := hcell 0 _ rfl
  have lh7 := Below.blk b7 LH6.out (lt_of_block LH6.out)
  have x2 : w7.cell? ⟨gl, 0, none⟩ = some (.int .u16 6) := by rw [cell_blk lh7]; exact C6.out
  have x3 : w7.cell? ⟨gl, 1, none⟩ = some (.int .u16 1) := by rw [cell_blk lh7]; exact C7.out
  have B7 : Hid (Below B w w7) := Lib.hid (B6.out.trans (b7.mono S6.out))
  clear hcell o7 o7' b7 lh7 hcap2 hcap H2 K2 H3 K3 H4 K4 H5 K5 H6 K6 LH LH6 O4 C6 C7
  simp only [List.map_cons, List.map_nil, List.length_cons, List.length_nil, Nat.zero_add]
  go_wp2_with fail
  go_ret
  exact ⟨rfl, B7.out⟩
set_option maxHeartbeats 2000000 in
theorem LossesNone.walk (i tick : Int) (w : World) (hi : (Lit.int .i64 i).wf = true) (ht : (Lit.int .i64 tick).wf = true) :
    Calls Try.prog 4 #[.int .i64 i, .int .i64 tick] w fun e w' => e = .returned (.bool true) ∧ Below w.heap.size w w' := by
  clear hi ht
  go_enter Try.func4, Try.ntmps4
  go_wp2_with fail
  refine (alive20_any w).mono ?_
  rintro e w1 ⟨rfl, b1⟩
  have B1 := Lib.hid b1
  clear b1
  go_wp2_with fail
  refine (came_nil i tick w1).mono ?_
  rintro e w2 ⟨rfl, b2⟩
  have B2 := Lib.hid (B1.out.trans (b2.mono B1.out.size))
  clear b2
  go_wp2_with fail
  refine (miss_nil w2).mono ?_
  rintro e w' ⟨rfl, rfl⟩
  go_wp2_with fail
  refine (ask_nil tick w2).mono ?_
  rintro e w3 ⟨rfl, b3⟩
  have B3 := Lib.hid (B2.out.trans (b3.mono B2.out.size))
  clear b3
  go_wp2_with fail
  go_ret
  exact ⟨rfl, B3.out⟩
end Go.Proofs.Ytdmbdageohjodaa
