/-
  Chapter 12: the document's example; the law StunReads.
-/
import Derived.Test.YtkoplofcjbeicaaStJ
namespace Go.Proofs.Ytkoplofcjbeicaa
open Go.RowKit
set_option linter.unusedVariables false
set_option linter.unusedSimpArgs false
attribute [local irreducible] wpStill wpQuiet MixC.wpMix
attribute [local go_sem] MixC.rdOp MixC.rd MixC.rdUpon MixC.mvUpon

def z12 : Nat → Int := fun _ => 0
theorem wr_len (T : Int) (x : Nat → Int) (l : List Con) : (wrM T (zs x 12) l).length = 20 + (bodA l).length := by
  unfold wrM
  rw [List.length_append, headW_len _ _ _ (zs_len _ _)]
theorem cons_zero (Q : Nat → At) : cons Q 0 = [] := rfl
theorem make8 (W : World) : (Instr.makeSlice 22 (.int .i64 8) (.int .i64 8)).run Try.prog W = .ok (.slice (some ⟨W.heap.size, 0, none⟩) 8 8) (W.alloc (.cells #[.int .u8 0, .int .u8 0, .int .u8 0, .int .u8 0, .int .u8 0, .int .u8 0, .int .u8 0, .int .u8 0] 5)) := by
  obtain ⟨i0, hi, hz0, hz1, hz2⟩ := info_parts infoU8
  have h := run_makeSlice (P := Try.prog) W 22 5 i0 (.int .u8 0) Try.underlying22 hi hz0 .i64 .i64 8 8 (by omega) (Int.le_refl _) (by rw [hz1]; decide) (by rw [hz2]; decide) (by omega)
  rw [hz1] at h
  have e : madeCells (Value.int .u8 0).cells (Int.toNat 8 * 1) = #[.int .u8 0, .int .u8 0, .int .u8 0, .int .u8 0, .int .u8 0, .int .u8 0, .int .u8 0, .int .u8 0] := by
    apply Array.ext
    · simp [madeCells]
    · intro i h1 h2
      have h8 : i < 8 := h2
      rcases (by omega : i = 0 ∨ i = 1 ∨ i = 2 ∨ i = 3 ∨ i = 4 ∨ i = 5 ∨ i = 6 ∨ i = 7) with rfl | rfl | rfl | rfl | rfl | rfl | rfl | rfl <;> simp [madeCells, Value.cells]
  rw [e] at h
  exact h
set_option maxRecDepth 100000 in
set_option maxHeartbeats 4000000 in
theorem alive12_any (w : World) : Calls Try.prog 11 #[] w fun e w' => e = .returned (.bool true) ∧ Below w.heap.size w w' := by
  have HW1 := Lib.hid (write12_any 1 z12 none 0 0 (fun _ => default) w (by decide) (fun i hi => by unfold z12; omega) (Ats.nil _ _))
  go_enter Try.func11, Try.ntmps11
  go_wp2_with fail
  refine HW1.out.mono ?_
  rintro e w1 ⟨b1, ⟨-, a1, n1, c1, rfl, l1⟩ | ⟨hno, -⟩⟩
  case inr => exact absurd ⟨by decide, by omega, fun i hi => by omega⟩ hno
  have hn1 : n1 = 20 := by rw [l1.len, wr_len]; rfl
  subst hn1
  rw [cons_zero] at l1
  have B1 := Lib.hid b1
  have L1 := Lib.hid l1
  clear b1 l1 HW1
  have hmk := make8
  go_wp2_with fail
  clear hmk
  obtain ⟨W2, hW2⟩ : ∃ W2, (w1.alloc (.cells #[.int .u8 0, .int .u8 0, .int .u8 0, .int .u8 0, .int .u8 0, .int .u8 0, .int .u8 0, .int .u8 0] 5)).alloc (.cells #[.int .u16 9, .slice (some ⟨w1.heap.size, 0, none⟩) 8 8] 75) = W2 := ⟨_, rfl⟩
  obtain ⟨g, hg⟩ : ∃ g, w1.heap.size = g := ⟨_, rfl⟩
  rw [hW2, hg]
  have b2 : Below w1.heap.size w1 W2 := by rw [← hW2]; exact ((Below.refl _ _).alloc (Nat.le_refl _) _).alloc (by simp [World.size_alloc]) _
  have k1 : W2.heap[g]? = some (.cells #[.int .u8 0, .int .u8 0, .int .u8 0, .int .u8 0, .int .u8 0, .int .u8 0, .int .u8 0, .int .u8 0] 5 (0, 0)) := by
    rw [← hW2, ← hg, alloc_blk_old (by simp [World.size_alloc])]
    exact alloc_blk_new
  have k2 : W2.heap[g + 1]? = some (.cells #[.int .u16 9, .slice (some ⟨g, 0, none⟩) 8 8] 75 (0, 0)) := by
    rw [← hW2, ← hg]
    have := alloc_blk_new (w := w1.alloc (.cells #[.int .u8 0, .int .u8 0, .int .u8 0, .int .u8 0, .int .u8 0, .int .u8 0, .int .u8 0, .int .u8 0] 5)) (o := .cells #[.int .u16 9, .slice (some ⟨w1.heap.size, 0, none⟩) 8 8] 75)
    rw [World.size_alloc] at this
    exact this
  have hats : Ats W2.heap.size W2 (some ⟨g + 1, 0, none⟩) 1 1 (fun _ => (⟨9, some ⟨g, 0, none⟩, 8, 8, z12⟩ : At)) := ⟨Nat.le_refl _, by omega, fun i hi => ⟨by show (0 : Int) ≤ 9; decide, by show (9 : Int) ≤ 65535; decide, ⟨Nat.le_refl _, by show (8 : Nat) ≤ 9223372036854775807; decide, fun j hj => by show (0 : Int) ≤ 0 ∧ (0 : Int) ≤ 255; decide, g, 0, fun _ => ⟨rfl, lt_of_block k1⟩, fun j hj => by
      have hj8 : j < 8 := hj
      rw [cell_blk k1]
      rcases (by omega : j = 0 ∨ j = 1 ∨ j = 2 ∨ j = 3 ∨ j = 4 ∨ j = 5 ∨ j = 6 ∨ j = 7) with rfl | rfl | rfl | rfl | rfl | rfl | rfl | rfl <;> rfl⟩⟩, g + 1, 0, fun _ => ⟨rfl, lt_of_block k2⟩, fun i hi => by
    obtain rfl : i = 0 := by omega
    exact ⟨cell_blk k2, cell_blk k2⟩⟩
  have HW2 := Lib.hid (write12_any 1 z12 (some ⟨g + 1, 0, none⟩) 1 1 _ W2 (by decide) (fun i hi => by unfold z12; omega) hats)
  have B2 := Lib.hid (B1.out.trans (b2.mono B1.out.size))
  have L2 := Lib.hid (L1.out.keep b2)
  clear hW2 hg b2 k1 k2 hats
  refine HW2.out.mono ?_
  rintro e w3 ⟨b3, ⟨-, a3, n3, c3, rfl, l3⟩ | ⟨hno, -⟩⟩
  case inr => exact absurd ⟨by decide, by omega, fun i hi => by show (8 : Nat) ≤ 255; decide⟩ hno
  have hc1 : cons (fun _ => (⟨9, some ⟨g, 0, none⟩, 8, 8, z12⟩ : At)) 1 = [(9, zs z12 8)] := rfl
  rw [hc1] at l3
  have hn3 : n3 = 32 := by rw [l3.len, wr_len]; rfl
  subst hn3
  have B3 := Lib.hid (B2.out.trans (b3.mono B2.out.size))
  have L3 := Lib.hid l3
  have L31 := Lib.hid (L2.out.keep b3)
  clear b3 l3 HW2 hc1
  have HA1 := Lib.hid (answer12_any w3.heap.size a1 20 c1 _ 0 0 w3 L31.out.bs (Nat.le_refl _) (by omega) (by decide) (by decide))
  go_wp2_with fail
  refine HA1.out.mono ?_
  rintro e w4 ⟨b4, ⟨hab, -⟩ | ⟨-, rfl⟩⟩
  case inl => exact absurd hab.2.2 (by omega)
  have B4 := Lib.hid (B3.out.trans (b4.mono B3.out.size))
  have L4 := Lib.hid (L3.out.keep b4)
  clear b4 HA1
  have HA2 := Lib.hid (answer12_any w4.heap.size a3 32 c3 _ 1 2 w4 L4.out.bs (Nat.le_refl _) (by omega) (by decide) (by decide))
  go_wp2_with fail
  refine HA2.out.mono ?_
  rintro e w5 ⟨b5, ⟨-, a5, c5, rfl, -⟩ | ⟨hno, -⟩⟩
  case inr =>
    exfalso
    obtain ⟨ks, h1, -, h3, -⟩ := read_back12 (T := 1) (tx := zs z12 12) (l := [(9, zs z12 8)]) (by decide) (zs_len _ _) (by decide) (fun c hc => by
      rw [List.mem_singleton.1 hc]
      exact ⟨by show (0 : Int) ≤ 9; decide, by show (9 : Int) ≤ 65535; decide, by decide, fun y hy => by
        obtain ⟨i, -, rfl⟩ := List.mem_map.1 hy
        show (0 : Int) ≤ 0 ∧ (0 : Int) ≤ 255
        decide⟩) (by rw [cons_bod, List.length_append, enc_len]; decide)
    rw [← L4.out.len] at h1
    exact hno ⟨⟨ks, h1⟩, h3, Nat.le_refl _⟩
  have B5 := Lib.hid (B4.out.trans (b5.mono B4.out.size))
  clear b5 HA2
  go_wp2_with fail
  go_ret
  exact ⟨rfl, B5.out⟩
/-- what was read twice is the same -/
theorem same_read {Z : Nat → Int} {l l' : List AtE} (h : l.map (fun y => shK 20 y.key) = l'.map AtE.key) (hz : ∀ y ∈ l, y.e.Z = shA (shA Z 20) y.st) (hz' : ∀ y ∈ l', y.e.Z = shA Z y.st) : l.length = l'.length ∧ ∀ i, i < l.length → EqvA (lA l i) (lA l' i) := by
  have hl : l.length = l'.length := by have := congrArg List.length h; simpa using this
  refine ⟨hl, fun i hi => ?_⟩
  have hk := congrArg (fun q => q[i]?) h
  simp only [List.getElem?_map, List.getElem?_eq_getElem hi, List.getElem?_eq_getElem (show i < l'.length by omega), Option.map_some, Option.some.injEq] at hk
  rw [lA_get l i hi, lA_get l' i (by omega)]
  have z1 := hz _ (List.getElem_mem hi)
  have z2 := hz' _ (List.getElem_mem (show i < l'.length by omega))
  refine eqvA_con ?_
  have c1 : (l[i]).e.con = conA Z (shK 20 (l[i]).key) := by
    rw [conA_sh]
    show (_, zs (l[i]).e.Z (l[i]).e.n) = (_, _)
    rw [z1]
    rfl
  have c2 : (l'[i]).e.con = conA Z (l'[i]).key := by
    show (_, zs (l'[i]).e.Z (l'[i]).e.n) = (_, _)
    rw [z2]
    rfl
  rw [c1, c2, hk]
theorem readM_det {Z : Nat → Int} {n : Nat} {k1 k2 : List Key} (h1 : readM Z n k1) (h2 : readM Z n k2) : k1 = k2 := by
  have := h1.2.2.2.1.symm.trans h2.2.2.2.1
  exact congrArg Prod.fst this
theorem okA_of {Z : Nat → Int} {n : Nat} {y : AtE} (hz : y.e.Z = shA Z y.st) (hb : ∀ i, i < y.e.n → 0 ≤ Z (y.st + i) ∧ Z (y.st + i) ≤ 255) (h : 0 ≤ y.e.t ∧ y.e.t ≤ 65535 ∧ y.e.n ≤ 255) : OkA y.e := ⟨h.1, h.2.1, by have := h.2.2; omega, fun i hi => by rw [hz]; exact hb i hi⟩
end Go.Proofs.Ytkoplofcjbeicaa
