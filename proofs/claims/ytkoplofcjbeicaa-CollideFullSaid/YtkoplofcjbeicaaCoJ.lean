/-
  Chapter 44: slices.IndexFunc, DeleteFunc and MinFunc over places, in the ways that are asked here.
-/
import Derived.Test.YtkoplofcjbeicaaCoC
import Derived.Test.YtkoplofcjbeicaaClr
import Derived.Laws.IdiomCopy
namespace Go.Proofs.Ytkoplofcjbeicaa
open Go.RowKit
set_option linter.unusedVariables false
set_option linter.unusedSimpArgs false
attribute [local irreducible] wpStill wpQuiet MixC.wpMix

/-- places in a row -/
structure TRow (w : World) (b n c : Nat) (P : Nat → Plc) : Prop where
  le : n ≤ c
  max : c ≤ 9223372036854775807
  lt : b < w.heap.size
  cell : ∀ i, i < n → w.cell? ⟨b, i * 2, none⟩ = some (.int .u32 (P i).1) ∧ w.cell? ⟨b, i * 2 + 1, none⟩ = some (.int .u16 (P i).2)
  fr : ∀ t, t < n * 2 → w.frozen? ⟨b, t, none⟩ = false
theorem TRow.keep {w w' : World} {b n c : Nat} {P : Nat → Plc} (h : TRow w b n c P) (k : Below w.heap.size w w') : TRow w' b n c P :=
  ⟨h.le, h.max, Nat.lt_of_lt_of_le h.lt k.size, fun i hi => ⟨Below.cell' k h.lt (h.cell i hi).1, Below.cell' k h.lt (h.cell i hi).2⟩, fun t ht => by
    rw [World.frozen?_of_block (k.block b h.lt)]; exact h.fr t ht⟩
set_option maxRecDepth 100000 in
set_option maxHeartbeats 4000000 in
theorem idx44 (f : Nat) (caps : Array Value) (q : Nat → Bool) (b n c : Nat) (P : Nat → Plc) (w : World) (h : TRow w b n c P) (hn : n ≤ 1000)
    (he : ∀ (v : Value) (W : World), (callFunc f (#[v] ++ caps)).run Try.prog W = .ok (.enter f (#[v] ++ caps)) W)
    (hcl : ∀ i, i < n → ∀ W, Below w.heap.size w W → Calls Try.prog f (#[.agg #[.int .u32 (P i).1, .int .u16 (P i).2]] ++ caps) W fun e w' => e = .returned (.bool (q i)) ∧ Below W.heap.size W w') :
    Calls Try.prog 86 #[.slice (some ⟨b, 0, none⟩) n c, .func (.func f) #[] caps] w fun e w' =>
      Below w.heap.size w w' ∧ ((e = .returned (.int .i64 (-1)) ∧ ∀ i, i < n → q i = false) ∨ ∃ k, k < n ∧ e = .returned (.int .i64 (k : Nat)) ∧ q k = true ∧ ∀ i, i < k → q i = false) := by
  have H := Lib.hid h
  have HCL := Lib.hid hcl
  have hle := h.le
  have hmx := h.max
  clear h hcl
  go_enter Try.func86, Try.ntmps86
  go_wp2_with fail
  go_loopw [8] (fun s8 wx => ∃ i : Nat, i ≤ n ∧ s8 = .int .i64 i ∧ Hid (∀ j, j < i → q j = false) ∧ Hid (Below w.heap.size w wx)) (fun s8 _ => n - (intOf s8).toNat)
  case atStart => exact ⟨0, by omega, rfl, Lib.hid (fun j hj => by omega), Lib.hid (Below.refl _ _)⟩
  case round =>
    obtain ⟨i, hi, rfl, HQ, HB⟩ := hrel
    by_cases hlt : i < n
    · have t1 : decide ((i : Int) < (n : Int)) = true := by simp; omega
      obtain ⟨y0, y1⟩ := (H.out.keep HB.out).cell i hlt
      have HC := Lib.hid (HCL.out i hlt wr HB.out)
      generalize P i = p at *
      obtain ⟨p1, p2⟩ := p
      obtain ⟨qi, hqi⟩ : ∃ x, x = q i := ⟨_, rfl⟩
      rw [← hqi] at HC
      have HQI := Lib.hid hqi
      clear hqi
      go_wp2_with fail
      refine HC.out.mono ?_
      rintro e w2 ⟨rfl, b2⟩
      have HB2 := Lib.hid (HB.out.trans (b2.mono HB.out.size))
      clear b2 y0 y1 HC
      cases qi with
      | true =>
        go_wp2_with fail
        go_ret
        exact ⟨HB2.out, .inr ⟨i, hlt, rfl, HQI.out.symm, HQ.out⟩⟩
      | false =>
        have HQ2 : Hid (∀ j, j < i + 1 → q j = false) := Lib.hid fun j hj => by
          by_cases e : j = i
          · rw [e]; exact HQI.out.symm
          · exact HQ.out j (by omega)
        go_wp2_with fail
        go_roundw
        case rel => exact ⟨i + 1, by omega, by go_num, HQ2, HB2⟩
        case measure => simp [intOf] <;> omega
    · obtain rfl : n = i := by omega
      go_wp2_with fail
      go_ret
      exact ⟨HB.out, .inl ⟨rfl, HQ.out⟩⟩
/-- IndexFunc on nothing -/
theorem idx44_nil (f : Value) (w : World) : Calls Try.prog 86 #[.slice none 0 0, f] w fun e w' => Below w.heap.size w w' ∧ e = .returned (.int .i64 (-1)) := by
  go_enter Try.func86, Try.ntmps86
  go_wp2_with fail
  go_rounds 1
  go_wp2_with fail
  go_ret
  exact ⟨Below.refl _ _, rfl⟩
theorem del44_nil (f : Value) (w : World) : Calls Try.prog 67 #[.slice none 0 0, f] w fun e w' => Below w.heap.size w w' ∧ e = .returned (.slice none 0 0) := by
  go_enter Try.func67, Try.ntmps67
  go_wp2_with fail
  refine (idx44_nil f w).mono ?_
  rintro e w1 ⟨b1, rfl⟩
  go_wp2_with fail
  go_ret
  exact ⟨b1, rfl⟩
/-- none goes -/
theorem del44_none (f : Nat) (caps : Array Value) (b n c : Nat) (P : Nat → Plc) (w : World) (h : TRow w b n c P) (hn : n ≤ 1000)
    (he : ∀ (v : Value) (W : World), (callFunc f (#[v] ++ caps)).run Try.prog W = .ok (.enter f (#[v] ++ caps)) W)
    (hcl : ∀ i, i < n → ∀ W, Below w.heap.size w W → Calls Try.prog f (#[.agg #[.int .u32 (P i).1, .int .u16 (P i).2]] ++ caps) W fun e w' => e = .returned (.bool false) ∧ Below W.heap.size W w') :
    Calls Try.prog 67 #[.slice (some ⟨b, 0, none⟩) n c, .func (.func f) #[] caps] w fun e w' => Below w.heap.size w w' ∧ e = .returned (.slice (some ⟨b, 0, none⟩) n c) := by
  have HI := Lib.hid (idx44 f caps (fun _ => false) b n c P w h hn he hcl)
  clear h hcl he
  go_enter Try.func67, Try.ntmps67
  go_wp2_with fail
  refine HI.out.mono ?_
  rintro e w1 ⟨b1, ⟨rfl, -⟩ | ⟨k, -, -, hq, -⟩⟩
  · go_wp2_with fail
    go_ret
    exact ⟨b1, rfl⟩
  · cases hq
theorem zeroTup (W : World) : (zeroValue 43).run Try.prog W = .ok (.agg #[.int .u32 0, .int .u16 0]) W := by kernel_rfl
theorem sizeTup (W : World) : (sizeOf 43).run Try.prog W = .ok 2 W := by kernel_rfl
set_option maxRecDepth 100000 in
set_option maxHeartbeats 4000000 in
/-- the last one goes -/
theorem del44_last (f : Nat) (caps : Array Value) (q : Nat → Bool) (b n c : Nat) (P : Nat → Plc) (w : World) (h : TRow w b (n + 1) c P) (hn : n + 1 ≤ 1000) (hq : ∀ i, i < n + 1 → q i = decide (i = n))
    (he : ∀ (v : Value) (W : World), (callFunc f (#[v] ++ caps)).run Try.prog W = .ok (.enter f (#[v] ++ caps)) W)
    (hcl : ∀ i, i < n + 1 → ∀ W, Below w.heap.size w W → Calls Try.prog f (#[.agg #[.int .u32 (P i).1, .int .u16 (P i).2]] ++ caps) W fun e w' => e = .returned (.bool (q i)) ∧ Below W.heap.size W w') :
    Calls Try.prog 67 #[.slice (some ⟨b, 0, none⟩) (n + 1) c, .func (.func f) #[] caps] w fun e w' => But (some b) w w' ∧ TRow w' b n c P ∧ e = .returned (.slice (some ⟨b, 0, none⟩) n c) := by
  have HI := Lib.hid (idx44 f caps q b (n + 1) c P w h hn he hcl)
  have HQ := Lib.hid hq
  have H := Lib.hid h
  have hle := h.le
  have hmx := h.max
  clear h hcl he hq
  go_enter Try.func67, Try.ntmps67
  go_wp2_with fail
  refine HI.out.mono ?_
  rintro e w1 ⟨b1, ⟨rfl, hno⟩ | ⟨k, hk, rfl, hq, -⟩⟩
  · have := HQ.out n (by omega)
    rw [hno n (by omega)] at this
    simp at this
  · obtain rfl : k = n := by
      have := HQ.out k hk
      rw [hq] at this
      simpa using this.symm
    have H1 := Lib.hid (H.out.keep b1)
    have B1 := Lib.hid b1
    clear hk hq b1 HI
    have hne1 : ((k : Int) == -1) = false := by simp
    have hne2 : ((k : Int) = -1) = False := eq_false (by omega)
    obtain ⟨m, hm⟩ : ∃ m, m = k + 1 := ⟨_, rfl⟩
    have hmk : (k : Int) + 1 = (m : Int) := by omega
    rw [← hm]
    have hsl : ∀ W, (Instr.slice 68 (.slice (some ⟨b, 0, none⟩) m c) (some (.int .i64 k)) none none).run Try.prog W = .ok (.slice (some ⟨b, k * 2, none⟩) 1 (c - k)) W := fun W => by
      rw [sl_from Try.underlying68 sizeTup _ m c k (by omega), if_neg (by omega), show m - k = 1 by omega]
      simp [addr_add]
    have hsu : ∀ W, (Instr.slice 68 (.slice (some ⟨b, 0, none⟩) m c) none (some (.int .i64 k)) none).run Try.prog W = .ok (.slice (some ⟨b, 0, none⟩) k c) W := fun W => by
      rw [sl_upto Try.underlying68 sizeTup _ m c k (by omega), if_neg (by omega)]
      simp [addr_add]
    obtain ⟨z9, hzl, hclr0⟩ := run_clear_wide (P := Try.prog) 68 43 (.agg #[.int .u32 0, .int .u16 0]) Try.underlying68 zeroTup (by decide) (fun t ht => by
      have ht2 : t < 2 := ht
      rcases (by omega : t = 0 ∨ t = 1) with rfl | rfl <;> rfl) b (k * 2) 1 (c - k) (by omega)
    have hcs : ∀ t, t < 1 * 2 → (w1.cell? ⟨b, k * 2 + t, none⟩).isSome = true ∧ w1.frozen? ⟨b, k * 2 + t, none⟩ = false := fun t ht => by
      refine ⟨?_, H1.out.fr _ (by omega)⟩
      rcases (by omega : t = 0 ∨ t = 1) with rfl | rfl
      · rw [Nat.add_zero, (H1.out.cell k (by omega)).1]; rfl
      · rw [(H1.out.cell k (by omega)).2]; rfl
    have hclr := hclr0 w1 (fun t ht => (hcs t ht).1) (fun t ht => (hcs t ht).2)
    have hbut : But (some b) w (w1.setCells b (k * 2) z9) := setC_but b z9 (k * 2) w1 w (But.of_below B1.out)
    have hrow : TRow (w1.setCells b (k * 2) z9) b k c P := ⟨by omega, hmx, by
        have := H.out.lt; have := hbut.size; omega, fun i hi => by
        obtain ⟨h1, h2⟩ := H1.out.cell i (by omega)
        rw [World.cell?_setCells_out b z9 _ _ _ (fun _ _ => .inl (by show i * 2 < k * 2; omega)), World.cell?_setCells_out b z9 _ _ _ (fun _ _ => .inl (by show i * 2 + 1 < k * 2; omega))]
        exact ⟨h1, h2⟩, fun t ht => by
        rw [World.frozen?_setCells]; exact H1.out.fr t (by omega)⟩
    have HBUT := Lib.hid hbut
    have HROW := Lib.hid hrow
    have HM := Lib.hid hm
    have hkc : (k : Int) ≤ c := by omega
    have hkm : (k : Int) ≤ m := by omega
    clear hclr0 hcs hzl hbut hrow hm H1 hle
    go_wp2_with fail
    go_rounds 1
    go_wp2_with fail
    go_ret
    exact ⟨HBUT.out, HROW.out, rfl⟩
end Go.Proofs.Ytkoplofcjbeicaa
