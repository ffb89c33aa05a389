/-
  Chapter 47: what stays true of a roster; the example; the law RosterSame.
-/
import Derived.Test.YtihbceippcgfgaaRoE
namespace Go.Proofs.Ytihbceippcgfgaa
open Go.RowKit
set_option linter.unusedVariables false
set_option linter.unusedSimpArgs false
attribute [local irreducible] wpStill wpQuiet MixC.wpMix
attribute [local go_sem] MixC.rdOp MixC.rd MixC.rdUpon MixC.mvUpon

structure RoI (s : RoS) (n : Nat) (p K T : Int) : Prop where
  n : s.n = n
  p : s.p = p
  ve : ∀ o, 0 ≤ s.ve o ∧ s.ve o ≤ K
  ti : ∀ a o, 0 ≤ s.ti a o ∧ s.ti a o ≤ T
theorem RoI.start (n : Nat) (p : Int) : RoI (roS0 n p) n p 0 0 := ⟨rfl, rfl, fun o => ⟨Int.le_refl _, Int.le_refl _⟩, fun a o => ⟨Int.le_refl _, Int.le_refl _⟩⟩
theorem RoI.mono {s : RoS} {n : Nat} {p K T K' T' : Int} (h : RoI s n p K T) (hK : K ≤ K') (hT : T ≤ T') : RoI s n p K' T' := ⟨h.n, h.p, fun o => by have := h.ve o; omega, fun a o => by have := h.ti a o; omega⟩
theorem RoI.set {s : RoS} {n : Nat} {p K T : Int} (h : RoI s n p K T) (x : Nat) (t : ByteArray) : RoI (setF s x t) n p (K + 1) T := by
  unfold setF
  split
  · exact h.mono (by omega) (Int.le_refl _)
  · refine ⟨h.n, h.p, fun o => ?_, h.ti⟩
    show 0 ≤ upd1 s.ve x (s.ve x + 1) o ∧ upd1 s.ve x (s.ve x + 1) o ≤ K + 1
    unfold upd1
    have h1 := h.ve o
    have h2 := h.ve x
    split <;> omega
theorem RoI.tell {s : RoS} {n : Nat} {p K T : Int} (h : RoI s n p K T) (x : Nat) (tick : Int) (L : List Nat) (h0 : 0 ≤ tick) (hT : tick ≤ T) : RoI (tellS s x tick L) n p K T := by
  refine ⟨h.n, h.p, h.ve, fun a o => ?_⟩
  unfold tellS
  simp only
  have := h.ti a o
  split <;> omega
theorem RoI.known {s : RoS} {n : Nat} {p K T : Int} (h : RoI s n p K T) (x o : Nat) (v : Int) : RoI (knownF s x o v) n p K T := ⟨h.n, h.p, h.ve, h.ti⟩
def xB : ByteArray := ⟨#[120]⟩
def a1 : RoS := setF (roS0 2 5) 0 xB
def a2 : RoS := tellS a1 1 0 (othL a1 1)
def a3 : RoS := tellS a2 1 4 (othL a2 1)
def a4 : RoS := tellS a3 1 5 (othL a3 1)
def a5 : RoS := knownF a4 1 0 1
theorem ea1 : a1.ve 0 = 1 ∧ a1.tx 0 = xB := by constructor <;> kernel_rfl
theorem ea2 : tellL a1 1 0 (othL a1 1) = [0] := by kernel_rfl
theorem ea3 : tellL a2 1 4 (othL a2 1) = [] := by kernel_rfl
theorem ea4 : tellL a3 1 5 (othL a3 1) = [0] := by kernel_rfl
theorem ea5 : a4.kn 1 0 = 0 ∧ a4.ve 0 = 1 := by constructor <;> kernel_rfl
theorem ea6 : tellL a5 1 99 (othL a5 1) = [] := by kernel_rfl
theorem nv0 (s : RoS) (o : Nat) : noteV s [o] = [.int .i64 o, .int .i64 (s.ve o), .string (s.tx o)] := rfl
theorem i1 : RoI a1 2 5 1 0 := (RoI.start 2 5).set 0 xB
theorem i2 : RoI a2 2 5 1 0 := i1.tell _ _ _ (by omega) (by omega)
theorem i3 : RoI a3 2 5 1 4 := (i2.mono (Int.le_refl _) (by omega)).tell _ _ _ (by omega) (by omega)
theorem i4 : RoI a4 2 5 1 5 := (i3.mono (Int.le_refl _) (by omega)).tell _ _ _ (by omega) (by omega)
theorem i5 : RoI a5 2 5 1 5 := i4.known _ _ _
theorem RoI.tellP {s : RoS} {n : Nat} {p K T : Int} (h : RoI s n p K T) (hT : T ≤ 1000000000) (x : Nat) : ∀ o, o < s.n → 0 ≤ s.ti x o ∧ s.ti x o ≤ 1000000000 := fun o _ => by have := h.ti x o; omega
set_option maxRecDepth 100000 in
set_option maxHeartbeats 4000000 in
theorem alive47_any (w : World) : Calls Try.prog 40 #[] w fun e w' => e = .returned (.bool true) ∧ Below w.heap.size w w' := by
  obtain ⟨B, hB⟩ : ∃ B, w.heap.size = B := ⟨_, rfl⟩
  have HB := Lib.hid hB
  rw [hB]
  clear hB
  go_enter Try.func40, Try.ntmps40
  go_wp2_with fail
  refine (new47_any 2 5 w (by omega) (by omega) (by omega) B (by rw [HB.out]; exact Nat.le_refl _)).mono ?_
  rintro e w1 ⟨g, rfl, m1, b1⟩
  rw [HB.out] at b1
  have M1 := Lib.hid m1
  have B1 := Lib.hid b1
  have S1 : Hid (B ≤ w1.heap.size) := Lib.hid (by have := b1.size; have := HB.out; omega)
  clear m1 b1
  go_wp2_with fail
  refine (set_any M1.out 0 xB (by decide) (by decide) (by decide)).mono ?_
  rintro e w2 ⟨rfl, m2, b2⟩
  rw [show (setF (roS0 2 5) 0 xB).ve 0 = 1 from ea1.1]
  have M2 : Hid (RoM B g a1 w2) := Lib.hid m2
  have B2 := Lib.hid (B1.out.trans b2)
  have S2 : Hid (B ≤ w2.heap.size) := Lib.hid (by have := b2.size; have := S1.out; omega)
  clear m2 b2
  go_wp2_with fail
  refine (tell_any B g a1 w2 M2.out S2.out 1 0 (by decide) (by decide) (by omega) (i1.tellP (by omega) 1)).mono ?_
  rintro e w3 ⟨xa, xc, rfl, o3, m3, b3, -⟩
  rw [ea2] at o3 ⊢
  rw [nv0, ea1.1, ea1.2] at o3
  have O3 : Hid (w3.ownsRow 0 83 3 (.slice xa 1 xc) 1 [.int .i64 0, .int .i64 1, .string xB]) := Lib.hid o3
  have M3 : Hid (RoM B g a2 w3) := Lib.hid m3
  have B3 := Lib.hid (B2.out.trans b3)
  have S3 : Hid (B ≤ w3.heap.size) := Lib.hid (by have := b3.size; have := S2.out; omega)
  clear m3 b3 o3
  go_wp2_with fail
  refine (tell_any B g a2 w3 M3.out S3.out 1 4 (by decide) (by decide) (by omega) (i2.tellP (by omega) 1)).mono ?_
  rintro e w4 ⟨ya, yc, rfl, -, m4, b4, f4⟩
  rw [ea3]
  have M4 : Hid (RoM B g a3 w4) := Lib.hid m4
  have O4 := Lib.hid (f4.own O3.out (by decide))
  have B4 := Lib.hid (B3.out.trans b4)
  have S4 : Hid (B ≤ w4.heap.size) := Lib.hid (by have := b4.size; have := S3.out; omega)
  clear m4 b4 f4
  go_wp2_with fail
  refine (tell_any B g a3 w4 M4.out S4.out 1 5 (by decide) (by decide) (by omega) (i3.tellP (by omega) 1)).mono ?_
  rintro e w5 ⟨za, zc, rfl, -, m5, b5, f5⟩
  rw [ea4]
  have M5 : Hid (RoM B g a4 w5) := Lib.hid m5
  have O5 := Lib.hid (f5.own O4.out (by decide))
  have B5 := Lib.hid (B4.out.trans b5)
  have S5 : Hid (B ≤ w5.heap.size) := Lib.hid (by have := b5.size; have := S4.out; omega)
  clear m5 b5 f5
  go_wp2_with fail
  refine (known_any B g a4 w5 M5.out 1 0 1 (by decide) (by decide) (by decide) (by rw [ea5.1]; decide) (by rw [ea5.2]; decide)).mono ?_
  rintro e w6 ⟨rfl, m6, b6, f6⟩
  have M6 : Hid (RoM B g a5 w6) := Lib.hid m6
  have f6' : TyB 154 w5 w6 := f6
  have O6 := Lib.hid (f6'.own O5.out (by decide))
  have B6 := Lib.hid (B5.out.trans b6)
  have S6 : Hid (B ≤ w6.heap.size) := Lib.hid (by have := b6.size; have := S5.out; omega)
  clear m6 b6 f6 f6'
  go_wp2_with fail
  refine (tell_any B g a5 w6 M6.out S6.out 1 99 (by decide) (by decide) (by omega) (i5.tellP (by omega) 1)).mono ?_
  rintro e w7 ⟨ua, uc, rfl, -, m7, b7, f7⟩
  rw [ea6]
  have O7 := f7.own O6.out (by decide)
  have B7 := Lib.hid (B6.out.trans b7)
  obtain ⟨ga, hga⟩ : ∃ b, xa = some ⟨b, 0, none⟩ := by
    rcases O7.2 with ⟨hv, h0⟩ | ⟨b, cap, cur, hv, _⟩
    · cases h0
    · injection hv with h1; exact ⟨b, h1⟩
  subst hga
  have c0 : w7.cell? ⟨ga, 0, none⟩ = some (.int .i64 0) := own_cell O7 (j := 0) rfl
  have c1 : w7.cell? ⟨ga, 1, none⟩ = some (.int .i64 1) := own_cell O7 (j := 1) rfl
  have c2 : w7.cell? ⟨ga, 2, none⟩ = some (.string xB) := own_cell O7 (j := 2) rfl
  have hcap : 1 ≤ xc := by
    rcases O7.2 with ⟨hv, h0⟩ | ⟨b, cap, cur, hv, _, _, hn, _⟩
    · cases h0
    · injection hv with _ _ h3; omega
  clear m7 b7 f7 O7
  unfold xB at c2
  go_wp2_with fail
  go_ret
  exact ⟨rfl, B7.out⟩
end Go.Proofs.Ytihbceippcgfgaa
