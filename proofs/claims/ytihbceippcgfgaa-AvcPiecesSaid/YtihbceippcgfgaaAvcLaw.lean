/-
  Key of chapter 14 and the walk of AvcPieces.
-/
import Derived.Test.YtihbceippcgfgaaAvc
namespace Go.Proofs.Ytihbceippcgfgaa
open Go.RowKit
set_option linter.unusedVariables false
set_option linter.unusedSimpArgs false

theorem key_one (b off len cap : Nat) (z : Int) (w : World) (hc : w.cell? ⟨b, off, none⟩ = some (.int .u8 z)) (hz : 0 ≤ z ∧ z ≤ 255) (hl : 1 ≤ len) (hm : len ≤ 9223372036854775807) (ht : 1 ≤ z % 32 ∧ z % 32 ≤ 23) :
    Calls Try.prog 47 #[.slice (some ⟨b, off, none⟩) len cap] w fun e w' => e = .returned (.bool (isKey (z % 32))) ∧ Below w.heap.size w w' := by
  have hb := World.block_lt_of_cell? _ _ hc
  have HU := Lib.hid (units_one b off len cap z w hc hz hl hm ht)
  have HT := Lib.hid (fun W => typ_any z W hz)
  generalize z % 32 = t at *
  have e2 : (t == 28) = false := by simp; omega
  have hl0 : (0 : Int) < (len : Int) := by omega
  go_enter Try.func47, Try.ntmps47
  go_wp2_with fail
  refine HU.out.mono ?_
  rintro e w1 ⟨rfl, hk, hb1⟩
  have hc1 := Below.cell' hb1 hb hc
  go_wp2_with (first | (go_at_call 83; refine (HT.out _).mono ?_; rintro e w' ⟨rfl, rfl⟩) | (go_at_call 84; refine (cf_any _ _ t _ hk).mono ?_; rintro e w' ⟨rfl, rfl⟩))
  go_ret
  exact ⟨rfl, hb1⟩
theorem key_piece (b off len cap : Nat) (z0 z : Int) (w : World) (h0 : w.cell? ⟨b, off, none⟩ = some (.int .u8 z0)) (hz0 : 0 ≤ z0 ∧ z0 ≤ 255) (h28 : z0 % 32 = 28) (hc : w.cell? ⟨b, off + 1, none⟩ = some (.int .u8 z)) (hz : 0 ≤ z ∧ z ≤ 255) (hl : 3 ≤ len) (hlc : len ≤ cap) (hm : cap ≤ 9223372036854775807) (ht : 1 ≤ z % 32 ∧ z % 32 ≤ 23)
    (b32 : bits .and .u8 z 32 = 0) (b2 : bits .and .u8 z 128 = 0 ∨ bits .and .u8 z 64 = 0) :
    Calls Try.prog 47 #[.slice (some ⟨b, off, none⟩) len cap] w fun e w' => e = .returned (.bool (!(bits .and .u8 z 128 == 0) && isKey (z % 32))) ∧ Below w.heap.size w w' := by
  have hb := World.block_lt_of_cell? _ _ hc
  have HU := Lib.hid (units_piece b off len cap z0 z w h0 hz0 h28 hc hz hl hlc hm ht b32 b2)
  have HT := Lib.hid (fun W => typ_any z0 W hz0)
  rw [h28] at HT
  clear h28 b32 b2 ht
  generalize z % 32 = t at *
  have hl0 : (0 : Int) < (len : Int) := by omega
  have hl1 : (1 : Int) < (len : Int) := by omega
  cases hu : (bits .and .u8 z 128 == 0)
  · go_enter Try.func47, Try.ntmps47
    go_wp2_with fail
    refine HU.out.mono ?_
    rintro e w1 ⟨rfl, hk, hb1⟩
    have hc1 := Below.cell' hb1 hb hc
    have hc0 := Below.cell' hb1 hb h0
    go_wp2_with (first | (go_at_call 83; refine (HT.out _).mono ?_; rintro e w' ⟨rfl, rfl⟩) | (go_at_call 84; refine (cf_any _ _ t _ hk).mono ?_; rintro e w' ⟨rfl, rfl⟩))
    go_ret
    exact ⟨rfl, hb1⟩
  · go_enter Try.func47, Try.ntmps47
    go_wp2_with fail
    refine HU.out.mono ?_
    rintro e w1 ⟨rfl, hk, hb1⟩
    have hc1 := Below.cell' hb1 hb hc
    have hc0 := Below.cell' hb1 hb h0
    go_wp2_with (first | (go_at_call 83; refine (HT.out _).mono ?_; rintro e w' ⟨rfl, rfl⟩) | (go_at_call 84; refine (cf_any _ _ t _ hk).mono ?_; rintro e w' ⟨rfl, rfl⟩))
    go_ret
    exact ⟨rfl, hb1⟩

theorem alive14_any (w : World) : Calls Try.prog 46 #[] w fun e w' => e = .returned (.bool true) ∧ Below w.heap.size w w' := by
  have k1 : isKey (101 % 32) = true := by decide
  have k2 : (!(bits .and .u8 133 128 == 0) && isKey (133 % 32)) = true := by decide +kernel
  have k3 : (!(bits .and .u8 5 128 == 0) && isKey (5 % 32)) = false := by decide +kernel
  go_enter Try.func46, Try.ntmps46
  go_wp2_with fail
  have h1 := key_one w.heap.size 0 2 2 101 (w.alloc (.cells #[.int .u8 101, .int .u8 0] 5)) (by simp) (by decide) (by decide) (by decide) (by decide)
  rw [k1] at h1
  refine h1.mono ?_
  rintro e w1 ⟨rfl, b1⟩
  have B1 := ((Below.refl _ w).alloc (Nat.le_refl _) (.cells #[.int .u8 101, .int .u8 0] 5)).trans (b1.mono (by simp))
  clear h1 b1
  go_wp2_with fail
  have h2 := key_piece w1.heap.size 0 3 3 124 133 (w1.alloc (.cells #[.int .u8 124, .int .u8 133, .int .u8 0] 5)) (by simp) (by decide) (by decide) (by simp) (by decide) (by decide) (by decide) (by decide) (by decide) (by decide +kernel) (by decide +kernel)
  rw [k2] at h2
  refine h2.mono ?_
  rintro e w2 ⟨rfl, b2⟩
  have B2 := (B1.alloc B1.size (.cells #[.int .u8 124, .int .u8 133, .int .u8 0] 5)).trans (b2.mono (by have := B1.size; simp; omega))
  clear h2 b2 B1
  go_wp2_with fail
  have h3 := key_piece w2.heap.size 0 3 3 124 5 (w2.alloc (.cells #[.int .u8 124, .int .u8 5, .int .u8 0] 5)) (by simp) (by decide) (by decide) (by simp) (by decide) (by decide) (by decide) (by decide) (by decide) (by decide +kernel) (by decide +kernel)
  rw [k3] at h3
  refine h3.mono ?_
  rintro e w3 ⟨rfl, b3⟩
  have B3 := (B2.alloc B2.size (.cells #[.int .u8 124, .int .u8 5, .int .u8 0] 5)).trans (b3.mono (by have := B2.size; simp; omega))
  clear h3 b3 B2
  go_wp2_with fail
  go_ret
  exact ⟨rfl, B3⟩

theorem cell_up {w : World} {b i : Nat} {v : Value} (h : w.cell? ⟨b, i, none⟩ = some v) (x : Obj) : (w.alloc x).cell? ⟨b, i, none⟩ = some v := by
  rw [World.cell?_of_block (w := w) (Below.heap_alloc _ _ _ (World.block_lt_of_cell? _ _ h))]; exact h
theorem own_at {w : World} {base : Nat} {e : TypeId} {v : Value} {n : Nat} {xs : List Value} (h : w.ownsRow base e 1 v (n + 1) xs) :
    ∃ g cap, v = .slice (some ⟨g, 0, none⟩) (n + 1) cap ∧ base ≤ g ∧ g < w.heap.size ∧ (∀ (j : Nat) u, xs[j]? = some u → w.cell? ⟨g, j, none⟩ = some u) ∧ n + 1 ≤ cap ∧ cap ≤ 9223372036854775807 := by
  obtain ⟨g, cap, h1, h2, h3, h4, h5⟩ := own_some h
  refine ⟨g, cap, h1, h2, h3, h4, h5, ?_⟩
  obtain ⟨_, h6⟩ := h
  rcases h6 with ⟨_, h0⟩ | ⟨g', cap', cur, hv, hg, hh, hn, hcap, _⟩
  · omega
  · rw [h1] at hv; cases hv
    unfold maxLen at hcap; omega
theorem hi_bits : ∀ t ∈ List.range 24, bits .and .u8 ((128 + t : Nat) : Int) 32 = 0 ∧ bits .and .u8 ((128 + t : Nat) : Int) 64 = 0 ∧ (bits .and .u8 ((128 + t : Nat) : Int) 128 == 0) = false ∧ bits .and .u8 ((64 + t : Nat) : Int) 32 = 0 ∧ bits .and .u8 ((64 + t : Nat) : Int) 128 = 0 := by decide +kernel
theorem infoU8' : (Try.prog.info? 5).map (fun i => (i.zero, i.size, i.bytes)) = some (some (.int .u8 0), 1, 1) := by kernel_rfl
def bytesL (Z : Nat → Int) (n : Nat) : List Value := (List.range n).map fun i => .int .u8 (Z i)
theorem bytesL_get {Z : Nat → Int} {n j : Nat} {u : Value} (h : (bytesL Z n)[j]? = some u) : j < n ∧ u = .int .u8 (Z j) := by
  have hj : j < n := by have := (List.getElem?_eq_some_iff.1 h).1; simpa [bytesL] using this
  refine ⟨hj, ?_⟩
  simp [bytesL, hj] at h
  exact h.symm
theorem bytesL_one {Z : Nat → Int} {n : Nat} : ∀ u ∈ bytesL Z n, u.oneCell' = true := by
  intro u hu
  simp [bytesL] at hu
  obtain ⟨i, _, rfl⟩ := hu
  rfl

set_option maxRecDepth 100000 in
set_option maxHeartbeats 4000000 in
theorem AvcPieces.walk (ty : Int) (a : Option Addr) (len cap : Nat) (zs : List Int) (cut : Int) (w : World) (w0 : (Lit.int .u8 ty).wf = true) (r : IsRow .u8 w a len cap zs) (w2 : (Lit.int .u8 cut).wf = true) :
    Calls Try.prog 10 #[.int .u8 ty, .slice a len cap, .int .u8 cut] w fun e w' => e = .returned (.bool true) ∧ Below w.heap.size w w' := by
  have b0 := bounds_u8 w0
  have b2 := bounds_u8 w2
  obtain ⟨b, off, Z, ha, hl, hm, hc, hz⟩ := row_open r
  clear r w0 w2
  by_cases k1 : (len : Int) < 2
  · have e1 : decide ((len : Int) < 2) = true := by simpa using k1
    go_enter Try.func10, Try.ntmps10
    go_wp2_with (go_at_call 46; refine (alive14_any _).mono ?_; rintro e w1 ⟨rfl, hb1⟩)
    go_ret
    exact ⟨rfl, hb1⟩
  have e1 : decide ((len : Int) < 2) = false := by simpa using k1
  by_cases k2 : 1000 < (len : Int)
  · have e2 : decide (1000 < (len : Int)) = true := by simpa using k2
    go_enter Try.func10, Try.ntmps10
    go_wp2_with (go_at_call 46; refine (alive14_any _).mono ?_; rintro e w1 ⟨rfl, hb1⟩)
    go_ret
    exact ⟨rfl, hb1⟩
  have e2 : decide (1000 < (len : Int)) = false := by simpa using k2
  obtain ⟨rfl, hbs⟩ := ha (by omega)
  clear ha
  obtain ⟨t, ht, ht1, ht2⟩ : ∃ t : Nat, ty % 23 + 1 = t ∧ 1 ≤ t ∧ t ≤ 23 := ⟨(ty % 23 + 1).toNat, by omega, by omega, by omega⟩
  have hK0 := Int.emod_nonneg cut (show (len : Int) - 1 ≠ 0 by omega)
  have hK1 := Int.emod_lt_of_pos cut (show (0 : Int) < (len : Int) - 1 by omega)
  obtain ⟨k, hk, hk1, hk2⟩ : ∃ k : Nat, cut % ((len : Int) - 1) + 1 = k ∧ 1 ≤ k ∧ k < len := ⟨(cut % ((len : Int) - 1) + 1).toNat, by omega, by omega, by omega⟩
  have hkt : cut.tmod ((len : Int) - 1) = cut % ((len : Int) - 1) := Int.tmod_eq_emod_of_nonneg b2.1
  have HB := Lib.hid (hi_bits t (List.mem_range.2 (by omega)))
  have hlk : (k : Int) ≤ (len : Int) := by omega
  have hlc : (len : Int) ≤ (cap : Int) := by omega
  have hkc : ¬ k = cap := by omega
  have HC := Lib.hid hc
  clear hc hz
  have w128 : IntKind.u8.wrap (128 + (t : Int)) = 128 + t := by rw [IntKind.wrap_u8]; omega
  have w64 : IntKind.u8.wrap (64 + (t : Int)) = 64 + t := by rw [IntKind.wrap_u8]; omega
  obtain ⟨i0, hi, hz0, hz1, hz2⟩ := info_parts infoU8'
  go_enter Try.func10, Try.ntmps10
  go_wp2_with fail
  refine (alive14_any _).mono ?_
  rintro e w1 ⟨rfl, hb1⟩
  have q1 := hb1.size
  have HSRC : Hid (∀ (s n : Nat) (W : World), Below w.heap.size w W → s + n ≤ cap → ∀ ad, some (⟨b, off + s, none⟩ : Addr) = some ad → ∀ (j : Nat) u, (bytesL (fun i => Z (s + i)) n)[j]? = some u → W.cell? (ad.add j) = some u) := by
    refine Lib.hid (fun s n W hW hsn ad had j u hj => ?_)
    cases had
    obtain ⟨hjn, rfl⟩ := bytesL_get hj
    rw [addr_add, Nat.add_assoc]
    exact Below.cell' hW hbs (HC.out (s + j) (by omega))
  have hkcap : (k : Int) ≤ (cap : Int) := by omega
  have hk0 : (0 : Int) ≤ (k : Int) := by omega
  have BIGa : ∀ o, Below w.heap.size w (w1.alloc o) := fun o => hb1.alloc q1 o
  have BA := Lib.hid BIGa
  clear BIGa
  go_wp2_with
    (at_builtin
     refine append_src _ rfl (.tmp 34) (.tmp 37) 25 rfl w1.heap.size 5 i0 (.int .u8 0) 1 1 Try.underlying25 hi hz0 hz1 hz2 rfl (by decide) _ 2 [.int .u8 28, .int .u8 (128 + (t : Int))] rfl (by exact World.ownsRow_lit w1 #[.int .u8 28, .int .u8 (128 + (t : Int))] 2 (Nat.le_refl _) (by unfold maxLen; omega) rfl) (some ⟨b, off, none⟩) k cap (bytesL (fun i => Z (0 + i)) k) rfl (fun h => by cases h) ?a1 ?a2 bytesL_one ?a3 ?a4 ?a5 ?_
     case a1 => simp [bytesL]
     case a2 => exact HSRC.out 0 k _ (BA.out _) (by omega)
     case a3 => unfold maxLen; omega
     case a4 => omega
     case a5 => simp)
  intro va w2 owna bela
  have B2 : Below w.heap.size w w2 := (BA.out _).trans (bela.mono q1)
  rw [show 2 + k = (k + 1) + 1 by omega] at owna
  obtain ⟨ga, ca, rfl, hga, hga2, hca, hca2, hca3⟩ := own_at owna
  have a0 : w2.cell? ⟨ga, 0, none⟩ = some (.int .u8 28) := hca 0 _ rfl
  have a1 : w2.cell? ⟨ga, 1, none⟩ = some (.int .u8 (128 + (t : Int))) := hca 1 _ rfl
  have q2 := B2.size
  have BB := Lib.hid (fun o => B2.alloc q2 o)
  clear owna bela BA hca hga
  go_wp2_with
    (at_builtin
     refine append_src _ rfl (.tmp 41) (.tmp 44) 25 rfl w2.heap.size 5 i0 (.int .u8 0) 1 1 Try.underlying25 hi hz0 hz1 hz2 rfl (by decide) _ 2 [.int .u8 28, .int .u8 (64 + (t : Int))] rfl (by exact World.ownsRow_lit w2 #[.int .u8 28, .int .u8 (64 + (t : Int))] 2 (Nat.le_refl _) (by unfold maxLen; omega) rfl) (some ⟨b, off + k, none⟩) (len - k) (cap - k) (bytesL (fun i => Z (k + i)) (len - k)) rfl (fun h => by cases h) ?a1 ?a2 bytesL_one ?a3 ?a4 ?a5 ?_
     case a1 => simp [bytesL]
     case a2 => exact HSRC.out k (len - k) _ (BB.out _) (by omega)
     case a3 => unfold maxLen; omega
     case a4 => omega
     case a5 => simp)
  intro vb w3 ownb belb
  have B3 : Below w.heap.size w w3 := (BB.out _).trans (belb.mono q2)
  have a0' : w3.cell? ⟨ga, 0, none⟩ = some (.int .u8 28) := Below.cell' belb hga2 (cell_up a0 _)
  have a1' : w3.cell? ⟨ga, 1, none⟩ = some (.int .u8 (128 + (t : Int))) := Below.cell' belb hga2 (cell_up a1 _)
  rw [show 2 + (len - k) = (len - k + 1) + 1 by omega] at ownb
  obtain ⟨gb, cb, rfl, hgb, hgb2, hcb, hcb2, hcb3⟩ := own_at ownb
  have b0' : w3.cell? ⟨gb, 0, none⟩ = some (.int .u8 28) := hcb 0 _ rfl
  have b1' : w3.cell? ⟨gb, 1, none⟩ = some (.int .u8 (64 + (t : Int))) := hcb 1 _ rfl
  have q3 := B3.size
  have BC := Lib.hid (fun o => B3.alloc q3 o)
  have hga3 : ga < w3.heap.size := World.block_lt_of_cell? _ _ a0'
  clear ownb belb BB hcb hgb a0 a1 B2 q2 hga2
  go_wp2_with
    (at_builtin
     refine append_src _ rfl (.tmp 47) (.tmp 48) 25 rfl w3.heap.size 5 i0 (.int .u8 0) 1 1 Try.underlying25 hi hz0 hz1 hz2 rfl (by decide) _ 1 [.int .u8 (t : Int)] rfl (by exact World.ownsRow_lit w3 #[.int .u8 (t : Int)] 1 (Nat.le_refl _) (by unfold maxLen; omega) rfl) (some ⟨b, off, none⟩) len cap (bytesL (fun i => Z (0 + i)) len) rfl (fun h => by cases h) ?a1 ?a2 bytesL_one ?a3 ?a4 ?a5 ?_
     case a1 => simp [bytesL]
     case a2 => exact HSRC.out 0 len _ (BC.out _) (by omega)
     case a3 => unfold maxLen; omega
     case a4 => omega
     case a5 => simp)
  intro vc w4 ownc belc
  have B4 : Below w.heap.size w w4 := (BC.out _).trans (belc.mono q3)
  have a2 : w4.cell? ⟨ga, 0, none⟩ = some (.int .u8 28) := Below.cell' belc hga3 (cell_up a0' _)
  have a3 : w4.cell? ⟨ga, 1, none⟩ = some (.int .u8 (128 + (t : Int))) := Below.cell' belc hga3 (cell_up a1' _)
  have b2' : w4.cell? ⟨gb, 0, none⟩ = some (.int .u8 28) := Below.cell' belc hgb2 (cell_up b0' _)
  have b3' : w4.cell? ⟨gb, 1, none⟩ = some (.int .u8 (64 + (t : Int))) := Below.cell' belc hgb2 (cell_up b1' _)
  rw [show 1 + len = len + 1 by omega] at ownc
  obtain ⟨gc, cc, rfl, hgc, hgc2, hcc, hcc2, hcc3⟩ := own_at ownc
  have c0' : w4.cell? ⟨gc, 0, none⟩ = some (.int .u8 (t : Int)) := hcc 0 _ rfl
  clear ownc belc BC hcc hgc a0' a1' b0' b1' B3 q3 hgb2 hga3 hgc2 hb1 HC HSRC
  obtain ⟨x1, x2, x3, x4, x5⟩ := HB.out
  have x1' : bits .and .u8 (128 + (t : Int)) 32 = 0 := by have := x1; push_cast at this; exact this
  have x2' : bits .and .u8 (128 + (t : Int)) 64 = 0 := by have := x2; push_cast at this; exact this
  have x3' : (bits .and .u8 (128 + (t : Int)) 128 == 0) = false := by have := x3; push_cast at this; exact this
  have x4' : bits .and .u8 (64 + (t : Int)) 32 = 0 := by have := x4; push_cast at this; exact this
  have x5' : bits .and .u8 (64 + (t : Int)) 128 = 0 := by have := x5; push_cast at this; exact this
  have ka := fun (W : World) (h0 : W.cell? ⟨ga, 0, none⟩ = some (.int .u8 28)) (h1 : W.cell? ⟨ga, 1, none⟩ = some (.int .u8 (128 + (t : Int)))) => key_piece ga 0 (k + 1 + 1) ca 28 (128 + (t : Int)) W h0 (by decide) (by decide) h1 (by omega) (by omega) hca2 hca3 (by omega) x1' (.inr x2')
  have kb := fun (W : World) (h0 : W.cell? ⟨gb, 0, none⟩ = some (.int .u8 28)) (h1 : W.cell? ⟨gb, 1, none⟩ = some (.int .u8 (64 + (t : Int)))) => key_piece gb 0 (len - k + 1 + 1) cb 28 (64 + (t : Int)) W h0 (by decide) (by decide) h1 (by omega) (by omega) hcb2 hcb3 (by omega) x4' (.inl x5')
  have kc := fun (W : World) (h0 : W.cell? ⟨gc, 0, none⟩ = some (.int .u8 (t : Int))) => key_one gc 0 (len + 1) cc (t : Int) W h0 (by omega) (by omega) (by omega) (by omega)
  rw [x3', show (128 + (t : Int)) % 32 = t by omega, show (!false && isKey (t : Int)) = isKey (t : Int) by simp] at ka
  rw [x5', show ((0 : Int) == 0) = true by decide, show (64 + (t : Int)) % 32 = t by omega, show (!true && isKey (t : Int)) = false by simp] at kb
  rw [show (t : Int) % 32 = t by omega] at kc
  have KA := Lib.hid ka
  have KB := Lib.hid kb
  have KC := Lib.hid kc
  clear ka kb kc x1 x2 x3 x4 x5 x1' x2' x3' x4' x5' HB
  have HT := Lib.hid ht
  clear ht
  have h4 : (t = 5 ∨ t = 7 ∨ t = 8) ∨ ((t : Int) == 5) = false ∧ ((t : Int) == 7) = false ∧ ((t : Int) == 8) = false := by simp; omega
  have hkv : ∀ v : Bool, isKey (t : Int) = v → (((t : Int) == 5) = v ∨ ((t : Int) == 5) = false) := fun v hv => by
    cases v
    · right; simp [isKey] at hv; simp; omega
    · cases h : ((t : Int) == 5) <;> simp
  clear hkv
  have fin : ∀ v : Bool, isKey (t : Int) = v → Hid ((∀ W, W.cell? ⟨ga, 0, none⟩ = some (.int .u8 28) → W.cell? ⟨ga, 1, none⟩ = some (.int .u8 (128 + (t : Int))) → Calls Try.prog 47 #[.slice (some ⟨ga, 0, none⟩) (k + 1 + 1) ca] W fun e w' => e = .returned (.bool v) ∧ Below W.heap.size W w') ∧
      (∀ W, W.cell? ⟨gc, 0, none⟩ = some (.int .u8 (t : Int)) → Calls Try.prog 47 #[.slice (some ⟨gc, 0, none⟩) (len + 1) cc] W fun e w' => e = .returned (.bool v) ∧ Below W.heap.size W w')) := fun v hv => by
    subst hv; exact Lib.hid ⟨KA.out, KC.out⟩
  have FIN := Lib.hid fin
  clear fin KA KC
  rcases h4 with (rfl | rfl | rfl) | ⟨h5, h7, h8⟩
  · have F := FIN.out true rfl
    clear FIN
    go_wp2_with fail
    refine (F.out.1 _ a2 a3).mono ?_
    rintro e w5 ⟨rfl, y5⟩
    have B5 := B4.trans (y5.mono B4.size)
    have d0 := Below.cell' y5 (World.block_lt_of_cell? _ _ a2) a2
    have d1 := Below.cell' y5 (World.block_lt_of_cell? _ _ a3) a3
    have d2 := Below.cell' y5 (World.block_lt_of_cell? _ _ b2') b2'
    have d3 := Below.cell' y5 (World.block_lt_of_cell? _ _ b3') b3'
    have d4 := Below.cell' y5 (World.block_lt_of_cell? _ _ c0') c0'
    clear a2 a3 b2' b3' c0' y5 B4
    go_wp2_with fail
    refine (KB.out _ d2 d3).mono ?_
    rintro e w6 ⟨rfl, y6⟩
    have B6 := B5.trans (y6.mono B5.size)
    have f0 := Below.cell' y6 (World.block_lt_of_cell? _ _ d0) d0
    have f1 := Below.cell' y6 (World.block_lt_of_cell? _ _ d1) d1
    have f4 := Below.cell' y6 (World.block_lt_of_cell? _ _ d4) d4
    clear d0 d1 d2 d3 d4 y6 B5
    go_wp2_with fail
    refine (F.out.2 _ f4).mono ?_
    rintro e w7 ⟨rfl, y7⟩
    have B7 := B6.trans (y7.mono B6.size)
    have g0 := Below.cell' y7 (World.block_lt_of_cell? _ _ f0) f0
    have g1 := Below.cell' y7 (World.block_lt_of_cell? _ _ f1) f1
    clear f0 f1 f4 y7 B6
    go_wp2_with fail
    refine (F.out.1 _ g0 g1).mono ?_
    rintro e w8 ⟨rfl, y8⟩
    have B8 := B7.trans (y8.mono B7.size)
    clear g0 g1 y8 B7
    go_wp2_with fail
    go_ret
    exact ⟨rfl, B8⟩
  · have F := FIN.out true rfl
    clear FIN
    go_wp2_with fail
    refine (F.out.1 _ a2 a3).mono ?_
    rintro e w5 ⟨rfl, y5⟩
    have B5 := B4.trans (y5.mono B4.size)
    have d0 := Below.cell' y5 (World.block_lt_of_cell? _ _ a2) a2
    have d1 := Below.cell' y5 (World.block_lt_of_cell? _ _ a3) a3
    have d2 := Below.cell' y5 (World.block_lt_of_cell? _ _ b2') b2'
    have d3 := Below.cell' y5 (World.block_lt_of_cell? _ _ b3') b3'
    have d4 := Below.cell' y5 (World.block_lt_of_cell? _ _ c0') c0'
    clear a2 a3 b2' b3' c0' y5 B4
    go_wp2_with fail
    refine (KB.out _ d2 d3).mono ?_
    rintro e w6 ⟨rfl, y6⟩
    have B6 := B5.trans (y6.mono B5.size)
    have f0 := Below.cell' y6 (World.block_lt_of_cell? _ _ d0) d0
    have f1 := Below.cell' y6 (World.block_lt_of_cell? _ _ d1) d1
    have f4 := Below.cell' y6 (World.block_lt_of_cell? _ _ d4) d4
    clear d0 d1 d2 d3 d4 y6 B5
    go_wp2_with fail
    refine (F.out.2 _ f4).mono ?_
    rintro e w7 ⟨rfl, y7⟩
    have B7 := B6.trans (y7.mono B6.size)
    have g0 := Below.cell' y7 (World.block_lt_of_cell? _ _ f0) f0
    have g1 := Below.cell' y7 (World.block_lt_of_cell? _ _ f1) f1
    clear f0 f1 f4 y7 B6
    go_wp2_with fail
    refine (F.out.1 _ g0 g1).mono ?_
    rintro e w8 ⟨rfl, y8⟩
    have B8 := B7.trans (y8.mono B7.size)
    clear g0 g1 y8 B7
    go_wp2_with fail
    go_ret
    exact ⟨rfl, B8⟩
  · have F := FIN.out true rfl
    clear FIN
    go_wp2_with fail
    refine (F.out.1 _ a2 a3).mono ?_
    rintro e w5 ⟨rfl, y5⟩
    have B5 := B4.trans (y5.mono B4.size)
    have d0 := Below.cell' y5 (World.block_lt_of_cell? _ _ a2) a2
    have d1 := Below.cell' y5 (World.block_lt_of_cell? _ _ a3) a3
    have d2 := Below.cell' y5 (World.block_lt_of_cell? _ _ b2') b2'
    have d3 := Below.cell' y5 (World.block_lt_of_cell? _ _ b3') b3'
    have d4 := Below.cell' y5 (World.block_lt_of_cell? _ _ c0') c0'
    clear a2 a3 b2' b3' c0' y5 B4
    go_wp2_with fail
    refine (KB.out _ d2 d3).mono ?_
    rintro e w6 ⟨rfl, y6⟩
    have B6 := B5.trans (y6.mono B5.size)
    have f0 := Below.cell' y6 (World.block_lt_of_cell? _ _ d0) d0
    have f1 := Below.cell' y6 (World.block_lt_of_cell? _ _ d1) d1
    have f4 := Below.cell' y6 (World.block_lt_of_cell? _ _ d4) d4
    clear d0 d1 d2 d3 d4 y6 B5
    go_wp2_with fail
    refine (F.out.2 _ f4).mono ?_
    rintro e w7 ⟨rfl, y7⟩
    have B7 := B6.trans (y7.mono B6.size)
    have g0 := Below.cell' y7 (World.block_lt_of_cell? _ _ f0) f0
    have g1 := Below.cell' y7 (World.block_lt_of_cell? _ _ f1) f1
    clear f0 f1 f4 y7 B6
    go_wp2_with fail
    refine (F.out.1 _ g0 g1).mono ?_
    rintro e w8 ⟨rfl, y8⟩
    have B8 := B7.trans (y8.mono B7.size)
    clear g0 g1 y8 B7
    go_wp2_with fail
    go_ret
    exact ⟨rfl, B8⟩
  · have F := FIN.out false (by unfold isKey; rw [h5, h7, h8]; rfl)
    clear FIN
    go_wp2_with fail
    refine (F.out.1 _ a2 a3).mono ?_
    rintro e w5 ⟨rfl, y5⟩
    have B5 := B4.trans (y5.mono B4.size)
    have d0 := Below.cell' y5 (World.block_lt_of_cell? _ _ a2) a2
    have d1 := Below.cell' y5 (World.block_lt_of_cell? _ _ a3) a3
    have d2 := Below.cell' y5 (World.block_lt_of_cell? _ _ b2') b2'
    have d3 := Below.cell' y5 (World.block_lt_of_cell? _ _ b3') b3'
    have d4 := Below.cell' y5 (World.block_lt_of_cell? _ _ c0') c0'
    clear a2 a3 b2' b3' c0' y5 B4
    go_wp2_with fail
    refine (KB.out _ d2 d3).mono ?_
    rintro e w6 ⟨rfl, y6⟩
    have B6 := B5.trans (y6.mono B5.size)
    have f0 := Below.cell' y6 (World.block_lt_of_cell? _ _ d0) d0
    have f1 := Below.cell' y6 (World.block_lt_of_cell? _ _ d1) d1
    have f4 := Below.cell' y6 (World.block_lt_of_cell? _ _ d4) d4
    clear d0 d1 d2 d3 d4 y6 B5
    go_wp2_with fail
    refine (F.out.2 _ f4).mono ?_
    rintro e w7 ⟨rfl, y7⟩
    have B7 := B6.trans (y7.mono B6.size)
    have g0 := Below.cell' y7 (World.block_lt_of_cell? _ _ f0) f0
    have g1 := Below.cell' y7 (World.block_lt_of_cell? _ _ f1) f1
    clear f0 f1 f4 y7 B6
    go_wp2_with fail
    refine (F.out.1 _ g0 g1).mono ?_
    rintro e w8 ⟨rfl, y8⟩
    have B8 := B7.trans (y8.mono B7.size)
    clear g0 g1 y8 B7
    go_wp2_with fail
    go_ret
    exact ⟨rfl, B8⟩
end Go.Proofs.Ytihbceippcgfgaa
