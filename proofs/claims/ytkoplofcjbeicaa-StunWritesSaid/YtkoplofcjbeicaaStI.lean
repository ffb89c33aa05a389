/-
  Chapter 12: Answer.
-/
import Derived.Test.YtkoplofcjbeicaaStH
namespace Go.Proofs.Ytkoplofcjbeicaa
open Go.RowKit
set_option linter.unusedVariables false
set_option linter.unusedSimpArgs false
attribute [local irreducible] wpStill wpQuiet MixC.wpMix
attribute [local go_sem] MixC.rdOp MixC.rd MixC.rdUpon MixC.mvUpon

def datL (X Y : Int) : List Int := [0, 1] ++ putL X 2 ++ putL Y 4
theorem datL_len (X Y : Int) : (datL X Y).length = 8 := by unfold datL; simp [putL_len]
def ansL (Z : Nat → Int) (X Y : Int) : List Int := wrM 257 (zs (shA Z 8) 12) [(32, datL X Y)]
theorem ansL_len (Z : Nat → Int) (X Y : Int) : (ansL Z X Y).length = 32 := by
  unfold ansL wrM
  rw [List.length_append, headW_len _ _ _ (zs_len _ _), cons_bod, List.length_append, enc_len]
  simp only [datL_len]
  rfl
def ansB (Z : Nat → Int) (n : Nat) : Prop := (∃ ks, readM Z n ks) ∧ typA Z 0 = 1 ∧ 32 ≤ n
def Ans12 (Z : Nat → Int) (n : Nat) (X Y : Int) (w : World) (e : Ending) (w' : World) : Prop :=
  Below w.heap.size w w' ∧ ((ansB Z n ∧ ∃ a c, e = .returned (.tuple #[.slice a 32 c, .bool true]) ∧ BL w' a 32 c (ansL Z X Y)) ∨ (¬ ansB Z n ∧ e = .returned (.tuple #[.slice none 0 0, .bool false])))
theorem cons_one (a : Option Addr) (c : Nat) (L : List Int) (h : L.length = 8) : cons (fun _ => (⟨32, a, 8, c, gz L⟩ : At)) 1 = [(32, L)] := by
  unfold cons At.con
  have e : List.range 1 = [0] := rfl
  rw [e]
  simp only [List.map_cons, List.map_nil]
  rw [zs_ext L 8 h]
theorem dat_bl (V : World) : BL (V.alloc (.cells #[.int .u8 0, .int .u8 1] 5)) (some ⟨V.heap.size, 0, none⟩) 2 2 [0, 1] := by
  have k : (V.alloc (.cells #[.int .u8 0, .int .u8 1] 5)).heap[V.heap.size]? = some (.cells #[.int .u8 0, .int .u8 1] 5 (0, 0)) := alloc_blk_new
  refine ⟨rfl, fun x hx => ?_, Nat.le_refl _, by omega, fun i hi => ?_, V.heap.size, 0, fun _ => ⟨rfl, lt_of_block k⟩, fun i hi => ?_⟩
  · simp only [List.mem_cons, List.not_mem_nil, or_false] at hx
    omega
  · rcases (by omega : i = 0 ∨ i = 1) with rfl | rfl <;> decide
  · rw [cell_blk k]
    rcases (by omega : i = 0 ∨ i = 1) with rfl | rfl <;> rfl
set_option maxRecDepth 100000 in
set_option maxHeartbeats 4000000 in
theorem answer12_any (B : Nat) (a : Option Addr) (n c : Nat) (Z : Nat → Int) (A P : Int) (w : World) (hb : BS B w a n c Z) (hB : B ≤ w.heap.size) (hn : n ≤ 60000) (hA : 0 ≤ A ∧ A ≤ 4294967295) (hP : 0 ≤ P ∧ P ≤ 65535) :
    Calls Try.prog 20 #[.slice a n c, .agg #[.int .u32 A, .int .u16 P]] w (Ans12 Z n (bits BinOp.xor .u16 P 8466) (bits BinOp.xor .u32 A 554869826) w) := by
  have HB := Lib.hid hb
  have hle := hb.le
  have hmx := hb.max
  obtain ⟨X, hX⟩ : ∃ X, bits BinOp.xor .u16 P 8466 = X := ⟨_, rfl⟩
  obtain ⟨Y, hY⟩ : ∃ Y, bits BinOp.xor .u32 A 554869826 = Y := ⟨_, rfl⟩
  have xb := bounds_u16 (wf_bits BinOp.xor .u16 P 8466)
  have yb := bounds_u32 (wf_bits BinOp.xor .u32 A 554869826)
  rw [hX] at xb ⊢
  rw [hY] at yb ⊢
  have wX : IntKind.u64.wrap X = X := by rw [IntKind.wrap_u64]; omega
  have wY : IntKind.u64.wrap Y = Y := by rw [IntKind.wrap_u64]; omega
  clear hb hA hP
  go_enter Try.func20, Try.ntmps20
  go_upto_region 1 with (fail)
  obtain ⟨W0, hW0⟩ : ∃ W0, w.alloc (.cells #[.int .u32 A, .int .u16 P] 43) = W0 := ⟨_, rfl⟩
  obtain ⟨g, hg⟩ : ∃ g, w.heap.size = g := ⟨_, rfl⟩
  rw [hW0, hg]
  have B0 : Hid (Below w.heap.size w W0) := Lib.hid (by rw [← hW0]; exact (Below.refl _ _).alloc (Nat.le_refl _) _)
  have K0 : Hid (W0.heap[g]? = some (.cells #[.int .u32 A, .int .u16 P] 43 (0, 0))) := Lib.hid (by rw [← hW0, ← hg]; exact alloc_blk_new)
  clear hW0 hg
  go_wp2_with fail
  refine (read12_any B a n c Z W0 (HB.out.keep (B0.out.mono hB)) (Nat.le_trans hB B0.out.size) hn).mono ?_
  rintro e w1 ⟨b1, ⟨l, v, ks, rfl, hr, -, hal, -⟩ | ⟨E, rfl, hE, hno⟩⟩
  · obtain ⟨va, vc, rfl⟩ := hal.sl
    clear hal
    have BW1 := Lib.hid (B0.out.trans (b1.mono B0.out.size))
    have K1 : Hid (w1.heap[g]? = some (.cells #[.int .u32 A, .int .u16 P] 43 (0, 0))) := Lib.hid (Below.blk b1 K0.out (lt_of_block K0.out))
    have HR := Lib.hid hr
    obtain ⟨T, hT⟩ : ∃ T, typA Z 0 = T := ⟨_, rfl⟩
    have HT := Lib.hid hT
    rw [hT]
    clear b1 hr hT
    simp only [msgV]
    by_cases hT1 : T = 1
    · subst hT1
      go_upto_region 4 with (fail)
      obtain ⟨W2, hW2⟩ : ∃ W2, w1.alloc (.cells (msgV 1 (shA Z 8) (.slice va l.length vc)) 28) = W2 := ⟨_, rfl⟩
      obtain ⟨g6, hg6⟩ : ∃ g6, w1.heap.size = g6 := ⟨_, rfl⟩
      change Code.wp _ _ _ _ (w1.alloc (.cells (msgV 1 (shA Z 8) (.slice va l.length vc)) 28))
      rw [hW2, hg6]
      have b2 : Below w1.heap.size w1 W2 := by rw [← hW2]; exact (Below.refl _ _).alloc (Nat.le_refl _) _
      have K6 : Hid (W2.heap[g6]? = some (.cells (msgV 1 (shA Z 8) (.slice va l.length vc)) 28 (0, 0))) := Lib.hid (by rw [← hW2, ← hg6]; exact alloc_blk_new)
      have K2 := Lib.hid (Below.blk b2 K1.out (lt_of_block K1.out))
      have BW2 := Lib.hid (BW1.out.trans (b2.mono BW1.out.size))
      have t1 : W2.cell? ⟨g, 1, none⟩ = some (.int .u16 P) := cell_blk K2.out
      clear hW2 hg6 b2
      have HPU := Lib.hid (put_bl (some ⟨W2.heap.size, 0, none⟩) 2 2 [0, 1] 2 X (W2.alloc (.cells #[.int .u8 0, .int .u8 1] 5)) (dat_bl W2) (by omega) (by omega) (by omega) xb.1 (by omega))
      have HT1 : Hid (Below W2.heap.size W2 (W2.alloc (.cells #[.int .u8 0, .int .u8 1] 5))) := Lib.hid ((Below.refl _ _).alloc (Nat.le_refl _) _)
      have t2 : (W2.alloc (.cells #[.int .u8 0, .int .u8 1] 5)).cell? ⟨g, 1, none⟩ = some (.int .u16 P) := cell_blk (Below.blk HT1.out K2.out (lt_of_block K2.out))
      go_wp2_with fail
      try rw [hX]
      try rw [wX]
      refine HPU.out.mono ?_
      rintro e V3 ⟨a3, c3, rfl, -, l3, b3⟩
      have HB3 := Lib.hid (HT1.out.trans (b3.mono HT1.out.size))
      have HL3 := Lib.hid l3
      have t0 : V3.cell? ⟨g, 0, none⟩ = some (.int .u32 A) := cell_blk (Below.blk HB3.out K2.out (lt_of_block K2.out))
      clear t1 t2 HPU HT1 l3 b3
      have HPV := Lib.hid (put_bl a3 (2 + 2) c3 _ 4 Y V3 HL3.out (by omega) (by omega) (by omega) yb.1 (by omega))
      go_wp2_with fail
      try rw [hY]
      try rw [wY]
      refine HPV.out.mono ?_
      rintro e V4 ⟨a4, c4, rfl, -, l4, b4⟩
      have HB4 := Lib.hid (HB3.out.trans (b4.mono HB3.out.size))
      have HL4 : Hid (BL V4 a4 8 c4 (datL X Y)) := Lib.hid l4
      obtain ⟨s0, s1, s2, s3, s4, s5, s6, s7, s8, s9, s10, s11, s12, s13⟩ := MsgF.mk' (Below.blk HB4.out K6.out (lt_of_block K6.out))
      clear t0 HPV l4 b4
      go_wp2_with fail
      clear s0 s1 s2 s3 s4 s5 s6 s7 s8 s9 s10 s11 s12 s13
      obtain ⟨W5, hW5⟩ : ∃ W5, V4.alloc (.cells #[.int .u16 32, .slice a4 8 c4] 75) = W5 := ⟨_, rfl⟩
      obtain ⟨h5, hh5⟩ : ∃ h5, V4.heap.size = h5 := ⟨_, rfl⟩
      rw [hW5, hh5]
      have b5 : Below V4.heap.size V4 W5 := by rw [← hW5]; exact (Below.refl _ _).alloc (Nat.le_refl _) _
      have k5 : W5.heap[h5]? = some (.cells #[.int .u16 32, .slice a4 8 c4] 75 (0, 0)) := by rw [← hW5, ← hh5]; exact alloc_blk_new
      have l5 := HL4.out.keep b5
      have hats : Ats W5.heap.size W5 (some ⟨h5, 0, none⟩) 1 1 (fun _ => (⟨32, a4, 8, c4, gz (datL X Y)⟩ : At)) := ⟨Nat.le_refl _, by omega, fun i hi => ⟨by show (0 : Int) ≤ 32; decide, by show (32 : Int) ≤ 65535; decide, l5.bs⟩, h5, 0, fun _ => ⟨rfl, lt_of_block k5⟩, fun i hi => by
        obtain rfl : i = 0 := by omega
        exact ⟨cell_blk k5, cell_blk k5⟩⟩
      have hx12 : ∀ i, i < 12 → 0 ≤ shA Z 8 i ∧ shA Z 8 i ≤ 255 := fun i hi => HB.out.bd (8 + i) (by have := HR.out.1.1; omega)
      have HWR := Lib.hid (write12_any 257 (shA Z 8) (some ⟨h5, 0, none⟩) 1 1 _ W5 (by decide) hx12 hats)
      have HB5 : Hid (Below w.heap.size w W5) := Lib.hid (BW2.out.trans ((HB4.out.trans (b5.mono HB4.out.size)).mono BW2.out.size))
      clear hW5 hh5 b5 k5 l5 hats hx12
      refine HWR.out.mono ?_
      rintro e V6 ⟨b6, ⟨hok, a6, n6, c6, rfl, l6⟩ | ⟨hno, -⟩⟩
      · rw [cons_one a4 c4 (datL X Y) (datL_len X Y)] at l6
        have hl6 : n6 = 32 := l6.len.trans (ansL_len Z X Y)
        subst hl6
        have HL6 : Hid (BL V6 a6 32 c6 (ansL Z X Y)) := Lib.hid l6
        have HB6 := Lib.hid (HB5.out.trans (b6.mono HB5.out.size))
        clear l6 b6 hok HWR
        by_cases h32 : n < 32
        · have h32i : (n : Int) < 32 := by omega
          go_wp2_with fail
          refine bodyPost_ret (by simp [results, Try.results20, go_sem]; try rfl) rfl ?_
          exact ⟨HB6.out, .inr ⟨fun h => by have := h.2.2; omega, rfl⟩⟩
        · have h32i : ¬ (n : Int) < 32 := by omega
          go_wp2_with fail
          refine bodyPost_ret (by simp [results, Try.results20, go_sem]; try rfl) rfl ?_
          exact ⟨HB6.out, .inl ⟨⟨⟨ks, HR.out⟩, HT.out, by omega⟩, a6, c6, rfl, HL6.out⟩⟩
      · exact absurd ⟨by decide, by omega, fun i hi => by show (8 : Nat) ≤ 255; decide⟩ hno
    · have hT2 : (T = 1) = False := eq_false hT1
      have hT3 : (T == 1) = false := by simpa using hT1
      have hT4 : (T != 1) = true := by simpa using hT1
      have HNA : Hid (¬ ansB Z n) := Lib.hid (fun h => hT1 (by rw [← HT.out]; exact h.2.1))
      clear hT1
      go_wp2_with fail
      refine bodyPost_ret (by simp [results, Try.results20, go_sem]; try rfl) rfl ?_
      exact ⟨BW1.out.alloc BW1.out.size _, .inr ⟨HNA.out, rfl⟩⟩
  · have BW1 := Lib.hid (B0.out.trans (b1.mono B0.out.size))
    have HNA : Hid (¬ ansB Z n) := Lib.hid (fun ⟨⟨ks, h⟩, _⟩ => hno ks h)
    have hE0 : (E = 0) = False := eq_false (by rcases hE with ⟨h, _⟩ | ⟨h, _⟩ <;> omega)
    have hE1 : (E == 0) = false := by rcases hE with ⟨rfl, _⟩ | ⟨rfl, _⟩ <;> rfl
    have hE2 : (E != 0) = true := by rcases hE with ⟨rfl, _⟩ | ⟨rfl, _⟩ <;> rfl
    clear b1 hno hE
    simp only [noV, msgV]
    go_wp2_with fail
    refine bodyPost_ret (by simp [results, Try.results20, go_sem]; try rfl) rfl ?_
    exact ⟨BW1.out.alloc BW1.out.size _, .inr ⟨HNA.out, rfl⟩⟩
end Go.Proofs.Ytkoplofcjbeicaa
