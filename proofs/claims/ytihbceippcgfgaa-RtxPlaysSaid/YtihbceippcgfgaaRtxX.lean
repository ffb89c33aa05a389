/-
  Chapter 34: the reference's packet sent again.
-/
import Derived.Test.YtihbceippcgfgaaRtxW
import Derived.StillTailTactics
namespace Go.Proofs.Ytihbceippcgfgaa
open Go.RowKit
set_option linter.unusedVariables false
set_option linter.unusedSimpArgs false
attribute [local irreducible] wpStill wpQuiet

theorem row2 (W : World) (x y : Value) : (W.alloc (.cells #[x, y] 5)).ownsRow W.heap.size 5 1 (.slice (some ⟨W.heap.size, 0, none⟩) 2 2) 2 [x, y] :=
  ⟨rfl, .inr ⟨W.heap.size, 2, #[x, y], rfl, Nat.le_refl _, alloc_blk_new, Nat.le_refl _, by unfold maxLen; omega, rfl, rfl⟩⟩
theorem putZ_two (sq : Int) (h0 : 0 ≤ sq) (h1 : sq ≤ 65535) : bytesOf (putZ (fun _ => 0) 0 sq 2) 2 = [.int .u8 (sq / 256), .int .u8 (sq % 256)] := by
  have e1 : sq / 256 % 256 = sq / 256 := by omega
  simp [bytesOf, putZ, List.range_succ, e1]
set_option maxRecDepth 100000 in
set_option maxHeartbeats 8000000 in
theorem refwrap_any (B : Nat) (w : World) (m : Bool) (ty sq st src : Int) (oa : Option Addr) (on oc : Nat) (ex : Bool) (pr : Int) (xa : Option Addr) (xn xc : Nat) (a : Option Addr) (n c : Nat) (Z : Nat → Int) (pd : Int) (src' ty' sq' : Int) (hZ : BS B w a n c Z) (hB : B ≤ w.heap.size) (hn : n ≤ 9000) (hs0 : 0 ≤ sq) (hs1 : sq ≤ 65535) :
    Calls Try.prog 30 #[.agg #[(.bool m), (.int .u8 ty), (.int .u16 sq), (.int .u32 st), (.int .u32 src), (.slice oa on oc), (.bool ex), (.int .u16 pr), (.slice xa xn xc), (.slice a n c), (.int .u8 pd)], .int .u32 src', .int .u8 ty', .int .u16 sq'] w fun e w' => ∃ a5 c5, e = .returned (.agg #[(.bool m), (.int .u8 ty'), (.int .u16 sq'), (.int .u32 st), (.int .u32 src'), (.slice oa on oc), (.bool ex), (.int .u16 pr), (.slice xa xn xc), (.slice a5 (2 + n) c5), (.int .u8 pd)]) ∧ BS w'.heap.size w' a5 (2 + n) c5 (catZ (putZ (fun _ => 0) 0 sq 2) 2 Z) ∧ Below w.heap.size w w' := by
  obtain ⟨i0, hi, hz0, hz1, hz2⟩ := info_parts infoU8
  have k1 : IntKind.u16.wrap (sq.tdiv 256) = sq / 256 := by rw [Int.tdiv_eq_ediv_of_nonneg hs0, IntKind.wrap_u16]; omega
  have k2 : IntKind.u8.wrap (sq % 256) = sq % 256 := by rw [IntKind.wrap_u8]; omega
  have k3 : sq / 256 % 256 = sq / 256 := by omega
  have HZ := Lib.hid hZ
  have HP2 := Lib.hid (putZ_two sq hs0 hs1)
  have t3 := three3 w (.cells #[(.bool m), (.int .u8 ty), (.int .u16 sq), (.int .u32 st), (.int .u32 src), (.slice oa on oc), (.bool ex), (.int .u16 pr), (.slice xa xn xc), (.slice a n c), (.int .u8 pd)] 44) (.cells #[(.bool false), (.int .u8 0), (.int .u16 0), (.int .u32 0), (.int .u32 0), (.slice none 0 0), (.bool false), (.int .u16 0), (.slice none 0 0), (.slice none 0 0), (.int .u8 0)] 44) (.cells #[(.bool m), (.int .u8 ty), (.int .u16 sq), (.int .u32 st), (.int .u32 src), (.slice oa on oc), (.bool ex), (.int .u16 pr), (.slice xa xn xc), (.slice a n c), (.int .u8 pd)] 44)
  obtain ⟨q0, q1, q2⟩ := t3
  have hO := row2 ((((w.alloc (.cells #[(.bool m), (.int .u8 ty), (.int .u16 sq), (.int .u32 st), (.int .u32 src), (.slice oa on oc), (.bool ex), (.int .u16 pr), (.slice xa xn xc), (.slice a n c), (.int .u8 pd)] 44)).alloc (.cells #[(.bool false), (.int .u8 0), (.int .u16 0), (.int .u32 0), (.int .u32 0), (.slice none 0 0), (.bool false), (.int .u16 0), (.slice none 0 0), (.slice none 0 0), (.int .u8 0)] 44)).alloc (.cells #[(.bool m), (.int .u8 ty), (.int .u16 sq), (.int .u32 st), (.int .u32 src), (.slice oa on oc), (.bool ex), (.int .u16 pr), (.slice xa xn xc), (.slice a n c), (.int .u8 pd)] 44))) (.int .u8 (sq / 256)) (.int .u8 (sq % 256))
  have HBW : Hid (Below w.heap.size w ((((w.alloc (.cells #[(.bool m), (.int .u8 ty), (.int .u16 sq), (.int .u32 st), (.int .u32 src), (.slice oa on oc), (.bool ex), (.int .u16 pr), (.slice xa xn xc), (.slice a n c), (.int .u8 pd)] 44)).alloc (.cells #[(.bool false), (.int .u8 0), (.int .u16 0), (.int .u32 0), (.int .u32 0), (.slice none 0 0), (.bool false), (.int .u16 0), (.slice none 0 0), (.slice none 0 0), (.int .u8 0)] 44)).alloc (.cells #[(.bool m), (.int .u8 ty), (.int .u16 sq), (.int .u32 st), (.int .u32 src), (.slice oa on oc), (.bool ex), (.int .u16 pr), (.slice xa xn xc), (.slice a n c), (.int .u8 pd)] 44)))) := Lib.hid ((((Below.refl _ w).alloc (Nat.le_refl _) _).alloc (by simp) _).alloc (by simp; omega) _)
  have HAL : Hid (Below w.heap.size w (((((w.alloc (.cells #[(.bool m), (.int .u8 ty), (.int .u16 sq), (.int .u32 st), (.int .u32 src), (.slice oa on oc), (.bool ex), (.int .u16 pr), (.slice xa xn xc), (.slice a n c), (.int .u8 pd)] 44)).alloc (.cells #[(.bool false), (.int .u8 0), (.int .u16 0), (.int .u32 0), (.int .u32 0), (.slice none 0 0), (.bool false), (.int .u16 0), (.slice none 0 0), (.slice none 0 0), (.int .u8 0)] 44)).alloc (.cells #[(.bool m), (.int .u8 ty), (.int .u16 sq), (.int .u32 st), (.int .u32 src), (.slice oa on oc), (.bool ex), (.int .u16 pr), (.slice xa xn xc), (.slice a n c), (.int .u8 pd)] 44))).alloc (.cells #[.int .u8 (sq / 256), .int .u8 (sq % 256)] 5))) := Lib.hid ((((((Below.refl _ w).alloc (Nat.le_refl _) _).alloc (by simp) _).alloc (by simp; omega) _)).alloc (by simp; omega) _)
  have S1 := Lib.hid (HZ.out.keep (HAL.out.mono hB))
  simp only [World.size_alloc] at hO
  have HO := Lib.hid hO
  have HQ1 : Hid ((((((w.alloc (.cells #[(.bool m), (.int .u8 ty), (.int .u16 sq), (.int .u32 st), (.int .u32 src), (.slice oa on oc), (.bool ex), (.int .u16 pr), (.slice xa xn xc), (.slice a n c), (.int .u8 pd)] 44)).alloc (.cells #[(.bool false), (.int .u8 0), (.int .u16 0), (.int .u32 0), (.int .u32 0), (.slice none 0 0), (.bool false), (.int .u16 0), (.slice none 0 0), (.slice none 0 0), (.int .u8 0)] 44)).alloc (.cells #[(.bool m), (.int .u8 ty), (.int .u16 sq), (.int .u32 st), (.int .u32 src), (.slice oa on oc), (.bool ex), (.int .u16 pr), (.slice xa xn xc), (.slice a n c), (.int .u8 pd)] 44))).alloc (.cells #[.int .u8 (sq / 256), .int .u8 (sq % 256)] 5)).heap[w.heap.size + 1]? = some (.cells #[(.bool false), (.int .u8 0), (.int .u16 0), (.int .u32 0), (.int .u32 0), (.slice none 0 0), (.bool false), (.int .u16 0), (.slice none 0 0), (.slice none 0 0), (.int .u8 0)] 44 (0, 0))) := Lib.hid (by rw [heap_alloc, if_neg (by simp)]; exact q1)
  have HQ2 : Hid ((((((w.alloc (.cells #[(.bool m), (.int .u8 ty), (.int .u16 sq), (.int .u32 st), (.int .u32 src), (.slice oa on oc), (.bool ex), (.int .u16 pr), (.slice xa xn xc), (.slice a n c), (.int .u8 pd)] 44)).alloc (.cells #[(.bool false), (.int .u8 0), (.int .u16 0), (.int .u32 0), (.int .u32 0), (.slice none 0 0), (.bool false), (.int .u16 0), (.slice none 0 0), (.slice none 0 0), (.int .u8 0)] 44)).alloc (.cells #[(.bool m), (.int .u8 ty), (.int .u16 sq), (.int .u32 st), (.int .u32 src), (.slice oa on oc), (.bool ex), (.int .u16 pr), (.slice xa xn xc), (.slice a n c), (.int .u8 pd)] 44))).alloc (.cells #[.int .u8 (sq / 256), .int .u8 (sq % 256)] 5)).heap[w.heap.size + 1 + 1]? = some (.cells #[(.bool m), (.int .u8 ty), (.int .u16 sq), (.int .u32 st), (.int .u32 src), (.slice oa on oc), (.bool ex), (.int .u16 pr), (.slice xa xn xc), (.slice a n c), (.int .u8 pd)] 44 (0, 0))) := Lib.hid (by rw [heap_alloc, if_neg (by simp)]; exact q2)
  clear q0 q1 q2 hO
  go_enter Try.func30, Try.ntmps30
  go_wp2_with
    (at_builtin
     refine append_src _ rfl (.tmp 19) (.tmp 21) 25 rfl (w.heap.size + 1 + 1 + 1) 5 i0 (.int .u8 0) 1 1 Try.underlying25 hi hz0 hz1 hz2 rfl (by decide) (.slice (some ⟨w.heap.size + 1 + 1 + 1, 0, none⟩) 2 2) 2 [.int .u8 (sq / 256), .int .u8 (sq % 256)] rfl HO.out a n c (bytesOf Z n) rfl ?d1 ?d2 ?d3 ?d4 ?d5 ?d6 ?d7 ?_
     case d1 => exact S1.out.nil
     case d2 => simp [bytesOf]
     case d3 => exact S1.out.news
     case d4 => intro u hu; simp [bytesOf] at hu; obtain ⟨i, _, rfl⟩ := hu; rfl
     case d5 => unfold maxLen; omega
     case d6 => omega
     case d7 => simp)
  intro v2 w5 own2 bel2
  obtain ⟨g1, h1⟩ : ∃ g1, g1 = w.heap.size + 1 := ⟨_, rfl⟩
  obtain ⟨g2, h2⟩ : ∃ g2, g2 = g1 + 1 := ⟨_, rfl⟩
  have w1' : w.heap.size ≤ g1 := by omega
  have w2' : w.heap.size ≤ g2 := by omega
  have n12 : g1 ≠ g2 := by omega
  have n21 : g2 ≠ g1 := by omega
  have l1 : g1 < w.heap.size + 1 + 1 + 1 := by omega
  have l2 : g2 < w.heap.size + 1 + 1 + 1 := by omega
  rw [← h1, ← h2]
  have HL5 : Hid (∀ k, v2.ownBlock = some k → w.heap.size + 1 + 1 + 1 ≤ k ∧ k < w5.heap.size) := Lib.hid own2.lt
  have Q2 : Hid (w5.heap[g2]? = some (.cells #[(.bool m), (.int .u8 ty), (.int .u16 sq), (.int .u32 st), (.int .u32 src), (.slice oa on oc), (.bool ex), (.int .u16 pr), (.slice xa xn xc), (.slice a n c), (.int .u8 pd)] 44 (0, 0))) := Lib.hid ((bel2.block g2 l2).trans (by rw [h2, h1]; exact HQ2.out))
  have Q1 : Hid (w5.heap[g1]? = some (.cells #[(.bool false), (.int .u8 0), (.int .u16 0), (.int .u32 0), (.int .u32 0), (.slice none 0 0), (.bool false), (.int .u16 0), (.slice none 0 0), (.slice none 0 0), (.int .u8 0)] 44 (0, 0))) := Lib.hid ((bel2.block g1 l1).trans (by rw [h1]; exact HQ1.out))
  have O6 : Hid (w5.ownsRow (w.heap.size + 1 + 1 + 1) 5 1 v2 (2 + n) (bytesOf (catZ (putZ (fun _ => 0) 0 sq 2) 2 Z) (2 + n))) := Lib.hid (by rw [bytesOf_cat, HP2.out]; exact own2)
  have B6 : Hid (Below w.heap.size w w5) := Lib.hid (HAL.out.trans (bel2.mono (by omega)))
  have H1 := Lib.hid h1
  have H2 := Lib.hid h2
  clear own2 bel2 HO HQ1 HQ2 h1 h2
  obtain ⟨va, vc, hv⟩ := own_len O6.out
  subst hv
  have e0 : w5.cell? ⟨g2, 0, none⟩ = some (.bool m) := cell_blk Q2.out
  have e1 : w5.cell? ⟨g2, 1, none⟩ = some (.int .u8 ty) := cell_blk Q2.out
  have e2 : w5.cell? ⟨g2, 2, none⟩ = some (.int .u16 sq) := cell_blk Q2.out
  have e3 : w5.cell? ⟨g2, 3, none⟩ = some (.int .u32 st) := cell_blk Q2.out
  have e4 : w5.cell? ⟨g2, 4, none⟩ = some (.int .u32 src) := cell_blk Q2.out
  have e5 : w5.cell? ⟨g2, 5, none⟩ = some (.slice oa on oc) := cell_blk Q2.out
  have e6 : w5.cell? ⟨g2, 6, none⟩ = some (.bool ex) := cell_blk Q2.out
  have e7 : w5.cell? ⟨g2, 7, none⟩ = some (.int .u16 pr) := cell_blk Q2.out
  have e8 : w5.cell? ⟨g2, 8, none⟩ = some (.slice xa xn xc) := cell_blk Q2.out
  have e9 : w5.cell? ⟨g2, 9, none⟩ = some (.slice a n c) := cell_blk Q2.out
  have e10 : w5.cell? ⟨g2, 10, none⟩ = some (.int .u8 pd) := cell_blk Q2.out
  have f1 : w5.frozen? ⟨g2, 1, none⟩ = false := free_blk Q2.out
  have f2 : w5.frozen? ⟨g2, 2, none⟩ = false := free_blk Q2.out
  have f4 : w5.frozen? ⟨g2, 4, none⟩ = false := free_blk Q2.out
  have f9 : w5.frozen? ⟨g2, 9, none⟩ = false := free_blk Q2.out
  have d0 : w5.cell? ⟨g1, 0, none⟩ = some (.bool false) := cell_blk Q1.out
  have d1 : w5.cell? ⟨g1, 1, none⟩ = some (.int .u8 0) := cell_blk Q1.out
  have d2 : w5.cell? ⟨g1, 2, none⟩ = some (.int .u16 0) := cell_blk Q1.out
  have d3 : w5.cell? ⟨g1, 3, none⟩ = some (.int .u32 0) := cell_blk Q1.out
  have d4 : w5.cell? ⟨g1, 4, none⟩ = some (.int .u32 0) := cell_blk Q1.out
  have d5 : w5.cell? ⟨g1, 5, none⟩ = some (.slice none 0 0) := cell_blk Q1.out
  have d6 : w5.cell? ⟨g1, 6, none⟩ = some (.bool false) := cell_blk Q1.out
  have d7 : w5.cell? ⟨g1, 7, none⟩ = some (.int .u16 0) := cell_blk Q1.out
  have d8 : w5.cell? ⟨g1, 8, none⟩ = some (.slice none 0 0) := cell_blk Q1.out
  have d9 : w5.cell? ⟨g1, 9, none⟩ = some (.slice none 0 0) := cell_blk Q1.out
  have d10 : w5.cell? ⟨g1, 10, none⟩ = some (.int .u8 0) := cell_blk Q1.out
  have z0 : w5.frozen? ⟨g1, 0, none⟩ = false := free_blk Q1.out
  have z1 : w5.frozen? ⟨g1, 1, none⟩ = false := free_blk Q1.out
  have z2 : w5.frozen? ⟨g1, 2, none⟩ = false := free_blk Q1.out
  have z3 : w5.frozen? ⟨g1, 3, none⟩ = false := free_blk Q1.out
  have z4 : w5.frozen? ⟨g1, 4, none⟩ = false := free_blk Q1.out
  have z5 : w5.frozen? ⟨g1, 5, none⟩ = false := free_blk Q1.out
  have z6 : w5.frozen? ⟨g1, 6, none⟩ = false := free_blk Q1.out
  have z7 : w5.frozen? ⟨g1, 7, none⟩ = false := free_blk Q1.out
  have z8 : w5.frozen? ⟨g1, 8, none⟩ = false := free_blk Q1.out
  have z9 : w5.frozen? ⟨g1, 9, none⟩ = false := free_blk Q1.out
  have z10 : w5.frozen? ⟨g1, 10, none⟩ = false := free_blk Q1.out
  go_wp2_with fail
  clear e0 d0 z0 e1 d1 z1 e2 d2 z2 e3 d3 z3 e4 d4 z4 e5 d5 z5 e6 d6 z6 e7 d7 z7 e8 d8 z8 e9 d9 z9 e10 d10 z10 f1 f2 f4 f9
  generalize hF : World.setCell _ _ _ = Wf
  have gf : Wf.heap[g1]? = some (.cells #[(.bool m), (.int .u8 ty'), (.int .u16 sq'), (.int .u32 st), (.int .u32 src'), (.slice oa on oc), (.bool ex), (.int .u16 pr), (.slice xa xn xc), (.slice va (2 + n) vc), (.int .u8 pd)] 44 (0, 0)) := by rw [← hF]; simp [heap_set, Q1.out, Q2.out, putIn, n12, n21]
  have O7 := own_blk1x O6.out (w' := Wf) (fun k hk => by
    have := (HL5.out k hk).1
    have := H1.out
    have := H2.out
    rw [← hF]
    simp [heap_set, show k ≠ g1 by omega, show k ≠ g2 by omega])
  have BF : Below w.heap.size w Wf := by
    rw [← hF]
    iterate 11 refine Below.setCell ?_ w1' _
    iterate 4 refine Below.setCell ?_ w2' _
    exact B6.out
  clear hF
  have r0 : Wf.cell? ⟨g1, 0, none⟩ = some (.bool m) := cell_blk gf
  have r1 : Wf.cell? ⟨g1, 1, none⟩ = some (.int .u8 ty') := cell_blk gf
  have r2 : Wf.cell? ⟨g1, 2, none⟩ = some (.int .u16 sq') := cell_blk gf
  have r3 : Wf.cell? ⟨g1, 3, none⟩ = some (.int .u32 st) := cell_blk gf
  have r4 : Wf.cell? ⟨g1, 4, none⟩ = some (.int .u32 src') := cell_blk gf
  have r5 : Wf.cell? ⟨g1, 5, none⟩ = some (.slice oa on oc) := cell_blk gf
  have r6 : Wf.cell? ⟨g1, 6, none⟩ = some (.bool ex) := cell_blk gf
  have r7 : Wf.cell? ⟨g1, 7, none⟩ = some (.int .u16 pr) := cell_blk gf
  have r8 : Wf.cell? ⟨g1, 8, none⟩ = some (.slice xa xn xc) := cell_blk gf
  have r9 : Wf.cell? ⟨g1, 9, none⟩ = some (.slice va (2 + n) vc) := cell_blk gf
  have r10 : Wf.cell? ⟨g1, 10, none⟩ = some (.int .u8 pd) := cell_blk gf
  refine bodyPost_ret (v := .agg #[(.bool m), (.int .u8 ty'), (.int .u16 sq'), (.int .u32 st), (.int .u32 src'), (.slice oa on oc), (.bool ex), (.int .u16 pr), (.slice xa xn xc), (.slice va (2 + n) vc), (.int .u8 pd)]) (by simp [results, Try.results30, go_sem, r0, r1, r2, r3, r4, r5, r6, r7, r8, r9, r10]) rfl ?_
  obtain ⟨a', c', he, hs⟩ := BS.of_owns O7 (fun i hi => by
    unfold catZ
    split
    · exact putZ_bd (fun _ h => by omega) i ‹_›
    · exact HZ.out.bd _ (by omega)) (by omega)
  cases he
  exact ⟨va, vc, rfl, hs, BF⟩
end Go.Proofs.Ytihbceippcgfgaa
