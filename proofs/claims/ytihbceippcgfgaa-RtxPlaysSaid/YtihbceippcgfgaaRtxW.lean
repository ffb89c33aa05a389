/-
  Chapter 34: a packet sent again.
-/
import Derived.Test.YtihbceippcgfgaaRtx
import Derived.Deep.RegionHeld3
namespace Go.Proofs.Ytihbceippcgfgaa
open Go.RowKit
set_option linter.unusedVariables false
set_option linter.unusedSimpArgs false
attribute [local irreducible] wpStill wpQuiet

theorem own_BS {w : World} {base n : Nat} {v : Value} {Z : Nat → Int} (h : w.ownsRow base 5 1 v n (bytesOf Z n)) (hm : ∀ i, i < n → 0 ≤ Z i ∧ Z i ≤ 255) (hn : n ≤ 1000000) : ∃ a cap, v = .slice a n cap ∧ BS w.heap.size w a n cap Z := BS.of_owns h hm hn
theorem keep_cell {w : World} {a : Addr} {v x : Value} {b i : Nat} (hne : b ≠ a.block) (h : w.cell? ⟨b, i, none⟩ = some x) : (w.setCell a v).cell? ⟨b, i, none⟩ = some x := ((Keeps.refl a.block w).setCell (.inl rfl) v).cell h hne
theorem own_blk1x {w w' : World} {base : Nat} {e : TypeId} {size : Nat} {v : Value} {n : Nat} {xs : List Value} (h : w.ownsRow base e size v n xs) (hb : ∀ k, v.ownBlock = some k → w'.heap[k]? = w.heap[k]?) : w'.ownsRow base e size v n xs := by
  obtain ⟨h1, h2⟩ := h
  refine ⟨h1, ?_⟩
  rcases h2 with h2 | ⟨g, cap, cur, hv, hg, hh, r⟩
  · exact .inl h2
  · subst hv
    exact .inr ⟨g, cap, cur, rfl, hg, by rw [hb g rfl]; exact hh, r⟩
theorem three3 (w : World) (x y z : Obj) : (((w.alloc x).alloc y).alloc z).heap[w.heap.size]? = some x ∧ (((w.alloc x).alloc y).alloc z).heap[w.heap.size + 1]? = some y ∧ (((w.alloc x).alloc y).alloc z).heap[w.heap.size + 1 + 1]? = some z := by
  refine ⟨?_, ?_, ?_⟩
  · rw [heap_alloc, heap_alloc, heap_alloc, if_neg (by simp; omega), if_neg (by simp), if_pos rfl]
  · rw [heap_alloc, heap_alloc, if_neg (by simp), if_pos (by simp)]
  · rw [heap_alloc, if_pos (by simp)]
set_option maxRecDepth 100000 in
set_option maxHeartbeats 8000000 in
theorem wrap_fresh (B : Nat) (w : World) (m : Bool) (ty sq st src : Int) (oa : Option Addr) (on oc : Nat) (ex : Bool) (pr : Int) (xa : Option Addr) (xn xc : Nat) (a : Option Addr) (n c : Nat) (Z : Nat → Int) (pd src' ty' sq' : Int) (hZ : BS B w a n c Z) (hB : B ≤ w.heap.size) (hn : n ≤ 9000) (hs0 : 0 ≤ sq) (hs1 : sq ≤ 65535) :
    Calls Try.prog 26 #[.agg #[.bool m, .int .u8 ty, .int .u16 sq, .int .u32 st, .int .u32 src, (.slice oa on oc), .bool ex, .int .u16 pr, (.slice xa xn xc), (.slice a n c), .int .u8 pd], .int .u32 src', .int .u8 ty', .int .u16 sq'] w fun e w' => ∃ a5 c5, e = .returned (.agg #[.bool m, .int .u8 ty', .int .u16 sq', .int .u32 st, .int .u32 src', (.slice oa on oc), .bool ex, .int .u16 pr, (.slice xa xn xc), (.slice a5 (2 + n) c5), .int .u8 pd]) ∧ BS w'.heap.size w' a5 (2 + n) c5 (catZ (putZ (fun _ => 0) 0 sq 2) 2 Z) ∧ Below w.heap.size w w' ∧ (∀ b o s, a5 = some ⟨b, o, s⟩ → w.heap.size ≤ b) := by
  have t3 := three3 w (.cells #[.bool m, .int .u8 ty, .int .u16 sq, .int .u32 st, .int .u32 src, (.slice oa on oc), .bool ex, .int .u16 pr, (.slice xa xn xc), (.slice a n c), .int .u8 pd] 44) (.cells #[.bool false, .int .u8 0, .int .u16 0, .int .u32 0, .int .u32 0, (.slice none 0 0), .bool false, .int .u16 0, (.slice none 0 0), (.slice none 0 0), .int .u8 0] 44) (.cells #[.bool m, .int .u8 ty, .int .u16 sq, .int .u32 st, .int .u32 src, (.slice oa on oc), .bool ex, .int .u16 pr, (.slice xa xn xc), (.slice a n c), .int .u8 pd] 44)
  have k1 : IntKind.u64.wrap sq = sq := by rw [IntKind.wrap_u64]; omega
  have k2 : sq % 18446744073709551616 = sq := by omega
  have HZ := Lib.hid hZ
  go_enter Try.func26, Try.ntmps26
  go_wp2_with fail
  generalize hW : World.alloc _ _ = W
  rw [hW] at t3
  have BW : Below w.heap.size w W := by rw [← hW]; exact (((Below.refl _ w).alloc (Nat.le_refl _) _).alloc (by simp) _).alloc (by simp; omega) _
  clear hW
  obtain ⟨q0, q1, q2⟩ := t3
  obtain ⟨g0, h0⟩ : ∃ g0, g0 = w.heap.size := ⟨_, rfl⟩
  rw [← h0] at q0 q1 q2
  rw [← h0]
  obtain ⟨g1, h1⟩ : ∃ g1, g1 = g0 + 1 := ⟨_, rfl⟩
  obtain ⟨g2, h2⟩ : ∃ g2, g2 = g1 + 1 := ⟨_, rfl⟩
  rw [← h1] at q1 q2
  rw [← h2] at q2
  rw [← h1, ← h2]
  have l0 := lt_of_block q0
  have l1 := lt_of_block q1
  have l2 := lt_of_block q2
  have w1' : w.heap.size ≤ g1 := by omega
  have w2' : w.heap.size ≤ g2 := by omega
  have n12 : g1 ≠ g2 := by omega
  have n02 : g0 ≠ g2 := by omega
  have n20 : g2 ≠ g0 := by omega
  clear h0 h1 h2
  have HBW := Lib.hid BW
  have HQ0 := Lib.hid q0
  have HQ1 := Lib.hid q1
  have HQ2 := Lib.hid q2
  have HP : Hid (Calls Try.prog 76 #[.slice none 0 0, .int .i64 2, .int .u64 sq] W.drew fun e w' => ∃ a c, e = .returned (.slice a 2 c) ∧ BS w'.heap.size w' a 2 c (putZ (fun _ => 0) 0 sq 2) ∧ Below W.heap.size W w') := Lib.hid ((put_good 0 none 0 0 (fun _ => 0) 2 sq W.drew ⟨by omega, by omega, fun i h => by omega, 0, 0, fun h => by omega, fun i h => by omega⟩ (by omega) (by omega) (by omega) (by omega) hs0 (by omega)).mono (by
    rintro e w' ⟨v, rfl, O1, B2⟩
    obtain ⟨a1, d1, rfl, S1⟩ := BS.of_owns O1 (fun i hi => putZ_bd (fun _ h => by omega) i hi) (by omega)
    exact ⟨a1, d1, rfl, S1, (Below.refl _ W).drew.trans B2⟩))
  have HC : Hid (∀ w3 a' c', BS w3.heap.size w3 a' 2 c' (putZ (fun _ => 0) 0 sq 2) → Below W.heap.size W w3 → Calls Try.prog 75 #[.slice (some ⟨w3.heap.size, 0, none⟩) 2 2] (w3.alloc (.cells #[.slice a' 2 c', .slice a n c] 25)) fun e w' => ∃ a5 c5, e = .returned (.slice a5 (2 + n) c5) ∧ w'.ownsRow W.heap.size 5 1 (.slice a5 (2 + n) c5) (2 + n) (bytesOf (catZ (putZ (fun _ => 0) 0 sq 2) 2 Z) (2 + n)) ∧ Below W.heap.size W w') := Lib.hid (fun w3 a' c' hs hb => by
    have hal : Below w3.heap.size w3 (w3.alloc (.cells #[.slice a' 2 c', .slice a n c] 25)) := (Below.refl _ w3).alloc (Nat.le_refl _) _
    have hsz := hb.size
    have hszW := HBW.out.size
    refine (concat_any w3.heap.size a' 2 c' _ a n c Z w3.heap.size 2 _ (hs.keep hal) (((HZ.out.keep ((HBW.out.trans (hb.mono hszW)).mono hB)).mono (by omega)).keep hal) (by simp) (by omega) (by omega) (by omega) (by omega) (cell_blk alloc_blk_new) (cell_blk alloc_blk_new)).mono ?_
    rintro e w' ⟨v, rfl, O1, B2⟩
    obtain ⟨a1, d1, hv1⟩ := own_len O1
    subst hv1
    exact ⟨a1, d1, rfl, World.ownsRow.mono O1 (by simp; omega), (hb.trans (hal.mono hsz)).trans (B2.mono (by simp; omega))⟩)
  have c2 : W.cell? ⟨g0, 2, none⟩ = some (.int .u16 sq) := cell_blk q0
  have c9 : W.cell? ⟨g0, 9, none⟩ = some (.slice a n c) := cell_blk q0
  have f9 : W.frozen? ⟨g2, 9, none⟩ = false := free_blk q2
  have d9 : W.cell? ⟨g2, 9, none⟩ = some (.slice a n c) := cell_blk q2
  clear q0 q1 q2 BW
  go_region_held3 (fun W => W.cell? ⟨g0, 2, none⟩ = some (.int .u16 sq) ∧ W.cell? ⟨g0, 9, none⟩ = some (.slice a n c)) (first | go_keep | exact hk3 | exact hk4 | exact hk5 _)
    (first | (go_at_call 76; refine HP.out.mono ?_; rintro e w3 ⟨a3, c3, rfl, S3, B3⟩; have hk3 := And.intro (Below.cell' B3 l0 c2) (Below.cell' B3 l0 c9)) | (go_at_call 75; refine (HC.out w3 a3 c3 S3 B3).mono ?_; rintro e w5 ⟨a5, c5, rfl, S5, B5⟩; have hk4 := And.intro (Below.cell' B5 l0 c2) (Below.cell' B5 l0 c9); have f5 : w5.frozen? ⟨g2, 9, none⟩ = false := free_blk ((B5.block g2 l2).trans HQ2.out); have d5 : w5.cell? ⟨g2, 9, none⟩ = some (.slice a n c) := cell_blk ((B5.block g2 l2).trans HQ2.out); have hk5 : ∀ v, (w5.setCell ⟨g2, 9, none⟩ v).cell? ⟨g0, 2, none⟩ = some (.int .u16 sq) ∧ (w5.setCell ⟨g2, 9, none⟩ v).cell? ⟨g0, 9, none⟩ = some (.slice a n c) := fun v => ⟨keep_cell n02 hk4.1, keep_cell n02 hk4.2⟩))
  generalize hW6 : w5.setCell _ _ = W6
  have L5 := S5.lt
  have Q2 : Hid (W6.heap[g2]? = some (.cells #[.bool m, .int .u8 ty, .int .u16 sq, .int .u32 st, .int .u32 src, (.slice oa on oc), .bool ex, .int .u16 pr, (.slice xa xn xc), (.slice a5 (2 + n) c5), .int .u8 pd] 44 (0, 0))) := Lib.hid (by rw [← hW6, set_blk _ ((B5.block g2 l2).trans HQ2.out)]; rfl)
  have Q1 : Hid (W6.heap[g1]? = some (.cells #[.bool false, .int .u8 0, .int .u16 0, .int .u32 0, .int .u32 0, (.slice none 0 0), .bool false, .int .u16 0, (.slice none 0 0), (.slice none 0 0), .int .u8 0] 44 (0, 0))) := Lib.hid (by rw [← hW6, set_blk_other _ (by show g1 ≠ g2; exact n12)]; exact (B5.block g1 l1).trans HQ1.out)
  have O6 := Lib.hid (own_blk1x S5 (w' := W6) (fun k hk => by rw [← hW6]; exact set_blk_other _ (by show k ≠ g2; have := (L5 k hk).1; omega)))
  have B6 : Hid (Below w.heap.size w W6) := Lib.hid (by rw [← hW6]; exact Below.setCell (HBW.out.trans (B5.mono HBW.out.size)) w2' _)
  have n21 : g2 ≠ g1 := by omega
  have HL5 := Lib.hid L5
  clear hW6 S5 B5 L5 hk3 hk4 hk5 f5 d5 c2 c9 f9 d9 HC HP
  have e0 : W6.cell? ⟨g2, 0, none⟩ = some (.bool m) := cell_blk Q2.out
  have e1 : W6.cell? ⟨g2, 1, none⟩ = some (.int .u8 ty) := cell_blk Q2.out
  have e2 : W6.cell? ⟨g2, 2, none⟩ = some (.int .u16 sq) := cell_blk Q2.out
  have e3 : W6.cell? ⟨g2, 3, none⟩ = some (.int .u32 st) := cell_blk Q2.out
  have e4 : W6.cell? ⟨g2, 4, none⟩ = some (.int .u32 src) := cell_blk Q2.out
  have e5 : W6.cell? ⟨g2, 5, none⟩ = some (.slice oa on oc) := cell_blk Q2.out
  have e6 : W6.cell? ⟨g2, 6, none⟩ = some (.bool ex) := cell_blk Q2.out
  have e7 : W6.cell? ⟨g2, 7, none⟩ = some (.int .u16 pr) := cell_blk Q2.out
  have e8 : W6.cell? ⟨g2, 8, none⟩ = some (.slice xa xn xc) := cell_blk Q2.out
  have e9 : W6.cell? ⟨g2, 9, none⟩ = some (.slice a5 (2 + n) c5) := cell_blk Q2.out
  have e10 : W6.cell? ⟨g2, 10, none⟩ = some (.int .u8 pd) := cell_blk Q2.out
  have f1 : W6.frozen? ⟨g2, 1, none⟩ = false := free_blk Q2.out
  have f2 : W6.frozen? ⟨g2, 2, none⟩ = false := free_blk Q2.out
  have f4 : W6.frozen? ⟨g2, 4, none⟩ = false := free_blk Q2.out
  have d0 : W6.cell? ⟨g1, 0, none⟩ = some (.bool false) := cell_blk Q1.out
  have d1 : W6.cell? ⟨g1, 1, none⟩ = some (.int .u8 0) := cell_blk Q1.out
  have d2 : W6.cell? ⟨g1, 2, none⟩ = some (.int .u16 0) := cell_blk Q1.out
  have d3 : W6.cell? ⟨g1, 3, none⟩ = some (.int .u32 0) := cell_blk Q1.out
  have d4 : W6.cell? ⟨g1, 4, none⟩ = some (.int .u32 0) := cell_blk Q1.out
  have d5 : W6.cell? ⟨g1, 5, none⟩ = some (.slice none 0 0) := cell_blk Q1.out
  have d6 : W6.cell? ⟨g1, 6, none⟩ = some (.bool false) := cell_blk Q1.out
  have d7 : W6.cell? ⟨g1, 7, none⟩ = some (.int .u16 0) := cell_blk Q1.out
  have d8 : W6.cell? ⟨g1, 8, none⟩ = some (.slice none 0 0) := cell_blk Q1.out
  have d9 : W6.cell? ⟨g1, 9, none⟩ = some (.slice none 0 0) := cell_blk Q1.out
  have d10 : W6.cell? ⟨g1, 10, none⟩ = some (.int .u8 0) := cell_blk Q1.out
  have z0 : W6.frozen? ⟨g1, 0, none⟩ = false := free_blk Q1.out
  have z1 : W6.frozen? ⟨g1, 1, none⟩ = false := free_blk Q1.out
  have z2 : W6.frozen? ⟨g1, 2, none⟩ = false := free_blk Q1.out
  have z3 : W6.frozen? ⟨g1, 3, none⟩ = false := free_blk Q1.out
  have z4 : W6.frozen? ⟨g1, 4, none⟩ = false := free_blk Q1.out
  have z5 : W6.frozen? ⟨g1, 5, none⟩ = false := free_blk Q1.out
  have z6 : W6.frozen? ⟨g1, 6, none⟩ = false := free_blk Q1.out
  have z7 : W6.frozen? ⟨g1, 7, none⟩ = false := free_blk Q1.out
  have z8 : W6.frozen? ⟨g1, 8, none⟩ = false := free_blk Q1.out
  have z9 : W6.frozen? ⟨g1, 9, none⟩ = false := free_blk Q1.out
  have z10 : W6.frozen? ⟨g1, 10, none⟩ = false := free_blk Q1.out
  go_wp2_with fail
  generalize hF : World.setCell _ _ _ = Wf
  have gf : Wf.heap[g1]? = some (.cells #[.bool m, .int .u8 ty', .int .u16 sq', .int .u32 st, .int .u32 src', (.slice oa on oc), .bool ex, .int .u16 pr, (.slice xa xn xc), (.slice a5 (2 + n) c5), .int .u8 pd] 44 (0, 0)) := by rw [← hF]; simp [heap_set, Q1.out, Q2.out, putIn, n12, n21]
  have O7 := own_blk1x O6.out (w' := Wf) (fun k hk => by
    have := (HL5.out k hk).1
    rw [← hF]
    simp [heap_set, show k ≠ g1 by omega, show k ≠ g2 by omega])
  have BF : Below w.heap.size w Wf := by
    rw [← hF]
    iterate 11 refine Below.setCell ?_ w1' _
    iterate 3 refine Below.setCell ?_ w2' _
    exact B6.out
  clear hF
  clear e0 d0 z0
  clear e1 d1 z1
  clear e2 d2 z2
  clear e3 d3 z3
  clear e4 d4 z4
  clear e5 d5 z5
  clear e6 d6 z6
  clear e7 d7 z7
  clear e8 d8 z8
  clear e9 d9 z9
  clear e10 d10 z10
  have r0 : Wf.cell? ⟨g1, 0, none⟩ = some (.bool m) := cell_blk gf
  have r1 : Wf.cell? ⟨g1, 1, none⟩ = some (.int .u8 ty') := cell_blk gf
  have r2 : Wf.cell? ⟨g1, 2, none⟩ = some (.int .u16 sq') := cell_blk gf
  have r3 : Wf.cell? ⟨g1, 3, none⟩ = some (.int .u32 st) := cell_blk gf
  have r4 : Wf.cell? ⟨g1, 4, none⟩ = some (.int .u32 src') := cell_blk gf
  have r5 : Wf.cell? ⟨g1, 5, none⟩ = some (.slice oa on oc) := cell_blk gf
  have r6 : Wf.cell? ⟨g1, 6, none⟩ = some (.bool ex) := cell_blk gf
  have r7 : Wf.cell? ⟨g1, 7, none⟩ = some (.int .u16 pr) := cell_blk gf
  have r8 : Wf.cell? ⟨g1, 8, none⟩ = some (.slice xa xn xc) := cell_blk gf
  have r9 : Wf.cell? ⟨g1, 9, none⟩ = some (.slice a5 (2 + n) c5) := cell_blk gf
  have r10 : Wf.cell? ⟨g1, 10, none⟩ = some (.int .u8 pd) := cell_blk gf
  refine bodyPost_ret (v := .agg #[.bool m, .int .u8 ty', .int .u16 sq', .int .u32 st, .int .u32 src', (.slice oa on oc), .bool ex, .int .u16 pr, (.slice xa xn xc), (.slice a5 (2 + n) c5), .int .u8 pd]) (by simp [results, Try.results26, go_sem, r0, r1, r2, r3, r4, r5, r6, r7, r8, r9, r10]) rfl ?_
  obtain ⟨a', c', he, hs⟩ := BS.of_owns O7 (fun i hi => by
    unfold catZ
    split
    · exact putZ_bd (fun _ h => by omega) i ‹_›
    · exact HZ.out.bd _ (by omega)) (by omega)
  cases he
  exact ⟨a5, c5, rfl, hs, BF, fun b o s e => by subst e; have := (HL5.out b rfl).1; have := HBW.out.size; omega⟩
theorem wrap_any (B : Nat) (w : World) (m : Bool) (ty sq st src : Int) (oa : Option Addr) (on oc : Nat) (ex : Bool) (pr : Int) (xa : Option Addr) (xn xc : Nat) (a : Option Addr) (n c : Nat) (Z : Nat → Int) (pd src' ty' sq' : Int) (hZ : BS B w a n c Z) (hB : B ≤ w.heap.size) (hn : n ≤ 9000) (hs0 : 0 ≤ sq) (hs1 : sq ≤ 65535) :
    Calls Try.prog 26 #[.agg #[.bool m, .int .u8 ty, .int .u16 sq, .int .u32 st, .int .u32 src, (.slice oa on oc), .bool ex, .int .u16 pr, (.slice xa xn xc), (.slice a n c), .int .u8 pd], .int .u32 src', .int .u8 ty', .int .u16 sq'] w fun e w' => ∃ a5 c5, e = .returned (.agg #[.bool m, .int .u8 ty', .int .u16 sq', .int .u32 st, .int .u32 src', (.slice oa on oc), .bool ex, .int .u16 pr, (.slice xa xn xc), (.slice a5 (2 + n) c5), .int .u8 pd]) ∧ BS w'.heap.size w' a5 (2 + n) c5 (catZ (putZ (fun _ => 0) 0 sq 2) 2 Z) ∧ Below w.heap.size w w' :=
  (wrap_fresh B w m ty sq st src oa on oc ex pr xa xn xc a n c Z pd src' ty' sq' hZ hB hn hs0 hs1).mono (by rintro e w' ⟨a5, c5, h1, h2, h3, _⟩; exact ⟨a5, c5, h1, h2, h3⟩)
end Go.Proofs.Ytihbceippcgfgaa
