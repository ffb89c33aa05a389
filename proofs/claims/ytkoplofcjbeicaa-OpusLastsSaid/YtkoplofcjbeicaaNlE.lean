/-
  Chapter 41: the assembler: Drop, part, Put of a piece and of a unit.
-/
import Derived.Test.YtkoplofcjbeicaaNlC
import Derived.Test.YtkoplofcjbeicaaMixO
namespace Go.Proofs.Ytkoplofcjbeicaa
open Go.RowKit
set_option linter.unusedVariables false
set_option linter.unusedSimpArgs false
attribute [local irreducible] wpStill wpQuiet MixC.wpMix
attribute [local go_sem] MixC.rdOp MixC.rd MixC.rdUpon MixC.mvUpon

/-- an assembler -/
def asm (w : World) (g : Nat) (v : Value) : Prop := w.heap[g]? = some (.cells #[v, .int .i64 0] 106 (0, 0))
theorem asm.c0 {w : World} {g : Nat} {v : Value} (h : asm w g v) : w.cell? ⟨g, 0, none⟩ = some v := cell_blk h
theorem asm.c1 {w : World} {g : Nat} {v : Value} (h : asm w g v) : w.cell? ⟨g, 1, none⟩ = some (.int .i64 0) := cell_blk h
theorem asm.f0 {w : World} {g i : Nat} {v : Value} (h : asm w g v) : w.frozen? ⟨g, i, none⟩ = false := free_blk h
theorem asm.set {w : World} {g : Nat} {v : Value} (h : asm w g v) (u : Value) : asm (w.setCell ⟨g, 0, none⟩ u) g u := by unfold asm; rw [set_blk _ h]; rfl
theorem asm.keep {w w' : World} {g : Nat} {v : Value} (h : asm w g v) (b : Below w.heap.size w w') : asm w' g v := Below.blk b h (lt_of_block h)
theorem new41 (w : World) : Calls Try.prog 28 #[] w fun e w' => ∃ g, e = .returned (.pointer (some ⟨g, 0, none⟩)) ∧ w.heap.size ≤ g ∧ asm w' g (.slice none 0 0) ∧ Below w.heap.size w w' := by
  go_enter Try.func28, Try.ntmps28
  go_wp2_with fail
  go_ret
  exact ⟨_, rfl, Nat.le_refl _, alloc_blk_new, (Below.refl _ _).alloc (Nat.le_refl _) _⟩
theorem lost41 (w : World) (g : Nat) (v : Value) (h : asm w g v) : Calls Try.prog 30 #[.pointer (some ⟨g, 0, none⟩)] w fun e w' => e = .returned (.int .i64 0) ∧ w = w' := by
  have c1 := h.c1
  go_enter Try.func30, Try.ntmps30
  go_wp2_with fail
  go_ret
  exact ⟨rfl, rfl⟩
theorem begun41 (w : World) (g : Nat) (h : asm w g (.slice none 0 0)) : Calls Try.prog 31 #[.pointer (some ⟨g, 0, none⟩)] w fun e w' => e = .returned (.int .i64 0) ∧ w = w' := by
  have c0 := h.c0
  go_enter Try.func31, Try.ntmps31
  go_wp2_with fail
  go_ret
  exact ⟨rfl, rfl⟩
theorem drop41 (w : World) (g : Nat) (h : asm w g (.slice none 0 0)) : Calls Try.prog 60 #[.pointer (some ⟨g, 0, none⟩)] w fun e w' => e = .returned (.tuple #[]) ∧ asm w' g (.slice none 0 0) ∧ Keeps g w w' := by
  have c0 := h.c0
  have f0 := h.f0 (i := 0)
  have hs := h.set (.slice none 0 0)
  have hk : Keeps g w (w.setCell ⟨g, 0, none⟩ (.slice none 0 0)) := (Keeps.refl g w).setCell (a := ⟨g, 0, none⟩) (.inl rfl) _
  go_enter Try.func60, Try.ntmps60
  go_wp2_with fail
  go_end0
  exact ⟨rfl, hs, hk⟩
/-- bytes of a piece -/
structure PcB (w : World) (b m c : Nat) (Y : Nat → Int) (u z : Int) : Prop where
  bs : BS w.heap.size w (some ⟨b, 0, none⟩) m c Y
  len : 3 ≤ m ∧ m ≤ 100000
  y0 : Y 0 = u / 32 * 32 + 28
  y1 : Y 1 = z + u % 32
  hu : 0 ≤ u ∧ u ≤ 255
  ht : 1 ≤ u % 32 ∧ u % 32 ≤ 23
theorem PcB.keep {w w' : World} {b m c : Nat} {Y : Nat → Int} {u z : Int} (h : PcB w b m c Y u z) (k : Below (b + 1) w w') : PcB w' b m c Y u z := by
  obtain ⟨b', o', he, hb, hc⟩ := h.bs.at_ (by have := h.bs.le; have := h.len; omega)
  cases he
  refine ⟨⟨h.bs.le, h.bs.max, h.bs.bd, b, 0, fun _ => ⟨rfl, by have := k.size; omega⟩, fun i hi => Below.cell' k (by omega) (hc i hi)⟩, h.len, h.y0, h.y1, h.hu, h.ht⟩
theorem PcB.cells {w : World} {b m c : Nat} {Y : Nat → Int} {u z : Int} (h : PcB w b m c Y u z) : b < w.heap.size ∧ w.cell? ⟨b, 0, none⟩ = some (.int .u8 (u / 32 * 32 + 28)) ∧ w.cell? ⟨b, 1, none⟩ = some (.int .u8 (z + u % 32)) := by
  have h1 := h.len
  obtain ⟨b', o', he, hb, hc⟩ := h.bs.at_ (by have := h.bs.le; omega)
  cases he
  have c0 := hc 0 (by omega)
  have c1 := hc 1 (by omega)
  rw [h.y0] at c0
  rw [h.y1] at c1
  exact ⟨hb, c0, c1⟩
/-- its data -/
theorem BS.drop' {B : Nat} {w : World} {b off n c : Nat} {Z : Nat → Int} (h : BS B w (some ⟨b, off, none⟩) n c Z) (k : Nat) (hk : k ≤ n) (hc : 0 < c) : BS B w (some ⟨b, off + k, none⟩) (n - k) (c - k) (fun x => Z (k + x)) := h.drop k hk hc

theorem elU8n : ElemT Try.prog 22 5 1 1 := ElemT.mk' (z := .int .u8 0) Try.underlying22 infoU8 rfl (by decide)
/-- bytes behind bytes of a call's own -/
theorem app_bs {w : World} {G : Nat} {a : Option Addr} {n c : Nat} {L : List Int} (h : w.ownsRow G 5 1 (.slice a n c) n (u8s L)) {B : Nat} {ax : Option Addr} {m cx : Nat} {Z : Nat → Int} (hb : BS B w ax m cx Z) (hn : n + m ≤ 1000000) (hG : G ≤ w.heap.size) :
    ∃ a' c' W, (∀ ty, (Builtin.append_ #[22, 22] ty #[.slice a n c, .slice ax m cx]).run Try.prog w = .ok (.slice a' (n + m) c') W) ∧ W.ownsRow G 5 1 (.slice a' (n + m) c') (n + m) (u8s (L ++ zs Z m)) ∧ Below G w W := by
  obtain ⟨a', c', W, A, b⟩ := appS elU8n h ax m cx (u8s (zs Z m)) hb.nils (by rw [u8s_len, zs_len, Nat.mul_one]) hb.news' (u8s_one _) hn (by omega) hG
  exact ⟨a', c', W, A.run, by rw [u8s_app]; exact A.own, b⟩
set_option maxRecDepth 100000 in
set_option maxHeartbeats 4000000 in
theorem part_first (w : World) (g b m c : Nat) (Y : Nat → Int) (u : Int) (h : asm w g (.slice none 0 0)) (hp : PcB w b m c Y u 128) (hbg : b < g) :
    Calls Try.prog 62 #[.pointer (some ⟨g, 0, none⟩), .slice (some ⟨b, 0, none⟩) m c] w fun e w' => e = .returned (.tuple #[.slice none 0 0, .int .i64 0]) ∧ ∃ a' c', asm w' g (.slice a' (1 + (m - 2)) c') ∧ w'.ownsRow (g + 1) 5 1 (.slice a' (1 + (m - 2)) c') (1 + (m - 2)) (u8s ([u] ++ zs (fun x => Y (2 + x)) (m - 2))) ∧ Below g w w' := by
  obtain ⟨hb, c0, c1⟩ := hp.cells
  have hm := hp.len
  have hle := hp.bs.le
  have hmx := hp.bs.max
  obtain ⟨n1, n2, n3, n4, -, n6, -⟩ := nb u hp.hu
  obtain ⟨f1, f2, f3, f4, f5, -⟩ := nf 128 (u % 32) (by omega) (by have := hp.hu; omega)
  rw [if_pos (by omega)] at f3
  have m0 : 0 < m := by omega
  have m1 : 1 < m := by omega
  have m2 : 2 ≤ m := by omega
  have mc : ¬ c = 2 := by omega
  have m1' : (1 : Int) < (m : Int) := by omega
  have m2' : (2 : Int) ≤ (m : Int) := by omega
  have mc' : m ≤ c := hle
  have HP := Lib.hid hp
  have HA := Lib.hid h
  have HD := Lib.hid (drop41 w.drew g h)
  clear hp h
  go_enter Try.func62, Try.ntmps62
  go_wp2_with fail
  refine wp_region_still_lit (by kernel_rfl) (by kernel_rfl) ?_
  iterate 14 still_step
  refine wpStill_nil ?_
  change Exit.then _ _ _ _ w.drew
  go_wp2_with fail
  refine HD.out.mono ?_
  rintro e w1 ⟨rfl, h1, k1⟩
  have hgl := lt_of_block h1
  have hb1 : Below g w w1 := (Below.refl g w).drew.trans (k1.below (by have := lt_of_block HA.out; exact Nat.le_of_lt this) (Nat.le_refl _))
  have hP1 := HP.out.keep (hb1.mono (by omega))
  have r0 : (w1.alloc (.cells #[.int .u8 u] 5)).ownsRow (g + 1) 5 1 (.slice (some ⟨w1.heap.size, 0, none⟩) 1 1) 1 (u8s [u]) := ⟨rfl, .inr ⟨w1.heap.size, 1, _, rfl, hgl, alloc_blk_new, Nat.le_refl _, by unfold maxLen; omega, rfl, rfl⟩⟩
  have bA : Below w1.heap.size w1 (w1.alloc (.cells #[.int .u8 u] 5)) := (Below.refl _ _).alloc (Nat.le_refl _) _
  have hbs := (hP1.keep (bA.mono (by have := hP1.cells.1; omega))).bs.drop' 2 (by omega) (by omega)
  obtain ⟨a5, c5, W5, r5, O5, b5⟩ := app_bs r0 hbs (by omega) (by have := bA.size; omega)
  have hA5 : asm W5 g (.slice none 0 0) := Below.blk b5 (h1.keep bA) (by omega)
  have HRUN := Lib.hid r5
  have f0 := hA5.f0 (i := 0)
  have cA0 := hA5.c0
  have HA5 := Lib.hid (hA5.set (.slice a5 (1 + (m - 2)) c5))
  have HO5 : Hid ((W5.setCell ⟨g, 0, none⟩ (.slice a5 (1 + (m - 2)) c5)).ownsRow (g + 1) 5 1 (.slice a5 (1 + (m - 2)) c5) (1 + (m - 2)) (u8s ([u] ++ zs (fun x => Y (2 + x)) (m - 2)))) := Lib.hid (own_blk1y O5 (fun q hq => set_blk_other _ (by have := O5.lt q hq; show q ≠ g; omega)))
  have HB5 : Hid (Below g w (W5.setCell ⟨g, 0, none⟩ (.slice a5 (1 + (m - 2)) c5))) := Lib.hid ((hb1.trans ((bA.mono (by omega)).trans (b5.mono (by omega)))).trans (((Keeps.refl g W5).setCell (a := ⟨g, 0, none⟩) (.inl rfl) _).below (by have := b5.size; have := bA.size; omega) (Nat.le_refl _)))
  clear hb1 hP1 r0 bA hbs r5 O5 b5 hA5 k1 h1 HA HP
  go_wp2_with (at_builtin; refine wpList_of_append rfl (.tmp 28) (.tmp 30) 22 rfl _ _ _ rfl rfl HRUN.out ?_)
  go_returns
  exact ⟨rfl, a5, c5, HA5.out, HO5.out, HB5.out⟩
def PnPost (g n m : Nat) (Y : Nat → Int) (UL : List Int) (z : Int) (w : World) (e : Ending) (w' : World) : Prop :=
  ((z = 0 ∧ e = .returned (.tuple #[.slice none 0 0, .int .i64 0]) ∧ ∃ a' c', asm w' g (.slice a' (n + (m - 2)) c') ∧ w'.ownsRow (g + 1) 5 1 (.slice a' (n + (m - 2)) c') (n + (m - 2)) (u8s (UL ++ zs (fun x => Y (2 + x)) (m - 2)))) ∨
    (z = 64 ∧ ∃ gx a' c', e = .returned (.tuple #[.slice (some ⟨gx, 0, none⟩) 1 1, .int .i64 0]) ∧ w'.heap[gx]? = some (.cells #[.slice a' (n + (m - 2)) c'] 22 (0, 0)) ∧ asm w' g (.slice none 0 0) ∧ w'.ownsRow (g + 1) 5 1 (.slice a' (n + (m - 2)) c') (n + (m - 2)) (u8s (UL ++ zs (fun x => Y (2 + x)) (m - 2))))) ∧ Below g w w'
set_option maxRecDepth 100000 in
set_option maxHeartbeats 4000000 in
theorem part_next (w : World) (g b m c : Nat) (Y : Nat → Int) (u z : Int) (q n cu : Nat) (UL : List Int) (h : asm w g (.slice (some ⟨q, 0, none⟩) n cu)) (ho : w.ownsRow (g + 1) 5 1 (.slice (some ⟨q, 0, none⟩) n cu) n (u8s UL)) (hn : 1 ≤ n) (hn2 : n ≤ 100000) (hUL : UL[0]? = some u) (hz : z = 0 ∨ z = 64) (hp : PcB w b m c Y u z) (hbg : b < g) :
    Calls Try.prog 62 #[.pointer (some ⟨g, 0, none⟩), .slice (some ⟨b, 0, none⟩) m c] w (PnPost g n m Y UL z w) := by
  obtain ⟨hb, c0, c1⟩ := hp.cells
  have hm := hp.len
  have hle := hp.bs.le
  have hmx := hp.bs.max
  obtain ⟨n1, n2, n3, n4, -, n6, -⟩ := nb u hp.hu
  obtain ⟨f1, f2, f3, f4, f5, -⟩ := nf z (u % 32) (by omega) (by have := hp.hu; omega)
  rw [if_neg (by omega)] at f3
  have hlq := (ho.lt q rfl)
  have hgl := lt_of_block h
  have hqg : q ≠ g := by omega
  have cu0 : w.cell? ⟨q, 0, none⟩ = some (.int .u8 u) := own_cell ho (show (u8s UL)[0]? = some (.int .u8 u) by simp [u8s, hUL])
  have cg0 := h.c0
  have m0 : 0 < m := by omega
  have m1 : 1 < m := by omega
  have m2 : 2 ≤ m := by omega
  have mc : ¬ c = 2 := by omega
  have m1' : (1 : Int) < (m : Int) := by omega
  have m2' : (2 : Int) ≤ (m : Int) := by omega
  have mc' : m ≤ c := hle
  have n0 : 0 < n := by omega
  have n0' : ((n : Int) == 0) = false := by simp; omega
  have nu : (u != u) = false := by simp
  have hdd : Below w.heap.size w w.drew.drew := (Below.refl _ _).drew.drew
  have hbs := hp.bs.drop' 2 (by omega) (by omega)
  obtain ⟨a5, c5, W5, A5, b5⟩ := appS elU8n (own_below ho hdd) (some ⟨b, 0 + 2, none⟩) (m - 2) (c - 2) (u8s (zs (fun x => Y (2 + x)) (m - 2))) (hbs.keep hdd).nils (by rw [u8s_len, zs_len, Nat.mul_one]) (hbs.keep hdd).news' (u8s_one _) (by omega) (by omega) (by show g + 1 ≤ w.heap.size; omega)
  have O5 : W5.ownsRow (g + 1) 5 1 (.slice a5 (n + (m - 2)) c5) (n + (m - 2)) (u8s (UL ++ zs (fun x => Y (2 + x)) (m - 2))) := by rw [u8s_app]; exact A5.own
  have C5 : Hid (But (some q) w W5) := Lib.hid ((But.of_below hdd).tr A5.but)
  have C0 : Hid (But (some q) w w.drew.drew) := Lib.hid (But.of_below hdd)
  have hA5 : asm W5 g (.slice (some ⟨q, 0, none⟩) n cu) := C5.out.blk h (fun e => hqg (by injection e))
  have O5s := Lib.hid (own_len O5)
  have HRUN := Lib.hid A5.run
  have HC : Hid (∀ y : { w' : World // But (some q) w w' }, y.1.cell? ⟨g, 0, none⟩ = some (.slice (some ⟨q, 0, none⟩) n cu)) := Lib.hid (fun y => y.2.cell cg0 (fun e => hqg (by injection e)))
  have f0 := hA5.f0 (i := 0)
  have cA0 := hA5.c0
  have HA5 : Hid (asm (W5.setCell ⟨g, 0, none⟩ (.slice a5 (n + (m - 2)) c5)) g (.slice a5 (n + (m - 2)) c5)) := Lib.hid (hA5.set (.slice a5 (n + (m - 2)) c5))
  have HO5 : Hid ((W5.setCell ⟨g, 0, none⟩ (.slice a5 (n + (m - 2)) c5)).ownsRow (g + 1) 5 1 (.slice a5 (n + (m - 2)) c5) (n + (m - 2)) (u8s (UL ++ zs (fun x => Y (2 + x)) (m - 2)))) := Lib.hid (own_blk1y O5 (fun q hq => set_blk_other _ (by have := O5.lt q hq; show q ≠ g; omega)))
  have HB5 : Hid (Below g w (W5.setCell ⟨g, 0, none⟩ (.slice a5 (n + (m - 2)) c5))) := Lib.hid ((C5.out.below (by omega) (fun k e => by injection e; omega)).trans (((Keeps.refl g W5).setCell (a := ⟨g, 0, none⟩) (.inl rfl) _).below (by have := C5.out.size; omega) (Nat.le_refl _)))
  clear hbs O5 A5 b5 hA5 hp h ho hdd
  go_enter Try.func62, Try.ntmps62
  go_wp2_with fail
  refine wp_region_still_lit (by kernel_rfl) (by kernel_rfl) ?_
  iterate 14 still_step
  refine wpStill_nil ?_
  change Exit.then _ _ _ _ w.drew
  have cg0' : w.drew.cell? ⟨g, 0, none⟩ = some (.slice (some ⟨q, 0, none⟩) n cu) := cg0
  go_upto_region 9 with (fail)
  have hne : Nonempty { w' : World // But (some q) w w' } := ⟨⟨_, C0.out⟩⟩
  have cg1 := HC.out
  refine MixC.wp_region_mix_tail 10 [7] (But (some q) w) C0.out (by kernel_rfl) (by kernel_rfl) (by kernel_rfl) ?_
  simp only [List.take_succ_cons, List.take_zero, List.drop_succ_cons, List.drop_zero]
  (iterate 7 (refine MixC.mix_read rfl (fun K hK => ?_); go_simp; refine hK _ ?_; clear hK K))
  (refine MixC.mix_move rfl (fun K hK => ?_); refine Eq.mpr (if_pos rfl) ?_; refine mv_app (s := .tmp 56) (x := .tmp 58) (t := 22) rfl rfl rfl HRUN.out C5.out (hK _ _ ?_); clear hK K)
  (iterate 2 (refine MixC.mix_read rfl (fun K hK => ?_); go_simp; refine hK _ ?_; clear hK K))
  refine MixC.mix_nil ?_
  change wpList _ _ _ _ _ W5
  clear cg1 hne
  have hg5 : g < W5.heap.size := by have := C5.out.size; omega
  have hg6 : g ≠ W5.heap.size := by omega
  have hg7 : W5.heap.size ≠ g := by omega
  rcases hz with rfl | rfl
  · rw [if_neg (by omega), Int.zero_add] at f4
    go_wp2_with fail
    go_returns
    exact ⟨.inl ⟨rfl, rfl, a5, c5, HA5.out, HO5.out⟩, HB5.out⟩
  · rw [if_pos (by omega)] at f4
    have z6 : ((W5.setCell ⟨g, 0, none⟩ (.slice a5 (n + (m - 2)) c5)).setCell ⟨g, 0, none⟩ (.slice none 0 0)).heap.size = W5.heap.size := by simp [World.setCell]
    have HX : Hid (asm ((((W5.setCell ⟨g, 0, none⟩ (.slice a5 (n + (m - 2)) c5)).setCell ⟨g, 0, none⟩ (.slice none 0 0))).alloc (.cells #[.slice a5 (n + (m - 2)) c5] 22)) g (.slice none 0 0)) := Lib.hid ((HA5.out.set _).keep ((Below.refl _ _).alloc (Nat.le_refl _) _))
    have HY : Hid (((((W5.setCell ⟨g, 0, none⟩ (.slice a5 (n + (m - 2)) c5)).setCell ⟨g, 0, none⟩ (.slice none 0 0))).alloc (.cells #[.slice a5 (n + (m - 2)) c5] 22)).heap[W5.heap.size]? = some (.cells #[.slice a5 (n + (m - 2)) c5] 22 (0, 0))) := Lib.hid (by rw [← z6]; exact alloc_blk_new)
    have HZ : Hid (((((W5.setCell ⟨g, 0, none⟩ (.slice a5 (n + (m - 2)) c5)).setCell ⟨g, 0, none⟩ (.slice none 0 0))).alloc (.cells #[.slice a5 (n + (m - 2)) c5] 22)).ownsRow (g + 1) 5 1 (.slice a5 (n + (m - 2)) c5) (n + (m - 2)) (u8s (UL ++ zs (fun x => Y (2 + x)) (m - 2)))) := Lib.hid (own_below (own_blk1y HO5.out (fun q hq => set_blk_other _ (by have := HO5.out.lt q hq; show q ≠ g; omega))) ((Below.refl _ _).alloc (Nat.le_refl _) _))
    have HB6 : Hid (Below g w ((((W5.setCell ⟨g, 0, none⟩ (.slice a5 (n + (m - 2)) c5)).setCell ⟨g, 0, none⟩ (.slice none 0 0))).alloc (.cells #[.slice a5 (n + (m - 2)) c5] 22))) := Lib.hid ((HB5.out.trans (((Keeps.refl g _).setCell (a := ⟨g, 0, none⟩) (.inl rfl) _).below (by simp [World.setCell]; omega) (Nat.le_refl _))).alloc (by rw [z6]; omega) _)
    clear z6
    go_wp2_with fail
    go_returns
    exact ⟨.inr ⟨rfl, W5.heap.size, a5, c5, rfl, HY.out, HX.out, HZ.out⟩, HB6.out⟩
theorem units_pc (w : World) (b m c : Nat) (Y : Nat → Int) (u z : Int) (hz : z = 0 ∨ z = 64 ∨ z = 128) (hp : PcB w b m c Y u z) :
    Calls Try.prog 59 #[.slice (some ⟨b, 0, none⟩) m c] w fun e w' => ∃ v, e = .returned (.tuple #[v, .int .i64 0]) ∧ Below w.heap.size w w' := by
  obtain ⟨hb, c0, c1⟩ := hp.cells
  have hu := hp.hu
  have ht := hp.ht
  obtain ⟨-, -, -, -, -, -, n7⟩ := nb u hu
  obtain ⟨f1, f2, f3, f4, f5, f6⟩ := nf z (u % 32) (by omega) (by omega)
  refine (units_piece b 0 m c (u / 32 * 32 + 28) (z + u % 32) w c0 (by omega) n7 c1 (by omega) hp.len.1 hp.bs.le hp.bs.max (by rw [f6]; exact ht) f2 ?_).mono ?_
  · rcases hz with rfl | rfl | rfl
    · left; rw [f3, if_neg (by omega)]
    · left; rw [f3, if_neg (by omega)]
    · right; rw [f4, if_neg (by omega)]
  · rintro e w' ⟨rfl, _, b⟩
    exact ⟨_, rfl, b⟩
set_option maxRecDepth 100000 in
set_option maxHeartbeats 2000000 in
theorem put_first (w : World) (g b m c : Nat) (Y : Nat → Int) (u : Int) (h : asm w g (.slice none 0 0)) (hp : PcB w b m c Y u 128) (hbg : b < g) :
    Calls Try.prog 29 #[.pointer (some ⟨g, 0, none⟩), .slice (some ⟨b, 0, none⟩) m c] w fun e w' => e = .returned (.tuple #[.slice none 0 0, .int .i64 0]) ∧ ∃ a' c', asm w' g (.slice a' (1 + (m - 2)) c') ∧ w'.ownsRow (g + 1) 5 1 (.slice a' (1 + (m - 2)) c') (1 + (m - 2)) (u8s ([u] ++ zs (fun x => Y (2 + x)) (m - 2))) ∧ Below g w w' := by
  have HU := Lib.hid (units_pc w b m c Y u 128 (by omega) hp)
  have hm := hp.len
  have hle := hp.bs.le
  have hmx := hp.bs.max
  have hu := hp.hu
  have HP := Lib.hid hp
  have HA := Lib.hid h
  have n0 : 0 < m := by omega
  have HT : Hid (∀ W, Calls Try.prog 61 #[.int .u8 (u / 32 * 32 + 28)] W fun e w' => e = .returned (.int .i64 28) ∧ W = w') := Lib.hid (fun W => by
    have := ntyp_any (u / 32 * 32 + 28) W (by omega)
    rw [(nb u hu).2.2.2.2.2.2] at this
    exact this)
  clear hp h
  go_enter Try.func29, Try.ntmps29
  go_wp2_with fail
  refine HU.out.mono ?_
  rintro e w1 ⟨v, rfl, B1⟩
  have hgl := lt_of_block HA.out
  have hP1 := HP.out.keep (B1.mono (by omega))
  have c0 := hP1.cells.2.1
  have hA1 := HA.out.keep B1
  go_wp2_with fail
  refine (HT.out _).mono ?_
  rintro e w2 ⟨rfl, rfl⟩
  go_wp2_with fail
  refine (part_first w1 g b m c Y u hA1 hP1 hbg).mono ?_
  rintro e w2 ⟨rfl, a', c', q1, q2, q3⟩
  have Q1 := Lib.hid q1
  have Q2 := Lib.hid q2
  have Q3 := Lib.hid ((B1.mono (Nat.le_of_lt hgl)).trans q3)
  clear q1 q2 q3 B1
  go_wp2_with fail
  go_returns
  exact ⟨rfl, a', c', Q1.out, Q2.out, Q3.out⟩
set_option maxRecDepth 100000 in
set_option maxHeartbeats 2000000 in
theorem put_next (w : World) (g b m c : Nat) (Y : Nat → Int) (u z : Int) (q n cu : Nat) (UL : List Int) (h : asm w g (.slice (some ⟨q, 0, none⟩) n cu)) (ho : w.ownsRow (g + 1) 5 1 (.slice (some ⟨q, 0, none⟩) n cu) n (u8s UL)) (hn : 1 ≤ n) (hn2 : n ≤ 100000) (hUL : UL[0]? = some u) (hz : z = 0 ∨ z = 64) (hp : PcB w b m c Y u z) (hbg : b < g) :
    Calls Try.prog 29 #[.pointer (some ⟨g, 0, none⟩), .slice (some ⟨b, 0, none⟩) m c] w (PnPost g n m Y UL z w) := by
  have HU := Lib.hid (units_pc w b m c Y u z (by omega) hp)
  have hm := hp.len
  have hle := hp.bs.le
  have hmx := hp.bs.max
  have hu := hp.hu
  have HP := Lib.hid hp
  have HA := Lib.hid h
  have HOO := Lib.hid ho
  have HUL := Lib.hid hUL
  have n0 : 0 < m := by omega
  have HT : Hid (∀ W, Calls Try.prog 61 #[.int .u8 (u / 32 * 32 + 28)] W fun e w' => e = .returned (.int .i64 28) ∧ W = w') := Lib.hid (fun W => by
    have := ntyp_any (u / 32 * 32 + 28) W (by omega)
    rw [(nb u hu).2.2.2.2.2.2] at this
    exact this)
  have HZ := Lib.hid hz
  clear hp h ho hUL hz
  go_enter Try.func29, Try.ntmps29
  go_wp2_with fail
  refine HU.out.mono ?_
  rintro e w1 ⟨v, rfl, B1⟩
  have hgl := lt_of_block HA.out
  have hP1 := HP.out.keep (B1.mono (by omega))
  have c0 := hP1.cells.2.1
  have hA1 := HA.out.keep B1
  go_wp2_with fail
  refine (HT.out _).mono ?_
  rintro e w2 ⟨rfl, rfl⟩
  go_wp2_with fail
  refine (part_next w1 g b m c Y u z q n cu UL hA1 (own_below HOO.out B1) hn hn2 HUL.out HZ.out hP1 hbg).mono ?_
  rintro e w2 ⟨⟨hz0, rfl, a', c', q1, q2⟩ | ⟨hz0, gx, a', c', rfl, q1, q2, q3⟩, q4⟩
  · have Q := Lib.hid (show PnPost g n m Y UL z w (.returned (.tuple #[.slice none 0 0, .int .i64 0])) w2 from ⟨.inl ⟨hz0, rfl, a', c', q1, q2⟩, (B1.mono (Nat.le_of_lt hgl)).trans q4⟩)
    clear q1 q2 q4 B1 hz0
    go_wp2_with fail
    go_returns
    exact Q.out
  · have Q := Lib.hid (show PnPost g n m Y UL z w (.returned (.tuple #[.slice (some ⟨gx, 0, none⟩) 1 1, .int .i64 0])) w2 from ⟨.inr ⟨hz0, gx, a', c', rfl, q1, q2, q3⟩, (B1.mono (Nat.le_of_lt hgl)).trans q4⟩)
    clear q1 q2 q3 q4 B1 hz0
    go_wp2_with fail
    go_returns
    exact Q.out
set_option maxRecDepth 100000 in
set_option maxHeartbeats 2000000 in
theorem put_unit (B : Nat) (w : World) (g : Nat) (a : Option Addr) (n c : Nat) (Z : Nat → Int) (h : asm w g (.slice none 0 0)) (hs : BS B w a n c Z) (hB : B ≤ g) (hu : isU Z n) (hn : n ≤ 100000) :
    Calls Try.prog 29 #[.pointer (some ⟨g, 0, none⟩), .slice a n c] w fun e w' => ∃ gx a' c', e = .returned (.tuple #[.slice (some ⟨gx, 0, none⟩) 1 1, .int .i64 0]) ∧ w'.heap[gx]? = some (.cells #[.slice a' n c'] 22 (0, 0)) ∧ asm w' g (.slice none 0 0) ∧ w'.ownsRow (g + 1) 5 1 (.slice a' n c') n (u8s (zs Z n)) ∧ Below g w w' := by
  have hle := hs.le
  have hmx := hs.max
  obtain ⟨h0, ht1, ht2⟩ := hu
  obtain ⟨b, o, rfl, hbB, hcc⟩ := hs.at_ (by omega)
  have c0 := hcc 0 h0
  rw [Nat.add_zero] at c0
  have hz := hs.bd 0 h0
  have HU := Lib.hid (units_one b o n c (Z 0) w c0 hz h0 (by omega) ⟨ht1, ht2⟩)
  have HS := Lib.hid hs
  have HA := Lib.hid h
  have hgl := lt_of_block h
  have HT : Hid (∀ W, Calls Try.prog 61 #[.int .u8 (Z 0)] W fun e w' => e = .returned (.int .i64 (Z 0 % 32)) ∧ W = w') := Lib.hid (fun W => ntyp_any (Z 0) W hz)
  have hc0 : Hid (w.cell? ⟨b, o, none⟩ = some (.int .u8 (Z 0))) := Lib.hid c0
  generalize Z 0 % 32 = t at *
  have e1 : (t == 28) = false := by simp; omega
  have e2 : (t == 24) = false := by simp; omega
  clear h hs hcc
  go_enter Try.func29, Try.ntmps29
  go_wp2_with fail
  refine HU.out.mono ?_
  rintro e w1 ⟨rfl, -, B1⟩
  have c1 := Below.cell' B1 (by omega) hc0.out
  have hA1 := HA.out.keep B1
  have HB1 := Lib.hid B1
  clear B1
  go_wp2_with fail
  refine (HT.out _).mono ?_
  rintro e w2 ⟨rfl, rfl⟩
  go_wp2_with fail
  refine (drop41 w1 g hA1).mono ?_
  rintro e w2 ⟨rfl, hA2, k2⟩
  have hb2 : Below g w w2 := (HB1.out.mono (Nat.le_of_lt hgl)).trans (k2.below (by have := HB1.out.size; omega) (Nat.le_refl _))
  have HA2 := Lib.hid hA2
  have HB2 := Lib.hid hb2
  clear k2 hb2 hA2
  go_wp2_with fail
  refine (clone_any B _ n c Z w2 (HS.out.keep (HB2.out.mono hB)) (by have := HB2.out.size; omega) hn).mono ?_
  rintro e w3 ⟨a3, c3, rfl, o3, b3⟩
  have hgl2 := lt_of_block HA2.out
  have HX : Hid (asm (w3.alloc (.cells #[.slice a3 n c3] 22)) g (.slice none 0 0)) := Lib.hid ((HA2.out.keep b3).keep ((Below.refl _ _).alloc (Nat.le_refl _) _))
  have HY : Hid ((w3.alloc (.cells #[.slice a3 n c3] 22)).heap[w3.heap.size]? = some (.cells #[.slice a3 n c3] 22 (0, 0))) := Lib.hid alloc_blk_new
  have HZ : Hid ((w3.alloc (.cells #[.slice a3 n c3] 22)).ownsRow (g + 1) 5 1 (.slice a3 n c3) n (u8s (zs Z n))) := Lib.hid (own_below (by rw [zs_u8s]; exact o3.mono (by omega)) ((Below.refl _ _).alloc (Nat.le_refl _) _))
  have HB3 : Hid (Below g w (w3.alloc (.cells #[.slice a3 n c3] 22))) := Lib.hid ((HB2.out.trans (b3.mono (Nat.le_of_lt hgl2))).alloc (by have := b3.size; omega) _)
  clear o3 b3
  go_wp2_with fail
  go_returns
  exact ⟨_, a3, c3, rfl, HY.out, HX.out, HZ.out, HB3.out⟩
end Go.Proofs.Ytkoplofcjbeicaa
