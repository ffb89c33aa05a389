/-
  Chapter 34: a packet of a pair is sent again.
-/
import Derived.Test.YtihbceippcgfgaaRtxG
import Derived.Test.YtihbceippcgfgaaRtxW
import Derived.Test.YtihbceippcgfgaaMix
namespace Go.Proofs.Ytihbceippcgfgaa
open Go.RowKit
set_option linter.unusedVariables false
set_option linter.unusedSimpArgs false
attribute [local irreducible] wpStill wpQuiet

attribute [local go_sem] rdOp rd rdUpon mvUpon
attribute [local go_sem] MixC.rdOp MixC.rd MixC.rdUpon MixC.mvUpon
theorem MapI.nocell {P : Program} {K : TypeId} {α : Type} {k : KeyT P K α} {w : World} {b n : Nat} {f : α → Option Value} {sz : Nat} (h : MapI k w b n f sz) (i : Nat) : w.cell? ⟨b, i, none⟩ = none := by
  obtain ⟨D, ⟨es, c, h1, _⟩, _⟩ := h
  simp [World.cell?, h1]
theorem KeepsL.more {l : List Nat} {u v x : World} {b : Nat} (h : KeepsL l u v) (k : KeepsL (b :: l) v x) (hb : u.heap.size ≤ b) : KeepsL l u x :=
  ⟨k.os.trans h.os, k.tape.trans h.tape, k.output.trans h.output, Nat.le_trans h.size k.size, fun i hi hn => (k.block i (Nat.lt_of_lt_of_le hi h.size) (fun hm => (List.mem_cons.1 hm).elim (fun e => by omega) hn)).trans (h.block i hi hn)⟩
theorem bs_keepL {l : List Nat} {B : Nat} {w w' : World} {a : Option Addr} {n c : Nat} {Z : Nat → Int} (h : BS B w a n c Z) (hk : KeepsL l w w') (hB : B ≤ w.heap.size) (hl : ∀ b ∈ l, ∀ i, w.cell? ⟨b, i, none⟩ = none) : BS B w' a n c Z := by
  obtain ⟨h1, h2, h3, b, off, h4, h5⟩ := h
  refine ⟨h1, h2, h3, b, off, h4, fun i hi => ?_⟩
  have hb : b ∉ l := fun hm => by have := h5 i hi; rw [hl b hm] at this; cases this
  have hlt := (h4 (by omega)).2
  rw [World.cell?_of_block (w := w) (a := ⟨b, off + i, none⟩) (hk.block b (by omega) hb)]
  exact h5 i hi
def ClA (g3 g6 : Nat) (o : Obj) (to typ : Int) (w' : World) : Prop := w'.heap[g3]? = some o ∧ w'.cell? ⟨g6, 0, none⟩ = some (.int .u32 to) ∧ w'.cell? ⟨g6, 1, none⟩ = some (.int .u8 typ)
theorem Tab.blkL {w w' : World} {g bp bf n : Nat} {F1 F2 : Int → Option Value} {s1 s2 : Nat} {l : List Nat} (h : Tab w g bp bf n F1 F2 s1 s2) (hk : KeepsL l w w') (h1 : g ∉ l) (h2 : bp ∉ l) (h3 : bf ∉ l) : Tab w' g bp bf n F1 F2 s1 s2 :=
  ⟨hk.blk h.blk h1, h.m1.of_blk (hk.block _ h.m1.lt h2), h.m2.of_blk (hk.block _ h.m2.lt h3), h.n1, h.n2, h.n3⟩
set_option maxRecDepth 100000 in
set_option maxHeartbeats 4000000 in
theorem again_some (B : Nat) (w : World) (m : Bool) (ty sq st src : Int) (oa : Option Addr) (on oc : Nat) (ex : Bool) (pr : Int) (xa : Option Addr) (xn xc : Nat) (a : Option Addr) (n c : Nat) (Z : Nat → Int) (pd : Int) (g bp bf np : Nat) (f1 : Int → Option (Int × Int × Int)) (F2 : Int → Option Value) (s1 s2 : Nat) (to typ nx : Int) (hT : Tab w g bp bf np (pairsOf f1) F2 s1 s2) (hf : f1 src = some (to, typ, nx)) (hsrc : (Lit.int .u32 src).wf = true) (hZ : BS w.heap.size w a n c Z) (hn : n ≤ 9000) (hs0 : 0 ≤ sq) (hs1 : sq ≤ 65535) (n0 : 0 ≤ nx) (n1 : nx ≤ 65535) (hnp : np < 1000) :
    Calls Try.prog 33 #[.pointer (some ⟨g, 0, none⟩), .agg #[(.bool m), (.int .u8 ty), (.int .u16 sq), (.int .u32 st), (.int .u32 src), (.slice oa on oc), (.bool ex), (.int .u16 pr), (.slice xa xn xc), (.slice a n c), (.int .u8 pd)]] w fun e w' => ∃ a5 c5, e = .returned (.tuple #[.agg #[(.bool m), (.int .u8 typ), (.int .u16 nx), (.int .u32 st), (.int .u32 to), (.slice oa on oc), (.bool ex), (.int .u16 pr), (.slice xa xn xc), (.slice a5 (2 + n) c5), (.int .u8 pd)], .int .i64 0]) ∧ BS w'.heap.size w' a5 (2 + n) c5 (catZ (putZ (fun _ => 0) 0 sq 2) 2 Z) ∧ Tab w' g bp bf (np + 1) (pairsOf (updI f1 src (some (to, typ, (nx + 1) % 65536)))) F2 s1 s2 ∧ KeepsL [bp] w w' := by
  have t3 := three3 w (.cells #[.pointer (some ⟨g, 0, none⟩)] 54) (.cells #[(.bool m), (.int .u8 ty), (.int .u16 sq), (.int .u32 st), (.int .u32 src), (.slice oa on oc), (.bool ex), (.int .u16 pr), (.slice xa xn xc), (.slice a n c), (.int .u8 pd)] 44) (.cells #[(.bool false), (.int .u8 0), (.int .u16 0), (.int .u32 0), (.int .u32 0), (.slice none 0 0), (.bool false), (.int .u16 0), (.slice none 0 0), (.slice none 0 0), (.int .u8 0)] 44)
  have HT := Lib.hid hT
  have HF := Lib.hid hf
  have HS := Lib.hid hsrc
  have HZ := Lib.hid hZ
  have lg := lt_of_block hT.blk
  have lp := hT.m1.lt
  have lf := hT.m2.lt
  clear hT hf hsrc hZ
  go_enter Try.func33, Try.ntmps33
  go_wp2_with fail
  generalize hW : World.alloc _ _ = W
  rw [hW] at t3
  have BW : Below w.heap.size w W := by rw [← hW]; exact (((Below.refl _ w).alloc (Nat.le_refl _) _).alloc (by simp) _).alloc (by simp; omega) _
  clear hW
  obtain ⟨q0, q1, q2⟩ := t3
  obtain ⟨g2, h0⟩ : ∃ g2, g2 = w.heap.size := ⟨_, rfl⟩
  rw [← h0] at q0 q1 q2
  rw [← h0]
  obtain ⟨g3, h1⟩ : ∃ g3, g3 = g2 + 1 := ⟨_, rfl⟩
  obtain ⟨g4, h2⟩ : ∃ g4, g4 = g3 + 1 := ⟨_, rfl⟩
  rw [← h1] at q1 q2
  rw [← h2] at q2
  rw [← h1, ← h2]
  have l2 := lt_of_block q0
  have l3 := lt_of_block q1
  have l4 := lt_of_block q2
  have w2' : w.heap.size ≤ g2 := by omega
  have w3' : w.heap.size ≤ g3 := by omega
  have w4' : w.heap.size ≤ g4 := by omega
  have n23 : g2 ≠ g3 := by omega
  have n24 : g2 ≠ g4 := by omega
  have n34 : g3 ≠ g4 := by omega
  clear h0 h1 h2
  have HBW := Lib.hid BW
  have HQ2 := Lib.hid q0
  have HQ3 := Lib.hid q1
  have HQ4 := Lib.hid q2
  have TW := Lib.hid (HT.out.keep BW)
  clear q0 q1 q2 BW
  have y0 : ∀ y : Wd W.heap.size W, y.1.cell? ⟨g2, 0, none⟩ = some (.pointer (some ⟨g, 0, none⟩)) := fun y => cell_blk (Below.blk y.2 HQ2.out l2)
  have y1 : ∀ y : Wd W.heap.size W, y.1.cell? ⟨g, 0, none⟩ = some (.map (some bp)) := fun y => cell_blk (TW.out.keep y.2).blk
  have y2 : ∀ y : Wd W.heap.size W, y.1.cell? ⟨g3, 4, none⟩ = some (.int .u32 src) := fun y => cell_blk (Below.blk y.2 HQ3.out l3)
  have y3 : ∀ y : Wd W.heap.size W, (Instr.lookup 130 (.map (some bp)) (.int .u32 src) true).run Try.prog y.1 = .ok (.tuple #[.agg #[.int .u32 to, .int .u8 typ, .int .u16 nx], .bool true]) y.1 := fun y => by
    have := (TW.out.keep y.2).look1 src HS.out
    unfold pairsOf at this
    rw [HF.out] at this
    exact this
  refine wp_region_mix [10, 11] W.heap.size W (Below.refl _ _) (by kernel_rfl) (by kernel_rfl) (by kernel_rfl) ?_
  iterate 10 (refine mix_read rfl (fun K hK => ?_); go_simp; refine hK _ ?_; clear hK K)
  refine mix_move rfl (fun K hK => ?_)
  go_simp
  refine ⟨((Below.refl _ W).alloc (Nat.le_refl _) _).drew, hK _ _ ?_⟩
  clear hK K
  generalize hX : (World.alloc W _).drew = X
  have X6 : X.heap[W.heap.size]? = some (.cells #[.int .u32 0, .int .u8 0, .int .u16 0] 136 (0, 0)) := by rw [← hX]; exact alloc_blk_new
  have BX : Below W.heap.size W X := by rw [← hX]; exact ((Below.refl _ W).alloc (Nat.le_refl _) _).drew
  clear hX
  have a0 : X.cell? ⟨W.heap.size, 0, none⟩ = some (.int .u32 0) := cell_blk X6
  have a1 : X.cell? ⟨W.heap.size, 1, none⟩ = some (.int .u8 0) := cell_blk X6
  have a2 : X.cell? ⟨W.heap.size, 2, none⟩ = some (.int .u16 0) := cell_blk X6
  have b0 : X.frozen? ⟨W.heap.size, 0, none⟩ = false := free_blk X6
  have b1 : X.frozen? ⟨W.heap.size, 1, none⟩ = false := free_blk X6
  have b2 : X.frozen? ⟨W.heap.size, 2, none⟩ = false := free_blk X6
  refine mix_move rfl (fun K hK => ?_)
  go_simp
  refine ⟨by ((repeat (refine Below.setCell ?_ (by exact Nat.le_refl _) _)); exact BX), hK _ _ ?_⟩
  clear hK K
  generalize hY : World.setCell _ _ _ = Y
  have Y6 : Y.heap[W.heap.size]? = some (.cells #[.int .u32 to, .int .u8 typ, .int .u16 nx] 136 (0, 0)) := by rw [← hY]; simp [heap_set, X6, putIn]
  have BY : Below W.heap.size W Y := by rw [← hY]; (repeat (refine Below.setCell ?_ (by exact Nat.le_refl _) _)); exact BX
  clear hY a0 a1 a2 b0 b1 b2 X6 BX
  (refine mix_read rfl (fun K hK => ?_); go_simp; refine hK _ ?_; clear hK K)
  refine mix_nil ?_
  clear y0 y1 y2 y3
  obtain ⟨g6, h6⟩ : ∃ g6, g6 = W.heap.size := ⟨_, rfl⟩
  rw [← h6] at Y6
  change Exit.then _ _ _ _ Y
  rw [← h6]
  have TY := Lib.hid (TW.out.keep BY)
  have Y2 := Lib.hid (Below.blk BY HQ2.out l2)
  have Y3 := Lib.hid (Below.blk BY HQ3.out l3)
  have Y4 := Lib.hid (Below.blk BY HQ4.out l4)
  have HY6 := Lib.hid Y6
  have m0 : g6 ≠ g := by omega
  have m1 : g6 ≠ bp := by omega
  have m2 : g6 ≠ bf := by omega
  have m3 : g6 ≠ g2 := by omega
  have m4 : g6 ≠ g3 := by omega
  have m5 : g6 ≠ g4 := by omega
  have m6 : g3 ≠ bp := by omega
  have m7 : g4 ≠ bp := by omega
  have m8 : w.heap.size ≤ g6 := by omega
  have BYw := Lib.hid (HBW.out.trans (BY.mono HBW.out.size))
  clear Y6 BY h6 TW HQ2 HQ3 HQ4 HBW
  go_wp2_with fail
  have C0 : ClA g3 g6 (.cells #[(.bool m), (.int .u8 ty), (.int .u16 sq), (.int .u32 st), (.int .u32 src), (.slice oa on oc), (.bool ex), (.int .u16 pr), (.slice xa xn xc), (.slice a n c), (.int .u8 pd)] 44 (0, 0)) to typ Y.drew := ⟨Y3.out, cell_blk HY6.out, cell_blk HY6.out⟩
  have hne : Nonempty { w' : World // ClA g3 g6 (.cells #[(.bool m), (.int .u8 ty), (.int .u16 sq), (.int .u32 st), (.int .u32 src), (.slice oa on oc), (.bool ex), (.int .u16 pr), (.slice xa xn xc), (.slice a n c), (.int .u8 pd)] 44 (0, 0)) to typ w' } := ⟨⟨_, C0⟩⟩
  have y0 : ∀ y : { w' : World // ClA g3 g6 (.cells #[(.bool m), (.int .u8 ty), (.int .u16 sq), (.int .u32 st), (.int .u32 src), (.slice oa on oc), (.bool ex), (.int .u16 pr), (.slice xa xn xc), (.slice a n c), (.int .u8 pd)] 44 (0, 0)) to typ w' }, y.1.cell? ⟨g3, 0, none⟩ = some (.bool m) := fun y => cell_blk y.2.1
  have y1 : ∀ y : { w' : World // ClA g3 g6 (.cells #[(.bool m), (.int .u8 ty), (.int .u16 sq), (.int .u32 st), (.int .u32 src), (.slice oa on oc), (.bool ex), (.int .u16 pr), (.slice xa xn xc), (.slice a n c), (.int .u8 pd)] 44 (0, 0)) to typ w' }, y.1.cell? ⟨g3, 1, none⟩ = some (.int .u8 ty) := fun y => cell_blk y.2.1
  have y2 : ∀ y : { w' : World // ClA g3 g6 (.cells #[(.bool m), (.int .u8 ty), (.int .u16 sq), (.int .u32 st), (.int .u32 src), (.slice oa on oc), (.bool ex), (.int .u16 pr), (.slice xa xn xc), (.slice a n c), (.int .u8 pd)] 44 (0, 0)) to typ w' }, y.1.cell? ⟨g3, 2, none⟩ = some (.int .u16 sq) := fun y => cell_blk y.2.1
  have y3 : ∀ y : { w' : World // ClA g3 g6 (.cells #[(.bool m), (.int .u8 ty), (.int .u16 sq), (.int .u32 st), (.int .u32 src), (.slice oa on oc), (.bool ex), (.int .u16 pr), (.slice xa xn xc), (.slice a n c), (.int .u8 pd)] 44 (0, 0)) to typ w' }, y.1.cell? ⟨g3, 3, none⟩ = some (.int .u32 st) := fun y => cell_blk y.2.1
  have y4 : ∀ y : { w' : World // ClA g3 g6 (.cells #[(.bool m), (.int .u8 ty), (.int .u16 sq), (.int .u32 st), (.int .u32 src), (.slice oa on oc), (.bool ex), (.int .u16 pr), (.slice xa xn xc), (.slice a n c), (.int .u8 pd)] 44 (0, 0)) to typ w' }, y.1.cell? ⟨g3, 4, none⟩ = some (.int .u32 src) := fun y => cell_blk y.2.1
  have y5 : ∀ y : { w' : World // ClA g3 g6 (.cells #[(.bool m), (.int .u8 ty), (.int .u16 sq), (.int .u32 st), (.int .u32 src), (.slice oa on oc), (.bool ex), (.int .u16 pr), (.slice xa xn xc), (.slice a n c), (.int .u8 pd)] 44 (0, 0)) to typ w' }, y.1.cell? ⟨g3, 5, none⟩ = some (.slice oa on oc) := fun y => cell_blk y.2.1
  have y6 : ∀ y : { w' : World // ClA g3 g6 (.cells #[(.bool m), (.int .u8 ty), (.int .u16 sq), (.int .u32 st), (.int .u32 src), (.slice oa on oc), (.bool ex), (.int .u16 pr), (.slice xa xn xc), (.slice a n c), (.int .u8 pd)] 44 (0, 0)) to typ w' }, y.1.cell? ⟨g3, 6, none⟩ = some (.bool ex) := fun y => cell_blk y.2.1
  have y7 : ∀ y : { w' : World // ClA g3 g6 (.cells #[(.bool m), (.int .u8 ty), (.int .u16 sq), (.int .u32 st), (.int .u32 src), (.slice oa on oc), (.bool ex), (.int .u16 pr), (.slice xa xn xc), (.slice a n c), (.int .u8 pd)] 44 (0, 0)) to typ w' }, y.1.cell? ⟨g3, 7, none⟩ = some (.int .u16 pr) := fun y => cell_blk y.2.1
  have y8 : ∀ y : { w' : World // ClA g3 g6 (.cells #[(.bool m), (.int .u8 ty), (.int .u16 sq), (.int .u32 st), (.int .u32 src), (.slice oa on oc), (.bool ex), (.int .u16 pr), (.slice xa xn xc), (.slice a n c), (.int .u8 pd)] 44 (0, 0)) to typ w' }, y.1.cell? ⟨g3, 8, none⟩ = some (.slice xa xn xc) := fun y => cell_blk y.2.1
  have y9 : ∀ y : { w' : World // ClA g3 g6 (.cells #[(.bool m), (.int .u8 ty), (.int .u16 sq), (.int .u32 st), (.int .u32 src), (.slice oa on oc), (.bool ex), (.int .u16 pr), (.slice xa xn xc), (.slice a n c), (.int .u8 pd)] 44 (0, 0)) to typ w' }, y.1.cell? ⟨g3, 9, none⟩ = some (.slice a n c) := fun y => cell_blk y.2.1
  have y10 : ∀ y : { w' : World // ClA g3 g6 (.cells #[(.bool m), (.int .u8 ty), (.int .u16 sq), (.int .u32 st), (.int .u32 src), (.slice oa on oc), (.bool ex), (.int .u16 pr), (.slice xa xn xc), (.slice a n c), (.int .u8 pd)] 44 (0, 0)) to typ w' }, y.1.cell? ⟨g3, 10, none⟩ = some (.int .u8 pd) := fun y => cell_blk y.2.1
  have u0 : ∀ y : { w' : World // ClA g3 g6 (.cells #[(.bool m), (.int .u8 ty), (.int .u16 sq), (.int .u32 st), (.int .u32 src), (.slice oa on oc), (.bool ex), (.int .u16 pr), (.slice xa xn xc), (.slice a n c), (.int .u8 pd)] 44 (0, 0)) to typ w' }, y.1.cell? ⟨g6, 0, none⟩ = some (.int .u32 to) := fun y => y.2.2.1
  have u1 : ∀ y : { w' : World // ClA g3 g6 (.cells #[(.bool m), (.int .u8 ty), (.int .u16 sq), (.int .u32 st), (.int .u32 src), (.slice oa on oc), (.bool ex), (.int .u16 pr), (.slice xa xn xc), (.slice a n c), (.int .u8 pd)] 44 (0, 0)) to typ w' }, y.1.cell? ⟨g6, 1, none⟩ = some (.int .u8 typ) := fun y => y.2.2.2
  have HC0 := Lib.hid C0
  clear C0
  refine MixC.wp_region_mix [6, 7, 8] (ClA g3 g6 (.cells #[(.bool m), (.int .u8 ty), (.int .u16 sq), (.int .u32 st), (.int .u32 src), (.slice oa on oc), (.bool ex), (.int .u16 pr), (.slice xa xn xc), (.slice a n c), (.int .u8 pd)] 44 (0, 0)) to typ) HC0.out (by kernel_rfl) (by kernel_rfl) (by kernel_rfl) ?_
  iterate 6 (refine MixC.mix_read rfl (fun K hK => ?_); go_simp; refine hK _ ?_; clear hK K)
  refine MixC.mix_move rfl (fun K hK => ?_)
  go_simp
  refine (next_any Y.drew g bp bf np g2 g3 g6 f1 F2 s1 s2 to typ nx src _ (TY.out.drewN 1) HY6.out Y2.out Y3.out rfl HS.out (by rw [HF.out]; rfl) n0 n1 hnp m0 m1 m2 m3 m4).mono ?_
  rintro e w7 ⟨rfl, T7, X7, K7⟩
  have HT7 := Lib.hid T7
  have HX7 := Lib.hid X7
  have KY : Hid (KeepsL [bp] w w7) := Lib.hid ((KeepsL.of_below BYw.out).more ((KeepsL.of_below (Below.refl _ Y).drew).trans K7) m8)
  have Z3 := Lib.hid (K7.blk (w := Y.drew) Y3.out (by simp; omega))
  have Z4 := Lib.hid (K7.blk (w := Y.drew) Y4.out (by simp; omega))
  clear T7 X7 K7
  refine ⟨_, rfl, ⟨Z3.out, cell_blk HX7.out, cell_blk HX7.out⟩, hK _ _ ?_⟩
  clear hK K
  refine MixC.mix_move rfl (fun K hK => ?_)
  go_simp
  refine (wrap_fresh w.heap.size w7 m ty sq st src oa on oc ex pr xa xn xc a n c Z pd to typ nx (bs_keepL HZ.out KY.out (Nat.le_refl _) (fun b hb i => by have e : b = bp := (by simpa using hb); rw [e]; exact HT.out.m1.nocell i)) KY.out.size hn hs0 hs1).mono ?_
  rintro e w8 ⟨a5, c5, rfl, s8, b8, fr⟩
  have HS8 := Lib.hid s8
  have HT8 := Lib.hid (HT7.out.keep b8)
  have V3 := Lib.hid (Below.blk b8 Z3.out (lt_of_block Z3.out))
  have V4 := Lib.hid (Below.blk b8 Z4.out (lt_of_block Z4.out))
  have V6 := Lib.hid (Below.blk b8 HX7.out (lt_of_block HX7.out))
  have L4 := lt_of_block Z4.out
  have FR := Lib.hid fr
  have KZ := Lib.hid (KY.out.trans (KeepsL.of_below b8))
  clear s8 b8 fr
  refine ⟨_, rfl, ⟨V3.out, cell_blk V6.out, cell_blk V6.out⟩, hK _ _ ?_⟩
  clear hK K
  have d0 : w8.cell? ⟨g4, 0, none⟩ = some (.bool false) := cell_blk V4.out
  have z0 : w8.frozen? ⟨g4, 0, none⟩ = false := free_blk V4.out
  have d1 : w8.cell? ⟨g4, 1, none⟩ = some (.int .u8 0) := cell_blk V4.out
  have z1 : w8.frozen? ⟨g4, 1, none⟩ = false := free_blk V4.out
  have d2 : w8.cell? ⟨g4, 2, none⟩ = some (.int .u16 0) := cell_blk V4.out
  have z2 : w8.frozen? ⟨g4, 2, none⟩ = false := free_blk V4.out
  have d3 : w8.cell? ⟨g4, 3, none⟩ = some (.int .u32 0) := cell_blk V4.out
  have z3 : w8.frozen? ⟨g4, 3, none⟩ = false := free_blk V4.out
  have d4 : w8.cell? ⟨g4, 4, none⟩ = some (.int .u32 0) := cell_blk V4.out
  have z4 : w8.frozen? ⟨g4, 4, none⟩ = false := free_blk V4.out
  have d5 : w8.cell? ⟨g4, 5, none⟩ = some (.slice none 0 0) := cell_blk V4.out
  have z5 : w8.frozen? ⟨g4, 5, none⟩ = false := free_blk V4.out
  have d6 : w8.cell? ⟨g4, 6, none⟩ = some (.bool false) := cell_blk V4.out
  have z6 : w8.frozen? ⟨g4, 6, none⟩ = false := free_blk V4.out
  have d7 : w8.cell? ⟨g4, 7, none⟩ = some (.int .u16 0) := cell_blk V4.out
  have z7 : w8.frozen? ⟨g4, 7, none⟩ = false := free_blk V4.out
  have d8 : w8.cell? ⟨g4, 8, none⟩ = some (.slice none 0 0) := cell_blk V4.out
  have z8 : w8.frozen? ⟨g4, 8, none⟩ = false := free_blk V4.out
  have d9 : w8.cell? ⟨g4, 9, none⟩ = some (.slice none 0 0) := cell_blk V4.out
  have z9 : w8.frozen? ⟨g4, 9, none⟩ = false := free_blk V4.out
  have d10 : w8.cell? ⟨g4, 10, none⟩ = some (.int .u8 0) := cell_blk V4.out
  have z10 : w8.frozen? ⟨g4, 10, none⟩ = false := free_blk V4.out
  refine MixC.mix_move rfl (fun K hK => ?_)
  go_simp
  refine ⟨?_, hK _ _ ?_⟩
  · refine ⟨by simp [heap_set, V3.out, n34], ?_, ?_⟩
    · rw [World.cell?_of_block (w := w8) (by simp [heap_set, m5])]; exact cell_blk V6.out
    · rw [World.cell?_of_block (w := w8) (by simp [heap_set, m5])]; exact cell_blk V6.out
  clear hK K
  generalize hF : World.setCell _ _ _ = Wf
  have gf : Wf.heap[g4]? = some (.cells #[(.bool m), (.int .u8 typ), (.int .u16 nx), (.int .u32 st), (.int .u32 to), (.slice oa on oc), (.bool ex), (.int .u16 pr), (.slice xa xn xc), (.slice a5 (2 + n) c5), (.int .u8 pd)] 44 (0, 0)) := by rw [← hF]; simp [heap_set, V4.out, putIn]
  have KF : Hid (Keeps g4 w8 Wf) := Lib.hid (by rw [← hF]; (repeat (refine Keeps.setCell ?_ (by exact .inl rfl) _)); exact Keeps.refl _ _)
  clear hF d0 z0 d1 z1 d2 z2 d3 z3 d4 z4 d5 z5 d6 z6 d7 z7 d8 z8 d9 z9 d10 z10
  (refine MixC.mix_read rfl (fun K hK => ?_); go_simp; refine hK _ ?_; clear hK K)
  refine MixC.mix_nil ?_
  change Exit.then _ _ _ _ Wf
  have r0 : Wf.cell? ⟨g4, 0, none⟩ = some (.bool m) := cell_blk gf
  have r1 : Wf.cell? ⟨g4, 1, none⟩ = some (.int .u8 typ) := cell_blk gf
  have r2 : Wf.cell? ⟨g4, 2, none⟩ = some (.int .u16 nx) := cell_blk gf
  have r3 : Wf.cell? ⟨g4, 3, none⟩ = some (.int .u32 st) := cell_blk gf
  have r4 : Wf.cell? ⟨g4, 4, none⟩ = some (.int .u32 to) := cell_blk gf
  have r5 : Wf.cell? ⟨g4, 5, none⟩ = some (.slice oa on oc) := cell_blk gf
  have r6 : Wf.cell? ⟨g4, 6, none⟩ = some (.bool ex) := cell_blk gf
  have r7 : Wf.cell? ⟨g4, 7, none⟩ = some (.int .u16 pr) := cell_blk gf
  have r8 : Wf.cell? ⟨g4, 8, none⟩ = some (.slice xa xn xc) := cell_blk gf
  have r9 : Wf.cell? ⟨g4, 9, none⟩ = some (.slice a5 (2 + n) c5) := cell_blk gf
  have r10 : Wf.cell? ⟨g4, 10, none⟩ = some (.int .u8 pd) := cell_blk gf
  go_wp2_with fail
  refine bodyPost_ret (v := .tuple #[.agg #[(.bool m), (.int .u8 typ), (.int .u16 nx), (.int .u32 st), (.int .u32 to), (.slice oa on oc), (.bool ex), (.int .u16 pr), (.slice xa xn xc), (.slice a5 (2 + n) c5), (.int .u8 pd)], .int .i64 0]) (by simp [results, Try.results33, go_sem, r0, r1, r2, r3, r4, r5, r6, r7, r8, r9, r10]) rfl ?_
  refine ⟨a5, c5, rfl, ?_, ?_, ?_⟩
  · obtain ⟨h1, h2, h3, b, off, h4, h5⟩ := HS8.out
    have hb4 : b ≠ g4 := fun e => by have := FR.out b off none (h4 (by omega)).1; omega
    exact ⟨h1, h2, h3, b, off, fun h => ⟨(h4 h).1, Nat.lt_of_lt_of_le (h4 h).2 KF.out.size⟩, fun i hi => KF.out.cell (h5 i hi) hb4⟩
  · exact HT8.out.blkL (KeepsL.of KF.out (l := [g4]) (by simp)) (by simp; omega) (by simp; omega) (by simp; omega)
  · exact KZ.out.more (KeepsL.of KF.out (l := [g4, bp]) (by simp)) w4'
end Go.Proofs.Ytihbceippcgfgaa
