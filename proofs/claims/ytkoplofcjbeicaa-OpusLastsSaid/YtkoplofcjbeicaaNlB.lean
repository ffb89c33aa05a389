/-
  Chapter 41: the closure of Cut.
-/
import Derived.Test.YtkoplofcjbeicaaNlA
namespace Go.Proofs.Ytkoplofcjbeicaa
open Go.RowKit
set_option linter.unusedVariables false
set_option linter.unusedSimpArgs false
attribute [local irreducible] wpStill wpQuiet

/-- a piece of a unit -/
def fzI (n d q : Nat) : Int := (if q = 0 then 128 else 0) + (if n ≤ q + d + 1 then 64 else 0)
def pcL (Z : Nat → Int) (n d q : Nat) : List Int := [Z 0 / 32 * 32 + 28, fzI n d q + Z 0 % 32] ++ zs (fun i => Z (1 + q + i)) (min d (n - 1 - q))
/-- the boxes of Cut -/
structure CutB (w : World) (gs gr gf gb : Nat) (s : Nat) (ra : Option Addr) (rn rc : Nat) (u : Int) (bg : Bool) : Prop where
  s' : w.heap[gs]? = some (.cells #[.int .i64 (s : Nat)] 3 (0, 0))
  r : w.heap[gr]? = some (.cells #[.slice ra rn rc] 22 (0, 0))
  f : w.heap[gf]? = some (.cells #[.int .u8 u] 5 (0, 0))
  b : w.heap[gb]? = some (.cells #[.bool bg] 4 (0, 0))
/-- all old blocks but two -/
structure Kp2 (g h : Nat) (w w' : World) : Prop where
  os : w'.os = w.os
  tape : w'.tape = w.tape
  output : w'.output = w.output
  size : w.heap.size ≤ w'.heap.size
  block : ∀ k, k < w.heap.size → k ≠ g → k ≠ h → w'.heap[k]? = w.heap[k]?
theorem Kp2.rf (g h : Nat) (w : World) : Kp2 g h w w := ⟨rfl, rfl, rfl, Nat.le_refl _, fun _ _ _ _ => rfl⟩
theorem Kp2.below {g h : Nat} {u w w' : World} (k : Kp2 g h u w) (b : Below w.heap.size w w') : Kp2 g h u w' :=
  ⟨b.os.trans k.os, b.tape.trans k.tape, b.output.trans k.output, Nat.le_trans k.size b.size, fun i hi h1 h2 => (b.block i (Nat.lt_of_lt_of_le hi k.size)).trans (k.block i hi h1 h2)⟩
theorem Kp2.set {g h q : Nat} {u w : World} (k : Kp2 g h u w) (hq : q = g ∨ q = h) (i : Nat) (v : Value) : Kp2 g h u (w.setCell ⟨q, i, none⟩ v) :=
  ⟨k.os, k.tape, k.output, by have := k.size; simp [World.setCell]; omega, fun j hj h1 h2 => (Below.heap_setCell _ _ _ _ (by show j ≠ q; rcases hq with rfl | rfl <;> assumption)).trans (k.block j hj h1 h2)⟩
theorem Kp2.toBelow {g h B : Nat} {w w' : World} (k : Kp2 g h w w') (h1 : B ≤ g) (h2 : B ≤ h) (hB : B ≤ w.heap.size) : Below B w w' :=
  ⟨k.os, k.tape, k.output, k.size, fun i hi => k.block i (by omega) (by omega) (by omega)⟩
theorem flagV (f : Bool) (x : Int) (w : World) : ∃ v, v = (if f then x else 0) ∧ Calls Try.prog 57 #[.bool f, .int .u8 x] w fun e w' => e = .returned (.int .u8 v) ∧ w' = w :=
  ⟨_, rfl, (flag_any f x w).mono fun e w' h => ⟨h.1, h.2.symm⟩⟩
def C1Post (gs gr gf gb s b o rn rc k : Nat) (Y : Nat → Int) (u : Int) (bg : Bool) (w : World) (e : Ending) (w' : World) : Prop :=
  ∃ a' c' a2, e = .returned (.slice a' (2 + k) c') ∧ w'.ownsRow w.heap.size 5 1 (.slice a' (2 + k) c') (2 + k) (u8s ([u / 32 * 32 + 28, (if bg then 0 else 128) + (if k = rn then 64 else 0) + u % 32] ++ zs Y k)) ∧ CutB w' gs gr gf gb s a2 (rn - k) (rc - k) u true ∧ (0 < rn - k → a2 = some ⟨b, o + k, none⟩) ∧ Kp2 gr gb w w'
def two (x y : Sl) : Nat → Sl := fun i => if i = 0 then x else y
theorem cats_two (x y : Sl) : cats (two x y) 2 = x.l ++ y.l := by
  rw [cats_succ, cats_succ, cats_zero, List.nil_append]; rfl
theorem cut1_w {B gs gr gf gb s : Nat} {a2 : Option Addr} {m c2 c3 b o rn rc k : Nat} {Y : Nat → Int} {u x1 x2 : Int} {bg : Bool} {ra : Option Addr} {w W : World}
    (hW : ((((w.setCell ⟨gr, 0, none⟩ (.slice a2 m c2)).setCell ⟨gb, 0, none⟩ (.bool true)).alloc (.cells #[.int .u8 x1, .int .u8 x2] 5)).alloc (.cells #[.slice (some ⟨w.heap.size, 0, none⟩) 2 2, .slice (some ⟨b, o, none⟩) k c3] 22)).drew = W)
    (hb : CutB w gs gr gf gb s ra rn rc u bg) (hbs : BS B w (some ⟨b, o, none⟩) rn rc Y) (hBw : B ≤ w.heap.size) (hBr : B ≤ gr) (hBb : B ≤ gb) (hk : k ≤ rn) (hk3 : k ≤ c3) (hk4 : c3 ≤ rc) (h1 : 0 ≤ x1 ∧ x1 ≤ 255) (h2 : 0 ≤ x2 ∧ x2 ≤ 255)
    (n1 : gr ≠ gs) (n2 : gr ≠ gf) (n3 : gr ≠ gb) (n4 : gb ≠ gs) (n5 : gb ≠ gf) :
    CutB W gs gr gf gb s a2 m c2 u true ∧ Kp2 gr gb w W ∧ w.heap.size ≤ W.heap.size ∧ Sls W.heap.size W (some ⟨w.heap.size + 1, 0, none⟩) 2 2 (two ⟨some ⟨w.heap.size, 0, none⟩, 2, 2, gz [x1, x2]⟩ ⟨some ⟨b, o, none⟩, k, c3, Y⟩) := by
  obtain ⟨V, hV⟩ : ∃ V, V = (w.setCell ⟨gr, 0, none⟩ (.slice a2 m c2)).setCell ⟨gb, 0, none⟩ (.bool true) := ⟨_, rfl⟩
  have hVs : V.heap.size = w.heap.size := by rw [hV]; simp [World.setCell]
  have kV : Kp2 gr gb w V := by rw [hV]; exact ((Kp2.rf gr gb w).set (.inl rfl) 0 _).set (.inr rfl) 0 _
  have ls := lt_of_block hb.s'
  have lr := lt_of_block hb.r
  have lf := lt_of_block hb.f
  have lb := lt_of_block hb.b
  rw [← hV] at hW
  have hbel : Below V.heap.size V W := by rw [← hW]; exact (((Below.refl _ V).alloc (Nat.le_refl _) _).alloc (by simp) _).drew
  have kW := kV.below hbel
  have g1 : W.heap[w.heap.size]? = some (.cells #[.int .u8 x1, .int .u8 x2] 5 (0, 0)) := by rw [← hW, heap_drew, heap_alloc, if_neg (by simp [hVs]), heap_alloc, if_pos hVs.symm]
  have g2 : W.heap[w.heap.size + 1]? = some (.cells #[.slice (some ⟨w.heap.size, 0, none⟩) 2 2, .slice (some ⟨b, o, none⟩) k c3] 22 (0, 0)) := by rw [← hW, heap_drew, heap_alloc, if_pos (by simp [hVs])]
  refine ⟨⟨?_, ?_, ?_, ?_⟩, kW, by have := hbel.size; omega, by omega, by omega, ?_, w.heap.size + 1, 0, fun _ => ⟨rfl, lt_of_block g2⟩, ?_⟩
  · rw [kW.block gs ls (Ne.symm n1) (Ne.symm n4)]; exact hb.s'
  · rw [hbel.block gr (by omega), hV, set_blk_other _ n3, set_blk _ hb.r]; rfl
  · rw [kW.block gf lf (Ne.symm n2) (Ne.symm n5)]; exact hb.f
  · rw [hbel.block gb (by omega), hV, set_blk (m := (0, 0)) (cs := #[.bool bg]) (t := 4) _ (by rw [set_blk_other _ (Ne.symm n3)]; exact hb.b)]; rfl
  · intro i hi
    have hb2 : BS W.heap.size W (some ⟨b, o, none⟩) k c3 Y := ((hbs.cut hk hk3 hk4).keep (kW.toBelow hBr hBb hBw)).mono (by have := kW.size; omega)
    have hb1 : BS W.heap.size W (some ⟨w.heap.size, 0, none⟩) 2 2 (gz [x1, x2]) := ⟨by omega, by omega, fun i hi => by
      have : i = 0 ∨ i = 1 := by omega
      rcases this with rfl | rfl
      · exact h1
      · exact h2, w.heap.size, 0, fun _ => ⟨rfl, lt_of_block g1⟩, fun i hi => by
      rw [Nat.zero_add, cell_blk g1]
      have : i = 0 ∨ i = 1 := by omega
      rcases this with rfl | rfl <;> rfl⟩
    have : i = 0 ∨ i = 1 := by omega
    rcases this with rfl | rfl
    · exact hb1
    · exact hb2
  · intro i hi
    rw [Nat.zero_add, cell_blk g2]
    have : i = 0 ∨ i = 1 := by omega
    rcases this with rfl | rfl <;> rfl
set_option maxRecDepth 100000 in
set_option maxHeartbeats 4000000 in
theorem cut1_any (B gs gr gf gb s d : Nat) (b o rn rc : Nat) (Y : Nat → Int) (u : Int) (bg : Bool) (w : World) (hb : CutB w gs gr gf gb s (some ⟨b, o, none⟩) rn rc u bg) (hbs : BS B w (some ⟨b, o, none⟩) rn rc Y) (hBw : B ≤ w.heap.size) (hBr : B ≤ gr) (hBb : B ≤ gb) (hu : 0 ≤ u ∧ u ≤ 255) (hs : s = d + 2) (hd : 1 ≤ d ∧ d ≤ 100000) (hrn : 1 ≤ rn ∧ rn ≤ 100000)
    (n1 : gr ≠ gs) (n2 : gr ≠ gf) (n3 : gr ≠ gb) (n4 : gb ≠ gs) (n5 : gb ≠ gf) (k : Nat) (hk : k = min d rn) :
    Calls Try.prog 56 #[.pointer (some ⟨gs, 0, none⟩), .pointer (some ⟨gr, 0, none⟩), .pointer (some ⟨gf, 0, none⟩), .pointer (some ⟨gb, 0, none⟩)] w (C1Post gs gr gf gb s b o rn rc k Y u bg w) := by
  have hle := hbs.le
  have hmx := hbs.max
  have c1 : w.cell? ⟨gs, 0, none⟩ = some (.int .i64 (s : Nat)) := cell_blk hb.s'
  have c2 : w.cell? ⟨gr, 0, none⟩ = some (.slice (some ⟨b, o, none⟩) rn rc) := cell_blk hb.r
  have c3 : w.cell? ⟨gf, 0, none⟩ = some (.int .u8 u) := cell_blk hb.f
  have c4 : w.cell? ⟨gb, 0, none⟩ = some (.bool bg) := cell_blk hb.b
  have hsd : (s : Int) - 2 = (d : Int) := by omega
  have hmI : min (d : Int) (rn : Int) = (k : Int) := by omega
  have hk1 : 1 ≤ k ∧ k ≤ rn := by omega
  obtain ⟨b1, b2, b3, b4, -, -, -⟩ := nb u hu
  obtain ⟨l, hl⟩ : ∃ l, ((k : Int) == (rn : Int)) = l := ⟨_, rfl⟩
  obtain ⟨x, hx, HF1⟩ : ∃ x, x = (if !bg then (128 : Int) else 0) ∧ Calls Try.prog 57 #[.bool (!bg), .int .u8 128] w.drew (fun e w' => e = .returned (.int .u8 x) ∧ w' = w.drew) := flagV _ _ _
  obtain ⟨y, hy, HF2⟩ : ∃ y, y = (if l then (64 : Int) else 0) ∧ Calls Try.prog 57 #[.bool l, .int .u8 64] w.drew (fun e w' => e = .returned (.int .u8 y) ∧ w' = w.drew) := flagV _ _ _
  have hxb : x = 0 ∨ x = 128 := by subst hx; cases bg <;> simp
  have hyb : y = 0 ∨ y = 64 := by subst hy; cases l <;> simp
  have o1 : bits .or .u8 x y = x + y := by rcases hxb with rfl | rfl <;> rcases hyb with rfl | rfl <;> decide
  have o2 := (nf (x + y) (u % 32) (by omega) (by omega)).1
  have HX : Hid (x + y + u % 32 = (if bg then 0 else 128) + (if k = rn then 64 else 0) + u % 32) := Lib.hid (by
    rw [hx, hy, ← hl]
    have : ((k : Int) == (rn : Int)) = decide (k = rn) := by
      by_cases e : k = rn
      · simp [e]
      · simp [e]; omega
    rw [this]
    cases bg <;> by_cases e : k = rn <;> simp [e])
  have HF1 := Lib.hid HF1
  have HF2 := Lib.hid HF2
  have HB := Lib.hid hb
  have HBS := Lib.hid hbs
  have lr : gr < w.heap.size := lt_of_block hb.r
  have lb : gb < w.heap.size := lt_of_block hb.b
  have lrn : gr ≠ w.heap.size := by omega
  have lbn : gb ≠ w.heap.size := by omega
  have n3' : gb ≠ gr := fun e => n3 e.symm
  have f1 : w.frozen? ⟨gr, 0, none⟩ = false := free_blk hb.r
  have f2 : w.frozen? ⟨gb, 0, none⟩ = false := free_blk hb.b
  have hkn : (k : Int) ≤ (rn : Int) := by omega
  have hkc : (k : Int) ≤ (rc : Int) := by omega
  clear hb hbs hx hy hs hk
  go_enter Try.func56, Try.ntmps56
  go_wp2_with fail
  refine wp_region_still_tail 15 (by kernel_rfl) (by kernel_rfl) ?_
  simp only [List.take_succ_cons, List.take_zero, List.drop_succ_cons, List.drop_zero]
  iterate 5 still_step
  still_call HF1.out
  iterate 4 still_step
  still_call HF2.out
  iterate 4 still_step
  refine wpStill_nil ?_
  change wpList _ _ _ _ _ w.drew
  go_wp2_with fail
  · generalize hW : World.drew _ = W
    obtain ⟨q1, q2, q3, q4⟩ := cut1_w hW HB.out HBS.out hBw hBr hBb hk1.2 (by omega) (by omega) (by omega) (by omega) n1 n2 n3 n4 n5
    have hcl2 : cats (two ⟨some ⟨w.heap.size, 0, none⟩, 2, 2, gz [u / 32 * 32 + 28, x + y + u % 32]⟩ ⟨some ⟨b, o, none⟩, k, k, Y⟩) 2 = [u / 32 * 32 + 28, x + y + u % 32] ++ zs Y k := (cats_two _ _).trans (by congr 1)
    have hlen : (cats (two ⟨some ⟨w.heap.size, 0, none⟩, 2, 2, gz [u / 32 * 32 + 28, x + y + u % 32]⟩ ⟨some ⟨b, o, none⟩, k, k, Y⟩) 2).length = 2 + k := by rw [hcl2, List.length_append, zs_len]; rfl
    have hcc := concat_sl W.heap.size _ 2 2 _ W q4 (Nat.le_refl _) (by omega) (by rw [hlen]; omega) (by rw [hlen]; omega)
    rw [hlen, hcl2, HX.out] at hcc
    have HCC := Lib.hid hcc
    have Q1 := Lib.hid q1
    have Q2 := Lib.hid q2
    have Q3 := Lib.hid q3
    clear hW q1 q2 q3 q4 hcl2 hlen hcc
    refine HCC.out.mono ?_
    rintro e W2 ⟨a', c', rfl, O, B2⟩
    have HO := Lib.hid O
    have HB2 := Lib.hid B2
    clear O B2
    go_wp2_with fail
    go_ret
    have hk' := Kp2.below Q2.out HB2.out
    have hbx : CutB W2 gs gr gf gb s _ _ _ u true := ⟨Below.blk HB2.out Q1.out.s' (lt_of_block Q1.out.s'), Below.blk HB2.out Q1.out.r (lt_of_block Q1.out.r), Below.blk HB2.out Q1.out.f (lt_of_block Q1.out.f), Below.blk HB2.out Q1.out.b (lt_of_block Q1.out.b)⟩
    refine ⟨a', c', some ⟨b, o, none⟩, rfl, HO.out.mono Q3.out, ?_, fun h0 => by omega, hk'⟩
    rw [show rc - k = 0 by omega]
    exact hbx
  · generalize hW : World.drew _ = W
    obtain ⟨q1, q2, q3, q4⟩ := cut1_w hW HB.out HBS.out hBw hBr hBb hk1.2 (by omega) (by omega) (by omega) (by omega) n1 n2 n3 n4 n5
    have hcl2 : cats (two ⟨some ⟨w.heap.size, 0, none⟩, 2, 2, gz [u / 32 * 32 + 28, x + y + u % 32]⟩ ⟨some ⟨b, o, none⟩, k, rc, Y⟩) 2 = [u / 32 * 32 + 28, x + y + u % 32] ++ zs Y k := (cats_two _ _).trans (by congr 1)
    have hlen : (cats (two ⟨some ⟨w.heap.size, 0, none⟩, 2, 2, gz [u / 32 * 32 + 28, x + y + u % 32]⟩ ⟨some ⟨b, o, none⟩, k, rc, Y⟩) 2).length = 2 + k := by rw [hcl2, List.length_append, zs_len]; rfl
    have hcc := concat_sl W.heap.size _ 2 2 _ W q4 (Nat.le_refl _) (by omega) (by rw [hlen]; omega) (by rw [hlen]; omega)
    rw [hlen, hcl2, HX.out] at hcc
    have HCC := Lib.hid hcc
    have Q1 := Lib.hid q1
    have Q2 := Lib.hid q2
    have Q3 := Lib.hid q3
    clear hW q1 q2 q3 q4 hcl2 hlen hcc
    refine HCC.out.mono ?_
    rintro e W2 ⟨a', c', rfl, O, B2⟩
    have HO := Lib.hid O
    have HB2 := Lib.hid B2
    clear O B2
    go_wp2_with fail
    go_ret
    have hk' := Kp2.below Q2.out HB2.out
    have hbx : CutB W2 gs gr gf gb s _ _ _ u true := ⟨Below.blk HB2.out Q1.out.s' (lt_of_block Q1.out.s'), Below.blk HB2.out Q1.out.r (lt_of_block Q1.out.r), Below.blk HB2.out Q1.out.f (lt_of_block Q1.out.f), Below.blk HB2.out Q1.out.b (lt_of_block Q1.out.b)⟩
    exact ⟨a', c', _, rfl, HO.out.mono Q3.out, hbx, fun _ => rfl, hk'⟩
end Go.Proofs.Ytkoplofcjbeicaa
