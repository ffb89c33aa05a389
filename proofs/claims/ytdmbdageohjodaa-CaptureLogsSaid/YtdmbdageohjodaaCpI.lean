/-
  Chapter 45: the program reads a file.
-/
import Derived.Test.YtdmbdageohjodaaCpG
import Derived.Test.YtdmbdageohjodaaCpH
namespace Go.Proofs.Ytdmbdageohjodaa
open Go.RowKit
set_option linter.unusedVariables false
set_option linter.unusedSimpArgs false
attribute [local irreducible] wpStill wpQuiet MixC.wpMix MixC.wpPick
attribute [local go_sem] MixC.rdOp MixC.rd MixC.rdUpon MixC.mvUpon
attribute [local go_sem] Oper.semAt_some

theorem wpListIn_of_append {F : Fence} {n : Nat} {P : Program} {w w' : World} {ops : Array Oper} {rest : List Oper} {o : Oper} {a : Act} {Q : Exit → Act → World → Prop}
    (hg : o.guard = none) (s x : Operand) (t : TypeId) (hop : o.op = Op.call { callee := Callee.builtin Builtin.append, args := #[s, x], argTypes := #[t, t] })
    (v u v' : Value) (hs : a.eval s = v) (hx : a.eval x = u) (hrun : ∀ ty, (Builtin.append_ #[t, t] ty #[v, u]).run P w = .ok v' w')
    (hK : wpListIn F n P ops Q rest (a.put o.dst v') w') : wpListIn F n P ops Q (o :: rest) a w := by
  refine wpListIn_plain hg fun K hK' => ?_
  unfold Oper.wpIn
  refine ⟨by simp [Oper.about, hop, resolve, Target.leads, Sem.run_pure], ?_⟩
  rw [Oper.semAt_plain F _ _ (by rw [hop]; intro c hc'; cases hc'), exec_append hop hs hx (hrun o.type)]
  exact hK' _ _ hK
set_option maxHeartbeats 1000000 in
theorem records_any (a : Option Addr) (n c : Nat) (w : World) : Calls Try.prog 72 #[.slice a n c] w fun e w' => e = .returned (.func (.func 103) #[] #[.pointer (some ⟨w.heap.size, 0, none⟩)]) ∧ w' = w.alloc (.cells #[.slice a n c] 56) := by
  go_enter Try.func72, Try.ntmps72
  go_wp2_with fail
  go_ret
  exact ⟨rfl, rfl⟩
theorem two_set {W X : World} {g h : Nat} {T S : TypeId} {a b v u : Value} (hg : W.heap[g]? = some (.cells #[a] T (0, 0))) (hh : W.heap[h]? = some (.cells #[b] S (0, 0))) (hne : g ≠ h) (hX : (W.setCell ⟨g, 0, none⟩ v).setCell ⟨h, 0, none⟩ u = X) :
    X.heap[g]? = some (.cells #[v] T (0, 0)) ∧ X.heap[h]? = some (.cells #[u] S (0, 0)) ∧ (∀ B, B ≤ g → B ≤ h → Below B W X) ∧ (∀ k, k ≠ g → k ≠ h → X.heap[k]? = W.heap[k]?) ∧ KeepsOthers W X := by
  subst hX
  refine ⟨?_, ?_, fun B hB hB' => ((Below.refl _ _).setCell (p := ⟨g, 0, none⟩) hB _).setCell (p := ⟨h, 0, none⟩) hB' _, fun k hk hk' => ?_, (KeepsOthers.setCell _ _ _).trans (KeepsOthers.setCell _ _ _)⟩
  · rw [set_blk_other _ hne, set_blk _ hg]; rfl
  · rw [set_blk _ ((set_blk_other _ (Ne.symm hne)).trans hh)]; rfl
  · rw [set_blk_other _ hk', set_blk_other _ hk]
/-- the loop begins -/
structure RdL (B : Nat) (n c : Nat) (Z : Nat → Int) (g4 gb : Nat) (wc wx : World) : Prop where
  bl : Below wc.heap.size wc wx
  l4 : wc.heap.size ≤ g4
  lb : g4 < gb
  b4 : wx.heap[g4]? = some (.cells #[.slice none 0 0] 54 (0, 0))
  bb : ∃ a, wx.heap[gb]? = some (.cells #[.slice a (n - 6) (c - 6)] 56 (0, 0)) ∧ BS B wx a (n - 6) (c - 6) (shZ Z 6)
theorem RdL.mk' {B : Nat} {n c : Nat} {Z : Nat → Int} {wc wx : World} {a : Option Addr} (hx : (wc.alloc (.cells #[.slice none 0 0] 54)).alloc (.cells #[.slice a (n - 6) (c - 6)] 56) = wx) (h : BS B wc a (n - 6) (c - 6) (shZ Z 6)) (hB : B ≤ wc.heap.size) : RdL B n c Z wc.heap.size (wc.heap.size + 1) wc wx := by
  subst hx
  have e : (wc.alloc (.cells #[.slice none 0 0] 54)).heap.size = wc.heap.size + 1 := World.size_alloc _ _
  have bl : Below wc.heap.size wc ((wc.alloc (.cells #[.slice none 0 0] 54)).alloc (.cells #[.slice a (n - 6) (c - 6)] 56)) := ((Below.refl _ _).alloc (Nat.le_refl _) _).alloc (by simp) _
  exact ⟨bl, Nat.le_refl _, by omega, (alloc_blk_old (by simp)).trans alloc_blk_new, a, by rw [← e]; exact alloc_blk_new, h.keep (bl.mono hB)⟩
theorem Turned.low {B : Nat} {w w' : World} (h : Turned B w w') {k : Nat} (hk : k < B) : w'.heap[k]? = w.heap[k]? := by
  obtain ⟨l, h1, _, h4⟩ := h.same
  exact h4 k (by omega)
theorem Turned.rl {B : Nat} {w w' : World} (h : Turned B w w') {R : Nat → Rcd} {k base : Nat} {v : Value} (hr : RList R k base v w) : RList R k base v w' := ⟨h.own hr.row, fun i hi => h.own (hr.dat i hi)⟩
theorem RList.but {R : Nat → Rcd} {k base gb : Nat} {v : Value} {A W : World} (h : RList R k base v A) (hb : But (some gb) A W) (hg : gb < base) : RList R k base v W :=
  ⟨own_blk1y h.row (fun q hq => hb.block q (h.row.lt q hq).2 (fun e => by cases e; have := (h.row.lt gb hq).1; omega)), fun i hi => own_blk1y (h.dat i hi) (fun q hq => hb.block q ((h.dat i hi).lt q hq).2 (fun e => by cases e; have := ((h.dat i hi).lt gb hq).1; omega))⟩
/-- between two rounds -/
structure RcI (Z : Nat → Int) (w : World) (g2 g4 base : Nat) (pre : List RcE) (v : Value) (R : Nat → Rcd) (W : World) : Prop where
  h4 : W.heap[g4]? = some (.cells #[v] 54 (0, 0))
  h2 : W.heap[g2]? = some (.cells #[.slice none 0 0] 54 (0, 0))
  h3 : W.heap[g2 + 1]? = some (.cells #[.int .i64 0] 57 (0, 0))
  row : RList R pre.length base v W
  bl : Below w.heap.size w W
  sz : base ≤ W.heap.size
  ok : ∀ x ∈ pre, x.2 = 0
  is : ∀ i, i < pre.length → IsRc (shZ Z 6) (posP (shZ Z 6) 0 i) (R i)
theorem RcI.but {Z : Nat → Int} {w : World} {g2 g4 base gb : Nat} {pre : List RcE} {v : Value} {R : Nat → Rcd} {A W : World} (h : RcI Z w g2 g4 base pre v R A) (hb : But (some gb) A W) (e2 : g2 + 1 < gb) (e4 : g4 < gb) (hg : gb < base) (hw : w.heap.size ≤ gb) : RcI Z w g2 g4 base pre v R W :=
  ⟨(hb.block _ (lt_of_block h.h4) (fun e => by cases e; omega)).trans h.h4, (hb.block _ (lt_of_block h.h2) (fun e => by cases e; omega)).trans h.h2, (hb.block _ (lt_of_block h.h3) (fun e => by cases e; omega)).trans h.h3,
    h.row.but hb hg, h.bl.trans (hb.below h.bl.size (fun g e => by cases e; exact hw)), Nat.le_trans h.sz hb.size, h.ok, h.is⟩
theorem RcI.below {Z : Nat → Int} {w : World} {g2 g4 base : Nat} {pre : List RcE} {v : Value} {R : Nat → Rcd} {A W : World} (h : RcI Z w g2 g4 base pre v R A) (hb : Below A.heap.size A W) : RcI Z w g2 g4 base pre v R W :=
  ⟨Below.blk hb h.h4 (lt_of_block h.h4), Below.blk hb h.h2 (lt_of_block h.h2), Below.blk hb h.h3 (lt_of_block h.h3), h.row.below hb, h.bl.trans (hb.mono h.bl.size), Nat.le_trans h.sz hb.size, h.ok, h.is⟩
theorem RcI.turned {B : Nat} {Z : Nat → Int} {w : World} {g2 g4 base : Nat} {pre : List RcE} {v : Value} {R : Nat → Rcd} {A W : World} (h : RcI Z w g2 g4 base pre v R A) (hb : Turned B A W) (hB : w.heap.size ≤ B) : RcI Z w g2 g4 base pre v R W :=
  ⟨hb.blk h.h4 rfl, hb.blk h.h2 rfl, hb.blk h.h3 rfl, hb.rl h.row, hb.below h.bl hB, by rw [hb.size]; exact h.sz, h.ok, h.is⟩
/-- a round has left -/
structure RcX (Z : Nat → Int) (n : Nat) (w : World) (g2 base : Nat) (v : Value) (K : Nat) (E : Int) (R : Nat → Rcd) (W : World) : Prop where
  h2 : W.heap[g2]? = some (.cells #[v] 54 (0, 0))
  h3 : W.heap[g2 + 1]? = some (.cells #[.int .i64 E] 57 (0, 0))
  row : RList R K base v W
  bl : Below w.heap.size w W
  st : StopP Z n 6 K E
  is : ∀ i, i < K → IsRc Z (posP Z 6 i) (R i)
theorem RcX.but {Z : Nat → Int} {n : Nat} {w : World} {g2 base gb : Nat} {v : Value} {K : Nat} {E : Int} {R : Nat → Rcd} {A W : World} (h : RcX Z n w g2 base v K E R A) (hb : But (some gb) A W) (e2 : g2 + 1 < gb) (hg : gb < base) (hw : w.heap.size ≤ gb) : RcX Z n w g2 base v K E R W :=
  ⟨(hb.block _ (lt_of_block h.h2) (fun e => by cases e; omega)).trans h.h2, (hb.block _ (lt_of_block h.h3) (fun e => by cases e; omega)).trans h.h3,
    h.row.but hb hg, h.bl.trans (hb.below h.bl.size (fun g e => by cases e; exact hw)), h.st, h.is⟩
theorem RcX.turned {B : Nat} {Z : Nat → Int} {n : Nat} {w : World} {g2 base : Nat} {v : Value} {K : Nat} {E : Int} {R : Nat → Rcd} {A W : World} (h : RcX Z n w g2 base v K E R A) (hb : Turned B A W) (hB : w.heap.size ≤ B) : RcX Z n w g2 base v K E R W :=
  ⟨hb.blk h.h2 rfl, hb.blk h.h3 rfl, hb.rl h.row, hb.below h.bl hB, h.st, h.is⟩
theorem posP_sh (Z : Nat → Int) (s k : Nat) : posP Z s k = s + posP (shZ Z s) 0 k := by
  induction k with
  | zero => simp [posP]
  | succ k ih =>
    show nxtP Z (posP Z s k) = s + nxtP (shZ Z s) (posP (shZ Z s) 0 k)
    unfold nxtP
    rw [ih, shZ_sh]
    omega
theorem errP_sh (Z : Nat → Int) (n s q : Nat) : errP (shZ Z s) (n - s) q = errP Z n (s + q) := by
  unfold errP
  rw [shZ_sh, Nat.sub_sub]
theorem IsRc.at_ {Z : Nat → Int} {s p : Nat} {r : Rcd} (h : IsRc (shZ Z s) p r) : IsRc Z (s + p) r := by
  obtain ⟨h1, h2, h3, h4, h5, h6⟩ := h
  rw [numv_sh] at h1 h3 h4
  rw [shZ_sh] at h5
  refine ⟨h1, ?_, ?_, ?_, h5, fun x hx => ?_⟩
  · rw [h2]; unfold shZ; congr 1
  · rw [h3]; congr 1
  · rw [h4]; congr 1
  · rw [h6 x hx]; unfold shZ; congr 1; omega
theorem RcX.fin {Z : Nat → Int} {n : Nat} {w : World} {g2 base : Nat} {v : Value} {K : Nat} {E : Int} {R : Nat → Rcd} {W : World} (h : RcX Z n w g2 base v K E R W) (h6 : 6 ≤ n) (hh : hdS Z) (hb : w.heap.size ≤ base) : ReadPost Z n w (.returned (.tuple #[v, .int .i64 E])) W := by
  obtain ⟨a, c, e⟩ := h.row.sl
  have r := h.row.mono hb
  have h1 := h.bl
  have h2 := h.st
  have h3 := h.is
  clear h
  subst e
  exact ⟨a, K, c, R, E, rfl, h1, r, .inr (.inr ⟨h6, hh, h2, h3⟩)⟩
theorem good_sh {Z : Nat → Int} {n k : Nat} (h : GoodP (shZ Z 6) (n - 6) k) : ∀ i, i < k → posP Z 6 i < n ∧ errP Z n (posP Z 6 i) = 0 := fun i hi => by
  obtain ⟨h1, h2⟩ := h i hi
  rw [errP_sh] at h2
  rw [posP_sh]
  exact ⟨by omega, h2⟩
theorem RList.set {R : Nat → Rcd} {k base g : Nat} {v u : Value} {W : World} (h : RList R k base v W) (hg : g < base) : RList R k base v (W.setCell ⟨g, 0, none⟩ u) :=
  ⟨own_blk1y h.row (fun q hq => set_blk_other _ (fun e => by have := (h.row.lt q hq).1; rw [e] at this; exact absurd hg (Nat.not_lt.2 this))), fun i hi => own_blk1y (h.dat i hi) (fun q hq => set_blk_other _ (fun e => by have := ((h.dat i hi).lt q hq).1; rw [e] at this; exact absurd hg (Nat.not_lt.2 this)))⟩
set_option maxRecDepth 100000 in
set_option maxHeartbeats 4000000 in
theorem read45_any (B : Nat) (a : Option Addr) (n c : Nat) (Z : Nat → Int) (w : World) (hb : BS B w a n c Z) (hB : B ≤ w.heap.size) (hn : n ≤ 80000) :
    Calls Try.prog 31 #[.slice a n c] w (ReadPost Z n w) := by
  have HB := Lib.hid hb
  have hle := hb.le
  have hmx := hb.max
  clear hb
  obtain ⟨g2, hg2⟩ : ∃ g2, w.heap.size = g2 := ⟨_, rfl⟩
  obtain ⟨W1, hW1⟩ : ∃ W1, (w.alloc (.cells #[.slice none 0 0] 54)).alloc (.cells #[.int .i64 0] 57) = W1 := ⟨_, rfl⟩
  have G2 : Hid (W1.heap[g2]? = some (.cells #[.slice none 0 0] 54 (0, 0))) := Lib.hid (by rw [← hW1, ← hg2]; exact (alloc_blk_old (by simp)).trans alloc_blk_new)
  have G3 : Hid (W1.heap[g2 + 1]? = some (.cells #[.int .i64 0] 57 (0, 0))) := Lib.hid (by rw [← hW1, ← hg2]; have := alloc_blk_new (w := w.alloc (.cells #[.slice none 0 0] 54)) (o := .cells #[.int .i64 0] 57); rw [World.size_alloc] at this; exact this)
  have B1 : Hid (Below w.heap.size w W1) := Lib.hid (by rw [← hW1]; exact ((Below.refl _ _).alloc (Nat.le_refl _) _).alloc (by simp) _)
  have HW := Lib.hid hW1
  have HG := Lib.hid hg2
  clear hW1 hg2
  by_cases h6 : n < 6
  · have d1 : decide ((n : Int) < 6) = true := by simp; omega
    refine calls_of_wp_marks Try.func31 rfl ?_
    simp only [Try.ntmps31, List.size_toArray, List.length_cons, List.length_nil, Nat.reduceAdd, Nat.reduceSub, Array.replicate_succ, Array.replicate_zero, List.push_toArray, List.append_toArray, List.nil_append, List.cons_append]
    go_wp2_with fail
    obtain ⟨X, hX⟩ : ∃ X, (w.alloc (.cells #[.slice none 0 0] 54)).alloc (.cells #[.int .i64 2] 57) = X := ⟨_, rfl⟩
    rw [hX]
    have r2 : X.cell? ⟨w.heap.size, 0, none⟩ = some (.slice none 0 0) := by rw [← hX]; exact cell_blk ((alloc_blk_old (by simp)).trans alloc_blk_new)
    have r3 : X.cell? ⟨w.heap.size + 1, 0, none⟩ = some (.int .i64 2) := by rw [← hX]; have := alloc_blk_new (w := w.alloc (.cells #[.slice none 0 0] 54)) (o := .cells #[.int .i64 2] 57); rw [World.size_alloc] at this; exact cell_blk this
    have bx : Below w.heap.size w X := by rw [← hX]; exact ((Below.refl _ _).alloc (Nat.le_refl _) _).alloc (by simp) _
    clear hX
    refine leaves_none (v := .tuple #[.slice none 0 0, .int .i64 2]) (by simp [results, Try.results31, go_sem, r2, r3]) ?_
    exact ⟨none, 0, 0, fun _ => default, 2, rfl, bx, RList.nil _ _ _, .inl ⟨h6, rfl, rfl⟩⟩
  · have d1 : decide ((n : Int) < 6) = false := by simp; omega
    obtain ⟨b0, o0, hp0, hc0⟩ := HB.out.mem
    obtain ⟨rfl, hb0⟩ := hp0 (by omega)
    have q1 : (6 : Int) ≤ c := by omega
    clear hp0 hc0
    refine calls_of_wp_marks Try.func31 rfl ?_
    simp only [Try.ntmps31, List.size_toArray, List.length_cons, List.length_nil, Nat.reduceAdd, Nat.reduceSub, Array.replicate_succ, Array.replicate_zero, List.push_toArray, List.append_toArray, List.nil_append, List.cons_append]
    go_upto_region 3 with (fail)
    rw [HW.out, HG.out]
    go_cut [11] from 8 to 31 (fun s11 wx => (s11 = .bool (!hdB Z)) ∧ Hid (Below W1.heap.size W1 wx))
    case first =>
      have hne : Nonempty { w' : World // Below W1.heap.size W1 w' } := ⟨⟨_, Below.refl _ _⟩⟩
      have D0 : Hid (Below W1.heap.size W1 W1.drew) := Lib.hid (Below.refl _ _).drew
      have v2 : ∀ z : { w' : World // Below W1.heap.size W1 w' }, (convert 56 9 (.slice (some ⟨b0, o0, none⟩) 6 c)).run Try.prog z.1 = .ok (.string (strOf Z 6)) z.1 := fun z => run_conv_BS ((HB.out.keep ((B1.out.trans (z.2.mono B1.out.size)).mono hB)).cut (k := 6) (m := c) (by omega) (by omega) (Nat.le_refl _)) Try.underlying56 Try.underlying5 Try.underlying9
      refine MixC.wp_region_mix [3, 4] (Below W1.heap.size W1) D0.out (by kernel_rfl) (by kernel_rfl) (by kernel_rfl) ?_
      (iterate 3 (refine MixC.mix_read rfl (fun K hK => ?_); go_simp; refine hK _ ?_; clear hK K))
      refine MixC.mix_move rfl (fun K hK => ?_)
      go_simp
      refine (beg_any W1.drew).mono ?_
      rintro e V ⟨a1, c1, rfl, o1, b1⟩
      have D1 : Hid (Below W1.heap.size W1 V) := Lib.hid ((Below.refl _ _).drew.trans b1)
      have v4 := conv_own o1 begL_oct (by omega) (Below.refl _ V)
      clear o1 b1
      refine ⟨_, rfl, D1.out, hK _ _ ?_⟩
      clear hK K
      refine MixC.mix_move rfl (fun K hK => ?_)
      go_simp
      refine ⟨D1.out, hK _ _ ?_⟩
      clear hK K
      (iterate 2 (refine MixC.mix_read rfl (fun K hK => ?_); go_simp; refine hK _ ?_; clear hK K))
      refine MixC.mix_nil ?_
      go_wp2_with fail
      go_meet
      exact ⟨rfl, D1⟩
    case rest =>
      obtain ⟨rfl, BWC⟩ := hcut
      obtain ⟨wb, hwb⟩ : ∃ wb, wb = wc := ⟨_, rfl⟩
      subst hwb
      have H2 : Hid (wb.heap[g2]? = some (.cells #[.slice none 0 0] 54 (0, 0))) := Lib.hid (Below.blk BWC.out G2.out (lt_of_block G2.out))
      have H3 : Hid (wb.heap[g2 + 1]? = some (.cells #[.int .i64 0] 57 (0, 0))) := Lib.hid (Below.blk BWC.out G3.out (lt_of_block G3.out))
      have BC : Hid (Below w.heap.size w wb) := Lib.hid (B1.out.trans (BWC.out.mono B1.out.size))
      by_cases hh : hdS Z
      · rw [show (!hdB Z) = false by unfold hdS at hh; rw [hh]; rfl]
        have HH := Lib.hid hh
        clear hh d1
        go_upto_region 6 with (fail)
        go_cut [20] from 8 to 31 (fun s20 wx => ∃ g4 gb, s20 = .func (.func 103) #[] #[.pointer (some ⟨gb, 0, none⟩)] ∧ (wb.heap.size = g4) ∧ Hid (RdL B n c Z g4 gb wb wx))
        case first =>
          by_cases hc6 : c = 6
          · subst hc6
            go_wp2_with fail
            refine (records_any _ _ _ _).mono ?_
            rintro e V ⟨rfl, hV⟩
            have H : Hid (RdL B n 6 Z wb.heap.size (wb.heap.size + 1) wb V) := Lib.hid (RdL.mk' (a := some ⟨b0, o0, none⟩) (by rw [hV, show n - 6 = 0 by omega]) ((HB.out.keep (BC.out.mono hB)).drop0 6 rfl) (Nat.le_trans hB BC.out.size))
            clear hV
            go_wp2_with fail
            go_meet
            exact ⟨_, _, by simp, rfl, H⟩
          · have hc7 : ¬ c - 6 = 0 := by omega
            go_wp2_with fail
            refine (records_any _ _ _ _).mono ?_
            rintro e V ⟨rfl, hV⟩
            have H : Hid (RdL B n c Z wb.heap.size (wb.heap.size + 1) wb V) := Lib.hid (RdL.mk' (a := some ⟨b0, o0 + 6, none⟩) hV.symm ((HB.out.keep (BC.out.mono hB)).drop 6 (by omega) (by omega)) (Nat.le_trans hB BC.out.size))
            clear hV
            go_wp2_with fail
            go_meet
            exact ⟨_, _, by simp, rfl, H⟩
        case rest =>
          obtain ⟨g4, gb, rfl, hg4, HL⟩ := hcut
          rw [hg4]
          have HG4 := Lib.hid hg4
          clear hg4
          go_wp2_with fail
          have L := HL.out
          obtain ⟨a6, hgb, hbs6⟩ := L.bb
          have e2 : g2 + 1 < gb := by have := lt_of_block H3.out; have := L.l4; have := L.lb; omega
          have e4 : g4 < gb := L.lb
          have hgl : gb < wc.heap.size := lt_of_block hgb
          have hwg : w.heap.size ≤ gb := by have := BC.out.size; have := L.l4; omega
          have hBw : w.heap.size ≤ wc.heap.size := by omega
          have hB6 : B ≤ gb := by omega
          have BL : Below w.heap.size w wc := BC.out.trans (L.bl.mono BC.out.size)
          have I0 : RcI Z w g2 g4 wc.heap.size [] (.slice none 0 0) (fun _ => default) wc := ⟨L.b4, Below.blk L.bl H2.out (lt_of_block H2.out), Below.blk L.bl H3.out (lt_of_block H3.out), RList.nil _ _ _, BL, Nat.le_refl _, fun x hx => (by cases hx), fun i hi => absurd hi (Nat.not_lt_zero _)⟩
          have hseq := records_seq B gb a6 (n - 6) (c - 6) (shZ Z 6) wc hbs6 hgb hB6 (by omega)
          refine wp_rangeFunc_w (gf := 103) (lb := #[.pointer (some ⟨gb, 0, none⟩)]) rfl (enters_of Try.func103 (by kernel_rfl) rfl) hseq (fun x => rfl) (fun k e => by cases e; exact hgl)
            (fun pre W => ∃ v R, RcI Z w g2 g4 wc.heap.size pre v R W) (fun c _ W => c = .ret ∧ ∃ v K E R, RcX Z n w g2 wc.heap.size v K E R W)
            (fun s A W ⟨v, R, h⟩ hb => ⟨v, R, h.but hb e2 e4 hgl hwg⟩) (fun c s A W ⟨hc, v, K, E, R, h⟩ hb => ⟨hc, v, K, E, R, h.but hb e2 hgl hwg⟩)
            (fun W hW => ⟨_, _, I0.below hW⟩) ?round ?done ?stop
          case round =>
            rintro l pre ⟨⟨tk, wy, ad, pt, ra, rn, rc, rZ⟩, E⟩ W0 W hl ⟨v, R, i0⟩ hbut ⟨hgood, hlt, hE, hbw, hrow⟩
            have i1 := i0.but hbut e2 e4 hgl hwg
            have hsz := i1.sz
            have hsz0 := i0.sz
            simp only [RcE.enc, Rcd.agg] at hE hrow ⊢
            have HI := Lib.hid i1
            have HR := Lib.hid hrow
            have HE := Lib.hid hE
            have HGD := Lib.hid hgood
            clear i0 i1 hrow hE hgood hbut hbw
            gi_wp2_with fail
            obtain ⟨V1, hV1⟩ : ∃ V1, W.alloc (.cells #[.int .i64 tk, .int .i64 wy, .int .u32 ad, .int .u16 pt, .slice ra rn rc] 72) = V1 := ⟨_, rfl⟩
            rw [hV1]
            obtain ⟨g5, hg5⟩ : ∃ g5, W.heap.size = g5 := ⟨_, rfl⟩
            rw [hg5]
            have b1 : Below W.heap.size W V1 := by rw [← hV1]; exact (Below.refl _ _).alloc (Nat.le_refl _) _
            have blk5 : V1.heap[g5]? = some (rcO tk wy ad pt ra rn rc) := by rw [← hV1, ← hg5]; exact alloc_blk_new
            have lowgb : V1.heap[gb]? = W.heap[gb]? := by rw [← hV1]; exact alloc_blk_old (by omega)
            refine ⟨by rw [← hV1]; exact KeepsOthers.alloc _ _, fun W2 ht => ?_⟩
            have i2 := (HI.out.below b1).turned ht hBw
            have blk52 := ht.blk blk5 rfl
            have row2 : E = 0 → W2.ownsRow wc.heap.size 5 1 (.slice ra rn rc) rn (bytesOf rZ rn) := fun h => ht.own (own_below (World.ownsRow.mono (HR.out h).2 hsz0) b1)
            have kp0 : W2.heap[gb]? = W.heap[gb]? := (ht.low hgl).trans lowgb
            have kb0 : Below B W W2 := ht.below (b1.mono (by omega)) (by omega)
            have e24 : g2 + 1 < g4 := by have := lt_of_block H3.out; have := L.l4; omega
            have hk19 := posP_lt HGD.out (Nat.zero_le _)
            have hvl := i2.row.sl
            obtain ⟨va, vc, hv⟩ := hvl
            subst hv
            have I2 := Lib.hid i2
            have K0 := Lib.hid kp0
            have K1 := Lib.hid kb0
            have RW := Lib.hid row2
            have y0 : W2.cell? ⟨g5, 0, none⟩ = some (.int .i64 tk) := cell_blk blk52
            have y1 : W2.cell? ⟨g5, 1, none⟩ = some (.int .i64 wy) := cell_blk blk52
            have y2 : W2.cell? ⟨g5, 2, none⟩ = some (.int .u32 ad) := cell_blk blk52
            have y3 : W2.cell? ⟨g5, 3, none⟩ = some (.int .u16 pt) := cell_blk blk52
            have y4 : W2.cell? ⟨g5, 4, none⟩ = some (.slice ra rn rc) := cell_blk blk52
            have x4 : W2.cell? ⟨g4, 0, none⟩ = some (.slice va pre.length vc) := cell_blk i2.h4
            have x2 : W2.cell? ⟨g2, 0, none⟩ = some (.slice none 0 0) := cell_blk i2.h2
            have x3 : W2.cell? ⟨g2 + 1, 0, none⟩ = some (.int .i64 0) := cell_blk i2.h3
            have z2 : W2.frozen? ⟨g2, 0, none⟩ = false := free_blk i2.h2
            have z3 : W2.frozen? ⟨g2 + 1, 0, none⟩ = false := free_blk i2.h3
            clear i2 kp0 kb0 row2 b1 blk5 lowgb hV1 ht blk52
            by_cases hE0 : E = 0
            · subst hE0
              have w2 := RW.out rfl
              have is0 := (HR.out rfl).1
              obtain ⟨a9, c9, V3, A9, B9⟩ := app1 elRcd I2.out.row.row (rcV ⟨tk, wy, ad, pt, ra, rn, rc, rZ⟩) rfl (rcV_one _) (by omega) (by omega) I2.out.sz
              have R3 := (I2.out.row.add (r := ⟨tk, wy, ad, pt, ra, rn, rc, rZ⟩) w2 A9.but A9.own)
              have vne : ∀ q, (Value.slice va pre.length vc).ownBlock = some q → wc.heap.size ≤ q := fun q hq => (I2.out.row.row.lt q hq).1
              have p4 : V3.heap[g4]? = some (.cells #[.slice va pre.length vc] 54 (0, 0)) := A9.but.blk I2.out.h4 (fun e => by have := vne g4 e; omega)
              have p2 : V3.heap[g2]? = some (.cells #[.slice none 0 0] 54 (0, 0)) := A9.but.blk I2.out.h2 (fun e => by have := vne g2 e; omega)
              have p3 : V3.heap[g2 + 1]? = some (.cells #[.int .i64 0] 57 (0, 0)) := A9.but.blk I2.out.h3 (fun e => by have := vne (g2 + 1) e; omega)
              have pb : V3.heap[gb]? = W.heap[gb]? := (A9.but.block gb (by have := I2.out.sz; omega) (fun e => by have := vne gb e; omega)).trans K0.out
              have ko : KeepsOthers W2 V3 := A9.but.others (fun q o hq ho => by
                obtain ⟨cs, mm, h2⟩ := own_block I2.out.row.row q hq
                rw [h2] at ho; injection ho with ho; subst ho; rfl)
              have HA := Lib.hid A9.run
              have R3H := Lib.hid R3
              have B3H := Lib.hid B9
              have KOH := Lib.hid ko
              have PBH := Lib.hid pb
              have P4 := Lib.hid p4
              have P2 := Lib.hid p2
              have P3 := Lib.hid p3
              have u4 : V3.cell? ⟨g4, 0, none⟩ = some (.slice va pre.length vc) := cell_blk p4
              have f4 : V3.frozen? ⟨g4, 0, none⟩ = false := free_blk p4
              clear A9 B9 R3 ko pb p4 p2 p3 vne w2
              gi_wp2_with (gi_at_builtin; refine wpListIn_of_append rfl (.tmp 27) (.tmp 29) 54 rfl _ _ _ rfl rfl HA.out ?_)
              have hl1 : (pre ++ [((⟨tk, wy, ad, pt, ra, rn, rc, rZ⟩ : Rcd), (0 : Int))]).length = pre.length + 1 := by rw [List.length_append, List.length_singleton]
              have i3 : RcI Z w g2 g4 wc.heap.size (pre ++ [((⟨tk, wy, ad, pt, ra, rn, rc, rZ⟩ : Rcd), (0 : Int))]) (.slice a9 (pre.length + 1) c9) (addR R pre.length ⟨tk, wy, ad, pt, ra, rn, rc, rZ⟩) (V3.setCell ⟨g4, 0, none⟩ (.slice a9 (pre.length + 1) c9)) := by
                refine ⟨by rw [set_blk _ P4.out]; rfl, (set_blk_other _ (show g2 ≠ g4 by omega)).trans P2.out, (set_blk_other _ (show g2 + 1 ≠ g4 by omega)).trans P3.out, by rw [hl1]; exact R3H.out.set (by omega), (I2.out.bl.trans (B3H.out.mono hBw)).setCell (p := ⟨g4, 0, none⟩) (by have := BC.out.size; have := L.l4; show w.heap.size ≤ g4; omega) _, by have := B3H.out.size; have := I2.out.sz; simp only [World.setCell, Array.size_modify]; omega, fun x hx => ?_, fun i hi => ?_⟩
                · rcases List.mem_append.1 hx with h | h
                  · exact I2.out.ok x h
                  · rw [List.mem_singleton.1 h]
                · rw [hl1] at hi
                  rcases Nat.lt_or_ge i pre.length with h | h
                  · rw [addR_other _ _ (by omega)]; exact I2.out.is i h
                  · have : i = pre.length := by omega
                    subst this
                    rw [addR_same]; exact is0
              have k3 : Below B W2 (V3.setCell ⟨g4, 0, none⟩ (.slice a9 (pre.length + 1) c9)) := (B3H.out.mono (by omega)).setCell (p := ⟨g4, 0, none⟩) (by have := BC.out.size; have := L.l4; show B ≤ g4; omega) _
              exact ⟨KOH.out.trans (KeepsOthers.setCell _ _ _), fun W3 ht => ⟨⟨(ht.low hgl).trans ((set_blk_other _ (show gb ≠ g4 by omega)).trans PBH.out), ht.below (K1.out.trans k3) (by omega)⟩, _, _, i3.turned ht hBw⟩⟩
            · have d2 : decide (E = 0) = false := by simpa using hE0
              gi_wp2_with fail
              generalize hX : World.setCell _ _ _ = X
              obtain ⟨x2', x3', xb, xo, ko⟩ := two_set I2.out.h2 I2.out.h3 (by omega) hX
              have hgs := good_sh HGD.out
              have hw2 : w.heap.size = g2 := HG.out
              have rx : RcX Z n w g2 wc.heap.size (.slice va pre.length vc) pre.length E R X := by
                refine ⟨x2', x3', ⟨own_blk1y I2.out.row.row (fun q hq => xo q (by have := (I2.out.row.row.lt q hq).1; omega) (by have := (I2.out.row.row.lt q hq).1; omega)), fun i hi => own_blk1y (I2.out.row.dat i hi) (fun q hq => xo q (by have := ((I2.out.row.dat i hi).lt q hq).1; omega) (by have := ((I2.out.row.dat i hi).lt q hq).1; omega))⟩, I2.out.bl.trans (xb _ (by omega) (by omega)), ⟨hgs, .inr ⟨?_, ?_, hE0⟩⟩, fun i hi => ?_⟩
                · rw [posP_sh]; omega
                · rw [posP_sh, ← errP_sh]; exact HE.out
                · rw [posP_sh]; exact (I2.out.is i hi).at_
              exact ⟨ko, fun W3 ht => ⟨rfl, _, _, _, _, rx.turned ht hBw⟩⟩
          case done =>
            rintro D xs V V' hD hS ⟨v, R, i0⟩ ht hk
            rcases hS with ⟨hgood, hpos⟩ | ⟨p', x, rfl, hx0⟩
            · have i1 := i0.turned ht hBw
              obtain ⟨va, vc, hv⟩ := i1.row.sl
              subst hv
              have HI := Lib.hid i1
              have x4 : V'.cell? ⟨g4, 0, none⟩ = some (.slice va xs.length vc) := cell_blk i1.h4
              have x2 : V'.cell? ⟨g2, 0, none⟩ = some (.slice none 0 0) := cell_blk i1.h2
              have x3 : V'.cell? ⟨g2 + 1, 0, none⟩ = some (.int .i64 0) := cell_blk i1.h3
              have z2 : V'.frozen? ⟨g2, 0, none⟩ = false := free_blk i1.h2
              have z3 : V'.frozen? ⟨g2 + 1, 0, none⟩ = false := free_blk i1.h3
              have e24 : g2 + 1 < g4 := by have := lt_of_block H3.out; have := L.l4; omega
              have hw2 : w.heap.size = g2 := HG.out
              have hgs := good_sh hgood
              clear i0 i1
              go_wp2_with fail
              generalize hX : World.setCell _ _ _ = X
              obtain ⟨x2', x3', xb, xo, ko⟩ := two_set HI.out.h2 HI.out.h3 (by omega) hX
              have rx : RcX Z n w g2 wc.heap.size (.slice va xs.length vc) xs.length 0 R X := by
                refine ⟨x2', x3', ⟨own_blk1y HI.out.row.row (fun q hq => xo q (by have := (HI.out.row.row.lt q hq).1; omega) (by have := (HI.out.row.row.lt q hq).1; omega)), fun i hi => own_blk1y (HI.out.row.dat i hi) (fun q hq => xo q (by have := ((HI.out.row.dat i hi).lt q hq).1; omega) (by have := ((HI.out.row.dat i hi).lt q hq).1; omega))⟩, HI.out.bl.trans (xb _ (by omega) (by omega)), ⟨hgs, .inl ⟨?_, rfl⟩⟩, fun i hi => ?_⟩
                · rw [posP_sh]; omega
                · rw [posP_sh]; exact (HI.out.is i hi).at_
              have hk2 := ko.same D _ hk rfl
              have rx2 := rx.turned (Turned.put (.deferred none) hD hk2 rfl) hBw
              have r2 := cell_blk (i := 0) rx2.h2
              have r3 := cell_blk (i := 0) rx2.h3
              refine leaves_mark hk2 (v := .tuple #[.slice va xs.length vc, .int .i64 0]) (by simp [results, Try.results31, go_sem, r2, r3]) ?_
              exact rx2.fin (by omega) HH.out hBw
            · exact absurd (i0.ok x (by simp)) hx0
          case stop =>
            rintro D c' pre V V' hD - ⟨rfl, v, K, E, R, x0⟩ ht hk
            have rx2' := x0.turned ht hBw
            have rx2 := rx2'.turned (Turned.put (.deferred none) hD hk rfl) hBw
            have r2 := cell_blk (i := 0) rx2.h2
            have r3 := cell_blk (i := 0) rx2.h3
            go_wp2_with fail
            refine leaves_mark hk (v := .tuple #[v, .int .i64 E]) (by simp [results, Try.results31, go_sem, r2, r3]) ?_
            exact rx2.fin (by omega) HH.out hBw
      · rw [show (!hdB Z) = true by unfold hdS at hh; simpa using hh]
        clear d1 q1
        have y2 : wb.cell? ⟨g2, 0, none⟩ = some (.slice none 0 0) := cell_blk H2.out
        have y3 : wb.cell? ⟨g2 + 1, 0, none⟩ = some (.int .i64 0) := cell_blk H3.out
        have z2 : wb.frozen? ⟨g2, 0, none⟩ = false := free_blk H2.out
        have z3 : wb.frozen? ⟨g2 + 1, 0, none⟩ = false := free_blk H3.out
        go_wp2_with fail
        clear y2 y3 z2 z3
        generalize hX : World.setCell _ _ _ = X
        obtain ⟨x2, x3, xb, -, -⟩ := two_set H2.out H3.out (by omega) hX
        have r2 : X.cell? ⟨g2, 0, none⟩ = some (.slice none 0 0) := cell_blk x2
        have r3 : X.cell? ⟨g2 + 1, 0, none⟩ = some (.int .i64 3) := cell_blk x3
        have bx : Below w.heap.size w X := BC.out.trans (xb _ (by rw [HG.out]; exact Nat.le_refl _) (by rw [HG.out]; omega))
        clear hX
        refine leaves_none (v := .tuple #[.slice none 0 0, .int .i64 3]) (by simp [results, Try.results31, go_sem, r2, r3]) ?_
        exact ⟨none, 0, 0, fun _ => default, 3, rfl, bx, RList.nil _ _ _, .inr (.inl ⟨by omega, hh, rfl, rfl⟩)⟩
end Go.Proofs.Ytdmbdageohjodaa
