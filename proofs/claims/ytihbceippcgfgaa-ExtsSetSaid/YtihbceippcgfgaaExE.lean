/-
  Chapter 32: Read.
-/
import Derived.Test.YtihbceippcgfgaaExD
import Derived.Shelf.Abstract
namespace Go.Proofs.Ytihbceippcgfgaa
open Go.RowKit
set_option linter.unusedVariables false
set_option linter.unusedSimpArgs false
attribute [local irreducible] wpStill wpQuiet MixC.wpMix
attribute [local go_sem] MixC.rdOp MixC.rd MixC.rdUpon MixC.mvUpon
attribute [local go_sem] Oper.semAt_some

theorem wpListIn_appE {F : Fence} {n : Nat} {P : Program} {w w' : World} {ops : Array Oper} {rest : List Oper} {o : Oper} {a : Act} {Q : Exit → Act → World → Prop}
    (hg : o.guard = none) (s x : Operand) (t : TypeId) (hop : o.op = Op.call { callee := Callee.builtin Builtin.append, args := #[s, x], argTypes := #[t, t] })
    (v u v' : Value) (hs : a.eval s = v) (hx : a.eval x = u) (hrun : ∀ ty, (Builtin.append_ #[t, t] ty #[v, u]).run P w = .ok v' w')
    (hK : wpListIn F n P ops Q rest (a.put o.dst v') w') : wpListIn F n P ops Q (o :: rest) a w := by
  refine wpListIn_plain hg fun K hK' => ?_
  unfold Oper.wpIn
  refine ⟨by simp [Oper.about, hop, resolve, Target.leads, Sem.run_pure], ?_⟩
  rw [Oper.semAt_plain F _ _ (by rw [hop]; intro c hc'; cases hc'), exec_append hop hs hx (hrun o.type)]
  exact hK' _ _ hK
def ElE.vals (x : ElE) : List Value := [.int .i64 x.e.id, .slice x.e.a x.e.n x.e.c]
theorem infoElE : (Try.prog.info? 35).map (fun i => (i.zero, i.size, i.bytes)) = some (some (.agg #[.int .i64 0, .slice none 0 0]), 2, 32) := by kernel_rfl
theorem elElE : ElemT Try.prog 22 35 2 32 := ElemT.mk' (z := .agg #[.int .i64 0, .slice none 0 0]) Try.underlying22 infoElE rfl (by decide)
theorem ElE.vals_one (x : ElE) : ∀ u ∈ x.vals, u.oneCell' = true := fun u hu => by
  simp [ElE.vals] at hu
  rcases hu with rfl | rfl <;> rfl
/-- elements that a call has made, each with bytes of its own -/
structure EList (l : List ElE) (base : Nat) (v : Value) (w : World) : Prop where
  row : w.ownsRow base 35 2 v l.length (l.flatMap ElE.vals)
  dat : ∀ x ∈ l, w.ownsRow base 5 1 (.slice x.e.a x.e.n x.e.c) x.e.n (bytesOf x.e.Z x.e.n)
theorem EList.nil (base : Nat) (w : World) : EList [] base (.slice none 0 0) w := ⟨World.ownsRow_nil _ _ _ _, fun x hx => by cases hx⟩
theorem EList.below {l : List ElE} {base : Nat} {v : Value} {w w' : World} (h : EList l base v w) (hb : Below w.heap.size w w') : EList l base v w' := ⟨own_below h.row hb, fun x hx => own_below (h.dat x hx) hb⟩
theorem EList.mono {l : List ElE} {base base' : Nat} {v : Value} {w : World} (h : EList l base v w) (hb : base' ≤ base) : EList l base' v w := ⟨World.ownsRow.mono h.row hb, fun x hx => World.ownsRow.mono (h.dat x hx) hb⟩
theorem EList.sl {l : List ElE} {base : Nat} {v : Value} {w : World} (h : EList l base v w) : ∃ a c, v = .slice a l.length c := own_len h.row
theorem EList.add {l : List ElE} {base : Nat} {v v' : Value} {V W : World} {x : ElE} (h : EList l base v V) (hd : V.ownsRow base 5 1 (.slice x.e.a x.e.n x.e.c) x.e.n (bytesOf x.e.Z x.e.n)) (hb : But v.ownBlock V W) (ho : W.ownsRow base 35 2 v' (l.length + 1) (l.flatMap ElE.vals ++ x.vals)) : EList (l ++ [x]) base v' W := by
  have hT : OfT 35 v.ownBlock V := own_block h.row
  refine ⟨by rw [List.length_append, List.length_singleton, List.flatMap_append, List.flatMap_singleton]; exact ho, fun y hy => ?_⟩
  rcases List.mem_append.1 hy with hy | hy
  · exact own_butT hT hb (h.dat y hy) (by decide)
  · rw [List.mem_singleton.1 hy]; exact own_butT hT hb hd (by decide)
theorem EList.but {l : List ElE} {base gb : Nat} {v : Value} {A W : World} (h : EList l base v A) (hb : But (some gb) A W) (hg : gb < base) : EList l base v W :=
  ⟨own_blk1y h.row (fun q hq => hb.block q (h.row.lt q hq).2 (fun e => by cases e; have := (h.row.lt gb hq).1; omega)), fun x hx => own_blk1y (h.dat x hx) (fun q hq => hb.block q ((h.dat x hx).lt q hq).2 (fun e => by cases e; have := ((h.dat x hx).lt gb hq).1; omega))⟩
theorem EList.set {l : List ElE} {base g : Nat} {v u : Value} {W : World} (h : EList l base v W) (hg : g < base) : EList l base v (W.setCell ⟨g, 0, none⟩ u) :=
  ⟨own_blk1y h.row (fun q hq => set_blk_other _ (fun e => by have := (h.row.lt q hq).1; rw [e] at this; exact absurd hg (Nat.not_lt.2 this))), fun x hx => own_blk1y (h.dat x hx) (fun q hq => set_blk_other _ (fun e => by have := ((h.dat x hx).lt q hq).1; rw [e] at this; exact absurd hg (Nat.not_lt.2 this)))⟩
theorem Turned.lowE {B : Nat} {w w' : World} (h : Turned B w w') {k : Nat} (hk : k < B) : w'.heap[k]? = w.heap[k]? := by
  obtain ⟨l, h1, _, h4⟩ := h.same
  exact h4 k (by omega)
theorem EList.turned {B : Nat} {w w' : World} (h : Turned B w w') {l : List ElE} {base : Nat} {v : Value} (hr : EList l base v w) : EList l base v w' := ⟨h.own hr.row, fun x hx => h.own (hr.dat x hx)⟩
theorem two_setE {W X : World} {g h : Nat} {T S : TypeId} {a b v u : Value} (hg : W.heap[g]? = some (.cells #[a] T (0, 0))) (hh : W.heap[h]? = some (.cells #[b] S (0, 0))) (hne : g ≠ h) (hX : (W.setCell ⟨g, 0, none⟩ v).setCell ⟨h, 0, none⟩ u = X) :
    X.heap[g]? = some (.cells #[v] T (0, 0)) ∧ X.heap[h]? = some (.cells #[u] S (0, 0)) ∧ (∀ B, B ≤ g → B ≤ h → Below B W X) ∧ (∀ k, k ≠ g → k ≠ h → X.heap[k]? = W.heap[k]?) ∧ KeepsOthers W X := by
  subst hX
  refine ⟨?_, ?_, fun B hB hB' => ((Below.refl _ _).setCell (p := ⟨g, 0, none⟩) hB _).setCell (p := ⟨h, 0, none⟩) hB' _, fun k hk hk' => ?_, (KeepsOthers.setCell _ _ _).trans (KeepsOthers.setCell _ _ _)⟩
  · rw [set_blk_other _ hne, set_blk _ hg]; rfl
  · rw [set_blk _ ((set_blk_other _ (Ne.symm hne)).trans hh)]; rfl
  · rw [set_blk_other _ hk', set_blk_other _ hk]
/-- between two rounds -/
structure ExR (Z : Nat → Int) (w : World) (g2 g4 base : Nat) (pre : List ElE) (v : Value) (W : World) : Prop where
  h4 : W.heap[g4]? = some (.cells #[v] 22 (0, 0))
  h2 : W.heap[g2]? = some (.cells #[.slice none 0 0] 22 (0, 0))
  h3 : W.heap[g2 + 1]? = some (.cells #[.int .i64 0] 26 (0, 0))
  row : EList pre base v W
  bl : Below w.heap.size w W
  sz : base ≤ W.heap.size
  ok : AllOk pre
  is : ∀ x ∈ pre, x.e.Z = fun i => Z (x.st + i)
theorem ExR.but {Z : Nat → Int} {w : World} {g2 g4 base gb : Nat} {pre : List ElE} {v : Value} {A W : World} (h : ExR Z w g2 g4 base pre v A) (hb : But (some gb) A W) (e2 : g2 + 1 < gb) (e4 : g4 < gb) (hg : gb < base) (hw : w.heap.size ≤ gb) : ExR Z w g2 g4 base pre v W :=
  ⟨(hb.block _ (lt_of_block h.h4) (fun e => by cases e; omega)).trans h.h4, (hb.block _ (lt_of_block h.h2) (fun e => by cases e; omega)).trans h.h2, (hb.block _ (lt_of_block h.h3) (fun e => by cases e; omega)).trans h.h3,
    h.row.but hb hg, h.bl.trans (hb.below h.bl.size (fun g e => by cases e; exact hw)), Nat.le_trans h.sz hb.size, h.ok, h.is⟩
theorem ExR.below {Z : Nat → Int} {w : World} {g2 g4 base : Nat} {pre : List ElE} {v : Value} {A W : World} (h : ExR Z w g2 g4 base pre v A) (hb : Below A.heap.size A W) : ExR Z w g2 g4 base pre v W :=
  ⟨Below.blk hb h.h4 (lt_of_block h.h4), Below.blk hb h.h2 (lt_of_block h.h2), Below.blk hb h.h3 (lt_of_block h.h3), h.row.below hb, h.bl.trans (hb.mono h.bl.size), Nat.le_trans h.sz hb.size, h.ok, h.is⟩
theorem ExR.turned {B : Nat} {Z : Nat → Int} {w : World} {g2 g4 base : Nat} {pre : List ElE} {v : Value} {A W : World} (h : ExR Z w g2 g4 base pre v A) (hb : Turned B A W) (hB : w.heap.size ≤ B) : ExR Z w g2 g4 base pre v W :=
  ⟨hb.blk h.h4 rfl, hb.blk h.h2 rfl, hb.blk h.h3 rfl, h.row.turned hb, hb.below h.bl hB, by rw [hb.size]; exact h.sz, h.ok, h.is⟩
/-- a round has left -/
structure ExX (Z : Nat → Int) (n : Nat) (w : World) (g2 : Nat) (W : World) : Prop where
  h2 : W.heap[g2]? = some (.cells #[.slice none 0 0] 22 (0, 0))
  h3 : W.heap[g2 + 1]? = some (.cells #[.int .i64 2] 26 (0, 0))
  bl : Below w.heap.size w W
  st : (prs Z n 0).2 = false
theorem ExX.but {Z : Nat → Int} {n : Nat} {w : World} {g2 gb : Nat} {A W : World} (h : ExX Z n w g2 A) (hb : But (some gb) A W) (e2 : g2 + 1 < gb) (hw : w.heap.size ≤ gb) : ExX Z n w g2 W :=
  ⟨(hb.block _ (lt_of_block h.h2) (fun e => by cases e; omega)).trans h.h2, (hb.block _ (lt_of_block h.h3) (fun e => by cases e; omega)).trans h.h3, h.bl.trans (hb.below h.bl.size (fun g e => by cases e; exact hw)), h.st⟩
theorem ExX.turned {B : Nat} {Z : Nat → Int} {n : Nat} {w : World} {g2 : Nat} {A W : World} (h : ExX Z n w g2 A) (hb : Turned B A W) (hB : w.heap.size ≤ B) : ExX Z n w g2 W :=
  ⟨hb.blk h.h2 rfl, hb.blk h.h3 rfl, hb.below h.bl hB, h.st⟩
theorem prs_len (Z : Nat → Int) (n : Nat) : ∀ k p, n - p ≤ k → (prs Z n p).1.length ≤ n - p := by
  intro k
  induction k with
  | zero => intro p hp; rw [prs, dif_neg (by omega)]; simp
  | succ k ih =>
    intro p hp
    rw [prs]
    split
    · split
      · have := ih (p + 1) (by omega); omega
      · split
        · simp
        · split
          · simp
          · have := ih (p + 1 + lenP Z p) (by unfold lenP; omega)
            split
            · unfold lenP at *; omega
            · simp only [List.length_cons]; unfold lenP at *; omega
    · simp
def ReadE (Z : Nat → Int) (n : Nat) (w : World) (e : Ending) (w' : World) : Prop :=
  ∃ v E, e = .returned (.tuple #[v, .int .i64 E]) ∧ Below w.heap.size w w' ∧
    ((E = 0 ∧ ∃ l : List ElE, prs Z n 0 = (l.map ElE.key, true) ∧ EList l w.heap.size v w' ∧ ∀ x ∈ l, x.e.Z = fun i => Z (x.st + i)) ∨ (E = 2 ∧ v = .slice none 0 0 ∧ (prs Z n 0).2 = false))
set_option maxRecDepth 100000 in
set_option maxHeartbeats 4000000 in
theorem read32_any (B : Nat) (a : Option Addr) (n c : Nat) (Z : Nat → Int) (w : World) (hb : BS B w a n c Z) (hB : B ≤ w.heap.size) (hn : n ≤ 80000) :
    Calls Try.prog 19 #[.slice a n c] w (ReadE Z n w) := by
  have HB := Lib.hid hb
  have hle := hb.le
  have hmx := hb.max
  clear hb
  refine calls_of_wp_marks Try.func19 rfl ?_
  simp only [Try.ntmps19, List.size_toArray, List.length_cons, List.length_nil, Nat.reduceAdd, Nat.reduceSub, Array.replicate_succ, Array.replicate_zero, List.push_toArray, List.append_toArray, List.nil_append, List.cons_append]
  go_wp2_with fail
  refine (pieces_any a n c _).mono ?_
  rintro e wc ⟨rfl, hwc⟩
  have S3 : (((w.alloc (.cells #[.slice none 0 0] 22)).alloc (.cells #[.int .i64 0] 26)).alloc (.cells #[.slice none 0 0] 22)).heap.size = w.heap.size + 1 + 1 + 1 := by simp [World.size_alloc]
  obtain ⟨g2, hg2⟩ : ∃ g2, w.heap.size = g2 := ⟨_, rfl⟩
  have H2 : wc.heap[g2]? = some (.cells #[.slice none 0 0] 22 (0, 0)) := by
    rw [hwc, ← hg2, alloc_blk_old (by rw [S3]; omega), alloc_blk_old (by simp [World.size_alloc]; omega), alloc_blk_old (by simp [World.size_alloc])]
    exact alloc_blk_new
  have H3 : wc.heap[g2 + 1]? = some (.cells #[.int .i64 0] 26 (0, 0)) := by
    rw [hwc, ← hg2, alloc_blk_old (by rw [S3]; omega), alloc_blk_old (by simp [World.size_alloc])]
    have := alloc_blk_new (w := w.alloc (.cells #[.slice none 0 0] 22)) (o := .cells #[.int .i64 0] 26)
    rw [World.size_alloc] at this
    exact this
  have H4 : wc.heap[g2 + 1 + 1]? = some (.cells #[.slice none 0 0] 22 (0, 0)) := by
    rw [hwc, ← hg2, alloc_blk_old (by rw [S3]; omega)]
    have := alloc_blk_new (w := (w.alloc (.cells #[.slice none 0 0] 22)).alloc (.cells #[.int .i64 0] 26)) (o := .cells #[.slice none 0 0] 22)
    rw [World.size_alloc, World.size_alloc] at this
    exact this
  have H5 : wc.heap[g2 + 1 + 1 + 1]? = some (.cells #[.slice a n c] 25 (0, 0)) := by
    rw [hwc, ← hg2, ← S3]
    exact alloc_blk_new
  have bl : Below w.heap.size w wc := by rw [hwc]; exact ((((Below.refl _ _).alloc (Nat.le_refl _) _).alloc (by simp) _).alloc (by simp [World.size_alloc]; omega) _).alloc (by rw [S3]; omega) _
  rw [S3, hg2]
  obtain ⟨g4, hg4⟩ : ∃ g4, g2 + 1 + 1 = g4 := ⟨_, rfl⟩
  rw [hg4] at H4 H5
  obtain ⟨gb, hgb⟩ : ∃ gb, g4 + 1 = gb := ⟨_, rfl⟩
  rw [hgb] at H5
  rw [hg4, hgb]
  have e2 : g2 + 1 < gb := by omega
  have e4 : g4 < gb := by omega
  have e24 : g2 + 1 < g4 := by omega
  have hgl : gb < wc.heap.size := lt_of_block H5
  have hwg : w.heap.size ≤ gb := by omega
  have hBw : w.heap.size ≤ wc.heap.size := by omega
  have hB6 : B ≤ gb := by omega
  have hseq := pieces_seq B gb a n c Z wc (HB.out.keep (bl.mono hB)) H5 hB6 hn
  have I0 : ExR Z w g2 g4 wc.heap.size [] (.slice none 0 0) wc := ⟨H4, H2, H3, EList.nil _ _, bl, Nat.le_refl _, fun x hx => (by cases hx), fun x hx => (by cases hx)⟩
  clear hwc S3 hgb hg4 H2 H3 H4 H5 bl
  go_wp2_with fail
  refine wp_rangeFunc_w (gf := 102) (lb := #[.pointer (some ⟨gb, 0, none⟩)]) rfl (enters_of Try.func102 (by kernel_rfl) rfl) hseq (fun x => rfl) (fun k e => by cases e; exact hgl)
    (fun pre W => ∃ v, ExR Z w g2 g4 wc.heap.size pre v W) (fun c _ W => c = .ret ∧ ExX Z n w g2 W)
    (fun s A W ⟨v, h⟩ hb => ⟨v, h.but hb e2 e4 hgl hwg⟩) (fun c s A W ⟨hc, h⟩ hb => ⟨hc, h.but hb e2 hwg⟩)
    (fun W hW => ⟨_, I0.below hW⟩) ?round ?done ?stop
  case round =>
    rintro l pre x W0 W hl ⟨v, i0⟩ hbut ⟨hpre, hbw, htrue, hfalse⟩
    have i1 := i0.but hbut e2 e4 hgl hwg
    have hsz := i1.sz
    have hsz0 := i0.sz
    obtain ⟨⟨id, ra, rn, rc, rZ⟩, st, ok⟩ := x
    simp only [ElE.enc] at htrue hfalse ⊢
    have HI := Lib.hid i1
    have HT := Lib.hid htrue
    have HF := Lib.hid hfalse
    clear i0 i1 htrue hfalse hbut hbw
    gi_wp2_with fail
    obtain ⟨V1, hV1⟩ : ∃ V1, W.alloc (.cells #[.int .i64 id, .slice ra rn rc] 35) = V1 := ⟨_, rfl⟩
    rw [hV1]
    obtain ⟨g5, hg5⟩ : ∃ g5, W.heap.size = g5 := ⟨_, rfl⟩
    rw [hg5]
    have b1 : Below W.heap.size W V1 := by rw [← hV1]; exact (Below.refl _ _).alloc (Nat.le_refl _) _
    have blk5 : V1.heap[g5]? = some (.cells #[.int .i64 id, .slice ra rn rc] 35 (0, 0)) := by rw [← hV1, ← hg5]; exact alloc_blk_new
    have lowgb : V1.heap[gb]? = W.heap[gb]? := by rw [← hV1]; exact alloc_blk_old (by omega)
    refine ⟨by rw [← hV1]; exact KeepsOthers.alloc _ _, fun W2 ht => ?_⟩
    have i2 := (HI.out.below b1).turned ht hBw
    have blk52 := ht.blk blk5 rfl
    have row2 : ok = true → W2.ownsRow wc.heap.size 5 1 (.slice ra rn rc) rn (bytesOf (fun i => Z (st + i)) rn) := fun h => ht.own (own_below (World.ownsRow.mono (HT.out h).2.2 hsz0) b1)
    have kp0 : W2.heap[gb]? = W.heap[gb]? := (ht.lowE hgl).trans lowgb
    have kb0 : Below B W W2 := ht.below (b1.mono (by omega)) (by omega)
    obtain ⟨va, vc, hv⟩ := i2.row.sl
    subst hv
    have I2 := Lib.hid i2
    have K0 := Lib.hid kp0
    have K1 := Lib.hid kb0
    have RW := Lib.hid row2
    have y0 : W2.cell? ⟨g5, 0, none⟩ = some (.int .i64 id) := cell_blk blk52
    have y1 : W2.cell? ⟨g5, 1, none⟩ = some (.slice ra rn rc) := cell_blk blk52
    have x4 : W2.cell? ⟨g4, 0, none⟩ = some (.slice va pre.length vc) := cell_blk i2.h4
    have x2 : W2.cell? ⟨g2, 0, none⟩ = some (.slice none 0 0) := cell_blk i2.h2
    have x3 : W2.cell? ⟨g2 + 1, 0, none⟩ = some (.int .i64 0) := cell_blk i2.h3
    have z2 : W2.frozen? ⟨g2, 0, none⟩ = false := free_blk i2.h2
    have z3 : W2.frozen? ⟨g2 + 1, 0, none⟩ = false := free_blk i2.h3
    clear i2 kp0 kb0 row2 b1 blk5 lowgb hV1 ht blk52
    cases ok with
    | true =>
      have w2 := RW.out rfl
      obtain ⟨⟨suf, bb, hsuf⟩, hz, -⟩ := HT.out rfl
      have hk19 : pre.length < 80000 := by
        have h := prs_len Z n n 0 (by omega)
        rw [hsuf] at h
        simp only [List.length_append, List.length_map, List.length_cons] at h
        omega
      rw [← hz] at w2
      have HZ := Lib.hid hz
      clear hz hsuf
      obtain ⟨a9, c9, V3, A9, B9⟩ := app1 elElE I2.out.row.row (ElE.vals ⟨⟨id, ra, rn, rc, rZ⟩, st, true⟩) rfl (ElE.vals_one _) (by omega) (by omega) I2.out.sz
      have R3 := (I2.out.row.add (x := ⟨⟨id, ra, rn, rc, rZ⟩, st, true⟩) w2 A9.but A9.own)
      have vne : ∀ q, (Value.slice va pre.length vc).ownBlock = some q → wc.heap.size ≤ q := fun q hq => (I2.out.row.row.lt q hq).1
      have p4 : V3.heap[g4]? = some (.cells #[.slice va pre.length vc] 22 (0, 0)) := A9.but.blk I2.out.h4 (fun e => by have := vne g4 e; omega)
      have p2 : V3.heap[g2]? = some (.cells #[.slice none 0 0] 22 (0, 0)) := A9.but.blk I2.out.h2 (fun e => by have := vne g2 e; omega)
      have p3 : V3.heap[g2 + 1]? = some (.cells #[.int .i64 0] 26 (0, 0)) := A9.but.blk I2.out.h3 (fun e => by have := vne (g2 + 1) e; omega)
      have pb : V3.heap[gb]? = W.heap[gb]? := (A9.but.block gb (by have := I2.out.sz; omega) (fun e => by have := vne gb e; omega)).trans K0.out
      have ko : KeepsOthers W2 V3 := A9.but.others (fun q o hq ho => by
        obtain ⟨cs, mm, h2⟩ := own_block I2.out.row.row q hq
        rw [h2] at ho; injection ho with ho; subst ho; rfl)
      have HA := Lib.hid A9.run
      have R3H := Lib.hid R3
      have B3H := Lib.hid B9
      have KOH := Lib.hid ko
      have PBH := Lib.hid pb
      have P4 := Lib.hid p4
      have P2 := Lib.hid p2
      have P3 := Lib.hid p3
      have u4 : V3.cell? ⟨g4, 0, none⟩ = some (.slice va pre.length vc) := cell_blk p4
      have f4 : V3.frozen? ⟨g4, 0, none⟩ = false := free_blk p4
      clear A9 B9 R3 ko pb p4 p2 p3 vne w2
      simp only [ElE.vals] at HA
      gi_wp2_with (gi_at_builtin; refine wpListIn_appE rfl (.tmp 13) (.tmp 15) 22 rfl _ _ _ rfl rfl HA.out ?_)
      have hl1 : (pre ++ [(⟨⟨id, ra, rn, rc, rZ⟩, st, true⟩ : ElE)]).length = pre.length + 1 := by rw [List.length_append, List.length_singleton]
      have i3 : ExR Z w g2 g4 wc.heap.size (pre ++ [(⟨⟨id, ra, rn, rc, rZ⟩, st, true⟩ : ElE)]) (.slice a9 (pre.length + 1) c9) (V3.setCell ⟨g4, 0, none⟩ (.slice a9 (pre.length + 1) c9)) := by
        refine ⟨by rw [set_blk _ P4.out]; rfl, (set_blk_other _ (show g2 ≠ g4 by omega)).trans P2.out, (set_blk_other _ (show g2 + 1 ≠ g4 by omega)).trans P3.out, R3H.out.set (by omega), (I2.out.bl.trans (B3H.out.mono hBw)).setCell (p := ⟨g4, 0, none⟩) (show w.heap.size ≤ g4 by omega) _, by have := B3H.out.size; have := I2.out.sz; simp only [World.setCell, Array.size_modify]; omega, fun x hx => ?_, fun x hx => ?_⟩
        · rcases List.mem_append.1 hx with h | h
          · exact I2.out.ok x h
          · rw [List.mem_singleton.1 h]
        · rcases List.mem_append.1 hx with h | h
          · exact I2.out.is x h
          · rw [List.mem_singleton.1 h]; exact HZ.out
      have k3 : Below B W2 (V3.setCell ⟨g4, 0, none⟩ (.slice a9 (pre.length + 1) c9)) := (B3H.out.mono (by omega)).setCell (p := ⟨g4, 0, none⟩) (show B ≤ g4 by omega) _
      exact ⟨KOH.out.trans (KeepsOthers.setCell _ _ _), fun W3 ht => ⟨⟨(ht.lowE hgl).trans ((set_blk_other _ (show gb ≠ g4 by omega)).trans PBH.out), ht.below (K1.out.trans k3) (by omega)⟩, _, i3.turned ht hBw⟩⟩
    | false =>
      gi_wp2_with fail
      generalize hX : World.setCell _ _ _ = X
      obtain ⟨x2', x3', xb, xo, ko⟩ := two_setE I2.out.h2 I2.out.h3 (by omega) hX
      have rx : ExX Z n w g2 X := ⟨x2', x3', I2.out.bl.trans (xb _ (by omega) (by omega)), by rw [HF.out trivial]⟩
      exact ⟨ko, fun W3 ht => ⟨rfl, rx.turned ht hBw⟩⟩
  case done =>
    rintro D xs V V' hD hS ⟨v, i0⟩ ht hk
    rcases hS with ⟨hok, hpr⟩ | ⟨p', x, rfl, hx0⟩
    · have i1 := i0.turned ht hBw
      obtain ⟨va, vc, hv⟩ := i1.row.sl
      subst hv
      have HI := Lib.hid i1
      have HP := Lib.hid hpr
      have x4 : V'.cell? ⟨g4, 0, none⟩ = some (.slice va xs.length vc) := cell_blk i1.h4
      have x2 : V'.cell? ⟨g2, 0, none⟩ = some (.slice none 0 0) := cell_blk i1.h2
      have x3 : V'.cell? ⟨g2 + 1, 0, none⟩ = some (.int .i64 0) := cell_blk i1.h3
      have z2 : V'.frozen? ⟨g2, 0, none⟩ = false := free_blk i1.h2
      have z3 : V'.frozen? ⟨g2 + 1, 0, none⟩ = false := free_blk i1.h3
      clear i0 i1 hpr hok
      go_wp2_with fail
      generalize hX : World.setCell _ _ _ = X
      obtain ⟨x2', x3', xb, xo, ko⟩ := two_setE HI.out.h2 HI.out.h3 (by omega) hX
      have hk2 := ko.same D _ hk rfl
      have T9 := Turned.put (.deferred none) hD hk2 rfl
      have rr : EList xs wc.heap.size (.slice va xs.length vc) X := ⟨own_blk1y HI.out.row.row (fun q hq => xo q (by have := (HI.out.row.row.lt q hq).1; omega) (by have := (HI.out.row.row.lt q hq).1; omega)), fun x hx => own_blk1y (HI.out.row.dat x hx) (fun q hq => xo q (by have := ((HI.out.row.dat x hx).lt q hq).1; omega) (by have := ((HI.out.row.dat x hx).lt q hq).1; omega))⟩
      have r2 := cell_blk (i := 0) (T9.blk x2' rfl)
      have r3 := cell_blk (i := 0) (T9.blk x3' rfl)
      refine leaves_mark hk2 (v := .tuple #[.slice va xs.length vc, .int .i64 0]) (by simp [results, Try.results19, go_sem, r2, r3]) ?_
      exact ⟨_, 0, rfl, T9.below (HI.out.bl.trans (xb _ (by omega) (by omega))) hBw, .inl ⟨rfl, xs, HP.out, (rr.turned T9).mono hBw, HI.out.is⟩⟩
    · exact absurd (i0.ok x (by simp)) (by rw [hx0]; decide)
  case stop =>
    rintro D c' pre V V' hD - ⟨rfl, x0⟩ ht hk
    have rx2' := x0.turned ht hBw
    have rx2 := rx2'.turned (Turned.put (.deferred none) hD hk rfl) hBw
    have r2 := cell_blk (i := 0) rx2.h2
    have r3 := cell_blk (i := 0) rx2.h3
    go_wp2_with fail
    refine leaves_mark hk (v := .tuple #[.slice none 0 0, .int .i64 2]) (by simp [results, Try.results19, go_sem, r2, r3]) ?_
    exact ⟨_, 2, rfl, rx2.bl, .inr ⟨rfl, rfl, rx2.st⟩⟩
end Go.Proofs.Ytihbceippcgfgaa
