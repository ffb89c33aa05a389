/-
  Chapter 12: Read.
-/
import Derived.Test.YtkoplofcjbeicaaStE
import Derived.Shelf.Abstract
namespace Go.Proofs.Ytkoplofcjbeicaa
open Go.RowKit
set_option linter.unusedVariables false
set_option linter.unusedSimpArgs false
attribute [local irreducible] wpStill wpQuiet MixC.wpMix
attribute [local go_sem] MixC.rdOp MixC.rd MixC.rdUpon MixC.mvUpon
attribute [local go_sem] Oper.semAt_some

theorem wpListIn_appA {F : Fence} {n : Nat} {P : Program} {w w' : World} {ops : Array Oper} {rest : List Oper} {o : Oper} {a : Act} {Q : Exit → Act → World → Prop}
    (hg : o.guard = none) (s x : Operand) (t : TypeId) (hop : o.op = Op.call { callee := Callee.builtin Builtin.append, args := #[s, x], argTypes := #[t, t] })
    (v u v' : Value) (hs : a.eval s = v) (hx : a.eval x = u) (hrun : ∀ ty, (Builtin.append_ #[t, t] ty #[v, u]).run P w = .ok v' w')
    (hK : wpListIn F n P ops Q rest (a.put o.dst v') w') : wpListIn F n P ops Q (o :: rest) a w := by
  refine wpListIn_plain hg fun K hK' => ?_
  unfold Oper.wpIn
  refine ⟨by simp [Oper.about, hop, resolve, Target.leads, Sem.run_pure], ?_⟩
  rw [Oper.semAt_plain F _ _ (by rw [hop]; intro c hc'; cases hc'), exec_append hop hs hx (hrun o.type)]
  exact hK' _ _ hK
/-- a message's cells -/
def msgV (T : Int) (x : Nat → Int) (v : Value) : Array Value := #[.int .u16 T, .int .u8 (x 0), .int .u8 (x 1), .int .u8 (x 2), .int .u8 (x 3), .int .u8 (x 4), .int .u8 (x 5), .int .u8 (x 6), .int .u8 (x 7), .int .u8 (x 8), .int .u8 (x 9), .int .u8 (x 10), .int .u8 (x 11), v]
def noV : Array Value := msgV 0 (fun _ => 0) (.slice none 0 0)
def AtE.vals (x : AtE) : List Value := [.int .u16 x.e.t, .slice x.e.a x.e.n x.e.c]
theorem infoAt : (Try.prog.info? 75).map (fun i => (i.zero, i.size, i.bytes)) = some (some (.agg #[.int .u16 0, .slice none 0 0]), 2, 32) := by kernel_rfl
theorem elAt : ElemT Try.prog 26 75 2 32 := ElemT.mk' (z := .agg #[.int .u16 0, .slice none 0 0]) Try.underlying26 infoAt rfl (by decide)
theorem AtE.vals_one (x : AtE) : ∀ u ∈ x.vals, u.oneCell' = true := fun u hu => by
  simp [AtE.vals] at hu
  rcases hu with rfl | rfl <;> rfl
/-- attributes that a call has made, each with bytes of its own -/
structure AList (l : List AtE) (base : Nat) (v : Value) (w : World) : Prop where
  row : w.ownsRow base 75 2 v l.length (l.flatMap AtE.vals)
  dat : ∀ x ∈ l, w.ownsRow base 5 1 (.slice x.e.a x.e.n x.e.c) x.e.n (bytesOf x.e.Z x.e.n)
theorem AList.nil (base : Nat) (w : World) : AList [] base (.slice none 0 0) w := ⟨World.ownsRow_nil _ _ _ _, fun x hx => by cases hx⟩
theorem AList.below {l : List AtE} {base : Nat} {v : Value} {w w' : World} (h : AList l base v w) (hb : Below w.heap.size w w') : AList l base v w' := ⟨own_below h.row hb, fun x hx => own_below (h.dat x hx) hb⟩
theorem AList.mono {l : List AtE} {base base' : Nat} {v : Value} {w : World} (h : AList l base v w) (hb : base' ≤ base) : AList l base' v w := ⟨World.ownsRow.mono h.row hb, fun x hx => World.ownsRow.mono (h.dat x hx) hb⟩
theorem AList.sl {l : List AtE} {base : Nat} {v : Value} {w : World} (h : AList l base v w) : ∃ a c, v = .slice a l.length c := own_len h.row
theorem AList.add {l : List AtE} {base : Nat} {v v' : Value} {V W : World} {x : AtE} (h : AList l base v V) (hd : V.ownsRow base 5 1 (.slice x.e.a x.e.n x.e.c) x.e.n (bytesOf x.e.Z x.e.n)) (hb : But v.ownBlock V W) (ho : W.ownsRow base 75 2 v' (l.length + 1) (l.flatMap AtE.vals ++ x.vals)) : AList (l ++ [x]) base v' W := by
  have hT : OfT 75 v.ownBlock V := own_block h.row
  refine ⟨by rw [List.length_append, List.length_singleton, List.flatMap_append, List.flatMap_singleton]; exact ho, fun y hy => ?_⟩
  rcases List.mem_append.1 hy with hy | hy
  · exact own_butT hT hb (h.dat y hy) (by decide)
  · rw [List.mem_singleton.1 hy]; exact own_butT hT hb hd (by decide)
theorem AList.but {l : List AtE} {base gb : Nat} {v : Value} {A W : World} (h : AList l base v A) (hb : But (some gb) A W) (hg : gb < base) : AList l base v W :=
  ⟨own_blk1y h.row (fun q hq => hb.block q (h.row.lt q hq).2 (fun e => by cases e; have := (h.row.lt gb hq).1; omega)), fun x hx => own_blk1y (h.dat x hx) (fun q hq => hb.block q ((h.dat x hx).lt q hq).2 (fun e => by cases e; have := ((h.dat x hx).lt gb hq).1; omega))⟩
theorem AList.set {l : List AtE} {base g i : Nat} {v u : Value} {W : World} (h : AList l base v W) (hg : g < base) : AList l base v (W.setCell ⟨g, i, none⟩ u) :=
  ⟨own_blk1y h.row (fun q hq => set_blk_other _ (fun e => by have := (h.row.lt q hq).1; rw [e] at this; exact absurd hg (Nat.not_lt.2 this))), fun x hx => own_blk1y (h.dat x hx) (fun q hq => set_blk_other _ (fun e => by have := ((h.dat x hx).lt q hq).1; rw [e] at this; exact absurd hg (Nat.not_lt.2 this)))⟩
theorem Turned.lowA {B : Nat} {w w' : World} (h : Turned B w w') {k : Nat} (hk : k < B) : w'.heap[k]? = w.heap[k]? := by
  obtain ⟨l, h1, _, h4⟩ := h.same
  exact h4 k (by omega)
theorem AList.turned {B : Nat} {w w' : World} (h : Turned B w w') {l : List AtE} {base : Nat} {v : Value} (hr : AList l base v w) : AList l base v w' := ⟨h.own hr.row, fun x hx => h.own (hr.dat x hx)⟩
def shK (s : Nat) (k : Key) : Key := (k.1, k.2.1 + s, k.2.2)
theorem lenA_sh (Z : Nat → Int) (s p : Nat) : lenA (shA Z s) p = lenA Z (s + p) := by unfold lenA; rw [typA_sh]; rfl
theorem sizA_sh (Z : Nat → Int) (s p : Nat) : sizA (shA Z s) p = sizA Z (s + p) := by unfold sizA padA; rw [lenA_sh]
theorem goodA_sh (Z : Nat → Int) (n s p : Nat) (hs : s ≤ n) : goodA (shA Z s) (n - s) p ↔ goodA Z n (s + p) := by
  unfold goodA zerA padA
  rw [lenA_sh, sizA_sh]
  have e : ∀ i, shA Z s (p + 4 + lenA Z (s + p) + i) = Z (s + p + 4 + lenA Z (s + p) + i) := fun i => by unfold shA; congr 1; omega
  simp only [e]
  constructor
  · rintro ⟨a, b, c, d⟩; exact ⟨by omega, b, by omega, d⟩
  · rintro ⟨a, b, c, d⟩; exact ⟨by omega, b, by omega, d⟩
theorem prsA_sh (Z : Nat → Int) (n s : Nat) (hs : s ≤ n) : ∀ m p, n - s - p ≤ m → prsA Z n (s + p) = ((prsA (shA Z s) (n - s) p).1.map (shK s), (prsA (shA Z s) (n - s) p).2) := by
  intro m
  induction m with
  | zero =>
    intro p hp
    have e1 : prsA Z n (s + p) = ([], true) := by rw [prsA, dif_neg (by omega)]
    have e2 : prsA (shA Z s) (n - s) p = ([], true) := by rw [prsA, dif_neg (by omega)]
    rw [e1, e2]; rfl
  | succ m ih =>
    intro p hp
    by_cases h : p < n - s
    · by_cases hg : goodA Z n (s + p)
      · have h4 := sizA_pos Z (s + p)
        have e1 : prsA Z n (s + p) = (keyA Z (s + p) :: (prsA Z n (s + p + sizA Z (s + p))).1, (prsA Z n (s + p + sizA Z (s + p))).2) := by rw [prsA, dif_pos (by omega), if_pos hg]
        have e2 : prsA (shA Z s) (n - s) p = (keyA (shA Z s) p :: (prsA (shA Z s) (n - s) (p + sizA Z (s + p))).1, (prsA (shA Z s) (n - s) (p + sizA Z (s + p))).2) := by rw [prsA, dif_pos h, if_pos ((goodA_sh Z n s p hs).2 hg), sizA_sh]
        have hk : keyA Z (s + p) = shK s (keyA (shA Z s) p) := by
          unfold keyA shK
          rw [typA_sh, lenA_sh]
          simp only
          rw [show s + p + 4 = p + 4 + s by omega]
        rw [e1, e2, Nat.add_assoc, ih (p + sizA Z (s + p)) (by omega), hk]
        rfl
      · have e1 : prsA Z n (s + p) = ([], false) := by rw [prsA, dif_pos (by omega), if_neg hg]
        have e2 : prsA (shA Z s) (n - s) p = ([], false) := by rw [prsA, dif_pos h, if_neg (fun h => hg ((goodA_sh Z n s p hs).1 h))]
        rw [e1, e2]; rfl
    · have e1 : prsA Z n (s + p) = ([], true) := by rw [prsA, dif_neg (by omega)]
      have e2 : prsA (shA Z s) (n - s) p = ([], true) := by rw [prsA, dif_neg h]
      rw [e1, e2]; rfl
theorem conA_sh (Z : Nat → Int) (s : Nat) (k : Key) : conA Z (shK s k) = conA (shA Z s) k := by
  unfold conA shK
  simp only
  rw [shA_shA, Nat.add_comm s]
def fillM (cs : Array Value) : Nat → List Value → Array Value
  | _, [] => cs
  | o, v :: r => fillM (cs.setIfInBounds o v) (o + 1) r
theorem fillM_size : ∀ (vs : List Value) (o : Nat) (cs : Array Value), (fillM cs o vs).size = cs.size
  | [], _, _ => rfl
  | v :: r, o, cs => by rw [fillM, fillM_size r]; simp
theorem fillM_get : ∀ (vs : List Value) (o : Nat) (cs : Array Value) (j : Nat), (fillM cs o vs)[j]? = if o ≤ j ∧ j < o + vs.length ∧ j < cs.size then vs[j - o]? else cs[j]?
  | [], o, cs, j => by rw [fillM, if_neg (by simp; omega)]
  | v :: r, o, cs, j => by
    rw [fillM, fillM_get r]
    simp only [Array.size_setIfInBounds, List.length_cons]
    by_cases h1 : j = o
    · subst h1
      rw [if_neg (by omega)]
      by_cases h2 : j < cs.size
      · rw [if_pos (by omega), Nat.sub_self]
        simp [h2]
      · rw [if_neg (by omega)]
        simp [h2]
    · by_cases h2 : o + 1 ≤ j ∧ j < o + 1 + r.length ∧ j < cs.size
      · rw [if_pos h2, if_pos (by omega)]
        obtain ⟨q, hq⟩ : ∃ q, j - o = q + 1 := ⟨j - o - 1, by omega⟩
        rw [hq, List.getElem?_cons_succ]
        congr 1
        omega
      · rw [if_neg h2, if_neg (by omega)]
        rw [Array.getElem?_setIfInBounds_ne (Ne.symm h1)]
theorem fillM_all {cs : Array Value} {vs : List Value} (h : cs.size = vs.length) : fillM cs 0 vs = vs.toArray := by
  apply Array.ext_getElem?
  intro j
  rw [fillM_get]
  by_cases hj : j < vs.length
  · rw [if_pos (by omega), Nat.sub_zero]; simp
  · rw [if_neg (by omega)]
    simp [hj, h]
theorem setM_blk {T : TypeId} {m : Nat × Nat} {g : Nat} : ∀ (vs : List Value) (o : Nat) (cs : Array Value) (W : World), W.heap[g]? = some (.cells cs T m) → (W.setCells g o vs).heap[g]? = some (.cells (fillM cs o vs) T m)
  | [], _, _, _, h => h
  | v :: r, o, cs, W, h => by
    rw [World.setCells, fillM]
    exact setM_blk r (o + 1) _ _ (set_blk v h)
theorem setM_but (b : Nat) : ∀ (l : List Value) (k : Nat) (w u : World), But (some b) u w → But (some b) u (w.setCells b k l)
  | [], k, w, u, h => h
  | v :: l, k, w, u, h => setM_but b l (k + 1) (w.setCell ⟨b, k, none⟩ v) u (h.set k v)
theorem setM_keeps (b : Nat) : ∀ (l : List Value) (k : Nat) (w : World), KeepsOthers w (w.setCells b k l)
  | [], k, w => KeepsOthers.refl w
  | v :: l, k, w => (KeepsOthers.setCell _ _ _).trans (setM_keeps b l (k + 1) (w.setCell ⟨b, k, none⟩ v))
/-- between two rounds -/
structure StR (Z : Nat → Int) (T : Int) (x : Nat → Int) (w : World) (g2 g8 base : Nat) (pre : List AtE) (v : Value) (W : World) : Prop where
  h8 : W.heap[g8]? = some (.cells (msgV T x v) 28 (0, 0))
  h2 : W.heap[g2]? = some (.cells noV 28 (0, 0))
  h3 : W.heap[g2 + 1]? = some (.cells #[.int .i64 0] 29 (0, 0))
  row : AList pre base v W
  bl : Below w.heap.size w W
  sz : base ≤ W.heap.size
  ok : AllOkA pre
  le : pre.length ≤ 16
  is : ∀ y ∈ pre, y.e.Z = shA Z y.st ∧ 0 ≤ y.e.t ∧ y.e.t ≤ 65535 ∧ y.e.n ≤ 255
theorem StR.but {Z : Nat → Int} {T : Int} {x : Nat → Int} {w : World} {g2 g8 base gb : Nat} {pre : List AtE} {v : Value} {A W : World} (h : StR Z T x w g2 g8 base pre v A) (hb : But (some gb) A W) (e2 : g2 + 1 < gb) (e8 : g8 < gb) (hg : gb < base) (hw : w.heap.size ≤ gb) : StR Z T x w g2 g8 base pre v W :=
  ⟨(hb.block _ (lt_of_block h.h8) (fun e => by cases e; omega)).trans h.h8, (hb.block _ (lt_of_block h.h2) (fun e => by cases e; omega)).trans h.h2, (hb.block _ (lt_of_block h.h3) (fun e => by cases e; omega)).trans h.h3,
    h.row.but hb hg, h.bl.trans (hb.below h.bl.size (fun g e => by cases e; exact hw)), Nat.le_trans h.sz hb.size, h.ok, h.le, h.is⟩
theorem StR.below {Z : Nat → Int} {T : Int} {x : Nat → Int} {w : World} {g2 g8 base : Nat} {pre : List AtE} {v : Value} {A W : World} (h : StR Z T x w g2 g8 base pre v A) (hb : Below A.heap.size A W) : StR Z T x w g2 g8 base pre v W :=
  ⟨Below.blk hb h.h8 (lt_of_block h.h8), Below.blk hb h.h2 (lt_of_block h.h2), Below.blk hb h.h3 (lt_of_block h.h3), h.row.below hb, h.bl.trans (hb.mono h.bl.size), Nat.le_trans h.sz hb.size, h.ok, h.le, h.is⟩
theorem StR.turned {B : Nat} {Z : Nat → Int} {T : Int} {x : Nat → Int} {w : World} {g2 g8 base : Nat} {pre : List AtE} {v : Value} {A W : World} (h : StR Z T x w g2 g8 base pre v A) (hb : Turned B A W) (hB : w.heap.size ≤ B) : StR Z T x w g2 g8 base pre v W :=
  ⟨hb.blk h.h8 rfl, hb.blk h.h2 rfl, hb.blk h.h3 rfl, h.row.turned hb, hb.below h.bl hB, by rw [hb.size]; exact h.sz, h.ok, h.le, h.is⟩
/-- a round has left -/
structure StX (Z : Nat → Int) (n : Nat) (w : World) (g2 : Nat) (W : World) : Prop where
  h2 : W.heap[g2]? = some (.cells noV 28 (0, 0))
  h3 : W.heap[g2 + 1]? = some (.cells #[.int .i64 3] 29 (0, 0))
  bl : Below w.heap.size w W
  st : (prsA Z n 0).2 = false ∨ 16 < (prsA Z n 0).1.length
theorem StX.but {Z : Nat → Int} {n : Nat} {w : World} {g2 gb : Nat} {A W : World} (h : StX Z n w g2 A) (hb : But (some gb) A W) (e2 : g2 + 1 < gb) (hw : w.heap.size ≤ gb) : StX Z n w g2 W :=
  ⟨(hb.block _ (lt_of_block h.h2) (fun e => by cases e; omega)).trans h.h2, (hb.block _ (lt_of_block h.h3) (fun e => by cases e; omega)).trans h.h3, h.bl.trans (hb.below h.bl.size (fun g e => by cases e; exact hw)), h.st⟩
theorem StX.turned {B : Nat} {Z : Nat → Int} {n : Nat} {w : World} {g2 : Nat} {A W : World} (h : StX Z n w g2 A) (hb : Turned B A W) (hB : w.heap.size ≤ B) : StX Z n w g2 W :=
  ⟨hb.blk h.h2 rfl, hb.blk h.h3 rfl, hb.below h.bl hB, h.st⟩
/-- a message's 14 cells, one by one -/
structure MsgF (T : Int) (x : Nat → Int) (v : Value) (g : Nat) (W : World) : Prop where
  f0 : W.cell? ⟨g, 0, none⟩ = some (.int .u16 T)
  f1 : W.cell? ⟨g, 1, none⟩ = some (.int .u8 (x 0))
  f2 : W.cell? ⟨g, 2, none⟩ = some (.int .u8 (x 1))
  f3 : W.cell? ⟨g, 3, none⟩ = some (.int .u8 (x 2))
  f4 : W.cell? ⟨g, 4, none⟩ = some (.int .u8 (x 3))
  f5 : W.cell? ⟨g, 5, none⟩ = some (.int .u8 (x 4))
  f6 : W.cell? ⟨g, 6, none⟩ = some (.int .u8 (x 5))
  f7 : W.cell? ⟨g, 7, none⟩ = some (.int .u8 (x 6))
  f8 : W.cell? ⟨g, 8, none⟩ = some (.int .u8 (x 7))
  f9 : W.cell? ⟨g, 9, none⟩ = some (.int .u8 (x 8))
  f10 : W.cell? ⟨g, 10, none⟩ = some (.int .u8 (x 9))
  f11 : W.cell? ⟨g, 11, none⟩ = some (.int .u8 (x 10))
  f12 : W.cell? ⟨g, 12, none⟩ = some (.int .u8 (x 11))
  f13 : W.cell? ⟨g, 13, none⟩ = some v
theorem MsgF.mk' {T : Int} {x : Nat → Int} {v : Value} {g : Nat} {W : World} {t : TypeId} {mm : Nat × Nat} (h : W.heap[g]? = some (.cells (msgV T x v) t mm)) : MsgF T x v g W :=
  ⟨cell_blk h, cell_blk h, cell_blk h, cell_blk h, cell_blk h, cell_blk h, cell_blk h, cell_blk h, cell_blk h, cell_blk h, cell_blk h, cell_blk h, cell_blk h, cell_blk h⟩
/-- and none of them is frozen -/
structure MsgZ (g : Nat) (W : World) : Prop where
  z0 : W.frozen? ⟨g, 0, none⟩ = false
  z1 : W.frozen? ⟨g, 1, none⟩ = false
  z2 : W.frozen? ⟨g, 2, none⟩ = false
  z3 : W.frozen? ⟨g, 3, none⟩ = false
  z4 : W.frozen? ⟨g, 4, none⟩ = false
  z5 : W.frozen? ⟨g, 5, none⟩ = false
  z6 : W.frozen? ⟨g, 6, none⟩ = false
  z7 : W.frozen? ⟨g, 7, none⟩ = false
  z8 : W.frozen? ⟨g, 8, none⟩ = false
  z9 : W.frozen? ⟨g, 9, none⟩ = false
  z10 : W.frozen? ⟨g, 10, none⟩ = false
  z11 : W.frozen? ⟨g, 11, none⟩ = false
  z12 : W.frozen? ⟨g, 12, none⟩ = false
  z13 : W.frozen? ⟨g, 13, none⟩ = false
theorem MsgZ.mk' {m : Array Value} {g : Nat} {W : World} {t : TypeId} (h : W.heap[g]? = some (.cells m t (0, 0))) : MsgZ g W :=
  ⟨free_blk h, free_blk h, free_blk h, free_blk h, free_blk h, free_blk h, free_blk h, free_blk h, free_blk h, free_blk h, free_blk h, free_blk h, free_blk h, free_blk h⟩
theorem fillM_ms (T T' : Int) (x x' : Nat → Int) (v v' : Value) : fillM (msgV T x v) 0 (msgV T' x' v').toList = msgV T' x' v' := (fillM_all (by simp [msgV])).trans (by simp)
theorem store_ms {W X : World} {g : Nat} {T S : TypeId} {e u : Value} {t t' : Int} {x x' : Nat → Int} {v v' : Value} (h2 : W.heap[g]? = some (.cells (msgV t x v) T (0, 0))) (h3 : W.heap[g + 1]? = some (.cells #[e] S (0, 0))) (hX : (W.setCells g 0 (msgV t' x' v').toList).setCell ⟨g + 1, 0, none⟩ u = X) :
    X.heap[g]? = some (.cells (msgV t' x' v') T (0, 0)) ∧ X.heap[g + 1]? = some (.cells #[u] S (0, 0)) ∧ (∀ B, B ≤ g → Below B W X) ∧ KeepsOthers W X ∧ (∀ k, k ≠ g → k ≠ g + 1 → X.heap[k]? = W.heap[k]?) := by
  subst hX
  have m2 := setM_blk (msgV t' x' v').toList 0 (msgV t x v) W h2
  rw [fillM_ms] at m2
  have m3 := setM_but g (msgV t' x' v').toList 0 W W (But.refl _ _)
  have e3 : (W.setCells g 0 (msgV t' x' v').toList).heap[g + 1]? = some (.cells #[e] S (0, 0)) := m3.blk h3 (fun e => by injection e with e; omega)
  refine ⟨(set_blk_other _ (show g ≠ g + 1 by omega)).trans m2, by rw [set_blk _ e3]; rfl, fun B hB => ?_, (setM_keeps g _ 0 W).trans (KeepsOthers.setCell _ _ _), fun k hk hk' => ?_⟩
  · have h := m3.size
    have hl := lt_of_block h2
    exact (m3.below (by omega) (fun k hk => by cases hk; exact hB)).setCell (p := ⟨g + 1, 0, none⟩) (show B ≤ g + 1 by omega) _
  · rw [set_blk_other _ hk']
    rcases Nat.lt_or_ge k W.heap.size with h | h
    · exact m3.block k h (fun e => by injection e with e; exact hk e.symm)
    · have hs : ∀ (l : List Value) (o : Nat) (V : World), (V.setCells g o l).heap.size = V.heap.size := by
        intro l
        induction l with
        | nil => intro o V; rfl
        | cons v l ih => intro o V; rw [World.setCells, ih]; simp [World.setCell]
      rw [Array.getElem?_eq_none (by rw [hs]; exact h), Array.getElem?_eq_none h]
/-- what Read hands back -/
def Read12 (Z : Nat → Int) (n : Nat) (w : World) (e : Ending) (w' : World) : Prop :=
  Below w.heap.size w w' ∧ ((∃ (l : List AtE) (v : Value) (ks : List Key), e = .returned (.tuple #[.agg (msgV (typA Z 0) (shA Z 8) v), .int .i64 0]) ∧ readM Z n ks ∧ ks = l.map (fun y => shK 20 y.key) ∧ AList l w.heap.size v w' ∧ (∀ y ∈ l, y.e.Z = shA (shA Z 20) y.st ∧ 0 ≤ y.e.t ∧ y.e.t ≤ 65535 ∧ y.e.n ≤ 255)) ∨
    (∃ E, e = .returned (.tuple #[.agg noV, .int .i64 E]) ∧ ((E = 2 ∧ n < 20) ∨ (E = 3 ∧ 20 ≤ n)) ∧ ∀ ks, ¬ readM Z n ks))
set_option maxRecDepth 100000 in
set_option maxHeartbeats 4000000 in
theorem read12_any (B : Nat) (a : Option Addr) (n c : Nat) (Z : Nat → Int) (w : World) (hb : BS B w a n c Z) (hB : B ≤ w.heap.size) (hn : n ≤ 60000) :
    Calls Try.prog 12 #[.slice a n c] w (Read12 Z n w) := by
  have HB := Lib.hid hb
  have hle := hb.le
  have hmx := hb.max
  clear hb
  refine calls_of_wp_marks Try.func12 rfl ?_
  simp only [Try.ntmps12, List.size_toArray, List.length_cons, List.length_nil, Nat.reduceAdd, Nat.reduceSub, Array.replicate_succ, Array.replicate_zero, List.push_toArray, List.append_toArray, List.nil_append, List.cons_append]
  have hno2 : ∀ W1 : World, (w.alloc (.cells noV 28)).alloc (.cells #[.int .i64 2] 29) = W1 ∨ (w.alloc (.cells noV 28)).alloc (.cells #[.int .i64 3] 29) = W1 → MsgF 0 (fun _ => 0) (.slice none 0 0) w.heap.size W1 ∧ Below w.heap.size w W1 := fun W1 h => by
    have e2 : W1.heap[w.heap.size]? = some (.cells noV 28 (0, 0)) := by
      rcases h with h | h
      all_goals
        rw [← h, alloc_blk_old (by simp [World.size_alloc])]
        exact alloc_blk_new
    exact ⟨MsgF.mk' e2, by rcases h with h | h <;> (rw [← h]; exact ((Below.refl _ _).alloc (Nat.le_refl _) _).alloc (by simp [World.size_alloc]) _)⟩
  have HNO := Lib.hid hno2
  have HBW : Hid (∀ o1 o2, Below B w ((w.alloc o1).alloc o2)) := Lib.hid (fun o1 o2 => ((Below.refl _ _).alloc hB _).alloc (by simp [World.size_alloc]; omega) _)
  clear hno2
  by_cases h20 : n < 20
  · have h20i : (n : Int) < 20 := by omega
    go_wp2_with fail
    obtain ⟨W1, hW1⟩ : ∃ W1, (w.alloc (.cells noV 28)).alloc (.cells #[.int .i64 2] 29) = W1 := ⟨_, rfl⟩
    have e3 : W1.cell? ⟨w.heap.size + 1, 0, none⟩ = some (.int .i64 2) := by
      have h := alloc_blk_new (w := w.alloc (.cells noV 28)) (o := .cells #[.int .i64 2] 29)
      rw [World.size_alloc, hW1] at h
      exact cell_blk h
    obtain ⟨⟨f0, f1, f2, f3, f4, f5, f6, f7, f8, f9, f10, f11, f12, f13⟩, hbw⟩ := HNO.out W1 (.inl hW1)
    change bodyPostM _ _ _ _ _ _ _ ((w.alloc (.cells noV 28)).alloc (.cells #[.int .i64 2] 29))
    rw [hW1]
    refine leaves_none (v := .tuple #[.agg noV, .int .i64 2]) (by simp [results, Try.results12, go_sem, f0, f1, f2, f3, f4, f5, f6, f7, f8, f9, f10, f11, f12, f13, e3]; rfl) ?_
    exact ⟨hbw, .inr ⟨2, rfl, .inl ⟨rfl, h20⟩, fun ks h => by have := h.1.1; omega⟩⟩
  · have h20i : ¬ (n : Int) < 20 := by omega
    obtain ⟨b, off, rfl, hbb, hc⟩ := HB.out.at_ (by omega)
    have HC := Lib.hid hc
    have HBD : Hid (Bd Z n) := Lib.hid HB.out.bd
    clear hc
    obtain ⟨L, hL⟩ : ∃ L, lenA Z 0 = L := ⟨_, rfl⟩
    have hLc : typA Z 2 = (L : Int) := by have h := lenA_cast (p := 0) HBD.out (by omega); rw [hL, Nat.zero_add] at h; exact h.symm
    have hLb : L ≤ 65535 := by have := (typA_bd (p := 2) HBD.out (by omega)).2; omega
    have tb := typA_bd (p := 0) HBD.out (by omega)
    have HL := Lib.hid hL
    obtain ⟨T, hT⟩ : ∃ T, typA Z 0 = T := ⟨_, rfl⟩
    have HTT := Lib.hid hT
    rw [hT] at tb
    obtain ⟨ib, hib⟩ : ∃ ib, isB Z n = ib := ⟨_, rfl⟩
    have HIB := Lib.hid hib
    go_wp2_with fail
    have hn0 := fun (W : World) (hW : Below B w W) => num_at B (some ⟨b, off, none⟩) n c Z 0 2 W (HB.out.keep hW) (by omega) (by omega) (by omega)
    have hn2 := fun (W : World) (hW : Below B w W) => num_at B (some ⟨b, off, none⟩) n c Z 2 2 W (HB.out.keep hW) (by omega) (by omega) (by omega)
    simp only [numv_two, hT, hLc, if_pos (show 0 + 2 ≤ n by omega), if_pos (show 2 + 2 ≤ n by omega), decide_eq_true (show 0 + 2 ≤ n by omega), decide_eq_true (show 2 + 2 ≤ n by omega)] at hn0 hn2
    have HN0 := Lib.hid hn0
    have HN2 := Lib.hid hn2
    clear hn0 hn2 hL hLc hT hib
    refine (HN0.out _ (HBW.out _ _)).mono ?_
    rintro e w' ⟨rfl, rfl⟩
    go_wp2_with fail
    refine (HN2.out _ (HBW.out _ _)).mono ?_
    rintro e w' ⟨rfl, rfl⟩
    go_wp2_with fail
    refine (is12_any B _ n c Z _ (HB.out.keep (HBW.out _ _))).mono ?_
    rintro e w' ⟨rfl, rfl⟩
    rw [HIB.out]
    have wl : IntKind.i64.wrap (L : Int) = (L : Int) := IntWalk.i64_in _ (by omega)
    have wn : IntKind.i64.wrap ((n : Int) - 20) = (n : Int) - 20 := IntWalk.i64_in _ (by omega)
    have tm : ((L : Int)).tmod 4 = (L : Int) % 4 := Int.tmod_eq_emod_of_nonneg (by omega)
    by_cases hgood : ib = true ∧ L + 20 = n ∧ L % 4 = 0
    · obtain ⟨rfl, hLn, hL4⟩ := hgood
      have HL9 : Hid (lenA Z 0 + 20 = n ∧ n % 4 = 0) := Lib.hid ⟨by rw [HL.out]; exact hLn, by omega⟩
      have q1 : ((L : Int) = (n : Int) - 20) = True := eq_true (by omega)
      have q2 : ((L : Int) != (n : Int) - 20) = false := by rw [show (L : Int) = (n : Int) - 20 by omega]; simp
      have q3 : ((L : Int) % 4 = 0) = True := eq_true (by omega)
      have q4 : ((L : Int) % 4 != 0) = false := by rw [show (L : Int) % 4 = 0 by omega]; simp
      go_upto_region 7 with (fail)
      obtain ⟨W0, hW0⟩ : ∃ W0, (w.alloc (.cells noV 28)).alloc (.cells #[.int .i64 0] 29) = W0 := ⟨_, rfl⟩
      obtain ⟨g2, hg2⟩ : ∃ g2, w.heap.size = g2 := ⟨_, rfl⟩
      have H2 : W0.heap[g2]? = some (.cells noV 28 (0, 0)) := by
        rw [← hW0, ← hg2, alloc_blk_old (by simp [World.size_alloc])]
        exact alloc_blk_new
      have H3 : W0.heap[g2 + 1]? = some (.cells #[.int .i64 0] 29 (0, 0)) := by
        rw [← hW0, ← hg2]
        have := alloc_blk_new (w := w.alloc (.cells noV 28)) (o := .cells #[.int .i64 0] 29)
        rw [World.size_alloc] at this
        exact this
      have HS0 : W0.heap.size = g2 + 1 + 1 := by rw [← hW0, ← hg2]; simp [World.size_alloc]
      have b0 : Below w.heap.size w W0 := by rw [← hW0]; exact ((Below.refl _ _).alloc (Nat.le_refl _) _).alloc (by simp [World.size_alloc]) _
      have HZ8 : ∀ i, i < 12 → W0.cell? ⟨b, off + 8 + i, none⟩ = some (.int .u8 (shA Z 8 i)) := fun i hi => by
        rw [Nat.add_assoc]
        exact Below.cell' (b0.mono hB) hbb (HC.out (8 + i) (by omega))
      have z0 : W0.cell? ⟨b, off + 8, none⟩ = some (.int .u8 (shA Z 8 0)) := HZ8 0 (by omega)
      have z1 : W0.cell? ⟨b, off + 8 + 1, none⟩ = some (.int .u8 (shA Z 8 1)) := HZ8 1 (by omega)
      have z2 : W0.cell? ⟨b, off + 8 + 2, none⟩ = some (.int .u8 (shA Z 8 2)) := HZ8 2 (by omega)
      have z3 : W0.cell? ⟨b, off + 8 + 3, none⟩ = some (.int .u8 (shA Z 8 3)) := HZ8 3 (by omega)
      have z4 : W0.cell? ⟨b, off + 8 + 4, none⟩ = some (.int .u8 (shA Z 8 4)) := HZ8 4 (by omega)
      have z5 : W0.cell? ⟨b, off + 8 + 5, none⟩ = some (.int .u8 (shA Z 8 5)) := HZ8 5 (by omega)
      have z6 : W0.cell? ⟨b, off + 8 + 6, none⟩ = some (.int .u8 (shA Z 8 6)) := HZ8 6 (by omega)
      have z7 : W0.cell? ⟨b, off + 8 + 7, none⟩ = some (.int .u8 (shA Z 8 7)) := HZ8 7 (by omega)
      have z8 : W0.cell? ⟨b, off + 8 + 8, none⟩ = some (.int .u8 (shA Z 8 8)) := HZ8 8 (by omega)
      have z9 : W0.cell? ⟨b, off + 8 + 9, none⟩ = some (.int .u8 (shA Z 8 9)) := HZ8 9 (by omega)
      have z10 : W0.cell? ⟨b, off + 8 + 10, none⟩ = some (.int .u8 (shA Z 8 10)) := HZ8 10 (by omega)
      have z11 : W0.cell? ⟨b, off + 8 + 11, none⟩ = some (.int .u8 (shA Z 8 11)) := HZ8 11 (by omega)
      have wt : IntKind.u16.wrap T = T := by rw [IntKind.wrap_u16]; omega
      have hcn8 : ¬ c = 8 := by omega
      have HH2 := Lib.hid H2
      have HH3 := Lib.hid H3
      have HHS := Lib.hid HS0
      have HB0 := Lib.hid b0
      change Code.wp _ _ _ _ ((w.alloc (.cells noV 28)).alloc (.cells #[.int .i64 0] 29))
      rw [hW0, hg2]
      clear HZ8 H2 H3 HS0 b0 hW0 q1 q2 q3 q4 wl wn tm
      have HG2 := Lib.hid hg2
      clear hg2
      obtain ⟨A, hsA, bsA⟩ := sl_tail HB.out 20 (by omega) .i64
      rw [show ((20 : Nat) : Int) = 20 from rfl] at hsA
      have HSA := Lib.hid bsA
      clear bsA
      have hAP : ∀ W, (Instr.arrayAt 25 (.slice (some ⟨b, off + 8, none⟩) 12 (c - 8))).run Try.prog W = .ok (.pointer (some ⟨b, off + 8, none⟩)) W := fun W => by kernel_rfl
      go_upto_region 8 with (fail)
      clear hAP z0 z1 z2 z3 z4 z5 z6 z7 z8 z9 z10 z11 wt hcn8
      obtain ⟨V, hV⟩ : ∃ V, W0.alloc (.cells (msgV T (shA Z 8) (.slice none 0 0)) 28) = V := ⟨_, rfl⟩
      obtain ⟨g8, hg8⟩ : ∃ g8, W0.heap.size = g8 := ⟨_, rfl⟩
      have h28 : g2 + 1 < g8 := by have := HHS.out; omega
      have v8 : V.heap[g8]? = some (.cells (msgV T (shA Z 8) (.slice none 0 0)) 28 (0, 0)) := by rw [← hV, ← hg8]; exact alloc_blk_new
      have bV : Below W0.heap.size W0 V := by rw [← hV]; exact (Below.refl _ _).alloc (Nat.le_refl _) _
      have hVs : V.heap.size = g8 + 1 := by rw [← hV, ← hg8]; simp [World.size_alloc]
      change Code.wp _ _ _ _ (W0.alloc (.cells (msgV T (shA Z 8) (.slice none 0 0)) 28))
      rw [hV, hg8]
      have HV8 := Lib.hid v8
      have HBV := Lib.hid bV
      have HG8 := Lib.hid hg8
      have HVS := Lib.hid hVs
      clear hV v8 bV hg8 hVs
      go_wp2_with fail
      clear hsA
      refine (attrs_any A (n - 20) (c - 20) _).mono ?_
      rintro e wc ⟨rfl, hwc⟩
      obtain ⟨gb, hgb⟩ : ∃ gb, V.heap.size = gb := ⟨_, rfl⟩
      have H5 : wc.heap[gb]? = some (.cells #[.slice A (n - 20) (c - 20)] 22 (0, 0)) := by rw [hwc, ← hgb]; exact alloc_blk_new
      have bw : Below V.heap.size V wc := by rw [hwc]; exact (Below.refl _ _).alloc (Nat.le_refl _) _
      have bl : Below w.heap.size w wc := HB0.out.trans ((HBV.out.trans (bw.mono HBV.out.size)).mono HB0.out.size)
      have k8 := Below.blk bw HV8.out (lt_of_block HV8.out)
      have k2 := Below.blk (HBV.out.trans (bw.mono HBV.out.size)) HH2.out (lt_of_block HH2.out)
      have k3 := Below.blk (HBV.out.trans (bw.mono HBV.out.size)) HH3.out (lt_of_block HH3.out)
      rw [hgb]
      have e2 : g2 + 1 < gb := by have := HVS.out; omega
      have e8 : g8 < gb := by have := HVS.out; omega
      have hgl : gb < wc.heap.size := lt_of_block H5
      have hwg : w.heap.size ≤ gb := by have := HG2.out; omega
      have hBw : w.heap.size ≤ wc.heap.size := by omega
      have hB6 : B ≤ gb := by omega
      have hseq := attrs_seq B gb A (n - 20) (c - 20) (shA Z 20) wc (HSA.out.keep (bl.mono hB)) H5 hB6 (by omega)
      have I0 : StR (shA Z 20) T (shA Z 8) w g2 g8 wc.heap.size [] (.slice none 0 0) wc := ⟨k8, k2, k3, AList.nil _ _, bl, Nat.le_refl _, fun y hy => (by cases hy), by simp, fun y hy => (by cases hy)⟩
      have HWB : Hid (Below B w wc) := Lib.hid (bl.mono hB)
      clear hwc hgb H5 bw k8 k2 k3 bl
      go_wp2_with fail
      refine wp_rangeFunc_w (gf := 70) (lb := #[.pointer (some ⟨gb, 0, none⟩)]) rfl (enters_of Try.func70 (by kernel_rfl) rfl) hseq (fun x => rfl) (fun k e => by cases e; exact hgl)
        (fun pre W => ∃ v, StR (shA Z 20) T (shA Z 8) w g2 g8 wc.heap.size pre v W) (fun c _ W => c = .ret ∧ StX (shA Z 20) (n - 20) w g2 W)
        (fun s A W ⟨v, h⟩ hb => ⟨v, h.but hb e2 e8 hgl hwg⟩) (fun c s A W ⟨hc, h⟩ hb => ⟨hc, h.but hb e2 hwg⟩)
        (fun W hW => ⟨_, I0.below hW⟩) ?round ?done ?stop
      case round =>
        rintro l pre y W0' W hl ⟨v, i0⟩ hbut ⟨hpre, hbw, htrue, hfalse⟩
        have i1 := i0.but hbut e2 e8 hgl hwg
        have hsz := i1.sz
        have hsz0 := i0.sz
        obtain ⟨⟨id, ra, rn, rc, rZ⟩, st, ok⟩ := y
        simp only [AtE.enc] at htrue hfalse ⊢
        have HI := Lib.hid i1
        have HTR := Lib.hid htrue
        have HF := Lib.hid hfalse
        clear i0 i1 htrue hfalse hbut hbw
        gi_wp2_with fail
        obtain ⟨V1, hV1⟩ : ∃ V1, W.alloc (.cells #[.int .u16 id, .slice ra rn rc] 75) = V1 := ⟨_, rfl⟩
        rw [hV1]
        obtain ⟨g5, hg5⟩ : ∃ g5, W.heap.size = g5 := ⟨_, rfl⟩
        rw [hg5]
        have b1 : Below W.heap.size W V1 := by rw [← hV1]; exact (Below.refl _ _).alloc (Nat.le_refl _) _
        have blk5 : V1.heap[g5]? = some (.cells #[.int .u16 id, .slice ra rn rc] 75 (0, 0)) := by rw [← hV1, ← hg5]; exact alloc_blk_new
        have lowgb : V1.heap[gb]? = W.heap[gb]? := by rw [← hV1]; exact alloc_blk_old (by omega)
        refine ⟨by rw [← hV1]; exact KeepsOthers.alloc _ _, fun W2 ht => ?_⟩
        have i2 := (HI.out.below b1).turned ht hBw
        have blk52 := ht.blk blk5 rfl
        have row2 : ok = true → W2.ownsRow wc.heap.size 5 1 (.slice ra rn rc) rn (bytesOf (shA (shA Z 20) st) rn) := fun h => ht.own (own_below (World.ownsRow.mono (HTR.out h).2.2.2 hsz0) b1)
        have kp0 : W2.heap[gb]? = W.heap[gb]? := (ht.lowA hgl).trans lowgb
        have kb0 : Below B W W2 := ht.below (b1.mono (by omega)) (by omega)
        obtain ⟨va, vc, hv⟩ := i2.row.sl
        subst hv
        have I2 := Lib.hid i2
        have K0 := Lib.hid kp0
        have K1 := Lib.hid kb0
        have RW := Lib.hid row2
        have y0 : W2.cell? ⟨g5, 0, none⟩ = some (.int .u16 id) := cell_blk blk52
        have y1 : W2.cell? ⟨g5, 1, none⟩ = some (.slice ra rn rc) := cell_blk blk52
        have x13 : W2.cell? ⟨g8, 13, none⟩ = some (.slice va pre.length vc) := cell_blk i2.h8
        have z13 : W2.frozen? ⟨g8, 13, none⟩ = false := free_blk i2.h8
        have x3 : W2.cell? ⟨g2 + 1, 0, none⟩ = some (.int .i64 0) := cell_blk i2.h3
        have z3 : W2.frozen? ⟨g2 + 1, 0, none⟩ = false := free_blk i2.h3
        clear i2 kp0 kb0 row2 b1 blk5 lowgb hV1 ht blk52
        cases ok with
        | true =>
          by_cases h16 : pre.length = 16
          · have q1 : ((pre.length : Int) = 16) = True := eq_true (by omega)
            have q2 : ((pre.length : Int) == 16) = true := by rw [show (pre.length : Int) = 16 by omega]; rfl
            obtain ⟨f0, f1, f2, f3, f4, f5, f6, f7, f8, f9, f10, f11, f12, f13⟩ := MsgF.mk' I2.out.h2
            obtain ⟨j0, j1, j2, j3, j4, j5, j6, j7, j8, j9, j10, j11, j12, j13⟩ := MsgZ.mk' I2.out.h2
            gi_wp2_with fail
            generalize hX : World.setCell _ _ _ = X
            obtain ⟨x2', x3', xb, ko, xo⟩ := store_ms (t' := 0) (x' := fun _ => 0) (v' := .slice none 0 0) (u := .int .i64 3) I2.out.h2 I2.out.h3 hX
            have rx : StX (shA Z 20) (n - 20) w g2 X := ⟨x2', x3', I2.out.bl.trans (xb _ (by have := HG2.out; omega)), .inr (by
              obtain ⟨⟨suf, bb, hsuf⟩, -⟩ := HTR.out (by trivial)
              rw [hsuf]
              simp only [List.length_append, List.length_map, List.length_cons]
              omega)⟩
            exact ⟨ko, fun W3 ht => ⟨rfl, rx.turned ht hBw⟩⟩
          · have q1 : ((pre.length : Int) = 16) = False := eq_false (by omega)
            have q2 : ((pre.length : Int) == 16) = false := by simpa using (by omega : ¬ (pre.length : Int) = 16)
            have hl16 := I2.out.le
            have HL16 : Hid (pre.length < 16) := Lib.hid (by omega)
            have w2 := RW.out rfl
            obtain ⟨-, hz, hbd, -⟩ := HTR.out rfl
            rw [← hz] at w2
            have HZ := Lib.hid hz
            have HBN := Lib.hid hbd
            clear hz hbd
            obtain ⟨a9, c9, V3, A9, B9⟩ := app1 elAt I2.out.row.row (AtE.vals ⟨⟨id, ra, rn, rc, rZ⟩, st, true⟩) rfl (AtE.vals_one _) (by omega) (by omega) I2.out.sz
            have R3 := (I2.out.row.add (x := ⟨⟨id, ra, rn, rc, rZ⟩, st, true⟩) w2 A9.but A9.own)
            have vne : ∀ q, (Value.slice va pre.length vc).ownBlock = some q → wc.heap.size ≤ q := fun q hq => (I2.out.row.row.lt q hq).1
            have p8 : V3.heap[g8]? = some (.cells (msgV T (shA Z 8) (.slice va pre.length vc)) 28 (0, 0)) := A9.but.blk I2.out.h8 (fun e => by have := vne g8 e; omega)
            have p2 : V3.heap[g2]? = some (.cells noV 28 (0, 0)) := A9.but.blk I2.out.h2 (fun e => by have := vne g2 e; omega)
            have p3 : V3.heap[g2 + 1]? = some (.cells #[.int .i64 0] 29 (0, 0)) := A9.but.blk I2.out.h3 (fun e => by have := vne (g2 + 1) e; omega)
            have pb : V3.heap[gb]? = W.heap[gb]? := (A9.but.block gb (by have := I2.out.sz; omega) (fun e => by have := vne gb e; omega)).trans K0.out
            have ko : KeepsOthers W2 V3 := A9.but.others (fun q o hq ho => by
              obtain ⟨cs, mm, h2⟩ := own_block I2.out.row.row q hq
              rw [h2] at ho; injection ho with ho; subst ho; rfl)
            have HA := Lib.hid A9.run
            have R3H := Lib.hid R3
            have B3H := Lib.hid B9
            have KOH := Lib.hid ko
            have PBH := Lib.hid pb
            have P8 := Lib.hid p8
            have P2 := Lib.hid p2
            have P3 := Lib.hid p3
            have u13 : V3.cell? ⟨g8, 13, none⟩ = some (.slice va pre.length vc) := cell_blk p8
            have f13 : V3.frozen? ⟨g8, 13, none⟩ = false := free_blk p8
            clear A9 B9 R3 ko pb p8 p2 p3 vne w2 h16
            simp only [AtE.vals] at HA
            gi_wp2_with (gi_at_builtin; refine wpListIn_appA rfl (.tmp 64) (.tmp 66) 26 rfl _ _ _ rfl rfl HA.out ?_)
            have hl1 : (pre ++ [(⟨⟨id, ra, rn, rc, rZ⟩, st, true⟩ : AtE)]).length = pre.length + 1 := by rw [List.length_append, List.length_singleton]
            have i3 : StR (shA Z 20) T (shA Z 8) w g2 g8 wc.heap.size (pre ++ [(⟨⟨id, ra, rn, rc, rZ⟩, st, true⟩ : AtE)]) (.slice a9 (pre.length + 1) c9) (V3.setCell ⟨g8, 13, none⟩ (.slice a9 (pre.length + 1) c9)) := by
              refine ⟨by rw [set_blk _ P8.out]; rfl, (set_blk_other _ (show g2 ≠ g8 by omega)).trans P2.out, (set_blk_other _ (show g2 + 1 ≠ g8 by omega)).trans P3.out, R3H.out.set (by omega), (I2.out.bl.trans (B3H.out.mono hBw)).setCell (p := ⟨g8, 13, none⟩) (show w.heap.size ≤ g8 by have := HG2.out; omega) _, by have := B3H.out.size; have := I2.out.sz; simp only [World.setCell, Array.size_modify]; omega, fun x hx => ?_, by rw [hl1]; have := HL16.out; omega, fun x hx => ?_⟩
              · rcases List.mem_append.1 hx with h | h
                · exact I2.out.ok x h
                · rw [List.mem_singleton.1 h]
              · rcases List.mem_append.1 hx with h | h
                · exact I2.out.is x h
                · rw [List.mem_singleton.1 h]; exact ⟨HZ.out, HBN.out⟩
            have k3 : Below B W2 (V3.setCell ⟨g8, 13, none⟩ (.slice a9 (pre.length + 1) c9)) := (B3H.out.mono (by omega)).setCell (p := ⟨g8, 13, none⟩) (show B ≤ g8 by have := HG2.out; omega) _
            exact ⟨KOH.out.trans (KeepsOthers.setCell _ _ _), fun W3 ht => ⟨⟨(ht.lowA hgl).trans ((set_blk_other _ (show gb ≠ g8 by omega)).trans PBH.out), ht.below (K1.out.trans k3) (by omega)⟩, _, i3.turned ht hBw⟩⟩
        | false =>
          obtain ⟨f0, f1, f2, f3, f4, f5, f6, f7, f8, f9, f10, f11, f12, f13⟩ := MsgF.mk' I2.out.h2
          obtain ⟨j0, j1, j2, j3, j4, j5, j6, j7, j8, j9, j10, j11, j12, j13⟩ := MsgZ.mk' I2.out.h2
          gi_wp2_with fail
          generalize hX : World.setCell _ _ _ = X
          obtain ⟨x2', x3', xb, ko, xo⟩ := store_ms (t' := 0) (x' := fun _ => 0) (v' := .slice none 0 0) (u := .int .i64 3) I2.out.h2 I2.out.h3 hX
          have rx : StX (shA Z 20) (n - 20) w g2 X := ⟨x2', x3', I2.out.bl.trans (xb _ (by have := HG2.out; omega)), .inl (congrArg Prod.snd (HF.out (by trivial)))⟩
          exact ⟨ko, fun W3 ht => ⟨rfl, rx.turned ht hBw⟩⟩
      case done =>
        rintro D xs V2 V' hD hS ⟨v, i0⟩ ht hk
        rcases hS with ⟨hok, hpr⟩ | ⟨p', y, rfl, hx0⟩
        · have i1 := i0.turned ht hBw
          obtain ⟨va, vc, hv⟩ := i1.row.sl
          subst hv
          have HI := Lib.hid i1
          have HP := Lib.hid hpr
          obtain ⟨s0, s1, s2, s3, s4, s5, s6, s7, s8, s9, s10, s11, s12, s13⟩ := MsgF.mk' i1.h8
          obtain ⟨f0, f1, f2, f3, f4, f5, f6, f7, f8, f9, f10, f11, f12, f13⟩ := MsgF.mk' i1.h2
          obtain ⟨j0, j1, j2, j3, j4, j5, j6, j7, j8, j9, j10, j11, j12, j13⟩ := MsgZ.mk' i1.h2
          have x3 : V'.cell? ⟨g2 + 1, 0, none⟩ = some (.int .i64 0) := cell_blk i1.h3
          have z3 : V'.frozen? ⟨g2 + 1, 0, none⟩ = false := free_blk i1.h3
          clear i0 i1 hpr hok
          go_wp2_with fail
          generalize hX : World.setCell _ _ _ = X
          obtain ⟨x2', x3', xb, ko, xo⟩ := store_ms (t' := T) (x' := shA Z 8) (v' := .slice va xs.length vc) (u := .int .i64 0) HI.out.h2 HI.out.h3 hX
          clear s0 s1 s2 s3 s4 s5 s6 s7 s8 s9 s10 s11 s12 s13 f0 f1 f2 f3 f4 f5 f6 f7 f8 f9 f10 f11 f12 f13 j0 j1 j2 j3 j4 j5 j6 j7 j8 j9 j10 j11 j12 j13 hX
          have hk2 := ko.same D _ hk rfl
          have T9 := Turned.put (.deferred none) hD hk2 rfl
          have rr : AList xs wc.heap.size (.slice va xs.length vc) X := ⟨own_blk1y HI.out.row.row (fun q hq => xo q (by have := (HI.out.row.row.lt q hq).1; omega) (by have := (HI.out.row.row.lt q hq).1; omega)), fun x hx => own_blk1y (HI.out.row.dat x hx) (fun q hq => xo q (by have := ((HI.out.row.dat x hx).lt q hq).1; omega) (by have := ((HI.out.row.dat x hx).lt q hq).1; omega))⟩
          have r3 := cell_blk (i := 0) (T9.blk x3' rfl)
          obtain ⟨f0, f1, f2, f3, f4, f5, f6, f7, f8, f9, f10, f11, f12, f13⟩ := MsgF.mk' (T9.blk x2' rfl)
          refine leaves_mark hk2 (v := .tuple #[.agg (msgV T (shA Z 8) (.slice va xs.length vc)), .int .i64 0]) (by simp [results, Try.results12, go_sem, f0, f1, f2, f3, f4, f5, f6, f7, f8, f9, f10, f11, f12, f13, r3]; rfl) ?_
          have hps := prsA_sh Z n 20 (by omega) (n - 20) 0 (by omega)
          rw [HP.out] at hps
          refine ⟨T9.below (HI.out.bl.trans (xb _ (by have := HG2.out; omega))) hBw, .inl ⟨xs, .slice va xs.length vc, xs.map (fun y => shK 20 y.key), by rw [HTT.out], ⟨of_decide_eq_true HIB.out, HL9.out.1, HL9.out.2, ?_, by rw [List.length_map]; exact HI.out.le⟩, rfl, (rr.turned T9).mono hBw, HI.out.is⟩⟩
          rw [hps, List.map_map]
          rfl
        · exact absurd (i0.ok y (by simp)) (by rw [hx0]; decide)
      case stop =>
        rintro D c' pre V2 V' hD - ⟨rfl, x0⟩ ht hk
        have rx2' := x0.turned ht hBw
        have rx2 := rx2'.turned (Turned.put (.deferred none) hD hk rfl) hBw
        obtain ⟨f0, f1, f2, f3, f4, f5, f6, f7, f8, f9, f10, f11, f12, f13⟩ := MsgF.mk' rx2.h2
        have r3 := cell_blk (i := 0) rx2.h3
        go_wp2_with fail
        refine leaves_mark hk (v := .tuple #[.agg noV, .int .i64 3]) (by simp [results, Try.results12, go_sem, f0, f1, f2, f3, f4, f5, f6, f7, f8, f9, f10, f11, f12, f13, r3]; rfl) ?_
        refine ⟨rx2.bl, .inr ⟨3, rfl, .inr ⟨rfl, by omega⟩, fun ks h => ?_⟩⟩
        have hps := prsA_sh Z n 20 (by omega) (n - 20) 0 (by omega)
        rw [Nat.add_zero, h.2.2.2.1] at hps
        injection hps with p1 p2
        rcases rx2.st with h9 | h9
        · rw [← p2] at h9; cases h9
        · have := congrArg List.length p1
          rw [List.length_map] at this
          have := h.2.2.2.2
          omega
    · have HNG : Hid (∀ ks, ¬ readM Z n ks) := Lib.hid (fun ks h => hgood ⟨by rw [← HIB.out]; exact decide_eq_true h.1, by rw [← HL.out]; exact h.2.1, by have h1 := h.2.1; have h2 := h.2.2.1; rw [HL.out] at h1; omega⟩)
      by_cases h1 : ib = true
      case' neg =>
        obtain rfl : ib = false := by simpa using h1
        clear h1 hgood
        go_wp2_with fail
      case' pos =>
        subst h1
        by_cases h2 : L + 20 = n
        case' neg =>
          have q1 : ((L : Int) = (n : Int) - 20) = False := eq_false (by omega)
          have q2 : ((L : Int) != (n : Int) - 20) = true := by simpa using (by omega : ¬ (L : Int) = (n : Int) - 20)
          clear hgood
          go_wp2_with fail
        case' pos =>
          have h3 : ¬ L % 4 = 0 := fun h => hgood ⟨rfl, h2, h⟩
          have q1 : ((L : Int) = (n : Int) - 20) = True := eq_true (by omega)
          have q2 : ((L : Int) != (n : Int) - 20) = false := by rw [show (L : Int) = (n : Int) - 20 by omega]; simp
          have q3 : ((L : Int) % 4 = 0) = False := eq_false (by omega)
          have q4 : ((L : Int) % 4 != 0) = true := by simpa using (by omega : ¬ (L : Int) % 4 = 0)
          clear hgood h2 h3
          go_wp2_with fail
      all_goals
        obtain ⟨W1, hW1⟩ : ∃ W1, (w.alloc (.cells noV 28)).alloc (.cells #[.int .i64 3] 29) = W1 := ⟨_, rfl⟩
        have e3 : W1.cell? ⟨w.heap.size + 1, 0, none⟩ = some (.int .i64 3) := by
          have h := alloc_blk_new (w := w.alloc (.cells noV 28)) (o := .cells #[.int .i64 3] 29)
          rw [World.size_alloc, hW1] at h
          exact cell_blk h
        obtain ⟨⟨f0, f1, f2, f3, f4, f5, f6, f7, f8, f9, f10, f11, f12, f13⟩, hbw⟩ := HNO.out W1 (.inr hW1)
        change bodyPostM _ _ _ _ _ _ _ ((w.alloc (.cells noV 28)).alloc (.cells #[.int .i64 3] 29))
        rw [hW1]
        refine leaves_none (v := .tuple #[.agg noV, .int .i64 3]) (by simp [results, Try.results12, go_sem, f0, f1, f2, f3, f4, f5, f6, f7, f8, f9, f10, f11, f12, f13, e3]; rfl) ?_
        exact ⟨hbw, .inr ⟨3, rfl, .inr ⟨rfl, by omega⟩, HNG.out⟩⟩
end Go.Proofs.Ytkoplofcjbeicaa
