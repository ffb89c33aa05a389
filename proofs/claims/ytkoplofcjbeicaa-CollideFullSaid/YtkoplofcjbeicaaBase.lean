/-
  Small lemmas of our own that name no program: a world's blocks read whole, what a call keeps, and the shapes that arguments come in.
-/
import Derived.WalkKit
import Derived.WalkSpells
import Derived.WalkLawsBesides
import Derived.Handy
import Derived.Lib.Hide
import Derived.ShutString
import Derived.ChangeOld
import Derived.Below
import Derived.OneCell
import Derived.Deep.Slices
import Derived.Deep.QuietTactic
import Derived.BigQuiet
import Derived.Deep.RegionWith
import Derived.Deep.LoopGhost
namespace Go.Proofs.Ytkoplofcjbeicaa
open Go.RowKit Go.ChangeShapes Go.WideShapes Go.ChangeAt
set_option linter.unusedVariables false
set_option linter.unusedSimpArgs false

theorem ret_int {k : IntKind} {a b : Int} (h : a = b) : Ending.returned (.int k a) = .returned (.int k b) := by rw [h]
theorem ret_bool {a b : Bool} (h : a = b) : Ending.returned (.bool a) = .returned (.bool b) := by rw [h]

/-- A slice of integers that came in: a row of 'cap' cells with these numbers (of no cell, nothing is known of the address). -/
def IsRow (k : IntKind) (w : World) (a : Option Addr) (len cap : Nat) (zs : List Int) : Prop :=
  ∃ b off, (0 < cap → a = some ⟨b, off, none⟩ ∧ b < w.heap.size) ∧ len ≤ cap ∧ cap ≤ maxLen ∧ zs.length = cap ∧ (∀ i, i < cap → w.cell? ⟨b, off + i, none⟩ = some (.int k (zs.getD i 0))) ∧ ∀ n ∈ zs, (Lit.int k n).wf = true
theorem row_nil {k : IntKind} {w : World} : IsRow k w none 0 0 [] := ⟨0, 0, by omega, by omega, by unfold maxLen; omega, rfl, by omega, by simp⟩
theorem row_of {k : IntKind} {w : World} {x : Addr} {len cap : Nat} {zs : List Int} (hl : len ≤ cap) (hm : cap ≤ maxLen) (hz : zs.length = cap)
    (hc : ∀ i, i < zs.length → w.cell? (x.add i) = some (.int k (zs.getD i 0))) (hw : ∀ n ∈ zs, (Lit.int k n).wf = true) : IsRow k w (some x) len cap zs := by
  obtain ⟨b, off, sp⟩ := x
  refine ⟨b, off, fun h0 => ?_, hl, hm, hz, fun i hi => ?_, hw⟩
  · have h := hc 0 (by omega)
    have hs : sp = none := by simpa [Addr.add] using World.cell?_spot h
    subst hs
    exact ⟨rfl, by simpa [Addr.add] using World.block_lt_of_cell? _ _ h⟩
  · have h0 := hc 0 (by omega)
    have hs : sp = none := by simpa [Addr.add] using World.cell?_spot h0
    subst hs
    rw [← hc i (by omega)]
    congr 1
    by_cases h0 : i = 0 <;> simp [Addr.add, h0]

/-! ### A block whole -/
theorem cell_blk {w : World} {b i : Nat} {cs : Array Value} {t : TypeId} {m : Nat × Nat} (h : w.heap[b]? = some (.cells cs t m)) : w.cell? ⟨b, i, none⟩ = cs[i]? := by simp [World.cell?, h]
theorem free_blk {w : World} {b i : Nat} {cs : Array Value} {t : TypeId} (h : w.heap[b]? = some (.cells cs t (0, 0))) : w.frozen? ⟨b, i, none⟩ = false := by simp [World.frozen?, h]
theorem set_blk {w : World} {b i : Nat} {cs : Array Value} {t : TypeId} {m : Nat × Nat} (v : Value) (h : w.heap[b]? = some (.cells cs t m)) : (w.setCell ⟨b, i, none⟩ v).heap[b]? = some (.cells (cs.setIfInBounds i v) t m) := by
  have hlt := lt_of_block h
  have h' : w.heap[b] = .cells cs t m := by simpa [Array.getElem?_eq_getElem hlt] using h
  show (w.heap.modify b _)[b]? = _
  rw [Array.getElem?_eq_getElem (by simpa using hlt), Array.getElem_modify_self, h']
  rfl
theorem set_blk_other {w : World} {a : Addr} {k : Nat} (v : Value) (h : k ≠ a.block) : (w.setCell a v).heap[k]? = w.heap[k]? := Below.heap_setCell _ _ _ _ h
theorem alloc_blk_old {w : World} {o : Obj} {k : Nat} (h : k < w.heap.size) : (w.alloc o).heap[k]? = w.heap[k]? := Below.heap_alloc _ _ _ h
theorem alloc_blk_new {w : World} {o : Obj} : (w.alloc o).heap[w.heap.size]? = some o := by show (w.heap.push o)[w.heap.size]? = _; simp
theorem drew_blk {w : World} {k : Nat} : w.drew.heap[k]? = w.heap[k]? := rfl

/-- A store, an allocation, a draw, as a block is read. -/
def putIn (a : Addr) (v : Value) : Obj → Obj
  | .cells c e m => .cells (if a.spot.isSome then c else c.setIfInBounds a.off v) e m
  | o => o
theorem heap_set (w : World) (a : Addr) (v : Value) (k : Nat) : (w.setCell a v).heap[k]? = if k = a.block then (w.heap[k]?).map (putIn a v) else w.heap[k]? := by
  by_cases h : k = a.block
  · subst h
    rw [if_pos rfl]
    show (w.heap.modify a.block _)[a.block]? = _
    rw [Array.getElem?_modify, if_pos rfl]
    congr 1
  · rw [if_neg h]; exact Below.heap_setCell _ _ _ _ h
theorem heap_alloc (w : World) (o : Obj) (k : Nat) : (w.alloc o).heap[k]? = if k = w.heap.size then some o else w.heap[k]? := by
  show (w.heap.push o)[k]? = _
  rw [Array.getElem?_push]
theorem heap_drew (w : World) (k : Nat) : w.drew.heap[k]? = w.heap[k]? := rfl
theorem heap_drewN (w : World) (n k : Nat) : (w.drewN n).heap[k]? = w.heap[k]? := rfl
theorem size_drewN (w : World) (n : Nat) : (w.drewN n).heap.size = w.heap.size := rfl
theorem below_drewN0 {B : Nat} {a w : World} (h : Below B a w) (n : Nat) : Below B a (w.drewN n) := h.trans ⟨rfl, rfl, rfl, Nat.le_refl _, fun _ _ => rfl⟩

/-! ### What a call keeps: all blocks that were there, but the one named -/
structure Keeps (b : Nat) (w w' : World) : Prop where
  os : w'.os = w.os
  tape : w'.tape = w.tape
  output : w'.output = w.output
  size : w.heap.size ≤ w'.heap.size
  block : ∀ k, k < w.heap.size → k ≠ b → w'.heap[k]? = w.heap[k]?
theorem Keeps.refl (b : Nat) (w : World) : Keeps b w w := ⟨rfl, rfl, rfl, Nat.le_refl _, fun _ _ _ => rfl⟩
theorem Keeps.trans {b : Nat} {u v w : World} (h : Keeps b u v) (k : Keeps b v w) : Keeps b u w :=
  ⟨k.os.trans h.os, k.tape.trans h.tape, k.output.trans h.output, Nat.le_trans h.size k.size, fun i hi hb => (k.block i (Nat.lt_of_lt_of_le hi h.size) hb).trans (h.block i hi hb)⟩
theorem Keeps.alloc {b : Nat} {u w : World} (h : Keeps b u w) (o : Obj) : Keeps b u (w.alloc o) :=
  ⟨h.os, h.tape, h.output, by have := h.size; simp; omega, fun k hk hb => (Below.heap_alloc _ _ _ (Nat.lt_of_lt_of_le hk h.size)).trans (h.block k hk hb)⟩
theorem Keeps.drew {b : Nat} {u w : World} (h : Keeps b u w) : Keeps b u w.drew := ⟨h.os, h.tape, h.output, h.size, h.block⟩
theorem Keeps.drewN {b : Nat} {u w : World} (h : Keeps b u w) (n : Nat) : Keeps b u (w.drewN n) := ⟨h.os, h.tape, h.output, h.size, h.block⟩
theorem Keeps.setCell {b : Nat} {u w : World} (h : Keeps b u w) {a : Addr} (ha : a.block = b ∨ u.heap.size ≤ a.block) (v : Value) : Keeps b u (w.setCell a v) :=
  ⟨h.os, h.tape, h.output, by have := h.size; simp [World.setCell]; omega, fun k hk hb => (Below.heap_setCell _ _ _ _ (by omega)).trans (h.block k hk hb)⟩
theorem Keeps.of_below {b : Nat} {u w w' : World} (h : Keeps b u w) (hb : Below w.heap.size w w') : Keeps b u w' :=
  h.trans ⟨hb.os, hb.tape, hb.output, hb.size, fun k hk _ => hb.block k hk⟩
theorem Below.keeps {B b : Nat} {u w w' : World} (h : Below B u w) (hB : B ≤ w.heap.size) (hb : B ≤ b) (hk : Keeps b w w') : Below B u w' :=
  h.trans ⟨hk.os, hk.tape, hk.output, hk.size, fun k hkk => hk.block k (by omega) (by omega)⟩
theorem Keeps.below {B b : Nat} {w w' : World} (hk : Keeps b w w') (hB : B ≤ w.heap.size) (hb : B ≤ b) : Below B w w' := Below.keeps (Below.refl _ _) hB hb hk
theorem Keeps.blk {b k : Nat} {w w' : World} {o : Obj} (hk : Keeps b w w') (h : w.heap[k]? = some o) (hb : k ≠ b) : w'.heap[k]? = some o := by
  rw [hk.block k (lt_of_block h) hb]; exact h
theorem Keeps.cell {b q i : Nat} {w w' : World} {v : Value} (hk : Keeps b w w') (h : w.cell? ⟨q, i, none⟩ = some v) (hq : q ≠ b) : w'.cell? ⟨q, i, none⟩ = some v := by
  rw [World.cell?_of_block (w := w) (hk.block q (World.block_lt_of_cell? _ _ h) hq)]; exact h
theorem Keeps.frozen {b q i : Nat} {w w' : World} {v : Value} (hk : Keeps b w w') (h : w.cell? ⟨q, i, none⟩ = some v) (hq : q ≠ b) : w'.frozen? ⟨q, i, none⟩ = w.frozen? ⟨q, i, none⟩ :=
  World.frozen?_of_block (w := w) (hk.block q (World.block_lt_of_cell? _ _ h) hq)
theorem Below.blk {B k : Nat} {w w' : World} {o : Obj} (hk : Below B w w') (h : w.heap[k]? = some o) (hb : k < B) : w'.heap[k]? = some o := by rw [hk.block k hb]; exact h
theorem Below.nothing {w w' : World} (h : Below w.heap.size w w') (b : Nat) : Keeps b w w' := ⟨h.os, h.tape, h.output, h.size, fun k hk _ => h.block k hk⟩

/-- A cell below, in a later world. -/
theorem Below.cell' {B : Nat} {w w' : World} {b i : Nat} {v : Value} (h : Below B w w') (hb : b < B) (hc : w.cell? ⟨b, i, none⟩ = some v) : w'.cell? ⟨b, i, none⟩ = some v := by
  rw [h.cell (p := ⟨b, i, none⟩) hb]; exact hc

/-! ### What a call keeps: all blocks below a number, but the one named -/
structure Under (B b : Nat) (w w' : World) : Prop where
  os : w'.os = w.os
  tape : w'.tape = w.tape
  output : w'.output = w.output
  size : w.heap.size ≤ w'.heap.size
  block : ∀ k, k < B → k ≠ b → w'.heap[k]? = w.heap[k]?
theorem Under.refl (B b : Nat) (w : World) : Under B b w w := ⟨rfl, rfl, rfl, Nat.le_refl _, fun _ _ _ => rfl⟩
theorem Under.trans {B b : Nat} {u v w : World} (h : Under B b u v) (k : Under B b v w) : Under B b u w :=
  ⟨k.os.trans h.os, k.tape.trans h.tape, k.output.trans h.output, Nat.le_trans h.size k.size, fun i hi hb => (k.block i hi hb).trans (h.block i hi hb)⟩
theorem Under.alloc {B b : Nat} {u w : World} (h : Under B b u w) (hB : B ≤ w.heap.size) (o : Obj) : Under B b u (w.alloc o) :=
  h.trans ⟨rfl, rfl, rfl, by simp, fun k hk _ => Below.heap_alloc _ _ _ (by omega)⟩
theorem Under.drew {B b : Nat} {u w : World} (h : Under B b u w) : Under B b u w.drew := ⟨h.os, h.tape, h.output, h.size, h.block⟩
theorem Under.drewN {B b : Nat} {u w : World} (h : Under B b u w) (n : Nat) : Under B b u (w.drewN n) := ⟨h.os, h.tape, h.output, h.size, h.block⟩
theorem Under.setCell {B b : Nat} {u w : World} (h : Under B b u w) {a : Addr} (ha : a.block = b ∨ B ≤ a.block) (v : Value) : Under B b u (w.setCell a v) :=
  h.trans ⟨rfl, rfl, rfl, by simp [World.setCell], fun k hk hb => Below.heap_setCell _ _ _ _ (by omega)⟩
theorem Under.grown {B b : Nat} {u w w' : World} {row : Option Nat} (h : Under B b u w) (hg : w.grownBy w' row) (hB : B ≤ w.heap.size) (hr : ∀ k, row = some k → B ≤ k) : Under B b u w' :=
  h.trans ⟨hg.os, hg.tape, hg.output, hg.size, fun k hk _ => hg.block k (by omega) (fun e => by have := hr k e.symm; omega)⟩
theorem Under.blk {B b k : Nat} {w w' : World} {o : Obj} (hk : Under B b w w') (h : w.heap[k]? = some o) (hB : k < B) (hb : k ≠ b) : w'.heap[k]? = some o := by
  rw [hk.block k hB hb]; exact h
theorem Under.cell {B b q i : Nat} {w w' : World} {v : Value} (hk : Under B b w w') (h : w.cell? ⟨q, i, none⟩ = some v) (hB : q < B) (hb : q ≠ b) : w'.cell? ⟨q, i, none⟩ = some v := by
  rw [World.cell?_of_block (w := w) (hk.block q hB hb)]; exact h
theorem Under.below {B B' b : Nat} {w w' : World} (hk : Under B b w w') (hB : B' ≤ B) (hb : B' ≤ b) : Below B' w w' :=
  ⟨hk.os, hk.tape, hk.output, hk.size, fun k hkk => hk.block k (by omega) (by omega)⟩
theorem Keeps.under {b : Nat} {w w' : World} (hk : Keeps b w w') {B : Nat} (hB : B ≤ w.heap.size) : Under B b w w' := ⟨hk.os, hk.tape, hk.output, hk.size, fun k h1 h2 => hk.block k (by omega) h2⟩

/-! ### A row that the call owns -/
theorem own_blk {w w' : World} {base : Nat} {e : TypeId} {size : Nat} {v : Value} {n : Nat} {xs : List Value} (h : w.ownsRow base e size v n xs) (hb : ∀ k, base ≤ k → k < w.heap.size → w'.heap[k]? = w.heap[k]?) : w'.ownsRow base e size v n xs := by
  have hlt := h.lt
  obtain ⟨h1, h2⟩ := h
  refine ⟨h1, ?_⟩
  rcases h2 with h2 | ⟨g, cap, cur, hv, hg, hh, r⟩
  · exact .inl h2
  · subst hv
    obtain ⟨_, hl⟩ := hlt g rfl
    exact .inr ⟨g, cap, cur, rfl, hg, by rw [hb g hg hl]; exact hh, r⟩
/-- not empty: where it lies, and its cells -/
theorem own_some {w : World} {base : Nat} {e : TypeId} {size : Nat} {v : Value} {n : Nat} {xs : List Value} (h : w.ownsRow base e size v (n + 1) xs) :
    ∃ g cap, v = .slice (some ⟨g, 0, none⟩) (n + 1) cap ∧ base ≤ g ∧ g < w.heap.size ∧ (∀ (j : Nat) u, xs[j]? = some u → w.cell? ⟨g, j, none⟩ = some u) ∧ n + 1 ≤ cap := by
  have hlt := h.lt
  have hcell := fun g => h.cells (g := g)
  obtain ⟨h1, h2⟩ := h
  rcases h2 with ⟨_, h0⟩ | ⟨g, cap, cur, hv, hg, hh, hn, hcap, hsz, _⟩
  · omega
  · subst hv
    obtain ⟨h3, h4⟩ := hlt g rfl
    refine ⟨g, cap, rfl, h3, h4, fun j u hj => ?_, by omega⟩
    have := hcell g rfl j u hj
    unfold Addr.add at this
    by_cases h0 : j = 0
    · subst h0; simpa using this
    · simpa [h0] using this
theorem own_len {w : World} {base : Nat} {e : TypeId} {size : Nat} {v : Value} {n : Nat} {xs : List Value} (h : w.ownsRow base e size v n xs) : ∃ a cap, v = .slice a n cap := by
  obtain ⟨h1, h2⟩ := h
  rcases h2 with ⟨h0, rfl⟩ | ⟨g, cap, cur, hv, _⟩
  · exact ⟨none, 0, h0⟩
  · exact ⟨_, _, hv⟩
theorem cell_one_at {w : World} {n : Nat} {v : Value} {t : TypeId} (h : n = w.heap.size) : ∀ (j : Nat) u, [v][j]? = some u → (w.alloc (.cells #[v] t)).cell? ((⟨n, 0, none⟩ : Addr).add j) = some u := by
  subst h; exact cell_one_new _ _ _
theorem one_cell {v : Value} (h : v.oneCell' = true) : ∀ u ∈ [v], u.oneCell' = true := by intro u hu; simp at hu; subst hu; exact h
/-- a callee that draws nothing, inside go_quiet -/
theorem qsame {P : Program} {f : FuncId} {args : Array Value} {w : World} {n : Nat} {v : Value}
    (h : Calls P f args (w.drewN n) fun e w' => e = .returned v ∧ w.drewN n = w') : Calls P f args (w.drewN n) fun e w'' => e = .returned v ∧ ∃ m, w'' = w.drewN m :=
  h.mono fun _ _ ⟨he, hm⟩ => ⟨he, n, hm.symm⟩
/-- A slice of integers that came in, by index. -/
theorem row_open {k : IntKind} {w : World} {a : Option Addr} {len cap : Nat} {zs : List Int} (h : IsRow k w a len cap zs) :
    ∃ b off, ∃ Z : Nat → Int, (0 < cap → a = some ⟨b, off, none⟩ ∧ b < w.heap.size) ∧ len ≤ cap ∧ cap ≤ 9223372036854775807 ∧ (∀ i, i < cap → w.cell? ⟨b, off + i, none⟩ = some (.int k (Z i))) ∧ ∀ i, i < cap → (Lit.int k (Z i)).wf = true := by
  obtain ⟨b, off, ha, hl, hm, hz, hc, hw⟩ := h
  refine ⟨b, off, fun i => zs.getD i 0, ha, hl, by unfold maxLen at hm; omega, hc, fun i hi => hw _ ?_⟩
  have hi' : i < zs.length := by omega
  simp [List.getD, List.getElem?_eq_getElem hi']

/-! ### A region that draws its order, whose operations read what lies below B and whose calls keep that (they may make memory): one walk in the order of the text -/
/-- the worlds that are as w below B -/
def Wd (B : Nat) (w : World) := { w' : World // Below B w w' }
instance {B : Nat} {w : World} : Nonempty (Wd B w) := ⟨⟨w, Below.refl _ _⟩⟩
theorem wp_region_calm {P : Program} {id : Nat} {Q : Exit → Act → World → Prop} {a : Act} {w w0 : World} {B : Nat} {l : List Oper} (h0 : Below B w0 w) (hm : P.follows .mixedOrders = true) (hB : Region.lexB .any l.toArray = true)
    (h : wpQuiet P l.toArray (fun w' => ∃ x : Wd B w0, w' = x.1) (fun a' => ∀ w', (∃ x : Wd B w0, w' = x.1) → Q .normal a' w') l a) : (Code.region id l.toArray true).wp P Q a w :=
  wp_region_quiet (C := fun w' => ∃ x : Wd B w0, w' = x.1) hm hB ⟨⟨w.drew, h0.drew⟩, rfl⟩ (by simpa using h)
/-- a callee there -/
theorem calm {P : Program} {f : FuncId} {args : Array Value} {w0 : World} {B : Nat} {v : Value} (x : Wd B w0) (hB : B ≤ w0.heap.size)
    (h : Calls P f args x.1 fun e w' => e = .returned v ∧ Below x.1.heap.size x.1 w') : Calls P f args x.1 fun e w'' => e = .returned v ∧ ∃ y : Wd B w0, w'' = y.1 :=
  h.mono fun _ w'' ⟨he, hb⟩ => ⟨he, ⟨w'', x.2.trans (hb.mono (Nat.le_trans hB x.2.size))⟩, rfl⟩
theorem calm_same {P : Program} {f : FuncId} {args : Array Value} {w0 : World} {B : Nat} {v : Value} (x : Wd B w0)
    (h : Calls P f args x.1 fun e w' => e = .returned v ∧ x.1 = w') : Calls P f args x.1 fun e w'' => e = .returned v ∧ ∃ y : Wd B w0, w'' = y.1 :=
  h.mono fun _ w'' ⟨he, hb⟩ => ⟨he, x, hb.symm⟩
theorem Wd.cell {B : Nat} {w0 : World} {b i : Nat} {v : Value} (h : w0.cell? ⟨b, i, none⟩ = some v) (hb : b < B) (x : Wd B w0) : x.1.cell? ⟨b, i, none⟩ = some v := Below.cell' x.2 hb h
end Go.Proofs.Ytkoplofcjbeicaa
