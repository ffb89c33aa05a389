/-
  Appends in one word each: a struct that was just built; a slice that lies somewhere.
-/
import Derived.Test.YtkoplofcjbeicaaMixO
import Derived.Test.YtkoplofcjbeicaaReads
namespace Go.Proofs.Ytkoplofcjbeicaa
open Go.RowKit
set_option linter.unusedVariables false
set_option linter.unusedSimpArgs false

/-- the elements of a slice's type -/
structure ElemT (P : Program) (t e : TypeId) (size bytes : Nat) : Prop where
  under : P.underlying t = some (.slice e)
  info : ∃ i z, P.info? e = some i ∧ i.zero = some z ∧ i.size = size ∧ i.bytes = bytes ∧ z.cells.size = size ∧ 0 < size
theorem ElemT.mk' {P : Program} {t e : TypeId} {size bytes : Nat} {z : Value} (h : P.underlying t = some (.slice e)) (hi : (P.info? e).map (fun i => (i.zero, i.size, i.bytes)) = some (some z, size, bytes)) (hz : z.cells.size = size) (h0 : 0 < size) : ElemT P t e size bytes := by
  obtain ⟨i, h1, h2, h3, h4⟩ := info_parts hi
  exact ⟨h, i, z, h1, h2, h3, h4, hz, h0⟩

/-- 's = append(s, x)', x just built in V: it lies in a block of its own -/
structure App (P : Program) (t : TypeId) (V : World) (tmp : Obj) (v v' : Value) (W : World) (base : Nat) (e : TypeId) (size n : Nat) (xs : List Value) : Prop where
  run : ∀ ty, (Builtin.append_ #[t, t] ty #[v, .slice (some ⟨V.heap.size, 0, none⟩) 1 1]).run P (V.alloc tmp) = .ok v' W
  own : W.ownsRow base e size v' n xs
  but : But v.ownBlock V W
  new : ∀ k, v'.ownBlock = some k → v.ownBlock = some k ∨ V.heap.size < k
theorem app1 {P : Program} {t e : TypeId} {size bytes : Nat} (E : ElemT P t e size bytes) {V : World} {base : Nat} {v : Value} {n : Nat} {xs : List Value} (own : V.ownsRow base e size v n xs) (news : List Value)
    (hl : news.length = size) (h1 : ∀ u ∈ news, u.oneCell' = true) (h63 : n ≤ 1000000) (hb : bytes ≤ 1000) (hbase : base ≤ V.heap.size) :
    ∃ a' c' W, App P t V (.cells news.toArray e) v (.slice a' (n + 1) c') W base e size (n + 1) (xs ++ news) ∧ Below base V W := by
  obtain ⟨under, i, z, hi, hz, hs, hby, hzs, h0⟩ := E
  have B : Below V.heap.size V (V.alloc (.cells news.toArray e)) := (Below.refl _ _).alloc (Nat.le_refl _) _
  have hnew : (V.alloc (.cells news.toArray e)).heap[V.heap.size]? = some (.cells news.toArray e (0, 0)) := alloc_blk_new
  obtain ⟨a', c', W, r, o, b, nb⟩ := run_app (P := P) (w := V.alloc (.cells news.toArray e)) (t := t) under hi hz hs hby hzs h0 (own_below own B) (some ⟨V.heap.size, 0, none⟩) 1 1 news (fun e => by cases e) (by omega) (fun ad e j u hj => by
    cases e
    rw [addr_add, Nat.zero_add, cell_blk hnew, ← hj]
    simp) h1 (by unfold maxLen; omega) (by
      have h := Nat.mul_le_mul (show n + 1 ≤ 1000001 by omega) hb
      omega) (Nat.le_trans hbase B.size)
  refine ⟨a', c', W, ⟨r, o, b.ahead B (fun k hk => (own.lt k hk).2), fun k hk => ?_⟩, (b.ahead B (fun k hk => (own.lt k hk).2)).below hbase (fun k hk => (own.lt k hk).1)⟩
  rcases nb k hk with h | h
  · exact .inl h
  · right; simp at h; omega
/-- 's = append(s, x...)', x a slice that lies somewhere, or nil -/
structure AppS (P : Program) (t : TypeId) (V : World) (x v v' : Value) (W : World) (base : Nat) (e : TypeId) (size n : Nat) (xs : List Value) : Prop where
  run : ∀ ty, (Builtin.append_ #[t, t] ty #[v, x]).run P V = .ok v' W
  own : W.ownsRow base e size v' n xs
  but : But v.ownBlock V W
  new : ∀ k, v'.ownBlock = some k → v.ownBlock = some k ∨ V.heap.size ≤ k
theorem appS {P : Program} {t e : TypeId} {size bytes : Nat} (E : ElemT P t e size bytes) {V : World} {base : Nat} {v : Value} {n : Nat} {xs : List Value} (own : V.ownsRow base e size v n xs) (ax : Option Addr) (m c : Nat) (news : List Value)
    (hnil : ax = none → m = 0 ∧ c = 0) (hl : news.length = m * size) (hnews : ∀ ad, ax = some ad → ∀ (j : Nat) u, news[j]? = some u → V.cell? (ad.add j) = some u) (h1 : ∀ u ∈ news, u.oneCell' = true) (h63 : n + m ≤ 1000000) (hb : bytes ≤ 1000) (hbase : base ≤ V.heap.size) :
    ∃ a' c' W, AppS P t V (.slice ax m c) v (.slice a' (n + m) c') W base e size (n + m) (xs ++ news) ∧ Below base V W := by
  obtain ⟨under, i, z, hi, hz, hs, hby, hzs, h0⟩ := E
  obtain ⟨a', c', W, r, o, b, nb⟩ := run_app (P := P) (w := V) (t := t) under hi hz hs hby hzs h0 own ax m c news hnil hl hnews h1 (by unfold maxLen; omega) (by
      have h := Nat.mul_le_mul (show n + m ≤ 1000000 by omega) hb
      omega) hbase
  exact ⟨a', c', W, ⟨r, o, b, nb⟩, b.below hbase (fun k hk => (own.lt k hk).1)⟩
/-- rows that don't meet -/
def Apart (v u : Value) : Prop := ∀ g, v.ownBlock = some g → u.ownBlock ≠ some g
theorem Apart.symm {v u : Value} (h : Apart v u) : Apart u v := fun g h1 h2 => h g h2 h1
theorem Apart.nil (v : Value) : Apart v (.slice none 0 0) := fun g _ h2 => by cases h2
/-- a row of the call's own, as cells -/
theorem own_cell {w : World} {base : Nat} {e : TypeId} {size g n c : Nat} {m : Nat} {xs : List Value} (h : w.ownsRow base e size (.slice (some ⟨g, 0, none⟩) m c) n xs) {j : Nat} {u : Value} (hj : xs[j]? = some u) : w.cell? ⟨g, j, none⟩ = some u := by
  have := h.cells (g := g) rfl j u hj
  rw [addr_add, Nat.zero_add] at this
  exact this
end Go.Proofs.Ytkoplofcjbeicaa
