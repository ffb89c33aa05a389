/-
  append, told once: onto a row of the call's own, or onto a full slice that came in; from whatever slice.
-/
import Derived.Test.YtkoplofcjbeicaaBase
import Derived.Deep.Onto
import Derived.Laws.AppendOwnNone
namespace Go.Proofs.Ytkoplofcjbeicaa
open Go.RowKit
set_option linter.unusedVariables false
set_option linter.unusedSimpArgs false

/-- A slice with n elements of one cell: the call's own, or one that came in and is full. -/
def From (w : World) (base : Nat) (e : TypeId) (v : Value) (n : Nat) (xs : List Value) : Prop :=
  w.ownsRow base e 1 v n xs ∨ ∃ ao, v = .slice ao n n ∧ (ao = none → n = 0) ∧ xs.length = n ∧ ∀ b, ao = some b → ∀ (j : Nat) u, xs[j]? = some u → b.block < base ∧ w.cell? (b.add j) = some u
theorem From.alloc {w : World} {base : Nat} {e : TypeId} {v : Value} {n : Nat} {xs : List Value} (h : From w base e v n xs) (hb : base ≤ w.heap.size) (o : Obj) : From (w.alloc o) base e v n xs := by
  rcases h with h | ⟨ao, hv, h0, hl, hc⟩
  · exact .inl (h.alloc _)
  · refine .inr ⟨ao, hv, h0, hl, fun b hb' j u hj => ?_⟩
    obtain ⟨h1, h2⟩ := hc b hb' j u hj
    have : (b.add j).block = b.block := by unfold Addr.add; split <;> rfl
    exact ⟨h1, by rw [World.cell?_alloc_lt _ _ _ (by rw [this]; omega)]; exact h2⟩
theorem From.below {w w' : World} {base : Nat} {e : TypeId} {v : Value} {n : Nat} {xs : List Value} (h : From w base e v n xs) (hb : Below w.heap.size w w') (hB : base ≤ w.heap.size) : From w' base e v n xs := by
  rcases h with h | ⟨ao, hv, h0, hl, hc⟩
  · exact .inl (own_blk h fun k h1 h2 => hb.block k h2)
  · refine .inr ⟨ao, hv, h0, hl, fun b hb' j u hj => ?_⟩
    obtain ⟨h1, h2⟩ := hc b hb' j u hj
    have : (b.add j).block = b.block := by unfold Addr.add; split <;> rfl
    exact ⟨h1, by rw [hb.cell (p := b.add j) (by rw [this]; omega)]; exact h2⟩
theorem From.len {w : World} {base : Nat} {e : TypeId} {v : Value} {n : Nat} {xs : List Value} (h : From w base e v n xs) : ∃ a c, v = .slice a n c := by
  rcases h with h | ⟨ao, hv, _⟩
  · exact own_len h
  · exact ⟨_, _, hv⟩

/-- one element or more onto such a slice -/
theorem append_from {P : Program} (w : World) {ops : Array Oper} {rest : List Oper} {o : Oper} {a : Act} {Q : Exit → Act → World → Prop} (hgd : o.guard = none) (s x : Operand) (t : TypeId)
    (ho : o.op = .call { callee := .builtin .append, args := #[s, x], argTypes := #[t, t] })
    (base : Nat) (e : TypeId) (i : TypeInfo) (z : Value) (bytes : Nat) (ht : P.underlying t = some (.slice e)) (hi : P.info? e = some i) (hz : i.zero = some z)
    (hsize : i.size = 1) (hby : i.bytes = bytes) (hzs : z.cells.size = 1)
    (v : Value) (n : Nat) (xs : List Value) (hs : a.eval s = v) (hown : From w base e v n xs)
    (ad : Addr) (m c : Nat) (news : List Value) (hx : a.eval x = .slice (some ad) m c) (hl : news.length = m) (hnews : ∀ (j : Nat) u, news[j]? = some u → w.cell? (ad.add j) = some u) (h1 : ∀ u ∈ news, u.oneCell' = true) (hm : 0 < m)
    (h63 : n + m ≤ maxLen) (hbytes : (n + m) * bytes ≤ 140737488355328) (hbase : base ≤ w.heap.size)
    (h : ∀ v' w', w'.ownsRow base e 1 v' (n + m) (xs ++ news) → Below base w w' → wpList P ops Q rest (a.put o.dst v') w') : wpList P ops Q (o :: rest) a w := by
  rcases hown with hown | ⟨ao, rfl, h0, hlx, hc⟩
  · have hlt := hown.lt
    exact wpList_append_own w hgd s x t ho base e i z 1 bytes ht hi hz hsize hby hzs (by decide) v n xs hs hown ad m c news hx (by omega) hnews h1 h63 hbytes hbase
      fun v' w' h2 h3 _ => h v' w' h2 ((Below.refl _ _).grown h3 hbase fun k hk => (hlt k hk).1)
  · exact wpList_append_grows w hgd s x t ho e i z 1 bytes ht hi hz hsize hby hzs (by decide) ao n n xs hs (fun h => ⟨h0 h, h0 h⟩) (by omega) (fun b hb j u hj => (hc b hb j u hj).2) ad m c news hx (by omega) hnews h1 (by omega) h63 hbytes
      fun v' w' h2 h3 => h v' w' (World.ownsRow.mono h2 hbase) ((Below.refl _ _).grown h3 hbase fun k hk => by cases hk)

/-- whatever slice onto a row of the call's own -/
theorem append_src {P : Program} (w : World) {ops : Array Oper} {rest : List Oper} {o : Oper} {a : Act} {Q : Exit → Act → World → Prop} (hgd : o.guard = none) (s x : Operand) (t : TypeId)
    (ho : o.op = .call { callee := .builtin .append, args := #[s, x], argTypes := #[t, t] })
    (base : Nat) (e : TypeId) (i : TypeInfo) (z : Value) (size bytes : Nat) (ht : P.underlying t = some (.slice e)) (hi : P.info? e = some i) (hz : i.zero = some z)
    (hsize : i.size = size) (hby : i.bytes = bytes) (hzs : z.cells.size = size) (hsz : 0 < size)
    (v : Value) (n : Nat) (xs : List Value) (hs : a.eval s = v) (hown : w.ownsRow base e size v n xs)
    (ax : Option Addr) (m c : Nat) (news : List Value) (hx : a.eval x = .slice ax m c) (h0 : ax = none → m = 0 ∧ c = 0) (hl : news.length = m * size) (hnews : ∀ ad, ax = some ad → ∀ (j : Nat) u, news[j]? = some u → w.cell? (ad.add j) = some u) (h1 : ∀ u ∈ news, u.oneCell' = true)
    (h63 : n + m ≤ maxLen) (hbytes : (n + m) * bytes ≤ 140737488355328) (hbase : base ≤ w.heap.size)
    (h : ∀ v' w', w'.ownsRow base e size v' (n + m) (xs ++ news) → Below base w w' → wpList P ops Q rest (a.put o.dst v') w') : wpList P ops Q (o :: rest) a w := by
  have hlt := hown.lt
  cases ax with
  | some ad =>
    exact wpList_append_own w hgd s x t ho base e i z size bytes ht hi hz hsize hby hzs hsz v n xs hs hown ad m c news hx hl (hnews ad rfl) h1 h63 hbytes hbase
      fun v' w' h2 h3 _ => h v' w' h2 ((Below.refl _ _).grown h3 hbase fun k hk => (hlt k hk).1)
  | none =>
    obtain ⟨rfl, rfl⟩ := h0 rfl
    have hn : news = [] := List.length_eq_zero_iff.1 (by omega)
    subst hn
    subst hsize
    exact wpList_append_own_none hgd s x t ho base e i i.size ht hi v n xs hs hown hx (h v w (by simpa using hown) (Below.refl _ _))
end Go.Proofs.Ytkoplofcjbeicaa
