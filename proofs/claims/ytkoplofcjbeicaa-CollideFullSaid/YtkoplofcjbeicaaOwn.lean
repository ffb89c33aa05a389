/-
  Rows of the call's own, several at once: an append as a run equation (from a slice somewhere, nil too), and what it leaves of all other blocks.
-/
import Derived.Test.YtkoplofcjbeicaaBase
import Derived.Laws.AppendOwnNone
import Derived.Maps.AppendAt
namespace Go.Proofs.Ytkoplofcjbeicaa
open Go.RowKit
set_option linter.unusedVariables false
set_option linter.unusedSimpArgs false

theorem exec_append {P : Program} {w w' : World} {o : Oper} {a : Act} {s x : Operand} {t : TypeId} (ho : o.op = .call { callee := .builtin .append, args := #[s, x], argTypes := #[t, t] }) {v1 v2 v' : Value} (hs : a.eval s = v1) (hx : a.eval x = v2)
    (hr : (Builtin.append_ #[t, t] o.type #[v1, v2]).run P w = .ok v' w') : (execOp a.eval o).run P w = .ok (.value v') w' := by
  unfold execOp
  simp only [ho, resolve, invoke, builtin, Sem.run_bind, Sem.run_pure, Result.andThen_ok, List.map_toArray, List.map_cons, List.map_nil, hs, hx, hr]
theorem wpList_of_append {P : Program} {w w' : World} {ops : Array Oper} {rest : List Oper} {o : Oper} {a : Act} {Q : Exit → Act → World → Prop} (hgd : o.guard = none) (s x : Operand) (t : TypeId)
    (ho : o.op = .call { callee := .builtin .append, args := #[s, x], argTypes := #[t, t] }) (v1 v2 v' : Value) (hs : a.eval s = v1) (hx : a.eval x = v2)
    (hr : ∀ ty, (Builtin.append_ #[t, t] ty #[v1, v2]).run P w = .ok v' w') (h : wpList P ops Q rest (a.put o.dst v') w') : wpList P ops Q (o :: rest) a w := by
  refine wpList_plain hgd fun K hK => ?_
  unfold Oper.wp
  rw [exec_append ho hs hx (hr o.type)]
  exact hK _ _ h

/-- all blocks that were there but one, if any -/
structure But (r : Option Nat) (w w' : World) : Prop where
  os : w'.os = w.os
  tape : w'.tape = w.tape
  output : w'.output = w.output
  size : w.heap.size ≤ w'.heap.size
  block : ∀ k, k < w.heap.size → r ≠ some k → w'.heap[k]? = w.heap[k]?
theorem But.of_below {r : Option Nat} {w w' : World} (h : Below w.heap.size w w') : But r w w' := ⟨h.os, h.tape, h.output, h.size, fun k hk _ => h.block k hk⟩
theorem But.below {r : Option Nat} {B : Nat} {w w' : World} (h : But r w w') (hB : B ≤ w.heap.size) (hr : ∀ k, r = some k → B ≤ k) : Below B w w' := ⟨h.os, h.tape, h.output, h.size, fun k hk => h.block k (by omega) (fun e => by have := hr k e; omega)⟩
theorem But.all {w w' : World} (h : But none w w') : Below w.heap.size w w' := h.below (Nat.le_refl _) (fun k e => by cases e)
theorem But.keeps {b : Nat} {w w' : World} (h : But (some b) w w') : Keeps b w w' := ⟨h.os, h.tape, h.output, h.size, fun k hk hb => h.block k hk (fun e => hb (by injection e with e; exact e.symm))⟩
theorem But.blk {r : Option Nat} {w w' : World} {k : Nat} {o : Obj} (h : But r w w') (hk : w.heap[k]? = some o) (hr : r ≠ some k) : w'.heap[k]? = some o := by rw [h.block k (lt_of_block hk) hr]; exact hk
theorem But.ahead {r : Option Nat} {u w w' : World} (h : But r w w') (hb : Below u.heap.size u w) (hr : ∀ k, r = some k → k < u.heap.size) : But r u w' :=
  ⟨h.os.trans hb.os, h.tape.trans hb.tape, h.output.trans hb.output, Nat.le_trans hb.size h.size, fun k hk hne => (h.block k (Nat.lt_of_lt_of_le hk hb.size) hne).trans (hb.block k hk)⟩
theorem But.behind {r : Option Nat} {u w w' : World} (h : But r u w) (hb : Below w.heap.size w w') : But r u w' :=
  ⟨hb.os.trans h.os, hb.tape.trans h.tape, hb.output.trans h.output, Nat.le_trans h.size hb.size, fun k hk hne => (hb.block k (Nat.lt_of_lt_of_le hk h.size)).trans (h.block k hk hne)⟩
theorem own_but {r : Option Nat} {w w' : World} {base : Nat} {e : TypeId} {size : Nat} {v : Value} {n : Nat} {xs : List Value} (h : w.ownsRow base e size v n xs) (hb : But r w w') (hr : ∀ k, v.ownBlock = some k → r ≠ some k) : w'.ownsRow base e size v n xs := by
  have hlt := h.lt
  obtain ⟨h1, h2⟩ := h
  refine ⟨h1, ?_⟩
  rcases h2 with h2 | ⟨g, cap, cur, hv, hg, hh, r'⟩
  · exact .inl h2
  · have hog : v.ownBlock = some g := by rw [hv]; rfl
    exact .inr ⟨g, cap, cur, hv, hg, by rw [hb.block g (lt_of_block hh) (hr g hog)]; exact hh, r'⟩
theorem own_below {w w' : World} {base : Nat} {e : TypeId} {size : Nat} {v : Value} {n : Nat} {xs : List Value} (h : w.ownsRow base e size v n xs) (hb : Below w.heap.size w w') : w'.ownsRow base e size v n xs :=
  own_blk h (fun k _ hk => hb.block k hk)

/-- **An append onto a row of the call's own**, of a slice that lies somewhere (or is nil): its run; all else stays. -/
theorem run_app {P : Program} {w : World} {base : Nat} {t e : TypeId} {i : TypeInfo} {z : Value} {size bytes : Nat} (ht : P.underlying t = some (.slice e)) (hi : P.info? e = some i) (hz : i.zero = some z)
    (hsize : i.size = size) (hby : i.bytes = bytes) (hzs : z.cells.size = size) (hsz : 0 < size) {v : Value} {n : Nat} {xs : List Value} (hown : w.ownsRow base e size v n xs)
    (ax : Option Addr) (m c : Nat) (news : List Value) (h0 : ax = none → m = 0 ∧ c = 0) (hl : news.length = m * size) (hnews : ∀ ad, ax = some ad → ∀ (j : Nat) u, news[j]? = some u → w.cell? (ad.add j) = some u) (h1 : ∀ u ∈ news, u.oneCell' = true)
    (h63 : n + m ≤ maxLen) (hbytes : (n + m) * bytes ≤ 140737488355328) (hbase : base ≤ w.heap.size) :
    ∃ a' c' w', (∀ ty, (Builtin.append_ #[t, t] ty #[v, .slice ax m c]).run P w = .ok (.slice a' (n + m) c') w') ∧ w'.ownsRow base e size (.slice a' (n + m) c') (n + m) (xs ++ news) ∧ But v.ownBlock w w' ∧
      (∀ k, (Value.slice a' (n + m) c').ownBlock = some k → v.ownBlock = some k ∨ w.heap.size ≤ k) := by
  cases ax with
  | none =>
    obtain ⟨rfl, rfl⟩ := h0 rfl
    have hn : news = [] := List.length_eq_zero_iff.1 (by omega)
    subst hn
    subst hsize
    obtain ⟨a', c', hv⟩ := own_len hown
    refine ⟨a', c', w, fun ty => ?_, ?_, ⟨rfl, rfl, rfl, Nat.le_refl _, fun _ _ _ => rfl⟩, fun k hk => .inl ?_⟩
    · have := run_append_owned_none (P := P) (w := w) base t ty e i i.size ht hi v n xs hown
      rw [this, hv]; rfl
    · rw [hv] at hown
      simpa using hown
    · rw [hv]; exact hk
  | some ad =>
    have hlt := hown.lt
    obtain ⟨v', w', hr, h2, h3, h4, h5⟩ := run_append_own_at (P := P) w base t t e i z size bytes ht hi hz hsize hby hzs hsz v n xs hown ad m c news hl (hnews ad rfl) h1 h63 hbytes hbase
    obtain ⟨a', c', rfl⟩ := own_len h2
    refine ⟨a', c', w', fun ty => ?_, h2, ⟨h3.os, h3.tape, h3.output, h3.size, fun k hk hne => h3.block k hk (fun e => hne e.symm)⟩, fun k hk => ?_⟩
    · exact hr
    · rcases h5 with h5 | h5
      · left; rw [← h5]; exact hk
      · right; rw [h5] at hk; simp at hk; omega
end Go.Proofs.Ytkoplofcjbeicaa
