/-
  Chapter 38: what holds between two steps of the law SrmapPlays.
-/
import Derived.Test.YtkdjkaimcciemaaSmC
namespace Go.Proofs.Ytkdjkaimcciemaa
open Go.RowKit
set_option linter.unusedVariables false
set_option linter.unusedSimpArgs false

theorem own_one {w w' : World} {base : Nat} {e : TypeId} {size : Nat} {v : Value} {n : Nat} {xs : List Value} (h : w.ownsRow base e size v n xs) (hb : ∀ k, v.ownBlock = some k → w'.heap[k]? = w.heap[k]?) : w'.ownsRow base e size v n xs := by
  obtain ⟨h1, h2⟩ := h
  refine ⟨h1, ?_⟩
  rcases h2 with h2 | ⟨g, cap, cur, hv, hg, hh, r'⟩
  · exact .inl h2
  · exact .inr ⟨g, cap, cur, hv, hg, by rw [hb g (by rw [hv]; rfl)]; exact hh, r'⟩
theorem own_blk2 {w : World} {b1 : Nat} {e1 : TypeId} {s1 n1 : Nat} {v1 : Value} {xs1 : List Value} (h1 : w.ownsRow b1 e1 s1 v1 n1 xs1) : ∀ g, v1.ownBlock = some g → ∃ cs mm, w.heap[g]? = some (.cells cs e1 mm) := fun g hg => by
  rcases h1.2 with ⟨hv, _⟩ | ⟨x, _, cs, hv, _, hx, _⟩
  · rw [hv] at hg; cases hg
  · rw [hv] at hg; cases hg; exact ⟨_, _, hx⟩
theorem own_apart {w w' : World} {b1 b2 : Nat} {e1 e2 : TypeId} {s1 n1 s2 n2 : Nat} {v1 v2 : Value} {xs1 xs2 : List Value} (h1 : w.ownsRow b1 e1 s1 v1 n1 xs1) (h2 : w.ownsRow b2 e2 s2 v2 n2 xs2) (hb : But v2.ownBlock w w') (hne : e1 ≠ e2) : w'.ownsRow b1 e1 s1 v1 n1 xs1 :=
  own_but h1 hb fun k hk e => by
    obtain ⟨cs, mm, g1⟩ := own_blk2 h2 k e
    obtain ⟨cs', mm', g2⟩ := own_blk2 h1 k hk
    rw [g1] at g2
    injection g2 with g2
    injection g2 with _ g2
    exact hne g2.symm
def nmV (N : List Ent) : List Value := N.map fun p => .int .u32 p.1
def syL (s : Sy) : List Value := [.int .u64 s.T, .int .u32 s.S, .int .u32 s.R]
def syV (N : List Ent) : List Value := N.flatMap fun p => syL p.2
theorem nmV_get (N : List Ent) (j : Nat) (h : j < N.length) : (nmV N)[j]? = some (.int .u32 (kN N j)) := by
  unfold nmV kN
  rw [List.getElem?_map, List.getD_eq_getElem?_getD, List.getElem?_eq_getElem h]
  rfl
theorem syV_get (N : List Ent) (j : Nat) (h : j < N.length) : (syV N)[j * 3]? = some (.int .u64 (sN N j).T) ∧ (syV N)[j * 3 + 1]? = some (.int .u32 (sN N j).S) ∧ (syV N)[j * 3 + 2]? = some (.int .u32 (sN N j).R) := by
  induction N generalizing j with
  | nil => exact absurd h (Nat.not_lt_zero _)
  | cons p N ih =>
    cases j with
    | zero => exact ⟨rfl, rfl, rfl⟩
    | succ j =>
      have := ih j (by simpa using h)
      have e : sN (p :: N) (j + 1) = sN N j := rfl
      have e2 : syV (p :: N) = syL p.2 ++ syV N := by simp [syV]
      rw [e, e2, show (j + 1) * 3 = j * 3 + 3 by omega]
      simpa [syL] using this
theorem syV_len (N : List Ent) : (syV N).length = N.length * 3 := by
  induction N with
  | nil => rfl
  | cons p N ih =>
    have e2 : syV (p :: N) = syL p.2 ++ syV N := by simp [syV]
    rw [e2, List.length_append, ih]
    simp [syL]
    omega
theorem infoU32 : (Try.prog.info? 23).map (fun i => (i.zero, i.size, i.bytes)) = some (some (.int .u32 0), 1, 4) := by kernel_rfl
theorem elU32 : ElemT Try.prog 34 23 1 4 := ElemT.mk' (z := .int .u32 0) Try.underlying34 infoU32 rfl (by decide)
theorem infoSy : (Try.prog.info? 25).map (fun i => (i.zero, i.size, i.bytes)) = some (some (.agg #[.int .u64 0, .int .u32 0, .int .u32 0]), 3, 16) := by kernel_rfl
theorem elSy : ElemT Try.prog 35 25 3 16 := ElemT.mk' (z := .agg #[.int .u64 0, .int .u32 0, .int .u32 0]) Try.underlying35 infoSy rfl (by decide)
structure SmI (w : World) (gk gm N0 n : Nat) (N : List Ent) (f : Int → Option Sy) (na : Option Addr) (nc : Nat) (sa : Option Addr) (sc : Nat) (wr : World) : Prop where
  bk : Bk gk gm n f N.length wr
  nm : wr.ownsRow N0 23 1 (.slice na N.length nc) N.length (nmV N)
  sy : wr.ownsRow N0 25 3 (.slice sa N.length sc) N.length (syV N)
  rel : Rel N f
  bl : Below w.heap.size w wr
  sz : N0 ≤ wr.heap.size
  l32 : N.length ≤ 32
  ok : ∀ j, j < N.length → (sN N j).Ok
theorem SmI.below {w : World} {gk gm N0 n : Nat} {N : List Ent} {f : Int → Option Sy} {na : Option Addr} {nc : Nat} {sa : Option Addr} {sc : Nat} {wr wr' : World} (h : SmI w gk gm N0 n N f na nc sa sc wr) (hb : Below wr.heap.size wr wr') : SmI w gk gm N0 n N f na nc sa sc wr' :=
  ⟨h.bk.keep hb, own_below h.nm hb, own_below h.sy hb, h.rel, h.bl.trans (hb.mono h.bl.size), Nat.le_trans h.sz hb.size, h.l32, h.ok⟩
theorem SmI.okf {w : World} {gk gm N0 n : Nat} {N : List Ent} {f : Int → Option Sy} {na : Option Addr} {nc : Nat} {sa : Option Addr} {sc : Nat} {wr : World} (h : SmI w gk gm N0 n N f na nc sa sc wr) : ∀ x s, f x = some s → s.Ok := fun x s hx => by
  obtain ⟨j, h1, h2⟩ := h.rel.all x s hx
  have := h.rel.has j h1
  rw [h2, hx] at this
  injection this with this
  rw [this]
  exact h.ok j h1
/-- the rows stand when the book's map alone has turned -/
theorem SmI.rows {w : World} {gk gm N0 n : Nat} {N : List Ent} {f : Int → Option Sy} {na : Option Addr} {nc : Nat} {sa : Option Addr} {sc : Nat} {wr wr' : World} (h : SmI w gk gm N0 n N f na nc sa sc wr) (hk : Keeps gm wr wr') (hm : gm < N0) (hw : w.heap.size ≤ gm) :
    wr'.ownsRow N0 23 1 (.slice na N.length nc) N.length (nmV N) ∧ wr'.ownsRow N0 25 3 (.slice sa N.length sc) N.length (syV N) ∧ Below w.heap.size w wr' ∧ N0 ≤ wr'.heap.size :=
  ⟨own_one h.nm (fun q hq => hk.block q (h.nm.lt q hq).2 (fun e => by have := (h.nm.lt q hq).1; omega)), own_one h.sy (fun q hq => hk.block q (h.sy.lt q hq).2 (fun e => by have := (h.sy.lt q hq).1; omega)), Below.keeps h.bl h.bl.size hw hk, Nat.le_trans h.sz hk.size⟩
/-! ### The ops -/
structure OpR where
  kd : Int
  a : Int
  b : Int
  s : Sy
  m : Int
instance : Inhabited OpR := ⟨⟨0, 0, 0, ⟨0, 0, 0⟩, 0⟩⟩
structure OpOk (o : OpR) : Prop where
  kd : 0 ≤ o.kd ∧ o.kd ≤ 255
  a : (Lit.int .u32 o.a).wf = true
  b : (Lit.int .u32 o.b).wf = true
  s : o.s.Ok
  m : 0 ≤ o.m ∧ o.m ≤ 4294967295
theorem ops_of {w : World} {v : Value} (h : Reads Try.prog w 6 31 v) : ∃ ad len cap b off, ∃ O : Nat → OpR, v = .slice ad len cap ∧ len ≤ cap ∧ cap ≤ 9223372036854775807 ∧ (0 < cap → ad = some ⟨b, off, none⟩ ∧ b < w.heap.size) ∧
    ∀ i, i < cap → OpOk (O i) ∧ w.cell? ⟨b, off + i * 7, none⟩ = some (.int .u8 (O i).kd) ∧ w.cell? ⟨b, off + i * 7 + 1, none⟩ = some (.int .u32 (O i).a) ∧ w.cell? ⟨b, off + i * 7 + 2, none⟩ = some (.int .u32 (O i).b) ∧ w.cell? ⟨b, off + i * 7 + 3, none⟩ = some (.int .u64 (O i).s.T) ∧ w.cell? ⟨b, off + i * 7 + 4, none⟩ = some (.int .u32 (O i).s.S) ∧ w.cell? ⟨b, off + i * 7 + 5, none⟩ = some (.int .u32 (O i).s.R) ∧ w.cell? ⟨b, off + i * 7 + 6, none⟩ = some (.int .u32 (O i).m) := by
  obtain ⟨a, len, cap, b, off, V, rfl, row⟩ := reads_slice Try.underlying31 (ts := [5, 23, 23, 22, 23, 23, 23]) (by kernel_rfl) (by kernel_rfl) (by decide) h
  have hx : ∀ i, i < cap → ∃ o : OpR, (V i 0 = .int .u8 o.kd ∧ V i 1 = .int .u32 o.a ∧ V i 2 = .int .u32 o.b ∧ V i 3 = .int .u64 o.s.T ∧ V i 4 = .int .u32 o.s.S ∧ V i 5 = .int .u32 o.s.R ∧ V i 6 = .int .u32 o.m) ∧ OpOk o := fun i hi => by
    obtain ⟨x0, e0, w0⟩ := reads_int Try.underlying5 (row.read i hi 0 _ rfl)
    obtain ⟨x1, e1, w1⟩ := reads_int Try.underlying23 (row.read i hi 1 _ rfl)
    obtain ⟨x2, e2, w2⟩ := reads_int Try.underlying23 (row.read i hi 2 _ rfl)
    obtain ⟨x3, e3, w3⟩ := reads_int Try.underlying22 (row.read i hi 3 _ rfl)
    obtain ⟨x4, e4, w4⟩ := reads_int Try.underlying23 (row.read i hi 4 _ rfl)
    obtain ⟨x5, e5, w5⟩ := reads_int Try.underlying23 (row.read i hi 5 _ rfl)
    obtain ⟨x6, e6, w6⟩ := reads_int Try.underlying23 (row.read i hi 6 _ rfl)
    exact ⟨⟨x0, x1, x2, ⟨x3, x4, x5⟩, x6⟩, ⟨e0, e1, e2, e3, e4, e5, e6⟩, bounds_u8 w0, w1, w2, ⟨bounds_u64 w3, bounds_u32 w4, bounds_u32 w5⟩, bounds_u32 w6⟩
  obtain ⟨O, hO⟩ := Deep.choose_lt (n := cap) (α := OpR) (p := fun i o => (V i 0 = .int .u8 o.kd ∧ V i 1 = .int .u32 o.a ∧ V i 2 = .int .u32 o.b ∧ V i 3 = .int .u64 o.s.T ∧ V i 4 = .int .u32 o.s.S ∧ V i 5 = .int .u32 o.s.R ∧ V i 6 = .int .u32 o.m) ∧ OpOk o) hx
  have hm := row.max
  unfold maxLen at hm
  refine ⟨a, len, cap, b, off, O, rfl, row.le, by omega, row.addr, fun i hi => ?_⟩
  obtain ⟨⟨e0, e1, e2, e3, e4, e5, e6⟩, ok⟩ := hO i hi
  refine ⟨ok, ?_, ?_, ?_, ?_, ?_, ?_, ?_⟩
  · have := row.cell i hi 0 (by decide); rw [e0] at this; simpa using this
  · have := row.cell i hi 1 (by decide); rw [e1] at this; simpa [Nat.add_assoc] using this
  · have := row.cell i hi 2 (by decide); rw [e2] at this; simpa [Nat.add_assoc] using this
  · have := row.cell i hi 3 (by decide); rw [e3] at this; simpa [Nat.add_assoc] using this
  · have := row.cell i hi 4 (by decide); rw [e4] at this; simpa [Nat.add_assoc] using this
  · have := row.cell i hi 5 (by decide); rw [e5] at this; simpa [Nat.add_assoc] using this
  · have := row.cell i hi 6 (by decide); rw [e6] at this; simpa [Nat.add_assoc] using this
/-- an op in its box -/
def opC (o : OpR) : Array Value := #[.int .u8 o.kd, .int .u32 o.a, .int .u32 o.b, .int .u64 o.s.T, .int .u32 o.s.S, .int .u32 o.s.R, .int .u32 o.m]
end Go.Proofs.Ytkdjkaimcciemaa
