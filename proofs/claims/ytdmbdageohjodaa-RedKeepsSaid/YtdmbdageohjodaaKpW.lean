/-
  Chapter 36: one payload into both keepers.
-/
import Derived.Test.YtdmbdageohjodaaKpR
namespace Go.Proofs.Ytdmbdageohjodaa
open Go.RowKit
set_option linter.unusedVariables false
set_option linter.unusedSimpArgs false
attribute [local irreducible] wpStill wpQuiet
attribute [local go_sem] MixC.rdOp MixC.rd MixC.rdUpon MixC.mvUpon

/-- payloads that came in -/
def Kep.put (b : Kep) : Nat → Value
  | 0 => .int .u32 b.s
  | 1 => .int .u8 b.t
  | _ => .slice b.a b.n b.c
structure PutOk (B : Nat) (w : World) (b : Kep) : Prop where
  t0 : 0 ≤ b.t
  t1 : b.t ≤ 255
  s0 : 0 ≤ b.s
  s1 : b.s ≤ 4294967295
  z : BS B w b.a b.n b.c b.Z
structure Puts (B : Nat) (w : World) (ad : Option Addr) (len cap : Nat) (Q : Nat → Kep) : Prop where
  le : len ≤ cap
  max : cap ≤ 9223372036854775807
  ok : ∀ i, i < len → PutOk B w (Q i)
  mem : ∃ b off, (0 < cap → ad = some ⟨b, off, none⟩ ∧ b < B) ∧ ∀ i, i < len → ∀ j, j < 3 → w.cell? ⟨b, off + i * 3 + j, none⟩ = some ((Q i).put j)
theorem puts_of {w : World} {v : Value} (h : Reads Try.prog w 6 93 v) : ∃ a len cap Q, v = .slice a len cap ∧ Puts w.heap.size w a len cap Q := by
  obtain ⟨a, len, cap, b, off, V, rfl, row⟩ := reads_slice Try.underlying93 (ts := [44, 5, 56]) (by kernel_rfl) (by kernel_rfl) (by decide) h
  have hx : ∀ i, i < cap → ∃ o : Kep, (∀ j, j < 3 → V i j = o.put j) ∧ PutOk w.heap.size w o := fun i hi => by
    obtain ⟨s, e0, w0⟩ := reads_int Try.underlying44 (row.read i hi 0 _ rfl)
    obtain ⟨t, e1, w1⟩ := reads_int Try.underlying5 (row.read i hi 1 _ rfl)
    obtain ⟨a, n, c, Z, e2, hZ⟩ := bs_of36b (row.read i hi 2 _ rfl)
    have b1 := bounds_u8 w1
    have b0 := bounds_u32 w0
    refine ⟨⟨s, t, a, n, c, Z⟩, fun j hj => ?_, b1.1, b1.2, b0.1, b0.2, hZ⟩
    match j, hj with
    | 0, _ => exact e0
    | 1, _ => exact e1
    | 2, _ => exact e2
  obtain ⟨Q, hQ⟩ := Deep.choose_lt (n := cap) (α := Kep) (p := fun i o => (∀ j, j < 3 → V i j = o.put j) ∧ PutOk w.heap.size w o) hx
  have hm := row.max
  unfold maxLen at hm
  have hle := row.le
  refine ⟨a, len, cap, Q, rfl, hle, by omega, fun i hi => (hQ i (by omega)).2, b, off, row.addr, fun i hi j hj => ?_⟩
  have := row.cell i (by omega) j (by show j < 3; exact hj)
  rw [(hQ i (by omega)).1 j hj] at this
  rw [← this, show ([44, 5, 56] : List TypeId).length = 3 from rfl, Nat.add_assoc]
theorem U4.of_row {w : World} {a : Option Addr} {len cap : Nat} {zs : List Int} (r : IsRow .u32 w a len cap zs) : ∃ Z, U4 w.heap.size w a len cap Z := by
  obtain ⟨b, off, Z, h1, h2, h3, h4, h5⟩ := row_open r
  exact ⟨Z, h2, h3, fun i hi => h5 i (by omega), b, off, h1, fun i hi => h4 i (by omega)⟩
/-- both keepers, m payloads behind -/
structure JKp (m d : Nat) (dep : Int) (base gk gr : Nat) (wr : World) : Prop where
  st : ∃ E F v vs vt vd, KSt E m d base gk v wr ∧ RKp F m dep base gr vs vt vd wr ∧ (∀ i, m - min m d ≤ i → i < m → SameK (E i) (F i)) ∧ (∀ i, m - min m d ≤ i → i < m → Apart vt (.slice (E i).a (E i).n (E i).c))
  d : d = clampN dep
  hb : base ≤ wr.heap.size
theorem JKp.keep {m d : Nat} {dep : Int} {base gk gr : Nat} {wr w' : World} (h : JKp m d dep base gk gr wr) (hb : Below wr.heap.size wr w') : JKp m d dep base gk gr w' := by
  obtain ⟨⟨E, F, v, vs, vt, vd, h1, h2, h3, h4⟩, h5, h6⟩ := h
  exact ⟨⟨E, F, v, vs, vt, vd, h1.keep hb, h2.keep hb, h3, h4⟩, h5, Nat.le_trans h6 hb.size⟩
theorem putQ_eqv {E F : Nat → Kep} {m d : Nat} {st : Int} {b : Blk} (h : ∀ i, m - min m d ≤ i → i < m → SameK (E i) (F i)) : EqvL (putQ E m d st b) (putQ F m d st b) := by
  unfold putQ
  exact (selQ_eqv _ fun i hi => h _ (by omega) (by omega)).snoc ⟨rfl, rfl, rfl, fun _ _ => rfl⟩
theorem wok_eqv {E F : Nat → Kep} {m d : Nat} {st : Int} {b : Blk} (h : ∀ i, m - min m d ≤ i → i < m → SameK (E i) (F i)) :
    (putQ F m d st b).length = (putQ E m d st b).length ∧ wrL (fun i => (putQ F m d st b).getD i default) (putQ F m d st b).length = wrL (fun i => (putQ E m d st b).getD i default) (putQ E m d st b).length ∧
    (wok (fun i => (putQ E m d st b).getD i default) (putQ E m d st b).length ↔ wok (fun i => (putQ F m d st b).getD i default) (putQ F m d st b).length) := by
  obtain ⟨h1, h2⟩ := putQ_eqv (st := st) (b := b) h
  have h0 : 0 < (putQ E m d st b).length := by unfold putQ; simp
  obtain ⟨h3, h4⟩ := wrL_congr (Q := fun i => (putQ E m d st b).getD i default) (Q' := fun i => (putQ F m d st b).getD i default) h0 h2
  rw [← h1]
  exact ⟨rfl, h3.symm, h4⟩
/-- a block of another type stays where a Put writes -/
theorem RKp.frame {E : Nat → Kep} {m : Nat} {dep : Int} {base gr gk : Nat} {vs vt vd v : Value} {w w' : World} (h : RKp E m dep base gr vs vt vd w) {cs : Array Value} (hk : w.heap[gk]? = some (.cells cs 154 (0, 0))) (hv : OfT 156 v.ownBlock w)
    (hf : ∀ q, q < w.heap.size → q ≠ gk → v.ownBlock ≠ some q → w'.heap[q]? = w.heap[q]?) : RKp E m dep base gr vs vt vd w' := by
  have key : ∀ (q : Nat) (cs' : Array Value) (e : TypeId) (mm : Nat × Nat), w.heap[q]? = some (.cells cs' e mm) → e ≠ 154 → e ≠ 156 → w'.heap[q]? = w.heap[q]? := fun q cs' e mm hq n1 n2 => by
    refine hf q (lt_of_block hq) (fun e' => ?_) (fun e' => ?_)
    · subst e'; rw [hk] at hq; injection hq with hq; injection hq with _ hq; exact n1 hq.symm
    · obtain ⟨c2, m2, h2⟩ := hv q e'; rw [h2] at hq; injection hq with hq; injection hq with _ hq; exact n2 hq.symm
  have row : ∀ {b1 : Nat} {e1 : TypeId} {s1 n1 : Nat} {v1 : Value} {xs1 : List Value}, w.ownsRow b1 e1 s1 v1 n1 xs1 → e1 ≠ 154 → e1 ≠ 156 → w'.ownsRow b1 e1 s1 v1 n1 xs1 := fun ho n1 n2 => own_blk1y ho (fun q hq => by
    obtain ⟨cs', mm', h2⟩ := own_block ho q hq
    exact key q _ _ _ h2 n1 n2)
  exact ⟨by rw [key gr _ _ _ h.blk (by decide) (by decide)]; exact h.blk, row h.rs (by decide) (by decide), row h.rt (by decide) (by decide), row h.rd (by decide) (by decide), h.gb, fun i hi => ⟨row (h.dat i hi).1 (by decide) (by decide), (h.dat i hi).2⟩, h.wf⟩
theorem KSt.frame {E : Nat → Kep} {m d base gk gr : Nat} {v vs vt vd : Value} {w w' : World} (h : KSt E m d base gk v w) {cs : Array Value} (hr : w.heap[gr]? = some (.cells cs 100 (0, 0))) (h1 : OfT 44 vs.ownBlock w) (h2 : OfT 5 vt.ownBlock w) (h3 : OfT 56 vd.ownBlock w)
    (ap : ∀ i, m - min m d ≤ i → i < m → Apart vt (.slice (E i).a (E i).n (E i).c))
    (hf : ∀ q, q < w.heap.size → q ≠ gr → vs.ownBlock ≠ some q → vt.ownBlock ≠ some q → vd.ownBlock ≠ some q → w'.heap[q]? = w.heap[q]?) : KSt E m d base gk v w' := by
  have no : ∀ {T : TypeId} {r : Option Nat} {q : Nat} {cs' : Array Value} {e : TypeId} {mm : Nat × Nat}, OfT T r w → w.heap[q]? = some (.cells cs' e mm) → e ≠ T → r ≠ some q := fun hT hq hne e' => by
    obtain ⟨c2, m2, h2⟩ := hT _ e'; rw [h2] at hq; injection hq with hq; injection hq with _ hq; exact hne hq.symm
  have ng : ∀ {q : Nat} {cs' : Array Value} {e : TypeId} {mm : Nat × Nat}, w.heap[q]? = some (.cells cs' e mm) → e ≠ 100 → q ≠ gr := fun hq hne e' => by
    subst e'; rw [hr] at hq; injection hq with hq; injection hq with _ hq; exact hne hq.symm
  have key : ∀ (q : Nat) (cs' : Array Value) (e : TypeId) (mm : Nat × Nat), w.heap[q]? = some (.cells cs' e mm) → e ≠ 100 → e ≠ 44 → e ≠ 56 → vt.ownBlock ≠ some q → w'.heap[q]? = w.heap[q]? := fun q cs' e mm hq n1 n2 n3 n4 =>
    hf q (lt_of_block hq) (ng hq n1) (no h1 hq n2) n4 (no h3 hq n3)
  refine ⟨by rw [key gk _ _ _ h.blk (by decide) (by decide) (by decide) (no h2 h.blk (by decide))]; exact h.blk, own_blk1y h.row (fun q hq => ?_), h.ng, h.gb, fun i a b => ⟨own_blk1y (h.dat i a b).1 (fun q hq => ?_), (h.dat i a b).2⟩, h.wf⟩
  · obtain ⟨cs', mm', hx⟩ := own_block h.row q hq
    exact key q _ _ _ hx (by decide) (by decide) (by decide) (no h2 hx (by decide))
  · obtain ⟨cs', mm', hx⟩ := own_block (h.dat i a b).1 q hq
    exact key q _ _ _ hx (by decide) (by decide) (by decide) (fun e => ap i a b q e hq)
def Bad1 (e : Ending) : Prop := e = .returned (.tuple #[.slice none 0 0, .int .i64 1])
def Bad2 (e : Ending) : Prop := e = .returned (.tuple #[.slice none 0 0, .bool false])
def Good1 (L : List Int) (base : Nat) (e : Ending) (w' : World) : Prop := ∃ a5 N c5, e = .returned (.tuple #[.slice a5 N c5, .int .i64 0]) ∧ N = L.length ∧ w'.ownsRow base 5 1 (.slice a5 N c5) N (u8s L)
def Good2 (L : List Int) (base : Nat) (e : Ending) (w' : World) : Prop := ∃ a5 N c5, e = .returned (.tuple #[.slice a5 N c5, .bool true]) ∧ N = L.length ∧ w'.ownsRow base 5 1 (.slice a5 N c5) N (u8s L)
/-- what lies from H on stays -/
def KeepUp (H : Nat) (W w2 : World) : Prop := ∀ q, H ≤ q → q < W.heap.size → w2.heap[q]? = W.heap[q]?
theorem puts_pair (m d : Nat) (dep : Int) (base gk gr : Nat) (st t : Int) (a : Option Addr) (n c : Nat) (Z : Nat → Int) (w : World) (hJ : JKp m d dep base gk gr w) (hb : BS base w a n c Z) (hm : m ≤ 90) (hn : n ≤ 1500) (t0 : 0 ≤ t) (s0 : 0 ≤ st) (s1 : st ≤ 4294967295) :
    (Calls Try.prog 52 #[.pointer (some ⟨gk, 0, none⟩), .int .u32 st, .int .u8 t, .slice a n c] w fun e w1 => Bad1 e ∧ Below base w w1 ∧
      ∀ W, Below w1.heap.size w1 W → Calls Try.prog 53 #[.pointer (some ⟨gr, 0, none⟩), .int .u32 st, .int .u8 t, .slice a n c] W fun e w2 => Bad2 e ∧ Below base W w2 ∧ KeepUp w.heap.size W w2 ∧ ∃ m', m' ≤ m + 1 ∧ JKp m' d dep base gk gr w2) ∨
    (∃ QQ len, wok QQ len ∧ (∀ i, i < len → BlkOk w.heap.size w (QQ i)) ∧ (QQ (len - 1)).n = n ∧ Calls Try.prog 52 #[.pointer (some ⟨gk, 0, none⟩), .int .u32 st, .int .u8 t, .slice a n c] w fun e w1 => Good1 (wrL QQ len) w.heap.size e w1 ∧ Below base w w1 ∧
      ∀ W, Below w1.heap.size w1 W → Calls Try.prog 53 #[.pointer (some ⟨gr, 0, none⟩), .int .u32 st, .int .u8 t, .slice a n c] W fun e w2 => Good2 (wrL QQ len) W.heap.size e w2 ∧ Below base W w2 ∧ KeepUp w.heap.size W w2 ∧ JKp (m + 1) d dep base gk gr w2) := by
  by_cases ht : 128 ≤ t
  · left
    refine (put36_bad gk st t a n c w ht).mono ?_
    rintro e w' ⟨rfl, rfl⟩
    refine ⟨rfl, Below.refl _ _, fun W hW => (rput36_bad gr st t a n c W ht).mono ?_⟩
    rintro e w' ⟨rfl, rfl⟩
    exact ⟨rfl, Below.refl _ _, fun _ _ _ => rfl, m, by omega, hJ.keep hW⟩
  · obtain ⟨⟨E, F, v, vs, vt, vd, hK, hR, hS, hA⟩, hd, hbs⟩ := hJ
    have hd8 : d ≤ 8 := by rw [hd]; exact clampN_le _
    obtain ⟨q1, q2, q3⟩ := wok_eqv (st := st) (b := ⟨t, 0, a, n, c, Z⟩) hS
    rw [q1] at q2 q3
    have hP := put36_any E m d base gk v st t base a n c Z w hK hb hbs hd8 (by omega) hn t0 (by omega) s0 s1 (Nat.le_refl _)
    have lt1 : ∀ g, v.ownBlock = some g → base ≤ g := fun g hg => (hK.row.lt g hg).1
    -- behind the first Put
    have hB1 : ∀ w1 : World, (w1.os = w.os ∧ w1.tape = w.tape ∧ w1.output = w.output ∧ w.heap.size ≤ w1.heap.size ∧ ∀ q, q < w.heap.size → q ≠ gk → v.ownBlock ≠ some q → w1.heap[q]? = w.heap[q]?) → Below base w w1 := fun w1 ⟨f1, f2, f3, f4, f5⟩ =>
      ⟨f1, f2, f3, f4, fun q hq => f5 q (by omega) (by have := hK.gb; omega) (fun e => by have := lt1 q e; omega)⟩
    have second : ∀ (w1 : World) (v9 : Value) (a1 : Option Addr) (c1 : Nat), KSt (addE E m ⟨st, t, a1, n, c1, Z⟩) (m + 1) d base gk v9 w1 → (∀ g, (Value.slice a1 n c1).ownBlock = some g → w.heap.size ≤ g) →
        (w1.os = w.os ∧ w1.tape = w.tape ∧ w1.output = w.output ∧ w.heap.size ≤ w1.heap.size ∧ ∀ q, q < w.heap.size → q ≠ gk → v.ownBlock ≠ some q → w1.heap[q]? = w.heap[q]?) →
        ∀ W, Below w1.heap.size w1 W → Calls Try.prog 53 #[.pointer (some ⟨gr, 0, none⟩), .int .u32 st, .int .u8 t, .slice a n c] W fun e w2 =>
          ((wok (fun i => (putQ E m d st ⟨t, 0, a, n, c, Z⟩).getD i default) (putQ E m d st ⟨t, 0, a, n, c, Z⟩).length ∧ Good2 (wrL (fun i => (putQ E m d st ⟨t, 0, a, n, c, Z⟩).getD i default) (putQ E m d st ⟨t, 0, a, n, c, Z⟩).length) W.heap.size e w2) ∨
           (¬ wok (fun i => (putQ E m d st ⟨t, 0, a, n, c, Z⟩).getD i default) (putQ E m d st ⟨t, 0, a, n, c, Z⟩).length ∧ Bad2 e)) ∧ Below base W w2 ∧ KeepUp w.heap.size W w2 ∧ JKp (m + 1) d dep base gk gr w2 := by
      intro w1 v9 a1 c1 hK9 hnew hf W hW
      have hb1 := hB1 w1 hf
      have hR1 := (hR.frame hK.blk (own_block hK.row) hf.2.2.2.2).keep hW
      have hbW : base ≤ w1.heap.size := Nat.le_trans hbs hf.2.2.2.1
      have bW : Below base w W := hb1.trans (hW.mono hbW)
      refine (rput36_any F m dep base gr vs vt vd st t base a n c Z W hR1 (hb.keep bW) (Nat.le_refl _) (by omega) hn t0 (by omega) s0 s1 (Nat.le_trans hbW hW.size)).mono ?_
      rintro e w2 ⟨⟨vs', vt', vd', a2, c2, hR2, hap⟩, hres, g1, g2, g3, g4, g5⟩
      have hKW := hK9.keep hW
      have ap9 : ∀ i, m + 1 - min (m + 1) d ≤ i → i < m + 1 → Apart vt (.slice (addE E m ⟨st, t, a1, n, c1, Z⟩ i).a (addE E m ⟨st, t, a1, n, c1, Z⟩ i).n (addE E m ⟨st, t, a1, n, c1, Z⟩ i).c) := fun i h1 h2 => by
        by_cases e : i = m
        · subst e
          have ee : addE E i ⟨st, t, a1, n, c1, Z⟩ i = ⟨st, t, a1, n, c1, Z⟩ := by unfold addE; rw [if_pos rfl]
          rw [ee]
          exact fun g x1 x2 => by have := hnew g x2; have := (hR.rt.lt g x1).2; omega
        · have ee : addE E m ⟨st, t, a1, n, c1, Z⟩ i = E i := by unfold addE; rw [if_neg e]
          rw [ee]
          exact hA i (by omega) (by omega)
      have hK2 := hKW.frame hR1.blk (own_block hR1.rs) (own_block hR1.rt) (own_block hR1.rd) ap9 g5
      rw [← hd, q1, q2] at hres
      refine ⟨?_, ⟨g1, g2, g3, g4, fun q hq => g5 q (by have := hW.size; omega) (by have := hR.gb; omega) (fun e => by have := (hR.rs.lt q e).1; omega) (fun e => by have := (hR.rt.lt q e).1; omega) (fun e => by have := (hR.rd.lt q e).1; omega)⟩, (fun q h1 h2 => g5 q h2 (by have := lt_of_block hR.blk; omega) (fun e => by have := (hR.rs.lt q e).2; omega) (fun e => by have := (hR.rt.lt q e).2; omega) (fun e => by have := (hR.rd.lt q e).2; omega)), ⟨_, _, _, _, _, _, hK2, hR2, fun i h1 h2 => ?_, fun i h1 h2 => ?_⟩, hd, by have := hW.size; omega⟩
      · rcases hres with ⟨x1, x2⟩ | ⟨x1, x2⟩
        · exact .inl ⟨q3.2 x1, x2⟩
        · exact .inr ⟨fun h => x1 (q3.1 h), x2⟩
      · by_cases e : i = m
        · subst e
          have e1 : addE E i ⟨st, t, a1, n, c1, Z⟩ i = ⟨st, t, a1, n, c1, Z⟩ := by unfold addE; rw [if_pos rfl]
          have e2 : addE F i ⟨st, t, a2, n, c2, Z⟩ i = ⟨st, t, a2, n, c2, Z⟩ := by unfold addE; rw [if_pos rfl]
          rw [e1, e2]
          exact ⟨rfl, rfl, rfl, fun _ _ => rfl⟩
        · have e1 : addE E m ⟨st, t, a1, n, c1, Z⟩ i = E i := by unfold addE; rw [if_neg e]
          have e2 : addE F m ⟨st, t, a2, n, c2, Z⟩ i = F i := by unfold addE; rw [if_neg e]
          rw [e1, e2]
          exact hS i (by omega) (by omega)
      · intro g x1 x2
        rcases hap g x1 with x3 | x3
        · exact ap9 i h1 h2 g x3 x2
        · have := ((hK9.dat i h1 h2).1.lt g x2).2
          have := hW.size
          omega
    by_cases hw : wok (fun i => (putQ E m d st ⟨t, 0, a, n, c, Z⟩).getD i default) (putQ E m d st ⟨t, 0, a, n, c, Z⟩).length
    · right
      refine ⟨_, _, hw, fun i hi => ?_, ?_, hP.mono ?_⟩
      · have hok := putQ_ok (m := m) (d := d) (st := st) (E := E) (W := w) (base := base) (fun i h1 h2 => (hK.dat i h1 h2).1) hK.wf hb hbs t0 (by omega) hn
        simp only [List.getD, List.getElem?_eq_getElem hi, Option.getD_some]
        exact (hok _ (List.getElem_mem hi)).1
      · unfold putQ
        simp [List.getD]
      · rintro e w1 ⟨⟨v9, a1, c1, hK9, _, hnew⟩, hres, hf⟩
        refine ⟨?_, hB1 w1 hf, fun W hW => (second w1 v9 a1 c1 hK9 hnew hf W hW).mono ?_⟩
        · rcases hres with ⟨_, h⟩ | ⟨h, _⟩
          · exact h
          · exact absurd hw h
        · rintro e2 w2 ⟨h | ⟨h, _⟩, x, y⟩
          · exact ⟨h.2, x, y⟩
          · exact absurd hw h
    · left
      refine hP.mono ?_
      rintro e w1 ⟨⟨v9, a1, c1, hK9, _, hnew⟩, hres, hf⟩
      refine ⟨?_, hB1 w1 hf, fun W hW => (second w1 v9 a1 c1 hK9 hnew hf W hW).mono ?_⟩
      · rcases hres with ⟨h, _⟩ | ⟨_, h⟩
        · exact absurd h hw
        · exact h
      · rintro e2 w2 ⟨h | ⟨_, h⟩, x, y⟩
        · exact absurd h.1 hw
        · exact ⟨h, x, y.1, m + 1, Nat.le_refl _, y.2⟩
theorem hasZ_zero (Z : Nat → Int) (x : Int) : hasZ Z 0 x = false := by simp [hasZ]
theorem hasZ_succ (Z : Nat → Int) (n : Nat) (x : Int) : hasZ Z (n + 1) x = (hasZ Z n x || decide (Z n = x)) := by
  unfold hasZ
  rw [Bool.eq_iff_iff]
  simp only [Bool.or_eq_true, decide_eq_true_eq]
  constructor
  · rintro ⟨i, h1, h2⟩
    rcases Nat.lt_or_ge i n with h | h
    · exact .inl ⟨i, h, h2⟩
    · have : i = n := by omega
      subst this; exact .inr h2
  · rintro (⟨i, h1, h2⟩ | h)
    · exact ⟨i, by omega, h2⟩
    · exact ⟨n, by omega, h⟩
theorem frL_get (Q : Nat → Blk) (Z : Nat → Int) (n : Nat) (st : Int) (x : Nat) (hx : seenB Z n st (Q x).h = false) : ∀ k, x < k → (frL Q Z n st k)[(frL Q Z n st x).length]? = some x := by
  intro k
  induction k with
  | zero => intro h; omega
  | succ k ih =>
    intro h
    rw [frL_succ]
    by_cases e : x = k
    · subst e
      rw [hx, if_neg (by decide)]
      simp
    · have h1 := ih (by omega)
      split
      · exact h1
      · rw [List.getElem?_append_left (List.getElem?_eq_some_iff.1 h1).1]; exact h1
theorem i64s_get {L : List Nat} {i x : Nat} (h : L[i]? = some x) : (i64s L)[i]? = some (.int .i64 (x : Int)) := by
  unfold i64s
  rw [List.getElem?_map, h]; rfl
end Go.Proofs.Ytdmbdageohjodaa
