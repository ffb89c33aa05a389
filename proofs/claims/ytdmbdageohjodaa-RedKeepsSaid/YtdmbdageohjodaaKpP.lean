/-
  Chapter 36: Put.
-/
import Derived.Test.YtdmbdageohjodaaKpD
import Derived.Test.YtdmbdageohjodaaApp
import Derived.Deep.DeepCutAuto
import Derived.IntWalk
namespace Go.Proofs.Ytdmbdageohjodaa
open Go.RowKit
set_option linter.unusedVariables false
set_option linter.unusedSimpArgs false
attribute [local irreducible] wpStill wpQuiet
attribute [local go_sem] MixC.rdOp MixC.rd MixC.rdUpon MixC.mvUpon

/-- a keeper: m payloads were put; the last ones lie in its row, their bytes in blocks of their own -/
structure KSt (E : Nat → Kep) (m d : Nat) (base gk : Nat) (v : Value) (wr : World) : Prop where
  blk : wr.heap[gk]? = some (.cells #[.int .i64 d, v] 154 (0, 0))
  row : wr.ownsRow base 156 3 v (min m d) (kcells E (m - min m d) (min m d))
  ng : v.ownBlock ≠ some gk
  gb : base ≤ gk
  dat : ∀ i, m - min m d ≤ i → i < m → wr.ownsRow base 5 1 (.slice (E i).a (E i).n (E i).c) (E i).n (bytesOf (E i).Z (E i).n) ∧ (∀ k, (Value.slice (E i).a (E i).n (E i).c).ownBlock = some k → v.ownBlock ≠ some k ∧ k ≠ gk)
  wf : ∀ i, m - min m d ≤ i → i < m → (0 ≤ (E i).t ∧ (E i).t ≤ 127) ∧ (0 ≤ (E i).s ∧ (E i).s ≤ 4294967295) ∧ (E i).n ≤ 1500 ∧ ∀ x, x < (E i).n → 0 ≤ (E i).Z x ∧ (E i).Z x ≤ 255
theorem KSt.keep {E : Nat → Kep} {m d base gk : Nat} {v : Value} {wr w' : World} (h : KSt E m d base gk v wr) (hb : Below wr.heap.size wr w') : KSt E m d base gk v w' :=
  ⟨Below.blk hb h.blk (lt_of_block h.blk), own_below h.row hb, h.ng, h.gb, fun i h1 h2 => ⟨own_below (h.dat i h1 h2).1 hb, (h.dat i h1 h2).2⟩, h.wf⟩
theorem kcells_cons (E : Nat → Kep) (lo n : Nat) : kcells E lo (n + 1) = [.int .u32 (E lo).s, .int .u8 (E lo).t, .slice (E lo).a (E lo).n (E lo).c] ++ kcells E (lo + 1) n := by
  induction n with
  | zero => simp [kcells]
  | succ n ih =>
    rw [kcells_succ, ih, kcells_succ E (lo + 1) n, List.append_assoc, show lo + (n + 1) = lo + 1 + n by omega]
theorem kcells_congr {E F : Nat → Kep} {lo n : Nat} (h : ∀ i, i < n → E (lo + i) = F (lo + i)) : kcells E lo n = kcells F lo n := by
  induction n with
  | zero => rfl
  | succ n ih => rw [kcells_succ, kcells_succ, ih fun i hi => h i (by omega), h n (by omega)]
/-- one payload more -/
def addE (E : Nat → Kep) (m : Nat) (k : Kep) : Nat → Kep := fun i => if i = m then k else E i
theorem kcells_add (E : Nat → Kep) (lo n m : Nat) (k : Kep) (h : lo + n = m) : kcells (addE E m k) lo (n + 1) = kcells E lo n ++ [.int .u32 k.s, .int .u8 k.t, .slice k.a k.n k.c] := by
  have e : addE E m k (lo + n) = k := by unfold addE; rw [if_pos h]
  rw [kcells_succ, e, kcells_congr (F := E) (fun i hi => by unfold addE; rw [if_neg (by omega)])]
theorem kcells_one (E : Nat → Kep) (lo n : Nat) : ∀ u ∈ kcells E lo n, u.oneCell' = true := fun u hu => by
  simp only [kcells, List.mem_flatMap, List.mem_range] at hu
  obtain ⟨i, _, hi⟩ := hu
  simp only [List.mem_cons, List.not_mem_nil, or_false] at hi
  rcases hi with rfl | rfl | rfl <;> rfl
theorem own_blk1y {w w' : World} {base : Nat} {e : TypeId} {size : Nat} {v : Value} {n : Nat} {xs : List Value} (h : w.ownsRow base e size v n xs) (hb : ∀ k, v.ownBlock = some k → w'.heap[k]? = w.heap[k]?) : w'.ownsRow base e size v n xs := by
  obtain ⟨h1, h2⟩ := h
  refine ⟨h1, ?_⟩
  rcases h2 with h2 | ⟨g, cap, cur, hv, hg, hh, r'⟩
  · exact .inl h2
  · exact .inr ⟨g, cap, cur, hv, hg, by rw [hb g (by rw [hv]; rfl)]; exact hh, r'⟩
structure PLp (E : Nat → Kep) (st : Int) (lo j : Nat) (w : World) (v : Value) (wr : World) : Prop where
  bl : Below w.heap.size w wr
  row : wr.ownsRow w.heap.size 110 3 v (selQ E st lo j).length (bcL (selQ E st lo j))
theorem own_types {w : World} {b1 b2 : Nat} {e1 e2 : TypeId} {s1 s2 n1 n2 : Nat} {v1 v2 : Value} {xs1 xs2 : List Value} (h1 : w.ownsRow b1 e1 s1 v1 n1 xs1) (h2 : w.ownsRow b2 e2 s2 v2 n2 xs2) (hne : e1 ≠ e2) : Apart v1 v2 := fun g g1 g2 => by
  rcases h1.2 with ⟨hv, _⟩ | ⟨x, _, _, hv, _, hx, _⟩
  · rw [hv] at g1; cases g1
  · rcases h2.2 with ⟨hv', _⟩ | ⟨y, _, _, hv', _, hy, _⟩
    · rw [hv'] at g2; cases g2
    · rw [hv] at g1; rw [hv'] at g2; cases g1; cases g2
      rw [hx] at hy
      injection hy with hy
      injection hy with _ e
      exact hne e
theorem own_block {w : World} {b1 : Nat} {e1 : TypeId} {s1 n1 : Nat} {v1 : Value} {xs1 : List Value} (h1 : w.ownsRow b1 e1 s1 v1 n1 xs1) : ∀ g, v1.ownBlock = some g → ∃ cs mm, w.heap[g]? = some (.cells cs e1 mm) := fun g hg => by
  rcases h1.2 with ⟨hv, _⟩ | ⟨x, _, cs, hv, _, hx, _⟩
  · rw [hv] at hg; cases hg
  · rw [hv] at hg; cases hg; exact ⟨_, _, hx⟩
theorem KSt.but {E : Nat → Kep} {m d base gk : Nat} {v : Value} {wr w' : World} {r : Option Nat} (h : KSt E m d base gk v wr) (hb : But r wr w') (hr : ∀ g, r = some g → ∃ cs mm, wr.heap[g]? = some (.cells cs 110 mm)) : KSt E m d base gk v w' := by
  have ne : ∀ {b1 : Nat} {e1 : TypeId} {s1 n1 : Nat} {v1 : Value} {xs1 : List Value}, wr.ownsRow b1 e1 s1 v1 n1 xs1 → e1 ≠ 110 → ∀ k, v1.ownBlock = some k → r ≠ some k := fun ho hne k hk e => by
    obtain ⟨cs, mm, h1⟩ := hr k e
    obtain ⟨cs', mm', h2⟩ := own_block ho k hk
    rw [h1] at h2
    injection h2 with h2
    injection h2 with _ h2
    exact hne h2.symm
  refine ⟨hb.blk h.blk (fun e => ?_), own_but h.row hb (ne h.row (by decide)), h.ng, h.gb, fun i h1 h2 => ⟨own_but (h.dat i h1 h2).1 hb (ne (h.dat i h1 h2).1 (by decide)), (h.dat i h1 h2).2⟩, h.wf⟩
  obtain ⟨cs, mm, h1⟩ := hr gk e
  rw [h.blk] at h1
  injection h1 with h1
  injection h1 with _ h1
  exact absurd h1 (by decide)
theorem selQ_mem {E : Nat → Kep} {st : Int} {lo : Nat} {b : Blk} : ∀ {k : Nat}, b ∈ selQ E st lo k → ∃ i, i < k ∧ b = (E (lo + i)).blk st := by
  intro k
  induction k with
  | zero => intro h; cases h
  | succ k ih =>
    intro h
    unfold selQ at h
    rcases List.mem_append.1 h with h | h
    · obtain ⟨i, hi, e⟩ := ih h; exact ⟨i, by omega, e⟩
    · split at h
      · simp at h; exact ⟨k, by omega, h⟩
      · cases h
theorem elBlk : ElemT Try.prog 105 110 3 40 := ElemT.mk' (z := .agg #[.int .u8 0, .int .i64 0, .slice none 0 0]) Try.underlying105 infoBlk rfl (by decide)
/-- the blocks that a Put writes -/
def putQ (E : Nat → Kep) (m d : Nat) (st : Int) (b : Blk) : List Blk := selQ E st (m - min m d) (min m d) ++ [b]
def PPost (E : Nat → Kep) (m d base gk : Nat) (v : Value) (st t : Int) (a : Option Addr) (n c : Nat) (Z : Nat → Int) (w : World) (e : Ending) (w' : World) : Prop :=
  (∃ v9 a1 c1, KSt (addE E m ⟨st, t, a1, n, c1, Z⟩) (m + 1) d base gk v9 w' ∧ (∀ g, v9.ownBlock = some g → w.heap.size ≤ g) ∧ (∀ g, (Value.slice a1 n c1).ownBlock = some g → w.heap.size ≤ g)) ∧
  ((wok (fun i => (putQ E m d st ⟨t, 0, a, n, c, Z⟩).getD i default) (putQ E m d st ⟨t, 0, a, n, c, Z⟩).length ∧ ∃ a5 N c5, e = .returned (.tuple #[.slice a5 N c5, .int .i64 0]) ∧ N = (wrL (fun i => (putQ E m d st ⟨t, 0, a, n, c, Z⟩).getD i default) (putQ E m d st ⟨t, 0, a, n, c, Z⟩).length).length ∧
    w'.ownsRow w.heap.size 5 1 (.slice a5 N c5) N (u8s (wrL (fun i => (putQ E m d st ⟨t, 0, a, n, c, Z⟩).getD i default) (putQ E m d st ⟨t, 0, a, n, c, Z⟩).length))) ∨
   (¬ wok (fun i => (putQ E m d st ⟨t, 0, a, n, c, Z⟩).getD i default) (putQ E m d st ⟨t, 0, a, n, c, Z⟩).length ∧ e = .returned (.tuple #[.slice none 0 0, .int .i64 1]))) ∧
  (w'.os = w.os ∧ w'.tape = w.tape ∧ w'.output = w.output ∧ w.heap.size ≤ w'.heap.size ∧ ∀ q, q < w.heap.size → q ≠ gk → v.ownBlock ≠ some q → w'.heap[q]? = w.heap[q]?)
/-- what a Put leaves ahead of its Write -/
structure KPt (E : Nat → Kep) (m d base gk : Nat) (v : Value) (k : Kep) (st : Int) (lo j : Nat) (v10 : Value) (w : World) (v9 : Value) (wx : World) : Prop where
  kst : KSt (addE E m k) (m + 1) d base gk v9 wx
  lst : wx.ownsRow w.heap.size 110 3 v10 (selQ E st lo j).length (bcL (selQ E st lo j))
  old : ∀ i, lo ≤ i → i < m → wx.ownsRow base 5 1 (.slice (E i).a (E i).n (E i).c) (E i).n (bytesOf (E i).Z (E i).n)
  sz : w.heap.size ≤ wx.heap.size
  os : wx.os = w.os
  tape : wx.tape = w.tape
  output : wx.output = w.output
  nv : ∀ g, v9.ownBlock = some g → w.heap.size ≤ g
  nd : ∀ g, (Value.slice k.a k.n k.c).ownBlock = some g → w.heap.size ≤ g
  fr : ∀ q, q < w.heap.size → q ≠ gk → v.ownBlock ≠ some q → wx.heap[q]? = w.heap[q]?
theorem kpt_mk {E : Nat → Kep} {m d base gk : Nat} {v : Value} {k : Kep} {st : Int} {lo j : Nat} {v10 : Value} {w : World} {v9 : Value} {X : World} (hlo : lo = m - min m d) (cnt' lo' : Nat) (h1 : cnt' = min (m + 1) d) (h2 : lo' = m + 1 - cnt')
    (blk : X.heap[gk]? = some (.cells #[.int .i64 d, v9] 154 (0, 0))) (row : X.ownsRow base 156 3 v9 cnt' (kcells (addE E m k) lo' cnt')) (ng : v9.ownBlock ≠ some gk) (gb : base ≤ gk) (H : Nat) (hH : w.heap.size ≤ H) (hv9 : ∀ q, v9.ownBlock = some q → H ≤ q) (nd : ∀ q, (Value.slice k.a k.n k.c).ownBlock = some q → w.heap.size ≤ q)
    (dat : ∀ i, lo ≤ i → i ≤ m → X.ownsRow base 5 1 (.slice (addE E m k i).a (addE E m k i).n (addE E m k i).c) (addE E m k i).n (bytesOf (addE E m k i).Z (addE E m k i).n) ∧ ∀ q, (Value.slice (addE E m k i).a (addE E m k i).n (addE E m k i).c).ownBlock = some q → q < H ∧ q ≠ gk)
    (wf : ∀ i, lo ≤ i → i ≤ m → (0 ≤ (addE E m k i).t ∧ (addE E m k i).t ≤ 127) ∧ (0 ≤ (addE E m k i).s ∧ (addE E m k i).s ≤ 4294967295) ∧ (addE E m k i).n ≤ 1500 ∧ ∀ x, x < (addE E m k i).n → 0 ≤ (addE E m k i).Z x ∧ (addE E m k i).Z x ≤ 255)
    (lst : X.ownsRow w.heap.size 110 3 v10 (selQ E st lo j).length (bcL (selQ E st lo j))) (sz : w.heap.size ≤ X.heap.size) (os : X.os = w.os) (tape : X.tape = w.tape) (output : X.output = w.output) (fr : ∀ q, q < w.heap.size → q ≠ gk → v.ownBlock ≠ some q → X.heap[q]? = w.heap[q]?) :
    KPt E m d base gk v k st lo j v10 w v9 X := by
  subst h1 h2
  refine ⟨⟨blk, row, ng, gb, fun i a b => ?_, fun i a b => wf i (by omega) (by omega)⟩, lst, fun i a b => ?_, sz, os, tape, output, fun g hg => Nat.le_trans hH (hv9 g hg), nd, fr⟩
  · obtain ⟨o, hq⟩ := dat i (by omega) (by omega)
    refine ⟨o, fun q hq1 => ⟨fun e => ?_, (hq q hq1).2⟩⟩
    have := hv9 q e
    have := (hq q hq1).1
    omega
  · have := (dat i a (by omega)).1
    have e : addE E m k i = E i := by unfold addE; rw [if_neg (by omega)]
    rw [e] at this
    exact this
set_option maxRecDepth 100000 in
set_option maxHeartbeats 4000000 in
theorem put36_bad (gk : Nat) (st t : Int) (a : Option Addr) (n c : Nat) (w : World) (ht : 128 ≤ t) :
    Calls Try.prog 52 #[.pointer (some ⟨gk, 0, none⟩), .int .u32 st, .int .u8 t, .slice a n c] w fun e w' => e = .returned (.tuple #[.slice none 0 0, .int .i64 1]) ∧ w = w' := by
  have h : decide (128 ≤ t) = true := by simpa using ht
  go_enter Try.func52, Try.ntmps52
  go_wp2_with fail
  go_ret2
  exact ⟨rfl, rfl⟩
set_option maxRecDepth 100000 in
set_option maxHeartbeats 8000000 in
theorem put36_any (E : Nat → Kep) (m d base gk : Nat) (v : Value) (st t : Int) (B : Nat) (a : Option Addr) (n c : Nat) (Z : Nat → Int) (w : World) (hK : KSt E m d base gk v w) (hb : BS B w a n c Z) (hB : B ≤ w.heap.size) (hd : d ≤ 8) (hm : m ≤ 100) (hn : n ≤ 1500) (t0 : 0 ≤ t) (t1 : t < 128) (s0 : 0 ≤ st) (s1 : st ≤ 4294967295) (hBb : B ≤ base) :
    Calls Try.prog 52 #[.pointer (some ⟨gk, 0, none⟩), .int .u32 st, .int .u8 t, .slice a n c] w (PPost E m d base gk v st t a n c Z w) := by
  obtain ⟨i0, hi, hz0, hz1, hz2⟩ := info_parts infoBlk
  obtain ⟨i1, hi1, hy0, hy1, hy2⟩ := info_parts infoKept
  have ht : decide (128 ≤ t) = false := by simp; omega
  obtain ⟨cnt, hcnt⟩ : ∃ cnt, cnt = min m d := ⟨_, rfl⟩
  have hc8 : cnt ≤ 8 := by omega
  obtain ⟨lo, hlo⟩ : ∃ lo, lo = m - cnt := ⟨_, rfl⟩
  have HK := Lib.hid hK
  have HC := Lib.hid hcnt
  have HLO := Lib.hid hlo
  have hrow := hK.row
  rw [← hcnt, ← hlo] at hrow
  obtain ⟨va, vc, hv⟩ := own_len hrow
  subst hv
  have HR := Lib.hid hrow
  have hadr : 0 < cnt → ∃ g, va = some ⟨g, 0, none⟩ := fun h0 => by
    obtain ⟨c', rfl⟩ : ∃ c', cnt = c' + 1 := ⟨cnt - 1, by omega⟩
    obtain ⟨g, _, hv, -⟩ := own_some hrow
    injection hv with e1
    exact ⟨g, e1⟩
  have HA := Lib.hid hadr
  have k1 : w.cell? ⟨gk, 1, none⟩ = some (.slice va cnt vc) := cell_blk hK.blk
  have hgk := lt_of_block hK.blk
  have HBS := Lib.hid hb
  clear hK hcnt hlo hrow hadr hb
  go_enter Try.func52, Try.ntmps52
  go_wp2_with fail
  clear k1
  go_loopw [10, 21] (fun s10 s21 wr => ∃ j : Nat, j ≤ cnt ∧ s21 = .int .i64 j ∧ Hid (PLp E st lo j w s10 wr)) (fun _ s21 _ => cnt - (intOf s21).toNat)
  case atStart => exact ⟨0, by omega, rfl, Lib.hid ⟨Below.refl _ _, World.ownsRow_nil _ _ _ _⟩⟩
  case round =>
    obtain ⟨j, hj, rfl, HS⟩ := hrel
    obtain ⟨v10a, v10c, h10⟩ := own_len HS.out.row
    subst h10
    by_cases hlt : j < cnt
    · obtain ⟨gv, rfl⟩ := HA.out (by omega)
      obtain ⟨q1, q2, q3⟩ := kcells_get E lo cnt j hlt
      have hcl : ∀ (x : Nat) u, (kcells E lo cnt)[x]? = some u → wr.cell? ⟨gv, x, none⟩ = some u := fun x u hx => by
        have := HR.out.cells (g := gv) rfl x u hx
        rw [addr_add, Nat.zero_add] at this
        exact Below.cell' HS.out.bl (HR.out.lt gv rfl).2 this
      have c0 := hcl _ _ q1
      have c1 := hcl _ _ q2
      have c2 := hcl _ _ q3
      have hsq : selQ E st lo (j + 1) = selQ E st lo j ++ (if selB st (E (lo + j)) then [(E (lo + j)).blk st] else []) := rfl
      have hsl := selQ_len E st lo j
      obtain ⟨q, hq⟩ : ∃ q, E (lo + j) = q := ⟨_, rfl⟩
      rw [hq] at c0 c1 c2 hsq
      have HSQ := Lib.hid hsq
      have HQ := Lib.hid hq
      clear hsq q1 q2 q3 hcl hq
      obtain ⟨es, et, ea, en, ec, eZ⟩ := q
      simp only at c0 c1 c2
      have hji : (j : Int) < cnt := by omega
      go_wp2_with fail
      generalize hV : World.alloc wr _ = V
      have BV : Hid (Below wr.heap.size wr V) := Lib.hid (by rw [← hV]; exact (Below.refl _ _).alloc (Nat.le_refl _) _)
      have GV : Hid (V.heap[wr.heap.size]? = some (.cells #[.int .u32 es, .int .u8 et, .slice ea en ec] 156 (0, 0))) := Lib.hid (by rw [← hV]; exact alloc_blk_new)
      clear hV
      obtain ⟨g12, hg⟩ : ∃ g12, g12 = wr.heap.size := ⟨_, rfl⟩
      rw [← hg] at GV
      rw [← hg]
      clear hg
      refine (gone_any es st V).mono ?_
      rintro e w' ⟨rfl, rfl⟩
      have hbd := far32_bd es st
      obtain ⟨f, hf⟩ : ∃ f, far32 es st = f := ⟨_, rfl⟩
      have HF := Lib.hid hf
      rw [hf] at hbd
      rw [hf]
      clear hf
      obtain ⟨fb0, fb1⟩ := hbd
      have e0 : V.cell? ⟨g12, 0, none⟩ = some (.int .u32 es) := cell_blk GV.out
      have e1 : V.cell? ⟨g12, 1, none⟩ = some (.int .u8 et) := cell_blk GV.out
      have e2 : V.cell? ⟨g12, 2, none⟩ = some (.slice ea en ec) := cell_blk GV.out
      have OV := Lib.hid (own_below HS.out.row BV.out)
      have BWV : Hid (Below w.heap.size w V) := Lib.hid (HS.out.bl.trans (BV.out.mono HS.out.bl.size))
      have hsel : selB st ⟨es, et, ea, en, ec, eZ⟩ = (decide (0 < f) && decide (f ≤ 16383) && decide (en ≤ 1023)) := by unfold selB; simp only; rw [HF.out]
      by_cases hyes : 0 < f ∧ f ≤ 16383 ∧ en ≤ 1023
      · obtain ⟨y1, y2, y3⟩ := hyes
        have d1 : decide (0 < f) = true := by simpa using y1
        have d2 : decide (f ≤ 16383) = true := by simpa using y2
        have d3 : decide ((en : Int) ≤ 1023) = true := by simp; omega
        have HSEL : Hid (selQ E st lo (j + 1) = selQ E st lo j ++ [⟨et, f, ea, en, ec, eZ⟩]) := Lib.hid (by
          rw [HSQ.out, hsel, if_pos (by simp; omega)]; simp only [Kep.blk, HF.out])
        obtain ⟨WA, hWA⟩ : ∃ WA, V.alloc (.cells #[.int .u8 et, .int .i64 f, .slice ea en ec] 110) = WA := ⟨_, rfl⟩
        have BWA : Hid (Below V.heap.size V WA) := Lib.hid (by rw [← hWA]; exact (Below.refl _ _).alloc (Nat.le_refl _) _)
        have hnew : WA.heap[V.heap.size]? = some (.cells #[.int .u8 et, .int .i64 f, .slice ea en ec] 110 (0, 0)) := by rw [← hWA]; exact alloc_blk_new
        obtain ⟨x6, y6, W3, r6, own6, but6, nb6⟩ := run_app (P := Try.prog) (w := WA) (t := 105) Try.underlying105 hi hz0 hz1 hz2 rfl (by decide) (own_below OV.out BWA.out) (some ⟨V.heap.size, 0, none⟩) 1 1 [.int .u8 et, .int .i64 f, .slice ea en ec] (fun e => by cases e) rfl (fun ad e jj u hj => by
          cases e
          rw [addr_add, Nat.zero_add, cell_blk hnew, ← hj]
          simp) (by simp [Value.oneCell']) (by unfold maxLen; omega) (by omega) (Nat.le_trans BWV.out.size BWA.out.size)
        have R6 := Lib.hid r6
        have O6 := Lib.hid own6
        have B6 : Hid (Below w.heap.size w W3) := Lib.hid ((BWV.out.trans (BWA.out.mono BWV.out.size)).trans (but6.below (Nat.le_trans BWV.out.size BWA.out.size) (fun g hg => (OV.out.lt g hg).1)))
        clear r6 own6 but6 nb6 hnew BWA hsel
        go_wp2_with (at_builtin; refine wpList_of_append rfl (.tmp 41) (.tmp 48) 105 rfl _ _ _ rfl rfl R6.out ?_)
        go_roundw
        case rel => exact ⟨j + 1, by omega, by go_num, Lib.hid ⟨B6.out, by rw [HSEL.out, bcL_app, List.length_append]; exact O6.out⟩⟩
        case measure => simp [intOf] <;> omega
      · have HSEL : Hid (selQ E st lo (j + 1) = selQ E st lo j) := Lib.hid (by
          rw [HSQ.out, hsel, if_neg (by simp; omega), List.append_nil])
        clear hsel
        rcases (by omega : ¬ 0 < f ∨ (0 < f ∧ ¬ f ≤ 16383) ∨ (0 < f ∧ f ≤ 16383 ∧ ¬ en ≤ 1023)) with h | ⟨h, h'⟩ | ⟨h, h', h''⟩
        · have d1 : decide (0 < f) = false := by simp; omega
          clear hyes
          go_wp2_with fail
          go_roundw
          case rel => exact ⟨j + 1, by omega, by go_num, Lib.hid ⟨BWV.out, by rw [HSEL.out]; exact OV.out⟩⟩
          case measure => simp [intOf] <;> omega
        · have d1 : decide (0 < f) = true := by simp; omega
          have d2 : decide (f ≤ 16383) = false := by simp; omega
          clear hyes
          go_wp2_with fail
          go_roundw
          case rel => exact ⟨j + 1, by omega, by go_num, Lib.hid ⟨BWV.out, by rw [HSEL.out]; exact OV.out⟩⟩
          case measure => simp [intOf] <;> omega
        · have d1 : decide (0 < f) = true := by simp; omega
          have d2 : decide (f ≤ 16383) = true := by simp; omega
          have d3 : decide ((en : Int) ≤ 1023) = false := by simp; omega
          clear hyes
          go_wp2_with fail
          go_roundw
          case rel => exact ⟨j + 1, by omega, by go_num, Lib.hid ⟨BWV.out, by rw [HSEL.out]; exact OV.out⟩⟩
          case measure => simp [intOf] <;> omega
    · have : j = cnt := by omega
      subst this
      clear hlt
      have GK : Hid (wr.heap[gk]? = some (.cells #[.int .i64 d, .slice va j vc] 154 (0, 0))) := Lib.hid (by
        have := HK.out.blk
        rw [HS.out.bl.block gk hgk]
        exact this)
      have HCL := Lib.hid (clone_any B a n c Z wr.drew (HBS.out.keep (HS.out.bl.drew.mono hB)) (Nat.le_trans hB HS.out.bl.size) (by omega))
      have C0 : Hid (HasO gk (.cells #[.int .i64 d, .slice va j vc] 154 (0, 0)) wr.drew) := Lib.hid GK.out
      have hne : Nonempty { w' : World // HasO gk (.cells #[.int .i64 d, .slice va j vc] 154 (0, 0)) w' } := ⟨⟨_, C0.out⟩⟩
      have o1 : ∀ z : { w' : World // HasO gk (.cells #[.int .i64 d, .slice va j vc] 154 (0, 0)) w' }, z.1.cell? ⟨gk, 1, none⟩ = some (.slice va j vc) := fun z => cell_blk z.2
      go_wp2_with fail
      refine MixC.wp_region_mix_tail 14 [8, 9, 10, 11] (HasO gk (.cells #[.int .i64 d, .slice va j vc] 154 (0, 0))) C0.out (by kernel_rfl) (by kernel_rfl) (by kernel_rfl) ?_
      simp only [List.take_succ_cons, List.take_zero, List.drop_succ_cons, List.drop_zero]
      iterate 8 (refine MixC.mix_read rfl (fun K hK => ?_); go_simp; refine hK _ ?_; clear hK K)
      refine MixC.mix_move rfl (fun K hK => ?_)
      go_simp
      refine HCL.out.mono ?_
      rintro e V1 ⟨a1, c1, rfl, od, b1⟩
      have OD := Lib.hid od
      have BD : Hid (Below wr.heap.size wr V1) := Lib.hid ((Below.refl _ wr).drew.trans b1)
      have C1 : Hid (HasO gk (.cells #[.int .i64 d, .slice va j vc] 154 (0, 0)) V1) := Lib.hid (Below.blk b1 C0.out (lt_of_block C0.out))
      clear od b1
      refine ⟨_, rfl, C1.out, hK _ _ ?_⟩
      clear hK K
      (refine MixC.mix_move rfl (fun K hK => ?_); go_simp; refine ⟨C1.out, hK _ _ ?_⟩; clear hK K)
      obtain ⟨WA, hWA⟩ : ∃ WA, V1.alloc (.cells #[.int .u32 st, .int .u8 t, .slice a1 n c1] 156) = WA := ⟨_, rfl⟩
      have BWA : Hid (Below V1.heap.size V1 WA) := Lib.hid (by rw [← hWA]; exact (Below.refl _ _).alloc (Nat.le_refl _) _)
      have hnew : WA.heap[V1.heap.size]? = some (.cells #[.int .u32 st, .int .u8 t, .slice a1 n c1] 156 (0, 0)) := by rw [← hWA]; exact alloc_blk_new
      have rowV : Hid (wr.ownsRow base 156 3 (.slice va j vc) j (kcells E lo j)) := Lib.hid (own_blk HR.out (fun q _ hq => HS.out.bl.block q hq))
      have ltR := HR.out.lt
      have ngR : (Value.slice va j vc).ownBlock ≠ some gk := HK.out.ng
      obtain ⟨x6, y6, W2, r6, own6, but6, nb6⟩ := run_app (P := Try.prog) (w := WA) (t := 152) Try.underlying152 hi1 hy0 hy1 hy2 rfl (by decide) (own_below (own_below rowV.out BD.out) BWA.out) (some ⟨V1.heap.size, 0, none⟩) 1 1 [.int .u32 st, .int .u8 t, .slice a1 n c1] (fun e => by cases e) rfl (fun ad e jj u hj => by
        cases e
        rw [addr_add, Nat.zero_add, cell_blk hnew, ← hj]
        simp) (by simp [Value.oneCell']) (by unfold maxLen; omega) (by omega) (by have := HS.out.bl.size; have := BD.out.size; have := BWA.out.size; have := HK.out.gb; omega)
      have C2 : Hid (HasO gk (.cells #[.int .i64 d, .slice va j vc] 154 (0, 0)) WA) := Lib.hid (Below.blk BWA.out C1.out (lt_of_block C1.out))
      have C3 : Hid (HasO gk (.cells #[.int .i64 d, .slice va j vc] 154 (0, 0)) W2) := Lib.hid (but6.blk C2.out (fun e => ngR e))
      have R6 := Lib.hid r6
      have O6 := Lib.hid own6
      have U6 := Lib.hid but6
      have N6 := Lib.hid nb6
      have s1 : W2.cell? ⟨gk, 1, none⟩ = some (.slice va j vc) := cell_blk C3.out
      have s2 : W2.frozen? ⟨gk, 1, none⟩ = false := free_blk C3.out
      clear r6 own6 but6 nb6 hnew ltR ngR
      (refine MixC.mix_move rfl (fun K hK => ?_); go_simp; refine ⟨C2.out, hK _ _ ?_⟩; clear hK K)
      refine MixC.mix_move rfl (fun K hK => ?_)
      refine Eq.mpr (if_pos rfl) ?_
      refine mv_app (s := .tmp 55) (x := .tmp 61) (t := 152) rfl rfl rfl R6.out C3.out (hK _ _ ?_)
      clear hK K
      iterate 2 (refine MixC.mix_read rfl (fun K hK => ?_); go_simp; refine hK _ ?_; clear hK K)
      refine MixC.mix_nil ?_
      clear o1 hne hWA
      go_upto_region 12 with (fail)
      clear s1 s2
      generalize hX : World.setCell W2 _ _ = W3
      have hx6 : ∃ g, x6 = some ⟨g, 0, none⟩ := by
        obtain ⟨g, _, hv, -⟩ := own_some O6.out
        exact ⟨g, by injection hv⟩
      obtain ⟨g6, rfl⟩ := hx6
      have GK3 : Hid (W3.heap[gk]? = some (.cells #[.int .i64 d, .slice (some ⟨g6, 0, none⟩) (j + 1) y6] 154 (0, 0))) := Lib.hid (by rw [← hX, set_blk _ C3.out]; rfl)
      have n6 : g6 ≠ gk := fun e => by
        rcases N6.out g6 rfl with h | h
        · exact HK.out.ng (by rw [h, e])
        · have := lt_of_block C2.out; omega
      have O63 : Hid (W3.ownsRow base 156 3 (.slice (some ⟨g6, 0, none⟩) (j + 1) y6) (j + 1) (kcells (addE E m ⟨st, t, a1, n, c1, Z⟩) lo (j + 1))) := Lib.hid (by
        rw [kcells_add E lo j m _ (by have := HC.out; have := HLO.out; omega), ← hX]
        exact own_blk1y O6.out (fun q hq => set_blk_other _ (by cases hq; exact n6)))
      have C0 : Hid (HasO gk (.cells #[.int .i64 d, .slice (some ⟨g6, 0, none⟩) (j + 1) y6] 154 (0, 0)) W3.drew) := Lib.hid GK3.out
      have hne : Nonempty { w' : World // HasO gk (.cells #[.int .i64 d, .slice (some ⟨g6, 0, none⟩) (j + 1) y6] 154 (0, 0)) w' } := ⟨⟨_, C0.out⟩⟩
      have o0 : ∀ z : { w' : World // HasO gk (.cells #[.int .i64 d, .slice (some ⟨g6, 0, none⟩) (j + 1) y6] 154 (0, 0)) w' }, z.1.cell? ⟨gk, 0, none⟩ = some (.int .i64 d) := fun z => cell_blk z.2
      have o1 : ∀ z : { w' : World // HasO gk (.cells #[.int .i64 d, .slice (some ⟨g6, 0, none⟩) (j + 1) y6] 154 (0, 0)) w' }, z.1.cell? ⟨gk, 1, none⟩ = some (.slice (some ⟨g6, 0, none⟩) (j + 1) y6) := fun z => cell_blk z.2
      have hjd : j ≤ d := by have := HC.out; omega
      have ly : j + 1 ≤ y6 := by
        obtain ⟨_, h2⟩ := O63.out
        rcases h2 with ⟨h2, _⟩ | ⟨_, cap, _, hv, _, _, h3, _⟩
        · cases h2
        · cases hv; exact h3
      have hj1 : 0 ≤ (j : Int) + 1 := by omega
      have w1 : IntKind.i64.wrap ((j : Int) + 1 - d) = (j : Int) + 1 - d := IntWalk.i64_in _ (by omega)
      go_cut [10] (fun s10 wx => s10 = .slice v10a (selQ E st lo j).length v10c ∧ ∃ v9, Hid (KPt E m d base gk (.slice va j vc) ⟨st, t, a1, n, c1, Z⟩ st lo j (.slice v10a (selQ E st lo j).length v10c) w v9 wx))
      case first =>
        by_cases hA : j < d
        · have hmx : max ((j : Int) + 1 - d) 0 = 0 := by omega
          refine MixC.wp_region_mix_tail 20 [17] (HasO gk (.cells #[.int .i64 d, .slice (some ⟨g6, 0, none⟩) (j + 1) y6] 154 (0, 0))) C0.out (by kernel_rfl) (by kernel_rfl) (by kernel_rfl) ?_
          simp only [List.take_succ_cons, List.take_zero, List.drop_succ_cons, List.drop_zero]
          iterate 17 (refine MixC.mix_read rfl (fun K hK => ?_); go_simp; refine hK _ ?_; clear hK K)
          refine MixC.mix_move rfl (fun K hK => ?_)
          go_simp
          refine (cloneK_some _ (j + 1) _ (kcells (addE E m ⟨st, t, a1, n, c1, Z⟩) lo (j + 1)) W3.drew (kcells_len _ _ _) (fun x u hx => O63.out.cells (g := g6) rfl x u hx) (kcells_one _ _ _) (by omega)).mono ?_
          rintro e V9 ⟨a9, c9, rfl, o9, b9⟩
          have C9 : Hid (HasO gk (.cells #[.int .i64 d, .slice (some ⟨g6, 0, none⟩) (j + 1) y6] 154 (0, 0)) V9) := Lib.hid (Below.blk b9 C0.out (lt_of_block C0.out))
          have O9 := Lib.hid o9
          have B9 := Lib.hid b9
          clear o9 b9
          refine ⟨_, rfl, C9.out, hK _ _ ?_⟩
          clear hK K
          iterate 2 (refine MixC.mix_read rfl (fun K hK => ?_); go_simp; refine hK _ ?_; clear hK K)
          refine MixC.mix_nil ?_
          have s1 : V9.cell? ⟨gk, 1, none⟩ = some (.slice (some ⟨g6, 0, none⟩) (j + 1) y6) := cell_blk C9.out
          have s2 : V9.frozen? ⟨gk, 1, none⟩ = false := free_blk C9.out
          clear o0 o1 hne
          go_wp2_with fail
          clear s1 s2
          generalize hY : World.setCell V9 _ _ = X
          have hlt3 : w.heap.size ≤ W3.heap.size := by
            have a1 := HS.out.bl.size; have a2 := BD.out.size; have a3 := BWA.out.size; have a4 := U6.out.size
            rw [← hX]; simp only [World.setCell, Array.size_modify] at *; omega
          have GX : Hid (X.heap[gk]? = some (.cells #[.int .i64 d, .slice a9 (j + 1) c9] 154 (0, 0))) := Lib.hid (by rw [← hY, set_blk _ C9.out]; rfl)
          have step : ∀ {vv : Value} {bs sz nn : Nat} {e : TypeId} {xs : List Value}, V1.ownsRow bs e sz vv nn xs → (∀ q, vv.ownBlock = some q → q ≠ gk ∧ (Value.slice va j vc).ownBlock ≠ some q) → X.ownsRow bs e sz vv nn xs := fun h hq => by
            have h1 := own_but (own_below h BWA.out) U6.out (fun q e1 e2 => (hq q e1).2 e2)
            have h2 := own_blk1y h1 (w' := W3) (fun q e1 => by rw [← hX]; exact set_blk_other _ (hq q e1).1)
            have h3 := own_below h2 ((Below.refl _ W3).drew.trans B9.out)
            exact own_blk1y h3 (w' := X) (fun q e1 => by rw [← hY]; exact set_blk_other _ (hq q e1).1)
          have hva : ∀ q, (Value.slice va j vc).ownBlock = some q → q < w.heap.size := fun q hq => (HR.out.lt q hq).2
          have s12 : V1.heap.size ≤ W3.heap.size := by
            have a3 := BWA.out.size; have a4 := U6.out.size
            rw [← hX]; simp only [World.setCell, Array.size_modify]; omega
          have sX : V9.heap.size = X.heap.size := by rw [← hY]; simp only [World.setCell, Array.size_modify]
          have OX : X.ownsRow base 156 3 (.slice a9 (j + 1) c9) (j + 1) (kcells (addE E m ⟨st, t, a1, n, c1, Z⟩) lo (j + 1)) := by
            have h := own_blk1y O9.out (w' := X) (fun q e1 => by rw [← hY]; exact set_blk_other _ (by show q ≠ gk; have := (O9.out.lt q e1).1; have : W3.drew.heap.size = W3.heap.size := rfl; omega))
            exact World.ownsRow.mono h (by show base ≤ W3.heap.size; have := HK.out.gb; omega)
          go_meet
          refine ⟨rfl, .slice a9 (j + 1) c9, Lib.hid (kpt_mk (by rw [← HC.out]; exact HLO.out) (j + 1) lo (by have := HC.out; omega) (by have := HC.out; have := HLO.out; omega) GX.out OX (fun e => by have := (O9.out.lt gk e).1; have : W3.drew.heap.size = W3.heap.size := rfl; omega) HK.out.gb W3.heap.size hlt3 (fun q hq => (O9.out.lt q hq).1) (fun q hq => by have := (OD.out.lt q hq).1; have := HS.out.bl.size; have : wr.drew.heap.size = wr.heap.size := rfl; omega) (fun i h1 h2 => ?_) (fun i h1 h2 => ?_) (step (own_below HS.out.row BD.out) (fun q hq => ?_)) ?_ ?_ ?_ ?_ (fun q h1 h2 h3 => ?_))⟩
          · by_cases e : i = m
            · subst e
              have ee : addE E i ⟨st, t, a1, n, c1, Z⟩ i = ⟨st, t, a1, n, c1, Z⟩ := by unfold addE; rw [if_pos rfl]
              rw [ee]
              have hlt := OD.out.lt
              have hwr : wr.drew.heap.size = wr.heap.size := rfl
              have hsz0 := HS.out.bl.size
              refine ⟨step (World.ownsRow.mono OD.out (by have := HK.out.gb; omega)) (fun q hq => ⟨by have := (hlt q hq).1; omega, fun e => by have := hva q e; have := (hlt q hq).1; omega⟩), fun q hq => ⟨by have := (hlt q hq).2; omega, by have := (hlt q hq).1; omega⟩⟩
            · have ee : addE E m ⟨st, t, a1, n, c1, Z⟩ i = E i := by unfold addE; rw [if_neg e]
              rw [ee]
              have hcm := HC.out
              have hlm := HLO.out
              obtain ⟨o, hq⟩ := HK.out.dat i (by omega) (by omega)
              refine ⟨step (own_below (own_blk o (fun q _ hq => HS.out.bl.block q hq)) BD.out) (fun q h => ⟨(hq q h).2, (hq q h).1⟩), fun q h => ⟨by have := (o.lt q h).2; omega, (hq q h).2⟩⟩
          · by_cases e : i = m
            · subst e
              have ee : addE E i ⟨st, t, a1, n, c1, Z⟩ i = ⟨st, t, a1, n, c1, Z⟩ := by unfold addE; rw [if_pos rfl]
              rw [ee]
              exact ⟨⟨t0, by show t ≤ 127; omega⟩, ⟨s0, s1⟩, hn, HBS.out.bd⟩
            · have ee : addE E m ⟨st, t, a1, n, c1, Z⟩ i = E i := by unfold addE; rw [if_neg e]
              rw [ee]
              have hcm := HC.out
              have hlm := HLO.out
              exact HK.out.wf i (by omega) (by omega)
          · have := (HS.out.row.lt q hq).1
            exact ⟨by omega, fun e => by have := hva q e; omega⟩
          · have := B9.out.size; have : W3.drew.heap.size = W3.heap.size := rfl; omega
          · rw [← hY]; show V9.os = w.os; rw [B9.out.os]; show W3.os = w.os; rw [← hX]; show W2.os = w.os; rw [U6.out.os, BWA.out.os, BD.out.os, HS.out.bl.os]
          · rw [← hY]; show V9.tape = w.tape; rw [B9.out.tape]; show W3.tape = w.tape; rw [← hX]; show W2.tape = w.tape; rw [U6.out.tape, BWA.out.tape, BD.out.tape, HS.out.bl.tape]
          · rw [← hY]; show V9.output = w.output; rw [B9.out.output]; show W3.output = w.output; rw [← hX]; show W2.output = w.output; rw [U6.out.output, BWA.out.output, BD.out.output, HS.out.bl.output]
          · have b1 := HS.out.bl.size; have b2 := BD.out.size; have b3 := BWA.out.size; have b4 := U6.out.size
            rw [← hY, set_blk_other _ (by show q ≠ gk; exact h2), B9.out.block q (by show q < W3.heap.size; omega)]
            show W3.heap[q]? = _
            rw [← hX, set_blk_other _ (by show q ≠ gk; exact h2), U6.out.block q (by omega) h3, BWA.out.block q (by omega), BD.out.block q (by omega), HS.out.bl.block q h1]
        · have hmx : max ((j : Int) + 1 - d) 0 = 1 := by omega
          have hj1' : (1 : Int) ≤ (j : Int) + 1 := by omega
          rcases (by omega : y6 = 1 ∨ (¬ y6 = 1 ∧ 1 < y6)) with hy | ⟨hy, hy'⟩
          · have HJ0 : Hid (j = 0) := Lib.hid (by omega)
            have hyT : (y6 = 1) = True := eq_true hy
            clear hy
            refine MixC.wp_region_mix_tail 20 [17] (HasO gk (.cells #[.int .i64 d, .slice (some ⟨g6, 0, none⟩) (j + 1) y6] 154 (0, 0))) C0.out (by kernel_rfl) (by kernel_rfl) (by kernel_rfl) ?_
            simp only [List.take_succ_cons, List.take_zero, List.drop_succ_cons, List.drop_zero]
            iterate 17 (refine MixC.mix_read rfl (fun K hK => ?_); go_simp; refine hK _ ?_; clear hK K)
            refine MixC.mix_move rfl (fun K hK => ?_)
            go_simp
            refine (cloneK_some _ j _ (kcells (addE E m ⟨st, t, a1, n, c1, Z⟩) (lo + 1) j) W3.drew (kcells_len _ _ _) (fun x u hx => by rw [HJ0.out] at hx; simp [kcells] at hx) (kcells_one _ _ _) (by omega)).mono ?_
            rintro e V9 ⟨a9, c9, rfl, o9, b9⟩
            have C9 : Hid (HasO gk (.cells #[.int .i64 d, .slice (some ⟨g6, 0, none⟩) (j + 1) y6] 154 (0, 0)) V9) := Lib.hid (Below.blk b9 C0.out (lt_of_block C0.out))
            have O9 := Lib.hid o9
            have B9 := Lib.hid b9
            clear o9 b9
            refine ⟨_, rfl, C9.out, hK _ _ ?_⟩
            clear hK K
            iterate 2 (refine MixC.mix_read rfl (fun K hK => ?_); go_simp; refine hK _ ?_; clear hK K)
            refine MixC.mix_nil ?_
            have s1 : V9.cell? ⟨gk, 1, none⟩ = some (.slice (some ⟨g6, 0, none⟩) (j + 1) y6) := cell_blk C9.out
            have s2 : V9.frozen? ⟨gk, 1, none⟩ = false := free_blk C9.out
            clear o0 o1 hne
            go_wp2_with fail
            clear s1 s2
            generalize hY : World.setCell V9 _ _ = X
            have hlt3 : w.heap.size ≤ W3.heap.size := by
              have a1 := HS.out.bl.size; have a2 := BD.out.size; have a3 := BWA.out.size; have a4 := U6.out.size
              rw [← hX]; simp only [World.setCell, Array.size_modify] at *; omega
            have GX : Hid (X.heap[gk]? = some (.cells #[.int .i64 d, .slice a9 j c9] 154 (0, 0))) := Lib.hid (by rw [← hY, set_blk _ C9.out]; rfl)
            have step : ∀ {vv : Value} {bs sz nn : Nat} {e : TypeId} {xs : List Value}, V1.ownsRow bs e sz vv nn xs → (∀ q, vv.ownBlock = some q → q ≠ gk ∧ (Value.slice va j vc).ownBlock ≠ some q) → X.ownsRow bs e sz vv nn xs := fun h hq => by
              have h1 := own_but (own_below h BWA.out) U6.out (fun q e1 e2 => (hq q e1).2 e2)
              have h2 := own_blk1y h1 (w' := W3) (fun q e1 => by rw [← hX]; exact set_blk_other _ (hq q e1).1)
              have h3 := own_below h2 ((Below.refl _ W3).drew.trans B9.out)
              exact own_blk1y h3 (w' := X) (fun q e1 => by rw [← hY]; exact set_blk_other _ (hq q e1).1)
            have hva : ∀ q, (Value.slice va j vc).ownBlock = some q → q < w.heap.size := fun q hq => (HR.out.lt q hq).2
            have s12 : V1.heap.size ≤ W3.heap.size := by
              have a3 := BWA.out.size; have a4 := U6.out.size
              rw [← hX]; simp only [World.setCell, Array.size_modify]; omega
            have sX : V9.heap.size = X.heap.size := by rw [← hY]; simp only [World.setCell, Array.size_modify]
            have OX : X.ownsRow base 156 3 (.slice a9 j c9) j (kcells (addE E m ⟨st, t, a1, n, c1, Z⟩) (lo + 1) j) := by
              have h := own_blk1y O9.out (w' := X) (fun q e1 => by rw [← hY]; exact set_blk_other _ (by show q ≠ gk; have := (O9.out.lt q e1).1; have : W3.drew.heap.size = W3.heap.size := rfl; omega))
              exact World.ownsRow.mono h (by show base ≤ W3.heap.size; have := HK.out.gb; omega)
            go_meet
            refine ⟨rfl, .slice a9 j c9, Lib.hid (kpt_mk (by rw [← HC.out]; exact HLO.out) j (lo + 1) (by have := HC.out; omega) (by have := HC.out; have := HLO.out; omega) GX.out OX (fun e => by have := (O9.out.lt gk e).1; have : W3.drew.heap.size = W3.heap.size := rfl; omega) HK.out.gb W3.heap.size hlt3 (fun q hq => (O9.out.lt q hq).1) (fun q hq => by have := (OD.out.lt q hq).1; have := HS.out.bl.size; have : wr.drew.heap.size = wr.heap.size := rfl; omega) (fun i h1 h2 => ?_) (fun i h1 h2 => ?_) (step (own_below HS.out.row BD.out) (fun q hq => ?_)) ?_ ?_ ?_ ?_ (fun q h1 h2 h3 => ?_))⟩
            · by_cases e : i = m
              · subst e
                have ee : addE E i ⟨st, t, a1, n, c1, Z⟩ i = ⟨st, t, a1, n, c1, Z⟩ := by unfold addE; rw [if_pos rfl]
                rw [ee]
                have hlt := OD.out.lt
                have hwr : wr.drew.heap.size = wr.heap.size := rfl
                have hsz0 := HS.out.bl.size
                refine ⟨step (World.ownsRow.mono OD.out (by have := HK.out.gb; omega)) (fun q hq => ⟨by have := (hlt q hq).1; omega, fun e => by have := hva q e; have := (hlt q hq).1; omega⟩), fun q hq => ⟨by have := (hlt q hq).2; omega, by have := (hlt q hq).1; omega⟩⟩
              · have ee : addE E m ⟨st, t, a1, n, c1, Z⟩ i = E i := by unfold addE; rw [if_neg e]
                rw [ee]
                have hcm := HC.out
                have hlm := HLO.out
                obtain ⟨o, hq⟩ := HK.out.dat i (by omega) (by omega)
                refine ⟨step (own_below (own_blk o (fun q _ hq => HS.out.bl.block q hq)) BD.out) (fun q h => ⟨(hq q h).2, (hq q h).1⟩), fun q h => ⟨by have := (o.lt q h).2; omega, (hq q h).2⟩⟩
            · by_cases e : i = m
              · subst e
                have ee : addE E i ⟨st, t, a1, n, c1, Z⟩ i = ⟨st, t, a1, n, c1, Z⟩ := by unfold addE; rw [if_pos rfl]
                rw [ee]
                exact ⟨⟨t0, by show t ≤ 127; omega⟩, ⟨s0, s1⟩, hn, HBS.out.bd⟩
              · have ee : addE E m ⟨st, t, a1, n, c1, Z⟩ i = E i := by unfold addE; rw [if_neg e]
                rw [ee]
                have hcm := HC.out
                have hlm := HLO.out
                exact HK.out.wf i (by omega) (by omega)
            · have := (HS.out.row.lt q hq).1
              exact ⟨by omega, fun e => by have := hva q e; omega⟩
            · have := B9.out.size; have : W3.drew.heap.size = W3.heap.size := rfl; omega
            · rw [← hY]; show V9.os = w.os; rw [B9.out.os]; show W3.os = w.os; rw [← hX]; show W2.os = w.os; rw [U6.out.os, BWA.out.os, BD.out.os, HS.out.bl.os]
            · rw [← hY]; show V9.tape = w.tape; rw [B9.out.tape]; show W3.tape = w.tape; rw [← hX]; show W2.tape = w.tape; rw [U6.out.tape, BWA.out.tape, BD.out.tape, HS.out.bl.tape]
            · rw [← hY]; show V9.output = w.output; rw [B9.out.output]; show W3.output = w.output; rw [← hX]; show W2.output = w.output; rw [U6.out.output, BWA.out.output, BD.out.output, HS.out.bl.output]
            · have b1 := HS.out.bl.size; have b2 := BD.out.size; have b3 := BWA.out.size; have b4 := U6.out.size
              rw [← hY, set_blk_other _ (by show q ≠ gk; exact h2), B9.out.block q (by show q < W3.heap.size; omega)]
              show W3.heap[q]? = _
              rw [← hX, set_blk_other _ (by show q ≠ gk; exact h2), U6.out.block q (by omega) h3, BWA.out.block q (by omega), BD.out.block q (by omega), HS.out.bl.block q h1]
          · refine MixC.wp_region_mix_tail 20 [17] (HasO gk (.cells #[.int .i64 d, .slice (some ⟨g6, 0, none⟩) (j + 1) y6] 154 (0, 0))) C0.out (by kernel_rfl) (by kernel_rfl) (by kernel_rfl) ?_
            simp only [List.take_succ_cons, List.take_zero, List.drop_succ_cons, List.drop_zero]
            iterate 17 (refine MixC.mix_read rfl (fun K hK => ?_); go_simp; refine hK _ ?_; clear hK K)
            refine MixC.mix_move rfl (fun K hK => ?_)
            go_simp
            refine (cloneK_some _ j _ (kcells (addE E m ⟨st, t, a1, n, c1, Z⟩) (lo + 1) j) W3.drew (kcells_len _ _ _) (fun x u hx => by
              have := O63.out.cells (g := g6) rfl (x + 3) u (by rw [kcells_cons]; exact (List.getElem?_append_right (by simp)).trans (by simpa using hx))
              rw [addr_add] at this ⊢
              rw [show 0 + 3 + x = 0 + (x + 3) by omega] 
              exact this) (kcells_one _ _ _) (by omega)).mono ?_
            rintro e V9 ⟨a9, c9, rfl, o9, b9⟩
            have C9 : Hid (HasO gk (.cells #[.int .i64 d, .slice (some ⟨g6, 0, none⟩) (j + 1) y6] 154 (0, 0)) V9) := Lib.hid (Below.blk b9 C0.out (lt_of_block C0.out))
            have O9 := Lib.hid o9
            have B9 := Lib.hid b9
            clear o9 b9
            refine ⟨_, rfl, C9.out, hK _ _ ?_⟩
            clear hK K
            iterate 2 (refine MixC.mix_read rfl (fun K hK => ?_); go_simp; refine hK _ ?_; clear hK K)
            refine MixC.mix_nil ?_
            have s1 : V9.cell? ⟨gk, 1, none⟩ = some (.slice (some ⟨g6, 0, none⟩) (j + 1) y6) := cell_blk C9.out
            have s2 : V9.frozen? ⟨gk, 1, none⟩ = false := free_blk C9.out
            clear o0 o1 hne
            go_wp2_with fail
            clear s1 s2
            generalize hY : World.setCell V9 _ _ = X
            have hlt3 : w.heap.size ≤ W3.heap.size := by
              have a1 := HS.out.bl.size; have a2 := BD.out.size; have a3 := BWA.out.size; have a4 := U6.out.size
              rw [← hX]; simp only [World.setCell, Array.size_modify] at *; omega
            have GX : Hid (X.heap[gk]? = some (.cells #[.int .i64 d, .slice a9 j c9] 154 (0, 0))) := Lib.hid (by rw [← hY, set_blk _ C9.out]; rfl)
            have step : ∀ {vv : Value} {bs sz nn : Nat} {e : TypeId} {xs : List Value}, V1.ownsRow bs e sz vv nn xs → (∀ q, vv.ownBlock = some q → q ≠ gk ∧ (Value.slice va j vc).ownBlock ≠ some q) → X.ownsRow bs e sz vv nn xs := fun h hq => by
              have h1 := own_but (own_below h BWA.out) U6.out (fun q e1 e2 => (hq q e1).2 e2)
              have h2 := own_blk1y h1 (w' := W3) (fun q e1 => by rw [← hX]; exact set_blk_other _ (hq q e1).1)
              have h3 := own_below h2 ((Below.refl _ W3).drew.trans B9.out)
              exact own_blk1y h3 (w' := X) (fun q e1 => by rw [← hY]; exact set_blk_other _ (hq q e1).1)
            have hva : ∀ q, (Value.slice va j vc).ownBlock = some q → q < w.heap.size := fun q hq => (HR.out.lt q hq).2
            have s12 : V1.heap.size ≤ W3.heap.size := by
              have a3 := BWA.out.size; have a4 := U6.out.size
              rw [← hX]; simp only [World.setCell, Array.size_modify]; omega
            have sX : V9.heap.size = X.heap.size := by rw [← hY]; simp only [World.setCell, Array.size_modify]
            have OX : X.ownsRow base 156 3 (.slice a9 j c9) j (kcells (addE E m ⟨st, t, a1, n, c1, Z⟩) (lo + 1) j) := by
              have h := own_blk1y O9.out (w' := X) (fun q e1 => by rw [← hY]; exact set_blk_other _ (by show q ≠ gk; have := (O9.out.lt q e1).1; have : W3.drew.heap.size = W3.heap.size := rfl; omega))
              exact World.ownsRow.mono h (by show base ≤ W3.heap.size; have := HK.out.gb; omega)
            go_meet
            refine ⟨rfl, .slice a9 j c9, Lib.hid (kpt_mk (by rw [← HC.out]; exact HLO.out) j (lo + 1) (by have := HC.out; omega) (by have := HC.out; have := HLO.out; omega) GX.out OX (fun e => by have := (O9.out.lt gk e).1; have : W3.drew.heap.size = W3.heap.size := rfl; omega) HK.out.gb W3.heap.size hlt3 (fun q hq => (O9.out.lt q hq).1) (fun q hq => by have := (OD.out.lt q hq).1; have := HS.out.bl.size; have : wr.drew.heap.size = wr.heap.size := rfl; omega) (fun i h1 h2 => ?_) (fun i h1 h2 => ?_) (step (own_below HS.out.row BD.out) (fun q hq => ?_)) ?_ ?_ ?_ ?_ (fun q h1 h2 h3 => ?_))⟩
            · by_cases e : i = m
              · subst e
                have ee : addE E i ⟨st, t, a1, n, c1, Z⟩ i = ⟨st, t, a1, n, c1, Z⟩ := by unfold addE; rw [if_pos rfl]
                rw [ee]
                have hlt := OD.out.lt
                have hwr : wr.drew.heap.size = wr.heap.size := rfl
                have hsz0 := HS.out.bl.size
                refine ⟨step (World.ownsRow.mono OD.out (by have := HK.out.gb; omega)) (fun q hq => ⟨by have := (hlt q hq).1; omega, fun e => by have := hva q e; have := (hlt q hq).1; omega⟩), fun q hq => ⟨by have := (hlt q hq).2; omega, by have := (hlt q hq).1; omega⟩⟩
              · have ee : addE E m ⟨st, t, a1, n, c1, Z⟩ i = E i := by unfold addE; rw [if_neg e]
                rw [ee]
                have hcm := HC.out
                have hlm := HLO.out
                obtain ⟨o, hq⟩ := HK.out.dat i (by omega) (by omega)
                refine ⟨step (own_below (own_blk o (fun q _ hq => HS.out.bl.block q hq)) BD.out) (fun q h => ⟨(hq q h).2, (hq q h).1⟩), fun q h => ⟨by have := (o.lt q h).2; omega, (hq q h).2⟩⟩
            · by_cases e : i = m
              · subst e
                have ee : addE E i ⟨st, t, a1, n, c1, Z⟩ i = ⟨st, t, a1, n, c1, Z⟩ := by unfold addE; rw [if_pos rfl]
                rw [ee]
                exact ⟨⟨t0, by show t ≤ 127; omega⟩, ⟨s0, s1⟩, hn, HBS.out.bd⟩
              · have ee : addE E m ⟨st, t, a1, n, c1, Z⟩ i = E i := by unfold addE; rw [if_neg e]
                rw [ee]
                have hcm := HC.out
                have hlm := HLO.out
                exact HK.out.wf i (by omega) (by omega)
            · have := (HS.out.row.lt q hq).1
              exact ⟨by omega, fun e => by have := hva q e; omega⟩
            · have := B9.out.size; have : W3.drew.heap.size = W3.heap.size := rfl; omega
            · rw [← hY]; show V9.os = w.os; rw [B9.out.os]; show W3.os = w.os; rw [← hX]; show W2.os = w.os; rw [U6.out.os, BWA.out.os, BD.out.os, HS.out.bl.os]
            · rw [← hY]; show V9.tape = w.tape; rw [B9.out.tape]; show W3.tape = w.tape; rw [← hX]; show W2.tape = w.tape; rw [U6.out.tape, BWA.out.tape, BD.out.tape, HS.out.bl.tape]
            · rw [← hY]; show V9.output = w.output; rw [B9.out.output]; show W3.output = w.output; rw [← hX]; show W2.output = w.output; rw [U6.out.output, BWA.out.output, BD.out.output, HS.out.bl.output]
            · have b1 := HS.out.bl.size; have b2 := BD.out.size; have b3 := BWA.out.size; have b4 := U6.out.size
              rw [← hY, set_blk_other _ (by show q ≠ gk; exact h2), B9.out.block q (by show q < W3.heap.size; omega)]
              show W3.heap[q]? = _
              rw [← hX, set_blk_other _ (by show q ≠ gk; exact h2), U6.out.block q (by omega) h3, BWA.out.block q (by omega), BD.out.block q (by omega), HS.out.bl.block q h1]
      case rest =>
        obtain ⟨rfl, v9, HP⟩ := hcut
        have hsl := selQ_len E st lo j
        have hln : (selQ E st lo j).length ≤ 8 := by omega
        obtain ⟨x7, y7, W7, A7, B7⟩ := app1 elBlk HP.out.lst [.int .u8 t, .int .i64 0, .slice a n c] rfl (by simp [Value.oneCell']) (by omega) (by omega) HP.out.sz
        have HA7 := Lib.hid A7
        have HB7 := Lib.hid B7
        clear A7 B7
        have lt10 := HP.out.lst.lt
        have hpq : putQ E m d st ⟨t, 0, a, n, c, Z⟩ = selQ E st lo j ++ [⟨t, 0, a, n, c, Z⟩] := by
          have e1 := HC.out
          have e2 := HLO.out
          unfold putQ
          rw [← e1, ← e2]
        have hlen : (putQ E m d st ⟨t, 0, a, n, c, Z⟩).length = (selQ E st lo j).length + 1 := by rw [hpq]; simp
        have hokb : ∀ b ∈ putQ E m d st ⟨t, 0, a, n, c, Z⟩, BlkOk W7.heap.size W7 b ∧ b.n ≤ 1500 := by
          intro b hb
          rw [hpq] at hb
          rcases List.mem_append.1 hb with hb | hb
          · obtain ⟨i, hi, rfl⟩ := selQ_mem hb
            have e1 := HC.out
            have e2 := HLO.out
            obtain ⟨⟨w0, w1'⟩, _, w3, w4⟩ := HK.out.wf (lo + i) (by omega) (by omega)
            have o := HP.out.old (lo + i) (by omega) (by omega)
            have o2 := own_but o HA7.out.but (fun k hk e => by
              have h1 := (lt10 k e).1
              have h2 := ((HK.out.dat (lo + i) (by omega) (by omega)).1.lt k hk).2
              omega)
            have fb := far32_bd (E (lo + i)).s st
            obtain ⟨a', c', he, hs⟩ := BS.of_owns o2 w4 (by omega)
            have he' : a' = (E (lo + i)).a ∧ c' = (E (lo + i)).c := by injection he with q1 q2 q3; exact ⟨q1.symm, q3.symm⟩
            rw [he'.1, he'.2] at hs
            exact ⟨⟨w0, by show (E (lo + i)).t ≤ 255; omega, by show _ ≤ far32 _ _; omega, by show far32 _ _ ≤ _; omega, hs⟩, w3⟩
          · simp at hb
            subst hb
            have hbB : Below B w W7 := ⟨HA7.out.but.os.trans HP.out.os, HA7.out.but.tape.trans HP.out.tape, HA7.out.but.output.trans HP.out.output, Nat.le_trans HP.out.sz HA7.out.but.size, fun k hk => by
              rw [HA7.out.but.block k (by have := HP.out.sz; omega) (fun e => by have := (lt10 k e).1; omega)]
              refine HP.out.fr k (by omega) (by have := HK.out.gb; omega) (fun e => ?_)
              have := (HR.out.lt k e).1
              omega⟩
            exact ⟨⟨t0, by show t ≤ 255; omega, by show (-9223372036854775808 : Int) ≤ 0; omega, by show (0 : Int) ≤ 9223372036854775807; omega, (HBS.out.keep hbB).mono (by have := HP.out.sz; have := HA7.out.but.size; omega)⟩, hn⟩
        have hbk := bcL_blks (l := putQ E m d st ⟨t, 0, a, n, c, Z⟩) (by rw [hpq, bcL_app]; exact HA7.out.own) (fun b hb => (hokb b hb).1) (by omega)
        have hWr := write_any W7.heap.size x7 ((selQ E st lo j).length + 1) y7 (fun i => (putQ E m d st ⟨t, 0, a, n, c, Z⟩).getD i default) W7 hbk.2 (Nat.le_refl _) (fun i hi => by
          have hi' : i < (putQ E m d st ⟨t, 0, a, n, c, Z⟩).length := by omega
          simp only [List.getD, List.getElem?_eq_getElem hi', Option.getD_some]
          have := (hokb _ (List.getElem_mem hi')).2
          omega)
        have HWR := Lib.hid hWr
        have KS := Lib.hid (HP.out.kst.but HA7.out.but (own_block HP.out.lst))
        have HLEN := Lib.hid hlen
        clear hWr hbk hokb hpq hlen
        have FIN : Hid (∀ w', Below W7.heap.size W7 w' → (∃ v9 a1 c1, KSt (addE E m ⟨st, t, a1, n, c1, Z⟩) (m + 1) d base gk v9 w' ∧ (∀ g, v9.ownBlock = some g → w.heap.size ≤ g) ∧ (∀ g, (Value.slice a1 n c1).ownBlock = some g → w.heap.size ≤ g)) ∧
          (w'.os = w.os ∧ w'.tape = w.tape ∧ w'.output = w.output ∧ w.heap.size ≤ w'.heap.size ∧ ∀ q, q < w.heap.size → q ≠ gk → (Value.slice va j vc).ownBlock ≠ some q → w'.heap[q]? = w.heap[q]?)) := Lib.hid (fun w' hb => by
          have z1 := HP.out.sz
          have z2 := HA7.out.but.size
          refine ⟨⟨v9, _, _, KS.out.keep hb, HP.out.nv, HP.out.nd⟩, ?_, ?_, ?_, ?_, fun q h1 h2 h3 => ?_⟩
          · rw [hb.os, HA7.out.but.os, HP.out.os]
          · rw [hb.tape, HA7.out.but.tape, HP.out.tape]
          · rw [hb.output, HA7.out.but.output, HP.out.output]
          · have := hb.size; omega
          · rw [hb.block q (by omega), HA7.out.but.block q (by omega) (fun e => by have := (lt10 q e).1; omega), HP.out.fr q h1 h2 h3])
        clear lt10
        go_wp2_with (at_builtin; refine wpList_of_append rfl (.tmp 85) (.tmp 89) 105 rfl _ _ _ rfl rfl HA7.out.run ?_)
        refine HWR.out.mono ?_
        rintro e w' ⟨hc, b8⟩
        obtain ⟨f1, f2⟩ := FIN.out w' b8
        have F1 := Lib.hid f1
        have F2 := Lib.hid f2
        have z7 : w.heap.size ≤ W7.heap.size := by have := HP.out.sz; have := HA7.out.but.size; omega
        clear f1 f2 b8 FIN
        rcases hc with ⟨hw, a5, N, c5, rfl, hN, o5⟩ | ⟨hw, rfl⟩
        · have HW := Lib.hid hw
          have HN := Lib.hid hN
          have O5 := Lib.hid o5
          clear hw hN o5
          go_wp2_with fail
          go_ret2
          exact ⟨F1.out, .inl ⟨by rw [HLEN.out]; exact HW.out, a5, N, c5, rfl, by rw [HLEN.out]; exact HN.out, by rw [HLEN.out]; exact World.ownsRow.mono O5.out z7⟩, F2.out⟩
        · have HW := Lib.hid hw
          clear hw
          go_wp2_with fail
          go_ret2
          exact ⟨F1.out, .inr ⟨by rw [HLEN.out]; exact HW.out, rfl⟩, F2.out⟩
end Go.Proofs.Ytdmbdageohjodaa
