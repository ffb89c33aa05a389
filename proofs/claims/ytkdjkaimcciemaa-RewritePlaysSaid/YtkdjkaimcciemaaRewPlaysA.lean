/-
  Both machines of chapter 22 beside one another: one step.
-/
import Derived.Test.YtkdjkaimcciemaaRewRef3
namespace Go.Proofs.Ytkdjkaimcciemaa
open Go.RowKit
set_option linter.unusedVariables false
set_option linter.unusedSimpArgs false

/-- the bounds, ahead of op k -/
structure PI (k : Nat) (f a1 a3 b1 b3 c1 c2 c3 : Int) : Prop where
  f : 0 ≤ f ∧ f ≤ 46116860184273879
  a : 0 ≤ a1 ∧ a1 ≤ 46116860184273879
  d : 0 ≤ a3 ∧ a3 ≤ 65535
  b : 0 ≤ b1 ∧ b1 ≤ 46116860184273879 + k * 46116860184273880
  e : 0 ≤ b3 ∧ b3 ≤ 65535
  c : 0 ≤ c1 ∧ c1 ≤ 46116860184273879 + k * 46116860184273880
  x : 0 ≤ c2 ∧ c2 ≤ 4294967295
  y : 0 ≤ c3 ∧ c3 ≤ 65535
theorem PI.next {k : Nat} {f a1 a3 b1 b3 c1 c2 c3 : Int} (h : PI k f a1 a3 b1 b3 c1 c2 c3) : PI (k + 1) f a1 a3 b1 b3 c1 c2 c3 := by
  obtain ⟨h1, h2, h3, h4, h5, h6, h7, h8⟩ := h
  exact ⟨h1, h2, h3, by omega, h5, by omega, h7, h8⟩
theorem PI.follow {k : Nat} {f a1 a3 b1 b3 c1 c2 c3 : Int} (h : PI k f a1 a3 b1 b3 c1 c2 c3) (o : Bool) (x1 x3 : Int) (hx : 0 ≤ x1 ∧ x1 ≤ 46116860184273879) (hx3 : 0 ≤ x3 ∧ x3 ≤ 65535) : PI (k + 1) f x1 x3 (nx1 f o c1) (nx3 o c3) c1 c2 c3 := by
  obtain ⟨h1, h2, h3, h4, h5, h6, h7, h8⟩ := h
  refine ⟨h1, hx, hx3, ?_, ?_, by omega, h7, h8⟩
  · unfold nx1; cases o <;> simp <;> omega
  · unfold nx3; cases o <;> simp <;> omega
theorem PI.map {k : Nat} {f a1 a3 b1 b3 c1 c2 c3 : Int} (h : PI k f a1 a3 b1 b3 c1 c2 c3) (t : Bool) (a2 b2 x1 x2 x3 : Int) (hx : a1 ≤ x1 ∧ x1 ≤ 46116860184273879) : PI (k + 1) f a1 a3 b1 b3 (bif t then my1 a1 b1 x1 else c1) (bif t then my2 a2 b2 x2 else c2) (bif t then my3 a3 b3 x3 else c3) := by
  obtain ⟨h1, h2, h3, h4, h5, h6, h7, h8⟩ := h
  refine ⟨h1, h2, h3, by omega, h5, ?_, ?_, ?_⟩
  · unfold my1; cases t <;> simp <;> omega
  · unfold my2; cases t <;> simp <;> omega
  · unfold my3; cases t <;> simp <;> omega
theorem topTo_congr (O O' : Nat → Int × Int × Int) (n : Nat) (h : ∀ i, i < n → O' i = O i) : topTo O' n = topTo O n := by
  induction n with
  | zero => rfl
  | succ n ih =>
    have hb := topTo_bd O n
    unfold topTo
    rw [ih (fun i hi => h i (by omega)), h n (by omega)]
    by_cases h0 : topTo O n < 0
    · rw [if_pos (.inl h0), if_pos (.inl h0)]
    · rw [h (topTo O n).toNat (by omega)]
theorem lnk_map {O : Nat → Int × Int × Int} {n : Nat} {o : Bool} {c1 c2 c3 : Int} (h : lnk O n o c1 c2 c3) (y1 y2 y3 : Int) : lnk (fun i => if i = n then (y1, y2, y3) else O i) (n + 1) true (bif mtop c1 o y1 then y1 else c1) (bif mtop c1 o y1 then y2 else c2) (bif mtop c1 o y1 then y3 else c3) := by
  refine .inr ⟨by omega, rfl, ?_⟩
  have e := topTo_congr O (fun i => if i = n then (y1, y2, y3) else O i) n (fun i hi => if_neg (by omega))
  have hb := topTo_bd O n
  rcases h with ⟨rfl, rfl⟩ | ⟨h0, rfl, hO⟩
  · have ht : topTo (fun i => if i = 0 then (y1, y2, y3) else O i) (0 + 1) = ((0 : Nat) : Int) := by
      unfold topTo; exact if_pos (.inl (by show (-1 : Int) < 0; decide))
    rw [ht]
    simp [mtop]
  · have h1 := hb.2.2 h0
    have hne : (topTo O n).toNat ≠ n := by omega
    by_cases hc : c1 ≤ y1
    · have hm : mtop c1 true y1 = true := by unfold mtop; simp [hc]
      have ht : topTo (fun i => if i = n then (y1, y2, y3) else O i) (n + 1) = (n : Int) := by
        unfold topTo; rw [e]; refine if_pos (.inr ?_); simp only [if_pos, if_neg hne, hO]; exact hc
      rw [ht, hm]
      simp
    · have hm : mtop c1 true y1 = false := by unfold mtop; simp; omega
      have ht : topTo (fun i => if i = n then (y1, y2, y3) else O i) (n + 1) = topTo O n := by
        show (if topTo (fun i => if i = n then (y1, y2, y3) else O i) n < 0 ∨ _ then (n : Int) else topTo (fun i => if i = n then (y1, y2, y3) else O i) n) = _; rw [e]; refine if_neg ?_; rintro (h | h); omega; simp only [if_pos, if_neg hne, hO] at h; exact hc h
      rw [ht, hm]
      simp [hne, hO]

theorem map_all (base g r : Nat) (f : Int) (fo : Bool) (a1 a2 a3 b1 b2 b3 : Int) (o : Bool) (c1 c2 c3 : Int) (n : Nat) (O : Nat → Int × Int × Int) (x1 x2 x3 : Int) (k : Nat) (h : PI k f a1 a3 b1 b3 c1 c2 c3) (hl : lnk O n o c1 c2 c3) (hz : fo = false → n = 0) (hn : n ≤ k) (hk : k < 40) (hx : x1 ≤ 46116860184273879) (hx3 : 0 ≤ x3 ∧ x3 ≤ 65535) :
    ∃ (z1 z2 z3 er : Int) (o' : Bool) (d1 d2 d3 : Int) (n' : Nat) (O' : Nat → Int × Int × Int), PI (k + 1) f a1 a3 b1 b3 d1 d2 d3 ∧ lnk O' n' o' d1 d2 d3 ∧ n' ≤ k + 1 ∧ (fo = false → n' = 0) ∧
      (∀ V, wrt V g f fo a1 a2 a3 b1 b2 b3 o c1 c2 c3 → Calls Try.prog 39 #[.pointer (some ⟨g, 0, none⟩), mapped x1 x2 x3] V fun e w' => e = .returned (.tuple #[mapped z1 z2 z3, .int .i64 er]) ∧ wrt w' g f fo a1 a2 a3 b1 b2 b3 o' d1 d2 d3 ∧ Keeps g V w') ∧
      (∀ U v, rwr U r f fo a1 a2 a3 b1 b2 b3 v → outs U base g r v n O → base ≤ U.heap.size → g < U.heap.size → Calls Try.prog 41 #[.pointer (some ⟨r, 0, none⟩), mapped x1 x2 x3] U fun e w' => e = .returned (.tuple #[mapped z1 z2 z3, .int .i64 er]) ∧
        ∃ v', rwr w' r f fo a1 a2 a3 b1 b2 b3 v' ∧ outs w' base g r v' n' O' ∧ (∀ k, k < U.heap.size → k ≠ r → v.ownBlock ≠ some k → w'.heap[k]? = U.heap[k]?) ∧ U.heap.size ≤ w'.heap.size ∧ w'.os = U.os ∧ w'.tape = U.tape ∧ w'.output = U.output) := by
  by_cases hs : fo = false ∨ x1 < 0
  · refine ⟨0, 0, 0, 10, o, c1, c2, c3, n, O, h.next, hl, by omega, hz, fun V hV => (map_state g f fo a1 a2 a3 b1 b2 b3 o c1 c2 c3 x1 x2 x3 V hV hs).mono ?_, fun U v hU hO _ _ => (rrmap_state r f fo a1 a2 a3 b1 b2 b3 v x1 x2 x3 U hU hs).mono ?_⟩
    · rintro e w' ⟨rfl, hb⟩
      exact ⟨rfl, Below.blk hb hV hV.lt, (Keeps.refl g V).of_below hb⟩
    · rintro e w' ⟨rfl, hb⟩
      exact ⟨rfl, v, Below.blk hb hU hU.lt, hO.below hb, fun k hk _ _ => hb.block k hk, hb.size, hb.os, hb.tape, hb.output⟩
  have hx0 : 0 ≤ x1 := by rcases Int.lt_or_le x1 0 with h | h; exact absurd (.inr h) hs; exact h
  obtain rfl : fo = true := by cases fo; exact absurd (.inl rfl) hs; rfl
  by_cases ho : x1 < a1
  · refine ⟨0, 0, 0, 5, o, c1, c2, c3, n, O, h.next, hl, by omega, hz, fun V hV => (map_old g f a1 a2 a3 b1 b2 b3 o c1 c2 c3 x1 x2 x3 V hV hx0 ho).mono ?_, fun U v hU hO _ _ => (rrmap_old r f a1 a2 a3 b1 b2 b3 v x1 x2 x3 U hU hx0 ho).mono ?_⟩
    · rintro e w' ⟨rfl, hb⟩
      exact ⟨rfl, Below.blk hb hV hV.lt, (Keeps.refl g V).of_below hb⟩
    · rintro e w' ⟨rfl, hb⟩
      exact ⟨rfl, v, Below.blk hb hU hU.lt, hO.below hb, fun k hk _ _ => hb.block k hk, hb.size, hb.os, hb.tape, hb.output⟩
  have hbd : 0 ≤ a1 ∧ 0 ≤ b1 ∧ b1 + x1 ≤ 9223372036854775807 := by
    have h1 := h.a; have h2 := h.b; omega
  exact ⟨my1 a1 b1 x1, my2 a2 b2 x2, my3 a3 b3 x3, 0, true, _, _, _, n + 1, _, h.map (mtop c1 o (my1 a1 b1 x1)) a2 b2 x1 x2 x3 ⟨by omega, hx⟩, lnk_map hl _ _ _, by omega, fun h => (by cases h),
    fun V hV => map_any g f a1 a2 a3 b1 b2 b3 o c1 c2 c3 x1 x2 x3 V hV hx0 (by omega) hbd,
    fun U v hU hO hbs hg => rrmap_any base g r f a1 a2 a3 b1 b2 b3 v n O x1 x2 x3 U hU hO hbs hg (by omega) hx0 (by omega) ⟨hbd.1, hbd.2.1, hbd.2.2, by omega⟩ h.d h.e hx3⟩

theorem follow_all (base g r : Nat) (f : Int) (fo : Bool) (a1 a2 a3 b1 b2 b3 : Int) (o : Bool) (c1 c2 c3 : Int) (n : Nat) (O : Nat → Int × Int × Int) (x1 x2 x3 : Int) (k : Nat) (h : PI k f a1 a3 b1 b3 c1 c2 c3) (hl : lnk O n o c1 c2 c3) (hz : fo = false → n = 0) (hn : n ≤ k) (hk : k < 40) (hx : x1 ≤ 46116860184273879) (hx3 : 0 ≤ x3 ∧ x3 ≤ 65535) :
    ∃ (er : Int) (fo' : Bool) (p1 p2 p3 q1 q2 q3 : Int), PI (k + 1) f p1 p3 q1 q3 c1 c2 c3 ∧ (fo' = false → n = 0) ∧
      (∀ V, wrt V g f fo a1 a2 a3 b1 b2 b3 o c1 c2 c3 → Calls Try.prog 38 #[.pointer (some ⟨g, 0, none⟩), mapped x1 x2 x3] V fun e w' => e = .returned (.int .i64 er) ∧ wrt w' g f fo' p1 p2 p3 q1 q2 q3 o c1 c2 c3 ∧ Keeps g V w') ∧
      (∀ U v, rwr U r f fo a1 a2 a3 b1 b2 b3 v → outs U base g r v n O → Calls Try.prog 42 #[.pointer (some ⟨r, 0, none⟩), mapped x1 x2 x3] U fun e w' => e = .returned (.int .i64 er) ∧ rwr w' r f fo' p1 p2 p3 q1 q2 q3 v ∧ Keeps r U w') := by
  by_cases hs : x1 < 0
  · refine ⟨10, fo, a1, a2, a3, b1, b2, b3, h.next, hz, fun V hV => (follow_no g x1 x2 x3 V hs).mono ?_, fun U v hU hO => (rrfollow_no r x1 x2 x3 U hs).mono ?_⟩
    · rintro e w' ⟨rfl, hb⟩
      exact ⟨rfl, Below.blk hb hV hV.lt, (Keeps.refl g V).of_below hb⟩
    · rintro e w' ⟨rfl, hb⟩
      exact ⟨rfl, Below.blk hb hU hU.lt, (Keeps.refl r U).of_below hb⟩
  have hc := h.c
  exact ⟨0, true, x1, x2, x3, _, _, _, h.follow o x1 x3 ⟨by omega, hx⟩ hx3, fun h => (by cases h),
    fun V hV => follow_any g f fo a1 a2 a3 b1 b2 b3 o c1 c2 c3 x1 x2 x3 V hV (by omega) h.y (by omega),
    fun U v hU hO => rrfollow_any base g r f fo a1 a2 a3 b1 b2 b3 v n O o c1 c2 c3 x1 x2 x3 U hU hO (by omega) hl (by omega) (by omega) h.x h.y⟩

theorem rwops_of {w : World} {v : Value} (h : Reads Try.prog w 6 75 v) : ∃ a len cap b off, ∃ (M : Nat → Bool) (X Y Z : Nat → Int), v = .slice a len cap ∧ (0 < cap → a = some ⟨b, off, none⟩ ∧ b < w.heap.size) ∧ len ≤ cap ∧ cap ≤ 9223372036854775807 ∧
    (∀ i, i < cap → w.cell? ⟨b, off + i * 4, none⟩ = some (.bool (M i)) ∧ w.cell? ⟨b, off + i * 4 + 1, none⟩ = some (.int .i64 (X i)) ∧ w.cell? ⟨b, off + i * 4 + 2, none⟩ = some (.int .u32 (Y i)) ∧ w.cell? ⟨b, off + i * 4 + 3, none⟩ = some (.int .u16 (Z i))) ∧
    ∀ i, i < cap → (-9223372036854775808 ≤ X i ∧ X i ≤ 9223372036854775807) ∧ (0 ≤ Y i ∧ Y i ≤ 4294967295) ∧ (0 ≤ Z i ∧ Z i ≤ 65535) := by
  obtain ⟨a, len, cap, b, off, V, rfl, row⟩ := reads_slice Try.underlying75 (ts := [4, 2, 23, 66]) (by kernel_rfl) (by kernel_rfl) (by decide) h
  obtain ⟨M, hM⟩ := Deep.choose_lt (n := cap) (p := fun i (x : Bool) => V i 0 = .bool x) (fun i hi => reads_bool Try.underlying4 (row.read i hi 0 _ rfl))
  obtain ⟨X, hX⟩ := Deep.choose_lt (n := cap) (p := fun i (x : Int) => V i 1 = .int .i64 x ∧ (Lit.int .i64 x).wf = true) (fun i hi => reads_int Try.underlying2 (row.read i hi 1 _ rfl))
  obtain ⟨Y, hY⟩ := Deep.choose_lt (n := cap) (p := fun i (x : Int) => V i 2 = .int .u32 x ∧ (Lit.int .u32 x).wf = true) (fun i hi => reads_int Try.underlying23 (row.read i hi 2 _ rfl))
  obtain ⟨Z, hZ⟩ := Deep.choose_lt (n := cap) (p := fun i (x : Int) => V i 3 = .int .u16 x ∧ (Lit.int .u16 x).wf = true) (fun i hi => reads_int Try.underlying66 (row.read i hi 3 _ rfl))
  have hm := row.max
  unfold maxLen at hm
  refine ⟨a, len, cap, b, off, M, X, Y, Z, rfl, row.addr, row.le, by omega, fun i hi => ⟨?_, ?_, ?_, ?_⟩, fun i hi => ⟨bounds_i64 (hX i hi).2, bounds_u32 (hY i hi).2, bounds_u16 (hZ i hi).2⟩⟩
  · have := row.cell i hi 0 (by decide); simpa [(hM i hi)] using this
  · have := row.cell i hi 1 (by decide); simpa [(hX i hi).1, Nat.add_assoc] using this
  · have := row.cell i hi 2 (by decide); simpa [(hY i hi).1, Nat.add_assoc] using this
  · have := row.cell i hi 3 (by decide); simpa [(hZ i hi).1, Nat.add_assoc] using this
/-- what holds of both, ahead of each op -/
structure RP (w0 wr : World) (g r k : Nat) (f : Int) (fo : Bool) (a1 a2 a3 b1 b2 b3 : Int) (o : Bool) (c1 c2 c3 : Int) (v : Value) (n : Nat) (O : Nat → Int × Int × Int) : Prop where
  x : wrt wr g f fo a1 a2 a3 b1 b2 b3 o c1 c2 c3
  y : rwr wr r f fo a1 a2 a3 b1 b2 b3 v
  s : outs wr w0.heap.size g r v n O
  l : lnk O n o c1 c2 c3
  b : Below w0.heap.size w0 wr
  i : PI k f a1 a3 b1 b3 c1 c2 c3
  m : n ≤ k
  z : fo = false → n = 0
theorem outs.far {w : World} {base g r : Nat} {v : Value} {n : Nat} {O : Nat → Int × Int × Int} (h : outs w base g r v n O) (k : Nat) (hk : k < base ∨ k = g ∨ w.heap.size ≤ k) : v.ownBlock ≠ some k := fun e => by
  have h1 := h.own.lt k e
  have h2 := h.ne k e
  omega
theorem boxes2 (w : World) (A B : Obj) : ((w.alloc A).alloc B).heap[w.heap.size]? = some A ∧ ((w.alloc A).alloc B).heap[w.heap.size + 1]? = some B := by
  refine ⟨?_, ?_⟩
  · rw [heap_alloc, heap_alloc, if_neg (by simp), if_pos rfl]
  · rw [heap_alloc, if_pos (by simp)]
theorem RP.drewN {w0 wr : World} {g r k : Nat} {f : Int} {fo : Bool} {a1 a2 a3 b1 b2 b3 : Int} {o : Bool} {c1 c2 c3 : Int} {v : Value} {n : Nat} {O : Nat → Int × Int × Int} (h : RP w0 wr g r k f fo a1 a2 a3 b1 b2 b3 o c1 c2 c3 v n O) (m : Nat) : RP w0 (wr.drewN m) g r k f fo a1 a2 a3 b1 b2 b3 o c1 c2 c3 v n O := ⟨h.x, h.y, ⟨h.s.own, h.s.ne⟩, h.l, below_drewN0 h.b m, h.i, h.m, h.z⟩
theorem RP.alloc {w0 wr : World} {g r k : Nat} {f : Int} {fo : Bool} {a1 a2 a3 b1 b2 b3 : Int} {o : Bool} {c1 c2 c3 : Int} {v : Value} {n : Nat} {O : Nat → Int × Int × Int} (h : RP w0 wr g r k f fo a1 a2 a3 b1 b2 b3 o c1 c2 c3 v n O) (x : Obj) : RP w0 (wr.alloc x) g r k f fo a1 a2 a3 b1 b2 b3 o c1 c2 c3 v n O := ⟨wrt_alloc h.x _, rwr_alloc h.y _, h.s.below ((Below.refl _ _).alloc (Nat.le_refl _) _), h.l, h.b.alloc h.b.size _, h.i, h.m, h.z⟩
end Go.Proofs.Ytkdjkaimcciemaa
