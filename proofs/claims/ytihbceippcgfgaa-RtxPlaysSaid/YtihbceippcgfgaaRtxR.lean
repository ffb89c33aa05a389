/-
  Chapter 34: both tables, step by step.
-/
import Derived.Test.YtihbceippcgfgaaRtxI
import Derived.Test.YtihbceippcgfgaaRtxP
import Derived.Test.YtihbceippcgfgaaRtxD
namespace Go.Proofs.Ytihbceippcgfgaa
open Go.RowKit
set_option linter.unusedVariables false
set_option linter.unusedSimpArgs false
attribute [local irreducible] wpStill wpQuiet

/-- the maps are what the rows say -/
structure RelP (cnt : Nat) (A B T N : Nat → Int) (f1 : Int → Option (Int × Int × Int)) (f2 : Int → Option Int) : Prop where
  r1 : ∀ x, f1 x = (findI A x cnt).map fun i => (B i, T i, N i)
  r2 : ∀ y, f2 y = (findI B y cnt).map fun i => A i
  ia : ∀ i j, i < cnt → j < cnt → A i = A j → i = j
  ib : ∀ i j, i < cnt → j < cnt → B i = B j → i = j
  wb : ∀ i, i < cnt → (Lit.int .u32 (B i)).wf = true
  wa : ∀ i, i < cnt → (Lit.int .u32 (A i)).wf = true
  nn : ∀ i, i < cnt → 0 ≤ N i ∧ N i ≤ 65535
theorem findI_upd {A : Nat → Int} {cnt : Nat} {a x : Int} : findI (updN A cnt a) x (cnt + 1) = match findI A x cnt with | some i => some i | none => if a = x then some cnt else none := by
  have h : findI (updN A cnt a) x cnt = findI A x cnt := by
    cases h : findI A x cnt with
    | none => exact findI_none.2 (fun j hj => by unfold updN; rw [if_neg (by omega)]; exact findI_none.1 h j hj)
    | some i =>
      obtain ⟨h1, h2, h3⟩ := findI_some h
      exact findI_mk h1 (by unfold updN; rw [if_neg (by omega)]; exact h2) (fun j hj => by unfold updN; rw [if_neg (by omega)]; exact h3 j hj)
  show (match findI (updN A cnt a) x cnt with | some i => some i | none => if updN A cnt a cnt = x then some cnt else none) = _
  rw [h]
  have e : updN A cnt a cnt = a := by unfold updN; rw [if_pos rfl]
  rw [e]
theorem updN_lt {α : Type} {f : Nat → α} {n i : Nat} {x : α} (h : i < n) : updN f n x i = f i := by unfold updN; rw [if_neg (by omega)]
theorem updN_at {α : Type} {f : Nat → α} {n : Nat} {x : α} : updN f n x n = x := by unfold updN; rw [if_pos rfl]
/-- a pair is laid -/
theorem RelP.pair {cnt : Nat} {A B T N : Nat → Int} {f1 : Int → Option (Int × Int × Int)} {f2 : Int → Option Int} (h : RelP cnt A B T N f1 f2) {a b typ : Int} (ha : (Lit.int .u32 a).wf = true) (hb : (Lit.int .u32 b).wf = true) (h0 : findI A a cnt = none) (h3 : findI B b cnt = none) :
    RelP (cnt + 1) (updN A cnt a) (updN B cnt b) (updN T cnt typ) (updN N cnt 0) (updI f1 a (some (b, typ, 0))) (updI f2 b (some a)) := by
  refine ⟨fun x => ?_, fun y => ?_, fun i j hi hj e => ?_, fun i j hi hj e => ?_, fun i hi => ?_, fun i hi => ?_, fun i hi => ?_⟩
  · rw [findI_upd]
    unfold updI
    by_cases hx : x = a
    · subst hx
      rw [if_pos rfl, h0]
      simp [updN_at]
    · rw [if_neg hx, h.r1 x]
      cases hf : findI A x cnt with
      | none => simp [Ne.symm hx]
      | some i =>
        have := (findI_some hf).1
        simp [updN_lt this]
  · rw [findI_upd]
    unfold updI
    by_cases hx : y = b
    · subst hx
      rw [if_pos rfl, h3]
      simp [updN_at]
    · rw [if_neg hx, h.r2 y]
      cases hf : findI B y cnt with
      | none => simp [Ne.symm hx]
      | some i =>
        have := (findI_some hf).1
        simp [updN_lt this]
  · have key : ∀ i, i < cnt → A i ≠ a := findI_none.1 h0
    by_cases h1 : i = cnt <;> by_cases h2 : j = cnt
    · omega
    · subst h1; rw [updN_at, updN_lt (by omega)] at e; exact absurd e.symm (key j (by omega))
    · subst h2; rw [updN_at, updN_lt (by omega)] at e; exact absurd e (key i (by omega))
    · rw [updN_lt (by omega), updN_lt (by omega)] at e; exact h.ia i j (by omega) (by omega) e
  · have key : ∀ i, i < cnt → B i ≠ b := findI_none.1 h3
    by_cases h1 : i = cnt <;> by_cases h2 : j = cnt
    · omega
    · subst h1; rw [updN_at, updN_lt (by omega)] at e; exact absurd e.symm (key j (by omega))
    · subst h2; rw [updN_at, updN_lt (by omega)] at e; exact absurd e (key i (by omega))
    · rw [updN_lt (by omega), updN_lt (by omega)] at e; exact h.ib i j (by omega) (by omega) e
  · by_cases h1 : i = cnt
    · subst h1; rw [updN_at]; exact hb
    · rw [updN_lt (by omega)]; exact h.wb i (by omega)
  · by_cases h1 : i = cnt
    · subst h1; rw [updN_at]; exact ha
    · rw [updN_lt (by omega)]; exact h.wa i (by omega)
  · by_cases h1 : i = cnt
    · subst h1; rw [updN_at]; omega
    · rw [updN_lt (by omega)]; exact h.nn i (by omega)
theorem findI_dl {A : Nat → Int} {cnt p : Nat} (hp : p < cnt) (inj : ∀ i j, i < cnt → j < cnt → A i = A j → i = j) (x : Int) :
    findI (dl p A) x (cnt - 1) = if x = A p then none else (findI A x cnt).map fun i => if i < p then i else i - 1 := by
  by_cases hx : x = A p
  · rw [if_pos hx]
    refine findI_none.2 (fun j hj e => ?_)
    unfold dl at e
    by_cases h : j < p
    · rw [if_pos h] at e; have := inj j p (by omega) hp (e.trans hx); omega
    · rw [if_neg h] at e; have := inj (j + 1) p (by omega) hp (e.trans hx); omega
  · rw [if_neg hx]
    cases hf : findI A x cnt with
    | none =>
      have := findI_none.1 hf
      refine findI_none.2 (fun j hj e => ?_)
      unfold dl at e
      by_cases h : j < p
      · rw [if_pos h] at e; exact this j (by omega) e
      · rw [if_neg h] at e; exact this (j + 1) (by omega) e
    | some i =>
      obtain ⟨h1, h2, h3⟩ := findI_some hf
      have hip : i ≠ p := fun e => hx (by rw [← h2, e])
      show _ = some (if i < p then i else i - 1)
      by_cases h : i < p
      · rw [if_pos h]
        refine findI_mk (by omega) (by unfold dl; rw [if_pos h]; exact h2) (fun j hj => ?_)
        unfold dl; rw [if_pos (by omega)]; exact h3 j hj
      · rw [if_neg h]
        refine findI_mk (by omega) (by unfold dl; rw [if_neg (by omega), show i - 1 + 1 = i by omega]; exact h2) (fun j hj => ?_)
        unfold dl
        by_cases h4 : j < p
        · rw [if_pos h4]; exact h3 j (by omega)
        · rw [if_neg h4]; exact h3 (j + 1) (by omega)
theorem dl_if {L : Nat → Int} {p i : Nat} (hip : i ≠ p) : dl p L (if i < p then i else i - 1) = L i := by
  unfold dl
  by_cases h : i < p
  · simp [h]
  · simp only [h, if_false]
    rw [if_neg (by omega), show i - 1 + 1 = i by omega]
/-- a pair is dropped -/
theorem RelP.drop {cnt : Nat} {A B T N : Nat → Int} {f1 : Int → Option (Int × Int × Int)} {f2 : Int → Option Int} (h : RelP cnt A B T N f1 f2) {p : Nat} (hp : p < cnt) :
    RelP (cnt - 1) (dl p A) (dl p B) (dl p T) (dl p N) (updI f1 (A p) none) (updI f2 (B p) none) := by
  have hdl : ∀ (L : Nat → Int) i, i < cnt - 1 → ∃ j, j < cnt ∧ j ≠ p ∧ dl p L i = L j ∧ j = if i < p then i else i + 1 := fun L i hi => by
    by_cases h : i < p
    · exact ⟨i, by omega, by omega, by unfold dl; rw [if_pos h], by rw [if_pos h]⟩
    · exact ⟨i + 1, by omega, by omega, by unfold dl; rw [if_neg h], by rw [if_neg h]⟩
  refine ⟨fun x => ?_, fun y => ?_, fun i j hi hj e => ?_, fun i j hi hj e => ?_, fun i hi => ?_, fun i hi => ?_, fun i hi => ?_⟩
  · rw [findI_dl hp h.ia]
    unfold updI
    by_cases hx : x = A p
    · rw [if_pos hx, if_pos hx]; rfl
    · rw [if_neg hx, if_neg hx, h.r1 x]
      cases hf : findI A x cnt with
      | none => rfl
      | some i =>
        have hip : i ≠ p := fun e => hx (by rw [← (findI_some hf).2.1, e])
        simp only [Option.map_some, dl_if hip]
  · rw [findI_dl hp h.ib]
    unfold updI
    by_cases hx : y = B p
    · rw [if_pos hx, if_pos hx]; rfl
    · rw [if_neg hx, if_neg hx, h.r2 y]
      cases hf : findI B y cnt with
      | none => rfl
      | some i =>
        have hip : i ≠ p := fun e => hx (by rw [← (findI_some hf).2.1, e])
        simp only [Option.map_some, dl_if hip]
  · obtain ⟨i', a1, a2, a3, a4⟩ := hdl A i hi
    obtain ⟨j', b1, b2, b3, b4⟩ := hdl A j hj
    have := h.ia i' j' a1 b1 (by rw [← a3, ← b3]; exact e)
    split at a4 <;> split at b4 <;> omega
  · obtain ⟨i', a1, a2, a3, a4⟩ := hdl B i hi
    obtain ⟨j', b1, b2, b3, b4⟩ := hdl B j hj
    have := h.ib i' j' a1 b1 (by rw [← a3, ← b3]; exact e)
    split at a4 <;> split at b4 <;> omega
  · obtain ⟨j, a1, _, a3, _⟩ := hdl B i hi; rw [a3]; exact h.wb j a1
  · obtain ⟨j, a1, _, a3, _⟩ := hdl A i hi; rw [a3]; exact h.wa j a1
  · obtain ⟨j, a1, _, a3, _⟩ := hdl N i hi; rw [a3]; exact h.nn j a1
/-- a packet was sent again -/
theorem RelP.again {cnt : Nat} {A B T N : Nat → Int} {f1 : Int → Option (Int × Int × Int)} {f2 : Int → Option Int} (h : RelP cnt A B T N f1 f2) {p : Nat} (hp : p < cnt) (z : Int) (hz : 0 ≤ z ∧ z ≤ 65535) :
    RelP cnt A B T (updN N p z) (updI f1 (A p) (some (B p, T p, z))) f2 := by
  refine ⟨fun x => ?_, h.r2, h.ia, h.ib, h.wb, h.wa, fun i hi => ?_⟩
  · unfold updI
    by_cases hx : x = A p
    · rw [if_pos hx, hx, findI_mk hp rfl (fun j hj e => by have := h.ia j p (by omega) hp e; omega)]
      simp [updN_at]
    · rw [if_neg hx, h.r1 x]
      cases hf : findI A x cnt with
      | none => rfl
      | some i =>
        have hip : i ≠ p := fun e => hx (by rw [← (findI_some hf).2.1, e])
        simp [updN, hip]
  · unfold updN; split
    · exact hz
    · exact h.nn i hi
theorem relP_nil : RelP 0 (fun _ => 0) (fun _ => 0) (fun _ => 0) (fun _ => 0) (fun _ => none) (fun _ => none) :=
  ⟨fun _ => rfl, fun _ => rfl, fun i j h => by omega, fun i j h => by omega, fun i h => by omega, fun i h => by omega, fun i h => by omega⟩
/-- both tables -/
structure St (w0 w : World) (g bp bf gr : Nat) (av : List Nat) (n : Nat) (f1 : Int → Option (Int × Int × Int)) (f2 : Int → Option Int) (va vb vc vd : Value) (cnt : Nat) (A B T N : Nat → Int) : Prop where
  bl : Below w0.heap.size w0 w
  tab : Tab w g bp bf n (pairsOf f1) (firstOf f2) cnt cnt
  rt : RT w w0.heap.size gr av va vb vc vd cnt A B T N
  rel : RelP cnt A B T N f1 f2
  le : cnt ≤ 16
  pb : w0.heap.size ≤ bp
  fb : w0.heap.size ≤ bf
  mg : g ∈ av
  mp : bp ∈ av
  mf : bf ∈ av
  n1 : g ≠ gr
  n2 : bp ≠ gr
  n3 : bf ≠ gr
def Stt (w0 w : World) (g bp bf gr : Nat) (av : List Nat) (n : Nat) : Prop := ∃ f1 f2 va vb vc vd cnt A B T N, St w0 w g bp bf gr av n f1 f2 va vb vc vd cnt A B T N
theorem RT.keepL {w w' : World} {base gr : Nat} {av : List Nat} {a b c d : Value} {n : Nat} {A B T N : Nat → Int} {l : List Nat} (h : RT w base gr av a b c d n A B T N) (hk : KeepsL l w w') (hl : ∀ x ∈ l, x ∈ av) (hg : gr ∉ l) : RT w' base gr av a b c d n A B T N :=
  RTab.stay h hk.size (hk.block gr (lt_of_block h.blk) hg) (fun k hk' => by
    obtain ⟨j, hj, e⟩ := mem_owns.1 hk'
    exact hk.block k ((h.col j hj).lt k e).2 (fun hm => h.ng j hj k (hl k hm) e))
theorem Tab.stay {w w' : World} {g bp bf n : Nat} {F1 F2 : Int → Option Value} {s1 s2 : Nat} (h : Tab w g bp bf n F1 F2 s1 s2) (h1 : w'.heap[g]? = w.heap[g]?) (h2 : w'.heap[bp]? = w.heap[bp]?) (h3 : w'.heap[bf]? = w.heap[bf]?) : Tab w' g bp bf n F1 F2 s1 s2 :=
  ⟨h1.trans h.blk, h.m1.of_blk h2, h.m2.of_blk h3, h.n1, h.n2, h.n3⟩
theorem St.keep {w0 w w' : World} {g bp bf gr : Nat} {av : List Nat} {n : Nat} {f1 : Int → Option (Int × Int × Int)} {f2 : Int → Option Int} {va vb vc vd : Value} {cnt : Nat} {A B T N : Nat → Int} (h : St w0 w g bp bf gr av n f1 f2 va vb vc vd cnt A B T N) (hb : Below w.heap.size w w') : St w0 w' g bp bf gr av n f1 f2 va vb vc vd cnt A B T N :=
  ⟨h.bl.trans (hb.mono h.bl.size), h.tab.keep hb, h.rt.keep hb, h.rel, h.le, h.pb, h.fb, h.mg, h.mp, h.mf, h.n1, h.n2, h.n3⟩
theorem Stt.keep {w0 w w' : World} {g bp bf gr : Nat} {av : List Nat} {n : Nat} (h : Stt w0 w g bp bf gr av n) (hb : Below w.heap.size w w') : Stt w0 w' g bp bf gr av n := by
  obtain ⟨f1, f2, va, vb, vc, vd, cnt, A, B, T, N, h⟩ := h
  exact ⟨_, _, _, _, _, _, _, _, _, _, _, h.keep hb⟩
theorem Stt.mono {w0 w : World} {g bp bf gr : Nat} {av : List Nat} {n n' : Nat} (h : Stt w0 w g bp bf gr av n) (hn : n ≤ n') : Stt w0 w g bp bf gr av n' := by
  obtain ⟨f1, f2, va, vb, vc, vd, cnt, A, B, T, N, h⟩ := h
  exact ⟨_, _, _, _, _, _, _, _, _, _, _, ⟨h.bl, h.tab.mono hn, h.rt, h.rel, h.le, h.pb, h.fb, h.mg, h.mp, h.mf, h.n1, h.n2, h.n3⟩⟩
theorem RelP.s1 {cnt : Nat} {A B T N : Nat → Int} {f1 : Int → Option (Int × Int × Int)} {f2 : Int → Option Int} (h : RelP cnt A B T N f1 f2) (x : Int) : (f1 x).isSome = (findI A x cnt).isSome := by rw [h.r1 x]; cases findI A x cnt <;> rfl
theorem RelP.s2 {cnt : Nat} {A B T N : Nat → Int} {f1 : Int → Option (Int × Int × Int)} {f2 : Int → Option Int} (h : RelP cnt A B T N f1 f2) (x : Int) : (f2 x).isSome = (findI B x cnt).isSome := by rw [h.r2 x]; cases findI B x cnt <;> rfl
/-- Pair of both: one code; what both tables are behind it -/
theorem pair_both {w0 w : World} {g bp bf gr : Nat} {av : List Nat} {n : Nat} (h : Stt w0 w g bp bf gr av n) (hn : n < 1000) (a b typ : Int) (ha : (Lit.int .u32 a).wf = true) (hb : (Lit.int .u32 b).wf = true) :
    ∃ code : Int, Calls Try.prog 32 #[.pointer (some ⟨g, 0, none⟩), .int .u32 a, .int .u32 b, .int .u8 typ] w fun e w1 => e = .returned (.int .i64 code) ∧ (∀ k ∈ av, k ≠ bp → k ≠ bf → w1.heap[k]? = w.heap[k]?) ∧ w.heap.size ≤ w1.heap.size ∧
      Calls Try.prog 35 #[.pointer (some ⟨gr, 0, none⟩), .int .u32 a, .int .u32 b, .int .u8 typ] w1 fun e w2 => e = .returned (.int .i64 code) ∧ (∀ k ∈ av, k ≠ bp → k ≠ bf → k ≠ gr → w2.heap[k]? = w.heap[k]?) ∧ Stt w0 w2 g bp bf gr av (n + 1) := by
  obtain ⟨f1, f2, va, vb, vc, vd, cnt, A, B, T, N, S⟩ := h
  have lt := S.rt.lt
  by_cases hbad : a = b ∨ 127 < typ
  · refine ⟨1, (pair_arg w _ a b typ hbad).mono ?_⟩
    rintro e w1 ⟨rfl, rfl⟩
    refine ⟨rfl, fun _ _ _ _ => rfl, Nat.le_refl _, (refpair_arg w _ a b typ hbad).mono ?_⟩
    rintro e w2 ⟨rfl, rfl⟩
    exact ⟨rfl, fun _ _ _ _ _ => rfl, Stt.mono ⟨_, _, _, _, _, _, _, _, _, _, _, S⟩ (Nat.le_succ n)⟩
  have hab : a ≠ b := fun e => hbad (.inl e)
  have ht : typ ≤ 127 := by have : ¬ 127 < typ := fun e => hbad (.inr e); omega
  by_cases hst : (((f1 a).isSome || (f2 a).isSome) || ((f1 b).isSome || (f2 b).isSome)) = true
  · refine ⟨10, (pair_state w g bp bf n f1 f2 cnt cnt a b typ S.tab ha hb hab ht hst).mono ?_⟩
    rintro e w1 ⟨rfl, b1⟩
    have S1 := S.keep b1
    refine ⟨rfl, fun k hk _ _ => b1.block k (lt k hk), b1.size, (refpair_state w1 w0.heap.size gr av va vb vc vd cnt A B T N a b typ S1.rt hab ht ?_).mono ?_⟩
    · rw [S.rel.s1, S.rel.s2, S.rel.s1, S.rel.s2] at hst
      simp only [Bool.or_eq_true] at hst
      rcases hst with (h | h) | (h | h)
      · exact .inl h
      · exact .inr (.inl h)
      · exact .inr (.inr (.inl h))
      · exact .inr (.inr (.inr h))
    · rintro e w2 ⟨rfl, rfl⟩
      exact ⟨rfl, fun k hk _ _ _ => b1.block k (lt k hk), Stt.mono ⟨_, _, _, _, _, _, _, _, _, _, _, S1⟩ (Nat.le_succ n)⟩
  · have hst' : (((f1 a).isSome || (f2 a).isSome) || ((f1 b).isSome || (f2 b).isSome)) = false := by simpa using hst
    rw [Bool.or_eq_false_iff] at hst'
    obtain ⟨hp, hs⟩ := hst'
    have hp' := hp
    have hs' := hs
    rw [S.rel.s1, S.rel.s2, Bool.or_eq_false_iff] at hp' hs'
    have z0 : findI A a cnt = none := by simpa using hp'.1
    have z1 : findI B a cnt = none := by simpa using hp'.2
    have z2 : findI A b cnt = none := by simpa using hs'.1
    have z3 : findI B b cnt = none := by simpa using hs'.2
    by_cases hf : 16 ≤ cnt
    · refine ⟨6, (pair_full w g bp bf n f1 f2 cnt cnt a b typ S.tab ha hb hab ht hp hs hf).mono ?_⟩
      rintro e w1 ⟨rfl, b1⟩
      have S1 := S.keep b1
      refine ⟨rfl, fun k hk _ _ => b1.block k (lt k hk), b1.size, (refpair_full w1 w0.heap.size gr av va vb vc vd cnt A B T N a b typ S1.rt hab ht z0 z1 z2 z3 (by have := S.le; omega)).mono ?_⟩
      rintro e w2 ⟨rfl, rfl⟩
      exact ⟨rfl, fun k hk _ _ _ => b1.block k (lt k hk), Stt.mono ⟨_, _, _, _, _, _, _, _, _, _, _, S1⟩ (Nat.le_succ n)⟩
    · refine ⟨0, (pair_ok w g bp bf n f1 f2 cnt cnt a b typ S.tab ha hb hab ht hp hs (by omega) hn).mono ?_⟩
      rintro e w1 ⟨rfl, T1, k1⟩
      have R1 := S.rt.keepL k1 (by intro x hx; simp at hx; rcases hx with rfl | rfl; exact S.mp; exact S.mf) (by simp; exact ⟨Ne.symm S.n2, Ne.symm S.n3⟩)
      have bl1 : Below w0.heap.size w0 w1 := S.bl.trans (k1.below S.bl.size (by intro x hx; simp at hx; rcases hx with rfl | rfl; exact S.pb; exact S.fb))
      have kk : ∀ k ∈ av, k ≠ bp → k ≠ bf → w1.heap[k]? = w.heap[k]? := fun k hk h1 h2 => k1.block k (lt k hk) (by simp; exact ⟨h1, h2⟩)
      refine ⟨rfl, kk, k1.size, (refpair_ok w1 w0.heap.size gr av va vb vc vd cnt A B T N a b typ R1 hab ht z0 z1 z2 z3 (by omega) bl1.size).mono ?_⟩
      rintro e w2 ⟨rfl, ⟨xa, xb, xc, xd, R2⟩, b2, v2⟩
      refine ⟨rfl, fun k hk h1 h2 h3 => (v2 k hk h3).trans (kk k hk h1 h2), _, _, xa, xb, xc, xd, cnt + 1, _, _, _, _, ⟨bl1.trans b2, T1.stay (v2 g S.mg S.n1) (v2 bp S.mp S.n2) (v2 bf S.mf S.n3), R2, S.rel.pair ha hb z0 z3, by omega, S.pb, S.fb, S.mg, S.mp, S.mf, S.n1, S.n2, S.n3⟩⟩
/-- Drop of both -/
theorem drop_both {w0 w : World} {g bp bf gr : Nat} {av : List Nat} {n : Nat} (h : Stt w0 w g bp bf gr av n) (x : Int) (hx : (Lit.int .u32 x).wf = true) :
    ∃ code : Int, Calls Try.prog 37 #[.pointer (some ⟨g, 0, none⟩), .int .u32 x] w fun e w1 => e = .returned (.int .i64 code) ∧ (∀ k ∈ av, k ≠ bp → k ≠ bf → w1.heap[k]? = w.heap[k]?) ∧ w.heap.size ≤ w1.heap.size ∧
      Calls Try.prog 38 #[.pointer (some ⟨gr, 0, none⟩), .int .u32 x] w1 fun e w2 => e = .returned (.int .i64 code) ∧ (∀ k ∈ av, k ≠ bp → k ≠ bf → k ≠ gr → w2.heap[k]? = w.heap[k]?) ∧ Stt w0 w2 g bp bf gr av n := by
  obtain ⟨f1, f2, va, vb, vc, vd, cnt, A, B, T, N, S⟩ := h
  have lt := S.rt.lt
  cases hf : findI A x cnt with
  | none =>
    have hf1 : f1 x = none := by rw [S.rel.r1, hf]; rfl
    refine ⟨9, (drop_none w g bp bf n f1 (firstOf f2) cnt cnt x S.tab hx hf1).mono ?_⟩
    rintro e w1 ⟨rfl, b1⟩
    have S1 := S.keep b1
    refine ⟨rfl, fun k hk _ _ => b1.block k (lt k hk), b1.size, (refdrop_none w1 w0.heap.size gr av va vb vc vd cnt A B T N x S1.rt hf).mono ?_⟩
    rintro e w2 ⟨rfl, rfl⟩
    exact ⟨rfl, fun k hk _ _ _ => b1.block k (lt k hk), _, _, _, _, _, _, _, _, _, _, _, S1⟩
  | some p =>
    obtain ⟨hp, hxp, _⟩ := findI_some hf
    have hf1 : f1 x = some (B p, T p, N p) := by rw [S.rel.r1, hf]; rfl
    have hf2 : (f2 (B p)).isSome = true := by rw [S.rel.s2, findI_mk hp rfl (fun j hj e => by have := S.rel.ib j p (by omega) hp e; omega)]; rfl
    refine ⟨0, (drop_some w g bp bf n f1 f2 cnt cnt x (B p) (T p) (N p) S.tab hx (S.rel.wb p hp) hf1 hf2).mono ?_⟩
    rintro e w1 ⟨rfl, T1, k1⟩
    have R1 := S.rt.keepL k1 (by intro x hx; simp at hx; rcases hx with rfl | rfl; exact S.mp; exact S.mf) (by simp; exact ⟨Ne.symm S.n2, Ne.symm S.n3⟩)
    have bl1 : Below w0.heap.size w0 w1 := S.bl.trans (k1.below S.bl.size (by intro x hx; simp at hx; rcases hx with rfl | rfl; exact S.pb; exact S.fb))
    have kk : ∀ k ∈ av, k ≠ bp → k ≠ bf → w1.heap[k]? = w.heap[k]? := fun k hk h1 h2 => k1.block k (lt k hk) (by simp; exact ⟨h1, h2⟩)
    refine ⟨rfl, kk, k1.size, (refdrop_some w1 w0.heap.size gr av va vb vc vd cnt p A B T N x R1 hf (by have := S.le; omega) bl1.size).mono ?_⟩
    rintro e w2 ⟨rfl, ⟨xa, xb, xc, xd, R2⟩, b2, v2⟩
    have hr := S.rel.drop hp
    rw [hxp] at hr
    refine ⟨rfl, fun k hk h1 h2 h3 => (v2 k hk h3).trans (kk k hk h1 h2), _, _, xa, xb, xc, xd, cnt - 1, _, _, _, _, ⟨bl1.trans b2, T1.stay (v2 g S.mg S.n1) (v2 bp S.mp S.n2) (v2 bf S.mf S.n3), R2, hr, by have := S.le; omega, S.pb, S.fb, S.mg, S.mp, S.mf, S.n1, S.n2, S.n3⟩⟩
end Go.Proofs.Ytihbceippcgfgaa
