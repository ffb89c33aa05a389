/-
  Chapter 45: a log and the list that is kept beside it.
-/
import Derived.Test.YtdmbdageohjodaaLgC
import Derived.Test.YtdmbdageohjodaaCpW
namespace Go.Proofs.Ytdmbdageohjodaa
open Go.RowKit
set_option linter.unusedVariables false
set_option linter.unusedSimpArgs false

def fnR (R : List Rcd) : Nat → Rcd := fun i => R.getD i default
theorem fnR_mem {R : List Rcd} {i : Nat} (h : i < R.length) : fnR R i ∈ R := by
  unfold fnR; simp only [List.getD, List.getElem?_eq_getElem h, Option.getD_some]; exact List.getElem_mem h
theorem fil_take (R : List Rcd) (k : Nat) (hk : k ≤ R.length) : filL (fnR R) k = begL ++ (R.take k).flatMap oneL := by
  induction k with
  | zero => simp [filL]
  | succ k ih =>
    have hk' : k < R.length := by omega
    show filL (fnR R) k ++ oneL (fnR R k) = _
    rw [ih (by omega), List.take_succ_eq_append_getElem hk', List.flatMap_append, List.append_assoc]
    congr 1
    congr 1
    simp [fnR, hk']
theorem fil_list (R : List Rcd) : filL (fnR R) R.length = begL ++ R.flatMap oneL := by rw [fil_take R _ (Nat.le_refl _), List.take_length]
def Lnk (L : List Sl) (R : List Rcd) : Prop := L.map Sl.l = R.map oneL
theorem Lnk.len {L : List Sl} {R : List Rcd} (h : Lnk L R) : L.length = R.length := by have := congrArg List.length h; simpa using this
theorem Lnk.drop {L : List Sl} {R : List Rcd} (h : Lnk L R) (k : Nat) : Lnk (L.drop k) (R.drop k) := by unfold Lnk; rw [List.map_drop, List.map_drop, h]
theorem Lnk.flat {L : List Sl} {R : List Rcd} (h : Lnk L R) : L.flatMap Sl.l = R.flatMap oneL := by
  rw [List.flatMap_def, List.flatMap_def, h]
theorem Lnk.add {L : List Sl} {R : List Rcd} (h : Lnk L R) {s : Sl} {r : Rcd} (hs : Sl.l s = oneL r) : Lnk (L ++ [s]) (R ++ [r]) := by unfold Lnk; rw [List.map_append, List.map_append, h]; simp [hs]
theorem Lnk.fil {L : List Sl} {R : List Rcd} (h : Lnk L R) : (filL (fnR R) R.length).length = 6 + tot L := by
  rw [fil_list, ← h.flat, List.length_append, flat_tot]; rfl
theorem fil_log {L : List Sl} {R : List Rcd} (h : Lnk L R) : begL ++ L.flatMap Sl.l = filL (fnR R) R.length := by rw [fil_list, h.flat]
/-- a slice of records from its second one on -/
theorem Rcds.tail {B : Nat} {w : World} {a : Option Addr} {len cap : Nat} {Q : Nat → Rcd} (h : Rcds B w a len cap Q) (h1 : 1 ≤ len) : Rcds B w (if cap = 1 then a else a.map (·.add (1 * 5))) (len - 1) (cap - 1) (fun i => Q (i + 1)) := by
  obtain ⟨h2, h3, h4, b, off, h5, h6⟩ := h
  by_cases hc : cap = 1
  · rw [if_pos hc]
    exact ⟨by omega, by omega, fun i hi => by omega, 0, 0, fun h => by omega, fun i hi => by omega⟩
  · rw [if_neg hc]
    obtain ⟨rfl, hb⟩ := h5 (by omega)
    refine ⟨by omega, by omega, fun i hi => h4 (i + 1) (by omega), b, off + 5, fun _ => ⟨?_, hb⟩, fun i hi j hj => ?_⟩
    · show some ((⟨b, off, none⟩ : Addr).add (1 * 5)) = _
      rw [addr_add]
    · have := h6 (i + 1) (by omega) j hj
      rw [← this]; congr 2; omega
theorem drop_fn (R : List Rcd) (j : Nat) : (fun i => fnR (R.drop j) (i + 1)) = fnR (R.drop (j + 1)) := by
  funext i
  unfold fnR
  simp only [List.getD, List.getElem?_drop]
  rw [show j + (i + 1) = j + 1 + i by omega]
theorem sizeRcd (W : World) : (sizeOf 72).run Try.prog W = .ok 5 W := by kernel_rfl
/-- the slice's cells, as values -/
theorem Rcds.vals {B : Nat} {w : World} {a : Option Addr} {len cap : Nat} {R : List Rcd} (h : Rcds B w a len cap (fnR R)) (hl : len = R.length) : ∀ ad, a = some ad → ∀ (j : Nat) u, (rowL R)[j]? = some u → w.cell? (ad.add j) = some u := by
  intro ad he j u hj
  obtain ⟨h2, h3, h4, b, off, h5, h6⟩ := h
  have hjl : j < R.length * 5 := by have := (List.getElem?_eq_some_iff.1 hj).1; rwa [rowL_len] at this
  obtain ⟨rfl, hb⟩ : a = some ⟨b, off, none⟩ ∧ b < B := h5 (by omega)
  cases he
  have hg := rowL_get R (j / 5) (j % 5) (by omega) (Nat.mod_lt _ (by omega))
  rw [show j / 5 * 5 + j % 5 = j by omega, hj] at hg
  rw [addr_add, show off + j = off + j / 5 * 5 + j % 5 by omega, h6 (j / 5) (by omega) (j % 5) (Nat.mod_lt _ (by omega)), hg]
  rfl
theorem Rcds.nils {B : Nat} {w : World} {a : Option Addr} {len cap : Nat} {Q : Nat → Rcd} (h : Rcds B w a len cap Q) : a = none → len = 0 ∧ cap = 0 := fun e => by
  obtain ⟨h2, h3, h4, b, off, h5, h6⟩ := h
  rcases Nat.eq_zero_or_pos cap with h0 | h0
  · exact ⟨by omega, h0⟩
  · have := (h5 h0).1; rw [e] at this; cases this
theorem rowL_one (R : List Rcd) : ∀ u ∈ rowL R, u.oneCell' = true := by
  induction R with
  | nil => intro u hu; cases hu
  | cons r R ih =>
    intro u hu
    rcases List.mem_append.1 (show u ∈ rcV r ++ rowL R from hu) with h | h
    · exact rcV_one r u h
    · exact ih u h
theorem allR_list {R : List Rcd} (h : ∀ r ∈ R, okR r) : allR (fnR R) R.length := fun i hi => h _ (fnR_mem hi)
/-! ### A copy, and one more: the three orders -/
theorem nil_rowT {T : TypeId} {sz : Nat} (W : World) (base : Nat) (hb : base ≤ W.heap.size) : (W.alloc (.cells #[] T)).ownsRow base T sz (.slice (some ⟨W.heap.size, 0, none⟩) 0 0) 0 [] :=
  ⟨by simp, .inr ⟨W.heap.size, 0, #[], rfl, hb, alloc_blk_new, Nat.le_refl _, by unfold maxLen; omega, by simp, by simp⟩⟩
/-- where a slice lies, in a world and in all later ones -/
structure Lies (B : Nat) (w : World) (a : Option Addr) (n c sz : Nat) (xs : List Value) : Prop where
  nil : a = none → n = 0 ∧ c = 0
  len : xs.length = n * sz
  cell : ∀ ad, a = some ad → ∀ (j : Nat) u, xs[j]? = some u → w.cell? (ad.add j) = some u ∧ ad.block < B
  one : ∀ u ∈ xs, u.oneCell' = true
theorem Lies.keep {B : Nat} {w w' : World} {a : Option Addr} {n c sz : Nat} {xs : List Value} (h : Lies B w a n c sz xs) (hb : Below B w w') : Lies B w' a n c sz xs :=
  ⟨h.nil, h.len, fun ad e j u hj => by
    obtain ⟨h1, h2⟩ := h.cell ad e j u hj
    exact ⟨by rw [World.cell?_of_block (w := w) (hb.block _ (by show (ad.add j).block < B; unfold Addr.add; split <;> exact h2))]; exact h1, h2⟩, h.one⟩
def nilAt (k : Nat) : Value := .slice (some ⟨k, 0, none⟩) 0 0
def oneAt (k : Nat) : Value := .slice (some ⟨k, 0, none⟩) 1 1
section
variable {t e : TypeId} {size bytes : Nat} (E : ElemT Try.prog t e size bytes) (V : World) (a : Option Addr) (n c : Nat) (xs news : List Value) (h : Lies V.heap.size V a n c size xs) (hl : news.length = size) (h1 : ∀ u ∈ news, u.oneCell' = true) (hn : n ≤ 100000) (hb : bytes ≤ 1000)
include E h hl h1 hn hb
/-- the copy, then the new one's cells -/
theorem copyA : ∃ a1 c1 V1 a2 c2 V2, (∀ ty, (Builtin.append_ #[t, t] ty #[nilAt V.heap.size, .slice a n c]).run Try.prog (V.alloc (.cells #[] e)) = .ok (.slice a1 n c1) V1) ∧ (∀ ty, (Builtin.append_ #[t, t] ty #[.slice a1 n c1, oneAt V1.heap.size]).run Try.prog (V1.alloc (.cells news.toArray e)) = .ok (.slice a2 (n + 1) c2) V2) ∧
    Below V.heap.size V (V.alloc (.cells #[] e)) ∧ Below V.heap.size V V1 ∧ Below V.heap.size V (V1.alloc (.cells news.toArray e)) ∧ Below V.heap.size V V2 ∧ V2.ownsRow V.heap.size e size (.slice a2 (n + 1) c2) (n + 1) (xs ++ news) := by
  have bA : Below V.heap.size V (V.alloc (.cells #[] e)) := (Below.refl _ _).alloc (Nat.le_refl _) _
  have hA := h.keep bA
  obtain ⟨a1, c1, V1, A1, B1⟩ := appS E (nil_rowT (T := e) (sz := size) V V.heap.size (Nat.le_refl _)) a n c xs hA.nil hA.len (fun ad e j u hj => (hA.cell ad e j u hj).1) hA.one (by omega) hb bA.size
  rw [Nat.zero_add] at A1
  obtain ⟨a2, c2, V2, A2, B2⟩ := app1 E A1.own news hl h1 (by omega) hb (bA.trans B1).size
  exact ⟨a1, c1, V1, a2, c2, V2, A1.run, A2.run, bA, bA.trans B1, (bA.trans B1).alloc (bA.trans B1).size _, (bA.trans B1).trans B2, by have := A2.own; rwa [List.nil_append] at this⟩
/-- the new one's cells between them -/
theorem copyB : ∃ a1 c1 V1 a2 c2 V2, (∀ ty, (Builtin.append_ #[t, t] ty #[nilAt V.heap.size, .slice a n c]).run Try.prog ((V.alloc (.cells #[] e)).alloc (.cells news.toArray e)) = .ok (.slice a1 n c1) V1) ∧ (∀ ty, (Builtin.append_ #[t, t] ty #[.slice a1 n c1, oneAt (V.heap.size + 1)]).run Try.prog V1 = .ok (.slice a2 (n + 1) c2) V2) ∧
    Below V.heap.size V (V.alloc (.cells #[] e)) ∧ Below V.heap.size V ((V.alloc (.cells #[] e)).alloc (.cells news.toArray e)) ∧ Below V.heap.size V V1 ∧ Below V.heap.size V V2 ∧ V2.ownsRow V.heap.size e size (.slice a2 (n + 1) c2) (n + 1) (xs ++ news) := by
  have bA : Below V.heap.size V (V.alloc (.cells #[] e)) := (Below.refl _ _).alloc (Nat.le_refl _) _
  have bB : Below V.heap.size V ((V.alloc (.cells #[] e)).alloc (.cells news.toArray e)) := bA.alloc (by simp) _
  have hs : (V.alloc (.cells #[] e)).heap.size = V.heap.size + 1 := by simp
  have hB := h.keep bB
  have nr := own_below (nil_rowT (T := e) (sz := size) V V.heap.size (Nat.le_refl _)) ((Below.refl _ (V.alloc (.cells #[] e))).alloc (Nat.le_refl _) (.cells news.toArray e))
  obtain ⟨a1, c1, V1, A1, B1⟩ := appS E nr a n c xs hB.nil hB.len (fun ad e j u hj => (hB.cell ad e j u hj).1) hB.one (by omega) hb bB.size
  rw [Nat.zero_add] at A1
  have hx : ((V.alloc (.cells #[] e)).alloc (.cells news.toArray e)).heap[V.heap.size + 1]? = some (.cells news.toArray e (0, 0)) := by rw [← hs]; exact alloc_blk_new
  have hx1 : V1.heap[V.heap.size + 1]? = some (.cells news.toArray e (0, 0)) := A1.but.blk hx (fun e => by have : V.heap.size = V.heap.size + 1 := Option.some.inj e; omega)
  obtain ⟨a2, c2, V2, A2, B2⟩ := appS E A1.own (some ⟨V.heap.size + 1, 0, none⟩) 1 1 news (fun e => by cases e) (by omega) (fun ad e j u hj => by
    cases e
    rw [addr_add, Nat.zero_add, cell_blk hx1, ← hj]
    simp) h1 (by omega) hb (bB.trans B1).size
  exact ⟨a1, c1, V1, a2, c2, V2, A1.run, A2.run, bA, bB, bB.trans B1, (bB.trans B1).trans B2, by have := A2.own; rwa [List.nil_append] at this⟩
/-- the new one's cells first -/
theorem copyC : ∃ a1 c1 V1 a2 c2 V2, (∀ ty, (Builtin.append_ #[t, t] ty #[nilAt (V.heap.size + 1), .slice a n c]).run Try.prog ((V.alloc (.cells news.toArray e)).alloc (.cells #[] e)) = .ok (.slice a1 n c1) V1) ∧ (∀ ty, (Builtin.append_ #[t, t] ty #[.slice a1 n c1, oneAt V.heap.size]).run Try.prog V1 = .ok (.slice a2 (n + 1) c2) V2) ∧
    Below V.heap.size V (V.alloc (.cells news.toArray e)) ∧ Below V.heap.size V ((V.alloc (.cells news.toArray e)).alloc (.cells #[] e)) ∧ Below V.heap.size V V1 ∧ Below V.heap.size V V2 ∧ V2.ownsRow V.heap.size e size (.slice a2 (n + 1) c2) (n + 1) (xs ++ news) := by
  have bA : Below V.heap.size V (V.alloc (.cells news.toArray e)) := (Below.refl _ _).alloc (Nat.le_refl _) _
  have bB : Below V.heap.size V ((V.alloc (.cells news.toArray e)).alloc (.cells #[] e)) := bA.alloc (by simp) _
  have hs : (V.alloc (.cells news.toArray e)).heap.size = V.heap.size + 1 := by simp
  have hB := h.keep bB
  have nr := nil_rowT (T := e) (sz := size) (V.alloc (.cells news.toArray e)) V.heap.size (by simp)
  rw [hs] at nr
  obtain ⟨a1, c1, V1, A1, B1⟩ := appS E nr a n c xs hB.nil hB.len (fun ad e j u hj => (hB.cell ad e j u hj).1) hB.one (by omega) hb bB.size
  rw [Nat.zero_add] at A1
  have hx : ((V.alloc (.cells news.toArray e)).alloc (.cells #[] e)).heap[V.heap.size]? = some (.cells news.toArray e (0, 0)) := (alloc_blk_old (by simp)).trans alloc_blk_new
  have hx1 : V1.heap[V.heap.size]? = some (.cells news.toArray e (0, 0)) := A1.but.blk hx (fun e => by have : V.heap.size + 1 = V.heap.size := Option.some.inj e; omega)
  obtain ⟨a2, c2, V2, A2, B2⟩ := appS E A1.own (some ⟨V.heap.size, 0, none⟩) 1 1 news (fun e => by cases e) (by omega) (fun ad e j u hj => by
    cases e
    rw [addr_add, Nat.zero_add, cell_blk hx1, ← hj]
    simp) h1 (by omega) hb (bB.trans B1).size
  exact ⟨a1, c1, V1, a2, c2, V2, A1.run, A2.run, bA, bB, bB.trans B1, (bB.trans B1).trans B2, by have := A2.own; rwa [List.nil_append] at this⟩
end
theorem Rcds.lies {B : Nat} {w : World} {a : Option Addr} {len cap : Nat} {R : List Rcd} (h : Rcds B w a len cap (fnR R)) (hl : len = R.length) : Lies B w a len cap 5 (rowL R) := by
  refine ⟨h.nils, by rw [rowL_len, hl], fun ad he j u hj => ⟨h.vals hl ad he j u hj, ?_⟩, rowL_one R⟩
  obtain ⟨h2, h3, h4, b, off, h5, h6⟩ := h
  have hjl : j < R.length * 5 := by have := (List.getElem?_eq_some_iff.1 hj).1; rwa [rowL_len] at this
  obtain ⟨rfl, hb⟩ : a = some ⟨b, off, none⟩ ∧ b < B := h5 (by omega)
  cases he
  exact hb
end Go.Proofs.Ytdmbdageohjodaa
