/-
  A copy of a row, and one more: the three orders (as in XLgD, without chapter 45).
-/
import Derived.Test.YtdmbdageohjodaaApp
import Derived.Test.YtdmbdageohjodaaProg
namespace Go.Proofs.Ytdmbdageohjodaa
open Go.RowKit
set_option linter.unusedVariables false
set_option linter.unusedSimpArgs false
/-! ### A copy, and one more: the three orders -/
theorem nil_rowT {T : TypeId} {sz : Nat} (W : World) (base : Nat) (hb : base ≤ W.heap.size) : (W.alloc (.cells #[] T)).ownsRow base T sz (.slice (some ⟨W.heap.size, 0, none⟩) 0 0) 0 [] :=
  ⟨by simp, .inr ⟨W.heap.size, 0, #[], rfl, hb, alloc_blk_new, Nat.le_refl _, by unfold maxLen; omega, by simp, by simp⟩⟩
/-- where a slice lies, in a world and in all later ones -/
structure Lies (B : Nat) (w : World) (a : Option Addr) (n c sz : Nat) (xs : List Value) : Prop where
  nil : a = none → n = 0 ∧ c = 0
  len : xs.length = n * sz
  cell : ∀ ad, a = some ad → ∀ (j : Nat) u, xs[j]? = some u → w.cell? (ad.add j) = some u ∧ ad.block < B
  one : ∀ u ∈ xs, u.oneCell' = true
theorem Lies.keep {B : Nat} {w w' : World} {a : Option Addr} {n c sz : Nat} {xs : List Value} (h : Lies B w a n c sz xs) (hb : Below B w w') : Lies B w' a n c sz xs :=
  ⟨h.nil, h.len, fun ad e j u hj => by
    obtain ⟨h1, h2⟩ := h.cell ad e j u hj
    exact ⟨by rw [World.cell?_of_block (w := w) (hb.block _ (by show (ad.add j).block < B; unfold Addr.add; split <;> exact h2))]; exact h1, h2⟩, h.one⟩
def nilAt (k : Nat) : Value := .slice (some ⟨k, 0, none⟩) 0 0
def oneAt (k : Nat) : Value := .slice (some ⟨k, 0, none⟩) 1 1
section
variable {t e : TypeId} {size bytes : Nat} (E : ElemT Try.prog t e size bytes) (V : World) (a : Option Addr) (n c : Nat) (xs news : List Value) (h : Lies V.heap.size V a n c size xs) (hl : news.length = size) (h1 : ∀ u ∈ news, u.oneCell' = true) (hn : n ≤ 100000) (hb : bytes ≤ 1000)
include E h hl h1 hn hb
/-- the copy, then the new one's cells -/
theorem copyA : ∃ a1 c1 V1 a2 c2 V2, (∀ ty, (Builtin.append_ #[t, t] ty #[nilAt V.heap.size, .slice a n c]).run Try.prog (V.alloc (.cells #[] e)) = .ok (.slice a1 n c1) V1) ∧ (∀ ty, (Builtin.append_ #[t, t] ty #[.slice a1 n c1, oneAt V1.heap.size]).run Try.prog (V1.alloc (.cells news.toArray e)) = .ok (.slice a2 (n + 1) c2) V2) ∧
    Below V.heap.size V (V.alloc (.cells #[] e)) ∧ Below V.heap.size V V1 ∧ Below V.heap.size V (V1.alloc (.cells news.toArray e)) ∧ Below V.heap.size V V2 ∧ V2.ownsRow V.heap.size e size (.slice a2 (n + 1) c2) (n + 1) (xs ++ news) := by
  have bA : Below V.heap.size V (V.alloc (.cells #[] e)) := (Below.refl _ _).alloc (Nat.le_refl _) _
  have hA := h.keep bA
  obtain ⟨a1, c1, V1, A1, B1⟩ := appS E (nil_rowT (T := e) (sz := size) V V.heap.size (Nat.le_refl _)) a n c xs hA.nil hA.len (fun ad e j u hj => (hA.cell ad e j u hj).1) hA.one (by omega) hb bA.size
  rw [Nat.zero_add] at A1
  obtain ⟨a2, c2, V2, A2, B2⟩ := app1 E A1.own news hl h1 (by omega) hb (bA.trans B1).size
  exact ⟨a1, c1, V1, a2, c2, V2, A1.run, A2.run, bA, bA.trans B1, (bA.trans B1).alloc (bA.trans B1).size _, (bA.trans B1).trans B2, by have := A2.own; rwa [List.nil_append] at this⟩
/-- the new one's cells between them -/
theorem copyB : ∃ a1 c1 V1 a2 c2 V2, (∀ ty, (Builtin.append_ #[t, t] ty #[nilAt V.heap.size, .slice a n c]).run Try.prog ((V.alloc (.cells #[] e)).alloc (.cells news.toArray e)) = .ok (.slice a1 n c1) V1) ∧ (∀ ty, (Builtin.append_ #[t, t] ty #[.slice a1 n c1, oneAt (V.heap.size + 1)]).run Try.prog V1 = .ok (.slice a2 (n + 1) c2) V2) ∧
    Below V.heap.size V (V.alloc (.cells #[] e)) ∧ Below V.heap.size V ((V.alloc (.cells #[] e)).alloc (.cells news.toArray e)) ∧ Below V.heap.size V V1 ∧ Below V.heap.size V V2 ∧ V2.ownsRow V.heap.size e size (.slice a2 (n + 1) c2) (n + 1) (xs ++ news) := by
  have bA : Below V.heap.size V (V.alloc (.cells #[] e)) := (Below.refl _ _).alloc (Nat.le_refl _) _
  have bB : Below V.heap.size V ((V.alloc (.cells #[] e)).alloc (.cells news.toArray e)) := bA.alloc (by simp) _
  have hs : (V.alloc (.cells #[] e)).heap.size = V.heap.size + 1 := by simp
  have hB := h.keep bB
  have nr := own_below (nil_rowT (T := e) (sz := size) V V.heap.size (Nat.le_refl _)) ((Below.refl _ (V.alloc (.cells #[] e))).alloc (Nat.le_refl _) (.cells news.toArray e))
  obtain ⟨a1, c1, V1, A1, B1⟩ := appS E nr a n c xs hB.nil hB.len (fun ad e j u hj => (hB.cell ad e j u hj).1) hB.one (by omega) hb bB.size
  rw [Nat.zero_add] at A1
  have hx : ((V.alloc (.cells #[] e)).alloc (.cells news.toArray e)).heap[V.heap.size + 1]? = some (.cells news.toArray e (0, 0)) := by rw [← hs]; exact alloc_blk_new
  have hx1 : V1.heap[V.heap.size + 1]? = some (.cells news.toArray e (0, 0)) := A1.but.blk hx (fun e => by have : V.heap.size = V.heap.size + 1 := Option.some.inj e; omega)
  obtain ⟨a2, c2, V2, A2, B2⟩ := appS E A1.own (some ⟨V.heap.size + 1, 0, none⟩) 1 1 news (fun e => by cases e) (by omega) (fun ad e j u hj => by
    cases e
    rw [addr_add, Nat.zero_add, cell_blk hx1, ← hj]
    simp) h1 (by omega) hb (bB.trans B1).size
  exact ⟨a1, c1, V1, a2, c2, V2, A1.run, A2.run, bA, bB, bB.trans B1, (bB.trans B1).trans B2, by have := A2.own; rwa [List.nil_append] at this⟩
/-- the new one's cells first -/
theorem copyC : ∃ a1 c1 V1 a2 c2 V2, (∀ ty, (Builtin.append_ #[t, t] ty #[nilAt (V.heap.size + 1), .slice a n c]).run Try.prog ((V.alloc (.cells news.toArray e)).alloc (.cells #[] e)) = .ok (.slice a1 n c1) V1) ∧ (∀ ty, (Builtin.append_ #[t, t] ty #[.slice a1 n c1, oneAt V.heap.size]).run Try.prog V1 = .ok (.slice a2 (n + 1) c2) V2) ∧
    Below V.heap.size V (V.alloc (.cells news.toArray e)) ∧ Below V.heap.size V ((V.alloc (.cells news.toArray e)).alloc (.cells #[] e)) ∧ Below V.heap.size V V1 ∧ Below V.heap.size V V2 ∧ V2.ownsRow V.heap.size e size (.slice a2 (n + 1) c2) (n + 1) (xs ++ news) := by
  have bA : Below V.heap.size V (V.alloc (.cells news.toArray e)) := (Below.refl _ _).alloc (Nat.le_refl _) _
  have bB : Below V.heap.size V ((V.alloc (.cells news.toArray e)).alloc (.cells #[] e)) := bA.alloc (by simp) _
  have hs : (V.alloc (.cells news.toArray e)).heap.size = V.heap.size + 1 := by simp
  have hB := h.keep bB
  have nr := nil_rowT (T := e) (sz := size) (V.alloc (.cells news.toArray e)) V.heap.size (by simp)
  rw [hs] at nr
  obtain ⟨a1, c1, V1, A1, B1⟩ := appS E nr a n c xs hB.nil hB.len (fun ad e j u hj => (hB.cell ad e j u hj).1) hB.one (by omega) hb bB.size
  rw [Nat.zero_add] at A1
  have hx : ((V.alloc (.cells news.toArray e)).alloc (.cells #[] e)).heap[V.heap.size]? = some (.cells news.toArray e (0, 0)) := (alloc_blk_old (by simp)).trans alloc_blk_new
  have hx1 : V1.heap[V.heap.size]? = some (.cells news.toArray e (0, 0)) := A1.but.blk hx (fun e => by have : V.heap.size + 1 = V.heap.size := Option.some.inj e; omega)
  obtain ⟨a2, c2, V2, A2, B2⟩ := appS E A1.own (some ⟨V.heap.size, 0, none⟩) 1 1 news (fun e => by cases e) (by omega) (fun ad e j u hj => by
    cases e
    rw [addr_add, Nat.zero_add, cell_blk hx1, ← hj]
    simp) h1 (by omega) hb (bB.trans B1).size
  exact ⟨a1, c1, V1, a2, c2, V2, A1.run, A2.run, bA, bB, bB.trans B1, (bB.trans B1).trans B2, by have := A2.own; rwa [List.nil_append] at this⟩
end
end Go.Proofs.Ytdmbdageohjodaa
