/-
  Chapter 32: Without; a list of elements as cells.
-/
import Derived.Test.YtihbceippcgfgaaExN
namespace Go.Proofs.Ytihbceippcgfgaa
open Go.RowKit
set_option linter.unusedVariables false
set_option linter.unusedSimpArgs false
attribute [local irreducible] wpStill wpQuiet MixC.wpMix
attribute [local go_sem] MixC.rdOp MixC.rd MixC.rdUpon MixC.mvUpon

def WoP (Q : Nat → El) (F : Nat → Int) (m len : Nat) (w : World) (e : Ending) (w' : World) : Prop :=
  Below w.heap.size w w' ∧ ∃ v, e = .returned v ∧ w'.ownsRow w.heap.size 35 2 v (keepE Q F m len).length ((keepE Q F m len).flatMap El.vals)
theorem Ids.mono {B B' : Nat} {w : World} {a : Option Addr} {n c : Nat} {F : Nat → Int} (h : Ids B w a n c F) (hb : B ≤ B') : Ids B' w a n c F := by
  obtain ⟨h1, h2, b, off, h3, h4⟩ := h
  exact ⟨h1, h2, b, off, fun h => ⟨(h3 h).1, by have := (h3 h).2; omega⟩, h4⟩
set_option maxRecDepth 100000 in
set_option maxHeartbeats 2000000 in
theorem without32_any (B : Nat) (a : Option Addr) (len c : Nat) (Q : Nat → El) (ia : Option Addr) (m ic : Nat) (F : Nat → Int) (w : World) (h : Els B w a len c Q) (hF : Ids B w ia m ic F) (hB : B ≤ w.heap.size) (hn : len ≤ 10000) (hm : m ≤ 100000) :
    Calls Try.prog 23 #[.slice a len c, .slice ia m ic] w (WoP Q F m len w) := by
  have H := Lib.hid h
  have HF := Lib.hid hF
  have hcm := h.max
  have hcl := h.le
  have him := hF.max
  have hil := hF.le
  clear h hF
  go_enter Try.func23, Try.ntmps23
  go_wp2_with fail
  obtain ⟨W0, hW0⟩ : ∃ W0, w.alloc (.cells #[.slice ia m ic] 90) = W0 := ⟨_, rfl⟩
  obtain ⟨g, hg⟩ : ∃ g, w.heap.size = g := ⟨_, rfl⟩
  rw [hW0, hg]
  have b0 : Below w.heap.size w W0 := by rw [← hW0]; exact (Below.refl _ _).alloc (Nat.le_refl _) _
  have k0 : W0.heap[g]? = some (.cells #[.slice ia m ic] 90 (0, 0)) := by rw [← hW0, ← hg]; exact alloc_blk_new
  have hgl : g < W0.heap.size := lt_of_block k0
  refine (cloneE_any B a len c Q W0 (H.out.keep (b0.mono hB)) (Nat.le_trans hB b0.size) hn).mono ?_
  rintro e W1 ⟨a1, c1, rfl, o1, b1⟩
  have hs1 := b1.size
  have bw : Below w.heap.size w W1 := b0.trans (b1.mono b0.size)
  have hF1 : Ids W0.heap.size W1 ia m ic F := (HF.out.keep (bw.mono hB)).mono (Nat.le_trans hB b0.size)
  have k1 : W1.cell? ⟨g, 0, none⟩ = some (.slice ia m ic) := cell_blk (Below.blk b1 k0 hgl)
  have e1 : Els W1.heap.size W1 a1 len c1 Q := Els.copy o1 (fun i hi => (H.out.ok i hi).keep (bw.mono hB)) (Nat.le_trans hB bw.size)
  have hcd := del_any B W0.heap.size a1 len c1 g Q ia m ic F W1 hF1 hm o1 e1 hs1 hn hgl k1
  have HC := Lib.hid hcd
  have BW := Lib.hid bw
  have HS : Hid (w.heap.size ≤ W0.heap.size) := Lib.hid b0.size
  have HSA : Hid (w.heap.size ≤ W1.heap.size) := Lib.hid bw.size
  clear hW0 b0 k0 o1 b1 bw hF1 k1 e1 hcd hs1 hg hgl
  go_wp2_with fail
  refine HC.out.mono ?_
  rintro e W2 ⟨b2, v, rfl, o2⟩
  have B2 := Lib.hid (BW.out.trans (b2.mono HS.out))
  have O2 := Lib.hid (World.ownsRow.mono o2 HS.out)
  clear b2 o2 HC
  go_wp2_with fail
  go_ret
  exact ⟨B2.out, v, rfl, O2.out⟩
/-! ### A list of elements -/
def qOf (l : List El) : Nat → El := fun i => l.getD i ⟨0, none, 0, 0, fun _ => 0⟩
theorem qOf_get {l : List El} {i : Nat} (h : i < l.length) : qOf l i = l[i] := by unfold qOf; rw [List.getD_eq_getElem?_getD, List.getElem?_eq_getElem h]; rfl
theorem flat_elsV (l : List El) : l.flatMap El.vals = elsV (qOf l) l.length := by
  rw [← flat_range (qOf l) l.length]
  congr 1
  apply List.ext_getElem
  · simp
  · intro i h1 h2
    rw [List.getElem_map, List.getElem_range, qOf_get h1]
theorem keepE_mem {Q : Nat → El} {F : Nat → Int} {m j : Nat} {x : El} (h : x ∈ keepE Q F m j) : ∃ i, i < j ∧ x = Q i ∧ ¬ InF F m (Q i).id := by
  induction j with
  | zero => cases h
  | succ j ih =>
    by_cases hc : InF F m (Q j).id
    · rw [keepE_drop hc] at h
      obtain ⟨i, h1, h2⟩ := ih h
      exact ⟨i, by omega, h2⟩
    · rw [keepE_take hc] at h
      rcases List.mem_append.1 h with h | h
      · obtain ⟨i, h1, h2⟩ := ih h
        exact ⟨i, by omega, h2⟩
      · rw [List.mem_singleton.1 h]
        exact ⟨j, by omega, rfl, hc⟩
theorem qOf_mem {l : List El} {i : Nat} (h : i < l.length) : qOf l i ∈ l := by rw [qOf_get h]; exact List.getElem_mem h
/-- a row that holds a list's elements -/
theorem Els.ofRow {B base : Nat} {w : World} {v : Value} {l : List El} (ho : w.ownsRow base 35 2 v l.length (l.flatMap El.vals)) (hq : ∀ x ∈ l, ElOk B w x) (hB : B ≤ w.heap.size) : ∃ a c, v = .slice a l.length c ∧ Els w.heap.size w a l.length c (qOf l) := by
  obtain ⟨a, c, rfl⟩ := own_len ho
  rw [flat_elsV] at ho
  exact ⟨a, c, rfl, Els.copy ho (fun i hi => hq _ (qOf_mem hi)) hB⟩
/-- f is the first place from i on of a number, or -1 -/
def FirstAt (Q : Nat → El) (id : Int) (len i : Nat) (f : Int) : Prop := (∃ k : Nat, i ≤ k ∧ k < len ∧ f = k ∧ (Q k).id = id ∧ ∀ j, i ≤ j → j < k → (Q j).id ≠ id) ∨ (f = -1 ∧ ∀ j, i ≤ j → j < len → (Q j).id ≠ id)
theorem FirstAt.start {Q : Nat → El} {id : Int} {len : Nat} : FirstAt Q id len len (-1) := .inr ⟨rfl, fun j h1 h2 => by omega⟩
theorem FirstAt.hit {Q : Nat → El} {id : Int} {len i : Nat} (hi : i < len) (h : (Q i).id = id) : FirstAt Q id len i (i : Int) := .inl ⟨i, Nat.le_refl _, hi, rfl, h, fun j h1 h2 => by omega⟩
theorem FirstAt.pass {Q : Nat → El} {id : Int} {len i : Nat} {f : Int} (hf : FirstAt Q id len (i + 1) f) (h : (Q i).id ≠ id) : FirstAt Q id len i f := by
  rcases hf with ⟨k, h1, h2, h3, h4, h5⟩ | ⟨h1, h2⟩
  · exact .inl ⟨k, by omega, h2, h3, h4, fun j a b => by
      rcases Nat.lt_or_ge i j with c | c
      · exact h5 j (by omega) b
      · rw [show j = i by omega]; exact h⟩
  · exact .inr ⟨h1, fun j a b => by
      rcases Nat.lt_or_ge i j with c | c
      · exact h2 j (by omega) b
      · rw [show j = i by omega]; exact h⟩
/-- where Set has put it: that first place, or the end -/
theorem FirstAt.at_set {Q : Nat → El} {id : Int} {len k m : Nat} {f : Int} (hf : FirstAt Q id len 0 f) (h : (k < len ∧ m = len ∧ (Q k).id = id ∧ ∀ j, j < k → (Q j).id ≠ id) ∨ (k = len ∧ m = len + 1 ∧ ∀ j, j < len → (Q j).id ≠ id)) : (k < len ∧ m = len ∧ f = k) ∨ (k = len ∧ m = len + 1 ∧ f = -1) := by
  rcases h with ⟨h1, h2, h3, h4⟩ | ⟨h1, h2, h3⟩
  · rcases hf with ⟨k', g1, g2, g3, g4, g5⟩ | ⟨g1, g2⟩
    · have : k' = k := by
        rcases Nat.lt_trichotomy k' k with c | c | c
        · exact absurd g4 (h4 _ c)
        · exact c
        · exact absurd h3 (g5 _ (by omega) c)
      subst this
      exact .inl ⟨h1, h2, g3⟩
    · exact absurd h3 (g2 _ (by omega) h1)
  · rcases hf with ⟨k', g1, g2, g3, g4, g5⟩ | ⟨g1, g2⟩
    · exact absurd g4 (h3 _ g2)
    · exact .inr ⟨h1, h2, g1⟩
end Go.Proofs.Ytihbceippcgfgaa
