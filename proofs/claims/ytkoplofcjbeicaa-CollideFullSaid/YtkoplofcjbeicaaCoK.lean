/-
  Chapter 44: places sorted in place.
-/
import Derived.Test.YtkoplofcjbeicaaCoH
import Derived.Test.YtkoplofcjbeicaaCoJ
import Derived.Test.YtkoplofcjbeicaaCoI
import Derived.Test.YtkoplofcjbeicaaSortT
import Derived.Shelf.SlSortCmp.WholeK
namespace Go.Proofs.Ytkoplofcjbeicaa
open Go.RowKit
set_option linter.unusedVariables false
set_option linter.unusedSimpArgs false
attribute [local irreducible] wpStill wpQuiet MixC.wpMix

def encP (x : Plc) : List Value := [.int .u32 x.1, .int .u16 x.2]
theorem cmpI_neg (x y : Int) : cmpI x y < 0 ↔ x < y := by unfold cmpI; split <;> (try split) <;> omega
theorem cmpI_zero (x y : Int) : cmpI x y = 0 ↔ x = y := by unfold cmpI; split <;> (try split) <;> omega
theorem lt_plc (x y : Plc) : ltOf cmpP x y = decide (x.1 < y.1 ∨ x.1 = y.1 ∧ x.2 < y.2) := by
  unfold ltOf cmpP
  congr 1
  apply propext
  have h1 := cmpI_zero x.1 y.1
  have h2 := cmpI_neg x.1 y.1
  have h3 := cmpI_neg x.2 y.2
  by_cases e : cmpI x.1 y.1 = 0
  · rw [if_pos e]
    have := h1.1 e
    constructor
    · intro h; right; exact ⟨this, h3.1 h⟩
    · rintro (h | h)
      · omega
      · exact h3.2 h.2
  · rw [if_neg e, h2]
    have : ¬ x.1 = y.1 := fun h => e (h1.2 h)
    constructor
    · intro h; left; exact h
    · rintro (h | h)
      · exact h
      · exact absurd h.1 this
theorem swo_plc : Sort.SWO (ltOf cmpP) where
  irrefl x := by rw [lt_plc]; simp
  trans x y z h1 h2 := by rw [lt_plc] at *; simp at *; omega
  ntrans x y z h1 h2 := by rw [lt_plc] at *; simp at *; omega
theorem tot_plc (x y : Plc) (h1 : ltOf cmpP x y = false) (h2 : ltOf cmpP y x = false) : x = y := by
  rw [lt_plc] at *
  simp at *
  obtain ⟨a, b⟩ := x
  obtain ⟨c, d⟩ := y
  simp at *
  have : a = c := by omega
  subst this
  simp at *
  omega
theorem lays_plc (blk off size : Nat) (w : World) : CmpLays Try.prog 88 #[] encP 2 cmpP blk off size w := fun m os dk hs x y =>
  (compare_any x y _).mono fun e w' ⟨h1, os', h2⟩ => ⟨h1, 1, os', h2⟩
theorem holds_own {w : World} {base b c : Nat} {L : List Plc} (h : w.ownsRow base 43 2 (.slice (some ⟨b, 0, none⟩) L.length c) L.length (tvs L)) : Sort.HoldsK encP 2 w b 0 L.toArray := by
  intro j hj
  have hj2 : j < L.length * 2 := by simpa [Sort.size_flatK] using hj
  rw [Sort.get_flatK _ _ _ _ (by simpa using hj2), Nat.zero_add]
  refine ⟨?_, ?_⟩
  · obtain ⟨i, hi⟩ : ∃ i, j = i * 2 ∨ j = i * 2 + 1 := ⟨j / 2, by omega⟩
    rcases hi with rfl | rfl
    · have hil : i < L.length := by omega
      obtain ⟨h1, h2⟩ := tvs_get L i hil
      rw [own_cell h h1, show i * 2 / 2 = i by omega, show i * 2 % 2 = 0 by omega]
      simp [encP, hil]
    · have hil : i < L.length := by omega
      obtain ⟨h1, h2⟩ := tvs_get L i hil
      rw [own_cell h h2, show (i * 2 + 1) / 2 = i by omega, show (i * 2 + 1) % 2 = 1 by omega]
      simp [encP, hil]
  · rcases h.2 with ⟨h0, _⟩ | ⟨b', cap, cur, h1, h2, h3, _⟩
    · cases h0
    · cases h1; exact free_blk h3
theorem sorted_but (w : World) (b n : Nat) (d : Array Plc) (os : Array Obj) (hb : b < w.heap.size) : But (some b) w (sortWorldK encP 2 w b 0 n d os) := by
  refine ⟨rfl, rfl, rfl, ?_, fun k hk hne => ?_⟩
  · show w.heap.size ≤ ((w.heap.modify b _) ++ os).size
    simp
  · have hne' : b ≠ k := fun e => hne (by rw [e])
    show ((w.heap.modify b _) ++ os)[k]? = w.heap[k]?
    rw [Array.getElem?_append_left (by simpa using hk), Array.getElem?_modify, if_neg hne']
theorem trow_sorted (w : World) (b n c : Nat) (d0 d : Array Plc) (os : Array Obj) (hb : b < w.heap.size) (h : Sort.HoldsK encP 2 w b 0 d0) (hs : d.size = d0.size) (hc : d0.size ≤ c) (hm : c ≤ 9223372036854775807) : TRow (sortWorldK encP 2 w b 0 n d os) b d0.size c (fun i => d[i]!) := by
  have hh : Sort.HoldsK encP 2 (sortWorldK encP 2 w b 0 n d os) b 0 d := by
    unfold sortWorldK
    refine Sort.holdsK_grow _ _ _ _ _ _ _ (by simpa [Sort.putRowK, Sort.putRow, Sort.mapBlock] using hb) ?_
    exact Sort.holdsK_putRowK _ _ _ _ _ d0 d (Sort.holdsK_ahead _ _ _ _ _ _ _ h) hs
  refine ⟨hc, hm, Nat.lt_of_lt_of_le hb (sorted_but w b n d os hb).size, fun i hi => ?_, fun t ht => ?_⟩
  · have h0 := (hh.cell (i := i) (c := 0) (by omega) (by omega)).1
    have h1 := (hh.cell (i := i) (c := 1) (by omega) (by omega)).1
    rw [Nat.zero_add] at h0 h1
    exact ⟨h0, h1⟩
  · have h2 := (hh.cell (i := t / 2) (c := t % 2) (by omega) (by omega)).2
    rw [Nat.zero_add, show t / 2 * 2 + t % 2 = t by omega] at h2
    exact h2
set_option maxHeartbeats 4000000 in
theorem sort_any (L : List Plc) (base b c : Nat) (w : World) (h : w.ownsRow base 43 2 (.slice (some ⟨b, 0, none⟩) L.length c) L.length (tvs L)) (hb : b < w.heap.size) (hn : L.length ≤ 1000) (hc : L.length ≤ c) (hm : c ≤ 9223372036854775807) :
    Calls Try.prog 87 #[.slice (some ⟨b, 0, none⟩) L.length c, .func (.func 88) #[] #[]] w fun e w' =>
      e = .returned (.tuple #[]) ∧ But (some b) w w' ∧ ∃ M : List Plc, M.Perm L ∧ M.Pairwise (fun x y => ltOf cmpP y x = false) ∧ TRow w' b L.length c (fun i => M[i]!) := by
  have hh := holds_own h
  have eg : ∀ args w, (callFunc 88 args).run Try.prog w = .ok (.enter 88 args) w := fun args w => by kernel_rfl
  have hcon := AnyQ.slices_SortFunc Try.sortTup 2 (fun W => by kernel_rfl) (fun W => by kernel_rfl) encP (fun _ => rfl) (fun x v hv => by simp [encP] at hv; rcases hv with rfl | rfl <;> rfl) cmpP swo_plc 88 #[] b 0 c L.toArray w eg (lays_plc b 0 L.toArray.size w) hh hb (by simp; omega)
  refine hcon.mono ?_
  rintro e w' ⟨rfl, d', n, os, hp, hs, rfl⟩
  have hsz : d'.size = L.length := by simpa using hp.1
  refine ⟨rfl, sorted_but w b n d' os hb, d'.toList, ?_, ?_, ?_⟩
  · have := hp.2.2
    rw [Array.toList_extract, Array.toList_extract] at this
    simp only [List.size_toArray] at this
    rw [List.extract_eq_take_drop, List.extract_eq_take_drop, List.drop_zero, List.drop_zero, Nat.sub_zero, List.take_of_length_le (by simp [hsz]), List.take_of_length_le (by simp)] at this
    exact this
  · rw [List.pairwise_iff_getElem]
    intro i j hi hj hij
    have := hs i j (Nat.zero_le _) hij (by simp at hj ⊢; omega)
    simp at hi hj
    simpa [hi, hj] using this
  · have := trow_sorted w b n c L.toArray d' os hb hh (by simpa using hsz) (by simpa using hc) hm
    have e : (fun i : Nat => d'.toList[i]!) = fun i : Nat => d'[i]! := by funext i; simp [getElem!_def]
    rw [e]
    simpa only [List.size_toArray] using this
end Go.Proofs.Ytkoplofcjbeicaa
