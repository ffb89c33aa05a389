/-
  Chapter 20: what is missed; which are deleted.
-/
import Derived.Test.YtdmbdageohjodaaPr
import Derived.Test.YtdmbdageohjodaaPickT
import Derived.Test.YtdmbdageohjodaaRange
import Derived.Test.YtdmbdageohjodaaMixO
import Derived.Test.YtdmbdageohjodaaProg
import Derived.Deep.DeepCutAuto
import Derived.IntWalk
import Derived.Lib.SliceRun
namespace Go.Proofs.Ytdmbdageohjodaa
open Go.RowKit
set_option linter.unusedVariables false
set_option linter.unusedSimpArgs false
attribute [local irreducible] wpStill wpQuiet MixC.wpMix MixC.wpPick MixC.wpPickT
attribute [local go_sem] MixC.rdOp MixC.rd MixC.rdUpon MixC.mvUpon

structure Mis where
  i : Int
  tr : Int
  nx : Int
instance : Inhabited Mis := ⟨⟨0, 0, 0⟩⟩
def misO (m : Mis) : Obj := .cells #[.int .i64 m.i, .int .i64 m.tr, .int .i64 m.nx] 126 (0, 0)
def ptr (b : Nat) : Value := .pointer (some ⟨b, 0, none⟩)
def ptrs (M : List (Nat × Mis)) : List Value := M.map fun x => ptr x.1
theorem ptrs_get {M : List (Nat × Mis)} {j : Nat} (h : j < M.length) : (ptrs M)[j]? = some (ptr (M[j]'h).1) := by unfold ptrs; rw [List.getElem?_map, List.getElem?_eq_getElem h]; rfl
theorem ptrs_len (M : List (Nat × Mis)) : (ptrs M).length = M.length := List.length_map ..
/-- the first one that p chooses -/
def fstI (p : Nat × Mis → Bool) : List (Nat × Mis) → Nat
  | [] => 0
  | x :: l => if p x then 0 else fstI p l + 1
theorem fstI_le (p : Nat × Mis → Bool) (M : List (Nat × Mis)) : fstI p M ≤ M.length := by
  induction M with
  | nil => exact Nat.le_refl _
  | cons x l ih => unfold fstI; split <;> simp <;> omega
theorem fstI_not (p : Nat × Mis → Bool) (M : List (Nat × Mis)) : ∀ j (h : j < M.length), j < fstI p M → p (M[j]'h) = false := by
  induction M with
  | nil => intro j h; simp at h
  | cons x l ih =>
    intro j h hj
    unfold fstI at hj
    by_cases hx : p x = true
    · rw [if_pos hx] at hj; omega
    · rw [if_neg hx] at hj
      cases j with
      | zero => simpa using hx
      | succ j => exact ih j (by simpa using h) (by omega)
theorem fstI_is (p : Nat × Mis → Bool) (M : List (Nat × Mis)) (h : fstI p M < M.length) : p (M[fstI p M]'h) = true := by
  induction M with
  | nil => simp at h
  | cons x l ih =>
    by_cases hx : p x = true
    · have e : fstI p (x :: l) = 0 := by unfold fstI; rw [if_pos hx]
      simp only [e, List.getElem_cons_zero]; exact hx
    · have e : fstI p (x :: l) = fstI p l + 1 := by
        show (if p x = true then 0 else fstI p l + 1) = _
        rw [if_neg hx]
      simp only [e, List.getElem_cons_succ]
      exact ih (by rw [e] at h; simpa using h)
theorem fstI_at (p : Nat × Mis → Bool) (M : List (Nat × Mis)) (k : Nat) (hk : k < M.length) (h : ∀ j (hj : j < M.length), j < k → p (M[j]'hj) = false) (hp : p (M[k]'hk) = true) : fstI p M = k := by
  rcases Nat.lt_trichotomy (fstI p M) k with h1 | h1 | h1
  · have := fstI_is p M (by omega)
    rw [h _ (by omega) h1] at this; cases this
  · exact h1
  · have := fstI_not p M k hk h1
    rw [hp] at this; cases this
theorem fstI_end (p : Nat × Mis → Bool) (M : List (Nat × Mis)) (h : ∀ j (hj : j < M.length), p (M[j]'hj) = false) : fstI p M = M.length := by
  rcases Nat.lt_or_ge (fstI p M) M.length with h1 | h1
  · have := fstI_is p M h1
    rw [h _ h1] at this; cases this
  · exact Nat.le_antisymm (fstI_le p M) h1
def idxR (p : Nat × Mis → Bool) (M : List (Nat × Mis)) : Int := if fstI p M < M.length then (fstI p M : Int) else -1
/-- what a choosing function does: wherever the missed ones lie as they did -/
def Chooses (F : Nat) (caps : Array Value) (p : Nat × Mis → Bool) (M : List (Nat × Mis)) (C : World → Prop) : Prop := ∀ (z : World) (x : Nat × Mis), x ∈ M → C z → Calls Try.prog F (#[ptr x.1] ++ caps) z fun e w' => e = .returned (.bool (p x)) ∧ Below z.heap.size z w'
theorem setCells_blk {b : Nat} {T : TypeId} {m : Nat × Nat} : ∀ (l : List Value) (k : Nat) (w : World) (cs : Array Value), w.heap[b]? = some (.cells cs T m) →
    ∃ cs' : Array Value, (w.setCells b k l).heap[b]? = some (.cells cs' T m) ∧ cs'.size = cs.size ∧ ∀ x, x < k → cs'[x]? = cs[x]?
  | [], k, w, cs, h => ⟨cs, h, rfl, fun _ _ => rfl⟩
  | v :: l, k, w, cs, h => by
    obtain ⟨cs', h1, h2, h3⟩ := setCells_blk (b := b) l (k + 1) (w.setCell ⟨b, k, none⟩ v) _ (set_blk v h)
    refine ⟨cs', h1, by rw [h2]; simp, fun x hx => ?_⟩
    rw [h3 x (by omega), Array.getElem?_setIfInBounds, if_neg (by omega)]
theorem setCells_but (b : Nat) : ∀ (l : List Value) (k : Nat) (w u : World), But (some b) u w → But (some b) u (w.setCells b k l)
  | [], k, w, u, h => h
  | v :: l, k, w, u, h => setCells_but b l (k + 1) (w.setCell ⟨b, k, none⟩ v) u (h.set k v)
/-! ### Deleting -/
def notP (p : Nat × Mis → Bool) : Nat × Mis → Bool := fun x => !p x
def leftL (p : Nat × Mis → Bool) (M : List (Nat × Mis)) : List (Nat × Mis) := M.filter (notP p)
theorem left_none {p : Nat × Mis → Bool} {M : List (Nat × Mis)} (h : ¬ fstI p M < M.length) : leftL p M = M := by
  unfold leftL
  rw [List.filter_eq_self]
  intro x hx
  obtain ⟨j, hj, rfl⟩ := List.mem_iff_getElem.1 hx
  have := fstI_not p M j hj (by have := fstI_le p M; omega)
  unfold notP; rw [this]; rfl
theorem left_head {p : Nat × Mis → Bool} {M : List (Nat × Mis)} (h : fstI p M < M.length) : leftL p (M.take (fstI p M + 1)) = M.take (fstI p M) := by
  unfold leftL
  rw [List.take_succ_eq_append_getElem h, List.filter_append]
  have h1 : (M.take (fstI p M)).filter (notP p) = M.take (fstI p M) := by
    rw [List.filter_eq_self]
    intro x hx
    obtain ⟨j, hj, e⟩ := List.mem_iff_getElem.1 hx
    have hj' : j < fstI p M := by simp at hj; omega
    rw [List.getElem_take] at e
    have := fstI_not p M j (by omega) hj'
    rw [e] at this
    unfold notP; rw [this]; rfl
  have h2 := fstI_is p M h
  rw [h1]
  have : [M[fstI p M]'h].filter (notP p) = [] := by simp [notP, h2]
  rw [this, List.append_nil]
theorem left_succ {p : Nat × Mis → Bool} {M : List (Nat × Mis)} {j : Nat} (h : j < M.length) : leftL p (M.take (j + 1)) = leftL p (M.take j) ++ (if p (M[j]'h) = true then [] else [M[j]'h]) := by
  unfold leftL
  rw [List.take_succ_eq_append_getElem h, List.filter_append]
  congr 1
  by_cases hp : p (M[j]'h) = true
  · rw [if_pos hp]; simp [notP, hp]
  · rw [if_neg hp]; simp [notP, hp]
/-- the row while j were looked at -/
structure DSt (p : Nat × Mis → Bool) (M : List (Nat × Mis)) (b off sz j : Nat) (w wr : World) : Prop where
  at_ : ∃ cs : Array Value, wr.heap[b]? = some (.cells cs 124 (0, 0)) ∧ cs.size = sz ∧ (∀ (t : Nat) u, (ptrs (leftL p (M.take j)))[t]? = some u → cs[off + t]? = some u) ∧ ∀ (t : Nat) u, j ≤ t → (ptrs M)[t]? = some u → cs[off + t]? = some u
  but : But (some b) w wr
theorem DSt.keep {p : Nat × Mis → Bool} {M : List (Nat × Mis)} {b off sz j : Nat} {w wr w' : World} (h : DSt p M b off sz j w wr) (hb : Below wr.heap.size wr w') : DSt p M b off sz j w w' := by
  obtain ⟨⟨cs, h1, h2⟩, h3⟩ := h
  exact ⟨⟨cs, Below.blk hb h1 (lt_of_block h1), h2⟩, h3.trans (But.of_below hb)⟩
theorem DSt.pass {p : Nat × Mis → Bool} {M : List (Nat × Mis)} {b off sz j : Nat} {w wr : World} (h : DSt p M b off sz j w wr) (hj : j < M.length) (hp : p (M[j]'hj) = true) : DSt p M b off sz (j + 1) w wr := by
  obtain ⟨⟨cs, h1, h2, h3, h4⟩, h5⟩ := h
  refine ⟨⟨cs, h1, h2, fun t u ht => ?_, fun t u ht hu => h4 t u (by omega) hu⟩, h5⟩
  rw [left_succ hj, if_pos hp, List.append_nil] at ht
  exact h3 t u ht
theorem left_le (p : Nat × Mis → Bool) (M : List (Nat × Mis)) (j : Nat) : (leftL p (M.take j)).length ≤ j := by
  unfold leftL
  have h1 := List.length_filter_le (notP p) (M.take j)
  have h2 : (M.take j).length ≤ j := List.length_take_le _ _
  omega
theorem DSt.put {p : Nat × Mis → Bool} {M : List (Nat × Mis)} {b off sz j : Nat} {w wr : World} (h : DSt p M b off sz j w wr) (hj : j < M.length) (hp : p (M[j]'hj) = false) (hsz : off + M.length ≤ sz) :
    DSt p M b off sz (j + 1) w (wr.setCell ⟨b, off + (leftL p (M.take j)).length, none⟩ (ptr (M[j]'hj).1)) := by
  obtain ⟨⟨cs, h1, h2, h3, h4⟩, h5⟩ := h
  have hle := left_le p M j
  refine ⟨⟨cs.setIfInBounds (off + (leftL p (M.take j)).length) (ptr (M[j]'hj).1), set_blk _ h1, by simp [h2], fun t u ht => ?_, fun t u ht hu => ?_⟩, h5.set _ _⟩
  · rw [left_succ hj, if_neg (by rw [hp]; decide)] at ht
    rw [Array.getElem?_setIfInBounds]
    unfold ptrs at ht
    rw [List.map_append] at ht
    by_cases e : t = (leftL p (M.take j)).length
    · subst e
      rw [if_pos rfl, if_pos (by omega)]
      rw [List.getElem?_append_right (by simp)] at ht
      simpa using ht
    · rw [if_neg (by omega)]
      rw [List.getElem?_append_left (by
        have := (List.getElem?_eq_some_iff.1 ht).1
        simp at this ⊢
        omega)] at ht
      exact h3 t u ht
  · rw [Array.getElem?_setIfInBounds, if_neg (by omega)]
    exact h4 t u (by omega) hu
def DelPost (p : Nat × Mis → Bool) (M : List (Nat × Mis)) (a : Option Addr) (c : Nat) (w : World) (e : Ending) (w' : World) : Prop :=
  ∃ a' m, e = .returned (.slice a' m c) ∧ m = (leftL p M).length ∧ PR w' 124 a' m c (ptrs (leftL p M)) ∧ blkOf a' = blkOf a ∧ But (blkOf a) w w'
theorem zeroPtr (W : World) : (zeroValue 124).run Try.prog W = .ok (.pointer none) W := by kernel_rfl
theorem sizePtr (W : World) : (sizeOf 124).run Try.prog W = .ok 1 W := by kernel_rfl
theorem run_from {P : Program} {t e : TypeId} {s : Nat} (hu : P.underlying t = some (.slice e)) (hs : ∀ W, (sizeOf e).run P W = .ok s W) (a : Option Addr) (n c k : Nat) (hk : k ≤ n) (W : World) :
    (Instr.slice t (.slice a n c) (some (.int .i64 k)) none none).run P W = .ok (.slice (if c = k then a else a.map (·.add (k * s))) (n - k) (c - k)) W := by
  have he : P.elem t = e := by unfold Program.elem; rw [hu]
  rw [run_slice_l W t a n c (by rw [hu, he]) .i64 k (by omega) (by omega), he, hs]
  simp [sliced]
theorem run_upto {P : Program} {t e : TypeId} {s : Nat} (hu : P.underlying t = some (.slice e)) (hs : ∀ W, (sizeOf e).run P W = .ok s W) (a : Option Addr) (n c k : Nat) (hk : k ≤ c) (W : World) :
    (Instr.slice t (.slice a n c) none (some (.int .i64 k)) none).run P W = .ok (.slice (if c = 0 then a else a.map (·.add (0 * s))) k c) W := by
  have he : P.elem t = e := by unfold Program.elem; rw [hu]
  rw [run_slice_h W t a n c (by rw [hu, he]) .i64 k (by omega) (by omega), he, hs]
  simp [sliced]
end Go.Proofs.Ytdmbdageohjodaa
