/-
  A row of one-cell elements that the function owns, from whatever place of its block on: an append of one element, a cut at its head.
-/
import Derived.Test.YtdmbdageohjodaaApp
import Derived.ArgAppend
namespace Go.Proofs.Ytdmbdageohjodaa
open Go.RowKit
set_option linter.unusedVariables false
set_option linter.unusedSimpArgs false

/-- which block a slice lies in -/
def blkOf (a : Option Addr) : Option Nat := a.map (·.block)
structure PR (w : World) (T : TypeId) (a : Option Addr) (n c : Nat) (xs : List Value) : Prop where
  len : xs.length = n
  le : n ≤ c
  max : c ≤ 9223372036854775807
  at_ : (a = none ∧ c = 0) ∨ ∃ b off, ∃ cs : Array Value, a = some ⟨b, off, none⟩ ∧ w.heap[b]? = some (.cells cs T (0, 0)) ∧ off + c ≤ cs.size ∧ ∀ (j : Nat) u, xs[j]? = some u → cs[off + j]? = some u
theorem PR.nil (w : World) (T : TypeId) : PR w T none 0 0 [] := ⟨rfl, Nat.le_refl _, by omega, .inl ⟨rfl, rfl⟩⟩
theorem PR.but {w w' : World} {T : TypeId} {a : Option Addr} {n c : Nat} {xs : List Value} {r : Option Nat} (h : PR w T a n c xs) (hb : But r w w') (hr : ∀ k, blkOf a = some k → r ≠ some k) : PR w' T a n c xs := by
  obtain ⟨h1, h2, h3, h4⟩ := h
  refine ⟨h1, h2, h3, h4.imp id ?_⟩
  rintro ⟨b, off, cs, rfl, e2, e3, e4⟩
  exact ⟨b, off, cs, rfl, hb.blk e2 (hr b rfl), e3, e4⟩
theorem PR.keep {w w' : World} {T : TypeId} {a : Option Addr} {n c : Nat} {xs : List Value} (h : PR w T a n c xs) (hb : Below w.heap.size w w') : PR w' T a n c xs := h.but (But.of_below (r := none) hb) (fun k _ e => by cases e)
theorem PR.block {w : World} {T : TypeId} {a : Option Addr} {n c : Nat} {xs : List Value} (h : PR w T a n c xs) : ∀ k, blkOf a = some k → ∃ cs, w.heap[k]? = some (.cells cs T (0, 0)) := fun k hk => by
  rcases h.at_ with ⟨rfl, _⟩ | ⟨b, off, cs, rfl, e2, _⟩
  · cases hk
  · cases hk; exact ⟨cs, e2⟩
theorem PR.lt {w : World} {T : TypeId} {a : Option Addr} {n c : Nat} {xs : List Value} (h : PR w T a n c xs) : ∀ k, blkOf a = some k → k < w.heap.size := fun k hk => by
  obtain ⟨cs, e⟩ := h.block k hk
  exact lt_of_block e
theorem PR.ofT {w : World} {T : TypeId} {a : Option Addr} {n c : Nat} {xs : List Value} (h : PR w T a n c xs) {k : Nat} {cs : Array Value} {T' : TypeId} (hk : w.heap[k]? = some (.cells cs T' (0, 0))) (hT : T' ≠ T) : blkOf a ≠ some k := fun e => by
  obtain ⟨cs', e'⟩ := h.block k e
  rw [hk] at e'
  injection e' with e'
  injection e' with _ e'
  exact hT e'
/-- its elements' cells -/
theorem PR.cell {w : World} {T : TypeId} {a : Option Addr} {n c : Nat} {xs : List Value} (h : PR w T a n c xs) (h0 : 0 < n) : ∃ b off, a = some ⟨b, off, none⟩ ∧ b < w.heap.size ∧ ∀ (j : Nat) u, xs[j]? = some u → w.cell? ⟨b, off + j, none⟩ = some u := by
  rcases h.at_ with ⟨_, hc⟩ | ⟨b, off, cs, rfl, e2, _, e4⟩
  · have := h.le; omega
  · exact ⟨b, off, rfl, lt_of_block e2, fun j u hj => by rw [cell_blk e2]; exact e4 j u hj⟩
/-- from its k-th element on -/
theorem PR.drop {w : World} {T : TypeId} {a : Option Addr} {n c : Nat} {xs : List Value} (h : PR w T a n c xs) (k : Nat) (hk : k ≤ n) : PR w T (if c = k then a else a.map (·.add (k * 1))) (n - k) (c - k) (xs.drop k) := by
  obtain ⟨h1, h2, h3, h4⟩ := h
  refine ⟨by simp [h1], by omega, by omega, ?_⟩
  rcases h4 with ⟨rfl, rfl⟩ | ⟨b, off, cs, rfl, e2, e3, e4⟩
  · left
    exact ⟨by split <;> rfl, by omega⟩
  · right
    by_cases hc : c = k
    · rw [if_pos hc]
      exact ⟨b, off, cs, rfl, e2, by omega, fun j u hj => by
        rw [List.drop_of_length_le (by omega)] at hj
        cases hj⟩
    · rw [if_neg hc]
      refine ⟨b, off + k, cs, ?_, e2, by omega, fun j u hj => ?_⟩
      · show some ((⟨b, off, none⟩ : Addr).add (k * 1)) = _
        rw [addr_add, Nat.mul_one]
      · rw [List.getElem?_drop] at hj
        rw [Nat.add_assoc]
        exact e4 _ u hj
theorem blkOf_drop (a : Option Addr) (c k : Nat) : blkOf (if c = k then a else a.map (·.add (k * 1))) = blkOf a := by
  unfold blkOf
  split
  · rfl
  · cases a with
    | none => rfl
    | some ad => show some (ad.add (k * 1)).block = some ad.block; unfold Addr.add; split <;> rfl
/-- its first k elements -/
theorem PR.take {w : World} {T : TypeId} {a : Option Addr} {n c : Nat} {xs : List Value} (h : PR w T a n c xs) (k : Nat) (hk : k ≤ n) : PR w T a k c (xs.take k) := by
  obtain ⟨h1, h2, h3, h4⟩ := h
  refine ⟨by simp [h1]; omega, by omega, h3, h4.imp id ?_⟩
  rintro ⟨b, off, cs, rfl, e2, e3, e4⟩
  refine ⟨b, off, cs, rfl, e2, e3, fun j u hj => ?_⟩
  rw [List.getElem?_take] at hj
  split at hj
  · exact e4 j u hj
  · cases hj
/-- 's = append(s, x)', x just built in V -/
structure PApp (P : Program) (t : TypeId) (V : World) (tmp : Obj) (v : Value) (a : Option Addr) (a' : Option Addr) (n c' : Nat) (W : World) (T : TypeId) (xs : List Value) : Prop where
  run : ∀ ty, (Builtin.append_ #[t, t] ty #[v, .slice (some ⟨V.heap.size, 0, none⟩) 1 1]).run P (V.alloc tmp) = .ok (.slice a' (n + 1) c') W
  row : PR W T a' (n + 1) c' xs
  but : But (blkOf a) V W
  new : ∀ k, blkOf a' = some k → blkOf a = some k ∨ V.heap.size < k
theorem pr_app {P : Program} {t T : TypeId} {bytes : Nat} (E : ElemT P t T 1 bytes) {V : World} {a : Option Addr} {n c : Nat} {xs : List Value} (h : PR V T a n c xs) (x : Value) (h1 : x.oneCell' = true) (hn : n ≤ 1000000) (hb : bytes ≤ 1000) :
    ∃ a' c' W, PApp P t V (.cells #[x] T) (.slice a n c) a a' n c' W T (xs ++ [x]) := by
  obtain ⟨under, i, z, hi, hz, hs, hby, hzs, h0⟩ := E
  have B : Below V.heap.size V (V.alloc (.cells #[x] T)) := (Below.refl _ _).alloc (Nat.le_refl _) _
  have hnew : (V.alloc (.cells #[x] T)).heap[V.heap.size]? = some (.cells #[x] T (0, 0)) := alloc_blk_new
  have hc0 : ∀ (j : Nat) u, [x][j]? = some u → (V.alloc (.cells #[x] T)).cell? ((⟨V.heap.size, 0, none⟩ : Addr).add j) = some u := fun j u hj => by
    rw [addr_add, Nat.zero_add, cell_blk hnew, ← hj]; simp
  have hA := h.keep B
  by_cases hroom : n + 1 ≤ c
  · obtain ⟨e1, e2, e3, e4⟩ := hA
    rcases e4 with ⟨_, hc⟩ | ⟨b, off, cs, rfl, e5, e6, e7⟩
    · omega
    · have hlt : off + n < cs.size := by omega
      have hr := fun ty => run_append_room_cells (P := P) (V.alloc (.cells #[x] T)) t ty T i under hi b off n c ⟨V.heap.size, 0, none⟩ 1 1 [x] (by rw [hs]; rfl) hc0 (by intro u hu; simp at hu; subst hu; exact h1) hroom
        (fun j hj => by rw [hs, cell_blk e5]; have : j = 0 := by simpa using hj
                        subst this; simp [show off + n < cs.size from hlt]) (fun j hj => free_blk e5)
      rw [hs, Nat.mul_one] at hr
      have hset : (V.alloc (.cells #[x] T)).setCells b (off + n) [x] = (V.alloc (.cells #[x] T)).setCell ⟨b, off + n, none⟩ x := rfl
      rw [hset] at hr
      have hbV : b < V.heap.size := h.lt b rfl
      refine ⟨some ⟨b, off, none⟩, c, _, hr, ⟨by simp [e1], hroom, e3, .inr ⟨b, off, cs.setIfInBounds (off + n) x, rfl, set_blk _ e5, by simpa using e6, fun j u hj => ?_⟩⟩, ?_, fun k hk => .inl hk⟩
      · rw [Array.getElem?_setIfInBounds]
        by_cases hjn : j = n
        · subst hjn
          rw [List.getElem?_append_right (by omega), e1, Nat.sub_self] at hj
          rw [if_pos rfl, if_pos hlt]
          exact hj
        · rw [if_neg (by omega)]
          have hjl : j < xs.length := by
            have := (List.getElem?_eq_some_iff.1 hj).1
            simp at this; omega
          rw [List.getElem?_append_left hjl] at hj
          exact e7 j u hj
      · refine ⟨rfl, rfl, rfl, by simp [World.setCell], fun k hk hne => ?_⟩
        rw [Below.heap_setCell _ _ _ _ (fun e => hne (by show some b = some k; rw [e]))]
        exact Below.heap_alloc _ _ _ hk
  · have hcn : c = n := by have := h.le; omega
    subst hcn
    have hgr : ∃ a' c' W, (∀ ty, (Builtin.append_ #[t, t] ty #[.slice a c c, .slice (some ⟨V.heap.size, 0, none⟩) 1 1]).run P (V.alloc (.cells #[x] T)) = .ok (.slice a' (c + 1) c') W) ∧ W.ownsRow (V.alloc (.cells #[x] T)).heap.size T 1 (.slice a' (c + 1) c') (c + 1) (xs ++ [x]) ∧ (V.alloc (.cells #[x] T)).grownBy W none := by
      cases a with
      | some b =>
        obtain ⟨e1, e2, e3, e4⟩ := hA
        rcases e4 with ⟨e, _⟩ | ⟨b', off, cs, e, e5, e6, e7⟩
        · cases e
        · cases e
          obtain ⟨v', w', hrun, r1, r2⟩ := run_append_arg_grows (P := P) (V.alloc (.cells #[x] T)) t t T i z 1 bytes under hi hz hs hby hzs (by decide) ⟨b', off, none⟩ c c xs (by omega) (fun j u hj => by rw [addr_add, cell_blk e5]; exact e7 j u hj) ⟨V.heap.size, 0, none⟩ 1 1 [x] rfl hc0 (by omega) (by unfold maxLen; omega) (by
            have h := Nat.mul_le_mul (show c + 1 ≤ 1000001 by omega) hb
            omega)
          obtain ⟨a', c', rfl⟩ := own_len r1
          exact ⟨a', c', w', fun ty => hrun, r1, r2⟩
      | none =>
        have hc : c = 0 := by
          rcases h.at_ with ⟨_, h⟩ | ⟨_, _, _, e, _⟩
          · exact h
          · cases e
        subst hc
        have hxs : xs = [] := List.length_eq_zero_iff.1 h.len
        subst hxs
        obtain ⟨v', w', hrun, r1, r2, _⟩ := run_append_own (P := P) (V.alloc (.cells #[x] T)) (V.alloc (.cells #[x] T)).heap.size t t T i z 1 bytes under hi hz hs hby hzs (by decide) (.slice none 0 0) 0 [] (World.ownsRow_nil _ _ T 1) ⟨V.heap.size, 0, none⟩ 1 1 [x] rfl hc0 (by intro u hu; simp at hu; subst hu; exact h1) (by unfold maxLen; omega) (by omega) (Nat.le_refl _)
        obtain ⟨a', c', rfl⟩ := own_len r1
        exact ⟨a', c', w', fun ty => hrun, r1, r2⟩
    obtain ⟨a', c', W, hr, hown, hg⟩ := hgr
    refine ⟨a', c', W, hr, ⟨by rw [List.length_append, h.len]; rfl, ?_, ?_, ?_⟩, ⟨hg.os, hg.tape, hg.output, ?_, fun k hk _ => ?_⟩, fun k hk => ?_⟩
    · rcases hown.2 with ⟨_, h0⟩ | ⟨g, cap, cur, hv, _, _, hn, _⟩
      · omega
      · injection hv with _ _ e3; omega
    · rcases hown.2 with ⟨hv, _⟩ | ⟨g, cap, cur, hv, _, _, _, hm, _⟩
      · injection hv with _ _ e3; omega
      · injection hv with _ _ e3; unfold maxLen at hm; omega
    · right
      rcases hown.2 with ⟨_, h0⟩ | ⟨g, cap, cur, hv, _, hh, hn, hm, hsz, htk⟩
      · omega
      · injection hv with e1 _ e3
        subst e1 e3
        exact ⟨g, 0, cur, rfl, hh, by omega, fun j u hj => by
          have := own_cell hown hj
          rw [cell_blk hh] at this
          rw [Nat.zero_add]; exact this⟩
    · have := hg.size; simp at this; omega
    · rw [hg.block k (by simp; omega) (by simp)]
      exact Below.heap_alloc _ _ _ hk
    · right
      have : (Value.slice a' (c + 1) c').ownBlock = some k := by
        rcases hown.2 with ⟨_, h0⟩ | ⟨g, cap, cur, hv, _, hh, hn, hm, hsz, htk⟩
        · omega
        · injection hv with e1 _ e3
          subst e1
          cases hk; rfl
      have := (hown.lt k this).1
      simp at this
      omega
end Go.Proofs.Ytdmbdageohjodaa
