/-
  Chapter 32: Set.
-/
import Derived.Test.YtihbceippcgfgaaExI
namespace Go.Proofs.Ytihbceippcgfgaa
open Go.RowKit
set_option linter.unusedVariables false
set_option linter.unusedSimpArgs false
attribute [local irreducible] wpStill wpQuiet MixC.wpMix
attribute [local go_sem] MixC.rdOp MixC.rd MixC.rdUpon MixC.mvUpon

theorem own_setE {w : World} {base g n cap : Nat} {e : TypeId} {size : Nat} {xs : List Value} (h : w.ownsRow base e size (.slice (some ⟨g, 0, none⟩) n cap) n xs) (j : Nat) (u : Value) :
    (w.setCell ⟨g, j, none⟩ u).ownsRow base e size (.slice (some ⟨g, 0, none⟩) n cap) n (xs.set j u) := by
  obtain ⟨h1, h2⟩ := h
  refine ⟨by rw [List.length_set]; exact h1, ?_⟩
  rcases h2 with ⟨h2, _⟩ | ⟨g', cap', cur, hv, hg, hh, r1, r2, r3, r4⟩
  · cases h2
  · cases hv
    refine .inr ⟨g, cap, cur.setIfInBounds j u, rfl, hg, set_blk u hh, r1, r2, by simpa using r3, ?_⟩
    rw [Array.toList_setIfInBounds, List.take_set, r4]

def updE (Q : Nat → El) (k : Nat) (x : El) : Nat → El := fun i => if i = k then x else Q i
theorem updE_same (Q : Nat → El) (k : Nat) (x : El) : updE Q k x k = x := if_pos rfl
theorem updE_other (Q : Nat → El) {k i : Nat} (x : El) (h : i ≠ k) : updE Q k x i = Q i := if_neg h
theorem elsV_upd (Q : Nat → El) (n k : Nat) (x : El) (hk : k < n) : ((elsV Q n).set (k * 2) (.int .i64 x.id)).set (k * 2 + 1) (.slice x.a x.n x.c) = elsV (updE Q k x) n := by
  apply List.ext_getElem?
  intro j
  by_cases hj : j < n * 2
  · obtain ⟨i, hi, hij⟩ : ∃ i, i < n ∧ (j = i * 2 ∨ j = i * 2 + 1) := ⟨j / 2, by omega, by omega⟩
    obtain ⟨h1, h2⟩ := elsV_get Q n i hi
    obtain ⟨h3, h4⟩ := elsV_get (updE Q k x) n i hi
    have hl := elsV_len Q n
    by_cases hik : i = k
    · subst hik
      rw [updE_same] at h3 h4
      rcases hij with rfl | rfl
      · rw [h3, List.getElem?_set_ne (by omega), List.getElem?_set_self (by omega)]
      · rw [h4, List.getElem?_set_self (by rw [List.length_set]; omega)]
    · rw [updE_other Q x hik] at h3 h4
      rcases hij with rfl | rfl
      · rw [h3, List.getElem?_set_ne (by omega), List.getElem?_set_ne (by omega), h1]
      · rw [h4, List.getElem?_set_ne (by omega), List.getElem?_set_ne (by omega), h2]
  · rw [List.getElem?_eq_none (by rw [List.length_set, List.length_set, elsV_len]; omega), List.getElem?_eq_none (by rw [elsV_len]; omega)]
theorem elsV_congr {Q Q' : Nat → El} {n : Nat} (h : ∀ i, i < n → Q i = Q' i) : elsV Q n = elsV Q' n := by
  induction n with
  | zero => rfl
  | succ n ih => unfold elsV; rw [ih (fun i hi => h i (by omega)), h n (by omega)]
theorem elsV_add (Q : Nat → El) (n : Nat) (x : El) : elsV Q n ++ [.int .i64 x.id, .slice x.a x.n x.c] = elsV (updE Q n x) (n + 1) := by
  show _ = elsV (updE Q n x) n ++ _
  rw [updE_same, elsV_congr (Q := updE Q n x) (Q' := Q) (fun i hi => updE_other Q x (by omega))]
def SetP (Q : Nat → El) (len : Nat) (x : El) (w : World) (e : Ending) (w' : World) : Prop :=
  Below w.heap.size w w' ∧ ∃ v m k a' c', e = .returned v ∧ w'.ownsRow w.heap.size 35 2 v m (elsV (updE Q k ⟨x.id, a', x.n, c', x.Z⟩) m) ∧ w'.ownsRow w.heap.size 5 1 (.slice a' x.n c') x.n (bytesOf x.Z x.n) ∧
    ((k < len ∧ m = len ∧ (Q k).id = x.id ∧ ∀ j, j < k → (Q j).id ≠ x.id) ∨ (k = len ∧ m = len + 1 ∧ ∀ j, j < len → (Q j).id ≠ x.id))
set_option maxRecDepth 100000 in
set_option maxHeartbeats 2000000 in
theorem set32_any (B : Nat) (a : Option Addr) (len c : Nat) (Q : Nat → El) (x : El) (w : World) (h : Els B w a len c Q) (hB : B ≤ w.heap.size) (hn : len ≤ 10000) (hx : ElOk B w x) (hxn : x.n ≤ 100000) : Calls Try.prog 21 #[.slice a len c, .agg #[.int .i64 x.id, .slice x.a x.n x.c]] w (SetP Q len x w) := by
  have H := Lib.hid h
  have HX := Lib.hid hx
  have hcm := h.max
  have hcl := h.le
  clear h hx
  go_enter Try.func21, Try.ntmps21
  go_wp2_with fail
  obtain ⟨W0, hW0⟩ : ∃ W0, w.alloc (.cells #[.int .i64 x.id, .slice x.a x.n x.c] 35) = W0 := ⟨_, rfl⟩
  obtain ⟨g, hg⟩ : ∃ g, w.heap.size = g := ⟨_, rfl⟩
  rw [hW0, hg]
  have b0 : Below w.heap.size w W0 := by rw [← hW0]; exact (Below.refl _ _).alloc (Nat.le_refl _) _
  have k0 : W0.heap[g]? = some (.cells #[.int .i64 x.id, .slice x.a x.n x.c] 35 (0, 0)) := by rw [← hW0, ← hg]; exact alloc_blk_new
  have hgl : g < W0.heap.size := lt_of_block k0
  refine (cloneE_any B a len c Q W0 (H.out.keep (b0.mono hB)) (Nat.le_trans hB b0.size) hn).mono ?_
  rintro e W1 ⟨a1, c1, rfl, o1, b1⟩
  have k1 : W1.heap[g]? = some (.cells #[.int .i64 x.id, .slice x.a x.n x.c] 35 (0, 0)) := Below.blk b1 k0 hgl
  have B1 := Lib.hid (b0.trans (b1.mono b0.size))
  have O1 := Lib.hid o1
  have K1 := Lib.hid k1
  have HG := Lib.hid hg
  have HW0 : Hid (W0.heap.size = g + 1) := Lib.hid (by rw [← hW0, ← hg]; simp [World.size_alloc])
  have t1 : W1.cell? ⟨g, 1, none⟩ = some (.slice x.a x.n x.c) := cell_blk k1
  clear hW0 hg b0 k0 b1 o1 k1 hgl
  go_wp2_with fail
  refine (clone_any B x.a x.n x.c x.Z W1 (HX.out.z.keep (B1.out.mono hB)) (Nat.le_trans hB B1.out.size) hxn).mono ?_
  rintro e W2 ⟨a2, c2, rfl, o2, b2⟩
  have k2 := Below.blk b2 K1.out (lt_of_block K1.out)
  have B2 := Lib.hid (B1.out.trans (b2.mono B1.out.size))
  have O2 := Lib.hid o2
  have P2 := Lib.hid b2
  have K2 := Lib.hid k2
  have t0 : W2.cell? ⟨g, 0, none⟩ = some (.int .i64 x.id) := cell_blk k2
  have t2 : W2.frozen? ⟨g, 1, none⟩ = false := free_blk k2
  have t3 : W2.cell? ⟨g, 1, none⟩ = some (.slice x.a x.n x.c) := cell_blk k2
  clear k2 b2 o2 t1
  go_wp2_with fail
  obtain ⟨W3, hW3⟩ : ∃ W3, W2.setCell ⟨g, 1, none⟩ (.slice a2 x.n c2) = W3 := ⟨_, rfl⟩
  rw [hW3]
  have b3 : Below w.heap.size w W3 := by rw [← hW3]; exact B2.out.setCell (p := ⟨g, 1, none⟩) (by rw [HG.out]; exact Nat.le_refl _) _
  have k3 : W3.heap[g]? = some (.cells #[.int .i64 x.id, .slice a2 x.n c2] 35 (0, 0)) := by rw [← hW3, set_blk _ K2.out]; rfl
  have ot3 : ∀ q, q ≠ g → W3.heap[q]? = W2.heap[q]? := fun q hq => by rw [← hW3]; exact set_blk_other _ hq
  have o3 : W3.ownsRow (g + 1) 35 2 (.slice a1 len c1) len (elsV Q len) := by
    have h := own_below O1.out P2.out
    rw [HW0.out] at h
    exact own_blk1y h (fun q hq => ot3 q (by have := (h.lt q hq).1; omega))
  have d3 : W3.ownsRow W1.heap.size 5 1 (.slice a2 x.n c2) x.n (bytesOf x.Z x.n) := by
    have hl := lt_of_block K1.out
    exact own_blk1y O2.out (fun q hq => ot3 q (by have := (O2.out.lt q hq).1; omega))
  have e3 : Els W3.heap.size W3 a1 len c1 Q := Els.copy o3 (fun i hi => (H.out.ok i hi).keep (b3.mono hB)) (Nat.le_trans hB b3.size)
  have B3 := Lib.hid b3
  have K3 := Lib.hid k3
  have O3 := Lib.hid o3
  have D3 := Lib.hid d3
  have hl1 := e3.le
  have hl2 := e3.max
  clear t0 t2 t3 hW3 b3 k3 ot3 o3 d3
  refine (at32_any W3.heap.size a1 len c1 Q x.id W3 e3 (Nat.le_refl _) (by omega)).mono ?_
  rintro e W4 ⟨r, rfl, hr, b4⟩
  have B4 := Lib.hid (B3.out.trans (b4.mono B3.out.size))
  have k4 := Below.blk b4 K3.out (lt_of_block K3.out)
  have t0 : W4.cell? ⟨g, 0, none⟩ = some (.int .i64 x.id) := cell_blk k4
  have t1 : W4.cell? ⟨g, 1, none⟩ = some (.slice a2 x.n c2) := cell_blk k4
  have E4 := Lib.hid (e3.keep b4)
  have O4 := Lib.hid (own_below O3.out b4)
  have D4 := Lib.hid (own_below D3.out b4)
  clear b4 k4 e3
  rcases hr with ⟨k, hk, rfl, hid, hbef⟩ | ⟨rfl, hno⟩
  · have HI := Lib.hid hid
    have HF := Lib.hid hbef
    obtain ⟨b, cap, cur, hv, hgb, hh, -, -, -, -⟩ : ∃ b cap cur, (Value.slice a1 len c1) = .slice (some ⟨b, 0, none⟩) len cap ∧ g + 1 ≤ b ∧ W4.heap[b]? = some (.cells cur 35 (0, 0)) ∧ len ≤ cap ∧ True ∧ True ∧ True := by
      rcases O4.out.2 with ⟨_, h0⟩ | ⟨b, cap, cur, h1, h2, h3, h4, _⟩
      · omega
      · exact ⟨b, cap, cur, h1, h2, h3, h4, trivial, trivial, trivial⟩
    injection hv with v1 v2 v3
    subst v1 v3
    have HH := Lib.hid hh
    have HGB := Lib.hid hgb
    have hki : (k : Int) < len := by omega
    have OE := O4.out
    have c0 := OE.cells rfl (k * 2) _ (elsV_get Q len k hk).1
    have c1 := OE.cells rfl (k * 2 + 1) _ (elsV_get Q len k hk).2
    rw [addr_add, Nat.zero_add] at c0 c1
    have f0 : W4.frozen? ⟨b, k * 2, none⟩ = false := free_blk hh
    have hbl := lt_of_block hh
    have hh5 := set_blk (i := k * 2) (.int .i64 x.id) hh
    have o5 := own_setE (own_setE OE (k * 2) (.int .i64 x.id)) (k * 2 + 1) (.slice a2 x.n c2)
    rw [elsV_upd Q len k ⟨x.id, a2, x.n, c2, x.Z⟩ hk] at o5
    have ne5 : ∀ j, j ≠ k * 2 → (W4.setCell ⟨b, k * 2, none⟩ (.int .i64 x.id)).cell? ⟨b, j, none⟩ = W4.cell? ⟨b, j, none⟩ := fun j hj => by
      unfold World.cell?
      rw [hh5, hh]
      simp [Array.getElem?_setIfInBounds, Ne.symm hj]
    have c2' : (W4.setCell ⟨b, k * 2, none⟩ (.int .i64 x.id)).cell? ⟨b, k * 2 + 1, none⟩ = some (.slice (Q k).a (Q k).n (Q k).c) := (ne5 _ (by omega)).trans c1
    have f1 : (W4.setCell ⟨b, k * 2, none⟩ (.int .i64 x.id)).frozen? ⟨b, k * 2 + 1, none⟩ = false := free_blk hh5
    have d5 : ((W4.setCell ⟨b, k * 2, none⟩ (.int .i64 x.id)).setCell ⟨b, k * 2 + 1, none⟩ (.slice a2 x.n c2)).ownsRow w.heap.size 5 1 (.slice a2 x.n c2) x.n (bytesOf x.Z x.n) := by
      have hT : ∀ q, (Value.slice a2 x.n c2).ownBlock = some q → q ≠ b := fun q hq e => by
        obtain ⟨cs, mm, h9⟩ := own_block D4.out q hq
        rw [e, HH.out] at h9
        injection h9 with h9
        injection h9 with _ h9
        exact absurd h9 (by decide)
      exact World.ownsRow.mono (own_blk1y D4.out (fun q hq => by rw [set_blk_other _ (hT q hq), set_blk_other _ (hT q hq)])) B1.out.size
    have b5 : Below w.heap.size w ((W4.setCell ⟨b, k * 2, none⟩ (.int .i64 x.id)).setCell ⟨b, k * 2 + 1, none⟩ (.slice a2 x.n c2)) := (B4.out.setCell (p := ⟨b, k * 2, none⟩) (show w.heap.size ≤ b by have := HG.out; omega) _).setCell (p := ⟨b, k * 2 + 1, none⟩) (show w.heap.size ≤ b by have := HG.out; omega) _
    have O5 := Lib.hid (World.ownsRow.mono o5 (show w.heap.size ≤ g + 1 by have := HG.out; omega))
    have D5 := Lib.hid d5
    have B5 := Lib.hid b5
    clear o5 ne5 d5 b5 hh5 OE hh hgb hid hbef
    go_wp2_with fail
    go_ret
    exact ⟨B5.out, _, len, k, a2, c2, rfl, O5.out, D5.out, .inl ⟨hk, rfl, HI.out, HF.out⟩⟩
  · have HF := Lib.hid hno
    have hgs : g + 1 ≤ W4.heap.size := World.block_lt_of_cell? _ _ t0
    obtain ⟨a9, c9, W5, A9, B9⟩ := app1 elElE O4.out [.int .i64 x.id, .slice a2 x.n c2] rfl (fun u hu => by simp at hu; rcases hu with rfl | rfl <;> rfl) (by omega) (by omega) hgs
    have o5 := A9.own
    rw [elsV_add Q len ⟨x.id, a2, x.n, c2, x.Z⟩] at o5
    have hT : OfT 35 (Value.slice a1 len c1).ownBlock W4 := own_block O4.out
    have d5 := own_butT hT A9.but D4.out (by decide)
    have O5 := Lib.hid (World.ownsRow.mono o5 (show w.heap.size ≤ g + 1 by have := HG.out; omega))
    have D5 := Lib.hid (World.ownsRow.mono d5 B1.out.size)
    have B5 := Lib.hid (B4.out.trans (B9.mono (show w.heap.size ≤ g + 1 by have := HG.out; omega)))
    have HA := Lib.hid A9.run
    clear hno A9 B9 o5 d5 hT
    go_wp2_with (at_builtin; refine wpList_of_append rfl (.tmp 24) (.tmp 26) 22 rfl _ _ _ rfl rfl HA.out ?_)
    go_ret
    exact ⟨B5.out, _, len + 1, len, a2, c2, rfl, O5.out, D5.out, .inr ⟨rfl, rfl, HF.out⟩⟩
end Go.Proofs.Ytihbceippcgfgaa
