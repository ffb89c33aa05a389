/-
  Bytes as lists, rows of the call's own, Put and Clone over them (lines of chapter 36, for other chapters).
-/
import Derived.Test.YtkoplofcjbeicaaPut
import Derived.Test.YtkoplofcjbeicaaApp
import Derived.Test.YtkoplofcjbeicaaClone
namespace Go.Proofs.Ytkoplofcjbeicaa
open Go.RowKit
set_option linter.unusedVariables false
set_option linter.unusedSimpArgs false
attribute [local irreducible] wpStill wpQuiet

/-- numbers as values -/
def u8s (L : List Int) : List Value := L.map fun x => .int .u8 x
theorem u8s_app (L M : List Int) : u8s (L ++ M) = u8s L ++ u8s M := List.map_append ..
theorem u8s_len (L : List Int) : (u8s L).length = L.length := List.length_map ..
def gz (L : List Int) (i : Nat) : Int := L.getD i 0
theorem u8s_bytes (L : List Int) : u8s L = bytesOf (gz L) L.length := by
  unfold u8s bytesOf gz
  apply List.ext_getElem?
  intro i
  rw [List.getElem?_map, List.getElem?_map]
  by_cases h : i < L.length
  · rw [List.getElem?_range h, List.getElem?_eq_getElem h]; simp [h]
  · rw [List.getElem?_eq_none (by omega), List.getElem?_eq_none (by simpa using h)]; rfl
/-- numbers of bytes -/
def Oct (L : List Int) : Prop := ∀ x ∈ L, 0 ≤ x ∧ x ≤ 255
theorem Oct.gz {L : List Int} (h : Oct L) (i : Nat) : 0 ≤ gz L i ∧ gz L i ≤ 255 := by
  unfold Go.Proofs.Ytkoplofcjbeicaa.gz
  by_cases hi : i < L.length
  · simp only [List.getD, List.getElem?_eq_getElem hi, Option.getD_some]
    exact h _ (List.getElem_mem hi)
  · simp only [List.getD, List.getElem?_eq_none (by omega : L.length ≤ i), Option.getD_none]; omega
theorem Oct.app {L M : List Int} (h : Oct L) (k : Oct M) : Oct (L ++ M) := fun x hx => (List.mem_append.1 hx).elim (h x) (k x)
theorem Oct.nil : Oct [] := fun x hx => by cases hx
/-- a row of the call's own reads as bytes -/
theorem BS.own {w : World} {base n : Nat} {v : Value} {L : List Int} (h : w.ownsRow base 5 1 v n (u8s L)) (hO : Oct L) (hn : n ≤ 1000000) : n = L.length ∧ ∃ a cap, v = .slice a n cap ∧ BS w.heap.size w a n cap (gz L) := by
  have hl : n = L.length := by have := h.1; rw [u8s_len] at this; omega
  subst hl
  rw [u8s_bytes] at h
  exact ⟨rfl, BS.of_owns h (fun i _ => hO.gz i) hn⟩
/-- a slice of bytes, as a list -/
def zs (Z : Nat → Int) (n : Nat) : List Int := (List.range n).map Z
theorem zs_len (Z : Nat → Int) (n : Nat) : (zs Z n).length = n := by simp [zs]
theorem zs_u8s (Z : Nat → Int) (n : Nat) : u8s (zs Z n) = bytesOf Z n := by simp [u8s, zs, bytesOf]
theorem zs_oct {B : Nat} {w : World} {a : Option Addr} {n c : Nat} {Z : Nat → Int} (h : BS B w a n c Z) : Oct (zs Z n) := fun x hx => by
  simp only [zs, List.mem_map, List.mem_range] at hx
  obtain ⟨i, hi, rfl⟩ := hx
  exact h.bd i hi
theorem BS.nils {B : Nat} {w : World} {a : Option Addr} {n c : Nat} {Z : Nat → Int} (h : BS B w a n c Z) : a = none → n = 0 ∧ c = 0 := fun e => by
  obtain ⟨b, off, h1, _⟩ := h.mem
  have := h.le
  have : c = 0 := by
    rcases Nat.eq_zero_or_pos c with h0 | h0
    · exact h0
    · have := (h1 h0).1; rw [e] at this; cases this
  exact ⟨by omega, this⟩
theorem BS.news' {B : Nat} {w : World} {a : Option Addr} {n c : Nat} {Z : Nat → Int} (h : BS B w a n c Z) : ∀ ad, a = some ad → ∀ (j : Nat) u, (u8s (zs Z n))[j]? = some u → w.cell? (ad.add j) = some u := fun ad e j u hj => by
  rw [zs_u8s] at hj
  obtain ⟨h1, rfl⟩ := bytesOf_get hj
  obtain ⟨b, off, h2, h3⟩ := h.mem
  have h4 := h2 (by have := h.le; omega)
  rw [e] at h4
  obtain ⟨h4, _⟩ := h4
  cases h4
  rw [addr_add]
  exact h3 j h1
theorem u8s_one (L : List Int) : ∀ u ∈ u8s L, u.oneCell' = true := by
  intro u hu
  simp only [u8s, List.mem_map] at hu
  obtain ⟨x, _, rfl⟩ := hu
  rfl

def putL (x : Int) (m : Nat) : List Int := (List.range m).map fun i => x / 2 ^ (8 * (m - 1 - i)) % 256
theorem putL_len (x : Int) (m : Nat) : (putL x m).length = m := by simp [putL]
theorem putL_oct (x : Int) (m : Nat) : Oct (putL x m) := fun y hy => by
  simp only [putL, List.mem_map] at hy
  obtain ⟨i, _, rfl⟩ := hy
  omega
theorem bytesOf_put (Z : Nat → Int) (n : Nat) (x : Int) (m : Nat) : bytesOf (putZ Z n x m) (n + m) = bytesOf Z n ++ u8s (putL x m) := by
  unfold bytesOf u8s putL
  rw [List.range_add, List.map_append, List.map_map, List.map_map]
  congr 1
  · exact List.map_congr_left fun i hi => by unfold putZ; rw [if_pos (List.mem_range.1 hi)]
  · exact List.map_congr_left fun i hi => by
      show Value.int .u8 (putZ Z n x m (n + i)) = _
      unfold putZ
      rw [if_neg (by omega), Nat.add_sub_cancel_left]
      rfl
theorem put_l (a : Option Addr) (n cap : Nat) (L : List Int) (base m : Nat) (x : Int) (w : World) (ho : w.ownsRow base 5 1 (.slice a n cap) n (u8s L)) (hO : Oct L) (hn : n ≤ 100000) (hm1 : 1 ≤ m) (hm2 : m ≤ 8) (hx0 : 0 ≤ x) (hx1 : x ≤ 18446744073709551615) :
    Calls Try.prog 43 #[.slice a n cap, .int .i64 m, .int .u64 x] w fun e w' => ∃ a' c', e = .returned (.slice a' (n + m) c') ∧ w'.ownsRow w.heap.size 5 1 (.slice a' (n + m) c') (n + m) (u8s (L ++ putL x m)) ∧ Below w.heap.size w w' := by
  obtain ⟨hl, a1, c1, he, hb⟩ := BS.own ho hO (by omega)
  cases he
  refine (put_good _ a n cap (gz L) m x w hb (Nat.le_refl _) hn hm1 hm2 hx0 hx1).mono ?_
  rintro e w' ⟨v, rfl, o, b⟩
  obtain ⟨a', c', rfl⟩ := own_len o
  refine ⟨a', c', rfl, ?_, b⟩
  rw [u8s_app, u8s_bytes L, ← hl, ← bytesOf_put]
  exact o
theorem zs_gz (L : List Int) : zs (gz L) L.length = L := by
  apply List.ext_getElem?
  intro i
  unfold zs gz
  rw [List.getElem?_map]
  by_cases h : i < L.length
  · rw [List.getElem?_range h, List.getElem?_eq_getElem h]; simp [h]
  · rw [List.getElem?_eq_none (by simpa using h), List.getElem?_eq_none (by omega)]; rfl
theorem conv_own {w W : World} {base N : Nat} {a : Option Addr} {c : Nat} {L : List Int} (h : w.ownsRow base 5 1 (.slice a N c) N (u8s L)) (hO : Oct L) (hN : N ≤ 1000000) (hb : Below w.heap.size w W) :
    (convert 22 9 (.slice a N c)).run Try.prog W = .ok (.string (strOf (gz L) N)) W := by
  obtain ⟨_, a', c', he, hs⟩ := BS.own h hO hN
  cases he
  exact run_conv_BS (hs.keep hb) Try.underlying22 Try.underlying5 Try.underlying9
theorem bs_of36b {w : World} {v : Value} (h : Reads Try.prog w 5 22 v) : ∃ a n c Z, v = .slice a n c ∧ BS w.heap.size w a n c Z := by
  obtain ⟨a, len, cap, b, off, V, rfl, row⟩ := reads_slice Try.underlying22 (ts := [5]) (by kernel_rfl) (by kernel_rfl) (by decide) h
  have hx : ∀ i, i < cap → ∃ z : Int, V i 0 = .int .u8 z ∧ (Lit.int .u8 z).wf = true := fun i hi => reads_int Try.underlying5 (row.read i hi 0 _ rfl)
  obtain ⟨Z, hZ⟩ := Deep.choose_lt (n := cap) (α := Int) (p := fun i z => V i 0 = .int .u8 z ∧ (Lit.int .u8 z).wf = true) hx
  have hm := row.max
  unfold maxLen at hm
  refine ⟨a, len, cap, Z, rfl, row.le, by omega, fun i hi => bounds_u8 (hZ i (by have := row.le; omega)).2, b, off, row.addr, fun i hi => ?_⟩
  have := row.cell i (by have := row.le; omega) 0 (by decide)
  rw [(hZ i (by have := row.le; omega)).1] at this
  rw [← this]
  simp
theorem bs_of36 {w : World} {v : Value} (h : Reads Try.prog w 6 22 v) : ∃ a n c Z, v = .slice a n c ∧ BS w.heap.size w a n c Z := by
  obtain ⟨a, len, cap, b, off, V, rfl, row⟩ := reads_slice Try.underlying22 (ts := [5]) (by kernel_rfl) (by kernel_rfl) (by decide) h
  have hx : ∀ i, i < cap → ∃ z : Int, V i 0 = .int .u8 z ∧ (Lit.int .u8 z).wf = true := fun i hi => reads_int Try.underlying5 (row.read i hi 0 _ rfl)
  obtain ⟨Z, hZ⟩ := Deep.choose_lt (n := cap) (α := Int) (p := fun i z => V i 0 = .int .u8 z ∧ (Lit.int .u8 z).wf = true) hx
  have hm := row.max
  unfold maxLen at hm
  refine ⟨a, len, cap, Z, rfl, row.le, by omega, fun i hi => bounds_u8 (hZ i (by have := row.le; omega)).2, b, off, row.addr, fun i hi => ?_⟩
  have := row.cell i (by have := row.le; omega) 0 (by decide)
  rw [(hZ i (by have := row.le; omega)).1] at this
  rw [← this]
  simp
theorem nil_row (W : World) (base : Nat) (hb : base ≤ W.heap.size) : (W.alloc (.cells #[] 5)).ownsRow base 5 1 (.slice (some ⟨W.heap.size, 0, none⟩) 0 0) 0 [] :=
  ⟨rfl, .inr ⟨W.heap.size, 0, #[], rfl, hb, alloc_blk_new, Nat.le_refl _, by unfold maxLen; omega, rfl, rfl⟩⟩
set_option maxHeartbeats 1000000 in
theorem clone_nil (w : World) :
    Calls Try.prog 55 #[.slice none 0 0] w fun e w' => e = .returned (.slice none 0 0) ∧ w = w' := by
  have hE : ∀ W : World, (binOp BinOp.eql 22 (.slice none 0 0) (.slice none 0 0)).run Try.prog W = .ok (.bool true) W := fun W => by kernel_rfl
  go_enter Try.func55, Try.ntmps55
  go_wp2_with fail
  go_ret
  exact ⟨rfl, rfl⟩
theorem clone_any (B : Nat) (a : Option Addr) (n c : Nat) (Z : Nat → Int) (w : World) (s : BS B w a n c Z) (hB : B ≤ w.heap.size) (hn : n ≤ 100000) :
    Calls Try.prog 55 #[.slice a n c] w fun e w' => ∃ a' c', e = .returned (.slice a' n c') ∧ w'.ownsRow w.heap.size 5 1 (.slice a' n c') n (bytesOf Z n) ∧ Below w.heap.size w w' := by
  cases a with
  | none =>
    obtain ⟨rfl, rfl⟩ := s.nils rfl
    refine (clone_nil w).mono ?_
    rintro e w' ⟨rfl, rfl⟩
    exact ⟨none, 0, rfl, World.ownsRow_nil _ _ _ _, Below.refl _ _⟩
  | some ad =>
    refine (clone_some B ad n c Z w s hB hn).mono ?_
    rintro e w' ⟨v, rfl, o, b⟩
    obtain ⟨a', c', rfl⟩ := own_len o
    exact ⟨a', c', rfl, o, b⟩
theorem own_blk1y {w w' : World} {base : Nat} {e : TypeId} {size : Nat} {v : Value} {n : Nat} {xs : List Value} (h : w.ownsRow base e size v n xs) (hb : ∀ k, v.ownBlock = some k → w'.heap[k]? = w.heap[k]?) : w'.ownsRow base e size v n xs := by
  obtain ⟨h1, h2⟩ := h
  refine ⟨h1, ?_⟩
  rcases h2 with h2 | ⟨g, cap, cur, hv, hg, hh, r'⟩
  · exact .inl h2
  · exact .inr ⟨g, cap, cur, hv, hg, by rw [hb g (by rw [hv]; rfl)]; exact hh, r'⟩
theorem own_types {w : World} {b1 b2 : Nat} {e1 e2 : TypeId} {s1 s2 n1 n2 : Nat} {v1 v2 : Value} {xs1 xs2 : List Value} (h1 : w.ownsRow b1 e1 s1 v1 n1 xs1) (h2 : w.ownsRow b2 e2 s2 v2 n2 xs2) (hne : e1 ≠ e2) : Apart v1 v2 := fun g g1 g2 => by
  rcases h1.2 with ⟨hv, _⟩ | ⟨x, _, _, hv, _, hx, _⟩
  · rw [hv] at g1; cases g1
  · rcases h2.2 with ⟨hv', _⟩ | ⟨y, _, _, hv', _, hy, _⟩
    · rw [hv'] at g2; cases g2
    · rw [hv] at g1; rw [hv'] at g2; cases g1; cases g2
      rw [hx] at hy
      injection hy with hy
      injection hy with _ e
      exact hne e
theorem own_block {w : World} {b1 : Nat} {e1 : TypeId} {s1 n1 : Nat} {v1 : Value} {xs1 : List Value} (h1 : w.ownsRow b1 e1 s1 v1 n1 xs1) : ∀ g, v1.ownBlock = some g → ∃ cs mm, w.heap[g]? = some (.cells cs e1 mm) := fun g hg => by
  rcases h1.2 with ⟨hv, _⟩ | ⟨x, _, cs, hv, _, hx, _⟩
  · rw [hv] at hg; cases hg
  · rw [hv] at hg; cases hg; exact ⟨_, _, hx⟩
/-- a block of elements of type T -/
def OfT (T : TypeId) (r : Option Nat) (w : World) : Prop := ∀ g, r = some g → ∃ cs mm, w.heap[g]? = some (.cells cs T mm)
theorem own_butT {w w' : World} {r : Option Nat} {T : TypeId} (hT : OfT T r w) (hb : But r w w') {b1 : Nat} {e1 : TypeId} {s1 n1 : Nat} {v1 : Value} {xs1 : List Value} (h : w.ownsRow b1 e1 s1 v1 n1 xs1) (hne : e1 ≠ T) : w'.ownsRow b1 e1 s1 v1 n1 xs1 :=
  own_but h hb fun k hk e => by
    obtain ⟨cs, mm, h1⟩ := hT k e
    obtain ⟨cs', mm', h2⟩ := own_block h k hk
    rw [h1] at h2
    injection h2 with h2
    injection h2 with _ h2
    exact hne h2.symm
theorem blk_butT {w w' : World} {r : Option Nat} {T : TypeId} (hT : OfT T r w) (hb : But r w w') {k : Nat} {cs : Array Value} {e1 : TypeId} {mm : Nat × Nat} (h : w.heap[k]? = some (.cells cs e1 mm)) (hne : e1 ≠ T) : r ≠ some k ∧ w'.heap[k]? = some (.cells cs e1 mm) := by
  have hr : r ≠ some k := fun e => by
    obtain ⟨cs', mm', h1⟩ := hT k e
    rw [h] at h1
    injection h1 with h1
    injection h1 with _ h2
    exact hne h2
  exact ⟨hr, hb.blk h hr⟩
theorem own_setT {w : World} {b i : Nat} {cs : Array Value} {T : TypeId} {mm : Nat × Nat} (u : Value) (hblk : w.heap[b]? = some (.cells cs T mm)) {b1 : Nat} {e1 : TypeId} {s1 n1 : Nat} {v1 : Value} {xs1 : List Value} (h : w.ownsRow b1 e1 s1 v1 n1 xs1) (hne : e1 ≠ T) : (w.setCell ⟨b, i, none⟩ u).ownsRow b1 e1 s1 v1 n1 xs1 :=
  own_blk1y h fun q hq => set_blk_other _ (by
    show q ≠ b
    intro e
    subst e
    obtain ⟨cs', mm', h2⟩ := own_block h q hq
    rw [hblk] at h2
    injection h2 with h2
    injection h2 with _ h2
    exact hne h2.symm)
theorem But.cell {r : Option Nat} {w w' : World} {b i : Nat} {v : Value} (h : But r w w') (hc : w.cell? ⟨b, i, none⟩ = some v) (hr : r ≠ some b) : w'.cell? ⟨b, i, none⟩ = some v := by
  rw [World.cell?_of_block (w := w) (h.block b (World.block_lt_of_cell? _ _ hc) hr)]; exact hc
theorem But.rf (r : Option Nat) (w : World) : But r w w := ⟨rfl, rfl, rfl, Nat.le_refl _, fun _ _ _ => rfl⟩
theorem But.tr {r : Option Nat} {u v w : World} (h : But r u v) (k : But r v w) : But r u w :=
  ⟨k.os.trans h.os, k.tape.trans h.tape, k.output.trans h.output, Nat.le_trans h.size k.size, fun i hi hne => (k.block i (Nat.lt_of_lt_of_le hi h.size) hne).trans (h.block i hi hne)⟩
theorem But.al {r : Option Nat} {u w : World} (h : But r u w) (o : Obj) : But r u (w.alloc o) := h.behind ((Below.refl _ _).alloc (Nat.le_refl _) _)
end Go.Proofs.Ytkoplofcjbeicaa
