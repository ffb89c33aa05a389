/-
  Chapter 34: the reference's table: four rows; a search, an append.
-/
import Derived.Test.YtihbceippcgfgaaMixT
import Derived.Test.YtihbceippcgfgaaSame10
import Derived.Maps.AppendAt
namespace Go.Proofs.Ytihbceippcgfgaa
open Go.RowKit
set_option linter.unusedVariables false
set_option linter.unusedSimpArgs false
attribute [local irreducible] wpStill wpQuiet

/-- the first place of x among the first n -/
def findI (L : Nat → Int) (x : Int) : Nat → Option Nat
  | 0 => none
  | n + 1 => match findI L x n with
    | some i => some i
    | none => if L n = x then some n else none
theorem findI_none {L : Nat → Int} {x : Int} {n : Nat} : findI L x n = none ↔ ∀ j, j < n → L j ≠ x := by
  induction n with
  | zero => simp [findI]
  | succ n ih =>
    unfold findI
    cases h : findI L x n with
    | some i =>
      constructor
      · intro h; cases h
      · intro h'
        have := ih.2 (fun j hj => h' j (by omega))
        rw [h] at this; cases this
    | none =>
      have h1 := ih.1 h
      constructor
      · intro h2 j hj
        by_cases hjn : j = n
        · subst hjn; intro e; simp [e] at h2
        · exact h1 j (by omega)
      · intro h2; simp [h2 n (by omega)]
theorem findI_some {L : Nat → Int} {x : Int} {n i : Nat} (h : findI L x n = some i) : i < n ∧ L i = x ∧ ∀ j, j < i → L j ≠ x := by
  induction n with
  | zero => simp [findI] at h
  | succ n ih =>
    unfold findI at h
    cases h1 : findI L x n with
    | some j =>
      rw [h1] at h
      simp at h
      subst h
      obtain ⟨h2, h3⟩ := ih h1
      exact ⟨by omega, h3⟩
    | none =>
      rw [h1] at h
      by_cases hx : L n = x
      · simp [hx] at h
        subst h
        exact ⟨by omega, hx, findI_none.1 h1⟩
      · simp [hx] at h
theorem findI_mk {L : Nat → Int} {x : Int} {n i : Nat} (hi : i < n) (hx : L i = x) (hf : ∀ j, j < i → L j ≠ x) : findI L x n = some i := by
  cases h : findI L x n with
  | none => exact absurd hx (findI_none.1 h i hi)
  | some j =>
    obtain ⟨h1, h2, h3⟩ := findI_some h
    rcases Nat.lt_trichotomy i j with hlt | rfl | hlt
    · exact absurd hx (h3 i hlt)
    · rfl
    · exact absurd h2 (hf j hlt)
def atI (L : Nat → Int) (n : Nat) (x : Int) : Int := match findI L x n with | some i => i | none => -1
set_option maxHeartbeats 1000000 in
theorem at34_any (B : Nat) (w : World) (a : Option Addr) (n cap : Nat) (L : Nat → Int) (x : Int) (h : US B w a n cap L) :
    Calls Try.prog 36 #[.slice a n cap, .int .u32 x] w fun e w' => e = .returned (.int .i64 (atI L n x)) ∧ w = w' := by
  have hle := h.le
  have hmx := h.max
  have H := Lib.hid h
  clear h
  go_enter Try.func36, Try.ntmps36
  go_wp2_with fail
  go_loop [5] (fun si => ∃ k : Nat, k ≤ n ∧ si = .int .i64 k ∧ Hid (∀ j, j < k → L j ≠ x)) (fun si => n - (intOf si).toNat)
  case atStart => exact ⟨0, by omega, rfl, Lib.hid (fun j hj => by omega)⟩
  case round =>
    obtain ⟨k, hk, rfl, hf⟩ := hrel
    by_cases hlt : k < n
    · obtain ⟨b, off, rfl, hbB, hc⟩ := H.out.mem (by omega)
      have ck := hc k hlt
      clear hc
      by_cases hx : L k = x
      · have HR : Hid (atI L n x = k) := Lib.hid (by unfold atI; rw [findI_mk hlt hx hf.out])
        have e1 : (L k == x) = true := by simpa using hx
        have e2 : decide (L k = x) = true := by simpa using hx
        clear hx
        go_wp2_with fail
        go_ret
        exact ⟨by rw [HR.out]; rfl, rfl⟩
      · have e1 : (L k == x) = false := by simpa using hx
        have e2 : decide (L k = x) = false := by simpa using hx
        have hf2 : Hid (∀ j, j < k + 1 → L j ≠ x) := Lib.hid (fun j hj => by
          by_cases h : j = k
          · subst h; exact hx
          · exact hf.out j (by omega))
        clear hx
        go_wp2_with fail
        go_round
        case rel => exact ⟨k + 1, by omega, by go_num, hf2⟩
        case measure => simp [intOf] <;> omega
    · obtain rfl : k = n := by omega
      have HR : Hid (atI L k x = -1) := Lib.hid (by unfold atI; rw [findI_none.2 hf.out])
      go_wp2_with fail
      go_ret
      exact ⟨by rw [HR.out]; rfl, rfl⟩

/-! ### the table -/
def cE : Nat → TypeId
  | 0 => 41
  | 1 => 41
  | 2 => 5
  | _ => 40
def cS : Nat → TypeId
  | 0 => 42
  | 1 => 42
  | 2 => 25
  | _ => 62
def cK : Nat → IntKind
  | 0 => .u32
  | 1 => .u32
  | 2 => .u8
  | _ => .u16
theorem cInfo (j : Nat) : ∃ i bytes, bytes ≤ 4 ∧ Try.prog.underlying (cS j) = some (.slice (cE j)) ∧ Try.prog.info? (cE j) = some i ∧ i.zero = some (.int (cK j) 0) ∧ i.size = 1 ∧ i.bytes = bytes := by
  have h32 : (Try.prog.info? 41).map (fun i => (i.zero, i.size, i.bytes)) = some (some (.int .u32 0), 1, 4) := by kernel_rfl
  have h8 : (Try.prog.info? 5).map (fun i => (i.zero, i.size, i.bytes)) = some (some (.int .u8 0), 1, 1) := by kernel_rfl
  have h16 : (Try.prog.info? 40).map (fun i => (i.zero, i.size, i.bytes)) = some (some (.int .u16 0), 1, 2) := by kernel_rfl
  match j with
  | 0 => obtain ⟨i, a, b, c, d⟩ := info_parts h32; exact ⟨i, 4, by omega, Try.underlying42, a, b, c, d⟩
  | 1 => obtain ⟨i, a, b, c, d⟩ := info_parts h32; exact ⟨i, 4, by omega, Try.underlying42, a, b, c, d⟩
  | 2 => obtain ⟨i, a, b, c, d⟩ := info_parts h8; exact ⟨i, 1, by omega, Try.underlying25, a, b, c, d⟩
  | _ + 3 => obtain ⟨i, a, b, c, d⟩ := info_parts h16; exact ⟨i, 2, by omega, Try.underlying62, a, b, c, d⟩
def colOf (k : IntKind) (L : Nat → Int) (n : Nat) : List Value := (List.range n).map fun i => .int k (L i)
theorem colOf_succ (k : IntKind) (L : Nat → Int) (n : Nat) : colOf k L (n + 1) = colOf k L n ++ [.int k (L n)] := by simp [colOf, List.range_succ]
theorem colOf_congr {k : IntKind} {L M : Nat → Int} {n : Nat} (h : ∀ i, i < n → L i = M i) : colOf k L n = colOf k M n := by
  unfold colOf
  exact List.map_congr_left fun i hi => by rw [h i (List.mem_range.1 hi)]
def updN {α : Type} (f : Nat → α) (j : Nat) (x : α) : Nat → α := fun i => if i = j then x else f i
/-- Four rows of the call's own, in the block gr; no two in one block, none in a block of the list. -/
structure RTab (w : World) (base gr : Nat) (av : List Nat) (V : Nat → Value) (n : Nat → Nat) (L : Nat → Nat → Int) : Prop where
  blk : w.heap[gr]? = some (.cells #[V 0, V 1, V 2, V 3] 64 (0, 0))
  col : ∀ j, j < 4 → w.ownsRow base (cE j) 1 (V j) (n j) (colOf (cK j) (L j) (n j))
  ap : ∀ i j, i < 4 → j < 4 → i ≠ j → ∀ k, (V i).ownBlock = some k → (V j).ownBlock ≠ some k
  ng : ∀ j, j < 4 → ∀ x ∈ av, (V j).ownBlock ≠ some x
  lt : ∀ x ∈ av, x < w.heap.size
  gm : gr ∈ av
  gb : base ≤ gr
theorem RTab.keep {w w' : World} {base gr : Nat} {av : List Nat} {V : Nat → Value} {n : Nat → Nat} {L : Nat → Nat → Int} (h : RTab w base gr av V n L) (hb : Below w.heap.size w w') : RTab w' base gr av V n L :=
  ⟨Below.blk hb h.blk (lt_of_block h.blk), fun j hj => own_blk (h.col j hj) (fun k _ hk => hb.block k hk), h.ap, h.ng, fun x hx => Nat.lt_of_lt_of_le (h.lt x hx) hb.size, h.gm, h.gb⟩
theorem RTab.us {w : World} {base gr : Nat} {av : List Nat} {V : Nat → Value} {n : Nat → Nat} {L : Nat → Nat → Int} (h : RTab w base gr av V n L) (j : Nat) (hj : j < 2) : ∃ a cap, V j = .slice a (n j) cap ∧ US w.heap.size w a (n j) cap (L j) := by
  have hj2 : j = 0 ∨ j = 1 := by omega
  have hk : cK j = .u32 := by rcases hj2 with rfl | rfl <;> rfl
  have hc := h.col j (by omega)
  have hlt := hc.lt
  have hcell := fun g => hc.cells (g := g)
  obtain ⟨h1, h2⟩ := hc
  rcases h2 with ⟨hv, h0⟩ | ⟨g, cap, cur, hv, hg, hh, hn2, hcap, hsz, _⟩
  · rw [h0]
    exact ⟨none, 0, by rw [hv], by omega, by omega, by omega⟩
  · rw [hv] at hcell hlt
    obtain ⟨h3, h4⟩ := hlt g rfl
    refine ⟨_, cap, hv, by omega, by unfold maxLen at hcap; omega, fun h0 => ⟨g, 0, rfl, h4, fun i hi => ?_⟩⟩
    have := hcell g rfl i (.int .u32 (L j i)) (by simp [colOf, hi, hk])
    rw [addr_add] at this
    exact this
/-- one element onto row j: the append's run, and what the store behind it makes -/
theorem RTab.push {w : World} {base gr : Nat} {av : List Nat} {V : Nat → Value} {n : Nat → Nat} {L : Nat → Nat → Int} (h : RTab w base gr av V n L) (j : Nat) (hj : j < 4) (x : Int) (hn : n j ≤ 1000) (hB : base ≤ w.heap.size) :
    ∃ a' c' w', (∀ ty, (Builtin.append_ #[cS j, cS j] ty #[V j, .slice (some ⟨w.heap.size, 0, none⟩) 1 1]).run Try.prog (w.alloc (.cells #[.int (cK j) x] (cE j))) = .ok (.slice a' (n j + 1) c') w') ∧
      w'.heap[gr]? = some (.cells #[V 0, V 1, V 2, V 3] 64 (0, 0)) ∧ Below base w w' ∧
      (∀ k, k ∈ av → w'.heap[k]? = w.heap[k]?) ∧
      ∀ W, W.heap.size = w'.heap.size → (∀ k, k ≠ gr → W.heap[k]? = w'.heap[k]?) → W.heap[gr]? = some (.cells #[updN V j (.slice a' (n j + 1) c') 0, updN V j (.slice a' (n j + 1) c') 1, updN V j (.slice a' (n j + 1) c') 2, updN V j (.slice a' (n j + 1) c') 3] 64 (0, 0)) →
        RTab W base gr av (updN V j (.slice a' (n j + 1) c')) (updN n j (n j + 1)) (updN L j (updN (L j) (n j) x)) := by
  obtain ⟨i, bytes, hb4, hu, hi, hz, hs, hby⟩ := cInfo j
  have hown : (w.alloc (.cells #[.int (cK j) x] (cE j))).ownsRow base (cE j) 1 (V j) (n j) (colOf (cK j) (L j) (n j)) := (h.col j hj).alloc _
  obtain ⟨v', w', hr, h2, h3, h4, h5⟩ := run_append_own_at (P := Try.prog) (w.alloc (.cells #[.int (cK j) x] (cE j))) base (cS j) (cS j) (cE j) i (.int (cK j) 0) 1 bytes hu hi hz hs hby rfl (by decide) (V j) (n j) _ hown ⟨w.heap.size, 0, none⟩ 1 1 [.int (cK j) x] rfl (cell_one_at rfl) (one_cell rfl) (by unfold maxLen; omega) (by have : (n j + 1) * bytes ≤ 1001 * 4 := Nat.mul_le_mul (by omega) hb4; omega) (by simp; omega)
  obtain ⟨a', c', rfl⟩ := own_len h2
  have hold : ∀ k, k < w.heap.size → (V j).ownBlock ≠ some k → w'.heap[k]? = w.heap[k]? := fun k hk hne => (h3.block k (by simp; omega) (fun e => hne e.symm)).trans (Below.heap_alloc _ _ _ hk)
  have hsz : w.heap.size ≤ w'.heap.size := by have := h3.size; simp at this; omega
  have hvb : ∀ k, (V j).ownBlock = some k → base ≤ k ∧ k < w.heap.size := fun k hk => (h.col j hj).lt k hk
  have hnew : ∀ k, (Value.slice a' (n j + 1) c').ownBlock = some k → (V j).ownBlock = some k ∨ k = w.heap.size + 1 := fun k hk => by
    rcases h5 with h5 | h5
    · left; rw [← h5]; exact hk
    · right; rw [h5] at hk; simp at hk; omega
  refine ⟨a', c', w', fun ty => hr, (hold gr (lt_of_block h.blk) (h.ng j hj gr h.gm)).trans h.blk, ⟨h3.os, h3.tape, h3.output, hsz, fun k hk => hold k (by omega) (fun e => by have := (hvb k e).1; omega)⟩, fun k hk => hold k (h.lt k hk) (h.ng j hj k hk), fun W hW1 hW2 hW3 => ?_⟩
  refine ⟨hW3, fun m hm => ?_, fun p q hp hq hpq k hk => ?_, fun m hm y hy => ?_, fun y hy => by have := h.lt y hy; omega, h.gm, h.gb⟩
  · unfold updN
    by_cases hmj : m = j
    · subst hmj
      rw [if_pos rfl, if_pos rfl, if_pos rfl, colOf_succ, colOf_congr (M := L m) (fun i hi => by rw [if_neg (by omega)]), if_pos rfl]
      obtain ⟨o1, o2⟩ := h2
      refine ⟨o1, ?_⟩
      rcases o2 with o2 | ⟨g, cap, cur, hv, hg, hh, r⟩
      · exact .inl o2
      · refine .inr ⟨g, cap, cur, hv, hg, ?_, r⟩
        rw [hW2 g (fun e => ?_)]; exact hh
        subst e
        have hog : (Value.slice a' (n m + 1) c').ownBlock = some g := by rw [hv]; rfl
        rcases hnew g hog with h6 | h6
        · exact h.ng m hm g h.gm h6
        · have := lt_of_block h.blk; omega
    · rw [if_neg hmj, if_neg hmj, if_neg hmj]
      obtain ⟨o1, o2⟩ := h.col m hm
      refine ⟨o1, ?_⟩
      rcases o2 with o2 | ⟨g, cap, cur, hv, hg, hh, r⟩
      · exact .inl o2
      · have hog : (V m).ownBlock = some g := by rw [hv]; rfl
        refine .inr ⟨g, cap, cur, hv, hg, ?_, r⟩
        rw [hW2 g (fun e => h.ng m hm g (by rw [e]; exact h.gm) hog), hold g (lt_of_block hh) (fun e => h.ap j m hj hm (Ne.symm hmj) g e hog)]
        exact hh
  · unfold updN at hk ⊢
    have lo : ∀ m, m < 4 → ∀ k, (V m).ownBlock = some k → k < w.heap.size := fun m hm k hk => ((h.col m hm).lt k hk).2
    by_cases hpj : p = j
    · subst hpj
      rw [if_pos rfl] at hk
      rw [if_neg (Ne.symm hpq)]
      rcases hnew k hk with h6 | h6
      · exact h.ap p q hp hq hpq k h6
      · intro e; have := lo q hq k e; omega
    · rw [if_neg hpj] at hk
      by_cases hqj : q = j
      · subst hqj
        rw [if_pos rfl]
        intro e
        rcases hnew k e with h6 | h6
        · exact h.ap p q hp hq hpq k hk h6
        · have := lo p hp k hk; omega
      · rw [if_neg hqj]; exact h.ap p q hp hq hpq k hk
  · unfold updN
    by_cases hmj : m = j
    · subst hmj
      rw [if_pos rfl]
      intro e
      rcases hnew y e with h6 | h6
      · exact h.ng m hm y hy h6
      · have := h.lt y hy; omega
    · rw [if_neg hmj]; exact h.ng m hm y hy
end Go.Proofs.Ytihbceippcgfgaa
