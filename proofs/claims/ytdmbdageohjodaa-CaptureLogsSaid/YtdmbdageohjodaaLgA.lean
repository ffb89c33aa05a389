/-
  Chapter 45: a log; slices.Clone of slices of bytes.
-/
import Derived.Test.YtdmbdageohjodaaCpO
import Derived.Test.YtdmbdageohjodaaCpT
import Derived.Test.YtdmbdageohjodaaConcU
import Derived.Test.YtdmbdageohjodaaPickT
namespace Go.Proofs.Ytdmbdageohjodaa
open Go.RowKit
set_option linter.unusedVariables false
set_option linter.unusedSimpArgs false
attribute [local irreducible] wpStill wpQuiet MixC.wpMix MixC.wpPick MixC.wpPickT
attribute [local go_sem] MixC.rdOp MixC.rd MixC.rdUpon MixC.mvUpon

theorem infoSl : (Try.prog.info? 56).map (fun i => (i.zero, i.size, i.bytes)) = some (some (.slice none 0 0), 1, 24) := by kernel_rfl
theorem elSl : ElemT Try.prog 98 56 1 24 := ElemT.mk' Try.underlying98 infoSl rfl (by decide)
theorem eql_nilS (ad : Addr) (n c : Nat) (W : World) : (binOp BinOp.eql 98 (.slice (some ad) n c) (.slice none 0 0)).run Try.prog W = .ok (.bool false) W := by kernel_rfl
theorem eql_nilS0 (W : World) : (binOp BinOp.eql 98 (.slice none 0 0) (.slice none 0 0)).run Try.prog W = .ok (.bool true) W := by kernel_rfl
def ClPost (n : Nat) (news : List Value) (w : World) (e : Ending) (w' : World) : Prop := ∃ a' c', e = .returned (.slice a' n c') ∧ w'.ownsRow w.heap.size 56 1 (.slice a' n c') n news ∧ Below w.heap.size w w'
set_option maxRecDepth 100000 in
set_option maxHeartbeats 4000000 in
theorem cloneS_some (ad : Addr) (n c : Nat) (news : List Value) (w : World) (hl : news.length = n) (hc : ∀ (j : Nat) u, news[j]? = some u → w.cell? (ad.add j) = some u) (h1 : ∀ u ∈ news, u.oneCell' = true) (hn : n ≤ 10000) :
    Calls Try.prog 76 #[.slice (some ad) n c] w (ClPost n news w) := by
  obtain ⟨i0, hi, hz0, hz1, hz2⟩ := info_parts infoSl
  obtain ⟨WA, hWA⟩ : ∃ WA, w.alloc (.cells #[] 56) = WA := ⟨_, rfl⟩
  have hrow : WA.ownsRow w.heap.size 56 1 (.slice (some ⟨w.heap.size, 0, none⟩) 0 0) 0 [] := by
    rw [← hWA]
    exact ⟨rfl, .inr ⟨w.heap.size, 0, #[], rfl, Nat.le_refl _, alloc_blk_new, Nat.le_refl _, by unfold maxLen; omega, rfl, rfl⟩⟩
  have BWA : Below w.heap.size w WA := by rw [← hWA]; exact (Below.refl _ _).alloc (Nat.le_refl _) _
  obtain ⟨x, y, W1, r, own, but, nb⟩ := run_app (P := Try.prog) (w := WA) (t := 98) Try.underlying98 hi hz0 hz1 hz2 rfl (by decide) hrow (some ad) n c news (fun e => by cases e) (by omega) (fun a' e j u hj => by
    cases e
    rw [BWA.cell (World.block_lt_of_cell? _ _ (hc j u hj))]
    exact hc j u hj) h1 (by unfold maxLen; omega) (by omega) BWA.size
  have R := Lib.hid r
  have O := Lib.hid own
  have B1 := Lib.hid (BWA.trans (but.below BWA.size (fun k hk => by cases hk; exact Nat.le_refl _)))
  have hE := eql_nilS
  clear r own but nb hrow BWA hl hc h1
  go_enter Try.func76, Try.ntmps76
  go_wp2_with (at_builtin; refine wpList_of_append rfl (.tmp 5) (.tmp 6) 98 rfl _ _ _ rfl rfl R.out ?_)
  go_ret
  exact ⟨x, y, rfl, by have := O.out; rw [Nat.zero_add, List.nil_append] at this; exact this, B1.out⟩
set_option maxHeartbeats 1000000 in
theorem cloneS_nil (w : World) :
    Calls Try.prog 76 #[.slice none 0 0] w (ClPost 0 [] w) := by
  have hE := eql_nilS0
  go_enter Try.func76, Try.ntmps76
  go_wp2_with fail
  go_ret
  exact ⟨none, 0, rfl, World.ownsRow_nil _ _ _ _, Below.refl _ _⟩

/-! ### A log -/
def slVs (L : List Sl) : List Value := L.map Sl.v
theorem slVs_one (L : List Sl) : ∀ u ∈ slVs L, u.oneCell' = true := by
  intro u hu
  simp only [slVs, List.mem_map] at hu
  obtain ⟨x, _, rfl⟩ := hu
  rfl
theorem slVs_len (L : List Sl) : (slVs L).length = L.length := List.length_map ..
/-- how many bytes -/
def tot : List Sl → Nat
  | [] => 0
  | s :: l => s.n + tot l
theorem tot_app (L M : List Sl) : tot (L ++ M) = tot L + tot M := by
  induction L with
  | nil => simp [tot]
  | cons s l ih => show s.n + tot (l ++ M) = s.n + tot l + tot M; rw [ih]; omega
theorem tot_drop (L : List Sl) (k : Nat) (h : k < L.length) : tot (L.drop k) = (L[k]'h).n + tot (L.drop (k + 1)) := by
  rw [List.drop_eq_getElem_cons h]; rfl
theorem tot_drop_le (L : List Sl) (k : Nat) : tot (L.drop k) ≤ tot L := by
  have := tot_app (L.take k) (L.drop k)
  rw [List.take_append_drop] at this
  omega
structure LogS (g : Nat) (mx : Int) (L : List Sl) (a : Option Addr) (c : Nat) (w : World) : Prop where
  blk : w.heap[g]? = some (logO mx (.slice a L.length c) (6 + (tot L : Nat)))
  row : w.ownsRow 0 56 1 (.slice a L.length c) L.length (slVs L)
  bs : ∀ s ∈ L, BS w.heap.size w s.a s.n s.c s.Z
theorem LogS.keep {g : Nat} {mx : Int} {L : List Sl} {a : Option Addr} {c : Nat} {w w' : World} (h : LogS g mx L a c w) (hb : Below w.heap.size w w') : LogS g mx L a c w' :=
  ⟨Below.blk hb h.blk (lt_of_block h.blk), own_below h.row hb, fun s hs => ((h.bs s hs).keep hb).mono hb.size⟩
/-- bytes, where another block turns -/
theorem BS.other {B g : Nat} {w w' : World} {a : Option Addr} {n c : Nat} {Z : Nat → Int} {o : Obj} (h : BS B w a n c Z) (ho : w.heap[g]? = some o) (hno : ∀ (i : Nat) (z : Int), w.cell? ⟨g, i, none⟩ ≠ some (.int .u8 z)) (hb : ∀ k, k < B → k ≠ g → w'.heap[k]? = w.heap[k]?) : BS B w' a n c Z := by
  obtain ⟨h1, h2, h3, b, off, h4, h5⟩ := h
  refine ⟨h1, h2, h3, b, off, h4, fun i hi => ?_⟩
  rw [← h5 i hi]
  have hbg : b ≠ g := fun e => by
    subst e
    exact hno _ _ (h5 i hi)
  have := (h4 (by omega)).2
  exact World.cell?_of_block (w := w) (hb b this hbg)
theorem logO_no {g : Nat} {mx sz : Int} {v : Value} {w : World} (h : w.heap[g]? = some (logO mx v sz)) (hv : v.oneCell' = true) (hv2 : ∀ z, v ≠ .int .u8 z) : ∀ (i : Nat) (z : Int), w.cell? ⟨g, i, none⟩ ≠ some (.int .u8 z) := fun i z e => by
  rw [cell_blk h] at e
  match i with
  | 0 => simp at e
  | 1 => simp at e; exact hv2 z e
  | 2 => simp at e
  | i + 3 => simp at e
end Go.Proofs.Ytdmbdageohjodaa
