/-
  Chapter 20: Came.
-/
import Derived.Test.YtdmbdageohjodaaLsC
namespace Go.Proofs.Ytdmbdageohjodaa
open Go.RowKit
set_option linter.unusedVariables false
set_option linter.unusedSimpArgs false
attribute [local irreducible] wpStill wpQuiet MixC.wpMix MixC.wpPick MixC.wpPickT
attribute [local go_sem] MixC.rdOp MixC.rd MixC.rdUpon MixC.mvUpon

def ofM (M : List (Nat × Mis)) : List Mis := M.map (·.2)
/-- whether it turns nothing -/
def farI (high i : Int) : Bool := decide (i < 0) || (decide (0 ≤ high) && decide (1099511627776 < i - high))
def newsL (x tick : Int) (k : Nat) : List Mis := (List.range k).map fun (t : Nat) => ⟨x + (t : Int), 0, tick⟩
def last32 (l : List Mis) : List Mis := l.drop (l.length - 32)
def cameH (high i : Int) : Int := if farI high i = true then high else if high < i then i else high
def cameM (high i tick : Int) (l : List Mis) : List Mis :=
  if farI high i = true then l else if high < 0 then l else if high < i then last32 (l ++ newsL (max (high + 1) (i - 32)) tick (i - max (high + 1) (i - 32)).toNat) else l.filter fun m => !decide (m.i = i)
def CamePost (B g : Nat) (pause high i tick : Int) (M : List (Nat × Mis)) (w : World) (e : Ending) (w' : World) : Prop :=
  e = .returned (.tuple #[]) ∧ (∃ M' a' c', KS B g pause (cameH high i) M' a' c' w' ∧ ofM M' = cameM high i tick (ofM M)) ∧ Below B w w' ∧ Ty kTs w w'
theorem newsL_succ (x tick : Int) (k : Nat) : newsL x tick (k + 1) = newsL x tick k ++ [⟨x + k, 0, tick⟩] := by simp [newsL, List.range_succ]
theorem camed_far {high i tick : Int} {l : List Mis} (h : farI high i = true) : cameH high i = high ∧ cameM high i tick l = l := ⟨by unfold cameH; rw [if_pos h], by unfold cameM; rw [if_pos h]⟩
set_option maxHeartbeats 1000000 in
theorem came_nil (i tick : Int) (w : World) : Calls Try.prog 21 #[.pointer none, .int .i64 i, .int .i64 tick] w fun e w' => e = .returned (.tuple #[]) ∧ Below w.heap.size w w' := by
  have hne : Nonempty { w' : World // Below (w.alloc (.cells #[.int .i64 i] 2)).heap.size (w.alloc (.cells #[.int .i64 i] 2)) w' } := ⟨⟨_, Below.refl _ _⟩⟩
  go_enter Try.func21, Try.ntmps21
  go_wp2_with fail
  refine MixC.wp_region_mix [] (Below (w.alloc (.cells #[.int .i64 i] 2)).heap.size (w.alloc (.cells #[.int .i64 i] 2))) (Below.refl _ _).drew (by kernel_rfl) (by kernel_rfl) (by kernel_rfl) ?_
  (iterate 23 (refine MixC.mix_read rfl (fun K hK => ?_); go_simp; refine hK _ ?_; clear hK K))
  refine MixC.mix_nil ?_
  clear hne
  go_wp2_with fail
  go_returns
  exact ⟨rfl, ((Below.refl _ w).alloc (Nat.le_refl _) _).drew⟩
set_option maxRecDepth 100000 in
set_option maxHeartbeats 4000000 in
theorem came_far (B g : Nat) (pause high i tick : Int) (M : List (Nat × Mis)) (a : Option Addr) (c : Nat) (w : World) (h : KS B g pause high M a c w) (hB : B ≤ w.heap.size) (hf : farI high i = true) (hh : high ≤ 4611686018427387904) (hi : i ≤ 4611686018427387904) (hh0 : -1 ≤ high) :
    Calls Try.prog 21 #[.pointer (some ⟨g, 0, none⟩), .int .i64 i, .int .i64 tick] w (CamePost B g pause high i tick M w) := by
  obtain ⟨e1, e2⟩ := camed_far (tick := tick) (l := ofM M) hf
  unfold CamePost
  rw [e1, e2]
  have H := Lib.hid h
  obtain ⟨V, hV⟩ : ∃ V, w.alloc (.cells #[.int .i64 i] 2) = V := ⟨_, rfl⟩
  have bv : Below w.heap.size w V := by rw [← hV]; exact (Below.refl _ _).alloc (Nat.le_refl _) _
  have x0 : V.heap[w.heap.size]? = some (.cells #[.int .i64 i] 2 (0, 0)) := by rw [← hV]; exact alloc_blk_new
  have HV := Lib.hid (H.out.keep bv)
  obtain ⟨q, hq⟩ : ∃ q, w.heap.size = q := ⟨_, rfl⟩
  rw [hq] at x0
  have hne : Nonempty { w' : World // Below V.heap.size V w' } := ⟨⟨_, Below.refl _ _⟩⟩
  have o1 : ∀ z : { w' : World // Below V.heap.size V w' }, z.1.cell? ⟨g, 1, none⟩ = some (.int .i64 high) := fun z => cell_blk (Below.blk z.2 HV.out.blk HV.out.lt)
  have o2 : ∀ z : { w' : World // Below V.heap.size V w' }, z.1.cell? ⟨q, 0, none⟩ = some (.int .i64 i) := fun z => cell_blk (Below.blk z.2 x0 (lt_of_block x0))
  have BV := Lib.hid bv
  have fin : Hid (∀ z, Below V.heap.size V z → (∃ M' a' c', KS B g pause high M' a' c' z ∧ ofM M' = ofM M) ∧ Below B w z ∧ Ty kTs w z) := Lib.hid (fun z hz => ⟨⟨M, a, c, HV.out.keep hz, rfl⟩, (BV.out.mono hB).trans (hz.mono (Nat.le_trans hB BV.out.size)), (Ty.below BV.out).trans (Ty.below hz)⟩)
  clear h bv x0 e1 e2
  unfold farI at hf
  by_cases h0 : i < 0
  · have d0 : decide (i < 0) = true := by simpa using h0
    clear hf
    go_enter Try.func21, Try.ntmps21
    go_wp2_with fail
    refine MixC.wp_region_mix [] (Below V.heap.size V) (Below.refl _ _).drew (by kernel_rfl) (by kernel_rfl) (by kernel_rfl) ?_
    (iterate 23 (refine MixC.mix_read rfl (fun K hK => ?_); go_simp; refine hK _ ?_; clear hK K))
    refine MixC.mix_nil ?_
    clear o1 o2 hne
    go_wp2_with fail
    go_returns
    exact ⟨rfl, fin.out _ (Below.refl _ V).drew⟩
  · have d0 : decide (i < 0) = false := by simpa using h0
    have h1 : 0 ≤ high ∧ 1099511627776 < i - high := by simpa [d0] using hf
    have d1 : decide (0 ≤ high) = true := by simpa using h1.1
    have d2 : decide (1099511627776 < i - high) = true := by simpa using h1.2
    have w1 : IntKind.i64.wrap (i - high) = i - high := IntWalk.i64_in _ (by omega)
    clear hf
    go_enter Try.func21, Try.ntmps21
    go_wp2_with fail
    refine MixC.wp_region_mix [] (Below V.heap.size V) (Below.refl _ _).drew (by kernel_rfl) (by kernel_rfl) (by kernel_rfl) ?_
    (iterate 23 (refine MixC.mix_read rfl (fun K hK => ?_); go_simp; refine hK _ ?_; clear hK K))
    refine MixC.mix_nil ?_
    clear o1 o2 hne
    go_wp2_with fail
    go_returns
    exact ⟨rfl, fin.out _ (Below.refl _ V).drew⟩
end Go.Proofs.Ytdmbdageohjodaa
