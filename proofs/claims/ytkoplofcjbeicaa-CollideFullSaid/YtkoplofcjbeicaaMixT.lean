/-
  The rule for regions of readers and movers (XMixC), with a forced tail behind the first n operations: the tail is walked as everywhere.
-/
import Derived.Test.YtkoplofcjbeicaaMixC
import Derived.StillTail
namespace Go.Proofs.Ytkoplofcjbeicaa.MixC
open Go.RowKit
set_option linter.unusedVariables false
set_option linter.unusedSimpArgs false

section
variable {P : Program} {ops : Array Oper} {md : Region.Mode} {C : World → Prop} {mv : Nat → Bool}
def anyT (P : Program) (md : Region.Mode) (ops : Array Oper) (C : World → Prop) (mv : Nat → Bool) (n : Nat) (L : Array Bool → Act → World → Prop) : Nat → Array Bool → Act → World → Prop
  | 0, listed, a, w => L listed a w
  | f + 1, listed, a, w => Region.ready md ops listed ≠ [] ∧ ∀ i ∈ Region.ready md ops listed, i < n ∧ mOp P ops C mv i (anyT P md ops C mv n L f (listed.setIfInBounds i true)) a w
theorem wpAny_of_headT {n g : Nat} {L : Array Bool → Act → World → Prop} {Q' : Exit → Act → World → Prop} (hL : ∀ listed a w, C w → L listed a w → wpAny P md ops Q' g listed a w) :
    ∀ (f : Nat) (listed : Array Bool) (a : Act) (w : World), C w → anyT P md ops C mv n L f listed a w → wpAny P md ops Q' (f + g) listed a w
  | 0, listed, a, w, hw, h => by rw [Nat.zero_add]; exact hL _ _ _ hw h
  | f + 1, listed, a, w, hw, h => by
    rw [show f + 1 + g = (f + g) + 1 by omega]
    exact ⟨fun h0 => absurd h0 h.1, fun i hi => wpOp_of_mOp hw (fun a' w' hw' h' => wpAny_of_headT hL f _ a' w' hw' h') (h.2 i hi).2⟩
theorem anyT_first {n i : Nat} {oi : Oper} {L : Array Bool → Act → World → Prop} (hi : ops[i]? = some oi) (hsel : ∀ (j : Nat) (o : Oper) cs b, ops[j]? = some o → o.op ≠ .select cs b) {ms : List Nat} (hms : ∀ i, mv i = true → i ∈ ms) (hmv : chainB md ops ms = true)
    (hs : Region.sinkB md ops n = true) (hc : Region.chainB md ops n = true) (hn : n < ops.size) (hin : i < n) (hdone : ∀ listed a w, L listed a w → ∀ j ∈ Region.ready md ops listed, n ≤ j) :
    ∀ (f : Nat) (listed : Array Bool) (a : Act) (w : World), HeadInv md ops n listed → C w →
      (∀ j oj, ops[j]? = some oj → j ≠ i → listed.getD j true = false → (∀ e ∈ oj.after, Region.binds md e = true → e.on ≠ i) → oi.apart ops oj = true) →
      i ∈ Region.ready md ops listed → mOp P ops C mv i (anyT P md ops C mv n L f (listed.setIfInBounds i true)) a w → anyT P md ops C mv n L (f + 1) listed a w := by
  intro f
  induction f with
  | zero =>
    intro listed a w inv hw _ hr H
    have hun := (mem_ready.1 hr).1
    refine ⟨fun h => (by rw [h] at hr; cases hr), fun j hj => ?_⟩
    have hjn : j < n := by
      rcases Nat.lt_or_ge j n with h | h
      · exact h
      · exact absurd hj (tail_waits hs hc hn inv _ i rfl hin hun j h)
    refine ⟨hjn, ?_⟩
    by_cases hji : j = i
    · subst hji; exact H
    · obtain ⟨a', w', h1⟩ := mOp_some hi H
      have := hdone _ _ _ h1 j (ready_mono hj hji)
      omega
  | succ f ih =>
    intro listed a w inv hw hfree hr H
    have hun := (mem_ready.1 hr).1
    refine ⟨fun h => (by rw [h] at hr; cases hr), fun j hj => ?_⟩
    have hjn : j < n := by
      rcases Nat.lt_or_ge j n with h | h
      · exact h
      · exact absurd hj (tail_waits hs hc hn inv _ i rfl hin hun j h)
    refine ⟨hjn, ?_⟩
    by_cases hji : j = i
    · subst hji; exact H
    · obtain ⟨hjun, oj, hoj, hall⟩ := mem_ready.1 hj
      obtain ⟨hiun, oi', hoi, halli⟩ := mem_ready.1 hr
      rw [hi] at hoi; cases hoi
      have hcl : Closed md ops listed := inv.closed
      have hnot : ∀ e ∈ oj.after, Region.binds md e = true → e.on ≠ i := fun e he hb heq => by
        have h1 := hall e he hb
        rw [heq, getD_both hun] at h1
        cases h1
      have hmm : (mv i && mv j) = false := by
        by_cases mi : mv i = true
        · by_cases mj : mv j = true
          · exfalso
            rcases Nat.lt_or_gt_of_ne hji with hlt | hlt
            · have := chain_listed hcl hmv j (hms j mj) i (hms i mi) hlt oi hi halli
              rw [getD_both hjun] at this; cases this
            · have := chain_listed hcl hmv i (hms i mi) j (hms j mj) hlt oj hoj hall
              rw [getD_both hiun] at this; cases this
          · simp [mj]
        · simp [mi]
      have H1 : mOp P ops C mv i (mOp P ops C mv j (anyT P md ops C mv n L f ((listed.setIfInBounds i true).setIfInBounds j true))) a w := mOp_mono hi hw (fun v w' _ h => (h.2 j (ready_mono hj hji)).2) H
      have H2 := mOp_swap hi hoj (hfree j oj hoj hji hjun hnot) (fun cs b => hsel i oi cs b hi) (fun cs b => hsel j oj cs b hoj) hmm hw H1
      refine mOp_mono hoj hw (fun u w' hw' h => ?_) H2
      refine ih (listed.setIfInBounds j true) _ w' (inv.set hj hjn) hw' (fun k ok hk hki hun hno => ?_) (ready_mono hr (Ne.symm hji)) ?_
      · refine hfree k ok hk hki ?_ hno
        by_cases hjk : j = k
        · subst hjk; exact hjun
        · rw [getD_set_ne true hjk] at hun; exact hun
      · rw [Array.setIfInBounds_comm _ _ hji]; exact h
theorem anyT_lex {n g : Nat} {Lq : Act → World → Prop} {ms : List Nat} (hms : ∀ i, mv i = true → i ∈ ms) (hsel : Region.noSelect ops = true) (hmv : chainB md ops ms = true) (hs : Region.sinkB md ops n = true) (hc : Region.chainB md ops n = true) (hn : n < ops.size) :
    ∀ (l : List Oper) (k : Nat) (listed : Array Bool) (a : Act) (w : World), C w → (∀ j, j < l.length → l[j]? = ops[k + j]?) → k + l.length = n → HeadInv md ops n listed →
    Region.lexHead md ops g l.length k listed = true → wpMix P ops C mv Lq k l a w →
    anyT P md ops C mv n (fun listed' a' w' => Region.seqB md ops g n listed' = true ∧ Lq a' w') l.length listed a w
  | [], k, listed, a, w, _, _, hk, _, hB, h => by
    have : k = n := by simpa using hk
    subst this
    exact ⟨by simpa [Region.lexHead] using hB, h⟩
  | o :: l, k, listed, a, w, hw, hl, hk, inv, hB, h => by
    have h0 : ops[k]? = some o := by simpa using (hl 0 (by simp)).symm
    simp only [List.length_cons, Region.lexHead, Bool.and_eq_true] at hB
    obtain ⟨⟨hr, hf⟩, hB'⟩ := hB
    have hkn : k < n := by simp only [List.length_cons] at hk; omega
    have hr' : k ∈ Region.ready md ops listed := by simpa using hr
    have hst : mOp P ops C mv k (wpMix P ops C mv Lq (k + 1) l) a w := by unfold mOp; simp only [h0]; exact h
    refine anyT_first h0 (Region.noSelect_spec hsel) hms hmv hs hc hn hkn (fun listed' a' w' hL => seqB_ready hL.1) l.length listed a w inv hw (Region.free_spec h0 hf) hr' (mOp_mono h0 hw (fun v w' hw' h' => ?_) hst)
    exact anyT_lex hms hsel hmv hs hc hn l (k + 1) _ _ w' hw' (fun j hj => by have := hl (j + 1) (by simp; omega); simpa [Nat.add_assoc, Nat.add_comm 1 j] using this) (by simp only [List.length_cons] at hk; omega) (inv.set hr' hkn) hB' h'

/-- **A region of readers and movers with a forced tail.** -/
theorem wp_region_mix_tail (n : Nat) (ms : List Nat) {id : Nat} {Q : Exit → Act → World → Prop} {a : Act} {w : World} {l : List Oper} (C : World → Prop) (h0 : C w.drew) (hm : P.follows .mixedOrders = true) (hB : Region.lexTailB .any l.toArray n = true) (hmv : chainB .any l.toArray ms = true)
    (h : wpMix P l.toArray C (fun i => ms.contains i) (fun a' w' => wpList P l.toArray Q (l.drop n) a' w') 0 (l.take n) a w.drew) : (Code.region id l.toArray true).wp P Q a w := by
  simp only [Region.lexTailB, Bool.and_eq_true, decide_eq_true_eq] at hB
  obtain ⟨⟨⟨⟨hsel, hn⟩, hs⟩, hc⟩, hlex⟩ := hB
  have hn' : n < l.length := by simpa using hn
  have htl : (l.take n).length = n := by simp; omega
  have hdl : (l.drop n).length = l.toArray.size - n := by simp
  have inv0 : HeadInv .any l.toArray n (Array.replicate l.toArray.size false) :=
    ⟨by simp, fun j oj _ hl => (by rw [getD_replicate_false] at hl; cases hl), fun t _ ht => getD_in (by simpa using ht) (getD_replicate_false _ _)⟩
  have H := anyT_lex (md := .any) (g := l.toArray.size - n) (mv := fun i => ms.contains i) (ms := ms) (fun i hi => by simpa using hi) hsel hmv hs hc hn (l.take n) 0 _ a w.drew h0 (fun j hj => by
    have hj' : j < n := by rw [htl] at hj; exact hj
    simp [hj']) (by simpa using htl) inv0 (by rw [htl]; exact hlex) h
  refine wp_region_any hm ?_
  have := wpAny_of_headT (Q' := Q) (g := l.toArray.size - n) (fun listed a' w' hw' hL => by
    have := wpAny_of_seq (md := .any) (Q' := Q) (l.drop n) n listed a' w' (fun j => by simp [List.getElem?_drop]) (by rw [hdl]; exact hL.1) hL.2
    rwa [hdl] at this) _ _ _ _ h0 H
  rw [htl, show n + (l.toArray.size - n) = l.toArray.size by omega] at this
  exact this
end
end Go.Proofs.Ytkoplofcjbeicaa.MixC
