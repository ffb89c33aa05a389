/-
  Regions of readers and movers (XMixC, XMixT) under the wide fence: in a round's frame, and in an iterator's.
-/
import Derived.Test.YtkoplofcjbeicaaMixT
import Derived.OrdersIn
import Derived.TacticsIn
import Derived.RangeFuncCalls
namespace Go.Proofs.Ytkoplofcjbeicaa.MixC
open Go.RowKit
set_option linter.unusedVariables false
set_option linter.unusedSimpArgs false

/-- a fence that lets all in -/
structure WideF (F : Fence) : Prop where
  fn : ∀ f, F.fn f
  depth : F.depth = none
  calls : ∀ {n : Nat} {P : Program} {f : FuncId} {args : Array Value} {w : World} {R : Ending → World → Prop}, Calls P f args w R → CallsIn F n P f args w R
theorem WideF.wide : WideF Fence.wide := ⟨fun _ => trivial, rfl, fun h => callsIn_wide.2 h⟩
theorem WideF.round (l : Nat) : WideF (Fence.wide.inRound l) := ⟨fun _ => trivial, rfl, fun h => CallsIn.inRound l (callsIn_wide.2 h)⟩

def noDefer (ops : Array Oper) : Bool := ops.all fun o => match o.op with | .defer _ => false | _ => true
theorem noDefer_spec {ops : Array Oper} (h : noDefer ops = true) (j : Nat) (o : Oper) (c : Call) (ho : ops[j]? = some o) : o.op ≠ .defer c := by
  intro heq
  have := Array.all_eq_true_iff_forall_mem.1 h o (Array.mem_of_getElem? ho)
  simp [heq] at this

section
variable {F : Fence} {n : Nat} {P : Program} {ops : Array Oper} {md : Region.Mode} {C : World → Prop} {mv : Nat → Bool}

theorem wpOpIn_of_mOp (hF : WideF F) (hnd : noDefer ops = true) {i : Nat} {a : Act} {K K' : Act → World → Prop} {Q' : Exit → Act → World → Prop} {w : World} (hw : C w) (h : ∀ a w', C w' → K a w' → K' a w') (hh : mOp P ops C mv i K a w) : wpOpIn F n P ops Q' i K' a w := by
  unfold mOp at hh
  unfold wpOpIn
  split
  · rename_i ho; simp only [ho] at hh; exact h _ _ hw hh
  · rename_i o ho
    simp only [ho] at hh
    split
    · rename_i hwa
      simp only [hwa, if_true] at hh
      unfold Oper.wpIn
      refine ⟨fun f _ => hF.fn f, ?_⟩
      rw [Oper.semAt_eq _ _ _ (fun c => noDefer_spec hnd i o c ho)]
      split at hh
      · generalize (execOp a.eval o).run P w = r at *
        cases r with
        | ok n' w' =>
          cases n' <;> simp only [mvUpon] at hh <;> simp only [Oper.uponIn]
          case enter f args => exact ⟨fun hd => (by rw [hF.depth] at hd; cases hd), hF.calls (hh.mono fun e w'' ⟨v, he, hb, hk⟩ => by subst he; exact h _ _ hb hk)⟩
          all_goals exact h _ _ hh.1 hh.2
        | halt x w' => simp only [mvUpon] at hh
      · obtain ⟨v, hv, hk⟩ := hh
        have hv := hv ⟨w, hw⟩
        simp only at hv
        generalize (execOp a.eval o).run P w = r at *
        cases r with
        | ok n' w' =>
          cases n' <;> simp only [rdUpon] at hv <;> simp only [Oper.uponIn]
          case value u => obtain ⟨e1, e2⟩ := hv; rw [e1, e2]; exact h _ _ hw hk
          case skip => obtain ⟨e1, e2⟩ := hv; rw [e1, ← e2]; exact h _ _ hw hk
          case enter f args => obtain ⟨e1, _, e3⟩ := hv; rw [e1]; exact ⟨fun hd => (by rw [hF.depth] at hd; cases hd), hF.calls (e3.mono fun e w'' ⟨he, hw'⟩ => by subst he; subst hw'; exact h _ _ hw hk)⟩
        | halt x w' => simp only [rdUpon] at hv
    · rename_i hwa; simp only [hwa] at hh; exact ⟨fun f _ => hF.fn f, h _ _ hw hh⟩
theorem wpAnyIn_of_mix (hF : WideF F) (hnd : noDefer ops = true) {Q : Act → World → Prop} {Q' : Exit → Act → World → Prop} (hQ : ∀ a w, C w → Q a w → Q' .normal a w) : ∀ (fuel : Nat) (listed : Array Bool) (a : Act) (w : World), C w → anyM P md ops C mv Q fuel listed a w → wpAnyIn F n P md ops Q' fuel listed a w
  | 0, _, _, _, hw, h => ⟨h.1, hQ _ _ hw h.2⟩
  | fuel + 1, _, _, _, hw, h => ⟨fun h0 => hQ _ _ hw (h.1 h0), fun i hi => wpOpIn_of_mOp hF hnd hw (fun a' w' hw' => wpAnyIn_of_mix hF hnd hQ fuel _ a' w' hw') (h.2 i hi)⟩

/-- **A region of readers and movers**, in whatever frame. -/
theorem wpIn_region_mix (hF : WideF F) (ms : List Nat) {id : Nat} {Q : Exit → Act → World → Prop} {a : Act} {w : World} {l : List Oper} (C : World → Prop) (h0 : C w.drew) (hm : P.follows .mixedOrders = true) (hnd : noDefer l.toArray = true) (hB : Region.lexB .any l.toArray = true) (hmv : chainB .any l.toArray ms = true)
    (h : wpMix P l.toArray C (fun i => ms.contains i) (fun a' w' => Q .normal a' w') 0 l a w.drew) : (Code.region id l.toArray true).wpIn F n P Q a w := by
  simp only [Region.lexB, Bool.and_eq_true] at hB
  refine wpIn_region_any hm (wpAnyIn_of_mix hF hnd (C := C) (mv := fun i => ms.contains i) (Q := fun a' w' => Q .normal a' w') (fun _ _ _ h => h) _ _ _ _ h0 ?_)
  have := anyM_lex (md := .any) (ms := ms) (fun i hi => by simpa using hi) hB.1 hmv l 0 (Array.replicate l.toArray.size false) a w.drew (fun m om _ hl => by exfalso; simp [Array.getElem?_replicate] at hl; split at hl <;> simp at hl) h0 (by simp) (by simpa using hB.2) h
  simpa using this

theorem wpAnyIn_of_headT (hF : WideF F) (hnd : noDefer ops = true) {m g : Nat} {L : Array Bool → Act → World → Prop} {Q' : Exit → Act → World → Prop} (hL : ∀ listed a w, C w → L listed a w → wpAnyIn F n P md ops Q' g listed a w) :
    ∀ (f : Nat) (listed : Array Bool) (a : Act) (w : World), C w → anyT P md ops C mv m L f listed a w → wpAnyIn F n P md ops Q' (f + g) listed a w
  | 0, listed, a, w, hw, h => by rw [Nat.zero_add]; exact hL _ _ _ hw h
  | f + 1, listed, a, w, hw, h => by
    rw [show f + 1 + g = (f + g) + 1 by omega]
    exact ⟨fun h0 => absurd h0 h.1, fun i hi => wpOpIn_of_mOp hF hnd hw (fun a' w' hw' h' => wpAnyIn_of_headT hF hnd hL f _ a' w' hw' h') (h.2 i hi).2⟩
theorem wpAnyIn_of_seq {Q' : Exit → Act → World → Prop} : ∀ (l : List Oper) (k : Nat) (listed : Array Bool) (a : Act) (w : World), (∀ j, l[j]? = ops[k + j]?) →
    Region.seqB md ops l.length k listed = true → wpListIn F n P ops Q' l a w → wpAnyIn F n P md ops Q' l.length listed a w
  | [], _, _, _, _, _, hB, h => ⟨by simpa [Region.seqB] using hB, h⟩
  | o :: l, k, listed, a, w, hl, hB, h => by
    have h0 : ops[k]? = some o := by simpa using (hl 0).symm
    simp only [List.length_cons, Region.seqB, Bool.and_eq_true, decide_eq_true_eq] at hB
    refine ⟨fun h1 => (by rw [hB.1] at h1; cases h1), fun i hi => ?_⟩
    rw [hB.1] at hi
    have hik : i = k := by simpa using hi
    subst hik
    have hw : wpOpIn F n P ops Q' i (wpListIn F n P ops Q' l) a w := by unfold wpOpIn; simp only [h0]; exact h
    exact wpOpIn_mono (fun a' w' h' => wpAnyIn_of_seq l (i + 1) _ a' w' (fun j => by have := hl (j + 1); simpa [Nat.add_assoc, Nat.add_comm 1 j] using this) hB.2 h') hw

/-- **A region of readers and movers with a forced tail**, in whatever frame. -/
theorem wpIn_region_mix_tail (hF : WideF F) (m : Nat) (ms : List Nat) {id : Nat} {Q : Exit → Act → World → Prop} {a : Act} {w : World} {l : List Oper} (C : World → Prop) (h0 : C w.drew) (hm : P.follows .mixedOrders = true) (hnd : noDefer l.toArray = true) (hB : Region.lexTailB .any l.toArray m = true) (hmv : chainB .any l.toArray ms = true)
    (h : wpMix P l.toArray C (fun i => ms.contains i) (fun a' w' => wpListIn F n P l.toArray Q (l.drop m) a' w') 0 (l.take m) a w.drew) : (Code.region id l.toArray true).wpIn F n P Q a w := by
  simp only [Region.lexTailB, Bool.and_eq_true, decide_eq_true_eq] at hB
  obtain ⟨⟨⟨⟨hsel, hn⟩, hs⟩, hc⟩, hlex⟩ := hB
  have hn' : m < l.length := by simpa using hn
  have htl : (l.take m).length = m := by simp; omega
  have hdl : (l.drop m).length = l.toArray.size - m := by simp
  have inv0 : HeadInv .any l.toArray m (Array.replicate l.toArray.size false) :=
    ⟨by simp, fun j oj _ hl => (by rw [getD_replicate_false] at hl; cases hl), fun t _ ht => getD_in (by simpa using ht) (getD_replicate_false _ _)⟩
  have H := anyT_lex (md := .any) (g := l.toArray.size - m) (mv := fun i => ms.contains i) (ms := ms) (fun i hi => by simpa using hi) hsel hmv hs hc hn (l.take m) 0 _ a w.drew h0 (fun j hj => by
    have hj' : j < m := by rw [htl] at hj; exact hj
    simp [hj']) (by simpa using htl) inv0 (by rw [htl]; exact hlex) h
  refine wpIn_region_any hm ?_
  have := wpAnyIn_of_headT hF hnd (n := n) (Q' := Q) (g := l.toArray.size - m) (fun listed a' w' hw' hL => by
    have := wpAnyIn_of_seq (F := F) (n := n) (md := .any) (Q' := Q) (l.drop m) m listed a' w' (fun j => by simp [List.getElem?_drop]) (by rw [hdl]; exact hL.1) hL.2
    rwa [hdl] at this) _ _ _ _ h0 H
  rw [htl, show m + (l.toArray.size - m) = l.toArray.size by omega] at this
  exact this
end
end Go.Proofs.Ytkoplofcjbeicaa.MixC
