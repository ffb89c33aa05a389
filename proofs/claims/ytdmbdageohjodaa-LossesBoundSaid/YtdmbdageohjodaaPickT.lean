/-
  A region taken in an order of our own (XPick), with a forced tail behind the first n operations.
-/
import Derived.Test.YtdmbdageohjodaaPick
namespace Go.Proofs.Ytdmbdageohjodaa.MixC
open Go.RowKit
set_option linter.unusedVariables false
set_option linter.unusedSimpArgs false

section
variable {P : Program} {ops : Array Oper} {md : Region.Mode} {C : World → Prop} {mv : Nat → Bool}
theorem anyT_read {n i : Nat} {oi : Oper} {L : Array Bool → Act → World → Prop} (hi : ops[i]? = some oi) (hsel : ∀ (j : Nat) (o : Oper) cs b, ops[j]? = some o → o.op ≠ .select cs b) (hmi : mv i = false)
    (hs : Region.sinkB md ops n = true) (hc : Region.chainB md ops n = true) (hn : n < ops.size) (hin : i < n) (hdone : ∀ listed a w, L listed a w → ∀ j ∈ Region.ready md ops listed, n ≤ j) :
    ∀ (f : Nat) (listed : Array Bool) (a : Act) (w : World), HeadInv md ops n listed → C w →
      (∀ j oj, ops[j]? = some oj → j ≠ i → listed.getD j true = false → (∀ e ∈ oj.after, Region.binds md e = true → e.on ≠ i) → oi.apart ops oj = true) →
      i ∈ Region.ready md ops listed → mOp P ops C mv i (anyT P md ops C mv n L f (listed.setIfInBounds i true)) a w → anyT P md ops C mv n L (f + 1) listed a w := by
  intro f
  induction f with
  | zero =>
    intro listed a w inv hw _ hr H
    have hun := (mem_ready.1 hr).1
    refine ⟨fun h => (by rw [h] at hr; cases hr), fun j hj => ?_⟩
    have hjn : j < n := by
      rcases Nat.lt_or_ge j n with h | h
      · exact h
      · exact absurd hj (tail_waits hs hc hn inv _ i rfl hin hun j h)
    refine ⟨hjn, ?_⟩
    by_cases hji : j = i
    · subst hji; exact H
    · obtain ⟨a', w', h1⟩ := mOp_some hi H
      have := hdone _ _ _ h1 j (ready_mono hj hji)
      omega
  | succ f ih =>
    intro listed a w inv hw hfree hr H
    have hun := (mem_ready.1 hr).1
    refine ⟨fun h => (by rw [h] at hr; cases hr), fun j hj => ?_⟩
    have hjn : j < n := by
      rcases Nat.lt_or_ge j n with h | h
      · exact h
      · exact absurd hj (tail_waits hs hc hn inv _ i rfl hin hun j h)
    refine ⟨hjn, ?_⟩
    by_cases hji : j = i
    · subst hji; exact H
    · obtain ⟨hjun, oj, hoj, hall⟩ := mem_ready.1 hj
      obtain ⟨hiun, oi', hoi, halli⟩ := mem_ready.1 hr
      rw [hi] at hoi; cases hoi
      have hnot : ∀ e ∈ oj.after, Region.binds md e = true → e.on ≠ i := fun e he hb heq => by
        have h1 := hall e he hb
        rw [heq, getD_both hun] at h1
        cases h1
      have H1 : mOp P ops C mv i (mOp P ops C mv j (anyT P md ops C mv n L f ((listed.setIfInBounds i true).setIfInBounds j true))) a w := mOp_mono hi hw (fun v w' _ h => (h.2 j (ready_mono hj hji)).2) H
      have H2 := mOp_swap hi hoj (hfree j oj hoj hji hjun hnot) (fun cs b => hsel i oi cs b hi) (fun cs b => hsel j oj cs b hoj) (by rw [hmi]; rfl) hw H1
      refine mOp_mono hoj hw (fun u w' hw' h => ?_) H2
      refine ih (listed.setIfInBounds j true) _ w' (inv.set hj hjn) hw' (fun k ok hk hki hun hno => ?_) (ready_mono hr (Ne.symm hji)) ?_
      · refine hfree k ok hk hki ?_ hno
        by_cases hjk : j = k
        · subst hjk; exact hjun
        · rw [getD_set_ne true hjk] at hun; exact hun
      · rw [Array.setIfInBounds_comm _ _ hji]; exact h

/-- what is left of the first n operations, walked in an order of our own; behind them the tail, from the list -/
def wpPickT (P : Program) (ops : Array Oper) (C : World → Prop) (mv : Nat → Bool) (n : Nat) (Lq : Act → World → Prop) (f : Nat) (listed : Array Bool) (a : Act) (w : World) : Prop :=
  HeadInv .any ops n listed → anyT P .any ops C mv n (fun listed' a' w' => Region.seqB .any ops (ops.size - n) n listed' = true ∧ Lq a' w') f listed a w
/-- the region, from its start: n operations ahead of the tail -/
theorem wp_region_pickT (n : Nat) (ms : List Nat) {id : Nat} {Q : Exit → Act → World → Prop} {a : Act} {w : World} {l : List Oper} (C : World → Prop) (h0 : C w.drew) (hm : P.follows .mixedOrders = true) (hT : (decide (n < l.toArray.size) && (Region.sinkB .any l.toArray n && Region.chainB .any l.toArray n)) = true)
    (h : wpPickT P l.toArray C (fun i => ms.contains i) n (fun a' w' => wpList P l.toArray Q (l.drop n) a' w') n (Array.replicate l.length false) a w.drew) : (Code.region id l.toArray true).wp P Q a w := by
  simp only [Bool.and_eq_true, decide_eq_true_eq] at hT
  obtain ⟨hn, hs, hc⟩ := hT
  have hdl : (l.drop n).length = l.toArray.size - n := by simp
  have inv0 : HeadInv .any l.toArray n (Array.replicate l.length false) :=
    ⟨by simp, fun j oj _ hl => (by rw [getD_replicate_false] at hl; cases hl), fun t _ ht => getD_in (by simpa using ht) (getD_replicate_false _ _)⟩
  have H := h inv0
  refine wp_region_any hm ?_
  have := wpAny_of_headT (Q' := Q) (g := l.toArray.size - n) (fun listed a' w' hw' hL => by
    have := wpAny_of_seq (md := .any) (Q' := Q) (l.drop n) n listed a' w' (fun j => by simp [List.getElem?_drop]) (by rw [hdl]; exact hL.1) hL.2
    rwa [hdl] at this) _ _ _ _ h0 H
  rw [show n + (l.toArray.size - n) = l.toArray.size by omega] at this
  simpa using this
/-- the tail's facts, as one test -/
def tailB (ops : Array Oper) (n : Nat) : Bool := Region.noSelect ops && (decide (n < ops.size) && (Region.sinkB .any ops n && Region.chainB .any ops n))
/-- a reader -/
theorem pickT_read (i : Nat) {n : Nat} {Lq : Act → World → Prop} {f : Nat} {listed : Array Bool} {a : Act} {w : World} {l : List Oper} {o : Oper} (ho : l[i]? = some o) (hT : tailB l.toArray n = true) (hmi : mv i = false) (hin : decide (i < n) = true) (hf : Region.free .any l.toArray listed i = true) (hr : (Region.ready .any l.toArray listed).contains i = true) (hC : C w)
    (h : ∀ K : Act → Prop, (∀ a, wpPickT P l.toArray C mv n Lq f (listed.setIfInBounds i true) a w → K a) → if Region.wanted o (yielded l.toArray a.tmps) then rdOp P C o a K else K (a.put o.dst undef)) : wpPickT P l.toArray C mv n Lq (f + 1) listed a w := by
  intro inv
  simp only [tailB, Bool.and_eq_true, decide_eq_true_eq] at hT
  obtain ⟨hsel, hn, hs, hc⟩ := hT
  have hi : l.toArray[i]? = some o := by simpa using ho
  have hin' : i < n := by simpa using hin
  have hrd : i ∈ Region.ready .any l.toArray listed := by simpa using hr
  refine anyT_read hi (Region.noSelect_spec hsel) hmi hs hc hn hin' (fun listed' a' w' hL => seqB_ready hL.1) f listed a w inv hC (Region.free_spec hi hf) hrd ?_
  have := h (fun a' => anyT P .any l.toArray C mv n (fun listed' a' w' => Region.seqB .any l.toArray (l.toArray.size - n) n listed' = true ∧ Lq a' w') f (listed.setIfInBounds i true) a' w) (fun _ h => h (inv.set hrd hin'))
  unfold mOp
  simpa [hi, hmi] using this
/-- the only one that may come up: a mover -/
theorem pickT_move (i : Nat) {n : Nat} {Lq : Act → World → Prop} {f : Nat} {listed : Array Bool} {a : Act} {w : World} {l : List Oper} {o : Oper} (ho : l[i]? = some o) (hmi : mv i = true) (hin : decide (i < n) = true) (hr : Region.ready .any l.toArray listed = [i])
    (h : ∀ K : Act → World → Prop, (∀ a w', wpPickT P l.toArray C mv n Lq f (listed.setIfInBounds i true) a w' → K a w') → if Region.wanted o (yielded l.toArray a.tmps) then mvUpon P C o a K ((execOp a.eval o).run P w) else K (a.put o.dst undef) w) : wpPickT P l.toArray C mv n Lq (f + 1) listed a w := by
  intro inv
  have hi : l.toArray[i]? = some o := by simpa using ho
  have hin' : i < n := by simpa using hin
  refine ⟨(fun h0 => by rw [h0] at hr; cases hr), fun j hj => ?_⟩
  have hj' := hj
  rw [hr] at hj
  have : j = i := by simpa using hj
  subst this
  refine ⟨hin', ?_⟩
  have := h (fun a' w' => anyT P .any l.toArray C mv n (fun listed' a' w' => Region.seqB .any l.toArray (l.toArray.size - n) n listed' = true ∧ Lq a' w') f (listed.setIfInBounds j true) a' w') (fun _ _ h => h (inv.set hj' hin'))
  unfold mOp
  simpa [hi, hmi] using this
/-- two movers, in whatever order -/
theorem pickT_two (i j : Nat) {n : Nat} {Lq : Act → World → Prop} {f : Nat} {listed : Array Bool} {a : Act} {w : World} {l : List Oper} {oi oj : Oper} (hoi : l[i]? = some oi) (hoj : l[j]? = some oj) (hmi : mv i = true) (hmj : mv j = true) (hin : decide (i < n ∧ j < n) = true) (hr : Region.ready .any l.toArray listed = [i, j])
    (h1 : ∀ K : Act → World → Prop, (∀ a w', wpPickT P l.toArray C mv n Lq f (listed.setIfInBounds i true) a w' → K a w') → if Region.wanted oi (yielded l.toArray a.tmps) then mvUpon P C oi a K ((execOp a.eval oi).run P w) else K (a.put oi.dst undef) w)
    (h2 : ∀ K : Act → World → Prop, (∀ a w', wpPickT P l.toArray C mv n Lq f (listed.setIfInBounds j true) a w' → K a w') → if Region.wanted oj (yielded l.toArray a.tmps) then mvUpon P C oj a K ((execOp a.eval oj).run P w) else K (a.put oj.dst undef) w) : wpPickT P l.toArray C mv n Lq (f + 1) listed a w := by
  intro inv
  have hi : l.toArray[i]? = some oi := by simpa using hoi
  have hj : l.toArray[j]? = some oj := by simpa using hoj
  obtain ⟨hin1, hin2⟩ : i < n ∧ j < n := by simpa using hin
  refine ⟨(fun h0 => by rw [h0] at hr; cases hr), fun k hk => ?_⟩
  have hk' := hk
  rw [hr] at hk
  rcases List.mem_cons.1 hk with rfl | hk
  · refine ⟨hin1, ?_⟩
    have := h1 (fun a' w' => anyT P .any l.toArray C mv n (fun listed' a' w' => Region.seqB .any l.toArray (l.toArray.size - n) n listed' = true ∧ Lq a' w') f (listed.setIfInBounds k true) a' w') (fun _ _ h => h (inv.set hk' hin1))
    unfold mOp
    simpa [hi, hmi] using this
  · have : k = j := by simpa using hk
    subst this
    refine ⟨hin2, ?_⟩
    have := h2 (fun a' w' => anyT P .any l.toArray C mv n (fun listed' a' w' => Region.seqB .any l.toArray (l.toArray.size - n) n listed' = true ∧ Lq a' w') f (listed.setIfInBounds k true) a' w') (fun _ _ h => h (inv.set hk' hin2))
    unfold mOp
    simpa [hj, hmj] using this
/-- all ahead of the tail have come up -/
theorem pickT_nil {n : Nat} {Lq : Act → World → Prop} {listed : Array Bool} {a : Act} {w : World} (hr : Region.seqB .any ops (ops.size - n) n listed = true) (h : Lq a w) : wpPickT P ops C mv n Lq 0 listed a w := fun _ => ⟨hr, h⟩
end
end Go.Proofs.Ytdmbdageohjodaa.MixC
