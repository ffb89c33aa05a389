/-
  A region that draws its order, taken operation by operation in an order of our own: readers may be taken as soon as they may come up; where movers may come up in several orders, each is walked.
-/
import Derived.Test.YtihbceippcgfgaaMixT
namespace Go.Proofs.Ytihbceippcgfgaa.MixC
open Go.RowKit
set_option linter.unusedVariables false
set_option linter.unusedSimpArgs false

section
variable {P : Program} {ops : Array Oper} {md : Region.Mode} {C : World → Prop} {mv : Nat → Bool}
theorem anyM_read {Q : Act → World → Prop} {i : Nat} {oi : Oper} (hi : ops[i]? = some oi) (hsel : ∀ (j : Nat) (o : Oper) cs b, ops[j]? = some o → o.op ≠ .select cs b) (hmi : mv i = false) :
    ∀ (fuel : Nat) (listed : Array Bool) (a : Act) (w : World), C w →
      (∀ j oj, ops[j]? = some oj → j ≠ i → listed.getD j true = false → (∀ e ∈ oj.after, Region.binds md e = true → e.on ≠ i) → oi.apart ops oj = true) →
      i ∈ Region.ready md ops listed → mOp P ops C mv i (anyM P md ops C mv Q fuel (listed.setIfInBounds i true)) a w → anyM P md ops C mv Q (fuel + 1) listed a w := by
  intro fuel
  induction fuel with
  | zero =>
    intro listed a w hw _ hr H
    refine ⟨fun h => (by rw [h] at hr; cases hr), fun j hj => ?_⟩
    by_cases hji : j = i
    · subst hji; exact H
    · obtain ⟨a', w', h1, _⟩ := mOp_some hi H
      have := ready_mono hj hji
      rw [h1] at this
      cases this
  | succ fuel ih =>
    intro listed a w hw hfree hr H
    refine ⟨fun h => (by rw [h] at hr; cases hr), fun j hj => ?_⟩
    by_cases hji : j = i
    · subst hji; exact H
    · obtain ⟨hjun, oj, hoj, hall⟩ := mem_ready.1 hj
      obtain ⟨hiun, oi', hoi, halli⟩ := mem_ready.1 hr
      rw [hi] at hoi; cases hoi
      have un : ∀ k, listed.getD k true = false → listed.getD k false = true → False := fun k h0 h1 => by
        rcases Nat.lt_or_ge k listed.size with h' | h'
        · simp [h'] at h0 h1; rw [h0] at h1; cases h1
        · simp [Array.getElem?_eq_none h'] at h1
      have hnot : ∀ e ∈ oj.after, Region.binds md e = true → e.on ≠ i := fun e he hb heq => by
        have h1 := hall e he hb; rw [heq] at h1; exact un i hiun h1
      have H1 : mOp P ops C mv i (mOp P ops C mv j (anyM P md ops C mv Q fuel ((listed.setIfInBounds i true).setIfInBounds j true))) a w := mOp_mono hi hw (fun v w' _ h => h.2 j (ready_mono hj hji)) H
      have H2 := mOp_swap hi hoj (hfree j oj hoj hji hjun hnot) (fun cs b => hsel i oi cs b hi) (fun cs b => hsel j oj cs b hoj) (by rw [hmi]; rfl) hw H1
      refine mOp_mono hoj hw (fun u w' hw' h => ?_) H2
      refine ih (listed.setIfInBounds j true) _ w' hw' (fun k ok hk hki hun hno => ?_) (ready_mono hr (Ne.symm hji)) ?_
      · refine hfree k ok hk hki ?_ hno
        by_cases hjk : j = k
        · subst hjk; exact hjun
        · rw [getD_set_ne true hjk] at hun; exact hun
      · rw [Array.setIfInBounds_comm _ _ hji]; exact h

/-- what is left of a region, walked in an order of our own -/
def wpPick (P : Program) (ops : Array Oper) (C : World → Prop) (mv : Nat → Bool) (Q : Act → World → Prop) (n : Nat) (listed : Array Bool) (a : Act) (w : World) : Prop := anyM P .any ops C mv Q n listed a w
/-- the region, from its start -/
theorem wp_region_pick (ms : List Nat) {id : Nat} {Q : Exit → Act → World → Prop} {a : Act} {w : World} {l : List Oper} (C : World → Prop) (h0 : C w.drew) (hm : P.follows .mixedOrders = true)
    (h : wpPick P l.toArray C (fun i => ms.contains i) (fun a' w' => Q .normal a' w') l.length (Array.replicate l.length false) a w.drew) : (Code.region id l.toArray true).wp P Q a w := by
  refine wp_region_any hm (wpAny_of_mix (C := C) (mv := fun i => ms.contains i) (Q := fun a' w' => Q .normal a' w') (fun _ _ _ h => h) _ _ _ _ h0 ?_)
  simpa [wpPick] using h
/-- a reader -/
theorem pick_read (i : Nat) {Q : Act → World → Prop} {n : Nat} {listed : Array Bool} {a : Act} {w : World} {l : List Oper} {o : Oper} (ho : l[i]? = some o) (hs : Region.noSelect l.toArray = true) (hmi : mv i = false) (hf : Region.free .any l.toArray listed i = true) (hr : (Region.ready .any l.toArray listed).contains i = true) (hC : C w)
    (h : ∀ K : Act → Prop, (∀ a, wpPick P l.toArray C mv Q n (listed.setIfInBounds i true) a w → K a) → if Region.wanted o (yielded l.toArray a.tmps) then rdOp P C o a K else K (a.put o.dst undef)) : wpPick P l.toArray C mv Q (n + 1) listed a w := by
  have hi : l.toArray[i]? = some o := by simpa using ho
  refine anyM_read hi (Region.noSelect_spec hs) hmi n listed a w hC (Region.free_spec hi hf) (by simpa using hr) ?_
  have := h (fun a' => anyM P .any l.toArray C mv Q n (listed.setIfInBounds i true) a' w) (fun _ h => h)
  unfold mOp
  simpa [hi, hmi] using this
/-- the only one that may come up: a mover -/
theorem pick_move (i : Nat) {Q : Act → World → Prop} {n : Nat} {listed : Array Bool} {a : Act} {w : World} {l : List Oper} {o : Oper} (ho : l[i]? = some o) (hmi : mv i = true) (hr : Region.ready .any l.toArray listed = [i])
    (h : ∀ K : Act → World → Prop, (∀ a w', wpPick P l.toArray C mv Q n (listed.setIfInBounds i true) a w' → K a w') → if Region.wanted o (yielded l.toArray a.tmps) then mvUpon P C o a K ((execOp a.eval o).run P w) else K (a.put o.dst undef) w) : wpPick P l.toArray C mv Q (n + 1) listed a w := by
  have hi : l.toArray[i]? = some o := by simpa using ho
  refine ⟨(fun h0 => by rw [h0] at hr; cases hr), fun j hj => ?_⟩
  rw [hr] at hj
  have : j = i := by simpa using hj
  subst this
  have := h (fun a' w' => anyM P .any l.toArray C mv Q n (listed.setIfInBounds j true) a' w') (fun _ _ h => h)
  unfold mOp
  simpa [hi, hmi] using this
/-- two movers, in whatever order -/
theorem pick_two (i j : Nat) {Q : Act → World → Prop} {n : Nat} {listed : Array Bool} {a : Act} {w : World} {l : List Oper} {oi oj : Oper} (hoi : l[i]? = some oi) (hoj : l[j]? = some oj) (hmi : mv i = true) (hmj : mv j = true) (hr : Region.ready .any l.toArray listed = [i, j])
    (h1 : ∀ K : Act → World → Prop, (∀ a w', wpPick P l.toArray C mv Q n (listed.setIfInBounds i true) a w' → K a w') → if Region.wanted oi (yielded l.toArray a.tmps) then mvUpon P C oi a K ((execOp a.eval oi).run P w) else K (a.put oi.dst undef) w)
    (h2 : ∀ K : Act → World → Prop, (∀ a w', wpPick P l.toArray C mv Q n (listed.setIfInBounds j true) a w' → K a w') → if Region.wanted oj (yielded l.toArray a.tmps) then mvUpon P C oj a K ((execOp a.eval oj).run P w) else K (a.put oj.dst undef) w) : wpPick P l.toArray C mv Q (n + 1) listed a w := by
  have hi : l.toArray[i]? = some oi := by simpa using hoi
  have hj : l.toArray[j]? = some oj := by simpa using hoj
  refine ⟨(fun h0 => by rw [h0] at hr; cases hr), fun k hk => ?_⟩
  rw [hr] at hk
  rcases List.mem_cons.1 hk with rfl | hk
  · have := h1 (fun a' w' => anyM P .any l.toArray C mv Q n (listed.setIfInBounds k true) a' w') (fun _ _ h => h)
    unfold mOp
    simpa [hi, hmi] using this
  · have : k = j := by simpa using hk
    subst this
    have := h2 (fun a' w' => anyM P .any l.toArray C mv Q n (listed.setIfInBounds k true) a' w') (fun _ _ h => h)
    unfold mOp
    simpa [hj, hmj] using this
/-- all have come up -/
theorem pick_nil {Q : Act → World → Prop} {n : Nat} {listed : Array Bool} {a : Act} {w : World} (hr : Region.ready .any ops listed = []) (h : Q a w) : wpPick P ops C mv Q n listed a w := by
  unfold wpPick
  cases n with
  | zero => exact ⟨hr, h⟩
  | succ n => exact ⟨fun _ => h, fun i hi => by rw [hr] at hi; cases hi⟩
end
end Go.Proofs.Ytihbceippcgfgaa.MixC
