/-
  A region that draws its order, of two kinds of operations: readers (their value is one in every world of a class C, and they leave the world) and movers (calls, stores, allocations: they stay in the class, and stand in one forced order): one walk in the order of the text.
-/
import Derived.Test.YtkoplofcjbeicaaBase
namespace Go.Proofs.Ytkoplofcjbeicaa.MixC
open Go.RowKit
set_option linter.unusedVariables false
set_option linter.unusedSimpArgs false

/-- a call that leaves the world comes back with one value -/
theorem calls_one {P : Program} {f : FuncId} {args : Array Value} {w : World} {u v : Value} (hi : P.inits.idxOf? f = none) (h : Calls P f args w fun e w' => e = .returned u ∧ w' = w) (k : Calls P f args w fun e w' => e = .returned v ∧ w' = w) : u = v := by
  obtain ⟨e1, w1, fr1, ⟨rfl, rfl⟩, ⟨n1, h1⟩, f1, l1⟩ := h []
  obtain ⟨e2, w2, fr2, ⟨rfl, rfl⟩, ⟨n2, h2⟩, f2, l2⟩ := k []
  have d1 := step_leave_done l1 (f1 ▸ hi)
  have d2 := step_leave_done l2 (f2 ▸ hi)
  have r1 : ∀ j, runN P (n1 + 1 + j) (lone (Frame.enter P f args .normal) [] w2) = .ended (.done u) w2 := fun j => by
    rw [show n1 + 1 + j = n1 + (1 + j) by omega, runN_add, h1]
    simp only [Nat.add_comm 1 j, runN, d1]
  have r2 : ∀ j, runN P (n2 + 1 + j) (lone (Frame.enter P f args .normal) [] w2) = .ended (.done v) w2 := fun j => by
    rw [show n2 + 1 + j = n2 + (1 + j) by omega, runN_add, h2]
    simp only [Nat.add_comm 1 j, runN, d2]
  have e1 := r1 (n2 + 1)
  have e2 := r2 (n1 + 1)
  rw [show n2 + 1 + (n1 + 1) = n1 + 1 + (n2 + 1) by omega, e1] at e2
  injection e2 with e2
  injection e2
def rdUpon (P : Program) (w : World) (v : Value) : Result Next → Prop
  | .ok (.value u) w' => w' = w ∧ u = v
  | .ok .skip w' => w' = w ∧ v = undef
  | .ok (.enter f args) w' => w' = w ∧ P.inits.idxOf? f = none ∧ Calls P f args w fun e w'' => e = .returned v ∧ w'' = w
  | _ => False
theorem rdUpon_one {P : Program} {w : World} {u v : Value} {r : Result Next} (h : rdUpon P w u r) (h' : rdUpon P w v r) : u = v := by
  cases r with
  | ok n w' =>
    cases n <;> simp only [rdUpon] at h h'
    case value x => exact h.2.symm.trans h'.2
    case skip => exact h.2.trans h'.2.symm
    case enter f args => exact calls_one h.2.1 h.2.2 h'.2.2
  | halt x w' => simp [rdUpon] at h

/-- the value v, in every world -/
def rd (P : Program) (C : World → Prop) (o : Oper) (a : Act) (v : Value) : Prop := ∀ y : { w' : World // C w' }, rdUpon P y.1 v ((execOp a.eval o).run P y.1)
/-- a reader -/
def rdOp (P : Program) (C : World → Prop) (o : Oper) (a : Act) (K : Act → Prop) : Prop := ∃ v, rd P C o a v ∧ K (a.put o.dst v)
/-- a mover -/
def mvUpon (P : Program) (C : World → Prop) (o : Oper) (a : Act) (K : Act → World → Prop) : Result Next → Prop
  | .ok (.value v) w' => C w' ∧ K (a.put o.dst v) w'
  | .ok .skip w' => C w' ∧ K (a.put o.dst undef) w'
  | .ok (.enter f args) w' => Calls P f args w' fun e w'' => ∃ v, e = .returned v ∧ C w'' ∧ K (a.put o.dst v) w''
  | _ => False

section
variable {P : Program} {ops : Array Oper} {md : Region.Mode} {C : World → Prop} {mv : Nat → Bool}
theorem mvUpon_mono {o : Oper} {a : Act} {K K' : Act → World → Prop} {r : Result Next} (h : ∀ v w', C w' → K (a.put o.dst v) w' → K' (a.put o.dst v) w') (hh : mvUpon P C o a K r) : mvUpon P C o a K' r := by
  cases r with
  | ok n w' =>
    cases n <;> simp only [mvUpon] at hh ⊢
    case enter f args => exact hh.mono fun e w'' ⟨v, he, hb, hk⟩ => ⟨v, he, hb, h _ _ hb hk⟩
    all_goals exact ⟨hh.1, h _ _ hh.1 hh.2⟩
  | halt x w' => simp only [mvUpon] at hh
theorem mvUpon_some {o : Oper} {a : Act} {K : Act → World → Prop} {r : Result Next} (hh : mvUpon P C o a K r) : ∃ v w', C w' ∧ K (a.put o.dst v) w' := by
  cases r with
  | ok n w' =>
    cases n <;> simp only [mvUpon] at hh
    case enter f args =>
      obtain ⟨e, w'', fr, ⟨v, he, hb, hk⟩, _⟩ := hh []
      exact ⟨v, w'', hb, hk⟩
    all_goals exact ⟨_, w', hh.1, hh.2⟩
  | halt x w' => simp only [mvUpon] at hh

/-- Operation number i comes up. -/
def mOp (P : Program) (ops : Array Oper) (C : World → Prop) (mv : Nat → Bool) (i : Nat) (K : Act → World → Prop) (a : Act) (w : World) : Prop :=
  match ops[i]? with
  | none => K a w
  | some o => if Region.wanted o (yielded ops a.tmps) then (if mv i then mvUpon P C o a K ((execOp a.eval o).run P w) else rdOp P C o a fun a' => K a' w) else K (a.put o.dst undef) w

theorem mOp_mono {i : Nat} {oi : Oper} (hi : ops[i]? = some oi) {a : Act} {w : World} (hw : C w) {K K' : Act → World → Prop} (h : ∀ v w', C w' → K (a.put oi.dst v) w' → K' (a.put oi.dst v) w') (hh : mOp P ops C mv i K a w) : mOp P ops C mv i K' a w := by
  unfold mOp at *
  simp only [hi] at *
  split
  · rename_i hwa
    simp only [hwa, if_true] at hh
    split
    · rename_i hm
      simp only [hm, if_true] at hh
      exact mvUpon_mono h hh
    · rename_i hm
      simp only [hm] at hh
      obtain ⟨v, h1, h2⟩ := hh
      exact ⟨v, h1, h _ _ hw h2⟩
  · rename_i hwa
    simp only [hwa] at hh
    exact h _ _ hw hh
theorem mOp_some {i : Nat} {oi : Oper} (hi : ops[i]? = some oi) {a : Act} {w : World} {K : Act → World → Prop} (hh : mOp P ops C mv i K a w) : ∃ a' w', K a' w' := by
  unfold mOp at hh
  simp only [hi] at hh
  split at hh
  · split at hh
    · obtain ⟨v, w', _, h⟩ := mvUpon_some hh; exact ⟨_, _, h⟩
    · obtain ⟨v, _, h⟩ := hh; exact ⟨_, _, h⟩
  · exact ⟨_, _, hh⟩

/-- Two operations that are apart, not both movers, change places. -/
theorem mOp_swap {i j : Nat} {oi oj : Oper} (hi : ops[i]? = some oi) (hj : ops[j]? = some oj) (hap : oi.apart ops oj = true) (hsi : ∀ cs b, oi.op ≠ .select cs b) (hsj : ∀ cs b, oj.op ≠ .select cs b) (hmm : (mv i && mv j) = false)
    {K : Act → World → Prop} {a : Act} {w : World} (hw : C w) (h : mOp P ops C mv i (mOp P ops C mv j K) a w) : mOp P ops C mv j (mOp P ops C mv i K) a w := by
  obtain ⟨h1, h2, h3⟩ := Oper.apart_spec hap
  have wj : ∀ (a : Act) v, Region.wanted oj (yielded ops (a.put oi.dst v).tmps) = Region.wanted oj (yielded ops a.tmps) := fun a v => wanted_put oj a oi.dst v h1
  have wi : ∀ (a : Act) v, Region.wanted oi (yielded ops (a.put oj.dst v).tmps) = Region.wanted oi (yielded ops a.tmps) := fun a v => wanted_put oi a oj.dst v h3
  have xj : ∀ (a : Act) v, execOp (a.put oi.dst v).eval oj = execOp a.eval oj := fun a v => execOp_put oj hsj a oi.dst v h1
  have xi : ∀ (a : Act) v, execOp (a.put oj.dst v).eval oi = execOp a.eval oi := fun a v => execOp_put oi hsi a oj.dst v h3
  have pc : ∀ (a : Act) u v, (a.put oj.dst u).put oi.dst v = (a.put oi.dst v).put oj.dst u := fun a u v => (Act.put_comm a v u h2).symm
  -- what a mover's continuation becomes behind a put of the other one
  have mj : ∀ (a : Act) (v : Value) (R : Act → World → Prop) r, mvUpon P C oj (a.put oi.dst v) R r → mvUpon P C oj a (fun a' w' => R (a'.put oi.dst v) w') r := fun a v R r hh => by
    cases r with
    | ok n w' =>
      cases n <;> simp only [mvUpon] at hh ⊢
      case enter f args => exact hh.mono fun e w'' ⟨u, he, hb, hk⟩ => ⟨u, he, hb, by rw [pc]; exact hk⟩
      all_goals exact ⟨hh.1, by rw [pc]; exact hh.2⟩
    | halt x w' => simp only [mvUpon] at hh
  have mi : ∀ (a : Act) (u : Value) (R : Act → World → Prop) r, mvUpon P C oi a (fun a' w' => R (a'.put oj.dst u) w') r → mvUpon P C oi (a.put oj.dst u) R r := fun a u R r hh => by
    cases r with
    | ok n w' =>
      cases n <;> simp only [mvUpon] at hh ⊢
      case enter f args => exact hh.mono fun e w'' ⟨v, he, hb, hk⟩ => ⟨v, he, hb, by rw [pc]; exact hk⟩
      all_goals exact ⟨hh.1, by rw [pc]; exact hh.2⟩
    | halt x w' => simp only [mvUpon] at hh
  unfold mOp at h ⊢
  simp only [hi, hj, wi, wj] at h ⊢
  by_cases Wi : Region.wanted oi (yielded ops a.tmps) = true
  · simp only [Wi, if_true] at h ⊢
    by_cases Mi : mv i = true
    · have Mj : mv j = false := by simpa [Mi] using hmm
      simp only [Mi, if_true, Mj] at h ⊢
      by_cases Wj : Region.wanted oj (yielded ops a.tmps) = true
      · simp only [Wj, if_true] at h ⊢
        -- the reader's value, out of one outcome
        have h' : mvUpon P C oi a (fun a' w' => ∃ v, a' = a.put oi.dst v ∧ rdOp P C oj a' fun a' => K a' w') ((execOp a.eval oi).run P w) := by
          refine mvUpon_mono (fun v w' hb hk => ⟨v, rfl, ?_⟩) h
          simp only [wj, Wj, if_true] at hk
          exact hk
        obtain ⟨v1, w1, hb1, v1', _, u, hu, _⟩ := mvUpon_some h'
        have hu' : rd P C oj a u := fun y => by have := hu y; rw [xj] at this; exact this
        refine ⟨u, hu', ?_⟩
        simp only [wi, Wi, if_true, xi]
        refine mi _ _ _ _ (mvUpon_mono (fun v w' hb hk => ?_) h')
        obtain ⟨v', hv', u2, hu2, hk2⟩ := hk
        rw [hv'] at hu2 hk2
        have hu2' : rd P C oj a u2 := fun y => by have := hu2 y; rw [xj] at this; exact this
        have : u2 = u := rdUpon_one (hu2' ⟨w, hw⟩) (hu' ⟨w, hw⟩)
        subst this
        rw [hv']; exact hk2
      · simp only [Wj] at h ⊢
        simp only [wi, Wi, if_true, xi]
        refine mi _ _ _ _ (mvUpon_mono (fun v w' hb hk => ?_) h)
        simp only [wj, Wj] at hk
        exact hk
    · simp only [Mi] at h ⊢
      obtain ⟨v, hv, hk⟩ := h
      simp only [wj, xj] at hk
      have back : ∀ u w', K ((a.put oj.dst u).put oi.dst v) w' → (if Region.wanted oi (yielded ops (a.put oj.dst u).tmps) = true then (if False then mvUpon P C oi (a.put oj.dst u) K ((execOp (a.put oj.dst u).eval oi).run P w') else rdOp P C oi (a.put oj.dst u) fun a' => K a' w') else K ((a.put oj.dst u).put oi.dst undef) w') := fun u w' hk => by
        simp only [wi, Wi, if_true, if_false]
        exact ⟨v, fun y => by rw [xi]; exact hv y, hk⟩
      by_cases Wj : Region.wanted oj (yielded ops a.tmps) = true
      · simp only [Wj, if_true] at hk ⊢
        by_cases Mj : mv j = true
        · simp only [Mj, if_true] at hk ⊢
          refine mvUpon_mono (fun u w' hb hk => ?_) (mj _ _ _ _ hk)
          have := back u w' hk
          simpa using this
        · simp only [Mj] at hk ⊢
          obtain ⟨u, hu, hk⟩ := hk
          refine ⟨u, fun y => by have := hu y; rw [xj] at this; exact this, ?_⟩
          have := back u w (by rw [pc]; exact hk)
          simpa using this
      · simp only [Wj] at hk ⊢
        have := back undef w (by rw [pc]; exact hk)
        simpa [wi, Wi] using this
  · simp only [Wi] at h ⊢
    have back : ∀ u w', K ((a.put oj.dst u).put oi.dst undef) w' → (if Region.wanted oi (yielded ops (a.put oj.dst u).tmps) = true then (if mv i = true then mvUpon P C oi (a.put oj.dst u) K ((execOp (a.put oj.dst u).eval oi).run P w') else rdOp P C oi (a.put oj.dst u) fun a' => K a' w') else K ((a.put oj.dst u).put oi.dst undef) w') := fun u w' hk => by
      simp only [wi, Wi]
      exact hk
    simp only [wj, xj] at h
    by_cases Wj : Region.wanted oj (yielded ops a.tmps) = true
    · simp only [Wj, if_true] at h ⊢
      by_cases Mj : mv j = true
      · simp only [Mj, if_true] at h ⊢
        exact mvUpon_mono (fun u w' hb hk => back u w' hk) (mj _ _ _ _ h)
      · simp only [Mj] at h ⊢
        obtain ⟨u, hu, hk⟩ := h
        exact ⟨u, fun y => by have := hu y; rw [xj] at this; exact this, back u w (by rw [pc]; exact hk)⟩
    · simp only [Wj] at h ⊢
      have := back undef w (by rw [pc]; simpa using h)
      simpa [wi, Wi] using this

/-- Whatever order is picked from here on. -/
def anyM (P : Program) (md : Region.Mode) (ops : Array Oper) (C : World → Prop) (mv : Nat → Bool) (Q : Act → World → Prop) : Nat → Array Bool → Act → World → Prop
  | 0, listed, a, w => Region.ready md ops listed = [] ∧ Q a w
  | fuel + 1, listed, a, w => (Region.ready md ops listed = [] → Q a w) ∧ ∀ i ∈ Region.ready md ops listed, mOp P ops C mv i (anyM P md ops C mv Q fuel (listed.setIfInBounds i true)) a w

theorem wpOp_of_mOp {i : Nat} {a : Act} {K K' : Act → World → Prop} {Q' : Exit → Act → World → Prop} {w : World} (hw : C w) (h : ∀ a w', C w' → K a w' → K' a w') (hh : mOp P ops C mv i K a w) : wpOp P ops Q' i K' a w := by
  unfold mOp at hh
  unfold wpOp
  split
  · rename_i ho; simp only [ho] at hh; exact h _ _ hw hh
  · rename_i o ho
    simp only [ho] at hh
    split
    · rename_i hwa
      simp only [hwa, if_true] at hh
      refine .inl ?_
      unfold Oper.wp
      split at hh
      · generalize (execOp a.eval o).run P w = r at *
        cases r with
        | ok n w' =>
          cases n <;> simp only [mvUpon] at hh <;> simp only [Oper.upon]
          case enter f args => exact hh.mono fun e w'' ⟨v, he, hb, hk⟩ => by subst he; exact h _ _ hb hk
          all_goals exact h _ _ hh.1 hh.2
        | halt x w' => simp only [mvUpon] at hh
      · obtain ⟨v, hv, hk⟩ := hh
        have hv := hv ⟨w, hw⟩
        simp only at hv
        generalize (execOp a.eval o).run P w = r at *
        cases r with
        | ok n w' =>
          cases n <;> simp only [rdUpon] at hv <;> simp only [Oper.upon]
          case value u => obtain ⟨e1, e2⟩ := hv; rw [e1, e2]; exact h _ _ hw hk
          case skip => obtain ⟨e1, e2⟩ := hv; rw [e1, ← e2]; exact h _ _ hw hk
          case enter f args => obtain ⟨e1, _, e3⟩ := hv; rw [e1]; exact e3.mono fun e w'' ⟨he, hw'⟩ => by subst he; subst hw'; exact h _ _ hw hk
        | halt x w' => simp only [rdUpon] at hv
    · rename_i hwa; simp only [hwa] at hh; exact h _ _ hw hh
theorem wpAny_of_mix {Q : Act → World → Prop} {Q' : Exit → Act → World → Prop} (hQ : ∀ a w, C w → Q a w → Q' .normal a w) : ∀ (fuel : Nat) (listed : Array Bool) (a : Act) (w : World), C w → anyM P md ops C mv Q fuel listed a w → wpAny P md ops Q' fuel listed a w
  | 0, _, _, _, hw, h => ⟨h.1, hQ _ _ hw h.2⟩
  | fuel + 1, _, _, _, hw, h => ⟨fun h0 => hQ _ _ hw (h.1 h0), fun i hi => wpOp_of_mOp hw (fun a' w' hw' => wpAny_of_mix hQ fuel _ a' w' hw') (h.2 i hi)⟩

/-- each of a list of operations waits for the one ahead of it -/
def chainB (md : Region.Mode) (ops : Array Oper) : List Nat → Bool
  | k :: j :: rest => decide (k < j) && (match ops[j]? with | some oj => oj.after.any fun e => Region.binds md e && e.on == k | none => false) && chainB md ops (j :: rest)
  | _ => true
/-- what has come up, all that it waits for has -/
def Closed (md : Region.Mode) (ops : Array Oper) (listed : Array Bool) : Prop := ∀ (m : Nat) om, ops[m]? = some om → listed.getD m false = true → ∀ e ∈ om.after, Region.binds md e = true → listed.getD e.on false = true
theorem Closed.set {listed : Array Bool} {i : Nat} (h : Closed md ops listed) (hr : i ∈ Region.ready md ops listed) : Closed md ops (listed.setIfInBounds i true) := by
  intro m om hm hl e he hb
  refine getD_set_true ?_
  by_cases hmi : i = m
  · subst hmi
    obtain ⟨_, o, ho, hall⟩ := mem_ready.1 hr
    rw [hm] at ho; cases ho
    exact hall e he hb
  · rw [getD_set_ne false hmi] at hl
    exact h m om hm hl e he hb
theorem chain_le : ∀ {ms : List Nat} {k : Nat}, chainB md ops (k :: ms) = true → ∀ j ∈ ms, k < j
  | [], _, _, j, hj => by cases hj
  | j0 :: rest, k, h, j, hj => by
    simp only [chainB, Bool.and_eq_true, decide_eq_true_eq] at h
    rcases List.mem_cons.1 hj with rfl | hj
    · exact h.1.1
    · exact Nat.lt_trans h.1.1 (chain_le h.2 j hj)
theorem chain_listed {listed : Array Bool} (hc : Closed md ops listed) : ∀ {ms : List Nat}, chainB md ops ms = true → ∀ k ∈ ms, ∀ j ∈ ms, k < j → ∀ oj, ops[j]? = some oj → (∀ e ∈ oj.after, Region.binds md e = true → listed.getD e.on false = true) → listed.getD k false = true
  | [], _, k, hk, _, _, _, _, _, _ => by cases hk
  | [x], _, k, hk, j, hj, hlt, _, _, _ => by simp at hk hj; omega
  | k0 :: j0 :: rest, h, k, hk, j, hj, hlt, oj, hoj, hall => by
    have hle := chain_le h
    have h' := h
    simp only [chainB, Bool.and_eq_true, decide_eq_true_eq] at h
    obtain ⟨⟨h1, h2⟩, h3⟩ := h
    have direct : ∀ oj, ops[j0]? = some oj → (∀ e ∈ oj.after, Region.binds md e = true → listed.getD e.on false = true) → listed.getD k0 false = true := fun oj hoj hall => by
      rw [hoj] at h2
      obtain ⟨e, he, hb⟩ := Array.any_eq_true'.1 h2
      simp only [Bool.and_eq_true, beq_iff_eq] at hb
      have := hall e he hb.1
      rwa [hb.2] at this
    have hjne : j ∈ j0 :: rest := by
      rcases List.mem_cons.1 hj with rfl | hj
      · rcases List.mem_cons.1 hk with rfl | hk
        · omega
        · have := hle k hk; omega
      · exact hj
    rcases List.mem_cons.1 hk with rfl | hk
    · rcases List.mem_cons.1 hjne with rfl | hjr
      · exact direct oj hoj hall
      · have hj0 := chain_listed hc h3 j0 List.mem_cons_self j hjne (chain_le h3 j hjr) oj hoj hall
        cases ho : ops[j0]? with
        | none => rw [ho] at h2; cases h2
        | some o0 => exact direct o0 ho (fun e he hb => hc j0 o0 ho hj0 e he hb)
    · exact chain_listed hc h3 k hk j hjne hlt oj hoj hall

/-- An operation that may come up now may be taken first. -/
theorem anyM_first {Q : Act → World → Prop} {i : Nat} {oi : Oper} (hi : ops[i]? = some oi) (hsel : ∀ (j : Nat) (o : Oper) cs b, ops[j]? = some o → o.op ≠ .select cs b) {ms : List Nat} (hms : ∀ i, mv i = true → i ∈ ms) (hmv : chainB md ops ms = true) :
    ∀ (fuel : Nat) (listed : Array Bool) (a : Act) (w : World), Closed md ops listed → C w →
      (∀ j oj, ops[j]? = some oj → j ≠ i → listed.getD j true = false → (∀ e ∈ oj.after, Region.binds md e = true → e.on ≠ i) → oi.apart ops oj = true) →
      i ∈ Region.ready md ops listed → mOp P ops C mv i (anyM P md ops C mv Q fuel (listed.setIfInBounds i true)) a w → anyM P md ops C mv Q (fuel + 1) listed a w := by
  intro fuel
  induction fuel with
  | zero =>
    intro listed a w _ hw _ hr H
    refine ⟨fun h => (by rw [h] at hr; cases hr), fun j hj => ?_⟩
    by_cases hji : j = i
    · subst hji; exact H
    · obtain ⟨a', w', h1, _⟩ := mOp_some hi H
      have := ready_mono hj hji
      rw [h1] at this
      cases this
  | succ fuel ih =>
    intro listed a w hcl hw hfree hr H
    refine ⟨fun h => (by rw [h] at hr; cases hr), fun j hj => ?_⟩
    by_cases hji : j = i
    · subst hji; exact H
    · obtain ⟨hjun, oj, hoj, hall⟩ := mem_ready.1 hj
      obtain ⟨hiun, oi', hoi, halli⟩ := mem_ready.1 hr
      rw [hi] at hoi; cases hoi
      have un : ∀ k, listed.getD k true = false → listed.getD k false = true → False := fun k h0 h1 => by
        rcases Nat.lt_or_ge k listed.size with h' | h'
        · simp [h'] at h0 h1; rw [h0] at h1; cases h1
        · simp [Array.getElem?_eq_none h'] at h1
      have hnot : ∀ e ∈ oj.after, Region.binds md e = true → e.on ≠ i := fun e he hb heq => by
        have h1 := hall e he hb; rw [heq] at h1; exact un i hiun h1
      have hmm : (mv i && mv j) = false := by
        by_cases mi : mv i = true
        · by_cases mj : mv j = true
          · exfalso
            rcases Nat.lt_or_gt_of_ne hji with hlt | hlt
            · exact un j hjun (chain_listed hcl hmv j (hms j mj) i (hms i mi) hlt oi hi halli)
            · exact un i hiun (chain_listed hcl hmv i (hms i mi) j (hms j mj) hlt oj hoj hall)
          · simp [mj]
        · simp [mi]
      have H1 : mOp P ops C mv i (mOp P ops C mv j (anyM P md ops C mv Q fuel ((listed.setIfInBounds i true).setIfInBounds j true))) a w := mOp_mono hi hw (fun v w' _ h => h.2 j (ready_mono hj hji)) H
      have H2 := mOp_swap hi hoj (hfree j oj hoj hji hjun hnot) (fun cs b => hsel i oi cs b hi) (fun cs b => hsel j oj cs b hoj) hmm hw H1
      refine mOp_mono hoj hw (fun u w' hw' h => ?_) H2
      refine ih (listed.setIfInBounds j true) _ w' (hcl.set hj) hw' (fun k ok hk hki hun hno => ?_) (ready_mono hr (Ne.symm hji)) ?_
      · refine hfree k ok hk hki ?_ hno
        by_cases hjk : j = k
        · subst hjk; exact hjun
        · rw [getD_set_ne true hjk] at hun; exact hun
      · rw [Array.setIfInBounds_comm _ _ hji]; exact h

/-- The walk in the order of the text. -/
def wpMix (P : Program) (ops : Array Oper) (C : World → Prop) (mv : Nat → Bool) (Q : Act → World → Prop) : Nat → List Oper → Act → World → Prop
  | _, [], a, w => Q a w
  | k, o :: rest, a, w => if Region.wanted o (yielded ops a.tmps) then (if mv k then mvUpon P C o a (wpMix P ops C mv Q (k + 1) rest) ((execOp a.eval o).run P w) else rdOp P C o a fun a' => wpMix P ops C mv Q (k + 1) rest a' w) else wpMix P ops C mv Q (k + 1) rest (a.put o.dst undef) w

theorem anyM_lex {Q : Act → World → Prop} {ms : List Nat} (hms : ∀ i, mv i = true → i ∈ ms) (hs : Region.noSelect ops = true) (hmv : chainB md ops ms = true) : ∀ (l : List Oper) (k : Nat) (listed : Array Bool) (a : Act) (w : World), Closed md ops listed → C w → (∀ j, l[j]? = ops[k + j]?) →
    Region.lexFrom md ops l.length k listed = true → wpMix P ops C mv Q k l a w → anyM P md ops C mv Q l.length listed a w
  | [], _, _, _, _, _, _, _, hB, h => ⟨by simpa [Region.lexFrom] using hB, h⟩
  | o :: l, k, listed, a, w, hcl, hw, hl, hB, h => by
    have h0 : ops[k]? = some o := by simpa using (hl 0).symm
    simp only [List.length_cons, Region.lexFrom, Bool.and_eq_true] at hB
    obtain ⟨⟨hr, hf⟩, hB'⟩ := hB
    have hst : mOp P ops C mv k (wpMix P ops C mv Q (k + 1) l) a w := by unfold mOp; simp only [h0]; exact h
    have hrd : k ∈ Region.ready md ops listed := by simpa using hr
    refine anyM_first h0 (Region.noSelect_spec hs) hms hmv l.length listed a w hcl hw (Region.free_spec h0 hf) (by simpa using hr) (mOp_mono h0 hw (fun v w' hw' h' => ?_) hst)
    exact anyM_lex hms hs hmv l (k + 1) _ _ w' (hcl.set hrd) hw' (fun j => by have := hl (j + 1); simpa [Nat.add_assoc, Nat.add_comm 1 j] using this) hB' h'

/-- **A region of readers and movers.** ms: the movers, and operations between them, each of which waits for the one ahead of it. -/
theorem wp_region_mix (ms : List Nat) {id : Nat} {Q : Exit → Act → World → Prop} {a : Act} {w : World} {l : List Oper} (C : World → Prop) (h0 : C w.drew) (hm : P.follows .mixedOrders = true) (hB : Region.lexB .any l.toArray = true) (hmv : chainB .any l.toArray ms = true)
    (h : wpMix P l.toArray C (fun i => ms.contains i) (fun a' w' => Q .normal a' w') 0 l a w.drew) : (Code.region id l.toArray true).wp P Q a w := by
  simp only [Region.lexB, Bool.and_eq_true] at hB
  refine wp_region_any hm (wpAny_of_mix (C := C) (mv := fun i => ms.contains i) (Q := fun a' w' => Q .normal a' w') (fun _ _ _ h => h) _ _ _ _ h0 ?_)
  have := anyM_lex (md := .any) (ms := ms) (fun i hi => by simpa using hi) hB.1 hmv l 0 (Array.replicate l.toArray.size false) a w.drew (fun m om _ hl => by exfalso; simp [Array.getElem?_replicate] at hl; split at hl <;> simp at hl) h0 (by simp) (by simpa using hB.2) h
  simpa using this

theorem mix_nil {Q : Act → World → Prop} {k : Nat} {a : Act} {w : World} (h : Q a w) : wpMix P ops C mv Q k [] a w := h
/-- one that reads -/
theorem mix_read {Q : Act → World → Prop} {k : Nat} {a : Act} {w : World} {o : Oper} {rest : List Oper} (hk : mv k = false)
    (h : ∀ K : Act → Prop, (∀ a, wpMix P ops C mv Q (k + 1) rest a w → K a) → if Region.wanted o (yielded ops a.tmps) then rdOp P C o a K else K (a.put o.dst undef)) : wpMix P ops C mv Q k (o :: rest) a w := by
  have := h (fun a' => wpMix P ops C mv Q (k + 1) rest a' w) (fun _ h => h)
  unfold wpMix
  simpa [hk] using this
/-- one that moves, or is passed over -/
theorem mix_move {Q : Act → World → Prop} {k : Nat} {a : Act} {w : World} {o : Oper} {rest : List Oper} (hk : mv k = true)
    (h : ∀ K : Act → World → Prop, (∀ a w', wpMix P ops C mv Q (k + 1) rest a w' → K a w') → if Region.wanted o (yielded ops a.tmps) then mvUpon P C o a K ((execOp a.eval o).run P w) else K (a.put o.dst undef) w) : wpMix P ops C mv Q k (o :: rest) a w := by
  have := h (fun a' w' => wpMix P ops C mv Q (k + 1) rest a' w') (fun _ _ h => h)
  unfold wpMix
  simpa [hk] using this
end
end Go.Proofs.Ytkoplofcjbeicaa.MixC
