/-
  A range over a function of our own (XRange), with whatever frame for the iterator's own steps.
-/
import Derived.Test.YtdmbdageohjodaaRange
namespace Go.Proofs.Ytdmbdageohjodaa
open Go.RowKit
set_option linter.unusedVariables false
set_option linter.unusedSimpArgs false

/-- **An iterator's contract**: Fr: what its own steps leave as it is (whatever is no cells stays); G: what it says of an element when it hands it over (pre has come; between W0, when the last round ended, and W1 it has taken steps of its own); Kp: what a round that goes on must keep. -/
def SeqF {α : Type} (P : Program) (g : Nat) (lb : Array Value) (encs : α → Array Value) (Fr : World → World → Prop) (G : List α → α → World → World → Prop) (S Sp : List α → Prop) (Kp : List α → α → World → World → Prop) (w0 : World) : Prop :=
  ∀ (l : Nat) (J Jx : List α → World → Prop) (W : World), Below w0.heap.size w0 W → (∀ s A B, J s A → Fr A B → J s B) → (∀ s A B, Jx s A → Fr A B → Jx s B) →
    (∀ pre x W0 W1, J pre W0 → Fr W0 W1 → G pre x W0 W1 → YieldAt Fence.wide 0 P l (encs x) W1 fun e W' =>
      (e = .returned (.bool true) ∧ J (pre ++ [x]) W' ∧ Kp pre x W1 W') ∨ (e = .returned (.bool false) ∧ Jx (pre ++ [x]) W')) →
    J [] W →
    CallsIn Fence.wide 0 P g (#[.func (.yield l) #[] #[]] ++ lb) W fun e W' => (∃ v, e = .returned v) ∧ ((∃ xs, S xs ∧ J xs W') ∨ (∃ pre, Sp pre ∧ Jx pre W'))

/-- **The statement 'for .. := range g { .. }'.** -/
theorem wp_rangeFunc_f {α : Type} {P : Program} {g : Operand} {ps : Array Tmp} {assign body : Code} {Q : Exit → Act → World → Prop} {a : Act} {w : World} {gf : Nat} {lb : Array Value} (hg : a.eval g = .func (.func gf) #[] lb) (eg : ∀ args w, (callFunc gf args).run P w = .ok (.enter gf args) w)
    {encs : α → Array Value} {Fr : World → World → Prop} {G : List α → α → World → World → Prop} {S Sp : List α → Prop} {Kp : List α → α → World → World → Prop} (hseq : SeqF P gf lb encs Fr G S Sp Kp w) (hps : ∀ x, (encs x).size = ps.size) (hFr : ∀ A B, Fr A B → ∀ (k : Nat) (o : Obj), o.isCells = false → A.heap[k]? = some o → B.heap[k]? = some o)
    (I : List α → World → Prop) (Ix : Code → List α → World → Prop) (hI : ∀ s A B, I s A → Fr A B → I s B) (hIx : ∀ c s A B, Ix c s A → Fr A B → Ix c s B)
    (h0 : ∀ W, Below w.heap.size w W → I [] W)
    (hround : ∀ (l : Nat) (pre : List α) (x : α) (W0 W : World), w.heap.size < l → I pre W0 → Fr W0 W → G pre x W0 W → assign.wpIn (Fence.wide.inRound l) 0 P
      (Exit.then (fun a₁ W₁ => KeepsOthers W W₁ ∧ ∀ W₂, Turned w.heap.size W₁ W₂ → body.wpIn (Fence.wide.inRound l) 0 P (rndPost w.heap.size I Ix (Kp pre x W) (pre ++ [x]) W₂) a₁ W₂) (fun _ _ _ => False))
      { tmps := (ps.zip (encs x)).foldl (fun t (p, v) => t.setIfInBounds p v) a.tmps, defers := [] } W)
    (hdone : ∀ (D : Nat) (xs : List α) (W W' : World), w.heap.size ≤ D → S xs → I xs W → Turned w.heap.size W W' → W'.heap[D]? = some (.deferred (some [])) → Q .normal { a with defers := { target := .collected D, args := #[] } :: a.defers } W')
    (hstop : ∀ (D : Nat) (c : Code) (pre : List α) (W W' : World), w.heap.size ≤ D → Sp pre → Ix c pre W → Turned w.heap.size W W' → W'.heap[D]? = some (.deferred (some [])) → c.wp P Q { a with defers := { target := .collected D, args := #[] } :: a.defers } W') :
    (Code.rangeFunc g ps assign body).wp P Q a w := by
  refine (wpIn_wide (n := 0)).1 (wpIn_rangeFunc ?_)
  intro fn hfn
  obtain ⟨rec, hrec⟩ : ∃ rec : LoopState → Option Code → Loop, rec = fun st pe => { state := st, pending := pe, fn, tmps := a.tmps, params := ps, assign, body, defers := w.heap.size } := ⟨_, rfl⟩
  obtain ⟨W1, hW1⟩ : ∃ W1, (w.alloc (.deferred (some []))).alloc (.loop (rec .ready none)) = W1 := ⟨_, rfl⟩
  have hL1 : W1.heap[w.heap.size + 1]? = some (.loop (rec .ready none)) := by
    rw [← hW1]; have := World.alloc_heap_new (w.alloc (.deferred (some []))) (.loop (rec .ready none)); rwa [World.size_alloc] at this
  have hK1 : W1.heap[w.heap.size]? = some (.deferred (some [])) := by
    rw [← hW1]; exact (Below.heap_alloc _ _ _ (by simp)).trans (World.alloc_heap_new w _)
  have hb1 : Below w.heap.size w W1 := by
    rw [← hW1]; exact (((Below.refl _ w).alloc (Nat.le_refl _) _).alloc (by simp) _)
  have hrl : ∀ A B : World, Fr A B → ∀ k o, w.heap.size ≤ k → o.isCells = false → A.heap[k]? = some o → B.heap[k]? = some o := fun A B hb k o _ ho => hFr A B hb k o ho
  refine ⟨w.heap.size + 1, [{ target := .collected w.heap.size, args := #[] }], W1, { target := .fn (.func gf) lb, args := #[.func (.yield (w.heap.size + 1)) #[] #[]] }, W1, gf,
    #[.func (.yield (w.heap.size + 1)) #[] #[]] ++ lb, W1, ?_, ?_, ?_, ?_, fun h => (by simp [Fence.wide] at h), ?_⟩
  · rw [← hW1, hrec]; exact run_enterLoop_outer _ _ _ _ _
  · simp only [resolve, hg]
    simp [go_sem]
  · intro f' hf'; exact trivial
  · simp [invoke, go_sem, eg]
  · refine (hseq (w.heap.size + 1)
      (fun pre W => I pre W ∧ W.heap[w.heap.size + 1]? = some (.loop (rec .ready none)) ∧ W.heap[w.heap.size]? = some (.deferred (some [])))
      (fun pre W => ∃ c, Ix c pre W ∧ W.heap[w.heap.size + 1]? = some (.loop (rec .done (some c))) ∧ W.heap[w.heap.size]? = some (.deferred (some [])))
      W1 hb1
      (fun s A B hs hb => ⟨hI s A B hs.1 hb, hrl A B hb _ _ (by omega) rfl hs.2.1, hrl A B hb _ _ (Nat.le_refl _) rfl hs.2.2⟩)
      (fun s A B hs hb => by
        obtain ⟨c, hc, hl, hk⟩ := hs
        exact ⟨c, hIx c s A B hc hb, hrl A B hb _ _ (by omega) rfl hl, hrl A B hb _ _ (Nat.le_refl _) rfl hk⟩)
      ?_ ⟨h0 W1 hb1, hL1, hK1⟩).mono ?_
    · rintro pre x W0 W ⟨hi, hl0, hk0⟩ hbut hG
      have hl := hrl W0 W hbut _ _ (by omega) rfl hl0
      have hk := hrl W0 W hbut _ _ (Nat.le_refl _) rfl hk0
      have hy := run_yield (P := P) (args := encs x) hl (by rw [hrec]; exact hps x)
      rw [hrec] at hy
      refine ⟨fn, _, assign, body, hy, roundIn_of_wpIn hfn (wpIn_mono (hround (w.heap.size + 1) pre x W0 W (by omega) hi hbut hG) ?_)⟩
      clear hy
      rintro e a₁ Wa hp
      cases e with
      | normal =>
        obtain ⟨hko, hbody⟩ := hp
        have hla := hko.same _ _ hl rfl
        have hka := hko.same _ _ hk rfl
        refine ⟨_, run_beginRound hla (by rw [hrec]), ?_⟩
        have hlt := lt_of_block hla
        have hl2 : (Wa.putObj (w.heap.size + 1) (.loop { rec .ready none with state := .busy })).heap[w.heap.size + 1]? = some (.loop { rec .ready none with state := .busy }) := World.putObj_heap_same hlt
        have hk2 : (Wa.putObj (w.heap.size + 1) (.loop { rec .ready none with state := .busy })).heap[w.heap.size]? = some (.deferred (some [])) := (World.putObj_heap_other (by omega)).trans hka
        refine wpIn_mono (hbody _ (Turned.put _ (by omega) hla rfl)) ?_
        have fin : ∀ (jump : Option Code) (W3 : World), KeepsOthers (Wa.putObj (w.heap.size + 1) (.loop { rec .ready none with state := .busy })) W3 →
            (Instr.endRound (w.heap.size + 1) jump).run P W3 = .ok (.bool jump.isNone) (W3.putObj (w.heap.size + 1) (.loop (rec (if jump.isNone then .ready else .done) jump))) ∧
            Turned w.heap.size W3 (W3.putObj (w.heap.size + 1) (.loop (rec (if jump.isNone then .ready else .done) jump))) ∧
            (W3.putObj (w.heap.size + 1) (.loop (rec (if jump.isNone then .ready else .done) jump))).heap[w.heap.size + 1]? = some (.loop (rec (if jump.isNone then .ready else .done) jump)) ∧
            (W3.putObj (w.heap.size + 1) (.loop (rec (if jump.isNone then .ready else .done) jump))).heap[w.heap.size]? = some (.deferred (some [])) := fun jump W3 hk3 => by
          have hl3 := hk3.same _ _ hl2 rfl
          have := run_endRound (P := P) jump hl3
          rw [hrec] at this ⊢
          exact ⟨this, Turned.put _ (by omega) hl3 rfl, World.putObj_heap_same (lt_of_block hl3), (World.putObj_heap_other (by omega)).trans (hk3.same _ _ hk2 rfl)⟩
        rintro e a3 W3 hp
        cases e with
        | normal =>
          obtain ⟨hk3, hi3⟩ := hp
          obtain ⟨hr, ht, hl4, hk4⟩ := fin none W3 hk3
          obtain ⟨h5, h6⟩ := hi3 _ ht
          exact ⟨_, _, hr, .inl ⟨rfl, ⟨h6, hl4, hk4⟩, h5⟩⟩
        | ret =>
          obtain ⟨hk3, hi3⟩ := hp
          obtain ⟨hr, ht, hl4, hk4⟩ := fin (some .ret) W3 hk3
          exact ⟨_, _, hr, .inr ⟨rfl, .ret, hi3 _ ht, hl4, hk4⟩⟩
        | exit id =>
          obtain ⟨hk3, hi3⟩ := hp
          obtain ⟨hr, ht, hl4, hk4⟩ := fin (some (.exit id)) W3 hk3
          exact ⟨_, _, hr, .inr ⟨rfl, .exit id, hi3 _ ht, hl4, hk4⟩⟩
        | goto t =>
          obtain ⟨hk3, hi3⟩ := hp
          obtain ⟨hr, ht, hl4, hk4⟩ := fin (some (.goto t)) W3 hk3
          exact ⟨_, _, hr, .inr ⟨rfl, .goto t, hi3 _ ht, hl4, hk4⟩⟩
        | panic ch => exact hp.elim
        | outgrown => exact hp.elim
      | ret => exact hp.elim
      | exit id => exact hp.elim
      | goto t => exact hp.elim
      | panic ch => exact hp.elim
      | outgrown => exact hp.elim
    · rintro e W2 ⟨⟨v, rfl⟩, (⟨xs, hS, hi, hl, hk⟩ | ⟨pre, hSp, c, hi, hl, hk⟩)⟩
      · exact ⟨none, _, by have := run_endLoop (P := P) hl (by rw [hrec]; simp); rw [hrec] at this; exact this, hdone _ xs W2 _ (Nat.le_refl _) hS hi (Turned.put _ (by omega) hl rfl) ((World.putObj_heap_other (by omega)).trans hk)⟩
      · exact ⟨some c, _, by have := run_endLoop (P := P) hl (by rw [hrec]; simp); rw [hrec] at this; exact this, wpIn_wide.2 (hstop _ c pre W2 _ (Nat.le_refl _) hSp hi (Turned.put _ (by omega) hl rfl) ((World.putObj_heap_other (by omega)).trans hk))⟩

end Go.Proofs.Ytdmbdageohjodaa
