/-
  A range over a function of our own: an iterator that may write one block (its captured variable), and a body that may write whatever cells it likes.
-/
import Derived.Test.YtkoplofcjbeicaaMixR
import Derived.Test.YtkoplofcjbeicaaOwn
import Derived.RangeFuncNested
import Derived.RangeFuncBound
import Derived.RangeFuncLeaves
import Derived.OwnWalkIn
import Derived.TacticsInMore
import Derived.LoopNIn
import Derived.LoopIn
namespace Go.Proofs.Ytkoplofcjbeicaa
open Go.RowKit
set_option linter.unusedVariables false
set_option linter.unusedSimpArgs false

/-- a block that is no cells, at or beyond B, has turned -/
structure Turned (B : Nat) (w w' : World) : Prop where
  os : w'.os = w.os
  tape : w'.tape = w.tape
  output : w'.output = w.output
  size : w'.heap.size = w.heap.size
  drawn : w'.drawn = w.drawn
  same : ∃ l, B ≤ l ∧ (∃ o, w.heap[l]? = some o ∧ o.isCells = false) ∧ ∀ k, k ≠ l → w'.heap[k]? = w.heap[k]?
theorem Turned.put {B l : Nat} {w : World} {o : Obj} (o' : Obj) (hB : B ≤ l) (h : w.heap[l]? = some o) (ho : o.isCells = false) : Turned B w (w.putObj l o') :=
  ⟨rfl, rfl, rfl, by simp, rfl, l, hB, ⟨o, h, ho⟩, fun k hk => World.putObj_heap_other hk⟩
theorem Turned.blk {B : Nat} {w w' : World} (h : Turned B w w') {k : Nat} {o : Obj} (hk : w.heap[k]? = some o) (ho : o.isCells = true) : w'.heap[k]? = some o := by
  obtain ⟨l, _, ⟨o2, h2, h3⟩, h4⟩ := h.same
  rw [h4 k (fun e => by subst e; rw [hk] at h2; cases h2; rw [ho] at h3; cases h3)]
  exact hk
theorem Turned.below {B n : Nat} {u w w' : World} (h : Turned B w w') (hb : Below n u w) (hn : n ≤ B) : Below n u w' :=
  hb.trans ⟨h.os, h.tape, h.output, by rw [h.size]; exact Nat.le_refl _, fun k hk => by obtain ⟨l, h1, _, h4⟩ := h.same; exact h4 k (by omega)⟩
theorem Turned.own {B : Nat} {w w' : World} (h : Turned B w w') {base : Nat} {e : TypeId} {size : Nat} {v : Value} {n : Nat} {xs : List Value} (ho : w.ownsRow base e size v n xs) : w'.ownsRow base e size v n xs := by
  obtain ⟨h1, h2⟩ := ho
  refine ⟨h1, ?_⟩
  rcases h2 with h2 | ⟨g, cap, cur, hv, hg, hh, r'⟩
  · exact .inl h2
  · exact .inr ⟨g, cap, cur, hv, hg, h.blk hh rfl, r'⟩
theorem Turned.cell {B : Nat} {w w' : World} (h : Turned B w w') {a : Addr} {v : Value} (hc : w.cell? a = some v) : w'.cell? a = some v := by
  obtain ⟨o, ho, hcs⟩ := cells_of_cell hc
  rw [World.cell?_of_block (w := w) (by rw [h.blk ho hcs, ho])]
  exact hc
theorem Turned.mono {B B' : Nat} {w w' : World} (h : Turned B w w') (hB : B' ≤ B) : Turned B' w w' := ⟨h.os, h.tape, h.output, h.size, h.drawn, let ⟨l, h1, h2⟩ := h.same; ⟨l, by omega, h2⟩⟩
theorem But.refl (r : Option Nat) (w : World) : But r w w := ⟨rfl, rfl, rfl, Nat.le_refl _, fun _ _ _ => rfl⟩
theorem But.trans {r : Option Nat} {u v w : World} (h : But r u v) (k : But r v w) : But r u w :=
  ⟨k.os.trans h.os, k.tape.trans h.tape, k.output.trans h.output, Nat.le_trans h.size k.size, fun i hi hne => (k.block i (Nat.lt_of_lt_of_le hi h.size) hne).trans (h.block i hi hne)⟩
theorem But.alloc {r : Option Nat} {u w : World} (h : But r u w) (o : Obj) : But r u (w.alloc o) := h.behind ((Below.refl _ _).alloc (Nat.le_refl _) _)
theorem But.drew {r : Option Nat} {u w : World} (h : But r u w) : But r u w.drew := ⟨h.os, h.tape, h.output, h.size, h.block⟩
theorem But.set {b : Nat} {u w : World} (h : But (some b) u w) (i : Nat) (v : Value) : But (some b) u (w.setCell ⟨b, i, none⟩ v) :=
  h.trans ⟨rfl, rfl, rfl, by simp [World.setCell], fun k _ hk => Below.heap_setCell _ _ _ _ (fun e => hk (by rw [e]))⟩

/-- **An iterator's contract**: r: the one block of its own that it writes; G: what it says of an element when it hands it over (pre has come; between W0, when the last round ended, and W1 it has taken steps of its own); Kp: what a round that goes on must keep. -/
def SeqW {α : Type} (P : Program) (g : Nat) (lb : Array Value) (encs : α → Array Value) (r : Option Nat) (G : List α → α → World → World → Prop) (S Sp : List α → Prop) (Kp : List α → α → World → World → Prop) (w0 : World) : Prop :=
  ∀ (l : Nat) (J Jx : List α → World → Prop) (W : World), Below w0.heap.size w0 W → (∀ s A B, J s A → But r A B → J s B) → (∀ s A B, Jx s A → But r A B → Jx s B) →
    (∀ pre x W0 W1, J pre W0 → But r W0 W1 → G pre x W0 W1 → YieldAt Fence.wide 0 P l (encs x) W1 fun e W' =>
      (e = .returned (.bool true) ∧ J (pre ++ [x]) W' ∧ Kp pre x W1 W') ∨ (e = .returned (.bool false) ∧ Jx (pre ++ [x]) W')) →
    J [] W →
    CallsIn Fence.wide 0 P g (#[.func (.yield l) #[] #[]] ++ lb) W fun e W' => (∃ v, e = .returned v) ∧ ((∃ xs, S xs ∧ J xs W') ∨ (∃ pre, Sp pre ∧ Jx pre W'))

/-- how a round's body may be left -/
def rndPost {α : Type} (B : Nat) (I : List α → World → Prop) (Ix : Code → List α → World → Prop) (Kp : World → Prop) (xs : List α) (W : World) : Exit → Act → World → Prop
  | .normal, _, W' => KeepsOthers W W' ∧ ∀ W'', Turned B W' W'' → Kp W'' ∧ I xs W''
  | .ret, _, W' => KeepsOthers W W' ∧ ∀ W'', Turned B W' W'' → Ix .ret xs W''
  | .exit id, _, W' => KeepsOthers W W' ∧ ∀ W'', Turned B W' W'' → Ix (.exit id) xs W''
  | .goto t, _, W' => KeepsOthers W W' ∧ ∀ W'', Turned B W' W'' → Ix (.goto t) xs W''
  | .panic _, _, _ => False
  | .outgrown, _, _ => False

/-- **The statement 'for .. := range g { .. }'.** -/
theorem wp_rangeFunc_w {α : Type} {P : Program} {g : Operand} {ps : Array Tmp} {assign body : Code} {Q : Exit → Act → World → Prop} {a : Act} {w : World} {gf : Nat} {lb : Array Value} (hg : a.eval g = .func (.func gf) #[] lb) (eg : ∀ args w, (callFunc gf args).run P w = .ok (.enter gf args) w)
    {encs : α → Array Value} {r : Option Nat} {G : List α → α → World → World → Prop} {S Sp : List α → Prop} {Kp : List α → α → World → World → Prop} (hseq : SeqW P gf lb encs r G S Sp Kp w) (hps : ∀ x, (encs x).size = ps.size) (hr : ∀ k, r = some k → k < w.heap.size)
    (I : List α → World → Prop) (Ix : Code → List α → World → Prop) (hI : ∀ s A B, I s A → But r A B → I s B) (hIx : ∀ c s A B, Ix c s A → But r A B → Ix c s B)
    (h0 : ∀ W, Below w.heap.size w W → I [] W)
    (hround : ∀ (l : Nat) (pre : List α) (x : α) (W0 W : World), w.heap.size < l → I pre W0 → But r W0 W → G pre x W0 W → assign.wpIn (Fence.wide.inRound l) 0 P
      (Exit.then (fun a₁ W₁ => KeepsOthers W W₁ ∧ ∀ W₂, Turned w.heap.size W₁ W₂ → body.wpIn (Fence.wide.inRound l) 0 P (rndPost w.heap.size I Ix (Kp pre x W) (pre ++ [x]) W₂) a₁ W₂) (fun _ _ _ => False))
      { tmps := (ps.zip (encs x)).foldl (fun t (p, v) => t.setIfInBounds p v) a.tmps, defers := [] } W)
    (hdone : ∀ (D : Nat) (xs : List α) (W W' : World), w.heap.size ≤ D → S xs → I xs W → Turned w.heap.size W W' → W'.heap[D]? = some (.deferred (some [])) → Q .normal { a with defers := { target := .collected D, args := #[] } :: a.defers } W')
    (hstop : ∀ (D : Nat) (c : Code) (pre : List α) (W W' : World), w.heap.size ≤ D → Sp pre → Ix c pre W → Turned w.heap.size W W' → W'.heap[D]? = some (.deferred (some [])) → c.wp P Q { a with defers := { target := .collected D, args := #[] } :: a.defers } W') :
    (Code.rangeFunc g ps assign body).wp P Q a w := by
  refine (wpIn_wide (n := 0)).1 (wpIn_rangeFunc ?_)
  intro fn hfn
  obtain ⟨rec, hrec⟩ : ∃ rec : LoopState → Option Code → Loop, rec = fun st pe => { state := st, pending := pe, fn, tmps := a.tmps, params := ps, assign, body, defers := w.heap.size } := ⟨_, rfl⟩
  obtain ⟨W1, hW1⟩ : ∃ W1, (w.alloc (.deferred (some []))).alloc (.loop (rec .ready none)) = W1 := ⟨_, rfl⟩
  have hL1 : W1.heap[w.heap.size + 1]? = some (.loop (rec .ready none)) := by
    rw [← hW1]; have := World.alloc_heap_new (w.alloc (.deferred (some []))) (.loop (rec .ready none)); rwa [World.size_alloc] at this
  have hK1 : W1.heap[w.heap.size]? = some (.deferred (some [])) := by
    rw [← hW1]; exact (Below.heap_alloc _ _ _ (by simp)).trans (World.alloc_heap_new w _)
  have hb1 : Below w.heap.size w W1 := by
    rw [← hW1]; exact (((Below.refl _ w).alloc (Nat.le_refl _) _).alloc (by simp) _)
  have hrl : ∀ A B : World, But r A B → ∀ k o, w.heap.size ≤ k → A.heap[k]? = some o → B.heap[k]? = some o := fun A B hb k o hk ho => by
    rw [hb.block k (lt_of_block ho) (fun e => by have := hr k e; omega)]; exact ho
  refine ⟨w.heap.size + 1, [{ target := .collected w.heap.size, args := #[] }], W1, { target := .fn (.func gf) lb, args := #[.func (.yield (w.heap.size + 1)) #[] #[]] }, W1, gf,
    #[.func (.yield (w.heap.size + 1)) #[] #[]] ++ lb, W1, ?_, ?_, ?_, ?_, fun h => (by simp [Fence.wide] at h), ?_⟩
  · rw [← hW1, hrec]; exact run_enterLoop_outer _ _ _ _ _
  · simp only [resolve, hg]
    simp [go_sem]
  · intro f' hf'; exact trivial
  · simp [invoke, go_sem, eg]
  · refine (hseq (w.heap.size + 1)
      (fun pre W => I pre W ∧ W.heap[w.heap.size + 1]? = some (.loop (rec .ready none)) ∧ W.heap[w.heap.size]? = some (.deferred (some [])))
      (fun pre W => ∃ c, Ix c pre W ∧ W.heap[w.heap.size + 1]? = some (.loop (rec .done (some c))) ∧ W.heap[w.heap.size]? = some (.deferred (some [])))
      W1 hb1
      (fun s A B hs hb => ⟨hI s A B hs.1 hb, hrl A B hb _ _ (by omega) hs.2.1, hrl A B hb _ _ (Nat.le_refl _) hs.2.2⟩)
      (fun s A B hs hb => by
        obtain ⟨c, hc, hl, hk⟩ := hs
        exact ⟨c, hIx c s A B hc hb, hrl A B hb _ _ (by omega) hl, hrl A B hb _ _ (Nat.le_refl _) hk⟩)
      ?_ ⟨h0 W1 hb1, hL1, hK1⟩).mono ?_
    · rintro pre x W0 W ⟨hi, hl0, hk0⟩ hbut hG
      have hl := hrl W0 W hbut _ _ (by omega) hl0
      have hk := hrl W0 W hbut _ _ (Nat.le_refl _) hk0
      have hy := run_yield (P := P) (args := encs x) hl (by rw [hrec]; exact hps x)
      rw [hrec] at hy
      refine ⟨fn, _, assign, body, hy, roundIn_of_wpIn hfn (wpIn_mono (hround (w.heap.size + 1) pre x W0 W (by omega) hi hbut hG) ?_)⟩
      clear hy
      rintro e a₁ Wa hp
      cases e with
      | normal =>
        obtain ⟨hko, hbody⟩ := hp
        have hla := hko.same _ _ hl rfl
        have hka := hko.same _ _ hk rfl
        refine ⟨_, run_beginRound hla (by rw [hrec]), ?_⟩
        have hlt := lt_of_block hla
        have hl2 : (Wa.putObj (w.heap.size + 1) (.loop { rec .ready none with state := .busy })).heap[w.heap.size + 1]? = some (.loop { rec .ready none with state := .busy }) := World.putObj_heap_same hlt
        have hk2 : (Wa.putObj (w.heap.size + 1) (.loop { rec .ready none with state := .busy })).heap[w.heap.size]? = some (.deferred (some [])) := (World.putObj_heap_other (by omega)).trans hka
        refine wpIn_mono (hbody _ (Turned.put _ (by omega) hla rfl)) ?_
        have fin : ∀ (jump : Option Code) (W3 : World), KeepsOthers (Wa.putObj (w.heap.size + 1) (.loop { rec .ready none with state := .busy })) W3 →
            (Instr.endRound (w.heap.size + 1) jump).run P W3 = .ok (.bool jump.isNone) (W3.putObj (w.heap.size + 1) (.loop (rec (if jump.isNone then .ready else .done) jump))) ∧
            Turned w.heap.size W3 (W3.putObj (w.heap.size + 1) (.loop (rec (if jump.isNone then .ready else .done) jump))) ∧
            (W3.putObj (w.heap.size + 1) (.loop (rec (if jump.isNone then .ready else .done) jump))).heap[w.heap.size + 1]? = some (.loop (rec (if jump.isNone then .ready else .done) jump)) ∧
            (W3.putObj (w.heap.size + 1) (.loop (rec (if jump.isNone then .ready else .done) jump))).heap[w.heap.size]? = some (.deferred (some [])) := fun jump W3 hk3 => by
          have hl3 := hk3.same _ _ hl2 rfl
          have := run_endRound (P := P) jump hl3
          rw [hrec] at this ⊢
          exact ⟨this, Turned.put _ (by omega) hl3 rfl, World.putObj_heap_same (lt_of_block hl3), (World.putObj_heap_other (by omega)).trans (hk3.same _ _ hk2 rfl)⟩
        rintro e a3 W3 hp
        cases e with
        | normal =>
          obtain ⟨hk3, hi3⟩ := hp
          obtain ⟨hr, ht, hl4, hk4⟩ := fin none W3 hk3
          obtain ⟨h5, h6⟩ := hi3 _ ht
          exact ⟨_, _, hr, .inl ⟨rfl, ⟨h6, hl4, hk4⟩, h5⟩⟩
        | ret =>
          obtain ⟨hk3, hi3⟩ := hp
          obtain ⟨hr, ht, hl4, hk4⟩ := fin (some .ret) W3 hk3
          exact ⟨_, _, hr, .inr ⟨rfl, .ret, hi3 _ ht, hl4, hk4⟩⟩
        | exit id =>
          obtain ⟨hk3, hi3⟩ := hp
          obtain ⟨hr, ht, hl4, hk4⟩ := fin (some (.exit id)) W3 hk3
          exact ⟨_, _, hr, .inr ⟨rfl, .exit id, hi3 _ ht, hl4, hk4⟩⟩
        | goto t =>
          obtain ⟨hk3, hi3⟩ := hp
          obtain ⟨hr, ht, hl4, hk4⟩ := fin (some (.goto t)) W3 hk3
          exact ⟨_, _, hr, .inr ⟨rfl, .goto t, hi3 _ ht, hl4, hk4⟩⟩
        | panic ch => exact hp.elim
        | outgrown => exact hp.elim
      | ret => exact hp.elim
      | exit id => exact hp.elim
      | goto t => exact hp.elim
      | panic ch => exact hp.elim
      | outgrown => exact hp.elim
    · rintro e W2 ⟨⟨v, rfl⟩, (⟨xs, hS, hi, hl, hk⟩ | ⟨pre, hSp, c, hi, hl, hk⟩)⟩
      · exact ⟨none, _, by have := run_endLoop (P := P) hl (by rw [hrec]; simp); rw [hrec] at this; exact this, hdone _ xs W2 _ (Nat.le_refl _) hS hi (Turned.put _ (by omega) hl rfl) ((World.putObj_heap_other (by omega)).trans hk)⟩
      · exact ⟨some c, _, by have := run_endLoop (P := P) hl (by rw [hrec]; simp); rw [hrec] at this; exact this, wpIn_wide.2 (hstop _ c pre W2 _ (Nat.le_refl _) hSp hi (Turned.put _ (by omega) hl rfl) ((World.putObj_heap_other (by omega)).trans hk))⟩

/-- A function that holds such a loop: from its body's walk. -/
theorem calls_of_wp_marks {P : Program} {f : FuncId} {fn : Func} {c : Code} {args : Array Value} {w : World} {R : Ending → World → Prop}
    (hf : P.funcs[f]? = some fn) (hb : fn.body = some c) (h : c.wp P (bodyPostM Fence.wide 0 P fn R) { tmps := args ++ Array.replicate (fn.ntmps - args.size) undef, defers := [] } w) : Calls P f args w R :=
  callsIn_wide.1 (callsIn_of_wp_marks (F := Fence.wide) (n := 0) hf hb trivial (wpIn_wide.2 h) rfl)
/-- leaving with one mark -/
theorem leaves_mark {P : Program} {fn : Func} {tmps : Array Value} {R : Ending → World → Prop} {D : Nat} {w : World} {v : Value} (hk : w.heap[D]? = some (.deferred (some []))) (hres : (results fn tmps).run P (w.putObj D (.deferred none)) = .ok v (w.putObj D (.deferred none)))
    (hR : R (.returned v) (w.putObj D (.deferred none))) : LeavesInM Fence.wide 0 P fn tmps R [{ target := .collected D, args := #[] }] .returning w :=
  ⟨by simp, .inl ⟨D, _, rfl, run_takeDeferred hk, v, hres, hR⟩⟩
/-- leaving with none -/
theorem leaves_none {P : Program} {fn : Func} {tmps : Array Value} {R : Ending → World → Prop} {w : World} {v : Value} (hres : (results fn tmps).run P w = .ok v w)
    (hR : R (.returned v) w) : LeavesInM Fence.wide 0 P fn tmps R [] .returning w := ⟨v, hres, hR⟩
theorem But.others {r : Option Nat} {w w' : World} (h : But r w w') (hr : ∀ k o, r = some k → w.heap[k]? = some o → o.isCells = true) : KeepsOthers w w' :=
  ⟨h.size, fun k o hk ho => by
    rw [h.block k (lt_of_block hk) (fun e => by rw [hr k o e hk] at ho; cases ho)]; exact hk⟩
theorem Below.others {w w' : World} (h : Below w.heap.size w w') : KeepsOthers w w' := (But.of_below (r := none) h).others (fun _ _ e => by cases e)
end Go.Proofs.Ytkoplofcjbeicaa
