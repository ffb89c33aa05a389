/-
  Chapter 38: the book of syncs.
-/
import Derived.Test.YtkdjkaimcciemaaSrmLaws
import Derived.Test.YtkdjkaimcciemaaMapI
import Derived.Deep.DeepCutAuto
import Derived.StillTailTactics
namespace Go.Proofs.Ytkdjkaimcciemaa
open Go.RowKit
set_option linter.unusedVariables false
set_option linter.unusedSimpArgs false
attribute [local irreducible] wpStill wpQuiet

def kS : KeyT Try.prog 23 Int := intKey Try.underlying23
structure Sy where
  T : Int
  S : Int
  R : Int
def Sy.v (s : Sy) : Value := .agg #[.int .u64 s.T, .int .u32 s.S, .int .u32 s.R]
structure Sy.Ok (s : Sy) : Prop where
  t : 0 ≤ s.T ∧ s.T ≤ 18446744073709551615
  ss : 0 ≤ s.S ∧ s.S ≤ 4294967295
  r : 0 ≤ s.R ∧ s.R ≤ 4294967295
def sysOf (f : Int → Option Sy) : Int → Option Value := fun x => (f x).map Sy.v
theorem sysOf_some (f : Int → Option Sy) (x : Int) : (sysOf f x).isSome = (f x).isSome := by unfold sysOf; cases f x <;> rfl
def updS (f : Int → Option Sy) (x : Int) (v : Option Sy) : Int → Option Sy := fun y => if y = x then v else f y
theorem sysOf_upd (f : Int → Option Sy) (x : Int) (s : Sy) : setAt (sysOf f) x (some s.v) = sysOf (updS f x (some s)) := by
  funext y; unfold setAt sysOf updS; split <;> rfl
theorem sysOf_del (f : Int → Option Sy) (x : Int) : setAt (sysOf f) x none = sysOf (updS f x none) := by
  funext y; unfold setAt sysOf updS; split <;> rfl
theorem zeroSy (u : World) : (zeroValue 25).run Try.prog u = .ok (.agg #[.int .u64 0, .int .u32 0, .int .u32 0]) u := by kernel_rfl
/-- a book -/
structure Bk (gk gm n : Nat) (f : Int → Option Sy) (sz : Nat) (w : World) : Prop where
  blk : w.heap[gk]? = some (.cells #[.map (some gm)] 109 (0, 0))
  map : MapI kS w gm n (sysOf f) sz
  ne : gk ≠ gm
theorem Bk.keep {gk gm n : Nat} {f : Int → Option Sy} {sz : Nat} {w w' : World} (h : Bk gk gm n f sz w) (hb : Below w.heap.size w w') : Bk gk gm n f sz w' := ⟨Below.blk hb h.blk (lt_of_block h.blk), h.map.of_blk (hb.block _ h.map.lt), h.ne⟩
theorem Bk.cell {gk gm n : Nat} {f : Int → Option Sy} {sz : Nat} {w : World} (h : Bk gk gm n f sz w) : w.cell? ⟨gk, 0, none⟩ = some (.map (some gm)) := cell_blk h.blk
theorem Bk.look {gk gm n : Nat} {f : Int → Option Sy} {sz : Nat} {w : World} (h : Bk gk gm n f sz w) (x : Int) (hx : (Lit.int .u32 x).wf = true) :
    ∃ s : Sy, (Instr.lookup 107 (.map (some gm)) (.int .u32 x) true).run Try.prog w = .ok (.tuple #[.agg #[.int .u64 s.T, .int .u32 s.S, .int .u32 s.R], .bool (f x).isSome]) w ∧ ∀ s', f x = some s' → s = s' := by
  have h1 := h.map.look Try.underlying107 (zeroSy w) x hx
  unfold sysOf at h1
  cases hf : f x with
  | none => rw [hf] at h1; exact ⟨⟨0, 0, 0⟩, h1, fun s' e => by cases e⟩
  | some s => rw [hf] at h1; exact ⟨s, h1, fun s' e => by cases e; rfl⟩
theorem bknew_any (w : World) : Calls Try.prog 20 #[] w fun e w' => e = .returned (.pointer (some ⟨w.heap.size + 1, 0, none⟩)) ∧ Bk (w.heap.size + 1) w.heap.size 0 (fun _ => none) 0 w' ∧ Below w.heap.size w w' := by
  have hmm := @run_makeMap Try.prog
  go_enter Try.func20, Try.ntmps20
  go_wp2_with fail
  go_ret
  have m1 : MapI kS (w.alloc (.map #[] 0)) w.heap.size 0 (fun _ => none) 0 := MapI.made w
  refine ⟨rfl, ⟨?_, ?_, by omega⟩, by (repeat (first | exact Below.refl _ _ | refine Below.alloc ?_ (by first | (simp; done) | (simp; omega) | (simp [size_drewN]; done) | (simp [size_drewN]; omega)) _ | refine Below.drew ?_ | refine below_drewN0 ?_ _ | refine Below.setCell ?_ (by first | (simp; done) | (simp; omega) | (simp [size_drewN]; done) | (simp [size_drewN]; omega)) _))⟩
  · rw [heap_alloc, if_pos (by simp)]
  · exact m1.of_blk (by rw [heap_alloc, if_neg (by simp)])
theorem bklen_any (w : World) (gk gm n : Nat) (f : Int → Option Sy) (sz : Nat) (h : Bk gk gm n f sz w) : Calls Try.prog 26 #[.pointer (some ⟨gk, 0, none⟩)] w fun e w' => e = .returned (.int .i64 sz) ∧ w = w' := by
  have c0 := h.cell
  have hl := h.map.len Try.underlying107
  clear h
  go_enter Try.func26, Try.ntmps26
  go_wp2_with fail
  go_ret
  exact ⟨rfl, rfl⟩
/-- what Put answers, and leaves -/
def PutE (f : Int → Option Sy) (sz : Nat) (x : Int) (s : Sy) (E : Int) (f' : Int → Option Sy) (sz' : Nat) : Prop :=
  (E = 1 ∧ s.R = 0 ∧ f' = f ∧ sz' = sz) ∨ (E = 6 ∧ s.R ≠ 0 ∧ (f x).isSome = false ∧ 32 ≤ sz ∧ f' = f ∧ sz' = sz) ∨ (E = 0 ∧ s.R ≠ 0 ∧ ((f x).isSome = true ∨ sz < 32) ∧ f' = updS f x (some s) ∧ sz' = if (f x).isSome then sz else sz + 1)
set_option maxHeartbeats 4000000 in
theorem bkput_any (w : World) (gk gm n : Nat) (f : Int → Option Sy) (sz : Nat) (x : Int) (s : Sy) (h : Bk gk gm n f sz w) (hx : (Lit.int .u32 x).wf = true) (hs : s.Ok) (hn : n ≤ 1000) :
    Calls Try.prog 25 #[.pointer (some ⟨gk, 0, none⟩), .int .u32 x, .agg #[.int .u64 s.T, .int .u32 s.S, .int .u32 s.R]] w fun e w' => ∃ E f' sz', e = .returned (.int .i64 E) ∧ Bk gk gm (n + 1) f' sz' w' ∧ Keeps gm w w' ∧ PutE f sz x s E f' sz' := by
  obtain ⟨T, S, R⟩ := s
  simp only
  obtain ⟨W0, hW0⟩ : ∃ W0, w.alloc (.cells #[.int .u64 T, .int .u32 S, .int .u32 R] 25) = W0 := ⟨_, rfl⟩
  have b0 : Below w.heap.size w W0 := by rw [← hW0]; exact (Below.refl _ _).alloc (Nat.le_refl _) _
  have h0 := h.keep b0
  have k0 : W0.heap[w.heap.size]? = some (.cells #[.int .u64 T, .int .u32 S, .int .u32 R] 25 (0, 0)) := by rw [← hW0]; exact alloc_blk_new
  have c0 := h0.cell
  obtain ⟨s0, hlk, -⟩ := h0.look x hx
  obtain ⟨th, hth⟩ : ∃ th, (f x).isSome = th := ⟨_, rfl⟩
  have HTH := Lib.hid hth
  rw [hth] at hlk
  obtain ⟨g, hg⟩ : ∃ g, w.heap.size = g := ⟨_, rfl⟩
  have H0 := Lib.hid h0
  have K0 := Lib.hid k0
  have KB : Hid (Keeps gm w W0) := Lib.hid ((Keeps.refl _ _).of_below b0)
  clear h0 k0 h b0
  go_enter Try.func25, Try.ntmps25
  go_upto_region 1 with (fail)
  try rw [hW0]
  try rw [hg]
  rw [hg] at K0
  clear hW0 hg
  go_upto_region 2 with (fail)
  clear hlk c0
  obtain ⟨W1, hW1⟩ : ∃ W1, W0.alloc (.cells #[.int .u64 s0.T, .int .u32 s0.S, .int .u32 s0.R] 25) = W1 := ⟨_, rfl⟩
  rw [hW1]
  have b1 : Below W0.heap.size W0 W1 := by rw [← hW1]; exact (Below.refl _ _).alloc (Nat.le_refl _) _
  have h1 := H0.out.keep b1
  have k1 := Below.blk b1 K0.out (lt_of_block K0.out)
  have t0 : W1.cell? ⟨g, 0, none⟩ = some (.int .u64 T) := cell_blk k1
  have t1 : W1.cell? ⟨g, 1, none⟩ = some (.int .u32 S) := cell_blk k1
  have t2 : W1.cell? ⟨g, 2, none⟩ = some (.int .u32 R) := cell_blk k1
  have c0 := h1.cell
  have hl := h1.map.len Try.underlying107
  have H1 := Lib.hid h1
  have K1 : Hid (Keeps gm w W1) := Lib.hid (KB.out.of_below b1)
  clear hW1 b1 h1 k1
  by_cases hR : R = 0
  · subst hR
    go_wp2_with fail
    go_ret
    exact ⟨1, f, sz, rfl, ⟨H1.out.blk, H1.out.map.mono (by omega), H1.out.ne⟩, K1.out, .inl ⟨rfl, rfl, rfl, rfl⟩⟩
  · have hR1 : (R = 0) = False := eq_false hR
    have hR2 : (R == 0) = false := by simpa using hR
    have HR := Lib.hid hR
    by_cases hfull : th = false ∧ 32 ≤ sz
    · obtain ⟨rfl, h32⟩ := hfull
      have h32i : (32 : Int) ≤ sz := by omega
      clear hR
      go_wp2_with fail
      go_ret
      exact ⟨6, f, sz, rfl, ⟨H1.out.blk, H1.out.map.mono (by omega), H1.out.ne⟩, K1.out, .inr (.inl ⟨rfl, HR.out, HTH.out, h32, rfl, rfl⟩)⟩
    · obtain ⟨W2, hst, hm1, hk1, hs1⟩ := (H1.out.map.of_blk (w' := W1.drew) rfl).store (t := 107) Try.underlying107 (by unfold maxLen; omega) x hx (.agg #[.int .u64 T, .int .u32 S, .int .u32 R])
      have hst' : (Instr.mapUpdate 107 (.map (some gm)) (.int .u32 x) (.agg #[.int .u64 T, .int .u32 S, .int .u32 R])).run Try.prog W1.drew = .ok () W2 := hst
      have e1 := sysOf_upd f x ⟨T, S, R⟩
      have hm1' : MapI kS W2 gm (n + 1) (sysOf (updS f x (some ⟨T, S, R⟩))) (if (f x).isSome then sz else sz + 1) := by
        rw [← e1, ← sysOf_some]
        exact hm1
      have B1 : Hid (Bk gk gm (n + 1) (updS f x (some ⟨T, S, R⟩)) (if (f x).isSome then sz else sz + 1) W2) := Lib.hid ⟨(hk1.block gk (lt_of_block H1.out.blk) H1.out.ne).trans H1.out.blk, hm1', H1.out.ne⟩
      have K2 : Hid (Keeps gm w W2) := Lib.hid (K1.out.drew.trans hk1)
      have HF : Hid ((f x).isSome = true ∨ sz < 32) := Lib.hid (by
        rw [HTH.out]
        cases th
        · right; by_cases h9 : 32 ≤ sz
          · exact absurd ⟨rfl, h9⟩ hfull
          · omega
        · left; rfl)
      clear hst hm1 hk1 hs1 e1 hm1' hR hth
      cases th with
      | true =>
        clear hfull
        go_wp2_with fail
        go_still_tail 6, (by kernel_rfl)
        change wpList _ _ _ _ _ W1.drew
        go_wp2_with fail
        go_ret
        exact ⟨0, _, _, rfl, B1.out, K2.out, .inr (.inr ⟨rfl, HR.out, HF.out, rfl, rfl⟩)⟩
      | false =>
        have h32i : ¬ (32 : Int) ≤ sz := fun h => hfull ⟨rfl, by omega⟩
        clear hfull
        go_wp2_with fail
        go_still_tail 6, (by kernel_rfl)
        change wpList _ _ _ _ _ W1.drew
        go_wp2_with fail
        go_ret
        exact ⟨0, _, _, rfl, B1.out, K2.out, .inr (.inr ⟨rfl, HR.out, HF.out, rfl, rfl⟩)⟩
end Go.Proofs.Ytkdjkaimcciemaa
