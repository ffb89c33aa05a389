/-
  Chapter 34: the table of pairs: New, Len, paired, Pair.
-/
import Derived.Test.YtihbceippcgfgaaMapI
import Derived.Test.YtihbceippcgfgaaMixC
import Derived.StillTailTactics
import Derived.Test.YtihbceippcgfgaaProg
namespace Go.Proofs.Ytihbceippcgfgaa
open Go.RowKit
set_option linter.unusedVariables false
set_option linter.unusedSimpArgs false
attribute [local irreducible] wpStill wpQuiet
attribute [local go_sem] MixC.rdOp MixC.rd MixC.rdUpon MixC.mvUpon

def kU32 : KeyT Try.prog 41 Int := intKey Try.underlying41
def pairV (to typ next : Int) : Value := .agg #[.int .u32 to, .int .u8 typ, .int .u16 next]
def pair0 : Value := pairV 0 0 0
theorem zeroPair (u : World) : (zeroValue 136).run Try.prog u = .ok pair0 u := by kernel_rfl
theorem zeroU32 (u : World) : (zeroValue 41).run Try.prog u = .ok (.int .u32 0) u := by kernel_rfl
/-- A table: its block, its two maps. -/
structure Tab (w : World) (g bp bf n : Nat) (F1 F2 : Int → Option Value) (s1 s2 : Nat) : Prop where
  blk : w.heap[g]? = some (.cells #[.map (some bp), .map (some bf)] 133 (0, 0))
  m1 : MapI kU32 w bp n F1 s1
  m2 : MapI kU32 w bf n F2 s2
  n1 : g ≠ bp
  n2 : g ≠ bf
  n3 : bp ≠ bf
theorem Tab.keep {w w' : World} {g bp bf n : Nat} {F1 F2 : Int → Option Value} {s1 s2 : Nat} (h : Tab w g bp bf n F1 F2 s1 s2) (hb : Below w.heap.size w w') : Tab w' g bp bf n F1 F2 s1 s2 :=
  ⟨Below.blk hb h.blk (lt_of_block h.blk), h.m1.of_blk (hb.block _ h.m1.lt), h.m2.of_blk (hb.block _ h.m2.lt), h.n1, h.n2, h.n3⟩
theorem Tab.drewN {w : World} {g bp bf n : Nat} {F1 F2 : Int → Option Value} {s1 s2 : Nat} (h : Tab w g bp bf n F1 F2 s1 s2) (q : Nat) : Tab (w.drewN q) g bp bf n F1 F2 s1 s2 := h.keep ((below_drewN0 (Below.refl _ _) q))
theorem Tab.mono {w : World} {g bp bf n n' : Nat} {F1 F2 : Int → Option Value} {s1 s2 : Nat} (h : Tab w g bp bf n F1 F2 s1 s2) (hn : n ≤ n') : Tab w g bp bf n' F1 F2 s1 s2 := ⟨h.blk, h.m1.mono hn, h.m2.mono hn, h.n1, h.n2, h.n3⟩

theorem Tab.look1 {w : World} {g bp bf n : Nat} {F1 F2 : Int → Option Value} {s1 s2 : Nat} (h : Tab w g bp bf n F1 F2 s1 s2) (x : Int) (hx : (Lit.int .u32 x).wf = true) : (Instr.lookup 130 (.map (some bp)) (.int .u32 x) true).run Try.prog w = .ok (.tuple #[(F1 x).getD pair0, .bool (F1 x).isSome]) w :=
  h.m1.look Try.underlying130 (zeroPair w) x hx
theorem Tab.look2 {w : World} {g bp bf n : Nat} {F1 F2 : Int → Option Value} {s1 s2 : Nat} (h : Tab w g bp bf n F1 F2 s1 s2) (x : Int) (hx : (Lit.int .u32 x).wf = true) : (Instr.lookup 131 (.map (some bf)) (.int .u32 x) true).run Try.prog w = .ok (.tuple #[(F2 x).getD (.int .u32 0), .bool (F2 x).isSome]) w :=
  h.m2.look Try.underlying131 (zeroU32 w) x hx
/-- the pairs of a table, as numbers -/
def pairsOf (f : Int → Option (Int × Int × Int)) : Int → Option Value := fun x => (f x).map fun p => pairV p.1 p.2.1 p.2.2
def firstOf (f : Int → Option Int) : Int → Option Value := fun x => (f x).map fun a => .int .u32 a
theorem tabnew_any (w : World) : Calls Try.prog 31 #[] w fun e w' => e = .returned (.pointer (some ⟨w.heap.size + 1 + 1, 0, none⟩)) ∧ Tab w' (w.heap.size + 1 + 1) w.heap.size (w.heap.size + 1) 0 (fun _ => none) (fun _ => none) 0 0 ∧ Below w.heap.size w w' := by
  have hmm := @run_makeMap Try.prog
  go_enter Try.func31, Try.ntmps31
  go_wp2_with fail
  go_ret
  have m1 : MapI kU32 (w.alloc (.map #[] 0)) w.heap.size 0 (fun _ => none) 0 := MapI.made w
  have m2 : MapI kU32 ((w.alloc (.map #[] 0)).alloc (.map #[] 0)) (w.heap.size + 1) 0 (fun _ => none) 0 := by
    have := MapI.made (k := kU32) (w.alloc (.map #[] 0))
    simpa using this
  refine ⟨rfl, ⟨?_, ?_, ?_, by omega, by omega, by omega⟩, by (repeat (first | exact Below.refl _ _ | refine Below.alloc ?_ (by first | (simp; done) | (simp; omega) | (simp [size_drewN]; done) | (simp [size_drewN]; omega)) _ | refine Below.drew ?_ | refine below_drewN0 ?_ _ | refine Below.setCell ?_ (by first | (simp; done) | (simp; omega) | (simp [size_drewN]; done) | (simp [size_drewN]; omega)) _))⟩
  · rw [heap_alloc, if_pos (by simp)]
  · exact m1.of_blk (by rw [heap_alloc, heap_alloc, if_neg (by simp; omega), if_neg (by simp)])
  · exact m2.of_blk (by rw [heap_alloc, if_neg (by simp)])
theorem tablen_any (w : World) (g bp bf n : Nat) (F1 F2 : Int → Option Value) (s1 s2 : Nat) (h : Tab w g bp bf n F1 F2 s1 s2) : Calls Try.prog 39 #[.pointer (some ⟨g, 0, none⟩)] w fun e w' => e = .returned (.int .i64 s1) ∧ w = w' := by
  have c0 : w.cell? ⟨g, 0, none⟩ = some (.map (some bp)) := cell_blk h.blk
  have hl := h.m1.len Try.underlying130
  clear h
  go_enter Try.func39, Try.ntmps39
  go_wp2_with fail
  go_ret
  exact ⟨rfl, rfl⟩
set_option maxRecDepth 100000 in
theorem paired_any (w : World) (g bp bf n : Nat) (f1 : Int → Option (Int × Int × Int)) (f2 : Int → Option Int) (s1 s2 : Nat) (x : Int) (h : Tab w g bp bf n (pairsOf f1) (firstOf f2) s1 s2) (hx : (Lit.int .u32 x).wf = true) :
    Calls Try.prog 78 #[.pointer (some ⟨g, 0, none⟩), .int .u32 x] w fun e w' => e = .returned (.bool ((f1 x).isSome || (f2 x).isSome)) ∧ Below w.heap.size w w' := by
  have c0 : w.cell? ⟨g, 0, none⟩ = some (.map (some bp)) := cell_blk h.blk
  have l1 : ∃ t1 t2 t3, (Instr.lookup 130 (.map (some bp)) (.int .u32 x) true).run Try.prog w = .ok (.tuple #[.agg #[.int .u32 t1, .int .u8 t2, .int .u16 t3], .bool (f1 x).isSome]) w := by
    have := h.look1 x hx
    unfold pairsOf at this
    cases hf : f1 x with
    | none => rw [hf] at this; exact ⟨0, 0, 0, this⟩
    | some p => rw [hf] at this; exact ⟨_, _, _, this⟩
  obtain ⟨t1, t2, t3, l1⟩ := l1
  have l2 : ∃ t4, ∀ v, (Instr.lookup 131 (.map (some bf)) (.int .u32 x) true).run Try.prog (w.alloc v) = .ok (.tuple #[.int .u32 t4, .bool (f2 x).isSome]) (w.alloc v) := by
    cases hf : f2 x with
    | none => exact ⟨0, fun v => by have := (h.keep ((Below.refl _ w).alloc (Nat.le_refl _) v)).look2 x hx; unfold firstOf at this; rw [hf] at this; exact this⟩
    | some a => exact ⟨a, fun v => by have := (h.keep ((Below.refl _ w).alloc (Nat.le_refl _) v)).look2 x hx; unfold firstOf at this; rw [hf] at this; exact this⟩
  obtain ⟨t4, l2⟩ := l2
  have c1 : ∀ v, (w.alloc v).cell? ⟨g, 1, none⟩ = some (.map (some bf)) := fun v => cell_blk (h.keep ((Below.refl _ w).alloc (Nat.le_refl _) v)).blk
  generalize (f1 x).isSome = b1 at *
  generalize (f2 x).isSome = b2 at *
  clear h
  cases b1
  all_goals
    go_enter Try.func78, Try.ntmps78
    go_wp2_with fail
    go_ret
    exact ⟨rfl, by (repeat (first | exact Below.refl _ _ | refine Below.alloc ?_ (by first | (simp; done) | (simp; omega) | (simp [size_drewN]; done) | (simp [size_drewN]; omega)) _ | refine Below.drew ?_ | refine below_drewN0 ?_ _ | refine Below.setCell ?_ (by first | (simp; done) | (simp; omega) | (simp [size_drewN]; done) | (simp [size_drewN]; omega)) _))⟩
/-- all blocks that were there, but those of the list -/
structure KeepsL (l : List Nat) (w w' : World) : Prop where
  os : w'.os = w.os
  tape : w'.tape = w.tape
  output : w'.output = w.output
  size : w.heap.size ≤ w'.heap.size
  block : ∀ k, k < w.heap.size → k ∉ l → w'.heap[k]? = w.heap[k]?
theorem KeepsL.refl (l : List Nat) (w : World) : KeepsL l w w := ⟨rfl, rfl, rfl, Nat.le_refl _, fun _ _ _ => rfl⟩
theorem KeepsL.trans {l : List Nat} {u v w : World} (h : KeepsL l u v) (k : KeepsL l v w) : KeepsL l u w :=
  ⟨k.os.trans h.os, k.tape.trans h.tape, k.output.trans h.output, Nat.le_trans h.size k.size, fun i hi hb => (k.block i (Nat.lt_of_lt_of_le hi h.size) hb).trans (h.block i hi hb)⟩
theorem KeepsL.of {l : List Nat} {b : Nat} {w w' : World} (h : Keeps b w w') (hb : b ∈ l) : KeepsL l w w' := ⟨h.os, h.tape, h.output, h.size, fun k hk hne => h.block k hk (fun e => hne (e ▸ hb))⟩
theorem KeepsL.of_below {l : List Nat} {w w' : World} (h : Below w.heap.size w w') : KeepsL l w w' := ⟨h.os, h.tape, h.output, h.size, fun k hk _ => h.block k hk⟩
theorem KeepsL.below {l : List Nat} {B : Nat} {w w' : World} (h : KeepsL l w w') (hB : B ≤ w.heap.size) (hl : ∀ b ∈ l, B ≤ b) : Below B w w' := ⟨h.os, h.tape, h.output, h.size, fun k hk => h.block k (by omega) (fun hm => by have := hl k hm; omega)⟩
theorem KeepsL.blk {l : List Nat} {k : Nat} {w w' : World} {o : Obj} (h : KeepsL l w w') (hk : w.heap[k]? = some o) (hn : k ∉ l) : w'.heap[k]? = some o := by rw [h.block k (lt_of_block hk) hn]; exact hk
def updI {α : Type} (f : Int → Option α) (x : Int) (v : Option α) : Int → Option α := fun y => if y = x then v else f y
theorem pairsOf_upd (f : Int → Option (Int × Int × Int)) (x a b c : Int) : setAt (pairsOf f) x (some (pairV a b c)) = pairsOf (updI f x (some (a, b, c))) := by
  funext y; unfold setAt pairsOf updI; split <;> rfl
theorem pairsOf_del (f : Int → Option (Int × Int × Int)) (x : Int) : setAt (pairsOf f) x none = pairsOf (updI f x none) := by
  funext y; unfold setAt pairsOf updI; split <;> rfl
theorem firstOf_upd (f : Int → Option Int) (x a : Int) : setAt (firstOf f) x (some (.int .u32 a)) = firstOf (updI f x (some a)) := by
  funext y; unfold setAt firstOf updI; split <;> rfl
theorem firstOf_del (f : Int → Option Int) (x : Int) : setAt (firstOf f) x none = firstOf (updI f x none) := by
  funext y; unfold setAt firstOf updI; split <;> rfl
theorem pairsOf_some (f : Int → Option (Int × Int × Int)) (x : Int) : (pairsOf f x).isSome = (f x).isSome := by unfold pairsOf; cases f x <;> rfl
theorem firstOf_some (f : Int → Option Int) (x : Int) : (firstOf f x).isSome = (f x).isSome := by unfold firstOf; cases f x <;> rfl

set_option maxRecDepth 100000 in
theorem pair_arg (w : World) (p : Value) (a b typ : Int) (h : a = b ∨ 127 < typ) : Calls Try.prog 32 #[p, .int .u32 a, .int .u32 b, .int .u8 typ] w fun e w' => e = .returned (.int .i64 1) ∧ w = w' := by
  rcases h with rfl | h
  · go_enter Try.func32, Try.ntmps32
    go_wp2_with fail
    go_ret
    exact ⟨rfl, rfl⟩
  · by_cases hab : a = b
    · subst hab
      go_enter Try.func32, Try.ntmps32
      go_wp2_with fail
      go_ret
      exact ⟨rfl, rfl⟩
    · have e1 : (a == b) = false := by simpa using hab
      have e2 : decide (a = b) = false := by simpa using hab
      clear hab
      go_enter Try.func32, Try.ntmps32
      go_wp2_with fail
      go_ret
      exact ⟨rfl, rfl⟩
theorem paired_hid (w : World) (g bp bf n : Nat) (f1 : Int → Option (Int × Int × Int)) (f2 : Int → Option Int) (s1 s2 : Nat) (x : Int) (v : Bool) (h : Tab w g bp bf n (pairsOf f1) (firstOf f2) s1 s2) (hx : (Lit.int .u32 x).wf = true) (hv : ((f1 x).isSome || (f2 x).isSome) = v) :
    Calls Try.prog 78 #[.pointer (some ⟨g, 0, none⟩), .int .u32 x] w fun e w' => e = .returned (.bool v) ∧ Below w.heap.size w w' := by rw [← hv]; exact paired_any w g bp bf n f1 f2 s1 s2 x h hx
set_option maxRecDepth 100000 in
theorem pair_state (w : World) (g bp bf n : Nat) (f1 : Int → Option (Int × Int × Int)) (f2 : Int → Option Int) (s1 s2 : Nat) (a b typ : Int) (h : Tab w g bp bf n (pairsOf f1) (firstOf f2) s1 s2) (ha : (Lit.int .u32 a).wf = true) (hb : (Lit.int .u32 b).wf = true) (hab : a ≠ b) (ht : typ ≤ 127)
    (hs : (((f1 a).isSome || (f2 a).isSome) || ((f1 b).isSome || (f2 b).isSome)) = true) :
    Calls Try.prog 32 #[.pointer (some ⟨g, 0, none⟩), .int .u32 a, .int .u32 b, .int .u8 typ] w fun e w' => e = .returned (.int .i64 10) ∧ Below w.heap.size w w' := by
  have e1 : (a == b) = false := by simpa using hab
  have e2 : decide (a = b) = false := by simpa using hab
  have e3 : decide (127 < typ) = false := by (simp; omega)
  have H := Lib.hid h
  have HA := Lib.hid ha
  have HB := Lib.hid hb
  cases hp : ((f1 a).isSome || (f2 a).isSome) with
  | true =>
    have HP := Lib.hid hp
    clear h hp hs ha hb hab
    go_enter Try.func32, Try.ntmps32
    go_wp2_with fail
    refine (paired_hid w g bp bf n f1 f2 s1 s2 a true H.out HA.out HP.out).mono ?_
    rintro e w1 ⟨rfl, b1⟩
    go_wp2_with fail
    go_ret
    exact ⟨rfl, b1⟩
  | false =>
    rw [hp, Bool.false_or] at hs
    have HP := Lib.hid hp
    have HS := Lib.hid hs
    clear h hp hs ha hb hab
    go_enter Try.func32, Try.ntmps32
    go_wp2_with fail
    refine (paired_hid w g bp bf n f1 f2 s1 s2 a false H.out HA.out HP.out).mono ?_
    rintro e w1 ⟨rfl, b1⟩
    go_wp2_with fail
    refine (paired_hid w1 g bp bf n f1 f2 s1 s2 b true (H.out.keep b1) HB.out HS.out).mono ?_
    rintro e w2 ⟨rfl, b2⟩
    go_wp2_with fail
    go_ret
    exact ⟨rfl, b1.trans (b2.mono b1.size)⟩
set_option maxRecDepth 100000 in
theorem pair_full (w : World) (g bp bf n : Nat) (f1 : Int → Option (Int × Int × Int)) (f2 : Int → Option Int) (s1 s2 : Nat) (a b typ : Int) (h : Tab w g bp bf n (pairsOf f1) (firstOf f2) s1 s2) (ha : (Lit.int .u32 a).wf = true) (hb : (Lit.int .u32 b).wf = true) (hab : a ≠ b) (ht : typ ≤ 127)
    (hp : ((f1 a).isSome || (f2 a).isSome) = false) (hs : ((f1 b).isSome || (f2 b).isSome) = false) (hf : 16 ≤ s1) :
    Calls Try.prog 32 #[.pointer (some ⟨g, 0, none⟩), .int .u32 a, .int .u32 b, .int .u8 typ] w fun e w' => e = .returned (.int .i64 6) ∧ Below w.heap.size w w' := by
  have e1 : (a == b) = false := by simpa using hab
  have e2 : decide (a = b) = false := by simpa using hab
  have e3 : decide (127 < typ) = false := by (simp; omega)
  have e4 : decide ((16 : Int) ≤ s1) = true := by (simp; omega)
  have H := Lib.hid h
  have HA := Lib.hid ha
  have HB := Lib.hid hb
  have HP := Lib.hid hp
  have HS := Lib.hid hs
  clear h hp hs ha hb hab
  go_enter Try.func32, Try.ntmps32
  go_wp2_with fail
  refine (paired_hid w g bp bf n f1 f2 s1 s2 a false H.out HA.out HP.out).mono ?_
  rintro e w1 ⟨rfl, b1⟩
  go_wp2_with fail
  refine (paired_hid w1 g bp bf n f1 f2 s1 s2 b false (H.out.keep b1) HB.out HS.out).mono ?_
  rintro e w2 ⟨rfl, b2⟩
  have hT := (H.out.keep b1).keep b2
  have c0 : w2.cell? ⟨g, 0, none⟩ = some (.map (some bp)) := cell_blk hT.blk
  have hl := hT.m1.len Try.underlying130
  clear hT
  go_wp2_with fail
  go_ret
  exact ⟨rfl, b1.trans (b2.mono b1.size)⟩
end Go.Proofs.Ytihbceippcgfgaa
