/-
  Chapter 44: New, From, Known; Take of its own number.
-/
import Derived.Test.YtkoplofcjbeicaaCoD
import Derived.Carry
namespace Go.Proofs.Ytkoplofcjbeicaa
open Go.RowKit
set_option linter.unusedVariables false
set_option linter.unusedSimpArgs false
attribute [local irreducible] wpStill wpQuiet MixC.wpMix

set_option maxRecDepth 100000 in
set_option maxHeartbeats 4000000 in
theorem take_own (B g ms mc N : Nat) (own kp : Int) (S : Int → Option Value) (ns : Nat) (C : Plc → Option Value) (nc : Nat) (w : World) (h : BK B g ms mc N own kp S ns C nc w) (p : Plc) (tick : Int) (hk : -1000 ≤ tick ∧ tick ≤ 1000) (hf : Fresh kp tick C) (N' : Nat) (C' : Plc → Option Value) (nc' : Nat) (r : Int)
    (hm : ∀ w1, BK B g ms mc N own kp S ns C nc w1 → Calls Try.prog 65 #[.pointer (some ⟨g, 0, none⟩), .agg #[.int .u32 p.1, .int .u16 p.2], .int .i64 tick] w1 (TkP B g ms mc N' own kp S ns C' nc' r w1)) :
    Calls Try.prog 36 #[.pointer (some ⟨g, 0, none⟩), .int .u32 own, .agg #[.int .u32 p.1, .int .u16 p.2], .int .i64 tick] w (TkP B g ms mc N' own kp S ns C' nc' r w) := by
  obtain ⟨f1, f2⟩ := p
  have HF := Lib.hid hf
  have HM := Lib.hid hm
  have t1 : decide (own = own) = true := by simp
  have t1' : (own == own) = true := by simp
  obtain ⟨W, hW⟩ : ∃ W, w.alloc (.cells #[.int .u32 f1, .int .u16 f2] 43) = W := ⟨_, rfl⟩
  have bW : Below w.heap.size w W := by rw [← hW]; exact (Below.refl _ _).alloc (Nat.le_refl _) _
  have hB := h.keep bW
  have HB := Lib.hid hB
  have BW : Hid (Kq ms mc w W) := Lib.hid (Kq.bl bW)
  have cW : W.heap[w.heap.size]? = some (.cells #[.int .u32 f1, .int .u16 f2] 43 (0, 0)) := by rw [← hW]; exact alloc_blk_new
  have CW := Lib.hid cW
  clear h hB bW hf cW hm
  go_enter Try.func36, Try.ntmps36
  go_wp2_with fail
  try rw [hW]
  clear hW
  refine (forget_any B g ms mc N own kp S ns C nc W HB.out tick hk HF.out).mono ?_
  rintro e w2 ⟨rfl, b2⟩
  have H2 := HB.out.keep b2
  have B2 := Lib.hid (BW.out.trans (Kq.bl b2))
  have g2 : w2.heap[w.heap.size]? = some (.cells #[.int .u32 f1, .int .u16 f2] 43 (0, 0)) := Below.blk b2 CW.out (lt_of_block CW.out)
  have c0 : w2.cell? ⟨g, 0, none⟩ = some (.int .u32 own) := cell_blk H2.blk
  have x0 : w2.cell? ⟨w.heap.size, 0, none⟩ = some (.int .u32 f1) := cell_blk g2
  have x1 : w2.cell? ⟨w.heap.size, 1, none⟩ = some (.int .u16 f2) := cell_blk g2
  have HC := Lib.hid (HM.out w2 H2)
  clear H2 g2 b2 HB CW BW HF HM
  go_wp2_with fail
  refine HC.out.mono ?_
  rintro e w3 ⟨rfl, h3, b3⟩
  have H3 := Lib.hid h3
  have B3 := Lib.hid (B2.out.trans b3)
  clear h3 b3
  go_wp2_with fail
  go_ret
  exact ⟨rfl, H3.out, B3.out⟩
theorem known_any (B g ms mc N : Nat) (own kp : Int) (S : Int → Option Value) (ns : Nat) (C : Plc → Option Value) (nc : Nat) (w : World) (h : BK B g ms mc N own kp S ns C nc w) :
    Calls Try.prog 39 #[.pointer (some ⟨g, 0, none⟩)] w fun e w' => e = .returned (.int .i64 ns) ∧ w = w' := by
  have c2 : w.cell? ⟨g, 2, none⟩ = some (.map (some ms)) := cell_blk h.blk
  have hlen := fun ty => h.src.len (t := 112) Try.underlying112 ty
  clear h
  go_enter Try.func39, Try.ntmps39
  go_wp2_with fail
  go_ret
  exact ⟨rfl, rfl⟩
/-- what From hands back -/
def fromV (v : Option Value) : Value := match v with
  | some (.agg #[a, p, t]) => .tuple #[.agg #[a, p], .bool true]
  | _ => .tuple #[.agg #[.int .u32 0, .int .u16 0], .bool false]
set_option maxRecDepth 100000 in
set_option maxHeartbeats 4000000 in
theorem from_any (B g ms mc N : Nat) (own kp : Int) (S : Int → Option Value) (ns : Nat) (C : Plc → Option Value) (nc : Nat) (w : World) (h : BK B g ms mc N own kp S ns C nc w) (s : Int) (hw : (Lit.int .u32 s).wf = true) (hS : S s = none ∨ ∃ p t, S s = some (pv p t)) :
    Calls Try.prog 38 #[.pointer (some ⟨g, 0, none⟩), .int .u32 s] w fun e w' => e = .returned (fromV (S s)) ∧ Below w.heap.size w w' := by
  obtain ⟨a, p, t, b, hlk, he⟩ : ∃ (a p t : Int) (b : Bool), (∀ W, Below w.heap.size w W → (Instr.lookup 112 (.map (some ms)) (.int .u32 s) true).run Try.prog W = .ok (.tuple #[.agg #[.int .u32 a, .int .u16 p, .int .i64 t], .bool b]) W) ∧ fromV (S s) = .tuple #[.agg #[.int .u32 a, .int .u16 p], .bool b] := by
    rcases hS with h0 | ⟨⟨a, p⟩, t, h0⟩
    · refine ⟨0, 0, 0, false, fun W hb => ?_, by rw [h0]; rfl⟩
      have := (h.keep hb).src.look (t := 112) Try.underlying112 (zero_pl W) s hw
      rw [h0] at this
      exact this
    · refine ⟨a, p, t, true, fun W hb => ?_, by rw [h0]; rfl⟩
      have := (h.keep hb).src.look (t := 112) Try.underlying112 (zero_pl W) s hw
      rw [h0] at this
      exact this
  obtain ⟨V, hV⟩ : ∃ V, w.alloc (.cells #[.int .u32 0, .int .u16 0] 43) = V := ⟨_, rfl⟩
  have bV : Below w.heap.size w V := by rw [← hV]; exact (Below.refl _ _).alloc (Nat.le_refl _) _
  have hlv := hlk V bV
  have c2 : V.cell? ⟨g, 2, none⟩ = some (.map (some ms)) := cell_blk (h.keep bV).blk
  rw [he, ← hV] at *
  have BV := Lib.hid bV
  clear h hlk he hS hV bV
  go_enter Try.func38, Try.ntmps38
  go_wp2_with fail
  refine bodyPost_ret (by simp [results, Try.results38, go_sem]; try rfl) rfl ?_
  exact ⟨rfl, ((Below.refl _ _).alloc (Nat.le_refl _) _).alloc (by simp) _⟩
set_option maxRecDepth 100000 in
set_option maxHeartbeats 4000000 in
theorem new_book (own keep kp : Int) (w : World) (hk : (1 ≤ keep ∧ kp = keep) ∨ (keep < 1 ∧ kp = 1)) :
    Calls Try.prog 35 #[.int .u32 own, .int .i64 keep] w fun e w' => e = .returned (.pointer (some ⟨w.heap.size + 1 + 1, 0, none⟩)) ∧ BK w.heap.size (w.heap.size + 1 + 1) w.heap.size (w.heap.size + 1) 0 own kp (fun _ => none) 0 (fun _ => none) 0 w' ∧ Below w.heap.size w w' := by
  have HE : ∀ W, W = ((w.alloc (.map #[] 0)).alloc (.map #[] 0)).alloc (.cells #[.int .u32 own, .int .i64 kp, .map (some w.heap.size), .map (some (w.heap.size + 1))] 115) → BK w.heap.size (w.heap.size + 1 + 1) w.heap.size (w.heap.size + 1) 0 own kp (fun _ => none) 0 (fun _ => none) 0 W ∧ Below w.heap.size w W := by
    rintro W rfl
    have s1 : (w.alloc (.map #[] 0)).heap.size = w.heap.size + 1 := by simp
    have s2 : ((w.alloc (.map #[] 0)).alloc (.map #[] 0)).heap.size = w.heap.size + 1 + 1 := by simp
    have m1 : MapI srcKey.toKeyT (w.alloc (.map #[] 0)) w.heap.size 0 (fun _ => none) 0 := MapI.made w
    have m2 : MapI tupKey.toKeyT ((w.alloc (.map #[] 0)).alloc (.map #[] 0)) (w.heap.size + 1) 0 (fun _ => none) 0 := by
      have := MapI.made (k := tupKey.toKeyT) (w.alloc (.map #[] 0))
      rwa [s1] at this
    have g1 := alloc_blk_new (w := (w.alloc (.map #[] 0)).alloc (.map #[] 0)) (o := .cells #[.int .u32 own, .int .i64 kp, .map (some w.heap.size), .map (some (w.heap.size + 1))] 115)
    rw [s2] at g1
    refine ⟨⟨g1, m1.of_blk ?_, m2.of_blk ?_, by omega, by omega, by omega, by omega, by omega, by omega⟩, (((Below.refl _ _).alloc (Nat.le_refl _) _).alloc (by simp) _).alloc (by simp; omega) _⟩
    · rw [alloc_blk_old (by simp; omega), alloc_blk_old (by simp)]
    · rw [alloc_blk_old (by simp)]
  have H := Lib.hid HE
  have hmm := @run_makeMap Try.prog
  clear HE
  rcases hk with ⟨h1, rfl⟩ | ⟨h1, rfl⟩
  · by_cases h2 : kp = 1
    · subst h2
      go_enter Try.func35, Try.ntmps35
      go_wp2_with fail
      go_ret
      exact ⟨rfl, H.out _ rfl⟩
    · have h3 : ¬ kp ≤ 1 := by omega
      have h4 : ¬ kp < 1 := by omega
      go_enter Try.func35, Try.ntmps35
      go_wp2_with fail
      go_ret
      exact ⟨rfl, H.out _ (by simp [h3, h4] <;> omega)⟩
  · have h3 : keep ≤ 1 := by omega
    go_enter Try.func35, Try.ntmps35
    go_wp2_with fail
    go_ret
    exact ⟨rfl, H.out _ (by simp [h1, h3])⟩
end Go.Proofs.Ytkoplofcjbeicaa
