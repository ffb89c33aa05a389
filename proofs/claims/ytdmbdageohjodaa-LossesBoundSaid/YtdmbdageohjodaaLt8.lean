/-
  Chapter 20: both keepers in one state; their methods' contracts over it.
-/
import Derived.Test.YtdmbdageohjodaaLt5
import Derived.Test.YtdmbdageohjodaaLt7
import Derived.Test.YtdmbdageohjodaaLsK
namespace Go.Proofs.Ytdmbdageohjodaa
open Go.RowKit
set_option linter.unusedVariables false
set_option linter.unusedSimpArgs false

/-- blocks that are cells of none of these types stay -/
def Cy (ts : List TypeId) (w w' : World) : Prop := ∀ (k : Nat) o, w.heap[k]? = some o → o.isCells = true → (∀ cs T m, o = Obj.cells cs T m → T ∉ ts) → w'.heap[k]? = some o
theorem Cy.own {ts : List TypeId} {w w' : World} {base : Nat} {e : TypeId} {size : Nat} {v : Value} {n : Nat} {xs : List Value} (h : Cy ts w w') (ho : w.ownsRow base e size v n xs) (he : e ∉ ts) : w'.ownsRow base e size v n xs := by
  obtain ⟨h1, h2⟩ := ho
  refine ⟨h1, ?_⟩
  rcases h2 with h2 | ⟨g, cap, cur, hv, hg, hh, r'⟩
  · exact .inl h2
  · exact .inr ⟨g, cap, cur, hv, hg, h _ _ hh rfl (fun cs T m e2 => by cases e2; exact he), r'⟩
theorem RK.cy {B g : Nat} {pause high : Int} {L : List Mis} {w w' : World} {ts : List TypeId} (h : RK B g pause high L w) (hb : Cy ts w w') (t1 : 41 ∉ ts) (t2 : 2 ∉ ts) (t3 : 3 ∉ ts) : RK B g pause high L w' := by
  obtain ⟨h1, aI, cI, aN, cN, aT, cT, h2, h3⟩ := h
  exact ⟨h1, aI, cI, aN, cN, aT, cT, hb _ _ h2 rfl (fun cs T m e2 => by unfold rkO at e2; cases e2; exact t1), hb.own h3.hI t2, hb.own h3.hN t2, hb.own h3.hT t3, h3.ap⟩

structure RP (gk gr : Nat) (pause h1 : Int) (L1 : List Mis) (h2 : Int) (L2 : List Mis) (w V : World) : Prop where
  bl : Below w.heap.size w V
  ks : ∃ M a c, KS w.heap.size gk pause h1 M a c V ∧ ofM M = L1
  rk : RK w.heap.size gr pause h2 L2 V
  p1 : PI h1 L1
  p2 : PI h2 L2
  pa : 1 ≤ pause ∧ pause ≤ 1000000000
theorem RP.keep {gk gr : Nat} {pause h1 h2 : Int} {L1 L2 : List Mis} {w V V' : World} (h : RP gk gr pause h1 L1 h2 L2 w V) (hb : Below V.heap.size V V') : RP gk gr pause h1 L1 h2 L2 w V' := by
  obtain ⟨M, a, c, k1, k2⟩ := h.ks
  exact ⟨h.bl.trans (hb.mono h.bl.size), ⟨M, a, c, k1.keep hb, k2⟩, h.rk.keep hb, h.p1, h.p2, h.pa⟩
theorem RP.came1 {gk gr : Nat} {pause h1 h2 : Int} {L1 L2 : List Mis} {w V : World} (h : RP gk gr pause h1 L1 h2 L2 w V) (i tick : Int) (hi : i ≤ 4611686018427387904) :
    Calls Try.prog 21 #[.pointer (some ⟨gk, 0, none⟩), .int .i64 i, .int .i64 tick] V fun e V' => e = .returned (.tuple #[]) ∧ RP gk gr pause (cameH h1 i) (cameM h1 i tick L1) h2 L2 w V' := by
  obtain ⟨M, a, c, k1, k2⟩ := h.ks
  refine (came_any w.heap.size gk pause h1 i tick M a c V k1 h.bl.size h.p1.hh.1 h.p1.hh.2 hi (by rw [ofM_len k2]; have := h.p1.len; omega)).mono ?_
  rintro e V' ⟨rfl, ⟨M', a', c', m1, m2⟩, b, t⟩
  rw [k2] at m2
  exact ⟨rfl, h.bl.trans b, ⟨M', a', c', m1, m2⟩, h.rk.ty t (by decide) (by decide) (by decide), h.p1.came hi, h.p2, h.pa⟩
theorem RP.came2 {gk gr : Nat} {pause h1 h2 : Int} {L1 L2 : List Mis} {w V : World} (h : RP gk gr pause h1 L1 h2 L2 w V) (i tick : Int) (hi : i ≤ 4611686018427387904) :
    Calls Try.prog 22 #[.pointer (some ⟨gr, 0, none⟩), .int .i64 i, .int .i64 tick] V fun e V' => e = .returned (.tuple #[]) ∧ RP gk gr pause h1 L1 (cameH h2 i) (cameM h2 i tick L2) w V' := by
  obtain ⟨M, a, c, k1, k2⟩ := h.ks
  refine (rcame_any w.heap.size gr pause h2 i tick L2 V h.rk h.bl.size (by have := h.p2.len; omega) h.p2.hh.1 h.p2.hh.2 hi h.p2.nd).mono ?_
  rintro e V' ⟨rfl, r, b, t⟩
  exact ⟨rfl, h.bl.trans b, ⟨M, a, c, k1.ty t (by decide) (by decide) (by decide), k2⟩, r, h.p1, h.p2.came hi, h.pa⟩
/-- what an Ask hands over -/
def Asked (O : List (Int × Int)) (v : Value) (V : World) : Prop := ∃ a c, v = .slice a O.length c ∧ V.ownsRow 0 35 2 (.slice a O.length c) O.length (lossV O)
theorem PI.mis {h1 : Int} {L : List Mis} (h : PI h1 L) : ∀ x ∈ L, (-9223372036854775808 ≤ x.i ∧ x.i ≤ 9223372036854775807) ∧ 0 ≤ x.tr ∧ x.tr ≤ 100 := fun x hx => by
  obtain ⟨a, b, c, d⟩ := h.el x hx
  have := h.hh
  omega
theorem RP.ask1 {gk gr : Nat} {pause h1 h2 : Int} {L1 L2 : List Mis} {w V : World} (h : RP gk gr pause h1 L1 h2 L2 w V) (tick : Int) (ht : -4611686018427387904 ≤ tick ∧ tick ≤ 4611686018427387904) :
    Calls Try.prog 19 #[.pointer (some ⟨gk, 0, none⟩), .int .i64 tick] V fun e V' => ∃ v, e = .returned v ∧ Asked (askO tick pause L1) v V' ∧ RP gk gr pause h1 (askK tick pause L1) h2 L2 w V' := by
  obtain ⟨M, a, c, k1, k2⟩ := h.ks
  refine (ask_any w.heap.size gk pause h1 tick M a c V k1 h.bl.size (by rw [ofM_len k2]; have := h.p1.len; omega) (ofM_mem k2 h.p1.mis) h.pa ht).mono ?_
  rintro e V' ⟨va, vc, M', a', c', rfl, o, m1, m2, b, t⟩
  rw [k2] at m2 o
  rw [k2]
  have t' : Cy aTs V V' := t
  exact ⟨_, rfl, ⟨va, vc, rfl, o⟩, h.bl.trans b, ⟨M', a', c', m1, m2⟩, h.rk.cy t' (by decide) (by decide) (by decide), h.p1.ask, h.p2, h.pa⟩
theorem RP.ask2 {gk gr : Nat} {pause h1 h2 : Int} {L1 L2 : List Mis} {w V : World} (h : RP gk gr pause h1 L1 h2 L2 w V) (tick : Int) (ht : -4611686018427387904 ≤ tick ∧ tick ≤ 4611686018427387904) :
    Calls Try.prog 20 #[.pointer (some ⟨gr, 0, none⟩), .int .i64 tick] V fun e V' => (∃ v, e = .returned v ∧ Asked (askO tick pause L2) v V') ∧ (∀ O x, Asked O x V → Asked O x V') ∧ RP gk gr pause h1 L1 h2 (askK tick pause L2) w V' := by
  obtain ⟨M, a, c, k1, k2⟩ := h.ks
  refine (rask_any w.heap.size gr pause h2 tick L2 V h.rk h.bl.size (by have := h.p2.len; omega) h.p2.mis h.pa ht).mono ?_
  rintro e V' ⟨a', c', rfl, o, r, b, t⟩
  refine ⟨⟨_, rfl, a', c', rfl, World.ownsRow.mono o (Nat.zero_le _)⟩, ?_, h.bl.trans b, ⟨M, a, c, k1.ty t (by decide) (by decide) (by decide), k2⟩, r, h.p1, h.p2.ask, h.pa⟩
  rintro O x ⟨xa, xc, rfl, xo⟩
  exact ⟨xa, xc, rfl, t.own xo (by decide)⟩
theorem RP.miss {gk gr : Nat} {pause h1 h2 : Int} {L1 L2 : List Mis} {w V : World} (h : RP gk gr pause h1 L1 h2 L2 w V) :
    Calls Try.prog 23 #[.pointer (some ⟨gk, 0, none⟩)] V fun e V' => (∃ a c, e = .returned (.slice a L1.length c) ∧ V'.ownsRow 0 2 1 (.slice a L1.length c) L1.length (i64s (L1.map (·.i)))) ∧ RP gk gr pause h1 L1 h2 L2 w V' := by
  obtain ⟨M, a, c, k1, k2⟩ := h.ks
  refine (miss_any w.heap.size gk pause h1 M a c V k1 (by rw [ofM_len k2]; have := h.p1.len; omega)).mono ?_
  rintro e V' ⟨a', c', rfl, o, b⟩
  rw [misI_of k2, List.length_map] at o
  rw [misI_of k2, List.length_map]
  exact ⟨⟨a', c', rfl, World.ownsRow.mono o (Nat.zero_le _)⟩, h.keep b⟩
theorem RP.start {pause : Int} {w V : World} (hw : Below w.heap.size w V) (hp : pause ≤ 1000000000) :
    Calls Try.prog 16 #[.int .i64 pause] V fun e V' => e = .returned (.pointer (some ⟨V.heap.size, 0, none⟩)) ∧ Below w.heap.size w V' ∧
      Calls Try.prog 17 #[.int .i64 pause] V' fun e V'' => e = .returned (.pointer (some ⟨V'.heap.size, 0, none⟩)) ∧ RP V.heap.size V'.heap.size (max pause 1) (-1) [] (-1) [] w V'' := by
  refine (newK_any w.heap.size pause V hw.size).mono ?_
  rintro e V' ⟨rfl, k, b⟩
  have hb := hw.trans (b.mono hw.size)
  refine ⟨rfl, hb, (rnew_any w.heap.size pause V' hb.size).mono ?_⟩
  rintro e V'' ⟨rfl, r, b2⟩
  exact ⟨rfl, hb.trans (b2.mono hb.size), ⟨[], none, 0, k.keep b2, rfl⟩, r, PI.start, PI.start, by omega⟩
end Go.Proofs.Ytdmbdageohjodaa
