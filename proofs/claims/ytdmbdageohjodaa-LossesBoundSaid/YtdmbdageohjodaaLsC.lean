/-
  Chapter 20: a keeper: New, Missing, Came.
-/
import Derived.Test.YtdmbdageohjodaaLsB
namespace Go.Proofs.Ytdmbdageohjodaa
open Go.RowKit
set_option linter.unusedVariables false
set_option linter.unusedSimpArgs false
attribute [local irreducible] wpStill wpQuiet MixC.wpMix MixC.wpPick MixC.wpPickT
attribute [local go_sem] MixC.rdOp MixC.rd MixC.rdUpon MixC.mvUpon

def keepO (pause high : Int) (v : Value) : Obj := .cells #[.int .i64 pause, .int .i64 high, v] 120 (0, 0)
/-- blocks of other types than these stay -/
structure Ty (ts : List TypeId) (w w' : World) : Prop where
  os : w'.os = w.os
  tape : w'.tape = w.tape
  output : w'.output = w.output
  size : w.heap.size ≤ w'.heap.size
  block : ∀ (k : Nat) (o : Obj), w.heap[k]? = some o → (∀ cs T m, o = Obj.cells cs T m → T ∉ ts) → w'.heap[k]? = some o
theorem Ty.refl (ts : List TypeId) (w : World) : Ty ts w w := ⟨rfl, rfl, rfl, Nat.le_refl _, fun k o h _ => h⟩
theorem Ty.trans {ts : List TypeId} {u v w : World} (h : Ty ts u v) (k : Ty ts v w) : Ty ts u w :=
  ⟨k.os.trans h.os, k.tape.trans h.tape, k.output.trans h.output, Nat.le_trans h.size k.size, fun b o hb ho => k.block b o (h.block b o hb ho) ho⟩
theorem Ty.below {ts : List TypeId} {w w' : World} (h : Below w.heap.size w w') : Ty ts w w' := ⟨h.os, h.tape, h.output, h.size, fun k o hk _ => Below.blk h hk (lt_of_block hk)⟩
theorem Ty.but {ts : List TypeId} {T : TypeId} {r : Option Nat} {w w' : World} (h : But r w w') (hr : ∀ k, r = some k → ∃ cs m, w.heap[k]? = some (.cells cs T m)) (hT : T ∈ ts) : Ty ts w w' :=
  ⟨h.os, h.tape, h.output, h.size, fun k o hk ho => h.blk hk (fun e => by
    obtain ⟨cs, m, h1⟩ := hr k e
    rw [h1] at hk
    cases hk
    exact ho cs T m rfl hT)⟩
theorem Ty.set {ts : List TypeId} {T : TypeId} {w : World} {b i : Nat} {cs : Array Value} {m : Nat × Nat} (h : w.heap[b]? = some (.cells cs T m)) (hT : T ∈ ts) (v : Value) : Ty ts w (w.setCell ⟨b, i, none⟩ v) :=
  Ty.but (r := some b) ((But.refl _ w).set i v) (fun k e => by cases e; exact ⟨cs, m, h⟩) hT
theorem Ty.blk {ts : List TypeId} {w w' : World} {k : Nat} {cs : Array Value} {T : TypeId} {m : Nat × Nat} (h : Ty ts w w') (hk : w.heap[k]? = some (.cells cs T m)) (hT : T ∉ ts) : w'.heap[k]? = some (.cells cs T m) := h.block k _ hk (fun cs' T' m' e => by cases e; exact hT)
def kTs : List TypeId := [120, 126, 124]
structure KS (B g : Nat) (pause high : Int) (M : List (Nat × Mis)) (a : Option Addr) (c : Nat) (w : World) : Prop where
  blk : w.heap[g]? = some (keepO pause high (.slice a M.length c))
  row : PR w 124 a M.length c (ptrs M)
  nd : (M.map (·.1)).Nodup
  ms : ∀ x ∈ M, w.heap[x.1]? = some (misO x.2)
  gB : B ≤ g
  rB : ∀ k, blkOf a = some k → B ≤ k
  mB : ∀ x ∈ M, B ≤ x.1
theorem KS.keep {B g : Nat} {pause high : Int} {M : List (Nat × Mis)} {a : Option Addr} {c : Nat} {w w' : World} (h : KS B g pause high M a c w) (hb : Below w.heap.size w w') : KS B g pause high M a c w' :=
  ⟨Below.blk hb h.blk (lt_of_block h.blk), h.row.keep hb, h.nd, fun x hx => Below.blk hb (h.ms x hx) (lt_of_block (h.ms x hx)), h.gB, h.rB, h.mB⟩
theorem KS.lt {B g : Nat} {pause high : Int} {M : List (Nat × Mis)} {a : Option Addr} {c : Nat} {w : World} (h : KS B g pause high M a c w) : g < w.heap.size := lt_of_block h.blk
/-- the row's block is no keeper and no missed one -/
theorem KS.ng {B g : Nat} {pause high : Int} {M : List (Nat × Mis)} {a : Option Addr} {c : Nat} {w : World} (h : KS B g pause high M a c w) : blkOf a ≠ some g := h.row.ofT h.blk (by decide)
theorem KS.nm {B g : Nat} {pause high : Int} {M : List (Nat × Mis)} {a : Option Addr} {c : Nat} {w : World} (h : KS B g pause high M a c w) : ∀ x ∈ M, blkOf a ≠ some x.1 := fun x hx => h.row.ofT (h.ms x hx) (by decide)
theorem KS.gm {B g : Nat} {pause high : Int} {M : List (Nat × Mis)} {a : Option Addr} {c : Nat} {w : World} (h : KS B g pause high M a c w) : ∀ x ∈ M, x.1 ≠ g := fun x hx e => by
  have h1 := h.ms x hx
  rw [e, h.blk] at h1
  injection h1 with h1
  injection h1 with _ h1
  exact absurd h1 (by decide)
/-- other types' turns leave it -/
theorem KS.ty {B g : Nat} {pause high : Int} {M : List (Nat × Mis)} {a : Option Addr} {c : Nat} {w w' : World} {ts : List TypeId} (h : KS B g pause high M a c w) (ht : Ty ts w w') (h1 : 120 ∉ ts) (h2 : 126 ∉ ts) (h3 : 124 ∉ ts) : KS B g pause high M a c w' := by
  refine ⟨ht.blk h.blk h1, ?_, h.nd, fun x hx => ht.blk (h.ms x hx) h2, h.gB, h.rB, h.mB⟩
  obtain ⟨e1, e2, e3, e4⟩ := h.row
  refine ⟨e1, e2, e3, e4.imp id ?_⟩
  rintro ⟨b, off, cs, rfl, e5, e6, e7⟩
  exact ⟨b, off, cs, rfl, ht.blk e5 h3, e6, e7⟩
def isI (i : Int) : Nat × Mis → Bool := fun x => decide (x.2.i = i)
def is3 : Nat × Mis → Bool := fun x => decide (3 ≤ x.2.tr)
set_option maxHeartbeats 1000000 in
theorem came1_any (m : Mis) (b q : Nat) (i : Int) (z : World) (h1 : z.heap[b]? = some (misO m)) (h2 : z.heap[q]? = some (.cells #[.int .i64 i] 2 (0, 0))) :
    Calls Try.prog 66 #[ptr b, .pointer (some ⟨q, 0, none⟩)] z fun e w' => e = .returned (.bool (decide (m.i = i))) ∧ Below z.heap.size z w' := by
  obtain ⟨mi, mt, mn⟩ := m
  have C0 : Hid (Has [(b, misO ⟨mi, mt, mn⟩), (q, .cells #[.int .i64 i] 2 (0, 0))] z.drew) := Lib.hid (fun x hx => by
    rcases List.mem_cons.1 hx with rfl | hx
    · exact h1
    · have : x = _ := List.mem_singleton.1 hx
      subst this; exact h2)
  have hne : Nonempty { w' : World // Has [(b, misO ⟨mi, mt, mn⟩), (q, .cells #[.int .i64 i] 2 (0, 0))] w' } := ⟨⟨_, C0.out⟩⟩
  have o1 : ∀ z : { w' : World // Has [(b, misO ⟨mi, mt, mn⟩), (q, .cells #[.int .i64 i] 2 (0, 0))] w' }, z.1.cell? ⟨b, 0, none⟩ = some (.int .i64 mi) := fun z => cell_blk (z.2 (b, misO ⟨mi, mt, mn⟩) (by simp))
  have o2 : ∀ z : { w' : World // Has [(b, misO ⟨mi, mt, mn⟩), (q, .cells #[.int .i64 i] 2 (0, 0))] w' }, z.1.cell? ⟨q, 0, none⟩ = some (.int .i64 i) := fun z => cell_blk (z.2 (q, .cells #[.int .i64 i] 2 (0, 0)) (by simp))
  have e : Hid ((mi == i) = decide (mi = i)) := Lib.hid (by by_cases h : mi = i <;> simp [h])
  obtain ⟨r, hr⟩ : ∃ r, decide (mi = i) = r := ⟨_, rfl⟩
  show Calls _ _ _ _ fun e w' => e = .returned (.bool (decide (mi = i))) ∧ _
  rw [hr] at e ⊢
  have e1 : (mi == i) = r := e.out
  clear h1 h2 hr
  simp only [ptr]
  go_enter Try.func66, Try.ntmps66
  go_upto_region 1 with (fail)
  refine MixC.wp_region_mix [] (Has [(b, misO ⟨mi, mt, mn⟩), (q, .cells #[.int .i64 i] 2 (0, 0))]) C0.out (by kernel_rfl) (by kernel_rfl) (by kernel_rfl) ?_
  (iterate 7 (refine MixC.mix_read rfl (fun K hK => ?_); go_simp; refine hK _ ?_; clear hK K))
  refine MixC.mix_nil ?_
  clear o1 o2 hne
  go_wp2_with fail
  go_ret
  exact ⟨rfl, (Below.refl _ _).drew⟩
set_option maxHeartbeats 1000000 in
theorem ask1_any (m : Mis) (b : Nat) (z : World) (h1 : z.heap[b]? = some (misO m)) :
    Calls Try.prog 63 #[ptr b] z fun e w' => e = .returned (.bool (decide (3 ≤ m.tr))) ∧ Below z.heap.size z w' := by
  obtain ⟨mi, mt, mn⟩ := m
  have x1 : z.cell? ⟨b, 1, none⟩ = some (.int .i64 mt) := cell_blk h1
  clear h1
  simp only [ptr]
  go_enter Try.func63, Try.ntmps63
  go_wp2_with fail
  go_ret
  exact ⟨rfl, Below.refl _ _⟩
set_option maxHeartbeats 1000000 in
theorem newK_any (B : Nat) (p : Int) (w : World) (hB : B ≤ w.heap.size) : Calls Try.prog 16 #[.int .i64 p] w fun e w' => e = .returned (.pointer (some ⟨w.heap.size, 0, none⟩)) ∧ KS B w.heap.size (max p 1) (-1) [] none 0 w' ∧ Below w.heap.size w w' := by
  by_cases hp : p < 1
  · rw [show max p 1 = 1 by omega]
    go_enter Try.func16, Try.ntmps16
    go_wp2_with fail
    go_ret
    exact ⟨rfl, ⟨alloc_blk_new, PR.nil _ _, List.nodup_nil, fun x hx => (by cases hx), hB, fun k e => (by cases e), fun x hx => (by cases hx)⟩, (Below.refl _ _).alloc (Nat.le_refl _) _⟩
  · rw [show max p 1 = p by omega]
    go_enter Try.func16, Try.ntmps16
    go_wp2_with fail
    go_ret
    exact ⟨rfl, ⟨alloc_blk_new, PR.nil _ _, List.nodup_nil, fun x hx => (by cases hx), hB, fun k e => (by cases e), fun x hx => (by cases hx)⟩, (Below.refl _ _).alloc (Nat.le_refl _) _⟩
set_option maxHeartbeats 1000000 in
theorem miss_nil (w : World) : Calls Try.prog 23 #[.pointer none] w fun e w' => e = .returned (.slice none 0 0) ∧ w = w' := by
  go_enter Try.func23, Try.ntmps23
  go_wp2_with fail
  go_ret
  exact ⟨rfl, rfl⟩
theorem infoI64 : (Try.prog.info? 2).map (fun i => (i.zero, i.size, i.bytes)) = some (some (.int .i64 0), 1, 8) := by kernel_rfl
theorem elI64 : ElemT Try.prog 37 2 1 8 := ElemT.mk' Try.underlying37 infoI64 rfl (by decide)
def i64s (L : List Int) : List Value := L.map fun x => .int .i64 x
def misI (M : List (Nat × Mis)) : List Int := M.map fun x => x.2.i
def MissPost (L : List Int) (w : World) (e : Ending) (w' : World) : Prop := ∃ a c, e = .returned (.slice a L.length c) ∧ w'.ownsRow w.heap.size 2 1 (.slice a L.length c) L.length (i64s L) ∧ Below w.heap.size w w'
set_option maxRecDepth 100000 in
set_option maxHeartbeats 2000000 in
theorem miss_any (B g : Nat) (pause high : Int) (M : List (Nat × Mis)) (a : Option Addr) (c : Nat) (w : World) (h : KS B g pause high M a c w) (hM : M.length ≤ 1000) :
    Calls Try.prog 23 #[.pointer (some ⟨g, 0, none⟩)] w (MissPost (misI M) w) := by
  have x2 : w.cell? ⟨g, 2, none⟩ = some (.slice a M.length c) := cell_blk h.blk
  have H := Lib.hid h
  have hcl := h.row.le
  have hcm := h.row.max
  obtain ⟨N, hN⟩ : ∃ N, M.length = N := ⟨_, rfl⟩
  have HN := Lib.hid hN
  have hL : (misI M).length = N := by unfold misI; rw [List.length_map, hN]
  obtain ⟨L, hLL⟩ : ∃ L, misI M = L := ⟨_, rfl⟩
  have HLL := Lib.hid hLL
  rw [hLL] at hL ⊢
  have HL := Lib.hid hL
  have hpost : MissPost L w = fun e w' => ∃ a c, e = .returned (.slice a N c) ∧ w'.ownsRow w.heap.size 2 1 (.slice a N c) N (i64s L) ∧ Below w.heap.size w w' := by unfold MissPost; rw [hL]
  rw [hN] at x2 hM hcl
  rw [hpost]
  clear h hN hL hLL hpost
  go_enter Try.func23, Try.ntmps23
  go_wp2_with fail
  go_loopw [3, 13] (fun s3 s13 wr => ∃ (k : Nat) (va : Option Addr) (vc : Nat), k ≤ N ∧ s13 = .int .i64 k ∧ s3 = .slice va k vc ∧ Hid (Below w.heap.size w wr) ∧ Hid (wr.ownsRow w.heap.size 2 1 (.slice va k vc) k (i64s (L.take k)))) (fun _ s13 _ => N - (intOf s13).toNat)
  case atStart => exact ⟨0, none, 0, by omega, rfl, rfl, Lib.hid (Below.refl _ _), Lib.hid (World.ownsRow_nil _ _ _ _)⟩
  case round =>
    obtain ⟨k, va, vc, hk, rfl, rfl, HB, HO⟩ := hrel
    clear x2
    by_cases hlt : k < N
    · have hkM : k < M.length := by rw [HN.out]; exact hlt
      obtain ⟨b, off, rfl, hb, hc⟩ := H.out.row.cell (by omega)
      have cz := Below.cell' HB.out hb (hc k _ (ptrs_get hkM))
      have hms := H.out.ms _ (List.getElem_mem hkM)
      have hms' := Below.blk HB.out hms (lt_of_block hms)
      have hlk : L.take (k + 1) = L.take k ++ [(M[k]'hkM).2.i] := by
        rw [List.take_succ_eq_append_getElem (by rw [HL.out]; exact hlt)]
        congr 2
        have := HLL.out
        subst this
        simp [misI]
      obtain ⟨x, hx⟩ : ∃ x, M[k]'hkM = x := ⟨_, rfl⟩
      rw [hx] at cz hms' hlk
      obtain ⟨xb, xi, xt, xn⟩ := x
      simp only [ptr] at cz hlk
      have cy : wr.cell? ⟨xb, 0, none⟩ = some (.int .i64 xi) := cell_blk hms'
      have HLK := Lib.hid hlk
      have hki : (k : Int) < N := by omega
      obtain ⟨a9, c9, V2, A9, B9⟩ := app1 elI64 HO.out [.int .i64 xi] rfl (one_cell rfl) (by omega) (by omega) HB.out.size
      have HA := Lib.hid A9.run
      have O2 : Hid (V2.ownsRow w.heap.size 2 1 (.slice a9 (k + 1) c9) (k + 1) (i64s (L.take (k + 1)))) := Lib.hid (by rw [HLK.out]; unfold i64s; rw [List.map_append]; exact A9.own)
      have B2 := Lib.hid (HB.out.trans B9)
      clear hc hx hms hms' hlk A9 B9
      go_wp2_with (at_builtin; refine wpList_of_append rfl (.tmp 17) (.tmp 22) 37 rfl _ _ _ rfl rfl HA.out ?_)
      go_roundw
      case rel => exact ⟨k + 1, a9, c9, by omega, by go_num, rfl, B2, O2⟩
      case measure => simp [intOf] <;> omega
    · obtain rfl : N = k := by omega
      clear hlt
      go_wp2_with fail
      go_ret
      have e : L.take N = L := by rw [← HL.out, List.take_length]
      exact ⟨va, vc, rfl, by have := HO.out; rwa [e] at this, HB.out⟩
end Go.Proofs.Ytdmbdageohjodaa
