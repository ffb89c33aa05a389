/-
  Chapter 47: Behind, Known.
-/
import Derived.Test.YtihbceippcgfgaaRoB
import Derived.Shelf.Abstract
namespace Go.Proofs.Ytihbceippcgfgaa
open Go.RowKit
set_option linter.unusedVariables false
set_option linter.unusedSimpArgs false
attribute [local irreducible] wpStill wpQuiet MixC.wpMix
attribute [local go_sem] MixC.rdOp MixC.rd MixC.rdUpon MixC.mvUpon
attribute [local go_sem] Oper.semAt_some

theorem OtH.of {B g be ce bs cs : Nat} {rw rc : Nat → Nat} {s : RoS} {w w' : World} (h : RoX B g be ce bs cs rw rc s w) (hb : Below w.heap.size w w') {x c1 c2 : Nat} (hx : x < s.n) {T U : TypeId} (h1 : w'.heap[c1]? = some (.cells #[.pointer (some ⟨g, 0, none⟩)] T (0, 0))) (h2 : w'.heap[c2]? = some (.cells #[.int .i64 x] U (0, 0))) :
    OtH c1 c2 g be ce bs cs (rw x) (rc x) s x w' := by
  have h' := h.keep hb
  exact ⟨cell_blk h1, cell_blk h2, h'.g1, h'.g2, fun j hj => ⟨(h'.e_ hj).1, (h'.e_ hj).2.1⟩, h'.s_ hx, fun j hj => (h'.r_ hx hj).1⟩
theorem OtH.cells {c1 c2 g be ce bs cs rb rc : Nat} {s : RoS} {x : Nat} {w w' : World} (h : OtH c1 c2 g be ce bs cs rb rc s x w) (hk : ∀ b i v, w.cell? ⟨b, i, none⟩ = some v → w'.cell? ⟨b, i, none⟩ = some v) : OtH c1 c2 g be ce bs cs rb rc s x w' :=
  ⟨hk _ _ _ h.c1, hk _ _ _ h.c2, hk _ _ _ h.g1, hk _ _ _ h.g2, fun j hj => ⟨hk _ _ _ (h.e j hj).1, hk _ _ _ (h.e j hj).2⟩, hk _ _ _ h.sl, fun j hj => hk _ _ _ (h.k j hj)⟩
theorem OtH.set {c1 c2 g be ce bs cs rb rc : Nat} {s : RoS} {x : Nat} {w : World} (h : OtH c1 c2 g be ce bs cs rb rc s x w) {b : Nat} (i : Nat) (v : Value) (hb : b ≠ c1 ∧ b ≠ c2 ∧ b ≠ g ∧ b ≠ be ∧ b ≠ bs ∧ b ≠ rb) : OtH c1 c2 g be ce bs cs rb rc s x (w.setCell ⟨b, i, none⟩ v) := by
  obtain ⟨n1, n2, n3, n4, n5, n6⟩ := hb
  have hk : ∀ (k j : Nat) u, k ≠ b → w.cell? ⟨k, j, none⟩ = some u → (w.setCell ⟨b, i, none⟩ v).cell? ⟨k, j, none⟩ = some u := fun k j u hne hc => by
    rw [World.cell?_of_block (w := w) (a := ⟨k, j, none⟩) (set_blk_other (a := ⟨b, i, none⟩) v hne)]; exact hc
  exact ⟨hk _ _ _ (Ne.symm n1) h.c1, hk _ _ _ (Ne.symm n2) h.c2, hk _ _ _ (Ne.symm n3) h.g1, hk _ _ _ (Ne.symm n3) h.g2, fun j hj => ⟨hk _ _ _ (Ne.symm n4) (h.e j hj).1, hk _ _ _ (Ne.symm n4) (h.e j hj).2⟩, hk _ _ _ (Ne.symm n5) h.sl, fun j hj => hk _ _ _ (Ne.symm n6) (h.k j hj)⟩
theorem othL_len (s : RoS) (x : Nat) : (othL s x).length ≤ s.n := by unfold othL; have := List.length_filter_le (dueB s x) (List.range s.n); rw [List.length_range] at this; exact this
set_option maxRecDepth 100000 in
set_option maxHeartbeats 4000000 in
theorem behind_any (B g : Nat) (s : RoS) (w : World) (h : RoM B g s w) (x : Nat) (hx : x < s.n) : Calls Try.prog 45 #[.pointer (some ⟨g, 0, none⟩), .int .i64 x] w fun e w' => e = .returned (.int .i64 (othL s x).length) ∧ Below w.heap.size w w' := by
  obtain ⟨be, ce, bs, cs, rw', rc, hX⟩ := h
  have h : RoM B g s w := ⟨be, ce, bs, cs, rw', rc, hX⟩
  have HX := Lib.hid hX
  have HLT : Hid (g < w.heap.size ∧ be < w.heap.size ∧ bs < w.heap.size ∧ rw' x < w.heap.size) := Lib.hid ⟨lt_of_block hX.blk, lt_of_block hX.eb.choose_spec.1, lt_of_block hX.sb.choose_spec.1, lt_of_block (hX.rb x hx).choose_spec.1⟩
  clear hX
  obtain ⟨W1, hW1⟩ : ∃ W1, w.alloc (.cells #[.int .i64 0] 3) = W1 := ⟨_, rfl⟩
  have b1 : Below w.heap.size w W1 := by rw [← hW1]; exact (Below.refl _ _).alloc (Nat.le_refl _) _
  have HT := Lib.hid (there_any (h.keep b1) x)
  rw [show inN s.n (x : Int) = true by unfold inN; simp; omega] at HT
  have k5 : W1.heap[w.heap.size]? = some (.cells #[.int .i64 0] 3 (0, 0)) := by rw [← hW1]; exact alloc_blk_new
  have K5 := Lib.hid k5
  have S5 : Hid (W1.heap.size = w.heap.size + 1) := Lib.hid (by rw [← hW1]; simp)
  have BW := Lib.hid b1
  have HW := Lib.hid hW1
  obtain ⟨g5, hg5⟩ : ∃ g5, w.heap.size = g5 := ⟨_, rfl⟩
  have HG := Lib.hid hg5
  clear b1 h hW1 k5
  refine calls_of_wp_marks Try.func45 rfl ?_
  simp only [Try.ntmps45, List.size_toArray, List.length_cons, List.length_nil, Nat.reduceAdd, Nat.reduceSub, Array.replicate_succ, Array.replicate_zero, List.push_toArray, List.append_toArray, List.nil_append, List.cons_append]
  go_upto_region 2 with (fail)
  rw [HW.out]
  go_wp2_with fail
  refine HT.out.mono ?_
  rintro e w' ⟨rfl, rfl⟩
  go_wp2_with fail
  refine (others_any g x W1).mono ?_
  rintro e W2 ⟨rfl, q1, q2, b2⟩
  have b12 : Below w.heap.size w W2 := BW.out.trans (b2.mono BW.out.size)
  have o0 := OtH.of HX.out b12 hx q1 q2
  obtain ⟨l1, l2, l3, l4⟩ := HLT.out
  have s5 := S5.out
  have hg5' := HG.out
  have k5 : W2.heap[g5]? = some (.cells #[.int .i64 0] 3 (0, 0)) := Below.blk b2 (by rw [← hg5']; exact K5.out) (by omega)
  have hap : g5 ≠ W1.heap.size ∧ g5 ≠ W1.heap.size + 1 ∧ g5 ≠ g ∧ g5 ≠ be ∧ g5 ≠ bs ∧ g5 ≠ rw' x := by omega
  have hseq := others_seq (W1.heap.size) (W1.heap.size + 1) g be ce bs cs (rw' x) (rc x) s x W2 o0 hx ⟨HX.out.cap.1, HX.out.cap.2.1, HX.out.cap.2.2 x⟩ HX.out.n16.2
  have h5w : w.heap.size ≤ g5 := by omega
  have hww : w.heap.size ≤ W2.heap.size := b12.size
  have hn := HX.out.n16.2
  clear s5 hg5'
  go_wp2_with fail
  refine wp_rangeFunc_w (gf := 107) (lb := #[.pointer (some ⟨W1.heap.size, 0, none⟩), .pointer (some ⟨W1.heap.size + 1, 0, none⟩)]) rfl (enters_of Try.func107 (by kernel_rfl) rfl) hseq (fun x => rfl) (fun k e => by cases e)
    (fun pre W => W.heap[g5]? = some (.cells #[.int .i64 pre.length] 3 (0, 0)) ∧ OtH W1.heap.size (W1.heap.size + 1) g be ce bs cs (rw' x) (rc x) s x W ∧ Below w.heap.size w W) (fun c _ W => False)
    (fun q A W ⟨i1, i2, i3⟩ hb => ⟨hb.blk i1 (fun e => by cases e), i2.keep hb.all, i3.trans (hb.all.mono i3.size)⟩) (fun c q A W h hb => h)
    (fun W hW => ⟨Below.blk hW k5 (lt_of_block k5), o0.keep hW, b12.trans (hW.mono hww)⟩) ?round ?done ?stop
  case round =>
    rintro l pre o W0 W hl ⟨i1, i2, i3⟩ hbut ⟨⟨suf, hsuf⟩, hbw⟩
    have j1 := Below.blk hbw i1 (lt_of_block i1)
    have j2 := i2.keep hbw
    have j3 := i3.trans (hbw.mono i3.size)
    have hlen : pre.length < s.n := by have := othL_len s x; rw [hsuf] at this; simp at this; omega
    simp only [oEnc]
    clear i1 i2 i3 hbut hsuf hbw hseq
    gi_wp2_with fail
    refine ⟨KeepsOthers.refl _, fun W3 ht => ?_⟩
    have m1 := ht.blk j1 rfl
    have m2 : OtH W1.heap.size (W1.heap.size + 1) g be ce bs cs (rw' x) (rc x) s x W3 := j2.cells (fun b i v hc => ht.cell hc)
    have m3 := ht.below j3 hww
    have M1 := Lib.hid m1
    have M2 := Lib.hid m2
    have M3 := Lib.hid m3
    have y0 : W3.cell? ⟨g5, 0, none⟩ = some (.int .i64 pre.length) := cell_blk m1
    have y1 : W3.frozen? ⟨g5, 0, none⟩ = false := free_blk m1
    have y2 : IntKind.i64.wrap ((pre.length : Int) + 1) = (pre.length : Int) + 1 := IntWalk.i64_in _ (by omega)
    clear j1 j2 j3 m1 m2 m3 ht
    gi_wp2_with fail
    refine ⟨KeepsOthers.setCell _ _ _, fun W4 ht => ?_⟩
    have n1 : (W3.setCell ⟨g5, 0, none⟩ (.int .i64 ((pre.length : Int) + 1))).heap[g5]? = some (.cells #[.int .i64 ((pre.length : Int) + 1)] 3 (0, 0)) := by rw [set_blk _ M1.out]; rfl
    have n2 := M2.out.set 0 (.int .i64 ((pre.length : Int) + 1)) hap
    have n3 : Below w.heap.size w (W3.setCell ⟨g5, 0, none⟩ (.int .i64 ((pre.length : Int) + 1))) := M3.out.setCell (p := ⟨g5, 0, none⟩) h5w _
    have p2 : OtH W1.heap.size (W1.heap.size + 1) g be ce bs cs (rw' x) (rc x) s x W4 := n2.cells (fun b i v hc => ht.cell hc)
    refine ⟨p2, ?_, p2, ht.below n3 hww⟩
    rw [List.length_append]
    exact ht.blk n1 rfl
  case done =>
    rintro D xs W W' hD rfl ⟨i1, i2, i3⟩ ht hDd
    have m1 := ht.blk i1 rfl
    have m3 := ht.below i3 hww
    have y0 : W'.cell? ⟨g5, 0, none⟩ = some (.int .i64 (othL s x).length) := cell_blk m1
    have M3 := Lib.hid m3
    clear i1 i2 i3 ht m1 m3 hseq
    go_wp2_with fail
    refine leaves_mark hDd (v := .int .i64 (othL s x).length) (by simp [results, Try.results45, go_sem]) ⟨rfl, ?_⟩
    exact (Turned.put (.deferred none) hD hDd rfl).below M3.out hww
  case stop =>
    rintro D c pre W W' hD _ h _ _
    exact h.elim
/-- what Known makes -/
def knownF (s : RoS) (x o : Nat) (v : Int) : RoS := { s with kn := upd2 s.kn x o v }
set_option maxRecDepth 100000 in
set_option maxHeartbeats 2000000 in
theorem known_any (B g : Nat) (s : RoS) (w : World) (h : RoM B g s w) (x o : Nat) (v : Int) (hx : x < s.n) (ho : o < s.n) (hne : x ≠ o) (h1 : s.kn x o < v) (h2 : v ≤ s.ve o) : Calls Try.prog 44 #[.pointer (some ⟨g, 0, none⟩), .int .i64 x, .int .i64 o, .int .i64 v] w fun e w' => e = .returned (.int .i64 0) ∧ RoM B g (knownF s x o v) w' ∧ Below B w w' ∧ (∀ (k : Nat) c U m, w.heap[k]? = some (.cells c U m) → U ≠ 154 → w'.heap[k]? = some (.cells c U m)) := by
  have HT1 := Lib.hid (there_any h x)
  rw [show inN s.n (x : Int) = true by unfold inN; simp; omega] at HT1
  have HT2 := Lib.hid (there_any h o)
  rw [show inN s.n (o : Int) = true by unfold inN; simp; omega] at HT2
  obtain ⟨be, ce, bs, cs, rw', rc, hX⟩ := h
  have y1 := hX.g1
  have y2 := hX.g2
  have y3 := hX.s_ hx
  have y4 := (hX.r_ hx ho).1
  have y5 := (hX.e_ ho).1
  have z1 := (hX.r_ hx ho).2.2.2 (o * 3)
  have c1 := hX.cap.1
  have c2 := hX.cap.2.1
  have c3 := hX.cap.2.2 x
  have rB := hX.rB x hx
  have X2 := hX.setR hx ho 0 (by omega) v (s' := knownF s x o v) ⟨rfl, rfl, rfl, rfl⟩ (by rw [if_pos rfl]; rfl) (by rw [if_neg (by omega)]; rfl) (by rw [if_neg (by omega)]; rfl)
  rw [Nat.add_zero] at X2
  have HX2 := Lib.hid X2
  have BX : Below B w (w.setCell ⟨rw' x, o * 3, none⟩ (.int .i64 v)) := (Below.refl B w).setCell (p := ⟨rw' x, o * 3, none⟩) rB _
  have HBX := Lib.hid BX
  have HTY : Hid (∀ (k : Nat) c U m, w.heap[k]? = some (.cells c U m) → U ≠ 154 → (w.setCell ⟨rw' x, o * 3, none⟩ (.int .i64 v)).heap[k]? = some (.cells c U m)) := Lib.hid (fun k c U m hk hU => by
    obtain ⟨c7, e7, -⟩ := hX.rb x hx
    exact (set_blk_other _ (blk_type hk e7 hU)).trans hk)
  obtain ⟨n, hn⟩ : ∃ n, s.n = n := ⟨_, rfl⟩
  rw [hn] at hx ho y1 y2 y3 c1 c2 c3
  obtain ⟨kn, hkn⟩ : ∃ k, s.kn x o = k := ⟨_, rfl⟩
  rw [hkn] at h1 y4
  obtain ⟨ve, hve⟩ : ∃ k, s.ve o = k := ⟨_, rfl⟩
  rw [hve] at h2 y5
  obtain ⟨r, hr⟩ : ∃ r, rw' x = r := ⟨_, rfl⟩
  rw [hr] at y3 y4 z1 HX2 HBX HTY
  obtain ⟨rcx, hrc⟩ : ∃ r, rc x = r := ⟨_, rfl⟩
  rw [hrc] at y3 c3
  have hxi : (x : Int) < n := by omega
  have hoi : (o : Int) < n := by omega
  have hxo : ((x : Int) = (o : Int)) = False := eq_false (by omega)
  have hxo2 : ((x : Int) == (o : Int)) = false := by simp; omega
  have t1 : ¬ v ≤ kn := by omega
  have t2 : ¬ ve < v := by omega
  clear hX X2 BX hn hkn hve hr hrc hne rB h1
  go_enter Try.func44, Try.ntmps44
  go_wp2_with fail
  refine HT1.out.mono ?_
  rintro e w' ⟨rfl, rfl⟩
  go_wp2_with fail
  refine HT2.out.mono ?_
  rintro e w' ⟨rfl, rfl⟩
  go_wp2_with fail
  go_ret
  exact ⟨rfl, ⟨be, ce, bs, cs, rw', rc, HX2.out⟩, HBX.out, HTY.out⟩
end Go.Proofs.Ytihbceippcgfgaa
