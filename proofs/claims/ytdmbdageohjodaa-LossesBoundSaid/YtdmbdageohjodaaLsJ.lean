/-
  Chapter 20: Ask.
-/
import Derived.Test.YtdmbdageohjodaaLsI
import Derived.Shelf.Abstract
namespace Go.Proofs.Ytdmbdageohjodaa
open Go.RowKit
set_option linter.unusedVariables false
set_option linter.unusedSimpArgs false
attribute [local irreducible] wpStill wpQuiet MixC.wpMix MixC.wpPick MixC.wpPickT
attribute [local go_sem] MixC.rdOp MixC.rd MixC.rdUpon MixC.mvUpon
attribute [local go_sem] Oper.semAt_some

def aTs : List TypeId := [120, 126, 124, 31, 33]
theorem Ty.mono {ts us : List TypeId} {w w' : World} (h : Ty ts w w') (hs : ∀ T, T ∈ ts → T ∈ us) : Ty us w w' := ⟨h.os, h.tape, h.output, h.size, fun k o hk ho => h.block k o hk (fun cs T m e hT => ho cs T m e (hs T hT))⟩
theorem Ty.own {ts : List TypeId} {w w' : World} {base : Nat} {e : TypeId} {size : Nat} {v : Value} {n : Nat} {xs : List Value} (h : Ty ts w w') (ho : w.ownsRow base e size v n xs) (he : e ∉ ts) : w'.ownsRow base e size v n xs := by
  obtain ⟨h1, h2⟩ := ho
  refine ⟨h1, ?_⟩
  rcases h2 with h2 | ⟨g, cap, cur, hv, hg, hh, r'⟩
  · exact .inl h2
  · exact .inr ⟨g, cap, cur, hv, hg, h.blk hh he, r'⟩
theorem KS.turned {B B' g : Nat} {pause high : Int} {M : List (Nat × Mis)} {a : Option Addr} {c : Nat} {w w' : World} (h : KS B g pause high M a c w) (ht : Turned B' w w') : KS B g pause high M a c w' := by
  refine ⟨ht.blk h.blk rfl, ?_, h.nd, fun x hx => ht.blk (h.ms x hx) rfl, h.gB, h.rB, h.mB⟩
  obtain ⟨e1, e2, e3, e4⟩ := h.row
  refine ⟨e1, e2, e3, e4.imp id ?_⟩
  rintro ⟨b, off, cs, rfl, e5, e6, e7⟩
  exact ⟨b, off, cs, rfl, ht.blk e5 rfl, e6, e7⟩
/-- between two rounds -/
structure AsI (B g kb tb ob : Nat) (pause high tick : Int) (M : List (Nat × Mis)) (a : Option Addr) (c : Nat) (D : List (Nat × Mis)) (va : Option Addr) (vn vc : Nat) (w W : World) : Prop where
  ks : KS B g pause high (curL tick pause D M) a c W
  kbx : W.heap[kb]? = some (.cells #[.pointer (some ⟨g, 0, none⟩)] 24 (0, 0))
  tbx : W.heap[tb]? = some (.cells #[.int .i64 tick] 2 (0, 0))
  out : W.heap[ob]? = some (.cells #[.slice va vn vc] 31 (0, 0))
  ve : vn = (lossL (seqsOf D)).length
  own : W.ownsRow 0 35 2 (.slice va vn vc) vn (lossV (lossL (seqsOf D)))
  bl : Below B w W
  sz : w.heap.size ≤ W.heap.size
  ty : ∀ (k : Nat) o, w.heap[k]? = some o → o.isCells = true → (∀ cs T m, o = Obj.cells cs T m → T ∉ aTs) → W.heap[k]? = some o
theorem AsI.fr {B g kb tb ob b0 : Nat} {pause high tick : Int} {M : List (Nat × Mis)} {a : Option Addr} {c : Nat} {D : List (Nat × Mis)} {va : Option Addr} {vn vc : Nat} {w A W : World} (h : AsI B g kb tb ob pause high tick M a c D va vn vc w A) (hf : Ty fTs A W ∧ Below b0 A W) (hb : B ≤ b0) : AsI B g kb tb ob pause high tick M a c D va vn vc w W :=
  ⟨h.ks.ty hf.1 (by decide) (by decide) (by decide), hf.1.blk h.kbx (by decide), hf.1.blk h.tbx (by decide), hf.1.blk h.out (by decide), h.ve, hf.1.own h.own (by decide), h.bl.trans (hf.2.mono hb), Nat.le_trans h.sz hf.1.size, fun k o hk hc ho => hf.1.block k o (h.ty k o hk hc ho) (fun cs T m e hT => ho cs T m e (by
    have : T = 33 := by simpa [fTs] using hT
    subst this; decide))⟩
theorem AsI.turned {B B' g kb tb ob : Nat} {pause high tick : Int} {M : List (Nat × Mis)} {a : Option Addr} {c : Nat} {D : List (Nat × Mis)} {va : Option Addr} {vn vc : Nat} {w A W : World} (h : AsI B g kb tb ob pause high tick M a c D va vn vc w A) (ht : Turned B' A W) (hb : B ≤ B') : AsI B g kb tb ob pause high tick M a c D va vn vc w W :=
  ⟨h.ks.turned ht, ht.blk h.kbx rfl, ht.blk h.tbx rfl, ht.blk h.out rfl, h.ve, ht.own h.own, ht.below h.bl hb, by rw [ht.size]; exact h.sz, fun k o hk hc ho => ht.blk (h.ty k o hk hc ho) hc⟩
theorem AsI.below {B g kb tb ob : Nat} {pause high tick : Int} {M : List (Nat × Mis)} {a : Option Addr} {c : Nat} {D : List (Nat × Mis)} {va : Option Addr} {vn vc : Nat} {w A W : World} (h : AsI B g kb tb ob pause high tick M a c D va vn vc w A) (hb : Below A.heap.size A W) (hB : B ≤ w.heap.size) : AsI B g kb tb ob pause high tick M a c D va vn vc w W :=
  h.fr (b0 := A.heap.size) ⟨Ty.below hb, hb⟩ (Nat.le_trans hB h.sz)
theorem mem_cur {tick pause : Int} {D M : List (Nat × Mis)} {y : Nat × Mis} (h : y ∈ curL tick pause D M) : ∃ x ∈ M, y = (x.1, if x.1 ∈ D.map (·.1) then upM tick pause x.2 else x.2) := by
  obtain ⟨x, hx, e⟩ := List.mem_map.1 h
  exact ⟨x, hx, e.symm⟩
theorem cur_ptrs (tick pause : Int) (D M : List (Nat × Mis)) : ptrs (curL tick pause D M) = ptrs M := by
  unfold ptrs curL
  rw [List.map_map]
  rfl
/-- one's turn -/
theorem KS.turn {B g : Nat} {pause high tick p2 : Int} {M D : List (Nat × Mis)} {a : Option Addr} {c : Nat} {W X : World} {x : Nat × Mis} (h : KS B g pause high (curL tick p2 D M) a c W) (hx : x ∈ M) (hnd : (M.map (·.1)).Nodup) (hb : But (some x.1) W X) (hX : X.heap[x.1]? = some (misO (upM tick p2 x.2))) :
    KS B g pause high (curL tick p2 (D ++ [x]) M) a c X := by
  have hcx : ∃ y ∈ curL tick p2 D M, y.1 = x.1 := ⟨_, List.mem_map.2 ⟨x, hx, rfl⟩, rfl⟩
  obtain ⟨y, hy, hyx⟩ := hcx
  have hg : some x.1 ≠ some g := fun e => h.gm y hy (by rw [hyx]; injection e)
  have hl : (curL tick p2 (D ++ [x]) M).length = (curL tick p2 D M).length := by rw [cur_len, cur_len]
  refine ⟨by rw [hl]; exact hb.blk h.blk hg, ?_, by rw [cur_blocks]; exact hnd, fun z hz => ?_, h.gB, h.rB, fun z hz => ?_⟩
  · rw [hl, cur_ptrs]
    have := h.row
    rw [cur_ptrs] at this
    exact this.but hb (fun k hk e => h.nm y hy (by rw [hk, hyx]; exact e.symm))
  · obtain ⟨v, hv, rfl⟩ := mem_cur hz
    by_cases e : v.1 = x.1
    · have hvx : v = x := by
        obtain ⟨i, hi, e1⟩ := List.mem_iff_getElem.1 hv
        obtain ⟨j, hj, e2⟩ := List.mem_iff_getElem.1 hx
        have : (M.map (·.1))[i]'(by simp; omega) = (M.map (·.1))[j]'(by simp; omega) := by simp [e1, e2, e]
        have := (List.getElem_inj hnd).1 this
        subst this
        rw [← e1, ← e2]
      subst hvx
      have : v.1 ∈ (D ++ [v]).map (·.1) := by rw [List.map_append]; exact List.mem_append_right _ (by simp)
      simp only [this, if_true]
      exact hX
    · have : (v.1 ∈ (D ++ [x]).map (·.1)) ↔ (v.1 ∈ D.map (·.1)) := by rw [List.map_append, List.mem_append]; simp [e]
      simp only [this]
      exact hb.blk (h.ms _ (List.mem_map.2 ⟨v, hv, rfl⟩)) (fun e2 => e (by injection e2 with e2; exact e2.symm))
  · obtain ⟨v, hv, rfl⟩ := mem_cur hz
    have h2 : (v.1, if v.1 ∈ D.map (·.1) then upM tick p2 v.2 else v.2) ∈ curL tick p2 D M := List.mem_map.2 ⟨v, hv, rfl⟩
    show B ≤ v.1
    exact h.mB (v.1, if v.1 ∈ D.map (·.1) then upM tick p2 v.2 else v.2) h2
set_option maxHeartbeats 1000000 in
theorem due_any (g : Nat) (tick : Int) (w : World) : Calls Try.prog 61 #[.pointer (some ⟨g, 0, none⟩), .int .i64 tick] w fun e w' => e = .returned (.func (.func 98) #[] #[.pointer (some ⟨w.heap.size, 0, none⟩), .pointer (some ⟨w.heap.size + 1, 0, none⟩)]) ∧ w' = (w.alloc (.cells #[.pointer (some ⟨g, 0, none⟩)] 24)).alloc (.cells #[.int .i64 tick] 2) := by
  go_enter Try.func61, Try.ntmps61
  go_wp2_with fail
  go_ret
  exact ⟨rfl, rfl⟩
set_option maxHeartbeats 1000000 in
theorem ask_nil (tick : Int) (w : World) : Calls Try.prog 19 #[.pointer none, .int .i64 tick] w fun e w' => e = .returned (.slice none 0 0) ∧ Below w.heap.size w w' := by
  refine calls_of_wp_marks Try.func19 rfl ?_
  simp only [Try.ntmps19, List.size_toArray, List.length_cons, List.length_nil, Nat.reduceAdd, Nat.reduceSub, Array.replicate_succ, Array.replicate_zero, List.push_toArray, List.append_toArray, List.nil_append, List.cons_append]
  go_wp2_with fail
  refine leaves_none (v := .slice none 0 0) (by simp [results, Try.results19, go_sem]) ?_
  exact ⟨rfl, ((Below.refl _ w).alloc (Nat.le_refl _) _).alloc (by simp) _⟩
theorem AskEq.at_ {tick pause : Int} {M D : List (Nat × Mis)} {j j2 : Nat} (h : AskEq tick pause M D j) (hnd : (M.map (·.1)).Nodup) (hj : j ≤ M.length) (hj2 : j2 < M.length) (hd : D = dueL tick (M.take j2)) (hdu : isDue tick (M[j2]'hj2) = true) : AskEq tick pause M D j2 := by
  rcases Nat.lt_or_ge j2 j with h1 | h1
  · exfalso
    have hm : ∀ s, j2 + 1 + s ≤ M.length → (dueL tick (M.take (j2 + 1))).length ≤ (dueL tick (M.take (j2 + 1 + s))).length := fun s hs => by
      induction s with
      | zero => exact Nat.le_refl _
      | succ s ihs =>
        have hh : j2 + 1 + s < M.length := by omega
        have e2 := due_succ (tick := tick) hh
        rw [show j2 + 1 + (s + 1) = j2 + 1 + s + 1 by omega, e2, List.length_append]
        have := ihs (by omega)
        omega
    have h2 := hm (j - (j2 + 1)) (by omega)
    rw [show j2 + 1 + (j - (j2 + 1)) = j by omega, ← h.1, due_succ hj2, if_pos hdu, ← hd, List.length_append, List.length_singleton] at h2
    omega
  · exact h.to hnd hd h1 (by omega)
/-- what an asking leaves, and returns -/
def askK (tick pause : Int) (l : List Mis) : List Mis := (askM tick pause [] l).1.filter fun m => !decide (3 ≤ m.tr)
def askO (tick pause : Int) (l : List Mis) : List (Int × Int) := lossL (askM tick pause [] l).2
def AskPost (B g : Nat) (pause high tick : Int) (M : List (Nat × Mis)) (w : World) (e : Ending) (w' : World) : Prop :=
  ∃ va vc M' a' c', e = .returned (.slice va (askO tick pause (ofM M)).length vc) ∧ w'.ownsRow 0 35 2 (.slice va (askO tick pause (ofM M)).length vc) (askO tick pause (ofM M)).length (lossV (askO tick pause (ofM M))) ∧
    KS B g pause high M' a' c' w' ∧ ofM M' = askK tick pause (ofM M) ∧ Below B w w' ∧ (∀ (k : Nat) o, w.heap[k]? = some o → o.isCells = true → (∀ cs T m, o = Obj.cells cs T m → T ∉ aTs) → w'.heap[k]? = some o)
theorem AskPost.turned {B B' g : Nat} {pause high tick : Int} {M : List (Nat × Mis)} {w : World} {e : Ending} {Y Z : World} (h : AskPost B g pause high tick M w e Y) (ht : Turned B' Y Z) (hB : B ≤ B') : AskPost B g pause high tick M w e Z := by
  obtain ⟨va, vc, M', a', c', h1, h2, h3, h4, h5, h6⟩ := h
  exact ⟨va, vc, M', a', c', h1, ht.own h2, h3.turned ht, h4, ht.below h5 hB, fun k o hk hc ho => ht.blk (h6 k o hk hc ho) hc⟩
/-- the end: from the state behind the loop, those of three tries deleted -/
structure AsE (B g ob : Nat) (pause high tick : Int) (M : List (Nat × Mis)) (va : Option Addr) (vc n : Nat) (a' : Option Addr) (m c : Nat) (w W : World) : Prop where
  blk : ∃ v0, W.heap[g]? = some (keepO pause high v0)
  gB : B ≤ g
  ex : ∃ M', m = M'.length ∧ PR W 124 a' M'.length c (ptrs M') ∧ (M'.map (·.1)).Nodup ∧ (∀ x ∈ M', W.heap[x.1]? = some (misO x.2) ∧ B ≤ x.1) ∧ (∀ k, blkOf a' = some k → B ≤ k) ∧ ofM M' = askK tick pause (ofM M)
  len : n = (askO tick pause (ofM M)).length
  own : W.ownsRow 0 35 2 (.slice va n vc) n (lossV (askO tick pause (ofM M)))
  bl : Below B w W
  sz : w.heap.size ≤ W.heap.size
  ty : ∀ (k : Nat) o, w.heap[k]? = some o → o.isCells = true → (∀ cs T m, o = Obj.cells cs T m → T ∉ aTs) → W.heap[k]? = some o
theorem AsE.fin {B g ob : Nat} {pause high tick : Int} {M : List (Nat × Mis)} {va : Option Addr} {vc n : Nat} {a' : Option Addr} {m c : Nat} {w W X : World} (h : AsE B g ob pause high tick M va vc n a' m c w W) (hB : B ≤ w.heap.size) (hX : But (some g) W X) (hg : X.heap[g]? = some (keepO pause high (.slice a' m c))) : AskPost B g pause high tick M w (.returned (.slice va n vc)) X := by
  obtain ⟨M', rfl, h2, h3, h4, h5, h6⟩ := h.ex
  obtain ⟨v0, hb⟩ := h.blk
  have hT : Ty [120] W X := Ty.but hX (fun k e => by cases e; exact ⟨_, _, hb⟩) (by decide)
  refine ⟨va, vc, M', a', c, by rw [← h.len], ?_, KS.mk2 hb h.gB hX hg h2 h3 h4 h5, h6, h.bl.trans (hX.below (Nat.le_trans hB h.sz) (fun k e => by injection e with e; have := h.gB; omega)), fun k o hk hc ho => hT.block k o (h.ty k o hk hc ho) (fun cs T m e hTT => ho cs T m e (by
    have : T = 120 := by simpa using hTT
    subst this; decide))⟩
  rw [← h.len]
  exact hT.own h.own (by decide)
theorem AsE.mk' {B g kb tb ob : Nat} {pause high tick : Int} {M D : List (Nat × Mis)} {a a' : Option Addr} {c m vn vc : Nat} {va : Option Addr} {w V W : World} (i : AsI B g kb tb ob pause high tick M a c D va vn vc w V) (hB : B ≤ w.heap.size) (hs : askM tick pause [] (ofM M) = (ofM (curL tick pause D M), seqsOf D))
    (hm : m = (leftL is3 (curL tick pause D M)).length) (hr : PR W 124 a' m c (ptrs (leftL is3 (curL tick pause D M)))) (hba : blkOf a' = blkOf a) (hbut : But (blkOf a) V W) : AsE B g ob pause high tick M va vc vn a' m c w W ∧ W.heap[ob]? = some (.cells #[.slice va vn vc] 31 (0, 0)) ∧ W.heap[g]? = some (keepO pause high (.slice a (curL tick pause D M).length c)) ∧ W.heap[kb]? = some (.cells #[.pointer (some ⟨g, 0, none⟩)] 24 (0, 0)) := by
  have hT : Ty [124] V W := Ty.but hbut (fun k hk => by obtain ⟨cs, h⟩ := i.ks.row.block k hk; exact ⟨cs, _, h⟩) (by decide)
  have hg := hT.blk i.ks.blk (by decide)
  refine ⟨⟨⟨_, hg⟩, i.ks.gB, ⟨leftL is3 (curL tick pause D M), hm, by rw [← hm]; exact hr, left_nd i.ks.nd, fun x hx => ⟨hT.blk (i.ks.ms x (left_mem hx)) (by decide), i.ks.mB x (left_mem hx)⟩, fun k hk => i.ks.rB k (by rw [← hba]; exact hk), ?_⟩, ?_, ?_, i.bl.trans (hbut.below (Nat.le_trans hB i.sz) i.ks.rB), Nat.le_trans i.sz hT.size, fun k o hk hc ho => hT.block k o (i.ty k o hk hc ho) (fun cs T m e hTT => ho cs T m e (by
    have : T = 124 := by simpa using hTT
    subst this; decide))⟩, hT.blk i.out (by decide), hg, hT.blk i.kbx (by decide)⟩
  · rw [left_of3]; unfold askK; rw [hs]
  · unfold askO; rw [hs]; exact i.ve
  · unfold askO; rw [hs]; exact hT.own i.own (by decide)
set_option maxRecDepth 100000 in
set_option maxHeartbeats 8000000 in
theorem ask_any (B g : Nat) (pause high tick : Int) (M : List (Nat × Mis)) (a : Option Addr) (c : Nat) (w : World) (h : KS B g pause high M a c w) (hB : B ≤ w.heap.size) (hM : M.length ≤ 1000) (hMi : ∀ x ∈ M, (-9223372036854775808 ≤ x.2.i ∧ x.2.i ≤ 9223372036854775807) ∧ 0 ≤ x.2.tr ∧ x.2.tr ≤ 100) (hp : 1 ≤ pause ∧ pause ≤ 1000000000) (ht : -4611686018427387904 ≤ tick ∧ tick ≤ 4611686018427387904) :
    Calls Try.prog 19 #[.pointer (some ⟨g, 0, none⟩), .int .i64 tick] w (AskPost B g pause high tick M w) := by
  have H := Lib.hid h
  have HMI := Lib.hid hMi
  obtain ⟨kb, hkb⟩ : ∃ kb, w.heap.size = kb := ⟨_, rfl⟩
  obtain ⟨W1, hW1⟩ : ∃ W1, (w.alloc (.cells #[.pointer (some ⟨g, 0, none⟩)] 24)).alloc (.cells #[.int .i64 tick] 2) = W1 := ⟨_, rfl⟩
  have s1 : (w.alloc (.cells #[.pointer (some ⟨g, 0, none⟩)] 24)).heap.size = kb + 1 := by rw [World.size_alloc, hkb]
  have k1 : W1.heap[kb]? = some (.cells #[.pointer (some ⟨g, 0, none⟩)] 24 (0, 0)) := by rw [← hW1, ← hkb]; exact (alloc_blk_old (by simp)).trans alloc_blk_new
  have t1 : W1.heap[kb + 1]? = some (.cells #[.int .i64 tick] 2 (0, 0)) := by rw [← hW1, ← s1]; exact alloc_blk_new
  have b1 : Below w.heap.size w W1 := by rw [← hW1]; exact ((Below.refl _ _).alloc (Nat.le_refl _) _).alloc (by simp) _
  have K1 := Lib.hid k1
  have T1 := Lib.hid t1
  have B1 := Lib.hid b1
  have HKB := Lib.hid hkb
  have HW1 := Lib.hid hW1
  have x0 : W1.cell? ⟨kb, 0, none⟩ = some (.pointer (some ⟨g, 0, none⟩)) := cell_blk k1
  have x1 : W1.cell? ⟨kb + 1, 0, none⟩ = some (.int .i64 tick) := cell_blk t1
  obtain ⟨p0, p1⟩ := hp
  obtain ⟨t0, t2⟩ := ht
  have HHB := Lib.hid hB
  clear h hMi k1 t1 b1 s1 hkb hW1 hB
  refine calls_of_wp_marks Try.func19 rfl ?_
  simp only [Try.ntmps19, List.size_toArray, List.length_cons, List.length_nil, Nat.reduceAdd, Nat.reduceSub, Array.replicate_succ, Array.replicate_zero, List.push_toArray, List.append_toArray, List.nil_append, List.cons_append]
  go_upto_region 1 with (fail)
  rw [HKB.out, HW1.out]
  go_upto_region 4 with (fail)
  clear x0 x1
  obtain ⟨ob, hob⟩ : ∃ ob, W1.heap.size = ob := ⟨_, rfl⟩
  obtain ⟨V0, hV0⟩ : ∃ V0, W1.alloc (.cells #[.slice none 0 0] 31) = V0 := ⟨_, rfl⟩
  rw [hob, hV0]
  have b0 : Below W1.heap.size W1 V0 := by rw [← hV0]; exact (Below.refl _ _).alloc (Nat.le_refl _) _
  have o0 : V0.heap[ob]? = some (.cells #[.slice none 0 0] 31 (0, 0)) := by rw [← hV0, ← hob]; exact alloc_blk_new
  have B0 := Lib.hid b0
  have O0 := Lib.hid o0
  have HOB := Lib.hid hob
  have x0 : V0.cell? ⟨kb, 0, none⟩ = some (.pointer (some ⟨g, 0, none⟩)) := cell_blk (Below.blk b0 K1.out (lt_of_block K1.out))
  have x1 : V0.cell? ⟨kb + 1, 0, none⟩ = some (.int .i64 tick) := cell_blk (Below.blk b0 T1.out (lt_of_block T1.out))
  clear hob hV0 b0 o0
  go_wp2_with fail
  refine (due_any g tick V0).mono ?_
  rintro e V1 ⟨rfl, hV1⟩
  obtain ⟨k2, hk2⟩ : ∃ k2, V0.heap.size = k2 := ⟨_, rfl⟩
  have s2 : (V0.alloc (.cells #[.pointer (some ⟨g, 0, none⟩)] 24)).heap.size = k2 + 1 := by rw [World.size_alloc, hk2]
  have e1 : V1.heap[k2]? = some (.cells #[.pointer (some ⟨g, 0, none⟩)] 24 (0, 0)) := by rw [hV1, ← hk2]; exact (alloc_blk_old (by simp)).trans alloc_blk_new
  have e2 : V1.heap[k2 + 1]? = some (.cells #[.int .i64 tick] 2 (0, 0)) := by rw [hV1, ← s2]; exact alloc_blk_new
  have b1 : Below V0.heap.size V0 V1 := by rw [hV1]; exact ((Below.refl _ _).alloc (Nat.le_refl _) _).alloc (by simp) _
  rw [hk2]
  have hBW : Below w.heap.size w V1 := B1.out.trans ((B0.out.trans (b1.mono B0.out.size)).mono B1.out.size)
  have hb01 : Below W1.heap.size W1 V1 := B0.out.trans (b1.mono B0.out.size)
  have HK1 := H.out.keep hBW
  have I0 : AsI B g kb (kb + 1) ob pause high tick M a c [] none 0 0 w V1 := ⟨by rw [cur_nil]; exact HK1, Below.blk hb01 K1.out (lt_of_block K1.out), Below.blk hb01 T1.out (lt_of_block T1.out), Below.blk b1 O0.out (lt_of_block O0.out), rfl, World.ownsRow_nil _ _ _ _, hBW.mono HHB.out, hBW.size, fun k o hk _ _ => Below.blk hBW hk (lt_of_block hk)⟩
  have hseq := due_seq g k2 (k2 + 1) pause high tick M a c B V1 HK1 e1 e2 hM (fun x hx => (HMI.out x hx).1)
  have hBV : B ≤ V1.heap.size := Nat.le_trans HHB.out hBW.size
  have HI0 := Lib.hid I0
  have HSEQ := Lib.hid hseq
  have HND := Lib.hid HK1.nd
  have HOBW : Hid (w.heap.size ≤ ob) := Lib.hid (by have := B1.out.size; have := HOB.out; omega)
  clear hV1 s2 e1 e2 b1 hBW hb01 HK1 I0 hseq hk2 x0 x1
  go_wp2_with fail
  refine wp_rangeFunc_f (gf := 98) (lb := #[.pointer (some ⟨k2, 0, none⟩), .pointer (some ⟨k2 + 1, 0, none⟩)]) rfl (enters_of Try.func98 (by kernel_rfl) rfl) HSEQ.out (fun x => rfl) (fun A B hf => hf.1.keepsO)
    (fun pre W => ∃ va vn vc j, AsI B g kb (kb + 1) ob pause high tick M a c (xsOf pre) va vn vc w W ∧ j ≤ M.length ∧ AskEq tick pause M (xsOf pre) j) (fun cd _ W => cd = .exit 0 ∧ ∃ D va vn vc, AsI B g kb (kb + 1) ob pause high tick M a c D va vn vc w W ∧ askM tick pause [] (ofM M) = (ofM (curL tick pause D M), seqsOf D))
    (fun s A W ⟨va, vn, vc, j, h1, h2⟩ hf => ⟨va, vn, vc, j, h1.fr hf hBV, h2⟩) (fun cd s A W ⟨hc, D, va, vn, vc, h1, h2⟩ hf => ⟨hc, D, va, vn, vc, h1.fr hf hBV, h2⟩)
    (fun W hW => ⟨none, 0, 0, 0, HI0.out.below hW HHB.out, Nat.zero_le _, AskEq.start _ _ _⟩) ?round ?done ?stop
  case round =>
    rintro l pre ⟨x, la, ln, lc⟩ W0 W hl ⟨va, vn, vc, j, i0, hj, heq⟩ hfr ⟨⟨j2, hj2, hds, hxe, hdu⟩, hln, hown⟩
    have i1 := i0.fr hfr hBV
    simp only [DuE.enc, ptr] at hown hln hxe hdu ⊢
    have HI := Lib.hid i1
    have HO := Lib.hid hown
    have HLN := Lib.hid hln
    have HXE := Lib.hid hxe
    have HDU := Lib.hid hdu
    have HDS := Lib.hid hds
    have HEQ := Lib.hid heq
    clear i0 i1 hown hln hxe hdu hds heq hfr
    gi_wp2_with fail
    refine ⟨KeepsOthers.refl _, fun W2 ht => ?_⟩
    have i2 := HI.out.turned ht hBV
    have hxm : x ∈ M := by rw [← HXE.out]; exact List.getElem_mem hj2
    have hnot : x.1 ∉ (xsOf pre).map (·.1) := by
      have := notin_take (tick := tick) HND.out hj2
      rw [HXE.out, ← HDS.out] at this
      exact this
    have hX2 : W2.heap[x.1]? = some (misO x.2) := by
      have := i2.ks.ms (x.1, if x.1 ∈ (xsOf pre).map (·.1) then upM tick pause x.2 else x.2) (List.mem_map.2 ⟨x, hxm, rfl⟩)
      rw [if_neg hnot] at this
      exact this
    have heq2 : AskEq tick pause M (xsOf pre) j2 := HEQ.out.at_ HND.out hj hj2 HDS.out (by rw [HXE.out]; exact HDU.out)
    have hbx := HMI.out x hxm
    have hxB : B ≤ x.1 := i2.ks.mB (x.1, if x.1 ∈ (xsOf pre).map (·.1) then upM tick pause x.2 else x.2) (List.mem_map.2 ⟨x, hxm, rfl⟩)
    have I2 := Lib.hid i2
    have HX2 := Lib.hid hX2
    have HEQ2 := Lib.hid heq2
    have HT := Lib.hid ht
    have HXM := Lib.hid hxm
    have HXB := Lib.hid hxB
    have y1 : W2.cell? ⟨ob, 0, none⟩ = some (.slice va vn vc) := cell_blk i2.out
    have y2 : W2.frozen? ⟨ob, 0, none⟩ = false := free_blk i2.out
    by_cases h16 : 16 < ln
    · have d1 : decide (16 < (ln : Int)) = true := by simp; omega
      have hst := heq2.stop HND.out hj2 (by rw [HXE.out]; exact HDU.out) (by rw [HXE.out, ← HLN.out]; exact h16)
      have HST := Lib.hid hst
      clear i2 hX2 heq2 ht hxm hnot hxB hst hbx h16
      gi_wp2_with fail
      exact ⟨KeepsOthers.refl _, fun W3 ht3 => ⟨rfl, xsOf pre, va, vn, vc, I2.out.turned ht3 hBV, HST.out⟩⟩
    · have d1 : decide (16 < (ln : Int)) = false := by simp; omega
      have htk := heq2.take HND.out hj2 (by rw [HXE.out]; exact HDU.out) (by rw [HXE.out, ← HLN.out]; exact h16)
      rw [HXE.out] at htk
      have HTK := Lib.hid htk
      obtain ⟨xb, xi, xt, xn⟩ := x
      simp only at hX2 hbx hxB ⊢
      obtain ⟨-, bt0, bt1⟩ := hbx
      have hne : Hid (xb ≠ ob) := Lib.hid (fun e => by
        rw [e, i2.out] at hX2
        injection hX2 with hX2
        injection hX2 with _ h
        exact absurd h (by decide))
      have b1o : But (some ob) W2 (W2.setCell ⟨ob, 0, none⟩ (.slice la ln lc)) := (But.refl _ _).set _ _
      have t1o : Ty [31] W2 (W2.setCell ⟨ob, 0, none⟩ (.slice la ln lc)) := Ty.set i2.out (by decide) _
      have o1o : (W2.setCell ⟨ob, 0, none⟩ (.slice la ln lc)).heap[ob]? = some (.cells #[.slice la ln lc] 31 (0, 0)) := by rw [set_blk _ i2.out]; rfl
      have x1o : (W2.setCell ⟨ob, 0, none⟩ (.slice la ln lc)).heap[xb]? = some (misO ⟨xi, xt, xn⟩) := b1o.blk hX2 (fun e => hne.out (by injection e with e; exact e.symm))
      obtain ⟨Y1, hY1⟩ : ∃ Y1, W2.setCell ⟨ob, 0, none⟩ (.slice la ln lc) = Y1 := ⟨_, rfl⟩
      rw [hY1] at b1o t1o o1o x1o
      have z1 : Y1.cell? ⟨xb, 1, none⟩ = some (.int .i64 xt) := cell_blk x1o
      have z2 : Y1.frozen? ⟨xb, 1, none⟩ = false := free_blk x1o
      have w1 : IntKind.i64.wrap (xt + 1) = xt + 1 := IntWalk.i64_in _ (by omega)
      have B1O := Lib.hid b1o
      have T1O := Lib.hid t1o
      have O1O := Lib.hid o1o
      have X1O := Lib.hid x1o
      clear i2 hX2 heq2 ht hxm hnot hxB b1o t1o o1o x1o htk h16
      gi_wp2_with fail
      have x2o : (Y1.setCell ⟨xb, 1, none⟩ (.int .i64 (xt + 1))).heap[xb]? = some (misO ⟨xi, xt + 1, xn⟩) := by rw [set_blk _ X1O.out]; rfl
      have b2o : But (some xb) Y1 (Y1.setCell ⟨xb, 1, none⟩ (.int .i64 (xt + 1))) := (But.refl _ _).set _ _
      have t2o : Ty [31, 126] W2 (Y1.setCell ⟨xb, 1, none⟩ (.int .i64 (xt + 1))) := (T1O.out.mono (by intro T h; simp at h; subst h; decide)).trans (Ty.set X1O.out (by decide) _)
      obtain ⟨Y2, hY2⟩ : ∃ Y2, Y1.setCell ⟨xb, 1, none⟩ (.int .i64 (xt + 1)) = Y2 := ⟨_, rfl⟩
      rw [hY2] at x2o b2o t2o ⊢
      have X2O := Lib.hid x2o
      have B2O := Lib.hid b2o
      have T2O := Lib.hid t2o
      have hne2 : Nonempty { w' : World // Below Y2.heap.size Y2 w' } := ⟨⟨_, Below.refl _ _⟩⟩
      have k3 := t2o.blk I2.out.kbx (by decide)
      have k4 := t2o.blk I2.out.tbx (by decide)
      have k5 := t2o.blk I2.out.ks.blk (by decide)
      have u1 : ∀ z : { w' : World // Below Y2.heap.size Y2 w' }, z.1.cell? ⟨kb, 0, none⟩ = some (.pointer (some ⟨g, 0, none⟩)) := fun z => cell_blk (Below.blk z.2 k3 (lt_of_block k3))
      have u2 : ∀ z : { w' : World // Below Y2.heap.size Y2 w' }, z.1.cell? ⟨kb + 1, 0, none⟩ = some (.int .i64 tick) := fun z => cell_blk (Below.blk z.2 k4 (lt_of_block k4))
      have u3 : ∀ z : { w' : World // Below Y2.heap.size Y2 w' }, z.1.cell? ⟨g, 0, none⟩ = some (.int .i64 pause) := fun z => cell_blk (Below.blk z.2 k5 (lt_of_block k5))
      have z3 : Y2.cell? ⟨xb, 2, none⟩ = some (.int .i64 xn) := cell_blk x2o
      have z4 : Y2.frozen? ⟨xb, 2, none⟩ = false := free_blk x2o
      have w2 : IntKind.i64.wrap (tick + pause) = tick + pause := IntWalk.i64_in _ (by omega)
      clear x2o b2o t2o k3 k4 k5 z1 z2 w1 y1 y2
      refine MixC.wpIn_region_mix_tail (MixC.WideF.round l) 9 [] (Below Y2.heap.size Y2) (Below.refl _ _).drew (by kernel_rfl) (by kernel_rfl) (by kernel_rfl) (by kernel_rfl) ?_
      simp only [List.take_succ_cons, List.take_zero, List.drop_succ_cons, List.drop_zero]
      (iterate 9 (refine MixC.mix_read rfl (fun K hK => ?_); go_simp; refine hK _ ?_; clear hK K))
      refine MixC.mix_nil ?_
      clear u1 u2 u3 hne2 w2
      gi_wp2_with fail
      have x3 : (Y2.setCell ⟨xb, 2, none⟩ (.int .i64 (tick + pause))).heap[xb]? = some (misO (upM tick pause ⟨xi, xt, xn⟩)) := by rw [set_blk _ X2O.out]; rfl
      have b3 : But (some xb) Y1 (Y2.setCell ⟨xb, 2, none⟩ (.int .i64 (tick + pause))) := B2O.out.set _ _
      have t3 : Ty [31, 126] W2 (Y2.setCell ⟨xb, 2, none⟩ (.int .i64 (tick + pause))) := T2O.out.trans (Ty.set X2O.out (by decide) _)
      obtain ⟨Y3, hY3⟩ : ∃ Y3, Y2.setCell ⟨xb, 2, none⟩ (.int .i64 (tick + pause)) = Y3 := ⟨_, rfl⟩
      rw [hY3] at x3 b3 t3 ⊢
      have kY1 : KS B g pause high (curL tick pause (xsOf pre) M) a c Y1 := I2.out.ks.ty T1O.out (by decide) (by decide) (by decide)
      have kY3 : KS B g pause high (curL tick pause (xsOf pre ++ [(xb, ⟨xi, xt, xn⟩)]) M) a c Y3 := kY1.turn HXM.out HND.out b3 x3
      have o3 : Y3.heap[ob]? = some (.cells #[.slice la ln lc] 31 (0, 0)) := b3.blk O1O.out (fun e => hne.out (by injection e))
      have r3 : Y3.ownsRow 0 35 2 (.slice la ln lc) ln (lossV (lossL (seqsOf (xsOf pre ++ [(xb, ⟨xi, xt, xn⟩)])))) := t3.own (HT.out.own (World.ownsRow.mono HO.out (Nat.zero_le _))) (by decide)
      have bl3 : Below B w Y3 := by
        have h1 : Below B W2 Y1 := B1O.out.below (Nat.le_trans HHB.out I2.out.sz) (fun k e => by injection e with e; have := HOBW.out; have := HHB.out; omega)
        exact (I2.out.bl.trans h1).trans (b3.below (Nat.le_trans HHB.out (Nat.le_trans I2.out.sz B1O.out.size)) (fun k e => by injection e with e; have : B ≤ xb := HXB.out; omega))
      have iY : AsI B g kb (kb + 1) ob pause high tick M a c (xsOf pre ++ [(xb, ⟨xi, xt, xn⟩)]) la ln lc w Y3 := ⟨kY3, t3.blk I2.out.kbx (by decide), t3.blk I2.out.tbx (by decide), o3, HLN.out, r3, bl3, Nat.le_trans I2.out.sz t3.size, fun k o hk hc ho => t3.block k o (I2.out.ty k o hk hc ho) (fun cs T m e hT => ho cs T m e (by
        simp at hT
        rcases hT with rfl | rfl <;> decide))⟩
      have dk : DuK pre ⟨(xb, ⟨xi, xt, xn⟩), la, ln, lc⟩ W Y3 := ⟨by rw [← HT.out.size]; exact t3.size, fun k cs T m hk hkx hT => by
        have h1 := HT.out.blk hk rfl
        have h2 : Y1.heap[k]? = some (.cells cs T m) := T1O.out.blk h1 (by simp; exact hT)
        exact b3.blk h2 (fun e => hkx (by injection e with e; exact e.symm))⟩
      have ko : KeepsOthers W2 Y3 := ⟨t3.size, fun k o hk ho => t3.block k o hk (fun cs T m e => by subst e; cases ho)⟩
      refine ⟨⟨ko.size, fun k o hk ho => ko.same k o hk ho⟩, fun W4 ht4 => ⟨⟨by rw [ht4.size]; exact dk.1, fun k cs T m hk hkx hT => ht4.blk (dk.2 k cs T m hk hkx hT) rfl⟩, la, ln, lc, j2 + 1, ?_, by omega, ?_⟩⟩
      · rw [xsOf_app]
        exact AsI.turned (A := Y3.drew) ⟨iY.ks.keep (Below.refl _ _).drew, iY.kbx, iY.tbx, iY.out, iY.ve, own_below iY.own (Below.refl _ _).drew, iY.bl.drew, iY.sz, iY.ty⟩ ht4 hBV
      · rw [xsOf_app]; exact HTK.out
  case done =>
    rintro D xs V V' hD hS ⟨va, vn, vc, j, i0, hj, heq⟩ ht hk
    have hst := (heq.to HND.out (j' := M.length) (by rw [List.take_length]; exact hS) hj (Nat.le_refl _)).all rfl
    obtain ⟨DD, hDD⟩ : ∃ DD, xsOf xs = DD := ⟨_, rfl⟩
    rw [hDD] at i0 hst
    clear hS heq hDD
    have iA : AsI B g kb (kb + 1) ob pause high tick M a c DD va vn vc w V' := i0.turned ht hBV
    have IA := Lib.hid iA
    have HST := Lib.hid hst
    have HKD := Lib.hid hk
    have hcl := cur_len tick pause DD M
    have HDEL : Hid (Calls Try.prog 62 #[.slice a (curL tick pause DD M).length c, .func (.func 63) #[] #[]] V'.drew (DelPost is3 (curL tick pause DD M) a c V'.drew)) := Lib.hid (by
      refine delAsk is3 (curL tick pause DD M) a c V'.drew (iA.ks.keep (Below.refl _ V').drew).row (by omega) (fun z x hx hz => ?_)
      exact ask1_any x.2 x.1 z (hz.blk (show V'.drew.heap[x.1]? = _ from iA.ks.ms x hx) (iA.ks.nm x hx)))
    have g0 := iA.ks.blk
    obtain ⟨n1, hn1⟩ : ∃ n1, (curL tick pause DD M).length = n1 := ⟨_, rfl⟩
    rw [hn1] at g0 HDEL
    have HN1 := Lib.hid hn1
    have C0 : Hid (Has [(kb, .cells #[.pointer (some ⟨g, 0, none⟩)] 24 (0, 0)), (g, keepO pause high (.slice a n1 c))] V'.drew) := Lib.hid (fun x hx => by
      rcases List.mem_cons.1 hx with rfl | hx
      · exact iA.kbx
      · have : x = _ := List.mem_singleton.1 hx
        subst this; exact g0)
    have hne : Nonempty { w' : World // Has [(kb, .cells #[.pointer (some ⟨g, 0, none⟩)] 24 (0, 0)), (g, keepO pause high (.slice a n1 c))] w' } := ⟨⟨_, C0.out⟩⟩
    have u1 : ∀ z : { w' : World // Has [(kb, .cells #[.pointer (some ⟨g, 0, none⟩)] 24 (0, 0)), (g, keepO pause high (.slice a n1 c))] w' }, z.1.cell? ⟨kb, 0, none⟩ = some (.pointer (some ⟨g, 0, none⟩)) := fun z => cell_blk (z.2 (kb, .cells #[.pointer (some ⟨g, 0, none⟩)] 24 (0, 0)) (by simp))
    have u2 : ∀ z : { w' : World // Has [(kb, .cells #[.pointer (some ⟨g, 0, none⟩)] 24 (0, 0)), (g, keepO pause high (.slice a n1 c))] w' }, z.1.cell? ⟨g, 2, none⟩ = some (.slice a n1 c) := fun z => cell_blk (z.2 (g, keepO pause high (.slice a n1 c)) (by simp))
    clear i0 iA hst hk ht g0 hn1 hcl
    go_wp2_with fail
    refine MixC.wp_region_mix_tail 8 [5] (Has [(kb, .cells #[.pointer (some ⟨g, 0, none⟩)] 24 (0, 0)), (g, keepO pause high (.slice a n1 c))]) C0.out (by kernel_rfl) (by kernel_rfl) (by kernel_rfl) ?_
    simp only [List.take_succ_cons, List.take_zero, List.drop_succ_cons, List.drop_zero]
    (iterate 5 (refine MixC.mix_read rfl (fun K hK => ?_); go_simp; refine hK _ ?_; clear hK K))
    refine MixC.mix_move rfl (fun K hK => ?_)
    go_simp
    refine HDEL.out.mono ?_
    rintro e X ⟨a', m, rfl, hm, hr, hba, hbut⟩
    obtain ⟨ae, xo, xg, xk⟩ := AsE.mk' (W := X) IA.out HHB.out HST.out hm hr hba ((But.of_below (Below.refl _ V').drew).trans hbut)
    rw [HN1.out] at xg
    have C1 : Hid (Has [(kb, .cells #[.pointer (some ⟨g, 0, none⟩)] 24 (0, 0)), (g, keepO pause high (.slice a n1 c))] X) := Lib.hid (fun x hx => by
      rcases List.mem_cons.1 hx with rfl | hx
      · exact xk
      · have : x = _ := List.mem_singleton.1 hx
        subst this; exact xg)
    have KD : Hid (X.heap[D]? = some (.deferred (some []))) := Lib.hid (hbut.blk (show V'.drew.heap[D]? = _ from HKD.out) (fun e => by
      obtain ⟨cs, h⟩ := IA.out.ks.row.block D e
      rw [HKD.out] at h; cases h))
    have AE := Lib.hid ae
    have XO := Lib.hid xo
    have XG := Lib.hid xg
    have s1 : X.cell? ⟨g, 2, none⟩ = some (.slice a n1 c) := cell_blk xg
    have s2 : X.frozen? ⟨g, 2, none⟩ = false := free_blk xg
    clear hm hr hba hbut ae xo xg xk
    refine ⟨_, rfl, C1.out, hK _ _ ?_⟩
    clear hK K
    (iterate 2 (refine MixC.mix_read rfl (fun K hK => ?_); go_simp; refine hK _ ?_; clear hK K))
    refine MixC.mix_nil ?_
    clear u1 u2 hne
    go_upto_region 12 with (fail)
    clear s1 s2
    have bg : But (some g) X (X.setCell ⟨g, 2, none⟩ (.slice a' m c)) := (But.refl _ _).set _ _
    have gg : (X.setCell ⟨g, 2, none⟩ (.slice a' m c)).heap[g]? = some (keepO pause high (.slice a' m c)) := by rw [set_blk _ XG.out]; rfl
    have go : (X.setCell ⟨g, 2, none⟩ (.slice a' m c)).heap[ob]? = some (.cells #[.slice va vn vc] 31 (0, 0)) := (Ty.set (ts := [120]) XG.out (by decide) _).blk XO.out (by decide)
    have gd : (X.setCell ⟨g, 2, none⟩ (.slice a' m c)).heap[D]? = some (.deferred (some [])) := bg.blk KD.out (fun e => by
      injection e with e
      have := XG.out
      rw [e, KD.out] at this; cases this)
    generalize hY : World.setCell X _ _ = Y at bg gg go gd ⊢
    clear hY
    have x1 : Y.cell? ⟨ob, 0, none⟩ = some (.slice va vn vc) := cell_blk go
    have HGD := Lib.hid gd
    have HBG := Lib.hid bg
    have HGG := Lib.hid gg
    clear bg gg go gd
    go_wp2_with fail
    refine leaves_mark HGD.out (v := .slice va vn vc) (by simp [results, Try.results19, go_sem]) ?_
    exact (AE.out.fin HHB.out HBG.out HGG.out).turned (Turned.put (.deferred none) hD HGD.out rfl) hBV
  case stop =>
    rintro D cd pre V V' hD - ⟨rfl, DD, va, vn, vc, i0, hst⟩ ht hk
    have iA : AsI B g kb (kb + 1) ob pause high tick M a c DD va vn vc w V' := i0.turned ht hBV
    have IA := Lib.hid iA
    have HST := Lib.hid hst
    have HKD := Lib.hid hk
    have hcl := cur_len tick pause DD M
    have HDEL : Hid (Calls Try.prog 62 #[.slice a (curL tick pause DD M).length c, .func (.func 63) #[] #[]] V'.drew (DelPost is3 (curL tick pause DD M) a c V'.drew)) := Lib.hid (by
      refine delAsk is3 (curL tick pause DD M) a c V'.drew (iA.ks.keep (Below.refl _ V').drew).row (by omega) (fun z x hx hz => ?_)
      exact ask1_any x.2 x.1 z (hz.blk (show V'.drew.heap[x.1]? = _ from iA.ks.ms x hx) (iA.ks.nm x hx)))
    have g0 := iA.ks.blk
    obtain ⟨n1, hn1⟩ : ∃ n1, (curL tick pause DD M).length = n1 := ⟨_, rfl⟩
    rw [hn1] at g0 HDEL
    have HN1 := Lib.hid hn1
    have C0 : Hid (Has [(kb, .cells #[.pointer (some ⟨g, 0, none⟩)] 24 (0, 0)), (g, keepO pause high (.slice a n1 c))] V'.drew) := Lib.hid (fun x hx => by
      rcases List.mem_cons.1 hx with rfl | hx
      · exact iA.kbx
      · have : x = _ := List.mem_singleton.1 hx
        subst this; exact g0)
    have hne : Nonempty { w' : World // Has [(kb, .cells #[.pointer (some ⟨g, 0, none⟩)] 24 (0, 0)), (g, keepO pause high (.slice a n1 c))] w' } := ⟨⟨_, C0.out⟩⟩
    have u1 : ∀ z : { w' : World // Has [(kb, .cells #[.pointer (some ⟨g, 0, none⟩)] 24 (0, 0)), (g, keepO pause high (.slice a n1 c))] w' }, z.1.cell? ⟨kb, 0, none⟩ = some (.pointer (some ⟨g, 0, none⟩)) := fun z => cell_blk (z.2 (kb, .cells #[.pointer (some ⟨g, 0, none⟩)] 24 (0, 0)) (by simp))
    have u2 : ∀ z : { w' : World // Has [(kb, .cells #[.pointer (some ⟨g, 0, none⟩)] 24 (0, 0)), (g, keepO pause high (.slice a n1 c))] w' }, z.1.cell? ⟨g, 2, none⟩ = some (.slice a n1 c) := fun z => cell_blk (z.2 (g, keepO pause high (.slice a n1 c)) (by simp))
    clear i0 iA hst hk ht g0 hn1 hcl
    go_wp2_with fail
    refine MixC.wp_region_mix_tail 8 [5] (Has [(kb, .cells #[.pointer (some ⟨g, 0, none⟩)] 24 (0, 0)), (g, keepO pause high (.slice a n1 c))]) C0.out (by kernel_rfl) (by kernel_rfl) (by kernel_rfl) ?_
    simp only [List.take_succ_cons, List.take_zero, List.drop_succ_cons, List.drop_zero]
    (iterate 5 (refine MixC.mix_read rfl (fun K hK => ?_); go_simp; refine hK _ ?_; clear hK K))
    refine MixC.mix_move rfl (fun K hK => ?_)
    go_simp
    refine HDEL.out.mono ?_
    rintro e X ⟨a', m, rfl, hm, hr, hba, hbut⟩
    obtain ⟨ae, xo, xg, xk⟩ := AsE.mk' (W := X) IA.out HHB.out HST.out hm hr hba ((But.of_below (Below.refl _ V').drew).trans hbut)
    rw [HN1.out] at xg
    have C1 : Hid (Has [(kb, .cells #[.pointer (some ⟨g, 0, none⟩)] 24 (0, 0)), (g, keepO pause high (.slice a n1 c))] X) := Lib.hid (fun x hx => by
      rcases List.mem_cons.1 hx with rfl | hx
      · exact xk
      · have : x = _ := List.mem_singleton.1 hx
        subst this; exact xg)
    have KD : Hid (X.heap[D]? = some (.deferred (some []))) := Lib.hid (hbut.blk (show V'.drew.heap[D]? = _ from HKD.out) (fun e => by
      obtain ⟨cs, h⟩ := IA.out.ks.row.block D e
      rw [HKD.out] at h; cases h))
    have AE := Lib.hid ae
    have XO := Lib.hid xo
    have XG := Lib.hid xg
    have s1 : X.cell? ⟨g, 2, none⟩ = some (.slice a n1 c) := cell_blk xg
    have s2 : X.frozen? ⟨g, 2, none⟩ = false := free_blk xg
    clear hm hr hba hbut ae xo xg xk
    refine ⟨_, rfl, C1.out, hK _ _ ?_⟩
    clear hK K
    (iterate 2 (refine MixC.mix_read rfl (fun K hK => ?_); go_simp; refine hK _ ?_; clear hK K))
    refine MixC.mix_nil ?_
    clear u1 u2 hne
    go_upto_region 12 with (fail)
    clear s1 s2
    have bg : But (some g) X (X.setCell ⟨g, 2, none⟩ (.slice a' m c)) := (But.refl _ _).set _ _
    have gg : (X.setCell ⟨g, 2, none⟩ (.slice a' m c)).heap[g]? = some (keepO pause high (.slice a' m c)) := by rw [set_blk _ XG.out]; rfl
    have go : (X.setCell ⟨g, 2, none⟩ (.slice a' m c)).heap[ob]? = some (.cells #[.slice va vn vc] 31 (0, 0)) := (Ty.set (ts := [120]) XG.out (by decide) _).blk XO.out (by decide)
    have gd : (X.setCell ⟨g, 2, none⟩ (.slice a' m c)).heap[D]? = some (.deferred (some [])) := bg.blk KD.out (fun e => by
      injection e with e
      have := XG.out
      rw [e, KD.out] at this; cases this)
    generalize hY : World.setCell X _ _ = Y at bg gg go gd ⊢
    clear hY
    have x1 : Y.cell? ⟨ob, 0, none⟩ = some (.slice va vn vc) := cell_blk go
    have HGD := Lib.hid gd
    have HBG := Lib.hid bg
    have HGG := Lib.hid gg
    clear bg gg go gd
    go_wp2_with fail
    refine leaves_mark HGD.out (v := .slice va vn vc) (by simp [results, Try.results19, go_sem]) ?_
    exact (AE.out.fin HHB.out HBG.out HGG.out).turned (Turned.put (.deferred none) hD HGD.out rfl) hBV
end Go.Proofs.Ytdmbdageohjodaa
