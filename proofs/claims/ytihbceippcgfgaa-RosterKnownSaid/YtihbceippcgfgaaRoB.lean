/-
  Chapter 47: the iterator over whose versions a seat doesn't know.
-/
import Derived.Test.YtihbceippcgfgaaRoA
import Derived.Test.YtihbceippcgfgaaRange
import Derived.BigQuiet
import Derived.Deep.DeepCutAuto
import Derived.IntWalk
namespace Go.Proofs.Ytihbceippcgfgaa
open Go.RowKit
set_option linter.unusedVariables false
set_option linter.unusedSimpArgs false
attribute [local irreducible] wpStill wpQuiet MixC.wpMix
attribute [local go_sem] MixC.rdOp MixC.rd MixC.rdUpon MixC.mvUpon

def dueB (s : RoS) (x o : Nat) : Bool := decide (o ≠ x) && decide (s.kn x o < s.ve o)
def othL (s : RoS) (x : Nat) : List Nat := (List.range s.n).filter (dueB s x)
theorem range_split (p : Nat → Bool) (n k : Nat) (hk : k < n) (hp : p k = true) : ∃ suf, (List.range n).filter p = (List.range k).filter p ++ k :: suf := by
  refine ⟨((List.range n).drop (k + 1)).filter p, ?_⟩
  have e : List.range n = List.range k ++ k :: (List.range n).drop (k + 1) := by
    have h1 := (List.take_append_drop k (List.range n)).symm
    rw [List.take_range, Nat.min_eq_left (by omega), List.drop_eq_getElem_cons (by simpa using hk)] at h1
    simpa using h1
  rw [e, List.filter_append, List.filter_cons_of_pos hp]
  congr 2
  rw [← e]
theorem filter_step (p : Nat → Bool) (k : Nat) : (List.range (k + 1)).filter p = if p k = true then (List.range k).filter p ++ [k] else (List.range k).filter p := by
  rw [List.range_succ, List.filter_append]
  by_cases h : p k = true
  · rw [if_pos h, List.filter_cons_of_pos h]; rfl
  · rw [if_neg h, List.filter_cons_of_neg h]; simp
def oEnc (rb : Nat) (o : Nat) : Array Value := #[.int .i64 o, .pointer (some ⟨rb, o * 3, none⟩)]
/-- what the iterator reads -/
structure OtH (c1 c2 g be ce bs cs rb rc : Nat) (s : RoS) (x : Nat) (w : World) : Prop where
  c1 : w.cell? ⟨c1, 0, none⟩ = some (.pointer (some ⟨g, 0, none⟩))
  c2 : w.cell? ⟨c2, 0, none⟩ = some (.int .i64 x)
  g1 : w.cell? ⟨g, 1, none⟩ = some (.slice (some ⟨be, 0, none⟩) s.n ce)
  g2 : w.cell? ⟨g, 2, none⟩ = some (.slice (some ⟨bs, 0, none⟩) s.n cs)
  e : ∀ j, j < s.n → w.cell? ⟨be, j * 2, none⟩ = some (.int .i64 (s.ve j)) ∧ w.cell? ⟨be, j * 2 + 1, none⟩ = some (.string (s.tx j))
  sl : w.cell? ⟨bs, x, none⟩ = some (.slice (some ⟨rb, 0, none⟩) s.n rc)
  k : ∀ j, j < s.n → w.cell? ⟨rb, j * 3, none⟩ = some (.int .i64 (s.kn x j))
theorem cell_keep {w w' : World} (hb : Below w.heap.size w w') {b i : Nat} {v : Value} (h : w.cell? ⟨b, i, none⟩ = some v) : w'.cell? ⟨b, i, none⟩ = some v := Below.cell' hb (World.block_lt_of_cell? _ _ h) h
theorem OtH.keep {c1 c2 g be ce bs cs rb rc : Nat} {s : RoS} {x : Nat} {w w' : World} (h : OtH c1 c2 g be ce bs cs rb rc s x w) (hb : Below w.heap.size w w') : OtH c1 c2 g be ce bs cs rb rc s x w' :=
  ⟨cell_keep hb h.c1, cell_keep hb h.c2, cell_keep hb h.g1, cell_keep hb h.g2, fun j hj => ⟨cell_keep hb (h.e j hj).1, cell_keep hb (h.e j hj).2⟩, cell_keep hb h.sl, fun j hj => cell_keep hb (h.k j hj)⟩
def OtG (s : RoS) (x : Nat) (pre : List Nat) (o : Nat) (W0 W1 : World) : Prop := (∃ suf, othL s x = pre ++ o :: suf) ∧ Below W0.heap.size W0 W1
theorem others_any (g : Nat) (x : Nat) (w : World) : Calls Try.prog 81 #[.pointer (some ⟨g, 0, none⟩), .int .i64 x] w fun e w' => e = .returned (.func (.func 107) #[] #[.pointer (some ⟨w.heap.size, 0, none⟩), .pointer (some ⟨w.heap.size + 1, 0, none⟩)]) ∧
    w'.heap[w.heap.size]? = some (.cells #[.pointer (some ⟨g, 0, none⟩)] 74 (0, 0)) ∧ w'.heap[w.heap.size + 1]? = some (.cells #[.int .i64 x] 3 (0, 0)) ∧ Below w.heap.size w w' := by
  go_enter Try.func81, Try.ntmps81
  go_wp2_with fail
  go_ret
  refine ⟨rfl, ?_, ?_, by (repeat (first | exact Below.refl _ _ | refine Below.alloc ?_ (by first | (simp; done) | (simp; omega) | (simp [size_drewN]; done) | (simp [size_drewN]; omega)) _ | refine Below.drew ?_ | refine below_drewN0 ?_ _ | refine Below.setCell ?_ (by first | (simp; done) | (simp; omega) | (simp [size_drewN]; done) | (simp [size_drewN]; omega)) _))⟩
  · rw [alloc_blk_old (by simp)]; exact alloc_blk_new
  · exact (by simpa using alloc_blk_new (w := w.alloc (.cells #[.pointer (some ⟨g, 0, none⟩)] 74)) (o := .cells #[.int .i64 x] 3))
set_option maxRecDepth 100000 in
set_option maxHeartbeats 8000000 in
theorem others_seq (c1 c2 g be ce bs cs rb rc : Nat) (s : RoS) (x : Nat) (w0 : World) (h : OtH c1 c2 g be ce bs cs rb rc s x w0) (hx : x < s.n) (hc : s.n ≤ ce ∧ s.n ≤ cs ∧ s.n ≤ rc) (hn : s.n ≤ 16) :
    SeqW Try.prog 107 #[.pointer (some ⟨c1, 0, none⟩), .pointer (some ⟨c2, 0, none⟩)] (oEnc rb) none (OtG s x) (fun xs => xs = othL s x) (fun _ => True) (fun _ _ _ W' => OtH c1 c2 g be ce bs cs rb rc s x W') w0 := by
  intro l J Jx W hW hJ hJx hY h0
  have HJ := Lib.hid hJ
  have HY := Lib.hid hY
  have S0 := Lib.hid (h.keep hW)
  obtain ⟨n, hnn⟩ : ∃ n, s.n = n := ⟨_, rfl⟩
  have HN := Lib.hid hnn
  have x1 := S0.out.c1
  have x2 := S0.out.g1
  rw [hnn] at hx hc hn x2
  obtain ⟨hc1, hc2, hc3⟩ := hc
  clear hJ hJx hY hW h hnn
  refine callsIn_wide.2 ?_
  show Calls Try.prog 107 #[.func (.yield l) #[] #[], .pointer (some ⟨c1, 0, none⟩), .pointer (some ⟨c2, 0, none⟩)] W _
  go_enter Try.func107, Try.ntmps107
  go_wp2_with fail
  clear x1 x2
  go_loopw [12] (fun s12 wr => ∃ (k : Nat), k ≤ n ∧ s12 = .int .i64 k ∧ J ((List.range k).filter (dueB s x)) wr ∧ Hid (OtH c1 c2 g be ce bs cs rb rc s x wr)) (fun s12 _ => n - (intOf s12).toNat)
  case atStart => exact ⟨0, by omega, rfl, h0, S0⟩
  case round =>
    obtain ⟨k, hk, rfl, hJp, HS⟩ := hrel
    have HJP := Lib.hid hJp
    clear hJp
    by_cases hlt : k < n
    · have hki : (k : Int) < n := by omega
      obtain ⟨e0, e1⟩ := HS.out.e k (by rw [HN.out]; exact hlt)
      obtain ⟨ve, hve⟩ : ∃ v, s.ve k = v := ⟨_, rfl⟩
      obtain ⟨tx, htx⟩ : ∃ v, s.tx k = v := ⟨_, rfl⟩
      obtain ⟨kn, hkn⟩ : ∃ v, s.kn x k = v := ⟨_, rfl⟩
      rw [hve] at e0
      rw [htx] at e1
      have HD : Hid (dueB s x k = (decide (k ≠ x) && decide (kn < ve))) := Lib.hid (by unfold dueB; rw [hve, hkn])
      have HKN := Lib.hid hkn
      clear hve htx hkn
      go_upto_region 3 with (fail)
      generalize hV : World.alloc wr _ = V
      have BV : Hid (Below wr.heap.size wr V) := Lib.hid (by rw [← hV]; exact (Below.refl _ _).alloc (Nat.le_refl _) _)
      have x5 : V.heap[wr.heap.size]? = some (.cells #[.int .i64 ve, .string tx] 148 (0, 0)) := by rw [← hV]; exact alloc_blk_new
      obtain ⟨g5, hg5⟩ : ∃ g5, wr.heap.size = g5 := ⟨_, rfl⟩
      rw [hg5] at x5 ⊢
      have X5 := Lib.hid x5
      have HV := Lib.hid (HS.out.keep BV.out)
      have y1 := HV.out.c1
      have y2 := HV.out.c2
      have y3 := HV.out.g2
      have y4 := HV.out.sl
      rw [HN.out] at y3 y4
      have hxi : (x : Int) < n := by omega
      clear hV hg5 x5 e0 e1
      go_quiet (fail)
      generalize hW : V.drewN _ = V2
      have B2 : Hid (Below V.heap.size V V2) := Lib.hid (by rw [← hW]; exact below_drewN0 (Below.refl _ _) _)
      clear hW y1 y2 y3 y4
      have H2 := Lib.hid (HV.out.keep B2.out)
      have X2 := Lib.hid (Below.blk B2.out X5.out (lt_of_block X5.out))
      have BW := Lib.hid (BV.out.trans (B2.out.mono BV.out.size))
      clear HV X5 BV B2
      have y2 := H2.out.c2
      have y5 : V2.cell? ⟨g5, 0, none⟩ = some (.int .i64 ve) := cell_blk X2.out
      have y6 := H2.out.k k (by rw [HN.out]; exact hlt)
      rw [HKN.out] at y6
      have j1 : IntKind.i64.wrap ((k : Int) + 1) = (k : Int) + 1 := IntWalk.i64_in _ (by omega)
      by_cases hkx : k = x
      · have t1 : ((k : Int) = (x : Int)) = True := eq_true (by omega)
        have HF : Hid ((List.range (k + 1)).filter (dueB s x) = (List.range k).filter (dueB s x)) := Lib.hid (by rw [filter_step, if_neg (by rw [HD.out]; simp [hkx])])
        clear hkx
        go_upto_region 4 with (fail)
        go_quiet (fail)
        generalize hW : V2.drewN _ = V3
        have B3 : Hid (Below V2.heap.size V2 V3) := Lib.hid (by rw [← hW]; exact below_drewN0 (Below.refl _ _) _)
        clear hW y2 y5 y6
        have H3 := Lib.hid (H2.out.keep B3.out)
        have J3 : Hid (J ((List.range (k + 1)).filter (dueB s x)) V3) := Lib.hid (by rw [HF.out]; exact HJ.out _ _ _ HJP.out (But.of_below (BW.out.trans (B3.out.mono BW.out.size))))
        clear B3 BW H2 X2 HF HJP HS
        go_wp2_with fail
        go_roundw
        case rel => exact ⟨k + 1, hlt, by go_num, J3.out, H3⟩
        case measure => simp [intOf] <;> omega
      · have t1 : ((k : Int) = (x : Int)) = False := eq_false (by omega)
        have t3 : ((k : Int) != (x : Int)) = true := by simp; omega
        by_cases hl2 : kn < ve
        · have t2 : (kn < ve) = True := eq_true hl2
          have hdu : dueB s x k = true := by rw [HD.out]; simp [hkx, hl2]
          obtain ⟨suf, hsuf⟩ := range_split (dueB s x) n k hlt hdu
          have HF : Hid ((List.range (k + 1)).filter (dueB s x) = (List.range k).filter (dueB s x) ++ [k]) := Lib.hid (by rw [filter_step, if_pos hdu])
          have hne : Nonempty { w' : World // Below V2.heap.size V2 w' } := ⟨⟨_, Below.refl _ _⟩⟩
          have z2 : ∀ z : { w' : World // Below V2.heap.size V2 w' }, z.1.cell? ⟨c2, 0, none⟩ = some (.int .i64 x) := fun z => cell_keep z.2 y2
          have z5 : ∀ z : { w' : World // Below V2.heap.size V2 w' }, z.1.cell? ⟨g5, 0, none⟩ = some (.int .i64 ve) := fun z => cell_keep z.2 y5
          have z6 : ∀ z : { w' : World // Below V2.heap.size V2 w' }, z.1.cell? ⟨rb, k * 3, none⟩ = some (.int .i64 kn) := fun z => cell_keep z.2 y6
          have BD : Hid (Below wr.heap.size wr V2.drew) := Lib.hid BW.out.drew
          obtain ⟨fn, tmps, assign, body, hy, hR⟩ := HY.out _ k wr V2.drew HJP.out (But.of_below BD.out) ⟨⟨suf, by unfold othL; rw [HN.out]; exact hsuf⟩, BD.out⟩
          simp only [oEnc] at hy
          have HR := Lib.hid hR
          clear hR hsuf hdu hl2 hkx y2 y5 y6
          go_upto_region 4 with (fail)
          refine (wpIn_wide (n := 0)).1 ?_
          refine MixC.wpIn_region_mix_tail MixC.WideF.wide 16 [] (Below V2.heap.size V2) (Below.refl _ _).drew (by kernel_rfl) (by kernel_rfl) (by kernel_rfl) (by kernel_rfl) ?_
          simp only [List.take_succ_cons, List.take_zero, List.drop_succ_cons, List.drop_zero]
          (iterate 16 (refine MixC.mix_read rfl (fun K hK => ?_); go_simp; refine hK _ ?_; clear hK K))
          refine MixC.mix_nil ?_
          clear z2 z5 z6 hne
          gi_wp2_with fail
          refine ⟨rfl, HR.out.mono ?_⟩
          clear hy
          rintro e W' (⟨rfl, hJ', hk'⟩ | ⟨rfl, hJx'⟩)
          · have HJ2 : Hid (J ((List.range (k + 1)).filter (dueB s x)) W') := Lib.hid (by rw [HF.out]; exact hJ')
            have S3 := Lib.hid hk'
            clear hJ' hk' HF
            gi_wp2_with fail
            go_wp2_with fail
            refine ⟨⟨k + 1, hlt, by go_num, HJ2.out, S3⟩, by simp [intOf] <;> omega⟩
          · gi_wp2_with fail
            go_wp2_with fail
            refine bodyPost_ret (results_none rfl _ _ _) rfl ?_
            exact ⟨⟨_, rfl⟩, .inr ⟨_, trivial, hJx'⟩⟩
        · have t2 : (kn < ve) = False := eq_false hl2
          have HF : Hid ((List.range (k + 1)).filter (dueB s x) = (List.range k).filter (dueB s x)) := Lib.hid (by rw [filter_step, if_neg (by rw [HD.out]; simp [hl2])])
          clear hl2 hkx
          go_upto_region 4 with (fail)
          go_quiet (fail)
          generalize hW : V2.drewN _ = V3
          have B3 : Hid (Below V2.heap.size V2 V3) := Lib.hid (by rw [← hW]; exact below_drewN0 (Below.refl _ _) _)
          clear hW y2 y5 y6
          have H3 := Lib.hid (H2.out.keep B3.out)
          have J3 : Hid (J ((List.range (k + 1)).filter (dueB s x)) V3) := Lib.hid (by rw [HF.out]; exact HJ.out _ _ _ HJP.out (But.of_below (BW.out.trans (B3.out.mono BW.out.size))))
          clear B3 BW H2 X2 HF HJP HS
          go_wp2_with fail
          go_roundw
          case rel => exact ⟨k + 1, hlt, by go_num, J3.out, H3⟩
          case measure => simp [intOf] <;> omega
    · obtain rfl : n = k := by omega
      clear hlt
      go_wp2_with fail
      go_end0
      exact ⟨⟨_, rfl⟩, .inl ⟨_, by unfold othL; rw [HN.out], HJP.out⟩⟩
end Go.Proofs.Ytihbceippcgfgaa
