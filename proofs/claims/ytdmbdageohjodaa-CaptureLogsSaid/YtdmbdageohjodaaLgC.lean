/-
  Chapter 45: Log.File.
-/
import Derived.Test.YtdmbdageohjodaaLgB
namespace Go.Proofs.Ytdmbdageohjodaa
open Go.RowKit
set_option linter.unusedVariables false
set_option linter.unusedSimpArgs false
attribute [local irreducible] wpStill wpQuiet MixC.wpMix MixC.wpPick MixC.wpPickT
attribute [local go_sem] MixC.rdOp MixC.rd MixC.rdUpon MixC.mvUpon

instance : Inhabited Sl := ⟨⟨none, 0, 0, fun _ => 0⟩⟩
theorem cats_list (l : List Sl) : cats (fun i => l.getD i default) l.length = l.flatMap Sl.l := by
  have h : (List.range l.length).map (fun i => l.getD i default) = l := by
    apply List.ext_getElem?
    intro i
    rw [List.getElem?_map]
    by_cases h : i < l.length
    · rw [List.getElem?_range h, List.getElem?_eq_getElem h]; simp [h]
    · rw [List.getElem?_eq_none (by simpa using h), List.getElem?_eq_none (by omega)]; rfl
  unfold cats
  conv => rhs; rw [← h]
  rw [List.flatMap_map]
theorem flat_tot (l : List Sl) : (l.flatMap Sl.l).length = tot l := by
  induction l with
  | nil => rfl
  | cons s l ih => rw [List.flatMap_cons, List.length_append, ih, Sl.l_len]; rfl
/-- a row of slices, as slices -/
theorem sls_of {w : World} {base : Nat} {a : Option Addr} {c m : Nat} {L : List Sl} (h : w.ownsRow base 56 1 (.slice a m c) m (slVs L)) (hm : m ≤ 10000) (hb : ∀ s ∈ L, BS w.heap.size w s.a s.n s.c s.Z) : L.length = m ∧ Sls w.heap.size w a m c (fun i => L.getD i default) := by
  have hl : L.length = m := by have := h.1; rw [slVs_len] at this; omega
  refine ⟨hl, ?_⟩
  have hget : ∀ i, i < m → L.getD i default ∈ L ∧ (slVs L)[i]? = some (L.getD i default).v := fun i hi => by
    have hi' : i < L.length := by omega
    have e : L.getD i default = L[i] := by simp [hi']
    rw [e]
    refine ⟨List.getElem_mem hi', ?_⟩
    unfold slVs
    rw [List.getElem?_map, List.getElem?_eq_getElem hi']; rfl
  rcases Nat.eq_zero_or_pos m with h0 | h0
  · subst h0
    rcases h.2 with ⟨hv, _⟩ | ⟨g, cap, cur, hv, hg, hh, hn, hcap, _⟩
    · injection hv with e1 _ e3
      subst e1 e3
      exact ⟨by omega, by omega, fun i hi => by omega, 0, 0, fun h => by omega, fun i hi => by omega⟩
    · have hlt := (h.lt g (by rw [hv]; rfl)).2
      injection hv with e1 _ e3
      subst e1 e3
      exact ⟨by omega, by unfold maxLen at hcap; omega, fun i hi => by omega, g, 0, fun _ => ⟨rfl, hlt⟩, fun i hi => by omega⟩
  · obtain ⟨g, rfl, _, hlt, _, hc, hcell⟩ := own_pos h h0
    have hmx : c ≤ maxLen := by
      rcases h.2 with ⟨hv, _⟩ | ⟨g, cap, cur, hv, hg, hh, hn, hcap, _⟩
      · cases hv
      · injection hv with _ _ e3; omega
    unfold maxLen at hmx
    exact ⟨hc, by omega, fun i hi => hb _ (hget i hi).1, g, 0, fun _ => ⟨rfl, hlt⟩, fun i hi => by rw [Nat.zero_add]; exact hcell i _ (hget i hi).2⟩
def FilePost (F : List Int) (w : World) (e : Ending) (w' : World) : Prop := ∃ a c, e = .returned (.slice a F.length c) ∧ w'.ownsRow w.heap.size 5 1 (.slice a F.length c) F.length (u8s F) ∧ Below w.heap.size w w'
set_option maxRecDepth 100000 in
set_option maxHeartbeats 4000000 in
theorem file45_any (g : Nat) (mx : Int) (L : List Sl) (al : Option Addr) (cl : Nat) (w : World) (LS : LogS g mx L al cl w) (hL : L.length ≤ 1000) (hT : tot L ≤ 999994) :
    Calls Try.prog 38 #[.pointer (some ⟨g, 0, none⟩)] w (FilePost (begL ++ L.flatMap Sl.l) w) := by
  have HL := Lib.hid LS
  have hgl := lt_of_block LS.blk
  obtain ⟨F, hF⟩ : ∃ F, begL ++ L.flatMap Sl.l = F := ⟨_, rfl⟩
  have HF := Lib.hid hF
  rw [hF]
  clear LS hF
  have C0 : Hid (HasO g (logO mx (.slice al L.length cl) (6 + (tot L : Nat))) w.drew) := Lib.hid HL.out.blk
  have hne : Nonempty { w' : World // HasO g (logO mx (.slice al L.length cl) (6 + (tot L : Nat))) w' } := ⟨⟨_, C0.out⟩⟩
  have o1 : ∀ z : { w' : World // HasO g (logO mx (.slice al L.length cl) (6 + (tot L : Nat))) w' }, z.1.cell? ⟨g, 1, none⟩ = some (.slice al L.length cl) := fun z => cell_blk z.2
  go_enter Try.func38, Try.ntmps38
  go_upto_region 1 with (fail)
  refine MixC.wp_region_mix [0, 1, 6, 7] (HasO g (logO mx (.slice al L.length cl) (6 + (tot L : Nat)))) C0.out (by kernel_rfl) (by kernel_rfl) (by kernel_rfl) ?_
  refine MixC.mix_move rfl (fun K hK => ?_)
  go_simp
  refine (beg_any w.drew).mono ?_
  rintro e V1 ⟨a1, c1, rfl, ob, b1⟩
  have B1 : Hid (Below w.heap.size w V1) := Lib.hid ((Below.refl _ w).drew.trans b1)
  have C1 : Hid (HasO g (logO mx (.slice al L.length cl) (6 + (tot L : Nat))) V1) := Lib.hid (Below.blk b1 C0.out (lt_of_block C0.out))
  obtain ⟨-, a', c', he, hs⟩ := BS.own ob begL_oct (by omega)
  cases he
  have HS1 := Lib.hid hs
  obtain ⟨WA, hWA⟩ : ∃ WA, V1.alloc (.cells #[.slice a1 6 c1] 56) = WA := ⟨_, rfl⟩
  have BA : Hid (Below V1.heap.size V1 WA) := Lib.hid (by rw [← hWA]; exact (Below.refl _ _).alloc (Nat.le_refl _) _)
  have rowA : WA.ownsRow V1.heap.size 56 1 (.slice (some ⟨V1.heap.size, 0, none⟩) 1 1) 1 [.slice a1 6 c1] := by
    rw [← hWA]
    exact ⟨rfl, .inr ⟨V1.heap.size, 1, #[.slice a1 6 c1], rfl, Nat.le_refl _, alloc_blk_new, Nat.le_refl _, by unfold maxLen; omega, rfl, rfl⟩⟩
  have BWA : Hid (Below w.heap.size w WA) := Lib.hid (B1.out.trans (BA.out.mono B1.out.size))
  have C2 : Hid (HasO g (logO mx (.slice al L.length cl) (6 + (tot L : Nat))) WA) := Lib.hid (Below.blk BA.out C1.out (lt_of_block C1.out))
  have LA := HL.out.keep BWA.out
  obtain ⟨a7, c7, V4, A7, B7⟩ := appS elSl rowA al L.length cl (slVs L) (fun e => by
      rcases LA.row.2 with ⟨hv, _⟩ | ⟨gb, cap, _, hv, _⟩
      · injection hv with _ e2 e3; exact ⟨e2, e3⟩
      · injection hv with e1 _ _; rw [e] at e1; cases e1) (by rw [slVs_len, Nat.mul_one]) (fun ad' e j u hj => by
      have h0 : 0 < L.length := by
        have := (List.getElem?_eq_some_iff.1 hj).1
        rw [slVs_len] at this; omega
      obtain ⟨gb, h1, _, _, _, _, hcell⟩ := own_pos LA.row h0
      rw [e] at h1
      cases h1
      rw [addr_add, Nat.zero_add]
      exact hcell j u hj) (slVs_one _) (by omega) (by omega) BA.out.size
  have B4 : Hid (Below w.heap.size w V4) := Lib.hid (BWA.out.trans (B7.mono (Nat.le_trans B1.out.size (Nat.le_refl _))))
  have C4 : Hid (HasO g (logO mx (.slice al L.length cl) (6 + (tot L : Nat))) V4) := Lib.hid (Below.blk B4.out HL.out.blk hgl)
  have own7 : V4.ownsRow V1.heap.size 56 1 (.slice a7 (1 + L.length) c7) (1 + L.length) (slVs (⟨a1, 6, c1, gz begL⟩ :: L)) := A7.own
  have bs7 : ∀ s ∈ (⟨a1, 6, c1, gz begL⟩ :: L : List Sl), BS V4.heap.size V4 s.a s.n s.c s.Z := fun s hs => by
    have B14 : Below V1.heap.size V1 V4 := BA.out.trans B7
    rcases List.mem_cons.1 hs with h | h
    · subst h; exact (HS1.out.keep B14).mono B14.size
    · exact ((HL.out.bs s h).keep B4.out).mono B4.out.size
  obtain ⟨hl7, sls⟩ := sls_of own7 (by omega) bs7
  have hcat := cats_list (⟨a1, 6, c1, gz begL⟩ :: L : List Sl)
  have hlc : (⟨a1, 6, c1, gz begL⟩ :: L : List Sl).length = 1 + L.length := by simp; omega
  rw [hlc, List.flatMap_cons, show Sl.l ⟨a1, 6, c1, gz begL⟩ = begL from zs_gz begL] at hcat
  have hlen : (begL ++ L.flatMap Sl.l).length = 6 + tot L := by rw [List.length_append, flat_tot]; rfl
  have HCC := Lib.hid (concat_sl V4.heap.size a7 (1 + L.length) c7 _ V4 sls (Nat.le_refl _) (by omega) (by rw [hcat, hlen]; omega) (by rw [hcat, hlen]; omega))
  rw [hcat, HF.out] at HCC
  have HA := Lib.hid A7.run
  have hab : V1.alloc (.cells #[.slice a1 6 c1] 56) = WA := hWA
  clear ob b1 hs hWA rowA LA A7 B7 own7 bs7 hl7 sls hcat hlc hlen
  refine ⟨_, rfl, C1.out, hK _ _ ?_⟩
  clear hK K
  refine MixC.mix_move rfl (fun K hK => ?_)
  go_simp
  refine ⟨C2.out, hK _ _ ?_⟩
  clear hK K
  (iterate 4 (refine MixC.mix_read rfl (fun K hK => ?_); go_simp; refine hK _ ?_; clear hK K))
  refine MixC.mix_move rfl (fun K hK => ?_)
  refine Eq.mpr (if_pos rfl) ?_
  refine mv_app (s := .tmp 4) (x := .tmp 8) (t := 98) rfl rfl rfl HA.out C4.out (hK _ _ ?_)
  clear hK K
  refine MixC.mix_move rfl (fun K hK => ?_)
  go_simp
  refine HCC.out.mono ?_
  rintro e V5 ⟨a8, c8, rfl, o8, b8⟩
  have C5 : Hid (HasO g (logO mx (.slice al L.length cl) (6 + (tot L : Nat))) V5) := Lib.hid (Below.blk b8 C4.out (lt_of_block C4.out))
  have O8 := Lib.hid o8
  have B8 := Lib.hid (B4.out.trans (b8.mono B4.out.size))
  clear o8 b8
  refine ⟨_, rfl, C5.out, hK _ _ ?_⟩
  clear hK K
  (refine MixC.mix_read rfl (fun K hK => ?_); go_simp; refine hK _ ?_; clear hK K)
  refine MixC.mix_nil ?_
  clear o1 hne hab
  go_wp2_with fail
  go_ret
  exact ⟨a8, c8, rfl, World.ownsRow.mono O8.out B4.out.size, B8.out⟩
end Go.Proofs.Ytdmbdageohjodaa
