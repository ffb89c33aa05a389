/-
  Chapter 44: the places that conflict, rising: places.
-/
import Derived.Test.YtkoplofcjbeicaaCoK
import Derived.Shelf.SlSortCmp.NoneTotal
namespace Go.Proofs.Ytkoplofcjbeicaa
open Go.RowKit
set_option linter.unusedVariables false
set_option linter.unusedSimpArgs false
attribute [local irreducible] wpStill wpQuiet MixC.wpMix

theorem sort_none (w : World) : Calls Try.prog 87 #[.slice none 0 0, .func (.func 88) #[] #[]] w fun e w' => e = .returned (.tuple #[]) ∧ w' = w :=
  AnyF.slices_SortFunc_none Try.sortTup none 0 _ w
theorem own_pq {w : World} {base : Nat} {e : TypeId} {size : Nat} {v : Value} {n : Nat} {xs : List Value} (h : w.ownsRow base e size v n xs) (hn : 0 < n) :
    ∃ g cap, v = .slice (some ⟨g, 0, none⟩) n cap ∧ base ≤ g ∧ g < w.heap.size ∧ n ≤ cap ∧ cap ≤ 9223372036854775807 := by
  have hlt := h.lt
  obtain ⟨h1, h2⟩ := h
  rcases h2 with ⟨_, h0⟩ | ⟨g, cap, cur, hv, hg, hh, hn2, hcap, hsz, _⟩
  · omega
  · exact ⟨g, cap, hv, hg, lt_of_block hh, hn2, by unfold maxLen at hcap; omega⟩
/-- the places of C, rising -/
structure Sorted (C : Plc → Option Value) (M : List Plc) : Prop where
  nd : M.Nodup
  up : M.Pairwise (fun x y => ltOf cmpP y x = false)
  is : ∀ x, x ∈ M → plok x
  iff : ∀ x, plok x → (x ∈ M ↔ (C x).isSome = true)
def PlcP (C : Plc → Option Value) (w : World) (e : Ending) (w' : World) : Prop :=
  Below w.heap.size w w' ∧ ∃ M, Sorted C M ∧ M.length ≤ 1000 ∧ ((M = [] ∧ e = .returned (.slice none 0 0)) ∨ ∃ b c, w.heap.size ≤ b ∧ M ≠ [] ∧ e = .returned (.slice (some ⟨b, 0, none⟩) M.length c) ∧ TRow w' b M.length c (fun i => M[i]!))
set_option maxRecDepth 100000 in
set_option maxHeartbeats 4000000 in
theorem places_any (B g ms mc N : Nat) (own kp : Int) (S : Int → Option Value) (ns : Nat) (C : Plc → Option Value) (nc : Nat) (w : World) (h : BK B g ms mc N own kp S ns C nc w) (hC : ∀ x v, C x = some v → ∃ t : Int, v = .int .i64 t) (hnc : nc ≤ 1000) :
    Calls Try.prog 68 #[.pointer (some ⟨g, 0, none⟩)] w (PlcP C w) := by
  obtain ⟨W1, hrun, hR, hB, hsz⟩ := h.con.range (k := tupKey) Try.underlying113
  have c3 : w.cell? ⟨g, 3, none⟩ = some (.map (some mc)) := cell_blk h.blk
  have H := Lib.hid h
  have HR := Lib.hid hR
  have HB := Lib.hid hB
  have HC := Lib.hid hC
  have HSZ := Lib.hid hsz
  clear h hR hB hC hsz
  go_enter Try.func68, Try.ntmps68
  go_wp2_with fail
  go_loopw [3, 4] (fun s3 s4 wx => ∃ (L : List Plc) (a : Option Addr) (c : Nat) (left : Plc → Bool) (cnt : Nat), s3 = .slice a L.length c ∧ (L = [] → a = none ∧ c = 0) ∧ L.length + cnt ≤ nc ∧ Hid (wx.ownsRow (w.heap.size + 1) 43 2 (.slice a L.length c) L.length (tvs L)) ∧ Hid (RangeI tupKey wx mc w.heap.size N C nc left cnt) ∧ Hid (Col C left L) ∧ Hid (Below w.heap.size w wx) ∧ Hid (w.heap.size + 1 ≤ wx.heap.size)) (fun s3 s4 wx => wx.rangeLeft mc w.heap.size)
  case atStart => exact ⟨[], none, 0, _, nc, rfl, fun _ => ⟨rfl, rfl⟩, by simp, Lib.hid (World.ownsRow_nil _ _ _ _), HR, Lib.hid (Col.start C), HB, Lib.hid (by rw [HSZ.out]; exact Nat.le_refl _)⟩
  case round =>
    obtain ⟨L, a, c, left, cnt, rfl, hnil, hle, HO, HR, HL, HB, HS⟩ := hrel
    rcases HR.out.next 0 with ⟨r1, r2, r3⟩ | ⟨x, v, w2, cnt2, hx, hl, hf, r3, hR2, hlt, k2, hs2, hen⟩
    · clear r1
      have HL2 := Lib.hid r2
      have HN := Lib.hid hnil
      clear r2 hnil
      go_wp2_with fail
      by_cases hL : L = []
      · subst hL
        obtain ⟨rfl, rfl⟩ := HN.out rfl
        refine (sort_none wr).mono ?_
        rintro e w5 ⟨rfl, rfl⟩
        go_wp2_with fail
        go_ret
        refine ⟨HB.out, [], ⟨List.nodup_nil, List.Pairwise.nil, fun x h => by simp at h, fun x hx => ?_⟩, Nat.zero_le _, .inl ⟨rfl, rfl⟩⟩
        rw [HL.out.iff x hx, HL2.out x hx]
        simp
      · have hl0 : 0 < L.length := List.length_pos_iff.2 hL
        obtain ⟨b, c', he, hb1, hb2, hb3, hb4⟩ := own_pq HO.out hl0
        injection he with e1 e2 e3
        subst e1 e3
        refine (sort_any L (w.heap.size + 1) b c wr HO.out hb2 (by omega) hb3 hb4).mono ?_
        rintro e w5 ⟨rfl, hbut, M, hp, hs, hrow⟩
        have hml : M.length = L.length := hp.length_eq
        rw [← hml] at hrow
        have HML := Lib.hid hml
        have HROW := Lib.hid hrow
        have HBW : Hid (Below w.heap.size w w5) := Lib.hid (HB.out.trans (hbut.below HB.out.size (fun k e => by injection e with e; omega)))
        have HMS : Hid (Sorted C M) := Lib.hid ⟨hp.nodup_iff.2 HL.out.nd, hs, fun x hx => HL.out.is x (hp.mem_iff.1 hx), fun x hx => by
          rw [hp.mem_iff, HL.out.iff x hx, HL2.out x hx]; simp⟩
        have HNE : Hid (M ≠ []) := Lib.hid (fun e => by rw [e] at hml; simp at hml; omega)
        have HBB : Hid (w.heap.size ≤ b ∧ M.length ≤ 1000) := Lib.hid (by omega)
        clear hrow hbut hp hs hl0 hL hb1 hb2 hb3 hb4 hml
        go_wp2_with fail
        go_ret
        exact ⟨HBW.out, M, HMS.out, HBB.out.2, .inr ⟨b, c, HBB.out.1, HNE.out, by rw [HML.out]; rfl, HROW.out⟩⟩
    · obtain ⟨t, rfl⟩ := HC.out x v hf
      have HR2 := Lib.hid hR2
      have HL2 := Lib.hid (HL.out.step hx hl hf)
      have HLT := Lib.hid hlt
      have HM : Hid (cnt2 < wr.rangeLeft mc w.heap.size) := Lib.hid (by rw [HR.out.cnt_le]; exact hlt)
      have hlr := HR.out.lt
      have hb2 : Below w.heap.size w w2 := HB.out.trans (k2.below (Nat.le_of_lt hlr) (Nat.le_refl _))
      have hO2 : w2.ownsRow (w.heap.size + 1) 43 2 (.slice a L.length c) L.length (tvs L) := own_blk1y HO.out (fun q hq => by
        have := HO.out.lt q hq
        exact k2.block q this.2 (by omega))
      obtain ⟨x1, x2⟩ := x
      have hen' : (Instr.entry (.pointer (some ⟨w.heap.size, 0, none⟩))).run Try.prog w2 = .ok (.tuple #[.agg #[.int .u32 x1, .int .u16 x2], .int .i64 t]) w2 := hen
      have r3' : (Instr.next (.pointer (some ⟨w.heap.size, 0, none⟩)) false 0).run Try.prog wr = .ok (.tuple #[.bool true, .agg #[.int .u32 x1, .int .u16 x2], .int .i64 t]) w2 := r3
      obtain ⟨W3, hW3⟩ : ∃ W3, w2.alloc (.cells #[.int .u32 x1, .int .u16 x2] 43) = W3 := ⟨_, rfl⟩
      have b3 : Below w2.heap.size w2 W3 := by rw [← hW3]; exact (Below.refl _ _).alloc (Nat.le_refl _) _
      have g3 : W3.heap[w2.heap.size]? = some (.cells #[.int .u32 x1, .int .u16 x2] 43 (0, 0)) := by rw [← hW3]; exact alloc_blk_new
      have y0 : W3.cell? ⟨w2.heap.size, 0, none⟩ = some (.int .u32 x1) := cell_blk g3
      have y1 : W3.cell? ⟨w2.heap.size, 1, none⟩ = some (.int .u16 x2) := cell_blk g3
      have hO3 := own_below hO2 b3
      have hs3 : w.heap.size + 1 ≤ W3.heap.size := by have := HS.out; have := b3.size; omega
      obtain ⟨a4, c4, W4, A4, B4⟩ := app1 elTup hO3 [.int .u32 x1, .int .u16 x2] rfl (by intro u hu; simp at hu; rcases hu with rfl | rfl <;> rfl) (by omega) (by omega) hs3
      have HRUN := Lib.hid A4.run
      have hne : ∀ q, q < w.heap.size + 1 → q < W3.heap.size → W4.heap[q]? = W3.heap[q]? := fun q hq hl => A4.but.block q hl (fun e => by
        have := hO3.lt q e; omega)
      have HR4 : Hid (RangeI tupKey W4 mc w.heap.size N C nc (fun y => left y && !decide (y = (x1, x2))) cnt2) := Lib.hid (HR2.out.of_blks ((hne _ (by have := H.out.con.lt; omega) (by have := H.out.con.lt; omega)).trans (b3.block _ HR2.out.map.lt)) ((hne _ (by omega) (by omega)).trans (b3.block _ HR2.out.lt)))
      have HO4 : Hid (W4.ownsRow (w.heap.size + 1) 43 2 (.slice a4 (L.length + 1) c4) (L.length + 1) (tvs (L ++ [(x1, x2)]))) := Lib.hid (by rw [tvs_app]; exact A4.own)
      have HB4 : Hid (Below w.heap.size w W4) := Lib.hid ((hb2.trans (b3.mono hb2.size)).trans (B4.mono (Nat.le_succ _)))
      have HS4 : Hid (w.heap.size + 1 ≤ W4.heap.size) := Lib.hid (Nat.le_trans hs3 A4.but.size)
      have HW3 := Lib.hid hW3
      clear hnil hs2 hR2 hlt hl hf k2 hx hen r3 hO2 hO3 b3 g3 A4 B4 hne hW3 hb2 hs3 HR HO HB
      have hW3 := HW3.out
      go_wp2_with (at_builtin; refine wpList_of_append rfl (.tmp 14) (.tmp 16) 68 rfl _ _ _ rfl rfl HRUN.out ?_)
      have hln : (L ++ [(x1, x2)]).length = L.length + 1 := by simp
      refine ⟨⟨L ++ [(x1, x2)], a4, c4, _, cnt2, by rw [hln], fun e => absurd e (by simp), by rw [hln]; have := HLT.out; omega, by rw [hln]; exact HO4, HR4, HL2, HB4, HS4⟩, by rw [HR4.out.cnt_le]; exact HM.out⟩
end Go.Proofs.Ytkoplofcjbeicaa
