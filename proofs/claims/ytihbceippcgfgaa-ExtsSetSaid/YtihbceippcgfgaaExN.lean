/-
  Chapter 32: slices.DeleteFunc with Without's closure.
-/
import Derived.Test.YtihbceippcgfgaaExP
namespace Go.Proofs.Ytihbceippcgfgaa
open Go.RowKit
set_option linter.unusedVariables false
set_option linter.unusedSimpArgs false
attribute [local irreducible] wpStill wpQuiet MixC.wpMix
attribute [local go_sem] MixC.rdOp MixC.rd MixC.rdUpon MixC.mvUpon

def DelP (Q : Nat → El) (F : Nat → Int) (m len base : Nat) (w : World) (e : Ending) (w' : World) : Prop :=
  Below base w w' ∧ ∃ v, e = .returned v ∧ w'.ownsRow base 35 2 v (keepE Q F m len).length ((keepE Q F m len).flatMap El.vals)
set_option maxRecDepth 100000 in
set_option maxHeartbeats 4000000 in
theorem del_any (B base : Nat) (a : Option Addr) (len c q : Nat) (Q : Nat → El) (ia : Option Addr) (m ic : Nat) (F : Nat → Int) (w : World) (hF : Ids base w ia m ic F) (hm : m ≤ 100000) (ho : w.ownsRow base 35 2 (.slice a len c) len (elsV Q len)) (hel : Els w.heap.size w a len c Q) (hbs : base ≤ w.heap.size) (hn : len ≤ 10000) (hqb : q < base) (hq : w.cell? ⟨q, 0, none⟩ = some (.slice ia m ic)) :
    Calls Try.prog 72 #[.slice a len c, .func (.func 73) #[] #[.pointer (some ⟨q, 0, none⟩)]] w (DelP Q F m len base w) := by
  have HF : Hid (Ids w.heap.size w ia m ic F) := Lib.hid ⟨hF.le, hF.max, by
    obtain ⟨b, off, h1, h2⟩ := hF.mem
    exact ⟨b, off, fun h => ⟨(h1 h).1, by have := (h1 h).2; omega⟩, h2⟩⟩
  have HE := Lib.hid hel
  have HO := Lib.hid ho
  have HQ := Lib.hid hq
  have HFB := Lib.hid hF
  have hcm := hel.max
  have hcl := hel.le
  clear ho hel hq
  go_enter Try.func72, Try.ntmps72
  go_wp2_with fail
  refine (idxW_any w.heap.size a len c q Q ia m ic F w HF.out hm HE.out (Nat.le_refl _) (by omega) HQ.out).mono ?_
  rintro e w1 ⟨r, rfl, hr, b1⟩
  have B1 := Lib.hid b1
  clear b1
  rcases hr with ⟨k, hk, rfl, hin, hbef⟩ | ⟨rfl, hno⟩
  · have HI := Lib.hid hin
    have HB := Lib.hid hbef
    have hne1 : ((k : Int) == -1) = false := by simp
    have hne2 : ((k : Int) = -1) = False := eq_false (by omega)
    obtain ⟨b, cap, cur, hv, hgb, hh, hlc⟩ : ∃ b cap cur, (Value.slice a len c) = .slice (some ⟨b, 0, none⟩) len cap ∧ base ≤ b ∧ w.heap[b]? = some (.cells cur 35 (0, 0)) ∧ len ≤ cap := by
      rcases HO.out.2 with ⟨_, h0⟩ | ⟨b, cap, cur, h1, h2, h3, h4, _⟩
      · omega
      · exact ⟨b, cap, cur, h1, h2, h3, h4⟩
    injection hv with v1 v2 v3
    subst v1 v3
    have S0 : Hid (DelR Q F m len k (k + 1) (elsV Q len)) := Lib.hid (DelR.start hk hin hbef)
    have O1 : Hid (w1.ownsRow base 35 2 (.slice (some ⟨b, 0, none⟩) len c) len (elsV Q len)) := Lib.hid (own_below HO.out B1.out)
    have HBL := Lib.hid (lt_of_block hh)
    have HGB := Lib.hid hgb
    clear hin hbef hh
    go_wp2_with fail
    go_loopw [5, 6] (fun s5 s6 wr => ∃ (i j : Nat) (xs : List Value), i < j ∧ j ≤ len ∧ s5 = .int .i64 i ∧ s6 = .int .i64 j ∧ Hid (DelR Q F m len i j xs) ∧ Hid (wr.ownsRow base 35 2 (.slice (some ⟨b, 0, none⟩) len c) len xs) ∧ Hid (But (some b) w wr)) (fun _ s6 _ => len - (intOf s6).toNat)
    case atStart => exact ⟨k, k + 1, elsV Q len, by omega, by omega, rfl, by go_num, S0, O1, Lib.hid (But.of_below B1.out)⟩
    case round =>
      clear S0 O1
      obtain ⟨i, j, xs, hij, hj, rfl, rfl, HS, HR, HW⟩ := hrel
      by_cases hlt : j < len
      · have OE := HR.out
        have c0 := OE.cells rfl (j * 2) _ ((HS.out.tail _ (by omega)).trans (elsV_get Q len j hlt).1)
        have c1 := OE.cells rfl (j * 2 + 1) _ ((HS.out.tail _ (by omega)).trans (elsV_get Q len j hlt).2)
        rw [addr_add, Nat.zero_add] at c0 c1
        have hki : (j : Int) < len := by omega
        have BW : Below base w wr := HW.out.below hbs (fun g e => by cases e; exact HGB.out)
        have hq2 : wr.cell? ⟨q, 0, none⟩ = some (.slice ia m ic) := Below.cell' BW hqb HQ.out
        have HI2 := Lib.hid (HFB.out.keep BW)
        have hbw : base ≤ wr.heap.size := Nat.le_trans hbs HW.out.size
        have HQ2 := Lib.hid hq2
        clear OE hq2
        go_wp2_with fail
        obtain ⟨W2, hW2⟩ : ∃ W2, wr.alloc (.cells #[.int .i64 (Q j).id, .slice (Q j).a (Q j).n (Q j).c] 35) = W2 := ⟨_, rfl⟩
        rw [hW2]
        obtain ⟨g, hg⟩ : ∃ g, wr.heap.size = g := ⟨_, rfl⟩
        rw [hg]
        have b2 : Below wr.heap.size wr W2 := by rw [← hW2]; exact (Below.refl _ _).alloc (Nat.le_refl _) _
        have k2 : W2.heap[g]? = some (.cells #[.int .i64 (Q j).id, .slice (Q j).a (Q j).n (Q j).c] 35 (0, 0)) := by rw [← hW2, ← hg]; exact alloc_blk_new
        refine (without1_any base ia m ic q F (Q j) W2 (HI2.out.keep (b2.mono hbw)) (Nat.le_trans hbw b2.size) hm (Below.cell' (b2.mono hbw) hqb HQ2.out)).mono ?_
        rintro e V ⟨u, rfl, hu, b3⟩
        have b4 : Below wr.heap.size wr V := b2.trans (b3.mono b2.size)
        have HU := Lib.hid hu
        have OV : Hid (V.ownsRow base 35 2 (.slice (some ⟨b, 0, none⟩) len c) len xs) := Lib.hid (own_below HR.out b4)
        have WV : Hid (But (some b) w V) := Lib.hid (HW.out.trans (But.of_below b4))
        have kV : V.heap[g]? = some (.cells #[.int .i64 (Q j).id, .slice (Q j).a (Q j).n (Q j).c] 35 (0, 0)) := Below.blk b3 k2 (lt_of_block k2)
        have v0 : V.cell? ⟨g, 0, none⟩ = some (.int .i64 (Q j).id) := cell_blk kV
        have v1 : V.cell? ⟨g, 1, none⟩ = some (.slice (Q j).a (Q j).n (Q j).c) := cell_blk kV
        clear hu b2 b3 b4 k2 kV hW2 c0 c1
        cases u with
        | true =>
          have S2 : Hid (DelR Q F m len i (j + 1) xs) := Lib.hid (HS.out.pass (HU.out.1 rfl))
          go_wp2_with fail
          go_roundw
          case rel => exact ⟨i, j + 1, xs, by omega, by omega, rfl, by go_num, S2, OV, WV⟩
          case measure => simp [intOf] <;> omega
        | false =>
          obtain ⟨cur2, hh⟩ : ∃ cur2, V.heap[b]? = some (.cells cur2 35 (0, 0)) := by
            rcases OV.out.2 with ⟨h0, _⟩ | ⟨b', cap, cur, h1, h2, h3, _⟩
            · cases h0
            · cases h1; exact ⟨cur, h3⟩
          have hxl := HS.out.size
          obtain ⟨y0, hy0⟩ : ∃ y, xs[i * 2]? = some y := ⟨_, List.getElem?_eq_getElem (by omega)⟩
          obtain ⟨y1, hy1⟩ : ∃ y, xs[i * 2 + 1]? = some y := ⟨_, List.getElem?_eq_getElem (by omega)⟩
          have OE := OV.out
          have c0 := OE.cells rfl (i * 2) _ hy0
          have c1 := OE.cells rfl (i * 2 + 1) _ hy1
          rw [addr_add, Nat.zero_add] at c0 c1
          have f0 : V.frozen? ⟨b, i * 2, none⟩ = false := free_blk hh
          have hh5 := set_blk (i := i * 2) (.int .i64 (Q j).id) hh
          have o5 := own_setE (own_setE OE (i * 2) (.int .i64 (Q j).id)) (i * 2 + 1) (.slice (Q j).a (Q j).n (Q j).c)
          have ne5 : ∀ t, t ≠ i * 2 → (V.setCell ⟨b, i * 2, none⟩ (.int .i64 (Q j).id)).cell? ⟨b, t, none⟩ = V.cell? ⟨b, t, none⟩ := fun t ht => by
            unfold World.cell?
            rw [hh5, hh]
            simp [Array.getElem?_setIfInBounds, Ne.symm ht]
          have c2' : (V.setCell ⟨b, i * 2, none⟩ (.int .i64 (Q j).id)).cell? ⟨b, i * 2 + 1, none⟩ = some y1 := (ne5 _ (by omega)).trans c1
          have f1 : (V.setCell ⟨b, i * 2, none⟩ (.int .i64 (Q j).id)).frozen? ⟨b, i * 2 + 1, none⟩ = false := free_blk hh5
          have S2 : Hid (DelR Q F m len (i + 1) (j + 1) _) := Lib.hid (HS.out.move (fun h => by have := HU.out.2 h; cases this) hlt)
          have O5 := Lib.hid o5
          have W5 : Hid (But (some b) w ((V.setCell ⟨b, i * 2, none⟩ (.int .i64 (Q j).id)).setCell ⟨b, i * 2 + 1, none⟩ (.slice (Q j).a (Q j).n (Q j).c))) := Lib.hid ((WV.out.set _ _).set _ _)
          have hii : (i : Int) < len := by omega
          clear OE o5 ne5 hh hh5 hy0 hy1
          go_wp2_with fail
          go_roundw
          case rel => exact ⟨i + 1, j + 1, _, by omega, by omega, by go_num, by go_num, S2, O5, W5⟩
          case measure => simp [intOf] <;> omega
      · have : j = len := by omega
        subst this
        clear hlt
        have hsl : ∀ W, (Instr.slice 22 (.slice (some ⟨b, 0, none⟩) j c) (some (.int .i64 i)) none none).run Try.prog W = .ok (.slice (some ⟨b, i * 2, none⟩) (j - i) (c - i)) W := fun W => by
          rw [sl_from Try.underlying22 sizeEl _ j c i (by omega), if_neg (by omega)]
          simp [addr_add]
        have hsu : ∀ W, (Instr.slice 22 (.slice (some ⟨b, 0, none⟩) j c) none (some (.int .i64 i)) none).run Try.prog W = .ok (.slice (some ⟨b, 0, none⟩) i c) W := fun W => by
          rw [sl_upto Try.underlying22 sizeEl _ j c i (by omega), if_neg (by omega)]
          simp [addr_add]
        obtain ⟨z9, hzl, hclr0⟩ := run_clear_wide (P := Try.prog) 22 35 (.agg #[.int .i64 0, .slice none 0 0]) Try.underlying22 zeroEl (by decide) (fun t ht => by
          have ht2 : t < 2 := ht
          rcases (by omega : t = 0 ∨ t = 1) with rfl | rfl <;> rfl) b (i * 2) (j - i) (c - i) (by omega)
        have hcs : ∀ t, t < (j - i) * 2 → (wr.cell? ⟨b, i * 2 + t, none⟩).isSome = true ∧ wr.frozen? ⟨b, i * 2 + t, none⟩ = false := fun t ht => own_cells_some HR.out (i * 2 + t) (by omega)
        have hclr := hclr0 wr (fun t ht => (hcs t ht).1) (fun t ht => (hcs t ht).2)
        have hown := own_front (zs := z9) HR.out (show i ≤ j by omega)
        have hbut := setC_but b z9 (i * 2) wr w HW.out
        have hbel := hbut.below hbs (fun g e => by cases e; exact HGB.out)
        obtain ⟨d1, d2⟩ := HS.out.done
        rw [d2] at hown
        have FO : Hid ((keepE Q F m j).length = i ∧ Below base w (wr.setCells b (i * 2) z9) ∧ (wr.setCells b (i * 2) z9).ownsRow base 35 2 (.slice (some ⟨b, 0, none⟩) i c) i ((keepE Q F m j).flatMap El.vals)) := Lib.hid ⟨d1, hbel, hown⟩
        have hil : (i : Int) ≤ j := by omega
        have hic : (i : Int) ≤ c := by omega
        clear hclr0 hcs hzl hown hbut hbel d1 d2
        go_wp2_with fail
        go_ret
        obtain ⟨f1, f2, f3⟩ := FO.out
        refine ⟨f2, _, rfl, ?_⟩
        rw [f1]
        exact f3
  · have HN := Lib.hid hno
    clear hno
    go_wp2_with fail
    go_ret
    have hke := keepE_all HN.out
    refine ⟨B1.out.mono hbs, _, rfl, ?_⟩
    rw [hke, flat_range, List.length_map, List.length_range]
    exact own_below HO.out B1.out
end Go.Proofs.Ytihbceippcgfgaa
