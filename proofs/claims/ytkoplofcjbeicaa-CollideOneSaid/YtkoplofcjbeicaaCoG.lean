/-
  Chapter 44: a source that is known is at one place as long as packets come from there; its own number is never known (CollideOne).
-/
import Derived.Test.YtkoplofcjbeicaaCoF
import Derived.Test.YtkoplofcjbeicaaReads
import Derived.Test.YtkoplofcjbeicaaBytes
namespace Go.Proofs.Ytkoplofcjbeicaa
open Go.RowKit
set_option linter.unusedVariables false
set_option linter.unusedSimpArgs false
attribute [local irreducible] wpStill wpQuiet MixC.wpMix

theorem tup_of {w : World} {v : Value} (h : ArgS Try.prog w 43 v) : ∃ x : Plc, v = plv x ∧ plok x := by
  obtain ⟨cs, rfl, h⟩ := h
  obtain ⟨hs, hc⟩ := h 6 [41, 24] (by kernel_rfl)
  obtain ⟨x0, h0, r0⟩ := hc 0 41 rfl
  obtain ⟨x1, h1, r1⟩ := hc 1 24 rfl
  obtain ⟨m0, rfl, k0⟩ := reads_int Try.underlying41 r0
  obtain ⟨m1, rfl, k1⟩ := reads_int Try.underlying24 r1
  have e : cs = #[.int .u32 m0, .int .u16 m1] := by
    apply Array.ext_getElem?
    intro i
    rcases i with _ | _ | i
    · exact h0
    · exact h1
    · rw [Array.getElem?_eq_none (by simp at hs; omega)]; rfl
  subst e
  exact ⟨(m0, m1), rfl, k0, k1⟩
/-- the one source, at a since T -/
def oneS (s : Int) (a : Plc) (T : Int) : Int → Option Value := fun x => if x = s then some (pv a T) else none
/-- the conflict at b, or none -/
def oneC (b : Plc) (o : Option Int) : Plc → Option Value := fun x => if x = b then o.map (Value.int .i64) else none
theorem oneS_set (s : Int) (a : Plc) (T U : Int) : setAt (oneS s a T) s (some (pv a U)) = oneS s a U := by
  funext x; unfold setAt oneS; by_cases e : x = s <;> simp [e]
theorem oneC_set (b : Plc) (o : Option Int) (U : Int) : setAt (oneC b o) b (some (.int .i64 U)) = oneC b (some U) := by
  funext x; unfold setAt oneC; by_cases e : x = b <;> simp [e]
theorem oneS_same (s : Int) (a : Plc) (T : Int) : oneS s a T s = some (pv a T) := by unfold oneS; rw [if_pos rfl]
theorem oneS_other {s x : Int} (a : Plc) (T : Int) (h : x ≠ s) : oneS s a T x = none := by unfold oneS; rw [if_neg h]
theorem oneC_fresh {kp tick : Int} (b : Plc) (o : Option Int) (h : ∀ t, o = some t → -1000 ≤ t ∧ t ≤ 1000 ∧ ¬ kp < tick - t) : Fresh kp tick (oneC b o) := fun x v hx hv => by
  unfold oneC at hv
  by_cases e : x = b
  · rw [if_pos e] at hv
    cases o with
    | none => cases hv
    | some t => simp at hv; exact ⟨t, hv.symm, h t rfl⟩
  · rw [if_neg e] at hv; cases hv
theorem fromV_some (x1 x2 t : Int) : fromV (some (pv (x1, x2) t)) = .tuple #[.agg #[.int .u32 x1, .int .u16 x2], .bool true] := rfl
theorem fromV_none : fromV none = .tuple #[.agg #[.int .u32 0, .int .u16 0], .bool false] := rfl
theorem oneC_is (b : Plc) (o : Option Int) : oneC b o b = o.map (Value.int .i64) := by unfold oneC; rw [if_pos rfl]
set_option maxRecDepth 100000 in
set_option maxHeartbeats 8000000 in
theorem CollideOne.walk (own s : Int) (va vb : Value) (keep : Int) (ad : Option Addr) (len cap : Nat) (z : List Int) (w : World) (w0 : (Lit.int .u32 own).wf = true) (w1 : (Lit.int .u32 s).wf = true) (a2 : ArgS Try.prog w 43 va) (a3 : ArgS Try.prog w 43 vb) (w4 : (Lit.int .u8 keep).wf = true) (r : IsRow .u8 w ad len cap z) :
    Calls Try.prog 10 #[.int .u32 own, .int .u32 s, va, vb, .int .u8 keep, .slice ad len cap] w fun e w' => e = .returned (.bool true) ∧ Below w.heap.size w w' := by
  obtain ⟨⟨x1, x2⟩, rfl, hx⟩ := tup_of a2
  obtain ⟨⟨y1, y2⟩, rfl, hy⟩ := tup_of a3
  obtain ⟨Z, hs⟩ := BS.of_row r
  have HZ := Lib.hid hs
  have hle := hs.le
  have hmx := hs.max
  have hkb := bounds_u8 w4
  unfold plv
  obtain ⟨V0, hV⟩ : ∃ V, (w.alloc (.cells #[.int .u32 x1, .int .u16 x2] 43)).alloc (.cells #[.int .u32 y1, .int .u16 y2] 43) = V := ⟨_, rfl⟩
  have bV : Below w.heap.size w V0 := by rw [← hV]; exact ((Below.refl _ _).alloc (Nat.le_refl _) _).alloc (by simp) _
  have hX := Lib.hid (fun ms mc h1 h2 => bx_new w ms mc (x1, x2) (y1, y2) h1 h2)
  have g1 : V0.heap[w.heap.size]? = some (.cells #[.int .u32 x1, .int .u16 x2] 43 (0, 0)) := by rw [← hV, alloc_blk_old (by simp)]; exact alloc_blk_new
  have g2 : V0.heap[w.heap.size + 1]? = some (.cells #[.int .u32 y1, .int .u16 y2] 43 (0, 0)) := by
    rw [← hV]
    have h := alloc_blk_new (w := w.alloc (.cells #[.int .u32 x1, .int .u16 x2] 43)) (o := .cells #[.int .u32 y1, .int .u16 y2] 43)
    rw [show (w.alloc (.cells #[.int .u32 x1, .int .u16 x2] 43)).heap.size = w.heap.size + 1 by simp] at h
    exact h
  have BV := Lib.hid bV
  have G1 := Lib.hid g1
  have G2 := Lib.hid g2
  clear hs r a2 a3 bV g1 g2 hX
  go_enter Try.func10, Try.ntmps10
  go_wp2_with fail
  try rw [hV]
  clear hV
  refine (alive44 V0).mono ?_
  rintro e V1 ⟨rfl, b1⟩
  have BV1 := Lib.hid (BV.out.trans (b1.mono BV.out.size))
  have g1 : V1.heap[w.heap.size]? = some (.cells #[.int .u32 x1, .int .u16 x2] 43 (0, 0)) := Below.blk b1 G1.out (lt_of_block G1.out)
  have g2 : V1.heap[w.heap.size + 1]? = some (.cells #[.int .u32 y1, .int .u16 y2] 43 (0, 0)) := Below.blk b1 G2.out (lt_of_block G2.out)
  have a0 : V1.cell? ⟨w.heap.size, 0, none⟩ = some (.int .u32 x1) := cell_blk g1
  have a1 : V1.cell? ⟨w.heap.size, 1, none⟩ = some (.int .u16 x2) := cell_blk g1
  have e0 : V1.cell? ⟨w.heap.size + 1, 0, none⟩ = some (.int .u32 y1) := cell_blk g2
  have e1 : V1.cell? ⟨w.heap.size + 1, 1, none⟩ = some (.int .u16 y2) := cell_blk g2
  clear b1 BV G1 G2
  by_cases ho : own = s
  · have t1 : decide (own = s) = true := by simp [ho]
    have t1' : (own == s) = true := by simp [ho]
    subst ho
    go_wp2_with fail
    go_ret
    exact ⟨rfl, BV1.out⟩
  by_cases hab : ((x1, x2) : Plc) = (y1, y2)
  · have t1 : decide (own = s) = false := by simp [ho]
    have t1' : (own == s) = false := by simp [ho]
    have heq : ∀ W : World, (Op.equalIn 10000 43 (.agg #[.int .u32 x1, .int .u16 x2]) (.agg #[.int .u32 y1, .int .u16 y2])).run Try.prog W = .ok true W := fun W => by rw [eqin_plc (x1, x2) (y1, y2)]; simp [hab]
    clear hab ho
    go_wp2_with fail
    go_ret
    exact ⟨rfl, BV1.out⟩
  · have t1 : decide (own = s) = false := by simp [ho]
    have t1' : (own == s) = false := by simp [ho]
    have heq : ∀ W : World, (Op.equalIn 10000 43 (.agg #[.int .u32 x1, .int .u16 x2]) (.agg #[.int .u32 y1, .int .u16 y2])).run Try.prog W = .ok false W := fun W => by rw [eqin_plc (x1, x2) (y1, y2)]; simp [hab]
    have HN := Lib.hid hab
    have HO := Lib.hid ho
    clear hab ho
    go_wp2_with fail
    obtain ⟨kp, hkp⟩ : ∃ kp, (1 ≤ keep ∧ kp = keep) ∨ (keep < 1 ∧ kp = 1) := by
      by_cases h : 1 ≤ keep
      · exact ⟨_, .inl ⟨h, rfl⟩⟩
      · exact ⟨_, .inr ⟨by omega, rfl⟩⟩
    have hk1 : 1 ≤ kp := by omega
    have HKP := Lib.hid hk1
    refine (new_book own keep kp V1 hkp).mono ?_
    rintro e V2 ⟨rfl, hb, b2⟩
    clear hkp hk1
    obtain ⟨g, hg⟩ : ∃ g, g = V1.heap.size + 1 + 1 := ⟨_, rfl⟩
    obtain ⟨mc, hmc⟩ : ∃ mc, mc = V1.heap.size + 1 := ⟨_, rfl⟩
    obtain ⟨ms, hms⟩ : ∃ ms, ms = V1.heap.size := ⟨_, rfl⟩
    have hb' : BK V1.heap.size g ms mc 0 own kp (fun _ => none) 0 (fun _ => none) 0 V2 := by rw [hg, hmc, hms]; exact hb
    have l1 := lt_of_block g1
    have l2 := lt_of_block g2
    have hx2 : Bx w.heap.size (w.heap.size + 1) ms mc (x1, x2) (y1, y2) V2 := ⟨Below.blk b2 g1 l1, Below.blk b2 g2 l2, by omega, by omega, by omega, by omega⟩
    rw [← hg]
    have HX := Lib.hid hx2
    have HB := Lib.hid hb'
    have BV2 := Lib.hid (BV1.out.trans (b2.mono BV1.out.size))
    have LM : Hid (w.heap.size ≤ ms ∧ w.heap.size ≤ mc) := Lib.hid ⟨by omega, by omega⟩
    clear hb hb' b2 hg hmc hms hx2 l1 l2 g1 g2 a0 a1 e0 e1
    have z0 := HX.out.a0
    have z1 := HX.out.a1
    go_wp2_with fail
    refine (take_src V1.heap.size g ms mc 0 own kp (fun _ => none) 0 (fun _ => none) 0 V2 HB.out (by omega) s (x1, x2) 0 (by omega) (fresh_nil kp 0) (fun e => HO.out e.symm) w1 0 (setAt (fun _ => none) s (some (pv (x1, x2) 0))) 1 (.new rfl (by omega))).mono ?_
    rintro e V3 ⟨rfl, hb, kq⟩
    have e1 : setAt (fun _ => none) s (some (pv (x1, x2) 0)) = oneS s (x1, x2) 0 := rfl
    rw [e1] at hb
    have HB3 : Hid (BK V1.heap.size g ms mc 1 own kp (oneS s (x1, x2) 0) 1 (oneC (y1, y2) none) 0 V3) := Lib.hid (by
      have : oneC (y1, y2) none = fun _ => none := by funext x; unfold oneC; split <;> rfl
      rw [this]; exact hb)
    have HX3 := Lib.hid (HX.out.kq kq)
    have BV3 := Lib.hid (BV2.out.trans (kq.below LM.out.1 LM.out.2 BV2.out.size))
    clear e1 hb kq HB HX BV2 z0 z1
    go_wp2_with fail
    go_loopw [14, 15] (fun st si wx => ∃ (i T N : Nat) (o : Option Int) (nc : Nat), i ≤ 60 ∧ i ≤ len ∧ T ≤ i ∧ N ≤ 3 * i + 1 ∧ si = .int .i64 i ∧ st = .int .i64 T ∧ Hid (BK V1.heap.size g ms mc N own kp (oneS s (x1, x2) T) 1 (oneC (y1, y2) o) nc wx) ∧ Hid ((o = none ∧ nc = 0) ∨ (o = some (T : Int) ∧ nc = 1)) ∧ Hid (Bx w.heap.size (w.heap.size + 1) ms mc (x1, x2) (y1, y2) wx) ∧ Hid (Below w.heap.size w wx)) (fun _ si _ => 60 - (intOf si).toNat)
    case atStart => exact ⟨0, 0, 1, none, 0, by omega, by omega, by omega, by omega, rfl, rfl, HB3, Lib.hid (.inl ⟨rfl, rfl⟩), HX3, BV3⟩
    case round =>
      clear HB3 HX3 BV3
      obtain ⟨i, T, N, o, nc, hi, hil, hT, hN, rfl, rfl, HB, HC, HX, BW⟩ := hrel
      by_cases hend : i < len ∧ i < 60
      · have d1 : decide ((i : Int) < (len : Int)) = true := by simp; omega
        have d2 : decide ((i : Int) < 60) = true := by simp; omega
        obtain ⟨b, off, rfl, hbl, hcell⟩ := (HZ.out.keep BW.out).at_ (by omega)
        have cz := hcell i hend.1
        have hz := HZ.out.bd i hend.1
        obtain ⟨zi, hzi⟩ := Int.eq_ofNat_of_zero_le hz.1
        rw [hzi] at cz
        have z0 := HX.out.a0
        have z1 := HX.out.a1
        have HZI : Hid (zi ≤ 255) := Lib.hid (by omega)
        clear hcell hz hzi
        go_wp2_with fail
        obtain ⟨U, hU⟩ : ∃ U, U = T + zi % 2 := ⟨_, rfl⟩
        rw [show (T : Int) + (zi : Int) % 2 = (U : Int) by omega]
        have hU1 : U ≤ 60 := by omega
        have hUT : T ≤ U ∧ U ≤ T + 1 := by omega
        have HUU := Lib.hid hUT
        have hfr : Fresh kp U (oneC (y1, y2) o) := oneC_fresh _ _ (fun t ht => by
          rcases HC.out with ⟨h1, -⟩ | ⟨h1, -⟩
          · rw [h1] at ht; cases ht
          · rw [h1] at ht; injection ht with ht; have := HKP.out; omega)
        have HFR := Lib.hid hfr
        clear hU hfr hUT
        refine (take_src V1.heap.size g ms mc N own kp (oneS s (x1, x2) T) 1 (oneC (y1, y2) o) nc wr HB.out (by omega) s (x1, x2) U (by omega) HFR.out (fun e => HO.out e.symm) w1 1 (setAt (oneS s (x1, x2) T) s (some (pv (x1, x2) U))) 1 (.same ⟨T, oneS_same _ _ _⟩)).mono ?_
        rintro e W1 ⟨rfl, hb, kq⟩
        rw [oneS_set] at hb
        have HB1 := Lib.hid hb
        have HX1 := Lib.hid (HX.out.kq kq)
        have BW1 := Lib.hid (BW.out.trans (kq.below LM.out.1 LM.out.2 BW.out.size))
        clear hb kq HB HX BW z0 z1 cz
        have z0 := HX1.out.b0
        have z1 := HX1.out.b1
        go_wp2_with fail
        refine (take_src V1.heap.size g ms mc (N + 1) own kp (oneS s (x1, x2) U) 1 (oneC (y1, y2) o) nc W1 HB1.out (by omega) s (y1, y2) U (by omega) HFR.out (fun e => HO.out e.symm) w1 5 (oneS s (x1, x2) U) 1 (.coll ⟨(x1, x2), U, oneS_same _ _ _, HN.out, by omega, by omega, by have := HKP.out; omega⟩)).mono ?_
        rintro e W2 ⟨rfl, hb, kq⟩
        have HB2 := Lib.hid hb
        have HX2 := Lib.hid (HX1.out.kq kq)
        have BW2 := Lib.hid (BW1.out.trans (kq.below LM.out.1 LM.out.2 BW1.out.size))
        clear hb kq HB1 HX1 BW1 z0 z1
        have z0 := HX2.out.b0
        have z1 := HX2.out.b1
        have hnc : nc ≤ 15 := by rcases HC.out with ⟨-, h⟩ | ⟨-, h⟩ <;> omega
        go_wp2_with fail
        refine (take_own V1.heap.size g ms mc (N + 1 + 1) own kp (oneS s (x1, x2) U) 1 (oneC (y1, y2) o) nc W2 HB2.out (y1, y2) U (by omega) HFR.out (N + 1 + 1 + 1) (setAt (oneC (y1, y2) o) (y1, y2) (some (.int .i64 U))) (if (oneC (y1, y2) o (y1, y2)).isSome then nc else nc + 1) (if (oneC (y1, y2) o (y1, y2)).isSome then 2 else 3) (fun w1 h => mine_room V1.heap.size g ms mc (N + 1 + 1) own kp (oneS s (x1, x2) U) 1 (oneC (y1, y2) o) nc w1 h (by omega) (y1, y2) hy U hnc)).mono ?_
        rintro e W3 ⟨rfl, hb, kq⟩
        generalize (if (oneC (y1, y2) o (y1, y2)).isSome then (2 : Int) else 3) = r9
        rw [oneC_set, oneC_is, show (if (o.map (Value.int IntKind.i64)).isSome then nc else nc + 1) = 1 by
          rcases HC.out with ⟨h1, h2⟩ | ⟨h1, h2⟩ <;> subst h1 <;> subst h2 <;> rfl] at hb
        have HB3 := Lib.hid hb
        have HX3 := Lib.hid (HX2.out.kq kq)
        have BW3 := Lib.hid (BW2.out.trans (kq.below LM.out.1 LM.out.2 BW2.out.size))
        clear hb kq HB2 HX2 BW2 z0 z1
        go_wp2_with fail
        refine (from_any V1.heap.size g ms mc (N + 1 + 1 + 1) own kp (oneS s (x1, x2) U) 1 (oneC (y1, y2) (some (U : Int))) 1 W3 HB3.out s w1 (.inr ⟨_, _, oneS_same _ _ _⟩)).mono ?_
        rw [oneS_same]
        rintro e W4 ⟨rfl, b4⟩
        have HB4 := Lib.hid (HB3.out.keep b4)
        have HX4 := Lib.hid (HX3.out.kq (Kq.bl b4))
        have BW4 := Lib.hid (BW3.out.trans (b4.mono BW3.out.size))
        clear b4 HB3 HX3 BW3
        rw [fromV_some]
        go_wp2_with fail
        generalize hV5 : World.alloc W4 _ = W5
        have b5 : Below W4.heap.size W4 W5 := by rw [← hV5]; exact (Below.refl _ _).alloc (Nat.le_refl _) _
        have g5 : W5.heap[W4.heap.size]? = some (.cells #[.int .u32 x1, .int .u16 x2] 43 (0, 0)) := by rw [← hV5]; exact alloc_blk_new
        have HB5 := Lib.hid (HB4.out.keep b5)
        have HX5 := Lib.hid (HX4.out.kq (Kq.bl b5))
        have BW5 := Lib.hid (BW4.out.trans (b5.mono BW4.out.size))
        have G5 := Lib.hid g5
        clear hV5 b5 g5 HB4 HX4 BW4
        refine (from_any V1.heap.size g ms mc (N + 1 + 1 + 1) own kp (oneS s (x1, x2) U) 1 (oneC (y1, y2) (some (U : Int))) 1 W5 HB5.out own w0 (.inl (oneS_other _ _ HO.out))).mono ?_
        rw [oneS_other _ _ HO.out]
        rintro e W6 ⟨rfl, b6⟩
        have HB6 := Lib.hid (HB5.out.keep b6)
        have HX6 := Lib.hid (HX5.out.kq (Kq.bl b6))
        have BW6 := Lib.hid (BW5.out.trans (b6.mono BW5.out.size))
        have g6 : W6.heap[W4.heap.size]? = some (.cells #[.int .u32 x1, .int .u16 x2] 43 (0, 0)) := Below.blk b6 G5.out (lt_of_block G5.out)
        have hl6 := lt_of_block g6
        have G6 := Lib.hid g6
        clear b6 g6 HB5 HX5 BW5 G5
        rw [fromV_none]
        have z0 := HX6.out.a0
        have z1 := HX6.out.a1
        have hl7 := lt_of_block HX6.out.a
        have y0 : W6.cell? ⟨W4.heap.size, 0, none⟩ = some (.int .u32 x1) := cell_blk G6.out
        have y1' : W6.cell? ⟨W4.heap.size, 1, none⟩ = some (.int .u16 x2) := cell_blk G6.out
        have n1 : W6.heap.size ≠ W4.heap.size := by omega
        have n2 : W6.heap.size ≠ w.heap.size := by omega
        have hq : ∀ W : World, (Op.equalIn 10000 43 (.agg #[.int .u32 x1, .int .u16 x2]) (.agg #[.int .u32 x1, .int .u16 x2])).run Try.prog W = .ok true W := fun W => by rw [eqin_plc (x1, x2) (x1, x2)]; simp
        go_wp2_with fail
        generalize hV7 : World.alloc W6 _ = W7
        have b7 : Below W6.heap.size W6 W7 := by rw [← hV7]; exact (Below.refl _ _).alloc (Nat.le_refl _) _
        have HB7 := Lib.hid (HB6.out.keep b7)
        have HX7 := Lib.hid (HX6.out.kq (Kq.bl b7))
        have BW7 := Lib.hid (BW6.out.trans (b7.mono BW6.out.size))
        clear hV7 b7 z0 z1 y0 y1' n1 n2 HB6 HX6 BW6 G6 hl6 hl7
        refine (known_any V1.heap.size g ms mc (N + 1 + 1 + 1) own kp (oneS s (x1, x2) U) 1 (oneC (y1, y2) (some (U : Int))) 1 W7 HB7.out).mono ?_
        rintro e W8 ⟨rfl, rfl⟩
        go_wp2_with fail
        go_roundw
        case rel => exact ⟨i + 1, U, N + 1 + 1 + 1, some (U : Int), 1, by omega, by omega, by have := HUU.out; omega, by omega, by go_num, by trivial, HB7, Lib.hid (.inr ⟨by trivial, by trivial⟩), HX7, BW7⟩
        case measure => simp [intOf] <;> omega
      · have d0 : (decide ((i : Int) < (len : Int)) = true ∧ decide ((i : Int) < 60) = false) ∨ decide ((i : Int) < (len : Int)) = false := by
          by_cases h : i < len
          · exact .inl ⟨by simp; omega, by simp; omega⟩
          · exact .inr (by simp; omega)
        rcases d0 with ⟨d1, d2⟩ | d1
        · go_wp2_with fail
          all_goals
            go_ret
            exact ⟨rfl, BW.out⟩
        · go_wp2_with fail
          all_goals
            go_ret
            exact ⟨rfl, BW.out⟩
end Go.Proofs.Ytkoplofcjbeicaa
