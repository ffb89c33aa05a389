/-
  Chapter 43: several frames.
-/
import Derived.Test.YtkoplofcjbeicaaOpD
namespace Go.Proofs.Ytkoplofcjbeicaa
open Go.RowKit
set_option linter.unusedVariables false
set_option linter.unusedSimpArgs false
attribute [local irreducible] wpStill wpQuiet MixC.wpMix

theorem hb256 : ∀ h ∈ List.range 256, bits .and .i64 ((h : Nat) : Int) 63 = (h : Int) % 64 ∧ (bits .and .i64 ((h : Nat) : Int) 64 = 0 ∨ bits .and .i64 ((h : Nat) : Int) 64 = 64) ∧ (bits .and .i64 ((h : Nat) : Int) 128 = 0 ∨ bits .and .i64 ((h : Nat) : Int) 128 = 128) := by decide +kernel
/-- lengths, as values -/
def nts (s : Nat → Nat) (k : Nat) : List Value := (List.range k).map fun i => Value.int .i64 (s i : Nat)
theorem nts_len (s : Nat → Nat) (k : Nat) : (nts s k).length = k := by simp [nts]
theorem nts_get (s : Nat → Nat) {k i : Nat} (h : i < k) : (nts s k)[i]? = some (.int .i64 (s i : Nat)) := by simp [nts, h]
def setN (s : Nat → Nat) (k x : Nat) : Nat → Nat := fun i => if i = k then x else s i
theorem nts_push (s : Nat → Nat) (k x : Nat) : nts (setN s k x) (k + 1) = nts s k ++ [.int .i64 (x : Nat)] := by
  unfold nts
  rw [List.range_succ, List.map_append]
  congr 1
  · exact List.map_congr_left fun i hi => by
      have := List.mem_range.1 hi
      unfold setN; rw [if_neg (by omega)]
  · simp [setN]
theorem sm_set (s : Nat → Nat) (k x : Nat) : sm (setN s k x) (k + 1) = sm s k + x := by
  have : ∀ j, j ≤ k → sm (setN s k x) j = sm s j := by
    intro j
    induction j with
    | zero => intro _; rfl
    | succ j ih => intro hj; show sm (setN s k x) j + setN s k x j = sm s j + s j; rw [ih (by omega)]; unfold setN; rw [if_neg (by omega)]
  show sm (setN s k x) k + setN s k x k = _
  rw [this k (Nat.le_refl _)]; unfold setN; rw [if_pos rfl]
theorem szs_own {w : World} {G g : Nat} {a : Option Addr} {m c : Nat} {s : Nat → Nat} (h : w.ownsRow G 3 1 (.slice a m c) m (nts s m)) (hg : g < G) : Szs g w a m c s := by
  obtain ⟨h1, h2⟩ := own_cap h
  refine ⟨h1, h2, fun h0 => ?_⟩
  obtain ⟨b, c', he, hb, hl, -, -⟩ := own_pos h h0
  cases he
  exact ⟨b, 0, rfl, hl, by omega, fun i hi => by rw [Nat.zero_add]; exact own_cell h (nts_get s hi)⟩
theorem own_kg {w w' : World} {g G : Nat} {e : TypeId} {s n : Nat} {v : Value} {xs : List Value} (h : w.ownsRow G e s v n xs) (k : Keeps g w w') (hg : g < G) : w'.ownsRow G e s v n xs :=
  own_blk1y h (fun q hq => by
    have := h.lt q hq
    exact k.block q this.2 (by omega))
theorem RD.padded {B g n c : Nat} {w : World} {a : Option Addr} {Z : Nat → Int} {pad : Int} (h : RD B g w a n c Z pad) (p : Int) : RD B g (w.setCell ⟨g, 1, none⟩ (.int .i64 p)) a n c Z p ∧ Keeps g w (w.setCell ⟨g, 1, none⟩ (.int .i64 p)) := by
  have hkp : Keeps g w (w.setCell ⟨g, 1, none⟩ (.int .i64 p)) := (Keeps.refl g w).setCell (a := ⟨g, 1, none⟩) (.inl rfl) _
  refine ⟨⟨?_, h.bs.keep (hkp.below (by have := lt_of_block h.r; have := h.lo; omega) h.lo), h.lo⟩, hkp⟩
  unfold rdr; rw [set_blk _ h.r]; rfl
def SevP (B g n : Nat) (w : World) (e : Ending) (w' : World) : Prop := PanP g w e w' ∨ ∃ m P p, 1 ≤ m ∧ m ≤ 48 ∧ p ≤ n ∧ GotF B g (n - p) m P (p : Nat) w e w'
set_option maxRecDepth 100000 in
set_option maxHeartbeats 8000000 in
theorem oseveral (B g n c b o : Nat) (Z : Nat → Int) (w : World) (h : RD B g w (some ⟨b, o, none⟩) n c Z 0) (hn : n ≤ 10000) :
    Calls Try.prog 78 #[.pointer (some ⟨g, 0, none⟩)] w (SevP B g n w) := by
  have HN := Lib.hid (onext B g n c _ Z 0 w h)
  have hgl := lt_of_block h.r
  clear h
  go_enter Try.func78, Try.ntmps78
  go_wp2_with fail
  refine HN.out.mono ?_
  rintro e w1 (⟨h0, k, hk, rfl, hkp⟩ | ⟨h0, ⟨z, rfl, -, z1, z2⟩, ⟨b1, o1, c1, h1⟩, k1⟩)
  · have HP : Hid (PanP g w (.panicked (pan k)) w1) := Lib.hid ⟨k, hk, rfl, hkp⟩
    clear hk hkp
    go_wp2_with fail
    exact ⟨rfl, .inl HP.out⟩
  obtain ⟨hd, rfl⟩ := Int.eq_ofNat_of_zero_le z1
  obtain ⟨q1, q2, q3⟩ := hb256 hd (List.mem_range.2 (by omega))
  obtain ⟨m, hm⟩ : ∃ m, m = hd % 64 := ⟨_, rfl⟩
  have q1' : bits .and .i64 (hd : Int) 63 = (m : Int) := by rw [q1, hm]; rfl
  have hmb : m ≤ 63 := by omega
  have H1 := Lib.hid h1
  have HK1 := Lib.hid k1
  clear q1 h1 k1 hm HN z1 z2
  generalize hu : bits .and .i64 (hd : Int) 64 = u at q2
  generalize hv : bits .and .i64 (hd : Int) 128 = v at q3
  by_cases hmm : ¬ (1 ≤ m ∧ m ≤ 48)
  · rcases (show m < 1 ∨ (1 ≤ m ∧ 48 < m) by omega) with h | ⟨h, h'⟩
    · have t1 : decide (1 ≤ (m : Int)) = false := by simp; omega
      have t1' : decide (1 ≤ m) = false := by simp; omega
      clear hmm h
      go_wp2_with fail
      refine (must_no 3 w1).mono ?_
      rintro e w2 ⟨rfl, rfl⟩
      go_wp2_with fail
      exact ⟨rfl, .inl ⟨3, .inr rfl, rfl, HK1.out⟩⟩
    · have t1 : decide (1 ≤ (m : Int)) = true := by simp; omega
      have t1' : decide (1 ≤ m) = true := by simp; omega
      have t2 : decide ((m : Int) ≤ 48) = false := by simp; omega
      have t2' : decide (m ≤ 48) = false := by simp; omega
      clear hmm h h'
      go_wp2_with fail
      refine (must_no 3 w1).mono ?_
      rintro e w2 ⟨rfl, rfl⟩
      go_wp2_with fail
      exact ⟨rfl, .inl ⟨3, .inr rfl, rfl, HK1.out⟩⟩
  have hm1 : 1 ≤ m ∧ m ≤ 48 := by omega
  have t1 : decide (1 ≤ (m : Int)) = true := by simp; omega
  have t1' : decide (1 ≤ m) = true := by simp; omega
  have t2 : decide ((m : Int) ≤ 48) = true := by simp; omega
  have t2' : decide (m ≤ 48) = true := by simp; omega
  clear hmm
  rcases q2 with rfl | rfl
  case' inl =>
    go_wp2_with fail
    refine (omust 3 w1).mono ?_
    rintro e w2 ⟨rfl, rfl⟩
    go_wp2_with fail
    have HRD : Hid (∃ b1 o1 n1 c1 Z1 p, p ≤ 254 * n ∧ n1 + 1 ≤ n ∧ RD B g w1 (some ⟨b1, o1, none⟩) n1 c1 Z1 ((p : Nat) : Int)) := Lib.hid ⟨b1, o1, n - 1, c1, _, 0, by omega, by omega, H1.out⟩
    have HKW : Hid (Keeps g w w1) := HK1
    generalize hWW : w1 = W at HRD HKW ⊢
    clear hWW H1 HK1
  case' inr =>
    go_wp2_with fail
    refine (omust 3 w1).mono ?_
    rintro e w2 ⟨rfl, rfl⟩
    go_wp2_with fail
    refine (opadding B g (n - 1) c1 b1 o1 _ 0 w1 H1.out (by omega)).mono ?_
    rintro e w3 (⟨k, hk, rfl, hkp⟩ | ⟨x, n', b2, o2, c2, Z2, hx, hn', rfl, h2, k2⟩)
    · have HP : Hid (PanP g w (.panicked (pan k)) w3) := Lib.hid ⟨k, hk, rfl, HK1.out.trans hkp⟩
      clear hk hkp
      go_wp2_with fail
      exact ⟨rfl, .inl HP.out⟩
    have cg1 : w3.cell? ⟨g, 1, none⟩ = some (.int .i64 0) := cell_blk h2.r
    have fg1 : w3.frozen? ⟨g, 1, none⟩ = false := free_blk h2.r
    obtain ⟨p1, p2⟩ := h2.padded (x : Nat)
    have HP1 := Lib.hid p1
    have HP2 := Lib.hid p2
    have HK2 := Lib.hid k2
    have hxb : x ≤ 2540000 := by omega
    clear p1 p2 h2 k2
    go_wp2_with fail
    have HRD : Hid (∃ b1 o1 n1 c1 Z1 p, p ≤ 254 * n ∧ n1 + 1 ≤ n ∧ RD B g (w3.setCell ⟨g, 1, none⟩ (.int .i64 (x : Nat))) (some ⟨b1, o1, none⟩) n1 c1 Z1 ((p : Nat) : Int)) := Lib.hid ⟨b2, o2, n', c2, Z2, x, by omega, by omega, HP1.out⟩
    have HKW : Hid (Keeps g w (w3.setCell ⟨g, 1, none⟩ (.int .i64 (x : Nat)))) := Lib.hid ((HK1.out.trans HK2.out).trans HP2.out)
    generalize World.setCell w3 _ _ = W at HRD HKW ⊢
    clear H1 HK1 HP1 HP2 HK2 cg1 fg1 hx hn' hxb
  all_goals
    obtain ⟨b3, o3, n3, c3, Z3, p, hpb, hn3, h3⟩ := HRD.out
    have H3 : Hid (∃ b' o' n' c' Z', n' + 1 ≤ n ∧ RD B g W (some ⟨b', o', none⟩) n' c' Z' ((p : Nat) : Int)) := Lib.hid ⟨b3, o3, n3, c3, Z3, hn3, h3⟩
    clear HRD h3 hn3
    go_loopw [5, 6, 7] (fun s5 s6 s7 wx => ∃ (i j S c' : Nat) (a' : Option Addr) (s : Nat → Nat), i = j + 1 ∧ i ≤ m ∧ s7 = .int .i64 i ∧ s6 = .int .i64 S ∧ s5 = .slice a' j c' ∧ S ≤ 1300 * j ∧ Hid (S = sm s j) ∧ Hid (∀ k, k < j → s k ≤ 1300) ∧ Hid (wx.ownsRow w.heap.size 3 1 (.slice a' j c') j (nts s j)) ∧ Hid (∃ b' o' n' c' Z', n' + 1 ≤ n ∧ RD B g wx (some ⟨b', o', none⟩) n' c' Z' ((p : Nat) : Int)) ∧ Hid (Keeps g w wx)) (fun _ _ s7 _ => m - (intOf s7).toNat)
    case atStart => exact ⟨1, 0, 0, 0, none, fun _ => 0, rfl, by omega, rfl, rfl, rfl, by omega, Lib.hid rfl, Lib.hid (fun k hk => by omega), Lib.hid (World.ownsRow_nil _ _ _ _), H3, HKW⟩
    case round =>
      obtain ⟨i, j, S, c', a', s, rfl, him, rfl, rfl, rfl, hSb, HS, HSB, HO, HR, HK⟩ := hrel
      clear H3 HKW
      by_cases hgo : j + 1 < m ∧ v = 128
      · obtain ⟨hjm, rfl⟩ := hgo
        have u1 : decide (((j : Int) + 1) < (m : Int)) = true := by simp; omega
        have u1' : decide (j + 1 < m) = true := by simp; omega
        obtain ⟨b4, o4, n4, c4, Z4, hn4, h4⟩ := HR.out
        have HL := Lib.hid (olength B g n4 c4 _ Z4 _ wr h4)
        clear h4 HR
        go_wp2_with fail
        refine HL.out.mono ?_
        rintro e w3 (⟨k, hk, rfl, hkp⟩ | ⟨x, n5, b5, o5, c5, Z5, hx, hn5, rfl, h5, k5⟩)
        · have HP : Hid (PanP g w (.panicked (pan k)) w3) := Lib.hid ⟨k, hk, rfl, HK.out.trans hkp⟩
          clear hk hkp
          go_wp2_with fail
          exact ⟨rfl, .inl HP.out⟩
        · have hk3 := HK.out.trans k5
          obtain ⟨a6, c6, W6, A6, b6⟩ := app1 elI41 (own_kg HO.out k5 (by omega)) [.int .i64 (x : Nat)] rfl (one_cell rfl) (by omega) (by omega) hk3.size
          have o6 : W6.ownsRow w.heap.size 3 1 (.slice a6 (j + 1) c6) (j + 1) (nts (setN s j x) (j + 1)) := by rw [nts_push]; exact A6.own
          have HRUN := Lib.hid A6.run
          obtain ⟨g6, d6, he6, -, -, -, -⟩ := own_pos o6 (by omega)
          cases he6
          have cx : W6.cell? ⟨g6, j, none⟩ = some (.int .i64 (x : Nat)) := own_cell o6 (by rw [nts_get _ (by omega)]; unfold setN; rw [if_pos rfl])
          have HO6 := Lib.hid o6
          have HK6 := Lib.hid (hk3.lo b6)
          have HR6 : Hid (∃ b' o' n' c' Z', n' + 1 ≤ n ∧ RD B g W6 (some ⟨b', o', none⟩) n' c' Z' ((p : Nat) : Int)) := Lib.hid ⟨b5, o5, n5, c5, Z5, by omega, ⟨Below.blk b6 h5.r hgl, h5.bs.keep (b6.mono (by have := h5.lo; omega)), h5.lo⟩⟩
          have HS6 : Hid (S + x = sm (setN s j x) (j + 1)) := Lib.hid (by rw [sm_set, ← HS.out])
          have HSB6 : Hid (∀ k, k < j + 1 → setN s j x k ≤ 1300) := Lib.hid (fun k hk => by
            unfold setN; split
            · exact hx
            · exact HSB.out k (by omega))
          clear h5 k5 hk3 A6 b6 o6 HL
          go_wp2_with (at_builtin; refine wpList_of_append rfl (.tmp 37) (.tmp 40) 107 rfl _ _ _ rfl rfl HRUN.out ?_)
          exact ⟨⟨j + 2, j + 1, S + x, c6, _, setN s j x, by omega, by omega, by go_num, by go_num, rfl, by omega, HS6, HSB6, HO6, HR6, HK6⟩, by simp [intOf]; omega⟩
      · have hgo2 : v = 0 ∨ (v = 128 ∧ j + 1 = m) := by
          rcases q3 with h | h
          · exact .inl h
          · exact .inr ⟨h, by omega⟩
        clear hgo q3
        rcases hgo2 with rfl | ⟨rfl, hjm⟩
        · by_cases hjm : j + 1 < m
          · have w1' : decide (((j : Int) + 1) < (m : Int)) = true := by simp; omega
            have w2' : decide (j + 1 < m) = true := by simp; omega
            obtain ⟨b4, o4, n4, c4, Z4, hn4, h4⟩ := HR.out
            have c0 : wr.cell? ⟨g, 0, none⟩ = some (.slice (some ⟨b4, o4, none⟩) n4 c4) := cell_blk h4.r
            have cp : wr.cell? ⟨g, 1, none⟩ = some (.int .i64 (p : Nat)) := cell_blk h4.r
            have hle4 := h4.bs.le
            have hmx4 := h4.bs.max
            have H4 := Lib.hid h4
            clear h4 HR
            rcases (show (p ≤ n4 ∧ S ≤ n4 - p) ∨ n4 < p ∨ (p ≤ n4 ∧ n4 - p < S) by omega) with ⟨hp1, hp2⟩ | hbad | ⟨hp1, hbad⟩
            · have u1 : decide ((p : Int) ≤ (n4 : Int)) = true := by simp; omega
              have u1' : decide (p ≤ n4) = true := by simp; omega
              obtain ⟨y, hy⟩ : ∃ y, y = n4 - p := ⟨_, rfl⟩
              have hyi : (n4 : Int) - (p : Int) = (y : Int) := by omega
              have hyw : IntKind.i64.wrap ((n4 : Int) - (p : Int)) = (y : Int) := by rw [IntKind.wrap_i64]; omega
              have hyn : y ≤ n4 := by omega
              have hyw2 : IntKind.i64.wrap (y : Int) = (y : Int) := by rw [IntKind.wrap_i64]; omega
              have hyc : y ≤ c4 := by omega
              have hsy : S ≤ y := by omega
              have HY := Lib.hid hy
              obtain ⟨W9, hW9⟩ : ∃ W9, W9 = wr.drew := ⟨_, rfl⟩
              have H9 : RD B g W9 (some ⟨b4, o4, none⟩) n4 c4 Z4 ((p : Nat) : Int) := by rw [hW9]; exact H4.out.keep (Below.refl _ _).drew
              have HM2 := Lib.hid (omust 2 W9)
              have hk9 : Keeps g w W9 := by rw [hW9]; exact HK.out.drew
              have ho9 : W9.ownsRow w.heap.size 3 1 (.slice a' j c') j (nts s j) := by rw [hW9]; exact own_below HO.out (Below.refl _ _).drew
              have hkp : Keeps g W9 (W9.setCell ⟨g, 0, none⟩ (.slice (some ⟨b4, o4, none⟩) y c4)) := (Keeps.refl g W9).setCell (a := ⟨g, 0, none⟩) (.inl rfl) _
              have h5 : RD B g (W9.setCell ⟨g, 0, none⟩ (.slice (some ⟨b4, o4, none⟩) y c4)) (some ⟨b4, o4, none⟩) y c4 Z4 ((p : Nat) : Int) := ⟨H9.r.set _ _ _, (H9.bs.cut hyn hyc (Nat.le_refl _)).keep (hkp.below (by have := lt_of_block H9.r; have := H9.lo; omega) H9.lo), H9.lo⟩
              have H5x := Lib.hid (h5.keep (Below.refl _ _).drew)
              have HK5x := Lib.hid ((hk9.trans hkp).drew)
              have HO5x := Lib.hid (own_below (own_kg ho9 hkp hgl) (Below.refl _ _).drew)
              have C9 : Hid (W9.cell? ⟨g, 0, none⟩ = some (.slice (some ⟨b4, o4, none⟩) n4 c4) ∧ W9.cell? ⟨g, 1, none⟩ = some (.int .i64 (p : Nat)) ∧ W9.frozen? ⟨g, 0, none⟩ = false) := Lib.hid ⟨cell_blk H9.r, cell_blk H9.r, free_blk H9.r⟩
              have HW9 := Lib.hid hW9
              clear hy H9 hk9 ho9 hkp h5 hW9
              go_upto_region 13 with (fail)
              refine wp_region_still_tail 24 (by kernel_rfl) (by kernel_rfl) ?_
              simp only [List.take_succ_cons, List.take_zero, List.drop_succ_cons, List.drop_zero]
              iterate 24 still_step
              refine wpStill_nil ?_
              change wpList _ _ _ _ _ wr.drew
              clear c0 cp
              rw [← HW9.out]
              go_wp2_with fail
              try rw [show decide ((S : Int) ≤ (y : Int)) = true by simp; omega]
              refine HM2.out.mono ?_
              rintro e w5 ⟨rfl, rfl⟩
              obtain ⟨c0, cp, f0⟩ := C9.out
              go_upto_region 14 with (fail)
              refine wp_region_still_tail 18 (by kernel_rfl) (by kernel_rfl) ?_
              simp only [List.take_succ_cons, List.take_zero, List.drop_succ_cons, List.drop_zero]
              iterate 18 still_step
              refine wpStill_nil ?_
              change wpList _ _ _ _ _ W9.drew
              obtain ⟨X, hX⟩ : ∃ X, X = (W9.setCell ⟨g, 0, none⟩ (.slice (some ⟨b4, o4, none⟩) y c4)).drew := ⟨_, rfl⟩
              have H5 : Hid (RD B g X (some ⟨b4, o4, none⟩) y c4 Z4 ((p : Nat) : Int)) := Lib.hid (by rw [hX]; exact H5x.out)
              have HK5 : Hid (Keeps g w X) := Lib.hid (by rw [hX]; exact HK5x.out)
              have HO5 : Hid (X.ownsRow w.heap.size 3 1 (.slice a' j c') j (nts s j)) := Lib.hid (by rw [hX]; exact HO5x.out)
              have cX : X.cell? ⟨g, 0, none⟩ = some (.slice (some ⟨b4, o4, none⟩) y c4) := cell_blk H5.out.r
              have hX' := hX.symm
              clear hX
              go_wp2_with fail
              refine (oequal B g y c4 b4 o4 m Z4 _ X H5.out (by omega) hm1.1 hm1.2).mono ?_
              rintro e w6 hE
              rcases hE.got with ⟨k, hk, rfl, hkp⟩ | hG
              · have HP : Hid (PanP g w (.panicked (pan k)) w6) := Lib.hid ⟨k, hk, rfl, HK5.out.trans hkp⟩
                clear hE hk hkp
                go_wp2_with fail
                exact ⟨rfl, .inl HP.out⟩
              · obtain ⟨⟨a9, c9, vs9, rfl, -⟩, -⟩ := id hG
                have HG := Lib.hid ((hG.ahead HK5.out).up (show y ≤ n - p by have := HY.out; omega))
                clear hE hG
                go_wp2_with fail
                go_ret
                exact .inr ⟨m, _, p, hm1.1, hm1.2, by omega, HG.out⟩
            · have u1 : decide ((p : Int) ≤ (n4 : Int)) = false := by simp; omega
              have u1' : decide (p ≤ n4) = false := by simp; omega
              go_upto_region 13 with (fail)
              refine wp_region_still_tail 24 (by kernel_rfl) (by kernel_rfl) ?_
              simp only [List.take_succ_cons, List.take_zero, List.drop_succ_cons, List.drop_zero]
              iterate 24 still_step
              refine wpStill_nil ?_
              change wpList _ _ _ _ _ wr.drew
              go_wp2_with fail
              refine (must_no 2 wr.drew).mono ?_
              rintro e w5 ⟨rfl, rfl⟩
              go_wp2_with fail
              exact ⟨rfl, .inl ⟨2, .inl rfl, rfl, HK.out.drew⟩⟩
            · have u1 : decide ((p : Int) ≤ (n4 : Int)) = true := by simp; omega
              have u1' : decide (p ≤ n4) = true := by simp; omega
              obtain ⟨y, hy⟩ : ∃ y, y = n4 - p := ⟨_, rfl⟩
              have hyi : (n4 : Int) - (p : Int) = (y : Int) := by omega
              have hyw : IntKind.i64.wrap ((n4 : Int) - (p : Int)) = (y : Int) := by rw [IntKind.wrap_i64]; omega
              have hsy : y < S := by omega
              clear hy
              go_upto_region 13 with (fail)
              refine wp_region_still_tail 24 (by kernel_rfl) (by kernel_rfl) ?_
              simp only [List.take_succ_cons, List.take_zero, List.drop_succ_cons, List.drop_zero]
              iterate 24 still_step
              refine wpStill_nil ?_
              change wpList _ _ _ _ _ wr.drew
              go_wp2_with fail
              try rw [show decide ((S : Int) ≤ (y : Int)) = false by simp; omega]
              refine (must_no 2 wr.drew).mono ?_
              rintro e w5 ⟨rfl, rfl⟩
              go_wp2_with fail
              exact ⟨rfl, .inl ⟨2, .inl rfl, rfl, HK.out.drew⟩⟩
          · have w1' : decide (((j : Int) + 1) < (m : Int)) = false := by simp; omega
            have w2' : decide (j + 1 < m) = false := by simp; omega
            obtain ⟨b4, o4, n4, c4, Z4, hn4, h4⟩ := HR.out
            have c0 : wr.cell? ⟨g, 0, none⟩ = some (.slice (some ⟨b4, o4, none⟩) n4 c4) := cell_blk h4.r
            have cp : wr.cell? ⟨g, 1, none⟩ = some (.int .i64 (p : Nat)) := cell_blk h4.r
            have hle4 := h4.bs.le
            have hmx4 := h4.bs.max
            have H4 := Lib.hid h4
            clear h4 HR
            rcases (show (p ≤ n4 ∧ S ≤ n4 - p) ∨ n4 < p ∨ (p ≤ n4 ∧ n4 - p < S) by omega) with ⟨hp1, hp2⟩ | hbad | ⟨hp1, hbad⟩
            · have u1 : decide ((p : Int) ≤ (n4 : Int)) = true := by simp; omega
              have u1' : decide (p ≤ n4) = true := by simp; omega
              obtain ⟨y, hy⟩ : ∃ y, y = n4 - p := ⟨_, rfl⟩
              have hyi : (n4 : Int) - (p : Int) = (y : Int) := by omega
              have hyw : IntKind.i64.wrap ((n4 : Int) - (p : Int)) = (y : Int) := by rw [IntKind.wrap_i64]; omega
              have hyn : y ≤ n4 := by omega
              have hyw2 : IntKind.i64.wrap (y : Int) = (y : Int) := by rw [IntKind.wrap_i64]; omega
              have hyc : y ≤ c4 := by omega
              have hsy : S ≤ y := by omega
              have HY := Lib.hid hy
              obtain ⟨W9, hW9⟩ : ∃ W9, W9 = wr.drew := ⟨_, rfl⟩
              have H9 : RD B g W9 (some ⟨b4, o4, none⟩) n4 c4 Z4 ((p : Nat) : Int) := by rw [hW9]; exact H4.out.keep (Below.refl _ _).drew
              have HM2 := Lib.hid (omust 2 W9)
              have hk9 : Keeps g w W9 := by rw [hW9]; exact HK.out.drew
              have ho9 : W9.ownsRow w.heap.size 3 1 (.slice a' j c') j (nts s j) := by rw [hW9]; exact own_below HO.out (Below.refl _ _).drew
              have hkp : Keeps g W9 (W9.setCell ⟨g, 0, none⟩ (.slice (some ⟨b4, o4, none⟩) y c4)) := (Keeps.refl g W9).setCell (a := ⟨g, 0, none⟩) (.inl rfl) _
              have h5 : RD B g (W9.setCell ⟨g, 0, none⟩ (.slice (some ⟨b4, o4, none⟩) y c4)) (some ⟨b4, o4, none⟩) y c4 Z4 ((p : Nat) : Int) := ⟨H9.r.set _ _ _, (H9.bs.cut hyn hyc (Nat.le_refl _)).keep (hkp.below (by have := lt_of_block H9.r; have := H9.lo; omega) H9.lo), H9.lo⟩
              have H5x := Lib.hid (h5.keep (Below.refl _ _).drew)
              have HK5x := Lib.hid ((hk9.trans hkp).drew)
              have HO5x := Lib.hid (own_below (own_kg ho9 hkp hgl) (Below.refl _ _).drew)
              have C9 : Hid (W9.cell? ⟨g, 0, none⟩ = some (.slice (some ⟨b4, o4, none⟩) n4 c4) ∧ W9.cell? ⟨g, 1, none⟩ = some (.int .i64 (p : Nat)) ∧ W9.frozen? ⟨g, 0, none⟩ = false) := Lib.hid ⟨cell_blk H9.r, cell_blk H9.r, free_blk H9.r⟩
              have HW9 := Lib.hid hW9
              clear hy H9 hk9 ho9 hkp h5 hW9
              go_upto_region 13 with (fail)
              refine wp_region_still_tail 24 (by kernel_rfl) (by kernel_rfl) ?_
              simp only [List.take_succ_cons, List.take_zero, List.drop_succ_cons, List.drop_zero]
              iterate 24 still_step
              refine wpStill_nil ?_
              change wpList _ _ _ _ _ wr.drew
              clear c0 cp
              rw [← HW9.out]
              go_wp2_with fail
              try rw [show decide ((S : Int) ≤ (y : Int)) = true by simp; omega]
              refine HM2.out.mono ?_
              rintro e w5 ⟨rfl, rfl⟩
              obtain ⟨c0, cp, f0⟩ := C9.out
              go_upto_region 14 with (fail)
              refine wp_region_still_tail 18 (by kernel_rfl) (by kernel_rfl) ?_
              simp only [List.take_succ_cons, List.take_zero, List.drop_succ_cons, List.drop_zero]
              iterate 18 still_step
              refine wpStill_nil ?_
              change wpList _ _ _ _ _ W9.drew
              obtain ⟨X, hX⟩ : ∃ X, X = (W9.setCell ⟨g, 0, none⟩ (.slice (some ⟨b4, o4, none⟩) y c4)).drew := ⟨_, rfl⟩
              have H5 : Hid (RD B g X (some ⟨b4, o4, none⟩) y c4 Z4 ((p : Nat) : Int)) := Lib.hid (by rw [hX]; exact H5x.out)
              have HK5 : Hid (Keeps g w X) := Lib.hid (by rw [hX]; exact HK5x.out)
              have HO5 : Hid (X.ownsRow w.heap.size 3 1 (.slice a' j c') j (nts s j)) := Lib.hid (by rw [hX]; exact HO5x.out)
              have cX : X.cell? ⟨g, 0, none⟩ = some (.slice (some ⟨b4, o4, none⟩) y c4) := cell_blk H5.out.r
              have hX' := hX.symm
              clear hX
              go_wp2_with fail
              refine (oequal B g y c4 b4 o4 m Z4 _ X H5.out (by omega) hm1.1 hm1.2).mono ?_
              rintro e w6 hE
              rcases hE.got with ⟨k, hk, rfl, hkp⟩ | hG
              · have HP : Hid (PanP g w (.panicked (pan k)) w6) := Lib.hid ⟨k, hk, rfl, HK5.out.trans hkp⟩
                clear hE hk hkp
                go_wp2_with fail
                exact ⟨rfl, .inl HP.out⟩
              · obtain ⟨⟨a9, c9, vs9, rfl, -⟩, -⟩ := id hG
                have HG := Lib.hid ((hG.ahead HK5.out).up (show y ≤ n - p by have := HY.out; omega))
                clear hE hG
                go_wp2_with fail
                go_ret
                exact .inr ⟨m, _, p, hm1.1, hm1.2, by omega, HG.out⟩
            · have u1 : decide ((p : Int) ≤ (n4 : Int)) = false := by simp; omega
              have u1' : decide (p ≤ n4) = false := by simp; omega
              go_upto_region 13 with (fail)
              refine wp_region_still_tail 24 (by kernel_rfl) (by kernel_rfl) ?_
              simp only [List.take_succ_cons, List.take_zero, List.drop_succ_cons, List.drop_zero]
              iterate 24 still_step
              refine wpStill_nil ?_
              change wpList _ _ _ _ _ wr.drew
              go_wp2_with fail
              refine (must_no 2 wr.drew).mono ?_
              rintro e w5 ⟨rfl, rfl⟩
              go_wp2_with fail
              exact ⟨rfl, .inl ⟨2, .inl rfl, rfl, HK.out.drew⟩⟩
            · have u1 : decide ((p : Int) ≤ (n4 : Int)) = true := by simp; omega
              have u1' : decide (p ≤ n4) = true := by simp; omega
              obtain ⟨y, hy⟩ : ∃ y, y = n4 - p := ⟨_, rfl⟩
              have hyi : (n4 : Int) - (p : Int) = (y : Int) := by omega
              have hyw : IntKind.i64.wrap ((n4 : Int) - (p : Int)) = (y : Int) := by rw [IntKind.wrap_i64]; omega
              have hsy : y < S := by omega
              clear hy
              go_upto_region 13 with (fail)
              refine wp_region_still_tail 24 (by kernel_rfl) (by kernel_rfl) ?_
              simp only [List.take_succ_cons, List.take_zero, List.drop_succ_cons, List.drop_zero]
              iterate 24 still_step
              refine wpStill_nil ?_
              change wpList _ _ _ _ _ wr.drew
              go_wp2_with fail
              try rw [show decide ((S : Int) ≤ (y : Int)) = false by simp; omega]
              refine (must_no 2 wr.drew).mono ?_
              rintro e w5 ⟨rfl, rfl⟩
              go_wp2_with fail
              exact ⟨rfl, .inl ⟨2, .inl rfl, rfl, HK.out.drew⟩⟩
        · have w1' : decide (((j : Int) + 1) < (m : Int)) = false := by simp; omega
          have w2' : decide (j + 1 < m) = false := by simp; omega
          clear hjm
          obtain ⟨b4, o4, n4, c4, Z4, hn4, h4⟩ := HR.out
          have c0 : wr.cell? ⟨g, 0, none⟩ = some (.slice (some ⟨b4, o4, none⟩) n4 c4) := cell_blk h4.r
          have cp : wr.cell? ⟨g, 1, none⟩ = some (.int .i64 (p : Nat)) := cell_blk h4.r
          have hle4 := h4.bs.le
          have hmx4 := h4.bs.max
          have H4 := Lib.hid h4
          clear h4 HR
          rcases (show (p ≤ n4 ∧ S ≤ n4 - p) ∨ n4 < p ∨ (p ≤ n4 ∧ n4 - p < S) by omega) with ⟨hp1, hp2⟩ | hbad | ⟨hp1, hbad⟩
          · have u1 : decide ((p : Int) ≤ (n4 : Int)) = true := by simp; omega
            have u1' : decide (p ≤ n4) = true := by simp; omega
            obtain ⟨y, hy⟩ : ∃ y, y = n4 - p := ⟨_, rfl⟩
            have hyi : (n4 : Int) - (p : Int) = (y : Int) := by omega
            have hyw : IntKind.i64.wrap ((n4 : Int) - (p : Int)) = (y : Int) := by rw [IntKind.wrap_i64]; omega
            have hyn : y ≤ n4 := by omega
            have hyw2 : IntKind.i64.wrap (y : Int) = (y : Int) := by rw [IntKind.wrap_i64]; omega
            have hyc : y ≤ c4 := by omega
            have hsy : S ≤ y := by omega
            have HY := Lib.hid hy
            obtain ⟨W9, hW9⟩ : ∃ W9, W9 = wr.drew := ⟨_, rfl⟩
            have H9 : RD B g W9 (some ⟨b4, o4, none⟩) n4 c4 Z4 ((p : Nat) : Int) := by rw [hW9]; exact H4.out.keep (Below.refl _ _).drew
            have HM2 := Lib.hid (omust 2 W9)
            have hk9 : Keeps g w W9 := by rw [hW9]; exact HK.out.drew
            have ho9 : W9.ownsRow w.heap.size 3 1 (.slice a' j c') j (nts s j) := by rw [hW9]; exact own_below HO.out (Below.refl _ _).drew
            have hkp : Keeps g W9 (W9.setCell ⟨g, 0, none⟩ (.slice (some ⟨b4, o4, none⟩) y c4)) := (Keeps.refl g W9).setCell (a := ⟨g, 0, none⟩) (.inl rfl) _
            have h5 : RD B g (W9.setCell ⟨g, 0, none⟩ (.slice (some ⟨b4, o4, none⟩) y c4)) (some ⟨b4, o4, none⟩) y c4 Z4 ((p : Nat) : Int) := ⟨H9.r.set _ _ _, (H9.bs.cut hyn hyc (Nat.le_refl _)).keep (hkp.below (by have := lt_of_block H9.r; have := H9.lo; omega) H9.lo), H9.lo⟩
            have H5x := Lib.hid (h5.keep (Below.refl _ _).drew)
            have HK5x := Lib.hid ((hk9.trans hkp).drew)
            have HO5x := Lib.hid (own_below (own_kg ho9 hkp hgl) (Below.refl _ _).drew)
            have C9 : Hid (W9.cell? ⟨g, 0, none⟩ = some (.slice (some ⟨b4, o4, none⟩) n4 c4) ∧ W9.cell? ⟨g, 1, none⟩ = some (.int .i64 (p : Nat)) ∧ W9.frozen? ⟨g, 0, none⟩ = false) := Lib.hid ⟨cell_blk H9.r, cell_blk H9.r, free_blk H9.r⟩
            have HW9 := Lib.hid hW9
            clear hy H9 hk9 ho9 hkp h5 hW9
            go_upto_region 13 with (fail)
            refine wp_region_still_tail 24 (by kernel_rfl) (by kernel_rfl) ?_
            simp only [List.take_succ_cons, List.take_zero, List.drop_succ_cons, List.drop_zero]
            iterate 24 still_step
            refine wpStill_nil ?_
            change wpList _ _ _ _ _ wr.drew
            clear c0 cp
            rw [← HW9.out]
            go_wp2_with fail
            try rw [show decide ((S : Int) ≤ (y : Int)) = true by simp; omega]
            refine HM2.out.mono ?_
            rintro e w5 ⟨rfl, rfl⟩
            obtain ⟨c0, cp, f0⟩ := C9.out
            go_upto_region 14 with (fail)
            refine wp_region_still_tail 18 (by kernel_rfl) (by kernel_rfl) ?_
            simp only [List.take_succ_cons, List.take_zero, List.drop_succ_cons, List.drop_zero]
            iterate 18 still_step
            refine wpStill_nil ?_
            change wpList _ _ _ _ _ W9.drew
            obtain ⟨X, hX⟩ : ∃ X, X = (W9.setCell ⟨g, 0, none⟩ (.slice (some ⟨b4, o4, none⟩) y c4)).drew := ⟨_, rfl⟩
            have H5 : Hid (RD B g X (some ⟨b4, o4, none⟩) y c4 Z4 ((p : Nat) : Int)) := Lib.hid (by rw [hX]; exact H5x.out)
            have HK5 : Hid (Keeps g w X) := Lib.hid (by rw [hX]; exact HK5x.out)
            have HO5 : Hid (X.ownsRow w.heap.size 3 1 (.slice a' j c') j (nts s j)) := Lib.hid (by rw [hX]; exact HO5x.out)
            have cX : X.cell? ⟨g, 0, none⟩ = some (.slice (some ⟨b4, o4, none⟩) y c4) := cell_blk H5.out.r
            have hX' := hX.symm
            clear hX
            obtain ⟨z, hz⟩ : ∃ z, z = y - S := ⟨_, rfl⟩
            have hzi : (y : Int) - (S : Int) = (z : Int) := by omega
            have hzb : z ≤ 10000 := by omega
            clear hz
            obtain ⟨a6, c6, W6, A6, b6⟩ := app1 elI41 HO5.out [.int .i64 (z : Nat)] rfl (one_cell rfl) (by omega) (by omega) HK5.out.size
            have o6 : W6.ownsRow w.heap.size 3 1 (.slice a6 (j + 1) c6) (j + 1) (nts (setN s j z) (j + 1)) := by rw [nts_push]; exact A6.own
            have HRUN := Lib.hid A6.run
            have hx5 := H5.out
            have r6 : RD B g W6 (some ⟨b4, o4, none⟩) y c4 Z4 ((p : Nat) : Int) := ⟨Below.blk b6 hx5.r hgl, hx5.bs.keep (b6.mono (by have := hx5.lo; omega)), hx5.lo⟩
            have HF := Lib.hid (oframes B g y c4 b4 o4 (j + 1) c6 a6 Z4 (setN s j z) _ W6 r6 (szs_own o6 hgl) (by omega) (by omega) (fun i hi => by
              unfold setN; split
              · omega
              · have := HSB.out i (by omega); omega))
            have HK6 := Lib.hid (HK5.out.lo b6)
            clear hx5 r6 A6 b6 o6
            go_wp2_with (at_builtin; refine wpList_of_append rfl (.tmp 99) (.tmp 107) 107 rfl _ _ _ rfl rfl HRUN.out ?_)
            refine HF.out.mono ?_
            rintro e w6 hF
            rcases hF.got with ⟨k, hk, rfl, hkp⟩ | hG
            · have HP : Hid (PanP g w (.panicked (pan k)) w6) := Lib.hid ⟨k, hk, rfl, HK6.out.trans hkp⟩
              clear hF hk hkp
              go_wp2_with fail
              exact ⟨rfl, .inl HP.out⟩
            · obtain ⟨⟨a9, c9, vs9, rfl, -⟩, -⟩ := id hG
              have HG := Lib.hid ((hG.ahead HK6.out).up (show y ≤ n - p by have := HY.out; omega))
              clear hF hG
              go_wp2_with fail
              go_ret
              exact .inr ⟨j + 1, _, p, by omega, by omega, by omega, HG.out⟩
          · have u1 : decide ((p : Int) ≤ (n4 : Int)) = false := by simp; omega
            have u1' : decide (p ≤ n4) = false := by simp; omega
            go_upto_region 13 with (fail)
            refine wp_region_still_tail 24 (by kernel_rfl) (by kernel_rfl) ?_
            simp only [List.take_succ_cons, List.take_zero, List.drop_succ_cons, List.drop_zero]
            iterate 24 still_step
            refine wpStill_nil ?_
            change wpList _ _ _ _ _ wr.drew
            go_wp2_with fail
            refine (must_no 2 wr.drew).mono ?_
            rintro e w5 ⟨rfl, rfl⟩
            go_wp2_with fail
            exact ⟨rfl, .inl ⟨2, .inl rfl, rfl, HK.out.drew⟩⟩
          · have u1 : decide ((p : Int) ≤ (n4 : Int)) = true := by simp; omega
            have u1' : decide (p ≤ n4) = true := by simp; omega
            obtain ⟨y, hy⟩ : ∃ y, y = n4 - p := ⟨_, rfl⟩
            have hyi : (n4 : Int) - (p : Int) = (y : Int) := by omega
            have hyw : IntKind.i64.wrap ((n4 : Int) - (p : Int)) = (y : Int) := by rw [IntKind.wrap_i64]; omega
            have hsy : y < S := by omega
            clear hy
            go_upto_region 13 with (fail)
            refine wp_region_still_tail 24 (by kernel_rfl) (by kernel_rfl) ?_
            simp only [List.take_succ_cons, List.take_zero, List.drop_succ_cons, List.drop_zero]
            iterate 24 still_step
            refine wpStill_nil ?_
            change wpList _ _ _ _ _ wr.drew
            go_wp2_with fail
            try rw [show decide ((S : Int) ≤ (y : Int)) = false by simp; omega]
            refine (must_no 2 wr.drew).mono ?_
            rintro e w5 ⟨rfl, rfl⟩
            go_wp2_with fail
            exact ⟨rfl, .inl ⟨2, .inl rfl, rfl, HK.out.drew⟩⟩
end Go.Proofs.Ytkoplofcjbeicaa
