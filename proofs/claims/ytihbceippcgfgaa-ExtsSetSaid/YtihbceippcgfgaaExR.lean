/-
  Chapter 32: the law ExtsSet.
-/
import Derived.Test.YtihbceippcgfgaaExQ
namespace Go.Proofs.Ytihbceippcgfgaa
open Go.RowKit
set_option linter.unusedVariables false
set_option linter.unusedSimpArgs false
attribute [local irreducible] wpStill wpQuiet MixC.wpMix
attribute [local go_sem] MixC.rdOp MixC.rd MixC.rdUpon MixC.mvUpon

def twoF (x y : Int) : Nat → Int := fun i => if i = 0 then x else y
theorem inF_two (x y v : Int) : InF (twoF x y) 2 v ↔ v = x ∨ v = y := by
  constructor
  · rintro ⟨i, hi, h⟩
    rcases (by omega : i = 0 ∨ i = 1) with rfl | rfl
    · exact .inl h.symm
    · exact .inr h.symm
  · rintro (h | h)
    · exact ⟨0, by omega, h.symm⟩
    · exact ⟨1, by omega, h.symm⟩
theorem inF_none (F : Nat → Int) (v : Int) : ¬ InF F 0 v := fun ⟨i, hi, _⟩ => by omega
theorem eqvE_rfl (x : El) : EqvE x x := ⟨rfl, rfl, fun _ _ => rfl⟩
theorem updE_ok {B : Nat} {w : World} {Q : Nat → El} {k len m : Nat} {x : El} (h : ∀ i, i < len → ElOk B w (Q i)) (hx : ElOk B w x) (hk : (k < len ∧ m = len) ∨ (k = len ∧ m = len + 1)) : ∀ i, i < m → ElOk B w (updE Q k x i) := fun i hi => by
  by_cases h1 : i = k
  · subst h1; rw [updE_same]; exact hx
  · rw [updE_other Q x h1]; exact h i (by omega)
set_option maxRecDepth 100000 in
set_option maxHeartbeats 4000000 in
theorem ExtsSet.walk (v u : Value) (id other : Int) (w : World) (r : Reads Try.prog w 6 22 v) (hu : ArgS Try.prog w 35 u) (hid : (Lit.int .i64 id).wf = true) (hot : (Lit.int .i64 other).wf = true) :
    Calls Try.prog 4 #[v, u, .int .i64 id, .int .i64 other] w fun e w' => e = .returned (.bool true) ∧ Below w.heap.size w w' := by
  obtain ⟨a, len, cap, Q, rfl, hb⟩ := els_of r
  obtain ⟨cs, rfl, hcs⟩ := hu
  obtain ⟨hsz, hrd⟩ := hcs 2 [3, 25] (by kernel_rfl)
  obtain ⟨v0, hv0, rv0⟩ := hrd 0 _ rfl
  obtain ⟨v1, hv1, rv1⟩ := hrd 1 _ rfl
  obtain ⟨xi, rfl, wi⟩ := reads_int Try.underlying3 rv0
  obtain ⟨xa, xn, xc, xZ, rfl, hxb⟩ := bs_of36 rv1
  obtain rfl := arr2 hsz hv0 hv1
  obtain ⟨i0, i1⟩ := bounds_i64 wi
  obtain ⟨d0, d1⟩ := bounds_i64 hid
  obtain ⟨o0, o1⟩ := bounds_i64 hot
  have HB := Lib.hid hb
  have HX : Hid (ElOk w.heap.size w ⟨xi, xa, xn, xc, xZ⟩) := Lib.hid ⟨i0, i1, hxb⟩
  have hle := hb.le
  have hmx := hb.max
  have xle := hxb.le
  have xmx := hxb.max
  clear hb r hcs hrd rv0 rv1 hv0 hv1 hsz hxb wi hid hot
  go_enter Try.func4, Try.ntmps4
  go_wp2_with fail
  obtain ⟨W0, hW0⟩ : ∃ W0, w.alloc (.cells #[.int .i64 xi, .slice xa xn xc] 35) = W0 := ⟨_, rfl⟩
  obtain ⟨g, hg⟩ : ∃ g, w.heap.size = g := ⟨_, rfl⟩
  rw [hW0, hg]
  have B0 : Hid (Below w.heap.size w W0) := Lib.hid (by rw [← hW0]; exact (Below.refl _ _).alloc (Nat.le_refl _) _)
  have K0 : Hid (W0.heap[g]? = some (.cells #[.int .i64 xi, .slice xa xn xc] 35 (0, 0))) := Lib.hid (by rw [← hW0, ← hg]; exact alloc_blk_new)
  have HG0 : Hid (w.heap.size = g ∧ g < W0.heap.size) := Lib.hid ⟨hg, lt_of_block K0.out⟩
  clear hW0 hg
  have KK : Hid (∀ y, Below W0.heap.size W0 y → y.cell? ⟨g, 0, none⟩ = some (.int .i64 xi) ∧ y.cell? ⟨g, 1, none⟩ = some (.slice xa xn xc) ∧ Below w.heap.size w y ∧ Els w.heap.size y a len cap Q ∧ ElOk w.heap.size y ⟨xi, xa, xn, xc, xZ⟩ ∧ w.heap.size ≤ y.heap.size ∧ y.heap[g]? = some (.cells #[.int .i64 xi, .slice xa xn xc] 35 (0, 0))) := Lib.hid (fun y hy => by
    have kb := Below.blk hy K0.out HG0.out.2
    have bb := B0.out.trans (hy.mono B0.out.size)
    exact ⟨cell_blk kb, cell_blk kb, bb, HB.out.keep bb, HX.out.keep bb, bb.size, kb⟩)
  refine (alive32_any W0).mono ?_
  rintro e w1 ⟨rfl, b1⟩
  have B1 := Lib.hid b1
  clear b1
  go_wp2_with fail
  refine (great32_any w.heap.size a len cap Q w1 (KK.out _ B1.out).2.2.2.1 (KK.out _ B1.out).2.2.2.2.2.1).mono ?_
  rintro e w2 ⟨t, rfl, b2, hg⟩
  have B2 := Lib.hid (B1.out.trans (b2.mono B1.out.size))
  clear b2
  cases t with
  | true =>
    go_wp2_with fail
    go_ret
    exact ⟨rfl, (KK.out _ B2.out).2.2.1⟩
  | false =>
    obtain ⟨h200, h100⟩ := hg rfl
    have H100 := Lib.hid h100
    obtain ⟨c0, c1, -⟩ := KK.out _ B2.out
    clear hg h100
    by_cases hxn : 100 < xn
    · have hxi : (100 : Int) < xn := by omega
      go_wp2_with fail
      go_ret
      exact ⟨rfl, (KK.out _ B2.out).2.2.1⟩
    · have hxi : ¬ (100 : Int) < xn := by omega
      go_wp2_with fail
      clear c0 c1
      refine (set32_any w.heap.size a len cap Q ⟨xi, xa, xn, xc, xZ⟩ w2 (KK.out _ B2.out).2.2.2.1 (KK.out _ B2.out).2.2.2.2.2.1 (by omega) (KK.out _ B2.out).2.2.2.2.1 (by show xn ≤ 100000; omega)).mono ?_
      rintro e w3 ⟨b3, vm, m, k, ya, yc, rfl, om, oy, hk⟩
      have B3 := Lib.hid (B2.out.trans (b3.mono B2.out.size))
      have hm : (k < len ∧ m = len) ∨ (k = len ∧ m = len + 1) := by
        rcases hk with ⟨h1, h2, -⟩ | ⟨h1, h2, -⟩
        · exact .inl ⟨h1, h2⟩
        · exact .inr ⟨h1, h2⟩
      have hkm : k < m ∧ m ≤ 201 := by omega
      obtain ⟨ma, mc, rfl⟩ := own_len om
      obtain ⟨ya', yc', hy, ybs⟩ := BS.of_owns oy (fun i hi => (KK.out _ B3.out).2.2.2.2.1.z.bd i hi) (by show xn ≤ 1000000; omega)
      injection hy with y1 _ y3
      subst y1 y3
      have em : Els w3.heap.size w3 ma m mc (updE Q k ⟨xi, ya, xn, yc, xZ⟩) := Els.copy om (updE_ok (B := w3.heap.size) (fun i hi => ((KK.out _ B3.out).2.2.2.1.ok i hi).mono (KK.out _ B3.out).2.2.2.2.2.1) ⟨i0, i1, ybs⟩ hm) (Nat.le_refl _)
      have EM := Lib.hid em
      have HM := Lib.hid hm
      have HK := Lib.hid hk
      have HN : Hid (∀ i, i < m → (updE Q k ⟨xi, ya, xn, yc, xZ⟩ i).n ≤ 100000) := Lib.hid (fun i hi => by
        by_cases h1 : i = k
        · subst h1; rw [updE_same]; show xn ≤ 100000; omega
        · rw [updE_other _ _ h1]; have := H100.out i (by omega); omega)
      clear om oy ybs em b3 hm hk
      obtain ⟨c0, c1, -⟩ := KK.out _ B3.out
      go_wp2_with fail
      refine (find32_any w3.heap.size ma m mc _ xi w3 EM.out (Nat.le_refl _) (by omega) HN.out).mono ?_
      rintro e w4 ⟨b4, hf⟩
      have B4 := Lib.hid (B3.out.trans (b4.mono B3.out.size))
      have EM4 := Lib.hid ((EM.out.keep b4).mono b4.size)
      obtain ⟨fa, fc, rfl, fo⟩ : ∃ fa fc, e = .returned (.tuple #[.slice fa xn fc, .bool true]) ∧ w4.ownsRow w3.heap.size 5 1 (.slice fa xn fc) xn (bytesOf xZ xn) := by
        rcases hf with ⟨k', fa, fn, fc, h1, h2, h3, h4, h5, h6⟩ | ⟨-, hno⟩
        · have hkk : k' = k := by
            rcases Nat.lt_trichotomy k' k with c | c | c
            · exfalso
              rw [updE_other _ _ (by omega)] at h2
              rcases HK.out with ⟨_, _, _, g⟩ | ⟨g1, _, g⟩
              · exact g _ c h2
              · exact g _ (by omega) h2
            · exact c
            · exact absurd (by rw [updE_same]) (h3 k c)
          subst hkk
          rw [updE_same] at h5 h6
          have h5' : fn = xn := h5
          subst h5'
          exact ⟨fa, fc, h4, h6⟩
        · exact absurd (by rw [updE_same]) (hno k hkm.1)
      obtain ⟨fa', fc', hy, fbs⟩ := BS.of_owns fo (fun i hi => (KK.out _ B3.out).2.2.2.2.1.z.bd i hi) (by omega)
      injection hy with y1 _ y3
      subst y1 y3
      have s1 : (convert 25 9 (.slice fa xn fc)).run Try.prog w4 = .ok (.string (strOf xZ xn)) w4 := run_conv_BS fbs Try.underlying25 Try.underlying5 Try.underlying9
      have s2 : (convert 25 9 (.slice xa xn xc)).run Try.prog w4 = .ok (.string (strOf xZ xn)) w4 := run_conv_BS (KK.out _ B4.out).2.2.2.2.1.z Try.underlying25 Try.underlying5 Try.underlying9
      clear hf b4 fo fbs c0 c1
      obtain ⟨c0, c1, -⟩ := KK.out _ B4.out
      have wl : IntKind.i64.wrap ((len : Int) - 1) = (len : Int) - 1 := IntWalk.i64_in _ (by omega)
      go_wp2_with fail
      clear s1 s2 c0 c1
      go_loopw [12, 13] (fun s12 s13 wr => ∃ (i : Nat) (f z : Int), i ≤ len ∧ s12 = .int .i64 f ∧ s13 = .int .i64 z ∧ Hid (z + 1 = i) ∧ Hid (FirstAt Q xi len i f) ∧ Hid (Below w4.heap.size w4 wr)) (fun _ s13 _ => (intOf s13 + 1).toNat)
      case atStart => exact ⟨len, -1, (len : Int) - 1, Nat.le_refl _, rfl, by go_num, Lib.hid (by omega), Lib.hid FirstAt.start, Lib.hid (Below.refl _ _)⟩
      case round =>
        obtain ⟨i, f, z, hi, rfl, rfl, hz, HF, HW⟩ := hrel
        have BW := Lib.hid (B4.out.trans (HW.out.mono B4.out.size))
        rcases Nat.eq_zero_or_pos i with rfl | hi0
        · obtain rfl : z = -1 := by have := hz.out; omega
          have FA := Lib.hid (HF.out.at_set HK.out)
          have FI : Hid (∀ i : Nat, i < len → ((i : Int) = f ↔ i = k)) := Lib.hid (fun i hi => by have := FA.out; omega)
          have FN : Hid (f < 0 ↔ k = len) := Lib.hid (by have := FA.out; have := HM.out; omega)
          have hfb : -1 ≤ f ∧ f ≤ 200 := by have := FA.out; omega
          clear HF FA hz
          go_wp2_with fail
          obtain ⟨wz, hwz⟩ : ∃ wz, wz = wr := ⟨_, rfl⟩
          rw [← hwz] at HW BW ⊢
          clear hwz wr
          obtain ⟨N0, hN0⟩ : ∃ N0, wz.heap.size = N0 := ⟨_, rfl⟩
          have HN0 := Lib.hid hN0
          clear hN0
          go_loopw [14, 15] (fun s14 s15 wr => ∃ (i : Nat) (pa : Option Addr) (pc : Nat), i ≤ len ∧ s15 = .int .i64 i ∧ s14 = .slice pa i pc ∧ Hid (Below N0 wz wr) ∧ Hid (wr.ownsRow N0 35 2 (.slice pa i pc) i (elsV (updE Q k ⟨xi, xa, xn, xc, xZ⟩) i))) (fun _ s15 _ => len - (intOf s15).toNat)
          case atStart => exact ⟨0, none, 0, by omega, rfl, rfl, Lib.hid (Below.refl _ _), Lib.hid (World.ownsRow_nil _ _ _ _)⟩
          case round =>
            obtain ⟨i, pa, pc, hi, rfl, rfl, HP, HO⟩ := hrel
            have BP : Hid (Below W0.heap.size W0 wr) := Lib.hid (BW.out.trans (HP.out.mono (by have := BW.out.size; have := HN0.out; omega)))
            have hns : N0 ≤ wr.heap.size := by have := HP.out.size; have := HN0.out; omega
            obtain ⟨c0, c1, -, eq, -⟩ := KK.out _ BP.out
            by_cases hlt : i < len
            · have hii : (i : Int) < len := by omega
              by_cases hik : i = k
              · have he1 : ((i : Int) = f) = True := eq_true ((FI.out i hlt).2 hik)
                have he2 : ((i : Int) == f) = true := by have := (FI.out i hlt).2 hik; simpa using this
                obtain ⟨a9, c9, W9, A9, B9⟩ := app1 elElE HO.out [.int .i64 xi, .slice xa xn xc] rfl (fun u hu => by simp at hu; rcases hu with rfl | rfl <;> rfl) (by omega) (by omega) hns
                have o9 : W9.ownsRow N0 35 2 (.slice a9 (i + 1) c9) (i + 1) (elsV (updE Q k ⟨xi, xa, xn, xc, xZ⟩) (i + 1)) := by
                  have h := A9.own
                  have e : elsV (updE Q k ⟨xi, xa, xn, xc, xZ⟩) (i + 1) = elsV (updE Q k ⟨xi, xa, xn, xc, xZ⟩) i ++ [.int .i64 xi, .slice xa xn xc] := by
                    show _ ++ _ = _
                    rw [hik, updE_same]
                  rw [e]; exact h
                have O9 := Lib.hid o9
                have P9 := Lib.hid (HP.out.trans B9)
                have HA := Lib.hid A9.run
                clear A9 B9 o9 hik eq
                go_wp2_with (at_builtin; refine wpList_of_append rfl (.tmp 75) (.tmp 77) 22 rfl _ _ _ rfl rfl HA.out ?_)
                go_roundw
                case rel => exact ⟨i + 1, a9, c9, by omega, by go_num, rfl, P9, O9⟩
                case measure => simp [intOf] <;> omega
              · have he1 : ((i : Int) = f) = False := eq_false (fun h => hik ((FI.out i hlt).1 h))
                have he2 : ((i : Int) == f) = false := by simpa using fun h => hik ((FI.out i hlt).1 h)
                obtain ⟨b, off, hp, hc⟩ := eq.mem
                obtain ⟨rfl, hb⟩ := hp (by omega)
                obtain ⟨e0, e1⟩ := hc i hlt
                obtain ⟨a9, c9, W9, A9, B9⟩ := app1 elElE HO.out [.int .i64 (Q i).id, .slice (Q i).a (Q i).n (Q i).c] rfl (fun u hu => by simp at hu; rcases hu with rfl | rfl <;> rfl) (by omega) (by omega) hns
                have o9 : W9.ownsRow N0 35 2 (.slice a9 (i + 1) c9) (i + 1) (elsV (updE Q k ⟨xi, xa, xn, xc, xZ⟩) (i + 1)) := by
                  have h := A9.own
                  have e : elsV (updE Q k ⟨xi, xa, xn, xc, xZ⟩) (i + 1) = elsV (updE Q k ⟨xi, xa, xn, xc, xZ⟩) i ++ [.int .i64 (Q i).id, .slice (Q i).a (Q i).n (Q i).c] := by
                    show _ ++ _ = _
                    rw [updE_other Q _ hik]
                  rw [e]; exact h
                have O9 := Lib.hid o9
                have P9 := Lib.hid (HP.out.trans B9)
                have HA := Lib.hid A9.run
                clear A9 B9 o9 hik eq hp hc c0 c1
                go_wp2_with (at_builtin; refine wpList_of_append rfl (.tmp 79) (.tmp 84) 22 rfl _ _ _ rfl rfl HA.out ?_)
                go_roundw
                case rel => exact ⟨i + 1, a9, c9, by omega, by go_num, rfl, P9, O9⟩
                case measure => simp [intOf] <;> omega
            · obtain rfl : len = i := by omega
              clear hlt eq
              by_cases hkl : k = len
              case' pos =>
                have hf0 : f < 0 := FN.out.2 hkl
                obtain rfl : m = len + 1 := by have := HM.out; omega
                obtain ⟨a9, c9, W9, A9, B9⟩ := app1 elElE HO.out [.int .i64 xi, .slice xa xn xc] rfl (fun u hu => by simp at hu; rcases hu with rfl | rfl <;> rfl) (by omega) (by omega) hns
                have o9 : W9.ownsRow N0 35 2 (.slice a9 (len + 1) c9) (len + 1) (elsV (updE Q k ⟨xi, xa, xn, xc, xZ⟩) (len + 1)) := by
                  have h := A9.own
                  have e : elsV (updE Q k ⟨xi, xa, xn, xc, xZ⟩) (len + 1) = elsV (updE Q k ⟨xi, xa, xn, xc, xZ⟩) len ++ [.int .i64 xi, .slice xa xn xc] := by
                    show _ ++ _ = _
                    rw [← hkl, updE_same]
                  rw [e]; exact h
                have O9 := Lib.hid o9
                have P9 := Lib.hid (HP.out.trans B9)
                have HA := Lib.hid A9.run
                have HKL := Lib.hid hkl
                clear A9 B9 o9 hkl
                go_wp2_with (at_builtin; refine wpList_of_append rfl (.tmp 88) (.tmp 90) 22 rfl _ _ _ rfl rfl HA.out ?_)
              case' neg =>
                have hf0 : ¬ f < 0 := fun h => hkl (FN.out.1 h)
                have HKL : Hid (True) := Lib.hid trivial
                obtain rfl : len = m := by have := HM.out; omega
                obtain ⟨W9, hW9⟩ : ∃ W9, W9 = wr := ⟨_, rfl⟩
                obtain ⟨a9, ha9⟩ : ∃ a9, a9 = pa := ⟨_, rfl⟩
                obtain ⟨c9, hc9⟩ : ∃ c9, c9 = pc := ⟨_, rfl⟩
                have O9 := HO
                have P9 := HP
                go_wp2_with fail
                rw [← hW9, ← ha9, ← hc9] at O9 ⊢
                rw [← hW9] at P9
                clear hW9 ha9 hc9 hkl
              all_goals
                have hBV : Below w4.heap.size w4 W9 := HW.out.trans (P9.out.mono (by have := HW.out.size; have := HN0.out; omega))
                have hB9 : Below W0.heap.size W0 W9 := B4.out.trans (hBV.mono B4.out.size)
                have hEW := Els.copy (B := W9.heap.size) O9.out (updE_ok (fun i hi => ((KK.out _ hB9).2.2.2.1.ok i hi).mono (KK.out _ hB9).2.2.2.2.2.1) ((KK.out _ hB9).2.2.2.2.1.mono (KK.out _ hB9).2.2.2.2.2.1) (by first | exact .inr ⟨HKL.out, rfl⟩ | exact .inl ⟨hkm.1, rfl⟩)) (Nat.le_refl _)
                have HCS := Lib.hid (rsame32_true W9.heap.size ma a9 _ mc c9 _ _ W9 ((EM4.out.keep hBV).mono hBV.size) hEW (Nat.le_refl _) (by omega) (fun i hi => by
                  by_cases h1 : i = k
                  · subst h1
                    rw [updE_same, updE_same]
                    exact ⟨rfl, rfl, fun _ _ => rfl⟩
                  · rw [updE_other _ _ h1, updE_other _ _ h1]
                    exact eqvE_rfl _))
                have HB9 := Lib.hid hB9
                clear hBV hB9 hEW
                refine HCS.out.mono ?_
                clear HCS
                rintro e w5 ⟨rfl, b5⟩
                have B5 := Lib.hid (HB9.out.trans (b5.mono HB9.out.size))
                clear b5 c0 c1
                go_wp2_with fail
                clear O9 P9 HB9 HO HP BP EM4 EM HN HM HK FI FN HKL
                obtain ⟨N3, hN3⟩ : ∃ N3, w5.heap.size = N3 := ⟨_, rfl⟩
                have HN3 := Lib.hid hN3
                clear hN3
                go_loopw [16, 17] (fun s16 s17 wr => ∃ (i n3 : Nat) (pa : Option Addr) (pc : Nat), i ≤ len ∧ n3 ≤ i ∧ s17 = .int .i64 i ∧ s16 = .slice pa n3 pc ∧ Hid (n3 = (keepE Q (twoF id other) 2 i).length) ∧ Hid (Below N3 w5 wr) ∧ Hid (wr.ownsRow N3 35 2 (.slice pa n3 pc) n3 ((keepE Q (twoF id other) 2 i).flatMap El.vals))) (fun _ s17 _ => len - (intOf s17).toNat)
                case atStart => exact ⟨0, 0, none, 0, by omega, by omega, rfl, rfl, Lib.hid rfl, Lib.hid (Below.refl _ _), Lib.hid (World.ownsRow_nil _ _ _ _)⟩
                case round =>
                  obtain ⟨i, n3, pa, pc, hi, hn3, rfl, rfl, HL, HP, HO⟩ := hrel
                  have BP : Hid (Below W0.heap.size W0 wr) := Lib.hid (B5.out.trans (HP.out.mono (by have := B5.out.size; have := HN3.out; omega)))
                  have hns : N3 ≤ wr.heap.size := by have := HP.out.size; have := HN3.out; omega
                  by_cases hlt : i < len
                  · have hii : (i : Int) < len := by omega
                    obtain ⟨-, -, -, eq, -⟩ := KK.out _ BP.out
                    obtain ⟨b, off, hp, hc⟩ := eq.mem
                    obtain ⟨rfl, hb⟩ := hp (by omega)
                    obtain ⟨e0, e1⟩ := hc i hlt
                    clear hp hc eq
                    by_cases h1 : (Q i).id = id
                    · have he1 : ((Q i).id = id) = True := eq_true h1
                      have he2 : ((Q i).id == id) = true := by simpa using h1
                      have hin : InF (twoF id other) 2 (Q i).id := (inF_two _ _ _).2 (.inl h1)
                      have L9 : Hid (n3 = (keepE Q (twoF id other) 2 (i + 1)).length) := Lib.hid (by rw [keepE_drop hin]; exact HL.out)
                      have O9 : Hid (wr.ownsRow N3 35 2 (.slice pa n3 pc) n3 ((keepE Q (twoF id other) 2 (i + 1)).flatMap El.vals)) := Lib.hid (by rw [keepE_drop hin]; exact HO.out)
                      clear h1 hin
                      go_wp2_with fail
                      go_roundw
                      case rel => exact ⟨i + 1, n3, pa, pc, by omega, by omega, by go_num, rfl, L9, HP, O9⟩
                      case measure => simp [intOf] <;> omega
                    · have he1 : ((Q i).id = id) = False := eq_false h1
                      have he2 : ((Q i).id == id) = false := by simpa using h1
                      have he5 : ((Q i).id != id) = true := by simpa using h1
                      by_cases h2 : (Q i).id = other
                      · rw [h2] at he1 he2 he5 e0
                        have hin : InF (twoF id other) 2 (Q i).id := (inF_two _ _ _).2 (.inr h2)
                        have L9 : Hid (n3 = (keepE Q (twoF id other) 2 (i + 1)).length) := Lib.hid (by rw [keepE_drop hin]; exact HL.out)
                        have O9 : Hid (wr.ownsRow N3 35 2 (.slice pa n3 pc) n3 ((keepE Q (twoF id other) 2 (i + 1)).flatMap El.vals)) := Lib.hid (by rw [keepE_drop hin]; exact HO.out)
                        clear h1 h2 hin
                        go_wp2_with fail
                        go_roundw
                        case rel => exact ⟨i + 1, n3, pa, pc, by omega, by omega, by go_num, rfl, L9, HP, O9⟩
                        case measure => simp [intOf] <;> omega
                      · have he3 : ((Q i).id = other) = False := eq_false h2
                        have he4 : ((Q i).id == other) = false := by simpa using h2
                        have he6 : ((Q i).id != other) = true := by simpa using h2
                        have hin : ¬ InF (twoF id other) 2 (Q i).id := fun h => (inF_two _ _ _).1 h |>.elim h1 h2
                        obtain ⟨a9', c9', W9', A9, B9⟩ := app1 elElE HO.out [.int .i64 (Q i).id, .slice (Q i).a (Q i).n (Q i).c] rfl (fun u hu => by simp at hu; rcases hu with rfl | rfl <;> rfl) (by omega) (by omega) hns
                        have L9 : Hid (n3 + 1 = (keepE Q (twoF id other) 2 (i + 1)).length) := Lib.hid (by rw [keepE_take hin, List.length_append, ← HL.out]; rfl)
                        have O9 : Hid (W9'.ownsRow N3 35 2 (.slice a9' (n3 + 1) c9') (n3 + 1) ((keepE Q (twoF id other) 2 (i + 1)).flatMap El.vals)) := Lib.hid (by rw [keepE_take hin, List.flatMap_append, List.flatMap_singleton]; exact A9.own)
                        have P9 := Lib.hid (HP.out.trans B9)
                        have HA := Lib.hid A9.run
                        clear A9 B9 h1 h2 hin
                        go_wp2_with (at_builtin; refine wpList_of_append rfl (.tmp 118) (.tmp 123) 22 rfl _ _ _ rfl rfl HA.out ?_)
                        go_roundw
                        case rel => exact ⟨i + 1, n3 + 1, a9', c9', by omega, by omega, by go_num, rfl, L9, P9, O9⟩
                        case measure => simp [intOf] <;> omega
                  · obtain rfl : len = i := by omega
                    clear hlt
                    obtain ⟨KL, hKL⟩ : ∃ KL, keepE Q (twoF id other) 2 len = KL := ⟨_, rfl⟩
                    have KM : Hid (∀ x ∈ KL, ∃ i, i < len ∧ x = Q i ∧ ¬ InF (twoF id other) 2 (Q i).id) := Lib.hid (fun x hx => keepE_mem (by rw [hKL]; exact hx))
                    rw [hKL] at HL HO
                    have KO : Hid (∀ y, Below W0.heap.size W0 y → ∀ x ∈ KL, ElOk y.heap.size y x) := Lib.hid (fun y hy x hx => by
                      obtain ⟨i, h1, rfl, -⟩ := KM.out x hx
                      exact ((KK.out _ hy).2.2.2.1.ok i h1).mono (KK.out _ hy).2.2.2.2.2.1)
                    have EO : Hid (∀ (y : World) (base : Nat) (v : Value), Below W0.heap.size W0 y → y.ownsRow base 35 2 v (keepE Q (twoF id other) 2 len).length ((keepE Q (twoF id other) 2 len).flatMap El.vals) → ∃ a c, v = .slice a n3 c ∧ Els y.heap.size y a n3 c (qOf KL)) := Lib.hid (fun y base v hy ho => by
                      rw [hKL] at ho
                      have h := Els.ofRow ho (KO.out y hy) (Nat.le_refl _)
                      rw [← HL.out] at h
                      exact h)
                    clear hKL
                    have PX := Lib.hid (HW.out)
                    go_wp2_with fail
                    obtain ⟨W6, hW6⟩ : ∃ W6, wr.alloc (.cells #[.int .i64 id, .int .i64 other] 3) = W6 := ⟨_, rfl⟩
                    obtain ⟨h6, hh6⟩ : ∃ h6, wr.heap.size = h6 := ⟨_, rfl⟩
                    rw [hW6, hh6]
                    have b6 : Below wr.heap.size wr W6 := by rw [← hW6]; exact (Below.refl _ _).alloc (Nat.le_refl _) _
                    have k6 : W6.heap[h6]? = some (.cells #[.int .i64 id, .int .i64 other] 3 (0, 0)) := by rw [← hW6, ← hh6]; exact alloc_blk_new
                    have hids : Ids W6.heap.size W6 (some ⟨h6, 0, none⟩) 2 2 (twoF id other) := ⟨Nat.le_refl _, by omega, h6, 0, fun _ => ⟨rfl, lt_of_block k6⟩, fun i hi => by
                      rcases (by omega : i = 0 ∨ i = 1) with rfl | rfl <;> exact cell_blk k6⟩
                    have B6 := Lib.hid (BP.out.trans (b6.mono BP.out.size))
                    have Q6 := Lib.hid b6
                    have hc6 := without32_any W6.heap.size _ len cap Q _ 2 2 (twoF id other) W6 ((KK.out _ B6.out).2.2.2.1.mono (KK.out _ B6.out).2.2.2.2.2.1) hids (Nat.le_refl _) (by omega) (by omega)
                    clear hW6 hh6 b6 k6 hids
                    refine hc6.mono ?_
                    clear hc6
                    rintro e w7 ⟨b7, v7, rfl, o7⟩
                    have B7 := Lib.hid (B6.out.trans (b7.mono B6.out.size))
                    have Q7 := Lib.hid (Q6.out.trans (b7.mono Q6.out.size))
                    obtain ⟨a7, c7, rfl, e7⟩ := EO.out w7 _ v7 B7.out o7
                    have E7 := Lib.hid e7
                    clear b7 o7 e7
                    go_wp2_with fail
                    refine (find32_any w7.heap.size a7 n3 c7 (qOf KL) id w7 E7.out (Nat.le_refl _) (by omega) (fun i hi => by
                      obtain ⟨j, h1, h2, -⟩ := KM.out _ (qOf_mem (l := KL) (by rw [← HL.out]; exact hi))
                      rw [h2]
                      have := H100.out j h1
                      omega)).mono ?_
                    rintro e w8 ⟨b8, hf8⟩
                    have B8 := Lib.hid (B7.out.trans (b8.mono B7.out.size))
                    have Q8 := Lib.hid (Q7.out.trans (b8.mono Q7.out.size))
                    obtain rfl : e = .returned (.tuple #[.slice none 0 0, .bool false]) := by
                      rcases hf8 with ⟨k', _, _, _, h1, h2, _⟩ | ⟨h1, _⟩
                      · obtain ⟨j, g1, g2, g3⟩ := KM.out _ (qOf_mem (l := KL) (i := k') (by rw [← HL.out]; exact h1))
                        rw [g2] at h2
                        exact absurd ((inF_two _ _ _).2 (.inl h2)) g3
                      · exact h1
                    clear b8 hf8
                    go_wp2_with fail
                    obtain ⟨W9x, hW9⟩ : ∃ W9x, w8.alloc (.cells #[.int .i64 id, .int .i64 other] 3) = W9x := ⟨_, rfl⟩
                    obtain ⟨h9, hh9⟩ : ∃ h9, w8.heap.size = h9 := ⟨_, rfl⟩
                    rw [hW9, hh9]
                    have b9 : Below w8.heap.size w8 W9x := by rw [← hW9]; exact (Below.refl _ _).alloc (Nat.le_refl _) _
                    have k9 : W9x.heap[h9]? = some (.cells #[.int .i64 id, .int .i64 other] 3 (0, 0)) := by rw [← hW9, ← hh9]; exact alloc_blk_new
                    have hids : Ids W9x.heap.size W9x (some ⟨h9, 0, none⟩) 2 2 (twoF id other) := ⟨Nat.le_refl _, by omega, h9, 0, fun _ => ⟨rfl, lt_of_block k9⟩, fun i hi => by
                      rcases (by omega : i = 0 ∨ i = 1) with rfl | rfl <;> exact cell_blk k9⟩
                    have B9x := Lib.hid (B8.out.trans (b9.mono B8.out.size))
                    have Q9x := Lib.hid (Q8.out.trans (b9.mono Q8.out.size))
                    have hc9 := without32_any W9x.heap.size _ len cap Q _ 2 2 (twoF id other) W9x ((KK.out _ B9x.out).2.2.2.1.mono (KK.out _ B9x.out).2.2.2.2.2.1) hids (Nat.le_refl _) (by omega) (by omega)
                    clear hW9 hh9 b9 k9 hids
                    refine hc9.mono ?_
                    clear hc9
                    rintro e w10 ⟨b10, v10, rfl, o10⟩
                    have B10 := Lib.hid (B9x.out.trans (b10.mono B9x.out.size))
                    have Q10 := Lib.hid (Q9x.out.trans (b10.mono Q9x.out.size))
                    obtain ⟨a10, c10, rfl, e10⟩ := EO.out w10 _ v10 B10.out o10
                    have E10 := Lib.hid e10
                    have hleft : Els w10.heap.size w10 pa n3 pc (qOf KL) := by
                      have h := own_below HO.out Q10.out
                      rw [HL.out] at h ⊢
                      obtain ⟨a', c', h1, h2⟩ := Els.ofRow h (KO.out _ B10.out) (Nat.le_refl _)
                      injection h1 with x1 x2 x3
                      subst x1 x3
                      exact h2
                    have EL := Lib.hid hleft
                    clear b10 o10 e10 hleft
                    go_wp2_with fail
                    refine (rsame32_true w10.heap.size a10 pa n3 c10 pc (qOf KL) (qOf KL) w10 E10.out EL.out (Nat.le_refl _) (by omega) (fun i hi => eqvE_rfl _)).mono ?_
                    rintro e w11 ⟨rfl, b11⟩
                    have B11 := Lib.hid (B10.out.trans (b11.mono B10.out.size))
                    clear b11
                    go_wp2_with fail
                    refine (without32_any w11.heap.size _ len cap Q none 0 0 (fun _ => 0) w11 ((KK.out _ B11.out).2.2.2.1.mono (KK.out _ B11.out).2.2.2.2.2.1) ⟨Nat.le_refl _, by omega, 0, 0, fun h => by omega, fun i hi => by omega⟩ (Nat.le_refl _) (by omega) (by omega)).mono ?_
                    rintro e w12 ⟨b12, v12, rfl, o12⟩
                    have B12 := Lib.hid (B11.out.trans (b12.mono B11.out.size))
                    rw [keepE_all (fun i _ => inF_none _ _), flat_range, List.length_map, List.length_range] at o12
                    obtain ⟨a12, c12, rfl⟩ := own_len o12
                    have E12 := Lib.hid (Els.copy (B := w12.heap.size) o12 (fun i hi => ((KK.out _ B12.out).2.2.2.1.ok i hi).mono (KK.out _ B12.out).2.2.2.2.2.1) (Nat.le_refl _))
                    clear b12 o12
                    go_wp2_with fail
                    refine (rsame32_true w12.heap.size a12 _ len c12 cap Q Q w12 E12.out ((KK.out _ B12.out).2.2.2.1.mono (KK.out _ B12.out).2.2.2.2.2.1) (Nat.le_refl _) (by omega) (fun i hi => eqvE_rfl _)).mono ?_
                    rintro e w13 ⟨rfl, b13⟩
                    have B13 := Lib.hid (B12.out.trans (b13.mono B12.out.size))
                    clear b13
                    go_wp2_with fail
                    go_ret
                    exact ⟨rfl, (KK.out _ B13.out).2.2.1⟩
        · obtain ⟨j, rfl⟩ : ∃ j, i = j + 1 := ⟨i - 1, by omega⟩
          obtain rfl : z = j := by have := hz.out; omega
          obtain ⟨c0, c1, -, eq, -⟩ := KK.out _ BW.out
          obtain ⟨b, off, hp, hc⟩ := eq.mem
          obtain ⟨rfl, hb⟩ := hp (by omega)
          obtain ⟨e0, e1⟩ := hc j (by omega)
          have hji : (j : Int) < len := by omega
          have hj0 : (0 : Int) ≤ j := by omega
          have wj : IntKind.i64.wrap ((j : Int) - 1) = (j : Int) - 1 := IntWalk.i64_in _ (by omega)
          clear hp hc eq
          by_cases he : (Q j).id = xi
          · have he1 : ((Q j).id = xi) = True := eq_true he
            have he2 : ((Q j).id == xi) = true := by simpa using he
            have F2 := Lib.hid (FirstAt.hit (Q := Q) (len := len) (by omega) he)
            clear he
            go_wp2_with fail
            go_quiet (fail)
            generalize hV : wr.drewN _ = V
            have BV : Hid (Below w4.heap.size w4 V) := Lib.hid (by rw [← hV]; exact below_drewN0 HW.out _)
            clear hV
            go_wp2_with fail
            go_roundw
            case rel => exact ⟨j, (j : Int), (j : Int) - 1, by omega, by go_num, by go_num, Lib.hid (by omega), F2, BV⟩
            case measure => simp [intOf] <;> omega
          · have he1 : ((Q j).id = xi) = False := eq_false he
            have he2 : ((Q j).id == xi) = false := by simpa using he
            have F2 := Lib.hid (HF.out.pass he)
            clear he
            go_wp2_with fail
            go_quiet (fail)
            generalize hV : wr.drewN _ = V
            have BV : Hid (Below w4.heap.size w4 V) := Lib.hid (by rw [← hV]; exact below_drewN0 HW.out _)
            clear hV
            go_wp2_with fail
            go_roundw
            case rel => exact ⟨j, f, (j : Int) - 1, by omega, rfl, by go_num, Lib.hid (by omega), F2, BV⟩
            case measure => simp [intOf] <;> omega
end Go.Proofs.Ytihbceippcgfgaa
