/-
  Chapter 41: the reference's Cut.
-/
import Derived.Test.YtkoplofcjbeicaaNlC
import Derived.Test.YtkoplofcjbeicaaMixO
namespace Go.Proofs.Ytkoplofcjbeicaa
open Go.RowKit
set_option linter.unusedVariables false
set_option linter.unusedSimpArgs false
attribute [local irreducible] wpStill wpQuiet MixC.wpMix
attribute [local go_sem] MixC.rdOp MixC.rd MixC.rdUpon MixC.mvUpon

theorem infoStr41 : (Try.prog.info? 9).map (fun i => (i.zero, i.size, i.bytes)) = some (some (.string ByteArray.empty), 1, 16) := by kernel_rfl
theorem elStr : ElemT Try.prog 53 9 1 16 := ElemT.mk' (z := .string ByteArray.empty) Try.underlying53 infoStr41 rfl (by decide)
/-- a list of numbers as a string -/
def strL (L : List Int) : ByteArray := strOfNums L
/-- strings -/
def strs (P : Nat → List Int) (k : Nat) : List Value := (List.range k).map fun i => .string (strL (P i))
theorem strs_succ (P : Nat → List Int) (k : Nat) : strs P (k + 1) = strs P k ++ [.string (strL (P k))] := by simp [strs, List.range_succ]
theorem strOfNums_app (L M : List Int) : strOfNums (L ++ M) = strOfNums L ++ strOfNums M := by
  apply ByteArray.ext
  rw [ByteArray.data_append]
  simp [strOfNums]
theorem convZ {w : World} {B : Nat} {a : Option Addr} {n c : Nat} {Z : Nat → Int} (h : BS B w a n c Z) : (convert 22 9 (.slice a n c)).run Try.prog w = .ok (.string (strL (zs Z n))) w := run_conv_BS h Try.underlying22 Try.underlying5 Try.underlying9
def RCutPost (P : Nat → List Int) (K : Nat) (w : World) (e : Ending) (w' : World) : Prop :=
  ∃ a c, e = .returned (.tuple #[.slice a K c, .bool true]) ∧ w'.ownsRow w.heap.size 9 1 (.slice a K c) K (strs P K) ∧ Below w.heap.size w w'
theorem bs_two (w : World) (x y : Int) (hx : 0 ≤ x ∧ x ≤ 255) (hy : 0 ≤ y ∧ y ≤ 255) : BS (w.heap.size + 1) (w.alloc (.cells #[.int .u8 x, .int .u8 y] 5)) (some ⟨w.heap.size, 0, none⟩) 2 2 (gz [x, y]) :=
  ⟨by omega, by omega, fun i hi => by
    have : i = 0 ∨ i = 1 := by omega
    rcases this with rfl | rfl
    · exact hx
    · exact hy, w.heap.size, 0, fun _ => ⟨rfl, by omega⟩, fun i hi => by
    rw [Nat.zero_add, cell_blk alloc_blk_new]
    have : i = 0 ∨ i = 1 := by omega
    rcases this with rfl | rfl <;> rfl⟩
set_option maxRecDepth 100000 in
set_option maxHeartbeats 4000000 in
theorem rcut_long (B s d n c b o : Nat) (Z : Nat → Int) (w : World) (hs : BS B w (some ⟨b, o, none⟩) n c Z) (hBw : B ≤ w.heap.size) (hu : isU Z n) (hn : n ≤ 1000) (hsd : s = d + 2) (hd : 1 ≤ d) (hsn : s < n) :
    Calls Try.prog 26 #[.slice (some ⟨b, o, none⟩) n c, .int .i64 s] w fun e w' => ∃ K, Man n d K ∧ RCutPost (fun k => pcL Z n d (qk d k)) K w e w' := by
  have hle := hs.le
  have hmx := hs.max
  have HU := Lib.hid (runit_any B (some ⟨b, o, none⟩) n c Z w hs true ⟨fun _ => hu, fun _ => rfl⟩)
  have HS := Lib.hid hs
  have t1 : decide ((s : Int) < 3) = false := by simp; omega
  have t2 : decide ((n : Int) ≤ (s : Int)) = false := by simp; omega
  have t2' : decide (n ≤ s) = false := by simp; omega
  have hsd2 := Lib.hid hsd
  have hn0 : 0 < n := by omega
  have hn2 : 2 ≤ n := by omega
  clear hs hsd
  go_enter Try.func26, Try.ntmps26
  go_wp2_with fail
  refine HU.out.mono ?_
  rintro e w' ⟨rfl, rfl⟩
  go_wp2_with fail
  go_loopw [6, 7] (fun so sa wx => ∃ (k p c' : Nat) (a' : Option Addr), so = .slice a' k c' ∧ sa = .int .i64 p ∧ 1 ≤ p ∧ p ≤ 3000 ∧ k < p ∧ Hid (p = 1 + qk d k) ∧ Hid (∀ j, j < k → 1 + qk d j < n) ∧ Hid (wx.ownsRow w.heap.size 9 1 (.slice a' k c') k (strs (fun k => pcL Z n d (qk d k)) k)) ∧ Hid (Below w.heap.size w wx)) (fun _ sa _ => n - (intOf sa).toNat)
  case atStart => exact ⟨0, 1, 0, none, rfl, rfl, by omega, by omega, by omega, Lib.hid rfl, Lib.hid (fun j hj => by omega), Lib.hid (World.ownsRow_nil _ _ _ _), Lib.hid (Below.refl _ _)⟩
  case round =>
    obtain ⟨k, p, c', a', rfl, rfl, hp1, hp3, hkp, HP, HJ, HO, HB⟩ := hrel
    by_cases hlt : p < n
    · have hsw := HS.out.keep (HB.out.mono hBw)
      obtain ⟨b', o', he, hbB, hcc⟩ := hsw.at_ (by omega)
      cases he
      have c0 := hcc 0 (by omega)
      rw [Nat.add_zero] at c0
      have hu0 := hsw.bd 0 (by omega)
      obtain ⟨t, ht⟩ : ∃ t, t = p + d := ⟨_, rfl⟩
      have hto : (p : Int) + (s : Int) - 2 = (t : Int) := by have := hsd2.out; omega
      have hs1 : (s : Int) ≤ 1000 := by omega
      have HT := Lib.hid ht
      have ht1 : p < t := by omega
      have ht2 : t ≤ 3000 := by have := hsd2.out; omega
      clear ht hcc
      generalize hz : Z 0 = u at c0 hu0
      have HZ := Lib.hid hz
      have hu1 : 0 ≤ u % 32 ∧ u % 32 ≤ 31 := by omega
      clear hz
      have HC0 : Hid (∀ z : { w' : World // Below w.heap.size w w' }, z.1.cell? ⟨b, o, none⟩ = some (.int .u8 u)) := Lib.hid (fun z => by
        obtain ⟨b', o', he, hbB, hcc⟩ := (HS.out.keep (z.2.mono hBw)).at_ (by omega)
        cases he
        have := hcc 0 (by omega)
        rw [Nat.add_zero, HZ.out] at this
        exact this)
      have e1 : IntKind.u8.wrap (u.tdiv 32) = u / 32 := by rw [Int.tdiv_eq_ediv_of_nonneg hu0.1, IntKind.wrap_u8]; omega
      have e2 : IntKind.u8.wrap (u / 32 * 32) = u / 32 * 32 := by rw [IntKind.wrap_u8]; omega
      have e3 : IntKind.u8.wrap (u / 32 * 32 + 28) = u / 32 * 32 + 28 := by rw [IntKind.wrap_u8]; omega
      have HP5 : Hid (t = 1 + qk d (k + 1)) := Lib.hid (by show t = 1 + (qk d k + d); have := HT.out; have := HP.out; omega)
      have HJ5 : Hid (∀ j, j < k + 1 → 1 + qk d j < n) := Lib.hid (fun j hj => by
        by_cases e : j = k
        · subst e; rw [← HP.out]; exact hlt
        · exact HJ.out j (by omega))
      have hLL : ∀ (y : Int) (e : Nat), 0 ≤ y ∧ y ≤ 255 → p < e → e ≤ n → y = fzI n d (qk d k) + u % 32 → e - p = min d (n - 1 - qk d k) → ∃ S1 S2 a5 c5 W5 V1 V2, (wr.alloc (.cells #[.int .u8 (u / 32 * 32 + 28), .int .u8 y] 5)).drew = V1 ∧ V1.alloc (.cells #[.string (S1 ++ S2)] 9) = V2 ∧
          Hid ((convert 22 9 (.slice (some ⟨wr.heap.size, 0, none⟩) 2 2)).run Try.prog V1 = .ok (.string S1) V1) ∧ Hid (∀ z : { w' : World // Below w.heap.size w w' }, (convert 22 9 (.slice (some ⟨b, o + p, none⟩) (e - p) (c - p))).run Try.prog z.1 = .ok (.string S2) z.1) ∧
          Hid (Below w.heap.size w wr.drew) ∧ Hid (Below w.heap.size w V1) ∧ Hid (Below w.heap.size w V2) ∧ Hid (Below w.heap.size w W5) ∧
          Hid (∀ ty, (Builtin.append_ #[53, 53] ty #[.slice a' k c', .slice (some ⟨V1.heap.size, 0, none⟩) 1 1]).run Try.prog V2 = .ok (.slice a5 (k + 1) c5) W5) ∧
          Hid (W5.ownsRow w.heap.size 9 1 (.slice a5 (k + 1) c5) (k + 1) (strs (fun k => pcL Z n d (qk d k)) (k + 1))) ∧ Hid (S1.size + S2.size ≤ 3000) := by
        intro y e hy hpe hen hye hep
        have d0 : Below w.heap.size w wr.drew := HB.out.drew
        have d1 : Below w.heap.size w (wr.drew.alloc (.cells #[.int .u8 (u / 32 * 32 + 28), .int .u8 y] 5)) := d0.alloc HB.out.size _
        have d1' : Below w.heap.size w (wr.alloc (.cells #[.int .u8 (u / 32 * 32 + 28), .int .u8 y] 5)).drew := d1
        have hS : strL [u / 32 * 32 + 28, y] ++ strL (zs (fun x => Z (p + x)) (e - p)) = strL (pcL Z n d (qk d k)) := by
          unfold strL
          rw [← strOfNums_app]
          unfold pcL
          rw [hye, HZ.out, hep, HP.out]
        have o1 := own_below HO.out (((Below.refl _ _).alloc (Nat.le_refl _) (.cells #[.int .u8 (u / 32 * 32 + 28), .int .u8 y] 5)).drew)
        obtain ⟨a5, c5, W5, A5, b5⟩ := app1 elStr o1 [.string (strL [u / 32 * 32 + 28, y] ++ strL (zs (fun x => Z (p + x)) (e - p)))] rfl (one_cell rfl) (by omega) (by omega) (by have := d1'.size; omega)
        refine ⟨_, _, a5, c5, W5, _, _, rfl, rfl, Lib.hid ?_, Lib.hid (fun z => ?_), Lib.hid d0, Lib.hid d1', Lib.hid (d1'.alloc d1'.size _), Lib.hid (d1'.trans b5), Lib.hid A5.run, Lib.hid ?_, Lib.hid (by unfold strL; rw [strOfNums_size, strOfNums_size, zs_len]; show 2 + _ ≤ _; omega)⟩
        · exact convZ (bs_two wr.drew (u / 32 * 32 + 28) y (by omega) hy)
        · have := ((HS.out.keep (z.2.mono hBw)).cut (k := e) (m := c) hen (by omega) (Nat.le_refl _)).drop p (by omega) (by omega)
          exact convZ this
        · rw [strs_succ, ← hS]; exact A5.own
      rcases (show p = 1 ∨ 1 < p by omega) with h1 | h1
      · rcases (show n ≤ t ∨ t < n by omega) with h2 | h2
        · have u1 : ((p : Int) == 1) = true := by simp; omega
          have u2 : decide ((n : Int) ≤ (t : Int)) = true := by simp; omega
          have u2' : decide (n ≤ t) = true := by simp; omega
          obtain ⟨y, hy⟩ : ∃ y, u % 32 + 128 + 64 = y := ⟨_, rfl⟩
          have hyb : 0 ≤ y ∧ y ≤ 255 := by omega
          have hL := hLL y n (by omega) (by omega) (by omega) (by have := HT.out; have := HP.out; unfold fzI; rw [← hy, if_pos (by omega), if_pos (by omega)]; omega) (by have := HT.out; have := HP.out; omega)
          obtain ⟨S1, S2, a5, c5, W5, V1, V2, hV1, hV2, cv1, cv2, D0, D1, D2, D5, HRUN, HO5, HS12⟩ := hL
          have k1 : ¬ c = p := by omega
          have k2 : p ≤ n := by omega
          have k3 : n ≤ c := by omega
          clear hLL h1 h2
          go_upto_region 16 with (fail)
          have hne : Nonempty { w' : World // Below w.heap.size w w' } := ⟨⟨w, Below.refl _ _⟩⟩
          have c0 : ∀ z : { w' : World // Below w.heap.size w w' }, z.1.cell? ⟨b, o, none⟩ = some (.int .u8 u) := HC0.out
          refine MixC.wp_region_mix [8, 9, 15, 16, 17] (Below w.heap.size w) D0.out (by kernel_rfl) (by kernel_rfl) (by kernel_rfl) ?_
          (iterate 8 (refine MixC.mix_read rfl (fun K hK => ?_); go_simp; refine hK _ ?_; clear hK K))
          refine MixC.mix_move rfl (fun K hK => ?_)
          go_simp
          refine ⟨D1.out, hK _ _ ?_⟩
          clear hK K
          have cv1 := cv1.out
          refine MixC.mix_move rfl (fun K hK => ?_)
          go_simp
          refine ⟨D1.out, hK _ _ ?_⟩
          clear hK K cv1
          have cv2 := cv2.out
          have kS : ¬ 9223372036854775807 < S1.size + S2.size := by have := HS12.out; omega
          (iterate 5 (refine MixC.mix_read rfl (fun K hK => ?_); go_simp; refine hK _ ?_; clear hK K))
          refine MixC.mix_move rfl (fun K hK => ?_)
          go_simp
          refine ⟨D1.out, hK _ _ ?_⟩
          clear hK K cv2
          refine MixC.mix_move rfl (fun K hK => ?_)
          go_simp
          refine ⟨D2.out, hK _ _ ?_⟩
          clear hK K
          (refine MixC.mix_move rfl (fun K hK => ?_); refine Eq.mpr (if_pos rfl) ?_; refine mv_app (s := .tmp 52) (x := .tmp 68) (t := 53) rfl rfl rfl HRUN.out D5.out (hK _ _ ?_); clear hK K)
          (refine MixC.mix_read rfl (fun K hK => ?_); go_simp; refine hK _ ?_; clear hK K)
          refine MixC.mix_nil ?_
          change Exit.inBlock _ _ _ _ W5
          clear c0 hne hV1 hV2 k1 k2 k3
          go_wp2_with fail
          exact ⟨⟨k + 1, t, c5, a5, rfl, rfl, by omega, ht2, by omega, HP5, HJ5, HO5, D5⟩, by simp [intOf]; omega⟩
        · have u1 : ((p : Int) == 1) = true := by simp; omega
          have u2 : decide ((n : Int) ≤ (t : Int)) = false := by simp; omega
          have u2' : decide (n ≤ t) = false := by simp; omega
          obtain ⟨y, hy⟩ : ∃ y, u % 32 + 128 = y := ⟨_, rfl⟩
          have hyb : 0 ≤ y ∧ y ≤ 255 := by omega
          have hL := hLL y t (by omega) (by omega) (by omega) (by have := HT.out; have := HP.out; unfold fzI; rw [← hy, if_pos (by omega), if_neg (by omega)]; omega) (by have := HT.out; have := HP.out; omega)
          obtain ⟨S1, S2, a5, c5, W5, V1, V2, hV1, hV2, cv1, cv2, D0, D1, D2, D5, HRUN, HO5, HS12⟩ := hL
          have k1 : ¬ c = p := by omega
          have k2 : p ≤ t := by omega
          have k3 : t ≤ c := by omega
          clear hLL h1 h2
          go_upto_region 16 with (fail)
          have hne : Nonempty { w' : World // Below w.heap.size w w' } := ⟨⟨w, Below.refl _ _⟩⟩
          have c0 : ∀ z : { w' : World // Below w.heap.size w w' }, z.1.cell? ⟨b, o, none⟩ = some (.int .u8 u) := HC0.out
          refine MixC.wp_region_mix [8, 9, 15, 16, 17] (Below w.heap.size w) D0.out (by kernel_rfl) (by kernel_rfl) (by kernel_rfl) ?_
          (iterate 8 (refine MixC.mix_read rfl (fun K hK => ?_); go_simp; refine hK _ ?_; clear hK K))
          refine MixC.mix_move rfl (fun K hK => ?_)
          go_simp
          refine ⟨D1.out, hK _ _ ?_⟩
          clear hK K
          have cv1 := cv1.out
          refine MixC.mix_move rfl (fun K hK => ?_)
          go_simp
          refine ⟨D1.out, hK _ _ ?_⟩
          clear hK K cv1
          have cv2 := cv2.out
          have kS : ¬ 9223372036854775807 < S1.size + S2.size := by have := HS12.out; omega
          (iterate 5 (refine MixC.mix_read rfl (fun K hK => ?_); go_simp; refine hK _ ?_; clear hK K))
          refine MixC.mix_move rfl (fun K hK => ?_)
          go_simp
          refine ⟨D1.out, hK _ _ ?_⟩
          clear hK K cv2
          refine MixC.mix_move rfl (fun K hK => ?_)
          go_simp
          refine ⟨D2.out, hK _ _ ?_⟩
          clear hK K
          (refine MixC.mix_move rfl (fun K hK => ?_); refine Eq.mpr (if_pos rfl) ?_; refine mv_app (s := .tmp 52) (x := .tmp 68) (t := 53) rfl rfl rfl HRUN.out D5.out (hK _ _ ?_); clear hK K)
          (refine MixC.mix_read rfl (fun K hK => ?_); go_simp; refine hK _ ?_; clear hK K)
          refine MixC.mix_nil ?_
          change Exit.inBlock _ _ _ _ W5
          clear c0 hne hV1 hV2 k1 k2 k3
          go_wp2_with fail
          exact ⟨⟨k + 1, t, c5, a5, rfl, rfl, by omega, ht2, by omega, HP5, HJ5, HO5, D5⟩, by simp [intOf]; omega⟩
      · rcases (show n ≤ t ∨ t < n by omega) with h2 | h2
        · have u1 : ((p : Int) == 1) = false := by simp; omega
          have u2 : decide ((n : Int) ≤ (t : Int)) = true := by simp; omega
          have u2' : decide (n ≤ t) = true := by simp; omega
          obtain ⟨y, hy⟩ : ∃ y, u % 32 + 64 = y := ⟨_, rfl⟩
          have hyb : 0 ≤ y ∧ y ≤ 255 := by omega
          have hL := hLL y n (by omega) (by omega) (by omega) (by have := HT.out; have := HP.out; unfold fzI; rw [← hy, if_neg (by omega), if_pos (by omega)]; omega) (by have := HT.out; have := HP.out; omega)
          obtain ⟨S1, S2, a5, c5, W5, V1, V2, hV1, hV2, cv1, cv2, D0, D1, D2, D5, HRUN, HO5, HS12⟩ := hL
          have k1 : ¬ c = p := by omega
          have k2 : p ≤ n := by omega
          have k3 : n ≤ c := by omega
          clear hLL h1 h2
          go_upto_region 16 with (fail)
          have hne : Nonempty { w' : World // Below w.heap.size w w' } := ⟨⟨w, Below.refl _ _⟩⟩
          have c0 : ∀ z : { w' : World // Below w.heap.size w w' }, z.1.cell? ⟨b, o, none⟩ = some (.int .u8 u) := HC0.out
          refine MixC.wp_region_mix [8, 9, 15, 16, 17] (Below w.heap.size w) D0.out (by kernel_rfl) (by kernel_rfl) (by kernel_rfl) ?_
          (iterate 8 (refine MixC.mix_read rfl (fun K hK => ?_); go_simp; refine hK _ ?_; clear hK K))
          refine MixC.mix_move rfl (fun K hK => ?_)
          go_simp
          refine ⟨D1.out, hK _ _ ?_⟩
          clear hK K
          have cv1 := cv1.out
          refine MixC.mix_move rfl (fun K hK => ?_)
          go_simp
          refine ⟨D1.out, hK _ _ ?_⟩
          clear hK K cv1
          have cv2 := cv2.out
          have kS : ¬ 9223372036854775807 < S1.size + S2.size := by have := HS12.out; omega
          (iterate 5 (refine MixC.mix_read rfl (fun K hK => ?_); go_simp; refine hK _ ?_; clear hK K))
          refine MixC.mix_move rfl (fun K hK => ?_)
          go_simp
          refine ⟨D1.out, hK _ _ ?_⟩
          clear hK K cv2
          refine MixC.mix_move rfl (fun K hK => ?_)
          go_simp
          refine ⟨D2.out, hK _ _ ?_⟩
          clear hK K
          (refine MixC.mix_move rfl (fun K hK => ?_); refine Eq.mpr (if_pos rfl) ?_; refine mv_app (s := .tmp 52) (x := .tmp 68) (t := 53) rfl rfl rfl HRUN.out D5.out (hK _ _ ?_); clear hK K)
          (refine MixC.mix_read rfl (fun K hK => ?_); go_simp; refine hK _ ?_; clear hK K)
          refine MixC.mix_nil ?_
          change Exit.inBlock _ _ _ _ W5
          clear c0 hne hV1 hV2 k1 k2 k3
          go_wp2_with fail
          exact ⟨⟨k + 1, t, c5, a5, rfl, rfl, by omega, ht2, by omega, HP5, HJ5, HO5, D5⟩, by simp [intOf]; omega⟩
        · have u1 : ((p : Int) == 1) = false := by simp; omega
          have u2 : decide ((n : Int) ≤ (t : Int)) = false := by simp; omega
          have u2' : decide (n ≤ t) = false := by simp; omega
          obtain ⟨y, hy⟩ : ∃ y, u % 32 = y := ⟨_, rfl⟩
          have hyb : 0 ≤ y ∧ y ≤ 255 := by omega
          have hL := hLL y t (by omega) (by omega) (by omega) (by have := HT.out; have := HP.out; unfold fzI; rw [← hy, if_neg (by omega), if_neg (by omega)]; omega) (by have := HT.out; have := HP.out; omega)
          obtain ⟨S1, S2, a5, c5, W5, V1, V2, hV1, hV2, cv1, cv2, D0, D1, D2, D5, HRUN, HO5, HS12⟩ := hL
          have k1 : ¬ c = p := by omega
          have k2 : p ≤ t := by omega
          have k3 : t ≤ c := by omega
          clear hLL h1 h2
          go_upto_region 16 with (fail)
          have hne : Nonempty { w' : World // Below w.heap.size w w' } := ⟨⟨w, Below.refl _ _⟩⟩
          have c0 : ∀ z : { w' : World // Below w.heap.size w w' }, z.1.cell? ⟨b, o, none⟩ = some (.int .u8 u) := HC0.out
          refine MixC.wp_region_mix [8, 9, 15, 16, 17] (Below w.heap.size w) D0.out (by kernel_rfl) (by kernel_rfl) (by kernel_rfl) ?_
          (iterate 8 (refine MixC.mix_read rfl (fun K hK => ?_); go_simp; refine hK _ ?_; clear hK K))
          refine MixC.mix_move rfl (fun K hK => ?_)
          go_simp
          refine ⟨D1.out, hK _ _ ?_⟩
          clear hK K
          have cv1 := cv1.out
          refine MixC.mix_move rfl (fun K hK => ?_)
          go_simp
          refine ⟨D1.out, hK _ _ ?_⟩
          clear hK K cv1
          have cv2 := cv2.out
          have kS : ¬ 9223372036854775807 < S1.size + S2.size := by have := HS12.out; omega
          (iterate 5 (refine MixC.mix_read rfl (fun K hK => ?_); go_simp; refine hK _ ?_; clear hK K))
          refine MixC.mix_move rfl (fun K hK => ?_)
          go_simp
          refine ⟨D1.out, hK _ _ ?_⟩
          clear hK K cv2
          refine MixC.mix_move rfl (fun K hK => ?_)
          go_simp
          refine ⟨D2.out, hK _ _ ?_⟩
          clear hK K
          (refine MixC.mix_move rfl (fun K hK => ?_); refine Eq.mpr (if_pos rfl) ?_; refine mv_app (s := .tmp 52) (x := .tmp 68) (t := 53) rfl rfl rfl HRUN.out D5.out (hK _ _ ?_); clear hK K)
          (refine MixC.mix_read rfl (fun K hK => ?_); go_simp; refine hK _ ?_; clear hK K)
          refine MixC.mix_nil ?_
          change Exit.inBlock _ _ _ _ W5
          clear c0 hne hV1 hV2 k1 k2 k3
          go_wp2_with fail
          exact ⟨⟨k + 1, t, c5, a5, rfl, rfl, by omega, ht2, by omega, HP5, HJ5, HO5, D5⟩, by simp [intOf]; omega⟩
    · have hM : Hid (Man n d k) := Lib.hid ⟨by rw [← HP.out]; omega, HJ.out⟩
      clear HP HJ
      go_wp2_with fail
      go_returns
      exact ⟨k, hM.out, a', c', rfl, HO.out, HB.out⟩
set_option maxRecDepth 100000 in
set_option maxHeartbeats 2000000 in
theorem rcut_short (B n c : Nat) (a : Option Addr) (s : Int) (Z : Nat → Int) (w : World) (hs : BS B w a n c Z) (hBw : B ≤ w.heap.size) (hu : isU Z n) (hs3 : 3 ≤ s) (hsn : n ≤ s) :
    Calls Try.prog 26 #[.slice a n c, .int .i64 s] w (RCutPost (fun _ => zs Z n) 1 w) := by
  have hle := hs.le
  have hmx := hs.max
  have HU := Lib.hid (runit_any B a n c Z w hs true ⟨fun _ => hu, fun _ => rfl⟩)
  have hcv := convZ hs
  have t1 : decide (s < 3) = false := by simp; omega
  have t2 : decide ((n : Int) ≤ s) = true := by simp; omega
  have HR : Hid ((w.alloc (.cells #[.string (strL (zs Z n))] 9)).ownsRow w.heap.size 9 1 (.slice (some ⟨w.heap.size, 0, none⟩) 1 1) 1 (strs (fun _ => zs Z n) 1)) := Lib.hid ⟨rfl, .inr ⟨w.heap.size, 1, _, rfl, Nat.le_refl _, alloc_blk_new, Nat.le_refl _, by unfold maxLen; omega, rfl, rfl⟩⟩
  clear hs
  go_enter Try.func26, Try.ntmps26
  go_wp2_with fail
  refine HU.out.mono ?_
  rintro e w' ⟨rfl, rfl⟩
  go_wp2_with fail
  go_returns
  exact ⟨_, _, rfl, HR.out, (Below.refl _ _).alloc (Nat.le_refl _) _⟩
set_option maxRecDepth 100000 in
set_option maxHeartbeats 2000000 in
theorem rcut_bad (B n c : Nat) (a : Option Addr) (s : Int) (Z : Nat → Int) (w : World) (hs : BS B w a n c Z) (hno : ¬ (isU Z n ∧ 3 ≤ s)) :
    Calls Try.prog 26 #[.slice a n c, .int .i64 s] w fun e w' => e = .returned (.tuple #[.slice none 0 0, .bool false]) ∧ w = w' := by
  have hle := hs.le
  have hmx := hs.max
  by_cases hu : isU Z n
  · have t1 : decide (s < 3) = true := by
      have : ¬ 3 ≤ s := fun h => hno ⟨hu, h⟩
      simp; omega
    have HU := Lib.hid (runit_any B a n c Z w hs true ⟨fun _ => hu, fun _ => rfl⟩)
    clear hs hno hu
    go_enter Try.func26, Try.ntmps26
    go_wp2_with fail
    refine HU.out.mono ?_
    rintro e w' ⟨rfl, rfl⟩
    go_wp2_with fail
    go_returns
    exact ⟨rfl, rfl⟩
  · have HU := Lib.hid (runit_any B a n c Z w hs false ⟨fun h => (by cases h), fun h => absurd h hu⟩)
    clear hs hno hu
    go_enter Try.func26, Try.ntmps26
    go_wp2_with fail
    refine HU.out.mono ?_
    rintro e w' ⟨rfl, rfl⟩
    go_wp2_with fail
    go_returns
    exact ⟨rfl, rfl⟩
end Go.Proofs.Ytkoplofcjbeicaa
