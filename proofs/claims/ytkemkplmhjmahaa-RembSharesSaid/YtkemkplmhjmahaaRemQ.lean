/-
  The reference of chapter 25: the walk of its Share.
-/
import Derived.Test.YtkemkplmhjmahaaRemR
namespace Go.Proofs.Ytkemkplmhjmahaa
open Go.RowKit
set_option linter.unusedVariables false
set_option linter.unusedSimpArgs false
attribute [local irreducible] wpStill wpQuiet

theorem RW.congr {B : Nat} {w0 W : World} {a : Option Addr} {n : Nat} {A : Nat → Option Addr} {K : Nat → Nat} {C : Nat → Nat → Int} {L : Nat → Nat} {q : Nat} {Y Y' : Nat → Int} (h : RW B w0 W a n A K C L q Y) (e : ∀ i, i < n → Y' i = Y i) : RW B w0 W a n A K C L q Y' := by
  obtain ⟨⟨cur, g6, g7⟩, h6, h7, h8⟩ := h
  exact ⟨⟨cur, g6, fun i hi => by rw [e i hi]; exact g7 i hi⟩, h6, h7, h8⟩
theorem RW.room {B : Nat} {w0 W : World} {a : Option Addr} {n : Nat} {A : Nat → Option Addr} {K : Nat → Nat} {C : Nat → Nat → Int} {L : Nat → Nat} {q : Nat} {S : Sh} (h : RW B w0 W a n A K C L q S.out) : roomW W (some ⟨q, 0, none⟩) n = room S n := by
  have : ∀ m, m ≤ n → roomW W (some ⟨q, 0, none⟩) m = Go.Proofs.Ytkemkplmhjmahaa.room S m := by
    intro m
    induction m with
    | zero => intro _; rfl
    | succ m ih =>
      intro hm
      unfold roomW Go.Proofs.Ytkemkplmhjmahaa.room
      rw [ih (by omega)]
      have := h.cell m (by omega)
      show _ + (7 - intOf ((W.cell? ⟨q, m, none⟩).getD (.bool false))).toNat = _
      rw [this]
      rfl
  exact this n (Nat.le_refl _)
set_option maxRecDepth 100000 in
set_option maxHeartbeats 4000000 in
theorem rshare_any (w : World) (rate : Int) (a : Option Addr) (n cap : Nat) (A : Nat → Option Addr) (K : Nat → Nat) (C : Nat → Nat → Int) (L : Nat → Nat) (hcs : CS w.heap.size w a n A K C L) (hL : ∀ i, L i ≤ 1000) (hn : n ≤ 1000) (hcap : n ≤ cap) (r0 : 0 ≤ rate) (r1 : rate ≤ 18446744073709551615) :
    Calls Try.prog 32 #[.int .u64 rate, .slice a n cap] w fun e w' => ∃ q T, e = .returned (.slice (some ⟨q, 0, none⟩) n n) ∧ FinS C L n (sh0 rate) T ∧ Below w.heap.size w w' ∧ w.heap.size ≤ q ∧ q < w'.heap.size ∧ ∀ i, i < n → w'.cell? ⟨q, i, none⟩ = some (.int .i64 (T.out i)) := by
  have hmk := rmake n hn
  have R0 : RW w.heap.size w (w.alloc (.cells (madeCells #[.int .i64 0] n) 3)) a n A K C L w.heap.size (fun _ => 0) := ⟨⟨_, alloc_blk_new, fun i hi => made_get n i hi⟩, (Below.refl _ w).alloc (Nat.le_refl _) _, hcs.keep ((Below.refl _ w).alloc (Nat.le_refl _) _), Nat.le_refl _⟩
  have HLL := Lib.hid hL
  clear hcs hL
  go_enter Try.func32, Try.ntmps32
  go_wp2_with fail
  generalize hW0 : w.alloc _ = W0
  rw [hW0] at R0
  obtain ⟨q, hq⟩ : ∃ q, q = w.heap.size := ⟨_, rfl⟩
  rw [← hq]
  have R1 : Hid (RW w.heap.size w W0 a n A K C L q (fun _ => 0)) := Lib.hid (by rw [hq]; exact R0)
  have hwq : w.heap.size ≤ q := by omega
  clear R0 hW0 hmk hq
  go_loopw [6] (fun si wr => ∃ (k : Nat), k ≤ n ∧ si = .int .i64 k ∧ Hid (RW w.heap.size w wr a n A K C L q (fun i => if i < k then -1 else 0))) (fun si _ => n - (intOf si).toNat)
  case atStart => exact ⟨0, by omega, rfl, Lib.hid (R1.out.congr fun i hi => if_neg (by omega))⟩
  case round =>
    clear R1
    obtain ⟨k, hk, rfl, R⟩ := hrel
    by_cases hlt : k < n
    · have f0 := R.out.free k
      have c0 := R.out.cell k hlt
      have R2 := Lib.hid ((R.out.set k hlt (-1)).congr (Y' := fun i => if i < k + 1 then -1 else 0) fun i hi => by
        by_cases h : i = k
        · subst h; rw [if_pos (by omega), if_pos rfl]
        · rw [if_neg h]
          by_cases h2 : i < k
          · rw [if_pos (by omega), if_pos h2]
          · rw [if_neg (by omega), if_neg h2])
      clear R
      go_wp2_with fail
      go_roundw
      case rel => exact ⟨k + 1, by omega, by go_num, R2⟩
      case measure => simp [intOf] <;> omega
    · obtain rfl : n = k := by omega
      have R3 : Hid (RW w.heap.size w wr a n A K C L q (sh0 rate).out) := Lib.hid (R.out.congr fun i hi => by rw [if_pos hi]; rfl)
      clear R hk hlt
      go_wp2_with fail
      go_loopw [7] (fun sl wr => ∃ (S : Sh), sl = .int .u64 S.left ∧ Hid (SI S ∧ (∃ j, S = iterS C L n (sh0 rate) j) ∧ RW w.heap.size w wr a n A K C L q S.out)) (fun _ wr => roomW wr (some ⟨q, 0, none⟩) n)
      case atStart => exact ⟨sh0 rate, rfl, Lib.hid ⟨⟨fun i => by show (-1 : Int) ≤ -1; omega, fun i => by show (-1 : Int) ≤ 7; omega, r0, r1⟩, ⟨0, rfl⟩, R3.out⟩⟩
      case round =>
        clear R3
        obtain ⟨S, rfl, R⟩ := hrel
        generalize hWW : wr = W at *
        clear hWW
        go_wp2_with fail
        go_loopw [8, 9] (fun sb sw wr => ∃ (d : Nat) (want best : Int), sw = .int .i64 want ∧ sb = .int .i64 best ∧ -1 ≤ want ∧ want ≤ 8 ∧ Hid (wr = W.drewN d) ∧ Hid ((best = -1 ∧ atL C L S n want) ∨ ∃ b : Nat, best = b ∧ isBest C L S n b ∧ want < 8)) (fun _ sw _ => (8 - intOf sw).toNat)
        case atStart => exact ⟨0, -1, -1, rfl, rfl, by omega, by omega, Lib.hid rfl, Lib.hid (.inl ⟨rfl, fun i hi _ => R.out.1.lo i⟩)⟩
        case round =>
          obtain ⟨d, want, best, rfl, rfl, hw1, hw2, hw, hB⟩ := hrel
          have X : Hid (RW w.heap.size w wr a n A K C L q S.out) := Lib.hid (by rw [hw.out]; exact R.out.2.2.drewN d)
          rcases hB.out with ⟨rfl, hat⟩ | ⟨b, rfl, hbest, h8⟩
          · by_cases h8 : want < 8
            · have HAT := Lib.hid hat
              clear hat hB X
              go_wp2_with fail
              go_loopw [8, 10] (fun sb si wr => ∃ (i d : Nat) (best : Int), si = .int .i64 i ∧ sb = .int .i64 best ∧ i ≤ n ∧ i ≤ 64 ∧ Hid (wr = W.drewN d) ∧ Hid ((best = -1 ∧ ∀ i', i' < i → fitsB C L S i' = true → S.out i' ≠ want) ∨ ∃ b : Nat, best = b ∧ isBest C L S n b ∧ want + 1 < 8)) (fun _ si _ => n + 65 - (intOf si).toNat)
              case atStart => exact ⟨0, d, -1, rfl, rfl, by omega, by omega, hw, Lib.hid (.inl ⟨rfl, fun i hi => by omega⟩)⟩
              case round =>
                clear hw
                obtain ⟨i, d, best, rfl, rfl, hin, hi64, hw, hB⟩ := hrel
                have hwr1 : IntKind.i64.wrap (want + 1) = want + 1 := IntWalk.i64_in _ (by omega)
                have hwr2 : wrap64 (want + 1) = want + 1 := by unfold wrap64; omega
                rcases hB.out with ⟨rfl, hno⟩ | ⟨b, rfl, hbest, h87⟩
                · have HNO := Lib.hid hno
                  clear hno hB
                  by_cases hi1 : i < n
                  · by_cases hi2 : i < 64
                    · have X : Hid (RW w.heap.size w wr a n A K C L q S.out) := Lib.hid (by rw [hw.out]; exact R.out.2.2.drewN d)
                      have co := X.out.cell i hi1
                      obtain ⟨bb, off, rfl, hb, hc⟩ := X.out.cs.at_ (by omega)
                      have c4 := hc i hi1
                      have hLi := HLL.out i
                      clear hc
                      have HW1 : Hid (wr.drew = W.drewN (d + 1)) := Lib.hid (by rw [hw.out]; rfl)
                      by_cases ho : S.out i = want
                      · have eo1 : (S.out i != want) = false := by simp [ho]
                        have eo2 : (S.out i == want) = true := by simp [ho]
                        by_cases hs1 : want + 1 < (L i : Int)
                        · by_cases hs2 : want + 1 < 8
                          · have es1 : decide ((L i : Int) ≤ want + 1) = false := by (simp; omega)
                            have es2 : decide ((8 : Int) ≤ want + 1) = false := by (simp; omega)
                            have HC1 : Hid (Calls Try.prog 49 #[.slice (A i) (L i) (K i), .int .i64 (want + 1)] wr.drew fun e w' => e = .returned (.int .u64 (cst C L i (want + 1))) ∧ w' = wr.drew) := Lib.hid (rcostR (X.out.drewN 1).cs i hi1 _)
                            have HC0 : Hid (Calls Try.prog 49 #[.slice (A i) (L i) (K i), .int .i64 want] wr.drew fun e w' => e = .returned (.int .u64 (cst C L i want)) ∧ w' = wr.drew) := Lib.hid (rcostR (X.out.drewN 1).cs i hi1 _)
                            have hz := cst_bd X.out.cs.bd L i want
                            have HFit : Hid (fitsB C L S i = decide (cst C L i (want + 1) ≤ satI S.left (cst C L i want))) := Lib.hid (by unfold fitsB; rw [ho, decide_eq_true hi2, decide_eq_true (by omega : want + 1 < min (L i : Int) 8)]; rfl)
                            have hl0 := R.out.1.l0
                            have hl1 := R.out.1.l1
                            have HS := Lib.hid (rsatR S.left (cst C L i want) wr.drew hl0 hl1 hz.1 hz.2)
                            clear hz hl0 hl1
                            generalize hz1 : cst C L i (want + 1) = z1 at *
                            generalize hz0 : cst C L i want = z0 at *
                            clear hz1 hz0
                            have HO := Lib.hid ho
                            clear ho
                            by_cases hfit : z1 ≤ satI S.left z0
                            · have ef : decide (z1 ≤ satI S.left z0) = true := by simpa using hfit
                              have HBest : Hid (isBest C L S n i) := Lib.hid (HAT.out.best hi1 (by rw [HFit.out, ef]) HO.out HNO.out)
                              clear hfit HNO HAT HFit
                              go_wp2_with fail
                              refine wp_region_still_lit (by kernel_rfl) (by kernel_rfl) ?_
                              iterate 6 still_step
                              still_call HC1.out
                              iterate 6 still_step
                              still_call HC0.out
                              still_call HS.out
                              iterate 1 still_step
                              refine wpStill_nil ?_
                              change Exit.then _ _ _ _ wr.drew
                              go_wp2_with fail
                              go_roundw
                              case rel => exact ⟨i + 1, d + 1, _, by go_num, rfl, by omega, by omega, HW1, Lib.hid (.inr ⟨i, rfl, HBest.out, hs2⟩)⟩
                              case measure => simp [intOf] <;> omega
                            · have ef : decide (z1 ≤ satI S.left z0) = false := by simpa using hfit
                              have HNO2 : Hid (∀ i', i' < i + 1 → fitsB C L S i' = true → S.out i' ≠ want) := Lib.hid (fun i' hi' hf => by
                                by_cases h : i' = i
                                · subst h; rw [HFit.out, ef] at hf; cases hf
                                · exact HNO.out i' (by omega) hf)
                              clear HNO HAT
                              clear hfit HFit
                              go_wp2_with fail
                              refine wp_region_still_lit (by kernel_rfl) (by kernel_rfl) ?_
                              iterate 6 still_step
                              still_call HC1.out
                              iterate 6 still_step
                              still_call HC0.out
                              still_call HS.out
                              iterate 1 still_step
                              refine wpStill_nil ?_
                              change Exit.then _ _ _ _ wr.drew
                              go_wp2_with fail
                              go_roundw
                              case rel => exact ⟨i + 1, d + 1, _, by go_num, rfl, by omega, by omega, HW1, Lib.hid (.inl ⟨rfl, HNO2.out⟩)⟩
                              case measure => simp [intOf] <;> omega
                          · have es1 : decide ((L i : Int) ≤ want + 1) = false := by (simp; omega)
                            have es2 : decide ((8 : Int) ≤ want + 1) = true := by (simp; omega)
                            have HNO2 : Hid (∀ i', i' < i + 1 → fitsB C L S i' = true → S.out i' ≠ want) := Lib.hid (fun i' hi' hf => by
                              by_cases h : i' = i
                              · subst h; have := fits_of hf; omega
                              · exact HNO.out i' (by omega) hf)
                            clear HNO HAT
                            go_wp2_with fail
                            go_roundw
                            case rel => exact ⟨i + 1, d, _, by go_num, rfl, by omega, by omega, hw, Lib.hid (.inl ⟨rfl, HNO2.out⟩)⟩
                            case measure => simp [intOf] <;> omega
                        · have es1 : decide ((L i : Int) ≤ want + 1) = true := by (simp; omega)
                          have HNO2 : Hid (∀ i', i' < i + 1 → fitsB C L S i' = true → S.out i' ≠ want) := Lib.hid (fun i' hi' hf => by
                            by_cases h : i' = i
                            · subst h; have := fits_of hf; omega
                            · exact HNO.out i' (by omega) hf)
                          clear HNO HAT
                          go_wp2_with fail
                          go_roundw
                          case rel => exact ⟨i + 1, d, _, by go_num, rfl, by omega, by omega, hw, Lib.hid (.inl ⟨rfl, HNO2.out⟩)⟩
                          case measure => simp [intOf] <;> omega
                      · have eo1 : (S.out i != want) = true := by simp [ho]
                        have eo2 : (S.out i == want) = false := by simp [ho]
                        have HNO2 : Hid (∀ i', i' < i + 1 → fitsB C L S i' = true → S.out i' ≠ want) := Lib.hid (fun i' hi' hf => by
                          by_cases h : i' = i
                          · subst h; exact ho
                          · exact HNO.out i' (by omega) hf)
                        clear HNO HAT
                        clear ho
                        go_wp2_with fail
                        go_roundw
                        case rel => exact ⟨i + 1, d, _, by go_num, rfl, by omega, by omega, hw, Lib.hid (.inl ⟨rfl, HNO2.out⟩)⟩
                        case measure => simp [intOf] <;> omega
                    · go_wp2_with fail
                      go_roundw
                      case rel => exact ⟨d, want + 1, -1, by go_num, rfl, by omega, by omega, hw, Lib.hid (.inl ⟨rfl, HAT.out.next (fun i' hi' => HNO.out i' (by omega))⟩)⟩
                      case measure => simp [intOf] <;> omega
                  · go_wp2_with fail
                    go_roundw
                    case rel => exact ⟨d, want + 1, -1, by go_num, rfl, by omega, by omega, hw, Lib.hid (.inl ⟨rfl, HAT.out.next (fun i' hi' => HNO.out i' (by omega))⟩)⟩
                    case measure => simp [intOf] <;> omega
                · have e9 : decide ((b : Int) < 0) = false := by (simp <;> omega)
                  have HBest := Lib.hid hbest
                  clear hbest hB
                  by_cases hi1 : i < n
                  · by_cases hi2 : i < 64
                    · go_wp2_with fail
                      go_roundw
                      case rel => exact ⟨d, want + 1, b, by go_num, rfl, by omega, by omega, hw, Lib.hid (.inr ⟨b, rfl, HBest.out, h87⟩)⟩
                      case measure => simp [intOf] <;> omega
                    · go_wp2_with fail
                      go_roundw
                      case rel => exact ⟨d, want + 1, b, by go_num, rfl, by omega, by omega, hw, Lib.hid (.inr ⟨b, rfl, HBest.out, h87⟩)⟩
                      case measure => simp [intOf] <;> omega
                  · go_wp2_with fail
                    go_roundw
                    case rel => exact ⟨d, want + 1, b, by go_num, rfl, by omega, by omega, hw, Lib.hid (.inr ⟨b, rfl, HBest.out, h87⟩)⟩
                    case measure => simp [intOf] <;> omega
            · obtain rfl : want = 8 := by omega
              have hno := hat.none
              obtain ⟨j, hj⟩ := R.out.2.1
              have HNO := Lib.hid hno
              have HJ := Lib.hid hj
              clear hat hB hno hj
              go_wp2_with fail
              go_ret
              exact ⟨q, rfl, S, ⟨⟨j, HJ.out⟩, HNO.out⟩, X.out.hb, X.out.ne, by obtain ⟨cur, g, _⟩ := X.out.hq; exact lt_of_block g, X.out.cell⟩
          · have e9 : decide ((b : Int) < 0) = false := by (simp <;> omega)
            have hbn : b < n := hbest.1
            obtain ⟨f1, f2, f3, f4⟩ := fits_of hbest.2.1
            obtain ⟨hSI, ⟨j, hj⟩, _⟩ := R.out
            have hx0 := hSI.lo b
            have hl0 := hSI.l0
            have hl1 := hSI.l1
            have HST : Hid (stepS C L n S = ⟨fun i => if i = b then S.out i + 1 else S.out i, leftN S.left (cst C L b (S.out b)) (cst C L b (S.out b + 1))⟩) := Lib.hid (stepS_best hbest)
            have HSS := Lib.hid (hSI.step X.out.cs.bd hbest)
            have HRM := Lib.hid (room_step hbest)
            have hcb := cst_bd X.out.cs.bd L b (S.out b)
            have hcb1 := cst_bd X.out.cs.bd L b (S.out b + 1)
            have HJ := Lib.hid hj
            have HK0 : Hid (Calls Try.prog 49 #[.slice (A b) (L b) (K b), .int .i64 (S.out b)] wr.drew fun e w' => e = .returned (.int .u64 (cst C L b (S.out b))) ∧ w' = wr.drew) := Lib.hid (rcostR (X.out.drewN 1).cs b hbn _)
            have HK1 : Hid (Calls Try.prog 49 #[.slice (A b) (L b) (K b), .int .i64 (S.out b + 1)] wr.drew fun e w' => e = .returned (.int .u64 (cst C L b (S.out b + 1))) ∧ w' = wr.drew) := Lib.hid (rcostR (X.out.drewN 1).cs b hbn _)
            obtain ⟨bb, off, rfl, hb, hc⟩ := X.out.cs.at_ (by omega)
            have c4 := hc b hbn
            have c3 := X.out.cell b hbn
            have w1 : IntKind.i64.wrap (S.out b + 1) = S.out b + 1 := IntWalk.i64_in _ (by omega)
            have w2 : wrap64 (S.out b + 1) = S.out b + 1 := by unfold wrap64; omega
            have hf0 : (fun i => if i = b then S.out i + 1 else S.out i) = fun i => if i = b then S.out b + 1 else S.out i := by
              funext i; by_cases h : i = b
              · rw [if_pos h, if_pos h, h]
              · rw [if_neg h, if_neg h]
            have HF0 := Lib.hid hf0
            have R1 : Hid (RW w.heap.size w wr.drew (some ⟨bb, off, none⟩) n A K C L q S.out) := Lib.hid (X.out.drewN 1)
            generalize hz0 : cst C L b (S.out b) = z0 at *
            generalize hz1 : cst C L b (S.out b + 1) = z1 at *
            clear hf0 hc hz0 hz1 hSI hj hbest hB X
            go_wp2_with fail
            refine wp_region_still_lit (by kernel_rfl) (by kernel_rfl) ?_
            iterate 8 still_step
            still_call HK0.out
            iterate 9 still_step
            still_call HK1.out
            iterate 2 still_step
            refine wpStill_nil ?_
            change Exit.then _ _ _ _ wr.drew
            generalize wr.drew = W1 at *
            clear HK0 HK1 c3 c4
            have c3 := R1.out.cell b hbn
            have c5 := R1.out.free b
            have R2 : Hid (RW w.heap.size w (W1.setCell ⟨q, b, none⟩ (.int .i64 (S.out b + 1))) (some ⟨bb, off, none⟩) n A K C L q (stepS C L n S).out) := Lib.hid (by rw [HST.out]; show RW _ _ _ _ _ _ _ _ _ _ (fun i => if i = b then S.out i + 1 else S.out i); rw [HF0.out]; exact R1.out.set b hbn _)
            rcases (show z0 ≤ z1 ∨ z1 < z0 by omega) with hzz | hzz
            · have ez : decide (z0 ≤ z1) = true := by simpa using hzz
              have hd : z1 - z0 ≤ S.left := by unfold satI at f4; split at f4 <;> omega
              obtain ⟨dd, hdd⟩ : ∃ dd, dd = z1 - z0 := ⟨_, rfl⟩
              have s1 : IntKind.u64.wrap (z1 - z0) = dd := by rw [IntKind.wrap_u64]; omega
              have s2 : (z1 - z0) % 18446744073709551616 = dd := by omega
              obtain ⟨x, hx⟩ : ∃ x, x = S.left - dd := ⟨_, rfl⟩
              have s3 : IntKind.u64.wrap (S.left - dd) = x := by rw [IntKind.wrap_u64]; omega
              have s4 : (S.left - dd) % 18446744073709551616 = x := by omega
              have HX : Hid ((stepS C L n S).left = x) := Lib.hid (by rw [HST.out]; show leftN S.left z0 z1 = x; unfold leftN; rw [if_pos hzz]; omega)
              clear hdd hx hd f4 hzz
              go_wp2_with fail
              generalize hW2 : W1.setCell _ _ = W2
              rw [hW2] at R2
              go_roundw
              case rel => exact ⟨stepS C L n S, by rw [HX.out], Lib.hid ⟨HSS.out, ⟨j + 1, by show _ = stepS C L n (iterS C L n (sh0 rate) j); rw [← HJ.out]⟩, R2.out⟩⟩
              case measure => rw [R2.out.room, R.out.2.2.room]; have := HRM.out; omega
            · have ez : decide (z0 ≤ z1) = false := by (simp; omega)
              obtain ⟨dd, hdd⟩ : ∃ dd, dd = z0 - z1 := ⟨_, rfl⟩
              have s1 : IntKind.u64.wrap (z0 - z1) = dd := by rw [IntKind.wrap_u64]; omega
              have s2 : (z0 - z1) % 18446744073709551616 = dd := by omega
              have HX : Hid ((stepS C L n S).left = satI S.left dd) := Lib.hid (by rw [HST.out]; show leftN S.left z0 z1 = _; unfold leftN; rw [if_neg (by omega), hdd])
              have hd0 : 0 ≤ dd := by omega
              have hd1 : dd ≤ 18446744073709551615 := by omega
              have HS : Hid (∀ W', Calls Try.prog 50 #[.int .u64 S.left, .int .u64 dd] W' fun e w' => e = .returned (.int .u64 (satI S.left dd)) ∧ w' = W') := Lib.hid (fun W' => rsatR _ _ _ hl0 hl1 hd0 hd1)
              clear hdd f4 hzz
              go_wp2_with fail
              generalize hW2 : W1.setCell _ _ = W2
              rw [hW2] at R2
              refine (HS.out _).mono ?_
              rintro e w5 ⟨rfl, rfl⟩
              go_wp2_with fail
              go_roundw
              case rel => exact ⟨stepS C L n S, by rw [HX.out], Lib.hid ⟨HSS.out, ⟨j + 1, by show _ = stepS C L n (iterS C L n (sh0 rate) j); rw [← HJ.out]⟩, R2.out⟩⟩
              case measure => rw [R2.out.room, R.out.2.2.room]; have := HRM.out; omega
end Go.Proofs.Ytkemkplmhjmahaa
