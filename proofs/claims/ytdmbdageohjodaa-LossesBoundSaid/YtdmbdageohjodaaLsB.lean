/-
  Chapter 20: slices.IndexFunc, slices.DeleteFunc over pointers to what is missed, with either closure (printed by tools/genls.py).
-/
import Derived.Test.YtdmbdageohjodaaLsA
namespace Go.Proofs.Ytdmbdageohjodaa
open Go.RowKit
set_option linter.unusedVariables false
set_option linter.unusedSimpArgs false
attribute [local irreducible] wpStill wpQuiet MixC.wpMix MixC.wpPick MixC.wpPickT
attribute [local go_sem] MixC.rdOp MixC.rd MixC.rdUpon MixC.mvUpon

set_option maxRecDepth 100000 in
set_option maxHeartbeats 4000000 in
theorem idxCame (p : Nat × Mis → Bool) (M : List (Nat × Mis)) (a : Option Addr) (c : Nat) (q : Nat) (w : World) (h : PR w 124 a M.length c (ptrs M)) (hn : M.length ≤ 100000) (hf : Chooses 66 #[.pointer (some ⟨q, 0, none⟩)] p M (Below w.heap.size w)) :
    Calls Try.prog 101 #[.slice a M.length c, .func (.func 66) #[] #[.pointer (some ⟨q, 0, none⟩)]] w fun e w' => e = .returned (.int .i64 (idxR p M)) ∧ Below w.heap.size w w' := by
  have H := Lib.hid h
  have HF := Lib.hid hf
  have hcm := h.max
  have hcl := h.le
  clear h hf
  obtain ⟨N, hN⟩ : ∃ N, M.length = N := ⟨_, rfl⟩
  have HN := Lib.hid hN
  rw [hN] at H hn hcl ⊢
  clear hN
  obtain ⟨R, hR⟩ : ∃ R, idxR p M = R := ⟨_, rfl⟩
  have HR := Lib.hid hR
  rw [hR]
  clear hR
  go_enter Try.func101, Try.ntmps101
  go_wp2_with fail
  go_loopw [8] (fun s8 wr => ∃ k : Nat, k ≤ N ∧ s8 = .int .i64 k ∧ Hid (Below w.heap.size w wr) ∧ Hid (∀ j (hj : j < M.length), j < k → p (M[j]'hj) = false)) (fun s8 _ => N - (intOf s8).toNat)
  case atStart => exact ⟨0, by omega, rfl, Lib.hid (Below.refl _ _), Lib.hid (fun j hj h => by omega)⟩
  case round =>
    obtain ⟨k, hk, rfl, HB, HP⟩ := hrel
    by_cases hlt : k < N
    · obtain ⟨b, off, rfl, hb, hc⟩ := H.out.cell (by omega)
      have hkM : k < M.length := by rw [HN.out]; exact hlt
      have cz := Below.cell' HB.out hb (hc k _ (ptrs_get hkM))
      have HC := Lib.hid (HF.out wr (M[k]'hkM) (List.getElem_mem hkM) HB.out)
      obtain ⟨x, hx⟩ : ∃ x, M[k]'hkM = x := ⟨_, rfl⟩
      rw [hx] at cz HC
      have HX : Hid (∀ b, p x = b → p (M[k]'hkM) = b) := Lib.hid (fun b h => by rw [hx]; exact h)
      obtain ⟨xb, xm⟩ := x
      simp only [ptr] at cz HC
      have hki : (k : Int) < N := by omega
      clear hc hx
      cases hp : p (xb, xm) with
      | true =>
        rw [hp] at HC
        have HE : Hid (R = k) := Lib.hid (by
          have := fstI_at p M k hkM HP.out (HX.out _ hp)
          rw [← HR.out, idxR, this, if_pos hkM])
        clear hp
        go_wp2_with fail
        refine HC.out.mono ?_
        rintro e V ⟨rfl, bv⟩
        have BV := Lib.hid (HB.out.trans (bv.mono HB.out.size))
        clear bv cz
        go_wp2_with fail
        go_ret
        exact ⟨by rw [HE.out]; rfl, BV.out⟩
      | false =>
        rw [hp] at HC
        have HP2 : Hid (∀ j (hj : j < M.length), j < k + 1 → p (M[j]'hj) = false) := Lib.hid (fun j hj h => by
          rcases Nat.lt_or_ge j k with h1 | h1
          · exact HP.out j hj h1
          · have : j = k := by omega
            subst this; exact HX.out _ hp)
        clear hp
        go_wp2_with fail
        refine HC.out.mono ?_
        rintro e V ⟨rfl, bv⟩
        have BV := Lib.hid (HB.out.trans (bv.mono HB.out.size))
        clear bv cz
        go_wp2_with fail
        go_roundw
        case rel => exact ⟨k + 1, by omega, by go_num, BV, HP2⟩
        case measure => simp [intOf] <;> omega
    · obtain rfl : N = k := by omega
      have HE : Hid (R = -1) := Lib.hid (by
        have := fstI_end p M (fun j hj => HP.out j hj (by rw [← HN.out]; exact hj))
        rw [← HR.out, idxR, if_neg (by omega)])
      clear hlt
      go_wp2_with fail
      go_ret
      exact ⟨by rw [HE.out]; rfl, HB.out⟩
set_option maxRecDepth 100000 in
set_option maxHeartbeats 4000000 in
theorem delCame (p : Nat × Mis → Bool) (M : List (Nat × Mis)) (a : Option Addr) (c : Nat) (q : Nat) (w : World) (h : PR w 124 a M.length c (ptrs M)) (hn : M.length ≤ 100000) (hf : Chooses 66 #[.pointer (some ⟨q, 0, none⟩)] p M (But (blkOf a) w)) :
    Calls Try.prog 62 #[.slice a M.length c, .func (.func 66) #[] #[.pointer (some ⟨q, 0, none⟩)]] w (DelPost p M a c w) := by
  have H := Lib.hid h
  have HF := Lib.hid hf
  have HI := Lib.hid (idxCame p M a c q w h hn (fun z x hx hz => hf z x hx (But.of_below hz)))
  have hcm := h.max
  have hcl := h.le
  clear h hf
  obtain ⟨N, hN⟩ : ∃ N, M.length = N := ⟨_, rfl⟩
  have HN := Lib.hid hN
  rw [hN] at H HI hn hcl ⊢
  clear hN
  by_cases hnone : fstI p M < N
  · have hR : idxR p M = (fstI p M : Int) := by unfold idxR; rw [if_pos (by rw [HN.out]; exact hnone)]
    rw [hR] at HI
    obtain ⟨b, off, rfl, hb, -⟩ := H.out.cell (by omega)
    obtain ⟨cs0, hcs0⟩ := H.out.block b rfl
    have hD : ∀ z, Below w.heap.size w z → DSt p M b off cs0.size (fstI p M + 1) w z := fun z hz => by
      rcases H.out.at_ with ⟨e, _⟩ | ⟨b', off', cs, e, e2, e3, e4⟩
      · cases e
      · cases e
        rw [hcs0] at e2
        cases e2
        refine ⟨⟨cs0, Below.blk hz hcs0 hb, rfl, fun t u ht => ?_, fun t u _ hu => e4 t u hu⟩, But.of_below hz⟩
        rw [left_head (by rw [HN.out]; exact hnone)] at ht
        refine e4 t u ?_
        unfold ptrs at ht ⊢
        rw [List.map_take, List.getElem?_take] at ht
        split at ht
        · exact ht
        · cases ht
    have hoff : off + c ≤ cs0.size := by
      rcases H.out.at_ with ⟨e, _⟩ | ⟨b', off', cs, e, e2, e3, e4⟩
      · cases e
      · cases e
        rw [hcs0] at e2
        cases e2
        exact e3
    have hL0 : (leftL p (M.take (fstI p M + 1))).length = fstI p M := by rw [left_head (by rw [HN.out]; exact hnone), List.length_take, HN.out]; omega
    obtain ⟨i0, hi0⟩ : ∃ i0, fstI p M = i0 := ⟨_, rfl⟩
    rw [hi0] at HI hD hL0 hnone
    have HL0 := Lib.hid hL0
    have HD := Lib.hid hD
    obtain ⟨sz, hsz⟩ : ∃ sz, cs0.size = sz := ⟨_, rfl⟩
    rw [hsz] at HD hoff
    have HOFF := Lib.hid hoff
    have hne1 : ((i0 : Int) == -1) = false := by simp
    clear hR hi0 hL0 hD hcs0 hsz hoff
    go_enter Try.func62, Try.ntmps62
    go_wp2_with fail
    refine HI.out.mono ?_
    rintro e V0 ⟨rfl, b0⟩
    have D0 := Lib.hid (HD.out V0 b0)
    clear b0
    go_wp2_with fail
    go_loopw [5, 6] (fun s5 s6 wr => ∃ i j : Nat, i < j ∧ j ≤ N ∧ s5 = .int .i64 i ∧ s6 = .int .i64 j ∧ Hid ((leftL p (M.take j)).length = i) ∧ Hid (DSt p M b off sz j w wr)) (fun _ s6 _ => N - (intOf s6).toNat)
    case atStart => exact ⟨i0, i0 + 1, by omega, by omega, rfl, by go_num, HL0, D0⟩
    case round =>
      obtain ⟨i, j, hij, hj, rfl, rfl, HL, HS⟩ := hrel
      by_cases hlt : j < N
      · have hjM : j < M.length := by rw [HN.out]; exact hlt
        obtain ⟨cs, e1, e2, e3, e4⟩ := HS.out.at_
        have cz : wr.cell? ⟨b, off + j, none⟩ = some (ptr (M[j]'hjM).1) := by rw [cell_blk e1]; exact e4 j _ (Nat.le_refl _) (ptrs_get hjM)
        have HC := Lib.hid (HF.out wr (M[j]'hjM) (List.getElem_mem hjM) HS.out.but)
        obtain ⟨x, hx⟩ : ∃ x, M[j]'hjM = x := ⟨_, rfl⟩
        rw [hx] at cz HC
        have HX := Lib.hid hx
        obtain ⟨xb, xm⟩ := x
        simp only [ptr] at cz HC
        have hki : (j : Int) < N := by omega
        clear hx e1 e2 e3 e4
        cases hp : p (xb, xm) with
        | true =>
          rw [hp] at HC
          have S2 : Hid (∀ z, Below wr.heap.size wr z → DSt p M b off sz (j + 1) w z) := Lib.hid (fun z hz => (HS.out.keep hz).pass hjM (by rw [HX.out]; exact hp))
          have HL2 : Hid ((leftL p (M.take (j + 1))).length = i) := Lib.hid (by rw [left_succ hjM, if_pos (by rw [HX.out]; exact hp), List.append_nil]; exact HL.out)
          clear hp
          go_wp2_with fail
          refine HC.out.mono ?_
          rintro e V ⟨rfl, bv⟩
          have D1 := Lib.hid (S2.out V bv)
          clear bv cz
          go_wp2_with fail
          go_roundw
          case rel => exact ⟨i, j + 1, by omega, by omega, rfl, by go_num, HL2, D1⟩
          case measure => simp [intOf] <;> omega
        | false =>
          rw [hp] at HC
          have S2 : Hid (∀ z, Below wr.heap.size wr z → DSt p M b off sz (j + 1) w (z.setCell ⟨b, off + i, none⟩ (.pointer (some ⟨xb, 0, none⟩)))) := Lib.hid (fun z hz => by
            have := (HS.out.keep hz).put hjM (by rw [HX.out]; exact hp) (by have := HOFF.out; have := HN.out; omega)
            rw [HL.out, HX.out] at this
            exact this)
          have HL2 : Hid ((leftL p (M.take (j + 1))).length = i + 1) := Lib.hid (by rw [left_succ hjM, if_neg (by rw [HX.out, hp]; decide), List.length_append, HL.out]; rfl)
          clear hp
          go_wp2_with fail
          refine HC.out.mono ?_
          rintro e V ⟨rfl, bv⟩
          have D1 := Lib.hid (S2.out V bv)
          obtain ⟨cs, e1, e2, -, -⟩ := (HS.out.keep bv).at_
          have hin : off + i < cs.size := by have := HOFF.out; omega
          have s1 : V.cell? ⟨b, off + i, none⟩ = some cs[off + i] := by rw [cell_blk e1]; simp [hin]
          have s2 : V.frozen? ⟨b, off + i, none⟩ = false := free_blk e1
          generalize cs[off + i] = oldv at s1
          have hci : (i : Int) < N := by omega
          clear bv cz e1 e2 hin
          go_wp2_with fail
          clear s1 s2
          go_roundw
          case rel => exact ⟨i + 1, j + 1, by omega, by omega, by go_num, by go_num, HL2, D1⟩
          case measure => simp [intOf] <;> omega
      · obtain rfl : N = j := by omega
        clear hlt
        obtain ⟨cs, e1, e2, e3, -⟩ := HS.out.at_
        have hall : M.take N = M := by rw [← HN.out, List.take_length]
        rw [hall] at HL e3
        have hsl : ∀ W, (Instr.slice 118 (.slice (some ⟨b, off, none⟩) N c) (some (.int .i64 i)) none none).run Try.prog W = .ok (.slice (some ⟨b, off + i, none⟩) (N - i) (c - i)) W := fun W => by
          rw [run_from Try.underlying118 sizePtr _ N c i (by omega), if_neg (by omega)]
          simp [addr_add]
        have hsu : ∀ W, (Instr.slice 118 (.slice (some ⟨b, off, none⟩) N c) none (some (.int .i64 i)) none).run Try.prog W = .ok (.slice (some ⟨b, off, none⟩) i c) W := fun W => by
          rw [run_upto Try.underlying118 sizePtr _ N c i (by omega), if_neg (by omega)]
          simp [addr_add]
        have hclr : ∀ ty, (Builtin.clear_ #[118] ty #[.slice (some ⟨b, off + i, none⟩) (N - i) (c - i)]).run Try.prog wr = .ok (.tuple #[]) (wr.setCells b (off + i) (List.replicate (N - i) (.pointer none))) := fun ty =>
          Lib.run_clear_slice (P := Try.prog) wr 118 124 ty (.pointer none) Try.underlying118 zeroPtr rfl rfl b (off + i) (N - i) (c - i) (by omega) (fun t ht => by
            have hin : off + i + t < cs.size := by have := HOFF.out; omega
            rw [cell_blk e1]; simp [hin]) (fun t _ => free_blk e1)
        obtain ⟨cs', e5, e6, e7⟩ := setCells_blk (List.replicate (N - i) (.pointer none)) (off + i) wr cs e1
        have hbut := setCells_but b (List.replicate (N - i) (.pointer none)) (off + i) wr w HS.out.but
        have FIN : Hid (PR (wr.setCells b (off + i) (List.replicate (N - i) (.pointer none))) 124 (some ⟨b, off, none⟩) i c (ptrs (leftL p M)) ∧ But (some b) w (wr.setCells b (off + i) (List.replicate (N - i) (.pointer none)))) := Lib.hid ⟨⟨by rw [ptrs_len, HL.out], by omega, hcm, .inr ⟨b, off, cs', rfl, e5, by rw [e6, e2]; exact HOFF.out, fun t u ht => by
            have : t < i := by have := (List.getElem?_eq_some_iff.1 ht).1; rw [ptrs_len, HL.out] at this; exact this
            rw [e7 _ (by omega)]
            exact e3 t u ht⟩⟩, hbut⟩
        have hii : (i : Int) ≤ c := by omega
        have hiN : (i : Int) ≤ N := by omega
        clear e1 e2 e3 e5 e6 e7 hbut hall
        go_wp2_with fail
        go_ret
        exact ⟨some ⟨b, off, none⟩, i, rfl, HL.out.symm, FIN.out.1, rfl, FIN.out.2⟩
  · have hR : idxR p M = -1 := by unfold idxR; rw [if_neg (by rw [HN.out]; exact hnone)]
    rw [hR] at HI
    have hl : leftL p M = M := left_none (by rw [HN.out]; exact hnone)
    have HLL := Lib.hid hl
    clear hR hl hnone
    go_enter Try.func62, Try.ntmps62
    go_wp2_with fail
    refine HI.out.mono ?_
    rintro e V0 ⟨rfl, b0⟩
    have B0 := Lib.hid b0
    clear b0
    go_wp2_with fail
    go_ret
    exact ⟨a, N, rfl, by rw [HLL.out, HN.out], by rw [HLL.out]; exact H.out.keep B0.out, rfl, But.of_below B0.out⟩
set_option maxRecDepth 100000 in
set_option maxHeartbeats 4000000 in
theorem idxAsk (p : Nat × Mis → Bool) (M : List (Nat × Mis)) (a : Option Addr) (c : Nat) (w : World) (h : PR w 124 a M.length c (ptrs M)) (hn : M.length ≤ 100000) (hf : Chooses 63 #[] p M (Below w.heap.size w)) :
    Calls Try.prog 101 #[.slice a M.length c, .func (.func 63) #[] #[]] w fun e w' => e = .returned (.int .i64 (idxR p M)) ∧ Below w.heap.size w w' := by
  have H := Lib.hid h
  have HF := Lib.hid hf
  have hcm := h.max
  have hcl := h.le
  clear h hf
  obtain ⟨N, hN⟩ : ∃ N, M.length = N := ⟨_, rfl⟩
  have HN := Lib.hid hN
  rw [hN] at H hn hcl ⊢
  clear hN
  obtain ⟨R, hR⟩ : ∃ R, idxR p M = R := ⟨_, rfl⟩
  have HR := Lib.hid hR
  rw [hR]
  clear hR
  go_enter Try.func101, Try.ntmps101
  go_wp2_with fail
  go_loopw [8] (fun s8 wr => ∃ k : Nat, k ≤ N ∧ s8 = .int .i64 k ∧ Hid (Below w.heap.size w wr) ∧ Hid (∀ j (hj : j < M.length), j < k → p (M[j]'hj) = false)) (fun s8 _ => N - (intOf s8).toNat)
  case atStart => exact ⟨0, by omega, rfl, Lib.hid (Below.refl _ _), Lib.hid (fun j hj h => by omega)⟩
  case round =>
    obtain ⟨k, hk, rfl, HB, HP⟩ := hrel
    by_cases hlt : k < N
    · obtain ⟨b, off, rfl, hb, hc⟩ := H.out.cell (by omega)
      have hkM : k < M.length := by rw [HN.out]; exact hlt
      have cz := Below.cell' HB.out hb (hc k _ (ptrs_get hkM))
      have HC := Lib.hid (HF.out wr (M[k]'hkM) (List.getElem_mem hkM) HB.out)
      obtain ⟨x, hx⟩ : ∃ x, M[k]'hkM = x := ⟨_, rfl⟩
      rw [hx] at cz HC
      have HX : Hid (∀ b, p x = b → p (M[k]'hkM) = b) := Lib.hid (fun b h => by rw [hx]; exact h)
      obtain ⟨xb, xm⟩ := x
      simp only [ptr] at cz HC
      have hki : (k : Int) < N := by omega
      clear hc hx
      cases hp : p (xb, xm) with
      | true =>
        rw [hp] at HC
        have HE : Hid (R = k) := Lib.hid (by
          have := fstI_at p M k hkM HP.out (HX.out _ hp)
          rw [← HR.out, idxR, this, if_pos hkM])
        clear hp
        go_wp2_with fail
        refine HC.out.mono ?_
        rintro e V ⟨rfl, bv⟩
        have BV := Lib.hid (HB.out.trans (bv.mono HB.out.size))
        clear bv cz
        go_wp2_with fail
        go_ret
        exact ⟨by rw [HE.out]; rfl, BV.out⟩
      | false =>
        rw [hp] at HC
        have HP2 : Hid (∀ j (hj : j < M.length), j < k + 1 → p (M[j]'hj) = false) := Lib.hid (fun j hj h => by
          rcases Nat.lt_or_ge j k with h1 | h1
          · exact HP.out j hj h1
          · have : j = k := by omega
            subst this; exact HX.out _ hp)
        clear hp
        go_wp2_with fail
        refine HC.out.mono ?_
        rintro e V ⟨rfl, bv⟩
        have BV := Lib.hid (HB.out.trans (bv.mono HB.out.size))
        clear bv cz
        go_wp2_with fail
        go_roundw
        case rel => exact ⟨k + 1, by omega, by go_num, BV, HP2⟩
        case measure => simp [intOf] <;> omega
    · obtain rfl : N = k := by omega
      have HE : Hid (R = -1) := Lib.hid (by
        have := fstI_end p M (fun j hj => HP.out j hj (by rw [← HN.out]; exact hj))
        rw [← HR.out, idxR, if_neg (by omega)])
      clear hlt
      go_wp2_with fail
      go_ret
      exact ⟨by rw [HE.out]; rfl, HB.out⟩
set_option maxRecDepth 100000 in
set_option maxHeartbeats 4000000 in
theorem delAsk (p : Nat × Mis → Bool) (M : List (Nat × Mis)) (a : Option Addr) (c : Nat) (w : World) (h : PR w 124 a M.length c (ptrs M)) (hn : M.length ≤ 100000) (hf : Chooses 63 #[] p M (But (blkOf a) w)) :
    Calls Try.prog 62 #[.slice a M.length c, .func (.func 63) #[] #[]] w (DelPost p M a c w) := by
  have H := Lib.hid h
  have HF := Lib.hid hf
  have HI := Lib.hid (idxAsk p M a c w h hn (fun z x hx hz => hf z x hx (But.of_below hz)))
  have hcm := h.max
  have hcl := h.le
  clear h hf
  obtain ⟨N, hN⟩ : ∃ N, M.length = N := ⟨_, rfl⟩
  have HN := Lib.hid hN
  rw [hN] at H HI hn hcl ⊢
  clear hN
  by_cases hnone : fstI p M < N
  · have hR : idxR p M = (fstI p M : Int) := by unfold idxR; rw [if_pos (by rw [HN.out]; exact hnone)]
    rw [hR] at HI
    obtain ⟨b, off, rfl, hb, -⟩ := H.out.cell (by omega)
    obtain ⟨cs0, hcs0⟩ := H.out.block b rfl
    have hD : ∀ z, Below w.heap.size w z → DSt p M b off cs0.size (fstI p M + 1) w z := fun z hz => by
      rcases H.out.at_ with ⟨e, _⟩ | ⟨b', off', cs, e, e2, e3, e4⟩
      · cases e
      · cases e
        rw [hcs0] at e2
        cases e2
        refine ⟨⟨cs0, Below.blk hz hcs0 hb, rfl, fun t u ht => ?_, fun t u _ hu => e4 t u hu⟩, But.of_below hz⟩
        rw [left_head (by rw [HN.out]; exact hnone)] at ht
        refine e4 t u ?_
        unfold ptrs at ht ⊢
        rw [List.map_take, List.getElem?_take] at ht
        split at ht
        · exact ht
        · cases ht
    have hoff : off + c ≤ cs0.size := by
      rcases H.out.at_ with ⟨e, _⟩ | ⟨b', off', cs, e, e2, e3, e4⟩
      · cases e
      · cases e
        rw [hcs0] at e2
        cases e2
        exact e3
    have hL0 : (leftL p (M.take (fstI p M + 1))).length = fstI p M := by rw [left_head (by rw [HN.out]; exact hnone), List.length_take, HN.out]; omega
    obtain ⟨i0, hi0⟩ : ∃ i0, fstI p M = i0 := ⟨_, rfl⟩
    rw [hi0] at HI hD hL0 hnone
    have HL0 := Lib.hid hL0
    have HD := Lib.hid hD
    obtain ⟨sz, hsz⟩ : ∃ sz, cs0.size = sz := ⟨_, rfl⟩
    rw [hsz] at HD hoff
    have HOFF := Lib.hid hoff
    have hne1 : ((i0 : Int) == -1) = false := by simp
    clear hR hi0 hL0 hD hcs0 hsz hoff
    go_enter Try.func62, Try.ntmps62
    go_wp2_with fail
    refine HI.out.mono ?_
    rintro e V0 ⟨rfl, b0⟩
    have D0 := Lib.hid (HD.out V0 b0)
    clear b0
    go_wp2_with fail
    go_loopw [5, 6] (fun s5 s6 wr => ∃ i j : Nat, i < j ∧ j ≤ N ∧ s5 = .int .i64 i ∧ s6 = .int .i64 j ∧ Hid ((leftL p (M.take j)).length = i) ∧ Hid (DSt p M b off sz j w wr)) (fun _ s6 _ => N - (intOf s6).toNat)
    case atStart => exact ⟨i0, i0 + 1, by omega, by omega, rfl, by go_num, HL0, D0⟩
    case round =>
      obtain ⟨i, j, hij, hj, rfl, rfl, HL, HS⟩ := hrel
      by_cases hlt : j < N
      · have hjM : j < M.length := by rw [HN.out]; exact hlt
        obtain ⟨cs, e1, e2, e3, e4⟩ := HS.out.at_
        have cz : wr.cell? ⟨b, off + j, none⟩ = some (ptr (M[j]'hjM).1) := by rw [cell_blk e1]; exact e4 j _ (Nat.le_refl _) (ptrs_get hjM)
        have HC := Lib.hid (HF.out wr (M[j]'hjM) (List.getElem_mem hjM) HS.out.but)
        obtain ⟨x, hx⟩ : ∃ x, M[j]'hjM = x := ⟨_, rfl⟩
        rw [hx] at cz HC
        have HX := Lib.hid hx
        obtain ⟨xb, xm⟩ := x
        simp only [ptr] at cz HC
        have hki : (j : Int) < N := by omega
        clear hx e1 e2 e3 e4
        cases hp : p (xb, xm) with
        | true =>
          rw [hp] at HC
          have S2 : Hid (∀ z, Below wr.heap.size wr z → DSt p M b off sz (j + 1) w z) := Lib.hid (fun z hz => (HS.out.keep hz).pass hjM (by rw [HX.out]; exact hp))
          have HL2 : Hid ((leftL p (M.take (j + 1))).length = i) := Lib.hid (by rw [left_succ hjM, if_pos (by rw [HX.out]; exact hp), List.append_nil]; exact HL.out)
          clear hp
          go_wp2_with fail
          refine HC.out.mono ?_
          rintro e V ⟨rfl, bv⟩
          have D1 := Lib.hid (S2.out V bv)
          clear bv cz
          go_wp2_with fail
          go_roundw
          case rel => exact ⟨i, j + 1, by omega, by omega, rfl, by go_num, HL2, D1⟩
          case measure => simp [intOf] <;> omega
        | false =>
          rw [hp] at HC
          have S2 : Hid (∀ z, Below wr.heap.size wr z → DSt p M b off sz (j + 1) w (z.setCell ⟨b, off + i, none⟩ (.pointer (some ⟨xb, 0, none⟩)))) := Lib.hid (fun z hz => by
            have := (HS.out.keep hz).put hjM (by rw [HX.out]; exact hp) (by have := HOFF.out; have := HN.out; omega)
            rw [HL.out, HX.out] at this
            exact this)
          have HL2 : Hid ((leftL p (M.take (j + 1))).length = i + 1) := Lib.hid (by rw [left_succ hjM, if_neg (by rw [HX.out, hp]; decide), List.length_append, HL.out]; rfl)
          clear hp
          go_wp2_with fail
          refine HC.out.mono ?_
          rintro e V ⟨rfl, bv⟩
          have D1 := Lib.hid (S2.out V bv)
          obtain ⟨cs, e1, e2, -, -⟩ := (HS.out.keep bv).at_
          have hin : off + i < cs.size := by have := HOFF.out; omega
          have s1 : V.cell? ⟨b, off + i, none⟩ = some cs[off + i] := by rw [cell_blk e1]; simp [hin]
          have s2 : V.frozen? ⟨b, off + i, none⟩ = false := free_blk e1
          generalize cs[off + i] = oldv at s1
          have hci : (i : Int) < N := by omega
          clear bv cz e1 e2 hin
          go_wp2_with fail
          clear s1 s2
          go_roundw
          case rel => exact ⟨i + 1, j + 1, by omega, by omega, by go_num, by go_num, HL2, D1⟩
          case measure => simp [intOf] <;> omega
      · obtain rfl : N = j := by omega
        clear hlt
        obtain ⟨cs, e1, e2, e3, -⟩ := HS.out.at_
        have hall : M.take N = M := by rw [← HN.out, List.take_length]
        rw [hall] at HL e3
        have hsl : ∀ W, (Instr.slice 118 (.slice (some ⟨b, off, none⟩) N c) (some (.int .i64 i)) none none).run Try.prog W = .ok (.slice (some ⟨b, off + i, none⟩) (N - i) (c - i)) W := fun W => by
          rw [run_from Try.underlying118 sizePtr _ N c i (by omega), if_neg (by omega)]
          simp [addr_add]
        have hsu : ∀ W, (Instr.slice 118 (.slice (some ⟨b, off, none⟩) N c) none (some (.int .i64 i)) none).run Try.prog W = .ok (.slice (some ⟨b, off, none⟩) i c) W := fun W => by
          rw [run_upto Try.underlying118 sizePtr _ N c i (by omega), if_neg (by omega)]
          simp [addr_add]
        have hclr : ∀ ty, (Builtin.clear_ #[118] ty #[.slice (some ⟨b, off + i, none⟩) (N - i) (c - i)]).run Try.prog wr = .ok (.tuple #[]) (wr.setCells b (off + i) (List.replicate (N - i) (.pointer none))) := fun ty =>
          Lib.run_clear_slice (P := Try.prog) wr 118 124 ty (.pointer none) Try.underlying118 zeroPtr rfl rfl b (off + i) (N - i) (c - i) (by omega) (fun t ht => by
            have hin : off + i + t < cs.size := by have := HOFF.out; omega
            rw [cell_blk e1]; simp [hin]) (fun t _ => free_blk e1)
        obtain ⟨cs', e5, e6, e7⟩ := setCells_blk (List.replicate (N - i) (.pointer none)) (off + i) wr cs e1
        have hbut := setCells_but b (List.replicate (N - i) (.pointer none)) (off + i) wr w HS.out.but
        have FIN : Hid (PR (wr.setCells b (off + i) (List.replicate (N - i) (.pointer none))) 124 (some ⟨b, off, none⟩) i c (ptrs (leftL p M)) ∧ But (some b) w (wr.setCells b (off + i) (List.replicate (N - i) (.pointer none)))) := Lib.hid ⟨⟨by rw [ptrs_len, HL.out], by omega, hcm, .inr ⟨b, off, cs', rfl, e5, by rw [e6, e2]; exact HOFF.out, fun t u ht => by
            have : t < i := by have := (List.getElem?_eq_some_iff.1 ht).1; rw [ptrs_len, HL.out] at this; exact this
            rw [e7 _ (by omega)]
            exact e3 t u ht⟩⟩, hbut⟩
        have hii : (i : Int) ≤ c := by omega
        have hiN : (i : Int) ≤ N := by omega
        clear e1 e2 e3 e5 e6 e7 hbut hall
        go_wp2_with fail
        go_ret
        exact ⟨some ⟨b, off, none⟩, i, rfl, HL.out.symm, FIN.out.1, rfl, FIN.out.2⟩
  · have hR : idxR p M = -1 := by unfold idxR; rw [if_neg (by rw [HN.out]; exact hnone)]
    rw [hR] at HI
    have hl : leftL p M = M := left_none (by rw [HN.out]; exact hnone)
    have HLL := Lib.hid hl
    clear hR hl hnone
    go_enter Try.func62, Try.ntmps62
    go_wp2_with fail
    refine HI.out.mono ?_
    rintro e V0 ⟨rfl, b0⟩
    have B0 := Lib.hid b0
    clear b0
    go_wp2_with fail
    go_ret
    exact ⟨a, N, rfl, by rw [HLL.out, HN.out], by rw [HLL.out]; exact H.out.keep B0.out, rfl, But.of_below B0.out⟩
end Go.Proofs.Ytdmbdageohjodaa
