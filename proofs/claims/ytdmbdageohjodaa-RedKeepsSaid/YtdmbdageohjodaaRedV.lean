/-
  Chapter 36: what the reference writes.
-/
import Derived.Test.YtdmbdageohjodaaRedW
namespace Go.Proofs.Ytdmbdageohjodaa
open Go.RowKit
set_option linter.unusedVariables false
set_option linter.unusedSimpArgs false
attribute [local irreducible] wpStill wpQuiet

def RPost (Q : Nat → Blk) (len : Nat) (w : World) (e : Ending) (w' : World) : Prop :=
  ((wok Q len ∧ ∃ a N c, e = .returned (.tuple #[.slice a N c, .bool true]) ∧ N = (wrL Q len).length ∧ w'.ownsRow w.heap.size 5 1 (.slice a N c) N (u8s (wrL Q len))) ∨ (¬ wok Q len ∧ ∃ v, e = .returned (.tuple #[v, .bool false]))) ∧ Below w.heap.size w w'
/-- all heads and the first data -/
def mxL (Q : Nat → Blk) (k j : Nat) : List Int := HXs Q k k ++ DLs Q j
structure VSt (Q : Nat → Blk) (len : Nat) (w : World) (k : Nat) (L : List Int) (v : Value) (wr : World) : Prop where
  bl : Below w.heap.size w wr
  ok : okTo Q len k
  o : wr.ownsRow w.heap.size 5 1 v L.length (u8s L)
theorem hd_ref (v : Int) (h0 : 0 ≤ v) (h1 : v < 16777216) : putL v 3 = [v / 65536, v / 256 % 256, v % 256] := by
  have e : putL v 3 = [v / 65536 % 256, v / 256 % 256, v / 1 % 256] := rfl
  rw [e]
  have : v / 65536 % 256 = v / 65536 := by omega
  rw [this, Int.ediv_one]
set_option maxRecDepth 100000 in
set_option maxHeartbeats 4000000 in
theorem refwrite_any (B : Nat) (ad : Option Addr) (len cap : Nat) (Q : Nat → Blk) (w : World) (hQ : Blks B w ad len cap Q) (hB : B ≤ w.heap.size) (hn : ∀ i, i < len → (Q i).n ≤ 2000) :
    Calls Try.prog 58 #[.slice ad len cap] w (RPost Q len w) := by
  obtain ⟨i0, hi, hz0, hz1, hz2⟩ := info_parts infoU8
  by_cases hlen : 1 ≤ len ∧ len ≤ 9
  · obtain ⟨hl1, hl9⟩ := hlen
    have hle := hQ.le
    have hmx := hQ.max
    have HQ := Lib.hid hQ
    obtain ⟨b, off, hp, hcell⟩ := hQ.mem
    obtain ⟨rfl, hbB⟩ := hp (by omega)
    have HC := Lib.hid hcell
    have HN := Lib.hid hn
    clear hQ hcell hp hn
    have hl1' : decide ((len : Int) < 1) = false := by simp; omega
    have hl9' : decide (9 < (len : Int)) = false := by simp; omega
    go_enter Try.func58, Try.ntmps58
    go_wp2_with fail
    go_loopw [5, 6] (fun s5 si wr => ∃ k : Nat, k ≤ len ∧ si = .int .i64 k ∧ Hid (VSt Q len w k (HXs Q len k) s5 wr)) (fun _ si _ => len - (intOf si).toNat)
    case atStart => exact ⟨0, by omega, rfl, Lib.hid ⟨Below.refl _ _, fun i hi => by omega, by simp only [HXs, if_neg (by omega : ¬ 0 = len)]; exact World.ownsRow_nil _ _ _ _⟩⟩
    case round =>
      obtain ⟨k, hk, rfl, HS⟩ := hrel
      obtain ⟨v5a, v5c, h5⟩ := own_len HS.out.o
      subst h5
      by_cases hlt : k < len
      · have bw := HS.out.bl
        have hcl : ∀ j, j < 3 → wr.cell? ⟨b, off + k * 3 + j, none⟩ = some ((Q k).cell j) := fun j hj => Below.cell' (bw.mono hB) hbB (HC.out k hlt j hj)
        have c0 := hcl 0 (by omega)
        have c1 := hcl 1 (by omega)
        have c2 := hcl 2 (by omega)
        have OK := Lib.hid ((HQ.out.ok k hlt).keep (bw.mono hB))
        have n0 := HN.out k hlt
        have BW := Lib.hid bw
        clear bw hcl
        obtain ⟨q, hq⟩ : ∃ q, Q k = q := ⟨_, rfl⟩
        have HQK := Lib.hid hq
        rw [hq] at c0 c1 c2 OK n0
        clear hq
        obtain ⟨t, h, a, n, c, Z⟩ := q
        simp only [Blk.cell, Nat.add_zero] at c0 c1 c2 n0
        have t0 := OK.out.t0
        have t1 := OK.out.t1
        simp only at t0 t1
        have hX : HXs Q len k = HLs Q k := by unfold HXs; rw [if_neg (by omega)]
        have hL : (HLs Q k).length ≤ 40 := by rw [HLs_len]; omega
        have HSO := HS.out.o
        rw [hX] at HSO
        have HO := Lib.hid HSO
        have HXK := Lib.hid hX
        clear HSO hX
        rw [HXK.out]
        have hnok : mayB t h n (decide (k + 1 = len)) = false → ¬ wok Q len := fun hm hw => by
          have := hw.2.2.1 k hlt
          rw [HQK.out] at this
          simp only [hm] at this
          cases this
        have HNO := Lib.hid hnok
        clear hnok
        have BX : ∀ o, Hid (Below w.heap.size w (wr.alloc o)) := fun o => Lib.hid (BW.out.alloc BW.out.size o)
        by_cases ht : t < 128
        · have ht' : decide (127 < t) = false := by simp; omega
          by_cases hlast : k + 1 = len
          · have hl' : decide ((k : Int) = (len : Int) - 1) = true := by simp; omega
            have hl'' : ((k : Int) == (len : Int) - 1) = true := by simp; omega
            by_cases hh : h = 0
            · have HH := Lib.hid hh
              have h0' : decide (h = 0) = true := by simpa using hh
              have h0'' : (h == 0) = true := by simpa using hh
              clear hh
              obtain ⟨WA, hWA⟩ : ∃ WA, (wr.alloc (.cells #[.int .u8 t, .int .i64 h, .slice a n c] 110)).alloc (.cells #[.int .u8 t] 5) = WA := ⟨_, rfl⟩
              have BWA : Hid (Below wr.heap.size wr WA) := Lib.hid (by rw [← hWA]; exact ((Below.refl _ _).alloc (Nat.le_refl _) _).alloc (by simp) _)
              obtain ⟨x5, y5, W5, r5, own5, but5, nb5⟩ := run_app (P := Try.prog) (w := WA) (t := 56) Try.underlying56 hi hz0 hz1 hz2 rfl (by decide) (own_below HO.out BWA.out) (some ⟨wr.heap.size + 1, 0, none⟩) 1 1 [.int .u8 t] (fun e => by cases e) rfl (fun ad e j u hj => by cases e; rw [← hWA]; exact cell_one_at (by simp) j u hj) (one_cell rfl) (by unfold maxLen; omega) (by omega) (Nat.le_trans BW.out.size BWA.out.size)
              have R5 := Lib.hid r5
              have OO5 := Lib.hid own5
              have BW5 : Hid (Below w.heap.size w W5) := Lib.hid ((BW.out.trans (BWA.out.mono BW.out.size)).trans (but5.below (Nat.le_trans BW.out.size BWA.out.size) (fun g hg => (HO.out.lt g hg).1)))
              have HX1 : Hid ((HXs Q len (k + 1)).length = (HLs Q k).length + 1 ∧ u8s (HXs Q len (k + 1)) = u8s (HLs Q k) ++ [.int .u8 t]) := Lib.hid (by
                have e : HXs Q len (k + 1) = HLs Q k ++ [t] := by unfold HXs; rw [if_pos hlast, Nat.add_sub_cancel, HQK.out]
                rw [e]
                exact ⟨by simp, by rw [u8s_app]; rfl⟩)
              have OKN : Hid (okTo Q len (k + 1)) := Lib.hid (fun i hi => by
                rcases Nat.lt_or_ge i k with h1 | h1
                · exact HS.out.ok i h1
                · have : i = k := by omega
                  subst this
                  rw [HQK.out, decide_eq_true hlast]
                  exact (mayB_last _ _ _).2 ⟨ht, HH.out⟩)
              clear r5 own5 but5 nb5 BWA
              go_wp2_with (at_builtin; refine wpList_of_append rfl (.tmp 37) (.tmp 40) 56 rfl _ _ _ rfl rfl R5.out ?_)
              go_roundw
              case rel => exact ⟨k + 1, by omega, by go_num, Lib.hid ⟨BW5.out, OKN.out, by rw [HX1.out.1, HX1.out.2]; exact OO5.out⟩⟩
              case measure => simp [intOf] <;> omega
            · have h0' : decide (h = 0) = false := by simpa using hh
              have h0'' : (h == 0) = false := by simpa using hh
              have hno := HNO.out (by rw [decide_eq_true hlast]; exact mayB_eq _ _ _ _ _ (by rw [mayB_last]; simp [hh]))
              clear hh
              go_wp2_with fail
              go_ret2
              exact ⟨.inr ⟨hno, _, rfl⟩, (BX _).out⟩
          · have hl' : decide ((k : Int) = (len : Int) - 1) = false := by simp; omega
            have hl'' : ((k : Int) == (len : Int) - 1) = false := by simp; omega
            have hbad : ¬ (0 ≤ h ∧ h ≤ 16383 ∧ n ≤ 1023) → ¬ wok Q len := fun hb => HNO.out (by rw [decide_eq_false hlast]; exact mayB_eq _ _ _ _ _ (by rw [mayB_mid]; simp; omega))
            have HBAD := Lib.hid hbad
            clear hbad
            by_cases h1 : 0 ≤ h
            · have hh0 := h1
              have h1' : decide (h < 0) = false := by simp; omega
              by_cases h2 : h ≤ 16383
              · have h2' : decide (16383 < h) = false := by simp; omega
                by_cases h3 : n ≤ 1023
                · have h3' : decide (1023 < (n : Int)) = false := by simp; omega
                  obtain ⟨WA, hWA⟩ : ∃ WA, (wr.alloc (.cells #[.int .u8 t, .int .i64 h, .slice a n c] 110)).alloc (.cells #[.int .u8 (128 + t), .int .u8 ((h * 1024 + n) / 65536), .int .u8 ((h * 1024 + n) / 256 % 256), .int .u8 ((h * 1024 + n) % 256)] 5) = WA := ⟨_, rfl⟩
                  have BWA : Hid (Below wr.heap.size wr WA) := Lib.hid (by rw [← hWA]; exact ((Below.refl _ _).alloc (Nat.le_refl _) _).alloc (by simp) _)
                  have hnew : WA.heap[wr.heap.size + 1]? = some (.cells #[.int .u8 (128 + t), .int .u8 ((h * 1024 + n) / 65536), .int .u8 ((h * 1024 + n) / 256 % 256), .int .u8 ((h * 1024 + n) % 256)] 5 (0, 0)) := by
                    have := alloc_blk_new (w := wr.alloc (.cells #[.int .u8 t, .int .i64 h, .slice a n c] 110)) (o := .cells #[.int .u8 (128 + t), .int .u8 ((h * 1024 + n) / 65536), .int .u8 ((h * 1024 + n) / 256 % 256), .int .u8 ((h * 1024 + n) % 256)] 5)
                    rw [hWA] at this
                    simpa using this
                  obtain ⟨x5, y5, W5, r5, own5, but5, nb5⟩ := run_app (P := Try.prog) (w := WA) (t := 56) Try.underlying56 hi hz0 hz1 hz2 rfl (by decide) (own_below HO.out BWA.out) (some ⟨wr.heap.size + 1, 0, none⟩) 4 4 (u8s [128 + t, (h * 1024 + n) / 65536, (h * 1024 + n) / 256 % 256, (h * 1024 + n) % 256]) (fun e => by cases e) rfl (fun ad e j u hj => by
                    cases e
                    rw [addr_add, Nat.zero_add, cell_blk hnew, ← hj]
                    simp [u8s]) (u8s_one _) (by unfold maxLen; omega) (by omega) (Nat.le_trans BW.out.size BWA.out.size)
                  have R5 := Lib.hid r5
                  have OO5 := Lib.hid own5
                  have BW5 : Hid (Below w.heap.size w W5) := Lib.hid ((BW.out.trans (BWA.out.mono BW.out.size)).trans (but5.below (Nat.le_trans BW.out.size BWA.out.size) (fun g hg => (HO.out.lt g hg).1)))
                  have HX1 : Hid ((HXs Q len (k + 1)).length = (HLs Q k).length + 4 ∧ u8s (HXs Q len (k + 1)) = u8s (HLs Q k) ++ (u8s [128 + t, (h * 1024 + n) / 65536, (h * 1024 + n) / 256 % 256, (h * 1024 + n) % 256])) := Lib.hid (by
                    have e : HXs Q len (k + 1) = HLs Q k ++ [128 + t, (h * 1024 + n) / 65536, (h * 1024 + n) / 256 % 256, (h * 1024 + n) % 256] := by
                      unfold HXs; rw [if_neg hlast, HLs_succ, HQK.out, show hdL ⟨t, h, a, n, c, Z⟩ = [128 + t] ++ putL (h * 1024 + n) 3 from rfl, hd_ref _ (by omega) (by omega)]; rfl
                    rw [e]
                    exact ⟨by simp, by rw [u8s_app]⟩)
                  have OKN : Hid (okTo Q len (k + 1)) := Lib.hid (fun i hi => by
                    rcases Nat.lt_or_ge i k with h1 | h1
                    · exact HS.out.ok i h1
                    · have : i = k := by omega
                      subst this
                      rw [HQK.out, decide_eq_false hlast]
                      exact (mayB_mid _ _ _).2 ⟨ht, hh0, h2, h3⟩)
                  clear r5 own5 but5 nb5 BWA hnew
                  go_wp2_with (at_builtin; refine wpList_of_append rfl (.tmp 63) (.tmp 77) 56 rfl _ _ _ rfl rfl R5.out ?_)
                  go_roundw
                  case rel => exact ⟨k + 1, by omega, by go_num, Lib.hid ⟨BW5.out, OKN.out, by rw [HX1.out.1, HX1.out.2]; exact OO5.out⟩⟩
                  case measure => simp [intOf] <;> omega
                · have h3' : decide (1023 < (n : Int)) = true := by simp; omega
                  have hno := HBAD.out (by omega)
                  go_wp2_with fail
                  go_ret2
                  exact ⟨.inr ⟨hno, _, rfl⟩, (BX _).out⟩
              · have h2' : decide (16383 < h) = true := by simp; omega
                have hno := HBAD.out (by omega)
                go_wp2_with fail
                go_ret2
                exact ⟨.inr ⟨hno, _, rfl⟩, (BX _).out⟩
            · have h1' : decide (h < 0) = true := by simp; omega
              have hno := HBAD.out (by omega)
              go_wp2_with fail
              go_ret2
              exact ⟨.inr ⟨hno, _, rfl⟩, (BX _).out⟩
        · have ht' : decide (127 < t) = true := by simp; omega
          have hno : ¬ wok Q len := HNO.out (by
            cases hd : decide (k + 1 = len)
            · exact mayB_eq _ _ _ _ _ (by rw [mayB_mid]; simp; omega)
            · exact mayB_eq _ _ _ _ _ (by rw [mayB_last]; simp; omega))
          go_wp2_with fail
          go_ret2
          exact ⟨.inr ⟨hno, _, rfl⟩, (BX _).out⟩
      · have : k = len := by omega
        subst this
        have hl4 : (HXs Q k k).length ≤ 4 * k + 1 := HXs_le Q k k (Nat.le_refl _)
        have HOK := Lib.hid HS.out.ok
        have HB1 := Lib.hid HS.out.bl
        have HO1 := Lib.hid HS.out.o
        clear hlt
        go_wp2_with fail
        go_loopw [5, 9] (fun s5 si wr => ∃ j : Nat, j ≤ k ∧ si = .int .i64 j ∧ Hid (VSt Q k w k (mxL Q k j) s5 wr)) (fun _ si _ => k - (intOf si).toNat)
        case atStart => exact ⟨0, by omega, rfl, Lib.hid ⟨HB1.out, HOK.out, by rw [show mxL Q k 0 = HXs Q k k by simp [mxL, DLs]]; exact HO1.out⟩⟩
        case round =>
          clear HO1 HB1 HS
          obtain ⟨j, hj, rfl, HS⟩ := hrel
          obtain ⟨v5a, v5c, h5⟩ := own_len HS.out.o
          subst h5
          have hD : (DLs Q j).length ≤ j * 2000 := DLs_le Q j (fun i hi => HN.out i (by omega))
          have hsum : (mxL Q k j).length ≤ 20000 := by unfold mxL; rw [List.length_append]; omega
          by_cases hlt : j < k
          · have bw := HS.out.bl
            have c2 : wr.cell? ⟨b, off + j * 3 + 2, none⟩ = some ((Q j).cell 2) := Below.cell' (bw.mono hB) hbB (HC.out j hlt 2 (by omega))
            have OK := Lib.hid ((HQ.out.ok j hlt).keep (bw.mono hB))
            have n0 := HN.out j hlt
            have BW := Lib.hid bw
            clear bw
            obtain ⟨q, hq⟩ : ∃ q, Q j = q := ⟨_, rfl⟩
            have HQK := Lib.hid hq
            rw [hq] at c2 OK n0
            clear hq
            obtain ⟨t, h, a, n, c, Z⟩ := q
            simp only [Blk.cell] at c2 n0
            have HD1 : Hid ((mxL Q k (j + 1)).length = (mxL Q k j).length + n ∧ u8s (mxL Q k (j + 1)) = u8s (mxL Q k j) ++ u8s (zs Z n)) := Lib.hid (by
              have e : mxL Q k (j + 1) = mxL Q k j ++ zs Z n := by unfold mxL; rw [DLs_succ, HQK.out, List.append_assoc]
              rw [e, List.length_append, zs_len, u8s_app]
              exact ⟨rfl, rfl⟩)
            obtain ⟨x5, y5, W5, r5, own5, but5, nb5⟩ := run_app (P := Try.prog) (w := wr) (t := 56) Try.underlying56 hi hz0 hz1 hz2 rfl (by decide) HS.out.o a n c (u8s (zs Z n)) OK.out.z.nils (by rw [u8s_len, zs_len, Nat.mul_one]) OK.out.z.news' (u8s_one _) (by unfold maxLen; omega) (by omega) BW.out.size
            have R5 := Lib.hid r5
            have OO5 := Lib.hid own5
            have BW5 : Hid (Below w.heap.size w W5) := Lib.hid (BW.out.trans (but5.below BW.out.size (fun g hg => (HS.out.o.lt g hg).1)))
            clear r5 own5 but5 nb5
            go_wp2_with (at_builtin; refine wpList_of_append rfl (.tmp 84) (.tmp 89) 56 rfl _ _ _ rfl rfl R5.out ?_)
            go_roundw
            case rel => exact ⟨j + 1, by omega, by go_num, Lib.hid ⟨BW5.out, HOK.out, by rw [HD1.out.1, HD1.out.2]; exact OO5.out⟩⟩
            case measure => simp [intOf] <;> omega
          · have : j = k := by omega
            subst this
            clear hlt
            by_cases h12 : (mxL Q j j).length ≤ 1200
            · have h12' : decide (((mxL Q j j).length : Int) ≤ 1200) = true := by simp only [decide_eq_true_eq]; omega
              have HW := Lib.hid h12
              clear h12 hsum
              go_wp2_with fail
              go_ret2
              exact ⟨.inl ⟨⟨hl1, hl9, HOK.out, HW.out⟩, _, _, _, rfl, rfl, HS.out.o⟩, HS.out.bl⟩
            · have h12' : decide (((mxL Q j j).length : Int) ≤ 1200) = false := by simp only [decide_eq_false_iff_not]; omega
              have hno : ¬ wok Q j := fun h => h12 h.2.2.2
              clear h12 hsum
              go_wp2_with fail
              go_ret2
              exact ⟨.inr ⟨hno, _, rfl⟩, HS.out.bl⟩
  · have hno : ¬ wok Q len := fun h => hlen ⟨h.1, h.2.1⟩
    rcases (by omega : len < 1 ∨ (1 ≤ len ∧ 9 < len)) with h1 | ⟨h1, h2⟩
    · have h1' : decide ((len : Int) < 1) = true := by simp; omega
      clear hlen
      go_enter Try.func58, Try.ntmps58
      go_wp2_with fail
      go_ret2
      exact ⟨.inr ⟨hno, _, rfl⟩, Below.refl _ _⟩
    · have h1' : decide ((len : Int) < 1) = false := by simp; omega
      have h2' : decide (9 < (len : Int)) = true := by simp; omega
      clear hlen
      go_enter Try.func58, Try.ntmps58
      go_wp2_with fail
      go_ret2
      exact ⟨.inr ⟨hno, _, rfl⟩, Below.refl _ _⟩
end Go.Proofs.Ytdmbdageohjodaa
