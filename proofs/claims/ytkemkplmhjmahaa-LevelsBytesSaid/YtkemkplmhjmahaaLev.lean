/-
  The floor of chapter 33: its object, and what each of its functions does.
-/
import Derived.Test.YtkemkplmhjmahaaProg
import Derived.Test.YtkemkplmhjmahaaBase
import Derived.Test.YtkemkplmhjmahaaReads
import Derived.Deep.RegionHeld3
import Derived.BigQuiet
import Derived.IntWalk
namespace Go.Proofs.Ytkemkplmhjmahaa
open Go.RowKit
set_option linter.unusedVariables false
set_option linter.unusedSimpArgs false

/-- block g is a floor of n seats, block q its scores -/
structure flr (w : World) (g q n : Nat) (S : Nat → Int) (L sp : Int) : Prop where
  f : w.heap[g]? = some (.cells #[.slice (some ⟨q, 0, none⟩) n n, .int .i64 L, .int .i64 sp] 90 (0, 0))
  s : ∃ cs : Array Value, w.heap[q]? = some (.cells cs 3 (0, 0)) ∧ cs.size = n ∧ ∀ i, i < n → cs[i]? = some (.int .i64 (S i))
  ne : g ≠ q
theorem flr.lt {w : World} {g q n : Nat} {S : Nat → Int} {L sp : Int} (h : flr w g q n S L sp) : g < w.heap.size ∧ q < w.heap.size := by
  obtain ⟨cs, h1, _⟩ := h.s; exact ⟨lt_of_block h.f, lt_of_block h1⟩
theorem flr.c0 {w : World} {g q n : Nat} {S : Nat → Int} {L sp : Int} (h : flr w g q n S L sp) : w.cell? ⟨g, 0, none⟩ = some (.slice (some ⟨q, 0, none⟩) n n) := cell_blk h.f
theorem flr.c1 {w : World} {g q n : Nat} {S : Nat → Int} {L sp : Int} (h : flr w g q n S L sp) : w.cell? ⟨g, 1, none⟩ = some (.int .i64 L) := cell_blk h.f
theorem flr.c2 {w : World} {g q n : Nat} {S : Nat → Int} {L sp : Int} (h : flr w g q n S L sp) : w.cell? ⟨g, 2, none⟩ = some (.int .i64 sp) := cell_blk h.f
theorem flr.fr {w : World} {g q n : Nat} {S : Nat → Int} {L sp : Int} (h : flr w g q n S L sp) (i : Nat) : w.frozen? ⟨g, i, none⟩ = false := free_blk h.f
theorem flr.at {w : World} {g q n : Nat} {S : Nat → Int} {L sp : Int} (h : flr w g q n S L sp) {i : Nat} (hi : i < n) : w.cell? ⟨q, i, none⟩ = some (.int .i64 (S i)) := by
  obtain ⟨cs, h1, _, h2⟩ := h.s; rw [cell_blk h1]; exact h2 i hi
theorem flr.fq {w : World} {g q n : Nat} {S : Nat → Int} {L sp : Int} (h : flr w g q n S L sp) (i : Nat) : w.frozen? ⟨q, i, none⟩ = false := by
  obtain ⟨cs, h1, _, h2⟩ := h.s; exact free_blk h1
theorem flr.old {w w' : World} {g q n : Nat} {S : Nat → Int} {L sp : Int} (h : flr w g q n S L sp) (hb : Below w.heap.size w w') : flr w' g q n S L sp := by
  obtain ⟨cs, h1, h2⟩ := h.s
  exact ⟨Below.blk hb h.f h.lt.1, ⟨cs, Below.blk hb h1 h.lt.2, h2⟩, h.ne⟩
theorem flr.drewN {w : World} {g q n : Nat} {S : Nat → Int} {L sp : Int} (h : flr w g q n S L sp) (k : Nat) : flr (w.drewN k) g q n S L sp := ⟨h.f, h.s, h.ne⟩
/-- who speaks is turned -/
theorem flr.setSp {w : World} {g q n : Nat} {S : Nat → Int} {L sp : Int} (h : flr w g q n S L sp) (x : Int) : flr (w.setCell ⟨g, 2, none⟩ (.int .i64 x)) g q n S L x := by
  obtain ⟨cs, h1, h2⟩ := h.s
  exact ⟨by rw [set_blk _ h.f]; simp, ⟨cs, by rw [set_blk_other _ (by simpa using h.ne.symm)]; exact h1, h2⟩, h.ne⟩
/-- a score is turned -/
def upd (S : Nat → Int) (k : Nat) (x : Int) (i : Nat) : Int := if i = k then x else S i
theorem flr.setS {w : World} {g q n : Nat} {S : Nat → Int} {L sp : Int} (h : flr w g q n S L sp) (k : Nat) (x : Int) : flr (w.setCell ⟨q, k, none⟩ (.int .i64 x)) g q n (upd S k x) L sp := by
  obtain ⟨cs, h1, h2, h3⟩ := h.s
  refine ⟨by rw [set_blk_other _ (by simpa using h.ne)]; exact h.f, ⟨_, set_blk _ h1, by simpa using h2, fun i hi => ?_⟩, h.ne⟩
  unfold upd
  by_cases hik : i = k
  · subst hik; simp [h2, hi]
  · rw [if_neg hik, Array.getElem?_setIfInBounds_ne (Ne.symm hik)]; exact h3 i hi

theorem lthere_any (g q n : Nat) (S : Nat → Int) (L sp x : Int) (w : World) (hg : flr w g q n S L sp) (hn : n ≤ 64) :
    Calls Try.prog 51 #[.pointer (some ⟨g, 0, none⟩), .int .i64 x] w fun e w' => e = .returned (.bool (decide (0 ≤ x) && decide (x < n))) ∧ w = w' := by
  have c0 := hg.c0
  by_cases h0 : 0 ≤ x
  · have e0 : decide (0 ≤ x) = true := by simpa using h0
    rw [e0]
    go_enter Try.func51, Try.ntmps51
    go_wp2_with fail
    go_ret
    exact ⟨ret_bool (by simp), rfl⟩
  · have e0 : decide (0 ≤ x) = false := by simpa using h0
    rw [e0]
    go_enter Try.func51, Try.ntmps51
    go_wp2_with fail
    go_ret
    exact ⟨ret_bool (by simp), rfl⟩
def scoreOf (S : Nat → Int) (n : Nat) (x : Int) : Int := if 0 ≤ x ∧ x < n then S x.toNat else 0
theorem lscore_any (g q n : Nat) (S : Nat → Int) (L sp x : Int) (w : World) (hg : flr w g q n S L sp) (hn : n ≤ 64) :
    Calls Try.prog 38 #[.pointer (some ⟨g, 0, none⟩), .int .i64 x] w fun e w' => e = .returned (.int .i64 (scoreOf S n x)) ∧ w = w' := by
  have c0 := hg.c0
  by_cases hx : 0 ≤ x ∧ x < n
  · have E := Lib.hid (show scoreOf S n x = S x.toNat by unfold scoreOf; rw [if_pos hx])
    obtain ⟨k, rfl⟩ := Int.eq_ofNat_of_zero_le hx.1
    have hk : k < n := by omega
    have ck := hg.at hk
    have T := Lib.hid (lthere_any g q n S L sp (k : Int) w hg hn)
    rw [show (decide ((0 : Int) ≤ (k : Int)) && decide ((k : Int) < (n : Int))) = true by simp; omega] at T
    clear hx
    go_enter Try.func38, Try.ntmps38
    go_wp2_with (go_at_call 51; refine (T.out).mono ?_; rintro e w' ⟨rfl, rfl⟩)
    go_ret
    exact ⟨ret_int (by rw [E.out]; rfl), rfl⟩
  · have E := Lib.hid (show scoreOf S n x = 0 by unfold scoreOf; rw [if_neg hx])
    have T := Lib.hid (lthere_any g q n S L sp x w hg hn)
    rw [show (decide (0 ≤ x) && decide (x < (n : Int))) = false by simp; omega] at T
    clear hx
    go_enter Try.func38, Try.ntmps38
    go_wp2_with (go_at_call 51; refine (T.out).mono ?_; rintro e w' ⟨rfl, rfl⟩)
    go_ret
    exact ⟨ret_int E.out.symm, rfl⟩
theorem lspeaks_any (g q n : Nat) (S : Nat → Int) (L sp : Int) (w : World) (hg : flr w g q n S L sp) :
    Calls Try.prog 39 #[.pointer (some ⟨g, 0, none⟩)] w fun e w' => e = .returned (.int .i64 sp) ∧ w = w' := by
  have c2 := hg.c2
  go_enter Try.func39, Try.ntmps39
  go_wp2_with fail
  go_ret
  exact ⟨rfl, rfl⟩

/-- who is the loudest of the first k -/
def bestTo (S : Nat → Int) : Nat → Int
  | 0 => -1
  | k + 1 => if S k = 0 ∨ (bestTo S k ≠ -1 ∧ S k ≤ S (bestTo S k).toNat) then bestTo S k else k
theorem bestTo_bd (S : Nat → Int) (k : Nat) : -1 ≤ bestTo S k ∧ bestTo S k < k ∧ (bestTo S k ≠ -1 → S (bestTo S k).toNat ≠ 0) := by
  induction k with
  | zero => simp [bestTo]
  | succ k ih =>
    unfold bestTo
    split
    · exact ⟨ih.1, by omega, ih.2.2⟩
    · rename_i h
      refine ⟨by omega, by omega, fun _ h2 => h (.inl ?_)⟩
      simpa using h2
def spTo (S : Nat → Int) (n : Nat) (L sp : Int) : Int :=
  if bestTo S n ≠ -1 ∧ (sp = -1 ∨ L < S (bestTo S n).toNat - scoreOf S n sp) then bestTo S n else if scoreOf S n sp = 0 then -1 else sp

set_option maxHeartbeats 4000000 in
theorem lturn_any (g q n : Nat) (S : Nat → Int) (L sp : Int) (w : World) (hg : flr w g q n S L sp) (hn : n ≤ 64) (hS : ∀ i, i < n → 0 ≤ S i ∧ S i ≤ 1000) (hL : 0 ≤ L ∧ L ≤ 1000000) :
    Calls Try.prog 53 #[.pointer (some ⟨g, 0, none⟩)] w fun e w' => e = .returned (.tuple #[]) ∧ flr w' g q n S L (spTo S n L sp) ∧ Keeps g w w' := by
  have c0 := hg.c0
  have c1 := hg.c1
  have c2 := hg.c2
  have f2 := hg.fr 2
  have HG := Lib.hid hg
  have HS := Lib.hid hS
  have SC := Lib.hid (lscore_any g q n S L sp sp w hg hn)
  have hnow : 0 ≤ scoreOf S n sp ∧ scoreOf S n sp ≤ 1000 := by
    unfold scoreOf; split
    · exact hS _ (by omega)
    · omega
  obtain ⟨now, HN, hnow1⟩ : ∃ now, Hid (scoreOf S n sp = now) ∧ 0 ≤ now ∧ now ≤ 1000 := ⟨_, Lib.hid rfl, hnow⟩
  rw [HN.out] at SC
  clear hg hS hnow
  go_enter Try.func53, Try.ntmps53
  go_step3
  go_wp2_with (go_at_call 38; refine (SC.out).mono ?_; rintro e w' ⟨rfl, rfl⟩)
  go_step3
  go_wp2_with fail
  go_loop [3, 17] (fun sb si => ∃ (k : Nat) (b : Int), k ≤ n ∧ si = .int .i64 k ∧ sb = .int .i64 b ∧ -1 ≤ b ∧ b < k ∧ Hid (b = bestTo S k)) (fun _ si => n - (intOf si).toNat)
  case atStart => exact ⟨0, -1, by omega, rfl, rfl, by omega, by omega, Lib.hid rfl⟩
  case round =>
    obtain ⟨k, b, hk, rfl, rfl, hb0, hb1, hb⟩ := hrel
    by_cases hlt : k < n
    · have ck := HG.out.at hlt
      by_cases h0 : S k = 0
      · have hn2 : Hid (b = bestTo S (k + 1)) := Lib.hid (by unfold bestTo; rw [if_pos (.inl h0)]; exact hb.out)
        rw [h0] at ck
        clear h0
        go_wp2_with fail
        go_round
        case rel => exact ⟨k + 1, b, by omega, by go_num, rfl, by omega, by omega, hn2⟩
        case measure => simp [intOf] <;> omega
      · have e0 : (S k == 0) = false := by simpa using h0
        by_cases hbn : b = -1
        · subst hbn
          have hn2 : Hid ((k : Int) = bestTo S (k + 1)) := Lib.hid (by unfold bestTo; rw [if_neg]; rw [← hb.out]; simp [h0])
          go_wp2_with fail
          go_round
          case rel => exact ⟨k + 1, (k : Int), by omega, by go_num, rfl, by omega, by omega, hn2⟩
          case measure => simp [intOf] <;> omega
        · have e1 : (b != -1) = true := by simp; omega
          obtain ⟨c, rfl⟩ := Int.eq_ofNat_of_zero_le (show 0 ≤ b by omega)
          have hc : c < n := by omega
          have cc := HG.out.at hc
          have hb2 : bestTo S k = (c : Int) := hb.out.symm
          by_cases hle : S k ≤ S c
          · have e2 : decide (S k ≤ S c) = true := by simpa using hle
            have hn2 : Hid ((c : Int) = bestTo S (k + 1)) := Lib.hid (by unfold bestTo; rw [hb2, if_pos (.inr ⟨hbn, by simpa using hle⟩)])
            clear hb2 hbn h0 hle
            go_wp2_with fail
            go_round
            case rel => exact ⟨k + 1, (c : Int), by omega, by go_num, rfl, by omega, by omega, hn2⟩
            case measure => simp [intOf] <;> omega
          · have e2 : decide (S k ≤ S c) = false := by simpa using hle
            have hn2 : Hid ((k : Int) = bestTo S (k + 1)) := Lib.hid (by unfold bestTo; rw [hb2, if_neg]; simp [h0, hle])
            clear hb2 hbn h0 hle
            go_wp2_with fail
            go_round
            case rel => exact ⟨k + 1, (k : Int), by omega, by go_num, rfl, by omega, by omega, hn2⟩
            case measure => simp [intOf] <;> omega
    · obtain rfl : k = n := by omega
      have hsp : ∀ m x, x = spTo S k L sp → flr ((w.drewN m).setCell ⟨g, 2, none⟩ (.int .i64 x)) g q k S L (spTo S k L sp) := fun m x hx => by rw [← hx]; exact (HG.out.drewN m).setSp x
      have HSP := Lib.hid hsp
      clear hsp
      by_cases hbn : b = -1
      · subst hbn
        by_cases h0 : now = 0
        · subst h0
          have E := Lib.hid (show (-1 : Int) = spTo S k L sp by unfold spTo; rw [← hb.out, HN.out]; simp)
          go_wp2_with fail
          go_quiet (fail)
          go_wp2_with fail
          simp only [Exit.inBlock, Exit.then, Exit.noGoto_normal, Exit.noGoto_ret, Exit.noGoto_exit]
          go_returns
          refine ⟨rfl, HSP.out _ _ E.out, Keeps.setCell ((Keeps.refl _ _).drewN _) (by left; rfl) _⟩
        · have e0 : (now == 0) = false := by simpa using h0
          have E := Lib.hid (show sp = spTo S k L sp by unfold spTo; rw [← hb.out, HN.out]; simp [h0])
          clear h0
          go_wp2_with fail
          go_quiet (fail)
          go_wp2_with fail
          simp only [Exit.inBlock, Exit.then, Exit.noGoto_normal, Exit.noGoto_ret, Exit.noGoto_exit]
          go_returns
          refine ⟨rfl, by rw [← E.out]; exact HG.out.drewN _, (Keeps.refl _ _).drewN _⟩
      · have e1 : (b != -1) = true := by simp; omega
        obtain ⟨c, rfl⟩ := Int.eq_ofNat_of_zero_le (show 0 ≤ b by omega)
        have hc : c < k := by omega
        have cc := HG.out.at hc
        have hb2 : bestTo S k = (c : Int) := hb.out.symm
        have hsc := HS.out c hc
        by_cases hs1 : sp = -1
        · have e2 : (sp == -1) = true := by simpa using hs1
          have E := Lib.hid (show (c : Int) = spTo S k L sp by unfold spTo; rw [hb2, if_pos ⟨hbn, .inl hs1⟩])
          clear hb2 hbn hs1
          go_wp2_with fail
          go_quiet (fail)
          go_wp2_with fail
          simp only [Exit.inBlock, Exit.then, Exit.noGoto_normal, Exit.noGoto_ret, Exit.noGoto_exit]
          go_returns
          refine ⟨rfl, HSP.out _ _ E.out, Keeps.setCell ((Keeps.refl _ _).drewN _) (by left; rfl) _⟩
        · have e2 : (sp == -1) = false := by simpa using hs1
          by_cases hd : L < S c - now
          · have e3 : decide (L < S c - now) = true := by simpa using hd
            have E := Lib.hid (show (c : Int) = spTo S k L sp by unfold spTo; rw [hb2, HN.out, if_pos ⟨hbn, .inr (by simpa using hd)⟩])
            clear hb2 hbn hs1 hd
            go_wp2_with fail
            go_quiet (fail)
            go_wp2_with fail
            simp only [Exit.inBlock, Exit.then, Exit.noGoto_normal, Exit.noGoto_ret, Exit.noGoto_exit]
            go_returns
            refine ⟨rfl, HSP.out _ _ E.out, Keeps.setCell ((Keeps.refl _ _).drewN _) (by left; rfl) _⟩
          · have e3 : decide (L < S c - now) = false := by simpa using hd
            have hno : ¬ ((c : Int) ≠ -1 ∧ (sp = -1 ∨ L < S ((c : Int)).toNat - now)) := fun h => by
              rcases h.2 with h | h
              · exact hs1 h
              · exact hd (by simpa using h)
            by_cases h0 : now = 0
            · have e0 : (now == 0) = true := by simpa using h0
              have E := Lib.hid (show (-1 : Int) = spTo S k L sp by unfold spTo; rw [hb2, HN.out, if_neg hno, if_pos h0])
              clear hb2 hbn hs1 hd hno h0
              go_wp2_with fail
              go_quiet (fail)
              go_wp2_with fail
              simp only [Exit.inBlock, Exit.then, Exit.noGoto_normal, Exit.noGoto_ret, Exit.noGoto_exit]
              go_returns
              refine ⟨rfl, HSP.out _ _ E.out, Keeps.setCell ((Keeps.refl _ _).drewN _) (by left; rfl) _⟩
            · have e0 : (now == 0) = false := by simpa using h0
              have E := Lib.hid (show sp = spTo S k L sp by unfold spTo; rw [hb2, HN.out, if_neg hno, if_neg h0])
              clear hb2 hbn hs1 hd hno h0
              go_wp2_with fail
              go_quiet (fail)
              go_wp2_with fail
              simp only [Exit.inBlock, Exit.then, Exit.noGoto_normal, Exit.noGoto_ret, Exit.noGoto_exit]
              go_returns
              refine ⟨rfl, by rw [← E.out]; exact HG.out.drewN _, (Keeps.refl _ _).drewN _⟩
end Go.Proofs.Ytkemkplmhjmahaa
