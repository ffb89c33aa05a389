/-
  Chapter 45: the chosen records.
-/
import Derived.Test.YtdmbdageohjodaaCpF
import Derived.Test.YtdmbdageohjodaaCpL
namespace Go.Proofs.Ytdmbdageohjodaa
open Go.RowKit
set_option linter.unusedVariables false
set_option linter.unusedSimpArgs false
attribute [local irreducible] wpStill wpQuiet

def selL (p : Rcd → Bool) (Q : Nat → Rcd) (k : Nat) : List Rcd := ((List.range k).map Q).filter p
theorem selL_succ (p : Rcd → Bool) (Q : Nat → Rcd) (k : Nat) : selL p Q (k + 1) = selL p Q k ++ (if p (Q k) = true then [Q k] else []) := by
  unfold selL
  rw [List.range_succ, List.map_append, List.filter_append]
  congr 1
  by_cases h : p (Q k) = true
  · simp [h]
  · simp [h]
theorem selL_le (p : Rcd → Bool) (Q : Nat → Rcd) (k : Nat) : (selL p Q k).length ≤ k := by
  unfold selL
  refine Nat.le_trans (List.length_filter_le _ _) ?_
  simp
def rowL : List Rcd → List Value
  | [] => []
  | r :: L => rcV r ++ rowL L
theorem rowL_app (L M : List Rcd) : rowL (L ++ M) = rowL L ++ rowL M := by
  induction L with
  | nil => rfl
  | cons r L ih => show rcV r ++ rowL (L ++ M) = _; rw [ih]; simp [rowL]
def inB (lo hi : Int) (r : Rcd) : Bool := decide (lo ≤ r.tk) && decide (r.tk < hi)
set_option maxRecDepth 100000 in
set_option maxHeartbeats 4000000 in
theorem chosen2_any (B : Nat) (a : Option Addr) (len cap : Nat) (Q : Nat → Rcd) (gs g4 g5 : Nat) (lo hi : Int) (w : World) (hQ : Rcds B w a len cap Q) (hB : B ≤ w.heap.size) (hl : len ≤ 1000) (hs : w.heap[gs]? = some (.cells #[.func (.func 79) #[] #[.pointer (some ⟨g4, 0, none⟩)], .func (.func 80) #[] #[.pointer (some ⟨g5, 0, none⟩)]] 78 (0, 0)))
    (h4 : w.heap[g4]? = some (.cells #[.int .i64 lo] 2 (0, 0))) (h5 : w.heap[g5]? = some (.cells #[.int .i64 hi] 2 (0, 0))) :
    Calls Try.prog 78 #[.slice a len cap, .slice (some ⟨gs, 0, none⟩) 2 2] w fun e w' => ∃ a' c', e = .returned (.slice a' (selL (inB lo hi) Q len).length c') ∧ w'.ownsRow w.heap.size 72 5 (.slice a' (selL (inB lo hi) Q len).length c') (selL (inB lo hi) Q len).length (rowL (selL (inB lo hi) Q len)) ∧ Below w.heap.size w w' := by
  have HQ := Lib.hid hQ
  have hle := hQ.le
  have hmx := hQ.max
  have HS := Lib.hid hs
  have H4 := Lib.hid h4
  have H5 := Lib.hid h5
  clear hQ hs h4 h5
  go_enter Try.func78, Try.ntmps78
  go_wp2_with fail
  go_loopw [5, 11] (fun s5 s11 wr => ∃ k : Nat, k ≤ len ∧ s11 = .int .i64 k ∧ Hid (Below w.heap.size w wr) ∧ Hid (wr.ownsRow w.heap.size 72 5 s5 (selL (inB lo hi) Q k).length (rowL (selL (inB lo hi) Q k)))) (fun _ s11 _ => len - (intOf s11).toNat)
  case atStart => exact ⟨0, by omega, rfl, Lib.hid (Below.refl _ _), Lib.hid (World.ownsRow_nil _ _ _ _)⟩
  case round =>
    obtain ⟨k, hk, rfl, HW, HO⟩ := hrel
    obtain ⟨va, vc, hv⟩ := own_len HO.out
    subst hv
    by_cases hlt : k < len
    · obtain ⟨b1, o1, hp1, hc1⟩ := (HQ.out.keep (HW.out.mono hB)).mem
      obtain ⟨rfl, hb1⟩ := hp1 (by omega)
      have c0 := hc1 k hlt 0 (by omega)
      have c1 := hc1 k hlt 1 (by omega)
      have c2 := hc1 k hlt 2 (by omega)
      have c3 := hc1 k hlt 3 (by omega)
      have c4 := hc1 k hlt 4 (by omega)
      have hsu := selL_succ (inB lo hi) Q k
      have hsl := selL_le (inB lo hi) Q k
      obtain ⟨q, hq⟩ : ∃ q, Q k = q := ⟨_, rfl⟩
      rw [hq] at c0 c1 c2 c3 c4 hsu
      obtain ⟨L, hL⟩ : ∃ L, selL (inB lo hi) Q k = L := ⟨_, rfl⟩
      rw [hL] at hsu hsl HO ⊢
      have HSU := Lib.hid hsu
      obtain ⟨tk, wy, ad, pt, ra, rn, rc, rZ⟩ := q
      simp only [Rcd.cell, Nat.add_zero] at c0 c1 c2 c3 c4
      have hki : (k : Int) < len := by omega
      clear hp1 hc1 hq hL hsu
      go_wp2_with fail
      generalize hV : World.alloc wr _ = V
      obtain ⟨g, hg⟩ : ∃ g, wr.heap.size = g := ⟨_, rfl⟩
      rw [hg]
      have G0 : V.heap[g]? = some (.cells #[.int .i64 tk, .int .i64 wy, .int .u32 ad, .int .u16 pt, .slice ra rn rc] 72 (0, 0)) := by rw [← hV, ← hg]; exact alloc_blk_new
      have bv : Below wr.heap.size wr V := by rw [← hV]; exact (Below.refl _ _).alloc (Nat.le_refl _) _
      have BWV := HW.out.trans (bv.mono HW.out.size)
      have HC := Lib.hid (cf2_any tk wy ad pt ra rn rc gs g4 g5 g lo hi V (Below.blk BWV HS.out (lt_of_block HS.out)) (Below.blk BWV H4.out (lt_of_block H4.out)) (Below.blk BWV H5.out (lt_of_block H5.out)) G0)
      obtain ⟨b, hb⟩ : ∃ b, (decide (lo ≤ tk) && decide (tk < hi)) = b := ⟨_, rfl⟩
      rw [hb] at HC
      have HIN : Hid (inB lo hi ⟨tk, wy, ad, pt, ra, rn, rc, rZ⟩ = b) := Lib.hid hb
      have GH := Lib.hid G0
      have HBV := Lib.hid bv
      clear hV hg hb G0 bv BWV c0 c1 c2 c3 c4
      refine HC.out.mono ?_
      rintro e V1 ⟨rfl, b1'⟩
      have G1 := Lib.hid (Below.blk b1' GH.out (lt_of_block GH.out))
      have BV1 := Lib.hid (HBV.out.trans (b1'.mono HBV.out.size))
      have BW1 := Lib.hid (HW.out.trans (BV1.out.mono HW.out.size))
      have O1 := Lib.hid (own_below HO.out BV1.out)
      clear b1'
      cases b with
      | false =>
        go_wp2_with fail
        go_roundw
        case rel => exact ⟨k + 1, by omega, by go_num, BW1, Lib.hid (by rw [HSU.out, HIN.out, if_neg (by decide), List.append_nil]; exact O1.out)⟩
        case measure => simp [intOf] <;> omega
      | true =>
        obtain ⟨a9, c9, V2, A9, B9⟩ := app1 elRcd O1.out (rcV ⟨tk, wy, ad, pt, ra, rn, rc, rZ⟩) rfl (rcV_one _) (by omega) (by omega) BW1.out.size
        have HA := Lib.hid A9.run
        have O2 := Lib.hid A9.own
        have B2 := Lib.hid (BW1.out.trans B9)
        have e0 : V1.cell? ⟨g, 0, none⟩ = some (.int .i64 tk) := cell_blk G1.out
        have e1 : V1.cell? ⟨g, 1, none⟩ = some (.int .i64 wy) := cell_blk G1.out
        have e2 : V1.cell? ⟨g, 2, none⟩ = some (.int .u32 ad) := cell_blk G1.out
        have e3 : V1.cell? ⟨g, 3, none⟩ = some (.int .u16 pt) := cell_blk G1.out
        have e4 : V1.cell? ⟨g, 4, none⟩ = some (.slice ra rn rc) := cell_blk G1.out
        clear A9 B9
        go_wp2_with (at_builtin; refine wpList_of_append rfl (.tmp 20) (.tmp 22) 54 rfl _ _ _ rfl rfl HA.out ?_)
        go_roundw
        case rel => exact ⟨k + 1, by omega, by go_num, B2, Lib.hid (by rw [HSU.out, HIN.out, if_pos rfl, rowL_app, List.length_append]; show V2.ownsRow _ _ _ _ (L.length + 1) _; simpa [rowL] using O2.out)⟩
        case measure => simp [intOf] <;> omega
    · have : k = len := by omega
      subst this
      clear hlt
      go_wp2_with fail
      go_ret
      exact ⟨va, vc, rfl, HO.out, HW.out⟩
def inO (xa xp : Int) (r : Rcd) : Bool := decide (r.ad = xa ∧ r.pt = xp)
set_option maxRecDepth 100000 in
set_option maxHeartbeats 4000000 in
theorem chosen1_any (B : Nat) (a : Option Addr) (len cap : Nat) (Q : Nat → Rcd) (gs g4 : Nat) (xa xp : Int) (w : World) (hQ : Rcds B w a len cap Q) (hB : B ≤ w.heap.size) (hl : len ≤ 1000) (hs : w.heap[gs]? = some (.cells #[.func (.func 81) #[] #[.pointer (some ⟨g4, 0, none⟩)]] 78 (0, 0)))
    (h4 : w.heap[g4]? = some (.cells #[.int .u32 xa, .int .u16 xp] 70 (0, 0))) :
    Calls Try.prog 78 #[.slice a len cap, .slice (some ⟨gs, 0, none⟩) 1 1] w fun e w' => ∃ a' c', e = .returned (.slice a' (selL (inO xa xp) Q len).length c') ∧ w'.ownsRow w.heap.size 72 5 (.slice a' (selL (inO xa xp) Q len).length c') (selL (inO xa xp) Q len).length (rowL (selL (inO xa xp) Q len)) ∧ Below w.heap.size w w' := by
  have HQ := Lib.hid hQ
  have hle := hQ.le
  have hmx := hQ.max
  have HS := Lib.hid hs
  have H4 := Lib.hid h4
  clear hQ hs h4
  go_enter Try.func78, Try.ntmps78
  go_wp2_with fail
  go_loopw [5, 11] (fun s5 s11 wr => ∃ k : Nat, k ≤ len ∧ s11 = .int .i64 k ∧ Hid (Below w.heap.size w wr) ∧ Hid (wr.ownsRow w.heap.size 72 5 s5 (selL (inO xa xp) Q k).length (rowL (selL (inO xa xp) Q k)))) (fun _ s11 _ => len - (intOf s11).toNat)
  case atStart => exact ⟨0, by omega, rfl, Lib.hid (Below.refl _ _), Lib.hid (World.ownsRow_nil _ _ _ _)⟩
  case round =>
    obtain ⟨k, hk, rfl, HW, HO⟩ := hrel
    obtain ⟨va, vc, hv⟩ := own_len HO.out
    subst hv
    by_cases hlt : k < len
    · obtain ⟨b1, o1, hp1, hc1⟩ := (HQ.out.keep (HW.out.mono hB)).mem
      obtain ⟨rfl, hb1⟩ := hp1 (by omega)
      have c0 := hc1 k hlt 0 (by omega)
      have c1 := hc1 k hlt 1 (by omega)
      have c2 := hc1 k hlt 2 (by omega)
      have c3 := hc1 k hlt 3 (by omega)
      have c4 := hc1 k hlt 4 (by omega)
      have hsu := selL_succ (inO xa xp) Q k
      have hsl := selL_le (inO xa xp) Q k
      obtain ⟨q, hq⟩ : ∃ q, Q k = q := ⟨_, rfl⟩
      rw [hq] at c0 c1 c2 c3 c4 hsu
      obtain ⟨L, hL⟩ : ∃ L, selL (inO xa xp) Q k = L := ⟨_, rfl⟩
      rw [hL] at hsu hsl HO ⊢
      have HSU := Lib.hid hsu
      obtain ⟨tk, wy, ad, pt, ra, rn, rc, rZ⟩ := q
      simp only [Rcd.cell, Nat.add_zero] at c0 c1 c2 c3 c4
      have hki : (k : Int) < len := by omega
      clear hp1 hc1 hq hL hsu
      go_wp2_with fail
      generalize hV : World.alloc wr _ = V
      obtain ⟨g, hg⟩ : ∃ g, wr.heap.size = g := ⟨_, rfl⟩
      rw [hg]
      have G0 : V.heap[g]? = some (.cells #[.int .i64 tk, .int .i64 wy, .int .u32 ad, .int .u16 pt, .slice ra rn rc] 72 (0, 0)) := by rw [← hV, ← hg]; exact alloc_blk_new
      have bv : Below wr.heap.size wr V := by rw [← hV]; exact (Below.refl _ _).alloc (Nat.le_refl _) _
      have BWV := HW.out.trans (bv.mono HW.out.size)
      have HC := Lib.hid (cf1_any tk wy ad pt ra rn rc gs g4 g xa xp V (Below.blk BWV HS.out (lt_of_block HS.out)) (Below.blk BWV H4.out (lt_of_block H4.out)) G0)
      obtain ⟨b, hb⟩ : ∃ b, decide (ad = xa ∧ pt = xp) = b := ⟨_, rfl⟩
      rw [hb] at HC
      have HIN : Hid (inO xa xp ⟨tk, wy, ad, pt, ra, rn, rc, rZ⟩ = b) := Lib.hid hb
      have GH := Lib.hid G0
      have HBV := Lib.hid bv
      clear hV hg hb G0 bv BWV c0 c1 c2 c3 c4
      refine HC.out.mono ?_
      rintro e V1 ⟨rfl, b1'⟩
      have G1 := Lib.hid (Below.blk b1' GH.out (lt_of_block GH.out))
      have BV1 := Lib.hid (HBV.out.trans (b1'.mono HBV.out.size))
      have BW1 := Lib.hid (HW.out.trans (BV1.out.mono HW.out.size))
      have O1 := Lib.hid (own_below HO.out BV1.out)
      clear b1'
      cases b with
      | false =>
        go_wp2_with fail
        go_roundw
        case rel => exact ⟨k + 1, by omega, by go_num, BW1, Lib.hid (by rw [HSU.out, HIN.out, if_neg (by decide), List.append_nil]; exact O1.out)⟩
        case measure => simp [intOf] <;> omega
      | true =>
        obtain ⟨a9, c9, V2, A9, B9⟩ := app1 elRcd O1.out (rcV ⟨tk, wy, ad, pt, ra, rn, rc, rZ⟩) rfl (rcV_one _) (by omega) (by omega) BW1.out.size
        have HA := Lib.hid A9.run
        have O2 := Lib.hid A9.own
        have B2 := Lib.hid (BW1.out.trans B9)
        have e0 : V1.cell? ⟨g, 0, none⟩ = some (.int .i64 tk) := cell_blk G1.out
        have e1 : V1.cell? ⟨g, 1, none⟩ = some (.int .i64 wy) := cell_blk G1.out
        have e2 : V1.cell? ⟨g, 2, none⟩ = some (.int .u32 ad) := cell_blk G1.out
        have e3 : V1.cell? ⟨g, 3, none⟩ = some (.int .u16 pt) := cell_blk G1.out
        have e4 : V1.cell? ⟨g, 4, none⟩ = some (.slice ra rn rc) := cell_blk G1.out
        clear A9 B9
        go_wp2_with (at_builtin; refine wpList_of_append rfl (.tmp 20) (.tmp 22) 54 rfl _ _ _ rfl rfl HA.out ?_)
        go_roundw
        case rel => exact ⟨k + 1, by omega, by go_num, B2, Lib.hid (by rw [HSU.out, HIN.out, if_pos rfl, rowL_app, List.length_append]; show V2.ownsRow _ _ _ _ (L.length + 1) _; simpa [rowL] using O2.out)⟩
        case measure => simp [intOf] <;> omega
    · have : k = len := by omega
      subst this
      clear hlt
      go_wp2_with fail
      go_ret
      exact ⟨va, vc, rfl, HO.out, HW.out⟩
def SelPost (p : Rcd → Bool) (Q : Nat → Rcd) (len : Nat) (w : World) (e : Ending) (w' : World) : Prop :=
  ∃ a' c', e = .returned (.slice a' (selL p Q len).length c') ∧ w'.ownsRow w.heap.size 72 5 (.slice a' (selL p Q len).length c') (selL p Q len).length (rowL (selL p Q len)) ∧ Below w.heap.size w w'
set_option maxHeartbeats 2000000 in
theorem between_any (B : Nat) (a : Option Addr) (len cap : Nat) (Q : Nat → Rcd) (lo hi : Int) (w : World) (hQ : Rcds B w a len cap Q) (hB : B ≤ w.heap.size) (hl : len ≤ 1000) :
    Calls Try.prog 40 #[.slice a len cap, .int .i64 lo, .int .i64 hi] w (SelPost (inB lo hi) Q len w) := by
  obtain ⟨g, hg⟩ : ∃ g, w.heap.size = g := ⟨_, rfl⟩
  obtain ⟨V, hV⟩ : ∃ V, ((w.alloc (.cells #[.int .i64 lo] 2)).alloc (.cells #[.int .i64 hi] 2)).alloc (.cells #[.func (.func 79) #[] #[.pointer (some ⟨g, 0, none⟩)], .func (.func 80) #[] #[.pointer (some ⟨g + 1, 0, none⟩)]] 78) = V := ⟨_, rfl⟩
  have bv : Below w.heap.size w V := by rw [← hV]; exact ((((Below.refl _ _).alloc (Nat.le_refl _) _).alloc (by simp) _).alloc (by rw [World.size_alloc, World.size_alloc]; omega) _)
  have s1 : (w.alloc (.cells #[.int .i64 lo] 2)).heap.size = g + 1 := by rw [World.size_alloc, hg]
  have s2 : ((w.alloc (.cells #[.int .i64 lo] 2)).alloc (.cells #[.int .i64 hi] 2)).heap.size = g + 2 := by rw [World.size_alloc, s1]
  have h4 : V.heap[g]? = some (.cells #[.int .i64 lo] 2 (0, 0)) := by rw [← hV]; exact (alloc_blk_old (by omega)).trans ((alloc_blk_old (by omega)).trans (by rw [← hg]; exact alloc_blk_new))
  have h5 : V.heap[g + 1]? = some (.cells #[.int .i64 hi] 2 (0, 0)) := by rw [← hV]; exact (alloc_blk_old (by omega)).trans (by rw [← s1]; exact alloc_blk_new)
  have hs : V.heap[g + 2]? = some (.cells #[.func (.func 79) #[] #[.pointer (some ⟨g, 0, none⟩)], .func (.func 80) #[] #[.pointer (some ⟨g + 1, 0, none⟩)]] 78 (0, 0)) := by rw [← hV, ← s2]; exact alloc_blk_new
  have HC := Lib.hid (chosen2_any B a len cap Q (g + 2) g (g + 1) lo hi V (hQ.keep (bv.mono hB)) (Nat.le_trans hB bv.size) hl hs h4 h5)
  have HV := Lib.hid hV
  have HG := Lib.hid hg
  have BV := Lib.hid bv
  clear hV hg bv s1 s2 h4 h5 hs
  go_enter Try.func40, Try.ntmps40
  go_wp2_with fail
  rw [HG.out, HV.out]
  refine HC.out.mono ?_
  rintro e V2 ⟨a', c', rfl, o, b⟩
  have O := Lib.hid o
  have B2 := Lib.hid b
  clear o b
  go_wp2_with fail
  go_ret
  exact ⟨a', c', rfl, World.ownsRow.mono O.out BV.out.size, BV.out.trans (B2.out.mono BV.out.size)⟩
set_option maxHeartbeats 2000000 in
theorem of_any (B : Nat) (a : Option Addr) (len cap : Nat) (Q : Nat → Rcd) (xa xp : Int) (w : World) (hQ : Rcds B w a len cap Q) (hB : B ≤ w.heap.size) (hl : len ≤ 1000) :
    Calls Try.prog 41 #[.slice a len cap, .agg #[.int .u32 xa, .int .u16 xp]] w (SelPost (inO xa xp) Q len w) := by
  obtain ⟨g, hg⟩ : ∃ g, w.heap.size = g := ⟨_, rfl⟩
  obtain ⟨V, hV⟩ : ∃ V, (w.alloc (.cells #[.int .u32 xa, .int .u16 xp] 70)).alloc (.cells #[.func (.func 81) #[] #[.pointer (some ⟨g, 0, none⟩)]] 78) = V := ⟨_, rfl⟩
  have bv : Below w.heap.size w V := by rw [← hV]; exact ((Below.refl _ _).alloc (Nat.le_refl _) _).alloc (by simp) _
  have s1 : (w.alloc (.cells #[.int .u32 xa, .int .u16 xp] 70)).heap.size = g + 1 := by rw [World.size_alloc, hg]
  have h4 : V.heap[g]? = some (.cells #[.int .u32 xa, .int .u16 xp] 70 (0, 0)) := by rw [← hV]; exact (alloc_blk_old (by omega)).trans (by rw [← hg]; exact alloc_blk_new)
  have hs : V.heap[g + 1]? = some (.cells #[.func (.func 81) #[] #[.pointer (some ⟨g, 0, none⟩)]] 78 (0, 0)) := by rw [← hV, ← s1]; exact alloc_blk_new
  have HC := Lib.hid (chosen1_any B a len cap Q (g + 1) g xa xp V (hQ.keep (bv.mono hB)) (Nat.le_trans hB bv.size) hl hs h4)
  have HV := Lib.hid hV
  have HG := Lib.hid hg
  have BV := Lib.hid bv
  clear hV hg bv s1 h4 hs
  go_enter Try.func41, Try.ntmps41
  go_wp2_with fail
  rw [HG.out, HV.out]
  refine HC.out.mono ?_
  rintro e V2 ⟨a', c', rfl, o, b⟩
  have O := Lib.hid o
  have B2 := Lib.hid b
  clear o b
  go_wp2_with fail
  go_ret
  exact ⟨a', c', rfl, World.ownsRow.mono O.out BV.out.size, BV.out.trans (B2.out.mono BV.out.size)⟩
end Go.Proofs.Ytdmbdageohjodaa
