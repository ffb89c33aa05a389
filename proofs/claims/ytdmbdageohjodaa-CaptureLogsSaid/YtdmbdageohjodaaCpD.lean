/-
  Chapter 45: the reference's record; files written.
-/
import Derived.Test.YtdmbdageohjodaaCpC
namespace Go.Proofs.Ytdmbdageohjodaa
open Go.RowKit
set_option linter.unusedVariables false
set_option linter.unusedSimpArgs false
attribute [local irreducible] wpStill wpQuiet MixC.wpMix MixC.wpPick
attribute [local go_sem] MixC.rdOp MixC.rd MixC.rdUpon MixC.mvUpon

set_option maxRecDepth 100000 in
set_option maxHeartbeats 4000000 in
theorem rone_any (B : Nat) (tk wy ad pt : Int) (a : Option Addr) (n c : Nat) (Z : Nat → Int) (w : World) (ok : RcdOk B w ⟨tk, wy, ad, pt, a, n, c, Z⟩) (hB : B ≤ w.heap.size) (hm : mayR tk wy n = true) :
    Calls Try.prog 34 #[.agg #[.int .i64 tk, .int .i64 wy, .int .u32 ad, .int .u16 pt, .slice a n c]] w (RcPost ⟨tk, wy, ad, pt, a, n, c, Z⟩ w) := by
  obtain ⟨m0, m1, m2, m3⟩ := (mayR_iff _ _ _).1 hm
  have k1 := ok.t1
  have k2 := ok.a0
  have k3 := ok.a1
  have k4 := ok.p0
  have k5 := ok.p1
  simp only at k1 k2 k3 k4 k5
  have OK := Lib.hid ok
  clear ok hm
  go_enter Try.func34, Try.ntmps34
  go_upto_region 1 with (fail)
  generalize hW : World.alloc w _ = W
  obtain ⟨g, hg⟩ : ∃ g, g = w.heap.size := ⟨_, rfl⟩
  have g0 : HasO g (rcO tk wy ad pt a n c) W := by rw [← hW, hg]; exact alloc_blk_new
  have BW : Hid (Below w.heap.size w W) := Lib.hid (by rw [← hW]; exact (Below.refl _ _).alloc (Nat.le_refl _) _)
  rw [← hg]
  have x0 : W.cell? ⟨g, 0, none⟩ = some (.int .i64 tk) := cell_blk g0
  have G0 := Lib.hid g0
  clear hW hg g0
  go_wp2_with fail
  refine (rput_l0 8 tk W (by omega) (by omega) m0 (by omega)).mono ?_
  rintro e V1 ⟨a1, c1, rfl, o1, b1⟩
  have G1 := Lib.hid (Below.blk b1 G0.out (lt_of_block G0.out))
  have B1 := Lib.hid (BW.out.trans (b1.mono BW.out.size))
  have x1 : V1.cell? ⟨g, 1, none⟩ = some (.int .i64 wy) := cell_blk G1.out
  obtain ⟨a2, c2, V2, A2, B2⟩ := app1 elU8 o1 [.int .u8 wy] rfl (one_cell rfl) (by omega) (by omega) b1.size
  have G2 : Hid (HasO g (rcO tk wy ad pt a n c) V2) := Lib.hid (A2.but.blk G1.out (fun e => by have := (o1.lt g e).1; have := lt_of_block G0.out; omega))
  have HA2 := Lib.hid A2
  have BB2 : Hid (Below w.heap.size w V2) := Lib.hid (B1.out.trans (B2.mono BW.out.size))
  have O2 : Hid (V2.ownsRow w.heap.size 5 1 (.slice a2 9 c2) 9 (u8s (hdR ⟨tk, wy, ad, pt, a, n, c, Z⟩))) := Lib.hid (by unfold hdR; rw [u8s_app]; exact World.ownsRow.mono A2.own BW.out.size)
  have x2 : V2.cell? ⟨g, 2, none⟩ = some (.int .u32 ad) := cell_blk G2.out
  have HD0 := Lib.hid (hdR_oct ⟨tk, wy, ad, pt, a, n, c, Z⟩ m1 m2)
  clear o1 b1 A2 B2 x0
  go_wp2_with (at_builtin; refine wpList_of_append rfl (.tmp 8) (.tmp 12) 56 rfl _ _ _ rfl rfl HA2.out.run ?_)
  refine (rput_k 13 a2 9 c2 (hdR ⟨tk, wy, ad, pt, a, n, c, Z⟩) w.heap.size 4 ad V2 rfl O2.out HD0.out (by omega) (by omega) (by omega) k2 (by omega)).mono ?_
  rintro e V3 ⟨a3, c3, rfl, o3, b3⟩
  have G3 := Lib.hid (Below.blk b3 G2.out (lt_of_block G2.out))
  have B3 := Lib.hid (BB2.out.trans (b3.mono BB2.out.size))
  have O3 := Lib.hid o3
  have x3 : V3.cell? ⟨g, 3, none⟩ = some (.int .u16 pt) := cell_blk G3.out
  clear o3 b3 x1 x2
  go_wp2_with fail
  refine (rput_k 15 a3 13 c3 (hdR ⟨tk, wy, ad, pt, a, n, c, Z⟩ ++ putL ad 4) _ 2 pt V3 rfl O3.out (HD0.out.app (putL_oct _ _)) (by omega) (by omega) (by omega) k4 (by omega)).mono ?_
  rintro e V4 ⟨a4, c4, rfl, o4, b4⟩
  have G4 := Lib.hid (Below.blk b4 G3.out (lt_of_block G3.out))
  have B4 := Lib.hid (B3.out.trans (b4.mono B3.out.size))
  have O4 := Lib.hid o4
  have x4 : V4.cell? ⟨g, 4, none⟩ = some (.slice a n c) := cell_blk G4.out
  clear o4 b4 x3
  go_wp2_with fail
  refine (rput_k 17 a4 15 c4 (midR ⟨tk, wy, ad, pt, a, n, c, Z⟩) _ 2 n V4 rfl O4.out (midR_oct _ m1 m2) (by omega) (by omega) (by omega) (by omega) (by omega)).mono ?_
  rintro e V5 ⟨a5, c5, rfl, o5, b5⟩
  have G5 := Lib.hid (Below.blk b5 G4.out (lt_of_block G4.out))
  have b5' := B4.out.trans (b5.mono B4.out.size)
  have x5 : V5.cell? ⟨g, 4, none⟩ = some (.slice a n c) := cell_blk G5.out
  have src : BS B V5 a n c Z := OK.out.z.keep (b5'.mono hB)
  obtain ⟨a7, c7, V6, A7, B7⟩ := appS elU8 o5 a n c (u8s (zs Z n)) src.nils (by rw [u8s_len, zs_len, Nat.mul_one]) src.news' (u8s_one _) (by omega) (by omega) b5.size
  have BWV4 : Below w.heap.size w V6 := b5'.trans (B7.mono B4.out.size)
  have own7 : V6.ownsRow w.heap.size 5 1 (.slice a7 (17 + n) c7) (17 + n) (u8s (recL ⟨tk, wy, ad, pt, a, n, c, Z⟩)) := by
    unfold recL
    rw [u8s_app]
    exact World.ownsRow.mono A7.own B4.out.size
  have hoc := recL_oct ⟨tk, wy, ad, pt, a, n, c, Z⟩ m1 m2 OK.out.z
  obtain ⟨-, a', c', he, hs⟩ := BS.own own7 hoc (by omega)
  cases he
  have HSUM := Lib.hid (rsum45_any V6.heap.size a7 (17 + n) c7 (gz (recL ⟨tk, wy, ad, pt, a, n, c, Z⟩)) V6 hs (by omega))
  have sb := smR_bd (gz (recL ⟨tk, wy, ad, pt, a, n, c, Z⟩)) (17 + n)
  have HP4 := Lib.hid (rput_k (19 + n) a7 (17 + n) c7 (recL ⟨tk, wy, ad, pt, a, n, c, Z⟩) _ 2 (smR (gz (recL ⟨tk, wy, ad, pt, a, n, c, Z⟩)) (17 + n)) V6 (by omega) own7 hoc (by omega) (by omega) (by omega) sb.1 (by omega))
  have HA7 := Lib.hid A7
  have BB := Lib.hid BWV4
  clear o5 b5 b5' src A7 B7 BWV4 own7 hoc hs sb x4
  go_wp2_with (at_builtin; refine wpList_of_append rfl (.tmp 32) (.tmp 34) 56 rfl _ _ _ rfl rfl HA7.out.run ?_)
  refine HSUM.out.mono ?_
  rintro e w' ⟨rfl, rfl⟩
  go_wp2_with fail
  refine HP4.out.mono ?_
  rintro e V8 ⟨a8, c8, rfl, o8, b8⟩
  have O8 := Lib.hid o8
  have B8 := Lib.hid (BB.out.trans (b8.mono BB.out.size))
  clear o8 b8
  go_wp2_with fail
  go_ret
  exact ⟨a8, c8, rfl, World.ownsRow.mono O8.out BB.out.size, B8.out⟩

/-! ### Files -/
def filL (Q : Nat → Rcd) : Nat → List Int
  | 0 => begL
  | k + 1 => filL Q k ++ oneL (Q k)
def okR (r : Rcd) : Prop := mayR r.tk r.wy r.n = true
def allR (Q : Nat → Rcd) (k : Nat) : Prop := ∀ i, i < k → okR (Q i)
theorem filL_le (Q : Nat → Rcd) (k : Nat) (h : allR Q k) : 6 + k * 19 ≤ (filL Q k).length ∧ (filL Q k).length ≤ 6 + k * 1219 := by
  induction k with
  | zero => simp [filL, begL]
  | succ k ih =>
    obtain ⟨h1, h2⟩ := ih (fun i hi => h i (by omega))
    have := ((mayR_iff _ _ _).1 (h k (by omega))).2.2.2
    unfold filL
    rw [List.length_append, oneL_len]
    omega
theorem begL_oct : Oct begL := fun x hx => by simp [begL] at hx; omega
theorem filL_oct {B : Nat} {w : World} (Q : Nat → Rcd) (k : Nat) (h : allR Q k) (ho : ∀ i, i < k → RcdOk B w (Q i)) : Oct (filL Q k) := by
  induction k with
  | zero => exact begL_oct
  | succ k ih =>
    obtain ⟨_, h1, h2, _⟩ := (mayR_iff _ _ _).1 (h k (by omega))
    exact (ih (fun i hi => h i (by omega)) (fun i hi => ho i (by omega))).app (oneL_oct _ h1 h2 (ho k (by omega)).z)
def WrPost (Q : Nat → Rcd) (len : Nat) (ok bad : Value) (w : World) (e : Ending) (w' : World) : Prop :=
  ((allR Q len ∧ ∃ a N c, e = .returned (.tuple #[.slice a N c, ok]) ∧ N = (filL Q len).length ∧ w'.ownsRow w.heap.size 5 1 (.slice a N c) N (u8s (filL Q len))) ∨ (¬ allR Q len ∧ e = .returned (.tuple #[.slice none 0 0, bad]))) ∧ Below w.heap.size w w'
structure FSt (Q : Nat → Rcd) (k : Nat) (w : World) (v : Value) (wr : World) : Prop where
  bl : Below w.heap.size w wr
  ok : allR Q k
  row : wr.ownsRow w.heap.size 5 1 v (filL Q k).length (u8s (filL Q k))
set_option maxRecDepth 100000 in
set_option maxHeartbeats 4000000 in
theorem write45_any (B : Nat) (ad : Option Addr) (len cap : Nat) (Q : Nat → Rcd) (w : World) (hQ : Rcds B w ad len cap Q) (hB : B ≤ w.heap.size) (hl : len ≤ 60) :
    Calls Try.prog 29 #[.slice ad len cap] w (WrPost Q len (.int .i64 0) (.int .i64 1) w) := by
  have HQ := Lib.hid hQ
  have hle := hQ.le
  have hmx := hQ.max
  clear hQ
  go_enter Try.func29, Try.ntmps29
  go_wp2_with fail
  refine (beg_any w).mono ?_
  rintro e w1 ⟨a1, c1, rfl, o1, b1⟩
  have F1 : Hid (FSt Q 0 w (.slice a1 6 c1) w1) := Lib.hid ⟨b1, fun i hi => by omega, o1⟩
  clear o1 b1
  go_wp2_with fail
  go_loopw [4, 10] (fun s4 s10 wr => ∃ k : Nat, k ≤ len ∧ s10 = .int .i64 k ∧ Hid (FSt Q k w s4 wr)) (fun _ s10 _ => len - (intOf s10).toNat)
  case atStart => exact ⟨0, by omega, rfl, F1⟩
  case round =>
    obtain ⟨k, hk, rfl, HS⟩ := hrel
    obtain ⟨v4a, v4c, h4⟩ := own_len HS.out.row
    subst h4
    have hfl := filL_le Q k HS.out.ok
    by_cases hlt : k < len
    · obtain ⟨b1, o1, hp1, hc1⟩ := (HQ.out.keep (HS.out.bl.mono hB)).mem
      obtain ⟨rfl, hb1⟩ := hp1 (by omega)
      have c0 := hc1 k hlt 0 (by omega)
      have c1 := hc1 k hlt 1 (by omega)
      have c2 := hc1 k hlt 2 (by omega)
      have c3 := hc1 k hlt 3 (by omega)
      have c4 := hc1 k hlt 4 (by omega)
      have OK := Lib.hid ((HQ.out.ok k hlt).keep (HS.out.bl.mono hB))
      obtain ⟨q, hq⟩ : ∃ q, Q k = q := ⟨_, rfl⟩
      have HQK := Lib.hid hq
      rw [hq] at c0 c1 c2 c3 c4 OK
      clear hq hp1 hc1
      obtain ⟨tk, wy, ad, pt, a, n, c, Z⟩ := q
      simp only [Rcd.cell, Nat.add_zero] at c0 c1 c2 c3 c4
      have hki : (k : Int) < len := by omega
      go_wp2_with fail
      generalize hV : World.alloc wr _ = V
      obtain ⟨g, hg⟩ : ∃ g, g = wr.heap.size := ⟨_, rfl⟩
      have g0 : HasO g (rcO tk wy ad pt a n c) V := by rw [← hV, hg]; exact alloc_blk_new
      have bv : Below wr.heap.size wr V := by rw [← hV]; exact (Below.refl _ _).alloc (Nat.le_refl _) _
      rw [← hg]
      have hgw : wr.heap.size ≤ g := by omega
      clear hV hg
      refine (may45_any tk wy ad pt a n c V).mono ?_
      rintro e V1 ⟨rfl, b1⟩
      have g1 : HasO g (rcO tk wy ad pt a n c) V1 := Below.blk b1 g0 (lt_of_block g0)
      have BV := Lib.hid (bv.trans (b1.mono bv.size))
      have BWV : Hid (Below w.heap.size w V1) := Lib.hid (HS.out.bl.trans (BV.out.mono HS.out.bl.size))
      have e0 : V1.cell? ⟨g, 0, none⟩ = some (.int .i64 tk) := cell_blk g1
      have e1 : V1.cell? ⟨g, 1, none⟩ = some (.int .i64 wy) := cell_blk g1
      have e2 : V1.cell? ⟨g, 2, none⟩ = some (.int .u32 ad) := cell_blk g1
      have e3 : V1.cell? ⟨g, 3, none⟩ = some (.int .u16 pt) := cell_blk g1
      have e4 : V1.cell? ⟨g, 4, none⟩ = some (.slice a n c) := cell_blk g1
      clear g0 bv b1 g1 c0 c1 c2 c3 c4
      cases hm : mayR tk wy n with
      | false =>
        have hno : Hid (¬ allR Q len) := Lib.hid (fun h => by have := h k hlt; unfold okR at this; rw [HQK.out] at this; simp only at this; rw [hm] at this; cases this)
        clear hm
        go_wp2_with fail
        go_ret2
        exact ⟨.inr ⟨hno.out, rfl⟩, BWV.out⟩
      | true =>
        have HM := Lib.hid hm
        have m3 := ((mayR_iff _ _ _).1 hm).2.2.2
        clear hm
        go_wp2_with fail
        refine (record_any B tk wy ad pt a n c Z V1 (OK.out.keep (BV.out.mono (Nat.le_trans hB HS.out.bl.size))) (Nat.le_trans hB BWV.out.size) HM.out).mono ?_
        rintro e V2 ⟨a5, c5, he5, o5, b5⟩
        simp only at he5 o5
        subst he5
        have hoc : Oct (oneL ⟨tk, wy, ad, pt, a, n, c, Z⟩) := oneL_oct _ ((mayR_iff _ _ _).1 HM.out).2.1 ((mayR_iff _ _ _).1 HM.out).2.2.1 OK.out.z
        obtain ⟨-, a', c', he, hs⟩ := BS.own o5 hoc (by omega)
        cases he
        obtain ⟨a7, c7, V3, A7, B7⟩ := appS elU8 (own_below (own_below HS.out.row BV.out) b5) a5 (19 + n) c5 (u8s (oneL ⟨tk, wy, ad, pt, a, n, c, Z⟩)) hs.nils (by rw [u8s_len, oneL_len, Nat.mul_one]) (fun ad' e' j u hj => by
          have := hs.news' ad' e' j u
          rw [show zs (gz (oneL ⟨tk, wy, ad, pt, a, n, c, Z⟩)) (19 + n) = oneL ⟨tk, wy, ad, pt, a, n, c, Z⟩ by have := zs_gz (oneL ⟨tk, wy, ad, pt, a, n, c, Z⟩); rw [oneL_len] at this; exact this] at this
          exact this hj) (u8s_one _) (by omega) (by omega) (Nat.le_trans BWV.out.size b5.size)
        have HA := Lib.hid A7
        have BB := Lib.hid ((BWV.out.trans (b5.mono BWV.out.size)).trans B7)
        have HF : Hid (filL Q (k + 1) = filL Q k ++ oneL ⟨tk, wy, ad, pt, a, n, c, Z⟩) := Lib.hid (by show filL Q k ++ oneL (Q k) = _; rw [HQK.out])
        have HOK : Hid (allR Q (k + 1)) := Lib.hid (fun i hi => by
          rcases Nat.lt_or_ge i k with h | h
          · exact HS.out.ok i h
          · have : i = k := by omega
            subst this; unfold okR; rw [HQK.out]; exact HM.out)
        clear hs hoc o5 b5 A7 B7 e0 e1 e2 e3 e4
        go_wp2_with (at_builtin; refine wpList_of_append rfl (.tmp 17) (.tmp 19) 56 rfl _ _ _ rfl rfl HA.out.run ?_)
        go_roundw
        case rel => exact ⟨k + 1, by omega, by go_num, Lib.hid ⟨BB.out, HOK.out, by rw [HF.out, u8s_app, List.length_append, oneL_len]; exact HA.out.own⟩⟩
        case measure => simp [intOf] <;> omega
    · have : k = len := by omega
      subst this
      clear hlt
      go_wp2_with fail
      go_ret2
      exact ⟨.inl ⟨HS.out.ok, _, _, _, rfl, rfl, HS.out.row⟩, HS.out.bl⟩
set_option maxRecDepth 100000 in
set_option maxHeartbeats 4000000 in
theorem rwrite45_any (B : Nat) (ad : Option Addr) (len cap : Nat) (Q : Nat → Rcd) (w : World) (hQ : Rcds B w ad len cap Q) (hB : B ≤ w.heap.size) (hl : len ≤ 60) :
    Calls Try.prog 30 #[.slice ad len cap] w (WrPost Q len (.bool true) (.bool false) w) := by
  have HQ := Lib.hid hQ
  have hle := hQ.le
  have hmx := hQ.max
  clear hQ
  go_enter Try.func30, Try.ntmps30
  go_wp2_with fail
  refine (rbeg_any w).mono ?_
  rintro e w1 ⟨a1, c1, rfl, o1, b1⟩
  have F1 : Hid (FSt Q 0 w (.slice a1 6 c1) w1) := Lib.hid ⟨b1, fun i hi => by omega, o1⟩
  clear o1 b1
  go_wp2_with fail
  go_loopw [4, 5] (fun s4 s10 wr => ∃ k : Nat, k ≤ len ∧ s10 = .int .i64 k ∧ Hid (FSt Q k w s4 wr)) (fun _ s10 _ => len - (intOf s10).toNat)
  case atStart => exact ⟨0, by omega, rfl, F1⟩
  case round =>
    obtain ⟨k, hk, rfl, HS⟩ := hrel
    obtain ⟨v4a, v4c, h4⟩ := own_len HS.out.row
    subst h4
    have hfl := filL_le Q k HS.out.ok
    by_cases hlt : k < len
    · obtain ⟨b1, o1, hp1, hc1⟩ := (HQ.out.keep (HS.out.bl.mono hB)).mem
      obtain ⟨rfl, hb1⟩ := hp1 (by omega)
      have c0 := hc1 k hlt 0 (by omega)
      have c1 := hc1 k hlt 1 (by omega)
      have c2 := hc1 k hlt 2 (by omega)
      have c3 := hc1 k hlt 3 (by omega)
      have c4 := hc1 k hlt 4 (by omega)
      have OK := Lib.hid ((HQ.out.ok k hlt).keep (HS.out.bl.mono hB))
      obtain ⟨q, hq⟩ : ∃ q, Q k = q := ⟨_, rfl⟩
      have HQK := Lib.hid hq
      rw [hq] at c0 c1 c2 c3 c4 OK
      clear hq hp1 hc1
      obtain ⟨tk, wy, ad, pt, a, n, c, Z⟩ := q
      simp only [Rcd.cell, Nat.add_zero] at c0 c1 c2 c3 c4
      have hki : (k : Int) < len := by omega
      go_wp2_with fail
      refine (rmay45_any tk wy ad pt a n c wr).mono ?_
      rintro e V1 ⟨rfl, bx⟩
      have BV := Lib.hid bx
      have BWV : Hid (Below w.heap.size w V1) := Lib.hid (HS.out.bl.trans (BV.out.mono HS.out.bl.size))
      have lb := World.block_lt_of_cell? _ _ c0
      have e0 := Below.cell' bx lb c0
      have e1 := Below.cell' bx lb c1
      have e2 := Below.cell' bx lb c2
      have e3 := Below.cell' bx lb c3
      have e4 := Below.cell' bx lb c4
      clear bx c0 c1 c2 c3 c4
      cases hm : mayR tk wy n with
      | false =>
        have hno : Hid (¬ allR Q len) := Lib.hid (fun h => by have := h k hlt; unfold okR at this; rw [HQK.out] at this; simp only at this; rw [hm] at this; cases this)
        clear hm
        go_wp2_with fail
        go_ret2
        exact ⟨.inr ⟨hno.out, rfl⟩, BWV.out⟩
      | true =>
        have HM := Lib.hid hm
        have m3 := ((mayR_iff _ _ _).1 hm).2.2.2
        clear hm
        go_wp2_with fail
        refine (rone_any B tk wy ad pt a n c Z V1 (OK.out.keep (BV.out.mono (Nat.le_trans hB HS.out.bl.size))) (Nat.le_trans hB BWV.out.size) HM.out).mono ?_
        rintro e V2 ⟨a5, c5, he5, o5, b5⟩
        simp only at he5 o5
        subst he5
        have hoc : Oct (oneL ⟨tk, wy, ad, pt, a, n, c, Z⟩) := oneL_oct _ ((mayR_iff _ _ _).1 HM.out).2.1 ((mayR_iff _ _ _).1 HM.out).2.2.1 OK.out.z
        obtain ⟨-, a', c', he, hs⟩ := BS.own o5 hoc (by omega)
        cases he
        obtain ⟨a7, c7, V3, A7, B7⟩ := appS elU8 (own_below (own_below HS.out.row BV.out) b5) a5 (19 + n) c5 (u8s (oneL ⟨tk, wy, ad, pt, a, n, c, Z⟩)) hs.nils (by rw [u8s_len, oneL_len, Nat.mul_one]) (fun ad' e' j u hj => by
          have := hs.news' ad' e' j u
          rw [show zs (gz (oneL ⟨tk, wy, ad, pt, a, n, c, Z⟩)) (19 + n) = oneL ⟨tk, wy, ad, pt, a, n, c, Z⟩ by have := zs_gz (oneL ⟨tk, wy, ad, pt, a, n, c, Z⟩); rw [oneL_len] at this; exact this] at this
          exact this hj) (u8s_one _) (by omega) (by omega) (Nat.le_trans BWV.out.size b5.size)
        have HA := Lib.hid A7
        have BB := Lib.hid ((BWV.out.trans (b5.mono BWV.out.size)).trans B7)
        have HF : Hid (filL Q (k + 1) = filL Q k ++ oneL ⟨tk, wy, ad, pt, a, n, c, Z⟩) := Lib.hid (by show filL Q k ++ oneL (Q k) = _; rw [HQK.out])
        have HOK : Hid (allR Q (k + 1)) := Lib.hid (fun i hi => by
          rcases Nat.lt_or_ge i k with h | h
          · exact HS.out.ok i h
          · have : i = k := by omega
            subst this; unfold okR; rw [HQK.out]; exact HM.out)
        clear hs hoc o5 b5 A7 B7 e0 e1 e2 e3 e4
        go_wp2_with (at_builtin; refine wpList_of_append rfl (.tmp 19) (.tmp 24) 56 rfl _ _ _ rfl rfl HA.out.run ?_)
        go_roundw
        case rel => exact ⟨k + 1, by omega, by go_num, Lib.hid ⟨BB.out, HOK.out, by rw [HF.out, u8s_app, List.length_append, oneL_len]; exact HA.out.own⟩⟩
        case measure => simp [intOf] <;> omega
    · have : k = len := by omega
      subst this
      clear hlt
      go_wp2_with fail
      go_ret2
      exact ⟨.inl ⟨HS.out.ok, _, _, _, rfl, rfl, HS.out.row⟩, HS.out.bl⟩
end Go.Proofs.Ytdmbdageohjodaa
