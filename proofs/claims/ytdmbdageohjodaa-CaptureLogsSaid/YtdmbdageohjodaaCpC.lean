/-
  Chapter 45: one record's bytes.
-/
import Derived.Test.YtdmbdageohjodaaCpB
import Derived.Deep.DeepCutAuto
import Derived.IntWalk
namespace Go.Proofs.Ytdmbdageohjodaa
open Go.RowKit
set_option linter.unusedVariables false
set_option linter.unusedSimpArgs false
attribute [local irreducible] wpStill wpQuiet MixC.wpMix MixC.wpPick
attribute [local go_sem] MixC.rdOp MixC.rd MixC.rdUpon MixC.mvUpon

def hdR (r : Rcd) : List Int := putL r.tk 8 ++ [r.wy]
def midR (r : Rcd) : List Int := hdR r ++ putL r.ad 4 ++ putL r.pt 2
def recL (r : Rcd) : List Int := midR r ++ putL r.n 2 ++ zs r.Z r.n
def oneL (r : Rcd) : List Int := recL r ++ putL (smR (gz (recL r)) (17 + r.n)) 2
theorem hdR_len (r : Rcd) : (hdR r).length = 9 := by simp [hdR, putL_len]
theorem midR_len (r : Rcd) : (midR r).length = 15 := by simp [midR, hdR_len, putL_len]
theorem recL_len (r : Rcd) : (recL r).length = 17 + r.n := by simp [recL, midR_len, putL_len, zs_len]; omega
theorem oneL_len (r : Rcd) : (oneL r).length = 19 + r.n := by simp [oneL, recL_len, putL_len]; omega
theorem hdR_oct (r : Rcd) (h0 : 0 ≤ r.wy) (h1 : r.wy < 2) : Oct (hdR r) := (putL_oct _ _).app (fun y hy => by simp at hy; omega)
theorem midR_oct (r : Rcd) (h0 : 0 ≤ r.wy) (h1 : r.wy < 2) : Oct (midR r) := ((hdR_oct r h0 h1).app (putL_oct _ _)).app (putL_oct _ _)
theorem recL_oct {B : Nat} {w : World} (r : Rcd) (h0 : 0 ≤ r.wy) (h1 : r.wy < 2) (hz : BS B w r.a r.n r.c r.Z) : Oct (recL r) := ((midR_oct r h0 h1).app (putL_oct _ _)).app (zs_oct hz)
theorem oneL_oct {B : Nat} {w : World} (r : Rcd) (h0 : 0 ≤ r.wy) (h1 : r.wy < 2) (hz : BS B w r.a r.n r.c r.Z) : Oct (oneL r) := (recL_oct r h0 h1 hz).app (putL_oct _ _)
theorem smR_congr {Z Z' : Nat → Int} {n : Nat} (h : ∀ i, i < n → Z i = Z' i) : smR Z n = smR Z' n := by unfold smR; rw [sumZ_congr h]
/-- octets.Put, its length named -/
theorem put_k (k : Nat) (a : Option Addr) (n cap : Nat) (L : List Int) (base m : Nat) (x : Int) (w : World) (hk : n + m = k) (ho : w.ownsRow base 5 1 (.slice a n cap) n (u8s L)) (hO : Oct L) (hn : n ≤ 100000) (hm1 : 1 ≤ m) (hm2 : m ≤ 8) (hx0 : 0 ≤ x) (hx1 : x ≤ 18446744073709551615) :
    Calls Try.prog 96 #[.slice a n cap, .int .i64 m, .int .u64 x] w fun e w' => ∃ a' c', e = .returned (.slice a' k c') ∧ w'.ownsRow w.heap.size 5 1 (.slice a' k c') k (u8s (L ++ putL x m)) ∧ Below w.heap.size w w' := by
  subst hk; exact put_l a n cap L base m x w ho hO hn hm1 hm2 hx0 hx1
theorem rput_k (k : Nat) (a : Option Addr) (n cap : Nat) (L : List Int) (base m : Nat) (x : Int) (w : World) (hk : n + m = k) (ho : w.ownsRow base 5 1 (.slice a n cap) n (u8s L)) (hO : Oct L) (hn : n ≤ 100000) (hm1 : 1 ≤ m) (hm2 : m ≤ 8) (hx0 : 0 ≤ x) (hx1 : x ≤ 18446744073709551615) :
    Calls Try.prog 75 #[.slice a n cap, .int .i64 m, .int .u64 x] w fun e w' => ∃ a' c', e = .returned (.slice a' k c') ∧ w'.ownsRow w.heap.size 5 1 (.slice a' k c') k (u8s (L ++ putL x m)) ∧ Below w.heap.size w w' := by
  subst hk; exact rput_l a n cap L base m x w ho hO hn hm1 hm2 hx0 hx1
def rcO (tk wy ad pt : Int) (a : Option Addr) (n c : Nat) : Obj := .cells #[.int .i64 tk, .int .i64 wy, .int .u32 ad, .int .u16 pt, .slice a n c] 72 (0, 0)
def RcPost (r : Rcd) (w : World) (e : Ending) (w' : World) : Prop := ∃ a c, e = .returned (.slice a (19 + r.n) c) ∧ w'.ownsRow w.heap.size 5 1 (.slice a (19 + r.n) c) (19 + r.n) (u8s (oneL r)) ∧ Below w.heap.size w w'
set_option maxRecDepth 100000 in
set_option maxHeartbeats 4000000 in
theorem record_any (B : Nat) (tk wy ad pt : Int) (a : Option Addr) (n c : Nat) (Z : Nat → Int) (w : World) (ok : RcdOk B w ⟨tk, wy, ad, pt, a, n, c, Z⟩) (hB : B ≤ w.heap.size) (hm : mayR tk wy n = true) :
    Calls Try.prog 70 #[.agg #[.int .i64 tk, .int .i64 wy, .int .u32 ad, .int .u16 pt, .slice a n c]] w (RcPost ⟨tk, wy, ad, pt, a, n, c, Z⟩ w) := by
  obtain ⟨m0, m1, m2, m3⟩ := (mayR_iff _ _ _).1 hm
  have k1 := ok.t1
  have k2 := ok.a0
  have k3 := ok.a1
  have k4 := ok.p0
  have k5 := ok.p1
  simp only at k1 k2 k3 k4 k5
  have OK := Lib.hid ok
  have q1 : IntKind.u64.wrap tk = tk := by rw [IntKind.wrap_u64]; omega
  have q2 : IntKind.u8.wrap wy = wy := by rw [IntKind.wrap_u8]; omega
  clear ok hm
  go_enter Try.func70, Try.ntmps70
  go_upto_region 1 with (fail)
  generalize hW : World.alloc w _ = W
  obtain ⟨g, hg⟩ : ∃ g, g = w.heap.size := ⟨_, rfl⟩
  have C0 : Hid (HasO g (rcO tk wy ad pt a n c) W) := Lib.hid (by rw [← hW, hg]; exact alloc_blk_new)
  have BW : Hid (Below w.heap.size w W) := Lib.hid (by rw [← hW]; exact (Below.refl _ _).alloc (Nat.le_refl _) _)
  rw [← hg]
  clear hW hg
  go_cut [3] (fun s3 wx => ∃ a1 c1, s3 = .slice a1 9 c1 ∧ Hid (Below W.heap.size W wx) ∧ Hid (wx.ownsRow W.heap.size 5 1 (.slice a1 9 c1) 9 (u8s (hdR ⟨tk, wy, ad, pt, a, n, c, Z⟩))))
  case first =>
    have hne : Nonempty { w' : World // HasO g (rcO tk wy ad pt a n c) w' } := ⟨⟨_, C0.out⟩⟩
    have o0 : ∀ z : { w' : World // HasO g (rcO tk wy ad pt a n c) w' }, z.1.cell? ⟨g, 0, none⟩ = some (.int .i64 tk) := fun z => cell_blk z.2
    have o1 : ∀ z : { w' : World // HasO g (rcO tk wy ad pt a n c) w' }, z.1.cell? ⟨g, 1, none⟩ = some (.int .i64 wy) := fun z => cell_blk z.2
    have C1 : Hid (HasO g (rcO tk wy ad pt a n c) W.drew) := Lib.hid C0.out
    have hput := put_l0 8 tk W.drew (by omega) (by omega) m0 (by omega)
    have HPUT := Lib.hid hput
    have hput2 := put_l0 8 tk (W.drew.alloc (.cells #[.int .u8 wy] 5)) (by omega) (by omega) m0 (by omega)
    have HPUT2 := Lib.hid hput2
    clear hput hput2
    refine MixC.wp_region_pick [3, 7, 8] (HasO g (rcO tk wy ad pt a n c)) C1.out (by kernel_rfl) ?_
    simp only [List.length_cons, List.length_nil, Nat.reduceAdd]
    (refine MixC.pick_read 0 rfl (by kernel_rfl) rfl (by kernel_rfl) (by kernel_rfl) C1.out (fun K hK => ?_); go_simp; refine hK _ ?_; clear hK K)
    (refine MixC.pick_read 1 rfl (by kernel_rfl) rfl (by kernel_rfl) (by kernel_rfl) C1.out (fun K hK => ?_); go_simp; refine hK _ ?_; clear hK K)
    (refine MixC.pick_read 2 rfl (by kernel_rfl) rfl (by kernel_rfl) (by kernel_rfl) C1.out (fun K hK => ?_); go_simp; refine hK _ ?_; clear hK K)
    (refine MixC.pick_read 4 rfl (by kernel_rfl) rfl (by kernel_rfl) (by kernel_rfl) C1.out (fun K hK => ?_); go_simp; refine hK _ ?_; clear hK K)
    (refine MixC.pick_read 5 rfl (by kernel_rfl) rfl (by kernel_rfl) (by kernel_rfl) C1.out (fun K hK => ?_); go_simp; refine hK _ ?_; clear hK K)
    (refine MixC.pick_read 6 rfl (by kernel_rfl) rfl (by kernel_rfl) (by kernel_rfl) C1.out (fun K hK => ?_); go_simp; refine hK _ ?_; clear hK K)
    refine MixC.pick_two 3 7 rfl rfl rfl rfl (by kernel_rfl) (fun K hK => ?_) (fun K hK => ?_)
    · go_simp
      refine HPUT.out.mono ?_
      rintro e V ⟨a1, c1, rfl, ho, hb⟩
      have D1 : Hid (HasO g (rcO tk wy ad pt a n c) V) := Lib.hid (Below.blk hb C1.out (lt_of_block C1.out))
      obtain ⟨a2, c2, V2, A2, B2⟩ := app1 elU8 ho [.int .u8 wy] rfl (one_cell rfl) (by omega) (by omega) hb.size
      have D2 : Hid (HasO g (rcO tk wy ad pt a n c) (V.alloc (.cells #[.int .u8 wy] 5))) := Lib.hid ((alloc_blk_old (lt_of_block D1.out)).trans D1.out)
      have D3 : Hid (HasO g (rcO tk wy ad pt a n c) V2) := Lib.hid (A2.but.blk D1.out (fun e => by have := (ho.lt g e).1; have := lt_of_block C1.out; omega))
      have HA := Lib.hid A2
      have BV : Hid (Below W.heap.size W V2) := Lib.hid ((Below.refl _ W).drew.trans (hb.trans B2))
      clear ho hb A2 B2
      refine ⟨_, rfl, D1.out, hK _ _ ?_⟩
      clear hK K
      refine MixC.pick_move 7 rfl rfl (by kernel_rfl) (fun K hK => ?_)
      go_simp
      refine ⟨D2.out, hK _ _ ?_⟩
      clear hK K
      refine MixC.pick_move 8 rfl rfl (by kernel_rfl) (fun K hK => ?_)
      refine Eq.mpr (if_pos rfl) ?_
      refine mv_app (s := .tmp 7) (x := .tmp 11) (t := 56) rfl rfl rfl HA.out.run D3.out (hK _ _ ?_)
      clear hK K
      (refine MixC.pick_read 9 rfl (by kernel_rfl) rfl (by kernel_rfl) (by kernel_rfl) D3.out (fun K hK => ?_); go_simp; refine hK _ ?_; clear hK K)
      refine MixC.pick_nil (by kernel_rfl) ?_
      clear o0 o1 hne
      go_wp2_with fail
      go_meet
      exact ⟨a2, c2, rfl, BV, Lib.hid (by unfold hdR; rw [u8s_app]; exact HA.out.own)⟩
    · go_simp
      have D0 : Hid (HasO g (rcO tk wy ad pt a n c) (W.drew.alloc (.cells #[.int .u8 wy] 5))) := Lib.hid ((alloc_blk_old (lt_of_block C1.out)).trans C1.out)
      refine ⟨D0.out, hK _ _ ?_⟩
      clear hK K
      refine MixC.pick_move 3 rfl rfl (by kernel_rfl) (fun K hK => ?_)
      go_simp
      refine HPUT2.out.mono ?_
      rintro e V ⟨a1, c1, rfl, ho, hb⟩
      have D1 : Hid (HasO g (rcO tk wy ad pt a n c) V) := Lib.hid (Below.blk hb D0.out (lt_of_block D0.out))
      have hg7 : V.heap[W.heap.size]? = some (.cells #[.int .u8 wy] 5 (0, 0)) := Below.blk hb (alloc_blk_new (w := W.drew)) (by simp)
      have bwv : Below W.heap.size W V := ((Below.refl _ W).drew.alloc (Nat.le_refl _) _).trans (hb.mono (by simp))
      obtain ⟨a2, c2, V2, A2, B2⟩ := appS elU8 ho (some ⟨W.heap.size, 0, none⟩) 1 1 [.int .u8 wy] (fun e => by cases e) rfl (fun ad e j u hj => by
        cases e
        rw [addr_add, Nat.zero_add, cell_blk hg7, ← hj]
        simp) (one_cell rfl) (by omega) (by omega) hb.size
      have D3 : Hid (HasO g (rcO tk wy ad pt a n c) V2) := Lib.hid (A2.but.blk D1.out (fun e => by have := (ho.lt g e).1; have := lt_of_block D0.out; omega))
      have HA := Lib.hid A2
      have BV : Hid (Below W.heap.size W V2) := Lib.hid (bwv.trans (B2.mono (by simp)))
      have O2 : Hid (V2.ownsRow W.heap.size 5 1 (.slice a2 9 c2) 9 (u8s (hdR ⟨tk, wy, ad, pt, a, n, c, Z⟩))) := Lib.hid (by unfold hdR; rw [u8s_app]; exact World.ownsRow.mono A2.own (by simp))
      clear ho hb A2 B2 hg7 bwv
      refine ⟨_, rfl, D1.out, hK _ _ ?_⟩
      clear hK K
      refine MixC.pick_move 8 rfl rfl (by kernel_rfl) (fun K hK => ?_)
      refine Eq.mpr (if_pos rfl) ?_
      refine mv_app (s := .tmp 7) (x := .tmp 11) (t := 56) rfl rfl rfl HA.out.run D3.out (hK _ _ ?_)
      clear hK K
      (refine MixC.pick_read 9 rfl (by kernel_rfl) rfl (by kernel_rfl) (by kernel_rfl) D3.out (fun K hK => ?_); go_simp; refine hK _ ?_; clear hK K)
      refine MixC.pick_nil (by kernel_rfl) ?_
      clear o0 o1 hne
      go_wp2_with fail
      go_meet
      exact ⟨a2, c2, rfl, BV, O2⟩
  case rest =>
    obtain ⟨a3, c3, rfl, B3, O3⟩ := hcut
    have hd0 : Oct (hdR ⟨tk, wy, ad, pt, a, n, c, Z⟩) := hdR_oct _ m1 m2
    have q3 : IntKind.u64.wrap ad = ad := by rw [IntKind.wrap_u64]; omega
    have q4 : IntKind.u64.wrap pt = pt := by rw [IntKind.wrap_u64]; omega
    have q5 : IntKind.u64.wrap (n : Int) = n := by rw [IntKind.wrap_u64]; omega
    have G3 : Hid (HasO g (rcO tk wy ad pt a n c) wc.drew) := Lib.hid (Below.blk (B3.out.trans (Below.refl _ wc).drew) C0.out (lt_of_block C0.out))
    have HP1 := Lib.hid (put_k 13 a3 9 c3 (hdR ⟨tk, wy, ad, pt, a, n, c, Z⟩) W.heap.size 4 ad wc.drew rfl O3.out hd0 (by omega) (by omega) (by omega) k2 (by omega))
    have HD0 := Lib.hid hd0
    have ltg := lt_of_block C0.out
    clear hd0
    go_upto_region 2 with (fail)
    have hne : Nonempty { w' : World // HasO g (rcO tk wy ad pt a n c) w' } := ⟨⟨_, G3.out⟩⟩
    have o2 : ∀ z : { w' : World // HasO g (rcO tk wy ad pt a n c) w' }, z.1.cell? ⟨g, 2, none⟩ = some (.int .u32 ad) := fun z => cell_blk z.2
    have o3 : ∀ z : { w' : World // HasO g (rcO tk wy ad pt a n c) w' }, z.1.cell? ⟨g, 3, none⟩ = some (.int .u16 pt) := fun z => cell_blk z.2
    refine MixC.wp_region_mix [5, 10] (HasO g (rcO tk wy ad pt a n c)) G3.out (by kernel_rfl) (by kernel_rfl) (by kernel_rfl) ?_
    (iterate 5 (refine MixC.mix_read rfl (fun K hK => ?_); go_simp; refine hK _ ?_; clear hK K))
    refine MixC.mix_move rfl (fun K hK => ?_)
    go_simp
    refine HP1.out.mono ?_
    rintro e V1 ⟨a4, c4, rfl, o4, b4⟩
    have G4 : Hid (HasO g (rcO tk wy ad pt a n c) V1) := Lib.hid (Below.blk b4 G3.out (lt_of_block G3.out))
    have BV1 : Hid (Below wc.heap.size wc V1) := Lib.hid ((Below.refl _ wc).drew.trans b4)
    have HP2 := Lib.hid (put_k 15 a4 13 c4 (hdR ⟨tk, wy, ad, pt, a, n, c, Z⟩ ++ putL ad 4) _ 2 pt V1 rfl o4 (HD0.out.app (putL_oct _ _)) (by omega) (by omega) (by omega) k4 (by omega))
    clear o4 b4
    refine ⟨_, rfl, G4.out, hK _ _ ?_⟩
    clear hK K
    (iterate 4 (refine MixC.mix_read rfl (fun K hK => ?_); go_simp; refine hK _ ?_; clear hK K))
    refine MixC.mix_move rfl (fun K hK => ?_)
    go_simp
    refine HP2.out.mono ?_
    rintro e V2 ⟨a5, c5, rfl, o5, b5⟩
    have G5 : Hid (HasO g (rcO tk wy ad pt a n c) V2) := Lib.hid (Below.blk b5 G4.out (lt_of_block G4.out))
    have BV2 : Hid (Below wc.heap.size wc V2) := Lib.hid (BV1.out.trans (b5.mono BV1.out.size))
    have HP3 := Lib.hid (put_k 17 a5 15 c5 (midR ⟨tk, wy, ad, pt, a, n, c, Z⟩) _ 2 n V2.drew rfl o5 (midR_oct _ m1 m2) (by omega) (by omega) (by omega) (by omega) (by omega))
    clear o5 b5
    refine ⟨_, rfl, G5.out, hK _ _ ?_⟩
    clear hK K
    (refine MixC.mix_read rfl (fun K hK => ?_); go_simp; refine hK _ ?_; clear hK K)
    refine MixC.mix_nil ?_
    clear o2 o3 hne
    go_upto_region 3 with (fail)
    have hne : Nonempty { w' : World // HasO g (rcO tk wy ad pt a n c) w' } := ⟨⟨_, G3.out⟩⟩
    have o4 : ∀ z : { w' : World // HasO g (rcO tk wy ad pt a n c) w' }, z.1.cell? ⟨g, 4, none⟩ = some (.slice a n c) := fun z => cell_blk z.2
    have G5' : Hid (HasO g (rcO tk wy ad pt a n c) V2.drew) := Lib.hid G5.out
    refine MixC.wp_region_mix [5, 8] (HasO g (rcO tk wy ad pt a n c)) G5'.out (by kernel_rfl) (by kernel_rfl) (by kernel_rfl) ?_
    (iterate 5 (refine MixC.mix_read rfl (fun K hK => ?_); go_simp; refine hK _ ?_; clear hK K))
    refine MixC.mix_move rfl (fun K hK => ?_)
    go_simp
    refine HP3.out.mono ?_
    rintro e V3 ⟨a6, c6, rfl, o6, b6⟩
    have G6 : Hid (HasO g (rcO tk wy ad pt a n c) V3) := Lib.hid (Below.blk b6 G5.out (lt_of_block G5.out))
    have BV3 : Below wc.heap.size wc V3 := BV2.out.trans (((Below.refl _ V2).drew.trans b6).mono BV2.out.size)
    have BWV3 : Below w.heap.size w V3 := (BW.out.trans (B3.out.mono BW.out.size)).trans (BV3.mono (Nat.le_trans BW.out.size B3.out.size))
    have src : BS B V3 a n c Z := OK.out.z.keep (BWV3.mono hB)
    obtain ⟨a7, c7, V4, A7, B7⟩ := appS elU8 o6 a n c (u8s (zs Z n)) src.nils (by rw [u8s_len, zs_len, Nat.mul_one]) src.news' (u8s_one _) (by omega) (by omega) b6.size
    have G7 : Hid (HasO g (rcO tk wy ad pt a n c) V4) := Lib.hid (A7.but.blk G6.out (fun e => by have := (o6.lt g e).1; have := lt_of_block G5'.out; omega))
    have BWV4 : Below w.heap.size w V4 := BWV3.trans (B7.mono (Nat.le_trans (Nat.le_trans BW.out.size B3.out.size) BV2.out.size))
    have own7 : V4.ownsRow w.heap.size 5 1 (.slice a7 (17 + n) c7) (17 + n) (u8s (recL ⟨tk, wy, ad, pt, a, n, c, Z⟩)) := by
      unfold recL
      rw [u8s_app]
      exact World.ownsRow.mono A7.own (Nat.le_trans (Nat.le_trans BW.out.size B3.out.size) BV2.out.size)
    have hoc := recL_oct ⟨tk, wy, ad, pt, a, n, c, Z⟩ m1 m2 OK.out.z
    obtain ⟨-, a', c', he, hs⟩ := BS.own own7 hoc (by omega)
    cases he
    have HSUM := Lib.hid (sum45_any V4.heap.size a7 (17 + n) c7 (gz (recL ⟨tk, wy, ad, pt, a, n, c, Z⟩)) V4 hs (by omega))
    have sb := smR_bd (gz (recL ⟨tk, wy, ad, pt, a, n, c, Z⟩)) (17 + n)
    have HP4 := Lib.hid (put_k (19 + n) a7 (17 + n) c7 (recL ⟨tk, wy, ad, pt, a, n, c, Z⟩) _ 2 (smR (gz (recL ⟨tk, wy, ad, pt, a, n, c, Z⟩)) (17 + n)) V4 (by omega) own7 hoc (by omega) (by omega) (by omega) sb.1 (by omega))
    have HA7 := Lib.hid A7
    have BB := Lib.hid BWV4
    clear o6 b6 BV3 BWV3 src A7 B7 BWV4 own7 hoc hs sb
    refine ⟨_, rfl, G6.out, hK _ _ ?_⟩
    clear hK K
    (iterate 2 (refine MixC.mix_read rfl (fun K hK => ?_); go_simp; refine hK _ ?_; clear hK K))
    refine MixC.mix_move rfl (fun K hK => ?_)
    refine Eq.mpr (if_pos rfl) ?_
    refine mv_app (s := .tmp 29) (x := .tmp 31) (t := 56) rfl rfl rfl HA7.out.run G7.out (hK _ _ ?_)
    clear hK K
    (refine MixC.mix_read rfl (fun K hK => ?_); go_simp; refine hK _ ?_; clear hK K)
    refine MixC.mix_nil ?_
    clear o4 hne
    go_wp2_with fail
    refine HSUM.out.mono ?_
    rintro e w' ⟨rfl, rfl⟩
    go_wp2_with fail
    refine HP4.out.mono ?_
    rintro e V5 ⟨a8, c8, rfl, o8, b8⟩
    have O8 := Lib.hid o8
    have B8 := Lib.hid (BB.out.trans (b8.mono BB.out.size))
    clear o8 b8
    go_wp2_with fail
    go_ret
    exact ⟨a8, c8, rfl, World.ownsRow.mono O8.out BB.out.size, B8.out⟩
end Go.Proofs.Ytdmbdageohjodaa
