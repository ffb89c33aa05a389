/-
  The law CaptureLogs.
-/
import Derived.Test.YtdmbdageohjodaaLgD
import Derived.Deep.DeepCutAuto
namespace Go.Proofs.Ytdmbdageohjodaa
open Go.RowKit
set_option linter.unusedVariables false
set_option linter.unusedSimpArgs false
attribute [local irreducible] wpStill wpQuiet MixC.wpMix MixC.wpPick MixC.wpPickT
attribute [local go_sem] MixC.rdOp MixC.rd MixC.rdUpon MixC.mvUpon

structure LL (B g : Nat) (room : Int) (R : List Rcd) (L : List Sl) (a : Option Addr) (c : Nat) (ak : Option Addr) (ck : Nat) (w wr : World) : Prop where
  bl : Below w.heap.size w wr
  log : LogS g room L a c wr
  row : wr.ownsRow w.heap.size 72 5 (.slice ak R.length ck) R.length (rowL R)
  lnk : Lnk L R
  ok : ∀ r ∈ R, RcdOk w.heap.size w r ∧ okR r
  fit : tot L ≤ 999994
  gw : w.heap.size ≤ g
theorem LL.keep {B g : Nat} {room : Int} {R : List Rcd} {L : List Sl} {a : Option Addr} {c : Nat} {ak : Option Addr} {ck : Nat} {w wr w' : World} (h : LL B g room R L a c ak ck w wr) (hb : Below wr.heap.size wr w') : LL B g room R L a c ak ck w w' :=
  ⟨h.bl.trans (hb.mono h.bl.size), h.log.keep hb, own_below h.row hb, h.lnk, h.ok, h.fit, h.gw⟩
theorem But.below' {g B : Nat} {w w' : World} (h : But (some g) w w') (hg : B ≤ g) (hB : B ≤ w.heap.size) : Below B w w' := h.below hB (fun k e => by injection e with e; omega)
theorem sel_ok {B : Nat} {w : World} {Q : Nat → Rcd} {len : Nat} {p : Rcd → Bool} (ok : ∀ i, i < len → RcdOk B w (Q i)) : ∀ i, i < (selL p Q len).length → RcdOk B w (fnR (selL p Q len) i) := fun i hi => by
  have h := fnR_mem hi
  have h2 : fnR (selL p Q len) i ∈ (List.range len).map Q := (List.mem_filter.1 h).1
  obtain ⟨j, hj, e⟩ := List.mem_map.1 h2
  rw [← e]
  exact ok j (List.mem_range.1 hj)
theorem sel_two {base n : Nat} {a : Option Addr} {c : Nat} {w : World} {L : List Rcd} (h : w.ownsRow base 72 5 (.slice a n c) n (rowL L)) (hn : n = L.length) (hb : n ≤ 10000) (ok : ∀ i, i < L.length → RcdOk w.heap.size w (fnR L i)) : Rcds w.heap.size w a n c (fnR L) := by
  subst hn
  exact sel_rcds h hb ok
structure SL2 (lo hi xa xp : Int) (Q : Nat → Rcd) (w5 : World) (k n1 n2 : Nat) (ao : Option Addr) (cs : Nat) (at' : Option Addr) (ct : Nat) (wx : World) : Prop where
  e1 : n1 = (selL (inB lo hi) Q k).length
  e2 : n2 = (selL (inO xa xp) Q k).length
  bl : Below w5.heap.size w5 wx
  r1 : wx.ownsRow w5.heap.size 72 5 (.slice ao n1 cs) n1 (rowL (selL (inB lo hi) Q k))
  r2 : wx.ownsRow w5.heap.size 72 5 (.slice at' n2 ct) n2 (rowL (selL (inO xa xp) Q k))
  ap : Apart (.slice ao n1 cs) (.slice at' n2 ct)
/-- with one more looked at for the first list -/
structure SL3 (lo hi xa xp : Int) (Q : Nat → Rcd) (w5 : World) (k n1 n2 : Nat) (ao : Option Addr) (cs : Nat) (at' : Option Addr) (ct : Nat) (wx : World) : Prop where
  e1 : n1 = (selL (inB lo hi) Q (k + 1)).length
  e2 : n2 = (selL (inO xa xp) Q k).length
  bl : Below w5.heap.size w5 wx
  r1 : wx.ownsRow w5.heap.size 72 5 (.slice ao n1 cs) n1 (rowL (selL (inB lo hi) Q (k + 1)))
  r2 : wx.ownsRow w5.heap.size 72 5 (.slice at' n2 ct) n2 (rowL (selL (inO xa xp) Q k))
  ap : Apart (.slice ao n1 cs) (.slice at' n2 ct)
set_option maxRecDepth 100000 in
set_option maxHeartbeats 8000000 in
theorem CaptureLogs.walk (room : Int) (v : Value) (lo hi : Int) (u : Value) (w : World) (hro : (Lit.int .i64 room).wf = true) (r : Reads Try.prog w 6 54 v) (hlo : (Lit.int .i64 lo).wf = true) (hhi : (Lit.int .i64 hi).wf = true) (hu : ArgS Try.prog w 70 u) :
    Calls Try.prog 10 #[.int .i64 room, v, .int .i64 lo, .int .i64 hi, u] w fun e w' => e = .returned (.bool true) ∧ Below w.heap.size w w' := by
  obtain ⟨a, len, cap, Q, rfl, hb⟩ := rcds_of r
  have HB := Lib.hid hb
  have hle := hb.le
  have hmx := hb.max
  obtain ⟨r0, r1⟩ := bounds_i64 hro
  obtain ⟨l0, l1⟩ := bounds_i64 hlo
  obtain ⟨h0, h1⟩ := bounds_i64 hhi
  obtain ⟨cs, rfl, hcs⟩ := hu
  obtain ⟨hsz, hrd⟩ := hcs 2 [44, 33] (by kernel_rfl)
  obtain ⟨v0, hv0, rv0⟩ := hrd 0 _ rfl
  obtain ⟨v1, hv1, rv1⟩ := hrd 1 _ rfl
  obtain ⟨xa, rfl, wa⟩ := reads_int Try.underlying44 rv0
  obtain ⟨xp, rfl, wp⟩ := reads_int Try.underlying33 rv1
  obtain rfl := arr2 hsz hv0 hv1
  clear hb r hro hlo hhi hcs hrd hsz hv0 hv1 rv0 rv1 wa wp
  go_enter Try.func10, Try.ntmps10
  go_wp2_with fail
  obtain ⟨W0, hW0⟩ : ∃ W0, w.alloc (.cells #[.int .u32 xa, .int .u16 xp] 70) = W0 := ⟨_, rfl⟩
  obtain ⟨q, hq⟩ : ∃ q, q = w.heap.size := ⟨_, rfl⟩
  rw [hW0, ← hq]
  have B0 : Hid (Below w.heap.size w W0) := Lib.hid (by rw [← hW0]; exact (Below.refl _ _).alloc (Nat.le_refl _) _)
  have TP : Hid (W0.heap[q]? = some (.cells #[.int .u32 xa, .int .u16 xp] 70 (0, 0))) := Lib.hid (by rw [← hW0, hq]; exact alloc_blk_new)
  have HQW : Hid (w.heap.size ≤ q) := Lib.hid (by omega)
  clear hW0 hq
  refine (alive45_any W0).mono ?_
  rintro e w1 ⟨rfl, b1⟩
  have T1 := Lib.hid (Below.blk b1 TP.out (lt_of_block TP.out))
  have B1 := Lib.hid (B0.out.trans (b1.mono B0.out.size))
  clear b1
  go_wp2_with fail
  refine (great45_any w.heap.size a len cap Q w1 (HB.out.keep B1.out) B1.out.size).mono ?_
  rintro e w2 ⟨g, rfl, hg, b2⟩
  have T2 := Lib.hid (Below.blk b2 T1.out (lt_of_block T1.out))
  have B2 := Lib.hid (B1.out.trans (b2.mono B1.out.size))
  clear b2
  cases g with
  | true =>
    go_wp2_with fail
    go_ret
    exact ⟨rfl, B2.out⟩
  | false =>
    have h60 : len ≤ 60 := hg rfl
    clear hg
    by_cases hroom : 1000000 < room
    · have d1 : decide (1000000 < room) = true := by simpa using hroom
      go_wp2_with fail
      go_ret
      exact ⟨rfl, B2.out⟩
    · have d1 : decide (1000000 < room) = false := by simpa using hroom
      have hrm : room ≤ 1000000 := by omega
      go_wp2_with fail
      refine (newLog_any room w2).mono ?_
      rintro e w3 ⟨rfl, hw3⟩
      obtain ⟨g, hg⟩ : ∃ g, w2.heap.size = g := ⟨_, rfl⟩
      rw [hg]
      have b3 : Below w2.heap.size w2 w3 := by rw [hw3]; exact (Below.refl _ _).alloc (Nat.le_refl _) _
      have B3 := Lib.hid (B2.out.trans (b3.mono B2.out.size))
      have T3 := Lib.hid (Below.blk b3 T2.out (lt_of_block T2.out))
      have HGQ : Hid (q < g) := Lib.hid (by have := lt_of_block T2.out; omega)
      have I3 : Hid (LL w.heap.size g room [] [] none 0 none 0 w w3) := Lib.hid ⟨B3.out, ⟨by rw [hw3, ← hg]; exact alloc_blk_new, World.ownsRow_nil _ _ _ _, fun s hs => (by cases hs)⟩, World.ownsRow_nil _ _ _ _, rfl, fun r hr => (by cases hr), Nat.zero_le _, by have := B2.out.size; omega⟩
      clear d1 hroom hw3 hg b3
      go_wp2_with fail
      go_loopw [12, 13] (fun s12 s13 wr => ∃ (i : Nat) (R : List Rcd) (L : List Sl) (al : Option Addr) (cl : Nat) (ak : Option Addr) (ck : Nat), i ≤ len ∧ s13 = .int .i64 i ∧ s12 = .slice ak R.length ck ∧ Hid (R.length ≤ i) ∧ Hid (wr.heap[q]? = some (.cells #[.int .u32 xa, .int .u16 xp] 70 (0, 0))) ∧ Hid (LL w.heap.size g room R L al cl ak ck w wr)) (fun _ s13 _ => len - (intOf s13).toNat)
      case atStart => exact ⟨0, [], [], none, 0, none, 0, by omega, rfl, rfl, Lib.hid (by simp), T3, I3⟩
      case round =>
        obtain ⟨i, R, L, al, cl, ak, ck, hi', rfl, rfl, HRI, HT, HS⟩ := hrel
        by_cases hlt : i < len
        · obtain ⟨b1, o1, hp1, hc1⟩ := (HB.out.keep HS.out.bl).mem
          obtain ⟨rfl, hb1⟩ := hp1 (by omega)
          have c0 := hc1 i hlt 0 (by omega)
          have c1 := hc1 i hlt 1 (by omega)
          have c2 := hc1 i hlt 2 (by omega)
          have c3 := hc1 i hlt 3 (by omega)
          have c4 := hc1 i hlt 4 (by omega)
          have OK := Lib.hid (HB.out.ok i hlt)
          obtain ⟨y, hy⟩ : ∃ y, Q i = y := ⟨_, rfl⟩
          rw [hy] at c0 c1 c2 c3 c4 OK
          clear hy hp1 hc1
          obtain ⟨tk, wy, ad, pt, ra, rn, rc, rZ⟩ := y
          simp only [Rcd.cell, Nat.add_zero] at c0 c1 c2 c3 c4
          have hki : (i : Int) < len := by omega
          have CC := Lib.hid (And.intro c0 (And.intro c1 (And.intro c2 (And.intro c3 c4))))
          cases hm : mayR tk wy rn with
          | false =>
            have HP := Lib.hid (put_bad g tk wy ad pt ra rn rc wr hm)
            have HM := Lib.hid (rmay45_any tk wy ad pt ra rn rc)
            rw [hm] at HM
            clear hm
            go_wp2_with fail
            refine HP.out.mono ?_
            rintro e V1 ⟨rfl, b4⟩
            have hb1w : b1 < wr.heap.size := World.block_lt_of_cell? _ _ c0
            have x0 := Below.cell' b4 hb1w CC.out.1
            have x1 := Below.cell' b4 hb1w CC.out.2.1
            have x2 := Below.cell' b4 hb1w CC.out.2.2.1
            have x3 := Below.cell' b4 hb1w CC.out.2.2.2.1
            have x4 := Below.cell' b4 hb1w CC.out.2.2.2.2
            have B4 := Lib.hid b4
            clear b4 c0 c1 c2 c3 c4
            go_wp2_with fail
            refine (HM.out V1).mono ?_
            rintro e V2 ⟨rfl, b5⟩
            have B5 := Lib.hid (B4.out.trans (b5.mono B4.out.size))
            clear b5 x0 x1 x2 x3 x4
            go_wp2_with fail
            go_roundw
            case rel => exact ⟨i + 1, R, L, al, cl, ak, ck, by omega, by go_num, rfl, Lib.hid (by have := HRI.out; omega), Lib.hid (Below.blk B5.out HT.out (lt_of_block HT.out)), Lib.hid (HS.out.keep B5.out)⟩
            case measure => simp [intOf] <;> omega
          | true =>
            have m3 := ((mayR_iff _ _ _).1 hm).2.2.2
            have HM := Lib.hid (rmay45_any tk wy ad pt ra rn rc)
            rw [hm] at HM
            have HMM := Lib.hid hm
            by_cases hfit : room < 6 + (19 + (rn : Int))
            · have HP := Lib.hid (put_full w.heap.size g room L al cl tk wy ad pt ra rn rc rZ wr HS.out.log (OK.out.keep HS.out.bl) HS.out.bl.size hm hfit)
              have d2 : decide (room < 6 + (19 + (rn : Int))) = true := by simpa using hfit
              have d3 : decide (room < 6 + ((19 + rn : Nat) : Int)) = true := by simp; omega
              clear hm hfit
              go_wp2_with fail
              refine HP.out.mono ?_
              rintro e V1 ⟨rfl, b4⟩
              have hb1w : b1 < wr.heap.size := World.block_lt_of_cell? _ _ c0
              have x0 := Below.cell' b4 hb1w CC.out.1
              have x1 := Below.cell' b4 hb1w CC.out.2.1
              have x2 := Below.cell' b4 hb1w CC.out.2.2.1
              have x3 := Below.cell' b4 hb1w CC.out.2.2.2.1
              have x4 := Below.cell' b4 hb1w CC.out.2.2.2.2
              have B4 := Lib.hid b4
              clear b4 c0 c1 c2 c3 c4
              go_wp2_with fail
              refine (HM.out V1).mono ?_
              rintro e V2 ⟨rfl, b5⟩
              have B5 := Lib.hid (B4.out.trans (b5.mono B4.out.size))
              have BW5 := Lib.hid (HS.out.bl.trans (B5.out.mono HS.out.bl.size))
              clear b5 x0 x1 x2 x3 x4
              have x0 := Below.cell' B5.out hb1w CC.out.1
              have x1 := Below.cell' B5.out hb1w CC.out.2.1
              have x2 := Below.cell' B5.out hb1w CC.out.2.2.1
              have x3 := Below.cell' B5.out hb1w CC.out.2.2.2.1
              have x4 := Below.cell' B5.out hb1w CC.out.2.2.2.2
              go_wp2_with fail
              refine (rone_any w.heap.size tk wy ad pt ra rn rc rZ V2 (OK.out.keep BW5.out) BW5.out.size HMM.out).mono ?_
              rintro e V3 ⟨av, cv, he, -, bv⟩
              simp only at he
              subst he
              have B6 := Lib.hid (B5.out.trans (bv.mono B5.out.size))
              clear bv x0 x1 x2 x3 x4
              go_wp2_with fail
              go_roundw
              case rel => exact ⟨i + 1, R, L, al, cl, ak, ck, by omega, by go_num, rfl, Lib.hid (by have := HRI.out; omega), Lib.hid (Below.blk B6.out HT.out (lt_of_block HT.out)), Lib.hid (HS.out.keep B6.out)⟩
              case measure => simp [intOf] <;> omega
            · have hLR := HS.out.lnk.len
              have hRi := HRI.out
              have hfit0 := HS.out.fit
              have HP := Lib.hid (put_good45 w.heap.size g room L al cl tk wy ad pt ra rn rc rZ wr HS.out.log (OK.out.keep HS.out.bl) HS.out.bl.size hm (by omega) hrm (by omega) (by omega))
              have d2 : decide (room < 6 + (19 + (rn : Int))) = false := by simpa using hfit
              have d3 : decide (room < 6 + ((19 + rn : Nat) : Int)) = false := by simp; omega
              have hR60 : R.length < 60 := by omega
              clear hm hfit hRi hfit0
              have HLR := Lib.hid hLR
              clear hLR
              go_wp2_with fail
              refine HP.out.mono ?_
              rintro e V1 ⟨k, s, al', cl', hk, rfl, hgone, hle', hsl, hsn, hlog, hbut⟩
              have HK := Lib.hid hk
              have HGONE := Lib.hid hgone
              have HLE := Lib.hid hle'
              have HSL := Lib.hid hsl
              have HSN := Lib.hid hsn
              have HLOG := Lib.hid hlog
              have HBUT := Lib.hid hbut
              have B4 := Lib.hid (hbut.below' HS.out.gw HS.out.bl.size)
              have BW4 := Lib.hid (HS.out.bl.trans B4.out)
              have ROW1 := Lib.hid (own_butT (T := 139) (fun q hq => by cases hq; exact ⟨_, _, HS.out.log.blk⟩) hbut HS.out.row (by decide))
              have T4 := Lib.hid ((blk_butT (T := 139) (fun q hq => by cases hq; exact ⟨_, _, HS.out.log.blk⟩) hbut HT.out (by decide)).2)
              clear hk hgone hle' hsl hsn hlog hbut
              have x0 := Below.cell' B4.out hb1 CC.out.1
              have x1 := Below.cell' B4.out hb1 CC.out.2.1
              have x2 := Below.cell' B4.out hb1 CC.out.2.2.1
              have x3 := Below.cell' B4.out hb1 CC.out.2.2.2.1
              have x4 := Below.cell' B4.out hb1 CC.out.2.2.2.2
              clear c0 c1 c2 c3 c4
              go_wp2_with fail
              refine (HM.out V1).mono ?_
              rintro e V2 ⟨rfl, b5⟩
              have BW5 := Lib.hid (BW4.out.trans (b5.mono BW4.out.size))
              have B5 := Lib.hid b5
              clear b5 x0 x1 x2 x3 x4
              have x0 := Below.cell' (B4.out.trans (B5.out.mono BW4.out.size)) hb1 CC.out.1
              have x1 := Below.cell' (B4.out.trans (B5.out.mono BW4.out.size)) hb1 CC.out.2.1
              have x2 := Below.cell' (B4.out.trans (B5.out.mono BW4.out.size)) hb1 CC.out.2.2.1
              have x3 := Below.cell' (B4.out.trans (B5.out.mono BW4.out.size)) hb1 CC.out.2.2.2.1
              have x4 := Below.cell' (B4.out.trans (B5.out.mono BW4.out.size)) hb1 CC.out.2.2.2.2
              go_wp2_with fail
              refine (rone_any w.heap.size tk wy ad pt ra rn rc rZ V2 (OK.out.keep BW5.out) BW5.out.size HMM.out).mono ?_
              rintro e V3 ⟨av, cv, he, -, bv⟩
              simp only at he
              subst he
              have B6 := Lib.hid (B5.out.trans (bv.mono B5.out.size))
              have BW6 := Lib.hid (BW4.out.trans (B6.out.mono BW4.out.size))
              clear bv x0 x1 x2 x3 x4
              have ROW3 := Lib.hid (own_below ROW1.out B6.out)
              have HRC : Hid (Rcds V3.heap.size V3 ak R.length ck (fnR R)) := Lib.hid (sel_rcds ROW3.out (by omega) (fun i hi => (((HS.out.ok _ (fnR_mem hi)).1.keep BW6.out).mono BW6.out.size)))
              have HALL := Lib.hid (allR_list (fun r hr => (HS.out.ok r hr).2))
              go_wp2_with fail
              refine (rwrite45_any V3.heap.size ak R.length ck (fnR R) V3 HRC.out (Nat.le_refl _) (by omega)).mono ?_
              rintro e V4 ⟨⟨_, a5, N, c5, rfl, hN, -⟩ | ⟨hno, _⟩, b6⟩
              · have B7 := Lib.hid b6
                have hN' : N = 6 + tot L := by rw [hN, HS.out.lnk.fil]
                have hNb : N ≤ 1000000 := by have := HS.out.fit; omega
                have HN : Hid (N = 6 + tot (L.drop 0)) := Lib.hid hN'
                have HFIT : Hid (6 + (19 + (rn : Int)) ≤ room) := Lib.hid (by simpa using d2)
                have HG0 : Hid (∀ i, i < 0 → room < 6 + (tot (L.drop i) : Int) + (19 + rn)) := Lib.hid (fun i hi => by omega)
                have HK0 : Hid (R.length = R.length - 0) := Lib.hid rfl
                clear b6 hN hN'
                go_wp2_with fail
                go_loopw [12, 17, 18] (fun s12 s17 s18 wx => ∃ (j N : Nat) (akj : Option Addr) (kj ckj : Nat) (aj : Option Addr) (cj : Nat), j ≤ R.length ∧ s12 = .slice akj kj ckj ∧ s17 = .int .i64 j ∧ s18 = .slice aj N cj ∧ N ≤ 1000000 ∧ Hid (kj = R.length - j) ∧ Hid (N = 6 + tot (L.drop j)) ∧ Hid (Rcds V3.heap.size V3 akj kj ckj (fnR (R.drop j))) ∧ Hid (∀ i, i < j → room < 6 + (tot (L.drop i) : Int) + (19 + rn)) ∧ Hid (Below V3.heap.size V3 wx)) (fun _ s17 _ _ => R.length - (intOf s17).toNat)
                case atStart => exact ⟨0, N, ak, R.length, ck, a5, c5, by omega, rfl, rfl, rfl, hNb, HK0, HN, HRC, HG0, B7⟩
                case round =>
                  obtain ⟨j, M, akj, kj, ckj, aj, cj, hj, rfl, rfl, rfl, hM, HKJ, HNJ, HRJ, HGJ, HBJ⟩ := hrel
                  clear HG0 HK0 HN
                  by_cases hov : room < (M : Int) + (19 + (rn : Int))
                  · have d4 : decide (room < (M : Int) + (19 + (rn : Int))) = true := by simpa using hov
                    have d5 : decide (room < (M : Int) + ((19 + rn : Nat) : Int)) = true := by simp; omega
                    have hjl : j < R.length := by
                      rcases Nat.lt_or_ge j R.length with h | h
                      · exact h
                      · exfalso
                        have h1 := HNJ.out
                        rw [List.drop_of_length_le (by rw [HLR.out]; exact h)] at h1
                        have h2 := HFIT.out
                        simp only [tot] at h1
                        omega
                    have hk1 : 1 ≤ kj := by have := HKJ.out; omega
                    have hck := HRJ.out.le
                    have hcm := HRJ.out.max
                    have hsl : ∀ W, (Instr.slice 54 (.slice akj kj ckj) (some (.int .i64 1)) none none).run Try.prog W = .ok (.slice (if ckj = 1 then akj else akj.map (·.add (1 * 5))) (kj - 1) (ckj - 1)) W := fun W => run_from Try.underlying54 sizeRcd akj kj ckj 1 hk1 W
                    have htl := HRJ.out.tail hk1
                    rw [drop_fn] at htl
                    obtain ⟨ax, hax⟩ : ∃ ax, (if ckj = 1 then akj else akj.map (·.add (1 * 5))) = ax := ⟨_, rfl⟩
                    rw [hax] at hsl htl
                    have hlk := (HS.out.lnk.drop (j + 1)).fil
                    have hkk : kj - 1 = (R.drop (j + 1)).length := by rw [List.length_drop, HKJ.out]; omega
                    rw [← hkk] at hlk
                    have hal : allR (fnR (R.drop (j + 1))) (kj - 1) := by rw [hkk]; exact allR_list (fun r hr => (HS.out.ok r (List.mem_of_mem_drop hr)).2)
                    have HTL := Lib.hid htl
                    have HLK := Lib.hid hlk
                    have HAL := Lib.hid hal
                    have HGJ2 : Hid (∀ i, i < j + 1 → room < 6 + (tot (L.drop i) : Int) + (19 + rn)) := Lib.hid (fun i hi => by
                      rcases Nat.lt_or_ge i j with h | h
                      · exact HGJ.out i h
                      · have : i = j := by omega
                        subst this
                        have := HNJ.out
                        omega)
                    have hki : (1 : Int) ≤ kj := by omega
                    have hkk60 : kj - 1 ≤ 60 := by have := HKJ.out; omega
                    have HKK : Hid (kj - 1 = R.length - (j + 1)) := Lib.hid (by have := HKJ.out; omega)
                    have htb := tot_drop_le L (j + 1)
                    have hfb := HS.out.fit
                    have hMb : 6 + tot (L.drop (j + 1)) ≤ 1000000 := by omega
                    have HMB := Lib.hid hMb
                    clear htl hlk hal hax hov hkk htb hfb hMb
                    go_wp2_with fail
                    refine (rwrite45_any V3.heap.size ax (kj - 1) (ckj - 1) (fnR (R.drop (j + 1))) wr (HTL.out.keep HBJ.out) HBJ.out.size hkk60).mono ?_
                    rintro e V5 ⟨⟨_, a6, M', c6, rfl, hM', -⟩ | ⟨hno, _⟩, b8⟩
                    · have HM' : Hid (M' = 6 + tot (L.drop (j + 1))) := Lib.hid (by rw [hM', HLK.out])
                      have hM'b : M' ≤ 1000000 := by rw [HM'.out]; exact HMB.out
                      have B8 := Lib.hid (HBJ.out.trans (b8.mono HBJ.out.size))
                      clear b8 hM' hsl d4 d5
                      go_wp2_with fail
                      go_roundw
                      case rel => exact ⟨j + 1, M', ax, kj - 1, ckj - 1, a6, c6, hjl, rfl, by go_num, rfl, hM'b, HKK, HM', HTL, HGJ2, B8⟩
                      case measure => simp [intOf] <;> omega
                    · exact absurd HAL.out hno
                  · have d4 : decide (room < (M : Int) + (19 + (rn : Int))) = false := by simpa using hov
                    have d5 : decide (room < (M : Int) + ((19 + rn : Nat) : Int)) = false := by simp; omega
                    have hjk : j = k := by
                      have h1 := HNJ.out
                      rcases Nat.lt_trichotomy j k with h | h | h
                      · exfalso
                        have := HGONE.out j h
                        push_cast at this
                        omega
                      · exact h
                      · exfalso
                        have := HGJ.out k h
                        have := HLE.out
                        push_cast at this
                        omega
                    clear hov
                    subst hjk
                    have hkr : kj = (R.drop j).length := by rw [List.length_drop, HKJ.out]
                    have hkb : kj ≤ 59 := by have := HKJ.out; omega
                    have HKR := Lib.hid hkr
                    have BWJ : Hid (Below w.heap.size w wr) := Lib.hid (BW6.out.trans (HBJ.out.mono BW6.out.size))
                    have hlies : Lies wr.drew.heap.size wr.drew akj kj ckj 5 (rowL (R.drop j)) := ((HRJ.out.keep HBJ.out.drew).mono HBJ.out.size).lies hkr
                    obtain ⟨pa1, pc1, U1, pa2, pc2, U2, pr1, pr2, pb0, pb1, pb2, pb3, pown⟩ := copyA elRcd wr.drew akj kj ckj (rowL (R.drop j)) (rcV ⟨tk, wy, ad, pt, ra, rn, rc, rZ⟩) hlies rfl (rcV_one _) (by omega) (by omega)
                    obtain ⟨qa1, qc1, X1, qa2, qc2, X2, qr1, qr2, qb0, qb1, qb2, qb3, qown⟩ := copyB elRcd wr.drew akj kj ckj (rowL (R.drop j)) (rcV ⟨tk, wy, ad, pt, ra, rn, rc, rZ⟩) hlies rfl (rcV_one _) (by omega) (by omega)
                    obtain ⟨ya1, yc1, Y1, ya2, yc2, Y2, yr1, yr2, yb0, yb1, yb2, yb3, yown⟩ := copyC elRcd wr.drew akj kj ckj (rowL (R.drop j)) (rcV ⟨tk, wy, ad, pt, ra, rn, rc, rZ⟩) hlies rfl (rcV_one _) (by omega) (by omega)
                    have PR1 := Lib.hid pr1
                    have PR2 := Lib.hid pr2
                    have QR1 := Lib.hid qr1
                    have QR2 := Lib.hid qr2
                    have YR1 := Lib.hid yr1
                    have YR2 := Lib.hid yr2
                    have PB0 : Hid (Below wr.heap.size wr _) := Lib.hid ((Below.refl _ wr).drew.trans pb0)
                    have PB1 : Hid (Below wr.heap.size wr _) := Lib.hid ((Below.refl _ wr).drew.trans pb1)
                    have PB2 : Hid (Below wr.heap.size wr _) := Lib.hid ((Below.refl _ wr).drew.trans pb2)
                    have PB3 : Hid (Below wr.heap.size wr _) := Lib.hid ((Below.refl _ wr).drew.trans pb3)
                    have QB0 : Hid (Below wr.heap.size wr _) := Lib.hid ((Below.refl _ wr).drew.trans qb0)
                    have QB1 : Hid (Below wr.heap.size wr _) := Lib.hid ((Below.refl _ wr).drew.trans qb1)
                    have QB2 : Hid (Below wr.heap.size wr _) := Lib.hid ((Below.refl _ wr).drew.trans qb2)
                    have QB3 : Hid (Below wr.heap.size wr _) := Lib.hid ((Below.refl _ wr).drew.trans qb3)
                    have YB0 : Hid (Below wr.heap.size wr _) := Lib.hid ((Below.refl _ wr).drew.trans yb0)
                    have YB1 : Hid (Below wr.heap.size wr _) := Lib.hid ((Below.refl _ wr).drew.trans yb1)
                    have YB2 : Hid (Below wr.heap.size wr _) := Lib.hid ((Below.refl _ wr).drew.trans yb2)
                    have YB3 : Hid (Below wr.heap.size wr _) := Lib.hid ((Below.refl _ wr).drew.trans yb3)
                    have PO := Lib.hid pown
                    have QO := Lib.hid qown
                    have YO := Lib.hid yown
                    clear hkr hlies pr1 pr2 qr1 qr2 yr1 yr2 pb0 pb1 pb2 pb3 qb0 qb1 qb2 qb3 yb0 yb1 yb2 yb3 pown qown yown
                    have CJ : Hid (wr.cell? ⟨b1, o1 + i * 5, none⟩ = some (.int .i64 tk) ∧ wr.cell? ⟨b1, o1 + i * 5 + 1, none⟩ = some (.int .i64 wy) ∧ wr.cell? ⟨b1, o1 + i * 5 + 2, none⟩ = some (.int .u32 ad) ∧ wr.cell? ⟨b1, o1 + i * 5 + 3, none⟩ = some (.int .u16 pt) ∧ wr.cell? ⟨b1, o1 + i * 5 + 4, none⟩ = some (.slice ra rn rc)) := Lib.hid (by
                      have hbl := B4.out.trans ((B6.out.trans (HBJ.out.mono B6.out.size)).mono BW4.out.size)
                      exact ⟨Below.cell' hbl hb1 CC.out.1, Below.cell' hbl hb1 CC.out.2.1, Below.cell' hbl hb1 CC.out.2.2.1, Below.cell' hbl hb1 CC.out.2.2.2.1, Below.cell' hbl hb1 CC.out.2.2.2.2⟩)
                    go_upto_region 26 with (fail)
                    clear d4 d5
                    go_cut [12] (fun s12 wx => ∃ an cn, s12 = .slice an (kj + 1) cn ∧ Hid (Below wr.heap.size wr wx) ∧ Hid (wx.ownsRow wr.heap.size 72 5 (.slice an (kj + 1) cn) (kj + 1) (rowL (R.drop j) ++ rcV ⟨tk, wy, ad, pt, ra, rn, rc, rZ⟩)))
                    case first =>
                      have hne : Nonempty { w' : World // Below wr.heap.size wr w' } := ⟨⟨_, Below.refl _ _⟩⟩
                      have hbw : b1 < wr.heap.size := World.block_lt_of_cell? _ _ CJ.out.1
                      have o0 : ∀ z : { w' : World // Below wr.heap.size wr w' }, z.1.cell? ⟨b1, o1 + i * 5, none⟩ = some (.int .i64 tk) := fun z => Below.cell' z.2 hbw CJ.out.1
                      have oo1 : ∀ z : { w' : World // Below wr.heap.size wr w' }, z.1.cell? ⟨b1, o1 + i * 5 + 1, none⟩ = some (.int .i64 wy) := fun z => Below.cell' z.2 hbw CJ.out.2.1
                      have o2 : ∀ z : { w' : World // Below wr.heap.size wr w' }, z.1.cell? ⟨b1, o1 + i * 5 + 2, none⟩ = some (.int .u32 ad) := fun z => Below.cell' z.2 hbw CJ.out.2.2.1
                      have o3 : ∀ z : { w' : World // Below wr.heap.size wr w' }, z.1.cell? ⟨b1, o1 + i * 5 + 3, none⟩ = some (.int .u16 pt) := fun z => Below.cell' z.2 hbw CJ.out.2.2.2.1
                      have o4 : ∀ z : { w' : World // Below wr.heap.size wr w' }, z.1.cell? ⟨b1, o1 + i * 5 + 4, none⟩ = some (.slice ra rn rc) := fun z => Below.cell' z.2 hbw CJ.out.2.2.2.2
                      have C1 : Hid (Below wr.heap.size wr wr.drew) := Lib.hid (Below.refl _ _).drew
                      have hki : (i : Int) < len := by omega
                      refine MixC.wp_region_pick [0, 2, 7, 8] (Below wr.heap.size wr) C1.out (by kernel_rfl) ?_
                      simp only [List.length_cons, List.length_nil, Nat.reduceAdd]
                      (refine MixC.pick_read 1 rfl (by kernel_rfl) rfl (by kernel_rfl) (by kernel_rfl) C1.out (fun K hK => ?_); go_simp; refine hK _ ?_; clear hK K)
                      (refine MixC.pick_read 3 rfl (by kernel_rfl) rfl (by kernel_rfl) (by kernel_rfl) C1.out (fun K hK => ?_); go_simp; refine hK _ ?_; clear hK K)
                      (refine MixC.pick_read 4 rfl (by kernel_rfl) rfl (by kernel_rfl) (by kernel_rfl) C1.out (fun K hK => ?_); go_simp; refine hK _ ?_; clear hK K)
                      (refine MixC.pick_read 5 rfl (by kernel_rfl) rfl (by kernel_rfl) (by kernel_rfl) C1.out (fun K hK => ?_); go_simp; refine hK _ ?_; clear hK K)
                      (refine MixC.pick_read 6 rfl (by kernel_rfl) rfl (by kernel_rfl) (by kernel_rfl) C1.out (fun K hK => ?_); go_simp; refine hK _ ?_; clear hK K)
                      refine MixC.pick_two 0 7 rfl rfl rfl rfl (by kernel_rfl) (fun K hK => ?_) (fun K hK => ?_)
                      · go_simp
                        refine ⟨PB0.out, hK _ _ ?_⟩
                        clear hK K
                        refine MixC.pick_two 2 7 rfl rfl rfl rfl (by kernel_rfl) (fun K hK => ?_) (fun K hK => ?_)
                        · refine Eq.mpr (if_pos rfl) ?_
                          refine mv_app (s := .tmp 98) (x := .tmp 99) (t := 54) rfl rfl rfl PR1.out PB1.out (hK _ _ ?_)
                          clear hK K
                          refine MixC.pick_move 7 rfl rfl (by kernel_rfl) (fun K hK => ?_)
                          go_simp
                          refine ⟨PB2.out, hK _ _ ?_⟩
                          clear hK K
                          refine MixC.pick_move 8 rfl rfl (by kernel_rfl) (fun K hK => ?_)
                          refine Eq.mpr (if_pos rfl) ?_
                          refine mv_app (s := .tmp 100) (x := .tmp 105) (t := 54) rfl rfl rfl PR2.out PB3.out (hK _ _ ?_)
                          clear hK K
                          (refine MixC.pick_read 9 rfl (by kernel_rfl) rfl (by kernel_rfl) (by kernel_rfl) PB3.out (fun K hK => ?_); go_simp; refine hK _ ?_; clear hK K)
                          refine MixC.pick_nil (by kernel_rfl) ?_
                          clear o0 oo1 o2 o3 o4 hne
                          go_wp2_with fail
                          go_meet
                          exact ⟨pa2, pc2, rfl, PB3, PO⟩
                        · go_simp
                          refine ⟨QB1.out, hK _ _ ?_⟩
                          clear hK K
                          refine MixC.pick_move 2 rfl rfl (by kernel_rfl) (fun K hK => ?_)
                          refine Eq.mpr (if_pos rfl) ?_
                          refine mv_app (s := .tmp 98) (x := .tmp 99) (t := 54) rfl rfl rfl QR1.out QB2.out (hK _ _ ?_)
                          clear hK K
                          refine MixC.pick_move 8 rfl rfl (by kernel_rfl) (fun K hK => ?_)
                          refine Eq.mpr (if_pos rfl) ?_
                          refine mv_app (s := .tmp 100) (x := .tmp 105) (t := 54) rfl rfl rfl QR2.out QB3.out (hK _ _ ?_)
                          clear hK K
                          (refine MixC.pick_read 9 rfl (by kernel_rfl) rfl (by kernel_rfl) (by kernel_rfl) QB3.out (fun K hK => ?_); go_simp; refine hK _ ?_; clear hK K)
                          refine MixC.pick_nil (by kernel_rfl) ?_
                          clear o0 oo1 o2 o3 o4 hne
                          go_wp2_with fail
                          go_meet
                          exact ⟨qa2, qc2, rfl, QB3, QO⟩
                      · go_simp
                        refine ⟨YB0.out, hK _ _ ?_⟩
                        clear hK K
                        refine MixC.pick_move 0 rfl rfl (by kernel_rfl) (fun K hK => ?_)
                        go_simp
                        refine ⟨YB1.out, hK _ _ ?_⟩
                        clear hK K
                        refine MixC.pick_move 2 rfl rfl (by kernel_rfl) (fun K hK => ?_)
                        refine Eq.mpr (if_pos rfl) ?_
                        refine mv_app (s := .tmp 98) (x := .tmp 99) (t := 54) rfl rfl rfl YR1.out YB2.out (hK _ _ ?_)
                        clear hK K
                        refine MixC.pick_move 8 rfl rfl (by kernel_rfl) (fun K hK => ?_)
                        refine Eq.mpr (if_pos rfl) ?_
                        refine mv_app (s := .tmp 100) (x := .tmp 105) (t := 54) rfl rfl rfl YR2.out YB3.out (hK _ _ ?_)
                        clear hK K
                        (refine MixC.pick_read 9 rfl (by kernel_rfl) rfl (by kernel_rfl) (by kernel_rfl) YB3.out (fun K hK => ?_); go_simp; refine hK _ ?_; clear hK K)
                        refine MixC.pick_nil (by kernel_rfl) ?_
                        clear o0 oo1 o2 o3 o4 hne
                        go_wp2_with fail
                        go_meet
                        exact ⟨ya2, yc2, rfl, YB3, YO⟩
                    case rest =>
                      obtain ⟨an, cn, rfl, BN, ON⟩ := hcut
                      have hlen : (R.drop j ++ [(⟨tk, wy, ad, pt, ra, rn, rc, rZ⟩ : Rcd)]).length = kj + 1 := by rw [List.length_append, ← HKR.out]; rfl
                      have hrow : rowL (R.drop j) ++ rcV ⟨tk, wy, ad, pt, ra, rn, rc, rZ⟩ = rowL (R.drop j ++ [⟨tk, wy, ad, pt, ra, rn, rc, rZ⟩]) := by rw [rowL_app]; show _ = _ ++ (rcV _ ++ []); rw [List.append_nil]
                      rw [hrow] at ON
                      have BWN : Hid (Below w.heap.size w wc) := Lib.hid (BWJ.out.trans (BN.out.mono BWJ.out.size))
                      have hok : ∀ r ∈ (R.drop j ++ [(⟨tk, wy, ad, pt, ra, rn, rc, rZ⟩ : Rcd)]), RcdOk w.heap.size w r ∧ okR r := fun r hr => by
                        rcases List.mem_append.1 hr with h | h
                        · exact HS.out.ok r (List.mem_of_mem_drop h)
                        · have : r = ⟨tk, wy, ad, pt, ra, rn, rc, rZ⟩ := by simpa using h
                          subst this
                          exact ⟨OK.out, HMM.out⟩
                      have hlk := (HS.out.lnk.drop j).add HSL.out
                      obtain ⟨R', hR'⟩ : ∃ R', R.drop j ++ [(⟨tk, wy, ad, pt, ra, rn, rc, rZ⟩ : Rcd)] = R' := ⟨_, rfl⟩
                      have htt : tot (L.drop j ++ [s]) = tot (L.drop j) + (19 + rn) := by rw [tot_app, ← HSN.out]; rfl
                      have hlog := HLOG.out
                      obtain ⟨L', hL'⟩ : ∃ L', L.drop j ++ [s] = L' := ⟨_, rfl⟩
                      rw [hR'] at hlen hok hlk ON
                      rw [hL'] at hlk htt hlog
                      have hll := hlk.len
                      rw [hlen] at hll
                      have hrcs : Rcds wc.heap.size wc an (kj + 1) cn (fnR R') := by rw [← hlen] at ON ⊢; exact sel_rcds ON.out (by omega) (fun i hi => (((hok _ (fnR_mem hi)).1.keep BWN.out).mono BWN.out.size))
                      have hall' : allR (fnR R') (kj + 1) := by rw [← hlen]; exact allR_list (fun r hr => (hok r hr).2)
                      have hfil := fil_log hlk
                      have hfl := hlk.fil
                      rw [hlen] at hfil hfl
                      have htb : tot L' ≤ 999994 := by have := HLE.out; push_cast at this; omega
                      have HRCS := Lib.hid hrcs
                      have HALL' := Lib.hid hall'
                      have HFIL := Lib.hid hfil
                      have HLEN := Lib.hid hlen
                      have HOK' := Lib.hid hok
                      have HLK := Lib.hid hlk
                      have HLL := Lib.hid hll
                      have HLOG' := Lib.hid hlog
                      have HTB := Lib.hid htb
                      have hoc := filL_oct (B := w.heap.size) (w := w) (fnR R') (kj + 1) hall' (fun i hi => (hok _ (fnR_mem (by omega))).1)
                      have HOC := Lib.hid hoc
                      have B1N : Hid (Below V1.heap.size V1 wc) := Lib.hid ((B6.out.trans (HBJ.out.mono B6.out.size)).trans (BN.out.mono (by have := B6.out.size; have := HBJ.out.size; omega)))
                      have HFL := Lib.hid hfl
                      clear hrow hok hlk htt hlog hR' hL' hll hrcs hall' hfil hlen hfl htb hoc
                      go_wp2_with fail
                      refine (rwrite45_any wc.heap.size an (kj + 1) cn (fnR R') wc HRCS.out (Nat.le_refl _) (by omega)).mono ?_
                      rintro e V6 ⟨⟨_, a9, N9, c9, rfl, hN9, o9⟩ | ⟨hno, _⟩, b9⟩
                      · obtain ⟨F, hF⟩ : ∃ F, filL (fnR R') (kj + 1) = F := ⟨_, rfl⟩
                        rw [hF] at HFIL HFL HOC hN9 o9
                        subst hN9
                        have hFb : F.length ≤ 1000000 := by rw [HFL.out]; have := HTB.out; omega
                        have LG6 := Lib.hid (HLOG'.out.keep (B1N.out.trans (b9.mono B1N.out.size)))
                        have O9 := Lib.hid o9
                        have B9 := Lib.hid b9
                        have ON6 := Lib.hid (own_below ON.out b9)
                        clear o9 b9 hF
                        obtain ⟨S, hS⟩ : ∃ S, strOf (gz F) F.length = S := ⟨_, rfl⟩
                        have cb : ∀ z : { w' : World // Below V6.heap.size V6 w' }, (convert 56 9 (.slice a9 F.length c9)).run Try.prog z.1 = .ok (.string S) z.1 := fun z => by rw [conv_own O9.out HOC.out hFb z.2, hS]
                        have hfp := file45_any g room L' al' cl' V6.drew (LG6.out.keep (Below.refl _ V6).drew) (by rw [HLL.out]; omega) HTB.out
                        rw [HFIL.out] at hfp
                        have HFP := Lib.hid hfp
                        have hln : ∀ z : World, Below V6.heap.size V6 z → Calls Try.prog 39 #[.pointer (some ⟨g, 0, none⟩)] z fun e w' => e = .returned (.int .i64 ((kj + 1 : Nat) : Int)) ∧ z = w' := fun z hz => by
                          have := lenLog_any g room (6 + (tot L' : Nat)) al' L'.length cl' z (LG6.out.keep hz).blk
                          rwa [HLL.out] at this
                        have HLN := Lib.hid hln
                        have CB := Lib.hid cb
                        have HSS := Lib.hid hS
                        clear hfp hln cb hS
                        go_upto_region 28 with (fail)
                        have hne : Nonempty { w' : World // Below V6.heap.size V6 w' } := ⟨⟨_, Below.refl _ _⟩⟩
                        have cb := CB.out
                        refine MixC.wp_region_mix [9, 10] (Below V6.heap.size V6) (Below.refl _ _).drew (by kernel_rfl) (by kernel_rfl) (by kernel_rfl) ?_
                        (iterate 9 (refine MixC.mix_read rfl (fun K hK => ?_); go_simp; refine hK _ ?_; clear hK K))
                        refine MixC.mix_move rfl (fun K hK => ?_)
                        go_simp
                        refine HFP.out.mono ?_
                        rintro e V7 ⟨af, cf, rfl, of, bf⟩
                        have C7 : Hid (Below V6.heap.size V6 V7) := Lib.hid ((Below.refl _ V6).drew.trans bf)
                        have cv : (convert 56 9 (.slice af F.length cf)).run Try.prog V7 = .ok (.string S) V7 := by rw [conv_own of HOC.out hFb (Below.refl _ V7), HSS.out]
                        clear of bf
                        refine ⟨_, rfl, C7.out, hK _ _ ?_⟩
                        clear hK K
                        refine MixC.mix_move rfl (fun K hK => ?_)
                        go_simp
                        refine ⟨C7.out, hK _ _ ?_⟩
                        clear hK K
                        (iterate 6 (refine MixC.mix_read rfl (fun K hK => ?_); go_simp; refine hK _ ?_; clear hK K))
                        refine MixC.mix_read rfl (fun K hK => ?_)
                        go_simp
                        refine ⟨.int .i64 ((kj + 1 : Nat) : Int), fun y hy => (HLN.out y hy).mono (fun e w1 h => ⟨h.1, h.2.symm⟩), hK _ ?_⟩
                        clear hK K
                        (iterate 4 (refine MixC.mix_read rfl (fun K hK => ?_); go_simp; refine hK _ ?_; clear hK K))
                        refine MixC.mix_nil ?_
                        clear hne cb cv
                        go_wp2_with fail
                        have B17 : Below V1.heap.size V1 V7 := B1N.out.trans ((B9.out.trans (C7.out.mono B9.out.size)).mono B1N.out.size)
                        have F7 : Hid (R'.length ≤ i + 1 ∧ V7.heap[q]? = some (.cells #[.int .u32 xa, .int .u16 xp] 70 (0, 0)) ∧ LL w.heap.size g room R' L' al' cl' an cn w V7) := Lib.hid (by
                          refine ⟨by rw [HLEN.out]; have := HKJ.out; have := HRI.out; omega, Below.blk B17 T4.out (lt_of_block T4.out), BW4.out.trans (B17.mono BW4.out.size), HLOG'.out.keep B17, ?_, HLK.out, HOK'.out, HTB.out, HS.out.gw⟩
                          rw [HLEN.out]
                          exact World.ownsRow.mono (own_below ON6.out C7.out) BWJ.out.size)
                        have HL7 : Hid (Value.slice an (kj + 1) cn = .slice an R'.length cn) := Lib.hid (by rw [HLEN.out])
                        clear B17
                        go_roundw
                        case rel => exact ⟨i + 1, R', L', al', cl', an, cn, by omega, by go_num, HL7.out, Lib.hid F7.out.1, Lib.hid F7.out.2.1, Lib.hid F7.out.2.2⟩
                        case measure => simp [intOf] <;> omega
                      · exact absurd HALL'.out hno
              · exact absurd HALL.out hno
        · obtain rfl : len = i := by omega
          clear hlt
          have BL := Lib.hid HS.out.bl
          have TQ := Lib.hid HT.out
          clear HS HT HRI
          obtain ⟨w5, hw5⟩ : ∃ w5, w5 = wr := ⟨_, rfl⟩
          rw [← hw5] at BL TQ ⊢
          clear hw5
          have hs1 := selL_le (inB lo hi) Q len
          have hs2 := selL_le (inO xa xp) Q len
          go_wp2_with fail
          go_loopw [20, 21, 22] (fun s20 s21 s22 wx => ∃ (k n1 n2 : Nat) (ao : Option Addr) (cs : Nat) (at' : Option Addr) (ct : Nat), k ≤ len ∧ s22 = .int .i64 k ∧ s20 = .slice ao n1 cs ∧ s21 = .slice at' n2 ct ∧ Hid (SL2 lo hi xa xp Q w5 k n1 n2 ao cs at' ct wx)) (fun _ _ s22 _ => len - (intOf s22).toNat)
          case atStart => exact ⟨0, 0, 0, none, 0, none, 0, by omega, rfl, rfl, rfl, Lib.hid ⟨rfl, rfl, Below.refl _ _, World.ownsRow_nil _ _ _ _, World.ownsRow_nil _ _ _ _, Apart.nil _⟩⟩
          case round =>
            obtain ⟨k, n1, n2, ao, cs, at', ct, hk, rfl, rfl, rfl, HS⟩ := hrel
            by_cases hlt : k < len
            · have BW := Lib.hid (BL.out.trans (HS.out.bl.mono BL.out.size))
              obtain ⟨b1, o1, hp1, hc1⟩ := HB.out.mem
              obtain ⟨rfl, hb1⟩ := hp1 (by omega)
              have c0 := hc1 k hlt 0 (by omega)
              have c1 := hc1 k hlt 1 (by omega)
              have c2 := hc1 k hlt 2 (by omega)
              have c3 := hc1 k hlt 3 (by omega)
              have c4 := hc1 k hlt 4 (by omega)
              have hn1 := HS.out.e1
              have hn2 := HS.out.e2
              have hl1 := selL_le (inB lo hi) Q k
              have hl2 := selL_le (inO xa xp) Q k
              have hsu1 := selL_succ (inB lo hi) Q k
              have hsu2 := selL_succ (inO xa xp) Q k
              obtain ⟨y, hy⟩ : ∃ y, Q k = y := ⟨_, rfl⟩
              rw [hy] at c0 c1 c2 c3 c4 hsu1 hsu2
              have hn1b : n1 ≤ 60 := by omega
              have hn2b : n2 ≤ 60 := by omega
              have HSU1 := Lib.hid hsu1
              have HSU2 := Lib.hid hsu2
              clear hy hp1 hc1 hn1 hn2 hl1 hl2 hsu1 hsu2
              obtain ⟨tk, wy, ad, pt, ra, rn, rc, rZ⟩ := y
              simp only [Rcd.cell, Nat.add_zero] at c0 c1 c2 c3 c4
              have hki : (k : Int) < len := by omega
              have CC := Lib.hid (And.intro c0 (And.intro c1 (And.intro c2 (And.intro c3 c4))))
              clear c0 c1 c2 c3 c4
              have c0 := Below.cell' BW.out hb1 CC.out.1
              have c1 := Below.cell' BW.out hb1 CC.out.2.1
              have c2 := Below.cell' BW.out hb1 CC.out.2.2.1
              have c3 := Below.cell' BW.out hb1 CC.out.2.2.2.1
              have c4 := Below.cell' BW.out hb1 CC.out.2.2.2.2
              go_upto_region 34 with (fail)
              go_cut [155] (fun s155 wx => ∃ b : Bool, s155 = .bool b ∧ Hid (b = (decide (lo ≤ tk) && decide (tk < hi))) ∧ Hid (wx = wr))
              case first =>
                by_cases h1 : lo ≤ tk
                · have d1 : decide (lo ≤ tk) = true := by simpa using h1
                  cases d2 : decide (tk < hi) with
                  | true =>
                    go_wp2_with fail
                    go_meet
                    exact ⟨true, rfl, Lib.hid (by rw [d1, d2]; rfl), Lib.hid rfl⟩
                  | false =>
                    go_wp2_with fail
                    go_meet
                    exact ⟨false, rfl, Lib.hid (by rw [d1, d2]; rfl), Lib.hid rfl⟩
                · have d1 : decide (lo ≤ tk) = false := by simpa using h1
                  go_wp2_with fail
                  go_meet
                  exact ⟨false, rfl, Lib.hid (by rw [d1]; simp), Lib.hid rfl⟩
              case rest =>
                obtain ⟨b, rfl, HBE, HWE⟩ := hcut
                rw [HWE.out]
                clear HWE
                go_upto_if 155 with (fail)
                go_cut [20] (fun s20 wx => ∃ (m1 : Nat) (ao2 : Option Addr) (cs2 : Nat), s20 = .slice ao2 m1 cs2 ∧ m1 ≤ 61 ∧ Hid (SL3 lo hi xa xp Q w5 k m1 n2 ao2 cs2 at' ct wx))
                case first =>
                  cases b with
                  | false =>
                    have hin : inB lo hi ⟨tk, wy, ad, pt, ra, rn, rc, rZ⟩ = false := HBE.out.symm
                    have S3 : Hid (SL3 lo hi xa xp Q w5 k n1 n2 ao cs at' ct wr) := Lib.hid (by
                      have e := HSU1.out
                      rw [hin, if_neg (by decide), List.append_nil] at e
                      exact ⟨by rw [e]; exact HS.out.e1, HS.out.e2, HS.out.bl, by rw [e]; exact HS.out.r1, HS.out.r2, HS.out.ap⟩)
                    clear hin
                    go_wp2_with fail
                    go_meet
                    exact ⟨n1, ao, cs, rfl, by omega, S3⟩
                  | true =>
                    have hin : inB lo hi ⟨tk, wy, ad, pt, ra, rn, rc, rZ⟩ = true := HBE.out.symm
                    have e := HSU1.out
                    rw [hin, if_pos rfl] at e
                    obtain ⟨a9, c9, V2, A9, B9⟩ := app1 elRcd HS.out.r1 (rcV ⟨tk, wy, ad, pt, ra, rn, rc, rZ⟩) rfl (rcV_one _) (by omega) (by omega) HS.out.bl.size
                    have HA := Lib.hid A9.run
                    have S3 : Hid (SL3 lo hi xa xp Q w5 k (n1 + 1) n2 a9 c9 at' ct V2) := Lib.hid ⟨by rw [e, List.length_append, ← HS.out.e1]; rfl, HS.out.e2, HS.out.bl.trans B9, by rw [e, rowL_app]; show V2.ownsRow _ _ _ _ (n1 + 1) (_ ++ (rcV _ ++ [])); rw [List.append_nil]; exact A9.own, own_but HS.out.r2 A9.but (fun q h2 h1 => HS.out.ap q h1 h2), fun q h1 h2 => by
                      rcases A9.new q h1 with h | h
                      · exact HS.out.ap q h h2
                      · have := (HS.out.r2.lt q h2).2; omega⟩
                    clear hin e A9 B9
                    go_wp2_with (at_builtin; refine wpList_of_append rfl (.tmp 156) (.tmp 161) 54 rfl _ _ _ rfl rfl HA.out ?_)
                    go_meet
                    exact ⟨n1 + 1, a9, c9, rfl, by omega, S3⟩
                case rest =>
                  obtain ⟨m1, ao2, cs2, rfl, hm1, S3⟩ := hcut
                  obtain ⟨wb, hwb⟩ : ∃ wb, wb = wc := ⟨_, rfl⟩
                  subst hwb
                  have BC := Lib.hid (BL.out.trans (S3.out.bl.mono BL.out.size))
                  clear c0 c1 c2 c3 c4
                  have hbc : b1 < wb.heap.size := Nat.lt_of_lt_of_le hb1 BC.out.size
                  have hqc : q < wb.heap.size := Nat.lt_of_lt_of_le (lt_of_block TQ.out) S3.out.bl.size
                  have TC := Lib.hid (Below.blk S3.out.bl TQ.out (lt_of_block TQ.out))
                  have hne : Nonempty { w' : World // Below wb.heap.size wb w' } := ⟨⟨_, Below.refl _ _⟩⟩
                  have u2 : ∀ z : { w' : World // Below wb.heap.size wb w' }, z.1.cell? ⟨b1, o1 + k * 5 + 2, none⟩ = some (.int .u32 ad) := fun z => Below.cell' z.2 hbc (Below.cell' BC.out hb1 CC.out.2.2.1)
                  have u3 : ∀ z : { w' : World // Below wb.heap.size wb w' }, z.1.cell? ⟨b1, o1 + k * 5 + 3, none⟩ = some (.int .u16 pt) := fun z => Below.cell' z.2 hbc (Below.cell' BC.out hb1 CC.out.2.2.2.1)
                  have t0 : ∀ z : { w' : World // Below wb.heap.size wb w' }, z.1.cell? ⟨q, 0, none⟩ = some (.int .u32 xa) := fun z => cell_blk (Below.blk z.2 TC.out hqc)
                  have t1 : ∀ z : { w' : World // Below wb.heap.size wb w' }, z.1.cell? ⟨q, 1, none⟩ = some (.int .u16 xp) := fun z => cell_blk (Below.blk z.2 TC.out hqc)
                  go_upto_region 36 with (fail)
                  go_cut [169] (fun s169 wx => ∃ b2 : Bool, s169 = .bool b2 ∧ Hid (b2 = decide (ad = xa ∧ pt = xp)) ∧ Hid (wx = wb.drew))
                  case first =>
                    by_cases h1 : ad = xa
                    · have h1' : (ad = xa) = True := eq_true h1
                      by_cases h2 : pt = xp
                      · have h2' : (pt = xp) = True := eq_true h2
                        have hd : Hid (true = decide (ad = xa ∧ pt = xp)) := Lib.hid (by simp [h1, h2])
                        clear h1 h2
                        refine MixC.wp_region_mix [] (Below wb.heap.size wb) (Below.refl _ _).drew (by kernel_rfl) (by kernel_rfl) (by kernel_rfl) ?_
                        (iterate 7 (refine MixC.mix_read rfl (fun K hK => ?_); go_simp; refine hK _ ?_; clear hK K))
                        refine MixC.mix_nil ?_
                        go_wp2_with fail
                        go_meet
                        exact ⟨true, rfl, hd, Lib.hid rfl⟩
                      · have h2' : (pt = xp) = False := eq_false h2
                        have hd : Hid (false = decide (ad = xa ∧ pt = xp)) := Lib.hid (by simp [h1, h2])
                        clear h1 h2
                        refine MixC.wp_region_mix [] (Below wb.heap.size wb) (Below.refl _ _).drew (by kernel_rfl) (by kernel_rfl) (by kernel_rfl) ?_
                        (iterate 7 (refine MixC.mix_read rfl (fun K hK => ?_); go_simp; refine hK _ ?_; clear hK K))
                        refine MixC.mix_nil ?_
                        go_wp2_with fail
                        go_meet
                        exact ⟨false, rfl, hd, Lib.hid rfl⟩
                    · have h1' : (ad = xa) = False := eq_false h1
                      have hd : Hid (false = decide (ad = xa ∧ pt = xp)) := Lib.hid (by simp [h1])
                      clear h1
                      refine MixC.wp_region_mix [] (Below wb.heap.size wb) (Below.refl _ _).drew (by kernel_rfl) (by kernel_rfl) (by kernel_rfl) ?_
                      (iterate 7 (refine MixC.mix_read rfl (fun K hK => ?_); go_simp; refine hK _ ?_; clear hK K))
                      refine MixC.mix_nil ?_
                      go_wp2_with fail
                      go_meet
                      exact ⟨false, rfl, hd, Lib.hid rfl⟩
                  case rest =>
                    clear u2 u3 t0 t1 hne
                    obtain ⟨b2, rfl, HB2, hwe⟩ := hcut
                    rw [hwe.out]
                    clear hwe
                    have S4 := S3.out
                    cases b2 with
                    | false =>
                      have hin : inO xa xp ⟨tk, wy, ad, pt, ra, rn, rc, rZ⟩ = false := HB2.out.symm
                      have S5 : Hid (SL2 lo hi xa xp Q w5 (k + 1) m1 n2 ao2 cs2 at' ct wb.drew) := Lib.hid (by
                        have e := HSU2.out
                        rw [hin, if_neg (by decide), List.append_nil] at e
                        exact ⟨S4.e1, by rw [e]; exact S4.e2, S4.bl.drew, own_below S4.r1 (Below.refl _ _).drew, by rw [e]; exact own_below S4.r2 (Below.refl _ _).drew, S4.ap⟩)
                      clear hin S4
                      go_wp2_with fail
                      go_roundw
                      case rel => exact ⟨k + 1, m1, n2, ao2, cs2, at', ct, by omega, by go_num, rfl, rfl, S5⟩
                      case measure => simp [intOf] <;> omega
                    | true =>
                      have hin : inO xa xp ⟨tk, wy, ad, pt, ra, rn, rc, rZ⟩ = true := HB2.out.symm
                      have e := HSU2.out
                      rw [hin, if_pos rfl] at e
                      obtain ⟨a9, c9, V2, A9, B9⟩ := app1 elRcd (own_below S4.r2 (Below.refl _ wb).drew) (rcV ⟨tk, wy, ad, pt, ra, rn, rc, rZ⟩) rfl (rcV_one _) (by omega) (by omega) S4.bl.size
                      have HA := Lib.hid A9.run
                      have S5 : Hid (SL2 lo hi xa xp Q w5 (k + 1) m1 (n2 + 1) ao2 cs2 a9 c9 V2) := Lib.hid ⟨S4.e1, by rw [e, List.length_append, ← S4.e2]; rfl, S4.bl.drew.trans B9, own_but (own_below S4.r1 (Below.refl _ wb).drew) A9.but (fun q h1 h2 => S4.ap q h1 h2), by rw [e, rowL_app]; show V2.ownsRow _ _ _ _ (n2 + 1) (_ ++ (rcV _ ++ [])); rw [List.append_nil]; exact A9.own, fun q h1 h2 => by
                        rcases A9.new q h2 with h | h
                        · exact S4.ap q h1 h
                        · have h3 := (S4.r1.lt q h1).2
                          have : wb.drew.heap.size = wb.heap.size := rfl
                          omega⟩
                      have x0 : wb.cell? ⟨b1, o1 + k * 5, none⟩ = some (.int .i64 tk) := Below.cell' BC.out hb1 CC.out.1
                      have x1 : wb.cell? ⟨b1, o1 + k * 5 + 1, none⟩ = some (.int .i64 wy) := Below.cell' BC.out hb1 CC.out.2.1
                      have x2 : wb.cell? ⟨b1, o1 + k * 5 + 2, none⟩ = some (.int .u32 ad) := Below.cell' BC.out hb1 CC.out.2.2.1
                      have x3 : wb.cell? ⟨b1, o1 + k * 5 + 3, none⟩ = some (.int .u16 pt) := Below.cell' BC.out hb1 CC.out.2.2.2.1
                      have x4 : wb.cell? ⟨b1, o1 + k * 5 + 4, none⟩ = some (.slice ra rn rc) := Below.cell' BC.out hb1 CC.out.2.2.2.2
                      clear hin e A9 B9 S4
                      go_wp2_with (at_builtin; refine wpList_of_append rfl (.tmp 170) (.tmp 175) 54 rfl _ _ _ rfl rfl HA.out ?_)
                      go_roundw
                      case rel => exact ⟨k + 1, m1, n2 + 1, ao2, cs2, a9, c9, by omega, by go_num, rfl, rfl, S5⟩
                      case measure => simp [intOf] <;> omega
            · obtain rfl : len = k := by omega
              clear hlt
              have BW := Lib.hid (BL.out.trans (HS.out.bl.mono BL.out.size))
              have hbt : Calls Try.prog 40 #[.slice a len cap, .int .i64 lo, .int .i64 hi] wr (fun e w' => ∃ a' c', e = .returned (.slice a' n1 c') ∧ w'.ownsRow wr.heap.size 72 5 (.slice a' n1 c') n1 (rowL (selL (inB lo hi) Q len)) ∧ Below wr.heap.size wr w') := (between_any w.heap.size a len cap Q lo hi wr (HB.out.keep BW.out) BW.out.size (by omega)).mono (fun e w' h => by
                obtain ⟨a', c', h1, h2, h3⟩ := h
                rw [← HS.out.e1] at h1 h2
                exact ⟨a', c', h1, h2, h3⟩)
              have hof : ∀ z : World, Below wr.heap.size wr z → Calls Try.prog 41 #[.slice a len cap, .agg #[.int .u32 xa, .int .u16 xp]] z (fun e w' => ∃ a' c', e = .returned (.slice a' n2 c') ∧ w'.ownsRow z.heap.size 72 5 (.slice a' n2 c') n2 (rowL (selL (inO xa xp) Q len)) ∧ Below z.heap.size z w') := fun z hz => (of_any w.heap.size a len cap Q xa xp z (HB.out.keep (BW.out.trans (hz.mono BW.out.size))) (Nat.le_trans BW.out.size hz.size) (by omega)).mono (fun e w' h => by
                obtain ⟨a', c', h1, h2, h3⟩ := h
                rw [← HS.out.e2] at h1 h2
                exact ⟨a', c', h1, h2, h3⟩)
              have HBT := Lib.hid hbt
              have HOF := Lib.hid hof
              have hn1b : n1 ≤ 60 := by have := HS.out.e1; omega
              have hn2b : n2 ≤ 60 := by have := HS.out.e2; omega
              clear hbt hof hs1 hs2
              go_wp2_with fail
              refine HBT.out.mono ?_
              rintro e V1 ⟨a', c', rfl, oo, bb⟩
              have B1 := Lib.hid bb
              have Q1 : Hid (Rcds V1.heap.size V1 a' n1 c' (fnR (selL (inB lo hi) Q len))) := Lib.hid (sel_two oo HS.out.e1 (by omega) (sel_ok (fun i hi => ((HB.out.ok i hi).keep (BW.out.trans (bb.mono BW.out.size))).mono (Nat.le_trans BW.out.size bb.size))))
              have Q2 : Hid (Rcds V1.heap.size V1 ao n1 cs (fnR (selL (inB lo hi) Q len))) := Lib.hid (sel_two (own_below HS.out.r1 bb) HS.out.e1 (by omega) (sel_ok (fun i hi => ((HB.out.ok i hi).keep (BW.out.trans (bb.mono BW.out.size))).mono (Nat.le_trans BW.out.size bb.size))))
              clear oo bb
              go_wp2_with fail
              refine (rsame_true V1.heap.size a' ao n1 c' cs _ _ V1 Q1.out Q2.out (Nat.le_refl _) (by omega) (fun i hi => ⟨rfl, rfl, rfl, rfl, rfl, fun _ _ => rfl⟩)).mono ?_
              rintro e V2 ⟨rfl, bb⟩
              have B2 := Lib.hid (B1.out.trans (bb.mono B1.out.size))
              have T2' := Lib.hid (Below.blk (HS.out.bl.trans (B2.out.mono HS.out.bl.size)) TQ.out (lt_of_block TQ.out))
              have t0 : V2.cell? ⟨q, 0, none⟩ = some (.int .u32 xa) := cell_blk T2'.out
              have t1 : V2.cell? ⟨q, 1, none⟩ = some (.int .u16 xp) := cell_blk T2'.out
              clear bb
              go_wp2_with fail
              refine (HOF.out V2 B2.out).mono ?_
              rintro e V3 ⟨a2', c2', rfl, oo, bb⟩
              have B3' := Lib.hid (B2.out.trans (bb.mono B2.out.size))
              have Q3 : Hid (Rcds V3.heap.size V3 a2' n2 c2' (fnR (selL (inO xa xp) Q len))) := Lib.hid (sel_two oo HS.out.e2 (by omega) (sel_ok (fun i hi => ((HB.out.ok i hi).keep (BW.out.trans (B3'.out.mono BW.out.size))).mono (Nat.le_trans BW.out.size B3'.out.size))))
              have Q4 : Hid (Rcds V3.heap.size V3 at' n2 ct (fnR (selL (inO xa xp) Q len))) := Lib.hid (sel_two (own_below HS.out.r2 B3'.out) HS.out.e2 (by omega) (sel_ok (fun i hi => ((HB.out.ok i hi).keep (BW.out.trans (B3'.out.mono BW.out.size))).mono (Nat.le_trans BW.out.size B3'.out.size))))
              clear oo bb t0 t1
              go_wp2_with fail
              refine (rsame_true V3.heap.size a2' at' n2 c2' ct _ _ V3 Q3.out Q4.out (Nat.le_refl _) (by omega) (fun i hi => ⟨rfl, rfl, rfl, rfl, rfl, fun _ _ => rfl⟩)).mono ?_
              rintro e V4 ⟨rfl, bb⟩
              have B4' := Lib.hid (BW.out.trans ((B3'.out.trans (bb.mono B3'.out.size)).mono BW.out.size))
              clear bb
              go_wp2_with fail
              go_ret
              exact ⟨rfl, B4'.out⟩
end Go.Proofs.Ytdmbdageohjodaa
