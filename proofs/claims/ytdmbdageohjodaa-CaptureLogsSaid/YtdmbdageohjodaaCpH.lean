/-
  Chapter 45: the iterator over the records of a file.
-/
import Derived.Test.YtdmbdageohjodaaCpF
import Derived.Test.YtdmbdageohjodaaRange
namespace Go.Proofs.Ytdmbdageohjodaa
open Go.RowKit
set_option linter.unusedVariables false
set_option linter.unusedSimpArgs false
attribute [local irreducible] wpStill wpQuiet MixC.wpMix MixC.wpPick
attribute [local go_sem] MixC.rdOp MixC.rd MixC.rdUpon MixC.mvUpon

abbrev RcE := Rcd × Int
def RcE.enc (x : RcE) : Array Value := #[x.1.agg, .int .i64 x.2]
def zeroR : Rcd := ⟨0, 0, 0, 0, none, 0, 0, fun _ => 0⟩
/-- the records ahead of number k are whole -/
def GoodP (Z : Nat → Int) (n k : Nat) : Prop := ∀ i, i < k → posP Z 0 i < n ∧ errP Z n (posP Z 0 i) = 0
/-- what an element is, handed over -/
def RcG (Z : Nat → Int) (n : Nat) (pre : List RcE) (x : RcE) (W0 W1 : World) : Prop :=
  GoodP Z n pre.length ∧ posP Z 0 pre.length < n ∧ x.2 = errP Z n (posP Z 0 pre.length) ∧ Below W0.heap.size W0 W1 ∧
  (x.2 = 0 → IsRc Z (posP Z 0 pre.length) x.1 ∧ W1.ownsRow W0.heap.size 5 1 (.slice x.1.a x.1.n x.1.c) x.1.n (bytesOf x.1.Z x.1.n))
/-- all have come -/
def RcS (Z : Nat → Int) (n : Nat) (xs : List RcE) : Prop := (GoodP Z n xs.length ∧ posP Z 0 xs.length = n) ∨ ∃ pre x, xs = pre ++ [x] ∧ x.2 ≠ 0
/-- what a round that goes on keeps: the box, and what lies below B -/
def RcK (B gb : Nat) (W W' : World) : Prop := W'.heap[gb]? = W.heap[gb]? ∧ Below B W W'
/-- the iterator's own state -/
structure RcBox (B gb : Nat) (n c : Nat) (Z : Nat → Int) (k : Nat) (w0 wr : World) : Prop where
  bl : Below B w0 wr
  ok : GoodP Z n k
  box : ∃ a, wr.heap[gb]? = some (.cells #[.slice a (n - posP Z 0 k) (c - posP Z 0 k)] 56 (0, 0)) ∧ BS B wr a (n - posP Z 0 k) (c - posP Z 0 k) (shZ Z (posP Z 0 k))
def boxLen (gb : Nat) (w : World) : Nat := match w.cell? ⟨gb, 0, none⟩ with | some (.slice _ n _) => n | _ => 0
theorem boxLen_eq {gb : Nat} {w : World} {a : Option Addr} {n c : Nat} {T : TypeId} (h : w.heap[gb]? = some (.cells #[.slice a n c] T (0, 0))) : boxLen gb w = n := by
  unfold boxLen; rw [show w.cell? ⟨gb, 0, none⟩ = some (.slice a n c) from cell_blk h]
theorem OnePost.elem {Z : Nat → Int} {n : Nat} {w : World} {e : Ending} {w' : World} (h : OnePost Z n w e w') : ∃ (x : RcE) (nn : Nat), e = .returned (.tuple #[x.1.agg, .int .i64 nn, .int .i64 x.2]) ∧ x.2 = oneE Z n ∧ Below w.heap.size w w' ∧
    (x.2 = 0 → nn = 19 + rcM Z ∧ IsRc Z 0 x.1 ∧ w'.ownsRow w.heap.size 5 1 (.slice x.1.a x.1.n x.1.c) x.1.n (bytesOf x.1.Z x.1.n)) := by
  obtain ⟨h | h, hb⟩ := h
  · exact ⟨(zeroR, oneE Z n), 0, h.2, rfl, hb, fun h0 => absurd h0 h.1⟩
  · obtain ⟨h0, a', c', rfl, ho⟩ := h
    refine ⟨(⟨numv Z 0 8, Z 8, numv Z 9 4, numv Z 13 2, a', rcM Z, c', fun i => Z (17 + i)⟩, 0), 19 + rcM Z, rfl, h0.symm, hb, fun _ => ⟨rfl, ⟨rfl, by simp, by simp, by simp, ?_, fun x _ => by simp⟩, ho⟩⟩
    show rcM Z = rcM (shZ Z 0)
    congr 1
    funext i
    simp [shZ]
theorem IsRc.sh {Z : Nat → Int} {p : Nat} {r : Rcd} (h : IsRc (shZ Z p) 0 r) : IsRc Z p r := by
  obtain ⟨h1, h2, h3, h4, h5, h6⟩ := h
  rw [numv_sh] at h1 h3 h4
  rw [shZ_sh] at h5
  refine ⟨h1, ?_, ?_, ?_, h5, fun x hx => ?_⟩
  · rw [h2]; unfold shZ; congr 1
  · rw [h3]
  · rw [h4]
  · rw [h6 x hx]; unfold shZ; congr 1; omega
set_option maxRecDepth 100000 in
set_option maxHeartbeats 4000000 in
theorem records_seq (B gb : Nat) (a : Option Addr) (n c : Nat) (Z : Nat → Int) (w0 : World) (hb : BS B w0 a n c Z) (hgb : w0.heap[gb]? = some (.cells #[.slice a n c] 56 (0, 0))) (hB : B ≤ gb) (hn : n ≤ 80000) :
    SeqW Try.prog 103 #[.pointer (some ⟨gb, 0, none⟩)] RcE.enc (some gb) (RcG Z n) (RcS Z n) (fun _ => True) (fun _ _ => RcK B gb) w0 := by
  intro l J Jx W hW hJ hJx hY h0
  have hlt := lt_of_block hgb
  have HB := Lib.hid hb
  have HJ := Lib.hid hJ
  have HY := Lib.hid hY
  have S0 : Hid (RcBox B gb n c Z 0 w0 W) := Lib.hid ⟨hW.mono (by omega), fun i hi => by omega, a, by
    rw [show posP Z 0 0 = 0 from rfl, Nat.sub_zero, Nat.sub_zero]; exact Below.blk hW hgb hlt, by
    rw [show posP Z 0 0 = 0 from rfl, Nat.sub_zero, Nat.sub_zero]; exact (hb.keep (hW.mono (by omega))).congr (fun i _ => by simp [shZ])⟩
  have hle := hb.le
  have hmx := hb.max
  clear hb hJ hJx hY hW hgb
  refine callsIn_wide.2 ?_
  show Calls Try.prog 103 #[.func (.yield l) #[] #[], .pointer (some ⟨gb, 0, none⟩)] W _
  go_enter Try.func103, Try.ntmps103
  go_wp2_with fail
  go_loopw [4] (fun _ wr => ∃ pre : List RcE, J pre wr ∧ Hid (RcBox B gb n c Z pre.length w0 wr)) (fun _ wr => boxLen gb wr)
  case atStart => exact ⟨[], h0, S0⟩
  case round =>
    obtain ⟨pre, hJp, HS⟩ := hrel
    obtain ⟨p, hp⟩ : ∃ p, posP Z 0 pre.length = p := ⟨_, rfl⟩
    obtain ⟨bx, hbox, hbs⟩ := HS.out.box
    rw [hp] at hbox hbs
    obtain ⟨m, hm⟩ : ∃ m, n - p = m := ⟨_, rfl⟩
    obtain ⟨cc, hcc⟩ : ∃ cc, c - p = cc := ⟨_, rfl⟩
    rw [hm, hcc] at hbox hbs
    have hpn := (posP_lt HS.out.ok (by omega)).1
    rw [hp] at hpn
    have hml := hbs.le
    have HBX := Lib.hid hbox
    have HBS := Lib.hid hbs
    have t0 : wr.cell? ⟨gb, 0, none⟩ = some (.slice bx m cc) := cell_blk hbox
    have HP := Lib.hid hp
    clear hbox hbs hp
    by_cases hm0 : m = 0
    · subst hm0
      go_wp2_with fail
      go_end0
      exact ⟨⟨_, rfl⟩, .inl ⟨pre, .inl ⟨HS.out.ok, by rw [HP.out]; omega⟩, hJp⟩⟩
    · have d1 : decide (0 < m) = true := by simp; omega
      go_wp2_with fail
      refine (one_any B bx m cc (shZ Z p) wr HBS.out (by have := lt_of_block HBX.out; omega) (by omega)).mono ?_
      rintro e V1 hpo
      obtain ⟨⟨⟨tk, wy, ad, pt, ra, rn, rc, rZ⟩, E⟩, nn, rfl, hE, bv, hok⟩ := hpo.elem
      simp only at hE hok
      have HOK := Lib.hid hok
      have HE := Lib.hid hE
      have BV := Lib.hid bv
      clear hpo hok hE bv t0
      simp only [Rcd.agg]
      obtain ⟨g, hg⟩ : ∃ g, V1.heap.size = g := ⟨_, rfl⟩
      have hgw : wr.heap.size ≤ g := by rw [← hg]; exact BV.out.size
      go_upto_region 2 with (fail)
      obtain ⟨X, hX⟩ : ∃ X, V1.alloc (.cells #[.int .i64 tk, .int .i64 wy, .int .u32 ad, .int .u16 pt, .slice ra rn rc] 72) = X := ⟨_, rfl⟩
      rw [hX]
      have x1 : X.heap[g]? = some (rcO tk wy ad pt ra rn rc) := by rw [← hX, ← hg]; exact alloc_blk_new
      have dx : Below wr.heap.size wr X := by rw [← hX]; exact BV.out.alloc BV.out.size _
      have rx : E = 0 → X.ownsRow wr.heap.size 5 1 (.slice ra rn rc) rn (bytesOf rZ rn) := fun h => by rw [← hX]; exact own_below (HOK.out h).2.2 ((Below.refl _ _).alloc (Nat.le_refl _) _)
      have GX : Hid (X.heap[gb]? = some (.cells #[.slice bx m cc] 56 (0, 0))) := Lib.hid (Below.blk dx HBX.out (lt_of_block HBX.out))
      have r0 : X.cell? ⟨g, 0, none⟩ = some (.int .i64 tk) := cell_blk x1
      have r1 : X.cell? ⟨g, 1, none⟩ = some (.int .i64 wy) := cell_blk x1
      have r2 : X.cell? ⟨g, 2, none⟩ = some (.int .u32 ad) := cell_blk x1
      have r3 : X.cell? ⟨g, 3, none⟩ = some (.int .u16 pt) := cell_blk x1
      have r4 : X.cell? ⟨g, 4, none⟩ = some (.slice ra rn rc) := cell_blk x1
      have hEr : E = errP Z n p := by rw [HE.out]; unfold errP; rw [hm]
      obtain ⟨fn, tmps, assign, body, hy, hR⟩ := HY.out pre (⟨tk, wy, ad, pt, ra, rn, rc, rZ⟩, E) wr X hJp (But.of_below dx) ⟨HS.out.ok, by rw [HP.out]; omega, by rw [HP.out]; exact hEr, dx, fun h => ⟨by rw [HP.out]; exact IsRc.sh (HOK.out h).2.1, rx h⟩⟩
      simp only [RcE.enc, Rcd.agg] at hy
      have DX := Lib.hid dx
      have HR := Lib.hid hR
      clear hR dx rx x1 hX hEr
      refine (wpIn_wide (n := 0)).1 ?_
      refine wpIn_region_lit ?_
      gi_wp2_with fail
      refine ⟨rfl, HR.out.mono ?_⟩
      clear r0 r1 r2 r3 r4 hy
      rintro e W' (⟨rfl, hJ', hk1, hk2⟩ | ⟨rfl, hJx'⟩)
      · by_cases hE0 : E = 0
        · subst hE0
          obtain ⟨hnn, -, -⟩ := HOK.out rfl
          have hle2 := errP_ok (Z := Z) (n := n) (p := p) (by unfold errP; rw [hm]; exact HE.out.symm)
          have hnx : nxtP Z p = p + nn := by unfold nxtP; rw [hnn]
          rw [hnx] at hle2
          have hk0 : (nn : Int) ≤ m := by omega
          have hk3 : (nn : Int) ≤ cc := by omega
          have hk4 : nn ≤ cc := by omega
          obtain ⟨bb, ob, hpb, -⟩ := HBS.out.mem
          obtain ⟨rfl, hbb⟩ := hpb (by omega)
          have G3 : W'.heap[gb]? = some (.cells #[.slice (some ⟨bb, ob, none⟩) m cc] 56 (0, 0)) := hk1.trans GX.out
          have t0 : W'.cell? ⟨gb, 0, none⟩ = some (.slice (some ⟨bb, ob, none⟩) m cc) := cell_blk G3
          have t1 : W'.frozen? ⟨gb, 0, none⟩ = false := free_blk G3
          have HBW : Hid (BS B W' (some ⟨bb, ob, none⟩) m cc (shZ Z p)) := Lib.hid (HBS.out.keep ((DX.out.mono (by have := lt_of_block HBX.out; omega)).trans hk2))
          have HBL : Hid (Below B w0 W') := Lib.hid (HS.out.bl.trans ((DX.out.mono (by have := lt_of_block HBX.out; omega)).trans hk2))
          have HNX := Lib.hid hnx
          have HNN := Lib.hid hnn
          have HJ2 := Lib.hid hJ'
          have HG3 := Lib.hid G3
          clear hJ' hk1 hk2 hpb G3 hnx hnn
          gi_wp2_with fail
          have hm' : n - (p + nn) = m - nn := by omega
          have hc' : c - (p + nn) = cc - nn := by omega
          have hgood : GoodP Z n (pre ++ [((⟨tk, wy, ad, pt, ra, rn, rc, rZ⟩ : Rcd), (0 : Int))]).length := fun i hi => by
            rw [List.length_append, List.length_singleton] at hi
            rcases Nat.lt_or_ge i pre.length with h | h
            · exact HS.out.ok i h
            · have : i = pre.length := by omega
              subst this
              rw [HP.out]
              exact ⟨by omega, by unfold errP; rw [hm]; exact HE.out.symm⟩
          have hpos : posP Z 0 (pre ++ [((⟨tk, wy, ad, pt, ra, rn, rc, rZ⟩ : Rcd), (0 : Int))]).length = p + nn := by
            rw [List.length_append, List.length_singleton]
            show nxtP Z (posP Z 0 pre.length) = _
            rw [HP.out, HNX.out]
          have hsh : (fun x => shZ Z p (nn + x)) = shZ Z (p + nn) := by funext x; simp [shZ, Nat.add_assoc]
          have HGO := Lib.hid hgood
          have HPO := Lib.hid hpos
          clear hgood hpos
          by_cases hcc : cc = nn
          · subst hcc
            go_wp2_with fail
            have hn19 := HNN.out
            have gset : (W'.setCell ⟨gb, 0, none⟩ (.slice (some ⟨bb, ob, none⟩) 0 0)).heap[gb]? = some (.cells #[(.slice (some ⟨bb, ob, none⟩) 0 0)] 56 (0, 0)) := by rw [set_blk _ HG3.out]; rfl
            refine ⟨⟨pre ++ [((⟨tk, wy, ad, pt, ra, rn, rc, rZ⟩ : Rcd), (0 : Int))], HJ.out _ _ _ HJ2.out ((But.refl _ _).set 0 _), Lib.hid ⟨HBL.out.setCell (p := ⟨gb, 0, none⟩) hB _, HGO.out, ?_⟩⟩, ?_⟩
            · rw [HPO.out, hm', hc', ← hsh]
              have e1 : m - cc = 0 := by omega
              rw [e1, Nat.sub_self]
              refine ⟨_, gset, ?_⟩
              have := (HBW.out.drop0 (a' := some ⟨bb, ob, none⟩) cc rfl).keep ((Below.refl _ _).setCell (p := ⟨gb, 0, none⟩) hB (.slice (some ⟨bb, ob, none⟩) 0 0))
              rw [e1, Nat.sub_self] at this
              exact this
            · rw [boxLen_eq gset, boxLen_eq HBX.out]; omega
          · have hcc2 : ¬ cc - nn = 0 := by omega
            go_wp2_with fail
            have hn19 := HNN.out
            have gset : (W'.setCell ⟨gb, 0, none⟩ (.slice (some ⟨bb, ob + nn, none⟩) (m - nn) (cc - nn))).heap[gb]? = some (.cells #[(.slice (some ⟨bb, ob + nn, none⟩) (m - nn) (cc - nn))] 56 (0, 0)) := by rw [set_blk _ HG3.out]; rfl
            refine ⟨⟨pre ++ [((⟨tk, wy, ad, pt, ra, rn, rc, rZ⟩ : Rcd), (0 : Int))], HJ.out _ _ _ HJ2.out ((But.refl _ _).set 0 _), Lib.hid ⟨HBL.out.setCell (p := ⟨gb, 0, none⟩) hB _, HGO.out, ?_⟩⟩, ?_⟩
            · rw [HPO.out, hm', hc', ← hsh]
              exact ⟨_, gset, (HBW.out.drop nn (by omega) (by omega)).keep ((Below.refl _ _).setCell (p := ⟨gb, 0, none⟩) hB _)⟩
            · rw [boxLen_eq gset, boxLen_eq HBX.out]; omega
        · have d2 : decide (E = 0) = false := by simpa using hE0
          gi_wp2_with fail
          go_wp2_with fail
          refine bodyPost_ret (results_none rfl _ _ _) rfl ?_
          exact ⟨⟨_, rfl⟩, .inl ⟨_, .inr ⟨pre, _, rfl, hE0⟩, hJ'⟩⟩
      · gi_wp2_with fail
        go_wp2_with fail
        refine bodyPost_ret (results_none rfl _ _ _) rfl ?_
        exact ⟨⟨_, rfl⟩, .inr ⟨_, trivial, hJx'⟩⟩
end Go.Proofs.Ytdmbdageohjodaa
