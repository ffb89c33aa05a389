/-
  Chapter 12: the iterator over the attributes of a message.
-/
import Derived.Test.YtkoplofcjbeicaaStD
import Derived.Test.YtkoplofcjbeicaaRange
import Derived.BigQuiet
namespace Go.Proofs.Ytkoplofcjbeicaa
open Go.RowKit
set_option linter.unusedVariables false
set_option linter.unusedSimpArgs false
attribute [local irreducible] wpStill wpQuiet MixC.wpMix
attribute [local go_sem] MixC.rdOp MixC.rd MixC.rdUpon MixC.mvUpon

theorem sizeU8 (W : World) : (sizeOf 5).run Try.prog W = .ok 1 W := by kernel_rfl
/-- bytes cut out of bytes -/
theorem sl_cut {B : Nat} {w : World} {b off n c : Nat} {Z : Nat → Int} (h : BS B w (some ⟨b, off, none⟩) n c Z) (l hi : Nat) (hl : l ≤ hi) (hh : hi ≤ n) (kl kh : IntKind) :
    ∃ A, (∀ W, (Instr.slice 22 (.slice (some ⟨b, off, none⟩) n c) (some (.int kl (l : Int))) (some (.int kh (hi : Int))) none).run Try.prog W = .ok (.slice A (hi - l) (c - l)) W) ∧ BS B w A (hi - l) (c - l) (shA Z l) := by
  have hu := Try.underlying22
  have he : Try.prog.elem 22 = 5 := by unfold Program.elem; rw [hu]
  have hcn := h.le
  refine ⟨if c = l then some ⟨b, off, none⟩ else some ⟨b, off + l, none⟩, fun W => ?_, ?_⟩
  · rw [run_slice_lh W 22 _ n c (by rw [hu, he]) kl kh l hi (by omega) (by omega) (by omega), he, sizeU8]
    by_cases hcl : c = l
    · simp [sliced, hcl]
    · simp [sliced, hcl, addr_add]
  · by_cases hcl : c = l
    · rw [if_pos hcl]
      exact ⟨by omega, by have := h.max; omega, fun i hi' => by omega, 0, 0, fun h => by omega, fun i hi' => by omega⟩
    · rw [if_neg hcl]
      obtain ⟨h1, h2, h3, b', off', h4, h5⟩ := h
      obtain ⟨h6, h7⟩ := h4 (by omega)
      cases h6
      refine ⟨by omega, by omega, fun i hi' => h3 _ (by omega), b, off + l, fun _ => ⟨rfl, h7⟩, fun i hi' => ?_⟩
      rw [Nat.add_assoc]
      exact h5 (l + i) (by omega)
/-- from a place on -/
theorem sl_tail {B : Nat} {w : World} {b off n c : Nat} {Z : Nat → Int} (h : BS B w (some ⟨b, off, none⟩) n c Z) (l : Nat) (hl : l ≤ n) (kl : IntKind) :
    ∃ A, (∀ W, (Instr.slice 22 (.slice (some ⟨b, off, none⟩) n c) (some (.int kl (l : Int))) none none).run Try.prog W = .ok (.slice A (n - l) (c - l)) W) ∧ BS B w A (n - l) (c - l) (shA Z l) := by
  have hu := Try.underlying22
  have he : Try.prog.elem 22 = 5 := by unfold Program.elem; rw [hu]
  have hcn := h.le
  refine ⟨if c = l then some ⟨b, off, none⟩ else some ⟨b, off + l, none⟩, fun W => ?_, ?_⟩
  · rw [run_slice_l W 22 _ n c (by rw [hu, he]) kl l (by omega) (by omega), he, sizeU8]
    by_cases hcl : c = l
    · simp [sliced, hcl]
    · simp [sliced, hcl, addr_add]
  · by_cases hcl : c = l
    · rw [if_pos hcl]
      exact ⟨by omega, by have := h.max; omega, fun i hi' => by omega, 0, 0, fun h => by omega, fun i hi' => by omega⟩
    · rw [if_neg hcl]
      obtain ⟨h1, h2, h3, b', off', h4, h5⟩ := h
      obtain ⟨h6, h7⟩ := h4 (by omega)
      cases h6
      refine ⟨by omega, by omega, fun i hi' => h3 _ (by omega), b, off + l, fun _ => ⟨rfl, h7⟩, fun i hi' => ?_⟩
      rw [Nat.add_assoc]
      exact h5 (l + i) (by omega)
structure AtE where
  e : At
  st : Nat
  ok : Bool
def AtE.enc (x : AtE) : Array Value := #[.agg #[.int .u16 x.e.t, .slice x.e.a x.e.n x.e.c], .bool x.ok]
def AtE.key (x : AtE) : Key := (x.e.t, x.st, x.e.n)
def AllOkA (l : List AtE) : Prop := ∀ y ∈ l, y.ok = true
def StG (Z : Nat → Int) (n : Nat) (pre : List AtE) (x : AtE) (W0 W1 : World) : Prop :=
  AllOkA pre ∧ Below W0.heap.size W0 W1 ∧ (x.ok = true → (∃ suf b, prsA Z n 0 = (pre.map AtE.key ++ x.key :: suf, b)) ∧ x.e.Z = shA Z x.st ∧ (0 ≤ x.e.t ∧ x.e.t ≤ 65535 ∧ x.e.n ≤ 255) ∧ W1.ownsRow W0.heap.size 5 1 (.slice x.e.a x.e.n x.e.c) x.e.n (bytesOf (shA Z x.st) x.e.n)) ∧ (x.ok = false → prsA Z n 0 = (pre.map AtE.key, false))
def StS (Z : Nat → Int) (n : Nat) (xs : List AtE) : Prop := (AllOkA xs ∧ prsA Z n 0 = (xs.map AtE.key, true)) ∨ ∃ pre x, xs = pre ++ [x] ∧ x.ok = false
def StK (B gb : Nat) (W W' : World) : Prop := W'.heap[gb]? = W.heap[gb]? ∧ Below B W W'
/-- the iterator's own state -/
structure StI (B gb n c : Nat) (Z : Nat → Int) (p : Nat) (w0 wr : World) : Prop where
  bl : Below B w0 wr
  pn : p ≤ n
  box : ∃ a, wr.heap[gb]? = some (.cells #[.slice a (n - p) (c - p)] 22 (0, 0)) ∧ BS B wr a (n - p) (c - p) (shA Z p)
def boxLenA (gb : Nat) (w : World) : Nat := match w.cell? ⟨gb, 0, none⟩ with | some (.slice _ n _) => n | _ => 0
theorem boxLenA_eq {gb : Nat} {w : World} {a : Option Addr} {n c : Nat} {T : TypeId} (h : w.heap[gb]? = some (.cells #[.slice a n c] T (0, 0))) : boxLenA gb w = n := by
  unfold boxLenA; rw [show w.cell? ⟨gb, 0, none⟩ = some (.slice a n c) from cell_blk h]
theorem StI.len {B gb n c : Nat} {Z : Nat → Int} {p : Nat} {w0 wr : World} (h : StI B gb n c Z p w0 wr) : boxLenA gb wr = n - p := by
  obtain ⟨a, h1, _⟩ := h.box
  exact boxLenA_eq h1
/-- the box goes on -/
theorem StI.adv {B gb n c : Nat} {Z : Nat → Int} {p : Nat} {w0 W : World} {v0 : Value} (hbl : Below B w0 W) (hbox : W.heap[gb]? = some (.cells #[v0] 22 (0, 0))) (hB : B ≤ gb) (k : Nat) (hk : p + k ≤ n) {A : Option Addr} (hbs : BS B W A (n - p - k) (c - p - k) (shA (shA Z p) k)) :
    StI B gb n c Z (p + k) w0 (W.setCell ⟨gb, 0, none⟩ (.slice A (n - p - k) (c - p - k))) := by
  have hst : Below B W (W.setCell ⟨gb, 0, none⟩ (.slice A (n - p - k) (c - p - k))) := (Below.refl B W).setCell (p := ⟨gb, 0, none⟩) hB _
  refine ⟨hbl.trans hst, hk, A, ?_, ?_⟩
  · rw [set_blk _ hbox, Nat.sub_add_eq, Nat.sub_add_eq]; rfl
  · rw [Nat.sub_add_eq, Nat.sub_add_eq, ← shA_shA]
    exact hbs.keep hst
theorem attrs_any (a : Option Addr) (n c : Nat) (w : World) : Calls Try.prog 41 #[.slice a n c] w fun e w' => e = .returned (.func (.func 70) #[] #[.pointer (some ⟨w.heap.size, 0, none⟩)]) ∧ w' = w.alloc (.cells #[.slice a n c] 22) := by
  go_enter Try.func41, Try.ntmps41
  go_wp2_with fail
  go_ret
  exact ⟨rfl, rfl⟩
theorem typA_sh (Z : Nat → Int) (p q : Nat) : typA (shA Z p) q = typA Z (p + q) := by unfold typA shA; rw [Nat.add_assoc]
theorem cell_keepA {w w' : World} (hb : Below w.heap.size w w') {b i : Nat} {v : Value} (h : w.cell? ⟨b, i, none⟩ = some v) : w'.cell? ⟨b, i, none⟩ = some v := Below.cell' hb (World.block_lt_of_cell? _ _ h) h
set_option maxRecDepth 100000 in
set_option maxHeartbeats 8000000 in
theorem attrs_seq (B gb : Nat) (a : Option Addr) (n c : Nat) (Z : Nat → Int) (w0 : World) (hb : BS B w0 a n c Z) (hgb : w0.heap[gb]? = some (.cells #[.slice a n c] 22 (0, 0))) (hB : B ≤ gb) (hn : n ≤ 80000) :
    SeqW Try.prog 70 #[.pointer (some ⟨gb, 0, none⟩)] AtE.enc (some gb) (StG Z n) (StS Z n) (fun _ => True) (fun _ _ => StK B gb) w0 := by
  intro l J Jx W hW hJ hJx hY h0
  have hlt := lt_of_block hgb
  have HJ := Lib.hid hJ
  have HY := Lib.hid hY
  have S0 : Hid (StI B gb n c Z 0 w0 W) := Lib.hid ⟨hW.mono (by omega), Nat.zero_le _, a, by
    rw [Nat.sub_zero, Nat.sub_zero]; exact Below.blk hW hgb hlt, by
    rw [Nat.sub_zero, Nat.sub_zero, shA0]; exact hb.keep (hW.mono (by omega))⟩
  have HBD : Hid (Bd Z n) := Lib.hid hb.bd
  have hle := hb.le
  have hmx := hb.max
  clear hb hJ hJx hY hW hgb
  refine callsIn_wide.2 ?_
  show Calls Try.prog 70 #[.func (.yield l) #[] #[], .pointer (some ⟨gb, 0, none⟩)] W _
  go_enter Try.func70, Try.ntmps70
  go_wp2_with fail
  go_loopw [] (fun wr => ∃ (p : Nat) (pre : List AtE), J pre wr ∧ Hid (StI B gb n c Z p w0 wr) ∧ Hid (AllOkA pre ∧ prsA Z n 0 = (pre.map AtE.key ++ (prsA Z n p).1, (prsA Z n p).2))) (fun wr => boxLenA gb wr)
  case atStart => exact ⟨0, [], h0, S0, Lib.hid ⟨fun y hy => (by cases hy), (by rw [List.map_nil, List.nil_append])⟩⟩
  case round =>
    obtain ⟨p, pre, hJp, HS, HP⟩ := hrel
    have HJP := Lib.hid hJp
    clear hJp
    obtain ⟨bx, hbox, hbs⟩ := HS.out.box
    have hpn := HS.out.pn
    have hml := hbs.le
    by_cases hm0 : p < n
    · obtain ⟨bb, ob, hpb, hcb⟩ := hbs.mem
      obtain ⟨rfl, hbb⟩ := hpb (by omega)
      obtain ⟨m, hm⟩ : ∃ m, n - p = m := ⟨_, rfl⟩
      obtain ⟨cc, hcc⟩ : ∃ cc, c - p = cc := ⟨_, rfl⟩
      rw [hm, hcc] at hbs
      have HBX := Lib.hid hbox
      have HBS := Lib.hid hbs
      have t0 : wr.cell? ⟨gb, 0, none⟩ = some (.slice (some ⟨bb, ob, none⟩) m cc) := by rw [← hm, ← hcc]; exact cell_blk hbox
      have tf : wr.frozen? ⟨gb, 0, none⟩ = false := free_blk hbox
      have HM := Lib.hid hm
      have HCC := Lib.hid hcc
      have hmi : (0 : Int) < m := by omega
      have hm1 : 0 < m := by omega
      have hmc : m ≤ cc := by omega
      have hgl := lt_of_block hbox
      have N0 := num_at B _ m cc (shA Z p) 0 2 wr hbs (by omega) (by omega) (by omega)
      have N2 := num_at B _ m cc (shA Z p) 2 2 wr hbs (by omega) (by omega) (by omega)
      rw [numv_two, typA_sh] at N0 N2
      simp only [Nat.zero_add, Nat.add_zero, Nat.reduceAdd] at N0 N2
      clear hpb hcb hm hcc hbox
      by_cases h4 : 4 ≤ m
      · rw [if_pos h4, decide_eq_true h4] at N2
        rw [if_pos (by omega), decide_eq_true (by omega)] at N0
        have hp4 : p + 4 ≤ n := by have := HM.out; omega
        obtain ⟨L, hL⟩ : ∃ L, lenA Z p = L := ⟨_, rfl⟩
        have hLc : typA Z (p + 2) = (L : Int) := by rw [← hL, lenA_cast HBD.out hp4]
        have hLb : L ≤ 65535 := by have := (typA_bd HBD.out (show p + 2 + 2 ≤ n by omega)).2; omega
        have tb := typA_bd HBD.out (show p + 2 ≤ n by omega)
        obtain ⟨t, ht⟩ : ∃ t, typA Z p = t := ⟨_, rfl⟩
        rw [hLc] at N2
        rw [ht] at N0 tb
        obtain ⟨P, hPd⟩ : ∃ P, padN L 4 = P := ⟨_, rfl⟩
        have hP3 : P ≤ 3 := by rw [← hPd]; exact padN_4 L
        obtain ⟨q, hq⟩ : ∃ q, L + P = q := ⟨_, rfl⟩
        have PD := padded_any L wr (by omega)
        rw [hPd, hq] at PD
        have HPD := Lib.hid PD
        have HN0 := Lib.hid N0
        have HN2 := Lib.hid N2
        have hkey : keyA Z p = (t, p + 4, L) := by unfold keyA; rw [ht, hL]
        have hsiz : sizA Z p = 4 + q := by unfold sizA padA; rw [hL, hPd]; omega
        have hgood : goodA Z n p ↔ (L ≤ 255 ∧ 4 + q ≤ m ∧ ∀ i, i < P → shA (shA Z p) (4 + L) i = 0) := by
          unfold goodA zerA padA
          rw [hL, hPd, hsiz]
          have e : ∀ i, Z (p + 4 + L + i) = shA (shA Z p) (4 + L) i := fun i => by unfold shA; congr 1; omega
          simp only [e]
          have := HM.out
          constructor
          · rintro ⟨g1, g2, g3, g4⟩; exact ⟨g2, by omega, g4⟩
          · rintro ⟨g2, g3, g4⟩; exact ⟨hp4, g2, by omega, g4⟩
        have HG := Lib.hid hgood
        have HKY := Lib.hid hkey
        have HSZ := Lib.hid hsiz
        have wl : IntKind.i64.wrap (L : Int) = (L : Int) := IntWalk.i64_in _ (by omega)
        have wS : IntKind.i64.wrap (4 + (q : Int)) = 4 + (q : Int) := IntWalk.i64_in _ (by omega)
        have wu : IntKind.u64.wrap (4 + (L : Int)) = 4 + (L : Int) := by rw [IntKind.wrap_u64]; omega
        have hqb : q ≤ 70000 := by omega
        have hLq : L ≤ q := by omega
        have HPQ : Hid (4 + q - (4 + L) = P) := Lib.hid (by omega)
        clear N0 N2 PD hLc ht hPd hq hkey hsiz hgood hL
        go_wp2_with fail
        refine HN0.out.mono ?_
        rintro e w' ⟨rfl, rfl⟩
        go_wp2_with fail
        refine HN2.out.mono ?_
        rintro e w' ⟨rfl, rfl⟩
        go_wp2_with fail
        refine HPD.out.mono ?_
        rintro e w' ⟨rfl, rfl⟩
        clear HN0 HN2 HPD
        by_cases hg : goodA Z n p
        · obtain ⟨g1, g2, g3⟩ := HG.out.1 hg
          obtain ⟨A4, hs4, bs4⟩ := sl_cut HBS.out (4 + L) (4 + q) (by omega) g2 .u64 .i64
          rw [HPQ.out, show ((4 + L : Nat) : Int) = 4 + (L : Int) by omega, show ((4 + q : Nat) : Int) = 4 + (q : Int) by omega] at hs4
          rw [HPQ.out] at bs4
          have HNZ := Lib.hid (nz12_any B A4 P (cc - (4 + L)) _ wr bs4 (by omega))
          have HG3 := Lib.hid g3
          have h255 : ¬ (255 : Int) < L := by omega
          have hqm : ¬ (m : Int) < 4 + (q : Int) := by omega
          have hnx : prsA Z n p = ((t, p + 4, L) :: (prsA Z n (p + (4 + q))).1, (prsA Z n (p + (4 + q))).2) := by rw [prsA, dif_pos hm0, if_pos hg, HKY.out, HSZ.out]
          have HNX := Lib.hid hnx
          clear hg g3 bs4 hnx hbs
          go_wp2_with fail
          refine HNZ.out.mono ?_
          rintro e w' ⟨z, rfl, hz, rfl⟩
          obtain rfl : z = false := hz.2 HG3.out
          obtain ⟨A6, hs6, bs6⟩ := sl_cut HBS.out 4 (4 + L) (by omega) (by omega) .i64 .u64
          rw [show ((4 : Nat) : Int) = 4 from rfl, show ((4 + L : Nat) : Int) = 4 + (L : Int) by omega, show 4 + L - 4 = L by omega] at hs6
          rw [show 4 + L - 4 = L by omega] at bs6
          have bs6' : BS B wr A6 L (cc - 4) (shA Z (p + 4)) := by rw [← shA_shA]; exact bs6
          have HB6 := Lib.hid bs6'
          have wt : IntKind.u16.wrap t = t := by rw [IntKind.wrap_u16]; omega
          have hVs : B ≤ wr.heap.size := by omega
          clear hz hs4 HNZ HG3 bs6 bs6'
          go_upto_region 6 with (fail)
          clear h255 hqm
          refine (wpIn_wide (n := 0)).1 ?_
          refine wpIn_region_lit ?_
          gi_wp2_with fail
          refine ⟨trivial, rfl, ?_⟩
          refine callsIn_wide.2 ((clone_any B A6 L (cc - 4) _ wr HB6.out hVs (by omega)).mono ?_)
          rintro e V2 ⟨a', c', rfl, hown, hbl2⟩
          obtain ⟨fn, tmps, assign, body, hy, hR⟩ := HY.out pre ⟨⟨t, a', L, c', shA Z (p + 4)⟩, p + 4, true⟩ wr V2 HJP.out (But.of_below hbl2) ⟨HP.out.1, hbl2, fun _ => ⟨⟨(prsA Z n (p + (4 + q))).1, (prsA Z n (p + (4 + q))).2, by
            have h := HP.out.2
            rw [HNX.out] at h
            exact h⟩, rfl, ⟨tb.1, tb.2, g1⟩, hown⟩, fun h => (by cases h)⟩
          simp only [AtE.enc] at hy
          have HR := Lib.hid hR
          have HBL2 := Lib.hid hbl2
          clear hR hown hbl2 hs6
          gi_wp2_with fail
          refine ⟨rfl, HR.out.mono ?_⟩
          clear hy t0 tf
          rintro e W' (⟨rfl, hJ', hk1, hk2⟩ | ⟨rfl, hJx'⟩)
          · have G3 : W'.heap[gb]? = wr.heap[gb]? := hk1.trans ((Below.blk HBL2.out HBX.out (lt_of_block HBX.out)).trans HBX.out.symm)
            have B3 : Below B wr W' := (HBL2.out.mono hVs).trans hk2
            have X3 := G3.trans HBX.out
            rw [HM.out, HCC.out] at X3
            have t0 : W'.cell? ⟨gb, 0, none⟩ = some (.slice (some ⟨bb, ob, none⟩) m cc) := cell_blk X3
            have t1 : W'.frozen? ⟨gb, 0, none⟩ = false := free_blk X3
            obtain ⟨A9, hs9, bs9⟩ := sl_tail (HBS.out.keep B3) (4 + q) g2 .i64
            rw [show ((4 + q : Nat) : Int) = 4 + (q : Int) by omega] at hs9
            have E9 : StI B gb n c Z (p + (4 + q)) w0 (W'.setCell ⟨gb, 0, none⟩ (.slice A9 (m - (4 + q)) (cc - (4 + q)))) := by
              have h := StI.adv (c := c) (p := p) (n := n) (w0 := w0) (HS.out.bl.trans B3) X3 hB (4 + q) (by have := HM.out; omega) (A := A9) (by rw [HM.out, HCC.out]; exact bs9)
              rw [HM.out, HCC.out] at h
              exact h
            have HE9 := Lib.hid E9
            have HJ2 := Lib.hid hJ'
            have HP1 : Hid (AllOkA (pre ++ [((⟨⟨t, a', L, c', shA Z (p + 4)⟩, p + 4, true⟩) : AtE)]) ∧ prsA Z n 0 = ((pre ++ [((⟨⟨t, a', L, c', shA Z (p + 4)⟩, p + 4, true⟩) : AtE)]).map AtE.key ++ (prsA Z n (p + (4 + q))).1, (prsA Z n (p + (4 + q))).2)) := Lib.hid ⟨fun y hy => by
              rcases List.mem_append.1 hy with h | h
              · exact HP.out.1 y h
              · rw [List.mem_singleton.1 h], by
              have h := HP.out.2
              rw [HNX.out] at h
              rw [h, List.map_append, List.append_assoc]
              rfl⟩
            have hqm2 : (4 + (q : Int)) ≤ m := by omega
            clear hJ' hk1 hk2 G3 B3 X3 E9 bs9
            gi_wp2_with fail
            go_wp2_with fail
            exact ⟨⟨p + (4 + q), pre ++ [⟨⟨t, a', L, c', shA Z (p + 4)⟩, p + 4, true⟩], HJ.out _ _ _ HJ2.out ((But.refl _ _).set 0 _), HE9, HP1⟩, by rw [HE9.out.len, HS.out.len]; have := HM.out; omega⟩
          · gi_wp2_with fail
            go_wp2_with fail
            refine bodyPost_ret (results_none rfl _ _ _) rfl ?_
            exact ⟨⟨_, rfl⟩, .inr ⟨_, trivial, hJx'⟩⟩
        · have hend : prsA Z n p = ([], false) := by rw [prsA, dif_pos hm0, if_neg hg]
          have hP := HP.out
          rw [hend, List.append_nil] at hP
          have HP2 := Lib.hid hP
          obtain ⟨fn, tmps, assign, body, hy, hR⟩ := HY.out pre ⟨⟨0, none, 0, 0, fun _ => 0⟩, 0, false⟩ wr wr HJP.out (But.refl _ _) ⟨HP2.out.1, Below.refl _ _, fun h => (by cases h), fun _ => HP2.out.2⟩
          simp only [AtE.enc] at hy
          have HR := Lib.hid hR
          have HNG := Lib.hid hg
          clear hR hP hend hbs hg
          by_cases h255' : 255 < L
          case' pos =>
            have h255 : (255 : Int) < L := by omega
            go_upto_region 5 with (fail)
          case' neg =>
            have h255 : ¬ (255 : Int) < L := by omega
            by_cases hqm' : m < 4 + q
            case' pos =>
              have hqm : (m : Int) < 4 + (q : Int) := by omega
              go_upto_region 5 with (fail)
            case' neg =>
              have hqm : ¬ (m : Int) < 4 + (q : Int) := by omega
              obtain ⟨A4, hs4, bs4⟩ := sl_cut HBS.out (4 + L) (4 + q) (by omega) (by omega) .u64 .i64
              rw [HPQ.out, show ((4 + L : Nat) : Int) = 4 + (L : Int) by omega, show ((4 + q : Nat) : Int) = 4 + (q : Int) by omega] at hs4
              rw [HPQ.out] at bs4
              have HNZ := Lib.hid (nz12_any B A4 P (cc - (4 + L)) _ wr bs4 (by omega))
              clear bs4
              go_wp2_with fail
              refine HNZ.out.mono ?_
              rintro e w' ⟨z, rfl, hz, rfl⟩
              obtain rfl : z = true := by
                cases z
                · exact absurd (HG.out.2 ⟨by omega, by omega, hz.1 rfl⟩) HNG.out
                · rfl
              clear hz hs4 HNZ
              go_upto_region 5 with (fail)
          all_goals
            refine (wpIn_wide (n := 0)).1 ?_
            refine wpIn_region_lit ?_
            gi_wp2_with fail
            refine ⟨rfl, HR.out.mono ?_⟩
            clear hy
            rintro e W' (⟨rfl, hJ', hk'⟩ | ⟨rfl, hJx'⟩)
            · gi_wp2_with fail
              go_wp2_with fail
              refine bodyPost_ret (results_none rfl _ _ _) rfl ?_
              exact ⟨⟨_, rfl⟩, .inl ⟨_, .inr ⟨pre, _, rfl, rfl⟩, hJ'⟩⟩
            · gi_wp2_with fail
              go_wp2_with fail
              refine bodyPost_ret (results_none rfl _ _ _) rfl ?_
              exact ⟨⟨_, rfl⟩, .inr ⟨_, trivial, hJx'⟩⟩
      · rw [if_neg (by omega), decide_eq_false (by omega)] at N2
        obtain ⟨x0, hx0⟩ : ∃ x0, (if 2 ≤ m then typA Z p else 0) = x0 := ⟨_, rfl⟩
        obtain ⟨y0, hy0⟩ : ∃ y0, decide (2 ≤ m) = y0 := ⟨_, rfl⟩
        rw [hx0, hy0] at N0
        have HN0 := Lib.hid N0
        have HN2 := Lib.hid N2
        have hend : prsA Z n p = ([], false) := by rw [prsA, dif_pos hm0, if_neg (fun h => by have := h.1; have := HM.out; omega)]
        have hP := HP.out
        rw [hend, List.append_nil] at hP
        have HP2 := Lib.hid hP
        obtain ⟨fn, tmps, assign, body, hy, hR⟩ := HY.out pre ⟨⟨0, none, 0, 0, fun _ => 0⟩, 0, false⟩ wr wr HJP.out (But.refl _ _) ⟨HP2.out.1, Below.refl _ _, fun h => (by cases h), fun _ => HP2.out.2⟩
        simp only [AtE.enc] at hy
        have HR := Lib.hid hR
        have HPD := Lib.hid (padded_any 0 wr (by omega))
        clear hR hP hend N0 N2 hx0 hy0 hbs
        go_wp2_with fail
        refine HN0.out.mono ?_
        rintro e w' ⟨rfl, rfl⟩
        go_wp2_with fail
        refine HN2.out.mono ?_
        rintro e w' ⟨rfl, rfl⟩
        go_wp2_with fail
        refine HPD.out.mono ?_
        rintro e w' ⟨rfl, rfl⟩
        go_upto_region 5 with (fail)
        refine (wpIn_wide (n := 0)).1 ?_
        refine wpIn_region_lit ?_
        gi_wp2_with fail
        refine ⟨rfl, HR.out.mono ?_⟩
        clear hy
        rintro e W' (⟨rfl, hJ', hk'⟩ | ⟨rfl, hJx'⟩)
        · gi_wp2_with fail
          go_wp2_with fail
          refine bodyPost_ret (results_none rfl _ _ _) rfl ?_
          exact ⟨⟨_, rfl⟩, .inl ⟨_, .inr ⟨pre, _, rfl, rfl⟩, hJ'⟩⟩
        · gi_wp2_with fail
          go_wp2_with fail
          refine bodyPost_ret (results_none rfl _ _ _) rfl ?_
          exact ⟨⟨_, rfl⟩, .inr ⟨_, trivial, hJx'⟩⟩
    · have h0' : n - p = 0 := by omega
      rw [h0'] at hbox
      have t0 : wr.cell? ⟨gb, 0, none⟩ = some (.slice bx 0 (c - p)) := cell_blk hbox
      have hend : prsA Z n p = ([], true) := by rw [prsA, dif_neg hm0]
      have hP := HP.out
      rw [hend, List.append_nil] at hP
      have HP2 := Lib.hid hP
      clear hP hend HP hbox hbs
      go_wp2_with fail
      go_end0
      exact ⟨⟨_, rfl⟩, .inl ⟨pre, .inl HP2.out, HJP.out⟩⟩
end Go.Proofs.Ytkoplofcjbeicaa
