/-
  Chapter 32: the iterator over the pieces of an extension.
-/
import Derived.Test.YtihbceippcgfgaaExC
import Derived.Test.YtihbceippcgfgaaRange
import Derived.BigQuiet
namespace Go.Proofs.Ytihbceippcgfgaa
open Go.RowKit
set_option linter.unusedVariables false
set_option linter.unusedSimpArgs false
attribute [local irreducible] wpStill wpQuiet MixC.wpMix
attribute [local go_sem] MixC.rdOp MixC.rd MixC.rdUpon MixC.mvUpon

def lenP (Z : Nat → Int) (p : Nat) : Nat := (Z p % 16).toNat + 1
/-- the elements of bytes from p on (number, where, how long); false: one isn't all there -/
def prs (Z : Nat → Int) (n p : Nat) : List (Int × Nat × Nat) × Bool :=
  if h : p < n then
    if Z p = 0 then prs Z n (p + 1)
    else if Z p / 16 = 15 then ([], true)
    else if n < p + 1 + lenP Z p then ([], false)
    else if Z p / 16 = 0 then prs Z n (p + 1 + lenP Z p)
    else ((Z p / 16, p + 1, lenP Z p) :: (prs Z n (p + 1 + lenP Z p)).1, (prs Z n (p + 1 + lenP Z p)).2)
  else ([], true)
termination_by n - p
decreasing_by all_goals (first | omega | (unfold lenP; omega))
theorem BS.dropE {B : Nat} {w : World} {b off n c : Nat} {Z : Nat → Int} (h : BS B w (some ⟨b, off, none⟩) n c Z) (k : Nat) (hk : k ≤ n) (hc : 0 < c) : BS B w (some ⟨b, off + k, none⟩) (n - k) (c - k) (fun x => Z (k + x)) := by
  obtain ⟨h1, h2, h3, b', off', h4, h5⟩ := h
  obtain ⟨h6, h7⟩ := h4 hc
  cases h6
  refine ⟨by omega, by omega, fun i hi => h3 _ (by omega), b, off + k, fun _ => ⟨rfl, h7⟩, fun i hi => ?_⟩
  rw [Nat.add_assoc]
  exact h5 (k + i) (by omega)
theorem BS.dropE0 {B : Nat} {w : World} {a a' : Option Addr} {n c : Nat} {Z : Nat → Int} (h : BS B w a n c Z) (k : Nat) (hk : k = c) : BS B w a' (n - k) (c - k) (fun x => Z (k + x)) := by
  have := h.le
  exact ⟨by omega, by have := h.max; omega, fun i hi => by omega, 0, 0, fun h => by omega, fun i hi => by omega⟩
structure ElE where
  e : El
  st : Nat
  ok : Bool
def ElE.enc (x : ElE) : Array Value := #[.agg #[.int .i64 x.e.id, .slice x.e.a x.e.n x.e.c], .bool x.ok]
def ElE.key (x : ElE) : Int × Nat × Nat := (x.e.id, x.st, x.e.n)
def AllOk (l : List ElE) : Prop := ∀ y ∈ l, y.ok = true
def ExG (Z : Nat → Int) (n : Nat) (pre : List ElE) (x : ElE) (W0 W1 : World) : Prop :=
  AllOk pre ∧ Below W0.heap.size W0 W1 ∧ (x.ok = true → (∃ suf b, prs Z n 0 = (pre.map ElE.key ++ x.key :: suf, b)) ∧ x.e.Z = (fun i => Z (x.st + i)) ∧ W1.ownsRow W0.heap.size 5 1 (.slice x.e.a x.e.n x.e.c) x.e.n (bytesOf (fun i => Z (x.st + i)) x.e.n)) ∧ (x.ok = false → prs Z n 0 = (pre.map ElE.key, false))
def ExS (Z : Nat → Int) (n : Nat) (xs : List ElE) : Prop := (AllOk xs ∧ prs Z n 0 = (xs.map ElE.key, true)) ∨ ∃ pre x, xs = pre ++ [x] ∧ x.ok = false
def ExK (B gb : Nat) (W W' : World) : Prop := W'.heap[gb]? = W.heap[gb]? ∧ Below B W W'
def shE (Z : Nat → Int) (p : Nat) : Nat → Int := fun i => Z (p + i)
/-- the iterator's own state -/
structure ExI (B gb n c : Nat) (Z : Nat → Int) (p : Nat) (w0 wr : World) : Prop where
  bl : Below B w0 wr
  pn : p ≤ n
  box : ∃ a, wr.heap[gb]? = some (.cells #[.slice a (n - p) (c - p)] 25 (0, 0)) ∧ BS B wr a (n - p) (c - p) (shE Z p)
def boxLenE (gb : Nat) (w : World) : Nat := match w.cell? ⟨gb, 0, none⟩ with | some (.slice _ n _) => n | _ => 0
theorem boxLenE_eq {gb : Nat} {w : World} {a : Option Addr} {n c : Nat} {T : TypeId} (h : w.heap[gb]? = some (.cells #[.slice a n c] T (0, 0))) : boxLenE gb w = n := by
  unfold boxLenE; rw [show w.cell? ⟨gb, 0, none⟩ = some (.slice a n c) from cell_blk h]
theorem ExI.len {B gb n c : Nat} {Z : Nat → Int} {p : Nat} {w0 wr : World} (h : ExI B gb n c Z p w0 wr) : boxLenE gb wr = n - p := by
  obtain ⟨a, h1, _⟩ := h.box
  exact boxLenE_eq h1
/-- the box goes on -/
theorem ExI.adv {B gb n c : Nat} {Z : Nat → Int} {p : Nat} {w0 W : World} {bb ob : Nat} (hbl : Below B w0 W) (hbox : W.heap[gb]? = some (.cells #[.slice (some ⟨bb, ob, none⟩) (n - p) (c - p)] 25 (0, 0))) (hbs : BS B W (some ⟨bb, ob, none⟩) (n - p) (c - p) (shE Z p)) (hB : B ≤ gb) (k : Nat) (hk : k ≤ n - p) (hk0 : 0 < k) {v : Value}
    (hv : (c - p = k ∧ v = .slice (some ⟨bb, ob, none⟩) 0 0) ∨ v = .slice (some ⟨bb, ob + k, none⟩) (n - p - k) (c - p - k)) : ExI B gb n c Z (p + k) w0 (W.setCell ⟨gb, 0, none⟩ v) := by
  have hcn := hbs.le
  have hsh : (fun x => shE Z p (k + x)) = shE Z (p + k) := by funext x; simp [shE, Nat.add_assoc]
  have hst : Below B W (W.setCell ⟨gb, 0, none⟩ v) := (Below.refl B W).setCell (p := ⟨gb, 0, none⟩) hB v
  refine ⟨hbl.trans hst, by omega, ?_⟩
  rw [Nat.sub_add_eq, Nat.sub_add_eq]
  rcases hv with ⟨h1, rfl⟩ | rfl
  · have e1 : n - p - k = 0 := by omega
    have e2 : c - p - k = 0 := by omega
    refine ⟨some ⟨bb, ob, none⟩, by rw [set_blk _ hbox, e1, e2]; rfl, ?_⟩
    have := (hbs.dropE0 (a' := some ⟨bb, ob, none⟩) k h1.symm).keep hst
    rw [hsh] at this
    exact this
  · refine ⟨some ⟨bb, ob + k, none⟩, by rw [set_blk _ hbox]; rfl, ?_⟩
    have := (hbs.dropE k hk (by omega)).keep hst
    rw [hsh] at this
    exact this
theorem and15 (v : Int) (h : 0 ≤ v ∧ v ≤ 255) : bits BinOp.and .u8 v 15 = v % 16 := by
  obtain ⟨n, rfl⟩ := Int.eq_ofNat_of_zero_le h.1
  have key : ∀ i : Fin 256, bits BinOp.and .u8 ((i.1 : Nat) : Int) 15 = ((i.1 : Nat) : Int) % 16 := by decide +kernel
  exact key ⟨n, by omega⟩
theorem pieces_any (a : Option Addr) (n c : Nat) (w : World) : Calls Try.prog 68 #[.slice a n c] w fun e w' => e = .returned (.func (.func 102) #[] #[.pointer (some ⟨w.heap.size, 0, none⟩)]) ∧ w' = w.alloc (.cells #[.slice a n c] 25) := by
  go_enter Try.func68, Try.ntmps68
  go_wp2_with fail
  go_ret
  exact ⟨rfl, rfl⟩
theorem cell_keep' {w w' : World} (hb : Below w.heap.size w w') {b i : Nat} {v : Value} (h : w.cell? ⟨b, i, none⟩ = some v) : w'.cell? ⟨b, i, none⟩ = some v := Below.cell' hb (World.block_lt_of_cell? _ _ h) h
set_option maxRecDepth 100000 in
set_option maxHeartbeats 8000000 in
theorem pieces_seq (B gb : Nat) (a : Option Addr) (n c : Nat) (Z : Nat → Int) (w0 : World) (hb : BS B w0 a n c Z) (hgb : w0.heap[gb]? = some (.cells #[.slice a n c] 25 (0, 0))) (hB : B ≤ gb) (hn : n ≤ 80000) :
    SeqW Try.prog 102 #[.pointer (some ⟨gb, 0, none⟩)] ElE.enc (some gb) (ExG Z n) (ExS Z n) (fun _ => True) (fun _ _ => ExK B gb) w0 := by
  intro l J Jx W hW hJ hJx hY h0
  have hlt := lt_of_block hgb
  have HJ := Lib.hid hJ
  have HY := Lib.hid hY
  have S0 : Hid (ExI B gb n c Z 0 w0 W) := Lib.hid ⟨hW.mono (by omega), Nat.zero_le _, a, by
    rw [Nat.sub_zero, Nat.sub_zero]; exact Below.blk hW hgb hlt, by
    rw [Nat.sub_zero, Nat.sub_zero]; exact (hb.keep (hW.mono (by omega))).congr (fun i _ => by simp [shE])⟩
  have hle := hb.le
  have hmx := hb.max
  clear hb hJ hJx hY hW hgb
  refine callsIn_wide.2 ?_
  show Calls Try.prog 102 #[.func (.yield l) #[] #[], .pointer (some ⟨gb, 0, none⟩)] W _
  go_enter Try.func102, Try.ntmps102
  go_wp2_with fail
  go_loopw [] (fun wr => ∃ (p : Nat) (pre : List ElE), J pre wr ∧ Hid (ExI B gb n c Z p w0 wr) ∧ Hid (AllOk pre ∧ prs Z n 0 = (pre.map ElE.key ++ (prs Z n p).1, (prs Z n p).2))) (fun wr => boxLenE gb wr)
  case atStart => exact ⟨0, [], h0, S0, Lib.hid ⟨fun y hy => (by cases hy), (by rw [List.map_nil, List.nil_append])⟩⟩
  case round =>
    obtain ⟨p, pre, hJp, HS, HP⟩ := hrel
    have HJP := Lib.hid hJp
    clear hJp
    obtain ⟨bx, hbox, hbs⟩ := HS.out.box
    have hpn := HS.out.pn
    have hml := hbs.le
    by_cases hm0 : p < n
    · obtain ⟨bb, ob, hpb, hcb⟩ := hbs.mem
      obtain ⟨rfl, hbb⟩ := hpb (by omega)
      have hv := hbs.bd 0 (by omega)
      have hc0 := hcb 0 (by omega)
      change 0 ≤ Z (p + 0) ∧ Z (p + 0) ≤ 255 at hv
      change wr.cell? ⟨bb, ob + 0, none⟩ = some (.int .u8 (Z (p + 0))) at hc0
      rw [Nat.add_zero] at hv
      rw [Nat.add_zero, Nat.add_zero] at hc0
      obtain ⟨v, hzv⟩ : ∃ v, Z p = v := ⟨_, rfl⟩
      have HZ := Lib.hid hzv
      rw [hzv] at hv hc0
      have HBX := Lib.hid hbox
      have HBS := Lib.hid hbs
      obtain ⟨m, hm⟩ : ∃ m, n - p = m := ⟨_, rfl⟩
      obtain ⟨cc, hcc⟩ : ∃ cc, c - p = cc := ⟨_, rfl⟩
      have t0 : wr.cell? ⟨gb, 0, none⟩ = some (.slice (some ⟨bb, ob, none⟩) m cc) := by rw [← hm, ← hcc]; exact cell_blk hbox
      have HM := Lib.hid hm
      have HCC := Lib.hid hcc
      have hmi : (0 : Int) < m := by omega
      have hm1 : 0 < m := by omega
      have hmc : m ≤ cc := by omega
      have h15 := and15 v hv
      have w1 : IntKind.i64.wrap (v % 16 + 1) = v % 16 + 1 := IntWalk.i64_in _ (by omega)
      clear hbox hbs hpb hcb hzv hm hcc
      go_upto_region 1 with (fail)
      go_quiet (fail)
      generalize hW : wr.drewN _ = V
      have BV : Hid (Below wr.heap.size wr V) := Lib.hid (by rw [← hW]; exact below_drewN0 (Below.refl _ _) _)
      have GV : Hid (V.heap[gb]? = some (.cells #[.slice (some ⟨bb, ob, none⟩) m cc] 25 (0, 0))) := Lib.hid (by
        have := Below.blk BV.out HBX.out (lt_of_block HBX.out)
        rw [HM.out, HCC.out] at this
        exact this)
      have hgl := lt_of_block HBX.out
      have BSV : Hid (BS B V (some ⟨bb, ob, none⟩) (n - p) (c - p) (shE Z p)) := Lib.hid (HBS.out.keep (BV.out.mono (by omega)))
      have BLV : Hid (Below B w0 V) := Lib.hid (HS.out.bl.trans (BV.out.mono (by omega)))
      clear hW t0 hgl
      have t0 : V.cell? ⟨gb, 0, none⟩ = some (.slice (some ⟨bb, ob, none⟩) m cc) := cell_blk GV.out
      have tf : V.frozen? ⟨gb, 0, none⟩ = false := free_blk GV.out
      have hcV : V.cell? ⟨bb, ob, none⟩ = some (.int .u8 v) := cell_keep' BV.out hc0
      have ADV : Hid (∀ (W : World) (k : Nat) (x : Value), W.heap[gb]? = V.heap[gb]? → Below B V W → 0 < k → k ≤ m → ((cc = k ∧ x = .slice (some ⟨bb, ob, none⟩) 0 0) ∨ x = .slice (some ⟨bb, ob + k, none⟩) (m - k) (cc - k)) → ExI B gb n c Z (p + k) w0 (W.setCell ⟨gb, 0, none⟩ x)) := Lib.hid (fun W k x h1 h2 h3 h4 h5 => ExI.adv (BLV.out.trans h2) (by rw [h1, HM.out, HCC.out]; exact GV.out) (BSV.out.keep h2) hB k (by rw [HM.out]; exact h4) h3 (by rw [HM.out, HCC.out]; exact h5))
      have JV : Hid (J pre V) := Lib.hid (HJ.out _ _ _ HJP.out (But.of_below BV.out))
      by_cases hv0 : v = 0
      · subst hv0
        have hnx : prs Z n p = prs Z n (p + 1) := by rw [prs, dif_pos hm0, if_pos HZ.out]
        have HP1 : Hid (AllOk pre ∧ prs Z n 0 = (pre.map ElE.key ++ (prs Z n (p + 1)).1, (prs Z n (p + 1)).2)) := Lib.hid (by rw [← hnx]; exact HP.out)
        clear hnx
        by_cases hcc1 : cc = 1
        · have E9 := ADV.out V (1) (.slice (some ⟨bb, ob, none⟩) 0 0) rfl (Below.refl _ _) (by omega) (by omega) (.inl ⟨hcc1, rfl⟩)
          have HE9 := Lib.hid E9
          clear E9
          subst hcc1
          go_wp2_with fail
          exact ⟨⟨p + (1), pre, HJ.out _ _ _ JV.out ((But.refl _ _).set 0 _), HE9, HP1⟩, by rw [HE9.out.len, HS.out.len]; omega⟩
        · have hcc2 : ¬ cc - (1) = 0 := by omega
          have E9 := ADV.out V (1) (.slice (some ⟨bb, ob + (1), none⟩) (m - (1)) (cc - (1))) rfl (Below.refl _ _) (by omega) (by omega) (.inr rfl)
          have HE9 := Lib.hid E9
          clear E9
          go_wp2_with fail
          exact ⟨⟨p + (1), pre, HJ.out _ _ _ JV.out ((But.refl _ _).set 0 _), HE9, HP1⟩, by rw [HE9.out.len, HS.out.len]; omega⟩
      · have hv0' : (v = 0) = False := eq_false hv0
        have hv0b : (v == 0) = false := by simpa using hv0
        by_cases hv15 : v / 16 = 15
        · have hend : prs Z n p = ([], true) := by rw [prs, dif_pos hm0, if_neg (by rw [HZ.out]; exact hv0), if_pos (by rw [HZ.out]; exact hv15)]
          have hP := HP.out
          rw [hend, List.append_nil] at hP
          have HP2 := Lib.hid hP
          have hv15' : (v / 16 = 15) = True := eq_true hv15
          have hv15b : (v / 16 == 15) = true := by simpa using hv15
          clear hP hend hv0 hv15
          go_wp2_with fail
          refine bodyPost_ret (results_none rfl _ _ _) rfl ?_
          exact ⟨⟨_, rfl⟩, .inl ⟨pre, .inl HP2.out, JV.out⟩⟩
        · have hv15' : (v / 16 = 15) = False := eq_false hv15
          have hv15b : (v / 16 == 15) = false := by simpa using hv15
          obtain ⟨k, hk⟩ : ∃ k : Nat, v % 16 + 1 = k := ⟨(v % 16).toNat + 1, by omega⟩
          have hkn : lenP Z p = k := by unfold lenP; rw [HZ.out]; omega
          have hk16 : 1 ≤ k ∧ k ≤ 16 := by omega
          rw [hk] at w1 ⊢
          have w2 : IntKind.i64.wrap ((k : Int) + 1) = (k : Int) + 1 := IntWalk.i64_in _ (by omega)
          by_cases hsh : m < k + 1
          · have hsh' : (m : Int) < (k : Int) + 1 := by omega
            have hend : prs Z n p = ([], false) := by rw [prs, dif_pos hm0, if_neg (by rw [HZ.out]; exact hv0), if_neg (by rw [HZ.out]; exact hv15), if_pos (by rw [hkn]; have := HM.out; omega)]
            have hP := HP.out
            rw [hend, List.append_nil] at hP
            have HP2 := Lib.hid hP
            obtain ⟨fn, tmps, assign, body, hy, hR⟩ := HY.out pre ⟨⟨0, none, 0, 0, fun _ => 0⟩, 0, false⟩ V V JV.out (But.refl _ _) ⟨HP2.out.1, Below.refl _ _, fun h => (by cases h), fun _ => HP2.out.2⟩
            simp only [ElE.enc] at hy
            have HR := Lib.hid hR
            clear hR hP hend hv0 hv15 hk
            go_upto_region 6 with (fail)
            refine (wpIn_wide (n := 0)).1 ?_
            refine wpIn_region_lit ?_
            gi_wp2_with fail
            refine ⟨rfl, HR.out.mono ?_⟩
            clear hy
            rintro e W' (⟨rfl, hJ', hk'⟩ | ⟨rfl, hJx'⟩)
            · gi_wp2_with fail
              go_wp2_with fail
              refine bodyPost_ret (results_none rfl _ _ _) rfl ?_
              exact ⟨⟨_, rfl⟩, .inl ⟨_, .inr ⟨pre, _, rfl, rfl⟩, hJ'⟩⟩
            · gi_wp2_with fail
              go_wp2_with fail
              refine bodyPost_ret (results_none rfl _ _ _) rfl ?_
              exact ⟨⟨_, rfl⟩, .inr ⟨_, trivial, hJx'⟩⟩
          · have hsh' : ¬ (m : Int) < (k : Int) + 1 := by omega
            have hnx : prs Z n p = if Z p / 16 = 0 then prs Z n (p + (k + 1)) else ((Z p / 16, p + 1, k) :: (prs Z n (p + (k + 1))).1, (prs Z n (p + (k + 1))).2) := by
              rw [prs, dif_pos hm0, if_neg (by rw [HZ.out]; exact hv0), if_neg (by rw [HZ.out]; exact hv15), if_neg (by rw [hkn]; have := HM.out; omega), hkn, show p + 1 + k = p + (k + 1) by omega]
            rw [HZ.out] at hnx
            by_cases hid : v / 16 = 0
            · rw [if_pos hid] at hnx
              have HP1 : Hid (AllOk pre ∧ prs Z n 0 = (pre.map ElE.key ++ (prs Z n (p + (k + 1))).1, (prs Z n (p + (k + 1))).2)) := Lib.hid (by rw [← hnx]; exact HP.out)
              have hid' : (v / 16 = 0) = True := eq_true hid
              have hidb : (v / 16 == 0) = true := by simpa using hid
              clear hv0 hv15 hk hnx hid
              have hmk : ((k : Int) + 1) ≤ m := by omega
              have hck : ((k : Int) + 1) ≤ cc := by omega
              by_cases hcc1 : cc = k + 1
              · have E9 := ADV.out V (k + 1) (.slice (some ⟨bb, ob, none⟩) 0 0) rfl (Below.refl _ _) (by omega) (by omega) (.inl ⟨hcc1, rfl⟩)
                have HE9 := Lib.hid E9
                clear E9
                subst hcc1
                go_wp2_with fail
                exact ⟨⟨p + (k + 1), pre, HJ.out _ _ _ JV.out ((But.refl _ _).set 0 _), HE9, HP1⟩, by rw [HE9.out.len, HS.out.len]; omega⟩
              · have hcc2 : ¬ cc - (k + 1) = 0 := by omega
                have E9 := ADV.out V (k + 1) (.slice (some ⟨bb, ob + (k + 1), none⟩) (m - (k + 1)) (cc - (k + 1))) rfl (Below.refl _ _) (by omega) (by omega) (.inr rfl)
                have HE9 := Lib.hid E9
                clear E9
                go_wp2_with fail
                exact ⟨⟨p + (k + 1), pre, HJ.out _ _ _ JV.out ((But.refl _ _).set 0 _), HE9, HP1⟩, by rw [HE9.out.len, HS.out.len]; omega⟩
            · rw [if_neg hid] at hnx
              have hid' : (v / 16 = 0) = False := eq_false hid
              have hidb : (v / 16 == 0) = false := by simpa using hid
              have hmk : ((k : Int) + 1) ≤ m := by omega
              have hck : ((k : Int) + 1) ≤ cc := by omega
              have HNX := Lib.hid hnx
              clear hv0 hv15 hk hnx hid
              go_upto_region 7 with (fail)
              refine (wpIn_wide (n := 0)).1 ?_
              refine wpIn_region_lit ?_
              have hbc : BS B V (some ⟨bb, ob + 1, none⟩) k (cc - 1) (fun i => Z (p + 1 + i)) := by
                have h := (BSV.out.dropE 1 (by rw [HM.out]; omega) (by rw [HCC.out]; omega)).cut (k := k) (m := c - p - 1) (by rw [HM.out]; omega) (by rw [HCC.out]; omega) (Nat.le_refl _)
                rw [HCC.out] at h
                exact h.congr (fun i _ => by simp [shE, Nat.add_assoc])
              have HBC := Lib.hid hbc
              have hVs : B ≤ V.heap.size := by have := lt_of_block GV.out; omega
              clear hbc
              gi_wp2_with fail
              refine ⟨trivial, rfl, ?_⟩
              refine callsIn_wide.2 ((clone_any B _ k (cc - 1) _ V HBC.out hVs (by omega)).mono ?_)
              rintro e V2 ⟨a', c', rfl, hown, hbl2⟩
              obtain ⟨fn, tmps, assign, body, hy, hR⟩ := HY.out pre ⟨⟨v / 16, a', k, c', fun i => Z (p + 1 + i)⟩, p + 1, true⟩ V V2 JV.out (But.of_below hbl2) ⟨HP.out.1, hbl2, fun _ => ⟨⟨(prs Z n (p + (k + 1))).1, (prs Z n (p + (k + 1))).2, by
                have h := HP.out.2
                rw [HNX.out] at h
                exact h⟩, rfl, hown⟩, fun h => (by cases h)⟩
              simp only [ElE.enc] at hy
              have HR := Lib.hid hR
              have HBL2 := Lib.hid hbl2
              clear hR hown hbl2
              gi_wp2_with fail
              refine ⟨rfl, HR.out.mono ?_⟩
              clear hy t0 tf hcV
              rintro e W' (⟨rfl, hJ', hk1, hk2⟩ | ⟨rfl, hJx'⟩)
              · have G3 : W'.heap[gb]? = V.heap[gb]? := hk1.trans ((Below.blk HBL2.out GV.out (lt_of_block GV.out)).trans GV.out.symm)
                have B3 : Below B V W' := (HBL2.out.mono hVs).trans hk2
                have t0 : W'.cell? ⟨gb, 0, none⟩ = some (.slice (some ⟨bb, ob, none⟩) m cc) := cell_blk (G3.trans GV.out)
                have t1 : W'.frozen? ⟨gb, 0, none⟩ = false := free_blk (G3.trans GV.out)
                have HG3 := Lib.hid G3
                have HB3 := Lib.hid B3
                have HJ2 := Lib.hid hJ'
                have HP1 : Hid (AllOk (pre ++ [((⟨⟨v / 16, a', k, c', fun i => Z (p + 1 + i)⟩, p + 1, true⟩) : ElE)]) ∧ prs Z n 0 = ((pre ++ [((⟨⟨v / 16, a', k, c', fun i => Z (p + 1 + i)⟩, p + 1, true⟩) : ElE)]).map ElE.key ++ (prs Z n (p + (k + 1))).1, (prs Z n (p + (k + 1))).2)) := Lib.hid ⟨fun y hy => by
                  rcases List.mem_append.1 hy with h | h
                  · exact HP.out.1 y h
                  · rw [List.mem_singleton.1 h], by
                  have h := HP.out.2
                  rw [HNX.out] at h
                  rw [h, List.map_append, List.append_assoc]
                  rfl⟩
                clear hJ' hk1 hk2 G3 B3
                gi_wp2_with fail
                by_cases hcc1 : cc = k + 1
                · have E9 := ADV.out W' (k + 1) (.slice (some ⟨bb, ob, none⟩) 0 0) HG3.out HB3.out (by omega) (by omega) (.inl ⟨hcc1, rfl⟩)
                  have HE9 := Lib.hid E9
                  clear E9
                  subst hcc1
                  go_wp2_with fail
                  exact ⟨⟨p + (k + 1), pre ++ [⟨⟨v / 16, a', k, c', fun i => Z (p + 1 + i)⟩, p + 1, true⟩], HJ.out _ _ _ HJ2.out ((But.refl _ _).set 0 _), HE9, HP1⟩, by rw [HE9.out.len, HS.out.len]; omega⟩
                · have hcc2 : ¬ cc - (k + 1) = 0 := by omega
                  have E9 := ADV.out W' (k + 1) (.slice (some ⟨bb, ob + (k + 1), none⟩) (m - (k + 1)) (cc - (k + 1))) HG3.out HB3.out (by omega) (by omega) (.inr rfl)
                  have HE9 := Lib.hid E9
                  clear E9
                  go_wp2_with fail
                  exact ⟨⟨p + (k + 1), pre ++ [⟨⟨v / 16, a', k, c', fun i => Z (p + 1 + i)⟩, p + 1, true⟩], HJ.out _ _ _ HJ2.out ((But.refl _ _).set 0 _), HE9, HP1⟩, by rw [HE9.out.len, HS.out.len]; omega⟩
              · gi_wp2_with fail
                go_wp2_with fail
                refine bodyPost_ret (results_none rfl _ _ _) rfl ?_
                exact ⟨⟨_, rfl⟩, .inr ⟨_, trivial, hJx'⟩⟩
    · have h0' : n - p = 0 := by omega
      rw [h0'] at hbox
      have t0 : wr.cell? ⟨gb, 0, none⟩ = some (.slice bx 0 (c - p)) := cell_blk hbox
      have hend : prs Z n p = ([], true) := by rw [prs, dif_neg hm0]
      have hP := HP.out
      rw [hend, List.append_nil] at hP
      have HP2 := Lib.hid hP
      clear hP hend HP hbox hbs
      go_wp2_with fail
      go_end0
      exact ⟨⟨_, rfl⟩, .inl ⟨pre, .inl HP2.out, HJP.out⟩⟩
end Go.Proofs.Ytihbceippcgfgaa
