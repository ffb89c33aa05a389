/-
  Chapter 20: losses of numbers (rtcp.Losses).
-/
import Derived.Test.YtdmbdageohjodaaLsF
import Derived.Laws.BitsAllLaws
namespace Go.Proofs.Ytdmbdageohjodaa
open Go.RowKit
set_option linter.unusedVariables false
set_option linter.unusedSimpArgs false
attribute [local irreducible] wpStill wpQuiet MixC.wpMix MixC.wpPick MixC.wpPickT
attribute [local go_sem] MixC.rdOp MixC.rd MixC.rdUpon MixC.mvUpon

/-- a row of 16 bits that lies somewhere -/
structure US (B : Nat) (w : World) (a : Option Addr) (n : Nat) (Z : Nat → Int) : Prop where
  bd : ∀ i, i < n → 0 ≤ Z i ∧ Z i ≤ 65535
  mem : ∃ b off, (0 < n → a = some ⟨b, off, none⟩ ∧ b < B) ∧ ∀ i, i < n → w.cell? ⟨b, off + i, none⟩ = some (.int .u16 (Z i))
theorem US.keep {B : Nat} {w w' : World} {a : Option Addr} {n : Nat} {Z : Nat → Int} (h : US B w a n Z) (hb : Below B w w') : US B w' a n Z := by
  obtain ⟨h1, b, off, h2, h3⟩ := h
  exact ⟨h1, b, off, h2, fun i hi => Below.cell' hb (h2 (by omega)).2 (h3 i hi)⟩
theorem own_set {w : World} {base : Nat} {e : TypeId} {size : Nat} {g n c : Nat} {xs : List Value} (h : w.ownsRow base e size (.slice (some ⟨g, 0, none⟩) n c) n xs) {j : Nat} (hj : j < xs.length) (u : Value) :
    (w.setCell ⟨g, j, none⟩ u).ownsRow base e size (.slice (some ⟨g, 0, none⟩) n c) n (xs.set j u) := by
  obtain ⟨h1, h2⟩ := h
  refine ⟨by rw [List.length_set]; exact h1, ?_⟩
  rcases h2 with ⟨hv, _⟩ | ⟨g', cap, cur, hv, hg, hh, hn, hm, hs, ht⟩
  · cases hv
  · injection hv with e1 _ e3
    cases e1
    subst e3
    refine .inr ⟨g, c, cur.setIfInBounds j u, rfl, hg, set_blk _ hh, hn, hm, by simp [hs], ?_⟩
    rw [Array.toList_setIfInBounds, List.take_set, ht]
/-! ### What it computes -/
def orB (b k : Int) : Int := bits BinOp.or .u16 b (IntKind.u16.wrap (2 ^ (k.toNat - 1)))
def lossP (q b s : Int) : Bool := decide (1 ≤ (s - q) % 65536) && decide ((s - q) % 65536 ≤ 16)
def lstep (L : List (Int × Int)) (s : Int) : List (Int × Int) :=
  match L.reverse with
  | [] => [(s, 0)]
  | (q, b) :: R => if lossP q b s = true then R.reverse ++ [(q, orB b ((s - q) % 65536))] else L ++ [(s, 0)]
def lossL (S : List Int) : List (Int × Int) := S.foldl lstep []
theorem lossL_snoc (S : List Int) (s : Int) : lossL (S ++ [s]) = lstep (lossL S) s := by simp [lossL]
theorem lstep_nil (s : Int) : lstep [] s = [(s, 0)] := rfl
theorem lstep_in {P : List (Int × Int)} {q b s : Int} (h : lossP q b s = true) : lstep (P ++ [(q, b)]) s = P ++ [(q, orB b ((s - q) % 65536))] := by
  unfold lstep
  rw [List.reverse_append]
  show (if lossP q b s = true then P.reverse.reverse ++ _ else _) = _
  rw [if_pos h, List.reverse_reverse]
theorem lstep_new {P : List (Int × Int)} {q b s : Int} (h : lossP q b s = false) : lstep (P ++ [(q, b)]) s = P ++ [(q, b)] ++ [(s, 0)] := by
  unfold lstep
  rw [List.reverse_append]
  show (if lossP q b s = true then _ else _) = _
  rw [if_neg (by rw [h]; decide)]
def lossV : List (Int × Int) → List Value
  | [] => []
  | (q, b) :: l => .int .u16 q :: .int .u16 b :: lossV l
theorem lossV_app (L M : List (Int × Int)) : lossV (L ++ M) = lossV L ++ lossV M := by
  induction L with
  | nil => rfl
  | cons x l ih => obtain ⟨q, b⟩ := x; show .int .u16 q :: .int .u16 b :: lossV (l ++ M) = _; rw [ih]; rfl
theorem lossV_len (L : List (Int × Int)) : (lossV L).length = L.length * 2 := by
  induction L with
  | nil => rfl
  | cons x l ih => obtain ⟨q, b⟩ := x; show (lossV l).length + 1 + 1 = _; rw [ih, List.length_cons]; omega
def OkL (L : List (Int × Int)) : Prop := ∀ x ∈ L, (0 ≤ x.1 ∧ x.1 ≤ 65535) ∧ 0 ≤ x.2 ∧ x.2 ≤ 65535
theorem infoLoss : (Try.prog.info? 35).map (fun i => (i.zero, i.size, i.bytes)) = some (some (.agg #[.int .u16 0, .int .u16 0]), 2, 4) := by kernel_rfl
theorem elLoss : ElemT Try.prog 31 35 2 4 := ElemT.mk' (z := .agg #[.int .u16 0, .int .u16 0]) Try.underlying31 infoLoss rfl (by decide)
theorem lstep_le (L : List (Int × Int)) (s : Int) : (lstep L s).length ≤ L.length + 1 := by
  rcases List.eq_nil_or_concat L with rfl | ⟨P, ⟨q, b⟩, rfl⟩
  · simp [lstep_nil]
  · simp only [List.concat_eq_append]
    cases h : lossP q b s with
    | true => rw [lstep_in h]; simp
    | false => rw [lstep_new h]; simp
theorem lossL_le (S : List Int) (k : Nat) : (lossL (S.take k)).length ≤ k := by
  induction k with
  | zero => simp [lossL]
  | succ k ih =>
    by_cases h : k < S.length
    · rw [List.take_succ_eq_append_getElem h, lossL_snoc]
      have := lstep_le (lossL (S.take k)) S[k]
      omega
    · rw [List.take_of_length_le (by omega)]
      rw [List.take_of_length_le (by omega)] at ih
      omega
def zs (Z : Nat → Int) (n : Nat) : List Int := (List.range n).map Z
theorem zs_succ (Z : Nat → Int) (n : Nat) : zs Z (n + 1) = zs Z n ++ [Z n] := by simp [zs, List.range_succ]
theorem lossZ_le (Z : Nat → Int) (k : Nat) : (lossL (zs Z k)).length ≤ k := by
  have := lossL_le (zs Z k) k
  rwa [List.take_of_length_le (by simp [zs])] at this
def LossPost (L : List (Int × Int)) (w : World) (e : Ending) (w' : World) : Prop := ∃ a' c', e = .returned (.slice a' L.length c') ∧ w'.ownsRow w.heap.size 35 2 (.slice a' L.length c') L.length (lossV L) ∧ Below w.heap.size w w'
theorem lossV_last (P : List (Int × Int)) (q b : Int) : (lossV (P ++ [(q, b)]))[P.length * 2]? = some (.int .u16 q) ∧ (lossV (P ++ [(q, b)]))[P.length * 2 + 1]? = some (.int .u16 b) := by
  rw [lossV_app]
  rw [List.getElem?_append_right (by rw [lossV_len]; omega), List.getElem?_append_right (by rw [lossV_len]; omega), lossV_len]
  rw [Nat.sub_self, show P.length * 2 + 1 - P.length * 2 = 1 by omega]
  exact ⟨rfl, rfl⟩
theorem orB_bd (b k : Int) (h0 : 0 ≤ b ∧ b ≤ 65535) : 0 ≤ orB b k ∧ orB b k ≤ 65535 := by
  unfold orB
  have hw : 0 ≤ IntKind.u16.wrap (2 ^ (k.toNat - 1)) ∧ IntKind.u16.wrap (2 ^ (k.toNat - 1)) < 65536 := by rw [IntKind.wrap_u16]; omega
  generalize IntKind.u16.wrap (2 ^ (k.toNat - 1)) = y at hw
  rw [u16_or b y h0.1 (by omega) hw.1 hw.2]
  have := Nat.or_lt_two_pow (x := b.toNat) (y := y.toNat) (n := 16) (by omega) (by omega)
  omega
theorem lossV_set (P : List (Int × Int)) (q b x : Int) : (lossV (P ++ [(q, b)])).set (P.length * 2 + 1) (.int .u16 x) = lossV (P ++ [(q, x)]) := by
  rw [lossV_app, lossV_app, List.set_append_right _ _ (by rw [lossV_len]; omega), lossV_len, show P.length * 2 + 1 - P.length * 2 = 1 by omega]
  rfl
set_option maxRecDepth 100000 in
set_option maxHeartbeats 4000000 in
theorem loss_any (B : Nat) (a : Option Addr) (n c : Nat) (Z : Nat → Int) (w : World) (h : US B w a n Z) (hB : B ≤ w.heap.size) (hn : n ≤ 100000) :
    Calls Try.prog 100 #[.slice a n c] w (LossPost (lossL (zs Z n)) w) := by
  have HU := Lib.hid h
  clear h
  go_enter Try.func100, Try.ntmps100
  go_wp2_with fail
  go_loopw [3, 10] (fun s3 s10 wr => ∃ (k m : Nat) (va : Option Addr) (vc : Nat), k ≤ n ∧ m ≤ k ∧ s10 = .int .i64 k ∧ s3 = .slice va m vc ∧ Hid (m = (lossL (zs Z k)).length) ∧ Hid (OkL (lossL (zs Z k))) ∧ Hid (Below w.heap.size w wr) ∧ Hid (wr.ownsRow w.heap.size 35 2 (.slice va m vc) m (lossV (lossL (zs Z k))))) (fun _ s10 _ => n - (intOf s10).toNat)
  case atStart => exact ⟨0, 0, none, 0, by omega, by omega, rfl, rfl, Lib.hid rfl, Lib.hid (fun x hx => by cases hx), Lib.hid (Below.refl _ _), Lib.hid (World.ownsRow_nil _ _ _ _)⟩
  case round =>
    obtain ⟨k, m, va, vc, hk, hmk, rfl, rfl, HM, HOK, HB, HO⟩ := hrel
    by_cases hlt : k < n
    · obtain ⟨hbd, b, off, hp, hc⟩ := HU.out.keep (HB.out.mono hB)
      obtain ⟨rfl, hbB⟩ := hp (by omega)
      have cz := hc k hlt
      have zb := hbd k hlt
      have hsn := lossL_snoc (zs Z k) (Z k)
      rw [← zs_succ] at hsn
      obtain ⟨s, hs⟩ : ∃ s, Z k = s := ⟨_, rfl⟩
      rw [hs] at cz zb hsn
      have HSN := Lib.hid hsn
      obtain ⟨s0, s1⟩ := zb
      have hki : (k : Int) < n := by omega
      obtain ⟨L, hL⟩ : ∃ L, lossL (zs Z k) = L := ⟨_, rfl⟩
      rw [hL] at HM HOK HO HSN
      clear hbd hp hc hs hsn hL
      rcases List.eq_nil_or_concat L with rfl | ⟨P, ⟨q, b2⟩, rfl⟩
      · have hm0 : m = 0 := HM.out
        subst hm0
        obtain ⟨a9, c9, V2, A9, B9⟩ := app1 elLoss HO.out [.int .u16 s, .int .u16 0] rfl (by intro u hu; simp at hu; rcases hu with rfl | rfl <;> rfl) (by omega) (by omega) HB.out.size
        have HA := Lib.hid A9.run
        have e := HSN.out
        rw [lstep_nil] at e
        have F : Hid (1 = (lossL (zs Z (k + 1))).length ∧ OkL (lossL (zs Z (k + 1))) ∧ V2.ownsRow w.heap.size 35 2 (.slice a9 (0 + 1) c9) (0 + 1) (lossV (lossL (zs Z (k + 1))))) := Lib.hid (by
          rw [e]
          exact ⟨rfl, fun x hx => by (have : x = (s, 0) := by simpa using hx); subst this; exact ⟨⟨s0, s1⟩, by omega, by omega⟩, A9.own⟩)
        have B2 := Lib.hid (HB.out.trans B9)
        clear A9 B9 e
        go_wp2_with (at_builtin; refine wpList_of_append rfl (.tmp 44) (.tmp 47) 31 rfl _ _ _ rfl rfl HA.out ?_)
        go_roundw
        case rel => exact ⟨k + 1, 1, a9, c9, by omega, by omega, by go_num, rfl, Lib.hid F.out.1, Lib.hid F.out.2.1, B2, Lib.hid F.out.2.2⟩
        case measure => simp [intOf] <;> omega
      · rw [List.concat_eq_append] at HM HOK HO HSN
        obtain ⟨p, hp⟩ : ∃ p, P.length = p := ⟨_, rfl⟩
        have hm1 : m = p + 1 := by rw [HM.out]; simp [hp]
        subst hm1
        obtain ⟨g, cap, hv, hg, hgl, hcell, hcap⟩ := own_some HO.out
        injection hv with hva _ hvc
        subst hva hvc
        obtain ⟨l1, l2⟩ := lossV_last P q b2
        rw [hp] at l1 l2
        have cq := hcell _ _ l1
        have cb := hcell _ _ l2
        obtain ⟨⟨q0, q1⟩, b0, b1⟩ := HOK.out (q, b2) (by simp)
        simp only at q0 q1 b0 b1
        have HP := Lib.hid hp
        obtain ⟨kk, hkk⟩ : ∃ kk, (s - q) % 65536 = kk := ⟨_, rfl⟩
        have wkk : IntKind.u16.wrap (s - q) = kk := by rw [IntKind.wrap_u16]; exact hkk
        have kb : 0 ≤ kk ∧ kk ≤ 65535 := by omega
        have HKK := Lib.hid hkk
        have frz : wr.frozen? ⟨g, p * 2 + 1, none⟩ = false := by
          rcases HO.out.2 with ⟨_, h0⟩ | ⟨g', cap', cur, hv, _, hh, _⟩
          · omega
          · injection hv with e1 _ _
            cases e1
            exact free_blk hh
        have wp1 : IntKind.i64.wrap ((p : Int) + 1 - 1) = p := by rw [show (p : Int) + 1 - 1 = p by omega]; exact IntWalk.i64_in _ (by omega)
        clear hcell l1 l2 hp hkk
        by_cases hk1 : 1 ≤ kk
        · have d1 : decide (1 ≤ kk) = true := by simpa using hk1
          by_cases hk2 : kk ≤ 16
          · have d2 : decide (kk ≤ 16) = true := by simpa using hk2
            have w4 : IntKind.u16.wrap (kk - 1) = kk - 1 := by rw [IntKind.wrap_u16]; omega
            go_wp2_with fail
            have e := HSN.out
            rw [lstep_in (by unfold lossP; rw [HKK.out]; simp; omega), HKK.out] at e
            have F : Hid (p + 1 = (lossL (zs Z (k + 1))).length ∧ OkL (lossL (zs Z (k + 1))) ∧ (wr.setCell ⟨g, p * 2 + 1, none⟩ (.int .u16 (orB b2 kk))).ownsRow w.heap.size 35 2 (.slice (some ⟨g, 0, none⟩) (p + 1) vc) (p + 1) (lossV (lossL (zs Z (k + 1))))) := Lib.hid (by
              rw [e]
              refine ⟨by simp [HP.out], fun x hx => ?_, ?_⟩
              · rcases List.mem_append.1 hx with h | h
                · exact HOK.out x (List.mem_append_left _ h)
                · have : x = (q, orB b2 kk) := by simpa using h
                  subst this
                  exact ⟨⟨q0, q1⟩, orB_bd b2 kk ⟨b0, b1⟩⟩
              · have := own_set HO.out (j := p * 2 + 1) (by rw [lossV_len, ← HM.out]; omega) (.int .u16 (orB b2 kk))
                have e3 := lossV_set P q b2 (orB b2 kk)
                rw [HP.out] at e3
                rw [e3] at this
                exact this)
            have B2 : Hid (Below w.heap.size w (wr.setCell ⟨g, p * 2 + 1, none⟩ (.int .u16 (orB b2 kk)))) := Lib.hid (HB.out.setCell hg _)
            clear e
            go_wp2_with fail
            go_roundw
            case rel => exact ⟨k + 1, p + 1, some ⟨g, 0, none⟩, vc, by omega, by omega, by go_num, rfl, Lib.hid F.out.1, Lib.hid F.out.2.1, B2, Lib.hid F.out.2.2⟩
            case measure => simp [intOf] <;> omega
          · have d2 : decide (kk ≤ 16) = false := by simpa using hk2
            obtain ⟨a9, c9, V2, A9, B9⟩ := app1 elLoss HO.out [.int .u16 s, .int .u16 0] rfl (by intro u hu; simp at hu; rcases hu with rfl | rfl <;> rfl) (by omega) (by omega) HB.out.size
            have HA := Lib.hid A9.run
            have e := HSN.out
            rw [lstep_new (by unfold lossP; rw [HKK.out]; simp; omega)] at e
            have F : Hid (p + 1 + 1 = (lossL (zs Z (k + 1))).length ∧ OkL (lossL (zs Z (k + 1))) ∧ V2.ownsRow w.heap.size 35 2 (.slice a9 (p + 1 + 1) c9) (p + 1 + 1) (lossV (lossL (zs Z (k + 1))))) := Lib.hid (by
              rw [e]
              refine ⟨by simp [HP.out], fun x hx => ?_, by rw [lossV_app]; exact A9.own⟩
              rcases List.mem_append.1 hx with h | h
              · exact HOK.out x h
              · have : x = (s, 0) := by simpa using h
                subst this
                exact ⟨⟨s0, s1⟩, by omega, by omega⟩)
            have B2 := Lib.hid (HB.out.trans B9)
            clear A9 B9 e
            go_wp2_with (at_builtin; refine wpList_of_append rfl (.tmp 44) (.tmp 47) 31 rfl _ _ _ rfl rfl HA.out ?_)
            go_roundw
            case rel => exact ⟨k + 1, p + 1 + 1, a9, c9, by omega, by omega, by go_num, rfl, Lib.hid F.out.1, Lib.hid F.out.2.1, B2, Lib.hid F.out.2.2⟩
            case measure => simp [intOf] <;> omega
        · have d1 : decide (1 ≤ kk) = false := by simpa using hk1
          obtain ⟨a9, c9, V2, A9, B9⟩ := app1 elLoss HO.out [.int .u16 s, .int .u16 0] rfl (by intro u hu; simp at hu; rcases hu with rfl | rfl <;> rfl) (by omega) (by omega) HB.out.size
          have HA := Lib.hid A9.run
          have e := HSN.out
          rw [lstep_new (by unfold lossP; rw [HKK.out]; simp; omega)] at e
          have F : Hid (p + 1 + 1 = (lossL (zs Z (k + 1))).length ∧ OkL (lossL (zs Z (k + 1))) ∧ V2.ownsRow w.heap.size 35 2 (.slice a9 (p + 1 + 1) c9) (p + 1 + 1) (lossV (lossL (zs Z (k + 1))))) := Lib.hid (by
            rw [e]
            refine ⟨by simp [HP.out], fun x hx => ?_, by rw [lossV_app]; exact A9.own⟩
            rcases List.mem_append.1 hx with h | h
            · exact HOK.out x h
            · have : x = (s, 0) := by simpa using h
              subst this
              exact ⟨⟨s0, s1⟩, by omega, by omega⟩)
          have B2 := Lib.hid (HB.out.trans B9)
          clear A9 B9 e
          go_wp2_with (at_builtin; refine wpList_of_append rfl (.tmp 44) (.tmp 47) 31 rfl _ _ _ rfl rfl HA.out ?_)
          go_roundw
          case rel => exact ⟨k + 1, p + 1 + 1, a9, c9, by omega, by omega, by go_num, rfl, Lib.hid F.out.1, Lib.hid F.out.2.1, B2, Lib.hid F.out.2.2⟩
          case measure => simp [intOf] <;> omega
    · obtain rfl : n = k := by omega
      clear hlt
      go_wp2_with fail
      go_ret
      exact ⟨va, vc, by rw [HM.out]; rfl, by rw [← HM.out]; exact HO.out, HB.out⟩
end Go.Proofs.Ytdmbdageohjodaa
