/-
  Chapter 20: the numbers that losses name (rtcp.Nacked).
-/
import Derived.Test.YtdmbdageohjodaaLsI
import Derived.Test.YtdmbdageohjodaaLsV
namespace Go.Proofs.Ytdmbdageohjodaa
open Go.RowKit
set_option linter.unusedVariables false
set_option linter.unusedSimpArgs false
attribute [local irreducible] wpStill wpQuiet MixC.wpMix MixC.wpPick MixC.wpPickT
attribute [local go_sem] MixC.rdOp MixC.rd MixC.rdUpon MixC.mvUpon

/-- one loss's numbers, of the first m bits -/
def nk1 (q b : Int) (m : Nat) : List Int := q :: ((List.range m).filter fun k => b.toNat.testBit k).map fun k : Nat => (q + 1 + (k : Int)) % 65536
def nackL (O : List (Int × Int)) : List Int := O.flatMap fun x => nk1 x.1 x.2 16
theorem nk1_succ (q b : Int) (m : Nat) : nk1 q b (m + 1) = if b.toNat.testBit m = true then nk1 q b m ++ [(q + 1 + (m : Int)) % 65536] else nk1 q b m := by
  unfold nk1
  rw [List.range_succ, List.filter_append, List.map_append]
  by_cases h : b.toNat.testBit m = true
  · rw [if_pos h, List.filter_cons_of_pos (by simpa using h)]; rfl
  · rw [if_neg h, List.filter_cons_of_neg (by simpa using h)]; simp
theorem filter_or {p : Nat → Bool} {e : Nat} (he : ∀ k, p k = true → k < e) (n : Nat) : (List.range n).filter (fun k => p k || decide (k = e)) = if e < n then (List.range n).filter p ++ [e] else (List.range n).filter p := by
  induction n with
  | zero => simp
  | succ n ih =>
    rw [List.range_succ, List.filter_append, List.filter_append, ih]
    by_cases h1 : e < n
    · have hp : p n = false := by
        cases hh : p n with
        | false => rfl
        | true => have := he n hh; omega
      rw [if_pos h1, if_pos (by omega), List.filter_cons_of_neg (by simp [hp]; omega), List.filter_cons_of_neg (by simp [hp])]
      simp
    · by_cases h2 : e = n
      · subst h2
        have hp : p e = false := by
          cases hh : p e with
          | false => rfl
          | true => have := he e hh; omega
        rw [if_neg h1, if_pos (by omega), List.filter_cons_of_pos (by simp), List.filter_cons_of_neg (by simp [hp])]
        simp
      · rw [if_neg h1, if_neg (by omega)]
        congr 1
        by_cases hp : p n = true
        · have := he n hp
          rw [List.filter_cons_of_pos (by simp [hp]), List.filter_cons_of_pos hp]; rfl
        · rw [List.filter_cons_of_neg (by simp [hp]; omega), List.filter_cons_of_neg hp]; rfl
theorem orB_test {b d : Int} (hb : 0 ≤ b ∧ b ≤ 65535) (hd : 1 ≤ d ∧ d ≤ 16) (k : Nat) : (orB b d).toNat.testBit k = (b.toNat.testBit k || decide (k = d.toNat - 1)) := by
  unfold orB
  have hw : 0 ≤ IntKind.u16.wrap (2 ^ (d.toNat - 1)) ∧ IntKind.u16.wrap (2 ^ (d.toNat - 1)) < 65536 := by rw [IntKind.wrap_u16]; omega
  have hp : (IntKind.u16.wrap (2 ^ (d.toNat - 1))).toNat = 2 ^ (d.toNat - 1) := by
    rw [IntKind.wrap_u16]
    have h1 : (2 : Nat) ^ (d.toNat - 1) ≤ 2 ^ 15 := Nat.pow_le_pow_right (by omega) (by omega)
    have h2 : ((2 : Int) ^ (d.toNat - 1)) = (((2 : Nat) ^ (d.toNat - 1) : Nat) : Int) := by push_cast; rfl
    rw [h2]
    generalize (2 : Nat) ^ (d.toNat - 1) = x at h1 ⊢
    omega
  rw [u16_or b _ hb.1 (by omega) hw.1 hw.2, hp, Int.toNat_natCast, Nat.testBit_or, Nat.testBit_two_pow]
  congr 1
  by_cases h : k = d.toNat - 1 <;> simp [h, eq_comm]
/-- what a row of rising numbers' losses name is the row -/
theorem nack_loss (S : List Int) (hS : S.Pairwise (· < ·)) (hb : ∀ s ∈ S, 0 ≤ s ∧ s ≤ 65535) : nackL (lossL S) = S := by
  have key : ∀ S : List Int, S.Pairwise (· < ·) → (∀ s ∈ S, 0 ≤ s ∧ s ≤ 65535) → nackL (lossL S) = S ∧ (S = [] ∧ lossL S = [] ∨ ∃ P q b z, lossL S = P ++ [(q, b)] ∧ S.getLast? = some z ∧ 0 ≤ q ∧ q ≤ z ∧ (0 ≤ b ∧ b ≤ 65535) ∧ ∀ k : Nat, b.toNat.testBit k = true → q + 1 + (k : Int) ≤ z) := by
    intro S
    obtain ⟨n, hn⟩ : ∃ n, S.length = n := ⟨_, rfl⟩
    induction n generalizing S with
    | zero =>
      obtain rfl := List.length_eq_zero_iff.1 hn
      intro _ _; exact ⟨rfl, .inl ⟨rfl, rfl⟩⟩
    | succ n ih =>
      rcases List.eq_nil_or_concat S with rfl | ⟨S, s, rfl⟩
      · cases hn
      simp only [List.concat_eq_append] at hn ⊢
      replace ih := ih S (by rw [List.length_append] at hn; simpa using hn)
      intro hS hb
      rw [List.pairwise_append] at hS
      obtain ⟨h1, -, h2⟩ := hS
      have hs := hb s (by simp)
      obtain ⟨e, c⟩ := ih h1 (fun x hx => hb x (by simp [hx]))
      rw [lossL_snoc]
      rcases c with ⟨rfl, c⟩ | ⟨P, q, b, z, c, hz, q0, q1, bb, bt⟩
      · rw [c, lstep_nil]
        refine ⟨?_, .inr ⟨[], s, 0, s, rfl, rfl, hs.1, Int.le_refl _, by omega, fun k hk => by simp at hk⟩⟩
        simp [nackL, nk1]
      · have hzm : z ∈ S := List.mem_of_getLast? hz
        have hlt : z < s := h2 z hzm s (by simp)
        rw [c] at e ⊢
        have hl : (S ++ [s]).getLast? = some s := by simp
        cases hp : lossP q b s with
        | true =>
          unfold lossP at hp
          simp only [Bool.and_eq_true, decide_eq_true_eq] at hp
          have hd : (s - q) % 65536 = s - q := by omega
          rw [lstep_in (by unfold lossP; simp [hp]), hd]
          rw [hd] at hp
          have ht := orB_test bb hp
          refine ⟨?_, .inr ⟨P, q, _, s, rfl, hl, q0, by omega, orB_bd _ _ bb, fun k hk => ?_⟩⟩
          · rw [show nackL (P ++ [(q, orB b (s - q))]) = nackL P ++ nk1 q (orB b (s - q)) 16 by unfold nackL; simp]
            rw [show nackL (P ++ [(q, b)]) = nackL P ++ nk1 q b 16 by unfold nackL; simp] at e
            rw [← e, List.append_assoc]
            congr 1
            unfold nk1
            rw [show (fun k => (orB b (s - q)).toNat.testBit k) = fun k => (b.toNat.testBit k || decide (k = (s - q).toNat - 1)) from funext ht]
            rw [filter_or (fun k hk => by have := bt k hk; omega) 16, if_pos (by omega), List.map_append, ← List.cons_append]
            congr 1
            show [(q + 1 + (((s - q).toNat - 1 : Nat) : Int)) % 65536] = [s]
            congr 1
            omega
          · rw [ht k] at hk
            rw [Bool.or_eq_true] at hk
            rcases hk with h3 | h3
            · have := bt k h3; omega
            · have : k = (s - q).toNat - 1 := by simpa using h3
              omega
        | false =>
          rw [lstep_new hp]
          refine ⟨?_, .inr ⟨P ++ [(q, b)], s, 0, s, rfl, hl, hs.1, Int.le_refl _, by omega, fun k hk => by simp at hk⟩⟩
          rw [show nackL (P ++ [(q, b)] ++ [(s, 0)]) = nackL (P ++ [(q, b)]) ++ [s] by unfold nackL nk1; simp]
          rw [e]
  exact (key S hS hb).1
def NackPost (L : List Int) (w : World) (e : Ending) (w' : World) : Prop := ∃ a c, e = .returned (.slice a L.length c) ∧ w'.ownsRow w.heap.size 33 1 (.slice a L.length c) L.length (u16s L) ∧ Below w.heap.size w w'
theorem nk1_len (q b : Int) (m : Nat) : (nk1 q b m).length ≤ m + 1 := by
  unfold nk1
  rw [List.length_cons, List.length_map]
  have := List.length_filter_le (fun k => b.toNat.testBit k) (List.range m)
  rw [List.length_range] at this
  omega
theorem nackL_take {O : List (Int × Int)} {k : Nat} (h : k < O.length) : nackL (O.take (k + 1)) = nackL (O.take k) ++ nk1 (O.getD k (0, 0)).1 (O.getD k (0, 0)).2 16 := by
  unfold nackL
  rw [List.take_succ_eq_append_getElem h, List.flatMap_append]
  simp [List.getD, List.getElem?_eq_getElem h]
theorem nackL_le (O : List (Int × Int)) (k : Nat) : (nackL (O.take k)).length ≤ k * 17 := by
  induction k with
  | zero => simp [nackL]
  | succ k ih =>
    by_cases h : k < O.length
    · rw [nackL_take h, List.length_append]
      have := nk1_len (O.getD k (0, 0)).1 (O.getD k (0, 0)).2 16
      omega
    · rw [List.take_of_length_le (by omega)]
      rw [List.take_of_length_le (by omega)] at ih
      omega
/-- losses that lie somewhere -/
def LL (O : List (Int × Int)) (a : Option Addr) (V : World) : Prop := ∀ k, k < O.length → ∀ W, Below V.heap.size V W → ∃ b, a = some ⟨b, 0, none⟩ ∧ W.cell? ⟨b, k * 2, none⟩ = some (.int .u16 (O.getD k (0, 0)).1) ∧ W.cell? ⟨b, k * 2 + 1, none⟩ = some (.int .u16 (O.getD k (0, 0)).2)
theorem bit_test {r : Int} (h : 0 ≤ r ∧ r ≤ 65535) (j : Nat) : (bits BinOp.and IntKind.u16 (r / 2 ^ j) 1 != 0) = r.toNat.testBit j := by
  obtain ⟨n, rfl⟩ := Int.eq_ofNat_of_zero_le h.1
  have h1 : ((n : Int) / 2 ^ j) = ((n / 2 ^ j : Nat) : Int) := by push_cast; rfl
  have h2 : n / 2 ^ j ≤ n := Nat.div_le_self _ _
  have h3 : 0 ≤ ((n / 2 ^ j : Nat) : Int) ∧ ((n / 2 ^ j : Nat) : Int) < 65536 := by generalize n / 2 ^ j = z at h2 ⊢; omega
  rw [h1, u16_and _ _ h3.1 h3.2 (by omega) (by omega), Int.toNat_natCast, Int.toNat_natCast, Nat.testBit, Nat.shiftRight_eq_div_pow]
  show (((n / 2 ^ j &&& 1 : Nat) : Int) != 0) = (1 &&& n / 2 ^ j != 0)
  rw [Nat.and_comm]
  generalize 1 &&& n / 2 ^ j = y
  cases y with
  | zero => rfl
  | succ y =>
    have h1 : ((y + 1 : Nat) : Int) ≠ 0 := by omega
    have h2 : (y + 1 : Nat) ≠ 0 := by omega
    rw [bne_iff_ne.2 h1, bne_iff_ne.2 h2]
/-- in the inner loop: the box of the loss, the row -/
structure NB (w V : World) (g : Nat) (q r : Int) (L : List Int) (va : Option Addr) (m vc : Nat) : Prop where
  bl : Below w.heap.size w V
  row : V.ownsRow w.heap.size 33 1 (.slice va m vc) m (u16s L)
  box : V.heap[g]? = some (.cells #[.int .u16 q, .int .u16 r] 35 (0, 0))
theorem box_ne {V : World} {base n : Nat} {v : Value} {xs : List Value} {g : Nat} {cs : Array Value} {m : Nat × Nat} (h : V.ownsRow base 33 1 v n xs) (hb : V.heap[g]? = some (.cells cs 35 m)) : v.ownBlock ≠ some g := fun e =>
  own_typ h (r := some g) (T := 35) (fun k hk => by cases hk; exact ⟨_, _, hb⟩) (by decide) g e rfl
set_option maxRecDepth 100000 in
set_option maxHeartbeats 4000000 in
theorem nack_any (O : List (Int × Int)) (a : Option Addr) (n c : Nat) (w : World) (h : LL O a w) (hO : OkL O) (hn : O.length = n) (hn2 : n ≤ 100) (hnc : n ≤ c) :
    Calls Try.prog 26 #[.slice a n c] w (NackPost (nackL O) w) := by
  have H := Lib.hid h
  have HO := Lib.hid hO
  have HN := Lib.hid hn
  have B0 := Lib.hid (Below.refl w.heap.size w)
  have O0 : Hid (w.ownsRow w.heap.size 33 1 (.slice none 0 0) (nackL (O.take 0)).length (u16s (nackL (O.take 0)))) := Lib.hid (by rw [List.take_zero]; exact World.ownsRow_nil _ _ _ _)
  clear h hO hn
  go_enter Try.func26, Try.ntmps26
  go_wp2_with fail
  go_loopw [3, 9] (fun s3 s9 wr => ∃ (k m : Nat) (va : Option Addr) (vc : Nat), k ≤ n ∧ m ≤ k * 17 ∧ s9 = .int .i64 k ∧ s3 = .slice va m vc ∧ Hid (m = (nackL (O.take k)).length) ∧ Hid (Below w.heap.size w wr) ∧ Hid (wr.ownsRow w.heap.size 33 1 (.slice va m vc) m (u16s (nackL (O.take k))))) (fun _ s9 _ => n - (intOf s9).toNat)
  case atStart => exact ⟨0, 0, none, 0, by omega, by omega, rfl, rfl, Lib.hid rfl, B0, O0⟩
  case round =>
    clear B0 O0
    obtain ⟨k, m, va, vc, hk, hm, rfl, rfl, HM, HB, HR⟩ := hrel
    by_cases hlt : k < n
    · have hkO : k < O.length := by rw [HN.out]; exact hlt
      obtain ⟨b, rfl, x0, x1⟩ := H.out k hkO _ HB.out
      have hki : (k : Int) < n := by omega
      have HT := Lib.hid (nackL_take hkO)
      have hbd := HO.out _ (List.getElem_mem hkO)
      obtain ⟨q, hq⟩ : ∃ q, (O.getD k (0, 0)).1 = q := ⟨_, rfl⟩
      obtain ⟨r, hr⟩ : ∃ r, (O.getD k (0, 0)).2 = r := ⟨_, rfl⟩
      rw [hq] at x0
      rw [hr] at x1
      rw [hq, hr] at HT
      have hbd2 : (0 ≤ q ∧ q ≤ 65535) ∧ 0 ≤ r ∧ r ≤ 65535 := by
        rw [← hq, ← hr, List.getD, List.getElem?_eq_getElem hkO]; exact hbd
      clear hq hr hbd
      have hb0 : Below wr.heap.size wr (wr.alloc (.cells #[.int .u16 q, .int .u16 r] 35)) := (Below.refl _ _).alloc (Nat.le_refl _) _
      have hbox : (wr.alloc (.cells #[.int .u16 q, .int .u16 r] 35)).heap[wr.heap.size]? = some (.cells #[.int .u16 q, .int .u16 r] 35 (0, 0)) := alloc_blk_new
      have hsz : (wr.alloc (.cells #[.int .u16 q, .int .u16 r] 35)).heap.size = wr.heap.size + 1 := by simp
      obtain ⟨a9, c9, V2, A9, B9⟩ := app1 elU16 (own_below HR.out hb0) [.int .u16 q] rfl (one_cell rfl) (by omega) (by omega) (by have := HB.out.size; omega)
      have HA := Lib.hid A9.run
      rw [hsz] at HA
      have X2 : Hid (NB w V2 wr.heap.size q r (nackL (O.take k) ++ nk1 q r 0) a9 (m + 1) c9) := Lib.hid ⟨HB.out.trans ((hb0.mono HB.out.size).trans B9), by have := A9.own; unfold u16s at this ⊢; rw [List.map_append]; exact this, A9.but.blk hbox (box_ne (own_below HR.out hb0) hbox)⟩
      clear A9 B9 hbox hb0 hsz
      have hm2 : m + 1 ≤ k * 17 + 1 := by omega
      go_wp2_with (at_builtin; refine wpList_of_append rfl (.tmp 13) (.tmp 16) 51 rfl _ _ _ rfl rfl HA.out ?_)
      obtain ⟨g, hg⟩ : ∃ g, wr.heap.size = g := ⟨_, rfl⟩
      rw [hg] at X2 ⊢
      clear hg
      go_loopw [3, 18] (fun s3 s18 wx => ∃ (j m' : Nat) (va' : Option Addr) (vc' : Nat), j ≤ 16 ∧ m' ≤ k * 17 + 1 + j ∧ s18 = .int .i64 j ∧ s3 = .slice va' m' vc' ∧ Hid (NB w wx g q r (nackL (O.take k) ++ nk1 q r j) va' m' vc')) (fun _ s18 _ => 16 - (intOf s18).toNat)
      case atStart => exact ⟨0, m + 1, a9, c9, by omega, by omega, rfl, rfl, X2⟩
      case round =>
        clear X2 HA HB HR x0 x1
        obtain ⟨j, m', va', vc', hj, hm', rfl, rfl, X⟩ := hrel
        by_cases h16 : j < 16
        · have h16i : (j : Int) < 16 := by omega
          have z0 : wr.cell? ⟨g, 0, none⟩ = some (.int .u16 q) := cell_blk X.out.box
          have z1 : wr.cell? ⟨g, 1, none⟩ = some (.int .u16 r) := cell_blk X.out.box
          have hT := bit_test hbd2.2 j
          have hS := nk1_succ q r j
          have j1 : IntKind.i64.wrap ((j : Int) + 1) = (j : Int) + 1 := IntWalk.i64_in _ (by omega)
          cases hb : r.toNat.testBit j with
          | false =>
            rw [hb] at hT
            rw [hb, if_neg (by decide)] at hS
            have X3 : Hid (NB w wr g q r (nackL (O.take k) ++ nk1 q r (j + 1)) va' m' vc') := Lib.hid (by rw [hS]; exact X.out)
            clear hb hS
            go_wp2_with fail
            go_roundw
            case rel => exact ⟨j + 1, m', va', vc', by omega, by omega, by go_num, rfl, X3⟩
            case measure => simp [intOf] <;> omega
          | true =>
            rw [hb] at hT
            rw [hb, if_pos rfl] at hS
            clear hb
            obtain ⟨y, hy⟩ : ∃ y, (q + 1 + (j : Int)) % 65536 = y := ⟨_, rfl⟩
            rw [hy] at hS
            have hq0 := hbd2.1
            have w1 : IntKind.u16.wrap (IntKind.u16.wrap (q + 1) + (j : Int)) = y := by rw [IntKind.wrap_u16, IntKind.wrap_u16]; omega
            obtain ⟨a9, c9, V2, A9, B9⟩ := app1 elU16 X.out.row [.int .u16 y] rfl (one_cell rfl) (by omega) (by omega) X.out.bl.size
            have HA := Lib.hid A9.run
            have X3 : Hid (NB w V2 g q r (nackL (O.take k) ++ nk1 q r (j + 1)) a9 (m' + 1) c9) := Lib.hid ⟨X.out.bl.trans B9, by have := A9.own; rw [hS, ← List.append_assoc]; unfold u16s at this ⊢; rw [List.map_append]; exact this, A9.but.blk X.out.box (box_ne X.out.row X.out.box)⟩
            clear A9 B9 hS hy
            have hd : decide ((wr.heap.size : Int) < 0) = false := by simp
            go_wp2_with (at_builtin; refine wpList_of_append rfl (.tmp 27) (.tmp 34) 51 rfl _ _ _ rfl rfl HA.out ?_)
            go_roundw
            case rel => exact ⟨j + 1, m' + 1, a9, c9, by omega, by omega, by go_num, rfl, X3⟩
            case measure => simp [intOf] <;> omega
        · obtain rfl : j = 16 := by omega
          have X4 : Hid (NB w wr g q r (nackL (O.take (k + 1))) va' m' vc') := Lib.hid (by rw [HT.out]; exact X.out)
          have hml : Hid (m' = (nackL (O.take (k + 1))).length) := Lib.hid (by have := X4.out.row.1; unfold u16s at this; rw [List.length_map] at this; omega)
          have k1 : IntKind.i64.wrap ((k : Int) + 1) = (k : Int) + 1 := IntWalk.i64_in _ (by omega)
          have XB := Lib.hid X4.out.bl
          have XR := Lib.hid X4.out.row
          clear X X4 HT HM
          go_wp2_with fail
          go_roundw
          case rel => exact ⟨k + 1, m', va', vc', by omega, by omega, by go_num, rfl, hml, XB, XR⟩
          case measure => simp [intOf] <;> omega
    · obtain rfl : n = k := by omega
      clear hlt
      go_wp2_with fail
      go_ret
      have e : O.take n = O := by rw [← HN.out, List.take_length]
      have h1 := HM.out
      rw [e] at h1
      subst h1
      exact ⟨va, vc, rfl, by have := HR.out; rwa [e] at this, HB.out⟩
end Go.Proofs.Ytdmbdageohjodaa
