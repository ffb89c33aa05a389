/-
  Chapter 12: the reference's Read.
-/
import Derived.Test.YtkoplofcjbeicaaStF
namespace Go.Proofs.Ytkoplofcjbeicaa
open Go.RowKit
set_option linter.unusedVariables false
set_option linter.unusedSimpArgs false
attribute [local irreducible] wpStill wpQuiet MixC.wpMix
attribute [local go_sem] MixC.rdOp MixC.rd MixC.rdUpon MixC.mvUpon

def updF (x : Nat → Int) (k : Nat) (u : Int) : Nat → Int := fun i => if i = k then u else x i
def xP (Z : Nat → Int) (k : Nat) : Nat → Int := fun i => if i < k then Z (8 + i) else 0
theorem xP_succ (Z : Nat → Int) (k : Nat) : updF (xP Z k) k (Z (8 + k)) = xP Z (k + 1) := by
  funext i
  unfold updF xP
  by_cases h : i = k
  · rw [if_pos h, if_pos (by omega), h]
  · rw [if_neg h]
    by_cases h2 : i < k
    · rw [if_pos h2, if_pos (by omega)]
    · rw [if_neg h2, if_neg (by omega)]
theorem set_msg (T : Int) (x : Nat → Int) (v : Value) (k : Nat) (u : Int) (hk : k < 12) : (msgV T x v).setIfInBounds (1 + k) (.int .u8 u) = msgV T (updF x k u) v := by
  rcases (by omega : k = 0 ∨ k = 1 ∨ k = 2 ∨ k = 3 ∨ k = 4 ∨ k = 5 ∨ k = 6 ∨ k = 7 ∨ k = 8 ∨ k = 9 ∨ k = 10 ∨ k = 11) with rfl | rfl | rfl | rfl | rfl | rfl | rfl | rfl | rfl | rfl | rfl | rfl <;> rfl
theorem msg_congr {T : Int} {x y : Nat → Int} {v : Value} (h : ∀ i, i < 12 → x i = y i) : msgV T x v = msgV T y v := by
  unfold msgV
  rw [h 0 (by omega), h 1 (by omega), h 2 (by omega), h 3 (by omega), h 4 (by omega), h 5 (by omega), h 6 (by omega), h 7 (by omega), h 8 (by omega), h 9 (by omega), h 10 (by omega), h 11 (by omega)]
theorem xP_all (Z : Nat → Int) (T : Int) (v : Value) : msgV T (xP Z 12) v = msgV T (shA Z 8) v := msg_congr (fun i hi => by unfold xP shA; rw [if_pos hi])
theorem valsA_get (l : List AtE) (i : Nat) (hi : i < l.length) : (l.flatMap AtE.vals)[i * 2]? = some (.int .u16 (l[i]).e.t) ∧ (l.flatMap AtE.vals)[i * 2 + 1]? = some (.slice (l[i]).e.a (l[i]).e.n (l[i]).e.c) := by
  induction l generalizing i with
  | nil => exact absurd hi (Nat.not_lt_zero _)
  | cons x l ih =>
    rw [List.flatMap_cons]
    cases i with
    | zero => exact ⟨rfl, rfl⟩
    | succ i =>
      have := ih i (by simpa using hi)
      rw [show (i + 1) * 2 = i * 2 + 2 by omega]
      simpa [AtE.vals] using this
def lA (l : List AtE) (i : Nat) : At := (l.map AtE.e).getD i default
theorem lA_get (l : List AtE) (i : Nat) (hi : i < l.length) : lA l i = (l[i]).e := by simp [lA, hi]
structure OkA (e : At) : Prop where
  t0 : 0 ≤ e.t
  t1 : e.t ≤ 65535
  n : e.n ≤ 100000
  z : ∀ i, i < e.n → 0 ≤ e.Z i ∧ e.Z i ≤ 255
theorem AList.ats {l : List AtE} {base : Nat} {a : Option Addr} {n c : Nat} {w : World} (h : AList l base (.slice a n c) w) (ok : ∀ y ∈ l, OkA y.e) : n = l.length ∧ Ats w.heap.size w a n c (lA l) := by
  obtain ⟨h1, h2⟩ := h
  have hlt := h1.lt
  have hcell := fun g => h1.cells (g := g)
  have okk : ∀ i, i < l.length → AtOk w.heap.size w (lA l i) := fun i hi => by
    obtain ⟨q1, q2, q9, q10⟩ := ok _ (List.getElem_mem hi)
    rw [lA_get l i hi]
    obtain ⟨a', c', he, hs⟩ := BS.of_owns (h2 _ (List.getElem_mem hi)) q10 (by omega)
    have e1 : a' = (l[i]).e.a := by injection he with x1 x2 x3; exact x1.symm
    have e2 : c' = (l[i]).e.c := by injection he with x1 x2 x3; exact x3.symm
    rw [e1, e2] at hs
    exact ⟨q1, q2, hs⟩
  obtain ⟨h3, h4⟩ := h1
  rcases h4 with ⟨hv, h0⟩ | ⟨g, cap, cur, hv, hg, hh, hn2, hcap, hsz, _⟩
  · injection hv with e1 e2 e3
    subst e1 e2 e3
    have hl0 : l.length = 0 := by omega
    exact ⟨hl0.symm, Nat.le_refl _, by omega, fun i hi => by omega, 0, 0, fun h => by omega, fun i hi => by omega⟩
  · injection hv with e1 e2 e3
    subst e1 e2 e3
    refine ⟨rfl, hn2, by unfold maxLen at hcap; omega, okk, g, 0, fun _ => ⟨rfl, (hlt g rfl).2⟩, fun i hi => ?_⟩
    rw [lA_get l i hi]
    have t0 := hcell g rfl (i * 2) _ (valsA_get l i hi).1
    have t1 := hcell g rfl (i * 2 + 1) _ (valsA_get l i hi).2
    rw [addr_add] at t0 t1
    exact ⟨t0, t1⟩
theorem cons_lA (l : List AtE) : cons (lA l) l.length = l.map (fun y => y.e.con) := by
  unfold cons
  apply List.ext_getElem
  · simp
  · intro i h1 h2
    have hi : i < l.length := by simpa using h1
    rw [List.getElem_map, List.getElem_range, List.getElem_map, lA_get l i hi]
/-- between two rounds of the reference -/
structure RrI (Z : Nat → Int) (n : Nat) (T : Int) (w : World) (g2 g4 N0 p : Nat) (l : List AtE) (v : Value) (W : World) : Prop where
  h4 : W.heap[g4]? = some (.cells (msgV T (shA Z 8) v) 28 (0, 0))
  h2 : W.heap[g2]? = some (.cells noV 28 (0, 0))
  row : AList l N0 v W
  bl : Below w.heap.size w W
  sz : N0 ≤ W.heap.size
  is : ∀ y ∈ l, y.e.Z = shA Z y.st ∧ OkA y.e
  rp : rprA Z n 20 = (rprA Z n p).map (l.map AtE.key ++ ·)
/-- what the reference's Read hands back -/
def RRead12 (Z : Nat → Int) (n : Nat) (w : World) (e : Ending) (w' : World) : Prop :=
  Below w.heap.size w w' ∧ ((∃ (l : List AtE) (v : Value), e = .returned (.tuple #[.agg (msgV (typA Z 0) (shA Z 8) v), .int .i64 0]) ∧ rreadM Z n (l.map AtE.key) ∧ AList l w.heap.size v w' ∧ (∀ y ∈ l, y.e.Z = shA Z y.st ∧ OkA y.e)) ∨
    (∃ E, e = .returned (.tuple #[.agg noV, .int .i64 E]) ∧ ((E = 2 ∧ n < 20) ∨ (E = 3 ∧ 20 ≤ n)) ∧ ∀ ks, ¬ rreadM Z n ks))
theorem store_m1 {W X : World} {g : Nat} {T : TypeId} {t t' : Int} {x x' : Nat → Int} {v v' : Value} (h2 : W.heap[g]? = some (.cells (msgV t x v) T (0, 0))) (hX : W.setCells g 0 (msgV t' x' v').toList = X) :
    X.heap[g]? = some (.cells (msgV t' x' v') T (0, 0)) ∧ But (some g) W X := by
  subst hX
  have m2 := setM_blk (msgV t' x' v').toList 0 (msgV t x v) W h2
  rw [fillM_ms] at m2
  exact ⟨m2, setM_but g (msgV t' x' v').toList 0 W W (But.refl _ _)⟩
theorem num_r (B : Nat) (a : Option Addr) (n c : Nat) (Z : Nat → Int) (p k : Nat) (w : World) (hb : BS B w a n c Z) (hk : 1 ≤ k) (hk8 : k ≤ 8) (h : p + k ≤ n) :
    Calls Try.prog 42 #[.slice a n c, .int .i64 (p : Int), .int .i64 (k : Int)] w fun e w' => e = .returned (.int .u64 (numv Z p k)) ∧ w = w' :=
  rnum_any B a n c Z (p : Int) (k : Int) w hb (by rw [there_b n p k hk hk8]; exact decide_eq_true h)
set_option maxRecDepth 100000 in
set_option maxHeartbeats 4000000 in
theorem rread12_any (B : Nat) (a : Option Addr) (n c : Nat) (Z : Nat → Int) (w : World) (hb : BS B w a n c Z) (hB : B ≤ w.heap.size) (hn : n ≤ 3000) :
    Calls Try.prog 13 #[.slice a n c] w (RRead12 Z n w) := by
  have HB := Lib.hid hb
  have hle := hb.le
  have hmx := hb.max
  clear hb
  go_enter Try.func13, Try.ntmps13
  go_upto_region 2 with (fail)
  obtain ⟨W0, hW0⟩ : ∃ W0, (w.alloc (.cells noV 28)).alloc (.cells noV 28) = W0 := ⟨_, rfl⟩
  obtain ⟨g2, hg2⟩ : ∃ g2, w.heap.size = g2 := ⟨_, rfl⟩
  have H2 : W0.heap[g2]? = some (.cells noV 28 (0, 0)) := by
    rw [← hW0, ← hg2, alloc_blk_old (by simp [World.size_alloc])]
    exact alloc_blk_new
  have H4 : W0.heap[g2 + 1]? = some (.cells noV 28 (0, 0)) := by
    rw [← hW0, ← hg2]
    have := alloc_blk_new (w := w.alloc (.cells noV 28)) (o := .cells noV 28)
    rw [World.size_alloc] at this
    exact this
  have HS0 : W0.heap.size = g2 + 1 + 1 := by rw [← hW0, ← hg2]; simp [World.size_alloc]
  have b0 : Below w.heap.size w W0 := by rw [← hW0]; exact ((Below.refl _ _).alloc (Nat.le_refl _) _).alloc (by simp [World.size_alloc]) _
  change Code.wp _ _ _ _ ((w.alloc (.cells noV 28)).alloc (.cells noV 28))
  rw [hW0, hg2]
  have HH2 := Lib.hid H2
  have HH4 := Lib.hid H4
  have HHS := Lib.hid HS0
  have HB0 := Lib.hid b0
  have HG2 := Lib.hid hg2
  clear H2 H4 HS0 b0 hW0 hg2
  obtain ⟨f0, f1, f2, f3, f4, f5, f6, f7, f8, f9, f10, f11, f12, f13⟩ := MsgF.mk' HH4.out
  by_cases h20 : n < 20
  · have h20i : (n : Int) < 20 := by omega
    obtain ⟨j0, j1, j2, j3, j4, j5, j6, j7, j8, j9, j10, j11, j12, j13⟩ := MsgZ.mk' HH2.out
    obtain ⟨k0, k1, k2, k3, k4, k5, k6, k7, k8, k9, k10, k11, k12, k13⟩ := MsgF.mk' HH2.out
    go_wp2_with fail
    generalize hX : World.setCell _ _ _ = X
    obtain ⟨e2, hbut⟩ := store_m1 (t' := 0) (x' := fun _ => 0) (v' := .slice none 0 0) HH2.out hX
    clear hX f0 f1 f2 f3 f4 f5 f6 f7 f8 f9 f10 f11 f12 f13 j0 j1 j2 j3 j4 j5 j6 j7 j8 j9 j10 j11 j12 j13 k0 k1 k2 k3 k4 k5 k6 k7 k8 k9 k10 k11 k12 k13
    obtain ⟨f0, f1, f2, f3, f4, f5, f6, f7, f8, f9, f10, f11, f12, f13⟩ := MsgF.mk' e2
    refine bodyPost_ret (v := .tuple #[.agg noV, .int .i64 2]) (by simp [results, Try.results13, go_sem, f0, f1, f2, f3, f4, f5, f6, f7, f8, f9, f10, f11, f12, f13]; rfl) rfl ?_
    exact ⟨HB0.out.trans (hbut.below (by have := HB0.out.size; omega) (fun q e => by cases e; have := HG2.out; omega)), .inr ⟨2, rfl, .inl ⟨rfl, h20⟩, fun ks h => by have := h.1; omega⟩⟩
  · have h20i : ¬ (n : Int) < 20 := by omega
    clear f1 f2 f3 f4 f5 f6 f7 f8 f9 f10 f11 f12 f13
    obtain ⟨b, off, rfl, hbb, hc⟩ := HB.out.at_ (by omega)
    have HC := Lib.hid hc
    have HBD : Hid (Bd Z n) := Lib.hid HB.out.bd
    have HT0 := Lib.hid (num_r B _ n c Z 0 2 W0 (HB.out.keep (HB0.out.mono hB)) (by omega) (by omega) (by omega))
    have tb := typA_bd (p := 0) HBD.out (by omega)
    obtain ⟨T, hT⟩ : ∃ T, typA Z 0 = T := ⟨_, rfl⟩
    rw [numv_two, hT] at HT0
    rw [hT] at tb
    have HTT := Lib.hid hT
    have wt : IntKind.u16.wrap T = T := by rw [IntKind.wrap_u16]; omega
    have j0 : W0.frozen? ⟨g2 + 1, 0, none⟩ = false := free_blk HH4.out
    clear hc hT
    go_wp2_with fail
    refine HT0.out.mono ?_
    rintro e w' ⟨rfl, rfl⟩
    go_wp2_with fail
    obtain ⟨W1, hW1⟩ : ∃ W1, W0.setCell ⟨g2 + 1, 0, none⟩ (.int .u16 T) = W1 := ⟨_, rfl⟩
    rw [hW1]
    have K4 : Hid (W1.heap[g2 + 1]? = some (.cells (msgV T (xP Z 0) (.slice none 0 0)) 28 (0, 0))) := Lib.hid (by rw [← hW1, set_blk _ HH4.out]; rfl)
    have hbut1 : But (some (g2 + 1)) W0 W1 := by rw [← hW1]; exact (But.refl _ _).set 0 _
    have K2 : Hid (W1.heap[g2]? = some (.cells noV 28 (0, 0))) := Lib.hid (hbut1.blk HH2.out (fun e => by injection e with e; omega))
    have KB : Hid (Below w.heap.size w W1) := Lib.hid (HB0.out.trans (hbut1.below HB0.out.size (fun q e => by cases e; have := HG2.out; omega)))
    have KS : Hid (W0.heap.size ≤ W1.heap.size) := Lib.hid hbut1.size
    clear hW1 hbut1 f0 j0 HT0 wt
    go_loopw [5] (fun s5 wr => ∃ k : Nat, k ≤ 12 ∧ s5 = .int .i64 k ∧ Hid (wr.heap[g2 + 1]? = some (.cells (msgV T (xP Z k) (.slice none 0 0)) 28 (0, 0))) ∧ Hid (wr.heap[g2]? = some (.cells noV 28 (0, 0))) ∧ Hid (Below w.heap.size w wr) ∧ Hid (W0.heap.size ≤ wr.heap.size)) (fun s5 _ => 12 - (intOf s5).toNat)
    case atStart => exact ⟨0, by omega, rfl, K4, K2, KB, KS⟩
    case round =>
      obtain ⟨k, hk, rfl, R4, R2, RB, RS⟩ := hrel
      by_cases hlt : k < 12
      · have hki : (k : Int) < 12 := by omega
        have c0 : wr.cell? ⟨b, off + (8 + k), none⟩ = some (.int .u8 (Z (8 + k))) := Below.cell' (RB.out.mono hB) hbb (HC.out (8 + k) (by omega))
        have wk : IntKind.i64.wrap (8 + (k : Int)) = 8 + (k : Int) := IntWalk.i64_in _ (by omega)
        have h8n : 8 + (k : Int) < n := by omega
        have h8t : (8 + (k : Int)).toNat = 8 + k := by omega
        have d1 : wr.cell? ⟨g2 + 1, 1 + k, none⟩ = some (.int .u8 (xP Z k k)) := by
          rw [cell_blk R4.out]
          rcases (by omega : k = 0 ∨ k = 1 ∨ k = 2 ∨ k = 3 ∨ k = 4 ∨ k = 5 ∨ k = 6 ∨ k = 7 ∨ k = 8 ∨ k = 9 ∨ k = 10 ∨ k = 11) with rfl | rfl | rfl | rfl | rfl | rfl | rfl | rfl | rfl | rfl | rfl | rfl <;> rfl
        have d2 : wr.frozen? ⟨g2 + 1, 1 + k, none⟩ = false := free_blk R4.out
        have hbut := (But.refl (some (g2 + 1)) wr).set (1 + k) (.int .u8 (Z (8 + k)))
        have Q4 : Hid ((wr.setCell ⟨g2 + 1, 1 + k, none⟩ (.int .u8 (Z (8 + k)))).heap[g2 + 1]? = some (.cells (msgV T (xP Z (k + 1)) (.slice none 0 0)) 28 (0, 0))) := Lib.hid (by rw [set_blk _ R4.out, set_msg _ _ _ _ _ hlt, xP_succ])
        have Q2 := Lib.hid (hbut.blk R2.out (fun e => by injection e with e; omega))
        have QB := Lib.hid (RB.out.trans (hbut.below RB.out.size (fun q e => by cases e; have := HG2.out; omega)))
        have QS := Lib.hid (Nat.le_trans RS.out hbut.size)
        clear hbut
        go_wp2_with fail
        go_roundw
        case rel => exact ⟨k + 1, by omega, by go_num, Q4, Q2, QB, QS⟩
        case measure => simp [intOf] <;> omega
      · obtain rfl : k = 12 := by omega
        clear hlt
        rw [show ((12 : Nat) : Int) = 12 from rfl]
        go_wp2_with fail
        obtain ⟨N0, hN0⟩ : ∃ N0, wr.heap.size = N0 := ⟨_, rfl⟩
        have HN0 := Lib.hid hN0
        have hg4N : g2 + 1 < N0 := by rw [← hN0]; exact lt_of_block R4.out
        have hwN : w.heap.size ≤ N0 := by rw [← hN0]; exact RB.out.size
        have I0 : Hid (RrI Z n T w g2 (g2 + 1) N0 20 [] (.slice none 0 0) wr) := Lib.hid ⟨by rw [← xP_all]; exact R4.out, R2.out, AList.nil _ _, RB.out, by omega, fun y hy => (by cases hy), by cases rprA Z n 20 <;> rfl⟩
        obtain ⟨wz, hwz⟩ : ∃ wz, wz = wr := ⟨_, rfl⟩
        rw [← hwz] at I0 ⊢
        clear hwz hN0 HN0 R4 R2 RB RS wr K4 K2 KB KS
        go_loopw [6] (fun s6 wr => ∃ (p : Nat) (l : List AtE) (va : Option Addr) (vc : Nat), 20 ≤ p ∧ p ≤ n + 3 ∧ 4 * l.length ≤ p ∧ s6 = .int .i64 p ∧ Hid (RrI Z n T w g2 (g2 + 1) N0 p l (.slice va l.length vc) wr)) (fun s6 _ => n + 4 - (intOf s6).toNat)
        case atStart => exact ⟨20, [], none, 0, by omega, by omega, by simp, rfl, I0⟩
        case round =>
          clear I0
          obtain ⟨p, l, va, vc, hp20, hpn, hl4, rfl, HI⟩ := hrel
          have HBY : Hid (∀ y, Below N0 wr y → BS B y (some ⟨b, off, none⟩) n c Z) := Lib.hid (fun y hy => HB.out.keep ((HI.out.bl.mono hB).trans (hy.mono (by omega))))
          have wp4 : IntKind.i64.wrap ((p : Int) + 4) = (p : Int) + 4 := IntWalk.i64_in _ (by omega)
          by_cases hp4 : p + 4 ≤ n
          · have hp4i : (p : Int) + 4 ≤ n := by omega
            obtain ⟨L, hL⟩ : ∃ L, lenA Z p = L := ⟨_, rfl⟩
            have hLc : typA Z (p + 2) = (L : Int) := by rw [← hL, lenA_cast HBD.out hp4]
            have hLb : L ≤ 65535 := by have := (typA_bd HBD.out (show p + 2 + 2 ≤ n by omega)).2; omega
            have tp := typA_bd HBD.out (show p + 2 ≤ n by omega)
            obtain ⟨t, ht⟩ : ∃ t, typA Z p = t := ⟨_, rfl⟩
            rw [ht] at tp
            have hn2 := num_r B _ n c Z (p + 2) 2 wr (HBY.out wr (Below.refl _ _)) (by omega) (by omega) (by omega)
            rw [numv_two, hLc, show ((p + 2 : Nat) : Int) = (p : Int) + 2 by omega] at hn2
            have HN2 := Lib.hid hn2
            have HNT : Hid (∀ y, Below N0 wr y → Calls Try.prog 42 #[.slice (some ⟨b, off, none⟩) n c, .int .i64 (p : Int), .int .i64 2] y fun e w' => e = .returned (.int .u64 t) ∧ y = w') := Lib.hid (fun y hy => by
              have h := num_r B _ n c Z p 2 y (HBY.out y hy) (by omega) (by omega) (by omega)
              rw [numv_two, ht] at h
              exact h)
            have HKY : Hid (keyA Z p = (t, p + 4, L)) := Lib.hid (by unfold keyA; rw [ht, hL])
            have HSZ : Hid (sizA Z p = 4 + L + padN L 4) := Lib.hid (by unfold sizA padA; rw [hL])
            have HLL := Lib.hid hL
            have wl : IntKind.i64.wrap (L : Int) = (L : Int) := IntWalk.i64_in _ (by omega)
            have wp2 : IntKind.i64.wrap ((p : Int) + 2) = (p : Int) + 2 := IntWalk.i64_in _ (by omega)
            have wpl : IntKind.i64.wrap ((p : Int) + 4 + L) = (p : Int) + 4 + L := IntWalk.i64_in _ (by omega)
            clear hn2 hLc ht hL
            by_cases hlong : n < p + 4 + L
            · have hlongi : (n : Int) < (p : Int) + 4 + L := by omega
              obtain ⟨j0, j1, j2, j3, j4, j5, j6, j7, j8, j9, j10, j11, j12, j13⟩ := MsgZ.mk' HI.out.h2
              obtain ⟨k0, k1, k2, k3, k4, k5, k6, k7, k8, k9, k10, k11, k12, k13⟩ := MsgF.mk' HI.out.h2
              go_wp2_with fail
              refine HN2.out.mono ?_
              rintro e w' ⟨rfl, rfl⟩
              go_wp2_with fail
              generalize hX : World.setCell _ _ _ = X
              obtain ⟨e2, hbut⟩ := store_m1 (t' := 0) (x' := fun _ => 0) (v' := .slice none 0 0) HI.out.h2 hX
              clear hX j0 j1 j2 j3 j4 j5 j6 j7 j8 j9 j10 j11 j12 j13 k0 k1 k2 k3 k4 k5 k6 k7 k8 k9 k10 k11 k12 k13
              obtain ⟨f0, f1, f2, f3, f4, f5, f6, f7, f8, f9, f10, f11, f12, f13⟩ := MsgF.mk' e2
              refine bodyPost_ret (v := .tuple #[.agg noV, .int .i64 3]) (by simp [results, Try.results13, go_sem, f0, f1, f2, f3, f4, f5, f6, f7, f8, f9, f10, f11, f12, f13]; rfl) rfl ?_
              refine ⟨HI.out.bl.trans (hbut.below HI.out.bl.size (fun q e => by cases e; have := HG2.out; omega)), .inr ⟨3, rfl, .inr ⟨rfl, by omega⟩, fun ks h => ?_⟩⟩
              have hr : rprA Z n p = none := by rw [rprA, dif_pos hp4, if_pos (by rw [HLL.out]; exact hlong)]
              have h1 := HI.out.rp
              rw [hr, h.2.1] at h1
              cases h1
            · have hlongi : ¬ (n : Int) < (p : Int) + 4 + L := by omega
              have hAl := HI.out.row
              have c13 : wr.cell? ⟨g2 + 1, 13, none⟩ = some (.slice va l.length vc) := cell_blk HI.out.h4
              have hg4w : g2 + 1 < wr.heap.size := lt_of_block HI.out.h4
              have hsz := HI.out.sz
              obtain ⟨A6, hs6, bs6⟩ := sl_cut (HBY.out wr (Below.refl _ _)) (p + 4) (p + 4 + L) (by omega) (by omega) .i64 .i64
              rw [show ((p + 4 : Nat) : Int) = (p : Int) + 4 by omega, show ((p + 4 + L : Nat) : Int) = (p : Int) + 4 + L by omega, show p + 4 + L - (p + 4) = L by omega] at hs6
              rw [show p + 4 + L - (p + 4) = L by omega] at bs6
              have bd : Below wr.heap.size wr wr.drew := (Below.refl _ _).drew
              obtain ⟨Wa, hWa⟩ : ∃ Wa, wr.drew.alloc (.cells #[] 5) = Wa := ⟨_, rfl⟩
              have h0 : Wa.ownsRow N0 5 1 (.slice (some ⟨wr.heap.size, 0, none⟩) 0 0) 0 (u8s []) := by
                rw [← hWa]
                exact World.ownsRow.mono (World.ownsRow_made wr.drew #[] 0 (Nat.le_refl _) (by unfold maxLen; omega) rfl) hsz
              have bA : Below wr.heap.size wr Wa := by rw [← hWa]; exact bd.alloc (Nat.le_refl _) _
              have bsA := bs6.keep (bA.mono (by omega))
              obtain ⟨a3, c3, Wb, A3, B3⟩ := appS elU8 h0 A6 L (c - (p + 4)) (u8s (zs (shA Z (p + 4)) L)) bsA.nils (by rw [u8s_len, zs_len, Nat.mul_one]) bsA.news' (u8s_one _) (by omega) (by omega) (by have := bA.size; omega)
              have hr3 := A3.run
              rw [Nat.zero_add] at hr3
              have o3 := A3.own
              rw [Nat.zero_add, show u8s [] ++ u8s (zs (shA Z (p + 4)) L) = bytesOf (shA Z (p + 4)) L by rw [zs_u8s]; rfl] at o3
              have bB : Below wr.heap.size wr Wb := bA.trans (A3.but.below bA.size (fun q e => by cases e; exact Nat.le_refl _))
              have RB := hAl.below bB
              obtain ⟨a9, c9, Wc, A9, B9⟩ := app1 elAt RB.row [.int .u16 t, .slice a3 L c3] rfl (fun u hu => by simp at hu; rcases hu with rfl | rfl <;> rfl) (by omega) (by omega) (by have := bB.size; omega)
              have RC := RB.add (x := ⟨⟨t, a3, L, c3, shA Z (p + 4)⟩, p + 4, true⟩) o3 A9.but A9.own
              have D0 : Hid (Below N0 wr wr.drew) := Lib.hid (bd.mono hsz)
              have D1 : Hid (Below N0 wr (wr.drew.alloc (.cells #[] 5))) := Lib.hid (by rw [hWa]; exact bA.mono hsz)
              have D2 : Hid (Below N0 wr Wb) := Lib.hid (bB.mono hsz)
              have D3 : Hid (Below N0 wr (Wb.alloc (.cells #[.int .u16 t, .slice a3 L c3] 75))) := Lib.hid ((bB.mono hsz).alloc (by have := bB.size; omega) _)
              have D4 : Hid (Below N0 wr Wc) := Lib.hid ((bB.mono hsz).trans B9)
              rw [← hWa] at hr3
              have HA3 := Lib.hid hr3
              have HA9 := Lib.hid A9.run
              have HRC := Lib.hid RC
              have HKC : Hid (Wc.heap[g2 + 1]? = some (.cells (msgV T (shA Z 8) (.slice va l.length vc)) 28 (0, 0))) := Lib.hid (Below.blk D4.out HI.out.h4 hg4N)
              have HKD : Hid (Wc.heap[g2]? = some (.cells noV 28 (0, 0))) := Lib.hid (Below.blk D4.out HI.out.h2 (by omega))
              have wt : IntKind.u16.wrap t = t := by rw [IntKind.wrap_u16]; omega
              have v13 : Wc.cell? ⟨g2 + 1, 13, none⟩ = some (.slice va l.length vc) := cell_blk HKC.out
              have v14 : Wc.frozen? ⟨g2 + 1, 13, none⟩ = false := free_blk HKC.out
              have tl : ((L : Int) + 3).tdiv 4 = ((L : Int) + 3) / 4 := Int.tdiv_eq_ediv_of_nonneg (by omega)
              have wl3 : IntKind.i64.wrap ((L : Int) + 3) = (L : Int) + 3 := IntWalk.i64_in _ (by omega)
              have wl4 : IntKind.i64.wrap (((L : Int) + 3) / 4) = ((L : Int) + 3) / 4 := IntWalk.i64_in _ (by omega)
              have wl5 : IntKind.i64.wrap (((L : Int) + 3) / 4 * 4) = ((L : Int) + 3) / 4 * 4 := IntWalk.i64_in _ (by omega)
              have wl6 : IntKind.i64.wrap ((p : Int) + 4 + ((L : Int) + 3) / 4 * 4) = (p : Int) + 4 + ((L : Int) + 3) / 4 * 4 := IntWalk.i64_in _ (by omega)
              have HGO := Lib.hid hlong
              clear hAl c13 hg4w bs6 bd hWa h0 bA bsA A3 B3 hr3 o3 bB RB A9 B9 RC hlong
              go_wp2_with fail
              refine HN2.out.mono ?_
              rintro e w' ⟨rfl, rfl⟩
              go_upto_region 14 with (fail)
              have hne : Nonempty { w' : World // Below N0 wr w' } := ⟨⟨wr, Below.refl _ _⟩⟩
              have e13 : ∀ y : { w' : World // Below N0 wr w' }, y.1.cell? ⟨g2 + 1, 13, none⟩ = some (.slice va l.length vc) := fun y => Below.cell' y.2 hg4N (cell_blk HI.out.h4)
              refine MixC.wp_region_mix_tail 20 [6, 15, 16, 17, 18] (Below N0 wr) D0.out (by kernel_rfl) (by kernel_rfl) (by kernel_rfl) ?_
              simp only [List.take_succ_cons, List.take_zero, List.drop_succ_cons, List.drop_zero]
              (iterate 4 (refine MixC.mix_read rfl (fun K hK => ?_); go_simp; refine hK _ ?_; clear hK K))
              refine MixC.mix_read rfl (fun K hK => ?_)
              go_simp
              refine ⟨.int .u64 t, fun y hy => (HNT.out y hy).mono (fun e w1 h => ⟨h.1, h.2.symm⟩), hK _ ?_⟩
              clear hK K
              (refine MixC.mix_read rfl (fun K hK => ?_); go_simp; refine hK _ ?_; clear hK K)
              refine MixC.mix_move rfl (fun K hK => ?_)
              go_simp
              refine ⟨D1.out, hK _ _ ?_⟩
              clear hK K
              (iterate 8 (refine MixC.mix_read rfl (fun K hK => ?_); go_simp; refine hK _ ?_; clear hK K))
              (refine MixC.mix_move rfl (fun K hK => ?_); refine Eq.mpr (if_pos rfl) ?_; refine mv_app (s := .tmp 54) (x := .tmp 62) (t := 22) rfl rfl rfl HA3.out D2.out (hK _ _ ?_); clear hK K)
              refine MixC.mix_move rfl (fun K hK => ?_)
              go_simp
              refine ⟨D2.out, hK _ _ ?_⟩
              clear hK K
              refine MixC.mix_move rfl (fun K hK => ?_)
              go_simp
              refine ⟨D3.out, hK _ _ ?_⟩
              clear hK K
              (refine MixC.mix_move rfl (fun K hK => ?_); refine Eq.mpr (if_pos rfl) ?_; refine mv_app (s := .tmp 49) (x := .tmp 65) (t := 26) rfl rfl rfl HA9.out D4.out (hK _ _ ?_); clear hK K)
              (refine MixC.mix_read rfl (fun K hK => ?_); go_simp; refine hK _ ?_; clear hK K)
              refine MixC.mix_nil ?_
              clear e13 hne
              go_wp2_with fail
              generalize hX : World.setCell Wc _ _ = X
              have hbut : But (some (g2 + 1)) Wc X := by rw [← hX]; exact (But.refl _ _).set 13 _
              have h13 := sizA_pos Z p
              have hps : ((p + sizA Z p : Nat) : Int) = (p : Int) + 4 + ((L : Int) + 3) / 4 * 4 := by rw [HSZ.out]; have := pad_eq L; omega
              have hrp : rprA Z n p = (rprA Z n (p + sizA Z p)).map (keyA Z p :: ·) := by rw [rprA, dif_pos hp4, if_neg (by rw [HLL.out]; exact HGO.out)]
              have IN : Hid (RrI Z n T w g2 (g2 + 1) N0 (p + sizA Z p) (l ++ [⟨⟨t, a3, L, c3, shA Z (p + 4)⟩, p + 4, true⟩]) (.slice a9 (l.length + 1) c9) X) := Lib.hid ⟨by rw [← hX, set_blk _ HKC.out]; rfl, hbut.blk HKD.out (fun e => by injection e with e; omega), HRC.out.but hbut hg4N, (HI.out.bl.trans (D4.out.mono hwN)).trans (hbut.below (by have := D4.out.size; have := HI.out.bl.size; omega) (fun q e => by cases e; have := HG2.out; omega)), by have := hbut.size; have := D4.out.size; omega, fun y hy => by
                rcases List.mem_append.1 hy with h | h
                · exact HI.out.is y h
                · rw [List.mem_singleton.1 h]; exact ⟨rfl, tp.1, tp.2, by show L ≤ 100000; omega, fun i hi => HBD.out (p + 4 + i) (by have hi' : i < L := hi; omega)⟩, by
                rw [HI.out.rp, hrp, HKY.out, Option.map_map]
                congr 1
                funext ks
                simp [AtE.key]⟩
              have hl1 : (l ++ [(⟨⟨t, a3, L, c3, shA Z (p + 4)⟩, p + 4, true⟩ : AtE)]).length = l.length + 1 := by rw [List.length_append, List.length_singleton]
              have hpb : p + sizA Z p ≤ n + 3 := by rw [HSZ.out]; have := padN_4 L; omega
              clear hX hbut hrp
              go_roundw
              case rel => exact ⟨p + sizA Z p, l ++ [⟨⟨t, a3, L, c3, shA Z (p + 4)⟩, p + 4, true⟩], a9, c9, by omega, hpb, by rw [hl1]; omega, by rw [hps], by rw [hl1]; exact IN⟩
              case measure => simp only [intOf]; omega
          · have hp4i : ¬ (p : Int) + 4 ≤ n := by omega
            have hr : rprA Z n p = some [] := by rw [rprA, dif_neg hp4]
            have h1 := HI.out.rp
            rw [hr] at h1
            have HRP : Hid (rprA Z n 20 = some (l.map AtE.key)) := Lib.hid (by rw [h1]; simp)
            have hll : l.length ≤ 1000 := by omega
            obtain ⟨s0, s1, s2, s3, s4, s5, s6, s7, s8, s9, s10, s11, s12, s13⟩ := MsgF.mk' HI.out.h4
            obtain ⟨-, hats⟩ := HI.out.row.ats (fun y hy => (HI.out.is y hy).2)
            have HWR := Lib.hid (rwrite12_any T (shA Z 8) va l.length vc (lA l) wr tb (fun i hi => HBD.out (8 + i) (by omega)) hats hll)
            clear hr h1 hats
            go_wp2_with fail
            refine HWR.out.mono ?_
            clear HWR s0 s1 s2 s3 s4 s5 s6 s7 s8 s9 s10 s11 s12 s13
            rintro e V ⟨bV, ⟨hok, a', n', c', rfl, hbl⟩ | ⟨hno, rfl⟩⟩
            · have BV := Lib.hid bV
              have hcn : cons (lA l) l.length = (l.map AtE.key).map (conA Z) := by
                rw [cons_lA, List.map_map]
                refine List.map_congr_left (fun y hy => ?_)
                obtain ⟨h1, -⟩ := HI.out.is y hy
                show (y.e.t, zs y.e.Z y.e.n) = (y.e.t, zs (shA Z y.st) y.e.n)
                rw [h1]
              rw [hcn] at hbl
              obtain ⟨W, hW⟩ : ∃ W, wrM T (zs (shA Z 8) 12) ((l.map AtE.key).map (conA Z)) = W := ⟨_, rfl⟩
              rw [hW] at hbl
              have HBL := Lib.hid hbl
              have HOK : Hid (T ≤ 16383 ∧ l.length ≤ 16 ∧ ∀ x ∈ l.map AtE.key, x.2.2 ≤ 255) := Lib.hid ⟨hok.1, hok.2.1, fun x hx => by
                obtain ⟨y, hy, rfl⟩ := List.mem_map.1 hx
                obtain ⟨i, hi, rfl⟩ := List.getElem_of_mem hy
                have h := hok.2.2 i hi
                rw [lA_get l i hi] at h
                exact h⟩
              have HWW := Lib.hid hW
              have IV := Lib.hid (HI.out.row.below bV)
              have KV2 : Hid (V.heap[g2]? = some (.cells noV 28 (0, 0))) := Lib.hid (Below.blk bV HI.out.h2 (lt_of_block HI.out.h2))
              have KV4 : Hid (V.heap[g2 + 1]? = some (.cells (msgV T (shA Z 8) (.slice va l.length vc)) 28 (0, 0))) := Lib.hid (Below.blk bV HI.out.h4 (lt_of_block HI.out.h4))
              have BWV : Hid (Below w.heap.size w V) := Lib.hid (HI.out.bl.trans (bV.mono HI.out.bl.size))
              have s1 : (convert 22 9 (.slice a' n' c')).run Try.prog V = .ok (.string (strOf (gz W) n')) V := run_conv_BS hbl.bs Try.underlying22 Try.underlying5 Try.underlying9
              have s2 : (convert 22 9 (.slice (some ⟨b, off, none⟩) n c)).run Try.prog V = .ok (.string (strOf Z n)) V := run_conv_BS (HB.out.keep (BWV.out.mono hB)) Try.underlying22 Try.underlying5 Try.underlying9
              obtain ⟨j0, j1, j2, j3, j4, j5, j6, j7, j8, j9, j10, j11, j12, j13⟩ := MsgZ.mk' KV2.out
              obtain ⟨k0, k1, k2, k3, k4, k5, k6, k7, k8, k9, k10, k11, k12, k13⟩ := MsgF.mk' KV2.out
              obtain ⟨s0, s1', s2', s3, s4, s5, s6, s7, s8, s9, s10, s11, s12, s13⟩ := MsgF.mk' KV4.out
              clear bV hbl hok hcn hW
              by_cases heq : strOf (gz W) n' = strOf Z n
              · have HEQ := Lib.hid heq
                rw [heq] at s1
                clear heq
                go_wp2_with fail
                generalize hX : World.setCell _ _ _ = X
                obtain ⟨e2, hbut⟩ := store_m1 (t' := T) (x' := shA Z 8) (v' := .slice va l.length vc) KV2.out hX
                clear hX j0 j1 j2 j3 j4 j5 j6 j7 j8 j9 j10 j11 j12 j13 k0 k1 k2 k3 k4 k5 k6 k7 k8 k9 k10 k11 k12 k13 s0 s1' s2' s3 s4 s5 s6 s7 s8 s9 s10 s11 s12 s13
                obtain ⟨f0, f1, f2, f3, f4, f5, f6, f7, f8, f9, f10, f11, f12, f13⟩ := MsgF.mk' e2
                refine bodyPost_ret (v := .tuple #[.agg (msgV T (shA Z 8) (.slice va l.length vc)), .int .i64 0]) (by simp [results, Try.results13, go_sem, f0, f1, f2, f3, f4, f5, f6, f7, f8, f9, f10, f11, f12, f13]; rfl) rfl ?_
                refine ⟨BWV.out.trans (hbut.below BWV.out.size (fun q e => by cases e; have := HG2.out; omega)), .inl ⟨l, .slice va l.length vc, by rw [HTT.out], ⟨by omega, HRP.out, by rw [HTT.out]; exact HOK.out.1, by rw [List.length_map]; exact HOK.out.2.1, HOK.out.2.2, ?_⟩, (IV.out.but hbut (by omega)).mono hwN, HI.out.is⟩⟩
                rw [HTT.out, HWW.out]
                have hbs := HBL.out.bs.bd
                obtain ⟨h1, h2⟩ := strOf_inj hbs HBD.out HEQ.out
                rw [← zs_ext W n' HBL.out.len.symm, h1]
                exact List.map_congr_left (fun i hi => h2 i (by rw [h1]; exact List.mem_range.1 hi))
              · have hd1 : ((strOf (gz W) n').toList == (strOf Z n).toList) = false := by
                  simp only [beq_eq_false_iff_ne, ne_eq, ByteArray.toList_eq]
                  exact fun h => heq (by cases h1 : strOf (gz W) n'; cases h2 : strOf Z n; rw [h1, h2] at h; simp_all)
                have HNE := Lib.hid heq
                clear heq
                go_wp2_with fail
                generalize hX : World.setCell _ _ _ = X
                obtain ⟨e2, hbut⟩ := store_m1 (t' := 0) (x' := fun _ => 0) (v' := .slice none 0 0) KV2.out hX
                clear hX j0 j1 j2 j3 j4 j5 j6 j7 j8 j9 j10 j11 j12 j13 k0 k1 k2 k3 k4 k5 k6 k7 k8 k9 k10 k11 k12 k13 s0 s1' s2' s3 s4 s5 s6 s7 s8 s9 s10 s11 s12 s13
                obtain ⟨f0, f1, f2, f3, f4, f5, f6, f7, f8, f9, f10, f11, f12, f13⟩ := MsgF.mk' e2
                refine bodyPost_ret (v := .tuple #[.agg noV, .int .i64 3]) (by simp [results, Try.results13, go_sem, f0, f1, f2, f3, f4, f5, f6, f7, f8, f9, f10, f11, f12, f13]; rfl) rfl ?_
                refine ⟨BWV.out.trans (hbut.below BWV.out.size (fun q e => by cases e; have := HG2.out; omega)), .inr ⟨3, rfl, .inr ⟨rfl, by omega⟩, fun ks h => HNE.out ?_⟩⟩
                obtain ⟨h1, h2, -, -, -, h6⟩ := h
                rw [HRP.out] at h2
                injection h2 with h2
                rw [HTT.out, ← h2, HWW.out] at h6
                have hl := HBL.out.len
                rw [h6, zs_len] at hl
                subst hl
                refine strOf_congr (fun i hi => ?_)
                rw [h6]
                unfold gz zs
                rw [List.getD_eq_getElem?_getD, List.getElem?_map, List.getElem?_range hi]
                rfl
            · have BV := Lib.hid bV
              have KV2 : Hid (V.heap[g2]? = some (.cells noV 28 (0, 0))) := Lib.hid (Below.blk bV HI.out.h2 (lt_of_block HI.out.h2))
              have BWV : Hid (Below w.heap.size w V) := Lib.hid (HI.out.bl.trans (bV.mono HI.out.bl.size))
              obtain ⟨j0, j1, j2, j3, j4, j5, j6, j7, j8, j9, j10, j11, j12, j13⟩ := MsgZ.mk' KV2.out
              obtain ⟨k0, k1, k2, k3, k4, k5, k6, k7, k8, k9, k10, k11, k12, k13⟩ := MsgF.mk' KV2.out
              have HNO : Hid (¬ (T ≤ 16383 ∧ l.length ≤ 16 ∧ ∀ x ∈ l.map AtE.key, x.2.2 ≤ 255)) := Lib.hid (fun h => hno ⟨h.1, h.2.1, fun i hi => by
                rw [lA_get l i hi]
                exact h.2.2 _ (List.mem_map.2 ⟨l[i], List.getElem_mem hi, rfl⟩)⟩)
              clear bV hno
              go_wp2_with fail
              generalize hX : World.setCell _ _ _ = X
              obtain ⟨e2, hbut⟩ := store_m1 (t' := 0) (x' := fun _ => 0) (v' := .slice none 0 0) KV2.out hX
              clear hX j0 j1 j2 j3 j4 j5 j6 j7 j8 j9 j10 j11 j12 j13 k0 k1 k2 k3 k4 k5 k6 k7 k8 k9 k10 k11 k12 k13
              obtain ⟨f0, f1, f2, f3, f4, f5, f6, f7, f8, f9, f10, f11, f12, f13⟩ := MsgF.mk' e2
              refine bodyPost_ret (v := .tuple #[.agg noV, .int .i64 3]) (by simp [results, Try.results13, go_sem, f0, f1, f2, f3, f4, f5, f6, f7, f8, f9, f10, f11, f12, f13]; rfl) rfl ?_
              refine ⟨BWV.out.trans (hbut.below BWV.out.size (fun q e => by cases e; have := HG2.out; omega)), .inr ⟨3, rfl, .inr ⟨rfl, by omega⟩, fun ks h => HNO.out ?_⟩⟩
              obtain ⟨h1, h2, h3, h4, h5, -⟩ := h
              rw [HRP.out] at h2
              injection h2 with h2
              rw [HTT.out] at h3
              exact ⟨h3, by rw [← h2, List.length_map] at h4; exact h4, by rw [h2]; exact h5⟩
end Go.Proofs.Ytkoplofcjbeicaa
