/-
  slices.Concat of any slices of bytes.
-/
import Derived.Test.YtkoplofcjbeicaaGrow
import Derived.Test.YtkoplofcjbeicaaU8
import Derived.IntWalk
namespace Go.Proofs.Ytkoplofcjbeicaa
open Go.RowKit
set_option linter.unusedVariables false
set_option linter.unusedSimpArgs false
attribute [local irreducible] wpStill wpQuiet

theorem growc (n : Nat) (h0 : 0 < n) (hn : n ≤ 1000000) (w : World) :
    Calls Try.prog 74 #[.slice none 0 0, .int .i64 (n : Int)] w fun e w' => ∃ v, e = .returned v ∧ w'.ownsRow w.heap.size 5 1 v 0 [] ∧ Below w.heap.size w w' := by
  obtain ⟨i0, hi, hz0, hz1, hz2⟩ := info_parts infoU8
  have h := Any8.slices_Grow_grow Try.growB i0 (.int .u8 0) hi hz0 (by omega) none 0 0 n [] w (by omega) (by omega) (by rw [hz2]; omega) (by omega) (by simp) (fun _ => rfl) (fun a h => by cases h)
  refine Calls.mono (show Calls Try.prog 74 #[.slice none 0 0, .int .i64 (n : Int)] w _ from h) ?_
  rintro e w' ⟨rfl, rfl⟩
  have hg := grownCap_ge w (0 + n) 0 (Try.growB_ren.t 25)
  refine ⟨_, rfl, ⟨rfl, .inr ⟨w.heap.size, _, _, rfl, Nat.le_refl _, alloc_blk_new, Nat.zero_le _, grownCap_le_maxLen w _ _ _ (by unfold maxLen; omega), ?_, rfl⟩⟩, ((Below.refl _ w).drew).alloc (Nat.le_refl _) _⟩
  rw [Nat.zero_add] at hg
  simp [Builtin.zeroCells, Value.cells]
  omega
/-- a slice of bytes -/
structure Sl where
  a : Option Addr
  n : Nat
  c : Nat
  Z : Nat → Int
def Sl.v (s : Sl) : Value := .slice s.a s.n s.c
def Sl.l (s : Sl) : List Int := zs s.Z s.n
/-- the first k of them, one behind the other -/
def cats (S : Nat → Sl) (k : Nat) : List Int := (List.range k).flatMap fun i => (S i).l
theorem cats_succ (S : Nat → Sl) (k : Nat) : cats S (k + 1) = cats S k ++ (S k).l := by simp [cats, List.range_succ]
theorem cats_zero (S : Nat → Sl) : cats S 0 = [] := rfl
theorem cats_le (S : Nat → Sl) (m k : Nat) (h : k ≤ m) : (cats S k).length ≤ (cats S m).length := by
  induction m with
  | zero => have : k = 0 := by omega
            subst this; exact Nat.le_refl _
  | succ m ih =>
    rcases Nat.lt_or_ge k (m + 1) with h1 | h1
    · have := ih (by omega); rw [cats_succ, List.length_append]; omega
    · have : k = m + 1 := by omega
      subst this; exact Nat.le_refl _
theorem Sl.l_len (s : Sl) : s.l.length = s.n := zs_len _ _
/-- a slice of slices of bytes -/
structure Sls (B : Nat) (w : World) (ad : Option Addr) (m c : Nat) (S : Nat → Sl) : Prop where
  le : m ≤ c
  max : c ≤ 9223372036854775807
  ok : ∀ i, i < m → BS B w (S i).a (S i).n (S i).c (S i).Z
  mem : ∃ b off, (0 < c → ad = some ⟨b, off, none⟩ ∧ b < B) ∧ ∀ i, i < m → w.cell? ⟨b, off + i, none⟩ = some (S i).v
theorem Sls.keep {B : Nat} {w w' : World} {ad : Option Addr} {m c : Nat} {S : Nat → Sl} (h : Sls B w ad m c S) (hb : Below B w w') : Sls B w' ad m c S := by
  obtain ⟨h1, h2, h3, b, off, h4, h5⟩ := h
  refine ⟨h1, h2, fun i hi => (h3 i hi).keep hb, b, off, h4, fun i hi => ?_⟩
  rw [hb.cell (p := ⟨b, off + i, none⟩) (h4 (by omega)).2]
  exact h5 i hi
set_option maxRecDepth 100000 in
set_option maxHeartbeats 4000000 in
theorem concat_sl (B : Nat) (ad : Option Addr) (m c : Nat) (S : Nat → Sl) (w : World) (hS : Sls B w ad m c S) (hB : B ≤ w.heap.size) (hm : m ≤ 100000) (h0 : 0 < (cats S m).length) (hn : (cats S m).length ≤ 1000000) :
    Calls Try.prog 45 #[.slice ad m c] w fun e w' => ∃ a' c', e = .returned (.slice a' (cats S m).length c') ∧ w'.ownsRow w.heap.size 5 1 (.slice a' (cats S m).length c') (cats S m).length (u8s (cats S m)) ∧ Below w.heap.size w w' := by
  obtain ⟨i0, hi, hz0, hz1, hz2⟩ := info_parts infoU8
  have hmle := hS.le
  have hmax := hS.max
  have HS := Lib.hid hS
  obtain ⟨b, off, hp, hcell⟩ := hS.mem
  have hm0 : 0 < m := by
    rcases Nat.eq_zero_or_pos m with h | h
    · subst h; rw [cats_zero] at h0; simp at h0
    · exact h
  obtain ⟨rfl, hbB⟩ := hp (by omega)
  have HC := Lib.hid hcell
  have hle : ∀ k, k ≤ m → (cats S k).length ≤ 1000000 := fun k hk => Nat.le_trans (cats_le S m k hk) hn
  have HL := Lib.hid hle
  obtain ⟨tot, htot⟩ : ∃ tot, tot = (cats S m).length := ⟨_, rfl⟩
  have HT := Lib.hid htot
  have ht0 : 0 < tot := by omega
  have ht1 : tot ≤ 1000000 := by omega
  rw [← htot]
  have HG := Lib.hid (growc tot ht0 ht1 w)
  clear hS hcell hp hle h0 hn htot
  go_enter Try.func45, Try.ntmps45
  go_wp2_with fail
  go_loopw [3, 11] (fun so si wr => ∃ k : Nat, k ≤ m ∧ si = .int .i64 k ∧ Hid (wr = w) ∧ ∃ s : Nat, s ≤ 1000000 ∧ so = .int .i64 s ∧ Hid (s = (cats S k).length)) (fun _ si _ => m - (intOf si).toNat)
  case atStart => exact ⟨0, by omega, rfl, Lib.hid rfl, 0, by omega, rfl, Lib.hid rfl⟩
  case round =>
    obtain ⟨k, hk, rfl, hw, s, hs, rfl, Hs⟩ := hrel
    by_cases hlt : k < m
    · have p0 : wr.cell? ⟨b, off + k, none⟩ = some (S k).v := by rw [hw.out]; exact HC.out k hlt
      have hsum : s + (S k).n = (cats S (k + 1)).length := by rw [cats_succ, List.length_append, Sl.l_len, Hs.out]
      have hb1 := HL.out (k + 1) (by omega)
      have hs1 : s + (S k).n ≤ 1000000 := by omega
      have Hsum := Lib.hid hsum
      clear hsum hb1
      obtain ⟨sa, sn, sc, sZ, hsk⟩ : ∃ sa sn sc sZ, S k = ⟨sa, sn, sc, sZ⟩ := ⟨_, _, _, _, rfl⟩
      rw [hsk] at p0 hs1 Hsum
      simp only [Sl.v] at p0 hs1 Hsum
      clear hsk
      go_wp2_with fail
      go_roundw
      case rel => exact ⟨k + 1, by omega, by go_num, hw, s + sn, hs1, by go_num, Hsum⟩
      case measure => simp [intOf] <;> omega
    · have : k = m := by omega
      subst this
      have hst : s = tot := by rw [Hs.out, HT.out]
      subst hst
      have hw' := hw.out.symm
      subst hw'
      clear hw Hs hlt
      go_wp2_with fail
      refine HG.out.mono ?_
      rintro e w1 ⟨v0, rfl, O0, B0⟩
      have O1 := Lib.hid O0
      have B1 := Lib.hid B0
      clear O0 B0 HG
      go_wp2_with fail
      go_loopw [6, 27] (fun so si wr => ∃ k' : Nat, k' ≤ k ∧ si = .int .i64 k' ∧ Hid (Below w.heap.size w wr) ∧ Hid (wr.ownsRow w.heap.size 5 1 so (cats S k').length (u8s (cats S k')))) (fun _ si _ => k - (intOf si).toNat)
      case atStart => exact ⟨0, by omega, rfl, B1, O1⟩
      case round =>
        obtain ⟨j, hj, rfl, HB, HO⟩ := hrel
        obtain ⟨va, vc, hv⟩ := own_len HO.out
        subst hv
        by_cases hlt : j < k
        · have BS0 := Lib.hid ((HS.out.ok j hlt).keep (HB.out.mono hB))
          have p0 : wr.cell? ⟨b, off + j, none⟩ = some (S j).v := Below.cell' (HB.out.mono hB) hbB (HC.out j hlt)
          have hsum : (cats S j).length + (S j).n = (cats S (j + 1)).length := by rw [cats_succ, List.length_append, Sl.l_len]
          have hb1 := HL.out (j + 1) (by omega)
          have hb0 := HL.out j (by omega)
          have HJ : Hid ((cats S (j + 1)).length = (cats S j).length + (S j).n ∧ u8s (cats S (j + 1)) = u8s (cats S j) ++ u8s (zs (S j).Z (S j).n)) := Lib.hid ⟨hsum.symm, by rw [cats_succ, u8s_app]; rfl⟩
          have hs1 : (cats S j).length + (S j).n ≤ 1000000 := by omega
          clear hsum hb1
          obtain ⟨sa, sn, sc, sZ, hsk⟩ : ∃ sa sn sc sZ, S j = ⟨sa, sn, sc, sZ⟩ := ⟨_, _, _, _, rfl⟩
          rw [hsk] at p0 hs1 HJ BS0
          simp only [Sl.v] at p0 hs1 HJ BS0
          clear hsk
          have hsz := HB.out.size
          obtain ⟨a', c', w2, hr, own2, but2, nb2⟩ := run_app (P := Try.prog) (w := wr) (t := 22) Try.underlying22 hi hz0 hz1 hz2 rfl (by decide) HO.out sa sn sc (u8s (zs sZ sn)) BS0.out.nils (by rw [u8s_len, zs_len, Nat.mul_one]) BS0.out.news' (u8s_one _) (by unfold maxLen; omega) (by omega) hsz
          have R0 := Lib.hid hr
          have HB2 := Lib.hid (HB.out.trans (but2.below hsz (fun k hk => (HO.out.lt k hk).1)))
          have HO2 := Lib.hid own2
          clear hr own2 but2 nb2
          go_wp2_with (at_builtin; refine wpList_of_append rfl (.tmp 31) (.tmp 32) 22 rfl _ _ _ rfl rfl R0.out ?_)
          go_roundw
          case rel => exact ⟨j + 1, by omega, by go_num, HB2, Lib.hid (by rw [HJ.out.1, HJ.out.2]; exact HO2.out)⟩
          case measure => simp [intOf] <;> omega
        · have : j = k := by omega
          subst this
          have hjt : (cats S j).length = s := by rw [HT.out]
          rw [hjt] at HO
          rw [hjt]
          clear hjt
          go_wp2_with fail
          go_ret
          exact ⟨_, _, rfl, HO.out, HB.out⟩
end Go.Proofs.Ytkoplofcjbeicaa
