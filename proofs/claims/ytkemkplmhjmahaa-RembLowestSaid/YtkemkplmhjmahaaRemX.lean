/-
  The walks of RembLowest and RembFits: the laws.
-/
import Derived.Test.YtkemkplmhjmahaaRemL
namespace Go.Proofs.Ytkemkplmhjmahaa
open Go.RowKit
set_option linter.unusedVariables false
set_option linter.unusedSimpArgs false
attribute [local irreducible] wpStill wpQuiet

set_option maxHeartbeats 2000000 in
theorem RembLowest.walk (a : Option Addr) (len cap : Nat) (zs : List Int) (w : World) (r0 : IsRow .u64 w a len cap zs) :
    Calls Try.prog 7 #[.slice a len cap] w fun e w' => e = .returned (.bool true) ∧ Below w.heap.size w w' := by
  obtain ⟨b, off, Z, ha, hl, hm, hc, hz⟩ := row_open r0
  have HA := Lib.hid ha
  have HC := Lib.hid hc
  have HZ : Hid (∀ k, k < len → 0 ≤ Z k ∧ Z k ≤ 18446744073709551615) := Lib.hid (fun k hk => bounds_u64 (hz k (by omega)))
  clear ha hc hz r0
  go_enter Try.func7, Try.ntmps7
  go_wp2_with fail
  refine (alive25_any _).mono ?_
  rintro e w1 ⟨rfl, B1⟩
  by_cases h1000 : 1000 < len
  · have e1 : decide ((1000 : Int) < (len : Int)) = true := by (simp; omega)
    go_wp2_with fail
    go_ret
    exact ⟨rfl, B1⟩
  have e1 : decide ((1000 : Int) < (len : Int)) = false := by (simp; omega)
  have HCell : Hid (0 < len → ∃ b off, a = some ⟨b, off, none⟩ ∧ ∀ i, i < len → w1.cell? ⟨b, off + i, none⟩ = some (.int .u64 (Z i))) := Lib.hid (fun h0 => ⟨b, off, (HA.out (by omega)).1, fun i hi => Below.cell' B1 (HA.out (by omega)).2 (HC.out i (by omega))⟩)
  clear HA HC h1000
  go_wp2_with fail
  refine (lowest_any w1 a len cap Z HCell.out hl hm).mono ?_
  rintro e w2 ⟨rfl, rfl⟩
  obtain ⟨F, hF⟩ : ∃ F : Bool, F = ((len : Int) == 0 && lowN Z len == 18446744073709551615) := ⟨_, rfl⟩
  have HLow := Lib.hid (lowN_le Z len)
  have HEnd : Hid (0 < len → fdN Z (lowN Z len) len = true) := Lib.hid (fun h0 => fd_all Z len h0 (fun k hk => (HZ.out k hk).2))
  have H0 : Hid (len = 0 → lowN Z len = 18446744073709551615) := Lib.hid (fun h => by subst h; rfl)
  generalize lowN Z len = x at *
  rcases Nat.eq_zero_or_pos len with h0 | h0
  · have hx := H0.out h0
    subst h0
    subst hx
    clear HLow HEnd H0 hF
    go_wp2_with fail
    go_loopw [4, 5] (fun sf si wr => si = .int .i64 0 ∧ sf = .bool true ∧ wr = w1) (fun _ si _ => 0)
    case atStart => exact ⟨rfl, rfl, rfl⟩
    case round =>
      obtain ⟨rfl, rfl, rfl⟩ := hrel
      go_wp2_with fail
      go_ret
      exact ⟨rfl, B1⟩
  · have e0 : ((len : Int) == 0) = false := by (simp <;> omega)
    clear hF H0
    go_wp2_with fail
    go_loopw [4, 5] (fun sf si wr => ∃ k, k ≤ len ∧ si = .int .i64 (k : Nat) ∧ sf = .bool (fdN Z x k) ∧ wr = w1) (fun _ si _ => len - (intOf si).toNat)
    case atStart => exact ⟨0, by omega, rfl, rfl, rfl⟩
    case round =>
      obtain ⟨k, hk, rfl, rfl, rfl⟩ := hrel
      by_cases hlt : k < len
      · obtain ⟨b, off, rfl, hcc⟩ := HCell.out h0
        have ck := hcc k hlt
        have hlo := HLow.out k hlt
        have e2 : decide (Z k < x) = false := by (simp; omega)
        have hn2 : Hid (fdN Z x (k + 1) = (fdN Z x k || (Z k == x))) := Lib.hid rfl
        clear hcc hlo
        cases hf : fdN Z x k
        · rw [hf] at hn2
          cases hzz : (Z k == x)
          · rw [hzz] at hn2
            go_wp2_with fail
            go_roundw
            case rel => exact ⟨k + 1, by omega, by go_num, by rw [hn2.out]; rfl, trivial⟩
            case measure => simp [intOf] <;> omega
          · rw [hzz] at hn2
            go_wp2_with fail
            go_roundw
            case rel => exact ⟨k + 1, by omega, by go_num, by rw [hn2.out]; rfl, trivial⟩
            case measure => simp [intOf] <;> omega
        · rw [hf] at hn2
          go_wp2_with fail
          go_roundw
          case rel => exact ⟨k + 1, by omega, by go_num, by rw [hn2.out]; rfl, trivial⟩
          case measure => simp [intOf] <;> omega
      · obtain rfl : len = k := by omega
        have HE := HEnd.out h0
        rw [HE]
        clear HE HEnd HLow
        go_wp2_with fail
        go_ret
        exact ⟨rfl, B1⟩
set_option maxHeartbeats 2000000 in
theorem RembFits.walk (rate : Int) (v : Value) (w : World) (w0 : (Lit.int .u32 rate).wf = true) (r1 : Reads Try.prog w 6 46 v) :
    Calls Try.prog 9 #[.int .u32 rate, v] w fun e w' => e = .returned (.bool true) ∧ Below w.heap.size w w' := by
  obtain ⟨a, n, cap, A, K, C, L, rfl, hcap, hcap2, hcs, hLz, hLb⟩ := costs_of r1
  have hr := bounds_u32 w0
  have HCS := Lib.hid hcs
  have HLZ := Lib.hid hLz
  have HLB := Lib.hid hLb
  clear hcs hLz hLb r1 w0
  go_enter Try.func9, Try.ntmps9
  go_wp2_with fail
  refine (alive25_any _).mono ?_
  rintro e w1 ⟨rfl, B1⟩
  go_wp2_with fail
  refine (great25_any HCS.out w1 B1 hcap hcap2 HLB.out).mono ?_
  rintro e w2 ⟨rfl, g, rfl, hg⟩
  have HG := Lib.hid hg
  clear hg
  cases g
  · obtain ⟨hn, hL30⟩ := HG.out rfl
    have HL30 := Lib.hid hL30
    clear hL30 HG
    have X1 := Lib.hid (HCS.out.keep B1)
    go_wp2_with fail
    go_loopw [5] (fun si wr => ∃ k, k ≤ n ∧ si = .int .i64 (k : Nat) ∧ Hid (wr = w1)) (fun si _ => n - (intOf si).toNat)
    case atStart => exact ⟨0, by omega, rfl, Lib.hid rfl⟩
    case round =>
      obtain ⟨k, hk, rfl, hwr⟩ := hrel
      by_cases hlt : k < n
      · obtain ⟨b, off, rfl, hb, hc⟩ := X1.out.at_ (by omega)
        have ck : wr.cell? ⟨b, off + k, none⟩ = some (.slice (A k) (L k) (K k)) := by rw [hwr.out]; exact hc k hlt
        have HCK := Lib.hid (hc k hlt)
        have hlk := HL30.out k hlt
        clear hc
        go_wp2_with fail
        go_loopw [6] (fun si wr => ∃ j, j ≤ L k ∧ si = .int .i64 (j : Nat) ∧ Hid (wr = w1)) (fun si _ => L k - (intOf si).toNat)
        case atStart => exact ⟨0, by omega, rfl, hwr⟩
        case round =>
          clear ck
          obtain ⟨j, hj, rfl, hwr⟩ := hrel
          have ck : wr.cell? ⟨b, off + k, none⟩ = some (.slice (A k) (L k) (K k)) := by rw [hwr.out]; exact HCK.out
          by_cases hltj : j < L k
          · obtain ⟨b2, off2, hAk, hb2, hc2⟩ := X1.out.row k hlt (by omega)
            have cj : wr.cell? ⟨b2, off2 + j, none⟩ = some (.int .u64 (C k j)) := by rw [hwr.out]; exact hc2 j hltj
            rw [hAk] at ck
            clear hc2
            by_cases hbig : 4294967295 < C k j
            · have e1 : decide (4294967295 < C k j) = true := by simpa using hbig
              go_wp2_with fail
              go_ret
              exact ⟨rfl, by rw [hwr.out]; exact B1⟩
            · have e1 : decide (4294967295 < C k j) = false := by simpa using hbig
              clear hbig
              go_wp2_with fail
              go_roundw
              case rel => exact ⟨j + 1, by omega, by go_num, hwr⟩
              case measure => simp [intOf] <;> omega
          · obtain rfl : L k = j := by omega
            go_wp2_with fail
            go_roundw
            case rel => exact ⟨k + 1, by omega, by go_num, hwr⟩
            case measure => simp [intOf] <;> omega
      · obtain rfl : n = k := by omega
        obtain rfl := hwr.out
        have hl1000 : Hid (∀ i, L i ≤ 1000) := Lib.hid (fun i => by
          rcases Nat.lt_or_ge i n with h | h
          · have := HL30.out i h; omega
          · have := HLZ.out i h; omega)
        go_wp2_with fail
        refine (share_any wr rate a n cap A K C L (X1.out.mono B1.size) hl1000.out (by omega) hcap (by omega) (by omega)).mono ?_
        rintro e w3 ⟨av, cv, T, rfl, hF, B3, hcv, hq⟩
        obtain ⟨⟨j, hj⟩, hno⟩ := hF
        have hlaw := fits_law X1.out.bd L n rate hr.1 hr.2 j
        rw [← hj] at hlaw
        have hY : YS w3 av n T.out := fun h0 => by
          obtain ⟨q, h1, h2, h3, h4⟩ := hq h0
          exact ⟨q, 0, h1, fun i hi => by rw [Nat.zero_add]; exact h4 i hi⟩
        have B5 : Below w.heap.size w w3 := B1.trans (B3.mono B1.size)
        have hcost := costN_tot X1.out.bd L n T.out (by have := hlaw.2; have := hlaw.1.l0; omega) n (Nat.le_refl _)
        have hle : costN C L n T.out n ≤ rate := by rw [hcost]; have := hlaw.2; have := hlaw.1.l0; omega
        have HCo := Lib.hid (cost_any HCS.out w3 B5 hcap av n cv T.out hY hcv (by omega) (by omega))
        clear hcost hlaw hq hY hno hj
        generalize costN C L n T.out n = x at *
        have e9 : decide (x ≤ rate) = true := by simpa using hle
        go_wp2_with fail
        refine HCo.out.mono ?_
        rintro e w4 ⟨rfl, rfl⟩
        go_wp2_with fail
        go_ret
        exact ⟨rfl, B5⟩
  · go_wp2_with fail
    go_ret
    exact ⟨rfl, B1⟩
end Go.Proofs.Ytkemkplmhjmahaa
