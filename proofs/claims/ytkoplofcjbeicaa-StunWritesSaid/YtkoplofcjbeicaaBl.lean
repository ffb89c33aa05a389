/-
  Bytes that are a list: octets' Put and Fill, and the references' ones, on such bytes.
-/
import Derived.Test.YtkoplofcjbeicaaU8
import Derived.Test.YtkoplofcjbeicaaFill
import Derived.Test.YtkoplofcjbeicaaRnq
namespace Go.Proofs.Ytkoplofcjbeicaa
open Go.RowKit
set_option linter.unusedVariables false
set_option linter.unusedSimpArgs false
attribute [local irreducible] wpStill wpQuiet MixC.wpMix

theorem elU8 : ElemT Try.prog 22 5 1 1 := ElemT.mk' (z := .int .u8 0) Try.underlying22 infoU8 rfl (by decide)
def filL (L : List Int) : List Int := L ++ List.replicate (padN L.length 4) 0
theorem filL_len (L : List Int) : (filL L).length = L.length + padN L.length 4 := by unfold filL; simp
theorem filL_oct {L : List Int} (h : Oct L) : Oct (filL L) := h.app (fun x hx => by rw [List.mem_replicate] at hx; rw [hx.2]; omega)
theorem padN_4 (n : Nat) : padN n 4 ≤ 3 := by have := (padN_spec n 4 (by omega)).2.1; omega
theorem fil_congr (L : List Int) : bytesOf (fillZ (gz L) L.length) (L.length + padN L.length 4) = u8s (filL L) := by
  unfold filL
  rw [u8s_bytes, List.length_append, List.length_replicate]
  refine bytesOf_congr (fun i hi => ?_)
  unfold fillZ gz
  by_cases h : i < L.length
  · rw [if_pos h, List.getD, List.getD, List.getElem?_append_left h]
  · rw [if_neg h, List.getD, List.getElem?_append_right (by omega), List.getElem?_replicate, if_pos (by omega)]; rfl
/-- bytes that are a list -/
structure BL (w : World) (a : Option Addr) (n c : Nat) (L : List Int) : Prop where
  len : n = L.length
  oct : Oct L
  bs : BS w.heap.size w a n c (gz L)
theorem BL.keep {w w' : World} {a : Option Addr} {n c : Nat} {L : List Int} (h : BL w a n c L) (hb : Below w.heap.size w w') : BL w' a n c L := ⟨h.len, h.oct, (h.bs.keep hb).mono hb.size⟩
theorem BL.nil (w : World) : BL w none 0 0 [] := ⟨rfl, Oct.nil, ⟨Nat.le_refl _, by omega, fun i hi => by omega, 0, 0, fun h => by omega, fun i hi => by omega⟩⟩
theorem BL.own {w : World} {base n : Nat} {v : Value} {L : List Int} (h : w.ownsRow base 5 1 v n (u8s L)) (hO : Oct L) (hn : n ≤ 1000000) : ∃ a c, v = .slice a n c ∧ BL w a n c L := by
  obtain ⟨h1, a, c, h2, h3⟩ := BS.own h hO hn
  exact ⟨a, c, h2, h1, hO, h3⟩
theorem BL.own' {w : World} {base n c : Nat} {a : Option Addr} {L : List Int} (h : w.ownsRow base 5 1 (.slice a n c) n (u8s L)) (hO : Oct L) (hn : n ≤ 1000000) : BL w a n c L := by
  obtain ⟨a', c', e, h1⟩ := BL.own h hO hn
  cases e
  exact h1
/-- bytes that lie somewhere are the list of their numbers -/
theorem BL.ofBS {B : Nat} {w : World} {a : Option Addr} {n c : Nat} {Z : Nat → Int} (h : BS B w a n c Z) (hB : B ≤ w.heap.size) : BL w a n c (zs Z n) := by
  refine ⟨(zs_len _ _).symm, zs_oct h, (h.mono hB).congr fun i hi => ?_⟩
  unfold gz zs
  rw [List.getD_eq_getElem?_getD, List.getElem?_map, List.getElem?_range hi]
  rfl
theorem putL_put (L : List Int) (x : Int) (m : Nat) : bytesOf (putZ (gz L) L.length x m) (L.length + m) = u8s (L ++ putL x m) := by
  rw [bytesOf_put, u8s_app, ← u8s_bytes]
/-- bytes of the call's own -/
def OwnL (n : Nat) (L : List Int) (w : World) (e : Ending) (w' : World) : Prop := ∃ a c, e = .returned (.slice a n c) ∧ w'.ownsRow w.heap.size 5 1 (.slice a n c) n (u8s L) ∧ BL w' a n c L ∧ Below w.heap.size w w'
theorem put_bl (a : Option Addr) (n c : Nat) (L : List Int) (m : Nat) (x : Int) (w : World) (h : BL w a n c L) (hn : n ≤ 100000) (hm1 : 1 ≤ m) (hm2 : m ≤ 8) (hx0 : 0 ≤ x) (hx1 : x ≤ 18446744073709551615) :
    Calls Try.prog 43 #[.slice a n c, .int .i64 m, .int .u64 x] w (OwnL (n + m) (L ++ putL x m) w) := by
  refine (put_good _ a n c (gz L) m x w h.bs (Nat.le_refl _) hn hm1 hm2 hx0 hx1).mono ?_
  rintro e w' ⟨v, rfl, o, b⟩
  obtain ⟨a', c', rfl⟩ := own_len o
  have hl := h.len
  subst hl
  rw [putL_put] at o
  exact ⟨a', c', rfl, o, BL.own' o (h.oct.app (putL_oct _ _)) (by omega), b⟩
theorem rput_bl (a : Option Addr) (n c : Nat) (L : List Int) (m : Nat) (x : Int) (w : World) (h : BL w a n c L) (hn : n ≤ 100000) (hm1 : 1 ≤ m) (hm2 : m ≤ 8) (hx0 : 0 ≤ x) (hx1 : x ≤ 18446744073709551615) :
    Calls Try.prog 46 #[.slice a n c, .int .i64 m, .int .u64 x] w (OwnL (n + m) (L ++ putL x m) w) := by
  refine (rput_any w.heap.size a n c (gz L) m x w h.bs (Nat.le_refl _) h.bs.nils hn hm1 hm2 hx0 hx1).mono ?_
  rintro e w' ⟨v, rfl, o, b⟩
  obtain ⟨a', c', rfl⟩ := own_len o
  have hl := h.len
  subst hl
  rw [putL_put] at o
  exact ⟨a', c', rfl, o, BL.own' o (h.oct.app (putL_oct _ _)) (by omega), b⟩
/-- bytes, perhaps not of the call's own -/
def RetL (n : Nat) (L : List Int) (w : World) (e : Ending) (w' : World) : Prop := ∃ a c, e = .returned (.slice a n c) ∧ BL w' a n c L ∧ Below w.heap.size w w'
theorem fill_bl (a : Option Addr) (n c : Nat) (L : List Int) (w : World) (h : BL w a n c L) (hn : n ≤ 100000) :
    Calls Try.prog 44 #[.slice a n c, .int .i64 4] w (RetL (n + padN n 4) (filL L) w) := by
  refine (fill_yes w.heap.size a n c (gz L) 4 w h.bs (Nat.le_refl _) hn (by omega) (by omega)).mono ?_
  rintro e w' ⟨a', c', rfl, hb, b⟩
  have hl := h.len
  subst hl
  refine ⟨a', c', rfl, ⟨(filL_len L).symm, filL_oct h.oct, hb.congr fun i hi => ?_⟩, b⟩
  have h1 := fil_congr L
  have h2 : (bytesOf (fillZ (gz L) L.length) (L.length + padN L.length 4))[i]? = (u8s (filL L))[i]? := by rw [h1]
  rw [u8s_bytes] at h2
  unfold bytesOf at h2
  rw [List.getElem?_map, List.getElem?_map, List.getElem?_range hi, List.getElem?_range (by rw [filL_len]; exact hi)] at h2
  simp at h2
  exact h2.symm
theorem rep_succ (L : List Int) (j : Nat) : L ++ List.replicate (j + 1) (0 : Int) = (L ++ List.replicate j 0) ++ [0] := by rw [List.replicate_succ', List.append_assoc]
set_option maxRecDepth 100000 in
set_option maxHeartbeats 2000000 in
theorem rfill_bl (a : Option Addr) (n c : Nat) (L : List Int) (w : World) (h : BL w a n c L) (hn : n ≤ 100000) :
    Calls Try.prog 47 #[.slice a n c, .int .i64 4] w (RetL (n + padN n 4) (filL L) w) := by
  obtain ⟨p1, p2, p3⟩ := padN_spec n 4 (by omega)
  obtain ⟨P, hP⟩ : ∃ P, padN n 4 = P := ⟨_, rfl⟩
  rw [hP] at p1 p2 p3 ⊢
  have HL : Hid (filL L = L ++ List.replicate P 0) := Lib.hid (by unfold filL; rw [← h.len, hP])
  have P1 := Lib.hid p1
  have P3 := Lib.hid p3
  have HO := Lib.hid h.oct
  have hz := h.bs
  have hzn : zs (gz L) n = L := by rw [h.len]; exact zs_gz L
  have hle := hz.le
  have hmx := hz.max
  have h0 : (w.alloc (.cells #[] 5)).ownsRow w.heap.size 5 1 (.slice (some ⟨w.heap.size, 0, none⟩) 0 0) 0 (u8s []) := World.ownsRow_made w #[] 0 (Nat.le_refl _) (by unfold maxLen; omega) rfl
  have bA : Below w.heap.size w (w.alloc (.cells #[] 5)) := (Below.refl _ _).alloc (Nat.le_refl _) _
  have hzA := hz.keep bA
  obtain ⟨a1, c1, W1, A1, B1⟩ := appS elU8 h0 a n c (u8s (zs (gz L) n)) hzA.nils (by rw [u8s_len, zs_len, Nat.mul_one]) hzA.news' (u8s_one _) (by omega) (by omega) bA.size
  have o1 := A1.own
  rw [hzn, Nat.zero_add] at o1
  have O1 : Hid (W1.ownsRow w.heap.size 5 1 (.slice a1 (n + 0) c1) (n + 0) (u8s (L ++ List.replicate 0 0))) := Lib.hid (by simpa [u8s] using o1)
  have BW1 := Lib.hid (bA.trans B1)
  have hr1 := A1.run
  rw [Nat.zero_add] at hr1
  have HA := Lib.hid hr1
  clear p1 p3 hP hz hzn h0 bA hzA A1 B1 o1 hr1 h
  go_enter Try.func47, Try.ntmps47
  go_wp2_with (at_builtin; refine wpList_of_append rfl (.tmp 6) (.tmp 7) 22 rfl _ _ _ rfl rfl HA.out ?_)
  go_loopw [5] (fun s5 wx => ∃ (j : Nat) (a' : Option Addr) (c' : Nat), j ≤ P ∧ s5 = .slice a' (n + j) c' ∧ Hid (Below w.heap.size w wx) ∧ Hid (wx.ownsRow w.heap.size 5 1 (.slice a' (n + j) c') (n + j) (u8s (L ++ List.replicate j 0)))) (fun s5 _ => match s5 with | .slice _ q _ => n + P - q | _ => 0)
  case atStart => exact ⟨0, a1, c1, by omega, rfl, BW1, O1⟩
  case round =>
    obtain ⟨j, a', c', hj, rfl, HB, HW⟩ := hrel
    by_cases hjP : j < P
    · have hr : (0 : Int) < ((n : Int) + j) % 4 := by
        have := P3.out j hjP
        omega
      have tmd : ((n : Int) + j).tmod 4 = ((n : Int) + j) % 4 := Int.tmod_eq_emod_of_nonneg (by omega)
      obtain ⟨a3, c3, V3, A3, B3⟩ := app1 elU8 HW.out [.int .u8 0] rfl (one_cell rfl) (by omega) (by omega) HB.out.size
      have O3 : Hid (V3.ownsRow w.heap.size 5 1 (.slice a3 (n + (j + 1)) c3) (n + (j + 1)) (u8s (L ++ List.replicate (j + 1) 0))) := Lib.hid (by rw [rep_succ, u8s_app]; exact A3.own)
      have B3' := Lib.hid (HB.out.trans B3)
      have HA3 := Lib.hid A3.run
      clear A3 B3
      go_wp2_with (at_builtin; refine wpList_of_append rfl (.tmp 18) (.tmp 19) 22 rfl _ _ _ rfl rfl HA3.out ?_)
      go_roundw
      case rel => exact ⟨j + 1, a3, c3, by omega, rfl, B3', O3⟩
      case measure => simp <;> omega
    · obtain rfl : P = j := by omega
      have hr : ¬ (0 : Int) < ((n : Int) + P) % 4 := by
        have := P1.out
        omega
      have tmd : ((n : Int) + P).tmod 4 = ((n : Int) + P) % 4 := Int.tmod_eq_emod_of_nonneg (by omega)
      have hOct : Oct (L ++ List.replicate P 0) := HO.out.app (fun x hx => by rw [List.mem_replicate] at hx; rw [hx.2]; omega)
      have BL9 : Hid (BL wr a' (n + P) c' (filL L)) := Lib.hid (by
        rw [HL.out]
        exact BL.own' HW.out hOct (by omega))
      clear hOct hjP
      go_wp2_with fail
      go_ret
      exact ⟨a', c', rfl, BL9.out, HB.out⟩
end Go.Proofs.Ytkoplofcjbeicaa
