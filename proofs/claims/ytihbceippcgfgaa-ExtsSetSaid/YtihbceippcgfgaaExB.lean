/-
  Chapter 32: Write.
-/
import Derived.Test.YtihbceippcgfgaaExA
namespace Go.Proofs.Ytihbceippcgfgaa
open Go.RowKit
set_option linter.unusedVariables false
set_option linter.unusedSimpArgs false
attribute [local irreducible] wpStill wpQuiet MixC.wpMix
attribute [local go_sem] MixC.rdOp MixC.rd MixC.rdUpon MixC.mvUpon

theorem elU8 : ElemT Try.prog 25 5 1 1 := ElemT.mk' (z := .int .u8 0) Try.underlying25 infoU8 rfl (by decide)
theorem fil_congr (L : List Int) : bytesOf (fillZ (gz L) L.length) (L.length + padN L.length 4) = u8s (filL L) := by
  unfold filL
  rw [u8s_bytes, List.length_append, List.length_replicate]
  refine bytesOf_congr (fun i hi => ?_)
  unfold fillZ gz
  by_cases h : i < L.length
  · rw [if_pos h, List.getD, List.getD, List.getElem?_append_left h]
  · rw [if_neg h, List.getD, List.getElem?_append_right (by omega), List.getElem?_replicate, if_pos (by omega)]; rfl
theorem filL_len (L : List Int) : (filL L).length = L.length + padN L.length 4 := by unfold filL; simp
theorem filL_oct {L : List Int} (h : Oct L) : Oct (filL L) := h.app (fun x hx => by rw [List.mem_replicate] at hx; rw [hx.2]; omega)
/-- what Write leaves: may it be? -/
def okW (Q : Nat → El) (len : Nat) : Prop := mayAll Q len ∧ (filL (wrE Q len)).length ≤ 1020
/-- bytes that are a list -/
def BL (w : World) (a : Option Addr) (n c : Nat) (L : List Int) : Prop := n = L.length ∧ BS w.heap.size w a n c (gz L)
theorem BL.keep {w w' : World} {a : Option Addr} {n c : Nat} {L : List Int} (h : BL w a n c L) (hb : Below w.heap.size w w') : BL w' a n c L := ⟨h.1, (h.2.keep hb).mono hb.size⟩
def WrPost (ok bad : Value) (Q : Nat → El) (len : Nat) (w : World) (e : Ending) (w' : World) : Prop :=
  Below w.heap.size w w' ∧ ((okW Q len ∧ ∃ a n c, e = .returned (.tuple #[.slice a n c, ok]) ∧ BL w' a n c (filL (wrE Q len))) ∨ (¬ okW Q len ∧ ∃ a n c, e = .returned (.tuple #[.slice a n c, bad]) ∧ (bad = .int .i64 1 → n = 0)))
theorem fill_row {w : World} {a : Option Addr} {m c : Nat} {L : List Int} (ho : w.ownsRow w.heap.size 5 1 (.slice a m c) m (u8s L)) : True := trivial
theorem padN_4 (n : Nat) : padN n 4 ≤ 3 := by have := (padN_spec n 4 (by omega)).2.1; omega
set_option maxRecDepth 100000 in
set_option maxHeartbeats 4000000 in
theorem write32_any (ad : Option Addr) (len cap : Nat) (Q : Nat → El) (w : World) (h : Els w.heap.size w ad len cap Q) (hl : len ≤ 200) :
    Calls Try.prog 17 #[.slice ad len cap] w (WrPost (.int .i64 0) (.int .i64 1) Q len w) := by
  have H := Lib.hid h
  have hle := h.le
  have hmx := h.max
  clear h
  go_enter Try.func17, Try.ntmps17
  go_wp2_with fail
  go_loopw [4, 9] (fun s4 s9 wr => ∃ (k m : Nat) (a : Option Addr) (c : Nat), k ≤ len ∧ m ≤ k * 17 ∧ s9 = .int .i64 k ∧ s4 = .slice a m c ∧ Hid (mayAll Q k ∧ m = (wrE Q k).length) ∧ Hid (Below w.heap.size w wr) ∧ Hid (wr.ownsRow w.heap.size 5 1 (.slice a m c) m (u8s (wrE Q k)))) (fun _ s9 _ => len - (intOf s9).toNat)
  case atStart => exact ⟨0, 0, none, 0, by omega, by omega, rfl, rfl, Lib.hid ⟨fun i hi => by omega, rfl⟩, Lib.hid (Below.refl _ _), Lib.hid (World.ownsRow_nil _ _ _ _)⟩
  case round =>
    obtain ⟨k, m, a, c, hk, hm, rfl, rfl, HM, HB, HO⟩ := hrel
    by_cases hlt : k < len
    · have hki : (k : Int) < len := by omega
      obtain ⟨b, off, hp, hc⟩ := (H.out.keep HB.out).mem
      obtain ⟨rfl, hb⟩ := hp (by omega)
      obtain ⟨c0, c1⟩ := hc k hlt
      have hok := H.out.ok k hlt
      obtain ⟨q, hq⟩ : ∃ q, Q k = q := ⟨_, rfl⟩
      have HQ := Lib.hid hq
      rw [hq] at c0 c1 hok
      obtain ⟨id, qa, qn, qc, qZ⟩ := q
      simp only at c0 c1
      have OK := Lib.hid hok
      have qle := hok.z.le
      have qmx := hok.z.max
      simp only at qle qmx
      clear hp hc hq hok
      go_upto_region 5 with (fail)
      generalize hV : World.alloc wr _ = V
      have BV : Hid (Below wr.heap.size wr V) := Lib.hid (by rw [← hV]; exact (Below.refl _ _).alloc (Nat.le_refl _) _)
      obtain ⟨g, hg⟩ : ∃ g, wr.heap.size = g := ⟨_, rfl⟩
      have G : Hid (V.heap[g]? = some (.cells #[.int .i64 id, .slice qa qn qc] 35 (0, 0))) := Lib.hid (by rw [← hV, ← hg]; exact alloc_blk_new)
      rw [hg]
      clear hV hg c0 c1
      have y0 : V.cell? ⟨g, 0, none⟩ = some (.int .i64 id) := cell_blk G.out
      have y1 : V.cell? ⟨g, 1, none⟩ = some (.slice qa qn qc) := cell_blk G.out
      go_wp2_with fail
      refine (may32_any id qa qn qc V).mono ?_
      rintro e V2 ⟨rfl, b2⟩
      have B2 := Lib.hid b2
      have G2 := Lib.hid (Below.blk b2 G.out (lt_of_block G.out))
      have BW2 := Lib.hid (HB.out.trans ((BV.out.trans (b2.mono BV.out.size)).mono HB.out.size))
      have O2 := Lib.hid (own_below (own_below HO.out BV.out) b2)
      clear b2 y0 y1
      cases hmay : mayE id qn with
      | false =>
        have hno : Hid (¬ okW Q len) := Lib.hid (fun h => by
          have := h.1 k hlt
          rw [HQ.out] at this
          simp only at this
          rw [hmay] at this
          cases this)
        clear hmay
        go_wp2_with fail
        refine bodyPost_ret (by simp [results, Try.results17, go_sem]; try rfl) rfl ?_
        exact ⟨BW2.out, .inr ⟨hno.out, none, 0, 0, rfl, fun _ => rfl⟩⟩
      | true =>
        obtain ⟨m1, m2, m3, m4⟩ := (mayE_iff _ _).1 hmay
        have hor := head_or id qn hmay
        have HMY : Hid (mayAll Q (k + 1)) := Lib.hid (fun i hi => by
          by_cases hik : i < k
          · exact HM.out.1 i hik
          · obtain rfl : i = k := by omega
            rw [HQ.out]; exact hmay)
        obtain ⟨hd, hhd⟩ : ∃ x, 16 * id + (qn : Int) - 1 = x := ⟨_, rfl⟩
        rw [hhd] at hor
        obtain ⟨a3, c3, V3, A3, B3⟩ := app1 elU8 O2.out [.int .u8 hd] rfl (one_cell rfl) (by omega) (by omega) BW2.out.size
        have kg : V3.heap[g]? = some (.cells #[.int .i64 id, .slice qa qn qc] 35 (0, 0)) := A3.but.blk G2.out (fun e => by
          obtain ⟨cs, mm, h1⟩ := own_block O2.out g e
          rw [G2.out] at h1
          injection h1 with h1
          injection h1 with _ h1
          exact absurd h1 (by decide))
        have bw3 := BW2.out.trans B3
        have hz3 := (OK.out.keep bw3).z
        simp only at hz3
        obtain ⟨a4, c4, V4, A4, B4⟩ := appS elU8 A3.own qa qn qc (u8s (zs qZ qn)) hz3.nils (by rw [u8s_len, zs_len, Nat.mul_one]) hz3.news' (u8s_one _) (by omega) (by omega) bw3.size
        have hsucc : wrE Q (k + 1) = wrE Q k ++ [hd] ++ zs qZ qn := by rw [wrE_succ, HQ.out]; unfold elL; simp only; rw [hhd, List.append_assoc]; rfl
        have O4 : Hid (V4.ownsRow w.heap.size 5 1 (.slice a4 (m + 1 + qn) c4) (m + 1 + qn) (u8s (wrE Q (k + 1)))) := Lib.hid (by rw [hsucc, u8s_app, u8s_app]; exact A4.own)
        have HM4 : Hid (mayAll Q (k + 1) ∧ m + 1 + qn = (wrE Q (k + 1)).length) := Lib.hid ⟨HMY.out, by rw [hsucc, List.length_append, List.length_append, zs_len, ← HM.out.2]; rfl⟩
        have BW4 := Lib.hid (bw3.trans B4)
        have HA3 := Lib.hid A3.run
        have HA4 := Lib.hid A4.run
        have y0 : V2.cell? ⟨g, 0, none⟩ = some (.int .i64 id) := cell_blk G2.out
        have y1 : V2.cell? ⟨g, 1, none⟩ = some (.slice qa qn qc) := cell_blk G2.out
        have y3 : V3.cell? ⟨g, 1, none⟩ = some (.slice qa qn qc) := cell_blk kg
        have k1 : IntKind.i64.wrap ((k : Int) + 1) = (k : Int) + 1 := IntWalk.i64_in _ (by omega)
        have q1 : IntKind.i64.wrap ((qn : Int) - 1) = (qn : Int) - 1 := IntWalk.i64_in _ (by omega)
        clear A3 B3 kg bw3 hz3 A4 B4 hsucc hhd hmay
        go_wp2_with first | (at_builtin; refine wpList_of_append rfl (.tmp 16) (.tmp 26) 25 rfl _ _ _ rfl rfl HA3.out ?_) | (at_builtin; refine wpList_of_append rfl (.tmp 28) (.tmp 30) 25 rfl _ _ _ rfl rfl HA4.out ?_)
        go_roundw
        case rel => exact ⟨k + 1, m + 1 + qn, a4, c4, by omega, by omega, by go_num, rfl, HM4, BW4, O4⟩
        case measure => simp [intOf] <;> omega
    · obtain rfl : len = k := by omega
      clear hlt
      have hO := wrE_oct (Q := Q) H.out.ok HM.out.1
      obtain ⟨hml, a5, c5, hsl, hbs⟩ := BS.own HO.out hO (by omega)
      injection hsl with e1 _ e3
      subst e1 e3
      have hp3 := padN_4 m
      have HF := Lib.hid (fill_yes wr.heap.size a m c (gz (wrE Q len)) 4 wr hbs (Nat.le_refl _) (by omega) (by omega) (by omega))
      have hFL : Hid (m + padN m 4 = (filL (wrE Q len)).length) := Lib.hid (by rw [filL_len, ← HM.out.2])
      have hFB : Hid (∀ w' : World, ∀ (a' : Option Addr) (c' : Nat), BS w'.heap.size w' a' (m + padN m 4) c' (fillZ (gz (wrE Q len)) m) → BL w' a' (m + padN m 4) c' (filL (wrE Q len))) := Lib.hid (fun w' a' c' hb => by
        refine ⟨hFL.out, hb.congr (fun i hi => ?_)⟩
        have h1 := fil_congr (wrE Q len)
        rw [← HM.out.2] at h1
        have h2 : (bytesOf (fillZ (gz (wrE Q len)) m) (m + padN m 4))[i]? = (u8s (filL (wrE Q len)))[i]? := by rw [h1]
        rw [u8s_bytes] at h2
        unfold bytesOf at h2
        rw [List.getElem?_map, List.getElem?_map, List.getElem?_range hi, List.getElem?_range (by rw [← hFL.out]; exact hi)] at h2
        simp at h2
        exact h2.symm)
      obtain ⟨f, hf⟩ : ∃ f, m + padN m 4 = f := ⟨_, rfl⟩
      unfold Filled at HF
      rw [hf] at HF hFL hFB
      have hf2 : f ≤ 3500 := by omega
      clear hbs hO hml hf hp3
      go_wp2_with fail
      refine HF.out.mono ?_
      rintro e V ⟨a', c', rfl, bs', b'⟩
      have BL9 := Lib.hid (hFB.out V a' c' bs')
      have BV := Lib.hid (HB.out.trans (b'.mono HB.out.size))
      clear bs' b' HF hFB
      by_cases h1020 : 1020 < f
      · have h1i : (1020 : Int) < f := by omega
        go_wp2_with fail
        refine bodyPost_ret (by simp [results, Try.results17, go_sem]; try rfl) rfl ?_
        exact ⟨BV.out, .inr ⟨fun h => by have := h.2; rw [← hFL.out] at this; omega, none, 0, 0, rfl, fun _ => rfl⟩⟩
      · have h1i : ¬ (1020 : Int) < f := by omega
        go_wp2_with fail
        refine bodyPost_ret (by simp [results, Try.results17, go_sem]; try rfl) rfl ?_
        exact ⟨BV.out, .inl ⟨⟨HM.out.1, by rw [← hFL.out]; omega⟩, a', f, c', rfl, BL9.out⟩⟩
end Go.Proofs.Ytihbceippcgfgaa
