/-
  Chapter 45: Log.Put.
-/
import Derived.Test.YtdmbdageohjodaaLgA
import Derived.IntWalk
namespace Go.Proofs.Ytdmbdageohjodaa
open Go.RowKit
set_option linter.unusedVariables false
set_option linter.unusedSimpArgs false
attribute [local irreducible] wpStill wpQuiet MixC.wpMix MixC.wpPick MixC.wpPickT
attribute [local go_sem] MixC.rdOp MixC.rd MixC.rdUpon MixC.mvUpon

set_option maxHeartbeats 2000000 in
theorem put_bad (g : Nat) (tk wy ad pt : Int) (a : Option Addr) (n c : Nat) (w : World) (hm : mayR tk wy n = false) :
    Calls Try.prog 36 #[.pointer (some ⟨g, 0, none⟩), .agg #[.int .i64 tk, .int .i64 wy, .int .u32 ad, .int .u16 pt, .slice a n c]] w fun e w' => e = .returned (.tuple #[.int .i64 0, .int .i64 1]) ∧ Below w.heap.size w w' := by
  have HM := Lib.hid (may45_any tk wy ad pt a n c)
  rw [hm] at HM
  clear hm
  go_enter Try.func36, Try.ntmps36
  go_wp2_with fail
  refine (HM.out _).mono ?_
  rintro e V1 ⟨rfl, b1⟩
  have B1 : Hid (Below w.heap.size w V1) := Lib.hid (((Below.refl _ w).alloc (Nat.le_refl _) _).trans (b1.mono (by simp)))
  clear b1
  go_wp2_with fail
  go_ret2
  exact ⟨rfl, B1.out⟩
set_option maxHeartbeats 2000000 in
theorem put_full (B : Nat) (g : Nat) (mx : Int) (L : List Sl) (al : Option Addr) (cl : Nat) (tk wy ad pt : Int) (a : Option Addr) (n c : Nat) (Z : Nat → Int) (w : World) (LS : LogS g mx L al cl w) (ok : RcdOk B w ⟨tk, wy, ad, pt, a, n, c, Z⟩) (hB : B ≤ w.heap.size) (hm : mayR tk wy n = true) (hf : mx < 6 + (19 + (n : Int))) :
    Calls Try.prog 36 #[.pointer (some ⟨g, 0, none⟩), .agg #[.int .i64 tk, .int .i64 wy, .int .u32 ad, .int .u16 pt, .slice a n c]] w fun e w' => e = .returned (.tuple #[.int .i64 0, .int .i64 6]) ∧ Below w.heap.size w w' := by
  have HM := Lib.hid (may45_any tk wy ad pt a n c)
  rw [hm] at HM
  have OK := Lib.hid ok
  have hlog := Lib.hid LS.blk
  have hgl := lt_of_block LS.blk
  have m3 := ((mayR_iff _ _ _).1 hm).2.2.2
  have HMM := Lib.hid hm
  have d1 : decide (mx < 19 + (n : Int) + 6) = true := by simp; omega
  have d2 : decide (mx < 6 + (19 + (n : Int))) = true := by simp; omega
  have d3 : decide (mx < 6 + ((19 + n : Nat) : Int)) = true := by simp; omega
  clear hm ok LS hf
  go_enter Try.func36, Try.ntmps36
  go_wp2_with fail
  generalize hV : World.alloc w _ = V
  obtain ⟨q, hq⟩ : ∃ q, q = w.heap.size := ⟨_, rfl⟩
  rw [← hq]
  have g0 : HasO q (rcO tk wy ad pt a n c) V := by rw [← hV, hq]; exact alloc_blk_new
  have bv : Below w.heap.size w V := by rw [← hV]; exact (Below.refl _ _).alloc (Nat.le_refl _) _
  clear hV hq
  refine (HM.out V).mono ?_
  rintro e V1 ⟨rfl, b1⟩
  have g1 : HasO q (rcO tk wy ad pt a n c) V1 := Below.blk b1 g0 (lt_of_block g0)
  have BV : Hid (Below w.heap.size w V1) := Lib.hid (bv.trans (b1.mono bv.size))
  have e0 : V1.cell? ⟨q, 0, none⟩ = some (.int .i64 tk) := cell_blk g1
  have e1 : V1.cell? ⟨q, 1, none⟩ = some (.int .i64 wy) := cell_blk g1
  have e2 : V1.cell? ⟨q, 2, none⟩ = some (.int .u32 ad) := cell_blk g1
  have e3 : V1.cell? ⟨q, 3, none⟩ = some (.int .u16 pt) := cell_blk g1
  have e4 : V1.cell? ⟨q, 4, none⟩ = some (.slice a n c) := cell_blk g1
  clear g0 bv b1 g1
  go_wp2_with fail
  refine (record_any B tk wy ad pt a n c Z V1 (OK.out.keep (BV.out.mono hB)) (Nat.le_trans hB BV.out.size) HMM.out).mono ?_
  rintro e V2 ⟨a5, c5, he5, o5, b5⟩
  simp only at he5
  subst he5
  have B2 : Hid (Below w.heap.size w V2) := Lib.hid (BV.out.trans (b5.mono BV.out.size))
  have x0 : V2.cell? ⟨g, 0, none⟩ = some (.int .i64 mx) := cell_blk (Below.blk B2.out hlog.out hgl)
  clear o5 b5 e0 e1 e2 e3 e4
  go_wp2_with fail
  go_ret2
  exact ⟨rfl, B2.out⟩

theorem run_from {P : Program} {t e : TypeId} {s : Nat} (hu : P.underlying t = some (.slice e)) (hs : ∀ W, (sizeOf e).run P W = .ok s W) (a : Option Addr) (n c k : Nat) (hk : k ≤ n) (W : World) :
    (Instr.slice t (.slice a n c) (some (.int .i64 k)) none none).run P W = .ok (.slice (if c = k then a else a.map (·.add (k * s))) (n - k) (c - k)) W := by
  have he : P.elem t = e := by unfold Program.elem; rw [hu]
  rw [run_slice_l W t a n c (by rw [hu, he]) .i64 k (by omega) (by omega), he, hs]
  simp [sliced]
theorem cloneS_any (a : Option Addr) (n c : Nat) (news : List Value) (w : World) (hnil : a = none → n = 0 ∧ c = 0) (hl : news.length = n) (hc : ∀ ad, a = some ad → ∀ (j : Nat) u, news[j]? = some u → w.cell? (ad.add j) = some u) (h1 : ∀ u ∈ news, u.oneCell' = true) (hn : n ≤ 10000) :
    Calls Try.prog 76 #[.slice a n c] w (ClPost n news w) := by
  cases a with
  | none =>
    obtain ⟨rfl, rfl⟩ := hnil rfl
    have : news = [] := List.length_eq_zero_iff.1 hl
    subst this
    exact cloneS_nil w
  | some ad => exact cloneS_some ad n c news w hl (hc ad rfl) h1 hn
theorem own_pos {w : World} {base : Nat} {e : TypeId} {size : Nat} {a : Option Addr} {n c n' : Nat} {xs : List Value} (h : w.ownsRow base e size (.slice a n c) n' xs) (h0 : 0 < n') :
    ∃ g, a = some ⟨g, 0, none⟩ ∧ base ≤ g ∧ g < w.heap.size ∧ n = n' ∧ n' ≤ c ∧ ∀ (j : Nat) u, xs[j]? = some u → w.cell? ⟨g, j, none⟩ = some u := by
  have hlt := h.lt
  have h' := h
  obtain ⟨h1, h2⟩ := h
  rcases h2 with ⟨_, h0'⟩ | ⟨g, cap, cur, hv, hg, hh, hn, _⟩
  · omega
  · injection hv with e1 e2 e3
    subst e1 e2 e3
    exact ⟨g, rfl, hg, (hlt g rfl).2, rfl, hn, fun j u hj => own_cell h' hj⟩
structure PSt (g : Nat) (mx : Int) (L : List Sl) (a : Option Addr) (c sz : Nat) (w wr : World) (k : Nat) : Prop where
  bl : But (some g) w wr
  blk : wr.heap[g]? = some (logO mx (.slice a L.length c) (6 + (tot (L.drop k) : Nat)))
  gone : ∀ i, i < k → mx < 6 + (tot (L.drop i) : Int) + sz
def PutPost (g : Nat) (mx : Int) (L : List Sl) (sz : Nat) (M : List Int) (w : World) (e : Ending) (w' : World) : Prop :=
  ∃ k s a' c', k ≤ L.length ∧ e = .returned (.tuple #[.int .i64 k, .int .i64 0]) ∧ (∀ i, i < k → mx < 6 + (tot (L.drop i) : Int) + sz) ∧ 6 + (tot (L.drop k) : Int) + sz ≤ mx ∧ Sl.l s = M ∧ s.n = sz ∧ LogS g mx (L.drop k ++ [s]) a' c' w' ∧ But (some g) w w'
theorem sizeSl (W : World) : (sizeOf 56).run Try.prog W = .ok 1 W := by kernel_rfl
set_option maxRecDepth 100000 in
set_option maxHeartbeats 4000000 in
theorem put_good45 (B : Nat) (g : Nat) (mx : Int) (L : List Sl) (al : Option Addr) (cl : Nat) (tk wy ad pt : Int) (a : Option Addr) (n c : Nat) (Z : Nat → Int) (w : World) (LS : LogS g mx L al cl w) (ok : RcdOk B w ⟨tk, wy, ad, pt, a, n, c, Z⟩) (hB : B ≤ w.heap.size) (hm : mayR tk wy n = true) (hf : 6 + (19 + (n : Int)) ≤ mx) (hmx : mx ≤ 1000000) (hL : L.length ≤ 1000) (hT : tot L ≤ 1000000) :
    Calls Try.prog 36 #[.pointer (some ⟨g, 0, none⟩), .agg #[.int .i64 tk, .int .i64 wy, .int .u32 ad, .int .u16 pt, .slice a n c]] w (PutPost g mx L (19 + n) (oneL ⟨tk, wy, ad, pt, a, n, c, Z⟩) w) := by
  have HM := Lib.hid (may45_any tk wy ad pt a n c)
  rw [hm] at HM
  have OK := Lib.hid ok
  have LS0 := Lib.hid LS
  have hgl := lt_of_block LS.blk
  have m3 := ((mayR_iff _ _ _).1 hm).2.2.2
  have HMM := Lib.hid hm
  have d2 : decide (mx < 6 + (19 + (n : Int))) = false := by simp; omega
  have d3 : decide (mx < 6 + ((19 + n : Nat) : Int)) = false := by simp; omega
  clear hm ok LS
  go_enter Try.func36, Try.ntmps36
  go_wp2_with fail
  generalize hV : World.alloc w _ = V
  obtain ⟨q, hq⟩ : ∃ q, q = w.heap.size := ⟨_, rfl⟩
  rw [← hq]
  have g0 : HasO q (rcO tk wy ad pt a n c) V := by rw [← hV, hq]; exact alloc_blk_new
  have bv : Below w.heap.size w V := by rw [← hV]; exact (Below.refl _ _).alloc (Nat.le_refl _) _
  clear hV hq
  refine (HM.out V).mono ?_
  rintro e V1 ⟨rfl, b1⟩
  have g1 : HasO q (rcO tk wy ad pt a n c) V1 := Below.blk b1 g0 (lt_of_block g0)
  have BV : Hid (Below w.heap.size w V1) := Lib.hid (bv.trans (b1.mono bv.size))
  have e0 : V1.cell? ⟨q, 0, none⟩ = some (.int .i64 tk) := cell_blk g1
  have e1 : V1.cell? ⟨q, 1, none⟩ = some (.int .i64 wy) := cell_blk g1
  have e2 : V1.cell? ⟨q, 2, none⟩ = some (.int .u32 ad) := cell_blk g1
  have e3 : V1.cell? ⟨q, 3, none⟩ = some (.int .u16 pt) := cell_blk g1
  have e4 : V1.cell? ⟨q, 4, none⟩ = some (.slice a n c) := cell_blk g1
  clear g0 bv b1 g1
  go_wp2_with fail
  refine (record_any B tk wy ad pt a n c Z V1 (OK.out.keep (BV.out.mono hB)) (Nat.le_trans hB BV.out.size) HMM.out).mono ?_
  rintro e V2 ⟨a5, c5, he5, o5, b5⟩
  simp only at he5 o5
  subst he5
  have B2 : Hid (Below w.heap.size w V2) := Lib.hid (BV.out.trans (b5.mono BV.out.size))
  have hoc : Oct (oneL ⟨tk, wy, ad, pt, a, n, c, Z⟩) := oneL_oct _ ((mayR_iff _ _ _).1 HMM.out).2.1 ((mayR_iff _ _ _).1 HMM.out).2.2.1 OK.out.z
  obtain ⟨-, a', c', he, hs⟩ := BS.own o5 hoc (by omega)
  cases he
  have HS5 := Lib.hid hs
  have LS2 := Lib.hid (LS0.out.keep B2.out)
  have x0 : V2.cell? ⟨g, 0, none⟩ = some (.int .i64 mx) := cell_blk LS2.out.blk
  have P0 : Hid (PSt g mx L al cl (19 + n) V2 V2 0) := Lib.hid ⟨But.refl _ _, LS2.out.blk, fun i hi => by omega⟩
  clear o5 b5 e0 e1 e2 e3 e4 hs hoc
  go_wp2_with fail
  clear x0 d2 d3
  go_loopw [7] (fun s7 wr => ∃ k : Nat, k ≤ L.length ∧ s7 = .int .i64 k ∧ Hid (PSt g mx L al cl (19 + n) V2 wr k)) (fun s7 _ => L.length - (intOf s7).toNat)
  case atStart => exact ⟨0, by omega, rfl, P0⟩
  case round =>
    obtain ⟨k, hk, rfl, HS⟩ := hrel
    have htd := tot_drop_le L k
    have RW : Hid (wr.ownsRow 0 56 1 (.slice al L.length cl) L.length (slVs L)) := Lib.hid (own_butT (T := 139) (fun q hq => by cases hq; exact ⟨_, _, LS2.out.blk⟩) HS.out.bl LS2.out.row (by decide))
    obtain ⟨t, ht⟩ : ∃ t, tot (L.drop k) = t := ⟨_, rfl⟩
    have HT : Hid (tot (L.drop k) = t) := Lib.hid ht
    have GB : Hid (wr.heap[g]? = some (logO mx (.slice al L.length cl) (6 + (t : Nat)))) := Lib.hid (by rw [← ht]; exact HS.out.blk)
    rw [ht] at htd
    clear ht
    have C0 : Hid (HasO g (logO mx (.slice al L.length cl) (6 + (t : Nat))) wr.drew) := Lib.hid GB.out
    have hne : Nonempty { w' : World // HasO g (logO mx (.slice al L.length cl) (6 + (t : Nat))) w' } := ⟨⟨_, C0.out⟩⟩
    have o0 : ∀ z : { w' : World // HasO g (logO mx (.slice al L.length cl) (6 + (t : Nat))) w' }, z.1.cell? ⟨g, 0, none⟩ = some (.int .i64 mx) := fun z => cell_blk z.2
    have o2 : ∀ z : { w' : World // HasO g (logO mx (.slice al L.length cl) (6 + (t : Nat))) w' }, z.1.cell? ⟨g, 2, none⟩ = some (.int .i64 (6 + t)) := fun z => cell_blk z.2
    have w1 : IntKind.i64.wrap (6 + (t : Int) + (19 + (n : Int))) = 6 + (t : Int) + (19 + (n : Int)) := IntWalk.i64_in _ (by omega)
    by_cases hlt : mx < 6 + (t : Int) + (19 + (n : Int))
    · have d4 : decide (mx < 6 + (t : Int) + (19 + (n : Int))) = true := by simpa using hlt
      go_upto_region 7 with (fail)
      refine MixC.wp_region_mix [] (HasO g (logO mx (.slice al L.length cl) (6 + (t : Nat)))) C0.out (by kernel_rfl) (by kernel_rfl) (by kernel_rfl) ?_
      (iterate 12 (refine MixC.mix_read rfl (fun K hK => ?_); go_simp; refine hK _ ?_; clear hK K))
      refine MixC.mix_nil ?_
      clear o0 o2 hne w1
      have hkl : k < L.length := by
        rcases Nat.lt_or_ge k L.length with h | h
        · exact h
        · exfalso
          have : t = 0 := by rw [← HT.out, List.drop_of_length_le h]; rfl
          omega
      have hts := tot_drop L k hkl
      have hget : (slVs L)[k]? = some (L[k]'hkl).v := by unfold slVs; rw [List.getElem?_map, List.getElem?_eq_getElem hkl]; rfl
      obtain ⟨s, hs⟩ : ∃ s, L[k]'hkl = s := ⟨_, rfl⟩
      rw [hs, HT.out] at hts
      rw [hs] at hget
      obtain ⟨gb, rfl, -, hgb, -, hcc, hcell⟩ := own_pos RW.out (by omega)
      obtain ⟨sa, sn, sc, sZ⟩ := s
      simp only [Sl.v] at hget hts
      have lg := lt_of_block GB.out
      have HTS := Lib.hid hts
      have hsn : sn ≤ t := by omega
      have hki : (k : Int) < L.length := by omega
      have hne : Nonempty { w' : World // Below wr.heap.size wr w' } := ⟨⟨_, Below.refl _ _⟩⟩
      have o1 : ∀ z : { w' : World // Below wr.heap.size wr w' }, z.1.cell? ⟨g, 1, none⟩ = some (.slice (some ⟨gb, 0, none⟩) L.length cl) := fun z => cell_blk (Below.blk z.2 GB.out lg)
      have o2 : ∀ z : { w' : World // Below wr.heap.size wr w' }, z.1.cell? ⟨g, 2, none⟩ = some (.int .i64 (6 + t)) := fun z => cell_blk (Below.blk z.2 GB.out lg)
      have o3 : ∀ z : { w' : World // Below wr.heap.size wr w' }, z.1.cell? ⟨gb, k, none⟩ = some (.slice sa sn sc) := fun z => Below.cell' z.2 hgb (hcell k _ hget)
      have w2 : IntKind.i64.wrap (6 + (t : Int) - (sn : Int)) = 6 + (t : Int) - (sn : Int) := IntWalk.i64_in _ (by omega)
      have s1 : wr.cell? ⟨g, 2, none⟩ = some (.int .i64 (6 + t)) := cell_blk GB.out
      have s2 : wr.frozen? ⟨g, 2, none⟩ = false := free_blk GB.out
      clear hts hget hcell hs hlt
      go_wp2_with fail
      refine MixC.wp_region_mix_tail 15 [] (Below wr.heap.size wr) (Below.refl _ _).drew.drew (by kernel_rfl) (by kernel_rfl) (by kernel_rfl) ?_
      simp only [List.take_succ_cons, List.take_zero, List.drop_succ_cons, List.drop_zero]
      (iterate 15 (refine MixC.mix_read rfl (fun K hK => ?_); go_simp; refine hK _ ?_; clear hK K))
      refine MixC.mix_nil ?_
      clear o1 o2 o3 hne w2
      go_wp2_with fail
      go_roundw
      case rel => exact ⟨k + 1, by omega, by go_num, Lib.hid ⟨((HS.out.bl).set _ _).drew.drew, by
          show (wr.setCell _ _).heap[g]? = _
          rw [set_blk _ GB.out]
          have := HTS.out
          have e : (6 + (t : Int) - (sn : Int)) = 6 + ((tot (L.drop (k + 1)) : Nat) : Int) := by omega
          rw [e]; rfl, fun i hi => by
          rcases Nat.lt_or_ge i k with h | h
          · exact HS.out.gone i h
          · have : i = k := by omega
            subst this
            rw [HT.out]
            have := of_decide_eq_true d4
            push_cast
            omega⟩⟩
      case measure => simp [intOf] <;> omega
    · have d4 : decide (mx < 6 + (t : Int) + (19 + (n : Int))) = false := by simpa using hlt
      go_upto_region 7 with (fail)
      refine MixC.wp_region_mix [] (HasO g (logO mx (.slice al L.length cl) (6 + (t : Nat)))) C0.out (by kernel_rfl) (by kernel_rfl) (by kernel_rfl) ?_
      (iterate 12 (refine MixC.mix_read rfl (fun K hK => ?_); go_simp; refine hK _ ?_; clear hK K))
      refine MixC.mix_nil ?_
      clear o0 o2 hne w1
      have hle : 6 + (t : Int) + (19 + (n : Int)) ≤ mx := by omega
      have hsl := run_from Try.underlying98 sizeSl al L.length cl k hk
      obtain ⟨a1, ha1⟩ : ∃ a1, (if cl = k then al else al.map (·.add (k * 1))) = a1 := ⟨_, rfl⟩
      rw [ha1] at hsl
      have hcap : L.length ≤ cl := by
        rcases RW.out.2 with ⟨hv, h0⟩ | ⟨_, cap, _, hv, _, _, h, _⟩
        · omega
        · injection hv with _ _ e3; omega
      have hsrc : (a1 = none → L.length - k = 0 ∧ cl - k = 0) ∧ ∀ ad', a1 = some ad' → ∀ (j : Nat) u, (slVs (L.drop k))[j]? = some u → wr.cell? (ad'.add j) = some u := by
        rcases Nat.eq_zero_or_pos L.length with h0 | h0
        · have hn : al = none ∧ cl = 0 ∨ ∃ gb, al = some ⟨gb, 0, none⟩ := by
            rcases RW.out.2 with ⟨hv, _⟩ | ⟨gb, cap, _, hv, _⟩
            · injection hv with e1 _ e3; exact .inl ⟨e1, e3⟩
            · injection hv with e1 _ e3; exact .inr ⟨gb, e1⟩
          refine ⟨fun e => ?_, fun ad' _ j u hj => ?_⟩
          · rcases hn with ⟨h1, h2⟩ | ⟨gb, h1⟩
            · omega
            · rw [h1] at ha1; rw [e] at ha1; split at ha1 <;> cases ha1
          · have : L = [] := List.length_eq_zero_iff.1 h0
            subst this
            simp [slVs] at hj
        · obtain ⟨gb, h1, -, hgb, -, hcc, hcell⟩ := own_pos RW.out h0
          subst h1
          by_cases hck : cl = k
          · rw [if_pos hck] at ha1
            subst ha1
            refine ⟨fun e => (by cases e), fun ad' _ j u hj => ?_⟩
            have : L.drop k = [] := List.drop_of_length_le (by omega)
            rw [this] at hj
            simp [slVs] at hj
          · rw [if_neg hck] at ha1
            subst ha1
            refine ⟨fun e => (by cases e), fun ad' e j u hj => ?_⟩
            cases e
            show wr.cell? ((Addr.add ⟨gb, 0, none⟩ (k * 1)).add j) = some u
            rw [addr_add, addr_add, Nat.zero_add, Nat.mul_one]
            refine hcell (k + j) u ?_
            rw [← hj]
            unfold slVs
            rw [List.getElem?_map, List.getElem?_map, List.getElem?_drop]
      have HCL := Lib.hid (cloneS_any a1 (L.length - k) (cl - k) (slVs (L.drop k)) wr.drew hsrc.1 (by rw [slVs_len, List.length_drop]) hsrc.2 (slVs_one _) (by omega))
      have HLE := Lib.hid hle
      have x1 : wr.cell? ⟨g, 1, none⟩ = some (.slice al L.length cl) := cell_blk GB.out
      have hka : 0 ≤ (k : Int) ∧ (k : Int) ≤ L.length := by omega
      clear hsrc ha1 hle
      go_wp2_with fail
      refine HCL.out.mono ?_
      rintro e V3 ⟨a6, c6, rfl, o6, b6⟩
      clear x1 hsl
      have b6' : Below wr.heap.size wr V3 := (Below.refl _ wr).drew.trans b6
      obtain ⟨a7, c7, V4, A7, B7⟩ := app1 elSl o6 [.slice a5 (19 + n) c5] rfl (one_cell rfl) (by omega) (by omega) b6.size
      have BW4 : Hid (Below wr.heap.size wr V4) := Lib.hid (b6'.trans B7)
      have G4 : Hid (V4.heap[g]? = some (logO mx (.slice al L.length cl) (6 + (t : Nat)))) := Lib.hid (Below.blk BW4.out GB.out (lt_of_block GB.out))
      have HA := Lib.hid A7.run
      have O7 := Lib.hid A7.own
      clear o6 b6 b6' A7 B7
      have s1 : V4.cell? ⟨g, 1, none⟩ = some (.slice al L.length cl) := cell_blk G4.out
      have s2 : V4.frozen? ⟨g, 1, none⟩ = false := free_blk G4.out
      go_upto_region 11 with (at_builtin; refine wpList_of_append rfl (.tmp 57) (.tmp 59) 98 rfl _ _ _ rfl rfl HA.out ?_)
      clear s1 s2
      generalize hX : World.setCell V4 _ _ = X
      have GX : Hid (X.heap[g]? = some (logO mx (.slice a7 (L.length - k + 1) c7) (6 + (t : Nat)))) := Lib.hid (by rw [← hX, set_blk _ G4.out]; rfl)
      have OX : Hid (X.ownsRow wr.drew.heap.size 56 1 (.slice a7 (L.length - k + 1) c7) (L.length - k + 1) (slVs (L.drop k) ++ [.slice a5 (19 + n) c5])) := Lib.hid (by rw [← hX]; exact own_setT _ G4.out O7.out (by decide))
      have BX : Hid (But (some g) wr X) := Lib.hid (by rw [← hX]; exact (But.of_below BW4.out).set _ _)
      have x2 : X.cell? ⟨g, 2, none⟩ = some (.int .i64 (6 + t)) := cell_blk GX.out
      have x2' : X.frozen? ⟨g, 2, none⟩ = false := free_blk GX.out
      clear hX
      have w1 : IntKind.i64.wrap (6 + (t : Int) + (19 + (n : Int))) = 6 + (t : Int) + (19 + (n : Int)) := IntWalk.i64_in _ (by omega)
      go_wp2_with fail
      go_ret2
      have hln : (L.drop k ++ [(⟨a5, 19 + n, c5, gz (oneL ⟨tk, wy, ad, pt, a, n, c, Z⟩)⟩ : Sl)]).length = L.length - k + 1 := by simp
      have BXX : But (some g) V2 (X.setCell ⟨g, 2, none⟩ (.int .i64 (6 + t + (19 + n)))) := (HS.out.bl.trans BX.out).set _ _
      have nou : ∀ (W : World) (sz : Int) (v : Value), W.heap[g]? = some (logO mx v sz) → v.oneCell' = true → (∀ z, v ≠ .int .u8 z) → ∀ (i : Nat) (z : Int), W.cell? ⟨g, i, none⟩ ≠ some (.int .u8 z) := fun W sz v h => logO_no h
      have nou2 := nou V2 _ _ LS2.out.blk rfl (fun z e => by cases e)
      refine ⟨k, ⟨a5, 19 + n, c5, gz (oneL ⟨tk, wy, ad, pt, a, n, c, Z⟩)⟩, a7, c7, hk, rfl, HS.out.gone, by rw [HT.out]; push_cast; exact HLE.out, by have := zs_gz (oneL ⟨tk, wy, ad, pt, a, n, c, Z⟩); rw [oneL_len] at this; exact this, rfl, ⟨?_, ?_, ?_⟩, ?_⟩
      · rw [set_blk _ GX.out, hln]
        have e : ((tot (L.drop k ++ [(⟨a5, 19 + n, c5, gz (oneL ⟨tk, wy, ad, pt, a, n, c, Z⟩)⟩ : Sl)]) : Nat) : Int) = (t : Int) + (19 + (n : Int)) := by rw [tot_app, HT.out]; simp [tot]
        rw [e, show (6 : Int) + ((t : Int) + (19 + (n : Int))) = 6 + (t : Int) + (19 + (n : Int)) by omega]
        rfl
      · rw [hln, show slVs (L.drop k ++ [(⟨a5, 19 + n, c5, gz (oneL ⟨tk, wy, ad, pt, a, n, c, Z⟩)⟩ : Sl)]) = slVs (L.drop k) ++ [.slice a5 (19 + n) c5] by unfold slVs; rw [List.map_append]; rfl]
        exact own_setT _ GX.out (World.ownsRow.mono OX.out (Nat.zero_le _)) (by decide)
      · intro s' hs'
        rcases List.mem_append.1 hs' with h | h
        · exact ((LS2.out.bs s' (List.mem_of_mem_drop h)).other LS2.out.blk nou2 (fun q hq hne => BXX.block q hq (fun e => hne (by injection e with e; exact e.symm)))).mono BXX.size
        · have : s' = ⟨a5, 19 + n, c5, gz (oneL ⟨tk, wy, ad, pt, a, n, c, Z⟩)⟩ := by simpa using h
          subst this
          exact (HS5.out.other LS2.out.blk nou2 (fun q hq hne => BXX.block q hq (fun e => hne (by injection e with e; exact e.symm)))).mono BXX.size
      · exact (But.of_below B2.out).trans BXX
end Go.Proofs.Ytdmbdageohjodaa
