/-
  Chapter 12: attributes that came in, and Write.
-/
import Derived.Test.YtkoplofcjbeicaaStA
import Derived.Test.YtkoplofcjbeicaaBl
import Derived.Test.YtkoplofcjbeicaaConcU
import Derived.Test.YtkoplofcjbeicaaReads
import Derived.Test.YtkoplofcjbeicaaMixO
import Derived.Deep.DeepCutAuto
namespace Go.Proofs.Ytkoplofcjbeicaa
open Go.RowKit
set_option linter.unusedVariables false
set_option linter.unusedSimpArgs false
attribute [local irreducible] wpStill wpQuiet MixC.wpMix
attribute [local go_sem] MixC.rdOp MixC.rd MixC.rdUpon MixC.mvUpon

structure At where
  t : Int
  a : Option Addr
  n : Nat
  c : Nat
  Z : Nat → Int
instance : Inhabited At := ⟨⟨0, none, 0, 0, fun _ => 0⟩⟩
structure AtOk (B : Nat) (w : World) (e : At) : Prop where
  t0 : 0 ≤ e.t
  t1 : e.t ≤ 65535
  z : BS B w e.a e.n e.c e.Z
theorem AtOk.keep {B : Nat} {w w' : World} {e : At} (h : AtOk B w e) (hb : Below B w w') : AtOk B w' e := ⟨h.t0, h.t1, h.z.keep hb⟩
theorem AtOk.mono {B B' : Nat} {w : World} {e : At} (h : AtOk B w e) (hb : B ≤ B') : AtOk B' w e := ⟨h.t0, h.t1, h.z.mono hb⟩
/-- a list of attributes that lies somewhere -/
structure Ats (B : Nat) (w : World) (ad : Option Addr) (len cap : Nat) (Q : Nat → At) : Prop where
  le : len ≤ cap
  max : cap ≤ 9223372036854775807
  ok : ∀ i, i < len → AtOk B w (Q i)
  mem : ∃ b off, (0 < cap → ad = some ⟨b, off, none⟩ ∧ b < B) ∧ ∀ i, i < len → w.cell? ⟨b, off + i * 2, none⟩ = some (.int .u16 (Q i).t) ∧ w.cell? ⟨b, off + i * 2 + 1, none⟩ = some (.slice (Q i).a (Q i).n (Q i).c)
theorem Ats.keep {B : Nat} {w w' : World} {ad : Option Addr} {len cap : Nat} {Q : Nat → At} (h : Ats B w ad len cap Q) (hb : Below B w w') : Ats B w' ad len cap Q := by
  obtain ⟨h1, h2, h3, b, off, h4, h5⟩ := h
  refine ⟨h1, h2, fun i hi => (h3 i hi).keep hb, b, off, h4, fun i hi => ?_⟩
  obtain ⟨h6, h7⟩ := h5 i hi
  exact ⟨Below.cell' hb (h4 (by omega)).2 h6, Below.cell' hb (h4 (by omega)).2 h7⟩
theorem Ats.mono {B B' : Nat} {w : World} {ad : Option Addr} {len cap : Nat} {Q : Nat → At} (h : Ats B w ad len cap Q) (hB : B ≤ B') : Ats B' w ad len cap Q := by
  obtain ⟨h1, h2, h3, b, off, h4, h5⟩ := h
  exact ⟨h1, h2, fun i hi => (h3 i hi).mono hB, b, off, fun h => ⟨(h4 h).1, by have := (h4 h).2; omega⟩, h5⟩
theorem Ats.nil (w : World) (Q : Nat → At) : Ats w.heap.size w none 0 0 Q := ⟨Nat.le_refl _, by omega, fun i hi => by omega, 0, 0, fun h => by omega, fun i hi => by omega⟩
theorem ats_of {w : World} {v : Value} (h : Reads Try.prog w 6 26 v) : ∃ a len cap Q, v = .slice a len cap ∧ Ats w.heap.size w a len cap Q := by
  obtain ⟨a, len, cap, b, off, V, rfl, row⟩ := reads_slice Try.underlying26 (ts := [24, 22]) (by kernel_rfl) (by kernel_rfl) (by decide) h
  have hx : ∀ i, i < cap → ∃ o : At, (V i 0 = .int .u16 o.t ∧ V i 1 = .slice o.a o.n o.c) ∧ AtOk w.heap.size w o := fun i hi => by
    obtain ⟨id, e0, w0⟩ := reads_int Try.underlying24 (row.read i hi 0 _ rfl)
    obtain ⟨a, n, c, Z, e4, hZ⟩ := bs_of36b (row.read i hi 1 _ rfl)
    have b0 := bounds_u16 w0
    exact ⟨⟨id, a, n, c, Z⟩, ⟨e0, e4⟩, b0.1, b0.2, hZ⟩
  obtain ⟨Q, hQ⟩ := Deep.choose_lt (n := cap) (α := At) (p := fun i o => (V i 0 = .int .u16 o.t ∧ V i 1 = .slice o.a o.n o.c) ∧ AtOk w.heap.size w o) hx
  have hm := row.max
  unfold maxLen at hm
  have hle := row.le
  refine ⟨a, len, cap, Q, rfl, hle, by omega, fun i hi => (hQ i (by omega)).2, b, off, row.addr, fun i hi => ⟨?_, ?_⟩⟩
  · have := row.cell i (by omega) 0 (by decide)
    rw [(hQ i (by omega)).1.1] at this
    simpa using this
  · have := row.cell i (by omega) 1 (by decide)
    rw [(hQ i (by omega)).1.2] at this
    simpa [Nat.add_assoc] using this
/-! ### Their bytes -/
def At.con (q : At) : Con := (q.t, zs q.Z q.n)
def cons (Q : Nat → At) (k : Nat) : List Con := (List.range k).map fun i => (Q i).con
theorem cons_len (Q : Nat → At) (k : Nat) : (cons Q k).length = k := by simp [cons]
def bodQ (Q : Nat → At) (k : Nat) : List Int := bodA (cons Q k)
theorem bodQ_zero (Q : Nat → At) : bodQ Q 0 = [] := rfl
theorem bodQ_succ (Q : Nat → At) (k : Nat) : bodQ Q (k + 1) = bodQ Q k ++ encA (Q k).t (zs (Q k).Z (Q k).n) := by
  unfold bodQ cons bodA
  rw [List.range_succ, List.map_append, List.flatMap_append]
  simp [At.con, enc]
theorem fil_enc (L X : List Int) (t : Int) (n : Nat) (hn : n = X.length) (h4 : L.length % 4 = 0) : filL (L ++ putL t 2 ++ putL n 2 ++ X) = L ++ encA t X := by
  subst hn
  have hp : padN (L ++ putL t 2 ++ putL X.length 2 ++ X).length 4 = padN X.length 4 := by
    simp only [List.length_append, putL_len]
    unfold padN
    omega
  unfold filL encA
  rw [hp]
  simp only [List.append_assoc]
theorem bodQ_4 (Q : Nat → At) (k : Nat) : (bodQ Q k).length % 4 = 0 := bod_len4 _
def okW12 (T : Int) (len : Nat) (Q : Nat → At) : Prop := T ≤ 16383 ∧ len ≤ 16 ∧ ∀ i, i < len → (Q i).n ≤ 255
def Wr12 (ok bad : Value) (T : Int) (x : Nat → Int) (len : Nat) (Q : Nat → At) (w : World) (e : Ending) (w' : World) : Prop :=
  Below w.heap.size w w' ∧ ((okW12 T len Q ∧ ∃ a n c, e = .returned (.tuple #[.slice a n c, ok]) ∧ BL w' a n c (wrM T (zs x 12) (cons Q len))) ∨ (¬ okW12 T len Q ∧ e = .returned (.tuple #[.slice none 0 0, bad])))
theorem head_eq (T : Int) (m : Nat) : ([] ++ putL T 2 ++ putL (m : Int) 2 ++ putL magicI 4).length = 8 := by simp [putL_len]
def sl3 (s0 s1 s2 : Sl) : Nat → Sl := fun i => if i = 0 then s0 else if i = 1 then s1 else s2
theorem cats3 (s0 s1 s2 : Sl) : cats (sl3 s0 s1 s2) 3 = s0.l ++ s1.l ++ s2.l := by
  rw [cats_succ, cats_succ, cats_succ, cats_zero]
  rfl
set_option maxRecDepth 100000 in
set_option maxHeartbeats 4000000 in
theorem write12_any (T : Int) (x : Nat → Int) (a : Option Addr) (len cap : Nat) (Q : Nat → At) (w : World) (hT : 0 ≤ T ∧ T ≤ 65535) (hx : ∀ i, i < 12 → 0 ≤ x i ∧ x i ≤ 255) (h : Ats w.heap.size w a len cap Q) :
    Calls Try.prog 18 #[.agg #[.int .u16 T, .int .u8 (x 0), .int .u8 (x 1), .int .u8 (x 2), .int .u8 (x 3), .int .u8 (x 4), .int .u8 (x 5), .int .u8 (x 6), .int .u8 (x 7), .int .u8 (x 8), .int .u8 (x 9), .int .u8 (x 10), .int .u8 (x 11), .slice a len cap]] w (Wr12 (.int .i64 0) (.int .i64 1) T x len Q w) := by
  have H := Lib.hid h
  have HX := Lib.hid hx
  have hle := h.le
  have hmx := h.max
  obtain ⟨t0, t1⟩ := hT
  clear h hx
  go_enter Try.func18, Try.ntmps18
  go_upto_region 1 with (fail)
  obtain ⟨W0, hW0⟩ : ∃ W0, w.alloc (.cells #[.int .u16 T, .int .u8 (x 0), .int .u8 (x 1), .int .u8 (x 2), .int .u8 (x 3), .int .u8 (x 4), .int .u8 (x 5), .int .u8 (x 6), .int .u8 (x 7), .int .u8 (x 8), .int .u8 (x 9), .int .u8 (x 10), .int .u8 (x 11), .slice a len cap] 28) = W0 := ⟨_, rfl⟩
  obtain ⟨g, hg⟩ : ∃ g, w.heap.size = g := ⟨_, rfl⟩
  rw [hW0, hg]
  have B0 : Hid (Below w.heap.size w W0) := Lib.hid (by rw [← hW0]; exact (Below.refl _ _).alloc (Nat.le_refl _) _)
  have K0 : Hid (W0.heap[g]? = some (.cells #[.int .u16 T, .int .u8 (x 0), .int .u8 (x 1), .int .u8 (x 2), .int .u8 (x 3), .int .u8 (x 4), .int .u8 (x 5), .int .u8 (x 6), .int .u8 (x 7), .int .u8 (x 8), .int .u8 (x 9), .int .u8 (x 10), .int .u8 (x 11), .slice a len cap] 28 (0, 0))) := Lib.hid (by rw [← hW0, ← hg]; exact alloc_blk_new)
  have HG0 : Hid (w.heap.size = g ∧ g < W0.heap.size) := Lib.hid ⟨hg, lt_of_block K0.out⟩
  clear hW0 hg
  have KK : Hid (∀ y, Below W0.heap.size W0 y → y.heap[g]? = some (.cells #[.int .u16 T, .int .u8 (x 0), .int .u8 (x 1), .int .u8 (x 2), .int .u8 (x 3), .int .u8 (x 4), .int .u8 (x 5), .int .u8 (x 6), .int .u8 (x 7), .int .u8 (x 8), .int .u8 (x 9), .int .u8 (x 10), .int .u8 (x 11), .slice a len cap] 28 (0, 0)) ∧ Below w.heap.size w y ∧ Ats y.heap.size y a len cap Q) := Lib.hid (fun y hy => by
    have bb := B0.out.trans (hy.mono B0.out.size)
    exact ⟨Below.blk hy K0.out HG0.out.2, bb, (H.out.keep bb).mono bb.size⟩)
  have c0 : W0.cell? ⟨g, 0, none⟩ = some (.int .u16 T) := cell_blk K0.out
  have c13 : W0.cell? ⟨g, 13, none⟩ = some (.slice a len cap) := cell_blk K0.out
  by_cases hTT : 16384 ≤ T
  · go_wp2_with fail
    refine bodyPost_ret (by simp [results, Try.results18, go_sem]; try rfl) rfl ?_
    exact ⟨(KK.out _ (Below.refl _ _)).2.1, .inr ⟨fun h => by have := h.1; omega, rfl⟩⟩
  · by_cases h16 : 16 < len
    · have h16i : (16 : Int) < len := by omega
      go_wp2_with fail
      refine bodyPost_ret (by simp [results, Try.results18, go_sem]; try rfl) rfl ?_
      exact ⟨(KK.out _ (Below.refl _ _)).2.1, .inr ⟨fun h => by have := h.2.1; omega, rfl⟩⟩
    · have h16i : ¬ (16 : Int) < len := by omega
      go_wp2_with fail
      go_loopw [4, 20] (fun s4 s20 wr => ∃ (k m : Nat) (b : Option Addr) (bc : Nat), k ≤ len ∧ m ≤ k * 300 ∧ s20 = .int .i64 k ∧ s4 = .slice b m bc ∧ Hid (∀ i, i < k → (Q i).n ≤ 255) ∧ Hid (Below W0.heap.size W0 wr) ∧ Hid (BL wr b m bc (bodQ Q k))) (fun _ s20 _ => len - (intOf s20).toNat)
      case atStart => exact ⟨0, 0, none, 0, by omega, by omega, rfl, rfl, Lib.hid (fun i hi => by omega), Lib.hid (Below.refl _ _), Lib.hid (by rw [bodQ_zero]; exact BL.nil _)⟩
      case round =>
        clear c0 c13
        obtain ⟨k, m, b, bc, hk, hm, rfl, rfl, HM, HB, HO⟩ := hrel
        by_cases hlt : k < len
        · have hki : (k : Int) < len := by omega
          obtain ⟨bb, off, hp, hc⟩ := (KK.out _ HB.out).2.2.mem
          obtain ⟨rfl, hbb⟩ := hp (by omega)
          obtain ⟨c0, c1⟩ := hc k hlt
          have hok := (KK.out _ HB.out).2.2.ok k hlt
          obtain ⟨q, hq⟩ : ∃ q, Q k = q := ⟨_, rfl⟩
          have HQ := Lib.hid hq
          rw [hq] at c0 c1 hok
          obtain ⟨t, qa, qn, qc, qZ⟩ := q
          simp only at c0 c1
          have OK := Lib.hid hok
          have qle := hok.z.le
          have qmx := hok.z.max
          have qt0 := hok.t0
          have qt1 := hok.t1
          simp only at qle qmx qt0 qt1
          clear hp hc hq hok
          go_upto_region 7 with (fail)
          obtain ⟨V, hV⟩ : ∃ V, wr.alloc (.cells #[.int .u16 t, .slice qa qn qc] 75) = V := ⟨_, rfl⟩
          obtain ⟨gv, hgv⟩ : ∃ gv, wr.heap.size = gv := ⟨_, rfl⟩
          rw [hV, hgv]
          have BV : Hid (Below wr.heap.size wr V) := Lib.hid (by rw [← hV]; exact (Below.refl _ _).alloc (Nat.le_refl _) _)
          have KV : Hid (V.heap[gv]? = some (.cells #[.int .u16 t, .slice qa qn qc] 75 (0, 0))) := Lib.hid (by rw [← hV, ← hgv]; exact alloc_blk_new)
          have HGV := lt_of_block KV.out
          clear hV hgv c0 c1
          have e0 : V.cell? ⟨gv, 0, none⟩ = some (.int .u16 t) := cell_blk KV.out
          have e1 : V.cell? ⟨gv, 1, none⟩ = some (.slice qa qn qc) := cell_blk KV.out
          have BW0 := Lib.hid (HB.out.trans (BV.out.mono HB.out.size))
          by_cases h255 : 255 < qn
          · have h255i : (255 : Int) < qn := by omega
            have hno : Hid (¬ okW12 T len Q) := Lib.hid (fun h => by
              have := h.2.2 k hlt
              rw [HQ.out] at this
              simp only at this
              omega)
            go_wp2_with fail
            refine bodyPost_ret (by simp [results, Try.results18, go_sem]; try rfl) rfl ?_
            exact ⟨(KK.out _ BW0.out).2.1, .inr ⟨hno.out, rfl⟩⟩
          · have h255i : ¬ (255 : Int) < qn := by omega
            have HM2 : Hid (∀ i, i < k + 1 → (Q i).n ≤ 255) := Lib.hid (fun i hi => by
              by_cases hik : i < k
              · exact HM.out i hik
              · obtain rfl : i = k := by omega
                rw [HQ.out]; show qn ≤ 255; omega)
            go_wp2_with fail
            clear e0 e1
            have HO1 := Lib.hid (HO.out.keep BV.out)
            have hne : Nonempty { w' : World // Below V.heap.size V w' } := ⟨⟨V, Below.refl _ _⟩⟩
            have e0 : ∀ y : { w' : World // Below V.heap.size V w' }, y.1.cell? ⟨gv, 0, none⟩ = some (.int .u16 t) := fun y => Below.cell' y.2 HGV (cell_blk KV.out)
            have e1 : ∀ y : { w' : World // Below V.heap.size V w' }, y.1.cell? ⟨gv, 1, none⟩ = some (.slice qa qn qc) := fun y => Below.cell' y.2 HGV (cell_blk KV.out)
            have D0 : Hid (Below V.heap.size V V.drew) := Lib.hid (Below.refl _ _).drew
            have HP1 := Lib.hid (put_bl b m bc (bodQ Q k) 2 t V.drew (HO1.out.keep D0.out) (by omega) (by omega) (by omega) qt0 (by omega))
            have wt : IntKind.u64.wrap t = t := by rw [IntKind.wrap_u64]; omega
            have wq : IntKind.u64.wrap (qn : Int) = (qn : Int) := by rw [IntKind.wrap_u64]; omega
            refine MixC.wp_region_mix [4, 9] (Below V.heap.size V) D0.out (by kernel_rfl) (by kernel_rfl) (by kernel_rfl) ?_
            (iterate 4 (refine MixC.mix_read rfl (fun K hK => ?_); go_simp; refine hK _ ?_; clear hK K))
            refine MixC.mix_move rfl (fun K hK => ?_)
            go_simp
            try rw [wt]
            refine HP1.out.mono ?_
            rintro e V1 ⟨b1, bc1, rfl, o1, l1, bl1⟩
            have HL1 := Lib.hid l1
            have HB1 : Hid (Below V.heap.size V V1) := Lib.hid (D0.out.trans bl1)
            clear o1 l1 bl1 HP1
            have HP2 := Lib.hid (put_bl b1 (m + 2) bc1 _ 2 (qn : Int) V1 HL1.out (by omega) (by omega) (by omega) (by omega) (by omega))
            refine ⟨_, rfl, HB1.out, hK _ _ ?_⟩
            clear hK K
            (iterate 4 (refine MixC.mix_read rfl (fun K hK => ?_); go_simp; refine hK _ ?_; clear hK K))
            refine MixC.mix_move rfl (fun K hK => ?_)
            go_simp
            try rw [wq]
            refine HP2.out.mono ?_
            rintro e V2 ⟨b2, bc2, rfl, o2, l2, bl2⟩
            have HO2 := Lib.hid o2
            have HB2 : Hid (Below V.heap.size V V2) := Lib.hid (HB1.out.trans (bl2.mono HB1.out.size))
            have HS2 : Hid (V1.heap.size ≤ V2.heap.size) := Lib.hid bl2.size
            clear o2 l2 bl2 HP2
            refine ⟨_, rfl, HB2.out, hK _ _ ?_⟩
            clear hK K
            (refine MixC.mix_read rfl (fun K hK => ?_); go_simp; refine hK _ ?_; clear hK K)
            refine MixC.mix_nil ?_
            change Exit.then _ _ _ _ V2
            clear e0 e1 hne
            have e1 : V2.cell? ⟨gv, 1, none⟩ = some (.slice qa qn qc) := cell_blk (Below.blk HB2.out KV.out HGV)
            have BW2 := Lib.hid (BW0.out.trans (HB2.out.mono BW0.out.size))
            have hz2 := (((OK.out.keep BV.out).mono BV.out.size).keep HB2.out).z
            simp only at hz2
            obtain ⟨a3, c3, V3, A3, B3⟩ := appS elU8 HO2.out qa qn qc (u8s (zs qZ qn)) hz2.nils (by rw [u8s_len, zs_len, Nat.mul_one]) hz2.news' (u8s_one _) (by omega) (by omega) HS2.out
            have hoct : Oct (bodQ Q k ++ putL t 2 ++ putL qn 2 ++ zs qZ qn) := ((HO.out.oct.app (putL_oct _ _)).app (putL_oct _ _)).app (zs_oct hz2)
            have o3 := A3.own
            rw [← u8s_app] at o3
            have hl3 := BL.own' o3 hoct (by omega)
            have hf3 := fill_bl a3 (m + 2 + 2 + qn) c3 _ V3 hl3 (by omega)
            rw [fil_enc (bodQ Q k) (zs qZ qn) t qn (zs_len _ _).symm (bodQ_4 Q k), show bodQ Q k ++ encA t (zs qZ qn) = bodQ Q (k + 1) by rw [bodQ_succ, HQ.out]] at hf3
            have HF3 := Lib.hid hf3
            have HA3 := Lib.hid A3.run
            have BW3 : Hid (Below W0.heap.size W0 V3) := Lib.hid (BW2.out.trans (B3.mono (by have := HB1.out.size; have := BW0.out.size; omega)))
            clear A3 B3 hoct o3 hl3 hf3 hz2
            go_wp2_with (at_builtin; refine wpList_of_append rfl (.tmp 38) (.tmp 40) 22 rfl _ _ _ rfl rfl HA3.out ?_)
            refine HF3.out.mono ?_
            rintro e V4 ⟨b4, bc4, rfl, l4, bl4⟩
            have HL4 := Lib.hid l4
            have BW4 := Lib.hid (BW3.out.trans (bl4.mono BW3.out.size))
            have hp4 := padN_4 (m + 2 + 2 + qn)
            obtain ⟨m4, hm4⟩ : ∃ m4, m + 2 + 2 + qn + padN (m + 2 + 2 + qn) 4 = m4 := ⟨_, rfl⟩
            rw [hm4] at HL4 ⊢
            have hm5 : m4 ≤ (k + 1) * 300 := by omega
            clear l4 bl4 hm4 hp4 HF3 e1
            go_wp2_with fail
            go_roundw
            case rel => exact ⟨k + 1, m4, b4, bc4, by omega, hm5, by go_num, rfl, HM2, BW4, HL4⟩
            case measure => simp [intOf] <;> omega
        · obtain rfl : len = k := by omega
          clear hlt
          obtain ⟨body, hbody⟩ : ∃ body, bodQ Q len = body := ⟨_, rfl⟩
          rw [hbody] at HO
          have c0 : wr.cell? ⟨g, 0, none⟩ = some (.int .u16 T) := cell_blk (KK.out _ HB.out).1
          have HP1 := Lib.hid (put_bl none 0 0 [] 2 T wr (BL.nil _) (by omega) (by omega) (by omega) t0 (by omega))
          go_wp2_with fail
          refine HP1.out.mono ?_
          rintro e V1 ⟨b1, bc1, rfl, o1, l1, bl1⟩
          have HL1 := Lib.hid l1
          have B1 := Lib.hid bl1
          have HP2 := Lib.hid (put_bl b1 (0 + 2) bc1 _ 2 (m : Int) V1 HL1.out (by omega) (by omega) (by omega) (by omega) (by omega))
          clear o1 l1 bl1 HP1 c0
          go_wp2_with fail
          refine HP2.out.mono ?_
          rintro e V2 ⟨b2, bc2, rfl, o2, l2, bl2⟩
          have HL2 := Lib.hid l2
          have B2 := Lib.hid (B1.out.trans (bl2.mono B1.out.size))
          have HP3 := Lib.hid (put_bl b2 (0 + 2 + 2) bc2 _ 4 magicI V2 HL2.out (by omega) (by omega) (by omega) (by decide) (by decide))
          clear o2 l2 bl2 HP2
          go_wp2_with fail
          refine HP3.out.mono ?_
          rintro e V3 ⟨b3, bc3, rfl, o3, l3, bl3⟩
          have HL3 := Lib.hid l3
          have B3 := Lib.hid (B2.out.trans (bl3.mono B2.out.size))
          clear o3 l3 bl3 HP3
          go_wp2_with fail
          obtain ⟨W, hW⟩ : ∃ W, V3.alloc (.cells #[.slice b3 8 bc3, .slice (some ⟨g, 1, none⟩) 12 12, .slice b m bc] 22) = W := ⟨_, rfl⟩
          obtain ⟨h, hh⟩ : ∃ h, V3.heap.size = h := ⟨_, rfl⟩
          rw [hW, hh]
          have bW : Below V3.heap.size V3 W := by rw [← hW]; exact (Below.refl _ _).alloc (Nat.le_refl _) _
          have kW : W.heap[h]? = some (.cells #[.slice b3 8 bc3, .slice (some ⟨g, 1, none⟩) 12 12, .slice b m bc] 22 (0, 0)) := by rw [← hW, ← hh]; exact alloc_blk_new
          have BWW := Lib.hid (HB.out.trans ((B3.out.trans (bW.mono B3.out.size)).mono HB.out.size))
          have l3 : BL W b3 8 bc3 ([] ++ putL T 2 ++ putL (m : Int) 2 ++ putL magicI 4) := HL3.out.keep bW
          have lb : BL W b m bc body := (HO.out.keep (B3.out)).keep bW
          have lx : BS W.heap.size W (some ⟨g, 1, none⟩) 12 12 x := by
            have kg := (KK.out _ BWW.out).1
            refine ⟨Nat.le_refl _, by omega, HX.out, g, 1, fun _ => ⟨rfl, lt_of_block kg⟩, fun i hi => ?_⟩
            rw [cell_blk kg]
            rcases (by omega : i = 0 ∨ i = 1 ∨ i = 2 ∨ i = 3 ∨ i = 4 ∨ i = 5 ∨ i = 6 ∨ i = 7 ∨ i = 8 ∨ i = 9 ∨ i = 10 ∨ i = 11) with rfl | rfl | rfl | rfl | rfl | rfl | rfl | rfl | rfl | rfl | rfl | rfl <;> rfl
          obtain ⟨S, hS⟩ : ∃ S, sl3 ⟨b3, 8, bc3, gz ([] ++ putL T 2 ++ putL (m : Int) 2 ++ putL magicI 4)⟩ ⟨some ⟨g, 1, none⟩, 12, 12, x⟩ ⟨b, m, bc, gz body⟩ = S := ⟨_, rfl⟩
          have hsls : Sls W.heap.size W (some ⟨h, 0, none⟩) 3 3 S := by
            rw [← hS]
            refine ⟨Nat.le_refl _, by omega, fun i hi => ?_, h, 0, fun _ => ⟨rfl, lt_of_block kW⟩, fun i hi => ?_⟩
            · rcases (by omega : i = 0 ∨ i = 1 ∨ i = 2) with rfl | rfl | rfl
              · exact l3.bs
              · exact lx
              · exact lb.bs
            · rw [cell_blk kW]
              rcases (by omega : i = 0 ∨ i = 1 ∨ i = 2) with rfl | rfl | rfl <;> rfl
          have hcat : cats S 3 = wrM T (zs x 12) (cons Q len) := by
            rw [← hS, cats3]
            unfold Sl.l
            simp only
            rw [zs_ext _ 8 (head_eq T m), zs_ext body m lb.len.symm]
            unfold wrM headW
            rw [show bodA (cons Q len) = body from hbody, ← lb.len]
            simp only [List.append_assoc, List.nil_append]
          have hlen : (wrM T (zs x 12) (cons Q len)).length = 20 + m := by
            unfold wrM
            rw [List.length_append, headW_len _ _ _ (zs_len _ _), show bodA (cons Q len) = body from hbody, ← lb.len]
          have hcc := concat_sl W.heap.size (some ⟨h, 0, none⟩) 3 3 S W hsls (Nat.le_refl _) (by omega) (by rw [hcat, hlen]; omega) (by rw [hcat, hlen]; omega)
          rw [hcat] at hcc
          have hoctw : Oct (wrM T (zs x 12) (cons Q len)) := by
            unfold wrM headW
            exact ((((putL_oct _ _).app (putL_oct _ _)).app (putL_oct _ _)).app (zs_oct lx)).app (by rw [show bodA (cons Q len) = body from hbody]; exact lb.oct)
          have HOCT := Lib.hid hoctw
          have HLEN := Lib.hid hlen
          have HOK : Hid (okW12 T len Q) := Lib.hid ⟨by omega, by omega, HM.out⟩
          have HCC := Lib.hid hcc
          clear hW hh bW kW l3 lb lx hS hsls hcat hlen hcc hoctw hbody
          refine HCC.out.mono ?_
          rintro e W2 ⟨a2, c2, rfl, o2, b2'⟩
          have HB2 := Lib.hid (BWW.out.trans (b2'.mono BWW.out.size))
          have HL9 := Lib.hid (BL.own' o2 HOCT.out (by rw [HLEN.out]; omega))
          clear o2 b2' HCC
          go_wp2_with fail
          refine bodyPost_ret (by simp [results, Try.results18, go_sem]; try rfl) rfl ?_
          exact ⟨(KK.out _ HB2.out).2.1, .inl ⟨HOK.out, _, _, _, rfl, HL9.out⟩⟩
end Go.Proofs.Ytkoplofcjbeicaa
