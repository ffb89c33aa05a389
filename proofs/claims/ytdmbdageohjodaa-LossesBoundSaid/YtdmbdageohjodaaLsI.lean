/-
  Chapter 20: the iterator over those that are due.
-/
import Derived.Test.YtdmbdageohjodaaLsH
import Derived.Test.YtdmbdageohjodaaRangeF
import Derived.Deep.Onto
namespace Go.Proofs.Ytdmbdageohjodaa
open Go.RowKit
set_option linter.unusedVariables false
set_option linter.unusedSimpArgs false
attribute [local irreducible] wpStill wpQuiet MixC.wpMix MixC.wpPick MixC.wpPickT
attribute [local go_sem] MixC.rdOp MixC.rd MixC.rdUpon MixC.mvUpon

theorem own_block {w : World} {b1 : Nat} {e1 : TypeId} {s1 n1 : Nat} {v1 : Value} {xs1 : List Value} (h1 : w.ownsRow b1 e1 s1 v1 n1 xs1) : ∀ g, v1.ownBlock = some g → ∃ cs mm, w.heap[g]? = some (.cells cs e1 mm) := fun g hg => by
  rcases h1.2 with ⟨hv, _⟩ | ⟨x, _, cs, hv, _, hx, _⟩
  · rw [hv] at hg; cases hg
  · rw [hv] at hg; cases hg; exact ⟨_, _, hx⟩
structure DuE where
  x : Nat × Mis
  a : Option Addr
  n : Nat
  c : Nat
def DuE.enc (e : DuE) : Array Value := #[ptr e.x.1, .slice e.a e.n e.c]
def xsOf (l : List DuE) : List (Nat × Mis) := l.map (·.x)
theorem xsOf_app (l m : List DuE) : xsOf (l ++ m) = xsOf l ++ xsOf m := List.map_append ..
/-- what an element is, handed over -/
def DuG (tick : Int) (M : List (Nat × Mis)) (pre : List DuE) (e : DuE) (W0 W1 : World) : Prop :=
  (∃ j, ∃ hj : j < M.length, xsOf pre = dueL tick (M.take j) ∧ M[j]'hj = e.x ∧ isDue tick e.x = true) ∧ e.n = (lossL (seqsOf (xsOf pre ++ [e.x]))).length ∧ W1.ownsRow W0.heap.size 35 2 (.slice e.a e.n e.c) e.n (lossV (lossL (seqsOf (xsOf pre ++ [e.x]))))
/-- what a round keeps: all cells but those of the one handed over, and of slices of losses -/
def DuK (pre : List DuE) (e : DuE) (W W' : World) : Prop := W.heap.size ≤ W'.heap.size ∧ ∀ (k : Nat) cs T m, W.heap[k]? = some (.cells cs T m) → k ≠ e.x.1 → T ≠ 31 → W'.heap[k]? = some (.cells cs T m)
def fTs : List TypeId := [33]
def u16s (L : List Int) : List Value := L.map fun x => .int .u16 x
theorem infoU16 : (Try.prog.info? 33).map (fun i => (i.zero, i.size, i.bytes)) = some (some (.int .u16 0), 1, 2) := by kernel_rfl
theorem elU16 : ElemT Try.prog 51 33 1 2 := ElemT.mk' Try.underlying51 infoU16 rfl (by decide)
def gz (L : List Int) (i : Nat) : Int := L.getD i 0
theorem zs_gz (L : List Int) : zs (gz L) L.length = L := by
  apply List.ext_getElem?
  intro i
  unfold zs gz
  rw [List.getElem?_map]
  by_cases h : i < L.length
  · rw [List.getElem?_range h, List.getElem?_eq_getElem h]; simp [h]
  · rw [List.getElem?_eq_none (by simpa using h), List.getElem?_eq_none (by omega)]; rfl
theorem seqs_bd (D : List (Nat × Mis)) (i : Nat) : 0 ≤ gz (seqsOf D) i ∧ gz (seqsOf D) i ≤ 65535 := by
  unfold gz
  by_cases h : i < (seqsOf D).length
  · simp only [List.getD, List.getElem?_eq_getElem h, Option.getD_some]
    have hm := List.getElem_mem h
    generalize (seqsOf D)[i] = y at hm
    obtain ⟨x, _, rfl⟩ := List.mem_map.1 hm
    unfold seqI; omega
  · simp only [List.getD, List.getElem?_eq_none (by omega : (seqsOf D).length ≤ i), Option.getD_none]; omega
theorem us_own16 {w : World} {base n : Nat} {a : Option Addr} {c : Nat} {D : List (Nat × Mis)} (h : w.ownsRow base 33 1 (.slice a n c) n (u16s (seqsOf D))) : n = (seqsOf D).length ∧ US w.heap.size w a n (gz (seqsOf D)) := by
  have hl : n = (seqsOf D).length := by have := h.1; unfold u16s at this; rw [List.length_map] at this; omega
  refine ⟨hl, fun i _ => seqs_bd D i, ?_⟩
  rcases h.2 with ⟨hv, h0⟩ | ⟨g, cap, cur, hv, hg, hh, hn, _⟩
  · exact ⟨0, 0, fun h => by omega, fun i hi => by omega⟩
  · injection hv with e1 e2 e3
    subst e1
    refine ⟨g, 0, fun _ => ⟨rfl, lt_of_block hh⟩, fun i hi => ?_⟩
    rw [Nat.zero_add]
    refine own_cell h ?_
    unfold u16s gz
    rw [List.getElem?_map, List.getElem?_eq_getElem (by omega)]
    simp [show i < (seqsOf D).length by omega]
set_option maxHeartbeats 1000000 in
theorem seq20_any (i : Int) (w : World) (h0 : -9223372036854775808 ≤ i) (h1 : i ≤ 9223372036854775807) : Calls Try.prog 99 #[.int .i64 i] w fun e w' => e = .returned (.int .u16 (seqI i)) ∧ w = w' := by
  have e : IntKind.u16.wrap i = seqI i := by rw [IntKind.wrap_u16]; rfl
  obtain ⟨y, hy⟩ : ∃ y, seqI i = y := ⟨_, rfl⟩
  rw [hy] at e ⊢
  go_enter Try.func99, Try.ntmps99
  go_wp2_with fail
  go_ret
  exact ⟨rfl, rfl⟩
/-- the iterator, between two rounds -/
structure DuI (tick : Int) (M : List (Nat × Mis)) (a : Option Addr) (c tb : Nat) (j : Nat) (pre : List DuE) (va : Option Addr) (n vc bs : Nat) (wr : World) : Prop where
  sz : bs ≤ wr.heap.size
  row : PR wr 124 a M.length c (ptrs M)
  tk : wr.heap[tb]? = some (.cells #[.int .i64 tick] 2 (0, 0))
  ms : ∀ t (ht : t < M.length), j ≤ t → wr.heap[(M[t]'ht).1]? = some (misO (M[t]'ht).2)
  own : wr.ownsRow bs 33 1 (.slice va n vc) n (u16s (seqsOf (xsOf pre)))
  ds : xsOf pre = dueL tick (M.take j)
theorem DuI.keep {tick : Int} {M : List (Nat × Mis)} {a : Option Addr} {c tb : Nat} {j : Nat} {pre : List DuE} {va : Option Addr} {n vc bs : Nat} {wr w' : World} (h : DuI tick M a c tb j pre va n vc bs wr) (hb : Below wr.heap.size wr w') : DuI tick M a c tb j pre va n vc bs w' :=
  ⟨Nat.le_trans h.sz hb.size, h.row.keep hb, Below.blk hb h.tk (lt_of_block h.tk), fun t ht hj => Below.blk hb (h.ms t ht hj) (lt_of_block (h.ms t ht hj)), own_below h.own hb, h.ds⟩
/-- it goes on behind one that isn't due -/
theorem DuI.skip {tick : Int} {M : List (Nat × Mis)} {a : Option Addr} {c tb : Nat} {j : Nat} {pre : List DuE} {va : Option Addr} {n vc bs : Nat} {wr : World} (h : DuI tick M a c tb j pre va n vc bs wr) (hj : j < M.length) (hd : isDue tick (M[j]'hj) = false) : DuI tick M a c tb (j + 1) pre va n vc bs wr :=
  ⟨h.sz, h.row, h.tk, fun t ht hjt => h.ms t ht (by omega), h.own, by rw [due_succ hj, if_neg (by rw [hd]; decide), List.append_nil]; exact h.ds⟩
/-- .. behind one that was handed over -/
theorem DuI.next {tick : Int} {M : List (Nat × Mis)} {a : Option Addr} {c tb : Nat} {j : Nat} {pre : List DuE} {va v2 : Option Addr} {n vc n2 c2 bs : Nat} {wr V W' : World} {e : DuE} (h : DuI tick M a c tb j pre va n vc bs wr) (hT : Ty fTs wr V) (hnd : (M.map (·.1)).Nodup) (hj : j < M.length) (he : M[j]'hj = e.x) (hd : isDue tick e.x = true)
    (ho : V.ownsRow bs 33 1 (.slice v2 n2 c2) n2 (u16s (seqsOf (xsOf pre ++ [e.x])))) (hk : DuK pre e V W') (hx : ∃ m, V.heap[e.x.1]? = some (misO m)) : DuI tick M a c tb (j + 1) (pre ++ [e]) v2 n2 c2 bs W' := by
  obtain ⟨hk1, hk2⟩ := hk
  obtain ⟨mx, hx⟩ := hx
  have ne : ∀ (k : Nat) cs T m, V.heap[k]? = some (.cells cs T m) → T ≠ 126 → k ≠ e.x.1 := fun k cs T m h1 h2 h3 => by
    rw [h3, hx] at h1
    injection h1 with h1
    injection h1 with _ h1
    exact h2 h1.symm
  have htk := hT.blk h.tk (by decide)
  refine ⟨Nat.le_trans h.sz (Nat.le_trans hT.size hk1), ?_, hk2 _ _ _ _ htk (ne _ _ _ _ htk (by decide)) (by decide), fun t ht hjt => ?_, ?_, by rw [xsOf_app, due_succ hj, if_pos (by rw [he]; exact hd), h.ds, he]; rfl⟩
  · obtain ⟨e1, e2, e3, e4⟩ := h.row
    refine ⟨e1, e2, e3, e4.imp id ?_⟩
    rintro ⟨b, off, cs, rfl, e5, e6, e7⟩
    have e5' := hT.blk e5 (by decide)
    exact ⟨b, off, cs, rfl, hk2 _ _ _ _ e5' (ne _ _ _ _ e5' (by decide)) (by decide), e6, e7⟩
  · have h1 := hT.blk (h.ms t ht (by omega)) (by decide)
    refine hk2 _ _ _ _ h1 (fun e2 => ?_) (by decide)
    rw [← he] at e2
    have h3 : (M.map (·.1))[t]'(by simp; omega) = (M.map (·.1))[j]'(by simp; omega) := by simp [e2]
    have := (List.getElem_inj hnd).1 h3
    omega
  · rw [xsOf_app]
    obtain ⟨h1, h2⟩ := ho
    refine ⟨h1, ?_⟩
    rcases h2 with h2 | ⟨g, cap, cur, hv, hg, hh, r'⟩
    · exact .inl h2
    · exact .inr ⟨g, cap, cur, hv, hg, hk2 _ _ _ _ hh (ne _ _ _ _ hh (by decide)) (by decide), r'⟩
theorem Ty.keepsO {ts : List TypeId} {A B : World} (h : Ty ts A B) (k : Nat) (o : Obj) (ho : o.isCells = false) (hk : A.heap[k]? = some o) : B.heap[k]? = some o := h.block k o hk (fun cs T m e => by subst e; cases ho)
set_option maxRecDepth 100000 in
set_option maxHeartbeats 8000000 in
theorem due_seq (g kb tb : Nat) (pause high tick : Int) (M : List (Nat × Mis)) (a : Option Addr) (c : Nat) (B : Nat) (w0 : World) (h : KS B g pause high M a c w0) (hk : w0.heap[kb]? = some (.cells #[.pointer (some ⟨g, 0, none⟩)] 24 (0, 0))) (ht : w0.heap[tb]? = some (.cells #[.int .i64 tick] 2 (0, 0))) (hM : M.length ≤ 1000) (hMi : ∀ x ∈ M, -9223372036854775808 ≤ x.2.i ∧ x.2.i ≤ 9223372036854775807) :
    SeqF Try.prog 98 #[.pointer (some ⟨kb, 0, none⟩), .pointer (some ⟨tb, 0, none⟩)] DuE.enc (fun A B => Ty fTs A B ∧ Below w0.heap.size A B) (DuG tick M) (fun xs => xsOf xs = dueL tick M) (fun _ => True) DuK w0 := by
  intro l J Jx W hW hJ hJx hY h0
  have HJ := Lib.hid hJ
  have HJX := Lib.hid hJx
  have HY := Lib.hid hY
  have HM := Lib.hid hMi
  have HK := h.keep hW
  have x0 : W.cell? ⟨kb, 0, none⟩ = some (.pointer (some ⟨g, 0, none⟩)) := cell_blk (Below.blk hW hk (lt_of_block hk))
  have x1 : W.cell? ⟨g, 2, none⟩ = some (.slice a M.length c) := cell_blk HK.blk
  have hcl := HK.row.le
  have hcm := HK.row.max
  have S0 : Hid (DuI tick M a c tb 0 [] none 0 0 w0.heap.size W) := Lib.hid ⟨hW.size, HK.row, Below.blk hW ht (lt_of_block ht), fun t ht _ => HK.ms _ (List.getElem_mem ht), World.ownsRow_nil _ _ _ _, rfl⟩
  have HND := Lib.hid HK.nd
  obtain ⟨N, hN⟩ : ∃ N, M.length = N := ⟨_, rfl⟩
  have HN := Lib.hid hN
  rw [hN] at x1 hM hcl
  clear h hk ht hJ hJx hY hW HK hN hMi
  refine callsIn_wide.2 ?_
  show Calls Try.prog 98 #[.func (.yield l) #[] #[], .pointer (some ⟨kb, 0, none⟩), .pointer (some ⟨tb, 0, none⟩)] W _
  go_enter Try.func98, Try.ntmps98
  go_wp2_with fail
  clear x0 x1
  go_loopw [4, 12] (fun s4 s12 wr => ∃ (j n : Nat) (pre : List DuE) (va : Option Addr) (vc : Nat), j ≤ N ∧ n ≤ j ∧ s12 = .int .i64 j ∧ s4 = .slice va n vc ∧ J pre wr ∧ Hid (DuI tick M a c tb j pre va n vc w0.heap.size wr)) (fun _ s12 _ => N - (intOf s12).toNat)
  case atStart => exact ⟨0, 0, [], none, 0, by omega, by omega, rfl, rfl, h0, S0⟩
  case round =>
    obtain ⟨j, n, pre, va, vc, hj, hnj, rfl, rfl, hJp, HS⟩ := hrel
    have HJP := Lib.hid hJp
    clear hJp
    by_cases hlt : j < N
    · have hjM : j < M.length := by rw [HN.out]; exact hlt
      obtain ⟨b, off, rfl, hb, hc⟩ := HS.out.row.cell (by omega)
      have cz := hc j _ (ptrs_get hjM)
      have hms := HS.out.ms j hjM (Nat.le_refl _)
      have hib := HM.out _ (List.getElem_mem hjM)
      obtain ⟨x, hx⟩ : ∃ x, M[j]'hjM = x := ⟨_, rfl⟩
      rw [hx] at cz hms hib
      have HX := Lib.hid hx
      obtain ⟨xb, xi, xt, xn⟩ := x
      simp only [ptr] at cz
      simp only at hms hib
      have hki : (j : Int) < N := by omega
      have lx := lt_of_block hms
      have HMS := Lib.hid hms
      have hne : Nonempty { w' : World // Below wr.heap.size wr w' } := ⟨⟨_, Below.refl _ _⟩⟩
      have o2 : ∀ z : { w' : World // Below wr.heap.size wr w' }, z.1.cell? ⟨xb, 2, none⟩ = some (.int .i64 xn) := fun z => cell_blk (Below.blk z.2 HMS.out lx)
      have o3 : ∀ z : { w' : World // Below wr.heap.size wr w' }, z.1.cell? ⟨tb, 0, none⟩ = some (.int .i64 tick) := fun z => cell_blk (Below.blk z.2 HS.out.tk (lt_of_block HS.out.tk))
      clear hc hx hms
      by_cases hd : tick < xn
      · have d1 : decide (tick < xn) = true := by simpa using hd
        have S2 : Hid (DuI tick M (some ⟨b, off, none⟩) c tb (j + 1) pre va n vc w0.heap.size wr.drew) := Lib.hid ((HS.out.skip hjM (by rw [HX.out]; simp [isDue, hd])).keep (Below.refl _ _).drew)
        have J2 : Hid (J pre wr.drew) := Lib.hid (HJ.out _ _ _ HJP.out ⟨Ty.below (Below.refl _ _).drew, (Below.refl _ _).drew⟩)
        clear hd
        go_wp2_with fail
        refine MixC.wp_region_mix [] (Below wr.heap.size wr) (Below.refl _ _).drew (by kernel_rfl) (by kernel_rfl) (by kernel_rfl) ?_
        (iterate 6 (refine MixC.mix_read rfl (fun K hK => ?_); go_simp; refine hK _ ?_; clear hK K))
        refine MixC.mix_nil ?_
        clear o2 o3 hne cz
        go_wp2_with fail
        go_roundw
        case rel => exact ⟨j + 1, n, pre, va, vc, by omega, by omega, by go_num, rfl, J2.out, S2⟩
        case measure => simp [intOf] <;> omega
      · have d1 : decide (tick < xn) = false := by simpa using hd
        have HDU : Hid (isDue tick (xb, ⟨xi, xt, xn⟩) = true) := Lib.hid (by simp [isDue, hd])
        obtain ⟨a9, c9, V2, A9, B9⟩ := app1 elU16 (own_below HS.out.own (Below.refl _ wr).drew) [.int .u16 (seqI xi)] rfl (one_cell rfl) (by omega) (by omega) HS.out.sz
        have B2 : Hid (Below w0.heap.size wr V2) := Lib.hid ((Below.refl _ wr).drew.trans B9)
        have T2 : Hid (Ty fTs wr V2) := Lib.hid ((Ty.below (Below.refl _ wr).drew).trans (Ty.but A9.but (fun k hk => own_block (own_below HS.out.own (Below.refl _ wr).drew) k hk) (by decide)))
        have O2 : Hid (V2.ownsRow w0.heap.size 33 1 (.slice a9 (n + 1) c9) (n + 1) (u16s (seqsOf (xsOf pre ++ [(xb, ⟨xi, xt, xn⟩)])))) := Lib.hid (by unfold seqsOf u16s; rw [List.map_append, List.map_append]; exact A9.own)
        have HA := Lib.hid A9.run
        obtain ⟨ul, us⟩ := us_own16 O2.out
        have HL := loss_any V2.heap.size a9 (n + 1) c9 _ V2 us (Nat.le_refl _) (by omega)
        rw [ul, zs_gz] at HL
        rw [← ul] at HL
        have HLL := Lib.hid HL
        have HSQ := Lib.hid (seq20_any xi wr.drew hib.1 hib.2)
        have x5 : wr.cell? ⟨xb, 0, none⟩ = some (.int .i64 xi) := cell_blk HMS.out
        have hsz2 : Hid (wr.heap.size ≤ V2.heap.size) := Lib.hid T2.out.size
        clear A9 B9 us ul HL hd
        go_wp2_with fail
        refine MixC.wp_region_mix [] (Below wr.heap.size wr) (Below.refl _ _).drew (by kernel_rfl) (by kernel_rfl) (by kernel_rfl) ?_
        (iterate 6 (refine MixC.mix_read rfl (fun K hK => ?_); go_simp; refine hK _ ?_; clear hK K))
        refine MixC.mix_nil ?_
        clear o2 o3 hne cz
        go_wp2_with fail
        refine HSQ.out.mono ?_
        rintro e w' ⟨rfl, rfl⟩
        go_upto_region 6 with (at_builtin; refine wpList_of_append rfl (.tmp 22) (.tmp 28) 51 rfl _ _ _ rfl rfl HA.out ?_)
        clear x5
        refine (wpIn_wide (n := 0)).1 ?_
        refine wpIn_region_lit ?_
        gi_wp2_with fail
        refine ⟨trivial, rfl, callsIn_wide.2 (HLL.out.mono ?_)⟩
        rintro e V3 ⟨a3, c3, rfl, o3, b3⟩
        obtain ⟨m3, hm3⟩ : ∃ m3, (lossL (seqsOf (xsOf pre ++ [(xb, (⟨xi, xt, xn⟩ : Mis))]))).length = m3 := ⟨_, rfl⟩
        have hg : DuG tick M pre ⟨(xb, ⟨xi, xt, xn⟩), a3, m3, c3⟩ wr V3 := ⟨⟨j, hjM, HS.out.ds, HX.out, HDU.out⟩, hm3.symm, by rw [← hm3]; exact World.ownsRow.mono o3 hsz2.out⟩
        rw [hm3]
        have T3 : Ty fTs wr V3 := T2.out.trans (Ty.below b3)
        obtain ⟨fn, tmps, assign, body, hy, hR⟩ := HY.out pre ⟨(xb, ⟨xi, xt, xn⟩), a3, m3, c3⟩ wr V3 HJP.out ⟨T3, B2.out.trans (b3.mono (Nat.le_trans HS.out.sz B2.out.size))⟩ hg
        simp only [DuE.enc, ptr] at hy
        have HR := Lib.hid hR
        have HT3 := Lib.hid T3
        have B3 := Lib.hid b3
        have HG := Lib.hid hg
        clear hR o3 b3 hm3 hg T3
        gi_wp2_with fail
        refine ⟨rfl, HR.out.mono ?_⟩
        have O3 := Lib.hid (own_below O2.out B3.out)
        have X3 : Hid (∃ m, V3.heap[xb]? = some (misO m)) := Lib.hid ⟨_, HT3.out.blk HMS.out (by decide)⟩
        clear hy
        rintro e W' (⟨rfl, hJ', hk⟩ | ⟨rfl, hJx'⟩)
        · have S3 : Hid (DuI tick M (some ⟨b, off, none⟩) c tb (j + 1) (pre ++ [⟨(xb, ⟨xi, xt, xn⟩), a3, m3, c3⟩]) a9 (n + 1) c9 w0.heap.size W') := Lib.hid (HS.out.next HT3.out HND.out hjM HX.out HDU.out O3.out hk X3.out)
          have HJ2 := Lib.hid hJ'
          clear hJ' hk
          gi_wp2_with fail
          go_wp2_with fail
          refine ⟨⟨j + 1, n + 1, _, a9, c9, by omega, by omega, by go_num, rfl, HJ2.out, S3⟩, by simp [intOf]; omega⟩
        · gi_wp2_with fail
          go_wp2_with fail
          refine bodyPost_ret (results_none rfl _ _ _) rfl ?_
          exact ⟨⟨_, rfl⟩, .inr ⟨_, trivial, hJx'⟩⟩
    · obtain rfl : N = j := by omega
      clear hlt
      have hds : Hid (xsOf pre = dueL tick M) := Lib.hid (by have := HS.out.ds; rw [← HN.out, List.take_length] at this; exact this)
      go_wp2_with fail
      go_end0
      exact ⟨⟨_, rfl⟩, .inl ⟨pre, hds.out, HJP.out⟩⟩
end Go.Proofs.Ytdmbdageohjodaa
