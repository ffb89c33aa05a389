/-
  Chapter 36: the reference's Put.
-/
import Derived.Test.YtdmbdageohjodaaKpP
namespace Go.Proofs.Ytdmbdageohjodaa
open Go.RowKit
set_option linter.unusedVariables false
set_option linter.unusedSimpArgs false
attribute [local irreducible] wpStill wpQuiet
attribute [local go_sem] MixC.rdOp MixC.rd MixC.rdUpon MixC.mvUpon

theorem infoU32 : (Try.prog.info? 44).map (fun i => (i.zero, i.size, i.bytes)) = some (some (.int .u32 0), 1, 4) := by kernel_rfl
theorem infoSlU8 : (Try.prog.info? 56).map (fun i => (i.zero, i.size, i.bytes)) = some (some (.slice none 0 0), 1, 24) := by kernel_rfl
theorem elU32 : ElemT Try.prog 94 44 1 4 := ElemT.mk' (z := .int .u32 0) Try.underlying94 infoU32 rfl (by decide)
theorem elU8 : ElemT Try.prog 56 5 1 1 := ElemT.mk' (z := .int .u8 0) Try.underlying56 infoU8 rfl (by decide)
theorem elSl : ElemT Try.prog 98 56 1 24 := ElemT.mk' (z := .slice none 0 0) Try.underlying98 infoSlU8 rfl (by decide)

/-- one field of all payloads -/
def rowL (f : Kep → Value) (E : Nat → Kep) (m : Nat) : List Value := (List.range m).map fun i => f (E i)
theorem rowL_add (f : Kep → Value) (E : Nat → Kep) (m : Nat) (k : Kep) : rowL f (addE E m k) (m + 1) = rowL f E m ++ [f k] := by
  unfold rowL
  rw [List.range_succ, List.map_append]
  congr 1
  · exact List.map_congr_left fun i hi => by unfold addE; rw [if_neg (by have := List.mem_range.1 hi; omega)]
  · simp [addE]
theorem rowL_get (f : Kep → Value) (E : Nat → Kep) (m i : Nat) (h : i < m) : (rowL f E m)[i]? = some (f (E i)) := by
  unfold rowL
  rw [List.getElem?_map, List.getElem?_range h]
  rfl
theorem rowL_len (f : Kep → Value) (E : Nat → Kep) (m : Nat) : (rowL f E m).length = m := by simp [rowL]
def fS (k : Kep) : Value := .int .u32 k.s
def fT (k : Kep) : Value := .int .u8 k.t
def fD (k : Kep) : Value := .slice k.a k.n k.c
/-- the reference's keeper -/
structure RKp (E : Nat → Kep) (m : Nat) (dep : Int) (base gr : Nat) (vs vt vd : Value) (wr : World) : Prop where
  blk : wr.heap[gr]? = some (.cells #[.int .i64 dep, vs, vt, vd] 100 (0, 0))
  rs : wr.ownsRow base 44 1 vs m (rowL fS E m)
  rt : wr.ownsRow base 5 1 vt m (rowL fT E m)
  rd : wr.ownsRow base 56 1 vd m (rowL fD E m)
  gb : base ≤ gr
  dat : ∀ i, i < m → wr.ownsRow base 5 1 (.slice (E i).a (E i).n (E i).c) (E i).n (bytesOf (E i).Z (E i).n) ∧ Apart vt (.slice (E i).a (E i).n (E i).c)
  wf : ∀ i, i < m → (0 ≤ (E i).t ∧ (E i).t ≤ 127) ∧ (0 ≤ (E i).s ∧ (E i).s ≤ 4294967295) ∧ (E i).n ≤ 1500 ∧ ∀ x, x < (E i).n → 0 ≤ (E i).Z x ∧ (E i).Z x ≤ 255
theorem RKp.keep {E : Nat → Kep} {m : Nat} {dep : Int} {base gr : Nat} {vs vt vd : Value} {wr w' : World} (h : RKp E m dep base gr vs vt vd wr) (hb : Below wr.heap.size wr w') : RKp E m dep base gr vs vt vd w' :=
  ⟨Below.blk hb h.blk (lt_of_block h.blk), own_below h.rs hb, own_below h.rt hb, own_below h.rd hb, h.gb, fun i hi => ⟨own_below (h.dat i hi).1 hb, (h.dat i hi).2⟩, h.wf⟩
/-- a block of elements of type T -/
def OfT (T : TypeId) (r : Option Nat) (w : World) : Prop := ∀ g, r = some g → ∃ cs mm, w.heap[g]? = some (.cells cs T mm)
theorem own_butT {w w' : World} {r : Option Nat} {T : TypeId} (hT : OfT T r w) (hb : But r w w') {b1 : Nat} {e1 : TypeId} {s1 n1 : Nat} {v1 : Value} {xs1 : List Value} (h : w.ownsRow b1 e1 s1 v1 n1 xs1) (hne : e1 ≠ T) : w'.ownsRow b1 e1 s1 v1 n1 xs1 :=
  own_but h hb fun k hk e => by
    obtain ⟨cs, mm, h1⟩ := hT k e
    obtain ⟨cs', mm', h2⟩ := own_block h k hk
    rw [h1] at h2
    injection h2 with h2
    injection h2 with _ h2
    exact hne h2.symm
theorem blk_butT {w w' : World} {r : Option Nat} {T : TypeId} (hT : OfT T r w) (hb : But r w w') {k : Nat} {cs : Array Value} {e1 : TypeId} {mm : Nat × Nat} (h : w.heap[k]? = some (.cells cs e1 mm)) (hne : e1 ≠ T) : r ≠ some k ∧ w'.heap[k]? = some (.cells cs e1 mm) := by
  have hr : r ≠ some k := fun e => by
    obtain ⟨cs', mm', h1⟩ := hT k e
    rw [h] at h1
    injection h1 with h1
    injection h1 with _ h2
    exact hne h2
  exact ⟨hr, hb.blk h hr⟩
theorem own_setT {w : World} {b i : Nat} {cs : Array Value} {T : TypeId} {mm : Nat × Nat} (u : Value) (hblk : w.heap[b]? = some (.cells cs T mm)) {b1 : Nat} {e1 : TypeId} {s1 n1 : Nat} {v1 : Value} {xs1 : List Value} (h : w.ownsRow b1 e1 s1 v1 n1 xs1) (hne : e1 ≠ T) : (w.setCell ⟨b, i, none⟩ u).ownsRow b1 e1 s1 v1 n1 xs1 :=
  own_blk1y h fun q hq => set_blk_other _ (by
    show q ≠ b
    intro e
    subst e
    obtain ⟨cs', mm', h2⟩ := own_block h q hq
    rw [hblk] at h2
    injection h2 with h2
    injection h2 with _ h2
    exact hne h2.symm)
theorem But.cell {r : Option Nat} {w w' : World} {b i : Nat} {v : Value} (h : But r w w') (hc : w.cell? ⟨b, i, none⟩ = some v) (hr : r ≠ some b) : w'.cell? ⟨b, i, none⟩ = some v := by
  rw [World.cell?_of_block (w := w) (h.block b (World.block_lt_of_cell? _ _ hc) hr)]; exact hc
theorem But.rf (r : Option Nat) (w : World) : But r w w := ⟨rfl, rfl, rfl, Nat.le_refl _, fun _ _ _ => rfl⟩
theorem But.tr {r : Option Nat} {u v w : World} (h : But r u v) (k : But r v w) : But r u w :=
  ⟨k.os.trans h.os, k.tape.trans h.tape, k.output.trans h.output, Nat.le_trans h.size k.size, fun i hi hne => (k.block i (Nat.lt_of_lt_of_le hi h.size) hne).trans (h.block i hi hne)⟩
theorem But.al {r : Option Nat} {u w : World} (h : But r u w) (o : Obj) : But r u (w.alloc o) := h.behind ((Below.refl _ _).alloc (Nat.le_refl _) _)
def RPPost (E : Nat → Kep) (m : Nat) (dep : Int) (base gr : Nat) (vs vt vd : Value) (st t : Int) (a : Option Addr) (n c : Nat) (Z : Nat → Int) (w : World) (e : Ending) (w' : World) : Prop :=
  (∃ vs' vt' vd' a1 c1, RKp (addE E m ⟨st, t, a1, n, c1, Z⟩) (m + 1) dep base gr vs' vt' vd' w' ∧ (∀ g, vt'.ownBlock = some g → vt.ownBlock = some g ∨ w.heap.size ≤ g)) ∧
  ((wok (fun i => (putQ E m (clampN dep) st ⟨t, 0, a, n, c, Z⟩).getD i default) (putQ E m (clampN dep) st ⟨t, 0, a, n, c, Z⟩).length ∧ ∃ a5 N c5, e = .returned (.tuple #[.slice a5 N c5, .bool true]) ∧ N = (wrL (fun i => (putQ E m (clampN dep) st ⟨t, 0, a, n, c, Z⟩).getD i default) (putQ E m (clampN dep) st ⟨t, 0, a, n, c, Z⟩).length).length ∧
    w'.ownsRow w.heap.size 5 1 (.slice a5 N c5) N (u8s (wrL (fun i => (putQ E m (clampN dep) st ⟨t, 0, a, n, c, Z⟩).getD i default) (putQ E m (clampN dep) st ⟨t, 0, a, n, c, Z⟩).length))) ∨
   (¬ wok (fun i => (putQ E m (clampN dep) st ⟨t, 0, a, n, c, Z⟩).getD i default) (putQ E m (clampN dep) st ⟨t, 0, a, n, c, Z⟩).length ∧ e = .returned (.tuple #[.slice none 0 0, .bool false]))) ∧
  (w'.os = w.os ∧ w'.tape = w.tape ∧ w'.output = w.output ∧ w.heap.size ≤ w'.heap.size ∧ ∀ q, q < w.heap.size → q ≠ gr → vs.ownBlock ≠ some q → vt.ownBlock ≠ some q → vd.ownBlock ≠ some q → w'.heap[q]? = w.heap[q]?)
theorem RKp.but {E : Nat → Kep} {m : Nat} {dep : Int} {base gr : Nat} {vs vt vd : Value} {wr w' : World} {r : Option Nat} (h : RKp E m dep base gr vs vt vd wr) (hT : OfT 110 r wr) (hb : But r wr w') : RKp E m dep base gr vs vt vd w' :=
  ⟨(blk_butT hT hb h.blk (by decide)).2, own_butT hT hb h.rs (by decide), own_butT hT hb h.rt (by decide), own_butT hT hb h.rd (by decide), h.gb, fun i hi => ⟨own_butT hT hb (h.dat i hi).1 (by decide), (h.dat i hi).2⟩, h.wf⟩
/-- the blocks that a Put writes may be written -/
theorem putQ_ok {E : Nat → Kep} {m d : Nat} {st : Int} {t : Int} {B base : Nat} {a : Option Addr} {n c : Nat} {Z : Nat → Int} {W : World} (dat : ∀ i, m - min m d ≤ i → i < m → W.ownsRow base 5 1 (.slice (E i).a (E i).n (E i).c) (E i).n (bytesOf (E i).Z (E i).n))
    (wf : ∀ i, m - min m d ≤ i → i < m → (0 ≤ (E i).t ∧ (E i).t ≤ 127) ∧ (0 ≤ (E i).s ∧ (E i).s ≤ 4294967295) ∧ (E i).n ≤ 1500 ∧ ∀ x, x < (E i).n → 0 ≤ (E i).Z x ∧ (E i).Z x ≤ 255) (hb : BS B W a n c Z) (hB : B ≤ W.heap.size) (t0 : 0 ≤ t) (t1 : t < 128) (hn : n ≤ 1500) :
    ∀ b ∈ putQ E m d st ⟨t, 0, a, n, c, Z⟩, BlkOk W.heap.size W b ∧ b.n ≤ 1500 := by
  intro b hb'
  unfold putQ at hb'
  rcases List.mem_append.1 hb' with hb' | hb'
  · obtain ⟨i, hi, rfl⟩ := selQ_mem hb'
    obtain ⟨⟨w0, w1'⟩, _, w3, w4⟩ := wf (m - min m d + i) (by omega) (by omega)
    have o := dat (m - min m d + i) (by omega) (by omega)
    have fb := far32_bd (E (m - min m d + i)).s st
    obtain ⟨a', c', he, hs⟩ := BS.of_owns o w4 (by omega)
    have he' : a' = (E (m - min m d + i)).a ∧ c' = (E (m - min m d + i)).c := by injection he with q1 q2 q3; exact ⟨q1.symm, q3.symm⟩
    rw [he'.1, he'.2] at hs
    exact ⟨⟨w0, by show (E (m - min m d + i)).t ≤ 255; omega, by show _ ≤ far32 _ _; omega, by show far32 _ _ ≤ _; omega, hs⟩, w3⟩
  · simp at hb'
    subst hb'
    exact ⟨⟨t0, by show t ≤ 255; omega, by show (-9223372036854775808 : Int) ≤ 0; omega, by show (0 : Int) ≤ 9223372036854775807; omega, hb.mono hB⟩, hn⟩
set_option maxRecDepth 100000 in
set_option maxHeartbeats 4000000 in
theorem rput36_bad (gr : Nat) (st t : Int) (a : Option Addr) (n c : Nat) (w : World) (ht : 128 ≤ t) :
    Calls Try.prog 53 #[.pointer (some ⟨gr, 0, none⟩), .int .u32 st, .int .u8 t, .slice a n c] w fun e w' => e = .returned (.tuple #[.slice none 0 0, .bool false]) ∧ w = w' := by
  have h : decide (127 < t) = true := by simp; omega
  go_enter Try.func53, Try.ntmps53
  go_wp2_with fail
  go_ret2
  exact ⟨rfl, rfl⟩
set_option maxRecDepth 100000 in
set_option maxHeartbeats 8000000 in
theorem rput36_any (E : Nat → Kep) (m : Nat) (dep : Int) (base gr : Nat) (vs vt vd : Value) (st t : Int) (B : Nat) (a : Option Addr) (n c : Nat) (Z : Nat → Int) (w : World) (hR : RKp E m dep base gr vs vt vd w) (hb : BS B w a n c Z) (hB : B ≤ base) (hm : m ≤ 100) (hn : n ≤ 1500) (t0 : 0 ≤ t) (t1 : t < 128) (s0 : 0 ≤ st) (s1 : st ≤ 4294967295) (hbw : base ≤ w.heap.size) :
    Calls Try.prog 53 #[.pointer (some ⟨gr, 0, none⟩), .int .u32 st, .int .u8 t, .slice a n c] w (RPPost E m dep base gr vs vt vd st t a n c Z w) := by
  have ht : decide (127 < t) = false := by simp; omega
  obtain ⟨d, hd⟩ : ∃ d, d = clampN dep := ⟨_, rfl⟩
  have hd8 : d ≤ 8 := by rw [hd]; exact clampN_le _
  obtain ⟨lo, hlo⟩ : ∃ lo, lo = m - min m d := ⟨_, rfl⟩
  obtain ⟨vsa, vsc, hv⟩ := own_len hR.rs
  subst hv
  obtain ⟨vta, vtc, hv⟩ := own_len hR.rt
  subst hv
  obtain ⟨vda, vdc, hv⟩ := own_len hR.rd
  subst hv
  have HR := Lib.hid hR
  have HD := Lib.hid hd
  have HLO := Lib.hid hlo
  have HBS := Lib.hid hb
  have hgr := lt_of_block hR.blk
  have k0 : w.cell? ⟨gr, 0, none⟩ = some (.int .i64 dep) := cell_blk hR.blk
  clear hR hlo hb
  go_enter Try.func53, Try.ntmps53
  go_upto_if 23 with (fail)
  go_cut [10] (fun s10 wx => s10 = .int .i64 (max dep 0) ∧ w = wx)
  case first =>
    by_cases h : dep < 0
    · have h1 : decide (dep < 0) = true := by simpa using h
      have hc : Hid (max dep 0 = 0) := Lib.hid (by omega)
      clear hd
      go_wp2_with fail
      go_meet
      exact ⟨by rw [hc.out], rfl⟩
    · have h1 : decide (dep < 0) = false := by simpa using h
      have hc : Hid (max dep 0 = dep) := Lib.hid (by omega)
      clear hd
      go_wp2_with fail
      go_meet
      exact ⟨by rw [hc.out], rfl⟩
  case rest =>
  obtain ⟨rfl, rfl⟩ := hcut
  obtain ⟨dx, hdx⟩ : ∃ dx, max dep 0 = dx := ⟨_, rfl⟩
  rw [hdx]
  have hdd : Hid (d = (min dx 8).toNat) := Lib.hid (by rw [hd]; unfold clampN; rw [hdx])
  have hd0 : 0 ≤ dx := by omega
  clear hdx hd
  go_upto_if 25 with (fail)
  go_cut [10] (fun s10 wx => s10 = .int .i64 d ∧ w = wx)
  case first =>
    by_cases h : 8 < dx
    · have h1 : decide (8 < dx) = true := by simpa using h
      have hc : Hid (d = 8) := Lib.hid (by have := hdd.out; omega)
      go_wp2_with fail
      go_meet
      exact ⟨by rw [hc.out]; rfl, rfl⟩
    · have h1 : decide (8 < dx) = false := by simpa using h
      have hc : Hid ((d : Int) = dx) := Lib.hid (by have := hdd.out; omega)
      go_wp2_with fail
      go_meet
      exact ⟨by rw [hc.out], rfl⟩
  case rest =>
    obtain ⟨rfl, rfl⟩ := hcut
    clear k0
    have ltw := hgr
    go_wp2_with fail
    go_loopw [11, 12] (fun s11 s12 wr => ∃ k : Nat, k ≤ m ∧ s12 = .int .i64 k ∧ Hid (PLp E st lo (k - lo) w s11 wr)) (fun _ s12 _ => m - (intOf s12).toNat)
    case atStart => exact ⟨0, by omega, rfl, Lib.hid ⟨Below.refl _ _, by rw [Nat.zero_sub]; exact World.ownsRow_nil _ _ _ _⟩⟩
    case round =>
      obtain ⟨k, hk, rfl, HS⟩ := hrel
      obtain ⟨v11a, v11c, h11⟩ := own_len HS.out.row
      subst h11
      have GR : Hid (wr.heap[gr]? = some (.cells #[.int .i64 dep, .slice vsa m vsc, .slice vta m vtc, .slice vda m vdc] 100 (0, 0))) := Lib.hid (by
        have := HR.out.blk
        rw [HS.out.bl.block gr hgr]
        exact this)
      have c3 : wr.cell? ⟨gr, 3, none⟩ = some (.slice vda m vdc) := cell_blk GR.out
      by_cases hlt : k < m
      · have hki : (k : Int) < m := by omega
        by_cases hsk : k < lo
        · have d1 : decide ((k : Int) < (m : Int) - d) = true := by have := HLO.out; simp; omega
          have H1 : Hid (k + 1 - lo = 0 ∧ k - lo = 0) := Lib.hid (by omega)
          clear hsk
          go_wp2_with fail
          go_roundw
          case rel => exact ⟨k + 1, by omega, by go_num, Lib.hid (by rw [H1.out.1, H1.out.2]; have := HS.out; rw [H1.out.2] at this; exact this)⟩
          case measure => simp [intOf] <;> omega
        · have d1 : decide ((k : Int) < (m : Int) - d) = false := by have := HLO.out; simp; omega
          obtain ⟨j, hj⟩ : ∃ j, j = k - lo := ⟨_, rfl⟩
          have H1 : Hid (k + 1 - lo = j + 1 ∧ k - lo = j) := Lib.hid (by omega)
          have hjk : Hid (lo + j = k) := Lib.hid (by omega)
          clear hsk hj
          obtain ⟨gs, es1, e1⟩ : ∃ g, vsa = some ⟨g, 0, none⟩ ∧ g < w.heap.size := by
            obtain ⟨m', rfl⟩ : ∃ m', m = m' + 1 := ⟨m - 1, by omega⟩
            obtain ⟨g, _, hv, _, h2, _⟩ := own_some HR.out.rs
            exact ⟨g, by injection hv, h2⟩
          obtain ⟨gt, et1, e2⟩ : ∃ g, vta = some ⟨g, 0, none⟩ ∧ g < w.heap.size := by
            obtain ⟨m', rfl⟩ : ∃ m', m = m' + 1 := ⟨m - 1, by omega⟩
            obtain ⟨g, _, hv, _, h2, _⟩ := own_some HR.out.rt
            exact ⟨g, by injection hv, h2⟩
          obtain ⟨gd, ed1, e3⟩ : ∃ g, vda = some ⟨g, 0, none⟩ ∧ g < w.heap.size := by
            obtain ⟨m', rfl⟩ : ∃ m', m = m' + 1 := ⟨m - 1, by omega⟩
            obtain ⟨g, _, hv, _, h2, _⟩ := own_some HR.out.rd
            exact ⟨g, by injection hv, h2⟩
          subst es1 et1 ed1
          have cs1 : wr.cell? ⟨gs, k, none⟩ = some (fS (E k)) := Below.cell' HS.out.bl e1 (own_cell HR.out.rs (rowL_get _ _ _ _ hlt))
          have ct1 : wr.cell? ⟨gt, k, none⟩ = some (fT (E k)) := Below.cell' HS.out.bl e2 (own_cell HR.out.rt (rowL_get _ _ _ _ hlt))
          have cd1 : wr.cell? ⟨gd, k, none⟩ = some (fD (E k)) := Below.cell' HS.out.bl e3 (own_cell HR.out.rd (rowL_get _ _ _ _ hlt))
          have c1 : wr.cell? ⟨gr, 1, none⟩ = some (.slice (some ⟨gs, 0, none⟩) m vsc) := cell_blk GR.out
          have hsq : selQ E st lo (j + 1) = selQ E st lo j ++ (if selB st (E k) then [(E k).blk st] else []) := by rw [← hjk.out]; rfl
          have hsl := selQ_len E st lo j
          have hwf := HR.out.wf k hlt
          obtain ⟨q, hq⟩ : ∃ q, E k = q := ⟨_, rfl⟩
          rw [hq] at cs1 ct1 cd1 hsq hwf
          have HSQ := Lib.hid hsq
          clear hsq hq
          obtain ⟨es, et, ea, en, ec, eZ⟩ := q
          simp only [fS, fT, fD] at cs1 ct1 cd1
          simp only at hwf
          obtain ⟨-, ⟨s0', s1'⟩, -, -⟩ := hwf
          have C2 : Hid (wr.cell? ⟨gr, 2, none⟩ = some (.slice (some ⟨gt, 0, none⟩) m vtc)) := Lib.hid (cell_blk GR.out)
          have CT := Lib.hid ct1
          have hj8 : j ≤ 8 := by have := HLO.out; have := hjk.out; omega
          clear ct1 e1 e2 e3
          go_wp2_with fail
          refine (rgone_any es st wr s0' s1' s0 s1).mono ?_
          rintro e w' ⟨rfl, rfl⟩
          have hbd := far32_bd es st
          obtain ⟨f, hf⟩ : ∃ f, far32 es st = f := ⟨_, rfl⟩
          have HF := Lib.hid hf
          rw [hf] at hbd
          rw [hf]
          clear hf
          obtain ⟨fb0, fb1⟩ := hbd
          have hsel : selB st ⟨es, et, ea, en, ec, eZ⟩ = (decide (0 < f) && decide (f ≤ 16383) && decide (en ≤ 1023)) := by unfold selB; simp only; rw [HF.out]
          by_cases hyes : 0 < f ∧ f ≤ 16383 ∧ en ≤ 1023
          · obtain ⟨y1, y2, y3⟩ := hyes
            have d1 : decide (0 < f) = true := by simpa using y1
            have d2 : decide (f ≤ 16383) = true := by simpa using y2
            have d3 : decide ((en : Int) ≤ 1023) = true := by simp; omega
            have HSEL : Hid (selQ E st lo (j + 1) = selQ E st lo j ++ [⟨et, f, ea, en, ec, eZ⟩]) := Lib.hid (by
              rw [HSQ.out, hsel, if_pos (by simp; omega)]; simp only [Kep.blk, HF.out])
            have hS := HS.out.row
            rw [H1.out.2] at hS
            have hT : OfT 110 (Value.slice v11a (selQ E st lo j).length v11c).ownBlock wr := own_block hS
            obtain ⟨x6, y6, W3, A6, B6⟩ := app1 (V := wr.drew) elBlk hS [.int .u8 et, .int .i64 f, .slice ea en ec] rfl (by simp [Value.oneCell']) (by omega) (by omega) HS.out.bl.size
            obtain ⟨r6, -⟩ := blk_butT hT (But.rf _ wr) GR.out (by decide)
            have rt6 : (Value.slice v11a (selQ E st lo j).length v11c).ownBlock ≠ some gt := fun e => by
              have h1 := (hS.lt gt e).1
              have h2 := (HR.out.rt.lt gt rfl).2
              omega
            have rd6 : (Value.slice v11a (selQ E st lo j).length v11c).ownBlock ≠ some gd := fun e => by
              have h1 := (hS.lt gd e).1
              have h2 := (HR.out.rd.lt gd rfl).2
              omega
            have HA := Lib.hid A6
            have B3 : Hid (Below w.heap.size w W3) := Lib.hid (HS.out.bl.trans ((Below.refl _ wr).drew.trans B6))
            have C0 : Hid (But (Value.slice v11a (selQ E st lo j).length v11c).ownBlock wr wr.drew) := Lib.hid ⟨rfl, rfl, rfl, Nat.le_refl _, fun _ _ _ => rfl⟩
            have C1 : Hid (But (Value.slice v11a (selQ E st lo j).length v11c).ownBlock wr (wr.drew.alloc (.cells #[.int .u8 et, .int .i64 f, .slice ea en ec] 110))) := Lib.hid (C0.out.al _)
            have C3 : Hid (But (Value.slice v11a (selQ E st lo j).length v11c).ownBlock wr W3) := Lib.hid (C0.out.tr A6.but)
            have hne : Nonempty { w' : World // But (Value.slice v11a (selQ E st lo j).length v11c).ownBlock wr w' } := ⟨⟨_, C0.out⟩⟩
            have o2 : ∀ z : { w' : World // But (Value.slice v11a (selQ E st lo j).length v11c).ownBlock wr w' }, z.1.cell? ⟨gr, 2, none⟩ = some (.slice (some ⟨gt, 0, none⟩) m vtc) := fun z => z.2.cell C2.out r6
            have o3 : ∀ z : { w' : World // But (Value.slice v11a (selQ E st lo j).length v11c).ownBlock wr w' }, z.1.cell? ⟨gr, 3, none⟩ = some (.slice (some ⟨gd, 0, none⟩) m vdc) := fun z => z.2.cell c3 r6
            have ot : ∀ z : { w' : World // But (Value.slice v11a (selQ E st lo j).length v11c).ownBlock wr w' }, z.1.cell? ⟨gt, k, none⟩ = some (.int .u8 et) := fun z => z.2.cell CT.out rt6
            have od : ∀ z : { w' : World // But (Value.slice v11a (selQ E st lo j).length v11c).ownBlock wr w' }, z.1.cell? ⟨gd, k, none⟩ = some (.slice ea en ec) := fun z => z.2.cell cd1 rd6
            clear A6 B6 hsel hS hT r6 rt6 rd6
            rw [H1.out.2]
            go_wp2_with fail
            refine MixC.wp_region_mix [17, 18] (But (Value.slice v11a (selQ E st lo j).length v11c).ownBlock wr) C0.out (by kernel_rfl) (by kernel_rfl) (by kernel_rfl) ?_
            iterate 17 (refine MixC.mix_read rfl (fun K hK => ?_); go_simp; refine hK _ ?_; clear hK K)
            (refine MixC.mix_move rfl (fun K hK => ?_); go_simp; refine ⟨C1.out, hK _ _ ?_⟩; clear hK K)
            refine MixC.mix_move rfl (fun K hK => ?_)
            refine Eq.mpr (if_pos rfl) ?_
            refine mv_app (s := .tmp 70) (x := .tmp 87) (t := 105) rfl rfl rfl HA.out.run C3.out (hK _ _ ?_)
            clear hK K
            iterate 1 (refine MixC.mix_read rfl (fun K hK => ?_); go_simp; refine hK _ ?_; clear hK K)
            refine MixC.mix_nil ?_
            clear o2 o3 ot od hne
            go_wp2_with fail
            go_roundw
            case rel => exact ⟨k + 1, by omega, by go_num, Lib.hid ⟨B3.out, by rw [H1.out.1, HSEL.out, bcL_app, List.length_append]; exact HA.out.own⟩⟩
            case measure => simp [intOf] <;> omega
          · have HSEL : Hid (selQ E st lo (j + 1) = selQ E st lo j) := Lib.hid (by
              rw [HSQ.out, hsel, if_neg (by simp; omega), List.append_nil])
            have HREL : Hid (PLp E st lo (k + 1 - lo) w (.slice v11a (selQ E st lo (k - lo)).length v11c) wr) := Lib.hid ⟨HS.out.bl, by rw [H1.out.1, HSEL.out, ← H1.out.2]; exact HS.out.row⟩
            clear hsel
            rcases (by omega : ¬ 0 < f ∨ (0 < f ∧ ¬ f ≤ 16383) ∨ (0 < f ∧ f ≤ 16383 ∧ ¬ en ≤ 1023)) with h | ⟨h, h'⟩ | ⟨h, h', h''⟩
            · have d1 : decide (0 < f) = false := by simp; omega
              clear hyes
              go_wp2_with fail
              go_roundw
              case rel => exact ⟨k + 1, by omega, by go_num, HREL⟩
              case measure => simp [intOf] <;> omega
            · have d1 : decide (0 < f) = true := by simp; omega
              have d2 : decide (f ≤ 16383) = false := by simp; omega
              clear hyes
              go_wp2_with fail
              go_roundw
              case rel => exact ⟨k + 1, by omega, by go_num, HREL⟩
              case measure => simp [intOf] <;> omega
            · have d1 : decide (0 < f) = true := by simp; omega
              have d2 : decide (f ≤ 16383) = true := by simp; omega
              have d3 : decide ((en : Int) ≤ 1023) = false := by simp; omega
              clear hyes
              go_wp2_with fail
              go_roundw
              case rel => exact ⟨k + 1, by omega, by go_num, HREL⟩
              case measure => simp [intOf] <;> omega
      · have : k = m := by omega
        subst this
        clear hlt
        have hq0 : k - lo = min k d := by have := HLO.out; omega
        have hsl := selQ_len E st lo (k - lo)
        have hln : (selQ E st lo (k - lo)).length ≤ 8 := by omega
        have hpq : putQ E k d st ⟨t, 0, a, n, c, Z⟩ = selQ E st lo (k - lo) ++ [⟨t, 0, a, n, c, Z⟩] := by
          have e2 := HLO.out
          unfold putQ
          rw [← e2, ← hq0]
        obtain ⟨nl, hnl⟩ : ∃ nl, (selQ E st lo (k - lo)).length = nl := ⟨_, rfl⟩
        rw [hnl] at hln
        have HNL := Lib.hid hnl
        have HPQ := Lib.hid hpq
        have hrow := HS.out.row
        rw [hnl] at hrow
        have HROW := Lib.hid hrow
        have bl := HS.out.bl
        have RR : Hid (RKp E k dep base gr (.slice vsa k vsc) (.slice vta k vtc) (.slice vda k vdc) wr) := Lib.hid (HR.out.keep bl)
        have BL := Lib.hid bl
        have hbsz : base ≤ wr.heap.size := Nat.le_trans hbw bl.size
        rw [hnl]
        clear hnl hpq hq0 hsl hrow bl HS GR
        -- stamps
        obtain ⟨x1, y1, W1, A1, B1⟩ := app1 (V := wr) elU32 RR.out.rs [fS ⟨st, t, a, n, c, Z⟩] rfl (by simp [Value.oneCell', fS]) (by omega) (by omega) hbsz
        have T1 : OfT 44 (Value.slice vsa k vsc).ownBlock wr := own_block RR.out.rs
        have g1 := (blk_butT T1 A1.but RR.out.blk (by decide)).2
        have rs1 := A1.own
        have rt1 := own_butT T1 A1.but RR.out.rt (by decide)
        have rd1 := own_butT T1 A1.but RR.out.rd (by decide)
        have dat1 := fun i (hi : i < k) => own_butT T1 A1.but (RR.out.dat i hi).1 (by decide)
        have l1 := own_butT T1 A1.but HROW.out (by decide)
        have c1 : wr.cell? ⟨gr, 1, none⟩ = some (.slice vsa k vsc) := cell_blk RR.out.blk
        have d1 : W1.cell? ⟨gr, 1, none⟩ = some (.slice vsa k vsc) := cell_blk g1
        have f1 : W1.frozen? ⟨gr, 1, none⟩ = false := free_blk g1
        have G1 := Lib.hid g1
        have RS1 := Lib.hid rs1
        have RT1 := Lib.hid rt1
        have RD1 := Lib.hid rd1
        have DAT1 := Lib.hid dat1
        have L1 := Lib.hid l1
        have HA1 := Lib.hid A1
        have HB1 := Lib.hid B1
        clear T1 g1 rs1 rt1 rd1 dat1 l1 A1 B1
        go_upto_region 17 with (at_builtin; refine wpList_of_append rfl (.tmp 93) (.tmp 95) 94 rfl _ _ _ rfl rfl HA1.out.run ?_)
        clear c1 d1 f1
        generalize hW2 : World.setCell W1 _ _ = W2
        have z12 : W1.heap.size = W2.heap.size := by rw [← hW2]; simp only [World.setCell, Array.size_modify]
        have g2 : W2.heap[gr]? = some (.cells #[.int .i64 dep, .slice x1 (k + 1) y1, .slice vta k vtc, .slice vda k vdc] 100 (0, 0)) := by rw [← hW2, set_blk _ G1.out]; rfl
        have rs2 : W2.ownsRow base 44 1 (.slice x1 (k + 1) y1) (k + 1) (rowL fS E k ++ [fS ⟨st, t, a, n, c, Z⟩]) := by rw [← hW2]; exact own_setT _ G1.out RS1.out (by decide)
        have rt2 : W2.ownsRow base 5 1 (.slice vta k vtc) k (rowL fT E k) := by rw [← hW2]; exact own_setT _ G1.out RT1.out (by decide)
        have rd2 : W2.ownsRow base 56 1 (.slice vda k vdc) k (rowL fD E k) := by rw [← hW2]; exact own_setT _ G1.out RD1.out (by decide)
        have dat2 : ∀ i, i < k → W2.ownsRow base 5 1 (.slice (E i).a (E i).n (E i).c) (E i).n (bytesOf (E i).Z (E i).n) := fun i hi => by rw [← hW2]; exact own_setT _ G1.out (DAT1.out i hi) (by decide)
        have l2 : W2.ownsRow w.heap.size 110 3 (.slice v11a nl v11c) nl (bcL (selQ E st lo (k - lo))) := by rw [← hW2]; exact own_setT _ G1.out L1.out (by decide)
        have b2 : Below base wr W2 := by rw [← hW2]; exact Below.setCell HB1.out (by show base ≤ gr; exact RR.out.gb) _
        have hF2 : ∀ q, q < wr.heap.size → q ≠ gr → (Value.slice vsa k vsc).ownBlock ≠ some q → W2.heap[q]? = wr.heap[q]? := fun q h1 h2 h3 => by rw [← hW2, set_blk_other _ (by show q ≠ gr; exact h2), HA1.out.but.block q h1 h3]
        have sz2 : base ≤ W2.heap.size := Nat.le_trans hbsz b2.size
        have FR2 := Lib.hid hF2
        clear hW2
        -- types
        obtain ⟨x2, y2, W3, A2, B2⟩ := app1 (V := W2) elU8 rt2 [fT ⟨st, t, a, n, c, Z⟩] rfl (by simp [Value.oneCell', fT]) (by omega) (by omega) sz2
        have T2 : OfT 5 (Value.slice vta k vtc).ownBlock W2 := own_block rt2
        have g3 := (blk_butT T2 A2.but g2 (by decide)).2
        have rs3 := own_butT T2 A2.but rs2 (by decide)
        have rd3 := own_butT T2 A2.but rd2 (by decide)
        have dat3 := fun i (hi : i < k) => own_but (dat2 i hi) A2.but (fun q hq e => (RR.out.dat i hi).2 q e hq)
        have l3 := own_butT T2 A2.but l2 (by decide)
        have c2 : W2.cell? ⟨gr, 2, none⟩ = some (.slice vta k vtc) := cell_blk g2
        have d2 : W3.cell? ⟨gr, 2, none⟩ = some (.slice vta k vtc) := cell_blk g3
        have f2 : W3.frozen? ⟨gr, 2, none⟩ = false := free_blk g3
        have G3 := Lib.hid g3
        have RS3 := Lib.hid rs3
        have RD3 := Lib.hid rd3
        have DAT3 := Lib.hid dat3
        have L3 := Lib.hid l3
        have HA2 := Lib.hid A2
        have HB2 := Lib.hid B2
        have BB2 := Lib.hid b2
        have LT2 := Lib.hid rt2.lt
        clear T2 g2 g3 rs2 rs3 rt2 rd2 rd3 dat2 dat3 l2 l3 A2 B2 hF2 b2
        go_upto_region 18 with (at_builtin; refine wpList_of_append rfl (.tmp 103) (.tmp 105) 56 rfl _ _ _ rfl rfl HA2.out.run ?_)
        clear c2 d2 f2
        generalize hW4 : World.setCell W3 _ _ = W4
        have g4 : W4.heap[gr]? = some (.cells #[.int .i64 dep, .slice x1 (k + 1) y1, .slice x2 (k + 1) y2, .slice vda k vdc] 100 (0, 0)) := by rw [← hW4, set_blk _ G3.out]; rfl
        have rs4 : W4.ownsRow base 44 1 (.slice x1 (k + 1) y1) (k + 1) (rowL fS E k ++ [fS ⟨st, t, a, n, c, Z⟩]) := by rw [← hW4]; exact own_setT _ G3.out RS3.out (by decide)
        have rt4 : W4.ownsRow base 5 1 (.slice x2 (k + 1) y2) (k + 1) (rowL fT E k ++ [fT ⟨st, t, a, n, c, Z⟩]) := by rw [← hW4]; exact own_setT _ G3.out HA2.out.own (by decide)
        have rd4 : W4.ownsRow base 56 1 (.slice vda k vdc) k (rowL fD E k) := by rw [← hW4]; exact own_setT _ G3.out RD3.out (by decide)
        have dat4 : ∀ i, i < k → W4.ownsRow base 5 1 (.slice (E i).a (E i).n (E i).c) (E i).n (bytesOf (E i).Z (E i).n) := fun i hi => by rw [← hW4]; exact own_setT _ G3.out (DAT3.out i hi) (by decide)
        have l4 : W4.ownsRow w.heap.size 110 3 (.slice v11a nl v11c) nl (bcL (selQ E st lo (k - lo))) := by rw [← hW4]; exact own_setT _ G3.out L3.out (by decide)
        have b4 : Below base wr W4 := by rw [← hW4]; exact Below.setCell (BB2.out.trans HB2.out) (by show base ≤ gr; exact RR.out.gb) _
        have z34 : W3.heap.size = W4.heap.size := by rw [← hW4]; simp only [World.setCell, Array.size_modify]
        have z24 : W2.heap.size ≤ W4.heap.size := by have := HA2.out.but.size; omega
        have hF4 : ∀ q, q < wr.heap.size → q ≠ gr → (Value.slice vsa k vsc).ownBlock ≠ some q → (Value.slice vta k vtc).ownBlock ≠ some q → W4.heap[q]? = wr.heap[q]? := fun q h1 h2 h3 h4 => by
          rw [← hW4, set_blk_other _ (by show q ≠ gr; exact h2), HA2.out.but.block q (by have := HA1.out.but.size; omega) h4, FR2.out q h1 h2 h3]
        have sz4 : base ≤ W4.heap.size := Nat.le_trans hbsz b4.size
        have FR4 := Lib.hid hF4
        have apn : ∀ g, (Value.slice x2 (k + 1) y2).ownBlock = some g → (Value.slice vta k vtc).ownBlock = some g ∨ wr.heap.size ≤ g := fun g hg => by
          rcases HA2.out.new g hg with h | h
          · exact .inl h
          · exact .inr (by have := HA1.out.but.size; omega)
        have APN := Lib.hid apn
        clear hW4 hF4 apn
        -- data
        have b4d : Below W4.heap.size W4 (W4.drew.alloc (.cells #[] 5)) := (Below.refl _ _).drew.alloc (by show W4.heap.size ≤ W4.heap.size; omega) _
        have src : BS B (W4.drew.alloc (.cells #[] 5)) a n c Z := HBS.out.keep (((BL.out.mono hbw).trans (b4.trans (b4d.mono sz4))).mono hB)
        obtain ⟨a5, c5, W5, A5, B5⟩ := appS (V := W4.drew.alloc (.cells #[] 5)) elU8 (nil_row W4.drew base sz4) a n c (u8s (zs Z n)) src.nils (by rw [u8s_len, zs_len, Nat.mul_one]) src.news' (u8s_one _) (by omega) (by omega) (Nat.le_trans sz4 b4d.size)
        simp only [Nat.zero_add, List.nil_append] at A5
        have b45 : Below W4.heap.size W4 W5 := b4d.trans (A5.but.below b4d.size (fun q e => by cases e; exact Nat.le_refl _))
        obtain ⟨x6, y6, W6, A6, B6⟩ := app1 (V := W5) elSl (own_below rd4 b45) [fD ⟨st, t, a5, n, c5, Z⟩] rfl (by simp [Value.oneCell', fD]) (by omega) (by omega) (Nat.le_trans sz4 b45.size)
        have T6 : OfT 56 (Value.slice vda k vdc).ownBlock W5 := own_block (own_below rd4 b45)
        have g5 := Below.blk b45 g4 (lt_of_block g4)
        obtain ⟨r6, g6⟩ := blk_butT T6 A6.but g5 (by decide)
        have rs6 := own_butT T6 A6.but (own_below rs4 b45) (by decide)
        have rt6 := own_butT T6 A6.but (own_below rt4 b45) (by decide)
        have dat6 := fun i (hi : i < k) => own_butT T6 A6.but (own_below (dat4 i hi) b45) (by decide)
        have new6 := own_butT T6 A6.but A5.own (by decide)
        have l6 := own_butT T6 A6.but (own_below l4 b45) (by decide)
        have o4 : W4.cell? ⟨gr, 3, none⟩ = some (.slice vda k vdc) := cell_blk g4
        have d6 : W6.cell? ⟨gr, 3, none⟩ = some (.slice vda k vdc) := cell_blk g6
        have f6 : W6.frozen? ⟨gr, 3, none⟩ = false := free_blk g6
        have C0 : Hid (But (Value.slice vda k vdc).ownBlock W4 W4.drew) := Lib.hid ⟨rfl, rfl, rfl, Nat.le_refl _, fun _ _ _ => rfl⟩
        have C1 : Hid (But (Value.slice vda k vdc).ownBlock W4 (W4.drew.alloc (.cells #[] 5))) := Lib.hid (But.of_below b4d)
        have C2 : Hid (But (Value.slice vda k vdc).ownBlock W4 W5) := Lib.hid (But.of_below b45)
        have C3 : Hid (But (Value.slice vda k vdc).ownBlock W4 (W5.alloc (.cells #[.slice a5 n c5] 56))) := Lib.hid (C2.out.al _)
        have C4 : Hid (But (Value.slice vda k vdc).ownBlock W4 W6) := Lib.hid (C2.out.tr A6.but)
        have hne : Nonempty { w' : World // But (Value.slice vda k vdc).ownBlock W4 w' } := ⟨⟨_, C0.out⟩⟩
        have o3 : ∀ z : { w' : World // But (Value.slice vda k vdc).ownBlock W4 w' }, z.1.cell? ⟨gr, 3, none⟩ = some (.slice vda k vdc) := fun z => z.2.cell o4 r6
        have G6 := Lib.hid g6
        have RS6 := Lib.hid rs6
        have RT6 := Lib.hid rt6
        have DAT6 := Lib.hid dat6
        have NEW6 := Lib.hid new6
        have L6 := Lib.hid l6
        have HA5 := Lib.hid A5
        have HA6 := Lib.hid A6
        have LT4 := Lib.hid rt4.lt
        have BB4 := Lib.hid b4
        have BB6 : Hid (Below base W4 W6) := Lib.hid ((b45.mono sz4).trans B6)
        have Z46 : W4.heap.size ≤ W6.heap.size := Nat.le_trans b45.size A6.but.size
        have N5 : Hid (∀ g, (Value.slice a5 n c5).ownBlock = some g → W4.heap.size ≤ g) := Lib.hid (fun g hg => by
          rcases A5.new g hg with h | h
          · cases h; exact Nat.le_refl _
          · exact Nat.le_trans b4d.size h)
        clear b4d src A5 B5 b45 A6 B6 T6 g4 g5 g6 r6 rs4 rs6 rt4 rt6 rd4 dat4 dat6 new6 l4 l6 o4 b4
        refine MixC.wp_region_mix_tail 12 [5, 7, 8, 9] (But (Value.slice vda k vdc).ownBlock W4) C0.out (by kernel_rfl) (by kernel_rfl) (by kernel_rfl) ?_
        simp only [List.take_succ_cons, List.take_zero, List.drop_succ_cons, List.drop_zero]
        iterate 5 (refine MixC.mix_read rfl (fun K hK => ?_); go_simp; refine hK _ ?_; clear hK K)
        (refine MixC.mix_move rfl (fun K hK => ?_); go_simp; refine ⟨C1.out, hK _ _ ?_⟩; clear hK K)
        iterate 1 (refine MixC.mix_read rfl (fun K hK => ?_); go_simp; refine hK _ ?_; clear hK K)
        refine MixC.mix_move rfl (fun K hK => ?_)
        refine Eq.mpr (if_pos rfl) ?_
        refine mv_app (s := .tmp 114) (x := .tmp 115) (t := 56) rfl rfl rfl HA5.out.run C2.out (hK _ _ ?_)
        clear hK K
        (refine MixC.mix_move rfl (fun K hK => ?_); go_simp; refine ⟨C3.out, hK _ _ ?_⟩; clear hK K)
        refine MixC.mix_move rfl (fun K hK => ?_)
        refine Eq.mpr (if_pos rfl) ?_
        refine mv_app (s := .tmp 113) (x := .tmp 117) (t := 98) rfl rfl rfl HA6.out.run C4.out (hK _ _ ?_)
        clear hK K
        iterate 2 (refine MixC.mix_read rfl (fun K hK => ?_); go_simp; refine hK _ ?_; clear hK K)
        refine MixC.mix_nil ?_
        clear o3 hne
        go_upto_region 19 with (fail)
        clear d6 f6
        generalize hW7 : World.setCell W6 _ _ = W7
        have g7 : W7.heap[gr]? = some (.cells #[.int .i64 dep, .slice x1 (k + 1) y1, .slice x2 (k + 1) y2, .slice x6 (k + 1) y6] 100 (0, 0)) := by rw [← hW7, set_blk _ G6.out]; rfl
        have z67 : W6.heap.size = W7.heap.size := by rw [← hW7]; simp only [World.setCell, Array.size_modify]
        have new7 : W7.ownsRow base 5 1 (.slice a5 n c5) n (bytesOf Z n) := by
          rw [← hW7, ← zs_u8s]
          exact own_setT _ G6.out NEW6.out (by decide)
        have dat7 : ∀ i, i < k → W7.ownsRow base 5 1 (.slice (E i).a (E i).n (E i).c) (E i).n (bytesOf (E i).Z (E i).n) := fun i hi => by rw [← hW7]; exact own_setT _ G6.out (DAT6.out i hi) (by decide)
        have l7 : W7.ownsRow w.heap.size 110 3 (.slice v11a nl v11c) nl (bcL (selQ E st lo (k - lo))) := by rw [← hW7]; exact own_setT _ G6.out L6.out (by decide)
        have b7 : Below base wr W7 := by rw [← hW7]; exact Below.setCell (BB4.out.trans BB6.out) (by show base ≤ gr; exact RR.out.gb) _
        have K7 : RKp (addE E k ⟨st, t, a5, n, c5, Z⟩) (k + 1) dep base gr (.slice x1 (k + 1) y1) (.slice x2 (k + 1) y2) (.slice x6 (k + 1) y6) W7 := by
          refine ⟨g7, ?_, ?_, ?_, RR.out.gb, fun i hi => ?_, fun i hi => ?_⟩
          · rw [rowL_add, ← hW7]; exact own_setT _ G6.out RS6.out (by decide)
          · rw [rowL_add, ← hW7]; exact own_setT _ G6.out RT6.out (by decide)
          · rw [rowL_add, ← hW7]; exact own_setT _ G6.out HA6.out.own (by decide)
          · by_cases e : i = k
            · subst e
              have ee : addE E i ⟨st, t, a5, n, c5, Z⟩ i = ⟨st, t, a5, n, c5, Z⟩ := by unfold addE; rw [if_pos rfl]
              rw [ee]
              exact ⟨new7, fun g h1 h2 => by have := (LT4.out g h1).2; have := N5.out g h2; omega⟩
            · have ee : addE E k ⟨st, t, a5, n, c5, Z⟩ i = E i := by unfold addE; rw [if_neg e]
              rw [ee]
              refine ⟨dat7 i (by omega), fun g h1 h2 => ?_⟩
              obtain ⟨o, ap⟩ := RR.out.dat i (by omega)
              rcases APN.out g h1 with h3 | h3
              · exact ap g h3 h2
              · have := (o.lt g h2).2; omega
          · by_cases e : i = k
            · subst e
              have ee : addE E i ⟨st, t, a5, n, c5, Z⟩ i = ⟨st, t, a5, n, c5, Z⟩ := by unfold addE; rw [if_pos rfl]
              rw [ee]
              exact ⟨⟨t0, by show t ≤ 127; omega⟩, ⟨s0, s1⟩, hn, HBS.out.bd⟩
            · have ee : addE E k ⟨st, t, a5, n, c5, Z⟩ i = E i := by unfold addE; rw [if_neg e]
              rw [ee]
              exact RR.out.wf i (by omega)
        have hF7 : ∀ q, q < wr.heap.size → q ≠ gr → (Value.slice vsa k vsc).ownBlock ≠ some q → (Value.slice vta k vtc).ownBlock ≠ some q → (Value.slice vda k vdc).ownBlock ≠ some q → W7.heap[q]? = wr.heap[q]? := fun q h1 h2 h3 h4 h5 => by
          rw [← hW7, set_blk_other _ (by show q ≠ gr; exact h2), C4.out.block q (by have := HA1.out.but.size; omega) h5, FR4.out q h1 h2 h3 h4]
        have sz7 : w.heap.size ≤ W7.heap.size := by have := BL.out.size; have := HA1.out.but.size; omega
        have SZ7 : wr.heap.size ≤ W7.heap.size := by have := HA1.out.but.size; omega
        clear hW7
        obtain ⟨x8, y8, W8, A8, B8⟩ := app1 (V := W7) elBlk l7 [.int .u8 t, .int .i64 0, .slice a n c] rfl (by simp [Value.oneCell']) (by omega) (by omega) sz7
        have T8 : OfT 110 (Value.slice v11a nl v11c).ownBlock W7 := own_block l7
        have bb8 : Below base w W8 := (BL.out.mono hbw).trans (b7.trans (B8.mono hbw))
        have hok := putQ_ok (m := k) (d := d) (st := st) (E := E) (W := W8) (fun i _ hi => own_butT T8 A8.but (dat7 i hi) (by decide)) (fun i _ hi => RR.out.wf i hi) (HBS.out.keep (bb8.mono hB)) (Nat.le_trans hB (Nat.le_trans hbw (Nat.le_trans sz7 A8.but.size))) t0 t1 hn
        have hlen : (putQ E k d st ⟨t, 0, a, n, c, Z⟩).length = nl + 1 := by rw [HPQ.out, List.length_append, HNL.out]; rfl
        have hbk := bcL_blks (l := putQ E k d st ⟨t, 0, a, n, c, Z⟩) (by rw [HPQ.out, bcL_app]; exact A8.own) (fun b hb => (hok b hb).1) (by omega)
        have hWr := refwrite_any W8.heap.size x8 (nl + 1) y8 (fun i => (putQ E k d st ⟨t, 0, a, n, c, Z⟩).getD i default) W8 hbk.2 (Nat.le_refl _) (fun i hi => by
          have hi' : i < (putQ E k d st ⟨t, 0, a, n, c, Z⟩).length := by omega
          simp only [List.getD, List.getElem?_eq_getElem hi', Option.getD_some]
          have := (hok _ (List.getElem_mem hi')).2
          omega)
        have HWR := Lib.hid hWr
        have HLEN := Lib.hid hlen
        have K8 := Lib.hid (K7.but T8 A8.but)
        have z8 : w.heap.size ≤ W8.heap.size := Nat.le_trans sz7 A8.but.size
        have lt11 := l7.lt
        have FIN : Hid (∀ w', Below W8.heap.size W8 w' → (∃ vs' vt' vd' a1 c1, RKp (addE E k ⟨st, t, a1, n, c1, Z⟩) (k + 1) dep base gr vs' vt' vd' w' ∧ (∀ g, vt'.ownBlock = some g → (Value.slice vta k vtc).ownBlock = some g ∨ w.heap.size ≤ g)) ∧
          (w'.os = w.os ∧ w'.tape = w.tape ∧ w'.output = w.output ∧ w.heap.size ≤ w'.heap.size ∧ ∀ q, q < w.heap.size → q ≠ gr → (Value.slice vsa k vsc).ownBlock ≠ some q → (Value.slice vta k vtc).ownBlock ≠ some q → (Value.slice vda k vdc).ownBlock ≠ some q → w'.heap[q]? = w.heap[q]?)) := Lib.hid (fun w' hb => by
          have z1 := BL.out.size
          refine ⟨⟨_, _, _, _, _, K8.out.keep hb, fun g hg => (APN.out g hg).imp id (fun h => by omega)⟩, ?_, ?_, ?_, ?_, fun q h1 h2 h3 h4 h5 => ?_⟩
          · rw [hb.os, bb8.os]
          · rw [hb.tape, bb8.tape]
          · rw [hb.output, bb8.output]
          · have := hb.size; omega
          · rw [hb.block q (by omega), A8.but.block q (by omega) (fun e => by have := (lt11 q e).1; omega), hF7 q (by omega) h2 h3 h4 h5, BL.out.block q h1])
        have HA8 := Lib.hid A8
        clear lt11 hWr hlen hbk hok bb8 T8 A8 B8 hF7 K7 b7 l7 dat7 new7 g7
        go_wp2_with (at_builtin; refine wpList_of_append rfl (.tmp 122) (.tmp 126) 105 rfl _ _ _ rfl rfl HA8.out.run ?_)
        refine HWR.out.mono ?_
        rintro e w' ⟨hc, b8⟩
        obtain ⟨f1, f2⟩ := FIN.out w' b8
        have F1 := Lib.hid f1
        have F2 := Lib.hid f2
        clear f1 f2 b8 FIN
        have HDD : Hid (d = clampN dep) := HD
        rcases hc with ⟨hw, a9, N, c9, rfl, hN, o9⟩ | ⟨hw, v9, rfl⟩
        · have HW := Lib.hid hw
          have HN := Lib.hid hN
          have O9 := Lib.hid o9
          clear hw hN o9
          go_wp2_with fail
          go_ret2
          refine ⟨F1.out, .inl ?_, F2.out⟩
          rw [← HDD.out]
          exact ⟨by rw [HLEN.out]; exact HW.out, a9, N, c9, rfl, by rw [HLEN.out]; exact HN.out, by rw [HLEN.out]; exact World.ownsRow.mono O9.out z8⟩
        · have HW := Lib.hid hw
          clear hw
          go_wp2_with fail
          go_ret2
          refine ⟨F1.out, .inr ?_, F2.out⟩
          rw [← HDD.out]
          exact ⟨by rw [HLEN.out]; exact HW.out, rfl⟩
end Go.Proofs.Ytdmbdageohjodaa
