/-
  Chapter 34: the reference's Drop.
-/
import Derived.Test.YtihbceippcgfgaaRtxF
namespace Go.Proofs.Ytihbceippcgfgaa
open Go.RowKit
set_option linter.unusedVariables false
set_option linter.unusedSimpArgs false
attribute [local irreducible] wpStill wpQuiet
attribute [local go_sem] MixC.rdOp MixC.rd MixC.rdUpon MixC.mvUpon

set_option maxRecDepth 100000 in
theorem refdrop_none (w : World) (base gr : Nat) (av : List Nat) (va vb vc vd : Value) (n : Nat) (A B T N : Nat → Int) (x : Int) (h : RT w base gr av va vb vc vd n A B T N) (hf : findI A x n = none) :
    Calls Try.prog 38 #[.pointer (some ⟨gr, 0, none⟩), .int .u32 x] w fun e w' => e = .returned (.int .i64 9) ∧ w = w' := by
  obtain ⟨aA, cA, hVA, uA⟩ := RTab.us h 0 (by omega)
  have hva : va = .slice aA n cA := hVA
  subst hva
  have UA : Hid (US w.heap.size w aA n cA A) := Lib.hid uA
  have c0 : w.cell? ⟨gr, 0, none⟩ = some (.slice aA n cA) := cell_blk h.blk
  have hd : atI A n x = -1 := by unfold atI; rw [hf]
  have HD := Lib.hid hd
  clear h hVA uA hf hd
  go_enter Try.func38, Try.ntmps38
  go_wp2_with fail
  refine (at34_any w.heap.size w aA n cA A x UA.out).mono ?_
  rintro e w' ⟨rfl, rfl⟩
  rw [HD.out]
  go_wp2_with fail
  go_ret
  exact ⟨rfl, rfl⟩
theorem mv_append {P : Program} {C : World → Prop} {w w' : World} {o : Oper} {a : Act} {K : Act → World → Prop} {s x : Operand} {t : TypeId} (ho : o.op = .call { callee := .builtin .append, args := #[s, x], argTypes := #[t, t] }) {v1 v2 v' : Value} (hs : a.eval s = v1) (hx : a.eval x = v2)
    (hr : ∀ ty, (Builtin.append_ #[t, t] ty #[v1, v2]).run P w = .ok v' w') (hC : C w') (hK : K (a.put o.dst v') w') : MixC.mvUpon P C o a K ((execOp a.eval o).run P w) := by
  rw [exec_append ho hs hx (hr o.type)]
  exact ⟨hC, hK⟩
def dl (p : Nat) (L : Nat → Int) (i : Nat) : Int := if i < p then L i else L (i + 1)
def owns (V : Nat → Value) : List Nat := (List.range 4).filterMap fun j => (V j).ownBlock
theorem mem_owns {V : Nat → Value} {k : Nat} : k ∈ owns V ↔ ∃ j, j < 4 ∧ (V j).ownBlock = some k := by
  unfold owns
  rw [List.mem_filterMap]
  constructor
  · rintro ⟨j, hj, h⟩; exact ⟨j, by simpa using hj, h⟩
  · rintro ⟨j, hj, h⟩; exact ⟨j, by simpa using hj, h⟩
theorem own_blk1 {w w' : World} {base : Nat} {e : TypeId} {size : Nat} {v : Value} {n : Nat} {xs : List Value} (h : w.ownsRow base e size v n xs) (hb : ∀ k, v.ownBlock = some k → w'.heap[k]? = w.heap[k]?) : w'.ownsRow base e size v n xs := by
  obtain ⟨h1, h2⟩ := h
  refine ⟨h1, ?_⟩
  rcases h2 with h2 | ⟨g, cap, cur, hv, hg, hh, r⟩
  · exact .inl h2
  · subst hv
    exact .inr ⟨g, cap, cur, rfl, hg, by rw [hb g rfl]; exact hh, r⟩
/-- a table stays where its blocks do -/
theorem RTab.stay {w w' : World} {base gr : Nat} {av : List Nat} {V : Nat → Value} {n : Nat → Nat} {L : Nat → Nat → Int} (h : RTab w base gr av V n L) (hs : w.heap.size ≤ w'.heap.size) (hg : w'.heap[gr]? = w.heap[gr]?) (hk : ∀ k ∈ owns V, w'.heap[k]? = w.heap[k]?) : RTab w' base gr av V n L :=
  ⟨hg.trans h.blk, fun j hj => own_blk1 (h.col j hj) (fun k e => hk k (mem_owns.2 ⟨j, hj, e⟩)), h.ap, h.ng, fun x hx => Nat.lt_of_lt_of_le (h.lt x hx) hs, h.gm, h.gb⟩
def ClD (gr gu j : Nat) (vt vu : Value) (be k : Nat) (e : Value) (W : World) : Prop := W.cell? ⟨gr, j, none⟩ = some vt ∧ W.cell? ⟨gu, j, none⟩ = some vu ∧ W.cell? ⟨be, k, none⟩ = some e
theorem ClD.of {gr gu j : Nat} {vt vu : Value} {be k : Nat} {e : Value} {W W' : World} (h : ClD gr gu j vt vu be k e W) (h1 : W'.heap[gr]? = W.heap[gr]?) (h2 : W'.heap[gu]? = W.heap[gu]?) (h3 : W'.heap[be]? = W.heap[be]?) : ClD gr gu j vt vu be k e W' :=
  ⟨by rw [World.cell?_of_block (w := W) h1]; exact h.1, by rw [World.cell?_of_block (w := W) h2]; exact h.2.1, by rw [World.cell?_of_block (w := W) h3]; exact h.2.2⟩
/-- both tables, ahead of place k -/
structure DS (w wr : World) (base gr gu : Nat) (av : List Nat) (va vb vc vd : Value) (n p : Nat) (A B T N : Nat → Int) (k m : Nat) (xa xb xc xd : Value) : Prop where
  t : RT wr base gr av va vb vc vd n A B T N
  u : RT wr base gu (gu :: (av ++ owns (four va vb vc vd))) xa xb xc xd m (dl p A) (dl p B) (dl p T) (dl p N)
  mm : m = if k ≤ p then k else k - 1
  bl : Below base w wr
  hv : ∀ k ∈ av, wr.heap[k]? = w.heap[k]?
  sz : base ≤ wr.heap.size
set_option maxRecDepth 100000 in
set_option maxHeartbeats 16000000 in
theorem refdrop_some (w : World) (base gr : Nat) (av : List Nat) (va vb vc vd : Value) (n p : Nat) (A B T N : Nat → Int) (x : Int) (h : RT w base gr av va vb vc vd n A B T N) (hf : findI A x n = some p) (hn : n ≤ 100) (hbs : base ≤ w.heap.size) :
    Calls Try.prog 38 #[.pointer (some ⟨gr, 0, none⟩), .int .u32 x] w fun e w' => e = .returned (.int .i64 0) ∧ (∃ xa xb xc xd, RT w' base gr av xa xb xc xd (n - 1) (dl p A) (dl p B) (dl p T) (dl p N)) ∧ Below base w w' ∧ ∀ k ∈ av, k ≠ gr → w'.heap[k]? = w.heap[k]? := by
  obtain ⟨aA, cA, hVA, uA⟩ := RTab.us h 0 (by omega)
  have hva : va = .slice aA n cA := hVA
  obtain ⟨aB, cB, hVB⟩ := own_len (h.col 1 (by omega))
  have hvb : vb = .slice aB n cB := hVB
  obtain ⟨aT, cT, hVC⟩ := own_len (h.col 2 (by omega))
  have hvc : vc = .slice aT n cT := hVC
  obtain ⟨aN, cN, hVD⟩ := own_len (h.col 3 (by omega))
  have hvd : vd = .slice aN n cN := hVD
  subst hva hvb hvc hvd
  have UA : Hid (US w.heap.size w aA n cA A) := Lib.hid uA
  have c0 : w.cell? ⟨gr, 0, none⟩ = some (.slice aA n cA) := cell_blk h.blk
  have hd : atI A n x = p := by unfold atI; rw [hf]
  have HD := Lib.hid hd
  obtain ⟨hpn, _, _⟩ := findI_some hf
  have H := Lib.hid h
  have hgr := lt_of_block h.blk
  clear h hVA hVB hVC hVD uA hf hd
  go_enter Try.func38, Try.ntmps38
  go_wp2_with fail
  refine (at34_any w.heap.size w aA n cA A x UA.out).mono ?_
  rintro e w' ⟨rfl, rfl⟩
  rw [HD.out]
  go_wp2_with fail
  generalize hW : World.alloc w _ = W
  have GU : W.heap[w.heap.size]? = some (.cells #[.slice none 0 0, .slice none 0 0, .slice none 0 0, .slice none 0 0] 64 (0, 0)) := by rw [← hW]; exact alloc_blk_new
  have BW : Below w.heap.size w W := by rw [← hW]; exact (Below.refl _ w).alloc (Nat.le_refl _) _
  clear hW
  obtain ⟨gu, hgu⟩ : ∃ gu, gu = w.heap.size := ⟨_, rfl⟩
  rw [← hgu] at GU
  rw [← hgu]
  have hru : gr ≠ gu := by omega
  have D0 : Hid (DS w W base gr gu av (.slice aA n cA) (.slice aB n cB) (.slice aT n cT) (.slice aN n cN) n p A B T N 0 0 (.slice none 0 0) (.slice none 0 0) (.slice none 0 0) (.slice none 0 0)) := Lib.hid (by
    refine ⟨H.out.keep BW, ⟨GU, fun j hj => ?_, fun i j hi hj _ k hk => ?_, fun j hj y _ => ?_, fun y hy => ?_, List.mem_cons_self, by omega⟩, by simp, BW.mono hbs, fun k hk => BW.block k (H.out.lt k hk), by have := BW.size; omega⟩
    · have : j = 0 ∨ j = 1 ∨ j = 2 ∨ j = 3 := by omega
      rcases this with rfl | rfl | rfl | rfl <;> exact ⟨rfl, .inl ⟨rfl, rfl⟩⟩
    · have : i = 0 ∨ i = 1 ∨ i = 2 ∨ i = 3 := by omega
      rcases this with rfl | rfl | rfl | rfl <;> cases hk
    · have : j = 0 ∨ j = 1 ∨ j = 2 ∨ j = 3 := by omega
      rcases this with rfl | rfl | rfl | rfl <;> (intro e; cases e)
    · have hl := lt_of_block GU
      rcases List.mem_cons.1 hy with rfl | hy
      · exact hl
      · rcases List.mem_append.1 hy with hy | hy
        · have := H.out.lt y hy; omega
        · obtain ⟨j, hj, hk⟩ := mem_owns.1 hy
          have := ((H.out.col j hj).lt y hk).2; omega)
  have hgub : w.heap.size ≤ gu := by omega
  clear GU BW hgu c0
  go_loopw [7] (fun si wr => ∃ (k m : Nat) (xa xb xc xd : Value), k ≤ n ∧ si = .int .i64 k ∧ Hid (DS w wr base gr gu av (.slice aA n cA) (.slice aB n cB) (.slice aT n cT) (.slice aN n cN) n p A B T N k m xa xb xc xd)) (fun si _ => n - (intOf si).toNat)
  case atStart => exact ⟨0, 0, _, _, _, _, by omega, rfl, D0⟩
  case round =>
    clear D0
    obtain ⟨k, m, xa, xb, xc, xd, hk, rfl, D⟩ := hrel
    have c0 : wr.cell? ⟨gr, 0, none⟩ = some (.slice aA n cA) := cell_blk D.out.t.blk
    by_cases hlt : k < n
    · by_cases hkp : k = p
      · have e1 : ((k : Int) == (p : Int)) = true := by (simp; omega)
        have e2 : ((k : Int) != (p : Int)) = false := by (simp; omega)
        have HKP := Lib.hid hkp
        clear hkp
        go_wp2_with fail
        go_roundw
        case rel => exact ⟨k + 1, m, xa, xb, xc, xd, by omega, by go_num, Lib.hid ⟨D.out.t, D.out.u, by have h1 := D.out.mm; rw [if_pos (by have := HKP.out; omega)] at h1; rw [if_neg (by have := HKP.out; omega)]; omega, D.out.bl, D.out.hv, D.out.sz⟩⟩
        case measure => simp [intOf] <;> omega
      · have e1 : ((k : Int) == (p : Int)) = false := by (simp; omega)
        have e2 : ((k : Int) != (p : Int)) = true := by (simp; omega)
        have hmk : m = if k < p then k else k - 1 := by have := D.out.mm; split at this <;> split <;> omega
        have HMK := Lib.hid hmk
        have hm9 : m ≤ 100 := by rw [hmk]; split <;> omega
        have hnk : (k : Int) < n := by omega
        have hdl : ∀ L : Nat → Int, dl p L m = L k := fun L => by unfold dl; rw [hmk]; by_cases h : k < p <;> simp [h]; rw [if_neg (by omega)]; congr 1; omega
        have HDL := Lib.hid hdl
        have HKP := Lib.hid hkp
        clear hmk hdl hkp
        obtain ⟨mA, dA, hxa⟩ := own_len (D.out.u.col 0 (by omega))
        have hxa' : xa = .slice mA m dA := hxa
        obtain ⟨mB, dB, hxb⟩ := own_len (D.out.u.col 1 (by omega))
        have hxb' : xb = .slice mB m dB := hxb
        obtain ⟨mT, dT, hxc⟩ := own_len (D.out.u.col 2 (by omega))
        have hxc' : xc = .slice mT m dT := hxc
        obtain ⟨mN, dN, hxd⟩ := own_len (D.out.u.col 3 (by omega))
        have hxd' : xd = .slice mN m dN := hxd
        subst hxa' hxb' hxc' hxd'
        clear hxa hxb hxc hxd
        -- where t's rows lie
        obtain ⟨be0, he0, hc0⟩ : ∃ be, aA = some ⟨be, 0, none⟩ ∧ be ∈ owns (four (.slice aA n cA) (.slice aB n cB) (.slice aT n cT) (.slice aN n cN)) := by
          obtain ⟨n', hn'⟩ : ∃ n', n = n' + 1 := ⟨n - 1, by omega⟩
          have hc := D.out.t.col 0 (by omega)
          have hc' : wr.ownsRow base (cE 0) 1 (.slice aA n cA) n (colOf (cK 0) A n) := hc
          rw [hn'] at hc'
          obtain ⟨g, cap, hv, _⟩ := own_some hc'
          have hv' : aA = some ⟨g, 0, none⟩ := by injection hv
          exact ⟨g, hv', mem_owns.2 ⟨0, by omega, by rw [hv']; rfl⟩⟩
        obtain ⟨be1, he1, hc1⟩ : ∃ be, aB = some ⟨be, 0, none⟩ ∧ be ∈ owns (four (.slice aA n cA) (.slice aB n cB) (.slice aT n cT) (.slice aN n cN)) := by
          obtain ⟨n', hn'⟩ : ∃ n', n = n' + 1 := ⟨n - 1, by omega⟩
          have hc := D.out.t.col 1 (by omega)
          have hc' : wr.ownsRow base (cE 1) 1 (.slice aB n cB) n (colOf (cK 1) B n) := hc
          rw [hn'] at hc'
          obtain ⟨g, cap, hv, _⟩ := own_some hc'
          have hv' : aB = some ⟨g, 0, none⟩ := by injection hv
          exact ⟨g, hv', mem_owns.2 ⟨1, by omega, by rw [hv']; rfl⟩⟩
        obtain ⟨be2, he2, hc2⟩ : ∃ be, aT = some ⟨be, 0, none⟩ ∧ be ∈ owns (four (.slice aA n cA) (.slice aB n cB) (.slice aT n cT) (.slice aN n cN)) := by
          obtain ⟨n', hn'⟩ : ∃ n', n = n' + 1 := ⟨n - 1, by omega⟩
          have hc := D.out.t.col 2 (by omega)
          have hc' : wr.ownsRow base (cE 2) 1 (.slice aT n cT) n (colOf (cK 2) T n) := hc
          rw [hn'] at hc'
          obtain ⟨g, cap, hv, _⟩ := own_some hc'
          have hv' : aT = some ⟨g, 0, none⟩ := by injection hv
          exact ⟨g, hv', mem_owns.2 ⟨2, by omega, by rw [hv']; rfl⟩⟩
        obtain ⟨be3, he3, hc3⟩ : ∃ be, aN = some ⟨be, 0, none⟩ ∧ be ∈ owns (four (.slice aA n cA) (.slice aB n cB) (.slice aT n cT) (.slice aN n cN)) := by
          obtain ⟨n', hn'⟩ : ∃ n', n = n' + 1 := ⟨n - 1, by omega⟩
          have hc := D.out.t.col 3 (by omega)
          have hc' : wr.ownsRow base (cE 3) 1 (.slice aN n cN) n (colOf (cK 3) N n) := hc
          rw [hn'] at hc'
          obtain ⟨g, cap, hv, _⟩ := own_some hc'
          have hv' : aN = some ⟨g, 0, none⟩ := by injection hv
          exact ⟨g, hv', mem_owns.2 ⟨3, by omega, by rw [hv']; rfl⟩⟩
        subst he0 he1 he2 he3
        have T0 := Lib.hid D.out.t
        have U0 : Hid (RTab wr base gu (gu :: (av ++ owns (four (.slice (some ⟨be0, 0, none⟩) n cA) (.slice (some ⟨be1, 0, none⟩) n cB) (.slice (some ⟨be2, 0, none⟩) n cT) (.slice (some ⟨be3, 0, none⟩) n cN)))) (four (.slice mA m dA) (.slice mB m dB) (.slice mT m dT) (.slice mN m dN)) (fun _ => m) (fourL (dl p A) (dl p B) (dl p T) (dl p N))) := Lib.hid D.out.u
        have S0 := Lib.hid D.out.sz
        have K0 := Lib.hid D.out.bl
        have V0 := Lib.hid D.out.hv
        have HNU : Hid (∀ q ∈ owns (four (.slice (some ⟨be0, 0, none⟩) n cA) (.slice (some ⟨be1, 0, none⟩) n cB) (.slice (some ⟨be2, 0, none⟩) n cT) (.slice (some ⟨be3, 0, none⟩) n cN)), q ≠ gu) := Lib.hid (fun q hq => by obtain ⟨j, hj, hk⟩ := mem_owns.1 hq; have := ((H.out.col j hj).lt q hk).2; omega)
        obtain ⟨x0, y0, w1, r0, g0, b0, v0, nx0⟩ := RTab.push (RTab.keep U0.out ((Below.refl _ wr).drew)) 0 (by omega) (A k) (by show m ≤ 1000; omega) S0.out
        have R0 : Hid (∀ ty, (Builtin.append_ #[42, 42] ty #[(.slice mA m dA), .slice (some ⟨wr.heap.size, 0, none⟩) 1 1]).run Try.prog (wr.drew.alloc (.cells #[.int .u32 (A k)] 41)) = .ok (.slice x0 (m + 1) y0) w1) := Lib.hid r0
        have C0 : Hid (ClD gr gu 0 (.slice (some ⟨be0, 0, none⟩) n cA) (.slice mA m dA) be0 k (.int .u32 (A k)) wr) := Lib.hid ⟨cell_blk T0.out.blk, cell_blk U0.out.blk, by
          have hc := T0.out.col 0 (by omega)
          have hc' : wr.ownsRow base (cE 0) 1 (.slice (some ⟨be0, 0, none⟩) n cA) n (colOf (cK 0) A n) := hc
          have := hc'.cells (g := be0) rfl k (.int .u32 (A k)) (by simp [colOf, hlt]; rfl)
          rw [addr_add, Nat.zero_add] at this
          exact this⟩
        have mg : gr ∈ gu :: (av ++ owns (four (.slice (some ⟨be0, 0, none⟩) n cA) (.slice (some ⟨be1, 0, none⟩) n cB) (.slice (some ⟨be2, 0, none⟩) n cT) (.slice (some ⟨be3, 0, none⟩) n cN))) := List.mem_cons_of_mem _ (List.mem_append_left _ H.out.gm)
        have mb : be0 ∈ gu :: (av ++ owns (four (.slice (some ⟨be0, 0, none⟩) n cA) (.slice (some ⟨be1, 0, none⟩) n cB) (.slice (some ⟨be2, 0, none⟩) n cT) (.slice (some ⟨be3, 0, none⟩) n cN))) := List.mem_cons_of_mem _ (List.mem_append_right _ hc0)
        have C1 : Hid (ClD gr gu 0 (.slice (some ⟨be0, 0, none⟩) n cA) (.slice mA m dA) be0 k (.int .u32 (A k)) (wr.drew.alloc (.cells #[.int .u32 (A k)] 41))) := Lib.hid (C0.out.of (alloc_blk_old (w := wr.drew) (lt_of_block T0.out.blk)) (alloc_blk_old (w := wr.drew) (lt_of_block U0.out.blk)) (alloc_blk_old (w := wr.drew) (U0.out.lt _ mb)))
        have C2 : Hid (ClD gr gu 0 (.slice (some ⟨be0, 0, none⟩) n cA) (.slice mA m dA) be0 k (.int .u32 (A k)) w1) := Lib.hid (C0.out.of (v0 gr mg) (g0.trans U0.out.blk.symm) (v0 be0 mb))
        have s1 : w1.cell? ⟨gu, 0, none⟩ = some (.slice mA m dA) := C2.out.2.1
        have s2 : w1.frozen? ⟨gu, 0, none⟩ = false := free_blk g0
        have hne : Nonempty { w' : World // ClD gr gu 0 (.slice (some ⟨be0, 0, none⟩) n cA) (.slice mA m dA) be0 k (.int .u32 (A k)) w' } := ⟨⟨_, C0.out⟩⟩
        have o1 : ∀ z : { w' : World // ClD gr gu 0 (.slice (some ⟨be0, 0, none⟩) n cA) (.slice mA m dA) be0 k (.int .u32 (A k)) w' }, z.1.cell? ⟨gr, 0, none⟩ = some (.slice (some ⟨be0, 0, none⟩) n cA) := fun z => z.2.1
        have o2 : ∀ z : { w' : World // ClD gr gu 0 (.slice (some ⟨be0, 0, none⟩) n cA) (.slice mA m dA) be0 k (.int .u32 (A k)) w' }, z.1.cell? ⟨gu, 0, none⟩ = some (.slice mA m dA) := fun z => z.2.2.1
        have o3 : ∀ z : { w' : World // ClD gr gu 0 (.slice (some ⟨be0, 0, none⟩) n cA) (.slice mA m dA) be0 k (.int .u32 (A k)) w' }, z.1.cell? ⟨be0, k, none⟩ = some (.int .u32 (A k)) := fun z => z.2.2.2
        have HR0 := Lib.hid (And.intro g0 (And.intro b0 (And.intro v0 nx0)))
        clear r0 g0 b0 v0 nx0 mg mb
        go_wp2_with fail
        clear c0
        refine MixC.wp_region_mix_tail 16 [12, 13] (ClD gr gu 0 (.slice (some ⟨be0, 0, none⟩) n cA) (.slice mA m dA) be0 k (.int .u32 (A k))) C0.out (by kernel_rfl) (by kernel_rfl) (by kernel_rfl) ?_
        simp only [List.take_succ_cons, List.take_zero, List.drop_succ_cons, List.drop_zero]
        iterate 12 (refine MixC.mix_read rfl (fun K hK => ?_); go_simp; refine hK _ ?_; clear hK K)
        (refine MixC.mix_move rfl (fun K hK => ?_); go_simp; refine ⟨C1.out, hK _ _ ?_⟩; clear hK K)
        refine MixC.mix_move rfl (fun K hK => ?_)
        refine Eq.mpr (if_pos rfl) ?_
        refine mv_append (s := .tmp 34) (x := .tmp 42) (t := 42) rfl rfl rfl R0.out C2.out (hK _ _ ?_)
        clear hK K
        iterate 2 (refine MixC.mix_read rfl (fun K hK => ?_); go_simp; refine hK _ ?_; clear hK K)
        refine MixC.mix_nil ?_
        clear o1 o2 o3 hne
        go_wp2_with fail
        clear s1 s2 C0 C1 C2
        generalize hX : World.setCell w1 _ _ = X1
        have U1 := Lib.hid (HR0.out.2.2.2 X1 (by rw [← hX]; simp [World.setCell]) (fun q hq => by rw [← hX]; exact set_blk_other _ hq) (by rw [← hX, set_blk _ HR0.out.1]; rfl))
        have E1 : Hid (∀ q, q ∈ gu :: (av ++ owns (four (.slice (some ⟨be0, 0, none⟩) n cA) (.slice (some ⟨be1, 0, none⟩) n cB) (.slice (some ⟨be2, 0, none⟩) n cT) (.slice (some ⟨be3, 0, none⟩) n cN))) → q ≠ gu → X1.heap[q]? = wr.heap[q]?) := Lib.hid (fun q hq hne => by rw [← hX]; exact (set_blk_other _ hne).trans (HR0.out.2.2.1 q hq))
        have Z1 : Hid (wr.heap.size ≤ X1.heap.size) := Lib.hid (by rw [← hX]; have := HR0.out.2.1.size; simp [World.setCell] at this ⊢; exact this)
        have T1 := Lib.hid (RTab.stay T0.out Z1.out (E1.out gr (List.mem_cons_of_mem _ (List.mem_append_left _ H.out.gm)) hru) (fun q hq => E1.out q (List.mem_cons_of_mem _ (List.mem_append_right _ hq)) (HNU.out q hq)))
        have K1 : Hid (Below base w X1) := Lib.hid (by rw [← hX]; exact Below.setCell (K0.out.drew.trans HR0.out.2.1) (Nat.le_trans hbs hgub) _)
        have V1 : Hid (∀ q ∈ av, X1.heap[q]? = w.heap[q]?) := Lib.hid (fun q hq => (E1.out q (List.mem_cons_of_mem _ (List.mem_append_left _ hq)) (by have := H.out.lt q hq; omega)).trans (V0.out q hq))
        have S1 : Hid (base ≤ X1.heap.size) := Lib.hid (Nat.le_trans S0.out Z1.out)
        clear hX
        obtain ⟨x1, y1, w2, r1, g1, b1, v1, nx1⟩ := RTab.push (RTab.keep U1.out ((Below.refl _ X1).drew)) 1 (by omega) (B k) (by show m ≤ 1000; omega) S1.out
        have R1 : Hid (∀ ty, (Builtin.append_ #[42, 42] ty #[(.slice mB m dB), .slice (some ⟨X1.heap.size, 0, none⟩) 1 1]).run Try.prog (X1.drew.alloc (.cells #[.int .u32 (B k)] 41)) = .ok (.slice x1 (m + 1) y1) w2) := Lib.hid r1
        have C0 : Hid (ClD gr gu 1 (.slice (some ⟨be1, 0, none⟩) n cB) (.slice mB m dB) be1 k (.int .u32 (B k)) X1) := Lib.hid ⟨cell_blk T1.out.blk, cell_blk U1.out.blk, by
          have hc := T1.out.col 1 (by omega)
          have hc' : X1.ownsRow base (cE 1) 1 (.slice (some ⟨be1, 0, none⟩) n cB) n (colOf (cK 1) B n) := hc
          have := hc'.cells (g := be1) rfl k (.int .u32 (B k)) (by simp [colOf, hlt]; rfl)
          rw [addr_add, Nat.zero_add] at this
          exact this⟩
        have mg : gr ∈ gu :: (av ++ owns (four (.slice (some ⟨be0, 0, none⟩) n cA) (.slice (some ⟨be1, 0, none⟩) n cB) (.slice (some ⟨be2, 0, none⟩) n cT) (.slice (some ⟨be3, 0, none⟩) n cN))) := List.mem_cons_of_mem _ (List.mem_append_left _ H.out.gm)
        have mb : be1 ∈ gu :: (av ++ owns (four (.slice (some ⟨be0, 0, none⟩) n cA) (.slice (some ⟨be1, 0, none⟩) n cB) (.slice (some ⟨be2, 0, none⟩) n cT) (.slice (some ⟨be3, 0, none⟩) n cN))) := List.mem_cons_of_mem _ (List.mem_append_right _ hc1)
        have C1 : Hid (ClD gr gu 1 (.slice (some ⟨be1, 0, none⟩) n cB) (.slice mB m dB) be1 k (.int .u32 (B k)) (X1.drew.alloc (.cells #[.int .u32 (B k)] 41))) := Lib.hid (C0.out.of (alloc_blk_old (w := X1.drew) (lt_of_block T1.out.blk)) (alloc_blk_old (w := X1.drew) (lt_of_block U1.out.blk)) (alloc_blk_old (w := X1.drew) (U1.out.lt _ mb)))
        have C2 : Hid (ClD gr gu 1 (.slice (some ⟨be1, 0, none⟩) n cB) (.slice mB m dB) be1 k (.int .u32 (B k)) w2) := Lib.hid (C0.out.of (v1 gr mg) (g1.trans U1.out.blk.symm) (v1 be1 mb))
        have s1 : w2.cell? ⟨gu, 1, none⟩ = some (.slice mB m dB) := C2.out.2.1
        have s2 : w2.frozen? ⟨gu, 1, none⟩ = false := free_blk g1
        have hne : Nonempty { w' : World // ClD gr gu 1 (.slice (some ⟨be1, 0, none⟩) n cB) (.slice mB m dB) be1 k (.int .u32 (B k)) w' } := ⟨⟨_, C0.out⟩⟩
        have o1 : ∀ z : { w' : World // ClD gr gu 1 (.slice (some ⟨be1, 0, none⟩) n cB) (.slice mB m dB) be1 k (.int .u32 (B k)) w' }, z.1.cell? ⟨gr, 1, none⟩ = some (.slice (some ⟨be1, 0, none⟩) n cB) := fun z => z.2.1
        have o2 : ∀ z : { w' : World // ClD gr gu 1 (.slice (some ⟨be1, 0, none⟩) n cB) (.slice mB m dB) be1 k (.int .u32 (B k)) w' }, z.1.cell? ⟨gu, 1, none⟩ = some (.slice mB m dB) := fun z => z.2.2.1
        have o3 : ∀ z : { w' : World // ClD gr gu 1 (.slice (some ⟨be1, 0, none⟩) n cB) (.slice mB m dB) be1 k (.int .u32 (B k)) w' }, z.1.cell? ⟨be1, k, none⟩ = some (.int .u32 (B k)) := fun z => z.2.2.2
        have HR1 := Lib.hid (And.intro g1 (And.intro b1 (And.intro v1 nx1)))
        clear r1 g1 b1 v1 nx1 mg mb
        refine MixC.wp_region_mix_tail 16 [12, 13] (ClD gr gu 1 (.slice (some ⟨be1, 0, none⟩) n cB) (.slice mB m dB) be1 k (.int .u32 (B k))) C0.out (by kernel_rfl) (by kernel_rfl) (by kernel_rfl) ?_
        simp only [List.take_succ_cons, List.take_zero, List.drop_succ_cons, List.drop_zero]
        iterate 12 (refine MixC.mix_read rfl (fun K hK => ?_); go_simp; refine hK _ ?_; clear hK K)
        (refine MixC.mix_move rfl (fun K hK => ?_); go_simp; refine ⟨C1.out, hK _ _ ?_⟩; clear hK K)
        refine MixC.mix_move rfl (fun K hK => ?_)
        refine Eq.mpr (if_pos rfl) ?_
        refine mv_append (s := .tmp 50) (x := .tmp 58) (t := 42) rfl rfl rfl R1.out C2.out (hK _ _ ?_)
        clear hK K
        iterate 2 (refine MixC.mix_read rfl (fun K hK => ?_); go_simp; refine hK _ ?_; clear hK K)
        refine MixC.mix_nil ?_
        clear o1 o2 o3 hne
        go_wp2_with fail
        clear s1 s2 C0 C1 C2
        generalize hX : World.setCell w2 _ _ = X2
        have U2 := Lib.hid (HR1.out.2.2.2 X2 (by rw [← hX]; simp [World.setCell]) (fun q hq => by rw [← hX]; exact set_blk_other _ hq) (by rw [← hX, set_blk _ HR1.out.1]; rfl))
        have E2 : Hid (∀ q, q ∈ gu :: (av ++ owns (four (.slice (some ⟨be0, 0, none⟩) n cA) (.slice (some ⟨be1, 0, none⟩) n cB) (.slice (some ⟨be2, 0, none⟩) n cT) (.slice (some ⟨be3, 0, none⟩) n cN))) → q ≠ gu → X2.heap[q]? = X1.heap[q]?) := Lib.hid (fun q hq hne => by rw [← hX]; exact (set_blk_other _ hne).trans (HR1.out.2.2.1 q hq))
        have Z2 : Hid (X1.heap.size ≤ X2.heap.size) := Lib.hid (by rw [← hX]; have := HR1.out.2.1.size; simp [World.setCell] at this ⊢; exact this)
        have T2 := Lib.hid (RTab.stay T1.out Z2.out (E2.out gr (List.mem_cons_of_mem _ (List.mem_append_left _ H.out.gm)) hru) (fun q hq => E2.out q (List.mem_cons_of_mem _ (List.mem_append_right _ hq)) (HNU.out q hq)))
        have K2 : Hid (Below base w X2) := Lib.hid (by rw [← hX]; exact Below.setCell (K1.out.drew.trans HR1.out.2.1) (Nat.le_trans hbs hgub) _)
        have V2 : Hid (∀ q ∈ av, X2.heap[q]? = w.heap[q]?) := Lib.hid (fun q hq => (E2.out q (List.mem_cons_of_mem _ (List.mem_append_left _ hq)) (by have := H.out.lt q hq; omega)).trans (V1.out q hq))
        have S2 : Hid (base ≤ X2.heap.size) := Lib.hid (Nat.le_trans S1.out Z2.out)
        clear hX
        obtain ⟨x2, y2, w3, r2, g2, b2, v2, nx2⟩ := RTab.push (RTab.keep U2.out ((Below.refl _ X2).drew)) 2 (by omega) (T k) (by show m ≤ 1000; omega) S2.out
        have R2 : Hid (∀ ty, (Builtin.append_ #[25, 25] ty #[(.slice mT m dT), .slice (some ⟨X2.heap.size, 0, none⟩) 1 1]).run Try.prog (X2.drew.alloc (.cells #[.int .u8 (T k)] 5)) = .ok (.slice x2 (m + 1) y2) w3) := Lib.hid r2
        have C0 : Hid (ClD gr gu 2 (.slice (some ⟨be2, 0, none⟩) n cT) (.slice mT m dT) be2 k (.int .u8 (T k)) X2) := Lib.hid ⟨cell_blk T2.out.blk, cell_blk U2.out.blk, by
          have hc := T2.out.col 2 (by omega)
          have hc' : X2.ownsRow base (cE 2) 1 (.slice (some ⟨be2, 0, none⟩) n cT) n (colOf (cK 2) T n) := hc
          have := hc'.cells (g := be2) rfl k (.int .u8 (T k)) (by simp [colOf, hlt]; rfl)
          rw [addr_add, Nat.zero_add] at this
          exact this⟩
        have mg : gr ∈ gu :: (av ++ owns (four (.slice (some ⟨be0, 0, none⟩) n cA) (.slice (some ⟨be1, 0, none⟩) n cB) (.slice (some ⟨be2, 0, none⟩) n cT) (.slice (some ⟨be3, 0, none⟩) n cN))) := List.mem_cons_of_mem _ (List.mem_append_left _ H.out.gm)
        have mb : be2 ∈ gu :: (av ++ owns (four (.slice (some ⟨be0, 0, none⟩) n cA) (.slice (some ⟨be1, 0, none⟩) n cB) (.slice (some ⟨be2, 0, none⟩) n cT) (.slice (some ⟨be3, 0, none⟩) n cN))) := List.mem_cons_of_mem _ (List.mem_append_right _ hc2)
        have C1 : Hid (ClD gr gu 2 (.slice (some ⟨be2, 0, none⟩) n cT) (.slice mT m dT) be2 k (.int .u8 (T k)) (X2.drew.alloc (.cells #[.int .u8 (T k)] 5))) := Lib.hid (C0.out.of (alloc_blk_old (w := X2.drew) (lt_of_block T2.out.blk)) (alloc_blk_old (w := X2.drew) (lt_of_block U2.out.blk)) (alloc_blk_old (w := X2.drew) (U2.out.lt _ mb)))
        have C2 : Hid (ClD gr gu 2 (.slice (some ⟨be2, 0, none⟩) n cT) (.slice mT m dT) be2 k (.int .u8 (T k)) w3) := Lib.hid (C0.out.of (v2 gr mg) (g2.trans U2.out.blk.symm) (v2 be2 mb))
        have s1 : w3.cell? ⟨gu, 2, none⟩ = some (.slice mT m dT) := C2.out.2.1
        have s2 : w3.frozen? ⟨gu, 2, none⟩ = false := free_blk g2
        have hne : Nonempty { w' : World // ClD gr gu 2 (.slice (some ⟨be2, 0, none⟩) n cT) (.slice mT m dT) be2 k (.int .u8 (T k)) w' } := ⟨⟨_, C0.out⟩⟩
        have o1 : ∀ z : { w' : World // ClD gr gu 2 (.slice (some ⟨be2, 0, none⟩) n cT) (.slice mT m dT) be2 k (.int .u8 (T k)) w' }, z.1.cell? ⟨gr, 2, none⟩ = some (.slice (some ⟨be2, 0, none⟩) n cT) := fun z => z.2.1
        have o2 : ∀ z : { w' : World // ClD gr gu 2 (.slice (some ⟨be2, 0, none⟩) n cT) (.slice mT m dT) be2 k (.int .u8 (T k)) w' }, z.1.cell? ⟨gu, 2, none⟩ = some (.slice mT m dT) := fun z => z.2.2.1
        have o3 : ∀ z : { w' : World // ClD gr gu 2 (.slice (some ⟨be2, 0, none⟩) n cT) (.slice mT m dT) be2 k (.int .u8 (T k)) w' }, z.1.cell? ⟨be2, k, none⟩ = some (.int .u8 (T k)) := fun z => z.2.2.2
        have HR2 := Lib.hid (And.intro g2 (And.intro b2 (And.intro v2 nx2)))
        clear r2 g2 b2 v2 nx2 mg mb
        refine MixC.wp_region_mix_tail 16 [12, 13] (ClD gr gu 2 (.slice (some ⟨be2, 0, none⟩) n cT) (.slice mT m dT) be2 k (.int .u8 (T k))) C0.out (by kernel_rfl) (by kernel_rfl) (by kernel_rfl) ?_
        simp only [List.take_succ_cons, List.take_zero, List.drop_succ_cons, List.drop_zero]
        iterate 12 (refine MixC.mix_read rfl (fun K hK => ?_); go_simp; refine hK _ ?_; clear hK K)
        (refine MixC.mix_move rfl (fun K hK => ?_); go_simp; refine ⟨C1.out, hK _ _ ?_⟩; clear hK K)
        refine MixC.mix_move rfl (fun K hK => ?_)
        refine Eq.mpr (if_pos rfl) ?_
        refine mv_append (s := .tmp 66) (x := .tmp 74) (t := 25) rfl rfl rfl R2.out C2.out (hK _ _ ?_)
        clear hK K
        iterate 2 (refine MixC.mix_read rfl (fun K hK => ?_); go_simp; refine hK _ ?_; clear hK K)
        refine MixC.mix_nil ?_
        clear o1 o2 o3 hne
        go_wp2_with fail
        clear s1 s2 C0 C1 C2
        generalize hX : World.setCell w3 _ _ = X3
        have U3 := Lib.hid (HR2.out.2.2.2 X3 (by rw [← hX]; simp [World.setCell]) (fun q hq => by rw [← hX]; exact set_blk_other _ hq) (by rw [← hX, set_blk _ HR2.out.1]; rfl))
        have E3 : Hid (∀ q, q ∈ gu :: (av ++ owns (four (.slice (some ⟨be0, 0, none⟩) n cA) (.slice (some ⟨be1, 0, none⟩) n cB) (.slice (some ⟨be2, 0, none⟩) n cT) (.slice (some ⟨be3, 0, none⟩) n cN))) → q ≠ gu → X3.heap[q]? = X2.heap[q]?) := Lib.hid (fun q hq hne => by rw [← hX]; exact (set_blk_other _ hne).trans (HR2.out.2.2.1 q hq))
        have Z3 : Hid (X2.heap.size ≤ X3.heap.size) := Lib.hid (by rw [← hX]; have := HR2.out.2.1.size; simp [World.setCell] at this ⊢; exact this)
        have T3 := Lib.hid (RTab.stay T2.out Z3.out (E3.out gr (List.mem_cons_of_mem _ (List.mem_append_left _ H.out.gm)) hru) (fun q hq => E3.out q (List.mem_cons_of_mem _ (List.mem_append_right _ hq)) (HNU.out q hq)))
        have K3 : Hid (Below base w X3) := Lib.hid (by rw [← hX]; exact Below.setCell (K2.out.drew.trans HR2.out.2.1) (Nat.le_trans hbs hgub) _)
        have V3 : Hid (∀ q ∈ av, X3.heap[q]? = w.heap[q]?) := Lib.hid (fun q hq => (E3.out q (List.mem_cons_of_mem _ (List.mem_append_left _ hq)) (by have := H.out.lt q hq; omega)).trans (V2.out q hq))
        have S3 : Hid (base ≤ X3.heap.size) := Lib.hid (Nat.le_trans S2.out Z3.out)
        clear hX
        obtain ⟨x3, y3, w4, r3, g3, b3, v3, nx3⟩ := RTab.push (RTab.keep U3.out ((Below.refl _ X3).drew)) 3 (by omega) (N k) (by show m ≤ 1000; omega) S3.out
        have R3 : Hid (∀ ty, (Builtin.append_ #[62, 62] ty #[(.slice mN m dN), .slice (some ⟨X3.heap.size, 0, none⟩) 1 1]).run Try.prog (X3.drew.alloc (.cells #[.int .u16 (N k)] 40)) = .ok (.slice x3 (m + 1) y3) w4) := Lib.hid r3
        have C0 : Hid (ClD gr gu 3 (.slice (some ⟨be3, 0, none⟩) n cN) (.slice mN m dN) be3 k (.int .u16 (N k)) X3) := Lib.hid ⟨cell_blk T3.out.blk, cell_blk U3.out.blk, by
          have hc := T3.out.col 3 (by omega)
          have hc' : X3.ownsRow base (cE 3) 1 (.slice (some ⟨be3, 0, none⟩) n cN) n (colOf (cK 3) N n) := hc
          have := hc'.cells (g := be3) rfl k (.int .u16 (N k)) (by simp [colOf, hlt]; rfl)
          rw [addr_add, Nat.zero_add] at this
          exact this⟩
        have mg : gr ∈ gu :: (av ++ owns (four (.slice (some ⟨be0, 0, none⟩) n cA) (.slice (some ⟨be1, 0, none⟩) n cB) (.slice (some ⟨be2, 0, none⟩) n cT) (.slice (some ⟨be3, 0, none⟩) n cN))) := List.mem_cons_of_mem _ (List.mem_append_left _ H.out.gm)
        have mb : be3 ∈ gu :: (av ++ owns (four (.slice (some ⟨be0, 0, none⟩) n cA) (.slice (some ⟨be1, 0, none⟩) n cB) (.slice (some ⟨be2, 0, none⟩) n cT) (.slice (some ⟨be3, 0, none⟩) n cN))) := List.mem_cons_of_mem _ (List.mem_append_right _ hc3)
        have C1 : Hid (ClD gr gu 3 (.slice (some ⟨be3, 0, none⟩) n cN) (.slice mN m dN) be3 k (.int .u16 (N k)) (X3.drew.alloc (.cells #[.int .u16 (N k)] 40))) := Lib.hid (C0.out.of (alloc_blk_old (w := X3.drew) (lt_of_block T3.out.blk)) (alloc_blk_old (w := X3.drew) (lt_of_block U3.out.blk)) (alloc_blk_old (w := X3.drew) (U3.out.lt _ mb)))
        have C2 : Hid (ClD gr gu 3 (.slice (some ⟨be3, 0, none⟩) n cN) (.slice mN m dN) be3 k (.int .u16 (N k)) w4) := Lib.hid (C0.out.of (v3 gr mg) (g3.trans U3.out.blk.symm) (v3 be3 mb))
        have s1 : w4.cell? ⟨gu, 3, none⟩ = some (.slice mN m dN) := C2.out.2.1
        have s2 : w4.frozen? ⟨gu, 3, none⟩ = false := free_blk g3
        have hne : Nonempty { w' : World // ClD gr gu 3 (.slice (some ⟨be3, 0, none⟩) n cN) (.slice mN m dN) be3 k (.int .u16 (N k)) w' } := ⟨⟨_, C0.out⟩⟩
        have o1 : ∀ z : { w' : World // ClD gr gu 3 (.slice (some ⟨be3, 0, none⟩) n cN) (.slice mN m dN) be3 k (.int .u16 (N k)) w' }, z.1.cell? ⟨gr, 3, none⟩ = some (.slice (some ⟨be3, 0, none⟩) n cN) := fun z => z.2.1
        have o2 : ∀ z : { w' : World // ClD gr gu 3 (.slice (some ⟨be3, 0, none⟩) n cN) (.slice mN m dN) be3 k (.int .u16 (N k)) w' }, z.1.cell? ⟨gu, 3, none⟩ = some (.slice mN m dN) := fun z => z.2.2.1
        have o3 : ∀ z : { w' : World // ClD gr gu 3 (.slice (some ⟨be3, 0, none⟩) n cN) (.slice mN m dN) be3 k (.int .u16 (N k)) w' }, z.1.cell? ⟨be3, k, none⟩ = some (.int .u16 (N k)) := fun z => z.2.2.2
        have HR3 := Lib.hid (And.intro g3 (And.intro b3 (And.intro v3 nx3)))
        clear r3 g3 b3 v3 nx3 mg mb
        refine MixC.wp_region_mix_tail 16 [12, 13] (ClD gr gu 3 (.slice (some ⟨be3, 0, none⟩) n cN) (.slice mN m dN) be3 k (.int .u16 (N k))) C0.out (by kernel_rfl) (by kernel_rfl) (by kernel_rfl) ?_
        simp only [List.take_succ_cons, List.take_zero, List.drop_succ_cons, List.drop_zero]
        iterate 12 (refine MixC.mix_read rfl (fun K hK => ?_); go_simp; refine hK _ ?_; clear hK K)
        (refine MixC.mix_move rfl (fun K hK => ?_); go_simp; refine ⟨C1.out, hK _ _ ?_⟩; clear hK K)
        refine MixC.mix_move rfl (fun K hK => ?_)
        refine Eq.mpr (if_pos rfl) ?_
        refine mv_append (s := .tmp 82) (x := .tmp 90) (t := 62) rfl rfl rfl R3.out C2.out (hK _ _ ?_)
        clear hK K
        iterate 2 (refine MixC.mix_read rfl (fun K hK => ?_); go_simp; refine hK _ ?_; clear hK K)
        refine MixC.mix_nil ?_
        clear o1 o2 o3 hne
        go_wp2_with fail
        clear s1 s2 C0 C1 C2
        generalize hX : World.setCell w4 _ _ = X4
        have U4 := Lib.hid (HR3.out.2.2.2 X4 (by rw [← hX]; simp [World.setCell]) (fun q hq => by rw [← hX]; exact set_blk_other _ hq) (by rw [← hX, set_blk _ HR3.out.1]; rfl))
        have E4 : Hid (∀ q, q ∈ gu :: (av ++ owns (four (.slice (some ⟨be0, 0, none⟩) n cA) (.slice (some ⟨be1, 0, none⟩) n cB) (.slice (some ⟨be2, 0, none⟩) n cT) (.slice (some ⟨be3, 0, none⟩) n cN))) → q ≠ gu → X4.heap[q]? = X3.heap[q]?) := Lib.hid (fun q hq hne => by rw [← hX]; exact (set_blk_other _ hne).trans (HR3.out.2.2.1 q hq))
        have Z4 : Hid (X3.heap.size ≤ X4.heap.size) := Lib.hid (by rw [← hX]; have := HR3.out.2.1.size; simp [World.setCell] at this ⊢; exact this)
        have T4 := Lib.hid (RTab.stay T3.out Z4.out (E4.out gr (List.mem_cons_of_mem _ (List.mem_append_left _ H.out.gm)) hru) (fun q hq => E4.out q (List.mem_cons_of_mem _ (List.mem_append_right _ hq)) (HNU.out q hq)))
        have K4 : Hid (Below base w X4) := Lib.hid (by rw [← hX]; exact Below.setCell (K3.out.drew.trans HR3.out.2.1) (Nat.le_trans hbs hgub) _)
        have V4 : Hid (∀ q ∈ av, X4.heap[q]? = w.heap[q]?) := Lib.hid (fun q hq => (E4.out q (List.mem_cons_of_mem _ (List.mem_append_left _ hq)) (by have := H.out.lt q hq; omega)).trans (V3.out q hq))
        have S4 : Hid (base ≤ X4.heap.size) := Lib.hid (Nat.le_trans S3.out Z4.out)
        clear hX
        have FU : Hid (RT X4 base gu (gu :: (av ++ owns (four (.slice (some ⟨be0, 0, none⟩) n cA) (.slice (some ⟨be1, 0, none⟩) n cB) (.slice (some ⟨be2, 0, none⟩) n cT) (.slice (some ⟨be3, 0, none⟩) n cN)))) (.slice x0 (m + 1) y0) (.slice x1 (m + 1) y1) (.slice x2 (m + 1) y2) (.slice x3 (m + 1) y3) (m + 1) (dl p A) (dl p B) (dl p T) (dl p N)) := Lib.hid (RTab.congr U4.out
          (fun j hj => by have : j = 0 ∨ j = 1 ∨ j = 2 ∨ j = 3 := by omega
                          rcases this with rfl | rfl | rfl | rfl <;> rfl)
          (fun j hj => by have : j = 0 ∨ j = 1 ∨ j = 2 ∨ j = 3 := by omega
                          rcases this with rfl | rfl | rfl | rfl <;> rfl)
          (fun j hj i _ => by
            have key : ∀ L : Nat → Int, dl p L i = updN (dl p L) m (L k) i := fun L => by
              unfold updN
              by_cases him : i = m
              · subst him; rw [if_pos rfl]; exact HDL.out L
              · rw [if_neg him]
            have : j = 0 ∨ j = 1 ∨ j = 2 ∨ j = 3 := by omega
            rcases this with rfl | rfl | rfl | rfl
            · exact key A
            · exact key B
            · exact key T
            · exact key N))
        go_wp2_with fail
        go_roundw
        case rel => exact ⟨k + 1, m + 1, _, _, _, _, by omega, by go_num, Lib.hid ⟨T4.out, FU.out, by have h1 := HMK.out; have h2 := HKP.out; split at h1 <;> split <;> omega, K4.out, V4.out, S4.out⟩⟩
        case measure => simp [intOf] <;> omega
    · obtain rfl : k = n := by omega
      have hm : m = k - 1 := by have h1 := D.out.mm; rw [if_neg (by omega)] at h1; exact h1
      subst hm
      obtain ⟨mA, dA, hxa⟩ := own_len (D.out.u.col 0 (by omega))
      have hxa' : xa = .slice mA (k - 1) dA := hxa
      obtain ⟨mB, dB, hxb⟩ := own_len (D.out.u.col 1 (by omega))
      have hxb' : xb = .slice mB (k - 1) dB := hxb
      obtain ⟨mT, dT, hxc⟩ := own_len (D.out.u.col 2 (by omega))
      have hxc' : xc = .slice mT (k - 1) dT := hxc
      obtain ⟨mN, dN, hxd⟩ := own_len (D.out.u.col 3 (by omega))
      have hxd' : xd = .slice mN (k - 1) dN := hxd
      subst hxa' hxb' hxc' hxd'
      clear hxa hxb hxc hxd
      have u0 : wr.cell? ⟨gu, 0, none⟩ = some (.slice mA (k - 1) dA) := cell_blk D.out.u.blk
      have u1 : wr.cell? ⟨gu, 1, none⟩ = some (.slice mB (k - 1) dB) := cell_blk D.out.u.blk
      have u2 : wr.cell? ⟨gu, 2, none⟩ = some (.slice mT (k - 1) dT) := cell_blk D.out.u.blk
      have u3 : wr.cell? ⟨gu, 3, none⟩ = some (.slice mN (k - 1) dN) := cell_blk D.out.u.blk
      have t1 : wr.cell? ⟨gr, 1, none⟩ = some (.slice aB k cB) := cell_blk D.out.t.blk
      have t2 : wr.cell? ⟨gr, 2, none⟩ = some (.slice aT k cT) := cell_blk D.out.t.blk
      have t3 : wr.cell? ⟨gr, 3, none⟩ = some (.slice aN k cN) := cell_blk D.out.t.blk
      have z0 : wr.frozen? ⟨gr, 0, none⟩ = false := free_blk D.out.t.blk
      have z1 : wr.frozen? ⟨gr, 1, none⟩ = false := free_blk D.out.t.blk
      have z2 : wr.frozen? ⟨gr, 2, none⟩ = false := free_blk D.out.t.blk
      have z3 : wr.frozen? ⟨gr, 3, none⟩ = false := free_blk D.out.t.blk
      go_wp2_with fail
      generalize hF : World.setCell _ _ _ = Wf
      have gf : Wf.heap[gr]? = some (.cells #[.slice mA (k - 1) dA, .slice mB (k - 1) dB, .slice mT (k - 1) dT, .slice mN (k - 1) dN] 64 (0, 0)) := by rw [← hF]; simp [heap_set, D.out.t.blk, putIn]
      have KF : Keeps gr wr Wf := by rw [← hF]; (repeat (refine Keeps.setCell ?_ (by exact .inl rfl) _)); exact Keeps.refl _ _
      clear hF
      go_ret
      have mem : ∀ y ∈ av, y ∈ gu :: (av ++ owns (four (.slice aA k cA) (.slice aB k cB) (.slice aT k cT) (.slice aN k cN))) := fun y hy => List.mem_cons_of_mem _ (List.mem_append_left _ hy)
      refine ⟨rfl, ⟨_, _, _, _, ⟨gf, fun j hj => own_blk1 (D.out.u.col j hj) (fun q hq => KF.block q ((D.out.u.col j hj).lt q hq).2 (fun e => D.out.u.ng j hj q (by rw [e]; exact mem gr H.out.gm) hq)), D.out.u.ap, fun j hj y hy => D.out.u.ng j hj y (mem y hy), fun y hy => Nat.lt_of_lt_of_le (D.out.t.lt y hy) KF.size, H.out.gm, H.out.gb⟩⟩, Below.keeps D.out.bl D.out.sz H.out.gb KF, fun q hq hne => (KF.block q (D.out.t.lt q hq) hne).trans (D.out.hv q hq)⟩
end Go.Proofs.Ytihbceippcgfgaa
