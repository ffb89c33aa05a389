/-
  The walk of WindowMarks.
-/
import Derived.Test.YtkdjkaimcciemaaWinPlain
import Derived.Deep.QuietTactic
import Derived.BigQuiet
import Derived.StillTailTactics
namespace Go.Proofs.Ytkdjkaimcciemaa
open Go.RowKit
set_option linter.unusedVariables false
set_option linter.unusedSimpArgs false

/-- what holds ahead of each index -/
structure WP (w0 wr : World) (g r k : Nat) (n b : Int) (v : Value) (N : Nat) (X : Nat → Int) : Prop where
  x : win wr g n b
  y : rwin wr r v
  s : rls wr w0.heap.size g r v N X
  q : Below w0.heap.size w0 wr
  i : WI n b N X
  m : N ≤ k
theorem WP.drewN {w0 wr : World} {g r k : Nat} {n b : Int} {v : Value} {N : Nat} {X : Nat → Int} (h : WP w0 wr g r k n b v N X) (m : Nat) : WP w0 (wr.drewN m) g r k n b v N X := ⟨h.x, h.y, ⟨h.s.own, h.s.ne⟩, below_drewN0 h.q m, h.i, h.m⟩
theorem rls.far {w : World} {base g r : Nat} {v : Value} {n : Nat} {X : Nat → Int} (h : rls w base g r v n X) (k : Nat) (hk : k < base ∨ k = g ∨ w.heap.size ≤ k) : v.ownBlock ≠ some k := fun e => by
  have h1 := h.own.lt k e
  have h2 := h.ne k e
  omega
theorem boxes2' (w : World) (A B : Obj) : ((w.alloc A).alloc B).heap[w.heap.size]? = some A ∧ ((w.alloc A).alloc B).heap[w.heap.size + 1]? = some B := by
  refine ⟨?_, ?_⟩
  · rw [heap_alloc, heap_alloc, if_neg (by simp), if_pos rfl]
  · rw [heap_alloc, if_pos (by simp)]
theorem flipW {P : Program} {f : FuncId} {args : Array Value} {w : World} {v : Value} (h : Calls P f args w fun e w' => e = .returned v ∧ w = w') : Calls P f args w fun e w' => e = .returned v ∧ w' = w := h.mono fun _ _ ⟨a, b⟩ => ⟨a, b.symm⟩
attribute [local irreducible] wpStill
set_option maxRecDepth 100000 in
set_option maxHeartbeats 8000000 in
theorem WindowMarks.walk (a : Option Addr) (len cap : Nat) (zs : List Int) (x : Int) (w : World) (r0 : IsRow .i64 w a len cap zs) (w1 : (Lit.int .i64 x).wf = true) :
    Calls Try.prog 7 #[.slice a len cap, .int .i64 x] w fun e w' => e = .returned (.bool true) ∧ Below w.heap.size w w' := by
  obtain ⟨b, off, Z, ha, hl, hm, hc, hz⟩ := row_open r0
  have hx0 := bounds_i64 w1
  have HA := Lib.hid ha
  have HC := Lib.hid hc
  have HZ := Lib.hid hz
  clear ha hc hz r0 w1
  go_enter Try.func7, Try.ntmps7
  go_wp2_with fail
  refine (alive08_any _).mono ?_
  rintro e w1 ⟨rfl, B1⟩
  have bx := boxes2' w1 (.cells #[.int .i64 0, .int .u64 0] 56) (.cells #[.slice none 0 0] 63)
  have B2 : Below w.heap.size w ((w1.alloc (.cells #[.int .i64 0, .int .u64 0] 56)).alloc (.cells #[.slice none 0 0] 63)) := (B1.alloc B1.size _).alloc (by have := B1.size; simp; omega) _
  go_wp2_with fail
  obtain ⟨g, hg⟩ : ∃ g, g = w1.heap.size := ⟨_, rfl⟩
  have q0 := B1.size
  rw [← hg] at bx q0
  rw [← hg]
  have hgr : g ≠ g + 1 := by omega
  clear hg B1
  go_loopw [7] (fun si wr => ∃ (k : Nat) (n m : Int) (v : Value) (N : Nat) (X : Nat → Int), k ≤ len ∧ si = .int .i64 k ∧ Hid (WP w wr g (g + 1) k n m v N X)) (fun si _ => len - (intOf si).toNat)
  case atStart => exact ⟨0, 0, 0, .slice none 0 0, 0, fun _ => 0, by omega, rfl, Lib.hid ⟨bx.1, bx.2, ⟨⟨rfl, .inl ⟨rfl, rfl⟩⟩, fun q hq => by cases hq⟩, B2, WI.zero _, Nat.le_refl _⟩⟩
  case round =>
    obtain ⟨k, n, m, v, N, X, hk, rfl, R⟩ := hrel
    have xb := R.out.q
    by_cases hlt : k < len ∧ k < 200
    · obtain ⟨hlt1, hlt2⟩ := hlt
      obtain ⟨rfl, hbs⟩ := HA.out (by omega)
      have hcell := Below.cell' xb hbs (HC.out k (by omega))
      have HB := Lib.hid (HC.out k (by omega))
      have hkcap : (k : Int) < (cap : Int) := by omega
      generalize Z k = z at *
      by_cases hgz : z ≤ 4611686018427387904
      · by_cases hgx : x ≤ 4611686018427387904
        · obtain ⟨fz, hfz⟩ : ∃ fz, rfr X N z = fz := ⟨_, rfl⟩
          obtain ⟨fx, hfx⟩ : ∃ fx, rfr X N x = fx := ⟨_, rfl⟩
          have F1 : Hid (∀ W : World, win W g n m → Calls Try.prog 30 #[.pointer (some ⟨g, 0, none⟩), .int .i64 z] W fun e w' => e = .returned (.bool fz) ∧ W = w') := Lib.hid (fun W h => by rw [← hfz, ← R.out.i.fresh z]; exact wfresh_any g n m z W h R.out.i.n0 R.out.i.n1 R.out.i.b0 R.out.i.b1 (by omega))
          have F2 : Hid (∀ W : World, win W g n m → Calls Try.prog 30 #[.pointer (some ⟨g, 0, none⟩), .int .i64 x] W fun e w' => e = .returned (.bool fx) ∧ W = w') := Lib.hid (fun W h => by rw [← hfx, ← R.out.i.fresh x]; exact wfresh_any g n m x W h R.out.i.n0 R.out.i.n1 R.out.i.b0 R.out.i.b1 (by omega))
          have G1 : Hid (∀ W : World, rwin W (g + 1) v → rls W w.heap.size g (g + 1) v N X → Calls Try.prog 32 #[.pointer (some ⟨g + 1, 0, none⟩), .int .i64 z] W fun e w' => e = .returned (.bool fz) ∧ W = w') := Lib.hid (fun W h ho => by rw [← hfz]; exact rwfresh_any w.heap.size g (g + 1) v N X z W h ho (by have := R.out.m; omega) hgz)
          have G2 : Hid (∀ W : World, rwin W (g + 1) v → rls W w.heap.size g (g + 1) v N X → Calls Try.prog 32 #[.pointer (some ⟨g + 1, 0, none⟩), .int .i64 x] W fun e w' => e = .returned (.bool fx) ∧ W = w') := Lib.hid (fun W h ho => by rw [← hfx]; exact rwfresh_any w.heap.size g (g + 1) v N X x W h ho (by have := R.out.m; omega) hgx)
          have t1 : (fz != fz) = false := by simp
          have t2 : (fx != fx) = false := by simp
          have gx := R.out.x
          have gy := R.out.y
          have gs := R.out.s
          have HGN := Lib.hid (fun i hi W => great_no i W hi)
          go_wp2_with fail
          refine (great_no z _ hgz).mono ?_
          rintro e w2 ⟨rfl, rfl⟩
          go_wp2_with fail
          refine (great_no x _ hgx).mono ?_
          rintro e w2 ⟨rfl, rfl⟩
          go_wp2_with fail
          refine wp_region_still_lit (by kernel_rfl) (by kernel_rfl) ?_
          iterate 4 still_step
          still_call (flipW (F1.out wr.drew gx))
          iterate 5 still_step
          still_call (flipW (G1.out wr.drew gy ⟨gs.own, gs.ne⟩))
          iterate 3 still_step
          still_call (flipW (F2.out wr.drew gx))
          iterate 2 still_step
          still_call (flipW (G2.out wr.drew gy ⟨gs.own, gs.ne⟩))
          iterate 2 still_step
          refine wpStill_nil ?_
          change Exit.then _ _ _ _ wr.drew
          go_wp2_with fail
          clear F1 F2 G1 G2 t1 t2 gx gy gs HGN hfx
          generalize hW : wr.drew = W
          have R1 : Hid (WP w W g (g + 1) k n m v N X) := Lib.hid (by rw [← hW]; exact R.out.drewN 1)
          clear hW R xb hcell
          have hNk := R1.out.m
          cases fz
          · have HF : Hid (freshB n m z = false) := Lib.hid (by rw [R1.out.i.fresh z, hfz])
            refine (wmark_not g n m z W R1.out.x R1.out.i.n0 R1.out.i.n1 R1.out.i.b0 R1.out.i.b1 hgz HF).mono ?_
            rintro e w3 ⟨rfl, g3, k3⟩
            have b3 := Below.keeps R1.out.q R1.out.q.size q0 k3
            have R3 : Hid (WP w w3 g (g + 1) k n m v N X) := Lib.hid ⟨g3, k3.blk R1.out.y (by omega), R1.out.s.keepsG k3, b3, R1.out.i, R1.out.m⟩
            have hcell3 := Below.cell' b3 hbs HB.out
            clear g3 k3 b3 R1
            go_wp2_with fail
            refine (rwmark_no w.heap.size g (g + 1) v N X z w3 R3.out.y R3.out.s (by omega) hgz hfz).mono ?_
            rintro e w4 ⟨rfl, rfl⟩
            have R4 : Hid (WP w w3 g (g + 1) (k + 1) n m v N X) := Lib.hid ⟨R3.out.x, R3.out.y, R3.out.s, R3.out.q, R3.out.i, by omega⟩
            clear R3 hcell3
            go_wp2_with fail
            refine (whigh_any g n m w3 R4.out.x R4.out.i.n0 R4.out.i.n1).mono ?_
            rintro e w5 ⟨rfl, rfl⟩
            go_wp2_with fail
            refine (rwhigh_any w.heap.size g (g + 1) v N X w3 R4.out.y R4.out.s (by omega)).mono ?_
            rintro e w6 ⟨rfl, rfl⟩
            rw [R4.out.i.top]
            go_wp2_with fail
            refine (wcount_any g n m w3 R4.out.x R4.out.i.b0 R4.out.i.b1).mono ?_
            rintro e w7 ⟨rfl, rfl⟩
            rw [R4.out.i.count]
            go_wp2_with fail
            refine (rwcount_any w.heap.size g (g + 1) v N X w3 R4.out.y R4.out.s (by omega) (fun i hi => by have := R4.out.i.el i hi; have := R4.out.i.n1; omega)).mono ?_
            rintro e w8 ⟨rfl, m8, rfl⟩
            go_wp2_with fail
            go_roundw
            case rel => exact ⟨k + 1, _, _, _, _, _, by omega, by go_num, Lib.hid (R4.out.drewN _)⟩
            case measure => simp [intOf] <;> omega
          · have HF : freshB n m z = true := by rw [R1.out.i.fresh z, hfz]
            have hw := wmark_any g n m z W R1.out.x R1.out.i.n0 R1.out.i.n1 R1.out.i.b0 R1.out.i.b1 hgz
            rw [show markE n m z = 0 by simp [markE, HF], show markN' n m z = markN n z by simp [markN', HF], show markB' n m z = markB n m z by simp [markB', HF]] at hw
            have HI := Lib.hid (R1.out.i.mark z hgz HF)
            clear HF
            refine hw.mono ?_
            clear hw
            rintro e w3 ⟨rfl, g3, k3⟩
            have b3 := Below.keeps R1.out.q R1.out.q.size q0 k3
            have r3 : rwin w3 (g + 1) v := k3.blk R1.out.y (by omega)
            have s3 := R1.out.s.keepsG k3
            have hcell3 := Below.cell' b3 hbs HB.out
            clear k3 R1
            go_wp2_with fail
            refine (rwmark_yes w.heap.size g (g + 1) v N X z w3 r3 s3 (by omega) b3.size hgz hfz).mono ?_
            rintro e w4 ⟨rfl, q, cap', r4, o4, hq4, hf4, z4, os4, t4, u4⟩
            have g4 : win w4 g (markN n z) (markB n m z) := (hf4 g g3.lt hgr (s3.far g (.inr (.inl rfl)))).trans g3
            have b4 : Below w.heap.size w w4 := ⟨os4.trans b3.os, t4.trans b3.tape, u4.trans b3.output, by have := b3.size; omega, fun p hp => (hf4 p (by have := b3.size; omega) (by omega) (s3.far p (.inl hp))).trans (b3.block p hp)⟩
            have hqne : q ≠ g ∧ q ≠ g + 1 := by
              rcases hq4 with h | h
              · exact s3.ne q h
              · have := r3.lt; have := g3.lt; omega
            have R4 : Hid (WP w w4 g (g + 1) (k + 1) (markN n z) (markB n m z) (.slice (some ⟨q, 0, none⟩) (N + 1) cap') (N + 1) (fun j => if j = N then z else X j)) := Lib.hid ⟨g4, r4, ⟨o4, fun p hp => by
              obtain rfl : q = p := by simpa [Value.ownBlock] using hp
              exact hqne⟩, b4, HI.out, by omega⟩
            clear g4 r4 o4 hq4 hf4 z4 os4 t4 u4 b4 hqne g3 r3 s3 b3 HI hcell3
            generalize markN n z = n' at *
            generalize markB n m z = m' at *
            generalize (fun j => if j = N then z else X j) = X' at *
            go_wp2_with fail
            refine (whigh_any g n' m' w4 R4.out.x R4.out.i.n0 R4.out.i.n1).mono ?_
            rintro e w5 ⟨rfl, rfl⟩
            go_wp2_with fail
            refine (rwhigh_any w.heap.size g (g + 1) _ (N + 1) X' w4 R4.out.y R4.out.s (by omega)).mono ?_
            rintro e w6 ⟨rfl, rfl⟩
            rw [R4.out.i.top]
            go_wp2_with fail
            refine (wcount_any g n' m' w4 R4.out.x R4.out.i.b0 R4.out.i.b1).mono ?_
            rintro e w7 ⟨rfl, rfl⟩
            rw [R4.out.i.count]
            go_wp2_with fail
            refine (rwcount_any w.heap.size g (g + 1) _ (N + 1) X' w4 R4.out.y R4.out.s (by omega) (fun i hi => by have := R4.out.i.el i hi; have := R4.out.i.n1; omega)).mono ?_
            rintro e w8 ⟨rfl, m8, rfl⟩
            go_wp2_with fail
            go_roundw
            case rel => exact ⟨k + 1, _, _, _, _, _, by omega, by go_num, Lib.hid (R4.out.drewN _)⟩
            case measure => simp [intOf] <;> omega
        · go_wp2_with fail
          refine (great_no z _ hgz).mono ?_
          rintro e w2 ⟨rfl, rfl⟩
          go_wp2_with fail
          refine (great_yes x _ (by omega)).mono ?_
          rintro e w2 ⟨rfl, rfl⟩
          go_wp2_with fail
          go_ret
          exact ⟨rfl, xb⟩
      · go_wp2_with fail
        refine (great_yes z _ (by omega)).mono ?_
        rintro e w2 ⟨rfl, rfl⟩
        go_wp2_with fail
        go_ret
        exact ⟨rfl, xb⟩
    · clear R
      go_wp2_with fail
      all_goals
        go_ret
        exact ⟨rfl, xb⟩
end Go.Proofs.Ytkdjkaimcciemaa
