/-
  Chapter 44: a packet of its own number, where there is no room: the window of conflicts moves on.
-/
import Derived.Test.YtkoplofcjbeicaaCoO
import Derived.Test.YtkoplofcjbeicaaMixT
namespace Go.Proofs.Ytkoplofcjbeicaa
open Go.RowKit
set_option linter.unusedVariables false
set_option linter.unusedSimpArgs false
attribute [local irreducible] wpStill wpQuiet MixC.wpMix
attribute [local go_sem] MixC.rdOp MixC.rd MixC.rdUpon MixC.mvUpon

/-- the conflicts at port lo and up, n of them, each at its own tick -/
def winC (lo n : Nat) : Plc → Option Value := fun x => if x.1 = 0 ∧ (lo : Int) ≤ x.2 ∧ x.2 < (lo : Int) + n then some (.int .i64 x.2) else none
def winL (lo n : Nat) : List Plc := (List.range n).map fun k => ((0 : Int), ((lo + k : Nat) : Int))
theorem winC_some {lo n : Nat} {x : Plc} {v : Value} (h : winC lo n x = some v) : v = .int .i64 x.2 ∧ (lo : Int) ≤ x.2 ∧ x.2 < (lo : Int) + n := by
  unfold winC at h
  split at h
  · rename_i h1; injection h with h; exact ⟨h.symm, h1.2⟩
  · cases h
theorem winC_at {lo n k : Nat} (hk : k < n) : winC lo n ((0 : Int), ((lo + k : Nat) : Int)) = some (.int .i64 ((lo + k : Nat) : Int)) := by
  unfold winC; rw [if_pos ⟨rfl, by show (lo : Int) ≤ ((lo + k : Nat) : Int); omega, by show ((lo + k : Nat) : Int) < (lo : Int) + n; omega⟩]
theorem winC_next (lo n : Nat) : winC lo n ((0 : Int), ((lo + n : Nat) : Int)) = none := by
  unfold winC; rw [if_neg (fun h => by have := h.2.2; simp at this)]
theorem winC_push (lo n : Nat) : setAt (winC lo n) ((0 : Int), ((lo + n : Nat) : Int)) (some (.int .i64 ((lo + n : Nat) : Int))) = winC lo (n + 1) := by
  funext x
  unfold setAt winC
  obtain ⟨a, b⟩ := x
  by_cases e : ((a, b) : Plc) = ((0 : Int), ((lo + n : Nat) : Int))
  · rw [if_pos e]
    injection e with e1 e2
    subst e1; subst e2
    rw [if_pos ⟨rfl, by simp; omega, by simp; omega⟩]
  · rw [if_neg e]
    by_cases h : a = 0 ∧ (lo : Int) ≤ b ∧ b < (lo : Int) + n
    · rw [if_pos h, if_pos ⟨h.1, h.2.1, by show b < (lo : Int) + ((n + 1 : Nat) : Int); have := h.2.2; omega⟩]
    · rw [if_neg h, if_neg]
      rintro ⟨h1, h2, h3⟩
      have h3' : b < (lo : Int) + ((n + 1 : Nat) : Int) := h3
      have h1' : a = 0 := h1
      have h2' : (lo : Int) ≤ b := h2
      refine h ⟨h1', h2', ?_⟩
      have : b ≠ ((lo + n : Nat) : Int) := fun e2 => e (by rw [h1', e2])
      omega
theorem winC_shift (lo n : Nat) : setAt (winC lo (n + 1)) ((0 : Int), (lo : Int)) none = winC (lo + 1) n := by
  funext x
  unfold setAt winC
  obtain ⟨a, b⟩ := x
  by_cases e : ((a, b) : Plc) = ((0 : Int), (lo : Int))
  · rw [if_pos e]
    injection e with e1 e2
    subst e1; subst e2
    rw [if_neg (fun h => by have := h.2.1; simp at this; omega)]
  · rw [if_neg e]
    by_cases h : a = 0 ∧ ((lo + 1 : Nat) : Int) ≤ b ∧ b < ((lo + 1 : Nat) : Int) + n
    · rw [if_pos h, if_pos ⟨h.1, by show (lo : Int) ≤ b; have := h.2.1; omega, by show b < (lo : Int) + ((n + 1 : Nat) : Int); have := h.2.2; omega⟩]
    · rw [if_neg h, if_neg]
      rintro ⟨h1, h2, h3⟩
      have h3' : b < (lo : Int) + ((n + 1 : Nat) : Int) := h3
      have h1' : a = 0 := h1
      have h2' : (lo : Int) ≤ b := h2
      have : b ≠ (lo : Int) := fun e2 => e (by rw [h1', e2])
      exact h ⟨h1', by omega, by omega⟩
theorem winL_len (lo n : Nat) : (winL lo n).length = n := by simp [winL]
theorem winL_get (lo n i : Nat) (h : i < n) : (winL lo n)[i]! = ((0 : Int), ((lo + i : Nat) : Int)) := by simp [winL, h]
/-- the window's places, rising, are one list -/
theorem sorted_win {lo n : Nat} {M : List Plc} (h : Sorted (winC lo n) M) (hb : lo + n ≤ 65536) : M = winL lo n := by
  refine List.Perm.eq_of_pairwise (le := fun x y => ltOf cmpP y x = false) (fun a b _ _ h1 h2 => tot_plc a b h2 h1) h.up ?_ ?_
  · unfold winL
    rw [List.pairwise_map]
    refine List.Pairwise.imp_of_mem (R := fun a b => a < b) ?_ List.pairwise_lt_range
    intro a b ha hb hab
    rw [lt_plc]
    simp
    omega
  · refine (List.perm_ext_iff_of_nodup h.nd ?_).2 fun x => ?_
    · unfold winL
      rw [List.nodup_iff_pairwise_ne, List.pairwise_map]
      refine List.Pairwise.imp_of_mem (R := fun a b => a < b) ?_ List.pairwise_lt_range
      intro a b ha hb hab e
      injection e with _ e
      omega
    · obtain ⟨a, b⟩ := x
      constructor
      · intro hm
        have hs := (h.iff _ (h.is _ hm)).1 hm
        obtain ⟨v, hv⟩ := Option.isSome_iff_exists.1 hs
        have h0 : a = 0 := by
          unfold winC at hv
          split at hv
          · rename_i h1; exact h1.1
          · cases hv
        obtain ⟨-, h1, h2⟩ := winC_some hv
        have h1' : (lo : Int) ≤ b := h1
        have h2' : b < (lo : Int) + n := h2
        unfold winL
        refine List.mem_map.2 ⟨(b - lo).toNat, List.mem_range.2 (by omega), ?_⟩
        rw [h0]
        congr 1
        omega
      · intro hm
        unfold winL at hm
        obtain ⟨k, hk, he⟩ := List.mem_map.1 hm
        have hk' := List.mem_range.1 hk
        rw [← he]
        refine (h.iff _ ⟨(by decide : (Lit.int .u32 0).wf = true), ?_⟩).2 ?_
        · show (Lit.int .u16 ((lo + k : Nat) : Int)).wf = true
          have m1 : IntKind.u16.min = 0 := rfl
          have m2 : IntKind.u16.max = 65535 := rfl
          simp only [Lit.wf, m1, m2, Bool.and_eq_true, decide_eq_true_eq]
          omega
        · rw [winC_at hk']; rfl
set_option maxRecDepth 100000 in
set_option maxHeartbeats 8000000 in
theorem mine_full (B g ms mc N : Nat) (own kp : Int) (S : Int → Option Value) (ns : Nat) (lo : Nat) (w : World) (h : BK B g ms mc N own kp S ns (winC lo 16) 16 w) (hN : N < 10000) (hlo : lo ≤ 500) :
    Calls Try.prog 65 #[.pointer (some ⟨g, 0, none⟩), .agg #[.int .u32 0, .int .u16 ((lo + 16 : Nat) : Int)], .int .i64 ((lo + 16 : Nat) : Int)] w (TkP B g ms mc (N + 1) own kp S ns (winC (lo + 1) 16) 16 3 w) := by
  obtain ⟨hi, hhi⟩ : ∃ hi, hi = lo + 16 := ⟨_, rfl⟩
  have hp : plok ((0 : Int), (hi : Int)) := by
    have m1 : IntKind.u16.min = 0 := rfl
    have m2 : IntKind.u16.max = 65535 := rfl
    refine ⟨(by decide : (Lit.int .u32 0).wf = true), ?_⟩
    show (Lit.int .u16 (hi : Int)).wf = true
    simp only [Lit.wf, m1, m2, Bool.and_eq_true, decide_eq_true_eq]
    omega
  rw [← hhi]
  obtain ⟨V, hV⟩ : ∃ V, (w.alloc (.cells #[.pointer (some ⟨g, 0, none⟩)] 65)).alloc (.cells #[.int .u32 0, .int .u16 (hi : Int)] 43) = V := ⟨_, rfl⟩
  have bV : Below w.heap.size w V := by rw [← hV]; exact ((Below.refl _ _).alloc (Nat.le_refl _) _).alloc (by simp) _
  have g1 : V.heap[w.heap.size]? = some (.cells #[.pointer (some ⟨g, 0, none⟩)] 65 (0, 0)) := by rw [← hV, alloc_blk_old (by simp)]; exact alloc_blk_new
  have g2 : V.heap[w.heap.size + 1]? = some (.cells #[.int .u32 0, .int .u16 (hi : Int)] 43 (0, 0)) := by
    rw [← hV]
    have h := alloc_blk_new (w := w.alloc (.cells #[.pointer (some ⟨g, 0, none⟩)] 65)) (o := .cells #[.int .u32 0, .int .u16 (hi : Int)] 43)
    rw [show (w.alloc (.cells #[.pointer (some ⟨g, 0, none⟩)] 65)).heap.size = w.heap.size + 1 by simp] at h
    exact h
  have HV := h.keep bV
  obtain ⟨V1, hV1⟩ : ∃ V1, V.drew = V1 := ⟨_, rfl⟩
  have bV1 : Below V.heap.size V V1 := by rw [← hV1]; exact (Below.refl _ _).drew
  have HV1 := HV.keep bV1
  have hlkV := (HV.keep (w' := V.drew) (Below.refl _ _).drew).look ((0 : Int), (hi : Int)) hp
  have hw0 : winC lo 16 ((0 : Int), (hi : Int)) = none := by rw [hhi]; exact winC_next lo 16
  rw [hw0] at hlkV
  have hlkV' : (Instr.lookup 113 (.map (some mc)) (.agg #[.int .u32 0, .int .u16 (hi : Int)]) true).run Try.prog V.drew = .ok (.tuple #[.int .i64 0, .bool false]) V.drew := hlkV
  have HV2 := HV1.keep (w' := V1.drew) (Below.refl _ _).drew
  obtain ⟨W5, hst, h5, b5, k5⟩ := HV2.con_set (by omega) ((0 : Int), (hi : Int)) hp (.int .i64 (hi : Int))
  rw [hw0] at h5
  have h5' : BK B g ms mc (N + 1) own kp S ns (winC lo 17) 17 W5 := by
    have e := winC_push lo 16
    rw [← hhi] at e
    rw [← e]; exact h5
  have hst' : (Instr.mapUpdate 113 (.map (some mc)) (.agg #[.int .u32 0, .int .u16 (hi : Int)]) (.int .i64 (hi : Int))).run Try.prog V1.drew = .ok () W5 := hst
  have H5 := Lib.hid h5'
  have B5 : Hid (Kq ms mc w W5) := Lib.hid ((((Kq.bl bV).trans (Kq.bl bV1)).trans (Kq.bl (Below.refl _ _).drew)).trans (Kq.rk k5))
  have HVe := Lib.hid hV
  have HV1e := Lib.hid hV1
  have HST := Lib.hid hst'
  have HP := Lib.hid hp
  have HHI := Lib.hid hhi
  have hmc := h.con.lt
  have k1 : V1.heap[w.heap.size]? = _ := Below.blk bV1 g1 (lt_of_block g1)
  have k2 : V1.heap[w.heap.size + 1]? = _ := Below.blk bV1 g2 (lt_of_block g2)
  have c3 : V1.cell? ⟨g, 3, none⟩ = some (.map (some mc)) := cell_blk HV1.blk
  have d3 : V.cell? ⟨g, 3, none⟩ = some (.map (some mc)) := cell_blk HV.blk
  have e0 : V.cell? ⟨w.heap.size, 0, none⟩ = some (.pointer (some ⟨g, 0, none⟩)) := cell_blk g1
  have e1 : V.cell? ⟨w.heap.size + 1, 0, none⟩ = some (.int .u32 0) := cell_blk g2
  have e2 : V.cell? ⟨w.heap.size + 1, 1, none⟩ = some (.int .u16 (hi : Int)) := cell_blk g2
  have f0 : V1.cell? ⟨w.heap.size, 0, none⟩ = some (.pointer (some ⟨g, 0, none⟩)) := cell_blk k1
  have f1 : V1.cell? ⟨w.heap.size + 1, 0, none⟩ = some (.int .u32 0) := cell_blk k2
  have f2 : V1.cell? ⟨w.heap.size + 1, 1, none⟩ = some (.int .u16 (hi : Int)) := cell_blk k2
  have c35 : W5.cell? ⟨g, 3, none⟩ = some (.map (some mc)) := cell_blk h5'.blk
  have p1 : W5.heap[w.heap.size]? = some (.cells #[.pointer (some ⟨g, 0, none⟩)] 65 (0, 0)) := (k5.block _ (lt_of_block k1) (by omega)).trans k1
  have p2 : W5.heap[w.heap.size + 1]? = some (.cells #[.int .u32 0, .int .u16 (hi : Int)] 43 (0, 0)) := (k5.block _ (lt_of_block k2) (by omega)).trans k2
  have b15 : W5.cell? ⟨w.heap.size, 0, none⟩ = some (.pointer (some ⟨g, 0, none⟩)) := cell_blk p1
  have P1 := Lib.hid p1
  have P2 := Lib.hid p2
  have HWV := Lib.hid (show Kq ms mc w W5 from B5.out)
  have hlen := fun ty => h5'.con.len (t := 113) Try.underlying113 ty
  have hmf : ∀ (fn : Fn) (first cap : Array Value) (w : World), (Instr.makeFunc fn first cap).run Try.prog w = .ok (.func fn first cap) w := fun _ _ _ _ => rfl
  clear hV hV1 hst hst' h HV g1 g2 k5 k1 k2 HV1 HV2 h5 h5' b5 bV bV1 hlkV hw0 p1 p2 hp hhi
  go_enter Try.func65, Try.ntmps65
  go_wp2_with fail
  rw [HVe.out]
  refine wp_region_still_lit (by kernel_rfl) (by kernel_rfl) ?_
  iterate 11 still_step
  refine wpStill_nil ?_
  change Exit.then _ _ _ _ V.drew
  rw [HV1e.out]
  clear d3 e0 e1 e2 hlkV'
  go_wp2_with fail
  have hst := HST.out
  go_still_tail 6, (by kernel_rfl)
  change wpList _ _ _ _ _ V1.drew
  go_wp2_with fail
  clear c3 f0 f1 f2 hst hlen
  refine (places_any B g ms mc (N + 1) own kp S ns (winC lo 17) 17 W5 H5.out (fun x v hx => ⟨_, (winC_some hx).1⟩) (by omega)).mono ?_
  rintro e w6 ⟨b6, M, hM, -, hx⟩
  obtain rfl := sorted_win hM (by omega)
  obtain ⟨b, c, hb, rfl, hrow⟩ : ∃ b c, W5.heap.size ≤ b ∧ e = .returned (.slice (some ⟨b, 0, none⟩) 17 c) ∧ TRow w6 b 17 c (fun i => (winL lo 17)[i]!) := by
    rcases hx with ⟨h0, -⟩ | ⟨b, c, h1, -, h2, h3⟩
    · have := winL_len lo 17; rw [h0] at this; cases this
    · rw [winL_len] at h2 h3
      exact ⟨b, c, h1, h2, h3⟩
  have HB6 := Lib.hid b6
  have q2 := Below.blk b6 P2.out (lt_of_block P2.out)
  have HD := Lib.hid (del44_last 82 #[.pointer (some ⟨w.heap.size + 1, 0, none⟩)] (fun i => decide (i = 16)) b 16 c (fun i => (winL lo 17)[i]!) w6 hrow (by omega) (fun i hi => rfl) (fun v W => by kernel_rfl) (fun i hi W hbW => by
    have h := mine1 (w.heap.size + 1) ((winL lo 17)[i]!) ((0 : Int), ((lo + 16 : Nat) : Int)) W (by
      have := Below.blk hbW q2 (lt_of_block q2)
      rw [HHI.out] at this
      exact this)
    rw [winL_get lo 17 i hi] at h ⊢
    have e : decide (((0 : Int), ((lo + i : Nat) : Int)) = (((0 : Int), ((lo + 16 : Nat) : Int)) : Plc)) = decide (i = 16) := by
      congr 1
      apply propext
      constructor
      · intro h; injection h with _ h; omega
      · intro h; rw [h]
    rw [e] at h
    exact h))
  have HBB := Lib.hid hb
  clear hM hx hrow b6 q2 hb b15 c35
  have c36 : w6.cell? ⟨w.heap.size, 0, none⟩ = some (.pointer (some ⟨g, 0, none⟩)) := cell_blk (Below.blk HB6.out P1.out (lt_of_block P1.out))
  go_wp2_with fail
  refine HD.out.mono ?_
  rintro e w7 ⟨hbut, hrow, rfl⟩
  have hb7 : Below W5.heap.size W5 w7 := HB6.out.trans (hbut.below HB6.out.size (fun k e => by injection e with e; have := HBB.out; omega))
  have HB7 := Lib.hid hb7
  have HR7 := Lib.hid hrow
  have K7 := Lib.hid (H5.out.keep hb7)
  have P7 := Lib.hid (Below.blk hb7 P1.out (lt_of_block P1.out))
  clear hbut hrow hb7 c36 HD HB6
  go_upto_region 7 with (fail)
  have D0 : Hid (Below w7.heap.size w7 w7.drew) := Lib.hid (Below.refl _ _).drew
  have HMN := Lib.hid (min44 84 #[.pointer (some ⟨w.heap.size, 0, none⟩)] b 16 c (fun i => (winL lo 17)[i]!) w7.drew (HR7.out.keep D0.out) (by omega) (by omega) (fun v u W => by kernel_rfl) (fun i h1 hi W hbW => by
    have hb : Below w7.heap.size w7 W := D0.out.trans hbW
    have q0 := winL_get lo 17 0 (by omega)
    have qi := winL_get lo 17 i (by omega)
    simp only [q0, qi]
    have pk : ∀ k, k < 17 → plok ((0 : Int), ((lo + k : Nat) : Int)) := fun k hk => by
      have m1 : IntKind.u16.min = 0 := rfl
      have m2 : IntKind.u16.max = 65535 := rfl
      refine ⟨(by decide : (Lit.int .u32 0).wf = true), ?_⟩
      show (Lit.int .u16 ((lo + k : Nat) : Int)).wf = true
      simp only [Lit.wf, m1, m2, Bool.and_eq_true, decide_eq_true_eq]
      omega
    refine (mine2 B g ms mc (N + 1) own kp S ns (winC lo 17) 17 W (K7.out.keep hb) w.heap.size _ _ _ _ (pk i (by omega)) (pk 0 (by omega)) (winC_at (by omega)) (winC_at (by omega)) (Below.blk hb P7.out (lt_of_block P7.out))).mono ?_
    rintro e w' ⟨rfl, hb'⟩
    refine ⟨⟨_, rfl, ?_⟩, hb'⟩
    unfold cmpI
    rw [if_neg (by omega), if_pos (by omega)]
    omega))
  have hq0 := winL_get lo 17 0 (by omega)
  have hne : Nonempty { w' : World // Below w7.heap.size w7 w' } := ⟨⟨w7, Below.refl _ _⟩⟩
  have c1 : ∀ y : { w' : World // Below w7.heap.size w7 w' }, y.1.cell? ⟨w.heap.size, 0, none⟩ = some (.pointer (some ⟨g, 0, none⟩)) := fun y => Below.cell' y.2 (lt_of_block P7.out) (cell_blk P7.out)
  have c2 : ∀ y : { w' : World // Below w7.heap.size w7 w' }, y.1.cell? ⟨g, 3, none⟩ = some (.map (some mc)) := fun y => Below.cell' y.2 (lt_of_block K7.out.blk) (cell_blk K7.out.blk)
  refine MixC.wp_region_mix_tail 7 [6] (Below w7.heap.size w7) D0.out (by kernel_rfl) (by kernel_rfl) (by kernel_rfl) ?_
  simp only [List.take_succ_cons, List.take_zero, List.drop_succ_cons, List.drop_zero]
  (iterate 6 (refine MixC.mix_read rfl (fun K hK => ?_); go_simp; refine hK _ ?_; clear hK K))
  refine MixC.mix_move rfl (fun K hK => ?_)
  go_simp
  refine HMN.out.mono ?_
  rintro e x ⟨bx, rfl⟩
  refine ⟨_, rfl, D0.out.trans bx, hK _ _ ?_⟩
  clear hK K
  refine MixC.mix_nil ?_
  have KX := K7.out.keep (D0.out.trans bx)
  rw [hq0, Nat.add_zero]
  clear c1 c2 hne hq0
  obtain ⟨W9, hdel, h9, b9, k9⟩ := KX.con_drop ((0 : Int), (lo : Int)) ⟨(by decide : (Lit.int .u32 0).wf = true), by
      have m1 : IntKind.u16.min = 0 := rfl
      have m2 : IntKind.u16.max = 65535 := rfl
      show (Lit.int .u16 (lo : Int)).wf = true
      simp only [Lit.wf, m1, m2, Bool.and_eq_true, decide_eq_true_eq]
      omega⟩ 0
  have h9' : BK B g ms mc (N + 1) own kp S ns (winC (lo + 1) 16) 16 W9 := by
    rw [winC_shift lo 16] at h9
    have e : winC lo 17 ((0 : Int), (lo : Int)) = some (.int .i64 (lo : Int)) := by
      have := winC_at (lo := lo) (n := 17) (k := 0) (by omega)
      rwa [Nat.add_zero] at this
    rw [e] at h9
    exact h9
  have hdel' : (Builtin.delete_ #[113, 43] 0 #[.map (some mc), .agg #[.int .u32 0, .int .u16 (lo : Int)]]).run Try.prog x = .ok (.tuple #[]) W9 := hdel
  have H9 := Lib.hid h9'
  have B9 : Hid (Kq ms mc w W9) := Lib.hid (((B5.out.trans (Kq.bl HB7.out)).trans (Kq.bl (D0.out.trans bx))).trans (Kq.rk k9))
  clear h9 h9' k9 b9 KX bx hdel
  go_wp2_with fail
  go_ret
  exact ⟨rfl, H9.out, B9.out⟩
end Go.Proofs.Ytkoplofcjbeicaa
