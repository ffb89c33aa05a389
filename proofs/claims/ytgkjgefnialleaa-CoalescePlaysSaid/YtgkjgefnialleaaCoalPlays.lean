/-
  The reference gate of chapter 24, and the walk of CoalescePlays.
-/
import Derived.Test.YtgkjgefnialleaaCoal
import Derived.Test.YtgkjgefnialleaaReads
namespace Go.Proofs.Ytgkjgefnialleaa
open Go.RowKit
set_option linter.unusedVariables false
set_option linter.unusedSimpArgs false

/-- block r is the reference's gate -/
def rgate (w : World) (r : Nat) (N : Int) (A : Bool) (v : Value) : Prop := w.heap[r]? = some (.cells #[.int .i64 N, .bool A, v] 45 (0, 0))
theorem rgate.c0 {w : World} {r : Nat} {N : Int} {A : Bool} {v : Value} (h : rgate w r N A v) : w.cell? ⟨r, 0, none⟩ = some (.int .i64 N) := cell_blk h
theorem rgate.c1 {w : World} {r : Nat} {N : Int} {A : Bool} {v : Value} (h : rgate w r N A v) : w.cell? ⟨r, 1, none⟩ = some (.bool A) := cell_blk h
theorem rgate.c2 {w : World} {r : Nat} {N : Int} {A : Bool} {v : Value} (h : rgate w r N A v) : w.cell? ⟨r, 2, none⟩ = some v := cell_blk h
theorem rgate.fr {w : World} {r : Nat} {N : Int} {A : Bool} {v : Value} (h : rgate w r N A v) (i : Nat) : w.frozen? ⟨r, i, none⟩ = false := free_blk h
theorem rgate.lt {w : World} {r : Nat} {N : Int} {A : Bool} {v : Value} (h : rgate w r N A v) : r < w.heap.size := lt_of_block h

/-- what went out: n ticks, the last one L -/
def outs (w : World) (base : Nat) (v : Value) (n : Nat) (L : Int) : Prop := ∃ xs : List Value, w.ownsRow base 2 1 v n xs ∧ (0 < n → xs[n - 1]? = some (.int .i64 L))

theorem rnew_any (n : Int) (w : World) :
    Calls Try.prog 28 #[.int .i64 n] w fun e w' => e = .returned (.pointer (some ⟨w.heap.size, 0, none⟩)) ∧ rgate w' w.heap.size (max n 1) false (.slice none 0 0) ∧ Below w.heap.size w w' := by
  rcases Int.lt_or_le n 1 with h | h
  · go_enter Try.func28, Try.ntmps28
    go_wp2
    go_ret
    exact ⟨rfl, by rw [Int.max_eq_right (by omega)]; (unfold rgate; rw [heap_alloc, if_pos rfl]), by (repeat (first | exact Below.refl _ _ | refine Below.alloc ?_ (by first | (simp; done) | (simp; omega) | (simp [size_drewN]; done) | (simp [size_drewN]; omega)) _ | refine Below.drew ?_ | refine below_drewN0 ?_ _ | refine Below.setCell ?_ (by first | (simp; done) | (simp; omega) | (simp [size_drewN]; done) | (simp [size_drewN]; omega)) _))⟩
  · go_enter Try.func28, Try.ntmps28
    go_wp2
    go_ret
    exact ⟨rfl, by rw [Int.max_eq_left h]; (unfold rgate; rw [heap_alloc, if_pos rfl]), by (repeat (first | exact Below.refl _ _ | refine Below.alloc ?_ (by first | (simp; done) | (simp; omega) | (simp [size_drewN]; done) | (simp [size_drewN]; omega)) _ | refine Below.drew ?_ | refine below_drewN0 ?_ _ | refine Below.setCell ?_ (by first | (simp; done) | (simp; omega) | (simp [size_drewN]; done) | (simp [size_drewN]; omega)) _))⟩

theorem info64 : (Try.prog.info? 2).map (fun i => (i.zero, i.size, i.bytes)) = some (some (.int .i64 0), 1, 8) := by kernel_rfl

theorem due_yes {A : Bool} {t N L S : Int} (h : dueB A t N L S = true) : dueA A t N L S = false ∧ dueL A t N L S = t := by simp [dueA, dueL, h]
theorem due_no {A : Bool} {t N L S : Int} (h : dueB A t N L S = false) : dueA A t N L S = A ∧ dueL A t N L S = L := by simp [dueA, dueL, h]
theorem dueB_pos {t N L : Int} {m : Nat} : dueB true t N L ((m + 1 : Nat) : Int) = decide (L ≤ t ∧ N ≤ t - L) := by
  have : ¬ (((m + 1 : Nat) : Int) = 0) := by omega
  simp only [dueB, opn, this, decide_false, Bool.false_or, Bool.true_and, Bool.decide_and]
theorem dueB_zero {t N L : Int} : dueB true t N L ((0 : Nat) : Int) = true := by simp [dueB, opn]
/-- the gate turned: one tick more -/
def RDue (r base : Nat) (N : Int) (A : Bool) (v : Value) (n : Nat) (L t : Int) (w : World) (e : Ending) (w' : World) : Prop :=
  e = .returned (.bool (dueB A t N L n)) ∧ ∃ v', rgate w' r N (dueA A t N L n) v' ∧ outs w' base v' (if dueB A t N L n then n + 1 else n) (dueL A t N L n) ∧ Under base r w w'

theorem rdue_any (r base : Nat) (N : Int) (A : Bool) (v : Value) (n : Nat) (L t : Int) (w : World) (hr : rgate w r N A v) (ho : outs w base v n L) (hrb : r < base) (hbase : base ≤ w.heap.size) (hn : n ≤ 1000) (hN : 1 ≤ N)
    (hb : -9223372036854775808 ≤ t - L ∧ t - L ≤ 9223372036854775807) :
    Calls Try.prog 29 #[.pointer (some ⟨r, 0, none⟩), .int .i64 t] w (RDue r base N A v n L t w) := by
  have h0 := hr.c0
  have h1 := hr.c1
  have h2 := hr.c2
  have f1 := hr.fr 1
  have f2 := hr.fr 2
  have hlt := hr.lt
  obtain ⟨i0, hi, hz0, hz1, hz2⟩ := info_parts info64
  obtain ⟨xs, hown, hlast⟩ := ho
  cases A
  · have e1 : dueB false t N L n = false := by simp [dueB]
    go_enter Try.func29, Try.ntmps29
    go_wp2
    go_ret
    exact ⟨ret_bool e1.symm, v, by simpa [dueA] using hr, by rw [e1]; exact ⟨xs, hown, by simpa [dueL, e1] using hlast⟩, Under.refl _ _ _⟩
  · rcases Nat.eq_zero_or_pos n with rfl | hpos
    · obtain ⟨ao, cap, rfl⟩ := own_len hown
      have hc : True := trivial
      have HO := Lib.hid hown
      clear hlast hown
      have e1 : dueB true t N L ((0 : Nat) : Int) = true := dueB_zero
      have HE := Lib.hid e1
      clear e1
      go_enter Try.func29, Try.ntmps29
      go_wp2_with fail
      go_quiet (fail)
      have e1 := HE.out
      have hlt2 := HO.out.lt
      go_wp2_with (at_builtin; refine wpList_append_own _ rfl (.tmp 42) (.tmp 44) 43 rfl base 2 i0 (.int .i64 0) 1 8 Try.underlying43 hi hz0 hz1 hz2 rfl (by decide) (.slice ao 0 cap) 0 xs rfl ?ho ⟨w.heap.size, 0, none⟩ 1 1 [.int .i64 t] rfl rfl ?d1 ?d2 ?d3 ?d4 ?d5 ?_)
      case ho => exact own_blk HO.out (fun k h1 h2 => by simp only [heap_alloc, heap_set, heap_drewN, World.size_setCell, size_drewN]; rw [if_neg (by omega), if_neg (by show ¬ _ = r; omega)])
      case d1 => exact cell_one_at (by simp [size_drewN])
      case d2 => exact one_cell rfl
      case d3 => unfold maxLen; omega
      case d4 => omega
      case d5 => simp [size_drewN]; omega
      intro v2 w2 hown2 hgrow hnil
      clear hnil
      obtain ⟨g2, cap2, rfl, hg1, hg2, hcells2, hcap2⟩ := own_some hown2
      have hU : Under base r w w2 := Under.grown (((((Under.refl base r w).drewN _).setCell (.inl rfl) _)).alloc (by simp [size_drewN]; omega) _) hgrow (by simp [size_drewN]; omega) (fun k hk => (hlt2 k hk).1)
      have hr2 : rgate w2 r N false (.slice ao 0 cap) := by
        unfold rgate at hr ⊢
        rw [hgrow.block r (by simp [size_drewN]; omega) (fun e => by have := hlt2 r e.symm; omega)]
        simp only [heap_alloc, heap_set, heap_drewN, World.size_setCell, size_drewN]
        rw [if_neg (by omega)]
        simp [hr, putIn]
      clear hcells2 h0 h1 h2 f1 f2 hc
      have h2 := hr2.c2
      have f2 := hr2.fr 2
      have hlast2 : 0 < 0 + 1 → (xs ++ [Value.int .i64 t])[0 + 1 - 1]? = some (.int .i64 t) := fun _ => by
        have hl : xs.length = 0 := by simpa using HO.out.1
        rw [List.getElem?_append_right (by omega), hl]; simp
      have HP2 := Lib.hid hlast2
      have HO2 := Lib.hid hown2
      clear hlast2 hown2
      go_wp2_with fail
      go_ret
      refine ⟨ret_bool e1.symm, .slice (some ⟨g2, 0, none⟩) (0 + 1) cap2, ?_, ?_, hU.setCell (.inl rfl) _⟩
      · rw [(due_yes e1).1]
        unfold rgate at hr2 ⊢
        simp [heap_set, hr2, putIn]
      · rw [e1, (due_yes e1).2]
        exact ⟨_, own_blk HO2.out (fun k h1 h2 => by rw [heap_set, if_neg (by show ¬ _ = r; omega)]), HP2.out⟩
    · obtain ⟨m, rfl⟩ : ∃ m, n = m + 1 := ⟨n - 1, by omega⟩
      obtain ⟨q, cap, rfl, hq1, hq2, hcells, hcap⟩ := own_some hown
      have hc : w.cell? ⟨q, m, none⟩ = some (.int .i64 L) := hcells m _ (hlast (by omega))
      clear hcells
      have HP := Lib.hid hlast
      have HO := Lib.hid hown
      clear hlast hown
      by_cases hd : N ≤ t - L
      · have e1 : dueB true t N L ((m + 1 : Nat) : Int) = true := by rw [dueB_pos]; simp; omega
        have e2 : decide (t - L < N) = false := by simpa using hd
        have HE := Lib.hid e1
        clear e1
        go_enter Try.func29, Try.ntmps29
        go_wp2_with fail
        go_quiet (fail)
        have e1 := HE.out
        have hlt2 := HO.out.lt
        go_wp2_with (at_builtin; refine wpList_append_own _ rfl (.tmp 42) (.tmp 44) 43 rfl base 2 i0 (.int .i64 0) 1 8 Try.underlying43 hi hz0 hz1 hz2 rfl (by decide) (.slice (some ⟨q, 0, none⟩) (m + 1) cap) (m + 1) xs rfl ?ho ⟨w.heap.size, 0, none⟩ 1 1 [.int .i64 t] rfl rfl ?d1 ?d2 ?d3 ?d4 ?d5 ?_)
        case ho => exact own_blk HO.out (fun k h1 h2 => by simp only [heap_alloc, heap_set, heap_drewN, World.size_setCell, size_drewN]; rw [if_neg (by omega), if_neg (by show ¬ _ = r; omega)])
        case d1 => exact cell_one_at (by simp [size_drewN])
        case d2 => exact one_cell rfl
        case d3 => unfold maxLen; omega
        case d4 => omega
        case d5 => simp [size_drewN]; omega
        intro v2 w2 hown2 hgrow hnil
        clear hnil
        obtain ⟨g2, cap2, rfl, hg1, hg2, hcells2, hcap2⟩ := own_some hown2
        have hU : Under base r w w2 := Under.grown (((((Under.refl base r w).drewN _).setCell (.inl rfl) _)).alloc (by simp [size_drewN]; omega) _) hgrow (by simp [size_drewN]; omega) (fun k hk => (hlt2 k hk).1)
        have hr2 : rgate w2 r N false (.slice (some ⟨q, 0, none⟩) (m + 1) cap) := by
          unfold rgate at hr ⊢
          rw [hgrow.block r (by simp [size_drewN]; omega) (fun e => by have := hlt2 r e.symm; omega)]
          simp only [heap_alloc, heap_set, heap_drewN, World.size_setCell, size_drewN]
          rw [if_neg (by omega)]
          simp [hr, putIn]
        clear hcells2 h0 h1 h2 f1 f2 hc
        have h2 := hr2.c2
        have f2 := hr2.fr 2
        have hlast2 : 0 < (m + 1) + 1 → (xs ++ [Value.int .i64 t])[(m + 1) + 1 - 1]? = some (.int .i64 t) := fun _ => by
          have hl : xs.length = (m + 1) := by simpa using HO.out.1
          rw [List.getElem?_append_right (by omega), hl]; simp
        have HP2 := Lib.hid hlast2
        have HO2 := Lib.hid hown2
        clear hlast2 hown2
        go_wp2_with fail
        go_ret
        refine ⟨ret_bool e1.symm, .slice (some ⟨g2, 0, none⟩) ((m + 1) + 1) cap2, ?_, ?_, hU.setCell (.inl rfl) _⟩
        · rw [(due_yes e1).1]
          unfold rgate at hr2 ⊢
          simp [heap_set, hr2, putIn]
        · rw [e1, (due_yes e1).2]
          exact ⟨_, own_blk HO2.out (fun k h1 h2 => by rw [heap_set, if_neg (by show ¬ _ = r; omega)]), HP2.out⟩
      · have e1 : dueB true t N L ((m + 1 : Nat) : Int) = false := by rw [dueB_pos]; simp; omega
        have e2 : decide (t - L < N) = true := by simp; omega
        go_enter Try.func29, Try.ntmps29
        go_wp2_with fail
        go_quiet (fail)
        go_wp2_with fail
        go_ret
        refine ⟨ret_bool e1.symm, _, by rw [(due_no e1).1]; exact hr, ?_, (Under.refl _ _ _).drewN _⟩
        rw [e1, (due_no e1).2]
        exact ⟨xs, HO.out, HP.out⟩

theorem outs_blk {w w' : World} {base : Nat} {v : Value} {n : Nat} {L : Int} (h : outs w base v n L) (hb : ∀ k, base ≤ k → k < w.heap.size → w'.heap[k]? = w.heap[k]?) : outs w' base v n L := by
  obtain ⟨xs, h1, h2⟩ := h
  exact ⟨xs, own_blk h1 hb, h2⟩
theorem outs_len {w : World} {base : Nat} {v : Value} {n : Nat} {L : Int} (h : outs w base v n L) : ∃ a cap, v = .slice a n cap := by
  obtain ⟨xs, h1, h2⟩ := h
  exact own_len h1

/-- all that holds at a round's head -/
structure PlayInv (B g r base : Nat) (N : Int) (k n : Nat) (L : Int) (A : Bool) (v : Value) (wr : World) : Prop where
  gt : gate wr g N L n A
  rg : rgate wr r N A v
  ot : outs wr base v n L
  sz : base ≤ wr.heap.size
  lt : n ≤ k
  lb : -4611686018427387903 ≤ L ∧ L ≤ 4611686018427387903

set_option maxHeartbeats 2000000 in
set_option maxRecDepth 100000 in
theorem CoalescePlays.core (n0 : Int) (a : Option Addr) (len cap b off : Nat) (K T : Nat → Int) (w : World) 
    (ha : 0 < cap → a = some ⟨b, off, none⟩ ∧ b < w.heap.size) (hl : len ≤ cap) (hm : cap ≤ maxLen) (hc : ∀ i, i < cap → w.cell? ⟨b, off + i * 2, none⟩ = some (.int .u8 (K i)) ∧ w.cell? ⟨b, off + i * 2 + 1, none⟩ = some (.int .i64 (T i)))
    (hK : ∀ i, i < cap → 0 ≤ K i ∧ K i ≤ 255) (hT : ∀ i, i < cap → -9223372036854775808 ≤ T i ∧ T i ≤ 9223372036854775807) :
    Calls Try.prog 7 #[.int .i64 n0, .slice a len cap] w fun e w' => e = .returned (.bool true) ∧ Below w.heap.size w w' := by
  unfold maxLen at hm
  obtain ⟨N, hN1, hN2, hN3⟩ : ∃ N : Int, max n0 1 ≤ N ∧ N ≤ max n0 1 ∧ 1 ≤ N := ⟨max n0 1, by omega, by omega, by omega⟩
  have HA := Lib.hid ha
  have HC := Lib.hid hc
  have HK := Lib.hid hK
  have HT := Lib.hid hT
  clear ha hc hK hT
  go_enter Try.func7, Try.ntmps7
  go_wp2_with (first | (go_at_call 24; refine (alive24_any _).mono ?_; rintro e w0 ⟨rfl, hb0⟩) | (go_at_call 25; refine (new_any _ _).mono ?_; rintro e w1 ⟨rfl, hg0, hb1⟩) | (go_at_call 28; refine (rnew_any _ _).mono ?_; rintro e w2 ⟨rfl, hr0, hb2⟩))
  have hs0 := hb0.size
  have hs1 := hb1.size
  have hs2 := hb2.size
  have hlg := hg0.lt
  have hlr := hr0.lt
  have hg2 : gate w2 w0.heap.size N 0 0 false := by rw [show N = max n0 1 by omega]; exact Below.blk hb2 hg0 hlg
  have hr2 : rgate w2 w1.heap.size N false (.slice none 0 0) := by rw [show N = max n0 1 by omega]; exact hr0
  have hB2 : Below w.heap.size w w2 := (hb0.trans (hb1.mono hs0)).trans (hb2.mono (by omega))
  obtain ⟨g, hg⟩ : ∃ g, g = w0.heap.size := ⟨_, rfl⟩
  obtain ⟨r, hr⟩ : ∃ r, r = w1.heap.size := ⟨_, rfl⟩
  obtain ⟨base, hbs⟩ : ∃ base, base = w2.heap.size := ⟨_, rfl⟩
  rw [← hg] at hg2
  rw [← hr] at hr2
  rw [← hg, ← hr]
  have q1 : w.heap.size ≤ g := by omega
  have q2 : g < r := by omega
  have q3 : r < base := by omega
  have q4 : base ≤ w2.heap.size := by omega
  clear hg0 hr0 hb0 hb1 hb2 hs0 hs1 hs2 hlg hlr hg hr hbs
  go_loopw [7] (fun si wr => ∃ (k n : Nat) (L : Int) (A : Bool) (v : Value), k ≤ len ∧ k ≤ 100 ∧ si = .int .i64 k ∧ PlayInv w.heap.size g r base N k n L A v wr ∧ Below w.heap.size w wr) (fun si _ => len - (intOf si).toNat)
  case atStart => exact ⟨0, 0, 0, false, .slice none 0 0, by omega, by omega, rfl, ⟨hg2, hr2, ⟨[], World.ownsRow_nil _ _ _ _, by omega⟩, q4, by omega, by omega⟩, hB2⟩
  case round =>
    obtain ⟨k, n, L, A, v, hk, hk2, rfl, ⟨hgt, hrg, hot, hsz, hlt, hlb⟩, hbel⟩ := hrel
    by_cases hlt : k < len ∧ k < 100
    · obtain ⟨hlt1, hlt2⟩ := hlt
      obtain ⟨rfl, hbs⟩ := HA.out (by omega)
      obtain ⟨hc0, hc1⟩ := HC.out k (by omega)
      have k0 := Below.cell' hbel hbs hc0
      have k1 := Below.cell' hbel hbs hc1
      clear hc0 hc1
      have hKk := HK.out k (by omega)
      have hTk := HT.out k (by omega)
      have hr1 := hrg.c1
      have hr2 := hrg.c2
      have hrf := hrg.fr 1
      go_wp2_with fail
      · go_ret
        exact ⟨rfl, hbel⟩
      · refine (ask_any g N L n A wr hgt).mono ?_
        rintro e w1 ⟨rfl, hgt1, hk1⟩
        have hrg1 : rgate w1 r N A v := hk1.blk hrg (by omega)
        have hs1 := hk1.size
        have HG : gate (w1.setCell ⟨r, 1, none⟩ (.bool true)) g N L n true := by
          unfold gate at hgt1 ⊢; rw [heap_set, if_neg (by show ¬ g = r; omega)]; exact hgt1
        have HR : rgate (w1.setCell ⟨r, 1, none⟩ (.bool true)) r N true v := by
          unfold rgate at hrg1 ⊢; simp [heap_set, hrg1, putIn]
        have HO : outs (w1.setCell ⟨r, 1, none⟩ (.bool true)) base v n L := outs_blk hot (fun k h1 h2 => by rw [heap_set, if_neg (by show ¬ k = r; omega), hk1.block k h2 (by omega)])
        have HB : Below w.heap.size w (w1.setCell ⟨r, 1, none⟩ (.bool true)) := (Below.keeps hbel (by have := hbel.size; omega) q1 hk1).setCell (by show w.heap.size ≤ r; omega) _
        obtain ⟨ao, co, rfl⟩ := outs_len HO
        clear hr1 hr2 hrf
        have hr1 := hrg1.c1
        have hr2 := hrg1.c2
        have hrf := hrg1.fr 1
        go_wp2_with fail
        go_quiet ((first | (go_at_call 31; exact qsame (asked_any _ _ _ _ _ _ (HG.drewN _))) | (go_at_call 32; exact qsame (sent_any _ _ _ _ _ _ (HG.drewN _)))))
        go_wp2_with fail
        go_roundw
        case rel => exact ⟨k + 1, n, L, true, _, by omega, by omega, by go_num, ⟨HG.drewN _, HR, HO, by simp [size_drewN]; omega, by omega, hlb⟩, below_drewN0 HB _⟩
        case measure => simp [intOf] <;> omega
      · rename_i _ hT1 _ _
        have hT2 : -4611686018427387903 ≤ T k ∧ T k ≤ 4611686018427387903 := by omega
        refine (due_any g (T k) N L n A wr hgt (by omega) (by omega) (by omega)).mono ?_
        rintro e w1 ⟨rfl, hgt1, hk1⟩
        have hs1 := hk1.size
        have hrg1 : rgate w1 r N A v := hk1.blk hrg (by omega)
        have hot1 : outs w1 base v n L := outs_blk hot (fun k h1 h2 => hk1.block k h2 (by omega))
        clear hr1 hr2 hrf
        go_wp2_with fail
        refine (rdue_any r base N A v n L (T k) w1 hrg1 hot1 q3 (by omega) (by omega) hN3 (by omega)).mono ?_
        rintro e w2 ⟨rfl, v2, hrg2, hot2, hU⟩
        have hs2 := hU.size
        have hgt2 : gate w2 g N (dueL A (T k) N L n) (dueS A (T k) N L n) (dueA A (T k) N L n) := hU.blk hgt1 (by omega) (by omega)
        obtain ⟨n2, hn2, hn3⟩ : ∃ n2 : Nat, (if dueB A (T k) N L n then n + 1 else n) = n2 ∧ dueS A (T k) N L n = n2 := ⟨_, rfl, by unfold dueS; split <;> simp⟩
        have hn4 : n2 ≤ k + 1 := by rw [← hn2]; split <;> omega
        have hl4 : -4611686018427387903 ≤ dueL A (T k) N L n ∧ dueL A (T k) N L n ≤ 4611686018427387903 := by unfold dueL; split <;> omega
        rw [hn2] at hot2
        rw [hn3] at hgt2
        clear hn2 hn3 hgt1 hrg1 hot1
        obtain ⟨ao, co, rfl⟩ := outs_len hot2
        have HG := hgt2
        have HB : Below w.heap.size w w2 := (Below.keeps hbel (by have := hbel.size; omega) q1 hk1).trans (hU.below (by omega) (by omega))
        have hr1 := hrg2.c1
        have hr2 := hrg2.c2
        go_wp2_with fail
        go_quiet ((first | (go_at_call 31; exact qsame (asked_any _ _ _ _ _ _ (HG.drewN _))) | (go_at_call 32; exact qsame (sent_any _ _ _ _ _ _ (HG.drewN _)))))
        go_wp2_with fail
        go_roundw
        case rel => exact ⟨k + 1, n2, _, _, _, by omega, by omega, by go_num, ⟨HG.drewN _, hrg2, hot2, by simp [size_drewN]; omega, by omega, hl4⟩, below_drewN0 HB _⟩
        case measure => simp [intOf] <;> omega
      · refine (came_any g N L n A wr hgt).mono ?_
        rintro e w1 ⟨rfl, hgt1, hk1⟩
        have hrg1 : rgate w1 r N A v := hk1.blk hrg (by omega)
        have hs1 := hk1.size
        have HG : gate (w1.setCell ⟨r, 1, none⟩ (.bool false)) g N L n false := by
          unfold gate at hgt1 ⊢; rw [heap_set, if_neg (by show ¬ g = r; omega)]; exact hgt1
        have HR : rgate (w1.setCell ⟨r, 1, none⟩ (.bool false)) r N false v := by
          unfold rgate at hrg1 ⊢; simp [heap_set, hrg1, putIn]
        have HO : outs (w1.setCell ⟨r, 1, none⟩ (.bool false)) base v n L := outs_blk hot (fun k h1 h2 => by rw [heap_set, if_neg (by show ¬ k = r; omega), hk1.block k h2 (by omega)])
        have HB : Below w.heap.size w (w1.setCell ⟨r, 1, none⟩ (.bool false)) := (Below.keeps hbel (by have := hbel.size; omega) q1 hk1).setCell (by show w.heap.size ≤ r; omega) _
        obtain ⟨ao, co, rfl⟩ := outs_len HO
        clear hr1 hr2 hrf
        have hr1 := hrg1.c1
        have hr2 := hrg1.c2
        have hrf := hrg1.fr 1
        go_wp2_with fail
        go_quiet ((first | (go_at_call 31; exact qsame (asked_any _ _ _ _ _ _ (HG.drewN _))) | (go_at_call 32; exact qsame (sent_any _ _ _ _ _ _ (HG.drewN _)))))
        go_wp2_with fail
        go_roundw
        case rel => exact ⟨k + 1, n, L, false, _, by omega, by omega, by go_num, ⟨HG.drewN _, HR, HO, by simp [size_drewN]; omega, by omega, hlb⟩, below_drewN0 HB _⟩
        case measure => simp [intOf] <;> omega
      · go_ret
        exact ⟨rfl, hbel⟩
    · go_wp2_with fail
      all_goals
        go_ret
        exact ⟨rfl, hbel⟩

theorem CoalescePlays.walk (n0 : Int) (v : Value) (w : World) (w0 : (Lit.int .i64 n0).wf = true) (w1 : Reads Try.prog w 6 38 v) :
    Calls Try.prog 7 #[.int .i64 n0, v] w fun e w' => e = .returned (.bool true) ∧ Below w.heap.size w w' := by
  obtain ⟨a, len, cap, b, off, V, rfl, row⟩ := reads_slice Try.underlying38 (ts := [5, 2]) (by kernel_rfl) (by kernel_rfl) (by decide) w1
  obtain ⟨K, hK⟩ := Deep.choose_lt (n := cap) (p := fun i (x : Int) => V i 0 = .int .u8 x ∧ (Lit.int .u8 x).wf = true) (fun i hi => reads_int Try.underlying5 (row.read i hi 0 _ rfl))
  obtain ⟨T, hT⟩ := Deep.choose_lt (n := cap) (p := fun i (x : Int) => V i 1 = .int .i64 x ∧ (Lit.int .i64 x).wf = true) (fun i hi => reads_int Try.underlying2 (row.read i hi 1 _ rfl))
  refine CoalescePlays.core n0 a len cap b off K T w row.addr row.le row.max (fun i hi => ⟨?_, ?_⟩) (fun i hi => bounds_u8 (hK i hi).2) (fun i hi => bounds_i64 (hT i hi).2)
  · have := row.cell i hi 0 (by decide); simpa [(hK i hi).1] using this
  · have := row.cell i hi 1 (by decide); simpa [(hT i hi).1, Nat.add_assoc] using this
end Go.Proofs.Ytgkjgefnialleaa
