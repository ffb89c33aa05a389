/-
  The walk of Share.
-/
import Derived.Test.YtkemkplmhjmahaaRemF
import Derived.Deep.AppendLies
namespace Go.Proofs.Ytkemkplmhjmahaa
open Go.RowKit
set_option linter.unusedVariables false
set_option linter.unusedSimpArgs false
attribute [local irreducible] wpStill wpQuiet

theorem infoInt : (Try.prog.info? 3).map (fun i => (i.zero, i.size, i.bytes)) = some (some (.int .i64 0), 1, 8) := by kernel_rfl
def neg1 (n : Nat) : List Value := (List.range n).map fun _ => .int .i64 (-1)
theorem neg1_succ (n : Nat) : neg1 (n + 1) = neg1 n ++ [.int .i64 (-1)] := by simp [neg1, List.range_succ]
theorem below_set {B : Nat} {u w : World} (h : Below B u w) {a : Addr} (ha : B ≤ a.block) (v : Value) : Below B u (w.setCell a v) := Below.setCell h ha v
theorem own_blk1 {w w' : World} {base : Nat} {e : TypeId} {size : Nat} {v : Value} {n : Nat} {xs : List Value} (h : w.ownsRow base e size v n xs) (hb : ∀ k, v.ownBlock = some k → w'.heap[k]? = w.heap[k]?) : w'.ownsRow base e size v n xs := by
  obtain ⟨h1, h2⟩ := h
  refine ⟨h1, ?_⟩
  rcases h2 with h2 | ⟨g, cap, cur, hv, hg, hh, r⟩
  · exact .inl h2
  · subst hv
    exact .inr ⟨g, cap, cur, rfl, hg, by rw [hb g rfl]; exact hh, r⟩
/-- what is left is set -/
theorem SW.setl {B : Nat} {w0 W : World} {c o l : Nat} {a : Option Addr} {n cap : Nat} {A : Nat → Option Addr} {K : Nat → Nat} {C : Nat → Nat → Int} {L : Nat → Nat} {av : Option Addr} {cv : Nat} {S : Sh} (h : SW B w0 W c o l a n cap A K C L av cv S) (x : Int) : SW B w0 (W.setCell ⟨l, 0, none⟩ (.int .u64 x)) c o l a n cap A K C L av cv ⟨S.out, x⟩ := by
  obtain ⟨h1, h2, h3, h4, ⟨e1, e2, e3, e4, e5, e6⟩, h6, h7, h8⟩ := h
  have hb2 : Below B w0 (W.setCell ⟨l, 0, none⟩ (.int .u64 x)) := below_set h6 e6 _
  refine ⟨by rw [set_blk_other _ (by show c ≠ l; omega)]; exact h1, by rw [set_blk_other _ (by show o ≠ l; omega)]; exact h2, by rw [set_blk _ h3]; rfl, fun h0 => ?_, ⟨e1, e2, e3, e4, e5, e6⟩, hb2, h7.keep ((Below.refl B W).trans (below_set (Below.refl B W) e6 _)), h8⟩
  obtain ⟨q, cur, g1, g2, g3, g4, g5, g6, g7⟩ := h4 h0
  exact ⟨q, cur, g1, g2, g3, g4, g5, by rw [set_blk_other _ (by show q ≠ l; omega)]; exact g6, g7⟩
/-- one more layer -/
theorem SW.setq {B : Nat} {w0 W : World} {c o l : Nat} {a : Option Addr} {n cap : Nat} {A : Nat → Option Addr} {K : Nat → Nat} {C : Nat → Nat → Int} {L : Nat → Nat} {q cv : Nat} {S : Sh} (h : SW B w0 W c o l a n cap A K C L (some ⟨q, 0, none⟩) cv S) (b : Nat) (hb : b < n) (x : Int) : SW B w0 (W.setCell ⟨q, b, none⟩ (.int .i64 x)) c o l a n cap A K C L (some ⟨q, 0, none⟩) cv ⟨fun i => if i = b then x else S.out i, S.left⟩ := by
  obtain ⟨h1, h2, h3, h4, h5, h6, h7, h8⟩ := h
  obtain ⟨q', cur, g1, g2, g3, g4, g5, g6, g7⟩ := h4 (by omega)
  obtain rfl : q = q' := by simpa using g1
  refine ⟨by rw [set_blk_other _ (by show c ≠ q; omega)]; exact h1, by rw [set_blk_other _ (by show o ≠ q; omega)]; exact h2, by rw [set_blk_other _ (by show l ≠ q; omega)]; exact h3, fun h0 => ⟨q, cur.setIfInBounds b (.int .i64 x), rfl, g2, g3, g4, g5, by rw [set_blk _ g6], fun i hi => ?_⟩, h5, below_set h6 g5 _, h7.keep (below_set (Below.refl B W) g5 _), h8⟩
  have hlt : b < cur.size := by
    have := g7 b hb
    rcases Nat.lt_or_ge b cur.size with h' | h'
    · exact h'
    · rw [Array.getElem?_eq_none h'] at this; cases this
  by_cases hib : i = b
  · subst hib
    show _ = some (Value.int IntKind.i64 (if i = i then x else S.out i))
    rw [if_pos rfl]; simp [hlt]
  · show _ = some (Value.int IntKind.i64 (if i = b then x else S.out i))
    rw [if_neg hib, Array.getElem?_setIfInBounds_ne (by omega)]; exact g7 i hi
theorem qdrew {P : Program} {f : FuncId} {args : Array Value} {w : World} {n : Nat} {v : Value}
    (h : Calls P f args (w.drewN n) fun e w' => e = .returned v ∧ w' = (w.drewN n).drew) : Calls P f args (w.drewN n) fun e w'' => e = .returned v ∧ ∃ m, w'' = w.drewN m :=
  h.mono fun _ _ ⟨he, hm⟩ => ⟨he, n + 1, by rw [hm]; rfl⟩
def roomW (W : World) (av : Option Addr) : Nat → Nat
  | 0 => 0
  | k + 1 => roomW W av k + (7 - intOf ((W.cell? ⟨(av.getD ⟨0, 0, none⟩).block, k, none⟩).getD (.bool false))).toNat
theorem SW.room {B : Nat} {w0 W : World} {c o l : Nat} {a : Option Addr} {n cap : Nat} {A : Nat → Option Addr} {K : Nat → Nat} {C : Nat → Nat → Int} {L : Nat → Nat} {av : Option Addr} {cv : Nat} {S : Sh} (h : SW B w0 W c o l a n cap A K C L av cv S) : roomW W av n = room S n := by
  have : ∀ m, m ≤ n → roomW W av m = Go.Proofs.Ytkemkplmhjmahaa.room S m := by
    intro m
    induction m with
    | zero => intro _; rfl
    | succ m ih =>
      intro hm
      obtain ⟨q, cur, g1, g2, g3, g4, g5, g6, g7⟩ := h.hq (by omega)
      unfold roomW Go.Proofs.Ytkemkplmhjmahaa.room
      rw [ih (by omega), g1]
      have : W.cell? ⟨q, m, none⟩ = some (.int .i64 (S.out m)) := by rw [cell_blk g6]; exact g7 m (by omega)
      show _ + (7 - intOf ((W.cell? ⟨q, m, none⟩).getD (.bool false))).toNat = _
      rw [this]
      rfl
  exact this n (Nat.le_refl _)
theorem sw_start {w wr : World} {c o : Nat} {a : Option Addr} {n cap : Nat} {A : Nat → Option Addr} {K : Nat → Nat} {C : Nat → Nat → Int} {L : Nat → Nat} {av : Option Addr} {cv : Nat} (rate : Int)
    (g1 : wr.heap[c]? = some (.cells #[.slice a n cap] 46 (0, 0))) (g2 : wr.heap[o]? = some (.cells #[.slice av n cv] 47 (0, 0))) (ho : wr.ownsRow w.heap.size 3 1 (.slice av n cv) n (neg1 n))
    (hv : (Value.slice av n cv).ownBlock ≠ some c ∧ (Value.slice av n cv).ownBlock ≠ some o) (hB : Below w.heap.size w wr) (hcs : CS w.heap.size w a n A K C L) (hco : c ≠ o) (hwc : w.heap.size ≤ c) (hwo : w.heap.size ≤ o) :
    SW w.heap.size w (wr.alloc (.cells #[.int .u64 rate] 43)) c o wr.heap.size a n cap A K C L av cv (sh0 rate) := by
  have hlo : o < wr.heap.size := lt_of_block g2
  have hlc : c < wr.heap.size := lt_of_block g1
  have hB2 : Below w.heap.size w (wr.alloc (.cells #[.int .u64 rate] 43)) := hB.alloc hB.size _
  have hlt := ho.lt
  have hcell := fun g => ho.cells (g := g)
  obtain ⟨h1, h2⟩ := ho
  refine ⟨?_, ?_, ?_, fun h0 => ?_, ⟨hco, by omega, by omega, hwc, hwo, hB.size⟩, hB2, hcs.keep hB2, ?_⟩
  · rw [alloc_blk_old hlc]; exact g1
  · rw [alloc_blk_old hlo]; exact g2
  · rw [alloc_blk_new]; rfl
  · rcases h2 with ⟨_, h0'⟩ | ⟨q, cap', cur, hvv, hg, hh, hn2, hcap, hsz, _⟩
    · omega
    · have e : av = some ⟨q, 0, none⟩ := by simp at hvv; exact hvv.1
      obtain ⟨h3, h4⟩ := hlt q (by rw [e]; rfl)
      refine ⟨q, cur, e, fun e2 => hv.1 (by rw [e, ← e2]; rfl), fun e2 => hv.2 (by rw [e, ← e2]; rfl), by omega, h3, by rw [alloc_blk_old h4]; exact hh, fun i hi => ?_⟩
      have g1 : (neg1 n)[i]? = some (.int .i64 (-1)) := by simp [neg1, hi]
      have a1 := hcell q (by rw [e]; rfl) _ _ g1
      rw [show ∀ m, (⟨q, 0, none⟩ : Addr).add m = ⟨q, m, none⟩ from fun m => by unfold Addr.add; split <;> simp_all, cell_blk hh] at a1
      exact a1
  · rcases h2 with ⟨h0, h0'⟩ | ⟨q, cap', cur, hvv, hg, hh, hn2, hcap, hsz, _⟩
    · omega
    · have : cv = cap' := by simp at hvv; exact hvv.2
      omega
set_option maxRecDepth 100000 in
set_option maxHeartbeats 4000000 in
theorem share_any (w : World) (rate : Int) (a : Option Addr) (n cap : Nat) (A : Nat → Option Addr) (K : Nat → Nat) (C : Nat → Nat → Int) (L : Nat → Nat) (hcs : CS w.heap.size w a n A K C L) (hL : ∀ i, L i ≤ 1000) (hn : n ≤ 1000) (hcap : n ≤ cap) (r0 : 0 ≤ rate) (r1 : rate ≤ 18446744073709551615) :
    Calls Try.prog 31 #[.int .u64 rate, .slice a n cap] w fun e w' => ∃ av cv T, e = .returned (.slice av n cv) ∧ FinS C L n (sh0 rate) T ∧ Below w.heap.size w w' ∧ n ≤ cv ∧ (0 < n → ∃ q, av = some ⟨q, 0, none⟩ ∧ w.heap.size ≤ q ∧ q < w'.heap.size ∧ ∀ i, i < n → w'.cell? ⟨q, i, none⟩ = some (.int .i64 (T.out i))) := by
  obtain ⟨i0', hi, hz0, hz1, hz2⟩ := info_parts infoInt
  have HCS := Lib.hid hcs
  have HLL := Lib.hid hL
  clear hcs hL
  have bx : ((w.alloc (.cells #[.slice a n cap] 46)).alloc (.cells #[.slice none 0 0] 47)).heap[w.heap.size]? = some (.cells #[.slice a n cap] 46 (0, 0)) ∧ ((w.alloc (.cells #[.slice a n cap] 46)).alloc (.cells #[.slice none 0 0] 47)).heap[w.heap.size + 1]? = some (.cells #[.slice none 0 0] 47 (0, 0)) := by
    refine ⟨?_, ?_⟩
    · rw [heap_alloc, heap_alloc, if_neg (by simp), if_pos rfl]
    · rw [heap_alloc, if_pos (by simp)]
  have B2 : Below w.heap.size w ((w.alloc (.cells #[.slice a n cap] 46)).alloc (.cells #[.slice none 0 0] 47)) := ((Below.refl _ w).alloc (Nat.le_refl _) _).alloc (by simp) _
  go_enter Try.func31, Try.ntmps31
  go_wp2_with fail
  obtain ⟨c, hc⟩ : ∃ c, c = w.heap.size := ⟨_, rfl⟩
  obtain ⟨o, ho⟩ : ∃ o, o = c + 1 := ⟨_, rfl⟩
  rw [← hc, ← ho] at bx
  rw [← hc, ← ho]
  have hco : c ≠ o := by omega
  have hoc : o ≠ c := by omega
  have hwc : w.heap.size ≤ c := by omega
  have hwo : w.heap.size ≤ o := by omega
  clear hc ho
  go_loopw [13] (fun si wr => ∃ (k : Nat) (v : Value), k ≤ n ∧ si = .int .i64 k ∧ wr.heap[c]? = some (.cells #[.slice a n cap] 46 (0, 0)) ∧ wr.heap[o]? = some (.cells #[v] 47 (0, 0)) ∧ Hid (wr.ownsRow w.heap.size 3 1 v k (neg1 k)) ∧ Hid (v.ownBlock ≠ some c ∧ v.ownBlock ≠ some o) ∧ Hid (Below w.heap.size w wr)) (fun si _ => n - (intOf si).toNat)
  case atStart => exact ⟨0, .slice none 0 0, by omega, rfl, bx.1, bx.2, Lib.hid ⟨rfl, .inl ⟨rfl, rfl⟩⟩, Lib.hid ⟨by simp [Value.ownBlock], by simp [Value.ownBlock]⟩, Lib.hid B2⟩
  case round =>
    clear bx B2
    obtain ⟨k, v, hk, rfl, g1, g2, ho3, hv, hB⟩ := hrel
    have c0 : wr.cell? ⟨o, 0, none⟩ = some v := cell_blk g2
    have hwr : w.heap.size ≤ wr.heap.size := hB.out.size
    have hlo : o < wr.heap.size := lt_of_block g2
    have hlc : c < wr.heap.size := lt_of_block g1
    have hne : wr.heap.size ≠ o := by omega
    by_cases hlt : k < n
    · have HO : Hid (∀ x, (wr.alloc x).ownsRow w.heap.size 3 1 v k (neg1 k)) := Lib.hid (fun x => own_blk ho3.out (fun k _ hk => alloc_blk_old hk))
      have HG : Hid (∀ x k, k < wr.heap.size → (wr.alloc x).heap[k]? = wr.heap[k]?) := Lib.hid (fun x k hk => alloc_blk_old hk)
      have G1 := Lib.hid g1
      have G2 := Lib.hid g2
      have ho3' := fun p hp => (ho3.out.lt p hp).1
      have HO3' := Lib.hid ho3'
      clear g1 g2 ho3 ho3'
      go_wp2_with
        (at_builtin
         refine wpList_append_lies _ rfl (.tmp 15) (.tmp 16) 47 rfl w.heap.size 3 i0' (.int .i64 0) 1 8 Try.underlying47 hi hz0 hz1 hz2 rfl (by decide) v k (neg1 k) rfl (HO.out _) ⟨wr.heap.size, 0, none⟩ 1 1 [.int .i64 (-1)] rfl rfl ?a1 ?a2 (by omega) ?a3 ?a4 ?a5 (wr.heap.size + 1) ?a6 ?_
         case a1 =>
           intro j u hj
           rw [show (⟨wr.heap.size, 0, none⟩ : Addr).add j = ⟨wr.heap.size, j, none⟩ from by unfold Addr.add; split <;> simp_all, cell_blk alloc_blk_new]
           simpa using hj
         case a2 => simp [Value.oneCell']
         case a3 => unfold maxLen; omega
         case a4 => omega
         case a5 => simp; omega
         case a6 => simp)
      intro q' cap' w5 own5 grow5 at5 lt5
      rw [← neg1_succ] at own5
      have r5 : w5.heap[o]? = some (.cells #[v] 47 (0, 0)) := (grow5.block o (by simp; omega) (Ne.symm hv.out.2)).trans ((HG.out _ o hlo).trans G2.out)
      have r6 : w5.heap[c]? = some (.cells #[.slice a n cap] 46 (0, 0)) := (grow5.block c (by simp; omega) (Ne.symm hv.out.1)).trans ((HG.out _ c hlc).trans G1.out)
      have s8 : w5.frozen? ⟨o, 0, none⟩ = false := free_blk r5
      have s9 : w5.cell? ⟨o, 0, none⟩ = some v := cell_blk r5
      have b5 : Below w.heap.size w w5 := ((hB.out.alloc hwr _).grown grow5 (by simp; omega) (fun p hp => by
        have := (HO3'.out p hp); omega))
      have hqne : q' ≠ c ∧ q' ≠ o := by
        rcases at5 with h | h
        · exact ⟨fun e => hv.out.1 (by rw [h, e]), fun e => hv.out.2 (by rw [h, e])⟩
        · omega
      have O5 := Lib.hid own5
      have B5 := Lib.hid b5
      have R6 := Lib.hid r6
      have R5 := Lib.hid r5
      clear own5 grow5 at5 G1 G2 b5 r5 r6 HO HG
      go_wp2_with fail
      go_roundw
      case rel => exact ⟨k + 1, _, by omega, by go_num, by rw [set_blk_other _ (by show c ≠ o; omega)]; exact R6.out, by rw [set_blk _ R5.out]; rfl, Lib.hid (own_blk1 O5.out (fun p hp => set_blk_other _ (by
        obtain rfl : q' = p := by simpa [Value.ownBlock] using hp
        exact hqne.2))), Lib.hid (by simp [Value.ownBlock, hqne]), Lib.hid (below_set B5.out hwo _)⟩
      case measure => simp [intOf] <;> omega
    · obtain rfl : n = k := by omega
      obtain ⟨av, cv, hvv⟩ := own_len ho3.out
      subst hvv
      have R0 := Lib.hid (sw_start (A := A) (K := K) (C := C) (L := L) rate g1 g2 ho3.out hv.out hB.out HCS.out hco hwc hwo)
      clear g1 g2 ho3 hv hB HCS hoc hco c0
      go_wp2_with fail
      generalize hl : wr.heap.size = l at *
      generalize hW1 : wr.alloc _ = W1
      rw [hW1] at R0
      clear hW1 hne hlo hlc hwr hk hlt
      go_loopw [] (fun wr => ∃ (S : Sh), Hid (SI S ∧ (∃ j, S = iterS C L n (sh0 rate) j) ∧ SW w.heap.size w wr c o l a n cap A K C L av cv S)) (fun wr => roomW wr av n)
      case atStart => exact ⟨sh0 rate, Lib.hid ⟨⟨fun i => by show (-1 : Int) ≤ -1; omega, fun i => by show (-1 : Int) ≤ 7; omega, r0, r1⟩, ⟨0, rfl⟩, R0.out⟩⟩
      case round =>
        clear R0
        obtain ⟨S, R⟩ := hrel
        generalize hWW : wr = W at *
        clear hWW
        have c0 : W.cell? ⟨o, 0, none⟩ = some (.slice av n cv) := cell_blk R.out.2.2.ho
        go_wp2_with fail
        go_loopw [8, 23] (fun sb si wr => ∃ (k m : Nat), k ≤ n ∧ si = .int .i64 k ∧ sb = .int .i64 (bestN C L S k) ∧ Hid (wr = W.drewN m)) (fun _ si _ => n - (intOf si).toNat)
        case atStart => exact ⟨0, 0, by omega, rfl, rfl, Lib.hid rfl⟩
        case round =>
          clear c0
          obtain ⟨k, m, hk, rfl, rfl, hw2⟩ := hrel
          have X : Hid (SW w.heap.size w wr c o l a n cap A K C L av cv S) := Lib.hid (by rw [hw2.out]; exact R.out.2.2.drewN m)
          have c0 : wr.cell? ⟨o, 0, none⟩ = some (.slice av n cv) := cell_blk X.out.ho
          have hbd := bestN_bd C L S k
          by_cases hlt : k < n
          · obtain ⟨q, cur, hav, q1, q2, q3, q4, q5, q6⟩ := X.out.hq (by omega)
            have ck : wr.cell? ⟨q, k, none⟩ = some (.int .i64 (S.out k)) := by rw [cell_blk q5]; exact q6 k hlt
            have hncv := X.out.hn
            have HF : Hid (∀ m', Calls Try.prog 46 #[.int .i64 k, .pointer (some ⟨o, 0, none⟩), .pointer (some ⟨c, 0, none⟩), .pointer (some ⟨l, 0, none⟩)] (wr.drewN m') fun e w' => e = .returned (.bool (fitsB C L S k)) ∧ w' = (wr.drewN m').drew) := Lib.hid fun m' => fits_any (X.out.drewN m') R.out.1 HLL.out k hlt
            have hNext : bestN C L S (k + 1) = if fitsB C L S k = true ∧ (bestN C L S k = -1 ∨ S.out k < S.out (bestN C L S k).toNat) then (k : Int) else bestN C L S k := rfl
            have HN := Lib.hid hNext
            clear hNext
            subst hav
            cases hf : fitsB C L S k
            · rw [hf] at HF
              have HN2 : Hid (bestN C L S (k + 1) = bestN C L S k) := Lib.hid (by rw [HN.out, hf]; simp)
              clear HN
              go_wp2_with fail
              go_quiet ((go_at_call 46; exact qdrew (HF.out _)))
              go_wp2_with fail
              go_roundw
              case rel => exact ⟨k + 1, _, by omega, by go_num, by rw [HN2.out], Lib.hid (by rw [hw2.out, World.drewN_drewN])⟩
              case measure => simp [intOf] <;> omega
            · rw [hf] at HF
              rcases (show bestN C L S k = -1 ∨ 0 ≤ bestN C L S k by omega) with hb | hb
              · have e1 : (bestN C L S k == -1) = true := by simpa using hb
                have HN2 : Hid (bestN C L S (k + 1) = k) := Lib.hid (by rw [HN.out, if_pos ⟨hf, .inl hb⟩])
                clear HN hb hbd
                go_wp2_with fail
                go_quiet ((go_at_call 46; exact qdrew (HF.out _)))
                go_wp2_with fail
                go_roundw
                case rel => exact ⟨k + 1, _, by omega, by go_num, by rw [HN2.out], Lib.hid (by rw [hw2.out, World.drewN_drewN])⟩
                case measure => simp [intOf] <;> omega
              · obtain ⟨b, hbb⟩ := Int.eq_ofNat_of_zero_le hb
                rw [hbb] at HN hbd ⊢
                clear hb
                have e1 : ((b : Int) == -1) = false := by (simp <;> omega)
                have hbn : b < n := by omega
                have cb : wr.cell? ⟨q, b, none⟩ = some (.int .i64 (S.out b)) := by rw [cell_blk q5]; exact q6 b hbn
                rw [Int.toNat_natCast] at HN
                by_cases hle : S.out k < S.out b
                · have e2 : decide (S.out k < S.out b) = true := by simpa using hle
                  have HN2 : Hid (bestN C L S (k + 1) = k) := Lib.hid (by rw [HN.out, if_pos ⟨hf, .inr hle⟩])
                  clear HN hle hbd
                  go_wp2_with fail
                  go_quiet ((go_at_call 46; exact qdrew (HF.out _)))
                  go_wp2_with fail
                  go_roundw
                  case rel => exact ⟨k + 1, _, by omega, by go_num, by rw [HN2.out], Lib.hid (by rw [hw2.out, World.drewN_drewN])⟩
                  case measure => simp [intOf] <;> omega
                · have e2 : decide (S.out k < S.out b) = false := by simpa using hle
                  have HN2 : Hid (bestN C L S (k + 1) = b) := Lib.hid (by rw [HN.out, if_neg (by rintro ⟨_, h | h⟩ <;> omega)])
                  clear HN hle hbd
                  go_wp2_with fail
                  go_quiet ((go_at_call 46; exact qdrew (HF.out _)))
                  go_wp2_with fail
                  go_roundw
                  case rel => exact ⟨k + 1, _, by omega, by go_num, by rw [HN2.out], Lib.hid (by rw [hw2.out, World.drewN_drewN])⟩
                  case measure => simp [intOf] <;> omega
          · obtain rfl : n = k := by omega
            obtain ⟨hSI, ⟨j, hj⟩, _⟩ := R.out
            rcases bestN_none C L S n with ⟨hb, hno⟩ | ⟨hb, hbest⟩
            · have e1 : (bestN C L S n == -1) = true := by simpa using hb
              have HB := Lib.hid hb
              have HJ := Lib.hid hj
              clear hb hno hbd hSI hj
              go_wp2_with fail
              go_ret
              refine ⟨av, cv, S, rfl, ⟨⟨j, HJ.out⟩, HB.out⟩, X.out.hb, X.out.hn, fun h0 => ?_⟩
              obtain ⟨q, cur, hav, q1, q2, q3, q4, q5, q6⟩ := X.out.hq h0
              exact ⟨q, hav, q4, lt_of_block q5, fun i hi => by rw [cell_blk q5]; exact q6 i hi⟩
            · obtain ⟨b, hbb⟩ := Int.eq_ofNat_of_zero_le hb
              rw [hbb] at hbest hbd ⊢
              rw [Int.toNat_natCast] at hbest
              clear hb hbb
              have HBest := Lib.hid hbest
              have HSI := Lib.hid hSI
              have HJ := Lib.hid hj
              have hbn : b < n := hbest.1
              have e1 : ((b : Int) == -1) = false := by (simp <;> omega)
              clear hbest hSI hj hbd
              obtain ⟨q, cur, hav, q1, q2, q3, q4, q5, q6⟩ := X.out.hq (by omega)
              obtain ⟨bb, off, ha, hbB, hcc⟩ := X.out.cs.at_ (by omega)
              obtain ⟨f1, f2, f3, f4⟩ := fits_of HBest.out.2.1
              have hcb := cst_bd X.out.cs.bd L b (S.out b)
              have hcb1 := cst_bd X.out.cs.bd L b (S.out b + 1)
              have hl0 := HSI.out.l0
              have hl1 := HSI.out.l1
              have hx0 := HSI.out.lo b
              have hncv := X.out.hn
              subst hav ha
              have c1 : wr.cell? ⟨c, 0, none⟩ = some (.slice (some ⟨bb, off, none⟩) n cap) := cell_blk X.out.hc
              have c3 : wr.cell? ⟨q, b, none⟩ = some (.int .i64 (S.out b)) := by rw [cell_blk q5]; exact q6 b hbn
              have c4 : wr.cell? ⟨bb, off + b, none⟩ = some (.slice (A b) (L b) (K b)) := hcc b hbn
              have HK : Hid (Calls Try.prog 47 #[.slice (A b) (L b) (K b), .int .i64 (S.out b)] wr.drew fun e w' => e = .returned (.int .u64 (cst C L b (S.out b))) ∧ w' = wr.drew) := Lib.hid (costR (X.out.drewN 1).cs b hbn _)
              have HST : Hid (stepS C L n S = ⟨fun i => if i = b then S.out i + 1 else S.out i, leftN S.left (cst C L b (S.out b)) (cst C L b (S.out b + 1))⟩) := Lib.hid (stepS_best HBest.out)
              have HSS := Lib.hid (HSI.out.step X.out.cs.bd HBest.out)
              have HRM := Lib.hid (room_step HBest.out)
              have R1 : Hid (SW w.heap.size w wr.drew c o l (some ⟨bb, off, none⟩) n cap A K C L (some ⟨q, 0, none⟩) cv S) := Lib.hid (X.out.drewN 1)
              have w1 : IntKind.i64.wrap (S.out b + 1) = S.out b + 1 := IntWalk.i64_in _ (by omega)
              have w2 : wrap64 (S.out b + 1) = S.out b + 1 := by unfold wrap64; omega
              generalize hz0 : cst C L b (S.out b) = z0 at *
              generalize hz1 : cst C L b (S.out b + 1) = z1 at *
              clear q1 q2 q3 q4 q5 q6 hcc hz0
              go_wp2_with fail
              refine wp_region_still_lit (by kernel_rfl) (by kernel_rfl) ?_
              iterate 8 still_step
              still_call HK.out
              iterate 1 still_step
              refine wpStill_nil ?_
              change Exit.then _ _ _ _ wr.drew
              generalize wr.drew = W1 at *
              clear HK c0 c1 c3 c4
              obtain ⟨q', cur, hav, q1, q2, q3, q4, q5, q6⟩ := R1.out.hq (by omega)
              obtain rfl : q = q' := by simpa using hav
              have c0 : W1.cell? ⟨o, 0, none⟩ = some (.slice (some ⟨q, 0, none⟩) n cv) := cell_blk R1.out.ho
              have c3 : W1.cell? ⟨q, b, none⟩ = some (.int .i64 (S.out b)) := by rw [cell_blk q5]; exact q6 b hbn
              have c5 : W1.frozen? ⟨q, b, none⟩ = false := free_blk q5
              have R2 := Lib.hid (R1.out.setq b hbn (S.out b + 1))
              clear q1 q2 q3 q5 q6 hav R1
              go_wp2_with fail
              generalize hW2 : W1.setCell _ _ = W2
              rw [hW2] at R2
              clear hW2 c0 c3 c5
              have hf0 : (fun i => if i = b then S.out i + 1 else S.out i) = fun i => if i = b then S.out b + 1 else S.out i := by
                funext i; by_cases h : i = b
                · rw [if_pos h, if_pos h, h]
                · rw [if_neg h, if_neg h]
              have HF0 := Lib.hid hf0
              clear hf0
              have x1 : IntKind.u64.wrap S.left = S.left := by rw [IntKind.wrap_u64]; omega
              have x2 : S.left % 18446744073709551616 = S.left := by omega
              have hleq : z1 ≤ satI S.left z0 := f4
              rcases (show z0 ≤ z1 ∨ z1 < z0 by omega) with hzz | hzz
              · have hd : z1 - z0 ≤ S.left := by unfold satI at hleq; split at hleq <;> omega
                obtain ⟨d, hdd⟩ : ∃ d, d = z1 - z0 := ⟨_, rfl⟩
                have s1 : IntKind.u64.wrap (z1 - z0) = d := by rw [IntKind.wrap_u64]; omega
                have s2 : (z1 - z0) % 18446744073709551616 = d := by omega
                have m1 : ¬ z1 < z0 := by omega
                have m2 : ¬ S.left < d := by omega
                obtain ⟨x, hx⟩ : ∃ x, x = S.left - d := ⟨_, rfl⟩
                have s3 : IntKind.u64.wrap (S.left - d) = x := by rw [IntKind.wrap_u64]; omega
                have s4 : (S.left - d) % 18446744073709551616 = x := by omega
                have hx0' : 0 ≤ x := by omega
                have hx1' : x ≤ 18446744073709551615 := by omega
                have HX : Hid (satI x 0 = leftN S.left z0 z1) := Lib.hid (by unfold leftN satI; rw [if_pos hzz, if_pos (by omega)]; omega)
                have HD := Lib.hid hdd
                have HXX := Lib.hid hx
                clear hdd hx hd hleq f4 hzz
                obtain ⟨q', cur, hav, q1, q2, q3, q4, q5, q6⟩ := R2.out.hq (by omega)
                obtain rfl : q = q' := by simpa using hav
                obtain ⟨bb', off', ha, hbB, hcc⟩ := R2.out.cs.at_ (by omega)
                obtain ⟨rfl, rfl⟩ : bb = bb' ∧ off = off' := by simpa using ha
                have c0 : W2.cell? ⟨o, 0, none⟩ = some (.slice (some ⟨q, 0, none⟩) n cv) := cell_blk R2.out.ho
                have c1 : W2.cell? ⟨c, 0, none⟩ = some (.slice (some ⟨bb, off, none⟩) n cap) := cell_blk R2.out.hc
                have c2 : W2.cell? ⟨l, 0, none⟩ = some (.int .u64 S.left) := cell_blk R2.out.hl
                have c3 : W2.cell? ⟨q, b, none⟩ = some (.int .i64 (S.out b + 1)) := by
                  rw [cell_blk q5, q6 b hbn]; show some (Value.int IntKind.i64 (if b = b then S.out b + 1 else S.out b)) = _; rw [if_pos rfl]
                have c4 : W2.cell? ⟨bb, off + b, none⟩ = some (.slice (A b) (L b) (K b)) := hcc b hbn
                have c5 : W2.frozen? ⟨l, 0, none⟩ = false := free_blk R2.out.hl
                have HK : Hid (Calls Try.prog 47 #[.slice (A b) (L b) (K b), .int .i64 (S.out b + 1)] W2.drew fun e w' => e = .returned (.int .u64 z1) ∧ w' = W2.drew) := Lib.hid (by rw [← hz1]; exact costR (R2.out.drewN 1).cs b hbn _)
                clear q1 q2 q3 q5 q6 hav ha hcc hbB
                refine wp_region_still_tail 25 (by kernel_rfl) (by kernel_rfl) ?_
                simp only [List.take_succ_cons, List.take_zero, List.drop_succ_cons, List.drop_zero]
                iterate 9 still_step
                still_call HK.out
                iterate 9 still_step
                still_call HK.out
                iterate 5 still_step
                refine wpStill_nil ?_
                change wpList _ _ _ _ _ W2.drew
                go_wp2_with fail
                generalize hW3 : (World.setCell _ _ _).drew = W3
                have R3 : Hid (SW w.heap.size w W3 c o l (some ⟨bb, off, none⟩) n cap A K C L (some ⟨q, 0, none⟩) cv ⟨fun i => if i = b then S.out b + 1 else S.out i, x⟩) := Lib.hid (by rw [← hW3]; exact (R2.out.setl x).drewN 1)
                clear hW3 c0 c1 c2 c3 c4 c5 HK R2
                obtain ⟨q', cur, hav, q1, q2, q3, q4, q5, q6⟩ := R3.out.hq (by omega)
                obtain rfl : q = q' := by simpa using hav
                obtain ⟨bb', off', ha, hbB, hcc⟩ := R3.out.cs.at_ (by omega)
                obtain ⟨rfl, rfl⟩ : bb = bb' ∧ off = off' := by simpa using ha
                have c0 : W3.cell? ⟨o, 0, none⟩ = some (.slice (some ⟨q, 0, none⟩) n cv) := cell_blk R3.out.ho
                have c1 : W3.cell? ⟨c, 0, none⟩ = some (.slice (some ⟨bb, off, none⟩) n cap) := cell_blk R3.out.hc
                have c2 : W3.cell? ⟨l, 0, none⟩ = some (.int .u64 x) := cell_blk R3.out.hl
                have c3 : W3.cell? ⟨q, b, none⟩ = some (.int .i64 (S.out b + 1)) := by
                  rw [cell_blk q5, q6 b hbn]; show some (Value.int IntKind.i64 (if b = b then S.out b + 1 else S.out b)) = _; rw [if_pos rfl]
                have c4 : W3.cell? ⟨bb, off + b, none⟩ = some (.slice (A b) (L b) (K b)) := hcc b hbn
                have c5 : W3.frozen? ⟨l, 0, none⟩ = false := free_blk R3.out.hl
                have HK : Hid (Calls Try.prog 47 #[.slice (A b) (L b) (K b), .int .i64 (S.out b + 1)] W3.drew fun e w' => e = .returned (.int .u64 z1) ∧ w' = W3.drew) := Lib.hid (by rw [← hz1]; exact costR (R3.out.drewN 1).cs b hbn _)
                have HS : Hid (Calls Try.prog 48 #[.int .u64 x, .int .u64 (IntKind.u64.wrap (z0 - if z1 < z0 then z1 else z0))] W3.drew fun e w' => e = .returned (.int .u64 (leftN S.left z0 z1)) ∧ w' = W3.drew) := Lib.hid (by rw [← HX.out, if_neg (by omega), show IntKind.u64.wrap (z0 - z0) = 0 by rw [IntKind.wrap_u64]; omega]; exact satR _ _ _ (by omega) (by omega) (by omega) (by omega))
                clear q1 q2 q3 q5 q6 hav ha hcc hbB
                refine wp_region_still_tail 15 (by kernel_rfl) (by kernel_rfl) ?_
                simp only [List.take_succ_cons, List.take_zero, List.drop_succ_cons, List.drop_zero]
                iterate 11 still_step
                still_call HK.out
                iterate 2 still_step
                still_call HS.out
                refine wpStill_nil ?_
                change wpList _ _ _ _ _ W3.drew
                go_wp2_with fail
                generalize hW4 : (World.setCell _ _ _).drew = W4
                have R4 : Hid (SW w.heap.size w W4 c o l (some ⟨bb, off, none⟩) n cap A K C L (some ⟨q, 0, none⟩) cv (stepS C L n S)) := Lib.hid (by
                  rw [← hW4, HST.out, HF0.out]; exact (R3.out.setl _).drewN 1)
                clear hW4 c0 c1 c2 c3 c4 c5 HK HS R3
                go_roundw
                case rel => exact ⟨stepS C L n S, Lib.hid ⟨HSS.out, ⟨j + 1, by show _ = stepS C L n (iterS C L n (sh0 rate) j); rw [← HJ.out]⟩, R4.out⟩⟩
                case measure => rw [R4.out.room, R.out.2.2.room]; have := HRM.out; omega
              · obtain ⟨d, hdd⟩ : ∃ d, d = z0 - z1 := ⟨_, rfl⟩
                have s1 : IntKind.u64.wrap (z0 - z1) = d := by rw [IntKind.wrap_u64]; omega
                have s2 : (z0 - z1) % 18446744073709551616 = d := by omega
                have m1 : z1 < z0 := by omega
                have m2 : ¬ S.left < 0 := by omega
                have hx0' : 0 ≤ d := by omega
                have hx1' : d ≤ 18446744073709551615 := by omega
                have HX : Hid (satI S.left d = leftN S.left z0 z1) := Lib.hid (by unfold leftN; rw [if_neg (by omega), hdd])
                have HD := Lib.hid hdd
                clear hdd hleq f4 hzz
                obtain ⟨q', cur, hav, q1, q2, q3, q4, q5, q6⟩ := R2.out.hq (by omega)
                obtain rfl : q = q' := by simpa using hav
                obtain ⟨bb', off', ha, hbB, hcc⟩ := R2.out.cs.at_ (by omega)
                obtain ⟨rfl, rfl⟩ : bb = bb' ∧ off = off' := by simpa using ha
                have c0 : W2.cell? ⟨o, 0, none⟩ = some (.slice (some ⟨q, 0, none⟩) n cv) := cell_blk R2.out.ho
                have c1 : W2.cell? ⟨c, 0, none⟩ = some (.slice (some ⟨bb, off, none⟩) n cap) := cell_blk R2.out.hc
                have c2 : W2.cell? ⟨l, 0, none⟩ = some (.int .u64 S.left) := cell_blk R2.out.hl
                have c3 : W2.cell? ⟨q, b, none⟩ = some (.int .i64 (S.out b + 1)) := by
                  rw [cell_blk q5, q6 b hbn]; show some (Value.int IntKind.i64 (if b = b then S.out b + 1 else S.out b)) = _; rw [if_pos rfl]
                have c4 : W2.cell? ⟨bb, off + b, none⟩ = some (.slice (A b) (L b) (K b)) := hcc b hbn
                have c5 : W2.frozen? ⟨l, 0, none⟩ = false := free_blk R2.out.hl
                have HK : Hid (Calls Try.prog 47 #[.slice (A b) (L b) (K b), .int .i64 (S.out b + 1)] W2.drew fun e w' => e = .returned (.int .u64 z1) ∧ w' = W2.drew) := Lib.hid (by rw [← hz1]; exact costR (R2.out.drewN 1).cs b hbn _)
                clear q1 q2 q3 q5 q6 hav ha hcc hbB
                refine wp_region_still_tail 25 (by kernel_rfl) (by kernel_rfl) ?_
                simp only [List.take_succ_cons, List.take_zero, List.drop_succ_cons, List.drop_zero]
                iterate 9 still_step
                still_call HK.out
                iterate 9 still_step
                still_call HK.out
                iterate 5 still_step
                refine wpStill_nil ?_
                change wpList _ _ _ _ _ W2.drew
                go_wp2_with fail
                generalize hW3 : (World.setCell _ _ _).drew = W3
                have R3 : Hid (SW w.heap.size w W3 c o l (some ⟨bb, off, none⟩) n cap A K C L (some ⟨q, 0, none⟩) cv ⟨fun i => if i = b then S.out b + 1 else S.out i, S.left⟩) := Lib.hid (by rw [← hW3]; exact (R2.out.setl S.left).drewN 1)
                clear hW3 c0 c1 c2 c3 c4 c5 HK R2
                obtain ⟨q', cur, hav, q1, q2, q3, q4, q5, q6⟩ := R3.out.hq (by omega)
                obtain rfl : q = q' := by simpa using hav
                obtain ⟨bb', off', ha, hbB, hcc⟩ := R3.out.cs.at_ (by omega)
                obtain ⟨rfl, rfl⟩ : bb = bb' ∧ off = off' := by simpa using ha
                have c0 : W3.cell? ⟨o, 0, none⟩ = some (.slice (some ⟨q, 0, none⟩) n cv) := cell_blk R3.out.ho
                have c1 : W3.cell? ⟨c, 0, none⟩ = some (.slice (some ⟨bb, off, none⟩) n cap) := cell_blk R3.out.hc
                have c2 : W3.cell? ⟨l, 0, none⟩ = some (.int .u64 S.left) := cell_blk R3.out.hl
                have c3 : W3.cell? ⟨q, b, none⟩ = some (.int .i64 (S.out b + 1)) := by
                  rw [cell_blk q5, q6 b hbn]; show some (Value.int IntKind.i64 (if b = b then S.out b + 1 else S.out b)) = _; rw [if_pos rfl]
                have c4 : W3.cell? ⟨bb, off + b, none⟩ = some (.slice (A b) (L b) (K b)) := hcc b hbn
                have c5 : W3.frozen? ⟨l, 0, none⟩ = false := free_blk R3.out.hl
                have HK : Hid (Calls Try.prog 47 #[.slice (A b) (L b) (K b), .int .i64 (S.out b + 1)] W3.drew fun e w' => e = .returned (.int .u64 z1) ∧ w' = W3.drew) := Lib.hid (by rw [← hz1]; exact costR (R3.out.drewN 1).cs b hbn _)
                have HS : Hid (Calls Try.prog 48 #[.int .u64 S.left, .int .u64 d] W3.drew fun e w' => e = .returned (.int .u64 (leftN S.left z0 z1)) ∧ w' = W3.drew) := Lib.hid (by rw [← HX.out]; exact satR _ _ _ (by omega) (by omega) (by omega) (by omega))
                clear q1 q2 q3 q5 q6 hav ha hcc hbB
                refine wp_region_still_tail 15 (by kernel_rfl) (by kernel_rfl) ?_
                simp only [List.take_succ_cons, List.take_zero, List.drop_succ_cons, List.drop_zero]
                iterate 11 still_step
                still_call HK.out
                iterate 2 still_step
                still_call HS.out
                refine wpStill_nil ?_
                change wpList _ _ _ _ _ W3.drew
                go_wp2_with fail
                generalize hW4 : (World.setCell _ _ _).drew = W4
                have R4 : Hid (SW w.heap.size w W4 c o l (some ⟨bb, off, none⟩) n cap A K C L (some ⟨q, 0, none⟩) cv (stepS C L n S)) := Lib.hid (by
                  rw [← hW4, HST.out, HF0.out]; exact (R3.out.setl _).drewN 1)
                clear hW4 c0 c1 c2 c3 c4 c5 HK HS R3
                go_roundw
                case rel => exact ⟨stepS C L n S, Lib.hid ⟨HSS.out, ⟨j + 1, by show _ = stepS C L n (iterS C L n (sh0 rate) j); rw [← HJ.out]⟩, R4.out⟩⟩
                case measure => rw [R4.out.room, R.out.2.2.room]; have := HRM.out; omega
end Go.Proofs.Ytkemkplmhjmahaa
