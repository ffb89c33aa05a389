/-
  Chapter 37: Unpack of what was packed.
-/
import Derived.Test.YtihbceippcgfgaaTpV
namespace Go.Proofs.Ytihbceippcgfgaa
open Go.RowKit
set_option linter.unusedVariables false
set_option linter.unusedSimpArgs false
attribute [local irreducible] wpStill wpQuiet

theorem gz_get {L : List Int} {i : Nat} {x : Int} (h : L[i]? = some x) : gz L i = x := by unfold gz; rw [List.getD_eq_getElem?_getD, h]; rfl
theorem numv1 {L : List Int} {p : Nat} {x : Int} (h : L[p]? = some x) : numv (gz L) p 1 = x := by
  show 0 * 256 + gz L (p + 0) = x
  rw [Nat.add_zero, gz_get h]; omega
theorem numv2 {L : List Int} {p : Nat} {x y : Int} (h : L[p]? = some x) (k : L[p + 1]? = some y) : numv (gz L) p 2 = x * 256 + y := by
  show (0 * 256 + gz L (p + 0)) * 256 + gz L (p + 1) = _
  rw [Nat.add_zero, gz_get h, gz_get k]; omega
theorem wrap16 (z : Int) (h0 : -32768 ≤ z) (h1 : z ≤ 32767) : IntKind.i16.wrap (z % 65536) = z := by
  have e : (2 : Int) ^ (16 - 1) = 32768 := by decide
  have e2 : (2 : Int) ^ 16 = 65536 := by decide
  simp only [IntKind.wrap, IntKind.bits, IntKind.signed, Bool.true_and, decide_eq_true_eq, e, e2]
  split <;> omega
/-- Unpack under way: the place is p -/
structure UN (w : World) (gb ga ge : Nat) (a : Option Addr) (N c : Nat) (wx : World) (p : Nat) : Prop where
  bx : Bx wx gb ga ge a N c p
  below : Below w.heap.size w wx
  lo : ge < wx.heap.size
/-- what is in the way -/
structure Ord (w : World) (gb ga ge : Nat) : Prop where
  o1 : w.heap.size ≤ gb
  o2 : gb < ga
  o3 : ga < ge
theorem UN.later {w wx W : World} {gb ga ge : Nat} {a : Option Addr} {N c p : Nat} (h : UN w gb ga ge a N c wx p) (o : Ord w gb ga ge) (b : Below (ge + 1) wx W) : UN w gb ga ge a N c W p := by
  have := o.o1; have := o.o2; have := o.o3; have := h.lo; have := b.size
  exact ⟨⟨Below.blk b h.bx.b (by omega), Below.blk b h.bx.at' (by omega), Below.blk b h.bx.e (by omega)⟩, h.below.trans (b.mono (by omega)), by omega⟩
theorem UN.all {w wx W : World} {gb ga ge : Nat} {a : Option Addr} {N c p : Nat} (h : UN w gb ga ge a N c wx p) (o : Ord w gb ga ge) (b : Below wx.heap.size wx W) : UN w gb ga ge a N c W p := h.later o (b.mono h.lo)
theorem own_blk1y {w w' : World} {base : Nat} {e : TypeId} {size : Nat} {v : Value} {n : Nat} {xs : List Value} (h : w.ownsRow base e size v n xs) (hb : ∀ k, v.ownBlock = some k → w'.heap[k]? = w.heap[k]?) : w'.ownsRow base e size v n xs := by
  obtain ⟨h1, h2⟩ := h
  refine ⟨h1, ?_⟩
  rcases h2 with h2 | ⟨g, cap, cur, hv, hg, hh, r'⟩
  · exact .inl h2
  · exact .inr ⟨g, cap, cur, hv, hg, by rw [hb g (by rw [hv]; rfl)]; exact hh, r'⟩
theorem own_kp {wx W : World} {ga ge : Nat} {e : TypeId} {s n : Nat} {v : Value} {xs : List Value} (h : wx.ownsRow (ge + 1) e s v n xs) (k : Keeps ga wx W) (hg : ga < ge) : W.ownsRow (ge + 1) e s v n xs :=
  own_blk1y h (fun q hq => by
    have := h.lt q hq
    exact k.block q this.2 (by omega))
theorem unext {w wx : World} {gb ga ge : Nat} {a : Option Addr} {N c p : Nat} {L : List Int} (o : Ord w gb ga ge) (hs : BS w.heap.size w a N c (gz L)) (h : UN w gb ga ge a N c wx p) (k : Nat) (hk1 : 1 ≤ k) (hk2 : k ≤ 2) (hp : p + k ≤ N) (hN : N ≤ 100000) (x : Int) (hx : numv (gz L) p k = x) :
    Calls Try.prog 90 #[.int .i64 k, .pointer (some ⟨gb, 0, none⟩), .pointer (some ⟨ga, 0, none⟩), .pointer (some ⟨ge, 0, none⟩)] wx fun e w' => e = .returned (.int .i64 x) ∧ UN w gb ga ge a N c w' (p + k) ∧ Keeps ga wx w' := by
  have := o.o1; have := o.o2; have := o.o3
  refine (next_any _ gb ga ge a N c (gz L) p k wx (hs.keep h.below) hk1 hk2 hp hN h.bx ⟨by omega, by omega⟩).mono ?_
  rintro e w' ⟨rfl, b, kp⟩
  have := kp.size; have := h.lo
  exact ⟨by rw [hx], ⟨b, Below.keeps h.below h.below.size (by omega) kp, by omega⟩, kp⟩
/-- signs and what is appended to them -/
theorem app_all {w : World} {B : Nat} {a1 a2 : Option Addr} {n m c1 c2 base2 : Nat} {L M : List Int} (h : w.ownsRow B 3 1 (.slice a1 n c1) n (vsI L)) (k : w.ownsRow base2 3 1 (.slice a2 m c2) m (vsI M)) (hn : n + m ≤ 100000) (hB : B ≤ w.heap.size) :
    ∃ a' c' W, (∀ ty, (Builtin.append_ #[90, 90] ty #[.slice a1 n c1, .slice a2 m c2]).run Try.prog w = .ok (.slice a' (n + m) c') W) ∧ W.ownsRow B 3 1 (.slice a' (n + m) c') (n + m) (vsI (L ++ M)) ∧ Below B w W := by
  obtain ⟨a', c', W, A, b⟩ := appS elI h a2 m c2 (vsI M) (fun e => by
    subst e
    rcases k.2 with ⟨hv, h0⟩ | ⟨g, cap, cur, hv, _⟩
    · cases hv; exact ⟨rfl, rfl⟩
    · cases hv) (by have := k.1; omega) (fun ad e j u hj => by
    subst e
    rcases k.2 with ⟨hv, h0⟩ | ⟨g, cap, cur, hv, _⟩
    · cases hv
    · cases hv
      exact k.cells rfl j u hj) (fun u hu => by
    simp only [vsI, List.mem_map] at hu
    obtain ⟨x, _, rfl⟩ := hu
    rfl) (by omega) (by omega) hB
  exact ⟨a', c', W, A.run, by rw [vsI_app]; exact A.own, b⟩
theorem Two.kp {wx W : World} {ga ge : Nat} {v1 v2 : Value} {n m : Nat} {L1 L2 : List Int} (h : Two wx (ge + 1) v1 v2 n m L1 L2) (k : Keeps ga wx W) (hg : ga < ge) : Two W (ge + 1) v1 v2 n m L1 L2 := ⟨own_kp h.one k hg, own_kp h.two k hg, h.apart⟩
def UpPost (base : Int) (X : Nat → Int) (n : Nat) (w : World) (e : Ending) (w' : World) : Prop :=
  ∃ a c, e = .returned (.tuple #[.int .u16 base, .slice a n c, .int .i64 0]) ∧ w'.ownsRow w.heap.size 3 1 (.slice a n c) n (vsI (fl X n)) ∧ Below w.heap.size w w'
set_option maxRecDepth 100000 in
set_option maxHeartbeats 4000000 in
theorem unpack_any (base : Int) (hb : 0 ≤ base ∧ base ≤ 65535) (X : Nat → Int) (n J : Nat) (hn1 : 1 ≤ n) (hn : n ≤ 400) (hg : good X n) (hJ : Many (sg X) n J) (w : World) (B : Nat) (a : Option Addr) (N c : Nat) (hN : N = (pks base X n J).length) (ho : OwnB w B a N c (pks base X n J)) :
    Calls Try.prog 53 #[.slice a N c] w (UpPost base X n w) := by
  have hJn := hJ.le
  have hN4 : 4 ≤ N := by rw [hN, pks_len]; omega
  have hN2 : N ≤ 2000 := by rw [hN, pks_len]; have := sbs_len X n; omega
  obtain ⟨-, a', c', he, hs⟩ := BS.own ho.1 ho.2 (by omega)
  cases he
  obtain ⟨L, hL⟩ : ∃ L, L = pks base X n J := ⟨_, rfl⟩
  rw [← hL] at hs hN
  have HS := Lib.hid hs
  have HN := Lib.hid hN
  have HL := Lib.hid hL
  have HG := Lib.hid hg
  have HJ := Lib.hid hJ
  have hσ : Hid (∀ i, 0 ≤ sg X i ∧ sg X i ≤ 2) := Lib.hid (sg_bd X)
  have HE1 : Hid (numv (gz L) 0 2 = base) := Lib.hid (by
    obtain ⟨h0, h1, _, _⟩ := pks_head base X n J
    rw [hL, numv2 h0 h1]; omega)
  have HE2 : Hid (numv (gz L) 2 2 = n) := Lib.hid (by
    obtain ⟨_, _, h2, h3⟩ := pks_head base X n J
    rw [hL, numv2 h2 h3]; omega)
  have hbw : IntKind.u16.wrap base = base := by rw [IntKind.wrap_u16]; omega
  have HO : Hid (Ord w w.heap.size (w.heap.size + 1) (w.heap.size + 1 + 1)) := Lib.hid ⟨by omega, by omega, by omega⟩
  have HU : Hid (UN w w.heap.size (w.heap.size + 1) (w.heap.size + 1 + 1) a N c (((w.alloc (.cells #[.slice a N c] 25)).alloc (.cells #[.int .i64 0] 3)).alloc (.cells #[.int .i64 0] 26)) 0) := Lib.hid ⟨⟨by rw [heap_alloc, if_neg (by simp; omega), heap_alloc, if_neg (by simp), heap_alloc, if_pos rfl], by rw [heap_alloc, if_neg (by simp), heap_alloc, if_pos (by simp)]; rfl, by rw [heap_alloc, if_pos (by simp)]⟩, (((Below.refl _ _).alloc (Nat.le_refl _) _).alloc (by simp) _).alloc (by simp; omega) _, by simp⟩
  clear hs hN ho hg hJ hL
  go_enter Try.func53, Try.ntmps53
  go_wp2_with fail
  generalize ((w.alloc (.cells #[.slice a N c] 25)).alloc (.cells #[.int .i64 0] 3)).alloc (.cells #[.int .i64 0] 26) = W0 at HU ⊢
  generalize hge : w.heap.size + 1 + 1 = ge at HU HO ⊢
  generalize hga : w.heap.size + 1 = ga at HU HO ⊢
  obtain ⟨gb, hgb⟩ : ∃ g, g = w.heap.size := ⟨_, rfl⟩
  have HU : Hid (UN w gb ga ge a N c W0 0) := Lib.hid (by rw [hgb]; exact HU.out)
  have HO : Hid (Ord w gb ga ge) := Lib.hid (by rw [hgb]; exact HO.out)
  rw [← hgb]
  clear hge hga hgb
  have hgg : ga < ge := HO.out.o3
  refine (unext HO.out HS.out HU.out 2 (by omega) (by omega) (by omega) (by omega) base HE1.out).mono ?_
  rintro e w1 ⟨rfl, U1, -⟩
  go_wp2_with fail
  refine (unext HO.out HS.out U1 2 (by omega) (by omega) (by omega) (by omega) n HE2.out).mono ?_
  rintro e w2 ⟨rfl, U2, -⟩
  have HU2 : Hid (UN w gb ga ge a N c w2 4) := Lib.hid U2
  clear U1 U2 HU HE1 HE2
  have u1 : decide (1 ≤ (n : Int)) = true := by simp; omega
  have u2 : decide ((n : Int) ≤ 400) = true := by simp; omega
  go_wp2_with fail
  refine (must_yes ge w2).mono ?_
  rintro e w3 ⟨rfl, rfl⟩
  go_wp2_with fail
  go_loopw [11] (fun s wx => ∃ (j m c' : Nat) (a' : Option Addr), m ≤ n ∧ s = .slice a' m c' ∧ Hid (m = min (pos (sg X) n j) n) ∧ Hid (∀ i, i < j → pos (sg X) n i < n) ∧ Hid (UN w gb ga ge a N c wx (4 + 2 * j)) ∧ Hid (wx.ownsRow (ge + 1) 3 1 (.slice a' m c') m (vsI (fl (sg X) m)))) (fun s _ => n - lnOf s)
  case atStart => exact ⟨0, 0, 0, none, by omega, rfl, Lib.hid (by show 0 = min 0 n; omega), Lib.hid (fun i hi => by omega), HU2, Lib.hid (own_nil _ _)⟩
  case round =>
    obtain ⟨j, m, c', a', hmn, rfl, HM, HJJ, HU, HR⟩ := hrel
    have ce : wr.cell? ⟨ge, 0, none⟩ = some (.int .i64 0) := cell_blk HU.out.bx.e
    by_cases hlt : m < n
    · have hpm : Hid (pos (sg X) n j = m) := Lib.hid (by have := HM.out; omega)
      have hpl : pos (sg X) n j < n := by have := HM.out; omega
      have hJ2 : Hid (∀ i, i < j + 1 → pos (sg X) n i < n) := Lib.hid (fun i hi => by
        by_cases e : i = j
        · subst e; exact hpl
        · exact HJJ.out i (by omega))
      have hjJ : j < J := by
        rcases Nat.lt_or_ge j J with h | h
        · exact h
        · exfalso
          have h1 := HJ.out.1
          rcases Nat.lt_or_ge J j with h2 | h2
          · have := HJJ.out J h2; omega
          · rw [show J = j by omega] at h1; omega
      have hNj : 4 + 2 * j + 2 ≤ N := by rw [HN.out, HL.out, pks_len]; omega
      have hw := pks_word (base := base) (X := X) (n := n) hjJ
      have hwd : numv (gz L) (4 + 2 * j) 2 = wd (sg X) n m := by rw [HL.out, numv2 hw.1 hw.2, hpm.out]; omega
      have HWD := Lib.hid hwd
      have hwb := wd_bd hσ.out hlt hn
      obtain ⟨q, hq⟩ : ∃ q, q = n - m := ⟨_, rfl⟩
      have hqi : (n : Int) - (m : Int) = (q : Int) := by omega
      have HQ := Lib.hid hq
      have u1 : decide ((m : Int) < (n : Int)) = true := by simp; omega
      clear hwd hw hq hpl
      go_wp2_with fail
      refine (unext HO.out HS.out HU.out 2 (by omega) (by omega) (by omega) (by omega) _ HWD.out).mono ?_
      rintro e w4 ⟨rfl, U4, K4⟩
      have ce4 : w4.cell? ⟨ge, 0, none⟩ = some (.int .i64 0) := cell_blk U4.bx.e
      have R4 := own_kp HR.out K4 hgg
      go_wp2_with fail
      refine (chunk_any (sg X) hσ.out n m q hlt hn HQ.out w4).mono ?_
      rintro e w5 ⟨al, cl, ml, hml, rfl, Rl, B5⟩
      have U5 := U4.all HO.out B5
      have R5 := own_below R4 B5
      have hlo := U5.lo
      have hmln : m + ml ≤ n := by rw [hml]; unfold chN; omega
      have HML := Lib.hid hml
      obtain ⟨a6, c6, W6, r6, o6, b6⟩ := app_all R5 Rl (by omega) hlo
      have HU6 : Hid (UN w gb ga ge a N c W6 (4 + 2 * (j + 1))) := Lib.hid (U5.later HO.out b6)
      have HR6 : Hid (W6.ownsRow (ge + 1) 3 1 (.slice a6 (m + ml) c6) (m + ml) (vsI (fl (sg X) (m + ml)))) := Lib.hid (by rw [← fl_chL]; exact o6)
      have HM6 : Hid (m + ml = min (pos (sg X) n (j + 1)) n) := Lib.hid (by
        have := nx_lt (σ := sg X) hlt
        rw [pos_succ, hpm.out, HML.out]; unfold chN; omega)
      have hml1 : 1 ≤ ml := by have := nx_lt (σ := sg X) hlt; rw [hml]; unfold chN; omega
      have HRUN := Lib.hid r6
      clear U4 K4 R4 U5 R5 Rl B5 hml r6 o6 b6 ce4
      go_wp2_with fail
      refine (must_yes ge w5).mono ?_
      rintro e w7 ⟨rfl, rfl⟩
      go_wp2_with (at_builtin; refine wpList_of_append rfl (.tmp 57) (.tmp 58) 90 rfl _ _ _ rfl rfl HRUN.out ?_)
      exact ⟨⟨j + 1, m + ml, c6, a6, by omega, rfl, HM6, hJ2, HU6, HR6⟩, by simp [lnOf]; omega⟩
    · obtain rfl : n = m := by omega
      have hjJ : J = j := by
        refine Many.uniq HJ.out ⟨?_, HJJ.out⟩
        have := HM.out; omega
      have HU' : Hid (UN w gb ga ge a N c wr (4 + 2 * J)) := Lib.hid (by rw [hjJ]; exact HU.out)
      have HTW : Hid (Two wr (ge + 1) (.slice a' n c') (.slice none 0 0) n 0 (fl (sg X) n) []) := Lib.hid ⟨HR.out, own_nil _ _, fun g _ h => by cases h⟩
      obtain ⟨s, c1, he, g1, -, l1, l2⟩ := own_pos HR.out (by omega)
      cases he
      clear HM HJJ HU HR hjJ
      go_wp2_with fail
      generalize hwW : wr = W9 at *
      clear hwW
      go_loopw [15, 16, 17] (fun so st si wx => ∃ (i : Nat) (a2 : Option Addr) (c2 : Nat) (g : Int), i ≤ n ∧ si = .int .i64 i ∧ st = .int .i64 g ∧ so = .slice a2 i c2 ∧ Hid (g = ahd X i) ∧ Hid (UN w gb ga ge a N c wx (4 + 2 * J + (sbs X i).length)) ∧ Hid (Two wx (ge + 1) (.slice (some ⟨s, 0, none⟩) n c') (.slice a2 i c2) n i (fl (sg X) n) (fl X i))) (fun _ _ si _ => n - (intOf si).toNat)
      case atStart => exact ⟨0, none, 0, 0, by omega, rfl, rfl, rfl, Lib.hid rfl, HU', HTW⟩
      case round =>
        clear HU' HTW ce
        obtain ⟨i, a2, c2, g, hi, rfl, rfl, rfl, HGG, HU, HT⟩ := hrel
        have ce : wr.cell? ⟨ge, 0, none⟩ = some (.int .i64 0) := cell_blk HU.out.bx.e
        by_cases hlt : i < n
        · have ci : wr.cell? ⟨s, i, none⟩ = some (.int .i64 (sg X i)) := own_cell HT.out.one (vsI_fl _ hlt)
          have u1 : decide ((i : Int) < (n : Int)) = true := by simp; omega
          have hNi : ∀ k u, (sb X i)[k]? = some u → 4 + 2 * J + (sbs X i).length + k < N ∧ L[4 + 2 * J + (sbs X i).length + k]? = some u := fun k u hu => by
            have := pks_step (base := base) (X := X) (n := n) (J := J) hlt hu
            rw [← HL.out] at this
            exact ⟨by rw [HN.out]; exact (List.getElem?_eq_some_iff.1 this).1, this⟩
          have HNI := Lib.hid hNi
          have hok := HG.out i hlt
          have hsl2 := sb_len X i
          by_cases hx : X i = -1
          · have hsg := sg_zero.2 hx
            rw [hsg] at ci
            have hsb : sb X i = [] := if_pos hx
            obtain ⟨a5, c5, W5, r5, T5, b5⟩ := HT.out.step (-1) (by omega) HU.out.lo
            have HRUN := Lib.hid r5
            have HU5 : Hid (UN w gb ga ge a N c W5 (4 + 2 * J + (sbs X (i + 1)).length)) := Lib.hid (by rw [sbs_succ, hsb, List.append_nil]; exact HU.out.later HO.out b5)
            have HT5 : Hid (Two W5 (ge + 1) (.slice (some ⟨s, 0, none⟩) n c') (.slice a5 (i + 1) c5) n (i + 1) (fl (sg X) n) (fl X (i + 1))) := Lib.hid (by rw [fl_succ, hx]; exact T5)
            have HG5 : Hid (g = ahd X (i + 1)) := Lib.hid (by rw [ahd_succ, if_pos hx]; exact HGG.out)
            clear hx hsg hsb r5 T5 b5 hNi hok hsl2
            go_wp2_with (at_builtin; refine wpList_of_append rfl (.tmp 76) (.tmp 77) 90 rfl _ _ _ rfl rfl HRUN.out ?_)
            go_roundw
            case rel => exact ⟨i + 1, a5, c5, g, by omega, by go_num, rfl, rfl, HG5, HU5, HT5⟩
            case measure => simp [intOf] <;> omega
          · have HG5 : Hid (X i = ahd X (i + 1)) := Lib.hid (by rw [ahd_succ, if_neg hx])
            have hst : stp X i = X i - g := by unfold stp; rw [if_neg hx, ← HGG.out]
            obtain ⟨o1, o2, o3, o4⟩ := hok
            have hxi : 0 ≤ X i := by omega
            rcases (show sg X i = 1 ∨ sg X i = 2 by have := hσ.out i; have h0 : sg X i ≠ 0 := fun e => hx (sg_zero.1 e); omega) with h1 | h2
            · rw [h1] at ci hsl2
              have hsl : (sb X i).length = 1 := by omega
              have hsb : sb X i = [stp X i] := by unfold sb; rw [if_neg hx, if_pos h1]
              have hn1 := hNi 0 (stp X i) (by rw [hsb]; rfl)
              rw [Nat.add_zero] at hn1
              have HV := Lib.hid (numv1 hn1.2)
              have HP := Lib.hid hn1.1
              have HSL := Lib.hid hsl
              have hgz : g + stp X i = X i := by omega
              have hgb : 0 ≤ g ∧ g ≤ 1048575 := by rw [HGG.out]; exact ahd_bd HG.out i hi
              generalize hz : stp X i = z at *
              generalize hy : X i = y at *
              have u3 : decide (0 ≤ y) = true := by simp; omega
              have u4 : decide (y < 1048576) = true := by simp; omega
              have hy2 := Lib.hid hy
              clear hsl hsb hn1 hNi hx hst hz h1 hy hsl2
              go_wp2_with fail
              refine (unext HO.out HS.out HU.out 1 (by omega) (by omega) HP.out (by omega) z HV.out).mono ?_
              rintro e w4 ⟨rfl, U4, K4⟩
              have T4 := HT.out.kp K4 hgg
              obtain ⟨a5, c5, W5, r5, T5, b5⟩ := T4.step y (by omega) U4.lo
              have HRUN := Lib.hid r5
              have HU5 : Hid (UN w gb ga ge a N c W5 (4 + 2 * J + (sbs X (i + 1)).length)) := Lib.hid (by rw [sbs_succ, List.length_append, HSL.out, ← Nat.add_assoc]; exact U4.later HO.out b5)
              have HT5 : Hid (Two W5 (ge + 1) (.slice (some ⟨s, 0, none⟩) n c') (.slice a5 (i + 1) c5) n (i + 1) (fl (sg X) n) (fl X (i + 1))) := Lib.hid (by rw [fl_succ, hy2.out]; exact T5)
              clear U4 K4 T4 r5 T5 b5
              go_wp2_with (at_builtin; refine wpList_of_append rfl (.tmp 92) (.tmp 94) 90 rfl _ _ _ rfl rfl HRUN.out ?_)
              refine (must_yes ge W5).mono ?_
              rintro e w7 ⟨rfl, rfl⟩
              go_wp2_with fail
              go_roundw
              case rel => exact ⟨i + 1, a5, c5, y, by omega, by go_num, rfl, rfl, HG5, HU5, HT5⟩
              case measure => simp [intOf] <;> omega
            · rw [h2] at ci hsl2
              have hsl : (sb X i).length = 2 := by omega
              have hsb : sb X i = [stp X i % 65536 / 256, stp X i % 65536 % 256] := by unfold sb; rw [if_neg hx, if_neg (by omega)]
              have hn1 := hNi 0 (stp X i % 65536 / 256) (by rw [hsb]; rfl)
              have hn2 := hNi 1 (stp X i % 65536 % 256) (by rw [hsb]; rfl)
              rw [Nat.add_zero] at hn1
              have hv := numv2 hn1.2 hn2.2
              rw [show stp X i % 65536 / 256 * 256 + stp X i % 65536 % 256 = stp X i % 65536 by omega] at hv
              have HV := Lib.hid hv
              have HP : Hid (4 + 2 * J + (sbs X i).length + 2 ≤ N) := Lib.hid hn2.1
              have HSL := Lib.hid hsl
              have hgz : g + stp X i = X i := by omega
              have hgb : 0 ≤ g ∧ g ≤ 1048575 := by rw [HGG.out]; exact ahd_bd HG.out i hi
              generalize hz : stp X i = z at *
              generalize hy : X i = y at *
              have u3 : decide (0 ≤ y) = true := by simp; omega
              have u4 : decide (y < 1048576) = true := by simp; omega
              have hy2 := Lib.hid hy
              have hiw : IntKind.i16.wrap (z % 65536) = z := wrap16 z o3 o4
              clear hsl hsb hn1 hn2 hv hNi hx hst hz h2 hy hsl2
              go_wp2_with fail
              refine (unext HO.out HS.out HU.out 2 (by omega) (by omega) HP.out (by omega) (z % 65536) HV.out).mono ?_
              rintro e w4 ⟨rfl, U4, K4⟩
              have T4 := HT.out.kp K4 hgg
              obtain ⟨a5, c5, W5, r5, T5, b5⟩ := T4.step y (by omega) U4.lo
              have HRUN := Lib.hid r5
              have HU5 : Hid (UN w gb ga ge a N c W5 (4 + 2 * J + (sbs X (i + 1)).length)) := Lib.hid (by rw [sbs_succ, List.length_append, HSL.out, ← Nat.add_assoc]; exact U4.later HO.out b5)
              have HT5 : Hid (Two W5 (ge + 1) (.slice (some ⟨s, 0, none⟩) n c') (.slice a5 (i + 1) c5) n (i + 1) (fl (sg X) n) (fl X (i + 1))) := Lib.hid (by rw [fl_succ, hy2.out]; exact T5)
              clear U4 K4 T4 r5 T5 b5
              go_wp2_with (at_builtin; refine wpList_of_append rfl (.tmp 92) (.tmp 94) 90 rfl _ _ _ rfl rfl HRUN.out ?_)
              refine (must_yes ge W5).mono ?_
              rintro e w7 ⟨rfl, rfl⟩
              go_wp2_with fail
              go_roundw
              case rel => exact ⟨i + 1, a5, c5, y, by omega, by go_num, rfl, rfl, HG5, HU5, HT5⟩
              case measure => simp [intOf] <;> omega
        · obtain rfl : n = i := by omega
          have hU9 : UN w gb ga ge a N c wr N := by have := HU.out; rw [show 4 + 2 * J + (sbs X n).length = N by rw [HN.out, HL.out, pks_len]] at this; exact this
          have cb : wr.cell? ⟨gb, 0, none⟩ = some (.slice a N c) := cell_blk hU9.bx.b
          have ca : wr.cell? ⟨ga, 0, none⟩ = some (.int .i64 N) := cell_blk hU9.bx.at'
          have HU9 := Lib.hid hU9
          have u1 : decide ((n : Int) < (n : Int)) = false := by simp
          have u2 : ((N : Int) == (N : Int)) = true := by simp
          clear hU9
          go_wp2_with fail
          refine (must_yes ge wr).mono ?_
          rintro e w7 ⟨rfl, rfl⟩
          go_wp2_with fail
          go_returns
          have := HO.out.o1; have := HO.out.o2; have := HO.out.o3
          exact ⟨a2, c2, rfl, HT.out.two.mono (by omega), HU9.out.below⟩
end Go.Proofs.Ytihbceippcgfgaa
