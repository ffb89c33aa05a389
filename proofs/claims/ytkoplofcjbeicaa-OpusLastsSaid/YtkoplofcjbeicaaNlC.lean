/-
  Chapter 41: Cut.
-/
import Derived.Test.YtkoplofcjbeicaaNlB
import Derived.Test.YtkoplofcjbeicaaApp
import Derived.Deep.DeepCutAuto
namespace Go.Proofs.Ytkoplofcjbeicaa
open Go.RowKit
set_option linter.unusedVariables false
set_option linter.unusedSimpArgs false
attribute [local irreducible] wpStill wpQuiet

theorem infoSl41 : (Try.prog.info? 22).map (fun i => (i.zero, i.size, i.bytes)) = some (some (.slice none 0 0), 1, 24) := by kernel_rfl
theorem elS : ElemT Try.prog 46 22 1 24 := ElemT.mk' (z := .slice none 0 0) Try.underlying46 infoSl41 rfl (by decide)
/-- a slice of bytes of a call's own -/
structure Own1 (w : World) (G : Nat) (v : Value) (L : List Int) : Prop where
  own : w.ownsRow G 5 1 v L.length (u8s L)
  oct : Oct L
/-- a row of slices of bytes, all of a call's own -/
structure Rows (w : World) (G : Nat) (a : Option Addr) (k c : Nat) (P : Nat → List Int) (vs : Nat → Value) : Prop where
  own : w.ownsRow G 22 1 (.slice a k c) k ((List.range k).map vs)
  each : ∀ i, i < k → Own1 w G (vs i) (P i)
theorem Own1.mono {w : World} {G H : Nat} {v : Value} {L : List Int} (h : Own1 w G v L) (hH : H ≤ G) : Own1 w H v L := ⟨h.own.mono hH, h.oct⟩
theorem Rows.mono {w : World} {G H : Nat} {a : Option Addr} {k c : Nat} {P : Nat → List Int} {vs : Nat → Value} (h : Rows w G a k c P vs) (hH : H ≤ G) : Rows w H a k c P vs := ⟨h.own.mono hH, fun i hi => (h.each i hi).mono hH⟩
theorem Rows.below {w w' : World} {G : Nat} {a : Option Addr} {k c : Nat} {P : Nat → List Int} {vs : Nat → Value} (h : Rows w G a k c P vs) (b : Below w.heap.size w w') : Rows w' G a k c P vs := ⟨own_below h.own b, fun i hi => ⟨own_below (h.each i hi).own b, (h.each i hi).oct⟩⟩
theorem own_kp2 {w w' : World} {g h G : Nat} {e : TypeId} {s n : Nat} {v : Value} {xs : List Value} (o : w.ownsRow G e s v n xs) (k : Kp2 g h w w') (hg : g < G) (hh : h < G) : w'.ownsRow G e s v n xs :=
  own_blk1y o (fun q hq => by
    have := o.lt q hq
    exact k.block q this.2 (by omega) (by omega))
theorem Rows.kp2 {w w' : World} {g h G : Nat} {a : Option Addr} {k c : Nat} {P : Nat → List Int} {vs : Nat → Value} (r : Rows w G a k c P vs) (q : Kp2 g h w w') (hg : g < G) (hh : h < G) : Rows w' G a k c P vs := ⟨own_kp2 r.own q hg hh, fun i hi => ⟨own_kp2 (r.each i hi).own q hg hh, (r.each i hi).oct⟩⟩
theorem Rows.nil (w : World) (G : Nat) (P : Nat → List Int) : Rows w G none 0 0 P (fun _ => .slice none 0 0) := ⟨World.ownsRow_nil _ _ _ _, fun i hi => by omega⟩
def setV (vs : Nat → Value) (k : Nat) (v : Value) : Nat → Value := fun i => if i = k then v else vs i
/-- one more -/
theorem Rows.push {w : World} {G : Nat} {a : Option Addr} {k c : Nat} {P : Nat → List Int} {vs : Nat → Value} (h : Rows w G a k c P vs) {v : Value} (hv : Own1 w G v (P k)) (hk : k ≤ 100000) (hG : G ≤ w.heap.size) (hv1 : v.oneCell' = true) :
    ∃ a' c' W, (∀ ty, (Builtin.append_ #[46, 46] ty #[.slice a k c, .slice (some ⟨w.heap.size, 0, none⟩) 1 1]).run Try.prog (w.alloc (.cells #[v] 22)) = .ok (.slice a' (k + 1) c') W) ∧ Rows W G a' (k + 1) c' P (setV vs k v) ∧ Below G w W := by
  obtain ⟨a', c', W, A, b⟩ := app1 elS h.own [v] rfl (one_cell hv1) (by omega) (by omega) hG
  refine ⟨a', c', W, A.run, ⟨?_, fun i hi => ?_⟩, b⟩
  · have : (List.range (k + 1)).map (setV vs k v) = (List.range k).map vs ++ [v] := by
      rw [List.range_succ, List.map_append]
      congr 1
      · exact List.map_congr_left fun i hi => by
          have := List.mem_range.1 hi
          unfold setV; rw [if_neg (by omega)]
      · simp [setV]
    rw [this]; exact A.own
  · have keep : ∀ {x L}, Own1 w G x L → Own1 W G x L := fun {x L} ho => ⟨own_but ho.own A.but (fun g hg e => own_types h.own ho.own (by decide) g e hg), ho.oct⟩
    by_cases e : i = k
    · subst e; unfold setV; rw [if_pos rfl]; exact keep hv
    · unfold setV; rw [if_neg e]; exact keep (h.each i (by omega))
def qk (d : Nat) : Nat → Nat
  | 0 => 0
  | k + 1 => qk d k + d
theorem qk_ge {d : Nat} (hd : 1 ≤ d) (k : Nat) : k ≤ qk d k := by
  induction k with
  | zero => exact Nat.zero_le _
  | succ k ih => show k + 1 ≤ qk d k + d; omega
/-- how many pieces -/
def Man (n d K : Nat) : Prop := n ≤ 1 + qk d K ∧ ∀ j, j < K → 1 + qk d j < n
theorem Man.uniq {n d J K : Nat} (h : Man n d J) (k : Man n d K) : J = K := by
  rcases Nat.lt_trichotomy J K with l | l | l
  · have := k.2 J l; have := h.1; omega
  · exact l
  · have := h.2 K l; have := k.1; omega
def CutPost (P : Nat → List Int) (K : Nat) (w : World) (e : Ending) (w' : World) : Prop :=
  ∃ a c vs, e = .returned (.tuple #[.slice a K c, .int .i64 0]) ∧ Rows w' w.heap.size a K c P vs ∧ Below w.heap.size w w'
theorem BS.drop {B : Nat} {w : World} {b off n c : Nat} {Z : Nat → Int} (h : BS B w (some ⟨b, off, none⟩) n c Z) (k : Nat) (hk : k ≤ n) (hc : 0 < c) : BS B w (some ⟨b, off + k, none⟩) (n - k) (c - k) (fun x => Z (k + x)) := by
  obtain ⟨h1, h2, h3, b', off', h4, h5⟩ := h
  obtain ⟨h6, h7⟩ := h4 hc
  cases h6
  refine ⟨by omega, by omega, fun i hi => h3 _ (by omega), b, off + k, fun _ => ⟨rfl, h7⟩, fun i hi => ?_⟩
  rw [Nat.add_assoc]
  exact h5 _ (by omega)
def lnS : Value → Nat
  | .slice _ n _ => n
  | _ => 0
theorem two_box (W0 : World) (o1 o2 : Obj) : ((W0.alloc o1).alloc o2).drew.heap[W0.heap.size]? = some o1 ∧ ((W0.alloc o1).alloc o2).drew.heap[W0.heap.size + 1]? = some o2 ∧ Below W0.heap.size W0 ((W0.alloc o1).alloc o2).drew :=
  ⟨by rw [heap_drew, heap_alloc, if_neg (by simp), heap_alloc, if_pos rfl], by rw [heap_drew, heap_alloc, if_pos (by simp)], (((Below.refl _ _).alloc (Nat.le_refl _) _).alloc (by simp) _).drew⟩
set_option maxRecDepth 100000 in
set_option maxHeartbeats 4000000 in
theorem cut_long (B s d n c b o : Nat) (Z : Nat → Int) (w : World) (hs : BS B w (some ⟨b, o, none⟩) n c Z) (hBw : B ≤ w.heap.size) (hu : isU Z n) (hn : n ≤ 1000) (hsd : s = d + 2) (hd : 1 ≤ d) (hsn : s < n) :
    Calls Try.prog 25 #[.slice (some ⟨b, o, none⟩) n c, .int .i64 s] w fun e w' => ∃ K, Man n d K ∧ CutPost (fun k => pcL Z n d (qk d k)) K w e w' := by
  have hle := hs.le
  have hmx := hs.max
  obtain ⟨W0, hW0⟩ : ∃ W0, w.alloc (.cells #[.int .i64 (s : Nat)] 3) = W0 := ⟨_, rfl⟩
  obtain ⟨gs, hgs⟩ : ∃ gs, gs = w.heap.size := ⟨_, rfl⟩
  have hgw : w.heap.size ≤ gs := by omega
  have hB0 : Below w.heap.size w W0 := by rw [← hW0]; exact (Below.refl _ _).alloc (Nat.le_refl _) _
  have g0 : W0.heap[gs]? = some (.cells #[.int .i64 (s : Nat)] 3 (0, 0)) := by rw [← hW0, hgs]; exact alloc_blk_new
  have hgl : gs < W0.heap.size := lt_of_block g0
  have hs0 := hs.keep (hB0.mono hBw)
  have HU := Lib.hid (isUnit_any B (some ⟨b, o, none⟩) n c Z W0 hs0 true ⟨fun _ => hu, fun _ => rfl⟩)
  have HS := Lib.hid hs0
  have HSw := Lib.hid hs
  have HB0 := Lib.hid hB0
  have cs : W0.cell? ⟨gs, 0, none⟩ = some (.int .i64 (s : Nat)) := cell_blk g0
  obtain ⟨b', o', he, hbB, hcc⟩ := hs0.at_ (by omega)
  cases he
  have c0 := hcc 0 (by omega)
  rw [Nat.add_zero] at c0
  have t1 : decide ((s : Int) < 3) = false := by simp; omega
  have t2 : decide ((n : Int) ≤ (s : Int)) = false := by simp; omega
  have t2' : decide (n ≤ s) = false := by simp; omega
  have hsd2 := Lib.hid hsd
  have hn0 : 0 < n := by omega
  clear hs hsd hcc hB0 hs0
  go_enter Try.func25, Try.ntmps25
  go_wp2_with fail
  rw [← hgs]
  clear hW0 hgs
  refine HU.out.mono ?_
  rintro e w' ⟨rfl, rfl⟩
  go_wp2_with fail
  go_cut [6, 7] (fun s6 s7 wx => ∃ gf gr, s6 = .pointer (some ⟨gf, 0, none⟩) ∧ s7 = .pointer (some ⟨gr, 0, none⟩) ∧ Hid (gs < gf ∧ gs < gr ∧ gf ≠ gr ∧ wx.heap[gf]? = some (.cells #[.int .u8 (Z 0)] 5 (0, 0)) ∧ (∃ a' c', wx.heap[gr]? = some (.cells #[.slice a' (n - 1) c'] 22 (0, 0)) ∧ c' = c - 1 ∧ (a' = some ⟨b, o + 1, none⟩)) ∧ Below W0.heap.size W0 wx))
  case first =>
    have hsd3 := hsd2.out
    have hcn : ¬ c = 1 := by omega
    clear hsd3
    have hb1 : b < W0.heap.size := by have := HB0.out.size; omega
    have hb2 : b ≠ W0.heap.size := by omega
    have hb3 : b ≠ W0.heap.size + 1 := by omega
    have hb4 : W0.heap.size ≠ b := by omega
    have hb5 : W0.heap.size + 1 ≠ b := by omega
    have hcn' : (1 : Int) ≤ (n : Int) := by omega
    have hcn'' : (1 : Int) ≤ (c : Int) := by omega
    go_region
    · go_wp2_with fail
      go_meet
      obtain ⟨h1, h2, h3⟩ := two_box W0 (.cells #[.int .u8 (Z 0)] 5) (.cells #[.slice (some ⟨b, o + 1, none⟩) (n - 1) (c - 1)] 22)
      exact ⟨_, _, rfl, rfl, Lib.hid ⟨by omega, by omega, by omega, h1, ⟨_, _, h2, rfl, rfl⟩, h3⟩⟩
    · go_wp2_with fail
      go_meet
      obtain ⟨h1, h2, h3⟩ := two_box W0 (.cells #[.slice (some ⟨b, o + 1, none⟩) (n - 1) (c - 1)] 22) (.cells #[.int .u8 (Z 0)] 5)
      exact ⟨_, _, rfl, rfl, Lib.hid ⟨by omega, by omega, by omega, h2, ⟨_, _, h1, rfl, rfl⟩, h3⟩⟩
  case rest =>
    obtain ⟨gf, gr, rfl, rfl, HG⟩ := hcut
    obtain ⟨G1, G2, G3, G4, ⟨ra, rc, G5, hrc, hra⟩, G6⟩ := HG.out
    have l4 := lt_of_block G4
    have l5 := lt_of_block G5
    go_wp2_with fail
    have hb1 : CutB (wc.alloc (.cells #[.bool false] 4)) gs gr gf wc.heap.size s ra (n - (1 + qk d 0)) rc (Z 0) false := ⟨by rw [alloc_blk_old (by have := G6.size; omega)]; exact Below.blk G6 g0 hgl, by rw [alloc_blk_old l5]; exact G5, by rw [alloc_blk_old l4]; exact G4, alloc_blk_new⟩
    have hB1 : Below w.heap.size w (wc.alloc (.cells #[.bool false] 4)) := (HB0.out.trans (G6.mono HB0.out.size)).alloc (by have := HB0.out.size; have := G6.size; omega) _
    have hsz : wc.heap.size < (wc.alloc (.cells #[.bool false] 4)).heap.size := by simp
    obtain ⟨gb, hgb⟩ : ∃ gb, gb = wc.heap.size := ⟨_, rfl⟩
    rw [← hgb] at hb1 hsz l4 l5 ⊢
    generalize World.alloc wc _ = W1 at hb1 hB1 hsz ⊢
    have HX1 := Lib.hid hb1
    have HB1 := Lib.hid hB1
    have hra2 : Hid (0 < n - (1 + qk d 0) → ra = some ⟨b, o + (1 + qk d 0), none⟩ ∧ rc = c - (1 + qk d 0)) := Lib.hid (fun _ => ⟨hra, hrc⟩)
    clear hb1 hB1 hgb G4 G5 G6 hra hrc HG cs c0
    go_loopw [10] (fun so wx => ∃ (k rn c' rc : Nat) (a' ra : Option Addr) (bg : Bool) (vs : Nat → Value), so = .slice a' k c' ∧ rn ≤ n ∧ Hid (rn = n - (1 + qk d k)) ∧ Hid (CutB wx gs gr gf gb s ra rn rc (Z 0) bg) ∧ Hid (0 < rn → ra = some ⟨b, o + (1 + qk d k), none⟩ ∧ rc = c - (1 + qk d k)) ∧ Hid (bg = true ↔ qk d k ≠ 0) ∧ Hid (∀ j, j < k → 1 + qk d j < n) ∧ Hid (Rows wx (gb + 1) a' k c' (fun k => pcL Z n d (qk d k)) vs) ∧ Hid (Below w.heap.size w wx ∧ gb < wx.heap.size)) (fun so _ => n - lnS so)
    case atStart => exact ⟨0, _, 0, rc, none, ra, false, _, rfl, by omega, Lib.hid rfl, HX1, hra2, Lib.hid (by simp [qk]), Lib.hid (fun j hj => by omega), Lib.hid (Rows.nil _ _ _), Lib.hid ⟨HB1.out, hsz⟩⟩
    case round =>
      clear HX1 HB1 hra2 hsz
      obtain ⟨k, rn, c', rc, a', ra, bg, vs, rfl, hrn, HRN, HX, HRA, HBG, HJ, HR, HB⟩ := hrel
      have cr : wr.cell? ⟨gr, 0, none⟩ = some (.slice ra rn rc) := cell_blk HX.out.r
      by_cases h0 : 0 < rn
      · obtain ⟨rfl, hrc⟩ := HRA.out h0
        obtain ⟨q, hq⟩ : ∃ q, q = qk d k := ⟨_, rfl⟩
        rw [← hq] at HRN HRA HBG hrc HX cr
        have hqn : 1 + q < n := by have := HRN.out; omega
        have hbs := (HSw.out.keep (HB.out.1.mono hBw)).drop (1 + q) (by omega) (by omega)
        rw [← hrc, ← HRN.out] at hbs
        have hbd := HSw.out.bd
        have hu0 := hbd 0 (by omega)
        obtain ⟨k', hk'⟩ : ∃ k', k' = min d rn := ⟨_, rfl⟩
        have hk1 : 1 ≤ k' := by omega
        have hkr : k' ≤ rn := by omega
        have hcut := cut1_any B gs gr gf gb s d b (o + (1 + q)) rn rc (fun x => Z (1 + q + x)) (Z 0) bg wr HX.out hbs (by have := HB.out.1.size; omega) (by omega) (by omega) hu0 hsd2.out (by have := hsd2.out; omega) (by omega) (by omega) (Ne.symm G3) (by omega) (by omega) (by omega) k' hk'
        have HCUT := Lib.hid hcut
        have HL : Hid ([Z 0 / 32 * 32 + 28, (if bg then 0 else 128) + (if k' = rn then 64 else 0) + Z 0 % 32] ++ zs (fun x => Z (1 + q + x)) k' = pcL Z n d (qk d k)) := Lib.hid (by
          unfold pcL fzI
          rw [← hq]
          have e1 : (if bg then (0 : Int) else 128) = (if q = 0 then 128 else 0) := by
            by_cases h : q = 0
            · have : bg = false := by
                cases hb : bg
                · rfl
                · exact absurd h (HBG.out.1 hb)
              rw [this, if_pos h]; rfl
            · rw [HBG.out.2 h, if_neg h]; rfl
          have e2 : (if k' = rn then (64 : Int) else 0) = (if n ≤ q + d + 1 then 64 else 0) := by
            have := HRN.out
            by_cases h : k' = rn
            · rw [if_pos h, if_pos (by omega)]
            · rw [if_neg h, if_neg (by omega)]
          rw [e1, e2, show min d (n - 1 - q) = k' by have := HRN.out; omega])
        have HLN : Hid (2 + k' = (pcL Z n d (qk d k)).length) := Lib.hid (by rw [← HL.out, List.length_append, zs_len]; rfl)
        have HOCT : Hid (Oct (pcL Z n d (qk d k))) := Lib.hid (by
          rw [← HL.out]
          refine Oct.app (fun x hx => ?_) (zs_oct (hbs.cut hkr (Nat.le_trans hkr hbs.le) (Nat.le_refl _)))
          simp only [List.mem_cons, List.not_mem_nil, or_false] at hx
          rcases hx with rfl | rfl
          · omega
          · have h1 : (if bg then (0 : Int) else 128) = 0 ∨ (if bg then (0 : Int) else 128) = 128 := by cases bg <;> simp
            have h2 : (if k' = rn then (64 : Int) else 0) = 0 ∨ (if k' = rn then (64 : Int) else 0) = 64 := by by_cases h : k' = rn <;> simp [h]
            omega)
        have HRN2 : Hid (rn - k' = n - (1 + qk d (k + 1))) := Lib.hid (by show _ = n - (1 + (qk d k + d)); rw [← hq]; have := HRN.out; omega)
        have HQ2 : Hid (0 < rn - k' → k' = d ∧ rc - k' = c - (1 + qk d (k + 1)) ∧ o + (1 + q) + k' = o + (1 + qk d (k + 1))) := Lib.hid (fun h => by
          have e : k' = d := by omega
          show _ ∧ _ = c - (1 + (qk d k + d)) ∧ _ = o + (1 + (qk d k + d))
          rw [← hq]; omega)
        have HBG2 : Hid (qk d (k + 1) ≠ 0) := Lib.hid (by show qk d k + d ≠ 0; omega)
        have HJ2 : Hid (∀ j, j < k + 1 → 1 + qk d j < n) := Lib.hid (fun j hj => by
          by_cases e : j = k
          · subst e; rw [← hq]; exact hqn
          · exact HJ.out j (by omega))
        have hkn : k < n := by have := qk_ge hd k; omega
        have hrn1 : rn - k' ≤ n := by omega
        have hu1 : decide ((0 : Int) < (rn : Int)) = true := by simp; omega
        clear hq hbs hbd hk' hcut hrc HRA hqn
        go_wp2_with fail
        refine HCUT.out.mono ?_
        rintro e w2 ⟨a2, c2, a3, rfl, O2, X2, R2, K2⟩
        have hB2 : Below w.heap.size w w2 := HB.out.1.trans (K2.toBelow (by omega) (by omega) HB.out.1.size)
        have hlo2 : gb + 1 ≤ w2.heap.size := by have := K2.size; have := HB.out.2; omega
        have hO2 : Own1 w2 (gb + 1) (.slice a2 (2 + k') c2) (pcL Z n d (qk d k)) := ⟨by rw [← HLN.out, ← HL.out]; exact O2.mono (by have := HB.out.2; omega), HOCT.out⟩
        obtain ⟨a4, c4, W4, r4, R4, b4⟩ := (HR.out.kp2 K2 (by omega) (by omega)).push hO2 (by omega) hlo2 rfl
        have HRUN := Lib.hid r4
        have HX4 : Hid (CutB W4 gs gr gf gb s a3 (rn - k') (rc - k') (Z 0) true) := Lib.hid ⟨Below.blk b4 X2.s' (by omega), Below.blk b4 X2.r (by omega), Below.blk b4 X2.f (by omega), Below.blk b4 X2.b (by omega)⟩
        have HB4 : Hid (Below w.heap.size w W4 ∧ gb < W4.heap.size) := Lib.hid ⟨hB2.trans (b4.mono (by omega)), by have := b4.size; omega⟩
        have HRA4 : Hid (0 < rn - k' → a3 = some ⟨b, o + (1 + qk d (k + 1)), none⟩ ∧ rc - k' = c - (1 + qk d (k + 1))) := Lib.hid (fun h => ⟨by rw [R2 h, (HQ2.out h).2.2], (HQ2.out h).2.1⟩)
        have HR4 := Lib.hid R4
        clear O2 X2 R2 K2 hB2 hO2 r4 R4 b4
        go_wp2_with (at_builtin; refine wpList_of_append rfl (.tmp 36) (.tmp 39) 46 rfl _ _ _ rfl rfl HRUN.out ?_)
        exact ⟨⟨k + 1, rn - k', c4, rc - k', a4, a3, true, _, rfl, hrn1, HRN2, HX4, HRA4, Lib.hid ⟨fun _ => HBG2.out, fun _ => rfl⟩, HJ2, HR4, HB4⟩, by show n - (k + 1) < n - k; omega⟩
      · have hM : Hid (Man n d k) := Lib.hid ⟨by have := HRN.out; omega, HJ.out⟩
        obtain rfl : rn = 0 := by omega
        have hR9 : Hid (Rows wr w.heap.size a' k c' (fun k => pcL Z n d (qk d k)) vs) := Lib.hid (HR.out.mono (by omega))
        clear h0 HRA HRN HX HR
        go_wp2_with fail
        go_returns
        exact ⟨k, hM.out, a', c', vs, rfl, hR9.out, HB.out.1⟩
set_option maxRecDepth 100000 in
set_option maxHeartbeats 2000000 in
theorem cut_short (B n c : Nat) (a : Option Addr) (s : Int) (Z : Nat → Int) (w : World) (hs : BS B w a n c Z) (hBw : B ≤ w.heap.size) (hu : isU Z n) (hn : n ≤ 1000) (hs3 : 3 ≤ s) (hsn : n ≤ s) (hsm : s ≤ 9223372036854775807) :
    Calls Try.prog 25 #[.slice a n c, .int .i64 s] w (CutPost (fun _ => zs Z n) 1 w) := by
  have hle := hs.le
  have hmx := hs.max
  obtain ⟨W0, hW0⟩ : ∃ W0, w.alloc (.cells #[.int .i64 s] 3) = W0 := ⟨_, rfl⟩
  obtain ⟨gs, hgs⟩ : ∃ gs, gs = w.heap.size := ⟨_, rfl⟩
  have hB0 : Below w.heap.size w W0 := by rw [← hW0]; exact (Below.refl _ _).alloc (Nat.le_refl _) _
  have g0 : W0.heap[gs]? = some (.cells #[.int .i64 s] 3 (0, 0)) := by rw [← hW0, hgs]; exact alloc_blk_new
  have hs0 := hs.keep (hB0.mono hBw)
  have HU := Lib.hid (isUnit_any B a n c Z W0 hs0 true ⟨fun _ => hu, fun _ => rfl⟩)
  have HC := Lib.hid (clone_any B a n c Z W0 hs0 (by have := hB0.size; omega) (by omega))
  have HB0 := Lib.hid hB0
  have HO : Hid (Oct (zs Z n)) := Lib.hid (zs_oct hs)
  have cs : W0.cell? ⟨gs, 0, none⟩ = some (.int .i64 s) := cell_blk g0
  have t1 : decide (s < 3) = false := by simp; omega
  have t2 : decide ((n : Int) ≤ s) = true := by simp; omega
  clear hs hB0 hs0
  go_enter Try.func25, Try.ntmps25
  go_wp2_with fail
  rw [← hgs]
  clear hW0 hgs
  go_wp2_with fail
  refine HU.out.mono ?_
  rintro e w' ⟨rfl, rfl⟩
  go_wp2_with fail
  refine HC.out.mono ?_
  rintro e w2 ⟨a2, c2, rfl, O, B2⟩
  have hB2 : Below w.heap.size w w2 := HB0.out.trans (B2.mono HB0.out.size)
  have hr := (World.ownsRow.mono O HB0.out.size)
  have HR : Hid (Rows (w2.alloc (.cells #[.slice a2 n c2] 22)) w.heap.size (some ⟨w2.heap.size, 0, none⟩) 1 1 (fun _ => zs Z n) (fun _ => .slice a2 n c2)) := Lib.hid ⟨⟨rfl, .inr ⟨w2.heap.size, 1, _, rfl, hB2.size, alloc_blk_new, Nat.le_refl _, by unfold maxLen; omega, rfl, rfl⟩⟩, fun i hi => ⟨by rw [zs_len, zs_u8s]; exact own_below hr ((Below.refl _ _).alloc (Nat.le_refl _) _), HO.out⟩⟩
  have HB : Hid (Below w.heap.size w (w2.alloc (.cells #[.slice a2 n c2] 22))) := Lib.hid (hB2.alloc hB2.size _)
  clear O B2 hr hB2
  go_wp2_with fail
  go_returns
  exact ⟨_, _, _, rfl, HR.out, HB.out⟩
set_option maxRecDepth 100000 in
set_option maxHeartbeats 2000000 in
theorem cut_bad (B n c : Nat) (a : Option Addr) (s : Int) (Z : Nat → Int) (w : World) (hs : BS B w a n c Z) (hBw : B ≤ w.heap.size) (hno : ¬ (isU Z n ∧ 3 ≤ s)) :
    Calls Try.prog 25 #[.slice a n c, .int .i64 s] w fun e w' => e = .returned (.tuple #[.slice none 0 0, .int .i64 1]) ∧ Below w.heap.size w w' := by
  have hle := hs.le
  have hmx := hs.max
  obtain ⟨W0, hW0⟩ : ∃ W0, w.alloc (.cells #[.int .i64 s] 3) = W0 := ⟨_, rfl⟩
  obtain ⟨gs, hgs⟩ : ∃ gs, gs = w.heap.size := ⟨_, rfl⟩
  have hB0 : Below w.heap.size w W0 := by rw [← hW0]; exact (Below.refl _ _).alloc (Nat.le_refl _) _
  have g0 : W0.heap[gs]? = some (.cells #[.int .i64 s] 3 (0, 0)) := by rw [← hW0, hgs]; exact alloc_blk_new
  have hs0 := hs.keep (hB0.mono hBw)
  have HB0 := Lib.hid hB0
  have cs : W0.cell? ⟨gs, 0, none⟩ = some (.int .i64 s) := cell_blk g0
  by_cases hu : isU Z n
  · have t1 : decide (s < 3) = true := by
      have : ¬ 3 ≤ s := fun h => hno ⟨hu, h⟩
      simp; omega
    have HU := Lib.hid (isUnit_any B a n c Z W0 hs0 true ⟨fun _ => hu, fun _ => rfl⟩)
    clear hs hB0 hs0 hno hu
    go_enter Try.func25, Try.ntmps25
    go_wp2_with fail
    rw [← hgs]
    clear hW0 hgs
    go_wp2_with fail
    refine HU.out.mono ?_
    rintro e w' ⟨rfl, rfl⟩
    go_wp2_with fail
    go_returns
    exact ⟨rfl, HB0.out⟩
  · have HU := Lib.hid (isUnit_any B a n c Z W0 hs0 false ⟨fun h => (by cases h), fun h => absurd h hu⟩)
    clear hs hB0 hs0 hno hu
    go_enter Try.func25, Try.ntmps25
    go_wp2_with fail
    rw [← hgs]
    clear hW0 hgs
    go_wp2_with fail
    refine HU.out.mono ?_
    rintro e w' ⟨rfl, rfl⟩
    go_wp2_with fail
    go_returns
    exact ⟨rfl, HB0.out⟩
end Go.Proofs.Ytkoplofcjbeicaa
