/-
  Chapter 43: frames.
-/
import Derived.Test.YtkoplofcjbeicaaOpA
namespace Go.Proofs.Ytkoplofcjbeicaa
open Go.RowKit
set_option linter.unusedVariables false
set_option linter.unusedSimpArgs false
attribute [local irreducible] wpStill wpQuiet MixC.wpMix

/-- the first k lengths together -/
def sm (s : Nat → Nat) : Nat → Nat
  | 0 => 0
  | k + 1 => sm s k + s k
theorem sm_le {s : Nat → Nat} {i k : Nat} (h : i ≤ k) : sm s i ≤ sm s k := by
  induction k with
  | zero => have : i = 0 := by omega
            subst this; exact Nat.le_refl _
  | succ k ih =>
    by_cases e : i = k + 1
    · subst e; exact Nat.le_refl _
    · have := ih (by omega); show sm s i ≤ sm s k + s k; omega
/-- lengths that lie somewhere, not where the reader is -/
structure Szs (g : Nat) (w : World) (a : Option Addr) (m c : Nat) (s : Nat → Nat) : Prop where
  le : m ≤ c
  max : c ≤ 9223372036854775807
  mem : 0 < m → ∃ b o, a = some ⟨b, o, none⟩ ∧ b < w.heap.size ∧ b ≠ g ∧ ∀ i, i < m → w.cell? ⟨b, o + i, none⟩ = some (.int .i64 (s i : Nat))
theorem Keeps.lo {g : Nat} {u w w' : World} (k : Keeps g u w) (b : Below u.heap.size w w') : Keeps g u w' :=
  ⟨b.os.trans k.os, b.tape.trans k.tape, b.output.trans k.output, Nat.le_trans k.size b.size, fun q hq hne => (b.block q hq).trans (k.block q hq hne)⟩
theorem Rows.set {w : World} {G g : Nat} {a : Option Addr} {k c : Nat} {P : Nat → List Int} {vs : Nat → Value} (h : Rows w G a k c P vs) (hg : g < G) (v : Value) : Rows (w.setCell ⟨g, 0, none⟩ v) G a k c P vs := by
  have key : ∀ {e : TypeId} {sz n : Nat} {x : Value} {xs : List Value}, w.ownsRow G e sz x n xs → (w.setCell ⟨g, 0, none⟩ v).ownsRow G e sz x n xs := fun ho => own_blk1y ho (fun q hq => set_blk_other _ (by have := ho.lt q hq; show q ≠ g; omega))
  exact ⟨key h.own, fun i hi => ⟨key (h.each i hi).own, (h.each i hi).oct⟩⟩
/-- frames of a packet -/
def frP (Z : Nat → Int) (s : Nat → Nat) (i : Nat) : List Int := zs (fun x => Z (sm s i + x)) (s i)
def FrP (B g n m : Nat) (Z : Nat → Int) (s : Nat → Nat) (pad : Int) (w : World) (e : Ending) (w' : World) : Prop :=
  (PanP g w e w' ∧ ¬ (sm s m ≤ n ∧ ∀ i, i < m → s i ≤ 1275)) ∨ (sm s m ≤ n ∧ (∀ i, i < m → s i ≤ 1275) ∧ (∃ a c vs, e = .returned (.slice a m c) ∧ Rows w' w.heap.size a m c (frP Z s) vs) ∧ (∃ b' o' c', RD B g w' (some ⟨b', o', none⟩) (n - sm s m) c' (fun x => Z (sm s m + x)) pad) ∧ Keeps g w w')
set_option maxRecDepth 100000 in
set_option maxHeartbeats 4000000 in
theorem oframes (B g n c b o m cs : Nat) (ad : Option Addr) (Z : Nat → Int) (s : Nat → Nat) (pad : Int) (w : World) (h : RD B g w (some ⟨b, o, none⟩) n c Z pad) (hs : Szs g w ad m cs s) (hn : n ≤ 10000) (hm : m ≤ 100) (hsb : ∀ i, i < m → s i ≤ 100000) :
    Calls Try.prog 92 #[.pointer (some ⟨g, 0, none⟩), .slice ad m cs] w (FrP B g n m Z s pad w) := by
  have HS := Lib.hid hs
  have HSB := Lib.hid hsb
  have hle := hs.le
  have hmx := hs.max
  have hgl := lt_of_block h.r
  have HR0 : Hid (∃ b' o' c', RD B g w (some ⟨b', o', none⟩) (n - sm s 0) c' (fun x => Z (sm s 0 + x)) pad) := Lib.hid ⟨b, o, c, by
    have : (fun x => Z (sm s 0 + x)) = Z := funext fun x => by show Z (0 + x) = Z x; rw [Nat.zero_add]
    rw [this]; exact h⟩
  clear h hs hsb
  go_enter Try.func92, Try.ntmps92
  go_wp2_with fail
  go_loopw [5, 10] (fun so si wx => ∃ (i c' : Nat) (a' : Option Addr) (vs : Nat → Value), i ≤ m ∧ si = .int .i64 i ∧ so = .slice a' i c' ∧ Hid (sm s i ≤ n ∧ ∀ j, j < i → s j ≤ 1275) ∧ Hid (∃ b' o' c', RD B g wx (some ⟨b', o', none⟩) (n - sm s i) c' (fun x => Z (sm s i + x)) pad) ∧ Hid (Rows wx w.heap.size a' i c' (frP Z s) vs) ∧ Hid (Keeps g w wx)) (fun _ si _ => m - (intOf si).toNat)
  case atStart => exact ⟨0, 0, none, _, by omega, rfl, rfl, Lib.hid ⟨Nat.zero_le _, fun j hj => by omega⟩, HR0, Lib.hid (Rows.nil _ _ _), Lib.hid (Keeps.refl _ _)⟩
  case round =>
    clear HR0
    obtain ⟨i, c', a', vs, hi, rfl, rfl, HQ, HR, HO, HK⟩ := hrel
    by_cases hlt : i < m
    · obtain ⟨bs, os, rfl, hbs, hbg, hcs⟩ := HS.out.mem (by omega)
      have cs1 := HK.out.cell (hcs i hlt) hbg
      obtain ⟨b1, o1, c1, h1⟩ := HR.out
      obtain ⟨n1, hn1⟩ : ∃ n1, n1 = n - sm s i := ⟨_, rfl⟩
      obtain ⟨k, hk⟩ : ∃ k, k = s i := ⟨_, rfl⟩
      rw [← hn1] at h1
      rw [← hk] at cs1
      have c0 : wr.cell? ⟨g, 0, none⟩ = some (.slice (some ⟨b1, o1, none⟩) n1 c1) := cell_blk h1.r
      have hkb : k ≤ 100000 := by rw [hk]; exact HSB.out i hlt
      have hn1b : n1 ≤ 10000 := by omega
      have hc1 := h1.bs.le
      have hc1m := h1.bs.max
      have H1 := Lib.hid h1
      have HN1 := Lib.hid hn1
      have HKK := Lib.hid hk
      clear hcs h1 hn1 hk
      by_cases hq : k ≤ n1
      · have t1 : decide ((k : Int) ≤ (n1 : Int)) = true := by simp; omega
        have t1' : decide (k ≤ n1) = true := by simp; omega
        by_cases hq2 : k ≤ 1275
        · have t2 : decide ((k : Int) ≤ 1275) = true := by simp; omega
          have t2' : decide (k ≤ 1275) = true := by simp; omega
          have hgB := H1.out.lo
          have hgr := lt_of_block H1.out.r
          have HC := Lib.hid (clone_any B (some ⟨b1, o1, none⟩) k c1 _ wr (H1.out.bs.cut hq (Nat.le_trans hq hc1) (Nat.le_refl _)) (by omega) (by omega))
          have k1 : k ≤ n1 := hq
          have k2 : k ≤ c1 := by omega
          go_wp2_with fail
          refine (omust 2 wr).mono ?_
          rintro e w1 ⟨rfl, rfl⟩
          go_wp2_with fail
          refine (omust 3 wr).mono ?_
          rintro e w1 ⟨rfl, rfl⟩
          go_wp2_with fail
          refine HC.out.mono ?_
          rintro e w2 ⟨a2, c2, rfl, o2, b2⟩
          have r2 := H1.out.keep b2
          have hwz : w.heap.size ≤ wr.heap.size := HK.out.size
          have hown : Own1 w2 w.heap.size (.slice a2 k c2) (frP Z s i) := ⟨by unfold frP; rw [← HKK.out, zs_len, zs_u8s]; exact o2.mono hwz, by unfold frP; rw [← HKK.out]; exact zs_oct (H1.out.bs.cut hq (Nat.le_trans hq hc1) (Nat.le_refl _))⟩
          obtain ⟨a4, c4, W4, r4, R4, b4⟩ := (HO.out.below b2).push hown (by omega) (by have := b2.size; omega) rfl
          have r4d : RD B g W4 (some ⟨b1, o1, none⟩) n1 c1 (fun x => Z (sm s i + x)) pad := ⟨Below.blk b4 r2.r hgl, r2.bs.keep (b4.mono (by have := r2.lo; omega)), r2.lo⟩
          have hkW : Keeps g w W4 := (HK.out.lo (b2.mono hwz)).lo b4
          have HRUN := Lib.hid r4
          have c04 : W4.cell? ⟨g, 0, none⟩ = some (.slice (some ⟨b1, o1, none⟩) n1 c1) := cell_blk r4d.r
          have f04 : W4.frozen? ⟨g, 0, none⟩ = false := free_blk r4d.r
          have HQ2 : Hid (sm s (i + 1) ≤ n ∧ ∀ j, j < i + 1 → s j ≤ 1275) := Lib.hid ⟨by show sm s i + s i ≤ n; rw [← HKK.out]; have := HQ.out.1; have := HN1.out; omega, fun j hj => by
            by_cases e : j = i
            · subst e; rw [← HKK.out]; exact hq2
            · exact HQ.out.2 j (by omega)⟩
          have hfin : ∀ a', a' = (if c1 = k then some ⟨b1, o1, none⟩ else some ⟨b1, o1 + k, none⟩ : Option Addr) → (∃ b' o' c', RD B g (W4.setCell ⟨g, 0, none⟩ (.slice a' (n1 - k) (c1 - k))) (some ⟨b', o', none⟩) (n - sm s (i + 1)) c' (fun x => Z (sm s (i + 1) + x)) pad) ∧ Rows (W4.setCell ⟨g, 0, none⟩ (.slice a' (n1 - k) (c1 - k))) w.heap.size a4 (i + 1) c4 (frP Z s) (setV vs i (.slice a2 k c2)) ∧ Keeps g w (W4.setCell ⟨g, 0, none⟩ (.slice a' (n1 - k) (c1 - k))) := fun a' ha => by
            rcases Nat.eq_zero_or_pos c1 with h0 | h0
            · have hk0 : k = 0 := by omega
              rw [if_pos (by omega)] at ha
              have hc0 : c1 - k = c1 := by omega
              have hn0 : n1 - k = n1 := by omega
              have e1 : sm s (i + 1) = sm s i := by show sm s i + s i = _; rw [← HKK.out, hk0]; rfl
              have hk9 : Keeps g W4 (W4.setCell ⟨g, 0, none⟩ (.slice a' (n1 - k) (c1 - k))) := (Keeps.refl g W4).setCell (a := ⟨g, 0, none⟩) (.inl rfl) _
              refine ⟨⟨b1, o1, c1, ?_⟩, R4.set hgl _, hkW.trans hk9⟩
              rw [e1, ← HN1.out, hc0, hn0, ha]
              refine ⟨r4d.r.set _ _ _, r4d.bs.keep (((Keeps.refl g W4).setCell (a := ⟨g, 0, none⟩) (.inl rfl) _).below ?_ r4d.lo), r4d.lo⟩
              have := lt_of_block r4d.r; have := r4d.lo; omega
            · obtain ⟨q1, q2⟩ := r4d.cut (k := k) hq h0 a' ha
              have e1 : sm s (i + 1) = sm s i + k := by show sm s i + s i = _; rw [← HKK.out]
              have e2 : n1 - k = n - sm s (i + 1) := by rw [e1, HN1.out]; omega
              have e3 : (fun x => Z (sm s i + (k + x))) = (fun x => Z (sm s (i + 1) + x)) := funext fun x => by rw [e1, Nat.add_assoc]
              obtain ⟨b9, o9, h9⟩ : ∃ b' o', a' = some ⟨b', o', none⟩ := by rw [ha]; split <;> exact ⟨_, _, rfl⟩
              refine ⟨⟨b9, o9, c1 - k, ?_⟩, R4.set hgl _, hkW.trans q2⟩
              rw [← e3, ← e2, ← h9]
              exact q1
          have HF := Lib.hid hfin
          clear r2 hown r4 R4 b4 r4d hkW hfin o2 b2
          go_wp2_with (at_builtin; refine wpList_of_append rfl (.tmp 25) (.tmp 33) 46 rfl _ _ _ rfl rfl HRUN.out ?_)
          obtain ⟨q1, q2, q3⟩ := HF.out _ rfl
          exact ⟨⟨i + 1, c4, a4, _, by omega, by go_num, rfl, HQ2, Lib.hid q1, Lib.hid q2, Lib.hid q3⟩, by simp [intOf]; omega⟩
        · have t2 : decide ((k : Int) ≤ 1275) = false := by simp; omega
          have t2' : decide (k ≤ 1275) = false := by simp; omega
          go_wp2_with fail
          refine (omust 2 wr).mono ?_
          rintro e w1 ⟨rfl, rfl⟩
          go_wp2_with fail
          refine (must_no 3 wr).mono ?_
          rintro e w1 ⟨rfl, rfl⟩
          go_wp2_with fail
          exact ⟨rfl, .inl ⟨⟨3, .inr rfl, rfl, HK.out⟩, fun h => hq2 (by rw [HKK.out]; exact h.2 i hlt)⟩⟩
      · have t1 : decide ((k : Int) ≤ (n1 : Int)) = false := by simp; omega
        have t1' : decide (k ≤ n1) = false := by simp; omega
        go_wp2_with fail
        refine (must_no 2 wr).mono ?_
        rintro e w1 ⟨rfl, rfl⟩
        go_wp2_with fail
        exact ⟨rfl, .inl ⟨⟨2, .inl rfl, rfl, HK.out⟩, fun h => hq (by
          have h1 : sm s (i + 1) ≤ sm s m := sm_le (by omega)
          have h2 : sm s i + s i ≤ sm s m := h1
          have h3 := h.1
          have h4 := HN1.out
          have h5 := HKK.out
          omega)⟩⟩
    · obtain rfl : m = i := by omega
      go_wp2_with fail
      go_ret
      exact .inr ⟨HQ.out.1, HQ.out.2, ⟨a', c', vs, rfl, HO.out⟩, HR.out, HK.out⟩
end Go.Proofs.Ytkoplofcjbeicaa
