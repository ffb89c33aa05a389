/-
  Chapter 43: equal frames, one, two; a pair.
-/
import Derived.Test.YtkoplofcjbeicaaOpC
namespace Go.Proofs.Ytkoplofcjbeicaa
open Go.RowKit
set_option linter.unusedVariables false
set_option linter.unusedSimpArgs false
attribute [local irreducible] wpStill wpQuiet MixC.wpMix

/-- frames that were read, of n bytes -/
def GotF (B g n m : Nat) (P : Nat → List Int) (pad : Int) (w : World) (e : Ending) (w' : World) : Prop :=
  (∃ a c vs, e = .returned (.slice a m c) ∧ Rows w' w.heap.size a m c P vs) ∧ (∀ i, i < m → (P i).length ≤ 1275) ∧ sm (fun i => (P i).length) m ≤ n ∧ (∃ b' o' n' c' Z', RD B g w' (some ⟨b', o', none⟩) n' c' Z' pad) ∧ Keeps g w w'
def EqP (B g n q : Nat) (Z : Nat → Int) (pad : Int) (w : World) (e : Ending) (w' : World) : Prop :=
  (PanP g w e w' ∧ (n % q ≠ 0 → e = .panicked (pan 3)) ∧ ¬ (n % q = 0 ∧ n / q ≤ 1275)) ∨ (GotF B g n q (frP Z (fun _ => n / q)) pad w e w' ∧ n % q = 0)
theorem EqP.got {B g n q : Nat} {Z : Nat → Int} {pad : Int} {w : World} {e : Ending} {w' : World} (h : EqP B g n q Z pad w e w') : PanP g w e w' ∨ GotF B g n q (frP Z (fun _ => n / q)) pad w e w' := by
  rcases h with ⟨h, -⟩ | ⟨h, -⟩
  · exact .inl h
  · exact .inr h
theorem sm_const (c m : Nat) : sm (fun _ => c) m = m * c := by
  induction m with
  | zero => show 0 = 0 * c; omega
  | succ m ih => show sm (fun _ => c) m + c = _; rw [ih, Nat.succ_mul]
theorem frP_len (Z : Nat → Int) (s : Nat → Nat) (i : Nat) : (frP Z s i).length = s i := zs_len _ _
theorem sm_congr {s t : Nat → Nat} (h : ∀ i, s i = t i) (m : Nat) : sm s m = sm t m := by rw [show s = t from funext h]
theorem FrP.got2 {B g n m : Nat} {Z : Nat → Int} {s : Nat → Nat} {pad : Int} {w : World} {e : Ending} {w' : World} (h : FrP B g n m Z s pad w e w') : (PanP g w e w' ∧ ¬ (sm s m ≤ n ∧ ∀ i, i < m → s i ≤ 1275)) ∨ GotF B g n m (frP Z s) pad w e w' := by
  rcases h with h | ⟨h1, h2, h3, ⟨b', o', c', h4⟩, h5⟩
  · exact .inl h
  · exact .inr ⟨h3, fun i hi => by rw [frP_len]; exact h2 i hi, by rw [sm_congr (frP_len Z s) m]; exact h1, ⟨b', o', _, c', _, h4⟩, h5⟩
theorem FrP.got {B g n m : Nat} {Z : Nat → Int} {s : Nat → Nat} {pad : Int} {w : World} {e : Ending} {w' : World} (h : FrP B g n m Z s pad w e w') : PanP g w e w' ∨ GotF B g n m (frP Z s) pad w e w' := by
  rcases h.got2 with h | h
  · exact .inl h.1
  · exact .inr h
/-- from a later world, what was read -/
theorem GotF.ahead {B g n m : Nat} {P : Nat → List Int} {pad : Int} {u w : World} {e : Ending} {w' : World} (k : Keeps g u w) (h : GotF B g n m P pad w e w') : GotF B g n m P pad u e w' := by
  obtain ⟨⟨a, c, vs, h1, h2⟩, h3, h4, h5, h6⟩ := h
  exact ⟨⟨a, c, vs, h1, h2.mono k.size⟩, h3, h4, h5, k.trans h6⟩
set_option maxRecDepth 100000 in
set_option maxHeartbeats 4000000 in
theorem oequal (B g n c b o q : Nat) (Z : Nat → Int) (pad : Int) (w : World) (h : RD B g w (some ⟨b, o, none⟩) n c Z pad) (hn : n ≤ 10000) (hq1 : 1 ≤ q) (hq : q ≤ 48) :
    Calls Try.prog 90 #[.pointer (some ⟨g, 0, none⟩), .int .i64 (q : Nat)] w (EqP B g n q Z pad w) := by
  have c0 : w.cell? ⟨g, 0, none⟩ = some (.slice (some ⟨b, o, none⟩) n c) := cell_blk h.r
  have hgl := lt_of_block h.r
  obtain ⟨r, hr⟩ : ∃ r, r = n % q := ⟨_, rfl⟩
  obtain ⟨x, hx⟩ : ∃ x, x = n / q := ⟨_, rfl⟩
  have m1 : (n : Int).tmod (q : Int) = (r : Int) := by rw [hr]; rfl
  have m2 : (n : Int) % (q : Int) = (r : Int) := by rw [hr]; rfl
  have d1 : (n : Int).tdiv (q : Int) = (x : Int) := by rw [hx]; rfl
  have d2 : (n : Int) / (q : Int) = (x : Int) := by rw [hx]; rfl
  have hxn : x ≤ 10000 := by rw [hx]; exact Nat.le_trans (Nat.div_le_self _ _) hn
  have q0 : ¬ (q : Int) = 0 := by omega
  have q0' : ¬ q = 0 := by omega
  have HD := Lib.hid h
  have HX := Lib.hid hx
  have HRM := Lib.hid hr
  clear h hr hx
  by_cases h0 : r = 0
  · subst h0
    go_enter Try.func90, Try.ntmps90
    go_wp2_with fail
    refine (omust 3 w).mono ?_
    rintro e w1 ⟨rfl, rfl⟩
    go_wp2_with fail
    have bA : Below w.heap.size w (w.alloc (.cells #[.int .i64 (x : Nat)] 3)) := (Below.refl _ _).alloc (Nat.le_refl _) _
    refine (orepeat x q w.heap.size (by omega) hq1 (by omega) (w.alloc (.cells #[.int .i64 (x : Nat)] 3)) (cell_blk alloc_blk_new)).mono ?_
    rintro e w2 ⟨g', cur, rfl, hg', hcur, hxx, B2⟩
    have hb2 : Below w.heap.size w w2 := bA.trans (B2.mono bA.size)
    have hgg : g < g' := by have := bA.size; omega
    have hk2 : Keeps g w w2 := ⟨hb2.os, hb2.tape, hb2.output, hb2.size, fun k hk _ => hb2.block k hk⟩
    have hsz : Szs g w2 (some ⟨g', 0, none⟩) q q (fun _ => n / q) := ⟨Nat.le_refl _, by omega, fun _ => ⟨g', 0, rfl, lt_of_block hcur, by omega, fun i hi => by
      rw [Nat.zero_add, cell_blk hcur, ← HX.out]; exact hxx i hi⟩⟩
    have HF := Lib.hid (oframes B g n c b o q q _ Z (fun _ => n / q) pad w2 (HD.out.keep hb2) hsz hn (by omega) (fun i hi => by rw [← HX.out]; omega))
    have HK2 := Lib.hid hk2
    clear bA hg' hcur hxx B2 hb2 hk2 hsz
    go_wp2_with fail
    refine HF.out.mono ?_
    rintro e w3 hF
    rcases hF.got2 with ⟨⟨k, hk, rfl, hkp⟩, hno⟩ | hG
    · have HP : Hid (PanP g w (.panicked (pan k)) w3 ∧ (n % q ≠ 0 → Ending.panicked (pan k) = .panicked (pan 3)) ∧ ¬ (n % q = 0 ∧ n / q ≤ 1275)) := Lib.hid ⟨⟨k, hk, rfl, HK2.out.trans hkp⟩, fun h => absurd HRM.out.symm h, fun h => hno ⟨by rw [sm_const]; exact Nat.mul_div_le n q, fun _ _ => h.2⟩⟩
      clear hF hk hkp hno
      go_wp2_with fail
      exact ⟨rfl, .inl HP.out⟩
    · obtain ⟨⟨a9, c9, vs9, rfl, -⟩, -⟩ := id hG
      have HG := Lib.hid (hG.ahead HK2.out)
      clear hF hG
      go_wp2_with fail
      go_ret
      exact .inr ⟨HG.out, HRM.out.symm⟩
  · have t1 : ((r : Int) == 0) = false := by simp; omega
    go_enter Try.func90, Try.ntmps90
    go_wp2_with fail
    refine (must_no 3 w).mono ?_
    rintro e w1 ⟨rfl, rfl⟩
    go_wp2_with fail
    exact ⟨rfl, .inl ⟨⟨3, .inr rfl, rfl, Keeps.refl _ _⟩, fun _ => rfl, fun h => h0 (by rw [HRM.out]; exact h.1)⟩⟩
set_option maxHeartbeats 2000000 in
theorem oone (B g n c b o : Nat) (Z : Nat → Int) (pad : Int) (w : World) (h : RD B g w (some ⟨b, o, none⟩) n c Z pad) (hn : n ≤ 10000) :
    Calls Try.prog 75 #[.pointer (some ⟨g, 0, none⟩)] w (EqP B g n 1 Z pad w) := by
  have HE := Lib.hid (oequal B g n c b o 1 Z pad w h hn (by omega) (by omega))
  clear h
  go_enter Try.func75, Try.ntmps75
  go_wp2_with fail
  refine HE.out.mono ?_
  rintro e w3 (⟨⟨k, hk, rfl, hkp⟩, hno⟩ | ⟨hG, hm⟩)
  · have HP : Hid (PanP g w (.panicked (pan k)) w3 ∧ (n % 1 ≠ 0 → Ending.panicked (pan k) = .panicked (pan 3)) ∧ ¬ (n % 1 = 0 ∧ n / 1 ≤ 1275)) := Lib.hid ⟨⟨k, hk, rfl, hkp⟩, hno⟩
    clear hk hkp hno
    go_wp2_with fail
    exact ⟨rfl, .inl HP.out⟩
  · obtain ⟨⟨a9, c9, vs9, rfl, -⟩, -⟩ := id hG
    have HG := Lib.hid hG
    have HM := Lib.hid hm
    clear hG hm
    go_wp2_with fail
    go_ret
    exact .inr ⟨HG.out, HM.out⟩
set_option maxHeartbeats 2000000 in
theorem ohalves (B g n c b o : Nat) (Z : Nat → Int) (pad : Int) (w : World) (h : RD B g w (some ⟨b, o, none⟩) n c Z pad) (hn : n ≤ 10000) :
    Calls Try.prog 76 #[.pointer (some ⟨g, 0, none⟩)] w (EqP B g n 2 Z pad w) := by
  have HE := Lib.hid (oequal B g n c b o 2 Z pad w h hn (by omega) (by omega))
  clear h
  go_enter Try.func76, Try.ntmps76
  go_wp2_with fail
  refine HE.out.mono ?_
  rintro e w3 (⟨⟨k, hk, rfl, hkp⟩, hno⟩ | ⟨hG, hm⟩)
  · have HP : Hid (PanP g w (.panicked (pan k)) w3 ∧ (n % 2 ≠ 0 → Ending.panicked (pan k) = .panicked (pan 3)) ∧ ¬ (n % 2 = 0 ∧ n / 2 ≤ 1275)) := Lib.hid ⟨⟨k, hk, rfl, hkp⟩, hno⟩
    clear hk hkp hno
    go_wp2_with fail
    exact ⟨rfl, .inl HP.out⟩
  · obtain ⟨⟨a9, c9, vs9, rfl, -⟩, -⟩ := id hG
    have HG := Lib.hid hG
    have HM := Lib.hid hm
    clear hG hm
    go_wp2_with fail
    go_ret
    exact .inr ⟨HG.out, HM.out⟩
def PairP (B g n : Nat) (pad : Int) (w : World) (e : Ending) (w' : World) : Prop := PanP g w e w' ∨ ∃ m P, 1 ≤ m ∧ m ≤ 48 ∧ GotF B g n m P pad w e w'
theorem GotF.up {B g n n2 m : Nat} {P : Nat → List Int} {pad : Int} {w : World} {e : Ending} {w' : World} (h : GotF B g n m P pad w e w') (hn : n ≤ n2) : GotF B g n2 m P pad w e w' := by
  obtain ⟨h1, h2, h3, h4, h5⟩ := h
  exact ⟨h1, h2, Nat.le_trans h3 hn, h4, h5⟩
set_option maxRecDepth 100000 in
set_option maxHeartbeats 4000000 in
theorem opair (B g n c b o : Nat) (Z : Nat → Int) (pad : Int) (w : World) (h : RD B g w (some ⟨b, o, none⟩) n c Z pad) (hn : n ≤ 10000) :
    Calls Try.prog 77 #[.pointer (some ⟨g, 0, none⟩)] w (PairP B g n pad w) := by
  have HL := Lib.hid (olength B g n c _ Z pad w h)
  clear h
  go_enter Try.func77, Try.ntmps77
  go_wp2_with fail
  refine HL.out.mono ?_
  rintro e w1 (⟨k, hk, rfl, hkp⟩ | ⟨x, n', b1, o1, c1, Z1, hx, hn', rfl, h1, k1⟩)
  · have HP : Hid (PanP g w (.panicked (pan k)) w1) := Lib.hid ⟨k, hk, rfl, hkp⟩
    clear hk hkp
    go_wp2_with fail
    exact ⟨rfl, .inl HP.out⟩
  · have c0 : w1.cell? ⟨g, 0, none⟩ = some (.slice (some ⟨b1, o1, none⟩) n' c1) := cell_blk h1.r
    have hgl := lt_of_block h1.r
    have H1 := Lib.hid h1
    have HK := Lib.hid k1
    have hgw : g ≠ w1.heap.size := by omega
    clear h1 k1
    by_cases hq : x ≤ n'
    · have t1 : decide ((x : Int) ≤ (n' : Int)) = true := by simp; omega
      have t1' : decide (x ≤ n') = true := by simp; omega
      obtain ⟨y, hy⟩ : ∃ y, y = n' - x := ⟨_, rfl⟩
      have hyi : (n' : Int) - (x : Int) = (y : Int) := by omega
      have hyb : y ≤ 10000 := by omega
      have HY := Lib.hid hy
      clear hy
      go_wp2_with fail
      refine (omust 2 w1).mono ?_
      rintro e w2 ⟨rfl, rfl⟩
      go_wp2_with fail
      have bA : Below w1.heap.size w1 (w1.alloc (.cells #[.int .i64 (x : Nat), .int .i64 (y : Nat)] 3)) := (Below.refl _ _).alloc (Nat.le_refl _) _
      have hblk : (w1.alloc (.cells #[.int .i64 (x : Nat), .int .i64 (y : Nat)] 3)).heap[w1.heap.size]? = some (.cells #[.int .i64 (x : Nat), .int .i64 (y : Nat)] 3 (0, 0)) := alloc_blk_new
      have hsz : Szs g (w1.alloc (.cells #[.int .i64 (x : Nat), .int .i64 (y : Nat)] 3)) (some ⟨w1.heap.size, 0, none⟩) 2 2 (fun i => if i = 0 then x else y) := ⟨Nat.le_refl _, by omega, fun _ => ⟨w1.heap.size, 0, rfl, lt_of_block hblk, by omega, fun i hi => by
        rw [Nat.zero_add, cell_blk hblk]
        have : i = 0 ∨ i = 1 := by omega
        rcases this with rfl | rfl <;> rfl⟩⟩
      have hkA : Keeps g w (w1.alloc (.cells #[.int .i64 (x : Nat), .int .i64 (y : Nat)] 3)) := HK.out.of_below bA
      have HF := Lib.hid (oframes B g n' c1 b1 o1 2 2 _ Z1 (fun i => if i = 0 then x else y) pad _ (H1.out.keep bA) hsz (by omega) (by omega) (fun i hi => by show (if i = 0 then x else y) ≤ _; split <;> omega))
      have HKA := Lib.hid hkA
      clear bA hblk hsz hkA
      refine HF.out.mono ?_
      rintro e w3 hF
      rcases hF.got with ⟨k, hk, rfl, hkp⟩ | hG
      · have HP : Hid (PanP g w (.panicked (pan k)) w3) := Lib.hid ⟨k, hk, rfl, HKA.out.trans hkp⟩
        clear hF hk hkp
        go_wp2_with fail
        exact ⟨rfl, .inl HP.out⟩
      · obtain ⟨⟨a9, c9, vs9, rfl, -⟩, -⟩ := id hG
        have HG := Lib.hid ((hG.ahead HKA.out).up (show n' ≤ n by omega))
        clear hF hG
        go_wp2_with fail
        go_ret
        exact .inr ⟨2, _, by omega, by omega, HG.out⟩
    · have t1 : decide ((x : Int) ≤ (n' : Int)) = false := by simp; omega
      have t1' : decide (x ≤ n') = false := by simp; omega
      go_wp2_with fail
      refine (must_no 2 w1).mono ?_
      rintro e w2 ⟨rfl, rfl⟩
      go_wp2_with fail
      exact ⟨rfl, .inl ⟨2, .inl rfl, rfl, HK.out⟩⟩
end Go.Proofs.Ytkoplofcjbeicaa
