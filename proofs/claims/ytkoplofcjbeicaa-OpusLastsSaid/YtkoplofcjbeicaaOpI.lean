/-
  Chapter 43: Read.
-/
import Derived.Test.YtkoplofcjbeicaaOpE
import Derived.Test.YtkoplofcjbeicaaOpF
import Derived.Test.YtkoplofcjbeicaaOpH
namespace Go.Proofs.Ytkoplofcjbeicaa
open Go.RowKit
set_option linter.unusedVariables false
set_option linter.unusedSimpArgs false
attribute [local irreducible] wpStill wpQuiet MixC.wpMix

theorem tab_part (F : Nat → Int) (o : Nat) (ho : o + 3 ≤ 96) : (tabF F 96).toArray.extract o (o + 3) = #[.int .i64 (F o), .int .i64 (F (o + 1)), .int .i64 (F (o + 2))] := by
  apply Array.ext_getElem?
  intro i
  rw [Array.getElem?_extract]
  by_cases h : i < 3
  · rw [if_pos (by simp [tabF_len]; omega), List.getElem?_toArray, tabF_get _ (by omega)]
    rcases (show i = 0 ∨ i = 1 ∨ i = 2 by omega) with rfl | rfl | rfl <;> rfl
  · rw [if_neg (by simp [tabF_len]; omega), Array.getElem?_eq_none (by simp; omega)]
theorem ix95 (F : Nat → Int) (q : Nat) (hq : q < 32) (W : World) : (Instr.index 95 (.agg (tabF F 96).toArray) (.int .i64 (q : Nat))).run Try.prog W = .ok (.agg #[.int .i64 (F (q * 3)), .int .i64 (F (q * 3 + 1)), .int .i64 (F (q * 3 + 2))]) W := by
  have hu : Try.prog.underlying 95 = some (.array 32 94) := by kernel_rfl
  have ha : (isAgg 94).run Try.prog W = .ok true W := by kernel_rfl
  have hs : ∀ W, (sizeOf 94).run Try.prog W = .ok 3 W := fun W => by kernel_rfl
  have h0 : (0 : Int) ≤ (q : Int) ∧ (q : Int) < ((32 : Nat) : Int) := by omega
  unfold Instr.index
  simp only [Sem.run_bind, asIntOf, Sem.run_pure, Result.andThen_ok, run_underlying hu, if_pos h0, hs, part, ha, if_true, Int.toNat_natCast]
  rw [tab_part F (q * 3) (by omega)]
/-- the named results' boxes, at zero -/
structure BoxZ (g : Nat) (w W : World) : Prop where
  o : W.heap[g]? = some (.cells #[.int .i64 0, .int .i64 0, .bool false, .int .i64 0, .slice none 0 0, .int .i64 0] 48 (0, 0))
  e : W.heap[g + 1]? = some (.cells #[.int .i64 0] 29 (0, 0))
  b : Below g w W
theorem BoxZ.below {g B : Nat} {w W W' : World} (h : BoxZ g w W) (b : Below B W W') (hB : g + 2 ≤ B) : BoxZ g w W' :=
  ⟨(b.block _ (by omega)).trans h.o, (b.block _ (by omega)).trans h.e, h.b.trans (b.mono (by omega))⟩
theorem Rows.but2 {w X : World} {G : Nat} {a : Option Addr} {k c : Nat} {P : Nat → List Int} {vs : Nat → Value} (h : Rows w G a k c P vs) (hX : ∀ r, G ≤ r → X.heap[r]? = w.heap[r]?) : Rows X G a k c P vs := by
  have key : ∀ {e : TypeId} {sz n : Nat} {x : Value} {xs : List Value}, w.ownsRow G e sz x n xs → X.ownsRow G e sz x n xs := fun ho => own_blk1y ho (fun q hq => hX q (ho.lt q hq).1)
  exact ⟨key h.own, fun i hi => ⟨key (h.each i hi).own, (h.each i hi).oct⟩⟩
theorem BoxZ.keeps {g : Nat} {w W W' : World} (h : BoxZ g w W) (k : Keeps (g + 1 + 1) W W') : BoxZ g w W' :=
  ⟨(k.block _ (lt_of_block h.o) (by omega)).trans h.o, (k.block _ (lt_of_block h.e) (by omega)).trans h.e, h.b.trans (k.below (by have := lt_of_block h.e; omega) (by omega))⟩
theorem boxz_new (w : World) (o : Obj) : BoxZ w.heap.size w (((w.alloc (.cells #[.int .i64 0, .int .i64 0, .bool false, .int .i64 0, .slice none 0 0, .int .i64 0] 48)).alloc (.cells #[.int .i64 0] 29)).alloc o) := by
  refine ⟨?_, ?_, (((Below.refl _ _).alloc (Nat.le_refl _) _).alloc (by simp) _).alloc (by simp; omega) _⟩
  · rw [alloc_blk_old (by simp; omega), alloc_blk_old (by simp)]; exact alloc_blk_new
  · rw [alloc_blk_old (by simp)]
    have h := alloc_blk_new (w := w.alloc (.cells #[.int .i64 0, .int .i64 0, .bool false, .int .i64 0, .slice none 0 0, .int .i64 0] 48)) (o := .cells #[.int .i64 0] 29)
    rw [show (w.alloc (.cells #[.int .i64 0, .int .i64 0, .bool false, .int .i64 0, .slice none 0 0, .int .i64 0] 48)).heap.size = w.heap.size + 1 by simp] at h
    exact h
theorem res_read {W : World} {g : Nat} {v0 v1 v2 v3 v4 v5 : Value} {x : Int} {tmps : Array Value} (o : W.heap[g]? = some (.cells #[v0, v1, v2, v3, v4, v5] 48 (0, 0))) (e : W.heap[g + 1]? = some (.cells #[.int .i64 x] 29 (0, 0)))
    (h2 : tmps.getD 2 undef = .pointer (some ⟨g, 0, none⟩)) (h3 : tmps.getD 3 undef = .pointer (some ⟨g + 1, 0, none⟩)) :
    (results Try.f23 tmps).run Try.prog W = .ok (.tuple #[.agg #[v0, v1, v2, v3, v4, v5], .int .i64 x]) W := by
  have l1 : (loadVar 48 ⟨g, 0, none⟩).run Try.prog W = .ok (.agg #[v0, v1, v2, v3, v4, v5]) W := by
    obtain ⟨d, hd⟩ : ∃ d, Try.prog.underlying 48 = some d := Option.isSome_iff_exists.1 (by kernel_rfl)
    have hr : (Try.prog.underlying 48).any TypeDesc.isRow = true := by kernel_rfl
    rw [hd] at hr
    refine run_loadVar_row W g _ _ _ (0, 0) d o hd ?_ (by kernel_rfl)
    cases d <;> first | rfl | (exact absurd hr (by simp [TypeDesc.isRow]))
  have l2 : (loadVar 29 ⟨g + 1, 0, none⟩).run Try.prog W = .ok (.int .i64 x) W := by
    have hc : W.cell? ⟨g + 1, 0, none⟩ = some (.int .i64 x) := cell_blk e
    have ha : (isAgg 29).run Try.prog W = .ok false W := by kernel_rfl
    simp [loadVar, Sem.run_bind, ha, hc]
  have h2' : tmps[2]?.getD undef = .pointer (some ⟨g, 0, none⟩) := by simpa using h2
  have h3' : tmps[3]?.getD undef = .pointer (some ⟨g + 1, 0, none⟩) := by simpa using h3
  simp [results, Try.results23, h2', h3', asAddr, l1, l2]
theorem door_panic {w W : World} {g : Nat} {k : Int} {A : Act} {R : Ending → World → Prop} (hB : BoxZ g w W) (h2 : A.tmps.getD 2 undef = .pointer (some ⟨g, 0, none⟩)) (h3 : A.tmps.getD 3 undef = .pointer (some ⟨g + 1, 0, none⟩))
    (hd : A.defers = [{ target := Target.fn (Fn.func 49) #[.pointer (some ⟨g, 0, none⟩), .pointer (some ⟨g + 1, 0, none⟩)], args := #[] }])
    (hR : ∀ W', Below g w W' → R (.returned (.tuple #[.agg #[.int .i64 0, .int .i64 0, .bool false, .int .i64 0, .slice none 0 0, .int .i64 0], .int .i64 k])) W') :
    bodyPostD Try.prog Try.f23 R (Exit.panic (pan k)) A W := by
  show Leaves Try.prog Try.f23 A.tmps R A.defers (.panicking (pan k)) W
  rw [hd]
  refine leaves_cons (f := 49) (args := #[.pointer (some ⟨g, 0, none⟩), .pointer (some ⟨g + 1, 0, none⟩)]) (by simp) (by simp [go_sem]) ?_
  refine (catch_panic g (g + 1) k _ _ _ _ _ _ _ W hB.o hB.e (by omega)).mono ?_
  rintro e u' w'' ⟨rfl, rfl, ho, he, hb⟩
  simp only [Leaves, settle]
  exact ⟨_, res_read ho he h2 h3, hR _ (hB.b.trans (hb g (Nat.le_refl _) (by omega) (by have := lt_of_block hB.o; omega)))⟩
theorem door_ret {W : World} {g : Nat} {v0 v1 v2 v3 v4 v5 : Value} {x : Int} {A : Act} {R : Ending → World → Prop} (o : W.heap[g]? = some (.cells #[v0, v1, v2, v3, v4, v5] 48 (0, 0))) (e : W.heap[g + 1]? = some (.cells #[.int .i64 x] 29 (0, 0))) (h2 : A.tmps.getD 2 undef = .pointer (some ⟨g, 0, none⟩)) (h3 : A.tmps.getD 3 undef = .pointer (some ⟨g + 1, 0, none⟩))
    (hd : A.defers = [{ target := Target.fn (Fn.func 49) #[.pointer (some ⟨g, 0, none⟩), .pointer (some ⟨g + 1, 0, none⟩)], args := #[] }])
    (hR : R (.returned (.tuple #[.agg #[v0, v1, v2, v3, v4, v5], .int .i64 x])) W) :
    bodyPostD Try.prog Try.f23 R Exit.ret A W := by
  show Leaves Try.prog Try.f23 A.tmps R A.defers .returning W
  rw [hd]
  refine leaves_cons (f := 49) (args := #[.pointer (some ⟨g, 0, none⟩), .pointer (some ⟨g + 1, 0, none⟩)]) (by simp) (by simp [go_sem]) ?_
  refine (catch_idle ⟨g, 0, none⟩ ⟨g + 1, 0, none⟩ W).mono ?_
  rintro e' u' w'' ⟨rfl, rfl, rfl⟩
  simp only [Leaves, settle]
  exact ⟨_, res_read o e h2 h3, hR⟩
theorem lay6v {w X : World} {p q : Nat} {k : Int} {v0 v1 v2 v3 v4 v5 x y0 y1 y2 y3 y4 y5 : Value} (hp : w.heap[p]? = some (.cells #[v0, v1, v2, v3, v4, v5] 48 (0, 0))) (hq : w.heap[q]? = some (.cells #[x] 29 (0, 0))) (hpq : p ≠ q)
    (hX : (((((((w.setCell ⟨p, 0, none⟩ y0).setCell ⟨p, 1, none⟩ y1).setCell ⟨p, 2, none⟩ y2).setCell ⟨p, 3, none⟩ y3).setCell ⟨p, 4, none⟩ y4).setCell ⟨p, 5, none⟩ y5).setCell ⟨q, 0, none⟩ (.int .i64 k)).drew = X) :
    X.heap[p]? = some (.cells #[y0, y1, y2, y3, y4, y5] 48 (0, 0)) ∧ X.heap[q]? = some (.cells #[.int .i64 k] 29 (0, 0)) ∧ (∀ r, r ≠ p → r ≠ q → X.heap[r]? = w.heap[r]?) ∧ (∀ B, B ≤ p → B ≤ q → B ≤ w.heap.size → Below B w X) := by
  have hqp : q ≠ p := fun e => hpq e.symm
  have s0 := set_blk (i := 0) y0 hp
  have s1 := set_blk (i := 1) y1 s0
  have s2 := set_blk (i := 2) y2 s1
  have s3 := set_blk (i := 3) y3 s2
  have s4 := set_blk (i := 4) y4 s3
  have s5 := set_blk (i := 5) y5 s4
  have s6 : ((((((w.setCell ⟨p, 0, none⟩ y0).setCell ⟨p, 1, none⟩ y1).setCell ⟨p, 2, none⟩ y2).setCell ⟨p, 3, none⟩ y3).setCell ⟨p, 4, none⟩ y4).setCell ⟨p, 5, none⟩ y5).heap[q]? = some (.cells #[x] 29 (0, 0)) := by
    rw [set_blk_other _ hqp, set_blk_other _ hqp, set_blk_other _ hqp, set_blk_other _ hqp, set_blk_other _ hqp, set_blk_other _ hqp]; exact hq
  have s7 := set_blk (i := 0) (.int .i64 k) s6
  have k7 := ((((((((Kp2.rf p q w).set (.inl rfl) 0 y0).set (.inl rfl) 1 y1).set (.inl rfl) 2 y2).set (.inl rfl) 3 y3).set (.inl rfl) 4 y4).set (.inl rfl) 5 y5).set (.inr rfl) 0 (.int .i64 k)).below (Below.refl _ _).drew
  rw [← hX]
  refine ⟨?_, ?_, fun r h1 h2 => ?_, fun B h1 h2 h3 => k7.toBelow h1 h2 h3⟩
  · rw [heap_drew, set_blk_other _ hpq]; exact s5
  · rw [heap_drew]; exact s7
  · rw [heap_drew, set_blk_other _ h2, set_blk_other _ h1, set_blk_other _ h1, set_blk_other _ h1, set_blk_other _ h1, set_blk_other _ h1, set_blk_other _ h1]
theorem hb256b : ∀ h ∈ List.range 256, bits .and .i64 ((h : Nat) : Int) 3 = (h : Int) % 4 ∧ (bits .and .i64 ((h : Nat) : Int) 4 = 0 ∨ bits .and .i64 ((h : Nat) : Int) 4 = 4) ∧ (h = 8 → bits .and .i64 ((h : Nat) : Int) 4 = 0) := by decide +kernel
def MetP (B g n m : Nat) (Z : Nat → Int) (w : World) (e : Ending) (w' : World) : Prop :=
  (PanP g w e w' ∧ (m = 1 → n % 2 ≠ 0 → e = .panicked (pan 3)) ∧ ¬ (m = 0 ∧ n ≤ 1275)) ∨
  (∃ q P p, 1 ≤ q ∧ q ≤ 48 ∧ p ≤ n ∧ GotF B g (n - p) q P (p : Nat) w e w' ∧ (m = 0 → q = 1 ∧ P = frP Z (fun _ => n) ∧ p = 0) ∧ (m = 1 → n % 2 = 0))
def meths : Value := .agg #[.func (.func 75) #[] #[], .func (.func 76) #[] #[], .func (.func 77) #[] #[], .func (.func 78) #[] #[]]
theorem omethod (m : Nat) (hm : m < 4) : ∃ f, (∀ W, (Instr.index 99 meths (.int .i64 (m : Nat))).run Try.prog W = .ok (.func (.func f) #[] #[]) W) ∧
    (∀ (v : Value) W, (callFunc f #[v]).run Try.prog W = .ok (.enter f #[v]) W) ∧
    ∀ (B g n c b o : Nat) (Z : Nat → Int) (w : World), RD B g w (some ⟨b, o, none⟩) n c Z 0 → n ≤ 10000 → Calls Try.prog f #[.pointer (some ⟨g, 0, none⟩)] w (MetP B g n m Z w) := by
  rcases (show m = 0 ∨ m = 1 ∨ m = 2 ∨ m = 3 by omega) with rfl | rfl | rfl | rfl
  · refine ⟨75, fun W => by kernel_rfl, fun v W => by kernel_rfl, fun B g n c b o Z w h hn => (oone B g n c b o Z 0 w h hn).mono ?_⟩
    rintro e w' (⟨h1, h2, h3⟩ | ⟨h1, h2⟩)
    · exact .inl ⟨h1, fun h => absurd h (by decide), fun h => h3 ⟨Nat.mod_one n, by rw [Nat.div_one]; exact h.2⟩⟩
    · refine .inr ⟨1, _, 0, by omega, by omega, by omega, h1, fun _ => ⟨rfl, ?_, rfl⟩, fun h => absurd h (by decide)⟩
      rw [Nat.div_one]
  · refine ⟨76, fun W => by kernel_rfl, fun v W => by kernel_rfl, fun B g n c b o Z w h hn => (ohalves B g n c b o Z 0 w h hn).mono ?_⟩
    rintro e w' (⟨h1, h2, h3⟩ | ⟨h1, h2⟩)
    · exact .inl ⟨h1, fun _ => h2, fun h => absurd h.1 (by decide)⟩
    · exact .inr ⟨2, _, 0, by omega, by omega, by omega, h1, fun h => absurd h (by decide), fun _ => h2⟩
  · refine ⟨77, fun W => by kernel_rfl, fun v W => by kernel_rfl, fun B g n c b o Z w h hn => (opair B g n c b o Z 0 w h hn).mono ?_⟩
    rintro e w' (h1 | ⟨q, P, h2, h3, h4⟩)
    · exact .inl ⟨h1, fun h => absurd h (by decide), fun h => absurd h.1 (by decide)⟩
    · exact .inr ⟨q, P, 0, h2, h3, by omega, h4, fun h => absurd h (by decide), fun h => absurd h (by decide)⟩
  · refine ⟨78, fun W => by kernel_rfl, fun v W => by kernel_rfl, fun B g n c b o Z w h hn => (oseveral B g n c b o Z w h hn).mono ?_⟩
    rintro e w' (h1 | ⟨q, P, p, h2, h3, h4, h5⟩)
    · exact .inl ⟨h1, fun h => absurd h (by decide), fun h => absurd h.1 (by decide)⟩
    · exact .inr ⟨q, P, p, h2, h3, h4, h5, fun h => absurd h (by decide), fun h => absurd h (by decide)⟩
/-- what Read hands back: given up, or read -/
def RdP (n : Nat) (Z : Nat → Int) (w : World) (e : Ending) (w' : World) : Prop :=
  Below w.heap.size w w' ∧
  ((∃ k : Int, (k = 2 ∨ k = 3) ∧ e = .returned (.tuple #[.agg #[.int .i64 0, .int .i64 0, .bool false, .int .i64 0, .slice none 0 0, .int .i64 0], .int .i64 k]) ∧ (Z 0 = 9 → 1 < n → (n - 1) % 2 ≠ 0 → k = 3) ∧ ¬ (Z 0 = 8 ∧ 0 < n ∧ n ≤ 1276)) ∨
   (∃ (d0 d1 d2 : Int) (st : Bool) (a : Option Addr) (q c p : Nat) (P : Nat → List Int) (vs : Nat → Value), e = .returned (.tuple #[.agg #[.int .i64 d0, .int .i64 d1, .bool st, .int .i64 d2, .slice a q c, .int .i64 (p : Nat)], .int .i64 0]) ∧ Rows w' w.heap.size a q c P vs ∧ 1 ≤ q ∧ q ≤ 48 ∧ wrap64 ((q : Int) * d2) ≤ 960 ∧ (∀ i, i < q → (P i).length ≤ 1275) ∧ p + sm (fun i => (P i).length) q + 1 ≤ n ∧ (Z 0 = 8 → d0 = 0 ∧ d1 = 0 ∧ d2 = 160 ∧ st = false ∧ q = 1 ∧ p = 0 ∧ P = frP (fun x => Z (1 + x)) (fun _ => n - 1)) ∧ ¬ (Z 0 = 9 ∧ (n - 1) % 2 ≠ 0)))
set_option maxRecDepth 100000 in
set_option maxHeartbeats 4000000 in
theorem oread (n c : Nat) (a : Option Addr) (Z : Nat → Int) (w : World) (h : BS w.heap.size w a n c Z) (hn : n ≤ 5000) :
    Calls Try.prog 23 #[.slice a n c] w (RdP n Z w) := by
  have hmf : ∀ (fn : Fn) (first cap : Array Value) (w : World), (Instr.makeFunc fn first cap).run Try.prog w = .ok (.func fn first cap) w := fun _ _ _ _ => rfl
  go_enter_defers Try.func23, Try.ntmps23
  go_wp2_with fail
  generalize hW1 : World.alloc (World.alloc (World.alloc _ _) _) _ = W1
  have ST1 : Hid (BoxZ w.heap.size w W1) := Lib.hid (by rw [← hW1]; exact boxz_new w _)
  have RD1 : RD w.heap.size (w.heap.size + 1 + 1) W1 a n c Z 0 := by
    rw [← hW1]
    refine ⟨?_, ?_, by omega⟩
    · have h := alloc_blk_new (w := (w.alloc (.cells #[.int .i64 0, .int .i64 0, .bool false, .int .i64 0, .slice none 0 0, .int .i64 0] 48)).alloc (.cells #[.int .i64 0] 29)) (o := .cells #[.slice a n c, .int .i64 0] 92)
      rw [show ((w.alloc (.cells #[.int .i64 0, .int .i64 0, .bool false, .int .i64 0, .slice none 0 0, .int .i64 0] 48)).alloc (.cells #[.int .i64 0] 29)).heap.size = w.heap.size + 1 + 1 by simp] at h
      exact h
    · exact h.keep ((((Below.refl _ _).alloc (Nat.le_refl _) _).alloc (by simp) _).alloc (by simp; omega) _)
  have HN := Lib.hid (onext w.heap.size (w.heap.size + 1 + 1) n c a Z 0 W1 RD1)
  clear hW1 RD1
  refine HN.out.mono ?_
  rintro e w1 (⟨h0, k, hk, rfl, hkp⟩ | ⟨h0, ⟨z, rfl, hz0, z1, z2⟩, ⟨b1, o1, c1, h1⟩, k1⟩)
  · have ST2 : Hid (BoxZ w.heap.size w w1) := Lib.hid (ST1.out.keeps hkp)
    have HK := Lib.hid hk
    have H0 := Lib.hid h0
    clear hkp ST1 hk HN h0
    go_wp2_with fail
    exact door_panic (R := RdP n Z w) (k := k) ST2.out (by rfl) (by rfl) (by rfl) (fun W' hb => ⟨hb, .inl ⟨k, HK.out, rfl, fun _ h => absurd h (by have := H0.out; omega), fun h => by have := H0.out; omega⟩⟩)
  obtain ⟨hd, rfl⟩ := Int.eq_ofNat_of_zero_le z1
  have HZ0 := Lib.hid hz0
  have HR1 := Lib.hid h1
  have ST2 : Hid (BoxZ w.heap.size w w1) := Lib.hid (ST1.out.keeps k1)
  clear hz0 h1 k1 ST1 z1 HN
  go_wp2_with fail
  refine (oconfigs w1).mono ?_
  rintro e w2 ⟨⟨F, rfl, F3, F4, F5⟩, hb2⟩
  obtain ⟨d0, d1, d2, hix, hd1⟩ : ∃ d0 d1 d2, (∀ W, (Instr.index 95 (.agg (tabF F 96).toArray) (.int .i64 ((hd : Int) / 8))).run Try.prog W = .ok (.agg #[.int .i64 d0, .int .i64 d1, .int .i64 d2]) W) ∧ (hd / 8 = 1 → d0 = 0 ∧ d1 = 0 ∧ d2 = 160) :=
    ⟨_, _, _, fun W => ix95 F (hd / 8) (by omega) W, fun h => by rw [h]; exact ⟨F3, F4, F5⟩⟩
  have HD1 := Lib.hid hd1
  have HR2 := Lib.hid (HR1.out.keep hb2)
  have ST3 : Hid (BoxZ w.heap.size w w2) := Lib.hid (ST2.out.below hb2 (by have := lt_of_block HR1.out.r; omega))
  clear hd1 F3 F4 F5 hb2 HR1 ST2
  go_wp2_with fail
  obtain ⟨G, hG⟩ : ∃ G, w2.heap.size = G := ⟨_, rfl⟩
  have hG2 : w.heap.size + 1 + 1 < G := by rw [← hG]; exact lt_of_block HR2.out.r
  generalize hV : World.alloc w2 _ = V
  have ba : Below w2.heap.size w2 V := by rw [← hV]; exact (Below.refl _ _).alloc (Nat.le_refl _) _
  have HBX : V.heap[G]? = some (.cells #[.int .i64 d0, .int .i64 d1, .int .i64 d2] 94 (0, 0)) := by rw [← hV, ← hG]; exact alloc_blk_new
  have HR3 := HR2.out.keep ba
  have ST4 := ST3.out.below ba (by omega)
  rw [hG]
  clear hV ba HR2 ST3 hG
  refine (oreaders V).mono ?_
  rintro e w4 ⟨rfl, hb4⟩
  have HR4 := Lib.hid (HR3.keep hb4)
  have ST5 := Lib.hid (ST4.below hb4 (by have := lt_of_block HR3.r; omega))
  have HB4 : Hid (w4.heap[G]? = some (.cells #[.int .i64 d0, .int .i64 d1, .int .i64 d2] 94 (0, 0))) := Lib.hid (Below.blk hb4 HBX (lt_of_block HBX))
  clear HR3 ST4 HBX hb4
  obtain ⟨m, hm⟩ : ∃ m, m = hd % 4 := ⟨_, rfl⟩
  obtain ⟨q1, q2, q3⟩ := hb256b hd (List.mem_range.2 (by omega))
  obtain ⟨y4b, hy4⟩ : ∃ y, bits .and .i64 (hd : Int) 4 = y := ⟨_, rfl⟩
  rw [hy4] at q2 q3
  have HY := Lib.hid q3
  clear q2 q3
  have q1' : bits .and .i64 (hd : Int) 3 = (m : Int) := by rw [q1, hm]; rfl
  obtain ⟨f, hidx, hent, hcall⟩ := omethod m (by omega)
  have HM := Lib.hid (hcall w.heap.size (w.heap.size + 1 + 1) (n - 1) c1 b1 o1 _ w4 HR4.out (by omega))
  have HMD := Lib.hid hm
  have hidx' := hidx
  unfold meths at hidx'
  clear q1 hcall hm hidx
  go_wp2_with fail
  refine HM.out.mono ?_
  rintro e w5 (⟨⟨k, hk, rfl, hkp⟩, hno⟩ | ⟨q, P, p, x1, x2, x3, hG, x4⟩)
  · have ST6 : Hid (BoxZ w.heap.size w w5) := Lib.hid (ST5.out.keeps hkp)
    have HNO := Lib.hid hno
    have HK := Lib.hid hk
    clear hkp ST5 hno hk HM hidx' hent HR4 HB4
    go_wp2_with fail
    refine door_panic (R := RdP n Z w) ST6.out rfl rfl rfl (fun W' hb => ⟨hb, .inl ⟨k, HK.out, rfl, fun h9 h1 h2 => ?_, fun h8 => HNO.out.2 ⟨?_, ?_⟩⟩⟩)
    · have := HNO.out.1 (by have := HMD.out; have := HZ0.out; omega) h2
      unfold pan at this
      simpa using this
    · have := HMD.out; have := HZ0.out; omega
    · omega
  obtain ⟨⟨a9, c9, vs9, rfl, y1⟩, y2, y3, ⟨b5, o5, n5, c5, Z5, h5⟩, y4⟩ := hG
  have ST6 : Hid (BoxZ w.heap.size w w5) := Lib.hid (ST5.out.keeps y4)
  have hBX : w5.heap[G]? = some (.cells #[.int .i64 d0, .int .i64 d1, .int .i64 d2] 94 (0, 0)) := (y4.block _ (lt_of_block HB4.out) (by omega)).trans HB4.out
  have hGl := lt_of_block hBX
  have cp1 : w5.cell? ⟨w.heap.size + 1 + 1, 1, none⟩ = some (.int .i64 (p : Nat)) := cell_blk h5.r
  have cb0 : w5.cell? ⟨G, 0, none⟩ = some (.int .i64 d0) := cell_blk hBX
  have cb1 : w5.cell? ⟨G, 1, none⟩ = some (.int .i64 d1) := cell_blk hBX
  have cb2 : w5.cell? ⟨G, 2, none⟩ = some (.int .i64 d2) := cell_blk hBX
  have HQ := Lib.hid x4
  have HRo := Lib.hid y1
  have HS4 : Hid (w.heap.size + 1 < w4.heap.size) := Lib.hid (lt_of_block ST5.out.e)
  have HG1 := Lib.hid y2
  have HG2 := Lib.hid y3
  have X1 := Lib.hid x1
  have X2 := Lib.hid x2
  have X3 := Lib.hid x3
  have PQ : Hid (Z 0 = 8 → d0 = 0 ∧ d1 = 0 ∧ d2 = 160 ∧ q = 1 ∧ p = 0 ∧ P = frP (fun x => Z (1 + x)) (fun _ => n - 1)) := Lib.hid fun h => by
    obtain ⟨r1, r2, r3⟩ := HD1.out (by have := HZ0.out; omega)
    obtain ⟨r4, r5, r6⟩ := x4.1 (by have := HMD.out; have := HZ0.out; omega)
    exact ⟨r1, r2, r3, r4, r6, r5⟩
  have NQ : Hid (¬ (Z 0 = 9 ∧ (n - 1) % 2 ≠ 0)) := Lib.hid fun h => h.2 (x4.2 (by have := HMD.out; have := HZ0.out; omega))
  have GBX := Lib.hid hBX
  clear x1 x2 x3 x4 y1 y2 y3 y4 h5 hBX HB4 ST5 HR4 hidx' hent HM
  by_cases hlq : wrap64 ((q : Int) * d2) ≤ 960
  · have t1 : decide (wrap64 ((q : Int) * d2) ≤ 960) = true := by simp [hlq]
    have HLQ := Lib.hid hlq
    clear hlq
    go_wp2_with fail
    refine (omust 3 w5).mono ?_
    rintro e w6 ⟨rfl, rfl⟩
    obtain ⟨b9, hb9⟩ : ∃ b, (!decide (y4b = 0)) = b := ⟨_, rfl⟩
    have zo : ∀ j, w5.frozen? ⟨w.heap.size, j, none⟩ = false := fun j => free_blk ST6.out.o
    have z0 := zo 0
    have z1 := zo 1
    have z2' := zo 2
    have z3 := zo 3
    have z4 := zo 4
    have z5 := zo 5
    have ze : w5.frozen? ⟨w.heap.size + 1, 0, none⟩ = false := free_blk ST6.out.e
    have e0 : w5.cell? ⟨w.heap.size, 0, none⟩ = some (.int .i64 0) := cell_blk ST6.out.o
    have e1 : w5.cell? ⟨w.heap.size, 1, none⟩ = some (.int .i64 0) := cell_blk ST6.out.o
    have e2 : w5.cell? ⟨w.heap.size, 2, none⟩ = some (.bool false) := cell_blk ST6.out.o
    have e3 : w5.cell? ⟨w.heap.size, 3, none⟩ = some (.int .i64 0) := cell_blk ST6.out.o
    have e4 : w5.cell? ⟨w.heap.size, 4, none⟩ = some (.slice none 0 0) := cell_blk ST6.out.o
    have e5 : w5.cell? ⟨w.heap.size, 5, none⟩ = some (.int .i64 0) := cell_blk ST6.out.o
    have ee : w5.cell? ⟨w.heap.size + 1, 0, none⟩ = some (.int .i64 0) := cell_blk ST6.out.e
    clear zo
    go_wp2_with fail
    go_still_tail 15, (by kernel_rfl)
    change wpList _ _ _ _ _ w5.drew
    go_wp2_with fail
    obtain ⟨s1, s2, s3, s4⟩ := lay6v ST6.out.o ST6.out.e (by omega) rfl
    refine door_ret s1 s2 rfl rfl rfl ⟨ST6.out.b.trans (s4 _ (Nat.le_refl _) (by omega) (by have := lt_of_block ST6.out.o; omega)), .inr ⟨d0, d1, d2, _, a9, q, c9, p, P, vs9, rfl, ?_, X1.out, X2.out, HLQ.out, HG1.out, ?_, fun h8 => ?_, NQ.out⟩⟩
    · exact (HRo.out.but2 (fun r hr => s3 r (by have := HS4.out; omega) (by have := HS4.out; omega))).mono (by have := HS4.out; omega)
    · have := HG2.out; have := X3.out; omega
    · obtain ⟨r1, r2, r3, r4, r5, r6⟩ := PQ.out h8
      refine ⟨r1, r2, r3, ?_, r4, r5, r6⟩
      rw [HY.out (by have := HZ0.out; omega)]; rfl
  · have t1 : decide (wrap64 ((q : Int) * d2) ≤ 960) = false := by simp [hlq]
    have HLQ := Lib.hid hlq
    clear hlq
    go_wp2_with fail
    refine (must_no 3 w5).mono ?_
    rintro e w6 ⟨rfl, rfl⟩
    go_wp2_with fail
    refine door_panic (R := RdP n Z w) ST6.out rfl rfl rfl (fun W' hb => ⟨hb, .inl ⟨3, .inr rfl, rfl, fun _ _ _ => rfl, fun h8 => ?_⟩⟩)
    obtain ⟨r1, r2, r3, r4, -⟩ := PQ.out h8.1
    have h9 := HLQ.out
    rw [r3, r4] at h9
    exact absurd h9 (by decide +kernel)
end Go.Proofs.Ytkoplofcjbeicaa
