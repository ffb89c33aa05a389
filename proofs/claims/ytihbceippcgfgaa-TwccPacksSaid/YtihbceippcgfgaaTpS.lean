/-
  Chapter 37: stepsOf, and the reference's Signs.
-/
import Derived.Test.YtihbceippcgfgaaTpB
import Derived.Test.YtihbceippcgfgaaApp
import Derived.StillTailTactics
import Derived.Test.YtihbceippcgfgaaProg
import Derived.IntWalk
namespace Go.Proofs.Ytihbceippcgfgaa
open Go.RowKit
set_option linter.unusedVariables false
set_option linter.unusedSimpArgs false
attribute [local irreducible] wpStill wpQuiet

theorem infoI37 : (Try.prog.info? 3).map (fun i => (i.zero, i.size, i.bytes)) = some (some (.int .i64 0), 1, 8) := by kernel_rfl
theorem elI : ElemT Try.prog 90 3 1 8 := ElemT.mk' (z := .int .i64 0) Try.underlying90 infoI37 rfl (by decide)
def vsI (L : List Int) : List Value := L.map fun x => .int .i64 x
def fl (f : Nat → Int) (k : Nat) : List Int := (List.range k).map f
theorem fl_succ (f : Nat → Int) (k : Nat) : fl f (k + 1) = fl f k ++ [f k] := by simp [fl, List.range_succ]
theorem fl_len (f : Nat → Int) (k : Nat) : (fl f k).length = k := by simp [fl]
theorem vsI_app (L M : List Int) : vsI (L ++ M) = vsI L ++ vsI M := List.map_append ..
theorem vsI_len (L : List Int) : (vsI L).length = L.length := List.length_map ..
theorem vsI_fl (f : Nat → Int) {k i : Nat} (h : i < k) : (vsI (fl f k))[i]? = some (.int .i64 (f i)) := by simp [vsI, fl, h]
theorem vsI_get {L : List Int} {i : Nat} {x : Int} (h : L[i]? = some x) : (vsI L)[i]? = some (.int .i64 x) := by simp [vsI, h]
/-- numbers that lie somewhere -/
structure IRow (w : World) (a : Option Addr) (n c : Nat) (X : Nat → Int) : Prop where
  le : n ≤ c
  max : c ≤ 9223372036854775807
  at' : 0 < n → ∃ b off, a = some ⟨b, off, none⟩ ∧ b < w.heap.size ∧ ∀ i, i < n → w.cell? ⟨b, off + i, none⟩ = some (.int .i64 (X i))
theorem IRow.keep {w w' : World} {a : Option Addr} {n c : Nat} {X : Nat → Int} (h : IRow w a n c X) (hb : Below w.heap.size w w') : IRow w' a n c X :=
  ⟨h.le, h.max, fun h0 => by
    obtain ⟨b, off, h1, h2, h3⟩ := h.at' h0
    exact ⟨b, off, h1, by have := hb.size; omega, fun i hi => Below.cell' hb h2 (h3 i hi)⟩⟩
theorem App.apart {P : Program} {t e : TypeId} {V W : World} {tmp : Obj} {v v' u : Value} {base size n : Nat} {xs : List Value} (A : App P t V tmp v v' W base e size n xs) (hu : ∀ k, u.ownBlock = some k → k < V.heap.size) (h : Apart v u) : Apart v' u := fun g h1 h2 => by
  rcases A.new g h1 with h3 | h3
  · exact h g h3 h2
  · have := hu g h2; omega
/-- rows of signs and steps -/
structure Two (w : World) (B : Nat) (v1 v2 : Value) (n m : Nat) (L1 L2 : List Int) : Prop where
  one : w.ownsRow B 3 1 v1 n (vsI L1)
  two : w.ownsRow B 3 1 v2 m (vsI L2)
  apart : Apart v1 v2
/-- one more sign -/
theorem Two.sign {w : World} {B : Nat} {v1 v2 : Value} {n m : Nat} {L1 L2 : List Int} (h : Two w B v1 v2 n m L1 L2) (x : Int) (hn : n ≤ 1000000) (hB : B ≤ w.heap.size) :
    ∃ a' c' W, (∀ ty, (Builtin.append_ #[90, 90] ty #[v1, .slice (some ⟨w.heap.size, 0, none⟩) 1 1]).run Try.prog (w.alloc (.cells #[.int .i64 x] 3)) = .ok (.slice a' (n + 1) c') W) ∧ Two W B (.slice a' (n + 1) c') v2 (n + 1) m (L1 ++ [x]) L2 ∧ Below B w W := by
  obtain ⟨a', c', W, A, b⟩ := app1 elI h.one [.int .i64 x] rfl (one_cell rfl) hn (by omega) hB
  have hu := fun k hk => (h.two.lt k hk).2
  exact ⟨a', c', W, A.run, ⟨by rw [vsI_app]; exact A.own, own_but h.two A.but (fun k hk e => h.apart k e hk), A.apart hu h.apart⟩, b⟩
/-- one more step -/
theorem Two.step {w : World} {B : Nat} {v1 v2 : Value} {n m : Nat} {L1 L2 : List Int} (h : Two w B v1 v2 n m L1 L2) (x : Int) (hn : m ≤ 1000000) (hB : B ≤ w.heap.size) :
    ∃ a' c' W, (∀ ty, (Builtin.append_ #[90, 90] ty #[v2, .slice (some ⟨w.heap.size, 0, none⟩) 1 1]).run Try.prog (w.alloc (.cells #[.int .i64 x] 3)) = .ok (.slice a' (m + 1) c') W) ∧ Two W B v1 (.slice a' (m + 1) c') n (m + 1) L1 (L2 ++ [x]) ∧ Below B w W := by
  obtain ⟨a', c', W, A, b⟩ := app1 elI h.two [.int .i64 x] rfl (one_cell rfl) hn (by omega) hB
  have hu := fun k hk => (h.one.lt k hk).2
  exact ⟨a', c', W, A.run, ⟨own_but h.one A.but (fun k hk e => h.apart k hk e), by rw [vsI_app]; exact A.own, (A.apart hu h.apart.symm).symm⟩, b⟩
def StPost (X : Nat → Int) (n m : Nat) (L2 : List Int) (w : World) (e : Ending) (w' : World) : Prop :=
  ((good X n ∧ ∃ a1 c1 a2 c2, e = .returned (.tuple #[.slice a1 n c1, .slice a2 m c2, .bool true]) ∧ Two w' w.heap.size (.slice a1 n c1) (.slice a2 m c2) n m (fl (sg X) n) L2) ∨
    (¬ good X n ∧ e = .returned (.tuple #[.slice none 0 0, .slice none 0 0, .bool false]))) ∧ Below w.heap.size w w'
theorem own_nil (w : World) (B : Nat) : w.ownsRow B 3 1 (.slice none 0 0) 0 (vsI []) := ⟨rfl, .inl ⟨rfl, rfl⟩⟩
theorem two_nil (w : World) (B : Nat) : Two w B (.slice none 0 0) (.slice none 0 0) 0 0 [] [] := ⟨own_nil w B, own_nil w B, fun g h => by cases h⟩

set_option maxRecDepth 100000 in
set_option maxHeartbeats 2000000 in
theorem steps_any (w : World) (a : Option Addr) (n cap : Nat) (X : Nat → Int) (h : IRow w a n cap X) (hn : n ≤ 1000) (hw : ∀ i, i < n → -9223372036854775808 ≤ X i ∧ X i ≤ 9223372036854775807) :
    Calls Try.prog 86 #[.slice a n cap] w (StPost X n (cs X n).length (cs X n) w) := by
  have HI := Lib.hid h
  have HW := Lib.hid hw
  have hle := h.le
  have hmx := h.max
  clear h hw
  go_enter Try.func86, Try.ntmps86
  go_wp2_with fail
  go_loopw [5, 6, 7, 13] (fun s5 s6 s7 si wr => ∃ (k m : Nat) (a1 a2 : Option Addr) (c1 c2 : Nat) (g : Int), k ≤ n ∧ m ≤ k ∧ si = .int .i64 k ∧ s5 = .slice a1 k c1 ∧ s6 = .slice a2 m c2 ∧ s7 = .int .i64 g ∧ Hid (g = ahd X k) ∧ Hid (m = (cs X k).length) ∧ Hid (∀ j, j < k → ok1 X j) ∧ Hid (Two wr w.heap.size (.slice a1 k c1) (.slice a2 m c2) k m (fl (sg X) k) (cs X k)) ∧ Hid (Below w.heap.size w wr)) (fun _ _ _ si _ => n - (intOf si).toNat)
  case atStart => exact ⟨0, 0, none, none, 0, 0, 0, by omega, by omega, rfl, rfl, rfl, rfl, Lib.hid rfl, Lib.hid rfl, Lib.hid (fun j hj => by omega), Lib.hid (two_nil _ _), Lib.hid (Below.refl _ _)⟩
  case round =>
    obtain ⟨k, m, a1, a2, c1, c2, g, hk, hmk, rfl, rfl, rfl, rfl, HG, HM, HO, HT, HB⟩ := hrel
    by_cases hlt : k < n
    · have hbs := HB.out.size
      obtain ⟨b, off, rfl, hb, hcc⟩ := HI.out.at' (by omega)
      have ck := Below.cell' HB.out hb (hcc k hlt)
      clear hcc
      have hx := HW.out k hlt
      have hg : 0 ≤ g ∧ g ≤ 1048575 := by rw [HG.out]; exact ahd_bd (n := k) HO.out k (Nat.le_refl _)
      by_cases h1 : X k = -1
      · have HG2 : Hid (g = ahd X (k + 1)) := Lib.hid (by rw [ahd_succ, if_pos h1]; exact HG.out)
        have hcs : cs X (k + 1) = cs X k := by show cs X k ++ (if X k = -1 then [] else [stp X k]) = _; rw [if_pos h1, List.append_nil]
        have hsg := sg_zero.2 h1
        have hst : stp X k = 0 := if_pos h1
        have HO2 : Hid (∀ j, j < k + 1 → ok1 X j) := Lib.hid (fun j hj => by
          by_cases e : j = k
          · subst e; unfold ok1; omega
          · exact HO.out j (by omega))
        obtain ⟨a1', c1', W1, R1, T1, B1⟩ := HT.out.sign 0 (by omega) hbs
        have T1' : Hid (Two W1 w.heap.size (.slice a1' (k + 1) c1') (.slice a2 m c2) (k + 1) m (fl (sg X) (k + 1)) (cs X (k + 1))) := Lib.hid (by rw [hcs, fl_succ, hsg]; exact T1)
        have HM2 : Hid (m = (cs X (k + 1)).length) := Lib.hid (by rw [hcs]; exact HM.out)
        have HB2 := Lib.hid (HB.out.trans B1)
        have HR := Lib.hid R1
        rw [h1] at ck
        clear h1 T1 B1 R1 hcs hsg hst hx HM HG HO HT
        go_wp2_with (at_builtin; refine wpList_of_append rfl (.tmp 19) (.tmp 20) 90 rfl _ _ _ rfl rfl HR.out ?_)
        go_roundw
        case rel => exact ⟨k + 1, m, a1', a2, c1', c2, g, by omega, by omega, by go_num, rfl, rfl, rfl, HG2, HM2, HO2, T1', HB2⟩
        case measure => simp [intOf] <;> omega
      · have e1 : (X k == -1) = false := by simpa using h1
        have e1' : decide (X k = -1) = false := by simpa using h1
        have hst : stp X k = X k - g := by unfold stp; rw [if_neg h1, ← HG.out]
        by_cases hok : ok1 X k
        · obtain ⟨o1, o2, o3, o4⟩ := hok
          rw [hst] at o3 o4
          have t1 : decide (X k < -1) = false := by simp; omega
          have t2 : decide (1048576 ≤ X k) = false := by simp; omega
          have t3 : decide (X k - g < -32768) = false := by simp; omega
          have t4 : decide (32768 ≤ X k - g) = false := by simp; omega
          have HG2 : Hid (X k = ahd X (k + 1)) := Lib.hid (by rw [ahd_succ, if_neg h1])
          have hcs : cs X (k + 1) = cs X k ++ [X k - g] := by show cs X k ++ (if X k = -1 then [] else [stp X k]) = _; rw [if_neg h1, hst]
          have HO2 : Hid (∀ j, j < k + 1 → ok1 X j) := Lib.hid (fun j hj => by
            by_cases e : j = k
            · subst e; unfold ok1; omega
            · exact HO.out j (by omega))
          have HM2 : Hid (m + 1 = (cs X (k + 1)).length) := Lib.hid (by rw [hcs, List.length_append, ← HM.out]; rfl)
          by_cases hs : 0 ≤ X k - g ∧ X k - g ≤ 255
          · have t5 : decide (0 ≤ X k - g) = true := by simp; omega
            have t5' : decide (g ≤ X k) = true := by simp; omega
            have t6 : decide (X k - g ≤ 255) = true := by simp; omega
            have hsg : sg X k = 1 := by unfold sg; rw [if_neg h1, hst, if_pos hs]
            obtain ⟨a1', c1', W1, R1, T1, B1⟩ := HT.out.sign 1 (by omega) hbs
            obtain ⟨a2', c2', W2, R2, T2, B2⟩ := T1.step (X k - g) (by omega) (Nat.le_trans hbs (by have := B1.size; omega))
            have T2' : Hid (Two W2 w.heap.size (.slice a1' (k + 1) c1') (.slice a2' (m + 1) c2') (k + 1) (m + 1) (fl (sg X) (k + 1)) (cs X (k + 1))) := Lib.hid (by rw [hcs, fl_succ, hsg]; exact T2)
            have HB2 := Lib.hid ((HB.out.trans B1).trans B2)
            have HR := Lib.hid R1
            have HR2 := Lib.hid R2
            clear hst T1 B1 R1 T2 B2 R2 hcs hsg h1 HM HG HO HT hs o1 o2
            go_wp2_with (at_builtin; first | refine wpList_of_append rfl (.tmp 50) (.tmp 51) 90 rfl _ _ _ rfl rfl HR.out ?_ | refine wpList_of_append rfl (.tmp 53) (.tmp 55) 90 rfl _ _ _ rfl rfl HR2.out ?_)
            go_roundw
            case rel => exact ⟨k + 1, m + 1, a1', a2', c1', c2', X k, by omega, by omega, by go_num, rfl, rfl, rfl, HG2, HM2, HO2, T2', HB2⟩
            case measure => simp [intOf] <;> omega
          · have hsg : sg X k = 2 := by unfold sg; rw [if_neg h1, hst, if_neg hs]
            obtain ⟨a1', c1', W1, R1, T1, B1⟩ := HT.out.sign 2 (by omega) hbs
            obtain ⟨a2', c2', W2, R2, T2, B2⟩ := T1.step (X k - g) (by omega) (Nat.le_trans hbs (by have := B1.size; omega))
            have T2' : Hid (Two W2 w.heap.size (.slice a1' (k + 1) c1') (.slice a2' (m + 1) c2') (k + 1) (m + 1) (fl (sg X) (k + 1)) (cs X (k + 1))) := Lib.hid (by rw [hcs, fl_succ, hsg]; exact T2)
            have HB2 := Lib.hid ((HB.out.trans B1).trans B2)
            have HR := Lib.hid R1
            have HR2 := Lib.hid R2
            clear hst T1 B1 R1 T2 B2 R2 hcs hsg h1 HM HG HO HT o1 o2
            rcases (show X k - g < 0 ∨ (0 ≤ X k - g ∧ 255 < X k - g) by omega) with h0 | ⟨h0, h00⟩
            · have t5 : decide (0 ≤ X k - g) = false := by simp; omega
              have t5' : decide (g ≤ X k) = false := by simp; omega
              clear h0 hs
              go_wp2_with (at_builtin; first | refine wpList_of_append rfl (.tmp 25) (.tmp 26) 90 rfl _ _ _ rfl rfl HR.out ?_ | refine wpList_of_append rfl (.tmp 53) (.tmp 55) 90 rfl _ _ _ rfl rfl HR2.out ?_)
              go_roundw
              case rel => exact ⟨k + 1, m + 1, a1', a2', c1', c2', X k, by omega, by omega, by go_num, rfl, rfl, rfl, HG2, HM2, HO2, T2', HB2⟩
              case measure => simp [intOf] <;> omega
            · have t5 : decide (0 ≤ X k - g) = true := by simp; omega
              have t5' : decide (g ≤ X k) = true := by simp; omega
              have t6 : decide (X k - g ≤ 255) = false := by simp; omega
              clear h0 h00 hs
              go_wp2_with (at_builtin; first | refine wpList_of_append rfl (.tmp 25) (.tmp 26) 90 rfl _ _ _ rfl rfl HR.out ?_ | refine wpList_of_append rfl (.tmp 53) (.tmp 55) 90 rfl _ _ _ rfl rfl HR2.out ?_)
              go_roundw
              case rel => exact ⟨k + 1, m + 1, a1', a2', c1', c2', X k, by omega, by omega, by go_num, rfl, rfl, rfl, HG2, HM2, HO2, T2', HB2⟩
              case measure => simp [intOf] <;> omega
        · have hbad : Hid (¬ good X n) := Lib.hid (fun hg => hok (hg k hlt))
          have hor : X k < -1 ∨ (-1 ≤ X k ∧ 1048576 ≤ X k) ∨ (-1 ≤ X k ∧ X k < 1048576 ∧ X k - g < -32768) ∨ (-1 ≤ X k ∧ X k < 1048576 ∧ -32768 ≤ X k - g ∧ 32768 ≤ X k - g) := by
            unfold ok1 at hok; rw [hst] at hok; omega
          clear hok hst h1
          rcases hor with t | ⟨t, u⟩ | ⟨t, u, v⟩ | ⟨t, u, v, x⟩
          · have t1 : decide (X k < -1) = true := by simp; omega
            clear t
            go_wp2_with fail
            go_returns
            exact ⟨.inr ⟨hbad.out, rfl⟩, HB.out⟩
          · have t1 : decide (X k < -1) = false := by simp; omega
            have t2 : decide (1048576 ≤ X k) = true := by simp; omega
            clear t u
            go_wp2_with fail
            go_returns
            exact ⟨.inr ⟨hbad.out, rfl⟩, HB.out⟩
          · have t1 : decide (X k < -1) = false := by simp; omega
            have t2 : decide (1048576 ≤ X k) = false := by simp; omega
            have t3 : decide (X k - g < -32768) = true := by simp; omega
            clear v
            go_wp2_with fail
            go_returns
            exact ⟨.inr ⟨hbad.out, rfl⟩, HB.out⟩
          · have t1 : decide (X k < -1) = false := by simp; omega
            have t2 : decide (1048576 ≤ X k) = false := by simp; omega
            have t3 : decide (X k - g < -32768) = false := by simp; omega
            have t4 : decide (32768 ≤ X k - g) = true := by simp; omega
            clear v x
            go_wp2_with fail
            go_returns
            exact ⟨.inr ⟨hbad.out, rfl⟩, HB.out⟩
    · obtain rfl : n = k := by omega
      go_wp2_with fail
      go_returns
      obtain rfl := HM.out
      exact ⟨.inl ⟨HO.out, a1, c1, a2, c2, rfl, HT.out⟩, HB.out⟩
end Go.Proofs.Ytihbceippcgfgaa
