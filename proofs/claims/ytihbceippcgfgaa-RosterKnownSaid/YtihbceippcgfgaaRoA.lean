/-
  Chapter 47: the roster in memory; there, Set, Known.
-/
import Derived.Test.YtihbceippcgfgaaReads
import Derived.Test.YtihbceippcgfgaaMixT
import Derived.Test.YtihbceippcgfgaaProg
import Derived.Test.YtihbceippcgfgaaOwn
namespace Go.Proofs.Ytihbceippcgfgaa
open Go.RowKit
set_option linter.unusedVariables false
set_option linter.unusedSimpArgs false
attribute [local irreducible] wpStill wpQuiet MixC.wpMix
attribute [local go_sem] MixC.rdOp MixC.rd MixC.rdUpon MixC.mvUpon

structure RoS where
  n : Nat
  p : Int
  ve : Nat → Int
  tx : Nat → ByteArray
  kn : Nat → Nat → Int
  td : Nat → Nat → Int
  ti : Nat → Nat → Int
/-- A roster: its block, its entries, its sights (rows of rows). -/
structure RoX (B g be ce bs cs : Nat) (rw rc : Nat → Nat) (s : RoS) (w : World) : Prop where
  gB : B ≤ g
  eB : B ≤ be
  sB : B ≤ bs
  rB : ∀ i, i < s.n → B ≤ rw i
  cap : s.n ≤ ce ∧ s.n ≤ cs ∧ ∀ i, s.n ≤ rc i
  n16 : 1 ≤ s.n ∧ s.n ≤ 16
  blk : w.heap[g]? = some (.cells #[.int .i64 s.p, .slice (some ⟨be, 0, none⟩) s.n ce, .slice (some ⟨bs, 0, none⟩) s.n cs] 143 (0, 0))
  eb : ∃ c, w.heap[be]? = some (.cells c 148 (0, 0)) ∧ ∀ j, j < s.n → c[j * 2]? = some (.int .i64 (s.ve j)) ∧ c[j * 2 + 1]? = some (.string (s.tx j))
  sb : ∃ c, w.heap[bs]? = some (.cells c 144 (0, 0)) ∧ ∀ i, i < s.n → c[i]? = some (.slice (some ⟨rw i, 0, none⟩) s.n (rc i))
  rb : ∀ i, i < s.n → ∃ c, w.heap[rw i]? = some (.cells c 154 (0, 0)) ∧ ∀ j, j < s.n → c[j * 3]? = some (.int .i64 (s.kn i j)) ∧ c[j * 3 + 1]? = some (.int .i64 (s.td i j)) ∧ c[j * 3 + 2]? = some (.int .i64 (s.ti i j))
  inj : ∀ i j, i < s.n → j < s.n → rw i = rw j → i = j
def RoM (B g : Nat) (s : RoS) (w : World) : Prop := ∃ be ce bs cs rw rc, RoX B g be ce bs cs rw rc s w
section
variable {B g be ce bs cs : Nat} {rw rc : Nat → Nat} {s : RoS} {w w' : World}
theorem RoX.keep (h : RoX B g be ce bs cs rw rc s w) (hb : Below w.heap.size w w') : RoX B g be ce bs cs rw rc s w' := by
  refine ⟨h.gB, h.eB, h.sB, h.rB, h.cap, h.n16, Below.blk hb h.blk (lt_of_block h.blk), ?_, ?_, fun i hi => ?_, h.inj⟩
  · obtain ⟨c, h1, h2⟩ := h.eb; exact ⟨c, Below.blk hb h1 (lt_of_block h1), h2⟩
  · obtain ⟨c, h1, h2⟩ := h.sb; exact ⟨c, Below.blk hb h1 (lt_of_block h1), h2⟩
  · obtain ⟨c, h1, h2⟩ := h.rb i hi; exact ⟨c, Below.blk hb h1 (lt_of_block h1), h2⟩
theorem RoM.keep (h : RoM B g s w) (hb : Below w.heap.size w w') : RoM B g s w' := by
  obtain ⟨be, ce, bs, cs, rw, rc, h⟩ := h
  exact ⟨be, ce, bs, cs, rw, rc, h.keep hb⟩
theorem blk_type {k l : Nat} {a b : Array Value} {T U : TypeId} {m o : Nat × Nat} (h1 : w.heap[k]? = some (.cells a T m)) (h2 : w.heap[l]? = some (.cells b U o)) (hT : T ≠ U) : k ≠ l := fun e => by
  subst e
  rw [h1] at h2
  injection h2 with h2
  injection h2 with _ h2
  exact hT h2
def upd1 {α : Type} (f : Nat → α) (i : Nat) (v : α) : Nat → α := fun j => if j = i then v else f j
def upd2 {α : Type} (f : Nat → Nat → α) (i j : Nat) (v : α) : Nat → Nat → α := fun a b => if a = i ∧ b = j then v else f a b
/-- an entry's cell turns -/
theorem RoX.setE (h : RoX B g be ce bs cs rw rc s w) {j : Nat} (hj : j < s.n) (k : Nat) (hk : k < 2) (v : Value) {s' : RoS} (hs : s'.n = s.n ∧ s'.p = s.p ∧ s'.kn = s.kn ∧ s'.td = s.td ∧ s'.ti = s.ti)
    (h0 : ∀ i, i < s.n → (if i = j ∧ k = 0 then v else .int .i64 (s.ve i)) = .int .i64 (s'.ve i)) (h1 : ∀ i, i < s.n → (if i = j ∧ k = 1 then v else .string (s.tx i)) = .string (s'.tx i)) :
    RoX B g be ce bs cs rw rc s' (w.setCell ⟨be, j * 2 + k, none⟩ v) := by
  obtain ⟨hn, hp, hkn, hto, hti⟩ := hs
  obtain ⟨c, e1, e2⟩ := h.eb
  obtain ⟨c3, e3, e4⟩ := h.sb
  have st : ∀ l o, l ≠ be → w.heap[l]? = some o → (w.setCell ⟨be, j * 2 + k, none⟩ v).heap[l]? = some o := fun l o hl ho => (set_blk_other v hl).trans ho
  refine ⟨h.gB, h.eB, h.sB, fun i hi => h.rB i (by omega), by rw [hn]; exact h.cap, by rw [hn]; exact h.n16, ?_, ⟨_, set_blk v e1, fun i hi => ?_⟩, ⟨c3, st _ _ (blk_type e3 e1 (by decide)) e3, by rw [hn]; exact e4⟩, fun i hi => ?_, fun i j hi hj => h.inj i j (by omega) (by omega)⟩
  · rw [hn, hp]; exact st _ _ (blk_type h.blk e1 (by decide)) h.blk
  · rw [hn] at hi
    obtain ⟨a1, a2⟩ := e2 i hi
    have b1 := h0 i hi
    have b2 := h1 i hi
    have l1 : i * 2 < c.size := (Array.getElem?_eq_some_iff.1 a1).1
    have l2 : i * 2 + 1 < c.size := (Array.getElem?_eq_some_iff.1 a2).1
    rw [Array.getElem?_setIfInBounds, Array.getElem?_setIfInBounds, ← b1, ← b2, a1, a2]
    constructor
    · by_cases hc : j * 2 + k = i * 2
      · rw [if_pos hc, if_pos (by omega), if_pos (by omega)]
      · rw [if_neg hc, if_neg (by omega)]
    · by_cases hc : j * 2 + k = i * 2 + 1
      · rw [if_pos hc, if_pos (by omega), if_pos (by omega)]
      · rw [if_neg hc, if_neg (by omega)]
  · rw [hn] at hi
    obtain ⟨c5, e5, e6⟩ := h.rb i hi
    exact ⟨c5, st _ _ (blk_type e5 e1 (by decide)) e5, by rw [hn, hkn, hto, hti]; exact e6⟩
/-- a sight's cell turns -/
theorem RoX.setR (h : RoX B g be ce bs cs rw rc s w) {i j : Nat} (hi : i < s.n) (hj : j < s.n) (k : Nat) (hk : k < 3) (x : Int) {s' : RoS} (hs : s'.n = s.n ∧ s'.p = s.p ∧ s'.ve = s.ve ∧ s'.tx = s.tx)
    (h0 : s'.kn = if k = 0 then upd2 s.kn i j x else s.kn) (h1 : s'.td = if k = 1 then upd2 s.td i j x else s.td) (h2 : s'.ti = if k = 2 then upd2 s.ti i j x else s.ti) :
    RoX B g be ce bs cs rw rc s' (w.setCell ⟨rw i, j * 3 + k, none⟩ (.int .i64 x)) := by
  obtain ⟨hn, hp, hve, htx⟩ := hs
  obtain ⟨c, e1, e2⟩ := h.eb
  obtain ⟨c3, e3, e4⟩ := h.sb
  obtain ⟨c7, e7, e8⟩ := h.rb i hi
  have st : ∀ l o, l ≠ rw i → w.heap[l]? = some o → (w.setCell ⟨rw i, j * 3 + k, none⟩ (.int .i64 x)).heap[l]? = some o := fun l o hl ho => (set_blk_other _ hl).trans ho
  refine ⟨h.gB, h.eB, h.sB, fun a ha => h.rB a (by omega), by rw [hn]; exact h.cap, by rw [hn]; exact h.n16, ?_, ⟨c, st _ _ (blk_type e1 e7 (by decide)) e1, by rw [hn, hve, htx]; exact e2⟩, ⟨c3, st _ _ (blk_type e3 e7 (by decide)) e3, by rw [hn]; exact e4⟩, fun a ha => ?_, fun a b ha hb => h.inj a b (by omega) (by omega)⟩
  · rw [hn, hp]; exact st _ _ (blk_type h.blk e7 (by decide)) h.blk
  · rw [hn] at ha
    by_cases hai : a = i
    · subst hai
      refine ⟨_, set_blk _ e7, fun b hb => ?_⟩
      rw [hn] at hb
      obtain ⟨a1, a2, a3⟩ := e8 b hb
      have l1 : b * 3 < c7.size := (Array.getElem?_eq_some_iff.1 a1).1
      have l2 : b * 3 + 1 < c7.size := (Array.getElem?_eq_some_iff.1 a2).1
      have l3 : b * 3 + 2 < c7.size := (Array.getElem?_eq_some_iff.1 a3).1
      rw [Array.getElem?_setIfInBounds, Array.getElem?_setIfInBounds, Array.getElem?_setIfInBounds, a1, a2, a3, h0, h1, h2]
      unfold upd2
      refine ⟨?_, ?_, ?_⟩
      · by_cases hc : j * 3 + k = b * 3
        · rw [if_pos hc, if_pos (by omega), if_pos (by omega : k = 0)]; simp [show b = j by omega]
        · rw [if_neg hc]
          by_cases hk0 : k = 0
          · rw [if_pos hk0, if_neg (by omega)]
          · rw [if_neg hk0]
      · by_cases hc : j * 3 + k = b * 3 + 1
        · rw [if_pos hc, if_pos (by omega), if_pos (by omega : k = 1)]; simp [show b = j by omega]
        · rw [if_neg hc]
          by_cases hk0 : k = 1
          · rw [if_pos hk0, if_neg (by omega)]
          · rw [if_neg hk0]
      · by_cases hc : j * 3 + k = b * 3 + 2
        · rw [if_pos hc, if_pos (by omega), if_pos (by omega : k = 2)]; simp [show b = j by omega]
        · rw [if_neg hc]
          by_cases hk0 : k = 2
          · rw [if_pos hk0, if_neg (by omega)]
          · rw [if_neg hk0]
    · obtain ⟨c5, e5, e6⟩ := h.rb a ha
      refine ⟨c5, st _ _ (fun e => hai (h.inj a i ha hi e)) e5, fun b hb => ?_⟩
      rw [hn] at hb
      obtain ⟨a1, a2, a3⟩ := e6 b hb
      have u : ∀ {f : Nat → Nat → Int}, upd2 f i j x a b = f a b := fun {f} => by unfold upd2; rw [if_neg (by omega)]
      rw [a1, a2, a3, h0, h1, h2]
      refine ⟨?_, ?_, ?_⟩
      · split
        · rw [u]
        · rfl
      · split
        · rw [u]
        · rfl
      · split
        · rw [u]
        · rfl
theorem RoX.g0 (h : RoX B g be ce bs cs rw rc s w) : w.cell? ⟨g, 0, none⟩ = some (.int .i64 s.p) := cell_blk h.blk
theorem RoX.g1 (h : RoX B g be ce bs cs rw rc s w) : w.cell? ⟨g, 1, none⟩ = some (.slice (some ⟨be, 0, none⟩) s.n ce) := cell_blk h.blk
theorem RoX.g2 (h : RoX B g be ce bs cs rw rc s w) : w.cell? ⟨g, 2, none⟩ = some (.slice (some ⟨bs, 0, none⟩) s.n cs) := cell_blk h.blk
theorem RoX.e_ (h : RoX B g be ce bs cs rw rc s w) {j : Nat} (hj : j < s.n) : w.cell? ⟨be, j * 2, none⟩ = some (.int .i64 (s.ve j)) ∧ w.cell? ⟨be, j * 2 + 1, none⟩ = some (.string (s.tx j)) ∧ ∀ i, w.frozen? ⟨be, i, none⟩ = false := by
  obtain ⟨c, e1, e2⟩ := h.eb
  exact ⟨(cell_blk e1).trans (e2 j hj).1, (cell_blk e1).trans (e2 j hj).2, fun i => free_blk e1⟩
theorem RoX.s_ (h : RoX B g be ce bs cs rw rc s w) {i : Nat} (hi : i < s.n) : w.cell? ⟨bs, i, none⟩ = some (.slice (some ⟨rw i, 0, none⟩) s.n (rc i)) := by
  obtain ⟨c, e1, e2⟩ := h.sb
  exact (cell_blk e1).trans (e2 i hi)
theorem RoX.r_ (h : RoX B g be ce bs cs rw rc s w) {i j : Nat} (hi : i < s.n) (hj : j < s.n) : w.cell? ⟨rw i, j * 3, none⟩ = some (.int .i64 (s.kn i j)) ∧ w.cell? ⟨rw i, j * 3 + 1, none⟩ = some (.int .i64 (s.td i j)) ∧ w.cell? ⟨rw i, j * 3 + 2, none⟩ = some (.int .i64 (s.ti i j)) ∧ ∀ k, w.frozen? ⟨rw i, k, none⟩ = false := by
  obtain ⟨c, e1, e2⟩ := h.rb i hi
  exact ⟨(cell_blk e1).trans (e2 j hj).1, (cell_blk e1).trans (e2 j hj).2.1, (cell_blk e1).trans (e2 j hj).2.2, fun k => free_blk e1⟩
def inN (n : Nat) (x : Int) : Bool := decide (0 ≤ x) && decide (x < n)
theorem there_any (h : RoM B g s w) (x : Int) : Calls Try.prog 80 #[.pointer (some ⟨g, 0, none⟩), .int .i64 x] w fun e w' => e = .returned (.bool (inN s.n x)) ∧ w = w' := by
  obtain ⟨be, ce, bs, cs, rw, rc, h⟩ := h
  have g1 := h.g1
  obtain ⟨n, hn⟩ : ∃ n, s.n = n := ⟨_, rfl⟩
  rw [hn] at g1 ⊢
  clear h hn
  unfold inN
  by_cases h0 : 0 ≤ x
  · by_cases h1 : x < n
    · go_enter Try.func80, Try.ntmps80
      go_wp2_with fail
      go_ret
      exact ⟨by simp [h0, h1], rfl⟩
    · go_enter Try.func80, Try.ntmps80
      go_wp2_with fail
      go_ret
      exact ⟨by simp [h0, h1], rfl⟩
  · go_enter Try.func80, Try.ntmps80
    go_wp2_with fail
    go_ret
    exact ⟨by simp; omega, rfl⟩
/-- what Set makes -/
def setF (s : RoS) (x : Nat) (t : ByteArray) : RoS := if s.tx x = t then s else { s with ve := upd1 s.ve x (s.ve x + 1), tx := upd1 s.tx x t }
theorem set_bad (h : RoM B g s w) (x : Int) (t : ByteArray) (hx : inN s.n x = false ∨ 64 < t.size) : Calls Try.prog 42 #[.pointer (some ⟨g, 0, none⟩), .int .i64 x, .string t] w fun e w' => (∃ a b, e = .returned (.tuple #[a, b])) ∧ w = w' := by
  have HT := Lib.hid (there_any h x)
  clear h
  cases hi : inN s.n x with
  | false =>
    rw [hi] at HT
    go_enter Try.func42, Try.ntmps42
    go_wp2_with fail
    refine HT.out.mono ?_
    rintro e w' ⟨rfl, rfl⟩
    go_wp2_with fail
    refine bodyPost_ret (by simp [results, Try.results42, go_sem]; try rfl) rfl ?_
    exact ⟨⟨_, _, rfl⟩, rfl⟩
  | true =>
    have h64 : 64 < t.size := by
      rcases hx with hx | hx
      · rw [hi] at hx; cases hx
      · exact hx
    rw [hi] at HT
    clear hx
    go_enter Try.func42, Try.ntmps42
    go_wp2_with fail
    refine HT.out.mono ?_
    rintro e w' ⟨rfl, rfl⟩
    go_wp2_with fail
    refine bodyPost_ret (by simp [results, Try.results42, go_sem]; try rfl) rfl ?_
    exact ⟨⟨_, _, rfl⟩, rfl⟩
set_option maxHeartbeats 1000000 in
theorem set_any (h : RoM B g s w) (x : Nat) (t : ByteArray) (hx : x < s.n) (ht : t.size ≤ 64) (hv : 0 ≤ s.ve x ∧ s.ve x ≤ 1000000) : Calls Try.prog 42 #[.pointer (some ⟨g, 0, none⟩), .int .i64 x, .string t] w fun e w' => e = .returned (.tuple #[.int .i64 ((setF s x t).ve x), .int .i64 0]) ∧ RoM B g (setF s x t) w' ∧ Below B w w' := by
  have HT := Lib.hid (there_any h x)
  rw [show inN s.n (x : Int) = true by unfold inN; simp; omega] at HT
  obtain ⟨be, ce, bs, cs, rw, rc, h⟩ := h
  have H := Lib.hid h
  have g1 := h.g1
  obtain ⟨e0, e1, f0⟩ := h.e_ hx
  have eB := h.eB
  have cap := h.cap.1
  obtain ⟨n, hn⟩ : ∃ n, s.n = n := ⟨_, rfl⟩
  rw [hn] at g1 cap
  have hxn : x < n := by omega
  have hxi : (x : Int) < n := by omega
  obtain ⟨v, hve⟩ : ∃ v, s.ve x = v := ⟨_, rfl⟩
  obtain ⟨u, htx⟩ : ∃ u, s.tx x = u := ⟨_, rfl⟩
  have HV := Lib.hid hve
  have HU := Lib.hid htx
  have HX := Lib.hid hx
  rw [hve] at e0 hv
  rw [htx] at e1
  clear h hve htx hn hx
  by_cases hut : u = t
  · have hset : setF s x t = s := by unfold setF; rw [HU.out, if_pos hut]
    have hb : (u.toList == t.toList) = true := by rw [hut]; simp
    rw [hset, HV.out]
    clear hut hset
    go_enter Try.func42, Try.ntmps42
    go_wp2_with fail
    refine HT.out.mono ?_
    rintro e w' ⟨rfl, rfl⟩
    go_wp2_with fail
    refine bodyPost_ret (by simp [results, Try.results42, go_sem]; try rfl) rfl ?_
    exact ⟨rfl, ⟨be, ce, bs, cs, rw, rc, H.out⟩, Below.refl _ _⟩
  · have hset : setF s x t = { s with ve := upd1 s.ve x (s.ve x + 1), tx := upd1 s.tx x t } := by unfold setF; rw [HU.out, if_neg hut]
    have hb : (u.toList == t.toList) = false := by
      have hne : u.toList ≠ t.toList := fun e => hut (by
        rw [ByteArray.toList_eq, ByteArray.toList_eq] at e
        exact WideShapes.bytes_inj e)
      simpa using hne
    have vv : IntKind.i64.wrap (v + 1) = v + 1 := IntWalk.i64_in _ (by omega)
    have X1 := (H.out.setE (j := x) HX.out 0 (by omega) (.int .i64 (v + 1)) (s' := { s with ve := upd1 s.ve x (s.ve x + 1) }) ⟨rfl, rfl, rfl, rfl, rfl⟩ (fun i hi => by
      show _ = Value.int IntKind.i64 (if i = x then s.ve x + 1 else s.ve i)
      by_cases e : i = x
      · rw [if_pos ⟨e, rfl⟩, if_pos e, HV.out]
      · rw [if_neg (fun h => e h.1), if_neg e]) (fun i hi => by rw [if_neg (fun h => by cases h.2)]))
    rw [Nat.add_zero] at X1
    have X2 := X1.setE (j := x) HX.out 1 (by omega) (.string t) (s' := setF s x t) (by rw [hset]; exact ⟨rfl, rfl, rfl, rfl, rfl⟩) (fun i hi => by
      rw [if_neg (fun h => by cases h.2), hset]) (fun i hi => by
      rw [hset]
      show _ = Value.string (if i = x then t else s.tx i)
      by_cases e : i = x
      · rw [if_pos ⟨e, rfl⟩, if_pos e]
      · rw [if_neg (fun h => e h.1), if_neg e])
    have B2 : Below B w ((w.setCell ⟨be, x * 2, none⟩ (.int .i64 (v + 1))).setCell ⟨be, x * 2 + 1, none⟩ (.string t)) := ((Below.refl B w).setCell eB (p := ⟨be, x * 2, none⟩) _).setCell eB (p := ⟨be, x * 2 + 1, none⟩) _
    have HX2 := Lib.hid X2
    have hvv : Hid ((setF s x t).ve x = v + 1) := Lib.hid (by rw [hset]; show (if x = x then _ else _) = _; rw [if_pos rfl, HV.out])
    rw [hvv.out]
    have f00 := f0 (x * 2)
    have f01 := f0 (x * 2 + 1)
    clear X1 X2 hut hset
    go_enter Try.func42, Try.ntmps42
    go_wp2_with fail
    refine HT.out.mono ?_
    rintro e w' ⟨rfl, rfl⟩
    go_wp2_with fail
    refine bodyPost_ret (by simp [results, Try.results42, go_sem]; try rfl) rfl ?_
    exact ⟨rfl, ⟨be, ce, bs, cs, rw, rc, HX2.out⟩, B2⟩
end
end Go.Proofs.Ytihbceippcgfgaa
