/-
  Chapter 47: Tell.
-/
import Derived.Test.YtihbceippcgfgaaRoC
import Derived.Test.YtihbceippcgfgaaApp
import Derived.Deep.Onto
namespace Go.Proofs.Ytihbceippcgfgaa
open Go.RowKit
set_option linter.unusedVariables false
set_option linter.unusedSimpArgs false
attribute [local irreducible] wpStill wpQuiet MixC.wpMix
attribute [local go_sem] MixC.rdOp MixC.rd MixC.rdUpon MixC.mvUpon
attribute [local go_sem] Oper.semAt_some

/-- is one told of? -/
def toldB (s : RoS) (x : Nat) (tick : Int) (o : Nat) : Bool := !(decide (s.td x o = s.ve o) && decide (tick - s.ti x o < s.p))
def tellL (s : RoS) (x : Nat) (tick : Int) (pre : List Nat) : List Nat := pre.filter (toldB s x tick)
/-- behind these -/
def tellS (s : RoS) (x : Nat) (tick : Int) (pre : List Nat) : RoS :=
  { s with td := fun a b => if a = x ∧ b ∈ tellL s x tick pre then s.ve b else s.td a b, ti := fun a b => if a = x ∧ b ∈ tellL s x tick pre then tick else s.ti a b }
def noteV (s : RoS) (L : List Nat) : List Value := L.flatMap fun o : Nat => [.int .i64 o, .int .i64 (s.ve o), .string (s.tx o)]
theorem noteV_app (s : RoS) (L : List Nat) (o : Nat) : noteV s (L ++ [o]) = noteV s L ++ [.int .i64 o, .int .i64 (s.ve o), .string (s.tx o)] := by unfold noteV; simp
theorem tellS_nil (s : RoS) (x : Nat) (tick : Int) : tellS s x tick [] = s := by
  cases s; simp [tellS, tellL]
theorem tellL_app (s : RoS) (x : Nat) (tick : Int) (pre : List Nat) (o : Nat) : tellL s x tick (pre ++ [o]) = if toldB s x tick o = true then tellL s x tick pre ++ [o] else tellL s x tick pre := by
  unfold tellL
  rw [List.filter_append]
  by_cases h : toldB s x tick o = true
  · rw [if_pos h, List.filter_cons_of_pos h]; rfl
  · rw [if_neg h, List.filter_cons_of_neg h]; simp
theorem tellS_skip {s : RoS} {x : Nat} {tick : Int} {pre : List Nat} {o : Nat} (h : toldB s x tick o = false) : tellS s x tick (pre ++ [o]) = tellS s x tick pre := by
  unfold tellS
  rw [tellL_app, if_neg (by rw [h]; decide)]
theorem tellS_take {s : RoS} {x : Nat} {tick : Int} {pre : List Nat} {o : Nat} (h : toldB s x tick o = true) : tellS s x tick (pre ++ [o]) = { tellS s x tick pre with td := upd2 (tellS s x tick pre).td x o (s.ve o), ti := upd2 (tellS s x tick pre).ti x o tick } := by
  unfold tellS
  rw [tellL_app, if_pos h]
  congr 1
  · funext a b
    unfold upd2
    by_cases h1 : a = x ∧ b = o
    · rw [if_pos h1, if_pos ⟨h1.1, by rw [h1.2]; simp⟩, h1.2]
    · rw [if_neg h1]
      simp only
      by_cases h2 : a = x ∧ b ∈ tellL s x tick pre
      · rw [if_pos h2, if_pos ⟨h2.1, by simp [h2.2]⟩]
      · rw [if_neg h2, if_neg (fun h3 => by
          rcases List.mem_append.1 h3.2 with h4 | h4
          · exact h2 ⟨h3.1, h4⟩
          · exact h1 ⟨h3.1, by simpa using h4⟩)]
  · funext a b
    unfold upd2
    by_cases h1 : a = x ∧ b = o
    · rw [if_pos h1, if_pos ⟨h1.1, by rw [h1.2]; simp⟩]
    · rw [if_neg h1]
      simp only
      by_cases h2 : a = x ∧ b ∈ tellL s x tick pre
      · rw [if_pos h2, if_pos ⟨h2.1, by simp [h2.2]⟩]
      · rw [if_neg h2, if_neg (fun h3 => by
          rcases List.mem_append.1 h3.2 with h4 | h4
          · exact h2 ⟨h3.1, h4⟩
          · exact h1 ⟨h3.1, by simpa using h4⟩)]
/-- what one that has not come yet holds -/
theorem tellS_old {s : RoS} {x : Nat} {tick : Int} {pre : List Nat} {o : Nat} (h : o ∉ pre) (a : Nat) : (tellS s x tick pre).td a o = s.td a o ∧ (tellS s x tick pre).ti a o = s.ti a o := by
  have : o ∉ tellL s x tick pre := fun h2 => h (List.mem_filter.1 h2).1
  unfold tellS
  exact ⟨if_neg (fun h3 => this h3.2), if_neg (fun h3 => this h3.2)⟩
theorem othL_nd (s : RoS) (x : Nat) : (othL s x).Nodup := List.Pairwise.sublist List.filter_sublist List.nodup_range
theorem oth_new {s : RoS} {x o : Nat} {pre suf : List Nat} (h : othL s x = pre ++ o :: suf) : o ∉ pre ∧ o < s.n ∧ dueB s x o = true := by
  have hnd := othL_nd s x
  have hm : o ∈ othL s x := by rw [h]; simp
  rw [h, List.nodup_append] at hnd
  obtain ⟨h1, h2⟩ := List.mem_filter.1 hm
  exact ⟨fun hin => hnd.2.2 o hin o List.mem_cons_self rfl, List.mem_range.1 h1, h2⟩
/-- blocks of other types stay -/
def TyB (T : TypeId) (w w' : World) : Prop := ∀ (k : Nat) cs U m, w.heap[k]? = some (.cells cs U m) → U ≠ T → w'.heap[k]? = some (.cells cs U m)
theorem TyB.set {w : World} {b i : Nat} {cs : Array Value} {T : TypeId} {m : Nat × Nat} (h : w.heap[b]? = some (.cells cs T m)) (v : Value) : TyB T w (w.setCell ⟨b, i, none⟩ v) := fun k c U m' hk hU =>
  (set_blk_other (a := ⟨b, i, none⟩) v (fun e => by
    subst e
    rw [hk] at h
    injection h with h
    injection h with _ h
    exact hU h)).trans hk
theorem TyB.below {T : TypeId} {w w' : World} (h : Below w.heap.size w w') : TyB T w w' := fun k c U m hk _ => Below.blk h hk (lt_of_block hk)
theorem TyB.trans {T : TypeId} {u v w : World} (h : TyB T u v) (k : TyB T v w) : TyB T u w := fun i c U m hi hU => k i c U m (h i c U m hi hU) hU
theorem TyB.own {T : TypeId} {w w' : World} (h : TyB T w w') {base : Nat} {e : TypeId} {size : Nat} {v : Value} {n : Nat} {xs : List Value} (ho : w.ownsRow base e size v n xs) (he : e ≠ T) : w'.ownsRow base e size v n xs := by
  obtain ⟨h1, h2⟩ := ho
  refine ⟨h1, ?_⟩
  rcases h2 with h2 | ⟨g, cap, cur, hv, hg, hh, r'⟩
  · exact .inl h2
  · exact .inr ⟨g, cap, cur, hv, hg, h _ _ _ _ hh he, r'⟩
theorem TyB.but {T : TypeId} {w w' : World} {r : Option Nat} (h : But r w w') (hr : ∀ k, r = some k → ∃ cs m, w.heap[k]? = some (.cells cs T m)) : TyB T w w' := fun k c U m hk hU =>
  h.blk hk (fun e => by
    obtain ⟨cs, m', h2⟩ := hr k e
    rw [hk] at h2
    injection h2 with h2
    injection h2 with _ h2
    exact hU h2)
theorem RoX.tyb {B g be ce bs cs : Nat} {rw rc : Nat → Nat} {s : RoS} {w w' : World} {T : TypeId} (h : RoX B g be ce bs cs rw rc s w) (t : TyB T w w') (hT : 143 ≠ T ∧ 148 ≠ T ∧ 144 ≠ T ∧ 154 ≠ T) : RoX B g be ce bs cs rw rc s w' := by
  refine ⟨h.gB, h.eB, h.sB, h.rB, h.cap, h.n16, t _ _ _ _ h.blk hT.1, ?_, ?_, fun i hi => ?_, h.inj⟩
  · obtain ⟨c, h1, h2⟩ := h.eb; exact ⟨c, t _ _ _ _ h1 hT.2.1, h2⟩
  · obtain ⟨c, h1, h2⟩ := h.sb; exact ⟨c, t _ _ _ _ h1 hT.2.2.1, h2⟩
  · obtain ⟨c, h1, h2⟩ := h.rb i hi; exact ⟨c, t _ _ _ _ h1 hT.2.2.2, h2⟩
theorem RoX.turned {B g be ce bs cs : Nat} {rw rc : Nat → Nat} {s : RoS} {w w' : World} {B' : Nat} (h : RoX B g be ce bs cs rw rc s w) (t : Turned B' w w') : RoX B g be ce bs cs rw rc s w' := by
  refine ⟨h.gB, h.eB, h.sB, h.rB, h.cap, h.n16, t.blk h.blk rfl, ?_, ?_, fun i hi => ?_, h.inj⟩
  · obtain ⟨c, h1, h2⟩ := h.eb; exact ⟨c, t.blk h1 rfl, h2⟩
  · obtain ⟨c, h1, h2⟩ := h.sb; exact ⟨c, t.blk h1 rfl, h2⟩
  · obtain ⟨c, h1, h2⟩ := h.rb i hi; exact ⟨c, t.blk h1 rfl, h2⟩
theorem own_blockT {w : World} {b1 : Nat} {e1 : TypeId} {s1 n1 : Nat} {v1 : Value} {xs1 : List Value} (h1 : w.ownsRow b1 e1 s1 v1 n1 xs1) : ∀ g, v1.ownBlock = some g → ∃ cs mm, w.heap[g]? = some (.cells cs e1 mm) := fun g hg => by
  rcases h1.2 with ⟨hv, _⟩ | ⟨x, _, cs, hv, _, hx, _⟩
  · rw [hv] at hg; cases hg
  · rw [hv] at hg; cases hg; exact ⟨_, _, hx⟩
/-- between two rounds -/
structure TeI (B g be ce bs cs : Nat) (rw rc : Nat → Nat) (s : RoS) (x : Nat) (tick : Int) (g3 g5 g7 c1 c2 base : Nat) (pre : List Nat) (a : Option Addr) (c : Nat) (w W : World) : Prop where
  rx : RoX B g be ce bs cs rw rc (tellS s x tick pre) W
  b3 : W.heap[g3]? = some (.cells #[.pointer (some ⟨g, 0, none⟩)] 74 (0, 0))
  b5 : W.heap[g5]? = some (.cells #[.int .i64 tick] 2 (0, 0))
  b7 : W.heap[g7]? = some (.cells #[.slice a (tellL s x tick pre).length c] 80 (0, 0))
  row : W.ownsRow base 83 3 (.slice a (tellL s x tick pre).length c) (tellL s x tick pre).length (noteV s (tellL s x tick pre))
  k1 : W.heap[c1]? = some (.cells #[.pointer (some ⟨g, 0, none⟩)] 74 (0, 0))
  k2 : W.heap[c2]? = some (.cells #[.int .i64 x] 3 (0, 0))
  bl : Below B w W
  sz : base ≤ W.heap.size
  fr : ∀ (k : Nat) c U m, w.heap[k]? = some (.cells c U m) → U ≠ 154 → W.heap[k]? = some (.cells c U m)
theorem TeI.below {B g be ce bs cs : Nat} {rw rc : Nat → Nat} {s : RoS} {x : Nat} {tick : Int} {g3 g5 g7 c1 c2 base : Nat} {pre : List Nat} {a : Option Addr} {c : Nat} {w W W' : World} (h : TeI B g be ce bs cs rw rc s x tick g3 g5 g7 c1 c2 base pre a c w W) (hb : Below W.heap.size W W') (hB : B ≤ W.heap.size) : TeI B g be ce bs cs rw rc s x tick g3 g5 g7 c1 c2 base pre a c w W' :=
  ⟨h.rx.keep hb, Below.blk hb h.b3 (lt_of_block h.b3), Below.blk hb h.b5 (lt_of_block h.b5), Below.blk hb h.b7 (lt_of_block h.b7), own_below h.row hb, Below.blk hb h.k1 (lt_of_block h.k1), Below.blk hb h.k2 (lt_of_block h.k2), h.bl.trans (hb.mono hB), Nat.le_trans h.sz hb.size, fun k c U m hk hU => Below.blk hb (h.fr k c U m hk hU) (lt_of_block (h.fr k c U m hk hU))⟩
theorem TeI.turned {B g be ce bs cs : Nat} {rw rc : Nat → Nat} {s : RoS} {x : Nat} {tick : Int} {g3 g5 g7 c1 c2 base : Nat} {pre : List Nat} {a : Option Addr} {c : Nat} {w W W' : World} {B' : Nat} (h : TeI B g be ce bs cs rw rc s x tick g3 g5 g7 c1 c2 base pre a c w W) (ht : Turned B' W W') (hB : B ≤ B') : TeI B g be ce bs cs rw rc s x tick g3 g5 g7 c1 c2 base pre a c w W' :=
  ⟨h.rx.turned ht, ht.blk h.b3 rfl, ht.blk h.b5 rfl, ht.blk h.b7 rfl, ht.own h.row, ht.blk h.k1 rfl, ht.blk h.k2 rfl, ht.below h.bl hB, by rw [ht.size]; exact h.sz, fun k c U m hk hU => ht.blk (h.fr k c U m hk hU) rfl⟩
theorem TeI.oth {B g be ce bs cs : Nat} {rw rc : Nat → Nat} {s : RoS} {x : Nat} {tick : Int} {g3 g5 g7 c1 c2 base : Nat} {pre : List Nat} {a : Option Addr} {c : Nat} {w W : World} (h : TeI B g be ce bs cs rw rc s x tick g3 g5 g7 c1 c2 base pre a c w W) (hx : x < s.n) : OtH c1 c2 g be ce bs cs (rw x) (rc x) s x W :=
  ⟨cell_blk h.k1, cell_blk h.k2, h.rx.g1, h.rx.g2, fun j hj => ⟨(h.rx.e_ (s := tellS s x tick pre) hj).1, (h.rx.e_ (s := tellS s x tick pre) hj).2.1⟩, h.rx.s_ (s := tellS s x tick pre) hx, fun j hj => (h.rx.r_ (s := tellS s x tick pre) hx hj).1⟩
theorem TeI.skip {B g be ce bs cs : Nat} {rw rc : Nat → Nat} {s : RoS} {x : Nat} {tick : Int} {g3 g5 g7 c1 c2 base : Nat} {pre : List Nat} {a : Option Addr} {c : Nat} {w W : World} {o : Nat} (h : TeI B g be ce bs cs rw rc s x tick g3 g5 g7 c1 c2 base pre a c w W) (hs : toldB s x tick o = false) : TeI B g be ce bs cs rw rc s x tick g3 g5 g7 c1 c2 base (pre ++ [o]) a c w W := by
  have e : tellL s x tick (pre ++ [o]) = tellL s x tick pre := by rw [tellL_app, if_neg (by rw [hs]; decide)]
  exact ⟨by rw [tellS_skip hs]; exact h.rx, h.b3, h.b5, by rw [e]; exact h.b7, by rw [e]; exact h.row, h.k1, h.k2, h.bl, h.sz, h.fr⟩
/-- the two cells of a sight turn -/
theorem TeI.mark {B g be ce bs cs : Nat} {rw rc : Nat → Nat} {s : RoS} {x : Nat} {tick : Int} {g3 g5 g7 c1 c2 base : Nat} {pre : List Nat} {a : Option Addr} {c : Nat} {w W Y : World} {o : Nat} (h : TeI B g be ce bs cs rw rc s x tick g3 g5 g7 c1 c2 base pre a c w W) (hx : x < s.n) (ho : o < s.n) (hs : toldB s x tick o = true)
    (hY : (W.setCell ⟨rw x, o * 3 + 1, none⟩ (.int .i64 (s.ve o))).setCell ⟨rw x, o * 3 + 2, none⟩ (.int .i64 tick) = Y) : RoX B g be ce bs cs rw rc (tellS s x tick (pre ++ [o])) Y ∧ TyB 154 W Y ∧ Below B W Y ∧ Y.heap.size = W.heap.size := by
  subst hY
  have X1 := h.rx.setR (i := x) (j := o) hx ho 1 (by omega) (s.ve o) (s' := { tellS s x tick pre with td := upd2 (tellS s x tick pre).td x o (s.ve o) }) ⟨rfl, rfl, rfl, rfl⟩ (by rw [if_neg (by omega)]) (by rw [if_pos rfl]) (by rw [if_neg (by omega)])
  have X2 := X1.setR (i := x) (j := o) hx ho 2 (by omega) tick (s' := tellS s x tick (pre ++ [o])) (by rw [tellS_take hs]; exact ⟨rfl, rfl, rfl, rfl⟩) (by rw [if_neg (by omega), tellS_take hs]) (by rw [if_neg (by omega), tellS_take hs]) (by rw [if_pos rfl, tellS_take hs])
  obtain ⟨c7, e7, -⟩ := h.rx.rb x hx
  have rB := h.rx.rB x hx
  refine ⟨X2, (TyB.set e7 _).trans (TyB.set (set_blk _ e7) _), ((Below.refl B W).setCell (p := ⟨rw x, o * 3 + 1, none⟩) rB _).setCell (p := ⟨rw x, o * 3 + 2, none⟩) rB _, by simp [World.setCell]⟩
/-- one more is told of -/
theorem TeI.take {B g be ce bs cs : Nat} {rw rc : Nat → Nat} {s : RoS} {x : Nat} {tick : Int} {g3 g5 g7 c1 c2 base : Nat} {pre : List Nat} {a a9 : Option Addr} {c c9 : Nat} {w W Y V Z : World} {o : Nat} (h : TeI B g be ce bs cs rw rc s x tick g3 g5 g7 c1 c2 base pre a c w W) (hs : toldB s x tick o = true)
    (rx : RoX B g be ce bs cs rw rc (tellS s x tick (pre ++ [o])) Y) (tb : TyB 154 W Y) (bl : Below B W Y) (sz : Y.heap.size = W.heap.size) (ko : KeepsOthers W Y)
    (but : But (Value.slice a (tellL s x tick pre).length c).ownBlock Y V) (own : V.ownsRow base 83 3 (.slice a9 ((tellL s x tick pre).length + 1) c9) ((tellL s x tick pre).length + 1) (noteV s (tellL s x tick pre) ++ [.int .i64 o, .int .i64 (s.ve o), .string (s.tx o)])) (bl2 : Below base Y V)
    (hZ : V.setCell ⟨g7, 0, none⟩ (.slice a9 ((tellL s x tick pre).length + 1) c9) = Z) (hB : B ≤ base) (hg : B ≤ g7) (hw : w.heap.size ≤ base) (hg7 : w.heap.size ≤ g7) :
    TeI B g be ce bs cs rw rc s x tick g3 g5 g7 c1 c2 base (pre ++ [o]) a9 c9 w Z ∧ KeepsOthers W Z := by
  subst hZ
  have e : tellL s x tick (pre ++ [o]) = tellL s x tick pre ++ [o] := by rw [tellL_app, if_pos hs]
  have row := tb.own h.row (by decide)
  have tn : TyB 83 Y V := TyB.but but (own_blockT row)
  have b7 := tn _ _ _ _ (tb _ _ _ _ h.b7 (by decide)) (by decide)
  have tz : TyB 80 V (V.setCell ⟨g7, 0, none⟩ (.slice a9 ((tellL s x tick pre).length + 1) c9)) := TyB.set b7 _
  refine ⟨⟨(rx.tyb tn (by decide)).tyb tz (by decide), tz _ _ _ _ (tn _ _ _ _ (tb _ _ _ _ h.b3 (by decide)) (by decide)) (by decide), tz _ _ _ _ (tn _ _ _ _ (tb _ _ _ _ h.b5 (by decide)) (by decide)) (by decide), ?_, ?_,
    tz _ _ _ _ (tn _ _ _ _ (tb _ _ _ _ h.k1 (by decide)) (by decide)) (by decide), tz _ _ _ _ (tn _ _ _ _ (tb _ _ _ _ h.k2 (by decide)) (by decide)) (by decide), (h.bl.trans (bl.trans (bl2.mono hB))).setCell (p := ⟨g7, 0, none⟩) hg _, ?_, fun k cc U m hk hU => ?_⟩, ?_⟩
  · rw [e, List.length_append, set_blk _ b7]; rfl
  · rw [e, List.length_append, noteV_app]; exact tz.own own (by decide)
  · have := but.size; have := h.sz; simp only [World.setCell, Array.size_modify]; omega
  · have hlt := lt_of_block hk
    have h1 := tb k cc U m (h.fr k cc U m hk hU) hU
    have h2 := but.blk h1 (fun e => by have := (row.lt k e).1; omega)
    exact (set_blk_other _ (show k ≠ g7 by omega)).trans h2
  · exact (ko.trans (But.others but (fun k o hk ho => by
      obtain ⟨cs, mm, h2⟩ := own_blockT row k hk
      rw [h2] at ho; injection ho with ho; subst ho; rfl))).trans (KeepsOthers.setCell _ _ _)
theorem infoNote : (Try.prog.info? 83).map (fun i => (i.zero, i.size, i.bytes)) = some (some (.agg #[.int .i64 0, .int .i64 0, .string ⟨#[]⟩]), 3, 32) := by kernel_rfl
theorem elNote : ElemT Try.prog 80 83 3 32 := ElemT.mk' (z := .agg #[.int .i64 0, .int .i64 0, .string ⟨#[]⟩]) Try.underlying80 infoNote rfl (by decide)
theorem wpListIn_app {F : Fence} {n : Nat} {P : Program} {w w' : World} {ops : Array Oper} {rest : List Oper} {o : Oper} {a : Act} {Q : Exit → Act → World → Prop}
    (hg : o.guard = none) (s x : Operand) (t : TypeId) (hop : o.op = Op.call { callee := Callee.builtin Builtin.append, args := #[s, x], argTypes := #[t, t] })
    (v u v' : Value) (hs : a.eval s = v) (hx : a.eval x = u) (hrun : ∀ ty, (Builtin.append_ #[t, t] ty #[v, u]).run P w = .ok v' w')
    (hK : wpListIn F n P ops Q rest (a.put o.dst v') w') : wpListIn F n P ops Q (o :: rest) a w := by
  refine wpListIn_plain hg fun K hK' => ?_
  unfold Oper.wpIn
  refine ⟨by simp [Oper.about, hop, resolve, Target.leads, Sem.run_pure], ?_⟩
  rw [Oper.semAt_plain F _ _ (by rw [hop]; intro c hc'; cases hc'), exec_append hop hs hx (hrun o.type)]
  exact hK' _ _ hK
def TellPost (B g : Nat) (s : RoS) (x : Nat) (tick : Int) (w : World) (e : Ending) (w' : World) : Prop :=
  ∃ a c, e = .returned (.slice a (tellL s x tick (othL s x)).length c) ∧ w'.ownsRow 0 83 3 (.slice a (tellL s x tick (othL s x)).length c) (tellL s x tick (othL s x)).length (noteV s (tellL s x tick (othL s x))) ∧ RoM B g (tellS s x tick (othL s x)) w' ∧ Below B w w' ∧ TyB 154 w w'
set_option maxRecDepth 100000 in
set_option maxHeartbeats 8000000 in
theorem tell_any (B g : Nat) (s : RoS) (w : World) (h : RoM B g s w) (hB : B ≤ w.heap.size) (x : Nat) (tick : Int) (hx : x < s.n) (hp : 0 ≤ s.p ∧ s.p ≤ 1000000) (ht : 0 ≤ tick ∧ tick ≤ 1000000000) (hti : ∀ o, o < s.n → 0 ≤ s.ti x o ∧ s.ti x o ≤ 1000000000) :
    Calls Try.prog 43 #[.pointer (some ⟨g, 0, none⟩), .int .i64 x, .int .i64 tick] w (TellPost B g s x tick w) := by
  obtain ⟨be, ce, bs, cs, rw', rc, hX⟩ := h
  have HX := Lib.hid hX
  have HTI := Lib.hid hti
  obtain ⟨W1, hW1⟩ : ∃ W1, (w.alloc (.cells #[.pointer (some ⟨g, 0, none⟩)] 74)).alloc (.cells #[.int .i64 tick] 2) = W1 := ⟨_, rfl⟩
  have b1 : Below w.heap.size w W1 := by rw [← hW1]; exact ((Below.refl _ _).alloc (Nat.le_refl _) _).alloc (by simp) _
  have k3 : W1.heap[w.heap.size]? = some (.cells #[.pointer (some ⟨g, 0, none⟩)] 74 (0, 0)) := by rw [← hW1, alloc_blk_old (by simp)]; exact alloc_blk_new
  have k5 : W1.heap[w.heap.size + 1]? = some (.cells #[.int .i64 tick] 2 (0, 0)) := by rw [← hW1]; exact (by simpa using alloc_blk_new (w := w.alloc (.cells #[.pointer (some ⟨g, 0, none⟩)] 74)) (o := .cells #[.int .i64 tick] 2))
  have hM : RoM B g s w := ⟨be, ce, bs, cs, rw', rc, hX⟩
  have HT := Lib.hid (there_any (hM.keep b1) x)
  rw [show inN s.n (x : Int) = true by unfold inN; simp; omega] at HT
  have BW := Lib.hid b1
  have HW := Lib.hid hW1
  have K3 := Lib.hid k3
  have K5 := Lib.hid k5
  obtain ⟨g3, hg3⟩ : ∃ g3, w.heap.size = g3 := ⟨_, rfl⟩
  have HG := Lib.hid hg3
  have S1 : Hid (W1.heap.size = w.heap.size + 1 + 1) := Lib.hid (by rw [← hW1]; simp)
  clear hM b1 hW1 k3 k5 hX hti
  refine calls_of_wp_marks Try.func43 rfl ?_
  simp only [Try.ntmps43, List.size_toArray, List.length_cons, List.length_nil, Nat.reduceAdd, Nat.reduceSub, Array.replicate_succ, Array.replicate_zero, List.push_toArray, List.append_toArray, List.nil_append, List.cons_append]
  go_upto_region 1 with (fail)
  rw [HW.out]
  have y3 : W1.cell? ⟨g3, 0, none⟩ = some (.pointer (some ⟨g, 0, none⟩)) := by rw [← HG.out]; exact cell_blk K3.out
  clear hg3
  go_wp2_with fail
  refine HT.out.mono ?_
  rintro e w' ⟨rfl, rfl⟩
  go_upto_region 4 with (fail)
  obtain ⟨W2, hW2⟩ : ∃ W2, W1.alloc (.cells #[.slice none 0 0] 80) = W2 := ⟨_, rfl⟩
  rw [hW2]
  obtain ⟨g7, hg7⟩ : ∃ g7, W1.heap.size = g7 := ⟨_, rfl⟩
  rw [hg7]
  have b2 : Below W1.heap.size W1 W2 := by rw [← hW2]; exact (Below.refl _ _).alloc (Nat.le_refl _) _
  have k7 : W2.heap[g7]? = some (.cells #[.slice none 0 0] 80 (0, 0)) := by rw [← hW2, ← hg7]; exact alloc_blk_new
  have K7 := Lib.hid k7
  have B2 := Lib.hid b2
  have HG7 := Lib.hid hg7
  have y3' : W2.cell? ⟨g3, 0, none⟩ = some (.pointer (some ⟨g, 0, none⟩)) := cell_keep b2 y3
  clear hW2 k7 b2 hg7 y3
  go_wp2_with fail
  refine (others_any g x W2).mono ?_
  rintro e W3 ⟨rfl, q1, q2, b3⟩
  obtain ⟨c1, hc1⟩ : ∃ c1, W2.heap.size = c1 := ⟨_, rfl⟩
  rw [hc1] at q1 q2 ⊢
  have bW2 : Below w.heap.size w W2 := BW.out.trans (B2.out.mono BW.out.size)
  have bW3 : Below w.heap.size w W3 := bW2.trans (b3.mono bW2.size)
  have s1 := S1.out
  have s3 := HG.out
  have s7 := HG7.out
  have l2 := lt_of_block K7.out
  have hne : g3 + 1 < g7 ∧ g7 < c1 := by omega
  have rx3 := HX.out.keep bW3
  have k33 : W3.heap[g3]? = some (.cells #[.pointer (some ⟨g, 0, none⟩)] 74 (0, 0)) := by
    have h1 := K3.out
    rw [s3] at h1
    exact Below.blk b3 (Below.blk B2.out h1 (lt_of_block h1)) (by have := lt_of_block h1; have := B2.out.size; omega)
  have k53 : W3.heap[g3 + 1]? = some (.cells #[.int .i64 tick] 2 (0, 0)) := by
    have h1 := K5.out
    rw [s3] at h1
    exact Below.blk b3 (Below.blk B2.out h1 (lt_of_block h1)) (by have := lt_of_block h1; have := B2.out.size; omega)
  have k73 := Below.blk b3 K7.out (lt_of_block K7.out)
  have I0 : TeI B g be ce bs cs rw' rc s x tick g3 (g3 + 1) g7 c1 (c1 + 1) w.heap.size [] none 0 w W3 :=
    ⟨by rw [tellS_nil]; exact rx3, k33, k53, k73, World.ownsRow_nil _ _ _ _, q1, q2, bW3.mono hB, bW3.size, fun k c U m hk _ => Below.blk bW3 hk (lt_of_block hk)⟩
  have hB3 : B ≤ W3.heap.size := Nat.le_trans hB bW3.size
  have hseq := others_seq c1 (c1 + 1) g be ce bs cs (rw' x) (rc x) s x W3 (I0.oth hx) hx ⟨HX.out.cap.1, HX.out.cap.2.1, HX.out.cap.2.2 x⟩ HX.out.n16.2
  have hn16 := HX.out.n16.2
  have hcap := HX.out.cap.1
  have hwg : w.heap.size ≤ g3 ∧ w.heap.size ≤ g7 ∧ w.heap.size ≤ c1 := by omega
  have HI0 := Lib.hid I0
  have HSEQ := Lib.hid hseq
  clear hc1 q1 q2 bW2 bW3 s1 s3 s7 l2 rx3 k33 k53 k73 I0 hseq b3 y3'
  go_wp2_with fail
  refine wp_rangeFunc_w (gf := 107) (lb := #[.pointer (some ⟨c1, 0, none⟩), .pointer (some ⟨c1 + 1, 0, none⟩)]) rfl (enters_of Try.func107 (by kernel_rfl) rfl) HSEQ.out (fun x => rfl) (fun k e => by cases e)
    (fun pre W => ∃ a c, TeI B g be ce bs cs rw' rc s x tick g3 (g3 + 1) g7 c1 (c1 + 1) w.heap.size pre a c w W ∧ B ≤ W.heap.size) (fun c _ W => False)
    (fun q A W ⟨a, c, i1, i2⟩ hb => ⟨a, c, i1.below hb.all i2, Nat.le_trans i2 hb.size⟩) (fun c q A W h hb => h)
    (fun W hW => ⟨none, 0, HI0.out.below hW hB3, Nat.le_trans hB3 hW.size⟩) ?round ?done ?stop
  case round =>
    rintro l pre o W0 W hl ⟨va, vc, i1, i2⟩ hbut ⟨⟨suf, hsuf⟩, hbw⟩
    have j1 := i1.below hbw i2
    have j2 := Nat.le_trans i2 hbw.size
    obtain ⟨hnew, hon, hdue⟩ := oth_new hsuf
    simp only [oEnc]
    have HJ := Lib.hid j1
    have HJ2 := Lib.hid j2
    have HSUF := Lib.hid hsuf
    have HNEW := Lib.hid hnew
    have HDUE := Lib.hid hdue
    clear i1 i2 hbut hsuf hbw j1 hnew hdue j2
    gi_wp2_with fail
    refine ⟨KeepsOthers.refl _, fun W3 ht => ?_⟩
    have m1 := HJ.out.turned ht hB3
    have sz3 : Hid (B ≤ W3.heap.size) := Lib.hid (by rw [ht.size]; exact HJ2.out)
    have M1 := Lib.hid m1
    have HT3 := Lib.hid ht
    have x3 : W3.cell? ⟨g3, 0, none⟩ = some (.pointer (some ⟨g, 0, none⟩)) := cell_blk m1.b3
    have x1 := m1.rx.g1
    obtain ⟨e0, e1, -⟩ := m1.rx.e_ (s := tellS s x tick pre) (j := o) hon
    obtain ⟨n, hn⟩ : ∃ n, s.n = n := ⟨_, rfl⟩
    have HN := Lib.hid hn
    change W3.cell? ⟨g, 1, none⟩ = some (.slice (some ⟨be, 0, none⟩) s.n ce) at x1
    change W3.cell? ⟨be, o * 2, none⟩ = some (.int .i64 (s.ve o)) at e0
    change W3.cell? ⟨be, o * 2 + 1, none⟩ = some (.string (s.tx o)) at e1
    obtain ⟨ve, hve⟩ : ∃ v, s.ve o = v := ⟨_, rfl⟩
    obtain ⟨tx, htx⟩ : ∃ v, s.tx o = v := ⟨_, rfl⟩
    rw [hn] at x1 hon hcap hn16
    rw [hve] at e0
    rw [htx] at e1
    have HVE := Lib.hid hve
    have HTX := Lib.hid htx
    have hoi : (o : Int) < n := by omega
    clear m1 ht hn hve htx
    gi_wp2_with fail
    generalize hV : World.alloc W3 _ = V
    have BV : Hid (Below W3.heap.size W3 V) := Lib.hid (by rw [← hV]; exact (Below.refl _ _).alloc (Nat.le_refl _) _)
    have KV : Hid (KeepsOthers W3 V) := Lib.hid (by rw [← hV]; exact KeepsOthers.alloc _ _)
    have x10 : V.heap[W3.heap.size]? = some (.cells #[.int .i64 ve, .string tx] 148 (0, 0)) := by rw [← hV]; exact alloc_blk_new
    obtain ⟨g10, hg10⟩ : ∃ g10, W3.heap.size = g10 := ⟨_, rfl⟩
    rw [hg10] at x10 ⊢
    have X10 := Lib.hid x10
    have V1 := Lib.hid (M1.out.below BV.out sz3.out)
    clear hV hg10 x10 x3 x1 e0 e1
    have hxn : x < s.n := hx
    have hon2 : o < s.n := by rw [HN.out]; exact hon
    obtain ⟨-, r1, r2, -⟩ := V1.out.rx.r_ (s := tellS s x tick pre) (i := x) (j := o) hxn hon2
    rw [(tellS_old HNEW.out x).1] at r1
    rw [(tellS_old HNEW.out x).2] at r2
    have hbt := HTI.out o hon2
    obtain ⟨tdv, htd⟩ : ∃ v, s.td x o = v := ⟨_, rfl⟩
    obtain ⟨tiv, hti⟩ : ∃ v, s.ti x o = v := ⟨_, rfl⟩
    obtain ⟨p, hpp⟩ : ∃ v, s.p = v := ⟨_, rfl⟩
    rw [htd] at r1
    rw [hti] at r2 hbt
    have HTD : Hid (toldB s x tick o = !(decide (tdv = ve) && decide (tick - tiv < p))) := Lib.hid (by unfold toldB; rw [htd, hti, HVE.out, hpp])
    have HPP := Lib.hid hpp
    rw [hpp] at hp
    obtain ⟨rb, hrb⟩ : ∃ r, rw' x = r := ⟨_, rfl⟩
    have HRB := Lib.hid hrb
    rw [hrb] at r1 r2 ⊢
    have hne : Nonempty { w' : World // Below V.heap.size V w' } := ⟨⟨_, Below.refl _ _⟩⟩
    have q10 : V.cell? ⟨g10, 0, none⟩ = some (.int .i64 ve) := cell_blk X10.out
    have q5 : V.cell? ⟨g3 + 1, 0, none⟩ = some (.int .i64 tick) := cell_blk V1.out.b5
    have q3 : V.cell? ⟨g3, 0, none⟩ = some (.pointer (some ⟨g, 0, none⟩)) := cell_blk V1.out.b3
    have q0 : V.cell? ⟨g, 0, none⟩ = some (.int .i64 p) := by rw [← hpp]; exact V1.out.rx.g0
    have z1 : ∀ z : { w' : World // Below V.heap.size V w' }, z.1.cell? ⟨rb, o * 3 + 1, none⟩ = some (.int .i64 tdv) := fun z => cell_keep z.2 r1
    have z2 : ∀ z : { w' : World // Below V.heap.size V w' }, z.1.cell? ⟨rb, o * 3 + 2, none⟩ = some (.int .i64 tiv) := fun z => cell_keep z.2 r2
    have z10 : ∀ z : { w' : World // Below V.heap.size V w' }, z.1.cell? ⟨g10, 0, none⟩ = some (.int .i64 ve) := fun z => cell_keep z.2 q10
    have z5 : ∀ z : { w' : World // Below V.heap.size V w' }, z.1.cell? ⟨g3 + 1, 0, none⟩ = some (.int .i64 tick) := fun z => cell_keep z.2 q5
    have z3 : ∀ z : { w' : World // Below V.heap.size V w' }, z.1.cell? ⟨g3, 0, none⟩ = some (.pointer (some ⟨g, 0, none⟩)) := fun z => cell_keep z.2 q3
    have z0 : ∀ z : { w' : World // Below V.heap.size V w' }, z.1.cell? ⟨g, 0, none⟩ = some (.int .i64 p) := fun z => cell_keep z.2 q0
    have wt : IntKind.i64.wrap (tick - tiv) = tick - tiv := IntWalk.i64_in _ (by omega)
    clear htd hti hpp hrb r1 r2 q10 q5 q3 q0 hbt
    by_cases hA : tdv = ve
    · have t1 : (tdv == ve) = true := by simpa using hA
      have t2 : (tdv = ve) = True := eq_true hA
      by_cases hB2 : tick - tiv < p
      · have t3 : (tick - tiv < p) = True := eq_true hB2
        have HSK : Hid (toldB s x tick o = false) := Lib.hid (by rw [HTD.out]; simp [hA, hB2])
        clear hA hB2
        refine MixC.wpIn_region_mix (MixC.WideF.round l) [] (Below V.heap.size V) (Below.refl _ _).drew (by kernel_rfl) (by kernel_rfl) (by kernel_rfl) (by kernel_rfl) ?_
        (iterate 20 (refine MixC.mix_read rfl (fun K hK => ?_); go_simp; refine hK _ ?_; clear hK K))
        refine MixC.mix_nil ?_
        gi_wp2_with fail
        have bd : Below V.heap.size V V.drew := (Below.refl _ _).drew
        have i3 := (V1.out.below bd (Nat.le_trans sz3.out BV.out.size)).skip HSK.out
        refine ⟨KV.out.trans (Below.others bd), fun W4 ht4 => ?_⟩
        have i4 := i3.turned ht4 hB3
        exact ⟨i4.oth hxn, va, vc, i4, by rw [ht4.size]; exact Nat.le_trans sz3.out BV.out.size⟩
      · have t3 : (tick - tiv < p) = False := eq_false hB2
        have HSK : Hid (toldB s x tick o = true) := Lib.hid (by rw [HTD.out]; simp [hB2])
        clear hA hB2
        refine MixC.wpIn_region_mix (MixC.WideF.round l) [] (Below V.heap.size V) (Below.refl _ _).drew (by kernel_rfl) (by kernel_rfl) (by kernel_rfl) (by kernel_rfl) ?_
        (iterate 20 (refine MixC.mix_read rfl (fun K hK => ?_); go_simp; refine hK _ ?_; clear hK K))
        refine MixC.mix_nil ?_
        clear z0 z1 z2 z3 z5 z10 hne t1 t2 t3 wt
        obtain ⟨V2, hV2⟩ : ∃ V2, V.drew = V2 := ⟨_, rfl⟩
        rw [hV2]
        have bd : Below V.heap.size V V2 := by rw [← hV2]; exact (Below.refl _ _).drew
        have V3 := Lib.hid (V1.out.below bd (Nat.le_trans sz3.out BV.out.size))
        have X12 := Lib.hid (Below.blk bd X10.out (lt_of_block X10.out))
        have BD := Lib.hid bd
        clear hV2 bd
        gi_wp2_with fail
        have C0 : Hid (Has [(g10, .cells #[.int .i64 ve, .string tx] 148 (0, 0)), (g3 + 1, .cells #[.int .i64 tick] 2 (0, 0))] V2.drew) := Lib.hid (fun y hy => by
          simp only [List.mem_cons, List.not_mem_nil, or_false] at hy
          rcases hy with rfl | rfl
          · exact X12.out
          · exact V3.out.b5)
        have hne : Nonempty { w' : World // Has [(g10, .cells #[.int .i64 ve, .string tx] 148 (0, 0)), (g3 + 1, .cells #[.int .i64 tick] 2 (0, 0))] w' } := ⟨⟨_, C0.out⟩⟩
        have z10 : ∀ z : { w' : World // Has [(g10, .cells #[.int .i64 ve, .string tx] 148 (0, 0)), (g3 + 1, .cells #[.int .i64 tick] 2 (0, 0))] w' }, z.1.cell? ⟨g10, 0, none⟩ = some (.int .i64 ve) := fun z => cell_blk (z.2 (g10, .cells #[.int .i64 ve, .string tx] 148 (0, 0)) (by simp))
        have z5 : ∀ z : { w' : World // Has [(g10, .cells #[.int .i64 ve, .string tx] 148 (0, 0)), (g3 + 1, .cells #[.int .i64 tick] 2 (0, 0))] w' }, z.1.cell? ⟨g3 + 1, 0, none⟩ = some (.int .i64 tick) := fun z => cell_blk (z.2 (g3 + 1, .cells #[.int .i64 tick] 2 (0, 0)) (by simp))
        have hR := V3.out.rx.r_ (s := tellS s x tick pre) (i := x) (j := o) hxn hon2
        obtain ⟨-, r1, r2, rf⟩ := hR
        obtain ⟨c7, e7, -⟩ := V3.out.rx.rb x hxn
        have hY0 := V3.out.mark hxn hon2 HSK.out rfl
        rw [HRB.out] at r1 r2 rf e7
        have y1 : V2.drew.cell? ⟨rb, o * 3 + 1, none⟩ = some (.int .i64 ((tellS s x tick pre).td x o)) := r1
        have y2 : V2.drew.frozen? ⟨rb, o * 3 + 1, none⟩ = false := rf _
        obtain ⟨Y1, hY1⟩ : ∃ Y1, V2.drew.setCell ⟨rb, o * 3 + 1, none⟩ (.int .i64 ve) = Y1 := ⟨_, rfl⟩
        have e71 : Y1.heap[rb]? = some (.cells (c7.setIfInBounds (o * 3 + 1) (.int .i64 ve)) 154 (0, 0)) := by rw [← hY1]; exact set_blk _ e7
        have y3 : Y1.cell? ⟨rb, o * 3 + 2, none⟩ = some (.int .i64 ((tellS s x tick pre).ti x o)) := by
          rw [cell_blk e71, Array.getElem?_setIfInBounds_ne (by omega), ← cell_blk e7]
          exact r2
        have y4 : Y1.frozen? ⟨rb, o * 3 + 2, none⟩ = false := free_blk e71
        have bt1 : TyB 154 V2 Y1 := by rw [← hY1]; exact TyB.trans (TyB.below (Below.refl _ _).drew) (TyB.set (w := V2.drew) e7 _)
        have C1 : Hid (Has [(g10, .cells #[.int .i64 ve, .string tx] 148 (0, 0)), (g3 + 1, .cells #[.int .i64 tick] 2 (0, 0))] Y1) := Lib.hid (fun y hy => by
          simp only [List.mem_cons, List.not_mem_nil, or_false] at hy
          rcases hy with rfl | rfl
          · exact bt1 _ _ _ _ X12.out (by decide)
          · exact bt1 _ _ _ _ V3.out.b5 (by decide))
        obtain ⟨Y2, hY2⟩ : ∃ Y2, Y1.setCell ⟨rb, o * 3 + 2, none⟩ (.int .i64 tick) = Y2 := ⟨_, rfl⟩
        have bt2 : TyB 154 V2 Y2 := bt1.trans (by rw [← hY2]; exact TyB.set e71 _)
        have C2 : Hid (Has [(g10, .cells #[.int .i64 ve, .string tx] 148 (0, 0)), (g3 + 1, .cells #[.int .i64 tick] 2 (0, 0))] Y2) := Lib.hid (fun y hy => by
          simp only [List.mem_cons, List.not_mem_nil, or_false] at hy
          rcases hy with rfl | rfl
          · exact bt2 _ _ _ _ X12.out (by decide)
          · exact bt2 _ _ _ _ V3.out.b5 (by decide))
        have HY1 : Hid ((V2.setCell ⟨rb, o * 3 + 1, none⟩ (.int .i64 ve)).drew = Y1) := Lib.hid hY1
        have HY2 := Lib.hid hY2
        have HBT := Lib.hid bt2
        clear r1 r2 rf e7 e71 bt1 bt2 hY1 hY2 hY0
        refine MixC.wpIn_region_mix (MixC.WideF.round l) [7, 10] (Has [(g10, .cells #[.int .i64 ve, .string tx] 148 (0, 0)), (g3 + 1, .cells #[.int .i64 tick] 2 (0, 0))]) C0.out (by kernel_rfl) (by kernel_rfl) (by kernel_rfl) (by kernel_rfl) ?_
        (iterate 7 (refine MixC.mix_read rfl (fun K hK => ?_); go_simp; refine hK _ ?_; clear hK K))
        refine MixC.mix_move rfl (fun K hK => ?_)
        go_simp
        rw [HY1.out]
        refine ⟨C1.out, hK _ _ ?_⟩
        clear hK K y1 y2
        (iterate 2 (refine MixC.mix_read rfl (fun K hK => ?_); go_simp; refine hK _ ?_; clear hK K))
        refine MixC.mix_move rfl (fun K hK => ?_)
        go_simp
        rw [HY2.out]
        refine ⟨C2.out, hK _ _ ?_⟩
        clear hK K y3 y4
        refine MixC.mix_nil ?_
        change Exit.then _ _ _ _ Y2
        obtain ⟨rx5, tb5, bl5, sz5⟩ := (V3.out.below (Below.refl _ _).drew (Nat.le_trans (Nat.le_trans sz3.out BV.out.size) BD.out.size)).mark (Y := Y2) hxn hon2 HSK.out (by
          rw [HRB.out, HVE.out]
          show ((V2.setCell ⟨rb, o * 3 + 1, none⟩ (.int .i64 ve)).drew).setCell ⟨rb, o * 3 + 2, none⟩ (.int .i64 tick) = Y2
          rw [HY1.out]
          exact HY2.out)
        have row5 := tb5.own (own_below V3.out.row (Below.refl _ _).drew) (by decide)
        have hlm : (tellL s x tick pre).length ≤ 16 := by
          have h1 := List.length_filter_le (toldB s x tick) pre
          have h2 := othL_len s x
          rw [HSUF.out, List.length_append] at h2
          have h3 := HN.out
          show (pre.filter (toldB s x tick)).length ≤ 16
          omega
        have hszb : w.heap.size ≤ Y2.heap.size := by rw [sz5]; exact V3.out.sz
        obtain ⟨a9, c9, V5, A9, B9⟩ := app1 elNote row5 [.int .i64 o, .int .i64 ve, .string tx] rfl (by intro u hu; simp at hu; rcases hu with rfl | rfl | rfl <;> rfl) (by omega) (by omega) hszb
        have b7y : Y2.heap[g7]? = some (.cells #[.slice va (tellL s x tick pre).length vc] 80 (0, 0)) := HBT.out _ _ _ _ V3.out.b7 (by decide)
        have tn : TyB 83 Y2 V5 := TyB.but A9.but (own_blockT row5)
        have b7v := tn _ _ _ _ b7y (by decide)
        have ko5 : KeepsOthers V2 Y2 := by
          have k1 : KeepsOthers V2 Y1 := by rw [← HY1.out]; exact (KeepsOthers.setCell _ _ _).trans (KeepsOthers.drew _)
          rw [← HY2.out]
          exact k1.trans (KeepsOthers.setCell _ _ _)
        obtain ⟨Z, hZ⟩ : ∃ Z, V5.setCell ⟨g7, 0, none⟩ (.slice a9 ((tellL s x tick pre).length + 1) c9) = Z := ⟨_, rfl⟩
        obtain ⟨i5, ko⟩ := V3.out.take (o := o) (a9 := a9) (c9 := c9) (Y := Y2) (V := V5) (Z := Z) HSK.out rx5 (fun k cs U m hk hU => tb5 k cs U m hk hU) ((Below.refl B V2).drew.trans bl5) sz5 ko5 A9.but (by rw [HVE.out, HTX.out]; exact A9.own) B9 hZ hB (by omega) (Nat.le_refl _) hwg.2.1
        have I5 := Lib.hid i5
        have KO := Lib.hid ko
        have HZ := Lib.hid hZ
        have HA := Lib.hid A9.run
        have q7 : Y2.cell? ⟨g7, 0, none⟩ = some (.slice va (tellL s x tick pre).length vc) := cell_blk b7y
        have q10 : Y2.cell? ⟨g10, 0, none⟩ = some (.int .i64 ve) := cell_blk (C2.out (g10, .cells #[.int .i64 ve, .string tx] 148 (0, 0)) (by simp))
        have q11 : Y2.cell? ⟨g10, 1, none⟩ = some (.string tx) := cell_blk (C2.out (g10, .cells #[.int .i64 ve, .string tx] 148 (0, 0)) (by simp))
        have p7 : V5.cell? ⟨g7, 0, none⟩ = some (.slice va (tellL s x tick pre).length vc) := cell_blk b7v
        have p8 : V5.frozen? ⟨g7, 0, none⟩ = false := free_blk b7v
        obtain ⟨m, hm⟩ : ∃ m, (tellL s x tick pre).length = m := ⟨_, rfl⟩
        rw [hm] at q7 p7 hlm HA HZ
        have HM := Lib.hid hm
        clear rx5 tb5 bl5 sz5 row5 A9 B9 b7y tn b7v ko5 hZ i5 ko hm z10 z5 hne
        gi_wp2_with (gi_at_builtin; refine wpListIn_app rfl (.tmp 56) (.tmp 63) 80 rfl _ _ _ rfl rfl HA.out ?_)
        rw [HZ.out]
        refine ⟨(KV.out.trans (Below.others BD.out)).trans KO.out, fun W4 ht4 => ?_⟩
        have i4 := I5.out.turned ht4 hB3
        exact ⟨i4.oth hxn, a9, c9, i4, by rw [ht4.size]; have := I5.out.sz; omega⟩
    · have t1 : (tdv == ve) = false := by simpa using hA
      have t2 : (tdv = ve) = False := eq_false hA
      have HSK : Hid (toldB s x tick o = true) := Lib.hid (by rw [HTD.out]; simp [hA])
      clear hA
      refine MixC.wpIn_region_mix (MixC.WideF.round l) [] (Below V.heap.size V) (Below.refl _ _).drew (by kernel_rfl) (by kernel_rfl) (by kernel_rfl) (by kernel_rfl) ?_
      (iterate 20 (refine MixC.mix_read rfl (fun K hK => ?_); go_simp; refine hK _ ?_; clear hK K))
      refine MixC.mix_nil ?_
      clear z0 z1 z2 z3 z5 z10 hne t1 t2 wt
      obtain ⟨V2, hV2⟩ : ∃ V2, V.drew = V2 := ⟨_, rfl⟩
      rw [hV2]
      have bd : Below V.heap.size V V2 := by rw [← hV2]; exact (Below.refl _ _).drew
      have V3 := Lib.hid (V1.out.below bd (Nat.le_trans sz3.out BV.out.size))
      have X12 := Lib.hid (Below.blk bd X10.out (lt_of_block X10.out))
      have BD := Lib.hid bd
      clear hV2 bd
      gi_wp2_with fail
      have C0 : Hid (Has [(g10, .cells #[.int .i64 ve, .string tx] 148 (0, 0)), (g3 + 1, .cells #[.int .i64 tick] 2 (0, 0))] V2.drew) := Lib.hid (fun y hy => by
        simp only [List.mem_cons, List.not_mem_nil, or_false] at hy
        rcases hy with rfl | rfl
        · exact X12.out
        · exact V3.out.b5)
      have hne : Nonempty { w' : World // Has [(g10, .cells #[.int .i64 ve, .string tx] 148 (0, 0)), (g3 + 1, .cells #[.int .i64 tick] 2 (0, 0))] w' } := ⟨⟨_, C0.out⟩⟩
      have z10 : ∀ z : { w' : World // Has [(g10, .cells #[.int .i64 ve, .string tx] 148 (0, 0)), (g3 + 1, .cells #[.int .i64 tick] 2 (0, 0))] w' }, z.1.cell? ⟨g10, 0, none⟩ = some (.int .i64 ve) := fun z => cell_blk (z.2 (g10, .cells #[.int .i64 ve, .string tx] 148 (0, 0)) (by simp))
      have z5 : ∀ z : { w' : World // Has [(g10, .cells #[.int .i64 ve, .string tx] 148 (0, 0)), (g3 + 1, .cells #[.int .i64 tick] 2 (0, 0))] w' }, z.1.cell? ⟨g3 + 1, 0, none⟩ = some (.int .i64 tick) := fun z => cell_blk (z.2 (g3 + 1, .cells #[.int .i64 tick] 2 (0, 0)) (by simp))
      have hR := V3.out.rx.r_ (s := tellS s x tick pre) (i := x) (j := o) hxn hon2
      obtain ⟨-, r1, r2, rf⟩ := hR
      obtain ⟨c7, e7, -⟩ := V3.out.rx.rb x hxn
      have hY0 := V3.out.mark hxn hon2 HSK.out rfl
      rw [HRB.out] at r1 r2 rf e7
      have y1 : V2.drew.cell? ⟨rb, o * 3 + 1, none⟩ = some (.int .i64 ((tellS s x tick pre).td x o)) := r1
      have y2 : V2.drew.frozen? ⟨rb, o * 3 + 1, none⟩ = false := rf _
      obtain ⟨Y1, hY1⟩ : ∃ Y1, V2.drew.setCell ⟨rb, o * 3 + 1, none⟩ (.int .i64 ve) = Y1 := ⟨_, rfl⟩
      have e71 : Y1.heap[rb]? = some (.cells (c7.setIfInBounds (o * 3 + 1) (.int .i64 ve)) 154 (0, 0)) := by rw [← hY1]; exact set_blk _ e7
      have y3 : Y1.cell? ⟨rb, o * 3 + 2, none⟩ = some (.int .i64 ((tellS s x tick pre).ti x o)) := by
        rw [cell_blk e71, Array.getElem?_setIfInBounds_ne (by omega), ← cell_blk e7]
        exact r2
      have y4 : Y1.frozen? ⟨rb, o * 3 + 2, none⟩ = false := free_blk e71
      have bt1 : TyB 154 V2 Y1 := by rw [← hY1]; exact TyB.trans (TyB.below (Below.refl _ _).drew) (TyB.set (w := V2.drew) e7 _)
      have C1 : Hid (Has [(g10, .cells #[.int .i64 ve, .string tx] 148 (0, 0)), (g3 + 1, .cells #[.int .i64 tick] 2 (0, 0))] Y1) := Lib.hid (fun y hy => by
        simp only [List.mem_cons, List.not_mem_nil, or_false] at hy
        rcases hy with rfl | rfl
        · exact bt1 _ _ _ _ X12.out (by decide)
        · exact bt1 _ _ _ _ V3.out.b5 (by decide))
      obtain ⟨Y2, hY2⟩ : ∃ Y2, Y1.setCell ⟨rb, o * 3 + 2, none⟩ (.int .i64 tick) = Y2 := ⟨_, rfl⟩
      have bt2 : TyB 154 V2 Y2 := bt1.trans (by rw [← hY2]; exact TyB.set e71 _)
      have C2 : Hid (Has [(g10, .cells #[.int .i64 ve, .string tx] 148 (0, 0)), (g3 + 1, .cells #[.int .i64 tick] 2 (0, 0))] Y2) := Lib.hid (fun y hy => by
        simp only [List.mem_cons, List.not_mem_nil, or_false] at hy
        rcases hy with rfl | rfl
        · exact bt2 _ _ _ _ X12.out (by decide)
        · exact bt2 _ _ _ _ V3.out.b5 (by decide))
      have HY1 : Hid ((V2.setCell ⟨rb, o * 3 + 1, none⟩ (.int .i64 ve)).drew = Y1) := Lib.hid hY1
      have HY2 := Lib.hid hY2
      have HBT := Lib.hid bt2
      clear r1 r2 rf e7 e71 bt1 bt2 hY1 hY2 hY0
      refine MixC.wpIn_region_mix (MixC.WideF.round l) [7, 10] (Has [(g10, .cells #[.int .i64 ve, .string tx] 148 (0, 0)), (g3 + 1, .cells #[.int .i64 tick] 2 (0, 0))]) C0.out (by kernel_rfl) (by kernel_rfl) (by kernel_rfl) (by kernel_rfl) ?_
      (iterate 7 (refine MixC.mix_read rfl (fun K hK => ?_); go_simp; refine hK _ ?_; clear hK K))
      refine MixC.mix_move rfl (fun K hK => ?_)
      go_simp
      rw [HY1.out]
      refine ⟨C1.out, hK _ _ ?_⟩
      clear hK K y1 y2
      (iterate 2 (refine MixC.mix_read rfl (fun K hK => ?_); go_simp; refine hK _ ?_; clear hK K))
      refine MixC.mix_move rfl (fun K hK => ?_)
      go_simp
      rw [HY2.out]
      refine ⟨C2.out, hK _ _ ?_⟩
      clear hK K y3 y4
      refine MixC.mix_nil ?_
      change Exit.then _ _ _ _ Y2
      obtain ⟨rx5, tb5, bl5, sz5⟩ := (V3.out.below (Below.refl _ _).drew (Nat.le_trans (Nat.le_trans sz3.out BV.out.size) BD.out.size)).mark (Y := Y2) hxn hon2 HSK.out (by
        rw [HRB.out, HVE.out]
        show ((V2.setCell ⟨rb, o * 3 + 1, none⟩ (.int .i64 ve)).drew).setCell ⟨rb, o * 3 + 2, none⟩ (.int .i64 tick) = Y2
        rw [HY1.out]
        exact HY2.out)
      have row5 := tb5.own (own_below V3.out.row (Below.refl _ _).drew) (by decide)
      have hlm : (tellL s x tick pre).length ≤ 16 := by
        have h1 := List.length_filter_le (toldB s x tick) pre
        have h2 := othL_len s x
        rw [HSUF.out, List.length_append] at h2
        have h3 := HN.out
        show (pre.filter (toldB s x tick)).length ≤ 16
        omega
      have hszb : w.heap.size ≤ Y2.heap.size := by rw [sz5]; exact V3.out.sz
      obtain ⟨a9, c9, V5, A9, B9⟩ := app1 elNote row5 [.int .i64 o, .int .i64 ve, .string tx] rfl (by intro u hu; simp at hu; rcases hu with rfl | rfl | rfl <;> rfl) (by omega) (by omega) hszb
      have b7y : Y2.heap[g7]? = some (.cells #[.slice va (tellL s x tick pre).length vc] 80 (0, 0)) := HBT.out _ _ _ _ V3.out.b7 (by decide)
      have tn : TyB 83 Y2 V5 := TyB.but A9.but (own_blockT row5)
      have b7v := tn _ _ _ _ b7y (by decide)
      have ko5 : KeepsOthers V2 Y2 := by
        have k1 : KeepsOthers V2 Y1 := by rw [← HY1.out]; exact (KeepsOthers.setCell _ _ _).trans (KeepsOthers.drew _)
        rw [← HY2.out]
        exact k1.trans (KeepsOthers.setCell _ _ _)
      obtain ⟨Z, hZ⟩ : ∃ Z, V5.setCell ⟨g7, 0, none⟩ (.slice a9 ((tellL s x tick pre).length + 1) c9) = Z := ⟨_, rfl⟩
      obtain ⟨i5, ko⟩ := V3.out.take (o := o) (a9 := a9) (c9 := c9) (Y := Y2) (V := V5) (Z := Z) HSK.out rx5 (fun k cs U m hk hU => tb5 k cs U m hk hU) ((Below.refl B V2).drew.trans bl5) sz5 ko5 A9.but (by rw [HVE.out, HTX.out]; exact A9.own) B9 hZ hB (by omega) (Nat.le_refl _) hwg.2.1
      have I5 := Lib.hid i5
      have KO := Lib.hid ko
      have HZ := Lib.hid hZ
      have HA := Lib.hid A9.run
      have q7 : Y2.cell? ⟨g7, 0, none⟩ = some (.slice va (tellL s x tick pre).length vc) := cell_blk b7y
      have q10 : Y2.cell? ⟨g10, 0, none⟩ = some (.int .i64 ve) := cell_blk (C2.out (g10, .cells #[.int .i64 ve, .string tx] 148 (0, 0)) (by simp))
      have q11 : Y2.cell? ⟨g10, 1, none⟩ = some (.string tx) := cell_blk (C2.out (g10, .cells #[.int .i64 ve, .string tx] 148 (0, 0)) (by simp))
      have p7 : V5.cell? ⟨g7, 0, none⟩ = some (.slice va (tellL s x tick pre).length vc) := cell_blk b7v
      have p8 : V5.frozen? ⟨g7, 0, none⟩ = false := free_blk b7v
      obtain ⟨m, hm⟩ : ∃ m, (tellL s x tick pre).length = m := ⟨_, rfl⟩
      rw [hm] at q7 p7 hlm HA HZ
      have HM := Lib.hid hm
      clear rx5 tb5 bl5 sz5 row5 A9 B9 b7y tn b7v ko5 hZ i5 ko hm z10 z5 hne
      gi_wp2_with (gi_at_builtin; refine wpListIn_app rfl (.tmp 56) (.tmp 63) 80 rfl _ _ _ rfl rfl HA.out ?_)
      rw [HZ.out]
      refine ⟨(KV.out.trans (Below.others BD.out)).trans KO.out, fun W4 ht4 => ?_⟩
      have i4 := I5.out.turned ht4 hB3
      exact ⟨i4.oth hxn, a9, c9, i4, by rw [ht4.size]; have := I5.out.sz; omega⟩
  case done =>
    rintro D xs W W' hD rfl ⟨va, vc, i1, i2⟩ ht hDd
    have i3 := i1.turned ht hB3
    have y0 : W'.cell? ⟨g7, 0, none⟩ = some (.slice va (tellL s x tick (othL s x)).length vc) := cell_blk i3.b7
    have I3 := Lib.hid i3
    clear i1 i2 ht i3
    go_wp2_with fail
    have i4 := I3.out.turned (Turned.put (.deferred none) hD hDd rfl) hB3
    refine leaves_mark hDd (v := .slice va (tellL s x tick (othL s x)).length vc) (by simp [results, Try.results43, go_sem]) ⟨va, vc, rfl, World.ownsRow.mono i4.row (Nat.zero_le _), ⟨be, ce, bs, cs, rw', rc, i4.rx⟩, i4.bl, i4.fr⟩
  case stop =>
    rintro D c pre W W' hD _ h _ _
    exact h.elim
end Go.Proofs.Ytihbceippcgfgaa
