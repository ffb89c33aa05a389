/-
  A map in memory as a function from keys to values: what a look-up, a store, a delete and len do to it. Over any program, any key's type, any elements.
-/
import Derived.Test.YtkoplofcjbeicaaBase
import Derived.Maps.OwnSet
import Derived.WideKeyEntry
namespace Go.Proofs.Ytkoplofcjbeicaa
open Go.RowKit
set_option linter.unusedVariables false
set_option linter.unusedSimpArgs false

/-- an element reads as itself -/
def RV (v : Value) : Option (DataW Value × List MemPlace) := some (.held v, [])
/-- how a type's values are keys: the values, as what they read, which of them may be -/
structure KeyT (P : Program) (K : TypeId) (α : Type) where
  law : Maps.Keyed P K
  kv : α → Value
  kl : α → Lit
  ok : α → Prop
  key : ∀ x, ok x → keyOf P K (kv x) = some (kl x)
  lit : ∀ x, WideAt.IsKeyLit (kl x)
  inj : ∀ x y, ok x → ok y → kl x = kl y → x = y
/-- integers as keys -/
def intKey {P : Program} {K : TypeId} {q : IntKind} (hu : P.underlying K = some (.int q)) : KeyT P K Int where
  law := Maps.int_keyed hu
  kv := fun x => .int q x
  kl := fun x => .int q x
  ok := fun x => (Lit.int q x).wf = true
  key := fun x hx => Maps.keyOf_int_mk hu hx
  lit := fun x => trivial
  inj := fun x y _ _ h => by injection h

section
variable {P : Program} {K : TypeId} {α : Type} {k : KeyT P K α}
/-- Block b of w is a map of sz entries (at most n) that has f x at the key x. -/
def MapI (k : KeyT P K α) (w : World) (b n : Nat) (f : α → Option Value) (sz : Nat) : Prop :=
  ∃ D : DataW Value, w.ownsMap P K RV b n D ∧ Maps.size D = sz ∧ ∀ x, k.ok x → Maps.has D (k.kl x) = (f x).isSome ∧ ∀ z, D.atKey (k.kl x) z = match f x with | some v => .held v | none => z
theorem MapI.lt {w : World} {b n : Nat} {f : α → Option Value} {sz : Nat} (h : MapI k w b n f sz) : b < w.heap.size := by obtain ⟨D, h, _⟩ := h; exact h.lt
theorem MapI.le {w : World} {b n : Nat} {f : α → Option Value} {sz : Nat} (h : MapI k w b n f sz) : sz ≤ n := by obtain ⟨D, h, rfl, _⟩ := h; exact h.size_le
theorem MapI.of_blk {w w' : World} {b n : Nat} {f : α → Option Value} {sz : Nat} (h : MapI k w b n f sz) (hb : w'.heap[b]? = w.heap[b]?) : MapI k w' b n f sz := by
  obtain ⟨D, ⟨es, c, h1, r⟩, r'⟩ := h
  exact ⟨D, ⟨es, c, hb.trans h1, r⟩, r'⟩
theorem MapI.mono {w : World} {b n n' : Nat} {f : α → Option Value} {sz : Nat} (h : MapI k w b n f sz) (hn : n ≤ n') : MapI k w b n' f sz := by
  obtain ⟨D, h, r⟩ := h; exact ⟨D, h.mono hn, r⟩
theorem MapI.made (w : World) : MapI k (w.alloc (.map #[] 0)) w.heap.size 0 (fun _ => none) 0 :=
  ⟨.map [], World.ownsMap_made w P K RV, rfl, fun x _ => ⟨rfl, fun z => rfl⟩⟩
theorem MapI.congr {w : World} {b n : Nat} {f g : α → Option Value} {sz : Nat} (h : MapI k w b n f sz) (hfg : ∀ x, k.ok x → g x = f x) : MapI k w b n g sz := by
  obtain ⟨D, h, h1, h2⟩ := h
  exact ⟨D, h, h1, fun x hx => by rw [hfg x hx]; exact h2 x hx⟩
/-- v, ok := m[x] -/
theorem MapI.look {w : World} {b n : Nat} {f : α → Option Value} {sz : Nat} (h : MapI k w b n f sz) {t e : TypeId} (ht : P.underlying t = some (.map K e)) {z : Value} (hz : (zeroValue e).run P w = .ok z w) (x : α) (hx : k.ok x) :
    (Instr.lookup t (.map (some b)) (k.kv x) true).run P w = .ok (.tuple #[(f x).getD z, .bool (f x).isSome]) w := by
  obtain ⟨D, h, _, h2⟩ := h
  obtain ⟨v, ps, hrun, hv⟩ := h.look_ok k.law ht hz (z := z) (zd := .held z) (zp := []) rfl (k.key x hx)
  rw [(h2 x hx).1] at hrun
  rw [hrun]
  have h3 := (h2 x hx).2 (.held z)
  rw [h3] at hv
  cases hf : f x with
  | none => rw [hf] at hv; simp [RV] at hv; rw [hv.1]; rfl
  | some u => rw [hf] at hv; simp [RV] at hv; rw [hv.1]; rfl
/-- m[x] -/
theorem MapI.look1 {w : World} {b n : Nat} {f : α → Option Value} {sz : Nat} (h : MapI k w b n f sz) {t e : TypeId} (ht : P.underlying t = some (.map K e)) {z : Value} (hz : (zeroValue e).run P w = .ok z w) (x : α) (hx : k.ok x) :
    (Instr.lookup t (.map (some b)) (k.kv x) false).run P w = .ok ((f x).getD z) w := by
  obtain ⟨D, h, _, h2⟩ := h
  obtain ⟨v, ps, hrun, hv⟩ := h.lookup k.law ht hz (z := z) (zd := .held z) (zp := []) rfl (k.key x hx)
  rw [hrun]
  have h3 := (h2 x hx).2 (.held z)
  rw [h3] at hv
  cases hf : f x with
  | none => rw [hf] at hv; simp [RV] at hv; rw [hv.1]; rfl
  | some u => rw [hf] at hv; simp [RV] at hv; rw [hv.1]; rfl
theorem MapI.len {w : World} {b n : Nat} {f : α → Option Value} {sz : Nat} (h : MapI k w b n f sz) {t e : TypeId} (ht : P.underlying t = some (.map K e)) (ty : TypeId) : (Builtin.len_ #[t] ty #[.map (some b)]).run P w = .ok (.int .i64 sz) w := by
  obtain ⟨D, h, rfl, _⟩ := h
  exact h.len ht ty
theorem keeps_of_grown {w w' : World} {b : Nat} (h : w.grownBy w' (some b)) : Keeps b w w' := ⟨h.os, h.tape, h.output, h.size, fun i hi hne => h.block i hi (fun e => hne (by cases e; rfl))⟩
/-- a nil map, looked up -/
theorem look_none {w : World} {t e : TypeId} (ht : P.underlying t = some (.map K e)) {z : Value} (hz : (zeroValue e).run P w = .ok z w) (x : α) (hx : k.ok x) : (Instr.lookup t (.map none) (k.kv x) true).run P w = .ok (.tuple #[z, .bool false]) w :=
  Maps.look_nil true k.law ht hz (k.key x hx)
variable [DecidableEq α]
def setAt (f : α → Option Value) (x : α) (v : Option Value) : α → Option Value := fun y => if y = x then v else f y
/-- m[x] = v -/
theorem MapI.store {w : World} {b n : Nat} {f : α → Option Value} {sz : Nat} (h : MapI k w b n f sz) {t e : TypeId} (ht : P.underlying t = some (.map K e)) (hn : n < maxLen) (x : α) (hx : k.ok x) (v : Value) :
    ∃ w', (Instr.mapUpdate t (.map (some b)) (k.kv x) v).run P w = .ok () w' ∧ MapI k w' b (n + 1) (setAt f x (some v)) (if (f x).isSome then sz else sz + 1) ∧ Keeps b w w' ∧ w'.heap.size = w.heap.size := by
  obtain ⟨D, h, hs, h2⟩ := h
  obtain ⟨w', hrun, ho, ht'⟩ := h.store k.law ht hn (k.key x hx) (val := v) (d := .held v) (ps := []) rfl
  have hsz : w'.heap.size = w.heap.size := by
    obtain ⟨es, c, es', c', _, rfl⟩ := ht'
    simp [ChangeMaps.setBlock]
  refine ⟨w', hrun, ⟨_, ho, ?_, fun y hy => ?_⟩, keeps_of_grown ht'.grown, hsz⟩
  · rw [Maps.size_put (h.tidy k.law), (h2 x hx).1, hs]
  · unfold setAt
    by_cases hyx : y = x
    · subst hyx
      rw [if_pos rfl]
      exact ⟨by rw [Maps.has_put_same h.isMap (k.lit y)]; rfl, fun z => Maps.atKey_put_same h.isMap (k.lit y) _ z⟩
    · rw [if_neg hyx]
      have hne : k.kl y ≠ k.kl x := fun e => hyx (k.inj y x hy hx e)
      exact ⟨by rw [Maps.has_put_other hne]; exact (h2 y hy).1, fun z => by rw [Maps.atKey_put_other hne]; exact (h2 y hy).2 z⟩
/-- delete(m, x) -/
theorem MapI.drop {w : World} {b n : Nat} {f : α → Option Value} {sz : Nat} (h : MapI k w b n f sz) {t e : TypeId} (ht : P.underlying t = some (.map K e)) (x : α) (hx : k.ok x) (ty : TypeId) :
    ∃ w', (Builtin.delete_ #[t, K] ty #[.map (some b), k.kv x]).run P w = .ok (.tuple #[]) w' ∧ MapI k w' b n (setAt f x none) (if (f x).isSome then sz - 1 else sz) ∧ Keeps b w w' ∧ w'.heap.size = w.heap.size := by
  obtain ⟨D, h, hs, h2⟩ := h
  obtain ⟨w', hrun, ho, ht'⟩ := h.drop k.law ht (k.key x hx) ty
  have hsz : w'.heap.size = w.heap.size := by
    obtain ⟨es, c, es', c', _, rfl⟩ := ht'
    simp [ChangeMaps.setBlock]
  refine ⟨w', hrun, ⟨_, ho, ?_, fun y hy => ?_⟩, keeps_of_grown ht'.grown, hsz⟩
  · have := Maps.size_del (k := k.kl x) (h.tidy k.law)
    rw [(h2 x hx).1, hs] at this
    cases hf : (f x).isSome <;> simp [hf] at this ⊢ <;> omega
  · unfold setAt
    by_cases hyx : y = x
    · subst hyx
      rw [if_pos rfl]
      exact ⟨by rw [Maps.has_del_same]; rfl, fun z => Maps.atKey_del_same z⟩
    · rw [if_neg hyx]
      have hne : k.kl y ≠ k.kl x := fun e => hyx (k.inj y x hy hx e)
      exact ⟨by rw [Maps.has_del_other hne]; exact (h2 y hy).1, fun z => by rw [Maps.atKey_del_other hne]; exact (h2 y hy).2 z⟩
/-- the two halves of m[x] = v in a tuple's assignment: the entry is laid, then stored into -/
theorem entry_store {R : Value → Option (DataW Value × List MemPlace)} {w : World} {b n : Nat} {D : DataW Value} (h : w.ownsMap P K R b n D) (L : Maps.Keyed P K) {t e : TypeId} (ht : P.underlying t = some (.map K e)) {z : Value} (hz : ∀ u : World, (zeroValue e).run P u = .ok z u) {key : Value} {kl : Lit} (hkey : keyOf P K key = some kl) :
    ∃ (v0 : Value) (st : Nat) (w1 : World), (Instr.mapEntry t (.map (some b)) key).run P w = .ok (.tuple #[v0, goInt st]) w1 ∧ Keeps b w w1 ∧ w1.heap.size = w.heap.size ∧
      ∀ (w2 : World) (val : Value), w2.heap[b]? = w1.heap[b]? → ∃ w3 w4, (Instr.entryStore t (.map (some b)) (goInt st) val).run P w2 = .ok () w3 ∧ Keeps b w2 w3 ∧ w3.heap.size = w2.heap.size ∧ (Instr.mapUpdate t (.map (some b)) key val).run P w = .ok () w4 ∧ w3.heap[b]? = w4.heap[b]? := by
  obtain ⟨es, clock, hb, F, _, _⟩ := h
  have kp : ∀ (u : World) es0 c0 o, u.heap[b]? = some (.map es0 c0) → Keeps b u (ChangeMaps.setBlock u b o) := fun u es0 c0 o hu => ⟨rfl, rfl, rfl, by simp [ChangeMaps.setBlock], fun i hi hne => ChangeMaps.heap_setBlock_other hu _ hne⟩
  have sz : ∀ (u : World) o, (ChangeMaps.setBlock u b o).heap.size = u.heap.size := fun u o => by simp [ChangeMaps.setBlock]
  obtain ⟨s1, s2, _⟩ := F.stamped
  rcases L.find w hkey es.toList F.keys with ⟨h1, h2⟩ | ⟨j, e0, h1, h2, h3⟩
  · have r1 : (Instr.mapEntry t (.map (some b)) key).run P w = .ok (.tuple #[z, goInt clock]) (ChangeMaps.setBlock w b (.map (es.push ⟨key, z, clock⟩) (clock + 1))) := by
      simp [Instr.mapEntry, run_underlying ht, MapKept.run_getObj_map hb, L.check w false hkey, h1, hz, MapKept.run_setObj_map _ hb, Result.andThen, ChangeMaps.setBlock]
    refine ⟨z, clock, _, r1, kp _ _ _ _ hb, sz _ _, fun w2 val hw2 => ?_⟩
    rw [ChangeMaps.heap_setBlock_same hb] at hw2
    have hidx : (es.push ⟨key, z, clock⟩).findIdx? (fun e => ((e.born : Nat) : Int) == ((clock : Nat) : Int)) = some es.size := by
      rw [WideElems.findIdx_arr]
      have := WideElems.findIdx_born (l := (es.push ⟨key, z, clock⟩).toList) (j := es.size) (e0 := ⟨key, z, clock⟩) (by
        simp only [Array.toList_push, List.map_append, List.map_cons, List.map_nil]
        refine List.nodup_append.2 ⟨s2, by simp, fun a ha c hc e1 => ?_⟩
        simp only [List.mem_singleton] at hc
        obtain ⟨x, hx, rfl⟩ := List.mem_map.1 ha
        have := s1 x hx
        omega) (by simp)
      exact this
    have hmod : (es.push ⟨key, z, clock⟩).modify es.size (fun e => { e with val := val }) = es.push ⟨key, val, clock⟩ := by
      apply Array.ext'
      rw [Array.toList_modify, Array.toList_push, Array.toList_push, ← Array.length_toList, WideElems.modify_last]
    have r2 : (Instr.entryStore t (.map (some b)) (goInt clock) val).run P w2 = .ok () (ChangeMaps.setBlock w2 b (.map (es.push ⟨key, val, clock⟩) (clock + 1))) := by
      simp [Instr.entryStore, MapKept.run_getObj_map hw2, asInt, asIntOf, goInt, hidx, hmod, MapKept.run_setObj_map _ hw2, Result.andThen, ChangeMaps.setBlock]
    have r3 : (Instr.mapUpdate t (.map (some b)) key val).run P w = .ok () (ChangeMaps.setBlock w b (.map (es.push ⟨key, val, clock⟩) (clock + 1))) := by
      simp [Instr.mapUpdate, run_underlying ht, MapKept.run_getObj_map hb, L.check w false hkey, h1, MapKept.run_setObj_map _ hb, Result.andThen, ChangeMaps.setBlock]
    exact ⟨_, _, r2, kp _ _ _ _ hw2, sz _ _, r3, by rw [ChangeMaps.heap_setBlock_same hw2, ChangeMaps.heap_setBlock_same hb]⟩
  · have hj : es[j]? = some e0 := by simpa using h2
    have hsame : es.modify j (fun e => { e with key := key }) = es := by
      apply Array.ext'
      rw [Array.toList_modify, ChangeMaps.modify_eq_set _ _ _ _ h2]
      have : ({ e0 with key := key } : MapEntry) = e0 := by rw [← h3]
      rw [this]
      exact WideElems.set_self _ _ _ h2
    have r1 : (Instr.mapEntry t (.map (some b)) key).run P w = .ok (.tuple #[e0.val, goInt e0.born]) (ChangeMaps.setBlock w b (.map es clock)) := by
      simp [Instr.mapEntry, run_underlying ht, MapKept.run_getObj_map hb, L.check w false hkey, h1, hj, h3, L.stays w hkey, hsame, MapKept.run_setObj_map _ hb, Result.andThen, ChangeMaps.setBlock]
    refine ⟨e0.val, e0.born, _, r1, kp _ _ _ _ hb, sz _ _, fun w2 val hw2 => ?_⟩
    rw [ChangeMaps.heap_setBlock_same hb] at hw2
    have hidx : es.findIdx? (fun e => ((e.born : Nat) : Int) == ((e0.born : Nat) : Int)) = some j := by
      rw [WideElems.findIdx_arr]
      exact WideElems.findIdx_born s2 h2
    have hmod : es.modify j (fun e => { e with val := val }) = es.modify j (fun e' => { e' with key := key, val := val }) := by
      apply Array.ext'
      rw [Array.toList_modify, Array.toList_modify, ChangeMaps.modify_eq_set _ _ _ _ h2, ChangeMaps.modify_eq_set _ _ _ _ h2, ← h3]
    have r2 : (Instr.entryStore t (.map (some b)) (goInt e0.born) val).run P w2 = .ok () (ChangeMaps.setBlock w2 b (.map (es.modify j (fun e' => { e' with key := key, val := val })) clock)) := by
      simp [Instr.entryStore, MapKept.run_getObj_map hw2, asInt, asIntOf, goInt, hidx, hmod, MapKept.run_setObj_map _ hw2, Result.andThen, ChangeMaps.setBlock]
    have r3 : (Instr.mapUpdate t (.map (some b)) key val).run P w = .ok () (ChangeMaps.setBlock w b (.map (es.modify j (fun e' => { e' with key := key, val := val })) clock)) := by
      simp [Instr.mapUpdate, run_underlying ht, MapKept.run_getObj_map hb, L.check w false hkey, h1, hj, h3, L.stays w hkey, MapKept.run_setObj_map _ hb, Result.andThen, ChangeMaps.setBlock]
    exact ⟨_, _, r2, kp _ _ _ _ hw2, sz _ _, r3, by rw [ChangeMaps.heap_setBlock_same hw2, ChangeMaps.heap_setBlock_same hb]⟩
theorem MapI.entry {w : World} {b n : Nat} {f : α → Option Value} {sz : Nat} (h : MapI k w b n f sz) {t e : TypeId} (ht : P.underlying t = some (.map K e)) {z : Value} (hz : ∀ u : World, (zeroValue e).run P u = .ok z u) (hn : n < maxLen) (x : α) (hx : k.ok x) :
    ∃ (v0 : Value) (st : Nat) (w1 : World), (Instr.mapEntry t (.map (some b)) (k.kv x)).run P w = .ok (.tuple #[v0, goInt st]) w1 ∧ Keeps b w w1 ∧ w1.heap.size = w.heap.size ∧
      ∀ (w2 : World) (val : Value), w2.heap[b]? = w1.heap[b]? → ∃ w3, (Instr.entryStore t (.map (some b)) (goInt st) val).run P w2 = .ok () w3 ∧ Keeps b w2 w3 ∧ w3.heap.size = w2.heap.size ∧ MapI k w3 b (n + 1) (setAt f x (some val)) (if (f x).isSome then sz else sz + 1) := by
  have h0 := h
  obtain ⟨D, hD, _⟩ := h
  obtain ⟨v0, st, w1, r1, k1, z1, next⟩ := entry_store hD k.law ht hz (k.key x hx)
  refine ⟨v0, st, w1, r1, k1, z1, fun w2 val hw2 => ?_⟩
  obtain ⟨w3, w4, r2, k2, z2, r3, hb⟩ := next w2 val hw2
  obtain ⟨w4', r4, hm, _⟩ := h0.store ht hn x hx val
  rw [r3] at r4
  cases r4
  exact ⟨w3, r2, k2, z2, hm.of_blk hb⟩
end
end Go.Proofs.Ytkoplofcjbeicaa
