/-
  What an argument's reading gives to a walk: of whatever type, over any program: each cell of each element, by index.
-/
import Derived.Test.YtkoplofcjbeicaaBase
namespace Go.Proofs.Ytkoplofcjbeicaa
open Go.RowKit Go.ChangeShapes Go.WideShapes Go.ChangeAt
set_option linter.unusedVariables false
set_option linter.unusedSimpArgs false

/-- The types of the cells of a value of type t, in order (structs and arrays laid flat). -/
def leaves (P : Program) : Nat → TypeId → Option (List TypeId)
  | 0, _ => none
  | n + 1, t =>
    match P.underlying t with
    | some (.struct fs) =>
      (fs.toList.foldl (fun acc f => acc.bind fun l => (leaves P n f.type).bind fun m => if f.offset = l.length ∧ m.length = P.cellsOf f.type then some (l ++ m) else none) (some [])).bind fun l => if l.length = P.cellsOf t then some l else none
    | some (.array k e) => (leaves P n e).bind fun m => if m.length = P.cellsOf e ∧ k * m.length = P.cellsOf t then some ((List.range k).flatMap fun _ => m) else none
    | some _ => if P.cellsOf t = 1 then some [t] else none
    | none => none

/-- What is known of one cell's value of type t. -/
def Reads (P : Program) (w : World) : Nat → TypeId → Value → Prop
  | 0, _, _ => True
  | n + 1, t, v =>
    match P.underlying t with
    | some .bool => ∃ b, v = .bool b
    | some (.int k) => ∃ m, v = .int k m ∧ (Lit.int k m).wf = true
    | some .string => ∃ s, v = .string s ∧ s.size ≤ maxLen
    | some (.slice e) => ∃ a len cap, v = .slice a len cap ∧ ∃ b off, (0 < cap * P.cellsOf e → a = some ⟨b, off, none⟩ ∧ b < w.heap.size) ∧ len ≤ cap ∧ cap ≤ maxLen ∧
        ∀ ts, leaves P n e = some ts → ts.length = P.cellsOf e → ∀ i, i < cap → ∀ j u, ts[j]? = some u → ∃ x, w.cell? ⟨b, off + (i * P.cellsOf e + j), none⟩ = some x ∧ Reads P w n u x
    | _ => True

theorem addr_add (b off n : Nat) : (⟨b, off, none⟩ : Addr).add n = ⟨b, off + n, none⟩ := by
  unfold Addr.add
  by_cases h : n = 0
  · subst h; rfl
  · simp [h]
theorem flat_len (mt : List TypeId) (k : Nat) : ((List.range k).flatMap fun _ => mt).length = k * mt.length := by
  induction k with
  | zero => simp
  | succ k ih => rw [List.range_succ, List.flatMap_append, List.length_append, ih, Nat.succ_mul]; simp
theorem flat_get (mt : List TypeId) (k j : Nat) (h : j < k * mt.length) : ((List.range k).flatMap fun _ => mt)[j]? = mt[j % mt.length]? := by
  induction k with
  | zero => simp at h
  | succ k ih =>
    rw [List.range_succ, List.flatMap_append]
    by_cases hjk : j < k * mt.length
    · rw [List.getElem?_append_left (by rw [flat_len]; exact hjk)]; exact ih hjk
    · rw [List.getElem?_append_right (by rw [flat_len]; omega), flat_len]
      have hlt : j - k * mt.length < mt.length := by rw [Nat.succ_mul] at h; omega
      have : j % mt.length = j - k * mt.length := by
        have h1 : j = (j - k * mt.length) + mt.length * k := by rw [Nat.mul_comm mt.length k]; omega
        have h2 : ((j - k * mt.length) + mt.length * k) % mt.length = j - k * mt.length := by rw [Nat.add_mul_mod_self_left, Nat.mod_eq_of_lt hlt]
        rw [← h2, ← h1]
      simp [this]

section
variable {H : Type} {enc : TypeId × Value → H} {P : Program} {w : World}

/-- Each cell of a value that is read, by its own type. -/
theorem leaves_read (n : Nat) : ∀ {t : TypeId} {ts : List TypeId} {fuel : Nat} {cs : List Value} {x : DataW H × List MemPlace}, leaves P n t = some ts → DataW.trod enc P w 0 (fun _ => true) true fuel t cs = some x →
    cs.length = ts.length ∧ ∀ (j : Nat) (u : TypeId), ts[j]? = some u → ∃ v m y, cs[j]? = some v ∧ DataW.trod enc P w 0 (fun _ => true) true m u [v] = some y := by
  induction n with
  | zero => intro t ts fuel cs x h _; simp [leaves] at h
  | succ n ih =>
    intro t ts fuel cs x h hx
    unfold leaves at h
    split at h
    · rename_i fs hu
      obtain ⟨xs, m, _, rfl, hl, hlen, hf⟩ := DataW.trod_struct hu hx
      rw [Option.bind_eq_some_iff] at h
      obtain ⟨l, hfold, hl2⟩ := h
      split at hl2
      case isFalse => cases hl2
      rename_i hll
      cases hl2
      refine ⟨by rw [hl, hll], ?_⟩
      -- the fold, field by field
      have key : ∀ (gs : List Field) (k : Nat) (acc l : List TypeId), (∀ (i : Nat) (f : Field), gs[i]? = some f → DataW.trod enc P w 0 (fun _ => true) true m f.type ((cs.drop f.offset).take (P.cellsOf f.type)) = xs[k + i]?) → k + gs.length = xs.length →
          gs.foldl (fun acc f => acc.bind fun l => (leaves P n f.type).bind fun m => if f.offset = l.length ∧ m.length = P.cellsOf f.type then some (l ++ m) else none) (some acc) = some l →
          (∀ (j : Nat) (u : TypeId), acc[j]? = some u → ∃ v m y, cs[j]? = some v ∧ DataW.trod enc P w 0 (fun _ => true) true m u [v] = some y) →
          ∀ (j : Nat) (u : TypeId), l[j]? = some u → ∃ v m y, cs[j]? = some v ∧ DataW.trod enc P w 0 (fun _ => true) true m u [v] = some y := by
        intro gs
        induction gs with
        | nil =>
          intro k acc l _ _ h hacc
          simp at h
          subst h
          exact hacc
        | cons f gs ihg =>
          intro k acc l hg hk h hacc
          have hnone : ∀ (gs : List Field), gs.foldl (fun (acc : Option (List TypeId)) f => acc.bind fun l => (leaves P n f.type).bind fun m => if f.offset = l.length ∧ m.length = P.cellsOf f.type then some (l ++ m) else none) none = none := by
            intro gs; induction gs with
            | nil => rfl
            | cons f gs ih => simpa using ih
          rw [List.foldl_cons] at h
          simp only [Option.bind_some] at h
          cases hm : leaves P n f.type with
          | none => rw [hm] at h; simp only [Option.bind_none] at h; rw [hnone] at h; cases h
          | some mt =>
            rw [hm] at h
            simp only [Option.bind_some] at h
            by_cases hc : f.offset = acc.length ∧ mt.length = P.cellsOf f.type
            · rw [if_pos hc] at h
              refine ihg (k + 1) (acc ++ mt) l (fun i g hgi => ?_) (by simp at hk; omega) h ?_
              · have := hg (i + 1) g (by simpa using hgi)
                rw [this]; congr 1; omega
              · intro j u hj
                by_cases hja : j < acc.length
                · rw [List.getElem?_append_left hja] at hj
                  exact hacc j u hj
                · rw [List.getElem?_append_right (by omega)] at hj
                  have h0 := hg 0 f (by simp)
                  rw [List.getElem?_eq_getElem (by simp at hk; omega)] at h0
                  obtain ⟨hlen2, hr⟩ := ih hm h0
                  obtain ⟨v, mm, y, hv, hy⟩ := hr _ u hj
                  refine ⟨v, mm, y, ?_, hy⟩
                  rw [List.getElem?_take] at hv
                  split at hv
                  · rw [List.getElem?_drop, hc.1] at hv
                    rw [← hv]; congr 1; omega
                  · cases hv
            · rw [if_neg hc] at h; rw [hnone] at h; cases h
      exact key fs.toList 0 [] _ (fun i f hf' => by rw [Nat.zero_add]; exact hf i f (by simpa using hf')) (by simp [hlen]) hfold (by simp)
    · rename_i k e hu
      rw [Option.bind_eq_some_iff] at h
      obtain ⟨mt, hm, h⟩ := h
      split at h
      case isFalse => cases h
      rename_i hc
      cases h
      obtain ⟨xs, m, _, rfl, hl, hlen, hf⟩ := DataW.trod_array hu hx
      refine ⟨by rw [hl, flat_len, hc.2], fun j u hj => ?_⟩
      have hjk : j < k * mt.length := by
        have := (List.getElem?_eq_some_iff.1 hj).1
        rwa [flat_len] at this
      rw [flat_get _ _ _ hjk] at hj
      have hml : 0 < mt.length := by
        rcases Nat.eq_zero_or_pos mt.length with h0 | h0
        · rw [h0] at hjk; simp at hjk
        · exact h0
      have hq : j / mt.length < k := Nat.div_lt_of_lt_mul (by rw [Nat.mul_comm]; exact hjk)
      have h0 := hf (j / mt.length) hq
      rw [List.getElem?_eq_getElem (by omega)] at h0
      obtain ⟨hlen2, hr⟩ := ih hm h0
      obtain ⟨v, mm, y, hv, hy⟩ := hr _ u hj
      refine ⟨v, mm, y, ?_, hy⟩
      rw [List.getElem?_take] at hv
      split at hv
      · rw [List.getElem?_drop, ← hc.1] at hv
        rw [← hv]; congr 1
        have := Nat.div_add_mod j mt.length
        rw [Nat.mul_comm] at this; omega
      · cases hv
    · split at h
      case isFalse => cases h
      rename_i hc
      cases h
      have hl : cs.length = 1 := by
        cases fuel with
        | zero => simp [DataW.trod] at hx
        | succ fuel =>
          unfold DataW.trod at hx
          split at hx <;> first | rfl | (cases hx; done) | simp_all
      match cs, hl with
      | [v], _ =>
        refine ⟨rfl, fun j u hj => ?_⟩
        have : j = 0 := by
          have := (List.getElem?_eq_some_iff.1 hj).1
          simpa using this
        subst this
        simp at hj
        subst hj
        exact ⟨v, fuel, x, rfl, hx⟩
    · cases h

/-- What a reading gives of a value of one cell. -/
theorem reads_of (n : Nat) : ∀ {t : TypeId} {v : Value} {fuel : Nat} {x : DataW H × List MemPlace}, DataW.trod enc P w 0 (fun _ => true) true fuel t [v] = some x → Reads P w n t v := by
  induction n with
  | zero => intros; trivial
  | succ n ih =>
    intro t v fuel x hx
    unfold Reads
    split
    · rename_i hu
      obtain ⟨b, hb, _⟩ := DataW.trod_bool hu hx
      simp at hb; exact ⟨b, hb⟩
    · rename_i k hu
      obtain ⟨m, hm, _, hw⟩ := DataW.trod_int hu hx
      simp at hm; exact ⟨m, hm, hw⟩
    · rename_i hu
      obtain ⟨s, hs, _, hw⟩ := DataW.trod_string hu hx
      simp at hs; exact ⟨s, hs, hw⟩
    · rename_i e hu
      rcases Deep.open_slice hu hx with ⟨hcs, _⟩ | ⟨a, len, cap, m, k, D, Pl, hcs, _, hl, hm, hmm, _, hel⟩
      · simp at hcs; subst hcs
        exact ⟨none, 0, 0, rfl, 0, 0, by omega, Nat.le_refl _, by unfold maxLen; omega, fun ts _ _ i hi => by omega⟩
      · simp at hcs; subst hcs
        simp at hmm; subst hmm
        obtain ⟨b, off, sp⟩ := a
        have hsp : 0 < m * P.cellsOf e → sp = none ∧ b < w.heap.size := by
          intro h0
          have hm0 : 0 < m := Nat.pos_of_mul_pos_right h0
          have hc0 : 0 < P.cellsOf e := Nat.pos_of_mul_pos_left h0
          obtain ⟨cs', h1, _⟩ := hel 0 hm0
          obtain ⟨_, hlen, hc⟩ := World.cells?_some h1
          have h2 := hc 0 hc0
          rw [List.getElem?_eq_getElem (by omega)] at h2
          have hs : sp = none := by simpa [Addr.add] using World.cell?_spot h2
          subst hs
          exact ⟨rfl, by simpa [Addr.add] using World.block_lt_of_cell? _ _ h2⟩
        refine ⟨_, len, m, rfl, b, off, fun h0 => ?_, hl, hm, fun ts hts htl i hi j u hj => ?_⟩
        · obtain ⟨rfl, h⟩ := hsp h0; exact ⟨rfl, h⟩
        · obtain ⟨cs', h1, h2⟩ := hel i hi
          obtain ⟨hlen, hr⟩ := leaves_read n hts h2
          obtain ⟨y, mm, z, hy, hz⟩ := hr j u hj
          obtain ⟨_, hlen', hc⟩ := World.cells?_some h1
          have hjl : j < ts.length := (List.getElem?_eq_some_iff.1 hj).1
          have h0 : 0 < m * P.cellsOf e := Nat.mul_pos (by omega) (by omega)
          obtain ⟨rfl, _⟩ := hsp h0
          refine ⟨y, ?_, ih hz⟩
          rw [← hy, ← hc j (by omega)]
          rw [addr_add, addr_add, Nat.add_assoc]
    · trivial
end

section
variable {P : Program} {w : World}
theorem reads_bool {n : Nat} {t : TypeId} {v : Value} (hu : P.underlying t = some .bool) (h : Reads P w (n + 1) t v) : ∃ b, v = .bool b := by
  unfold Reads at h; rw [hu] at h; exact h
theorem reads_int {n : Nat} {t : TypeId} {v : Value} {k : IntKind} (hu : P.underlying t = some (.int k)) (h : Reads P w (n + 1) t v) : ∃ m, v = .int k m ∧ (Lit.int k m).wf = true := by
  unfold Reads at h; rw [hu] at h; exact h
theorem reads_string {n : Nat} {t : TypeId} {v : Value} (hu : P.underlying t = some .string) (h : Reads P w (n + 1) t v) : ∃ s, v = .string s ∧ s.size ≤ maxLen := by
  unfold Reads at h; rw [hu] at h; exact h

/-- A slice, at every index: 'V i j': cell j of element i. -/
structure Row (P : Program) (w : World) (n : Nat) (ts : List TypeId) (b off len cap : Nat) (a : Option Addr) (V : Nat → Nat → Value) : Prop where
  addr : 0 < cap → a = some ⟨b, off, none⟩ ∧ b < w.heap.size
  le : len ≤ cap
  max : cap ≤ maxLen
  cell : ∀ i, i < cap → ∀ j, j < ts.length → w.cell? ⟨b, off + (i * ts.length + j), none⟩ = some (V i j)
  read : ∀ i, i < cap → ∀ j u, ts[j]? = some u → Reads P w n u (V i j)

theorem reads_slice {n : Nat} {t e : TypeId} {v : Value} {ts : List TypeId} (hu : P.underlying t = some (.slice e)) (hl : leaves P n e = some ts) (hc : ts.length = P.cellsOf e) (hp : 0 < ts.length) (h : Reads P w (n + 1) t v) :
    ∃ a len cap b off V, v = .slice a len cap ∧ Row P w n ts b off len cap a V := by
  unfold Reads at h
  rw [hu] at h
  obtain ⟨a, len, cap, rfl, b, off, h0, hle, hm, hx⟩ := h
  have hx' := hx ts hl hc
  obtain ⟨V, hV⟩ := Deep.choose_lt (α := Nat → Value) (n := cap) (p := fun i f => ∀ j u, ts[j]? = some u → w.cell? ⟨b, off + (i * P.cellsOf e + j), none⟩ = some (f j) ∧ Reads P w n u (f j)) (fun i hi => by
    obtain ⟨f, hf⟩ := Deep.choose_lt (α := Value) (n := ts.length) (p := fun j x => ∀ u, ts[j]? = some u → w.cell? ⟨b, off + (i * P.cellsOf e + j), none⟩ = some x ∧ Reads P w n u x) (fun j hj => by
      obtain ⟨x, h1, h2⟩ := hx' i hi j ts[j] (List.getElem?_eq_getElem hj)
      refine ⟨x, fun u hu' => ?_⟩
      rw [List.getElem?_eq_getElem hj] at hu'
      cases hu'
      exact ⟨h1, h2⟩)
    exact ⟨f, fun j u hj => hf j (List.getElem?_eq_some_iff.1 hj).1 u hj⟩)
  refine ⟨a, len, cap, b, off, V, rfl, fun hc0 => h0 (by rw [← hc]; exact Nat.mul_pos hc0 hp), hle, hm, fun i hi j hj => ?_, fun i hi j u hj => (hV i hi j u hj).2⟩
  rw [hc]
  exact (hV i hi j ts[j] (List.getElem?_eq_getElem hj)).1
end

/-- A struct or an array by value: its cells. -/
def ArgS (P : Program) (w : World) (t : TypeId) (v : Value) : Prop :=
  ∃ cs : Array Value, v = .agg cs ∧ ∀ n ts, leaves P n t = some ts → cs.size = ts.length ∧ ∀ (j : Nat) (u : TypeId), ts[j]? = some u → ∃ x, cs[j]? = some x ∧ Reads P w 6 u x
theorem arg_struct {H : Type} {enc : TypeId × Value → H} {P : Program} {w : World} {r : Reach} {base : Nat} {t : TypeId} {v : Value} {d : DataW H} {ps : List MemPlace} {fs : Array Field} (hu : P.underlying t = some (.struct fs))
    (hv : Value.okWide P w r base t v) (h : DataW.Trod enc P w 0 (fun _ => true) true t v d ps) : ArgS P w t v := by
  obtain ⟨cs, rfl, _⟩ := okWide_struct hu hv
  obtain ⟨m, hm⟩ := h
  refine ⟨cs, rfl, fun n ts hl => ?_⟩
  obtain ⟨h1, h2⟩ := leaves_read n hl (show DataW.trod enc P w 0 (fun _ => true) true m t cs.toList = some (d, ps) from hm)
  refine ⟨by simpa using h1, fun j u hj => ?_⟩
  obtain ⟨x, m', y, hx, hy⟩ := h2 j u hj
  exact ⟨x, by simpa using hx, reads_of 6 hy⟩
theorem arg_slice {H : Type} {enc : TypeId × Value → H} {P : Program} {w : World} {r : Reach} {base : Nat} {t e : TypeId} {v : Value} {d : DataW H} {ps : List MemPlace} (hu : P.underlying t = some (.slice e))
    (hv : Value.okWide P w r base t v) (h : DataW.Trod enc P w 0 (fun _ => true) true t v d ps) : Reads P w 6 t v := by
  obtain ⟨a, len, cap, rfl⟩ := okWide_slice hu hv
  obtain ⟨m, hm⟩ := h
  exact reads_of 6 (show DataW.trod enc P w 0 (fun _ => true) true m t [.slice a len cap] = some (d, ps) from hm)
theorem ArgS.int {P : Program} {w : World} {n : Nat} {u : TypeId} {k : IntKind} {x : Value} (hu : P.underlying u = some (.int k)) (h : Reads P w (n + 1) u x) : ∃ m, x = .int k m ∧ (Lit.int k m).wf = true := reads_int hu h
theorem arr1 {cs : Array Value} {a0 : Value} (hl : cs.size = 1) (h0 : cs[0]? = some a0) : cs = #[a0] := by
  apply Array.ext
  · simpa using hl
  · intro i h1 h2
    have : i = 0 := by simp at h2; omega
    rcases this with rfl <;> simp_all
theorem arr2 {cs : Array Value} {a0 a1 : Value} (hl : cs.size = 2) (h0 : cs[0]? = some a0) (h1 : cs[1]? = some a1) : cs = #[a0, a1] := by
  apply Array.ext
  · simpa using hl
  · intro i h1 h2
    have : i = 0 ∨ i = 1 := by simp at h2; omega
    rcases this with rfl | rfl <;> simp_all
theorem arr3 {cs : Array Value} {a0 a1 a2 : Value} (hl : cs.size = 3) (h0 : cs[0]? = some a0) (h1 : cs[1]? = some a1) (h2 : cs[2]? = some a2) : cs = #[a0, a1, a2] := by
  apply Array.ext
  · simpa using hl
  · intro i h1 h2
    have : i = 0 ∨ i = 1 ∨ i = 2 := by simp at h2; omega
    rcases this with rfl | rfl | rfl <;> simp_all
theorem arr4 {cs : Array Value} {a0 a1 a2 a3 : Value} (hl : cs.size = 4) (h0 : cs[0]? = some a0) (h1 : cs[1]? = some a1) (h2 : cs[2]? = some a2) (h3 : cs[3]? = some a3) : cs = #[a0, a1, a2, a3] := by
  apply Array.ext
  · simpa using hl
  · intro i h1 h2
    have : i = 0 ∨ i = 1 ∨ i = 2 ∨ i = 3 := by simp at h2; omega
    rcases this with rfl | rfl | rfl | rfl <;> simp_all
theorem arr5 {cs : Array Value} {a0 a1 a2 a3 a4 : Value} (hl : cs.size = 5) (h0 : cs[0]? = some a0) (h1 : cs[1]? = some a1) (h2 : cs[2]? = some a2) (h3 : cs[3]? = some a3) (h4 : cs[4]? = some a4) : cs = #[a0, a1, a2, a3, a4] := by
  apply Array.ext
  · simpa using hl
  · intro i h1 h2
    have : i = 0 ∨ i = 1 ∨ i = 2 ∨ i = 3 ∨ i = 4 := by simp at h2; omega
    rcases this with rfl | rfl | rfl | rfl | rfl <;> simp_all
theorem arr6 {cs : Array Value} {a0 a1 a2 a3 a4 a5 : Value} (hl : cs.size = 6) (h0 : cs[0]? = some a0) (h1 : cs[1]? = some a1) (h2 : cs[2]? = some a2) (h3 : cs[3]? = some a3) (h4 : cs[4]? = some a4) (h5 : cs[5]? = some a5) : cs = #[a0, a1, a2, a3, a4, a5] := by
  apply Array.ext
  · simpa using hl
  · intro i h1 h2
    have : i = 0 ∨ i = 1 ∨ i = 2 ∨ i = 3 ∨ i = 4 ∨ i = 5 := by simp at h2; omega
    rcases this with rfl | rfl | rfl | rfl | rfl | rfl <;> simp_all
theorem arr7 {cs : Array Value} {a0 a1 a2 a3 a4 a5 a6 : Value} (hl : cs.size = 7) (h0 : cs[0]? = some a0) (h1 : cs[1]? = some a1) (h2 : cs[2]? = some a2) (h3 : cs[3]? = some a3) (h4 : cs[4]? = some a4) (h5 : cs[5]? = some a5) (h6 : cs[6]? = some a6) : cs = #[a0, a1, a2, a3, a4, a5, a6] := by
  apply Array.ext
  · simpa using hl
  · intro i h1 h2
    have : i = 0 ∨ i = 1 ∨ i = 2 ∨ i = 3 ∨ i = 4 ∨ i = 5 ∨ i = 6 := by simp at h2; omega
    rcases this with rfl | rfl | rfl | rfl | rfl | rfl | rfl <;> simp_all
theorem arr8 {cs : Array Value} {a0 a1 a2 a3 a4 a5 a6 a7 : Value} (hl : cs.size = 8) (h0 : cs[0]? = some a0) (h1 : cs[1]? = some a1) (h2 : cs[2]? = some a2) (h3 : cs[3]? = some a3) (h4 : cs[4]? = some a4) (h5 : cs[5]? = some a5) (h6 : cs[6]? = some a6) (h7 : cs[7]? = some a7) : cs = #[a0, a1, a2, a3, a4, a5, a6, a7] := by
  apply Array.ext
  · simpa using hl
  · intro i h1 h2
    have : i = 0 ∨ i = 1 ∨ i = 2 ∨ i = 3 ∨ i = 4 ∨ i = 5 ∨ i = 6 ∨ i = 7 := by simp at h2; omega
    rcases this with rfl | rfl | rfl | rfl | rfl | rfl | rfl | rfl <;> simp_all
attribute [irreducible] Reads
end Go.Proofs.Ytkoplofcjbeicaa
