/-
  Chapter 34: ops that came in; small laws on both tables.
-/
import Derived.Test.YtihbceippcgfgaaRtxQ
import Derived.Test.YtihbceippcgfgaaRtxR
namespace Go.Proofs.Ytihbceippcgfgaa
open Go.RowKit
set_option linter.unusedVariables false
set_option linter.unusedSimpArgs false
attribute [local irreducible] wpStill wpQuiet

structure Pop where
  kd : Int
  a : Int
  b : Int
  t : Int
  p : Pk
instance : Inhabited Pop := ⟨⟨0, 0, 0, 0, default⟩⟩
def Pop.cell (o : Pop) : Nat → Value
  | 0 => .int .u8 o.kd
  | 1 => .int .u32 o.a
  | 2 => .int .u32 o.b
  | 3 => .int .u8 o.t
  | j + 4 => o.p.cell j
structure PopOk (w : World) (o : Pop) : Prop where
  p : PkOk w o.p
  k0 : 0 ≤ o.kd
  k1 : o.kd ≤ 255
  a : (Lit.int .u32 o.a).wf = true
  b : (Lit.int .u32 o.b).wf = true
theorem pops_of {w : World} {v : Value} (h : Reads Try.prog w 6 60 v) : ∃ a len cap b off, ∃ Q : Nat → Pop, v = .slice a len cap ∧ (0 < cap → a = some ⟨b, off, none⟩ ∧ b < w.heap.size) ∧ len ≤ cap ∧ cap ≤ 9223372036854775807 ∧
    ∀ i, i < cap → (∀ j, j < 15 → w.cell? ⟨b, off + i * 15 + j, none⟩ = some ((Q i).cell j)) ∧ PopOk w (Q i) := by
  obtain ⟨a, len, cap, b, off, V, rfl, row⟩ := reads_slice Try.underlying60 (ts := [5, 41, 41, 5] ++ rtpLeaves) (by kernel_rfl) (by kernel_rfl) (by decide) h
  have hx : ∀ i, i < cap → ∃ o : Pop, (∀ j, j < 15 → V i j = o.cell j) ∧ PopOk w o := fun i hi => by
    obtain ⟨kd, e0, w0⟩ := reads_int Try.underlying5 (row.read i hi 0 _ rfl)
    obtain ⟨a, e1, w1⟩ := reads_int Try.underlying41 (row.read i hi 1 _ rfl)
    obtain ⟨b, e2, w2⟩ := reads_int Try.underlying41 (row.read i hi 2 _ rfl)
    obtain ⟨t, e3, w3⟩ := reads_int Try.underlying5 (row.read i hi 3 _ rfl)
    obtain ⟨p, hp, ok⟩ := pk_of (fun j => V i (j + 4)) (fun j u hj => row.read i hi (j + 4) u (by
      rw [List.getElem?_append_right (by simp)]
      simpa using hj))
    have b0 := bounds_u8 w0
    refine ⟨⟨kd, a, b, t, p⟩, fun j hj => ?_, ok, b0.1, b0.2, w1, w2⟩
    match j, hj with
    | 0, _ => exact e0
    | 1, _ => exact e1
    | 2, _ => exact e2
    | 3, _ => exact e3
    | j + 4, hj => exact hp j (by omega)
  obtain ⟨Q, hQ⟩ := Deep.choose_lt (n := cap) (α := Pop) (p := fun i o => (∀ j, j < 15 → V i j = o.cell j) ∧ PopOk w o) hx
  have hm := row.max
  unfold maxLen at hm
  refine ⟨a, len, cap, b, off, Q, rfl, row.addr, row.le, by omega, fun i hi => ⟨fun j hj => ?_, (hQ i hi).2⟩⟩
  have := row.cell i hi j (by show j < 15; exact hj)
  rw [(hQ i hi).1 j hj] at this
  rw [← this, show (([5, 41, 41, 5] : List TypeId) ++ rtpLeaves).length = 15 from rfl, Nat.add_assoc]
theorem PopOk.up {w w' : World} {o : Pop} (h : PopOk w o) (hb : Below w.heap.size w w') : PopOk w' o := ⟨h.p.up hb, h.k0, h.k1, h.a, h.b⟩

/-- a new block is none of the tables' -/
theorem Stt.box {w0 w W : World} {g bp bf gr : Nat} {av : List Nat} {n x : Nat} (h : Stt w0 w g bp bf gr av n) (hb : Below w.heap.size w W) (hx : w.heap.size ≤ x) (hlt : x < W.heap.size) : Stt w0 W g bp bf gr (x :: av) n := by
  obtain ⟨f1, f2, va, vb, vc, vd, cnt, A, B, T, N, S⟩ := h
  have S' := S.keep hb
  refine ⟨f1, f2, va, vb, vc, vd, cnt, A, B, T, N, ⟨S'.bl, S'.tab, ⟨S'.rt.blk, S'.rt.col, S'.rt.ap, fun j hj y hy => ?_, fun y hy => ?_, List.mem_cons_of_mem _ S'.rt.gm, S'.rt.gb⟩, S'.rel, S'.le, S'.pb, S'.fb, List.mem_cons_of_mem _ S'.mg, List.mem_cons_of_mem _ S'.mp, List.mem_cons_of_mem _ S'.mf, S'.n1, S'.n2, S'.n3⟩⟩
  · rcases List.mem_cons.1 hy with rfl | hy
    · intro e; have := ((S.rt.col j hj).lt _ e).2; omega
    · exact S'.rt.ng j hj y hy
  · rcases List.mem_cons.1 hy with rfl | hy
    · exact hlt
    · exact S'.rt.lt y hy
theorem Stt.unbox {w0 w : World} {g bp bf gr : Nat} {n x : Nat} (h : Stt w0 w g bp bf gr (x :: [gr, g, bp, bf]) n) : Stt w0 w g bp bf gr [gr, g, bp, bf] n := by
  obtain ⟨f1, f2, va, vb, vc, vd, cnt, A, B, T, N, S⟩ := h
  exact ⟨f1, f2, va, vb, vc, vd, cnt, A, B, T, N, ⟨S.bl, S.tab, ⟨S.rt.blk, S.rt.col, S.rt.ap, fun j hj y hy => S.rt.ng j hj y (List.mem_cons_of_mem _ hy), fun y hy => S.rt.lt y (List.mem_cons_of_mem _ hy), by simp, S.rt.gb⟩, S.rel, S.le, S.pb, S.fb, by simp, by simp, by simp, S.n1, S.n2, S.n3⟩⟩
/-- a number of the last row is written -/
theorem RT.setN {w : World} {base gr : Nat} {av : List Nat} {a b c : Value} {bn cn : Nat} {n : Nat} {A B T N : Nat → Int} (h : RT w base gr av a b c (.slice (some ⟨bn, 0, none⟩) n cn) n A B T N) (p : Nat) (hp : p < n) (z : Int) :
    RT (w.setCell ⟨bn, p, none⟩ (.int .u16 z)) base gr av a b c (.slice (some ⟨bn, 0, none⟩) n cn) n A B T (updN N p z) := by
  have hbn : ∀ j, j < 3 → (four a b c (.slice (some ⟨bn, 0, none⟩) n cn) j).ownBlock ≠ some bn := fun j hj e => h.ap j 3 (by omega) (by omega) (by omega) bn e rfl
  have hg : gr ≠ bn := fun e => h.ng 3 (by omega) gr h.gm (by rw [e]; rfl)
  refine ⟨by rw [set_blk_other _ hg]; exact h.blk, fun j hj => ?_, h.ap, h.ng, fun y hy => by have := h.lt y hy; simpa [World.setCell] using this, h.gm, h.gb⟩
  by_cases h3 : j = 3
  · subst h3
    obtain ⟨o1, o2⟩ := h.col 3 (by omega)
    have e1 : four a b c (.slice (some ⟨bn, 0, none⟩) n cn) 3 = .slice (some ⟨bn, 0, none⟩) n cn := rfl
    refine ⟨by simp [colOf], ?_⟩
    rcases o2 with ⟨o2, _⟩ | ⟨g, cap, cur, hv, hgb, hh, hn, hcap, hsz, htake⟩
    · rw [e1] at o2; cases o2
    · rw [e1] at hv
      have hgg : bn = g := by injection hv with h1; injection h1 with h1; injection h1
      subst hgg
      refine .inr ⟨bn, cap, cur.setIfInBounds p (.int .u16 z), by rw [e1]; exact hv, hgb, set_blk _ hh, hn, hcap, by rw [Array.size_setIfInBounds]; exact hsz, ?_⟩
      have ht : (cur.toList.take (n * 1)) = colOf .u16 N n := htake
      have : ((cur.setIfInBounds p (.int .u16 z)).toList.take (n * 1)) = colOf .u16 (updN N p z) n := by
        rw [Array.toList_setIfInBounds, List.take_set, ht]
        apply List.ext_getElem?
        intro i
        rw [List.getElem?_set]
        unfold colOf updN
        by_cases hi : i < n
        · by_cases hpi : p = i
          · subst hpi; simp [hi]
          · simp [hi, hpi, Ne.symm hpi]
        · by_cases hpi : p = i
          · omega
          · simp [hi, hpi]
      exact this
  · exact own_blk1 (show w.ownsRow base (cE j) 1 (four a b c (.slice (some ⟨bn, 0, none⟩) n cn) j) n (colOf (cK j) (fourL A B T (updN N p z) j) n) by
      have := h.col j hj
      have e : j = 0 ∨ j = 1 ∨ j = 2 := by omega
      rcases e with rfl | rfl | rfl <;> exact this) (fun k hk => set_blk_other _ (fun e => hbn j (by omega) (by rw [hk, e])))
end Go.Proofs.Ytihbceippcgfgaa
