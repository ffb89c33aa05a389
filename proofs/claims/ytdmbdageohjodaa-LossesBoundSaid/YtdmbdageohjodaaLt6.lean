/-
  Chapter 20: the reference's keeper: Ask, what stands between and behind its loops.
-/
import Derived.Test.YtdmbdageohjodaaLt4
namespace Go.Proofs.Ytdmbdageohjodaa
open Go.RowKit
set_option linter.unusedVariables false
set_option linter.unusedSimpArgs false

theorem us_u16 {w : World} {base n : Nat} {a : Option Addr} {c : Nat} {l : List Int} (h : w.ownsRow base 33 1 (.slice a n c) n (u16s l)) (hb : ∀ y ∈ l, 0 ≤ y ∧ y ≤ 65535) : n = l.length ∧ US w.heap.size w a n (gz l) := by
  have hl : n = l.length := by have := h.1; unfold u16s at this; rw [List.length_map] at this; omega
  refine ⟨hl, fun i hi => ?_, ?_⟩
  · unfold gz
    simp only [List.getD, List.getElem?_eq_getElem (by omega : i < l.length), Option.getD_some]
    exact hb _ (List.getElem_mem _)
  · rcases h.2 with ⟨hv, h0⟩ | ⟨g, cap, cur, hv, hg, hh, hn, _⟩
    · exact ⟨0, 0, fun h => by omega, fun i hi => by omega⟩
    · injection hv with e1 e2 e3
      subst e1
      refine ⟨g, 0, fun _ => ⟨rfl, lt_of_block hh⟩, fun i hi => ?_⟩
      rw [Nat.zero_add]
      refine own_cell h ?_
      unfold u16s gz
      rw [List.getElem?_map, List.getElem?_eq_getElem (by omega)]
      simp [show i < l.length by omega]
/-- its losses, asked of the row -/
theorem rloss_row {w : World} {base n : Nat} {a : Option Addr} {c : Nat} {l : List Int} (h : w.ownsRow base 33 1 (.slice a n c) n (u16s l)) (hb : ∀ y ∈ l, 0 ≤ y ∧ y ≤ 65535) (hn : n ≤ 100000) : Calls Try.prog 64 #[.slice a n c] w (LossPost (lossL l) w) := by
  obtain ⟨ul, us⟩ := us_u16 h hb
  have HL := rloss_any w.heap.size a n c _ w us (Nat.le_refl _) hn
  rw [ul, zs_gz] at HL
  rw [ul]
  exact HL
theorem get_at {P M : List Mis} {x : Nat} {y : Mis} (h : P.length = x) (hx : x < (P ++ y :: M).length) : (P ++ y :: M)[x]'hx = y := by
  subst h
  simp
/-- Tries turns -/
theorem RK.tT {B g : Nat} {pause high : Int} {P M : List Mis} {y : Mis} {x : Nat} {V : World} (h : RK B g pause high (P ++ y :: M) V) (hx : P.length = x) :
    ∃ bT cT n, V.cell? ⟨g, 3, none⟩ = some (.slice (some ⟨bT, 0, none⟩) n cT) ∧ x < n ∧ V.cell? ⟨bT, x, none⟩ = some (.int .i64 y.tr) ∧ V.frozen? ⟨bT, x, none⟩ = false ∧
      ∀ v, RK B g pause high (P ++ ⟨y.i, v, y.nx⟩ :: M) (V.setCell ⟨bT, x, none⟩ (.int .i64 v)) ∧ Below B V (V.setCell ⟨bT, x, none⟩ (.int .i64 v)) ∧ Ty rTs V (V.setCell ⟨bT, x, none⟩ (.int .i64 v)) := by
  have hl : x < (P ++ y :: M).length := by subst hx; simp
  obtain ⟨bI, cI, bN, cN, bT, cT, ⟨q2, q3, q4⟩, ⟨e1, e2, e3⟩, ⟨f1, f2⟩, t1, t2⟩ := h.get hl
  rw [get_at hx] at e1 e2 e3
  refine ⟨bT, cT, _, q3, hl, e3, f2, fun v => ?_⟩
  have := t1 v
  rw [get_at hx, set_at hx] at this
  exact this
/-- Next turns -/
theorem RK.tN {B g : Nat} {pause high : Int} {P M : List Mis} {y : Mis} {x : Nat} {V : World} (h : RK B g pause high (P ++ y :: M) V) (hx : P.length = x) :
    ∃ bN cN n, V.cell? ⟨g, 4, none⟩ = some (.slice (some ⟨bN, 0, none⟩) n cN) ∧ x < n ∧ V.cell? ⟨g, 0, none⟩ = some (.int .i64 pause) ∧ V.frozen? ⟨bN, x, none⟩ = false ∧ V.cell? ⟨bN, x, none⟩ = some (.int .i64 y.nx) ∧
      ∀ v, RK B g pause high (P ++ ⟨y.i, y.tr, v⟩ :: M) (V.setCell ⟨bN, x, none⟩ (.int .i64 v)) ∧ Below B V (V.setCell ⟨bN, x, none⟩ (.int .i64 v)) ∧ Ty rTs V (V.setCell ⟨bN, x, none⟩ (.int .i64 v)) := by
  have hl : x < (P ++ y :: M).length := by subst hx; simp
  obtain ⟨bI, cI, bN, cN, bT, cT, ⟨q2, q3, q4⟩, ⟨e1, e2, e3⟩, ⟨f1, f2⟩, t1, t2⟩ := h.get hl
  rw [get_at hx] at e2
  refine ⟨bN, cN, _, q4, hl, h.cells.1, f1, e2, fun v => ?_⟩
  have := t2 v
  rw [get_at hx, set_at hx] at this
  exact this
/-- behind loop 1 -/
structure RT (B g : Nat) (pause high tick : Int) (L M : List Mis) (m : Nat) (l : List Int) (al : Option Addr) (cl : Nat) (w V : World) : Prop where
  k : RK B g pause high M V
  eq : askM tick pause [] L = (M, l)
  bl : Below B w V
  ty : Ty rTs w V
  ln : m = l.length
  bd : ∀ y ∈ l, 0 ≤ y ∧ y ≤ 65535
  row : V.ownsRow w.heap.size 33 1 (.slice al m cl) m (u16s l)
theorem RA.rt {B g : Nat} {pause high tick : Int} {L : List Mis} {x m : Nat} {l : List Int} {al : Option Addr} {cl : Nat} {P : List Mis} {w wr : World} (h : RA B g pause high tick L x m l al cl P w wr) (he : askM tick pause [] L = (P ++ L.drop x, l)) : RT B g pause high tick L (P ++ L.drop x) m l al cl w wr :=
  ⟨h.k, he, h.bl, h.ty, h.ln, h.bd, h.row⟩
theorem RT.keep {B g : Nat} {pause high tick : Int} {L M : List Mis} {m : Nat} {l : List Int} {al : Option Addr} {cl : Nat} {w V V' : World} (h : RT B g pause high tick L M m l al cl w V) (hB : B ≤ w.heap.size) (hb : Below V.heap.size V V') : RT B g pause high tick L M m l al cl w V' :=
  ⟨h.k.keep hb, h.eq, h.bl.trans (hb.mono (Nat.le_trans hB h.bl.size)), h.ty.trans (Ty.below hb), h.ln, h.bd, own_below h.row hb⟩
def kp (m : Mis) : Bool := !decide (3 ≤ m.tr)
/-- in loop 2 -/
structure RZ (B g : Nat) (pause high : Int) (M : List Mis) (j m : Nat) (l : List Int) (al : Option Addr) (cl : Nat) (w V : World) : Prop where
  k : RK B g pause high (M.take j ++ (M.drop j).filter kp) V
  bl : Below B w V
  ty : Ty rTs w V
  row : V.ownsRow w.heap.size 33 1 (.slice al m cl) m (u16s l)
theorem RT.rz {B g : Nat} {pause high tick : Int} {L M : List Mis} {m : Nat} {l : List Int} {al : Option Addr} {cl : Nat} {w V : World} (h : RT B g pause high tick L M m l al cl w V) : RZ B g pause high M M.length m l al cl w V :=
  ⟨by rw [List.take_length, List.drop_length]; simpa using h.k, h.bl, h.ty, h.row⟩
theorem RZ.len {B g : Nat} {pause high : Int} {M : List Mis} {j m : Nat} {l : List Int} {al : Option Addr} {cl : Nat} {w V : World} (h : RZ B g pause high M j m l al cl w V) (hj : j ≤ M.length) : j ≤ (M.take j ++ (M.drop j).filter kp).length ∧ (M.take j ++ (M.drop j).filter kp).length ≤ M.length := by
  have h2 := List.length_filter_le kp (M.drop j)
  rw [List.length_drop] at h2
  rw [List.length_append, List.length_take, Nat.min_eq_left hj]
  omega
theorem take_split {M : List Mis} {i : Nat} (hi : i < M.length) : M.take (i + 1) ++ (M.drop (i + 1)).filter kp = M.take i ++ (M[i]'hi) :: (M.drop (i + 1)).filter kp := by
  rw [List.take_succ_eq_append_getElem hi, List.append_assoc]; rfl
theorem RZ.got {B g : Nat} {pause high : Int} {M : List Mis} {i m : Nat} {l : List Int} {al : Option Addr} {cl : Nat} {w V : World} (h : RZ B g pause high M (i + 1) m l al cl w V) (hi : i < M.length) :
    ∃ bT cT n, V.cell? ⟨g, 3, none⟩ = some (.slice (some ⟨bT, 0, none⟩) n cT) ∧ i < n ∧ V.cell? ⟨bT, i, none⟩ = some (.int .i64 (M[i]'hi).tr) := by
  have hk := h.k
  rw [take_split hi] at hk
  obtain ⟨bT, cT, n, a, b, c, -⟩ := hk.tT (x := i) (by rw [List.length_take]; omega)
  exact ⟨bT, cT, n, a, b, c⟩
theorem RZ.keep {B g : Nat} {pause high : Int} {M : List Mis} {i m : Nat} {l : List Int} {al : Option Addr} {cl : Nat} {w V : World} (h : RZ B g pause high M (i + 1) m l al cl w V) (hi : i < M.length) (ht : ¬ 3 ≤ (M[i]'hi).tr) : RZ B g pause high M i m l al cl w V := by
  refine ⟨?_, h.bl, h.ty, h.row⟩
  have hk := h.k
  rw [take_split hi] at hk
  rw [List.drop_eq_getElem_cons hi, List.filter_cons_of_pos (by unfold kp; simpa using ht)]
  exact hk
theorem RZ.del {B g : Nat} {pause high : Int} {M : List Mis} {i m : Nat} {l : List Int} {al : Option Addr} {cl : Nat} {w V V' : World} (h : RZ B g pause high M (i + 1) m l al cl w V) (hB : B ≤ w.heap.size) (hi : i < M.length) (ht : 3 ≤ (M[i]'hi).tr)
    (hk : RK B g pause high ((M.take (i + 1) ++ (M.drop (i + 1)).filter kp).eraseIdx i) V') (hb : But (some g) V V') : RZ B g pause high M i m l al cl w V' := by
  have hT : Ty rTs V V' := by
    obtain ⟨gB, aI, cI, aN, cN, aT, cT, h2, h3⟩ := h.k
    exact Ty.but hb (fun k e => by cases e; exact ⟨_, _, h2⟩) (by decide)
  refine ⟨?_, h.bl.trans (hb.below (Nat.le_trans hB h.bl.size) (fun k e => by cases e; exact h.k.gB)), h.ty.trans hT, hT.own h.row (by decide)⟩
  rw [take_split hi] at hk
  have hl : (M.take i).length = i := by rw [List.length_take]; omega
  rw [List.eraseIdx_append_of_length_le (by omega), hl, Nat.sub_self] at hk
  rw [List.drop_eq_getElem_cons hi, List.filter_cons_of_neg (by unfold kp; simpa using ht)]
  exact hk
/-- what it leaves -/
def RAskPost (B g : Nat) (pause high tick : Int) (L : List Mis) (w : World) (e : Ending) (w' : World) : Prop :=
  ∃ a' c', e = .returned (.slice a' (askO tick pause L).length c') ∧ w'.ownsRow w.heap.size 35 2 (.slice a' (askO tick pause L).length c') (askO tick pause L).length (lossV (askO tick pause L)) ∧
    RK B g pause high (askK tick pause L) w' ∧ Below B w w' ∧ Ty rTs w w'
theorem RZ.post {B g : Nat} {pause high tick : Int} {L M : List Mis} {m : Nat} {l : List Int} {al : Option Addr} {cl : Nat} {w V W : World} (h : RZ B g pause high M 0 m l al cl w V) (hB : B ≤ w.heap.size) (he : askM tick pause [] L = (M, l)) {a' : Option Addr} {c' : Nat}
    (ho : W.ownsRow V.heap.size 35 2 (.slice a' (lossL l).length c') (lossL l).length (lossV (lossL l))) (hb : Below V.heap.size V W) : RAskPost B g pause high tick L w (.returned (.slice a' (lossL l).length c')) W := by
  have e1 : askO tick pause L = lossL l := by unfold askO; rw [he]
  have e2 : askK tick pause L = M.filter kp := by unfold askK; rw [he]; rfl
  unfold RAskPost
  rw [e1, e2]
  refine ⟨a', c', rfl, World.ownsRow.mono ho h.bl.size, ?_, h.bl.trans (hb.mono (Nat.le_trans hB h.bl.size)), h.ty.trans (Ty.below hb)⟩
  have := h.k
  simp only [List.take_zero, List.nil_append, List.drop_zero] at this
  exact this.keep hb
end Go.Proofs.Ytdmbdageohjodaa
