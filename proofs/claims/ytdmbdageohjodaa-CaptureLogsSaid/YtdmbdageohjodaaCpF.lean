/-
  Chapter 45: where the records of a file lie: plain laws.
-/
import Derived.Test.YtdmbdageohjodaaCpE
namespace Go.Proofs.Ytdmbdageohjodaa
open Go.RowKit
set_option linter.unusedVariables false
set_option linter.unusedSimpArgs false

def shZ (Z : Nat → Int) (p : Nat) : Nat → Int := fun i => Z (p + i)
theorem shZ_sh (Z : Nat → Int) (p q : Nat) : shZ (shZ Z p) q = shZ Z (p + q) := by funext i; unfold shZ; rw [Nat.add_assoc]
theorem numv_sh (Z : Nat → Int) (p s k : Nat) : numv (shZ Z p) s k = numv Z (p + s) k := by
  induction k with
  | zero => rfl
  | succ k ih => unfold numv; rw [ih]; unfold shZ; rw [Nat.add_assoc]
def nxtP (Z : Nat → Int) (p : Nat) : Nat := p + (19 + rcM (shZ Z p))
def posP (Z : Nat → Int) (s : Nat) : Nat → Nat
  | 0 => s
  | k + 1 => nxtP Z (posP Z s k)
/-- the error at a place -/
def errP (Z : Nat → Int) (n p : Nat) : Int := oneE (shZ Z p) (n - p)
theorem errP_ok {Z : Nat → Int} {n p : Nat} (h : errP Z n p = 0) : nxtP Z p ≤ n := by
  unfold errP oneE at h
  split at h
  · cases h
  · rename_i h1
    unfold nxtP
    omega
theorem oneE_cases (Z : Nat → Int) (n : Nat) : oneE Z n = 0 ∨ oneE Z n = 2 ∨ oneE Z n = 3 ∨ oneE Z n = 4 := by
  unfold oneE
  split
  · exact .inr (.inl rfl)
  · split
    · exact .inr (.inr (.inl rfl))
    · split
      · exact .inr (.inr (.inr rfl))
      · exact .inl rfl
/-- K records, then the end, or an error -/
def StopP (Z : Nat → Int) (n s K : Nat) (E : Int) : Prop :=
  (∀ i, i < K → posP Z s i < n ∧ errP Z n (posP Z s i) = 0) ∧ ((posP Z s K = n ∧ E = 0) ∨ (posP Z s K < n ∧ E = errP Z n (posP Z s K) ∧ E ≠ 0))
theorem StopP.uniq {Z : Nat → Int} {n s K K' : Nat} {E E' : Int} (h : StopP Z n s K E) (h' : StopP Z n s K' E') : K = K' ∧ E = E' := by
  obtain ⟨a, b⟩ := h
  obtain ⟨a', b'⟩ := h'
  rcases Nat.lt_trichotomy K K' with hlt | heq | hlt
  · obtain ⟨x, y⟩ := a' K hlt
    rcases b with ⟨b, _⟩ | ⟨_, b, b2⟩
    · omega
    · exact absurd (b.trans y) b2
  · subst heq
    refine ⟨rfl, ?_⟩
    rcases b with ⟨b, e⟩ | ⟨b, e, _⟩ <;> rcases b' with ⟨b', e'⟩ | ⟨b', e', _⟩
    · rw [e, e']
    · omega
    · omega
    · rw [e, e']
  · obtain ⟨x, y⟩ := a K' hlt
    rcases b' with ⟨b, _⟩ | ⟨_, b, b2⟩
    · omega
    · exact absurd (b.trans y) b2
theorem posP_lt {Z : Nat → Int} {n s K : Nat} (h : ∀ i, i < K → posP Z s i < n ∧ errP Z n (posP Z s i) = 0) (hs : s ≤ n) : posP Z s K ≤ n ∧ s + 19 * K ≤ posP Z s K := by
  induction K with
  | zero => exact ⟨hs, by simp [posP]⟩
  | succ K ih =>
    have h1 := ih (fun i hi => h i (by omega))
    have h2 := errP_ok (h K (by omega)).2
    refine ⟨h2, ?_⟩
    show _ ≤ nxtP Z (posP Z s K)
    unfold nxtP
    omega
/-- the record at a place -/
def IsRc (Z : Nat → Int) (p : Nat) (r : Rcd) : Prop :=
  r.tk = numv Z p 8 ∧ r.wy = Z (p + 8) ∧ r.ad = numv Z (p + 9) 4 ∧ r.pt = numv Z (p + 13) 2 ∧ r.n = rcM (shZ Z p) ∧ ∀ x, x < r.n → r.Z x = Z (p + 17 + x)
/-- the same records, wherever their bytes lie -/
def EqvR (r s : Rcd) : Prop := r.tk = s.tk ∧ r.wy = s.wy ∧ r.ad = s.ad ∧ r.pt = s.pt ∧ r.n = s.n ∧ ∀ x, x < r.n → r.Z x = s.Z x
theorem IsRc.eqv {Z : Nat → Int} {p : Nat} {r s : Rcd} (h : IsRc Z p r) (k : IsRc Z p s) : EqvR r s := by
  obtain ⟨a, b, c, d, e, f⟩ := h
  obtain ⟨a', b', c', d', e', f'⟩ := k
  exact ⟨a.trans a'.symm, b.trans b'.symm, c.trans c'.symm, d.trans d'.symm, e.trans e'.symm, fun x hx => (f x hx).trans (f' x (by rw [e', ← e]; exact hx)).symm⟩
/-! ### Rows of records -/
def rcV (r : Rcd) : List Value := [.int .i64 r.tk, .int .i64 r.wy, .int .u32 r.ad, .int .u16 r.pt, .slice r.a r.n r.c]
def rcC (R : Nat → Rcd) : Nat → List Value
  | 0 => []
  | k + 1 => rcC R k ++ rcV (R k)
theorem rcC_len (R : Nat → Rcd) (k : Nat) : (rcC R k).length = k * 5 := by
  induction k with
  | zero => rfl
  | succ k ih => unfold rcC; rw [List.length_append, ih]; simp [rcV]; omega
theorem rcC_get (R : Nat → Rcd) (k i j : Nat) (hi : i < k) (hj : j < 5) : (rcC R k)[i * 5 + j]? = some ((R i).cell j) := by
  induction k with
  | zero => omega
  | succ k ih =>
    unfold rcC
    rcases Nat.lt_or_ge i k with h | h
    · rw [List.getElem?_append_left (by rw [rcC_len]; omega)]
      exact ih h
    · have : i = k := by omega
      subst this
      rw [List.getElem?_append_right (by rw [rcC_len]; omega), rcC_len, show i * 5 + j - i * 5 = j by omega]
      rcases (by omega : j = 0 ∨ j = 1 ∨ j = 2 ∨ j = 3 ∨ j = 4) with rfl | rfl | rfl | rfl | rfl <;> rfl
theorem rcC_congr {R R' : Nat → Rcd} {k : Nat} (h : ∀ i, i < k → R i = R' i) : rcC R k = rcC R' k := by
  induction k with
  | zero => rfl
  | succ k ih => unfold rcC; rw [ih (fun i hi => h i (by omega)), h k (by omega)]
def addR (R : Nat → Rcd) (m : Nat) (r : Rcd) : Nat → Rcd := fun i => if i = m then r else R i
theorem addR_same (R : Nat → Rcd) (m : Nat) (r : Rcd) : addR R m r m = r := if_pos rfl
theorem addR_other (R : Nat → Rcd) {m i : Nat} (r : Rcd) (h : i ≠ m) : addR R m r i = R i := if_neg h
theorem rcC_add (R : Nat → Rcd) (k : Nat) (r : Rcd) : rcC (addR R k r) (k + 1) = rcC R k ++ rcV r := by
  show rcC (addR R k r) k ++ rcV (addR R k r k) = _
  rw [addR_same, rcC_congr (R' := R) (fun i hi => addR_other R r (by omega))]
theorem infoRcd : (Try.prog.info? 72).map (fun i => (i.zero, i.size, i.bytes)) = some (some (.agg #[.int .i64 0, .int .i64 0, .int .u32 0, .int .u16 0, .slice none 0 0]), 5, 48) := by kernel_rfl
theorem elRcd : ElemT Try.prog 54 72 5 48 := ElemT.mk' (z := .agg #[.int .i64 0, .int .i64 0, .int .u32 0, .int .u16 0, .slice none 0 0]) Try.underlying54 infoRcd rfl (by decide)
theorem rcV_one (r : Rcd) : ∀ u ∈ rcV r, u.oneCell' = true := fun u hu => by
  simp [rcV] at hu
  rcases hu with rfl | rfl | rfl | rfl | rfl <;> rfl
/-- a list of records that a call has made: k of them, each with bytes of its own -/
structure RList (R : Nat → Rcd) (k base : Nat) (v : Value) (w : World) : Prop where
  row : w.ownsRow base 72 5 v k (rcC R k)
  dat : ∀ i, i < k → w.ownsRow base 5 1 (.slice (R i).a (R i).n (R i).c) (R i).n (bytesOf (R i).Z (R i).n)
theorem RList.nil (R : Nat → Rcd) (base : Nat) (w : World) : RList R 0 base (.slice none 0 0) w := ⟨World.ownsRow_nil _ _ _ _, fun i hi => by omega⟩
theorem RList.below {R : Nat → Rcd} {k base : Nat} {v : Value} {w w' : World} (h : RList R k base v w) (hb : Below w.heap.size w w') : RList R k base v w' := ⟨own_below h.row hb, fun i hi => own_below (h.dat i hi) hb⟩
theorem RList.mono {R : Nat → Rcd} {k base base' : Nat} {v : Value} {w : World} (h : RList R k base v w) (hb : base' ≤ base) : RList R k base' v w := ⟨World.ownsRow.mono h.row hb, fun i hi => World.ownsRow.mono (h.dat i hi) hb⟩
/-- one record more -/
theorem RList.add {R : Nat → Rcd} {k base : Nat} {v v' : Value} {V W : World} {r : Rcd} (h : RList R k base v V) (hd : V.ownsRow base 5 1 (.slice r.a r.n r.c) r.n (bytesOf r.Z r.n)) (hb : But v.ownBlock V W) (ho : W.ownsRow base 72 5 v' (k + 1) (rcC R k ++ rcV r)) : RList (addR R k r) (k + 1) base v' W := by
  have hT : OfT 72 v.ownBlock V := own_block h.row
  refine ⟨by rw [rcC_add]; exact ho, fun i hi => ?_⟩
  by_cases e : i = k
  · subst e; rw [addR_same]; exact own_butT hT hb hd (by decide)
  · rw [addR_other R r e]; exact own_butT hT hb (h.dat i (by omega)) (by decide)
theorem RList.rcds {R : Nat → Rcd} {k base : Nat} {a : Option Addr} {n c : Nat} {w : World} (h : RList R k base (.slice a n c) w) (hn : k ≤ 10000) (ok : ∀ i, i < k → (-9223372036854775808 ≤ (R i).tk ∧ (R i).tk ≤ 9223372036854775807) ∧ (-9223372036854775808 ≤ (R i).wy ∧ (R i).wy ≤ 9223372036854775807) ∧ (0 ≤ (R i).ad ∧ (R i).ad ≤ 4294967295) ∧ (0 ≤ (R i).pt ∧ (R i).pt ≤ 65535) ∧ (R i).n ≤ 100000 ∧ ∀ x, x < (R i).n → 0 ≤ (R i).Z x ∧ (R i).Z x ≤ 255) : n = k ∧ Rcds w.heap.size w a n c R := by
  obtain ⟨h1, h2⟩ := h
  have hlt := h1.lt
  have hcell := fun g => h1.cells (g := g)
  have okk : ∀ i, i < k → RcdOk w.heap.size w (R i) := fun i hi => by
    obtain ⟨⟨q1, q2⟩, ⟨q3, q4⟩, ⟨q5, q6⟩, ⟨q7, q8⟩, q9, q10⟩ := ok i hi
    obtain ⟨a', c', he, hs⟩ := BS.of_owns (h2 i hi) q10 (by omega)
    have e1 : a' = (R i).a := by injection he with x1 x2 x3; exact x1.symm
    have e2 : c' = (R i).c := by injection he with x1 x2 x3; exact x3.symm
    rw [e1, e2] at hs
    exact ⟨q1, q2, q3, q4, q5, q6, q7, q8, hs⟩
  obtain ⟨h3, h4⟩ := h1
  rcases h4 with ⟨hv, h0⟩ | ⟨g, cap, cur, hv, hg, hh, hn2, hcap, hsz, _⟩
  · cases hv
    subst h0
    exact ⟨rfl, Nat.le_refl _, by omega, fun i hi => by omega, 0, 0, fun h => by omega, fun i hi => by omega⟩
  · injection hv with e1 e2 e3
    subst e1 e2 e3
    refine ⟨rfl, hn2, by unfold maxLen at hcap; omega, okk, g, 0, fun _ => ⟨rfl, (hlt g rfl).2⟩, fun i hi j hj => ?_⟩
    have := hcell g rfl (i * 5 + j) _ (rcC_get R n i j hi hj)
    rw [addr_add] at this
    rw [← this]
    congr 1
    simp [Nat.add_assoc]
end Go.Proofs.Ytdmbdageohjodaa
