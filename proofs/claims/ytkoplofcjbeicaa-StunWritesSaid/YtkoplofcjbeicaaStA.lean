/-
  Chapter 12 (plain): the attributes that bytes are, what attributes are as bytes, and that one goes back to the other.
-/
import Derived.Test.YtkoplofcjbeicaaU8
import Derived.Test.YtkoplofcjbeicaaFill
namespace Go.Proofs.Ytkoplofcjbeicaa
open Go.RowKit
set_option linter.unusedVariables false
set_option linter.unusedSimpArgs false

def shA (Z : Nat → Int) (p : Nat) : Nat → Int := fun i => Z (p + i)
/-- bytes bounded -/
def Bd (Z : Nat → Int) (n : Nat) : Prop := ∀ i, i < n → 0 ≤ Z i ∧ Z i ≤ 255
def typA (Z : Nat → Int) (p : Nat) : Int := Z p * 256 + Z (p + 1)
def lenA (Z : Nat → Int) (p : Nat) : Nat := (typA Z (p + 2)).toNat
def padA (Z : Nat → Int) (p : Nat) : Nat := padN (lenA Z p) 4
def sizA (Z : Nat → Int) (p : Nat) : Nat := 4 + lenA Z p + padA Z p
def zerA (Z : Nat → Int) (p : Nat) : Prop := ∀ i, i < padA Z p → Z (p + 4 + lenA Z p + i) = 0
/-- is an attribute there, as it must be? -/
def goodA (Z : Nat → Int) (n p : Nat) : Prop := p + 4 ≤ n ∧ lenA Z p ≤ 255 ∧ p + sizA Z p ≤ n ∧ zerA Z p
instance (Z : Nat → Int) (p : Nat) : Decidable (zerA Z p) := by unfold zerA; infer_instance
instance (Z : Nat → Int) (n p : Nat) : Decidable (goodA Z n p) := by unfold goodA; infer_instance
abbrev Key := Int × Nat × Nat
def keyA (Z : Nat → Int) (p : Nat) : Key := (typA Z p, p + 4, lenA Z p)
theorem sizA_pos (Z : Nat → Int) (p : Nat) : 4 ≤ sizA Z p := by unfold sizA; omega
/-- as the program goes over them -/
def prsA (Z : Nat → Int) (n p : Nat) : List Key × Bool :=
  if h : p < n then
    if goodA Z n p then (keyA Z p :: (prsA Z n (p + sizA Z p)).1, (prsA Z n (p + sizA Z p)).2) else ([], false)
  else ([], true)
termination_by n - p
decreasing_by all_goals (have := sizA_pos Z p; omega)
/-- as the reference does -/
def rprA (Z : Nat → Int) (n p : Nat) : Option (List Key) :=
  if h : p + 4 ≤ n then
    if n < p + 4 + lenA Z p then none else (rprA Z n (p + sizA Z p)).map (keyA Z p :: ·)
  else some []
termination_by n - p
decreasing_by all_goals (have := sizA_pos Z p; omega)
/-- an attribute as bytes -/
def encA (t : Int) (L : List Int) : List Int := putL t 2 ++ putL L.length 2 ++ L ++ List.replicate (padN L.length 4) 0
abbrev Con := Int × List Int
def enc (c : Con) : List Int := encA c.1 c.2
def bodA (l : List Con) : List Int := l.flatMap enc
def conA (Z : Nat → Int) (k : Key) : Con := (k.1, zs (shA Z k.2.1) k.2.2)
theorem encA_len (t : Int) (L : List Int) : (encA t L).length = 4 + L.length + padN L.length 4 := by
  unfold encA; simp only [List.length_append, putL_len, List.length_replicate]
theorem enc_len (c : Con) : (enc c).length = 4 + c.2.length + padN c.2.length 4 := encA_len _ _
theorem zs_split (Z : Nat → Int) (a b : Nat) : zs Z (a + b) = zs Z a ++ zs (shA Z a) b := by
  apply List.ext_getElem
  · simp [zs]
  · intro i h1 h2
    simp only [zs, List.getElem_map, List.getElem_range, List.getElem_append, List.length_map, List.length_range, shA]
    split
    · rfl
    · congr 1; omega
theorem shA_shA (Z : Nat → Int) (p q : Nat) : shA (shA Z p) q = shA Z (p + q) := by funext i; simp [shA, Nat.add_assoc]
theorem putL_two (x : Int) : putL x 2 = [x / 256 % 256, x % 256] := by
  have e : List.range 2 = [0, 1] := rfl
  unfold putL
  rw [e]
  simp
theorem zs_two (Z : Nat → Int) (p : Nat) (h0 : 0 ≤ Z p ∧ Z p ≤ 255) (h1 : 0 ≤ Z (p + 1) ∧ Z (p + 1) ≤ 255) : zs (shA Z p) 2 = putL (typA Z p) 2 := by
  have e : List.range 2 = [0, 1] := rfl
  rw [putL_two]
  unfold zs typA shA
  rw [e]
  simp only [List.map_cons, List.map_nil, Nat.add_zero]
  have a1 : (Z p * 256 + Z (p + 1)) / 256 % 256 = Z p := by omega
  have a2 : (Z p * 256 + Z (p + 1)) % 256 = Z (p + 1) := by omega
  rw [a1, a2]
theorem typA_bd {Z : Nat → Int} {n p : Nat} (h : Bd Z n) (hp : p + 2 ≤ n) : 0 ≤ typA Z p ∧ typA Z p ≤ 65535 := by
  have a := h p (by omega)
  have b := h (p + 1) (by omega)
  unfold typA; omega
theorem lenA_cast {Z : Nat → Int} {n p : Nat} (h : Bd Z n) (hp : p + 4 ≤ n) : ((lenA Z p : Nat) : Int) = typA Z (p + 2) := by
  have := (typA_bd h (show p + 2 + 2 ≤ n by omega)).1
  unfold lenA; omega
theorem zs_zero (Z : Nat → Int) (m : Nat) (h : ∀ i, i < m → Z i = 0) : zs Z m = List.replicate m 0 := by
  apply List.ext_getElem
  · simp [zs]
  · intro i h1 h2
    simp only [zs, List.getElem_map, List.getElem_range, List.getElem_replicate]
    exact h i (by simpa [zs] using h1)
/-- the bytes of an attribute that is there -/
theorem zs_enc {Z : Nat → Int} {n p : Nat} (h : Bd Z n) (hg : goodA Z n p) : zs (shA Z p) (sizA Z p) = enc (conA Z (keyA Z p)) := by
  obtain ⟨g1, g2, g3, g4⟩ := hg
  unfold sizA
  rw [show 4 + lenA Z p + padA Z p = 2 + 2 + lenA Z p + padA Z p by omega, zs_split, zs_split, zs_split, shA_shA, shA_shA, shA_shA]
  rw [zs_two Z p (h _ (by omega)) (h _ (by omega)), zs_two Z (p + 2) (h _ (by omega)) (h _ (by omega))]
  rw [zs_zero (shA Z (p + (2 + 2 + lenA Z p))) (padA Z p) (fun i hi => by
    have := g4 i hi
    unfold shA
    rw [show p + (2 + 2 + lenA Z p) + i = p + 4 + lenA Z p + i by omega]
    exact this)]
  unfold enc encA conA keyA padA
  simp only [zs_len]
  rw [lenA_cast h g1]
theorem cons_bod (k : Con) (l : List Con) : bodA (k :: l) = enc k ++ bodA l := by simp [bodA]
/-- what the program reads is what the reference reads, and is the bytes -/
theorem prs_body {Z : Nat → Int} {n : Nat} (h : Bd Z n) : ∀ m p, n - p ≤ m → p ≤ n → ∀ l, prsA Z n p = (l, true) → zs (shA Z p) (n - p) = bodA (l.map (conA Z)) ∧ rprA Z n p = some l ∧ ∀ x ∈ l, x.2.2 ≤ 255 := by
  intro m
  induction m with
  | zero =>
    intro p hm hp l hl
    rw [prsA, dif_neg (by omega)] at hl
    cases hl
    rw [show n - p = 0 by omega, rprA, dif_neg (by omega)]
    exact ⟨rfl, rfl, fun x hx => by cases hx⟩
  | succ m ih =>
    intro p hm hp l hl
    rw [prsA] at hl
    by_cases hpn : p < n
    · rw [dif_pos hpn] at hl
      by_cases hg : goodA Z n p
      · rw [if_pos hg] at hl
        have h4 := sizA_pos Z p
        have hg' := hg
        obtain ⟨g1, g2, g3, g4⟩ := hg'
        obtain ⟨l', hl'⟩ : ∃ l', (prsA Z n (p + sizA Z p)).1 = l' := ⟨_, rfl⟩
        rw [hl'] at hl
        have hb : (prsA Z n (p + sizA Z p)).2 = true := congrArg Prod.snd hl
        have hll : keyA Z p :: l' = l := congrArg Prod.fst hl
        subst hll
        obtain ⟨i1, i2, i3⟩ := ih (p + sizA Z p) (by omega) g3 l' (by rw [← hl', ← hb])
        refine ⟨?_, ?_, ?_⟩
        · rw [show n - p = sizA Z p + (n - (p + sizA Z p)) by omega, zs_split, shA_shA, zs_enc h hg, i1, List.map_cons, cons_bod]
        · rw [rprA, dif_pos g1, if_neg (by unfold sizA at g3; omega), i2]; rfl
        · intro x hx
          rcases List.mem_cons.1 hx with rfl | hx
          · exact g2
          · exact i3 x hx
      · rw [if_neg hg] at hl; cases hl
    · rw [dif_neg hpn] at hl
      cases hl
      rw [show n - p = 0 by omega, rprA, dif_neg (by omega)]
      exact ⟨rfl, rfl, fun x hx => by cases hx⟩
theorem append_same {A B C D : List Int} (h : A ++ B = C ++ D) (hl : A.length = C.length) : A = C ∧ B = D := List.append_inj h hl
theorem zs_at {Z Y : Nat → Int} {n : Nat} (h : zs Z n = zs Y n) {i : Nat} (hi : i < n) : Z i = Y i := by
  have := congrArg (fun l => l[i]?) h
  simpa [zs, List.getElem?_map, List.getElem?_range hi] using this
/-- what the reference reads, if it is the bytes, the program reads -/
theorem rpr_body {Z : Nat → Int} {n : Nat} (h : Bd Z n) : ∀ m p, n - p ≤ m → p ≤ n → ∀ l, rprA Z n p = some l → zs (shA Z p) (n - p) = bodA (l.map (conA Z)) → (∀ x ∈ l, x.2.2 ≤ 255) → prsA Z n p = (l, true) := by
  intro m
  induction m with
  | zero =>
    intro p hm hp l hl hz _
    rw [rprA, dif_neg (by omega)] at hl
    cases hl
    rw [prsA, dif_neg (by omega)]
  | succ m ih =>
    intro p hm hp l hl hz h255
    rw [rprA] at hl
    by_cases hpn : p + 4 ≤ n
    · rw [dif_pos hpn] at hl
      by_cases hs : n < p + 4 + lenA Z p
      · rw [if_pos hs] at hl; cases hl
      · rw [if_neg hs] at hl
        obtain ⟨l', hl', hll⟩ := Option.map_eq_some_iff.1 hl
        subst hll
        have h4 := sizA_pos Z p
        have hln : lenA Z p ≤ 255 := h255 _ (List.mem_cons_self ..)
        rw [List.map_cons, cons_bod] at hz
        have hel : (enc (conA Z (keyA Z p))).length = sizA Z p := by
          rw [enc_len]; unfold conA keyA sizA padA; simp only [zs_len]
        have hlen := congrArg List.length hz
        rw [zs_len, List.length_append, hel] at hlen
        have hsz : p + sizA Z p ≤ n := by omega
        rw [show n - p = sizA Z p + (n - (p + sizA Z p)) by omega, zs_split, shA_shA] at hz
        obtain ⟨e1, e2⟩ := append_same hz (by rw [zs_len, hel])
        have hzer : zerA Z p := by
          intro i hi
          have := congrArg (fun l : List Int => l[4 + lenA Z p + i]?) e1
          change (zs (shA Z p) (sizA Z p))[4 + lenA Z p + i]? = (enc (conA Z (keyA Z p)))[4 + lenA Z p + i]? at this
          have hlt : 4 + lenA Z p + i < sizA Z p := by unfold sizA; omega
          have l1 : (zs (shA Z p) (sizA Z p))[4 + lenA Z p + i]? = some (Z (p + (4 + lenA Z p + i))) := by simp [zs, List.getElem?_map, List.getElem?_range hlt, shA]
          have l2 : (enc (conA Z (keyA Z p)))[4 + lenA Z p + i]? = some 0 := by
            unfold enc encA conA keyA
            simp only [zs_len]
            rw [List.getElem?_append_right (by simp [putL_len, zs_len]; omega), List.getElem?_replicate, if_pos]
            simp only [List.length_append, putL_len, zs_len]
            unfold padA at hi
            omega
          rw [l1, l2] at this
          injection this with this
          rw [show p + 4 + lenA Z p + i = p + (4 + lenA Z p + i) by omega]
          exact this
        have hg : goodA Z n p := ⟨hpn, hln, hsz, hzer⟩
        have := ih (p + sizA Z p) (by omega) hsz l' hl' e2 (fun x hx => h255 x (List.mem_cons_of_mem _ hx))
        rw [prsA, dif_pos (by omega), if_pos hg, this]
    · rw [dif_neg hpn] at hl
      cases hl
      have hlen := congrArg List.length hz
      rw [zs_len] at hlen
      have : n - p = 0 := by simpa [bodA] using hlen
      rw [prsA, dif_neg (by omega)]
/-- attributes that may be -/
def OkC (c : Con) : Prop := 0 ≤ c.1 ∧ c.1 ≤ 65535 ∧ c.2.length ≤ 255 ∧ Oct c.2
/-- what is written is read -/
theorem prs_of_body {Z : Nat → Int} {n : Nat} : ∀ (l : List Con) (p : Nat), p ≤ n → zs (shA Z p) (n - p) = bodA l → (∀ c ∈ l, OkC c) → ∃ ks, prsA Z n p = (ks, true) ∧ ks.map (conA Z) = l := by
  intro l
  induction l with
  | nil =>
    intro p hp hz _
    have hlen := congrArg List.length hz
    rw [zs_len] at hlen
    have : n - p = 0 := by simpa [bodA] using hlen
    exact ⟨[], by rw [prsA, dif_neg (by omega)], rfl⟩
  | cons c l ih =>
    intro p hp hz hc
    obtain ⟨t, L⟩ := c
    obtain ⟨c1, c2, c3, c4⟩ := hc _ (List.mem_cons_self ..)
    simp only at c1 c2 c3 c4
    rw [cons_bod] at hz
    have hlen := congrArg List.length hz
    rw [zs_len, List.length_append, enc_len] at hlen
    simp only at hlen
    obtain ⟨s, hs⟩ : ∃ s, s = 4 + L.length + padN L.length 4 := ⟨_, rfl⟩
    rw [show n - p = s + (n - (p + s)) by omega, zs_split, shA_shA] at hz
    obtain ⟨e1, e2⟩ := append_same hz (by rw [zs_len, enc_len, hs])
    have hat : ∀ i, i < s → (encA t L)[i]? = some (Z (p + i)) := fun i hi => by
      have := congrArg (fun l : List Int => l[i]?) e1
      change (zs (shA Z p) s)[i]? = (encA t L)[i]? at this
      rw [show (zs (shA Z p) s)[i]? = some (Z (p + i)) by simp [zs, List.getElem?_map, List.getElem?_range hi, shA]] at this
      exact this.symm
    have hsp : putL t 2 ++ putL L.length 2 ++ L ++ List.replicate (padN L.length 4) 0 = [t / 256 % 256, t % 256, (L.length : Int) / 256 % 256, (L.length : Int) % 256] ++ (L ++ List.replicate (padN L.length 4) 0) := by
      rw [putL_two, putL_two, List.append_assoc]
      rfl
    have hat' : ∀ i, i < s → ([t / 256 % 256, t % 256, (L.length : Int) / 256 % 256, (L.length : Int) % 256] ++ (L ++ List.replicate (padN L.length 4) 0))[i]? = some (Z (p + i)) := fun i hi => by
      rw [← hsp]; exact hat i hi
    have z0 : Z p = t / 256 % 256 := by have := hat' 0 (by omega); simpa using this.symm
    have z1 : Z (p + 1) = t % 256 := by have := hat' 1 (by omega); simpa using this.symm
    have z2 : Z (p + 2) = (L.length : Int) / 256 % 256 := by have := hat' 2 (by omega); simpa using this.symm
    have z3 : Z (p + 3) = (L.length : Int) % 256 := by have := hat' 3 (by omega); simpa using this.symm
    have ht : typA Z p = t := by unfold typA; rw [z0, z1]; omega
    have hln : lenA Z p = L.length := by
      unfold lenA typA
      rw [show p + 2 + 1 = p + 3 by omega, z2, z3]
      omega
    have hsiz : sizA Z p = s := by unfold sizA padA; rw [hln, hs]
    have hg : goodA Z n p := by
      refine ⟨by omega, by omega, by omega, fun i hi => ?_⟩
      unfold padA at hi
      rw [hln] at hi ⊢
      have := hat' (4 + L.length + i) (by omega)
      rw [show p + 4 + L.length + i = p + (4 + L.length + i) by omega]
      rw [List.getElem?_append_right (by simp; omega), List.getElem?_append_right (by simp; omega), List.getElem?_replicate, if_pos (by simp; omega)] at this
      injection this with this
      exact this.symm
    obtain ⟨ks, h1, h2⟩ := ih (p + s) (by omega) e2 (fun c hc' => hc c (List.mem_cons_of_mem _ hc'))
    refine ⟨keyA Z p :: ks, by rw [prsA, dif_pos (by omega), if_pos hg, hsiz, h1], ?_⟩
    rw [List.map_cons, h2]
    congr 1
    unfold conA keyA
    simp only [ht, hln]
    congr 1
    apply List.ext_getElem?
    intro i
    by_cases hi : i < L.length
    · have := hat' (4 + i) (by omega)
      rw [List.getElem?_append_right (by simp), List.getElem?_append_left (by simp; omega)] at this
      simp only [List.length_cons, List.length_nil, show 4 + i - (0 + 1 + 1 + 1 + 1) = i by omega] at this
      rw [this]
      simp [zs, List.getElem?_map, List.getElem?_range hi, shA, Nat.add_assoc]
    · rw [List.getElem?_eq_none (by rw [zs_len]; omega), List.getElem?_eq_none (by omega)]
/-! ### A whole message -/
def magicI : Int := 554869826
def headW (T : Int) (m : Nat) (tx : List Int) : List Int := putL T 2 ++ putL m 2 ++ putL magicI 4 ++ tx
def wrM (T : Int) (tx : List Int) (l : List Con) : List Int := headW T (bodA l).length tx ++ bodA l
/-- does it look like a message? -/
def isM (Z : Nat → Int) (n : Nat) : Prop := 20 ≤ n ∧ Z 0 < 64 ∧ zs (shA Z 4) 4 = putL magicI 4
/-- what the program says of bytes: a list of keys -/
def readM (Z : Nat → Int) (n : Nat) (l : List Key) : Prop := isM Z n ∧ lenA Z 0 + 20 = n ∧ n % 4 = 0 ∧ prsA Z n 20 = (l, true) ∧ l.length ≤ 16
def rreadM (Z : Nat → Int) (n : Nat) (l : List Key) : Prop := 20 ≤ n ∧ rprA Z n 20 = some l ∧ typA Z 0 ≤ 16383 ∧ l.length ≤ 16 ∧ (∀ x ∈ l, x.2.2 ≤ 255) ∧ wrM (typA Z 0) (zs (shA Z 8) 12) (l.map (conA Z)) = zs Z n
theorem bod_len4 (l : List Con) : (bodA l).length % 4 = 0 := by
  induction l with
  | nil => rfl
  | cons c l ih =>
    rw [cons_bod, List.length_append, enc_len]
    have := (padN_spec c.2.length 4 (by omega)).1
    omega
theorem headW_len (T : Int) (m : Nat) (tx : List Int) (h : tx.length = 12) : (headW T m tx).length = 20 := by unfold headW; simp only [List.length_append, putL_len, h]
theorem zs_head (Z : Nat → Int) (n : Nat) (hn : 20 ≤ n) : zs Z n = zs Z 2 ++ zs (shA Z 2) 2 ++ zs (shA Z 4) 4 ++ zs (shA Z 8) 12 ++ zs (shA Z 20) (n - 20) := by
  have h : zs Z (2 + 2 + 4 + 12 + (n - 20)) = zs Z 2 ++ zs (shA Z 2) 2 ++ zs (shA Z 4) 4 ++ zs (shA Z 8) 12 ++ zs (shA Z 20) (n - 20) := by rw [zs_split, zs_split, zs_split, zs_split]
  rw [← h]
  congr 1
  omega
theorem shA0 (Z : Nat → Int) : shA Z 0 = Z := by funext i; simp [shA]
theorem putL2_inj {x y : Int} (hx : 0 ≤ x ∧ x ≤ 65535) (hy : 0 ≤ y ∧ y ≤ 65535) (h : putL x 2 = putL y 2) : x = y := by
  rw [putL_two, putL_two] at h
  injection h with h1 h
  injection h with h2 h
  omega
theorem conl_len {Z : Nat → Int} {l : List Key} (h : ∀ x ∈ l, x.2.2 ≤ 255) : (bodA (l.map (conA Z))).length ≤ l.length * 262 := by
  induction l with
  | nil => simp [bodA]
  | cons k l ih =>
    rw [List.map_cons, cons_bod, List.length_append, enc_len, List.length_cons]
    have h1 := ih (fun x hx => h x (List.mem_cons_of_mem _ hx))
    have h2 := h k (List.mem_cons_self ..)
    have h3 : (conA Z k).2.length = k.2.2 := by unfold conA; simp [zs_len]
    have h4 := (padN_spec (conA Z k).2.length 4 (by omega)).2.1
    omega
theorem read_iff {Z : Nat → Int} {n : Nat} (h : Bd Z n) (hn : n ≤ 60000) (l : List Key) : readM Z n l ↔ rreadM Z n l := by
  constructor
  · rintro ⟨⟨h20, h64, hmg⟩, hlen, h4, hp, h16⟩
    obtain ⟨b1, b2, b3⟩ := prs_body h _ 20 (Nat.le_refl _) (by omega) l hp
    have ha := h 0 (by omega)
    have hb := h 1 (by omega)
    refine ⟨h20, b2, by unfold typA; rw [Nat.zero_add]; omega, h16, b3, ?_⟩
    unfold wrM headW
    rw [zs_head Z n h20, hmg, ← b1, zs_len]
    have e0 := zs_two Z 0 ha hb
    rw [shA0] at e0
    have e2 := zs_two Z 2 (h 2 (by omega)) (h 3 (by omega))
    have hl := lenA_cast (p := 0) h (by omega)
    rw [Nat.zero_add] at hl
    rw [e0, e2, ← hl, show n - 20 = lenA Z 0 by omega]
  · rintro ⟨h20, hr, hT, h16, h255, hw⟩
    have hcl := conl_len (Z := Z) h255
    obtain ⟨N, hN⟩ : ∃ N, (bodA (l.map (conA Z))).length = N := ⟨_, rfl⟩
    unfold wrM headW at hw
    rw [zs_head Z n h20, hN] at hw
    obtain ⟨w1, w2⟩ := append_same hw (by simp [putL_len, zs_len])
    obtain ⟨w3, w4⟩ := append_same w1 (by simp [putL_len, zs_len])
    obtain ⟨w5, w6⟩ := append_same w3 (by simp [putL_len, zs_len])
    obtain ⟨w7, w8⟩ := append_same w5 (by simp [putL_len, zs_len])
    have hNn : N = n - 20 := by rw [← hN, w2, zs_len]
    have e2 := zs_two Z 2 (h 2 (by omega)) (h 3 (by omega))
    rw [e2] at w8
    have hl := lenA_cast (p := 0) h (by omega)
    rw [Nat.zero_add] at hl
    have hty := typA_bd (p := 2) h (by omega)
    have hlx := putL2_inj (by omega) hty w8
    have hn4 := bod_len4 (l.map (conA Z))
    have ha := h 0 (by omega)
    have hb := h 1 (by omega)
    refine ⟨⟨h20, by unfold typA at hT; rw [Nat.zero_add] at hT; omega, w6.symm⟩, by omega, by omega, ?_, h16⟩
    exact rpr_body h _ 20 (Nat.le_refl _) (by omega) l hr w2.symm h255
theorem zs_ext (L : List Int) (n : Nat) (h : L.length = n) : zs (gz L) n = L := by subst h; exact zs_gz L
/-- what is written is read -/
theorem read_back12 {T : Int} {tx : List Int} {l : List Con} (hT : 0 ≤ T ∧ T ≤ 16383) (htx : tx.length = 12) (hl : l.length ≤ 16) (hok : ∀ c ∈ l, OkC c) (hb : (bodA l).length ≤ 60000) :
    ∃ ks, readM (gz (wrM T tx l)) (wrM T tx l).length ks ∧ ks.map (conA (gz (wrM T tx l))) = l ∧ typA (gz (wrM T tx l)) 0 = T ∧ zs (shA (gz (wrM T tx l)) 8) 12 = tx := by
  obtain ⟨W, hW⟩ : ∃ W, wrM T tx l = W := ⟨_, rfl⟩
  rw [hW]
  obtain ⟨n, hn⟩ : ∃ n, W.length = n := ⟨_, rfl⟩
  rw [hn]
  have hz := zs_ext W n hn
  have hln : n = 20 + (bodA l).length := by rw [← hn, ← hW]; unfold wrM; rw [List.length_append, headW_len _ _ _ htx]
  have h20 : 20 ≤ n := by omega
  have hw : wrM T tx l = zs (gz W) n := by rw [hz, hW]
  unfold wrM headW at hw
  rw [zs_head (gz W) n h20] at hw
  obtain ⟨w1, w2⟩ := append_same hw (by simp [putL_len, zs_len, htx])
  obtain ⟨w3, w4⟩ := append_same w1 (by simp [putL_len, zs_len])
  obtain ⟨w5, w6⟩ := append_same w3 (by simp [putL_len, zs_len])
  obtain ⟨w7, w8⟩ := append_same w5 (by simp [putL_len, zs_len])
  obtain ⟨ks, k1, k2⟩ := prs_of_body (Z := gz W) (n := n) l 20 h20 w2.symm hok
  have two : ∀ (p : Nat) (x : Int), 0 ≤ x ∧ x ≤ 65535 → putL x 2 = zs (shA (gz W) p) 2 → gz W p = x / 256 ∧ gz W (p + 1) = x % 256 := fun p x hx he => by
    rw [putL_two] at he
    have e : zs (shA (gz W) p) 2 = [gz W p, gz W (p + 1)] := by
      have e : List.range 2 = [0, 1] := rfl
      unfold zs shA
      rw [e]
      simp
    rw [e] at he
    injection he with h1 he
    injection he with h2 he
    omega
  have t0 := two 0 T (by omega) (by rw [shA0]; exact w7)
  have t2 := two 2 ((bodA l).length : Int) (by omega) w8
  rw [Nat.zero_add] at t0
  have hty : typA (gz W) 0 = T := by unfold typA; rw [Nat.zero_add, t0.1, t0.2]; omega
  have hlen : lenA (gz W) 0 = (bodA l).length := by unfold lenA typA; rw [Nat.zero_add, t2.1, t2.2]; omega
  have h4 := bod_len4 l
  refine ⟨ks, ⟨⟨h20, by rw [t0.1]; omega, w6.symm⟩, by omega, by omega, k1, ?_⟩, k2, hty, w4.symm⟩
  have := congrArg List.length k2
  rw [List.length_map] at this
  omega
end Go.Proofs.Ytkoplofcjbeicaa
