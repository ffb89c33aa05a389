/-
  Chapter 20: the reference's keeper: drop.
-/
import Derived.Test.YtdmbdageohjodaaLsV
namespace Go.Proofs.Ytdmbdageohjodaa
open Go.RowKit
set_option linter.unusedVariables false
set_option linter.unusedSimpArgs false
attribute [local irreducible] wpStill wpQuiet MixC.wpMix MixC.wpPick MixC.wpPickT
attribute [local go_sem] MixC.rdOp MixC.rd MixC.rdUpon MixC.mvUpon

theorem own_get {w : World} {base : Nat} {e : TypeId} {a : Option Addr} {c n x : Nat} {xs : List Value} {u : Value} (h : w.ownsRow base e 1 (.slice a n c) n xs) (hx : xs[x]? = some u) : ∃ b, a = some ⟨b, 0, none⟩ ∧ (base ≤ b ∧ b < w.heap.size) ∧ w.cell? ⟨b, x, none⟩ = some u := by
  have hl := h.1
  have hlt : x < xs.length := (List.getElem?_eq_some_iff.1 hx).1
  obtain ⟨n', rfl⟩ : ∃ n', n = n' + 1 := ⟨n - 1, by omega⟩
  obtain ⟨b, cap, hv, hb1, hb2, hc, -⟩ := own_some h
  injection hv with hv _ _
  exact ⟨b, hv, ⟨hb1, hb2⟩, hc _ _ hx⟩
/-- what a place of the three rows holds -/
theorem R3.get {B : Nat} {w : World} {aI aN aT : Option Addr} {cI cN cT : Nat} {L : List Mis} (h : R3 B w (.slice aI L.length cI) (L.map (·.i)) (.slice aN L.length cN) (L.map (·.nx)) (.slice aT L.length cT) (L.map (·.tr))) {x : Nat} (hx : x < L.length) :
    ∃ bI bN bT, (aI = some ⟨bI, 0, none⟩ ∧ aN = some ⟨bN, 0, none⟩ ∧ aT = some ⟨bT, 0, none⟩) ∧ ((B ≤ bI ∧ bI < w.heap.size) ∧ (B ≤ bN ∧ bN < w.heap.size) ∧ (B ≤ bT ∧ bT < w.heap.size)) ∧ w.cell? ⟨bI, x, none⟩ = some (.int .i64 (L[x]'hx).i) ∧ w.cell? ⟨bN, x, none⟩ = some (.int .i64 (L[x]'hx).nx) ∧ w.cell? ⟨bT, x, none⟩ = some (.int .i64 (L[x]'hx).tr) := by
  have e : L[x]? = some (L[x]'hx) := List.getElem?_eq_getElem hx
  have hI := h.hI
  have hN := h.hN
  have hT := h.hT
  rw [List.length_map] at hI hN hT
  obtain ⟨bI, h1, p1, q1⟩ := own_get hI (x := x) (vsI_get (by rw [List.getElem?_map, e]; rfl))
  obtain ⟨bN, h2, p2, q2⟩ := own_get hN (x := x) (vsI_get (by rw [List.getElem?_map, e]; rfl))
  obtain ⟨bT, h3, p3, q3⟩ := own_get hT (x := x) (vsI_get (by rw [List.getElem?_map, e]; rfl))
  exact ⟨bI, bN, bT, ⟨h1, h2, h3⟩, ⟨p1, p2, p3⟩, q1, q2, q3⟩
theorem erase_step {L : List Mis} {k x : Nat} (h : x < L.length) : (L.take (x + 1)).eraseIdx k = if x = k then (L.take x).eraseIdx k else (L.take x).eraseIdx k ++ [L[x]'h] := by
  have hx : (L.take x).length = x := by rw [List.length_take]; omega
  rw [List.take_succ_eq_append_getElem h]
  by_cases h1 : k < x
  · rw [if_neg (by omega), List.eraseIdx_append_of_lt_length (by omega)]
  · rw [List.eraseIdx_append_of_length_le (by omega), hx, List.eraseIdx_of_length_le (by omega : (L.take x).length ≤ k)]
    by_cases h2 : x = k
    · rw [if_pos h2, ← h2, Nat.sub_self]; simp
    · rw [if_neg h2]
      obtain ⟨d, hd⟩ : ∃ d, k - x = d + 1 := ⟨k - x - 1, by omega⟩
      rw [hd]; rfl
theorem erase_le (L : List Mis) (k x : Nat) : ((L.take x).eraseIdx k).length ≤ x := by
  have h1 := List.length_eraseIdx_le (L.take x) k
  have h2 : (L.take x).length ≤ x := by rw [List.length_take]; omega
  omega
/-- the new rows -/
structure DR (w : World) (K : List Mis) (m : Nat) (aI : Option Addr) (cI : Nat) (aN : Option Addr) (cN : Nat) (aT : Option Addr) (cT : Nat) (wr : World) : Prop where
  bl : Below w.heap.size w wr
  ln : m = K.length
  r3 : R3 w.heap.size wr (.slice aI m cI) (K.map (·.i)) (.slice aN m cN) (K.map (·.nx)) (.slice aT m cT) (K.map (·.tr))
set_option maxRecDepth 100000 in
set_option maxHeartbeats 4000000 in
theorem drop_any (B g : Nat) (pause high : Int) (L : List Mis) (k : Nat) (w : World) (h : RK B g pause high L w) (hB : B ≤ w.heap.size) (hL : L.length ≤ 1000) (hk : k ≤ 1000) :
    Calls Try.prog 65 #[.pointer (some ⟨g, 0, none⟩), .int .i64 k] w fun e w' => e = .returned (.tuple #[]) ∧ RK B g pause high (L.eraseIdx k) w' ∧ But (some g) w w' := by
  obtain ⟨gB, aI, cI, aN, cN, aT, cT, hg, hr⟩ := h
  obtain ⟨n, hn⟩ : ∃ n, L.length = n := ⟨_, rfl⟩
  have HR := Lib.hid hr
  have HG := Lib.hid hg
  have HN := Lib.hid hn
  have FG : Hid (∀ X, Below w.heap.size w X → X.heap[g]? = some (rkO pause high (.slice aI n cI) (.slice aT n cT) (.slice aN n cN))) := Lib.hid (fun X b => by rw [← hn]; exact Below.blk b hg (lt_of_block hg))
  clear hr hg
  go_enter Try.func65, Try.ntmps65
  go_wp2_with fail
  go_loopw [4, 5, 6, 7] (fun s4 s5 s6 s7 wr => ∃ (x m : Nat) (bI : Option Addr) (dI : Nat) (bN : Option Addr) (dN : Nat) (bT : Option Addr) (dT : Nat), x ≤ n ∧ s7 = .int .i64 x ∧ s4 = .slice bI m dI ∧ s5 = .slice bN m dN ∧ s6 = .slice bT m dT ∧ Hid (DR w ((L.take x).eraseIdx k) m bI dI bN dN bT dT wr)) (fun _ _ _ s7 _ => n - (intOf s7).toNat)
  case atStart => exact ⟨0, 0, none, 0, none, 0, none, 0, by omega, rfl, rfl, rfl, rfl, Lib.hid ⟨Below.refl _ _, by simp, by simpa using R3.nil _ _⟩⟩
  case round =>
    obtain ⟨x, m, bI, dI, bN, dN, bT, dT, hx, rfl, rfl, rfl, rfl, HD⟩ := hrel
    have G0 := FG.out wr HD.out.bl
    have g2 : wr.cell? ⟨g, 2, none⟩ = some (.slice aI n cI) := by rw [cell_blk G0]; rfl
    have g3 : wr.cell? ⟨g, 3, none⟩ = some (.slice aT n cT) := by rw [cell_blk G0]; rfl
    have g4 : wr.cell? ⟨g, 4, none⟩ = some (.slice aN n cN) := by rw [cell_blk G0]; rfl
    by_cases hlt : x < n
    · have hxL : x < L.length := by rw [HN.out]; exact hlt
      have hst := erase_step (k := k) hxL
      have hxi : (x : Int) < n := by omega
      clear G0
      by_cases hxk : x = k
      · subst hxk
        rw [if_pos rfl] at hst
        have D9 : Hid (DR w ((L.take (x + 1)).eraseIdx x) m bI dI bN dN bT dT wr) := Lib.hid (by rw [hst]; exact HD.out)
        clear hst
        go_wp2_with fail
        refine ⟨⟨x + 1, m, bI, dI, bN, dN, bT, dT, by omega, by go_num, rfl, rfl, rfl, D9⟩, ?_⟩
        simp [intOf] <;> omega
      · rw [if_neg hxk] at hst
        have hxki : ((x : Int) == (k : Int)) = false := by simp; omega
        have hml : m ≤ x := by rw [HD.out.ln]; exact erase_le L k x
        obtain ⟨rI, rN, rT, ⟨rfl, rfl, rfl⟩, lts, e1, e2, e3⟩ := HR.out.get hxL
        obtain ⟨y, hy⟩ : ∃ y, L[x]'hxL = y := ⟨_, rfl⟩
        rw [hy] at e1 e2 e3 hst
        have FE := Lib.hid (And.intro lts (And.intro e1 (And.intro e2 e3)))
        obtain ⟨K, hK⟩ : ∃ K, (L.take x).eraseIdx k = K := ⟨_, rfl⟩
        rw [hK] at HD hst
        have hmK := HD.out.ln
        have hb0 := HD.out.bl
        have hr0 := HD.out.r3
        have hr0' : R3 w.heap.size wr (.slice bI m dI) (K.map (·.i)) (.slice bN m dN) (K.map (·.nx)) (.slice bT m dT) (K.map (·.tr)) := hr0
        obtain ⟨a1, c1, W1, A1, B1, -, S1⟩ := hr0'.pushI hb0.size (by rw [List.length_map]; omega) y.i
        obtain ⟨a2, c2, W2, A2, B2, -, S2⟩ := S1.pushN (Nat.le_trans hb0.size B1.size) (by rw [List.length_map]; omega) y.nx
        obtain ⟨a3, c3, W3, A3, B3, -, S3⟩ := S2.pushT (Nat.le_trans hb0.size (Nat.le_trans B1.size B2.size)) (by rw [List.length_map]; omega) y.tr
        simp only [List.length_map] at A1 A2 A3 S3
        rw [← hmK] at A1 A2 A3 S3
        have X1 := hb0.trans B1
        have X2 := X1.trans B2
        have X3 := X2.trans B3
        have x0 := Below.cell' hb0 lts.1.2 e1
        have x1 := Below.cell' X1 lts.2.1.2 e2
        have x2 := Below.cell' X2 lts.2.2.2 e3
        have G1 := FG.out W1 X1
        have G2 := FG.out W2 X2
        have h12 : W1.cell? ⟨g, 4, none⟩ = some (.slice (some ⟨rN, 0, none⟩) n cN) := by rw [cell_blk G1]; rfl
        have h23 : W2.cell? ⟨g, 3, none⟩ = some (.slice (some ⟨rT, 0, none⟩) n cT) := by rw [cell_blk G2]; rfl
        have D9 : Hid (DR w ((L.take (x + 1)).eraseIdx k) (m + 1) a1 c1 a2 c2 a3 c3 W3) := Lib.hid (by
          rw [hst]
          exact ⟨X3, by rw [hmK]; simp, by rw [List.map_append, List.map_append, List.map_append]; exact S3⟩)
        have HA1 := Lib.hid A1
        have HA2 := Lib.hid A2
        have HA3 := Lib.hid A3
        clear A1 A2 A3 B1 B2 B3 S1 S2 S3 X1 X2 X3 G1 G2 hr0 hr0' hst hy hK hmK e1 e2 e3 lts hb0
        go_wp2_with (first | (at_builtin; refine wpList_of_append rfl (.tmp 20) (.tmp 28) 37 rfl _ _ _ rfl rfl HA1.out ?_) | (at_builtin; refine wpList_of_append rfl (.tmp 30) (.tmp 38) 37 rfl _ _ _ rfl rfl HA2.out ?_) | (at_builtin; refine wpList_of_append rfl (.tmp 40) (.tmp 48) 39 rfl _ _ _ rfl rfl HA3.out ?_))
        refine ⟨⟨x + 1, m + 1, a1, c1, a2, c2, a3, c3, by omega, by go_num, rfl, rfl, rfl, D9⟩, ?_⟩
        simp [intOf] <;> omega
    · obtain rfl : n = x := by omega
      have f2 : ∀ i, wr.frozen? ⟨g, i, none⟩ = false := fun i => free_blk G0
      have g0 : wr.cell? ⟨g, 0, none⟩ = some (.int .i64 pause) := by rw [cell_blk G0]; rfl
      have g1 : wr.cell? ⟨g, 1, none⟩ = some (.int .i64 high) := by rw [cell_blk G0]; rfl
      have HG0 := Lib.hid G0
      clear G0
      go_wp2_with fail
      have hE : (L.take n).eraseIdx k = L.eraseIdx k := by rw [List.take_of_length_le (by rw [HN.out]; exact Nat.le_refl _)]
      have hD := HD.out
      rw [hE] at hD
      have hlt := lt_of_block HG.out
      have hl2 := hD.ln
      obtain ⟨V, hV⟩ : ∃ V, V = ((wr.setCell ⟨g, 2, none⟩ (.slice bI m dI)).setCell ⟨g, 4, none⟩ (.slice bN m dN)).setCell ⟨g, 3, none⟩ (.slice bT m dT) := ⟨_, rfl⟩
      have bV : But (some g) wr V := by rw [hV]; exact (((But.refl _ wr).set 2 _).set 4 _).set 3 _
      have gV : V.heap[g]? = some (rkO pause high (.slice bI m dI) (.slice bT m dT) (.slice bN m dN)) := by
        rw [hV]
        exact set_blk (cs := #[.int .i64 pause, .int .i64 high, .slice bI m dI, .slice aT n cT, .slice bN m dN]) _ (set_blk (cs := #[.int .i64 pause, .int .i64 high, .slice bI m dI, .slice aT n cT, .slice aN n cN]) _ (set_blk _ HG0.out))
      rw [← hV]
      clear hV
      go_end0
      refine ⟨rfl, ⟨gB, bI, dI, bN, dN, bT, dT, by rw [← hl2]; exact gV, ?_⟩, But.ahead bV hD.bl (fun j e => by cases e; exact hlt)⟩
      have r := hD.r3.but bV (U := 41) (fun j e => by cases e; exact ⟨_, _, HG0.out⟩) (by decide) (by decide)
      rw [← hl2]
      exact ⟨World.ownsRow.mono r.hI hB, World.ownsRow.mono r.hN hB, World.ownsRow.mono r.hT hB, r.ap⟩
end Go.Proofs.Ytdmbdageohjodaa
