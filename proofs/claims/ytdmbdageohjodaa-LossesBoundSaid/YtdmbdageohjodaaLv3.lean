/-
  Chapter 20: the law LossesBound: the states.
-/
import Derived.Test.YtdmbdageohjodaaLv2
import Derived.Test.YtdmbdageohjodaaLt9
namespace Go.Proofs.Ytdmbdageohjodaa
open Go.RowKit
set_option linter.unusedVariables false
set_option linter.unusedSimpArgs false

theorem lstep_ok {L : List (Int × Int)} {s : Int} (h : OkL L) (hs : 0 ≤ s ∧ s ≤ 65535) : OkL (lstep L s) := by
  rcases List.eq_nil_or_concat L with rfl | ⟨P, ⟨q, b⟩, rfl⟩
  · rw [lstep_nil]
    intro x hx
    rw [List.mem_singleton] at hx
    subst hx
    exact ⟨hs, by omega, by omega⟩
  · simp only [List.concat_eq_append] at h ⊢
    have hP : OkL P := fun x hx => h x (by simp [hx])
    have hq := h (q, b) (by simp)
    cases hl : lossP q b s with
    | true =>
      rw [lstep_in hl]
      intro x hx
      rcases List.mem_append.1 hx with h1 | h1
      · exact hP x h1
      · rw [List.mem_singleton] at h1
        subst h1
        exact ⟨hq.1, orB_bd _ _ hq.2⟩
    | false =>
      rw [lstep_new hl]
      intro x hx
      rcases List.mem_append.1 hx with h1 | h1
      · exact h x h1
      · rw [List.mem_singleton] at h1
        subst h1
        exact ⟨hs, by omega, by omega⟩
theorem lossL_ok (S : List Int) (h : ∀ s ∈ S, 0 ≤ s ∧ s ≤ 65535) : OkL (lossL S) := by
  have key : ∀ (S : List Int) (L : List (Int × Int)), OkL L → (∀ s ∈ S, 0 ≤ s ∧ s ≤ 65535) → OkL (S.foldl lstep L) := by
    intro S
    induction S with
    | nil => intro L hL _; exact hL
    | cons s S ih => intro L hL hS; exact ih _ (lstep_ok hL (hS s List.mem_cons_self)) (fun x hx => hS x (List.mem_cons_of_mem _ hx))
  exact key S [] (fun x hx => by cases hx) h
abbrev R2 (B : Nat) (V : World) (H : List (Int × Int)) (va : Option Addr) (vc : Nat) (wa : Option Addr) (wc : Nat) : Prop :=
  R3 B V (.slice va H.length vc) (H.map (·.1)) (.slice wa H.length wc) (H.map (·.2)) (.slice none 0 0) []
/-- the keeper and what it asked for so far -/
structure LB (gk : Nat) (pa high : Int) (L : List Mis) (H : List (Int × Int)) (m : Nat) (va : Option Addr) (vc : Nat) (wa : Option Addr) (wc : Nat) (w V : World) : Prop where
  bl : Below w.heap.size w V
  ks : ∃ M a c, KS w.heap.size gk pa high M a c V ∧ ofM M = L
  hi : HI pa high L H
  pa : 1 ≤ pa ∧ pa ≤ 255
  ml : m = H.length
  r : R3 w.heap.size V (.slice va m vc) (H.map (·.1)) (.slice wa m wc) (H.map (·.2)) (.slice none 0 0) []
theorem R3.ty {B : Nat} {w w' : World} {vI vN : Value} {I N : List Int} {ts : List TypeId} (h : R3 B w vI I vN N (.slice none 0 0) []) (t : Ty ts w w') (h1 : 2 ∉ ts) : R3 B w' vI I vN N (.slice none 0 0) [] :=
  ⟨t.own h.hI h1, t.own h.hN h1, World.ownsRow_nil _ _ _ _, h.ap⟩
theorem R3.cy {B : Nat} {w w' : World} {vI vN : Value} {I N : List Int} {ts : List TypeId} (h : R3 B w vI I vN N (.slice none 0 0) []) (t : Cy ts w w') (h1 : 2 ∉ ts) : R3 B w' vI I vN N (.slice none 0 0) [] :=
  ⟨t.own h.hI h1, t.own h.hN h1, World.ownsRow_nil _ _ _ _, h.ap⟩
theorem LB.keep {gk : Nat} {pa high : Int} {L : List Mis} {H : List (Int × Int)} {m : Nat} {va : Option Addr} {vc : Nat} {wa : Option Addr} {wc : Nat} {w V V' : World} (h : LB gk pa high L H m va vc wa wc w V) (hb : Below V.heap.size V V') : LB gk pa high L H m va vc wa wc w V' := by
  obtain ⟨M, a, c, k1, k2⟩ := h.ks
  exact ⟨h.bl.trans (hb.mono h.bl.size), ⟨M, a, c, k1.keep hb, k2⟩, h.hi, h.pa, h.ml, h.r.ty (ts := []) (Ty.below hb) (by decide)⟩
theorem LB.came {gk : Nat} {pa high : Int} {L : List Mis} {H : List (Int × Int)} {m : Nat} {va : Option Addr} {vc : Nat} {wa : Option Addr} {wc : Nat} {w V : World} (h : LB gk pa high L H m va vc wa wc w V) (i tick : Int) (hi : i ≤ 4611686018427387904) :
    Calls Try.prog 21 #[.pointer (some ⟨gk, 0, none⟩), .int .i64 i, .int .i64 tick] V fun e V' => e = .returned (.tuple #[]) ∧ LB gk pa (cameH high i) (cameM high i tick L) H m va vc wa wc w V' := by
  obtain ⟨M, a, c, k1, k2⟩ := h.ks
  refine (came_any w.heap.size gk pa high i tick M a c V k1 h.bl.size h.hi.pi.hh.1 h.hi.pi.hh.2 hi (by rw [ofM_len k2]; have := h.hi.pi.len; omega)).mono ?_
  rintro e V' ⟨rfl, ⟨M', a', c', m1, m2⟩, b, t⟩
  rw [k2] at m2
  exact ⟨rfl, h.bl.trans b, ⟨M', a', c', m1, m2⟩, h.hi.came hi, h.pa, h.ml, h.r.ty t (by decide)⟩
theorem LB.miss {gk : Nat} {pa high : Int} {L : List Mis} {H : List (Int × Int)} {m : Nat} {va : Option Addr} {vc : Nat} {wa : Option Addr} {wc : Nat} {w V : World} (h : LB gk pa high L H m va vc wa wc w V) :
    Calls Try.prog 23 #[.pointer (some ⟨gk, 0, none⟩)] V fun e V' => (∃ a c, e = .returned (.slice a L.length c)) ∧ LB gk pa high L H m va vc wa wc w V' := by
  obtain ⟨M, a, c, k1, k2⟩ := h.ks
  refine (miss_any w.heap.size gk pa high M a c V k1 (by rw [ofM_len k2]; have := h.hi.pi.len; omega)).mono ?_
  rintro e V' ⟨a', c', rfl, o, b⟩
  rw [misI_of k2, List.length_map]
  exact ⟨⟨a', c', rfl⟩, h.keep b⟩
/-- behind an Ask: those asked are not laid down yet -/
structure LC (gk : Nat) (pa high : Int) (L : List Mis) (H : List (Int × Int)) (m : Nat) (va : Option Addr) (vc : Nat) (wa : Option Addr) (wc : Nat) (w V : World) : Prop where
  bl : Below w.heap.size w V
  ks : ∃ M a c, KS w.heap.size gk pa high M a c V ∧ ofM M = L
  ml : m = H.length
  r : R3 w.heap.size V (.slice va m vc) (H.map (·.1)) (.slice wa m wc) (H.map (·.2)) (.slice none 0 0) []
theorem LC.keep {gk : Nat} {pa high : Int} {L : List Mis} {H : List (Int × Int)} {m : Nat} {va : Option Addr} {vc : Nat} {wa : Option Addr} {wc : Nat} {w V V' : World} (h : LC gk pa high L H m va vc wa wc w V) (hb : Below V.heap.size V V') : LC gk pa high L H m va vc wa wc w V' := by
  obtain ⟨M, a, c, k1, k2⟩ := h.ks
  exact ⟨h.bl.trans (hb.mono h.bl.size), ⟨M, a, c, k1.keep hb, k2⟩, h.ml, h.r.ty (ts := []) (Ty.below hb) (by decide)⟩
theorem LB.ask {gk : Nat} {pa high : Int} {L : List Mis} {H : List (Int × Int)} {m : Nat} {va : Option Addr} {vc : Nat} {wa : Option Addr} {wc : Nat} {w V : World} (h : LB gk pa high L H m va vc wa wc w V) (tick : Int) (ht : -4611686018427387904 ≤ tick ∧ tick ≤ 4611686018427387904) (hh : high ≤ 65535) :
    Calls Try.prog 19 #[.pointer (some ⟨gk, 0, none⟩), .int .i64 tick] V fun e V' => ∃ v, e = .returned v ∧ LC gk pa high (askK tick pa L) H m va vc wa wc w V' ∧
      Calls Try.prog 26 #[v] V' fun e V'' => ∃ a c, e = .returned (.slice a (askT tick pa [] L).length c) ∧ V''.ownsRow w.heap.size 33 1 (.slice a (askT tick pa [] L).length c) (askT tick pa [] L).length (u16s ((askT tick pa [] L).map (·.i))) ∧ LC gk pa high (askK tick pa L) H m va vc wa wc w V'' := by
  obtain ⟨M, a, c, k1, k2⟩ := h.ks
  have hp := h.pa
  refine (ask_any w.heap.size gk pa high tick M a c V k1 h.bl.size (by rw [ofM_len k2]; have := h.hi.pi.len; omega) (ofM_mem k2 h.hi.pi.mis) (by omega) ht).mono ?_
  rintro e V' ⟨xa, xc, M', a', c', rfl, o, m1, m2, b, t⟩
  rw [k2] at m2 o
  rw [k2]
  have t' : Cy aTs V V' := t
  have hC : LC gk pa high (askK tick pa L) H m va vc wa wc w V' := ⟨h.bl.trans b, ⟨M', a', c', m1, m2⟩, h.ml, h.r.cy t' (by decide)⟩
  refine ⟨_, rfl, hC, ?_⟩
  have hle := o.2
  obtain ⟨ga, gc, ge, gg⟩ := Asked.get (O := askO tick pa L) (V := V') ⟨xa, xc, rfl, o⟩
  injection ge with g1 g2 g3
  subst g1 g3
  have hcap : (askO tick pa L).length ≤ xc := by
    rcases hle with ⟨hv, h0⟩ | ⟨g, cap, cur, hv, hg, hh, hn, _⟩
    · omega
    · injection hv with e1 e2 e3
      omega
  have hOk : OkL (askO tick pa L) := by unfold askO; exact lossL_ok _ (by
    rw [askT_2, List.nil_append]
    intro s hs
    obtain ⟨m, hm, rfl⟩ := List.mem_map.1 hs
    unfold seqI; omega)
  refine (nack_any (askO tick pa L) xa _ xc V' gg hOk rfl (by have := askO_16 tick pa L; omega) hcap).mono ?_
  rintro e V'' ⟨na, nc, rfl, no, nb⟩
  rw [h.hi.nack hh] at no ⊢
  rw [List.length_map] at no ⊢
  exact ⟨na, nc, rfl, World.ownsRow.mono no (Nat.le_trans h.bl.size b.size), hC.keep nb⟩
/-- one more is laid down -/
theorem LC.push {gk : Nat} {pa high : Int} {L : List Mis} {H : List (Int × Int)} {m : Nat} {va : Option Addr} {vc : Nat} {wa : Option Addr} {wc : Nat} {w V : World} (h : LC gk pa high L H m va vc wa wc w V) (hm : m ≤ 100000) (x y : Int) :
    ∃ a1 c1 W1 a2 c2 W2, (∀ ty, (Builtin.append_ #[37, 37] ty #[.slice va m vc, .slice (some ⟨V.heap.size, 0, none⟩) 1 1]).run Try.prog (V.alloc (.cells #[.int .i64 x] 2)) = .ok (.slice a1 (m + 1) c1) W1) ∧
      (∀ ty, (Builtin.append_ #[37, 37] ty #[.slice wa m wc, .slice (some ⟨W1.heap.size, 0, none⟩) 1 1]).run Try.prog (W1.alloc (.cells #[.int .i64 y] 2)) = .ok (.slice a2 (m + 1) c2) W2) ∧
      LC gk pa high L (H ++ [(x, y)]) (m + 1) a1 c1 a2 c2 w W2 ∧ Ty [2] V W2 := by
  obtain ⟨M, a, c, k1, k2⟩ := h.ks
  have hm1 : (H.map (·.1)).length = m := by rw [List.length_map, h.ml]
  have hm2 : (H.map (·.2)).length = m := by rw [List.length_map, h.ml]
  obtain ⟨a1, c1, W1, A1, B1, T1, S1⟩ := h.r.pushI h.bl.size (by omega) x
  obtain ⟨a2, c2, W2, A2, B2, T2, S2⟩ := S1.pushN (Nat.le_trans h.bl.size B1.size) (by omega) y
  rw [hm1] at A1 S2
  rw [hm2] at A2 S2
  have T := T1.trans T2
  refine ⟨a1, c1, W1, a2, c2, W2, A1, A2, ⟨h.bl.trans (B1.trans B2), ⟨M, a, c, k1.ty T (by decide) (by decide) (by decide), k2⟩, by rw [List.length_append, h.ml]; rfl, ?_⟩, T⟩
  rw [List.map_append, List.map_append]
  exact S2
theorem LC.at_ {gk : Nat} {pa high : Int} {L : List Mis} {H : List (Int × Int)} {m : Nat} {va : Option Addr} {vc : Nat} {wa : Option Addr} {wc : Nat} {w V : World} (h : LC gk pa high L H m va vc wa wc w V) {k : Nat} (hk : k < m) :
    ∃ b1 b2, va = some ⟨b1, 0, none⟩ ∧ wa = some ⟨b2, 0, none⟩ ∧ V.cell? ⟨b1, k, none⟩ = some (.int .i64 (H.getD k (0, 0)).1) ∧ V.cell? ⟨b2, k, none⟩ = some (.int .i64 (H.getD k (0, 0)).2) := by
  have hk2 : k < H.length := by rw [← h.ml]; exact hk
  have hm1 : (H.map (·.1)).length = m := by rw [List.length_map, h.ml]
  have hm2 : (H.map (·.2)).length = m := by rw [List.length_map, h.ml]
  have h1 := h.r.hI
  have h2 := h.r.hN
  rw [hm1] at h1
  rw [hm2] at h2
  obtain ⟨b1, e1, -, c1⟩ := own_get h1 (x := k) (u := .int .i64 (H.getD k (0, 0)).1) (by unfold vsI; rw [List.map_map, List.getElem?_map, List.getD, List.getElem?_eq_getElem hk2]; rfl)
  obtain ⟨b2, e2, -, c2⟩ := own_get h2 (x := k) (u := .int .i64 (H.getD k (0, 0)).2) (by unfold vsI; rw [List.map_map, List.getElem?_map, List.getD, List.getElem?_eq_getElem hk2]; rfl)
  exact ⟨b1, b2, e1, e2, c1, c2⟩
theorem cnt_take {H : List (Int × Int)} {k : Nat} (hk : k < H.length) (s : Int) : cnt (H.take (k + 1)) s = cnt (H.take k) s + if (H.getD k (0, 0)).1 = s then 1 else 0 := by
  rw [List.take_succ_eq_append_getElem hk, cnt_app]
  congr 1
  unfold cnt
  rw [List.countP_cons, List.countP_nil, List.getD, List.getElem?_eq_getElem hk]
  simp
end Go.Proofs.Ytdmbdageohjodaa
