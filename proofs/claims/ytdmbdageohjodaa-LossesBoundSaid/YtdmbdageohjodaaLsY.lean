/-
  Chapter 20: the reference's keeper: Came at an index that is not above.
-/
import Derived.Test.YtdmbdageohjodaaLsX
namespace Go.Proofs.Ytdmbdageohjodaa
open Go.RowKit
set_option linter.unusedVariables false
set_option linter.unusedSimpArgs false
attribute [local irreducible] wpStill wpQuiet MixC.wpMix MixC.wpPick MixC.wpPickT
attribute [local go_sem] MixC.rdOp MixC.rd MixC.rdUpon MixC.mvUpon

def notI (i : Int) : Mis → Bool := fun m => !decide (m.i = i)
theorem filt_none {L : List Mis} {i : Int} (h : ∀ y ∈ L, y.i ≠ i) : L.filter (notI i) = L := by
  rw [List.filter_eq_self]
  intro a ha
  simp [notI, h a ha]
theorem filt_at {L : List Mis} {i : Int} {x : Nat} (hx : x < L.length) (h : (L[x]'hx).i = i) (nd : (L.map (·.i)).Nodup) : L.filter (notI i) = L.eraseIdx x := by
  have e : L = L.take x ++ L[x]'hx :: L.drop (x + 1) := by
    rw [← List.drop_eq_getElem_cons hx, List.take_append_drop]
  rw [List.eraseIdx_eq_take_drop_succ]
  obtain ⟨P, hP⟩ : ∃ P, L.take x = P := ⟨_, rfl⟩
  obtain ⟨S, hS⟩ : ∃ S, L.drop (x + 1) = S := ⟨_, rfl⟩
  obtain ⟨y, hy⟩ : ∃ y, L[x]'hx = y := ⟨_, rfl⟩
  rw [hy] at h
  rw [hP, hS, hy] at e
  rw [hP, hS]
  clear hP hS hy
  subst e
  rw [List.map_append, List.map_cons, List.nodup_append] at nd
  obtain ⟨-, n2, n3⟩ := nd
  rw [List.nodup_cons] at n2
  rw [List.filter_append, List.filter_cons_of_neg (by simp [notI, h])]
  congr 1
  · refine filt_none (fun z hz e => ?_)
    exact n3 z.i (List.mem_map.2 ⟨z, hz, rfl⟩) y.i (by simp) (by rw [e, h])
  · refine filt_none (fun z hz e => ?_)
    exact n2.1 (by rw [h, ← e]; exact List.mem_map.2 ⟨z, hz, rfl⟩)
set_option maxRecDepth 100000 in
set_option maxHeartbeats 4000000 in
theorem rcame_same (B g : Nat) (pause high i tick : Int) (L : List Mis) (w : World) (h : RK B g pause high L w) (hB : B ≤ w.heap.size) (hL : L.length ≤ 1000) (h0 : 0 ≤ i) (h1 : i ≤ high) (hh : high ≤ 4611686018427387904) (nd : (L.map (·.i)).Nodup) :
    Calls Try.prog 22 #[.pointer (some ⟨g, 0, none⟩), .int .i64 i, .int .i64 tick] w (RPost B g pause high (L.filter (notI i)) w) := by
  have H := Lib.hid h
  have ND := Lib.hid nd
  obtain ⟨gB, aI, cI, aN, cN, aT, cT, hg, hr⟩ := h
  obtain ⟨n, hn⟩ : ∃ n, L.length = n := ⟨_, rfl⟩
  have HR := Lib.hid hr
  have HN := Lib.hid hn
  rw [hn] at hg
  have c1 : w.cell? ⟨g, 1, none⟩ = some (.int .i64 high) := by rw [cell_blk hg]; rfl
  have c2 : w.cell? ⟨g, 2, none⟩ = some (.slice aI n cI) := by rw [cell_blk hg]; rfl
  have HG := Lib.hid hg
  have i1 : IntKind.i64.wrap (i - high) = i - high := IntWalk.i64_in _ (by omega)
  have d1 : decide (1099511627776 < i - high) = false := by simp; omega
  clear hr hg nd hn
  go_enter Try.func22, Try.ntmps22
  go_wp2_with fail
  go_loopw [8] (fun s8 wr => ∃ x : Nat, x ≤ n ∧ s8 = .int .i64 x ∧ wr = w ∧ Hid (∀ y (hy : y < L.length), y < x → (L[y]'hy).i ≠ i)) (fun s8 _ => n - (intOf s8).toNat)
  case atStart => exact ⟨0, by omega, rfl, rfl, Lib.hid (fun y _ e => by omega)⟩
  case round =>
    obtain ⟨x, hx, rfl, rfl, HX⟩ := hrel
    by_cases hlt : x < n
    · have hxL : x < L.length := by rw [HN.out]; exact hlt
      have hxi : (x : Int) < n := by omega
      obtain ⟨rI, rN, rT, ⟨rfl, rfl, rfl⟩, lts, e1, e2, e3⟩ := HR.out.get hxL
      obtain ⟨y, hy⟩ : ∃ y, (L[x]'hxL).i = y := ⟨_, rfl⟩
      rw [hy] at e1
      clear e2 e3 lts
      by_cases hyi : y = i
      · have F := filt_at hxL (hy.trans hyi) ND.out
        have F' := Lib.hid F
        have t1 : (y == i) = true := by simpa using hyi
        clear hyi hy F
        go_wp2_with fail
        refine (drop_any B g pause high L x wr H.out hB hL (by omega)).mono ?_
        rintro e w1 ⟨rfl, k1, b1⟩
        have K1 : Hid (RPost B g pause high (L.filter (notI i)) wr (.returned (.tuple #[])) w1) := Lib.hid (by
          rw [F'.out]
          exact ⟨rfl, k1, b1.below hB (fun k e => by cases e; exact H.out.gB), Ty.but b1 (T := 41) (fun k e => by cases e; exact ⟨_, _, HG.out⟩) (by decide)⟩)
        clear k1 b1
        go_wp2_with fail
        go_returns
        exact K1.out
      · have t1 : (y == i) = false := by simpa using hyi
        have HX2 : Hid (∀ z (hz : z < L.length), z < x + 1 → (L[z]'hz).i ≠ i) := Lib.hid (fun z hz hzx => by
          by_cases hzx2 : z < x
          · exact HX.out z hz hzx2
          · have : z = x := by omega
            subst this
            rw [hy]; exact hyi)
        clear hy hyi
        go_wp2_with fail
        refine ⟨⟨x + 1, by omega, by go_num, (by trivial), HX2⟩, ?_⟩
        simp [intOf] <;> omega
    · obtain rfl : n = x := by omega
      have F : L.filter (notI i) = L := filt_none (fun y hy e => by
        obtain ⟨z, hz, rfl⟩ := List.getElem_of_mem hy
        exact HX.out z hz (by rw [HN.out] at hz; exact hz) e)
      have K1 : Hid (RPost B g pause high (L.filter (notI i)) wr (.returned (.tuple #[])) wr) := Lib.hid (by
        rw [F]; exact ⟨rfl, H.out, Below.refl _ _, Ty.refl _ _⟩)
      clear F
      go_wp2_with fail
      go_returns
      exact K1.out
end Go.Proofs.Ytdmbdageohjodaa
