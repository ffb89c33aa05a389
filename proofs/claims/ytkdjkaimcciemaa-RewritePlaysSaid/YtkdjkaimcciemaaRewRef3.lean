/-
  Map of the reference of chapter 22.
-/
import Derived.Test.YtkdjkaimcciemaaRewRef2
import Derived.IntWalk
import Derived.Deep.RegionLaw
namespace Go.Proofs.Ytkdjkaimcciemaa
open Go.RowKit
set_option linter.unusedVariables false
set_option linter.unusedSimpArgs false

theorem rrmap_state (r : Nat) (f : Int) (fo : Bool) (a1 a2 a3 b1 b2 b3 : Int) (v : Value) (x1 x2 x3 : Int) (w : World) (hg : rwr w r f fo a1 a2 a3 b1 b2 b3 v) (h : fo = false ∨ x1 < 0) :
    Calls Try.prog 41 #[.pointer (some ⟨r, 0, none⟩), mapped x1 x2 x3] w fun e w' => e = .returned (.tuple #[mapped 0 0 0, .int .i64 10]) ∧ Below w.heap.size w w' := by
  unfold mapped
  have i1 : w.cell? ⟨r, 1, none⟩ = some (.bool fo) := cell_blk hg
  have hl : r < w.heap.size := hg.lt
  have hn : w.heap.size ≠ r := Nat.ne_of_gt hl
  have hn1 : w.heap.size + 1 ≠ r := by omega
  by_cases hx : x1 < 0
  · have e1 : decide (x1 < 0) = true := by simpa using hx
    cases fo
    all_goals
      go_enter Try.func41, Try.ntmps41
      go_wp2_with fail
      go_returns
      exact ⟨rfl, by (repeat (first | exact Below.refl _ _ | refine Below.alloc ?_ (by first | (simp; done) | (simp; omega) | (simp [size_drewN]; done) | (simp [size_drewN]; omega)) _ | refine Below.drew ?_ | refine below_drewN0 ?_ _ | refine Below.setCell ?_ (by first | (simp; done) | (simp; omega) | (simp [size_drewN]; done) | (simp [size_drewN]; omega)) _))⟩
  · have hf : fo = false := by rcases h with h | h; exact h; omega
    subst hf
    go_enter Try.func41, Try.ntmps41
    go_wp2_with fail
    go_returns
    exact ⟨rfl, by (repeat (first | exact Below.refl _ _ | refine Below.alloc ?_ (by first | (simp; done) | (simp; omega) | (simp [size_drewN]; done) | (simp [size_drewN]; omega)) _ | refine Below.drew ?_ | refine below_drewN0 ?_ _ | refine Below.setCell ?_ (by first | (simp; done) | (simp; omega) | (simp [size_drewN]; done) | (simp [size_drewN]; omega)) _))⟩
theorem rrmap_old (r : Nat) (f : Int) (a1 a2 a3 b1 b2 b3 : Int) (v : Value) (x1 x2 x3 : Int) (w : World) (hg : rwr w r f true a1 a2 a3 b1 b2 b3 v) (h : 0 ≤ x1) (h2 : x1 < a1) :
    Calls Try.prog 41 #[.pointer (some ⟨r, 0, none⟩), mapped x1 x2 x3] w fun e w' => e = .returned (.tuple #[mapped 0 0 0, .int .i64 5]) ∧ Below w.heap.size w w' := by
  unfold mapped
  have i1 : w.cell? ⟨r, 1, none⟩ = some (.bool true) := cell_blk hg
  have i2 : w.cell? ⟨r, 2, none⟩ = some (.int .i64 a1) := cell_blk hg
  have hl : r < w.heap.size := hg.lt
  have hn : w.heap.size ≠ r := Nat.ne_of_gt hl
  have hn1 : w.heap.size + 1 ≠ r := by omega
  have e0 : decide (x1 < 0) = false := by simp; omega
  have e1 : decide (x1 < a1) = true := by simpa using h2
  go_enter Try.func41, Try.ntmps41
  go_wp2_with fail
  go_quiet (fail)
  go_wp2_with fail
  go_returns
  exact ⟨rfl, by (repeat (first | exact Below.refl _ _ | refine Below.alloc ?_ (by first | (simp; done) | (simp; omega) | (simp [size_drewN]; done) | (simp [size_drewN]; omega)) _ | refine Below.drew ?_ | refine below_drewN0 ?_ _ | refine Below.setCell ?_ (by first | (simp; done) | (simp; omega) | (simp [size_drewN]; done) | (simp [size_drewN]; omega)) _))⟩

theorem pic_of (a3 b3 x3 : Int) (ha : 0 ≤ a3 ∧ a3 ≤ 65535) (hb : 0 ≤ b3 ∧ b3 ≤ 65535) (hx : 0 ≤ x3 ∧ x3 ≤ 65535) : ∃ p, (b3 + x3 - a3).tmod 32768 = p ∧ -32768 < p ∧ p < 32768 ∧ Hid (my3 a3 b3 x3 = if p < 0 then p + 32768 else p) := by
  refine ⟨_, rfl, ?_, ?_, Lib.hid ?_⟩
  · rcases Int.lt_or_le (b3 + x3 - a3) 0 with h | h
    · obtain ⟨m, hm⟩ : ∃ m, b3 + x3 - a3 = -m := ⟨-(b3 + x3 - a3), by omega⟩
      rw [hm, Int.neg_tmod, Int.tmod_eq_emod_of_nonneg (by omega)]; omega
    · rw [Int.tmod_eq_emod_of_nonneg h]; omega
  · exact Int.tmod_lt_of_pos _ (by decide)
  · show (b3 + x3 - a3) % 32768 = _
    rcases Int.lt_or_le (b3 + x3 - a3) 0 with h | h
    · obtain ⟨m, hm⟩ : ∃ m, b3 + x3 - a3 = -m := ⟨-(b3 + x3 - a3), by omega⟩
      rw [hm, Int.neg_tmod, Int.tmod_eq_emod_of_nonneg (by omega)]
      split <;> omega
    · rw [Int.tmod_eq_emod_of_nonneg h, if_neg (by omega)]

theorem outL_upd (O : Nat → Int × Int × Int) (n : Nat) (y1 y2 y3 : Int) : outL (fun i => if i = n then (y1, y2, y3) else O i) (n + 1) = outL O n ++ [.int .i64 y1, .int .u32 y2, .int .u16 y3] := by
  have : ∀ m, m ≤ n → outL (fun i => if i = n then (y1, y2, y3) else O i) m = outL O m := by
    intro m
    induction m with
    | zero => intro _; rfl
    | succ m ih => intro hm; rw [outL_succ, outL_succ, ih (by omega), if_neg (by omega)]
  rw [outL_succ, this n (Nat.le_refl _), if_pos rfl]
theorem rr_end (base g r S q' cap' n : Nat) (v : Value) (O : Nat → Int × Int × Int) (y1 y2 y3 : Int) (w V w5 U w' : World) (x : Obj) (ho : outs w base g r v n O) (hgl : g < w.heap.size) (hr : r < w.heap.size) (hS : w.heap.size ≤ S) (hSV : S < V.heap.size) (bV : Below w.heap.size w V)
    (G5 : ((V.alloc x).drew).grownBy w5 v.ownBlock) (O5 : w5.ownsRow base 68 3 (.slice (some ⟨q', 0, none⟩) (n + 1) cap') (n + 1) (outL O n ++ [.int .i64 y1, .int .u32 y2, .int .u16 y3])) (A5 : v.ownBlock = some q' ∨ q' = V.heap.size + 1) (kU : Keeps r w5 U) (kS : Keeps S U w') :
    outs w' base g r (.slice (some ⟨q', 0, none⟩) (n + 1) cap') (n + 1) (fun i => if i = n then (y1, y2, y3) else O i) ∧ (∀ k, k < w.heap.size → k ≠ r → v.ownBlock ≠ some k → w'.heap[k]? = w.heap[k]?) ∧ w.heap.size ≤ w'.heap.size ∧ w'.os = w.os ∧ w'.tape = w.tape ∧ w'.output = w.output := by
  have hlt := ho.own.lt
  have hne := ho.ne
  have hsz := G5.size
  have e : ((V.alloc x).drew).heap.size = V.heap.size + 1 := by simp
  rw [e] at hsz
  have hqne : q' ≠ g ∧ q' ≠ r ∧ q' ≠ S := by
    rcases A5 with h | h
    · have := hlt q' h; have h2 := hne q' h; exact ⟨h2.1, h2.2, by omega⟩
    · have := bV.size; omega
  have oS : outs w5 base S r (.slice (some ⟨q', 0, none⟩) (n + 1) cap') (n + 1) (fun i => if i = n then (y1, y2, y3) else O i) := ⟨by rw [outL_upd]; exact O5, fun q hq => by
    obtain rfl : q' = q := by simpa [Value.ownBlock] using hq
    exact ⟨hqne.2.2, hqne.2.1⟩⟩
  have oS' := (oS.keepsR kU).keepsG kS
  refine ⟨⟨oS'.own, fun q hq => ⟨?_, (oS'.ne q hq).2⟩⟩, fun k hk hkr hkv => ?_, ?_, ?_, ?_, ?_⟩
  · obtain rfl : q' = q := by simpa [Value.ownBlock] using hq
    exact hqne.1
  · have h1 : w5.heap[k]? = ((V.alloc x).drew).heap[k]? := G5.block k (by have := bV.size; omega) (Ne.symm hkv)
    have h2 : ((V.alloc x).drew).heap[k]? = V.heap[k]? := (((Below.refl V.heap.size V).alloc (Nat.le_refl _) x).drew).block k (by have := bV.size; omega)
    exact (kS.block k (by have := bV.size; have := kU.size; omega) (by omega)).trans ((kU.block k (by have := bV.size; omega) hkr).trans (h1.trans (h2.trans (bV.block k hk))))
  · have := bV.size; have := kU.size; have := kS.size; omega
  · exact kS.os.trans (kU.os.trans (G5.os.trans bV.os))
  · exact kS.tape.trans (kU.tape.trans (G5.tape.trans bV.tape))
  · exact kS.output.trans (kU.output.trans (G5.output.trans bV.output))

theorem infoM : (Try.prog.info? 68).map (fun i => (i.zero, i.size, i.bytes)) = some (some (.agg #[.int .i64 0, .int .u32 0, .int .u16 0]), 3, 16) := by kernel_rfl
set_option maxRecDepth 100000 in
set_option maxHeartbeats 8000000 in
theorem rrmap_any (base g r : Nat) (f : Int) (a1 a2 a3 b1 b2 b3 : Int) (v : Value) (n : Nat) (O : Nat → Int × Int × Int) (x1 x2 x3 : Int) (w : World) (hg : rwr w r f true a1 a2 a3 b1 b2 b3 v) (ho : outs w base g r v n O) (hbase : base ≤ w.heap.size) (hgl : g < w.heap.size) (hn : n ≤ 1000)
    (h1 : 0 ≤ x1) (h2 : a1 ≤ x1) (h3 : 0 ≤ a1 ∧ 0 ≤ b1 ∧ b1 + x1 ≤ 9223372036854775807 ∧ x1 ≤ 9000000000000000000) (ha : 0 ≤ a3 ∧ a3 ≤ 65535) (hb : 0 ≤ b3 ∧ b3 ≤ 65535) (hx : 0 ≤ x3 ∧ x3 ≤ 65535) :
    Calls Try.prog 41 #[.pointer (some ⟨r, 0, none⟩), mapped x1 x2 x3] w fun e w' =>
      e = .returned (.tuple #[mapped (my1 a1 b1 x1) (my2 a2 b2 x2) (my3 a3 b3 x3), .int .i64 0]) ∧
      ∃ v', rwr w' r f true a1 a2 a3 b1 b2 b3 v' ∧ outs w' base g r v' (n + 1) (fun i => if i = n then (my1 a1 b1 x1, my2 a2 b2 x2, my3 a3 b3 x3) else O i) ∧ (∀ k, k < w.heap.size → k ≠ r → v.ownBlock ≠ some k → w'.heap[k]? = w.heap[k]?) ∧ w.heap.size ≤ w'.heap.size ∧ w'.os = w.os ∧ w'.tape = w.tape ∧ w'.output = w.output := by
  obtain ⟨p, hp, hp1, hp2, HP⟩ := pic_of a3 b3 x3 ha hb hx
  obtain ⟨y1, hy1, E1⟩ : ∃ y1, IntKind.i64.wrap (b1 + (x1 - a1)) = y1 ∧ Hid (my1 a1 b1 x1 = y1) := ⟨_, IntWalk.i64_in _ (by omega), Lib.hid (by unfold my1; omega)⟩
  obtain ⟨y2, hy2, E2⟩ : ∃ y2, IntKind.u32.wrap (b2 + IntKind.u32.wrap (x2 - a2)) = y2 ∧ Hid (my2 a2 b2 x2 = y2) := ⟨_, rfl, Lib.hid (by rw [IntKind.wrap_u32, IntKind.wrap_u32]; show (b2 + x2 - a2) % 4294967296 = _; omega)⟩
  have hy0 : IntKind.i64.wrap (x1 - a1) = x1 - a1 := IntWalk.i64_in _ (by omega)
  obtain ⟨y3, E3, hy3⟩ : ∃ y3, Hid (my3 a3 b3 x3 = y3) ∧ 0 ≤ y3 ∧ y3 ≤ 32767 := ⟨_, Lib.hid rfl, by unfold my3; omega, by unfold my3; omega⟩
  rw [E1.out, E2.out, E3.out]
  rw [E3.out] at HP
  have e0 : decide (x1 < 0) = false := by simp; omega
  have e1 : decide (x1 < a1) = false := by simp; omega
  have q1 : IntKind.i64.wrap (b3 + x3) = b3 + x3 := IntWalk.i64_in _ (by omega)
  have q2 : IntKind.i64.wrap (b3 + x3 - a3) = b3 + x3 - a3 := IntWalk.i64_in _ (by omega)
  have q3 : IntKind.i64.wrap p = p := IntWalk.i64_in _ (by omega)
  have hl : r < w.heap.size := hg.lt
  have hn0 : w.heap.size ≠ r := Nat.ne_of_gt hl
  have hn1 : w.heap.size + 1 ≠ r := by omega
  have i1 : w.cell? ⟨r, 1, none⟩ = some (.bool true) := cell_blk hg
  have i2 : w.cell? ⟨r, 2, none⟩ = some (.int .i64 a1) := cell_blk hg
  have i3 : w.cell? ⟨r, 3, none⟩ = some (.int .u32 a2) := cell_blk hg
  have i4 : w.cell? ⟨r, 4, none⟩ = some (.int .u16 a3) := cell_blk hg
  have i5 : w.cell? ⟨r, 5, none⟩ = some (.int .i64 b1) := cell_blk hg
  have i6 : w.cell? ⟨r, 6, none⟩ = some (.int .u32 b2) := cell_blk hg
  have i7 : w.cell? ⟨r, 7, none⟩ = some (.int .u16 b3) := cell_blk hg
  have i8 : w.cell? ⟨r, 8, none⟩ = some v := cell_blk hg
  clear E1 E2 E3
  obtain ⟨ha0, ha1⟩ := ha
  obtain ⟨hb0, hb1⟩ := hb
  obtain ⟨hx0, hx1⟩ := hx
  have v1 : wrap64 b3 = b3 := by unfold wrap64; omega
  have v2 : wrap64 x3 = x3 := by unfold wrap64; omega
  have v3 : wrap64 a3 = a3 := by unfold wrap64; omega
  have v4 : wrap64 (b3 + x3) = b3 + x3 := by unfold wrap64; omega
  have v5 : wrap64 (b3 + x3 - a3) = b3 + x3 - a3 := by unfold wrap64; omega
  obtain ⟨i0', hi, hz0, hz1, hz2⟩ := info_parts infoM
  have hcase : (decide (p < 0) = true ∧ IntKind.u16.wrap (p + 32768) = y3) ∨ (decide (p < 0) = false ∧ IntKind.u16.wrap p = y3) := by
    have := HP.out
    rcases Int.lt_or_le p 0 with h | h
    · rw [if_pos h] at this; exact .inl ⟨by simpa using h, by rw [IntKind.wrap_u16]; omega⟩
    · rw [if_neg (by omega)] at this; exact .inr ⟨by simpa using h, by rw [IntKind.wrap_u16]; omega⟩
  unfold mapped
  rcases hcase with ⟨hp0, hy⟩ | ⟨hp0, hy⟩
  all_goals
    go_enter Try.func41, Try.ntmps41
    go_wp2_with fail
    go_quiet (fail)
    go_wp2_with fail
    go_quiet (fail)
    go_wp2_with fail
    go_ways
    generalize hW : ((w.alloc _).alloc _).drewN _ = W
    have p0 : W.heap[w.heap.size]? = some (.cells #[.int .i64 x1, .int .u32 x2, .int .u16 x3] 68 (0, 0)) := by rw [← hW, heap_drewN, heap_alloc, heap_alloc]; simp
    have p1 : W.heap[w.heap.size + 1]? = some (.cells #[.int .i64 0, .int .u32 0, .int .u16 0] 68 (0, 0)) := by rw [← hW, heap_drewN, heap_alloc]; simp
    have bW : Below w.heap.size w W := by rw [← hW]; exact below_drewN0 (((Below.refl _ _).alloc (Nat.le_refl _) _).alloc (by simp) _) _
    have gW : rwr W r f true a1 a2 a3 b1 b2 b3 v := Below.blk bW hg hl
    have oW := ho.below bW
    have hz : W.heap.size = w.heap.size + 2 := by rw [← hW, size_drewN]; simp
    clear hW i1 i2 i3 i4 i5 i6 i7 i8
    have k0 : W.cell? ⟨w.heap.size, 0, none⟩ = some (.int .i64 x1) := cell_blk p0
    have k1 : W.cell? ⟨w.heap.size, 1, none⟩ = some (.int .u32 x2) := cell_blk p0
    have i2 : W.cell? ⟨r, 2, none⟩ = some (.int .i64 a1) := cell_blk gW
    have i3 : W.cell? ⟨r, 3, none⟩ = some (.int .u32 a2) := cell_blk gW
    have i5 : W.cell? ⟨r, 5, none⟩ = some (.int .i64 b1) := cell_blk gW
    have i6 : W.cell? ⟨r, 6, none⟩ = some (.int .u32 b2) := cell_blk gW
    have HZ := Lib.hid hz
    clear hz
    go_region_held3 (fun W' => W'.cell? ⟨w.heap.size, 0, none⟩ = some (.int .i64 x1) ∧ W'.cell? ⟨w.heap.size, 1, none⟩ = some (.int .u32 x2) ∧ W'.cell? ⟨r, 2, none⟩ = some (.int .i64 a1) ∧ W'.cell? ⟨r, 3, none⟩ = some (.int .u32 a2) ∧ W'.cell? ⟨r, 5, none⟩ = some (.int .i64 b1) ∧ W'.cell? ⟨r, 6, none⟩ = some (.int .u32 b2)) (go_keep) (fail)
    go_wp2_with fail
    generalize hV : (W.alloc _).drew = V
    have q1 : V.heap[W.heap.size]? = some (.cells #[.int .i64 y1, .int .u32 y2, .int .u16 y3] 68 (0, 0)) := by rw [← hV, heap_drew, heap_alloc]; simp
    have bV : Below w.heap.size w V := by rw [← hV]; exact (bW.alloc bW.size _).drew
    have gV : rwr V r f true a1 a2 a3 b1 b2 b3 v := Below.blk bV hg hl
    have oV := ho.below bV
    have p1V : V.heap[w.heap.size + 1]? = some (.cells #[.int .i64 0, .int .u32 0, .int .u16 0] 68 (0, 0)) := by rw [← hV, heap_drew, heap_alloc, if_neg (by have := HZ.out; omega)]; exact p1
    have hKz : w.heap.size + 1 < W.heap.size := by have := HZ.out; omega
    have hKV : W.heap.size < V.heap.size := lt_of_block q1
    clear hV gW oW p0 p1 k0 k1 i2 i3 i5 i6 bW HZ
    generalize W.heap.size = K at *
    have l0 : V.cell? ⟨K, 0, none⟩ = some (.int .i64 y1) := cell_blk q1
    have l1 : V.cell? ⟨K, 1, none⟩ = some (.int .u32 y2) := cell_blk q1
    have l2 : V.cell? ⟨K, 2, none⟩ = some (.int .u16 y3) := cell_blk q1
    have i8 : V.cell? ⟨r, 8, none⟩ = some v := cell_blk gV
    have j8 : V.frozen? ⟨r, 8, none⟩ = false := gV.set 8
    have HOV : Hid (∀ x, ((V.alloc x).drew).ownsRow base 68 3 v n (outL O n)) := Lib.hid (fun x => (oV.below (((Below.refl _ V).alloc (Nat.le_refl _) x).drew)).own)
    have hVr : V.heap.size ≠ r := by omega
    have news1 : Hid (∀ W2 : World, W2.heap[V.heap.size]? = some (.cells #[.int .i64 y1, .int .u32 y2, .int .u16 y3] 68 (0, 0)) → ∀ (j : Nat) u, [Value.int .i64 y1, .int .u32 y2, .int .u16 y3][j]? = some u → W2.cell? ((⟨V.heap.size, 0, none⟩ : Addr).add j) = some u) := by
      refine Lib.hid fun W2 hb j u hj => ?_
      rw [addr_add, Nat.zero_add, cell_blk hb]
      simpa using hj
    have hlo : v.ownBlock ≠ some r := fun h => (ho.ne r h).2 rfl
    have hvlt : ∀ q, v.ownBlock = some q → q < w.heap.size := fun q hq => (ho.own.lt q hq).2
    have hlK : v.ownBlock ≠ some K := fun h => by have := hvlt K h; omega
    have hlS : v.ownBlock ≠ some (w.heap.size + 1) := fun h => by have := hvlt _ h; omega
    have hrV : r < V.heap.size := gV.lt
    have VB : Hid (∀ x k, k < V.heap.size → ((V.alloc x).drew).heap[k]? = V.heap[k]?) := Lib.hid (fun x k hk => (((Below.refl V.heap.size V).alloc (Nat.le_refl _) x).drew).block k hk)
    clear hvlt
    go_region_law ((
      refine step_append_lies _ (by rfl) (.tmp 85) (.tmp 87) 77 (by rfl) base 68 i0' (.agg #[.int .i64 0, .int .u32 0, .int .u16 0]) 3 16 Try.underlying77 hi hz0 hz1 hz2 (by rfl) (by decide) v n (outL O n) (by rfl) (HOV.out _) ⟨V.heap.size, 0, none⟩ 1 1 [.int .i64 y1, .int .u32 y2, .int .u16 y3] (by rfl) (by rfl) (news1.out _ (by rw [heap_drew, heap_alloc]; simp)) (by simp [Value.oneCell']) (by omega) (by unfold maxLen; omega) (by omega) (by have := bV.size; simp; omega) (V.heap.size + 1) (by simp) ?_
      intro q' cap' w5 own5 grow5 at5 lt5
      have r5 : rwr w5 r f true a1 a2 a3 b1 b2 b3 v := (grow5.block r (by simp; omega) (Ne.symm hlo)).trans ((VB.out _ r hrV).trans gV)
      have K5 : w5.heap[K]? = some (.cells #[.int .i64 y1, .int .u32 y2, .int .u16 y3] 68 (0, 0)) := (grow5.block K (by simp; omega) (Ne.symm hlK)).trans ((VB.out _ K hKV).trans q1)
      have p5 : w5.heap[w.heap.size + 1]? = some (.cells #[.int .i64 0, .int .u32 0, .int .u16 0] 68 (0, 0)) := (grow5.block _ (by simp; omega) (Ne.symm hlS)).trans ((VB.out _ _ (by omega)).trans p1V)
      have s8 : w5.frozen? ⟨r, 8, none⟩ = false := r5.set 8
      have s9 : w5.cell? ⟨r, 8, none⟩ = some v := cell_blk r5
      have l05 : w5.cell? ⟨K, 0, none⟩ = some (.int .i64 y1) := cell_blk K5
      have l15 : w5.cell? ⟨K, 1, none⟩ = some (.int .u32 y2) := cell_blk K5
      have l25 : w5.cell? ⟨K, 2, none⟩ = some (.int .u16 y3) := cell_blk K5
      have G5 := Lib.hid grow5
      have O5 := Lib.hid own5
      have A5 := Lib.hid at5
      clear own5 grow5 at5))
    all_goals
      clear s8 s9 l05 l15 l25 l0 l1 l2 i8 j8
      generalize hU : World.setCell _ _ _ = U
      have rU : rwr U r f true a1 a2 a3 b1 b2 b3 (.slice (some ⟨q', 0, none⟩) (n + 1) cap') := by rw [← hU]; unfold rwr at r5 ⊢; simp [heap_set, r5, putIn]
      have kU : Keeps r w5 U := by rw [← hU]; exact (Keeps.refl r w5).setCell (.inl rfl) _
      have K6 : U.heap[K]? = some (.cells #[.int .i64 y1, .int .u32 y2, .int .u16 y3] 68 (0, 0)) := (kU.block K (lt_of_block K5) (by omega)).trans K5
      have p6 : U.heap[w.heap.size + 1]? = some (.cells #[.int .i64 0, .int .u32 0, .int .u16 0] 68 (0, 0)) := (kU.block _ (lt_of_block p5) hn1).trans p5
      clear hU r5 K5 p5
      have m0 : U.cell? ⟨K, 0, none⟩ = some (.int .i64 y1) := cell_blk K6
      have m1 : U.cell? ⟨K, 1, none⟩ = some (.int .u32 y2) := cell_blk K6
      have m2 : U.cell? ⟨K, 2, none⟩ = some (.int .u16 y3) := cell_blk K6
      have o0 : U.cell? ⟨w.heap.size + 1, 0, none⟩ = some (.int .i64 0) := cell_blk p6
      have o1 : U.cell? ⟨w.heap.size + 1, 1, none⟩ = some (.int .u32 0) := cell_blk p6
      have o2 : U.cell? ⟨w.heap.size + 1, 2, none⟩ = some (.int .u16 0) := cell_blk p6
      have u0 : U.frozen? ⟨w.heap.size + 1, 0, none⟩ = false := free_blk p6
      have u1 : U.frozen? ⟨w.heap.size + 1, 1, none⟩ = false := free_blk p6
      have u2 : U.frozen? ⟨w.heap.size + 1, 2, none⟩ = false := free_blk p6
      go_wp2_with fail
      have kS : Keeps (w.heap.size + 1) U (((U.setCell ⟨w.heap.size + 1, 0, none⟩ (.int .i64 y1)).setCell ⟨w.heap.size + 1, 1, none⟩ (.int .u32 y2)).setCell ⟨w.heap.size + 1, 2, none⟩ (.int .u16 y3)) := by
        (iterate 3 (refine Keeps.setCell ?_ (by left; rfl) _)); exact Keeps.refl _ _
      have pS : (((U.setCell ⟨w.heap.size + 1, 0, none⟩ (.int .i64 y1)).setCell ⟨w.heap.size + 1, 1, none⟩ (.int .u32 y2)).setCell ⟨w.heap.size + 1, 2, none⟩ (.int .u16 y3)).heap[w.heap.size + 1]? = some (.cells #[.int .i64 y1, .int .u32 y2, .int .u16 y3] 68 (0, 0)) := by simp [heap_set, p6, putIn]
      have r0 := cell_blk (i := 0) pS
      have r1 := cell_blk (i := 1) pS
      have r2 := cell_blk (i := 2) pS
      refine bodyPost_ret (by simp [results, Try.results41, go_sem, r0, r1, r2]; try rfl) rfl ?_
      exact ⟨rfl, _, (kS.block r rU.lt (by omega)).trans rU, rr_end base g r (w.heap.size + 1) q' cap' n v O y1 y2 y3 w V w5 U _ _ ho hgl hl (by omega) (by omega) bV G5.out O5.out A5.out kU kS⟩
end Go.Proofs.Ytkdjkaimcciemaa
