/-
  No cell of these rows narrows 'for every input' (looked for: loops, veiled, ifaces, maps, wideKeys, modest, calm, conditions, laid).
  DERIVED. THE GIVEN ROWS OF THIS SEAT. 12 by the template 'for every input the law returns true; each argument reads behind the call as it read before'; 0 by the template 'total and deterministic' (their statements: YtgkjgefnialleaaTotals.lean).
  GIVEN WITH THE SEED: the statements are not yours to turn. If you find one false, say at which input.
  Laid BY PROGRAM, IN A SANDBOX (cutbox-rows.mjs): the forced cells as the released guide's own fill.sh prints them over the translation d6e0d2b54d365ec0… (all of the seat's roots in one cut). By AI agents, Wed Nov 11 2026. No macro, syntax, notation, axiom, sorry.
-/
import Derived.Test.YtgkjgefnialleaaChecked
import GoSem.Claim
import GoSem.ClaimJoined
import GoSem.ClaimMapViews
import Derived.JoinedTies
import Derived.KernelRfl
namespace Go.Proofs.Ytgkjgefnialleaa
/- THE CELL 'sum', in the pinned program and in every row, IS THE sha256 OF THE DUMP (.gsa) THAT YtgkjgefnialleaaProg.lean LOADS. Nothing in Lean hashes anything: it is a label: what it is worth is what the hold of that sum in a sandbox is worth. -/
noncomputable def Try.pinned : Pinned := { name := "ytgkjgefnialleaa", sum := "d6e0d2b54d365ec05d3eed857c6dffb6c3258559e95849fa210981d96a1e6d93", checked := Try.checked }
namespace Rows
def none {H : Type} : Left H := { results := [], args := [] }

/-- 'tenaillelaw02.SeqsIndex': WHATEVER THE INPUT: true; the input reads as it did. -/
def seqsIndexSpec : ChangeSpec := { name := "seqsIndex", fn := fun _ => fun
  | [d1, d2] => { results := [.lit (.bool true)], args := [d1, d2] }
  | _ => none }
def seqsIndexRow : OpenClaim := { program := "ytgkjgefnialleaa", sum := "d6e0d2b54d365ec05d3eed857c6dffb6c3258559e95849fa210981d96a1e6d93", func := "tenaille/tenaillelaw02.SeqsIndex", spec := "seqsIndex", apart := false }
def SeqsIndexSaid : Prop := seqsIndexRow.holds Try.pinned (OpenSpec.ofChange seqsIndexSpec)

/-- ITS FALSE NEIGHBOUR: 'it returns false'. Refute it at one input. -/
def seqsIndexWrong : ChangeSpec := { name := "seqsIndex", fn := fun _ => fun
  | [d1, d2] => { results := [.lit (.bool false)], args := [d1, d2] }
  | _ => none }
def SeqsIndexWrongFalsely : Prop := seqsIndexRow.holds Try.pinned (OpenSpec.ofChange seqsIndexWrong)

/-- 'tenaillelaw02.SeqsBack': WHATEVER THE INPUT: true; the input reads as it did. -/
def seqsBackSpec : ChangeSpec := { name := "seqsBack", fn := fun _ => fun
  | [d1, d2] => { results := [.lit (.bool true)], args := [d1, d2] }
  | _ => none }
def seqsBackRow : OpenClaim := { program := "ytgkjgefnialleaa", sum := "d6e0d2b54d365ec05d3eed857c6dffb6c3258559e95849fa210981d96a1e6d93", func := "tenaille/tenaillelaw02.SeqsBack", spec := "seqsBack", apart := false }
def SeqsBackSaid : Prop := seqsBackRow.holds Try.pinned (OpenSpec.ofChange seqsBackSpec)

/-- ITS FALSE NEIGHBOUR: 'it returns false'. Refute it at one input. -/
def seqsBackWrong : ChangeSpec := { name := "seqsBack", fn := fun _ => fun
  | [d1, d2] => { results := [.lit (.bool false)], args := [d1, d2] }
  | _ => none }
def SeqsBackWrongFalsely : Prop := seqsBackRow.holds Try.pinned (OpenSpec.ofChange seqsBackWrong)

/-- 'tenaillelaw02.SeqsAhead': WHATEVER THE INPUT: true; the input reads as it did. -/
def seqsAheadSpec : ChangeSpec := { name := "seqsAhead", fn := fun _ => fun
  | [d1, d2, d3, d4] => { results := [.lit (.bool true)], args := [d1, d2, d3, d4] }
  | _ => none }
def seqsAheadRow : OpenClaim := { program := "ytgkjgefnialleaa", sum := "d6e0d2b54d365ec05d3eed857c6dffb6c3258559e95849fa210981d96a1e6d93", func := "tenaille/tenaillelaw02.SeqsAhead", spec := "seqsAhead", apart := false }
def SeqsAheadSaid : Prop := seqsAheadRow.holds Try.pinned (OpenSpec.ofChange seqsAheadSpec)

/-- ITS FALSE NEIGHBOUR: 'it returns false'. Refute it at one input. -/
def seqsAheadWrong : ChangeSpec := { name := "seqsAhead", fn := fun _ => fun
  | [d1, d2, d3, d4] => { results := [.lit (.bool false)], args := [d1, d2, d3, d4] }
  | _ => none }
def SeqsAheadWrongFalsely : Prop := seqsAheadRow.holds Try.pinned (OpenSpec.ofChange seqsAheadWrong)

/-- 'tenaillelaw24.CoalesceFew': WHATEVER THE INPUT: true; the input reads as it did. -/
def coalesceFewSpec : ChangeSpec := { name := "coalesceFew", fn := fun _ => fun
  | [d1, d2, d3, d4] => { results := [.lit (.bool true)], args := [d1, d2, d3, d4] }
  | _ => none }
def coalesceFewRow : OpenClaim := { program := "ytgkjgefnialleaa", sum := "d6e0d2b54d365ec05d3eed857c6dffb6c3258559e95849fa210981d96a1e6d93", func := "tenaille/tenaillelaw24.CoalesceFew", spec := "coalesceFew", unfollowed := true, recurses := true, apart := false }
def CoalesceFewSaid : Prop := coalesceFewRow.holds Try.pinned (OpenSpec.ofChange coalesceFewSpec)

/-- ITS FALSE NEIGHBOUR: 'it returns false'. Refute it at one input. -/
def coalesceFewWrong : ChangeSpec := { name := "coalesceFew", fn := fun _ => fun
  | [d1, d2, d3, d4] => { results := [.lit (.bool false)], args := [d1, d2, d3, d4] }
  | _ => none }
def CoalesceFewWrongFalsely : Prop := coalesceFewRow.holds Try.pinned (OpenSpec.ofChange coalesceFewWrong)

/-- 'tenaillelaw24.CoalescePlays': WHATEVER THE INPUT: true; the input reads as it did. -/
def coalescePlaysSpec : ChangeSpec := { name := "coalescePlays", fn := fun _ => fun
  | [d1, d2] => { results := [.lit (.bool true)], args := [d1, d2] }
  | _ => none }
def coalescePlaysRow : OpenClaim := { program := "ytgkjgefnialleaa", sum := "d6e0d2b54d365ec05d3eed857c6dffb6c3258559e95849fa210981d96a1e6d93", func := "tenaille/tenaillelaw24.CoalescePlays", spec := "coalescePlays", unfollowed := true, recurses := true, apart := false }
def CoalescePlaysSaid : Prop := coalescePlaysRow.holds Try.pinned (OpenSpec.ofChange coalescePlaysSpec)

/-- ITS FALSE NEIGHBOUR: 'it returns false'. Refute it at one input. -/
def coalescePlaysWrong : ChangeSpec := { name := "coalescePlays", fn := fun _ => fun
  | [d1, d2] => { results := [.lit (.bool false)], args := [d1, d2] }
  | _ => none }
def CoalescePlaysWrongFalsely : Prop := coalescePlaysRow.holds Try.pinned (OpenSpec.ofChange coalescePlaysWrong)

/-- 'tenaillelaw24.CoalesceNone': WHATEVER THE INPUT: true; the input reads as it did. -/
def coalesceNoneSpec : ChangeSpec := { name := "coalesceNone", fn := fun _ => fun
  | [d] => { results := [.lit (.bool true)], args := [d] }
  | _ => none }
def coalesceNoneRow : OpenClaim := { program := "ytgkjgefnialleaa", sum := "d6e0d2b54d365ec05d3eed857c6dffb6c3258559e95849fa210981d96a1e6d93", func := "tenaille/tenaillelaw24.CoalesceNone", spec := "coalesceNone", unfollowed := true, recurses := true, apart := false }
def CoalesceNoneSaid : Prop := coalesceNoneRow.holds Try.pinned (OpenSpec.ofChange coalesceNoneSpec)

/-- ITS FALSE NEIGHBOUR: 'it returns false'. Refute it at one input. -/
def coalesceNoneWrong : ChangeSpec := { name := "coalesceNone", fn := fun _ => fun
  | [d] => { results := [.lit (.bool false)], args := [d] }
  | _ => none }
def CoalesceNoneWrongFalsely : Prop := coalesceNoneRow.holds Try.pinned (OpenSpec.ofChange coalesceNoneWrong)

/-- 'tenaillelaw01.OctetsNums': WHATEVER THE INPUT: true; the input reads as it did. -/
def octetsNumsSpec : ChangeSpec := { name := "octetsNums", fn := fun _ => fun
  | [d1, d2, d3, d4] => { results := [.lit (.bool true)], args := [d1, d2, d3, d4] }
  | _ => none }
def octetsNumsRow : OpenClaim := { program := "ytgkjgefnialleaa", sum := "d6e0d2b54d365ec05d3eed857c6dffb6c3258559e95849fa210981d96a1e6d93", func := "tenaille/tenaillelaw01.OctetsNums", spec := "octetsNums", apart := false }
def OctetsNumsSaid : Prop := octetsNumsRow.holds Try.pinned (OpenSpec.ofChange octetsNumsSpec)

/-- ITS FALSE NEIGHBOUR: 'it returns false'. Refute it at one input. -/
def octetsNumsWrong : ChangeSpec := { name := "octetsNums", fn := fun _ => fun
  | [d1, d2, d3, d4] => { results := [.lit (.bool false)], args := [d1, d2, d3, d4] }
  | _ => none }
def OctetsNumsWrongFalsely : Prop := octetsNumsRow.holds Try.pinned (OpenSpec.ofChange octetsNumsWrong)

/-- 'tenaillelaw01.OctetsOwn': WHATEVER THE INPUT: true; the input reads as it did. -/
def octetsOwnSpec : ChangeSpec := { name := "octetsOwn", fn := fun _ => fun
  | [d1, d2, d3, d4] => { results := [.lit (.bool true)], args := [d1, d2, d3, d4] }
  | _ => none }
def octetsOwnRow : OpenClaim := { program := "ytgkjgefnialleaa", sum := "d6e0d2b54d365ec05d3eed857c6dffb6c3258559e95849fa210981d96a1e6d93", func := "tenaille/tenaillelaw01.OctetsOwn", spec := "octetsOwn", apart := false }
def OctetsOwnSaid : Prop := octetsOwnRow.holds Try.pinned (OpenSpec.ofChange octetsOwnSpec)

/-- ITS FALSE NEIGHBOUR: 'it returns false'. Refute it at one input. -/
def octetsOwnWrong : ChangeSpec := { name := "octetsOwn", fn := fun _ => fun
  | [d1, d2, d3, d4] => { results := [.lit (.bool false)], args := [d1, d2, d3, d4] }
  | _ => none }
def OctetsOwnWrongFalsely : Prop := octetsOwnRow.holds Try.pinned (OpenSpec.ofChange octetsOwnWrong)

/-- 'tenaillelaw01.OctetsOthers': WHATEVER THE INPUT: true; the input reads as it did. -/
def octetsOthersSpec : ChangeSpec := { name := "octetsOthers", fn := fun _ => fun
  | [d1, d2, d3, d4, d5] => { results := [.lit (.bool true)], args := [d1, d2, d3, d4, d5] }
  | _ => none }
def octetsOthersRow : OpenClaim := { program := "ytgkjgefnialleaa", sum := "d6e0d2b54d365ec05d3eed857c6dffb6c3258559e95849fa210981d96a1e6d93", func := "tenaille/tenaillelaw01.OctetsOthers", spec := "octetsOthers", apart := false }
def OctetsOthersSaid : Prop := octetsOthersRow.holds Try.pinned (OpenSpec.ofChange octetsOthersSpec)

/-- ITS FALSE NEIGHBOUR: 'it returns false'. Refute it at one input. -/
def octetsOthersWrong : ChangeSpec := { name := "octetsOthers", fn := fun _ => fun
  | [d1, d2, d3, d4, d5] => { results := [.lit (.bool false)], args := [d1, d2, d3, d4, d5] }
  | _ => none }
def OctetsOthersWrongFalsely : Prop := octetsOthersRow.holds Try.pinned (OpenSpec.ofChange octetsOthersWrong)

/-- 'tenaillelaw18.JitterTakes': WHATEVER THE INPUT: true; the input reads as it did. -/
def jitterTakesSpec : ChangeSpec := { name := "jitterTakes", fn := fun _ => fun
  | [d1, d2] => { results := [.lit (.bool true)], args := [d1, d2] }
  | _ => none }
def jitterTakesRow : OpenClaim := { program := "ytgkjgefnialleaa", sum := "d6e0d2b54d365ec05d3eed857c6dffb6c3258559e95849fa210981d96a1e6d93", func := "tenaille/tenaillelaw18.JitterTakes", spec := "jitterTakes", apart := false }
def JitterTakesSaid : Prop := jitterTakesRow.holds Try.pinned (OpenSpec.ofChange jitterTakesSpec)

/-- ITS FALSE NEIGHBOUR: 'it returns false'. Refute it at one input. -/
def jitterTakesWrong : ChangeSpec := { name := "jitterTakes", fn := fun _ => fun
  | [d1, d2] => { results := [.lit (.bool false)], args := [d1, d2] }
  | _ => none }
def JitterTakesWrongFalsely : Prop := jitterTakesRow.holds Try.pinned (OpenSpec.ofChange jitterTakesWrong)

/-- 'tenaillelaw18.JitterEven': WHATEVER THE INPUT: true; the input reads as it did. -/
def jitterEvenSpec : ChangeSpec := { name := "jitterEven", fn := fun _ => fun
  | [d1, d2, d3] => { results := [.lit (.bool true)], args := [d1, d2, d3] }
  | _ => none }
def jitterEvenRow : OpenClaim := { program := "ytgkjgefnialleaa", sum := "d6e0d2b54d365ec05d3eed857c6dffb6c3258559e95849fa210981d96a1e6d93", func := "tenaille/tenaillelaw18.JitterEven", spec := "jitterEven", apart := false }
def JitterEvenSaid : Prop := jitterEvenRow.holds Try.pinned (OpenSpec.ofChange jitterEvenSpec)

/-- ITS FALSE NEIGHBOUR: 'it returns false'. Refute it at one input. -/
def jitterEvenWrong : ChangeSpec := { name := "jitterEven", fn := fun _ => fun
  | [d1, d2, d3] => { results := [.lit (.bool false)], args := [d1, d2, d3] }
  | _ => none }
def JitterEvenWrongFalsely : Prop := jitterEvenRow.holds Try.pinned (OpenSpec.ofChange jitterEvenWrong)

/-- 'tenaillelaw18.JitterBound': WHATEVER THE INPUT: true; the input reads as it did. -/
def jitterBoundSpec : ChangeSpec := { name := "jitterBound", fn := fun _ => fun
  | [d] => { results := [.lit (.bool true)], args := [d] }
  | _ => none }
def jitterBoundRow : OpenClaim := { program := "ytgkjgefnialleaa", sum := "d6e0d2b54d365ec05d3eed857c6dffb6c3258559e95849fa210981d96a1e6d93", func := "tenaille/tenaillelaw18.JitterBound", spec := "jitterBound", apart := false }
def JitterBoundSaid : Prop := jitterBoundRow.holds Try.pinned (OpenSpec.ofChange jitterBoundSpec)

/-- ITS FALSE NEIGHBOUR: 'it returns false'. Refute it at one input. -/
def jitterBoundWrong : ChangeSpec := { name := "jitterBound", fn := fun _ => fun
  | [d] => { results := [.lit (.bool false)], args := [d] }
  | _ => none }
def JitterBoundWrongFalsely : Prop := jitterBoundRow.holds Try.pinned (OpenSpec.ofChange jitterBoundWrong)

/- THE SECOND FORM. 'bulk': how many values and letters a reading holds, each counted each time it is reached (what is shared counts as often as it is met; a slice's spare places count too). A statement '..UptoSaid' is the law's where the arguments, and the package variables that the reading takes, are together of bulk at most 1048576: NARROWER than '..Said'. Prove '..Said' where nothing that the law and all that it calls make is longer than what came in: it says more and counts as full. Else prove '..UptoSaid'. A law counts once. -/
mutual
def uptoBulk {H : Type} : DataW H → Nat
  | .lit (.string bytes) => bytes.length + 1
  | .lit _ => 1
  | .nil => 1
  | .ptr d => uptoBulk d + 1
  | .slice elems spare => uptoBulkAll elems + uptoBulkAll spare + 1
  | .agg parts => uptoBulkAll parts + 1
  | .iface _ d => uptoBulk d + 1
  | .map entries => uptoBulkEntries entries + 1
  | .held _ => 1
def uptoBulkAll {H : Type} : List (DataW H) → Nat
  | [] => 0
  | d :: r => uptoBulk d + uptoBulkAll r
def uptoBulkEntries {H : Type} : List (Lit × DataW H) → Nat
  | [] => 0
  | x :: r => uptoBulkEntry x + uptoBulkEntries r
def uptoBulkEntry {H : Type} : Lit × DataW H → Nat
  | (.string bytes, d) => bytes.length + uptoBulk d + 1
  | (_, d) => uptoBulk d + 1
 end
def uptoSmall : (H : Type) → List (DataW H) → Bool := fun _ ds => decide (uptoBulkAll ds ≤ 1048576)
def OpenSpec.upto (s : _root_.Go.ChangeSpec) : _root_.Go.OpenSpec := { _root_.Go.OpenSpec.ofChange s with cond := some uptoSmall }

/-- 'tenaillelaw02.SeqsIndex', WHERE WHAT IT READS IS OF BULK AT MOST 1048576: true; the input reads as it did. -/
def seqsIndexUptoRow : OpenClaim := { program := "ytgkjgefnialleaa", sum := "d6e0d2b54d365ec05d3eed857c6dffb6c3258559e95849fa210981d96a1e6d93", func := "tenaille/tenaillelaw02.SeqsIndex", spec := "seqsIndex", apart := false, narrowed := true }
def SeqsIndexUptoSaid : Prop := seqsIndexUptoRow.holds Try.pinned (OpenSpec.upto seqsIndexSpec)

/-- 'tenaillelaw02.SeqsBack', WHERE WHAT IT READS IS OF BULK AT MOST 1048576: true; the input reads as it did. -/
def seqsBackUptoRow : OpenClaim := { program := "ytgkjgefnialleaa", sum := "d6e0d2b54d365ec05d3eed857c6dffb6c3258559e95849fa210981d96a1e6d93", func := "tenaille/tenaillelaw02.SeqsBack", spec := "seqsBack", apart := false, narrowed := true }
def SeqsBackUptoSaid : Prop := seqsBackUptoRow.holds Try.pinned (OpenSpec.upto seqsBackSpec)

/-- 'tenaillelaw02.SeqsAhead', WHERE WHAT IT READS IS OF BULK AT MOST 1048576: true; the input reads as it did. -/
def seqsAheadUptoRow : OpenClaim := { program := "ytgkjgefnialleaa", sum := "d6e0d2b54d365ec05d3eed857c6dffb6c3258559e95849fa210981d96a1e6d93", func := "tenaille/tenaillelaw02.SeqsAhead", spec := "seqsAhead", apart := false, narrowed := true }
def SeqsAheadUptoSaid : Prop := seqsAheadUptoRow.holds Try.pinned (OpenSpec.upto seqsAheadSpec)

/-- 'tenaillelaw24.CoalesceFew', WHERE WHAT IT READS IS OF BULK AT MOST 1048576: true; the input reads as it did. -/
def coalesceFewUptoRow : OpenClaim := { program := "ytgkjgefnialleaa", sum := "d6e0d2b54d365ec05d3eed857c6dffb6c3258559e95849fa210981d96a1e6d93", func := "tenaille/tenaillelaw24.CoalesceFew", spec := "coalesceFew", unfollowed := true, recurses := true, apart := false, narrowed := true }
def CoalesceFewUptoSaid : Prop := coalesceFewUptoRow.holds Try.pinned (OpenSpec.upto coalesceFewSpec)

/-- 'tenaillelaw24.CoalescePlays', WHERE WHAT IT READS IS OF BULK AT MOST 1048576: true; the input reads as it did. -/
def coalescePlaysUptoRow : OpenClaim := { program := "ytgkjgefnialleaa", sum := "d6e0d2b54d365ec05d3eed857c6dffb6c3258559e95849fa210981d96a1e6d93", func := "tenaille/tenaillelaw24.CoalescePlays", spec := "coalescePlays", unfollowed := true, recurses := true, apart := false, narrowed := true }
def CoalescePlaysUptoSaid : Prop := coalescePlaysUptoRow.holds Try.pinned (OpenSpec.upto coalescePlaysSpec)

/-- 'tenaillelaw24.CoalesceNone', WHERE WHAT IT READS IS OF BULK AT MOST 1048576: true; the input reads as it did. -/
def coalesceNoneUptoRow : OpenClaim := { program := "ytgkjgefnialleaa", sum := "d6e0d2b54d365ec05d3eed857c6dffb6c3258559e95849fa210981d96a1e6d93", func := "tenaille/tenaillelaw24.CoalesceNone", spec := "coalesceNone", unfollowed := true, recurses := true, apart := false, narrowed := true }
def CoalesceNoneUptoSaid : Prop := coalesceNoneUptoRow.holds Try.pinned (OpenSpec.upto coalesceNoneSpec)

/-- 'tenaillelaw01.OctetsNums', WHERE WHAT IT READS IS OF BULK AT MOST 1048576: true; the input reads as it did. -/
def octetsNumsUptoRow : OpenClaim := { program := "ytgkjgefnialleaa", sum := "d6e0d2b54d365ec05d3eed857c6dffb6c3258559e95849fa210981d96a1e6d93", func := "tenaille/tenaillelaw01.OctetsNums", spec := "octetsNums", apart := false, narrowed := true }
def OctetsNumsUptoSaid : Prop := octetsNumsUptoRow.holds Try.pinned (OpenSpec.upto octetsNumsSpec)

/-- 'tenaillelaw01.OctetsOwn', WHERE WHAT IT READS IS OF BULK AT MOST 1048576: true; the input reads as it did. -/
def octetsOwnUptoRow : OpenClaim := { program := "ytgkjgefnialleaa", sum := "d6e0d2b54d365ec05d3eed857c6dffb6c3258559e95849fa210981d96a1e6d93", func := "tenaille/tenaillelaw01.OctetsOwn", spec := "octetsOwn", apart := false, narrowed := true }
def OctetsOwnUptoSaid : Prop := octetsOwnUptoRow.holds Try.pinned (OpenSpec.upto octetsOwnSpec)

/-- 'tenaillelaw01.OctetsOthers', WHERE WHAT IT READS IS OF BULK AT MOST 1048576: true; the input reads as it did. -/
def octetsOthersUptoRow : OpenClaim := { program := "ytgkjgefnialleaa", sum := "d6e0d2b54d365ec05d3eed857c6dffb6c3258559e95849fa210981d96a1e6d93", func := "tenaille/tenaillelaw01.OctetsOthers", spec := "octetsOthers", apart := false, narrowed := true }
def OctetsOthersUptoSaid : Prop := octetsOthersUptoRow.holds Try.pinned (OpenSpec.upto octetsOthersSpec)

/-- 'tenaillelaw18.JitterTakes', WHERE WHAT IT READS IS OF BULK AT MOST 1048576: true; the input reads as it did. -/
def jitterTakesUptoRow : OpenClaim := { program := "ytgkjgefnialleaa", sum := "d6e0d2b54d365ec05d3eed857c6dffb6c3258559e95849fa210981d96a1e6d93", func := "tenaille/tenaillelaw18.JitterTakes", spec := "jitterTakes", apart := false, narrowed := true }
def JitterTakesUptoSaid : Prop := jitterTakesUptoRow.holds Try.pinned (OpenSpec.upto jitterTakesSpec)

/-- 'tenaillelaw18.JitterEven', WHERE WHAT IT READS IS OF BULK AT MOST 1048576: true; the input reads as it did. -/
def jitterEvenUptoRow : OpenClaim := { program := "ytgkjgefnialleaa", sum := "d6e0d2b54d365ec05d3eed857c6dffb6c3258559e95849fa210981d96a1e6d93", func := "tenaille/tenaillelaw18.JitterEven", spec := "jitterEven", apart := false, narrowed := true }
def JitterEvenUptoSaid : Prop := jitterEvenUptoRow.holds Try.pinned (OpenSpec.upto jitterEvenSpec)

/-- 'tenaillelaw18.JitterBound', WHERE WHAT IT READS IS OF BULK AT MOST 1048576: true; the input reads as it did. -/
def jitterBoundUptoRow : OpenClaim := { program := "ytgkjgefnialleaa", sum := "d6e0d2b54d365ec05d3eed857c6dffb6c3258559e95849fa210981d96a1e6d93", func := "tenaille/tenaillelaw18.JitterBound", spec := "jitterBound", apart := false, narrowed := true }
def JitterBoundUptoSaid : Prop := jitterBoundUptoRow.holds Try.pinned (OpenSpec.upto jitterBoundSpec)

end Rows
end Go.Proofs.Ytgkjgefnialleaa
