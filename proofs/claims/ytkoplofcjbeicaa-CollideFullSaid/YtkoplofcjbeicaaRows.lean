/-
  No cell of these rows narrows 'for every input' (looked for: loops, veiled, ifaces, maps, wideKeys, modest, calm, conditions, laid).
  DERIVED. THE GIVEN ROWS OF THIS SEAT. 8 by the template 'for every input the law returns true; each argument reads behind the call as it read before'; 0 by the template 'total and deterministic' (their statements: YtkoplofcjbeicaaTotals.lean).
  GIVEN WITH THE SEED: the statements are not yours to turn. If you find one false, say at which input.
  Laid BY PROGRAM, IN A SANDBOX (cutbox-rows.mjs): the forced cells as the released guide's own fill.sh prints them over the translation 9a34bec60ad246f3… (all of the seat's roots in one cut). By AI agents, Wed Nov 11 2026. No macro, syntax, notation, axiom, sorry.
-/
import Derived.Test.YtkoplofcjbeicaaChecked
import GoSem.Claim
import GoSem.ClaimJoined
import GoSem.ClaimMapViews
import Derived.JoinedTies
import Derived.KernelRfl
namespace Go.Proofs.Ytkoplofcjbeicaa
/- THE CELL 'sum', in the pinned program and in every row, IS THE sha256 OF THE DUMP (.gsa) THAT YtkoplofcjbeicaaProg.lean LOADS. Nothing in Lean hashes anything: it is a label: what it is worth is what the hold of that sum in a sandbox is worth. -/
noncomputable def Try.pinned : Pinned := { name := "ytkoplofcjbeicaa", sum := "9a34bec60ad246f31e523f5866cf1d51ad3a8119df9e9fdece85c548ab3d2ec6", checked := Try.checked }
namespace Rows
def none {H : Type} : Left H := { results := [], args := [] }

/-- 'tenaillelaw12.StunReads': WHATEVER THE INPUT: true; the input reads as it did. -/
def stunReadsSpec : ChangeSpec := { name := "stunReads", fn := fun _ => fun
  | [d] => { results := [.lit (.bool true)], args := [d] }
  | _ => none }
def stunReadsRow : OpenClaim := { program := "ytkoplofcjbeicaa", sum := "9a34bec60ad246f31e523f5866cf1d51ad3a8119df9e9fdece85c548ab3d2ec6", func := "tenaille/tenaillelaw12.StunReads", spec := "stunReads", unfollowed := true, recurses := true, plainKeys := false, apart := false }
def StunReadsSaid : Prop := stunReadsRow.holds Try.pinned (OpenSpec.ofChange stunReadsSpec)

/-- ITS FALSE NEIGHBOUR: 'it returns false'. Refute it at one input. -/
def stunReadsWrong : ChangeSpec := { name := "stunReads", fn := fun _ => fun
  | [d] => { results := [.lit (.bool false)], args := [d] }
  | _ => none }
def StunReadsWrongFalsely : Prop := stunReadsRow.holds Try.pinned (OpenSpec.ofChange stunReadsWrong)

/-- 'tenaillelaw12.StunWrites': WHATEVER THE INPUT: true; the input reads as it did. -/
def stunWritesSpec : ChangeSpec := { name := "stunWrites", fn := fun _ => fun
  | [d] => { results := [.lit (.bool true)], args := [d] }
  | _ => none }
def stunWritesRow : OpenClaim := { program := "ytkoplofcjbeicaa", sum := "9a34bec60ad246f31e523f5866cf1d51ad3a8119df9e9fdece85c548ab3d2ec6", func := "tenaille/tenaillelaw12.StunWrites", spec := "stunWrites", unfollowed := true, recurses := true, plainKeys := false, apart := false }
def StunWritesSaid : Prop := stunWritesRow.holds Try.pinned (OpenSpec.ofChange stunWritesSpec)

/-- ITS FALSE NEIGHBOUR: 'it returns false'. Refute it at one input. -/
def stunWritesWrong : ChangeSpec := { name := "stunWrites", fn := fun _ => fun
  | [d] => { results := [.lit (.bool false)], args := [d] }
  | _ => none }
def StunWritesWrongFalsely : Prop := stunWritesRow.holds Try.pinned (OpenSpec.ofChange stunWritesWrong)

/-- 'tenaillelaw12.StunAnswers': WHATEVER THE INPUT: true; the input reads as it did. -/
def stunAnswersSpec : ChangeSpec := { name := "stunAnswers", fn := fun _ => fun
  | [d1, d2] => { results := [.lit (.bool true)], args := [d1, d2] }
  | _ => none }
def stunAnswersRow : OpenClaim := { program := "ytkoplofcjbeicaa", sum := "9a34bec60ad246f31e523f5866cf1d51ad3a8119df9e9fdece85c548ab3d2ec6", func := "tenaille/tenaillelaw12.StunAnswers", spec := "stunAnswers", unfollowed := true, recurses := true, plainKeys := false, apart := false }
def StunAnswersSaid : Prop := stunAnswersRow.holds Try.pinned (OpenSpec.ofChange stunAnswersSpec)

/-- ITS FALSE NEIGHBOUR: 'it returns false'. Refute it at one input. -/
def stunAnswersWrong : ChangeSpec := { name := "stunAnswers", fn := fun _ => fun
  | [d1, d2] => { results := [.lit (.bool false)], args := [d1, d2] }
  | _ => none }
def StunAnswersWrongFalsely : Prop := stunAnswersRow.holds Try.pinned (OpenSpec.ofChange stunAnswersWrong)

/-- 'tenaillelaw43.OpusLasts': WHATEVER THE INPUT: true; the input reads as it did. -/
def opusLastsSpec : ChangeSpec := { name := "opusLasts", fn := fun _ => fun
  | [d] => { results := [.lit (.bool true)], args := [d] }
  | _ => none }
def opusLastsRow : OpenClaim := { program := "ytkoplofcjbeicaa", sum := "9a34bec60ad246f31e523f5866cf1d51ad3a8119df9e9fdece85c548ab3d2ec6", func := "tenaille/tenaillelaw43.OpusLasts", spec := "opusLasts", unfollowed := true, recurses := true, plainKeys := false, apart := false }
def OpusLastsSaid : Prop := opusLastsRow.holds Try.pinned (OpenSpec.ofChange opusLastsSpec)

/-- ITS FALSE NEIGHBOUR: 'it returns false'. Refute it at one input. -/
def opusLastsWrong : ChangeSpec := { name := "opusLasts", fn := fun _ => fun
  | [d] => { results := [.lit (.bool false)], args := [d] }
  | _ => none }
def OpusLastsWrongFalsely : Prop := opusLastsRow.holds Try.pinned (OpenSpec.ofChange opusLastsWrong)

/-- 'tenaillelaw41.NalCuts': WHATEVER THE INPUT: true; the input reads as it did. -/
def nalCutsSpec : ChangeSpec := { name := "nalCuts", fn := fun _ => fun
  | [d1, d2] => { results := [.lit (.bool true)], args := [d1, d2] }
  | _ => none }
def nalCutsRow : OpenClaim := { program := "ytkoplofcjbeicaa", sum := "9a34bec60ad246f31e523f5866cf1d51ad3a8119df9e9fdece85c548ab3d2ec6", func := "tenaille/tenaillelaw41.NalCuts", spec := "nalCuts", unfollowed := true, recurses := true, plainKeys := false, apart := false }
def NalCutsSaid : Prop := nalCutsRow.holds Try.pinned (OpenSpec.ofChange nalCutsSpec)

/-- ITS FALSE NEIGHBOUR: 'it returns false'. Refute it at one input. -/
def nalCutsWrong : ChangeSpec := { name := "nalCuts", fn := fun _ => fun
  | [d1, d2] => { results := [.lit (.bool false)], args := [d1, d2] }
  | _ => none }
def NalCutsWrongFalsely : Prop := nalCutsRow.holds Try.pinned (OpenSpec.ofChange nalCutsWrong)

/-- 'tenaillelaw41.NalTogether': WHATEVER THE INPUT: true; the input reads as it did. -/
def nalTogetherSpec : ChangeSpec := { name := "nalTogether", fn := fun _ => fun
  | [d] => { results := [.lit (.bool true)], args := [d] }
  | _ => none }
def nalTogetherRow : OpenClaim := { program := "ytkoplofcjbeicaa", sum := "9a34bec60ad246f31e523f5866cf1d51ad3a8119df9e9fdece85c548ab3d2ec6", func := "tenaille/tenaillelaw41.NalTogether", spec := "nalTogether", unfollowed := true, recurses := true, plainKeys := false, apart := false }
def NalTogetherSaid : Prop := nalTogetherRow.holds Try.pinned (OpenSpec.ofChange nalTogetherSpec)

/-- ITS FALSE NEIGHBOUR: 'it returns false'. Refute it at one input. -/
def nalTogetherWrong : ChangeSpec := { name := "nalTogether", fn := fun _ => fun
  | [d] => { results := [.lit (.bool false)], args := [d] }
  | _ => none }
def NalTogetherWrongFalsely : Prop := nalTogetherRow.holds Try.pinned (OpenSpec.ofChange nalTogetherWrong)

/-- 'tenaillelaw44.CollideFull': WHATEVER THE INPUT: true; the input reads as it did. -/
def collideFullSpec : ChangeSpec := { name := "collideFull", fn := fun _ => fun
  | [d1, d2] => { results := [.lit (.bool true)], args := [d1, d2] }
  | _ => none }
def collideFullRow : OpenClaim := { program := "ytkoplofcjbeicaa", sum := "9a34bec60ad246f31e523f5866cf1d51ad3a8119df9e9fdece85c548ab3d2ec6", func := "tenaille/tenaillelaw44.CollideFull", spec := "collideFull", unfollowed := true, recurses := true, plainKeys := false, apart := false }
def CollideFullSaid : Prop := collideFullRow.holds Try.pinned (OpenSpec.ofChange collideFullSpec)

/-- ITS FALSE NEIGHBOUR: 'it returns false'. Refute it at one input. -/
def collideFullWrong : ChangeSpec := { name := "collideFull", fn := fun _ => fun
  | [d1, d2] => { results := [.lit (.bool false)], args := [d1, d2] }
  | _ => none }
def CollideFullWrongFalsely : Prop := collideFullRow.holds Try.pinned (OpenSpec.ofChange collideFullWrong)

/-- 'tenaillelaw44.CollideOne': WHATEVER THE INPUT: true; the input reads as it did. -/
def collideOneSpec : ChangeSpec := { name := "collideOne", fn := fun _ => fun
  | [d1, d2, d3, d4, d5, d6] => { results := [.lit (.bool true)], args := [d1, d2, d3, d4, d5, d6] }
  | _ => none }
def collideOneRow : OpenClaim := { program := "ytkoplofcjbeicaa", sum := "9a34bec60ad246f31e523f5866cf1d51ad3a8119df9e9fdece85c548ab3d2ec6", func := "tenaille/tenaillelaw44.CollideOne", spec := "collideOne", unfollowed := true, recurses := true, plainKeys := false, apart := false }
def CollideOneSaid : Prop := collideOneRow.holds Try.pinned (OpenSpec.ofChange collideOneSpec)

/-- ITS FALSE NEIGHBOUR: 'it returns false'. Refute it at one input. -/
def collideOneWrong : ChangeSpec := { name := "collideOne", fn := fun _ => fun
  | [d1, d2, d3, d4, d5, d6] => { results := [.lit (.bool false)], args := [d1, d2, d3, d4, d5, d6] }
  | _ => none }
def CollideOneWrongFalsely : Prop := collideOneRow.holds Try.pinned (OpenSpec.ofChange collideOneWrong)

/- THE SECOND FORM. 'bulk': how many values and letters a reading holds, each counted each time it is reached (what is shared counts as often as it is met; a slice's spare places count too). A statement '..UptoSaid' is the law's where the arguments, and the package variables that the reading takes, are together of bulk at most 1048576: NARROWER than '..Said'. Prove '..Said' where nothing that the law and all that it calls make is longer than what came in: it says more and counts as full. Else prove '..UptoSaid'. A law counts once. -/
mutual
def uptoBulk {H : Type} : DataW H → Nat
  | .lit (.string bytes) => bytes.length + 1
  | .lit _ => 1
  | .nil => 1
  | .ptr d => uptoBulk d + 1
  | .slice elems spare => uptoBulkAll elems + uptoBulkAll spare + 1
  | .agg parts => uptoBulkAll parts + 1
  | .iface _ d => uptoBulk d + 1
  | .map entries => uptoBulkEntries entries + 1
  | .held _ => 1
def uptoBulkAll {H : Type} : List (DataW H) → Nat
  | [] => 0
  | d :: r => uptoBulk d + uptoBulkAll r
def uptoBulkEntries {H : Type} : List (Lit × DataW H) → Nat
  | [] => 0
  | x :: r => uptoBulkEntry x + uptoBulkEntries r
def uptoBulkEntry {H : Type} : Lit × DataW H → Nat
  | (.string bytes, d) => bytes.length + uptoBulk d + 1
  | (_, d) => uptoBulk d + 1
 end
def uptoSmall : (H : Type) → List (DataW H) → Bool := fun _ ds => decide (uptoBulkAll ds ≤ 1048576)
def OpenSpec.upto (s : _root_.Go.ChangeSpec) : _root_.Go.OpenSpec := { _root_.Go.OpenSpec.ofChange s with cond := some uptoSmall }

/-- 'tenaillelaw12.StunReads', WHERE WHAT IT READS IS OF BULK AT MOST 1048576: true; the input reads as it did. -/
def stunReadsUptoRow : OpenClaim := { program := "ytkoplofcjbeicaa", sum := "9a34bec60ad246f31e523f5866cf1d51ad3a8119df9e9fdece85c548ab3d2ec6", func := "tenaille/tenaillelaw12.StunReads", spec := "stunReads", unfollowed := true, recurses := true, plainKeys := false, apart := false, narrowed := true }
def StunReadsUptoSaid : Prop := stunReadsUptoRow.holds Try.pinned (OpenSpec.upto stunReadsSpec)

/-- 'tenaillelaw12.StunWrites', WHERE WHAT IT READS IS OF BULK AT MOST 1048576: true; the input reads as it did. -/
def stunWritesUptoRow : OpenClaim := { program := "ytkoplofcjbeicaa", sum := "9a34bec60ad246f31e523f5866cf1d51ad3a8119df9e9fdece85c548ab3d2ec6", func := "tenaille/tenaillelaw12.StunWrites", spec := "stunWrites", unfollowed := true, recurses := true, plainKeys := false, apart := false, narrowed := true }
def StunWritesUptoSaid : Prop := stunWritesUptoRow.holds Try.pinned (OpenSpec.upto stunWritesSpec)

/-- 'tenaillelaw12.StunAnswers', WHERE WHAT IT READS IS OF BULK AT MOST 1048576: true; the input reads as it did. -/
def stunAnswersUptoRow : OpenClaim := { program := "ytkoplofcjbeicaa", sum := "9a34bec60ad246f31e523f5866cf1d51ad3a8119df9e9fdece85c548ab3d2ec6", func := "tenaille/tenaillelaw12.StunAnswers", spec := "stunAnswers", unfollowed := true, recurses := true, plainKeys := false, apart := false, narrowed := true }
def StunAnswersUptoSaid : Prop := stunAnswersUptoRow.holds Try.pinned (OpenSpec.upto stunAnswersSpec)

/-- 'tenaillelaw43.OpusLasts', WHERE WHAT IT READS IS OF BULK AT MOST 1048576: true; the input reads as it did. -/
def opusLastsUptoRow : OpenClaim := { program := "ytkoplofcjbeicaa", sum := "9a34bec60ad246f31e523f5866cf1d51ad3a8119df9e9fdece85c548ab3d2ec6", func := "tenaille/tenaillelaw43.OpusLasts", spec := "opusLasts", unfollowed := true, recurses := true, plainKeys := false, apart := false, narrowed := true }
def OpusLastsUptoSaid : Prop := opusLastsUptoRow.holds Try.pinned (OpenSpec.upto opusLastsSpec)

/-- 'tenaillelaw41.NalCuts', WHERE WHAT IT READS IS OF BULK AT MOST 1048576: true; the input reads as it did. -/
def nalCutsUptoRow : OpenClaim := { program := "ytkoplofcjbeicaa", sum := "9a34bec60ad246f31e523f5866cf1d51ad3a8119df9e9fdece85c548ab3d2ec6", func := "tenaille/tenaillelaw41.NalCuts", spec := "nalCuts", unfollowed := true, recurses := true, plainKeys := false, apart := false, narrowed := true }
def NalCutsUptoSaid : Prop := nalCutsUptoRow.holds Try.pinned (OpenSpec.upto nalCutsSpec)

/-- 'tenaillelaw41.NalTogether', WHERE WHAT IT READS IS OF BULK AT MOST 1048576: true; the input reads as it did. -/
def nalTogetherUptoRow : OpenClaim := { program := "ytkoplofcjbeicaa", sum := "9a34bec60ad246f31e523f5866cf1d51ad3a8119df9e9fdece85c548ab3d2ec6", func := "tenaille/tenaillelaw41.NalTogether", spec := "nalTogether", unfollowed := true, recurses := true, plainKeys := false, apart := false, narrowed := true }
def NalTogetherUptoSaid : Prop := nalTogetherUptoRow.holds Try.pinned (OpenSpec.upto nalTogetherSpec)

/-- 'tenaillelaw44.CollideFull', WHERE WHAT IT READS IS OF BULK AT MOST 1048576: true; the input reads as it did. -/
def collideFullUptoRow : OpenClaim := { program := "ytkoplofcjbeicaa", sum := "9a34bec60ad246f31e523f5866cf1d51ad3a8119df9e9fdece85c548ab3d2ec6", func := "tenaille/tenaillelaw44.CollideFull", spec := "collideFull", unfollowed := true, recurses := true, plainKeys := false, apart := false, narrowed := true }
def CollideFullUptoSaid : Prop := collideFullUptoRow.holds Try.pinned (OpenSpec.upto collideFullSpec)

/-- 'tenaillelaw44.CollideOne', WHERE WHAT IT READS IS OF BULK AT MOST 1048576: true; the input reads as it did. -/
def collideOneUptoRow : OpenClaim := { program := "ytkoplofcjbeicaa", sum := "9a34bec60ad246f31e523f5866cf1d51ad3a8119df9e9fdece85c548ab3d2ec6", func := "tenaille/tenaillelaw44.CollideOne", spec := "collideOne", unfollowed := true, recurses := true, plainKeys := false, apart := false, narrowed := true }
def CollideOneUptoSaid : Prop := collideOneUptoRow.holds Try.pinned (OpenSpec.upto collideOneSpec)

end Rows
end Go.Proofs.Ytkoplofcjbeicaa
