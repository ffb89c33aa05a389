/-
  No cell of these rows narrows 'for every input' (looked for: loops, veiled, ifaces, maps, wideKeys, modest, calm, conditions, laid).
  DERIVED. THE GIVEN ROWS OF THIS SEAT. 12 by the template 'for every input the law returns true; each argument reads behind the call as it read before'; 0 by the template 'total and deterministic' (their statements: YtkemkplmhjmahaaTotals.lean).
  GIVEN WITH THE SEED: the statements are not yours to turn. If you find one false, say at which input.
  Laid BY PROGRAM, IN A SANDBOX (cutbox-rows.mjs): the forced cells as the released guide's own fill.sh prints them over the translation 3a0843a340927b7b… (all of the seat's roots in one cut). By AI agents, Wed Nov 11 2026. No macro, syntax, notation, axiom, sorry.
-/
import Derived.Test.YtkemkplmhjmahaaChecked
import GoSem.Claim
import GoSem.ClaimJoined
import GoSem.ClaimMapViews
import Derived.JoinedTies
import Derived.KernelRfl
namespace Go.Proofs.Ytkemkplmhjmahaa
/- THE CELL 'sum', in the pinned program and in every row, IS THE sha256 OF THE DUMP (.gsa) THAT YtkemkplmhjmahaaProg.lean LOADS. Nothing in Lean hashes anything: it is a label: what it is worth is what the hold of that sum in a sandbox is worth. -/
noncomputable def Try.pinned : Pinned := { name := "ytkemkplmhjmahaa", sum := "3a0843a340927b7be0f6b5d6e75f5adafb1d0982a8537ad925fd9a28236cceab", checked := Try.checked }
namespace Rows
def none {H : Type} : Left H := { results := [], args := [] }

/-- 'tenaillelaw21.LadderGood': WHATEVER THE INPUT: true; the input reads as it did. -/
def ladderGoodSpec : ChangeSpec := { name := "ladderGood", fn := fun _ => fun
  | [d1, d2] => { results := [.lit (.bool true)], args := [d1, d2] }
  | _ => none }
def ladderGoodRow : OpenClaim := { program := "ytkemkplmhjmahaa", sum := "3a0843a340927b7be0f6b5d6e75f5adafb1d0982a8537ad925fd9a28236cceab", func := "tenaille/tenaillelaw21.LadderGood", spec := "ladderGood", apart := false }
def LadderGoodSaid : Prop := ladderGoodRow.holds Try.pinned (OpenSpec.ofChange ladderGoodSpec)

/-- ITS FALSE NEIGHBOUR: 'it returns false'. Refute it at one input. -/
def ladderGoodWrong : ChangeSpec := { name := "ladderGood", fn := fun _ => fun
  | [d1, d2] => { results := [.lit (.bool false)], args := [d1, d2] }
  | _ => none }
def LadderGoodWrongFalsely : Prop := ladderGoodRow.holds Try.pinned (OpenSpec.ofChange ladderGoodWrong)

/-- 'tenaillelaw21.LadderDecays': WHATEVER THE INPUT: true; the input reads as it did. -/
def ladderDecaysSpec : ChangeSpec := { name := "ladderDecays", fn := fun _ => fun
  | [d1, d2, d3, d4, d5] => { results := [.lit (.bool true)], args := [d1, d2, d3, d4, d5] }
  | _ => none }
def ladderDecaysRow : OpenClaim := { program := "ytkemkplmhjmahaa", sum := "3a0843a340927b7be0f6b5d6e75f5adafb1d0982a8537ad925fd9a28236cceab", func := "tenaille/tenaillelaw21.LadderDecays", spec := "ladderDecays", apart := false }
def LadderDecaysSaid : Prop := ladderDecaysRow.holds Try.pinned (OpenSpec.ofChange ladderDecaysSpec)

/-- ITS FALSE NEIGHBOUR: 'it returns false'. Refute it at one input. -/
def ladderDecaysWrong : ChangeSpec := { name := "ladderDecays", fn := fun _ => fun
  | [d1, d2, d3, d4, d5] => { results := [.lit (.bool false)], args := [d1, d2, d3, d4, d5] }
  | _ => none }
def LadderDecaysWrongFalsely : Prop := ladderDecaysRow.holds Try.pinned (OpenSpec.ofChange ladderDecaysWrong)

/-- 'tenaillelaw21.LadderPlays': WHATEVER THE INPUT: true; the input reads as it did. -/
def ladderPlaysSpec : ChangeSpec := { name := "ladderPlays", fn := fun _ => fun
  | [d1, d2, d3] => { results := [.lit (.bool true)], args := [d1, d2, d3] }
  | _ => none }
def ladderPlaysRow : OpenClaim := { program := "ytkemkplmhjmahaa", sum := "3a0843a340927b7be0f6b5d6e75f5adafb1d0982a8537ad925fd9a28236cceab", func := "tenaille/tenaillelaw21.LadderPlays", spec := "ladderPlays", apart := false }
def LadderPlaysSaid : Prop := ladderPlaysRow.holds Try.pinned (OpenSpec.ofChange ladderPlaysSpec)

/-- ITS FALSE NEIGHBOUR: 'it returns false'. Refute it at one input. -/
def ladderPlaysWrong : ChangeSpec := { name := "ladderPlays", fn := fun _ => fun
  | [d1, d2, d3] => { results := [.lit (.bool false)], args := [d1, d2, d3] }
  | _ => none }
def LadderPlaysWrongFalsely : Prop := ladderPlaysRow.holds Try.pinned (OpenSpec.ofChange ladderPlaysWrong)

/-- 'tenaillelaw21.LadderNone': WHATEVER THE INPUT: true; the input reads as it did. -/
def ladderNoneSpec : ChangeSpec := { name := "ladderNone", fn := fun _ => fun
  | [d] => { results := [.lit (.bool true)], args := [d] }
  | _ => none }
def ladderNoneRow : OpenClaim := { program := "ytkemkplmhjmahaa", sum := "3a0843a340927b7be0f6b5d6e75f5adafb1d0982a8537ad925fd9a28236cceab", func := "tenaille/tenaillelaw21.LadderNone", spec := "ladderNone", apart := false }
def LadderNoneSaid : Prop := ladderNoneRow.holds Try.pinned (OpenSpec.ofChange ladderNoneSpec)

/-- ITS FALSE NEIGHBOUR: 'it returns false'. Refute it at one input. -/
def ladderNoneWrong : ChangeSpec := { name := "ladderNone", fn := fun _ => fun
  | [d] => { results := [.lit (.bool false)], args := [d] }
  | _ => none }
def LadderNoneWrongFalsely : Prop := ladderNoneRow.holds Try.pinned (OpenSpec.ofChange ladderNoneWrong)

/-- 'tenaillelaw25.RembLowest': WHATEVER THE INPUT: true; the input reads as it did. -/
def rembLowestSpec : ChangeSpec := { name := "rembLowest", fn := fun _ => fun
  | [d] => { results := [.lit (.bool true)], args := [d] }
  | _ => none }
def rembLowestRow : OpenClaim := { program := "ytkemkplmhjmahaa", sum := "3a0843a340927b7be0f6b5d6e75f5adafb1d0982a8537ad925fd9a28236cceab", func := "tenaille/tenaillelaw25.RembLowest", spec := "rembLowest", unfollowed := true, recurses := true, apart := false }
def RembLowestSaid : Prop := rembLowestRow.holds Try.pinned (OpenSpec.ofChange rembLowestSpec)

/-- ITS FALSE NEIGHBOUR: 'it returns false'. Refute it at one input. -/
def rembLowestWrong : ChangeSpec := { name := "rembLowest", fn := fun _ => fun
  | [d] => { results := [.lit (.bool false)], args := [d] }
  | _ => none }
def RembLowestWrongFalsely : Prop := rembLowestRow.holds Try.pinned (OpenSpec.ofChange rembLowestWrong)

/-- 'tenaillelaw25.RembShares': WHATEVER THE INPUT: true; the input reads as it did. -/
def rembSharesSpec : ChangeSpec := { name := "rembShares", fn := fun _ => fun
  | [d1, d2, d3] => { results := [.lit (.bool true)], args := [d1, d2, d3] }
  | _ => none }
def rembSharesRow : OpenClaim := { program := "ytkemkplmhjmahaa", sum := "3a0843a340927b7be0f6b5d6e75f5adafb1d0982a8537ad925fd9a28236cceab", func := "tenaille/tenaillelaw25.RembShares", spec := "rembShares", unfollowed := true, recurses := true, apart := false }
def RembSharesSaid : Prop := rembSharesRow.holds Try.pinned (OpenSpec.ofChange rembSharesSpec)

/-- ITS FALSE NEIGHBOUR: 'it returns false'. Refute it at one input. -/
def rembSharesWrong : ChangeSpec := { name := "rembShares", fn := fun _ => fun
  | [d1, d2, d3] => { results := [.lit (.bool false)], args := [d1, d2, d3] }
  | _ => none }
def RembSharesWrongFalsely : Prop := rembSharesRow.holds Try.pinned (OpenSpec.ofChange rembSharesWrong)

/-- 'tenaillelaw25.RembFits': WHATEVER THE INPUT: true; the input reads as it did. -/
def rembFitsSpec : ChangeSpec := { name := "rembFits", fn := fun _ => fun
  | [d1, d2] => { results := [.lit (.bool true)], args := [d1, d2] }
  | _ => none }
def rembFitsRow : OpenClaim := { program := "ytkemkplmhjmahaa", sum := "3a0843a340927b7be0f6b5d6e75f5adafb1d0982a8537ad925fd9a28236cceab", func := "tenaille/tenaillelaw25.RembFits", spec := "rembFits", unfollowed := true, recurses := true, apart := false }
def RembFitsSaid : Prop := rembFitsRow.holds Try.pinned (OpenSpec.ofChange rembFitsSpec)

/-- ITS FALSE NEIGHBOUR: 'it returns false'. Refute it at one input. -/
def rembFitsWrong : ChangeSpec := { name := "rembFits", fn := fun _ => fun
  | [d1, d2] => { results := [.lit (.bool false)], args := [d1, d2] }
  | _ => none }
def RembFitsWrongFalsely : Prop := rembFitsRow.holds Try.pinned (OpenSpec.ofChange rembFitsWrong)

/-- 'tenaillelaw33.LevelsSilent': WHATEVER THE INPUT: true; the input reads as it did. -/
def levelsSilentSpec : ChangeSpec := { name := "levelsSilent", fn := fun _ => fun
  | [d1, d2] => { results := [.lit (.bool true)], args := [d1, d2] }
  | _ => none }
def levelsSilentRow : OpenClaim := { program := "ytkemkplmhjmahaa", sum := "3a0843a340927b7be0f6b5d6e75f5adafb1d0982a8537ad925fd9a28236cceab", func := "tenaille/tenaillelaw33.LevelsSilent", spec := "levelsSilent", apart := false }
def LevelsSilentSaid : Prop := levelsSilentRow.holds Try.pinned (OpenSpec.ofChange levelsSilentSpec)

/-- ITS FALSE NEIGHBOUR: 'it returns false'. Refute it at one input. -/
def levelsSilentWrong : ChangeSpec := { name := "levelsSilent", fn := fun _ => fun
  | [d1, d2] => { results := [.lit (.bool false)], args := [d1, d2] }
  | _ => none }
def LevelsSilentWrongFalsely : Prop := levelsSilentRow.holds Try.pinned (OpenSpec.ofChange levelsSilentWrong)

/-- 'tenaillelaw33.LevelsBytes': WHATEVER THE INPUT: true; the input reads as it did. -/
def levelsBytesSpec : ChangeSpec := { name := "levelsBytes", fn := fun _ => fun
  | [d1, d2] => { results := [.lit (.bool true)], args := [d1, d2] }
  | _ => none }
def levelsBytesRow : OpenClaim := { program := "ytkemkplmhjmahaa", sum := "3a0843a340927b7be0f6b5d6e75f5adafb1d0982a8537ad925fd9a28236cceab", func := "tenaille/tenaillelaw33.LevelsBytes", spec := "levelsBytes", apart := false }
def LevelsBytesSaid : Prop := levelsBytesRow.holds Try.pinned (OpenSpec.ofChange levelsBytesSpec)

/-- ITS FALSE NEIGHBOUR: 'it returns false'. Refute it at one input. -/
def levelsBytesWrong : ChangeSpec := { name := "levelsBytes", fn := fun _ => fun
  | [d1, d2] => { results := [.lit (.bool false)], args := [d1, d2] }
  | _ => none }
def LevelsBytesWrongFalsely : Prop := levelsBytesRow.holds Try.pinned (OpenSpec.ofChange levelsBytesWrong)

/-- 'tenaillelaw17.ProbeSteady': WHATEVER THE INPUT: true; the input reads as it did. -/
def probeSteadySpec : ChangeSpec := { name := "probeSteady", fn := fun _ => fun
  | [d1, d2] => { results := [.lit (.bool true)], args := [d1, d2] }
  | _ => none }
def probeSteadyRow : OpenClaim := { program := "ytkemkplmhjmahaa", sum := "3a0843a340927b7be0f6b5d6e75f5adafb1d0982a8537ad925fd9a28236cceab", func := "tenaille/tenaillelaw17.ProbeSteady", spec := "probeSteady", apart := false }
def ProbeSteadySaid : Prop := probeSteadyRow.holds Try.pinned (OpenSpec.ofChange probeSteadySpec)

/-- ITS FALSE NEIGHBOUR: 'it returns false'. Refute it at one input. -/
def probeSteadyWrong : ChangeSpec := { name := "probeSteady", fn := fun _ => fun
  | [d1, d2] => { results := [.lit (.bool false)], args := [d1, d2] }
  | _ => none }
def ProbeSteadyWrongFalsely : Prop := probeSteadyRow.holds Try.pinned (OpenSpec.ofChange probeSteadyWrong)

/-- 'tenaillelaw17.ProbeLate': WHATEVER THE INPUT: true; the input reads as it did. -/
def probeLateSpec : ChangeSpec := { name := "probeLate", fn := fun _ => fun
  | [d1, d2] => { results := [.lit (.bool true)], args := [d1, d2] }
  | _ => none }
def probeLateRow : OpenClaim := { program := "ytkemkplmhjmahaa", sum := "3a0843a340927b7be0f6b5d6e75f5adafb1d0982a8537ad925fd9a28236cceab", func := "tenaille/tenaillelaw17.ProbeLate", spec := "probeLate", apart := false }
def ProbeLateSaid : Prop := probeLateRow.holds Try.pinned (OpenSpec.ofChange probeLateSpec)

/-- ITS FALSE NEIGHBOUR: 'it returns false'. Refute it at one input. -/
def probeLateWrong : ChangeSpec := { name := "probeLate", fn := fun _ => fun
  | [d1, d2] => { results := [.lit (.bool false)], args := [d1, d2] }
  | _ => none }
def ProbeLateWrongFalsely : Prop := probeLateRow.holds Try.pinned (OpenSpec.ofChange probeLateWrong)

/-- 'tenaillelaw17.ProbeNone': WHATEVER THE INPUT: true; the input reads as it did. -/
def probeNoneSpec : ChangeSpec := { name := "probeNone", fn := fun _ => fun
  | [d] => { results := [.lit (.bool true)], args := [d] }
  | _ => none }
def probeNoneRow : OpenClaim := { program := "ytkemkplmhjmahaa", sum := "3a0843a340927b7be0f6b5d6e75f5adafb1d0982a8537ad925fd9a28236cceab", func := "tenaille/tenaillelaw17.ProbeNone", spec := "probeNone", apart := false }
def ProbeNoneSaid : Prop := probeNoneRow.holds Try.pinned (OpenSpec.ofChange probeNoneSpec)

/-- ITS FALSE NEIGHBOUR: 'it returns false'. Refute it at one input. -/
def probeNoneWrong : ChangeSpec := { name := "probeNone", fn := fun _ => fun
  | [d] => { results := [.lit (.bool false)], args := [d] }
  | _ => none }
def ProbeNoneWrongFalsely : Prop := probeNoneRow.holds Try.pinned (OpenSpec.ofChange probeNoneWrong)

/- THE SECOND FORM. 'bulk': how many values and letters a reading holds, each counted each time it is reached (what is shared counts as often as it is met; a slice's spare places count too). A statement '..UptoSaid' is the law's where the arguments, and the package variables that the reading takes, are together of bulk at most 1048576: NARROWER than '..Said'. Prove '..Said' where nothing that the law and all that it calls make is longer than what came in: it says more and counts as full. Else prove '..UptoSaid'. A law counts once. -/
mutual
def uptoBulk {H : Type} : DataW H → Nat
  | .lit (.string bytes) => bytes.length + 1
  | .lit _ => 1
  | .nil => 1
  | .ptr d => uptoBulk d + 1
  | .slice elems spare => uptoBulkAll elems + uptoBulkAll spare + 1
  | .agg parts => uptoBulkAll parts + 1
  | .iface _ d => uptoBulk d + 1
  | .map entries => uptoBulkEntries entries + 1
  | .held _ => 1
def uptoBulkAll {H : Type} : List (DataW H) → Nat
  | [] => 0
  | d :: r => uptoBulk d + uptoBulkAll r
def uptoBulkEntries {H : Type} : List (Lit × DataW H) → Nat
  | [] => 0
  | x :: r => uptoBulkEntry x + uptoBulkEntries r
def uptoBulkEntry {H : Type} : Lit × DataW H → Nat
  | (.string bytes, d) => bytes.length + uptoBulk d + 1
  | (_, d) => uptoBulk d + 1
 end
def uptoSmall : (H : Type) → List (DataW H) → Bool := fun _ ds => decide (uptoBulkAll ds ≤ 1048576)
def OpenSpec.upto (s : _root_.Go.ChangeSpec) : _root_.Go.OpenSpec := { _root_.Go.OpenSpec.ofChange s with cond := some uptoSmall }

/-- 'tenaillelaw21.LadderGood', WHERE WHAT IT READS IS OF BULK AT MOST 1048576: true; the input reads as it did. -/
def ladderGoodUptoRow : OpenClaim := { program := "ytkemkplmhjmahaa", sum := "3a0843a340927b7be0f6b5d6e75f5adafb1d0982a8537ad925fd9a28236cceab", func := "tenaille/tenaillelaw21.LadderGood", spec := "ladderGood", apart := false, narrowed := true }
def LadderGoodUptoSaid : Prop := ladderGoodUptoRow.holds Try.pinned (OpenSpec.upto ladderGoodSpec)

/-- 'tenaillelaw21.LadderDecays', WHERE WHAT IT READS IS OF BULK AT MOST 1048576: true; the input reads as it did. -/
def ladderDecaysUptoRow : OpenClaim := { program := "ytkemkplmhjmahaa", sum := "3a0843a340927b7be0f6b5d6e75f5adafb1d0982a8537ad925fd9a28236cceab", func := "tenaille/tenaillelaw21.LadderDecays", spec := "ladderDecays", apart := false, narrowed := true }
def LadderDecaysUptoSaid : Prop := ladderDecaysUptoRow.holds Try.pinned (OpenSpec.upto ladderDecaysSpec)

/-- 'tenaillelaw21.LadderPlays', WHERE WHAT IT READS IS OF BULK AT MOST 1048576: true; the input reads as it did. -/
def ladderPlaysUptoRow : OpenClaim := { program := "ytkemkplmhjmahaa", sum := "3a0843a340927b7be0f6b5d6e75f5adafb1d0982a8537ad925fd9a28236cceab", func := "tenaille/tenaillelaw21.LadderPlays", spec := "ladderPlays", apart := false, narrowed := true }
def LadderPlaysUptoSaid : Prop := ladderPlaysUptoRow.holds Try.pinned (OpenSpec.upto ladderPlaysSpec)

/-- 'tenaillelaw21.LadderNone', WHERE WHAT IT READS IS OF BULK AT MOST 1048576: true; the input reads as it did. -/
def ladderNoneUptoRow : OpenClaim := { program := "ytkemkplmhjmahaa", sum := "3a0843a340927b7be0f6b5d6e75f5adafb1d0982a8537ad925fd9a28236cceab", func := "tenaille/tenaillelaw21.LadderNone", spec := "ladderNone", apart := false, narrowed := true }
def LadderNoneUptoSaid : Prop := ladderNoneUptoRow.holds Try.pinned (OpenSpec.upto ladderNoneSpec)

/-- 'tenaillelaw25.RembLowest', WHERE WHAT IT READS IS OF BULK AT MOST 1048576: true; the input reads as it did. -/
def rembLowestUptoRow : OpenClaim := { program := "ytkemkplmhjmahaa", sum := "3a0843a340927b7be0f6b5d6e75f5adafb1d0982a8537ad925fd9a28236cceab", func := "tenaille/tenaillelaw25.RembLowest", spec := "rembLowest", unfollowed := true, recurses := true, apart := false, narrowed := true }
def RembLowestUptoSaid : Prop := rembLowestUptoRow.holds Try.pinned (OpenSpec.upto rembLowestSpec)

/-- 'tenaillelaw25.RembShares', WHERE WHAT IT READS IS OF BULK AT MOST 1048576: true; the input reads as it did. -/
def rembSharesUptoRow : OpenClaim := { program := "ytkemkplmhjmahaa", sum := "3a0843a340927b7be0f6b5d6e75f5adafb1d0982a8537ad925fd9a28236cceab", func := "tenaille/tenaillelaw25.RembShares", spec := "rembShares", unfollowed := true, recurses := true, apart := false, narrowed := true }
def RembSharesUptoSaid : Prop := rembSharesUptoRow.holds Try.pinned (OpenSpec.upto rembSharesSpec)

/-- 'tenaillelaw25.RembFits', WHERE WHAT IT READS IS OF BULK AT MOST 1048576: true; the input reads as it did. -/
def rembFitsUptoRow : OpenClaim := { program := "ytkemkplmhjmahaa", sum := "3a0843a340927b7be0f6b5d6e75f5adafb1d0982a8537ad925fd9a28236cceab", func := "tenaille/tenaillelaw25.RembFits", spec := "rembFits", unfollowed := true, recurses := true, apart := false, narrowed := true }
def RembFitsUptoSaid : Prop := rembFitsUptoRow.holds Try.pinned (OpenSpec.upto rembFitsSpec)

/-- 'tenaillelaw33.LevelsSilent', WHERE WHAT IT READS IS OF BULK AT MOST 1048576: true; the input reads as it did. -/
def levelsSilentUptoRow : OpenClaim := { program := "ytkemkplmhjmahaa", sum := "3a0843a340927b7be0f6b5d6e75f5adafb1d0982a8537ad925fd9a28236cceab", func := "tenaille/tenaillelaw33.LevelsSilent", spec := "levelsSilent", apart := false, narrowed := true }
def LevelsSilentUptoSaid : Prop := levelsSilentUptoRow.holds Try.pinned (OpenSpec.upto levelsSilentSpec)

/-- 'tenaillelaw33.LevelsBytes', WHERE WHAT IT READS IS OF BULK AT MOST 1048576: true; the input reads as it did. -/
def levelsBytesUptoRow : OpenClaim := { program := "ytkemkplmhjmahaa", sum := "3a0843a340927b7be0f6b5d6e75f5adafb1d0982a8537ad925fd9a28236cceab", func := "tenaille/tenaillelaw33.LevelsBytes", spec := "levelsBytes", apart := false, narrowed := true }
def LevelsBytesUptoSaid : Prop := levelsBytesUptoRow.holds Try.pinned (OpenSpec.upto levelsBytesSpec)

/-- 'tenaillelaw17.ProbeSteady', WHERE WHAT IT READS IS OF BULK AT MOST 1048576: true; the input reads as it did. -/
def probeSteadyUptoRow : OpenClaim := { program := "ytkemkplmhjmahaa", sum := "3a0843a340927b7be0f6b5d6e75f5adafb1d0982a8537ad925fd9a28236cceab", func := "tenaille/tenaillelaw17.ProbeSteady", spec := "probeSteady", apart := false, narrowed := true }
def ProbeSteadyUptoSaid : Prop := probeSteadyUptoRow.holds Try.pinned (OpenSpec.upto probeSteadySpec)

/-- 'tenaillelaw17.ProbeLate', WHERE WHAT IT READS IS OF BULK AT MOST 1048576: true; the input reads as it did. -/
def probeLateUptoRow : OpenClaim := { program := "ytkemkplmhjmahaa", sum := "3a0843a340927b7be0f6b5d6e75f5adafb1d0982a8537ad925fd9a28236cceab", func := "tenaille/tenaillelaw17.ProbeLate", spec := "probeLate", apart := false, narrowed := true }
def ProbeLateUptoSaid : Prop := probeLateUptoRow.holds Try.pinned (OpenSpec.upto probeLateSpec)

/-- 'tenaillelaw17.ProbeNone', WHERE WHAT IT READS IS OF BULK AT MOST 1048576: true; the input reads as it did. -/
def probeNoneUptoRow : OpenClaim := { program := "ytkemkplmhjmahaa", sum := "3a0843a340927b7be0f6b5d6e75f5adafb1d0982a8537ad925fd9a28236cceab", func := "tenaille/tenaillelaw17.ProbeNone", spec := "probeNone", apart := false, narrowed := true }
def ProbeNoneUptoSaid : Prop := probeNoneUptoRow.holds Try.pinned (OpenSpec.upto probeNoneSpec)

end Rows
end Go.Proofs.Ytkemkplmhjmahaa
