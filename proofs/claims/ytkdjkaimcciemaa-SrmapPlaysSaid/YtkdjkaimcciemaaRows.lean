/-
  No cell of these rows narrows 'for every input' (looked for: loops, veiled, ifaces, maps, wideKeys, modest, calm, conditions, laid).
  DERIVED. THE GIVEN ROWS OF THIS SEAT. 12 by the template 'for every input the law returns true; each argument reads behind the call as it read before'; 0 by the template 'total and deterministic' (their statements: YtkdjkaimcciemaaTotals.lean).
  GIVEN WITH THE SEED: the statements are not yours to turn. If you find one false, say at which input.
  Laid BY PROGRAM, IN A SANDBOX (cutbox-rows.mjs): the forced cells as the released guide's own fill.sh prints them over the translation 986e683cc56220f6… (all of the seat's roots in one cut). By AI agents, Wed Nov 11 2026. No macro, syntax, notation, axiom, sorry.
-/
import Derived.Test.YtkdjkaimcciemaaChecked
import GoSem.Claim
import GoSem.ClaimJoined
import GoSem.ClaimMapViews
import Derived.JoinedTies
import Derived.KernelRfl
namespace Go.Proofs.Ytkdjkaimcciemaa
/- THE CELL 'sum', in the pinned program and in every row, IS THE sha256 OF THE DUMP (.gsa) THAT YtkdjkaimcciemaaProg.lean LOADS. Nothing in Lean hashes anything: it is a label: what it is worth is what the hold of that sum in a sandbox is worth. -/
noncomputable def Try.pinned : Pinned := { name := "ytkdjkaimcciemaa", sum := "986e683cc56220f6c657d1e608a443fd0dc56b162d51f1b411cf73152f205414", checked := Try.checked }
namespace Rows
def none {H : Type} : Left H := { results := [], args := [] }

/-- 'tenaillelaw38.SrmapTimes': WHATEVER THE INPUT: true; the input reads as it did. -/
def srmapTimesSpec : ChangeSpec := { name := "srmapTimes", fn := fun _ => fun
  | [d1, d2, d3] => { results := [.lit (.bool true)], args := [d1, d2, d3] }
  | _ => none }
def srmapTimesRow : OpenClaim := { program := "ytkdjkaimcciemaa", sum := "986e683cc56220f6c657d1e608a443fd0dc56b162d51f1b411cf73152f205414", func := "tenaille/tenaillelaw38.SrmapTimes", spec := "srmapTimes", apart := false }
def SrmapTimesSaid : Prop := srmapTimesRow.holds Try.pinned (OpenSpec.ofChange srmapTimesSpec)

/-- ITS FALSE NEIGHBOUR: 'it returns false'. Refute it at one input. -/
def srmapTimesWrong : ChangeSpec := { name := "srmapTimes", fn := fun _ => fun
  | [d1, d2, d3] => { results := [.lit (.bool false)], args := [d1, d2, d3] }
  | _ => none }
def SrmapTimesWrongFalsely : Prop := srmapTimesRow.holds Try.pinned (OpenSpec.ofChange srmapTimesWrong)

/-- 'tenaillelaw38.SrmapBack': WHATEVER THE INPUT: true; the input reads as it did. -/
def srmapBackSpec : ChangeSpec := { name := "srmapBack", fn := fun _ => fun
  | [d1, d2] => { results := [.lit (.bool true)], args := [d1, d2] }
  | _ => none }
def srmapBackRow : OpenClaim := { program := "ytkdjkaimcciemaa", sum := "986e683cc56220f6c657d1e608a443fd0dc56b162d51f1b411cf73152f205414", func := "tenaille/tenaillelaw38.SrmapBack", spec := "srmapBack", apart := false }
def SrmapBackSaid : Prop := srmapBackRow.holds Try.pinned (OpenSpec.ofChange srmapBackSpec)

/-- ITS FALSE NEIGHBOUR: 'it returns false'. Refute it at one input. -/
def srmapBackWrong : ChangeSpec := { name := "srmapBack", fn := fun _ => fun
  | [d1, d2] => { results := [.lit (.bool false)], args := [d1, d2] }
  | _ => none }
def SrmapBackWrongFalsely : Prop := srmapBackRow.holds Try.pinned (OpenSpec.ofChange srmapBackWrong)

/-- 'tenaillelaw38.SrmapPlays': WHATEVER THE INPUT: true; the input reads as it did. -/
def srmapPlaysSpec : ChangeSpec := { name := "srmapPlays", fn := fun _ => fun
  | [d] => { results := [.lit (.bool true)], args := [d] }
  | _ => none }
def srmapPlaysRow : OpenClaim := { program := "ytkdjkaimcciemaa", sum := "986e683cc56220f6c657d1e608a443fd0dc56b162d51f1b411cf73152f205414", func := "tenaille/tenaillelaw38.SrmapPlays", spec := "srmapPlays", apart := false }
def SrmapPlaysSaid : Prop := srmapPlaysRow.holds Try.pinned (OpenSpec.ofChange srmapPlaysSpec)

/-- ITS FALSE NEIGHBOUR: 'it returns false'. Refute it at one input. -/
def srmapPlaysWrong : ChangeSpec := { name := "srmapPlays", fn := fun _ => fun
  | [d] => { results := [.lit (.bool false)], args := [d] }
  | _ => none }
def SrmapPlaysWrongFalsely : Prop := srmapPlaysRow.holds Try.pinned (OpenSpec.ofChange srmapPlaysWrong)

/-- 'tenaillelaw08.WindowOnce': WHATEVER THE INPUT: true; the input reads as it did. -/
def windowOnceSpec : ChangeSpec := { name := "windowOnce", fn := fun _ => fun
  | [d] => { results := [.lit (.bool true)], args := [d] }
  | _ => none }
def windowOnceRow : OpenClaim := { program := "ytkdjkaimcciemaa", sum := "986e683cc56220f6c657d1e608a443fd0dc56b162d51f1b411cf73152f205414", func := "tenaille/tenaillelaw08.WindowOnce", spec := "windowOnce", unfollowed := true, recurses := true, apart := false }
def WindowOnceSaid : Prop := windowOnceRow.holds Try.pinned (OpenSpec.ofChange windowOnceSpec)

/-- ITS FALSE NEIGHBOUR: 'it returns false'. Refute it at one input. -/
def windowOnceWrong : ChangeSpec := { name := "windowOnce", fn := fun _ => fun
  | [d] => { results := [.lit (.bool false)], args := [d] }
  | _ => none }
def WindowOnceWrongFalsely : Prop := windowOnceRow.holds Try.pinned (OpenSpec.ofChange windowOnceWrong)

/-- 'tenaillelaw08.WindowMarks': WHATEVER THE INPUT: true; the input reads as it did. -/
def windowMarksSpec : ChangeSpec := { name := "windowMarks", fn := fun _ => fun
  | [d1, d2] => { results := [.lit (.bool true)], args := [d1, d2] }
  | _ => none }
def windowMarksRow : OpenClaim := { program := "ytkdjkaimcciemaa", sum := "986e683cc56220f6c657d1e608a443fd0dc56b162d51f1b411cf73152f205414", func := "tenaille/tenaillelaw08.WindowMarks", spec := "windowMarks", unfollowed := true, recurses := true, apart := false }
def WindowMarksSaid : Prop := windowMarksRow.holds Try.pinned (OpenSpec.ofChange windowMarksSpec)

/-- ITS FALSE NEIGHBOUR: 'it returns false'. Refute it at one input. -/
def windowMarksWrong : ChangeSpec := { name := "windowMarks", fn := fun _ => fun
  | [d1, d2] => { results := [.lit (.bool false)], args := [d1, d2] }
  | _ => none }
def WindowMarksWrongFalsely : Prop := windowMarksRow.holds Try.pinned (OpenSpec.ofChange windowMarksWrong)

/-- 'tenaillelaw08.WindowNone': WHATEVER THE INPUT: true; the input reads as it did. -/
def windowNoneSpec : ChangeSpec := { name := "windowNone", fn := fun _ => fun
  | [d] => { results := [.lit (.bool true)], args := [d] }
  | _ => none }
def windowNoneRow : OpenClaim := { program := "ytkdjkaimcciemaa", sum := "986e683cc56220f6c657d1e608a443fd0dc56b162d51f1b411cf73152f205414", func := "tenaille/tenaillelaw08.WindowNone", spec := "windowNone", unfollowed := true, recurses := true, apart := false }
def WindowNoneSaid : Prop := windowNoneRow.holds Try.pinned (OpenSpec.ofChange windowNoneSpec)

/-- ITS FALSE NEIGHBOUR: 'it returns false'. Refute it at one input. -/
def windowNoneWrong : ChangeSpec := { name := "windowNone", fn := fun _ => fun
  | [d] => { results := [.lit (.bool false)], args := [d] }
  | _ => none }
def WindowNoneWrongFalsely : Prop := windowNoneRow.holds Try.pinned (OpenSpec.ofChange windowNoneWrong)

/-- 'tenaillelaw22.RewriteOrder': WHATEVER THE INPUT: true; the input reads as it did. -/
def rewriteOrderSpec : ChangeSpec := { name := "rewriteOrder", fn := fun _ => fun
  | [d1, d2, d3] => { results := [.lit (.bool true)], args := [d1, d2, d3] }
  | _ => none }
def rewriteOrderRow : OpenClaim := { program := "ytkdjkaimcciemaa", sum := "986e683cc56220f6c657d1e608a443fd0dc56b162d51f1b411cf73152f205414", func := "tenaille/tenaillelaw22.RewriteOrder", spec := "rewriteOrder", apart := false }
def RewriteOrderSaid : Prop := rewriteOrderRow.holds Try.pinned (OpenSpec.ofChange rewriteOrderSpec)

/-- ITS FALSE NEIGHBOUR: 'it returns false'. Refute it at one input. -/
def rewriteOrderWrong : ChangeSpec := { name := "rewriteOrder", fn := fun _ => fun
  | [d1, d2, d3] => { results := [.lit (.bool false)], args := [d1, d2, d3] }
  | _ => none }
def RewriteOrderWrongFalsely : Prop := rewriteOrderRow.holds Try.pinned (OpenSpec.ofChange rewriteOrderWrong)

/-- 'tenaillelaw22.RewritePlays': WHATEVER THE INPUT: true; the input reads as it did. -/
def rewritePlaysSpec : ChangeSpec := { name := "rewritePlays", fn := fun _ => fun
  | [d1, d2] => { results := [.lit (.bool true)], args := [d1, d2] }
  | _ => none }
def rewritePlaysRow : OpenClaim := { program := "ytkdjkaimcciemaa", sum := "986e683cc56220f6c657d1e608a443fd0dc56b162d51f1b411cf73152f205414", func := "tenaille/tenaillelaw22.RewritePlays", spec := "rewritePlays", apart := false }
def RewritePlaysSaid : Prop := rewritePlaysRow.holds Try.pinned (OpenSpec.ofChange rewritePlaysSpec)

/-- ITS FALSE NEIGHBOUR: 'it returns false'. Refute it at one input. -/
def rewritePlaysWrong : ChangeSpec := { name := "rewritePlays", fn := fun _ => fun
  | [d1, d2] => { results := [.lit (.bool false)], args := [d1, d2] }
  | _ => none }
def RewritePlaysWrongFalsely : Prop := rewritePlaysRow.holds Try.pinned (OpenSpec.ofChange rewritePlaysWrong)

/-- 'tenaillelaw22.RewriteAbove': WHATEVER THE INPUT: true; the input reads as it did. -/
def rewriteAboveSpec : ChangeSpec := { name := "rewriteAbove", fn := fun _ => fun
  | [d1, d2, d3] => { results := [.lit (.bool true)], args := [d1, d2, d3] }
  | _ => none }
def rewriteAboveRow : OpenClaim := { program := "ytkdjkaimcciemaa", sum := "986e683cc56220f6c657d1e608a443fd0dc56b162d51f1b411cf73152f205414", func := "tenaille/tenaillelaw22.RewriteAbove", spec := "rewriteAbove", apart := false }
def RewriteAboveSaid : Prop := rewriteAboveRow.holds Try.pinned (OpenSpec.ofChange rewriteAboveSpec)

/-- ITS FALSE NEIGHBOUR: 'it returns false'. Refute it at one input. -/
def rewriteAboveWrong : ChangeSpec := { name := "rewriteAbove", fn := fun _ => fun
  | [d1, d2, d3] => { results := [.lit (.bool false)], args := [d1, d2, d3] }
  | _ => none }
def RewriteAboveWrongFalsely : Prop := rewriteAboveRow.holds Try.pinned (OpenSpec.ofChange rewriteAboveWrong)

/-- 'tenaillelaw23.LayersTurns': WHATEVER THE INPUT: true; the input reads as it did. -/
def layersTurnsSpec : ChangeSpec := { name := "layersTurns", fn := fun _ => fun
  | [d1, d2] => { results := [.lit (.bool true)], args := [d1, d2] }
  | _ => none }
def layersTurnsRow : OpenClaim := { program := "ytkdjkaimcciemaa", sum := "986e683cc56220f6c657d1e608a443fd0dc56b162d51f1b411cf73152f205414", func := "tenaille/tenaillelaw23.LayersTurns", spec := "layersTurns", unfollowed := true, recurses := true, apart := false }
def LayersTurnsSaid : Prop := layersTurnsRow.holds Try.pinned (OpenSpec.ofChange layersTurnsSpec)

/-- ITS FALSE NEIGHBOUR: 'it returns false'. Refute it at one input. -/
def layersTurnsWrong : ChangeSpec := { name := "layersTurns", fn := fun _ => fun
  | [d1, d2] => { results := [.lit (.bool false)], args := [d1, d2] }
  | _ => none }
def LayersTurnsWrongFalsely : Prop := layersTurnsRow.holds Try.pinned (OpenSpec.ofChange layersTurnsWrong)

/-- 'tenaillelaw23.LayersPlays': WHATEVER THE INPUT: true; the input reads as it did. -/
def layersPlaysSpec : ChangeSpec := { name := "layersPlays", fn := fun _ => fun
  | [d1, d2] => { results := [.lit (.bool true)], args := [d1, d2] }
  | _ => none }
def layersPlaysRow : OpenClaim := { program := "ytkdjkaimcciemaa", sum := "986e683cc56220f6c657d1e608a443fd0dc56b162d51f1b411cf73152f205414", func := "tenaille/tenaillelaw23.LayersPlays", spec := "layersPlays", unfollowed := true, recurses := true, apart := false }
def LayersPlaysSaid : Prop := layersPlaysRow.holds Try.pinned (OpenSpec.ofChange layersPlaysSpec)

/-- ITS FALSE NEIGHBOUR: 'it returns false'. Refute it at one input. -/
def layersPlaysWrong : ChangeSpec := { name := "layersPlays", fn := fun _ => fun
  | [d1, d2] => { results := [.lit (.bool false)], args := [d1, d2] }
  | _ => none }
def LayersPlaysWrongFalsely : Prop := layersPlaysRow.holds Try.pinned (OpenSpec.ofChange layersPlaysWrong)

/-- 'tenaillelaw23.LayersNone': WHATEVER THE INPUT: true; the input reads as it did. -/
def layersNoneSpec : ChangeSpec := { name := "layersNone", fn := fun _ => fun
  | [d1, d2] => { results := [.lit (.bool true)], args := [d1, d2] }
  | _ => none }
def layersNoneRow : OpenClaim := { program := "ytkdjkaimcciemaa", sum := "986e683cc56220f6c657d1e608a443fd0dc56b162d51f1b411cf73152f205414", func := "tenaille/tenaillelaw23.LayersNone", spec := "layersNone", unfollowed := true, recurses := true, apart := false }
def LayersNoneSaid : Prop := layersNoneRow.holds Try.pinned (OpenSpec.ofChange layersNoneSpec)

/-- ITS FALSE NEIGHBOUR: 'it returns false'. Refute it at one input. -/
def layersNoneWrong : ChangeSpec := { name := "layersNone", fn := fun _ => fun
  | [d1, d2] => { results := [.lit (.bool false)], args := [d1, d2] }
  | _ => none }
def LayersNoneWrongFalsely : Prop := layersNoneRow.holds Try.pinned (OpenSpec.ofChange layersNoneWrong)

/- THE SECOND FORM. 'bulk': how many values and letters a reading holds, each counted each time it is reached (what is shared counts as often as it is met; a slice's spare places count too). A statement '..UptoSaid' is the law's where the arguments, and the package variables that the reading takes, are together of bulk at most 1048576: NARROWER than '..Said'. Prove '..Said' where nothing that the law and all that it calls make is longer than what came in: it says more and counts as full. Else prove '..UptoSaid'. A law counts once. -/
mutual
def uptoBulk {H : Type} : DataW H → Nat
  | .lit (.string bytes) => bytes.length + 1
  | .lit _ => 1
  | .nil => 1
  | .ptr d => uptoBulk d + 1
  | .slice elems spare => uptoBulkAll elems + uptoBulkAll spare + 1
  | .agg parts => uptoBulkAll parts + 1
  | .iface _ d => uptoBulk d + 1
  | .map entries => uptoBulkEntries entries + 1
  | .held _ => 1
def uptoBulkAll {H : Type} : List (DataW H) → Nat
  | [] => 0
  | d :: r => uptoBulk d + uptoBulkAll r
def uptoBulkEntries {H : Type} : List (Lit × DataW H) → Nat
  | [] => 0
  | x :: r => uptoBulkEntry x + uptoBulkEntries r
def uptoBulkEntry {H : Type} : Lit × DataW H → Nat
  | (.string bytes, d) => bytes.length + uptoBulk d + 1
  | (_, d) => uptoBulk d + 1
 end
def uptoSmall : (H : Type) → List (DataW H) → Bool := fun _ ds => decide (uptoBulkAll ds ≤ 1048576)
def OpenSpec.upto (s : _root_.Go.ChangeSpec) : _root_.Go.OpenSpec := { _root_.Go.OpenSpec.ofChange s with cond := some uptoSmall }

/-- 'tenaillelaw38.SrmapTimes', WHERE WHAT IT READS IS OF BULK AT MOST 1048576: true; the input reads as it did. -/
def srmapTimesUptoRow : OpenClaim := { program := "ytkdjkaimcciemaa", sum := "986e683cc56220f6c657d1e608a443fd0dc56b162d51f1b411cf73152f205414", func := "tenaille/tenaillelaw38.SrmapTimes", spec := "srmapTimes", apart := false, narrowed := true }
def SrmapTimesUptoSaid : Prop := srmapTimesUptoRow.holds Try.pinned (OpenSpec.upto srmapTimesSpec)

/-- 'tenaillelaw38.SrmapBack', WHERE WHAT IT READS IS OF BULK AT MOST 1048576: true; the input reads as it did. -/
def srmapBackUptoRow : OpenClaim := { program := "ytkdjkaimcciemaa", sum := "986e683cc56220f6c657d1e608a443fd0dc56b162d51f1b411cf73152f205414", func := "tenaille/tenaillelaw38.SrmapBack", spec := "srmapBack", apart := false, narrowed := true }
def SrmapBackUptoSaid : Prop := srmapBackUptoRow.holds Try.pinned (OpenSpec.upto srmapBackSpec)

/-- 'tenaillelaw38.SrmapPlays', WHERE WHAT IT READS IS OF BULK AT MOST 1048576: true; the input reads as it did. -/
def srmapPlaysUptoRow : OpenClaim := { program := "ytkdjkaimcciemaa", sum := "986e683cc56220f6c657d1e608a443fd0dc56b162d51f1b411cf73152f205414", func := "tenaille/tenaillelaw38.SrmapPlays", spec := "srmapPlays", apart := false, narrowed := true }
def SrmapPlaysUptoSaid : Prop := srmapPlaysUptoRow.holds Try.pinned (OpenSpec.upto srmapPlaysSpec)

/-- 'tenaillelaw08.WindowOnce', WHERE WHAT IT READS IS OF BULK AT MOST 1048576: true; the input reads as it did. -/
def windowOnceUptoRow : OpenClaim := { program := "ytkdjkaimcciemaa", sum := "986e683cc56220f6c657d1e608a443fd0dc56b162d51f1b411cf73152f205414", func := "tenaille/tenaillelaw08.WindowOnce", spec := "windowOnce", unfollowed := true, recurses := true, apart := false, narrowed := true }
def WindowOnceUptoSaid : Prop := windowOnceUptoRow.holds Try.pinned (OpenSpec.upto windowOnceSpec)

/-- 'tenaillelaw08.WindowMarks', WHERE WHAT IT READS IS OF BULK AT MOST 1048576: true; the input reads as it did. -/
def windowMarksUptoRow : OpenClaim := { program := "ytkdjkaimcciemaa", sum := "986e683cc56220f6c657d1e608a443fd0dc56b162d51f1b411cf73152f205414", func := "tenaille/tenaillelaw08.WindowMarks", spec := "windowMarks", unfollowed := true, recurses := true, apart := false, narrowed := true }
def WindowMarksUptoSaid : Prop := windowMarksUptoRow.holds Try.pinned (OpenSpec.upto windowMarksSpec)

/-- 'tenaillelaw08.WindowNone', WHERE WHAT IT READS IS OF BULK AT MOST 1048576: true; the input reads as it did. -/
def windowNoneUptoRow : OpenClaim := { program := "ytkdjkaimcciemaa", sum := "986e683cc56220f6c657d1e608a443fd0dc56b162d51f1b411cf73152f205414", func := "tenaille/tenaillelaw08.WindowNone", spec := "windowNone", unfollowed := true, recurses := true, apart := false, narrowed := true }
def WindowNoneUptoSaid : Prop := windowNoneUptoRow.holds Try.pinned (OpenSpec.upto windowNoneSpec)

/-- 'tenaillelaw22.RewriteOrder', WHERE WHAT IT READS IS OF BULK AT MOST 1048576: true; the input reads as it did. -/
def rewriteOrderUptoRow : OpenClaim := { program := "ytkdjkaimcciemaa", sum := "986e683cc56220f6c657d1e608a443fd0dc56b162d51f1b411cf73152f205414", func := "tenaille/tenaillelaw22.RewriteOrder", spec := "rewriteOrder", apart := false, narrowed := true }
def RewriteOrderUptoSaid : Prop := rewriteOrderUptoRow.holds Try.pinned (OpenSpec.upto rewriteOrderSpec)

/-- 'tenaillelaw22.RewritePlays', WHERE WHAT IT READS IS OF BULK AT MOST 1048576: true; the input reads as it did. -/
def rewritePlaysUptoRow : OpenClaim := { program := "ytkdjkaimcciemaa", sum := "986e683cc56220f6c657d1e608a443fd0dc56b162d51f1b411cf73152f205414", func := "tenaille/tenaillelaw22.RewritePlays", spec := "rewritePlays", apart := false, narrowed := true }
def RewritePlaysUptoSaid : Prop := rewritePlaysUptoRow.holds Try.pinned (OpenSpec.upto rewritePlaysSpec)

/-- 'tenaillelaw22.RewriteAbove', WHERE WHAT IT READS IS OF BULK AT MOST 1048576: true; the input reads as it did. -/
def rewriteAboveUptoRow : OpenClaim := { program := "ytkdjkaimcciemaa", sum := "986e683cc56220f6c657d1e608a443fd0dc56b162d51f1b411cf73152f205414", func := "tenaille/tenaillelaw22.RewriteAbove", spec := "rewriteAbove", apart := false, narrowed := true }
def RewriteAboveUptoSaid : Prop := rewriteAboveUptoRow.holds Try.pinned (OpenSpec.upto rewriteAboveSpec)

/-- 'tenaillelaw23.LayersTurns', WHERE WHAT IT READS IS OF BULK AT MOST 1048576: true; the input reads as it did. -/
def layersTurnsUptoRow : OpenClaim := { program := "ytkdjkaimcciemaa", sum := "986e683cc56220f6c657d1e608a443fd0dc56b162d51f1b411cf73152f205414", func := "tenaille/tenaillelaw23.LayersTurns", spec := "layersTurns", unfollowed := true, recurses := true, apart := false, narrowed := true }
def LayersTurnsUptoSaid : Prop := layersTurnsUptoRow.holds Try.pinned (OpenSpec.upto layersTurnsSpec)

/-- 'tenaillelaw23.LayersPlays', WHERE WHAT IT READS IS OF BULK AT MOST 1048576: true; the input reads as it did. -/
def layersPlaysUptoRow : OpenClaim := { program := "ytkdjkaimcciemaa", sum := "986e683cc56220f6c657d1e608a443fd0dc56b162d51f1b411cf73152f205414", func := "tenaille/tenaillelaw23.LayersPlays", spec := "layersPlays", unfollowed := true, recurses := true, apart := false, narrowed := true }
def LayersPlaysUptoSaid : Prop := layersPlaysUptoRow.holds Try.pinned (OpenSpec.upto layersPlaysSpec)

/-- 'tenaillelaw23.LayersNone', WHERE WHAT IT READS IS OF BULK AT MOST 1048576: true; the input reads as it did. -/
def layersNoneUptoRow : OpenClaim := { program := "ytkdjkaimcciemaa", sum := "986e683cc56220f6c657d1e608a443fd0dc56b162d51f1b411cf73152f205414", func := "tenaille/tenaillelaw23.LayersNone", spec := "layersNone", unfollowed := true, recurses := true, apart := false, narrowed := true }
def LayersNoneUptoSaid : Prop := layersNoneUptoRow.holds Try.pinned (OpenSpec.upto layersNoneSpec)

end Rows
end Go.Proofs.Ytkdjkaimcciemaa
