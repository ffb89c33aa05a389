/-
  No cell of these rows narrows 'for every input' (looked for: loops, veiled, ifaces, maps, wideKeys, modest, calm, conditions, laid).
  DERIVED. THE GIVEN ROWS OF THIS SEAT. 12 by the template 'for every input the law returns true; each argument reads behind the call as it read before'; 0 by the template 'total and deterministic' (their statements: YtdmbdageohjodaaTotals.lean).
  GIVEN WITH THE SEED: the statements are not yours to turn. If you find one false, say at which input.
  Laid BY PROGRAM, IN A SANDBOX (cutbox-rows.mjs): the forced cells as the released guide's own fill.sh prints them over the translation 32b57acd48811c2d… (all of the seat's roots in one cut). By AI agents, Wed Nov 11 2026. No macro, syntax, notation, axiom, sorry.
-/
import Derived.Test.YtdmbdageohjodaaChecked
import GoSem.Claim
import GoSem.ClaimJoined
import GoSem.ClaimMapViews
import Derived.JoinedTies
import Derived.KernelRfl
namespace Go.Proofs.Ytdmbdageohjodaa
/- THE CELL 'sum', in the pinned program and in every row, IS THE sha256 OF THE DUMP (.gsa) THAT YtdmbdageohjodaaProg.lean LOADS. Nothing in Lean hashes anything: it is a label: what it is worth is what the hold of that sum in a sandbox is worth. -/
noncomputable def Try.pinned : Pinned := { name := "ytdmbdageohjodaa", sum := "32b57acd48811c2d537e846454bc0c04340513cf234a4752bb42051cb546cbb1", checked := Try.checked }
namespace Rows
def none {H : Type} : Left H := { results := [], args := [] }

/-- 'tenaillelaw20.LossesPlays': WHATEVER THE INPUT: true; the input reads as it did. -/
def lossesPlaysSpec : ChangeSpec := { name := "lossesPlays", fn := fun _ => fun
  | [d1, d2] => { results := [.lit (.bool true)], args := [d1, d2] }
  | _ => none }
def lossesPlaysRow : OpenClaim := { program := "ytdmbdageohjodaa", sum := "32b57acd48811c2d537e846454bc0c04340513cf234a4752bb42051cb546cbb1", func := "tenaille/tenaillelaw20.LossesPlays", spec := "lossesPlays", unfollowed := true, recurses := true, apart := false }
def LossesPlaysSaid : Prop := lossesPlaysRow.holds Try.pinned (OpenSpec.ofChange lossesPlaysSpec)

/-- ITS FALSE NEIGHBOUR: 'it returns false'. Refute it at one input. -/
def lossesPlaysWrong : ChangeSpec := { name := "lossesPlays", fn := fun _ => fun
  | [d1, d2] => { results := [.lit (.bool false)], args := [d1, d2] }
  | _ => none }
def LossesPlaysWrongFalsely : Prop := lossesPlaysRow.holds Try.pinned (OpenSpec.ofChange lossesPlaysWrong)

/-- 'tenaillelaw20.LossesNone': WHATEVER THE INPUT: true; the input reads as it did. -/
def lossesNoneSpec : ChangeSpec := { name := "lossesNone", fn := fun _ => fun
  | [d1, d2] => { results := [.lit (.bool true)], args := [d1, d2] }
  | _ => none }
def lossesNoneRow : OpenClaim := { program := "ytdmbdageohjodaa", sum := "32b57acd48811c2d537e846454bc0c04340513cf234a4752bb42051cb546cbb1", func := "tenaille/tenaillelaw20.LossesNone", spec := "lossesNone", unfollowed := true, recurses := true, apart := false }
def LossesNoneSaid : Prop := lossesNoneRow.holds Try.pinned (OpenSpec.ofChange lossesNoneSpec)

/-- ITS FALSE NEIGHBOUR: 'it returns false'. Refute it at one input. -/
def lossesNoneWrong : ChangeSpec := { name := "lossesNone", fn := fun _ => fun
  | [d1, d2] => { results := [.lit (.bool false)], args := [d1, d2] }
  | _ => none }
def LossesNoneWrongFalsely : Prop := lossesNoneRow.holds Try.pinned (OpenSpec.ofChange lossesNoneWrong)

/-- 'tenaillelaw20.LossesReports': WHATEVER THE INPUT: true; the input reads as it did. -/
def lossesReportsSpec : ChangeSpec := { name := "lossesReports", fn := fun _ => fun
  | [d1, d2, d3] => { results := [.lit (.bool true)], args := [d1, d2, d3] }
  | _ => none }
def lossesReportsRow : OpenClaim := { program := "ytdmbdageohjodaa", sum := "32b57acd48811c2d537e846454bc0c04340513cf234a4752bb42051cb546cbb1", func := "tenaille/tenaillelaw20.LossesReports", spec := "lossesReports", unfollowed := true, recurses := true, apart := false }
def LossesReportsSaid : Prop := lossesReportsRow.holds Try.pinned (OpenSpec.ofChange lossesReportsSpec)

/-- ITS FALSE NEIGHBOUR: 'it returns false'. Refute it at one input. -/
def lossesReportsWrong : ChangeSpec := { name := "lossesReports", fn := fun _ => fun
  | [d1, d2, d3] => { results := [.lit (.bool false)], args := [d1, d2, d3] }
  | _ => none }
def LossesReportsWrongFalsely : Prop := lossesReportsRow.holds Try.pinned (OpenSpec.ofChange lossesReportsWrong)

/-- 'tenaillelaw20.LossesBound': WHATEVER THE INPUT: true; the input reads as it did. -/
def lossesBoundSpec : ChangeSpec := { name := "lossesBound", fn := fun _ => fun
  | [d1, d2] => { results := [.lit (.bool true)], args := [d1, d2] }
  | _ => none }
def lossesBoundRow : OpenClaim := { program := "ytdmbdageohjodaa", sum := "32b57acd48811c2d537e846454bc0c04340513cf234a4752bb42051cb546cbb1", func := "tenaille/tenaillelaw20.LossesBound", spec := "lossesBound", unfollowed := true, recurses := true, apart := false }
def LossesBoundSaid : Prop := lossesBoundRow.holds Try.pinned (OpenSpec.ofChange lossesBoundSpec)

/-- ITS FALSE NEIGHBOUR: 'it returns false'. Refute it at one input. -/
def lossesBoundWrong : ChangeSpec := { name := "lossesBound", fn := fun _ => fun
  | [d1, d2] => { results := [.lit (.bool false)], args := [d1, d2] }
  | _ => none }
def LossesBoundWrongFalsely : Prop := lossesBoundRow.holds Try.pinned (OpenSpec.ofChange lossesBoundWrong)

/-- 'tenaillelaw45.CaptureWrites': WHATEVER THE INPUT: true; the input reads as it did. -/
def captureWritesSpec : ChangeSpec := { name := "captureWrites", fn := fun _ => fun
  | [d] => { results := [.lit (.bool true)], args := [d] }
  | _ => none }
def captureWritesRow : OpenClaim := { program := "ytdmbdageohjodaa", sum := "32b57acd48811c2d537e846454bc0c04340513cf234a4752bb42051cb546cbb1", func := "tenaille/tenaillelaw45.CaptureWrites", spec := "captureWrites", unfollowed := true, recurses := true, apart := false }
def CaptureWritesSaid : Prop := captureWritesRow.holds Try.pinned (OpenSpec.ofChange captureWritesSpec)

/-- ITS FALSE NEIGHBOUR: 'it returns false'. Refute it at one input. -/
def captureWritesWrong : ChangeSpec := { name := "captureWrites", fn := fun _ => fun
  | [d] => { results := [.lit (.bool false)], args := [d] }
  | _ => none }
def CaptureWritesWrongFalsely : Prop := captureWritesRow.holds Try.pinned (OpenSpec.ofChange captureWritesWrong)

/-- 'tenaillelaw45.CaptureReads': WHATEVER THE INPUT: true; the input reads as it did. -/
def captureReadsSpec : ChangeSpec := { name := "captureReads", fn := fun _ => fun
  | [d] => { results := [.lit (.bool true)], args := [d] }
  | _ => none }
def captureReadsRow : OpenClaim := { program := "ytdmbdageohjodaa", sum := "32b57acd48811c2d537e846454bc0c04340513cf234a4752bb42051cb546cbb1", func := "tenaille/tenaillelaw45.CaptureReads", spec := "captureReads", unfollowed := true, recurses := true, apart := false }
def CaptureReadsSaid : Prop := captureReadsRow.holds Try.pinned (OpenSpec.ofChange captureReadsSpec)

/-- ITS FALSE NEIGHBOUR: 'it returns false'. Refute it at one input. -/
def captureReadsWrong : ChangeSpec := { name := "captureReads", fn := fun _ => fun
  | [d] => { results := [.lit (.bool false)], args := [d] }
  | _ => none }
def CaptureReadsWrongFalsely : Prop := captureReadsRow.holds Try.pinned (OpenSpec.ofChange captureReadsWrong)

/-- 'tenaillelaw45.CaptureCuts': WHATEVER THE INPUT: true; the input reads as it did. -/
def captureCutsSpec : ChangeSpec := { name := "captureCuts", fn := fun _ => fun
  | [d1, d2] => { results := [.lit (.bool true)], args := [d1, d2] }
  | _ => none }
def captureCutsRow : OpenClaim := { program := "ytdmbdageohjodaa", sum := "32b57acd48811c2d537e846454bc0c04340513cf234a4752bb42051cb546cbb1", func := "tenaille/tenaillelaw45.CaptureCuts", spec := "captureCuts", unfollowed := true, recurses := true, apart := false }
def CaptureCutsSaid : Prop := captureCutsRow.holds Try.pinned (OpenSpec.ofChange captureCutsSpec)

/-- ITS FALSE NEIGHBOUR: 'it returns false'. Refute it at one input. -/
def captureCutsWrong : ChangeSpec := { name := "captureCuts", fn := fun _ => fun
  | [d1, d2] => { results := [.lit (.bool false)], args := [d1, d2] }
  | _ => none }
def CaptureCutsWrongFalsely : Prop := captureCutsRow.holds Try.pinned (OpenSpec.ofChange captureCutsWrong)

/-- 'tenaillelaw45.CaptureLogs': WHATEVER THE INPUT: true; the input reads as it did. -/
def captureLogsSpec : ChangeSpec := { name := "captureLogs", fn := fun _ => fun
  | [d1, d2, d3, d4, d5] => { results := [.lit (.bool true)], args := [d1, d2, d3, d4, d5] }
  | _ => none }
def captureLogsRow : OpenClaim := { program := "ytdmbdageohjodaa", sum := "32b57acd48811c2d537e846454bc0c04340513cf234a4752bb42051cb546cbb1", func := "tenaille/tenaillelaw45.CaptureLogs", spec := "captureLogs", unfollowed := true, recurses := true, apart := false }
def CaptureLogsSaid : Prop := captureLogsRow.holds Try.pinned (OpenSpec.ofChange captureLogsSpec)

/-- ITS FALSE NEIGHBOUR: 'it returns false'. Refute it at one input. -/
def captureLogsWrong : ChangeSpec := { name := "captureLogs", fn := fun _ => fun
  | [d1, d2, d3, d4, d5] => { results := [.lit (.bool false)], args := [d1, d2, d3, d4, d5] }
  | _ => none }
def CaptureLogsWrongFalsely : Prop := captureLogsRow.holds Try.pinned (OpenSpec.ofChange captureLogsWrong)

/-- 'tenaillelaw40.RatesMeter': WHATEVER THE INPUT: true; the input reads as it did. -/
def ratesMeterSpec : ChangeSpec := { name := "ratesMeter", fn := fun _ => fun
  | [d1, d2] => { results := [.lit (.bool true)], args := [d1, d2] }
  | _ => none }
def ratesMeterRow : OpenClaim := { program := "ytdmbdageohjodaa", sum := "32b57acd48811c2d537e846454bc0c04340513cf234a4752bb42051cb546cbb1", func := "tenaille/tenaillelaw40.RatesMeter", spec := "ratesMeter", apart := false }
def RatesMeterSaid : Prop := ratesMeterRow.holds Try.pinned (OpenSpec.ofChange ratesMeterSpec)

/-- ITS FALSE NEIGHBOUR: 'it returns false'. Refute it at one input. -/
def ratesMeterWrong : ChangeSpec := { name := "ratesMeter", fn := fun _ => fun
  | [d1, d2] => { results := [.lit (.bool false)], args := [d1, d2] }
  | _ => none }
def RatesMeterWrongFalsely : Prop := ratesMeterRow.holds Try.pinned (OpenSpec.ofChange ratesMeterWrong)

/-- 'tenaillelaw36.RedKeeps': WHATEVER THE INPUT: true; the input reads as it did. -/
def redKeepsSpec : ChangeSpec := { name := "redKeeps", fn := fun _ => fun
  | [d1, d2, d3] => { results := [.lit (.bool true)], args := [d1, d2, d3] }
  | _ => none }
def redKeepsRow : OpenClaim := { program := "ytdmbdageohjodaa", sum := "32b57acd48811c2d537e846454bc0c04340513cf234a4752bb42051cb546cbb1", func := "tenaille/tenaillelaw36.RedKeeps", spec := "redKeeps", unfollowed := true, recurses := true, apart := false }
def RedKeepsSaid : Prop := redKeepsRow.holds Try.pinned (OpenSpec.ofChange redKeepsSpec)

/-- ITS FALSE NEIGHBOUR: 'it returns false'. Refute it at one input. -/
def redKeepsWrong : ChangeSpec := { name := "redKeeps", fn := fun _ => fun
  | [d1, d2, d3] => { results := [.lit (.bool false)], args := [d1, d2, d3] }
  | _ => none }
def RedKeepsWrongFalsely : Prop := redKeepsRow.holds Try.pinned (OpenSpec.ofChange redKeepsWrong)

/-- 'tenaillelaw36.RedWrites': WHATEVER THE INPUT: true; the input reads as it did. -/
def redWritesSpec : ChangeSpec := { name := "redWrites", fn := fun _ => fun
  | [d] => { results := [.lit (.bool true)], args := [d] }
  | _ => none }
def redWritesRow : OpenClaim := { program := "ytdmbdageohjodaa", sum := "32b57acd48811c2d537e846454bc0c04340513cf234a4752bb42051cb546cbb1", func := "tenaille/tenaillelaw36.RedWrites", spec := "redWrites", apart := false }
def RedWritesSaid : Prop := redWritesRow.holds Try.pinned (OpenSpec.ofChange redWritesSpec)

/-- ITS FALSE NEIGHBOUR: 'it returns false'. Refute it at one input. -/
def redWritesWrong : ChangeSpec := { name := "redWrites", fn := fun _ => fun
  | [d] => { results := [.lit (.bool false)], args := [d] }
  | _ => none }
def RedWritesWrongFalsely : Prop := redWritesRow.holds Try.pinned (OpenSpec.ofChange redWritesWrong)

/-- 'tenaillelaw36.RedReads': WHATEVER THE INPUT: true; the input reads as it did. -/
def redReadsSpec : ChangeSpec := { name := "redReads", fn := fun _ => fun
  | [d] => { results := [.lit (.bool true)], args := [d] }
  | _ => none }
def redReadsRow : OpenClaim := { program := "ytdmbdageohjodaa", sum := "32b57acd48811c2d537e846454bc0c04340513cf234a4752bb42051cb546cbb1", func := "tenaille/tenaillelaw36.RedReads", spec := "redReads", apart := false }
def RedReadsSaid : Prop := redReadsRow.holds Try.pinned (OpenSpec.ofChange redReadsSpec)

/-- ITS FALSE NEIGHBOUR: 'it returns false'. Refute it at one input. -/
def redReadsWrong : ChangeSpec := { name := "redReads", fn := fun _ => fun
  | [d] => { results := [.lit (.bool false)], args := [d] }
  | _ => none }
def RedReadsWrongFalsely : Prop := redReadsRow.holds Try.pinned (OpenSpec.ofChange redReadsWrong)

/- THE SECOND FORM. 'bulk': how many values and letters a reading holds, each counted each time it is reached (what is shared counts as often as it is met; a slice's spare places count too). A statement '..UptoSaid' is the law's where the arguments, and the package variables that the reading takes, are together of bulk at most 1048576: NARROWER than '..Said'. Prove '..Said' where nothing that the law and all that it calls make is longer than what came in: it says more and counts as full. Else prove '..UptoSaid'. A law counts once. -/
mutual
def uptoBulk {H : Type} : DataW H → Nat
  | .lit (.string bytes) => bytes.length + 1
  | .lit _ => 1
  | .nil => 1
  | .ptr d => uptoBulk d + 1
  | .slice elems spare => uptoBulkAll elems + uptoBulkAll spare + 1
  | .agg parts => uptoBulkAll parts + 1
  | .iface _ d => uptoBulk d + 1
  | .map entries => uptoBulkEntries entries + 1
  | .held _ => 1
def uptoBulkAll {H : Type} : List (DataW H) → Nat
  | [] => 0
  | d :: r => uptoBulk d + uptoBulkAll r
def uptoBulkEntries {H : Type} : List (Lit × DataW H) → Nat
  | [] => 0
  | x :: r => uptoBulkEntry x + uptoBulkEntries r
def uptoBulkEntry {H : Type} : Lit × DataW H → Nat
  | (.string bytes, d) => bytes.length + uptoBulk d + 1
  | (_, d) => uptoBulk d + 1
 end
def uptoSmall : (H : Type) → List (DataW H) → Bool := fun _ ds => decide (uptoBulkAll ds ≤ 1048576)
def OpenSpec.upto (s : _root_.Go.ChangeSpec) : _root_.Go.OpenSpec := { _root_.Go.OpenSpec.ofChange s with cond := some uptoSmall }

/-- 'tenaillelaw20.LossesPlays', WHERE WHAT IT READS IS OF BULK AT MOST 1048576: true; the input reads as it did. -/
def lossesPlaysUptoRow : OpenClaim := { program := "ytdmbdageohjodaa", sum := "32b57acd48811c2d537e846454bc0c04340513cf234a4752bb42051cb546cbb1", func := "tenaille/tenaillelaw20.LossesPlays", spec := "lossesPlays", unfollowed := true, recurses := true, apart := false, narrowed := true }
def LossesPlaysUptoSaid : Prop := lossesPlaysUptoRow.holds Try.pinned (OpenSpec.upto lossesPlaysSpec)

/-- 'tenaillelaw20.LossesNone', WHERE WHAT IT READS IS OF BULK AT MOST 1048576: true; the input reads as it did. -/
def lossesNoneUptoRow : OpenClaim := { program := "ytdmbdageohjodaa", sum := "32b57acd48811c2d537e846454bc0c04340513cf234a4752bb42051cb546cbb1", func := "tenaille/tenaillelaw20.LossesNone", spec := "lossesNone", unfollowed := true, recurses := true, apart := false, narrowed := true }
def LossesNoneUptoSaid : Prop := lossesNoneUptoRow.holds Try.pinned (OpenSpec.upto lossesNoneSpec)

/-- 'tenaillelaw20.LossesReports', WHERE WHAT IT READS IS OF BULK AT MOST 1048576: true; the input reads as it did. -/
def lossesReportsUptoRow : OpenClaim := { program := "ytdmbdageohjodaa", sum := "32b57acd48811c2d537e846454bc0c04340513cf234a4752bb42051cb546cbb1", func := "tenaille/tenaillelaw20.LossesReports", spec := "lossesReports", unfollowed := true, recurses := true, apart := false, narrowed := true }
def LossesReportsUptoSaid : Prop := lossesReportsUptoRow.holds Try.pinned (OpenSpec.upto lossesReportsSpec)

/-- 'tenaillelaw20.LossesBound', WHERE WHAT IT READS IS OF BULK AT MOST 1048576: true; the input reads as it did. -/
def lossesBoundUptoRow : OpenClaim := { program := "ytdmbdageohjodaa", sum := "32b57acd48811c2d537e846454bc0c04340513cf234a4752bb42051cb546cbb1", func := "tenaille/tenaillelaw20.LossesBound", spec := "lossesBound", unfollowed := true, recurses := true, apart := false, narrowed := true }
def LossesBoundUptoSaid : Prop := lossesBoundUptoRow.holds Try.pinned (OpenSpec.upto lossesBoundSpec)

/-- 'tenaillelaw45.CaptureWrites', WHERE WHAT IT READS IS OF BULK AT MOST 1048576: true; the input reads as it did. -/
def captureWritesUptoRow : OpenClaim := { program := "ytdmbdageohjodaa", sum := "32b57acd48811c2d537e846454bc0c04340513cf234a4752bb42051cb546cbb1", func := "tenaille/tenaillelaw45.CaptureWrites", spec := "captureWrites", unfollowed := true, recurses := true, apart := false, narrowed := true }
def CaptureWritesUptoSaid : Prop := captureWritesUptoRow.holds Try.pinned (OpenSpec.upto captureWritesSpec)

/-- 'tenaillelaw45.CaptureReads', WHERE WHAT IT READS IS OF BULK AT MOST 1048576: true; the input reads as it did. -/
def captureReadsUptoRow : OpenClaim := { program := "ytdmbdageohjodaa", sum := "32b57acd48811c2d537e846454bc0c04340513cf234a4752bb42051cb546cbb1", func := "tenaille/tenaillelaw45.CaptureReads", spec := "captureReads", unfollowed := true, recurses := true, apart := false, narrowed := true }
def CaptureReadsUptoSaid : Prop := captureReadsUptoRow.holds Try.pinned (OpenSpec.upto captureReadsSpec)

/-- 'tenaillelaw45.CaptureCuts', WHERE WHAT IT READS IS OF BULK AT MOST 1048576: true; the input reads as it did. -/
def captureCutsUptoRow : OpenClaim := { program := "ytdmbdageohjodaa", sum := "32b57acd48811c2d537e846454bc0c04340513cf234a4752bb42051cb546cbb1", func := "tenaille/tenaillelaw45.CaptureCuts", spec := "captureCuts", unfollowed := true, recurses := true, apart := false, narrowed := true }
def CaptureCutsUptoSaid : Prop := captureCutsUptoRow.holds Try.pinned (OpenSpec.upto captureCutsSpec)

/-- 'tenaillelaw45.CaptureLogs', WHERE WHAT IT READS IS OF BULK AT MOST 1048576: true; the input reads as it did. -/
def captureLogsUptoRow : OpenClaim := { program := "ytdmbdageohjodaa", sum := "32b57acd48811c2d537e846454bc0c04340513cf234a4752bb42051cb546cbb1", func := "tenaille/tenaillelaw45.CaptureLogs", spec := "captureLogs", unfollowed := true, recurses := true, apart := false, narrowed := true }
def CaptureLogsUptoSaid : Prop := captureLogsUptoRow.holds Try.pinned (OpenSpec.upto captureLogsSpec)

/-- 'tenaillelaw40.RatesMeter', WHERE WHAT IT READS IS OF BULK AT MOST 1048576: true; the input reads as it did. -/
def ratesMeterUptoRow : OpenClaim := { program := "ytdmbdageohjodaa", sum := "32b57acd48811c2d537e846454bc0c04340513cf234a4752bb42051cb546cbb1", func := "tenaille/tenaillelaw40.RatesMeter", spec := "ratesMeter", apart := false, narrowed := true }
def RatesMeterUptoSaid : Prop := ratesMeterUptoRow.holds Try.pinned (OpenSpec.upto ratesMeterSpec)

/-- 'tenaillelaw36.RedKeeps', WHERE WHAT IT READS IS OF BULK AT MOST 1048576: true; the input reads as it did. -/
def redKeepsUptoRow : OpenClaim := { program := "ytdmbdageohjodaa", sum := "32b57acd48811c2d537e846454bc0c04340513cf234a4752bb42051cb546cbb1", func := "tenaille/tenaillelaw36.RedKeeps", spec := "redKeeps", unfollowed := true, recurses := true, apart := false, narrowed := true }
def RedKeepsUptoSaid : Prop := redKeepsUptoRow.holds Try.pinned (OpenSpec.upto redKeepsSpec)

/-- 'tenaillelaw36.RedWrites', WHERE WHAT IT READS IS OF BULK AT MOST 1048576: true; the input reads as it did. -/
def redWritesUptoRow : OpenClaim := { program := "ytdmbdageohjodaa", sum := "32b57acd48811c2d537e846454bc0c04340513cf234a4752bb42051cb546cbb1", func := "tenaille/tenaillelaw36.RedWrites", spec := "redWrites", apart := false, narrowed := true }
def RedWritesUptoSaid : Prop := redWritesUptoRow.holds Try.pinned (OpenSpec.upto redWritesSpec)

/-- 'tenaillelaw36.RedReads', WHERE WHAT IT READS IS OF BULK AT MOST 1048576: true; the input reads as it did. -/
def redReadsUptoRow : OpenClaim := { program := "ytdmbdageohjodaa", sum := "32b57acd48811c2d537e846454bc0c04340513cf234a4752bb42051cb546cbb1", func := "tenaille/tenaillelaw36.RedReads", spec := "redReads", apart := false, narrowed := true }
def RedReadsUptoSaid : Prop := redReadsUptoRow.holds Try.pinned (OpenSpec.upto redReadsSpec)

end Rows
end Go.Proofs.Ytdmbdageohjodaa
