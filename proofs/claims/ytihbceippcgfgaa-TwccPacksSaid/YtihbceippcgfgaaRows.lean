/-
  No cell of these rows narrows 'for every input' (looked for: loops, veiled, ifaces, maps, wideKeys, modest, calm, conditions, laid).
  DERIVED. THE GIVEN ROWS OF THIS SEAT. 12 by the template 'for every input the law returns true; each argument reads behind the call as it read before'; 0 by the template 'total and deterministic' (their statements: YtihbceippcgfgaaTotals.lean).
  GIVEN WITH THE SEED: the statements are not yours to turn. If you find one false, say at which input.
  Laid BY PROGRAM, IN A SANDBOX (cutbox-rows.mjs): the forced cells as the released guide's own fill.sh prints them over the translation 4b093628079b71f8… (all of the seat's roots in one cut). By AI agents, Wed Nov 11 2026. No macro, syntax, notation, axiom, sorry.
-/
import Derived.Test.YtihbceippcgfgaaChecked
import GoSem.Claim
import GoSem.ClaimJoined
import GoSem.ClaimMapViews
import Derived.JoinedTies
import Derived.KernelRfl
namespace Go.Proofs.Ytihbceippcgfgaa
/- THE CELL 'sum', in the pinned program and in every row, IS THE sha256 OF THE DUMP (.gsa) THAT YtihbceippcgfgaaProg.lean LOADS. Nothing in Lean hashes anything: it is a label: what it is worth is what the hold of that sum in a sandbox is worth. -/
noncomputable def Try.pinned : Pinned := { name := "ytihbceippcgfgaa", sum := "4b093628079b71f852769c3bf88fb956abdf8f9b534fcce42b08104610c1abc8", checked := Try.checked }
namespace Rows
def none {H : Type} : Left H := { results := [], args := [] }

/-- 'tenaillelaw32.ExtsWrite': WHATEVER THE INPUT: true; the input reads as it did. -/
def extsWriteSpec : ChangeSpec := { name := "extsWrite", fn := fun _ => fun
  | [d] => { results := [.lit (.bool true)], args := [d] }
  | _ => none }
def extsWriteRow : OpenClaim := { program := "ytihbceippcgfgaa", sum := "4b093628079b71f852769c3bf88fb956abdf8f9b534fcce42b08104610c1abc8", func := "tenaille/tenaillelaw32.ExtsWrite", spec := "extsWrite", unfollowed := true, recurses := true, apart := false }
def ExtsWriteSaid : Prop := extsWriteRow.holds Try.pinned (OpenSpec.ofChange extsWriteSpec)

/-- ITS FALSE NEIGHBOUR: 'it returns false'. Refute it at one input. -/
def extsWriteWrong : ChangeSpec := { name := "extsWrite", fn := fun _ => fun
  | [d] => { results := [.lit (.bool false)], args := [d] }
  | _ => none }
def ExtsWriteWrongFalsely : Prop := extsWriteRow.holds Try.pinned (OpenSpec.ofChange extsWriteWrong)

/-- 'tenaillelaw32.ExtsSet': WHATEVER THE INPUT: true; the input reads as it did. -/
def extsSetSpec : ChangeSpec := { name := "extsSet", fn := fun _ => fun
  | [d1, d2, d3, d4] => { results := [.lit (.bool true)], args := [d1, d2, d3, d4] }
  | _ => none }
def extsSetRow : OpenClaim := { program := "ytihbceippcgfgaa", sum := "4b093628079b71f852769c3bf88fb956abdf8f9b534fcce42b08104610c1abc8", func := "tenaille/tenaillelaw32.ExtsSet", spec := "extsSet", unfollowed := true, recurses := true, apart := false }
def ExtsSetSaid : Prop := extsSetRow.holds Try.pinned (OpenSpec.ofChange extsSetSpec)

/-- ITS FALSE NEIGHBOUR: 'it returns false'. Refute it at one input. -/
def extsSetWrong : ChangeSpec := { name := "extsSet", fn := fun _ => fun
  | [d1, d2, d3, d4] => { results := [.lit (.bool false)], args := [d1, d2, d3, d4] }
  | _ => none }
def ExtsSetWrongFalsely : Prop := extsSetRow.holds Try.pinned (OpenSpec.ofChange extsSetWrong)

/-- 'tenaillelaw34.RtxWraps': WHATEVER THE INPUT: true; the input reads as it did. -/
def rtxWrapsSpec : ChangeSpec := { name := "rtxWraps", fn := fun _ => fun
  | [d1, d2, d3, d4] => { results := [.lit (.bool true)], args := [d1, d2, d3, d4] }
  | _ => none }
def rtxWrapsRow : OpenClaim := { program := "ytihbceippcgfgaa", sum := "4b093628079b71f852769c3bf88fb956abdf8f9b534fcce42b08104610c1abc8", func := "tenaille/tenaillelaw34.RtxWraps", spec := "rtxWraps", apart := false }
def RtxWrapsSaid : Prop := rtxWrapsRow.holds Try.pinned (OpenSpec.ofChange rtxWrapsSpec)

/-- ITS FALSE NEIGHBOUR: 'it returns false'. Refute it at one input. -/
def rtxWrapsWrong : ChangeSpec := { name := "rtxWraps", fn := fun _ => fun
  | [d1, d2, d3, d4] => { results := [.lit (.bool false)], args := [d1, d2, d3, d4] }
  | _ => none }
def RtxWrapsWrongFalsely : Prop := rtxWrapsRow.holds Try.pinned (OpenSpec.ofChange rtxWrapsWrong)

/-- 'tenaillelaw34.RtxThere': WHATEVER THE INPUT: true; the input reads as it did. -/
def rtxThereSpec : ChangeSpec := { name := "rtxThere", fn := fun _ => fun
  | [d1, d2, d3, d4] => { results := [.lit (.bool true)], args := [d1, d2, d3, d4] }
  | _ => none }
def rtxThereRow : OpenClaim := { program := "ytihbceippcgfgaa", sum := "4b093628079b71f852769c3bf88fb956abdf8f9b534fcce42b08104610c1abc8", func := "tenaille/tenaillelaw34.RtxThere", spec := "rtxThere", unfollowed := true, recurses := true, apart := false }
def RtxThereSaid : Prop := rtxThereRow.holds Try.pinned (OpenSpec.ofChange rtxThereSpec)

/-- ITS FALSE NEIGHBOUR: 'it returns false'. Refute it at one input. -/
def rtxThereWrong : ChangeSpec := { name := "rtxThere", fn := fun _ => fun
  | [d1, d2, d3, d4] => { results := [.lit (.bool false)], args := [d1, d2, d3, d4] }
  | _ => none }
def RtxThereWrongFalsely : Prop := rtxThereRow.holds Try.pinned (OpenSpec.ofChange rtxThereWrong)

/-- 'tenaillelaw34.RtxPlays': WHATEVER THE INPUT: true; the input reads as it did. -/
def rtxPlaysSpec : ChangeSpec := { name := "rtxPlays", fn := fun _ => fun
  | [d] => { results := [.lit (.bool true)], args := [d] }
  | _ => none }
def rtxPlaysRow : OpenClaim := { program := "ytihbceippcgfgaa", sum := "4b093628079b71f852769c3bf88fb956abdf8f9b534fcce42b08104610c1abc8", func := "tenaille/tenaillelaw34.RtxPlays", spec := "rtxPlays", unfollowed := true, recurses := true, apart := false }
def RtxPlaysSaid : Prop := rtxPlaysRow.holds Try.pinned (OpenSpec.ofChange rtxPlaysSpec)

/-- ITS FALSE NEIGHBOUR: 'it returns false'. Refute it at one input. -/
def rtxPlaysWrong : ChangeSpec := { name := "rtxPlays", fn := fun _ => fun
  | [d] => { results := [.lit (.bool false)], args := [d] }
  | _ => none }
def RtxPlaysWrongFalsely : Prop := rtxPlaysRow.holds Try.pinned (OpenSpec.ofChange rtxPlaysWrong)

/-- 'tenaillelaw47.RosterKnown': WHATEVER THE INPUT: true; the input reads as it did. -/
def rosterKnownSpec : ChangeSpec := { name := "rosterKnown", fn := fun _ => fun
  | [d1, d2] => { results := [.lit (.bool true)], args := [d1, d2] }
  | _ => none }
def rosterKnownRow : OpenClaim := { program := "ytihbceippcgfgaa", sum := "4b093628079b71f852769c3bf88fb956abdf8f9b534fcce42b08104610c1abc8", func := "tenaille/tenaillelaw47.RosterKnown", spec := "rosterKnown", unfollowed := true, recurses := true, apart := false }
def RosterKnownSaid : Prop := rosterKnownRow.holds Try.pinned (OpenSpec.ofChange rosterKnownSpec)

/-- ITS FALSE NEIGHBOUR: 'it returns false'. Refute it at one input. -/
def rosterKnownWrong : ChangeSpec := { name := "rosterKnown", fn := fun _ => fun
  | [d1, d2] => { results := [.lit (.bool false)], args := [d1, d2] }
  | _ => none }
def RosterKnownWrongFalsely : Prop := rosterKnownRow.holds Try.pinned (OpenSpec.ofChange rosterKnownWrong)

/-- 'tenaillelaw47.RosterSame': WHATEVER THE INPUT: true; the input reads as it did. -/
def rosterSameSpec : ChangeSpec := { name := "rosterSame", fn := fun _ => fun
  | [d1, d2] => { results := [.lit (.bool true)], args := [d1, d2] }
  | _ => none }
def rosterSameRow : OpenClaim := { program := "ytihbceippcgfgaa", sum := "4b093628079b71f852769c3bf88fb956abdf8f9b534fcce42b08104610c1abc8", func := "tenaille/tenaillelaw47.RosterSame", spec := "rosterSame", unfollowed := true, recurses := true, apart := false }
def RosterSameSaid : Prop := rosterSameRow.holds Try.pinned (OpenSpec.ofChange rosterSameSpec)

/-- ITS FALSE NEIGHBOUR: 'it returns false'. Refute it at one input. -/
def rosterSameWrong : ChangeSpec := { name := "rosterSame", fn := fun _ => fun
  | [d1, d2] => { results := [.lit (.bool false)], args := [d1, d2] }
  | _ => none }
def RosterSameWrongFalsely : Prop := rosterSameRow.holds Try.pinned (OpenSpec.ofChange rosterSameWrong)

/-- 'tenaillelaw14.AvcPieces': WHATEVER THE INPUT: true; the input reads as it did. -/
def avcPiecesSpec : ChangeSpec := { name := "avcPieces", fn := fun _ => fun
  | [d1, d2, d3] => { results := [.lit (.bool true)], args := [d1, d2, d3] }
  | _ => none }
def avcPiecesRow : OpenClaim := { program := "ytihbceippcgfgaa", sum := "4b093628079b71f852769c3bf88fb956abdf8f9b534fcce42b08104610c1abc8", func := "tenaille/tenaillelaw14.AvcPieces", spec := "avcPieces", unfollowed := true, recurses := true, apart := false }
def AvcPiecesSaid : Prop := avcPiecesRow.holds Try.pinned (OpenSpec.ofChange avcPiecesSpec)

/-- ITS FALSE NEIGHBOUR: 'it returns false'. Refute it at one input. -/
def avcPiecesWrong : ChangeSpec := { name := "avcPieces", fn := fun _ => fun
  | [d1, d2, d3] => { results := [.lit (.bool false)], args := [d1, d2, d3] }
  | _ => none }
def AvcPiecesWrongFalsely : Prop := avcPiecesRow.holds Try.pinned (OpenSpec.ofChange avcPiecesWrong)

/-- 'tenaillelaw37.TwccCounts': WHATEVER THE INPUT: true; the input reads as it did. -/
def twccCountsSpec : ChangeSpec := { name := "twccCounts", fn := fun _ => fun
  | [d] => { results := [.lit (.bool true)], args := [d] }
  | _ => none }
def twccCountsRow : OpenClaim := { program := "ytihbceippcgfgaa", sum := "4b093628079b71f852769c3bf88fb956abdf8f9b534fcce42b08104610c1abc8", func := "tenaille/tenaillelaw37.TwccCounts", spec := "twccCounts", apart := false }
def TwccCountsSaid : Prop := twccCountsRow.holds Try.pinned (OpenSpec.ofChange twccCountsSpec)

/-- ITS FALSE NEIGHBOUR: 'it returns false'. Refute it at one input. -/
def twccCountsWrong : ChangeSpec := { name := "twccCounts", fn := fun _ => fun
  | [d] => { results := [.lit (.bool false)], args := [d] }
  | _ => none }
def TwccCountsWrongFalsely : Prop := twccCountsRow.holds Try.pinned (OpenSpec.ofChange twccCountsWrong)

/-- 'tenaillelaw37.TwccPacks': WHATEVER THE INPUT: true; the input reads as it did. -/
def twccPacksSpec : ChangeSpec := { name := "twccPacks", fn := fun _ => fun
  | [d1, d2] => { results := [.lit (.bool true)], args := [d1, d2] }
  | _ => none }
def twccPacksRow : OpenClaim := { program := "ytihbceippcgfgaa", sum := "4b093628079b71f852769c3bf88fb956abdf8f9b534fcce42b08104610c1abc8", func := "tenaille/tenaillelaw37.TwccPacks", spec := "twccPacks", unfollowed := true, recurses := true, apart := false }
def TwccPacksSaid : Prop := twccPacksRow.holds Try.pinned (OpenSpec.ofChange twccPacksSpec)

/-- ITS FALSE NEIGHBOUR: 'it returns false'. Refute it at one input. -/
def twccPacksWrong : ChangeSpec := { name := "twccPacks", fn := fun _ => fun
  | [d1, d2] => { results := [.lit (.bool false)], args := [d1, d2] }
  | _ => none }
def TwccPacksWrongFalsely : Prop := twccPacksRow.holds Try.pinned (OpenSpec.ofChange twccPacksWrong)

/-- 'tenaillelaw49.MeterQuota': WHATEVER THE INPUT: true; the input reads as it did. -/
def meterQuotaSpec : ChangeSpec := { name := "meterQuota", fn := fun _ => fun
  | [d1, d2] => { results := [.lit (.bool true)], args := [d1, d2] }
  | _ => none }
def meterQuotaRow : OpenClaim := { program := "ytihbceippcgfgaa", sum := "4b093628079b71f852769c3bf88fb956abdf8f9b534fcce42b08104610c1abc8", func := "tenaille/tenaillelaw49.MeterQuota", spec := "meterQuota", inPlace := ["internal/abi.NoEscape", "internal/bytealg.MakeNoZero"], unfollowed := true, recurses := true, apart := false }
def MeterQuotaSaid : Prop := meterQuotaRow.holds Try.pinned (OpenSpec.ofChange meterQuotaSpec)

/-- ITS FALSE NEIGHBOUR: 'it returns false'. Refute it at one input. -/
def meterQuotaWrong : ChangeSpec := { name := "meterQuota", fn := fun _ => fun
  | [d1, d2] => { results := [.lit (.bool false)], args := [d1, d2] }
  | _ => none }
def MeterQuotaWrongFalsely : Prop := meterQuotaRow.holds Try.pinned (OpenSpec.ofChange meterQuotaWrong)

/-- 'tenaillelaw49.MeterSums': WHATEVER THE INPUT: true; the input reads as it did. -/
def meterSumsSpec : ChangeSpec := { name := "meterSums", fn := fun _ => fun
  | [d1, d2] => { results := [.lit (.bool true)], args := [d1, d2] }
  | _ => none }
def meterSumsRow : OpenClaim := { program := "ytihbceippcgfgaa", sum := "4b093628079b71f852769c3bf88fb956abdf8f9b534fcce42b08104610c1abc8", func := "tenaille/tenaillelaw49.MeterSums", spec := "meterSums", inPlace := ["internal/abi.NoEscape", "internal/bytealg.MakeNoZero"], unfollowed := true, recurses := true, apart := false }
def MeterSumsSaid : Prop := meterSumsRow.holds Try.pinned (OpenSpec.ofChange meterSumsSpec)

/-- ITS FALSE NEIGHBOUR: 'it returns false'. Refute it at one input. -/
def meterSumsWrong : ChangeSpec := { name := "meterSums", fn := fun _ => fun
  | [d1, d2] => { results := [.lit (.bool false)], args := [d1, d2] }
  | _ => none }
def MeterSumsWrongFalsely : Prop := meterSumsRow.holds Try.pinned (OpenSpec.ofChange meterSumsWrong)

/- THE SECOND FORM. 'bulk': how many values and letters a reading holds, each counted each time it is reached (what is shared counts as often as it is met; a slice's spare places count too). A statement '..UptoSaid' is the law's where the arguments, and the package variables that the reading takes, are together of bulk at most 1048576: NARROWER than '..Said'. Prove '..Said' where nothing that the law and all that it calls make is longer than what came in: it says more and counts as full. Else prove '..UptoSaid'. A law counts once. -/
mutual
def uptoBulk {H : Type} : DataW H → Nat
  | .lit (.string bytes) => bytes.length + 1
  | .lit _ => 1
  | .nil => 1
  | .ptr d => uptoBulk d + 1
  | .slice elems spare => uptoBulkAll elems + uptoBulkAll spare + 1
  | .agg parts => uptoBulkAll parts + 1
  | .iface _ d => uptoBulk d + 1
  | .map entries => uptoBulkEntries entries + 1
  | .held _ => 1
def uptoBulkAll {H : Type} : List (DataW H) → Nat
  | [] => 0
  | d :: r => uptoBulk d + uptoBulkAll r
def uptoBulkEntries {H : Type} : List (Lit × DataW H) → Nat
  | [] => 0
  | x :: r => uptoBulkEntry x + uptoBulkEntries r
def uptoBulkEntry {H : Type} : Lit × DataW H → Nat
  | (.string bytes, d) => bytes.length + uptoBulk d + 1
  | (_, d) => uptoBulk d + 1
 end
def uptoSmall : (H : Type) → List (DataW H) → Bool := fun _ ds => decide (uptoBulkAll ds ≤ 1048576)
def OpenSpec.upto (s : _root_.Go.ChangeSpec) : _root_.Go.OpenSpec := { _root_.Go.OpenSpec.ofChange s with cond := some uptoSmall }

/-- 'tenaillelaw32.ExtsWrite', WHERE WHAT IT READS IS OF BULK AT MOST 1048576: true; the input reads as it did. -/
def extsWriteUptoRow : OpenClaim := { program := "ytihbceippcgfgaa", sum := "4b093628079b71f852769c3bf88fb956abdf8f9b534fcce42b08104610c1abc8", func := "tenaille/tenaillelaw32.ExtsWrite", spec := "extsWrite", unfollowed := true, recurses := true, apart := false, narrowed := true }
def ExtsWriteUptoSaid : Prop := extsWriteUptoRow.holds Try.pinned (OpenSpec.upto extsWriteSpec)

/-- 'tenaillelaw32.ExtsSet', WHERE WHAT IT READS IS OF BULK AT MOST 1048576: true; the input reads as it did. -/
def extsSetUptoRow : OpenClaim := { program := "ytihbceippcgfgaa", sum := "4b093628079b71f852769c3bf88fb956abdf8f9b534fcce42b08104610c1abc8", func := "tenaille/tenaillelaw32.ExtsSet", spec := "extsSet", unfollowed := true, recurses := true, apart := false, narrowed := true }
def ExtsSetUptoSaid : Prop := extsSetUptoRow.holds Try.pinned (OpenSpec.upto extsSetSpec)

/-- 'tenaillelaw34.RtxWraps', WHERE WHAT IT READS IS OF BULK AT MOST 1048576: true; the input reads as it did. -/
def rtxWrapsUptoRow : OpenClaim := { program := "ytihbceippcgfgaa", sum := "4b093628079b71f852769c3bf88fb956abdf8f9b534fcce42b08104610c1abc8", func := "tenaille/tenaillelaw34.RtxWraps", spec := "rtxWraps", apart := false, narrowed := true }
def RtxWrapsUptoSaid : Prop := rtxWrapsUptoRow.holds Try.pinned (OpenSpec.upto rtxWrapsSpec)

/-- 'tenaillelaw34.RtxThere', WHERE WHAT IT READS IS OF BULK AT MOST 1048576: true; the input reads as it did. -/
def rtxThereUptoRow : OpenClaim := { program := "ytihbceippcgfgaa", sum := "4b093628079b71f852769c3bf88fb956abdf8f9b534fcce42b08104610c1abc8", func := "tenaille/tenaillelaw34.RtxThere", spec := "rtxThere", unfollowed := true, recurses := true, apart := false, narrowed := true }
def RtxThereUptoSaid : Prop := rtxThereUptoRow.holds Try.pinned (OpenSpec.upto rtxThereSpec)

/-- 'tenaillelaw34.RtxPlays', WHERE WHAT IT READS IS OF BULK AT MOST 1048576: true; the input reads as it did. -/
def rtxPlaysUptoRow : OpenClaim := { program := "ytihbceippcgfgaa", sum := "4b093628079b71f852769c3bf88fb956abdf8f9b534fcce42b08104610c1abc8", func := "tenaille/tenaillelaw34.RtxPlays", spec := "rtxPlays", unfollowed := true, recurses := true, apart := false, narrowed := true }
def RtxPlaysUptoSaid : Prop := rtxPlaysUptoRow.holds Try.pinned (OpenSpec.upto rtxPlaysSpec)

/-- 'tenaillelaw47.RosterKnown', WHERE WHAT IT READS IS OF BULK AT MOST 1048576: true; the input reads as it did. -/
def rosterKnownUptoRow : OpenClaim := { program := "ytihbceippcgfgaa", sum := "4b093628079b71f852769c3bf88fb956abdf8f9b534fcce42b08104610c1abc8", func := "tenaille/tenaillelaw47.RosterKnown", spec := "rosterKnown", unfollowed := true, recurses := true, apart := false, narrowed := true }
def RosterKnownUptoSaid : Prop := rosterKnownUptoRow.holds Try.pinned (OpenSpec.upto rosterKnownSpec)

/-- 'tenaillelaw47.RosterSame', WHERE WHAT IT READS IS OF BULK AT MOST 1048576: true; the input reads as it did. -/
def rosterSameUptoRow : OpenClaim := { program := "ytihbceippcgfgaa", sum := "4b093628079b71f852769c3bf88fb956abdf8f9b534fcce42b08104610c1abc8", func := "tenaille/tenaillelaw47.RosterSame", spec := "rosterSame", unfollowed := true, recurses := true, apart := false, narrowed := true }
def RosterSameUptoSaid : Prop := rosterSameUptoRow.holds Try.pinned (OpenSpec.upto rosterSameSpec)

/-- 'tenaillelaw14.AvcPieces', WHERE WHAT IT READS IS OF BULK AT MOST 1048576: true; the input reads as it did. -/
def avcPiecesUptoRow : OpenClaim := { program := "ytihbceippcgfgaa", sum := "4b093628079b71f852769c3bf88fb956abdf8f9b534fcce42b08104610c1abc8", func := "tenaille/tenaillelaw14.AvcPieces", spec := "avcPieces", unfollowed := true, recurses := true, apart := false, narrowed := true }
def AvcPiecesUptoSaid : Prop := avcPiecesUptoRow.holds Try.pinned (OpenSpec.upto avcPiecesSpec)

/-- 'tenaillelaw37.TwccCounts', WHERE WHAT IT READS IS OF BULK AT MOST 1048576: true; the input reads as it did. -/
def twccCountsUptoRow : OpenClaim := { program := "ytihbceippcgfgaa", sum := "4b093628079b71f852769c3bf88fb956abdf8f9b534fcce42b08104610c1abc8", func := "tenaille/tenaillelaw37.TwccCounts", spec := "twccCounts", apart := false, narrowed := true }
def TwccCountsUptoSaid : Prop := twccCountsUptoRow.holds Try.pinned (OpenSpec.upto twccCountsSpec)

/-- 'tenaillelaw37.TwccPacks', WHERE WHAT IT READS IS OF BULK AT MOST 1048576: true; the input reads as it did. -/
def twccPacksUptoRow : OpenClaim := { program := "ytihbceippcgfgaa", sum := "4b093628079b71f852769c3bf88fb956abdf8f9b534fcce42b08104610c1abc8", func := "tenaille/tenaillelaw37.TwccPacks", spec := "twccPacks", unfollowed := true, recurses := true, apart := false, narrowed := true }
def TwccPacksUptoSaid : Prop := twccPacksUptoRow.holds Try.pinned (OpenSpec.upto twccPacksSpec)

/-- 'tenaillelaw49.MeterQuota', WHERE WHAT IT READS IS OF BULK AT MOST 1048576: true; the input reads as it did. -/
def meterQuotaUptoRow : OpenClaim := { program := "ytihbceippcgfgaa", sum := "4b093628079b71f852769c3bf88fb956abdf8f9b534fcce42b08104610c1abc8", func := "tenaille/tenaillelaw49.MeterQuota", spec := "meterQuota", inPlace := ["internal/abi.NoEscape", "internal/bytealg.MakeNoZero"], unfollowed := true, recurses := true, apart := false, narrowed := true }
def MeterQuotaUptoSaid : Prop := meterQuotaUptoRow.holds Try.pinned (OpenSpec.upto meterQuotaSpec)

/-- 'tenaillelaw49.MeterSums', WHERE WHAT IT READS IS OF BULK AT MOST 1048576: true; the input reads as it did. -/
def meterSumsUptoRow : OpenClaim := { program := "ytihbceippcgfgaa", sum := "4b093628079b71f852769c3bf88fb956abdf8f9b534fcce42b08104610c1abc8", func := "tenaille/tenaillelaw49.MeterSums", spec := "meterSums", inPlace := ["internal/abi.NoEscape", "internal/bytealg.MakeNoZero"], unfollowed := true, recurses := true, apart := false, narrowed := true }
def MeterSumsUptoSaid : Prop := meterSumsUptoRow.holds Try.pinned (OpenSpec.upto meterSumsSpec)

end Rows
end Go.Proofs.Ytihbceippcgfgaa
