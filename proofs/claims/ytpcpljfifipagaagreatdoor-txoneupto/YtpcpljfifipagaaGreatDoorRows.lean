/-
  NARROWER THAN 'FOR EVERY INPUT', by the rows' own cells (each row's printed sentence says how): CoreStays: laid · CoreRoutes: laid · CorePackets: laid · CoreUndoes: laid · CoreTicks: laid · TxWhole: laid · TxOne: laid · CoreDoes: laid · CoreStrips: laid · CoreKeeps: laid · TxRuns: laid · TxKeeps: laid.
  DERIVED. THE GIVEN ROWS OF THIS SEAT. 12 by the template 'for every input the law returns true; each argument reads behind the call as it read before'; 0 by the template 'total and deterministic' (their statements: YtpcpljfifipagaaGreatDoorTotals.lean).
  GIVEN WITH THE SEED: the statements are not yours to turn. If you find one false, say at which input.
  Laid BY PROGRAM, IN A SANDBOX (cutbox-rows.mjs): the forced cells as the released guide's own fill.sh prints them over the translation 1e87b112921174f5… (all of the seat's roots in one cut). By AI agents, Wed Nov 11 2026. No macro, syntax, notation, axiom, sorry.
-/
import Derived.Test.YtpcpljfifipagaaGreatDoorChecked
import GoSem.PinnedTables
import GoSem.Claim
import GoSem.ClaimJoined
import GoSem.ClaimMapViews
import Derived.JoinedTies
import Derived.KernelRfl
namespace Go.Proofs.YtpcpljfifipagaaGreatDoor
/- THE CELL 'sum', in the pinned program and in every row, IS THE sha256 OF THE DUMP (.gsa) THAT YtpcpljfifipagaaGreatDoorProg.lean LOADS. Nothing in Lean hashes anything: it is a label: what it is worth is what the hold of that sum in a sandbox is worth. -/
noncomputable def Tryz.pinned : Pinned := { name := "ytpcpljfifipagaagreatdoor", sum := "1e87b112921174f55e28bfb0938e02c4417c93080a50f1f9cf2acf7a80373246", checked := Tryz.checked }
namespace Rows
def none {H : Type} : Left H := { results := [], args := [] }

/- WHAT THE LISTED PACKAGE-LEVEL VARIABLES READ AS WHEN THE CALL BEGINS. Each datum BY PROGRAM (the guide's laid-datum.mjs) off the statement by which the dump's own 'gosem.cut.vars' lays the variable. In a bare row this is a premise. The card (YtpcpljfifipagaaGreatDoorCards.lean) ties it to the program's text. -/
def laid_unicode_utf8_acceptRanges {H : Type} : DataW H := .agg [.agg [.lit (.int .u8 128), .lit (.int .u8 191)], .agg [.lit (.int .u8 160), .lit (.int .u8 191)], .agg [.lit (.int .u8 128), .lit (.int .u8 159)], .agg [.lit (.int .u8 144), .lit (.int .u8 191)], .agg [.lit (.int .u8 128), .lit (.int .u8 143)], .agg [.lit (.int .u8 0), .lit (.int .u8 0)], .agg [.lit (.int .u8 0), .lit (.int .u8 0)], .agg [.lit (.int .u8 0), .lit (.int .u8 0)], .agg [.lit (.int .u8 0), .lit (.int .u8 0)], .agg [.lit (.int .u8 0), .lit (.int .u8 0)], .agg [.lit (.int .u8 0), .lit (.int .u8 0)], .agg [.lit (.int .u8 0), .lit (.int .u8 0)], .agg [.lit (.int .u8 0), .lit (.int .u8 0)], .agg [.lit (.int .u8 0), .lit (.int .u8 0)], .agg [.lit (.int .u8 0), .lit (.int .u8 0)], .agg [.lit (.int .u8 0), .lit (.int .u8 0)]]
/-- One of Go's own tables, pinned by name: the form's constant. -/
def laid_unicode_utf8_first : DataW Unit := Go.Pinned.utf8First

/-- 'trivetlaw11.CoreStays': WHATEVER THE INPUT: true; the input reads as it did. -/
def coreStaysSpec : ChangeSpec := { name := "coreStays", fn := fun _ => fun
  | [d] => { results := [.lit (.bool true)], args := [d] }
  | _ => none }
def coreStaysRow : OpenClaim := { program := "ytpcpljfifipagaagreatdoor", sum := "1e87b112921174f55e28bfb0938e02c4417c93080a50f1f9cf2acf7a80373246", func := "trivet/trivetlaw11.CoreStays", spec := "coreStays", inPlace := ["internal/bytealg.IndexByteString", "internal/bytealg.IndexString", "slices.overlaps[trivet/api.Queue]", "internal/bytealg.abigen_runtime_cmpstring", "internal/bytealg.CountString", "slices.overlaps[trivet/api.Bind]", "math.Float64bits", "math.Float64frombits", "slices.overlaps[trivet/api.Client]", "slices.overlaps[int]", "slices.overlaps[trivet/api.Msg]", "slices.overlaps[trivet/api.Sub]", "slices.overlaps[trivet/api.Item]"], unfollowed := true, recurses := true, named := ["unicode/utf8.first", "unicode/utf8.acceptRanges", "internal/bytealg.MaxLen"], apart := false, laid := [("unicode/utf8.acceptRanges", laid_unicode_utf8_acceptRanges), ("unicode/utf8.first", laid_unicode_utf8_first)] }
def CoreStaysSaid : Prop := coreStaysRow.holds Tryz.pinned (OpenSpec.ofChange coreStaysSpec)

/-- ITS FALSE NEIGHBOUR: 'it returns false'. Refute it at one input. -/
def coreStaysWrong : ChangeSpec := { name := "coreStays", fn := fun _ => fun
  | [d] => { results := [.lit (.bool false)], args := [d] }
  | _ => none }
def CoreStaysWrongFalsely : Prop := coreStaysRow.holds Tryz.pinned (OpenSpec.ofChange coreStaysWrong)

/-- 'trivetlaw11.CoreRoutes': WHATEVER THE INPUT: true; the input reads as it did. -/
def coreRoutesSpec : ChangeSpec := { name := "coreRoutes", fn := fun _ => fun
  | [d1, d2, d3] => { results := [.lit (.bool true)], args := [d1, d2, d3] }
  | _ => none }
def coreRoutesRow : OpenClaim := { program := "ytpcpljfifipagaagreatdoor", sum := "1e87b112921174f55e28bfb0938e02c4417c93080a50f1f9cf2acf7a80373246", func := "trivet/trivetlaw11.CoreRoutes", spec := "coreRoutes", inPlace := ["internal/bytealg.IndexByteString", "internal/bytealg.IndexString", "slices.overlaps[trivet/api.Queue]", "internal/bytealg.abigen_runtime_cmpstring", "internal/bytealg.CountString", "slices.overlaps[trivet/api.Bind]", "math.Float64bits", "math.Float64frombits", "slices.overlaps[trivet/api.Client]", "slices.overlaps[int]", "slices.overlaps[trivet/api.Msg]", "slices.overlaps[trivet/api.Sub]", "slices.overlaps[trivet/api.Item]"], unfollowed := true, recurses := true, named := ["unicode/utf8.first", "unicode/utf8.acceptRanges", "internal/bytealg.MaxLen"], apart := false, laid := [("unicode/utf8.acceptRanges", laid_unicode_utf8_acceptRanges), ("unicode/utf8.first", laid_unicode_utf8_first)] }
def CoreRoutesSaid : Prop := coreRoutesRow.holds Tryz.pinned (OpenSpec.ofChange coreRoutesSpec)

/-- ITS FALSE NEIGHBOUR: 'it returns false'. Refute it at one input. -/
def coreRoutesWrong : ChangeSpec := { name := "coreRoutes", fn := fun _ => fun
  | [d1, d2, d3] => { results := [.lit (.bool false)], args := [d1, d2, d3] }
  | _ => none }
def CoreRoutesWrongFalsely : Prop := coreRoutesRow.holds Tryz.pinned (OpenSpec.ofChange coreRoutesWrong)

/-- 'trivetlaw11.CorePackets': WHATEVER THE INPUT: true; the input reads as it did. -/
def corePacketsSpec : ChangeSpec := { name := "corePackets", fn := fun _ => fun
  | [d1, d2, d3] => { results := [.lit (.bool true)], args := [d1, d2, d3] }
  | _ => none }
def corePacketsRow : OpenClaim := { program := "ytpcpljfifipagaagreatdoor", sum := "1e87b112921174f55e28bfb0938e02c4417c93080a50f1f9cf2acf7a80373246", func := "trivet/trivetlaw11.CorePackets", spec := "corePackets", inPlace := ["internal/bytealg.IndexByteString", "internal/bytealg.IndexString", "slices.overlaps[trivet/api.Queue]", "internal/bytealg.abigen_runtime_cmpstring", "internal/bytealg.CountString", "slices.overlaps[trivet/api.Bind]", "math.Float64bits", "math.Float64frombits", "slices.overlaps[trivet/api.Client]", "slices.overlaps[int]", "slices.overlaps[trivet/api.Msg]", "slices.overlaps[trivet/api.Sub]", "slices.overlaps[trivet/api.Item]"], unfollowed := true, recurses := true, named := ["unicode/utf8.first", "unicode/utf8.acceptRanges", "internal/bytealg.MaxLen"], apart := false, laid := [("unicode/utf8.acceptRanges", laid_unicode_utf8_acceptRanges), ("unicode/utf8.first", laid_unicode_utf8_first)] }
def CorePacketsSaid : Prop := corePacketsRow.holds Tryz.pinned (OpenSpec.ofChange corePacketsSpec)

/-- ITS FALSE NEIGHBOUR: 'it returns false'. Refute it at one input. -/
def corePacketsWrong : ChangeSpec := { name := "corePackets", fn := fun _ => fun
  | [d1, d2, d3] => { results := [.lit (.bool false)], args := [d1, d2, d3] }
  | _ => none }
def CorePacketsWrongFalsely : Prop := corePacketsRow.holds Tryz.pinned (OpenSpec.ofChange corePacketsWrong)

/-- 'trivetlaw11.CoreUndoes': WHATEVER THE INPUT: true; the input reads as it did. -/
def coreUndoesSpec : ChangeSpec := { name := "coreUndoes", fn := fun _ => fun
  | [d1, d2, d3] => { results := [.lit (.bool true)], args := [d1, d2, d3] }
  | _ => none }
def coreUndoesRow : OpenClaim := { program := "ytpcpljfifipagaagreatdoor", sum := "1e87b112921174f55e28bfb0938e02c4417c93080a50f1f9cf2acf7a80373246", func := "trivet/trivetlaw11.CoreUndoes", spec := "coreUndoes", inPlace := ["internal/bytealg.IndexByteString", "internal/bytealg.IndexString", "slices.overlaps[trivet/api.Queue]", "internal/bytealg.abigen_runtime_cmpstring", "internal/bytealg.CountString", "slices.overlaps[trivet/api.Bind]", "math.Float64bits", "math.Float64frombits", "slices.overlaps[trivet/api.Client]", "slices.overlaps[int]", "slices.overlaps[trivet/api.Msg]", "slices.overlaps[trivet/api.Sub]", "slices.overlaps[trivet/api.Item]"], unfollowed := true, recurses := true, named := ["unicode/utf8.first", "unicode/utf8.acceptRanges", "internal/bytealg.MaxLen"], apart := false, laid := [("unicode/utf8.acceptRanges", laid_unicode_utf8_acceptRanges), ("unicode/utf8.first", laid_unicode_utf8_first)] }
def CoreUndoesSaid : Prop := coreUndoesRow.holds Tryz.pinned (OpenSpec.ofChange coreUndoesSpec)

/-- ITS FALSE NEIGHBOUR: 'it returns false'. Refute it at one input. -/
def coreUndoesWrong : ChangeSpec := { name := "coreUndoes", fn := fun _ => fun
  | [d1, d2, d3] => { results := [.lit (.bool false)], args := [d1, d2, d3] }
  | _ => none }
def CoreUndoesWrongFalsely : Prop := coreUndoesRow.holds Tryz.pinned (OpenSpec.ofChange coreUndoesWrong)

/-- 'trivetlaw11.CoreTicks': WHATEVER THE INPUT: true; the input reads as it did. -/
def coreTicksSpec : ChangeSpec := { name := "coreTicks", fn := fun _ => fun
  | [d1, d2, d3] => { results := [.lit (.bool true)], args := [d1, d2, d3] }
  | _ => none }
def coreTicksRow : OpenClaim := { program := "ytpcpljfifipagaagreatdoor", sum := "1e87b112921174f55e28bfb0938e02c4417c93080a50f1f9cf2acf7a80373246", func := "trivet/trivetlaw11.CoreTicks", spec := "coreTicks", inPlace := ["internal/bytealg.IndexByteString", "internal/bytealg.IndexString", "slices.overlaps[trivet/api.Queue]", "internal/bytealg.abigen_runtime_cmpstring", "internal/bytealg.CountString", "slices.overlaps[trivet/api.Bind]", "math.Float64bits", "math.Float64frombits", "slices.overlaps[trivet/api.Client]", "slices.overlaps[int]", "slices.overlaps[trivet/api.Msg]", "slices.overlaps[trivet/api.Sub]", "slices.overlaps[trivet/api.Item]"], unfollowed := true, recurses := true, named := ["unicode/utf8.first", "unicode/utf8.acceptRanges", "internal/bytealg.MaxLen"], apart := false, laid := [("unicode/utf8.acceptRanges", laid_unicode_utf8_acceptRanges), ("unicode/utf8.first", laid_unicode_utf8_first)] }
def CoreTicksSaid : Prop := coreTicksRow.holds Tryz.pinned (OpenSpec.ofChange coreTicksSpec)

/-- ITS FALSE NEIGHBOUR: 'it returns false'. Refute it at one input. -/
def coreTicksWrong : ChangeSpec := { name := "coreTicks", fn := fun _ => fun
  | [d1, d2, d3] => { results := [.lit (.bool false)], args := [d1, d2, d3] }
  | _ => none }
def CoreTicksWrongFalsely : Prop := coreTicksRow.holds Tryz.pinned (OpenSpec.ofChange coreTicksWrong)

/-- 'trivetlaw12.TxWhole': WHATEVER THE INPUT: true; the input reads as it did. -/
def txWholeSpec : ChangeSpec := { name := "txWhole", fn := fun _ => fun
  | [d1, d2, d3] => { results := [.lit (.bool true)], args := [d1, d2, d3] }
  | _ => none }
def txWholeRow : OpenClaim := { program := "ytpcpljfifipagaagreatdoor", sum := "1e87b112921174f55e28bfb0938e02c4417c93080a50f1f9cf2acf7a80373246", func := "trivet/trivetlaw12.TxWhole", spec := "txWhole", inPlace := ["internal/bytealg.IndexByteString", "internal/bytealg.IndexString", "slices.overlaps[trivet/api.Queue]", "internal/bytealg.abigen_runtime_cmpstring", "internal/bytealg.CountString", "slices.overlaps[trivet/api.Bind]", "math.Float64bits", "math.Float64frombits", "slices.overlaps[trivet/api.Client]", "slices.overlaps[int]", "slices.overlaps[trivet/api.Msg]", "slices.overlaps[trivet/api.Sub]", "slices.overlaps[trivet/api.Item]"], unfollowed := true, recurses := true, named := ["unicode/utf8.first", "unicode/utf8.acceptRanges", "internal/bytealg.MaxLen"], apart := false, laid := [("unicode/utf8.acceptRanges", laid_unicode_utf8_acceptRanges), ("unicode/utf8.first", laid_unicode_utf8_first)] }
def TxWholeSaid : Prop := txWholeRow.holds Tryz.pinned (OpenSpec.ofChange txWholeSpec)

/-- ITS FALSE NEIGHBOUR: 'it returns false'. Refute it at one input. -/
def txWholeWrong : ChangeSpec := { name := "txWhole", fn := fun _ => fun
  | [d1, d2, d3] => { results := [.lit (.bool false)], args := [d1, d2, d3] }
  | _ => none }
def TxWholeWrongFalsely : Prop := txWholeRow.holds Tryz.pinned (OpenSpec.ofChange txWholeWrong)

/-- 'trivetlaw12.TxOne': WHATEVER THE INPUT: true; the input reads as it did. -/
def txOneSpec : ChangeSpec := { name := "txOne", fn := fun _ => fun
  | [d1, d2] => { results := [.lit (.bool true)], args := [d1, d2] }
  | _ => none }
def txOneRow : OpenClaim := { program := "ytpcpljfifipagaagreatdoor", sum := "1e87b112921174f55e28bfb0938e02c4417c93080a50f1f9cf2acf7a80373246", func := "trivet/trivetlaw12.TxOne", spec := "txOne", inPlace := ["internal/bytealg.IndexByteString", "internal/bytealg.IndexString", "slices.overlaps[trivet/api.Queue]", "internal/bytealg.abigen_runtime_cmpstring", "internal/bytealg.CountString", "slices.overlaps[trivet/api.Bind]", "math.Float64bits", "math.Float64frombits", "slices.overlaps[trivet/api.Client]", "slices.overlaps[int]", "slices.overlaps[trivet/api.Msg]", "slices.overlaps[trivet/api.Sub]", "slices.overlaps[trivet/api.Item]"], unfollowed := true, recurses := true, named := ["unicode/utf8.first", "unicode/utf8.acceptRanges", "internal/bytealg.MaxLen"], apart := false, laid := [("unicode/utf8.acceptRanges", laid_unicode_utf8_acceptRanges), ("unicode/utf8.first", laid_unicode_utf8_first)] }
def TxOneSaid : Prop := txOneRow.holds Tryz.pinned (OpenSpec.ofChange txOneSpec)

/-- ITS FALSE NEIGHBOUR: 'it returns false'. Refute it at one input. -/
def txOneWrong : ChangeSpec := { name := "txOne", fn := fun _ => fun
  | [d1, d2] => { results := [.lit (.bool false)], args := [d1, d2] }
  | _ => none }
def TxOneWrongFalsely : Prop := txOneRow.holds Tryz.pinned (OpenSpec.ofChange txOneWrong)

/-- 'trivetlaw11.CoreDoes': WHATEVER THE INPUT: true; the input reads as it did. -/
def coreDoesSpec : ChangeSpec := { name := "coreDoes", fn := fun _ => fun
  | [d1, d2] => { results := [.lit (.bool true)], args := [d1, d2] }
  | _ => none }
def coreDoesRow : OpenClaim := { program := "ytpcpljfifipagaagreatdoor", sum := "1e87b112921174f55e28bfb0938e02c4417c93080a50f1f9cf2acf7a80373246", func := "trivet/trivetlaw11.CoreDoes", spec := "coreDoes", inPlace := ["internal/bytealg.IndexByteString", "internal/bytealg.IndexString", "slices.overlaps[trivet/api.Queue]", "internal/bytealg.abigen_runtime_cmpstring", "internal/bytealg.CountString", "slices.overlaps[trivet/api.Bind]", "math.Float64bits", "math.Float64frombits", "slices.overlaps[trivet/api.Client]", "slices.overlaps[int]", "slices.overlaps[trivet/api.Msg]", "slices.overlaps[trivet/api.Sub]", "slices.overlaps[trivet/api.Item]"], unfollowed := true, recurses := true, named := ["unicode/utf8.first", "unicode/utf8.acceptRanges", "internal/bytealg.MaxLen"], apart := false, laid := [("unicode/utf8.acceptRanges", laid_unicode_utf8_acceptRanges), ("unicode/utf8.first", laid_unicode_utf8_first)] }
def CoreDoesSaid : Prop := coreDoesRow.holds Tryz.pinned (OpenSpec.ofChange coreDoesSpec)

/-- ITS FALSE NEIGHBOUR: 'it returns false'. Refute it at one input. -/
def coreDoesWrong : ChangeSpec := { name := "coreDoes", fn := fun _ => fun
  | [d1, d2] => { results := [.lit (.bool false)], args := [d1, d2] }
  | _ => none }
def CoreDoesWrongFalsely : Prop := coreDoesRow.holds Tryz.pinned (OpenSpec.ofChange coreDoesWrong)

/-- 'trivetlaw11.CoreStrips': WHATEVER THE INPUT: true; the input reads as it did. -/
def coreStripsSpec : ChangeSpec := { name := "coreStrips", fn := fun _ => fun
  | [d] => { results := [.lit (.bool true)], args := [d] }
  | _ => none }
def coreStripsRow : OpenClaim := { program := "ytpcpljfifipagaagreatdoor", sum := "1e87b112921174f55e28bfb0938e02c4417c93080a50f1f9cf2acf7a80373246", func := "trivet/trivetlaw11.CoreStrips", spec := "coreStrips", inPlace := ["internal/bytealg.IndexByteString", "internal/bytealg.IndexString", "slices.overlaps[trivet/api.Queue]", "internal/bytealg.abigen_runtime_cmpstring", "internal/bytealg.CountString", "slices.overlaps[trivet/api.Bind]", "math.Float64bits", "math.Float64frombits", "slices.overlaps[trivet/api.Client]", "slices.overlaps[int]", "slices.overlaps[trivet/api.Msg]", "slices.overlaps[trivet/api.Sub]", "slices.overlaps[trivet/api.Item]"], unfollowed := true, recurses := true, named := ["unicode/utf8.first", "unicode/utf8.acceptRanges", "internal/bytealg.MaxLen"], apart := false, laid := [("unicode/utf8.acceptRanges", laid_unicode_utf8_acceptRanges), ("unicode/utf8.first", laid_unicode_utf8_first)] }
def CoreStripsSaid : Prop := coreStripsRow.holds Tryz.pinned (OpenSpec.ofChange coreStripsSpec)

/-- ITS FALSE NEIGHBOUR: 'it returns false'. Refute it at one input. -/
def coreStripsWrong : ChangeSpec := { name := "coreStrips", fn := fun _ => fun
  | [d] => { results := [.lit (.bool false)], args := [d] }
  | _ => none }
def CoreStripsWrongFalsely : Prop := coreStripsRow.holds Tryz.pinned (OpenSpec.ofChange coreStripsWrong)

/-- 'trivetlaw11.CoreKeeps': WHATEVER THE INPUT: true; the input reads as it did. -/
def coreKeepsSpec : ChangeSpec := { name := "coreKeeps", fn := fun _ => fun
  | [d1, d2] => { results := [.lit (.bool true)], args := [d1, d2] }
  | _ => none }
def coreKeepsRow : OpenClaim := { program := "ytpcpljfifipagaagreatdoor", sum := "1e87b112921174f55e28bfb0938e02c4417c93080a50f1f9cf2acf7a80373246", func := "trivet/trivetlaw11.CoreKeeps", spec := "coreKeeps", inPlace := ["internal/bytealg.IndexByteString", "internal/bytealg.IndexString", "slices.overlaps[trivet/api.Queue]", "internal/bytealg.abigen_runtime_cmpstring", "internal/bytealg.CountString", "slices.overlaps[trivet/api.Bind]", "math.Float64bits", "math.Float64frombits", "slices.overlaps[trivet/api.Client]", "slices.overlaps[int]", "slices.overlaps[trivet/api.Msg]", "slices.overlaps[trivet/api.Sub]", "slices.overlaps[trivet/api.Item]"], unfollowed := true, recurses := true, named := ["unicode/utf8.first", "unicode/utf8.acceptRanges", "internal/bytealg.MaxLen"], apart := false, laid := [("unicode/utf8.acceptRanges", laid_unicode_utf8_acceptRanges), ("unicode/utf8.first", laid_unicode_utf8_first)] }
def CoreKeepsSaid : Prop := coreKeepsRow.holds Tryz.pinned (OpenSpec.ofChange coreKeepsSpec)

/-- ITS FALSE NEIGHBOUR: 'it returns false'. Refute it at one input. -/
def coreKeepsWrong : ChangeSpec := { name := "coreKeeps", fn := fun _ => fun
  | [d1, d2] => { results := [.lit (.bool false)], args := [d1, d2] }
  | _ => none }
def CoreKeepsWrongFalsely : Prop := coreKeepsRow.holds Tryz.pinned (OpenSpec.ofChange coreKeepsWrong)

/-- 'trivetlaw12.TxRuns': WHATEVER THE INPUT: true; the input reads as it did. -/
def txRunsSpec : ChangeSpec := { name := "txRuns", fn := fun _ => fun
  | [d1, d2, d3] => { results := [.lit (.bool true)], args := [d1, d2, d3] }
  | _ => none }
def txRunsRow : OpenClaim := { program := "ytpcpljfifipagaagreatdoor", sum := "1e87b112921174f55e28bfb0938e02c4417c93080a50f1f9cf2acf7a80373246", func := "trivet/trivetlaw12.TxRuns", spec := "txRuns", inPlace := ["internal/bytealg.IndexByteString", "internal/bytealg.IndexString", "slices.overlaps[trivet/api.Queue]", "internal/bytealg.abigen_runtime_cmpstring", "internal/bytealg.CountString", "slices.overlaps[trivet/api.Bind]", "math.Float64bits", "math.Float64frombits", "slices.overlaps[trivet/api.Client]", "slices.overlaps[int]", "slices.overlaps[trivet/api.Msg]", "slices.overlaps[trivet/api.Sub]", "slices.overlaps[trivet/api.Item]"], unfollowed := true, recurses := true, named := ["unicode/utf8.first", "unicode/utf8.acceptRanges", "internal/bytealg.MaxLen"], apart := false, laid := [("unicode/utf8.acceptRanges", laid_unicode_utf8_acceptRanges), ("unicode/utf8.first", laid_unicode_utf8_first)] }
def TxRunsSaid : Prop := txRunsRow.holds Tryz.pinned (OpenSpec.ofChange txRunsSpec)

/-- ITS FALSE NEIGHBOUR: 'it returns false'. Refute it at one input. -/
def txRunsWrong : ChangeSpec := { name := "txRuns", fn := fun _ => fun
  | [d1, d2, d3] => { results := [.lit (.bool false)], args := [d1, d2, d3] }
  | _ => none }
def TxRunsWrongFalsely : Prop := txRunsRow.holds Tryz.pinned (OpenSpec.ofChange txRunsWrong)

/-- 'trivetlaw12.TxKeeps': WHATEVER THE INPUT: true; the input reads as it did. -/
def txKeepsSpec : ChangeSpec := { name := "txKeeps", fn := fun _ => fun
  | [d1, d2, d3] => { results := [.lit (.bool true)], args := [d1, d2, d3] }
  | _ => none }
def txKeepsRow : OpenClaim := { program := "ytpcpljfifipagaagreatdoor", sum := "1e87b112921174f55e28bfb0938e02c4417c93080a50f1f9cf2acf7a80373246", func := "trivet/trivetlaw12.TxKeeps", spec := "txKeeps", inPlace := ["internal/bytealg.IndexByteString", "internal/bytealg.IndexString", "slices.overlaps[trivet/api.Queue]", "internal/bytealg.abigen_runtime_cmpstring", "internal/bytealg.CountString", "slices.overlaps[trivet/api.Bind]", "math.Float64bits", "math.Float64frombits", "slices.overlaps[trivet/api.Client]", "slices.overlaps[int]", "slices.overlaps[trivet/api.Msg]", "slices.overlaps[trivet/api.Sub]", "slices.overlaps[trivet/api.Item]"], unfollowed := true, recurses := true, named := ["unicode/utf8.first", "unicode/utf8.acceptRanges", "internal/bytealg.MaxLen"], apart := false, laid := [("unicode/utf8.acceptRanges", laid_unicode_utf8_acceptRanges), ("unicode/utf8.first", laid_unicode_utf8_first)] }
def TxKeepsSaid : Prop := txKeepsRow.holds Tryz.pinned (OpenSpec.ofChange txKeepsSpec)

/-- ITS FALSE NEIGHBOUR: 'it returns false'. Refute it at one input. -/
def txKeepsWrong : ChangeSpec := { name := "txKeeps", fn := fun _ => fun
  | [d1, d2, d3] => { results := [.lit (.bool false)], args := [d1, d2, d3] }
  | _ => none }
def TxKeepsWrongFalsely : Prop := txKeepsRow.holds Tryz.pinned (OpenSpec.ofChange txKeepsWrong)

/- THE SECOND FORM. 'bulk': how many values and letters a reading holds, each counted each time it is reached (what is shared counts as often as it is met; a slice's spare places count too). A statement '..UptoSaid' is the law's where the arguments, and the package variables that the reading takes, are together of bulk at most 1048576: NARROWER than '..Said'. Prove '..Said' where nothing that the law and all that it calls make is longer than what came in: it says more and counts as full. Else prove '..UptoSaid'. A law counts once. -/
mutual
def uptoBulk {H : Type} : DataW H → Nat
  | .lit (.string bytes) => bytes.length + 1
  | .lit _ => 1
  | .nil => 1
  | .ptr d => uptoBulk d + 1
  | .slice elems spare => uptoBulkAll elems + uptoBulkAll spare + 1
  | .agg parts => uptoBulkAll parts + 1
  | .iface _ d => uptoBulk d + 1
  | .map entries => uptoBulkEntries entries + 1
  | .held _ => 1
def uptoBulkAll {H : Type} : List (DataW H) → Nat
  | [] => 0
  | d :: r => uptoBulk d + uptoBulkAll r
def uptoBulkEntries {H : Type} : List (Lit × DataW H) → Nat
  | [] => 0
  | x :: r => uptoBulkEntry x + uptoBulkEntries r
def uptoBulkEntry {H : Type} : Lit × DataW H → Nat
  | (.string bytes, d) => bytes.length + uptoBulk d + 1
  | (_, d) => uptoBulk d + 1
 end
def uptoSmall : (H : Type) → List (DataW H) → Bool := fun _ ds => decide (uptoBulkAll ds ≤ 1048576)
def OpenSpec.upto (s : _root_.Go.ChangeSpec) : _root_.Go.OpenSpec := { _root_.Go.OpenSpec.ofChange s with cond := some uptoSmall }

/-- 'trivetlaw11.CoreStays', WHERE WHAT IT READS IS OF BULK AT MOST 1048576: true; the input reads as it did. -/
def coreStaysUptoRow : OpenClaim := { program := "ytpcpljfifipagaagreatdoor", sum := "1e87b112921174f55e28bfb0938e02c4417c93080a50f1f9cf2acf7a80373246", func := "trivet/trivetlaw11.CoreStays", spec := "coreStays", inPlace := ["internal/bytealg.IndexByteString", "internal/bytealg.IndexString", "slices.overlaps[trivet/api.Queue]", "internal/bytealg.abigen_runtime_cmpstring", "internal/bytealg.CountString", "slices.overlaps[trivet/api.Bind]", "math.Float64bits", "math.Float64frombits", "slices.overlaps[trivet/api.Client]", "slices.overlaps[int]", "slices.overlaps[trivet/api.Msg]", "slices.overlaps[trivet/api.Sub]", "slices.overlaps[trivet/api.Item]"], unfollowed := true, recurses := true, named := ["unicode/utf8.first", "unicode/utf8.acceptRanges", "internal/bytealg.MaxLen"], apart := false, laid := [("unicode/utf8.acceptRanges", laid_unicode_utf8_acceptRanges), ("unicode/utf8.first", laid_unicode_utf8_first)], narrowed := true }
def CoreStaysUptoSaid : Prop := coreStaysUptoRow.holds Tryz.pinned (OpenSpec.upto coreStaysSpec)

/-- 'trivetlaw11.CoreRoutes', WHERE WHAT IT READS IS OF BULK AT MOST 1048576: true; the input reads as it did. -/
def coreRoutesUptoRow : OpenClaim := { program := "ytpcpljfifipagaagreatdoor", sum := "1e87b112921174f55e28bfb0938e02c4417c93080a50f1f9cf2acf7a80373246", func := "trivet/trivetlaw11.CoreRoutes", spec := "coreRoutes", inPlace := ["internal/bytealg.IndexByteString", "internal/bytealg.IndexString", "slices.overlaps[trivet/api.Queue]", "internal/bytealg.abigen_runtime_cmpstring", "internal/bytealg.CountString", "slices.overlaps[trivet/api.Bind]", "math.Float64bits", "math.Float64frombits", "slices.overlaps[trivet/api.Client]", "slices.overlaps[int]", "slices.overlaps[trivet/api.Msg]", "slices.overlaps[trivet/api.Sub]", "slices.overlaps[trivet/api.Item]"], unfollowed := true, recurses := true, named := ["unicode/utf8.first", "unicode/utf8.acceptRanges", "internal/bytealg.MaxLen"], apart := false, laid := [("unicode/utf8.acceptRanges", laid_unicode_utf8_acceptRanges), ("unicode/utf8.first", laid_unicode_utf8_first)], narrowed := true }
def CoreRoutesUptoSaid : Prop := coreRoutesUptoRow.holds Tryz.pinned (OpenSpec.upto coreRoutesSpec)

/-- 'trivetlaw11.CorePackets', WHERE WHAT IT READS IS OF BULK AT MOST 1048576: true; the input reads as it did. -/
def corePacketsUptoRow : OpenClaim := { program := "ytpcpljfifipagaagreatdoor", sum := "1e87b112921174f55e28bfb0938e02c4417c93080a50f1f9cf2acf7a80373246", func := "trivet/trivetlaw11.CorePackets", spec := "corePackets", inPlace := ["internal/bytealg.IndexByteString", "internal/bytealg.IndexString", "slices.overlaps[trivet/api.Queue]", "internal/bytealg.abigen_runtime_cmpstring", "internal/bytealg.CountString", "slices.overlaps[trivet/api.Bind]", "math.Float64bits", "math.Float64frombits", "slices.overlaps[trivet/api.Client]", "slices.overlaps[int]", "slices.overlaps[trivet/api.Msg]", "slices.overlaps[trivet/api.Sub]", "slices.overlaps[trivet/api.Item]"], unfollowed := true, recurses := true, named := ["unicode/utf8.first", "unicode/utf8.acceptRanges", "internal/bytealg.MaxLen"], apart := false, laid := [("unicode/utf8.acceptRanges", laid_unicode_utf8_acceptRanges), ("unicode/utf8.first", laid_unicode_utf8_first)], narrowed := true }
def CorePacketsUptoSaid : Prop := corePacketsUptoRow.holds Tryz.pinned (OpenSpec.upto corePacketsSpec)

/-- 'trivetlaw11.CoreUndoes', WHERE WHAT IT READS IS OF BULK AT MOST 1048576: true; the input reads as it did. -/
def coreUndoesUptoRow : OpenClaim := { program := "ytpcpljfifipagaagreatdoor", sum := "1e87b112921174f55e28bfb0938e02c4417c93080a50f1f9cf2acf7a80373246", func := "trivet/trivetlaw11.CoreUndoes", spec := "coreUndoes", inPlace := ["internal/bytealg.IndexByteString", "internal/bytealg.IndexString", "slices.overlaps[trivet/api.Queue]", "internal/bytealg.abigen_runtime_cmpstring", "internal/bytealg.CountString", "slices.overlaps[trivet/api.Bind]", "math.Float64bits", "math.Float64frombits", "slices.overlaps[trivet/api.Client]", "slices.overlaps[int]", "slices.overlaps[trivet/api.Msg]", "slices.overlaps[trivet/api.Sub]", "slices.overlaps[trivet/api.Item]"], unfollowed := true, recurses := true, named := ["unicode/utf8.first", "unicode/utf8.acceptRanges", "internal/bytealg.MaxLen"], apart := false, laid := [("unicode/utf8.acceptRanges", laid_unicode_utf8_acceptRanges), ("unicode/utf8.first", laid_unicode_utf8_first)], narrowed := true }
def CoreUndoesUptoSaid : Prop := coreUndoesUptoRow.holds Tryz.pinned (OpenSpec.upto coreUndoesSpec)

/-- 'trivetlaw11.CoreTicks', WHERE WHAT IT READS IS OF BULK AT MOST 1048576: true; the input reads as it did. -/
def coreTicksUptoRow : OpenClaim := { program := "ytpcpljfifipagaagreatdoor", sum := "1e87b112921174f55e28bfb0938e02c4417c93080a50f1f9cf2acf7a80373246", func := "trivet/trivetlaw11.CoreTicks", spec := "coreTicks", inPlace := ["internal/bytealg.IndexByteString", "internal/bytealg.IndexString", "slices.overlaps[trivet/api.Queue]", "internal/bytealg.abigen_runtime_cmpstring", "internal/bytealg.CountString", "slices.overlaps[trivet/api.Bind]", "math.Float64bits", "math.Float64frombits", "slices.overlaps[trivet/api.Client]", "slices.overlaps[int]", "slices.overlaps[trivet/api.Msg]", "slices.overlaps[trivet/api.Sub]", "slices.overlaps[trivet/api.Item]"], unfollowed := true, recurses := true, named := ["unicode/utf8.first", "unicode/utf8.acceptRanges", "internal/bytealg.MaxLen"], apart := false, laid := [("unicode/utf8.acceptRanges", laid_unicode_utf8_acceptRanges), ("unicode/utf8.first", laid_unicode_utf8_first)], narrowed := true }
def CoreTicksUptoSaid : Prop := coreTicksUptoRow.holds Tryz.pinned (OpenSpec.upto coreTicksSpec)

/-- 'trivetlaw12.TxWhole', WHERE WHAT IT READS IS OF BULK AT MOST 1048576: true; the input reads as it did. -/
def txWholeUptoRow : OpenClaim := { program := "ytpcpljfifipagaagreatdoor", sum := "1e87b112921174f55e28bfb0938e02c4417c93080a50f1f9cf2acf7a80373246", func := "trivet/trivetlaw12.TxWhole", spec := "txWhole", inPlace := ["internal/bytealg.IndexByteString", "internal/bytealg.IndexString", "slices.overlaps[trivet/api.Queue]", "internal/bytealg.abigen_runtime_cmpstring", "internal/bytealg.CountString", "slices.overlaps[trivet/api.Bind]", "math.Float64bits", "math.Float64frombits", "slices.overlaps[trivet/api.Client]", "slices.overlaps[int]", "slices.overlaps[trivet/api.Msg]", "slices.overlaps[trivet/api.Sub]", "slices.overlaps[trivet/api.Item]"], unfollowed := true, recurses := true, named := ["unicode/utf8.first", "unicode/utf8.acceptRanges", "internal/bytealg.MaxLen"], apart := false, laid := [("unicode/utf8.acceptRanges", laid_unicode_utf8_acceptRanges), ("unicode/utf8.first", laid_unicode_utf8_first)], narrowed := true }
def TxWholeUptoSaid : Prop := txWholeUptoRow.holds Tryz.pinned (OpenSpec.upto txWholeSpec)

/-- 'trivetlaw12.TxOne', WHERE WHAT IT READS IS OF BULK AT MOST 1048576: true; the input reads as it did. -/
def txOneUptoRow : OpenClaim := { program := "ytpcpljfifipagaagreatdoor", sum := "1e87b112921174f55e28bfb0938e02c4417c93080a50f1f9cf2acf7a80373246", func := "trivet/trivetlaw12.TxOne", spec := "txOne", inPlace := ["internal/bytealg.IndexByteString", "internal/bytealg.IndexString", "slices.overlaps[trivet/api.Queue]", "internal/bytealg.abigen_runtime_cmpstring", "internal/bytealg.CountString", "slices.overlaps[trivet/api.Bind]", "math.Float64bits", "math.Float64frombits", "slices.overlaps[trivet/api.Client]", "slices.overlaps[int]", "slices.overlaps[trivet/api.Msg]", "slices.overlaps[trivet/api.Sub]", "slices.overlaps[trivet/api.Item]"], unfollowed := true, recurses := true, named := ["unicode/utf8.first", "unicode/utf8.acceptRanges", "internal/bytealg.MaxLen"], apart := false, laid := [("unicode/utf8.acceptRanges", laid_unicode_utf8_acceptRanges), ("unicode/utf8.first", laid_unicode_utf8_first)], narrowed := true }
def TxOneUptoSaid : Prop := txOneUptoRow.holds Tryz.pinned (OpenSpec.upto txOneSpec)

/-- 'trivetlaw11.CoreDoes', WHERE WHAT IT READS IS OF BULK AT MOST 1048576: true; the input reads as it did. -/
def coreDoesUptoRow : OpenClaim := { program := "ytpcpljfifipagaagreatdoor", sum := "1e87b112921174f55e28bfb0938e02c4417c93080a50f1f9cf2acf7a80373246", func := "trivet/trivetlaw11.CoreDoes", spec := "coreDoes", inPlace := ["internal/bytealg.IndexByteString", "internal/bytealg.IndexString", "slices.overlaps[trivet/api.Queue]", "internal/bytealg.abigen_runtime_cmpstring", "internal/bytealg.CountString", "slices.overlaps[trivet/api.Bind]", "math.Float64bits", "math.Float64frombits", "slices.overlaps[trivet/api.Client]", "slices.overlaps[int]", "slices.overlaps[trivet/api.Msg]", "slices.overlaps[trivet/api.Sub]", "slices.overlaps[trivet/api.Item]"], unfollowed := true, recurses := true, named := ["unicode/utf8.first", "unicode/utf8.acceptRanges", "internal/bytealg.MaxLen"], apart := false, laid := [("unicode/utf8.acceptRanges", laid_unicode_utf8_acceptRanges), ("unicode/utf8.first", laid_unicode_utf8_first)], narrowed := true }
def CoreDoesUptoSaid : Prop := coreDoesUptoRow.holds Tryz.pinned (OpenSpec.upto coreDoesSpec)

/-- 'trivetlaw11.CoreStrips', WHERE WHAT IT READS IS OF BULK AT MOST 1048576: true; the input reads as it did. -/
def coreStripsUptoRow : OpenClaim := { program := "ytpcpljfifipagaagreatdoor", sum := "1e87b112921174f55e28bfb0938e02c4417c93080a50f1f9cf2acf7a80373246", func := "trivet/trivetlaw11.CoreStrips", spec := "coreStrips", inPlace := ["internal/bytealg.IndexByteString", "internal/bytealg.IndexString", "slices.overlaps[trivet/api.Queue]", "internal/bytealg.abigen_runtime_cmpstring", "internal/bytealg.CountString", "slices.overlaps[trivet/api.Bind]", "math.Float64bits", "math.Float64frombits", "slices.overlaps[trivet/api.Client]", "slices.overlaps[int]", "slices.overlaps[trivet/api.Msg]", "slices.overlaps[trivet/api.Sub]", "slices.overlaps[trivet/api.Item]"], unfollowed := true, recurses := true, named := ["unicode/utf8.first", "unicode/utf8.acceptRanges", "internal/bytealg.MaxLen"], apart := false, laid := [("unicode/utf8.acceptRanges", laid_unicode_utf8_acceptRanges), ("unicode/utf8.first", laid_unicode_utf8_first)], narrowed := true }
def CoreStripsUptoSaid : Prop := coreStripsUptoRow.holds Tryz.pinned (OpenSpec.upto coreStripsSpec)

/-- 'trivetlaw11.CoreKeeps', WHERE WHAT IT READS IS OF BULK AT MOST 1048576: true; the input reads as it did. -/
def coreKeepsUptoRow : OpenClaim := { program := "ytpcpljfifipagaagreatdoor", sum := "1e87b112921174f55e28bfb0938e02c4417c93080a50f1f9cf2acf7a80373246", func := "trivet/trivetlaw11.CoreKeeps", spec := "coreKeeps", inPlace := ["internal/bytealg.IndexByteString", "internal/bytealg.IndexString", "slices.overlaps[trivet/api.Queue]", "internal/bytealg.abigen_runtime_cmpstring", "internal/bytealg.CountString", "slices.overlaps[trivet/api.Bind]", "math.Float64bits", "math.Float64frombits", "slices.overlaps[trivet/api.Client]", "slices.overlaps[int]", "slices.overlaps[trivet/api.Msg]", "slices.overlaps[trivet/api.Sub]", "slices.overlaps[trivet/api.Item]"], unfollowed := true, recurses := true, named := ["unicode/utf8.first", "unicode/utf8.acceptRanges", "internal/bytealg.MaxLen"], apart := false, laid := [("unicode/utf8.acceptRanges", laid_unicode_utf8_acceptRanges), ("unicode/utf8.first", laid_unicode_utf8_first)], narrowed := true }
def CoreKeepsUptoSaid : Prop := coreKeepsUptoRow.holds Tryz.pinned (OpenSpec.upto coreKeepsSpec)

/-- 'trivetlaw12.TxRuns', WHERE WHAT IT READS IS OF BULK AT MOST 1048576: true; the input reads as it did. -/
def txRunsUptoRow : OpenClaim := { program := "ytpcpljfifipagaagreatdoor", sum := "1e87b112921174f55e28bfb0938e02c4417c93080a50f1f9cf2acf7a80373246", func := "trivet/trivetlaw12.TxRuns", spec := "txRuns", inPlace := ["internal/bytealg.IndexByteString", "internal/bytealg.IndexString", "slices.overlaps[trivet/api.Queue]", "internal/bytealg.abigen_runtime_cmpstring", "internal/bytealg.CountString", "slices.overlaps[trivet/api.Bind]", "math.Float64bits", "math.Float64frombits", "slices.overlaps[trivet/api.Client]", "slices.overlaps[int]", "slices.overlaps[trivet/api.Msg]", "slices.overlaps[trivet/api.Sub]", "slices.overlaps[trivet/api.Item]"], unfollowed := true, recurses := true, named := ["unicode/utf8.first", "unicode/utf8.acceptRanges", "internal/bytealg.MaxLen"], apart := false, laid := [("unicode/utf8.acceptRanges", laid_unicode_utf8_acceptRanges), ("unicode/utf8.first", laid_unicode_utf8_first)], narrowed := true }
def TxRunsUptoSaid : Prop := txRunsUptoRow.holds Tryz.pinned (OpenSpec.upto txRunsSpec)

/-- 'trivetlaw12.TxKeeps', WHERE WHAT IT READS IS OF BULK AT MOST 1048576: true; the input reads as it did. -/
def txKeepsUptoRow : OpenClaim := { program := "ytpcpljfifipagaagreatdoor", sum := "1e87b112921174f55e28bfb0938e02c4417c93080a50f1f9cf2acf7a80373246", func := "trivet/trivetlaw12.TxKeeps", spec := "txKeeps", inPlace := ["internal/bytealg.IndexByteString", "internal/bytealg.IndexString", "slices.overlaps[trivet/api.Queue]", "internal/bytealg.abigen_runtime_cmpstring", "internal/bytealg.CountString", "slices.overlaps[trivet/api.Bind]", "math.Float64bits", "math.Float64frombits", "slices.overlaps[trivet/api.Client]", "slices.overlaps[int]", "slices.overlaps[trivet/api.Msg]", "slices.overlaps[trivet/api.Sub]", "slices.overlaps[trivet/api.Item]"], unfollowed := true, recurses := true, named := ["unicode/utf8.first", "unicode/utf8.acceptRanges", "internal/bytealg.MaxLen"], apart := false, laid := [("unicode/utf8.acceptRanges", laid_unicode_utf8_acceptRanges), ("unicode/utf8.first", laid_unicode_utf8_first)], narrowed := true }
def TxKeepsUptoSaid : Prop := txKeepsUptoRow.holds Tryz.pinned (OpenSpec.upto txKeepsSpec)

end Rows
end Go.Proofs.YtpcpljfifipagaaGreatDoor
