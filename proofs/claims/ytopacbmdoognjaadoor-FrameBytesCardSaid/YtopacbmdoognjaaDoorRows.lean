/-
  NARROWER THAN 'FOR EVERY INPUT', by the rows' own cells (each row's printed sentence says how): CrcSums: laid · CrcSteps: laid · CrcApart: laid · CrcTurned: laid · FrameParses: laid · FrameTurned: laid · FrameShort: laid · SegLong: laid · SegBytes: laid · SegNexts: laid · SegFalls: laid · SegJoins: laid · FeedTakes: laid · FeedFrames: laid · FeedCuts: laid · FrameBytes: laid · WalOpens: laid · WalRoom: laid · WalFalls: laid.
  DERIVED. THE GIVEN ROWS OF THIS SEAT. 19 by the template 'for every input the law returns true; each argument reads behind the call as it read before'; 0 by the template 'total and deterministic' (their statements: YtopacbmdoognjaaDoorTotals.lean).
  GIVEN WITH THE SEED: the statements are not yours to turn. If you find one false, say at which input.
  Laid BY PROGRAM, IN A SANDBOX (cutbox-rows.mjs): the forced cells as the released guide's own fill.sh prints them over the translation 7fd9e043fdde9dda… (all of the seat's roots in one cut). By AI agents, Wed Nov 11 2026. No macro, syntax, notation, axiom, sorry.
-/
import Derived.Test.YtopacbmdoognjaaDoorChecked
import GoSem.Claim
import GoSem.ClaimJoined
import GoSem.ClaimMapViews
import Derived.JoinedTies
import Derived.KernelRfl
namespace Go.Proofs.YtopacbmdoognjaaDoor
/- THE CELL 'sum', in the pinned program and in every row, IS THE sha256 OF THE DUMP (.gsa) THAT YtopacbmdoognjaaDoorProg.lean LOADS. Nothing in Lean hashes anything: it is a label: what it is worth is what the hold of that sum in a sandbox is worth. -/
noncomputable def Tryd.pinned : Pinned := { name := "ytopacbmdoognjaadoor", sum := "7fd9e043fdde9ddaf1ff1fc5bbe24391e9ee80fa18838da231525fbaf2d2abc7", checked := Tryd.checked }
namespace Rows
def none {H : Type} : Left H := { results := [], args := [] }

/- WHAT THE LISTED PACKAGE-LEVEL VARIABLES READ AS WHEN THE CALL BEGINS. Each datum BY PROGRAM (the guide's laid-datum.mjs) off the statement by which the dump's own 'gosem.cut.vars' lays the variable. In a bare row this is a premise. The card (YtopacbmdoognjaaDoorCards.lean) ties it to the program's text. -/
def laid_stairwell_crc_laid {H : Type} : DataW H := .agg [.lit (.int .u32 0), .lit (.int .u32 498536548), .lit (.int .u32 997073096), .lit (.int .u32 651767980), .lit (.int .u32 1994146192), .lit (.int .u32 1802195444), .lit (.int .u32 1303535960), .lit (.int .u32 1342533948), .lit (.int .u32 3988292384), .lit (.int .u32 4027552580), .lit (.int .u32 3604390888), .lit (.int .u32 3412177804), .lit (.int .u32 2607071920), .lit (.int .u32 2262029012), .lit (.int .u32 2685067896), .lit (.int .u32 3183342108)]

/-- 'stairwelllaw02.CrcSums': WHATEVER THE INPUT: true; the input reads as it did. -/
def crcSumsSpec : ChangeSpec := { name := "crcSums", fn := fun _ => fun
  | [d1, d2, d3] => { results := [.lit (.bool true)], args := [d1, d2, d3] }
  | _ => none }
def crcSumsRow : OpenClaim := { program := "ytopacbmdoognjaadoor", sum := "7fd9e043fdde9ddaf1ff1fc5bbe24391e9ee80fa18838da231525fbaf2d2abc7", func := "stairwell/stairwelllaw02.CrcSums", spec := "crcSums", named := ["stairwell/crc.laid"], apart := false, laid := [("stairwell/crc.laid", laid_stairwell_crc_laid)] }
def CrcSumsSaid : Prop := crcSumsRow.holds Tryd.pinned (OpenSpec.ofChange crcSumsSpec)

/-- ITS FALSE NEIGHBOUR: 'it returns false'. Refute it at one input. -/
def crcSumsWrong : ChangeSpec := { name := "crcSums", fn := fun _ => fun
  | [d1, d2, d3] => { results := [.lit (.bool false)], args := [d1, d2, d3] }
  | _ => none }
def CrcSumsWrongFalsely : Prop := crcSumsRow.holds Tryd.pinned (OpenSpec.ofChange crcSumsWrong)

/-- 'stairwelllaw02.CrcSteps': WHATEVER THE INPUT: true; the input reads as it did. -/
def crcStepsSpec : ChangeSpec := { name := "crcSteps", fn := fun _ => fun
  | [d1, d2] => { results := [.lit (.bool true)], args := [d1, d2] }
  | _ => none }
def crcStepsRow : OpenClaim := { program := "ytopacbmdoognjaadoor", sum := "7fd9e043fdde9ddaf1ff1fc5bbe24391e9ee80fa18838da231525fbaf2d2abc7", func := "stairwell/stairwelllaw02.CrcSteps", spec := "crcSteps", named := ["stairwell/crc.laid"], apart := false, laid := [("stairwell/crc.laid", laid_stairwell_crc_laid)] }
def CrcStepsSaid : Prop := crcStepsRow.holds Tryd.pinned (OpenSpec.ofChange crcStepsSpec)

/-- ITS FALSE NEIGHBOUR: 'it returns false'. Refute it at one input. -/
def crcStepsWrong : ChangeSpec := { name := "crcSteps", fn := fun _ => fun
  | [d1, d2] => { results := [.lit (.bool false)], args := [d1, d2] }
  | _ => none }
def CrcStepsWrongFalsely : Prop := crcStepsRow.holds Tryd.pinned (OpenSpec.ofChange crcStepsWrong)

/-- 'stairwelllaw02.CrcApart': WHATEVER THE INPUT: true; the input reads as it did. -/
def crcApartSpec : ChangeSpec := { name := "crcApart", fn := fun _ => fun
  | [d1, d2, d3, d4] => { results := [.lit (.bool true)], args := [d1, d2, d3, d4] }
  | _ => none }
def crcApartRow : OpenClaim := { program := "ytopacbmdoognjaadoor", sum := "7fd9e043fdde9ddaf1ff1fc5bbe24391e9ee80fa18838da231525fbaf2d2abc7", func := "stairwell/stairwelllaw02.CrcApart", spec := "crcApart", named := ["stairwell/crc.laid"], apart := false, laid := [("stairwell/crc.laid", laid_stairwell_crc_laid)] }
def CrcApartSaid : Prop := crcApartRow.holds Tryd.pinned (OpenSpec.ofChange crcApartSpec)

/-- ITS FALSE NEIGHBOUR: 'it returns false'. Refute it at one input. -/
def crcApartWrong : ChangeSpec := { name := "crcApart", fn := fun _ => fun
  | [d1, d2, d3, d4] => { results := [.lit (.bool false)], args := [d1, d2, d3, d4] }
  | _ => none }
def CrcApartWrongFalsely : Prop := crcApartRow.holds Tryd.pinned (OpenSpec.ofChange crcApartWrong)

/-- 'stairwelllaw02.CrcTurned': WHATEVER THE INPUT: true; the input reads as it did. -/
def crcTurnedSpec : ChangeSpec := { name := "crcTurned", fn := fun _ => fun
  | [d1, d2, d3] => { results := [.lit (.bool true)], args := [d1, d2, d3] }
  | _ => none }
def crcTurnedRow : OpenClaim := { program := "ytopacbmdoognjaadoor", sum := "7fd9e043fdde9ddaf1ff1fc5bbe24391e9ee80fa18838da231525fbaf2d2abc7", func := "stairwell/stairwelllaw02.CrcTurned", spec := "crcTurned", named := ["stairwell/crc.laid"], apart := false, laid := [("stairwell/crc.laid", laid_stairwell_crc_laid)] }
def CrcTurnedSaid : Prop := crcTurnedRow.holds Tryd.pinned (OpenSpec.ofChange crcTurnedSpec)

/-- ITS FALSE NEIGHBOUR: 'it returns false'. Refute it at one input. -/
def crcTurnedWrong : ChangeSpec := { name := "crcTurned", fn := fun _ => fun
  | [d1, d2, d3] => { results := [.lit (.bool false)], args := [d1, d2, d3] }
  | _ => none }
def CrcTurnedWrongFalsely : Prop := crcTurnedRow.holds Tryd.pinned (OpenSpec.ofChange crcTurnedWrong)

/-- 'stairwelllaw07.FrameParses': WHATEVER THE INPUT: true; the input reads as it did. -/
def frameParsesSpec : ChangeSpec := { name := "frameParses", fn := fun _ => fun
  | [d] => { results := [.lit (.bool true)], args := [d] }
  | _ => none }
def frameParsesRow : OpenClaim := { program := "ytopacbmdoognjaadoor", sum := "7fd9e043fdde9ddaf1ff1fc5bbe24391e9ee80fa18838da231525fbaf2d2abc7", func := "stairwell/stairwelllaw07.FrameParses", spec := "frameParses", inPlace := ["internal/abi.NoEscape"], recurses := true, named := ["stairwell/crc.laid"], apart := false, laid := [("stairwell/crc.laid", laid_stairwell_crc_laid)] }
def FrameParsesSaid : Prop := frameParsesRow.holds Tryd.pinned (OpenSpec.ofChange frameParsesSpec)

/-- ITS FALSE NEIGHBOUR: 'it returns false'. Refute it at one input. -/
def frameParsesWrong : ChangeSpec := { name := "frameParses", fn := fun _ => fun
  | [d] => { results := [.lit (.bool false)], args := [d] }
  | _ => none }
def FrameParsesWrongFalsely : Prop := frameParsesRow.holds Tryd.pinned (OpenSpec.ofChange frameParsesWrong)

/-- 'stairwelllaw07.FrameTurned': WHATEVER THE INPUT: true; the input reads as it did. -/
def frameTurnedSpec : ChangeSpec := { name := "frameTurned", fn := fun _ => fun
  | [d1, d2, d3] => { results := [.lit (.bool true)], args := [d1, d2, d3] }
  | _ => none }
def frameTurnedRow : OpenClaim := { program := "ytopacbmdoognjaadoor", sum := "7fd9e043fdde9ddaf1ff1fc5bbe24391e9ee80fa18838da231525fbaf2d2abc7", func := "stairwell/stairwelllaw07.FrameTurned", spec := "frameTurned", inPlace := ["internal/abi.NoEscape"], named := ["stairwell/crc.laid"], apart := false, laid := [("stairwell/crc.laid", laid_stairwell_crc_laid)] }
def FrameTurnedSaid : Prop := frameTurnedRow.holds Tryd.pinned (OpenSpec.ofChange frameTurnedSpec)

/-- ITS FALSE NEIGHBOUR: 'it returns false'. Refute it at one input. -/
def frameTurnedWrong : ChangeSpec := { name := "frameTurned", fn := fun _ => fun
  | [d1, d2, d3] => { results := [.lit (.bool false)], args := [d1, d2, d3] }
  | _ => none }
def FrameTurnedWrongFalsely : Prop := frameTurnedRow.holds Tryd.pinned (OpenSpec.ofChange frameTurnedWrong)

/-- 'stairwelllaw07.FrameShort': WHATEVER THE INPUT: true; the input reads as it did. -/
def frameShortSpec : ChangeSpec := { name := "frameShort", fn := fun _ => fun
  | [d1, d2] => { results := [.lit (.bool true)], args := [d1, d2] }
  | _ => none }
def frameShortRow : OpenClaim := { program := "ytopacbmdoognjaadoor", sum := "7fd9e043fdde9ddaf1ff1fc5bbe24391e9ee80fa18838da231525fbaf2d2abc7", func := "stairwell/stairwelllaw07.FrameShort", spec := "frameShort", inPlace := ["internal/abi.NoEscape"], named := ["stairwell/crc.laid"], apart := false, laid := [("stairwell/crc.laid", laid_stairwell_crc_laid)] }
def FrameShortSaid : Prop := frameShortRow.holds Tryd.pinned (OpenSpec.ofChange frameShortSpec)

/-- ITS FALSE NEIGHBOUR: 'it returns false'. Refute it at one input. -/
def frameShortWrong : ChangeSpec := { name := "frameShort", fn := fun _ => fun
  | [d1, d2] => { results := [.lit (.bool false)], args := [d1, d2] }
  | _ => none }
def FrameShortWrongFalsely : Prop := frameShortRow.holds Tryd.pinned (OpenSpec.ofChange frameShortWrong)

/-- 'stairwelllaw16.SegLong': WHATEVER THE INPUT: true; the input reads as it did. -/
def segLongSpec : ChangeSpec := { name := "segLong", fn := fun _ => fun
  | [d1, d2] => { results := [.lit (.bool true)], args := [d1, d2] }
  | _ => none }
def segLongRow : OpenClaim := { program := "ytopacbmdoognjaadoor", sum := "7fd9e043fdde9ddaf1ff1fc5bbe24391e9ee80fa18838da231525fbaf2d2abc7", func := "stairwell/stairwelllaw16.SegLong", spec := "segLong", inPlace := ["internal/abi.NoEscape"], named := ["stairwell/crc.laid"], apart := false, laid := [("stairwell/crc.laid", laid_stairwell_crc_laid)] }
def SegLongSaid : Prop := segLongRow.holds Tryd.pinned (OpenSpec.ofChange segLongSpec)

/-- ITS FALSE NEIGHBOUR: 'it returns false'. Refute it at one input. -/
def segLongWrong : ChangeSpec := { name := "segLong", fn := fun _ => fun
  | [d1, d2] => { results := [.lit (.bool false)], args := [d1, d2] }
  | _ => none }
def SegLongWrongFalsely : Prop := segLongRow.holds Tryd.pinned (OpenSpec.ofChange segLongWrong)

/-- 'stairwelllaw16.SegBytes': WHATEVER THE INPUT: true; the input reads as it did. -/
def segBytesSpec : ChangeSpec := { name := "segBytes", fn := fun _ => fun
  | [d1, d2] => { results := [.lit (.bool true)], args := [d1, d2] }
  | _ => none }
def segBytesRow : OpenClaim := { program := "ytopacbmdoognjaadoor", sum := "7fd9e043fdde9ddaf1ff1fc5bbe24391e9ee80fa18838da231525fbaf2d2abc7", func := "stairwell/stairwelllaw16.SegBytes", spec := "segBytes", inPlace := ["internal/abi.NoEscape"], recurses := true, named := ["stairwell/crc.laid"], apart := false, laid := [("stairwell/crc.laid", laid_stairwell_crc_laid)] }
def SegBytesSaid : Prop := segBytesRow.holds Tryd.pinned (OpenSpec.ofChange segBytesSpec)

/-- ITS FALSE NEIGHBOUR: 'it returns false'. Refute it at one input. -/
def segBytesWrong : ChangeSpec := { name := "segBytes", fn := fun _ => fun
  | [d1, d2] => { results := [.lit (.bool false)], args := [d1, d2] }
  | _ => none }
def SegBytesWrongFalsely : Prop := segBytesRow.holds Tryd.pinned (OpenSpec.ofChange segBytesWrong)

/-- 'stairwelllaw16.SegNexts': WHATEVER THE INPUT: true; the input reads as it did. -/
def segNextsSpec : ChangeSpec := { name := "segNexts", fn := fun _ => fun
  | [d] => { results := [.lit (.bool true)], args := [d] }
  | _ => none }
def segNextsRow : OpenClaim := { program := "ytopacbmdoognjaadoor", sum := "7fd9e043fdde9ddaf1ff1fc5bbe24391e9ee80fa18838da231525fbaf2d2abc7", func := "stairwell/stairwelllaw16.SegNexts", spec := "segNexts", inPlace := ["internal/abi.NoEscape"], recurses := true, named := ["stairwell/crc.laid"], apart := false, laid := [("stairwell/crc.laid", laid_stairwell_crc_laid)] }
def SegNextsSaid : Prop := segNextsRow.holds Tryd.pinned (OpenSpec.ofChange segNextsSpec)

/-- ITS FALSE NEIGHBOUR: 'it returns false'. Refute it at one input. -/
def segNextsWrong : ChangeSpec := { name := "segNexts", fn := fun _ => fun
  | [d] => { results := [.lit (.bool false)], args := [d] }
  | _ => none }
def SegNextsWrongFalsely : Prop := segNextsRow.holds Tryd.pinned (OpenSpec.ofChange segNextsWrong)

/-- 'stairwelllaw16.SegFalls': WHATEVER THE INPUT: true; the input reads as it did. -/
def segFallsSpec : ChangeSpec := { name := "segFalls", fn := fun _ => fun
  | [d1, d2, d3] => { results := [.lit (.bool true)], args := [d1, d2, d3] }
  | _ => none }
def segFallsRow : OpenClaim := { program := "ytopacbmdoognjaadoor", sum := "7fd9e043fdde9ddaf1ff1fc5bbe24391e9ee80fa18838da231525fbaf2d2abc7", func := "stairwell/stairwelllaw16.SegFalls", spec := "segFalls", inPlace := ["internal/abi.NoEscape"], named := ["stairwell/crc.laid"], apart := false, laid := [("stairwell/crc.laid", laid_stairwell_crc_laid)] }
def SegFallsSaid : Prop := segFallsRow.holds Tryd.pinned (OpenSpec.ofChange segFallsSpec)

/-- ITS FALSE NEIGHBOUR: 'it returns false'. Refute it at one input. -/
def segFallsWrong : ChangeSpec := { name := "segFalls", fn := fun _ => fun
  | [d1, d2, d3] => { results := [.lit (.bool false)], args := [d1, d2, d3] }
  | _ => none }
def SegFallsWrongFalsely : Prop := segFallsRow.holds Tryd.pinned (OpenSpec.ofChange segFallsWrong)

/-- 'stairwelllaw16.SegJoins': WHATEVER THE INPUT: true; the input reads as it did. -/
def segJoinsSpec : ChangeSpec := { name := "segJoins", fn := fun _ => fun
  | [d1, d2] => { results := [.lit (.bool true)], args := [d1, d2] }
  | _ => none }
def segJoinsRow : OpenClaim := { program := "ytopacbmdoognjaadoor", sum := "7fd9e043fdde9ddaf1ff1fc5bbe24391e9ee80fa18838da231525fbaf2d2abc7", func := "stairwell/stairwelllaw16.SegJoins", spec := "segJoins", inPlace := ["internal/abi.NoEscape"], named := ["stairwell/crc.laid"], apart := false, laid := [("stairwell/crc.laid", laid_stairwell_crc_laid)] }
def SegJoinsSaid : Prop := segJoinsRow.holds Tryd.pinned (OpenSpec.ofChange segJoinsSpec)

/-- ITS FALSE NEIGHBOUR: 'it returns false'. Refute it at one input. -/
def segJoinsWrong : ChangeSpec := { name := "segJoins", fn := fun _ => fun
  | [d1, d2] => { results := [.lit (.bool false)], args := [d1, d2] }
  | _ => none }
def SegJoinsWrongFalsely : Prop := segJoinsRow.holds Tryd.pinned (OpenSpec.ofChange segJoinsWrong)

/-- 'stairwelllaw08.FeedTakes': WHATEVER THE INPUT: true; the input reads as it did. -/
def feedTakesSpec : ChangeSpec := { name := "feedTakes", fn := fun _ => fun
  | [d] => { results := [.lit (.bool true)], args := [d] }
  | _ => none }
def feedTakesRow : OpenClaim := { program := "ytopacbmdoognjaadoor", sum := "7fd9e043fdde9ddaf1ff1fc5bbe24391e9ee80fa18838da231525fbaf2d2abc7", func := "stairwell/stairwelllaw08.FeedTakes", spec := "feedTakes", inPlace := ["internal/abi.NoEscape"], unfollowed := true, recurses := true, named := ["stairwell/crc.laid"], apart := false, laid := [("stairwell/crc.laid", laid_stairwell_crc_laid)] }
def FeedTakesSaid : Prop := feedTakesRow.holds Tryd.pinned (OpenSpec.ofChange feedTakesSpec)

/-- ITS FALSE NEIGHBOUR: 'it returns false'. Refute it at one input. -/
def feedTakesWrong : ChangeSpec := { name := "feedTakes", fn := fun _ => fun
  | [d] => { results := [.lit (.bool false)], args := [d] }
  | _ => none }
def FeedTakesWrongFalsely : Prop := feedTakesRow.holds Tryd.pinned (OpenSpec.ofChange feedTakesWrong)

/-- 'stairwelllaw08.FeedFrames': WHATEVER THE INPUT: true; the input reads as it did. -/
def feedFramesSpec : ChangeSpec := { name := "feedFrames", fn := fun _ => fun
  | [d] => { results := [.lit (.bool true)], args := [d] }
  | _ => none }
def feedFramesRow : OpenClaim := { program := "ytopacbmdoognjaadoor", sum := "7fd9e043fdde9ddaf1ff1fc5bbe24391e9ee80fa18838da231525fbaf2d2abc7", func := "stairwell/stairwelllaw08.FeedFrames", spec := "feedFrames", inPlace := ["internal/abi.NoEscape"], unfollowed := true, recurses := true, named := ["stairwell/crc.laid"], apart := false, laid := [("stairwell/crc.laid", laid_stairwell_crc_laid)] }
def FeedFramesSaid : Prop := feedFramesRow.holds Tryd.pinned (OpenSpec.ofChange feedFramesSpec)

/-- ITS FALSE NEIGHBOUR: 'it returns false'. Refute it at one input. -/
def feedFramesWrong : ChangeSpec := { name := "feedFrames", fn := fun _ => fun
  | [d] => { results := [.lit (.bool false)], args := [d] }
  | _ => none }
def FeedFramesWrongFalsely : Prop := feedFramesRow.holds Tryd.pinned (OpenSpec.ofChange feedFramesWrong)

/-- 'stairwelllaw08.FeedCuts': WHATEVER THE INPUT: true; the input reads as it did. -/
def feedCutsSpec : ChangeSpec := { name := "feedCuts", fn := fun _ => fun
  | [d1, d2] => { results := [.lit (.bool true)], args := [d1, d2] }
  | _ => none }
def feedCutsRow : OpenClaim := { program := "ytopacbmdoognjaadoor", sum := "7fd9e043fdde9ddaf1ff1fc5bbe24391e9ee80fa18838da231525fbaf2d2abc7", func := "stairwell/stairwelllaw08.FeedCuts", spec := "feedCuts", inPlace := ["internal/abi.NoEscape"], unfollowed := true, recurses := true, named := ["stairwell/crc.laid"], apart := false, laid := [("stairwell/crc.laid", laid_stairwell_crc_laid)] }
def FeedCutsSaid : Prop := feedCutsRow.holds Tryd.pinned (OpenSpec.ofChange feedCutsSpec)

/-- ITS FALSE NEIGHBOUR: 'it returns false'. Refute it at one input. -/
def feedCutsWrong : ChangeSpec := { name := "feedCuts", fn := fun _ => fun
  | [d1, d2] => { results := [.lit (.bool false)], args := [d1, d2] }
  | _ => none }
def FeedCutsWrongFalsely : Prop := feedCutsRow.holds Tryd.pinned (OpenSpec.ofChange feedCutsWrong)

/-- 'stairwelllaw07.FrameBytes': WHATEVER THE INPUT: true; the input reads as it did. -/
def frameBytesSpec : ChangeSpec := { name := "frameBytes", fn := fun _ => fun
  | [d1, d2, d3] => { results := [.lit (.bool true)], args := [d1, d2, d3] }
  | _ => none }
def frameBytesRow : OpenClaim := { program := "ytopacbmdoognjaadoor", sum := "7fd9e043fdde9ddaf1ff1fc5bbe24391e9ee80fa18838da231525fbaf2d2abc7", func := "stairwell/stairwelllaw07.FrameBytes", spec := "frameBytes", inPlace := ["internal/abi.NoEscape", "internal/bytealg.MakeNoZero"], recurses := true, named := ["stairwell/crc.laid"], apart := false, laid := [("stairwell/crc.laid", laid_stairwell_crc_laid)] }
def FrameBytesSaid : Prop := frameBytesRow.holds Tryd.pinned (OpenSpec.ofChange frameBytesSpec)

/-- ITS FALSE NEIGHBOUR: 'it returns false'. Refute it at one input. -/
def frameBytesWrong : ChangeSpec := { name := "frameBytes", fn := fun _ => fun
  | [d1, d2, d3] => { results := [.lit (.bool false)], args := [d1, d2, d3] }
  | _ => none }
def FrameBytesWrongFalsely : Prop := frameBytesRow.holds Tryd.pinned (OpenSpec.ofChange frameBytesWrong)

/-- 'stairwelllaw17.WalOpens': WHATEVER THE INPUT: true; the input reads as it did. -/
def walOpensSpec : ChangeSpec := { name := "walOpens", fn := fun _ => fun
  | [d1, d2] => { results := [.lit (.bool true)], args := [d1, d2] }
  | _ => none }
def walOpensRow : OpenClaim := { program := "ytopacbmdoognjaadoor", sum := "7fd9e043fdde9ddaf1ff1fc5bbe24391e9ee80fa18838da231525fbaf2d2abc7", func := "stairwell/stairwelllaw17.WalOpens", spec := "walOpens", inPlace := ["internal/abi.NoEscape", "internal/bytealg.MakeNoZero"], recurses := true, named := ["stairwell/crc.laid"], apart := false, laid := [("stairwell/crc.laid", laid_stairwell_crc_laid)] }
def WalOpensSaid : Prop := walOpensRow.holds Tryd.pinned (OpenSpec.ofChange walOpensSpec)

/-- ITS FALSE NEIGHBOUR: 'it returns false'. Refute it at one input. -/
def walOpensWrong : ChangeSpec := { name := "walOpens", fn := fun _ => fun
  | [d1, d2] => { results := [.lit (.bool false)], args := [d1, d2] }
  | _ => none }
def WalOpensWrongFalsely : Prop := walOpensRow.holds Tryd.pinned (OpenSpec.ofChange walOpensWrong)

/-- 'stairwelllaw17.WalRoom': WHATEVER THE INPUT: true; the input reads as it did. -/
def walRoomSpec : ChangeSpec := { name := "walRoom", fn := fun _ => fun
  | [d] => { results := [.lit (.bool true)], args := [d] }
  | _ => none }
def walRoomRow : OpenClaim := { program := "ytopacbmdoognjaadoor", sum := "7fd9e043fdde9ddaf1ff1fc5bbe24391e9ee80fa18838da231525fbaf2d2abc7", func := "stairwell/stairwelllaw17.WalRoom", spec := "walRoom", inPlace := ["internal/abi.NoEscape", "internal/bytealg.MakeNoZero"], named := ["stairwell/crc.laid"], apart := false, laid := [("stairwell/crc.laid", laid_stairwell_crc_laid)] }
def WalRoomSaid : Prop := walRoomRow.holds Tryd.pinned (OpenSpec.ofChange walRoomSpec)

/-- ITS FALSE NEIGHBOUR: 'it returns false'. Refute it at one input. -/
def walRoomWrong : ChangeSpec := { name := "walRoom", fn := fun _ => fun
  | [d] => { results := [.lit (.bool false)], args := [d] }
  | _ => none }
def WalRoomWrongFalsely : Prop := walRoomRow.holds Tryd.pinned (OpenSpec.ofChange walRoomWrong)

/-- 'stairwelllaw17.WalFalls': WHATEVER THE INPUT: true; the input reads as it did. -/
def walFallsSpec : ChangeSpec := { name := "walFalls", fn := fun _ => fun
  | [d] => { results := [.lit (.bool true)], args := [d] }
  | _ => none }
def walFallsRow : OpenClaim := { program := "ytopacbmdoognjaadoor", sum := "7fd9e043fdde9ddaf1ff1fc5bbe24391e9ee80fa18838da231525fbaf2d2abc7", func := "stairwell/stairwelllaw17.WalFalls", spec := "walFalls", inPlace := ["internal/abi.NoEscape", "internal/bytealg.MakeNoZero"], named := ["stairwell/crc.laid"], apart := false, laid := [("stairwell/crc.laid", laid_stairwell_crc_laid)] }
def WalFallsSaid : Prop := walFallsRow.holds Tryd.pinned (OpenSpec.ofChange walFallsSpec)

/-- ITS FALSE NEIGHBOUR: 'it returns false'. Refute it at one input. -/
def walFallsWrong : ChangeSpec := { name := "walFalls", fn := fun _ => fun
  | [d] => { results := [.lit (.bool false)], args := [d] }
  | _ => none }
def WalFallsWrongFalsely : Prop := walFallsRow.holds Tryd.pinned (OpenSpec.ofChange walFallsWrong)

/- THE SECOND FORM. 'bulk': how many values and letters a reading holds, each counted each time it is reached (what is shared counts as often as it is met; a slice's spare places count too). A statement '..UptoSaid' is the law's where the arguments, and the package variables that the reading takes, are together of bulk at most 1048576: NARROWER than '..Said'. Prove '..Said' where nothing that the law and all that it calls make is longer than what came in: it says more and counts as full. Else prove '..UptoSaid'. A law counts once. -/
mutual
def uptoBulk {H : Type} : DataW H → Nat
  | .lit (.string bytes) => bytes.length + 1
  | .lit _ => 1
  | .nil => 1
  | .ptr d => uptoBulk d + 1
  | .slice elems spare => uptoBulkAll elems + uptoBulkAll spare + 1
  | .agg parts => uptoBulkAll parts + 1
  | .iface _ d => uptoBulk d + 1
  | .map entries => uptoBulkEntries entries + 1
  | .held _ => 1
def uptoBulkAll {H : Type} : List (DataW H) → Nat
  | [] => 0
  | d :: r => uptoBulk d + uptoBulkAll r
def uptoBulkEntries {H : Type} : List (Lit × DataW H) → Nat
  | [] => 0
  | x :: r => uptoBulkEntry x + uptoBulkEntries r
def uptoBulkEntry {H : Type} : Lit × DataW H → Nat
  | (.string bytes, d) => bytes.length + uptoBulk d + 1
  | (_, d) => uptoBulk d + 1
 end
def uptoSmall : (H : Type) → List (DataW H) → Bool := fun _ ds => decide (uptoBulkAll ds ≤ 1048576)
def OpenSpec.upto (s : _root_.Go.ChangeSpec) : _root_.Go.OpenSpec := { _root_.Go.OpenSpec.ofChange s with cond := some uptoSmall }

/-- 'stairwelllaw02.CrcSums', WHERE WHAT IT READS IS OF BULK AT MOST 1048576: true; the input reads as it did. -/
def crcSumsUptoRow : OpenClaim := { program := "ytopacbmdoognjaadoor", sum := "7fd9e043fdde9ddaf1ff1fc5bbe24391e9ee80fa18838da231525fbaf2d2abc7", func := "stairwell/stairwelllaw02.CrcSums", spec := "crcSums", named := ["stairwell/crc.laid"], apart := false, laid := [("stairwell/crc.laid", laid_stairwell_crc_laid)], narrowed := true }
def CrcSumsUptoSaid : Prop := crcSumsUptoRow.holds Tryd.pinned (OpenSpec.upto crcSumsSpec)

/-- 'stairwelllaw02.CrcSteps', WHERE WHAT IT READS IS OF BULK AT MOST 1048576: true; the input reads as it did. -/
def crcStepsUptoRow : OpenClaim := { program := "ytopacbmdoognjaadoor", sum := "7fd9e043fdde9ddaf1ff1fc5bbe24391e9ee80fa18838da231525fbaf2d2abc7", func := "stairwell/stairwelllaw02.CrcSteps", spec := "crcSteps", named := ["stairwell/crc.laid"], apart := false, laid := [("stairwell/crc.laid", laid_stairwell_crc_laid)], narrowed := true }
def CrcStepsUptoSaid : Prop := crcStepsUptoRow.holds Tryd.pinned (OpenSpec.upto crcStepsSpec)

/-- 'stairwelllaw02.CrcApart', WHERE WHAT IT READS IS OF BULK AT MOST 1048576: true; the input reads as it did. -/
def crcApartUptoRow : OpenClaim := { program := "ytopacbmdoognjaadoor", sum := "7fd9e043fdde9ddaf1ff1fc5bbe24391e9ee80fa18838da231525fbaf2d2abc7", func := "stairwell/stairwelllaw02.CrcApart", spec := "crcApart", named := ["stairwell/crc.laid"], apart := false, laid := [("stairwell/crc.laid", laid_stairwell_crc_laid)], narrowed := true }
def CrcApartUptoSaid : Prop := crcApartUptoRow.holds Tryd.pinned (OpenSpec.upto crcApartSpec)

/-- 'stairwelllaw02.CrcTurned', WHERE WHAT IT READS IS OF BULK AT MOST 1048576: true; the input reads as it did. -/
def crcTurnedUptoRow : OpenClaim := { program := "ytopacbmdoognjaadoor", sum := "7fd9e043fdde9ddaf1ff1fc5bbe24391e9ee80fa18838da231525fbaf2d2abc7", func := "stairwell/stairwelllaw02.CrcTurned", spec := "crcTurned", named := ["stairwell/crc.laid"], apart := false, laid := [("stairwell/crc.laid", laid_stairwell_crc_laid)], narrowed := true }
def CrcTurnedUptoSaid : Prop := crcTurnedUptoRow.holds Tryd.pinned (OpenSpec.upto crcTurnedSpec)

/-- 'stairwelllaw07.FrameParses', WHERE WHAT IT READS IS OF BULK AT MOST 1048576: true; the input reads as it did. -/
def frameParsesUptoRow : OpenClaim := { program := "ytopacbmdoognjaadoor", sum := "7fd9e043fdde9ddaf1ff1fc5bbe24391e9ee80fa18838da231525fbaf2d2abc7", func := "stairwell/stairwelllaw07.FrameParses", spec := "frameParses", inPlace := ["internal/abi.NoEscape"], recurses := true, named := ["stairwell/crc.laid"], apart := false, laid := [("stairwell/crc.laid", laid_stairwell_crc_laid)], narrowed := true }
def FrameParsesUptoSaid : Prop := frameParsesUptoRow.holds Tryd.pinned (OpenSpec.upto frameParsesSpec)

/-- 'stairwelllaw07.FrameTurned', WHERE WHAT IT READS IS OF BULK AT MOST 1048576: true; the input reads as it did. -/
def frameTurnedUptoRow : OpenClaim := { program := "ytopacbmdoognjaadoor", sum := "7fd9e043fdde9ddaf1ff1fc5bbe24391e9ee80fa18838da231525fbaf2d2abc7", func := "stairwell/stairwelllaw07.FrameTurned", spec := "frameTurned", inPlace := ["internal/abi.NoEscape"], named := ["stairwell/crc.laid"], apart := false, laid := [("stairwell/crc.laid", laid_stairwell_crc_laid)], narrowed := true }
def FrameTurnedUptoSaid : Prop := frameTurnedUptoRow.holds Tryd.pinned (OpenSpec.upto frameTurnedSpec)

/-- 'stairwelllaw07.FrameShort', WHERE WHAT IT READS IS OF BULK AT MOST 1048576: true; the input reads as it did. -/
def frameShortUptoRow : OpenClaim := { program := "ytopacbmdoognjaadoor", sum := "7fd9e043fdde9ddaf1ff1fc5bbe24391e9ee80fa18838da231525fbaf2d2abc7", func := "stairwell/stairwelllaw07.FrameShort", spec := "frameShort", inPlace := ["internal/abi.NoEscape"], named := ["stairwell/crc.laid"], apart := false, laid := [("stairwell/crc.laid", laid_stairwell_crc_laid)], narrowed := true }
def FrameShortUptoSaid : Prop := frameShortUptoRow.holds Tryd.pinned (OpenSpec.upto frameShortSpec)

/-- 'stairwelllaw16.SegLong', WHERE WHAT IT READS IS OF BULK AT MOST 1048576: true; the input reads as it did. -/
def segLongUptoRow : OpenClaim := { program := "ytopacbmdoognjaadoor", sum := "7fd9e043fdde9ddaf1ff1fc5bbe24391e9ee80fa18838da231525fbaf2d2abc7", func := "stairwell/stairwelllaw16.SegLong", spec := "segLong", inPlace := ["internal/abi.NoEscape"], named := ["stairwell/crc.laid"], apart := false, laid := [("stairwell/crc.laid", laid_stairwell_crc_laid)], narrowed := true }
def SegLongUptoSaid : Prop := segLongUptoRow.holds Tryd.pinned (OpenSpec.upto segLongSpec)

/-- 'stairwelllaw16.SegBytes', WHERE WHAT IT READS IS OF BULK AT MOST 1048576: true; the input reads as it did. -/
def segBytesUptoRow : OpenClaim := { program := "ytopacbmdoognjaadoor", sum := "7fd9e043fdde9ddaf1ff1fc5bbe24391e9ee80fa18838da231525fbaf2d2abc7", func := "stairwell/stairwelllaw16.SegBytes", spec := "segBytes", inPlace := ["internal/abi.NoEscape"], recurses := true, named := ["stairwell/crc.laid"], apart := false, laid := [("stairwell/crc.laid", laid_stairwell_crc_laid)], narrowed := true }
def SegBytesUptoSaid : Prop := segBytesUptoRow.holds Tryd.pinned (OpenSpec.upto segBytesSpec)

/-- 'stairwelllaw16.SegNexts', WHERE WHAT IT READS IS OF BULK AT MOST 1048576: true; the input reads as it did. -/
def segNextsUptoRow : OpenClaim := { program := "ytopacbmdoognjaadoor", sum := "7fd9e043fdde9ddaf1ff1fc5bbe24391e9ee80fa18838da231525fbaf2d2abc7", func := "stairwell/stairwelllaw16.SegNexts", spec := "segNexts", inPlace := ["internal/abi.NoEscape"], recurses := true, named := ["stairwell/crc.laid"], apart := false, laid := [("stairwell/crc.laid", laid_stairwell_crc_laid)], narrowed := true }
def SegNextsUptoSaid : Prop := segNextsUptoRow.holds Tryd.pinned (OpenSpec.upto segNextsSpec)

/-- 'stairwelllaw16.SegFalls', WHERE WHAT IT READS IS OF BULK AT MOST 1048576: true; the input reads as it did. -/
def segFallsUptoRow : OpenClaim := { program := "ytopacbmdoognjaadoor", sum := "7fd9e043fdde9ddaf1ff1fc5bbe24391e9ee80fa18838da231525fbaf2d2abc7", func := "stairwell/stairwelllaw16.SegFalls", spec := "segFalls", inPlace := ["internal/abi.NoEscape"], named := ["stairwell/crc.laid"], apart := false, laid := [("stairwell/crc.laid", laid_stairwell_crc_laid)], narrowed := true }
def SegFallsUptoSaid : Prop := segFallsUptoRow.holds Tryd.pinned (OpenSpec.upto segFallsSpec)

/-- 'stairwelllaw16.SegJoins', WHERE WHAT IT READS IS OF BULK AT MOST 1048576: true; the input reads as it did. -/
def segJoinsUptoRow : OpenClaim := { program := "ytopacbmdoognjaadoor", sum := "7fd9e043fdde9ddaf1ff1fc5bbe24391e9ee80fa18838da231525fbaf2d2abc7", func := "stairwell/stairwelllaw16.SegJoins", spec := "segJoins", inPlace := ["internal/abi.NoEscape"], named := ["stairwell/crc.laid"], apart := false, laid := [("stairwell/crc.laid", laid_stairwell_crc_laid)], narrowed := true }
def SegJoinsUptoSaid : Prop := segJoinsUptoRow.holds Tryd.pinned (OpenSpec.upto segJoinsSpec)

/-- 'stairwelllaw08.FeedTakes', WHERE WHAT IT READS IS OF BULK AT MOST 1048576: true; the input reads as it did. -/
def feedTakesUptoRow : OpenClaim := { program := "ytopacbmdoognjaadoor", sum := "7fd9e043fdde9ddaf1ff1fc5bbe24391e9ee80fa18838da231525fbaf2d2abc7", func := "stairwell/stairwelllaw08.FeedTakes", spec := "feedTakes", inPlace := ["internal/abi.NoEscape"], unfollowed := true, recurses := true, named := ["stairwell/crc.laid"], apart := false, laid := [("stairwell/crc.laid", laid_stairwell_crc_laid)], narrowed := true }
def FeedTakesUptoSaid : Prop := feedTakesUptoRow.holds Tryd.pinned (OpenSpec.upto feedTakesSpec)

/-- 'stairwelllaw08.FeedFrames', WHERE WHAT IT READS IS OF BULK AT MOST 1048576: true; the input reads as it did. -/
def feedFramesUptoRow : OpenClaim := { program := "ytopacbmdoognjaadoor", sum := "7fd9e043fdde9ddaf1ff1fc5bbe24391e9ee80fa18838da231525fbaf2d2abc7", func := "stairwell/stairwelllaw08.FeedFrames", spec := "feedFrames", inPlace := ["internal/abi.NoEscape"], unfollowed := true, recurses := true, named := ["stairwell/crc.laid"], apart := false, laid := [("stairwell/crc.laid", laid_stairwell_crc_laid)], narrowed := true }
def FeedFramesUptoSaid : Prop := feedFramesUptoRow.holds Tryd.pinned (OpenSpec.upto feedFramesSpec)

/-- 'stairwelllaw08.FeedCuts', WHERE WHAT IT READS IS OF BULK AT MOST 1048576: true; the input reads as it did. -/
def feedCutsUptoRow : OpenClaim := { program := "ytopacbmdoognjaadoor", sum := "7fd9e043fdde9ddaf1ff1fc5bbe24391e9ee80fa18838da231525fbaf2d2abc7", func := "stairwell/stairwelllaw08.FeedCuts", spec := "feedCuts", inPlace := ["internal/abi.NoEscape"], unfollowed := true, recurses := true, named := ["stairwell/crc.laid"], apart := false, laid := [("stairwell/crc.laid", laid_stairwell_crc_laid)], narrowed := true }
def FeedCutsUptoSaid : Prop := feedCutsUptoRow.holds Tryd.pinned (OpenSpec.upto feedCutsSpec)

/-- 'stairwelllaw07.FrameBytes', WHERE WHAT IT READS IS OF BULK AT MOST 1048576: true; the input reads as it did. -/
def frameBytesUptoRow : OpenClaim := { program := "ytopacbmdoognjaadoor", sum := "7fd9e043fdde9ddaf1ff1fc5bbe24391e9ee80fa18838da231525fbaf2d2abc7", func := "stairwell/stairwelllaw07.FrameBytes", spec := "frameBytes", inPlace := ["internal/abi.NoEscape", "internal/bytealg.MakeNoZero"], recurses := true, named := ["stairwell/crc.laid"], apart := false, laid := [("stairwell/crc.laid", laid_stairwell_crc_laid)], narrowed := true }
def FrameBytesUptoSaid : Prop := frameBytesUptoRow.holds Tryd.pinned (OpenSpec.upto frameBytesSpec)

/-- 'stairwelllaw17.WalOpens', WHERE WHAT IT READS IS OF BULK AT MOST 1048576: true; the input reads as it did. -/
def walOpensUptoRow : OpenClaim := { program := "ytopacbmdoognjaadoor", sum := "7fd9e043fdde9ddaf1ff1fc5bbe24391e9ee80fa18838da231525fbaf2d2abc7", func := "stairwell/stairwelllaw17.WalOpens", spec := "walOpens", inPlace := ["internal/abi.NoEscape", "internal/bytealg.MakeNoZero"], recurses := true, named := ["stairwell/crc.laid"], apart := false, laid := [("stairwell/crc.laid", laid_stairwell_crc_laid)], narrowed := true }
def WalOpensUptoSaid : Prop := walOpensUptoRow.holds Tryd.pinned (OpenSpec.upto walOpensSpec)

/-- 'stairwelllaw17.WalRoom', WHERE WHAT IT READS IS OF BULK AT MOST 1048576: true; the input reads as it did. -/
def walRoomUptoRow : OpenClaim := { program := "ytopacbmdoognjaadoor", sum := "7fd9e043fdde9ddaf1ff1fc5bbe24391e9ee80fa18838da231525fbaf2d2abc7", func := "stairwell/stairwelllaw17.WalRoom", spec := "walRoom", inPlace := ["internal/abi.NoEscape", "internal/bytealg.MakeNoZero"], named := ["stairwell/crc.laid"], apart := false, laid := [("stairwell/crc.laid", laid_stairwell_crc_laid)], narrowed := true }
def WalRoomUptoSaid : Prop := walRoomUptoRow.holds Tryd.pinned (OpenSpec.upto walRoomSpec)

/-- 'stairwelllaw17.WalFalls', WHERE WHAT IT READS IS OF BULK AT MOST 1048576: true; the input reads as it did. -/
def walFallsUptoRow : OpenClaim := { program := "ytopacbmdoognjaadoor", sum := "7fd9e043fdde9ddaf1ff1fc5bbe24391e9ee80fa18838da231525fbaf2d2abc7", func := "stairwell/stairwelllaw17.WalFalls", spec := "walFalls", inPlace := ["internal/abi.NoEscape", "internal/bytealg.MakeNoZero"], named := ["stairwell/crc.laid"], apart := false, laid := [("stairwell/crc.laid", laid_stairwell_crc_laid)], narrowed := true }
def WalFallsUptoSaid : Prop := walFallsUptoRow.holds Tryd.pinned (OpenSpec.upto walFallsSpec)

end Rows
end Go.Proofs.YtopacbmdoognjaaDoor
