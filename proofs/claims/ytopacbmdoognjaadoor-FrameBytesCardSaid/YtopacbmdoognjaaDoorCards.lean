/-
  DERIVED. GIVEN WITH THE SEED: THE CARDS: each row of YtopacbmdoognjaaDoorRows.lean that lists a variable, with what it lists TIED to the program's text (the seventh form; the later family's looks); each row that meets fmt, with fmt's text TOLD by the authors' own Lean function (tested against real Go, not proved from fmt's source: count such statements apart). THE CARD IS WHAT COUNTS. Prove the row's statement (the work); the ties are given (YtopacbmdoognjaaDoorTie.lean); close each card by the builder's one call (the guide's Derived/Test/ToyasCard.lean, 'card_holds'). Laid BY PROGRAM, IN A SANDBOX (cutbox-door.mjs). By AI agents, Wed Nov 11 2026. No macro, syntax, notation, axiom, sorry.
-/
import Derived.Test.YtopacbmdoognjaaDoorRows
import GoSem.ClaimSeven
namespace Go.Proofs.YtopacbmdoognjaaDoor
namespace Rows

/-- THE TIED CARD OF 'stairwelllaw02.CrcSums'. -/
def crcSumsCard : Claim7 := { stood := { row := crcSumsRow, standIns := [], harness := (true, "8faeceadac9fb5eae6759606603ada114cdd8523e89f22bb6cf7bd28d7a488fe"), looks := false }, kinds := [], alts := [], laidByText := true, laidKinds := [.data], laidTests := true, laidLooks := .later }
def CrcSumsCardSaid : Prop := Claim7.holds Tryd.pinned (.plain (OpenSpec.ofChange crcSumsSpec)) crcSumsCard

/-- THE TIED CARD OF 'stairwelllaw02.CrcSteps'. -/
def crcStepsCard : Claim7 := { stood := { row := crcStepsRow, standIns := [], harness := (true, "8faeceadac9fb5eae6759606603ada114cdd8523e89f22bb6cf7bd28d7a488fe"), looks := false }, kinds := [], alts := [], laidByText := true, laidKinds := [.data], laidTests := true, laidLooks := .later }
def CrcStepsCardSaid : Prop := Claim7.holds Tryd.pinned (.plain (OpenSpec.ofChange crcStepsSpec)) crcStepsCard

/-- THE TIED CARD OF 'stairwelllaw02.CrcApart'. -/
def crcApartCard : Claim7 := { stood := { row := crcApartRow, standIns := [], harness := (true, "8faeceadac9fb5eae6759606603ada114cdd8523e89f22bb6cf7bd28d7a488fe"), looks := false }, kinds := [], alts := [], laidByText := true, laidKinds := [.data], laidTests := true, laidLooks := .later }
def CrcApartCardSaid : Prop := Claim7.holds Tryd.pinned (.plain (OpenSpec.ofChange crcApartSpec)) crcApartCard

/-- THE TIED CARD OF 'stairwelllaw02.CrcTurned'. -/
def crcTurnedCard : Claim7 := { stood := { row := crcTurnedRow, standIns := [], harness := (true, "8faeceadac9fb5eae6759606603ada114cdd8523e89f22bb6cf7bd28d7a488fe"), looks := false }, kinds := [], alts := [], laidByText := true, laidKinds := [.data], laidTests := true, laidLooks := .later }
def CrcTurnedCardSaid : Prop := Claim7.holds Tryd.pinned (.plain (OpenSpec.ofChange crcTurnedSpec)) crcTurnedCard

/-- THE TIED CARD OF 'stairwelllaw07.FrameParses'. -/
def frameParsesCard : Claim7 := { stood := { row := frameParsesRow, standIns := [], harness := (true, "8faeceadac9fb5eae6759606603ada114cdd8523e89f22bb6cf7bd28d7a488fe"), looks := false }, kinds := [], alts := [], laidByText := true, laidKinds := [.data], laidTests := true, laidLooks := .later }
def FrameParsesCardSaid : Prop := Claim7.holds Tryd.pinned (.plain (OpenSpec.ofChange frameParsesSpec)) frameParsesCard

/-- THE TIED CARD OF 'stairwelllaw07.FrameTurned'. -/
def frameTurnedCard : Claim7 := { stood := { row := frameTurnedRow, standIns := [], harness := (true, "8faeceadac9fb5eae6759606603ada114cdd8523e89f22bb6cf7bd28d7a488fe"), looks := false }, kinds := [], alts := [], laidByText := true, laidKinds := [.data], laidTests := true, laidLooks := .later }
def FrameTurnedCardSaid : Prop := Claim7.holds Tryd.pinned (.plain (OpenSpec.ofChange frameTurnedSpec)) frameTurnedCard

/-- THE TIED CARD OF 'stairwelllaw07.FrameShort'. -/
def frameShortCard : Claim7 := { stood := { row := frameShortRow, standIns := [], harness := (true, "8faeceadac9fb5eae6759606603ada114cdd8523e89f22bb6cf7bd28d7a488fe"), looks := false }, kinds := [], alts := [], laidByText := true, laidKinds := [.data], laidTests := true, laidLooks := .later }
def FrameShortCardSaid : Prop := Claim7.holds Tryd.pinned (.plain (OpenSpec.ofChange frameShortSpec)) frameShortCard

/-- THE TIED CARD OF 'stairwelllaw16.SegLong'. -/
def segLongCard : Claim7 := { stood := { row := segLongRow, standIns := [], harness := (true, "8faeceadac9fb5eae6759606603ada114cdd8523e89f22bb6cf7bd28d7a488fe"), looks := false }, kinds := [], alts := [], laidByText := true, laidKinds := [.data], laidTests := true, laidLooks := .later }
def SegLongCardSaid : Prop := Claim7.holds Tryd.pinned (.plain (OpenSpec.ofChange segLongSpec)) segLongCard

/-- THE TIED CARD OF 'stairwelllaw16.SegBytes'. -/
def segBytesCard : Claim7 := { stood := { row := segBytesRow, standIns := [], harness := (true, "8faeceadac9fb5eae6759606603ada114cdd8523e89f22bb6cf7bd28d7a488fe"), looks := false }, kinds := [], alts := [], laidByText := true, laidKinds := [.data], laidTests := true, laidLooks := .later }
def SegBytesCardSaid : Prop := Claim7.holds Tryd.pinned (.plain (OpenSpec.ofChange segBytesSpec)) segBytesCard

/-- THE TIED CARD OF 'stairwelllaw16.SegNexts'. -/
def segNextsCard : Claim7 := { stood := { row := segNextsRow, standIns := [], harness := (true, "8faeceadac9fb5eae6759606603ada114cdd8523e89f22bb6cf7bd28d7a488fe"), looks := false }, kinds := [], alts := [], laidByText := true, laidKinds := [.data], laidTests := true, laidLooks := .later }
def SegNextsCardSaid : Prop := Claim7.holds Tryd.pinned (.plain (OpenSpec.ofChange segNextsSpec)) segNextsCard

/-- THE TIED CARD OF 'stairwelllaw16.SegFalls'. -/
def segFallsCard : Claim7 := { stood := { row := segFallsRow, standIns := [], harness := (true, "8faeceadac9fb5eae6759606603ada114cdd8523e89f22bb6cf7bd28d7a488fe"), looks := false }, kinds := [], alts := [], laidByText := true, laidKinds := [.data], laidTests := true, laidLooks := .later }
def SegFallsCardSaid : Prop := Claim7.holds Tryd.pinned (.plain (OpenSpec.ofChange segFallsSpec)) segFallsCard

/-- THE TIED CARD OF 'stairwelllaw16.SegJoins'. -/
def segJoinsCard : Claim7 := { stood := { row := segJoinsRow, standIns := [], harness := (true, "8faeceadac9fb5eae6759606603ada114cdd8523e89f22bb6cf7bd28d7a488fe"), looks := false }, kinds := [], alts := [], laidByText := true, laidKinds := [.data], laidTests := true, laidLooks := .later }
def SegJoinsCardSaid : Prop := Claim7.holds Tryd.pinned (.plain (OpenSpec.ofChange segJoinsSpec)) segJoinsCard

/-- THE TIED CARD OF 'stairwelllaw08.FeedTakes'. -/
def feedTakesCard : Claim7 := { stood := { row := feedTakesRow, standIns := [], harness := (true, "8faeceadac9fb5eae6759606603ada114cdd8523e89f22bb6cf7bd28d7a488fe"), looks := false }, kinds := [], alts := [], laidByText := true, laidKinds := [.data], laidTests := true, laidLooks := .later }
def FeedTakesCardSaid : Prop := Claim7.holds Tryd.pinned (.plain (OpenSpec.ofChange feedTakesSpec)) feedTakesCard

/-- THE TIED CARD OF 'stairwelllaw08.FeedFrames'. -/
def feedFramesCard : Claim7 := { stood := { row := feedFramesRow, standIns := [], harness := (true, "8faeceadac9fb5eae6759606603ada114cdd8523e89f22bb6cf7bd28d7a488fe"), looks := false }, kinds := [], alts := [], laidByText := true, laidKinds := [.data], laidTests := true, laidLooks := .later }
def FeedFramesCardSaid : Prop := Claim7.holds Tryd.pinned (.plain (OpenSpec.ofChange feedFramesSpec)) feedFramesCard

/-- THE TIED CARD OF 'stairwelllaw08.FeedCuts'. -/
def feedCutsCard : Claim7 := { stood := { row := feedCutsRow, standIns := [], harness := (true, "8faeceadac9fb5eae6759606603ada114cdd8523e89f22bb6cf7bd28d7a488fe"), looks := false }, kinds := [], alts := [], laidByText := true, laidKinds := [.data], laidTests := true, laidLooks := .later }
def FeedCutsCardSaid : Prop := Claim7.holds Tryd.pinned (.plain (OpenSpec.ofChange feedCutsSpec)) feedCutsCard

/-- THE TIED CARD OF 'stairwelllaw07.FrameBytes'. -/
def frameBytesCard : Claim7 := { stood := { row := frameBytesRow, standIns := [], harness := (true, "8faeceadac9fb5eae6759606603ada114cdd8523e89f22bb6cf7bd28d7a488fe"), looks := false }, kinds := [], alts := [], laidByText := true, laidKinds := [.data], laidTests := true, laidLooks := .later }
def FrameBytesCardSaid : Prop := Claim7.holds Tryd.pinned (.plain (OpenSpec.ofChange frameBytesSpec)) frameBytesCard

/-- THE TIED CARD OF 'stairwelllaw17.WalOpens'. -/
def walOpensCard : Claim7 := { stood := { row := walOpensRow, standIns := [], harness := (true, "8faeceadac9fb5eae6759606603ada114cdd8523e89f22bb6cf7bd28d7a488fe"), looks := false }, kinds := [], alts := [], laidByText := true, laidKinds := [.data], laidTests := true, laidLooks := .later }
def WalOpensCardSaid : Prop := Claim7.holds Tryd.pinned (.plain (OpenSpec.ofChange walOpensSpec)) walOpensCard

/-- THE TIED CARD OF 'stairwelllaw17.WalRoom'. -/
def walRoomCard : Claim7 := { stood := { row := walRoomRow, standIns := [], harness := (true, "8faeceadac9fb5eae6759606603ada114cdd8523e89f22bb6cf7bd28d7a488fe"), looks := false }, kinds := [], alts := [], laidByText := true, laidKinds := [.data], laidTests := true, laidLooks := .later }
def WalRoomCardSaid : Prop := Claim7.holds Tryd.pinned (.plain (OpenSpec.ofChange walRoomSpec)) walRoomCard

/-- THE TIED CARD OF 'stairwelllaw17.WalFalls'. -/
def walFallsCard : Claim7 := { stood := { row := walFallsRow, standIns := [], harness := (true, "8faeceadac9fb5eae6759606603ada114cdd8523e89f22bb6cf7bd28d7a488fe"), looks := false }, kinds := [], alts := [], laidByText := true, laidKinds := [.data], laidTests := true, laidLooks := .later }
def WalFallsCardSaid : Prop := Claim7.holds Tryd.pinned (.plain (OpenSpec.ofChange walFallsSpec)) walFallsCard

/-- THE SECOND FORM's CARD OF 'stairwelllaw02.CrcSums'. -/
def crcSumsUptoCard : Claim7 := { stood := { row := crcSumsUptoRow, standIns := [], harness := (true, "8faeceadac9fb5eae6759606603ada114cdd8523e89f22bb6cf7bd28d7a488fe"), looks := false }, kinds := [], alts := [], laidByText := true, laidKinds := [.data], laidTests := true, laidLooks := .later }
def CrcSumsUptoCardSaid : Prop := Claim7.holds Tryd.pinned (.plain (OpenSpec.upto crcSumsSpec)) crcSumsUptoCard

/-- THE SECOND FORM's CARD OF 'stairwelllaw02.CrcSteps'. -/
def crcStepsUptoCard : Claim7 := { stood := { row := crcStepsUptoRow, standIns := [], harness := (true, "8faeceadac9fb5eae6759606603ada114cdd8523e89f22bb6cf7bd28d7a488fe"), looks := false }, kinds := [], alts := [], laidByText := true, laidKinds := [.data], laidTests := true, laidLooks := .later }
def CrcStepsUptoCardSaid : Prop := Claim7.holds Tryd.pinned (.plain (OpenSpec.upto crcStepsSpec)) crcStepsUptoCard

/-- THE SECOND FORM's CARD OF 'stairwelllaw02.CrcApart'. -/
def crcApartUptoCard : Claim7 := { stood := { row := crcApartUptoRow, standIns := [], harness := (true, "8faeceadac9fb5eae6759606603ada114cdd8523e89f22bb6cf7bd28d7a488fe"), looks := false }, kinds := [], alts := [], laidByText := true, laidKinds := [.data], laidTests := true, laidLooks := .later }
def CrcApartUptoCardSaid : Prop := Claim7.holds Tryd.pinned (.plain (OpenSpec.upto crcApartSpec)) crcApartUptoCard

/-- THE SECOND FORM's CARD OF 'stairwelllaw02.CrcTurned'. -/
def crcTurnedUptoCard : Claim7 := { stood := { row := crcTurnedUptoRow, standIns := [], harness := (true, "8faeceadac9fb5eae6759606603ada114cdd8523e89f22bb6cf7bd28d7a488fe"), looks := false }, kinds := [], alts := [], laidByText := true, laidKinds := [.data], laidTests := true, laidLooks := .later }
def CrcTurnedUptoCardSaid : Prop := Claim7.holds Tryd.pinned (.plain (OpenSpec.upto crcTurnedSpec)) crcTurnedUptoCard

/-- THE SECOND FORM's CARD OF 'stairwelllaw07.FrameParses'. -/
def frameParsesUptoCard : Claim7 := { stood := { row := frameParsesUptoRow, standIns := [], harness := (true, "8faeceadac9fb5eae6759606603ada114cdd8523e89f22bb6cf7bd28d7a488fe"), looks := false }, kinds := [], alts := [], laidByText := true, laidKinds := [.data], laidTests := true, laidLooks := .later }
def FrameParsesUptoCardSaid : Prop := Claim7.holds Tryd.pinned (.plain (OpenSpec.upto frameParsesSpec)) frameParsesUptoCard

/-- THE SECOND FORM's CARD OF 'stairwelllaw07.FrameTurned'. -/
def frameTurnedUptoCard : Claim7 := { stood := { row := frameTurnedUptoRow, standIns := [], harness := (true, "8faeceadac9fb5eae6759606603ada114cdd8523e89f22bb6cf7bd28d7a488fe"), looks := false }, kinds := [], alts := [], laidByText := true, laidKinds := [.data], laidTests := true, laidLooks := .later }
def FrameTurnedUptoCardSaid : Prop := Claim7.holds Tryd.pinned (.plain (OpenSpec.upto frameTurnedSpec)) frameTurnedUptoCard

/-- THE SECOND FORM's CARD OF 'stairwelllaw07.FrameShort'. -/
def frameShortUptoCard : Claim7 := { stood := { row := frameShortUptoRow, standIns := [], harness := (true, "8faeceadac9fb5eae6759606603ada114cdd8523e89f22bb6cf7bd28d7a488fe"), looks := false }, kinds := [], alts := [], laidByText := true, laidKinds := [.data], laidTests := true, laidLooks := .later }
def FrameShortUptoCardSaid : Prop := Claim7.holds Tryd.pinned (.plain (OpenSpec.upto frameShortSpec)) frameShortUptoCard

/-- THE SECOND FORM's CARD OF 'stairwelllaw16.SegLong'. -/
def segLongUptoCard : Claim7 := { stood := { row := segLongUptoRow, standIns := [], harness := (true, "8faeceadac9fb5eae6759606603ada114cdd8523e89f22bb6cf7bd28d7a488fe"), looks := false }, kinds := [], alts := [], laidByText := true, laidKinds := [.data], laidTests := true, laidLooks := .later }
def SegLongUptoCardSaid : Prop := Claim7.holds Tryd.pinned (.plain (OpenSpec.upto segLongSpec)) segLongUptoCard

/-- THE SECOND FORM's CARD OF 'stairwelllaw16.SegBytes'. -/
def segBytesUptoCard : Claim7 := { stood := { row := segBytesUptoRow, standIns := [], harness := (true, "8faeceadac9fb5eae6759606603ada114cdd8523e89f22bb6cf7bd28d7a488fe"), looks := false }, kinds := [], alts := [], laidByText := true, laidKinds := [.data], laidTests := true, laidLooks := .later }
def SegBytesUptoCardSaid : Prop := Claim7.holds Tryd.pinned (.plain (OpenSpec.upto segBytesSpec)) segBytesUptoCard

/-- THE SECOND FORM's CARD OF 'stairwelllaw16.SegNexts'. -/
def segNextsUptoCard : Claim7 := { stood := { row := segNextsUptoRow, standIns := [], harness := (true, "8faeceadac9fb5eae6759606603ada114cdd8523e89f22bb6cf7bd28d7a488fe"), looks := false }, kinds := [], alts := [], laidByText := true, laidKinds := [.data], laidTests := true, laidLooks := .later }
def SegNextsUptoCardSaid : Prop := Claim7.holds Tryd.pinned (.plain (OpenSpec.upto segNextsSpec)) segNextsUptoCard

/-- THE SECOND FORM's CARD OF 'stairwelllaw16.SegFalls'. -/
def segFallsUptoCard : Claim7 := { stood := { row := segFallsUptoRow, standIns := [], harness := (true, "8faeceadac9fb5eae6759606603ada114cdd8523e89f22bb6cf7bd28d7a488fe"), looks := false }, kinds := [], alts := [], laidByText := true, laidKinds := [.data], laidTests := true, laidLooks := .later }
def SegFallsUptoCardSaid : Prop := Claim7.holds Tryd.pinned (.plain (OpenSpec.upto segFallsSpec)) segFallsUptoCard

/-- THE SECOND FORM's CARD OF 'stairwelllaw16.SegJoins'. -/
def segJoinsUptoCard : Claim7 := { stood := { row := segJoinsUptoRow, standIns := [], harness := (true, "8faeceadac9fb5eae6759606603ada114cdd8523e89f22bb6cf7bd28d7a488fe"), looks := false }, kinds := [], alts := [], laidByText := true, laidKinds := [.data], laidTests := true, laidLooks := .later }
def SegJoinsUptoCardSaid : Prop := Claim7.holds Tryd.pinned (.plain (OpenSpec.upto segJoinsSpec)) segJoinsUptoCard

/-- THE SECOND FORM's CARD OF 'stairwelllaw08.FeedTakes'. -/
def feedTakesUptoCard : Claim7 := { stood := { row := feedTakesUptoRow, standIns := [], harness := (true, "8faeceadac9fb5eae6759606603ada114cdd8523e89f22bb6cf7bd28d7a488fe"), looks := false }, kinds := [], alts := [], laidByText := true, laidKinds := [.data], laidTests := true, laidLooks := .later }
def FeedTakesUptoCardSaid : Prop := Claim7.holds Tryd.pinned (.plain (OpenSpec.upto feedTakesSpec)) feedTakesUptoCard

/-- THE SECOND FORM's CARD OF 'stairwelllaw08.FeedFrames'. -/
def feedFramesUptoCard : Claim7 := { stood := { row := feedFramesUptoRow, standIns := [], harness := (true, "8faeceadac9fb5eae6759606603ada114cdd8523e89f22bb6cf7bd28d7a488fe"), looks := false }, kinds := [], alts := [], laidByText := true, laidKinds := [.data], laidTests := true, laidLooks := .later }
def FeedFramesUptoCardSaid : Prop := Claim7.holds Tryd.pinned (.plain (OpenSpec.upto feedFramesSpec)) feedFramesUptoCard

/-- THE SECOND FORM's CARD OF 'stairwelllaw08.FeedCuts'. -/
def feedCutsUptoCard : Claim7 := { stood := { row := feedCutsUptoRow, standIns := [], harness := (true, "8faeceadac9fb5eae6759606603ada114cdd8523e89f22bb6cf7bd28d7a488fe"), looks := false }, kinds := [], alts := [], laidByText := true, laidKinds := [.data], laidTests := true, laidLooks := .later }
def FeedCutsUptoCardSaid : Prop := Claim7.holds Tryd.pinned (.plain (OpenSpec.upto feedCutsSpec)) feedCutsUptoCard

/-- THE SECOND FORM's CARD OF 'stairwelllaw07.FrameBytes'. -/
def frameBytesUptoCard : Claim7 := { stood := { row := frameBytesUptoRow, standIns := [], harness := (true, "8faeceadac9fb5eae6759606603ada114cdd8523e89f22bb6cf7bd28d7a488fe"), looks := false }, kinds := [], alts := [], laidByText := true, laidKinds := [.data], laidTests := true, laidLooks := .later }
def FrameBytesUptoCardSaid : Prop := Claim7.holds Tryd.pinned (.plain (OpenSpec.upto frameBytesSpec)) frameBytesUptoCard

/-- THE SECOND FORM's CARD OF 'stairwelllaw17.WalOpens'. -/
def walOpensUptoCard : Claim7 := { stood := { row := walOpensUptoRow, standIns := [], harness := (true, "8faeceadac9fb5eae6759606603ada114cdd8523e89f22bb6cf7bd28d7a488fe"), looks := false }, kinds := [], alts := [], laidByText := true, laidKinds := [.data], laidTests := true, laidLooks := .later }
def WalOpensUptoCardSaid : Prop := Claim7.holds Tryd.pinned (.plain (OpenSpec.upto walOpensSpec)) walOpensUptoCard

/-- THE SECOND FORM's CARD OF 'stairwelllaw17.WalRoom'. -/
def walRoomUptoCard : Claim7 := { stood := { row := walRoomUptoRow, standIns := [], harness := (true, "8faeceadac9fb5eae6759606603ada114cdd8523e89f22bb6cf7bd28d7a488fe"), looks := false }, kinds := [], alts := [], laidByText := true, laidKinds := [.data], laidTests := true, laidLooks := .later }
def WalRoomUptoCardSaid : Prop := Claim7.holds Tryd.pinned (.plain (OpenSpec.upto walRoomSpec)) walRoomUptoCard

/-- THE SECOND FORM's CARD OF 'stairwelllaw17.WalFalls'. -/
def walFallsUptoCard : Claim7 := { stood := { row := walFallsUptoRow, standIns := [], harness := (true, "8faeceadac9fb5eae6759606603ada114cdd8523e89f22bb6cf7bd28d7a488fe"), looks := false }, kinds := [], alts := [], laidByText := true, laidKinds := [.data], laidTests := true, laidLooks := .later }
def WalFallsUptoCardSaid : Prop := Claim7.holds Tryd.pinned (.plain (OpenSpec.upto walFallsSpec)) walFallsUptoCard
end Rows
end Go.Proofs.YtopacbmdoognjaaDoor
