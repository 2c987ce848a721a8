/-
  DERIVED. GIVEN WITH THE SEED: THE CARDS: each row of YtjnjcjildiadgaaDoorRows.lean that lists a variable, with what it lists TIED to the program's text (the seventh form; the later family's looks); each row that meets fmt, with fmt's text TOLD by the authors' own Lean function (tested against real Go, not proved from fmt's source: count such statements apart). THE CARD IS WHAT COUNTS. Prove the row's statement (the work); the ties are given (YtjnjcjildiadgaaDoorTie.lean); close each card by the builder's one call (the guide's Derived/Test/ToyasCard.lean, 'card_holds'). Laid BY PROGRAM, IN A SANDBOX (cutbox-door.mjs). By AI agents, Wed Nov 11 2026. No macro, syntax, notation, axiom, sorry.
-/
import Derived.Test.YtjnjcjildiadgaaDoorRows
import GoSem.ClaimSeven
namespace Go.Proofs.YtjnjcjildiadgaaDoor
namespace Rows

/-- THE TIED CARD OF 'stairwelllaw17.WalOpens'. -/
def walOpensCard : Claim7 := { stood := { row := walOpensRow, standIns := [], harness := (true, "6bef016186acca161daed70ca9ee085c870391eb9c08404bd49f22414cfa0d6b"), looks := false }, kinds := [], alts := [], laidByText := true, laidKinds := [.data], laidTests := true, laidLooks := .later }
def WalOpensCardSaid : Prop := Claim7.holds Tryd.pinned (.plain (OpenSpec.ofChange walOpensSpec)) walOpensCard

/-- THE TIED CARD OF 'stairwelllaw17.WalRoom'. -/
def walRoomCard : Claim7 := { stood := { row := walRoomRow, standIns := [], harness := (true, "6bef016186acca161daed70ca9ee085c870391eb9c08404bd49f22414cfa0d6b"), looks := false }, kinds := [], alts := [], laidByText := true, laidKinds := [.data], laidTests := true, laidLooks := .later }
def WalRoomCardSaid : Prop := Claim7.holds Tryd.pinned (.plain (OpenSpec.ofChange walRoomSpec)) walRoomCard

/-- THE TIED CARD OF 'stairwelllaw17.WalFalls'. -/
def walFallsCard : Claim7 := { stood := { row := walFallsRow, standIns := [], harness := (true, "6bef016186acca161daed70ca9ee085c870391eb9c08404bd49f22414cfa0d6b"), looks := false }, kinds := [], alts := [], laidByText := true, laidKinds := [.data], laidTests := true, laidLooks := .later }
def WalFallsCardSaid : Prop := Claim7.holds Tryd.pinned (.plain (OpenSpec.ofChange walFallsSpec)) walFallsCard

/-- THE SECOND FORM's CARD OF 'stairwelllaw17.WalOpens'. -/
def walOpensUptoCard : Claim7 := { stood := { row := walOpensUptoRow, standIns := [], harness := (true, "6bef016186acca161daed70ca9ee085c870391eb9c08404bd49f22414cfa0d6b"), looks := false }, kinds := [], alts := [], laidByText := true, laidKinds := [.data], laidTests := true, laidLooks := .later }
def WalOpensUptoCardSaid : Prop := Claim7.holds Tryd.pinned (.plain (OpenSpec.upto walOpensSpec)) walOpensUptoCard

/-- THE SECOND FORM's CARD OF 'stairwelllaw17.WalRoom'. -/
def walRoomUptoCard : Claim7 := { stood := { row := walRoomUptoRow, standIns := [], harness := (true, "6bef016186acca161daed70ca9ee085c870391eb9c08404bd49f22414cfa0d6b"), looks := false }, kinds := [], alts := [], laidByText := true, laidKinds := [.data], laidTests := true, laidLooks := .later }
def WalRoomUptoCardSaid : Prop := Claim7.holds Tryd.pinned (.plain (OpenSpec.upto walRoomSpec)) walRoomUptoCard

/-- THE SECOND FORM's CARD OF 'stairwelllaw17.WalFalls'. -/
def walFallsUptoCard : Claim7 := { stood := { row := walFallsUptoRow, standIns := [], harness := (true, "6bef016186acca161daed70ca9ee085c870391eb9c08404bd49f22414cfa0d6b"), looks := false }, kinds := [], alts := [], laidByText := true, laidKinds := [.data], laidTests := true, laidLooks := .later }
def WalFallsUptoCardSaid : Prop := Claim7.holds Tryd.pinned (.plain (OpenSpec.upto walFallsSpec)) walFallsUptoCard
end Rows
end Go.Proofs.YtjnjcjildiadgaaDoor
