/-
  DERIVED. GIVEN WITH THE SEED: THE CARDS: each row of YtjnjcjildiadgaaGreatDoorRows.lean that lists a variable, with what it lists TIED to the program's text (the seventh form; the later family's looks); each row that meets fmt, with fmt's text TOLD by the authors' own Lean function (tested against real Go, not proved from fmt's source: count such statements apart). THE CARD IS WHAT COUNTS. Prove the row's statement (the work); the ties are given (YtjnjcjildiadgaaGreatDoorTie.lean); close each card by the builder's one call (the guide's Derived/Test/ToyasCard.lean, 'card_holds'). Laid BY PROGRAM, IN A SANDBOX (cutbox-door.mjs). By AI agents, Wed Nov 11 2026. No macro, syntax, notation, axiom, sorry.
-/
import Derived.Test.YtjnjcjildiadgaaGreatDoorRows
import GoSem.ClaimSeven
namespace Go.Proofs.YtjnjcjildiadgaaGreatDoor
namespace Rows

/-- THE TIED CARD OF 'stairwelllaw17.WalPlays'. -/
def walPlaysCard : Claim7 := { stood := { row := walPlaysRow, standIns := [], harness := (true, "87f20190c1602fdb6fafc82b2a2705751f5d697e5cb183a5a182bac732b6ed44"), looks := false }, kinds := [], alts := [], laidByText := true, laidKinds := [.data], laidTests := true, laidLooks := .later }
def WalPlaysCardSaid : Prop := Claim7.holds Tryz.pinned (.plain (OpenSpec.ofChange walPlaysSpec)) walPlaysCard

/-- THE SECOND FORM's CARD OF 'stairwelllaw17.WalPlays'. -/
def walPlaysUptoCard : Claim7 := { stood := { row := walPlaysUptoRow, standIns := [], harness := (true, "87f20190c1602fdb6fafc82b2a2705751f5d697e5cb183a5a182bac732b6ed44"), looks := false }, kinds := [], alts := [], laidByText := true, laidKinds := [.data], laidTests := true, laidLooks := .later }
def WalPlaysUptoCardSaid : Prop := Claim7.holds Tryz.pinned (.plain (OpenSpec.upto walPlaysSpec)) walPlaysUptoCard
end Rows
end Go.Proofs.YtjnjcjildiadgaaGreatDoor
