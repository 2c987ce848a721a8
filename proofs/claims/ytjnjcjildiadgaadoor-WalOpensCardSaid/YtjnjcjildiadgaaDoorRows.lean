/-
  NARROWER THAN 'FOR EVERY INPUT', by the rows' own cells (each row's printed sentence says how): WalOpens: laid · WalRoom: laid · WalFalls: laid.
  DERIVED. THE GIVEN ROWS OF THIS SEAT. 3 by the template 'for every input the law returns true; each argument reads behind the call as it read before'; 0 by the template 'total and deterministic' (their statements: YtjnjcjildiadgaaDoorTotals.lean).
  GIVEN WITH THE SEED: the statements are not yours to turn. If you find one false, say at which input.
  Laid BY PROGRAM, IN A SANDBOX (cutbox-rows.mjs): the forced cells as the released guide's own fill.sh prints them over the translation 8631394a9a8cc8ec… (all of the seat's roots in one cut). By AI agents, Wed Nov 11 2026. No macro, syntax, notation, axiom, sorry.
-/
import Derived.Test.YtjnjcjildiadgaaDoorChecked
import GoSem.Claim
import GoSem.ClaimJoined
import GoSem.ClaimMapViews
import Derived.JoinedTies
import Derived.KernelRfl
namespace Go.Proofs.YtjnjcjildiadgaaDoor
/- THE CELL 'sum', in the pinned program and in every row, IS THE sha256 OF THE DUMP (.gsa) THAT YtjnjcjildiadgaaDoorProg.lean LOADS. Nothing in Lean hashes anything: it is a label: what it is worth is what the hold of that sum in a sandbox is worth. -/
noncomputable def Tryd.pinned : Pinned := { name := "ytjnjcjildiadgaadoor", sum := "8631394a9a8cc8ecd309e5c1b3f7d5c155b55fb66be603e5b529b76df41b02a0", checked := Tryd.checked }
namespace Rows
def none {H : Type} : Left H := { results := [], args := [] }

/- WHAT THE LISTED PACKAGE-LEVEL VARIABLES READ AS WHEN THE CALL BEGINS. Each datum BY PROGRAM (the guide's laid-datum.mjs) off the statement by which the dump's own 'gosem.cut.vars' lays the variable. In a bare row this is a premise. The card (YtjnjcjildiadgaaDoorCards.lean) ties it to the program's text. -/
def laid_stairwell_crc_laid {H : Type} : DataW H := .agg [.lit (.int .u32 0), .lit (.int .u32 498536548), .lit (.int .u32 997073096), .lit (.int .u32 651767980), .lit (.int .u32 1994146192), .lit (.int .u32 1802195444), .lit (.int .u32 1303535960), .lit (.int .u32 1342533948), .lit (.int .u32 3988292384), .lit (.int .u32 4027552580), .lit (.int .u32 3604390888), .lit (.int .u32 3412177804), .lit (.int .u32 2607071920), .lit (.int .u32 2262029012), .lit (.int .u32 2685067896), .lit (.int .u32 3183342108)]

/-- 'stairwelllaw17.WalOpens': WHATEVER THE INPUT: true; the input reads as it did. -/
def walOpensSpec : ChangeSpec := { name := "walOpens", fn := fun _ => fun
  | [d1, d2] => { results := [.lit (.bool true)], args := [d1, d2] }
  | _ => none }
def walOpensRow : OpenClaim := { program := "ytjnjcjildiadgaadoor", sum := "8631394a9a8cc8ecd309e5c1b3f7d5c155b55fb66be603e5b529b76df41b02a0", func := "stairwell/stairwelllaw17.WalOpens", spec := "walOpens", inPlace := ["internal/abi.NoEscape", "internal/bytealg.MakeNoZero"], recurses := true, named := ["stairwell/crc.laid"], apart := false, laid := [("stairwell/crc.laid", laid_stairwell_crc_laid)] }
def WalOpensSaid : Prop := walOpensRow.holds Tryd.pinned (OpenSpec.ofChange walOpensSpec)

/-- ITS FALSE NEIGHBOUR: 'it returns false'. Refute it at one input. -/
def walOpensWrong : ChangeSpec := { name := "walOpens", fn := fun _ => fun
  | [d1, d2] => { results := [.lit (.bool false)], args := [d1, d2] }
  | _ => none }
def WalOpensWrongFalsely : Prop := walOpensRow.holds Tryd.pinned (OpenSpec.ofChange walOpensWrong)

/-- 'stairwelllaw17.WalRoom': WHATEVER THE INPUT: true; the input reads as it did. -/
def walRoomSpec : ChangeSpec := { name := "walRoom", fn := fun _ => fun
  | [d] => { results := [.lit (.bool true)], args := [d] }
  | _ => none }
def walRoomRow : OpenClaim := { program := "ytjnjcjildiadgaadoor", sum := "8631394a9a8cc8ecd309e5c1b3f7d5c155b55fb66be603e5b529b76df41b02a0", func := "stairwell/stairwelllaw17.WalRoom", spec := "walRoom", inPlace := ["internal/abi.NoEscape", "internal/bytealg.MakeNoZero"], named := ["stairwell/crc.laid"], apart := false, laid := [("stairwell/crc.laid", laid_stairwell_crc_laid)] }
def WalRoomSaid : Prop := walRoomRow.holds Tryd.pinned (OpenSpec.ofChange walRoomSpec)

/-- ITS FALSE NEIGHBOUR: 'it returns false'. Refute it at one input. -/
def walRoomWrong : ChangeSpec := { name := "walRoom", fn := fun _ => fun
  | [d] => { results := [.lit (.bool false)], args := [d] }
  | _ => none }
def WalRoomWrongFalsely : Prop := walRoomRow.holds Tryd.pinned (OpenSpec.ofChange walRoomWrong)

/-- 'stairwelllaw17.WalFalls': WHATEVER THE INPUT: true; the input reads as it did. -/
def walFallsSpec : ChangeSpec := { name := "walFalls", fn := fun _ => fun
  | [d] => { results := [.lit (.bool true)], args := [d] }
  | _ => none }
def walFallsRow : OpenClaim := { program := "ytjnjcjildiadgaadoor", sum := "8631394a9a8cc8ecd309e5c1b3f7d5c155b55fb66be603e5b529b76df41b02a0", func := "stairwell/stairwelllaw17.WalFalls", spec := "walFalls", inPlace := ["internal/abi.NoEscape", "internal/bytealg.MakeNoZero"], named := ["stairwell/crc.laid"], apart := false, laid := [("stairwell/crc.laid", laid_stairwell_crc_laid)] }
def WalFallsSaid : Prop := walFallsRow.holds Tryd.pinned (OpenSpec.ofChange walFallsSpec)

/-- ITS FALSE NEIGHBOUR: 'it returns false'. Refute it at one input. -/
def walFallsWrong : ChangeSpec := { name := "walFalls", fn := fun _ => fun
  | [d] => { results := [.lit (.bool false)], args := [d] }
  | _ => none }
def WalFallsWrongFalsely : Prop := walFallsRow.holds Tryd.pinned (OpenSpec.ofChange walFallsWrong)

/- THE SECOND FORM. 'bulk': how many values and letters a reading holds, each counted each time it is reached (what is shared counts as often as it is met; a slice's spare places count too). A statement '..UptoSaid' is the law's where the arguments, and the package variables that the reading takes, are together of bulk at most 1048576: NARROWER than '..Said'. Prove '..Said' where nothing that the law and all that it calls make is longer than what came in: it says more and counts as full. Else prove '..UptoSaid'. A law counts once. -/
mutual
def uptoBulk {H : Type} : DataW H → Nat
  | .lit (.string bytes) => bytes.length + 1
  | .lit _ => 1
  | .nil => 1
  | .ptr d => uptoBulk d + 1
  | .slice elems spare => uptoBulkAll elems + uptoBulkAll spare + 1
  | .agg parts => uptoBulkAll parts + 1
  | .iface _ d => uptoBulk d + 1
  | .map entries => uptoBulkEntries entries + 1
  | .held _ => 1
def uptoBulkAll {H : Type} : List (DataW H) → Nat
  | [] => 0
  | d :: r => uptoBulk d + uptoBulkAll r
def uptoBulkEntries {H : Type} : List (Lit × DataW H) → Nat
  | [] => 0
  | x :: r => uptoBulkEntry x + uptoBulkEntries r
def uptoBulkEntry {H : Type} : Lit × DataW H → Nat
  | (.string bytes, d) => bytes.length + uptoBulk d + 1
  | (_, d) => uptoBulk d + 1
 end
def uptoSmall : (H : Type) → List (DataW H) → Bool := fun _ ds => decide (uptoBulkAll ds ≤ 1048576)
def OpenSpec.upto (s : _root_.Go.ChangeSpec) : _root_.Go.OpenSpec := { _root_.Go.OpenSpec.ofChange s with cond := some uptoSmall }

/-- 'stairwelllaw17.WalOpens', WHERE WHAT IT READS IS OF BULK AT MOST 1048576: true; the input reads as it did. -/
def walOpensUptoRow : OpenClaim := { program := "ytjnjcjildiadgaadoor", sum := "8631394a9a8cc8ecd309e5c1b3f7d5c155b55fb66be603e5b529b76df41b02a0", func := "stairwell/stairwelllaw17.WalOpens", spec := "walOpens", inPlace := ["internal/abi.NoEscape", "internal/bytealg.MakeNoZero"], recurses := true, named := ["stairwell/crc.laid"], apart := false, laid := [("stairwell/crc.laid", laid_stairwell_crc_laid)], narrowed := true }
def WalOpensUptoSaid : Prop := walOpensUptoRow.holds Tryd.pinned (OpenSpec.upto walOpensSpec)

/-- 'stairwelllaw17.WalRoom', WHERE WHAT IT READS IS OF BULK AT MOST 1048576: true; the input reads as it did. -/
def walRoomUptoRow : OpenClaim := { program := "ytjnjcjildiadgaadoor", sum := "8631394a9a8cc8ecd309e5c1b3f7d5c155b55fb66be603e5b529b76df41b02a0", func := "stairwell/stairwelllaw17.WalRoom", spec := "walRoom", inPlace := ["internal/abi.NoEscape", "internal/bytealg.MakeNoZero"], named := ["stairwell/crc.laid"], apart := false, laid := [("stairwell/crc.laid", laid_stairwell_crc_laid)], narrowed := true }
def WalRoomUptoSaid : Prop := walRoomUptoRow.holds Tryd.pinned (OpenSpec.upto walRoomSpec)

/-- 'stairwelllaw17.WalFalls', WHERE WHAT IT READS IS OF BULK AT MOST 1048576: true; the input reads as it did. -/
def walFallsUptoRow : OpenClaim := { program := "ytjnjcjildiadgaadoor", sum := "8631394a9a8cc8ecd309e5c1b3f7d5c155b55fb66be603e5b529b76df41b02a0", func := "stairwell/stairwelllaw17.WalFalls", spec := "walFalls", inPlace := ["internal/abi.NoEscape", "internal/bytealg.MakeNoZero"], named := ["stairwell/crc.laid"], apart := false, laid := [("stairwell/crc.laid", laid_stairwell_crc_laid)], narrowed := true }
def WalFallsUptoSaid : Prop := walFallsUptoRow.holds Tryd.pinned (OpenSpec.upto walFallsSpec)

end Rows
end Go.Proofs.YtjnjcjildiadgaaDoor
