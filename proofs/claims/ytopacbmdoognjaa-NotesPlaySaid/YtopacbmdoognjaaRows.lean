/-
  No cell of these rows narrows 'for every input' (looked for: loops, veiled, ifaces, maps, wideKeys, modest, calm, conditions, laid).
  DERIVED. THE GIVEN ROWS OF THIS SEAT. 13 by the template 'for every input the law returns true; each argument reads behind the call as it read before'; 0 by the template 'total and deterministic' (their statements: YtopacbmdoognjaaTotals.lean).
  GIVEN WITH THE SEED: the statements are not yours to turn. If you find one false, say at which input.
  Laid BY PROGRAM, IN A SANDBOX (cutbox-rows.mjs): the forced cells as the released guide's own fill.sh prints them over the translation 47d4e0a2ec44374a… (all of the seat's roots in one cut). By AI agents, Wed Nov 11 2026. No macro, syntax, notation, axiom, sorry.
-/
import Derived.Test.YtopacbmdoognjaaChecked
import GoSem.Claim
import GoSem.ClaimJoined
import GoSem.ClaimMapViews
import Derived.JoinedTies
import Derived.KernelRfl
namespace Go.Proofs.Ytopacbmdoognjaa
/- THE CELL 'sum', in the pinned program and in every row, IS THE sha256 OF THE DUMP (.gsa) THAT YtopacbmdoognjaaProg.lean LOADS. Nothing in Lean hashes anything: it is a label: what it is worth is what the hold of that sum in a sandbox is worth. -/
noncomputable def Try.pinned : Pinned := { name := "ytopacbmdoognjaa", sum := "47d4e0a2ec44374a12c6df1001d8616ff3c29ba50e8b070e90b7ed0dee6f3325", checked := Try.checked }
namespace Rows
def none {H : Type} : Left H := { results := [], args := [] }

/-- 'stairwelllaw01.OctetWrites': WHATEVER THE INPUT: true; the input reads as it did. -/
def octetWritesSpec : ChangeSpec := { name := "octetWrites", fn := fun _ => fun
  | [d] => { results := [.lit (.bool true)], args := [d] }
  | _ => none }
def octetWritesRow : OpenClaim := { program := "ytopacbmdoognjaa", sum := "47d4e0a2ec44374a12c6df1001d8616ff3c29ba50e8b070e90b7ed0dee6f3325", func := "stairwell/stairwelllaw01.OctetWrites", spec := "octetWrites", inPlace := ["internal/abi.NoEscape"], recurses := true, apart := false }
def OctetWritesSaid : Prop := octetWritesRow.holds Try.pinned (OpenSpec.ofChange octetWritesSpec)

/-- ITS FALSE NEIGHBOUR: 'it returns false'. Refute it at one input. -/
def octetWritesWrong : ChangeSpec := { name := "octetWrites", fn := fun _ => fun
  | [d] => { results := [.lit (.bool false)], args := [d] }
  | _ => none }
def OctetWritesWrongFalsely : Prop := octetWritesRow.holds Try.pinned (OpenSpec.ofChange octetWritesWrong)

/-- 'stairwelllaw15.DiskFalls': WHATEVER THE INPUT: true; the input reads as it did. -/
def diskFallsSpec : ChangeSpec := { name := "diskFalls", fn := fun _ => fun
  | [d1, d2] => { results := [.lit (.bool true)], args := [d1, d2] }
  | _ => none }
def diskFallsRow : OpenClaim := { program := "ytopacbmdoognjaa", sum := "47d4e0a2ec44374a12c6df1001d8616ff3c29ba50e8b070e90b7ed0dee6f3325", func := "stairwell/stairwelllaw15.DiskFalls", spec := "diskFalls", apart := false }
def DiskFallsSaid : Prop := diskFallsRow.holds Try.pinned (OpenSpec.ofChange diskFallsSpec)

/-- ITS FALSE NEIGHBOUR: 'it returns false'. Refute it at one input. -/
def diskFallsWrong : ChangeSpec := { name := "diskFalls", fn := fun _ => fun
  | [d1, d2] => { results := [.lit (.bool false)], args := [d1, d2] }
  | _ => none }
def DiskFallsWrongFalsely : Prop := diskFallsRow.holds Try.pinned (OpenSpec.ofChange diskFallsWrong)

/-- 'stairwelllaw15.DiskKeeps': WHATEVER THE INPUT: true; the input reads as it did. -/
def diskKeepsSpec : ChangeSpec := { name := "diskKeeps", fn := fun _ => fun
  | [d1, d2, d3] => { results := [.lit (.bool true)], args := [d1, d2, d3] }
  | _ => none }
def diskKeepsRow : OpenClaim := { program := "ytopacbmdoognjaa", sum := "47d4e0a2ec44374a12c6df1001d8616ff3c29ba50e8b070e90b7ed0dee6f3325", func := "stairwell/stairwelllaw15.DiskKeeps", spec := "diskKeeps", apart := false }
def DiskKeepsSaid : Prop := diskKeepsRow.holds Try.pinned (OpenSpec.ofChange diskKeepsSpec)

/-- ITS FALSE NEIGHBOUR: 'it returns false'. Refute it at one input. -/
def diskKeepsWrong : ChangeSpec := { name := "diskKeeps", fn := fun _ => fun
  | [d1, d2, d3] => { results := [.lit (.bool false)], args := [d1, d2, d3] }
  | _ => none }
def DiskKeepsWrongFalsely : Prop := diskKeepsRow.holds Try.pinned (OpenSpec.ofChange diskKeepsWrong)

/-- 'stairwelllaw15.DiskArms': WHATEVER THE INPUT: true; the input reads as it did. -/
def diskArmsSpec : ChangeSpec := { name := "diskArms", fn := fun _ => fun
  | [d1, d2, d3] => { results := [.lit (.bool true)], args := [d1, d2, d3] }
  | _ => none }
def diskArmsRow : OpenClaim := { program := "ytopacbmdoognjaa", sum := "47d4e0a2ec44374a12c6df1001d8616ff3c29ba50e8b070e90b7ed0dee6f3325", func := "stairwell/stairwelllaw15.DiskArms", spec := "diskArms", apart := false }
def DiskArmsSaid : Prop := diskArmsRow.holds Try.pinned (OpenSpec.ofChange diskArmsSpec)

/-- ITS FALSE NEIGHBOUR: 'it returns false'. Refute it at one input. -/
def diskArmsWrong : ChangeSpec := { name := "diskArms", fn := fun _ => fun
  | [d1, d2, d3] => { results := [.lit (.bool false)], args := [d1, d2, d3] }
  | _ => none }
def DiskArmsWrongFalsely : Prop := diskArmsRow.holds Try.pinned (OpenSpec.ofChange diskArmsWrong)

/-- 'stairwelllaw01.OctetReads': WHATEVER THE INPUT: true; the input reads as it did. -/
def octetReadsSpec : ChangeSpec := { name := "octetReads", fn := fun _ => fun
  | [d1, d2, d3, d4] => { results := [.lit (.bool true)], args := [d1, d2, d3, d4] }
  | _ => none }
def octetReadsRow : OpenClaim := { program := "ytopacbmdoognjaa", sum := "47d4e0a2ec44374a12c6df1001d8616ff3c29ba50e8b070e90b7ed0dee6f3325", func := "stairwell/stairwelllaw01.OctetReads", spec := "octetReads", inPlace := ["internal/abi.NoEscape"], apart := false }
def OctetReadsSaid : Prop := octetReadsRow.holds Try.pinned (OpenSpec.ofChange octetReadsSpec)

/-- ITS FALSE NEIGHBOUR: 'it returns false'. Refute it at one input. -/
def octetReadsWrong : ChangeSpec := { name := "octetReads", fn := fun _ => fun
  | [d1, d2, d3, d4] => { results := [.lit (.bool false)], args := [d1, d2, d3, d4] }
  | _ => none }
def OctetReadsWrongFalsely : Prop := octetReadsRow.holds Try.pinned (OpenSpec.ofChange octetReadsWrong)

/-- 'stairwelllaw01.OctetBack': WHATEVER THE INPUT: true; the input reads as it did. -/
def octetBackSpec : ChangeSpec := { name := "octetBack", fn := fun _ => fun
  | [d] => { results := [.lit (.bool true)], args := [d] }
  | _ => none }
def octetBackRow : OpenClaim := { program := "ytopacbmdoognjaa", sum := "47d4e0a2ec44374a12c6df1001d8616ff3c29ba50e8b070e90b7ed0dee6f3325", func := "stairwell/stairwelllaw01.OctetBack", spec := "octetBack", inPlace := ["internal/abi.NoEscape"], apart := false }
def OctetBackSaid : Prop := octetBackRow.holds Try.pinned (OpenSpec.ofChange octetBackSpec)

/-- ITS FALSE NEIGHBOUR: 'it returns false'. Refute it at one input. -/
def octetBackWrong : ChangeSpec := { name := "octetBack", fn := fun _ => fun
  | [d] => { results := [.lit (.bool false)], args := [d] }
  | _ => none }
def OctetBackWrongFalsely : Prop := octetBackRow.holds Try.pinned (OpenSpec.ofChange octetBackWrong)

/-- 'stairwelllaw01.OctetNil': WHATEVER THE INPUT: true; the input reads as it did. -/
def octetNilSpec : ChangeSpec := { name := "octetNil", fn := fun _ => fun
  | [] => { results := [.lit (.bool true)], args := [] }
  | _ => none }
def octetNilRow : OpenClaim := { program := "ytopacbmdoognjaa", sum := "47d4e0a2ec44374a12c6df1001d8616ff3c29ba50e8b070e90b7ed0dee6f3325", func := "stairwell/stairwelllaw01.OctetNil", spec := "octetNil", inPlace := ["internal/abi.NoEscape"], apart := false }
def OctetNilSaid : Prop := octetNilRow.holds Try.pinned (OpenSpec.ofChange octetNilSpec)

/-- ITS FALSE NEIGHBOUR: 'it returns false'. Refute it at one input. -/
def octetNilWrong : ChangeSpec := { name := "octetNil", fn := fun _ => fun
  | [] => { results := [.lit (.bool false)], args := [] }
  | _ => none }
def OctetNilWrongFalsely : Prop := octetNilRow.holds Try.pinned (OpenSpec.ofChange octetNilWrong)

/-- 'stairwelllaw15.DiskPlays': WHATEVER THE INPUT: true; the input reads as it did. -/
def diskPlaysSpec : ChangeSpec := { name := "diskPlays", fn := fun _ => fun
  | [d1, d2] => { results := [.lit (.bool true)], args := [d1, d2] }
  | _ => none }
def diskPlaysRow : OpenClaim := { program := "ytopacbmdoognjaa", sum := "47d4e0a2ec44374a12c6df1001d8616ff3c29ba50e8b070e90b7ed0dee6f3325", func := "stairwell/stairwelllaw15.DiskPlays", spec := "diskPlays", apart := false }
def DiskPlaysSaid : Prop := diskPlaysRow.holds Try.pinned (OpenSpec.ofChange diskPlaysSpec)

/-- ITS FALSE NEIGHBOUR: 'it returns false'. Refute it at one input. -/
def diskPlaysWrong : ChangeSpec := { name := "diskPlays", fn := fun _ => fun
  | [d1, d2] => { results := [.lit (.bool false)], args := [d1, d2] }
  | _ => none }
def DiskPlaysWrongFalsely : Prop := diskPlaysRow.holds Try.pinned (OpenSpec.ofChange diskPlaysWrong)

/-- 'stairwelllaw19.NotesLast': WHATEVER THE INPUT: true; the input reads as it did. -/
def notesLastSpec : ChangeSpec := { name := "notesLast", fn := fun _ => fun
  | [d1, d2] => { results := [.lit (.bool true)], args := [d1, d2] }
  | _ => none }
def notesLastRow : OpenClaim := { program := "ytopacbmdoognjaa", sum := "47d4e0a2ec44374a12c6df1001d8616ff3c29ba50e8b070e90b7ed0dee6f3325", func := "stairwell/stairwelllaw19.NotesLast", spec := "notesLast", inPlace := ["internal/abi.NoEscape"], apart := false }
def NotesLastSaid : Prop := notesLastRow.holds Try.pinned (OpenSpec.ofChange notesLastSpec)

/-- ITS FALSE NEIGHBOUR: 'it returns false'. Refute it at one input. -/
def notesLastWrong : ChangeSpec := { name := "notesLast", fn := fun _ => fun
  | [d1, d2] => { results := [.lit (.bool false)], args := [d1, d2] }
  | _ => none }
def NotesLastWrongFalsely : Prop := notesLastRow.holds Try.pinned (OpenSpec.ofChange notesLastWrong)

/-- 'stairwelllaw19.NotesNumbers': WHATEVER THE INPUT: true; the input reads as it did. -/
def notesNumbersSpec : ChangeSpec := { name := "notesNumbers", fn := fun _ => fun
  | [d] => { results := [.lit (.bool true)], args := [d] }
  | _ => none }
def notesNumbersRow : OpenClaim := { program := "ytopacbmdoognjaa", sum := "47d4e0a2ec44374a12c6df1001d8616ff3c29ba50e8b070e90b7ed0dee6f3325", func := "stairwell/stairwelllaw19.NotesNumbers", spec := "notesNumbers", inPlace := ["internal/abi.NoEscape"], apart := false }
def NotesNumbersSaid : Prop := notesNumbersRow.holds Try.pinned (OpenSpec.ofChange notesNumbersSpec)

/-- ITS FALSE NEIGHBOUR: 'it returns false'. Refute it at one input. -/
def notesNumbersWrong : ChangeSpec := { name := "notesNumbers", fn := fun _ => fun
  | [d] => { results := [.lit (.bool false)], args := [d] }
  | _ => none }
def NotesNumbersWrongFalsely : Prop := notesNumbersRow.holds Try.pinned (OpenSpec.ofChange notesNumbersWrong)

/-- 'stairwelllaw19.NotesReads': WHATEVER THE INPUT: true; the input reads as it did. -/
def notesReadsSpec : ChangeSpec := { name := "notesReads", fn := fun _ => fun
  | [d1, d2, d3] => { results := [.lit (.bool true)], args := [d1, d2, d3] }
  | _ => none }
def notesReadsRow : OpenClaim := { program := "ytopacbmdoognjaa", sum := "47d4e0a2ec44374a12c6df1001d8616ff3c29ba50e8b070e90b7ed0dee6f3325", func := "stairwell/stairwelllaw19.NotesReads", spec := "notesReads", inPlace := ["internal/abi.NoEscape"], apart := false }
def NotesReadsSaid : Prop := notesReadsRow.holds Try.pinned (OpenSpec.ofChange notesReadsSpec)

/-- ITS FALSE NEIGHBOUR: 'it returns false'. Refute it at one input. -/
def notesReadsWrong : ChangeSpec := { name := "notesReads", fn := fun _ => fun
  | [d1, d2, d3] => { results := [.lit (.bool false)], args := [d1, d2, d3] }
  | _ => none }
def NotesReadsWrongFalsely : Prop := notesReadsRow.holds Try.pinned (OpenSpec.ofChange notesReadsWrong)

/-- 'stairwelllaw19.NotesPlay': WHATEVER THE INPUT: true; the input reads as it did. -/
def notesPlaySpec : ChangeSpec := { name := "notesPlay", fn := fun _ => fun
  | [d1, d2] => { results := [.lit (.bool true)], args := [d1, d2] }
  | _ => none }
def notesPlayRow : OpenClaim := { program := "ytopacbmdoognjaa", sum := "47d4e0a2ec44374a12c6df1001d8616ff3c29ba50e8b070e90b7ed0dee6f3325", func := "stairwell/stairwelllaw19.NotesPlay", spec := "notesPlay", inPlace := ["internal/abi.NoEscape"], recurses := true, apart := false }
def NotesPlaySaid : Prop := notesPlayRow.holds Try.pinned (OpenSpec.ofChange notesPlaySpec)

/-- ITS FALSE NEIGHBOUR: 'it returns false'. Refute it at one input. -/
def notesPlayWrong : ChangeSpec := { name := "notesPlay", fn := fun _ => fun
  | [d1, d2] => { results := [.lit (.bool false)], args := [d1, d2] }
  | _ => none }
def NotesPlayWrongFalsely : Prop := notesPlayRow.holds Try.pinned (OpenSpec.ofChange notesPlayWrong)

/-- 'stairwelllaw01.OctetLong': WHATEVER THE INPUT: true; the input reads as it did. -/
def octetLongSpec : ChangeSpec := { name := "octetLong", fn := fun _ => fun
  | [d1, d2] => { results := [.lit (.bool true)], args := [d1, d2] }
  | _ => none }
def octetLongRow : OpenClaim := { program := "ytopacbmdoognjaa", sum := "47d4e0a2ec44374a12c6df1001d8616ff3c29ba50e8b070e90b7ed0dee6f3325", func := "stairwell/stairwelllaw01.OctetLong", spec := "octetLong", inPlace := ["internal/abi.NoEscape", "internal/bytealg.MakeNoZero"], recurses := true, apart := false }
def OctetLongSaid : Prop := octetLongRow.holds Try.pinned (OpenSpec.ofChange octetLongSpec)

/-- ITS FALSE NEIGHBOUR: 'it returns false'. Refute it at one input. -/
def octetLongWrong : ChangeSpec := { name := "octetLong", fn := fun _ => fun
  | [d1, d2] => { results := [.lit (.bool false)], args := [d1, d2] }
  | _ => none }
def OctetLongWrongFalsely : Prop := octetLongRow.holds Try.pinned (OpenSpec.ofChange octetLongWrong)

/- THE SECOND FORM. 'bulk': how many values and letters a reading holds, each counted each time it is reached (what is shared counts as often as it is met; a slice's spare places count too). A statement '..UptoSaid' is the law's where the arguments, and the package variables that the reading takes, are together of bulk at most 1048576: NARROWER than '..Said'. Prove '..Said' where nothing that the law and all that it calls make is longer than what came in: it says more and counts as full. Else prove '..UptoSaid'. A law counts once. -/
mutual
def uptoBulk {H : Type} : DataW H → Nat
  | .lit (.string bytes) => bytes.length + 1
  | .lit _ => 1
  | .nil => 1
  | .ptr d => uptoBulk d + 1
  | .slice elems spare => uptoBulkAll elems + uptoBulkAll spare + 1
  | .agg parts => uptoBulkAll parts + 1
  | .iface _ d => uptoBulk d + 1
  | .map entries => uptoBulkEntries entries + 1
  | .held _ => 1
def uptoBulkAll {H : Type} : List (DataW H) → Nat
  | [] => 0
  | d :: r => uptoBulk d + uptoBulkAll r
def uptoBulkEntries {H : Type} : List (Lit × DataW H) → Nat
  | [] => 0
  | x :: r => uptoBulkEntry x + uptoBulkEntries r
def uptoBulkEntry {H : Type} : Lit × DataW H → Nat
  | (.string bytes, d) => bytes.length + uptoBulk d + 1
  | (_, d) => uptoBulk d + 1
 end
def uptoSmall : (H : Type) → List (DataW H) → Bool := fun _ ds => decide (uptoBulkAll ds ≤ 1048576)
def OpenSpec.upto (s : _root_.Go.ChangeSpec) : _root_.Go.OpenSpec := { _root_.Go.OpenSpec.ofChange s with cond := some uptoSmall }

/-- 'stairwelllaw01.OctetWrites', WHERE WHAT IT READS IS OF BULK AT MOST 1048576: true; the input reads as it did. -/
def octetWritesUptoRow : OpenClaim := { program := "ytopacbmdoognjaa", sum := "47d4e0a2ec44374a12c6df1001d8616ff3c29ba50e8b070e90b7ed0dee6f3325", func := "stairwell/stairwelllaw01.OctetWrites", spec := "octetWrites", inPlace := ["internal/abi.NoEscape"], recurses := true, apart := false, narrowed := true }
def OctetWritesUptoSaid : Prop := octetWritesUptoRow.holds Try.pinned (OpenSpec.upto octetWritesSpec)

/-- 'stairwelllaw15.DiskFalls', WHERE WHAT IT READS IS OF BULK AT MOST 1048576: true; the input reads as it did. -/
def diskFallsUptoRow : OpenClaim := { program := "ytopacbmdoognjaa", sum := "47d4e0a2ec44374a12c6df1001d8616ff3c29ba50e8b070e90b7ed0dee6f3325", func := "stairwell/stairwelllaw15.DiskFalls", spec := "diskFalls", apart := false, narrowed := true }
def DiskFallsUptoSaid : Prop := diskFallsUptoRow.holds Try.pinned (OpenSpec.upto diskFallsSpec)

/-- 'stairwelllaw15.DiskKeeps', WHERE WHAT IT READS IS OF BULK AT MOST 1048576: true; the input reads as it did. -/
def diskKeepsUptoRow : OpenClaim := { program := "ytopacbmdoognjaa", sum := "47d4e0a2ec44374a12c6df1001d8616ff3c29ba50e8b070e90b7ed0dee6f3325", func := "stairwell/stairwelllaw15.DiskKeeps", spec := "diskKeeps", apart := false, narrowed := true }
def DiskKeepsUptoSaid : Prop := diskKeepsUptoRow.holds Try.pinned (OpenSpec.upto diskKeepsSpec)

/-- 'stairwelllaw15.DiskArms', WHERE WHAT IT READS IS OF BULK AT MOST 1048576: true; the input reads as it did. -/
def diskArmsUptoRow : OpenClaim := { program := "ytopacbmdoognjaa", sum := "47d4e0a2ec44374a12c6df1001d8616ff3c29ba50e8b070e90b7ed0dee6f3325", func := "stairwell/stairwelllaw15.DiskArms", spec := "diskArms", apart := false, narrowed := true }
def DiskArmsUptoSaid : Prop := diskArmsUptoRow.holds Try.pinned (OpenSpec.upto diskArmsSpec)

/-- 'stairwelllaw01.OctetReads', WHERE WHAT IT READS IS OF BULK AT MOST 1048576: true; the input reads as it did. -/
def octetReadsUptoRow : OpenClaim := { program := "ytopacbmdoognjaa", sum := "47d4e0a2ec44374a12c6df1001d8616ff3c29ba50e8b070e90b7ed0dee6f3325", func := "stairwell/stairwelllaw01.OctetReads", spec := "octetReads", inPlace := ["internal/abi.NoEscape"], apart := false, narrowed := true }
def OctetReadsUptoSaid : Prop := octetReadsUptoRow.holds Try.pinned (OpenSpec.upto octetReadsSpec)

/-- 'stairwelllaw01.OctetBack', WHERE WHAT IT READS IS OF BULK AT MOST 1048576: true; the input reads as it did. -/
def octetBackUptoRow : OpenClaim := { program := "ytopacbmdoognjaa", sum := "47d4e0a2ec44374a12c6df1001d8616ff3c29ba50e8b070e90b7ed0dee6f3325", func := "stairwell/stairwelllaw01.OctetBack", spec := "octetBack", inPlace := ["internal/abi.NoEscape"], apart := false, narrowed := true }
def OctetBackUptoSaid : Prop := octetBackUptoRow.holds Try.pinned (OpenSpec.upto octetBackSpec)

/-- 'stairwelllaw01.OctetNil', WHERE WHAT IT READS IS OF BULK AT MOST 1048576: true; the input reads as it did. -/
def octetNilUptoRow : OpenClaim := { program := "ytopacbmdoognjaa", sum := "47d4e0a2ec44374a12c6df1001d8616ff3c29ba50e8b070e90b7ed0dee6f3325", func := "stairwell/stairwelllaw01.OctetNil", spec := "octetNil", inPlace := ["internal/abi.NoEscape"], apart := false, narrowed := true }
def OctetNilUptoSaid : Prop := octetNilUptoRow.holds Try.pinned (OpenSpec.upto octetNilSpec)

/-- 'stairwelllaw15.DiskPlays', WHERE WHAT IT READS IS OF BULK AT MOST 1048576: true; the input reads as it did. -/
def diskPlaysUptoRow : OpenClaim := { program := "ytopacbmdoognjaa", sum := "47d4e0a2ec44374a12c6df1001d8616ff3c29ba50e8b070e90b7ed0dee6f3325", func := "stairwell/stairwelllaw15.DiskPlays", spec := "diskPlays", apart := false, narrowed := true }
def DiskPlaysUptoSaid : Prop := diskPlaysUptoRow.holds Try.pinned (OpenSpec.upto diskPlaysSpec)

/-- 'stairwelllaw19.NotesLast', WHERE WHAT IT READS IS OF BULK AT MOST 1048576: true; the input reads as it did. -/
def notesLastUptoRow : OpenClaim := { program := "ytopacbmdoognjaa", sum := "47d4e0a2ec44374a12c6df1001d8616ff3c29ba50e8b070e90b7ed0dee6f3325", func := "stairwell/stairwelllaw19.NotesLast", spec := "notesLast", inPlace := ["internal/abi.NoEscape"], apart := false, narrowed := true }
def NotesLastUptoSaid : Prop := notesLastUptoRow.holds Try.pinned (OpenSpec.upto notesLastSpec)

/-- 'stairwelllaw19.NotesNumbers', WHERE WHAT IT READS IS OF BULK AT MOST 1048576: true; the input reads as it did. -/
def notesNumbersUptoRow : OpenClaim := { program := "ytopacbmdoognjaa", sum := "47d4e0a2ec44374a12c6df1001d8616ff3c29ba50e8b070e90b7ed0dee6f3325", func := "stairwell/stairwelllaw19.NotesNumbers", spec := "notesNumbers", inPlace := ["internal/abi.NoEscape"], apart := false, narrowed := true }
def NotesNumbersUptoSaid : Prop := notesNumbersUptoRow.holds Try.pinned (OpenSpec.upto notesNumbersSpec)

/-- 'stairwelllaw19.NotesReads', WHERE WHAT IT READS IS OF BULK AT MOST 1048576: true; the input reads as it did. -/
def notesReadsUptoRow : OpenClaim := { program := "ytopacbmdoognjaa", sum := "47d4e0a2ec44374a12c6df1001d8616ff3c29ba50e8b070e90b7ed0dee6f3325", func := "stairwell/stairwelllaw19.NotesReads", spec := "notesReads", inPlace := ["internal/abi.NoEscape"], apart := false, narrowed := true }
def NotesReadsUptoSaid : Prop := notesReadsUptoRow.holds Try.pinned (OpenSpec.upto notesReadsSpec)

/-- 'stairwelllaw19.NotesPlay', WHERE WHAT IT READS IS OF BULK AT MOST 1048576: true; the input reads as it did. -/
def notesPlayUptoRow : OpenClaim := { program := "ytopacbmdoognjaa", sum := "47d4e0a2ec44374a12c6df1001d8616ff3c29ba50e8b070e90b7ed0dee6f3325", func := "stairwell/stairwelllaw19.NotesPlay", spec := "notesPlay", inPlace := ["internal/abi.NoEscape"], recurses := true, apart := false, narrowed := true }
def NotesPlayUptoSaid : Prop := notesPlayUptoRow.holds Try.pinned (OpenSpec.upto notesPlaySpec)

/-- 'stairwelllaw01.OctetLong', WHERE WHAT IT READS IS OF BULK AT MOST 1048576: true; the input reads as it did. -/
def octetLongUptoRow : OpenClaim := { program := "ytopacbmdoognjaa", sum := "47d4e0a2ec44374a12c6df1001d8616ff3c29ba50e8b070e90b7ed0dee6f3325", func := "stairwell/stairwelllaw01.OctetLong", spec := "octetLong", inPlace := ["internal/abi.NoEscape", "internal/bytealg.MakeNoZero"], recurses := true, apart := false, narrowed := true }
def OctetLongUptoSaid : Prop := octetLongUptoRow.holds Try.pinned (OpenSpec.upto octetLongSpec)

end Rows
end Go.Proofs.Ytopacbmdoognjaa
