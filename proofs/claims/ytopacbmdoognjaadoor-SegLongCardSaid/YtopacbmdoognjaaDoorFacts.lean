/- Closed facts on the loaded program that every row of the seat asks: each once, by the kernel. -/
import Derived.Test.YtopacbmdoognjaaDoorRows
import Derived.Test.YtopacbmdoognjaaDoorCards
import Derived.ProofKit
namespace Go.Proofs.YtopacbmdoognjaaDoor.Facts
theorem mayEnter : Tryd.prog.mayEnter = true := by kernel_rfl
theorem lifted : (false == Tryd.prog.liftsFinal) = true := by kernel_rfl
theorem make : (Tryd.prog.make == some Make.cut) = true := by kernel_rfl
theorem mainIs : Tryd.prog.mainIs = some (Rows.walRoomCard.stood.harness.1, Rows.walRoomCard.stood.harness.2.toList) := by kernel_rfl
theorem looks : false = Tryd.prog.looks [] := by kernel_rfl
theorem and2 {a b : Bool} (ha : a = true) (hb : b = true) : (a && b) = true := by rw [ha, hb]; rfl
end Go.Proofs.YtopacbmdoognjaaDoor.Facts
