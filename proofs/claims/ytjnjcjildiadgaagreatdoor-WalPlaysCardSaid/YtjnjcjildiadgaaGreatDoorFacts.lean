/- Closed facts on the loaded program that every row of the seat asks: each once, by the kernel. -/
import Derived.Test.YtjnjcjildiadgaaGreatDoorRows
import Derived.Test.YtjnjcjildiadgaaGreatDoorCards
import Derived.ProofKit
namespace Go.Proofs.YtjnjcjildiadgaaGreatDoor.Facts
theorem mayEnter : Tryz.prog.mayEnter = true := by kernel_rfl
theorem lifted : (false == Tryz.prog.liftsFinal) = true := by kernel_rfl
theorem make : (Tryz.prog.make == some Make.cut) = true := by kernel_rfl
theorem mainIs : Tryz.prog.mainIs = some (Rows.walPlaysCard.stood.harness.1, Rows.walPlaysCard.stood.harness.2.toList) := by kernel_rfl
theorem looks : false = Tryz.prog.looks [] := by kernel_rfl
theorem and2 {a b : Bool} (ha : a = true) (hb : b = true) : (a && b) = true := by rw [ha, hb]; rfl
end Go.Proofs.YtjnjcjildiadgaaGreatDoor.Facts
