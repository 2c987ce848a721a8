/- Closed facts on the loaded program that every row of the seat asks: each once, by the kernel. -/
import Derived.Test.YtopacbmdoognjaaRows
import Derived.ProofKit
namespace Go.Proofs.Ytopacbmdoognjaa.Facts
theorem mayEnter : Try.prog.mayEnter = true := by kernel_rfl
theorem lifted : (false == Try.prog.liftsFinal) = true := by kernel_rfl
theorem make : (Try.prog.make == some Make.cut) = true := by kernel_rfl
theorem and2 {a b : Bool} (ha : a = true) (hb : b = true) : (a && b) = true := by rw [ha, hb]; rfl
end Go.Proofs.Ytopacbmdoognjaa.Facts
