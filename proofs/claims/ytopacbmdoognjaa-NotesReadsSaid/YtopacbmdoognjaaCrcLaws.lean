/- The walks of the four laws of chapter 02. -/
import Derived.Test.YtopacbmdoognjaaCrcWalk
import Derived.Below
namespace Go.Proofs.Ytopacbmdoognjaa.Crc
open Go Go.RowKit
theorem bcell {W w1 : World} (hb : Below W.heap.size W w1) : (∀ b o, b < W.heap.size → w1.cell? ⟨b, o, none⟩ = W.cell? ⟨b, o, none⟩) ∧ (∀ b o, b < W.heap.size → w1.frozen? ⟨b, o, none⟩ = W.frozen? ⟨b, o, none⟩) :=
  ⟨fun b o h => hb.cell (p := ⟨b, o, none⟩) h, fun b o h => hb.frozen (p := ⟨b, o, none⟩) h⟩
def s1 : ByteArray := ⟨#[49, 50, 51, 52]⟩
def s2 : ByteArray := ⟨#[53, 54, 55, 56, 57]⟩
theorem sum12 : sum (cat [s1, s2]) = 3421780262 := by decide +kernel
theorem sum0 : sum (cat []) = 0 := by decide +kernel
theorem size12 : ∀ s ∈ [s1, s2], s.size ≤ maxLen := by
  intro s hs
  simp only [List.mem_cons, List.not_mem_nil, or_false] at hs
  rcases hs with rfl | rfl <;> decide
theorem beq_cast (a b : Nat) : ((a : Int) == (b : Int)) = decide (a = b) := by
  rw [Bool.eq_iff_iff]; simp; omega

theorem cat3 (a b c : ByteArray) : (a ++ b ++ c).data.toList = cat [a, b, c] := by simp [cat]

end Go.Proofs.Ytopacbmdoognjaa.Crc
