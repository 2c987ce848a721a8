/- The walk of stairwelllaw01's awake: its examples hold. -/
import Derived.Test.YtjnjcjildiadgaaDoorOctText
import Derived.Test.YtjnjcjildiadgaaDoorOctNum
namespace Go.Proofs.YtjnjcjildiadgaaDoor.Oct
open Go Go.RowKit Frame
def e0 : ByteArray := ⟨#[]⟩
theorem OutNum_ex (w : World) : Calls Tryd.prog 55 #[.agg #[.string ⟨#[]⟩, .int .i64 0], .int .u64 258, .int .i64 2] w fun e' w' => e' = .returned (.agg #[.string ⟨#[1, 2]⟩, .int .i64 0]) ∧ Below w.heap.size w w' :=
  OutNum_calls ⟨#[]⟩ 0 258 2 (by decide) (by decide) w
theorem InNum_ex (w : World) : Calls Tryd.prog 45 #[.pointer (some ⟨w.heap.size, 0, none⟩), .int .i64 2] (w.alloc (.cells #[.string ⟨#[1, 2]⟩, .int .i64 0] 95)) fun e' w' => e' = .returned (.int .u64 258) ∧ Below w.heap.size w w' :=
  (Num_calls w.heap.size ([1, 2], 0) 2 (by decide) _ (Has.new w #[.string (bs [1, 2]), .int .i64 0] 95)).mono fun e' w' ⟨he, _, ho⟩ => ⟨he, Only.to_below ((Below.refl _ w).alloc (Nat.le_refl _) _) ho (Nat.le_refl _) (by simp)⟩
end Go.Proofs.YtjnjcjildiadgaaDoor.Oct
