/- The walks of the laws of chapter 07: awake, Same, FrameParses. -/
import Derived.Test.YtjnjcjildiadgaaDoorFrameBytes
import Derived.Test.YtjnjcjildiadgaaDoorOctAwake
namespace Go.Proofs.YtjnjcjildiadgaaDoor.Frm
open Go Go.RowKit Frame Oct
theorem Awake2_calls (w : World) (hT : Crc.Tab w) : Calls Tryd.prog 60 #[] w fun e w' => e = .returned (.bool true) ∧ Below w.heap.size w w' := by
  go_enter Tryd.func60, Tryd.ntmps60
  go_wp2_with fail
  refine (Crc.awake_calls _ hT).mono ?_
  rintro e w1 ⟨rfl, b1⟩
  clear hT
  go_wp2_with fail
  go_ret
  exact ⟨rfl, b1⟩
theorem ex_len : (bytes ⟨1, 2, []⟩).length = 9 := by decide +kernel
theorem ex_last : (bytes ⟨1, 2, []⟩).getD 8 0 = 206 := by decide +kernel
end Go.Proofs.YtjnjcjildiadgaaDoor.Frm
