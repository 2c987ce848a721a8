/- The walk of octet.Out.Text: a text that has room, and one that has none. -/
import Derived.Test.YtjnjcjildiadgaaGreatDoorOctOut
namespace Go.Proofs.YtjnjcjildiadgaaGreatDoor.Oct
open Go Go.RowKit
/-- What a call of Text lays first. -/
def TextW (s : ByteArray) (e : Int) (w : World) : World :=
  (w.alloc (.cells #[.string s, .int .i64 e] 101)).alloc (.cells #[.string { data := #[] }, .int .i64 0] 101)
theorem TextW.below (s : ByteArray) (e : Int) (w : World) : Below w.heap.size w (TextW s e w) := ((Below.refl _ _).alloc (Nat.le_refl _) _).alloc (by simp) _
theorem TextW.size (s : ByteArray) (e : Int) (w : World) : (TextW s e w).heap.size = w.heap.size + 1 + 1 := by simp [TextW]

end Go.Proofs.YtjnjcjildiadgaaGreatDoor.Oct
