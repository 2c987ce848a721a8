/- slices.Grow of notes: the shelf's contract, laid here. -/
import Derived.Shelf.Spec.SlicesGrow
import Derived.Test.YtopacbmdoognjaaProg
namespace Go.Proofs
open Go Go.Shelf
shelf_lay_g Lays8.n4 Nm8 4 at Try 96 as Try.growNotes
end Go.Proofs
