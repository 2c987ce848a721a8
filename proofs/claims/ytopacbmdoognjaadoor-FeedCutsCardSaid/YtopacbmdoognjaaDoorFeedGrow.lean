/- slices.Grow of frames: the shelf's contract, laid here. -/
import Derived.Shelf.Spec.SlicesGrow
import Derived.Test.YtopacbmdoognjaaDoorProg
namespace Go.Proofs
open Go Go.Shelf
shelf_lay_g Lays8.n4 Nm8 4 at Tryd 91 as Tryd.growFrames
end Go.Proofs
