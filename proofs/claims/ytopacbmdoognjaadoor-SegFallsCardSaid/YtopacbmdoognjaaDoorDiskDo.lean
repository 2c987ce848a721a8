/- The walk of disk.Disk.do. -/
import Derived.Test.YtopacbmdoognjaaDoorDiskArm
import Derived.Lib.LazyBuf
import Derived.Lib.BufferWrite
namespace Go.Proofs.YtopacbmdoognjaaDoor.Disk
open Go Go.RowKit Frame
structure DoI (s : DSt) (L k : Nat) (cut : Int) (w wr : World) : Prop where
  l : Has L (bcells (done s.last (s.wait.take k) cut)) 5 wr
  o : Only L w wr
theorem left_le (ws : List Wr) : ∀ cut : Int, left ws cut ≤ cut ∧ (cut ≤ 0 → left ws cut = cut) ∧ (0 ≤ cut → 0 ≤ left ws cut) := by
  induction ws with
  | nil => intro cut; exact ⟨Int.le_refl _, fun _ => rfl, fun h => h⟩
  | cons x ws ih =>
    intro cut
    obtain ⟨k, d⟩ := x
    have h := ih (cut - (upto cut d.size : Int))
    have hu : (upto cut d.size : Int) = max 0 (min cut d.size) := by unfold upto; omega
    simp only [left]
    refine ⟨by omega, fun hc => ?_, fun hc => h.2.2 (by omega)⟩
    rw [h.2.1 (by omega)]
    omega
theorem take_snoc (ws : List Wr) (k : Nat) (h : k < ws.length) : ws.take (k + 1) = ws.take k ++ [ws.getD k (0, ByteArray.empty)] := by
  rw [List.take_succ_eq_append_getElem h]; simp [List.getD_eq_getElem?_getD, h]
theorem done_step (s : List UInt8) (ws : List Wr) (k : Nat) (h : k < ws.length) (cut : Int) :
    done s (ws.take (k + 1)) cut = put (done s (ws.take k) cut) (ws.getD k (0, ByteArray.empty)).1 ((ws.getD k (0, ByteArray.empty)).2.data.toList.take (upto (left (ws.take k) cut) (ws.getD k (0, ByteArray.empty)).2.size)) ∧
    left (ws.take (k + 1)) cut = left (ws.take k) cut - (upto (left (ws.take k) cut) (ws.getD k (0, ByteArray.empty)).2.size : Int) := by
  rw [take_snoc ws k h, done_append, left_append]
  exact ⟨rfl, rfl⟩
end Go.Proofs.YtopacbmdoognjaaDoor.Disk
