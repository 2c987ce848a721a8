/- The walks of stairwellref16: One, Bytes, Next, Scan, Same. -/
import Derived.Test.YtjnjcjildiadgaaDoorSegScan
import Derived.Test.YtjnjcjildiadgaaDoorOctRef
namespace Go.Proofs.YtjnjcjildiadgaaDoor.Sg
open Go Go.RowKit Frame Oct Frm
set_option maxRecDepth 100000 in
set_option maxHeartbeats 2000000 in
theorem refOne_calls (r : List UInt8) (hr : r.length ≤ 1000000000) (w : World) :
    Calls Tryd.prog 78 #[.string (bs r)] w fun e w' => e = .returned (.string (bs (one r))) ∧ Below w.heap.size w w' := by
  have hz : (bs r).size = r.length := bs_size _
  have HN := Lib.hid (fun W => RefNum_any r.length 4 W (by omega))
  rw [show be (wid 4) r.length = be 4 r.length from rfl] at HN
  have hc1 : (bs (be 4 r.length)).size + r.length ≤ 9223372036854775807 := by rw [bs_size, be_length]; omega
  have hb1 : bs (be 4 r.length) ++ bs r = bs (head r) := bs_append _ _
  have hfl : (head r).length ≤ 2000000000 := by rw [head_length]; omega
  have hzh : (bs (head r)).size = (head r).length := bs_size _
  have HSM := Lib.hid (fun W => Crc.refSum_calls (bs (head r)) (by rw [bs_size]; unfold maxLen; omega) W)
  rw [bs_toList] at HSM
  have HO := Lib.hid (show one r = head r ++ (be 4 (Crc.sum (head r)) ++ [165]) from rfl)
  generalize head r = fr at *
  have hsl := Crc.sum_lt fr
  have g3 : IntKind.u64.wrap ((Crc.sum fr : Nat) : Int) = ((Crc.sum fr : Nat) : Int) := IntWalk.u64_in _ (by omega)
  have HM := Lib.hid (fun W => RefNum_any (Crc.sum fr) 4 W (by omega))
  rw [show be (wid 4) (Crc.sum fr) = be 4 (Crc.sum fr) from rfl] at HM
  have hc2 : fr.length + (bs (be 4 (Crc.sum fr))).size ≤ 9223372036854775807 := by rw [bs_size, be_length]; omega
  have hb2 : bs fr ++ bs (be 4 (Crc.sum fr)) = bs (fr ++ be 4 (Crc.sum fr)) := bs_append _ _
  have hc3 : (bs (fr ++ be 4 (Crc.sum fr))).size + 1 ≤ 9223372036854775807 := by rw [bs_size, List.length_append, be_length]; omega
  have hb3 : bs (fr ++ be 4 (Crc.sum fr)) ++ ⟨#[165]⟩ = bs (fr ++ (be 4 (Crc.sum fr) ++ [165])) := by rw [← List.append_assoc]; exact bs_append _ [165]
  go_enter Tryd.func78, Tryd.ntmps78
  go_wp2_with fail
  refine (HN.out _).mono ?_
  rintro e w1 ⟨rfl, b1⟩
  have B1 := Lib.hid b1
  clear b1
  go_wp2_with fail
  refine (HSM.out _).mono ?_
  rintro e w2 ⟨rfl, rfl⟩
  go_wp2_with fail
  refine (HM.out _).mono ?_
  rintro e w3 ⟨rfl, b3⟩
  have B3 := Lib.hid (bthen B1.out b3)
  clear b3
  go_wp2_with fail
  go_ret
  rw [HO.out]
  exact ⟨rfl, B3.out⟩
end Go.Proofs.YtjnjcjildiadgaaDoor.Sg
