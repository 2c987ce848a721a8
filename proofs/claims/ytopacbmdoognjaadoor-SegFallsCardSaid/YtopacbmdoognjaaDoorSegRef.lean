/- The walks of stairwellref16: One, Bytes, Next, Scan, Same. -/
import Derived.Test.YtopacbmdoognjaaDoorSegScan
import Derived.Test.YtopacbmdoognjaaDoorOctRef
namespace Go.Proofs.YtopacbmdoognjaaDoor.Sg
open Go Go.RowKit Frame Oct Frm
set_option maxRecDepth 100000 in
set_option maxHeartbeats 2000000 in
theorem refOne_calls (r : List UInt8) (hr : r.length ≤ 1000000000) (w : World) :
    Calls Tryd.prog 87 #[.string (bs r)] w fun e w' => e = .returned (.string (bs (one r))) ∧ Below w.heap.size w w' := by
  have hz : (bs r).size = r.length := bs_size _
  have HN := Lib.hid (fun W => RefNum_any r.length 4 W (by omega))
  rw [show be (wid 4) r.length = be 4 r.length from rfl] at HN
  have hc1 : (bs (be 4 r.length)).size + r.length ≤ 9223372036854775807 := by rw [bs_size, be_length]; omega
  have hb1 : bs (be 4 r.length) ++ bs r = bs (head r) := bs_append _ _
  have hfl : (head r).length ≤ 2000000000 := by rw [head_length]; omega
  have hzh : (bs (head r)).size = (head r).length := bs_size _
  have HSM := Lib.hid (fun W => Crc.refSum_calls (bs (head r)) (by rw [bs_size]; unfold maxLen; omega) W)
  rw [bs_toList] at HSM
  have HO := Lib.hid (show one r = head r ++ (be 4 (Crc.sum (head r)) ++ [165]) from rfl)
  generalize head r = fr at *
  have hsl := Crc.sum_lt fr
  have g3 : IntKind.u64.wrap ((Crc.sum fr : Nat) : Int) = ((Crc.sum fr : Nat) : Int) := IntWalk.u64_in _ (by omega)
  have HM := Lib.hid (fun W => RefNum_any (Crc.sum fr) 4 W (by omega))
  rw [show be (wid 4) (Crc.sum fr) = be 4 (Crc.sum fr) from rfl] at HM
  have hc2 : fr.length + (bs (be 4 (Crc.sum fr))).size ≤ 9223372036854775807 := by rw [bs_size, be_length]; omega
  have hb2 : bs fr ++ bs (be 4 (Crc.sum fr)) = bs (fr ++ be 4 (Crc.sum fr)) := bs_append _ _
  have hc3 : (bs (fr ++ be 4 (Crc.sum fr))).size + 1 ≤ 9223372036854775807 := by rw [bs_size, List.length_append, be_length]; omega
  have hb3 : bs (fr ++ be 4 (Crc.sum fr)) ++ ⟨#[165]⟩ = bs (fr ++ (be 4 (Crc.sum fr) ++ [165])) := by rw [← List.append_assoc]; exact bs_append _ [165]
  go_enter Tryd.func87, Tryd.ntmps87
  go_wp2_with fail
  refine (HN.out _).mono ?_
  rintro e w1 ⟨rfl, b1⟩
  have B1 := Lib.hid b1
  clear b1
  go_wp2_with fail
  refine (HSM.out _).mono ?_
  rintro e w2 ⟨rfl, rfl⟩
  go_wp2_with fail
  refine (HM.out _).mono ?_
  rintro e w3 ⟨rfl, b3⟩
  have B3 := Lib.hid (bthen B1.out b3)
  clear b3
  go_wp2_with fail
  go_ret
  rw [HO.out]
  exact ⟨rfl, B3.out⟩
set_option maxRecDepth 100000 in
set_option maxHeartbeats 4000000 in
theorem refBytes_calls (A : Option Addr) (c : Nat) (l : List (List UInt8)) (hl : l.length ≤ 1000000) (w : World) (hA : SS A l w) :
    Calls Tryd.prog 38 #[.slice A l.length c] w fun e w' => e = .returned (.tuple #[.string (bs (bytes l).1), .int .i64 (bytes l).2]) ∧ Below w.heap.size w w' := by
  have HA := Lib.hid hA
  clear hA
  go_enter Tryd.func38, Tryd.ntmps38
  go_wp2_with fail
  go_loopw [4, 9] (fun s i wr => ∃ k : Nat, k ≤ l.length ∧ i = .int .i64 k ∧ s = .string (bs (cat (l.take k))) ∧ Hid (Below w.heap.size w wr) ∧ Hid (err (l.take k) = 0)) (fun _ i _ => l.length - (intOf i).toNat)
  case atStart => exact ⟨0, by omega, rfl, rfl, Lib.hid (Below.refl _ _), Lib.hid rfl⟩
  case round =>
    obtain ⟨k, hk, rfl, rfl, hB, hE⟩ := hrel
    by_cases hlt : k < l.length
    · obtain ⟨b, off, rfl, hbl, hi⟩ := (HA.out.below hB.out) (by omega)
      have ck := hi k hlt
      have HC := Lib.hid (cat_take_succ l k hlt)
      have HER := Lib.hid (err_take l k hlt hE.out)
      have HES := Lib.hid (err_take_succ l k hlt hE.out)
      have HU := used_take_le (l.take k) 131072 (fun r hr => bad_le (err_ok hE.out r hr)) k
      rw [List.take_take, Nat.min_self, ← cat_length] at HU
      have hzu : (bs (cat (l.take k))).size = (cat (l.take k)).length := bs_size _
      have hsz := hB.out.size
      clear hi
      generalize l.getD k [] = r at *
      have hzr : (bs r).size = r.length := bs_size _
      by_cases h0 : r.length = 0
      · have h0' := bs_eq_empty r h0
        have hb : bad r = 15 := by unfold bad; rw [if_pos h0]
        have HR := Lib.hid (show bytes l = ([], 15) by
          have := HER.out
          rw [hb, if_pos (by decide)] at this
          unfold bytes
          rw [this, if_pos (by decide)])
        clear hb
        go_wp2_with fail
        go_ret2
        rw [HR.out]
        exact ⟨rfl, hB.out⟩
      · have h0' := bs_ne_empty r h0
        by_cases h5 : 131072 < r.length
        · have hb : bad r = 5 := by unfold bad; rw [if_neg h0, if_pos h5]
          have HR := Lib.hid (show bytes l = ([], 5) by
            have := HER.out
            rw [hb, if_pos (by decide)] at this
            unfold bytes
            rw [this, if_pos (by decide)])
          clear hb h0
          go_wp2_with fail
          go_ret2
          rw [HR.out]
          exact ⟨rfl, hB.out⟩
        · have HB0 := Lib.hid (show bad r = 0 by unfold bad; rw [if_neg h0, if_neg h5])
          have hob : (bs (one r)).size = r.length + 9 := by rw [bs_size, one_length]
          have hap : bs (cat (l.take k)) ++ bs (one r) = bs (cat (l.take (k + 1))) := by rw [HC.out]; exact bs_append _ _
          have hc : (cat (l.take k)).length + (r.length + 9) ≤ 9223372036854775807 := by omega
          clear h0
          go_wp2_with fail
          refine (refOne_calls r (by omega) _).mono ?_
          rintro e w1 ⟨rfl, b1⟩
          have HB1 := Lib.hid (bthen hB.out b1)
          clear b1
          go_wp2_with fail
          exact ⟨⟨k + 1, by omega, by go_num, rfl, HB1, Lib.hid (HES.out HB0.out)⟩, by simp [intOf]; omega⟩
    · obtain rfl : k = l.length := by omega
      rw [List.take_length] at hE
      have HR := Lib.hid (show bytes l = (cat l, 0) by unfold bytes; rw [hE.out, if_neg (by decide)])
      rw [List.take_length]
      go_wp2_with fail
      go_ret2
      rw [HR.out]
      exact ⟨rfl, hB.out⟩
end Go.Proofs.YtopacbmdoognjaaDoor.Sg
