/- The walks of the laws of chapter 07: awake, Same, FrameParses. -/
import Derived.Test.YtopacbmdoognjaaDoorFrameBytes
import Derived.Test.YtopacbmdoognjaaDoorOctAwake
namespace Go.Proofs.YtopacbmdoognjaaDoor.Frm
open Go Go.RowKit Frame Oct
theorem Awake1_calls (w : World) : Calls Tryd.prog 73 #[] w fun e w' => e = .returned (.bool true) ∧ Below w.heap.size w w' := by
  go_enter Tryd.func73, Tryd.ntmps73
  go_wp2_with fail
  refine (Oct.awake_calls _).mono ?_
  rintro e w1 ⟨rfl, b1⟩
  go_wp2_with fail
  go_ret
  exact ⟨rfl, b1⟩
theorem Awake2_calls (w : World) (hT : Crc.Tab w) : Calls Tryd.prog 74 #[] w fun e w' => e = .returned (.bool true) ∧ Below w.heap.size w w' := by
  go_enter Tryd.func74, Tryd.ntmps74
  go_wp2_with fail
  refine (Crc.awake_calls _ hT).mono ?_
  rintro e w1 ⟨rfl, b1⟩
  clear hT
  go_wp2_with fail
  go_ret
  exact ⟨rfl, b1⟩
theorem ex_len : (bytes ⟨1, 2, []⟩).length = 9 := by decide +kernel
theorem ex_last : (bytes ⟨1, 2, []⟩).getD 8 0 = 206 := by decide +kernel
set_option maxRecDepth 100000 in
set_option maxHeartbeats 1000000 in
theorem awake_calls (w : World) (hT : Crc.Tab w) : Calls Tryd.prog 27 #[] w fun e w' => e = .returned (.bool true) ∧ Below w.heap.size w w' := by
  have HT := Lib.hid hT
  have HB := Lib.hid (show Calls Tryd.prog 30 #[.agg #[.int .u8 1, .int .u8 2, .string ⟨#[]⟩]] w fun e w' => e = .returned (.tuple #[.string (bs (bytes ⟨1, 2, []⟩)), .int .i64 0]) ∧ Below w.heap.size w w' from Bytes_calls ⟨1, 2, []⟩ (by decide) w hT)
  have hx := idx (bytes ⟨1, 2, []⟩) 8 8 rfl (by rw [ex_len]; decide)
  rw [ex_last] at hx
  have hz : (bs (bytes ⟨1, 2, []⟩)).size = 9 := by rw [bs_size, ex_len]
  have h206 : ((206 : UInt8).toNat : Int) = 206 := by decide
  rw [h206] at hx
  clear hT h206
  generalize bs (bytes ⟨1, 2, []⟩) = s at *
  go_enter Tryd.func27, Tryd.ntmps27
  go_wp2_with fail
  refine HB.out.mono ?_
  rintro e w1 ⟨rfl, b1⟩
  have HT1 := Lib.hid (HT.out.below b1)
  have B1 := Lib.hid b1
  clear b1
  go_wp2_with fail
  refine (Awake1_calls _).mono ?_
  rintro e w2 ⟨rfl, b2⟩
  have HT2 := Lib.hid (HT1.out.below b2)
  have B2 := Lib.hid (bthen B1.out b2)
  clear b2
  go_wp2_with fail
  refine (Awake2_calls _ HT2.out).mono ?_
  rintro e w3 ⟨rfl, b3⟩
  have B3 := Lib.hid (bthen B2.out b3)
  clear b3
  go_wp2_with fail
  go_ret
  exact ⟨rfl, B3.out⟩
set_option maxRecDepth 100000 in
set_option maxHeartbeats 1000000 in
theorem FrameParses_walk (s : ByteArray) (_hs : s.size ≤ maxLen) (w : World) (hT : Crc.Tab w) :
    Calls Tryd.prog 7 #[.string s] w fun e w' => e = .returned (.bool true) ∧ Below w.heap.size w w' := by
  obtain ⟨l, rfl⟩ : ∃ l, s = bs l := ⟨s.data.toList, (bs_self s).symm⟩
  have hz : (bs l).size = l.length := bs_size _
  have HT := Lib.hid hT
  clear hT
  go_enter Tryd.func7, Tryd.ntmps7
  go_wp2_with fail
  refine (awake_calls _ HT.out).mono ?_
  rintro e w1 ⟨rfl, b1⟩
  have HT1 := Lib.hid (HT.out.below b1)
  have B1 := Lib.hid b1
  clear b1
  by_cases h15 : 1500 < l.length
  · go_wp2_with fail
    go_ret
    exact ⟨rfl, B1.out⟩
  · have HP := Lib.hid (Parse_calls l (by omega) w1 HT1.out)
    have HR := Lib.hid (fun W => refParse_calls l (by omega) W)
    generalize parse l = r at *
    obtain ⟨f, n, c⟩ := r
    obtain ⟨ch, kd, body⟩ := f
    unfold FV at HP HR
    simp only at HP HR
    go_wp2_with fail
    refine HP.out.mono ?_
    rintro e w2 ⟨rfl, b2⟩
    have B2 := Lib.hid (bthen B1.out b2)
    have HN2 := Lib.hid (Has.new w2 #[.int .u8 ch.toNat, .int .u8 kd.toNat, .string (bs body)] 35)
    clear b2
    go_wp2_with fail
    refine (HR.out _).mono ?_
    rintro e w3 ⟨rfl, b3⟩
    have HN3 := Lib.hid (HN2.out.below b3)
    have B3 := Lib.hid (bthen B2.out (after_alloc b3))
    have y0 := HN3.out.cell 0; have y1 := HN3.out.cell 1; have y2 := HN3.out.cell 2; have yl := HN3.out.lt
    clear b3
    go_wp2_with fail
    go_ret
    exact ⟨rfl, B3.out.alloc B3.out.size _⟩
end Go.Proofs.YtopacbmdoognjaaDoor.Frm
