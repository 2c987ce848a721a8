/- The walk of FrameBytes. -/
import Derived.Test.YtopacbmdoognjaaDoorFrameWhole
import Derived.Deep.RegionLaw
namespace Go.Proofs.YtopacbmdoognjaaDoor.Frm
open Go Go.RowKit Frame Oct
set_option maxRecDepth 100000 in
set_option maxHeartbeats 1000000 in
theorem FrameBytes_walk (f : Fm) (more : Nat) (s : ByteArray) (hb : f.body.length ≤ maxLen) (hm : more < 65536) (w : World) (hT : Crc.Tab w) :
    Calls Tryd.prog 18 #[FV f, .int .u16 (more : Int), .string s] w fun e w' => e = .returned (.bool true) ∧ Below w.heap.size w w' := by
  unfold maxLen at hb
  obtain ⟨t, rfl⟩ : ∃ t, s = bs t := ⟨s.data.toList, (bs_self s).symm⟩
  have hz : (bs f.body).size = f.body.length := bs_size _
  have hzt : (bs t).size = t.length := bs_size _
  obtain ⟨ch, kd, body⟩ := f
  simp only at hb hz
  have hB0 : Below w.heap.size w (w.alloc (.cells #[.int .u8 ch.toNat, .int .u8 kd.toNat, .string (bs body)] 35)) := (Below.refl _ _).alloc (Nat.le_refl _) _
  have HN := Lib.hid (Has.new w #[.int .u8 ch.toNat, .int .u8 kd.toNat, .string (bs body)] 35)
  have HTw := Lib.hid hT
  have HT := Lib.hid (hT.below hB0)
  have HB0 := Lib.hid hB0
  clear hT hB0
  unfold FV
  simp only
  go_enter Tryd.func18, Tryd.ntmps18
  go_wp2_with fail
  generalize w.alloc (.cells #[.int .u8 ch.toNat, .int .u8 kd.toNat, .string (bs body)] 35) = w0 at *
  refine (awake_calls _ HT.out).mono ?_
  rintro e w1 ⟨rfl, b1⟩
  have HT1 := Lib.hid (HT.out.below b1)
  have HN1 := Lib.hid (HN.out.below b1)
  have B1 := Lib.hid (bthen HB0.out b1)
  clear b1
  have y0 := HN1.out.cell 0; have y1 := HN1.out.cell 1; have y2 := HN1.out.cell 2
  by_cases h3 : 300 < body.length
  · go_wp2_with fail
    go_ret
    exact ⟨rfl, B1.out⟩
  · have d3 : decide ((300 : Int) < (body.length : Int)) = false := decide_eq_false (by omega)
    by_cases h4 : 100 < t.length
    · go_wp2_with fail
      go_ret
      exact ⟨rfl, B1.out⟩
    · have d4 : decide ((100 : Int) < (t.length : Int)) = false := decide_eq_false (by omega)
      by_cases h5 : 2100 < more
      · go_wp2_with fail
        go_ret
        exact ⟨rfl, B1.out⟩
      · have d5 : decide ((2100 : Int) < (more : Int)) = false := decide_eq_false (by omega)
        have HR := Lib.hid (fun W => Repeat_a more (by omega) W)
        have g1 : IntKind.i64.wrap (more : Int) = (more : Int) := IntWalk.i64_in _ (by omega)
        have z1 : (bs (List.replicate more (97 : UInt8))).size = more := by rw [bs_size]; simp
        have e1 : bs body ++ bs (List.replicate more (97 : UInt8)) = bs (body ++ List.replicate more 97) := bs_append _ _
        have hbl2 : (body ++ List.replicate more (97 : UInt8)).length = body.length + more := by simp
        have f1 : ¬ (9223372036854775807 < body.length + more) := by omega
        have hwl := HN1.out.lt
        generalize List.replicate more (97 : UInt8) = rp at *
        generalize body ++ rp = body2 at *
        go_wp2_with fail
        have HD := Lib.hid HN1.out.drew
        have u0 : w1.drew.cell? ⟨w.heap.size, 2, none⟩ = some (.string (bs body)) := HD.out.cell 2
        go_region_law (first
          | (go_simp; go_at_call 53; (with_reducible refine Calls.mono (HR.out _) ?_); rintro e w2 ⟨rfl, b2⟩; have HN2 := Lib.hid (HD.out.below b2); have v2 := HN2.out.cell 2; have vf := HN2.out.frozen))
        all_goals
          have HN3 := Lib.hid (show Has w.heap.size #[.int .u8 ch.toNat, .int .u8 kd.toNat, .string (bs body2)] 35 (w2.setCell ⟨w.heap.size, 2, none⟩ (.string (bs body2))) from by simpa using HN2.out.set (i := 2) (.string (bs body2)))
          have B3 := Lib.hid ((bthen B1.out (after_drew b2)).setCell (p := ⟨w.heap.size, 2, none⟩) (Nat.le_refl _) (.string (bs body2)))
          have HT3 := Lib.hid (HTw.out.below B3.out)
          clear u0 v2 vf HN2 HD b2 HN1 HT1 B1 HT HB0 HN y0 y1 y2 z1 e1 f1 g1 HR d3 d4 d5
          generalize w2.setCell ⟨w.heap.size, 2, none⟩ (.string (bs body2)) = w3 at *
          have y0 := HN3.out.cell 0; have y1 := HN3.out.cell 1; have y2 := HN3.out.cell 2
          have hz2 : (bs body2).size = body2.length := bs_size _
          by_cases hL : 2048 < body2.length
          · have HB := Lib.hid (fun W => Bytes_long ⟨ch, kd, body2⟩ hL W)
            unfold FV at HB
            simp only at HB
            go_wp2_with (go_at_call 30; refine Calls.mono (HB.out _) ?_; rintro e w4 ⟨rfl, b4⟩; have HN4 := Lib.hid (HN3.out.below b4); have x2 := HN4.out.cell 2)
            go_ret
            exact ⟨rfl, bthen B3.out b4⟩
          · have dL : decide ((2048 : Int) < (body2.length : Int)) = false := decide_eq_false (by omega)
            have hbl := bytes_length ⟨ch, kd, body2⟩
            simp only at hbl
            have HB := Lib.hid (fun W h => Bytes_calls ⟨ch, kd, body2⟩ (by simp only; omega) W h)
            have HRB := Lib.hid (fun W => refBytes_calls ⟨ch, kd, body2⟩ (by simp only; omega) W)
            have HP := Lib.hid (fun W h => Parse_calls (bytes ⟨ch, kd, body2⟩ ++ t) (by rw [List.length_append]; omega) W h)
            rw [parse_bytes ⟨ch, kd, body2⟩ t (by simp only; omega)] at HP
            have HS := Lib.hid (fun W => Same_self ⟨ch, kd, body2⟩ W)
            unfold FV at HB HRB HP HS
            simp only at HB HRB HP HS
            have e2 : bs (bytes ⟨ch, kd, body2⟩) ++ bs t = bs (bytes ⟨ch, kd, body2⟩ ++ t) := bs_append _ _
            have q1 : (bs (bytes ⟨ch, kd, body2⟩)).size = body2.length + 9 := by rw [bs_size, hbl]
            have f2 : ¬ (9223372036854775807 < body2.length + 9 + t.length) := by omega
            clear hbl
            generalize bytes ⟨ch, kd, body2⟩ = by2 at *
            go_wp2_with fail
            refine (HB.out _ HT3.out).mono ?_
            rintro e w4 ⟨rfl, b4⟩
            have HN4 := Lib.hid (HN3.out.below b4)
            have HT4 := Lib.hid (HT3.out.below b4)
            have B4 := Lib.hid (bthen B3.out b4)
            clear y0 y1 y2 b4
            have y0 := HN4.out.cell 0; have y1 := HN4.out.cell 1; have y2 := HN4.out.cell 2
            go_wp2_with fail
            refine (HP.out _ HT4.out).mono ?_
            rintro e w5 ⟨rfl, b5⟩
            have b6 := bthen b5 ((Below.refl w5.heap.size w5).alloc (Nat.le_refl _) (.cells #[.int .u8 ch.toNat, .int .u8 kd.toNat, .string (bs body2)] 35))
            have HN5 := Lib.hid (HN4.out.below b6)
            have HG5 := Lib.hid (Has.new w5 #[.int .u8 ch.toNat, .int .u8 kd.toNat, .string (bs body2)] 35)
            have B5 := Lib.hid (bthen B4.out b6)
            clear y0 y1 y2 b5 b6
            have y0 := HN5.out.cell 0; have y1 := HN5.out.cell 1; have y2 := HN5.out.cell 2
            have hyl := HN5.out.lt
            go_wp2_with fail
            refine (HRB.out _).mono ?_
            rintro e w6 ⟨rfl, b6⟩
            have HN6 := Lib.hid (HN5.out.below b6)
            have HG6 := Lib.hid (HG5.out.below b6)
            have B6 := Lib.hid (bthen B5.out b6)
            clear y0 y1 y2 b6
            have y0 := HN6.out.cell 0; have y1 := HN6.out.cell 1; have y2 := HN6.out.cell 2
            have g0 := HG6.out.cell 0; have g1 := HG6.out.cell 1; have g2 := HG6.out.cell 2
            go_wp2_with fail
            refine (HS.out _).mono ?_
            rintro e w7 ⟨rfl, b7⟩
            go_wp2_with fail
            go_ret
            exact ⟨rfl, bthen B6.out b7⟩
end Go.Proofs.YtopacbmdoognjaaDoor.Frm
