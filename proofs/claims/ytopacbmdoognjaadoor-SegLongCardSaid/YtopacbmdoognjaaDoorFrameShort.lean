/- The walks of FrameShort and FrameTurned. -/
import Derived.Test.YtopacbmdoognjaaDoorFrmB
import Derived.Test.YtopacbmdoognjaaDoorFramePlain
import Derived.Lib.SmallJoins
import Derived.Test.YtopacbmdoognjaaDoorOpen
namespace Go.Proofs.YtopacbmdoognjaaDoor.Frm
open Go Go.RowKit Frame Oct
theorem Same_self (f : Fm) (w : World) : Calls Tryd.prog 31 #[FV f, FV f] w fun e w' => e = .returned (.bool true) ∧ Below w.heap.size w w' := by
  unfold FV
  go_enter Tryd.func31, Tryd.ntmps31
  go_wp2_with fail
  go_ret
  exact ⟨rfl, ((Below.refl _ _).alloc (Nat.le_refl _) _).alloc (by simp) _⟩
set_option maxRecDepth 100000 in
theorem open_frame {H : Type} {enc : TypeId × Value → H} {w : World} {base : Nat} {spare : Nat → Bool} {held : Bool} {r : Reach} {b0 : Nat} {v : Value} {d : DataW H} {p : List MemPlace}
    (hv : Value.okWide Tryd.prog w r b0 35 v) (h : DataW.Trod enc Tryd.prog w base spare held 35 v d p) : ∃ f : Fm, v = FV f ∧ f.body.length ≤ maxLen := by
  obtain ⟨v0, v1, v2, y0, y1, y2, n, rfl, -, -, t0, t1, t2⟩ := Joins.open_agg3 Tryd.underlying35 (by kernel_rfl) (by kernel_rfl) hv h
  obtain ⟨a, rfl⟩ := Open.byte_cell Tryd.underlying5 t0
  obtain ⟨b, rfl⟩ := Open.byte_cell Tryd.underlying5 t1
  obtain ⟨s, rfl, hs⟩ := Open.str_cell Tryd.underlying9 t2
  exact ⟨⟨a, b, s.data.toList⟩, by unfold FV; rw [bs_self], by simpa using hs⟩
set_option maxRecDepth 100000 in
set_option maxHeartbeats 2000000 in
theorem FrameShort_walk (f : Fm) (cut : Nat) (hb : f.body.length ≤ maxLen) (hc : cut < 65536) (w : World) (hT : Crc.Tab w) :
    Calls Tryd.prog 9 #[FV f, .int .u16 (cut : Int)] w fun e w' => e = .returned (.bool true) ∧ Below w.heap.size w w' := by
  unfold maxLen at hb
  have hz : (bs f.body).size = f.body.length := bs_size _
  have hB0 : Below w.heap.size w (w.alloc (.cells #[.int .u8 f.ch.toNat, .int .u8 f.kd.toNat, .string (bs f.body)] 35)) := (Below.refl _ _).alloc (Nat.le_refl _) _
  have HN := Lib.hid (Has.new w #[.int .u8 f.ch.toNat, .int .u8 f.kd.toNat, .string (bs f.body)] 35)
  have HT := Lib.hid (hT.below hB0)
  have HB0 := Lib.hid hB0
  clear hT hB0
  have HBY := Lib.hid (fun h W => Bytes_calls f h W)
  unfold FV at HBY ⊢
  go_enter Tryd.func9, Tryd.ntmps9
  go_wp2_with fail
  generalize w.alloc (.cells #[.int .u8 f.ch.toNat, .int .u8 f.kd.toNat, .string (bs f.body)] 35) = w0 at *
  refine (awake_calls _ HT.out).mono ?_
  rintro e w1 ⟨rfl, b1⟩
  have HT1 := Lib.hid (HT.out.below b1)
  have HN1 := Lib.hid (HN.out.below b1)
  have B1 := Lib.hid (bthen HB0.out b1)
  clear b1
  have y0 := HN1.out.cell 0; have y1 := HN1.out.cell 1; have y2 := HN1.out.cell 2
  by_cases h3 : 300 < f.body.length
  · go_wp2_with fail
    go_ret
    exact ⟨rfl, B1.out⟩
  · have hbl := bytes_length f
    have hz2 : (bs (bytes f)).size = f.body.length + 9 := by rw [bs_size, hbl]
    obtain ⟨k, hk⟩ : ∃ k, cut % (f.body.length + 9) = k := ⟨_, rfl⟩
    have hkl : k < f.body.length + 9 := by rw [← hk]; exact Nat.mod_lt _ (by omega)
    have hkk : (cut : Int) % ((f.body.length + 9 : Nat) : Int) = (k : Int) := by rw [← hk]; omega
    have hkk2 : (cut : Int) % ((f.body.length : Int) + 9) = (k : Int) := hkk
    have hx : (bs (bytes f)).extract 0 k = bs ((bytes f).take k) := extract_to _ _
    have HP := Lib.hid (fun W h => Parse_calls ((bytes f).take k) (by rw [List.length_take]; omega) W h)
    rw [parse_short f k (by omega) hkl] at HP
    unfold FV zero at HP
    simp only at HP
    have hk0 : (0 : Int) ≤ (k : Int) := by omega
    have hk1 : (k : Int) ≤ ((f.body.length : Int) + 9) := by omega
    clear hk
    go_wp2_with fail
    refine (HBY.out (by omega) _ HT1.out).mono ?_
    rintro e w2 ⟨rfl, b2⟩
    have HT2 := Lib.hid (HT1.out.below b2)
    have B2 := Lib.hid (bthen B1.out b2)
    clear b2 y0 y1 y2
    go_wp2_with fail
    refine (HP.out _ HT2.out).mono ?_
    rintro e w3 ⟨rfl, b3⟩
    have B3 := Lib.hid (bthen B2.out b3)
    clear b3
    have HS := Lib.hid (fun W => Same_self zero W)
    unfold FV zero at HS
    simp only at HS
    go_wp2_with fail
    refine (HS.out _).mono ?_
    rintro e w4 ⟨rfl, b4⟩
    have B4 := Lib.hid (bthen B3.out (after_alloc b4))
    clear b4
    go_wp2_with fail
    go_ret
    exact ⟨rfl, B4.out⟩
end Go.Proofs.YtopacbmdoognjaaDoor.Frm
