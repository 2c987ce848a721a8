/- The walks of the chapter's example and of SegNexts. -/
import Derived.Test.YtjnjcjildiadgaaDoorSegRefC
import Derived.Test.YtjnjcjildiadgaaDoorFrameLaws
namespace Go.Proofs.YtjnjcjildiadgaaDoor.Sg
open Go Go.RowKit Frame Oct Frm
theorem SS.one {p : Nat} {r : List UInt8} {t : TypeId} {w : World} (h : Has p #[.string (bs r)] t w) : SS (some ⟨p, 0, none⟩) [r] w := fun _ => by
  refine ⟨p, 0, rfl, h.lt, fun i hi => ?_⟩
  obtain rfl : i = 0 := by simpa using hi
  exact h.cell 0
theorem bytes_one (r : List UInt8) (h : bad r = 0) : bytes [r] = (one r, 0) := by
  unfold bytes
  rw [err_of (l := [r]) (fun x hx => by rw [List.mem_singleton.1 hx]; exact h), if_neg (by decide)]
  simp [cat]
theorem bytes_bad (r : List UInt8) (h : bad r ≠ 0) : bytes [r] = ([], bad r) := by
  have : err [r] = bad r := by unfold err; rw [if_pos h]
  unfold bytes
  rw [this, if_pos h]
theorem Bytes_one (p : Nat) (r : List UInt8) (w : World) (hT : Crc.Tab w) (h : SS (some ⟨p, 0, none⟩) [r] w) :
    Calls Tryd.prog 36 #[.slice (some ⟨p, 0, none⟩) 1 1] w fun e w' => e = .returned (.tuple #[.string (bs (bytes [r]).1), .int .i64 (bytes [r]).2]) ∧ Below w.heap.size w w' :=
  Bytes_calls (some ⟨p, 0, none⟩) 1 [r] (by simp) w hT h
def ab : List UInt8 := [97, 98]
theorem ab_len : (one ab).length = 11 := one_length _
theorem ab_front : (one ab).take 6 = [0, 0, 0, 2, 97, 98] := by decide +kernel
theorem ab_last : (one ab).getD 10 0 = 165 := by decide +kernel
theorem ab_next : next (one ab) = (ab, 11, 0) := by
  have := next_one ab [] (by decide)
  rwa [List.append_nil] at this
set_option maxRecDepth 100000 in
set_option maxHeartbeats 2000000 in
theorem awake_calls (w : World) (hT : Crc.Tab w) : Calls Tryd.prog 42 #[] w fun e w' => e = .returned (.bool true) ∧ Below w.heap.size w w' := by
  have HT := Lib.hid hT
  clear hT
  have hb0 := Lib.hid ((Below.refl w.heap.size w).alloc (Nat.le_refl _) (.cells #[.string (bs ab)] 9))
  have HT0 := Lib.hid (HT.out.below hb0.out)
  have HB := Lib.hid (Bytes_one w.heap.size ab (w.alloc (.cells #[.string (bs ab)] 9)) HT0.out (SS.one (Has.new w _ _)))
  rw [bytes_one ab (by decide)] at HB
  have HN := Lib.hid (fun W h => Next_calls (one ab) (by rw [ab_len]; decide) W h)
  rw [ab_next] at HN
  have HZ := Lib.hid (fun W => Size_calls ab (by decide) W)
  have hx := idx (one ab) 10 10 rfl (by rw [ab_len]; decide)
  rw [ab_last, show ((165 : UInt8).toNat : Int) = 165 from by decide] at hx
  have hz : (bs (one ab)).size = 11 := by rw [bs_size, ab_len]
  have hext : (bs (one ab)).extract 0 6 = ⟨#[0, 0, 0, 2, 97, 98]⟩ := by rw [extract_to, ab_front]; rfl
  rw [show (ab.length + 9 : Nat) = 11 from rfl] at HZ
  change Hid (∀ W, Calls Tryd.prog 61 #[.string ⟨#[97, 98]⟩] W _) at HZ
  change Hid (∀ W, Crc.Tab W → Calls Tryd.prog 59 #[.string (bs (one ab))] W fun e w' => e = .returned (.tuple #[.string ⟨#[97, 98]⟩, .int .i64 11, .int .i64 0]) ∧ Below W.heap.size W w') at HN
  generalize bs (one ab) = s at *
  unfold ab bs at hb0 HT0 HB
  simp only at HB
  go_enter Tryd.func42, Tryd.ntmps42
  go_wp2_with fail
  refine HB.out.mono ?_
  rintro e w1 ⟨rfl, b1⟩
  have B1 := Lib.hid (bthen hb0.out b1)
  have HT1 := Lib.hid (HT0.out.below b1)
  clear b1
  go_wp2_with fail
  refine (HN.out _ HT1.out).mono ?_
  rintro e w2 ⟨rfl, b2⟩
  have B2 := Lib.hid (bthen B1.out b2)
  have HT2 := Lib.hid (HT1.out.below b2)
  clear b2
  go_wp2_with fail
  refine (Frm.Awake2_calls _ HT2.out).mono ?_
  rintro e w3 ⟨rfl, b3⟩
  have B3 := Lib.hid (bthen B2.out b3)
  clear b3
  go_wp2_with fail
  refine (HZ.out _).mono ?_
  rintro e w4 ⟨rfl, rfl⟩
  go_wp2_with fail
  go_ret
  exact ⟨rfl, B3.out⟩
end Go.Proofs.YtjnjcjildiadgaaDoor.Sg
