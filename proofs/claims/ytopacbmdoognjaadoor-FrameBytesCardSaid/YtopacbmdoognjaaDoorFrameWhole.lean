/- The walks of stairwellref07.Bytes and FrameBytes. -/
import Derived.Test.YtopacbmdoognjaaDoorFrameShort
import Derived.Test.YtopacbmdoognjaaDoorShelf
import Derived.Deep.RegionWith
import Derived.Deep.RegionHeld
import Derived.Lib.SlBytesRow
namespace Go.Proofs.YtopacbmdoognjaaDoor.Frm
open Go Go.RowKit Frame Oct
theorem Repeat_a (c : Nat) (hc : c ≤ 100000) (w : World) :
    Calls Tryd.prog 53 #[.string ⟨#[97]⟩, .int .i64 (c : Int)] w fun e w' => e = .returned (.string (bs (List.replicate c 97))) ∧ Below w.heap.size w w' := by
  rcases Nat.lt_or_ge c 2 with h | h
  · have h' : c = 0 ∨ c = 1 := by omega
    rcases h' with rfl | rfl
    · exact (Tryd.strings_Repeat_zero _ w).mono fun e w' ⟨he, hw⟩ => ⟨he, by rw [hw]; exact Below.refl _ _⟩
    · exact (Tryd.strings_Repeat_one _ w).mono fun e w' ⟨he, hw⟩ => ⟨he, by rw [hw]; exact Below.refl _ _⟩
  · refine (Tryd.strings_Repeat_main ⟨#[97]⟩ c w h (by omega) (by show 1 * c ≤ _; omega) (by decide)).mono fun e w' ⟨he, hw⟩ => ⟨?_, hw⟩
    rw [he]
    congr 3
    have : ∀ n, Lib.repeatL [(97 : UInt8)] n = List.replicate n 97 := by
      intro n
      induction n with
      | zero => rfl
      | succ n ih => rw [List.replicate_succ, ← ih]; rfl
    exact congrArg List.toArray (this c)
theorem two_bytes (a b : UInt8) (p : Nat) (w : World) (h : Has p #[.int .u8 a.toNat, .int .u8 b.toNat] 5 w) :
    (convert 32 9 (.slice (some ⟨p, 0, none⟩) 2 2)).run Tryd.prog w = .ok (.string (bs [a, b])) w := by
  have hb : Lib.Bytes w p 0 (bs [a, b]) := fun i hi => by
    rw [Nat.zero_add, h.cell]
    have hi' : i < 2 := hi
    match i, hi' with
    | 0, _ => rfl
    | 1, _ => rfl
  exact Lib.run_convert_whole (P := Tryd.prog) w 32 5 9 Tryd.underlying32 Tryd.underlying5 Tryd.underlying9 p 0 (bs [a, b]) hb 2
set_option maxRecDepth 100000 in
set_option maxHeartbeats 1000000 in
theorem refBytes_calls (f : Fm) (hb : f.body.length ≤ 2048) (w : World) :
    Calls Tryd.prog 54 #[FV f] w fun e w' => e = .returned (.string (bs (bytes f))) ∧ Below w.heap.size w w' := by
  obtain ⟨ch, kd, body⟩ := f
  simp only at hb
  have HTX := Lib.hid (fun W => RefText_calls (bs body) (by rw [bs_size]; omega) W)
  rw [bs_toList] at HTX
  have hfl : (front ⟨ch, kd, body⟩).length ≤ 3000 := by simp [front, txt, be_length]; omega
  have HH0 := Lib.hid (Has.new w #[.int .u8 ch.toNat, .int .u8 kd.toNat, .string (bs body)] 39)
  have HB0 := Lib.hid ((Below.refl w.heap.size w).alloc (Nat.le_refl _) (.cells #[.int .u8 ch.toNat, .int .u8 kd.toNat, .string (bs body)] 39))
  have HBY := Lib.hid (show bytes ⟨ch, kd, body⟩ = front ⟨ch, kd, body⟩ ++ (be 4 (Crc.sum (front ⟨ch, kd, body⟩)) ++ [206]) from rfl)
  have HFR := Lib.hid (show bs [ch, kd] ++ bs (txt body) = bs (front ⟨ch, kd, body⟩) from bs_append _ _)
  have htl : (txt body).length = 2 + body.length := by unfold txt; rw [List.length_append, be_length]
  have z1 : (bs [ch, kd]).size = 2 := bs_size _
  have z2 : (bs (txt body)).size = 2 + body.length := by rw [bs_size, htl]
  have f1 : ¬ (9223372036854775807 < 2 + (2 + body.length)) := by omega
  clear htl
  unfold FV
  simp only
  generalize front ⟨ch, kd, body⟩ = fr at *
  generalize txt body = tx at *
  go_enter Tryd.func54, Tryd.ntmps54
  go_wp2_with fail
  generalize w.alloc (.cells #[.int .u8 ch.toNat, .int .u8 kd.toNat, .string (bs body)] 39) = w0 at *
  have hcA := two_bytes ch kd w0.heap.size (w0.alloc (.cells #[.int .u8 ch.toNat, .int .u8 kd.toNat] 5)).drew ((Has.new w0 _ _).drew)
  have hcA' := two_bytes ch kd w0.heap.size (w0.drew.alloc (.cells #[.int .u8 ch.toNat, .int .u8 kd.toNat] 5)) (Has.new w0.drew _ _)
  have y0 : w0.drew.cell? ⟨w.heap.size, 0, none⟩ = some (.int .u8 ch.toNat) := HH0.out.cell 0
  have y1 : w0.drew.cell? ⟨w.heap.size, 1, none⟩ = some (.int .u8 kd.toNat) := HH0.out.cell 1
  have y2 : w0.drew.cell? ⟨w.heap.size, 2, none⟩ = some (.string (bs body)) := HH0.out.cell 2
  go_region_held (fun w' => w'.cell? ⟨w.heap.size, 0, none⟩ = some (.int .u8 ch.toNat) ∧ w'.cell? ⟨w.heap.size, 1, none⟩ = some (.int .u8 kd.toNat) ∧ w'.cell? ⟨w.heap.size, 2, none⟩ = some (.string (bs body)))
    ((refine three (t := 39) ?_; repeat (first | (with_reducible exact HH0.out) | (with_reducible refine Has.drew ?_) | (with_reducible refine Has.alloc ?_ _) | (with_reducible refine Has.below ?_ (by with_reducible assumption)))))
    (first
      | (go_at_call 96; (with_reducible refine Calls.mono (HTX.out _) ?_); rintro e w1 ⟨rfl, b1⟩; have s1 : w0.heap.size ≤ w1.heap.size := Nat.le_trans (by first | exact Nat.le_refl _ | exact Nat.le_of_lt (drew_alloc_lt _ _)) b1.size;
           have hcB := two_bytes ch kd w1.heap.size (w1.alloc (.cells #[.int .u8 ch.toNat, .int .u8 kd.toNat] 5)) (Has.new w1 _ _);
           (try have hcC := two_bytes ch kd w0.heap.size w1 (by with_reducible exact (((Has.new w0 #[.int .u8 ch.toNat, .int .u8 kd.toNat] 5).drew).below b1)))))
  all_goals
    skip
    have hsl := Crc.sum_lt fr
    have g3 : IntKind.u64.wrap ((Crc.sum fr : Nat) : Int) = ((Crc.sum fr : Nat) : Int) := IntWalk.u64_in _ (by omega)
    have HS := Lib.hid (fun W => Crc.refSum_calls (bs fr) (by rw [bs_size]; unfold maxLen; omega) W)
    rw [bs_toList] at HS
    have HM := Lib.hid (fun W => RefNum_any (Crc.sum fr) 4 W (by omega))
    rw [show be (wid 4) (Crc.sum fr) = be 4 (Crc.sum fr) from rfl] at HM
    have QB := Lib.hid (show Below w.heap.size w w1 by first | exact bthen HB0.out (after_drew b1) | exact bthen HB0.out (after_alloc (after_drew b1)) | exact bthen HB0.out (after_drew (after_alloc b1)))
    have z3 : (bs fr).size = fr.length := bs_size _
    have z4 : (bs (be 4 (Crc.sum fr))).size = 4 := by rw [bs_size, be_length]
    have z5 : (bs (fr ++ be 4 (Crc.sum fr))).size = fr.length + 4 := by rw [bs_size, List.length_append, be_length]
    have e1 : bs fr ++ bs (be 4 (Crc.sum fr)) = bs (fr ++ be 4 (Crc.sum fr)) := bs_append _ _
    have f2 : ¬ (9223372036854775807 < fr.length + 4) := by omega
    have f3 : ¬ (9223372036854775807 < fr.length + 4 + 1) := by omega
    have hfr := HFR.out
    clear z1 z2 f1 hcA hcA' y0 y1 y2
    go_wp2_with (first
      | (go_at_call 24; refine Calls.mono (HS.out _) ?_; rintro e w3 ⟨rfl, rfl⟩)
      | (go_at_call 79; refine Calls.mono (HM.out _) ?_; rintro e w4 ⟨rfl, b4⟩))
    go_ret
    refine ⟨by rw [HBY.out, ← List.append_assoc]; first | rfl | exact congrArg (fun x => Ending.returned (.string x)) (bs_append _ [206]), ?_⟩
    first | exact bthen QB.out b4 | exact bthen QB.out (after_alloc b4)
end Go.Proofs.YtopacbmdoognjaaDoor.Frm
