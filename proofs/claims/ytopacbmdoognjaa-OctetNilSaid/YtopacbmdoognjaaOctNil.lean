/- A reader that is nil: what each method answers; and the walk of OctetNil. -/
import Derived.Test.YtopacbmdoognjaaOctAwake
namespace Go.Proofs.Ytopacbmdoognjaa.Oct
open Go Go.RowKit Frame
theorem nil_Fail (c : Int) (w : World) : Calls Try.prog 36 #[.pointer none, .int .i64 c] w fun e w' => e = .returned (.tuple #[]) ∧ w = w' := by
  go_enter Try.func36, Try.ntmps36
  go_wp2
  go_end0
  exact ⟨rfl, rfl⟩
theorem nil_Raw (n : Int) (w : World) : Calls Try.prog 42 #[.pointer none, .int .i64 n] w fun e w' => e = .returned (.string ⟨#[]⟩) ∧ w = w' := by
  go_enter Try.func42, Try.ntmps42
  go_wp2
  go_ret
  exact ⟨rfl, rfl⟩
theorem nil_Left (w : World) : Calls Try.prog 44 #[.pointer none] w fun e w' => e = .returned (.int .i64 0) ∧ w = w' := by
  go_enter Try.func44, Try.ntmps44
  go_wp2
  go_ret
  exact ⟨rfl, rfl⟩
theorem nil_Err (w : World) : Calls Try.prog 46 #[.pointer none] w fun e w' => e = .returned (.int .i64 1) ∧ w = w' := by
  go_enter Try.func46, Try.ntmps46
  go_wp2
  go_ret
  exact ⟨rfl, rfl⟩
theorem nil_End (w : World) : Calls Try.prog 47 #[.pointer none] w fun e w' => e = .returned (.int .i64 1) ∧ w = w' := by
  go_enter Try.func47, Try.ntmps47
  go_wp2_with (first | (go_at_call 46; refine (nil_Err _).mono ?_; rintro e w' ⟨rfl, rfl⟩))
  go_ret
  exact ⟨rfl, rfl⟩
set_option maxHeartbeats 1000000 in
/-- n is 2 or 4: what the callers ask. -/
theorem nil_Num (n : Int) (_hn : ¬ (8 : Int) < n) (w : World) : Calls Try.prog 38 #[.pointer none, .int .i64 n] w fun e w' => e = .returned (.int .u64 0) ∧ Below w.heap.size w w' := by
  have hcv := fun W s => Lib.run_convert_string_bytes (P := Try.prog) W 9 103 5 s (u := .string) Try.underlying9 Try.underlying103 Try.underlying5
  go_enter Try.func38, Try.ntmps38
  go_wp2_with fail
  refine (nil_Raw _ _).mono ?_
  rintro e w1 ⟨rfl, rfl⟩
  have hb2 : Below w.heap.size w (Lib.bytesWorld w 5 ⟨#[]⟩) := ⟨rfl, rfl, rfl, by rw [Lib.bytesWorld_size]; omega, fun j hj => Lib.bytesWorld_at_old w _ _ j hj⟩
  have HB := Lib.hid hb2
  clear hb2
  go_wp2_with fail
  clear hcv
  generalize Lib.bytesWorld w 5 ⟨#[]⟩ = w2 at *
  go_loop [5, 14] (fun x i => x = .int .u64 0 ∧ i = .int .i64 0) (fun _ _ => 0)
  case atStart => exact ⟨rfl, rfl⟩
  case round =>
    obtain ⟨rfl, rfl⟩ := hrel
    go_wp2
    go_ret
    exact ⟨rfl, HB.out⟩
theorem nil_Text (n : Int) (h0 : 0 ≤ n) (w : World) : Calls Try.prog 40 #[.pointer none, .int .i64 n] w fun e w' => e = .returned (.string ⟨#[]⟩) ∧ Below w.heap.size w w' := by
  go_enter Try.func40, Try.ntmps40
  go_wp2_with fail
  refine (nil_Num 2 (by omega) _).mono ?_
  rintro e w1 ⟨rfl, hb1⟩
  go_wp2_with (first | (go_at_call 42; refine (nil_Raw _ _).mono ?_; rintro e w' ⟨rfl, rfl⟩))
  go_ret
  exact ⟨rfl, hb1⟩
set_option maxHeartbeats 1000000 in
theorem OctetNil_walk (w : World) :
    Calls Try.prog 9 #[] w fun e w' => e = .returned (.bool true) ∧ Below w.heap.size w w' := by
  go_enter Try.func9, Try.ntmps9
  go_wp2_with fail
  refine (awake_calls _).mono ?_
  rintro e w1 ⟨rfl, hb1⟩
  go_wp2_with fail
  refine (nil_Fail _ _).mono ?_
  rintro e w2 ⟨rfl, rfl⟩
  go_wp2_with fail
  refine (nil_Num 4 (by omega) _).mono ?_
  rintro e w2 ⟨rfl, hb2⟩
  go_wp2_with fail
  refine (nil_Text 9 (by omega) _).mono ?_
  rintro e w3 ⟨rfl, hb3⟩
  go_wp2_with (first | (go_at_call 42; refine (nil_Raw _ _).mono ?_; rintro e w' ⟨rfl, rfl⟩) | (go_at_call 44; refine (nil_Left _).mono ?_; rintro e w' ⟨rfl, rfl⟩) | (go_at_call 46; refine (nil_Err _).mono ?_; rintro e w' ⟨rfl, rfl⟩) | (go_at_call 47; refine (nil_End _).mono ?_; rintro e w' ⟨rfl, rfl⟩))
  go_ret
  exact ⟨rfl, bthen (bthen hb1 hb2) hb3⟩
end Go.Proofs.Ytopacbmdoognjaa.Oct
