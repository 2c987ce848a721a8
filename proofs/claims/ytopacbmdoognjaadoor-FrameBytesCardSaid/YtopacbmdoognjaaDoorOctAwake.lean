/- The walk of stairwelllaw01's awake: its examples hold. -/
import Derived.Test.YtopacbmdoognjaaDoorOctText
import Derived.Test.YtopacbmdoognjaaDoorOctNum
namespace Go.Proofs.YtopacbmdoognjaaDoor.Oct
open Go Go.RowKit Frame
def e0 : ByteArray := ⟨#[]⟩
theorem OutNum_ex (w : World) : Calls Tryd.prog 80 #[.agg #[.string ⟨#[]⟩, .int .i64 0], .int .u64 258, .int .i64 2] w fun e' w' => e' = .returned (.agg #[.string ⟨#[1, 2]⟩, .int .i64 0]) ∧ Below w.heap.size w w' :=
  OutNum_calls ⟨#[]⟩ 0 258 2 (by decide) (by decide) w
theorem OutText_ex (w : World) : Calls Tryd.prog 81 #[.agg #[.string ⟨#[]⟩, .int .i64 0], .string ⟨#[97, 98]⟩] w fun e' w' => e' = .returned (.agg #[.string ⟨#[0, 2, 97, 98]⟩, .int .i64 0]) ∧ Below w.heap.size w w' :=
  OutText_calls ⟨#[]⟩ ⟨#[97, 98]⟩ 0 (by decide) (by decide) w
theorem InNum_ex (w : World) : Calls Tryd.prog 76 #[.pointer (some ⟨w.heap.size, 0, none⟩), .int .i64 2] (w.alloc (.cells #[.string ⟨#[1, 2]⟩, .int .i64 0] 145)) fun e' w' => e' = .returned (.int .u64 258) ∧ Below w.heap.size w w' :=
  (Num_calls w.heap.size ([1, 2], 0) 2 (by decide) _ (Has.new w #[.string (bs [1, 2]), .int .i64 0] 145)).mono fun e' w' ⟨he, _, ho⟩ => ⟨he, Only.to_below ((Below.refl _ w).alloc (Nat.le_refl _) _) ho (Nat.le_refl _) (by simp)⟩
set_option maxHeartbeats 1000000 in
theorem awake_calls (w : World) :
    Calls Tryd.prog 111 #[] w fun e w' => e = .returned (.bool true) ∧ Below w.heap.size w w' := by
  go_enter Tryd.func111, Tryd.ntmps111
  go_wp2_with fail
  refine (OutNum_ex _).mono ?_
  rintro e w1 ⟨rfl, hb1⟩
  go_wp2_with fail
  refine (OutString_calls _ _ _).mono ?_
  rintro e w2 ⟨rfl, hb2⟩
  go_wp2_with fail
  refine (OutText_ex _).mono ?_
  rintro e w3 ⟨rfl, hb3⟩
  go_wp2_with fail
  refine (OutString_calls _ _ _).mono ?_
  rintro e w4 ⟨rfl, hb4⟩
  go_wp2_with fail
  refine (New_calls _ _).mono ?_
  rintro e w5 ⟨rfl, rfl⟩
  go_wp2_with fail
  refine (InNum_ex _).mono ?_
  rintro e w6 ⟨rfl, hb6⟩
  go_wp2_with fail
  go_ret
  exact ⟨rfl, (((hb1.trans (hb2.mono hb1.size)).trans (hb3.mono (Nat.le_trans hb1.size hb2.size))).trans (hb4.mono (Nat.le_trans hb1.size (Nat.le_trans hb2.size hb3.size)))).trans (hb6.mono (Nat.le_trans hb1.size (Nat.le_trans hb2.size (Nat.le_trans hb3.size hb4.size))))⟩
end Go.Proofs.YtopacbmdoognjaaDoor.Oct
