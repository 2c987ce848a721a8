/- The walks of the four laws of chapter 02. -/
import Derived.Test.YtopacbmdoognjaaDoorCrcWalk
import Derived.Below
namespace Go.Proofs.YtopacbmdoognjaaDoor.Crc
open Go Go.RowKit
theorem bcell {W w1 : World} (hb : Below W.heap.size W w1) : (∀ b o, b < W.heap.size → w1.cell? ⟨b, o, none⟩ = W.cell? ⟨b, o, none⟩) ∧ (∀ b o, b < W.heap.size → w1.frozen? ⟨b, o, none⟩ = W.frozen? ⟨b, o, none⟩) :=
  ⟨fun b o h => hb.cell (p := ⟨b, o, none⟩) h, fun b o h => hb.frozen (p := ⟨b, o, none⟩) h⟩
theorem Tab.size {w : World} (h : Tab w) : 0 < w.heap.size := by
  have := h 0 (by omega)
  rcases Nat.lt_or_ge 0 w.heap.size with h1 | h1
  · exact h1
  · simp [World.cell?, Array.getElem?_eq_none h1] at this
theorem Tab.below {w w' : World} (h : Tab w) (hb : Below w.heap.size w w') : Tab w' := fun i hi => by
  rw [(bcell hb).1 _ _ h.size]; exact h i hi


def s1 : ByteArray := ⟨#[49, 50, 51, 52]⟩
def s2 : ByteArray := ⟨#[53, 54, 55, 56, 57]⟩
theorem sum12 : sum (cat [s1, s2]) = 3421780262 := by decide +kernel
theorem sum0 : sum (cat []) = 0 := by decide +kernel
theorem size12 : ∀ s ∈ [s1, s2], s.size ≤ maxLen := by
  intro s hs
  simp only [List.mem_cons, List.not_mem_nil, or_false] at hs
  rcases hs with rfl | rfl <;> decide
theorem Sum_awake1 (w : World) (hT : Tab w) (b : Nat) (h0 : w.cell? ⟨b, 0, none⟩ = some (.string s1)) (h1 : w.cell? ⟨b, 1, none⟩ = some (.string s2)) :
    Calls Tryd.prog 23 #[.slice (some ⟨b, 0, none⟩) 2 2] w fun e w' => e = .returned (.int .u32 3421780262) ∧ w = w' := by
  have h := Sum_calls (some ⟨b, 0, none⟩) 2 [s1, s2] (by decide) size12 w hT (fun _ => ⟨b, 0, rfl, fun i hi => by
    match i, hi with
    | 0, _ => simpa using h0
    | 1, _ => simpa using h1⟩)
  rw [sum12] at h
  exact h
theorem Sum_awake0 (w : World) (hT : Tab w) :
    Calls Tryd.prog 23 #[.slice none 0 0] w fun e w' => e = .returned (.int .u32 0) ∧ w = w' := by
  have h := Sum_calls none 0 [] (by decide) (by simp) w hT (fun h => by simp at h)
  rw [sum0] at h
  exact h

set_option maxHeartbeats 400000 in
theorem awake_calls (w : World) (hT : Tab w) :
    Calls Tryd.prog 22 #[] w fun e w' => e = .returned (.bool true) ∧ Below w.heap.size w w' := by
  have hb : ∀ o, Below w.heap.size w (w.alloc o) := fun o => (Below.refl _ _).alloc (Nat.le_refl _) _
  have HT : ∀ o, Hid (Tab (w.alloc o)) := fun o => Lib.hid (hT.below (hb o))
  clear hT
  go_enter Tryd.func22, Tryd.ntmps22
  go_wp2_with fail
  refine (Sum_awake1 _ (HT _).out _ (by simp [go_sem, s1]) (by simp [go_sem, s2])).mono ?_
  rintro e w' ⟨rfl, rfl⟩
  go_wp2_with fail
  refine (Sum_awake0 _ (HT _).out).mono ?_
  rintro e w' ⟨rfl, rfl⟩
  go_wp2_with fail
  go_ret
  exact ⟨rfl, hb _⟩

set_option maxHeartbeats 400000 in
theorem CrcSteps_walk (r b : Nat) (hr : r < 4294967296) (hb : b < 256) (w : World) (hT : Tab w) :
    Calls Tryd.prog 4 #[.int .u32 (r : Int), .int .u8 (b : Int)] w fun e w' => e = .returned (.bool true) ∧ Below w.heap.size w w' := by
  have HT := Lib.hid hT
  clear hT
  go_enter Tryd.func4, Tryd.ntmps4
  go_wp2_with fail
  refine (awake_calls _ HT.out).mono ?_
  rintro e w1 ⟨rfl, hb1⟩
  have HT1 := Lib.hid (HT.out.below hb1)
  go_wp2_with fail
  refine (Step_calls _ _ hr hb _ HT1.out).mono ?_
  rintro e w2 ⟨rfl, rfl⟩
  go_wp2_with fail
  refine (refStep_calls _ _ hr hb _).mono ?_
  rintro e w2 ⟨rfl, rfl⟩
  go_wp2_with fail
  go_ret
  exact ⟨rfl, hb1⟩

theorem beq_cast (a b : Nat) : ((a : Int) == (b : Int)) = decide (a = b) := by
  rw [Bool.eq_iff_iff]; simp; omega

set_option maxHeartbeats 400000 in
theorem CrcApart_walk (r s a b : Nat) (hr : r < 4294967296) (hs : s < 4294967296) (ha : a < 256) (hb : b < 256) (w : World) (hT : Tab w) :
    Calls Tryd.prog 5 #[.int .u32 (r : Int), .int .u32 (s : Int), .int .u8 (a : Int), .int .u8 (b : Int)] w fun e w' => e = .returned (.bool true) ∧ Below w.heap.size w w' := by
  have HT := Lib.hid hT
  clear hT
  have k1 : ((step r a : Int) == (step s a : Int)) = decide (r = s) := by rw [beq_cast]; exact decide_eq_decide.2 (step_inj_left r s a hr hs ha)
  have k2 : ((r : Int) == (s : Int)) = decide (r = s) := beq_cast _ _
  have k3 : ((step r a : Int) == (step r b : Int)) = decide (a = b) := by rw [beq_cast]; exact decide_eq_decide.2 (step_inj_right r a b hr ha hb)
  have k4 : ((a : Int) == (b : Int)) = decide (a = b) := beq_cast _ _
  generalize decide (r = s) = q1 at *
  generalize decide (a = b) = q2 at *
  have K := Lib.hid (And.intro k1 (And.intro k2 (And.intro k3 k4)))
  clear k1 k2 k3 k4
  go_enter Tryd.func5, Tryd.ntmps5
  go_wp2_with fail
  refine (awake_calls _ HT.out).mono ?_
  rintro e w1 ⟨rfl, hb1⟩
  have HT1 := Lib.hid (HT.out.below hb1)
  go_wp2_with fail
  refine (Step_calls _ _ hr ha _ HT1.out).mono ?_
  rintro e w2 ⟨rfl, rfl⟩
  go_wp2_with fail
  refine (Step_calls _ _ hs ha _ HT1.out).mono ?_
  rintro e w2 ⟨rfl, rfl⟩
  obtain ⟨k1, k2, k3, k4⟩ := K.out
  have k5 : (q1 == q1) = true := by simp
  have k6 : (q2 == q2) = true := by simp
  go_wp2_with fail
  refine (Step_calls _ _ hr ha _ HT1.out).mono ?_
  rintro e w2 ⟨rfl, rfl⟩
  go_wp2_with fail
  refine (Step_calls _ _ hr hb _ HT1.out).mono ?_
  rintro e w2 ⟨rfl, rfl⟩
  go_wp2_with fail
  go_ret
  exact ⟨rfl, hb1⟩

theorem cat3 (a b c : ByteArray) : (a ++ b ++ c).data.toList = cat [a, b, c] := by simp [cat]

set_option maxHeartbeats 1600000 in
theorem CrcSums_walk (a b c : ByteArray) (ha : a.size ≤ maxLen) (hb : b.size ≤ maxLen) (hc : c.size ≤ maxLen) (w : World) (hT : Tab w) :
    Calls Tryd.prog 3 #[.string a, .string b, .string c] w fun e w' => e = .returned (.bool true) ∧ Below w.heap.size w w' := by
  have HT := Lib.hid hT
  clear hT
  have HS := Lib.hid (show ∀ s ∈ [a, b, c], s.size ≤ maxLen by simpa using ⟨ha, hb, hc⟩)
  unfold maxLen at ha hb hc
  by_cases hle : a.size ≤ 2000 ∧ b.size ≤ 2000 ∧ c.size ≤ 2000
  · obtain ⟨la, lb, lc⟩ := hle
    have HC := Lib.hid (cat3 a b c)
    by_cases h1 : a.size < b.size
    all_goals by_cases h2 : (if a.size < b.size then (b.size : Int) else (a.size : Int)) < (c.size : Int)
    all_goals
      simp only [h1, if_true, if_false] at h2
      go_enter Tryd.func3, Tryd.ntmps3
      go_wp2_with fail
      refine (awake_calls _ HT.out).mono ?_
      rintro e w1 ⟨rfl, hb1⟩
      have HT1 := Lib.hid (HT.out.below hb1)
      go_wp2_with fail
      refine (Sum_calls _ 3 [a, b, c] (show 3 ≤ maxLen by decide) HS.out _ ((HT1.out).below ((Below.refl _ _).alloc (Nat.le_refl _) _)) (fun _ => ⟨_, 0, rfl, fun i hi => by
        match i, hi with
        | 0, _ => simp [go_sem]
        | 1, _ => simp [go_sem]
        | 2, _ => simp [go_sem]⟩)).mono ?_
      rintro e w2 ⟨rfl, rfl⟩
      go_wp2_with fail
      refine (refSum_calls _ (by simp [maxLen]; omega) _).mono ?_
      rintro e w2 ⟨rfl, rfl⟩
      rw [HC.out]
      go_wp2_with fail
      go_ret
      exact ⟨rfl, hb1.alloc hb1.size _⟩
  · by_cases h1 : a.size < b.size
    all_goals by_cases h2 : (if a.size < b.size then (b.size : Int) else (a.size : Int)) < (c.size : Int)
    all_goals
      simp only [h1, if_true, if_false] at h2
      go_enter Tryd.func3, Tryd.ntmps3
      go_wp2_with fail
      refine (awake_calls _ HT.out).mono ?_
      rintro e w1 ⟨rfl, hb1⟩
      go_wp2_with fail
      go_ret
      exact ⟨rfl, hb1⟩
end Go.Proofs.YtopacbmdoognjaaDoor.Crc
