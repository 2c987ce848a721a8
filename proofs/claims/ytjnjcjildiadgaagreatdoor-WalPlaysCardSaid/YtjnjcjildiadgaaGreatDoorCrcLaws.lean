/- The walks of the four laws of chapter 02. -/
import Derived.Test.YtjnjcjildiadgaaGreatDoorCrcWalk
import Derived.Below
namespace Go.Proofs.YtjnjcjildiadgaaGreatDoor.Crc
open Go Go.RowKit
theorem bcell {W w1 : World} (hb : Below W.heap.size W w1) : (∀ b o, b < W.heap.size → w1.cell? ⟨b, o, none⟩ = W.cell? ⟨b, o, none⟩) ∧ (∀ b o, b < W.heap.size → w1.frozen? ⟨b, o, none⟩ = W.frozen? ⟨b, o, none⟩) :=
  ⟨fun b o h => hb.cell (p := ⟨b, o, none⟩) h, fun b o h => hb.frozen (p := ⟨b, o, none⟩) h⟩
theorem Tab.size {w : World} (h : Tab w) : 0 < w.heap.size := by
  have := h 0 (by omega)
  rcases Nat.lt_or_ge 0 w.heap.size with h1 | h1
  · exact h1
  · simp [World.cell?, Array.getElem?_eq_none h1] at this
theorem Tab.below {w w' : World} (h : Tab w) (hb : Below w.heap.size w w') : Tab w' := fun i hi => by
  rw [(bcell hb).1 _ _ h.size]; exact h i hi


def s1 : ByteArray := ⟨#[49, 50, 51, 52]⟩
def s2 : ByteArray := ⟨#[53, 54, 55, 56, 57]⟩
theorem sum12 : sum (cat [s1, s2]) = 3421780262 := by decide +kernel
theorem sum0 : sum (cat []) = 0 := by decide +kernel
theorem size12 : ∀ s ∈ [s1, s2], s.size ≤ maxLen := by
  intro s hs
  simp only [List.mem_cons, List.not_mem_nil, or_false] at hs
  rcases hs with rfl | rfl <;> decide
theorem Sum_awake1 (w : World) (hT : Tab w) (b : Nat) (h0 : w.cell? ⟨b, 0, none⟩ = some (.string s1)) (h1 : w.cell? ⟨b, 1, none⟩ = some (.string s2)) :
    Calls Tryz.prog 63 #[.slice (some ⟨b, 0, none⟩) 2 2] w fun e w' => e = .returned (.int .u32 3421780262) ∧ w = w' := by
  have h := Sum_calls (some ⟨b, 0, none⟩) 2 [s1, s2] (by decide) size12 w hT (fun _ => ⟨b, 0, rfl, fun i hi => by
    match i, hi with
    | 0, _ => simpa using h0
    | 1, _ => simpa using h1⟩)
  rw [sum12] at h
  exact h
theorem Sum_awake0 (w : World) (hT : Tab w) :
    Calls Tryz.prog 63 #[.slice none 0 0] w fun e w' => e = .returned (.int .u32 0) ∧ w = w' := by
  have h := Sum_calls none 0 [] (by decide) (by simp) w hT (fun h => by simp at h)
  rw [sum0] at h
  exact h

set_option maxHeartbeats 400000 in
theorem awake_calls (w : World) (hT : Tab w) :
    Calls Tryz.prog 90 #[] w fun e w' => e = .returned (.bool true) ∧ Below w.heap.size w w' := by
  have hb : ∀ o, Below w.heap.size w (w.alloc o) := fun o => (Below.refl _ _).alloc (Nat.le_refl _) _
  have HT : ∀ o, Hid (Tab (w.alloc o)) := fun o => Lib.hid (hT.below (hb o))
  clear hT
  go_enter Tryz.func90, Tryz.ntmps90
  go_wp2_with fail
  refine (Sum_awake1 _ (HT _).out _ (by simp [go_sem, s1]) (by simp [go_sem, s2])).mono ?_
  rintro e w' ⟨rfl, rfl⟩
  go_wp2_with fail
  refine (Sum_awake0 _ (HT _).out).mono ?_
  rintro e w' ⟨rfl, rfl⟩
  go_wp2_with fail
  go_ret
  exact ⟨rfl, hb _⟩

theorem beq_cast (a b : Nat) : ((a : Int) == (b : Int)) = decide (a = b) := by
  rw [Bool.eq_iff_iff]; simp; omega

theorem cat3 (a b c : ByteArray) : (a ++ b ++ c).data.toList = cat [a, b, c] := by simp [cat]

end Go.Proofs.YtjnjcjildiadgaaGreatDoor.Crc
