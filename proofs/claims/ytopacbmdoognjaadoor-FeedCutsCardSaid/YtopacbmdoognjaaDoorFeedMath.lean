/- Frames out of bytes that come, plainly. No Go in sight. -/
import Derived.Test.YtopacbmdoognjaaDoorFramePlain
namespace Go.Proofs.YtopacbmdoognjaaDoor.Fd
open Oct Frm
def allF : Nat → List UInt8 → List Fm × List UInt8 × Int
  | 0, s => ([], s, 0)
  | f + 1, s => if (parse s).2.2 = 3 then ([], s, 0) else if (parse s).2.2 ≠ 0 then ([], [], (parse s).2.2)
    else ((parse s).1 :: (allF f (s.drop (parse s).2.1)).1, (allF f (s.drop (parse s).2.1)).2)
/-- The frames of all bytes, what is kept, the error. -/
def all (s : List UInt8) : List Fm × List UInt8 × Int := allF s.length s
theorem parse_ok {l : List UInt8} (h : (parse l).2.2 = 0) : parse l = (⟨l.getD 0 0, l.getD 1 0, (l.drop 4).take (len l)⟩, len l + 9, 0) ∧ 4 ≤ l.length ∧ len l ≤ 2048 ∧ len l + 9 ≤ l.length := by
  unfold parse at h ⊢
  split at h
  · simp at h
  · split at h
    · simp at h
    · split at h
      · simp at h
      · split at h
        · simp at h
        · split at h
          · simp at h
          · rename_i h1 h2 h3 h4 h5
            rw [if_neg h1, if_neg h2, if_neg h3, if_neg h4, if_neg h5]
            exact ⟨rfl, by omega, by omega, by omega⟩
theorem parse_n {l : List UInt8} (h : (parse l).2.2 = 0) : 9 ≤ (parse l).2.1 ∧ (parse l).2.1 ≤ l.length ∧ (parse l).1.body.length ≤ 2048 := by
  obtain ⟨he, h1, h2, h3⟩ := parse_ok h
  rw [he]
  refine ⟨by simp, h3, ?_⟩
  simp only [List.length_take, List.length_drop]
  omega
theorem parse_less {l : List UInt8} (h : l.length < 4) : (parse l).2.2 = 3 := by unfold parse; rw [if_pos h]
theorem parse_three {l : List UInt8} (h : (parse l).2.2 = 3) : l.length < 2057 := by
  unfold parse at h
  split at h
  · omega
  · split at h
    · simp at h
    · split at h
      · omega
      · split at h
        · simp at h
        · split at h <;> simp at h
theorem len_append (s c : List UInt8) (h : 4 ≤ s.length) : len (s ++ c) = len s := by
  unfold len
  rw [List.drop_append_of_le_length (by omega), List.take_append_of_le_length (by simp; omega)]
theorem getD_append (s c : List UInt8) (k : Nat) (h : k < s.length) : (s ++ c).getD k 0 = s.getD k 0 := by
  rw [List.getD_eq_getElem?_getD, List.getElem?_append_left h, ← List.getD_eq_getElem?_getD]
/-- What more comes changes nothing but 'too early'. -/
theorem parse_append (s c : List UInt8) (h : (parse s).2.2 ≠ 3) : parse (s ++ c) = parse s := by
  by_cases h4 : s.length < 4
  · exact absurd (parse_less h4) h
  · have hl := len_append s c (by omega)
    have hal : (s ++ c).length = s.length + c.length := List.length_append
    unfold parse at h ⊢
    rw [if_neg h4] at h
    rw [hl, if_neg (show ¬ (s ++ c).length < 4 by omega), if_neg h4]
    by_cases h5 : 2048 < len s
    · rw [if_pos h5, if_pos h5]
    · rw [if_neg h5] at h
      rw [if_neg h5, if_neg h5]
      by_cases h9 : s.length < len s + 9
      · rw [if_pos h9] at h
        exact absurd rfl h
      · rw [if_neg (show ¬ (s ++ c).length < len s + 9 by omega), if_neg h9, getD_append s c _ (by omega), getD_append s c _ (by omega), getD_append s c _ (by omega)]
        rw [List.drop_append_of_le_length (show len s + 4 ≤ s.length by omega), List.take_append_of_le_length (show 4 ≤ (s.drop (len s + 4)).length by simp; omega), List.take_append_of_le_length (show len s + 4 ≤ s.length by omega)]
        rw [List.drop_append_of_le_length (show 4 ≤ s.length by omega), List.take_append_of_le_length (show len s ≤ (s.drop 4).length by simp; omega)]
theorem allF_short {s : List UInt8} (h : (parse s).2.2 = 3) (f : Nat) : allF f s = ([], s, 0) := by
  cases f with
  | zero => rfl
  | succ f => unfold allF; rw [if_pos h]
theorem allF_more (f : Nat) : ∀ (g : Nat) (s : List UInt8), s.length ≤ f → s.length ≤ g → allF f s = allF g s := by
  induction f with
  | zero =>
    intro g s h _
    have h3 : (parse s).2.2 = 3 := parse_less (by omega)
    rw [allF_short h3, allF_short h3]
  | succ f ih =>
    intro g s h hg
    by_cases h3 : (parse s).2.2 = 3
    · rw [allF_short h3, allF_short h3]
    · obtain ⟨k, rfl⟩ : ∃ k, g = k + 1 := ⟨g - 1, by
        have : ¬ s.length < 4 := fun h => h3 (parse_less h)
        omega⟩
      unfold allF
      rw [if_neg h3, if_neg h3]
      by_cases h0 : (parse s).2.2 ≠ 0
      · rw [if_pos h0, if_pos h0]
      · obtain ⟨h1, h2, _⟩ := parse_n (l := s) (by simpa using h0)
        rw [if_neg h0, if_neg h0, ih k _ (by simp; omega) (by simp; omega)]
theorem all_short {s : List UInt8} (h : (parse s).2.2 = 3) : all s = ([], s, 0) := allF_short h _
theorem all_err {s : List UInt8} (h : (parse s).2.2 ≠ 3) (h0 : (parse s).2.2 ≠ 0) : all s = ([], [], (parse s).2.2) := by
  obtain ⟨k, hk⟩ : ∃ k, s.length = k + 1 := ⟨s.length - 1, by
    have : ¬ s.length < 4 := fun x => h (parse_less x)
    omega⟩
  unfold all
  rw [hk]
  unfold allF
  rw [if_neg h, if_pos h0]
theorem all_cons {s : List UInt8} (h : (parse s).2.2 = 0) : all s = ((parse s).1 :: (all (s.drop (parse s).2.1)).1, (all (s.drop (parse s).2.1)).2) := by
  obtain ⟨h1, h2, _⟩ := parse_n h
  obtain ⟨k, hk⟩ : ∃ k, s.length = k + 1 := ⟨s.length - 1, by omega⟩
  have e : all s = allF (k + 1) s := by unfold all; rw [hk]
  rw [e]
  unfold allF
  rw [if_neg (by rw [h]; decide), if_neg (by simp [h]), allF_more k (s.drop (parse s).2.1).length _ (by simp; omega) (Nat.le_refl _)]
  rfl
/-- What more comes. -/
theorem all_append (f : Nat) : ∀ (s c : List UInt8), s.length ≤ f → all (s ++ c) = if (all s).2.2 ≠ 0 then all s else ((all s).1 ++ (all ((all s).2.1 ++ c)).1, (all ((all s).2.1 ++ c)).2) := by
  induction f with
  | zero =>
    intro s c h
    have h3 : (parse s).2.2 = 3 := parse_less (by omega)
    rw [all_short h3]
    simp
  | succ f ih =>
    intro s c h
    by_cases h3 : (parse s).2.2 = 3
    · rw [all_short h3]
      simp
    · have hp := parse_append s c h3
      by_cases h0 : (parse s).2.2 ≠ 0
      · rw [all_err h3 h0, all_err (by rw [hp]; exact h3) (by rw [hp]; exact h0), hp]
        simp [h0]
      · have h0' : (parse s).2.2 = 0 := by simpa using h0
        obtain ⟨h1, h2, _⟩ := parse_n h0'
        rw [all_cons h0', all_cons (by rw [hp]; exact h0'), hp, List.drop_append_of_le_length h2, ih _ c (by simp; omega)]
        generalize all (s.drop (parse s).2.1) = q
        obtain ⟨fs, r, e⟩ := q
        simp only
        by_cases he : e ≠ 0
        · rw [if_pos he, if_pos he]
        · rw [if_neg he, if_neg he]
          rfl
theorem all_nil : all [] = ([], [], 0) := all_short (parse_less (by simp))
theorem all_rest (f : Nat) : ∀ s : List UInt8, s.length ≤ f → (all s).2.1.length < 2057 ∧ (all s).2.1.length ≤ s.length ∧ (all s).1.length * 9 ≤ s.length ∧ (∀ x ∈ (all s).1, x.body.length ≤ 2048) := by
  induction f with
  | zero =>
    intro s h
    have h3 : (parse s).2.2 = 3 := parse_less (by omega)
    rw [all_short h3]
    exact ⟨parse_three h3, Nat.le_refl _, by simp, by simp⟩
  | succ f ih =>
    intro s h
    by_cases h3 : (parse s).2.2 = 3
    · rw [all_short h3]
      exact ⟨parse_three h3, Nat.le_refl _, by simp, by simp⟩
    · by_cases h0 : (parse s).2.2 ≠ 0
      · rw [all_err h3 h0]
        simp
      · have h0' : (parse s).2.2 = 0 := by simpa using h0
        obtain ⟨h1, h2, h5⟩ := parse_n h0'
        rw [all_cons h0']
        obtain ⟨i1, i2, i3, i4⟩ := ih (s.drop (parse s).2.1) (by simp; omega)
        simp only [List.length_drop, List.length_cons] at i2 i3 ⊢
        refine ⟨i1, by omega, by omega, fun x hx => ?_⟩
        rcases List.mem_cons.1 hx with rfl | hx
        · exact h5
        · exact i4 x hx
/-- Frames, one behind the other. -/
theorem all_bytes (l : List Fm) (h : ∀ x ∈ l, x.body.length ≤ 2048) : all (l.flatMap bytes) = (l, [], 0) := by
  induction l with
  | nil => exact all_nil
  | cons x l ih =>
    have hp := parse_bytes x (l.flatMap bytes) (h x (by simp))
    rw [List.flatMap_cons, all_cons (by rw [hp]), hp]
    simp only
    rw [List.drop_left' (bytes_length x), ih fun y hy => h y (by simp [hy])]
end Go.Proofs.YtopacbmdoognjaaDoor.Fd
