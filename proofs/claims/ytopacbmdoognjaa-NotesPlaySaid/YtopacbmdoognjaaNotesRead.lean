/- Notes out of bytes, plainly; the walk of notes.Read. -/
import Derived.Test.YtopacbmdoognjaaNotesRefB
import Derived.Test.YtopacbmdoognjaaOctNum
namespace Go.Proofs.Ytopacbmdoognjaa.Not
open Go Go.RowKit Frame Oct
/-- So many notes that come next. -/
def loop : Nat → St → List Nt × St
  | 0, q => ([], q)
  | n + 1, q => if q.2 ≠ 0 then ([], q) else
    (⟨(inum q 8).1, UInt8.ofNat (inum (inum q 8).2 1).1, bs (itext (inum (inum q 8).2 1).2 64).1⟩ :: (loop n (itext (inum (inum q 8).2 1).2 64).2).1, (loop n (itext (inum (inum q 8).2 1).2 64).2).2)
def tot0 (q : St) : Nat := (inum q 8).1
def many0 (q : St) : Nat := (inum (inum q 8).2 1).1
def mid (q : St) : St := (inum (inum q 8).2 1).2
def st0 (q : St) : St := if (mid q).2 ≠ 0 then mid q else if 32 < many0 q then fail (mid q) 6 else if many0 q ≠ min (tot0 q) 32 then fail (mid q) 7 else mid q
/-- What is read. -/
def readN (q : St) : (Nat × List Nt) × St := if (loop (many0 q) (st0 q)).2.2 ≠ 0 then ((0, []), (loop (many0 q) (st0 q)).2) else ((tot0 q, (loop (many0 q) (st0 q)).1), (loop (many0 q) (st0 q)).2)
theorem loop_err {q : St} (h : q.2 ≠ 0) (n : Nat) : loop n q = ([], q) := by
  cases n with
  | zero => rfl
  | succ n => unfold loop; rw [if_pos h]
theorem loop_length (n : Nat) : ∀ q, (loop n q).2.2 = 0 → (loop n q).1.length = n := by
  induction n with
  | zero => intro q _; rfl
  | succ n ih =>
    intro q h
    unfold loop at h ⊢
    by_cases hq : q.2 ≠ 0
    · rw [if_pos hq] at h
      exact absurd h hq
    · rw [if_neg hq] at h ⊢
      simp only [List.length_cons]
      rw [ih _ h]
theorem num1_lt (q : St) : (inum q 1).1 < 256 := by
  unfold inum
  have h := num_lt (raw q (min 1 8)).1
  have h1 := raw_length q (min 1 8)
  have h2 : (raw q (min 1 8)).1.length ≤ 1 := by omega
  have h3 : 256 ^ (raw q (min 1 8)).1.length ≤ 256 ^ 1 := Nat.pow_le_pow_right (by decide) h2
  simp only
  omega
theorem raw_err {q : St} (h : q.2 ≠ 0) (n : Int) : raw q n = ([], q) := by unfold raw; rw [if_pos (.inl h)]
theorem fail_err {q : St} (h : q.2 ≠ 0) (n : Int) : fail q n = q := by unfold fail; rw [if_neg (fun x => h x.1)]
theorem inum_err {q : St} (h : q.2 ≠ 0) (n : Int) : inum q n = (0, q) := by unfold inum; rw [raw_err h]; rfl
theorem raw_code {q : St} (n : Int) (h : (raw q n).2.2 ≠ 0) : (raw q n).1 = [] := by
  unfold raw at h ⊢
  split
  · rfl
  · split
    · rfl
    · rename_i h1 h2
      rw [if_neg h1, if_neg h2] at h
      exact absurd (by simpa using h) (fun x : ¬ q.2 = 0 => h1 (.inl x))
theorem inum_code {q : St} (n : Int) (h : (inum q n).2.2 ≠ 0) : (inum q n).1 = 0 := by
  unfold inum at h ⊢
  rw [raw_code _ h]
  rfl
theorem fail_code {q : St} (h : q.2 = 0) (c : Int) (hc : c ≠ 0) : (fail q c).2 = c := by unfold fail; rw [if_pos ⟨h, hc⟩]
theorem itext_le (q : St) (m : Int) : (itext q m).2.1.length ≤ q.1.length ∧ (itext q m).1.length ≤ q.1.length := by
  have h0 := inum_le q 2
  have h1 : (if m < ((inum q 2).1 : Int) then fail (inum q 2).2 5 else (inum q 2).2).1.length ≤ q.1.length := by
    split
    · have := fail_le (inum q 2).2 5; omega
    · exact h0
  unfold itext
  generalize (if m < ((inum q 2).1 : Int) then fail (inum q 2).2 5 else (inum q 2).2) = p at *
  have h2 := raw_le p ((inum q 2).1 : Int)
  refine ⟨by omega, ?_⟩
  unfold raw
  split
  · simp
  · split
    · simp
    · simp; omega
theorem loop_texts (n : Nat) : ∀ (q : St) (m : Nat), q.1.length ≤ m → (∀ x ∈ (loop n q).1, x.text.size ≤ m ∧ x.tick < 18446744073709551616) ∧ (loop n q).2.1.length ≤ m := by
  induction n with
  | zero => intro q m h; exact ⟨(fun x hx => by cases hx), h⟩
  | succ n ih =>
    intro q m h
    unfold loop
    by_cases hq : q.2 ≠ 0
    · rw [if_pos hq]
      exact ⟨(fun x hx => by cases hx), h⟩
    · rw [if_neg hq]
      have h1 := inum_le q 8
      have h2 := inum_le (inum q 8).2 1
      have h3 := itext_le (inum (inum q 8).2 1).2 64
      obtain ⟨i1, i2⟩ := ih (itext (inum (inum q 8).2 1).2 64).2 m (by omega)
      refine ⟨fun x hx => ?_, i2⟩
      rcases List.mem_cons.1 hx with rfl | hx
      · refine ⟨?_, inum_lt q 8⟩
        show (bs _).size ≤ m
        rw [bs_size]
        omega
      · exact i1 x hx
theorem st0_le (q : St) : (st0 q).1.length ≤ q.1.length := by
  have h1 := inum_le q 8
  have h2 := inum_le (inum q 8).2 1
  have h3 : (mid q).1.length ≤ q.1.length := by unfold mid; omega
  unfold st0
  split
  · exact h3
  · split
    · have := fail_le (mid q) 6; omega
    · split
      · have := fail_le (mid q) 7; omega
      · exact h3
theorem readN_ok (q : St) (m : Nat) (hm : q.1.length ≤ m) : (readN q).1.2.length ≤ 32 ∧ (readN q).1.2.length ≤ (readN q).1.1 ∧ (readN q).1.1 < 18446744073709551616 ∧ (∀ x ∈ (readN q).1.2, x.text.size ≤ m ∧ x.tick < 18446744073709551616) ∧ (readN q).2.1.length ≤ m := by
  obtain ⟨h1, h2⟩ := loop_texts (many0 q) (st0 q) m (Nat.le_trans (st0_le q) hm)
  unfold readN
  by_cases he : (loop (many0 q) (st0 q)).2.2 ≠ 0
  · rw [if_pos he]
    exact ⟨by simp, by simp, by simp, fun x hx => by simp at hx, h2⟩
  · rw [if_neg he]
    have hl := loop_length _ _ (by simpa using he : (loop (many0 q) (st0 q)).2.2 = 0)
    have hq : (st0 q).2 = 0 := by
      rcases Int.decEq (st0 q).2 0 with h | h
      · rw [loop_err h] at he
        exact absurd h he
      · exact h
    have hmin : many0 q = min (tot0 q) 32 := by
      unfold st0 at hq
      split at hq
      · rename_i h
        exact absurd hq h
      · rename_i h
        have h0 : (mid q).2 = 0 := by simpa using h
        split at hq
        · rw [fail_code h0 6 (by decide)] at hq
          exact absurd hq (by decide)
        · split at hq
          · rw [fail_code h0 7 (by decide)] at hq
            exact absurd hq (by decide)
          · rename_i h2
            omega
    refine ⟨by simp only; omega, by simp only; omega, inum_lt q 8, h1, h2⟩
end Go.Proofs.Ytopacbmdoognjaa.Not
