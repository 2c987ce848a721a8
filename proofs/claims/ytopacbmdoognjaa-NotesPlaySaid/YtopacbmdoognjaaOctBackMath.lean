/- What was written is read as it was: plainly. No Go in sight. -/
import Derived.Test.YtopacbmdoognjaaPlain
namespace Go.Proofs.Ytopacbmdoognjaa.Oct
theorem raw_all (l m : List UInt8) : raw (l ++ m, 0) (l.length : Int) = (l, (m, 0)) := by
  unfold raw
  by_cases h : l = []
  · subst h; simp
  · have : 0 < l.length := List.length_pos_iff.2 h
    rw [if_neg (by simp; omega), if_neg (by simp; omega)]
    simp
theorem num_all (l : List UInt8) (w : Nat) (b : Int) (hb : (w : Int) = min (max b 0) 8) (hl : l.length = w) (m : List UInt8) : inum (l ++ m, 0) b = (num l, (m, 0)) := by
  unfold inum
  by_cases h : b ≤ 0
  · obtain rfl : l = [] := List.length_eq_zero_iff.1 (by omega)
    have : raw ([] ++ m, 0) (min b 8) = ([], (m, 0)) := by unfold raw; rw [if_pos (Or.inr (by omega))]; simp
    rw [this]
  · have : raw (l ++ m, 0) (min b 8) = (l, (m, 0)) := by rw [show min b 8 = (l.length : Int) by omega]; exact raw_all l m
    rw [this]
theorem be_back (n : Nat) (b : Int) (m : List UInt8) : inum (be (wid b) n ++ m, 0) b = (n % 256 ^ wid b, (m, 0)) := by
  rw [num_all (be (wid b) n) (wid b) b (by unfold wid; omega) (be_length _ _), num_be]
theorem txt_back (t m : List UInt8) (k : Int) (h : t.length < 65536) (hk : (t.length : Int) ≤ k) : itext (txt t ++ m, 0) k = (t, (m, 0)) := by
  unfold itext txt
  have h1 : inum (be 2 t.length ++ t ++ m, 0) 2 = (t.length, (t ++ m, 0)) := by
    have := be_back t.length 2 (t ++ m)
    rw [show wid 2 = 2 from rfl] at this
    rw [List.append_assoc, this]
    congr 1
    omega
  rw [h1, if_neg (by simp only; omega)]
  exact raw_all t m
end Go.Proofs.Ytopacbmdoognjaa.Oct
