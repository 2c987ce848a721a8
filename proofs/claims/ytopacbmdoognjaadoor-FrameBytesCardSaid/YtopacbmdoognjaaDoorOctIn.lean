/- What reads bytes: its states, plainly. No Go in sight. -/
import Derived.Test.YtopacbmdoognjaaDoorOctMath
namespace Go.Proofs.YtopacbmdoognjaaDoor.Oct
/-- What is left, and the first error. -/
abbrev St := List UInt8 × Int
def fail (q : St) (c : Int) : St := if q.2 = 0 ∧ c ≠ 0 then ([], c) else q
def raw (q : St) (n : Int) : List UInt8 × St :=
  if q.2 ≠ 0 ∨ n ≤ 0 then ([], q) else if (q.1.length : Int) < n then ([], fail q 3) else (q.1.take n.toNat, (q.1.drop n.toNat, q.2))
def inum (q : St) (b : Int) : Nat × St := (num (raw q (min b 8)).1, (raw q (min b 8)).2)
def itext (q : St) (most : Int) : List UInt8 × St :=
  raw (if most < ((inum q 2).1 : Int) then fail (inum q 2).2 5 else (inum q 2).2) ((inum q 2).1 : Int)
def iend (q : St) : Int := if q.2 = 0 ∧ 0 < q.1.length then 4 else q.2
theorem raw_length (q : St) (n : Int) : ((raw q n).1.length : Int) ≤ max n 0 := by
  unfold raw
  split
  · simp; omega
  · split
    · simp; omega
    · simp; omega
theorem inum_lt (q : St) (b : Int) : (inum q b).1 < 18446744073709551616 := by
  unfold inum
  have h := num_lt (raw q (min b 8)).1
  have h1 := raw_length q (min b 8)
  have h2 : (raw q (min b 8)).1.length ≤ 8 := by omega
  have h3 : 256 ^ (raw q (min b 8)).1.length ≤ 256 ^ 8 := Nat.pow_le_pow_right (by decide) h2
  have : (256 : Nat) ^ 8 = 18446744073709551616 := by decide
  simp only
  omega
theorem raw_le (q : St) (n : Int) : (raw q n).2.1.length ≤ q.1.length := by
  unfold raw fail
  split
  · exact Nat.le_refl _
  · split
    · split <;> simp
    · simp
theorem fail_le (q : St) (n : Int) : (fail q n).1.length ≤ q.1.length := by
  unfold fail
  split <;> simp
theorem inum_le (q : St) (n : Int) : (inum q n).2.1.length ≤ q.1.length := raw_le _ _
theorem inum2_lt (q : St) : (inum q 2).1 < 65536 := by
  unfold inum
  have h := num_lt (raw q (min 2 8)).1
  have h1 := raw_length q (min 2 8)
  have h2 : (raw q (min 2 8)).1.length ≤ 2 := by omega
  have h3 : 256 ^ (raw q (min 2 8)).1.length ≤ 256 ^ 2 := Nat.pow_le_pow_right (by decide) h2
  simp only
  omega
end Go.Proofs.YtopacbmdoognjaaDoor.Oct
