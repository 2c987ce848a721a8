/- Notes written and read back, plainly. -/
import Derived.Test.YtopacbmdoognjaaNotesRead
import Derived.Test.YtopacbmdoognjaaNotesRefBytes
import Derived.Test.YtopacbmdoognjaaOctBackMath
namespace Go.Proofs.Ytopacbmdoognjaa.Not
open Go Go.RowKit Frame Oct
theorem num8_back (n : Nat) (h : n < 18446744073709551616) (m : List UInt8) : inum (be 8 n ++ m, 0) 8 = (n, (m, 0)) := by
  have := be_back n 8 m
  rw [show wid 8 = 8 from rfl] at this
  rw [this, Nat.mod_eq_of_lt (by simpa using h)]
theorem num1_back (n : Nat) (h : n < 256) (m : List UInt8) : inum (be 1 n ++ m, 0) 1 = (n, (m, 0)) := by
  have := be_back n 1 m
  rw [show wid 1 = 1 from rfl] at this
  rw [this, Nat.mod_eq_of_lt (by simpa using h)]
theorem loop_back (L : List Nt) (r : List UInt8) (h : ∀ x ∈ L, x.text.size ≤ 64 ∧ x.tick < 18446744073709551616) : loop L.length (L.flatMap ent ++ r, 0) = (L, (r, 0)) := by
  induction L with
  | nil => rfl
  | cons x L ih =>
    obtain ⟨h1, h2⟩ := h x (by simp)
    have e : (x :: L).flatMap ent ++ r = be 8 x.tick ++ (be 1 x.kind.toNat ++ (txt x.text.data.toList ++ (L.flatMap ent ++ r))) := by
      rw [List.flatMap_cons, ent]; simp
    have hl : x.text.data.toList.length = x.text.size := by simp
    rw [e, List.length_cons, loop, if_neg (by simp), num8_back _ h2, num1_back _ x.kind.toNat_lt, txt_back _ _ _ (by omega) (by omega)]
    rw [ih fun y hy => h y (by simp [hy])]
    simp only [UInt8.ofNat_toNat, bs_self]
theorem read_back (tot : Nat) (ht : tot < 18446744073709551616) (L : List Nt) (hL : L.length = min tot 32) (h : ∀ x ∈ L, x.text.size ≤ 64 ∧ x.tick < 18446744073709551616) : readN (pre tot L.length L, 0) = ((tot, L), ([], 0)) := by
  have h1 : inum (pre tot L.length L, 0) 8 = (tot, (be 1 L.length ++ L.flatMap ent, 0)) := by unfold pre; exact num8_back _ ht _
  have h2 : inum (be 1 L.length ++ L.flatMap ent, 0) 1 = (L.length, (L.flatMap ent, 0)) := num1_back _ (by omega) _
  have h3 := loop_back L [] h
  rw [List.append_nil] at h3
  have e0 : tot0 (pre tot L.length L, 0) = tot := by unfold tot0; rw [h1]
  have e1 : many0 (pre tot L.length L, 0) = L.length := by unfold many0; rw [h1]; simp only; rw [h2]
  have e2 : mid (pre tot L.length L, 0) = (L.flatMap ent, 0) := by unfold mid; rw [h1]; simp only; rw [h2]
  have e3 : st0 (pre tot L.length L, 0) = (L.flatMap ent, 0) := by
    unfold st0
    rw [e2, e1, e0, if_neg (by simp), if_neg (by omega), if_neg (by omega)]
  unfold readN
  rw [e0, e1, e3, h3, if_neg (by simp)]
end Go.Proofs.Ytopacbmdoognjaa.Not
