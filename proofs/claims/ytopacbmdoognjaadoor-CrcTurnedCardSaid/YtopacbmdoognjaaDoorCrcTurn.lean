/- Four bytes in a row laid over: another sum. The plain law, and the walk of CrcTurned. -/
import Derived.Test.YtopacbmdoognjaaDoorCrcLaws
import Derived.Lib.ConvBytes
import Derived.Laws.BytesArg
import Derived.RegionTactic
import Derived.ChangeAlike
namespace Go.Proofs.YtopacbmdoognjaaDoor.Crc
open Go Go.RowKit
theorem step_xor (a d b t : Nat) : step (a ^^^ d) (b ^^^ t) = step a b ^^^ step d t := by
  unfold step
  rw [show a ^^^ d ^^^ (b ^^^ t) = (a ^^^ b) ^^^ (d ^^^ t) by
    rw [Nat.xor_assoc, ← Nat.xor_assoc d b t, Nat.xor_comm d b, Nat.xor_assoc b d t, ← Nat.xor_assoc]]
  exact bits_xor 8 _ _
theorem xor_cancel (a b : Nat) : a ^^^ (a ^^^ b) = b := by rw [← Nat.xor_assoc, Nat.xor_self, Nat.zero_xor]
theorem back8 (d t v : Nat) (hd : d < 4294967296) (ht : t < 256) (hv : v < 16777216) (h : step d t = v) : d = t ^^^ (256 * v) := by
  have h1 : bits 8 (256 * v) = v := bits_shift 8 v
  have h2 : d ^^^ t = 256 * v := (bits_inj 8 _ _ (Nat.xor_lt_two_pow (n := 32) hd (by omega)) (by omega)).1 (h.trans h1.symm)
  rw [← h2, Nat.xor_comm d t, xor_cancel]
theorem xor_lt_of (t v n : Nat) (ht : t < 256) (hv : 256 * v < 2 ^ n) (hn : 256 ≤ 2 ^ n) : t ^^^ (256 * v) < 2 ^ n := Nat.xor_lt_two_pow (by omega) hv
theorem xor_mul_zero (t v : Nat) (ht : t < 256) (h : t ^^^ (256 * v) = 0) : t = 0 ∧ v = 0 := by
  have := xor_eq_zero.1 h
  omega
theorem turn4 (t0 t1 t2 t3 : Nat) (h0 : t0 < 256) (h1 : t1 < 256) (h2 : t2 < 256) (h3 : t3 < 256) (h : step (step (step (step 0 t0) t1) t2) t3 = 0) : t0 = 0 ∧ t1 = 0 ∧ t2 = 0 ∧ t3 = 0 := by
  have l0 : step 0 t0 < 4294967296 := step_lt _ _ (by decide) (by omega)
  have l1 : step (step 0 t0) t1 < 4294967296 := step_lt _ _ l0 (by omega)
  have l2 : step (step (step 0 t0) t1) t2 < 4294967296 := step_lt _ _ l1 (by omega)
  have e3 := back8 _ t3 0 l2 h3 (by omega) h
  simp only [Nat.mul_zero, Nat.xor_zero] at e3
  have e2 := back8 _ t2 t3 l1 h2 (by omega) e3
  have b2 : t2 ^^^ (256 * t3) < 2 ^ 16 := xor_lt_of _ _ _ h2 (by omega) (by decide)
  have e1 := back8 _ t1 _ l0 h1 (by omega) e2
  have b1 : t1 ^^^ (256 * (t2 ^^^ (256 * t3))) < 2 ^ 24 := xor_lt_of _ _ _ h1 (by omega) (by decide)
  have e0 := back8 _ t0 _ (by decide) h0 (by omega) e1
  obtain ⟨z0, z1⟩ := xor_mul_zero _ _ h0 e0.symm
  obtain ⟨z1, z2⟩ := xor_mul_zero _ _ h1 z1
  obtain ⟨z2, z3⟩ := xor_mul_zero _ _ h2 z2
  exact ⟨z0, z1, z2, z3⟩
theorem over_inj (l : List UInt8) : ∀ a b, a < 4294967296 → b < 4294967296 → over a l = over b l → a = b := by
  induction l with
  | nil => intro a b _ _ h; exact h
  | cons x l ih =>
    intro a b ha hb h
    have hx := x.toNat_lt
    exact (step_inj_left a b x.toNat ha hb (by omega)).1 (ih _ _ (step_lt _ _ ha (by omega)) (step_lt _ _ hb (by omega)) h)
/-- The plain law. -/
theorem sum_turned (p q : List UInt8) (b0 b1 b2 b3 t0 t1 t2 t3 : UInt8) (h : sum (p ++ [b0 ^^^ t0, b1 ^^^ t1, b2 ^^^ t2, b3 ^^^ t3] ++ q) = sum (p ++ [b0, b1, b2, b3] ++ q)) :
    t0 = 0 ∧ t1 = 0 ∧ t2 = 0 ∧ t3 = 0 := by
  unfold sum at h
  have h' := xor_left_inj'.1 h
  rw [over_append, over_append, over_append, over_append] at h'
  generalize hr : over 4294967295 p = r at h'
  have hrl : r < 4294967296 := by rw [← hr]; exact over_lt _ _ (by decide)
  have h4 := over_inj q _ _ (over_lt _ _ hrl) (over_lt _ _ hrl) h'
  have c0 := t0.toNat_lt; have c1 := t1.toNat_lt; have c2 := t2.toNat_lt; have c3 := t3.toNat_lt
  simp only [over, List.foldl, UInt8.toNat_xor] at h4
  have e : step (step (step (step r (b0.toNat ^^^ t0.toNat)) (b1.toNat ^^^ t1.toNat)) (b2.toNat ^^^ t2.toNat)) (b3.toNat ^^^ t3.toNat)
      = step (step (step (step r b0.toNat) b1.toNat) b2.toNat) b3.toNat ^^^ step (step (step (step 0 t0.toNat) t1.toNat) t2.toNat) t3.toNat := by
    rw [← step_xor, ← step_xor, ← step_xor, ← step_xor, Nat.xor_zero]
  rw [e] at h4
  have z : step (step (step (step 0 t0.toNat) t1.toNat) t2.toNat) t3.toNat = 0 := by
    have := congrArg (step (step (step (step r b0.toNat) b1.toNat) b2.toNat) b3.toNat ^^^ ·) h4
    simp only [xor_cancel, Nat.xor_self] at this
    exact this
  obtain ⟨z0, z1, z2, z3⟩ := turn4 _ _ _ _ (by omega) (by omega) (by omega) (by omega) z
  exact ⟨UInt8.toNat_inj.1 z0, UInt8.toNat_inj.1 z1, UInt8.toNat_inj.1 z2, UInt8.toNat_inj.1 z3⟩
end Go.Proofs.YtopacbmdoognjaaDoor.Crc
