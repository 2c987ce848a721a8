/- The walk of frame.Parse. -/
import Derived.Test.YtopacbmdoognjaaPlain
import Derived.Test.YtopacbmdoognjaaOctNum
import Derived.Test.YtopacbmdoognjaaCrcLaws
namespace Go.Proofs.Ytopacbmdoognjaa.Frm
open Go Go.RowKit Frame Oct
/-- A frame as a value, as cells. -/
def FV (f : Fm) : Value := .agg #[.int .u8 f.ch.toNat, .int .u8 f.kd.toNat, .string (bs f.body)]
theorem num1_lt (q : St) : (inum q 1).1 < 256 := by
  unfold inum
  have h := num_lt (raw q (min 1 8)).1
  have h1 := raw_length q (min 1 8)
  have h2 : (raw q (min 1 8)).1.length ≤ 1 := by omega
  have h3 : 256 ^ (raw q (min 1 8)).1.length ≤ 256 ^ 1 := Nat.pow_le_pow_right (by decide) h2
  simp only
  omega
theorem num4_lt (q : St) : (inum q 4).1 < 4294967296 := by
  unfold inum
  have h := num_lt (raw q (min 4 8)).1
  have h1 := raw_length q (min 4 8)
  have h2 : (raw q (min 4 8)).1.length ≤ 4 := by omega
  have h3 : 256 ^ (raw q (min 4 8)).1.length ≤ 256 ^ 4 := Nat.pow_le_pow_right (by decide) h2
  have : (256 : Nat) ^ 4 = 4294967296 := by decide
  simp only
  omega
theorem itext_le (q : St) (m : Int) : (itext q m).2.1.length ≤ q.1.length ∧ (itext q m).1.length ≤ q.1.length := by
  have h0 := inum_le q 2
  have h1 : (if m < ((inum q 2).1 : Int) then fail (inum q 2).2 5 else (inum q 2).2).1.length ≤ q.1.length := by
    split
    · have := fail_le (inum q 2).2 5; omega
    · exact h0
  unfold itext
  generalize (if m < ((inum q 2).1 : Int) then fail (inum q 2).2 5 else (inum q 2).2) = p at *
  have h2 := raw_le p ((inum q 2).1 : Int)
  refine ⟨by omega, ?_⟩
  unfold raw
  split
  · simp
  · split
    · simp
    · simp; omega
theorem raw_cons (q : St) (n : Int) (h : (raw q n).2.2 = 0) : q.2 = 0 ∧ (raw q n).1.length = n.toNat ∧ n.toNat + (raw q n).2.1.length = q.1.length := by
  unfold raw at h ⊢
  split at h
  · rename_i hc
    rw [if_pos hc]
    simp only at h
    have h0 : n ≤ 0 := by
      rcases hc with hc | hc
      · exact absurd h hc
      · exact hc
    exact ⟨h, by simp; omega, by simp; omega⟩
  · rename_i hc
    have hq : q.2 = 0 := by
      rcases Int.decEq q.2 0 with h1 | h1
      · exact absurd (.inl h1) hc
      · exact h1
    split at h
    · rename_i hs
      simp [fail, hq] at h
    · rename_i hs
      rw [if_neg hc, if_neg hs]
      exact ⟨hq, by simp; omega, by simp; omega⟩
theorem inum_cons (q : St) (n : Nat) (h8 : n ≤ 8) (h : (inum q n).2.2 = 0) : q.2 = 0 ∧ n + (inum q n).2.1.length = q.1.length := by
  unfold inum at h ⊢
  rw [show min (n : Int) 8 = (n : Int) by omega] at h ⊢
  have := raw_cons q n h
  exact ⟨this.1, by simpa using this.2.2⟩
theorem itext_cons (q : St) (m : Int) (h : (itext q m).2.2 = 0) : q.2 = 0 ∧ 2 + (itext q m).1.length + (itext q m).2.1.length = q.1.length := by
  unfold itext at h ⊢
  have h1 := raw_cons _ _ h
  split at h1
  · rename_i hm
    have h2 := h1.1
    unfold fail at h2
    split at h2
    · simp at h2
    · rename_i hc
      exact absurd ⟨h2, by decide⟩ hc
  · rename_i hm
    have h3 := inum_cons q 2 (by decide) h1.1
    rw [if_neg hm]
    refine ⟨h3.1, ?_⟩
    have h4 := h1.2
    have h5 := h3.2
    rw [h4.1]
    simp only [Int.toNat_natCast, show ((2 : Nat) : Int) = 2 from rfl] at *
    omega
theorem ok_len (l : List UInt8) (h : (r5 l).2.2 = 0) : (r3 l).1.length + 9 ≤ l.length := by
  have h5 := inum_cons (r4 l).2 1 (by decide) h
  have h4 := inum_cons (r3 l).2 4 (by decide) h5.1
  have h3 := itext_cons (r2 l).2 2048 h4.1
  have h2 := inum_cons (r1 l).2 1 (by decide) h3.1
  have h1 := inum_cons (l, 0) 1 (by decide) h2.1
  have e4 : (inum (r3 l).2 (4 : Nat)).2 = (r4 l).2 := rfl
  have e3 : itext (r2 l).2 2048 = r3 l := rfl
  have e2 : (inum (r1 l).2 (1 : Nat)).2 = (r2 l).2 := rfl
  have e1 : (inum (l, 0) (1 : Nat)).2 = (r1 l).2 := rfl
  rw [e4] at h4
  rw [e3] at h3
  rw [e2] at h2
  rw [e1] at h1
  have g1 := h1.2
  have g2 := h2.2
  have g3 := h3.2
  have g4 := h4.2
  have g5 := h5.2
  simp only at g1
  omega
theorem below3 {B b : Nat} {a w : World} (h : Below B a w) (hb : B ≤ b) (v0 v1 v2 : Value) : Below B a (((w.setCell ⟨b, 0, none⟩ v0).setCell ⟨b, 1, none⟩ v1).setCell ⟨b, 2, none⟩ v2) :=
  ((h.setCell (p := ⟨b, 0, none⟩) hb v0).setCell (p := ⟨b, 1, none⟩) hb v1).setCell (p := ⟨b, 2, none⟩) hb v2
def zeroF : Array Value := #[.int .u8 0, .int .u8 0, .string ⟨#[]⟩]
end Go.Proofs.Ytopacbmdoognjaa.Frm
