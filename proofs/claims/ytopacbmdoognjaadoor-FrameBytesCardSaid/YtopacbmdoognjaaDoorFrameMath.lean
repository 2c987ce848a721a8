/- Frames, plainly: their bytes; what bytes begin with. No Go in sight. -/
import Derived.Test.YtopacbmdoognjaaDoorOctIn
import Derived.Test.YtopacbmdoognjaaDoorCrcMath
namespace Go.Proofs.YtopacbmdoognjaaDoor.Frm
open Oct
structure Fm where
  ch : UInt8
  kd : UInt8
  body : List UInt8
  deriving Inhabited, DecidableEq
def zero : Fm := ⟨0, 0, []⟩
/-- A frame's bytes ahead of its sum. -/
def front (f : Fm) : List UInt8 := [f.ch, f.kd] ++ txt f.body
def bytes (f : Fm) : List UInt8 := front f ++ (be 4 (Crc.sum (front f)) ++ [206])
/-- The length that bytes tell. -/
def len (l : List UInt8) : Nat := num ((l.drop 2).take 2)
def parse (l : List UInt8) : Fm × Nat × Int :=
  if l.length < 4 then (zero, 0, 3) else if 2048 < len l then (zero, 0, 5) else if l.length < len l + 9 then (zero, 0, 3) else if l.getD (len l + 8) 0 ≠ 206 then (zero, 0, 4)
  else if (l.drop (len l + 4)).take 4 ≠ be 4 (Crc.sum (l.take (len l + 4))) then (zero, 0, 14) else (⟨l.getD 0 0, l.getD 1 0, (l.drop 4).take (len l)⟩, len l + 9, 0)
theorem be_num (l : List UInt8) : be l.length (num l) = l := by
  suffices h : ∀ (l : List UInt8), be l.length (num l.reverse) = l.reverse by
    have := h l.reverse
    simpa using this
  intro l
  induction l with
  | nil => rfl
  | cons b l ih =>
    rw [List.reverse_cons, num_snoc, List.length_cons, be]
    have hb := b.toNat_lt
    rw [show (num l.reverse * 256 + b.toNat) / 256 = num l.reverse by omega, ih]
    congr 2
    apply UInt8.toNat_inj.1
    rw [UInt8.toNat_ofNat']
    omega
theorem num_eq_iff (l : List UInt8) (s : Nat) (h : l.length = 4) (hs : s < 4294967296) : num l = s ↔ l = be 4 s := by
  constructor
  · intro e
    have := be_num l
    rw [h, e] at this
    exact this.symm
  · intro e
    rw [e, num_be]
    exact Nat.mod_eq_of_lt (by omega)
theorem raw_err {q : St} (h : q.2 ≠ 0) (n : Int) : raw q n = ([], q) := by unfold raw; rw [if_pos (.inl h)]
theorem inum_err {q : St} (h : q.2 ≠ 0) (n : Int) : inum q n = (0, q) := by unfold inum; rw [raw_err h]; rfl
theorem fail_err {q : St} (h : q.2 ≠ 0) (n : Int) : fail q n = q := by unfold fail; rw [if_neg (fun x => h x.1)]
theorem itext_err {q : St} (h : q.2 ≠ 0) (n : Int) : itext q n = ([], q) := by
  unfold itext
  rw [inum_err h]
  simp only
  rw [fail_err h]
  split <;> exact raw_err h _
theorem raw_short (l : List UInt8) (n : Nat) (h : l.length < n) : raw (l, 0) n = ([], ([], 3)) := by
  unfold raw
  rw [if_neg (by simp; omega), if_pos (by simp; omega)]
  rfl
theorem raw_ok (l : List UInt8) (n : Nat) (h : n ≤ l.length) : raw (l, 0) n = (l.take n, (l.drop n, 0)) := by
  unfold raw
  by_cases h0 : n = 0
  · subst h0
    rw [if_pos (by simp)]
    simp
  · rw [if_neg (by simp; omega), if_neg (by simp; omega)]
    simp
theorem inum_short (l : List UInt8) (n : Nat) (h : l.length < n) (h8 : n ≤ 8) : inum (l, 0) n = (0, ([], 3)) := by
  unfold inum
  rw [show min (n : Int) 8 = (n : Int) by omega, raw_short l n h]
  rfl
theorem inum_ok (l : List UInt8) (n : Nat) (h : n ≤ l.length) (h8 : n ≤ 8) : inum (l, 0) n = (num (l.take n), (l.drop n, 0)) := by
  unfold inum
  rw [show min (n : Int) 8 = (n : Int) by omega, raw_ok l n h]
/-- As the program parses. -/
def r1 (l : List UInt8) : Nat × St := inum (l, 0) 1
def r2 (l : List UInt8) : Nat × St := inum (r1 l).2 1
def r3 (l : List UInt8) : List UInt8 × St := itext (r2 l).2 2048
def r4 (l : List UInt8) : Nat × St := inum (r3 l).2 4
def r5 (l : List UInt8) : Nat × St := inum (r4 l).2 1
def prog (l : List UInt8) : Fm × Nat × Int :=
  if (r5 l).2.2 ≠ 0 then (zero, 0, (r5 l).2.2) else if (r5 l).1 ≠ 206 then (zero, 0, 4) else if Crc.sum (l.take (4 + (r3 l).1.length)) ≠ (r4 l).1 then (zero, 0, 14)
  else (⟨UInt8.ofNat (r1 l).1, UInt8.ofNat (r2 l).1, (r3 l).1⟩, 4 + (r3 l).1.length + 5, 0)
theorem prog_err (l : List UInt8) (q : St) (h3 : (r3 l).2 = q) (hq : q.2 ≠ 0) : prog l = (zero, 0, q.2) := by
  have h4 : (r4 l).2 = q := by unfold r4; rw [h3, inum_err hq]
  have h5 : (r5 l).2 = q := by unfold r5; rw [h4, inum_err hq]
  unfold prog
  rw [h5, if_pos hq]
theorem prog_eq (l : List UInt8) : prog l = parse l := by
  match l with
  | [] => exact (prog_err [] ([], 3) (by decide) (by decide)).trans (by simp [parse])
  | [a] => exact (prog_err [a] ([], 3) (by
      have h1 : r1 [a] = (num [a], ([], 0)) := inum_ok [a] 1 (by simp) (by decide)
      have h2 : r2 [a] = (0, ([], 3)) := by unfold r2; rw [h1]; exact inum_short [] 1 (by simp) (by decide)
      unfold r3; rw [h2, itext_err (by decide)]) (by decide)).trans (by simp [parse])
  | [a, b] => exact (prog_err [a, b] ([], 3) (by
      have h1 : r1 [a, b] = (num [a], ([b], 0)) := inum_ok [a, b] 1 (by simp) (by decide)
      have h2 : r2 [a, b] = (num [b], ([], 0)) := by unfold r2; rw [h1]; exact inum_ok [b] 1 (by simp) (by decide)
      unfold r3 itext; rw [h2, show inum ([], 0) 2 = (0, ([], 3)) from inum_short [] 2 (by simp) (by decide)]; decide) (by decide)).trans (by simp [parse])
  | [a, b, c] => exact (prog_err [a, b, c] ([], 3) (by
      have h1 : r1 [a, b, c] = (num [a], ([b, c], 0)) := inum_ok [a, b, c] 1 (by simp) (by decide)
      have h2 : r2 [a, b, c] = (num [b], ([c], 0)) := by unfold r2; rw [h1]; exact inum_ok [b, c] 1 (by simp) (by decide)
      unfold r3 itext; rw [h2, show inum ([c], 0) 2 = (0, ([], 3)) from inum_short [c] 2 (by simp) (by decide)]; decide) (by decide)).trans (by simp [parse])
  | a :: b :: c :: d :: l =>
    have h1 : r1 (a :: b :: c :: d :: l) = (num [a], (b :: c :: d :: l, 0)) := inum_ok (a :: b :: c :: d :: l) 1 (by simp) (by decide)
    have h2 : r2 (a :: b :: c :: d :: l) = (num [b], (c :: d :: l, 0)) := by unfold r2; rw [h1]; exact inum_ok (b :: c :: d :: l) 1 (by simp) (by decide)
    have h2b : inum (c :: d :: l, 0) 2 = (num [c, d], (l, 0)) := inum_ok (c :: d :: l) 2 (by simp) (by decide)
    have hlen : len (a :: b :: c :: d :: l) = num [c, d] := by simp [len]
    by_cases hn : 2048 < num [c, d]
    · have e : (r3 (a :: b :: c :: d :: l)).2 = ([], 5) := by
        unfold r3 itext
        rw [h2, h2b]
        simp only
        rw [if_pos (by omega), show fail (l, 0) 5 = ([], 5) by simp [fail], raw_err (by decide)]
      rw [prog_err _ _ e (by decide), parse, if_neg (by simp), hlen, if_pos hn]
    · by_cases hs : l.length < num [c, d]
      · have e : (r3 (a :: b :: c :: d :: l)).2 = ([], 3) := by
          unfold r3 itext
          rw [h2, h2b]
          simp only
          rw [if_neg (by omega), raw_short l _ hs]
        rw [prog_err _ _ e (by decide), parse, if_neg (by simp), hlen, if_neg hn, if_pos (by simp; omega)]
      · have h3 : r3 (a :: b :: c :: d :: l) = (l.take (num [c, d]), (l.drop (num [c, d]), 0)) := by
          unfold r3 itext
          rw [h2, h2b]
          simp only
          rw [if_neg (by omega), raw_ok l _ (by omega)]
        obtain ⟨n, hnn⟩ : ∃ n, num [c, d] = n := ⟨_, rfl⟩
        rw [hnn] at hn hs h3 hlen
        have hml : (l.drop n).length = l.length - n := by simp
        have htl : (l.take n).length = n := by simp; omega
        by_cases h9 : l.length < n + 5
        · have e : (r5 (a :: b :: c :: d :: l)).2 = ([], 3) := by
            by_cases h4 : l.length < n + 4
            · have e4 : r4 (a :: b :: c :: d :: l) = (0, ([], 3)) := by unfold r4; rw [h3]; exact inum_short _ 4 (by omega) (by decide)
              unfold r5
              rw [e4, inum_err (by decide)]
            · have e4 : r4 (a :: b :: c :: d :: l) = (num ((l.drop n).take 4), ((l.drop n).drop 4, 0)) := by unfold r4; rw [h3]; exact inum_ok _ 4 (by omega) (by decide)
              unfold r5
              rw [e4]
              have := inum_short ((l.drop n).drop 4) 1 (by simp; omega) (by decide)
              simp only at this ⊢
              rw [show ((1 : Nat) : Int) = 1 from rfl] at this
              rw [this]
          unfold prog
          rw [e, if_pos (by decide), parse, if_neg (by simp), hlen, if_neg hn, if_pos (by simp; omega)]
        · have e4 : r4 (a :: b :: c :: d :: l) = (num ((l.drop n).take 4), ((l.drop n).drop 4, 0)) := by unfold r4; rw [h3]; exact inum_ok _ 4 (by omega) (by decide)
          have e5 : r5 (a :: b :: c :: d :: l) = (num (((l.drop n).drop 4).take 1), (((l.drop n).drop 4).drop 1, 0)) := by
            unfold r5
            rw [e4]
            exact inum_ok _ 1 (by simp; omega) (by decide)
          have hx : ((l.drop n).drop 4).take 1 = [l.getD (n + 4) 0] := by
            rw [List.drop_drop, List.drop_eq_getElem_cons (show n + 4 < l.length by omega)]
            rw [List.take_succ_cons, List.take_zero]
            simp [List.getD_eq_getElem?_getD, List.getElem?_eq_getElem (show n + 4 < l.length by omega)]
          have hg : (a :: b :: c :: d :: l).getD (n + 8) 0 = l.getD (n + 4) 0 := by simp [List.getD_eq_getElem?_getD]
          have hnum1 : ∀ x : UInt8, num [x] = x.toNat := fun x => by simp [num]
          have hP : parse (a :: b :: c :: d :: l) = (if l.getD (n + 4) 0 ≠ 206 then (zero, 0, 4)
            else if ((a :: b :: c :: d :: l).drop (n + 4)).take 4 ≠ be 4 (Crc.sum ((a :: b :: c :: d :: l).take (n + 4))) then (zero, 0, 14) else (⟨a, b, l.take n⟩, n + 9, 0)) := by
            rw [parse, if_neg (by simp), hlen, if_neg hn, if_neg (by simp; omega), hg]
            rfl
          rw [hP]
          unfold prog
          rw [e5]
          simp only
          rw [if_neg (show ¬ ((0 : Int) ≠ 0) by decide), hx, hnum1]
          generalize l.getD (n + 4) 0 = x
          by_cases hx6 : x = 206
          · subst hx6
            rw [if_neg (show ¬ ((206 : UInt8).toNat ≠ 206) by decide), if_neg (show ¬ ((206 : UInt8) ≠ 206) by decide), h3, e4, h1, h2]
            simp only
            rw [htl, Nat.add_comm 4 n]
            have hd : (a :: b :: c :: d :: l).drop (n + 4) = l.drop n := by simp
            rw [hd]
            have hsl := Crc.sum_lt ((a :: b :: c :: d :: l).take (n + 4))
            have hiff := num_eq_iff ((l.drop n).take 4) (Crc.sum ((a :: b :: c :: d :: l).take (n + 4))) (by simp; omega) hsl
            by_cases hc : num ((l.drop n).take 4) = Crc.sum ((a :: b :: c :: d :: l).take (n + 4))
            · rw [if_neg (by simp [hc]), if_neg (by simp [hiff.1 hc]), hnum1, hnum1]
              simp
            · rw [if_pos (fun e => hc e.symm), if_pos (fun e => hc (hiff.2 e))]
          · have h6 : x.toNat ≠ 206 := fun e => hx6 (UInt8.toNat_inj.1 (e.trans (by decide)))
            rw [if_pos h6, if_pos hx6]
end Go.Proofs.YtopacbmdoognjaaDoor.Frm
