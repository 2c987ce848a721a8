/- Frames, plainly: what is read of a frame's bytes, of a beginning of them, of bytes of which one is turned. No Go in sight. -/
import Derived.Test.YtopacbmdoognjaaDoorPlain
namespace Go.Proofs.YtopacbmdoognjaaDoor.Frm
open Oct
theorem front_length (f : Fm) : (front f).length = f.body.length + 4 := by simp [front, txt, be_length]; omega
theorem bytes_length (f : Fm) : (bytes f).length = f.body.length + 9 := by simp [bytes, front_length, be_length]
theorem be2 (n : Nat) : be 2 n = [UInt8.ofNat (n / 256), UInt8.ofNat n] := by simp [be]
/-- Behind any frame's front. -/
theorem len_front (f : Fm) (more : List UInt8) (h : f.body.length < 65536) : len (front f ++ more) = f.body.length := by
  unfold len front txt
  rw [be2]
  have h1 : (UInt8.ofNat (f.body.length / 256)).toNat = f.body.length / 256 := by rw [UInt8.toNat_ofNat']; omega
  have h2 : (UInt8.ofNat f.body.length).toNat = f.body.length % 256 := by rw [UInt8.toNat_ofNat']
  simp [num, h1, h2]
  omega
theorem parse_bytes (f : Fm) (more : List UInt8) (h : f.body.length ≤ 2048) : parse (bytes f ++ more) = (f, f.body.length + 9, 0) := by
  have hl := len_front f (be 4 (Crc.sum (front f)) ++ [206] ++ more) (by omega)
  have e : bytes f ++ more = front f ++ (be 4 (Crc.sum (front f)) ++ [206] ++ more) := by simp [bytes]
  have hfl := front_length f
  have hb4 : (be 4 (Crc.sum (front f))).length = 4 := be_length _ _
  have hlen : (bytes f ++ more).length = f.body.length + 9 + more.length := by rw [List.length_append, bytes_length]
  have h1 : (bytes f ++ more).take (f.body.length + 4) = front f := by rw [e, ← hfl, List.take_left]
  have h2 : ((bytes f ++ more).drop (f.body.length + 4)).take 4 = be 4 (Crc.sum (front f)) := by
    rw [e, ← hfl, List.drop_left, List.append_assoc]
    exact List.take_left' hb4
  have h3 : (bytes f ++ more).getD (f.body.length + 8) 0 = 206 := by
    rw [e, List.getD_eq_getElem?_getD, List.getElem?_append_right (by omega), List.append_assoc, List.getElem?_append_right (by omega), hfl, hb4, show f.body.length + 8 - (f.body.length + 4) - 4 = 0 by omega]
    rfl
  have h4 : (bytes f ++ more).getD 0 0 = f.ch := by simp [e, front]
  have h5 : (bytes f ++ more).getD 1 0 = f.kd := by simp [e, front]
  have h6 : ((bytes f ++ more).drop 4).take f.body.length = f.body := by
    have : front f = [f.ch, f.kd] ++ be 2 f.body.length ++ f.body := by simp [front, txt]
    have h7 : ([f.ch, f.kd] ++ be 2 f.body.length).length = 4 := by simp [be_length]
    rw [e, this, List.append_assoc, List.append_assoc, ← List.append_assoc [f.ch, f.kd], List.drop_left' h7, List.take_left]
  rw [← e] at hl
  unfold parse
  rw [hl, h1, h2, h3, h4, h5, h6, if_neg (by omega), if_neg (by omega), if_neg (by omega), if_neg (by simp), if_neg (by simp)]
theorem parse_short (f : Fm) (k : Nat) (h : f.body.length ≤ 2048) (hk : k < f.body.length + 9) : parse ((bytes f).take k) = (zero, 0, 3) := by
  have hlen : ((bytes f).take k).length = k := by rw [List.length_take, bytes_length]; omega
  by_cases h4 : k < 4
  · unfold parse
    rw [if_pos (by omega)]
  · have hl : len ((bytes f).take k) = f.body.length := by
      have h1 := len_front f (be 4 (Crc.sum (front f)) ++ [206]) (by omega)
      unfold len at h1 ⊢
      rw [← h1]
      congr 1
      rw [List.drop_take, List.take_take, show min 2 (k - 2) = 2 by omega]
      rfl
    unfold parse
    rw [hl, if_neg (by omega), if_neg (by omega), if_pos (by omega)]
theorem over_inj (l : List UInt8) : ∀ r s, r < 4294967296 → s < 4294967296 → (Crc.over r l = Crc.over s l ↔ r = s) := by
  induction l with
  | nil => intro r s _ _; exact Iff.rfl
  | cons b l ih =>
    intro r s hr hs
    have hb := b.toNat_lt
    show Crc.over (Crc.step r b.toNat) l = Crc.over (Crc.step s b.toNat) l ↔ _
    rw [ih _ _ (Crc.step_lt r _ hr (by omega)) (Crc.step_lt s _ hs (by omega)), Crc.step_inj_left r s _ hr hs (by omega)]
/-- One byte turned turns the sum. -/
theorem sum_set (l : List UInt8) (k : Nat) (x : UInt8) (hk : k < l.length) (hx : x ≠ l[k]) : Crc.sum (l.set k x) ≠ Crc.sum l := by
  intro e
  unfold Crc.sum at e
  rw [Crc.xor_left_inj'] at e
  have h1 : l = l.take k ++ (l[k] :: l.drop (k + 1)) := by rw [List.getElem_cons_drop, List.take_append_drop]
  have h2 : l.set k x = l.take k ++ (x :: l.drop (k + 1)) := List.set_eq_take_append_cons_drop.trans (by simp [hk])
  rw [h2] at e
  conv at e => rhs; rw [h1]
  rw [Crc.over_append, Crc.over_append] at e
  have ha := Crc.over_lt (l.take k) 4294967295 (by decide)
  have hb1 := x.toNat_lt
  have hb2 := l[k].toNat_lt
  have e' : Crc.over (Crc.step (Crc.over 4294967295 (l.take k)) x.toNat) (l.drop (k + 1)) = Crc.over (Crc.step (Crc.over 4294967295 (l.take k)) l[k].toNat) (l.drop (k + 1)) := e
  rw [over_inj _ _ _ (Crc.step_lt _ _ ha (by omega)) (Crc.step_lt _ _ ha (by omega)), Crc.step_inj_right _ _ _ ha (by omega) (by omega)] at e'
  exact hx (UInt8.toNat_inj.1 e')
theorem be4_inj (a b : Nat) (ha : a < 4294967296) (hb : b < 4294967296) (h : be 4 a = be 4 b) : a = b := by
  have h1 := congrArg num h
  rw [num_be, num_be, Nat.mod_eq_of_lt (by omega), Nat.mod_eq_of_lt (by omega)] at h1
  exact h1
theorem parts (f : Fm) : (bytes f).take (f.body.length + 4) = front f ∧ ((bytes f).drop (f.body.length + 4)).take 4 = be 4 (Crc.sum (front f)) ∧ (bytes f).getD (f.body.length + 8) 0 = 206 := by
  have hfl := front_length f
  have hb4 : (be 4 (Crc.sum (front f))).length = 4 := be_length _ _
  have e : bytes f = front f ++ (be 4 (Crc.sum (front f)) ++ [206]) := rfl
  refine ⟨by rw [e, ← hfl, List.take_left], ?_, ?_⟩
  · rw [e, ← hfl, List.drop_left]
    exact List.take_left' hb4
  · rw [e, List.getD_eq_getElem?_getD, List.getElem?_append_right (by omega), List.getElem?_append_right (by omega), hfl, hb4, show f.body.length + 8 - (f.body.length + 4) - 4 = 0 by omega]
    rfl
theorem parse_turned (f : Fm) (hb : f.body.length ≤ 2048) (k : Nat) (x : UInt8) (hk : k < (bytes f).length) (h2 : k ≠ 2) (h3 : k ≠ 3) (hx : x ≠ (bytes f)[k]) :
    (parse ((bytes f).set k x)).2.2 = 14 ∨ (parse ((bytes f).set k x)).2.2 = 4 ∧ k = f.body.length + 8 := by
  obtain ⟨p1, p2, p3⟩ := parts f
  have hbl := bytes_length f
  have hfl := front_length f
  have hlen : ((bytes f).set k x).length = f.body.length + 9 := by rw [List.length_set, hbl]
  have hl : len ((bytes f).set k x) = f.body.length := by
    have h1 := len_front f (be 4 (Crc.sum (front f)) ++ [206]) (by omega)
    have h1 : len (bytes f) = f.body.length := h1
    unfold len at h1 ⊢
    rw [← h1]
    congr 1
    by_cases h : k < 2
    · rw [List.drop_set_of_lt h]
    · rw [List.drop_set, if_neg h, List.take_set_of_le (by omega)]
  unfold parse
  rw [hl, if_neg (by omega), if_neg (by omega), if_neg (by omega)]
  by_cases hk8 : k = f.body.length + 8
  · right
    refine ⟨?_, hk8⟩
    have h5 : (bytes f)[k] = 206 := by
      have h6 : (bytes f)[k]? = some (bytes f)[k] := List.getElem?_eq_getElem hk
      rw [List.getD_eq_getElem?_getD, ← hk8, h6] at p3
      exact p3
    have h7 : ((bytes f).set k x).getD (f.body.length + 8) 0 = x := by
      rw [← hk8, List.getD_eq_getElem?_getD, List.getElem?_set_self hk]
      rfl
    rw [h7, if_pos (by rw [← h5]; exact hx)]
  · left
    have h7 : ((bytes f).set k x).getD (f.body.length + 8) 0 = 206 := by
      rw [List.getD_eq_getElem?_getD, List.getElem?_set_ne hk8, ← List.getD_eq_getElem?_getD]
      exact p3
    rw [h7, if_neg (by simp)]
    rw [if_pos]
    intro e
    by_cases hk4 : k < f.body.length + 4
    · rw [List.drop_set_of_lt hk4, p2, List.take_set, p1] at e
      have hkf : k < (front f).length := by omega
      have hfk : (front f)[k] = (bytes f)[k] := by
        have : bytes f = front f ++ (be 4 (Crc.sum (front f)) ++ [206]) := rfl
        simp only [this]
        rw [List.getElem_append_left hkf]
      exact sum_set (front f) k x hkf (by rw [hfk]; exact hx) (be4_inj _ _ (Crc.sum_lt _) (Crc.sum_lt _) e.symm)
    · rw [List.take_set_of_le (by omega), p1, List.drop_set, if_neg hk4, List.take_set, p2] at e
      have hj : k - (f.body.length + 4) < (be 4 (Crc.sum (front f))).length := by rw [be_length]; omega
      have h8 : (be 4 (Crc.sum (front f)))[k - (f.body.length + 4)] = x := by
        have h9 := congrArg (fun l : List UInt8 => l[k - (f.body.length + 4)]?) e
        rw [List.getElem?_set_self hj, List.getElem?_eq_getElem hj] at h9
        injection h9 with h9
        exact h9.symm
      have h10 : (be 4 (Crc.sum (front f)))[k - (f.body.length + 4)] = (bytes f)[k] := by
        have h11 : (bytes f)[k]? = (be 4 (Crc.sum (front f)))[k - (f.body.length + 4)]? := by
          show (front f ++ (be 4 (Crc.sum (front f)) ++ [206]))[k]? = _
          rw [List.getElem?_append_right (by omega), hfl, List.getElem?_append_left hj]
        rw [List.getElem?_eq_getElem hk, List.getElem?_eq_getElem hj] at h11
        injection h11 with h11
        exact h11.symm
      exact hx (h8.symm.trans h10)
end Go.Proofs.YtopacbmdoognjaaDoor.Frm
