/- Records, plainly: how they stand; which stands at the front of bytes; all that stand there. No Go in sight. -/
import Derived.Test.YtopacbmdoognjaaDoorFrameMath
namespace Go.Proofs.YtopacbmdoognjaaDoor.Sg
open Oct Frm
/-- A record ahead of its sum. -/
def head (r : List UInt8) : List UInt8 := be 4 r.length ++ r
def one (r : List UInt8) : List UInt8 := head r ++ (be 4 (Crc.sum (head r)) ++ [165])
/-- What is wrong with a record. -/
def bad (r : List UInt8) : Int := if r.length = 0 then 15 else if 131072 < r.length then 5 else 0
def err : List (List UInt8) → Int
  | [] => 0
  | r :: l => if bad r ≠ 0 then bad r else err l
def cat (l : List (List UInt8)) : List UInt8 := l.flatMap one
def bytes (l : List (List UInt8)) : List UInt8 × Int := if err l ≠ 0 then ([], err l) else (cat l, 0)
/-- How long the record at the front says it is. -/
def len (l : List UInt8) : Nat := num (l.take 4)
def next (l : List UInt8) : List UInt8 × Nat × Int :=
  if l.length < 4 then ([], 0, 3) else if len l = 0 then ([], 0, 15) else if 131072 < len l then ([], 0, 5) else if l.length < len l + 9 then ([], 0, 3)
  else if l.getD (len l + 8) 0 ≠ 165 then ([], 0, 4) else if (l.drop (len l + 4)).take 4 ≠ be 4 (Crc.sum (l.take (len l + 4))) then ([], 0, 14)
  else ((l.drop 4).take (len l), len l + 9, 0)
def scanF : Nat → List UInt8 → List (List UInt8)
  | 0, _ => []
  | f + 1, l => if (next l).2.2 ≠ 0 then [] else (next l).1 :: scanF f (l.drop (next l).2.1)
/-- All records at the front. -/
def scan (l : List UInt8) : List (List UInt8) := scanF l.length l
/-- As how many bytes records stand. -/
def used : List (List UInt8) → Nat
  | [] => 0
  | r :: l => r.length + 9 + used l
theorem head_length (r : List UInt8) : (head r).length = r.length + 4 := by simp [head, be_length]; omega
theorem one_length (r : List UInt8) : (one r).length = r.length + 9 := by simp [one, head_length, be_length]
theorem cat_cons (r : List UInt8) (l : List (List UInt8)) : cat (r :: l) = one r ++ cat l := by simp [cat]
theorem cat_nil : cat [] = [] := rfl
theorem cat_append (a b : List (List UInt8)) : cat (a ++ b) = cat a ++ cat b := by simp [cat]
theorem cat_length (l : List (List UInt8)) : (cat l).length = used l := by
  induction l with
  | nil => rfl
  | cons r l ih => rw [cat_cons, List.length_append, one_length, ih]; rfl
theorem used_append (a b : List (List UInt8)) : used (a ++ b) = used a + used b := by
  induction a with
  | nil => simp [used]
  | cons r a ih => simp only [List.cons_append, used, ih]; omega
theorem bad_ok {r : List UInt8} (h : bad r = 0) : 0 < r.length ∧ r.length ≤ 131072 := by
  unfold bad at h
  split at h
  · simp at h
  · split at h
    · simp at h
    · omega
theorem err_ok {l : List (List UInt8)} (h : err l = 0) : ∀ r ∈ l, bad r = 0 := by
  induction l with
  | nil => intro r hr; cases hr
  | cons x l ih =>
    unfold err at h
    split at h
    · rename_i hx
      exact absurd h hx
    · rename_i hx
      intro r hr
      rcases List.mem_cons.1 hr with rfl | hr
      · simpa using hx
      · exact ih h r hr
theorem err_of {l : List (List UInt8)} (h : ∀ r ∈ l, bad r = 0) : err l = 0 := by
  induction l with
  | nil => rfl
  | cons x l ih =>
    unfold err
    rw [if_neg (by simp [h x (by simp)])]
    exact ih fun r hr => h r (by simp [hr])
theorem err_snoc (a : List (List UInt8)) (r : List UInt8) (b : List (List UInt8)) (ha : err a = 0) (hr : bad r ≠ 0) : err (a ++ r :: b) = bad r := by
  induction a with
  | nil => show err (r :: b) = _; unfold err; rw [if_pos hr]
  | cons x a ih =>
    have hx := err_ok ha x (by simp)
    have ha' : err a = 0 := err_of fun r hr => err_ok ha r (by simp [hr])
    show err (x :: (a ++ r :: b)) = _
    unfold err
    rw [if_neg (by simp [hx])]
    exact ih ha'
theorem next_ok {l : List UInt8} (h : (next l).2.2 = 0) : next l = ((l.drop 4).take (len l), len l + 9, 0) ∧ len l + 9 ≤ l.length ∧ 0 < len l ∧ len l ≤ 131072 ∧ l.getD (len l + 8) 0 = 165 ∧ (l.drop (len l + 4)).take 4 = be 4 (Crc.sum (l.take (len l + 4))) := by
  unfold next at h ⊢
  split at h
  · simp at h
  · split at h
    · simp at h
    · split at h
      · simp at h
      · split at h
        · simp at h
        · split at h
          · simp at h
          · split at h
            · simp at h
            · rename_i h1 h2 h3 h4 h5 h6
              rw [if_neg h1, if_neg h2, if_neg h3, if_neg h4, if_neg h5, if_neg h6]
              exact ⟨rfl, by omega, by omega, by omega, by simpa using h5, by simpa using h6⟩
theorem next_len {l : List UInt8} (h : (next l).2.2 = 0) : (next l).1.length = len l ∧ (next l).2.1 = (next l).1.length + 9 ∧ (next l).2.1 ≤ l.length := by
  obtain ⟨he, h1, h2, -⟩ := next_ok h
  rw [he]
  have : ((l.drop 4).take (len l)).length = len l := by simp; omega
  exact ⟨this, by rw [this], h1⟩
theorem next_short (l : List UInt8) (h : l.length < 9) : (next l).2.2 ≠ 0 := fun e => by have := next_ok e; omega
theorem scanF_err {l : List UInt8} (h : (next l).2.2 ≠ 0) (f : Nat) : scanF f l = [] := by
  cases f with
  | zero => rfl
  | succ f => unfold scanF; rw [if_pos h]
theorem scanF_more (f : Nat) : ∀ (g : Nat) (l : List UInt8), l.length ≤ f → l.length ≤ g → scanF f l = scanF g l := by
  induction f with
  | zero =>
    intro g l h _
    have he : (next l).2.2 ≠ 0 := next_short l (by omega)
    rw [scanF_err he, scanF_err he]
  | succ f ih =>
    intro g l h hg
    by_cases he : (next l).2.2 ≠ 0
    · rw [scanF_err he, scanF_err he]
    · have he0 : (next l).2.2 = 0 := by simpa using he
      obtain ⟨h1, h2, h3⟩ := next_len he0
      obtain ⟨k, rfl⟩ : ∃ k, g = k + 1 := ⟨g - 1, by omega⟩
      unfold scanF
      rw [if_neg he, if_neg he]
      congr 1
      exact ih k _ (by simp; omega) (by simp; omega)
theorem scan_stop {l : List UInt8} (h : (next l).2.2 ≠ 0) : scan l = [] := scanF_err h _
theorem scan_cons {l : List UInt8} (h : (next l).2.2 = 0) : scan l = (next l).1 :: scan (l.drop (next l).2.1) := by
  obtain ⟨h1, h2, h3⟩ := next_len h
  obtain ⟨k, hk⟩ : ∃ k, l.length = k + 1 := ⟨l.length - 1, by omega⟩
  unfold scan
  rw [hk]
  conv => lhs; unfold scanF
  rw [if_neg (by simp [h])]
  congr 1
  exact scanF_more _ _ _ (by simp; omega) (by omega)
theorem scan_used (f : Nat) : ∀ l : List UInt8, l.length ≤ f → used (scan l) ≤ l.length := by
  induction f with
  | zero =>
    intro l h
    rw [scan_stop (next_short l (by omega))]
    exact Nat.zero_le _
  | succ f ih =>
    intro l h
    by_cases he : (next l).2.2 = 0
    · obtain ⟨h1, h2, h3⟩ := next_len he
      rw [scan_cons he]
      have := ih (l.drop (next l).2.1) (by simp; omega)
      simp only [used, List.length_drop] at this ⊢
      omega
    · rw [scan_stop he]
      exact Nat.zero_le _
theorem num_be4 (n : Nat) (h : n < 4294967296) : num (be 4 n) = n := by
  rw [num_be]
  exact Nat.mod_eq_of_lt (by omega)
theorem len_be (n : Nat) (h : n < 4294967296) (more : List UInt8) : len (be 4 n ++ more) = n := by
  unfold len
  rw [List.take_left' (be_length 4 n), num_be4 n h]
theorem next_one (r more : List UInt8) (h : bad r = 0) : next (one r ++ more) = (r, r.length + 9, 0) := by
  obtain ⟨h0, hm⟩ := bad_ok h
  have e : one r ++ more = be 4 r.length ++ (r ++ (be 4 (Crc.sum (head r)) ++ [165]) ++ more) := by simp [one, head]
  have hl : len (one r ++ more) = r.length := by rw [e]; exact len_be _ (by omega) _
  have e2 : one r ++ more = head r ++ (be 4 (Crc.sum (head r)) ++ [165] ++ more) := by simp [one]
  have hhl := head_length r
  have hb4 : (be 4 (Crc.sum (head r))).length = 4 := be_length _ _
  have hlen : (one r ++ more).length = r.length + 9 + more.length := by rw [List.length_append, one_length]
  have h1 : (one r ++ more).take (r.length + 4) = head r := by rw [e2, ← hhl, List.take_left]
  have h2 : ((one r ++ more).drop (r.length + 4)).take 4 = be 4 (Crc.sum (head r)) := by
    rw [e2, ← hhl, List.drop_left, List.append_assoc]
    exact List.take_left' hb4
  have h3 : (one r ++ more).getD (r.length + 8) 0 = 165 := by
    rw [e2, List.getD_eq_getElem?_getD, List.getElem?_append_right (by omega), List.append_assoc, List.getElem?_append_right (by omega), hhl, hb4, show r.length + 8 - (r.length + 4) - 4 = 0 by omega]
    rfl
  have h4 : ((one r ++ more).drop 4).take r.length = r := by
    rw [e, List.drop_left' (be_length 4 _), List.append_assoc, List.take_left]
  unfold next
  rw [hl, h1, h2, h3, h4, if_neg (by omega), if_neg (by omega), if_neg (by omega), if_neg (by omega), if_neg (by simp), if_neg (by simp)]
theorem scan_one (r more : List UInt8) (h : bad r = 0) : scan (one r ++ more) = r :: scan more := by
  have hn := next_one r more h
  rw [scan_cons (by rw [hn]), hn]
  simp only
  rw [List.drop_left' (one_length r)]
theorem scan_cat (l : List (List UInt8)) (more : List UInt8) (h : err l = 0) : scan (cat l ++ more) = l ++ scan more := by
  have hk := err_ok h
  clear h
  induction l with
  | nil => rfl
  | cons r l ih =>
    rw [cat_cons, List.append_assoc, scan_one r _ (hk r (by simp)), ih fun x hx => hk x (by simp [hx])]
    rfl
/-- As the document asks. -/
theorem one_eq_iff (l : List UInt8) (h : len l + 9 ≤ l.length) (he : l.getD (len l + 8) 0 = 165) :
    one ((l.drop 4).take (len l)) = l.take (len l + 9) ↔ (l.drop (len l + 4)).take 4 = be 4 (Crc.sum (l.take (len l + 4))) := by
  have h4 : be 4 (len l) = l.take 4 := by
    have := be_num (l.take 4)
    rw [show (l.take 4).length = 4 by simp; omega] at this
    exact this
  have hr : ((l.drop 4).take (len l)).length = len l := by simp; omega
  have hh : head ((l.drop 4).take (len l)) = l.take (len l + 4) := by
    unfold head
    rw [hr, h4, Nat.add_comm (len l) 4, List.take_add]
  have hx : l.take (len l + 9) = l.take (len l + 4) ++ ((l.drop (len l + 4)).take 4 ++ [165]) := by
    have e5 : l.take (len l + 9) = l.take (len l + 4) ++ (l.drop (len l + 4)).take 5 := by
      rw [show len l + 9 = (len l + 4) + 5 by omega, List.take_add]
    have e6 : ∀ q : List UInt8, q.take 5 = q.take 4 ++ (q.drop 4).take 1 := fun q => by rw [show (5 : Nat) = 4 + 1 from rfl, List.take_add]
    rw [e5, e6, List.drop_drop]
    congr 2
    rw [List.drop_eq_getElem_cons (show len l + 4 + 4 < l.length by omega), List.take_succ_cons, List.take_zero]
    rw [← he]
    simp [List.getD_eq_getElem?_getD, List.getElem?_eq_getElem (show len l + 8 < l.length by omega)]
  unfold one
  rw [hh, hx, List.append_cancel_left_eq, List.append_cancel_right_eq]
  exact eq_comm
/-- A beginning of records' bytes, and noughts behind it: those are told that are whole. -/
def whole : List (List UInt8) → Nat → List (List UInt8)
  | [], _ => []
  | r :: l, c => if r.length + 9 ≤ c then r :: whole l (c - (r.length + 9)) else []
theorem zeros_getD (x : List UInt8) (k n : Nat) (h : x.length ≤ k) : (x ++ List.replicate n (0 : UInt8)).getD k 0 = 0 := by
  rw [List.getD_eq_getElem?_getD, List.getElem?_append_right h, List.getElem?_replicate]
  split <;> rfl
theorem stop_zeros (x : List UInt8) (n : Nat) (h : x.length ≤ len (x ++ List.replicate n 0) + 8) : (next (x ++ List.replicate n 0)).2.2 ≠ 0 := by
  intro e
  obtain ⟨-, -, -, -, h1, -⟩ := next_ok e
  rw [zeros_getD x _ n h] at h1
  exact absurd h1 (by decide)
theorem scan_falls (l : List (List UInt8)) (h : err l = 0) (n : Nat) : ∀ c, scan ((cat l).take c ++ List.replicate n 0) = whole l c := by
  have hk := err_ok h
  clear h
  induction l with
  | nil =>
    intro c
    rw [cat_nil, List.take_nil]
    exact scan_stop (stop_zeros [] n (by simp))
  | cons r l ih =>
    intro c
    have hr := hk r (by simp)
    unfold whole
    by_cases hc : r.length + 9 ≤ c
    · rw [if_pos hc, cat_cons, List.take_append, List.take_of_length_le (by rw [one_length]; exact hc), one_length, List.append_assoc, scan_one r _ hr, ih (fun x hx => hk x (by simp [hx]))]
    · rw [if_neg hc]
      have hct : (cat (r :: l)).take c = (one r).take c := by
        rw [cat_cons, List.take_append_of_le_length (by rw [one_length]; omega)]
      rw [hct]
      obtain ⟨h0, hm⟩ := bad_ok hr
      have hol := one_length r
      apply scan_stop
      apply stop_zeros
      have hlt : ((one r).take c).length = c := by rw [List.length_take]; omega
      rw [hlt]
      by_cases h8 : c ≤ 8
      · omega
      · have : len ((one r).take c ++ List.replicate n 0) = r.length := by
          unfold len
          rw [List.take_append_of_le_length (by omega), List.take_take, show min 4 c = 4 by omega]
          have e : one r = be 4 r.length ++ (r ++ (be 4 (Crc.sum (head r)) ++ [165])) := by simp [one, head]
          rw [e, List.take_left' (be_length 4 _), num_be4 _ (by omega)]
        rw [this]
        omega
theorem next_zero4 (t : List UInt8) : (next ([0, 0, 0, 0] ++ t)).2.2 ≠ 0 := by
  intro e
  obtain ⟨-, -, h1, -⟩ := next_ok e
  have : len ([0, 0, 0, 0] ++ t) = 0 := by simp [len, num]
  omega
end Go.Proofs.YtopacbmdoognjaaDoor.Sg
