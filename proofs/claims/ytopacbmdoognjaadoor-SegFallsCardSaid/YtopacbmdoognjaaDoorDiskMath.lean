/- Disks, plainly: what lasts when bytes that wait are done. No Go in sight. -/
namespace Go.Proofs.YtopacbmdoognjaaDoor.Disk
/-- A write that waits: its block, its bytes. -/
abbrev Wr := Nat × ByteArray
/-- Bytes at the front of a block. -/
def put (s : List UInt8) (k : Nat) (d : List UInt8) : List UInt8 := s.take (64 * k) ++ (d ++ s.drop (64 * k + d.length))
/-- How many bytes of a write are done. -/
def upto (cut : Int) (n : Nat) : Nat := (max 0 (min cut (n : Int))).toNat
theorem upto_le (cut : Int) (n : Nat) : upto cut n ≤ n := by unfold upto; omega
/-- What lasts, with the first bytes that wait done. -/
def done : List UInt8 → List Wr → Int → List UInt8
  | s, [], _ => s
  | s, (k, d) :: ws, cut => done (put s k (d.data.toList.take (upto cut d.size))) ws (cut - (upto cut d.size : Int))
/-- What is left of a number of bytes, behind these writes. -/
def left : List Wr → Int → Int
  | [], cut => cut
  | (_, d) :: ws, cut => left ws (cut - (upto cut d.size : Int))
theorem done_append (ws vs : List Wr) : ∀ (s : List UInt8) (cut : Int), done s (ws ++ vs) cut = done (done s ws cut) vs (left ws cut) := by
  induction ws with
  | nil => intro s cut; rfl
  | cons x ws ih => intro s cut; obtain ⟨k, d⟩ := x; simp only [List.cons_append, done, left, ih]
theorem left_append (ws vs : List Wr) : ∀ (cut : Int), left (ws ++ vs) cut = left vs (left ws cut) := by
  induction ws with
  | nil => intro cut; rfl
  | cons x ws ih => intro cut; obtain ⟨k, d⟩ := x; simp only [List.cons_append, left, ih]
/-- How many bytes wait. -/
def total : List Wr → Nat
  | [] => 0
  | (_, d) :: ws => d.size + total ws
theorem total_append (ws vs : List Wr) : total (ws ++ vs) = total ws + total vs := by
  induction ws with
  | nil => simp [total]
  | cons x ws ih => obtain ⟨k, d⟩ := x; simp only [List.cons_append, total, ih]; omega
/-- All of them are done. -/
def all : List UInt8 → List Wr → List UInt8
  | s, [] => s
  | s, (k, d) :: ws => all (put s k d.data.toList) ws
theorem all_append (ws vs : List Wr) : ∀ s, all s (ws ++ vs) = all (all s ws) vs := by
  induction ws with
  | nil => intro s; rfl
  | cons x ws ih => intro s; obtain ⟨k, d⟩ := x; simp only [List.cons_append, all, ih]
theorem done_all (ws : List Wr) : ∀ (s : List UInt8) (cut : Int), (total ws : Int) ≤ cut → done s ws cut = all s ws := by
  induction ws with
  | nil => intro s cut _; rfl
  | cons x ws ih =>
    intro s cut h
    obtain ⟨k, d⟩ := x
    simp only [total] at h
    have hu : upto cut d.size = d.size := by unfold upto; omega
    simp only [done, all, hu]
    rw [ih _ _ (by omega), List.take_of_length_le (by simp)]
/-- A cut that is less than nought is one of nought. -/
theorem done_max (ws : List Wr) : ∀ (s : List UInt8) (cut : Int), done s ws (max 0 cut) = done s ws cut := by
  induction ws with
  | nil => intro s cut; rfl
  | cons x ws ih =>
    intro s cut
    obtain ⟨k, d⟩ := x
    have hu : upto (max 0 cut) d.size = upto cut d.size := by unfold upto; omega
    simp only [done, hu]
    rw [← ih _ (max 0 cut - _), ← ih _ (cut - _)]
    congr 1
    unfold upto
    omega
theorem put_length (s : List UInt8) (k : Nat) (d : List UInt8) (h : 64 * k + d.length ≤ s.length) : (put s k d).length = s.length := by
  unfold put; simp; omega
/-- A write that stands within n blocks. -/
def Fits (n : Nat) (ws : List Wr) : Prop := ∀ x ∈ ws, x.1 < n ∧ x.2.size ≤ 64
theorem Fits.append {n : Nat} {ws vs : List Wr} (h : Fits n ws) (k : Fits n vs) : Fits n (ws ++ vs) := fun x hx => by
  rcases List.mem_append.1 hx with h1 | h1
  · exact h x h1
  · exact k x h1
theorem done_length (n : Nat) (ws : List Wr) : ∀ (s : List UInt8) (cut : Int), s.length = 64 * n → Fits n ws → (done s ws cut).length = 64 * n := by
  induction ws with
  | nil => intro s cut h _; exact h
  | cons x ws ih =>
    intro s cut h hf
    obtain ⟨k, d⟩ := x
    have h1 := hf (k, d) (by simp)
    have h2 := upto_le cut d.size
    refine ih _ _ ?_ fun y hy => hf y (by simp [hy])
    rw [put_length, h]
    simp only at h1
    simp
    omega
/-- A block that is not written stays. -/
theorem put_other (s : List UInt8) (k : Nat) (d : List UInt8) (n i : Nat) (hs : s.length = 64 * n) (hk : k < n) (hd : d.length ≤ 64) (hne : i ≠ k) : ((put s k d).drop (64 * i)).take 64 = (s.drop (64 * i)).take 64 := by
  apply List.ext_getElem?
  intro j
  by_cases hj : j < 64
  · rw [List.getElem?_take_of_lt hj, List.getElem?_take_of_lt hj, List.getElem?_drop, List.getElem?_drop]
    unfold put
    rcases Nat.lt_or_gt_of_ne hne with h | h
    · rw [List.getElem?_append_left (by simp; omega), List.getElem?_take_of_lt (by omega)]
    · rw [List.getElem?_append_right (by simp; omega), List.getElem?_append_right (by simp; omega), List.getElem?_drop]
      congr 1
      simp
      omega
  · rw [List.getElem?_eq_none (by simp; omega), List.getElem?_eq_none (by simp; omega)]
theorem done_other (n i : Nat) (ws : List Wr) : ∀ (s : List UInt8) (cut : Int), s.length = 64 * n → Fits n ws → (∀ x ∈ ws, x.1 ≠ i) → ((done s ws cut).drop (64 * i)).take 64 = (s.drop (64 * i)).take 64 := by
  induction ws with
  | nil => intro s cut _ _ _; rfl
  | cons x ws ih =>
    intro s cut h hf hne
    obtain ⟨k, d⟩ := x
    have h1 := hf (k, d) (by simp)
    have h2 := upto_le cut d.size
    have h3 := hne (k, d) (by simp)
    simp only at h1 h3
    rw [done, ih _ _ (by rw [put_length, h]; simp; omega) (fun y hy => hf y (by simp [hy])) (fun y hy => hne y (by simp [hy]))]
    exact put_other s k _ n i h h1.1 (by simp; omega) (fun e => h3 e.symm)
end Go.Proofs.YtopacbmdoognjaaDoor.Disk
