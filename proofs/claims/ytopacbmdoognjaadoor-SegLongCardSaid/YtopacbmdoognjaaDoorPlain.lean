/- Merged: OctMath, OctIn, CrcMath, FrameMath, SegMath, DiskMath, WalMath, WalShape. -/

/- Plain octets: big-endian numbers, texts; what reads them. No Go in sight. -/
namespace Go.Proofs.YtopacbmdoognjaaDoor.Oct
/-- A string of these bytes. -/
def bs (l : List UInt8) : ByteArray := ⟨l.toArray⟩
theorem bs_toList (l : List UInt8) : (bs l).data.toList = l := rfl
theorem bs_size (l : List UInt8) : (bs l).size = l.length := by simp [bs, ByteArray.size]
theorem ba_ext {a b : ByteArray} (h : a.data.toList = b.data.toList) : a = b := by
  obtain ⟨⟨a⟩⟩ := a; obtain ⟨⟨b⟩⟩ := b
  simp at h
  rw [h]
theorem bs_self (a : ByteArray) : bs a.data.toList = a := ba_ext rfl
theorem bs_append (a b : List UInt8) : bs a ++ bs b = bs (a ++ b) := ba_ext (by simp [bs])
theorem append_bs (a b : ByteArray) : a ++ b = bs (a.data.toList ++ b.data.toList) := ba_ext (by simp [bs])
/-- The last w bytes of a number, the greatest first. -/
def be : Nat → Nat → List UInt8
  | 0, _ => []
  | w + 1, n => be w (n / 256) ++ [UInt8.ofNat n]
theorem be_length (w : Nat) : ∀ n, (be w n).length = w := by
  induction w with
  | zero => intro n; rfl
  | succ w ih => intro n; simp [be, ih]
/-- As how many bytes a number is written. -/
def wid (b : Int) : Nat := (min (max b 0) 8).toNat
theorem wid_le (b : Int) : wid b ≤ 8 := by unfold wid; omega
/-- The bytes of a text. -/
def txt (l : List UInt8) : List UInt8 := be 2 l.length ++ l
/-- The number of bytes. -/
def num (l : List UInt8) : Nat := l.foldl (fun n b => n * 256 + b.toNat) 0
theorem num_snoc (l : List UInt8) (b : UInt8) : num (l ++ [b]) = num l * 256 + b.toNat := by simp [num]
theorem num_be (w : Nat) : ∀ n, num (be w n) = n % 256 ^ w := by
  induction w with
  | zero => intro n; simp [be, num, Nat.mod_one]
  | succ w ih =>
    intro n
    have h1 : n % (256 * 256 ^ w) = n % 256 + 256 * (n / 256 % 256 ^ w) := Nat.mod_mul
    have h2 : 256 ^ (w + 1) = 256 * 256 ^ w := by rw [Nat.pow_succ, Nat.mul_comm]
    rw [be, num_snoc, ih, UInt8.toNat_ofNat', h2, h1]
    omega
theorem num_lt (l : List UInt8) : num l < 256 ^ l.length := by
  suffices h : ∀ (l : List UInt8), num l.reverse < 256 ^ l.length by
    have := h l.reverse
    simpa using this
  intro l
  induction l with
  | nil => simp [num]
  | cons b l ih =>
    rw [List.reverse_cons, num_snoc, List.length_cons, Nat.pow_succ]
    have := b.toNat_lt
    omega
end Go.Proofs.YtopacbmdoognjaaDoor.Oct
/- What reads bytes: its states, plainly. No Go in sight. -/
namespace Go.Proofs.YtopacbmdoognjaaDoor.Oct
/-- What is left, and the first error. -/
abbrev St := List UInt8 × Int
def fail (q : St) (c : Int) : St := if q.2 = 0 ∧ c ≠ 0 then ([], c) else q
def raw (q : St) (n : Int) : List UInt8 × St :=
  if q.2 ≠ 0 ∨ n ≤ 0 then ([], q) else if (q.1.length : Int) < n then ([], fail q 3) else (q.1.take n.toNat, (q.1.drop n.toNat, q.2))
def inum (q : St) (b : Int) : Nat × St := (num (raw q (min b 8)).1, (raw q (min b 8)).2)
def itext (q : St) (most : Int) : List UInt8 × St :=
  raw (if most < ((inum q 2).1 : Int) then fail (inum q 2).2 5 else (inum q 2).2) ((inum q 2).1 : Int)
def iend (q : St) : Int := if q.2 = 0 ∧ 0 < q.1.length then 4 else q.2
theorem raw_length (q : St) (n : Int) : ((raw q n).1.length : Int) ≤ max n 0 := by
  unfold raw
  split
  · simp; omega
  · split
    · simp; omega
    · simp; omega
theorem inum_lt (q : St) (b : Int) : (inum q b).1 < 18446744073709551616 := by
  unfold inum
  have h := num_lt (raw q (min b 8)).1
  have h1 := raw_length q (min b 8)
  have h2 : (raw q (min b 8)).1.length ≤ 8 := by omega
  have h3 : 256 ^ (raw q (min b 8)).1.length ≤ 256 ^ 8 := Nat.pow_le_pow_right (by decide) h2
  have : (256 : Nat) ^ 8 = 18446744073709551616 := by decide
  simp only
  omega
theorem raw_le (q : St) (n : Int) : (raw q n).2.1.length ≤ q.1.length := by
  unfold raw fail
  split
  · exact Nat.le_refl _
  · split
    · split <;> simp
    · simp
theorem fail_le (q : St) (n : Int) : (fail q n).1.length ≤ q.1.length := by
  unfold fail
  split <;> simp
theorem inum_le (q : St) (n : Int) : (inum q n).2.1.length ≤ q.1.length := raw_le _ _
theorem inum2_lt (q : St) : (inum q 2).1 < 65536 := by
  unfold inum
  have h := num_lt (raw q (min 2 8)).1
  have h1 := raw_length q (min 2 8)
  have h2 : (raw q (min 2 8)).1.length ≤ 2 := by omega
  have h3 : 256 ^ (raw q (min 2 8)).1.length ≤ 256 ^ 2 := Nat.pow_le_pow_right (by decide) h2
  simp only
  omega
end Go.Proofs.YtopacbmdoognjaaDoor.Oct
/- Plain arithmetic of the check sum: one bit's step, four bits by the table, eight bits; linear, one-to-one. No Go in sight. -/
namespace Go.Proofs.YtopacbmdoognjaaDoor.Crc
def poly : Nat := 3988292384
/-- One bit. -/
def bit (r : Nat) : Nat := (r / 2) ^^^ (if r % 2 = 1 then poly else 0)
def bits : Nat → Nat → Nat
  | 0, r => r
  | n + 1, r => bits n (bit r)
/-- A register behind a byte. -/
def step (r b : Nat) : Nat := bits 8 (r ^^^ b)
/-- A register behind bytes. -/
def over (r : Nat) (l : List UInt8) : Nat := l.foldl (fun r b => step r b.toNat) r
/-- The sum of bytes. -/
def sum (l : List UInt8) : Nat := 4294967295 ^^^ over 4294967295 l
def tab : List Nat := [0, 498536548, 997073096, 651767980, 1994146192, 1802195444, 1303535960, 1342533948, 3988292384, 4027552580, 3604390888, 3412177804, 2607071920, 2262029012, 2685067896, 3183342108]

theorem xor_div2 (a b : Nat) : (a ^^^ b) / 2 = a / 2 ^^^ b / 2 := by
  have := @Nat.xor_div_two_pow a b 1
  simpa using this
theorem xor_mod2 (a b : Nat) : (a ^^^ b) % 2 = (a % 2) ^^^ (b % 2) := by
  have := @Nat.xor_mod_two_pow a b 1
  simpa using this
theorem bit_xor (a b : Nat) : bit (a ^^^ b) = bit a ^^^ bit b := by
  unfold bit
  rw [xor_div2, xor_mod2]
  have ha : a % 2 = 0 ∨ a % 2 = 1 := by omega
  have hb : b % 2 = 0 ∨ b % 2 = 1 := by omega
  rcases ha with ha | ha <;> rcases hb with hb | hb <;> simp [ha, hb]
  · rw [Nat.xor_assoc]
  · rw [Nat.xor_assoc, Nat.xor_assoc, Nat.xor_comm (b / 2) poly]
  · have e : ∀ p q x : Nat, p ^^^ x ^^^ (q ^^^ x) = p ^^^ q := fun p q x => by
      rw [Nat.xor_comm q x, ← Nat.xor_assoc, Nat.xor_assoc p x x, Nat.xor_self, Nat.xor_zero]
    rw [e]
theorem bits_xor (n : Nat) : ∀ a b, bits n (a ^^^ b) = bits n a ^^^ bits n b := by
  induction n with
  | zero => intro a b; rfl
  | succ n ih => intro a b; simp only [bits]; rw [bit_xor, ih]
theorem bits_add (m n : Nat) : ∀ r, bits (m + n) r = bits n (bits m r) := by
  induction m with
  | zero => intro r; simp [bits]
  | succ m ih => intro r; rw [Nat.succ_add]; simp only [bits]; exact ih _
theorem bit_even (q : Nat) : bit (2 * q) = q := by
  unfold bit
  have h1 : 2 * q % 2 = 0 := by omega
  have h2 : 2 * q / 2 = q := by omega
  rw [h1, h2]; simp
theorem bits_shift (n : Nat) : ∀ q, bits n (2 ^ n * q) = q := by
  induction n with
  | zero => intro q; simp [bits]
  | succ n ih =>
    intro q
    have e : 2 ^ (n + 1) * q = 2 * (2 ^ n * q) := by rw [Nat.pow_succ, Nat.mul_comm (2 ^ n) 2, Nat.mul_assoc]
    simp only [bits]
    rw [e, bit_even, ih]
theorem bit_lt (r : Nat) (h : r < 4294967296) : bit r < 4294967296 := by
  unfold bit
  have h1 : r / 2 < 2 ^ 32 := by omega
  have h2 : (if r % 2 = 1 then poly else 0) < 2 ^ 32 := by split <;> simp [poly]
  exact Nat.xor_lt_two_pow h1 h2
theorem bits_lt (n : Nat) : ∀ r, r < 4294967296 → bits n r < 4294967296 := by
  induction n with
  | zero => intro r h; exact h
  | succ n ih => intro r h; exact ih _ (bit_lt r h)
theorem split16 (r : Nat) : r = (2 ^ 4 * (r / 16)) ^^^ (r % 16) := by
  have h := Nat.two_pow_add_eq_or_of_lt (i := 4) (b := r % 16) (by omega) (r / 16)
  have h2 : (2 ^ 4 * (r / 16)) ^^^ (r % 16) = (2 ^ 4 * (r / 16)) ||| (r % 16) := by
    apply Nat.eq_of_testBit_eq
    intro i
    rw [Nat.testBit_xor, Nat.testBit_or, Nat.testBit_two_pow_mul]
    by_cases hi : i < 4
    · simp [show ¬ i ≥ 4 by omega]
    · have : (r % 16).testBit i = false := Nat.testBit_lt_two_pow (Nat.lt_of_lt_of_le (Nat.mod_lt _ (by decide)) (by
        have : 2 ^ 4 ≤ 2 ^ i := Nat.pow_le_pow_right (by decide) (by omega)
        simpa using this))
      simp [this]
  rw [h2, ← h]; omega
def tabAt (i : Nat) : Nat := tab.getD i 0
theorem tab_eq : ∀ m : Fin 16, bits 4 m.val = tabAt m.val := by decide
theorem tabAt_lt (i : Nat) : tabAt i < 4294967296 := by
  by_cases h : i < 16
  · have : ∀ m : Fin 16, tabAt m.val < 4294967296 := by decide
    exact this ⟨i, h⟩
  · have : tabAt i = 0 := by
      unfold tabAt
      rw [List.getD_eq_getElem?_getD, List.getElem?_eq_none (by simp [tab]; omega)]
      rfl
    omega
/-- Four bits by the table. -/
theorem nib_eq (r : Nat) : bits 4 r = (r / 16) ^^^ tabAt (r % 16) := by
  conv => lhs; rw [split16 r]
  rw [bits_xor, bits_shift, tab_eq ⟨r % 16, Nat.mod_lt _ (by decide)⟩]
theorem step_nib (r b : Nat) : step r b = bits 4 (bits 4 (r ^^^ b)) := by
  unfold step; rw [show (8 : Nat) = 4 + 4 from rfl, bits_add]
theorem step_lt (r b : Nat) (h : r < 4294967296) (hb : b < 4294967296) : step r b < 4294967296 :=
  bits_lt 8 _ (Nat.xor_lt_two_pow (n := 32) h hb)
theorem over_lt (l : List UInt8) : ∀ r, r < 4294967296 → over r l < 4294967296 := by
  induction l with
  | nil => intro r h; exact h
  | cons b l ih => intro r h; exact ih _ (step_lt r b.toNat h (by have := b.toNat_lt; omega))
theorem sum_lt (l : List UInt8) : sum l < 4294967296 := Nat.xor_lt_two_pow (n := 32) (by decide) (over_lt l _ (by decide))
theorem over_append (a b : List UInt8) (r : Nat) : over r (a ++ b) = over (over r a) b := by simp [over]
theorem over_snoc (a : List UInt8) (b : UInt8) (r : Nat) : over r (a ++ [b]) = step (over r a) b.toNat := by simp [over]

/-! ### one-to-one -/
theorem bit_zero_of (r : Nat) (h : r < 4294967296) (h0 : bit r = 0) : r = 0 := by
  unfold bit at h0
  by_cases hr : r % 2 = 1
  · rw [if_pos hr] at h0
    have e : r / 2 = poly := by
      have := congrArg (· ^^^ poly) h0
      simpa [Nat.xor_assoc] using this
    simp [poly] at e
    omega
  · rw [if_neg hr] at h0
    simp at h0
    omega
theorem bits_zero_of (n : Nat) : ∀ r, r < 4294967296 → bits n r = 0 → r = 0 := by
  induction n with
  | zero => intro r _ h; exact h
  | succ n ih => intro r h h0; exact bit_zero_of r h (ih _ (bit_lt r h) h0)
theorem xor_eq_zero {a b : Nat} : a ^^^ b = 0 ↔ a = b := by
  constructor
  · intro h
    have := congrArg (· ^^^ b) h
    simpa [Nat.xor_assoc] using this
  · rintro rfl; exact Nat.xor_self _
theorem bits_inj (n a b : Nat) (ha : a < 4294967296) (hb : b < 4294967296) : bits n a = bits n b ↔ a = b := by
  constructor
  · intro h
    have h0 : bits n (a ^^^ b) = 0 := by rw [bits_xor, h, Nat.xor_self]
    exact xor_eq_zero.1 (bits_zero_of n _ (Nat.xor_lt_two_pow (n := 32) ha hb) h0)
  · rintro rfl; rfl
theorem xor_right_inj' {a b c : Nat} : a ^^^ c = b ^^^ c ↔ a = b := by
  constructor
  · intro h
    have := congrArg (· ^^^ c) h
    simpa [Nat.xor_assoc] using this
  · rintro rfl; rfl
theorem xor_left_inj' {a b c : Nat} : c ^^^ a = c ^^^ b ↔ a = b := by
  rw [Nat.xor_comm c a, Nat.xor_comm c b]; exact xor_right_inj'
theorem step_inj_left (r s a : Nat) (hr : r < 4294967296) (hs : s < 4294967296) (ha : a < 256) : step r a = step s a ↔ r = s := by
  unfold step
  rw [bits_inj 8 _ _ (Nat.xor_lt_two_pow (n := 32) hr (by omega)) (Nat.xor_lt_two_pow (n := 32) hs (by omega)), xor_right_inj']
theorem step_inj_right (r a b : Nat) (hr : r < 4294967296) (ha : a < 256) (hb : b < 256) : step r a = step r b ↔ a = b := by
  unfold step
  rw [bits_inj 8 _ _ (Nat.xor_lt_two_pow (n := 32) hr (by omega)) (Nat.xor_lt_two_pow (n := 32) hr (by omega)), xor_left_inj']
end Go.Proofs.YtopacbmdoognjaaDoor.Crc
/- Frames, plainly: their bytes; what bytes begin with. No Go in sight. -/
namespace Go.Proofs.YtopacbmdoognjaaDoor.Frm
open Oct
structure Fm where
  ch : UInt8
  kd : UInt8
  body : List UInt8
  deriving Inhabited, DecidableEq
def zero : Fm := ⟨0, 0, []⟩
/-- A frame's bytes ahead of its sum. -/
def front (f : Fm) : List UInt8 := [f.ch, f.kd] ++ txt f.body
def bytes (f : Fm) : List UInt8 := front f ++ (be 4 (Crc.sum (front f)) ++ [206])
/-- The length that bytes tell. -/
def len (l : List UInt8) : Nat := num ((l.drop 2).take 2)
def parse (l : List UInt8) : Fm × Nat × Int :=
  if l.length < 4 then (zero, 0, 3) else if 2048 < len l then (zero, 0, 5) else if l.length < len l + 9 then (zero, 0, 3) else if l.getD (len l + 8) 0 ≠ 206 then (zero, 0, 4)
  else if (l.drop (len l + 4)).take 4 ≠ be 4 (Crc.sum (l.take (len l + 4))) then (zero, 0, 14) else (⟨l.getD 0 0, l.getD 1 0, (l.drop 4).take (len l)⟩, len l + 9, 0)
theorem be_num (l : List UInt8) : be l.length (num l) = l := by
  suffices h : ∀ (l : List UInt8), be l.length (num l.reverse) = l.reverse by
    have := h l.reverse
    simpa using this
  intro l
  induction l with
  | nil => rfl
  | cons b l ih =>
    rw [List.reverse_cons, num_snoc, List.length_cons, be]
    have hb := b.toNat_lt
    rw [show (num l.reverse * 256 + b.toNat) / 256 = num l.reverse by omega, ih]
    congr 2
    apply UInt8.toNat_inj.1
    rw [UInt8.toNat_ofNat']
    omega
theorem num_eq_iff (l : List UInt8) (s : Nat) (h : l.length = 4) (hs : s < 4294967296) : num l = s ↔ l = be 4 s := by
  constructor
  · intro e
    have := be_num l
    rw [h, e] at this
    exact this.symm
  · intro e
    rw [e, num_be]
    exact Nat.mod_eq_of_lt (by omega)
theorem raw_err {q : St} (h : q.2 ≠ 0) (n : Int) : raw q n = ([], q) := by unfold raw; rw [if_pos (.inl h)]
theorem inum_err {q : St} (h : q.2 ≠ 0) (n : Int) : inum q n = (0, q) := by unfold inum; rw [raw_err h]; rfl
theorem fail_err {q : St} (h : q.2 ≠ 0) (n : Int) : fail q n = q := by unfold fail; rw [if_neg (fun x => h x.1)]
theorem itext_err {q : St} (h : q.2 ≠ 0) (n : Int) : itext q n = ([], q) := by
  unfold itext
  rw [inum_err h]
  simp only
  rw [fail_err h]
  split <;> exact raw_err h _
theorem raw_short (l : List UInt8) (n : Nat) (h : l.length < n) : raw (l, 0) n = ([], ([], 3)) := by
  unfold raw
  rw [if_neg (by simp; omega), if_pos (by simp; omega)]
  rfl
theorem raw_ok (l : List UInt8) (n : Nat) (h : n ≤ l.length) : raw (l, 0) n = (l.take n, (l.drop n, 0)) := by
  unfold raw
  by_cases h0 : n = 0
  · subst h0
    rw [if_pos (by simp)]
    simp
  · rw [if_neg (by simp; omega), if_neg (by simp; omega)]
    simp
theorem inum_short (l : List UInt8) (n : Nat) (h : l.length < n) (h8 : n ≤ 8) : inum (l, 0) n = (0, ([], 3)) := by
  unfold inum
  rw [show min (n : Int) 8 = (n : Int) by omega, raw_short l n h]
  rfl
theorem inum_ok (l : List UInt8) (n : Nat) (h : n ≤ l.length) (h8 : n ≤ 8) : inum (l, 0) n = (num (l.take n), (l.drop n, 0)) := by
  unfold inum
  rw [show min (n : Int) 8 = (n : Int) by omega, raw_ok l n h]
/-- As the program parses. -/
def r1 (l : List UInt8) : Nat × St := inum (l, 0) 1
def r2 (l : List UInt8) : Nat × St := inum (r1 l).2 1
def r3 (l : List UInt8) : List UInt8 × St := itext (r2 l).2 2048
def r4 (l : List UInt8) : Nat × St := inum (r3 l).2 4
def r5 (l : List UInt8) : Nat × St := inum (r4 l).2 1
def prog (l : List UInt8) : Fm × Nat × Int :=
  if (r5 l).2.2 ≠ 0 then (zero, 0, (r5 l).2.2) else if (r5 l).1 ≠ 206 then (zero, 0, 4) else if Crc.sum (l.take (4 + (r3 l).1.length)) ≠ (r4 l).1 then (zero, 0, 14)
  else (⟨UInt8.ofNat (r1 l).1, UInt8.ofNat (r2 l).1, (r3 l).1⟩, 4 + (r3 l).1.length + 5, 0)
theorem prog_err (l : List UInt8) (q : St) (h3 : (r3 l).2 = q) (hq : q.2 ≠ 0) : prog l = (zero, 0, q.2) := by
  have h4 : (r4 l).2 = q := by unfold r4; rw [h3, inum_err hq]
  have h5 : (r5 l).2 = q := by unfold r5; rw [h4, inum_err hq]
  unfold prog
  rw [h5, if_pos hq]
theorem prog_eq (l : List UInt8) : prog l = parse l := by
  match l with
  | [] => exact (prog_err [] ([], 3) (by decide) (by decide)).trans (by simp [parse])
  | [a] => exact (prog_err [a] ([], 3) (by
      have h1 : r1 [a] = (num [a], ([], 0)) := inum_ok [a] 1 (by simp) (by decide)
      have h2 : r2 [a] = (0, ([], 3)) := by unfold r2; rw [h1]; exact inum_short [] 1 (by simp) (by decide)
      unfold r3; rw [h2, itext_err (by decide)]) (by decide)).trans (by simp [parse])
  | [a, b] => exact (prog_err [a, b] ([], 3) (by
      have h1 : r1 [a, b] = (num [a], ([b], 0)) := inum_ok [a, b] 1 (by simp) (by decide)
      have h2 : r2 [a, b] = (num [b], ([], 0)) := by unfold r2; rw [h1]; exact inum_ok [b] 1 (by simp) (by decide)
      unfold r3 itext; rw [h2, show inum ([], 0) 2 = (0, ([], 3)) from inum_short [] 2 (by simp) (by decide)]; decide) (by decide)).trans (by simp [parse])
  | [a, b, c] => exact (prog_err [a, b, c] ([], 3) (by
      have h1 : r1 [a, b, c] = (num [a], ([b, c], 0)) := inum_ok [a, b, c] 1 (by simp) (by decide)
      have h2 : r2 [a, b, c] = (num [b], ([c], 0)) := by unfold r2; rw [h1]; exact inum_ok [b, c] 1 (by simp) (by decide)
      unfold r3 itext; rw [h2, show inum ([c], 0) 2 = (0, ([], 3)) from inum_short [c] 2 (by simp) (by decide)]; decide) (by decide)).trans (by simp [parse])
  | a :: b :: c :: d :: l =>
    have h1 : r1 (a :: b :: c :: d :: l) = (num [a], (b :: c :: d :: l, 0)) := inum_ok (a :: b :: c :: d :: l) 1 (by simp) (by decide)
    have h2 : r2 (a :: b :: c :: d :: l) = (num [b], (c :: d :: l, 0)) := by unfold r2; rw [h1]; exact inum_ok (b :: c :: d :: l) 1 (by simp) (by decide)
    have h2b : inum (c :: d :: l, 0) 2 = (num [c, d], (l, 0)) := inum_ok (c :: d :: l) 2 (by simp) (by decide)
    have hlen : len (a :: b :: c :: d :: l) = num [c, d] := by simp [len]
    by_cases hn : 2048 < num [c, d]
    · have e : (r3 (a :: b :: c :: d :: l)).2 = ([], 5) := by
        unfold r3 itext
        rw [h2, h2b]
        simp only
        rw [if_pos (by omega), show fail (l, 0) 5 = ([], 5) by simp [fail], raw_err (by decide)]
      rw [prog_err _ _ e (by decide), parse, if_neg (by simp), hlen, if_pos hn]
    · by_cases hs : l.length < num [c, d]
      · have e : (r3 (a :: b :: c :: d :: l)).2 = ([], 3) := by
          unfold r3 itext
          rw [h2, h2b]
          simp only
          rw [if_neg (by omega), raw_short l _ hs]
        rw [prog_err _ _ e (by decide), parse, if_neg (by simp), hlen, if_neg hn, if_pos (by simp; omega)]
      · have h3 : r3 (a :: b :: c :: d :: l) = (l.take (num [c, d]), (l.drop (num [c, d]), 0)) := by
          unfold r3 itext
          rw [h2, h2b]
          simp only
          rw [if_neg (by omega), raw_ok l _ (by omega)]
        obtain ⟨n, hnn⟩ : ∃ n, num [c, d] = n := ⟨_, rfl⟩
        rw [hnn] at hn hs h3 hlen
        have hml : (l.drop n).length = l.length - n := by simp
        have htl : (l.take n).length = n := by simp; omega
        by_cases h9 : l.length < n + 5
        · have e : (r5 (a :: b :: c :: d :: l)).2 = ([], 3) := by
            by_cases h4 : l.length < n + 4
            · have e4 : r4 (a :: b :: c :: d :: l) = (0, ([], 3)) := by unfold r4; rw [h3]; exact inum_short _ 4 (by omega) (by decide)
              unfold r5
              rw [e4, inum_err (by decide)]
            · have e4 : r4 (a :: b :: c :: d :: l) = (num ((l.drop n).take 4), ((l.drop n).drop 4, 0)) := by unfold r4; rw [h3]; exact inum_ok _ 4 (by omega) (by decide)
              unfold r5
              rw [e4]
              have := inum_short ((l.drop n).drop 4) 1 (by simp; omega) (by decide)
              simp only at this ⊢
              rw [show ((1 : Nat) : Int) = 1 from rfl] at this
              rw [this]
          unfold prog
          rw [e, if_pos (by decide), parse, if_neg (by simp), hlen, if_neg hn, if_pos (by simp; omega)]
        · have e4 : r4 (a :: b :: c :: d :: l) = (num ((l.drop n).take 4), ((l.drop n).drop 4, 0)) := by unfold r4; rw [h3]; exact inum_ok _ 4 (by omega) (by decide)
          have e5 : r5 (a :: b :: c :: d :: l) = (num (((l.drop n).drop 4).take 1), (((l.drop n).drop 4).drop 1, 0)) := by
            unfold r5
            rw [e4]
            exact inum_ok _ 1 (by simp; omega) (by decide)
          have hx : ((l.drop n).drop 4).take 1 = [l.getD (n + 4) 0] := by
            rw [List.drop_drop, List.drop_eq_getElem_cons (show n + 4 < l.length by omega)]
            rw [List.take_succ_cons, List.take_zero]
            simp [List.getD_eq_getElem?_getD, List.getElem?_eq_getElem (show n + 4 < l.length by omega)]
          have hg : (a :: b :: c :: d :: l).getD (n + 8) 0 = l.getD (n + 4) 0 := by simp [List.getD_eq_getElem?_getD]
          have hnum1 : ∀ x : UInt8, num [x] = x.toNat := fun x => by simp [num]
          have hP : parse (a :: b :: c :: d :: l) = (if l.getD (n + 4) 0 ≠ 206 then (zero, 0, 4)
            else if ((a :: b :: c :: d :: l).drop (n + 4)).take 4 ≠ be 4 (Crc.sum ((a :: b :: c :: d :: l).take (n + 4))) then (zero, 0, 14) else (⟨a, b, l.take n⟩, n + 9, 0)) := by
            rw [parse, if_neg (by simp), hlen, if_neg hn, if_neg (by simp; omega), hg]
            rfl
          rw [hP]
          unfold prog
          rw [e5]
          simp only
          rw [if_neg (show ¬ ((0 : Int) ≠ 0) by decide), hx, hnum1]
          generalize l.getD (n + 4) 0 = x
          by_cases hx6 : x = 206
          · subst hx6
            rw [if_neg (show ¬ ((206 : UInt8).toNat ≠ 206) by decide), if_neg (show ¬ ((206 : UInt8) ≠ 206) by decide), h3, e4, h1, h2]
            simp only
            rw [htl, Nat.add_comm 4 n]
            have hd : (a :: b :: c :: d :: l).drop (n + 4) = l.drop n := by simp
            rw [hd]
            have hsl := Crc.sum_lt ((a :: b :: c :: d :: l).take (n + 4))
            have hiff := num_eq_iff ((l.drop n).take 4) (Crc.sum ((a :: b :: c :: d :: l).take (n + 4))) (by simp; omega) hsl
            by_cases hc : num ((l.drop n).take 4) = Crc.sum ((a :: b :: c :: d :: l).take (n + 4))
            · rw [if_neg (by simp [hc]), if_neg (by simp [hiff.1 hc]), hnum1, hnum1]
              simp
            · rw [if_pos (fun e => hc e.symm), if_pos (fun e => hc (hiff.2 e))]
          · have h6 : x.toNat ≠ 206 := fun e => hx6 (UInt8.toNat_inj.1 (e.trans (by decide)))
            rw [if_pos h6, if_pos hx6]
end Go.Proofs.YtopacbmdoognjaaDoor.Frm
/- Records, plainly: how they stand; which stands at the front of bytes; all that stand there. No Go in sight. -/
namespace Go.Proofs.YtopacbmdoognjaaDoor.Sg
open Oct Frm
/-- A record ahead of its sum. -/
def head (r : List UInt8) : List UInt8 := be 4 r.length ++ r
def one (r : List UInt8) : List UInt8 := head r ++ (be 4 (Crc.sum (head r)) ++ [165])
/-- What is wrong with a record. -/
def bad (r : List UInt8) : Int := if r.length = 0 then 15 else if 131072 < r.length then 5 else 0
def err : List (List UInt8) → Int
  | [] => 0
  | r :: l => if bad r ≠ 0 then bad r else err l
def cat (l : List (List UInt8)) : List UInt8 := l.flatMap one
def bytes (l : List (List UInt8)) : List UInt8 × Int := if err l ≠ 0 then ([], err l) else (cat l, 0)
/-- How long the record at the front says it is. -/
def len (l : List UInt8) : Nat := num (l.take 4)
def next (l : List UInt8) : List UInt8 × Nat × Int :=
  if l.length < 4 then ([], 0, 3) else if len l = 0 then ([], 0, 15) else if 131072 < len l then ([], 0, 5) else if l.length < len l + 9 then ([], 0, 3)
  else if l.getD (len l + 8) 0 ≠ 165 then ([], 0, 4) else if (l.drop (len l + 4)).take 4 ≠ be 4 (Crc.sum (l.take (len l + 4))) then ([], 0, 14)
  else ((l.drop 4).take (len l), len l + 9, 0)
def scanF : Nat → List UInt8 → List (List UInt8)
  | 0, _ => []
  | f + 1, l => if (next l).2.2 ≠ 0 then [] else (next l).1 :: scanF f (l.drop (next l).2.1)
/-- All records at the front. -/
def scan (l : List UInt8) : List (List UInt8) := scanF l.length l
/-- As how many bytes records stand. -/
def used : List (List UInt8) → Nat
  | [] => 0
  | r :: l => r.length + 9 + used l
theorem head_length (r : List UInt8) : (head r).length = r.length + 4 := by simp [head, be_length]; omega
theorem one_length (r : List UInt8) : (one r).length = r.length + 9 := by simp [one, head_length, be_length]
theorem cat_cons (r : List UInt8) (l : List (List UInt8)) : cat (r :: l) = one r ++ cat l := by simp [cat]
theorem cat_nil : cat [] = [] := rfl
theorem cat_append (a b : List (List UInt8)) : cat (a ++ b) = cat a ++ cat b := by simp [cat]
theorem cat_length (l : List (List UInt8)) : (cat l).length = used l := by
  induction l with
  | nil => rfl
  | cons r l ih => rw [cat_cons, List.length_append, one_length, ih]; rfl
theorem used_append (a b : List (List UInt8)) : used (a ++ b) = used a + used b := by
  induction a with
  | nil => simp [used]
  | cons r a ih => simp only [List.cons_append, used, ih]; omega
theorem bad_ok {r : List UInt8} (h : bad r = 0) : 0 < r.length ∧ r.length ≤ 131072 := by
  unfold bad at h
  split at h
  · simp at h
  · split at h
    · simp at h
    · omega
theorem err_ok {l : List (List UInt8)} (h : err l = 0) : ∀ r ∈ l, bad r = 0 := by
  induction l with
  | nil => intro r hr; cases hr
  | cons x l ih =>
    unfold err at h
    split at h
    · rename_i hx
      exact absurd h hx
    · rename_i hx
      intro r hr
      rcases List.mem_cons.1 hr with rfl | hr
      · simpa using hx
      · exact ih h r hr
theorem err_of {l : List (List UInt8)} (h : ∀ r ∈ l, bad r = 0) : err l = 0 := by
  induction l with
  | nil => rfl
  | cons x l ih =>
    unfold err
    rw [if_neg (by simp [h x (by simp)])]
    exact ih fun r hr => h r (by simp [hr])
theorem err_snoc (a : List (List UInt8)) (r : List UInt8) (b : List (List UInt8)) (ha : err a = 0) (hr : bad r ≠ 0) : err (a ++ r :: b) = bad r := by
  induction a with
  | nil => show err (r :: b) = _; unfold err; rw [if_pos hr]
  | cons x a ih =>
    have hx := err_ok ha x (by simp)
    have ha' : err a = 0 := err_of fun r hr => err_ok ha r (by simp [hr])
    show err (x :: (a ++ r :: b)) = _
    unfold err
    rw [if_neg (by simp [hx])]
    exact ih ha'
theorem next_ok {l : List UInt8} (h : (next l).2.2 = 0) : next l = ((l.drop 4).take (len l), len l + 9, 0) ∧ len l + 9 ≤ l.length ∧ 0 < len l ∧ len l ≤ 131072 ∧ l.getD (len l + 8) 0 = 165 ∧ (l.drop (len l + 4)).take 4 = be 4 (Crc.sum (l.take (len l + 4))) := by
  unfold next at h ⊢
  split at h
  · simp at h
  · split at h
    · simp at h
    · split at h
      · simp at h
      · split at h
        · simp at h
        · split at h
          · simp at h
          · split at h
            · simp at h
            · rename_i h1 h2 h3 h4 h5 h6
              rw [if_neg h1, if_neg h2, if_neg h3, if_neg h4, if_neg h5, if_neg h6]
              exact ⟨rfl, by omega, by omega, by omega, by simpa using h5, by simpa using h6⟩
theorem next_len {l : List UInt8} (h : (next l).2.2 = 0) : (next l).1.length = len l ∧ (next l).2.1 = (next l).1.length + 9 ∧ (next l).2.1 ≤ l.length := by
  obtain ⟨he, h1, h2, -⟩ := next_ok h
  rw [he]
  have : ((l.drop 4).take (len l)).length = len l := by simp; omega
  exact ⟨this, by rw [this], h1⟩
theorem next_short (l : List UInt8) (h : l.length < 9) : (next l).2.2 ≠ 0 := fun e => by have := next_ok e; omega
theorem scanF_err {l : List UInt8} (h : (next l).2.2 ≠ 0) (f : Nat) : scanF f l = [] := by
  cases f with
  | zero => rfl
  | succ f => unfold scanF; rw [if_pos h]
theorem scanF_more (f : Nat) : ∀ (g : Nat) (l : List UInt8), l.length ≤ f → l.length ≤ g → scanF f l = scanF g l := by
  induction f with
  | zero =>
    intro g l h _
    have he : (next l).2.2 ≠ 0 := next_short l (by omega)
    rw [scanF_err he, scanF_err he]
  | succ f ih =>
    intro g l h hg
    by_cases he : (next l).2.2 ≠ 0
    · rw [scanF_err he, scanF_err he]
    · have he0 : (next l).2.2 = 0 := by simpa using he
      obtain ⟨h1, h2, h3⟩ := next_len he0
      obtain ⟨k, rfl⟩ : ∃ k, g = k + 1 := ⟨g - 1, by omega⟩
      unfold scanF
      rw [if_neg he, if_neg he]
      congr 1
      exact ih k _ (by simp; omega) (by simp; omega)
theorem scan_stop {l : List UInt8} (h : (next l).2.2 ≠ 0) : scan l = [] := scanF_err h _
theorem scan_cons {l : List UInt8} (h : (next l).2.2 = 0) : scan l = (next l).1 :: scan (l.drop (next l).2.1) := by
  obtain ⟨h1, h2, h3⟩ := next_len h
  obtain ⟨k, hk⟩ : ∃ k, l.length = k + 1 := ⟨l.length - 1, by omega⟩
  unfold scan
  rw [hk]
  conv => lhs; unfold scanF
  rw [if_neg (by simp [h])]
  congr 1
  exact scanF_more _ _ _ (by simp; omega) (by omega)
theorem scan_used (f : Nat) : ∀ l : List UInt8, l.length ≤ f → used (scan l) ≤ l.length := by
  induction f with
  | zero =>
    intro l h
    rw [scan_stop (next_short l (by omega))]
    exact Nat.zero_le _
  | succ f ih =>
    intro l h
    by_cases he : (next l).2.2 = 0
    · obtain ⟨h1, h2, h3⟩ := next_len he
      rw [scan_cons he]
      have := ih (l.drop (next l).2.1) (by simp; omega)
      simp only [used, List.length_drop] at this ⊢
      omega
    · rw [scan_stop he]
      exact Nat.zero_le _
theorem num_be4 (n : Nat) (h : n < 4294967296) : num (be 4 n) = n := by
  rw [num_be]
  exact Nat.mod_eq_of_lt (by omega)
theorem len_be (n : Nat) (h : n < 4294967296) (more : List UInt8) : len (be 4 n ++ more) = n := by
  unfold len
  rw [List.take_left' (be_length 4 n), num_be4 n h]
theorem next_one (r more : List UInt8) (h : bad r = 0) : next (one r ++ more) = (r, r.length + 9, 0) := by
  obtain ⟨h0, hm⟩ := bad_ok h
  have e : one r ++ more = be 4 r.length ++ (r ++ (be 4 (Crc.sum (head r)) ++ [165]) ++ more) := by simp [one, head]
  have hl : len (one r ++ more) = r.length := by rw [e]; exact len_be _ (by omega) _
  have e2 : one r ++ more = head r ++ (be 4 (Crc.sum (head r)) ++ [165] ++ more) := by simp [one]
  have hhl := head_length r
  have hb4 : (be 4 (Crc.sum (head r))).length = 4 := be_length _ _
  have hlen : (one r ++ more).length = r.length + 9 + more.length := by rw [List.length_append, one_length]
  have h1 : (one r ++ more).take (r.length + 4) = head r := by rw [e2, ← hhl, List.take_left]
  have h2 : ((one r ++ more).drop (r.length + 4)).take 4 = be 4 (Crc.sum (head r)) := by
    rw [e2, ← hhl, List.drop_left, List.append_assoc]
    exact List.take_left' hb4
  have h3 : (one r ++ more).getD (r.length + 8) 0 = 165 := by
    rw [e2, List.getD_eq_getElem?_getD, List.getElem?_append_right (by omega), List.append_assoc, List.getElem?_append_right (by omega), hhl, hb4, show r.length + 8 - (r.length + 4) - 4 = 0 by omega]
    rfl
  have h4 : ((one r ++ more).drop 4).take r.length = r := by
    rw [e, List.drop_left' (be_length 4 _), List.append_assoc, List.take_left]
  unfold next
  rw [hl, h1, h2, h3, h4, if_neg (by omega), if_neg (by omega), if_neg (by omega), if_neg (by omega), if_neg (by simp), if_neg (by simp)]
theorem scan_one (r more : List UInt8) (h : bad r = 0) : scan (one r ++ more) = r :: scan more := by
  have hn := next_one r more h
  rw [scan_cons (by rw [hn]), hn]
  simp only
  rw [List.drop_left' (one_length r)]
theorem scan_cat (l : List (List UInt8)) (more : List UInt8) (h : err l = 0) : scan (cat l ++ more) = l ++ scan more := by
  have hk := err_ok h
  clear h
  induction l with
  | nil => rfl
  | cons r l ih =>
    rw [cat_cons, List.append_assoc, scan_one r _ (hk r (by simp)), ih fun x hx => hk x (by simp [hx])]
    rfl
/-- As the document asks. -/
theorem one_eq_iff (l : List UInt8) (h : len l + 9 ≤ l.length) (he : l.getD (len l + 8) 0 = 165) :
    one ((l.drop 4).take (len l)) = l.take (len l + 9) ↔ (l.drop (len l + 4)).take 4 = be 4 (Crc.sum (l.take (len l + 4))) := by
  have h4 : be 4 (len l) = l.take 4 := by
    have := be_num (l.take 4)
    rw [show (l.take 4).length = 4 by simp; omega] at this
    exact this
  have hr : ((l.drop 4).take (len l)).length = len l := by simp; omega
  have hh : head ((l.drop 4).take (len l)) = l.take (len l + 4) := by
    unfold head
    rw [hr, h4, Nat.add_comm (len l) 4, List.take_add]
  have hx : l.take (len l + 9) = l.take (len l + 4) ++ ((l.drop (len l + 4)).take 4 ++ [165]) := by
    have e5 : l.take (len l + 9) = l.take (len l + 4) ++ (l.drop (len l + 4)).take 5 := by
      rw [show len l + 9 = (len l + 4) + 5 by omega, List.take_add]
    have e6 : ∀ q : List UInt8, q.take 5 = q.take 4 ++ (q.drop 4).take 1 := fun q => by rw [show (5 : Nat) = 4 + 1 from rfl, List.take_add]
    rw [e5, e6, List.drop_drop]
    congr 2
    rw [List.drop_eq_getElem_cons (show len l + 4 + 4 < l.length by omega), List.take_succ_cons, List.take_zero]
    rw [← he]
    simp [List.getD_eq_getElem?_getD, List.getElem?_eq_getElem (show len l + 8 < l.length by omega)]
  unfold one
  rw [hh, hx, List.append_cancel_left_eq, List.append_cancel_right_eq]
  exact eq_comm
/-- A beginning of records' bytes, and noughts behind it: those are told that are whole. -/
def whole : List (List UInt8) → Nat → List (List UInt8)
  | [], _ => []
  | r :: l, c => if r.length + 9 ≤ c then r :: whole l (c - (r.length + 9)) else []
theorem zeros_getD (x : List UInt8) (k n : Nat) (h : x.length ≤ k) : (x ++ List.replicate n (0 : UInt8)).getD k 0 = 0 := by
  rw [List.getD_eq_getElem?_getD, List.getElem?_append_right h, List.getElem?_replicate]
  split <;> rfl
theorem stop_zeros (x : List UInt8) (n : Nat) (h : x.length ≤ len (x ++ List.replicate n 0) + 8) : (next (x ++ List.replicate n 0)).2.2 ≠ 0 := by
  intro e
  obtain ⟨-, -, -, -, h1, -⟩ := next_ok e
  rw [zeros_getD x _ n h] at h1
  exact absurd h1 (by decide)
theorem scan_falls (l : List (List UInt8)) (h : err l = 0) (n : Nat) : ∀ c, scan ((cat l).take c ++ List.replicate n 0) = whole l c := by
  have hk := err_ok h
  clear h
  induction l with
  | nil =>
    intro c
    rw [cat_nil, List.take_nil]
    exact scan_stop (stop_zeros [] n (by simp))
  | cons r l ih =>
    intro c
    have hr := hk r (by simp)
    unfold whole
    by_cases hc : r.length + 9 ≤ c
    · rw [if_pos hc, cat_cons, List.take_append, List.take_of_length_le (by rw [one_length]; exact hc), one_length, List.append_assoc, scan_one r _ hr, ih (fun x hx => hk x (by simp [hx]))]
    · rw [if_neg hc]
      have hct : (cat (r :: l)).take c = (one r).take c := by
        rw [cat_cons, List.take_append_of_le_length (by rw [one_length]; omega)]
      rw [hct]
      obtain ⟨h0, hm⟩ := bad_ok hr
      have hol := one_length r
      apply scan_stop
      apply stop_zeros
      have hlt : ((one r).take c).length = c := by rw [List.length_take]; omega
      rw [hlt]
      by_cases h8 : c ≤ 8
      · omega
      · have : len ((one r).take c ++ List.replicate n 0) = r.length := by
          unfold len
          rw [List.take_append_of_le_length (by omega), List.take_take, show min 4 c = 4 by omega]
          have e : one r = be 4 r.length ++ (r ++ (be 4 (Crc.sum (head r)) ++ [165])) := by simp [one, head]
          rw [e, List.take_left' (be_length 4 _), num_be4 _ (by omega)]
        rw [this]
        omega
theorem next_zero4 (t : List UInt8) : (next ([0, 0, 0, 0] ++ t)).2.2 ≠ 0 := by
  intro e
  obtain ⟨-, -, h1, -⟩ := next_ok e
  have : len ([0, 0, 0, 0] ++ t) = 0 := by simp [len, num]
  omega
end Go.Proofs.YtopacbmdoognjaaDoor.Sg
/- Disks, plainly: what lasts when bytes that wait are done. No Go in sight. -/
namespace Go.Proofs.YtopacbmdoognjaaDoor.Disk
/-- A write that waits: its block, its bytes. -/
abbrev Wr := Nat × ByteArray
/-- Bytes at the front of a block. -/
def put (s : List UInt8) (k : Nat) (d : List UInt8) : List UInt8 := s.take (64 * k) ++ (d ++ s.drop (64 * k + d.length))
/-- How many bytes of a write are done. -/
def upto (cut : Int) (n : Nat) : Nat := (max 0 (min cut (n : Int))).toNat
theorem upto_le (cut : Int) (n : Nat) : upto cut n ≤ n := by unfold upto; omega
/-- What lasts, with the first bytes that wait done. -/
def done : List UInt8 → List Wr → Int → List UInt8
  | s, [], _ => s
  | s, (k, d) :: ws, cut => done (put s k (d.data.toList.take (upto cut d.size))) ws (cut - (upto cut d.size : Int))
/-- What is left of a number of bytes, behind these writes. -/
def left : List Wr → Int → Int
  | [], cut => cut
  | (_, d) :: ws, cut => left ws (cut - (upto cut d.size : Int))
theorem done_append (ws vs : List Wr) : ∀ (s : List UInt8) (cut : Int), done s (ws ++ vs) cut = done (done s ws cut) vs (left ws cut) := by
  induction ws with
  | nil => intro s cut; rfl
  | cons x ws ih => intro s cut; obtain ⟨k, d⟩ := x; simp only [List.cons_append, done, left, ih]
theorem left_append (ws vs : List Wr) : ∀ (cut : Int), left (ws ++ vs) cut = left vs (left ws cut) := by
  induction ws with
  | nil => intro cut; rfl
  | cons x ws ih => intro cut; obtain ⟨k, d⟩ := x; simp only [List.cons_append, left, ih]
/-- How many bytes wait. -/
def total : List Wr → Nat
  | [] => 0
  | (_, d) :: ws => d.size + total ws
theorem total_append (ws vs : List Wr) : total (ws ++ vs) = total ws + total vs := by
  induction ws with
  | nil => simp [total]
  | cons x ws ih => obtain ⟨k, d⟩ := x; simp only [List.cons_append, total, ih]; omega
/-- All of them are done. -/
def all : List UInt8 → List Wr → List UInt8
  | s, [] => s
  | s, (k, d) :: ws => all (put s k d.data.toList) ws
theorem all_append (ws vs : List Wr) : ∀ s, all s (ws ++ vs) = all (all s ws) vs := by
  induction ws with
  | nil => intro s; rfl
  | cons x ws ih => intro s; obtain ⟨k, d⟩ := x; simp only [List.cons_append, all, ih]
theorem done_all (ws : List Wr) : ∀ (s : List UInt8) (cut : Int), (total ws : Int) ≤ cut → done s ws cut = all s ws := by
  induction ws with
  | nil => intro s cut _; rfl
  | cons x ws ih =>
    intro s cut h
    obtain ⟨k, d⟩ := x
    simp only [total] at h
    have hu : upto cut d.size = d.size := by unfold upto; omega
    simp only [done, all, hu]
    rw [ih _ _ (by omega), List.take_of_length_le (by simp)]
/-- A cut that is less than nought is one of nought. -/
theorem done_max (ws : List Wr) : ∀ (s : List UInt8) (cut : Int), done s ws (max 0 cut) = done s ws cut := by
  induction ws with
  | nil => intro s cut; rfl
  | cons x ws ih =>
    intro s cut
    obtain ⟨k, d⟩ := x
    have hu : upto (max 0 cut) d.size = upto cut d.size := by unfold upto; omega
    simp only [done, hu]
    rw [← ih _ (max 0 cut - _), ← ih _ (cut - _)]
    congr 1
    unfold upto
    omega
theorem put_length (s : List UInt8) (k : Nat) (d : List UInt8) (h : 64 * k + d.length ≤ s.length) : (put s k d).length = s.length := by
  unfold put; simp; omega
/-- A write that stands within n blocks. -/
def Fits (n : Nat) (ws : List Wr) : Prop := ∀ x ∈ ws, x.1 < n ∧ x.2.size ≤ 64
theorem Fits.append {n : Nat} {ws vs : List Wr} (h : Fits n ws) (k : Fits n vs) : Fits n (ws ++ vs) := fun x hx => by
  rcases List.mem_append.1 hx with h1 | h1
  · exact h x h1
  · exact k x h1
theorem done_length (n : Nat) (ws : List Wr) : ∀ (s : List UInt8) (cut : Int), s.length = 64 * n → Fits n ws → (done s ws cut).length = 64 * n := by
  induction ws with
  | nil => intro s cut h _; exact h
  | cons x ws ih =>
    intro s cut h hf
    obtain ⟨k, d⟩ := x
    have h1 := hf (k, d) (by simp)
    have h2 := upto_le cut d.size
    refine ih _ _ ?_ fun y hy => hf y (by simp [hy])
    rw [put_length, h]
    simp only at h1
    simp
    omega
/-- A block that is not written stays. -/
theorem put_other (s : List UInt8) (k : Nat) (d : List UInt8) (n i : Nat) (hs : s.length = 64 * n) (hk : k < n) (hd : d.length ≤ 64) (hne : i ≠ k) : ((put s k d).drop (64 * i)).take 64 = (s.drop (64 * i)).take 64 := by
  apply List.ext_getElem?
  intro j
  by_cases hj : j < 64
  · rw [List.getElem?_take_of_lt hj, List.getElem?_take_of_lt hj, List.getElem?_drop, List.getElem?_drop]
    unfold put
    rcases Nat.lt_or_gt_of_ne hne with h | h
    · rw [List.getElem?_append_left (by simp; omega), List.getElem?_take_of_lt (by omega)]
    · rw [List.getElem?_append_right (by simp; omega), List.getElem?_append_right (by simp; omega), List.getElem?_drop]
      congr 1
      simp
      omega
  · rw [List.getElem?_eq_none (by simp; omega), List.getElem?_eq_none (by simp; omega)]
theorem done_other (n i : Nat) (ws : List Wr) : ∀ (s : List UInt8) (cut : Int), s.length = 64 * n → Fits n ws → (∀ x ∈ ws, x.1 ≠ i) → ((done s ws cut).drop (64 * i)).take 64 = (s.drop (64 * i)).take 64 := by
  induction ws with
  | nil => intro s cut _ _ _; rfl
  | cons x ws ih =>
    intro s cut h hf hne
    obtain ⟨k, d⟩ := x
    have h1 := hf (k, d) (by simp)
    have h2 := upto_le cut d.size
    have h3 := hne (k, d) (by simp)
    simp only at h1 h3
    rw [done, ih _ _ (by rw [put_length, h]; simp; omega) (fun y hy => hf y (by simp [hy])) (fun y hy => hne y (by simp [hy]))]
    exact put_other s k _ n i h h1.1 (by simp; omega) (fun e => h3 e.symm)
end Go.Proofs.YtopacbmdoognjaaDoor.Disk
/- The log on a disk, plainly: heads, areas, what stands in them; what a put of blocks leaves. No program in sight. -/
namespace Go.Proofs.YtopacbmdoognjaaDoor.Wl
open Oct
/-- Bytes laid over others, from a place on. -/
def over (s : List UInt8) (o : Nat) (x : List UInt8) : List UInt8 := s.take o ++ (x ++ s.drop (o + x.length))
theorem over_length (s : List UInt8) (o : Nat) (x : List UInt8) (h : o + x.length ≤ s.length) : (over s o x).length = s.length := by unfold over; simp; omega
theorem over_nil (s : List UInt8) (o : Nat) : over s o [] = s := by unfold over; simp
theorem over_over (s : List UInt8) (o : Nat) (x y : List UInt8) (h : o + x.length ≤ s.length) : over (over s o x) (o + x.length) y = over s o (x ++ y) := by
  have h1 : (over s o x).take (o + x.length) = s.take o ++ x := by
    unfold over
    rw [← List.append_assoc, List.take_append_of_le_length (by simp; omega), List.take_of_length_le (by simp; omega)]
  have h2 : (over s o x).drop (o + x.length + y.length) = s.drop (o + (x ++ y).length) := by
    unfold over
    rw [← List.append_assoc, List.drop_append, List.drop_of_length_le (by simp; omega), List.nil_append, List.drop_drop]
    congr 1
    simp
    omega
  rw [show over (over s o x) (o + x.length) y = (over s o x).take (o + x.length) ++ (y ++ (over s o x).drop (o + x.length + y.length)) from rfl, h1, h2]
  unfold over
  simp
theorem put_over (s : List UInt8) (k : Nat) (d : List UInt8) : Disk.put s k d = over s (64 * k) d := rfl
/-- The first k blocks of bytes, as writes from a block on. -/
def wrs (a : Nat) (x : List UInt8) : Nat → List Disk.Wr
  | 0 => []
  | k + 1 => wrs a x k ++ [(a + k, bs ((x.drop (64 * k)).take 64))]
theorem wrs_length (a : Nat) (x : List UInt8) (k : Nat) : (wrs a x k).length = k := by
  induction k with
  | zero => rfl
  | succ k ih => simp [wrs, ih]
theorem wrs_fits (a n : Nat) (x : List UInt8) (k : Nat) (h : a + k ≤ n) : Disk.Fits n (wrs a x k) := by
  induction k with
  | zero => intro y hy; cases hy
  | succ k ih =>
    refine (ih (by omega)).append fun y hy => ?_
    simp only [List.mem_singleton] at hy
    subst hy
    simp only [bs_size, List.length_take]
    omega
theorem done_wrs (s : List UInt8) (a : Nat) (x : List UInt8) (c : Int) (hs : 64 * a + x.length ≤ s.length) (k : Nat) (h : 64 * k ≤ x.length) :
    Disk.done s (wrs a x k) c = over s (64 * a) (x.take (Disk.upto c (64 * k))) ∧ Disk.left (wrs a x k) c = c - (Disk.upto c (64 * k) : Int) := by
  induction k with
  | zero =>
    have : Disk.upto c (64 * 0) = 0 := by unfold Disk.upto; omega
    simp [wrs, Disk.done, Disk.left, this, over_nil]
  | succ k ih =>
    obtain ⟨h1, h2⟩ := ih (by omega)
    have hB : ((x.drop (64 * k)).take 64).length = 64 := by simp; omega
    have hu : Disk.upto c (64 * (k + 1)) = Disk.upto c (64 * k) + Disk.upto (c - (Disk.upto c (64 * k) : Int)) 64 := by unfold Disk.upto; omega
    rw [wrs, Disk.done_append, Disk.left_append, h1, h2]
    simp only [Disk.done, Disk.left, bs_size, hB, bs_toList]
    refine ⟨?_, by omega⟩
    rw [put_over]
    rcases Nat.lt_or_ge (Disk.upto c (64 * k)) (64 * k) with hl | hl
    · have hz : Disk.upto (c - (Disk.upto c (64 * k) : Int)) 64 = 0 := by unfold Disk.upto at hl ⊢; omega
      rw [hu, hz, List.take_zero, over_nil, Nat.add_zero]
    · have he : Disk.upto c (64 * k) = 64 * k := by have := Disk.upto_le c (64 * k); omega
      rw [hu, he]
      have hxl : (x.take (64 * k)).length = 64 * k := by simp; omega
      have : 64 * (a + k) = 64 * a + (x.take (64 * k)).length := by omega
      rw [this, over_over _ _ _ _ (by omega)]
      congr 1
      have hv := Disk.upto_le (c - ((64 * k : Nat) : Int)) 64
      rw [List.take_take, Nat.min_eq_left hv, List.take_add]
theorem total_wrs (a : Nat) (x : List UInt8) (k : Nat) (h : 64 * k ≤ x.length) : Disk.total (wrs a x k) = 64 * k := by
  induction k with
  | zero => rfl
  | succ k ih => rw [wrs, Disk.total_append, ih (by omega)]; simp only [Disk.total, bs_size]; simp; omega
theorem all_wrs (s : List UInt8) (a : Nat) (x : List UInt8) (k : Nat) (hs : 64 * a + x.length ≤ s.length) (h : x.length = 64 * k) : Disk.all s (wrs a x k) = over s (64 * a) x := by
  rw [← Disk.done_all _ _ ((64 * k : Nat) : Int) (by rw [total_wrs a x k (by omega)]; omega), (done_wrs s a x _ hs k (by omega)).1]
  congr 1
  rw [List.take_of_length_le]
  unfold Disk.upto
  omega
/-- Noughts. -/
abbrev noughts (n : Nat) : List UInt8 := List.replicate n 0
/-- An area's head. -/
def hd (g : Nat) : List UInt8 := [83, 84, 82, 87] ++ be 8 g
def headOf (g : Nat) : List UInt8 := hd g ++ (be 4 (Crc.sum (hd g)) ++ [165])
theorem hd_length (g : Nat) : (hd g).length = 12 := by simp [hd, be_length]
theorem headOf_length (g : Nat) : (headOf g).length = 17 := by simp [headOf, hd_length, be_length]
theorem headOf_first (g : Nat) (t : List UInt8) : (headOf g ++ t).getD 0 0 = 83 := by simp [headOf, hd]
theorem headOf_last (g : Nat) (t : List UInt8) : (headOf g ++ t).getD 16 0 = 165 := by
  have h : (hd g ++ be 4 (Crc.sum (hd g))).length = 16 := by simp [hd_length, be_length]
  have e : headOf g ++ t = (hd g ++ be 4 (Crc.sum (hd g))) ++ (165 :: t) := by simp [headOf]
  rw [e, List.getD_eq_getElem?_getD, List.getElem?_append_right (by omega), h]
  rfl
/-- The generation that an area tells. -/
def genOf (l : List UInt8) : Nat := num ((l.drop 4).take 8)
/-- What stands in an area, if it has a head. -/
def rd (l : List UInt8) : Option (Nat × List (List UInt8)) := if l.take 17 = headOf (genOf l) then some (genOf l, Sg.scan (l.drop 64)) else none
theorem genOf_lt (l : List UInt8) : genOf l < 18446744073709551616 := by
  have h := num_lt ((l.drop 4).take 8)
  have h2 : ((l.drop 4).take 8).length ≤ 8 := List.length_take_le _ _
  have h3 : 256 ^ ((l.drop 4).take 8).length ≤ 256 ^ 8 := Nat.pow_le_pow_right (by decide) h2
  unfold genOf
  have : (256 : Nat) ^ 8 = 18446744073709551616 := by decide
  omega
theorem genOf_head (g : Nat) (hg : g < 18446744073709551616) (t : List UInt8) : genOf (headOf g ++ t) = g := by
  have e : headOf g ++ t = [83, 84, 82, 87] ++ (be 8 g ++ (be 4 (Crc.sum (hd g)) ++ [165] ++ t)) := by simp [headOf, hd]
  unfold genOf
  rw [e, List.drop_left' (by rfl), List.take_left' (by simp [be_length]), num_be]
  exact Nat.mod_eq_of_lt (by simpa using hg)
theorem rd_head (g : Nat) (hg : g < 18446744073709551616) (t : List UInt8) : rd (headOf g ++ t) = some (g, Sg.scan (t.drop 47)) := by
  unfold rd
  rw [genOf_head g hg, List.take_left' (headOf_length g), if_pos rfl]
  have : (headOf g ++ t).drop 64 = t.drop 47 := by
    rw [List.drop_append, headOf_length, List.drop_of_length_le (by rw [headOf_length]; decide), List.nil_append]
  rw [this]
theorem take_getD (l m : List UInt8) (n i : Nat) (h : l.take n = m) (hm : m.length = n) (hi : i < n) : l.getD i 0 = m.getD i 0 := by
  subst h
  rw [List.getD_eq_getElem?_getD, List.getD_eq_getElem?_getD, List.getElem?_take, if_pos hi]
theorem rd_first (l : List UInt8) (h : l.getD 0 0 ≠ 83) : rd l = none := by
  unfold rd
  rw [if_neg]
  intro e
  have := take_getD _ _ 17 0 e (headOf_length _) (by decide)
  have h2 := headOf_first (genOf l) []
  rw [List.append_nil] at h2
  exact h (this.trans h2)
theorem rd_last (l : List UInt8) (h : l.getD 16 0 ≠ 165) : rd l = none := by
  unfold rd
  rw [if_neg]
  intro e
  have := take_getD _ _ 17 16 e (headOf_length _) (by decide)
  have h2 := headOf_last (genOf l) []
  rw [List.append_nil] at h2
  exact h (this.trans h2)
theorem rd_some {l : List UInt8} {g : Nat} {rs : List (List UInt8)} (h : rd l = some (g, rs)) : l.take 17 = headOf g ∧ g = genOf l ∧ rs = Sg.scan (l.drop 64) := by
  unfold rd at h
  by_cases hc : l.take 17 = headOf (genOf l)
  · rw [if_pos hc] at h
    injection h with h
    injection h with h1 h2
    exact ⟨by rw [← h1]; exact hc, h1.symm, h2.symm⟩
  · rw [if_neg hc] at h; cases h
theorem rd_eq {l : List UInt8} {g : Nat} (h : l.take 17 = headOf g) (hg : g < 18446744073709551616) : rd l = some (g, Sg.scan (l.drop 64)) := by
  have e : l = headOf g ++ l.drop 17 := by rw [← h, List.take_append_drop]
  have k := rd_head g hg (l.drop 17)
  rw [← e, List.drop_drop] at k
  exact k
theorem nought_getD (n i : Nat) : (noughts n).getD i 0 = 0 := by
  rw [List.getD_eq_getElem?_getD]
  rcases Nat.lt_or_ge i n with h | h
  · rw [List.getElem?_eq_getElem (by simpa using h)]; simp
  · rw [List.getElem?_eq_none (by simpa using h)]; rfl
theorem over_getD (s : List UInt8) (o : Nat) (x : List UInt8) (i : Nat) (h : o + x.length ≤ s.length) : (over s o x).getD i 0 = if o ≤ i ∧ i < o + x.length then x.getD (i - o) 0 else s.getD i 0 := by
  have e1 : (s.take o).length = o := by simp; omega
  unfold over
  simp only [List.getD_eq_getElem?_getD]
  by_cases h1 : i < o
  · rw [if_neg (by omega), List.getElem?_append_left (by omega), List.getElem?_take_of_lt h1]
  · rw [List.getElem?_append_right (by omega), e1]
    by_cases h2 : i < o + x.length
    · rw [if_pos (by omega), List.getElem?_append_left (by omega)]
    · rw [if_neg (by omega), List.getElem?_append_right (by omega), List.getElem?_drop]
      congr 2
      omega
theorem ext0 {a b : List UInt8} (hl : a.length = b.length) (h : ∀ i, i < a.length → a.getD i 0 = b.getD i 0) : a = b := by
  apply List.ext_getElem hl
  intro i h1 h2
  have := h i h1
  simpa [List.getD_eq_getElem?_getD, h1, h2] using this
theorem append_getD (a b : List UInt8) (i : Nat) : (a ++ b).getD i 0 = if i < a.length then a.getD i 0 else b.getD (i - a.length) 0 := by
  simp only [List.getD_eq_getElem?_getD]
  by_cases h : i < a.length
  · rw [if_pos h, List.getElem?_append_left h]
  · rw [if_neg h, List.getElem?_append_right (by omega)]
theorem take_getD' (a : List UInt8) (n i : Nat) (h : i < n) : (a.take n).getD i 0 = a.getD i 0 := by simp only [List.getD_eq_getElem?_getD, List.getElem?_take, if_pos h]
theorem drop_getD (a : List UInt8) (n i : Nat) : (a.drop n).getD i 0 = a.getD (n + i) 0 := by simp only [List.getD_eq_getElem?_getD, List.getElem?_drop]
/-- One area of the two, each of h blocks. -/
def ar (s : List UInt8) (h a : Nat) : List UInt8 := (s.drop (64 * (h * a))).take (64 * h)
theorem ar_length (s : List UInt8) (h a : Nat) (ha : 64 * (h * a) + 64 * h ≤ s.length) : (ar s h a).length = 64 * h := by simp [ar]; omega
theorem ar_getD (s : List UInt8) (h a i : Nat) (hi : i < 64 * h) : (ar s h a).getD i 0 = s.getD (64 * (h * a) + i) 0 := by unfold ar; rw [take_getD' _ _ _ hi, drop_getD]
theorem ar_over (s : List UInt8) (h a o : Nat) (x : List UInt8) (hs : 64 * (h * a) + 64 * h ≤ s.length) (ho : o + x.length ≤ 64 * h) : ar (over s (64 * (h * a) + o) x) h a = over (ar s h a) o x := by
  have hl := ar_length s h a hs
  have hol := over_length s (64 * (h * a) + o) x (by omega)
  have hl2 := ar_length (over s (64 * (h * a) + o) x) h a (by omega)
  have hl3 := over_length (ar s h a) o x (by omega)
  apply ext0 (by omega)
  intro i hi
  have hi' : i < 64 * h := by omega
  rw [ar_getD _ _ _ _ hi', over_getD _ _ _ _ (by omega), over_getD _ _ _ _ (by omega), ar_getD _ _ _ _ hi']
  by_cases h1 : o ≤ i ∧ i < o + x.length
  · rw [if_pos h1, if_pos (by omega)]; congr 1; omega
  · rw [if_neg h1, if_neg (by omega)]
theorem ar_other (s : List UInt8) (h a b o : Nat) (x : List UInt8) (hab : (a = 0 ∧ b = 1) ∨ (a = 1 ∧ b = 0)) (hs : 64 * (2 * h) ≤ s.length) (ho : o + x.length ≤ 64 * h) : ar (over s (64 * (h * a) + o) x) h b = ar s h b := by
  have ha : h * a ≤ h ∧ h * b ≤ h ∧ (h * a = 0 ∧ h * b = h ∨ h * a = h ∧ h * b = 0) := by rcases hab with ⟨rfl, rfl⟩ | ⟨rfl, rfl⟩ <;> simp
  have hol := over_length s (64 * (h * a) + o) x (by omega)
  have hl := ar_length s h b (by omega)
  have hl2 := ar_length (over s (64 * (h * a) + o) x) h b (by omega)
  apply ext0 (by omega)
  intro i hi
  have hi' : i < 64 * h := by omega
  rw [ar_getD _ _ _ _ hi', over_getD _ _ _ _ (by omega), ar_getD _ _ _ _ hi', if_neg (by omega)]
/-- What Open has found so far. -/
structure Os where
  area : Int
  gen : Nat
  top : Nat
  best : List (List UInt8)
def ostep (a : Int) (r : Option (Nat × List (List UInt8))) (o : Os) : Os :=
  match r with
  | none => o
  | some (g, rs) => if rs ≠ [] ∧ (o.area < 0 ∨ o.top < g) then ⟨a, max o.gen g, g, rs⟩ else ⟨o.area, max o.gen g, o.top, o.best⟩
def o0 : Os := ⟨-1, 0, 0, []⟩
def opened (h : Nat) (s : List UInt8) : Os := ostep 1 (rd (ar s h 1)) (ostep 0 (rd (ar s h 0)) o0)
/-- What stands on a disk that was written by a log alone: the area c with the greatest generation g holds records; or none does. -/
def Shape (h : Nat) (s : List UInt8) (c : Int) (g : Nat) (rs : List (List UInt8)) : Prop :=
  (c = -1 ∧ g = 0 ∧ rs = [] ∧ rd (ar s h 0) = none ∧ rd (ar s h 1) = none) ∨
  (∃ a b : Nat, ((a = 0 ∧ b = 1) ∨ (a = 1 ∧ b = 0)) ∧ c = (a : Int) ∧ rs ≠ [] ∧ rd (ar s h a) = some (g, rs) ∧ (rd (ar s h b) = none ∨ ∃ g' rs', rd (ar s h b) = some (g', rs') ∧ g' < g))
theorem Shape.opened {h : Nat} {s : List UInt8} {c : Int} {g : Nat} {rs : List (List UInt8)} (H : Shape h s c g rs) : (opened h s).area = c ∧ (opened h s).gen = g ∧ (opened h s).best = rs := by
  rcases H with ⟨rfl, rfl, rfl, h0, h1⟩ | ⟨a, b, hab, rfl, hr, ha, hb⟩
  · unfold Wl.opened; rw [h0, h1]; exact ⟨rfl, rfl, rfl⟩
  · rcases hab with ⟨rfl, rfl⟩ | ⟨rfl, rfl⟩
    · unfold Wl.opened
      rw [ha]
      have e : ostep 0 (some (g, rs)) o0 = ⟨0, g, g, rs⟩ := by simp [ostep, o0, hr]
      rw [e]
      rcases hb with hb | ⟨g', rs', hb, hlt⟩
      · rw [hb]; exact ⟨rfl, rfl, rfl⟩
      · rw [hb]
        have : ostep 1 (some (g', rs')) ⟨0, g, g, rs⟩ = ⟨0, g, g, rs⟩ := by
          simp only [ostep]
          rw [if_neg (by simp; intro; omega)]
          congr 1
          omega
        rw [this]
        exact ⟨rfl, rfl, rfl⟩
    · unfold Wl.opened
      rw [ha]
      rcases hb with hb | ⟨g', rs', hb, hlt⟩
      · rw [hb]
        have : ostep 1 (some (g, rs)) (ostep 0 none o0) = ⟨1, g, g, rs⟩ := by simp [ostep, o0, hr]
        rw [this]
        exact ⟨rfl, rfl, rfl⟩
      · rw [hb]
        by_cases hr' : rs' = []
        · subst hr'
          have e : ostep 0 (some (g', [])) o0 = ⟨-1, g', 0, []⟩ := by simp [ostep, o0]
          rw [e]
          have : ostep 1 (some (g, rs)) ⟨-1, g', 0, []⟩ = ⟨1, g, g, rs⟩ := by simp [ostep, hr]; omega
          rw [this]
          exact ⟨rfl, rfl, rfl⟩
        · have e : ostep 0 (some (g', rs')) o0 = ⟨0, g', g', rs'⟩ := by simp [ostep, o0, hr']
          rw [e]
          have : ostep 1 (some (g, rs)) ⟨0, g', g', rs'⟩ = ⟨1, g, g, rs⟩ := by simp [ostep, hr, hlt]; omega
          rw [this]
          exact ⟨rfl, rfl, rfl⟩
end Go.Proofs.YtopacbmdoognjaaDoor.Wl
/- What the steps of Begin and Commit leave on a disk, wherever they are cut off. No program in sight. -/
namespace Go.Proofs.YtopacbmdoognjaaDoor.Wl
open Oct
/-- The area that Begin takes. -/
def tgt (c : Int) : Nat := if c = 0 then 1 else 0
def oth (c : Int) : Nat := if c = 0 then 0 else 1
theorem tgt_oth (c : Int) : (tgt c = 0 ∧ oth c = 1) ∨ (tgt c = 1 ∧ oth c = 0) := by unfold tgt oth; split <;> simp
theorem tgt_le (c : Int) : tgt c ≤ 1 := by unfold tgt; split <;> simp
/-- The area that was taken has no head any more; or stands as it was. -/
theorem Shape.clear {h : Nat} {s s' : List UInt8} {c : Int} {g : Nat} {rs : List (List UInt8)} (H : Shape h s c g rs) (hu : ar s' h (oth c) = ar s h (oth c)) (ht : rd (ar s' h (tgt c)) = none ∨ ar s' h (tgt c) = ar s h (tgt c)) : Shape h s' c g rs := by
  rcases H with ⟨rfl, rfl, rfl, h0, h1⟩ | ⟨a, b, hab, rfl, hr, ha, hb⟩
  · have e1 : tgt (-1) = 0 := rfl
    have e2 : oth (-1) = 1 := rfl
    rw [e1] at ht; rw [e2] at hu
    refine .inl ⟨rfl, rfl, rfl, ?_, by rw [hu]; exact h1⟩
    rcases ht with ht | ht
    · exact ht
    · rw [ht]; exact h0
  · have e1 : tgt (a : Int) = b := by unfold tgt; rcases hab with ⟨rfl, rfl⟩ | ⟨rfl, rfl⟩ <;> simp
    have e2 : oth (a : Int) = a := by unfold oth; rcases hab with ⟨rfl, rfl⟩ | ⟨rfl, rfl⟩ <;> simp
    rw [e1] at ht; rw [e2] at hu
    refine .inr ⟨a, b, hab, rfl, hr, by rw [hu]; exact ha, ?_⟩
    rcases ht with ht | ht
    · exact .inl ht
    · rw [ht]; exact hb
/-- It has a new one. -/
theorem Shape.new {h : Nat} {s s' : List UInt8} {c : Int} {g : Nat} {rs rs' : List (List UInt8)} (H : Shape h s c g rs) (hu : ar s' h (oth c) = ar s h (oth c)) (hr : rs' ≠ []) (ht : rd (ar s' h (tgt c)) = some (g + 1, rs')) : Shape h s' (tgt c : Nat) (g + 1) rs' := by
  refine .inr ⟨tgt c, oth c, tgt_oth c, rfl, hr, ht, ?_⟩
  rcases H with ⟨rfl, rfl, rfl, h0, h1⟩ | ⟨a, b, hab, rfl, _, ha, hb⟩
  · exact .inl (by rw [hu]; exact h1)
  · have e2 : oth (a : Int) = a := by unfold oth; rcases hab with ⟨rfl, rfl⟩ | ⟨rfl, rfl⟩ <;> simp
    refine .inr ⟨g, rs, ?_, by omega⟩
    rw [hu, e2]; exact ha
/-- Its own row has turned. -/
theorem Shape.row {h : Nat} {s s' : List UInt8} {c g : Nat} {rs rs' : List (List UInt8)} (H : Shape h s (c : Int) g rs) (hc : c ≤ 1) (hu : ar s' h (1 - c) = ar s h (1 - c)) (hr : rs' ≠ []) (ht : rd (ar s' h c) = some (g, rs')) : Shape h s' (c : Int) g rs' := by
  rcases H with ⟨h0, _⟩ | ⟨a, b, hab, hca, _, ha, hb⟩
  · omega
  · have hca' : c = a := by omega
    subst hca'
    have e : 1 - c = b := by omega
    rw [e] at hu
    refine .inr ⟨c, b, hab, rfl, hr, ht, ?_⟩
    rw [hu]; exact hb
/-- Bytes with noughts up to n blocks. -/
def pad (s : List UInt8) (n : Nat) : List UInt8 := s ++ noughts (64 * n - s.length)
theorem pad_length (s : List UInt8) (n : Nat) (h : s.length ≤ 64 * n) : (pad s n).length = 64 * n := by simp [pad]; omega
/-- The first step of Begin: the head goes. -/
theorem cut1 {h : Nat} {s : List UInt8} {c : Int} {g : Nat} {rs : List (List UInt8)} (hs : 64 * (2 * h) ≤ s.length) (hh : 0 < h) (m : Nat) (hm : m ≤ 64) (H : Shape h s c g rs) :
    Shape h (over s (64 * (h * tgt c)) ((noughts 64).take m)) c g rs := by
  have ht := tgt_le c
  have hht : h * tgt c ≤ h := by have := Nat.mul_le_mul_left h ht; omega
  have hxl : ((noughts 64).take m).length = m := by simp; omega
  refine H.clear (ar_other s h (tgt c) (oth c) 0 _ (tgt_oth c) hs (by omega)) ?_
  have := ar_over s h (tgt c) 0 ((noughts 64).take m) (by omega) (by omega)
  rw [Nat.add_zero] at this
  rcases Nat.eq_zero_or_pos m with rfl | hp
  · right; rw [List.take_zero, over_nil]
  · left
    rw [this]
    apply rd_first
    rw [over_getD _ _ _ _ (by rw [ar_length _ _ _ (by omega)]; omega), if_pos (by omega), take_getD' _ _ _ (by omega), nought_getD]
    decide
/-- The area behind the first step. -/
theorem step1 {h : Nat} {s : List UInt8} (t : Nat) (ht : t ≤ 1) (hs : 64 * (2 * h) ≤ s.length) (hh : 0 < h) : (ar (over s (64 * (h * t)) (noughts 64)) h t).take 64 = noughts 64 := by
  have hht : h * t ≤ h := by have := Nat.mul_le_mul_left h ht; omega
  have := ar_over s h t 0 (noughts 64) (by omega) (by simp; omega)
  rw [Nat.add_zero] at this
  rw [this]
  unfold over
  simp
/-- The second step: the row, cut off anywhere. -/
theorem cut2 {h : Nat} {s : List UInt8} {c : Int} {g : Nat} {rs : List (List UInt8)} (hs : 64 * (2 * h) ≤ s.length) (hh : 0 < h) (y : List UInt8) (hy : y.length ≤ 64 * (h - 1)) (hz : (ar s h (tgt c)).take 64 = noughts 64) (H : Shape h s c g rs) :
    Shape h (over s (64 * (h * tgt c + 1)) y) c g rs := by
  have ht := tgt_le c
  have hht : h * tgt c ≤ h := by have := Nat.mul_le_mul_left h ht; omega
  have e : 64 * (h * tgt c + 1) = 64 * (h * tgt c) + 64 := by omega
  rw [e]
  refine H.clear (ar_other s h (tgt c) (oth c) 64 _ (tgt_oth c) hs (by omega)) (.inl ?_)
  rw [ar_over s h (tgt c) 64 y (by omega) (by omega)]
  apply rd_first
  rw [over_getD _ _ _ _ (by rw [ar_length _ _ _ (by omega)]; omega), if_neg (by omega)]
  have := take_getD' (ar s h (tgt c)) 64 0 (by omega)
  rw [hz, nought_getD] at this
  rw [← this]
  decide
theorem step2 {h : Nat} {s : List UInt8} (t : Nat) (ht : t ≤ 1) (hs : 64 * (2 * h) ≤ s.length) (hh : 0 < h) (y : List UInt8) (hy : y.length = 64 * (h - 1)) (hz : (ar s h t).take 64 = noughts 64) :
    ar (over s (64 * (h * t + 1)) y) h t = noughts 64 ++ y := by
  have hht : h * t ≤ h := by have := Nat.mul_le_mul_left h ht; omega
  have e : 64 * (h * t + 1) = 64 * (h * t) + 64 := by omega
  rw [e, ar_over s h t 64 y (by omega) (by omega)]
  unfold over
  rw [hz, List.drop_of_length_le (by rw [ar_length _ _ _ (by omega)]; omega), List.append_nil]
theorem scan_pad (img : List UInt8) (hi : Sg.bad img = 0) (n : Nat) : Sg.scan (Sg.one img ++ noughts n) = [img] := by
  have := Sg.scan_falls [img] (by simp [Sg.err, hi]) n (Sg.one img).length
  have e : Sg.cat [img] = Sg.one img := by simp [Sg.cat]
  rw [e, List.take_of_length_le (Nat.le_refl _)] at this
  rw [this]
  simp [Sg.whole, Sg.one_length]
/-- The third step: the head, cut off anywhere. -/
theorem cut3 {h : Nat} {s : List UInt8} {c : Int} {g : Nat} {rs : List (List UInt8)} (hs : 64 * (2 * h) ≤ s.length) (hh : 0 < h) (img : List UInt8) (hi : Sg.bad img = 0) (hg : g + 1 < 18446744073709551616)
    (hz : ar s h (tgt c) = noughts 64 ++ pad (Sg.one img) (h - 1)) (m : Nat) (hm : m ≤ 64) (H : Shape h s c g rs) :
    (m < 17 ∧ Shape h (over s (64 * (h * tgt c)) ((pad (headOf (g + 1)) 1).take m)) c g rs) ∨ (17 ≤ m ∧ Shape h (over s (64 * (h * tgt c)) ((pad (headOf (g + 1)) 1).take m)) (tgt c : Nat) (g + 1) [img] ∧
      (ar (over s (64 * (h * tgt c)) ((pad (headOf (g + 1)) 1).take m)) h (tgt c)).drop 64 = pad (Sg.one img) (h - 1)) := by
  have ht := tgt_le c
  have hht : h * tgt c ≤ h := by have := Nat.mul_le_mul_left h ht; omega
  have hpl : (pad (headOf (g + 1)) 1).length = 64 := pad_length _ _ (by rw [headOf_length]; omega)
  have hxl : ((pad (headOf (g + 1)) 1).take m).length = m := by simp; omega
  have hal : (ar s h (tgt c)).length = 64 * h := ar_length _ _ _ (by omega)
  have hu := ar_other s h (tgt c) (oth c) 0 ((pad (headOf (g + 1)) 1).take m) (tgt_oth c) hs (by omega)
  have ha := ar_over s h (tgt c) 0 ((pad (headOf (g + 1)) 1).take m) (by omega) (by omega)
  rw [Nat.add_zero] at hu ha
  rcases Nat.lt_or_ge m 17 with h17 | h17
  · left
    refine ⟨h17, H.clear hu (.inl ?_)⟩
    rw [ha]
    apply rd_last
    rw [over_getD _ _ _ _ (by omega), if_neg (by omega), hz, append_getD, if_pos (by simp), nought_getD]
    decide
  · right
    have h17' : (over (ar s h (tgt c)) 0 ((pad (headOf (g + 1)) 1).take m)).take 17 = headOf (g + 1) := by
      unfold over
      rw [List.take_zero, List.nil_append, List.take_append_of_le_length (by omega), List.take_take, Nat.min_eq_left h17]
      unfold pad
      rw [List.take_append_of_le_length (by rw [headOf_length]; omega), List.take_of_length_le (by rw [headOf_length]; omega)]
    have h64 : (over (ar s h (tgt c)) 0 ((pad (headOf (g + 1)) 1).take m)).drop 64 = pad (Sg.one img) (h - 1) := by
      unfold over
      rw [List.take_zero, List.nil_append, List.drop_append, List.drop_of_length_le (by omega), List.nil_append, List.drop_drop, hz, List.drop_append, List.drop_of_length_le (by simp; omega), List.nil_append]
      have : (0 + ((pad (headOf (g + 1)) 1).take m).length + (64 - ((pad (headOf (g + 1)) 1).take m).length)) - (noughts 64).length = 0 := by rw [hxl]; simp; omega
      rw [this, List.drop_zero]
    refine ⟨h17, H.new hu (by simp) ?_, by rw [ha]; exact h64⟩
    rw [ha, rd_eq h17' hg, h64]
    unfold pad
    rw [scan_pad img hi]
/-- What stands whole within the first m bytes of records is a beginning of them. -/
theorem whole_prefix (l : List (List UInt8)) : ∀ m, ∃ k, k ≤ l.length ∧ Sg.whole l m = l.take k := by
  induction l with
  | nil => intro m; exact ⟨0, Nat.le_refl _, rfl⟩
  | cons r l ih =>
    intro m
    unfold Sg.whole
    split
    · obtain ⟨k, hk, e⟩ := ih (m - (r.length + 9))
      exact ⟨k + 1, by simp; omega, by rw [e, List.take_succ_cons]⟩
    · exact ⟨0, Nat.zero_le _, by simp⟩
theorem whole_append (a b : List (List UInt8)) : ∀ m, Sg.used a ≤ m → Sg.whole (a ++ b) m = a ++ Sg.whole b (m - Sg.used a) := by
  induction a with
  | nil => intro m _; simp [Sg.used]
  | cons r a ih =>
    intro m h
    rw [Sg.used] at h
    rw [List.cons_append, Sg.whole, if_pos (by omega), ih _ (by omega), Sg.used]
    congr 3
    omega
/-- The row behind a put of a Commit that was cut off. -/
theorem row_cut (dn wt : List UInt8) (R n m : Nat) (hR : dn.length + wt.length ≤ R) (hn : dn.length + wt.length ≤ 64 * (dn.length / 64) + 64 * n) (hn2 : 64 * (dn.length / 64) + 64 * n ≤ R) (hm : m ≤ 64 * n) :
    over (dn ++ noughts (R - dn.length)) (64 * (dn.length / 64)) ((pad (dn.drop (64 * (dn.length / 64)) ++ wt) n).take m) =
      (dn ++ wt).take (max dn.length (min (64 * (dn.length / 64) + m) (dn.length + wt.length))) ++ noughts (R - max dn.length (min (64 * (dn.length / 64) + m) (dn.length + wt.length))) := by
  have hf : 64 * (dn.length / 64) ≤ dn.length := by omega
  generalize 64 * (dn.length / 64) = f at *
  have hpl : (pad (dn.drop f ++ wt) n).length = 64 * n := pad_length _ _ (by simp; omega)
  have hxl : ((pad (dn.drop f ++ wt) n).take m).length = m := by simp; omega
  have hql : (dn ++ noughts (R - dn.length)).length = R := by simp; omega
  apply ext0
  · rw [over_length _ _ _ (by omega), hql]; simp; omega
  intro i hi
  rw [over_length _ _ _ (by omega), hql] at hi
  rw [over_getD _ _ _ _ (by omega), append_getD, append_getD, nought_getD, nought_getD]
  have hl2 : ((dn ++ wt).take (max dn.length (min (f + m) (dn.length + wt.length)))).length = max dn.length (min (f + m) (dn.length + wt.length)) := by simp; omega
  rw [hl2, hxl]
  by_cases h1 : f ≤ i ∧ i < f + m
  · rw [if_pos h1, take_getD' _ _ _ (by omega)]
    unfold pad
    rw [append_getD, nought_getD]
    have hl3 : (dn.drop f ++ wt).length = dn.length - f + wt.length := by simp
    rw [hl3]
    by_cases h2 : i - f < dn.length - f + wt.length
    · rw [if_pos h2, if_pos (by omega), take_getD' _ _ _ (by omega), append_getD, append_getD, drop_getD]
      simp only [List.length_drop]
      by_cases h3 : i < dn.length
      · rw [if_pos (by omega), if_pos h3]; congr 1; omega
      · rw [if_neg (by omega), if_neg h3]; congr 1; omega
    · rw [if_neg h2, if_neg (by omega)]
  · rw [if_neg h1]
    by_cases h3 : i < dn.length
    · rw [if_pos h3, if_pos (by omega), take_getD' _ _ _ (by omega), append_getD, if_pos h3]
    · rw [if_neg h3]
      by_cases h4 : i < max dn.length (min (f + m) (dn.length + wt.length))
      · exfalso; omega
      · rw [if_neg h4]
/-- What is read of a row that holds as many bytes of records. -/
theorem scan_cut (a b : List (List UInt8)) (he : Sg.err (a ++ b) = 0) (q n : Nat) (hq : (Sg.cat a).length ≤ q) : ∃ k, k ≤ b.length ∧ (q = (Sg.cat (a ++ b)).length → k = b.length) ∧ Sg.scan ((Sg.cat (a ++ b)).take q ++ noughts n) = a ++ b.take k := by
  rw [Sg.scan_falls _ he n q, whole_append _ _ _ (by rw [← Sg.cat_length]; exact hq)]
  by_cases hf : q = (Sg.cat (a ++ b)).length
  · refine ⟨b.length, Nat.le_refl _, fun _ => rfl, ?_⟩
    rw [List.take_length]
    congr 1
    rw [hf, Sg.cat_length, Sg.used_append, Nat.add_sub_cancel_left]
    have := whole_append b [] (Sg.used b) (Nat.le_refl _)
    rw [List.append_nil, Nat.sub_self] at this
    rw [this]
    simp [Sg.whole]
  · obtain ⟨k, hk, e⟩ := whole_prefix b (q - Sg.used a)
    exact ⟨k, hk, fun h => absurd h hf, by rw [e]⟩
end Go.Proofs.YtopacbmdoognjaaDoor.Wl
