/- Plain arithmetic of the check sum: one bit's step, four bits by the table, eight bits; linear, one-to-one. No Go in sight. -/
namespace Go.Proofs.YtopacbmdoognjaaDoor.Crc
def poly : Nat := 3988292384
/-- One bit. -/
def bit (r : Nat) : Nat := (r / 2) ^^^ (if r % 2 = 1 then poly else 0)
def bits : Nat → Nat → Nat
  | 0, r => r
  | n + 1, r => bits n (bit r)
/-- A register behind a byte. -/
def step (r b : Nat) : Nat := bits 8 (r ^^^ b)
/-- A register behind bytes. -/
def over (r : Nat) (l : List UInt8) : Nat := l.foldl (fun r b => step r b.toNat) r
/-- The sum of bytes. -/
def sum (l : List UInt8) : Nat := 4294967295 ^^^ over 4294967295 l
def tab : List Nat := [0, 498536548, 997073096, 651767980, 1994146192, 1802195444, 1303535960, 1342533948, 3988292384, 4027552580, 3604390888, 3412177804, 2607071920, 2262029012, 2685067896, 3183342108]

theorem xor_div2 (a b : Nat) : (a ^^^ b) / 2 = a / 2 ^^^ b / 2 := by
  have := @Nat.xor_div_two_pow a b 1
  simpa using this
theorem xor_mod2 (a b : Nat) : (a ^^^ b) % 2 = (a % 2) ^^^ (b % 2) := by
  have := @Nat.xor_mod_two_pow a b 1
  simpa using this
theorem bit_xor (a b : Nat) : bit (a ^^^ b) = bit a ^^^ bit b := by
  unfold bit
  rw [xor_div2, xor_mod2]
  have ha : a % 2 = 0 ∨ a % 2 = 1 := by omega
  have hb : b % 2 = 0 ∨ b % 2 = 1 := by omega
  rcases ha with ha | ha <;> rcases hb with hb | hb <;> simp [ha, hb]
  · rw [Nat.xor_assoc]
  · rw [Nat.xor_assoc, Nat.xor_assoc, Nat.xor_comm (b / 2) poly]
  · have e : ∀ p q x : Nat, p ^^^ x ^^^ (q ^^^ x) = p ^^^ q := fun p q x => by
      rw [Nat.xor_comm q x, ← Nat.xor_assoc, Nat.xor_assoc p x x, Nat.xor_self, Nat.xor_zero]
    rw [e]
theorem bits_xor (n : Nat) : ∀ a b, bits n (a ^^^ b) = bits n a ^^^ bits n b := by
  induction n with
  | zero => intro a b; rfl
  | succ n ih => intro a b; simp only [bits]; rw [bit_xor, ih]
theorem bits_add (m n : Nat) : ∀ r, bits (m + n) r = bits n (bits m r) := by
  induction m with
  | zero => intro r; simp [bits]
  | succ m ih => intro r; rw [Nat.succ_add]; simp only [bits]; exact ih _
theorem bit_even (q : Nat) : bit (2 * q) = q := by
  unfold bit
  have h1 : 2 * q % 2 = 0 := by omega
  have h2 : 2 * q / 2 = q := by omega
  rw [h1, h2]; simp
theorem bits_shift (n : Nat) : ∀ q, bits n (2 ^ n * q) = q := by
  induction n with
  | zero => intro q; simp [bits]
  | succ n ih =>
    intro q
    have e : 2 ^ (n + 1) * q = 2 * (2 ^ n * q) := by rw [Nat.pow_succ, Nat.mul_comm (2 ^ n) 2, Nat.mul_assoc]
    simp only [bits]
    rw [e, bit_even, ih]
theorem bit_lt (r : Nat) (h : r < 4294967296) : bit r < 4294967296 := by
  unfold bit
  have h1 : r / 2 < 2 ^ 32 := by omega
  have h2 : (if r % 2 = 1 then poly else 0) < 2 ^ 32 := by split <;> simp [poly]
  exact Nat.xor_lt_two_pow h1 h2
theorem bits_lt (n : Nat) : ∀ r, r < 4294967296 → bits n r < 4294967296 := by
  induction n with
  | zero => intro r h; exact h
  | succ n ih => intro r h; exact ih _ (bit_lt r h)
theorem split16 (r : Nat) : r = (2 ^ 4 * (r / 16)) ^^^ (r % 16) := by
  have h := Nat.two_pow_add_eq_or_of_lt (i := 4) (b := r % 16) (by omega) (r / 16)
  have h2 : (2 ^ 4 * (r / 16)) ^^^ (r % 16) = (2 ^ 4 * (r / 16)) ||| (r % 16) := by
    apply Nat.eq_of_testBit_eq
    intro i
    rw [Nat.testBit_xor, Nat.testBit_or, Nat.testBit_two_pow_mul]
    by_cases hi : i < 4
    · simp [show ¬ i ≥ 4 by omega]
    · have : (r % 16).testBit i = false := Nat.testBit_lt_two_pow (Nat.lt_of_lt_of_le (Nat.mod_lt _ (by decide)) (by
        have : 2 ^ 4 ≤ 2 ^ i := Nat.pow_le_pow_right (by decide) (by omega)
        simpa using this))
      simp [this]
  rw [h2, ← h]; omega
def tabAt (i : Nat) : Nat := tab.getD i 0
theorem tab_eq : ∀ m : Fin 16, bits 4 m.val = tabAt m.val := by decide
theorem tabAt_lt (i : Nat) : tabAt i < 4294967296 := by
  by_cases h : i < 16
  · have : ∀ m : Fin 16, tabAt m.val < 4294967296 := by decide
    exact this ⟨i, h⟩
  · have : tabAt i = 0 := by
      unfold tabAt
      rw [List.getD_eq_getElem?_getD, List.getElem?_eq_none (by simp [tab]; omega)]
      rfl
    omega
/-- Four bits by the table. -/
theorem nib_eq (r : Nat) : bits 4 r = (r / 16) ^^^ tabAt (r % 16) := by
  conv => lhs; rw [split16 r]
  rw [bits_xor, bits_shift, tab_eq ⟨r % 16, Nat.mod_lt _ (by decide)⟩]
theorem step_nib (r b : Nat) : step r b = bits 4 (bits 4 (r ^^^ b)) := by
  unfold step; rw [show (8 : Nat) = 4 + 4 from rfl, bits_add]
theorem step_lt (r b : Nat) (h : r < 4294967296) (hb : b < 4294967296) : step r b < 4294967296 :=
  bits_lt 8 _ (Nat.xor_lt_two_pow (n := 32) h hb)
theorem over_lt (l : List UInt8) : ∀ r, r < 4294967296 → over r l < 4294967296 := by
  induction l with
  | nil => intro r h; exact h
  | cons b l ih => intro r h; exact ih _ (step_lt r b.toNat h (by have := b.toNat_lt; omega))
theorem sum_lt (l : List UInt8) : sum l < 4294967296 := Nat.xor_lt_two_pow (n := 32) (by decide) (over_lt l _ (by decide))
theorem over_append (a b : List UInt8) (r : Nat) : over r (a ++ b) = over (over r a) b := by simp [over]
theorem over_snoc (a : List UInt8) (b : UInt8) (r : Nat) : over r (a ++ [b]) = step (over r a) b.toNat := by simp [over]

/-! ### one-to-one -/
theorem bit_zero_of (r : Nat) (h : r < 4294967296) (h0 : bit r = 0) : r = 0 := by
  unfold bit at h0
  by_cases hr : r % 2 = 1
  · rw [if_pos hr] at h0
    have e : r / 2 = poly := by
      have := congrArg (· ^^^ poly) h0
      simpa [Nat.xor_assoc] using this
    simp [poly] at e
    omega
  · rw [if_neg hr] at h0
    simp at h0
    omega
theorem bits_zero_of (n : Nat) : ∀ r, r < 4294967296 → bits n r = 0 → r = 0 := by
  induction n with
  | zero => intro r _ h; exact h
  | succ n ih => intro r h h0; exact bit_zero_of r h (ih _ (bit_lt r h) h0)
theorem xor_eq_zero {a b : Nat} : a ^^^ b = 0 ↔ a = b := by
  constructor
  · intro h
    have := congrArg (· ^^^ b) h
    simpa [Nat.xor_assoc] using this
  · rintro rfl; exact Nat.xor_self _
theorem bits_inj (n a b : Nat) (ha : a < 4294967296) (hb : b < 4294967296) : bits n a = bits n b ↔ a = b := by
  constructor
  · intro h
    have h0 : bits n (a ^^^ b) = 0 := by rw [bits_xor, h, Nat.xor_self]
    exact xor_eq_zero.1 (bits_zero_of n _ (Nat.xor_lt_two_pow (n := 32) ha hb) h0)
  · rintro rfl; rfl
theorem xor_right_inj' {a b c : Nat} : a ^^^ c = b ^^^ c ↔ a = b := by
  constructor
  · intro h
    have := congrArg (· ^^^ c) h
    simpa [Nat.xor_assoc] using this
  · rintro rfl; rfl
theorem xor_left_inj' {a b c : Nat} : c ^^^ a = c ^^^ b ↔ a = b := by
  rw [Nat.xor_comm c a, Nat.xor_comm c b]; exact xor_right_inj'
theorem step_inj_left (r s a : Nat) (hr : r < 4294967296) (hs : s < 4294967296) (ha : a < 256) : step r a = step s a ↔ r = s := by
  unfold step
  rw [bits_inj 8 _ _ (Nat.xor_lt_two_pow (n := 32) hr (by omega)) (Nat.xor_lt_two_pow (n := 32) hs (by omega)), xor_right_inj']
theorem step_inj_right (r a b : Nat) (hr : r < 4294967296) (ha : a < 256) (hb : b < 256) : step r a = step r b ↔ a = b := by
  unfold step
  rw [bits_inj 8 _ _ (Nat.xor_lt_two_pow (n := 32) hr (by omega)) (Nat.xor_lt_two_pow (n := 32) hr (by omega)), xor_left_inj']
end Go.Proofs.YtopacbmdoognjaaDoor.Crc
