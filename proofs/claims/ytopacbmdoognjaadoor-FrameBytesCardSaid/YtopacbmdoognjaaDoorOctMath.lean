/- Plain octets: big-endian numbers, texts; what reads them. No Go in sight. -/
namespace Go.Proofs.YtopacbmdoognjaaDoor.Oct
/-- A string of these bytes. -/
def bs (l : List UInt8) : ByteArray := ⟨l.toArray⟩
theorem bs_toList (l : List UInt8) : (bs l).data.toList = l := rfl
theorem bs_size (l : List UInt8) : (bs l).size = l.length := by simp [bs, ByteArray.size]
theorem ba_ext {a b : ByteArray} (h : a.data.toList = b.data.toList) : a = b := by
  obtain ⟨⟨a⟩⟩ := a; obtain ⟨⟨b⟩⟩ := b
  simp at h
  rw [h]
theorem bs_self (a : ByteArray) : bs a.data.toList = a := ba_ext rfl
theorem bs_append (a b : List UInt8) : bs a ++ bs b = bs (a ++ b) := ba_ext (by simp [bs])
theorem append_bs (a b : ByteArray) : a ++ b = bs (a.data.toList ++ b.data.toList) := ba_ext (by simp [bs])
/-- The last w bytes of a number, the greatest first. -/
def be : Nat → Nat → List UInt8
  | 0, _ => []
  | w + 1, n => be w (n / 256) ++ [UInt8.ofNat n]
theorem be_length (w : Nat) : ∀ n, (be w n).length = w := by
  induction w with
  | zero => intro n; rfl
  | succ w ih => intro n; simp [be, ih]
/-- As how many bytes a number is written. -/
def wid (b : Int) : Nat := (min (max b 0) 8).toNat
theorem wid_le (b : Int) : wid b ≤ 8 := by unfold wid; omega
/-- The bytes of a text. -/
def txt (l : List UInt8) : List UInt8 := be 2 l.length ++ l
/-- The number of bytes. -/
def num (l : List UInt8) : Nat := l.foldl (fun n b => n * 256 + b.toNat) 0
theorem num_snoc (l : List UInt8) (b : UInt8) : num (l ++ [b]) = num l * 256 + b.toNat := by simp [num]
theorem num_be (w : Nat) : ∀ n, num (be w n) = n % 256 ^ w := by
  induction w with
  | zero => intro n; simp [be, num, Nat.mod_one]
  | succ w ih =>
    intro n
    have h1 : n % (256 * 256 ^ w) = n % 256 + 256 * (n / 256 % 256 ^ w) := Nat.mod_mul
    have h2 : 256 ^ (w + 1) = 256 * 256 ^ w := by rw [Nat.pow_succ, Nat.mul_comm]
    rw [be, num_snoc, ih, UInt8.toNat_ofNat', h2, h1]
    omega
theorem num_lt (l : List UInt8) : num l < 256 ^ l.length := by
  suffices h : ∀ (l : List UInt8), num l.reverse < 256 ^ l.length by
    have := h l.reverse
    simpa using this
  intro l
  induction l with
  | nil => simp [num]
  | cons b l ih =>
    rw [List.reverse_cons, num_snoc, List.length_cons, Nat.pow_succ]
    have := b.toNat_lt
    omega
end Go.Proofs.YtopacbmdoognjaaDoor.Oct
