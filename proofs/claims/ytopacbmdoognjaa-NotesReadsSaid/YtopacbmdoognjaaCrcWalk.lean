/- The walk of crc.Step: what the Go text computes is the plain step. -/
import Derived.Test.YtopacbmdoognjaaProg
import Derived.Test.YtopacbmdoognjaaPlain
import Derived.WalkKit
import Derived.WalkSpells
import Derived.WalkLawsBesides
import Derived.Outline
import Derived.Lib.Hide
namespace Go.Proofs.Ytopacbmdoognjaa.Crc
open Go Go.RowKit
theorem and15 (X : Nat) : X &&& 15 = X % 16 := Nat.and_two_pow_sub_one_eq_mod X 4

/-- A slice of strings that is read. -/
def Strs (w : World) (A : Option Addr) (ss : List ByteArray) : Prop :=
  0 < ss.length → ∃ b off, A = some ⟨b, off, none⟩ ∧ ∀ i, i < ss.length → w.cell? ⟨b, off + i, none⟩ = some (.string (ss.getD i ByteArray.empty))
def cat (ss : List ByteArray) : List UInt8 := ss.flatMap fun s => s.data.toList
theorem cat_take_succ (ss : List ByteArray) (k : Nat) (h : k < ss.length) : cat (ss.take (k + 1)) = cat (ss.take k) ++ (ss.getD k ByteArray.empty).data.toList := by
  unfold cat
  rw [List.take_succ_eq_append_getElem h, List.flatMap_append]
  simp [List.getD_eq_getElem?_getD, h]
theorem take_snoc (s : ByteArray) (k : Nat) (h : k < s.size) : s.data.toList.take (k + 1) = s.data.toList.take k ++ [s[k]] := by
  rw [List.take_succ_eq_append_getElem (by simpa using h)]; rfl
theorem take_size (s : ByteArray) : s.data.toList.take s.size = s.data.toList := by
  rw [List.take_of_length_le]; simp

end Go.Proofs.Ytopacbmdoognjaa.Crc
