/- The walk of stairwellref07.Parse. -/
import Derived.Test.YtopacbmdoognjaaFrameWalk
import Derived.Test.YtopacbmdoognjaaOctRef
import Derived.Deep.QuietTactic
import Derived.BigQuiet
import Derived.Deep.RegionHeld3
namespace Go.Proofs.Ytopacbmdoognjaa.Frm
open Go Go.RowKit Frame Oct
theorem drewN_bel {B : Nat} {a w : World} (h : Below B a w) (n : Nat) : Below B a (w.drewN n) := ⟨h.os, h.tape, h.output, h.size, h.block⟩
theorem drewN_has {b : Nat} {cs : Array Value} {t : TypeId} {w : World} (h : Has b cs t w) (n : Nat) : Has b cs t (w.drewN n) := h
theorem bs_beq (a b : List UInt8) : ((bs a).toList == (bs b).toList) = (a == b) := by rw [ByteArray.toList_eq, ByteArray.toList_eq]; rfl
theorem after_drew {w w2 : World} (h : Below w.drew.heap.size w.drew w2) : Below w.heap.size w w2 := ⟨h.os, h.tape, h.output, h.size, h.block⟩
theorem zf0 {b : Nat} {t : TypeId} {w : World} (h : Has b zeroF t w) : w.cell? ⟨b, 0, none⟩ = some (.int .u8 0) := h.cell 0
theorem zf1 {b : Nat} {t : TypeId} {w : World} (h : Has b zeroF t w) : w.cell? ⟨b, 1, none⟩ = some (.int .u8 0) := h.cell 1
theorem zf2 {b : Nat} {t : TypeId} {w : World} (h : Has b zeroF t w) : w.cell? ⟨b, 2, none⟩ = some (.string ⟨#[]⟩) := h.cell 2
/-- A byte of a string, by its place. -/
theorem idx (l : List UInt8) (i : Int) (k : Nat) (hi : i = (k : Int)) (hk : k < l.length) (w : World) : (Instr.index 9 (.string (bs l)) (.int .i64 i)).run Try.prog w = .ok (.int .u8 ((l.getD k 0).toNat : Int)) w := by
  subst hi
  have hs : k < (bs l).size := by rw [bs_size]; exact hk
  rw [run_index_string _ _ _ _ _ Try.underlying9, dif_pos ⟨by omega, by omega⟩]
  congr 3
  simp only [Int.toNat_natCast, List.getD_eq_getElem?_getD, List.getElem?_eq_getElem hk, Option.getD_some]
  rfl
theorem len_eq (l : List UInt8) (h : ¬ l.length < 4) : len l = (l.getD 2 0).toNat * 256 + (l.getD 3 0).toNat := by
  match l, h with
  | a :: b :: c :: d :: l, _ => simp [len, num]
  | [], h => simp at h
  | [_], h => simp at h
  | [_, _], h => simp at h
  | [_, _, _], h => simp at h
end Go.Proofs.Ytopacbmdoognjaa.Frm
