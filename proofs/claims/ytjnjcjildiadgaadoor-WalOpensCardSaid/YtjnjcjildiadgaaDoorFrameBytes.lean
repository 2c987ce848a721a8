/- The walk of frame.Bytes. -/
import Derived.Test.YtjnjcjildiadgaaDoorFrameRef
import Derived.Test.YtjnjcjildiadgaaDoorOctText
namespace Go.Proofs.YtjnjcjildiadgaaDoor.Frm
open Go Go.RowKit Frame Oct
theorem num_one (s : List UInt8) (hs : s.length ≤ 100000) (x : UInt8) (w : World) :
    Calls Tryd.prog 55 #[.agg #[.string (bs s), .int .i64 0], .int .u64 (x.toNat : Int), .int .i64 1] w fun e' w' => e' = .returned (.agg #[.string (bs (s ++ [x])), .int .i64 0]) ∧ Below w.heap.size w w' := by
  have h := OutNum_calls (bs s) 0 x.toNat 1 (by decide) (by rw [bs_size]; omega) w
  rw [bs_toList, show be (wid 1) x.toNat = [UInt8.ofNat x.toNat] from rfl, UInt8.ofNat_toNat] at h
  exact h
theorem num_four (s : List UInt8) (hs : s.length ≤ 100000) (n : Nat) (w : World) :
    Calls Tryd.prog 55 #[.agg #[.string (bs s), .int .i64 0], .int .u64 (n : Int), .int .i64 4] w fun e' w' => e' = .returned (.agg #[.string (bs (s ++ be 4 n)), .int .i64 0]) ∧ Below w.heap.size w w' := by
  have h := OutNum_calls (bs s) 0 n 4 (by decide) (by rw [bs_size]; omega) w
  rw [bs_toList, show be (wid 4) n = be 4 n from rfl] at h
  exact h
theorem three {b : Nat} {a0 a1 a2 : Value} {t : TypeId} {w : World} (h : Has b #[a0, a1, a2] t w) : w.cell? ⟨b, 0, none⟩ = some a0 ∧ w.cell? ⟨b, 1, none⟩ = some a1 ∧ w.cell? ⟨b, 2, none⟩ = some a2 := ⟨h.cell 0, h.cell 1, h.cell 2⟩
theorem two {b : Nat} {a0 a1 : Value} {t : TypeId} {w : World} (h : Has b #[a0, a1] t w) : w.cell? ⟨b, 0, none⟩ = some a0 ∧ w.cell? ⟨b, 1, none⟩ = some a1 := ⟨h.cell 0, h.cell 1⟩
theorem setTwo {p : Nat} {x y : Value} {t : TypeId} {w : World} (h : Has p #[x, y] t w) (a b : Value) : Has p #[a, b] t ((w.setCell ⟨p, 0, none⟩ a).setCell ⟨p, 1, none⟩ b) := by
  have := (h.set (i := 0) a).set (i := 1) b
  simpa using this
theorem drew_alloc_lt (w : World) (o : Obj) : w.heap.size < ((w.alloc o).drew).heap.size := by show w.heap.size < (w.alloc o).heap.size; simp
end Go.Proofs.YtjnjcjildiadgaaDoor.Frm
