/- Merged: FrameBytes, SegWalk, OctAwake, FrameLaws. -/
import Derived.Test.YtopacbmdoognjaaFrameRef
import Derived.Test.YtopacbmdoognjaaOctText
import Derived.Test.YtopacbmdoognjaaPlain
import Derived.Test.YtopacbmdoognjaaOctNum
/- The walk of frame.Bytes. -/
namespace Go.Proofs.Ytopacbmdoognjaa.Frm
open Go Go.RowKit Frame Oct
theorem num_one (s : List UInt8) (hs : s.length ≤ 100000) (x : UInt8) (w : World) :
    Calls Try.prog 21 #[.agg #[.string (bs s), .int .i64 0], .int .u64 (x.toNat : Int), .int .i64 1] w fun e' w' => e' = .returned (.agg #[.string (bs (s ++ [x])), .int .i64 0]) ∧ Below w.heap.size w w' := by
  have h := OutNum_calls (bs s) 0 x.toNat 1 (by decide) (by rw [bs_size]; omega) w
  rw [bs_toList, show be (wid 1) x.toNat = [UInt8.ofNat x.toNat] from rfl, UInt8.ofNat_toNat] at h
  exact h
theorem num_four (s : List UInt8) (hs : s.length ≤ 100000) (n : Nat) (w : World) :
    Calls Try.prog 21 #[.agg #[.string (bs s), .int .i64 0], .int .u64 (n : Int), .int .i64 4] w fun e' w' => e' = .returned (.agg #[.string (bs (s ++ be 4 n)), .int .i64 0]) ∧ Below w.heap.size w w' := by
  have h := OutNum_calls (bs s) 0 n 4 (by decide) (by rw [bs_size]; omega) w
  rw [bs_toList, show be (wid 4) n = be 4 n from rfl] at h
  exact h
theorem text_any (s t : List UInt8) (hs : s.length ≤ 100000) (ht : t.length ≤ 65535) (w : World) :
    Calls Try.prog 71 #[.agg #[.string (bs s), .int .i64 0], .string (bs t)] w fun e' w' => e' = .returned (.agg #[.string (bs (s ++ txt t)), .int .i64 0]) ∧ Below w.heap.size w w' := by
  have h := OutText_calls (bs s) (bs t) 0 (by rw [bs_size]; omega) (by rw [bs_size]; omega) w
  rw [bs_toList, bs_toList] at h
  exact h
theorem three {b : Nat} {a0 a1 a2 : Value} {t : TypeId} {w : World} (h : Has b #[a0, a1, a2] t w) : w.cell? ⟨b, 0, none⟩ = some a0 ∧ w.cell? ⟨b, 1, none⟩ = some a1 ∧ w.cell? ⟨b, 2, none⟩ = some a2 := ⟨h.cell 0, h.cell 1, h.cell 2⟩
theorem two {b : Nat} {a0 a1 : Value} {t : TypeId} {w : World} (h : Has b #[a0, a1] t w) : w.cell? ⟨b, 0, none⟩ = some a0 ∧ w.cell? ⟨b, 1, none⟩ = some a1 := ⟨h.cell 0, h.cell 1⟩
theorem setTwo {p : Nat} {x y : Value} {t : TypeId} {w : World} (h : Has p #[x, y] t w) (a b : Value) : Has p #[a, b] t ((w.setCell ⟨p, 0, none⟩ a).setCell ⟨p, 1, none⟩ b) := by
  have := (h.set (i := 0) a).set (i := 1) b
  simpa using this
theorem drew_alloc_lt (w : World) (o : Obj) : w.heap.size < ((w.alloc o).drew).heap.size := by show w.heap.size < (w.alloc o).heap.size; simp
end Go.Proofs.Ytopacbmdoognjaa.Frm
/- The walks of seg.one, seg.Next, seg.Size. -/
namespace Go.Proofs.Ytopacbmdoognjaa.Sg
open Go Go.RowKit Frame Oct Frm
theorem num_any (s : List UInt8) (hs : s.length ≤ 1000000000) (n : Nat) (b : Int) (hb : 0 ≤ b ∧ b ≤ 8) (w : World) :
    Calls Try.prog 21 #[.agg #[.string (bs s), .int .i64 0], .int .u64 (n : Int), .int .i64 b] w fun e' w' => e' = .returned (.agg #[.string (bs (s ++ be b.toNat n)), .int .i64 0]) ∧ Below w.heap.size w w' := by
  have h := OutNum_calls (bs s) 0 n b (by omega) (by rw [bs_size]; omega) w
  rw [bs_toList, show wid b = b.toNat by unfold wid; omega] at h
  exact h
theorem raw_any (s t : List UInt8) (hs : s.length ≤ 1000000000) (ht : t.length ≤ 1000000000) (w : World) :
    Calls Try.prog 70 #[.agg #[.string (bs s), .int .i64 0], .string (bs t)] w fun e' w' => e' = .returned (.agg #[.string (bs (s ++ t)), .int .i64 0]) ∧ Below w.heap.size w w' := by
  have h := OutRaw_calls (bs s) (bs t) 0 (by rw [bs_size]; omega) (by rw [bs_size]; omega) w
  rw [bs_toList, bs_toList] at h
  exact h
theorem len_lt (l : List UInt8) : len l < 4294967296 := by
  unfold len
  have h := num_lt (l.take 4)
  have h2 : (l.take 4).length ≤ 4 := by simp; omega
  have h3 : 256 ^ (l.take 4).length ≤ 256 ^ 4 := Nat.pow_le_pow_right (by decide) h2
  have : (256 : Nat) ^ 4 = 4294967296 := by decide
  omega
end Go.Proofs.Ytopacbmdoognjaa.Sg
/- The walk of stairwelllaw01's awake: its examples hold. -/
namespace Go.Proofs.Ytopacbmdoognjaa.Oct
open Go Go.RowKit Frame
def e0 : ByteArray := ⟨#[]⟩
theorem OutNum_ex (w : World) : Calls Try.prog 21 #[.agg #[.string ⟨#[]⟩, .int .i64 0], .int .u64 258, .int .i64 2] w fun e' w' => e' = .returned (.agg #[.string ⟨#[1, 2]⟩, .int .i64 0]) ∧ Below w.heap.size w w' :=
  OutNum_calls ⟨#[]⟩ 0 258 2 (by decide) (by decide) w
theorem OutText_ex (w : World) : Calls Try.prog 71 #[.agg #[.string ⟨#[]⟩, .int .i64 0], .string ⟨#[97, 98]⟩] w fun e' w' => e' = .returned (.agg #[.string ⟨#[0, 2, 97, 98]⟩, .int .i64 0]) ∧ Below w.heap.size w w' :=
  OutText_calls ⟨#[]⟩ ⟨#[97, 98]⟩ 0 (by decide) (by decide) w
theorem InNum_ex (w : World) : Calls Try.prog 38 #[.pointer (some ⟨w.heap.size, 0, none⟩), .int .i64 2] (w.alloc (.cells #[.string ⟨#[1, 2]⟩, .int .i64 0] 116)) fun e' w' => e' = .returned (.int .u64 258) ∧ Below w.heap.size w w' :=
  (Num_calls w.heap.size ([1, 2], 0) 2 (by decide) _ (Has.new w #[.string (bs [1, 2]), .int .i64 0] 116)).mono fun e' w' ⟨he, _, ho⟩ => ⟨he, Only.to_below ((Below.refl _ w).alloc (Nat.le_refl _) _) ho (Nat.le_refl _) (by simp)⟩
set_option maxHeartbeats 1000000 in
theorem awake_calls (w : World) :
    Calls Try.prog 16 #[] w fun e w' => e = .returned (.bool true) ∧ Below w.heap.size w w' := by
  go_enter Try.func16, Try.ntmps16
  go_wp2_with fail
  refine (OutNum_ex _).mono ?_
  rintro e w1 ⟨rfl, hb1⟩
  go_wp2_with fail
  refine (OutString_calls _ _ _).mono ?_
  rintro e w2 ⟨rfl, hb2⟩
  go_wp2_with fail
  refine (OutText_ex _).mono ?_
  rintro e w3 ⟨rfl, hb3⟩
  go_wp2_with fail
  refine (OutString_calls _ _ _).mono ?_
  rintro e w4 ⟨rfl, hb4⟩
  go_wp2_with fail
  refine (New_calls _ _).mono ?_
  rintro e w5 ⟨rfl, rfl⟩
  go_wp2_with fail
  refine (InNum_ex _).mono ?_
  rintro e w6 ⟨rfl, hb6⟩
  go_wp2_with fail
  go_ret
  exact ⟨rfl, (((hb1.trans (hb2.mono hb1.size)).trans (hb3.mono (Nat.le_trans hb1.size hb2.size))).trans (hb4.mono (Nat.le_trans hb1.size (Nat.le_trans hb2.size hb3.size)))).trans (hb6.mono (Nat.le_trans hb1.size (Nat.le_trans hb2.size (Nat.le_trans hb3.size hb4.size))))⟩
end Go.Proofs.Ytopacbmdoognjaa.Oct
/- The walks of the laws of chapter 07: awake, Same, FrameParses. -/
namespace Go.Proofs.Ytopacbmdoognjaa.Frm
open Go Go.RowKit Frame Oct
theorem Awake1_calls (w : World) : Calls Try.prog 84 #[] w fun e w' => e = .returned (.bool true) ∧ Below w.heap.size w w' := by
  go_enter Try.func84, Try.ntmps84
  go_wp2_with fail
  refine (Oct.awake_calls _).mono ?_
  rintro e w1 ⟨rfl, b1⟩
  go_wp2_with fail
  go_ret
  exact ⟨rfl, b1⟩
theorem ex_len : (bytes ⟨1, 2, []⟩).length = 9 := by decide +kernel
theorem ex_last : (bytes ⟨1, 2, []⟩).getD 8 0 = 206 := by decide +kernel
end Go.Proofs.Ytopacbmdoognjaa.Frm
