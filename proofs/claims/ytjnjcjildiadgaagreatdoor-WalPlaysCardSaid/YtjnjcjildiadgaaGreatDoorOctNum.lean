/- The walks of octet.In.Num and Text. -/
import Derived.Test.YtjnjcjildiadgaaGreatDoorOctInWalk
import Derived.Lib.ConvBytes
namespace Go.Proofs.YtjnjcjildiadgaaGreatDoor.Oct
open Go Go.RowKit Frame
theorem or_byte (n b : Nat) (hb : b < 256) : n * 256 ||| b = n * 256 + b := by
  have := Nat.two_pow_add_eq_or_of_lt (i := 8) (b := b) (by omega) n
  rw [show (256 : Nat) = 2 ^ 8 from rfl, Nat.mul_comm n, this]
theorem num_take (l : List UInt8) (k : Nat) (h : k < l.length) : num (l.take (k + 1)) = num (l.take k) * 256 + (l.getD k 0).toNat := by
  rw [List.take_succ_eq_append_getElem h, num_snoc]
  simp [List.getD_eq_getElem?_getD, h]
set_option maxRecDepth 100000 in
set_option maxHeartbeats 1000000 in
theorem Num_calls (b : Nat) (q : St) (n : Int) (hl : q.1.length ≤ maxLen) (w : World) (h : At b q w) :
    Calls Tryz.prog 67 #[.pointer (some ⟨b, 0, none⟩), .int .i64 n] w fun e w' => e = .returned (.int .u64 ((inum q n).1 : Int)) ∧ At b (inum q n).2 w' ∧ Only b w w' := by
  have HA := Lib.hid h
  clear h
  have hr8 : (raw q (min n 8)).1.length ≤ 8 := by have := raw_length q (min n 8); omega
  have HE := Lib.hid (show inum q n = (num (raw q (min n 8)).1, (raw q (min n 8)).2) from rfl)
  have hcv := fun W s => Lib.run_convert_string_bytes (P := Tryz.prog) W 9 54 5 s (u := .string) Tryz.underlying9 Tryz.underlying54 Tryz.underlying5
  by_cases h8 : (8 : Int) < n
  all_goals
    first | rw [show min n 8 = 8 by omega] at * | rw [show min n 8 = n by omega] at *
    go_enter Tryz.func67, Tryz.ntmps67
    go_wp2_with fail
    refine (Raw_calls b q _ hl _ HA.out).mono ?_
    rintro e w1 ⟨rfl, h4, h5⟩
    have H4 := Lib.hid h4
    clear h4
    generalize raw q _ = r at *
    have hsz : (bs r.1).size = r.1.length := bs_size r.1
    have H5 := Lib.hid h5
    have hb2 : Below w1.heap.size w1 (Lib.bytesWorld w1 5 (bs r.1)) := ⟨rfl, rfl, rfl, by rw [Lib.bytesWorld_size]; omega, fun j hj => Lib.bytesWorld_at_old w1 _ _ j hj⟩
    have hcell : ∀ j, j < r.1.length → (Lib.bytesWorld w1 5 (bs r.1)).cell? ⟨w1.heap.size, j, none⟩ = some (.int .u8 (r.1.getD j 0).toNat) := fun j hj => by
      rw [Lib.bytesWorld_cell w1 _ _ j (by rw [bs_size]; exact hj), bs_toList]
    have HB := Lib.hid hb2
    have HC := Lib.hid hcell
    clear h5 hb2 hcell
    go_wp2_with fail
    clear hcv hsz
    generalize Lib.bytesWorld w1 5 (bs r.1) = w2 at *
    go_loop [5, 14] (fun x i => ∃ k : Nat, k ≤ r.1.length ∧ i = .int .i64 k ∧ x = .int .u64 ((num (r.1.take k) : Nat) : Int)) (fun _ i => r.1.length - (intOf i).toNat)
    case atStart => exact ⟨0, by omega, rfl, by simp [num]⟩
    case round =>
      obtain ⟨k, hk, rfl, rfl⟩ := hrel
      by_cases hlt : k < r.1.length
      · have HN := Lib.hid (num_take r.1 k hlt)
        have hck := HC.out k hlt
        have hx : num (r.1.take k) < 72057594037927936 := by
          have h1 := num_lt (r.1.take k)
          have h2 : 256 ^ (r.1.take k).length ≤ 256 ^ 7 := Nat.pow_le_pow_right (by decide) (by simp; omega)
          have : (256 : Nat) ^ 7 = 72057594037927936 := by decide
          omega
        have hy := (r.1.getD k 0).toNat_lt
        generalize num (r.1.take k) = x at *
        generalize (r.1.getD k 0).toNat = y at *
        have e1 : bits .or .u64 ((x : Int) * 256) (y : Int) = ((x * 256 + y : Nat) : Int) := by
          rw [← or_byte x y (by omega)]
          simpa using u64_or_nat (x * 256) y (by omega) (by omega)
        go_wp2
        refine ⟨⟨k + 1, by omega, by go_num, by rw [HN.out]; go_num⟩, by simp [intOf]; omega⟩
      · obtain rfl : k = r.1.length := by omega
        rw [List.take_length]
        go_wp2
        go_ret
        rw [HE.out]
        exact ⟨rfl, (H4.out : Has _ _ _ _).below HB.out, H5.out.below HB.out⟩

end Go.Proofs.YtjnjcjildiadgaaGreatDoor.Oct
