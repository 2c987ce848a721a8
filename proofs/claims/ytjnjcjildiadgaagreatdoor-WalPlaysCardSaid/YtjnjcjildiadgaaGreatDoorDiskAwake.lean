/- Noughts; the chapter's example of disk; Light. -/
import Derived.Test.YtjnjcjildiadgaaGreatDoorDiskTwo
import Derived.Test.YtjnjcjildiadgaaGreatDoorOpen
namespace Go.Proofs.YtjnjcjildiadgaaGreatDoor.Disk
open Go Go.RowKit Frame
set_option maxHeartbeats 1000000 in
theorem Noughts_calls (n : Nat) (hn : n ≤ 1000000000) (w : World) :
    Calls Tryz.prog 23 #[.int .i64 n] w fun e w' => e = .returned (.string (Oct.bs (List.replicate n 0))) ∧ Below w.heap.size w w' := by
  have hmk := fun W => run_make_row' (P := Tryz.prog) 54 5 (.int .u8 0) 1 Tryz.underlying54 infoU8 rfl .i64 .i64 n (by omega) (by omega) W
  have hb : Lib.Bytes (w.alloc (.cells (madeCells #[.int .u8 0] n) 5)) w.heap.size 0 (Oct.bs (List.replicate n 0)) := fun i hi => by
    rw [(Has.new w _ _).cell, made_zero]
    have hi' : i < (List.replicate n (0 : UInt8)).length := by rw [← Oct.bs_size]; exact hi
    simp only [bcells, Nat.zero_add, List.getElem?_toArray, List.getElem?_map, List.getElem?_eq_getElem hi', Option.map_some]
    rfl
  have hcv := Lib.run_convert_whole (P := Tryz.prog) (w.alloc (.cells (madeCells #[.int .u8 0] n) 5)) 54 5 9 Tryz.underlying54 Tryz.underlying5 Tryz.underlying9 w.heap.size 0 (Oct.bs (List.replicate n 0)) hb n
  rw [Oct.bs_size, List.length_replicate] at hcv
  clear hb
  go_enter Tryz.func23, Tryz.ntmps23
  go_wp2
  go_ret
  exact ⟨rfl, (Below.refl _ _).alloc (Nat.le_refl _) _⟩
def ab : ByteArray := ⟨#[97, 98]⟩
theorem awake_eq : Oct.bs (done (List.replicate (64 * 2) 0) [(1, ab)] 1) = Oct.bs (List.replicate 64 0) ++ ⟨#[97]⟩ ++ Oct.bs (List.replicate 63 0) := by decide +kernel
theorem awake_wr : ans (fresh 2) 1 ab = 0 := by decide +kernel
theorem awake_down : down (wrote (fresh 2) 1 ab) 1 = { last := done (List.replicate (64 * 2) 0) [(1, ab)] 1, wait := [], on := false, armed := false, syncs := 0, cut := 0 } := by
  unfold wrote
  rw [if_pos awake_wr]
  rfl
set_option maxRecDepth 100000 in
set_option maxHeartbeats 1000000 in
theorem awake_calls (w : World) : Calls Tryz.prog 45 #[] w fun e w' => e = .returned (.bool true) ∧ Below w.heap.size w w' := by
  have hg := Good.fresh 2 (by decide)
  have HW := Lib.hid awake_wr
  have HE := Lib.hid awake_eq
  have HD := Lib.hid awake_down
  go_enter Tryz.func45, Tryz.ntmps45
  go_wp2_with fail
  refine (New_one 2 (by decide) w).mono ?_
  rintro e w1 ⟨rfl, h1, b1⟩
  go_wp2_with fail
  refine (h1.calls fun v hd => Write_any _ _ _ 2 v _ 1 ab hg (by decide) _ hd).mono ?_
  rintro e w2 ⟨rfl, h2, b2, -⟩
  rw [HW.out]
  have b2' := Lib.hid (b1.trans b2)
  clear b1 b2 h1
  go_wp2_with fail
  refine (h2.calls fun v hd => Down_calls _ _ _ 2 v _ 1 (by decide) (hg.wrote 1 ab (by decide)) _ hd).mono ?_
  rintro e w3 ⟨rfl, h3, b3, -⟩
  rw [HD.out] at h3
  have b3' := Lib.hid (b2'.out.trans b3)
  clear b3 h2 b2'
  obtain ⟨v3, h3⟩ := h3
  go_wp2_with fail
  refine (On_calls _ _ _ v3 _ _ h3).mono ?_
  rintro e w4 ⟨rfl, rfl⟩
  go_wp2_with fail
  refine (Lasts_calls _ _ _ v3 _ _ h3).mono ?_
  rintro e w4 ⟨rfl, rfl⟩
  have B3 := Lib.hid b3'.out
  clear h3 b3'
  generalize Oct.bs (done (List.replicate (64 * 2) 0) [(1, ab)] 1) = y at *
  go_wp2_with fail
  refine (Noughts_calls 64 (by decide) _).mono ?_
  rintro e w5 ⟨rfl, b5⟩
  have B5 := Lib.hid (B3.out.trans (b5.mono (B3.out.size)))
  clear b5
  have s1 : (Oct.bs (List.replicate 64 0)).size = 64 := by decide +kernel
  have s2 : (Oct.bs (List.replicate 63 0)).size = 63 := by decide +kernel
  generalize Oct.bs (List.replicate 64 0) = x1 at *
  generalize hx2 : Oct.bs (List.replicate 63 0) = x2 at *
  have HX2 := Lib.hid hx2
  clear hx2
  have S1 : x1.size ≤ 64 := by omega
  have S2 : x2.size ≤ 63 := by omega
  clear s1 s2
  go_wp2_with fail
  refine (Noughts_calls 63 (by decide) _).mono ?_
  rintro e w6 ⟨rfl, b6⟩
  rw [HX2.out]
  have B6 := Lib.hid (B5.out.trans (b6.mono (B5.out.size)))
  clear b6
  go_wp2_with fail
  go_ret
  refine ⟨?_, B6.out⟩
  simp [HE.out]
end Go.Proofs.YtjnjcjildiadgaaGreatDoor.Disk
