/- The walks of wal: headOf, fail, put. -/
import Derived.Test.YtjnjcjildiadgaaDoorWalWalk
import Derived.Test.YtjnjcjildiadgaaDoorShelf
import Derived.Deep.RegionHeld3
namespace Go.Proofs.YtjnjcjildiadgaaDoor.Wl
open Go Go.RowKit Frame Oct Disk
theorem Repeat_0 (c : Nat) (hc : c ≤ 1000000) (w : World) :
    Calls Tryd.prog 52 #[.string ⟨#[0]⟩, .int .i64 (c : Int)] w fun e w' => e = .returned (.string (bs (noughts c))) ∧ Below w.heap.size w w' := by
  rcases Nat.lt_or_ge c 2 with h | h
  · have h' : c = 0 ∨ c = 1 := by omega
    rcases h' with rfl | rfl
    · exact (Tryd.strings_Repeat_zero _ w).mono fun e w' ⟨he, hw⟩ => ⟨he, by rw [hw]; exact Below.refl _ _⟩
    · exact (Tryd.strings_Repeat_one _ w).mono fun e w' ⟨he, hw⟩ => ⟨he, by rw [hw]; exact Below.refl _ _⟩
  · refine (Tryd.strings_Repeat_main ⟨#[0]⟩ c w h (by omega) (by show 1 * c ≤ _; omega) (by decide)).mono fun e w' ⟨he, hw⟩ => ⟨?_, hw⟩
    rw [he]
    congr 3
    have : ∀ n, Lib.repeatL [(0 : UInt8)] n = List.replicate n 0 := by
      intro n
      induction n with
      | zero => rfl
      | succ n ih => rw [List.replicate_succ, ← ih]; rfl
    exact congrArg List.toArray (this c)
theorem after_drew' {w w1 : World} (hb : Below w.drew.heap.size w.drew w1) : Below w.heap.size w w1 := ⟨hb.os, hb.tape, hb.output, hb.size, hb.block⟩
set_option maxRecDepth 100000 in
set_option maxHeartbeats 1000000 in
theorem headOf_calls (g : Nat) (w : World) (hT : Crc.Tab w) :
    Calls Tryd.prog 40 #[.int .u64 (g : Int)] w fun e w' => e = .returned (.string (bs (headOf g))) ∧ Below w.heap.size w w' := by
  have HR := Lib.hid (fun W => Sg.raw_any [] [83, 84, 82, 87] (by simp) (by simp) W)
  have HN := Lib.hid (fun W => Sg.num_any [83, 84, 82, 87] (by simp) g 8 (by decide) W)
  rw [List.nil_append] at HR
  rw [show (8 : Int).toNat = 8 from rfl, show [83, 84, 82, 87] ++ be 8 g = hd g from rfl] at HN
  have hfl : (hd g).length ≤ 2000000 := by rw [hd_length]; omega
  have HT := Lib.hid hT
  have HBY := Lib.hid (show headOf g = hd g ++ (be 4 (Crc.sum (hd g)) ++ [165]) from rfl)
  clear hT
  generalize hd g = fr at *
  go_enter Tryd.func40, Tryd.ntmps40
  go_wp2_with fail
  refine (HR.out _).mono ?_
  rintro e w1 ⟨rfl, b1⟩
  have B1 := Lib.hid b1
  go_wp2_with fail
  refine (HN.out _).mono ?_
  rintro e w3 ⟨rfl, b3⟩
  have B3 := Lib.hid (bthen B1.out b3)
  clear b1 b3 B1
  go_wp2_with fail
  have HO4 := Lib.hid (Has.new w3 #[.string (bs fr), .int .i64 0] 85)
  have HB4 := Lib.hid (B3.out.alloc B3.out.size (.cells #[.string (bs fr), .int .i64 0] 85))
  have HT4 := Lib.hid (HT.out.below HB4.out)
  generalize w3.alloc (.cells #[.string (bs fr), .int .i64 0] 85) = w4 at *
  generalize w3.heap.size = p at *
  have HO5 := Lib.hid HO4.out.drew
  have y0 : w4.drew.cell? ⟨p, 0, none⟩ = some (.string (bs fr)) := HO5.out.cell 0
  have y1 : w4.drew.cell? ⟨p, 1, none⟩ = some (.int .i64 0) := HO5.out.cell 1
  have hsl := Crc.sum_lt fr
  have g3 : IntKind.u64.wrap ((Crc.sum fr : Nat) : Int) = ((Crc.sum fr : Nat) : Int) := IntWalk.u64_in _ (by omega)
  have HM4 := Lib.hid (fun W => Sg.num_any fr (by omega) (Crc.sum fr) 4 (by decide) W)
  have HM1 := Lib.hid (fun W => Sg.num_any (fr ++ be 4 (Crc.sum fr)) (by simp [be_length]; omega) 165 1 (by decide) W)
  rw [show (4 : Int).toNat = 4 from rfl] at HM4
  rw [show be (1 : Int).toNat 165 = [165] from rfl] at HM1
  have HST := Lib.hid (fun W => OutString_calls (bs fr) 0 W)
  have HSE := Lib.hid (fun W => OutString_calls (bs (fr ++ (be 4 (Crc.sum fr) ++ [165]))) 0 W)
  have tok2 : True := trivial
  have tok3 : True := trivial
  go_region_held3 (fun w' => w'.cell? ⟨p, 0, none⟩ = some (.string (bs fr)) ∧ w'.cell? ⟨p, 1, none⟩ = some (.int .i64 0))
    (first
      | with_reducible exact Frm.two HO5.out
      | with_reducible exact Frm.two (HO5.out.below b5)
      | with_reducible exact Frm.two ((HO5.out.below b5).alloc (.cells #[.string (bs fr)] 9))
      | with_reducible exact Frm.two (((HO5.out.below b5).alloc (.cells #[.string (bs fr)] 9)).below b7)
      | with_reducible exact Frm.two ((((HO5.out.below b5).alloc (.cells #[.string (bs fr)] 9)).below b7).below b8)
      | with_reducible exact Frm.two (((((HO5.out.below b5).alloc (.cells #[.string (bs fr)] 9)).below b7).below b8).below b9))
    (first
      | (go_at_call 56; refine (Frm.Sum_one w5.heap.size fr (by unfold maxLen; omega) _ ((HT4.out.below (after_drew' b5)).below ((Below.refl _ _).alloc (Nat.le_refl _) _)) ((Has.new w5 _ _).cell 0)).mono ?_; rintro e w6 ⟨rfl, rfl⟩)
      | (go_at_call 57; have _t := tok2; refine (HST.out _).mono ?_; rintro e w5 ⟨rfl, b5⟩; clear _t tok2)
      | (go_at_call 55; have _t := tok3; refine (HM4.out _).mono ?_; rintro e w7 ⟨rfl, b7⟩; clear _t tok3)
      | (go_at_call 55; refine (HM1.out _).mono ?_; rintro e w8 ⟨rfl, b8⟩)
      | (go_at_call 57; refine (HSE.out _).mono ?_; rintro e w9 ⟨rfl, b9⟩))
  have Q9 := Lib.hid (bthen (bthen (bthen (bthen HB4.out (after_drew' b5)) (after_alloc b7)) b8) b9)
  clear b5 b7 b8 b9
  go_wp2_with fail
  go_ret
  exact ⟨by rw [HBY.out]; rfl, Q9.out⟩
set_option maxHeartbeats 1000000 in
theorem fail_calls (B p d L : Nat) (s : DSt) (l : LSt) (x : Int) (w0 w : World) (h : WD B p d L s l w0 w) :
    Calls Tryd.prog 53 #[.pointer (some ⟨p, 0, none⟩), .int .i64 x] w fun e w' => e = .returned (.int .i64 x) ∧ WD B p d L s (brk l) w0 w' := by
  have c3 := h.lg.c3
  have c4 := h.lg.c4
  have f3 := Has.frozen h.lg 3
  have f4 := Has.frozen h.lg 4
  have HX := Lib.hid (show WD B p d L s (brk l) w0 _ from ((WP.set h 3 (.bool false)).set 4 (.bool true)))
  clear h
  go_enter Tryd.func53, Tryd.ntmps53
  go_wp2
  go_ret
  exact ⟨rfl, HX.out⟩
end Go.Proofs.YtjnjcjildiadgaaDoor.Wl
