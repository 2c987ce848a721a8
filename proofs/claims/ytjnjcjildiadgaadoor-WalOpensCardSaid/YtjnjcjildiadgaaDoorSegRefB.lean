/- The walks of stairwellref16: Next, Scan, Same. -/
import Derived.Test.YtjnjcjildiadgaaDoorSegRef
import Derived.Deep.QuietTactic
import Derived.BigQuiet
namespace Go.Proofs.YtjnjcjildiadgaaDoor.Sg
open Go Go.RowKit Frame Oct Frm
theorem num_take_succ (l : List UInt8) (k : Nat) (h : k < l.length) : num (l.take (k + 1)) = num (l.take k) * 256 + (l.getD k 0).toNat := by
  rw [List.take_succ_eq_append_getElem h, num_snoc]
  simp [List.getD_eq_getElem?_getD, h]
theorem num_take_lt (l : List UInt8) (k : Nat) (h : k < 4) : num (l.take k) < 16777216 := by
  have h1 := num_lt (l.take k)
  have h2 : (l.take k).length ≤ 3 := by simp; omega
  have h3 : 256 ^ (l.take k).length ≤ 256 ^ 3 := Nat.pow_le_pow_right (by decide) h2
  have : (256 : Nat) ^ 3 = 16777216 := by decide
  omega
set_option maxRecDepth 100000 in
set_option maxHeartbeats 4000000 in
theorem refNext_calls (l : List UInt8) (hl : l.length ≤ 1000000000) (w : World) :
    Calls Tryd.prog 66 #[.string (bs l)] w fun e w' => e = .returned (.tuple #[.string (bs (next l).1), .int .i64 (next l).2.1, .int .i64 (next l).2.2]) ∧ Below w.heap.size w w' := by
  have hzl : (bs l).size = l.length := bs_size _
  by_cases h4 : l.length < 4
  · have HE := Lib.hid (show next l = ([], 0, 3) by unfold next; rw [if_pos h4])
    go_enter Tryd.func66, Tryd.ntmps66
    go_wp2_with fail
    go_ret3
    rw [HE.out]
    exact ⟨rfl, Below.refl _ _⟩
  · go_enter Tryd.func66, Tryd.ntmps66
    go_wp2_with fail
    go_loop [5, 6] (fun n k => ∃ j : Nat, j ≤ 4 ∧ k = .int .i64 j ∧ n = .int .i64 (num (l.take j) : Nat)) (fun _ k => 4 - (intOf k).toNat)
    case atStart => exact ⟨0, by omega, rfl, rfl⟩
    case round =>
      obtain ⟨j, hj, rfl, rfl⟩ := hrel
      by_cases hlt : j < 4
      · have HS := Lib.hid (num_take_succ l j (by omega))
        have hb := num_take_lt l j hlt
        have q := idx l (j : Int) j rfl (by omega)
        have hu := (l.getD j 0).toNat_lt
        generalize (l.getD j 0).toNat = c at *
        generalize num (l.take j) = m at *
        go_wp2_with fail
        exact ⟨⟨j + 1, by omega, by go_num, by rw [HS.out]; go_num⟩, by simp [intOf]; omega⟩
      · obtain rfl : j = 4 := by omega
        have hnl := len_lt l
        have hp : next l = if len l = 0 then ([], 0, 15) else if 131072 < len l then ([], 0, 5) else if l.length < len l + 9 then ([], 0, 3)
          else if l.getD (len l + 8) 0 ≠ 165 then ([], 0, 4) else if (l.drop (len l + 4)).take 4 ≠ be 4 (Crc.sum (l.take (len l + 4))) then ([], 0, 14)
          else ((l.drop 4).take (len l), len l + 9, 0) := by unfold next; rw [if_neg h4]
        have HP := Lib.hid hp
        have HI := Lib.hid (one_eq_iff l)
        clear hp
        rw [show num (l.take 4) = len l from rfl]
        generalize len l = n at *
        by_cases h0 : n = 0
        · subst h0
          have HE := Lib.hid (HP.out.trans (if_pos rfl))
          go_wp2_with fail
          go_ret3
          rw [HE.out]
          exact ⟨rfl, Below.refl _ _⟩
        · have h0' : ((n : Int) == 0) = false := by simp; omega
          have HP1 := Lib.hid (HP.out.trans (if_neg h0))
          clear HP h0
          by_cases h5 : 131072 < n
          · have HE := Lib.hid (HP1.out.trans (if_pos h5))
            go_wp2_with fail
            go_ret3
            rw [HE.out]
            exact ⟨rfl, Below.refl _ _⟩
          · have HP2 := Lib.hid (HP1.out.trans (if_neg h5))
            clear HP1
            by_cases h9 : l.length < n + 9
            · have HE := Lib.hid (HP2.out.trans (if_pos h9))
              go_wp2_with fail
              go_ret3
              rw [HE.out]
              exact ⟨rfl, Below.refl _ _⟩
            · have HP3 := Lib.hid (HP2.out.trans (if_neg h9))
              clear HP2
              have q8 := idx l ((n : Int) + 8) (n + 8) (by omega) (by omega)
              by_cases h6 : l.getD (n + 8) 0 ≠ 165
              · have HE := Lib.hid (HP3.out.trans (if_pos h6))
                have h6' : (((l.getD (n + 8) 0).toNat : Int) != 165) = true := by
                  have : (l.getD (n + 8) 0).toNat ≠ 165 := fun e => h6 (UInt8.toNat_inj.1 e)
                  exact bne_iff_ne.2 (by omega)
                clear h6 HI
                generalize (l.getD (n + 8) 0).toNat = c8 at *
                go_wp2_with fail
                go_ret3
                rw [HE.out]
                exact ⟨rfl, Below.refl _ _⟩
              · have HP4 := Lib.hid (HP3.out.trans (if_neg h6))
                have h65 : l.getD (n + 8) 0 = 165 := by simpa using h6
                have hiff := Lib.hid (HI.out (by omega) h65)
                have h6' : (((l.getD (n + 8) 0).toNat : Int) != 165) = false := by
                  rw [h65]
                  decide
                clear h6 HP3 h65 HI
                generalize (l.getD (n + 8) 0).toNat = c8 at *
                have x1 : (bs l).extract 4 (n + 4) = bs ((l.drop 4).take n) := by rw [Nat.add_comm n 4]; exact ba_ext (by simp [bs])
                have x1' : (bs l).extract 4 (4 + n) = bs ((l.drop 4).take n) := ba_ext (by simp [bs])
                have x2 : (bs l).extract 0 (n + 9) = bs (l.take (n + 9)) := extract_to _ _
                have HO := Lib.hid (fun W => refOne_calls ((l.drop 4).take n) (by simp only [List.length_take, List.length_drop]; omega) W)
                have hlo : ((l.drop 4).take n).length = n := by simp; omega
                have g1 : (4 : Int) ≤ 4 + (n : Int) := by omega
                have g2 : 4 + (n : Int) ≤ (l.length : Int) := by omega
                have g3 : (4 + (n : Int)).toNat = 4 + n := by omega
                have g4 : IntKind.i64.wrap (4 + (n : Int)) = 4 + (n : Int) := IntWalk.i64_in _ (by omega)
                have g5 : (0 : Int) ≤ (n : Int) + 9 := by omega
                have g6 : (n : Int) + 9 ≤ (l.length : Int) := by omega
                have g7 : ((n : Int) + 9).toNat = n + 9 := by omega
                have g8 : IntKind.i64.wrap ((n : Int) + 9) = (n : Int) + 9 := IntWalk.i64_in _ (by omega)
                go_wp2_with fail
                by_cases hc : (l.drop (n + 4)).take 4 = be 4 (Crc.sum (l.take (n + 4)))
                · have HE := Lib.hid (HP4.out.trans (if_neg (fun h => h hc)))
                  have hc2 : ((bs (one ((l.drop 4).take n))).toList == (bs (l.take (n + 9))).toList) = true := by rw [bs_beq, hiff.out.2 hc]; simp
                  clear hc
                  go_region_held3 (fun _ => True) (trivial)
                    (first
                      | (go_at_call 78; refine (HO.out _).mono ?_; rintro e w2 ⟨rfl, b2⟩))
                  have HB2 := Lib.hid (after_drew b2)
                  clear b2
                  go_wp2_with fail
                  go_ret3
                  rw [HE.out]
                  exact ⟨rfl, HB2.out⟩
                · have HE := Lib.hid (HP4.out.trans (if_pos hc))
                  have hc2 : ((bs (one ((l.drop 4).take n))).toList == (bs (l.take (n + 9))).toList) = false := by
                    rw [bs_beq]
                    exact beq_eq_false_iff_ne.2 (fun e => hc (hiff.out.1 e))
                  clear hc
                  go_region_held3 (fun _ => True) (trivial)
                    (first
                      | (go_at_call 78; refine (HO.out _).mono ?_; rintro e w2 ⟨rfl, b2⟩))
                  have HB2 := Lib.hid (after_drew b2)
                  clear b2
                  go_wp2_with fail
                  go_ret3
                  rw [HE.out]
                  exact ⟨rfl, HB2.out⟩
end Go.Proofs.YtjnjcjildiadgaaDoor.Sg
