/- The walk of SegFalls. -/
import Derived.Test.YtopacbmdoognjaaDoorSegJoins
import Derived.Test.YtopacbmdoognjaaDoorDiskAwake
namespace Go.Proofs.YtopacbmdoognjaaDoor.Sg
open Go Go.RowKit Frame Oct Frm
theorem drop_cons (l : List (List UInt8)) (k : Nat) (h : k < l.length) : l.drop k = l.getD k [] :: l.drop (k + 1) := by
  rw [List.drop_eq_getElem_cons h]
  simp [List.getD_eq_getElem?_getD, h]
theorem whole_take (l : List (List UInt8)) (cut k : Nat) (h : k < l.length) (hc : used (l.take k) + ((l.getD k []).length + 9) ≤ cut) (hw : whole l cut = l.take k ++ whole (l.drop k) (cut - used (l.take k))) :
    whole l cut = l.take (k + 1) ++ whole (l.drop (k + 1)) (cut - used (l.take (k + 1))) := by
  rw [hw, take_succ_getD l k h, used_snoc, drop_cons l k h, whole, if_pos (by omega), List.append_assoc]
  congr 3
  omega
theorem whole_stop (l : List (List UInt8)) (cut k : Nat) (h : k < l.length) (hc : cut < used (l.take k) + ((l.getD k []).length + 9)) (hu : used (l.take k) ≤ cut) (hw : whole l cut = l.take k ++ whole (l.drop k) (cut - used (l.take k))) :
    whole l cut = l.take k := by
  rw [hw, drop_cons l k h, whole, if_neg (by omega), List.append_nil]
theorem whole_end (l : List (List UInt8)) (cut : Nat) (hw : whole l cut = l.take l.length ++ whole (l.drop l.length) (cut - used (l.take l.length))) : whole l cut = l.take l.length := by
  rw [hw, List.drop_length, whole, List.append_nil]
set_option maxRecDepth 100000 in
set_option maxHeartbeats 4000000 in
theorem SegFalls_walk (A : Option Addr) (c : Nat) (l : List (List UInt8)) (cut nt : Int) (hlc : l.length ≤ c) (hc : c ≤ maxLen) (h1 : -9223372036854775808 ≤ cut ∧ cut ≤ 9223372036854775807) (h2 : -9223372036854775808 ≤ nt ∧ nt ≤ 9223372036854775807) (w : World) (hT : Crc.Tab w) (hA : SS A l w) :
    Calls Tryd.prog 13 #[.slice A l.length c, .int .i64 cut, .int .i64 nt] w fun e w' => e = .returned (.bool true) ∧ Below w.heap.size w w' := by
  unfold maxLen at hc
  have HT := Lib.hid hT
  have HA := Lib.hid hA
  clear hT hA
  go_enter Tryd.func13, Tryd.ntmps13
  go_wp2_with fail
  refine (awake_calls _ HT.out).mono ?_
  rintro e w1 ⟨rfl, b1⟩
  have HT1 := Lib.hid (HT.out.below b1)
  have HA1 := Lib.hid (HA.out.below b1)
  have B1 := Lib.hid b1
  clear b1 HT HA
  go_wp2_with fail
  refine (Light_calls A c l _ HA1.out (by unfold maxLen; omega)).mono ?_
  rintro e w2 ⟨rfl, b2⟩
  have HT2 := Lib.hid (HT1.out.below b2)
  have HA2 := Lib.hid (HA1.out.below b2)
  have B2 := Lib.hid (bthen B1.out b2)
  clear b2 HT1 HA1
  rcases Bool.eq_false_or_eq_true (lightB l) with hL | hL
  · rw [hL]
    obtain ⟨h12, h400⟩ := light_iff hL
    have H4 := Lib.hid h400
    clear hL h400
    by_cases hn0 : nt < 0
    · go_wp2_with fail
      go_ret
      exact ⟨rfl, B2.out⟩
    · by_cases hn6 : 600 < nt
      · go_wp2_with fail
        go_ret
        exact ⟨rfl, B2.out⟩
      · obtain ⟨n, rfl⟩ := Int.eq_ofNat_of_zero_le (show 0 ≤ nt by omega)
        have HY := Lib.hid (fun W h1 h2 => Bytes_calls A c l (by omega) W h1 h2)
        have hu := used_le l 400 H4.out
        have HBC := Lib.hid (bytes_cases l)
        have HCL := Lib.hid (cat_length l)
        generalize hba : bytes l = ba at *
        obtain ⟨s, e⟩ := ba
        have HBC := Lib.hid (HBC.out s e rfl)
        clear hba
        simp only at HY
        go_wp2_with fail
        refine (HY.out _ HT2.out HA2.out).mono ?_
        rintro e0 w4 ⟨rfl, b4⟩
        have HT4 := Lib.hid (HT2.out.below b4)
        have HA4 := Lib.hid (HA2.out.below b4)
        have B4 := Lib.hid (bthen B2.out b4)
        clear b4 HT2 HA2
        rcases HBC.out with ⟨he, rfl⟩ | ⟨rfl, rfl, hea⟩
        · have he1 : (e != 0) = true := by simpa using he
          clear he
          go_wp2_with fail
          go_ret
          exact ⟨rfl, B4.out⟩
        · have hza : (bs (cat l)).size = used l := by rw [bs_size, HCL.out]
          obtain ⟨q, hq⟩ : ∃ q : Nat, max 0 (min cut (used l : Int)) = (q : Int) := ⟨(max 0 (min cut (used l : Int))).toNat, by omega⟩
          have hql : q ≤ used l := by omega
          have HFA := Lib.hid (scan_falls l hea n q)
          have HSZ := Lib.hid (fun r h W => Size_calls r h W)
          clear hea
          go_wp2_with fail
          go_loop [9, 10] (fun m i => ∃ k : Nat, k ≤ l.length ∧ i = .int .i64 k ∧ m = .int .i64 (used (l.take k) : Nat) ∧ used (l.take k) ≤ q ∧ Hid (whole l q = l.take k ++ whole (l.drop k) (q - used (l.take k)))) (fun _ i => l.length - (intOf i).toNat)
          case atStart => exact ⟨0, by omega, rfl, rfl, Nat.zero_le _, Lib.hid rfl⟩
          case round =>
            obtain ⟨k, hk, rfl, rfl, hm, hW⟩ := hrel
            have fin : Hid (∀ m : Nat, whole l q = l.take k → True) := Lib.hid (fun _ _ => trivial)
            by_cases hlt : k < l.length
            · obtain ⟨b, off, rfl, hbl, hi⟩ := HA4.out (by omega)
              have c0 := hi k hlt
              clear hi fin
              have HS := Lib.hid (used_snoc (l.take k) (l.getD k []))
              rw [← take_succ_getD l k hlt] at HS
              have h4 := H4.out _ (getD_mem l k hlt)
              have HWT := Lib.hid (fun h => whole_take l q k hlt h hW.out)
              have HWS := Lib.hid (fun h => whole_stop l q k hlt h hm hW.out)
              have HTK := Lib.hid (show (l.take k).length = k by simp; omega)
              generalize l.getD k [] = x at *
              have hzx : (bs x).size = x.length := bs_size _
              by_cases hfit : used (l.take k) + (x.length + 9) ≤ q
              · have HW2 := Lib.hid (HWT.out hfit)
                clear HWT HWS hW HFA
                generalize used (l.take k) = m at *
                go_wp2_with fail
                refine (HSZ.out x (by omega) _).mono ?_
                rintro e w5 ⟨rfl, rfl⟩
                go_wp2_with fail
                refine (HSZ.out x (by omega) _).mono ?_
                rintro e w5 ⟨rfl, rfl⟩
                go_wp2_with fail
                exact ⟨⟨k + 1, by omega, by go_num, by rw [HS.out]; go_num, by rw [HS.out]; omega, HW2⟩, by simp [intOf]; omega⟩
              · have HW2 := Lib.hid (HWS.out (by omega))
                have HFB := Lib.hid (HFA.out.trans HW2.out)
                clear HWT HWS hW HFA HW2
                have HNG := Lib.hid (fun W => Disk.Noughts_calls n (by omega) W)
                have hlt5 : (((cat l).take q) ++ List.replicate n 0).length ≤ 100000 := by rw [List.length_append, List.length_take, HCL.out, List.length_replicate]; omega
                have HSC := Lib.hid (fun W h => Scan_calls (((cat l).take q) ++ List.replicate n 0) (by omega) W h)
                rw [HFB.out] at HSC
                obtain ⟨m, hmm⟩ : ∃ m, used (l.take k) = m := ⟨_, rfl⟩
                rw [hmm] at hm hfit HS HSC ⊢
                clear hmm
                go_wp2_with fail
                refine (HSZ.out x (by omega) _).mono ?_
                rintro e w5 ⟨rfl, rfl⟩
                go_wp2_with fail
                have hxt : (bs (cat l)).extract 0 q = bs ((cat l).take q) := extract_to _ _
                have hap : bs ((cat l).take q) ++ bs (List.replicate n 0) = bs ((cat l).take q ++ List.replicate n 0) := bs_append _ _
                have hz1 : (bs ((cat l).take q)).size = q := by rw [bs_size, List.length_take, HCL.out]; omega
                have hz2 : (bs (List.replicate n (0 : UInt8))).size = n := by rw [bs_size, List.length_replicate]
                have hcc : q + n ≤ 9223372036854775807 := by omega
                have hcc3 : ¬ (9223372036854775807 < q + n) := by omega
                have gl : (q : Int) ≤ (used l : Int) := by omega
                have g0 : (0 : Int) ≤ (q : Int) := by omega
                have HBC2 := HBC
                clear HBC HBC2
                generalize (cat l).take q ++ List.replicate n 0 = cz at *
                generalize (cat l).take q = cq at *
                generalize bs (List.replicate n (0 : UInt8)) = zs at *
                generalize bs (cat l) = bl at *
                go_region_held3 (fun _ => True) (trivial)
                  (first
                    | (go_at_call 33; refine (HNG.out _).mono ?_; rintro e w5 ⟨rfl, b5⟩; have HT5 := Lib.hid (HT4.out.below (after_drew b5)))
                    | (go_at_call 40; refine (HSC.out _ HT5.out).mono ?_; rintro e w6 ⟨v6, rfl, hv6, b6⟩))
                have HA6 := Lib.hid ((HA4.out.below (after_drew b5)).below b6)
                have B6 := Lib.hid (bthen (bthen B4.out (after_drew b5)) b6)
                clear b5 b6
                obtain ⟨A6, c6, rfl, -, -, -, -, hs6⟩ := hv6
                have S6 := Lib.hid hs6
                clear hs6
                have HTL := HTK.out
                rw [HTL]
                have HSM := Lib.hid (fun C m D d W h1 h2 => Same_calls C D m d (l.take k) (l.take k) (by rw [HTL]; unfold maxLen; omega) (by rw [HTL]; unfold maxLen; omega) W h1 h2)
                rw [show decide (l.take k = l.take k) = true by simp, HTL] at HSM
                clear HTL
                go_wp2_with fail
                refine (HSM.out _ _ _ _ _ S6.out (HA6.out.take k)).mono ?_
                rintro e w7 ⟨rfl, b7⟩
                have B7 := Lib.hid (bthen B6.out b7)
                clear b7
                go_wp2_with fail
                go_ret
                exact ⟨rfl, B7.out⟩
            · obtain rfl : k = l.length := by omega
              have HFB := Lib.hid (HFA.out.trans (whole_end l q hW.out))
              have HTK := Lib.hid (show (l.take l.length).length = l.length by simp)
              clear fin hW HFA
              generalize hkk : l.length = k at *
              have HNG := Lib.hid (fun W => Disk.Noughts_calls n (by omega) W)
              have hlt5 : (((cat l).take q) ++ List.replicate n 0).length ≤ 100000 := by rw [List.length_append, List.length_take, HCL.out, List.length_replicate]; omega
              have HSC := Lib.hid (fun W h => Scan_calls (((cat l).take q) ++ List.replicate n 0) (by omega) W h)
              rw [HFB.out] at HSC
              obtain ⟨m, hmm⟩ : ∃ m, used (l.take k) = m := ⟨_, rfl⟩
              rw [hmm] at hm HSC ⊢
              clear hmm hkk
              go_wp2_with fail
              have hxt : (bs (cat l)).extract 0 q = bs ((cat l).take q) := extract_to _ _
              have hap : bs ((cat l).take q) ++ bs (List.replicate n 0) = bs ((cat l).take q ++ List.replicate n 0) := bs_append _ _
              have hz1 : (bs ((cat l).take q)).size = q := by rw [bs_size, List.length_take, HCL.out]; omega
              have hz2 : (bs (List.replicate n (0 : UInt8))).size = n := by rw [bs_size, List.length_replicate]
              have hcc : q + n ≤ 9223372036854775807 := by omega
              have hcc3 : ¬ (9223372036854775807 < q + n) := by omega
              have gl : (q : Int) ≤ (used l : Int) := by omega
              have g0 : (0 : Int) ≤ (q : Int) := by omega
              have HBC2 := HBC
              clear HBC HBC2
              generalize (cat l).take q ++ List.replicate n 0 = cz at *
              generalize (cat l).take q = cq at *
              generalize bs (List.replicate n (0 : UInt8)) = zs at *
              generalize bs (cat l) = bl at *
              go_region_held3 (fun _ => True) (trivial)
                (first
                  | (go_at_call 33; refine (HNG.out _).mono ?_; rintro e w5 ⟨rfl, b5⟩; have HT5 := Lib.hid (HT4.out.below (after_drew b5)))
                  | (go_at_call 40; refine (HSC.out _ HT5.out).mono ?_; rintro e w6 ⟨v6, rfl, hv6, b6⟩))
              have HA6 := Lib.hid ((HA4.out.below (after_drew b5)).below b6)
              have B6 := Lib.hid (bthen (bthen B4.out (after_drew b5)) b6)
              clear b5 b6
              obtain ⟨A6, c6, rfl, -, -, -, -, hs6⟩ := hv6
              have S6 := Lib.hid hs6
              clear hs6
              have HTL := HTK.out
              rw [HTL]
              have HSM := Lib.hid (fun C m D d W h1 h2 => Same_calls C D m d (l.take k) (l.take k) (by rw [HTL]; unfold maxLen; omega) (by rw [HTL]; unfold maxLen; omega) W h1 h2)
              rw [show decide (l.take k = l.take k) = true by simp, HTL] at HSM
              clear HTL
              go_wp2_with fail
              refine (HSM.out _ _ _ _ _ S6.out (HA6.out.take k)).mono ?_
              rintro e w7 ⟨rfl, b7⟩
              have B7 := Lib.hid (bthen B6.out b7)
              clear b7
              go_wp2_with fail
              go_ret
              exact ⟨rfl, B7.out⟩
  · rw [hL]
    go_wp2_with fail
    go_ret
    exact ⟨rfl, B2.out⟩
end Go.Proofs.YtopacbmdoognjaaDoor.Sg
