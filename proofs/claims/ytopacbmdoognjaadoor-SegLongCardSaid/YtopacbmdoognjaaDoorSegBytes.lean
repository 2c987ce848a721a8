/- The walks of total and SegBytes. -/
import Derived.Test.YtopacbmdoognjaaDoorSegS
namespace Go.Proofs.YtopacbmdoognjaaDoor.Sg
open Go Go.RowKit Frame Oct Frm
/-- How many bytes records have. -/
def many (l : List (List UInt8)) : Nat := (l.map List.length).sum
theorem many_snoc (a : List (List UInt8)) (r : List UInt8) : many (a ++ [r]) = many a + r.length := by simp [many]
theorem used_many (l : List (List UInt8)) : used l = l.length * 9 + many l := by
  induction l with
  | nil => rfl
  | cons r l ih => simp only [used, ih, List.length_cons, many, List.map_cons, List.sum_cons]; omega
theorem used_le (l : List (List UInt8)) (m : Nat) (hl : ∀ r ∈ l, r.length ≤ m) : used l ≤ l.length * (m + 9) := by
  have := used_take_le l m hl l.length
  rwa [List.take_length] at this
set_option maxRecDepth 100000 in
set_option maxHeartbeats 1000000 in
theorem total_calls (A : Option Addr) (c : Nat) (l : List (List UInt8)) (hl : l.length ≤ 12) (h4 : ∀ r ∈ l, r.length ≤ 400) (w : World) (hA : SS A l w) :
    Calls Tryd.prog 39 #[.slice A l.length c] w fun e w' => e = .returned (.int .i64 (many l : Nat)) ∧ w' = w := by
  have HA := Lib.hid hA
  have H4 := Lib.hid h4
  clear hA h4
  go_enter Tryd.func39, Tryd.ntmps39
  go_wp2
  go_loop [3, 8] (fun n i => ∃ k : Nat, k ≤ l.length ∧ i = .int .i64 k ∧ n = .int .i64 (many (l.take k) : Nat) ∧ many (l.take k) ≤ k * 400) (fun _ i => l.length - (intOf i).toNat)
  case atStart => exact ⟨0, by omega, rfl, rfl, Nat.le_refl _⟩
  case round =>
    obtain ⟨k, hk, rfl, rfl, hm⟩ := hrel
    by_cases hlt : k < l.length
    · obtain ⟨b, off, rfl, hbl, hi⟩ := HA.out (by omega)
      have c0 := hi k hlt
      clear hi
      have HS := Lib.hid (many_snoc (l.take k) (l.getD k []))
      rw [← take_succ_getD l k hlt] at HS
      have h4 := H4.out _ (getD_mem l k hlt)
      generalize l.getD k [] = x at *
      have hz : (bs x).size = x.length := bs_size _
      generalize many (l.take k) = m at *
      go_wp2
      exact ⟨⟨k + 1, by omega, by go_num, by rw [HS.out]; go_num, by rw [HS.out]; omega⟩, by simp [intOf]; omega⟩
    · obtain rfl : k = l.length := by omega
      rw [List.take_length]
      go_wp2
      go_ret
      exact ⟨rfl, rfl⟩
set_option maxRecDepth 100000 in
set_option maxHeartbeats 4000000 in
theorem SegBytes_walk (A : Option Addr) (c : Nat) (l : List (List UInt8)) (s : ByteArray) (hlc : l.length ≤ c) (hc : c ≤ maxLen) (hs : s.size ≤ maxLen) (w : World) (hT : Crc.Tab w) (hA : SS A l w) :
    Calls Tryd.prog 11 #[.slice A l.length c, .string s] w fun e w' => e = .returned (.bool true) ∧ Below w.heap.size w w' := by
  obtain ⟨mr, rfl⟩ : ∃ l, s = bs l := ⟨s.data.toList, (bs_self s).symm⟩
  have hz : (bs mr).size = mr.length := bs_size _
  unfold maxLen at hc hs
  have HT := Lib.hid hT
  have HA := Lib.hid hA
  clear hT hA
  go_enter Tryd.func11, Tryd.ntmps11
  go_wp2_with fail
  refine (awake_calls _ HT.out).mono ?_
  rintro e w1 ⟨rfl, b1⟩
  have HT1 := Lib.hid (HT.out.below b1)
  have HA1 := Lib.hid (HA.out.below b1)
  have B1 := Lib.hid b1
  clear b1
  go_wp2_with fail
  refine (Light_calls A c l _ HA1.out (by unfold maxLen; omega)).mono ?_
  rintro e w2 ⟨rfl, b2⟩
  have HT2 := Lib.hid (HT1.out.below b2)
  have HA2 := Lib.hid (HA1.out.below b2)
  have B2 := Lib.hid (bthen B1.out b2)
  clear b2
  rcases Bool.eq_false_or_eq_true (lightB l) with hL | hL
  · rw [hL]
    obtain ⟨h12, h400⟩ := light_iff hL
    have H4 := Lib.hid h400
    clear hL h400
    by_cases h40 : 40 < mr.length
    · go_wp2_with fail
      go_ret
      exact ⟨rfl, B2.out⟩
    · have HB := Lib.hid (fun W h1 h2 => Bytes_calls A c l (by omega) W h1 h2)
      have HR := Lib.hid (fun W h2 => refBytes_calls A c l (by omega) W h2)
      have hu := used_le l 400 H4.out
      have HU := Lib.hid (used_many l)
      have HE := Lib.hid (err_ok (l := l))
      have HBY := Lib.hid (show bytes l = if err l ≠ 0 then ([], err l) else (cat l, 0) from rfl)
      have HCL := Lib.hid (cat_length l)
      generalize bytes l = by_ at *
      obtain ⟨bx, be⟩ := by_
      simp only at HB HR
      go_wp2_with fail
      refine (HB.out _ HT2.out HA2.out).mono ?_
      rintro e w3 ⟨rfl, b3⟩
      have HT3 := Lib.hid (HT2.out.below b3)
      have HA3 := Lib.hid (HA2.out.below b3)
      have B3 := Lib.hid (bthen B2.out b3)
      clear b3
      go_wp2_with fail
      refine (HR.out _ HA3.out).mono ?_
      rintro e w4 ⟨rfl, b4⟩
      have HT4 := Lib.hid (HT3.out.below b4)
      have HA4 := Lib.hid (HA3.out.below b4)
      have B4 := Lib.hid (bthen B3.out b4)
      clear b4
      have HSZ := Lib.hid (fun r h W => Size_calls r h W)
      go_wp2_with fail
      go_loopw [9, 44] (fun n i wr => ∃ k : Nat, k ≤ l.length ∧ i = .int .i64 k ∧ n = .int .i64 (used (l.take k) : Nat) ∧ used (l.take k) ≤ k * 409 ∧ wr = w4) (fun _ i _ => l.length - (intOf i).toNat)
      case atStart => exact ⟨0, by omega, rfl, rfl, Nat.le_refl _, rfl⟩
      case round =>
        obtain ⟨k, hk, rfl, rfl, hm, rfl⟩ := hrel
        by_cases hlt : k < l.length
        · obtain ⟨b, off, rfl, hbl, hi⟩ := HA4.out (by omega)
          have c0 := hi k hlt
          clear hi
          have HS := Lib.hid (used_snoc (l.take k) (l.getD k []))
          rw [← take_succ_getD l k hlt] at HS
          have h4 := H4.out _ (getD_mem l k hlt)
          generalize l.getD k [] = x at *
          have hzx : (bs x).size = x.length := bs_size _
          generalize used (l.take k) = m at *
          go_wp2_with fail
          refine (HSZ.out x (by omega) _).mono ?_
          rintro e w5 ⟨rfl, rfl⟩
          go_wp2_with fail
          exact ⟨⟨k + 1, by omega, by go_num, by rw [HS.out]; go_num, by rw [HS.out]; omega, trivial⟩, by simp [intOf]; omega⟩
        · obtain rfl : k = l.length := by omega
          rw [List.take_length]
          by_cases he : err l ≠ 0
          · have HBY := HBY.out
            rw [if_pos he] at HBY
            simp only [Prod.mk.injEq] at HBY
            obtain ⟨rfl, rfl⟩ := HBY
            have he' : (err l != 0) = true := by simpa using he
            have hu2 := HU.out
            clear he
            generalize err l = er at *
            generalize used l = us at *
            generalize hmy : many l = my at *
            go_wp2_with fail
            refine (total_calls A c l (by omega) H4.out _ HA4.out).mono ?_
            rintro e w5 ⟨rfl, rfl⟩
            rw [hmy]
            have hfin : ((us : Int) == (l.length : Int) * 9 + (my : Int)) = true := by simp; omega
            go_wp2_with fail
            go_ret
            exact ⟨rfl, B4.out⟩
          · have he0 : err l = 0 := by simpa using he
            have HBY := HBY.out
            rw [if_neg he] at HBY
            simp only [Prod.mk.injEq] at HBY
            obtain ⟨rfl, rfl⟩ := HBY
            have HSC := Lib.hid (fun W h => Scan_calls (cat l ++ mr) (by rw [List.length_append, HCL.out]; omega) W h)
            have hsc := scan_cat l mr he0
            rw [hsc] at HSC
            have hzc : (bs (cat l)).size = used l := by rw [bs_size, HCL.out]
            have hap : bs (cat l) ++ bs mr = bs (cat l ++ mr) := bs_append _ _
            have hcc : used l + mr.length ≤ 9223372036854775807 := by omega
            have HUA := Lib.hid (used_append l (scan mr))
            have HTK := Lib.hid (show (l ++ scan mr).take l.length = l from List.take_left)
            have HLA := Lib.hid (show (l ++ scan mr).length = l.length + (scan mr).length from List.length_append)
            have hbr := scan_used mr.length mr (Nat.le_refl _)
            have hbl := used_len (scan mr)
            clear hsc he he0
            generalize cat l = cl at *
            generalize hsm : scan mr = sm at *
            clear hsm
            go_wp2_with fail
            refine (HSC.out _ HT4.out).mono ?_
            rintro e w5 ⟨v5, rfl, hv5, b5⟩
            have HA5 := Lib.hid (HA4.out.below b5)
            have B5 := Lib.hid (bthen B4.out b5)
            obtain ⟨A5, c5, rfl, hc5, hc6, hn5, hsp, hs5⟩ := hv5
            unfold maxLen at hc6
            have S5 := Lib.hid (hs5.take l.length)
            rw [HTK.out] at S5
            rw [HUA.out]
            have hlen5 := HLA.out
            rw [hlen5] at hc5 ⊢
            have HN5 := Lib.hid hn5
            have HSM := Lib.hid (fun B d W h1 h2 => Same_calls B A d c l l (by unfold maxLen; omega) (by unfold maxLen; omega) W h1 h2)
            rw [show decide (l = l) = true by simp] at HSM
            clear b5 hs5 hsp hn5
            generalize used sm = um at *
            generalize used l = us at *
            go_wp2_with fail
            refine (HSM.out A5 c5 _ S5.out HA5.out).mono ?_
            rintro e w6 ⟨rfl, b6⟩
            have B6 := Lib.hid (bthen B5.out b6)
            clear b6
            go_wp2_with fail
            go_ret
            exact ⟨rfl, B6.out⟩
  · rw [hL]
    go_wp2_with fail
    go_ret
    exact ⟨rfl, B2.out⟩
end Go.Proofs.YtopacbmdoognjaaDoor.Sg
