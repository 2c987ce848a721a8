/- The walk of SegJoins. -/
import Derived.Test.YtopacbmdoognjaaDoorSegBytes
namespace Go.Proofs.YtopacbmdoognjaaDoor.Sg
open Go Go.RowKit Frame Oct Frm
theorem scan_nil : scan [] = [] := scan_stop (next_short [] (by decide))
theorem scan_all (l : List (List UInt8)) (h : err l = 0) : scan (cat l) = l := by
  have := scan_cat l [] h
  rwa [List.append_nil, scan_nil, List.append_nil] at this
theorem scan_two (a b : List (List UInt8)) (ha : err a = 0) (hb : err b = 0) : scan (cat a ++ cat b) = a ++ b := by
  rw [scan_cat a _ ha, scan_all b hb]
theorem scan_zero4 (t : List UInt8) : scan ([0, 0, 0, 0] ++ t) = [] := scan_stop (next_zero4 t)
theorem bytes_cases (l : List (List UInt8)) (x : List UInt8) (e : Int) (h : bytes l = (x, e)) : e ≠ 0 ∧ x = [] ∨ e = 0 ∧ x = cat l ∧ err l = 0 := by
  unfold bytes at h
  by_cases he : err l ≠ 0
  · rw [if_pos he] at h
    simp only [Prod.mk.injEq] at h
    exact .inl ⟨by rw [← h.2]; exact he, h.1.symm⟩
  · rw [if_neg he] at h
    simp only [Prod.mk.injEq] at h
    exact .inr ⟨h.2.symm, h.1.symm, by simpa using he⟩
set_option maxRecDepth 100000 in
set_option maxHeartbeats 4000000 in
theorem SegJoins_walk (A : Option Addr) (c : Nat) (a : List (List UInt8)) (B : Option Addr) (d : Nat) (b : List (List UInt8)) (hlc : a.length ≤ c) (hc : c ≤ maxLen) (hld : b.length ≤ d) (hd : d ≤ maxLen) (w : World) (hT : Crc.Tab w) (hA : SS A a w) (hB : SS B b w) :
    Calls Tryd.prog 14 #[.slice A a.length c, .slice B b.length d] w fun e w' => e = .returned (.bool true) ∧ Below w.heap.size w w' := by
  unfold maxLen at hc hd
  have HT := Lib.hid hT
  have HA := Lib.hid hA
  have HB := Lib.hid hB
  clear hT hA hB
  go_enter Tryd.func14, Tryd.ntmps14
  go_wp2_with fail
  refine (awake_calls _ HT.out).mono ?_
  rintro e w1 ⟨rfl, b1⟩
  have HT1 := Lib.hid (HT.out.below b1)
  have HA1 := Lib.hid (HA.out.below b1)
  have HB1 := Lib.hid (HB.out.below b1)
  have B1 := Lib.hid b1
  clear b1 HT HA HB
  go_wp2_with fail
  refine (Light_calls A c a _ HA1.out (by unfold maxLen; omega)).mono ?_
  rintro e w2 ⟨rfl, b2⟩
  have HT2 := Lib.hid (HT1.out.below b2)
  have HA2 := Lib.hid (HA1.out.below b2)
  have HB2 := Lib.hid (HB1.out.below b2)
  have B2 := Lib.hid (bthen B1.out b2)
  clear b2 HT1 HA1 HB1
  rcases Bool.eq_false_or_eq_true (lightB a) with hL | hL
  · rw [hL]
    obtain ⟨h12, h400⟩ := light_iff hL
    have H4 := Lib.hid h400
    clear hL h400
    go_wp2_with fail
    refine (Light_calls B d b _ HB2.out (by unfold maxLen; omega)).mono ?_
    rintro e w3 ⟨rfl, b3⟩
    have HT3 := Lib.hid (HT2.out.below b3)
    have HA3 := Lib.hid (HA2.out.below b3)
    have HB3 := Lib.hid (HB2.out.below b3)
    have B3 := Lib.hid (bthen B2.out b3)
    clear b3 HT2 HA2 HB2
    rcases Bool.eq_false_or_eq_true (lightB b) with hL | hL
    · rw [hL]
      obtain ⟨h12', h400'⟩ := light_iff hL
      have H4' := Lib.hid h400'
      clear hL h400'
      have HY := Lib.hid (fun W h1 h2 => Bytes_calls A c a (by omega) W h1 h2)
      have HY' := Lib.hid (fun W h1 h2 => Bytes_calls B d b (by omega) W h1 h2)
      have hu := used_le a 400 H4.out
      have hu' := used_le b 400 H4'.out
      have HBC := Lib.hid (bytes_cases a)
      have HBC' := Lib.hid (bytes_cases b)
      have HCL := Lib.hid (cat_length a)
      have HCL' := Lib.hid (cat_length b)
      generalize hba : bytes a = ba at *
      generalize hbb : bytes b = bb at *
      obtain ⟨s, e⟩ := ba
      obtain ⟨t, f⟩ := bb
      have HBC := Lib.hid (HBC.out s e rfl)
      have HBC' := Lib.hid (HBC'.out t f rfl)
      clear hba hbb
      simp only at HY HY'
      go_wp2_with fail
      refine (HY.out _ HT3.out HA3.out).mono ?_
      rintro e0 w4 ⟨rfl, b4⟩
      have HT4 := Lib.hid (HT3.out.below b4)
      have HA4 := Lib.hid (HA3.out.below b4)
      have HB4 := Lib.hid (HB3.out.below b4)
      have B4 := Lib.hid (bthen B3.out b4)
      clear b4 HT3 HA3 HB3
      go_wp2_with fail
      refine (HY'.out _ HT4.out HB4.out).mono ?_
      rintro e0 w5 ⟨rfl, b5⟩
      have HT5 := Lib.hid (HT4.out.below b5)
      have HA5 := Lib.hid (HA4.out.below b5)
      have HB5 := Lib.hid (HB4.out.below b5)
      have B5 := Lib.hid (bthen B4.out b5)
      clear b5 HT4 HA4 HB4
      rcases HBC.out with ⟨he, rfl⟩ | ⟨rfl, rfl, hea⟩
      · have he1 : (e != 0) = true := by simpa using he
        have he2 : (e == 0) = false := by simpa using he
        have hs0 := bs_eq_empty [] rfl
        clear he
        rcases HBC'.out with ⟨hf, rfl⟩ | ⟨rfl, rfl, -⟩
        · have hf1 : (f != 0) = true := by simpa using hf
          have hf2 : (f == 0) = false := by simpa using hf
          clear hf
          go_wp2_with fail
          go_ret
          exact ⟨rfl, B5.out⟩
        · go_wp2_with fail
          go_ret
          exact ⟨rfl, B5.out⟩
      · rcases HBC'.out with ⟨hf, rfl⟩ | ⟨rfl, rfl, heb⟩
        · have hf1 : (f != 0) = true := by simpa using hf
          have hf2 : (f == 0) = false := by simpa using hf
          have hs0 := bs_eq_empty [] rfl
          clear hf
          go_wp2_with fail
          go_ret
          exact ⟨rfl, B5.out⟩
        · have HS1 := Lib.hid (fun W h => Scan_calls (cat a ++ cat b) (by rw [List.length_append, HCL.out, HCL'.out]; omega) W h)
          have HS2 := Lib.hid (fun W h => Scan_calls ([0, 0, 0, 0] ++ cat b) (by rw [List.length_append, HCL'.out]; simp; omega) W h)
          rw [scan_two a b hea heb] at HS1
          rw [scan_zero4] at HS2
          have hza : (bs (cat a)).size = used a := by rw [bs_size, HCL.out]
          have hzb : (bs (cat b)).size = used b := by rw [bs_size, HCL'.out]
          have hap : bs (cat a) ++ bs (cat b) = bs (cat a ++ cat b) := bs_append _ _
          have hap2 : (⟨#[0, 0, 0, 0]⟩ : ByteArray) ++ bs (cat b) = bs ([0, 0, 0, 0] ++ cat b) := bs_append [0, 0, 0, 0] _
          have hcc : used a + used b ≤ 9223372036854775807 := by omega
          have hcc2 : (4 : Nat) + used b ≤ 9223372036854775807 := by omega
          have HUA := Lib.hid (used_append a b)
          have HTK := Lib.hid (show (a ++ b).take a.length = a from List.take_left)
          have HDR := Lib.hid (show (a ++ b).drop a.length = b from List.drop_left)
          have HLA := Lib.hid (show (a ++ b).length = a.length + b.length from List.length_append)
          clear hea heb
          generalize cat a ++ cat b = cab at *
          generalize [0, 0, 0, 0] ++ cat b = cz at *
          generalize cat a = ca at *
          generalize cat b = cb at *
          go_wp2_with fail
          refine (HS1.out _ HT5.out).mono ?_
          rintro e w6 ⟨v6, rfl, hv6, b6⟩
          have HT6 := Lib.hid (HT5.out.below b6)
          have HA6 := Lib.hid (HA5.out.below b6)
          have HB6 := Lib.hid (HB5.out.below b6)
          have B6 := Lib.hid (bthen B5.out b6)
          have V6 := Lib.hid hv6
          clear b6 HT5 HA5 HB5 hv6
          go_wp2_with fail
          refine (HS2.out _ HT6.out).mono ?_
          rintro e w7 ⟨v7, rfl, hv7, b7⟩
          have HA7 := Lib.hid (HA6.out.below b7)
          have HB7 := Lib.hid (HB6.out.below b7)
          have B7 := Lib.hid (bthen B6.out b7)
          obtain ⟨A6, c6, rfl, hc6, hc6', hn6, hsp, hs6⟩ := V6.out.below b7
          obtain ⟨A7, c7, rfl, -, -, -, -, -⟩ := hv7
          unfold maxLen at hc6'
          have S6 := Lib.hid (hs6.take a.length)
          rw [HTK.out] at S6
          rw [HUA.out]
          have hlen6 := HLA.out
          rw [hlen6] at hc6 ⊢
          have HN6 := Lib.hid hn6
          have HSM := Lib.hid (fun C m W h1 h2 => Same_calls C A m c a a (by unfold maxLen; omega) (by unfold maxLen; omega) W h1 h2)
          have HSM' := Lib.hid (fun C m W h1 h2 => Same_calls C B m d b b (by unfold maxLen; omega) (by unfold maxLen; omega) W h1 h2)
          rw [show decide (a = a) = true by simp] at HSM
          rw [show decide (b = b) = true by simp] at HSM'
          have HS6 := Lib.hid hs6
          have HSP := Lib.hid hsp
          rw [show used ([] : List (List UInt8)) = 0 from rfl]
          simp only [List.length_nil]
          clear b7 hs6 hsp hn6 V6
          generalize used a = ua at *
          generalize used b = ub at *
          go_wp2_with fail
          refine (HSM.out A6 c6 _ S6.out HA7.out).mono ?_
          rintro e w8 ⟨rfl, b8⟩
          have HB8 := Lib.hid (HB7.out.below b8)
          have HS8 := Lib.hid (HS6.out.below b8)
          have B8 := Lib.hid (bthen B7.out b8)
          clear b8
          have HD8 := Lib.hid (fun k o (e : A6 = some ⟨k, o, none⟩) => by
            have h1 := HS8.out
            rw [e] at h1
            have h2 := h1.drop a.length
            rw [HDR.out] at h2
            exact h2)
          have HE8 := Lib.hid (fun (h : b.length = 0) C => show SS C b w8 from fun h0 => absurd h (by omega))
          generalize hla : a.length = la at *
          generalize hlb : b.length = lb at *
          cases A6 with
          | none =>
            have hc0 := HN6.out rfl
            subst hc0
            obtain rfl : la = 0 := by omega
            obtain rfl : lb = 0 := by omega
            go_wp2_with fail
            refine (HSM'.out none 0 _ (HE8.out trivial _) HB8.out).mono ?_
            rintro e w9 ⟨rfl, b9⟩
            have B9 := Lib.hid (bthen B8.out b9)
            clear b9
            go_wp2_with fail
            go_ret
            exact ⟨rfl, B9.out⟩
          | some ad =>
            obtain ⟨bk, off, rfl⟩ := HSP.out _ rfl
            have HD9 := Lib.hid (HD8.out bk off rfl)
            by_cases hcq : la = c6
            · subst hcq
              obtain rfl : lb = 0 := by omega
              go_wp2_with fail
              refine (HSM'.out _ _ _ (HE8.out trivial _) HB8.out).mono ?_
              rintro e w9 ⟨rfl, b9⟩
              have B9 := Lib.hid (bthen B8.out b9)
              clear b9
              go_wp2_with fail
              go_ret
              exact ⟨rfl, B9.out⟩
            · have hcq' : ¬ c6 = la := fun h => hcq h.symm
              go_wp2_with fail
              refine (HSM'.out _ _ _ HD9.out HB8.out).mono ?_
              rintro e w9 ⟨rfl, b9⟩
              have B9 := Lib.hid (bthen B8.out b9)
              clear b9
              go_wp2_with fail
              go_ret
              exact ⟨rfl, B9.out⟩
    · rw [hL]
      go_wp2_with fail
      go_ret
      exact ⟨rfl, B3.out⟩
  · rw [hL]
    go_wp2_with fail
    go_ret
    exact ⟨rfl, B2.out⟩
end Go.Proofs.YtopacbmdoognjaaDoor.Sg
