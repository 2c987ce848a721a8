/- The walk of FeedTakes. -/
import Derived.Test.YtopacbmdoognjaaDoorFeedTakes
namespace Go.Proofs.YtopacbmdoognjaaDoor.Fd
open Go Go.RowKit Frame Oct Frm
theorem flat_take_succ (l : List (List UInt8)) (k : Nat) (h : k < l.length) : (l.take (k + 1)).flatten = (l.take k).flatten ++ l.getD k [] := by
  rw [Sg.take_succ_getD l k h, List.flatten_append]
  simp
theorem flat_len (l : List (List UInt8)) (m : Nat) (h : ∀ x ∈ l, x.length ≤ m) : l.flatten.length ≤ l.length * m := by
  induction l with
  | nil => simp
  | cons x l ih =>
    have h1 := h x (by simp)
    have h2 := ih fun y hy => h y (by simp [hy])
    rw [List.flatten_cons, List.length_append, List.length_cons, Nat.succ_mul]
    omega
structure TI (W : World) (s : List UInt8) (out : Value) (w : World) : Prop where
  below : Below W.heap.size W w
  f : Has W.heap.size #[.string (bs (all s).2.1), .int .i64 (all s).2.2] 67 w
  own : w.ownsRow (W.heap.size + 1) 35 3 out (all s).1.length (fcs (all s).1)
theorem TI.below' {W w w' : World} {s : List UInt8} {out : Value} (h : TI W s out w) (hb : Below w.heap.size w w') : TI W s out w' := ⟨bthen h.below hb, h.f.below hb, Sg.own_below h.own hb⟩
set_option maxRecDepth 100000 in
set_option maxHeartbeats 1600000 in
theorem FeedTakes_walk (A : Option Addr) (c : Nat) (l : List (List UInt8)) (hlc : l.length ≤ c) (hc : c ≤ maxLen) (w : World) (hT : Crc.Tab w) (hA : Sg.SS A l w) :
    Calls Tryd.prog 15 #[.slice A l.length c] w fun e w' => e = .returned (.bool true) ∧ Below w.heap.size w w' := by
  obtain ⟨i0, hi0, hz0, hz1, hz2⟩ := info_parts infoF
  have HT := Lib.hid hT
  have HA := Lib.hid hA
  have hlm := Lib.hid (Nat.le_trans hlc hc)
  unfold maxLen at hc
  clear hT hA
  go_enter Tryd.func15, Tryd.ntmps15
  go_wp2_with fail
  refine (awake_calls _ HT.out).mono ?_
  rintro e w1 ⟨rfl, b1⟩
  have HT1 := Lib.hid (HT.out.below b1)
  have HA1 := Lib.hid (HA.out.below b1)
  have B1 := Lib.hid b1
  clear b1 HT HA
  go_wp2_with fail
  refine (light_calls A c l _ HA1.out hlm.out).mono ?_
  rintro e w2 ⟨rfl, b2⟩
  have HT2 := Lib.hid (HT1.out.below b2)
  have HA2 := Lib.hid (HA1.out.below b2)
  have B2 := Lib.hid (bthen B1.out b2)
  clear b2 HT1 HA1
  rcases Bool.eq_false_or_eq_true (lightB l) with hL | hL
  · rw [hL]
    obtain ⟨h10, h500⟩ := light_iff hL
    have H5 := Lib.hid h500
    clear hL h500
    have HI0 : Hid (TI w2 [] (.slice none 0 0) (w2.alloc (.cells #[.string ⟨#[]⟩, .int .i64 0] 67))) := Lib.hid (by
      refine ⟨(Below.refl _ _).alloc (Nat.le_refl _) _, ?_, ?_⟩
      · rw [all_nil]; exact Has.new w2 _ _
      · rw [all_nil]; exact World.ownsRow_nil _ _ _ _)
    go_wp2_with fail
    go_loopw [4, 5, 20] (fun out s i wr => ∃ k : Nat, k ≤ l.length ∧ i = .int .i64 k ∧ s = .string (bs (l.take k).flatten) ∧ Hid (TI w2 (l.take k).flatten out wr)) (fun _ _ i _ => l.length - (intOf i).toNat)
    case atStart => exact ⟨0, by omega, rfl, rfl, HI0⟩
    case round =>
      obtain ⟨k, hk, rfl, rfl, hI⟩ := hrel
      clear HI0
      by_cases hlt : k < l.length
      · obtain ⟨b, off, rfl, hbl, hi⟩ := (HA2.out.below hI.out.below) (by omega)
        have ck := hi k hlt
        have HF := Lib.hid (flat_take_succ l k hlt)
        have h5 := H5.out _ (Sg.getD_mem l k hlt)
        have hfl := flat_len (l.take k) 500 (fun x hx => H5.out x (List.mem_of_mem_take hx))
        rw [List.length_take, Nat.min_eq_left hk] at hfl
        have HTr := Lib.hid (HT2.out.below hI.out.below)
        clear hi
        generalize l.getD k [] = x at *
        generalize (l.take k).flatten = S at *
        have HAR := Lib.hid (all_rest S.length S (Nat.le_refl _))
        have HAR2 := Lib.hid (all_rest (S ++ x).length (S ++ x) (Nat.le_refl _))
        have HTA := Lib.hid (take_all S x)
        have hSx : (S ++ x).length = S.length + x.length := List.length_append
        have HTK := Lib.hid (fun W h => Take_calls (all S).2 x (by have := HAR.out.2.1; omega) W h)
        have HAL := Lib.hid (fun W => All_calls (S ++ x) (by omega) W)
        have f0 := hI.out.f.cell 0
        have f1 := hI.out.f.cell 1
        have hlf := hI.out.f.lt
        unfold DV at HTK
        generalize hq : take (all S).2 x = q at *
        obtain ⟨⟨r1, e1⟩, fs1⟩ := q
        simp only at HTK HTA
        have hzS : (bs S).size = S.length := bs_size _
        have hzx : (bs x).size = x.length := bs_size _
        have hap : bs S ++ bs x = bs (S ++ x) := bs_append _ _
        have hcc : S.length + x.length ≤ 9223372036854775807 := by omega
        have HL1 := Lib.hid (show (all S).1.length ≤ 2000 by have := HAR.out.2.2.1; omega)
        have HL2 := Lib.hid (show ((all S).1 ++ fs1).length ≤ 2000 by have := HAR2.out.2.2.1; rw [HTA.out] at this; simp only at this; omega)
        have hhl := HL2.out
        rw [List.length_append] at hhl
        rw [HTA.out] at HAL
        simp only at HAL
        go_wp2_with fail
        refine (HTK.out _ HTr.out).mono ?_
        rintro e w5 ⟨v5, rfl, hv5, -, b5⟩
        have HI5 := Lib.hid (hI.out.below' b5)
        obtain ⟨A5, c5, rfl, -, -, hn5, hs5⟩ := hv5
        have b6 := (Below.refl w5.heap.size w5).alloc (Nat.le_refl _) (.cells #[.string (bs r1), .int .i64 e1] 67)
        have HI6 := Lib.hid (HI5.out.below' b6)
        have HS6 := Lib.hid (hs5.below b6)
        have HN6 := Lib.hid hn5
        have HG6 := Lib.hid (Has.new w5 #[.string (bs r1), .int .i64 e1] 67)
        have hw5 := HI5.out.below.size
        have hlf5 := HI5.out.f.lt
        have HAP := Lib.hid (fun g (h : u4.ownBlock = some g) => (hI.out.own.lt g h).2)
        have hwr5 := b5.size
        clear b5 b6 hs5 hn5 f0 f1
        have tok : True := trivial
        go_wp2_with (at_builtin; have _t := tok; refine append_any _ rfl _ _ 68 rfl (w2.heap.size + 1) 35 i0 _ 3 24 Tryd.underlying68 hi0 hz0 hz1 hz2 rfl (by decide) _ _ _ rfl HI6.out.own A5 fs1.length c5 (fcs fs1) rfl (fcs_length fs1) HN6.out HS6.out.cells (fcs_oneCell fs1) ?c3 ?c4 ?c5 ?_; clear _t tok)
        case c3 => have := HL1.out; unfold maxLen; omega
        case c4 => have := HL1.out; omega
        case c5 => have := HI6.out.f.lt; omega
        intro v' w7 hown' hgrow
        have HG7 := Lib.hid (has_grown HG6.out hgrow (fun e => by have := HAP.out _ e.symm; omega))
        have HF7 := Lib.hid (has_grown HI6.out.f hgrow (fun e => by have := (HI6.out.own.lt _ e.symm).1; omega))
        have B7 := Lib.hid (Sg.below_grown HI6.out.below hgrow HI6.out.below.size (fun g hg => by have := (HI6.out.own.lt _ hg).1; omega))
        rw [← fcs_append, ← List.length_append] at hown'
        have HO7 := Lib.hid hown'
        clear hown' hgrow HI6 HS6 HG6 HAP
        go_wp2_with fail
        refine (HAL.out _).mono ?_
        rintro e w8 ⟨v8, rfl, hv8, b8⟩
        have HG8 := Lib.hid (HG7.out.below b8)
        have HF8 := Lib.hid (HF7.out.below b8)
        have B8 := Lib.hid (bthen B7.out b8)
        have HO8 := Lib.hid (Sg.own_below HO7.out b8)
        obtain ⟨A8, c8, rfl, -, -, -, hs8⟩ := hv8
        have S8 := Lib.hid hs8
        clear b8 hs8 HG7 HF7 B7 HO7
        obtain ⟨A9, c9, rfl, -, -, -, hs9⟩ := FL.of_own HO8.out
        have S9 := Lib.hid hs9
        clear hs9
        have HSM := Lib.hid (fun W h1 h2 => Same_calls A9 A8 c9 c8 ((all S).1 ++ fs1) (by have := HL2.out; unfold maxLen; omega) W h1 h2)
        simp only [List.length_append] at HSM HO8
        have HR := Lib.hid (fun W => Rest_calls (r1, e1) W)
        have HE := Lib.hid (fun W => Err_calls (r1, e1) W)
        unfold DV at HR HE
        simp only at HR HE
        have hl8 := HG8.out.lt
        go_wp2_with fail
        refine (HSM.out _ S9.out S8.out).mono ?_
        rintro e w9 ⟨rfl, b9⟩
        have HG9 := Lib.hid (HG8.out.below b9)
        have HF9 := Lib.hid (HF8.out.below b9)
        have B9 := Lib.hid (bthen B8.out b9)
        have HO9 := Lib.hid (Sg.own_below HO8.out b9)
        clear b9 HG8 HF8 B8 HO8 S8 S9
        have y0 := HG9.out.cell 0
        have y1 := HG9.out.cell 1
        go_wp2_with fail
        refine (HR.out _).mono ?_
        rintro e w10 ⟨rfl, b10⟩
        have HGa := Lib.hid (HG9.out.below b10)
        have HFa := Lib.hid (HF9.out.below b10)
        have Ba := Lib.hid (bthen B9.out b10)
        have HOa := Lib.hid (Sg.own_below HO9.out b10)
        clear b10 HG9 HF9 B9 HO9 y0 y1
        have y0 := HGa.out.cell 0
        have y1 := HGa.out.cell 1
        go_wp2_with fail
        refine (HE.out _).mono ?_
        rintro e w11 ⟨rfl, b11⟩
        have HGb := Lib.hid (HGa.out.below b11)
        have HFb := Lib.hid (HFa.out.below b11)
        have Bb := Lib.hid (bthen Ba.out b11)
        have HOb := Lib.hid (Sg.own_below HOa.out b11)
        clear b11 HGa HFa Ba HOa y0 y1
        have y0 := HGb.out.cell 0
        have y1 := HGb.out.cell 1
        have f0 := HFb.out.cell 0
        have f1 := HFb.out.cell 1
        have ff := HFb.out.frozen
        go_wp2_with fail
        refine ⟨⟨k + 1, by omega, by go_num, by rw [HF.out], Lib.hid ⟨?_, ?_, ?_⟩⟩, by simp [intOf]; omega⟩
        · exact (Bb.out.setCell (p := ⟨w2.heap.size, 0, none⟩) (Nat.le_refl _) _).setCell (p := ⟨w2.heap.size, 1, none⟩) (Nat.le_refl _) _
        · rw [HF.out, HTA.out]
          exact setTwo HFb.out _ _
        · rw [HF.out, HTA.out, List.length_append]
          have hne : (Value.slice A9 ((all S).1.length + fs1.length) c9).ownBlock ≠ some w2.heap.size := fun e => by have := (HOb.out.lt _ e).1; omega
          exact ownsRow_setCell_other (ownsRow_setCell_other HOb.out (a := ⟨w2.heap.size, 0, none⟩) hne _) (a := ⟨w2.heap.size, 1, none⟩) hne _
      · obtain rfl : k = l.length := by omega
        go_wp2_with fail
        go_ret
        exact ⟨rfl, bthen B2.out hI.out.below⟩
  · rw [hL]
    go_wp2_with fail
    go_ret
    exact ⟨rfl, B2.out⟩
end Go.Proofs.YtopacbmdoognjaaDoor.Fd
