/- Merged: FrameBytes, SegWalk, OctAwake, FrameLaws. -/
import Derived.Test.YtjnjcjildiadgaaDoorFrameRef
import Derived.Test.YtjnjcjildiadgaaDoorOctText
import Derived.Test.YtjnjcjildiadgaaDoorPlain
import Derived.Test.YtjnjcjildiadgaaDoorOctNum
/- The walk of frame.Bytes. -/
namespace Go.Proofs.YtjnjcjildiadgaaDoor.Frm
open Go Go.RowKit Frame Oct
theorem num_one (s : List UInt8) (hs : s.length ≤ 100000) (x : UInt8) (w : World) :
    Calls Tryd.prog 55 #[.agg #[.string (bs s), .int .i64 0], .int .u64 (x.toNat : Int), .int .i64 1] w fun e' w' => e' = .returned (.agg #[.string (bs (s ++ [x])), .int .i64 0]) ∧ Below w.heap.size w w' := by
  have h := OutNum_calls (bs s) 0 x.toNat 1 (by decide) (by rw [bs_size]; omega) w
  rw [bs_toList, show be (wid 1) x.toNat = [UInt8.ofNat x.toNat] from rfl, UInt8.ofNat_toNat] at h
  exact h
theorem num_four (s : List UInt8) (hs : s.length ≤ 100000) (n : Nat) (w : World) :
    Calls Tryd.prog 55 #[.agg #[.string (bs s), .int .i64 0], .int .u64 (n : Int), .int .i64 4] w fun e' w' => e' = .returned (.agg #[.string (bs (s ++ be 4 n)), .int .i64 0]) ∧ Below w.heap.size w w' := by
  have h := OutNum_calls (bs s) 0 n 4 (by decide) (by rw [bs_size]; omega) w
  rw [bs_toList, show be (wid 4) n = be 4 n from rfl] at h
  exact h
theorem three {b : Nat} {a0 a1 a2 : Value} {t : TypeId} {w : World} (h : Has b #[a0, a1, a2] t w) : w.cell? ⟨b, 0, none⟩ = some a0 ∧ w.cell? ⟨b, 1, none⟩ = some a1 ∧ w.cell? ⟨b, 2, none⟩ = some a2 := ⟨h.cell 0, h.cell 1, h.cell 2⟩
theorem two {b : Nat} {a0 a1 : Value} {t : TypeId} {w : World} (h : Has b #[a0, a1] t w) : w.cell? ⟨b, 0, none⟩ = some a0 ∧ w.cell? ⟨b, 1, none⟩ = some a1 := ⟨h.cell 0, h.cell 1⟩
theorem setTwo {p : Nat} {x y : Value} {t : TypeId} {w : World} (h : Has p #[x, y] t w) (a b : Value) : Has p #[a, b] t ((w.setCell ⟨p, 0, none⟩ a).setCell ⟨p, 1, none⟩ b) := by
  have := (h.set (i := 0) a).set (i := 1) b
  simpa using this
theorem drew_alloc_lt (w : World) (o : Obj) : w.heap.size < ((w.alloc o).drew).heap.size := by show w.heap.size < (w.alloc o).heap.size; simp
end Go.Proofs.YtjnjcjildiadgaaDoor.Frm
/- The walks of seg.one, seg.Next, seg.Size. -/
namespace Go.Proofs.YtjnjcjildiadgaaDoor.Sg
open Go Go.RowKit Frame Oct Frm
theorem num_any (s : List UInt8) (hs : s.length ≤ 1000000000) (n : Nat) (b : Int) (hb : 0 ≤ b ∧ b ≤ 8) (w : World) :
    Calls Tryd.prog 55 #[.agg #[.string (bs s), .int .i64 0], .int .u64 (n : Int), .int .i64 b] w fun e' w' => e' = .returned (.agg #[.string (bs (s ++ be b.toNat n)), .int .i64 0]) ∧ Below w.heap.size w w' := by
  have h := OutNum_calls (bs s) 0 n b (by omega) (by rw [bs_size]; omega) w
  rw [bs_toList, show wid b = b.toNat by unfold wid; omega] at h
  exact h
theorem raw_any (s t : List UInt8) (hs : s.length ≤ 1000000000) (ht : t.length ≤ 1000000000) (w : World) :
    Calls Tryd.prog 54 #[.agg #[.string (bs s), .int .i64 0], .string (bs t)] w fun e' w' => e' = .returned (.agg #[.string (bs (s ++ t)), .int .i64 0]) ∧ Below w.heap.size w w' := by
  have h := OutRaw_calls (bs s) (bs t) 0 (by rw [bs_size]; omega) (by rw [bs_size]; omega) w
  rw [bs_toList, bs_toList] at h
  exact h
set_option maxRecDepth 100000 in
set_option maxHeartbeats 4000000 in
theorem one_calls (r : List UInt8) (hr : r.length ≤ 1000000) (w : World) (hT : Crc.Tab w) :
    Calls Tryd.prog 51 #[.string (bs r)] w fun e w' => e = .returned (.string (bs (one r))) ∧ Below w.heap.size w w' := by
  have hz : (bs r).size = r.length := bs_size _
  have HN := Lib.hid (fun W => num_any [] (by simp) r.length 4 (by decide) W)
  have HR := Lib.hid (fun W => raw_any (be 4 r.length) r (by rw [be_length]; omega) (by omega) W)
  rw [List.nil_append, show (4 : Int).toNat = 4 from rfl] at HN
  rw [show be 4 r.length ++ r = head r from rfl] at HR
  have hfl : (head r).length ≤ 2000000 := by rw [head_length]; omega
  have HT := Lib.hid hT
  have HBY := Lib.hid (show one r = head r ++ (be 4 (Crc.sum (head r)) ++ [165]) from rfl)
  clear hT
  generalize head r = fr at *
  go_enter Tryd.func51, Tryd.ntmps51
  go_wp2_with fail
  refine (HN.out _).mono ?_
  rintro e w1 ⟨rfl, b1⟩
  have B1 := Lib.hid b1
  go_wp2_with fail
  refine (HR.out _).mono ?_
  rintro e w3 ⟨rfl, b3⟩
  have B3 := Lib.hid (bthen B1.out b3)
  clear b1 b3 B1
  go_wp2_with fail
  have HO4 := Lib.hid (Has.new w3 #[.string (bs fr), .int .i64 0] 85)
  have HB4 := Lib.hid (B3.out.alloc B3.out.size (.cells #[.string (bs fr), .int .i64 0] 85))
  have HT4 := Lib.hid (HT.out.below HB4.out)
  generalize w3.alloc (.cells #[.string (bs fr), .int .i64 0] 85) = w4 at *
  generalize w3.heap.size = p at *
  have HO5 := Lib.hid HO4.out.drew
  have y0 : w4.drew.cell? ⟨p, 0, none⟩ = some (.string (bs fr)) := HO5.out.cell 0
  have y1 : w4.drew.cell? ⟨p, 1, none⟩ = some (.int .i64 0) := HO5.out.cell 1
  have hsl := Crc.sum_lt fr
  have g3 : IntKind.u64.wrap ((Crc.sum fr : Nat) : Int) = ((Crc.sum fr : Nat) : Int) := IntWalk.u64_in _ (by omega)
  have HM4 := Lib.hid (fun W => num_any fr (by omega) (Crc.sum fr) 4 (by decide) W)
  have HM1 := Lib.hid (fun W => num_any (fr ++ be 4 (Crc.sum fr)) (by simp [be_length]; omega) 165 1 (by decide) W)
  rw [show (4 : Int).toNat = 4 from rfl] at HM4
  rw [show be (1 : Int).toNat 165 = [165] from rfl] at HM1
  have HST := Lib.hid (fun W => OutString_calls (bs fr) 0 W)
  have HSE := Lib.hid (fun W => OutString_calls (bs (fr ++ (be 4 (Crc.sum fr) ++ [165]))) 0 W)
  have tok2 : True := trivial
  have tok3 : True := trivial
  go_region_held3 (fun w' => w'.cell? ⟨p, 0, none⟩ = some (.string (bs fr)) ∧ w'.cell? ⟨p, 1, none⟩ = some (.int .i64 0))
    (first
      | with_reducible exact two HO5.out
      | with_reducible exact two (HO5.out.below b5)
      | with_reducible exact two ((HO5.out.below b5).alloc (.cells #[.string (bs fr)] 9))
      | with_reducible exact two (((HO5.out.below b5).alloc (.cells #[.string (bs fr)] 9)).below b7)
      | with_reducible exact two ((((HO5.out.below b5).alloc (.cells #[.string (bs fr)] 9)).below b7).below b8)
      | with_reducible exact two (((((HO5.out.below b5).alloc (.cells #[.string (bs fr)] 9)).below b7).below b8).below b9))
    (first
      | (go_at_call 56; refine (Sum_one w5.heap.size fr (by unfold maxLen; omega) _ ((HT4.out.below (after_drew b5)).below ((Below.refl _ _).alloc (Nat.le_refl _) _)) ((Has.new w5 _ _).cell 0)).mono ?_; rintro e w6 ⟨rfl, rfl⟩)
      | (go_at_call 57; have _t := tok2; refine (HST.out _).mono ?_; rintro e w5 ⟨rfl, b5⟩; clear _t tok2)
      | (go_at_call 55; have _t := tok3; refine (HM4.out _).mono ?_; rintro e w7 ⟨rfl, b7⟩; clear _t tok3)
      | (go_at_call 55; refine (HM1.out _).mono ?_; rintro e w8 ⟨rfl, b8⟩)
      | (go_at_call 57; refine (HSE.out _).mono ?_; rintro e w9 ⟨rfl, b9⟩))
  have Q9 := Lib.hid (bthen (bthen (bthen (bthen HB4.out (after_drew b5)) (after_alloc b7)) b8) b9)
  clear b5 b7 b8 b9
  go_wp2_with fail
  go_ret
  exact ⟨by rw [HBY.out]; rfl, Q9.out⟩
theorem Size_calls (r : List UInt8) (hr : r.length ≤ 1000000000000) (w : World) :
    Calls Tryd.prog 61 #[.string (bs r)] w fun e w' => e = .returned (.int .i64 ((r.length + 9 : Nat) : Int)) ∧ w = w' := by
  have hz : (bs r).size = r.length := bs_size _
  go_enter Tryd.func61, Tryd.ntmps61
  go_wp2_with fail
  go_ret
  exact ⟨rfl, rfl⟩
theorem len_lt (l : List UInt8) : len l < 4294967296 := by
  unfold len
  have h := num_lt (l.take 4)
  have h2 : (l.take 4).length ≤ 4 := by simp; omega
  have h3 : 256 ^ (l.take 4).length ≤ 256 ^ 4 := Nat.pow_le_pow_right (by decide) h2
  have : (256 : Nat) ^ 4 = 4294967296 := by decide
  omega
set_option maxRecDepth 100000 in
set_option maxHeartbeats 4000000 in
theorem Next_calls (l : List UInt8) (hl : l.length ≤ 1000000000) (w : World) (hT : Crc.Tab w) :
    Calls Tryd.prog 59 #[.string (bs l)] w fun e w' => e = .returned (.tuple #[.string (bs (next l).1), .int .i64 (next l).2.1, .int .i64 (next l).2.2]) ∧ Below w.heap.size w w' := by
  have hml : l.length ≤ maxLen := by unfold maxLen; omega
  have hzl : (bs l).size = l.length := bs_size _
  have HA := Lib.hid (show At w.heap.size (l, 0) (w.alloc (.cells #[.string (bs l), .int .i64 0] 95)) from Has.new w _ _)
  have HB := Lib.hid ((Below.refl w.heap.size w).alloc (Nat.le_refl _) (.cells #[.string (bs l), .int .i64 0] 95))
  have HT := Lib.hid hT
  clear hT
  go_enter Tryd.func59, Tryd.ntmps59
  go_wp2_with fail
  refine (New_calls _ _).mono ?_
  rintro e w1 ⟨rfl, rfl⟩
  go_wp2_with fail
  refine (Num_calls w.heap.size (l, 0) 4 hml _ HA.out).mono ?_
  rintro e w2 ⟨rfl, h2, o2⟩
  have HB2 := Lib.hid (Only.to_below HB.out o2 (Nat.le_refl _) (by simp))
  clear HA HB
  by_cases h4 : l.length < 4
  · have HE := Lib.hid (show next l = ([], 0, 3) by unfold next; rw [if_pos h4])
    have hi : inum (l, 0) 4 = (0, ([], 3)) := inum_short l 4 h4 (by decide)
    rw [hi] at h2 ⊢
    have H2 := Lib.hid h2
    clear h2 o2 hi
    go_wp2_with fail
    refine (Err_calls w.heap.size ([], 3) _ H2.out).mono ?_
    rintro e w3 ⟨rfl, rfl⟩
    go_wp2_with fail
    refine (Err_calls w.heap.size ([], 3) _ H2.out).mono ?_
    rintro e w3 ⟨rfl, rfl⟩
    go_wp2_with fail
    go_ret3
    rw [HE.out]
    exact ⟨rfl, HB2.out⟩
  · have hi : inum (l, 0) 4 = (len l, (l.drop 4, 0)) := inum_ok l 4 (by omega) (by decide)
    rw [hi] at h2 ⊢
    have H2 := Lib.hid h2
    have hnl := len_lt l
    have hp : next l = if len l = 0 then ([], 0, 15) else if 131072 < len l then ([], 0, 5) else if l.length < len l + 9 then ([], 0, 3)
      else if l.getD (len l + 8) 0 ≠ 165 then ([], 0, 4) else if (l.drop (len l + 4)).take 4 ≠ be 4 (Crc.sum (l.take (len l + 4))) then ([], 0, 14)
      else ((l.drop 4).take (len l), len l + 9, 0) := by unfold next; rw [if_neg h4]
    have HP := Lib.hid hp
    clear h2 o2 hi hp
    generalize len l = n at *
    go_wp2_with fail
    refine (Err_calls w.heap.size (l.drop 4, 0) _ H2.out).mono ?_
    rintro e w3 ⟨rfl, rfl⟩
    by_cases h0 : n = 0
    · subst h0
      have HE := Lib.hid (HP.out.trans (if_pos rfl))
      go_wp2_with fail
      go_ret3
      rw [HE.out]
      exact ⟨rfl, HB2.out⟩
    · have h0' : ((n : Int) == 0) = false := by simp; omega
      have HP1 := Lib.hid (HP.out.trans (if_neg h0))
      clear HP h0
      by_cases h5 : 131072 < n
      · have HE := Lib.hid (HP1.out.trans (if_pos h5))
        go_wp2_with fail
        go_ret3
        rw [HE.out]
        exact ⟨rfl, HB2.out⟩
      · have HP2 := Lib.hid (HP1.out.trans (if_neg h5))
        clear HP1
        by_cases h9 : l.length < n + 9
        · have HE := Lib.hid (HP2.out.trans (if_pos h9))
          go_wp2_with fail
          go_ret3
          rw [HE.out]
          exact ⟨rfl, HB2.out⟩
        · have HP3 := Lib.hid (HP2.out.trans (if_neg h9))
          clear HP2
          have q8 := idx l ((n : Int) + 9 - 1) (n + 8) (by omega) (by omega)
          by_cases h6 : l.getD (n + 8) 0 ≠ 165
          · have HE := Lib.hid (HP3.out.trans (if_pos h6))
            have h6' : (((l.getD (n + 8) 0).toNat : Int) != 165) = true := by
              have : (l.getD (n + 8) 0).toNat ≠ 165 := fun e => h6 (UInt8.toNat_inj.1 e)
              exact bne_iff_ne.2 (by omega)
            clear h6
            generalize (l.getD (n + 8) 0).toNat = c8 at *
            go_wp2_with fail
            go_ret3
            rw [HE.out]
            exact ⟨rfl, HB2.out⟩
          · have HP4 := Lib.hid (HP3.out.trans (if_neg h6))
            have h6' : (((l.getD (n + 8) 0).toNat : Int) != 165) = false := by
              have h3 : l.getD (n + 8) 0 = 165 := by simpa using h6
              rw [h3]
              decide
            clear h6 HP3
            generalize (l.getD (n + 8) 0).toNat = c8 at *
            have hraw : raw (l.drop 4, 0) (n : Int) = ((l.drop 4).take n, ((l.drop 4).drop n, 0)) := raw_ok (l.drop 4) n (by simp; omega)
            have HRW := Lib.hid (fun W h => Raw_calls w.heap.size (l.drop 4, 0) n (by simp only [List.length_drop]; unfold maxLen; omega) W h)
            rw [hraw] at HRW
            simp only at HRW
            have hnm : inum ((l.drop 4).drop n, 0) 4 = (num (((l.drop 4).drop n).take 4), (((l.drop 4).drop n).drop 4, 0)) := inum_ok ((l.drop 4).drop n) 4 (by simp; omega) (by decide)
            have HNM := Lib.hid (fun W h => Num_calls w.heap.size ((l.drop 4).drop n, 0) 4 (by simp only [List.length_drop]; unfold maxLen; omega) W h)
            rw [hnm] at HNM
            simp only at HNM
            have hdd : (l.drop 4).drop n = l.drop (n + 4) := by rw [List.drop_drop, Nat.add_comm]
            rw [hdd] at HNM HRW
            have hext : (bs l).extract 0 (n + 4) = bs (l.take (n + 4)) := extract_to _ _
            clear hraw hnm hdd hml
            go_wp2_with fail
            refine (HRW.out _ H2.out).mono ?_
            rintro e w3 ⟨rfl, h3, o3⟩
            have hlt2 : w.heap.size < w2.heap.size := H2.out.lt
            have HB3 := Lib.hid (Only.to_below HB2.out o3 (Nat.le_refl _) (Nat.le_of_lt hlt2))
            have H3 := Lib.hid h3
            have hlt3 : w.heap.size < w3.heap.size := h3.lt
            have HT3 := Lib.hid (HT.out.below HB3.out)
            clear h3 o3
            go_wp2_with fail
            have hB10 : Below w3.heap.size w3 (w3.alloc (.cells #[.string (bs (l.take (n + 4)))] 9)) := (Below.refl _ _).alloc (Nat.le_refl _) _
            refine (Sum_one w3.heap.size (l.take (n + 4)) (by simp only [List.length_take]; unfold maxLen; omega) _ (HT3.out.below hB10) ((Has.new w3 _ _).cell 0)).mono ?_
            rintro e w7 ⟨rfl, rfl⟩
            have HBF := Lib.hid (bthen HB3.out hB10)
            have H4 := Lib.hid (show At w.heap.size (l.drop (n + 4), 0) (w3.alloc (.cells #[.string (bs (l.take (n + 4)))] 9)) from Has.alloc H3.out _)
            have hlt4 : w.heap.size ≤ (w3.alloc (.cells #[.string (bs (l.take (n + 4)))] 9)).heap.size := by simp; omega
            have hsl := Crc.sum_lt (l.take (n + 4))
            have hiff := Lib.hid (num_eq_iff ((l.drop (n + 4)).take 4) (Crc.sum (l.take (n + 4))) (by simp; omega) hsl)
            clear hB10 hext
            generalize w3.alloc (.cells #[.string (bs (l.take (n + 4)))] 9) = w7 at *
            generalize Crc.sum (l.take (n + 4)) = sm at *
            generalize (l.drop (n + 4)).take 4 = q4 at *
            go_wp2_with fail
            refine (HNM.out _ H4.out).mono ?_
            rintro e w8 ⟨rfl, h8, o8⟩
            have HB8 := Lib.hid (Only.to_below HBF.out o8 (Nat.le_refl _) hlt4)
            clear h8 o8
            by_cases cs : q4 = be 4 sm
            · have HE := Lib.hid (HP4.out.trans (if_neg (fun h => h cs)))
              have cs' : ((sm : Int) != (num q4 : Int)) = false := by rw [hiff.out.2 cs]; simp
              clear cs
              go_wp2_with fail
              go_ret3
              rw [HE.out]
              exact ⟨rfl, HB8.out⟩
            · have HE := Lib.hid (HP4.out.trans (if_pos cs))
              have cs' : ((sm : Int) != (num q4 : Int)) = true := by
                have : sm ≠ num q4 := fun e => cs (hiff.out.1 e.symm)
                exact bne_iff_ne.2 (by omega)
              clear cs
              go_wp2_with fail
              go_ret3
              rw [HE.out]
              exact ⟨rfl, HB8.out⟩
end Go.Proofs.YtjnjcjildiadgaaDoor.Sg
/- The walk of stairwelllaw01's awake: its examples hold. -/
namespace Go.Proofs.YtjnjcjildiadgaaDoor.Oct
open Go Go.RowKit Frame
def e0 : ByteArray := ⟨#[]⟩
theorem OutNum_ex (w : World) : Calls Tryd.prog 55 #[.agg #[.string ⟨#[]⟩, .int .i64 0], .int .u64 258, .int .i64 2] w fun e' w' => e' = .returned (.agg #[.string ⟨#[1, 2]⟩, .int .i64 0]) ∧ Below w.heap.size w w' :=
  OutNum_calls ⟨#[]⟩ 0 258 2 (by decide) (by decide) w
theorem InNum_ex (w : World) : Calls Tryd.prog 45 #[.pointer (some ⟨w.heap.size, 0, none⟩), .int .i64 2] (w.alloc (.cells #[.string ⟨#[1, 2]⟩, .int .i64 0] 95)) fun e' w' => e' = .returned (.int .u64 258) ∧ Below w.heap.size w w' :=
  (Num_calls w.heap.size ([1, 2], 0) 2 (by decide) _ (Has.new w #[.string (bs [1, 2]), .int .i64 0] 95)).mono fun e' w' ⟨he, _, ho⟩ => ⟨he, Only.to_below ((Below.refl _ w).alloc (Nat.le_refl _) _) ho (Nat.le_refl _) (by simp)⟩
end Go.Proofs.YtjnjcjildiadgaaDoor.Oct
/- The walks of the laws of chapter 07: awake, Same, FrameParses. -/
namespace Go.Proofs.YtjnjcjildiadgaaDoor.Frm
open Go Go.RowKit Frame Oct
theorem Awake2_calls (w : World) (hT : Crc.Tab w) : Calls Tryd.prog 60 #[] w fun e w' => e = .returned (.bool true) ∧ Below w.heap.size w w' := by
  go_enter Tryd.func60, Tryd.ntmps60
  go_wp2_with fail
  refine (Crc.awake_calls _ hT).mono ?_
  rintro e w1 ⟨rfl, b1⟩
  clear hT
  go_wp2_with fail
  go_ret
  exact ⟨rfl, b1⟩
theorem ex_len : (bytes ⟨1, 2, []⟩).length = 9 := by decide +kernel
theorem ex_last : (bytes ⟨1, 2, []⟩).getD 8 0 = 206 := by decide +kernel
end Go.Proofs.YtjnjcjildiadgaaDoor.Frm
