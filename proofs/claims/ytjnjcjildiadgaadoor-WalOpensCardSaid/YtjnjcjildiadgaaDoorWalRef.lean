/- The walks of the document's log: Head, Area. -/
import Derived.Test.YtjnjcjildiadgaaDoorWalRead
import Derived.Test.YtjnjcjildiadgaaDoorOctRef
import Derived.Deep.RegionHeld3
namespace Go.Proofs.YtjnjcjildiadgaaDoor.Wl
open Go Go.RowKit Frame Oct Disk
set_option maxRecDepth 100000 in
set_option maxHeartbeats 1000000 in
theorem rHead_calls (g : Nat) (hg : g < 18446744073709551616) (w : World) :
    Calls Tryd.prog 49 #[.int .u64 (g : Int)] w fun e w' => e = .returned (.string (bs (headOf g))) ∧ Below w.heap.size w w' := by
  have HN := Lib.hid (fun W => RefNum_any g 8 W hg)
  have hsl := Crc.sum_lt (hd g)
  have HM := Lib.hid (fun W => RefNum_any (Crc.sum (hd g)) 4 W (by omega))
  rw [show wid 8 = 8 from rfl] at HN
  rw [show wid 4 = 4 from rfl] at HM
  have HA := Lib.hid (show (⟨#[83, 84, 82, 87]⟩ : ByteArray) ++ bs (be 8 g) = bs (hd g) from bs_append [83, 84, 82, 87] (be 8 g))
  have HS := Lib.hid (fun W => Crc.refSum_calls (bs (hd g)) (by rw [bs_size, hd_length]; unfold maxLen; omega) W)
  rw [bs_toList] at HS
  have HB := Lib.hid (show bs (hd g) ++ bs (be 4 (Crc.sum (hd g))) ++ ⟨#[165]⟩ = bs (headOf g) from by
    rw [bs_append]
    exact (bs_append _ [165]).trans (by rw [List.append_assoc]; rfl))
  have z1 : (bs (be 8 g)).size = 8 := by rw [bs_size, be_length]
  have z2 : (bs (hd g)).size = 12 := by rw [bs_size, hd_length]
  have z3 : (bs (be 4 (Crc.sum (hd g)))).size = 4 := by rw [bs_size, be_length]
  have g3 : IntKind.u64.wrap ((Crc.sum (hd g) : Nat) : Int) = ((Crc.sum (hd g) : Nat) : Int) := IntWalk.u64_in _ (by omega)
  clear hg
  go_enter Tryd.func49, Tryd.ntmps49
  go_wp2_with fail
  refine (HN.out _).mono ?_
  rintro e w1 ⟨rfl, b1⟩
  have B1 := Lib.hid b1
  clear b1
  go_wp2_with fail
  rw [HA.out]
  refine (HS.out _).mono ?_
  rintro e w2 ⟨rfl, rfl⟩
  go_wp2_with fail
  refine (HM.out _).mono ?_
  rintro e w2 ⟨rfl, b2⟩
  have B2 := Lib.hid (bthen B1.out b2)
  clear b2
  go_wp2_with fail
  rw [HB.out]
  go_ret
  exact ⟨rfl, B2.out⟩
theorem num8_lt (l : List UInt8) (k : Nat) (h : k < 8) : num (l.take k) ≤ 72057594037927935 := by
  have h1 := num_lt (l.take k)
  have h2 : (l.take k).length ≤ k := List.length_take_le _ _
  have h3 : 256 ^ (l.take k).length ≤ 256 ^ 7 := Nat.pow_le_pow_right (by decide) (by omega)
  have : (256 : Nat) ^ 7 = 72057594037927936 := by decide
  omega
set_option maxRecDepth 100000 in
set_option maxHeartbeats 1000000 in
/-- What the document's Area tells. -/
theorem Area_calls (l : List UInt8) (h64 : 64 ≤ l.length) (hl : l.length ≤ 1000000000) (w : World) :
    Calls Tryd.prog 34 #[.string (bs l)] w (RdPost (rd l) w) := by
  have hzl : (bs l).size = l.length := bs_size _
  go_enter Tryd.func34, Tryd.ntmps34
  go_wp2_with fail
  go_loop [5, 6] (fun g i => ∃ k : Nat, k ≤ 8 ∧ g = .int .u64 (num ((l.drop 4).take k) : Nat) ∧ i = .int .i64 ((k + 4 : Nat) : Int)) (fun _ i => 12 - (intOf i).toNat)
  case atStart => exact ⟨0, by omega, rfl, rfl⟩
  case round =>
    obtain ⟨k, hk, rfl, rfl⟩ := hrel
    by_cases hlt : k < 8
    · have hb := num8_lt (l.drop 4) k hlt
      have hs := Sg.num_take_succ (l.drop 4) k (by simp; omega)
      have hgd : (l.drop 4).getD k 0 = l.getD (4 + k) 0 := by simp only [List.getD_eq_getElem?_getD, List.getElem?_drop]
      rw [hgd] at hs
      have HS := Lib.hid hs
      clear hs hgd
      generalize num ((l.drop 4).take k) = g at *
      have hbl := (l.getD (4 + k) 0).toNat_lt
      have q := Frm.idx l ((k : Int) + 4) (4 + k) (by omega) (by omega)
      generalize (l.getD (4 + k) 0).toNat = c at *
      have w1 : IntKind.u64.wrap (c : Int) = (c : Int) := IntWalk.u64_in _ (by omega)
      have w2 : IntKind.u64.wrap ((g : Int) * 256) = (g : Int) * 256 := IntWalk.u64_in _ (by omega)
      have w3 : IntKind.u64.wrap ((g : Int) * 256 + (c : Int)) = (g : Int) * 256 + (c : Int) := IntWalk.u64_in _ (by omega)
      go_wp2_with fail
      refine ⟨⟨k + 1, by omega, by rw [HS.out]; go_num, by go_num⟩, by simp [intOf]; omega⟩
    · obtain rfl : k = 8 := by omega
      have hgl := genOf_lt l
      have HRDe := Lib.hid (show rd l = if l.take 17 = headOf (genOf l) then some (genOf l, Sg.scan (l.drop 64)) else none from rfl)
      rw [show num ((l.drop 4).take 8) = genOf l from rfl]
      have HH := Lib.hid (fun W => rHead_calls (genOf l) hgl W)
      clear hgl
      generalize genOf l = g at *
      have hx17 : (bs l).extract 0 17 = bs (l.take 17) := extract_to l 17
      have hx64 : (bs l).extract 64 l.length = bs (l.drop 64) := extract_from l 64
      have j1 : (17 : Int) ≤ (l.length : Int) := by omega
      have j2 : (64 : Int) ≤ (l.length : Int) := by omega
      by_cases hc : l.take 17 = headOf g
      · have hne : ((bs (l.take 17)).toList == (bs (headOf g)).toList) = true := by rw [Frm.bs_beq]; simpa using hc
        have hne2 : ((bs (l.take 17)).toList != (bs (headOf g)).toList) = false := by unfold bne; rw [hne]; rfl
        have HE := Lib.hid (HRDe.out.trans (if_pos hc))
        clear hc
        go_wp2_with fail
        go_region_held3 (fun _ => True) (trivial) ((go_at_call 49; refine (HH.out _).mono ?_; rintro e w2 ⟨rfl, b2⟩))
        have B2 := Lib.hid (after_drew' b2)
        clear b2
        go_wp2_with fail
        refine (Sg.refScan_own (l.drop 64) (by simp; omega) _).mono ?_
        rintro e w3 ⟨v, rfl, hv, b3⟩
        have HV := Lib.hid hv
        have B3 := Lib.hid b3
        clear hv b3
        go_wp2_with fail
        go_ret3
        unfold RdPost
        rw [HE.out]
        exact ⟨v, rfl, own_base HV.out B2.out.size, bthen B2.out B3.out⟩
      · have hne : ((bs (l.take 17)).toList == (bs (headOf g)).toList) = false := by rw [Frm.bs_beq]; simpa using hc
        have hne2 : ((bs (l.take 17)).toList != (bs (headOf g)).toList) = true := by unfold bne; rw [hne]; rfl
        have HE := Lib.hid (HRDe.out.trans (if_neg hc))
        clear hc
        go_wp2_with fail
        go_region_held3 (fun _ => True) (trivial) ((go_at_call 49; refine (HH.out _).mono ?_; rintro e w2 ⟨rfl, b2⟩))
        have B2 := Lib.hid (after_drew' b2)
        clear b2
        go_wp2_with fail
        go_ret3
        unfold RdPost
        rw [HE.out]
        exact ⟨_, rfl, World.ownsRow_nil _ _ _ _, B2.out⟩
end Go.Proofs.YtjnjcjildiadgaaDoor.Wl
