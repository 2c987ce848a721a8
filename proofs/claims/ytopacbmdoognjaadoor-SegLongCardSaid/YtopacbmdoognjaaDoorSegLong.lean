/- The walk of SegLong. -/
import Derived.Test.YtopacbmdoognjaaDoorSegFalls
import Derived.Test.YtopacbmdoognjaaDoorFrameTurned
namespace Go.Proofs.YtopacbmdoognjaaDoor.Sg
open Go Go.RowKit Frame Oct Frm
theorem bad_long (r : List UInt8) (h : r.length = 131073) : bad r = 5 := by
  unfold bad
  rw [if_neg (by omega), if_pos (by omega)]
theorem bad_fits (r : List UInt8) (h : r.length = 131072) : bad r = 0 := by
  unfold bad
  rw [if_neg (by omega), if_neg (by omega)]
set_option maxRecDepth 100000 in
set_option maxHeartbeats 800000 in
theorem SegLong_walk (b : Nat) (more : Bool) (hb : b < 256) (w : World) (hT : Crc.Tab w) :
    Calls Tryd.prog 10 #[.int .u8 (b : Int), .bool more] w fun e w' => e = .returned (.bool true) ∧ Below w.heap.size w w' := by
  have HT := Lib.hid hT
  clear hT
  have HNG := Lib.hid (fun W => Disk.Noughts_calls 131072 (by decide) W)
  obtain ⟨z, hz, hzl⟩ : ∃ z : List UInt8, List.replicate 131072 0 = z ∧ z.length = 131072 := ⟨_, rfl, List.length_replicate⟩
  rw [hz] at HNG
  change Hid (∀ W, Calls Tryd.prog 33 #[.int .i64 131072] W _) at HNG
  clear hz
  go_enter Tryd.func10, Tryd.ntmps10
  go_wp2_with fail
  refine (awake_calls _ HT.out).mono ?_
  rintro e w1 ⟨rfl, b1⟩
  have HT1 := Lib.hid (HT.out.below b1)
  have B1 := Lib.hid b1
  clear b1 HT
  go_wp2_with fail
  refine (HNG.out _).mono ?_
  rintro e w2 ⟨rfl, b2⟩
  have HT2 := Lib.hid (HT1.out.below b2)
  have B2 := Lib.hid (bthen B1.out b2)
  clear b2 HT1
  have hz2 : (bs z).size = 131072 := by rw [bs_size, hzl]
  have hcv := Lib.run_convert_string_bytes (P := Tryd.prog) w2 9 32 5 (bs z) (u := .string) Tryd.underlying9 Tryd.underlying32 Tryd.underlying5
  rw [hz2] at hcv
  obtain ⟨k, hk⟩ : ∃ k : Nat, k = b * 7 := ⟨_, rfl⟩
  have hkl : k < z.length := by omega
  have hkk : (b : Int) * 7 = (k : Int) := by omega
  have hkk2 : ((k : Int)).toNat = k := Int.toNat_natCast k
  have hx8 : ((UInt8.ofNat b).toNat : Int) = (b : Int) := by rw [UInt8.toNat_ofNat']; omega
  have HR := Row.start w2 5 z
  have hc := HR.cell k hkl
  have hf := HR.free k hkl
  have HRS := HR.set (UInt8.ofNat b) hkl
  rw [hx8] at HRS
  have HRS := Lib.hid HRS
  have hnl : (z.set k (UInt8.ofNat b)).length = 131072 := by rw [List.length_set, hzl]
  generalize z.set k (UInt8.ofNat b) = r at *
  have hcb := fun cap => Lib.run_convert_whole (P := Tryd.prog) _ 32 5 9 Tryd.underlying32 Tryd.underlying5 Tryd.underlying9 w2.heap.size 0 (bs r) HRS.out.bytes cap
  have hzr : (bs r).size = 131072 := by rw [bs_size, hnl]
  rw [hzr] at hcb
  have b4 := (bytes_below w2 5 (bs z)).setCell (p := ⟨w2.heap.size, k, none⟩) (Nat.le_refl _) (.int .u8 (b : Int))
  have HT4 := Lib.hid (HT2.out.below b4)
  have B4 := Lib.hid (bthen B2.out b4)
  have hs4 := B4.out.size
  have g1 : (0 : Int) ≤ (k : Int) := by omega
  have g2 : (k : Int) < 131072 := by omega
  clear b4 HR hk hx8 HT2 B2 HNG
  generalize (z.getD k 0).toNat = z0 at *
  cases more with
  | true =>
    have hap : bs r ++ ⟨#[120]⟩ = bs (r ++ [120]) := bs_append r [120]
    have hbd := bad_long (r ++ [120]) (by rw [List.length_append, hnl]; rfl)
    have HBY := Lib.hid (fun p W h1 h2 => Bytes_one p (r ++ [120]) W h1 h2)
    rw [bytes_bad _ (by rw [hbd]; decide), hbd] at HBY
    have hs0 := bs_eq_empty [] rfl
    generalize r ++ [120] = rx at *
    go_wp2_with fail
    rw [show (Lib.bytesWorld w2 5 (bs z)).heap.size = ((Lib.bytesWorld w2 5 (bs z)).setCell ⟨w2.heap.size, k, none⟩ (.int .u8 (b : Int))).heap.size from (by simp [World.setCell])]
    generalize (Lib.bytesWorld w2 5 (bs z)).setCell ⟨w2.heap.size, k, none⟩ (.int .u8 (b : Int)) = w5 at *
    have hb5 := Lib.hid ((Below.refl w5.heap.size w5).alloc (Nat.le_refl _) (.cells #[.string (bs rx)] 9))
    refine (HBY.out w5.heap.size _ (HT4.out.below hb5.out) (SS.one (Has.new w5 _ _))).mono ?_
    rintro e w6 ⟨rfl, b6⟩
    have B6 := Lib.hid (bthen (bthen B4.out hb5.out) b6)
    clear b6
    go_wp2_with fail
    go_ret
    exact ⟨rfl, B6.out⟩
  | false =>
    have hbd := bad_fits r hnl
    have HBY := Lib.hid (fun p W h1 h2 => Bytes_one p r W h1 h2)
    rw [bytes_one _ hbd] at HBY
    have hol : (bs (one r)).size = 131081 := by rw [bs_size, one_length, hnl]
    have hap : bs (one r) ++ ⟨#[120]⟩ = bs (one r ++ [120]) := bs_append (one r) [120]
    have HNX := Lib.hid (fun W h => Next_calls (one r ++ [120]) (by rw [List.length_append, one_length, hnl]; decide) W h)
    rw [next_one r [120] hbd, hnl] at HNX
    have HSZ := Lib.hid (fun W => Size_calls r (by omega) W)
    rw [hnl] at HSZ
    change Hid (∀ W, Calls Tryd.prog 36 #[.string (bs r)] W fun e w' => e = .returned (.int .i64 131081) ∧ W = w') at HSZ
    change Hid (∀ W, Crc.Tab W → Calls Tryd.prog 35 #[.string (bs (one r ++ [120]))] W fun e w' => e = .returned (.tuple #[.string (bs r), .int .i64 131081, .int .i64 0]) ∧ Below W.heap.size W w') at HNX
    generalize one r ++ [120] = ox at *
    generalize one r = o at *
    go_wp2_with fail
    rw [show (Lib.bytesWorld w2 5 (bs z)).heap.size = ((Lib.bytesWorld w2 5 (bs z)).setCell ⟨w2.heap.size, k, none⟩ (.int .u8 (b : Int))).heap.size from (by simp [World.setCell])]
    generalize (Lib.bytesWorld w2 5 (bs z)).setCell ⟨w2.heap.size, k, none⟩ (.int .u8 (b : Int)) = w5 at *
    have hb5 := Lib.hid ((Below.refl w5.heap.size w5).alloc (Nat.le_refl _) (.cells #[.string (bs r)] 9))
    refine (HBY.out w5.heap.size _ (HT4.out.below hb5.out) (SS.one (Has.new w5 _ _))).mono ?_
    rintro e w6 ⟨rfl, b6⟩
    have B6 := Lib.hid (bthen (bthen B4.out hb5.out) b6)
    have HT6 := Lib.hid ((HT4.out.below hb5.out).below b6)
    clear b6
    go_wp2_with fail
    refine (HNX.out _ HT6.out).mono ?_
    rintro e w7 ⟨rfl, b7⟩
    have B7 := Lib.hid (bthen B6.out b7)
    clear b7
    go_wp2_with fail
    refine (HSZ.out _).mono ?_
    rintro e w8 ⟨rfl, rfl⟩
    go_wp2_with fail
    go_ret
    exact ⟨rfl, B7.out⟩
end Go.Proofs.YtopacbmdoognjaaDoor.Sg
