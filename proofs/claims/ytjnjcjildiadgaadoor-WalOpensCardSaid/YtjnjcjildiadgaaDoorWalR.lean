/- Merged: WalRef, WalRefOpen, WalRefRoom, WalRefPut, WalRefOps, WalRefAppend. -/
import Derived.Test.YtjnjcjildiadgaaDoorWalP
import Derived.Test.YtjnjcjildiadgaaDoorOctRef
import Derived.Deep.RegionHeld3
import Derived.Test.YtjnjcjildiadgaaDoorDiskP
import Derived.Test.YtjnjcjildiadgaaDoorStoreAgg
import Derived.Test.YtjnjcjildiadgaaDoorSegS
/- The walks of the document's log: Head, Area. -/
namespace Go.Proofs.YtjnjcjildiadgaaDoor.Wl
open Go Go.RowKit Frame Oct Disk
set_option maxRecDepth 100000 in
set_option maxHeartbeats 1000000 in
theorem rHead_calls (g : Nat) (hg : g < 18446744073709551616) (w : World) :
    Calls Tryd.prog 49 #[.int .u64 (g : Int)] w fun e w' => e = .returned (.string (bs (headOf g))) ∧ Below w.heap.size w w' := by
  have HN := Lib.hid (fun W => RefNum_any g 8 W hg)
  have hsl := Crc.sum_lt (hd g)
  have HM := Lib.hid (fun W => RefNum_any (Crc.sum (hd g)) 4 W (by omega))
  rw [show wid 8 = 8 from rfl] at HN
  rw [show wid 4 = 4 from rfl] at HM
  have HA := Lib.hid (show (⟨#[83, 84, 82, 87]⟩ : ByteArray) ++ bs (be 8 g) = bs (hd g) from bs_append [83, 84, 82, 87] (be 8 g))
  have HS := Lib.hid (fun W => Crc.refSum_calls (bs (hd g)) (by rw [bs_size, hd_length]; unfold maxLen; omega) W)
  rw [bs_toList] at HS
  have HB := Lib.hid (show bs (hd g) ++ bs (be 4 (Crc.sum (hd g))) ++ ⟨#[165]⟩ = bs (headOf g) from by
    rw [bs_append]
    exact (bs_append _ [165]).trans (by rw [List.append_assoc]; rfl))
  have z1 : (bs (be 8 g)).size = 8 := by rw [bs_size, be_length]
  have z2 : (bs (hd g)).size = 12 := by rw [bs_size, hd_length]
  have z3 : (bs (be 4 (Crc.sum (hd g)))).size = 4 := by rw [bs_size, be_length]
  have g3 : IntKind.u64.wrap ((Crc.sum (hd g) : Nat) : Int) = ((Crc.sum (hd g) : Nat) : Int) := IntWalk.u64_in _ (by omega)
  clear hg
  go_enter Tryd.func49, Tryd.ntmps49
  go_wp2_with fail
  refine (HN.out _).mono ?_
  rintro e w1 ⟨rfl, b1⟩
  have B1 := Lib.hid b1
  clear b1
  go_wp2_with fail
  rw [HA.out]
  refine (HS.out _).mono ?_
  rintro e w2 ⟨rfl, rfl⟩
  go_wp2_with fail
  refine (HM.out _).mono ?_
  rintro e w2 ⟨rfl, b2⟩
  have B2 := Lib.hid (bthen B1.out b2)
  clear b2
  go_wp2_with fail
  rw [HB.out]
  go_ret
  exact ⟨rfl, B2.out⟩
theorem num8_lt (l : List UInt8) (k : Nat) (h : k < 8) : num (l.take k) ≤ 72057594037927935 := by
  have h1 := num_lt (l.take k)
  have h2 : (l.take k).length ≤ k := List.length_take_le _ _
  have h3 : 256 ^ (l.take k).length ≤ 256 ^ 7 := Nat.pow_le_pow_right (by decide) (by omega)
  have : (256 : Nat) ^ 7 = 72057594037927936 := by decide
  omega
set_option maxRecDepth 100000 in
set_option maxHeartbeats 1000000 in
/-- What the document's Area tells. -/
theorem Area_calls (l : List UInt8) (h64 : 64 ≤ l.length) (hl : l.length ≤ 1000000000) (w : World) :
    Calls Tryd.prog 34 #[.string (bs l)] w (RdPost (rd l) w) := by
  have hzl : (bs l).size = l.length := bs_size _
  go_enter Tryd.func34, Tryd.ntmps34
  go_wp2_with fail
  go_loop [5, 6] (fun g i => ∃ k : Nat, k ≤ 8 ∧ g = .int .u64 (num ((l.drop 4).take k) : Nat) ∧ i = .int .i64 ((k + 4 : Nat) : Int)) (fun _ i => 12 - (intOf i).toNat)
  case atStart => exact ⟨0, by omega, rfl, rfl⟩
  case round =>
    obtain ⟨k, hk, rfl, rfl⟩ := hrel
    by_cases hlt : k < 8
    · have hb := num8_lt (l.drop 4) k hlt
      have hs := Sg.num_take_succ (l.drop 4) k (by simp; omega)
      have hgd : (l.drop 4).getD k 0 = l.getD (4 + k) 0 := by simp only [List.getD_eq_getElem?_getD, List.getElem?_drop]
      rw [hgd] at hs
      have HS := Lib.hid hs
      clear hs hgd
      generalize num ((l.drop 4).take k) = g at *
      have hbl := (l.getD (4 + k) 0).toNat_lt
      have q := Frm.idx l ((k : Int) + 4) (4 + k) (by omega) (by omega)
      generalize (l.getD (4 + k) 0).toNat = c at *
      have w1 : IntKind.u64.wrap (c : Int) = (c : Int) := IntWalk.u64_in _ (by omega)
      have w2 : IntKind.u64.wrap ((g : Int) * 256) = (g : Int) * 256 := IntWalk.u64_in _ (by omega)
      have w3 : IntKind.u64.wrap ((g : Int) * 256 + (c : Int)) = (g : Int) * 256 + (c : Int) := IntWalk.u64_in _ (by omega)
      go_wp2_with fail
      refine ⟨⟨k + 1, by omega, by rw [HS.out]; go_num, by go_num⟩, by simp [intOf]; omega⟩
    · obtain rfl : k = 8 := by omega
      have hgl := genOf_lt l
      have HRDe := Lib.hid (show rd l = if l.take 17 = headOf (genOf l) then some (genOf l, Sg.scan (l.drop 64)) else none from rfl)
      rw [show num ((l.drop 4).take 8) = genOf l from rfl]
      have HH := Lib.hid (fun W => rHead_calls (genOf l) hgl W)
      clear hgl
      generalize genOf l = g at *
      have hx17 : (bs l).extract 0 17 = bs (l.take 17) := extract_to l 17
      have hx64 : (bs l).extract 64 l.length = bs (l.drop 64) := extract_from l 64
      have j1 : (17 : Int) ≤ (l.length : Int) := by omega
      have j2 : (64 : Int) ≤ (l.length : Int) := by omega
      by_cases hc : l.take 17 = headOf g
      · have hne : ((bs (l.take 17)).toList == (bs (headOf g)).toList) = true := by rw [Frm.bs_beq]; simpa using hc
        have hne2 : ((bs (l.take 17)).toList != (bs (headOf g)).toList) = false := by unfold bne; rw [hne]; rfl
        have HE := Lib.hid (HRDe.out.trans (if_pos hc))
        clear hc
        go_wp2_with fail
        go_region_held3 (fun _ => True) (trivial) ((go_at_call 49; refine (HH.out _).mono ?_; rintro e w2 ⟨rfl, b2⟩))
        have B2 := Lib.hid (after_drew' b2)
        clear b2
        go_wp2_with fail
        refine (Sg.refScan_own (l.drop 64) (by simp; omega) _).mono ?_
        rintro e w3 ⟨v, rfl, hv, b3⟩
        have HV := Lib.hid hv
        have B3 := Lib.hid b3
        clear hv b3
        go_wp2_with fail
        go_ret3
        unfold RdPost
        rw [HE.out]
        exact ⟨v, rfl, own_base HV.out B2.out.size, bthen B2.out B3.out⟩
      · have hne : ((bs (l.take 17)).toList == (bs (headOf g)).toList) = false := by rw [Frm.bs_beq]; simpa using hc
        have hne2 : ((bs (l.take 17)).toList != (bs (headOf g)).toList) = true := by unfold bne; rw [hne]; rfl
        have HE := Lib.hid (HRDe.out.trans (if_neg hc))
        clear hc
        go_wp2_with fail
        go_region_held3 (fun _ => True) (trivial) ((go_at_call 49; refine (HH.out _).mono ?_; rintro e w2 ⟨rfl, b2⟩))
        have B2 := Lib.hid (after_drew' b2)
        clear b2
        go_wp2_with fail
        go_ret3
        unfold RdPost
        rw [HE.out]
        exact ⟨_, rfl, World.ownsRow_nil _ _ _ _, B2.out⟩
end Go.Proofs.YtjnjcjildiadgaaDoor.Wl
/- The walk of the document's Open. -/
namespace Go.Proofs.YtjnjcjildiadgaaDoor.Wl
open Go Go.RowKit Frame Oct Disk
/-- The document's log, by value; in a block. -/
def RC (q : Nat) (l : LSt) : Array Value := #[.int .i64 (q : Int), .int .i64 l.area, .int .u64 (l.gen : Int), .bool l.ready, .bool l.broken, .string (bs l.done), .string (bs l.wait)]
def RL (q : Nat) (l : LSt) : Value := .agg (RC q l)
def RB (b q : Nat) (l : LSt) (w : World) : Prop := Has b (RC q l) 35 w
section
variable {b q : Nat} {l : LSt} {w : World}
theorem RB.c0 (h : RB b q l w) : w.cell? ⟨b, 0, none⟩ = some (.int .i64 (q : Int)) := Has.cell h 0
theorem RB.c1 (h : RB b q l w) : w.cell? ⟨b, 1, none⟩ = some (.int .i64 l.area) := Has.cell h 1
theorem RB.c2 (h : RB b q l w) : w.cell? ⟨b, 2, none⟩ = some (.int .u64 (l.gen : Int)) := Has.cell h 2
theorem RB.c3 (h : RB b q l w) : w.cell? ⟨b, 3, none⟩ = some (.bool l.ready) := Has.cell h 3
theorem RB.c4 (h : RB b q l w) : w.cell? ⟨b, 4, none⟩ = some (.bool l.broken) := Has.cell h 4
theorem RB.c5 (h : RB b q l w) : w.cell? ⟨b, 5, none⟩ = some (.string (bs l.done)) := Has.cell h 5
theorem RB.c6 (h : RB b q l w) : w.cell? ⟨b, 6, none⟩ = some (.string (bs l.wait)) := Has.cell h 6
end
def ROpenPost (q : Nat) (s : List UInt8) (w : World) (e : Ending) (w' : World) : Prop :=
  ∃ v, e = .returned (.tuple #[RL q (openL q s), v]) ∧ ST v (opened q s).best w' ∧ Below w.heap.size w w'
theorem extract_ar (s : List UInt8) (h a : Nat) : (bs s).extract (64 * (h * a)) (64 * (h * a) + 64 * h) = bs (ar s h a) := by
  apply ba_ext
  rw [bs_toList, ByteArray.data_extract, Array.toList_extract]
  show (s.drop _).take _ = _
  unfold ar
  congr 1
  omega
/-- What holds at each area. -/
structure ROI (z q : Nat) (o : Os) (v : Value) (w wr : World) : Prop where
  zz : Has z #[.int .i64 0, .int .i64 0, .int .u64 0, .bool false, .bool false, .string ⟨#[]⟩, .string ⟨#[]⟩] 35 wr
  i : RB (z + 1) q (oL o) wr
  v : wr.ownsRow (z + 2) 9 1 v o.best.length (Sg.cells o.best)
  b : Below w.heap.size w wr
theorem ROI.set {z q : Nat} {o o' : Os} {v : Value} {w wr : World} {i : Nat} {x : Value} (h : ROI z q o v w wr) (hz : z = w.heap.size) (hb : o'.best = o.best) (hc : RC q (oL o') = (RC q (oL o)).setIfInBounds i x) : ROI z q o' v w (wr.setCell ⟨z + 1, i, none⟩ x) :=
  ⟨h.zz.set_other (p := ⟨z + 1, i, none⟩) (by show z + 1 ≠ z; omega) x, by unfold RB; rw [hc]; exact Has.set h.i x, by rw [hb]; exact own_set h.v ⟨z + 1, i, none⟩ (by show z + 1 < z + 2; omega) x, h.b.setCell (p := ⟨z + 1, i, none⟩) (by show _ ≤ z + 1; omega) x⟩
theorem ROI.below {z q : Nat} {o : Os} {v : Value} {w wr w' : World} (h : ROI z q o v w wr) (hb : Below wr.heap.size wr w') : ROI z q o v w w' :=
  ⟨h.zz.below hb, Has.below h.i hb, Sg.own_below h.v hb, bthen h.b hb⟩
set_option maxRecDepth 100000 in
set_option maxHeartbeats 2000000 in
theorem rOpen_calls (n : Nat) (s : List UInt8) (hs : s.length = 64 * n) (h2 : 2 ≤ n) (hn : n ≤ 4096) (w : World) :
    Calls Tryd.prog 12 #[.string (bs s)] w (ROpenPost (n / 2) s w) := by
  have hzs : (bs s).size = s.length := bs_size _
  have hq : (s.length : Int) / 128 = ((n / 2 : Nat) : Int) := by omega
  have hq1 : 1 ≤ n / 2 := by omega
  have hq2 : n / 2 ≤ 2048 := by omega
  have hqs : 64 * (2 * (n / 2)) ≤ s.length := by omega
  have hsl : s.length ≤ 262144 := by omega
  have HST := Lib.hid (show ROI w.heap.size (n / 2) o0 (.slice none 0 0) w ((w.alloc (.cells #[.int .i64 0, .int .i64 0, .int .u64 0, .bool false, .bool false, .string ⟨#[]⟩, .string ⟨#[]⟩] 35)).alloc (.cells (RC (n / 2) (oL o0)) 35)) from by
    refine ⟨(Has.new w _ _).alloc _, ?_, World.ownsRow_nil _ _ _ _, ((Below.refl _ _).alloc (Nat.le_refl _) _).alloc (by simp) _⟩
    have := Has.new (w.alloc (.cells #[.int .i64 0, .int .i64 0, .int .u64 0, .bool false, .bool false, .string ⟨#[]⟩, .string ⟨#[]⟩] 35)) (RC (n / 2) (oL o0)) 35
    rw [World.size_alloc] at this
    exact this)
  have HOP := Lib.hid (opened_fold (n / 2) s)
  generalize n / 2 = q at *
  unfold RC at HST
  clear hs h2 hn
  go_enter Tryd.func12, Tryd.ntmps12
  go_wp2_with fail
  change Code.wp _ _ _ _ ((w.alloc (.cells #[.int .i64 0, .int .i64 0, .int .u64 0, .bool false, .bool false, .string ⟨#[]⟩, .string ⟨#[]⟩] 35)).alloc (.cells #[.int .i64 (q : Int), .int .i64 (oL o0).area, .int .u64 ((oL o0).gen : Int), .bool (oL o0).ready, .bool (oL o0).broken, .string (bs (oL o0).done), .string (bs (oL o0).wait)] 35))
  generalize (w.alloc (.cells #[.int .i64 0, .int .i64 0, .int .u64 0, .bool false, .bool false, .string ⟨#[]⟩, .string ⟨#[]⟩] 35)).alloc (.cells #[.int .i64 (q : Int), .int .i64 (oL o0).area, .int .u64 ((oL o0).gen : Int), .bool (oL o0).ready, .bool (oL o0).broken, .string (bs (oL o0).done), .string (bs (oL o0).wait)] 35) = w1 at *
  generalize hzz : w.heap.size = z at HST ⊢
  have HZZ := Lib.hid hzz
  clear hzz hq
  go_loopw [6, 7, 8] (fun v x i wr => ∃ k : Nat, k ≤ 2 ∧ i = .int .i64 k ∧ x = .int .u64 ((ofold q s k).top : Int) ∧ Hid (ROI z q (ofold q s k) v w wr)) (fun _ _ i _ => 2 - (intOf i).toNat)
  case atStart => exact ⟨0, by omega, rfl, rfl, HST⟩
  case round =>
    obtain ⟨k, hk, rfl, rfl, hP⟩ := hrel
    clear HST
    have HK := Lib.hid (ofold_ok q s k)
    by_cases hlt : k < 2
    · have hqk : q * k ≤ q := by have := Nat.mul_le_mul_left q (show k ≤ 1 by omega); omega
      have HAR := Lib.hid (fun W => Area_calls (ar s q k) (by rw [ar_length _ _ _ (by omega)]; omega) (by rw [ar_length _ _ _ (by omega)]; omega) W)
      have hext := extract_ar s q k
      have HST := Lib.hid (show ofold q s (k + 1) = ostep (k : Int) (rd (ar s q k)) (ofold q s k) from rfl)
      have HRL := Lib.hid (fun g rs (h : rd (ar s q k) = some (g, rs)) => rd_lt h)
      have hm : 64 * (q : Int) * (k : Int) = ((64 * (q * k) : Nat) : Int) := by rw [Int.mul_assoc]; rfl
      have hmq : 64 * (q * k) ≤ 64 * q := by omega
      generalize ar s q k = A at *
      generalize 64 * (q * k) = m at *
      have w1 : IntKind.i64.wrap (64 * (q : Int) * (k : Int)) = (m : Int) := by rw [hm]; exact IntWalk.i64_in _ (by omega)
      have j1 : (m : Int) + 64 * (q : Int) ≤ (s.length : Int) := by omega
      have j2 : ((m : Int) + 64 * (q : Int)).toNat = m + 64 * q := by omega
      clear hm hqk
      generalize rd A = r at *
      generalize hoo : ofold q s k = o at *
      clear hoo
      have hk2 : (k : Int) < 2 := by omega
      have c1 := hP.out.i.c1
      have c2 := hP.out.i.c2
      have HPS := Lib.hid (show z + 2 ≤ wr.heap.size from Has.lt hP.out.i)
      go_wp2_with fail
      refine (HAR.out _).mono ?_
      intro e w2 hrd
      unfold RdPost at hrd
      cases r with
      | none =>
        have HE : Hid (ofold q s (k + 1) = o) := Lib.hid HST.out
        obtain ⟨v2, rfl, -, b2⟩ := hrd
        have HP2 := Lib.hid (hP.out.below b2)
        rw [← HE.out] at HP2
        clear b2 c1 c2
        go_wp2_with fail
        exact ⟨⟨k + 1, by omega, by go_num, by rw [HE.out], HP2⟩, by simp [intOf]; omega⟩
      | some gr =>
        obtain ⟨g, rs⟩ := gr
        have hrd2 : ∃ v, e = .returned (.tuple #[.int .u64 (g : Int), v, .bool true]) ∧ w2.ownsRow wr.heap.size 9 1 v rs.length (Sg.cells rs) ∧ Below wr.heap.size wr w2 := hrd
        obtain ⟨v2, rfl, hv, b2⟩ := hrd2
        have HGL := Lib.hid (HRL.out g rs rfl)
        have HA := Lib.hid HK.out.area
        clear hrd HRL c1 c2
        have hP2 := hP.out.below b2
        have c1 : w2.cell? ⟨z + 1, 1, none⟩ = some (.int .i64 o.area) := hP2.i.c1
        have c2 : w2.cell? ⟨z + 1, 2, none⟩ = some (.int .u64 (o.gen : Int)) := hP2.i.c2
        have f1 := Has.frozen hP2.i 1
        have f2 := Has.frozen hP2.i 2
        have HV := Lib.hid hv
        have HP2 := Lib.hid hP2
        obtain ⟨A2, c2', rfl, -⟩ := Sg.SV.of_own hv
        clear hP2 hv b2
        have fin2 : ROI z q ⟨o.area, max o.gen g, o.top, o.best⟩ u6 w (if o.gen < g then w2.setCell ⟨z + 1, 2, none⟩ (.int .u64 (g : Int)) else w2) := by
          by_cases hg : o.gen < g
          · rw [if_pos hg]
            have hmx : max o.gen g = g := by omega
            rw [hmx]
            exact HP2.out.set (o' := ⟨o.area, g, o.top, o.best⟩) (i := 2) (x := .int .u64 (g : Int)) HZZ.out.symm rfl rfl
          · rw [if_neg hg]
            have hmx : max o.gen g = o.gen := by omega
            rw [hmx]
            exact HP2.out
        have FIN2 := Lib.hid fin2
        clear fin2
        by_cases hc : rs ≠ [] ∧ (o.area < 0 ∨ o.top < g)
        · have HE : Hid (ofold q s (k + 1) = ⟨(k : Int), max o.gen g, g, rs⟩) := Lib.hid (HST.out.trans (if_pos hc))
          obtain ⟨hr, hor⟩ := hc
          have hl0 : 0 < rs.length := List.length_pos_iff.2 hr
          clear hr
          have fin : ∀ w3, ROI z q ⟨o.area, max o.gen g, o.top, o.best⟩ u6 w w3 → (w3.ownsRow (z + 2) 9 1 (.slice A2 rs.length c2') rs.length (Sg.cells rs)) → ROI z q (ofold q s (k + 1)) (.slice A2 rs.length c2') w (w3.setCell ⟨z + 1, 1, none⟩ (.int .i64 (k : Int))) := fun w3 h3 hv3 => by
            rw [HE.out]
            have h2 := h3.set (o' := ⟨(k : Int), max o.gen g, o.top, o.best⟩) (i := 1) (x := .int .i64 (k : Int)) HZZ.out.symm rfl rfl
            exact ⟨h2.zz, h2.i, own_set hv3 ⟨z + 1, 1, none⟩ (by show z + 1 < z + 2; omega) _, h2.b⟩
          have FIN := Lib.hid fin
          clear fin
          have hor2 : 0 ≤ o.area → o.top < g := by omega
          by_cases hg : o.gen < g
          · have HF := Lib.hid (FIN.out _ (by have := FIN2.out; rw [if_pos hg] at this; exact this) (own_set (own_base HV.out HPS.out) ⟨z + 1, 2, none⟩ (by show z + 1 < z + 2; omega) _))
            by_cases hneg : o.area < 0
            all_goals
              clear hor
              go_wp2_with fail
              all_goals
                exact ⟨⟨k + 1, by omega, by go_num, by rw [HE.out], HF⟩, by simp [intOf]; omega⟩
          · have HF := Lib.hid (FIN.out _ (by have := FIN2.out; rw [if_neg hg] at this; exact this) (own_base HV.out HPS.out))
            by_cases hneg : o.area < 0
            all_goals
              clear hor
              go_wp2_with fail
              all_goals
                exact ⟨⟨k + 1, by omega, by go_num, by rw [HE.out], HF⟩, by simp [intOf]; omega⟩
        · have HE : Hid (ofold q s (k + 1) = ⟨o.area, max o.gen g, o.top, o.best⟩) := Lib.hid (HST.out.trans (if_neg hc))
          have hcc : rs.length = 0 ∨ (0 < rs.length ∧ 0 ≤ o.area ∧ ¬ o.top < g) := by
            by_cases hr : rs = []
            · left; rw [hr]; rfl
            · right
              refine ⟨List.length_pos_iff.2 hr, ?_, fun h => hc ⟨hr, .inr h⟩⟩
              rcases Int.lt_or_le o.area 0 with h | h
              · exact absurd ⟨hr, .inl h⟩ hc
              · exact h
          rw [← HE.out] at FIN2
          clear hc
          by_cases hg : o.gen < g
          · have HF := Lib.hid (by have := FIN2.out; rw [if_pos hg] at this; exact this)
            rcases hcc with hl0 | ⟨hl0, hna, hnt⟩
            all_goals
              go_wp2_with fail
              all_goals
                exact ⟨⟨k + 1, by omega, by go_num, by rw [HE.out], HF⟩, by simp [intOf]; omega⟩
          · have HF := Lib.hid (by have := FIN2.out; rw [if_neg hg] at this; exact this)
            rcases hcc with hl0 | ⟨hl0, hna, hnt⟩
            all_goals
              go_wp2_with fail
              all_goals
                exact ⟨⟨k + 1, by omega, by go_num, by rw [HE.out], HF⟩, by simp [intOf]; omega⟩
    · obtain rfl : k = 2 := by omega
      have hk2 : ¬ ((2 : Int) < 2) := by omega
      generalize hoo : ofold q s 2 = o at *
      have HLO := Lib.hid (show oL o = openL q s by unfold openL; rw [← HOP.out]; rfl)
      have HOB := Lib.hid HOP.out
      clear hoo HOP
      have c0 : wr.cell? ⟨z + 1, 0, none⟩ = some (.int .i64 (q : Int)) := hP.out.i.c0
      have c1 : wr.cell? ⟨z + 1, 1, none⟩ = some (.int .i64 o.area) := hP.out.i.c1
      have c2 : wr.cell? ⟨z + 1, 2, none⟩ = some (.int .u64 (o.gen : Int)) := hP.out.i.c2
      have c3 : wr.cell? ⟨z + 1, 3, none⟩ = some (.bool false) := hP.out.i.c3
      have c4 : wr.cell? ⟨z + 1, 4, none⟩ = some (.bool false) := hP.out.i.c4
      have c5 : wr.cell? ⟨z + 1, 5, none⟩ = some (.string ⟨#[]⟩) := hP.out.i.c5
      have c6 : wr.cell? ⟨z + 1, 6, none⟩ = some (.string ⟨#[]⟩) := hP.out.i.c6
      have z0 : wr.cell? ⟨z, 0, none⟩ = some (.int .i64 0) := hP.out.zz.cell 0
      have z1 : wr.cell? ⟨z, 1, none⟩ = some (.int .i64 0) := hP.out.zz.cell 1
      have z2 : wr.cell? ⟨z, 2, none⟩ = some (.int .u64 0) := hP.out.zz.cell 2
      have z3 : wr.cell? ⟨z, 3, none⟩ = some (.bool false) := hP.out.zz.cell 3
      have z4 : wr.cell? ⟨z, 4, none⟩ = some (.bool false) := hP.out.zz.cell 4
      have z5 : wr.cell? ⟨z, 5, none⟩ = some (.string ⟨#[]⟩) := hP.out.zz.cell 5
      have z6 : wr.cell? ⟨z, 6, none⟩ = some (.string ⟨#[]⟩) := hP.out.zz.cell 6
      have zf := hP.out.zz.frozen
      go_wp2_with fail
      refine bodyPost_ret (v := .tuple #[RL q (oL o), u6]) (by simp [results, Tryd.results12, go_sem, RL, RC, oL, z0, z1, z2, z3, z4, z5, z6]; rfl) rfl ?_
      unfold ROpenPost
      rw [← HLO.out, ← HOB.out]
      refine ⟨u6, rfl, ST.of_own (base := z + 2) (n := o.best.length) ?_, ?_⟩
      · exact own_set (own_set (own_set (own_set (own_set (own_set (own_set hP.out.v _ (by show z < z + 2; omega) _) _ (by show z < z + 2; omega) _) _ (by show z < z + 2; omega) _) _ (by show z < z + 2; omega) _) _ (by show z < z + 2; omega) _) _ (by show z < z + 2; omega) _) _ (by show z < z + 2; omega) _
      · have hz : w.heap.size ≤ z := by rw [HZZ.out]; exact Nat.le_refl _
        exact ((((((hP.out.b.setCell (p := ⟨z, 0, none⟩) hz _).setCell (p := ⟨z, 1, none⟩) hz _).setCell (p := ⟨z, 2, none⟩) hz _).setCell (p := ⟨z, 3, none⟩) hz _).setCell (p := ⟨z, 4, none⟩) hz _).setCell (p := ⟨z, 5, none⟩) hz _).setCell (p := ⟨z, 6, none⟩) hz _
end Go.Proofs.YtjnjcjildiadgaaDoor.Wl
/- The walks of the document's broken and Room. -/
namespace Go.Proofs.YtjnjcjildiadgaaDoor.Wl
open Go Go.RowKit Frame Oct Disk
end Go.Proofs.YtjnjcjildiadgaaDoor.Wl
/- The walk of the document's put of blocks. -/
namespace Go.Proofs.YtjnjcjildiadgaaDoor.Wl
open Go Go.RowKit Frame Oct Disk
/-- As the document's put answers. -/
def rputS (q : DSt) (a n : Nat) (x : List UInt8) : DSt × Int := if q.on then rsync { q with wait := wrs a x n } else (q, 16)
theorem canon_put {n : Nat} {s : DSt} (hg : Disk.Good n s) (hi : Inv s) (a m : Nat) (x : List UInt8) (ha : a + m ≤ n) :
    canon (putS s a m x).1 = (rputS (canon s) a m x).1 ∧ (putS s a m x).2 = (rputS (canon s) a m x).2 ∧ Inv (putS s a m x).1 := by
  rcases Bool.eq_false_or_eq_true s.on with ho | ho
  · have hc : canon s = s := canon_on ho
    have hi' : Inv { s with wait := wrs a x m } := ⟨(fun h => by rw [show ({ s with wait := wrs a x m } : DSt).on = s.on from rfl, ho] at h; cases h), hi.arm⟩
    have := canon_sync n { s with wait := wrs a x m } (putS_good hg a m x ha) hi'
    rw [canon_on (show ({ s with wait := wrs a x m } : DSt).on = true from ho)] at this
    unfold putS rputS
    rw [hc, if_pos ho, if_pos ho]
    exact this
  · have e : putS s a m x = (s, 16) := by unfold putS; rw [ho]; rfl
    have e2 : rputS (canon s) a m x = (canon s, 16) := by unfold rputS; rw [canon_is, ho]; rfl
    rw [e, e2]
    exact ⟨rfl, rfl, hi⟩
theorem sizeL : (Tryd.prog.info? 35).map (·.size) = some 7 := by kernel_rfl
theorem six {b : Nat} {a0 a1 a2 a3 a4 a5 : Value} {t : TypeId} {w : World} (h : Has b #[a0, a1, a2, a3, a4, a5] t w) :
    w.cell? ⟨b, 0, none⟩ = some a0 ∧ w.cell? ⟨b, 1, none⟩ = some a1 ∧ w.cell? ⟨b, 2, none⟩ = some a2 ∧ w.cell? ⟨b, 3, none⟩ = some a3 ∧ w.cell? ⟨b, 4, none⟩ = some a4 ∧ w.cell? ⟨b, 5, none⟩ = some a5 := ⟨h.cell 0, h.cell 1, h.cell 2, h.cell 3, h.cell 4, h.cell 5⟩
theorem one7 {b : Nat} {a0 a1 a2 a3 a4 a5 a6 : Value} {t : TypeId} {w : World} (h : Has b #[a0, a1, a2, a3, a4, a5, a6] t w) : w.cell? ⟨b, 0, none⟩ = some a0 := h.cell 0
theorem keep6 {z G : Nat} {a0 a1 a2 a3 a4 a5 c0 c1 c2 c3 c4 c5 c6 : Value} {t t' : TypeId} {wr w2 : World} (hD : Has z #[a0, a1, a2, a3, a4, a5] t w2) (hL : Has (z + 1) #[c0, c1, c2, c3, c4, c5, c6] t' w2) (hB : Below G wr w2) (n2 : ¬ G = z) (n4 : ¬ G = z + 1) (v0 v1 v2 v3 v4 v5 : Value) :
    (((((((w2.setCell ⟨G, 0, none⟩ v0).setCell ⟨G, 1, none⟩ v1).setCell ⟨G, 2, none⟩ v2).setCell ⟨G, 3, none⟩ v3).setCell ⟨G, 4, none⟩ v4).setCell ⟨G, 5, none⟩ v5).cell? ⟨z, 0, none⟩ = some a0 ∧
      ((((((w2.setCell ⟨G, 0, none⟩ v0).setCell ⟨G, 1, none⟩ v1).setCell ⟨G, 2, none⟩ v2).setCell ⟨G, 3, none⟩ v3).setCell ⟨G, 4, none⟩ v4).setCell ⟨G, 5, none⟩ v5).cell? ⟨z, 1, none⟩ = some a1 ∧
      ((((((w2.setCell ⟨G, 0, none⟩ v0).setCell ⟨G, 1, none⟩ v1).setCell ⟨G, 2, none⟩ v2).setCell ⟨G, 3, none⟩ v3).setCell ⟨G, 4, none⟩ v4).setCell ⟨G, 5, none⟩ v5).cell? ⟨z, 2, none⟩ = some a2 ∧
      ((((((w2.setCell ⟨G, 0, none⟩ v0).setCell ⟨G, 1, none⟩ v1).setCell ⟨G, 2, none⟩ v2).setCell ⟨G, 3, none⟩ v3).setCell ⟨G, 4, none⟩ v4).setCell ⟨G, 5, none⟩ v5).cell? ⟨z, 3, none⟩ = some a3 ∧
      ((((((w2.setCell ⟨G, 0, none⟩ v0).setCell ⟨G, 1, none⟩ v1).setCell ⟨G, 2, none⟩ v2).setCell ⟨G, 3, none⟩ v3).setCell ⟨G, 4, none⟩ v4).setCell ⟨G, 5, none⟩ v5).cell? ⟨z, 4, none⟩ = some a4 ∧
      ((((((w2.setCell ⟨G, 0, none⟩ v0).setCell ⟨G, 1, none⟩ v1).setCell ⟨G, 2, none⟩ v2).setCell ⟨G, 3, none⟩ v3).setCell ⟨G, 4, none⟩ v4).setCell ⟨G, 5, none⟩ v5).cell? ⟨z, 5, none⟩ = some a5) ∧
      ((((((w2.setCell ⟨G, 0, none⟩ v0).setCell ⟨G, 1, none⟩ v1).setCell ⟨G, 2, none⟩ v2).setCell ⟨G, 3, none⟩ v3).setCell ⟨G, 4, none⟩ v4).setCell ⟨G, 5, none⟩ v5).cell? ⟨z + 1, 0, none⟩ = some c0 ∧
      Below G wr ((((((w2.setCell ⟨G, 0, none⟩ v0).setCell ⟨G, 1, none⟩ v1).setCell ⟨G, 2, none⟩ v2).setCell ⟨G, 3, none⟩ v3).setCell ⟨G, 4, none⟩ v4).setCell ⟨G, 5, none⟩ v5) ∧
      Has z #[a0, a1, a2, a3, a4, a5] t ((((((w2.setCell ⟨G, 0, none⟩ v0).setCell ⟨G, 1, none⟩ v1).setCell ⟨G, 2, none⟩ v2).setCell ⟨G, 3, none⟩ v3).setCell ⟨G, 4, none⟩ v4).setCell ⟨G, 5, none⟩ v5) := by
  have hD6 := (((((hD.set_other (p := ⟨G, 0, none⟩) n2 v0).set_other (p := ⟨G, 1, none⟩) n2 v1).set_other (p := ⟨G, 2, none⟩) n2 v2).set_other (p := ⟨G, 3, none⟩) n2 v3).set_other (p := ⟨G, 4, none⟩) n2 v4).set_other (p := ⟨G, 5, none⟩) n2 v5
  have hL6 := (((((hL.set_other (p := ⟨G, 0, none⟩) n4 v0).set_other (p := ⟨G, 1, none⟩) n4 v1).set_other (p := ⟨G, 2, none⟩) n4 v2).set_other (p := ⟨G, 3, none⟩) n4 v3).set_other (p := ⟨G, 4, none⟩) n4 v4).set_other (p := ⟨G, 5, none⟩) n4 v5
  exact ⟨six hD6, one7 hL6, below6 hB (Nat.le_refl _) v0 v1 v2 v3 v4 v5, hD6⟩
end Go.Proofs.YtjnjcjildiadgaaDoor.Wl
/- The document's put again, told of the program's disk; what stays so behind the log's methods. -/
namespace Go.Proofs.YtjnjcjildiadgaaDoor.Wl
open Go Go.RowKit Frame Oct Disk
/-- The document's disk, by value, on which nothing waits. -/
def RD0 (q : DSt) : Value := RD q (.slice none 0 0)
theorem commit_inv {n : Nat} {s : DSt} {l : LSt} (h : LInv n s l) (hi : Inv s) : Inv (commitS s l (n / 2)).1 := by
  have hn := h.four
  unfold commitS
  by_cases he : checkE l ≠ 0
  · rw [if_pos he]; exact hi
  rw [if_neg he]
  by_cases h1 : l.wait = []
  · rw [if_pos h1]; exact hi
  rw [if_neg h1]
  have hr := (checkE_ok (show checkE l = 0 by omega)).2
  obtain ⟨m1, m2, m3⟩ := many_bounds n l h.rm h1
  have ha := h.area
  have ha2 := (h.ready hr).1
  have hm : n / 2 * l.area.toNat ≤ n / 2 := by have : l.area.toNat ≤ 1 := by omega
                                               have := Nat.mul_le_mul_left (n / 2) this; omega
  obtain ⟨-, -, k1⟩ := canon_put h.good hi (n / 2 * l.area.toNat + (1 + from_ l)) (many l) (pad (text l) (many l)) (by omega)
  generalize putS s (n / 2 * l.area.toNat + (1 + from_ l)) (many l) (pad (text l) (many l)) = p1 at *
  by_cases e1 : p1.2 ≠ 0
  · simp only [if_pos e1]; exact k1
  simp only [if_neg e1]
  exact k1
theorem begin_inv {n : Nat} {s : DSt} {l : LSt} (h : LInv n s l) (hi : Inv s) (img : List UInt8) : Inv (beginS s l (n / 2) img).1 := by
  have hn := h.four
  have ht := tgt_mul (n / 2) l.area
  unfold beginS
  by_cases he : beginE l (n / 2) img ≠ 0
  · rw [if_pos he]; exact hi
  rw [if_neg he]
  obtain ⟨h1, h2, h3, h4, h5, h6⟩ := beginE_ok (show beginE l (n / 2) img = 0 by omega)
  obtain ⟨g1, w1, -⟩ := putS_out h.good h.wait (n / 2 * tgt l.area) 1 (noughts 64) (by omega) (by simp)
  obtain ⟨-, -, k1⟩ := canon_put h.good hi (n / 2 * tgt l.area) 1 (noughts 64) (by omega)
  generalize putS s (n / 2 * tgt l.area) 1 (noughts 64) = p1 at *
  by_cases e1 : p1.2 ≠ 0
  · simp only [if_pos e1]; exact k1
  simp only [if_neg e1]
  obtain ⟨g2, w2, -⟩ := putS_out g1 w1 (n / 2 * tgt l.area + 1) (n / 2 - 1) (pad (Sg.one img) (n / 2 - 1)) (by omega) (pad_length _ _ h5)
  obtain ⟨-, -, k2⟩ := canon_put g1 k1 (n / 2 * tgt l.area + 1) (n / 2 - 1) (pad (Sg.one img) (n / 2 - 1)) (by omega)
  generalize putS p1.1 (n / 2 * tgt l.area + 1) (n / 2 - 1) (pad (Sg.one img) (n / 2 - 1)) = p2 at *
  by_cases e2 : p2.2 ≠ 0
  · simp only [if_pos e2]; exact k2
  simp only [if_neg e2]
  obtain ⟨-, -, k3⟩ := canon_put g2 k2 (n / 2 * tgt l.area) 1 (pad (headOf (l.gen + 1)) 1) (by omega)
  generalize putS p2.1 (n / 2 * tgt l.area) 1 (pad (headOf (l.gen + 1)) 1) = p3 at *
  by_cases e3 : p3.2 ≠ 0
  · simp only [if_pos e3]; exact k3
  simp only [if_neg e3]
  exact k3
end Go.Proofs.YtjnjcjildiadgaaDoor.Wl
/- The walk of the document's Append. -/
namespace Go.Proofs.YtjnjcjildiadgaaDoor.Wl
open Go Go.RowKit Frame Oct Disk
def zeroL : Array Value := #[.int .i64 0, .int .i64 0, .int .u64 0, .bool false, .bool false, .string ⟨#[]⟩, .string ⟨#[]⟩]
theorem seven {b : Nat} {a0 a1 a2 a3 a4 a5 a6 : Value} {t : TypeId} {w : World} (h : Has b #[a0, a1, a2, a3, a4, a5, a6] t w) :
    w.cell? ⟨b, 0, none⟩ = some a0 ∧ w.cell? ⟨b, 1, none⟩ = some a1 ∧ w.cell? ⟨b, 2, none⟩ = some a2 ∧ w.cell? ⟨b, 3, none⟩ = some a3 ∧ w.cell? ⟨b, 4, none⟩ = some a4 ∧ w.cell? ⟨b, 5, none⟩ = some a5 ∧ w.cell? ⟨b, 6, none⟩ = some a6 := ⟨h.cell 0, h.cell 1, h.cell 2, h.cell 3, h.cell 4, h.cell 5, h.cell 6⟩
theorem below7 {B b : Nat} {a w : World} (h : Below B a w) (hb : B ≤ b) (v0 v1 v2 v3 v4 v5 v6 : Value) :
    Below B a (((((((w.setCell ⟨b, 0, none⟩ v0).setCell ⟨b, 1, none⟩ v1).setCell ⟨b, 2, none⟩ v2).setCell ⟨b, 3, none⟩ v3).setCell ⟨b, 4, none⟩ v4).setCell ⟨b, 5, none⟩ v5).setCell ⟨b, 6, none⟩ v6) :=
  ((((((h.setCell (p := ⟨b, 0, none⟩) hb v0).setCell (p := ⟨b, 1, none⟩) hb v1).setCell (p := ⟨b, 2, none⟩) hb v2).setCell (p := ⟨b, 3, none⟩) hb v3).setCell (p := ⟨b, 4, none⟩) hb v4).setCell (p := ⟨b, 5, none⟩) hb v5).setCell (p := ⟨b, 6, none⟩) hb v6
/-- What holds inside the document's Append: the log in its box, the result's block. -/
structure RaI (z h : Nat) (l : LSt) (w wr : World) : Prop where
  g : RB z h l wr
  zz : Has (z + 1) zeroL 35 wr
  b : Below w.heap.size w wr
theorem RaI.below {z h : Nat} {l : LSt} {w wr w' : World} (H : RaI z h l w wr) (hb : Below wr.heap.size wr w') : RaI z h l w w' :=
  ⟨Has.below H.g hb, H.zz.below hb, bthen H.b hb⟩
theorem RaI.start (h : Nat) (l : LSt) (w : World) :
    RaI w.heap.size h l w ((w.alloc (.cells (RC h l) 35)).alloc (.cells zeroL 35)) := by
  refine ⟨(Has.new _ _ _).alloc _, ?_, ((Below.refl w.heap.size w).alloc (Nat.le_refl _) _).alloc (by simp) _⟩
  have := Has.new (w.alloc (.cells (RC h l) 35)) zeroL 35
  rw [World.size_alloc] at this
  exact this
def RApp (q : Nat) (l : LSt) (rs : List (List UInt8)) (w : World) (e : Ending) (w' : World) : Prop :=
  e = .returned (.tuple #[RL q (appendS l q rs).1, .int .i64 (appendS l q rs).2]) ∧ Below w.heap.size w w'
theorem RApp.mk {q : Nat} {l l' : LSt} {rs : List (List UInt8)} {x : Int} {w w' : World} (hb : appendS l q rs = (l', x)) (h : Below w.heap.size w w') : RApp q l rs w (.returned (.tuple #[RL q l', .int .i64 x])) w' := by
  unfold RApp; rw [hb]; exact ⟨rfl, h⟩
end Go.Proofs.YtjnjcjildiadgaaDoor.Wl
