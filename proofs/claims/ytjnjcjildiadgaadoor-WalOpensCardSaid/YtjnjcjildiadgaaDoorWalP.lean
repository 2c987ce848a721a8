/- Merged: WalPut, WalPutB, WalBegin, WalAppend, WalCommit, WalRead, WalOpen. -/
import Derived.Test.YtjnjcjildiadgaaDoorWalWalk
import Derived.Test.YtjnjcjildiadgaaDoorShelf
import Derived.Deep.RegionHeld3
import Derived.RegionTactic
import Derived.ChangeAlike
import Derived.BigRegion
import Derived.Test.YtjnjcjildiadgaaDoorSegS
import Derived.Test.YtjnjcjildiadgaaDoorOctNum
/- The walks of wal: headOf, fail, put. -/
namespace Go.Proofs.YtjnjcjildiadgaaDoor.Wl
open Go Go.RowKit Frame Oct Disk
theorem Repeat_0 (c : Nat) (hc : c ≤ 1000000) (w : World) :
    Calls Tryd.prog 52 #[.string ⟨#[0]⟩, .int .i64 (c : Int)] w fun e w' => e = .returned (.string (bs (noughts c))) ∧ Below w.heap.size w w' := by
  rcases Nat.lt_or_ge c 2 with h | h
  · have h' : c = 0 ∨ c = 1 := by omega
    rcases h' with rfl | rfl
    · exact (Tryd.strings_Repeat_zero _ w).mono fun e w' ⟨he, hw⟩ => ⟨he, by rw [hw]; exact Below.refl _ _⟩
    · exact (Tryd.strings_Repeat_one _ w).mono fun e w' ⟨he, hw⟩ => ⟨he, by rw [hw]; exact Below.refl _ _⟩
  · refine (Tryd.strings_Repeat_main ⟨#[0]⟩ c w h (by omega) (by show 1 * c ≤ _; omega) (by decide)).mono fun e w' ⟨he, hw⟩ => ⟨?_, hw⟩
    rw [he]
    congr 3
    have : ∀ n, Lib.repeatL [(0 : UInt8)] n = List.replicate n 0 := by
      intro n
      induction n with
      | zero => rfl
      | succ n ih => rw [List.replicate_succ, ← ih]; rfl
    exact congrArg List.toArray (this c)
theorem after_drew' {w w1 : World} (hb : Below w.drew.heap.size w.drew w1) : Below w.heap.size w w1 := ⟨hb.os, hb.tape, hb.output, hb.size, hb.block⟩
set_option maxRecDepth 100000 in
set_option maxHeartbeats 1000000 in
theorem headOf_calls (g : Nat) (w : World) (hT : Crc.Tab w) :
    Calls Tryd.prog 40 #[.int .u64 (g : Int)] w fun e w' => e = .returned (.string (bs (headOf g))) ∧ Below w.heap.size w w' := by
  have HR := Lib.hid (fun W => Sg.raw_any [] [83, 84, 82, 87] (by simp) (by simp) W)
  have HN := Lib.hid (fun W => Sg.num_any [83, 84, 82, 87] (by simp) g 8 (by decide) W)
  rw [List.nil_append] at HR
  rw [show (8 : Int).toNat = 8 from rfl, show [83, 84, 82, 87] ++ be 8 g = hd g from rfl] at HN
  have hfl : (hd g).length ≤ 2000000 := by rw [hd_length]; omega
  have HT := Lib.hid hT
  have HBY := Lib.hid (show headOf g = hd g ++ (be 4 (Crc.sum (hd g)) ++ [165]) from rfl)
  clear hT
  generalize hd g = fr at *
  go_enter Tryd.func40, Tryd.ntmps40
  go_wp2_with fail
  refine (HR.out _).mono ?_
  rintro e w1 ⟨rfl, b1⟩
  have B1 := Lib.hid b1
  go_wp2_with fail
  refine (HN.out _).mono ?_
  rintro e w3 ⟨rfl, b3⟩
  have B3 := Lib.hid (bthen B1.out b3)
  clear b1 b3 B1
  go_wp2_with fail
  have HO4 := Lib.hid (Has.new w3 #[.string (bs fr), .int .i64 0] 85)
  have HB4 := Lib.hid (B3.out.alloc B3.out.size (.cells #[.string (bs fr), .int .i64 0] 85))
  have HT4 := Lib.hid (HT.out.below HB4.out)
  generalize w3.alloc (.cells #[.string (bs fr), .int .i64 0] 85) = w4 at *
  generalize w3.heap.size = p at *
  have HO5 := Lib.hid HO4.out.drew
  have y0 : w4.drew.cell? ⟨p, 0, none⟩ = some (.string (bs fr)) := HO5.out.cell 0
  have y1 : w4.drew.cell? ⟨p, 1, none⟩ = some (.int .i64 0) := HO5.out.cell 1
  have hsl := Crc.sum_lt fr
  have g3 : IntKind.u64.wrap ((Crc.sum fr : Nat) : Int) = ((Crc.sum fr : Nat) : Int) := IntWalk.u64_in _ (by omega)
  have HM4 := Lib.hid (fun W => Sg.num_any fr (by omega) (Crc.sum fr) 4 (by decide) W)
  have HM1 := Lib.hid (fun W => Sg.num_any (fr ++ be 4 (Crc.sum fr)) (by simp [be_length]; omega) 165 1 (by decide) W)
  rw [show (4 : Int).toNat = 4 from rfl] at HM4
  rw [show be (1 : Int).toNat 165 = [165] from rfl] at HM1
  have HST := Lib.hid (fun W => OutString_calls (bs fr) 0 W)
  have HSE := Lib.hid (fun W => OutString_calls (bs (fr ++ (be 4 (Crc.sum fr) ++ [165]))) 0 W)
  have tok2 : True := trivial
  have tok3 : True := trivial
  go_region_held3 (fun w' => w'.cell? ⟨p, 0, none⟩ = some (.string (bs fr)) ∧ w'.cell? ⟨p, 1, none⟩ = some (.int .i64 0))
    (first
      | with_reducible exact Frm.two HO5.out
      | with_reducible exact Frm.two (HO5.out.below b5)
      | with_reducible exact Frm.two ((HO5.out.below b5).alloc (.cells #[.string (bs fr)] 9))
      | with_reducible exact Frm.two (((HO5.out.below b5).alloc (.cells #[.string (bs fr)] 9)).below b7)
      | with_reducible exact Frm.two ((((HO5.out.below b5).alloc (.cells #[.string (bs fr)] 9)).below b7).below b8)
      | with_reducible exact Frm.two (((((HO5.out.below b5).alloc (.cells #[.string (bs fr)] 9)).below b7).below b8).below b9))
    (first
      | (go_at_call 56; refine (Frm.Sum_one w5.heap.size fr (by unfold maxLen; omega) _ ((HT4.out.below (after_drew' b5)).below ((Below.refl _ _).alloc (Nat.le_refl _) _)) ((Has.new w5 _ _).cell 0)).mono ?_; rintro e w6 ⟨rfl, rfl⟩)
      | (go_at_call 57; have _t := tok2; refine (HST.out _).mono ?_; rintro e w5 ⟨rfl, b5⟩; clear _t tok2)
      | (go_at_call 55; have _t := tok3; refine (HM4.out _).mono ?_; rintro e w7 ⟨rfl, b7⟩; clear _t tok3)
      | (go_at_call 55; refine (HM1.out _).mono ?_; rintro e w8 ⟨rfl, b8⟩)
      | (go_at_call 57; refine (HSE.out _).mono ?_; rintro e w9 ⟨rfl, b9⟩))
  have Q9 := Lib.hid (bthen (bthen (bthen (bthen HB4.out (after_drew' b5)) (after_alloc b7)) b8) b9)
  clear b5 b7 b8 b9
  go_wp2_with fail
  go_ret
  exact ⟨by rw [HBY.out]; rfl, Q9.out⟩
set_option maxHeartbeats 1000000 in
theorem fail_calls (B p d L : Nat) (s : DSt) (l : LSt) (x : Int) (w0 w : World) (h : WD B p d L s l w0 w) :
    Calls Tryd.prog 53 #[.pointer (some ⟨p, 0, none⟩), .int .i64 x] w fun e w' => e = .returned (.int .i64 x) ∧ WD B p d L s (brk l) w0 w' := by
  have c3 := h.lg.c3
  have c4 := h.lg.c4
  have f3 := Has.frozen h.lg 3
  have f4 := Has.frozen h.lg 4
  have HX := Lib.hid (show WD B p d L s (brk l) w0 _ from ((WP.set h 3 (.bool false)).set 4 (.bool true)))
  clear h
  go_enter Tryd.func53, Tryd.ntmps53
  go_wp2
  go_ret
  exact ⟨rfl, HX.out⟩
end Go.Proofs.YtjnjcjildiadgaaDoor.Wl
/- The walk of wal.put. -/
namespace Go.Proofs.YtjnjcjildiadgaaDoor.Wl
open Go Go.RowKit Frame Oct Disk
theorem extract_blk (x : List UInt8) (k : Nat) : (bs x).extract (k * 64) ((k + 1) * 64) = bs ((x.drop (64 * k)).take 64) := by
  apply ba_ext
  rw [bs_toList, ByteArray.data_extract, Array.toList_extract]
  show (x.drop (k * 64)).take _ = _
  rw [Nat.mul_comm k 64]
  congr 1
  omega
theorem wrote_wrs {n : Nat} {s : DSt} (hg : Disk.Good n s) (ho : s.on = true) (a N k : Nat) (x : List UInt8) (hk : k < N) (ha : a + N ≤ n) :
    ans { s with wait := wrs a x k } ((a + k : Nat) : Int) (bs ((x.drop (64 * k)).take 64)) = 0 ∧ wrote { s with wait := wrs a x k } ((a + k : Nat) : Int) (bs ((x.drop (64 * k)).take 64)) = { s with wait := wrs a x (k + 1) } := by
  have hc : chk { s with wait := wrs a x k } ((a + k : Nat) : Int) = 0 := by
    unfold chk
    rw [if_neg (by show ¬ s.on = false; rw [ho]; decide), if_neg]
    have := hg.len
    show ¬ (((a + k : Nat) : Int) < 0 ∨ (s.last.length : Int) / 64 ≤ ((a + k : Nat) : Int))
    omega
  have hz : (bs ((x.drop (64 * k)).take 64)).size ≤ 64 := by rw [bs_size]; simp; omega
  have ha : ans { s with wait := wrs a x k } ((a + k : Nat) : Int) (bs ((x.drop (64 * k)).take 64)) = 0 := by
    unfold ans
    rw [if_neg (by rw [hc]; decide), if_neg (by omega)]
  refine ⟨ha, ?_⟩
  unfold wrote
  rw [if_pos ha]
  rfl
theorem wrote_off {s : DSt} (ho : s.on = false) (k : Int) (t : ByteArray) : ans s k t = 16 ∧ wrote s k t = s := by
  have hc : chk s k = 16 := by unfold chk; rw [if_pos ho]
  have ha : ans s k t = 16 := by unfold ans; rw [hc]; rfl
  refine ⟨ha, ?_⟩
  unfold wrote
  rw [ha]; rfl
/-- How a put comes out. -/
def PutPost (B p d L a N : Nat) (s : DSt) (l : LSt) (X : List UInt8) (w0 : World) (e : Ending) (w' : World) : Prop :=
  e = .returned (.int .i64 (putS s a N X).2) ∧ WD B p d L (putS s a N X).1 (if (putS s a N X).2 ≠ 0 then brk l else l) w0 w'
/-- What holds of a put's loop. -/
structure PutI (B p d L a k : Nat) (s : DSt) (l : LSt) (X : List UInt8) (w0 wr : World) : Prop where
  i : WD B p d L { s with wait := wrs a X k } l w0 wr
  o : s.on = false → k = 0
set_option maxRecDepth 100000 in
set_option maxHeartbeats 300000 in
theorem put_calls (B p d L n : Nat) (s : DSt) (l : LSt) (hi : LInv n s l) (area block least N a : Nat) (x : List UInt8) (hN : N = max least ((x.length + 63) / 64)) (h1 : 1 ≤ N) (hae : a = n / 2 * area + block) (ha : a + N ≤ n) (har : area ≤ 1) (w0 w : World) (h : WD B p d L s l w0 w) :
    Calls Tryd.prog 37 #[.pointer (some ⟨p, 0, none⟩), .int .i64 (area : Int), .int .i64 (block : Int), .int .i64 (least : Int), .string (bs x)] w (PutPost B p d L a N s l (pad x N) w0) := by
  have hn := hi.good.hn
  have hxN : x.length ≤ 64 * N := by omega
  have hpl := pad_length x N hxN
  have hzx : (bs x).size = x.length := bs_size _
  have hmx : max (least : Int) (((x.length : Int) + 64 - 1) / 64) = (N : Int) := by omega
  have HRP := Lib.hid (Repeat_0 (64 * N - x.length) (by omega))
  have HRC := Lib.hid (show ((64 * N - x.length : Nat) : Int) = (N : Int) * 64 - (x.length : Int) by omega)
  rw [HRC.out] at HRP
  have HPD := Lib.hid (show bs x ++ bs (noughts (64 * N - x.length)) = bs (pad x N) from bs_append _ _)
  have hzn : (bs (noughts (64 * N - x.length))).size = 64 * N - x.length := by rw [bs_size]; simp
  have HI := Lib.hid hi
  have H := Lib.hid h
  have hN4 : N ≤ 4096 := by omega
  have HAE := Lib.hid hae
  clear h hi hN hae
  generalize hX : pad x N = X at *
  have HX := Lib.hid hX
  clear hX
  go_enter Tryd.func37, Tryd.ntmps37
  go_wp2_with fail
  refine (HRP.out _).mono ?_
  rintro e w1 ⟨rfl, b1⟩
  have H1 := Lib.hid (H.out.below b1)
  clear b1
  go_wp2_with fail
  rw [HPD.out]
  clear HRP HRC HPD hzn hmx hzx hxN
  have hW0 : s.wait = [] := HI.out.wait
  have HST := Lib.hid (show PutI B p d L a 0 s l X w0 w1 from ⟨by rw [show ({ s with wait := wrs a X 0 } : DSt) = s by rw [show wrs a X 0 = [] from rfl, ← hW0]]; exact H1.out, fun _ => rfl⟩)
  clear H1 H
  have HQ := Lib.hid hW0
  have HG := Lib.hid HI.out.good
  clear hW0
  have hd2 : n / 2 ≤ 2048 := by omega
  have hq2 : n / 2 * area ≤ 2048 := by have := Nat.mul_le_mul_left (n / 2) har; omega
  have HBL := Lib.hid (fun s' W ho k1 k2 => blocks_calls B p d L n s' l ho W k1 k2)
  generalize n / 2 = q at *
  have HE0 := Lib.hid (show (area : Int) * (q : Int) = ((q * area : Nat) : Int) by rw [Nat.mul_comm]; rfl)
  generalize q * area = qa at *
  have hae := HAE.out
  have g0 : ∀ k : Nat, (qa : Int) + (block : Int) + (k : Int) = ((a + k : Nat) : Int) := fun k => by omega
  have G0 := Lib.hid g0
  have hba : block ≤ a ∧ qa ≤ a := by omega
  clear hae g0
  go_loopw [31] (fun i wr => ∃ k : Nat, k ≤ N ∧ i = .int .i64 k ∧ Hid (PutI B p d L a k s l X w0 wr)) (fun i _ => N - (intOf i).toNat)
  case atStart => exact ⟨0, by omega, rfl, HST⟩
  case round =>
    obtain ⟨k, hk, rfl, hP⟩ := hrel
    clear HST
    by_cases hlt : k < N
    · have HD := Lib.hid hP.out.i.drew
      have y0 : wr.drew.cell? ⟨p, 0, none⟩ = some (.pointer (some ⟨d, 0, none⟩)) := HD.out.lg.c0
      have HGk := Lib.hid (putS_good HG.out a k X (by omega))
      have HB1 := Lib.hid (HBL.out _ _ HGk.out HD.out.one HD.out.lg)
      have e1 := HE0.out
      have g1 : IntKind.i64.wrap ((area : Int) * (q : Int)) = (qa : Int) := by rw [e1]; exact IntWalk.i64_in _ (by omega)
      have g2 : IntKind.i64.wrap ((qa : Int) + (block : Int)) = (qa : Int) + (block : Int) := IntWalk.i64_in _ (by omega)
      have g3 : IntKind.i64.wrap ((qa : Int) + (block : Int) + (k : Int)) = ((a + k : Nat) : Int) := by rw [IntWalk.i64_in _ (by omega)]; exact G0.out k
      have g4 : IntKind.i64.wrap ((k : Int) * 64) = (k : Int) * 64 := IntWalk.i64_in _ (by omega)
      have g5 : IntKind.i64.wrap ((k : Int) + 1) = (k : Int) + 1 := IntWalk.i64_in _ (by omega)
      have g6 : IntKind.i64.wrap (((k : Int) + 1) * 64) = ((k : Int) + 1) * 64 := IntWalk.i64_in _ (by omega)
      have j1 : (0 : Int) ≤ (k : Int) * 64 := by omega
      have j2 : (k : Int) * 64 ≤ ((k : Int) + 1) * 64 := by omega
      have hXs : (bs X).size = 64 * N := by rw [bs_size]; exact hpl
      have j3 : ((k : Int) + 1) * 64 ≤ ((64 * N : Nat) : Int) := by omega
      have j7 : ((k : Int) + 1) * 64 ≤ 64 * (N : Int) := by omega
      have j8 : (k + 1) * 64 ≤ 64 * N := by omega
      have j9 : (0 : Int) ≤ ((k : Int) + 1) * 64 := by omega
      have j10 : (k : Int) ≤ (k : Int) + 1 := by omega
      have j4 : ((k : Int) * 64).toNat = k * 64 := by omega
      have j5 : (((k : Int) + 1) * 64).toNat = (k + 1) * 64 := by omega
      have j6 : (bs X).extract (k * 64) ((k + 1) * 64) = bs ((X.drop (64 * k)).take 64) := extract_blk X k
      clear e1
      have HC0 := Lib.hid (HD.out.one.calls fun v hd => Write_any B d L n v _ ((a + k : Nat) : Int) (bs ((X.drop (64 * k)).take 64)) HGk.out (by show (wrs _ X k).length + 1 ≤ 100000; rw [wrs_length]; omega) wr.drew hd)
      rcases Bool.eq_false_or_eq_true s.on with ho | ho
      · obtain ⟨a1, a2⟩ := wrote_wrs HG.out ho a N k X hlt (by omega)
        rw [a1, a2] at HC0
        have HOn := Lib.hid ho
        clear a1 a2 ho
        go_wp2_with fail
        go_region_held3 (fun w' => w'.cell? ⟨p, 0, none⟩ = some (.pointer (some ⟨d, 0, none⟩)))
          (first
            | with_reducible exact y0
            | with_reducible exact (Lg.c0 (HD.out.lg.kept k2)))
          (first
            | (go_at_call 39; (with_reducible refine HB1.out.mono ?_); rintro e w2 ⟨rfl, rfl⟩)
            | (go_at_call 8; refine HC0.out.mono ?_; rintro e w2 ⟨rfl, o2, b2, k2⟩))
        have HP2 := Lib.hid (show PutI B p d L a (k + 1) s l X w0 w2 from ⟨HD.out.disk o2 b2 k2, fun h => absurd h (by rw [HOn.out]; decide)⟩)
        clear y0 g1 g2 g3 g4 g5 g6 j1 j2 j3 j4 j5 j6 j7 j8 j9 j10 HC0 hXs
        all_goals
          go_wp2_with fail
          exact ⟨⟨k + 1, by omega, by go_num, HP2⟩, by simp [intOf]; omega⟩
      · have hk0 := hP.out.o ho
        obtain ⟨a1, a2⟩ := wrote_off (s := { s with wait := wrs a X k }) ho ((a + k : Nat) : Int) (bs ((X.drop (64 * k)).take 64))
        rw [a1, a2] at HC0
        have HOf := Lib.hid ho
        have HK0 := Lib.hid hk0
        clear a1 a2 ho hk0
        go_wp2_with fail
        go_region_held3 (fun w' => w'.cell? ⟨p, 0, none⟩ = some (.pointer (some ⟨d, 0, none⟩)))
          (first
            | with_reducible exact y0
            | with_reducible exact (Lg.c0 (HD.out.lg.kept k2)))
          (first
            | (go_at_call 39; (with_reducible refine HB1.out.mono ?_); rintro e w2 ⟨rfl, rfl⟩)
            | (go_at_call 8; refine HC0.out.mono ?_; rintro e w2 ⟨rfl, o2, b2, k2⟩))
        have HP2 := Lib.hid (HD.out.disk o2 b2 k2)
        clear y0 g1 g2 g3 g4 g5 g6 j1 j2 j3 j4 j5 j6 j7 j8 j9 j10 HC0 hXs
        go_wp2_with fail
        refine (fail_calls B p d L _ l 16 w0 _ HP2.out).mono ?_
        rintro e w3 ⟨rfl, h3⟩
        go_wp2_with fail
        go_ret
        have hk0 := HK0.out
        subst hk0
        have e1 : putS s a N X = (s, 16) := by unfold putS; rw [HOf.out]; rfl
        unfold PutPost
        rw [e1]
        have e2 : ({ s with wait := wrs a X 0 } : DSt) = s := by rw [show wrs a X 0 = [] from rfl, ← HQ.out]
        rw [e2] at h3
        exact ⟨rfl, h3⟩
    · obtain rfl : k = N := by omega
      clear hlt
      have HGk := Lib.hid (putS_good HG.out a k X (by omega))
      have ho : s.on = true := by
        rcases Bool.eq_false_or_eq_true s.on with ho | ho
        · exact ho
        · have := hP.out.o ho; omega
      have HPU := Lib.hid (show putS s a k X = synced { s with wait := wrs a X k } by unfold putS; rw [if_pos ho])
      clear ho
      have c0 := hP.out.i.lg.c0
      have HC0 := Lib.hid (hP.out.i.one.calls fun v hd => Sync_any B d L n v _ HGk.out wr hd)
      have h16 : (synced { s with wait := wrs a X k }).2 = 0 ∨ (synced { s with wait := wrs a X k }).2 = 16 := by
        unfold synced
        split
        · split
          · exact .inr rfl
          · exact .inl rfl
        · exact .inr rfl
      rw [← HPU.out] at HC0 h16
      have HPS := Lib.hid (show ∀ w', One B d L (putS s a k X).1 w' → Below B wr w' → Kept wr w' → WD B p d L (putS s a k X).1 l w0 w' from fun w' a1 a2 a3 => hP.out.i.disk a1 a2 a3)
      generalize hr : putS s a k X = r at *
      have HRR := Lib.hid hr
      clear hr
      obtain ⟨r1, r2⟩ := r
      simp only at HC0 h16 HPS
      rcases h16 with h16 | h16
      · subst h16
        go_wp2_with fail
        refine HC0.out.mono ?_
        rintro e w2 ⟨rfl, o2, b2, k2⟩
        have HF := Lib.hid (HPS.out w2 o2 b2 k2)
        clear o2 b2 k2
        go_wp2_with fail
        go_ret
        unfold PutPost
        rw [HRR.out]
        exact ⟨rfl, HF.out⟩
      · subst h16
        go_wp2_with fail
        refine HC0.out.mono ?_
        rintro e w2 ⟨rfl, o2, b2, k2⟩
        have HF := Lib.hid (HPS.out w2 o2 b2 k2)
        clear o2 b2 k2
        go_wp2_with fail
        refine (fail_calls B p d L _ l 16 w0 _ HF.out).mono ?_
        rintro e w3 ⟨rfl, h3⟩
        have H3 := Lib.hid h3
        clear h3
        go_wp2_with fail
        go_ret
        unfold PutPost
        rw [HRR.out]
        exact ⟨rfl, H3.out⟩
end Go.Proofs.YtjnjcjildiadgaaDoor.Wl
/- The walk of wal.Begin. -/
namespace Go.Proofs.YtjnjcjildiadgaaDoor.Wl
open Go Go.RowKit Frame Oct Disk
theorem tab_bel {B : Nat} {w0 w : World} (hT : Crc.Tab w0) (hB : 0 < B) (h : Below B w0 w) : Crc.Tab w := fun i hi => (h.cell (p := ⟨0, i, none⟩) hB).trans (hT i hi)
section
variable {s : DSt} {l : LSt} {h : Nat} {img : List UInt8}
theorem begin_0 (he : beginE l h img ≠ 0) : beginS s l h img = (s, l, beginE l h img) := by unfold beginS; rw [if_pos he]
theorem begin_1 (he : beginE l h img = 0) {d1 : DSt} {e1 : Int} (h1 : putS s (h * tgt l.area) 1 (noughts 64) = (d1, e1)) (hne : e1 ≠ 0) : beginS s l h img = (d1, brk l, e1) := by
  unfold beginS
  rw [if_neg (by omega)]
  simp only [h1, if_pos hne]
theorem begin_2 (he : beginE l h img = 0) {d1 d2 : DSt} {e2 : Int} (h1 : putS s (h * tgt l.area) 1 (noughts 64) = (d1, 0)) (h2 : putS d1 (h * tgt l.area + 1) (h - 1) (pad (Sg.one img) (h - 1)) = (d2, e2)) (hne : e2 ≠ 0) : beginS s l h img = (d2, brk l, e2) := by
  unfold beginS
  rw [if_neg (by omega)]
  simp only [h1, h2]
  rw [if_neg (by decide), if_pos hne]
theorem begin_3 (he : beginE l h img = 0) {d1 d2 d3 : DSt} {e3 : Int} (h1 : putS s (h * tgt l.area) 1 (noughts 64) = (d1, 0)) (h2 : putS d1 (h * tgt l.area + 1) (h - 1) (pad (Sg.one img) (h - 1)) = (d2, 0))
    (h3 : putS d2 (h * tgt l.area) 1 (pad (headOf (l.gen + 1)) 1) = (d3, e3)) (hne : e3 ≠ 0) : beginS s l h img = (d3, brk l, e3) := by
  unfold beginS
  rw [if_neg (by omega)]
  simp only [h1, h2, h3]
  rw [if_neg (by decide), if_neg (by decide), if_pos hne]
theorem begin_4 (he : beginE l h img = 0) {d1 d2 d3 : DSt} (h1 : putS s (h * tgt l.area) 1 (noughts 64) = (d1, 0)) (h2 : putS d1 (h * tgt l.area + 1) (h - 1) (pad (Sg.one img) (h - 1)) = (d2, 0))
    (h3 : putS d2 (h * tgt l.area) 1 (pad (headOf (l.gen + 1)) 1) = (d3, 0)) : beginS s l h img = (d3, ⟨(tgt l.area : Nat), l.gen + 1, true, false, Sg.one img, []⟩, 0) := by
  unfold beginS
  rw [if_neg (by omega)]
  simp only [h1, h2, h3]
  rw [if_neg (by decide), if_neg (by decide), if_neg (by decide)]
end
theorem LInv.to {n : Nat} {s d1 : DSt} {l : LSt} (hi : LInv n s l) (hg : Disk.Good n d1) (hw : d1.wait = []) : LInv n d1 l := ⟨hg, hw, hi.four, hi.area, hi.gen, hi.rm, hi.ready⟩
/-- How a Begin comes out. -/
def BegPost (B p d L h : Nat) (s : DSt) (l : LSt) (img : List UInt8) (w0 : World) (e : Ending) (w' : World) : Prop :=
  e = .returned (.int .i64 (beginS s l h img).2.2) ∧ WD B p d L (beginS s l h img).1 (beginS s l h img).2.1 w0 w'
theorem BegPost.mk {B p d L h : Nat} {s s' : DSt} {l l' : LSt} {img : List UInt8} {x : Int} {w0 w' : World} (hb : beginS s l h img = (s', l', x)) (hw : WD B p d L s' l' w0 w') : BegPost B p d L h s l img w0 (.returned (.int .i64 x)) w' := by
  unfold BegPost; rw [hb]; exact ⟨rfl, hw⟩
set_option maxRecDepth 100000 in
set_option maxHeartbeats 1000000 in
theorem Begin_calls (B p d L n : Nat) (s : DSt) (l : LSt) (hi : LInv n s l) (img : List UInt8) (w0 w : World) (hT : Crc.Tab w0) (hTB : 0 < B) (h : WD B p d L s l w0 w) :
    Calls Tryd.prog 20 #[.pointer (some ⟨p, 0, none⟩), .string (bs img)] w (BegPost B p d L (n / 2) s l img w0) := by
  have c4 := h.lg.c4
  have c2 := h.lg.c2
  have c1 := h.lg.c1
  have HI := Lib.hid hi
  have H := Lib.hid h
  have HT := Lib.hid (tab_bel hT hTB h.bel)
  have hT0 := Lib.hid hT
  clear h hi hT
  rcases Bool.eq_false_or_eq_true l.broken with hb | hb
  · have HE := Lib.hid (begin_0 (s := s) (img := img) (h := n / 2) (l := l) (by unfold beginE; rw [if_pos hb]; decide))
    have HEE := Lib.hid (show beginE l (n / 2) img = 21 by unfold beginE; rw [if_pos hb])
    rw [HEE.out] at HE
    rw [hb] at c4
    clear hb
    go_enter Tryd.func20, Tryd.ntmps20
    go_wp2_with fail
    go_ret
    exact BegPost.mk HE.out H.out
  rw [hb] at c4
  have hbe : beginE l (n / 2) img = if (Sg.bytes [img]).2 ≠ 0 then (Sg.bytes [img]).2 else if 64 * (n / 2 - 1) < (Sg.bytes [img]).1.length then 17 else if l.gen = 18446744073709551615 then 18 else 0 := by
    unfold beginE; rw [hb, if_neg (by decide)]
  have HBE := Lib.hid hbe
  have HBR := Lib.hid hb
  clear hb hbe
  go_enter Tryd.func20, Tryd.ntmps20
  go_wp2_with fail
  have hw1 : Has w.heap.size #[.string (bs img)] 9 (w.alloc (.cells #[.string (bs img)] 9)) := Has.new w _ _
  have hb1 : Below w.heap.size w (w.alloc (.cells #[.string (bs img)] 9)) := (Below.refl w.heap.size w).alloc (Nat.le_refl _) _
  refine (Sg.Bytes_one w.heap.size img _ (HT.out.below hb1) (Sg.SS.one hw1)).mono ?_
  rintro e w1 ⟨rfl, b1⟩
  have H1 := Lib.hid (H.out.below (bthen hb1 b1))
  have hbf : (Sg.bytes [img]).2 = 0 → Sg.bad img = 0 ∧ (Sg.bytes [img]).1 = Sg.one img := fun h => bytes_one_ok h
  have HBF := Lib.hid hbf
  clear hb1 hw1 b1 hbf c1 c2 c4 H HT
  have c1 := H1.out.lg.c1
  have c2 := H1.out.lg.c2
  generalize Sg.bytes [img] = by_ at *
  obtain ⟨b, e⟩ := by_
  simp only at HBE HBF
  have hzb : (bs b).size = b.length := bs_size _
  have hn := HI.out.good.hn
  have h4 := HI.out.four
  by_cases he : e ≠ 0
  · have he' : (e != 0) = true := by simpa using he
    have HE := Lib.hid (show beginE l (n / 2) img = e by rw [HBE.out, if_pos he])
    have HE0 := Lib.hid (begin_0 (s := s) (img := img) (h := n / 2) (l := l) (by rw [HE.out]; exact he))
    rw [HE.out] at HE0
    clear he
    go_wp2_with fail
    go_ret
    exact BegPost.mk HE0.out H1.out
  obtain rfl : e = 0 := by omega
  obtain ⟨hbad, rfl⟩ := HBF.out rfl
  have HBad := Lib.hid hbad
  clear he hbad
  have HRW := Lib.hid (fun W k1 k2 => row_calls B p d L n s l HI.out.good h4 W k1 k2)
  have hrow : 64 * (n / 2 - 1) ≤ 200000 := by omega
  by_cases hsp : 64 * (n / 2 - 1) < (Sg.one img).length
  · have HE := Lib.hid (show beginE l (n / 2) img = 17 by rw [HBE.out, if_neg (by decide), if_pos hsp])
    have HE0 := Lib.hid (begin_0 (s := s) (img := img) (h := n / 2) (l := l) (by rw [HE.out]; decide))
    rw [HE.out] at HE0
    generalize (Sg.one img).length = z at *
    generalize 64 * (n / 2 - 1) = r at *
    go_wp2_with fail
    refine (HRW.out _ H1.out.one H1.out.lg).mono ?_
    rintro e w2 ⟨rfl, rfl⟩
    go_wp2_with fail
    go_ret
    exact BegPost.mk HE0.out H1.out
  by_cases hge : l.gen = 18446744073709551615
  · have HE := Lib.hid (show beginE l (n / 2) img = 18 by rw [HBE.out, if_neg (by decide), if_neg hsp, if_pos hge])
    have HE0 := Lib.hid (begin_0 (s := s) (img := img) (h := n / 2) (l := l) (by rw [HE.out]; decide))
    rw [HE.out] at HE0
    have hg' : ((l.gen : Int) == 18446744073709551615) = true := by simp [hge]
    clear hge
    generalize (Sg.one img).length = z at *
    generalize 64 * (n / 2 - 1) = r at *
    go_wp2_with fail
    refine (HRW.out _ H1.out.one H1.out.lg).mono ?_
    rintro e w2 ⟨rfl, rfl⟩
    go_wp2_with fail
    go_ret
    exact BegPost.mk HE0.out H1.out
  have hg' : ((l.gen : Int) == 18446744073709551615) = false := by simp; omega
  have HE := Lib.hid (show beginE l (n / 2) img = 0 by rw [HBE.out, if_neg (by decide), if_neg hsp, if_neg hge])
  have hgen := HI.out.gen
  have HG1 := Lib.hid (show l.gen + 1 < 18446744073709551616 by omega)
  have gw : IntKind.u64.wrap ((l.gen : Int) + 1) = (l.gen : Int) + 1 := IntWalk.u64_in _ (by omega)
  have GW := Lib.hid gw
  have HSP := Lib.hid (show (Sg.one img).length ≤ 64 * (n / 2 - 1) by omega)
  clear hge hgen gw
  have ht := tgt_le l.area
  have htm := tgt_mul (n / 2) l.area
  have hAT : ((l.area == 0) = true ∧ ((tgt l.area : Nat) : Int) = 1) ∨ ((l.area == 0) = false ∧ ((tgt l.area : Nat) : Int) = 0) := by
    unfold tgt
    by_cases h : l.area = 0
    · left; simp [h]
    · right; simp [h]
  have HPZ := Lib.hid (show pad ([] : List UInt8) 1 = noughts 64 from rfl)
  have HBL := Lib.hid (fun s' W hg k1 k2 => blocks_calls B p d L n s' l hg W k1 k2)
  have HGO := Lib.hid (fun W k => headOf_calls (l.gen + 1) W k)
  rw [show ((l.gen + 1 : Nat) : Int) = (l.gen : Int) + 1 by omega] at HGO
  have HHL := Lib.hid (headOf_length (l.gen + 1))
  have HTT := Lib.hid (fun W (k : Below B w0 W) => tab_bel hT0.out hTB k)
  have HX1 := Lib.hid (fun d1 e1 k1 k2 => begin_1 (s := s) (h := n / 2) HE.out (d1 := d1) (e1 := e1) k1 k2)
  have HX2 := Lib.hid (fun d1 d2 e2 k1 k2 k3 => begin_2 (s := s) (h := n / 2) HE.out (d1 := d1) (d2 := d2) (e2 := e2) k1 k2 k3)
  have HX3 := Lib.hid (fun d1 d2 d3 e3 k1 k2 k3 k4 => begin_3 (s := s) (h := n / 2) HE.out (d1 := d1) (d2 := d2) (d3 := d3) (e3 := e3) k1 k2 k3 k4)
  have HX4 := Lib.hid (fun d1 d2 d3 k1 k2 k3 => begin_4 (s := s) (h := n / 2) HE.out (d1 := d1) (d2 := d2) (d3 := d3) k1 k2 k3)
  have HP1 := Lib.hid (fun W k => put_calls B p d L n s l HI.out (tgt l.area) 0 1 1 (n / 2 * tgt l.area) [] rfl (by decide) rfl (by omega) ht w0 W k)
  have HP2 := Lib.hid (fun s' (k0 : LInv n s' l) W k => put_calls B p d L n s' l k0 (tgt l.area) 1 (n / 2 - 1) (n / 2 - 1) (n / 2 * tgt l.area + 1) (Sg.one img) (by have := HSP.out; omega) (by omega) rfl (by omega) ht w0 W k)
  have HP3 := Lib.hid (fun s' (k0 : LInv n s' l) W k => put_calls B p d L n s' l k0 (tgt l.area) 0 1 1 (n / 2 * tgt l.area) (headOf (l.gen + 1)) (by rw [HHL.out]; decide) (by decide) rfl (by omega) ht w0 W k)
  have hq1 : ((n / 2 - 1 : Nat) : Int) = ((n / 2 : Nat) : Int) - 1 := by omega
  rw [hq1] at HP2
  have HLV := Lib.hid (show ∀ p1, putS s (n / 2 * tgt l.area) 1 (noughts 64) = p1 → LInv n p1.1 l from fun p1 e => by
    obtain ⟨g1, w1, -⟩ := putS_out HI.out.good HI.out.wait (n / 2 * tgt l.area) 1 (noughts 64) (by omega) (by simp)
    rw [e] at g1 w1; exact HI.out.to g1 w1)
  have HLV2 := Lib.hid (show ∀ d1 p2, LInv n d1 l → putS d1 (n / 2 * tgt l.area + 1) (n / 2 - 1) (pad (Sg.one img) (n / 2 - 1)) = p2 → LInv n p2.1 l from fun d1 p2 hl e => by
    obtain ⟨g1, w1, -⟩ := putS_out hl.good hl.wait (n / 2 * tgt l.area + 1) (n / 2 - 1) (pad (Sg.one img) (n / 2 - 1)) (by omega) (pad_length _ _ HSP.out)
    rw [e] at g1 w1; exact hl.to g1 w1)
  have hnq : 2 ≤ ((n / 2 : Nat) : Int) := by omega
  have hnq2 : ((n / 2 : Nat) : Int) ≤ 2048 := by omega
  have HRq := Lib.hid HRW.out
  have hrz : ((Sg.one img).length : Int) ≤ ((64 * (n / 2 - 1) : Nat) : Int) := by have := HSP.out; omega
  have hrz' : (Sg.one img).length ≤ 64 * (n / 2 - 1) := HSP.out
  clear hq1 HRW hsp
  rcases hAT with ⟨hA, hAV⟩ | ⟨hA, hAV⟩
  all_goals
    rw [hAV] at HP1 HP2 HP3
    have HAV := Lib.hid hAV
    clear hAV
    generalize 64 * (n / 2 - 1) = r at *
    go_wp2_with fail
    refine (HRq.out _ H1.out.one H1.out.lg).mono ?_
    rintro e w2 ⟨rfl, rfl⟩
    go_wp2_with fail
    refine (HP1.out _ H1.out).mono ?_
    rintro e w2 hpp
    obtain ⟨rfl, h2⟩ := hpp
    rw [HPZ.out] at h2
    rw [HPZ.out]
    generalize hp1 : putS s (n / 2 * tgt l.area) 1 (noughts 64) = p1 at h2 ⊢
    obtain ⟨d1, e1⟩ := p1
    have HPE1 := Lib.hid hp1
    have HL1 := Lib.hid (HLV.out _ hp1)
    clear hp1
    simp only at h2 ⊢
    by_cases he1 : e1 ≠ 0
    · have he1' : (e1 != 0) = true := by simpa using he1
      rw [if_pos he1] at h2
      have H2 := Lib.hid h2
      have HXE := Lib.hid (HX1.out _ _ HPE1.out he1)
      clear he1 h2
      go_wp2_with fail
      go_ret
      exact BegPost.mk HXE.out H2.out
    obtain rfl : e1 = 0 := by omega
    rw [if_neg he1] at h2
    have H2 := Lib.hid h2
    clear h2 he1
    go_wp2_with fail
    refine (HBL.out _ _ HL1.out.good H2.out.one H2.out.lg).mono ?_
    rintro e w3 ⟨rfl, rfl⟩
    go_wp2_with fail
    refine (HP2.out _ HL1.out _ H2.out).mono ?_
    rintro e w3 hpp
    obtain ⟨rfl, h3⟩ := hpp
    generalize hp1 : putS d1 (n / 2 * tgt l.area + 1) (n / 2 - 1) (pad (Sg.one img) (n / 2 - 1)) = p1 at h3 ⊢
    obtain ⟨d2, e2⟩ := p1
    have HPE2 := Lib.hid hp1
    have HL2 := Lib.hid (HLV2.out _ _ HL1.out hp1)
    clear hp1
    simp only at h3 ⊢
    by_cases he1 : e2 ≠ 0
    · have he1' : (e2 != 0) = true := by simpa using he1
      rw [if_pos he1] at h3
      have H3 := Lib.hid h3
      have HXE := Lib.hid (HX2.out _ _ _ HPE1.out HPE2.out he1)
      clear he1 h3
      go_wp2_with fail
      go_ret
      exact BegPost.mk HXE.out H3.out
    obtain rfl : e2 = 0 := by omega
    rw [if_neg he1] at h3
    have H3 := Lib.hid h3
    clear h3 he1
    have k2 := H3.out.lg.c2
    have gw := GW.out
    clear c1 c2
    go_wp2_with fail
    refine (HGO.out _ (HTT.out _ H3.out.bel)).mono ?_
    rintro e w4 ⟨rfl, b4⟩
    have H4 := Lib.hid (H3.out.below b4)
    clear b4 k2
    go_wp2_with fail
    refine (HP3.out _ HL2.out _ H4.out).mono ?_
    rintro e w5 hpp
    obtain ⟨rfl, h5⟩ := hpp
    generalize hp1 : putS d2 (n / 2 * tgt l.area) 1 (pad (headOf (l.gen + 1)) 1) = p1 at h5 ⊢
    obtain ⟨d3, e3⟩ := p1
    have HPE3 := Lib.hid hp1
    clear hp1
    simp only at h5 ⊢
    by_cases he1 : e3 ≠ 0
    · have he1' : (e3 != 0) = true := by simpa using he1
      rw [if_pos he1] at h5
      have H5 := Lib.hid h5
      have HXE := Lib.hid (HX3.out _ _ _ _ HPE1.out HPE2.out HPE3.out he1)
      clear he1 h5
      go_wp2_with fail
      go_ret
      exact BegPost.mk HXE.out H5.out
    obtain rfl : e3 = 0 := by omega
    rw [if_neg he1] at h5
    have H5 := Lib.hid h5
    clear h5 he1
    have k2 := H5.out.lg.c2
    have k1 := H5.out.lg.c1
    have k3 := H5.out.lg.c3
    have k5 := H5.out.lg.c5
    have k6 := H5.out.lg.c6
    have f1 := Has.frozen H5.out.lg 1
    have f2 := Has.frozen H5.out.lg 2
    have f3 := Has.frozen H5.out.lg 3
    have f5 := Has.frozen H5.out.lg 5
    have f6 := Has.frozen H5.out.lg 6
    have HXE := Lib.hid (HX4.out _ _ _ HPE1.out HPE2.out HPE3.out)
    have HLC := Lib.hid (((((WP.set H5.out 1 (.int .i64 ((tgt l.area : Nat) : Int))).set 2 (.int .u64 ((l.gen : Int) + 1))).set 3 (.bool true)).set 5 (.string (bs (Sg.one img)))).set 6 (.string ⟨#[]⟩))
    rw [HAV.out] at HLC
    go_wp2_with fail
    go_ret
    refine BegPost.mk HXE.out ?_
    have := HLC.out
    have hLC : LCells d ⟨((tgt l.area : Nat) : Int), l.gen + 1, true, false, Sg.one img, []⟩ = (((((LCells d l).setIfInBounds 1 (.int .i64 ((tgt l.area : Nat) : Int))).setIfInBounds 2 (.int .u64 ((l.gen : Int) + 1))).setIfInBounds 3 (.bool true)).setIfInBounds 5 (.string (bs (Sg.one img)))).setIfInBounds 6 (.string ⟨#[]⟩) := by
      simp [LCells, HBR.out]; rfl
    unfold WD
    rw [hLC, HAV.out]
    exact this
end Go.Proofs.YtjnjcjildiadgaaDoor.Wl
/- The walks of wal.Append and wal.Commit. -/
namespace Go.Proofs.YtjnjcjildiadgaaDoor.Wl
open Go Go.RowKit Frame Oct Disk
def AppPost (B p d L h : Nat) (s : DSt) (l : LSt) (rs : List (List UInt8)) (w0 : World) (e : Ending) (w' : World) : Prop :=
  e = .returned (.int .i64 (appendS l h rs).2) ∧ WD B p d L s (appendS l h rs).1 w0 w'
theorem AppPost.mk {B p d L h : Nat} {s : DSt} {l l' : LSt} {rs : List (List UInt8)} {x : Int} {w0 w' : World} (hb : appendS l h rs = (l', x)) (hw : WD B p d L s l' w0 w') : AppPost B p d L h s l rs w0 (.returned (.int .i64 x)) w' := by
  unfold AppPost; rw [hb]; exact ⟨rfl, hw⟩
set_option maxRecDepth 100000 in
set_option maxHeartbeats 1000000 in
theorem Append_calls (B p d L n : Nat) (s : DSt) (l : LSt) (hi : LInv n s l) (A : Option Addr) (c : Nat) (rs : List (List UInt8)) (hrs : rs.length ≤ 1000000) (w0 w : World) (hT : Crc.Tab w0) (hTB : 0 < B) (h : WD B p d L s l w0 w) (hA : Sg.SS A rs w) :
    Calls Tryd.prog 18 #[.pointer (some ⟨p, 0, none⟩), .slice A rs.length c] w (AppPost B p d L (n / 2) s l rs w0) := by
  have H := Lib.hid h
  have HT := Lib.hid (tab_bel hT hTB h.bel)
  have HI := Lib.hid hi
  have HCH := Lib.hid (check_calls p d l w h.lg)
  have HA := Lib.hid hA
  have hae : appendS l (n / 2) rs = if checkE l ≠ 0 then (l, checkE l) else if (Sg.bytes rs).2 ≠ 0 then (l, (Sg.bytes rs).2) else if room l (n / 2) < (Sg.bytes rs).1.length then (l, 17) else ({ l with wait := l.wait ++ (Sg.bytes rs).1 }, 0) := rfl
  have HAE := Lib.hid hae
  have hck : checkE l = 0 → l.ready = true := fun h => (checkE_ok h).2
  have HCK := Lib.hid hck
  clear h hi hA hae hck hT
  generalize checkE l = ce at *
  by_cases he : ce ≠ 0
  · have he' : (ce != 0) = true := by simpa using he
    have HE := Lib.hid (HAE.out.trans (if_pos he))
    clear he
    go_enter Tryd.func18, Tryd.ntmps18
    go_wp2_with fail
    refine HCH.out.mono ?_
    rintro e w1 ⟨rfl, rfl⟩
    go_wp2_with fail
    go_ret
    exact AppPost.mk HE.out H.out
  obtain rfl : ce = 0 := by omega
  have HAE2 := Lib.hid (HAE.out.trans (if_neg he))
  have HR := Lib.hid (HCK.out rfl)
  clear he HAE HCK
  have HBY := Lib.hid (Sg.Bytes_calls A c rs hrs w HT.out HA.out)
  generalize Sg.bytes rs = r at *
  obtain ⟨b, e⟩ := r
  simp only at HAE2 HBY
  have hzb : (bs b).size = b.length := bs_size _
  by_cases he : e ≠ 0
  · have he' : (e != 0) = true := by simpa using he
    have HE := Lib.hid (HAE2.out.trans (if_pos he))
    clear he
    go_enter Tryd.func18, Tryd.ntmps18
    go_wp2_with fail
    refine HCH.out.mono ?_
    rintro e w1 ⟨rfl, rfl⟩
    go_wp2_with fail
    refine HBY.out.mono ?_
    rintro e w1 ⟨rfl, b1⟩
    have H1 := Lib.hid (H.out.below b1)
    clear b1
    go_wp2_with fail
    go_ret
    exact AppPost.mk HE.out H1.out
  obtain rfl : e = 0 := by omega
  have HAE3 := Lib.hid (HAE2.out.trans (if_neg he))
  clear he HAE2
  have hrm := HI.out.rm
  have hn := HI.out.good.hn
  have h4 := HI.out.four
  have hre := room_eq n l h4 HR.out
  have HRC := Lib.hid (fun W k1 k2 => Room_calls B p d L n s l HI.out W k1 k2)
  have hrb : room l (n / 2) ≤ 200000 := by omega
  have hzw : (bs l.wait).size = l.wait.length := bs_size _
  have hwl : l.wait.length ≤ 200000 := by omega
  clear hre hrm
  generalize room l (n / 2) = ro at *
  by_cases hsp : ro < (b.length : Int)
  · have HE := Lib.hid (HAE3.out.trans (if_pos hsp))
    go_enter Tryd.func18, Tryd.ntmps18
    go_wp2_with fail
    refine HCH.out.mono ?_
    rintro e w1 ⟨rfl, rfl⟩
    go_wp2_with fail
    refine HBY.out.mono ?_
    rintro e w1 ⟨rfl, b1⟩
    have H1 := Lib.hid (H.out.below b1)
    clear b1
    go_wp2_with fail
    refine (HRC.out _ H1.out.one H1.out.lg).mono ?_
    rintro e w2 ⟨rfl, b2⟩
    have H2 := Lib.hid (H1.out.below b2)
    clear b2
    go_wp2_with fail
    go_ret
    exact AppPost.mk HE.out H2.out
  have HE := Lib.hid (HAE3.out.trans (if_neg hsp))
  have HAP := Lib.hid (show bs l.wait ++ bs b = bs (l.wait ++ b) from bs_append _ _)
  clear HAE3
  go_enter Tryd.func18, Tryd.ntmps18
  go_wp2_with fail
  refine HCH.out.mono ?_
  rintro e w1 ⟨rfl, rfl⟩
  go_wp2_with fail
  refine HBY.out.mono ?_
  rintro e w1 ⟨rfl, b1⟩
  have H1 := Lib.hid (H.out.below b1)
  clear b1
  go_wp2_with fail
  refine (HRC.out _ H1.out.one H1.out.lg).mono ?_
  rintro e w2 ⟨rfl, b2⟩
  have H2 := Lib.hid (H1.out.below b2)
  clear b2
  have k6 := H2.out.lg.c6
  have f6 := Has.frozen H2.out.lg 6
  have HLC := Lib.hid (WP.set H2.out 6 (.string (bs l.wait ++ bs b)))
  go_wp2_with fail
  go_ret
  refine AppPost.mk HE.out ?_
  have := HLC.out
  have hLC : LCells d { l with wait := l.wait ++ b } = (LCells d l).setIfInBounds 6 (.string (bs l.wait ++ bs b)) := by
    rw [HAP.out]; rfl
  unfold WD
  rw [hLC]
  exact this
end Go.Proofs.YtjnjcjildiadgaaDoor.Wl
/- The walk of wal.Commit. -/
namespace Go.Proofs.YtjnjcjildiadgaaDoor.Wl
open Go Go.RowKit Frame Oct Disk
def ComPost (B p d L h : Nat) (s : DSt) (l : LSt) (w0 : World) (e : Ending) (w' : World) : Prop :=
  e = .returned (.int .i64 (commitS s l h).2.2) ∧ WD B p d L (commitS s l h).1 (commitS s l h).2.1 w0 w'
theorem ComPost.mk {B p d L h : Nat} {s s' : DSt} {l l' : LSt} {x : Int} {w0 w' : World} (hb : commitS s l h = (s', l', x)) (hw : WD B p d L s' l' w0 w') : ComPost B p d L h s l w0 (.returned (.int .i64 x)) w' := by
  unfold ComPost; rw [hb]; exact ⟨rfl, hw⟩
theorem put_cells {B p d L : Nat} {s : DSt} {l : LSt} {x : Int} {w0 w : World} (h : WD B p d L s (if x ≠ 0 then brk l else l) w0 w) :
    w.cell? ⟨p, 1, none⟩ = some (.int .i64 l.area) ∧ w.cell? ⟨p, 5, none⟩ = some (.string (bs l.done)) ∧ w.cell? ⟨p, 6, none⟩ = some (.string (bs l.wait)) := by
  by_cases hx : x ≠ 0
  · rw [if_pos hx] at h; exact ⟨h.lg.c1, h.lg.c5, h.lg.c6⟩
  · rw [if_neg hx] at h; exact ⟨h.lg.c1, h.lg.c5, h.lg.c6⟩
set_option maxRecDepth 100000 in
set_option maxHeartbeats 1000000 in
theorem Commit_calls (B p d L n : Nat) (s : DSt) (l : LSt) (hi : LInv n s l) (w0 w : World) (h : WD B p d L s l w0 w) :
    Calls Tryd.prog 19 #[.pointer (some ⟨p, 0, none⟩)] w (ComPost B p d L (n / 2) s l w0) := by
  have H := Lib.hid h
  have HI := Lib.hid hi
  have HCH := Lib.hid (check_calls p d l w h.lg)
  have hae : commitS s l (n / 2) = if checkE l ≠ 0 then (s, l, checkE l) else if l.wait = [] then (s, l, 0) else
    if (putS s (n / 2 * l.area.toNat + (1 + from_ l)) (many l) (pad (text l) (many l))).2 ≠ 0 then ((putS s (n / 2 * l.area.toNat + (1 + from_ l)) (many l) (pad (text l) (many l))).1, brk l, (putS s (n / 2 * l.area.toNat + (1 + from_ l)) (many l) (pad (text l) (many l))).2)
    else ((putS s (n / 2 * l.area.toNat + (1 + from_ l)) (many l) (pad (text l) (many l))).1, { l with done := l.done ++ l.wait, wait := [] }, 0) := rfl
  have HAE := Lib.hid hae
  have hck : checkE l = 0 → l.ready = true := fun h => (checkE_ok h).2
  have HCK := Lib.hid hck
  clear h hi hae hck
  generalize checkE l = ce at *
  by_cases he : ce ≠ 0
  · have he' : (ce != 0) = true := by simpa using he
    have HE := Lib.hid (HAE.out.trans (if_pos he))
    clear he
    go_enter Tryd.func19, Tryd.ntmps19
    go_wp2_with fail
    refine HCH.out.mono ?_
    rintro e w1 ⟨rfl, rfl⟩
    go_wp2_with fail
    go_ret
    exact ComPost.mk HE.out H.out
  obtain rfl : ce = 0 := by omega
  have HAE2 := Lib.hid (HAE.out.trans (if_neg he))
  have HR := Lib.hid (HCK.out rfl)
  clear he HAE HCK
  have c6 := H.out.lg.c6
  have c5 := H.out.lg.c5
  have c1 := H.out.lg.c1
  by_cases hw : l.wait = []
  · have hw' := Sg.bs_eq_empty l.wait (by rw [hw]; rfl)
    have HE := Lib.hid (HAE2.out.trans (if_pos hw))
    clear hw
    go_enter Tryd.func19, Tryd.ntmps19
    go_wp2_with fail
    refine HCH.out.mono ?_
    rintro e w1 ⟨rfl, rfl⟩
    go_wp2_with fail
    go_ret
    exact ComPost.mk HE.out H.out
  have hw' := Sg.bs_ne_empty l.wait (fun e => hw (List.length_eq_zero_iff.1 e))
  have HE := Lib.hid (HAE2.out.trans (if_neg hw))
  obtain ⟨m1, m2, m3⟩ := many_bounds n l HI.out.rm hw
  have hrm := HI.out.rm
  have hn := HI.out.good.hn
  have h4 := HI.out.four
  have ha0 := (HI.out.ready HR.out).1
  have ha1 := HI.out.area.2
  obtain ⟨k, hk⟩ := Int.eq_ofNat_of_zero_le ha0
  have hk1 : k ≤ 1 := by omega
  have hkt : l.area.toNat = k := by omega
  rw [hkt] at HE
  rw [hk] at c1
  have hkm : n / 2 * k ≤ n / 2 := by have := Nat.mul_le_mul_left (n / 2) hk1; omega
  have HP := Lib.hid (fun W h => put_calls B p d L n s l HI.out k (1 + from_ l) 0 (many l) (n / 2 * k + (1 + from_ l)) (text l) (by unfold many; omega) m2 rfl (by omega) hk1 w0 W h)
  have hzd : (bs l.done).size = l.done.length := bs_size _
  have hfr : (l.done.length : Int) / 64 = ((from_ l : Nat) : Int) := by unfold from_; omega
  have hf1 : from_ l * 64 ≤ l.done.length := by unfold from_; omega
  have hext : (bs l.done).extract (from_ l * 64) l.done.length = bs (l.done.drop (64 * from_ l)) := by rw [extract_from, Nat.mul_comm]
  have HTX := Lib.hid (show bs (l.done.drop (64 * from_ l)) ++ bs l.wait = bs (text l) from bs_append _ _)
  have HAP := Lib.hid (show bs l.done ++ bs l.wait = bs (l.done ++ l.wait) from bs_append _ _)
  have hzx : (bs (l.done.drop (64 * from_ l))).size = l.done.length - 64 * from_ l := by rw [bs_size]; simp
  have hzw : (bs l.wait).size = l.wait.length := bs_size _
  have hb1 : l.done.length ≤ 200000 := by omega
  have hb2 : l.wait.length ≤ 200000 := by omega
  clear hw hkt ha0 ha1 m1 m2 m3 hrm HAE2 hkm
  have HKA := Lib.hid hk
  clear hk
  generalize hff : from_ l = f at *
  have HFF := Lib.hid hff
  clear hff
  go_enter Tryd.func19, Tryd.ntmps19
  go_wp2_with fail
  refine HCH.out.mono ?_
  rintro e w1 ⟨rfl, rfl⟩
  go_wp2_with fail
  have HD := Lib.hid H.out.drew
  have y1 : w.drew.cell? ⟨p, 1, none⟩ = some (.int .i64 (k : Int)) := c1
  have y5 : w.drew.cell? ⟨p, 5, none⟩ = some (.string (bs l.done)) := c5
  have y6 : w.drew.cell? ⟨p, 6, none⟩ = some (.string (bs l.wait)) := c6
  have g1 : IntKind.i64.wrap (1 + (f : Int)) = ((1 + f : Nat) : Int) := by rw [IntWalk.i64_in _ (by omega)]; omega
  have g2 : IntKind.i64.wrap ((f : Int) * 64) = (f : Int) * 64 := IntWalk.i64_in _ (by omega)
  have j1 : (0 : Int) ≤ (f : Int) * 64 := by omega
  have j2 : (f : Int) * 64 ≤ (l.done.length : Int) := by omega
  have j3 : ((f : Int) * 64).toNat = f * 64 := by omega
  have hcc : ¬ (9223372036854775807 < l.done.length - 64 * f + l.wait.length) := by omega
  go_region_held3 (fun w' => w'.cell? ⟨p, 1, none⟩ = some (.int .i64 (k : Int)) ∧ w'.cell? ⟨p, 5, none⟩ = some (.string (bs l.done)) ∧ w'.cell? ⟨p, 6, none⟩ = some (.string (bs l.wait)))
    (first
      | with_reducible exact ⟨y1, y5, y6⟩
      | (exact (by have := put_cells h2; rw [HKA.out] at this; exact this)))
    ((go_at_call 37; (try rw [HTX.out]); refine (HP.out _ HD.out).mono ?_; rintro e w2 ⟨rfl, h2⟩))
  clear y1 y5 y6 g1 g2 j1 j2 j3 hcc c1 c5 c6 hfr hf1 hext hzx
  generalize hp1 : putS s (n / 2 * k + (1 + f)) (many l) (pad (text l) (many l)) = p1 at h2 HE ⊢
  obtain ⟨d1, e1⟩ := p1
  simp only at h2 HE ⊢
  by_cases he1 : e1 ≠ 0
  · have he1' : (e1 != 0) = true := by simpa using he1
    rw [if_pos he1] at h2
    have H2 := Lib.hid h2
    have HXE := Lib.hid (HE.out.trans (if_pos he1))
    clear he1 h2 hp1
    go_wp2_with fail
    go_ret
    exact ComPost.mk HXE.out H2.out
  obtain rfl : e1 = 0 := by omega
  rw [if_neg he1] at h2
  have H2 := Lib.hid h2
  have HXE := Lib.hid (HE.out.trans (if_neg he1))
  have HP1 := Lib.hid hp1
  clear h2 he1 hp1
  have HD2 := Lib.hid H2.out.drew
  have y5 : w2.drew.cell? ⟨p, 5, none⟩ = some (.string (bs l.done)) := HD2.out.lg.c5
  have y6 : w2.drew.cell? ⟨p, 6, none⟩ = some (.string (bs l.wait)) := HD2.out.lg.c6
  have f5 : w2.frozen? ⟨p, 5, none⟩ = false := Has.frozen H2.out.lg 5
  have f6 : w2.frozen? ⟨p, 6, none⟩ = false := Has.frozen H2.out.lg 6
  have f1 : ¬ (9223372036854775807 < l.done.length + l.wait.length) := by omega
  have HLC1 := Lib.hid ((WP.set HD2.out 5 (.string (bs l.done ++ bs l.wait))).set 6 (.string ⟨#[]⟩))
  have HLC2 := Lib.hid ((WP.set HD2.out 6 (.string ⟨#[]⟩)).set 5 (.string (bs l.done ++ bs l.wait)))
  go_wp2_with fail
  go_region
  go_wp2_with fail
  go_ret
  refine ComPost.mk HXE.out ?_
  have hLC : LCells d { l with done := l.done ++ l.wait, wait := [] } = ((LCells d l).setIfInBounds 5 (.string (bs l.done ++ bs l.wait))).setIfInBounds 6 (.string ⟨#[]⟩) := by
    rw [HAP.out]; rfl
  unfold WD
  rw [hLC]
  first
    | exact HLC1.out
    | exact HLC2.out
end Go.Proofs.YtjnjcjildiadgaaDoor.Wl
/- The walk of wal.read. -/
namespace Go.Proofs.YtjnjcjildiadgaaDoor.Wl
open Go Go.RowKit Frame Oct Disk
/-- What read tells of an area. -/
def rdT : Option (Nat × List (List UInt8)) → Nat × List (List UInt8) × Bool
  | none => (0, [], false)
  | some (g, rs) => (g, rs, true)
def RdPost (o : Option (Nat × List (List UInt8))) (w : World) (e : Ending) (w' : World) : Prop :=
  ∃ v, e = .returned (.tuple #[.int .u64 ((rdT o).1 : Int), v, .bool (rdT o).2.2]) ∧ w'.ownsRow w.heap.size 9 1 v (rdT o).2.1.length (Sg.cells (rdT o).2.1) ∧ Below w.heap.size w w'
theorem own_base {w : World} {B B' e size n : Nat} {v : Value} {xs : List Value} (h : w.ownsRow B e size v n xs) (hb : B' ≤ B) : w.ownsRow B' e size v n xs := by
  obtain ⟨hlen, hv⟩ := h
  refine ⟨hlen, ?_⟩
  rcases hv with hv | ⟨g, cap, cur, rfl, hb', hg, hr⟩
  · exact .inl hv
  · exact .inr ⟨g, cap, cur, rfl, by omega, hg, hr⟩
theorem own_set {w : World} {B e size n : Nat} {v : Value} {xs : List Value} (h : w.ownsRow B e size v n xs) (p : Addr) (hp : p.block < B) (x : Value) : (w.setCell p x).ownsRow B e size v n xs := by
  obtain ⟨hlen, hv⟩ := h
  refine ⟨hlen, ?_⟩
  rcases hv with hv | ⟨g, cap, cur, rfl, hb', hg, hr⟩
  · exact .inl hv
  · exact .inr ⟨g, cap, cur, rfl, hb', (Below.heap_setCell w p x g (by omega)).trans hg, hr⟩
/-- A slice value of these strings, in a block of strings that is known whole. -/
def ST (v : Value) (l : List (List UInt8)) (w : World) : Prop := ∃ A c, v = .slice A l.length c ∧ l.length ≤ c ∧ c ≤ maxLen ∧ (A = none → c = 0) ∧ (∀ a, A = some a → ∃ b off, a = ⟨b, off, none⟩) ∧
  (0 < l.length → ∃ b off cs, A = some ⟨b, off, none⟩ ∧ Has b cs 9 w ∧ ∀ i, i < l.length → cs[off + i]? = some (.string (bs (l.getD i []))))
theorem ST.sv {v : Value} {l : List (List UInt8)} {w : World} (h : ST v l w) : Sg.SV v l w := by
  obtain ⟨A, c, hv, h1, h2, h3, h4, h5⟩ := h
  refine ⟨A, c, hv, h1, h2, h3, h4, fun h0 => ?_⟩
  obtain ⟨b, off, cs, hA, hh, hi⟩ := h5 h0
  exact ⟨b, off, hA, hh.lt, fun i hil => by rw [hh.cell]; exact hi i hil⟩
theorem ST.map {v : Value} {l : List (List UInt8)} {w w' : World} (h : ST v l w) (hk : ∀ b cs, Has b cs 9 w → Has b cs 9 w') : ST v l w' := by
  obtain ⟨A, c, hv, h1, h2, h3, h4, h5⟩ := h
  refine ⟨A, c, hv, h1, h2, h3, h4, fun h0 => ?_⟩
  obtain ⟨b, off, cs, hA, hh, hi⟩ := h5 h0
  exact ⟨b, off, cs, hA, hk _ _ hh, hi⟩
theorem ST.below {v : Value} {l : List (List UInt8)} {w w' : World} (h : ST v l w) (hb : Below w.heap.size w w') : ST v l w' := h.map fun _ _ hh => hh.below hb
theorem ST.kept {v : Value} {l : List (List UInt8)} {w w' : World} (h : ST v l w) (hk : Kept2 w w') : ST v l w' := h.map fun b cs hh => hk b cs _ (by decide) (by decide) (by decide) (by decide) hh
theorem ST.nil (w : World) : ST (.slice none 0 0) [] w := ⟨none, 0, rfl, Nat.le_refl _, Nat.zero_le _, (fun _ => rfl), (fun a h => by cases h), fun h => absurd h (Nat.lt_irrefl 0)⟩
theorem ST.of_own {base n : Nat} {v : Value} {l : List (List UInt8)} {w : World} (h : w.ownsRow base 9 1 v n (Sg.cells l)) : ST v l w := by
  obtain ⟨A, c, hv, h1, h2, h3, h4, h5⟩ := Sg.SV.of_own h
  refine ⟨A, c, hv, h1, h2, h3, h4, fun h0 => ?_⟩
  obtain ⟨b, off, hA, hlt, hi⟩ := h5 h0
  obtain ⟨hlen, hvv⟩ := h
  rcases hvv with ⟨rfl, hn⟩ | ⟨g, cap, cur, rfl, hb', hg, hr⟩
  · rw [hA] at hv; cases hv
  · rw [hA] at hv
    injection hv with e1 e2
    injection e1 with e1
    injection e1 with e1 e3
    subst e1
    have hh : Has g cur 9 w := hg
    exact ⟨g, off, cur, hA, hh, fun i hil => by rw [← hh.cell]; exact hi i hil⟩
theorem blk_ar (last : List UInt8) (h a k : Nat) (hk : k < h) : blk last (h * a + k) = ((ar last h a).drop (64 * k)).take 64 := by
  unfold blk ar
  rw [List.drop_take, List.take_take, List.drop_drop]
  congr 1
  · omega
  · congr 1; omega
theorem inum8 (l : List UInt8) (h : 8 ≤ l.length) : inum (l, 0) 8 = (num (l.take 8), (l.drop 8, 0)) := by
  unfold inum raw
  rw [show min (8 : Int) 8 = 8 from rfl, if_neg (by simp), if_neg (by show ¬ ((l.length : Int) < 8); omega)]
  rfl
theorem rd_gen (area : List UInt8) : num (((area.take 64).drop 4).take 8) = genOf area := by
  unfold genOf
  rw [List.drop_take, List.take_take]
  rfl
theorem rd_front (area : List UInt8) : (area.take 64).take 17 = area.take 17 := by rw [List.take_take]; rfl
theorem bs_bne (a b : List UInt8) : ((bs a).toList != (bs b).toList) = (a != b) := by unfold bne; rw [Frm.bs_beq]
set_option maxRecDepth 100000 in
set_option maxHeartbeats 1000000 in
theorem read_calls (B p d L n : Nat) (s : DSt) (l : LSt) (hg : Disk.Good n s) (hw0 : s.wait = []) (ho : s.on = true) (h4 : 4 ≤ n) (a : Nat) (ha : a ≤ 1) (w0 w : World) (hT : Crc.Tab w0) (hTB : 0 < B) (h : WD B p d L s l w0 w) :
    Calls Tryd.prog 33 #[.pointer (some ⟨p, 0, none⟩), .int .i64 (a : Int)] w (RdPost (rd (ar s.last (n / 2) a)) w) := by
  have hn := hg.hn
  have HT := Lib.hid (tab_bel hT hTB h.bel)
  have hha : n / 2 * a ≤ n / 2 := by have := Nat.mul_le_mul_left (n / 2) ha; omega
  have hal : (ar s.last (n / 2) a).length = 64 * (n / 2) := ar_length _ _ _ (by rw [hg.len]; omega)
  have HC := Lib.hid (fun W (k1 : One B d L s W) (k2 : Lg p d l W) => blocks_calls B p d L n s l hg W k1 k2)
  have HRD := Lib.hid (show ∀ k, k < n / 2 → ∀ W, One B d L s W → Calls Tryd.prog 43 #[.pointer (some ⟨d, 0, none⟩), .int .i64 ((n / 2 * a + k : Nat) : Int)] W fun e w' => e = .returned (.tuple #[.string (bs (((ar s.last (n / 2) a).drop (64 * k)).take 64)), .int .i64 0]) ∧ Below W.heap.size W w' from fun k hk W k1 => by
    obtain ⟨wv, hd⟩ := k1
    have hc : chk s ((n / 2 * a + k : Nat) : Int) = 0 := by
      unfold chk
      rw [if_neg (by rw [ho]; decide), if_neg]
      have := hg.len
      omega
    have := Read_yes B d L n wv s (n / 2 * a + k) hc hg W hd
    rw [hw0, show all s.last [] = s.last from rfl, blk_ar _ _ _ _ hk] at this
    exact this)
  have H := Lib.hid h
  have hT0 := Lib.hid hT
  clear h hT ho hw0
  have HG := Lib.hid hg
  have hq2 : n / 2 ≤ 2048 := by omega
  have hq1 : 2 ≤ n / 2 := by omega
  clear hg h4 hn
  generalize ar s.last (n / 2) a = A at *
  generalize n / 2 = q at *
  have HE0 := Lib.hid (show (a : Int) * (q : Int) = ((q * a : Nat) : Int) by rw [Nat.mul_comm]; rfl)
  generalize q * a = qa at *
  have HD := Lib.hid H.out.drew
  have y0 : w.drew.cell? ⟨p, 0, none⟩ = some (.pointer (some ⟨d, 0, none⟩)) := HD.out.lg.c0
  have e1 := HE0.out
  have g1 : IntKind.i64.wrap ((a : Int) * (q : Int)) = ((qa + 0 : Nat) : Int) := by rw [e1]; exact IntWalk.i64_in _ (by omega)
  clear e1
  have HB1 := Lib.hid (HC.out _ HD.out.one HD.out.lg)
  have HR0 := Lib.hid (HRD.out 0 (by omega) _ HD.out.one)
  rw [Nat.mul_zero, List.drop_zero] at HR0
  go_enter Tryd.func33, Tryd.ntmps33
  go_wp2_with fail
  go_region_held3 (fun w' => w'.cell? ⟨p, 0, none⟩ = some (.pointer (some ⟨d, 0, none⟩)))
    (first
      | with_reducible exact y0
      | with_reducible exact (Lg.c0 (HD.out.below b2).lg))
    (first
      | (go_at_call 39; (with_reducible refine HB1.out.mono ?_); rintro e w2 ⟨rfl, rfl⟩)
      | (go_at_call 43; refine HR0.out.mono ?_; rintro e w2 ⟨rfl, b2⟩))
  have H2 := Lib.hid (HD.out.below b2)
  have BA := Lib.hid (after_drew' b2)
  clear b2 y0 g1 HR0 HB1
  have hF : (A.take 64).length = 64 := by simp; omega
  have HGN := Lib.hid (rd_gen A)
  have HFR := Lib.hid (rd_front A)
  generalize hFF : A.take 64 = F at *
  clear hFF
  have hzF : (bs F).size = 64 := by rw [bs_size]; exact hF
  have hx4 : (bs F).extract 4 64 = bs (F.drop 4) := by rw [← hF]; exact extract_from F 4
  have hx17 : (bs F).extract 0 17 = bs (F.take 17) := extract_to F 17
  go_wp2_with fail
  refine (Oct.New_calls _ _).mono ?_
  rintro e w3 ⟨rfl, rfl⟩
  have HA := Lib.hid (show At w2.heap.size (F.drop 4, 0) (w2.alloc (.cells #[.string (bs (F.drop 4)), .int .i64 0] 95)) from Has.new w2 _ _)
  have B3 := Lib.hid ((Below.refl w2.heap.size w2).alloc (Nat.le_refl _) (.cells #[.string (bs (F.drop 4)), .int .i64 0] 95))
  generalize w2.alloc (.cells #[.string (bs (F.drop 4)), .int .i64 0] 95) = w3 at *
  have HX8 := Lib.hid (inum8 (F.drop 4) (by simp; omega))
  go_wp2_with fail
  refine (Oct.Num_calls w2.heap.size (F.drop 4, 0) 8 (by unfold maxLen; simp; omega) _ HA.out).mono ?_
  rintro e w4 ⟨rfl, -, o4⟩
  rw [HX8.out, HGN.out]
  have B4 := Lib.hid (Only.to_below B3.out o4 (Nat.le_refl _) (by have := HA.out.lt; omega))
  have H4 := Lib.hid (H2.out.below B4.out)
  have BB4 := Lib.hid (bthen BA.out B4.out)
  clear o4 B4 B3 HA BA H2 HX8 HGN
  have hgl := genOf_lt A
  have HRDe := Lib.hid (show rd A = if A.take 17 = headOf (genOf A) then some (genOf A, Sg.scan (A.drop 64)) else none from rfl)
  generalize genOf A = g at *
  go_wp2_with fail
  refine (headOf_calls g _ (tab_bel hT0.out hTB H4.out.bel)).mono ?_
  rintro e w5 ⟨rfl, b5⟩
  have H5 := Lib.hid (H4.out.below b5)
  have BB5 := Lib.hid (bthen BB4.out b5)
  clear b5 H4 BB4
  have hzH : (bs (headOf g)).size = 17 := by rw [bs_size, headOf_length]
  by_cases hc : A.take 17 = headOf g
  · have hne : ((bs (F.take 17)).toList == (bs (headOf g)).toList) = true := by rw [Frm.bs_beq, HFR.out]; simpa using hc
    have hne2 : ((bs (F.take 17)).toList != (bs (headOf g)).toList) = false := by unfold bne; rw [hne]; rfl
    have HE := Lib.hid (HRDe.out.trans (if_pos hc))
    clear hc
    have HI0 := Lib.hid (Bld.Is.fresh w5)
    have HB0 := Lib.hid ((Below.refl w5.heap.size w5).alloc (Nat.le_refl _) (.cells #[.pointer none, .slice none 0 0] 74))
    have HC5 := Lib.hid (HC.out _ (H5.out.below HB0.out).one (H5.out.below HB0.out).lg)
    go_wp2_with fail
    refine HC5.out.mono ?_
    rintro e w6 ⟨rfl, rfl⟩
    go_wp2_with fail
    have hq1' : (1 : Int) ≤ (q : Int) := by omega
    go_loopw [46] (fun i wr => ∃ k : Nat, k ≤ q - 1 ∧ i = .int .i64 k ∧ Hid (Below w5.heap.size w5 wr) ∧ Hid (Bld.Is w5.heap.size w5.heap.size ((A.drop 64).take (64 * k)) wr)) (fun i _ => q - (intOf i).toNat)
    case atStart => exact ⟨0, by omega, rfl, HB0, HI0⟩
    case round =>
      obtain ⟨k, hk, rfl, hB, hI⟩ := hrel
      clear HI0 HB0 HC5
      by_cases hlt : k < q - 1
      · have hlt' : (k : Int) < (q : Int) - 1 := by omega
        have HD6 := Lib.hid (H5.out.below hB.out).drew
        have y0 : wr.drew.cell? ⟨p, 0, none⟩ = some (.pointer (some ⟨d, 0, none⟩)) := HD6.out.lg.c0
        have HB1 := Lib.hid (HC.out _ HD6.out.one HD6.out.lg)
        have HR1 := Lib.hid (HRD.out (1 + k) (by omega) _ HD6.out.one)
        have e1 := HE0.out
        have g1 : IntKind.i64.wrap ((a : Int) * (q : Int)) = (qa : Int) := by rw [e1]; exact IntWalk.i64_in _ (by omega)
        have g2 : IntKind.i64.wrap ((qa : Int) + 1) = (qa : Int) + 1 := IntWalk.i64_in _ (by omega)
        have g3 : IntKind.i64.wrap ((qa : Int) + 1 + (k : Int)) = ((qa + (1 + k) : Nat) : Int) := by rw [IntWalk.i64_in _ (by omega)]; omega
        clear e1
        have HSt := Lib.hid (show (A.drop 64).take (64 * k) ++ (A.drop (64 * (1 + k))).take 64 = (A.drop 64).take (64 * (k + 1)) by
          rw [Nat.mul_succ, List.take_add, List.drop_drop]
          congr 3
          omega)
        have hbl : ((A.drop (64 * (1 + k))).take 64).length = 64 := by simp; omega
        have hbk : ((A.drop 64).take (64 * k)).length ≤ 200000 := by simp; omega
        generalize (A.drop (64 * (1 + k))).take 64 = bl at *
        generalize (A.drop 64).take (64 * k) = pre at *
        go_wp2_with fail
        go_region_held3 (fun w' => w'.cell? ⟨p, 0, none⟩ = some (.pointer (some ⟨d, 0, none⟩)))
          (first
            | with_reducible exact y0
            | with_reducible exact (Lg.c0 (HD6.out.below b2).lg))
          (first
            | (go_at_call 39; (with_reducible refine HB1.out.mono ?_); rintro e w7 ⟨rfl, rfl⟩)
            | (go_at_call 43; refine HR1.out.mono ?_; rintro e w7 ⟨rfl, b2⟩))
        have HB7 := Lib.hid (bthen hB.out (after_drew' b2))
        have HI7 := Lib.hid (Sg.is_below hI.out (after_drew' b2))
        clear b2 y0 g1 g2 g3 HB1 HR1
        have hs7 := HB7.out.size
        have hzl : (bs bl).size = 64 := by rw [bs_size]; exact hbl
        go_wp2_with fail
        refine (Bld.WriteString_calls w5.heap.size w5.heap.size pre (bs bl) w7 HI7.out (by omega) hs7).mono ?_
        rintro e w8 ⟨rfl, hI8, b8⟩
        rw [bs_toList, HSt.out] at hI8
        have HI8 := Lib.hid hI8
        have HB8 := Lib.hid (HB7.out.trans b8)
        clear hI8 b8
        go_wp2_with fail
        exact ⟨⟨k + 1, by omega, by go_num, HB8, HI8⟩, by simp [intOf]; omega⟩
      · obtain rfl : k = q - 1 := by omega
        have hlt' : ¬ (((q - 1 : Nat) : Int) < (q : Int) - 1) := by omega
        have hI' := hI.out
        rw [show (A.drop 64).take (64 * (q - 1)) = A.drop 64 from List.take_of_length_le (by simp; omega)] at hI'
        have HI' := Lib.hid hI'
        have hsz := hB.out.size
        clear hI hI'
        go_wp2_with fail
        refine (Bld.String_calls w5.heap.size w5.heap.size (A.drop 64) _ HI'.out hsz).mono ?_
        rintro e w6 ⟨rfl, b6⟩
        have HB6 := Lib.hid (hB.out.trans b6)
        clear b6
        go_wp2_with fail
        refine (Sg.Scan_own (A.drop 64) (by simp; omega) _ (tab_bel hT0.out hTB (H5.out.below HB6.out).bel)).mono ?_
        rintro e w7 ⟨v, rfl, hv, b7⟩
        have HV := Lib.hid hv
        have HB7 := Lib.hid (bthen HB6.out b7)
        clear hv b7
        go_wp2_with fail
        go_ret3
        unfold RdPost
        rw [HE.out]
        exact ⟨v, rfl, own_base HV.out (Nat.le_trans BB5.out.size HB6.out.size), bthen BB5.out HB7.out⟩
  · have hne : ((bs (F.take 17)).toList == (bs (headOf g)).toList) = false := by rw [Frm.bs_beq, HFR.out]; simpa using hc
    have hne2 : ((bs (F.take 17)).toList != (bs (headOf g)).toList) = true := by unfold bne; rw [hne]; rfl
    have HE := Lib.hid (HRDe.out.trans (if_neg hc))
    clear hc
    go_wp2_with fail
    go_ret3
    unfold RdPost
    rw [HE.out]
    exact ⟨_, rfl, World.ownsRow_nil _ _ _ _, BB5.out⟩
end Go.Proofs.YtjnjcjildiadgaaDoor.Wl
/- The walk of wal.Open. -/
namespace Go.Proofs.YtjnjcjildiadgaaDoor.Wl
open Go Go.RowKit Frame Oct Disk
/-- What Open has found behind k areas. -/
def ofold (h : Nat) (last : List UInt8) : Nat → Os
  | 0 => o0
  | k + 1 => ostep (k : Int) (rd (ar last h k)) (ofold h last k)
theorem opened_fold (h : Nat) (last : List UInt8) : ofold h last 2 = opened h last := rfl
/-- What holds of it. -/
structure OOk (k : Nat) (o : Os) : Prop where
  area : -1 ≤ o.area ∧ o.area < k
  best : o.area < 0 → o.best = []
  some_ : 0 ≤ o.area → o.best ≠ []
  gen : o.gen < 18446744073709551616 ∧ o.top < 18446744073709551616
theorem rd_lt {l : List UInt8} {g : Nat} {rs : List (List UInt8)} (h : rd l = some (g, rs)) : g < 18446744073709551616 := by rw [(rd_some h).2.1]; exact genOf_lt l
theorem OOk.step {k : Nat} {o : Os} (h : OOk k o) (l : List UInt8) : OOk (k + 1) (ostep (k : Int) (rd l) o) := by
  have ha := h.area
  have hg := h.gen
  cases hr : rd l with
  | none => exact ⟨by simp only [ostep]; omega, h.best, h.some_, h.gen⟩
  | some x =>
    obtain ⟨g, rs⟩ := x
    have hgl := rd_lt hr
    simp only [ostep]
    by_cases hc : rs ≠ [] ∧ (o.area < 0 ∨ o.top < g)
    · rw [if_pos hc]
      exact ⟨by show -1 ≤ (k : Int) ∧ (k : Int) < ((k + 1 : Nat) : Int); omega, fun h => absurd h (by show ¬ (k : Int) < 0; omega), fun _ => hc.1, by show max o.gen g < _ ∧ g < _; omega⟩
    · rw [if_neg hc]
      exact ⟨by show -1 ≤ o.area ∧ o.area < ((k + 1 : Nat) : Int); omega, h.best, h.some_, by show max o.gen g < _ ∧ o.top < _; omega⟩
theorem ofold_ok (h : Nat) (last : List UInt8) (k : Nat) : OOk k (ofold h last k) := by
  induction k with
  | zero => exact ⟨⟨by show (-1 : Int) ≤ -1; decide, by show (-1 : Int) < 0; decide⟩, fun _ => rfl, fun h => absurd h (by show ¬ (0 : Int) ≤ -1; decide), by show (0 : Nat) < _ ∧ (0 : Nat) < _; decide⟩
  | succ k ih => exact ih.step _
/-- A log that has just been made, with what has been found. -/
def oL (o : Os) : LSt := ⟨o.area, o.gen, false, false, [], []⟩
def OpenPost (d : Nat) (h : Nat) (last : List UInt8) (w : World) (e : Ending) (w' : World) : Prop :=
  ∃ v, e = .returned (.tuple #[.pointer (some ⟨w.heap.size, 0, none⟩), .string (bs ((opened h last).best.getD 0 [])), v, .int .i64 0]) ∧ ST v ((opened h last).best.drop 1) w' ∧ Lg w.heap.size d (openL h last) w' ∧ Below w.heap.size w w'
/-- What holds at each area. -/
structure OpI (B p d L : Nat) (s : DSt) (o : Os) (v : Value) (w0 w wr : World) : Prop where
  i : WD B p d L s (oL o) w0 wr
  v : wr.ownsRow (p + 1) 9 1 v o.best.length (Sg.cells o.best)
  b : Below w.heap.size w wr
theorem OpI.set {B p d L : Nat} {s : DSt} {o o' : Os} {v : Value} {w0 w wr : World} {i : Nat} {x : Value} (h : OpI B p d L s o v w0 w wr) (hp : p = w.heap.size) (hb : o'.best = o.best) (hc : LCells d (oL o') = (LCells d (oL o)).setIfInBounds i x) : OpI B p d L s o' v w0 w (wr.setCell ⟨p, i, none⟩ x) :=
  ⟨by unfold WD; rw [hc]; exact WP.set h.i i x, by rw [hb]; exact own_set h.v ⟨p, i, none⟩ (Nat.lt_succ_self p) x, h.b.setCell (p := ⟨p, i, none⟩) (by show _ ≤ p; omega) x⟩
theorem OpI.drew {B p d L : Nat} {s : DSt} {o : Os} {v : Value} {w0 w wr : World} (h : OpI B p d L s o v w0 w wr) : OpI B p d L s o v w0 w wr.drew := ⟨h.i.drew, h.v, h.b.drew⟩
theorem OpI.below {B p d L : Nat} {s : DSt} {o : Os} {v : Value} {w0 w wr w' : World} (h : OpI B p d L s o v w0 w wr) (hb : Below wr.heap.size wr w') : OpI B p d L s o v w0 w w' :=
  ⟨h.i.below hb, Sg.own_below h.v hb, bthen h.b hb⟩
set_option maxRecDepth 100000 in
set_option maxHeartbeats 1000000 in
theorem Open_calls (B d L n : Nat) (s : DSt) (hg : Disk.Good n s) (hw0 : s.wait = []) (hon : s.on = true) (h4 : 4 ≤ n) (w0 w : World) (hT : Crc.Tab w0) (hTB : 0 < B) (hb0 : Below B w0 w) (hk0 : Kept2 w0 w) (ho : One B d L s w) :
    Calls Tryd.prog 10 #[.pointer (some ⟨d, 0, none⟩)] w (OpenPost d (n / 2) s.last w) := by
  have hn := hg.hn
  have hBw := One.base_le ho
  have HON := Lib.hid (show Calls Tryd.prog 31 #[.pointer (some ⟨d, 0, none⟩)] w fun e w' => e = .returned (.bool true) ∧ w = w' from by
    obtain ⟨wv, hd⟩ := ho
    have := On_calls B d L wv s w hd
    rw [hon] at this
    exact this)
  have HBK := Lib.hid (show Calls Tryd.prog 32 #[.pointer (some ⟨d, 0, none⟩)] w fun e w' => e = .returned (.int .i64 (n : Int)) ∧ w = w' from by
    obtain ⟨wv, hd⟩ := ho
    have := Blocks_calls B d L wv s (by have := hg.len; omega) w hd
    rw [hg.len, show ((64 * n : Nat) : Int) / 64 = (n : Int) by omega] at this
    exact this)
  have HRD := Lib.hid (fun l a ha W h => read_calls B w.heap.size d L n s l hg hw0 hon h4 a ha w0 W hT hTB h)
  have HO := Lib.hid (show OpI B w.heap.size d L s o0 (.slice none 0 0) w0 w (w.alloc (.cells (LCells d (oL o0)) 60)) from
    ⟨⟨ho.below ((Below.refl _ _).alloc (Nat.le_refl _) _), Has.new w _ _, hb0.alloc hBw _, hk0.trans (Kept2.of_below ((Below.refl _ _).alloc (Nat.le_refl _) _)), hBw⟩, World.ownsRow_nil _ _ _ _, (Below.refl _ _).alloc (Nat.le_refl _) _⟩)
  have hn4 : decide ((n : Int) < 4) = false := by simp; omega
  clear hg hw0 hon hb0 hk0 ho h4
  have HOP := Lib.hid (opened_fold (n / 2) s.last)
  generalize n / 2 = q at *
  go_enter Tryd.func10, Tryd.ntmps10
  go_wp2_with fail
  refine HON.out.mono ?_
  rintro e w1 ⟨rfl, rfl⟩
  go_wp2_with fail
  refine HBK.out.mono ?_
  rintro e w1 ⟨rfl, rfl⟩
  go_wp2_with fail
  change Code.wp _ _ _ _ (w.alloc (.cells (LCells d (oL o0)) 60))
  generalize w.alloc (.cells (LCells d (oL o0)) 60) = w1 at *
  have HPp : Hid (w.heap.size = w.heap.size) := Lib.hid rfl
  generalize hpp : w.heap.size = p at HPp HO HRD ⊢
  have HPE := Lib.hid hpp
  clear hpp hn4 HPp
  go_loopw [7, 8, 27] (fun v x i wr => ∃ k : Nat, k ≤ 2 ∧ i = .int .i64 k ∧ x = .int .u64 ((ofold q s.last k).top : Int) ∧ Hid (OpI B p d L s (ofold q s.last k) v w0 w wr)) (fun _ _ i _ => 2 - (intOf i).toNat)
  case atStart => exact ⟨0, by omega, rfl, rfl, HO⟩
  case round =>
    obtain ⟨k, hk, rfl, rfl, hP⟩ := hrel
    clear HO
    have HK := Lib.hid (ofold_ok q s.last k)
    by_cases hlt : k < 2
    · have HR := Lib.hid (HRD.out (oL (ofold q s.last k)) k (by omega) wr hP.out.i)
      have HST := Lib.hid (show ofold q s.last (k + 1) = ostep (k : Int) (rd (ar s.last q k)) (ofold q s.last k) from rfl)
      have HRL := Lib.hid (fun g rs (h : rd (ar s.last q k) = some (g, rs)) => rd_lt h)
      generalize rd (ar s.last q k) = r at *
      generalize hoo : ofold q s.last k = o at *
      have HOO := Lib.hid hoo
      clear hoo
      have hk2 : (k : Int) < 2 := by omega
      cases r with
      | none =>
        have HE : Hid (ofold q s.last (k + 1) = o) := Lib.hid HST.out
        go_wp2_with fail
        refine HR.out.mono ?_
        rintro e w2 ⟨v2, rfl, -, b2⟩
        have HP2 := Lib.hid (hP.out.below b2)
        rw [← HE.out] at HP2
        clear b2
        go_wp2_with fail
        refine ⟨⟨k + 1, by omega, by go_num, by rw [HE.out], HP2⟩, by simp [intOf]; omega⟩
      | some gr =>
        obtain ⟨g, rs⟩ := gr
        have HR2 : Hid (Calls Tryd.prog 33 #[.pointer (some ⟨p, 0, none⟩), .int .i64 (k : Int)] wr fun e w' => ∃ v, e = .returned (.tuple #[.int .u64 (g : Int), v, .bool true]) ∧ w'.ownsRow wr.heap.size 9 1 v rs.length (Sg.cells rs) ∧ Below wr.heap.size wr w') := HR
        clear HR
        have hgl := HRL.out g rs rfl
        have HGL := Lib.hid hgl
        have hmx : max (o.gen : Int) (g : Int) = ((max o.gen g : Nat) : Int) := by omega
        have hps : p + 1 ≤ wr.heap.size := Nat.succ_le_of_lt hP.out.i.lg.lt
        have HPS := Lib.hid hps
        clear hgl hps HRL
        have HA := Lib.hid HK.out.area
        have hrl : rs.length ≤ 1000000000000 ∨ True := .inr trivial
        clear hrl
        by_cases hc : rs ≠ [] ∧ (o.area < 0 ∨ o.top < g)
        · have HE : Hid (ofold q s.last (k + 1) = ⟨(k : Int), max o.gen g, g, rs⟩) := Lib.hid (HST.out.trans (if_pos hc))
          obtain ⟨hr, hor⟩ := hc
          have hl0 : 0 < rs.length := List.length_pos_iff.2 hr
          clear hr
          have fin : ∀ (v2 : Value) (w2 : World), w2.ownsRow wr.heap.size 9 1 v2 rs.length (Sg.cells rs) → Below wr.heap.size wr w2 → OpI B p d L s (ofold q s.last (k + 1)) v2 w0 w ((w2.setCell ⟨p, 2, none⟩ (.int .u64 ((max o.gen g : Nat) : Int))).setCell ⟨p, 1, none⟩ (.int .i64 (k : Int))) := fun v2 w2 hv b2 => by
            rw [HE.out]
            have h1 := (hP.out.below b2).set (o' := ⟨o.area, max o.gen g, o.top, o.best⟩) (i := 2) (x := .int .u64 ((max o.gen g : Nat) : Int)) HPE.out.symm rfl rfl
            have h2 := h1.set (o' := ⟨(k : Int), max o.gen g, o.top, o.best⟩) (i := 1) (x := .int .i64 (k : Int)) HPE.out.symm rfl rfl
            exact ⟨h2.i, own_set (own_set (own_base hv HPS.out) ⟨p, 2, none⟩ (Nat.lt_succ_self p) _) ⟨p, 1, none⟩ (Nat.lt_succ_self p) _, h2.b⟩
          have FIN := Lib.hid fin
          clear fin
          by_cases hneg : o.area < 0
          all_goals
            have hneg' : decide (o.area < 0) = decide (o.area < 0) := rfl
            clear hneg'
            go_wp2_with fail
            refine HR2.out.mono ?_
            rintro e w2 ⟨v2, rfl, hv, b2⟩
            have hP2 := hP.out.below b2
            have c1 : w2.cell? ⟨p, 1, none⟩ = some (.int .i64 o.area) := hP2.i.lg.c1
            have c2 : w2.cell? ⟨p, 2, none⟩ = some (.int .u64 (o.gen : Int)) := hP2.i.lg.c2
            have f1 := Has.frozen hP2.i.lg 1
            have f2 := Has.frozen hP2.i.lg 2
            have HF := Lib.hid (FIN.out v2 w2 hv b2)
            obtain ⟨A2, c2', rfl, -⟩ := Sg.SV.of_own hv
            clear hP2 hv b2
            have hor2 : 0 ≤ o.area → o.top < g := by omega
            clear hor
            go_wp2_with fail
            all_goals
              exact ⟨⟨k + 1, by omega, by go_num, by rw [HE.out], HF⟩, by simp [intOf]; omega⟩
        · have HE : Hid (ofold q s.last (k + 1) = ⟨o.area, max o.gen g, o.top, o.best⟩) := Lib.hid (HST.out.trans (if_neg hc))
          have FIN := Lib.hid (show ∀ (w2 : World), Below wr.heap.size wr w2 → OpI B p d L s (ofold q s.last (k + 1)) _ w0 w (w2.setCell ⟨p, 2, none⟩ (.int .u64 ((max o.gen g : Nat) : Int))) from fun w2 b2 => by
            rw [HE.out]
            exact (hP.out.below b2).set (o' := ⟨o.area, max o.gen g, o.top, o.best⟩) (i := 2) (x := .int .u64 ((max o.gen g : Nat) : Int)) HPE.out.symm rfl rfl)
          have hcc : rs.length = 0 ∨ (0 < rs.length ∧ 0 ≤ o.area ∧ ¬ o.top < g) := by
            by_cases hr : rs = []
            · left; rw [hr]; rfl
            · right
              refine ⟨List.length_pos_iff.2 hr, ?_, fun h => hc ⟨hr, .inr h⟩⟩
              rcases Int.lt_or_le o.area 0 with h | h
              · exact absurd ⟨hr, .inl h⟩ hc
              · exact h
          clear hc
          rcases hcc with hl0 | ⟨hl0, hna, hnt⟩
          all_goals
            go_wp2_with fail
            refine HR2.out.mono ?_
            rintro e w2 ⟨v2, rfl, hv, b2⟩
            have hP2 := hP.out.below b2
            have c1 : w2.cell? ⟨p, 1, none⟩ = some (.int .i64 o.area) := hP2.i.lg.c1
            have c2 : w2.cell? ⟨p, 2, none⟩ = some (.int .u64 (o.gen : Int)) := hP2.i.lg.c2
            have f2 := Has.frozen hP2.i.lg 2
            have HF := Lib.hid (FIN.out w2 b2)
            obtain ⟨A2, c2', rfl, -⟩ := Sg.SV.of_own hv
            clear hP2 hv b2
            go_wp2_with fail
            all_goals
              exact ⟨⟨k + 1, by omega, by go_num, by rw [HE.out], HF⟩, by simp [intOf]; omega⟩
    · obtain rfl : k = 2 := by omega
      have hk2 : ¬ ((2 : Int) < 2) := by omega
      have HOB := Lib.hid HOP.out
      generalize hoo : ofold q s.last 2 = o at *
      have HOO := Lib.hid hoo
      have c1 : wr.cell? ⟨p, 1, none⟩ = some (.int .i64 o.area) := hP.out.i.lg.c1
      have HLO := Lib.hid (show oL o = openL q s.last by unfold openL; rw [← HOP.out]; rfl)
      clear hoo
      by_cases hneg : o.area < 0
      · have HBE := Lib.hid (HK.out.best hneg)
        go_wp2_with fail
        refine bodyPost_ret (v := .tuple #[.pointer (some ⟨p, 0, none⟩), .string ⟨#[]⟩, .slice none 0 0, .int .i64 0]) (by simp [results, Tryd.results10, go_sem]) rfl ?_
        unfold OpenPost
        rw [← HOB.out, HBE.out, HPE.out, ← HLO.out]
        exact ⟨_, rfl, by rw [List.drop_nil]; exact ST.nil _, hP.out.i.lg, HPE.out ▸ hP.out.b⟩
      · have HBE := Lib.hid (HK.out.some_ (by omega))
        obtain ⟨A, c, rfl, hlc, hcm, -, hA, hst⟩ := ST.of_own hP.out.v
        have hl0 : 0 < o.best.length := List.length_pos_iff.2 HBE.out
        obtain ⟨b, off, cs, rfl, hcs, hci⟩ := hst hl0
        have hi : ∀ i, i < o.best.length → wr.cell? ⟨b, off + i, none⟩ = some (.string (bs (o.best.getD i []))) := fun i hil => by rw [hcs.cell]; exact hci i hil
        have HCS := Lib.hid hcs
        have HCI := Lib.hid hci
        clear hcs hci hst
        have i0 := hi 0 hl0
        rw [Nat.add_zero] at i0
        generalize hxx : o.best.getD 0 [] = x0 at i0
        have HXX := Lib.hid hxx
        clear hxx
        have y0 : wr.drew.cell? ⟨b, off, none⟩ = some (.string (bs x0)) := i0
        clear hi
        unfold maxLen at hcm
        have z0 : (0 : Int) < (o.best.length : Int) := by omega
        have z1 : (1 : Int) ≤ (o.best.length : Int) := by omega
        have z2 : (1 : Int) ≤ (c : Int) := by omega
        have z3 : (o.best.length : Int) ≤ (c : Int) := by omega
        have HL1 := Lib.hid (show (o.best.drop 1).length = o.best.length - 1 by simp)
        by_cases hc1 : c = 1
        · subst hc1
          have hl1 : o.best.length = 1 := by omega
          go_wp2_with fail
          go_region
          go_wp2_with fail
          refine bodyPost_ret (v := .tuple #[.pointer (some ⟨p, 0, none⟩), .string (bs x0), .slice (some ⟨b, off, none⟩) 0 0, .int .i64 0]) (by simp [results, Tryd.results10, go_sem]) rfl ?_
          unfold OpenPost
          rw [← HOB.out, HPE.out, ← HLO.out, HXX.out]
          have he : o.best.drop 1 = [] := List.length_eq_zero_iff.1 (by rw [HL1.out, hl1])
          refine ⟨_, rfl, ?_, hP.out.drew.i.lg, HPE.out ▸ hP.out.drew.b⟩
          rw [he]
          exact ⟨_, 0, rfl, Nat.le_refl _, Nat.zero_le _, (fun h => by cases h), (fun a ha => ⟨b, off, (Option.some.inj ha).symm⟩), fun h => absurd h (Nat.lt_irrefl 0)⟩
        · go_wp2_with fail
          go_region
          go_wp2_with fail
          refine bodyPost_ret (v := .tuple #[.pointer (some ⟨p, 0, none⟩), .string (bs x0), .slice (some ⟨b, off + 1, none⟩) (o.best.length - 1) (c - 1), .int .i64 0]) (by simp [results, Tryd.results10, go_sem]) rfl ?_
          unfold OpenPost
          rw [← HOB.out, HPE.out, ← HLO.out, HXX.out]
          refine ⟨_, rfl, ?_, hP.out.drew.i.lg, HPE.out ▸ hP.out.drew.b⟩
          rw [← HL1.out]
          exact ⟨_, c - 1, rfl, by rw [HL1.out]; omega, by unfold maxLen; omega, (fun h => by cases h), (fun a ha => ⟨b, off + 1, (Option.some.inj ha).symm⟩), fun _ => ⟨b, off + 1, cs, rfl, HCS.out.drew, fun i hil => by
            rw [HL1.out] at hil
            have := HCI.out (i + 1) (by omega)
            rw [show off + 1 + i = off + (i + 1) by omega, this]
            congr 3
            simp only [List.getD_eq_getElem?_getD, List.getElem?_drop]
            rw [Nat.add_comm]⟩⟩
theorem Open_nil (w : World) : Calls Tryd.prog 10 #[.pointer none] w fun e w' => e = .returned (.tuple #[.pointer none, .string ⟨#[]⟩, .slice none 0 0, .int .i64 1]) ∧ w = w' := by
  go_enter Tryd.func10, Tryd.ntmps10
  go_wp2_with fail
  exact bodyPost_ret (v := .tuple #[.pointer none, .string ⟨#[]⟩, .slice none 0 0, .int .i64 1]) (by simp [results, Tryd.results10, go_sem]) rfl ⟨rfl, rfl⟩
set_option maxHeartbeats 1000000 in
theorem Open_off (B d L : Nat) (s : DSt) (hon : s.on = false) (w : World) (ho : One B d L s w) :
    Calls Tryd.prog 10 #[.pointer (some ⟨d, 0, none⟩)] w fun e w' => e = .returned (.tuple #[.pointer none, .string ⟨#[]⟩, .slice none 0 0, .int .i64 16]) ∧ w = w' := by
  have HON := Lib.hid (show Calls Tryd.prog 31 #[.pointer (some ⟨d, 0, none⟩)] w fun e w' => e = .returned (.bool false) ∧ w = w' from by
    obtain ⟨wv, hd⟩ := ho
    have := On_calls B d L wv s w hd
    rw [hon] at this
    exact this)
  clear hon ho
  go_enter Tryd.func10, Tryd.ntmps10
  go_wp2_with fail
  refine HON.out.mono ?_
  rintro e w1 ⟨rfl, rfl⟩
  go_wp2_with fail
  exact bodyPost_ret (v := .tuple #[.pointer none, .string ⟨#[]⟩, .slice none 0 0, .int .i64 16]) (by simp [results, Tryd.results10, go_sem]) rfl ⟨rfl, rfl⟩
set_option maxHeartbeats 1000000 in
theorem Open_few (B d L n : Nat) (s : DSt) (hg : Disk.Good n s) (h4 : n < 4) (hon : s.on = true) (w : World) (ho : One B d L s w) :
    Calls Tryd.prog 10 #[.pointer (some ⟨d, 0, none⟩)] w fun e w' => e = .returned (.tuple #[.pointer none, .string ⟨#[]⟩, .slice none 0 0, .int .i64 7]) ∧ w = w' := by
  have HON := Lib.hid (show Calls Tryd.prog 31 #[.pointer (some ⟨d, 0, none⟩)] w fun e w' => e = .returned (.bool true) ∧ w = w' from by
    obtain ⟨wv, hd⟩ := ho
    have := On_calls B d L wv s w hd
    rw [hon] at this
    exact this)
  have HBK := Lib.hid (show Calls Tryd.prog 32 #[.pointer (some ⟨d, 0, none⟩)] w fun e w' => e = .returned (.int .i64 (n : Int)) ∧ w = w' from by
    obtain ⟨wv, hd⟩ := ho
    have := Blocks_calls B d L wv s (by have := hg.len; omega) w hd
    rw [hg.len, show ((64 * n : Nat) : Int) / 64 = (n : Int) by omega] at this
    exact this)
  have hn4 : decide ((n : Int) < 4) = true := by simp; omega
  clear hon ho hg h4
  go_enter Tryd.func10, Tryd.ntmps10
  go_wp2_with fail
  refine HON.out.mono ?_
  rintro e w1 ⟨rfl, rfl⟩
  go_wp2_with fail
  refine HBK.out.mono ?_
  rintro e w1 ⟨rfl, rfl⟩
  go_wp2_with fail
  exact bodyPost_ret (v := .tuple #[.pointer none, .string ⟨#[]⟩, .slice none 0 0, .int .i64 7]) (by simp [results, Tryd.results10, go_sem]) rfl ⟨rfl, rfl⟩
end Go.Proofs.YtjnjcjildiadgaaDoor.Wl
