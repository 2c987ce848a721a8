/- The walk of wal.put. -/
import Derived.Test.YtjnjcjildiadgaaDoorWalPut
namespace Go.Proofs.YtjnjcjildiadgaaDoor.Wl
open Go Go.RowKit Frame Oct Disk
theorem extract_blk (x : List UInt8) (k : Nat) : (bs x).extract (k * 64) ((k + 1) * 64) = bs ((x.drop (64 * k)).take 64) := by
  apply ba_ext
  rw [bs_toList, ByteArray.data_extract, Array.toList_extract]
  show (x.drop (k * 64)).take _ = _
  rw [Nat.mul_comm k 64]
  congr 1
  omega
theorem wrote_wrs {n : Nat} {s : DSt} (hg : Disk.Good n s) (ho : s.on = true) (a N k : Nat) (x : List UInt8) (hk : k < N) (ha : a + N ≤ n) :
    ans { s with wait := wrs a x k } ((a + k : Nat) : Int) (bs ((x.drop (64 * k)).take 64)) = 0 ∧ wrote { s with wait := wrs a x k } ((a + k : Nat) : Int) (bs ((x.drop (64 * k)).take 64)) = { s with wait := wrs a x (k + 1) } := by
  have hc : chk { s with wait := wrs a x k } ((a + k : Nat) : Int) = 0 := by
    unfold chk
    rw [if_neg (by show ¬ s.on = false; rw [ho]; decide), if_neg]
    have := hg.len
    show ¬ (((a + k : Nat) : Int) < 0 ∨ (s.last.length : Int) / 64 ≤ ((a + k : Nat) : Int))
    omega
  have hz : (bs ((x.drop (64 * k)).take 64)).size ≤ 64 := by rw [bs_size]; simp; omega
  have ha : ans { s with wait := wrs a x k } ((a + k : Nat) : Int) (bs ((x.drop (64 * k)).take 64)) = 0 := by
    unfold ans
    rw [if_neg (by rw [hc]; decide), if_neg (by omega)]
  refine ⟨ha, ?_⟩
  unfold wrote
  rw [if_pos ha]
  rfl
theorem wrote_off {s : DSt} (ho : s.on = false) (k : Int) (t : ByteArray) : ans s k t = 16 ∧ wrote s k t = s := by
  have hc : chk s k = 16 := by unfold chk; rw [if_pos ho]
  have ha : ans s k t = 16 := by unfold ans; rw [hc]; rfl
  refine ⟨ha, ?_⟩
  unfold wrote
  rw [ha]; rfl
/-- How a put comes out. -/
def PutPost (B p d L a N : Nat) (s : DSt) (l : LSt) (X : List UInt8) (w0 : World) (e : Ending) (w' : World) : Prop :=
  e = .returned (.int .i64 (putS s a N X).2) ∧ WD B p d L (putS s a N X).1 (if (putS s a N X).2 ≠ 0 then brk l else l) w0 w'
/-- What holds of a put's loop. -/
structure PutI (B p d L a k : Nat) (s : DSt) (l : LSt) (X : List UInt8) (w0 wr : World) : Prop where
  i : WD B p d L { s with wait := wrs a X k } l w0 wr
  o : s.on = false → k = 0
set_option maxRecDepth 100000 in
set_option maxHeartbeats 300000 in
theorem put_calls (B p d L n : Nat) (s : DSt) (l : LSt) (hi : LInv n s l) (area block least N a : Nat) (x : List UInt8) (hN : N = max least ((x.length + 63) / 64)) (h1 : 1 ≤ N) (hae : a = n / 2 * area + block) (ha : a + N ≤ n) (har : area ≤ 1) (w0 w : World) (h : WD B p d L s l w0 w) :
    Calls Tryd.prog 37 #[.pointer (some ⟨p, 0, none⟩), .int .i64 (area : Int), .int .i64 (block : Int), .int .i64 (least : Int), .string (bs x)] w (PutPost B p d L a N s l (pad x N) w0) := by
  have hn := hi.good.hn
  have hxN : x.length ≤ 64 * N := by omega
  have hpl := pad_length x N hxN
  have hzx : (bs x).size = x.length := bs_size _
  have hmx : max (least : Int) (((x.length : Int) + 64 - 1) / 64) = (N : Int) := by omega
  have HRP := Lib.hid (Repeat_0 (64 * N - x.length) (by omega))
  have HRC := Lib.hid (show ((64 * N - x.length : Nat) : Int) = (N : Int) * 64 - (x.length : Int) by omega)
  rw [HRC.out] at HRP
  have HPD := Lib.hid (show bs x ++ bs (noughts (64 * N - x.length)) = bs (pad x N) from bs_append _ _)
  have hzn : (bs (noughts (64 * N - x.length))).size = 64 * N - x.length := by rw [bs_size]; simp
  have HI := Lib.hid hi
  have H := Lib.hid h
  have hN4 : N ≤ 4096 := by omega
  have HAE := Lib.hid hae
  clear h hi hN hae
  generalize hX : pad x N = X at *
  have HX := Lib.hid hX
  clear hX
  go_enter Tryd.func37, Tryd.ntmps37
  go_wp2_with fail
  refine (HRP.out _).mono ?_
  rintro e w1 ⟨rfl, b1⟩
  have H1 := Lib.hid (H.out.below b1)
  clear b1
  go_wp2_with fail
  rw [HPD.out]
  clear HRP HRC HPD hzn hmx hzx hxN
  have hW0 : s.wait = [] := HI.out.wait
  have HST := Lib.hid (show PutI B p d L a 0 s l X w0 w1 from ⟨by rw [show ({ s with wait := wrs a X 0 } : DSt) = s by rw [show wrs a X 0 = [] from rfl, ← hW0]]; exact H1.out, fun _ => rfl⟩)
  clear H1 H
  have HQ := Lib.hid hW0
  have HG := Lib.hid HI.out.good
  clear hW0
  have hd2 : n / 2 ≤ 2048 := by omega
  have hq2 : n / 2 * area ≤ 2048 := by have := Nat.mul_le_mul_left (n / 2) har; omega
  have HBL := Lib.hid (fun s' W ho k1 k2 => blocks_calls B p d L n s' l ho W k1 k2)
  generalize n / 2 = q at *
  have HE0 := Lib.hid (show (area : Int) * (q : Int) = ((q * area : Nat) : Int) by rw [Nat.mul_comm]; rfl)
  generalize q * area = qa at *
  have hae := HAE.out
  have g0 : ∀ k : Nat, (qa : Int) + (block : Int) + (k : Int) = ((a + k : Nat) : Int) := fun k => by omega
  have G0 := Lib.hid g0
  have hba : block ≤ a ∧ qa ≤ a := by omega
  clear hae g0
  go_loopw [31] (fun i wr => ∃ k : Nat, k ≤ N ∧ i = .int .i64 k ∧ Hid (PutI B p d L a k s l X w0 wr)) (fun i _ => N - (intOf i).toNat)
  case atStart => exact ⟨0, by omega, rfl, HST⟩
  case round =>
    obtain ⟨k, hk, rfl, hP⟩ := hrel
    clear HST
    by_cases hlt : k < N
    · have HD := Lib.hid hP.out.i.drew
      have y0 : wr.drew.cell? ⟨p, 0, none⟩ = some (.pointer (some ⟨d, 0, none⟩)) := HD.out.lg.c0
      have HGk := Lib.hid (putS_good HG.out a k X (by omega))
      have HB1 := Lib.hid (HBL.out _ _ HGk.out HD.out.one HD.out.lg)
      have e1 := HE0.out
      have g1 : IntKind.i64.wrap ((area : Int) * (q : Int)) = (qa : Int) := by rw [e1]; exact IntWalk.i64_in _ (by omega)
      have g2 : IntKind.i64.wrap ((qa : Int) + (block : Int)) = (qa : Int) + (block : Int) := IntWalk.i64_in _ (by omega)
      have g3 : IntKind.i64.wrap ((qa : Int) + (block : Int) + (k : Int)) = ((a + k : Nat) : Int) := by rw [IntWalk.i64_in _ (by omega)]; exact G0.out k
      have g4 : IntKind.i64.wrap ((k : Int) * 64) = (k : Int) * 64 := IntWalk.i64_in _ (by omega)
      have g5 : IntKind.i64.wrap ((k : Int) + 1) = (k : Int) + 1 := IntWalk.i64_in _ (by omega)
      have g6 : IntKind.i64.wrap (((k : Int) + 1) * 64) = ((k : Int) + 1) * 64 := IntWalk.i64_in _ (by omega)
      have j1 : (0 : Int) ≤ (k : Int) * 64 := by omega
      have j2 : (k : Int) * 64 ≤ ((k : Int) + 1) * 64 := by omega
      have hXs : (bs X).size = 64 * N := by rw [bs_size]; exact hpl
      have j3 : ((k : Int) + 1) * 64 ≤ ((64 * N : Nat) : Int) := by omega
      have j7 : ((k : Int) + 1) * 64 ≤ 64 * (N : Int) := by omega
      have j8 : (k + 1) * 64 ≤ 64 * N := by omega
      have j9 : (0 : Int) ≤ ((k : Int) + 1) * 64 := by omega
      have j10 : (k : Int) ≤ (k : Int) + 1 := by omega
      have j4 : ((k : Int) * 64).toNat = k * 64 := by omega
      have j5 : (((k : Int) + 1) * 64).toNat = (k + 1) * 64 := by omega
      have j6 : (bs X).extract (k * 64) ((k + 1) * 64) = bs ((X.drop (64 * k)).take 64) := extract_blk X k
      clear e1
      have HC0 := Lib.hid (HD.out.one.calls fun v hd => Write_any B d L n v _ ((a + k : Nat) : Int) (bs ((X.drop (64 * k)).take 64)) HGk.out (by show (wrs _ X k).length + 1 ≤ 100000; rw [wrs_length]; omega) wr.drew hd)
      rcases Bool.eq_false_or_eq_true s.on with ho | ho
      · obtain ⟨a1, a2⟩ := wrote_wrs HG.out ho a N k X hlt (by omega)
        rw [a1, a2] at HC0
        have HOn := Lib.hid ho
        clear a1 a2 ho
        go_wp2_with fail
        go_region_held3 (fun w' => w'.cell? ⟨p, 0, none⟩ = some (.pointer (some ⟨d, 0, none⟩)))
          (first
            | with_reducible exact y0
            | with_reducible exact (Lg.c0 (HD.out.lg.kept k2)))
          (first
            | (go_at_call 39; (with_reducible refine HB1.out.mono ?_); rintro e w2 ⟨rfl, rfl⟩)
            | (go_at_call 8; refine HC0.out.mono ?_; rintro e w2 ⟨rfl, o2, b2, k2⟩))
        have HP2 := Lib.hid (show PutI B p d L a (k + 1) s l X w0 w2 from ⟨HD.out.disk o2 b2 k2, fun h => absurd h (by rw [HOn.out]; decide)⟩)
        clear y0 g1 g2 g3 g4 g5 g6 j1 j2 j3 j4 j5 j6 j7 j8 j9 j10 HC0 hXs
        all_goals
          go_wp2_with fail
          exact ⟨⟨k + 1, by omega, by go_num, HP2⟩, by simp [intOf]; omega⟩
      · have hk0 := hP.out.o ho
        obtain ⟨a1, a2⟩ := wrote_off (s := { s with wait := wrs a X k }) ho ((a + k : Nat) : Int) (bs ((X.drop (64 * k)).take 64))
        rw [a1, a2] at HC0
        have HOf := Lib.hid ho
        have HK0 := Lib.hid hk0
        clear a1 a2 ho hk0
        go_wp2_with fail
        go_region_held3 (fun w' => w'.cell? ⟨p, 0, none⟩ = some (.pointer (some ⟨d, 0, none⟩)))
          (first
            | with_reducible exact y0
            | with_reducible exact (Lg.c0 (HD.out.lg.kept k2)))
          (first
            | (go_at_call 39; (with_reducible refine HB1.out.mono ?_); rintro e w2 ⟨rfl, rfl⟩)
            | (go_at_call 8; refine HC0.out.mono ?_; rintro e w2 ⟨rfl, o2, b2, k2⟩))
        have HP2 := Lib.hid (HD.out.disk o2 b2 k2)
        clear y0 g1 g2 g3 g4 g5 g6 j1 j2 j3 j4 j5 j6 j7 j8 j9 j10 HC0 hXs
        go_wp2_with fail
        refine (fail_calls B p d L _ l 16 w0 _ HP2.out).mono ?_
        rintro e w3 ⟨rfl, h3⟩
        go_wp2_with fail
        go_ret
        have hk0 := HK0.out
        subst hk0
        have e1 : putS s a N X = (s, 16) := by unfold putS; rw [HOf.out]; rfl
        unfold PutPost
        rw [e1]
        have e2 : ({ s with wait := wrs a X 0 } : DSt) = s := by rw [show wrs a X 0 = [] from rfl, ← HQ.out]
        rw [e2] at h3
        exact ⟨rfl, h3⟩
    · obtain rfl : k = N := by omega
      clear hlt
      have HGk := Lib.hid (putS_good HG.out a k X (by omega))
      have ho : s.on = true := by
        rcases Bool.eq_false_or_eq_true s.on with ho | ho
        · exact ho
        · have := hP.out.o ho; omega
      have HPU := Lib.hid (show putS s a k X = synced { s with wait := wrs a X k } by unfold putS; rw [if_pos ho])
      clear ho
      have c0 := hP.out.i.lg.c0
      have HC0 := Lib.hid (hP.out.i.one.calls fun v hd => Sync_any B d L n v _ HGk.out wr hd)
      have h16 : (synced { s with wait := wrs a X k }).2 = 0 ∨ (synced { s with wait := wrs a X k }).2 = 16 := by
        unfold synced
        split
        · split
          · exact .inr rfl
          · exact .inl rfl
        · exact .inr rfl
      rw [← HPU.out] at HC0 h16
      have HPS := Lib.hid (show ∀ w', One B d L (putS s a k X).1 w' → Below B wr w' → Kept wr w' → WD B p d L (putS s a k X).1 l w0 w' from fun w' a1 a2 a3 => hP.out.i.disk a1 a2 a3)
      generalize hr : putS s a k X = r at *
      have HRR := Lib.hid hr
      clear hr
      obtain ⟨r1, r2⟩ := r
      simp only at HC0 h16 HPS
      rcases h16 with h16 | h16
      · subst h16
        go_wp2_with fail
        refine HC0.out.mono ?_
        rintro e w2 ⟨rfl, o2, b2, k2⟩
        have HF := Lib.hid (HPS.out w2 o2 b2 k2)
        clear o2 b2 k2
        go_wp2_with fail
        go_ret
        unfold PutPost
        rw [HRR.out]
        exact ⟨rfl, HF.out⟩
      · subst h16
        go_wp2_with fail
        refine HC0.out.mono ?_
        rintro e w2 ⟨rfl, o2, b2, k2⟩
        have HF := Lib.hid (HPS.out w2 o2 b2 k2)
        clear o2 b2 k2
        go_wp2_with fail
        refine (fail_calls B p d L _ l 16 w0 _ HF.out).mono ?_
        rintro e w3 ⟨rfl, h3⟩
        have H3 := Lib.hid h3
        clear h3
        go_wp2_with fail
        go_ret
        unfold PutPost
        rw [HRR.out]
        exact ⟨rfl, H3.out⟩
end Go.Proofs.YtjnjcjildiadgaaDoor.Wl
