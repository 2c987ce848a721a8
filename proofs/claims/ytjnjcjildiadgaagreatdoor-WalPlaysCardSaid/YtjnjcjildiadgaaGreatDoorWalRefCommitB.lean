/- The walk of the document's Commit, where it writes. -/
import Derived.Test.YtjnjcjildiadgaaGreatDoorWalRefCommit
namespace Go.Proofs.YtjnjcjildiadgaaGreatDoor.Wl
open Go Go.RowKit Frame Oct Disk
set_option maxRecDepth 100000 in
set_option maxHeartbeats 6000000 in
theorem rCommit_main (n : Nat) (s : DSt) (l : LSt) (hi : LInv n s l) (hv : Inv s) (hb : l.broken = false) (hr : l.ready = true) (hw : l.wait ≠ []) (w : World) :
    Calls Tryz.prog 27 #[RD0 (canon s), RL (n / 2) l] w (RCom n s l w) := by
  have HS0 := Lib.hid (RcI.start (n / 2) (canon s) l w)
  have HAE := Lib.hid (show commitS s l (n / 2) = if checkE l ≠ 0 then (s, l, checkE l) else if l.wait = [] then (s, l, 0) else
    if (putS s (n / 2 * l.area.toNat + (1 + from_ l)) (many l) (pad (text l) (many l))).2 ≠ 0 then ((putS s (n / 2 * l.area.toNat + (1 + from_ l)) (many l) (pad (text l) (many l))).1, brk l, (putS s (n / 2 * l.area.toNat + (1 + from_ l)) (many l) (pad (text l) (many l))).2)
    else ((putS s (n / 2 * l.area.toNat + (1 + from_ l)) (many l) (pad (text l) (many l))).1, { l with done := l.done ++ l.wait, wait := [] }, 0) from rfl)
  have hce : checkE l = 0 := by unfold checkE; rw [hb, hr]; rfl
  have HRV := Lib.hid (show RL (n / 2) l = .agg #[.int .i64 ((n / 2 : Nat) : Int), .int .i64 l.area, .int .u64 (l.gen : Int), .bool l.ready, .bool l.broken, .string (bs l.done), .string (bs l.wait)] from rfl)
  have HRD := Lib.hid (show ∀ q, RD0 q = .agg #[.string (Oct.bs q.last), .slice none 0 0, .bool q.on, .bool q.armed, .int .i64 q.syncs, .int .i64 q.cut] from fun q => rfl)
  have HMK := Lib.hid (fun s' l' x q' w' => RCom.mk (n := n) (s := s) (l := l) (s' := s') (l' := l') (x := x) (q' := q') (w := w) (w' := w'))
  have HI := Lib.hid hi
  have HV := Lib.hid hv
  have HRT := Lib.hid hr
  have HBT := Lib.hid hb
  have HWN := Lib.hid hw
  have HCK := Lib.hid hce
  clear hi hv hr hb hw hce
  generalize hqh : n / 2 = qh at *
  have HQH := Lib.hid hqh
  clear hqh
  generalize hqq : canon s = q at *
  have HQ := Lib.hid hqq
  clear hqq
  unfold RC zeroL RCells zeroR at HS0
  rw [HRV.out, HRD.out]
  go_enter Tryz.func27, Tryz.ntmps27
  go_upto_region 1 with fail
  generalize ((((w.alloc (.cells #[.string (Oct.bs q.last), .slice none 0 0, .bool q.on, .bool q.armed, .int .i64 q.syncs, .int .i64 q.cut] 30)).alloc (.cells #[.int .i64 (qh : Int), .int .i64 l.area, .int .u64 (l.gen : Int), .bool l.ready, .bool l.broken, .string (bs l.done), .string (bs l.wait)] 35)).alloc (.cells #[.string ⟨#[]⟩, .slice none 0 0, .bool false, .bool false, .int .i64 0, .int .i64 0] 30)).alloc (.cells #[.int .i64 0, .int .i64 0, .int .u64 0, .bool false, .bool false, .string ⟨#[]⟩, .string ⟨#[]⟩] 35)) = w1 at *
  generalize hzz : w.heap.size = z at *
  have HZZ := Lib.hid hzz
  clear hzz
  have n1 : ¬ z = z + 2 := by omega
  have n2 : ¬ z = z + 3 := by omega
  have n3 : ¬ z + 1 = z + 2 := by omega
  have n4 : ¬ z + 1 = z + 3 := by omega
  have n5 : ¬ z + 2 = z := by omega
  have n6 : ¬ z + 3 = z := by omega
  have n7 : ¬ z + 2 = z + 1 := by omega
  have n8 : ¬ z + 3 = z + 1 := by omega
  have n9 : ¬ z + 2 = z + 3 := by omega
  have n0 : ¬ z + 3 = z + 2 := by omega
  obtain ⟨⟨y0, y1, y2, y3, y4, y5⟩, ⟨c0, c1, c2, c3, c4, c5, c6⟩, ⟨u0, u1, u2, u3, u4, u5⟩, ⟨v0, v1, v2, v3, v4, v5, v6⟩, yf, cf, uf, vf⟩ := six_facts HS0.out
  have hr := HRT.out
  have hb := HBT.out
  have hw := HWN.out
  have hce := HCK.out
  have HRY := Lib.hid (HI.out.ready hr)
  have HBRK := Lib.hid (show ∀ W, Calls Tryz.prog 49 #[.agg #[.int .i64 (qh : Int), .int .i64 l.area, .int .u64 (l.gen : Int), .bool l.ready, .bool l.broken, .string (bs l.done), .string (bs l.wait)]] W (fun e w' => e = .returned (.agg #[.int .i64 (qh : Int), .int .i64 l.area, .int .u64 (l.gen : Int), .bool false, .bool true, .string (bs l.done), .string (bs l.wait)]) ∧ Below W.heap.size W w') from fun W => rbroken_calls qh l W)
  rw [hr, hb] at HRV
  rw [hr] at c3
  rw [hb] at c4
  have HAE2 := Lib.hid (HAE.out.trans (if_neg (by rw [hce]; decide)))
  clear hce HAE hr hb
  have hw' := Sg.bs_ne_empty l.wait (fun e => hw (List.length_eq_zero_iff.1 e))
  have HE0 := Lib.hid (HAE2.out.trans (if_neg hw))
  obtain ⟨m1, m2, m3⟩ := many_bounds n l HI.out.rm hw
  have hrm := HI.out.rm
  have hn := HI.out.good.hn
  have h4 := HI.out.four
  rw [HQH.out] at m3 hrm
  have hq2 : 2 ≤ qh ∧ qh ≤ 2048 ∧ 2 * qh ≤ n := by have := HQH.out; omega
  have ha0 := HRY.out.1
  have ha1 := HI.out.area.2
  obtain ⟨k, hk⟩ := Int.eq_ofNat_of_zero_le ha0
  have hk1 : k ≤ 1 := by omega
  have hkt : l.area.toNat = k := by omega
  rw [hkt] at HE0
  rw [hk] at c1 HRV
  have hkm : qh * k ≤ qh := by have := Nat.mul_le_mul_left qh hk1; omega
  have HP := Lib.hid (fun W => rput0_calls n s l HI.out.good HI.out.wait HV.out k (1 + from_ l) (many l) (qh * k + (1 + from_ l)) (text l) rfl m2 (by rw [HQH.out]) (by omega) hk1 W)
  simp only [HQ.out, HQH.out, HRV.out] at HP
  have hzd : (bs l.done).size = l.done.length := bs_size _
  have hzw : (bs l.wait).size = l.wait.length := bs_size _
  have hfr : (l.done.length : Int) / 64 = ((from_ l : Nat) : Int) := by unfold from_; omega
  have hf1 : 64 * from_ l ≤ l.done.length := by unfold from_; omega
  have hap : bs l.done ++ bs l.wait = bs (l.done ++ l.wait) := bs_append _ _
  have hza : (bs (l.done ++ l.wait)).size = l.done.length + l.wait.length := by rw [bs_size, List.length_append]
  have hext : (bs (l.done ++ l.wait)).extract (64 * from_ l) (l.done.length + l.wait.length) = bs (text l) := by
    have h := extract_from (l.done ++ l.wait) (64 * from_ l)
    rw [List.length_append, List.drop_append_of_le_length hf1] at h
    exact h
  have hb1 : l.done.length ≤ 200000 := by omega
  have hb2 : l.wait.length ≤ 200000 := by omega
  clear hw hkt ha0 ha1 m1 m2 m3 hrm HAE2 hkm h4 hn
  have HKA := Lib.hid hk
  clear hk
  generalize l.done ++ l.wait = al at *
  generalize hff : from_ l = f at *
  have HFF := Lib.hid hff
  clear hff
  generalize putS s (qh * k + (1 + f)) (many l) (pad (text l) (many l)) = p1 at *
  obtain ⟨d1, e1⟩ := p1
  simp only at HP HE0
  generalize hq2' : canon d1 = q2 at *
  have HQ2 := Lib.hid hq2'
  clear hq2'
  rw [HRD.out, HRD.out] at HP
  have g1 : IntKind.i64.wrap (1 + (f : Int)) = ((1 + f : Nat) : Int) := by rw [IntWalk.i64_in _ (by omega)]; omega
  have g2 : IntKind.i64.wrap (64 * (f : Int)) = 64 * (f : Int) := IntWalk.i64_in _ (by omega)
  have j1 : (0 : Int) ≤ 64 * (f : Int) := by omega
  have j2 : 64 * (f : Int) ≤ (l.done.length : Int) + (l.wait.length : Int) := by omega
  have j3 : (64 * (f : Int)).toNat = 64 * f := by omega
  have j4 : 64 * f ≤ l.done.length + l.wait.length := by omega
  have hcc : ¬ (9223372036854775807 < l.done.length + l.wait.length) := by omega
  go_wp2_with fail
  go_region_with (go_at_call 48; refine (HP.out _).mono ?_; rintro e w2 ⟨rfl, b2⟩; have HS2 := Lib.hid (HS0.out.drew.below b2); obtain ⟨⟨x0, x1, x2, x3, x4, x5⟩, -, -, -, xf, -, -, -⟩ := six_facts HS2.out)
  all_goals
    have HS3 := Lib.hid (HS2.out.next (q' := q2) (by have := HZZ.out; omega) n1 n2)
    unfold set6 at HS3
    generalize ((((((w2.setCell ⟨z, 0, none⟩ (.string (bs q2.last))).setCell ⟨z, 1, none⟩ (.slice none 0 0)).setCell ⟨z, 2, none⟩ (.bool q2.on)).setCell ⟨z, 3, none⟩ (.bool q2.armed)).setCell ⟨z, 4, none⟩ (.int .i64 q2.syncs)).setCell ⟨z, 5, none⟩ (.int .i64 q2.cut)) = w3 at *
    clear HS2 y0 y1 y2 y3 y4 y5 c0 c1 c2 c3 c4 c5 c6 u0 u1 u2 u3 u4 u5 v0 v1 v2 v3 v4 v5 v6 yf cf uf vf x0 x1 x2 x3 x4 x5 xf
    obtain ⟨⟨y0, y1, y2, y3, y4, y5⟩, ⟨c0, c1, c2, c3, c4, c5, c6⟩, ⟨u0, u1, u2, u3, u4, u5⟩, ⟨v0, v1, v2, v3, v4, v5, v6⟩, yf, cf, uf, vf⟩ := six_facts HS3.out
    by_cases he : e1 ≠ 0
    · have he' : (e1 != 0) = true := by simpa using he
      have HE := Lib.hid (HE0.out.trans (if_pos he))
      clear he
      go_wp2_with fail
      go_region_with (go_at_call 49; refine (HBRK.out _).mono ?_; rintro e w4 ⟨rfl, b4⟩; have HS4 := Lib.hid (HS3.out.drew.below b4); obtain ⟨⟨x0, x1, x2, x3, x4, x5⟩, -, ⟨t0, t1, t2, t3, t4, t5⟩, ⟨r0, r1, r2, r3, r4, r5, r6⟩, -, -, tf, rf⟩ := six_facts HS4.out)
      all_goals
        go_wp2_with fail
        refine bodyPost_ret (v := .tuple #[RD0 q2, RL qh (brk l), .int .i64 e1]) (by rw [HRD.out, show RL qh (brk l) = .agg #[.int .i64 (qh : Int), .int .i64 l.area, .int .u64 (l.gen : Int), .bool false, .bool true, .string (bs l.done), .string (bs l.wait)] from rfl]; simp [results, Tryz.results27, go_sem, t0, t1, t2, t3, t4, t5, r0, r1, r2, r3, r4, r5, r6]) rfl ?_
        refine HMK.out _ _ _ _ _ HE.out HQ2.out ?_
        have HB13 := below13 (b := z + 1 + 1) (c := z + 1 + 1 + 1) HS4.out.b (by have := HZZ.out; omega) (by have := HZZ.out; omega)
        unfold set6 set7 at HB13
        rw [HZZ.out] at HB13
        first
          | (with_reducible exact (HB13 _ _ _ _ _ _ _ _ _ _ _ _ _).1)
          | (with_reducible exact (HB13 _ _ _ _ _ _ _ _ _ _ _ _ _).2)
          | (with_reducible exact (HB13 _ _ _ _ _ _ _ _ _ _ _ _ _).1.drew)
          | (with_reducible exact (HB13 _ _ _ _ _ _ _ _ _ _ _ _ _).2.drew)
    · obtain rfl : e1 = 0 := by omega
      have HE := Lib.hid (HE0.out.trans (if_neg he))
      clear he
      have HS5 := Lib.hid (HS3.out.done (by have := HZZ.out; omega) n3 n4 al)
      go_upto_region 14 with fail
      generalize (w3.setCell ⟨z + 1, 5, none⟩ (.string (bs al))).setCell ⟨z + 1, 6, none⟩ (.string ⟨#[]⟩) = w5 at *
      clear HS3 y0 y1 y2 y3 y4 y5 c0 c1 c2 c3 c4 c5 c6 u0 u1 u2 u3 u4 u5 v0 v1 v2 v3 v4 v5 v6 yf cf uf vf
      obtain ⟨⟨y0, y1, y2, y3, y4, y5⟩, ⟨c0, c1, c2, c3, c4, c5, c6⟩, ⟨u0, u1, u2, u3, u4, u5⟩, ⟨v0, v1, v2, v3, v4, v5, v6⟩, -, -, uf, vf⟩ := six_facts HS5.out
      simp only [show bs ([] : List UInt8) = ⟨#[]⟩ from rfl] at c6
      go_region
      all_goals
        go_wp2_with fail
        refine bodyPost_ret (v := .tuple #[RD0 q2, RL qh { l with done := al, wait := [] }, .int .i64 0]) (by rw [HRD.out, show RL qh { l with done := al, wait := [] } = .agg #[.int .i64 (qh : Int), .int .i64 l.area, .int .u64 (l.gen : Int), .bool l.ready, .bool l.broken, .string (bs al), .string ⟨#[]⟩] from rfl]; simp [results, Tryz.results27, go_sem, u0, u1, u2, u3, u4, u5, v0, v1, v2, v3, v4, v5, v6]) rfl ?_
        refine HMK.out _ _ _ _ _ HE.out HQ2.out ?_
        have HB13 := below13 (b := z + 1 + 1) (c := z + 1 + 1 + 1) HS5.out.b (by have := HZZ.out; omega) (by have := HZZ.out; omega)
        unfold set6 set7 at HB13
        rw [HZZ.out] at HB13
        first
          | (with_reducible exact (HB13 _ _ _ _ _ _ _ _ _ _ _ _ _).1)
          | (with_reducible exact (HB13 _ _ _ _ _ _ _ _ _ _ _ _ _).2)
          | (with_reducible exact (HB13 _ _ _ _ _ _ _ _ _ _ _ _ _).1.drew)
          | (with_reducible exact (HB13 _ _ _ _ _ _ _ _ _ _ _ _ _).2.drew)
theorem rCommit_calls (n : Nat) (s : DSt) (l : LSt) (hi : LInv n s l) (hv : Inv s) (w : World) :
    Calls Tryz.prog 27 #[RD0 (canon s), RL (n / 2) l] w (RCom n s l w) := by
  by_cases h1 : checkE l ≠ 0
  · exact rCommit_short n s l (.inl h1) w
  by_cases h2 : l.wait = []
  · exact rCommit_short n s l (.inr h2) w
  obtain ⟨h3, h4⟩ := checkE_ok (show checkE l = 0 by omega)
  exact rCommit_main n s l hi hv h3 h4 h2 w
end Go.Proofs.YtjnjcjildiadgaaGreatDoor.Wl
