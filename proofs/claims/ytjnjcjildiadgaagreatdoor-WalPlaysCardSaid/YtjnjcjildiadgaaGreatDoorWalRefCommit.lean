/- The walk of the document's Commit, where it writes nothing. -/
import Derived.Test.YtjnjcjildiadgaaGreatDoorWalRefBox
namespace Go.Proofs.YtjnjcjildiadgaaGreatDoor.Wl
open Go Go.RowKit Frame Oct Disk
set_option maxRecDepth 100000 in
set_option maxHeartbeats 800000 in
theorem rCommit_short (n : Nat) (s : DSt) (l : LSt) (hs : checkE l ≠ 0 ∨ l.wait = []) (w : World) :
    Calls Tryz.prog 27 #[RD0 (canon s), RL (n / 2) l] w (RCom n s l w) := by
  have HS0 := Lib.hid (RcI.start (n / 2) (canon s) l w)
  have HAE := Lib.hid (show commitS s l (n / 2) = if checkE l ≠ 0 then (s, l, checkE l) else if l.wait = [] then (s, l, 0) else
    if (putS s (n / 2 * l.area.toNat + (1 + from_ l)) (many l) (pad (text l) (many l))).2 ≠ 0 then ((putS s (n / 2 * l.area.toNat + (1 + from_ l)) (many l) (pad (text l) (many l))).1, brk l, (putS s (n / 2 * l.area.toNat + (1 + from_ l)) (many l) (pad (text l) (many l))).2)
    else ((putS s (n / 2 * l.area.toNat + (1 + from_ l)) (many l) (pad (text l) (many l))).1, { l with done := l.done ++ l.wait, wait := [] }, 0) from rfl)
  have HCE := Lib.hid (show checkE l = if l.broken then 21 else if l.ready then 0 else 13 from rfl)
  have HRV := Lib.hid (show RL (n / 2) l = .agg #[.int .i64 ((n / 2 : Nat) : Int), .int .i64 l.area, .int .u64 (l.gen : Int), .bool l.ready, .bool l.broken, .string (bs l.done), .string (bs l.wait)] from rfl)
  have HRD := Lib.hid (show ∀ q, RD0 q = .agg #[.string (Oct.bs q.last), .slice none 0 0, .bool q.on, .bool q.armed, .int .i64 q.syncs, .int .i64 q.cut] from fun q => rfl)
  have HMK := Lib.hid (fun s' l' x q' w' => RCom.mk (n := n) (s := s) (l := l) (s' := s') (l' := l') (x := x) (q' := q') (w := w) (w' := w'))
  have HSH := Lib.hid hs
  clear hs
  generalize hqh : n / 2 = qh at *
  have HQH := Lib.hid hqh
  clear hqh
  generalize hqq : canon s = q at *
  have HQ := Lib.hid hqq
  clear hqq
  unfold RC zeroL RCells zeroR at HS0
  rw [HRV.out, HRD.out]
  go_enter Tryz.func27, Tryz.ntmps27
  go_upto_region 1 with fail
  generalize ((((w.alloc (.cells #[.string (Oct.bs q.last), .slice none 0 0, .bool q.on, .bool q.armed, .int .i64 q.syncs, .int .i64 q.cut] 30)).alloc (.cells #[.int .i64 (qh : Int), .int .i64 l.area, .int .u64 (l.gen : Int), .bool l.ready, .bool l.broken, .string (bs l.done), .string (bs l.wait)] 35)).alloc (.cells #[.string ⟨#[]⟩, .slice none 0 0, .bool false, .bool false, .int .i64 0, .int .i64 0] 30)).alloc (.cells #[.int .i64 0, .int .i64 0, .int .u64 0, .bool false, .bool false, .string ⟨#[]⟩, .string ⟨#[]⟩] 35)) = w1 at *
  generalize hzz : w.heap.size = z at *
  have HZZ := Lib.hid hzz
  clear hzz
  have n1 : ¬ z = z + 2 := by omega
  have n2 : ¬ z = z + 3 := by omega
  have n3 : ¬ z + 1 = z + 2 := by omega
  have n4 : ¬ z + 1 = z + 3 := by omega
  have n5 : ¬ z + 2 = z := by omega
  have n6 : ¬ z + 3 = z := by omega
  have n7 : ¬ z + 2 = z + 1 := by omega
  have n8 : ¬ z + 3 = z + 1 := by omega
  have n9 : ¬ z + 2 = z + 3 := by omega
  have n0 : ¬ z + 3 = z + 2 := by omega
  obtain ⟨⟨y0, y1, y2, y3, y4, y5⟩, ⟨c0, c1, c2, c3, c4, c5, c6⟩, ⟨u0, u1, u2, u3, u4, u5⟩, ⟨v0, v1, v2, v3, v4, v5, v6⟩, yf, cf, uf, vf⟩ := six_facts HS0.out
  rcases Bool.eq_false_or_eq_true l.broken with hb | hb
  · rw [hb] at HCE HRV c4
    have hce : checkE l = 21 := HCE.out
    have HE := Lib.hid (show commitS s l qh = (s, l, 21) by rw [HAE.out, if_pos (by rw [hce]; decide), hce])
    clear hce hb
    go_wp2_with fail
    go_region
    all_goals
      go_wp2_with fail
      refine bodyPost_ret (v := .tuple #[RD0 q, RL qh l, .int .i64 21]) (by rw [HRV.out, HRD.out]; simp [results, Tryz.results27, go_sem, u0, u1, u2, u3, u4, u5, v0, v1, v2, v3, v4, v5, v6]) rfl ?_
      refine HMK.out _ _ _ _ _ HE.out HQ.out ?_
      have HB13 := below13 (b := z + 1 + 1) (c := z + 1 + 1 + 1) HS0.out.b (by have := HZZ.out; omega) (by have := HZZ.out; omega)
      unfold set6 set7 at HB13
      rw [HZZ.out] at HB13
      first
        | (with_reducible exact (HB13 _ _ _ _ _ _ _ _ _ _ _ _ _).1.drew)
        | (with_reducible exact (HB13 _ _ _ _ _ _ _ _ _ _ _ _ _).2.drew)
  rw [hb] at HCE HRV c4
  rcases (Bool.eq_false_or_eq_true l.ready).symm with hr | hr
  · rw [hr] at HCE HRV c3
    have hce : checkE l = 13 := HCE.out
    have HE := Lib.hid (show commitS s l qh = (s, l, 13) by rw [HAE.out, if_pos (by rw [hce]; decide), hce])
    clear hce hb hr
    go_wp2_with fail
    go_region
    all_goals
      go_wp2_with fail
      refine bodyPost_ret (v := .tuple #[RD0 q, RL qh l, .int .i64 13]) (by rw [HRV.out, HRD.out]; simp [results, Tryz.results27, go_sem, u0, u1, u2, u3, u4, u5, v0, v1, v2, v3, v4, v5, v6]) rfl ?_
      refine HMK.out _ _ _ _ _ HE.out HQ.out ?_
      have HB13 := below13 (b := z + 1 + 1) (c := z + 1 + 1 + 1) HS0.out.b (by have := HZZ.out; omega) (by have := HZZ.out; omega)
      unfold set6 set7 at HB13
      rw [HZZ.out] at HB13
      first
        | (with_reducible exact (HB13 _ _ _ _ _ _ _ _ _ _ _ _ _).1.drew)
        | (with_reducible exact (HB13 _ _ _ _ _ _ _ _ _ _ _ _ _).2.drew)
  rw [hr] at HCE HRV c3
  have hce : checkE l = 0 := HCE.out
  have HAE2 := Lib.hid (HAE.out.trans (if_neg (by rw [hce]; decide)))
  have hw : l.wait = [] := HSH.out.resolve_left (fun h => h hce)
  clear hce HAE HCE hr hb
  · have hw' := Sg.bs_eq_empty l.wait (by rw [hw]; rfl)
    have HE := Lib.hid (HAE2.out.trans (if_pos hw))
    clear hw
    go_wp2_with fail
    go_region
    all_goals
      go_wp2_with fail
      refine bodyPost_ret (v := .tuple #[RD0 q, RL qh l, .int .i64 0]) (by rw [HRV.out, HRD.out]; simp [results, Tryz.results27, go_sem, u0, u1, u2, u3, u4, u5, v0, v1, v2, v3, v4, v5, v6]) rfl ?_
      refine HMK.out _ _ _ _ _ HE.out HQ.out ?_
      have HB13 := below13 (b := z + 1 + 1) (c := z + 1 + 1 + 1) HS0.out.b (by have := HZZ.out; omega) (by have := HZZ.out; omega)
      unfold set6 set7 at HB13
      rw [HZZ.out] at HB13
      first
        | (with_reducible exact (HB13 _ _ _ _ _ _ _ _ _ _ _ _ _).1.drew)
        | (with_reducible exact (HB13 _ _ _ _ _ _ _ _ _ _ _ _ _).2.drew)
end Go.Proofs.YtjnjcjildiadgaaGreatDoor.Wl
