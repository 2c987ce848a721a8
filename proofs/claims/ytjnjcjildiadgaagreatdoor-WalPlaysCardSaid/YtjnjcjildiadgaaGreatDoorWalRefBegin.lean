/- The walk of the document's Begin, where it is refused. -/
import Derived.Test.YtjnjcjildiadgaaGreatDoorWalRefBox
import Derived.Test.YtjnjcjildiadgaaGreatDoorSegS
import Derived.Test.YtjnjcjildiadgaaGreatDoorWalP
namespace Go.Proofs.YtjnjcjildiadgaaGreatDoor.Wl
open Go Go.RowKit Frame Oct Disk
def RBeg (n : Nat) (s : DSt) (l : LSt) (img : List UInt8) (w : World) (e : Ending) (w' : World) : Prop :=
  e = .returned (.tuple #[RD0 (canon (beginS s l (n / 2) img).1), RL (n / 2) (beginS s l (n / 2) img).2.1, .int .i64 (beginS s l (n / 2) img).2.2]) ∧ Below w.heap.size w w'
theorem RBeg.mk {n : Nat} {s s' : DSt} {l l' : LSt} {img : List UInt8} {x : Int} {q' : DSt} {w w' : World} (hb : beginS s l (n / 2) img = (s', l', x)) (hq : canon s' = q') (h : Below w.heap.size w w') : RBeg n s l img w (.returned (.tuple #[RD0 q', RL (n / 2) l', .int .i64 x])) w' := by
  unfold RBeg; rw [hb, ← hq]; exact ⟨rfl, h⟩
set_option maxRecDepth 100000 in
set_option maxHeartbeats 1600000 in
theorem rBegin_broken (n : Nat) (s : DSt) (l : LSt) (img : List UInt8) (hb : l.broken = true) (w : World) :
    Calls Tryz.prog 29 #[RD0 (canon s), RL (n / 2) l, .string (bs img)] w (RBeg n s l img w) := by
  have HS0 := Lib.hid (RcI.start (n / 2) (canon s) l w)
  have HRV := Lib.hid (show RL (n / 2) l = .agg #[.int .i64 ((n / 2 : Nat) : Int), .int .i64 l.area, .int .u64 (l.gen : Int), .bool l.ready, .bool l.broken, .string (bs l.done), .string (bs l.wait)] from rfl)
  have HRD := Lib.hid (show ∀ q, RD0 q = .agg #[.string (Oct.bs q.last), .slice none 0 0, .bool q.on, .bool q.armed, .int .i64 q.syncs, .int .i64 q.cut] from fun q => rfl)
  have HMK := Lib.hid (fun s' l' x q' w' => RBeg.mk (n := n) (s := s) (l := l) (img := img) (s' := s') (l' := l') (x := x) (q' := q') (w := w) (w' := w'))
  have HE := Lib.hid (show beginS s l (n / 2) img = (s, l, 21) from by
    have h1 : beginE l (n / 2) img = 21 := by unfold beginE; rw [if_pos hb]
    unfold beginS
    rw [h1, if_pos (by decide)])
  have HBK := Lib.hid hb
  clear hb
  generalize hqh : n / 2 = qh at *
  have HQH := Lib.hid hqh
  clear hqh
  generalize hqq : canon s = q at *
  have HQ := Lib.hid hqq
  clear hqq
  unfold RC zeroL RCells zeroR at HS0
  rw [HRV.out, HRD.out]
  go_enter Tryz.func29, Tryz.ntmps29
  go_upto_region 1 with fail
  generalize ((((w.alloc (.cells #[.string (Oct.bs q.last), .slice none 0 0, .bool q.on, .bool q.armed, .int .i64 q.syncs, .int .i64 q.cut] 30)).alloc (.cells #[.int .i64 (qh : Int), .int .i64 l.area, .int .u64 (l.gen : Int), .bool l.ready, .bool l.broken, .string (bs l.done), .string (bs l.wait)] 35)).alloc (.cells #[.string ⟨#[]⟩, .slice none 0 0, .bool false, .bool false, .int .i64 0, .int .i64 0] 30)).alloc (.cells #[.int .i64 0, .int .i64 0, .int .u64 0, .bool false, .bool false, .string ⟨#[]⟩, .string ⟨#[]⟩] 35)) = w1 at *
  generalize hzz : w.heap.size = z at *
  have HZZ := Lib.hid hzz
  clear hzz
  have n1 : ¬ z = z + 2 := by omega
  have n2 : ¬ z = z + 3 := by omega
  have n3 : ¬ z + 1 = z + 2 := by omega
  have n4 : ¬ z + 1 = z + 3 := by omega
  have n5 : ¬ z + 2 = z := by omega
  have n6 : ¬ z + 3 = z := by omega
  have n7 : ¬ z + 2 = z + 1 := by omega
  have n8 : ¬ z + 3 = z + 1 := by omega
  have n9 : ¬ z + 2 = z + 3 := by omega
  have n0 : ¬ z + 3 = z + 2 := by omega
  obtain ⟨⟨y0, y1, y2, y3, y4, y5⟩, ⟨c0, c1, c2, c3, c4, c5, c6⟩, ⟨u0, u1, u2, u3, u4, u5⟩, ⟨v0, v1, v2, v3, v4, v5, v6⟩, yf, cf, uf, vf⟩ := six_facts HS0.out
  rw [HBK.out] at c4 HRV
  have HB13 := below13 (b := z + 1 + 1) (c := z + 1 + 1 + 1) HS0.out.b (by have := HZZ.out; omega) (by have := HZZ.out; omega)
  unfold set6 set7 at HB13
  rw [HZZ.out] at HB13
  replace HB13 := Lib.hid HB13
  go_wp2_with fail
  go_region
  all_goals
    go_wp2_with fail
    refine bodyPost_ret (v := .tuple #[RD0 q, RL qh l, .int .i64 21]) (by rw [HRV.out, HRD.out]; simp [results, Tryz.results29, go_sem, u0, u1, u2, u3, u4, u5, v0, v1, v2, v3, v4, v5, v6]) rfl ?_
    refine HMK.out _ _ _ _ _ HE.out HQ.out ?_
    first
      | (with_reducible exact (HB13.out _ _ _ _ _ _ _ _ _ _ _ _ _).1.drew)
      | (with_reducible exact (HB13.out _ _ _ _ _ _ _ _ _ _ _ _ _).2.drew)
set_option maxRecDepth 100000 in
set_option maxHeartbeats 3200000 in
theorem rBegin_err (n : Nat) (s : DSt) (l : LSt) (img : List UInt8) (h4 : 4 ≤ n) (hn : n ≤ 4096) (hb : l.broken = false) (he : beginE l (n / 2) img ≠ 0) (w : World) :
    Calls Tryz.prog 29 #[RD0 (canon s), RL (n / 2) l, .string (bs img)] w (RBeg n s l img w) := by
  have HS0 := Lib.hid (RcI.start (n / 2) (canon s) l w)
  have HRV := Lib.hid (show RL (n / 2) l = .agg #[.int .i64 ((n / 2 : Nat) : Int), .int .i64 l.area, .int .u64 (l.gen : Int), .bool l.ready, .bool l.broken, .string (bs l.done), .string (bs l.wait)] from rfl)
  have HRD := Lib.hid (show ∀ q, RD0 q = .agg #[.string (Oct.bs q.last), .slice none 0 0, .bool q.on, .bool q.armed, .int .i64 q.syncs, .int .i64 q.cut] from fun q => rfl)
  have HMK := Lib.hid (fun s' l' x q' w' => RBeg.mk (n := n) (s := s) (l := l) (img := img) (s' := s') (l' := l') (x := x) (q' := q') (w := w) (w' := w'))
  have HEX := Lib.hid (show beginS s l (n / 2) img = (s, l, beginE l (n / 2) img) from begin_0 he)
  have HBE := Lib.hid (show beginE l (n / 2) img = if (Sg.bytes [img]).2 ≠ 0 then (Sg.bytes [img]).2 else if 64 * (n / 2 - 1) < (Sg.bytes [img]).1.length then 17 else if l.gen = 18446744073709551615 then 18 else 0 by
    unfold beginE; rw [hb, if_neg (by decide)])
  have HBK := Lib.hid hb
  have HNE := Lib.hid he
  have hq2 : 2 ≤ n / 2 ∧ n / 2 ≤ 2048 := by omega
  clear hb he hn h4
  generalize hqh : n / 2 = qh at *
  have HQH := Lib.hid hqh
  clear hqh
  generalize hqq : canon s = q at *
  have HQ := Lib.hid hqq
  clear hqq
  unfold RC zeroL RCells zeroR at HS0
  rw [HRV.out, HRD.out]
  go_enter Tryz.func29, Tryz.ntmps29
  go_upto_region 1 with fail
  generalize ((((w.alloc (.cells #[.string (Oct.bs q.last), .slice none 0 0, .bool q.on, .bool q.armed, .int .i64 q.syncs, .int .i64 q.cut] 30)).alloc (.cells #[.int .i64 (qh : Int), .int .i64 l.area, .int .u64 (l.gen : Int), .bool l.ready, .bool l.broken, .string (bs l.done), .string (bs l.wait)] 35)).alloc (.cells #[.string ⟨#[]⟩, .slice none 0 0, .bool false, .bool false, .int .i64 0, .int .i64 0] 30)).alloc (.cells #[.int .i64 0, .int .i64 0, .int .u64 0, .bool false, .bool false, .string ⟨#[]⟩, .string ⟨#[]⟩] 35)) = w1 at *
  generalize hzz : w.heap.size = z at *
  have HZZ := Lib.hid hzz
  clear hzz
  have n1 : ¬ z = z + 2 := by omega
  have n2 : ¬ z = z + 3 := by omega
  have n3 : ¬ z + 1 = z + 2 := by omega
  have n4 : ¬ z + 1 = z + 3 := by omega
  have n5 : ¬ z + 2 = z := by omega
  have n6 : ¬ z + 3 = z := by omega
  have n7 : ¬ z + 2 = z + 1 := by omega
  have n8 : ¬ z + 3 = z + 1 := by omega
  have n9 : ¬ z + 2 = z + 3 := by omega
  have n0 : ¬ z + 3 = z + 2 := by omega
  have hc4 := (six_facts HS0.out).2.1.2.2.2.2.1
  rw [HBK.out] at hc4
  have HN1 := Lib.hid (Has.new w1 #[.string (bs img)] 9)
  have HB1 := Lib.hid (show Below w1.heap.size w1 (w1.alloc (.cells #[.string (bs img)] 9)) from (Below.refl _ _).alloc (Nat.le_refl _) _)
  have HBY := Lib.hid (show Calls Tryz.prog 50 #[.slice (some ⟨w1.heap.size, 0, none⟩) 1 1] (w1.alloc (.cells #[.string (bs img)] 9)) _ from Sg.refBytes_calls (some ⟨w1.heap.size, 0, none⟩) 1 [img] (by simp) _ (Sg.SS.one HN1.out))
  go_wp2_with fail
  refine HBY.out.mono ?_
  rintro e w2 ⟨rfl, b2⟩
  have HS2 := Lib.hid (HS0.out.below (bthen HB1.out b2))
  clear b2 HBY HN1 HB1 hc4
  obtain ⟨⟨y0, y1, y2, y3, y4, y5⟩, ⟨c0, c1, c2, c3, c4, c5, c6⟩, ⟨u0, u1, u2, u3, u4, u5⟩, ⟨v0, v1, v2, v3, v4, v5, v6⟩, yf, cf, uf, vf⟩ := six_facts HS2.out
  rw [HBK.out] at HRV c4
  have HB13 := below13 (b := z + 1 + 1) (c := z + 1 + 1 + 1) HS2.out.b (by have := HZZ.out; omega) (by have := HZZ.out; omega)
  unfold set6 set7 at HB13
  rw [HZZ.out] at HB13
  replace HB13 := Lib.hid HB13
  have g1 : IntKind.i64.wrap ((qh : Int) - 1) = (qh : Int) - 1 := IntWalk.i64_in _ (by omega)
  have g2 : IntKind.i64.wrap (64 * ((qh : Int) - 1)) = 64 * ((qh : Int) - 1) := IntWalk.i64_in _ (by omega)
  have hrow : ((64 * (qh - 1) : Nat) : Int) = 64 * ((qh : Int) - 1) := by omega
  have HROW := Lib.hid hrow
  clear hrow
  generalize Sg.bytes [img] = by_ at *
  obtain ⟨b, e⟩ := by_
  simp only at HBE
  have hzb : (bs b).size = b.length := bs_size _
  by_cases he : e ≠ 0
  · have he' : (e == 0) = false := by simpa using he
    have he'' : (e != 0) = true := by simpa using he
    have HE := Lib.hid (HEX.out.trans (by rw [HBE.out, if_pos he]))
    clear he
    go_wp2_with fail
    go_region
    all_goals
      go_wp2_with fail
      refine bodyPost_ret (v := .tuple #[RD0 q, RL qh l, .int .i64 e]) (by rw [HRV.out, HRD.out]; simp [results, Tryz.results29, go_sem, u0, u1, u2, u3, u4, u5, v0, v1, v2, v3, v4, v5, v6]) rfl ?_
      refine HMK.out _ _ _ _ _ HE.out HQ.out ?_
      first
        | (with_reducible exact (HB13.out _ _ _ _ _ _ _ _ _ _ _ _ _).1.drew)
        | (with_reducible exact (HB13.out _ _ _ _ _ _ _ _ _ _ _ _ _).2.drew)
  obtain rfl : e = 0 := by omega
  by_cases hsp : 64 * (qh - 1) < b.length
  · have HE := Lib.hid (HEX.out.trans (by rw [HBE.out, if_neg (by decide), if_pos hsp]))
    have hsp' : 64 * ((qh : Int) - 1) < (b.length : Int) := by have := HROW.out; omega
    clear hsp he
    go_wp2_with fail
    go_region
    all_goals
      go_wp2_with fail
      refine bodyPost_ret (v := .tuple #[RD0 q, RL qh l, .int .i64 17]) (by rw [HRV.out, HRD.out]; simp [results, Tryz.results29, go_sem, u0, u1, u2, u3, u4, u5, v0, v1, v2, v3, v4, v5, v6]) rfl ?_
      refine HMK.out _ _ _ _ _ HE.out HQ.out ?_
      first
        | (with_reducible exact (HB13.out _ _ _ _ _ _ _ _ _ _ _ _ _).1.drew)
        | (with_reducible exact (HB13.out _ _ _ _ _ _ _ _ _ _ _ _ _).2.drew)
  by_cases hge : l.gen = 18446744073709551615
  · have HE := Lib.hid (HEX.out.trans (by rw [HBE.out, if_neg (by decide), if_neg hsp, if_pos hge]))
    have hg' : ((l.gen : Int) == 18446744073709551615) = true := by simp [hge]
    have hsp' : ¬ 64 * ((qh : Int) - 1) < (b.length : Int) := by have := HROW.out; omega
    clear hsp he hge
    go_wp2_with fail
    go_region
    all_goals
      go_wp2_with fail
      refine bodyPost_ret (v := .tuple #[RD0 q, RL qh l, .int .i64 18]) (by rw [HRV.out, HRD.out]; simp [results, Tryz.results29, go_sem, u0, u1, u2, u3, u4, u5, v0, v1, v2, v3, v4, v5, v6]) rfl ?_
      refine HMK.out _ _ _ _ _ HE.out HQ.out ?_
      first
        | (with_reducible exact (HB13.out _ _ _ _ _ _ _ _ _ _ _ _ _).1.drew)
        | (with_reducible exact (HB13.out _ _ _ _ _ _ _ _ _ _ _ _ _).2.drew)
  · exact absurd (HBE.out.trans (by rw [if_neg (by decide), if_neg hsp, if_neg hge])) HNE.out
end Go.Proofs.YtjnjcjildiadgaaGreatDoor.Wl
